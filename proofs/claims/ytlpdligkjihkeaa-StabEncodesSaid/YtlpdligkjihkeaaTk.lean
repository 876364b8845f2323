/- (*Index).walk, walked: a recursive iterator over the spans that overlap s. -/
import Derived.Test.YtlpdligkjihkeaaTj
import Derived.RangeFuncKeeps
import Derived.RangeFuncBound
import Derived.RangeFuncLeaves
import Derived.Shelf.Abstract
import Derived.Shelf.RegionOpen
import Derived.OwnWalkIn
import Derived.TacticsInMore
import Derived.Sort.QuietTacIn
set_option linter.unusedVariables false
set_option linter.unusedSimpArgs false
namespace Go.Proofs.Ytlpdligkjihkeaa.Tb
open Go.RowKit Go.Shelf
attribute [local go_sem] Oper.semAt_some

theorem roomN {F : Fence} (hd : F.depth = none) (k : Nat) : F.room k := fun d h => by rw [hd] at h; cases h
theorem roundAny {F : Fence} (hd : F.depth = none) {m m' : Nat} {P : Program} {l : Nat} {f : FuncId} {tmps : Array Value} {assign body : Code} {w : World} {R : Ending → World → Prop}
    (h : RoundIn F m P l f tmps assign body w R) : RoundIn F m' P l f tmps assign body w R := ⟨h.1, fun c cs _ => h.2 c cs (roomN hd _)⟩
theorem yieldAny {F : Fence} (hd : F.depth = none) {m : Nat} (m' : Nat) {P : Program} {l : Nat} {args : Array Value} {W : World} {R : Ending → World → Prop} (h : YieldAt F m P l args W R) : YieldAt F m' P l args W R := by
  obtain ⟨fn, tmps, assign, body, hy, hR⟩ := h
  exact ⟨fn, tmps, assign, body, hy, roundAny hd hR⟩

/-- What a round keeps: all below n₀, and every box of a span. -/
def Kp (n₀ : Nat) (W W' : World) : Prop := Below n₀ W W' ∧ ∀ (k : Nat) (cs : Array Value) (fr : Nat × Nat), W.heap[k]? = some (.cells cs 35 fr) → W'.heap[k]? = some (.cells cs 35 fr)
theorem Kp.refl (n₀ : Nat) (W : World) : Kp n₀ W W := ⟨Below.refl _ _, fun _ _ _ h => h⟩
theorem Kp.trans {n₀ : Nat} {A B C : World} (h : Kp n₀ A B) (k : Kp n₀ B C) : Kp n₀ A C := ⟨h.1.trans k.1, fun i cs fr hc => k.2 i cs fr (h.2 i cs fr hc)⟩
theorem Kp.alloc {n₀ : Nat} {A B : World} (h : Kp n₀ A B) (hn : n₀ ≤ B.heap.size) (o : Obj) : Kp n₀ A (B.alloc o) :=
  ⟨h.1.alloc hn o, fun i cs fr hc => by
    have := h.2 i cs fr hc
    exact (heap_alloc_old _ _ (blk_lt this)).trans this⟩
theorem Kp.drewN {n₀ : Nat} {A B : World} (h : Kp n₀ A B) (n : Nat) : Kp n₀ A (B.drewN n) := ⟨⟨h.1.os, h.1.tape, h.1.output, h.1.size, h.1.block⟩, h.2⟩
theorem Kp.drew {n₀ : Nat} {A B : World} (h : Kp n₀ A B) : Kp n₀ A B.drew := ⟨⟨h.1.os, h.1.tape, h.1.output, h.1.size, h.1.block⟩, h.2⟩
theorem grown_drewN (W : World) (n : Nat) : W.grownBy (W.drewN n) none := ⟨rfl, rfl, rfl, Nat.le_refl _, fun _ _ _ => rfl⟩

/-- The cells of an index, as the walk reads them. -/
structure IxW (W : World) (n₀ p bs bo be n cs co ce : Nat) (on : Nat → Nat) (bg en E : Nat → Int) : Prop where
  k0 : W.cell? ⟨p, 0, none⟩ = some (.slice (some ⟨bs, 0, none⟩) n cs)
  k1 : W.cell? ⟨p, 1, none⟩ = some (.slice (some ⟨bo, 0, none⟩) n co)
  k2 : W.cell? ⟨p, 2, none⟩ = some (.slice (some ⟨be, 0, none⟩) n ce)
  c0 : ∀ j, j < n → W.cell? ⟨bs, j * 2, none⟩ = some (.int .i64 (bg j)) ∧ W.cell? ⟨bs, j * 2 + 1, none⟩ = some (.int .i64 (en j))
  c1 : ∀ j, j < n → W.cell? ⟨bo, j, none⟩ = some (.int .i64 (on j : Nat))
  c2 : ∀ j, j < n → W.cell? ⟨be, j, none⟩ = some (.int .i64 (E j))
  lp : p < n₀
  ls : bs < n₀
  lo : bo < n₀
  le : be < n₀
theorem IxW.below {W W' : World} {n₀ p bs bo be n cs co ce : Nat} {on : Nat → Nat} {bg en E : Nat → Int} (h : IxW W n₀ p bs bo be n cs co ce on bg en E) (hb : Below n₀ W W') : IxW W' n₀ p bs bo be n cs co ce on bg en E where
  k0 := (hb.cell (p := ⟨p, 0, none⟩) h.lp).trans h.k0
  k1 := (hb.cell (p := ⟨p, 1, none⟩) h.lp).trans h.k1
  k2 := (hb.cell (p := ⟨p, 2, none⟩) h.lp).trans h.k2
  c0 := fun j hj => ⟨(hb.cell (p := ⟨bs, _, none⟩) h.ls).trans (h.c0 j hj).1, (hb.cell (p := ⟨bs, _, none⟩) h.ls).trans (h.c0 j hj).2⟩
  c1 := fun j hj => (hb.cell (p := ⟨bo, _, none⟩) h.lo).trans (h.c1 j hj)
  c2 := fun j hj => (hb.cell (p := ⟨be, _, none⟩) h.le).trans (h.c2 j hj)
  lp := h.lp
  ls := h.ls
  lo := h.lo
  le := h.le

/-- Which numbers of a part overlap s. -/
def hitN (bg en : Nat → Int) (s1 s2 : Int) (i : Nat) : Bool := decide (bg i < s2 ∧ s1 < en i)
def hits {n : Nat} (onF : Nat → Fin n) (bg en : Nat → Int) (s1 s2 : Int) (a b : Nat) : List (Fin n) := ((List.range' a (b - a)).map onF).filter fun x => hitN bg en s1 s2 x.val
theorem hits_nil {n : Nat} (onF : Nat → Fin n) (bg en : Nat → Int) (s1 s2 : Int) (a b : Nat) (h : b ≤ a) : hits onF bg en s1 s2 a b = [] := by simp [hits, show b - a = 0 by omega]
theorem hits_split {n : Nat} (onF : Nat → Fin n) (bg en : Nat → Int) (s1 s2 : Int) (a m b : Nat) (h1 : a ≤ m) (h2 : m < b) :
    hits onF bg en s1 s2 a b = hits onF bg en s1 s2 a m ++ ((if hitN bg en s1 s2 (onF m).val then [onF m] else []) ++ hits onF bg en s1 s2 (m + 1) b) := by
  unfold hits
  have e : List.range' a (b - a) = List.range' a (m - a) ++ (m :: List.range' (m + 1) (b - (m + 1))) := by
    have := List.range'_append (s := a) (m := m - a) (n := b - m) (step := 1)
    rw [show a + 1 * (m - a) = m by omega, show m - a + (b - m) = b - a by omega] at this
    rw [← this, show b - m = (b - (m + 1)) + 1 by omega, List.range'_succ]
  rw [e, List.map_append, List.filter_append, List.map_cons, List.filter_cons]
  congr 1
  split <;> simp
theorem hits_none {n : Nat} (onF : Nat → Fin n) (bg en : Nat → Int) (s1 s2 : Int) (a b : Nat) (h : ∀ i, a ≤ i → i < b → hitN bg en s1 s2 (onF i).val = false) : hits onF bg en s1 s2 a b = [] := by
  unfold hits
  rw [List.filter_eq_nil_iff]
  intro x hx
  rw [List.mem_map] at hx
  obtain ⟨i, hi, rfl⟩ := hx
  rw [List.mem_range'_1] at hi
  simp [h i hi.1 (by omega)]

structure Two (A B : Prop) (bb : Bool) : Prop where
  t : bb = true → A
  f : bb = false → B
theorem yield_two {A B : Prop} {e : Ending} (h : (e = .returned (.bool true) ∧ A) ∨ (e = .returned (.bool false) ∧ B)) : ∃ bb : Bool, e = .returned (.bool bb) ∧ Two A B bb := by
  rcases h with ⟨rfl, h⟩ | ⟨rfl, h⟩
  · exact ⟨true, rfl, fun _ => h, fun h => by cases h⟩
  · exact ⟨false, rfl, (fun h => by cases h), fun _ => h⟩

set_option maxRecDepth 1000000 in
set_option maxHeartbeats 8000000 in
theorem walkW (l n₀ N B0 p bs bo be n cs co ce : Nat) (onF : Nat → Fin n) (bg en : Nat → Int) (E : Array Int) (s1 s2 : Int) (hn : n ≤ 1000000)
    (hasc : ∀ i j, i < j → j < n → bg (onF i).val ≤ bg (onF j).val) (J Jx : List (Fin n) → World → Prop) (hJ : AbidesFrom B0 J)
    (hY : ∀ m pre (x : Fin n) W, J pre W → pre.length < N → YieldAt Fence.wide m Try.prog l #[.int .i64 (x.val : Int)] W fun e W' =>
      (e = .returned (.bool true) ∧ J (pre ++ [x]) W' ∧ Kp n₀ W W') ∨ (e = .returned (.bool false) ∧ Jx (pre ++ [x]) W')) :
    ∀ (k nn a b : Nat) (pre : List (Fin n)) (W : World), b - a ≤ k → a ≤ b → b ≤ n → n₀ ≤ W.heap.size → IxW W n₀ p bs bo be n cs co ce (fun i => (onF i).val) bg en (fun i => E[i]!) → Good (fun i => en (onF i).val) E a b → J pre W →
      pre.length + (hits onF bg en s1 s2 a b).length ≤ N →
      CallsIn Fence.wide nn Try.prog 60 #[.pointer (some ⟨p, 0, none⟩), .int .i64 a, .int .i64 b, SP s1 s2, .func (.yield l) #[] #[]] W fun e W' =>
        (e = .returned (.bool true) ∧ J (pre ++ hits onF bg en s1 s2 a b) W' ∧ Kp n₀ W W') ∨ (e = .returned (.bool false) ∧ ∃ q, q <+: hits onF bg en s1 s2 a b ∧ Jx (pre ++ q) W') := by
  intro k
  induction k with
  | zero =>
    intro nn a b pre W hk hab hb hn0 I G hj hN
    obtain rfl : a = b := by omega
    have hA : J pre (W.alloc (SB s1 s2)) := hJ _ _ _ none hj (World.grownBy_alloc W _ none) (fun r e => by cases e)
    rw [hits_nil _ _ _ _ _ _ _ (Nat.le_refl _)]
    have HA := Lib.hid hA
    have HK := Lib.hid ((Kp.refl n₀ W).alloc hn0 (SB s1 s2))
    clear hA hj hN I G hY hJ
    refine callsIn_of_wp Try.func60 rfl trivial ?_ rfl
    simp only [Try.ntmps60, List.size_toArray, List.length_cons, List.length_nil, Nat.reduceAdd, Nat.reduceSub, Array.replicate_succ, Array.replicate_zero, List.push_toArray, List.append_toArray, List.nil_append, List.cons_append]
    gi_wp2
    go_ret
    exact .inl ⟨rfl, by rw [List.append_nil]; exact HA.out, HK.out⟩
  | succ k ih =>
    intro nn a b pre W hk hab hb hn0 I G hj hN
    have hA : J pre (W.alloc (SB s1 s2)) := hJ _ _ _ none hj (World.grownBy_alloc W _ none) (fun r e => by cases e)
    have KA : Kp n₀ W (W.alloc (SB s1 s2)) := (Kp.refl n₀ W).alloc hn0 (SB s1 s2)
    by_cases hE : a = b
    · subst hE
      rw [hits_nil _ _ _ _ _ _ _ (Nat.le_refl _)]
      have HA := Lib.hid hA
      have HK := Lib.hid KA
      clear hA KA hj hN I G hY hJ ih
      refine callsIn_of_wp Try.func60 rfl trivial ?_ rfl
      simp only [Try.ntmps60, List.size_toArray, List.length_cons, List.length_nil, Nat.reduceAdd, Nat.reduceSub, Array.replicate_succ, Array.replicate_zero, List.push_toArray, List.append_toArray, List.nil_append, List.cons_append]
      gi_wp2
      go_ret
      exact .inl ⟨rfl, by rw [List.append_nil]; exact HA.out, HK.out⟩
    have hlt : a < b := by omega
    have t1 : ((a : Int) == (b : Int)) = false := by rw [beq_eq_false_iff_ne]; omega
    obtain ⟨m, hm⟩ : ∃ m, m = (a + b) / 2 := ⟨_, rfl⟩
    have em : ((a : Int) + (b : Int)) / 2 = (m : Int) := by omega
    have hm1 : a ≤ m := by omega
    have hm2 : m < b := by omega
    obtain ⟨G0, G1, G2⟩ := G.open_ hlt
    rw [← hm] at G0 G1 G2
    clear hm hE
    obtain ⟨ev, hev⟩ : ∃ e, e = E[m]! := ⟨_, rfl⟩
    rw [← hev] at G0
    have I1 := I.below KA.1
    have k0 := I1.k0
    have k1 := I1.k1
    have k2 := I1.k2
    have k3 := I1.c2 m (by omega)
    rw [← hev] at k3
    have i1 : (0 : Int) ≤ (m : Int) := by omega
    have i2 : (m : Int) < (n : Int) := by omega
    have hb0 : (W.alloc (SB s1 s2)).heap[W.heap.size]? = some (SB s1 s2) := heap_alloc_new W _
    have hb1 : (W.alloc (SB s1 s2)).cell? ⟨W.heap.size, 0, none⟩ = some (.int .i64 s1) := by rw [blk_cell hb0]; rfl
    have hb2 : (W.alloc (SB s1 s2)).cell? ⟨W.heap.size, 1, none⟩ = some (.int .i64 s2) := by rw [blk_cell hb0]; rfl
    by_cases hle : ev ≤ s1
    · rw [hits_none _ _ _ _ _ _ _ (fun i x1 x2 => decide_eq_false (by have := G0 i x1 x2; omega))]
      have HA := Lib.hid hA
      have HK := Lib.hid KA
      have HI := Lib.hid I1
      clear hA KA hj hN I I1 G G0 G1 G2 hY ih hb0 hev
      have HJ := Lib.hid hJ
      clear hJ
      refine callsIn_of_wp Try.func60 rfl trivial ?_ rfl
      simp only [Try.ntmps60, List.size_toArray, List.length_cons, List.length_nil, Nat.reduceAdd, Nat.reduceSub, Array.replicate_succ, Array.replicate_zero, List.push_toArray, List.append_toArray, List.nil_append, List.cons_append]
      gi_wp2
      (try rw [em])
      clear em
      gi_quiet_th (fail)
      gi_wp2
      go_ret
      exact .inl ⟨rfl, by rw [List.append_nil]; exact HJ.out _ _ _ none HA.out (grown_drewN _ nq) (fun r e => by cases e), HK.out.drewN nq⟩
    · have hgt : s1 < ev := by omega
      have dr : ∀ pre W (q : Nat), J pre W → J pre (W.drewN q) := fun pre W q h => hJ _ _ _ none h (grown_drewN _ q) (fun r e => by cases e)
      have IH1 : ∀ q : Nat, _ := fun q => Lib.hid (ih (nn - 1) a m pre ((W.alloc (SB s1 s2)).drewN q) (by omega) (by omega) (by omega) (by simp; omega) (I1.below (bdrewN (Below.refl _ _) q)) G1 (dr _ _ q hA) (by rw [hits_split _ _ _ _ _ a m b hm1 hm2] at hN; simp at hN; omega))
      have HIH1 := Lib.hid IH1
      have HK := Lib.hid KA
      have HI := Lib.hid I1
      have HN := Lib.hid hN
      have HJ := Lib.hid hJ
      have HDR := Lib.hid dr
      have HY := Lib.hid hY
      have HIH := Lib.hid ih
      have HG2 := Lib.hid G2
      have HB0 := Lib.hid hb0
      have HASC := Lib.hid hasc
      clear IH1 KA I I1 hN hJ dr hY ih G G0 G1 G2 hb0 hA hj hev hasc
      refine callsIn_of_wp Try.func60 rfl trivial ?_ rfl
      simp only [Try.ntmps60, List.size_toArray, List.length_cons, List.length_nil, Nat.reduceAdd, Nat.reduceSub, Array.replicate_succ, Array.replicate_zero, List.push_toArray, List.append_toArray, List.nil_append, List.cons_append]
      gi_wp2
      (try rw [em])
      clear em
      gi_quiet_th (fail)
      gi_wp2_with fail
      refine ⟨trivial, fun h => (by cases h), ?_⟩
      refine (HIH1.out nq).out.mono ?_
      clear HIH1
      rintro e W1 (⟨rfl, hJ1, hK1⟩ | ⟨rfl, q, hq, hx1⟩)
      · have hb3 := hK1.2 _ _ _ HB0.out
        have KW := (HK.out.drewN nq).trans hK1
        have I2 := HI.out.below (((Kp.refl n₀ _).drewN nq).trans hK1).1
        have hsz := KW.1.size
        have q0 := I2.k0
        have q1 := I2.k1
        have q2 := I2.c1 m (by omega)
        have hlt3 := (onF m).isLt
        obtain ⟨q3, q4⟩ := I2.c0 (onF m).val hlt3
        obtain ⟨x, hx⟩ : ∃ x, x = (onF m).val := ⟨_, rfl⟩
        obtain ⟨bx, hbx⟩ : ∃ x, x = bg (onF m).val := ⟨_, rfl⟩
        obtain ⟨ex, hex⟩ : ∃ x, x = en (onF m).val := ⟨_, rfl⟩
        rw [← hbx] at q3
        rw [← hex] at q4
        rw [← hx] at q2 q3 q4 hlt3
        have b1 : W1.cell? ⟨W.heap.size, 0, none⟩ = some (.int .i64 s1) := by rw [blk_cell hb3]; rfl
        have b2 : W1.cell? ⟨W.heap.size, 1, none⟩ = some (.int .i64 s2) := by rw [blk_cell hb3]; rfl
        have i3 : (0 : Int) ≤ (x : Int) := by omega
        have i4 : (x : Int) < (n : Int) := by omega
        have HX := Lib.hid hx
        have HBX := Lib.hid hbx
        have HEX := Lib.hid hex
        have HKW := Lib.hid KW
        have HI2 := Lib.hid I2
        have HJ1 := Lib.hid hJ1
        have HB3 := Lib.hid hb3
        clear hx hbx hex KW I2 hJ1 hK1 hb3 k0 k1 k2 k3 hb1 hb2
        by_cases hc : s2 ≤ bx
        · gi_wp2
          gi_quiet_th (fail)
          gi_wp2
          go_ret
          refine .inl ⟨rfl, ?_, HKW.out.drewN nq⟩
          have e1 : hitN bg en s1 s2 (onF m).val = false := decide_eq_false (by rw [← HBX.out]; omega)
          have e2 : hits onF bg en s1 s2 (m + 1) b = [] := hits_none _ _ _ _ _ _ _ fun i x1 x2 => decide_eq_false (by have := HASC.out m i (by omega) (by omega); have := HBX.out; omega)
          rw [hits_split _ _ _ _ _ a m b hm1 hm2, e1, e2, if_neg (by simp), List.append_nil, List.append_nil]
          exact HDR.out _ _ nq HJ1.out
        · have hsl : (pre ++ hits onF bg en s1 s2 a m).length + (if hitN bg en s1 s2 (onF m).val then [onF m] else []).length + (hits onF bg en s1 s2 (m + 1) b).length ≤ N := by
            have := HN.out
            rw [hits_split _ _ _ _ _ a m b hm1 hm2] at this
            simp only [List.length_append] at this ⊢
            omega
          have HSL := Lib.hid hsl
          clear hsl
          by_cases hd : s1 < ex
          · have ht : hitN bg en s1 s2 (onF m).val = true := decide_eq_true (by rw [← HBX.out, ← HEX.out]; omega)
            have HT := Lib.hid ht
            have hlen : (pre ++ hits onF bg en s1 s2 a m).length < N := by
              have := HSL.out
              rw [ht, if_pos rfl] at this
              simp only [List.length_singleton] at this
              omega
            have HL := Lib.hid hlen
            clear ht hlen
            gi_wp2
            gi_quiet_th (fail)
            have HJ2 := Lib.hid (HDR.out _ _ nq HJ1.out)
            have HKW2 := Lib.hid (HKW.out.drewN nq)
            have HB32 : Hid ((W1.drewN nq).heap[W.heap.size]? = some (SB s1 s2)) := HB3.out
            have HI22 := Lib.hid (HI2.out.below (bdrewN (Below.refl _ _) nq))
            have q0' : (W1.drewN nq).cell? ⟨p, 0, none⟩ = some (.slice (some ⟨bs, 0, none⟩) n cs) := q0
            have q4' : (W1.drewN nq).cell? ⟨bs, x * 2 + 1, none⟩ = some (.int .i64 ex) := q4
            have b1' : (W1.drewN nq).cell? ⟨W.heap.size, 0, none⟩ = some (.int .i64 s1) := b1
            clear HJ1 HKW HB3 HI2 q0 q1 q2 q3 q4 b1 b2
            generalize W1.drewN nq = W2 at *
            clear nq
            have hj3 : J (pre ++ hits onF bg en s1 s2 a m) W2.drew := HDR.out _ _ 1 HJ2.out
            obtain ⟨fn, tmps, assign, body, hy, hR⟩ := HY.out (nn - 1) _ (onF m) W2.drew hj3 HL.out
            rw [← HX.out] at hy
            clear hj3
            gi_wp2_with fail
            have mixed : Try.prog.follows .mixedOrders = true := by kernel_rfl
            gi_region_with_o (refine ⟨fun h => (by cases h), ?_⟩; refine hR.mono ?_; clear hR; rintro e W3 hp3; obtain ⟨bb, rfl, hq3⟩ := yield_two hp3)
            all_goals
              cases bb with
              | true =>
                obtain ⟨hJ3, hK3⟩ := hq3.t rfl
                have KW3 := HKW2.out.drew.trans hK3
                have hb5 := hK3.2 _ _ _ HB32.out
                have b3 : W3.cell? ⟨W.heap.size, 0, none⟩ = some (.int .i64 s1) := by rw [blk_cell hb5]; rfl
                have b4 : W3.cell? ⟨W.heap.size, 1, none⟩ = some (.int .i64 s2) := by rw [blk_cell hb5]; rfl
                have hsz3 := KW3.1.size
                have C := HIH.out (nn - 1) (m + 1) b (pre ++ hits onF bg en s1 s2 a m ++ [onF m]) W3 (by omega) (by omega) hb (by omega) (HI22.out.below ((Kp.refl n₀ W2).drew.trans hK3).1) HG2.out hJ3 (by
                  have := HSL.out
                  rw [HT.out, if_pos rfl] at this
                  simp only [List.length_append] at this ⊢
                  omega)
                rw [show ((m + 1 : Nat) : Int) = (m : Int) + 1 by omega] at C
                have HC := Lib.hid C
                have HKW3 := Lib.hid KW3
                clear C KW3 hb5 hJ3 hK3 hq3 q0' q4' b1'
                gi_wp2_with fail
                refine ⟨trivial, fun h => (by cases h), ?_⟩
                refine HC.out.mono ?_
                clear HC
                rintro e W4 (⟨rfl, hJ4, hK4⟩ | ⟨rfl, q, hq, hx4⟩)
                · gi_wp2
                  go_ret
                  refine .inl ⟨rfl, ?_, HKW3.out.trans hK4⟩
                  rw [hits_split _ _ _ _ _ a m b hm1 hm2, HT.out, if_pos rfl]
                  simpa [List.append_assoc] using hJ4
                · gi_wp2
                  go_ret
                  refine .inr ⟨rfl, hits onF bg en s1 s2 a m ++ ([onF m] ++ q), ?_, by simpa [List.append_assoc] using hx4⟩
                  rw [hits_split _ _ _ _ _ a m b hm1 hm2, HT.out, if_pos rfl, List.prefix_append_right_inj, List.prefix_append_right_inj]
                  exact hq
              | false =>
                have hx3 := Lib.hid (hq3.f rfl)
                clear hq3
                gi_wp2
                go_ret
                refine .inr ⟨rfl, hits onF bg en s1 s2 a m ++ [onF m], ?_, by have := hx3.out; simpa [List.append_assoc] using this⟩
                rw [hits_split _ _ _ _ _ a m b hm1 hm2, HT.out, if_pos rfl, List.prefix_append_right_inj]
                exact List.prefix_append _ _
          · have ht : hitN bg en s1 s2 (onF m).val = false := decide_eq_false (by rw [← HBX.out, ← HEX.out]; omega)
            have HT := Lib.hid ht
            clear ht
            have hd' : decide (ex > s1) = false := decide_eq_false (by omega)
            gi_wp2
            gi_quiet_th (fail)
            have HJ2 := Lib.hid (HDR.out _ _ nq HJ1.out)
            have HKW2 := Lib.hid (HKW.out.drewN nq)
            have HB32 : Hid ((W1.drewN nq).heap[W.heap.size]? = some (SB s1 s2)) := HB3.out
            have HI22 := Lib.hid (HI2.out.below (bdrewN (Below.refl _ _) nq))
            have q0' : (W1.drewN nq).cell? ⟨p, 0, none⟩ = some (.slice (some ⟨bs, 0, none⟩) n cs) := q0
            have q4' : (W1.drewN nq).cell? ⟨bs, x * 2 + 1, none⟩ = some (.int .i64 ex) := q4
            have b1' : (W1.drewN nq).cell? ⟨W.heap.size, 0, none⟩ = some (.int .i64 s1) := b1
            clear HJ1 HKW HB3 HI2 q0 q1 q2 q3 q4 b1 b2
            generalize W1.drewN nq = W2 at *
            clear nq
            have b2' : W2.cell? ⟨W.heap.size, 1, none⟩ = some (.int .i64 s2) := by rw [blk_cell HB32.out]; rfl
            have mixed : Try.prog.follows .mixedOrders = true := by kernel_rfl
            gi_wp2_with fail
            refine wpIn_region_quiet_lit rfl (by kernel_rfl) (by kernel_rfl) ?_
            repeat
              refine wpQuietIn_step (fun _ _ _ _ => trivial) (fun K hK => ?_)
              go_simp
              refine hK _ ?_
              clear hK K
            refine wpQuietIn_nil ?_
            intro _ hw'
            obtain ⟨nq, hw''⟩ := hw'
            subst hw''
            all_goals
              have hsz3 := HKW2.out.1.size
              have C := HIH.out (nn - 1) (m + 1) b (pre ++ hits onF bg en s1 s2 a m) ((W2.drewN nq)) (by omega) (by omega) hb (by simp; omega) (HI22.out.below (bdrewN (Below.refl _ _) nq)) HG2.out (HDR.out _ _ nq HJ2.out) (by
                have := HSL.out
                rw [HT.out, if_neg (by simp)] at this
                simp only [List.length_append, List.length_nil] at this ⊢
                omega)
              rw [show ((m + 1 : Nat) : Int) = (m : Int) + 1 by omega] at C
              have HC := Lib.hid C
              clear C
              gi_wp2_with fail
              refine ⟨trivial, fun h => (by cases h), ?_⟩
              refine HC.out.mono ?_
              clear HC
              rintro e W4 (⟨rfl, hJ4, hK4⟩ | ⟨rfl, q, hq, hx4⟩)
              · gi_wp2
                go_ret
                refine .inl ⟨rfl, ?_, (HKW2.out.drewN nq).trans hK4⟩
                rw [hits_split _ _ _ _ _ a m b hm1 hm2, HT.out, if_neg (by simp), List.nil_append]
                simpa [List.append_assoc] using hJ4
              · gi_wp2
                go_ret
                refine .inr ⟨rfl, hits onF bg en s1 s2 a m ++ q, ?_, by simpa [List.append_assoc] using hx4⟩
                rw [hits_split _ _ _ _ _ a m b hm1 hm2, HT.out, if_neg (by simp), List.nil_append, List.prefix_append_right_inj]
                exact hq
      · gi_wp2
        go_ret
        exact .inr ⟨rfl, q, hq.trans (by rw [hits_split _ _ _ _ _ a m b hm1 hm2]; exact List.prefix_append _ _), hx1⟩
end Go.Proofs.Ytlpdligkjihkeaa.Tb
