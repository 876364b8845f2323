/- (*Index).grow, walked: it writes the greatest ends of the parts. -/
import Derived.Test.YtlpdligkjihkeaaTd
import Derived.Deep.RegionHeld3
import Derived.WalkLawsBesides
set_option linter.unusedVariables false
set_option linter.unusedSimpArgs false
namespace Go.Proofs.Ytlpdligkjihkeaa.Tb
open Go.RowKit Go.Shelf Go.Lib Go.Sort Go.Proofs.Ytlpdligkjihkeaa.Sw

section
variable {α : Type} [Inhabited α] {enc : α → Value} {w0 W : World} {blk off : Nat} {dk : Array α}
theorem sw_set (h : SW enc w0 blk off dk W) (hblk : blk < w0.heap.size) (i : Nat) (x : α) (hi : i < dk.size) : SW enc w0 blk off (dk.setIfInBounds i x) (W.setCell ⟨blk, off + i, none⟩ (enc x)) := by
  obtain ⟨n, os, rfl⟩ := h
  refine ⟨n, os, ?_⟩
  unfold sortWorld
  rw [← putRow_grow enc (Sort.ahead w0 n) os blk off dk hblk, ← putRow_grow enc (Sort.ahead w0 n) os blk off _ hblk, putRow_set enc _ blk off dk i x hi]
theorem sw_block (h : SW enc w0 blk off dk W) (k : Nat) (hk : k < w0.heap.size) (hne : k ≠ blk) : W.heap[k]? = w0.heap[k]? := by
  obtain ⟨n, os, rfl⟩ := h
  unfold sortWorld
  rw [heap_grow_old _ _ (by rw [size_putRow]; exact hk)]
  simp only [putRow, mapBlock]
  rw [Array.getElem?_modify, if_neg (by omega)]
  rfl
theorem sw_other (h : SW enc w0 blk off dk W) {a : Addr} (hb : a.block < w0.heap.size) (hne : a.block ≠ blk) : W.cell? a = w0.cell? a := World.cell?_of_block (sw_block h a.block hb hne)
theorem sw_grown (h : SW enc w0 blk off dk W) : w0.grownBy W (some blk) := by
  refine ⟨?_, ?_, ?_, h.le, fun k hk hne => sw_block h k hk (by intro e; apply hne; rw [e])⟩ <;> (obtain ⟨n, os, rfl⟩ := h; rfl)
end

/-- Each middle of a part bounds the part. -/
def GoodF (v : Nat → Int) (E : Array Int) : Nat → Nat → Nat → Prop
  | 0, _, _ => True
  | k + 1, a, b => a < b → (∀ i, a ≤ i → i < b → v i ≤ E[(a + b) / 2]!) ∧ GoodF v E k a ((a + b) / 2) ∧ GoodF v E k ((a + b) / 2 + 1) b
def Good (v : Nat → Int) (E : Array Int) (a b : Nat) : Prop := ∀ k, GoodF v E k a b
theorem Good.nil {v : Nat → Int} {E : Array Int} {a b : Nat} (h : b ≤ a) : Good v E a b := by
  intro k
  cases k with
  | zero => trivial
  | succ k => intro h2; omega
theorem Good.node {v : Nat → Int} {E : Array Int} {a b : Nat} (h : ∀ i, a ≤ i → i < b → v i ≤ E[(a + b) / 2]!) (h1 : Good v E a ((a + b) / 2)) (h2 : Good v E ((a + b) / 2 + 1) b) : Good v E a b := by
  intro k
  cases k with
  | zero => trivial
  | succ k => exact fun _ => ⟨h, h1 k, h2 k⟩
theorem Good.open_ {v : Nat → Int} {E : Array Int} {a b : Nat} (h : Good v E a b) (hab : a < b) : (∀ i, a ≤ i → i < b → v i ≤ E[(a + b) / 2]!) ∧ Good v E a ((a + b) / 2) ∧ Good v E ((a + b) / 2 + 1) b :=
  ⟨(h 1 hab).1, fun k => (h (k + 1) hab).2.1, fun k => (h (k + 1) hab).2.2⟩
theorem goodF_congr {v : Nat → Int} {E E' : Array Int} : ∀ (k a b : Nat), (∀ i, a ≤ i → i < b → E'[i]! = E[i]!) → GoodF v E k a b → GoodF v E' k a b := by
  intro k
  induction k with
  | zero => intro a b _ _; trivial
  | succ k ih =>
    intro a b h g hab
    obtain ⟨g1, g2, g3⟩ := g hab
    exact ⟨by rw [h _ (by omega) (by omega)]; exact g1, ih _ _ (fun i h1 h2 => h i h1 (by omega)) g2, ih _ _ (fun i h1 h2 => h i (by omega) h2) g3⟩
theorem Good.congr {v : Nat → Int} {E E' : Array Int} {a b : Nat} (g : Good v E a b) (h : ∀ i, a ≤ i → i < b → E'[i]! = E[i]!) : Good v E' a b := fun k => goodF_congr k a b h (g k)

structure GrowP (v : Nat → Int) (a b : Nat) (d d' : Array Int) (r : Int) : Prop where
  size : d'.size = d.size
  out : ∀ i, i < a ∨ b ≤ i → d'[i]! = d[i]!
  good : Good v d' a b
  top : ∀ i, a ≤ i → i < b → v i ≤ r
  lo : 0 ≤ r
  hi : r ≤ 2147483647

abbrev EI : Int → Value := E id
set_option maxHeartbeats 8000000 in
set_option maxRecDepth 1000000 in
theorem grow_s (p bs bo be n cs co ce : Nat) (on : Nat → Nat) (en : Nat → Int) (d0 : Array Int) (w0 : World) (R : Row1 EI w0 be 0 d0) (hd0 : d0.size = n) (hn : n ≤ 1000000)
    (k0 : w0.cell? ⟨p, 0, none⟩ = some (.slice (some ⟨bs, 0, none⟩) n cs)) (k1 : w0.cell? ⟨p, 1, none⟩ = some (.slice (some ⟨bo, 0, none⟩) n co)) (k2 : w0.cell? ⟨p, 2, none⟩ = some (.slice (some ⟨be, 0, none⟩) n ce))
    (ko : ∀ i, i < n → w0.cell? ⟨bo, i, none⟩ = some (.int .i64 (on i))) (hon : ∀ i, i < n → on i < n) (ks : ∀ j, j < n → w0.cell? ⟨bs, j * 2 + 1, none⟩ = some (.int .i64 (en j))) (hen : ∀ j, j < n → 0 ≤ en j ∧ en j ≤ 2147483647)
    (n1 : p ≠ be) (n2 : bo ≠ be) (n3 : bs ≠ be) :
    ∀ (k a b : Nat) (d : Array Int) (w : World), d.size = n → SW EI w0 be 0 d w → a ≤ b → b ≤ n → b - a ≤ k →
    Calls Try.prog 49 #[.pointer (some ⟨p, 0, none⟩), .int .i64 a, .int .i64 b] w fun e w' => ∃ r d', e = .returned (.int .i64 r) ∧ GrowP (fun i => en (on i)) a b d d' r ∧ SW EI w0 be 0 d' w' := by
  intro k
  induction k with
  | zero =>
    intro a b d w hd S hab hb hk
    obtain rfl : a = b := by omega
    have t1 : ((a : Int) == (a : Int)) = true := by simp
    have S0 := Lib.hid S
    clear S k0 k1 k2 ko ks
    go_enter Try.func49, Try.ntmps49
    go_wp2
    go_ret
    exact ⟨0, d, rfl, ⟨rfl, fun _ _ => rfl, Good.nil (Nat.le_refl _), fun i h1 h2 => by omega, by omega, by omega⟩, S0.out⟩
  | succ k ih =>
    intro a b d w hd S hab hb hk
    by_cases hE : a = b
    · subst hE
      have t1 : ((a : Int) == (a : Int)) = true := by simp
      have S0 := Lib.hid S
      clear S k0 k1 k2 ko ks ih
      go_enter Try.func49, Try.ntmps49
      go_wp2
      go_ret
      exact ⟨0, d, rfl, ⟨rfl, fun _ _ => rfl, Good.nil (Nat.le_refl _), fun i h1 h2 => by omega, by omega, by omega⟩, S0.out⟩
    have hlt : a < b := by omega
    have t1 : ((a : Int) == (b : Int)) = false := by rw [beq_eq_false_iff_ne]; omega
    obtain ⟨m, hm⟩ : ∃ m, m = (a + b) / 2 := ⟨_, rfl⟩
    have em : ((a : Int) + (b : Int)) / 2 = (m : Int) := by omega
    have hm1 : a ≤ m := by omega
    have hm2 : m < b := by omega
    have HM := Lib.hid hm
    clear hm hE
    -- what every world of the sort's holds
    have keep : ∀ (d : Array Int) (W : World), SW EI w0 be 0 d W → W.cell? ⟨p, 0, none⟩ = some (.slice (some ⟨bs, 0, none⟩) n cs) ∧ W.cell? ⟨p, 1, none⟩ = some (.slice (some ⟨bo, 0, none⟩) n co) ∧ W.cell? ⟨p, 2, none⟩ = some (.slice (some ⟨be, 0, none⟩) n ce) ∧
        W.cell? ⟨bo, m, none⟩ = some (.int .i64 (on m)) ∧ W.cell? ⟨bs, on m * 2 + 1, none⟩ = some (.int .i64 (en (on m))) := by
      intro d W S
      refine ⟨?_, ?_, ?_, ?_, ?_⟩
      · rw [sw_other S (World.block_lt_of_cell? w0 _ k0) n1]; exact k0
      · rw [sw_other S (World.block_lt_of_cell? w0 _ k1) n1]; exact k1
      · rw [sw_other S (World.block_lt_of_cell? w0 _ k2) n1]; exact k2
      · rw [sw_other S (World.block_lt_of_cell? w0 _ (ko m (by omega))) n2]; exact ko m (by omega)
      · rw [sw_other S (World.block_lt_of_cell? w0 _ (ks _ (hon m (by omega)))) n3]; exact ks _ (hon m (by omega))
    have hom := hon m (by omega)
    have hev := hen (on m) hom
    obtain ⟨q, hq⟩ : ∃ q, q = on m := ⟨_, rfl⟩
    obtain ⟨ev, hev'⟩ : ∃ e, e = en (on m) := ⟨_, rfl⟩
    rw [← hev'] at hev
    rw [← hq] at hom
    have KEEP := Lib.hid keep
    have HQ := Lib.hid hq
    have HEV := Lib.hid hev'
    have ih1 : ∀ (d : Array Int) (W : World), d.size = n → SW EI w0 be 0 d W → Calls Try.prog 49 #[.pointer (some ⟨p, 0, none⟩), .int .i64 a, .int .i64 m] W fun e w' => ∃ r d', e = .returned (.int .i64 r) ∧ GrowP (fun i => en (on i)) a m d d' r ∧ SW EI w0 be 0 d' w' :=
      fun d W h1 h2 => ih a m d W h1 h2 hm1 (by omega) (by omega)
    have ih2 : ∀ (d : Array Int) (W : World), d.size = n → SW EI w0 be 0 d W → Calls Try.prog 49 #[.pointer (some ⟨p, 0, none⟩), .int .i64 ((m : Int) + 1), .int .i64 b] W fun e w' => ∃ r d', e = .returned (.int .i64 r) ∧ GrowP (fun i => en (on i)) (m + 1) b d d' r ∧ SW EI w0 be 0 d' w' := by
      intro d W h1 h2
      have C := ih (m + 1) b d W h1 h2 (by omega) hb (by omega)
      rwa [show ((m + 1 : Nat) : Int) = (m : Int) + 1 by omega] at C
    have IH1 := Lib.hid ih1
    have IH2 := Lib.hid ih2
    clear ih1 ih2
    have K := keep d w S
    rw [← hev', ← hq] at K
    obtain ⟨c0, c1, c2, c3, c4⟩ := K
    have S0 := Lib.hid S
    have HON := Lib.hid hon
    have HEN := Lib.hid hen
    clear S k0 k1 k2 ko ks ih keep hq hev' hon hen
    go_enter Try.func49, Try.ntmps49
    go_wp2_with fail
    rw [em]
    clear em
    have i1 : (0 : Int) ≤ (m : Int) := by omega
    have i2 : (m : Int) < (n : Int) := by omega
    have i3 : (0 : Int) ≤ (q : Int) := by omega
    have i4 : (q : Int) < (n : Int) := by omega
    have ew : IntKind.i64.wrap ((m : Int) + 1) = (m : Int) + 1 := by rw [IntKind.wrap_i64]; omega
    have HD := Lib.hid hd
    have HD0 := Lib.hid hd0
    clear hd hd0
    have S1 := Lib.hid S0.out.drew
    go_region_held3 (fun w' => w'.cell? ⟨p, 0, none⟩ = some (.slice (some ⟨bs, 0, none⟩) n cs) ∧ w'.cell? ⟨p, 1, none⟩ = some (.slice (some ⟨bo, 0, none⟩) n co) ∧ w'.cell? ⟨p, 2, none⟩ = some (.slice (some ⟨be, 0, none⟩) n ce) ∧
        w'.cell? ⟨bo, m, none⟩ = some (.int .i64 (q : Int)) ∧ w'.cell? ⟨bs, q * 2 + 1, none⟩ = some (.int .i64 ev))
      (first | (with_reducible exact K3 _) | (with_reducible exact K2) | (with_reducible exact K1) | exact ⟨c0, c1, c2, c3, c4⟩)
      (first
        | (go_at_call_of 49 (Value.int .i64 (a : Int))
           with_reducible refine (IH1.out d _ HD.out S1.out).mono ?_
           rintro e w1 ⟨r1, d1, rfl, G1, S2⟩
           have K1 := KEEP.out d1 w1 S2
           rw [← HEV.out, ← HQ.out] at K1
           have S3 := Lib.hid S2
           clear S2
           have G1' := Lib.hid G1
           have g1 := G1.lo
           have g2 := G1.hi
           clear G1)
        | (go_at_call_of 49 (Value.int .i64 (b : Int))
           with_reducible refine (IH2.out d1 _ (G1'.out.size.trans HD.out) S3.out).mono ?_
           rintro e w2 ⟨r2, d2, rfl, G2, S4⟩
           have K2 := KEEP.out d2 w2 S4
           rw [← HEV.out, ← HQ.out] at K2
           have z2 := G2.size.trans (G1'.out.size.trans HD.out)
           have e1 : w2.cell? ⟨be, m, none⟩ = some (.int .i64 d2[m]!) := by have := S4.c1 R (by rw [z2, HD0.out]) m (by rw [z2]; omega); rw [Nat.zero_add] at this; exact this
           have e2 : w2.frozen? ⟨be, m, none⟩ = false := by have := S4.f1 R (by rw [z2, HD0.out]) m (by rw [z2]; omega); rw [Nat.zero_add] at this; exact this
           have S5 := Lib.hid S4
           have S6 : ∀ z : Int, SW EI w0 be 0 (d2.setIfInBounds m z) (w2.setCell ⟨be, m, none⟩ (.int .i64 z)) := fun z => by
             have := sw_set S4 R.hblk m z (by rw [z2]; omega)
             rw [Nat.zero_add] at this
             exact this
           have K3 : ∀ z : Int, _ := fun z => KEEP.out _ _ (S6 z)
           rw [← HEV.out, ← HQ.out] at K3
           have e3 : ∀ z : Int, (w2.setCell ⟨be, m, none⟩ (.int .i64 z)).cell? ⟨be, m, none⟩ = some (.int .i64 z) := fun z => World.cell?_setCell_same _ _ _ e1
           have E3 := Lib.hid e3
           have H6 := Lib.hid S6
           have HK3 := Lib.hid K3
           have Z2 := Lib.hid z2
           clear z2 S4 S6 e3
           have G2' := Lib.hid G2
           have g3 := G2.lo
           have g4 := G2.hi
           clear G2))
    obtain ⟨z, hz⟩ : ∃ z, z = if (if ev < r1 then r1 else ev) < r2 then r2 else if ev < r1 then r1 else ev := ⟨_, rfl⟩
    rw [← hz]
    have hz1 : ev ≤ z ∧ r1 ≤ z ∧ r2 ≤ z ∧ z ≤ 2147483647 := by subst hz; split <;> split <;> omega
    clear hz K1 K2 K3 e1 e2 c0 c1 c2 c3 c4
    have k0 := (HK3.out z).1
    have k2 := (HK3.out z).2.2.1
    have k5 := E3.out z
    have S7 := Lib.hid (H6.out z)
    clear E3 H6 HK3
    generalize w2.setCell ⟨be, m, none⟩ (.int .i64 z) = w3 at k0 k2 k5 S7 ⊢
    go_wp2
    go_ret
    have G1 := G1'.out
    have G2 := G2'.out
    have zz := Z2.out
    have hs : ∀ i, i ≠ m → (d2.setIfInBounds m z)[i]! = d2[i]! := fun i hi => getElem!_set_other d2 m i z hi
    have hsm : (d2.setIfInBounds m z)[m]! = z := getElem!_set_same d2 m z (by omega)
    have top : ∀ i, a ≤ i → i < b → en (on i) ≤ z := by
      intro i h1 h2
      rcases Nat.lt_trichotomy i m with h | h | h
      · have := G1.top i h1 h
        omega
      · subst h
        have := HEV.out
        omega
      · have := G2.top i (by omega) h2
        omega
    refine ⟨z, d2.setIfInBounds m z, rfl, ⟨by rw [Array.size_setIfInBounds, zz, HD.out], fun i hi => ?_, Good.node ?_ ?_ ?_, top, by omega, by omega⟩, S7.out⟩
    · rw [hs i (by omega), G2.out i (by omega), G1.out i (by omega)]
    · rw [← HM.out, hsm]
      exact top
    · rw [← HM.out]
      exact G1.good.congr fun i h1 h2 => by rw [hs i (by omega), G2.out i (by omega)]
    · rw [← HM.out]
      exact G2.good.congr fun i h1 h2 => hs i (by omega)
end Go.Proofs.Ytlpdligkjihkeaa.Tb
