/- The law StabSequences, walked. -/
import Derived.Test.YtlpdligkjihkeaaTx
set_option linter.unusedVariables false
set_option linter.unusedSimpArgs false
namespace Go.Proofs.Ytlpdligkjihkeaa.Tb
open Go.RowKit

/-- Where one round's asking stands: two indexes of the list, and the box of s. -/
structure SeqSt (w0 : World) (B p q : Nat) (xs : List (Int × Int)) (s1 s2 : Int) (v : World) : Prop where
  bel : Below w0.heap.size w0 v
  box : v.heap[B]? = some (SB s1 s2)
  idx : Idx v p xs
  idy : Idx v q xs
theorem SeqSt.step {w0 v v' : World} {B p q : Nat} {xs : List (Int × Int)} {s1 s2 : Int} (h : SeqSt w0 B p q xs s1 s2 v) (hb : Below v.heap.size v v') : SeqSt w0 B p q xs s1 s2 v' :=
  ⟨bel_trans h.bel hb, (hb.block _ (blk_lt h.box)).trans h.box, h.idx.below hb, h.idy.below hb⟩
theorem SeqSt.k {w0 v : World} {B p q : Nat} {xs : List (Int × Int)} {s1 s2 : Int} (h : SeqSt w0 B p q xs s1 s2 v) : v.cell? ⟨B, 0, none⟩ = some (.int .i64 s1) ∧ v.cell? ⟨B, 1, none⟩ = some (.int .i64 s2) :=
  ⟨by rw [blk_cell h.box]; rfl, by rw [blk_cell h.box]; rfl⟩

set_option maxRecDepth 1000000 in
set_option maxHeartbeats 8000000 in
theorem stabSequences_walk (A : Option Addr) (c : Nat) (xs : List (Int × Int)) (A' : Option Addr) (c' : Nat) (ys : List (Int × Int)) (w : World) (ha : RdS w A xs) (hA : A = none → xs.length = 0 ∧ c = 0) (hm : xs.length ≤ maxLen) (ha' : RdS w A' ys) (hA' : A' = none → ys.length = 0 ∧ c' = 0) (hm' : ys.length ≤ maxLen) :
    Calls Try.prog 5 #[.slice A xs.length c, .slice A' ys.length c'] w fun e w' => e = .returned (.bool true) ∧ Below w.heap.size w w' := by
  unfold maxLen at hm hm'
  clear hA'
  obtain ⟨n, hn⟩ : ∃ n, n = xs.length := ⟨_, rfl⟩
  obtain ⟨k, hk⟩ : ∃ k, k = ys.length := ⟨_, rfl⟩
  by_cases hl : 40 < n
  · rw [← hn, ← hk]
    rw [← hn] at hm
    have g1 : (40 : Int) < (n : Int) := by omega
    clear ha hA hn ha' hk hm'
    go_enter Try.func5, Try.ntmps5
    go_wp2
    go_ret
    exact ⟨rfl, Below.refl _ _⟩
  · have g1 : ¬ (40 : Int) < (n : Int) := by omega
    by_cases hl2 : 20 < k
    · rw [← hn, ← hk]
      rw [← hn] at hm
      rw [← hk] at hm'
      have g2 : (20 : Int) < (k : Int) := by omega
      clear ha hA hn ha' hk
      go_enter Try.func5, Try.ntmps5
      go_wp2
      go_ret
      exact ⟨rfl, Below.refl _ _⟩
    have g2 : ¬ (20 : Int) < (k : Int) := by omega
    by_cases hok : xs.all okV = true ∧ xs.all okE = true
    · have HB := Lib.hid (fun w1 (hb : Below w.heap.size w w1) => built_ok A c xs w1 (ha.below hb) hA ⟨by omega, hok.1, hok.2⟩)
      have HN := Lib.hid hn
      have HK := Lib.hid hk
      have HA' := Lib.hid ha'
      have HL := Lib.hid (show xs.length ≤ 40 by omega)
      rw [← hn] at HB hm ⊢
      rw [← hk] at hm' ⊢
      clear ha hA hn hok ha' hk
      have HB1 := Lib.hid (HB.out w (Below.refl _ _))
      go_enter Try.func5, Try.ntmps5
      go_wp2_with fail
      refine HB1.out.mono ?_
      rintro e w1 ⟨p, rfl, hi, hb1⟩
      have HI := Lib.hid hi
      have HBW := Lib.hid hb1
      clear hi hb1 HB1
      go_wp2
      go_loopw [36] (fun s wr => ∃ i : Nat, s = .int .i64 i ∧ i ≤ k ∧ Hid (Below w.heap.size w wr) ∧ Hid (Idx wr p xs)) (fun s _ => k - (intOf s).toNat)
      case atStart => exact ⟨0, rfl, by omega, HBW, HI⟩
      case round =>
        obtain ⟨i, rfl, hin, HBR, HIR⟩ := hrel
        clear HBW HI
        by_cases hlt : i < k
        · obtain ⟨b1, o1, e1, c1⟩ := (HA'.out.below HBR.out) (by rw [← HK.out]; omega)
          obtain ⟨c1', c2'⟩ := c1 i (by rw [← HK.out]; exact hlt)
          clear c1
          obtain ⟨a, b, hx, hy⟩ : ∃ x y, x = (ys.getD i (0, 0)).1 ∧ y = (ys.getD i (0, 0)).2 := ⟨_, _, rfl, rfl⟩
          rw [← hx] at c1'
          rw [← hy] at c2'
          clear hx hy
          subst e1
          have g3 : (i : Int) < (k : Int) := by omega
          have hbA := HBR.out.alloc HBR.out.size (SB a b)
          have HIA := Lib.hid (HIR.out.below (bel_alloc (Below.refl wr.heap.size wr) (SB a b)))
          have HX := Lib.hid (heap_alloc_new wr (SB a b))
          have HBB := Lib.hid (HB.out _ hbA)
          have HBA := Lib.hid hbA
          clear hbA HIR HBR
          obtain ⟨L1, hL1⟩ : ∃ L, L = ansK xs a b fun _ _ => true := ⟨_, rfl⟩
          obtain ⟨L2, hL2⟩ : ∃ L, L = ansS xs a := ⟨_, rfl⟩
          obtain ⟨L3, hL3⟩ : ∃ L, L = ansK xs a b fun c d => cont c d a b := ⟨_, rfl⟩
          obtain ⟨m1, hm1⟩ : ∃ m, m = L1.length := ⟨_, rfl⟩
          obtain ⟨m2, hm2⟩ : ∃ m, m = L2.length := ⟨_, rfl⟩
          obtain ⟨m3, hm3⟩ : ∃ m, m = L3.length := ⟨_, rfl⟩
          have hl1 : m1 ≤ 40 := by rw [hm1, hL1]; have := ansK_len xs a b (fun _ _ => true); have := HL.out; omega
          have hl2 : m2 ≤ 40 := by rw [hm2, hL2]; have := ansS_len xs a; have := HL.out; omega
          have hl3 : m3 ≤ 40 := by rw [hm3, hL3]; have := ansK_len xs a b (fun c d => cont c d a b); have := HL.out; omega
          have HI1 := Lib.hid (fun p w1 (h : Idx w1 p xs) => (Overlap_ans xs p a b w1 (by have := HL.out; omega) h).mono fun e w' (h : Ans w1 _ e w') => show AnsM w1 L1 m1 e w' from by rw [← hL1] at h; exact h.m m1 hm1)
          have HI2 := Lib.hid (fun p w1 (h : Idx w1 p xs) => (Stab_ans xs p a w1 (by have := HL.out; omega) h).mono fun e w' (h : Ans w1 _ e w') => show AnsM w1 L2 m2 e w' from by rw [← hL2] at h; exact h.m m2 hm2)
          have HI3 := Lib.hid (fun p w1 (h : Idx w1 p xs) => (Around_ans xs p a b w1 (by have := HL.out; omega) h).mono fun e w' (h : Ans w1 _ e w') => show AnsM w1 L3 m3 e w' from by rw [← hL3] at h; exact h.m m3 hm3)
          have HM1 := Lib.hid hm1
          have HM2 := Lib.hid hm2
          have HM3 := Lib.hid hm3
          clear hL1 hL2 hL3 hm1 hm2 hm3
          go_wp2_with fail
          refine HBB.out.mono ?_
          rintro e w2 ⟨q, rfl, hj, hb2⟩
          have S0 : Hid (SeqSt w wr.heap.size p q xs a b w2.drew) := Lib.hid ((SeqSt.mk (bel_trans HBA.out hb2) ((hb2.block _ (blk_lt HX.out)).trans HX.out) (HIA.out.below hb2) hj : SeqSt w wr.heap.size p q xs a b w2).step (bel_drew (Below.refl _ _)))
          clear hj hb2 HBB HX HIA HBA
          have K0 := S0.out.k
          go_wp2_with fail
          go_region_held3 (fun w' => w'.cell? ⟨wr.heap.size, 0, none⟩ = some (.int .i64 a) ∧ w'.cell? ⟨wr.heap.size, 1, none⟩ = some (.int .i64 b))
            (first | (with_reducible exact K9) | (with_reducible exact K8) | (with_reducible exact K7) | (with_reducible exact K6) | (with_reducible exact K5) | (with_reducible exact K4) | (with_reducible exact K3) | (with_reducible exact K2) | (with_reducible exact K1) | (with_reducible exact K0))
            (first
              | (go_at_call_of 16 (Value.pointer (some ⟨p, 0, none⟩))
                 with_reducible refine (HI1.out p _ S0.out.idx).mono ?_
                 rintro e v1 ⟨A1, c1, rfl, r1, b1⟩
                 have S1 := Lib.hid (S0.out.step b1)
                 have R1 := Lib.hid r1
                 have K1 := S1.out.k
                 clear r1 b1)
              | (go_at_call_of 16 (Value.pointer (some ⟨q, 0, none⟩))
                 with_reducible refine (HI1.out q _ S1.out.idy).mono ?_
                 rintro e v2 ⟨A2, c2, rfl, r2, b2⟩
                 have S2 := Lib.hid (S1.out.step b2)
                 have R2 := Lib.hid r2
                 have K2 := S2.out.k
                 have Q1 := Lib.hid (R1.out.below b2)
                 clear r2 b2)
              | (go_at_call_of 13 (Value.slice A1 m1 c1)
                 with_reducible refine (same_refl L1 m1 HM1.out (by omega) A1 A2 c1 c2 _ Q1.out R2.out).mono ?_
                 rintro e v3 ⟨rfl, b3⟩
                 have S3 := Lib.hid (S2.out.step b3)
                 have K3 := S3.out.k
                 clear b3)
              | (go_at_call_of 14 (Value.pointer (some ⟨p, 0, none⟩))
                 with_reducible refine (HI2.out p _ S3.out.idx).mono ?_
                 rintro e v4 ⟨A4, c4, rfl, r4, b4⟩
                 have S4 := Lib.hid (S3.out.step b4)
                 have R4 := Lib.hid r4
                 have K4 := S4.out.k
                 clear r4 b4)
              | (go_at_call_of 14 (Value.pointer (some ⟨q, 0, none⟩))
                 with_reducible refine (HI2.out q _ S4.out.idy).mono ?_
                 rintro e v5 ⟨A5, c5, rfl, r5, b5⟩
                 have S5 := Lib.hid (S4.out.step b5)
                 have R5 := Lib.hid r5
                 have K5 := S5.out.k
                 have Q4 := Lib.hid (R4.out.below b5)
                 clear r5 b5)
              | (go_at_call_of 13 (Value.slice A4 m2 c4)
                 with_reducible refine (same_refl L2 m2 HM2.out (by omega) A4 A5 c4 c5 _ Q4.out R5.out).mono ?_
                 rintro e v6 ⟨rfl, b6⟩
                 have S6 := Lib.hid (S5.out.step b6)
                 have K6 := S6.out.k
                 clear b6)
              | (go_at_call_of 17 (Value.pointer (some ⟨p, 0, none⟩))
                 with_reducible refine (HI3.out p _ S6.out.idx).mono ?_
                 rintro e v7 ⟨A7, c7, rfl, r7, b7⟩
                 have S7 := Lib.hid (S6.out.step b7)
                 have R7 := Lib.hid r7
                 have K7 := S7.out.k
                 clear r7 b7)
              | (go_at_call_of 17 (Value.pointer (some ⟨q, 0, none⟩))
                 with_reducible refine (HI3.out q _ S7.out.idy).mono ?_
                 rintro e v8 ⟨A8, c8, rfl, r8, b8⟩
                 have S8 := Lib.hid (S7.out.step b8)
                 have R8 := Lib.hid r8
                 have K8 := S8.out.k
                 have Q7 := Lib.hid (R7.out.below b8)
                 clear r8 b8)
              | (go_at_call_of 13 (Value.slice A7 m3 c7)
                 with_reducible refine (same_refl L3 m3 HM3.out (by omega) A7 A8 c7 c8 _ Q7.out R8.out).mono ?_
                 rintro e v9 ⟨rfl, b9⟩
                 have S9 := Lib.hid (S8.out.step b9)
                 have K9 := S9.out.k
                 clear b9))
          clear K0 K1 K2 K3 K4 K5 K6 K7 K8 K9 S0 S1 S2 S3 S4 S5 S6 S7 S8
          go_wp2
          go_roundw
          case measure => simp [intOf]; omega
          case rel => exact ⟨i + 1, by go_num, by omega, Lib.hid S9.out.bel, Lib.hid S9.out.idx⟩
        · have g3 : ¬ (i : Int) < (k : Int) := by omega
          go_wp2_with fail
          refine (awake_any wr).mono ?_
          rintro e w3 ⟨rfl, hb3⟩
          have HB3 := Lib.hid (bel_trans HBR.out hb3)
          clear hb3
          go_wp2
          go_ret
          exact ⟨rfl, HB3.out⟩
    · have HB := Lib.hid (built_bad A c xs w ha (by omega) hok)
      rw [← hn] at HB hm ⊢
      rw [← hk] at hm' ⊢
      clear ha hA hn hok ha' hk
      go_enter Try.func5, Try.ntmps5
      go_wp2_with fail
      refine HB.out.mono ?_
      rintro e w1 ⟨rfl, hb1⟩
      have HB1 := Lib.hid hb1
      clear hb1 HB
      go_wp2_with fail
      refine (awake_any w1).mono ?_
      rintro e w3 ⟨rfl, hb3⟩
      have HB3 := Lib.hid (bel_trans HB1.out hb3)
      clear hb3 HB1
      go_wp2
      go_ret
      exact ⟨rfl, HB3.out⟩
end Go.Proofs.Ytlpdligkjihkeaa.Tb
