/- The law StabAsks, walked. -/
import Derived.Test.YtlpdligkjihkeaaTw
set_option linter.unusedVariables false
set_option linter.unusedSimpArgs false
namespace Go.Proofs.Ytlpdligkjihkeaa.Tb
open Go.ChangeShapes Go.WideShapes Go.ChangeAt Go.RowKit Go.Joins

set_option maxRecDepth 1000000 in
theorem open_span {H : Type} {enc : TypeId × Value → H} {W : World} {v : Value} {d : DataW H} {p : List MemPlace} {base : Nat} (hv : Value.okWide Try.prog W .any base 35 v)
    (h : DataW.Trod enc Try.prog W 0 (fun _ => true) true 35 v d p) : ∃ a b : Int, v = SP a b := by
  obtain ⟨c0, c1, y0, y1, m, rfl, _, _, hy0, hy1⟩ := open_agg2 Try.underlying35 (by kernel_rfl) cells22 hv h
  obtain ⟨a, e0, _, _⟩ := DataW.trod_int Try.underlying3 hy0
  obtain ⟨b, e1, _, _⟩ := DataW.trod_int Try.underlying3 hy1
  simp at e0 e1
  subst e0 e1
  exact ⟨a, b, rfl⟩

/-- Where the asking stands: nothing below has turned, the box of s, the index. -/
structure AskSt (w0 : World) (B p : Nat) (xs : List (Int × Int)) (s1 s2 : Int) (v : World) : Prop where
  bel : Below w0.heap.size w0 v
  box : v.heap[B]? = some (SB s1 s2)
  idx : Idx v p xs
theorem AskSt.step {w0 v v' : World} {B p : Nat} {xs : List (Int × Int)} {s1 s2 : Int} (h : AskSt w0 B p xs s1 s2 v) (hb : Below v.heap.size v v') : AskSt w0 B p xs s1 s2 v' :=
  ⟨bel_trans h.bel hb, (hb.block _ (blk_lt h.box)).trans h.box, h.idx.below hb⟩
theorem AskSt.k {w0 v : World} {B p : Nat} {xs : List (Int × Int)} {s1 s2 : Int} (h : AskSt w0 B p xs s1 s2 v) : v.cell? ⟨B, 0, none⟩ = some (.int .i64 s1) ∧ v.cell? ⟨B, 1, none⟩ = some (.int .i64 s2) :=
  ⟨by rw [blk_cell h.box]; rfl, by rw [blk_cell h.box]; rfl⟩

set_option maxRecDepth 1000000 in
set_option maxHeartbeats 8000000 in
theorem stabAsks_walk (A : Option Addr) (c : Nat) (xs : List (Int × Int)) (s1 s2 : Int) (w : World) (ha : RdS w A xs) (hA : A = none → xs.length = 0 ∧ c = 0) (hm : xs.length ≤ maxLen) :
    Calls Try.prog 6 #[.slice A xs.length c, SP s1 s2] w fun e w' => e = .returned (.bool true) ∧ Below w.heap.size w w' := by
  unfold maxLen at hm
  obtain ⟨n, hn⟩ : ∃ n, n = xs.length := ⟨_, rfl⟩
  have hb0 : Below w.heap.size w (w.alloc (SB s1 s2)) := bel_alloc (Below.refl _ _) _
  have hx0 : (w.alloc (SB s1 s2)).heap[w.heap.size]? = some (SB s1 s2) := heap_alloc_new w _
  have ha0 := ha.below hb0
  by_cases hl : 100 < n
  · rw [← hn] at hm ⊢
    have g1 : (100 : Int) < (n : Int) := by omega
    clear ha hA hn
    go_enter Try.func6, Try.ntmps6
    go_wp2
    go_ret
    exact ⟨rfl, hb0⟩
  · have g1 : ¬ (100 : Int) < (n : Int) := by omega
    by_cases hok : xs.all okV = true ∧ xs.all okE = true
    · have HB := Lib.hid (built_ok A c xs (w.alloc (SB s1 s2)) ha0 hA ⟨by omega, hok.1, hok.2⟩)
      obtain ⟨L1, hL1⟩ : ∃ L, L = askL xs s1 s2 fun a b => ovl a b s1 s2 := ⟨_, rfl⟩
      obtain ⟨m1, hm1⟩ : ∃ m, m = L1.length := ⟨_, rfl⟩
      have hl1 : m1 ≤ 100 := by rw [hm1, hL1]; have := askL_len xs s1 s2 fun a b => ovl a b s1 s2; omega
      obtain ⟨L2, hL2⟩ : ∃ L, L = askL xs s1 s2 fun a b => cont s1 s2 a b := ⟨_, rfl⟩
      obtain ⟨m2, hm2⟩ : ∃ m, m = L2.length := ⟨_, rfl⟩
      have hl2 : m2 ≤ 100 := by rw [hm2, hL2]; have := askL_len xs s1 s2 fun a b => cont s1 s2 a b; omega
      obtain ⟨L3, hL3⟩ : ∃ L, L = askL xs s1 s2 fun a b => cont a b s1 s2 := ⟨_, rfl⟩
      obtain ⟨m3, hm3⟩ : ∃ m, m = L3.length := ⟨_, rfl⟩
      have hl3 : m3 ≤ 100 := by rw [hm3, hL3]; have := askL_len xs s1 s2 fun a b => cont a b s1 s2; omega
      have HI1 := Lib.hid (fun p w1 (h : Idx w1 p xs) => (Overlap_ans xs p s1 s2 w1 (by omega) h).mono fun e w' (h : Ans w1 _ e w') => show AnsM w1 L1 m1 e w' from by rw [ans_over, ← hL1] at h; exact h.m m1 hm1)
      have HR1 := Lib.hid (fun w1 (hb : Below (w.alloc (SB s1 s2)).heap.size (w.alloc (SB s1 s2)) w1) => (Ask1_any A c xs s1 s2 w1 (ha0.below hb) (by omega)).mono fun e w' (h : Ans w1 _ e w') => show AnsM w1 L1 m1 e w' from by rw [← hL1] at h; exact h.m m1 hm1)
      have HI2 := Lib.hid (fun p w1 (h : Idx w1 p xs) => (Inside_ans xs p s1 s2 w1 (by omega) h).mono fun e w' (h : Ans w1 _ e w') => show AnsM w1 L2 m2 e w' from by rw [ans_in hok.1, ← hL2] at h; exact h.m m2 hm2)
      have HR2 := Lib.hid (fun w1 (hb : Below (w.alloc (SB s1 s2)).heap.size (w.alloc (SB s1 s2)) w1) => (Ask2_any A c xs s1 s2 w1 (ha0.below hb) (by omega)).mono fun e w' (h : Ans w1 _ e w') => show AnsM w1 L2 m2 e w' from by rw [← hL2] at h; exact h.m m2 hm2)
      have HI3 := Lib.hid (fun p w1 (h : Idx w1 p xs) => (Around_ans xs p s1 s2 w1 (by omega) h).mono fun e w' (h : Ans w1 _ e w') => show AnsM w1 L3 m3 e w' from by rw [ans_around hok.1, ← hL3] at h; exact h.m m3 hm3)
      have HR3 := Lib.hid (fun w1 (hb : Below (w.alloc (SB s1 s2)).heap.size (w.alloc (SB s1 s2)) w1) => (Ask3_any A c xs s1 s2 w1 (ha0.below hb) (by omega)).mono fun e w' (h : Ans w1 _ e w') => show AnsM w1 L3 m3 e w' from by rw [← hL3] at h; exact h.m m3 hm3)
      rw [← hn] at HB HR1 HR2 HR3 hm ⊢
      have HX0 := Lib.hid hx0
      have HB0 := Lib.hid hb0
      have HM1 := Lib.hid hm1
      have HM2 := Lib.hid hm2
      have HM3 := Lib.hid hm3
      clear ha ha0 hA hn hok hL1 hL2 hL3 hx0 hb0 hm1 hm2 hm3
      go_enter Try.func6, Try.ntmps6
      go_wp2_with fail
      refine HB.out.mono ?_
      rintro e w1 ⟨p, rfl, hi, hb1⟩
      have S0 : Hid (AskSt (w.alloc (SB s1 s2)) w.heap.size p xs s1 s2 w1.drew) := Lib.hid ((AskSt.mk hb1 ((hb1.block _ (blk_lt HX0.out)).trans HX0.out) hi : AskSt (w.alloc (SB s1 s2)) w.heap.size p xs s1 s2 w1).step (bel_drew (Below.refl _ _)))
      clear hi hb1 HB HX0
      have K0 := S0.out.k
      go_wp2_with fail
      go_region_held3 (fun w' => w'.cell? ⟨w.heap.size, 0, none⟩ = some (.int .i64 s1) ∧ w'.cell? ⟨w.heap.size, 1, none⟩ = some (.int .i64 s2))
        (first | (with_reducible exact KA) | (with_reducible exact K9) | (with_reducible exact K8) | (with_reducible exact K7) | (with_reducible exact K6) | (with_reducible exact K5) | (with_reducible exact K4) | (with_reducible exact K3) | (with_reducible exact K2) | (with_reducible exact K1) | (with_reducible exact K0))
        (first
          | (go_at_call_of 16 (Value.pointer (some ⟨p, 0, none⟩))
             with_reducible refine (HI1.out p _ S0.out.idx).mono ?_
             rintro e v1 ⟨A1, c1, rfl, r1, b1⟩
             have S1 := Lib.hid (S0.out.step b1)
             have R1 := Lib.hid r1
             have K1 := S1.out.k
             clear r1 b1)
          | (go_at_call_of 18 (Value.int .i64 1)
             with_reducible refine (HR1.out _ S1.out.bel).mono ?_
             rintro e v2 ⟨A2, c2, rfl, r2, b2⟩
             have S2 := Lib.hid (S1.out.step b2)
             have R2 := Lib.hid r2
             have Q1 := Lib.hid (R1.out.below b2)
             have K2 := S2.out.k
             clear r2 b2)
          | (go_at_call_of 13 (Value.slice A1 m1 c1)
             with_reducible refine (same_refl L1 m1 HM1.out (by omega) A1 A2 c1 c2 _ Q1.out R2.out).mono ?_
             rintro e v3 ⟨rfl, b3⟩
             have S3 := Lib.hid (S2.out.step b3)
             have K3 := S3.out.k
             clear b3)
          | (go_at_call_of 19 (Value.pointer (some ⟨p, 0, none⟩))
             with_reducible refine (HI2.out p _ S3.out.idx).mono ?_
             rintro e v4 ⟨A4, c4, rfl, r4, b4⟩
             have S4 := Lib.hid (S3.out.step b4)
             have R4 := Lib.hid r4
             have K4 := S4.out.k
             clear r4 b4)
          | (go_at_call_of 18 (Value.int .i64 2)
             with_reducible refine (HR2.out _ S4.out.bel).mono ?_
             rintro e v5 ⟨A5, c5, rfl, r5, b5⟩
             have S5 := Lib.hid (S4.out.step b5)
             have R5 := Lib.hid r5
             have Q4 := Lib.hid (R4.out.below b5)
             have K5 := S5.out.k
             clear r5 b5)
          | (go_at_call_of 13 (Value.slice A4 m2 c4)
             with_reducible refine (same_refl L2 m2 HM2.out (by omega) A4 A5 c4 c5 _ Q4.out R5.out).mono ?_
             rintro e v6 ⟨rfl, b6⟩
             have S6 := Lib.hid (S5.out.step b6)
             have K6 := S6.out.k
             clear b6)
          | (go_at_call_of 17 (Value.pointer (some ⟨p, 0, none⟩))
             with_reducible refine (HI3.out p _ S6.out.idx).mono ?_
             rintro e v7 ⟨A7, c7, rfl, r7, b7⟩
             have S7 := Lib.hid (S6.out.step b7)
             have R7 := Lib.hid r7
             have K7 := S7.out.k
             clear r7 b7)
          | (go_at_call_of 18 (Value.int .i64 3)
             with_reducible refine (HR3.out _ S7.out.bel).mono ?_
             rintro e v8 ⟨A8, c8, rfl, r8, b8⟩
             have S8 := Lib.hid (S7.out.step b8)
             have R8 := Lib.hid r8
             have Q7 := Lib.hid (R7.out.below b8)
             have K8 := S8.out.k
             clear r8 b8)
          | (go_at_call_of 13 (Value.slice A7 m3 c7)
             with_reducible refine (same_refl L3 m3 HM3.out (by omega) A7 A8 c7 c8 _ Q7.out R8.out).mono ?_
             rintro e v9 ⟨rfl, b9⟩
             have S9 := Lib.hid (S8.out.step b9)
             have K9 := S9.out.k
             clear b9)
          | (go_at_call 12
             with_reducible refine (awake_any _).mono ?_
             rintro e vA ⟨rfl, bA⟩
             have SA := Lib.hid (S9.out.step bA)
             have KA := SA.out.k
             clear bA))
      go_wp2
      go_ret
      exact ⟨rfl, bel_trans HB0.out SA.out.bel⟩
    · have HB := Lib.hid (built_bad A c xs (w.alloc (SB s1 s2)) ha0 (by omega) hok)
      rw [← hn] at HB hm ⊢
      have HB0 := Lib.hid hb0
      clear ha ha0 hA hn hok hb0
      go_enter Try.func6, Try.ntmps6
      go_wp2_with fail
      refine HB.out.mono ?_
      rintro e w1 ⟨rfl, hb1⟩
      have HB1 := Lib.hid (bel_trans HB0.out hb1)
      clear hb1 HB
      go_wp2_with fail
      refine (awake_any w1).mono ?_
      rintro e w3 ⟨rfl, hb3⟩
      have HB3 := Lib.hid (bel_trans HB1.out hb3)
      clear hb3 HB1
      go_wp2
      go_ret
      exact ⟨rfl, HB3.out⟩
end Go.Proofs.Ytlpdligkjihkeaa.Tb
