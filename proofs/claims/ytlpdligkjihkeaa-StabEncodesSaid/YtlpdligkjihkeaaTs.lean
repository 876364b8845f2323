/- The law's own helpers, walked: example, awake, built. -/
import Derived.Test.YtlpdligkjihkeaaTr
set_option linter.unusedVariables false
set_option linter.unusedSimpArgs false
namespace Go.Proofs.Ytlpdligkjihkeaa.Tb
open Go.RowKit

def exs : List (Int × Int) := [(0, 5), (2, 3), (2, 8)]
set_option maxHeartbeats 1600000 in
theorem example_any (w : World) : Calls Try.prog 27 #[] w fun e w' => ∃ b, e = .returned (.slice (some ⟨b, 0, none⟩) 3 3) ∧ RdS w' (some ⟨b, 0, none⟩) exs ∧ Below w.heap.size w w' := by
  go_enter Try.func27, Try.ntmps27
  go_wp2
  go_ret
  refine ⟨_, rfl, fun _ => ⟨_, 0, rfl, fun j hj => ?_⟩, bel_alloc (Below.refl _ _) _⟩
  have hj' : j < 3 := hj
  rcases (show j = 0 ∨ j = 1 ∨ j = 2 by omega) with rfl | rfl | rfl <;> exact ⟨by simp [exs], by simp [exs]⟩

theorem build_ex (b : Nat) (w : World) (ha : RdS w (some ⟨b, 0, none⟩) exs) : Calls Try.prog 25 #[.slice (some ⟨b, 0, none⟩) 3 3] w fun e w' => ∃ p, e = .returned (.tuple #[.pointer (some ⟨p, 0, none⟩), .int .i64 0]) ∧ Idx w' p exs ∧ Below w.heap.size w w' :=
  Build_ok (some ⟨b, 0, none⟩) 3 exs w ha (fun h => by cases h) (by decide) (by decide) (by decide)
theorem len_ex (p : Nat) (w : World) (h : Idx w p exs) : Calls Try.prog 11 #[.pointer (some ⟨p, 0, none⟩)] w fun e w' => e = .returned (.int .i64 3) ∧ w' = w := Len_any exs p w h
theorem stab_ex (p : Nat) (w : World) (h : Idx w p exs) : Calls Try.prog 14 #[.pointer (some ⟨p, 0, none⟩), .int .i64 2] w fun e w' => ∃ A c, e = .returned (.slice A 3 c) ∧ RdI w' A [0, 1, 2] ∧ Below w.heap.size w w' := by
  have h1 := Stab_ans exs p 2 w (by decide) h
  rw [show ansS exs 2 = [0, 1, 2] by decide] at h1
  exact h1
theorem over_ex (p : Nat) (w : World) (h : Idx w p exs) : Calls Try.prog 16 #[.pointer (some ⟨p, 0, none⟩), SP 5 6] w fun e w' => ∃ A c, e = .returned (.slice A 1 c) ∧ RdI w' A [2] ∧ Below w.heap.size w w' := by
  have h1 := Overlap_ans exs p 5 6 w (by decide) h
  rw [show ansK exs 5 6 (fun _ _ => true) = [2] by decide] at h1
  exact h1
theorem same_ex3 (A B : Option Addr) (ca cb : Nat) (w : World) (ha : RdI w A [0, 1, 2]) (hb : RdI w B [0, 1, 2]) : Calls Try.prog 13 #[.slice A 3 ca, .slice B 3 cb] w fun e w' => e = .returned (.bool true) ∧ Below w.heap.size w w' := by
  have := SameInts_any A B ca cb [0, 1, 2] [0, 1, 2] w ha hb (by decide) (by decide)
  rwa [sameB_t rfl] at this
theorem same_ex1 (A B : Option Addr) (ca cb : Nat) (w : World) (ha : RdI w A [2]) (hb : RdI w B [2]) : Calls Try.prog 13 #[.slice A 1 ca, .slice B 1 cb] w fun e w' => e = .returned (.bool true) ∧ Below w.heap.size w w' := by
  have := SameInts_any A B ca cb [2] [2] w ha hb (by decide) (by decide)
  rwa [sameB_t rfl] at this

theorem rdI_new3 (w : World) : RdI (w.alloc (.cells #[.int .i64 0, .int .i64 1, .int .i64 2] 3)) (some ⟨w.heap.size, 0, none⟩) [0, 1, 2] := fun _ => ⟨_, 0, rfl, fun j hj => by
  have hj' : j < 3 := hj
  rw [blk_cell (heap_alloc_new w _)]
  rcases (show j = 0 ∨ j = 1 ∨ j = 2 by omega) with rfl | rfl | rfl <;> rfl⟩
theorem rdI_new1 (w : World) : RdI (w.alloc (.cells #[.int .i64 2] 3)) (some ⟨w.heap.size, 0, none⟩) [2] := fun _ => ⟨_, 0, rfl, fun j hj => by
  have hj' : j < 1 := hj
  rw [blk_cell (heap_alloc_new w _)]
  obtain rfl : j = 0 := by omega
  rfl⟩

set_option maxHeartbeats 4000000 in
theorem awake_any (w : World) : Calls Try.prog 12 #[] w fun e w' => e = .returned (.bool true) ∧ Below w.heap.size w w' := by
  go_enter Try.func12, Try.ntmps12
  go_wp2_with fail
  refine (example_any _).mono ?_
  rintro e w1 ⟨b, rfl, hr1, hb1⟩
  have HR1 := Lib.hid hr1
  have HB1 := Lib.hid hb1
  clear hr1 hb1
  go_wp2_with fail
  refine (build_ex b w1 HR1.out).mono ?_
  rintro e w2 ⟨p, rfl, hi2, hb2⟩
  have HI2 := Lib.hid hi2
  have HB2 := Lib.hid (bel_trans HB1.out hb2)
  clear hi2 hb2 HR1 HB1
  go_wp2_with fail
  refine (len_ex p w2 HI2.out).mono ?_
  rintro e w2' ⟨rfl, rfl⟩
  go_wp2_with fail
  refine (stab_ex p w2' HI2.out).mono ?_
  rintro e w3 ⟨A3, c3, rfl, hr3, hb3⟩
  have HR3 := Lib.hid hr3
  have HI3 := Lib.hid (HI2.out.below hb3)
  have HB3 := Lib.hid (bel_trans HB2.out hb3)
  clear hr3 hb3 HI2 HB2
  go_wp2_with fail
  refine (same_ex3 A3 (some ⟨w3.heap.size, 0, none⟩) c3 3 _ (HR3.out.below (bel_alloc (Below.refl _ _) _)) (rdI_new3 w3)).mono ?_
  rintro e w4 ⟨rfl, hb4⟩
  have hb34 := bel_trans (bel_alloc (Below.refl w3.heap.size w3) _) hb4
  have HI4 := Lib.hid (HI3.out.below hb34)
  have HB4 := Lib.hid (bel_trans HB3.out hb34)
  clear hb34 hb4 HI3 HB3 HR3
  go_wp2_with fail
  refine (over_ex p w4 HI4.out).mono ?_
  rintro e w5 ⟨A5, c5, rfl, hr5, hb5⟩
  have HR5 := Lib.hid hr5
  have HB5 := Lib.hid (bel_trans HB4.out hb5)
  clear hr5 hb5 HI4 HB4
  go_wp2_with fail
  refine (same_ex1 A5 (some ⟨w5.heap.size, 0, none⟩) c5 1 _ (HR5.out.below (bel_alloc (Below.refl _ _) _)) (rdI_new1 w5)).mono ?_
  rintro e w6 ⟨rfl, hb6⟩
  have HB6 := Lib.hid (bel_trans HB5.out (bel_trans (bel_alloc (Below.refl w5.heap.size w5) _) hb6))
  clear hb6 HB5 HR5
  go_wp2
  go_ret
  exact ⟨rfl, HB6.out⟩

/-- A list that has an index. -/
structure Okl (xs : List (Int × Int)) : Prop where
  l : xs.length ≤ 4096
  v : xs.all okV = true
  e : xs.all okE = true
theorem chk_ok {xs : List (Int × Int)} (h : Okl xs) : chk12 xs = 0 := by
  unfold chk12
  rw [if_neg (by have := h.l; omega), if_pos ⟨h.v, h.e⟩]
theorem chk_bad {xs : List (Int × Int)} (hl : xs.length ≤ 4096) (h : ¬ (xs.all okV = true ∧ xs.all okE = true)) : chk12 xs = 8 := by
  unfold chk12
  rw [if_neg (by omega), if_neg h]

set_option maxHeartbeats 4000000 in
theorem built_ok (A : Option Addr) (c : Nat) (xs : List (Int × Int)) (w : World) (ha : RdS w A xs) (hA : A = none → xs.length = 0 ∧ c = 0) (h : Okl xs) :
    Calls Try.prog 10 #[.slice A xs.length c] w fun e w' => ∃ p, e = .returned (.tuple #[.pointer (some ⟨p, 0, none⟩), .bool true]) ∧ Idx w' p xs ∧ Below w.heap.size w w' := by
  have HB := Lib.hid (Build_ok A c xs w ha hA h.l h.v h.e)
  have HC := Lib.hid (fun (w1 : World) (hb : Below w.heap.size w w1) => Check12_any A c xs w1 (ha.below hb) (by have := h.l; omega))
  rw [chk_ok h] at HC
  obtain ⟨n, hn⟩ : ∃ n, n = xs.length := ⟨_, rfl⟩
  rw [← hn] at HB HC ⊢
  clear ha hA h hn
  go_enter Try.func10, Try.ntmps10
  go_wp2_with fail
  refine HB.out.mono ?_
  rintro e w1 ⟨p, rfl, hi, hb1⟩
  have HI := Lib.hid hi
  have HC1 := Lib.hid (HC.out w1 hb1)
  have HB1 := Lib.hid hb1
  clear hi hb1 HB HC
  go_wp2_with fail
  refine HC1.out.mono ?_
  rintro e w2 ⟨rfl, hb2⟩
  have HI2 := Lib.hid (HI.out.below hb2)
  have HB2 := Lib.hid (bel_trans HB1.out hb2)
  clear hb2 HC1 HI HB1
  go_wp2
  go_ret2
  exact ⟨p, rfl, HI2.out, HB2.out⟩

set_option maxHeartbeats 4000000 in
theorem built_bad (A : Option Addr) (c : Nat) (xs : List (Int × Int)) (w : World) (ha : RdS w A xs) (hl : xs.length ≤ 4096) (h : ¬ (xs.all okV = true ∧ xs.all okE = true)) :
    Calls Try.prog 10 #[.slice A xs.length c] w fun e w' => e = .returned (.tuple #[.pointer none, .bool true]) ∧ Below w.heap.size w w' := by
  have HB := Lib.hid (Build_bad A c xs w ha hl h)
  have HC := Lib.hid (fun (w1 : World) (hb : Below w.heap.size w w1) => Check12_any A c xs w1 (ha.below hb) (by omega))
  rw [chk_bad hl h] at HC
  obtain ⟨n, hn⟩ : ∃ n, n = xs.length := ⟨_, rfl⟩
  rw [← hn] at HB HC ⊢
  clear ha h hn
  go_enter Try.func10, Try.ntmps10
  go_wp2_with fail
  refine HB.out.mono ?_
  rintro e w1 ⟨rfl, hb1⟩
  have HC1 := Lib.hid (HC.out w1 hb1)
  have HB1 := Lib.hid hb1
  clear hb1 HB HC
  go_wp2_with fail
  refine HC1.out.mono ?_
  rintro e w2 ⟨rfl, hb2⟩
  have HB2 := Lib.hid (bel_trans HB1.out hb2)
  clear hb2 HC1 HB1
  go_wp2
  go_ret2
  exact ⟨rfl, HB2.out⟩
end Go.Proofs.Ytlpdligkjihkeaa.Tb
