/- Small functions on spans, walked. -/
import Derived.Test.YtlpdligkjihkeaaProg
import Derived.Below
import Derived.WalkKit
import Derived.OwnWalk
import Derived.BigQuiet
import Derived.Deep.QuietTactic
import Derived.Deep.Draws
import Derived.Lib.Hide
import Derived.KernelRfl
set_option linter.unusedVariables false
set_option linter.unusedSimpArgs false
namespace Go.Proofs.Ytlpdligkjihkeaa.Tb
open Go.RowKit

def vld (a b : Int) : Bool := decide (0 ≤ a ∧ a < b)
theorem vld_t {a b : Int} (h : 0 ≤ a) (h2 : a < b) : vld a b = true := decide_eq_true ⟨h, h2⟩
theorem vld_f {a b : Int} (h : ¬ (0 ≤ a ∧ a < b)) : vld a b = false := decide_eq_false h
theorem bdrewN {B : Nat} {a w : World} (h : Below B a w) (n : Nat) : Below B a (w.drewN n) := ⟨h.os, h.tape, h.output, h.size, h.block⟩
theorem bel_alloc {w W : World} (h : Below w.heap.size w W) (o : Obj) : Below w.heap.size w (W.alloc o) := h.alloc h.size o
theorem bel_drew {B : Nat} {a w : World} (h : Below B a w) : Below B a w.drew := ⟨h.os, h.tape, h.output, h.size, h.block⟩
theorem bel_trans {w w1 w2 : World} (h : Below w.heap.size w w1) (k : Below w1.heap.size w1 w2) : Below w.heap.size w w2 :=
  h.trans ⟨k.os, k.tape, k.output, k.size, fun i hi => k.block i (Nat.lt_of_lt_of_le hi h.size)⟩

set_option maxHeartbeats 400000 in
theorem valid_any (a b : Int) (w : World) : Calls Try.prog 35 #[.agg #[.int .i64 a, .int .i64 b]] w fun e w' => e = .returned (.bool (vld a b)) ∧ Below w.heap.size w w' := by
  by_cases h1 : 0 ≤ a
  · by_cases h2 : a < b
    · rw [vld_t h1 h2]
      go_enter Try.func35, Try.ntmps35
      go_wp2
      go_ret
      exact ⟨rfl, bel_alloc (Below.refl _ _) _⟩
    · rw [vld_f (by omega)]
      go_enter Try.func35, Try.ntmps35
      go_wp2
      go_ret
      exact ⟨rfl, bel_alloc (Below.refl _ _) _⟩
  · rw [vld_f (by omega)]
    go_enter Try.func35, Try.ntmps35
    go_wp2
    go_ret
    exact ⟨rfl, bel_alloc (Below.refl _ _) _⟩

set_option maxHeartbeats 400000 in
theorem Valid_any (a b : Int) (w : World) : Calls Try.prog 31 #[.agg #[.int .i64 a, .int .i64 b]] w fun e w' => e = .returned (.bool (vld a b)) ∧ Below w.heap.size w w' := by
  by_cases h1 : 0 ≤ a
  · by_cases h2 : a < b
    · rw [vld_t h1 h2]
      go_enter Try.func31, Try.ntmps31
      go_wp2
      go_ret
      exact ⟨rfl, bel_alloc (Below.refl _ _) _⟩
    · rw [vld_f (by omega)]
      go_enter Try.func31, Try.ntmps31
      go_wp2
      go_ret
      exact ⟨rfl, bel_alloc (Below.refl _ _) _⟩
  · rw [vld_f (by omega)]
    go_enter Try.func31, Try.ntmps31
    go_wp2
    go_ret
    exact ⟨rfl, bel_alloc (Below.refl _ _) _⟩

/-- s contains o; s and o overlap -/
def cont (a b c d : Int) : Bool := decide (a ≤ c ∧ d ≤ b)
def ovl (a b c d : Int) : Bool := decide (a < d ∧ c < b)

set_option maxHeartbeats 400000 in
theorem Contains_any (a b c d : Int) (w : World) : Calls Try.prog 33 #[.agg #[.int .i64 a, .int .i64 b], .agg #[.int .i64 c, .int .i64 d]] w fun e w' => e = .returned (.bool (cont a b c d)) ∧ Below w.heap.size w w' := by
  by_cases h1 : a ≤ c
  · by_cases h2 : d ≤ b
    · rw [show cont a b c d = true from decide_eq_true ⟨h1, h2⟩]
      go_enter Try.func33, Try.ntmps33
      go_wp2
      go_ret
      exact ⟨rfl, bel_alloc (bel_alloc (Below.refl _ _) _) _⟩
    · rw [show cont a b c d = false from decide_eq_false (by omega)]
      go_enter Try.func33, Try.ntmps33
      go_wp2
      go_ret
      exact ⟨rfl, bel_alloc (bel_alloc (Below.refl _ _) _) _⟩
  · rw [show cont a b c d = false from decide_eq_false (by omega)]
    go_enter Try.func33, Try.ntmps33
    go_wp2
    go_ret
    exact ⟨rfl, bel_alloc (bel_alloc (Below.refl _ _) _) _⟩

set_option maxHeartbeats 400000 in
theorem Overlap_any (a b c d : Int) (w : World) : Calls Try.prog 32 #[.agg #[.int .i64 a, .int .i64 b], .agg #[.int .i64 c, .int .i64 d]] w fun e w' => e = .returned (.bool (ovl a b c d)) ∧ Below w.heap.size w w' := by
  by_cases h1 : a < d
  · by_cases h2 : c < b
    · rw [show ovl a b c d = true from decide_eq_true ⟨h1, h2⟩]
      go_enter Try.func32, Try.ntmps32
      go_wp2
      go_ret
      exact ⟨rfl, bel_alloc (bel_alloc (Below.refl _ _) _) _⟩
    · rw [show ovl a b c d = false from decide_eq_false (by omega)]
      go_enter Try.func32, Try.ntmps32
      go_wp2
      go_ret
      exact ⟨rfl, bel_alloc (bel_alloc (Below.refl _ _) _) _⟩
  · rw [show ovl a b c d = false from decide_eq_false (by omega)]
    go_enter Try.func32, Try.ntmps32
    go_wp2
    go_ret
    exact ⟨rfl, bel_alloc (bel_alloc (Below.refl _ _) _) _⟩

/-! ### interval.Relation -/
/-- a before b, or equal begins and a's end not behind -/
def rel0 (a b c d : Int) : Int := if a = c ∧ b = d then 7 else if a = c then 6 else if b < c then 1 else if b = c then 2 else if b < d then 3 else if b = d then 4 else 5
def relP (a b c d : Int) : Int := if vld a b = true ∧ vld c d = true then (if c < a ∨ a = c ∧ d < b then 14 - rel0 c d a b else rel0 a b c d) else 0

set_option maxHeartbeats 1600000 in
theorem rel_bad1 (a b c d : Int) (w : World) (h : vld a b = false) : Calls Try.prog 20 #[.agg #[.int .i64 a, .int .i64 b], .agg #[.int .i64 c, .int .i64 d]] w fun e w' => e = .returned (.int .i64 0) ∧ Below w.heap.size w w' := by
  have HV := Lib.hid (valid_any a b ((w.alloc (.cells #[.int .i64 a, .int .i64 b] 35)).alloc (.cells #[.int .i64 c, .int .i64 d] 35)))
  go_enter Try.func20, Try.ntmps20
  go_wp2_with fail
  refine HV.out.mono ?_
  rintro e w1 ⟨rfl, hb⟩
  have hb' := bel_trans (bel_alloc (bel_alloc (Below.refl _ w) _) _) hb
  go_wp2_with fail
  go_ret
  exact ⟨rfl, hb'⟩

theorem two_boxes (w w1 : World) (o1 o2 : Obj) (hb : Below ((w.alloc o1).alloc o2).heap.size ((w.alloc o1).alloc o2) w1) :
    (∀ i, w1.cell? ⟨w.heap.size, i, none⟩ = ((w.alloc o1).alloc o2).cell? ⟨w.heap.size, i, none⟩) ∧ (∀ i, w1.cell? ⟨w.heap.size + 1, i, none⟩ = ((w.alloc o1).alloc o2).cell? ⟨w.heap.size + 1, i, none⟩) :=
  ⟨fun i => hb.cell (p := ⟨_, i, none⟩) (by simp; omega), fun i => hb.cell (p := ⟨_, i, none⟩) (by simp)⟩

abbrev SP (a b : Int) : Value := .agg #[.int .i64 a, .int .i64 b]
abbrev SB (a b : Int) : Obj := .cells #[.int .i64 a, .int .i64 b] 35
theorem span_boxes (w w1 : World) (a b c d : Int) (hb : Below ((w.alloc (SB a b)).alloc (SB c d)).heap.size ((w.alloc (SB a b)).alloc (SB c d)) w1) :
    w1.cell? ⟨w.heap.size, 0, none⟩ = some (.int .i64 a) ∧ w1.cell? ⟨w.heap.size, 1, none⟩ = some (.int .i64 b) ∧ w1.cell? ⟨w.heap.size + 1, 0, none⟩ = some (.int .i64 c) ∧ w1.cell? ⟨w.heap.size + 1, 1, none⟩ = some (.int .i64 d) := by
  obtain ⟨h1, h2⟩ := two_boxes w w1 _ _ hb
  refine ⟨(h1 0).trans ?_, (h1 1).trans ?_, (h2 0).trans ?_, (h2 1).trans ?_⟩ <;> simp

set_option maxHeartbeats 1600000 in
theorem rel_bad2 (a b c d : Int) (w : World) (h : vld a b = true) (h2 : vld c d = false) : Calls Try.prog 20 #[SP a b, SP c d] w fun e w' => e = .returned (.int .i64 0) ∧ Below w.heap.size w w' := by
  have HV := Lib.hid (valid_any a b ((w.alloc (SB a b)).alloc (SB c d)))
  go_enter Try.func20, Try.ntmps20
  go_wp2_with fail
  refine HV.out.mono ?_
  rintro e w1 ⟨rfl, hb⟩
  have hb' := bel_trans (bel_alloc (bel_alloc (Below.refl _ w) _) _) hb
  obtain ⟨q1, q2, q3, q4⟩ := span_boxes w w1 a b c d hb
  have HV2 := Lib.hid (valid_any c d w1)
  clear HV hb
  go_wp2_with fail
  refine HV2.out.mono ?_
  rintro e w2 ⟨rfl, hb2⟩
  have hb2' := bel_trans hb' hb2
  clear HV2
  go_wp2_with fail
  go_ret
  exact ⟨rfl, hb2'⟩

set_option maxHeartbeats 1600000 in
theorem rel_eq (a b c d : Int) (w : World) (h : vld a b = true) (h2 : vld c d = true) (k1 : a ≤ c) (k2 : c ≤ a) (k3 : b ≤ d) (k4 : d ≤ b) : Calls Try.prog 20 #[SP a b, SP c d] w fun e w' => e = .returned (.int .i64 7) ∧ Below w.heap.size w w' := by
  have HV := Lib.hid (valid_any a b ((w.alloc (SB a b)).alloc (SB c d)))
  have t1 : ((a : Int) == c) = true := by rw [beq_iff_eq]; omega
  have t2 : ((b : Int) == d) = true := by rw [beq_iff_eq]; omega
  go_enter Try.func20, Try.ntmps20
  go_wp2_with fail
  refine HV.out.mono ?_
  rintro e w1 ⟨rfl, hb⟩
  have hb' := bel_trans (bel_alloc (bel_alloc (Below.refl _ w) _) _) hb
  obtain ⟨q1, q2, q3, q4⟩ := span_boxes w w1 a b c d hb
  have HV2 := Lib.hid (valid_any c d w1)
  clear HV
  go_wp2_with fail
  refine HV2.out.mono ?_
  rintro e w2 ⟨rfl, hb2⟩
  have hb2' := bel_trans hb' hb2
  have hbb : Below ((w.alloc (SB a b)).alloc (SB c d)).heap.size ((w.alloc (SB a b)).alloc (SB c d)) w2 := bel_trans hb hb2
  obtain ⟨p1, p2, p3, p4⟩ := span_boxes w w2 a b c d hbb
  clear HV2 q1 q2 q3 q4
  go_wp2_with fail
  go_ret
  exact ⟨rfl, hb2'⟩

set_option maxHeartbeats 1600000 in
theorem rel_six (a b c d : Int) (w : World) (h : vld a b = true) (h2 : vld c d = true) (k1 : a ≤ c) (k2 : c ≤ a) (k3 : b < d) : Calls Try.prog 20 #[SP a b, SP c d] w fun e w' => e = .returned (.int .i64 6) ∧ Below w.heap.size w w' := by
  have HV := Lib.hid (valid_any a b ((w.alloc (SB a b)).alloc (SB c d)))
  have t1 : ((a : Int) == c) = true := by rw [beq_iff_eq]; omega
  have t2 : ((b : Int) == d) = false := by rw [beq_eq_false_iff_ne]; omega
  go_enter Try.func20, Try.ntmps20
  go_wp2_with fail
  refine HV.out.mono ?_
  rintro e w1 ⟨rfl, hb⟩
  have hb' := bel_trans (bel_alloc (bel_alloc (Below.refl _ w) _) _) hb
  obtain ⟨q1, q2, q3, q4⟩ := span_boxes w w1 a b c d hb
  have HV2 := Lib.hid (valid_any c d w1)
  clear HV
  go_wp2_with fail
  refine HV2.out.mono ?_
  rintro e w2 ⟨rfl, hb2⟩
  have hb2' := bel_trans hb' hb2
  have hbb : Below ((w.alloc (SB a b)).alloc (SB c d)).heap.size ((w.alloc (SB a b)).alloc (SB c d)) w2 := bel_trans hb hb2
  obtain ⟨p1, p2, p3, p4⟩ := span_boxes w w2 a b c d hbb
  clear HV2 q1 q2 q3 q4
  go_wp2_with fail
  go_ret
  exact ⟨rfl, hb2'⟩

set_option maxHeartbeats 1600000 in
theorem rel_one (a b c d : Int) (w : World) (h : vld a b = true) (h2 : vld c d = true) (k1 : a < c) (k3 : b < c) : Calls Try.prog 20 #[SP a b, SP c d] w fun e w' => e = .returned (.int .i64 1) ∧ Below w.heap.size w w' := by
  have HV := Lib.hid (valid_any a b ((w.alloc (SB a b)).alloc (SB c d)))
  have t1 : ((a : Int) == c) = false := by rw [beq_eq_false_iff_ne]; omega
  go_enter Try.func20, Try.ntmps20
  go_wp2_with fail
  refine HV.out.mono ?_
  rintro e w1 ⟨rfl, hb⟩
  have hb' := bel_trans (bel_alloc (bel_alloc (Below.refl _ w) _) _) hb
  obtain ⟨q1, q2, q3, q4⟩ := span_boxes w w1 a b c d hb
  have HV2 := Lib.hid (valid_any c d w1)
  clear HV
  go_wp2_with fail
  refine HV2.out.mono ?_
  rintro e w2 ⟨rfl, hb2⟩
  have hb2' := bel_trans hb' hb2
  have hbb : Below ((w.alloc (SB a b)).alloc (SB c d)).heap.size ((w.alloc (SB a b)).alloc (SB c d)) w2 := bel_trans hb hb2
  obtain ⟨p1, p2, p3, p4⟩ := span_boxes w w2 a b c d hbb
  clear HV2 q1 q2 q3 q4
  go_wp2_with fail
  go_ret
  exact ⟨rfl, hb2'⟩

set_option maxHeartbeats 1600000 in
theorem rel_two (a b c d : Int) (w : World) (h : vld a b = true) (h2 : vld c d = true) (k1 : a < c) (k3 : b ≤ c) (k4 : c ≤ b) : Calls Try.prog 20 #[SP a b, SP c d] w fun e w' => e = .returned (.int .i64 2) ∧ Below w.heap.size w w' := by
  have HV := Lib.hid (valid_any a b ((w.alloc (SB a b)).alloc (SB c d)))
  have t1 : ((a : Int) == c) = false := by rw [beq_eq_false_iff_ne]; omega
  have t2 : ((b : Int) == c) = true := by rw [beq_iff_eq]; omega
  go_enter Try.func20, Try.ntmps20
  go_wp2_with fail
  refine HV.out.mono ?_
  rintro e w1 ⟨rfl, hb⟩
  have hb' := bel_trans (bel_alloc (bel_alloc (Below.refl _ w) _) _) hb
  obtain ⟨q1, q2, q3, q4⟩ := span_boxes w w1 a b c d hb
  have HV2 := Lib.hid (valid_any c d w1)
  clear HV
  go_wp2_with fail
  refine HV2.out.mono ?_
  rintro e w2 ⟨rfl, hb2⟩
  have hb2' := bel_trans hb' hb2
  have hbb : Below ((w.alloc (SB a b)).alloc (SB c d)).heap.size ((w.alloc (SB a b)).alloc (SB c d)) w2 := bel_trans hb hb2
  obtain ⟨p1, p2, p3, p4⟩ := span_boxes w w2 a b c d hbb
  clear HV2 q1 q2 q3 q4
  go_wp2_with fail
  go_ret
  exact ⟨rfl, hb2'⟩

set_option maxHeartbeats 1600000 in
theorem rel_three (a b c d : Int) (w : World) (h : vld a b = true) (h2 : vld c d = true) (k1 : a < c) (k3 : c < b) (k4 : b < d) : Calls Try.prog 20 #[SP a b, SP c d] w fun e w' => e = .returned (.int .i64 3) ∧ Below w.heap.size w w' := by
  have HV := Lib.hid (valid_any a b ((w.alloc (SB a b)).alloc (SB c d)))
  have t1 : ((a : Int) == c) = false := by rw [beq_eq_false_iff_ne]; omega
  have t2 : ((b : Int) == c) = false := by rw [beq_eq_false_iff_ne]; omega
  go_enter Try.func20, Try.ntmps20
  go_wp2_with fail
  refine HV.out.mono ?_
  rintro e w1 ⟨rfl, hb⟩
  have hb' := bel_trans (bel_alloc (bel_alloc (Below.refl _ w) _) _) hb
  obtain ⟨q1, q2, q3, q4⟩ := span_boxes w w1 a b c d hb
  have HV2 := Lib.hid (valid_any c d w1)
  clear HV
  go_wp2_with fail
  refine HV2.out.mono ?_
  rintro e w2 ⟨rfl, hb2⟩
  have hb2' := bel_trans hb' hb2
  have hbb : Below ((w.alloc (SB a b)).alloc (SB c d)).heap.size ((w.alloc (SB a b)).alloc (SB c d)) w2 := bel_trans hb hb2
  obtain ⟨p1, p2, p3, p4⟩ := span_boxes w w2 a b c d hbb
  clear HV2 q1 q2 q3 q4
  go_wp2_with fail
  go_ret
  exact ⟨rfl, hb2'⟩

set_option maxHeartbeats 1600000 in
theorem rel_four (a b c d : Int) (w : World) (h : vld a b = true) (h2 : vld c d = true) (k1 : a < c) (k3 : c < b) (k4 : b ≤ d) (k5 : d ≤ b) : Calls Try.prog 20 #[SP a b, SP c d] w fun e w' => e = .returned (.int .i64 4) ∧ Below w.heap.size w w' := by
  have HV := Lib.hid (valid_any a b ((w.alloc (SB a b)).alloc (SB c d)))
  have t1 : ((a : Int) == c) = false := by rw [beq_eq_false_iff_ne]; omega
  have t2 : ((b : Int) == c) = false := by rw [beq_eq_false_iff_ne]; omega
  have t3 : ((b : Int) == d) = true := by rw [beq_iff_eq]; omega
  go_enter Try.func20, Try.ntmps20
  go_wp2_with fail
  refine HV.out.mono ?_
  rintro e w1 ⟨rfl, hb⟩
  have hb' := bel_trans (bel_alloc (bel_alloc (Below.refl _ w) _) _) hb
  obtain ⟨q1, q2, q3, q4⟩ := span_boxes w w1 a b c d hb
  have HV2 := Lib.hid (valid_any c d w1)
  clear HV
  go_wp2_with fail
  refine HV2.out.mono ?_
  rintro e w2 ⟨rfl, hb2⟩
  have hb2' := bel_trans hb' hb2
  have hbb : Below ((w.alloc (SB a b)).alloc (SB c d)).heap.size ((w.alloc (SB a b)).alloc (SB c d)) w2 := bel_trans hb hb2
  obtain ⟨p1, p2, p3, p4⟩ := span_boxes w w2 a b c d hbb
  clear HV2 q1 q2 q3 q4
  go_wp2_with fail
  go_ret
  exact ⟨rfl, hb2'⟩

set_option maxHeartbeats 1600000 in
theorem rel_five (a b c d : Int) (w : World) (h : vld a b = true) (h2 : vld c d = true) (k1 : a < c) (k3 : c < b) (k4 : d < b) : Calls Try.prog 20 #[SP a b, SP c d] w fun e w' => e = .returned (.int .i64 5) ∧ Below w.heap.size w w' := by
  have HV := Lib.hid (valid_any a b ((w.alloc (SB a b)).alloc (SB c d)))
  have t1 : ((a : Int) == c) = false := by rw [beq_eq_false_iff_ne]; omega
  have t2 : ((b : Int) == c) = false := by rw [beq_eq_false_iff_ne]; omega
  have t3 : ((b : Int) == d) = false := by rw [beq_eq_false_iff_ne]; omega
  go_enter Try.func20, Try.ntmps20
  go_wp2_with fail
  refine HV.out.mono ?_
  rintro e w1 ⟨rfl, hb⟩
  have hb' := bel_trans (bel_alloc (bel_alloc (Below.refl _ w) _) _) hb
  obtain ⟨q1, q2, q3, q4⟩ := span_boxes w w1 a b c d hb
  have HV2 := Lib.hid (valid_any c d w1)
  clear HV
  go_wp2_with fail
  refine HV2.out.mono ?_
  rintro e w2 ⟨rfl, hb2⟩
  have hb2' := bel_trans hb' hb2
  have hbb : Below ((w.alloc (SB a b)).alloc (SB c d)).heap.size ((w.alloc (SB a b)).alloc (SB c d)) w2 := bel_trans hb hb2
  obtain ⟨p1, p2, p3, p4⟩ := span_boxes w w2 a b c d hbb
  clear HV2 q1 q2 q3 q4
  go_wp2_with fail
  go_ret
  exact ⟨rfl, hb2'⟩

theorem rel_ord (a b c d : Int) (w : World) (h : vld a b = true) (h2 : vld c d = true) (k : ¬ (c < a ∨ a = c ∧ d < b)) : Calls Try.prog 20 #[SP a b, SP c d] w fun e w' => e = .returned (.int .i64 (rel0 a b c d)) ∧ Below w.heap.size w w' := by
  have v1 := of_decide_eq_true h
  have v2 := of_decide_eq_true h2
  unfold rel0
  split
  · exact rel_eq a b c d w h h2 (by omega) (by omega) (by omega) (by omega)
  split
  · exact rel_six a b c d w h h2 (by omega) (by omega) (by omega)
  split
  · exact rel_one a b c d w h h2 (by omega) (by omega)
  split
  · exact rel_two a b c d w h h2 (by omega) (by omega) (by omega)
  split
  · exact rel_three a b c d w h h2 (by omega) (by omega) (by omega)
  split
  · exact rel_four a b c d w h h2 (by omega) (by omega) (by omega) (by omega)
  · exact rel_five a b c d w h h2 (by omega) (by omega) (by omega)
theorem rel0_bd (a b c d : Int) : 1 ≤ rel0 a b c d ∧ rel0 a b c d ≤ 7 := by unfold rel0; repeat' split <;> omega

set_option maxHeartbeats 1600000 in
theorem rel_gt (a b c d : Int) (w : World) (h : vld a b = true) (h2 : vld c d = true) (k1 : c < a) : Calls Try.prog 20 #[SP a b, SP c d] w fun e w' => e = .returned (.int .i64 (14 - rel0 c d a b)) ∧ Below w.heap.size w w' := by
  have HV := Lib.hid (valid_any a b ((w.alloc (SB a b)).alloc (SB c d)))
  go_enter Try.func20, Try.ntmps20
  go_wp2_with fail
  refine HV.out.mono ?_
  rintro e w1 ⟨rfl, hb⟩
  have hb' := bel_trans (bel_alloc (bel_alloc (Below.refl _ w) _) _) hb
  obtain ⟨q1, q2, q3, q4⟩ := span_boxes w w1 a b c d hb
  have HV2 := Lib.hid (valid_any c d w1)
  clear HV
  go_wp2_with fail
  refine HV2.out.mono ?_
  rintro e w2 ⟨rfl, hb2⟩
  have hb2' := bel_trans hb' hb2
  have hbb : Below ((w.alloc (SB a b)).alloc (SB c d)).heap.size ((w.alloc (SB a b)).alloc (SB c d)) w2 := bel_trans hb hb2
  obtain ⟨p1, p2, p3, p4⟩ := span_boxes w w2 a b c d hbb
  clear HV2 q1 q2 q3 q4
  have C := Lib.hid (rel_ord c d a b w2 h2 h (by omega))
  have hbd := rel0_bd c d a b
  clear hb hb2 hbb hb'
  go_wp2_with fail
  refine C.out.mono ?_
  rintro e w3 ⟨rfl, hb3⟩
  have hb3' := bel_trans hb2' hb3
  clear C
  go_wp2_with fail
  go_ret
  exact ⟨rfl, hb3'⟩

set_option maxHeartbeats 1600000 in
theorem rel_ge (a b c d : Int) (w : World) (h : vld a b = true) (h2 : vld c d = true) (k1 : a ≤ c) (k2 : c ≤ a) (k3 : d < b) : Calls Try.prog 20 #[SP a b, SP c d] w fun e w' => e = .returned (.int .i64 (14 - rel0 c d a b)) ∧ Below w.heap.size w w' := by
  have HV := Lib.hid (valid_any a b ((w.alloc (SB a b)).alloc (SB c d)))
  have t1 : ((a : Int) == c) = true := by rw [beq_iff_eq]; omega
  go_enter Try.func20, Try.ntmps20
  go_wp2_with fail
  refine HV.out.mono ?_
  rintro e w1 ⟨rfl, hb⟩
  have hb' := bel_trans (bel_alloc (bel_alloc (Below.refl _ w) _) _) hb
  obtain ⟨q1, q2, q3, q4⟩ := span_boxes w w1 a b c d hb
  have HV2 := Lib.hid (valid_any c d w1)
  clear HV
  go_wp2_with fail
  refine HV2.out.mono ?_
  rintro e w2 ⟨rfl, hb2⟩
  have hb2' := bel_trans hb' hb2
  have hbb : Below ((w.alloc (SB a b)).alloc (SB c d)).heap.size ((w.alloc (SB a b)).alloc (SB c d)) w2 := bel_trans hb hb2
  obtain ⟨p1, p2, p3, p4⟩ := span_boxes w w2 a b c d hbb
  clear HV2 q1 q2 q3 q4
  have C := Lib.hid (rel_ord c d a b w2 h2 h (by omega))
  have hbd := rel0_bd c d a b
  clear hb hb2 hbb hb'
  go_wp2_with fail
  refine C.out.mono ?_
  rintro e w3 ⟨rfl, hb3⟩
  have hb3' := bel_trans hb2' hb3
  clear C
  go_wp2_with fail
  go_ret
  exact ⟨rfl, hb3'⟩

theorem rel_any (a b c d : Int) (w : World) : Calls Try.prog 20 #[SP a b, SP c d] w fun e w' => e = .returned (.int .i64 (relP a b c d)) ∧ Below w.heap.size w w' := by
  unfold relP
  cases h : vld a b with
  | false => exact rel_bad1 a b c d w h
  | true =>
    cases h2 : vld c d with
    | false => exact rel_bad2 a b c d w h h2
    | true =>
      rw [if_pos ⟨rfl, rfl⟩]
      split
      · rename_i k
        by_cases k1 : c < a
        · exact rel_gt a b c d w h h2 k1
        · exact rel_ge a b c d w h h2 (by omega) (by omega) (by omega)
      · rename_i k
        exact rel_ord a b c d w h h2 k
end Go.Proofs.Ytlpdligkjihkeaa.Tb
