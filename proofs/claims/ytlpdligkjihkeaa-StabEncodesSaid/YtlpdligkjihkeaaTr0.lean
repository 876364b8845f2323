/- The reference's answers, as lists. -/
import Derived.Test.YtlpdligkjihkeaaTq
set_option linter.unusedVariables false
set_option linter.unusedSimpArgs false
namespace Go.Proofs.Ytlpdligkjihkeaa.Tb
open Go.RowKit

def selK (xs : List (Int × Int)) (k : Int → Int → Bool) (m : Nat) : List Int := sel m fun i => k (bgn xs i) (enn xs i)
theorem selK_len (xs : List (Int × Int)) (k : Int → Int → Bool) (m : Nat) : (selK xs k m).length ≤ m := sel_len _ _
theorem selK_succ (xs : List (Int × Int)) (k : Int → Int → Bool) (m : Nat) : selK xs k (m + 1) = selK xs k m ++ (if k (xs.getD m (0, 0)).1 (xs.getD m (0, 0)).2 then [(m : Int)] else []) := sel_succ _ _
def askL (xs : List (Int × Int)) (s1 s2 : Int) (k : Int → Int → Bool) : List Int := if vld s1 s2 = true then selK xs k xs.length else []

/-- What the index answers is what the reference answers. -/
theorem ok_at {xs : List (Int × Int)} (h : xs.all okV = true) {i : Nat} (hi : i < xs.length) : 0 ≤ bgn xs i ∧ bgn xs i < enn xs i := by
  have := all_get (0, 0) h hi
  unfold okV vld at this
  exact of_decide_eq_true this
theorem okE_at {xs : List (Int × Int)} (h : xs.all okE = true) {i : Nat} (hi : i < xs.length) : enn xs i ≤ 2147483647 := by
  have := all_get (0, 0) h hi
  unfold okE at this
  exact of_decide_eq_true this
theorem bool_ext {a b : Bool} (h : a = true ↔ b = true) : a = b := by cases a <;> cases b <;> simp_all
theorem ans_over {xs : List (Int × Int)} (s1 s2 : Int) : ansK xs s1 s2 (fun _ _ => true) = askL xs s1 s2 fun a b => ovl a b s1 s2 := by
  unfold ansK askL selK
  congr 1
  refine sel_congr fun i hi => bool_ext ?_
  simp [hitN, ovl]
theorem ans_in {xs : List (Int × Int)} (h : xs.all okV = true) (s1 s2 : Int) : ansK xs s1 s2 (fun a b => cont s1 s2 a b) = askL xs s1 s2 fun a b => cont s1 s2 a b := by
  unfold ansK askL selK
  congr 1
  refine sel_congr fun i hi => bool_ext ?_
  have := ok_at h hi
  simp only [hitN, cont, Bool.and_eq_true, decide_eq_true_eq]
  omega
theorem ans_around {xs : List (Int × Int)} (h : xs.all okV = true) (s1 s2 : Int) : ansK xs s1 s2 (fun a b => cont a b s1 s2) = askL xs s1 s2 fun a b => cont a b s1 s2 := by
  unfold ansK askL selK
  by_cases hv : vld s1 s2 = true
  · rw [if_pos hv, if_pos hv]
    refine sel_congr fun i hi => bool_ext ?_
    have hv' := hv
    unfold vld at hv'
    have hv2 := of_decide_eq_true hv'
    simp only [hitN, cont, Bool.and_eq_true, decide_eq_true_eq]
    omega
  · rw [if_neg hv, if_neg hv]
theorem ans_stab {xs : List (Int × Int)} (h : xs.all okV = true) (h2 : xs.all okE = true) (pos : Int) : ansS xs pos = selK xs (fun a b => decide (a ≤ pos ∧ pos < b)) xs.length := by
  unfold ansS ansK selK
  by_cases hp : 0 ≤ pos ∧ pos < 2147483647
  · rw [if_pos hp, if_pos (by unfold vld; exact decide_eq_true (by omega))]
    refine sel_congr fun i hi => bool_ext ?_
    simp only [hitN, Bool.and_true, decide_eq_true_eq]
    omega
  · rw [if_neg hp]
    symm
    unfold sel
    rw [List.filter_eq_nil_iff.2 fun i hi => ?_, List.map_nil]
    have hi' := List.mem_range.1 hi
    have a1 := ok_at h hi'
    have a2 := okE_at h2 hi'
    simp only [decide_eq_true_eq]
    omega
theorem ansS_len (xs : List (Int × Int)) (pos : Int) : (ansS xs pos).length ≤ xs.length := by
  unfold ansS
  split
  · exact ansK_len _ _ _ _
  · simp
theorem askL_len (xs : List (Int × Int)) (s1 s2 : Int) (k : Int → Int → Bool) : (askL xs s1 s2 k).length ≤ xs.length := by
  unfold askL
  split
  · exact selK_len _ _ _
  · simp
end Go.Proofs.Ytlpdligkjihkeaa.Tb
