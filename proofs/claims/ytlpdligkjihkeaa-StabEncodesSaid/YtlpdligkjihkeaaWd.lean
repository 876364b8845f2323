/- Plain: which bytes are the encoding of an index. -/
import Derived.Test.YtlpdligkjihkeaaWc
set_option linter.unusedVariables false
set_option linter.unusedSimpArgs false
namespace Go.Proofs.Ytlpdligkjihkeaa.Tb
open Go.RowKit

def prs : List Nat → List (Int × Int)
  | x :: y :: L => ((x : Int), (x : Int) + (y : Int) + 1) :: prs L
  | _ => []
def flatP (xs : List (Int × Int)) : List Nat := xs.flatMap fun x => [x.1.toNat, (x.2 - x.1 - 1).toNat]
theorem prs_snoc (x y : Nat) : ∀ (k : Nat) (M : List Nat), M.length = 2 * k → prs (M ++ [x, y]) = prs M ++ [((x : Int), (x : Int) + (y : Int) + 1)]
  | 0, M, h => by
    obtain rfl : M = [] := List.eq_nil_of_length_eq_zero (by omega)
    rfl
  | k + 1, [], h => by simp only [List.length_nil] at h; omega
  | k + 1, [_], h => by simp only [List.length_cons, List.length_nil] at h; omega
  | k + 1, a :: b :: M, h => by
    have := prs_snoc x y k M (by simp at h; omega)
    simp only [List.cons_append, prs, this]
theorem prs_len : ∀ (k : Nat) (M : List Nat), M.length = 2 * k → (prs M).length = k
  | 0, M, h => by
    obtain rfl : M = [] := List.eq_nil_of_length_eq_zero (by omega)
    rfl
  | k + 1, [], h => by simp only [List.length_nil] at h; omega
  | k + 1, [_], h => by simp only [List.length_cons, List.length_nil] at h; omega
  | k + 1, a :: b :: M, h => by
    have := prs_len k M (by simp at h; omega)
    simp only [prs, List.length_cons, this]
theorem flatP_len (xs : List (Int × Int)) : (flatP xs).length = 2 * xs.length := by
  induction xs with
  | nil => rfl
  | cons x xs ih =>
    show ([_, _] ++ flatP xs).length = _
    simp only [List.length_append, List.length_cons, List.length_nil, ih]
    omega
theorem prs_flat : ∀ (xs : List (Int × Int)), xs.all okV = true → prs (flatP xs) = xs
  | [], _ => rfl
  | x :: xs, h => by
    simp only [List.all_cons, Bool.and_eq_true] at h
    have hv := of_decide_eq_true h.1
    show prs ([x.1.toNat, (x.2 - x.1 - 1).toNat] ++ flatP xs) = _
    simp only [List.cons_append, List.nil_append, prs, prs_flat xs h.2]
    obtain ⟨a, b⟩ := x
    simp only at hv
    have e1 : ((a.toNat : Nat) : Int) = a := by omega
    have e2 : (((b - a - 1).toNat : Nat) : Int) = b - a - 1 := by omega
    simp only
    rw [e1, e2, show a + (b - a - 1) + 1 = b by omega]
theorem encP_flat (xs : List (Int × Int)) : encP xs = encN (flatP xs) := by
  induction xs with
  | nil => rfl
  | cons x xs ih =>
    show (uv _ ++ uv _) ++ encP xs = encN ([_, _] ++ flatP xs)
    rw [encN_app, encN_cons, encN_cons, encN_nil, List.append_nil, ih]
theorem encI_eq (xs : List (Int × Int)) : encI xs = sealL (encN (xs.length :: flatP xs)) := by
  unfold encI
  rw [encN_cons, encP_flat]
theorem seal_inj {a b : List Nat} (h : sealL a = sealL b) : a = b := by
  have hl := congrArg List.length h
  rw [sealL_len, sealL_len] at hl
  unfold sealL at h
  exact (List.append_inj h (by omega)).1
theorem encN_inj {L M : List Nat} (hL : ∀ x ∈ L, x < 18446744073709551616) (hM : ∀ x ∈ M, x < 18446744073709551616) (h : encN L = encN M) : L = M := by
  obtain ⟨L', e1, e2⟩ := encN_split M L [] hM hL (by rw [List.append_nil]; exact h)
  cases L' with
  | nil => rw [e1, List.append_nil]
  | cons l L' =>
    rw [encN_cons] at e2
    have := congrArg List.length e2
    have hp := uv_pos l
    simp at this
    omega
theorem flat_small (xs : List (Int × Int)) (hv : xs.all okV = true) (he : xs.all okE = true) : SmallN (flatP xs) := by
  intro x hx
  simp only [flatP, List.mem_flatMap] at hx
  obtain ⟨y, hy, h⟩ := hx
  have h1 := of_decide_eq_true (List.all_eq_true.1 hv y hy)
  have h2 := of_decide_eq_true (List.all_eq_true.1 he y hy)
  simp at h
  omega
/-- The list has an encoding. -/
theorem Okl.small {xs : List (Int × Int)} (h : Okl xs) : SmallN (xs.length :: flatP xs) := by
  intro x hx
  rcases List.mem_cons.1 hx with rfl | hx
  · have := h.l; omega
  · exact flat_small xs h.v h.e x hx
/-- Sealed numbers are an encoding of no other list than this. -/
theorem enc_uniq {L : List Nat} {xs : List (Int × Int)} (hL : ∀ x ∈ L, x < 18446744073709551616) (h : Okl xs) (e : encI xs = sealL (encN L)) : L = xs.length :: flatP xs := by
  rw [encI_eq] at e
  exact encN_inj hL h.small.lt (seal_inj e).symm
theorem enc_none {ps : List Nat} {bs : List Nat} (hs : ∀ p, sealL p ≠ bs) (xs : List (Int × Int)) : encI xs ≠ bs := by rw [encI_eq]; exact hs _
theorem enc_nonum {ps : List Nat} (hs : ∀ L, SmallN L → ps ≠ encN L) (xs : List (Int × Int)) (h : Okl xs) : encI xs ≠ sealL ps := fun e => by
  rw [encI_eq] at e
  exact hs _ h.small (seal_inj e).symm
theorem enc_even {L : List Nat} (hL : SmallN L) (he : L.length % 2 = 0) (xs : List (Int × Int)) (h : Okl xs) : encI xs ≠ sealL (encN L) := fun e => by
  have := enc_uniq hL.lt h e
  rw [this, List.length_cons, flatP_len] at he
  omega
theorem enc_odd {n : Nat} {M : List Nat} (hL : SmallN (n :: M)) {xs : List (Int × Int)} (h : Okl xs) (e : encI xs = sealL (encN (n :: M))) : prs M = xs := by
  have := enc_uniq hL.lt h e
  injection this with e1 e2
  rw [e2, prs_flat xs h.v]
theorem encN_len (L : List Nat) : L.length ≤ (encN L).length := by
  induction L with
  | nil => simp
  | cons u L ih =>
    rw [encN_cons, List.length_append, List.length_cons]
    have := uv_pos u
    omega
theorem encI_byt (xs : List (Int × Int)) : Byt (encI xs) := by
  unfold encI sealL
  exact Byt.app.2 ⟨Byt.app.2 ⟨uv_byt _, encP_byt _⟩, sumB_byt _⟩
end Go.Proofs.Ytlpdligkjihkeaa.Tb
