/- Tokens: the opener of a list of ints, with the spot. -/
import Derived.Test.YtnldnaogbadajaaQJt
import Derived.Test.YtnldnaogbadajaaM7
import Derived.Test.YtnldnaogbadajaaRows
import Derived.Deep.SlicePairs
import Derived.Lib.SmallJoins
import Derived.ProofKit
import Derived.OpenShut
import Derived.Carry
import Derived.ChangeSlices
set_option linter.unusedVariables false
set_option linter.unusedSimpArgs false
namespace Go.Proofs.Ytnldnaogbadajaa.Tb
open Go.ChangeShapes Go.WideShapes Go.ChangeAt Go.RowKit Go.Joins

set_option maxRecDepth 1000000 in
theorem open_zs2 {H : Type} {enc : TypeId × Value → H} {W : World} {v : Value} {d : DataW H} {p : List MemPlace} {base : Nat} (hv : Value.okWide Try.prog W .any base 22 v)
    (h : DataW.Trod enc Try.prog W 0 (fun _ => true) true 22 v d p) :
    ∃ (A : Option Addr) (c : Nat) (zs : List Int), v = .slice A zs.length c ∧ RdZ W A zs ∧ zs.length ≤ c ∧ zs.length ≤ maxLen ∧ ∀ a, A = some a → 0 < c → a.spot = none := by
  obtain ⟨a0, len, cap, rfl⟩ := okWide_slice Try.underlying22 hv
  obtain ⟨fuel, hf⟩ := h
  rcases open_ints Try.underlying22 Try.underlying3 cells3 hf with ⟨hcs, _⟩ | ⟨a, len', cap', zs, hcs, _, hl, hm, hz, _, hx, hw⟩
  · simp [Value.cells] at hcs
    obtain ⟨rfl, rfl, rfl⟩ := hcs
    exact ⟨none, 0, [], rfl, fun h => by simp at h, by simp, by simp, fun _ h => by cases h⟩
  · simp [Value.cells] at hcs
    obtain ⟨rfl, rfl, rfl⟩ := hcs
    simp only [if_true] at hz
    have hln : (zs.take len).length = len := by simp; omega
    refine ⟨some a, cap, zs.take len, by rw [hln], fun h0 => ?_, by rw [hln]; exact hl, by rw [hln]; omega, fun a' ha hc => ?_⟩
    rotate_left
    · cases ha
      have c0 := hx 0 (by omega)
      simpa [Addr.add] using World.cell?_spot c0
    rw [hln] at h0
    obtain ⟨b, off, spot⟩ := a
    have c0 := hx 0 (by omega)
    have hspot : spot = none := by simpa [Addr.add] using World.cell?_spot c0
    subst hspot
    refine ⟨b, off, rfl, fun j hj => ?_⟩
    rw [hln] at hj
    have hj' : j < zs.length := by omega
    have := hx j hj'
    rw [addr_add] at this
    rw [this]
    have e1 : zs.getD j 0 = zs[j] := by rw [List.getD_eq_getElem?_getD, List.getElem?_eq_getElem hj']; rfl
    have e2 : (zs.take len).getD j 0 = zs[j] := by
      rw [List.getD_eq_getElem?_getD, List.getElem?_take_of_lt hj, List.getElem?_eq_getElem hj']
      rfl
    rw [e1, e2]
end Go.Proofs.Ytnldnaogbadajaa.Tb
