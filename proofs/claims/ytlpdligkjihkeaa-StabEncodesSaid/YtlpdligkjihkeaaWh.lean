/- An argument that is a slice of bytes, opened. -/
import Derived.Test.YtlpdligkjihkeaaWg
import Derived.Test.YtlpdligkjihkeaaUc
import Derived.ChangeSlices
set_option linter.unusedVariables false
set_option linter.unusedSimpArgs false
namespace Go.Proofs.Ytlpdligkjihkeaa.Tb
open Go.ChangeShapes Go.WideShapes Go.ChangeAt Go.RowKit Go.Joins

theorem cellsU8 : Try.prog.cellsOf 5 = 1 := by kernel_rfl
theorem wf_u8 {n : Int} (h : (Lit.int .u8 n).wf = true) : 0 ≤ n ∧ n ≤ 255 := by
  simp only [Lit.wf, Bool.and_eq_true, decide_eq_true_eq] at h
  exact ⟨h.1, h.2⟩
set_option maxRecDepth 1000000 in
theorem open_bytes {H : Type} {enc : TypeId × Value → H} {W : World} {v : Value} {d : DataW H} {p : List MemPlace} {base : Nat} (hv : Value.okWide Try.prog W .any base 41 v)
    (h : DataW.Trod enc Try.prog W 0 (fun _ => true) true 41 v d p) :
    ∃ (A : Option Addr) (c : Nat) (xs : List Nat), v = .slice A xs.length c ∧ RdB W A xs ∧ xs.length ≤ c ∧ Byt xs ∧ xs.length ≤ maxLen := by
  obtain ⟨a0, len, cap, rfl⟩ := okWide_slice Try.underlying41 hv
  obtain ⟨fuel, hf⟩ := h
  rcases open_ints Try.underlying41 Try.underlying5 cellsU8 hf with ⟨hcs, _⟩ | ⟨a, len', cap', zs, hcs, _, hl, hm, hz, _, hx, hw⟩
  · simp [Value.cells] at hcs
    obtain ⟨rfl, rfl, rfl⟩ := hcs
    exact ⟨none, 0, [], rfl, fun h => by simp at h, by simp, fun x hx => by simp at hx, by simp⟩
  · simp [Value.cells] at hcs
    obtain ⟨rfl, rfl, rfl⟩ := hcs
    simp only [if_true] at hz
    have hln : ((zs.take len).map Int.toNat).length = len := by simp; omega
    refine ⟨some a, cap, (zs.take len).map Int.toNat, by rw [hln], fun h0 => ?_, by rw [hln]; exact hl, ?_, by rw [hln]; omega⟩
    · rw [hln] at h0
      obtain ⟨b, off, spot⟩ := a
      have c0 := hx 0 (by omega)
      have hspot : spot = none := by simpa [Addr.add] using World.cell?_spot c0
      subst hspot
      refine ⟨b, off, rfl, fun j hj => ?_⟩
      rw [hln] at hj
      have hj' : j < zs.length := by omega
      have := hx j hj'
      rw [addr_add] at this
      rw [this]
      have hwj := wf_u8 (hw (zs[j]) (List.getElem_mem hj'))
      have e1 : zs.getD j 0 = zs[j] := by rw [List.getD_eq_getElem?_getD, List.getElem?_eq_getElem hj']; rfl
      have e2 : ((zs.take len).map Int.toNat).getD j 0 = (zs[j]).toNat := by
        rw [List.getD_eq_getElem?_getD, List.getElem?_map, List.getElem?_take_of_lt hj, List.getElem?_eq_getElem hj']
        rfl
      rw [e1, e2]
      congr 2
      omega
    · intro x hx'
      simp only [List.mem_map] at hx'
      obtain ⟨z, hz', rfl⟩ := hx'
      have := wf_u8 (hw z (List.mem_of_mem_take hz'))
      omega
end Go.Proofs.Ytlpdligkjihkeaa.Tb
