/- The law StabBuilds, walked; arguments that are lists of spans, opened. -/
import Derived.Test.YtlpdligkjihkeaaTs
import Derived.Test.YtlpdligkjihkeaaRows
import Derived.Deep.SlicePairs
import Derived.Lib.SmallJoins
import Derived.ProofKit
import Derived.OpenShut
import Derived.Carry
set_option linter.unusedVariables false
set_option linter.unusedSimpArgs false
namespace Go.Proofs.Ytlpdligkjihkeaa.Tb
open Go.ChangeShapes Go.WideShapes Go.ChangeAt Go.RowKit Go.Joins

theorem cells22 : Try.prog.cellsOf 35 = 2 := by kernel_rfl
theorem laidOut : laidOutB Try.prog = true := by kernel_rfl
theorem cells3 : Try.prog.cellsOf 3 = 1 := by kernel_rfl

set_option maxRecDepth 1000000 in
theorem open_spans {H : Type} {enc : TypeId × Value → H} {W : World} {v : Value} {d : DataW H} {p : List MemPlace} {base : Nat} (hv : Value.okWide Try.prog W .any base 22 v)
    (h : DataW.Trod enc Try.prog W 0 (fun _ => true) true 22 v d p) :
    ∃ (A : Option Addr) (c : Nat) (xs : List (Int × Int)), v = .slice A xs.length c ∧ RdS W A xs ∧ (A = none → xs.length = 0 ∧ c = 0) ∧ xs.length ≤ maxLen := by
  obtain ⟨a0, len, cap, rfl⟩ := okWide_slice Try.underlying22 hv
  obtain ⟨fuel, hf⟩ := h
  rcases Deep.open_slice_pairs Try.underlying22 Try.underlying35 cells22 rfl rfl cells3 cells3 hf with ⟨hcs, _⟩ | ⟨a, len', cap', m, k, V0, V1, D0, D1, P0, P1, hcs, _, hl, hm, hmm, _, hx⟩
  · simp [Value.cells] at hcs
    obtain ⟨rfl, rfl, rfl⟩ := hcs
    exact ⟨none, 0, [], rfl, fun h => by simp at h, fun _ => ⟨rfl, rfl⟩, by simp⟩
  · simp [Value.cells] at hcs
    obtain ⟨rfl, rfl, rfl⟩ := hcs
    have hlm : len ≤ m := by rw [hmm]; split <;> omega
    have each : ∀ i, i < len → ∃ q : Int × Int, V0 i = .int .i64 q.1 ∧ V1 i = .int .i64 q.2 := fun i hi => by
      obtain ⟨_, _, h0, h1⟩ := hx i (by omega)
      obtain ⟨x, e0, _, _⟩ := DataW.trod_int Try.underlying3 h0
      obtain ⟨y, e1, _, _⟩ := DataW.trod_int Try.underlying3 h1
      exact ⟨(x, y), by simpa using e0, by simpa using e1⟩
    obtain ⟨q, hq⟩ := Deep.choose_lt each
    have hln : ((List.range len).map q).length = len := by simp
    refine ⟨some a, cap, (List.range len).map q, by rw [hln], fun h0 => ?_, (fun h => by cases h), by rw [hln]; omega⟩
    rw [hln] at h0
    obtain ⟨b, off, spot⟩ := a
    have c0 := (hx 0 (by omega)).1
    have hspot : spot = none := by simpa [Addr.add] using World.cell?_spot c0
    subst hspot
    refine ⟨b, off, rfl, fun j hj => ?_⟩
    rw [hln] at hj
    obtain ⟨h0, h1, _, _⟩ := hx j (by omega)
    obtain ⟨e0, e1⟩ := hq j hj
    have e : ((List.range len).map q).getD j (0, 0) = q j := by simp [List.getD_eq_getElem?_getD, hj]
    rw [e, ← e0, ← e1]
    have ap : ∀ j, (⟨b, off, none⟩ : Addr).add j = ⟨b, off + j, none⟩ := fun j => by unfold Addr.add; split <;> simp_all
    rw [ap] at h0 h1
    exact ⟨h0, by rw [Nat.add_assoc]; exact h1⟩

set_option maxHeartbeats 4000000 in
theorem stabBuilds_walk (A : Option Addr) (c : Nat) (xs : List (Int × Int)) (w : World) (ha : RdS w A xs) (hA : A = none → xs.length = 0 ∧ c = 0) (hm : xs.length ≤ maxLen) :
    Calls Try.prog 3 #[.slice A xs.length c] w fun e w' => e = .returned (.bool true) ∧ Below w.heap.size w w' := by
  unfold maxLen at hm
  obtain ⟨n, hn⟩ : ∃ n, n = xs.length := ⟨_, rfl⟩
  by_cases hl : 100 < n
  · rw [← hn] at hm ⊢
    have g1 : (100 : Int) < (n : Int) := by omega
    clear ha hA hn
    go_enter Try.func3, Try.ntmps3
    go_wp2
    go_ret
    exact ⟨rfl, Below.refl _ _⟩
  · have g1 : ¬ (100 : Int) < (n : Int) := by omega
    by_cases hok : xs.all okV = true ∧ xs.all okE = true
    · have HB := Lib.hid (built_ok A c xs w ha hA ⟨by omega, hok.1, hok.2⟩)
      have HL := Lib.hid (fun p w1 (h : Idx w1 p xs) => Len_any xs p w1 h)
      rw [← hn] at HB HL hm ⊢
      clear ha hA hn hok
      go_enter Try.func3, Try.ntmps3
      go_wp2_with fail
      refine HB.out.mono ?_
      rintro e w1 ⟨p, rfl, hi, hb1⟩
      have HL1 := Lib.hid (HL.out p w1 hi)
      have HB1 := Lib.hid hb1
      clear hi hb1 HB HL
      go_wp2_with fail
      refine HL1.out.mono ?_
      rintro e w2 ⟨rfl, rfl⟩
      clear HL1
      go_wp2_with fail
      refine (awake_any w2).mono ?_
      rintro e w3 ⟨rfl, hb3⟩
      have HB3 := Lib.hid (bel_trans HB1.out hb3)
      clear hb3 HB1
      go_wp2
      go_ret
      exact ⟨rfl, HB3.out⟩
    · have HB := Lib.hid (built_bad A c xs w ha (by omega) hok)
      rw [← hn] at HB hm ⊢
      clear ha hA hn hok
      go_enter Try.func3, Try.ntmps3
      go_wp2_with fail
      refine HB.out.mono ?_
      rintro e w1 ⟨rfl, hb1⟩
      have HB1 := Lib.hid hb1
      clear hb1 HB
      go_wp2_with fail
      refine (awake_any w1).mono ?_
      rintro e w3 ⟨rfl, hb3⟩
      have HB3 := Lib.hid (bel_trans HB1.out hb3)
      clear hb3 HB1
      go_wp2
      go_ret
      exact ⟨rfl, HB3.out⟩
end Go.Proofs.Ytlpdligkjihkeaa.Tb
