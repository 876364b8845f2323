/-
  TokensBuilds: which lists of numbers have a stream, the error of the others, and the stream's length.
  For every input: no condition.
-/
import Derived.Test.YtnldnaogbadajaaM7
set_option linter.unusedVariables false
namespace Go.Proofs.Ytnldnaogbadajaa
open Go.ChangeShapes Go.WideShapes Go.ChangeAt Go.RowKit Go.Joins
namespace Tb
theorem tokensBuilds_own : ownKnob Try.prog.godebug = none := by kernel_rfl

set_option maxRecDepth 100000 in
theorem tokensBuilds_lifted (os : Os) (started : os.Started) (H : Type) (enc : TypeId × Value → H) :
    ReturnsInHanded {} Try.checked os 3 .any (Rows.tokensBuildsSpec.pre6 enc Try.prog Try.f3 Rows.tokensBuildsRow.domain false) (Rows.tokensBuildsSpec.post enc Try.prog Try.f3 false true false false) := by
  refine returnsInHanded_of_change (C := Try.checked) tokensBuilds_own started (by kernel_rfl) Try.func3
    (ChangeSpec.witness6 (enc := enc) (C := Try.checked) false ⟨#[], #[.slice none 0 0], []⟩ 8 (by kernel_rfl) (by kernel_rfl) (by kernel_rfl) (by kernel_rfl)) ?_
  intro W base args ds gs before hval0 hW _ _
  have hval : ∀ (j : Nat) t v, Try.f3.params[j]? = some t → args[j]? = some v → Value.okWide Try.prog W .any base t v := hval0
  have hW' := hW
  obtain ⟨p, q, hA0, hV, rfl, _, _⟩ := hW
  have hA : DataW.TrodAll enc Try.prog W 0 (fun _ => true) true Try.f3.params.toList args.toList ds p := hA0
  rw [Try.params3] at hA hval
  obtain ⟨v0, d0, rfl, rfl, h0⟩ := trodAll_one hA
  obtain ⟨rfl, rfl⟩ := trodVars_none hV
  have hlt0 : ∀ x ∈ p, x.block < W.heap.size := fun x hx => by simpa using hW'.lt x (by simpa using hx)
  obtain ⟨A0, c0, xs0, rfl, hrd0, hcp0, hml0⟩ := open_zs (hval 0 22 v0 rfl rfl) h0
  clear hA0 hval0 hval
  simp only [List.append_nil] at hW'
  refine (tokensBuilds_walk A0 c0 xs0 W hrd0 hcp0 hml0).mono fun e W' ⟨he, hb⟩ => ?_
  subst he
  exact ⟨_, rfl, _, _, _, [], p ++ [], [], hW', trodAll_mk1 (shut_bool Try.underlying4 _), trodAll_mk1 (by rw [List.append_nil]; exact Below.trod laidOut (by kernel_rfl) (of_decide_eq_true (by kernel_rfl)) h0 hb hlt0), rfl, hb.frame _, fun h => by cases h⟩
end Tb

theorem tokensBuilds_holds : Rows.TokensBuildsSaid :=
  OpenClaim.holds_of_wide 3 Try.f3 rfl rfl rfl rfl rfl rfl rfl ⟨rfl, rfl, rfl, rfl, rfl⟩ rfl rfl rfl rfl rfl (by kernel_rfl) Try.func3 (by kernel_rfl)
    (of_decide_eq_true (by kernel_rfl)) (by unfold Func.isWrapper; first | (rw [if_pos (by decide +kernel)]; kernel_rfl) | (rw [if_neg (by decide +kernel)]; exact ⟨rfl, rfl⟩))
    (fun os started H enc _ => Tb.tokensBuilds_lifted os started H enc)
#print axioms tokensBuilds_holds
end Go.Proofs.Ytnldnaogbadajaa
