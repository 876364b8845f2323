/- (*Index).find, walked. -/
import Derived.Test.YtlpdligkjihkeaaTn0
set_option linter.unusedVariables false
set_option linter.unusedSimpArgs false
namespace Go.Proofs.Ytlpdligkjihkeaa.Tb
open Go.RowKit Go.Shelf
attribute [local go_sem] Oper.semAt_some

theorem find_bad (A : Option Addr) (s1 s2 : Int) (kf : Nat) (kcb : Array Value) (w : World) (hv : vld s1 s2 = false) :
    Calls Try.prog 28 #[.pointer A, SP s1 s2, .func (.func kf) #[] kcb] w fun e w' => e = .returned (.slice none 0 0) ∧ Below w.heap.size w w' := by
  have hb1 : Below w.heap.size w (((w.alloc (.cells #[.pointer A] 23)).alloc (SB s1 s2)).alloc (.cells #[.func (.func kf) #[] kcb] 56)) := bel_alloc (bel_alloc (bel_alloc (Below.refl _ _) _) _) _
  have HV := Lib.hid (rel_bad1 s1 s2 s1 s2 (((w.alloc (.cells #[.pointer A] 23)).alloc (SB s1 s2)).alloc (.cells #[.func (.func kf) #[] kcb] 56)) hv)
  have HB := Lib.hid hb1
  clear hb1
  go_enter Try.func28, Try.ntmps28
  go_wp2_with fail
  refine HV.out.mono ?_
  rintro e w1 ⟨rfl, hb⟩
  have HB2 := Lib.hid (bel_trans HB.out hb)
  clear hb
  go_wp2
  go_ret
  exact ⟨rfl, HB2.out⟩
end Go.Proofs.Ytlpdligkjihkeaa.Tb
