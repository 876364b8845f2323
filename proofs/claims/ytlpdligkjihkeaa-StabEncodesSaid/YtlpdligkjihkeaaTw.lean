/- The laws StabStabs and StabAsks, walked. -/
import Derived.Test.YtlpdligkjihkeaaTu
import Derived.Deep.RegionHeld3
set_option linter.unusedVariables false
set_option linter.unusedSimpArgs false
namespace Go.Proofs.Ytlpdligkjihkeaa.Tb
open Go.RowKit

theorem same_refl (L : List Int) (m : Nat) (hm : m = L.length) (hl : m ≤ 1000000) (A B : Option Addr) (ca cb : Nat) (w : World) (ha : RdI w A L) (hb : RdI w B L) :
    Calls Try.prog 13 #[.slice A m ca, .slice B m cb] w fun e w' => e = .returned (.bool true) ∧ Below w.heap.size w w' := by
  subst hm
  have := SameInts_any A B ca cb L L w ha hb hl hl
  rwa [sameB_t rfl] at this

/-- An answer of length m. -/
def AnsM (w : World) (L : List Int) (m : Nat) (e : Ending) (w' : World) : Prop := ∃ A c, e = .returned (.slice A m c) ∧ RdI w' A L ∧ Below w.heap.size w w'
theorem Ans.m {w w' : World} {L : List Int} {e : Ending} (h : Ans w L e w') (m : Nat) (hm : m = L.length) : AnsM w L m e w' := by
  subst hm
  exact h

set_option maxHeartbeats 4000000 in
theorem stabStabs_walk (A : Option Addr) (c : Nat) (xs : List (Int × Int)) (pos : Int) (w : World) (ha : RdS w A xs) (hA : A = none → xs.length = 0 ∧ c = 0) (hm : xs.length ≤ maxLen) :
    Calls Try.prog 4 #[.slice A xs.length c, .int .i64 pos] w fun e w' => e = .returned (.bool true) ∧ Below w.heap.size w w' := by
  unfold maxLen at hm
  obtain ⟨n, hn⟩ : ∃ n, n = xs.length := ⟨_, rfl⟩
  by_cases hl : 100 < n
  · rw [← hn] at hm ⊢
    have g1 : (100 : Int) < (n : Int) := by omega
    clear ha hA hn
    go_enter Try.func4, Try.ntmps4
    go_wp2
    go_ret
    exact ⟨rfl, Below.refl _ _⟩
  · have g1 : ¬ (100 : Int) < (n : Int) := by omega
    by_cases hok : xs.all okV = true ∧ xs.all okE = true
    · have HB := Lib.hid (built_ok A c xs w ha hA ⟨by omega, hok.1, hok.2⟩)
      obtain ⟨L, hL⟩ : ∃ L, L = ansS xs pos := ⟨_, rfl⟩
      obtain ⟨m, hmL⟩ : ∃ m, m = L.length := ⟨_, rfl⟩
      have hml : m ≤ 100 := by rw [hmL, hL]; have := ansS_len xs pos; omega
      have HS := Lib.hid (fun p w1 (h : Idx w1 p xs) => (Stab_ans xs p pos w1 (by omega) h).mono fun e w' h => h.m m (by rw [hmL, hL]))
      have HR := Lib.hid (fun w1 (hb : Below w.heap.size w w1) => (RStab_any A c xs pos w1 (ha.below hb) (by omega)).mono fun e w' (h : Ans w1 (selK xs (atP pos) xs.length) e w') => h.m m (by rw [hmL, hL, ans_stab hok.1 hok.2]; rfl))
      have el : selK xs (atP pos) xs.length = L := by rw [hL, ans_stab hok.1 hok.2]; rfl
      rw [el] at HR
      rw [← hL] at HS
      rw [← hn] at HB HR hm ⊢
      have HML := Lib.hid hmL
      clear ha hA hn hok el hL hmL
      go_enter Try.func4, Try.ntmps4
      go_wp2_with fail
      refine HB.out.mono ?_
      rintro e w1 ⟨p, rfl, hi, hb1⟩
      have HS1 := Lib.hid (HS.out p w1 hi)
      have HB1 := Lib.hid hb1
      clear hi hb1 HB HS
      go_wp2_with fail
      refine HS1.out.mono ?_
      rintro e w2 ⟨A2, c2, rfl, hr2, hb2⟩
      have HB2 := Lib.hid (bel_trans HB1.out hb2)
      have HR2 := Lib.hid hr2
      have HRS := Lib.hid (HR.out w2 HB2.out)
      clear hr2 hb2 HB1 HS1 HR
      go_wp2_with fail
      refine HRS.out.mono ?_
      rintro e w3 ⟨A3, c3, rfl, hr3, hb3⟩
      have HB3 := Lib.hid (bel_trans HB2.out hb3)
      have HSM := Lib.hid (same_refl L m HML.out (by omega) A2 A3 c2 c3 w3 (HR2.out.below hb3) hr3)
      clear hr3 hb3 HB2 HRS HR2
      go_wp2_with fail
      refine HSM.out.mono ?_
      rintro e w4 ⟨rfl, hb4⟩
      have HB4 := Lib.hid (bel_trans HB3.out hb4)
      clear hb4 HSM HB3
      have HW := Lib.hid (awake_any w4)
      go_wp2_with (go_at_call 12; refine HW.out.mono ?_; rintro e w5 ⟨rfl, hb5⟩; have HB5 := Lib.hid (bel_trans HB4.out hb5); clear hb5)
      go_ret
      exact ⟨rfl, HB5.out⟩
    · have HB := Lib.hid (built_bad A c xs w ha (by omega) hok)
      rw [← hn] at HB hm ⊢
      clear ha hA hn hok
      go_enter Try.func4, Try.ntmps4
      go_wp2_with fail
      refine HB.out.mono ?_
      rintro e w1 ⟨rfl, hb1⟩
      have HB1 := Lib.hid hb1
      clear hb1 HB
      go_wp2_with fail
      refine (awake_any w1).mono ?_
      rintro e w3 ⟨rfl, hb3⟩
      have HB3 := Lib.hid (bel_trans HB1.out hb3)
      clear hb3 HB1
      go_wp2
      go_ret
      exact ⟨rfl, HB3.out⟩
end Go.Proofs.Ytlpdligkjihkeaa.Tb
