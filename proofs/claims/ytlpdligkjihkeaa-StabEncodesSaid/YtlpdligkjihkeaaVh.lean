/- The reference's Unseal, walked. -/
import Derived.Test.YtlpdligkjihkeaaVg
set_option linter.unusedVariables false
set_option linter.unusedSimpArgs false
namespace Go.Proofs.Ytlpdligkjihkeaa.Tb
open Go.RowKit

set_option maxHeartbeats 1600000 in
theorem RUnseal_short (A : Option Addr) (n c : Nat) (w : World) (h : n < 4) :
    Calls Try.prog 43 #[.slice A n c] w fun e w' => e = .returned (.tuple #[.slice none 0 0, .bool false]) ∧ w' = w := by
  go_enter Try.func43, Try.ntmps43
  go_wp2
  go_ret2
  exact ⟨rfl, rfl⟩

set_option maxRecDepth 100000 in
set_option maxHeartbeats 3200000 in
theorem RUnseal_long (A : Option Addr) (m c : Nat) (ps ts : List Nat) (w : World) (hp : ps.length = m) (ht : ts.length = 4) (ha : RdB w A (ps ++ ts)) (hA : A ≠ none) (hb : Byt (ps ++ ts)) (hm : m ≤ 1000000000) (hc : m + 4 ≤ c) :
    Calls Try.prog 43 #[.slice A (m + 4) c] w fun e w' => ∃ v, e = .returned (.tuple #[v, .bool (decide (sealL ps = ps ++ ts))]) ∧ OwnB w' w.heap.size v ps ∧ Below w.heap.size w w' := by
  have hl : (ps ++ ts).length = m + 4 := by simp [hp, ht]
  have hbp := (Byt.app.1 hb).1
  have hA' : A = none → ps.length = 0 ∧ c = 0 := fun h => absurd h hA
  have HSE : Hid (∀ w1, Below w.heap.size w w1 → Calls Try.prog 42 #[.slice A m c] w1 fun e w' => ∃ A' c' n', e = .returned (.slice A' n' c') ∧ Hid (∀ w2, Below w'.heap.size w' w2 → (convert 41 9 (.slice A' n' c')).run Try.prog w2 = .ok (.string (strN (sealL ps))) w2) ∧ Hid (Below w.heap.size w w') ∧ Hid (Below w1.heap.size w1 w')) := Lib.hid fun w1 h1 => by
    have := RSeal_any A c ps w1 (rdB_take (ha.below h1)) hA' hbp (by omega)
    rw [hp] at this
    refine this.mono ?_
    rintro e w' ⟨v, rfl, ho, hb2⟩
    obtain ⟨A', c', rfl, hr, _⟩ := ho.rd
    exact ⟨A', c', _, rfl, Lib.hid fun w2 h2 => conv_B (hr.below h2), Lib.hid (h1.trans (hb2.mono h1.size)), Lib.hid hb2⟩
  have HC : Hid (∀ w1, Below w.heap.size w w1 → (convert 41 9 (.slice A (m + 4) c)).run Try.prog w1 = .ok (.string (strN (ps ++ ts))) w1) := Lib.hid fun w1 h1 => by
    rw [← hl]
    exact conv_B (ha.below h1)
  have HA := Lib.hid (rdB_take ha)
  have HP := Lib.hid hp
  have HAn := Lib.hid hA'
  have h3 := strN_eqL (xs := sealL ps) (ys := ps ++ ts) (by unfold sealL; exact Byt.app.2 ⟨hbp, sumB_byt _⟩) hb
  have h4 := strN_eq (xs := sealL ps) (ys := ps ++ ts) (by unfold sealL; exact Byt.app.2 ⟨hbp, sumB_byt _⟩) hb
  obtain ⟨r, hr⟩ : ∃ r : Bool, r = decide (sealL ps = ps ++ ts) := ⟨_, rfl⟩
  obtain ⟨s1, e1⟩ : ∃ s, s = strN (sealL ps) := ⟨_, rfl⟩
  obtain ⟨s2, e2⟩ : ∃ s, s = strN (ps ++ ts) := ⟨_, rfl⟩
  rw [← hr] at h3 h4 ⊢
  rw [← e1] at h3 h4 HSE
  rw [← e2] at h3 h4 HC
  have C0 := HC.out w.drew (bd_drew (Below.refl _ _))
  have g1 : (0 : Int) ≤ (m : Int) := by omega
  have g2 : (m : Int) + 4 ≤ (c : Int) := by omega
  have g3 : (m : Int) ≤ (c : Int) := by omega
  have B0 := Lib.hid (bd_drew (Below.refl w.heap.size w))
  clear ha hA hA' hb hbp hl ht hp hr e1 e2
  go_enter Try.func43, Try.ntmps43
  go_wp2_with fail
  go_region_law
    (first
      | (refine step_appB (.const (.slice none 0 0)) (.tmp 13) w.heap.size (.slice none 0 0) [] A c ps rfl (by rfl) (by rfl) (OwnB.nil _ _) (by rw [HP.out]; rfl) HAn.out (HA.out.below B0.out) (by rw [HP.out]; simp; omega) (Nat.le_refl _) ?_
         intro v' v2 hown hb2 _ _
         have B2 : Hid (Below w.heap.size w v2) := Lib.hid (B0.out.trans hb2)
         have C2 := HC.out v2 B2.out
         have HO : Hid (OwnB v2 w.heap.size v' ps) := Lib.hid hown
         clear hown hb2)
      | (go_simp
         go_at_call 42
         with_reducible refine (HSE.out _ B2.out).mono ?_
         rintro e v1 ⟨A', c', n', rfl, h1, B1, B4⟩
         have C1 := HC.out v1 B1.out
         have D1 := h1.out v1 (Below.refl _ _)
         have HO2 : Hid (OwnB v1 w.heap.size v' ps) := Lib.hid (HO.out.below B4.out)))
  all_goals go_wp2
  all_goals go_ret2
  all_goals exact ⟨v', rfl, HO2.out, B1.out⟩
end Go.Proofs.Ytlpdligkjihkeaa.Tb
