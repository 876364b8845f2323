/- stab.Build, walked: the lists that have none. -/
import Derived.Test.YtlpdligkjihkeaaTi
set_option linter.unusedVariables false
set_option linter.unusedSimpArgs false
namespace Go.Proofs.Ytlpdligkjihkeaa.Tb
open Go.RowKit

set_option maxHeartbeats 8000000 in
set_option maxRecDepth 1000000 in
theorem Build_long (A : Option Addr) (n c : Nat) (w : World) (hm : 4096 < n) (hm2 : n ≤ 9223372036854775807) :
    Calls Try.prog 25 #[.slice A n c] w fun e w' => e = .returned (.tuple #[.pointer none, .int .i64 2]) ∧ Below w.heap.size w w' := by
  have g1 : (4096 : Int) < (n : Int) := by omega
  go_enter Try.func25, Try.ntmps25
  go_wp2
  go_ret2
  exact ⟨rfl, bel_alloc (Below.refl _ _) _⟩

set_option maxHeartbeats 8000000 in
set_option maxRecDepth 1000000 in
theorem Build_bad (A : Option Addr) (c : Nat) (xs : List (Int × Int)) (w : World) (ha : RdS w A xs) (hm : xs.length ≤ 4096) (hbad : ¬ (xs.all okV = true ∧ xs.all okE = true)) :
    Calls Try.prog 25 #[.slice A xs.length c] w fun e w' => e = .returned (.tuple #[.pointer none, .int .i64 8]) ∧ Below w.heap.size w w' := by
  have HA := Lib.hid ha
  have HB := Lib.hid hbad
  clear ha hbad
  obtain ⟨n, hn⟩ : ∃ n, n = xs.length := ⟨_, rfl⟩
  rw [← hn] at hm ⊢
  have HN := Lib.hid hn
  clear hn
  go_enter Try.func25, Try.ntmps25
  go_wp2
  go_loopw [13] (fun s wr => ∃ i : Nat, s = .int .i64 i ∧ i ≤ n ∧ Below w.heap.size w wr ∧ Hid ((xs.take i).all okV = true ∧ (xs.take i).all okE = true)) (fun s _ => n - (intOf s).toNat)
  case atStart => exact ⟨0, rfl, by omega, bel_alloc (Below.refl _ _) _, rfl, rfl⟩
  case round =>
    obtain ⟨i, rfl, hin, hbw, HT⟩ := hrel
    by_cases hlt : i < n
    · obtain ⟨b1, o1, e1, c1⟩ := (HA.out.below hbw) (by rw [← HN.out]; omega)
      obtain ⟨c1', c2'⟩ := c1 i (by rw [← HN.out]; exact hlt)
      clear c1
      obtain ⟨x, y, hx, hy⟩ : ∃ x y, x = (xs.getD i (0, 0)).1 ∧ y = (xs.getD i (0, 0)).2 := ⟨_, _, rfl, rfl⟩
      rw [← hx] at c1'
      rw [← hy] at c2'
      have HX := Lib.hid hx
      have HY := Lib.hid hy
      clear hx hy
      subst e1
      have g1 : (i : Int) < (n : Int) := by omega
      have hbA := hbw.alloc hbw.size (SB x y)
      clear hbw
      cases hv : vld x y with
      | false =>
        have CR := Lib.hid (rel_bad1 x y x y (wr.alloc (SB x y)) hv)
        clear hv
        go_wp2_with fail
        refine CR.out.mono ?_
        rintro e w2 ⟨rfl, hb2⟩
        have hbw2 := bel_trans hbA hb2
        clear CR
        go_wp2
        go_ret2
        exact ⟨rfl, hbw2⟩
      | true =>
        have CR := Lib.hid (rel_eq x y x y (wr.alloc (SB x y)) hv hv (Int.le_refl _) (Int.le_refl _) (Int.le_refl _) (Int.le_refl _))
        have HV := Lib.hid hv
        clear hv
        by_cases he : y ≤ 2147483647
        · go_wp2_with fail
          refine CR.out.mono ?_
          rintro e w2 ⟨rfl, hb2⟩
          have hbw2 := bel_trans hbA hb2
          have hy2 : w2.cell? ⟨wr.heap.size, 1, none⟩ = some (.int .i64 y) := (hb2.cell (p := ⟨_, 1, none⟩) (by simp)).trans (by simp)
          clear hbA hb2 CR
          go_wp2
          go_roundw
          case measure => simp [intOf]; omega
          case rel => exact ⟨i + 1, by go_num, by omega, hbw2, all_step okV xs (0, 0) i (by rw [← HN.out]; exact hlt) HT.out.1 (by unfold okV; rw [← HX.out, ← HY.out]; exact HV.out), all_step okE xs (0, 0) i (by rw [← HN.out]; exact hlt) HT.out.2 (by unfold okE; rw [← HY.out]; exact decide_eq_true he)⟩
        · go_wp2_with fail
          refine CR.out.mono ?_
          rintro e w2 ⟨rfl, hb2⟩
          have hbw2 := bel_trans hbA hb2
          have hy2 : w2.cell? ⟨wr.heap.size, 1, none⟩ = some (.int .i64 y) := (hb2.cell (p := ⟨_, 1, none⟩) (by simp)).trans (by simp)
          clear hbA hb2 CR
          go_wp2
          go_ret2
          exact ⟨rfl, hbw2⟩
    · exfalso
      have h := HT.out
      rw [List.take_of_length_le (by rw [← HN.out]; omega)] at h
      exact HB.out h
end Go.Proofs.Ytlpdligkjihkeaa.Tb
