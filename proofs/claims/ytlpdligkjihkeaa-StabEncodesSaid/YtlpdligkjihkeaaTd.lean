/- The comparison of stab.Build, walked. -/
import Derived.Test.YtlpdligkjihkeaaTc
import Derived.Test.YtlpdligkjihkeaaSw
set_option linter.unusedVariables false
set_option linter.unusedSimpArgs false
namespace Go.Proofs.Ytlpdligkjihkeaa.Tb
open Go.RowKit Go.Shelf Go.Lib Go.Sort Go.Proofs.Ytlpdligkjihkeaa.Sw

def cmpI (a b : Int) : Int := if a < b then -1 else if b < a then 1 else 0
set_option maxHeartbeats 1600000 in
theorem Compare_any (a b : Int) (w : World) : Calls Try.prog 48 #[.int .i64 a, .int .i64 b] w fun e w' => e = .returned (.int .i64 (cmpI a b)) ∧ w' = w := by
  unfold cmpI
  have t1 : (a != a) = false := by simp
  have t2 : (b != b) = false := by simp
  by_cases h1 : a < b
  · rw [if_pos h1]
    go_enter Try.func48, Try.ntmps48
    go_wp2
    go_ret
    exact ⟨rfl, rfl⟩
  · by_cases h2 : b < a
    · rw [if_neg h1, if_pos h2]
      go_enter Try.func48, Try.ntmps48
      go_wp2
      go_ret
      exact ⟨rfl, rfl⟩
    · rw [if_neg h1, if_neg h2]
      go_enter Try.func48, Try.ntmps48
      go_wp2
      go_ret
      exact ⟨rfl, rfl⟩

set_option maxHeartbeats 1600000 in
/-- The closure: it reads the list through the box. -/
theorem less_any (bx b off n c : Nat) (i j : Int) (x y : Int) (w : World) (hi : 0 ≤ i) (hi2 : i < n) (hj : 0 ≤ j) (hj2 : j < n) (hn : n ≤ 1000000)
    (hb : w.cell? ⟨bx, 0, none⟩ = some (.slice (some ⟨b, off, none⟩) n c))
    (hx : w.cell? ⟨b, off + i.toNat * 2, none⟩ = some (.int .i64 x)) (hy : w.cell? ⟨b, off + j.toNat * 2, none⟩ = some (.int .i64 y)) :
    Calls Try.prog 47 #[.int .i64 i, .int .i64 j, .pointer (some ⟨bx, 0, none⟩)] w fun e w' => e = .returned (.int .i64 (cmpI x y)) ∧ ∃ q, w' = w.drewN q := by
  obtain ⟨i, rfl⟩ := Int.eq_ofNat_of_zero_le hi
  obtain ⟨j, rfl⟩ := Int.eq_ofNat_of_zero_le hj
  rw [Int.toNat_natCast] at hx hy
  go_enter Try.func47, Try.ntmps47
  go_wp2_with fail
  go_quiet ((go_at_call 48; exact Calls.quiet_of_same (Compare_any _ _ _)))
  go_wp2
  go_ret
  exact ⟨rfl, nq, rfl⟩
end Go.Proofs.Ytlpdligkjihkeaa.Tb
