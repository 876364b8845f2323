/- The three ways to keep a span, walked. -/
import Derived.Test.YtlpdligkjihkeaaTl
set_option linter.unusedVariables false
set_option linter.unusedSimpArgs false
namespace Go.Proofs.Ytlpdligkjihkeaa.Tb
open Go.RowKit

set_option maxHeartbeats 400000 in
theorem keepO (a b : Int) (w : World) : Calls Try.prog 29 #[SP a b] w fun e w' => e = .returned (.bool true) ∧ Below w.heap.size w w' := by
  go_enter Try.func29, Try.ntmps29
  go_wp2
  go_ret
  exact ⟨rfl, bel_alloc (Below.refl _ _) _⟩

set_option maxHeartbeats 400000 in
theorem keepI (a b s1 s2 : Int) (B : Nat) (w : World) (hB : w.heap[B]? = some (SB s1 s2)) : Calls Try.prog 34 #[SP a b, .pointer (some ⟨B, 0, none⟩)] w fun e w' => e = .returned (.bool (cont s1 s2 a b)) ∧ Below w.heap.size w w' := by
  have hlt := blk_lt hB
  have c1 : w.cell? ⟨B, 0, none⟩ = some (.int .i64 s1) := by rw [blk_cell hB]; rfl
  have c2 : w.cell? ⟨B, 1, none⟩ = some (.int .i64 s2) := by rw [blk_cell hB]; rfl
  clear hB
  by_cases h1 : s1 ≤ a
  · by_cases h2 : b ≤ s2
    · rw [show cont s1 s2 a b = true from decide_eq_true ⟨h1, h2⟩]
      go_enter Try.func34, Try.ntmps34
      go_wp2
      go_ret
      exact ⟨rfl, bel_alloc (Below.refl _ _) _⟩
    · rw [show cont s1 s2 a b = false from decide_eq_false (by omega)]
      go_enter Try.func34, Try.ntmps34
      go_wp2
      go_ret
      exact ⟨rfl, bel_alloc (Below.refl _ _) _⟩
  · rw [show cont s1 s2 a b = false from decide_eq_false (by omega)]
    go_enter Try.func34, Try.ntmps34
    go_wp2
    go_ret
    exact ⟨rfl, bel_alloc (Below.refl _ _) _⟩

set_option maxHeartbeats 400000 in
theorem keepA (a b s1 s2 : Int) (B : Nat) (w : World) (hB : w.heap[B]? = some (SB s1 s2)) : Calls Try.prog 30 #[SP a b, .pointer (some ⟨B, 0, none⟩)] w fun e w' => e = .returned (.bool (cont a b s1 s2)) ∧ Below w.heap.size w w' := by
  have hlt := blk_lt hB
  have c1 : w.cell? ⟨B, 0, none⟩ = some (.int .i64 s1) := by rw [blk_cell hB]; rfl
  have c2 : w.cell? ⟨B, 1, none⟩ = some (.int .i64 s2) := by rw [blk_cell hB]; rfl
  clear hB
  by_cases h1 : a ≤ s1
  · by_cases h2 : s2 ≤ b
    · rw [show cont a b s1 s2 = true from decide_eq_true ⟨h1, h2⟩]
      go_enter Try.func30, Try.ntmps30
      go_wp2
      go_ret
      exact ⟨rfl, bel_alloc (Below.refl _ _) _⟩
    · rw [show cont a b s1 s2 = false from decide_eq_false (by omega)]
      go_enter Try.func30, Try.ntmps30
      go_wp2
      go_ret
      exact ⟨rfl, bel_alloc (Below.refl _ _) _⟩
  · rw [show cont a b s1 s2 = false from decide_eq_false (by omega)]
    go_enter Try.func30, Try.ntmps30
    go_wp2
    go_ret
    exact ⟨rfl, bel_alloc (Below.refl _ _) _⟩
end Go.Proofs.Ytlpdligkjihkeaa.Tb
