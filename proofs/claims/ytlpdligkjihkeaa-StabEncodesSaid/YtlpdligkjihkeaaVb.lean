/- The cyclic check, walked. -/
import Derived.Test.YtlpdligkjihkeaaVa
import Derived.Test.YtlpdligkjihkeaaProg
import Derived.Below
import Derived.WalkKit
import Derived.OwnWalk
import Derived.BigQuiet
import Derived.Deep.QuietTactic
import Derived.Deep.Draws
import Derived.Lib.Hide
import Derived.KernelRfl
import Derived.Laws.BitsAllLaws
import Derived.Outline
set_option linter.unusedVariables false
set_option linter.unusedSimpArgs false
namespace Go.Proofs.Ytlpdligkjihkeaa.Tb
open Go.RowKit

theorem u32_and1 (x : Nat) (h : x < 4294967296) : bits BinOp.and IntKind.u32 (x : Int) 1 = ((x % 2 : Nat) : Int) := by
  have := u32_and_nat x 1 h (by omega)
  rw [Nat.and_one_is_mod] at this
  exact this
theorem u32_and15 (x : Nat) (h : x < 4294967296) : bits BinOp.and IntKind.u32 (x : Int) 15 = ((x % 16 : Nat) : Int) := by
  have := u32_and_nat x 15 h (by omega)
  rw [show (15 : Nat) = 2 ^ 4 - 1 from rfl, Nat.and_two_pow_sub_one_eq_mod] at this
  exact this
theorem u32_xorP (x : Nat) (h : x < 4294967296) : bits BinOp.xor IntKind.u32 ((x : Int) / 2) 2197175160 = ((x / 2 ^^^ 2197175160 : Nat) : Int) := by
  have := u32_xor_nat (x / 2) 2197175160 (by omega) (by omega)
  rw [← this]
  rfl
theorem u32_t {x : Nat} (h : x < 4294967296) (hp : x % 2 = 1) : (bits BinOp.and IntKind.u32 (x : Int) 1 == 1) = true := by rw [u32_and1 x h, hp]; rfl
theorem u32_f {x : Nat} (h : x < 4294967296) (hp : ¬ x % 2 = 1) : (bits BinOp.and IntKind.u32 (x : Int) 1 == 1) = false := by rw [u32_and1 x h, show x % 2 = 0 by omega]; rfl

set_option maxHeartbeats 1600000 in
theorem step_any (v k : Nat) (w : World) (hv : v < 4294967296) (hk : k ≤ 64) : Calls Try.prog 63 #[.int .u32 v, .int .i64 k] w fun e w' => e = .returned (.int .u32 (stpN k v)) ∧ w' = w := by
  go_enter Try.func63, Try.ntmps63
  go_wp2
  go_loop [0, 6] (fun x i => ∃ j : Nat, j ≤ k ∧ i = .int .i64 j ∧ x = .int .u32 (stpN j v)) (fun _ i => k - (intOf i).toNat)
  case atStart => exact ⟨0, Nat.zero_le _, rfl, rfl⟩
  case round =>
    obtain ⟨j, hj, rfl, rfl⟩ := hrel
    have hl := stpN_lt hv j
    have HS : Hid (stpN (j + 1) v = stp (stpN j v)) := Lib.hid rfl
    obtain ⟨x, hx⟩ : ∃ x, x = stpN j v := ⟨_, rfl⟩
    rw [← hx] at hl HS ⊢
    have HX := Lib.hid hx
    clear hx
    by_cases hlt : j < k
    · by_cases hp : x % 2 = 1
      · have ht := u32_t hl hp
        have HP := Lib.hid hp
        clear hp
        go_wp2
        go_round
        case measure => simp [intOf]; omega
        case rel => exact ⟨j + 1, by omega, by go_num, by rw [HS.out, stp, if_pos HP.out, u32_xorP x hl]⟩
      · have ht := u32_f hl hp
        have HP := Lib.hid hp
        clear hp
        go_wp2
        go_round
        case measure => simp [intOf]; omega
        case rel => exact ⟨j + 1, by omega, by go_num, by rw [HS.out, stp, if_neg HP.out]; rfl⟩
    · go_wp2
      go_ret
      obtain rfl : j = k := by omega
      exact ⟨by rw [HX.out]; rfl, rfl⟩

set_option maxHeartbeats 1600000 in
theorem Rstep_any (v : Nat) (w : World) (hv : v < 4294967296) : Calls Try.prog 64 #[.int .u32 v] w fun e w' => e = .returned (.int .u32 (stpN 8 v)) ∧ w' = w := by
  go_enter Try.func64, Try.ntmps64
  go_wp2
  go_loop [0, 3] (fun x i => ∃ j : Nat, j ≤ 8 ∧ i = .int .i64 j ∧ x = .int .u32 (stpN j v)) (fun _ i => 8 - (intOf i).toNat)
  case atStart => exact ⟨0, Nat.zero_le _, rfl, rfl⟩
  case round =>
    obtain ⟨j, hj, rfl, rfl⟩ := hrel
    have hl := stpN_lt hv j
    have HS : Hid (stpN (j + 1) v = stp (stpN j v)) := Lib.hid rfl
    obtain ⟨x, hx⟩ : ∃ x, x = stpN j v := ⟨_, rfl⟩
    rw [← hx] at hl HS ⊢
    have HX := Lib.hid hx
    clear hx
    by_cases hlt : j < 8
    · by_cases hp : x % 2 = 1
      · have ht := u32_t hl hp
        have HP := Lib.hid hp
        clear hp
        go_wp2
        go_round
        case measure => simp [intOf]; omega
        case rel => exact ⟨j + 1, by omega, by go_num, by rw [HS.out, stp, if_pos HP.out, u32_xorP x hl]⟩
      · have ht := u32_f hl hp
        have HP := Lib.hid hp
        clear hp
        go_wp2
        go_round
        case measure => simp [intOf]; omega
        case rel => exact ⟨j + 1, by omega, by go_num, by rw [HS.out, stp, if_neg HP.out]; rfl⟩
    · go_wp2
      go_ret
      obtain rfl : j = 8 := by omega
      exact ⟨by rw [HX.out]; rfl, rfl⟩
end Go.Proofs.Ytlpdligkjihkeaa.Tb
