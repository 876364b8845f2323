/- Numbers of variable length are read, walked. -/
import Derived.Test.YtlpdligkjihkeaaVj
set_option linter.unusedVariables false
set_option linter.unusedSimpArgs false
namespace Go.Proofs.Ytlpdligkjihkeaa.Tb
open Go.RowKit

theorem u8_and127 (c : Nat) (h : c < 256) : bits BinOp.and IntKind.u8 (c : Int) 127 = ((c % 128 : Nat) : Int) := by
  have := u8_and_nat c 127 h (by omega)
  rw [show (127 : Nat) = 2 ^ 7 - 1 from rfl, Nat.and_two_pow_sub_one_eq_mod] at this
  exact this
theorem p128 (i : Nat) : 2 ^ (7 * i) = 128 ^ i := by rw [Nat.pow_mul]
theorem fit64 {i y : Nat} (hi : i ≤ 9) (hy : y < 128) (h9 : i = 9 → y ≤ 1) : y * 128 ^ i ≤ 9223372036854775808 := by
  rcases Nat.lt_or_ge i 9 with h | h
  · have h1 := Nat.pow_le_pow_right (n := 128) (by omega) (show i ≤ 8 by omega)
    have e8 : (128 : Nat) ^ 8 = 72057594037927936 := by decide
    have := Nat.mul_le_mul (show y ≤ 127 by omega) h1
    omega
  · obtain rfl : i = 9 := by omega
    have e9 : (128 : Nat) ^ 9 = 9223372036854775808 := by decide
    have := h9 rfl
    rw [e9]
    omega
theorem orL {i y v : Nat} (hi : i ≤ 9) (hy : y < 128) (h9 : i = 9 → y ≤ 1) (hv : v < 128 ^ i) : bits BinOp.or IntKind.u64 (v : Int) (IntKind.u64.wrap ((y : Int) * 2 ^ (7 * i))) = ((v + y * 128 ^ i : Nat) : Int) := by
  have hf := fit64 hi hy h9
  have e1 : (y : Int) * 2 ^ (7 * i) = ((y * 128 ^ i : Nat) : Int) := by rw [← p128]; push_cast; rfl
  have hw : IntKind.u64.wrap ((y : Int) * 2 ^ (7 * i)) = ((y * 128 ^ i : Nat) : Int) := by
    rw [e1]
    have : ∀ z : Nat, z ≤ 9223372036854775808 → IntKind.u64.wrap (z : Int) = (z : Int) := fun z hz => by simp only [IntKind.wrap, IntKind.bits, IntKind.signed]; simp; omega
    exact this _ hf
  rw [hw]
  have hv9 : v < 9223372036854775808 + 1 := by
    have h1 := Nat.pow_le_pow_right (n := 128) (by omega) hi
    have e9 : (128 : Nat) ^ 9 = 9223372036854775808 := by decide
    omega
  rw [u64_or_nat v (y * 128 ^ i) (by omega) (by omega)]
  have := Nat.two_pow_add_eq_or_of_lt (i := 7 * i) (b := v) (by rw [p128]; exact hv) y
  rw [p128, Nat.mul_comm, Nat.add_comm] at this
  rw [Nat.or_comm, ← this]
theorem z_lt {i y v : Nat} (hy : y < 128) (hv : v < 128 ^ i) : v + y * 128 ^ i < 128 ^ (i + 1) := by
  have e1 : 128 ^ (i + 1) = 128 ^ i * 128 := Nat.pow_succ _ _
  have := Nat.mul_le_mul_right (128 ^ i) (show y ≤ 127 by omega)
  rw [e1]
  omega
/-- One byte more. -/
theorem tk_bad {x i v : Nat} {cs : List Nat} (h : i = 9 ∧ x ≠ 1) : tk (x :: cs) i v = (0, 0, 9) := by unfold tk; rw [if_pos h]
theorem tk_zero {x i v : Nat} {cs : List Nat} (h : x = 0 ∧ 0 < i) : tk (x :: cs) i v = (0, 0, 9) := by
  rw [tk]
  by_cases h1 : i = 9 ∧ x ≠ 1
  · rw [if_pos h1]
  · rw [if_neg h1, if_pos (show x < 128 by omega), if_pos h]
theorem tk_last {x i v : Nat} {cs : List Nat} (h1 : ¬ (i = 9 ∧ x ≠ 1)) (h2 : x < 128) (h3 : ¬ (x = 0 ∧ 0 < i)) : tk (x :: cs) i v = (v + x % 128 * 128 ^ i, i + 1, 0) := by
  unfold tk
  rw [if_neg h1, if_pos h2, if_neg h3, Nat.mod_eq_of_lt h2]
theorem tk_next {x i v : Nat} {cs : List Nat} (h1 : ¬ (i = 9 ∧ x ≠ 1)) (h2 : ¬ x < 128) (h3 : x < 256) : tk (x :: cs) i v = tk cs (i + 1) (v + x % 128 * 128 ^ i) := by
  rw [tk, if_neg h1, if_neg h2, show x - 128 = x % 128 by omega]

set_option maxRecDepth 100000 in
set_option maxHeartbeats 6400000 in
theorem Uvarint_any (A : Option Addr) (c : Nat) (bs : List Nat) (w : World) (ha : RdB w A bs) (hb : Byt bs) (hm : bs.length ≤ 1000000000) (r : Nat × Nat × Int) (hr : tk bs 0 0 = r) :
    Calls Try.prog 55 #[.slice A bs.length c] w fun e w' => e = .returned (.tuple #[.int .u64 r.1, .int .i64 r.2.1, .int .i64 r.2.2]) ∧ w' = w := by
  have HA := Lib.hid ha
  have HB := Lib.hid hb
  have HR := Lib.hid hr
  obtain ⟨n, hn⟩ : ∃ n, n = bs.length := ⟨_, rfl⟩
  rw [← hn] at hm ⊢
  have HN := Lib.hid hn
  clear ha hb hr hn
  go_enter Try.func55, Try.ntmps55
  go_wp2
  go_loop [2, 9] (fun x s => ∃ (i v : Nat), s = .int .i64 i ∧ x = .int .u64 v ∧ i ≤ n ∧ i ≤ 9 ∧ Hid (v < 128 ^ i) ∧ Hid (tk (bs.drop i) i v = r)) (fun _ s => n - (intOf s).toNat)
  case atStart => exact ⟨0, 0, rfl, rfl, by omega, by omega, Lib.hid (by decide), HR⟩
  case round =>
    obtain ⟨i, v, rfl, rfl, hin, hi9, HV, HT⟩ := hrel
    by_cases hlt : i < n
    · obtain ⟨b1, o1, e1, c1⟩ := HA.out (by rw [← HN.out]; omega)
      have cc := c1 i (by rw [← HN.out]; exact hlt)
      have hc2 := HB.out.at_ i
      have hd : bs.drop i = bs.getD i 0 :: bs.drop (i + 1) := by
        rw [List.drop_eq_getElem_cons (by rw [← HN.out]; exact hlt), List.getD_eq_getElem?_getD, List.getElem?_eq_getElem (by rw [← HN.out]; exact hlt)]
        rfl
      rw [hd] at HT
      obtain ⟨x, hx⟩ : ∃ x, x = bs.getD i 0 := ⟨_, rfl⟩
      rw [← hx] at cc hc2 HT
      clear c1 hd hx
      subst e1
      by_cases hbad : i = 9 ∧ x ≠ 1
      · have t9 : ((i : Int) == 9) = true := by rw [beq_iff_eq]; omega
        have tx : ((x : Int) != 1) = true := by rw [bne_iff_ne]; omega
        have HF : Hid (r = (0, 0, 9)) := Lib.hid (by rw [← HT.out]; exact tk_bad ⟨hbad.1, by omega⟩)
        clear hbad
        go_wp2
        go_ret3
        exact ⟨by rw [HF.out]; rfl, rfl⟩
      · obtain ⟨y, hy⟩ : ∃ y, y = x % 128 := ⟨_, rfl⟩
        have e127 : bits BinOp.and IntKind.u8 (x : Int) 127 = (y : Int) := by rw [hy]; exact u8_and127 x hc2
        have hy2 : y < 128 := by omega
        have hor := orL (i := i) (y := y) (v := v) hi9 hy2 (by intro h; omega) HV.out
        have hzl := z_lt (y := y) hy2 HV.out
        have g1 : (0 : Int) ≤ 7 * (i : Int) := by omega
        have g2 : 7 * (i : Int) < 64 := by omega
        have hcase : ((((i : Int) == 9) = true ∧ ((x : Int) != 1) = false) ∨ ((i : Int) == 9) = false) := by
          by_cases h9 : i = 9
          · exact .inl ⟨by rw [beq_iff_eq]; omega, by rw [bne_eq_false_iff_eq]; omega⟩
          · exact .inr (by rw [beq_eq_false_iff_ne]; omega)
        by_cases hlo : x < 128
        · by_cases hz : x = 0 ∧ 0 < i
          · have HF : Hid (r = (0, 0, 9)) := Lib.hid (by rw [← HT.out]; exact tk_zero hz)
            have tz : ((x : Int) == 0) = true := by rw [beq_iff_eq]; omega
            have tp : (0 : Int) < (i : Int) := by omega
            clear hy hzl hbad hz
            obtain ⟨z, hz⟩ : ∃ z, z = v + y * 128 ^ i := ⟨_, rfl⟩
            rw [← hz] at hor
            clear hz
            rcases hcase with ⟨t9, tx⟩ | t9
            all_goals
              go_wp2
              go_ret3
              exact ⟨by rw [HF.out]; rfl, rfl⟩
          · have HF0 := tk_last (x := x) (i := i) (v := v) (cs := bs.drop (i + 1)) (by omega) hlo hz
            rw [HT.out, ← hy] at HF0
            clear hy hzl hbad
            obtain ⟨z, hz0⟩ : ∃ z, z = v + y * 128 ^ i := ⟨_, rfl⟩
            rw [← hz0] at hor HF0
            have HF := Lib.hid HF0
            clear hz0 HF0
            by_cases hx0 : x = 0
            · have tz : ((x : Int) == 0) = true := by rw [beq_iff_eq]; omega
              have tp : ¬ (0 : Int) < (i : Int) := by omega
              clear hz hx0
              rcases hcase with ⟨t9, tx⟩ | t9
              all_goals
                go_wp2
                go_ret3
                exact ⟨by rw [HF.out]; rfl, rfl⟩
            · have tz : ((x : Int) == 0) = false := by rw [beq_eq_false_iff_ne]; omega
              clear hz hx0
              rcases hcase with ⟨t9, tx⟩ | t9
              all_goals
                go_wp2
                go_ret3
                exact ⟨by rw [HF.out]; rfl, rfl⟩
        · have hi8 : i < 9 := by
            rcases Nat.lt_or_ge i 9 with h | h
            · exact h
            · omega
          have HF0 := tk_next (x := x) (i := i) (v := v) (cs := bs.drop (i + 1)) (by omega) hlo hc2
          rw [HT.out, ← hy] at HF0
          clear hy hbad
          obtain ⟨z, hz0⟩ : ∃ z, z = v + y * 128 ^ i := ⟨_, rfl⟩
          rw [← hz0] at hor HF0 hzl
          have HF := Lib.hid HF0
          have HZ := Lib.hid hzl
          have t9 : ((i : Int) == 9) = false := by rw [beq_eq_false_iff_ne]; omega
          clear hz0 HF0 hzl hcase
          go_wp2
          go_round
          case measure => simp [intOf]; omega
          case rel => exact ⟨i + 1, z, by go_num, rfl, by omega, by omega, HZ, Lib.hid HF.out.symm⟩
    · have HF : Hid (r = (0, 0, 10)) := Lib.hid (by rw [← HT.out, List.drop_eq_nil_of_le (by rw [← HN.out]; omega)]; rfl)
      go_wp2
      go_ret3
      exact ⟨by rw [HF.out]; rfl, rfl⟩

set_option maxRecDepth 100000 in
set_option maxHeartbeats 6400000 in
theorem Take_any (A : Option Addr) (c : Nat) (bs : List Nat) (w : World) (ha : RdB w A bs) (hb : Byt bs) (hm : bs.length ≤ 1000000000) (r : Nat × Nat × Int) (hr : tk bs 0 0 = r) :
    Calls Try.prog 44 #[.slice A bs.length c] w fun e w' => e = .returned (.tuple #[.int .u64 r.1, .int .i64 r.2.1, .int .i64 r.2.2]) ∧ w' = w := by
  have HA := Lib.hid ha
  have HB := Lib.hid hb
  have HR := Lib.hid hr
  obtain ⟨n, hn⟩ : ∃ n, n = bs.length := ⟨_, rfl⟩
  rw [← hn] at hm ⊢
  have HN := Lib.hid hn
  clear ha hb hr hn
  go_enter Try.func44, Try.ntmps44
  go_wp2
  go_loop [5, 10] (fun x s => ∃ (i v : Nat), s = .int .i64 i ∧ x = .int .u64 v ∧ i ≤ n ∧ i ≤ 9 ∧ Hid (v < 128 ^ i) ∧ Hid (tk (bs.drop i) i v = r)) (fun _ s => n - (intOf s).toNat)
  case atStart => exact ⟨0, 0, rfl, rfl, by omega, by omega, Lib.hid (by decide), HR⟩
  case round =>
    obtain ⟨i, v, rfl, rfl, hin, hi9, HV, HT⟩ := hrel
    by_cases hlt : i < n
    · obtain ⟨b1, o1, e1, c1⟩ := HA.out (by rw [← HN.out]; omega)
      have cc := c1 i (by rw [← HN.out]; exact hlt)
      have hc2 := HB.out.at_ i
      have hd : bs.drop i = bs.getD i 0 :: bs.drop (i + 1) := by
        rw [List.drop_eq_getElem_cons (by rw [← HN.out]; exact hlt), List.getD_eq_getElem?_getD, List.getElem?_eq_getElem (by rw [← HN.out]; exact hlt)]
        rfl
      rw [hd] at HT
      obtain ⟨x, hx⟩ : ∃ x, x = bs.getD i 0 := ⟨_, rfl⟩
      rw [← hx] at cc hc2 HT
      clear c1 hd hx
      subst e1
      by_cases hbad : i = 9 ∧ 1 < x
      · have t9 : ((i : Int) == 9) = true := by rw [beq_iff_eq]; omega
        have tx : (1 : Int) < (x : Int) := by omega
        have HF : Hid (r = (0, 0, 9)) := Lib.hid (by rw [← HT.out]; exact tk_bad ⟨hbad.1, by omega⟩)
        clear hbad
        go_wp2
        go_ret3
        exact ⟨by rw [HF.out]; rfl, rfl⟩
      · obtain ⟨y, hy⟩ : ∃ y, y = x % 128 := ⟨_, rfl⟩
        have e127 : (x : Int) % 128 = (y : Int) := by omega
        have hy2 : y < 128 := by omega
        have hor := orL (i := i) (y := y) (v := v) hi9 hy2 (by intro h; omega) HV.out
        have hzl := z_lt (y := y) hy2 HV.out
        have g1 : (0 : Int) ≤ 7 * (i : Int) := by omega
        have g2 : 7 * (i : Int) < 64 := by omega
        have hcase : ((((i : Int) == 9) = true ∧ ¬ (1 : Int) < (x : Int)) ∨ ((i : Int) == 9) = false) := by
          by_cases h9 : i = 9
          · exact .inl ⟨by rw [beq_iff_eq]; omega, by omega⟩
          · exact .inr (by rw [beq_eq_false_iff_ne]; omega)
        by_cases hlo : x < 128
        · by_cases hz : x = 0 ∧ 0 < i
          · have HF : Hid (r = (0, 0, 9)) := Lib.hid (by rw [← HT.out]; exact tk_zero hz)
            have tz : ((x : Int) == 0) = true := by rw [beq_iff_eq]; omega
            have tp : (0 : Int) < (i : Int) := by omega
            clear hy hzl hbad hz
            obtain ⟨z, hz⟩ : ∃ z, z = v + y * 128 ^ i := ⟨_, rfl⟩
            rw [← hz] at hor
            clear hz
            rcases hcase with ⟨t9, tx⟩ | t9
            all_goals
              go_wp2
              go_ret3
              exact ⟨by rw [HF.out]; rfl, rfl⟩
          · have HF0 := tk_last (x := x) (i := i) (v := v) (cs := bs.drop (i + 1)) (by omega) hlo hz
            rw [HT.out, ← hy] at HF0
            clear hy hzl hbad
            obtain ⟨z, hz0⟩ : ∃ z, z = v + y * 128 ^ i := ⟨_, rfl⟩
            rw [← hz0] at hor HF0
            have HF := Lib.hid HF0
            clear hz0 HF0
            by_cases hx0 : x = 0
            · have tz : ((x : Int) == 0) = true := by rw [beq_iff_eq]; omega
              have tp : ¬ (0 : Int) < (i : Int) := by omega
              clear hz hx0
              rcases hcase with ⟨t9, tx⟩ | t9
              all_goals
                go_wp2
                go_ret3
                exact ⟨by rw [HF.out]; rfl, rfl⟩
            · have tz : ((x : Int) == 0) = false := by rw [beq_eq_false_iff_ne]; omega
              clear hz hx0
              rcases hcase with ⟨t9, tx⟩ | t9
              all_goals
                go_wp2
                go_ret3
                exact ⟨by rw [HF.out]; rfl, rfl⟩
        · have hi8 : i < 9 := by
            rcases Nat.lt_or_ge i 9 with h | h
            · exact h
            · omega
          have HF0 := tk_next (x := x) (i := i) (v := v) (cs := bs.drop (i + 1)) (by omega) hlo hc2
          rw [HT.out, ← hy] at HF0
          clear hy hbad
          obtain ⟨z, hz0⟩ : ∃ z, z = v + y * 128 ^ i := ⟨_, rfl⟩
          rw [← hz0] at hor HF0 hzl
          have HF := Lib.hid HF0
          have HZ := Lib.hid hzl
          have t9 : ((i : Int) == 9) = false := by rw [beq_eq_false_iff_ne]; omega
          clear hz0 HF0 hzl hcase
          go_wp2
          go_round
          case measure => simp [intOf]; omega
          case rel => exact ⟨i + 1, z, by go_num, rfl, by omega, by omega, HZ, Lib.hid HF.out.symm⟩
    · have HF : Hid (r = (0, 0, 10)) := Lib.hid (by rw [← HT.out, List.drop_eq_nil_of_le (by rw [← HN.out]; omega)]; rfl)
      go_wp2
      go_ret3
      exact ⟨by rw [HF.out]; rfl, rfl⟩
end Go.Proofs.Ytlpdligkjihkeaa.Tb
