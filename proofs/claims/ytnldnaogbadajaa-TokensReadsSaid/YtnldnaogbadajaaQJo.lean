/- The law TokensReads, walked. -/
import Derived.Test.YtnldnaogbadajaaM9
set_option linter.unusedVariables false
set_option linter.unusedSimpArgs false
namespace Go.Proofs.Ytnldnaogbadajaa.Tb
open Go.RowKit

set_option maxRecDepth 100000 in
set_option maxHeartbeats 25600000 in
theorem tokensReads_walk (A : Option Addr) (c : Nat) (zs : List Int) (i : Int) (w : World) (hr : RdZ w A zs) (hc : zs.length ≤ c) (hm : zs.length ≤ maxLen) :
    Calls Try.prog 4 #[.slice A zs.length c, .int .i64 i] w fun e w' => e = .returned (.bool true) ∧ Below w.heap.size w w' := by
  unfold maxLen at hm
  by_cases hl : 300 < zs.length
  · obtain ⟨n, hn⟩ : ∃ n, n = zs.length := ⟨_, rfl⟩
    rw [← hn] at hm hl ⊢
    have g1 : (300 : Int) < (n : Int) := by omega
    clear hr hn hc
    go_enter Try.func4, Try.ntmps4
    go_wp2
    go_ret
    exact ⟨rfl, Below.refl _ _⟩
  · by_cases hok : checkZ zs = 0
    · obtain ⟨xs, rfl, hxl, hx⟩ := good_nat hok
      rw [List.length_map] at hl hc hm ⊢
      have hrn := hr.toN
      have HB := Lib.hid (built_ok A c xs w hrn hxl hc hx)
      have HA := Lib.hid hrn
      have HXL := Lib.hid hxl
      have HX := Lib.hid hx
      obtain ⟨n, hn⟩ : ∃ n, n = xs.length := ⟨_, rfl⟩
      rw [← hn] at HB hm hl ⊢
      have HN := Lib.hid hn
      have g1 : ¬ (300 : Int) < (n : Int) := by omega
      clear hr hrn hn hok hx hxl hc
      go_enter Try.func4, Try.ntmps4
      go_wp2_with fail
      refine HB.out.mono ?_
      rintro e w1 ⟨p, rfl, hs, hp, hb1⟩
      rw [HN.out] at hs
      have HS1 := Lib.hid (StrX.of hs)
      have HB1 := Lib.hid hb1
      clear hs hb1 HB
      go_wp2
      go_loopw [7] (fun s wr => ∃ (k : Int), s = .int .i64 k ∧ -1 ≤ k ∧ k ≤ (n : Int) + 1 ∧ Hid (StrX wr p xs) ∧ Hid (Below w.heap.size w wr)) (fun s _ => (n + 2 - intOf s).toNat)
      case atStart => exact ⟨-1, rfl, by omega, by omega, HS1, HB1⟩
      case round =>
        clear HS1 HB1
        obtain ⟨k, rfl, hk1, hk2, HS, HB⟩ := hrel
        have hsz := HB.out.size
        by_cases hend : k ≤ (n : Int)
        · by_cases hin : 0 ≤ k ∧ k < (n : Int)
          · obtain ⟨q, rfl⟩ : ∃ q : Nat, k = (q : Int) := ⟨k.toNat, by omega⟩
            have hqn : q < n := by omega
            have HAT := Lib.hid (At_ok wr p xs q HS.out (by rw [← HN.out]; exact hqn) HXL.out HX.out)
            obtain ⟨x, hxx⟩ : ∃ x, x = xs.getD q 0 := ⟨_, rfl⟩
            rw [← hxx] at HAT
            have HXX := Lib.hid hxx
            clear hxx hin
            go_wp2_with fail
            refine HAT.out.mono ?_
            rintro e w3 ⟨rfl, hs3, hg3⟩
            have HS3 := Lib.hid hs3
            have HB3 : Hid (Below w.heap.size w w3) := Lib.hid (HB.out.grown hg3 hsz (fun j hj => by injection hj with hj; omega))
            obtain ⟨b1, o1, e1, cc⟩ := (HA.out.below HB3.out) (by rw [← HN.out]; omega)
            have ck := cc q (by rw [← HN.out]; exact hqn)
            rw [← HXX.out] at ck
            subst e1
            have t2 : (q : Int) < (n : Int) := by omega
            have t3 : ((x : Int) != (x : Int)) = false := by simp
            clear hs3 hg3 HAT cc
            go_wp2
            go_roundw
            case measure => simp [intOf]; omega
            case rel => exact ⟨(q : Int) + 1, by go_num, by omega, by omega, HS3, HB3⟩
          · have HAT := Lib.hid (At_no wr p xs k HS.out (by rw [← HN.out]; omega))
            by_cases hneg : k < 0
            · obtain rfl : k = -1 := by omega
              clear hneg hin hk1 hk2
              go_wp2_with fail
              refine HAT.out.mono ?_
              rintro e w3 ⟨rfl, rfl⟩
              clear HAT
              go_wp2
              go_roundw
              case measure => simp [intOf]; omega
              case rel => exact ⟨0, by go_num, by omega, by omega, HS, HB⟩
            · obtain rfl : k = (n : Int) := by omega
              clear hneg hin hk1 hk2
              go_wp2_with fail
              refine HAT.out.mono ?_
              rintro e w3 ⟨rfl, rfl⟩
              clear HAT
              go_wp2
              go_roundw
              case measure => simp [intOf]; omega
              case rel => exact ⟨(n : Int) + 1, by go_num, by omega, by omega, HS, HB⟩
        · have t9 : ¬ k ≤ (n : Int) := hend
          by_cases hin : 0 ≤ i ∧ i < (n : Int)
          · obtain ⟨q, rfl⟩ : ∃ q : Nat, i = (q : Int) := ⟨i.toNat, by omega⟩
            have hqn : q < n := by omega
            have HAT := Lib.hid (At_ok wr p xs q HS.out (by rw [← HN.out]; exact hqn) HXL.out HX.out)
            obtain ⟨x, hxx⟩ : ∃ x, x = xs.getD q 0 := ⟨_, rfl⟩
            rw [← hxx] at HAT
            have HXX := Lib.hid hxx
            clear hxx hin
            go_wp2_with fail
            refine HAT.out.mono ?_
            rintro e w3 ⟨rfl, hs3, hg3⟩
            have HB3 : Hid (Below w.heap.size w w3) := Lib.hid (HB.out.grown hg3 hsz (fun j hj => by injection hj with hj; omega))
            obtain ⟨b1, o1, e1, cc⟩ := (HA.out.below HB3.out) (by rw [← HN.out]; omega)
            have ck := cc q (by rw [← HN.out]; exact hqn)
            rw [← HXX.out] at ck
            subst e1
            have t2 : (q : Int) < (n : Int) := by omega
            have t3 : ((x : Int) == (x : Int)) = true := by simp
            clear hs3 hg3 HAT cc
            go_wp2_with fail
            refine (awake_any w3).mono ?_
            rintro e w4 ⟨rfl, hb4⟩
            have HB4 := Lib.hid (HB3.out.trans (hb4.mono HB3.out.size))
            clear hb4
            go_wp2
            go_ret
            exact ⟨rfl, HB4.out⟩
          · have HAT := Lib.hid (At_no wr p xs i HS.out (by rw [← HN.out]; omega))
            by_cases hneg : i < 0
            · have t2 : ¬ (0 : Int) ≤ i := by omega
              clear hin
              go_wp2_with fail
              refine HAT.out.mono ?_
              rintro e w3 ⟨rfl, rfl⟩
              clear HAT
              go_wp2_with fail
              refine (awake_any _).mono ?_
              rintro e w4 ⟨rfl, hb4⟩
              have HB4 := Lib.hid (HB.out.trans (hb4.mono HB.out.size))
              clear hb4
              go_wp2
              go_ret
              exact ⟨rfl, HB4.out⟩
            · have t2 : (0 : Int) ≤ i := by omega
              have t3 : ¬ i < (n : Int) := by omega
              clear hin
              go_wp2_with fail
              refine HAT.out.mono ?_
              rintro e w3 ⟨rfl, rfl⟩
              clear HAT
              go_wp2_with fail
              refine (awake_any _).mono ?_
              rintro e w4 ⟨rfl, hb4⟩
              have HB4 := Lib.hid (HB.out.trans (hb4.mono HB.out.size))
              clear hb4
              go_wp2
              go_ret
              rw [show decide (i < (n : Int)) = false from decide_eq_false (by omega)]
              exact ⟨rfl, HB4.out⟩
    · have HB := Lib.hid (built_bad A c zs w hr (by omega) hok)
      obtain ⟨n, hn⟩ : ∃ n, n = zs.length := ⟨_, rfl⟩
      rw [← hn] at HB hm hl ⊢
      have g1 : ¬ (300 : Int) < (n : Int) := by omega
      clear hr hn hok hc
      go_enter Try.func4, Try.ntmps4
      go_wp2_with fail
      refine HB.out.mono ?_
      rintro e w1 ⟨rfl, rfl⟩
      clear HB
      go_wp2_with fail
      refine (awake_any _).mono ?_
      rintro e w3 ⟨rfl, hb3⟩
      have HB3 := Lib.hid hb3
      clear hb3
      go_wp2
      go_ret
      exact ⟨rfl, HB3.out⟩
end Go.Proofs.Ytnldnaogbadajaa.Tb
