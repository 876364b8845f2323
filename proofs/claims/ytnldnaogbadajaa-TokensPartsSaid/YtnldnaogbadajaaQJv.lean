/- The law TokensParts, walked. (Written by gen/gen_jv.py.) -/
import Derived.Test.YtnldnaogbadajaaQJt
set_option linter.unusedVariables false
set_option linter.unusedSimpArgs false
namespace Go.Proofs.Ytnldnaogbadajaa.Tb
open Go.RowKit

theorem cutL_get {xs : List Nat} {a b j : Nat} (h : j < b - a) : (cutL xs a b).getD j 0 = xs.getD (a + j) 0 := by
  unfold cutL
  rw [List.getD_eq_getElem?_getD, List.getD_eq_getElem?_getD, List.getElem?_take_of_lt h, List.getElem?_drop]

set_option maxRecDepth 100000 in
set_option maxHeartbeats 6400000 in
theorem Build_long (A : Option Addr) (n c : Nat) (w : World) (hm : n ≤ 9223372036854775807) (h1 : 4096 < n) :
    Calls Try.prog 13 #[.slice A n c] w fun e w' => e = .returned (.tuple #[.pointer none, .int .i64 2]) ∧ w' = w := by
  have t1 : (4096 : Int) < (n : Int) := by omega
  go_enter Try.func13, Try.ntmps13
  go_wp2
  go_ret2
  exact ⟨rfl, rfl⟩

set_option maxRecDepth 100000 in
set_option maxHeartbeats 25600000 in
theorem tokensParts_walk (A : Option Addr) (c : Nat) (zs : List Int) (fi : Int) (w : World) (hr : RdZ w A zs) (hc : zs.length ≤ c) (hm : zs.length ≤ maxLen) :
    Calls Try.prog 7 #[.slice A zs.length c, .int .i64 fi] w fun e w' => e = .returned (.bool true) ∧ Below w.heap.size w w' := by
  unfold maxLen at hm
  by_cases hbig : 4096 < zs.length
  · have HB := Lib.hid (Build_long A zs.length c w (by omega) hbig)
    obtain ⟨n, hn⟩ : ∃ n, n = zs.length := ⟨_, rfl⟩
    rw [← hn] at HB hm hbig ⊢
    have g1 : (300 : Int) < (n : Int) := by omega
    clear hr hn hc hbig
    go_enter Try.func7, Try.ntmps7
    go_wp2_with fail
    refine HB.out.mono ?_
    rintro e w1 ⟨rfl, rfl⟩
    clear HB
    go_wp2
    go_ret
    exact ⟨rfl, Below.refl _ _⟩
  · by_cases hok : checkZ zs = 0
    · obtain ⟨xs, rfl, hxl, hx⟩ := good_nat hok
      rw [List.length_map] at hc hm hbig ⊢
      have hrn := hr.toN
      have HB := Lib.hid (Build_ok A c xs w hrn hxl hc hx)
      have HXL := Lib.hid hxl
      have HX := Lib.hid hx
      have HA := Lib.hid hrn
      obtain ⟨n, hn⟩ : ∃ n, n = xs.length := ⟨_, rfl⟩
      rw [← hn] at HB hm hc hbig ⊢
      have HN := Lib.hid hn
      clear hr hrn hn hok hx hxl
      by_cases hl : 300 < n
      · have g1 : (300 : Int) < (n : Int) := by omega
        clear hl
        go_enter Try.func7, Try.ntmps7
        go_wp2_with fail
        refine HB.out.mono ?_
        rintro e w1 ⟨p, rfl, hs, hp, hb1⟩
        have HB1 := Lib.hid hb1
        clear hs hb1 HB
        go_wp2
        go_ret
        exact ⟨rfl, HB1.out⟩
      · have g1 : ¬ (300 : Int) < (n : Int) := by omega
        by_cases h1 : fi < 0
        · go_enter Try.func7, Try.ntmps7
          go_wp2_with fail
          refine HB.out.mono ?_
          rintro e w1 ⟨p, rfl, hs, hp, hb1⟩
          have HB1 := Lib.hid hb1
          clear hs hb1 HB
          go_wp2
          go_ret
          exact ⟨rfl, HB1.out⟩
        · by_cases h2 : (n : Int) < fi
          · go_enter Try.func7, Try.ntmps7
            go_wp2_with fail
            refine HB.out.mono ?_
            rintro e w1 ⟨p, rfl, hs, hp, hb1⟩
            have HB1 := Lib.hid hb1
            clear hs hb1 HB
            go_wp2
            go_ret
            exact ⟨rfl, HB1.out⟩
          · obtain ⟨f, rfl⟩ : ∃ f : Nat, fi = (f : Int) := ⟨fi.toNat, by omega⟩
            have hfn : f ≤ n := by omega
            obtain ⟨m, hmm⟩ : ∃ m, m = n - f := ⟨_, rfl⟩
            have HMM := Lib.hid hmm
            have em : (n : Int) - (f : Int) = (m : Int) := by omega
            have e1 : ((m : Int) != (m : Int)) = false := by simp
            have e2 : ((f : Int) != (f : Int)) = false := by simp
            have HL1 : Hid ((cutL xs 0 f).length = f) := Lib.hid (by rw [cutL_len (by rw [← HN.out]; exact hfn)]; omega)
            have HL2 : Hid ((cutL xs f n).length = m) := Lib.hid (by rw [cutL_len (by rw [← HN.out]; omega)]; omega)
            clear hmm hbig hl
            go_enter Try.func7, Try.ntmps7
            go_wp2_with fail
            refine HB.out.mono ?_
            rintro e w1 ⟨p, rfl, hs, hp, hb1⟩
            rw [HN.out] at hs
            have HSL : Hid (Calls Try.prog 14 #[.pointer (some ⟨p, 0, none⟩), .int .i64 0, .int .i64 f] w1 fun e w' => ∃ A c, e = .returned (.tuple #[.slice A f c, .bool true]) ∧ RdN w' A (cutL xs 0 f) ∧ f ≤ c ∧ StrX w' p xs ∧ w1.grownBy w' (some p) ∧ ∀ a, A = some a → w1.heap.size ≤ a.block) := Lib.hid (Slice_ok w1 p xs 0 f (StrX.of hs) (by omega) (by rw [← HN.out]; exact hfn) HXL.out HX.out)
            have HB1 := Lib.hid hb1
            have HPL : Hid (p < w1.heap.size) := Lib.hid (by obtain ⟨_, _, _, _, _, hblk, _⟩ := hs.it; exact hblk.lt)
            clear hs hb1 HB
            go_wp2_with fail
            refine HSL.out.mono ?_
            rintro e w2 ⟨A2, c2, rfl, hr2, hc2, hs2, hg2, ha2⟩
            have HB2 : Hid (Below w.heap.size w w2) := Lib.hid (HB1.out.grown hg2 HB1.out.size (fun j hj => by injection hj with hj; omega))
            have HSL2 := Lib.hid (Slice_ok w2 p xs f n hs2 hfn (by rw [← HN.out]; exact Nat.le_refl _) HXL.out HX.out)
            rw [← HMM.out] at HSL2
            have HNE2 : Hid (∀ a, A2 = some a → a.block ≠ p) := Lib.hid (fun a h => by have := ha2 a h; have := HPL.out; omega)
            have HR2 := Lib.hid hr2
            have HPL2 : Hid (p < w2.heap.size) := Lib.hid (by have := hg2.size; have := HPL.out; omega)
            clear hr2 hc2 hs2 hg2 ha2 HSL
            go_wp2_with fail
            refine HSL2.out.mono ?_
            rintro e w3 ⟨A3, c3, rfl, hr3, hc3, hs3, hg3, ha3⟩
            have HB3 : Hid (Below w.heap.size w w3) := Lib.hid (HB2.out.grown hg3 HB2.out.size (fun j hj => by injection hj with hj; omega))
            have HNE3 : Hid (∀ a, A3 = some a → a.block ≠ p) := Lib.hid (fun a h => by have := ha3 a h; have := HPL2.out; omega)
            have HR23 : Hid (RdN w3 A2 (cutL xs 0 f)) := Lib.hid (HR2.out.grown hg3 HNE2.out)
            have HR3 := Lib.hid hr3
            have HS3 := Lib.hid hs3
            clear hr3 hc3 hs3 hg3 ha3 HSL2 HR2 HB2 HB1
            go_wp2
            go_loopw [12] (fun s wr => ∃ i : Nat, s = .int .i64 i ∧ i ≤ n ∧ Hid (StrX wr p xs) ∧ Hid (RdN wr A2 (cutL xs 0 f)) ∧ Hid (RdN wr A3 (cutL xs f n)) ∧ Hid (Below w.heap.size w wr)) (fun s _ => n - (intOf s).toNat)
            case atStart => exact ⟨0, rfl, by omega, HS3, HR23, HR3, HB3⟩
            case round =>
              clear HS3 HR23 HR3 HB3
              obtain ⟨i, rfl, hin, HS, HRA, HRB, HBW⟩ := hrel
              by_cases hlt : i < n
              · have HAT := Lib.hid (At_ok wr p xs i HS.out (by rw [← HN.out]; exact hlt) HXL.out HX.out)
                obtain ⟨x, hxx⟩ : ∃ x, x = xs.getD i 0 := ⟨_, rfl⟩
                rw [← hxx] at HAT
                have HXX := Lib.hid hxx
                clear hxx
                have t3 : ((x : Int) != (x : Int)) = false := by simp
                go_wp2_with fail
                refine HAT.out.mono ?_
                rintro e w4 ⟨rfl, hs4, hg4⟩
                have HS4 := Lib.hid hs4
                have HB4 : Hid (Below w.heap.size w w4) := Lib.hid (HBW.out.grown hg4 HBW.out.size (fun j hj => by injection hj with hj; omega))
                have HRA4 := Lib.hid (HRA.out.grown hg4 HNE2.out)
                have HRB4 := Lib.hid (HRB.out.grown hg4 HNE3.out)
                clear hs4 hg4 HAT
                by_cases hif : i < f
                · obtain ⟨b1, o1, q1, cc⟩ := HRA4.out (by rw [HL1.out]; omega)
                  have ck := cc i (by rw [HL1.out]; exact hif)
                  rw [cutL_get (by omega), Nat.zero_add, ← HXX.out] at ck
                  subst q1
                  have t4 : (i : Int) < (f : Int) := by omega
                  have t5 : ¬ (f : Int) ≤ (i : Int) := by omega
                  clear cc
                  go_wp2
                  go_roundw
                  case measure => simp [intOf]; omega
                  case rel => exact ⟨i + 1, by go_num, by omega, HS4, HRA4, HRB4, HB4⟩
                · obtain ⟨b1, o1, q1, cc⟩ := HRB4.out (by rw [HL2.out]; omega)
                  obtain ⟨j, hj⟩ : ∃ j, j = i - f := ⟨_, rfl⟩
                  have ck := cc j (by rw [HL2.out]; omega)
                  rw [cutL_get (by omega), show f + j = i by omega, ← HXX.out] at ck
                  subst q1
                  have ej : (i : Int) - (f : Int) = (j : Int) := by omega
                  have hjm : j < m := by omega
                  have t4 : ¬ (i : Int) < (f : Int) := by omega
                  have t5 : (f : Int) ≤ (i : Int) := by omega
                  clear cc hj
                  go_wp2
                  go_roundw
                  case measure => simp [intOf]; omega
                  case rel => exact ⟨i + 1, by go_num, by omega, HS4, HRA4, HRB4, HB4⟩
              · go_wp2_with fail
                refine (awake_any _).mono ?_
                rintro e w4 ⟨rfl, hb4⟩
                have HB4 := Lib.hid (HBW.out.trans (hb4.mono HBW.out.size))
                clear hb4
                go_wp2
                go_ret
                exact ⟨rfl, HB4.out⟩
    · have HB := Lib.hid (Build_bad A c zs w hr (by omega) hok)
      obtain ⟨n, hn⟩ : ∃ n, n = zs.length := ⟨_, rfl⟩
      obtain ⟨k, hk⟩ : ∃ k, k = checkZ zs := ⟨_, rfl⟩
      rw [← hn, ← hk] at HB
      rw [← hk] at hok
      rw [← hn] at hm hbig ⊢
      have h2 : (k != 0) = true := by simpa using hok
      clear hr hn hk hok hc
      by_cases hl : 300 < n
      · have g1 : (300 : Int) < (n : Int) := by omega
        go_enter Try.func7, Try.ntmps7
        go_wp2_with fail
        refine HB.out.mono ?_
        rintro e w1 ⟨rfl, rfl⟩
        clear HB
        go_wp2
        go_ret
        exact ⟨rfl, Below.refl _ _⟩
      · have g1 : ¬ (300 : Int) < (n : Int) := by omega
        go_enter Try.func7, Try.ntmps7
        go_wp2_with fail
        refine HB.out.mono ?_
        rintro e w1 ⟨rfl, rfl⟩
        clear HB
        go_wp2
        go_ret
        exact ⟨rfl, Below.refl _ _⟩
end Go.Proofs.Ytnldnaogbadajaa.Tb
