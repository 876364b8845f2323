/- tokens: Slice at bad places; SameInts; the law TokensSlices, walked. (Written by gen/gen_jt.py.) -/
import Derived.Test.YtnldnaogbadajaaQJs
import Derived.Deep.QuietTactic
import Derived.BigQuiet
set_option linter.unusedVariables false
set_option linter.unusedSimpArgs false
namespace Go.Proofs.Ytnldnaogbadajaa.Tb
open Go.RowKit

set_option maxRecDepth 100000 in
set_option maxHeartbeats 6400000 in
theorem Slice_no (w : World) (p : Nat) (xs : List Nat) (f t : Int) (hX : StrX w p xs) (h : f < 0 ∨ t < f ∨ (xs.length : Int) < t) :
    Calls Try.prog 14 #[.pointer (some ⟨p, 0, none⟩), .int .i64 f, .int .i64 t] w fun e w' => e = .returned (.tuple #[.slice none 0 0, .bool false]) ∧ w' = w := by
  obtain ⟨last, bv, hS, _, _⟩ := hX
  obtain ⟨_, _, _, _, _, hblk, _⟩ := hS.it
  have a0 : w.cell? ⟨p, 0, none⟩ = some (.int .i64 xs.length) := hblk.cell 0
  obtain ⟨n, hn⟩ : ∃ n, n = xs.length := ⟨_, rfl⟩
  rw [← hn] at a0 h
  clear hS hblk hn
  by_cases h1 : f < 0
  · go_enter Try.func14, Try.ntmps14
    go_wp2
    go_ret2
    exact ⟨rfl, rfl⟩
  · by_cases h2 : t < f
    · clear h
      go_enter Try.func14, Try.ntmps14
      go_wp2
      go_ret2
      exact ⟨rfl, rfl⟩
    · have h3 : (n : Int) < t := by omega
      clear h
      go_enter Try.func14, Try.ntmps14
      go_wp2
      go_ret2
      exact ⟨rfl, rfl⟩

set_option maxRecDepth 100000 in
set_option maxHeartbeats 6400000 in
theorem same_nat (A B : Option Addr) (ca cb : Nat) (L : List Nat) (m : Nat) (hm : m = L.length) (hl : m ≤ 1000000) (w : World) (ha : RdN w A L) (hb : RdN w B L) :
    Calls Try.prog 15 #[.slice A m ca, .slice B m cb] w fun e w' => e = .returned (.bool true) ∧ Below w.heap.size w w' := by
  have HA := Lib.hid ha
  have HB := Lib.hid hb
  have HM := Lib.hid hm
  have t1 : ((m : Int) != m) = false := by simp
  clear ha hb hm
  go_enter Try.func15, Try.ntmps15
  go_wp2
  go_loopw [13] (fun s wr => ∃ i : Nat, s = .int .i64 i ∧ i ≤ m ∧ Hid (Below w.heap.size w wr)) (fun s _ => m - (intOf s).toNat)
  case atStart => exact ⟨0, rfl, by omega, Lib.hid (Below.refl _ _)⟩
  case round =>
    obtain ⟨i, rfl, him, HBW⟩ := hrel
    by_cases hlt : i < m
    · obtain ⟨b1, o1, e1, c1⟩ := (HA.out.below HBW.out) (by rw [← HM.out]; omega)
      obtain ⟨b2, o2, e2, c2⟩ := (HB.out.below HBW.out) (by rw [← HM.out]; omega)
      have k1 := c1 i (by rw [← HM.out]; exact hlt)
      have k2 := c2 i (by rw [← HM.out]; exact hlt)
      obtain ⟨x, hx⟩ : ∃ x, x = L.getD i 0 := ⟨_, rfl⟩
      rw [← hx] at k1 k2
      clear c1 c2 hx
      subst e1 e2
      have g1 : (i : Int) < (m : Int) := by omega
      have t2 : ((x : Int) != (x : Int)) = false := by simp
      go_wp2_with fail
      go_quiet (fail)
      have HB2 : Hid (Below w.heap.size w (wr.drewN nq)) := Lib.hid (HBW.out.trans (bel_drewN _ _ _))
      generalize wr.drewN nq = w2 at HB2 ⊢
      go_wp2
      go_roundw
      case measure => simp [intOf]; omega
      case rel => exact ⟨i + 1, by go_num, by omega, HB2⟩
    · go_wp2
      go_ret
      exact ⟨rfl, HBW.out⟩

set_option maxRecDepth 100000 in
set_option maxHeartbeats 25600000 in
theorem tokensSlices_walk (A : Option Addr) (c : Nat) (zs : List Int) (fi ti : Int) (w : World) (hr : RdZ w A zs) (hc : zs.length ≤ c) (hm : zs.length ≤ maxLen) (hsp : ∀ a, A = some a → 0 < c → a.spot = none) :
    Calls Try.prog 6 #[.slice A zs.length c, .int .i64 fi, .int .i64 ti] w fun e w' => e = .returned (.bool true) ∧ Below w.heap.size w w' := by
  unfold maxLen at hm
  by_cases hl : 400 < zs.length
  · obtain ⟨n, hn⟩ : ∃ n, n = zs.length := ⟨_, rfl⟩
    rw [← hn] at hm hl ⊢
    have g1 : (400 : Int) < (n : Int) := by omega
    clear hr hn hc
    go_enter Try.func6, Try.ntmps6
    go_wp2
    go_ret
    exact ⟨rfl, Below.refl _ _⟩
  · by_cases hok : checkZ zs = 0
    · obtain ⟨xs, rfl, hxl, hx⟩ := good_nat hok
      rw [List.length_map] at hl hc hm ⊢
      have hrn := hr.toN
      have HB := Lib.hid (built_ok A c xs w hrn hxl hc hx)
      have HXL := Lib.hid hxl
      have HX := Lib.hid hx
      have HA := Lib.hid hrn
      obtain ⟨n, hn⟩ : ∃ n, n = xs.length := ⟨_, rfl⟩
      rw [← hn] at HB hm hl hc ⊢
      have HN := Lib.hid hn
      have g1 : ¬ (400 : Int) < (n : Int) := by omega
      clear hr hrn hn hok hx hxl
      by_cases hgd : 0 ≤ fi ∧ fi ≤ ti ∧ ti ≤ (n : Int)
      · obtain ⟨f, rfl⟩ : ∃ f : Nat, fi = (f : Int) := ⟨fi.toNat, by omega⟩
        obtain ⟨t, rfl⟩ : ∃ t : Nat, ti = (t : Int) := ⟨ti.toNat, by omega⟩
        have hft : f ≤ t := by omega
        have htn : t ≤ n := by omega
        have u1 : ¬ (f : Int) < 0 := by omega
        have u2 : ¬ (t : Int) < (f : Int) := by omega
        have u3 : ¬ (n : Int) < (t : Int) := by omega
        obtain ⟨m, hmm⟩ : ∃ m, m = t - f := ⟨_, rfl⟩
        have HMM : Hid (m = t - f) := Lib.hid hmm
        have HML : Hid ((cutL xs f t).length = m) := Lib.hid (by rw [hmm]; exact cutL_len (by rw [← HN.out]; exact htn))
        have hmn : m ≤ 400 := by omega
        have g2 : (f : Int) ≤ (t : Int) := by omega
        have g3 : (t : Int) ≤ (c : Int) := by omega
        have g4 : (0 : Int) ≤ (f : Int) := by omega
        have em : t - f = m := hmm.symm
        clear hgd hmm
        by_cases h0 : f < t
        · obtain ⟨b, o, e1, cc⟩ := HA.out (by rw [← HN.out]; omega)
          subst e1
          have HRX : Hid (RdN w (some ⟨b, o + f, none⟩) (cutL xs f t)) := Lib.hid (fun _ => ⟨b, _, rfl, fun j hj => by
            rw [HML.out] at hj
            rw [Nat.add_assoc, cc (f + j) (by rw [← HN.out]; omega)]
            congr 3
            unfold cutL
            rw [List.getD_eq_getElem?_getD, List.getD_eq_getElem?_getD, List.getElem?_take_of_lt (by omega), List.getElem?_drop]⟩)
          have q4 : ¬ c = f := by omega
          clear cc
          go_enter Try.func6, Try.ntmps6
          go_wp2_with fail
          refine HB.out.mono ?_
          rintro e w1 ⟨p, rfl, hs, hp, hb1⟩
          rw [HN.out] at hs
          have HSL := Lib.hid (Slice_ok w1 p xs f t (StrX.of hs) hft (by rw [← HN.out]; exact htn) HXL.out HX.out)
          rw [← HMM.out] at HSL
          have HB1 := Lib.hid hb1
          clear hs hb1
          go_wp2_with fail
          refine HSL.out.mono ?_
          rintro e w2 ⟨A2, c2, rfl, hr2, hc2, _, hg2, _⟩
          have HB2 : Hid (Below w.heap.size w w2) := Lib.hid (HB1.out.grown hg2 HB1.out.size (fun j hj => by injection hj with hj; omega))
          have HSM := Lib.hid (same_nat A2 (some ⟨b, o + f, none⟩) c2 (c - f) (cutL xs f t) m HML.out.symm (by omega) w2 hr2 (HRX.out.below HB2.out))
          clear hr2 hg2 HSL
          go_wp2_with fail
          refine HSM.out.mono ?_
          rintro e w3 ⟨rfl, hb3⟩
          have HB3 := Lib.hid (HB2.out.trans (hb3.mono HB2.out.size))
          clear hb3
          go_wp2_with fail
          refine (awake_any _).mono ?_
          rintro e w4 ⟨rfl, hb4⟩
          have HB4 := Lib.hid (HB3.out.trans (hb4.mono HB3.out.size))
          clear hb4
          go_wp2
          go_ret
          exact ⟨rfl, HB4.out⟩
        · have HNI : Hid (∀ X, RdN w X (cutL xs f t)) := Lib.hid (fun X h9 => by rw [HML.out] at h9; have := HMM.out; omega)
          obtain rfl : f = t := by omega
          obtain rfl : m = 0 := by have := HMM.out; omega
          clear em u2 g2
          cases A with
          | none =>
            have HRX := Lib.hid (HNI.out none)
            go_enter Try.func6, Try.ntmps6
            go_wp2_with fail
            refine HB.out.mono ?_
            rintro e w1 ⟨p, rfl, hs, hp, hb1⟩
            rw [HN.out] at hs
            have HSL := Lib.hid (Slice_ok w1 p xs f f (StrX.of hs) hft (by rw [← HN.out]; exact htn) HXL.out HX.out)
            rw [← HMM.out] at HSL
            have HB1 := Lib.hid hb1
            clear hs hb1
            go_wp2_with fail
            refine HSL.out.mono ?_
            rintro e w2 ⟨A2, c2, rfl, hr2, hc2, _, hg2, _⟩
            have HB2 : Hid (Below w.heap.size w w2) := Lib.hid (HB1.out.grown hg2 HB1.out.size (fun j hj => by injection hj with hj; omega))
            have HSM := Lib.hid (same_nat A2 none c2 (c - f) (cutL xs f f) 0 HML.out.symm (by omega) w2 hr2 (HRX.out.below HB2.out))
            clear hr2 hg2 HSL
            go_wp2_with fail
            refine HSM.out.mono ?_
            rintro e w3 ⟨rfl, hb3⟩
            have HB3 := Lib.hid (HB2.out.trans (hb3.mono HB2.out.size))
            clear hb3
            go_wp2_with fail
            refine (awake_any _).mono ?_
            rintro e w4 ⟨rfl, hb4⟩
            have HB4 := Lib.hid (HB3.out.trans (hb4.mono HB3.out.size))
            clear hb4
            go_wp2
            go_ret
            exact ⟨rfl, HB4.out⟩
          | some a =>
            obtain ⟨b, o, s⟩ := a
            by_cases hcf : c = f
            · subst hcf
              have HRX := Lib.hid (HNI.out (some ⟨b, o, s⟩))
              go_enter Try.func6, Try.ntmps6
              go_wp2_with fail
              refine HB.out.mono ?_
              rintro e w1 ⟨p, rfl, hs, hp, hb1⟩
              rw [HN.out] at hs
              have HSL := Lib.hid (Slice_ok w1 p xs c c (StrX.of hs) hft (by rw [← HN.out]; exact htn) HXL.out HX.out)
              rw [← HMM.out] at HSL
              have HB1 := Lib.hid hb1
              clear hs hb1
              go_wp2_with fail
              refine HSL.out.mono ?_
              rintro e w2 ⟨A2, c2, rfl, hr2, hc2, _, hg2, _⟩
              have HB2 : Hid (Below w.heap.size w w2) := Lib.hid (HB1.out.grown hg2 HB1.out.size (fun j hj => by injection hj with hj; omega))
              have HSM := Lib.hid (same_nat A2 (some ⟨b, o, s⟩) c2 0 (cutL xs c c) 0 HML.out.symm (by omega) w2 hr2 (HRX.out.below HB2.out))
              clear hr2 hg2 HSL
              go_wp2_with fail
              refine HSM.out.mono ?_
              rintro e w3 ⟨rfl, hb3⟩
              have HB3 := Lib.hid (HB2.out.trans (hb3.mono HB2.out.size))
              clear hb3
              go_wp2_with fail
              refine (awake_any _).mono ?_
              rintro e w4 ⟨rfl, hb4⟩
              have HB4 := Lib.hid (HB3.out.trans (hb4.mono HB3.out.size))
              clear hb4
              go_wp2
              go_ret
              exact ⟨rfl, HB4.out⟩
            · obtain rfl : s = none := hsp _ rfl (by omega)
              have HRX := Lib.hid (HNI.out (some ⟨b, o + f, none⟩))
              go_enter Try.func6, Try.ntmps6
              go_wp2_with fail
              refine HB.out.mono ?_
              rintro e w1 ⟨p, rfl, hs, hp, hb1⟩
              rw [HN.out] at hs
              have HSL := Lib.hid (Slice_ok w1 p xs f f (StrX.of hs) hft (by rw [← HN.out]; exact htn) HXL.out HX.out)
              rw [← HMM.out] at HSL
              have HB1 := Lib.hid hb1
              clear hs hb1
              go_wp2_with fail
              refine HSL.out.mono ?_
              rintro e w2 ⟨A2, c2, rfl, hr2, hc2, _, hg2, _⟩
              have HB2 : Hid (Below w.heap.size w w2) := Lib.hid (HB1.out.grown hg2 HB1.out.size (fun j hj => by injection hj with hj; omega))
              have HSM := Lib.hid (same_nat A2 (some ⟨b, o + f, none⟩) c2 (c - f) (cutL xs f f) 0 HML.out.symm (by omega) w2 hr2 (HRX.out.below HB2.out))
              clear hr2 hg2 HSL
              go_wp2_with fail
              refine HSM.out.mono ?_
              rintro e w3 ⟨rfl, hb3⟩
              have HB3 := Lib.hid (HB2.out.trans (hb3.mono HB2.out.size))
              clear hb3
              go_wp2_with fail
              refine (awake_any _).mono ?_
              rintro e w4 ⟨rfl, hb4⟩
              have HB4 := Lib.hid (HB3.out.trans (hb4.mono HB3.out.size))
              clear hb4
              go_wp2
              go_ret
              exact ⟨rfl, HB4.out⟩
      · by_cases h1 : fi < 0
        · clear hgd
          go_enter Try.func6, Try.ntmps6
          go_wp2_with fail
          refine HB.out.mono ?_
          rintro e w1 ⟨p, rfl, hs, hp, hb1⟩
          rw [HN.out] at hs
          have HSL := Lib.hid (Slice_no w1 p xs fi ti (StrX.of hs) (by rw [← HN.out]; omega))
          have HB1 := Lib.hid hb1
          clear hs hb1
          go_wp2_with fail
          refine HSL.out.mono ?_
          rintro e w2 ⟨rfl, rfl⟩
          clear HSL
          go_wp2_with fail
          refine (awake_any _).mono ?_
          rintro e w4 ⟨rfl, hb4⟩
          have HB4 := Lib.hid (HB1.out.trans (hb4.mono HB1.out.size))
          clear hb4
          go_wp2
          go_ret
          exact ⟨rfl, HB4.out⟩
        · by_cases h2 : ti < fi
          · clear hgd
            go_enter Try.func6, Try.ntmps6
            go_wp2_with fail
            refine HB.out.mono ?_
            rintro e w1 ⟨p, rfl, hs, hp, hb1⟩
            rw [HN.out] at hs
            have HSL := Lib.hid (Slice_no w1 p xs fi ti (StrX.of hs) (by rw [← HN.out]; omega))
            have HB1 := Lib.hid hb1
            clear hs hb1
            go_wp2_with fail
            refine HSL.out.mono ?_
            rintro e w2 ⟨rfl, rfl⟩
            clear HSL
            go_wp2_with fail
            refine (awake_any _).mono ?_
            rintro e w4 ⟨rfl, hb4⟩
            have HB4 := Lib.hid (HB1.out.trans (hb4.mono HB1.out.size))
            clear hb4
            go_wp2
            go_ret
            exact ⟨rfl, HB4.out⟩
          · have h3 : (n : Int) < ti := by omega
            clear hgd
            go_enter Try.func6, Try.ntmps6
            go_wp2_with fail
            refine HB.out.mono ?_
            rintro e w1 ⟨p, rfl, hs, hp, hb1⟩
            rw [HN.out] at hs
            have HSL := Lib.hid (Slice_no w1 p xs fi ti (StrX.of hs) (by rw [← HN.out]; omega))
            have HB1 := Lib.hid hb1
            clear hs hb1
            go_wp2_with fail
            refine HSL.out.mono ?_
            rintro e w2 ⟨rfl, rfl⟩
            clear HSL
            go_wp2_with fail
            refine (awake_any _).mono ?_
            rintro e w4 ⟨rfl, hb4⟩
            have HB4 := Lib.hid (HB1.out.trans (hb4.mono HB1.out.size))
            clear hb4
            go_wp2
            go_ret
            exact ⟨rfl, HB4.out⟩
    · have HB := Lib.hid (built_bad A c zs w hr (by omega) hok)
      obtain ⟨n, hn⟩ : ∃ n, n = zs.length := ⟨_, rfl⟩
      rw [← hn] at HB hm hl ⊢
      have g1 : ¬ (400 : Int) < (n : Int) := by omega
      clear hr hn hok hc
      go_enter Try.func6, Try.ntmps6
      go_wp2_with fail
      refine HB.out.mono ?_
      rintro e w1 ⟨rfl, rfl⟩
      clear HB
      go_wp2_with fail
      refine (awake_any _).mono ?_
      rintro e w3 ⟨rfl, hb3⟩
      have HB3 := Lib.hid hb3
      clear hb3
      go_wp2
      go_ret
      exact ⟨rfl, HB3.out⟩
end Go.Proofs.Ytnldnaogbadajaa.Tb
