/- The reference's answers, walked. -/
import Derived.Test.YtlpdligkjihkeaaTr0
set_option linter.unusedVariables false
set_option linter.unusedSimpArgs false
namespace Go.Proofs.Ytlpdligkjihkeaa.Tb
open Go.RowKit


set_option maxHeartbeats 4000000 in
theorem Ask1_any (A : Option Addr) (c : Nat) (xs : List (Int × Int)) (s1 s2 : Int) (w : World) (ha : RdS w A xs) (hm : xs.length ≤ 1000000) :
    Calls Try.prog 18 #[.slice A xs.length c, SP s1 s2, .int .i64 1] w fun e w' => Ans w (askL xs s1 s2 fun a b => ovl a b s1 s2) e w' := by
  obtain ⟨i0, hi0, hz0, hz1, hz2⟩ := info_parts infoI
  have HA := Lib.hid ha
  clear ha
  obtain ⟨n, hn⟩ : ∃ n, n = xs.length := ⟨_, rfl⟩
  rw [← hn]
  rw [← hn] at hm
  have HN := Lib.hid hn
  clear hn
  have hv := Valid_any s1 s2 (w.alloc (SB s1 s2))
  by_cases h : vld s1 s2 = true
  · rw [h] at hv
    have HV := Lib.hid hv
    have HH := Lib.hid h
    clear hv h
    go_enter Try.func18, Try.ntmps18
    go_wp2_with fail
    refine HV.out.mono ?_
    rintro e w1 ⟨rfl, hb⟩
    have hbw := bel_trans (bel_alloc (Below.refl w.heap.size w) _) hb
    have hbx : w1.heap[w.heap.size]? = some (SB s1 s2) := (hb.block _ (by simp)).trans (heap_alloc_new w (SB s1 s2))
    have HA1 := Lib.hid (HA.out.below hbw)
    have HX := Lib.hid hbx
    have HB := Lib.hid hbw
    clear hb hbw hbx HV HA
    go_wp2
    go_loopw [7, 16] (fun r s wr => ∃ (i : Nat), s = .int .i64 i ∧ i ≤ n ∧ Hid (Below w1.heap.size w1 wr) ∧ Hid (wr.ownsRow w1.heap.size 3 1 r (selK xs (fun a b => ovl a b s1 s2) i).length ((selK xs (fun a b => ovl a b s1 s2) i).map (Value.int .i64)))) (fun r s _ => n - (intOf s).toNat)
    case atStart => exact ⟨0, rfl, by omega, Lib.hid (Below.refl _ _), Lib.hid (World.ownsRow_nil _ _ _ _)⟩
    case round =>
      obtain ⟨i, rfl, hin, HBW, HO⟩ := hrel
      obtain ⟨A', c', rfl⟩ := own_shape HO.out
      by_cases hlt : i < n
      · obtain ⟨b1, o1, e1, c1⟩ := (HA1.out.below HBW.out) (by rw [← HN.out]; omega)
        obtain ⟨c1', c2'⟩ := c1 i (by rw [← HN.out]; exact hlt)
        clear c1
        obtain ⟨a, b, hx, hy⟩ : ∃ x y, x = (xs.getD i (0, 0)).1 ∧ y = (xs.getD i (0, 0)).2 := ⟨_, _, rfl, rfl⟩
        rw [← hx] at c1'
        rw [← hy] at c2'
        obtain ⟨kb, hkb⟩ : ∃ kb : Bool, kb = ovl a b s1 s2 := ⟨_, rfl⟩
        have hsel : selK xs (fun a b => ovl a b s1 s2) (i + 1) = selK xs (fun a b => ovl a b s1 s2) i ++ (if kb then [(i : Int)] else []) := by rw [selK_succ, hkb, hx, hy]
        have HSEL := Lib.hid hsel
        clear hx hy hsel
        subst e1
        have g1 : (i : Int) < (n : Int) := by omega
        have hbA := HBW.out.alloc HBW.out.size (SB a b)
        have hoA := HO.out.alloc (SB a b)
        have hsz := HBW.out.size
        have hbx := (HBW.out.block _ (blk_lt HX.out)).trans HX.out
        have x1 : wr.cell? ⟨w.heap.size, 0, none⟩ = some (.int .i64 s1) := by rw [blk_cell hbx]; rfl
        have x2 : wr.cell? ⟨w.heap.size, 1, none⟩ = some (.int .i64 s2) := by rw [blk_cell hbx]; rfl
        have xlt := blk_lt hbx
        have hl1 : (selK xs (fun a b => ovl a b s1 s2) i).length ≤ i := selK_len _ _ _
        have HK := Lib.hid (Overlap_any a b s1 s2 (wr.alloc (SB a b)))
        rw [← hkb] at HK
        have HBA := Lib.hid hbA
        have HOA := Lib.hid hoA
        clear hbA hoA hbx HO HBW hkb
        go_wp2_with fail
        refine HK.out.mono ?_
        rintro e w3 ⟨rfl, hb3⟩
        have HB3 := Lib.hid (HBA.out.trans (hb3.mono (by rw [World.size_alloc]; omega)))
        have hsz3 : w1.heap.size ≤ w3.heap.size := HB3.out.size
        have HO3 := Lib.hid (own_below HOA.out hb3)
        clear hb3 HK x1 x2 c1' c2'
        cases kb with
        | false =>
          go_wp2
          go_roundw
          case measure => simp [intOf]; omega
          case rel => exact ⟨i + 1, by go_num, by omega, HB3, by rw [HSEL.out, if_neg (by simp), List.append_nil]; exact HO3⟩
        | true =>
          go_wp2_with (at_builtin; refine wpList_append_own _ rfl _ _ 30 rfl w1.heap.size 3 i0 (.int .i64 0) 1 8 Try.underlying30 hi0 hz0 hz1 hz2 rfl (by decide) _ _ _ rfl (HO3.out.alloc _) ⟨w3.heap.size, 0, none⟩ 1 1 [.int .i64 (i : Int)] rfl rfl (cell_one_new _ _ _) (by simp [Value.oneCell']) (by simp only [maxLen]; omega) (by omega) (by simp; omega) ?_; intro v' w4 hown' hgrow _; obtain ⟨g', cap', rfl⟩ := ownsRow_succ hown'; have HO4 := Lib.hid hown'; have HB4 := Lib.hid (HB3.out.trans ((bel_alloc (Below.refl w3.heap.size w3) _).mono hsz3 |>.trans (grow_bel (HO3.out.alloc (.cells #[.int .i64 (i : Int)] 3)) (by rw [World.size_alloc]; omega) hgrow))); clear hown' hgrow)
          go_roundw
          case measure => simp [intOf]; omega
          case rel => exact ⟨i + 1, by go_num, by omega, HB4, by rw [HSEL.out, if_pos trivial, List.length_append, List.map_append]; exact HO4⟩
      · have g1 : ¬ (i : Int) < (n : Int) := by omega
        have hi : i = n := by omega
        subst hi
        go_wp2
        go_ret
        have hrow := HO.out
        obtain ⟨A2, c2, e2, hr⟩ := own_rdI hrow
        have e3 : askL xs s1 s2 (fun a b => ovl a b s1 s2) = selK xs (fun a b => ovl a b s1 s2) i := by rw [askL, if_pos HH.out, HN.out]
        rw [e3]
        exact ⟨A2, c2, by rw [← e2]; rfl, hr, bel_trans HB.out HBW.out⟩
  · have h' : vld s1 s2 = false := by simpa using h
    rw [h'] at hv
    have HV := Lib.hid hv
    clear hv h'
    go_enter Try.func18, Try.ntmps18
    go_wp2_with fail
    refine HV.out.mono ?_
    rintro e w1 ⟨rfl, hb⟩
    have hbw := bel_trans (bel_alloc (Below.refl w.heap.size w) _) hb
    clear hb
    go_wp2
    go_ret
    exact ans_nil rfl hbw (by rw [askL, if_neg h])

set_option maxHeartbeats 4000000 in
theorem Ask2_any (A : Option Addr) (c : Nat) (xs : List (Int × Int)) (s1 s2 : Int) (w : World) (ha : RdS w A xs) (hm : xs.length ≤ 1000000) :
    Calls Try.prog 18 #[.slice A xs.length c, SP s1 s2, .int .i64 2] w fun e w' => Ans w (askL xs s1 s2 fun a b => cont s1 s2 a b) e w' := by
  obtain ⟨i0, hi0, hz0, hz1, hz2⟩ := info_parts infoI
  have HA := Lib.hid ha
  clear ha
  obtain ⟨n, hn⟩ : ∃ n, n = xs.length := ⟨_, rfl⟩
  rw [← hn]
  rw [← hn] at hm
  have HN := Lib.hid hn
  clear hn
  have hv := Valid_any s1 s2 (w.alloc (SB s1 s2))
  by_cases h : vld s1 s2 = true
  · rw [h] at hv
    have HV := Lib.hid hv
    have HH := Lib.hid h
    clear hv h
    go_enter Try.func18, Try.ntmps18
    go_wp2_with fail
    refine HV.out.mono ?_
    rintro e w1 ⟨rfl, hb⟩
    have hbw := bel_trans (bel_alloc (Below.refl w.heap.size w) _) hb
    have hbx : w1.heap[w.heap.size]? = some (SB s1 s2) := (hb.block _ (by simp)).trans (heap_alloc_new w (SB s1 s2))
    have HA1 := Lib.hid (HA.out.below hbw)
    have HX := Lib.hid hbx
    have HB := Lib.hid hbw
    clear hb hbw hbx HV HA
    go_wp2
    go_loopw [7, 16] (fun r s wr => ∃ (i : Nat), s = .int .i64 i ∧ i ≤ n ∧ Hid (Below w1.heap.size w1 wr) ∧ Hid (wr.ownsRow w1.heap.size 3 1 r (selK xs (fun a b => cont s1 s2 a b) i).length ((selK xs (fun a b => cont s1 s2 a b) i).map (Value.int .i64)))) (fun r s _ => n - (intOf s).toNat)
    case atStart => exact ⟨0, rfl, by omega, Lib.hid (Below.refl _ _), Lib.hid (World.ownsRow_nil _ _ _ _)⟩
    case round =>
      obtain ⟨i, rfl, hin, HBW, HO⟩ := hrel
      obtain ⟨A', c', rfl⟩ := own_shape HO.out
      by_cases hlt : i < n
      · obtain ⟨b1, o1, e1, c1⟩ := (HA1.out.below HBW.out) (by rw [← HN.out]; omega)
        obtain ⟨c1', c2'⟩ := c1 i (by rw [← HN.out]; exact hlt)
        clear c1
        obtain ⟨a, b, hx, hy⟩ : ∃ x y, x = (xs.getD i (0, 0)).1 ∧ y = (xs.getD i (0, 0)).2 := ⟨_, _, rfl, rfl⟩
        rw [← hx] at c1'
        rw [← hy] at c2'
        obtain ⟨kb, hkb⟩ : ∃ kb : Bool, kb = cont s1 s2 a b := ⟨_, rfl⟩
        have hsel : selK xs (fun a b => cont s1 s2 a b) (i + 1) = selK xs (fun a b => cont s1 s2 a b) i ++ (if kb then [(i : Int)] else []) := by rw [selK_succ, hkb, hx, hy]
        have HSEL := Lib.hid hsel
        clear hx hy hsel
        subst e1
        have g1 : (i : Int) < (n : Int) := by omega
        have hbA := HBW.out.alloc HBW.out.size (SB a b)
        have hoA := HO.out.alloc (SB a b)
        have hsz := HBW.out.size
        have hbx := (HBW.out.block _ (blk_lt HX.out)).trans HX.out
        have x1 : wr.cell? ⟨w.heap.size, 0, none⟩ = some (.int .i64 s1) := by rw [blk_cell hbx]; rfl
        have x2 : wr.cell? ⟨w.heap.size, 1, none⟩ = some (.int .i64 s2) := by rw [blk_cell hbx]; rfl
        have xlt := blk_lt hbx
        have hl1 : (selK xs (fun a b => cont s1 s2 a b) i).length ≤ i := selK_len _ _ _
        have HK := Lib.hid (Contains_any s1 s2 a b (wr.alloc (SB a b)))
        rw [← hkb] at HK
        have HBA := Lib.hid hbA
        have HOA := Lib.hid hoA
        clear hbA hoA hbx HO HBW hkb
        go_wp2_with fail
        refine HK.out.mono ?_
        rintro e w3 ⟨rfl, hb3⟩
        have HB3 := Lib.hid (HBA.out.trans (hb3.mono (by rw [World.size_alloc]; omega)))
        have hsz3 : w1.heap.size ≤ w3.heap.size := HB3.out.size
        have HO3 := Lib.hid (own_below HOA.out hb3)
        clear hb3 HK x1 x2 c1' c2'
        cases kb with
        | false =>
          go_wp2
          go_roundw
          case measure => simp [intOf]; omega
          case rel => exact ⟨i + 1, by go_num, by omega, HB3, by rw [HSEL.out, if_neg (by simp), List.append_nil]; exact HO3⟩
        | true =>
          go_wp2_with (at_builtin; refine wpList_append_own _ rfl _ _ 30 rfl w1.heap.size 3 i0 (.int .i64 0) 1 8 Try.underlying30 hi0 hz0 hz1 hz2 rfl (by decide) _ _ _ rfl (HO3.out.alloc _) ⟨w3.heap.size, 0, none⟩ 1 1 [.int .i64 (i : Int)] rfl rfl (cell_one_new _ _ _) (by simp [Value.oneCell']) (by simp only [maxLen]; omega) (by omega) (by simp; omega) ?_; intro v' w4 hown' hgrow _; obtain ⟨g', cap', rfl⟩ := ownsRow_succ hown'; have HO4 := Lib.hid hown'; have HB4 := Lib.hid (HB3.out.trans ((bel_alloc (Below.refl w3.heap.size w3) _).mono hsz3 |>.trans (grow_bel (HO3.out.alloc (.cells #[.int .i64 (i : Int)] 3)) (by rw [World.size_alloc]; omega) hgrow))); clear hown' hgrow)
          go_roundw
          case measure => simp [intOf]; omega
          case rel => exact ⟨i + 1, by go_num, by omega, HB4, by rw [HSEL.out, if_pos trivial, List.length_append, List.map_append]; exact HO4⟩
      · have g1 : ¬ (i : Int) < (n : Int) := by omega
        have hi : i = n := by omega
        subst hi
        go_wp2
        go_ret
        have hrow := HO.out
        obtain ⟨A2, c2, e2, hr⟩ := own_rdI hrow
        have e3 : askL xs s1 s2 (fun a b => cont s1 s2 a b) = selK xs (fun a b => cont s1 s2 a b) i := by rw [askL, if_pos HH.out, HN.out]
        rw [e3]
        exact ⟨A2, c2, by rw [← e2]; rfl, hr, bel_trans HB.out HBW.out⟩
  · have h' : vld s1 s2 = false := by simpa using h
    rw [h'] at hv
    have HV := Lib.hid hv
    clear hv h'
    go_enter Try.func18, Try.ntmps18
    go_wp2_with fail
    refine HV.out.mono ?_
    rintro e w1 ⟨rfl, hb⟩
    have hbw := bel_trans (bel_alloc (Below.refl w.heap.size w) _) hb
    clear hb
    go_wp2
    go_ret
    exact ans_nil rfl hbw (by rw [askL, if_neg h])

set_option maxHeartbeats 4000000 in
theorem Ask3_any (A : Option Addr) (c : Nat) (xs : List (Int × Int)) (s1 s2 : Int) (w : World) (ha : RdS w A xs) (hm : xs.length ≤ 1000000) :
    Calls Try.prog 18 #[.slice A xs.length c, SP s1 s2, .int .i64 3] w fun e w' => Ans w (askL xs s1 s2 fun a b => cont a b s1 s2) e w' := by
  obtain ⟨i0, hi0, hz0, hz1, hz2⟩ := info_parts infoI
  have HA := Lib.hid ha
  clear ha
  obtain ⟨n, hn⟩ : ∃ n, n = xs.length := ⟨_, rfl⟩
  rw [← hn]
  rw [← hn] at hm
  have HN := Lib.hid hn
  clear hn
  have hv := Valid_any s1 s2 (w.alloc (SB s1 s2))
  by_cases h : vld s1 s2 = true
  · rw [h] at hv
    have HV := Lib.hid hv
    have HH := Lib.hid h
    clear hv h
    go_enter Try.func18, Try.ntmps18
    go_wp2_with fail
    refine HV.out.mono ?_
    rintro e w1 ⟨rfl, hb⟩
    have hbw := bel_trans (bel_alloc (Below.refl w.heap.size w) _) hb
    have hbx : w1.heap[w.heap.size]? = some (SB s1 s2) := (hb.block _ (by simp)).trans (heap_alloc_new w (SB s1 s2))
    have HA1 := Lib.hid (HA.out.below hbw)
    have HX := Lib.hid hbx
    have HB := Lib.hid hbw
    clear hb hbw hbx HV HA
    go_wp2
    go_loopw [7, 16] (fun r s wr => ∃ (i : Nat), s = .int .i64 i ∧ i ≤ n ∧ Hid (Below w1.heap.size w1 wr) ∧ Hid (wr.ownsRow w1.heap.size 3 1 r (selK xs (fun a b => cont a b s1 s2) i).length ((selK xs (fun a b => cont a b s1 s2) i).map (Value.int .i64)))) (fun r s _ => n - (intOf s).toNat)
    case atStart => exact ⟨0, rfl, by omega, Lib.hid (Below.refl _ _), Lib.hid (World.ownsRow_nil _ _ _ _)⟩
    case round =>
      obtain ⟨i, rfl, hin, HBW, HO⟩ := hrel
      obtain ⟨A', c', rfl⟩ := own_shape HO.out
      by_cases hlt : i < n
      · obtain ⟨b1, o1, e1, c1⟩ := (HA1.out.below HBW.out) (by rw [← HN.out]; omega)
        obtain ⟨c1', c2'⟩ := c1 i (by rw [← HN.out]; exact hlt)
        clear c1
        obtain ⟨a, b, hx, hy⟩ : ∃ x y, x = (xs.getD i (0, 0)).1 ∧ y = (xs.getD i (0, 0)).2 := ⟨_, _, rfl, rfl⟩
        rw [← hx] at c1'
        rw [← hy] at c2'
        obtain ⟨kb, hkb⟩ : ∃ kb : Bool, kb = cont a b s1 s2 := ⟨_, rfl⟩
        have hsel : selK xs (fun a b => cont a b s1 s2) (i + 1) = selK xs (fun a b => cont a b s1 s2) i ++ (if kb then [(i : Int)] else []) := by rw [selK_succ, hkb, hx, hy]
        have HSEL := Lib.hid hsel
        clear hx hy hsel
        subst e1
        have g1 : (i : Int) < (n : Int) := by omega
        have hbA := HBW.out.alloc HBW.out.size (SB a b)
        have hoA := HO.out.alloc (SB a b)
        have hsz := HBW.out.size
        have hbx := (HBW.out.block _ (blk_lt HX.out)).trans HX.out
        have x1 : wr.cell? ⟨w.heap.size, 0, none⟩ = some (.int .i64 s1) := by rw [blk_cell hbx]; rfl
        have x2 : wr.cell? ⟨w.heap.size, 1, none⟩ = some (.int .i64 s2) := by rw [blk_cell hbx]; rfl
        have xlt := blk_lt hbx
        have hl1 : (selK xs (fun a b => cont a b s1 s2) i).length ≤ i := selK_len _ _ _
        have HK := Lib.hid (Contains_any a b s1 s2 (wr.alloc (SB a b)))
        rw [← hkb] at HK
        have HBA := Lib.hid hbA
        have HOA := Lib.hid hoA
        clear hbA hoA hbx HO HBW hkb
        go_wp2_with fail
        refine HK.out.mono ?_
        rintro e w3 ⟨rfl, hb3⟩
        have HB3 := Lib.hid (HBA.out.trans (hb3.mono (by rw [World.size_alloc]; omega)))
        have hsz3 : w1.heap.size ≤ w3.heap.size := HB3.out.size
        have HO3 := Lib.hid (own_below HOA.out hb3)
        clear hb3 HK x1 x2 c1' c2'
        cases kb with
        | false =>
          go_wp2
          go_roundw
          case measure => simp [intOf]; omega
          case rel => exact ⟨i + 1, by go_num, by omega, HB3, by rw [HSEL.out, if_neg (by simp), List.append_nil]; exact HO3⟩
        | true =>
          go_wp2_with (at_builtin; refine wpList_append_own _ rfl _ _ 30 rfl w1.heap.size 3 i0 (.int .i64 0) 1 8 Try.underlying30 hi0 hz0 hz1 hz2 rfl (by decide) _ _ _ rfl (HO3.out.alloc _) ⟨w3.heap.size, 0, none⟩ 1 1 [.int .i64 (i : Int)] rfl rfl (cell_one_new _ _ _) (by simp [Value.oneCell']) (by simp only [maxLen]; omega) (by omega) (by simp; omega) ?_; intro v' w4 hown' hgrow _; obtain ⟨g', cap', rfl⟩ := ownsRow_succ hown'; have HO4 := Lib.hid hown'; have HB4 := Lib.hid (HB3.out.trans ((bel_alloc (Below.refl w3.heap.size w3) _).mono hsz3 |>.trans (grow_bel (HO3.out.alloc (.cells #[.int .i64 (i : Int)] 3)) (by rw [World.size_alloc]; omega) hgrow))); clear hown' hgrow)
          go_roundw
          case measure => simp [intOf]; omega
          case rel => exact ⟨i + 1, by go_num, by omega, HB4, by rw [HSEL.out, if_pos trivial, List.length_append, List.map_append]; exact HO4⟩
      · have g1 : ¬ (i : Int) < (n : Int) := by omega
        have hi : i = n := by omega
        subst hi
        go_wp2
        go_ret
        have hrow := HO.out
        obtain ⟨A2, c2, e2, hr⟩ := own_rdI hrow
        have e3 : askL xs s1 s2 (fun a b => cont a b s1 s2) = selK xs (fun a b => cont a b s1 s2) i := by rw [askL, if_pos HH.out, HN.out]
        rw [e3]
        exact ⟨A2, c2, by rw [← e2]; rfl, hr, bel_trans HB.out HBW.out⟩
  · have h' : vld s1 s2 = false := by simpa using h
    rw [h'] at hv
    have HV := Lib.hid hv
    clear hv h'
    go_enter Try.func18, Try.ntmps18
    go_wp2_with fail
    refine HV.out.mono ?_
    rintro e w1 ⟨rfl, hb⟩
    have hbw := bel_trans (bel_alloc (Below.refl w.heap.size w) _) hb
    clear hb
    go_wp2
    go_ret
    exact ans_nil rfl hbw (by rw [askL, if_neg h])

def atP (pos a b : Int) : Bool := decide (a ≤ pos ∧ pos < b)
theorem atP_t {pos a b : Int} (h1 : a ≤ pos) (h2 : pos < b) : atP pos a b = true := decide_eq_true ⟨h1, h2⟩
theorem atP_f {pos a b : Int} (h : ¬ (a ≤ pos ∧ pos < b)) : atP pos a b = false := decide_eq_false h
set_option maxHeartbeats 4000000 in
theorem RStab_any (A : Option Addr) (c : Nat) (xs : List (Int × Int)) (pos : Int) (w : World) (ha : RdS w A xs) (hm : xs.length ≤ 1000000) :
    Calls Try.prog 15 #[.slice A xs.length c, .int .i64 pos] w fun e w' => Ans w (selK xs (atP pos) xs.length) e w' := by
  obtain ⟨i0, hi0, hz0, hz1, hz2⟩ := info_parts infoI
  have HA := Lib.hid ha
  clear ha
  obtain ⟨n, hn⟩ : ∃ n, n = xs.length := ⟨_, rfl⟩
  rw [← hn]
  rw [← hn] at hm
  have HN := Lib.hid hn
  clear hn
  go_enter Try.func15, Try.ntmps15
  go_wp2
  go_loopw [5, 10] (fun r s wr => ∃ (i : Nat), s = .int .i64 i ∧ i ≤ n ∧ Hid (Below w.heap.size w wr) ∧ Hid (wr.ownsRow w.heap.size 3 1 r (selK xs (atP pos) i).length ((selK xs (atP pos) i).map (Value.int .i64)))) (fun r s _ => n - (intOf s).toNat)
  case atStart => exact ⟨0, rfl, by omega, Lib.hid (Below.refl _ _), Lib.hid (World.ownsRow_nil _ _ _ _)⟩
  case round =>
    obtain ⟨i, rfl, hin, HBW, HO⟩ := hrel
    obtain ⟨A', c', rfl⟩ := own_shape HO.out
    by_cases hlt : i < n
    · obtain ⟨b1, o1, e1, c1⟩ := (HA.out.below HBW.out) (by rw [← HN.out]; omega)
      obtain ⟨c1', c2'⟩ := c1 i (by rw [← HN.out]; exact hlt)
      clear c1
      obtain ⟨a, b, hx, hy⟩ : ∃ x y, x = (xs.getD i (0, 0)).1 ∧ y = (xs.getD i (0, 0)).2 := ⟨_, _, rfl, rfl⟩
      rw [← hx] at c1'
      rw [← hy] at c2'
      have hsel : selK xs (atP pos) (i + 1) = selK xs (atP pos) i ++ (if atP pos a b = true then [(i : Int)] else []) := by rw [selK_succ, hx, hy]
      have HSEL := Lib.hid hsel
      clear hx hy hsel
      subst e1
      have g1 : (i : Int) < (n : Int) := by omega
      have hsz := HBW.out.size
      have hl1 : (selK xs (atP pos) i).length ≤ i := selK_len _ _ _
      have HBA := Lib.hid (HBW.out.alloc HBW.out.size (SB a b))
      have HOA := Lib.hid (HO.out.alloc (SB a b))
      clear HO HBW
      by_cases h1 : a ≤ pos
      · by_cases h2 : pos < b
        · have e1 : atP pos a b = true := atP_t h1 h2
          rw [e1, if_pos rfl] at HSEL
          clear e1
          go_wp2_with (at_builtin; refine wpList_append_own _ rfl _ _ 30 rfl w.heap.size 3 i0 (.int .i64 0) 1 8 Try.underlying30 hi0 hz0 hz1 hz2 rfl (by decide) _ _ _ rfl (HOA.out.alloc _) ⟨wr.heap.size + 1, 0, none⟩ 1 1 [.int .i64 (i : Int)] rfl rfl (by have := cell_one_new (wr.alloc (SB a b)) (.int .i64 (i : Int)) 3; rw [World.size_alloc] at this; exact this) (by simp [Value.oneCell']) (by simp only [maxLen]; omega) (by omega) (by simp; omega) ?_; intro v' w4 hown' hgrow _; obtain ⟨g', cap', rfl⟩ := ownsRow_succ hown'; have HO4 := Lib.hid hown'; have HB4 := Lib.hid ((HBA.out.alloc (by rw [World.size_alloc]; omega) _).trans (grow_bel (HOA.out.alloc (.cells #[.int .i64 (i : Int)] 3)) (by rw [World.size_alloc, World.size_alloc]; omega) hgrow)); clear hown' hgrow)
          go_roundw
          case measure => simp [intOf]; omega
          case rel => exact ⟨i + 1, by go_num, by omega, HB4, by rw [HSEL.out, List.length_append, List.map_append]; exact HO4⟩
        · have e1 : atP pos a b = false := atP_f (by omega)
          rw [e1, if_neg (by simp), List.append_nil] at HSEL
          clear e1
          go_wp2
          go_roundw
          case measure => simp [intOf]; omega
          case rel => exact ⟨i + 1, by go_num, by omega, HBA, by rw [HSEL.out]; exact HOA⟩
      · have e1 : atP pos a b = false := atP_f (by omega)
        rw [e1, if_neg (by simp), List.append_nil] at HSEL
        clear e1
        go_wp2
        go_roundw
        case measure => simp [intOf]; omega
        case rel => exact ⟨i + 1, by go_num, by omega, HBA, by rw [HSEL.out]; exact HOA⟩
    · have g1 : ¬ (i : Int) < (n : Int) := by omega
      have hi : i = n := by omega
      subst hi
      go_wp2
      go_ret
      obtain ⟨A2, c2, e2, hr⟩ := own_rdI HO.out
      exact ⟨A2, c2, by rw [← e2]; rfl, hr, HBW.out⟩
end Go.Proofs.Ytlpdligkjihkeaa.Tb
