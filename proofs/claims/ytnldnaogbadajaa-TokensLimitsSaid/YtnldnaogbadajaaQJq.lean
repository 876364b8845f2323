/- The law TokensLimits, walked. -/
import Derived.Test.YtnldnaogbadajaaM9
set_option linter.unusedVariables false
set_option linter.unusedSimpArgs false
namespace Go.Proofs.Ytnldnaogbadajaa.Tb
open Go.RowKit

def zsL (n : Nat) (v : Int) : List Int := (List.replicate n (0 : Int)).set (n - 1) v
theorem zsL_len (n : Nat) (v : Int) : (zsL n v).length = n := by simp [zsL]
theorem zsL_last (n : Nat) (v : Int) (h : 0 < n) : (zsL n v).getD (n - 1) 0 = v := by
  unfold zsL
  rw [List.getD_eq_getElem?_getD, List.getElem?_set_self (by simp; omega)]
  rfl
theorem zsL_mem {n : Nat} {v z : Int} (h : z ∈ zsL n v) : z = 0 ∨ z = v := by
  rcases List.mem_or_eq_of_mem_set h with h | h
  · exact .inl (List.eq_of_mem_replicate h)
  · exact .inr h
theorem check_big (v : Int) : checkZ (zsL 4097 v) = 2 := by unfold checkZ; rw [zsL_len, if_pos (by omega)]
theorem check_good {n : Nat} {v : Int} (hn : n ≤ 4096) (h : n = 0 ∨ (0 ≤ v ∧ v < 1024)) : checkZ (zsL n v) = 0 := by
  unfold checkZ
  rw [zsL_len, if_neg (by omega), if_pos]
  refine List.all_eq_true.2 fun z hz => ?_
  rcases h with h | h
  · subst h; simp [zsL] at hz
  · rcases zsL_mem hz with e | e
    · subst e; rfl
    · subst e; simp [h.1, h.2]
theorem check_out {n : Nat} {v : Int} (hn : n ≤ 4096) (h0 : 0 < n) (h : ¬ (0 ≤ v ∧ v < 1024)) : checkZ (zsL n v) = 8 := by
  unfold checkZ
  rw [zsL_len, if_neg (by omega), if_neg]
  intro h2
  have hm : v ∈ zsL n v := List.mem_iff_getElem?.2 ⟨n - 1, by unfold zsL; rw [List.getElem?_set_self (by simp; omega)]⟩
  have := List.all_eq_true.1 h2 v hm
  simp only [Bool.and_eq_true, decide_eq_true_eq] at this
  exact h this
theorem rdZ_new {w : World} {B g : Nat} {n : Nat} (h : OwnN w B (.slice (some ⟨g, 0, none⟩) n n) (List.replicate n 0)) (v : Int) (h0 : 0 < n) : RdZ (w.setCell ⟨g, n - 1, none⟩ (.int .i64 v)) (some ⟨g, 0, none⟩) (zsL n v) := fun _ => ⟨g, 0, rfl, fun j hj => by
  rw [zsL_len] at hj
  have h1 : w.ownsRow B 3 1 (.slice (some ⟨g, 0, none⟩) n n) n (nvs (List.replicate n 0)) := by
    have h9 := h
    unfold OwnN at h9
    rw [List.length_replicate] at h9
    exact h9
  have h2 := (World.ownsRow.stored h1 (n - 1) (.int .i64 v)).1
  have h3 := World.ownsRow.cellAt h2 j (by omega)
  rw [Nat.zero_add, h3]
  unfold zsL
  rw [List.getD_eq_getElem?_getD]
  by_cases e : n - 1 = j
  · subst e
    rw [List.getElem?_set_self (by rw [nvs_len, List.length_replicate]; exact hj), List.getElem?_set_self (by simpa using hj)]
    rfl
  · rw [List.getElem?_set_ne e, List.getElem?_set_ne e]
    simp [nvs, hj]⟩
theorem rep_row {w : World} {B g n : Nat} (h : OwnN w B (.slice (some ⟨g, 0, none⟩) n n) (List.replicate n 0)) {j : Nat} (hj : j < n) : w.cell? ⟨g, j, none⟩ = some (.int .i64 0) ∧ w.frozen? ⟨g, j, none⟩ = false := by
  have h1 : w.ownsRow B 3 1 (.slice (some ⟨g, 0, none⟩) n n) n (nvs (List.replicate n 0)) := by
    have h9 := h
    unfold OwnN at h9
    rw [List.length_replicate] at h9
    exact h9
  refine ⟨?_, World.ownsRow.frozenAt h1 j⟩
  rw [World.ownsRow.cellAt h1 j (by omega)]
  simp [nvs, hj]
theorem rdZ_nil (w : World) (g : Nat) (v : Int) : RdZ w (some ⟨g, 0, none⟩) (zsL 0 v) := fun h => by simp [zsL] at h

set_option maxRecDepth 100000 in
set_option maxHeartbeats 12800000 in
theorem tokensLimits_walk (nn v : Int) (w : World) :
    Calls Try.prog 5 #[.int .i64 nn, .int .i64 v] w fun e w' => e = .returned (.bool true) ∧ Below w.heap.size w w' := by
  by_cases h0 : nn < 0
  · go_enter Try.func5, Try.ntmps5
    go_wp2
    go_ret
    exact ⟨rfl, Below.refl _ _⟩
  · by_cases h1 : 4097 < nn
    · go_enter Try.func5, Try.ntmps5
      go_wp2
      go_ret
      exact ⟨rfl, Below.refl _ _⟩
    · obtain ⟨n, rfl⟩ : ∃ n : Nat, nn = (n : Int) := ⟨nn.toNat, by omega⟩
      have hmk := make_N n (by omega)
      have HOW := Lib.hid (ownN_new w n (by omega))
      have HB0 := Lib.hid (bel9 w (.cells (nvs (List.replicate n 0)).toArray 3))
      have hsz : w.heap.size < (w.alloc (.cells (nvs (List.replicate n 0)).toArray 3)).heap.size := by simp
      have hn4 : n ≤ 4097 := by omega
      clear h0 h1
      by_cases hz : 0 < n
      · have t1 : (0 : Int) < (n : Int) := by omega
        obtain ⟨q, hq⟩ : ∃ q, q = n - 1 := ⟨_, rfl⟩
        have eq1 : (n : Int) - 1 = (q : Int) := by omega
        have hqn : q < n := by omega
        have HRZ := rdZ_new HOW.out v hz
        rw [← hq] at HRZ
        have HQQ := Lib.hid hq
        clear hq
        have HRZ' := Lib.hid HRZ
        obtain ⟨hc0, hf0⟩ := rep_row HOW.out hqn
        have HZL : Hid ((zsL n v).length = n) := Lib.hid (zsL_len n v)
        obtain ⟨W, hW⟩ : ∃ W, W = (w.alloc (.cells (nvs (List.replicate n 0)).toArray 3)).setCell ⟨w.heap.size, q, none⟩ (.int .i64 v) := ⟨_, rfl⟩
        rw [← hW] at HRZ'
        have HW : Hid (w.alloc (.cells ((nvs (List.replicate n 0)).set q (.int .i64 v)).toArray 3) = W) := Lib.hid (by rw [hW, World.setCell_alloc_new]; simp)
        have HBW : Hid (Below w.heap.size w W) := Lib.hid (by rw [hW]; exact HB0.out.setCell (p := ⟨w.heap.size, q, none⟩) (Nat.le_refl _) _)
        have hszW := HBW.out.size
        clear HRZ hW
        by_cases hbig : n = 4097
        · have hBB := Build_bad (some ⟨w.heap.size, 0, none⟩) n (zsL n v) W HRZ'.out (by rw [HZL.out]; omega) (by rw [hbig, check_big]; decide)
          rw [HZL.out, show checkZ (zsL n v) = 2 by rw [hbig, check_big]] at hBB
          have HBB := Lib.hid hBB
          have t2 : (4096 : Int) < (n : Int) := by omega
          clear hBB hbig
          go_enter Try.func5, Try.ntmps5
          go_wp2_with fail
          rw [HW.out]
          refine HBB.out.mono ?_
          rintro e w1 ⟨rfl, rfl⟩
          go_wp2_with fail
          refine (awake_any _).mono ?_
          rintro e w4 ⟨rfl, hb4⟩
          have HB4 := Lib.hid (HBW.out.trans (hb4.mono hszW))
          clear hb4
          go_wp2
          go_ret
          exact ⟨rfl, HB4.out⟩
        · have t2 : ¬ (4096 : Int) < (n : Int) := by omega
          by_cases hv : 0 ≤ v ∧ v < 1024
          · obtain ⟨xs, hxs, hxl, hx⟩ := good_nat (check_good (n := n) (v := v) (by omega) (.inr hv))
            have hlen : xs.length = n := by rw [← zsL_len n v, hxs, List.length_map]
            have hlast : (xs.getD q 0 : Int) = v := by
              have h9 := zsL_last n v hz
              rw [hxs, ← HQQ.out, List.getD_eq_getElem?_getD, List.getElem?_map, List.getElem?_eq_getElem (by rw [hlen]; exact hqn)] at h9
              rw [List.getD_eq_getElem?_getD, List.getElem?_eq_getElem (by rw [hlen]; exact hqn)]
              exact h9
            have hrn : RdN W (some ⟨w.heap.size, 0, none⟩) xs := by
              have h9 := HRZ'.out
              rw [hxs] at h9
              exact h9.toN
            have hBO := Build_ok (some ⟨w.heap.size, 0, none⟩) n xs W hrn hxl (by rw [hlen]; exact Nat.le_refl _) hx
            rw [hlen] at hBO
            have HBO := Lib.hid hBO
            have HLAST := Lib.hid hlast
            have HLN := Lib.hid hlen
            have HXL := Lib.hid hxl
            have HX := Lib.hid hx
            have t3 : ¬ v < 0 := by omega
            have t4 : ¬ (1024 : Int) ≤ v := by omega
            clear hBO hlast hlen hxl hx hrn hxs hbig
            go_enter Try.func5, Try.ntmps5
            go_wp2_with fail
            rw [HW.out]
            refine HBO.out.mono ?_
            rintro e w1 ⟨p, rfl, hs1, hp1, hb1⟩
            have hs1' := hs1
            rw [← HLN.out] at hs1'
            have HX1 := Lib.hid (StrX.of hs1')
            have HB1 := Lib.hid (HBW.out.trans (hb1.mono hszW))
            have HAT := Lib.hid (At_ok w1 p xs q HX1.out (by rw [HLN.out]; exact hqn) HXL.out HX.out)
            rw [HLAST.out] at HAT
            have hpw : w.heap.size ≤ p := Nat.le_trans hszW hp1
            clear hs1 hs1' hb1 HBO
            go_wp2_with fail
            refine HAT.out.mono ?_
            rintro e w2 ⟨rfl, hs2, hg2⟩
            have HB2 : Hid (Below w.heap.size w w2) := Lib.hid (HB1.out.grown hg2 HB1.out.size (fun j hj => by injection hj with hj; omega))
            obtain ⟨la, bv, hst, _, _⟩ := hs2
            have hTL := TLen_any w2 p xs.length _ _ _ _ _ hst
            rw [HLN.out] at hTL
            have HTL := Lib.hid hTL
            have t5 : ((n : Int) == 0) = false := by rw [beq_eq_false_iff_ne]; omega
            have t6 : (v == v) = true := by simp
            clear hst hTL hg2 HAT
            go_wp2_with fail
            refine HTL.out.mono ?_
            rintro e w3 ⟨rfl, rfl⟩
            go_wp2_with fail
            refine (awake_any _).mono ?_
            rintro e w4 ⟨rfl, hb4⟩
            have HB4 := Lib.hid (HB2.out.trans (hb4.mono HB2.out.size))
            clear hb4
            go_wp2
            go_ret
            exact ⟨rfl, HB4.out⟩
          · have hBB := Build_bad (some ⟨w.heap.size, 0, none⟩) n (zsL n v) W HRZ'.out (by rw [HZL.out]; omega) (by rw [check_out (by omega) hz hv]; decide)
            rw [HZL.out, check_out (by omega) hz hv] at hBB
            have HBB := Lib.hid hBB
            clear hBB hbig
            by_cases hv0 : v < 0
            · go_enter Try.func5, Try.ntmps5
              go_wp2_with fail
              rw [HW.out]
              refine HBB.out.mono ?_
              rintro e w1 ⟨rfl, rfl⟩
              go_wp2_with fail
              refine (awake_any _).mono ?_
              rintro e w4 ⟨rfl, hb4⟩
              have HB4 := Lib.hid (HBW.out.trans (hb4.mono hszW))
              clear hb4
              go_wp2
              go_ret
              exact ⟨rfl, HB4.out⟩
            · have t4 : (1024 : Int) ≤ v := by omega
              clear hv
              go_enter Try.func5, Try.ntmps5
              go_wp2_with fail
              rw [HW.out]
              refine HBB.out.mono ?_
              rintro e w1 ⟨rfl, rfl⟩
              go_wp2_with fail
              refine (awake_any _).mono ?_
              rintro e w4 ⟨rfl, hb4⟩
              have HB4 := Lib.hid (HBW.out.trans (hb4.mono hszW))
              clear hb4
              go_wp2
              go_ret
              exact ⟨rfl, HB4.out⟩
      · obtain rfl : n = 0 := by omega
        have hmk0 : (Instr.makeSlice 22 (.int .i64 0) (.int .i64 0)).run Try.prog w = .ok (.slice (some ⟨w.heap.size, 0, none⟩) 0 0) (w.alloc (.cells (nvs (List.replicate 0 0)).toArray 3)) := hmk w
        obtain ⟨W, hW⟩ : ∃ W, W = w.alloc (.cells (nvs (List.replicate 0 0)).toArray 3) := ⟨_, rfl⟩
        rw [← hW] at HB0 hmk0
        have hszW := HB0.out.size
        have HBO := Lib.hid (Build_ok (some ⟨w.heap.size, 0, none⟩) 0 [] W (fun h => by simp at h) (by simp) (by simp) ⟨fun x h => by cases h⟩)
        clear hW hsz HOW hn4 hz hmk
        go_enter Try.func5, Try.ntmps5
        go_wp2_with fail
        refine HBO.out.mono ?_
        rintro e w1 ⟨p, rfl, hs1, hp1, hb1⟩
        have HX1 := Lib.hid (StrX.of (xs := []) hs1)
        have HB1 := Lib.hid (HB0.out.trans (hb1.mono hszW))
        have HAT := Lib.hid (At_no w1 p [] (-1) HX1.out (.inl (by omega)))
        have HTL := Lib.hid (TLen_any w1 p 0 _ _ _ _ _ hs1)
        clear hs1 hb1 HBO
        go_wp2_with fail
        refine HAT.out.mono ?_
        rintro e w2 ⟨rfl, rfl⟩
        go_wp2_with fail
        refine HTL.out.mono ?_
        rintro e w3 ⟨rfl, rfl⟩
        go_wp2_with fail
        refine (awake_any _).mono ?_
        rintro e w4 ⟨rfl, hb4⟩
        have HB4 := Lib.hid (HB1.out.trans (hb4.mono HB1.out.size))
        clear hb4
        go_wp2
        go_ret
        exact ⟨rfl, HB4.out⟩
end Go.Proofs.Ytnldnaogbadajaa.Tb
