/- The law StabEncodes, walked. -/
import Derived.Test.YtlpdligkjihkeaaWh
import Derived.Test.YtlpdligkjihkeaaUa
set_option linter.unusedVariables false
set_option linter.unusedSimpArgs false
namespace Go.Proofs.Ytlpdligkjihkeaa.Tb
open Go.RowKit

set_option maxRecDepth 1000000 in
set_option maxHeartbeats 16000000 in
theorem stabEncodes_walk (A : Option Addr) (c : Nat) (xs : List (Int × Int)) (s1 s2 : Int) (w : World) (ha : RdS w A xs) (hA : A = none → xs.length = 0 ∧ c = 0) (hm : xs.length ≤ maxLen) :
    Calls Try.prog 8 #[.slice A xs.length c, SP s1 s2] w fun e w' => e = .returned (.bool true) ∧ Below w.heap.size w w' := by
  unfold maxLen at hm
  obtain ⟨n, hn⟩ : ∃ n, n = xs.length := ⟨_, rfl⟩
  have hb0 : Below w.heap.size w (w.alloc (SB s1 s2)) := bel_alloc (Below.refl _ _) _
  have hx0 : (w.alloc (SB s1 s2)).heap[w.heap.size]? = some (SB s1 s2) := heap_alloc_new w _
  have ha0 := ha.below hb0
  by_cases hl : 100 < n
  · rw [← hn] at hm ⊢
    have g1 : (100 : Int) < (n : Int) := by omega
    clear ha hA hn
    go_enter Try.func8, Try.ntmps8
    go_wp2
    go_ret
    exact ⟨rfl, hb0⟩
  · have g1 : ¬ (100 : Int) < (n : Int) := by omega
    by_cases hok : xs.all okV = true ∧ xs.all okE = true
    · have HK : Hid (Okl xs) := Lib.hid ⟨by omega, hok.1, hok.2⟩
      have HB := Lib.hid (built_ok A c xs (w.alloc (SB s1 s2)) ha0 hA HK.out)
      have HEI : Hid ((encI xs).length ≤ 8000) := Lib.hid (by
        have := encP_len xs (fun i hi => by have := ok_bd hok.1 hok.2 hi; omega) xs.length (Nat.le_refl _)
        rw [List.take_of_length_le (Nat.le_refl _)] at this
        have hu := uv_len10 (v := xs.length) (by omega)
        unfold encI
        rw [sealL_len, List.length_append]
        omega)
      obtain ⟨L1, hL1⟩ : ∃ L, L = ansK xs s1 s2 fun _ _ => true := ⟨_, rfl⟩
      obtain ⟨L2, hL2⟩ : ∃ L, L = ansS xs s1 := ⟨_, rfl⟩
      obtain ⟨m1, hm1⟩ : ∃ m, m = L1.length := ⟨_, rfl⟩
      obtain ⟨m2, hm2⟩ : ∃ m, m = L2.length := ⟨_, rfl⟩
      have hl1 : m1 ≤ 100 := by rw [hm1, hL1]; have := ansK_len xs s1 s2 (fun _ _ => true); omega
      have hl2 : m2 ≤ 100 := by rw [hm2, hL2]; have := ansS_len xs s1; omega
      have HI1 := Lib.hid (fun p w1 (h : Idx w1 p xs) => (Overlap_ans xs p s1 s2 w1 (by omega) h).mono fun e w' (h : Ans w1 _ e w') => show AnsM w1 L1 m1 e w' from by rw [← hL1] at h; exact h.m m1 hm1)
      have HI2 := Lib.hid (fun p w1 (h : Idx w1 p xs) => (Stab_ans xs p s1 w1 (by omega) h).mono fun e w' (h : Ans w1 _ e w') => show AnsM w1 L2 m2 e w' from by rw [← hL2] at h; exact h.m m2 hm2)
      have HLN : Hid (∀ W p, Idx W p xs → Calls Try.prog 11 #[.pointer (some ⟨p, 0, none⟩)] W fun e w' => e = .returned (.int .i64 n) ∧ w' = W) := Lib.hid fun W p h => by rw [hn]; exact Len_any xs p W h
      have HRE : Hid (∀ W, Below (w.alloc (SB s1 s2)).heap.size (w.alloc (SB s1 s2)) W → Calls Try.prog 23 #[.slice A n c] W fun e w' => StrAns W (strN (encI xs)) e w') := Lib.hid fun W hW => by
        have := REncode_any A c xs W (ha0.below hW) HK.out.l HK.out.v HK.out.e
        rw [← hn] at this
        exact this.mono fun e w' ⟨v, he, ho, hb⟩ => ownB_str he ho hb
      have HEN : Hid (∀ W p, Idx W p xs → Calls Try.prog 21 #[.pointer (some ⟨p, 0, none⟩)] W fun e w' => StrAns W (strN (encI xs)) e w') := Lib.hid fun W p h => (Encode_any xs p W HK.out.l HK.out.v HK.out.e h).mono fun e w' ⟨v, he, ho, hb⟩ => ownB_str he ho hb
      have HE0 := Lib.hid (fun W p (h : Idx W p xs) => Encode_any xs p W HK.out.l HK.out.v HK.out.e h)
      obtain ⟨s, hs⟩ : ∃ s, s = strN (encI xs) := ⟨_, rfl⟩
      rw [← hs] at HRE HEN
      have HS := Lib.hid hs
      rw [← hn] at HB hm ⊢
      have HX0 := Lib.hid hx0
      have HB0 := Lib.hid hb0
      have HM1 := Lib.hid hm1
      have HM2 := Lib.hid hm2
      have h3 : (s.toList == s.toList) = true := by simp
      have h4 : (s == s) = true := by rw [beq_toListBytes]; exact h3
      have h5 : (s != s) = false := by simp [bne, h4]
      clear ha ha0 hA hn hok hL1 hL2 hx0 hb0 hm1 hm2 hs
      go_enter Try.func8, Try.ntmps8
      go_wp2_with fail
      refine HB.out.mono ?_
      rintro e w1 ⟨p, rfl, hi, hb1⟩
      have HI := Lib.hid hi
      have HBW := Lib.hid hb1
      have HBX := Lib.hid ((hb1.block _ (blk_lt HX0.out)).trans HX0.out)
      have HE1 := Lib.hid (HE0.out w1 p hi)
      clear hi hb1 HB HX0
      go_wp2_with fail
      refine HE1.out.mono ?_
      rintro e w2 ⟨v2, rfl, ho2, hb2⟩
      obtain ⟨A2, c2, rfl, hr2, hAn2, hcap2, _⟩ := ho2.rd
      have HDE := Lib.hid (Decode_any A2 c2 (encI xs) w2 hr2 hcap2 (encI_byt _) HEI.out)
      obtain ⟨n2, hn2⟩ : ∃ n2, n2 = (encI xs).length := ⟨_, rfl⟩
      have HC : Hid (∀ W, Below w2.heap.size w2 W → (convert 41 9 (.slice A2 n2 c2)).run Try.prog W = .ok (.string s) W) := Lib.hid fun W hW => by
        rw [hn2, HS.out]
        exact conv_B (hr2.below hW)
      rw [← hn2] at HDE ⊢
      have HBX2 := Lib.hid ((hb2.block _ (blk_lt HBX.out)).trans HBX.out)
      have HI2' := Lib.hid (HI.out.below hb2)
      have HBW2 := Lib.hid (bel_trans HBW.out hb2)
      clear ho2 hr2 hAn2 hcap2 hn2 hb2 HE1 HE0 HBX HI HBW
      go_wp2_with fail
      refine HDE.out.mono ?_
      rintro e w3 ⟨hb3, ⟨q, ys, rfl, hi3, hk3, he3⟩ | ⟨rfl, hno⟩⟩
      · obtain rfl : ys = xs := encI_inj hk3 HK.out he3
        have S0 : Hid (SeqSt w2 w.heap.size p q ys s1 s2 w3.drew) := Lib.hid ((SeqSt.mk hb3 ((hb3.block _ (blk_lt HBX2.out)).trans HBX2.out) (HI2'.out.below hb3) hi3 : SeqSt w2 w.heap.size p q ys s1 s2 w3).step (bel_drew (Below.refl _ _)))
        have C0 := HC.out _ S0.out.bel
        clear hb3 hi3 hk3 he3 HDE HBX2 HI2'
        go_wp2_with fail
        refine wp_region_noPanic ?_
        refine wp_region_held_drew (S := fun w' => (convert 41 9 (.slice A2 n2 c2)).run Try.prog w' = .ok (.string s) w') (by kernel_rfl) ?_ (fun hHeld => ?_)
        · try dsimp only
          first | (with_reducible exact C1) | (with_reducible exact C0)
        refine wpAnyH_take (i := 0) (v := ?_) rfl (by kernel_rfl) (by kernel_rfl) (by kernel_rfl) (fun _ _ _ h => h) (Or.inl ⟨by rfl, ?_⟩) (by assumption) ?_
        rotate_left
        · (intro w hSw; (try dsimp only at hSw); go_simp; try (with_reducible rfl))
        try simp only [Act.put, List.getElem_toArray, List.getElem_cons_succ, List.getElem_cons_zero, List.setIfInBounds_toArray, List.set_cons_zero, List.set_cons_succ]
        refine wpAnyH_take (i := 1) (v := ?_) rfl (by kernel_rfl) (by kernel_rfl) (by kernel_rfl) (fun _ _ _ h => h) (Or.inl ⟨by rfl, ?_⟩) (by assumption) ?_
        rotate_left
        · (intro w hSw; (try dsimp only at hSw); go_simp; try (with_reducible rfl))
        try simp only [Act.put, List.getElem_toArray, List.getElem_cons_succ, List.getElem_cons_zero, List.setIfInBounds_toArray, List.set_cons_zero, List.set_cons_succ]
        refine wpAnyH_take (i := 2) (v := ?_) rfl (by kernel_rfl) (by kernel_rfl) (by kernel_rfl) (fun _ _ _ h => h) (Or.inl ⟨by rfl, ?_⟩) (by assumption) ?_
        rotate_left
        · (intro w hSw; (try dsimp only at hSw); go_simp; try (with_reducible rfl))
        try simp only [Act.put, List.getElem_toArray, List.getElem_cons_succ, List.getElem_cons_zero, List.setIfInBounds_toArray, List.set_cons_zero, List.set_cons_succ]
        refine wpAnyH_ready (rs := [3]) (by kernel_rfl) (by simp) ?_
        refine AllReadyH.cons rfl (fun K hK => ?_) ?_
        · skip
          go_simp
          first
            | (go_at_call 23
               with_reducible refine (HRE.out _ (bel_trans HBW2.out S0.out.bel)).mono ?_
               rintro e w4 ⟨A4, n4, c4, rfl, h4c, h4b⟩
               have S1 := Lib.hid (S0.out.step h4b)
               have C1 := HC.out _ S1.out.bel
               have D1 := h4c w4 (Below.refl _ _)
               clear h4c h4b)
          try go_wp2_with fail
          refine hK.out _ _ ?_ (fun hHeld => ?_)
          · try dsimp only
            first | (with_reducible exact C1) | (with_reducible exact C0)
          clear hK K
          try simp only [Act.put, List.getElem_toArray, List.getElem_cons_succ, List.getElem_cons_zero, List.setIfInBounds_toArray, List.set_cons_zero, List.set_cons_succ]
          refine wpAnyH_ready (rs := [4]) (by kernel_rfl) (by simp) ?_
          refine AllReadyH.cons rfl (fun K hK => ?_) ?_
          · skip
            go_simp
            refine hK.out _ _ ?_ (fun hHeld => ?_)
            · try dsimp only
              first | (with_reducible exact C1) | (with_reducible exact C0)
            clear hK K
            try simp only [Act.put, List.getElem_toArray, List.getElem_cons_succ, List.getElem_cons_zero, List.setIfInBounds_toArray, List.set_cons_zero, List.set_cons_succ]
            refine wpAnyH_take (i := 5) (v := ?_) rfl (by kernel_rfl) (by kernel_rfl) (by kernel_rfl) (fun _ _ _ h => h) (Or.inl ⟨by rfl, ?_⟩) (by assumption) ?_
            rotate_left
            · (intro w hSw; (try dsimp only at hSw); go_simp; try (with_reducible rfl))
            try simp only [Act.put, List.getElem_toArray, List.getElem_cons_succ, List.getElem_cons_zero, List.setIfInBounds_toArray, List.set_cons_zero, List.set_cons_succ]
            refine wpAnyH_take (i := 6) (v := ?_) rfl (by kernel_rfl) (by kernel_rfl) (by kernel_rfl) (fun _ _ _ h => h) (Or.inl ⟨by rfl, ?_⟩) (by assumption) ?_
            rotate_left
            · (intro w hSw; (try dsimp only at hSw); go_simp; try (with_reducible rfl))
            try simp only [Act.put, List.getElem_toArray, List.getElem_cons_succ, List.getElem_cons_zero, List.setIfInBounds_toArray, List.set_cons_zero, List.set_cons_succ]
            refine wpAnyH_take (i := 7) (v := ?_) rfl (by kernel_rfl) (by kernel_rfl) (by kernel_rfl) (fun _ _ _ h => h) (Or.inl ⟨by rfl, ?_⟩) (by assumption) ?_
            rotate_left
            · (intro w hSw; (try dsimp only at hSw); go_simp; try (with_reducible rfl))
            try simp only [Act.put, List.getElem_toArray, List.getElem_cons_succ, List.getElem_cons_zero, List.setIfInBounds_toArray, List.set_cons_zero, List.set_cons_succ]
            refine wpAnyH_take (i := 8) (v := ?_) rfl (by kernel_rfl) (by kernel_rfl) (by kernel_rfl) (fun _ _ _ h => h) (Or.inl ⟨by rfl, ?_⟩) (by assumption) ?_
            rotate_left
            · (intro w hSw; (try dsimp only at hSw); go_simp; try (with_reducible rfl))
            try simp only [Act.put, List.getElem_toArray, List.getElem_cons_succ, List.getElem_cons_zero, List.setIfInBounds_toArray, List.set_cons_zero, List.set_cons_succ]
            refine wpAnyH_take (i := 9) (v := ?_) rfl (by kernel_rfl) (by kernel_rfl) (by kernel_rfl) (fun _ _ _ h => h) (Or.inl ⟨by rfl, ?_⟩) (by assumption) ?_
            rotate_left
            · (intro w hSw; (try dsimp only at hSw); go_simp; try (with_reducible rfl))
            try simp only [Act.put, List.getElem_toArray, List.getElem_cons_succ, List.getElem_cons_zero, List.setIfInBounds_toArray, List.set_cons_zero, List.set_cons_succ]
            refine wpAnyH_take (i := 10) (v := ?_) rfl (by kernel_rfl) (by kernel_rfl) (by kernel_rfl) (fun _ _ _ h => h) (Or.inl ⟨by rfl, ?_⟩) (by assumption) ?_
            rotate_left
            · (intro w hSw; (try dsimp only at hSw); go_simp; try (with_reducible rfl))
            try simp only [Act.put, List.getElem_toArray, List.getElem_cons_succ, List.getElem_cons_zero, List.setIfInBounds_toArray, List.set_cons_zero, List.set_cons_succ]
            refine wpAnyH_take (i := 11) (v := ?_) rfl (by kernel_rfl) (by kernel_rfl) (by kernel_rfl) (fun _ _ _ h => h) (Or.inl ⟨by rfl, ?_⟩) (by assumption) ?_
            rotate_left
            · (intro w hSw; (try dsimp only at hSw); go_simp; try (with_reducible rfl))
            try simp only [Act.put, List.getElem_toArray, List.getElem_cons_succ, List.getElem_cons_zero, List.setIfInBounds_toArray, List.set_cons_zero, List.set_cons_succ]
            refine wpAnyH_take (i := 12) (v := ?_) rfl (by kernel_rfl) (by kernel_rfl) (by kernel_rfl) (fun _ _ _ h => h) (Or.inl ⟨by rfl, ?_⟩) (by assumption) ?_
            rotate_left
            · (intro w hSw; (try dsimp only at hSw); go_simp; try (with_reducible rfl))
            try simp only [Act.put, List.getElem_toArray, List.getElem_cons_succ, List.getElem_cons_zero, List.setIfInBounds_toArray, List.set_cons_zero, List.set_cons_succ]
            refine wpAnyH_take (i := 13) (v := ?_) rfl (by kernel_rfl) (by kernel_rfl) (by kernel_rfl) (fun _ _ _ h => h) (Or.inl ⟨by rfl, ?_⟩) (by assumption) ?_
            rotate_left
            · (intro w hSw; (try dsimp only at hSw); go_simp; try (with_reducible rfl))
            try simp only [Act.put, List.getElem_toArray, List.getElem_cons_succ, List.getElem_cons_zero, List.setIfInBounds_toArray, List.set_cons_zero, List.set_cons_succ]
            refine wpAnyH_done (by kernel_rfl) ?_ _
            refine NoPanic.normal ?_
            go_wp2_with fail
            clear C0 C1 D1
            have S2 := Lib.hid (S1.out.step (bel_drew (Below.refl _ _)))
            have K2 := S2.out.k
            have C2 := HC.out _ S2.out.bel
            refine wp_region_noPanic ?_
            refine wp_region_held_drew (S := fun w' => (w'.cell? ⟨w.heap.size, 0, none⟩ = some (.int .i64 s1) ∧ w'.cell? ⟨w.heap.size, 1, none⟩ = some (.int .i64 s2)) ∧ (convert 41 9 (.slice A2 n2 c2)).run Try.prog w' = .ok (.string s) w') (by kernel_rfl) ?_ (fun hHeld => ?_)
            · try dsimp only
              first | (with_reducible exact ⟨KA, CA⟩) | (with_reducible exact ⟨K9, C9⟩) | (with_reducible exact ⟨K8, C8⟩) | (with_reducible exact ⟨K7, C7⟩) | (with_reducible exact ⟨K6, C6⟩) | (with_reducible exact ⟨K5, C5⟩) | (with_reducible exact ⟨K4, C4⟩) | (with_reducible exact ⟨K3, C3⟩) | (with_reducible exact ⟨K2, C2⟩)
            refine wpAnyH_take (i := 0) (v := ?_) rfl (by kernel_rfl) (by kernel_rfl) (by kernel_rfl) (fun _ _ _ h => h) (Or.inl ⟨by rfl, ?_⟩) (by assumption) ?_
            rotate_left
            · (intro w hSw; (try dsimp only at hSw); go_simp; try (with_reducible rfl))
            try simp only [Act.put, List.getElem_toArray, List.getElem_cons_succ, List.getElem_cons_zero, List.setIfInBounds_toArray, List.set_cons_zero, List.set_cons_succ]
            refine wpAnyH_take (i := 2) (v := ?_) rfl (by kernel_rfl) (by kernel_rfl) (by kernel_rfl) (fun _ _ _ h => h) (Or.inl ⟨by rfl, ?_⟩) (by assumption) ?_
            rotate_left
            · (intro w hSw; (try dsimp only at hSw); go_simp; try (with_reducible rfl))
            try simp only [Act.put, List.getElem_toArray, List.getElem_cons_succ, List.getElem_cons_zero, List.setIfInBounds_toArray, List.set_cons_zero, List.set_cons_succ]
            refine wpAnyH_take (i := 3) (v := ?_) rfl (by kernel_rfl) (by kernel_rfl) (by kernel_rfl) (fun _ _ _ h => h) (Or.inl ⟨by rfl, ?_⟩) (by assumption) ?_
            rotate_left
            · (intro w hSw; (try dsimp only at hSw); go_simp; try (with_reducible rfl))
            try simp only [Act.put, List.getElem_toArray, List.getElem_cons_succ, List.getElem_cons_zero, List.setIfInBounds_toArray, List.set_cons_zero, List.set_cons_succ]
            refine wpAnyH_ready (rs := [1]) (by kernel_rfl) (by simp) ?_
            refine AllReadyH.cons rfl (fun K hK => ?_) ?_
            · skip
              go_simp
              first
                | (go_at_call 11
                   with_reducible refine (HLN.out _ q S2.out.idy).mono ?_
                   rintro e v3 ⟨rfl, rfl⟩)
                | (go_at_call 21
                   with_reducible refine (HEN.out _ q S2.out.idy).mono ?_
                   rintro e v3 ⟨A3, n3, c3, rfl, h3c, h3b⟩
                   have S3 := Lib.hid (S2.out.step h3b)
                   have K3 := S3.out.k
                   have C3 := HC.out _ S3.out.bel
                   have D3 := h3c v3 (Below.refl _ _)
                   clear h3c h3b)
                | (go_at_call_of 16 (Value.pointer (some ⟨q, 0, none⟩))
                   with_reducible refine (HI1.out q _ S3.out.idy).mono ?_
                   rintro e v4 ⟨A4, c4, rfl, r4, b4⟩
                   have S4 := Lib.hid (S3.out.step b4)
                   have R4 := Lib.hid r4
                   have K4 := S4.out.k
                   have C4 := HC.out _ S4.out.bel
                   clear r4 b4)
                | (go_at_call_of 16 (Value.pointer (some ⟨p, 0, none⟩))
                   with_reducible refine (HI1.out p _ S4.out.idx).mono ?_
                   rintro e v5 ⟨A5, c5, rfl, r5, b5⟩
                   have S5 := Lib.hid (S4.out.step b5)
                   have R5 := Lib.hid r5
                   have K5 := S5.out.k
                   have C5 := HC.out _ S5.out.bel
                   have Q4 := Lib.hid (R4.out.below b5)
                   clear r5 b5)
                | (go_at_call_of 13 (Value.slice A4 m1 c4)
                   with_reducible refine (same_refl L1 m1 HM1.out (by omega) A4 A5 c4 c5 _ Q4.out R5.out).mono ?_
                   rintro e v6 ⟨rfl, b6⟩
                   have S6 := Lib.hid (S5.out.step b6)
                   have K6 := S6.out.k
                   have C6 := HC.out _ S6.out.bel
                   clear b6)
                | (go_at_call_of 14 (Value.pointer (some ⟨q, 0, none⟩))
                   with_reducible refine (HI2.out q _ S6.out.idy).mono ?_
                   rintro e v7 ⟨A7, c7, rfl, r7, b7⟩
                   have S7 := Lib.hid (S6.out.step b7)
                   have R7 := Lib.hid r7
                   have K7 := S7.out.k
                   have C7 := HC.out _ S7.out.bel
                   clear r7 b7)
                | (go_at_call_of 14 (Value.pointer (some ⟨p, 0, none⟩))
                   with_reducible refine (HI2.out p _ S7.out.idx).mono ?_
                   rintro e v8 ⟨A8, c8, rfl, r8, b8⟩
                   have S8 := Lib.hid (S7.out.step b8)
                   have R8 := Lib.hid r8
                   have K8 := S8.out.k
                   have C8 := HC.out _ S8.out.bel
                   have Q7 := Lib.hid (R7.out.below b8)
                   clear r8 b8)
                | (go_at_call_of 13 (Value.slice A7 m2 c7)
                   with_reducible refine (same_refl L2 m2 HM2.out (by omega) A7 A8 c7 c8 _ Q7.out R8.out).mono ?_
                   rintro e v9 ⟨rfl, b9⟩
                   have S9 := Lib.hid (S8.out.step b9)
                   have K9 := S9.out.k
                   have C9 := HC.out _ S9.out.bel
                   clear b9)
                | (go_at_call 12
                   with_reducible refine (awake_any _).mono ?_
                   rintro e vA ⟨rfl, bA⟩
                   have SA := Lib.hid (S9.out.step bA)
                   have KA := SA.out.k
                   have CA := HC.out _ SA.out.bel
                   clear bA)
              try go_wp2_with fail
              refine hK.out _ _ ?_ (fun hHeld => ?_)
              · try dsimp only
                first | (with_reducible exact ⟨KA, CA⟩) | (with_reducible exact ⟨K9, C9⟩) | (with_reducible exact ⟨K8, C8⟩) | (with_reducible exact ⟨K7, C7⟩) | (with_reducible exact ⟨K6, C6⟩) | (with_reducible exact ⟨K5, C5⟩) | (with_reducible exact ⟨K4, C4⟩) | (with_reducible exact ⟨K3, C3⟩) | (with_reducible exact ⟨K2, C2⟩)
              clear hK K
              try simp only [Act.put, List.getElem_toArray, List.getElem_cons_succ, List.getElem_cons_zero, List.setIfInBounds_toArray, List.set_cons_zero, List.set_cons_succ]
              refine wpAnyH_take (i := 4) (v := ?_) rfl (by kernel_rfl) (by kernel_rfl) (by kernel_rfl) (fun _ _ _ h => h) (Or.inl ⟨by rfl, ?_⟩) (by assumption) ?_
              rotate_left
              · (intro w hSw; (try dsimp only at hSw); go_simp; try (with_reducible rfl))
              try simp only [Act.put, List.getElem_toArray, List.getElem_cons_succ, List.getElem_cons_zero, List.setIfInBounds_toArray, List.set_cons_zero, List.set_cons_succ]
              refine wpAnyH_take (i := 5) (v := ?_) rfl (by kernel_rfl) (by kernel_rfl) (by kernel_rfl) (fun _ _ _ h => h) (Or.inl ⟨by rfl, ?_⟩) (by assumption) ?_
              rotate_left
              · (intro w hSw; (try dsimp only at hSw); go_simp; try (with_reducible rfl))
              try simp only [Act.put, List.getElem_toArray, List.getElem_cons_succ, List.getElem_cons_zero, List.setIfInBounds_toArray, List.set_cons_zero, List.set_cons_succ]
              refine wpAnyH_take (i := 6) (v := ?_) rfl (by kernel_rfl) (by kernel_rfl) (by kernel_rfl) (fun _ _ _ h => h) (Or.inl ⟨by rfl, ?_⟩) (by assumption) ?_
              rotate_left
              · (intro w hSw; (try dsimp only at hSw); go_simp; try (with_reducible rfl))
              try simp only [Act.put, List.getElem_toArray, List.getElem_cons_succ, List.getElem_cons_zero, List.setIfInBounds_toArray, List.set_cons_zero, List.set_cons_succ]
              refine wpAnyH_take (i := 9) (v := ?_) rfl (by kernel_rfl) (by kernel_rfl) (by kernel_rfl) (fun _ _ _ h => h) (Or.inl ⟨by rfl, ?_⟩) (by assumption) ?_
              rotate_left
              · (intro w hSw; (try dsimp only at hSw); go_simp; try (with_reducible rfl))
              try simp only [Act.put, List.getElem_toArray, List.getElem_cons_succ, List.getElem_cons_zero, List.setIfInBounds_toArray, List.set_cons_zero, List.set_cons_succ]
              refine wpAnyH_take (i := 10) (v := ?_) rfl (by kernel_rfl) (by kernel_rfl) (by kernel_rfl) (fun _ _ _ h => h) (Or.inl ⟨by rfl, ?_⟩) (by assumption) ?_
              rotate_left
              · (intro w hSw; (try dsimp only at hSw); go_simp; try (with_reducible rfl))
              try simp only [Act.put, List.getElem_toArray, List.getElem_cons_succ, List.getElem_cons_zero, List.setIfInBounds_toArray, List.set_cons_zero, List.set_cons_succ]
              refine wpAnyH_ready (rs := [7]) (by kernel_rfl) (by simp) ?_
              refine AllReadyH.cons rfl (fun K hK => ?_) ?_
              · skip
                go_simp
                first
                  | (go_at_call 11
                     with_reducible refine (HLN.out _ q S2.out.idy).mono ?_
                     rintro e v3 ⟨rfl, rfl⟩)
                  | (go_at_call 21
                     with_reducible refine (HEN.out _ q S2.out.idy).mono ?_
                     rintro e v3 ⟨A3, n3, c3, rfl, h3c, h3b⟩
                     have S3 := Lib.hid (S2.out.step h3b)
                     have K3 := S3.out.k
                     have C3 := HC.out _ S3.out.bel
                     have D3 := h3c v3 (Below.refl _ _)
                     clear h3c h3b)
                  | (go_at_call_of 16 (Value.pointer (some ⟨q, 0, none⟩))
                     with_reducible refine (HI1.out q _ S3.out.idy).mono ?_
                     rintro e v4 ⟨A4, c4, rfl, r4, b4⟩
                     have S4 := Lib.hid (S3.out.step b4)
                     have R4 := Lib.hid r4
                     have K4 := S4.out.k
                     have C4 := HC.out _ S4.out.bel
                     clear r4 b4)
                  | (go_at_call_of 16 (Value.pointer (some ⟨p, 0, none⟩))
                     with_reducible refine (HI1.out p _ S4.out.idx).mono ?_
                     rintro e v5 ⟨A5, c5, rfl, r5, b5⟩
                     have S5 := Lib.hid (S4.out.step b5)
                     have R5 := Lib.hid r5
                     have K5 := S5.out.k
                     have C5 := HC.out _ S5.out.bel
                     have Q4 := Lib.hid (R4.out.below b5)
                     clear r5 b5)
                  | (go_at_call_of 13 (Value.slice A4 m1 c4)
                     with_reducible refine (same_refl L1 m1 HM1.out (by omega) A4 A5 c4 c5 _ Q4.out R5.out).mono ?_
                     rintro e v6 ⟨rfl, b6⟩
                     have S6 := Lib.hid (S5.out.step b6)
                     have K6 := S6.out.k
                     have C6 := HC.out _ S6.out.bel
                     clear b6)
                  | (go_at_call_of 14 (Value.pointer (some ⟨q, 0, none⟩))
                     with_reducible refine (HI2.out q _ S6.out.idy).mono ?_
                     rintro e v7 ⟨A7, c7, rfl, r7, b7⟩
                     have S7 := Lib.hid (S6.out.step b7)
                     have R7 := Lib.hid r7
                     have K7 := S7.out.k
                     have C7 := HC.out _ S7.out.bel
                     clear r7 b7)
                  | (go_at_call_of 14 (Value.pointer (some ⟨p, 0, none⟩))
                     with_reducible refine (HI2.out p _ S7.out.idx).mono ?_
                     rintro e v8 ⟨A8, c8, rfl, r8, b8⟩
                     have S8 := Lib.hid (S7.out.step b8)
                     have R8 := Lib.hid r8
                     have K8 := S8.out.k
                     have C8 := HC.out _ S8.out.bel
                     have Q7 := Lib.hid (R7.out.below b8)
                     clear r8 b8)
                  | (go_at_call_of 13 (Value.slice A7 m2 c7)
                     with_reducible refine (same_refl L2 m2 HM2.out (by omega) A7 A8 c7 c8 _ Q7.out R8.out).mono ?_
                     rintro e v9 ⟨rfl, b9⟩
                     have S9 := Lib.hid (S8.out.step b9)
                     have K9 := S9.out.k
                     have C9 := HC.out _ S9.out.bel
                     clear b9)
                  | (go_at_call 12
                     with_reducible refine (awake_any _).mono ?_
                     rintro e vA ⟨rfl, bA⟩
                     have SA := Lib.hid (S9.out.step bA)
                     have KA := SA.out.k
                     have CA := HC.out _ SA.out.bel
                     clear bA)
                try go_wp2_with fail
                refine hK.out _ _ ?_ (fun hHeld => ?_)
                · try dsimp only
                  first | (with_reducible exact ⟨KA, CA⟩) | (with_reducible exact ⟨K9, C9⟩) | (with_reducible exact ⟨K8, C8⟩) | (with_reducible exact ⟨K7, C7⟩) | (with_reducible exact ⟨K6, C6⟩) | (with_reducible exact ⟨K5, C5⟩) | (with_reducible exact ⟨K4, C4⟩) | (with_reducible exact ⟨K3, C3⟩) | (with_reducible exact ⟨K2, C2⟩)
                clear hK K
                try simp only [Act.put, List.getElem_toArray, List.getElem_cons_succ, List.getElem_cons_zero, List.setIfInBounds_toArray, List.set_cons_zero, List.set_cons_succ]
                refine wpAnyH_ready (rs := [8]) (by kernel_rfl) (by simp) ?_
                refine AllReadyH.cons rfl (fun K hK => ?_) ?_
                · skip
                  go_simp
                  refine hK.out _ _ ?_ (fun hHeld => ?_)
                  · try dsimp only
                    first | (with_reducible exact ⟨KA, CA⟩) | (with_reducible exact ⟨K9, C9⟩) | (with_reducible exact ⟨K8, C8⟩) | (with_reducible exact ⟨K7, C7⟩) | (with_reducible exact ⟨K6, C6⟩) | (with_reducible exact ⟨K5, C5⟩) | (with_reducible exact ⟨K4, C4⟩) | (with_reducible exact ⟨K3, C3⟩) | (with_reducible exact ⟨K2, C2⟩)
                  clear hK K
                  try simp only [Act.put, List.getElem_toArray, List.getElem_cons_succ, List.getElem_cons_zero, List.setIfInBounds_toArray, List.set_cons_zero, List.set_cons_succ]
                  refine wpAnyH_take (i := 11) (v := ?_) rfl (by kernel_rfl) (by kernel_rfl) (by kernel_rfl) (fun _ _ _ h => h) (Or.inl ⟨by rfl, ?_⟩) (by assumption) ?_
                  rotate_left
                  · (intro w hSw; (try dsimp only at hSw); go_simp; try (with_reducible rfl))
                  try simp only [Act.put, List.getElem_toArray, List.getElem_cons_succ, List.getElem_cons_zero, List.setIfInBounds_toArray, List.set_cons_zero, List.set_cons_succ]
                  refine wpAnyH_take (i := 12) (v := ?_) rfl (by kernel_rfl) (by kernel_rfl) (by kernel_rfl) (fun _ _ _ h => h) (Or.inl ⟨by rfl, ?_⟩) (by assumption) ?_
                  rotate_left
                  · (intro w hSw; (try dsimp only at hSw); go_simp; try (with_reducible rfl))
                  try simp only [Act.put, List.getElem_toArray, List.getElem_cons_succ, List.getElem_cons_zero, List.setIfInBounds_toArray, List.set_cons_zero, List.set_cons_succ]
                  refine wpAnyH_take (i := 13) (v := ?_) rfl (by kernel_rfl) (by kernel_rfl) (by kernel_rfl) (fun _ _ _ h => h) (Or.inl ⟨by rfl, ?_⟩) (by assumption) ?_
                  rotate_left
                  · (intro w hSw; (try dsimp only at hSw); go_simp; try (with_reducible rfl))
                  try simp only [Act.put, List.getElem_toArray, List.getElem_cons_succ, List.getElem_cons_zero, List.setIfInBounds_toArray, List.set_cons_zero, List.set_cons_succ]
                  refine wpAnyH_take (i := 14) (v := ?_) rfl (by kernel_rfl) (by kernel_rfl) (by kernel_rfl) (fun _ _ _ h => h) (Or.inl ⟨by rfl, ?_⟩) (by assumption) ?_
                  rotate_left
                  · (intro w hSw; (try dsimp only at hSw); go_simp; try (with_reducible rfl))
                  try simp only [Act.put, List.getElem_toArray, List.getElem_cons_succ, List.getElem_cons_zero, List.setIfInBounds_toArray, List.set_cons_zero, List.set_cons_succ]
                  refine wpAnyH_take (i := 15) (v := ?_) rfl (by kernel_rfl) (by kernel_rfl) (by kernel_rfl) (fun _ _ _ h => h) (Or.inl ⟨by rfl, ?_⟩) (by assumption) ?_
                  rotate_left
                  · (intro w hSw; (try dsimp only at hSw); go_simp; try (with_reducible rfl))
                  try simp only [Act.put, List.getElem_toArray, List.getElem_cons_succ, List.getElem_cons_zero, List.setIfInBounds_toArray, List.set_cons_zero, List.set_cons_succ]
                  refine wpAnyH_take (i := 17) (v := ?_) rfl (by kernel_rfl) (by kernel_rfl) (by kernel_rfl) (fun _ _ _ h => h) (Or.inl ⟨by rfl, ?_⟩) (by assumption) ?_
                  rotate_left
                  · (intro w hSw; (try dsimp only at hSw); go_simp; try (with_reducible rfl))
                  try simp only [Act.put, List.getElem_toArray, List.getElem_cons_succ, List.getElem_cons_zero, List.setIfInBounds_toArray, List.set_cons_zero, List.set_cons_succ]
                  refine wpAnyH_take (i := 18) (v := ?_) rfl (by kernel_rfl) (by kernel_rfl) (by kernel_rfl) (fun _ _ _ h => h) (Or.inl ⟨by rfl, ?_⟩) (by assumption) ?_
                  rotate_left
                  · (intro w hSw; (try dsimp only at hSw); go_simp; try (with_reducible rfl))
                  try simp only [Act.put, List.getElem_toArray, List.getElem_cons_succ, List.getElem_cons_zero, List.setIfInBounds_toArray, List.set_cons_zero, List.set_cons_succ]
                  refine wpAnyH_ready (rs := [16]) (by kernel_rfl) (by simp) ?_
                  refine AllReadyH.cons rfl (fun K hK => ?_) ?_
                  · skip
                    go_simp
                    first
                      | (go_at_call 11
                         with_reducible refine (HLN.out _ q S2.out.idy).mono ?_
                         rintro e v3 ⟨rfl, rfl⟩)
                      | (go_at_call 21
                         with_reducible refine (HEN.out _ q S2.out.idy).mono ?_
                         rintro e v3 ⟨A3, n3, c3, rfl, h3c, h3b⟩
                         have S3 := Lib.hid (S2.out.step h3b)
                         have K3 := S3.out.k
                         have C3 := HC.out _ S3.out.bel
                         have D3 := h3c v3 (Below.refl _ _)
                         clear h3c h3b)
                      | (go_at_call_of 16 (Value.pointer (some ⟨q, 0, none⟩))
                         with_reducible refine (HI1.out q _ S3.out.idy).mono ?_
                         rintro e v4 ⟨A4, c4, rfl, r4, b4⟩
                         have S4 := Lib.hid (S3.out.step b4)
                         have R4 := Lib.hid r4
                         have K4 := S4.out.k
                         have C4 := HC.out _ S4.out.bel
                         clear r4 b4)
                      | (go_at_call_of 16 (Value.pointer (some ⟨p, 0, none⟩))
                         with_reducible refine (HI1.out p _ S4.out.idx).mono ?_
                         rintro e v5 ⟨A5, c5, rfl, r5, b5⟩
                         have S5 := Lib.hid (S4.out.step b5)
                         have R5 := Lib.hid r5
                         have K5 := S5.out.k
                         have C5 := HC.out _ S5.out.bel
                         have Q4 := Lib.hid (R4.out.below b5)
                         clear r5 b5)
                      | (go_at_call_of 13 (Value.slice A4 m1 c4)
                         with_reducible refine (same_refl L1 m1 HM1.out (by omega) A4 A5 c4 c5 _ Q4.out R5.out).mono ?_
                         rintro e v6 ⟨rfl, b6⟩
                         have S6 := Lib.hid (S5.out.step b6)
                         have K6 := S6.out.k
                         have C6 := HC.out _ S6.out.bel
                         clear b6)
                      | (go_at_call_of 14 (Value.pointer (some ⟨q, 0, none⟩))
                         with_reducible refine (HI2.out q _ S6.out.idy).mono ?_
                         rintro e v7 ⟨A7, c7, rfl, r7, b7⟩
                         have S7 := Lib.hid (S6.out.step b7)
                         have R7 := Lib.hid r7
                         have K7 := S7.out.k
                         have C7 := HC.out _ S7.out.bel
                         clear r7 b7)
                      | (go_at_call_of 14 (Value.pointer (some ⟨p, 0, none⟩))
                         with_reducible refine (HI2.out p _ S7.out.idx).mono ?_
                         rintro e v8 ⟨A8, c8, rfl, r8, b8⟩
                         have S8 := Lib.hid (S7.out.step b8)
                         have R8 := Lib.hid r8
                         have K8 := S8.out.k
                         have C8 := HC.out _ S8.out.bel
                         have Q7 := Lib.hid (R7.out.below b8)
                         clear r8 b8)
                      | (go_at_call_of 13 (Value.slice A7 m2 c7)
                         with_reducible refine (same_refl L2 m2 HM2.out (by omega) A7 A8 c7 c8 _ Q7.out R8.out).mono ?_
                         rintro e v9 ⟨rfl, b9⟩
                         have S9 := Lib.hid (S8.out.step b9)
                         have K9 := S9.out.k
                         have C9 := HC.out _ S9.out.bel
                         clear b9)
                      | (go_at_call 12
                         with_reducible refine (awake_any _).mono ?_
                         rintro e vA ⟨rfl, bA⟩
                         have SA := Lib.hid (S9.out.step bA)
                         have KA := SA.out.k
                         have CA := HC.out _ SA.out.bel
                         clear bA)
                    try go_wp2_with fail
                    refine hK.out _ _ ?_ (fun hHeld => ?_)
                    · try dsimp only
                      first | (with_reducible exact ⟨KA, CA⟩) | (with_reducible exact ⟨K9, C9⟩) | (with_reducible exact ⟨K8, C8⟩) | (with_reducible exact ⟨K7, C7⟩) | (with_reducible exact ⟨K6, C6⟩) | (with_reducible exact ⟨K5, C5⟩) | (with_reducible exact ⟨K4, C4⟩) | (with_reducible exact ⟨K3, C3⟩) | (with_reducible exact ⟨K2, C2⟩)
                    clear hK K
                    try simp only [Act.put, List.getElem_toArray, List.getElem_cons_succ, List.getElem_cons_zero, List.setIfInBounds_toArray, List.set_cons_zero, List.set_cons_succ]
                    refine wpAnyH_ready (rs := [19]) (by kernel_rfl) (by simp) ?_
                    refine AllReadyH.cons rfl (fun K hK => ?_) ?_
                    · skip
                      go_simp
                      first
                        | (go_at_call 11
                           with_reducible refine (HLN.out _ q S2.out.idy).mono ?_
                           rintro e v3 ⟨rfl, rfl⟩)
                        | (go_at_call 21
                           with_reducible refine (HEN.out _ q S2.out.idy).mono ?_
                           rintro e v3 ⟨A3, n3, c3, rfl, h3c, h3b⟩
                           have S3 := Lib.hid (S2.out.step h3b)
                           have K3 := S3.out.k
                           have C3 := HC.out _ S3.out.bel
                           have D3 := h3c v3 (Below.refl _ _)
                           clear h3c h3b)
                        | (go_at_call_of 16 (Value.pointer (some ⟨q, 0, none⟩))
                           with_reducible refine (HI1.out q _ S3.out.idy).mono ?_
                           rintro e v4 ⟨A4, c4, rfl, r4, b4⟩
                           have S4 := Lib.hid (S3.out.step b4)
                           have R4 := Lib.hid r4
                           have K4 := S4.out.k
                           have C4 := HC.out _ S4.out.bel
                           clear r4 b4)
                        | (go_at_call_of 16 (Value.pointer (some ⟨p, 0, none⟩))
                           with_reducible refine (HI1.out p _ S4.out.idx).mono ?_
                           rintro e v5 ⟨A5, c5, rfl, r5, b5⟩
                           have S5 := Lib.hid (S4.out.step b5)
                           have R5 := Lib.hid r5
                           have K5 := S5.out.k
                           have C5 := HC.out _ S5.out.bel
                           have Q4 := Lib.hid (R4.out.below b5)
                           clear r5 b5)
                        | (go_at_call_of 13 (Value.slice A4 m1 c4)
                           with_reducible refine (same_refl L1 m1 HM1.out (by omega) A4 A5 c4 c5 _ Q4.out R5.out).mono ?_
                           rintro e v6 ⟨rfl, b6⟩
                           have S6 := Lib.hid (S5.out.step b6)
                           have K6 := S6.out.k
                           have C6 := HC.out _ S6.out.bel
                           clear b6)
                        | (go_at_call_of 14 (Value.pointer (some ⟨q, 0, none⟩))
                           with_reducible refine (HI2.out q _ S6.out.idy).mono ?_
                           rintro e v7 ⟨A7, c7, rfl, r7, b7⟩
                           have S7 := Lib.hid (S6.out.step b7)
                           have R7 := Lib.hid r7
                           have K7 := S7.out.k
                           have C7 := HC.out _ S7.out.bel
                           clear r7 b7)
                        | (go_at_call_of 14 (Value.pointer (some ⟨p, 0, none⟩))
                           with_reducible refine (HI2.out p _ S7.out.idx).mono ?_
                           rintro e v8 ⟨A8, c8, rfl, r8, b8⟩
                           have S8 := Lib.hid (S7.out.step b8)
                           have R8 := Lib.hid r8
                           have K8 := S8.out.k
                           have C8 := HC.out _ S8.out.bel
                           have Q7 := Lib.hid (R7.out.below b8)
                           clear r8 b8)
                        | (go_at_call_of 13 (Value.slice A7 m2 c7)
                           with_reducible refine (same_refl L2 m2 HM2.out (by omega) A7 A8 c7 c8 _ Q7.out R8.out).mono ?_
                           rintro e v9 ⟨rfl, b9⟩
                           have S9 := Lib.hid (S8.out.step b9)
                           have K9 := S9.out.k
                           have C9 := HC.out _ S9.out.bel
                           clear b9)
                        | (go_at_call 12
                           with_reducible refine (awake_any _).mono ?_
                           rintro e vA ⟨rfl, bA⟩
                           have SA := Lib.hid (S9.out.step bA)
                           have KA := SA.out.k
                           have CA := HC.out _ SA.out.bel
                           clear bA)
                      try go_wp2_with fail
                      refine hK.out _ _ ?_ (fun hHeld => ?_)
                      · try dsimp only
                        first | (with_reducible exact ⟨KA, CA⟩) | (with_reducible exact ⟨K9, C9⟩) | (with_reducible exact ⟨K8, C8⟩) | (with_reducible exact ⟨K7, C7⟩) | (with_reducible exact ⟨K6, C6⟩) | (with_reducible exact ⟨K5, C5⟩) | (with_reducible exact ⟨K4, C4⟩) | (with_reducible exact ⟨K3, C3⟩) | (with_reducible exact ⟨K2, C2⟩)
                      clear hK K
                      try simp only [Act.put, List.getElem_toArray, List.getElem_cons_succ, List.getElem_cons_zero, List.setIfInBounds_toArray, List.set_cons_zero, List.set_cons_succ]
                      refine wpAnyH_ready (rs := [20]) (by kernel_rfl) (by simp) ?_
                      refine AllReadyH.cons rfl (fun K hK => ?_) ?_
                      · skip
                        go_simp
                        first
                          | (go_at_call 11
                             with_reducible refine (HLN.out _ q S2.out.idy).mono ?_
                             rintro e v3 ⟨rfl, rfl⟩)
                          | (go_at_call 21
                             with_reducible refine (HEN.out _ q S2.out.idy).mono ?_
                             rintro e v3 ⟨A3, n3, c3, rfl, h3c, h3b⟩
                             have S3 := Lib.hid (S2.out.step h3b)
                             have K3 := S3.out.k
                             have C3 := HC.out _ S3.out.bel
                             have D3 := h3c v3 (Below.refl _ _)
                             clear h3c h3b)
                          | (go_at_call_of 16 (Value.pointer (some ⟨q, 0, none⟩))
                             with_reducible refine (HI1.out q _ S3.out.idy).mono ?_
                             rintro e v4 ⟨A4, c4, rfl, r4, b4⟩
                             have S4 := Lib.hid (S3.out.step b4)
                             have R4 := Lib.hid r4
                             have K4 := S4.out.k
                             have C4 := HC.out _ S4.out.bel
                             clear r4 b4)
                          | (go_at_call_of 16 (Value.pointer (some ⟨p, 0, none⟩))
                             with_reducible refine (HI1.out p _ S4.out.idx).mono ?_
                             rintro e v5 ⟨A5, c5, rfl, r5, b5⟩
                             have S5 := Lib.hid (S4.out.step b5)
                             have R5 := Lib.hid r5
                             have K5 := S5.out.k
                             have C5 := HC.out _ S5.out.bel
                             have Q4 := Lib.hid (R4.out.below b5)
                             clear r5 b5)
                          | (go_at_call_of 13 (Value.slice A4 m1 c4)
                             with_reducible refine (same_refl L1 m1 HM1.out (by omega) A4 A5 c4 c5 _ Q4.out R5.out).mono ?_
                             rintro e v6 ⟨rfl, b6⟩
                             have S6 := Lib.hid (S5.out.step b6)
                             have K6 := S6.out.k
                             have C6 := HC.out _ S6.out.bel
                             clear b6)
                          | (go_at_call_of 14 (Value.pointer (some ⟨q, 0, none⟩))
                             with_reducible refine (HI2.out q _ S6.out.idy).mono ?_
                             rintro e v7 ⟨A7, c7, rfl, r7, b7⟩
                             have S7 := Lib.hid (S6.out.step b7)
                             have R7 := Lib.hid r7
                             have K7 := S7.out.k
                             have C7 := HC.out _ S7.out.bel
                             clear r7 b7)
                          | (go_at_call_of 14 (Value.pointer (some ⟨p, 0, none⟩))
                             with_reducible refine (HI2.out p _ S7.out.idx).mono ?_
                             rintro e v8 ⟨A8, c8, rfl, r8, b8⟩
                             have S8 := Lib.hid (S7.out.step b8)
                             have R8 := Lib.hid r8
                             have K8 := S8.out.k
                             have C8 := HC.out _ S8.out.bel
                             have Q7 := Lib.hid (R7.out.below b8)
                             clear r8 b8)
                          | (go_at_call_of 13 (Value.slice A7 m2 c7)
                             with_reducible refine (same_refl L2 m2 HM2.out (by omega) A7 A8 c7 c8 _ Q7.out R8.out).mono ?_
                             rintro e v9 ⟨rfl, b9⟩
                             have S9 := Lib.hid (S8.out.step b9)
                             have K9 := S9.out.k
                             have C9 := HC.out _ S9.out.bel
                             clear b9)
                          | (go_at_call 12
                             with_reducible refine (awake_any _).mono ?_
                             rintro e vA ⟨rfl, bA⟩
                             have SA := Lib.hid (S9.out.step bA)
                             have KA := SA.out.k
                             have CA := HC.out _ SA.out.bel
                             clear bA)
                        try go_wp2_with fail
                        refine hK.out _ _ ?_ (fun hHeld => ?_)
                        · try dsimp only
                          first | (with_reducible exact ⟨KA, CA⟩) | (with_reducible exact ⟨K9, C9⟩) | (with_reducible exact ⟨K8, C8⟩) | (with_reducible exact ⟨K7, C7⟩) | (with_reducible exact ⟨K6, C6⟩) | (with_reducible exact ⟨K5, C5⟩) | (with_reducible exact ⟨K4, C4⟩) | (with_reducible exact ⟨K3, C3⟩) | (with_reducible exact ⟨K2, C2⟩)
                        clear hK K
                        try simp only [Act.put, List.getElem_toArray, List.getElem_cons_succ, List.getElem_cons_zero, List.setIfInBounds_toArray, List.set_cons_zero, List.set_cons_succ]
                        refine wpAnyH_take (i := 21) (v := ?_) rfl (by kernel_rfl) (by kernel_rfl) (by kernel_rfl) (fun _ _ _ h => h) (Or.inl ⟨by rfl, ?_⟩) (by assumption) ?_
                        rotate_left
                        · (intro w hSw; (try dsimp only at hSw); go_simp; try (with_reducible rfl))
                        try simp only [Act.put, List.getElem_toArray, List.getElem_cons_succ, List.getElem_cons_zero, List.setIfInBounds_toArray, List.set_cons_zero, List.set_cons_succ]
                        refine wpAnyH_take (i := 22) (v := ?_) rfl (by kernel_rfl) (by kernel_rfl) (by kernel_rfl) (fun _ _ _ h => h) (Or.inl ⟨by rfl, ?_⟩) (by assumption) ?_
                        rotate_left
                        · (intro w hSw; (try dsimp only at hSw); go_simp; try (with_reducible rfl))
                        try simp only [Act.put, List.getElem_toArray, List.getElem_cons_succ, List.getElem_cons_zero, List.setIfInBounds_toArray, List.set_cons_zero, List.set_cons_succ]
                        refine wpAnyH_take (i := 23) (v := ?_) rfl (by kernel_rfl) (by kernel_rfl) (by kernel_rfl) (fun _ _ _ h => h) (Or.inl ⟨by rfl, ?_⟩) (by assumption) ?_
                        rotate_left
                        · (intro w hSw; (try dsimp only at hSw); go_simp; try (with_reducible rfl))
                        try simp only [Act.put, List.getElem_toArray, List.getElem_cons_succ, List.getElem_cons_zero, List.setIfInBounds_toArray, List.set_cons_zero, List.set_cons_succ]
                        refine wpAnyH_take (i := 24) (v := ?_) rfl (by kernel_rfl) (by kernel_rfl) (by kernel_rfl) (fun _ _ _ h => h) (Or.inl ⟨by rfl, ?_⟩) (by assumption) ?_
                        rotate_left
                        · (intro w hSw; (try dsimp only at hSw); go_simp; try (with_reducible rfl))
                        try simp only [Act.put, List.getElem_toArray, List.getElem_cons_succ, List.getElem_cons_zero, List.setIfInBounds_toArray, List.set_cons_zero, List.set_cons_succ]
                        refine wpAnyH_take (i := 25) (v := ?_) rfl (by kernel_rfl) (by kernel_rfl) (by kernel_rfl) (fun _ _ _ h => h) (Or.inl ⟨by rfl, ?_⟩) (by assumption) ?_
                        rotate_left
                        · (intro w hSw; (try dsimp only at hSw); go_simp; try (with_reducible rfl))
                        try simp only [Act.put, List.getElem_toArray, List.getElem_cons_succ, List.getElem_cons_zero, List.setIfInBounds_toArray, List.set_cons_zero, List.set_cons_succ]
                        refine wpAnyH_take (i := 27) (v := ?_) rfl (by kernel_rfl) (by kernel_rfl) (by kernel_rfl) (fun _ _ _ h => h) (Or.inl ⟨by rfl, ?_⟩) (by assumption) ?_
                        rotate_left
                        · (intro w hSw; (try dsimp only at hSw); go_simp; try (with_reducible rfl))
                        try simp only [Act.put, List.getElem_toArray, List.getElem_cons_succ, List.getElem_cons_zero, List.setIfInBounds_toArray, List.set_cons_zero, List.set_cons_succ]
                        refine wpAnyH_take (i := 28) (v := ?_) rfl (by kernel_rfl) (by kernel_rfl) (by kernel_rfl) (fun _ _ _ h => h) (Or.inl ⟨by rfl, ?_⟩) (by assumption) ?_
                        rotate_left
                        · (intro w hSw; (try dsimp only at hSw); go_simp; try (with_reducible rfl))
                        try simp only [Act.put, List.getElem_toArray, List.getElem_cons_succ, List.getElem_cons_zero, List.setIfInBounds_toArray, List.set_cons_zero, List.set_cons_succ]
                        refine wpAnyH_take (i := 29) (v := ?_) rfl (by kernel_rfl) (by kernel_rfl) (by kernel_rfl) (fun _ _ _ h => h) (Or.inl ⟨by rfl, ?_⟩) (by assumption) ?_
                        rotate_left
                        · (intro w hSw; (try dsimp only at hSw); go_simp; try (with_reducible rfl))
                        try simp only [Act.put, List.getElem_toArray, List.getElem_cons_succ, List.getElem_cons_zero, List.setIfInBounds_toArray, List.set_cons_zero, List.set_cons_succ]
                        refine wpAnyH_ready (rs := [26]) (by kernel_rfl) (by simp) ?_
                        refine AllReadyH.cons rfl (fun K hK => ?_) ?_
                        · skip
                          go_simp
                          first
                            | (go_at_call 11
                               with_reducible refine (HLN.out _ q S2.out.idy).mono ?_
                               rintro e v3 ⟨rfl, rfl⟩)
                            | (go_at_call 21
                               with_reducible refine (HEN.out _ q S2.out.idy).mono ?_
                               rintro e v3 ⟨A3, n3, c3, rfl, h3c, h3b⟩
                               have S3 := Lib.hid (S2.out.step h3b)
                               have K3 := S3.out.k
                               have C3 := HC.out _ S3.out.bel
                               have D3 := h3c v3 (Below.refl _ _)
                               clear h3c h3b)
                            | (go_at_call_of 16 (Value.pointer (some ⟨q, 0, none⟩))
                               with_reducible refine (HI1.out q _ S3.out.idy).mono ?_
                               rintro e v4 ⟨A4, c4, rfl, r4, b4⟩
                               have S4 := Lib.hid (S3.out.step b4)
                               have R4 := Lib.hid r4
                               have K4 := S4.out.k
                               have C4 := HC.out _ S4.out.bel
                               clear r4 b4)
                            | (go_at_call_of 16 (Value.pointer (some ⟨p, 0, none⟩))
                               with_reducible refine (HI1.out p _ S4.out.idx).mono ?_
                               rintro e v5 ⟨A5, c5, rfl, r5, b5⟩
                               have S5 := Lib.hid (S4.out.step b5)
                               have R5 := Lib.hid r5
                               have K5 := S5.out.k
                               have C5 := HC.out _ S5.out.bel
                               have Q4 := Lib.hid (R4.out.below b5)
                               clear r5 b5)
                            | (go_at_call_of 13 (Value.slice A4 m1 c4)
                               with_reducible refine (same_refl L1 m1 HM1.out (by omega) A4 A5 c4 c5 _ Q4.out R5.out).mono ?_
                               rintro e v6 ⟨rfl, b6⟩
                               have S6 := Lib.hid (S5.out.step b6)
                               have K6 := S6.out.k
                               have C6 := HC.out _ S6.out.bel
                               clear b6)
                            | (go_at_call_of 14 (Value.pointer (some ⟨q, 0, none⟩))
                               with_reducible refine (HI2.out q _ S6.out.idy).mono ?_
                               rintro e v7 ⟨A7, c7, rfl, r7, b7⟩
                               have S7 := Lib.hid (S6.out.step b7)
                               have R7 := Lib.hid r7
                               have K7 := S7.out.k
                               have C7 := HC.out _ S7.out.bel
                               clear r7 b7)
                            | (go_at_call_of 14 (Value.pointer (some ⟨p, 0, none⟩))
                               with_reducible refine (HI2.out p _ S7.out.idx).mono ?_
                               rintro e v8 ⟨A8, c8, rfl, r8, b8⟩
                               have S8 := Lib.hid (S7.out.step b8)
                               have R8 := Lib.hid r8
                               have K8 := S8.out.k
                               have C8 := HC.out _ S8.out.bel
                               have Q7 := Lib.hid (R7.out.below b8)
                               clear r8 b8)
                            | (go_at_call_of 13 (Value.slice A7 m2 c7)
                               with_reducible refine (same_refl L2 m2 HM2.out (by omega) A7 A8 c7 c8 _ Q7.out R8.out).mono ?_
                               rintro e v9 ⟨rfl, b9⟩
                               have S9 := Lib.hid (S8.out.step b9)
                               have K9 := S9.out.k
                               have C9 := HC.out _ S9.out.bel
                               clear b9)
                            | (go_at_call 12
                               with_reducible refine (awake_any _).mono ?_
                               rintro e vA ⟨rfl, bA⟩
                               have SA := Lib.hid (S9.out.step bA)
                               have KA := SA.out.k
                               have CA := HC.out _ SA.out.bel
                               clear bA)
                          try go_wp2_with fail
                          refine hK.out _ _ ?_ (fun hHeld => ?_)
                          · try dsimp only
                            first | (with_reducible exact ⟨KA, CA⟩) | (with_reducible exact ⟨K9, C9⟩) | (with_reducible exact ⟨K8, C8⟩) | (with_reducible exact ⟨K7, C7⟩) | (with_reducible exact ⟨K6, C6⟩) | (with_reducible exact ⟨K5, C5⟩) | (with_reducible exact ⟨K4, C4⟩) | (with_reducible exact ⟨K3, C3⟩) | (with_reducible exact ⟨K2, C2⟩)
                          clear hK K
                          try simp only [Act.put, List.getElem_toArray, List.getElem_cons_succ, List.getElem_cons_zero, List.setIfInBounds_toArray, List.set_cons_zero, List.set_cons_succ]
                          refine wpAnyH_ready (rs := [30]) (by kernel_rfl) (by simp) ?_
                          refine AllReadyH.cons rfl (fun K hK => ?_) ?_
                          · skip
                            go_simp
                            first
                              | (go_at_call 11
                                 with_reducible refine (HLN.out _ q S2.out.idy).mono ?_
                                 rintro e v3 ⟨rfl, rfl⟩)
                              | (go_at_call 21
                                 with_reducible refine (HEN.out _ q S2.out.idy).mono ?_
                                 rintro e v3 ⟨A3, n3, c3, rfl, h3c, h3b⟩
                                 have S3 := Lib.hid (S2.out.step h3b)
                                 have K3 := S3.out.k
                                 have C3 := HC.out _ S3.out.bel
                                 have D3 := h3c v3 (Below.refl _ _)
                                 clear h3c h3b)
                              | (go_at_call_of 16 (Value.pointer (some ⟨q, 0, none⟩))
                                 with_reducible refine (HI1.out q _ S3.out.idy).mono ?_
                                 rintro e v4 ⟨A4, c4, rfl, r4, b4⟩
                                 have S4 := Lib.hid (S3.out.step b4)
                                 have R4 := Lib.hid r4
                                 have K4 := S4.out.k
                                 have C4 := HC.out _ S4.out.bel
                                 clear r4 b4)
                              | (go_at_call_of 16 (Value.pointer (some ⟨p, 0, none⟩))
                                 with_reducible refine (HI1.out p _ S4.out.idx).mono ?_
                                 rintro e v5 ⟨A5, c5, rfl, r5, b5⟩
                                 have S5 := Lib.hid (S4.out.step b5)
                                 have R5 := Lib.hid r5
                                 have K5 := S5.out.k
                                 have C5 := HC.out _ S5.out.bel
                                 have Q4 := Lib.hid (R4.out.below b5)
                                 clear r5 b5)
                              | (go_at_call_of 13 (Value.slice A4 m1 c4)
                                 with_reducible refine (same_refl L1 m1 HM1.out (by omega) A4 A5 c4 c5 _ Q4.out R5.out).mono ?_
                                 rintro e v6 ⟨rfl, b6⟩
                                 have S6 := Lib.hid (S5.out.step b6)
                                 have K6 := S6.out.k
                                 have C6 := HC.out _ S6.out.bel
                                 clear b6)
                              | (go_at_call_of 14 (Value.pointer (some ⟨q, 0, none⟩))
                                 with_reducible refine (HI2.out q _ S6.out.idy).mono ?_
                                 rintro e v7 ⟨A7, c7, rfl, r7, b7⟩
                                 have S7 := Lib.hid (S6.out.step b7)
                                 have R7 := Lib.hid r7
                                 have K7 := S7.out.k
                                 have C7 := HC.out _ S7.out.bel
                                 clear r7 b7)
                              | (go_at_call_of 14 (Value.pointer (some ⟨p, 0, none⟩))
                                 with_reducible refine (HI2.out p _ S7.out.idx).mono ?_
                                 rintro e v8 ⟨A8, c8, rfl, r8, b8⟩
                                 have S8 := Lib.hid (S7.out.step b8)
                                 have R8 := Lib.hid r8
                                 have K8 := S8.out.k
                                 have C8 := HC.out _ S8.out.bel
                                 have Q7 := Lib.hid (R7.out.below b8)
                                 clear r8 b8)
                              | (go_at_call_of 13 (Value.slice A7 m2 c7)
                                 with_reducible refine (same_refl L2 m2 HM2.out (by omega) A7 A8 c7 c8 _ Q7.out R8.out).mono ?_
                                 rintro e v9 ⟨rfl, b9⟩
                                 have S9 := Lib.hid (S8.out.step b9)
                                 have K9 := S9.out.k
                                 have C9 := HC.out _ S9.out.bel
                                 clear b9)
                              | (go_at_call 12
                                 with_reducible refine (awake_any _).mono ?_
                                 rintro e vA ⟨rfl, bA⟩
                                 have SA := Lib.hid (S9.out.step bA)
                                 have KA := SA.out.k
                                 have CA := HC.out _ SA.out.bel
                                 clear bA)
                            try go_wp2_with fail
                            refine hK.out _ _ ?_ (fun hHeld => ?_)
                            · try dsimp only
                              first | (with_reducible exact ⟨KA, CA⟩) | (with_reducible exact ⟨K9, C9⟩) | (with_reducible exact ⟨K8, C8⟩) | (with_reducible exact ⟨K7, C7⟩) | (with_reducible exact ⟨K6, C6⟩) | (with_reducible exact ⟨K5, C5⟩) | (with_reducible exact ⟨K4, C4⟩) | (with_reducible exact ⟨K3, C3⟩) | (with_reducible exact ⟨K2, C2⟩)
                            clear hK K
                            try simp only [Act.put, List.getElem_toArray, List.getElem_cons_succ, List.getElem_cons_zero, List.setIfInBounds_toArray, List.set_cons_zero, List.set_cons_succ]
                            refine wpAnyH_ready (rs := [31]) (by kernel_rfl) (by simp) ?_
                            refine AllReadyH.cons rfl (fun K hK => ?_) ?_
                            · skip
                              go_simp
                              first
                                | (go_at_call 11
                                   with_reducible refine (HLN.out _ q S2.out.idy).mono ?_
                                   rintro e v3 ⟨rfl, rfl⟩)
                                | (go_at_call 21
                                   with_reducible refine (HEN.out _ q S2.out.idy).mono ?_
                                   rintro e v3 ⟨A3, n3, c3, rfl, h3c, h3b⟩
                                   have S3 := Lib.hid (S2.out.step h3b)
                                   have K3 := S3.out.k
                                   have C3 := HC.out _ S3.out.bel
                                   have D3 := h3c v3 (Below.refl _ _)
                                   clear h3c h3b)
                                | (go_at_call_of 16 (Value.pointer (some ⟨q, 0, none⟩))
                                   with_reducible refine (HI1.out q _ S3.out.idy).mono ?_
                                   rintro e v4 ⟨A4, c4, rfl, r4, b4⟩
                                   have S4 := Lib.hid (S3.out.step b4)
                                   have R4 := Lib.hid r4
                                   have K4 := S4.out.k
                                   have C4 := HC.out _ S4.out.bel
                                   clear r4 b4)
                                | (go_at_call_of 16 (Value.pointer (some ⟨p, 0, none⟩))
                                   with_reducible refine (HI1.out p _ S4.out.idx).mono ?_
                                   rintro e v5 ⟨A5, c5, rfl, r5, b5⟩
                                   have S5 := Lib.hid (S4.out.step b5)
                                   have R5 := Lib.hid r5
                                   have K5 := S5.out.k
                                   have C5 := HC.out _ S5.out.bel
                                   have Q4 := Lib.hid (R4.out.below b5)
                                   clear r5 b5)
                                | (go_at_call_of 13 (Value.slice A4 m1 c4)
                                   with_reducible refine (same_refl L1 m1 HM1.out (by omega) A4 A5 c4 c5 _ Q4.out R5.out).mono ?_
                                   rintro e v6 ⟨rfl, b6⟩
                                   have S6 := Lib.hid (S5.out.step b6)
                                   have K6 := S6.out.k
                                   have C6 := HC.out _ S6.out.bel
                                   clear b6)
                                | (go_at_call_of 14 (Value.pointer (some ⟨q, 0, none⟩))
                                   with_reducible refine (HI2.out q _ S6.out.idy).mono ?_
                                   rintro e v7 ⟨A7, c7, rfl, r7, b7⟩
                                   have S7 := Lib.hid (S6.out.step b7)
                                   have R7 := Lib.hid r7
                                   have K7 := S7.out.k
                                   have C7 := HC.out _ S7.out.bel
                                   clear r7 b7)
                                | (go_at_call_of 14 (Value.pointer (some ⟨p, 0, none⟩))
                                   with_reducible refine (HI2.out p _ S7.out.idx).mono ?_
                                   rintro e v8 ⟨A8, c8, rfl, r8, b8⟩
                                   have S8 := Lib.hid (S7.out.step b8)
                                   have R8 := Lib.hid r8
                                   have K8 := S8.out.k
                                   have C8 := HC.out _ S8.out.bel
                                   have Q7 := Lib.hid (R7.out.below b8)
                                   clear r8 b8)
                                | (go_at_call_of 13 (Value.slice A7 m2 c7)
                                   with_reducible refine (same_refl L2 m2 HM2.out (by omega) A7 A8 c7 c8 _ Q7.out R8.out).mono ?_
                                   rintro e v9 ⟨rfl, b9⟩
                                   have S9 := Lib.hid (S8.out.step b9)
                                   have K9 := S9.out.k
                                   have C9 := HC.out _ S9.out.bel
                                   clear b9)
                                | (go_at_call 12
                                   with_reducible refine (awake_any _).mono ?_
                                   rintro e vA ⟨rfl, bA⟩
                                   have SA := Lib.hid (S9.out.step bA)
                                   have KA := SA.out.k
                                   have CA := HC.out _ SA.out.bel
                                   clear bA)
                              try go_wp2_with fail
                              refine hK.out _ _ ?_ (fun hHeld => ?_)
                              · try dsimp only
                                first | (with_reducible exact ⟨KA, CA⟩) | (with_reducible exact ⟨K9, C9⟩) | (with_reducible exact ⟨K8, C8⟩) | (with_reducible exact ⟨K7, C7⟩) | (with_reducible exact ⟨K6, C6⟩) | (with_reducible exact ⟨K5, C5⟩) | (with_reducible exact ⟨K4, C4⟩) | (with_reducible exact ⟨K3, C3⟩) | (with_reducible exact ⟨K2, C2⟩)
                              clear hK K
                              try simp only [Act.put, List.getElem_toArray, List.getElem_cons_succ, List.getElem_cons_zero, List.setIfInBounds_toArray, List.set_cons_zero, List.set_cons_succ]
                              refine wpAnyH_take (i := 32) (v := ?_) rfl (by kernel_rfl) (by kernel_rfl) (by kernel_rfl) (fun _ _ _ h => h) (Or.inl ⟨by rfl, ?_⟩) (by assumption) ?_
                              rotate_left
                              · (intro w hSw; (try dsimp only at hSw); go_simp; try (with_reducible rfl))
                              try simp only [Act.put, List.getElem_toArray, List.getElem_cons_succ, List.getElem_cons_zero, List.setIfInBounds_toArray, List.set_cons_zero, List.set_cons_succ]
                              refine wpAnyH_take (i := 33) (v := ?_) rfl (by kernel_rfl) (by kernel_rfl) (by kernel_rfl) (fun _ _ _ h => h) (Or.inl ⟨by rfl, ?_⟩) (by assumption) ?_
                              rotate_left
                              · (intro w hSw; (try dsimp only at hSw); go_simp; try (with_reducible rfl))
                              try simp only [Act.put, List.getElem_toArray, List.getElem_cons_succ, List.getElem_cons_zero, List.setIfInBounds_toArray, List.set_cons_zero, List.set_cons_succ]
                              refine wpAnyH_ready (rs := [34]) (by kernel_rfl) (by simp) ?_
                              refine AllReadyH.cons rfl (fun K hK => ?_) ?_
                              · skip
                                go_simp
                                first
                                  | (go_at_call 11
                                     with_reducible refine (HLN.out _ q S2.out.idy).mono ?_
                                     rintro e v3 ⟨rfl, rfl⟩)
                                  | (go_at_call 21
                                     with_reducible refine (HEN.out _ q S2.out.idy).mono ?_
                                     rintro e v3 ⟨A3, n3, c3, rfl, h3c, h3b⟩
                                     have S3 := Lib.hid (S2.out.step h3b)
                                     have K3 := S3.out.k
                                     have C3 := HC.out _ S3.out.bel
                                     have D3 := h3c v3 (Below.refl _ _)
                                     clear h3c h3b)
                                  | (go_at_call_of 16 (Value.pointer (some ⟨q, 0, none⟩))
                                     with_reducible refine (HI1.out q _ S3.out.idy).mono ?_
                                     rintro e v4 ⟨A4, c4, rfl, r4, b4⟩
                                     have S4 := Lib.hid (S3.out.step b4)
                                     have R4 := Lib.hid r4
                                     have K4 := S4.out.k
                                     have C4 := HC.out _ S4.out.bel
                                     clear r4 b4)
                                  | (go_at_call_of 16 (Value.pointer (some ⟨p, 0, none⟩))
                                     with_reducible refine (HI1.out p _ S4.out.idx).mono ?_
                                     rintro e v5 ⟨A5, c5, rfl, r5, b5⟩
                                     have S5 := Lib.hid (S4.out.step b5)
                                     have R5 := Lib.hid r5
                                     have K5 := S5.out.k
                                     have C5 := HC.out _ S5.out.bel
                                     have Q4 := Lib.hid (R4.out.below b5)
                                     clear r5 b5)
                                  | (go_at_call_of 13 (Value.slice A4 m1 c4)
                                     with_reducible refine (same_refl L1 m1 HM1.out (by omega) A4 A5 c4 c5 _ Q4.out R5.out).mono ?_
                                     rintro e v6 ⟨rfl, b6⟩
                                     have S6 := Lib.hid (S5.out.step b6)
                                     have K6 := S6.out.k
                                     have C6 := HC.out _ S6.out.bel
                                     clear b6)
                                  | (go_at_call_of 14 (Value.pointer (some ⟨q, 0, none⟩))
                                     with_reducible refine (HI2.out q _ S6.out.idy).mono ?_
                                     rintro e v7 ⟨A7, c7, rfl, r7, b7⟩
                                     have S7 := Lib.hid (S6.out.step b7)
                                     have R7 := Lib.hid r7
                                     have K7 := S7.out.k
                                     have C7 := HC.out _ S7.out.bel
                                     clear r7 b7)
                                  | (go_at_call_of 14 (Value.pointer (some ⟨p, 0, none⟩))
                                     with_reducible refine (HI2.out p _ S7.out.idx).mono ?_
                                     rintro e v8 ⟨A8, c8, rfl, r8, b8⟩
                                     have S8 := Lib.hid (S7.out.step b8)
                                     have R8 := Lib.hid r8
                                     have K8 := S8.out.k
                                     have C8 := HC.out _ S8.out.bel
                                     have Q7 := Lib.hid (R7.out.below b8)
                                     clear r8 b8)
                                  | (go_at_call_of 13 (Value.slice A7 m2 c7)
                                     with_reducible refine (same_refl L2 m2 HM2.out (by omega) A7 A8 c7 c8 _ Q7.out R8.out).mono ?_
                                     rintro e v9 ⟨rfl, b9⟩
                                     have S9 := Lib.hid (S8.out.step b9)
                                     have K9 := S9.out.k
                                     have C9 := HC.out _ S9.out.bel
                                     clear b9)
                                  | (go_at_call 12
                                     with_reducible refine (awake_any _).mono ?_
                                     rintro e vA ⟨rfl, bA⟩
                                     have SA := Lib.hid (S9.out.step bA)
                                     have KA := SA.out.k
                                     have CA := HC.out _ SA.out.bel
                                     clear bA)
                                try go_wp2_with fail
                                refine hK.out _ _ ?_ (fun hHeld => ?_)
                                · try dsimp only
                                  first | (with_reducible exact ⟨KA, CA⟩) | (with_reducible exact ⟨K9, C9⟩) | (with_reducible exact ⟨K8, C8⟩) | (with_reducible exact ⟨K7, C7⟩) | (with_reducible exact ⟨K6, C6⟩) | (with_reducible exact ⟨K5, C5⟩) | (with_reducible exact ⟨K4, C4⟩) | (with_reducible exact ⟨K3, C3⟩) | (with_reducible exact ⟨K2, C2⟩)
                                clear hK K
                                try simp only [Act.put, List.getElem_toArray, List.getElem_cons_succ, List.getElem_cons_zero, List.setIfInBounds_toArray, List.set_cons_zero, List.set_cons_succ]
                                refine wpAnyH_take (i := 35) (v := ?_) rfl (by kernel_rfl) (by kernel_rfl) (by kernel_rfl) (fun _ _ _ h => h) (Or.inl ⟨by rfl, ?_⟩) (by assumption) ?_
                                rotate_left
                                · (intro w hSw; (try dsimp only at hSw); go_simp; try (with_reducible rfl))
                                try simp only [Act.put, List.getElem_toArray, List.getElem_cons_succ, List.getElem_cons_zero, List.setIfInBounds_toArray, List.set_cons_zero, List.set_cons_succ]
                                refine wpAnyH_take (i := 36) (v := ?_) rfl (by kernel_rfl) (by kernel_rfl) (by kernel_rfl) (fun _ _ _ h => h) (Or.inl ⟨by rfl, ?_⟩) (by assumption) ?_
                                rotate_left
                                · (intro w hSw; (try dsimp only at hSw); go_simp; try (with_reducible rfl))
                                try simp only [Act.put, List.getElem_toArray, List.getElem_cons_succ, List.getElem_cons_zero, List.setIfInBounds_toArray, List.set_cons_zero, List.set_cons_succ]
                                refine wpAnyH_done (by kernel_rfl) ?_ _
                                refine NoPanic.normal ?_
                                go_wp2
                                go_ret
                                exact ⟨rfl, bel_trans HB0.out (bel_trans HBW2.out SA.out.bel)⟩
                              exact AllReadyH.nil
                            exact AllReadyH.nil
                          exact AllReadyH.nil
                        exact AllReadyH.nil
                      exact AllReadyH.nil
                    exact AllReadyH.nil
                  exact AllReadyH.nil
                exact AllReadyH.nil
              exact AllReadyH.nil
            exact AllReadyH.nil
          exact AllReadyH.nil
        exact AllReadyH.nil
      · exact absurd rfl (hno _ HK.out)
    · have HB := Lib.hid (built_bad A c xs (w.alloc (SB s1 s2)) ha0 (by omega) hok)
      rw [← hn] at HB hm ⊢
      have HB0 := Lib.hid hb0
      clear ha ha0 hA hn hok hb0
      go_enter Try.func8, Try.ntmps8
      go_wp2_with fail
      refine HB.out.mono ?_
      rintro e w1 ⟨rfl, hb1⟩
      have HB1 := Lib.hid (bel_trans HB0.out hb1)
      clear hb1 HB
      go_wp2_with fail
      refine (awake_any w1).mono ?_
      rintro e w3 ⟨rfl, hb3⟩
      have HB3 := Lib.hid (bel_trans HB1.out hb3)
      clear hb3 HB1
      go_wp2
      go_ret
      exact ⟨rfl, HB3.out⟩
end Go.Proofs.Ytlpdligkjihkeaa.Tb
