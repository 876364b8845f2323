/- The law StabDecodes, walked. -/
import Derived.Test.YtlpdligkjihkeaaWf
import Derived.Test.YtlpdligkjihkeaaTu
set_option linter.unusedVariables false
set_option linter.unusedSimpArgs false
namespace Go.Proofs.Ytlpdligkjihkeaa.Tb
open Go.RowKit

theorem Decode_any (A : Option Addr) (c : Nat) (bs : List Nat) (w : World) (ha : RdB w A bs) (hcap : bs.length ≤ c) (hb : Byt bs) (hm : bs.length ≤ 8000) :
    Calls Try.prog 22 #[.slice A bs.length c] w fun e w' => DecPost w bs e w' := by
  by_cases h : ∃ ps, sealL ps = bs
  · obtain ⟨ps, rfl⟩ := h
    have hl := sealL_len ps
    rw [hl]
    exact Decode_sealed A c ps w ha (by omega) hb (by omega)
  · exact Decode_unsealed A c bs w ha hcap hb hm fun ps e => h ⟨ps, e⟩
theorem RDecode_any (A : Option Addr) (c : Nat) (bs : List Nat) (w : World) (ha : RdB w A bs) (hcap : bs.length ≤ c) (hb : Byt bs) (hm : bs.length ≤ 8000) :
    Calls Try.prog 24 #[.slice A bs.length c] w fun e w' => RDecPost w bs e w' := by
  by_cases h : ∃ ps, sealL ps = bs
  · obtain ⟨ps, rfl⟩ := h
    have hl := sealL_len ps
    rw [hl]
    exact RDecode_sealed A c ps w ha (by omega) hb (by omega)
  · exact RDecode_unsealed A c bs w ha hcap hb hm fun ps e => h ⟨ps, e⟩
theorem encI_inj {a b : List (Int × Int)} (ha : Okl a) (hb : Okl b) (h : encI a = encI b) : a = b := by
  rw [encI_eq b] at h
  have := enc_uniq (L := b.length :: flatP b) hb.small.lt ha h
  injection this with _ e
  rw [← prs_flat a ha.v, ← prs_flat b hb.v, e]

/-- A slice of bytes is answered whose string is s. -/
def StrAns (w : World) (s : ByteArray) (e : Ending) (w' : World) : Prop := ∃ A n c, e = .returned (.slice A n c) ∧ (∀ w2, Below w'.heap.size w' w2 → (convert 41 9 (.slice A n c)).run Try.prog w2 = .ok (.string s) w2) ∧ Below w.heap.size w w'
theorem ownB_str {w w' : World} {base : Nat} {v : Value} {xs : List Nat} {e : Ending} (he : e = .returned v) (ho : OwnB w' base v xs) (hb : Below w.heap.size w w') : StrAns w (strN xs) e w' := by
  obtain ⟨A, c, rfl, hr, _⟩ := ho.rd
  exact ⟨A, _, c, he, fun w2 h2 => conv_B (hr.below h2), hb⟩

set_option maxRecDepth 100000 in
set_option maxHeartbeats 12800000 in
theorem stabDecodes_walk (A : Option Addr) (c : Nat) (bs : List Nat) (w : World) (ha : RdB w A bs) (hcap : bs.length ≤ c) (hb : Byt bs) (hm : bs.length ≤ maxLen) :
    Calls Try.prog 9 #[.slice A bs.length c] w fun e w' => e = .returned (.bool true) ∧ Below w.heap.size w w' := by
  unfold maxLen at hm
  obtain ⟨n, hn⟩ : ∃ n, n = bs.length := ⟨_, rfl⟩
  by_cases hl : 600 < n
  · rw [← hn] at hm ⊢
    have g1 : (600 : Int) < (n : Int) := by omega
    clear ha hb hn hcap
    go_enter Try.func9, Try.ntmps9
    go_wp2
    go_ret
    exact ⟨rfl, Below.refl _ _⟩
  · have g1 : ¬ (600 : Int) < (n : Int) := by omega
    have HD := Lib.hid (Decode_any A c bs w ha hcap hb (by omega))
    have HRD := Lib.hid (fun w1 (h1 : Below w.heap.size w w1) => RDecode_any A c bs w1 (ha.below h1) hcap hb (by omega))
    have HC : Hid (∀ w1, Below w.heap.size w w1 → (convert 41 9 (.slice A n c)).run Try.prog w1 = .ok (.string (strN bs)) w1) := Lib.hid fun w1 h1 => by
      rw [hn]
      exact conv_B (ha.below h1)
    rw [← hn] at HD HRD hm ⊢
    clear ha hb hn hcap
    by_cases hx : ∃ xs, Okl xs ∧ encI xs = bs
    · obtain ⟨xs0, hk0, he0⟩ := hx
      go_enter Try.func9, Try.ntmps9
      go_wp2_with fail
      refine HD.out.mono ?_
      rintro e w1 ⟨hb1, ⟨p, xs, rfl, hi1, hk1, he1⟩ | ⟨rfl, hno⟩⟩
      · have HB1 := Lib.hid hb1
        have HRD1 := Lib.hid (HRD.out w1 hb1)
        have HI1 := Lib.hid hi1
        have HK1 := Lib.hid hk1
        have HE1 := Lib.hid he1
        clear hb1 hi1 HD HRD hk1 he1
        go_wp2_with fail
        refine HRD1.out.mono ?_
        rintro e w2 ⟨hb2, ⟨A2, c2, ys, rfl, hr2, hk2, he2⟩ | ⟨v, rfl, hno⟩⟩
        · obtain rfl : ys = xs := encI_inj hk2 HK1.out (he2.trans HE1.out.symm)
          obtain ⟨m, hm2⟩ : ∃ m, m = ys.length := ⟨_, rfl⟩
          rw [← hm2]
          have B2 : Hid (Below w.heap.size w w2.drew) := Lib.hid (bd_drew (HB1.out.trans (hb2.mono HB1.out.size)))
          have HI2 : Hid (Idx w2.drew p ys) := Lib.hid ((HI1.out.below hb2).below (bd_drew (Below.refl _ _)))
          have HLN : Hid (∀ W, Idx W p ys → Calls Try.prog 11 #[.pointer (some ⟨p, 0, none⟩)] W fun e w' => e = .returned (.int .i64 m) ∧ w' = W) := Lib.hid fun W h => by rw [hm2]; exact Len_any ys p W h
          have HEN : Hid (∀ W, Idx W p ys → Calls Try.prog 21 #[.pointer (some ⟨p, 0, none⟩)] W fun e w' => StrAns W (strN bs) e w') := Lib.hid fun W h => (Encode_any ys p W HK1.out.l HK1.out.v HK1.out.e h).mono fun e w' ⟨v, he, ho, hb⟩ => by
            rw [← HE1.out]
            exact ownB_str he ho hb
          have C0 := HC.out _ B2.out
          obtain ⟨s, hs⟩ : ∃ s, s = strN bs := ⟨_, rfl⟩
          rw [← hs] at C0 HEN HC
          have h3 : (s.toList == s.toList) = true := by simp
          have h4 : (s == s) = true := by rw [beq_toListBytes]; exact h3
          clear hs hr2 he2 hk2 hb2 hm2 he0 hk0
          go_wp2_with fail
          refine wp_region_noPanic ?_
          refine wp_region_held_drew (S := fun w' => (convert 41 9 (.slice A n c)).run Try.prog w' = .ok (.string s) w') (by kernel_rfl) ?_ (fun hHeld => ?_)
          · try dsimp only
            first | (with_reducible exact C5) | (with_reducible exact C4) | (with_reducible exact C0)
          refine wpAnyH_take (i := 0) (v := ?_) rfl (by kernel_rfl) (by kernel_rfl) (by kernel_rfl) (fun _ _ _ h => h) (Or.inl ⟨by rfl, ?_⟩) (by assumption) ?_
          rotate_left
          · (intro w hSw; (try dsimp only at hSw); go_simp; try (with_reducible rfl))
          try simp only [Act.put, List.getElem_toArray, List.getElem_cons_succ, List.getElem_cons_zero, List.setIfInBounds_toArray, List.set_cons_zero, List.set_cons_succ]
          refine wpAnyH_take (i := 1) (v := ?_) rfl (by kernel_rfl) (by kernel_rfl) (by kernel_rfl) (fun _ _ _ h => h) (Or.inl ⟨by rfl, ?_⟩) (by assumption) ?_
          rotate_left
          · (intro w hSw; (try dsimp only at hSw); go_simp; try (with_reducible rfl))
          try simp only [Act.put, List.getElem_toArray, List.getElem_cons_succ, List.getElem_cons_zero, List.setIfInBounds_toArray, List.set_cons_zero, List.set_cons_succ]
          refine wpAnyH_take (i := 2) (v := ?_) rfl (by kernel_rfl) (by kernel_rfl) (by kernel_rfl) (fun _ _ _ h => h) (Or.inl ⟨by rfl, ?_⟩) (by assumption) ?_
          rotate_left
          · (intro w hSw; (try dsimp only at hSw); go_simp; try (with_reducible rfl))
          try simp only [Act.put, List.getElem_toArray, List.getElem_cons_succ, List.getElem_cons_zero, List.setIfInBounds_toArray, List.set_cons_zero, List.set_cons_succ]
          refine wpAnyH_take (i := 3) (v := ?_) rfl (by kernel_rfl) (by kernel_rfl) (by kernel_rfl) (fun _ _ _ h => h) (Or.inl ⟨by rfl, ?_⟩) (by assumption) ?_
          rotate_left
          · (intro w hSw; (try dsimp only at hSw); go_simp; try (with_reducible rfl))
          try simp only [Act.put, List.getElem_toArray, List.getElem_cons_succ, List.getElem_cons_zero, List.setIfInBounds_toArray, List.set_cons_zero, List.set_cons_succ]
          refine wpAnyH_take (i := 4) (v := ?_) rfl (by kernel_rfl) (by kernel_rfl) (by kernel_rfl) (fun _ _ _ h => h) (Or.inl ⟨by rfl, ?_⟩) (by assumption) ?_
          rotate_left
          · (intro w hSw; (try dsimp only at hSw); go_simp; try (with_reducible rfl))
          try simp only [Act.put, List.getElem_toArray, List.getElem_cons_succ, List.getElem_cons_zero, List.setIfInBounds_toArray, List.set_cons_zero, List.set_cons_succ]
          refine wpAnyH_take (i := 5) (v := ?_) rfl (by kernel_rfl) (by kernel_rfl) (by kernel_rfl) (fun _ _ _ h => h) (Or.inl ⟨by rfl, ?_⟩) (by assumption) ?_
          rotate_left
          · (intro w hSw; (try dsimp only at hSw); go_simp; try (with_reducible rfl))
          try simp only [Act.put, List.getElem_toArray, List.getElem_cons_succ, List.getElem_cons_zero, List.setIfInBounds_toArray, List.set_cons_zero, List.set_cons_succ]
          refine wpAnyH_take (i := 6) (v := ?_) rfl (by kernel_rfl) (by kernel_rfl) (by kernel_rfl) (fun _ _ _ h => h) (Or.inl ⟨by rfl, ?_⟩) (by assumption) ?_
          rotate_left
          · (intro w hSw; (try dsimp only at hSw); go_simp; try (with_reducible rfl))
          try simp only [Act.put, List.getElem_toArray, List.getElem_cons_succ, List.getElem_cons_zero, List.setIfInBounds_toArray, List.set_cons_zero, List.set_cons_succ]
          refine wpAnyH_take (i := 7) (v := ?_) rfl (by kernel_rfl) (by kernel_rfl) (by kernel_rfl) (fun _ _ _ h => h) (Or.inl ⟨by rfl, ?_⟩) (by assumption) ?_
          rotate_left
          · (intro w hSw; (try dsimp only at hSw); go_simp; try (with_reducible rfl))
          try simp only [Act.put, List.getElem_toArray, List.getElem_cons_succ, List.getElem_cons_zero, List.setIfInBounds_toArray, List.set_cons_zero, List.set_cons_succ]
          refine wpAnyH_take (i := 9) (v := ?_) rfl (by kernel_rfl) (by kernel_rfl) (by kernel_rfl) (fun _ _ _ h => h) (Or.inl ⟨by rfl, ?_⟩) (by assumption) ?_
          rotate_left
          · (intro w hSw; (try dsimp only at hSw); go_simp; try (with_reducible rfl))
          try simp only [Act.put, List.getElem_toArray, List.getElem_cons_succ, List.getElem_cons_zero, List.setIfInBounds_toArray, List.set_cons_zero, List.set_cons_succ]
          refine wpAnyH_take (i := 10) (v := ?_) rfl (by kernel_rfl) (by kernel_rfl) (by kernel_rfl) (fun _ _ _ h => h) (Or.inl ⟨by rfl, ?_⟩) (by assumption) ?_
          rotate_left
          · (intro w hSw; (try dsimp only at hSw); go_simp; try (with_reducible rfl))
          try simp only [Act.put, List.getElem_toArray, List.getElem_cons_succ, List.getElem_cons_zero, List.setIfInBounds_toArray, List.set_cons_zero, List.set_cons_succ]
          refine wpAnyH_ready (rs := [8]) (by kernel_rfl) (by simp) ?_
          refine AllReadyH.cons rfl (fun K hK => ?_) ?_
          · skip
            go_simp
            first
              | (go_at_call 11
                 with_reducible refine (HLN.out _ HI2.out).mono ?_
                 rintro e w3 ⟨rfl, rfl⟩)
              | (go_at_call 21
                 with_reducible refine (HEN.out _ HI2.out).mono ?_
                 rintro e w4 ⟨A4, n4, c4, rfl, h4c, h4b⟩
                 have B4 : Hid (Below w.heap.size w w4) := Lib.hid (B2.out.trans (h4b.mono B2.out.size))
                 have C4 := HC.out _ B4.out
                 have D4 := h4c w4 (Below.refl _ _)
                 clear h4c h4b)
              | (go_at_call 12
                 with_reducible refine (awake_any _).mono ?_
                 rintro e w5 ⟨rfl, h5b⟩
                 have B5 : Hid (Below w.heap.size w w5) := Lib.hid (B4.out.trans (h5b.mono B4.out.size))
                 have C5 := HC.out _ B5.out
                 clear h5b)
            try go_wp2_with fail
            refine hK.out _ _ ?_ (fun hHeld => ?_)
            · try dsimp only
              first | (with_reducible exact C5) | (with_reducible exact C4) | (with_reducible exact C0)
            clear hK K
            try simp only [Act.put, List.getElem_toArray, List.getElem_cons_succ, List.getElem_cons_zero, List.setIfInBounds_toArray, List.set_cons_zero, List.set_cons_succ]
            refine wpAnyH_take (i := 11) (v := ?_) rfl (by kernel_rfl) (by kernel_rfl) (by kernel_rfl) (fun _ _ _ h => h) (Or.inl ⟨by rfl, ?_⟩) (by assumption) ?_
            rotate_left
            · (intro w hSw; (try dsimp only at hSw); go_simp; try (with_reducible rfl))
            try simp only [Act.put, List.getElem_toArray, List.getElem_cons_succ, List.getElem_cons_zero, List.setIfInBounds_toArray, List.set_cons_zero, List.set_cons_succ]
            refine wpAnyH_take (i := 12) (v := ?_) rfl (by kernel_rfl) (by kernel_rfl) (by kernel_rfl) (fun _ _ _ h => h) (Or.inl ⟨by rfl, ?_⟩) (by assumption) ?_
            rotate_left
            · (intro w hSw; (try dsimp only at hSw); go_simp; try (with_reducible rfl))
            try simp only [Act.put, List.getElem_toArray, List.getElem_cons_succ, List.getElem_cons_zero, List.setIfInBounds_toArray, List.set_cons_zero, List.set_cons_succ]
            refine wpAnyH_take (i := 13) (v := ?_) rfl (by kernel_rfl) (by kernel_rfl) (by kernel_rfl) (fun _ _ _ h => h) (Or.inl ⟨by rfl, ?_⟩) (by assumption) ?_
            rotate_left
            · (intro w hSw; (try dsimp only at hSw); go_simp; try (with_reducible rfl))
            try simp only [Act.put, List.getElem_toArray, List.getElem_cons_succ, List.getElem_cons_zero, List.setIfInBounds_toArray, List.set_cons_zero, List.set_cons_succ]
            refine wpAnyH_take (i := 14) (v := ?_) rfl (by kernel_rfl) (by kernel_rfl) (by kernel_rfl) (fun _ _ _ h => h) (Or.inl ⟨by rfl, ?_⟩) (by assumption) ?_
            rotate_left
            · (intro w hSw; (try dsimp only at hSw); go_simp; try (with_reducible rfl))
            try simp only [Act.put, List.getElem_toArray, List.getElem_cons_succ, List.getElem_cons_zero, List.setIfInBounds_toArray, List.set_cons_zero, List.set_cons_succ]
            refine wpAnyH_take (i := 17) (v := ?_) rfl (by kernel_rfl) (by kernel_rfl) (by kernel_rfl) (fun _ _ _ h => h) (Or.inl ⟨by rfl, ?_⟩) (by assumption) ?_
            rotate_left
            · (intro w hSw; (try dsimp only at hSw); go_simp; try (with_reducible rfl))
            try simp only [Act.put, List.getElem_toArray, List.getElem_cons_succ, List.getElem_cons_zero, List.setIfInBounds_toArray, List.set_cons_zero, List.set_cons_succ]
            refine wpAnyH_take (i := 18) (v := ?_) rfl (by kernel_rfl) (by kernel_rfl) (by kernel_rfl) (fun _ _ _ h => h) (Or.inl ⟨by rfl, ?_⟩) (by assumption) ?_
            rotate_left
            · (intro w hSw; (try dsimp only at hSw); go_simp; try (with_reducible rfl))
            try simp only [Act.put, List.getElem_toArray, List.getElem_cons_succ, List.getElem_cons_zero, List.setIfInBounds_toArray, List.set_cons_zero, List.set_cons_succ]
            refine wpAnyH_ready (rs := [15]) (by kernel_rfl) (by simp) ?_
            refine AllReadyH.cons rfl (fun K hK => ?_) ?_
            · skip
              go_simp
              first
                | (go_at_call 11
                   with_reducible refine (HLN.out _ HI2.out).mono ?_
                   rintro e w3 ⟨rfl, rfl⟩)
                | (go_at_call 21
                   with_reducible refine (HEN.out _ HI2.out).mono ?_
                   rintro e w4 ⟨A4, n4, c4, rfl, h4c, h4b⟩
                   have B4 : Hid (Below w.heap.size w w4) := Lib.hid (B2.out.trans (h4b.mono B2.out.size))
                   have C4 := HC.out _ B4.out
                   have D4 := h4c w4 (Below.refl _ _)
                   clear h4c h4b)
                | (go_at_call 12
                   with_reducible refine (awake_any _).mono ?_
                   rintro e w5 ⟨rfl, h5b⟩
                   have B5 : Hid (Below w.heap.size w w5) := Lib.hid (B4.out.trans (h5b.mono B4.out.size))
                   have C5 := HC.out _ B5.out
                   clear h5b)
              try go_wp2_with fail
              refine hK.out _ _ ?_ (fun hHeld => ?_)
              · try dsimp only
                first | (with_reducible exact C5) | (with_reducible exact C4) | (with_reducible exact C0)
              clear hK K
              try simp only [Act.put, List.getElem_toArray, List.getElem_cons_succ, List.getElem_cons_zero, List.setIfInBounds_toArray, List.set_cons_zero, List.set_cons_succ]
              refine wpAnyH_ready (rs := [16]) (by kernel_rfl) (by simp) ?_
              refine AllReadyH.cons rfl (fun K hK => ?_) ?_
              · skip
                go_simp
                refine hK.out _ _ ?_ (fun hHeld => ?_)
                · try dsimp only
                  first | (with_reducible exact C5) | (with_reducible exact C4) | (with_reducible exact C0)
                clear hK K
                try simp only [Act.put, List.getElem_toArray, List.getElem_cons_succ, List.getElem_cons_zero, List.setIfInBounds_toArray, List.set_cons_zero, List.set_cons_succ]
                refine wpAnyH_take (i := 19) (v := ?_) rfl (by kernel_rfl) (by kernel_rfl) (by kernel_rfl) (fun _ _ _ h => h) (Or.inl ⟨by rfl, ?_⟩) (by assumption) ?_
                rotate_left
                · (intro w hSw; (try dsimp only at hSw); go_simp; try (with_reducible rfl))
                try simp only [Act.put, List.getElem_toArray, List.getElem_cons_succ, List.getElem_cons_zero, List.setIfInBounds_toArray, List.set_cons_zero, List.set_cons_succ]
                refine wpAnyH_take (i := 20) (v := ?_) rfl (by kernel_rfl) (by kernel_rfl) (by kernel_rfl) (fun _ _ _ h => h) (Or.inl ⟨by rfl, ?_⟩) (by assumption) ?_
                rotate_left
                · (intro w hSw; (try dsimp only at hSw); go_simp; try (with_reducible rfl))
                try simp only [Act.put, List.getElem_toArray, List.getElem_cons_succ, List.getElem_cons_zero, List.setIfInBounds_toArray, List.set_cons_zero, List.set_cons_succ]
                refine wpAnyH_take (i := 21) (v := ?_) rfl (by kernel_rfl) (by kernel_rfl) (by kernel_rfl) (fun _ _ _ h => h) (Or.inl ⟨by rfl, ?_⟩) (by assumption) ?_
                rotate_left
                · (intro w hSw; (try dsimp only at hSw); go_simp; try (with_reducible rfl))
                try simp only [Act.put, List.getElem_toArray, List.getElem_cons_succ, List.getElem_cons_zero, List.setIfInBounds_toArray, List.set_cons_zero, List.set_cons_succ]
                refine wpAnyH_ready (rs := [22]) (by kernel_rfl) (by simp) ?_
                refine AllReadyH.cons rfl (fun K hK => ?_) ?_
                · skip
                  go_simp
                  first
                    | (go_at_call 11
                       with_reducible refine (HLN.out _ HI2.out).mono ?_
                       rintro e w3 ⟨rfl, rfl⟩)
                    | (go_at_call 21
                       with_reducible refine (HEN.out _ HI2.out).mono ?_
                       rintro e w4 ⟨A4, n4, c4, rfl, h4c, h4b⟩
                       have B4 : Hid (Below w.heap.size w w4) := Lib.hid (B2.out.trans (h4b.mono B2.out.size))
                       have C4 := HC.out _ B4.out
                       have D4 := h4c w4 (Below.refl _ _)
                       clear h4c h4b)
                    | (go_at_call 12
                       with_reducible refine (awake_any _).mono ?_
                       rintro e w5 ⟨rfl, h5b⟩
                       have B5 : Hid (Below w.heap.size w w5) := Lib.hid (B4.out.trans (h5b.mono B4.out.size))
                       have C5 := HC.out _ B5.out
                       clear h5b)
                  try go_wp2_with fail
                  refine hK.out _ _ ?_ (fun hHeld => ?_)
                  · try dsimp only
                    first | (with_reducible exact C5) | (with_reducible exact C4) | (with_reducible exact C0)
                  clear hK K
                  try simp only [Act.put, List.getElem_toArray, List.getElem_cons_succ, List.getElem_cons_zero, List.setIfInBounds_toArray, List.set_cons_zero, List.set_cons_succ]
                  refine wpAnyH_take (i := 23) (v := ?_) rfl (by kernel_rfl) (by kernel_rfl) (by kernel_rfl) (fun _ _ _ h => h) (Or.inl ⟨by rfl, ?_⟩) (by assumption) ?_
                  rotate_left
                  · (intro w hSw; (try dsimp only at hSw); go_simp; try (with_reducible rfl))
                  try simp only [Act.put, List.getElem_toArray, List.getElem_cons_succ, List.getElem_cons_zero, List.setIfInBounds_toArray, List.set_cons_zero, List.set_cons_succ]
                  refine wpAnyH_take (i := 24) (v := ?_) rfl (by kernel_rfl) (by kernel_rfl) (by kernel_rfl) (fun _ _ _ h => h) (Or.inl ⟨by rfl, ?_⟩) (by assumption) ?_
                  rotate_left
                  · (intro w hSw; (try dsimp only at hSw); go_simp; try (with_reducible rfl))
                  try simp only [Act.put, List.getElem_toArray, List.getElem_cons_succ, List.getElem_cons_zero, List.setIfInBounds_toArray, List.set_cons_zero, List.set_cons_succ]
                  refine wpAnyH_done (by kernel_rfl) ?_ _
                  refine NoPanic.normal ?_
                  go_wp2
                  go_ret
                  exact ⟨rfl, B5.out⟩
                exact AllReadyH.nil
              exact AllReadyH.nil
            exact AllReadyH.nil
          exact AllReadyH.nil
        · exact absurd HE1.out (hno xs HK1.out)
      · exact absurd he0 (hno xs0 hk0)
    · go_enter Try.func9, Try.ntmps9
      go_wp2_with fail
      refine HD.out.mono ?_
      rintro e w1 ⟨hb1, ⟨p, xs, rfl, hi1, hk1, he1⟩ | ⟨rfl, hno⟩⟩
      · exact absurd ⟨xs, hk1, he1⟩ hx
      · have HB1 := Lib.hid hb1
        have HRD1 := Lib.hid (HRD.out w1 hb1)
        have HX := Lib.hid hx
        clear hb1 HD HRD hx hno
        go_wp2_with fail
        refine HRD1.out.mono ?_
        rintro e w2 ⟨hb2, ⟨A2, c2, ys, rfl, hr2, hk2, he2⟩ | ⟨v, rfl, hno⟩⟩
        · exact absurd ⟨ys, hk2, he2⟩ HX.out
        · have B2 : Hid (Below w.heap.size w w2) := Lib.hid (HB1.out.trans (hb2.mono HB1.out.size))
          clear hb2 hno
          go_wp2_with fail
          refine (awake_any w2).mono ?_
          rintro e w3 ⟨rfl, hb3⟩
          have B3 := Lib.hid (B2.out.trans (hb3.mono B2.out.size))
          clear hb3
          go_wp2
          go_ret
          exact ⟨rfl, B3.out⟩
end Go.Proofs.Ytlpdligkjihkeaa.Tb
