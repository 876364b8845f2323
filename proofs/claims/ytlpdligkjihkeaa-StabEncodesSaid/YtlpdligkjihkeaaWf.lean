/- The reference's decoding of an index, walked. -/
import Derived.Test.YtlpdligkjihkeaaWe
set_option linter.unusedVariables false
set_option linter.unusedSimpArgs false
namespace Go.Proofs.Ytlpdligkjihkeaa.Tb
open Go.RowKit

theorem RUnseal_ok (A : Option Addr) (c : Nat) (ps : List Nat) (w : World) (ha : RdB w A (sealL ps)) (hb : Byt ps) (hm : ps.length ≤ 1000000000) (hc : ps.length + 4 ≤ c) :
    Calls Try.prog 43 #[.slice A (ps.length + 4) c] w fun e w' => ∃ v, e = .returned (.tuple #[v, .bool true]) ∧ OwnB w' w.heap.size v ps ∧ Below w.heap.size w w' := by
  have hA : A ≠ none := by
    rintro rfl
    obtain ⟨b, o, h, _⟩ := ha (by rw [sealL_len]; omega)
    cases h
  refine (RUnseal_long A ps.length c ps (sumB (crc ps)) w rfl rfl ha hA (Byt.app.2 ⟨hb, sumB_byt _⟩) hm hc).mono ?_
  rintro e w' ⟨v, he, ho, hbb⟩
  rw [decide_eq_true (show sealL ps = ps ++ sumB (crc ps) from rfl)] at he
  exact ⟨v, he, ho, hbb⟩
theorem RUnseal_no (A : Option Addr) (c : Nat) (bs : List Nat) (w : World) (ha : RdB w A bs) (hb : Byt bs) (hm : bs.length ≤ 1000000000) (hc : bs.length ≤ c) (h : ∀ ps, sealL ps ≠ bs) :
    Calls Try.prog 43 #[.slice A bs.length c] w fun e w' => ∃ v, e = .returned (.tuple #[v, .bool false]) ∧ Below w.heap.size w w' := by
  by_cases h4 : bs.length < 4
  · refine (RUnseal_short A bs.length c w h4).mono ?_
    rintro e w' ⟨rfl, rfl⟩
    exact ⟨_, rfl, Below.refl _ _⟩
  · obtain ⟨ps, t0, t1, t2, t3, rfl, hps⟩ := cut4 bs (by omega)
    clear hps
    have hl : (ps ++ [t0, t1, t2, t3]).length = ps.length + 4 := by simp
    have hA : A ≠ none := by
      rintro rfl
      obtain ⟨b, o, h, _⟩ := ha (by omega)
      cases h
    rw [hl]
    refine (RUnseal_long A ps.length c ps [t0, t1, t2, t3] w rfl rfl ha hA hb (by omega) (by omega)).mono ?_
    rintro e w' ⟨v, he, ho, hbb⟩
    rw [decide_eq_false (h ps)] at he
    exact ⟨v, he, hbb⟩

theorem flat_prs : ∀ (k : Nat) (D : List Nat), D.length = 2 * k → flatP (prs D) = D
  | 0, D, h => by
    obtain rfl : D = [] := List.eq_nil_of_length_eq_zero (by omega)
    rfl
  | k + 1, [], h => by simp only [List.length_nil] at h; omega
  | k + 1, [_], h => by simp only [List.length_cons, List.length_nil] at h; omega
  | k + 1, a :: b :: D, h => by
    show [(a : Int).toNat, ((a : Int) + (b : Int) + 1 - (a : Int) - 1).toNat] ++ flatP (prs D) = _
    rw [flat_prs k D (by simp at h; omega), Int.toNat_natCast, show ((a : Int) + (b : Int) + 1 - (a : Int) - 1).toNat = b by omega]
    rfl
theorem wpList_appS {w : World} {ops : Array Oper} {rest : List Oper} {o : Oper} {a : Act} {Q : Exit → Act → World → Prop} (s x : Operand) (base : Nat) (v : Value) (ys : List (Int × Int)) (g c : Nat) (p q : Int) (hgd : o.guard = none)
    (ho : o.op = .call { callee := .builtin .append, args := #[s, x], argTypes := #[22, 22] })
    (hs : a.eval s = v) (hown : OwnS w base v ys) (hx : a.eval x = .slice (some ⟨g, 0, none⟩) 1 c) (hr : w.cell? ⟨g, 0, none⟩ = some (.int .i64 p) ∧ w.cell? ⟨g, 1, none⟩ = some (.int .i64 q)) (hm : ys.length ≤ 1000000) (hbase : base ≤ w.heap.size)
    (h : ∀ v' w', OwnS w' base v' (ys ++ [(p, q)]) → Below base w w' → wpList Try.prog ops Q rest (a.put o.dst v') w') : wpList Try.prog ops Q (o :: rest) a w := by
  refine wpList_plain hgd fun K hK => ?_
  obtain ⟨i0, hi0, hz0, hz1, hz2⟩ := info_parts infoS
  obtain ⟨v', w', hrun, h2, h3, _, h5⟩ := run_append_own_at (P := Try.prog) w base 22 o.type 35 i0 _ 2 16 Try.underlying22 hi0 hz0 hz1 hz2 rfl (by omega) v ys.length (cellsS ys) hown ⟨g, 0, none⟩ 1 c [.int .i64 p, .int .i64 q] rfl (fun j u hu => by
    rw [addr_add, Nat.zero_add]
    have hj : j < 2 := by have := (List.getElem?_eq_some_iff.1 hu).1; simpa using this
    rcases (show j = 0 ∨ j = 1 by omega) with rfl | rfl
    · simp at hu; subst hu; exact hr.1
    · simp at hu; subst hu; exact hr.2) (by simp [Value.oneCell']) (by simp only [maxLen]; omega) (by omega) hbase
  unfold Oper.wp execOp
  simp only [ho, resolve, invoke, builtin, Sem.run_bind, Sem.run_pure, Result.andThen_ok, List.map_toArray, List.map_cons, List.map_nil, hs, hx, hrun]
  refine hK _ _ (h v' w' ?_ (growsBel hown hbase h3))
  unfold OwnS
  rw [List.length_append, cellsS_app]
  exact h2

def RDecPost (w : World) (bs : List Nat) (e : Ending) (w' : World) : Prop :=
  Below w.heap.size w w' ∧ ((∃ A c xs, e = .returned (.tuple #[.slice A xs.length c, .bool true]) ∧ RdS w' A xs ∧ Okl xs ∧ encI xs = bs) ∨ (∃ v, e = .returned (.tuple #[v, .bool false]) ∧ ∀ xs, Okl xs → encI xs ≠ bs))

set_option maxRecDepth 100000 in
set_option maxHeartbeats 3200000 in
theorem RDecode_unsealed (A : Option Addr) (c : Nat) (bs : List Nat) (w : World) (ha : RdB w A bs) (hcap : bs.length ≤ c) (hb : Byt bs) (hm : bs.length ≤ 8000) (hno : ∀ ps, sealL ps ≠ bs) :
    Calls Try.prog 24 #[.slice A bs.length c] w fun e w' => RDecPost w bs e w' := by
  have HU := Lib.hid (RUnseal_no A c bs w ha hb (by omega) hcap hno)
  have HNO : Hid (∀ xs, Okl xs → encI xs ≠ bs) := Lib.hid fun xs _ => enc_none (ps := []) hno xs
  obtain ⟨n, hn⟩ : ∃ n, n = bs.length := ⟨_, rfl⟩
  rw [← hn] at HU ⊢
  clear ha hb hno hn hm hcap
  go_enter Try.func24, Try.ntmps24
  go_wp2_with fail
  refine HU.out.mono ?_
  rintro e w1 ⟨v, rfl, hb1⟩
  have HB1 := Lib.hid hb1
  clear hb1 HU
  go_wp2
  go_ret2
  exact ⟨HB1.out, .inr ⟨_, rfl, HNO.out⟩⟩
theorem RdB.cutIf {w : World} {b o c m : Nat} {xs ys : List Nat} (h : RdB w (some ⟨b, o, none⟩) (xs ++ ys)) (hm : m = xs.length) (hc : (xs ++ ys).length ≤ c) : RdB w (if c = m then some ⟨b, o, none⟩ else some ⟨b, o + m, none⟩) ys := by
  subst hm
  split
  · intro hl
    simp at hc
    omega
  · exact h.cut

set_option maxRecDepth 100000 in
set_option maxHeartbeats 12800000 in
theorem RDecode_sealed (A : Option Addr) (c : Nat) (ps : List Nat) (w : World) (ha : RdB w A (sealL ps)) (hcap : ps.length + 4 ≤ c) (hb : Byt (sealL ps)) (hm : ps.length ≤ 8000) :
    Calls Try.prog 24 #[.slice A (ps.length + 4) c] w fun e w' => RDecPost w (sealL ps) e w' := by
  have hbp : Byt ps := by unfold sealL at hb; exact (Byt.app.1 hb).1
  have HU := Lib.hid (RUnseal_ok A c ps w ha hbp (by omega) hcap)
  have HBP := Lib.hid hbp
  obtain ⟨n, hn⟩ : ∃ n, n = ps.length := ⟨_, rfl⟩
  rw [← hn] at HU hm hcap ⊢
  have HN := Lib.hid hn
  clear ha hb hbp hn
  go_enter Try.func24, Try.ntmps24
  go_wp2_with fail
  refine HU.out.mono ?_
  rintro e w1 ⟨v1, rfl, ho1, hb1⟩
  obtain ⟨A1, c1, rfl, hr1, hAn1, hcap1, _⟩ := ho1.rd
  have HB1 := Lib.hid hb1
  have HR1 := Lib.hid hr1
  have HTK := fun r hr => Take_any A1 c1 ps w1 hr1 HBP.out (by rw [← HN.out]; omega) r hr
  rw [← HN.out] at HTK hcap1 ⊢
  clear ho1 hr1 hAn1 hb1 HU
  rcases take_cases ps HBP.out with ⟨u, rest, eps, hu, ht⟩ | ⟨er, he, ht, hno⟩
  · have HT := Lib.hid (HTK _ ht)
    obtain ⟨m1, hm1⟩ : ∃ m1, m1 = (uv u).length := ⟨_, rfl⟩
    rw [← hm1] at HT
    have hlen : m1 + rest.length = n := by rw [HN.out, eps, List.length_append, hm1]
    have HM1 := Lib.hid hm1
    have HEPS := Lib.hid eps
    have HXS : Hid (∀ xs, Okl xs → encI xs = sealL ps → xs.length = u ∧ rest = encN (flatP xs)) := Lib.hid fun xs hx e => by
      rw [encI_eq] at e
      have e2 := seal_inj e
      rw [HEPS.out, encN_cons] at e2
      exact uv_inj (by have := hx.l; omega) hu e2 |>.imp_right Eq.symm
    clear HTK hm1 eps ht
    by_cases hbig : u ≤ 4096
    · have hnb : ¬ (4096 : Int) < (u : Int) := by omega
      have s1 : (0 : Int) ≤ (m1 : Int) := by omega
      have s2 : (m1 : Int) ≤ (n : Int) := by omega
      have s3 : (n : Int) ≤ (c1 : Int) := by omega
      obtain ⟨b1, o1, rfl, _⟩ := HR1.out (by rw [← HN.out, HN.out, HEPS.out, List.length_append]; have := uv_pos u; omega)
      have HRR : Hid (RdB w1 (if c1 = m1 then some ⟨b1, o1, none⟩ else some ⟨b1, o1 + m1, none⟩) rest) := Lib.hid (by have h9 := HR1.out; rw [HEPS.out] at h9; exact h9.cutIf HM1.out (by rw [← HEPS.out, ← HN.out]; exact hcap1))
      have HBR : Hid (Byt rest) := Lib.hid (by have h9 := HBP.out; rw [HEPS.out] at h9; exact (Byt.app.1 h9).2)
      have q1 : n - m1 = rest.length := by omega
      have HQ1 := Lib.hid q1
      have hq2 : n - m1 ≤ c1 - m1 := by omega
      have hq3 : n - m1 ≤ 8000 := by omega
      have hs1 : w.heap.size ≤ w1.heap.size := HB1.out.size
      have hcases : ∃ (X : Option Addr) (x y : Nat), Hid (RdB w1 X rest) ∧ Hid (x = rest.length) ∧ x ≤ y ∧ x ≤ 8000 ∧ ((m1 = c1 ∧ X = some ⟨b1, o1, none⟩ ∧ x = 0 ∧ y = 0) ∨ (¬ c1 = m1 ∧ X = some ⟨b1, o1 + m1, none⟩ ∧ x = n - m1 ∧ y = c1 - m1)) := by
        have h9 := HRR.out
        by_cases hcm : c1 = m1
        · rw [if_pos hcm] at h9
          exact ⟨_, 0, 0, Lib.hid h9, Lib.hid (by have := HQ1.out; omega), by omega, by omega, .inl ⟨hcm.symm, rfl, rfl, rfl⟩⟩
        · rw [if_neg hcm] at h9
          exact ⟨_, n - m1, c1 - m1, Lib.hid h9, HQ1, by omega, by omega, .inr ⟨hcm, rfl, rfl, rfl⟩⟩
      clear q1 hlen hu HRR HQ1 hq2 hq3
      obtain ⟨X, x0, y0, HRR, HQ1, hq2, hq3, hcs⟩ := hcases
      rcases hcs with ⟨rfl, rfl, rfl, rfl⟩ | ⟨hcm, rfl, rfl, rfl⟩
      all_goals
        go_wp2_with fail
        refine HT.out.mono ?_
        rintro e w2 ⟨rfl, rfl⟩
        clear HT
        go_wp2
        go_loopw [4, 9, 10] (fun p l s wr => ∃ (A' : Option Addr) (c' q t : Nat) (D rem : List Nat), p = .slice A' q c' ∧ s = .int .u64 t ∧ t ≤ u ∧ q ≤ c' ∧ q ≤ 8000 ∧ Hid (q = rem.length) ∧ Hid (RdB w2 A' rem) ∧ Hid (Byt rem) ∧ Hid (OwnS wr w2.heap.size l (prs D)) ∧ Hid (D.length = 2 * t) ∧ Hid (∀ x ∈ D, x < 18446744073709551616) ∧ Hid (rest = encN D ++ rem) ∧ Hid (Below w2.heap.size w2 wr)) (fun _ _ s _ => u - (intOf s).toNat)
        case atStart => exact ⟨_, _, _, 0, [], rest, rfl, rfl, by omega, hq2, hq3, HQ1, HRR, HBR, Lib.hid (OwnS.nil _ _), Lib.hid rfl, Lib.hid (fun x hx => by simp at hx), Lib.hid rfl, Lib.hid (Below.refl _ _)⟩
        case round =>
          obtain ⟨A', c', q, t, D, rem, rfl, rfl, htu, hqc, hq8, HQ, HRD, HBY, HOS, HDL, HDS, HEQ, HBE⟩ := hrel
          have HPL : Hid ((prs D).length = t) := Lib.hid (prs_len t D HDL.out)
          by_cases hlt : t < u
          · have HNX : Hid (∀ xs, Okl xs → encI xs = sealL ps → ∃ x L', rem = uv x ++ encN L' ∧ x ≤ 2147483647 ∧ (∀ y ∈ L', y ≤ 2147483647) ∧ 0 < L'.length) := Lib.hid fun xs hx e => by
              obtain ⟨e1, e2⟩ := HXS.out xs hx e
              have hsm := flat_small xs hx.v hx.e
              rw [HEQ.out] at e2
              obtain ⟨L', e3, e4⟩ := encN_split D (flatP xs) rem HDS.out hsm.lt e2.symm
              have hl := congrArg List.length e3
              rw [flatP_len, List.length_append, HDL.out, e1] at hl
              cases L' with
              | nil => simp at hl; omega
              | cons x L' => exact ⟨x, L', by rw [e4, encN_cons], hsm x (by rw [e3]; simp), fun y hy => hsm y (by rw [e3]; simp [hy]), by simp at hl; omega⟩
            have HTK2 := fun r hr => Take_any A' c' rem wr (HRD.out.below HBE.out) HBY.out (by rw [← HQ.out]; omega) r hr
            rw [← HQ.out] at HTK2
            rcases take_cases rem HBY.out with ⟨x, rem1, erem, hx, ht⟩ | ⟨er, he, ht, hno⟩
            · have HT := Lib.hid (HTK2 _ ht)
              obtain ⟨k1, hk1⟩ : ∃ k1, k1 = (uv x).length := ⟨_, rfl⟩
              rw [← hk1] at HT
              have hl1 : k1 + rem1.length = q := by rw [HQ.out, erem, List.length_append, hk1]
              have hk1p : 0 < k1 := by rw [hk1]; exact uv_pos x
              obtain ⟨b, o, rfl, _⟩ := HRD.out (by rw [← HQ.out]; omega)
              have hr1 : RdB w2 (if c' = k1 then some ⟨b, o, none⟩ else some ⟨b, o + k1, none⟩) rem1 := by have h9 := HRD.out; rw [erem] at h9; exact h9.cutIf hk1 (by rw [← erem, ← HQ.out]; exact hqc)
              have hby1 : Byt rem1 := by have h9 := HBY.out; rw [erem] at h9; exact (Byt.app.1 h9).2
              have HTK3 := fun r hr => Take_any (if c' = k1 then some ⟨b, o, none⟩ else some ⟨b, o + k1, none⟩) (c' - k1) rem1 wr (hr1.below HBE.out) hby1 (by omega) r hr
              have er1 : rem1.length = q - k1 := by omega
              rw [er1] at HTK3
              have s1 : (0 : Int) ≤ (k1 : Int) := by omega
              have s2 : (k1 : Int) ≤ (q : Int) := by omega
              have s3 : (q : Int) ≤ (c' : Int) := by omega
              have HK1 := Lib.hid hk1
              have HEM := Lib.hid erem
              clear HTK2 ht hk1
              rcases take_cases rem1 hby1 with ⟨y, rem2, erem1, hy, ht⟩ | ⟨er, he, ht, hno⟩
              · have h2p : 0 < (uv y).length := uv_pos y
                have gck : ¬ c' = k1 := by have := congrArg List.length erem1; rw [List.length_append] at this; omega
                have HT3 := Lib.hid (HTK3 _ ht)
                rw [if_neg gck] at HT3
                obtain ⟨k2, hk2⟩ : ∃ k2, k2 = (uv y).length := ⟨_, rfl⟩
                rw [← hk2] at HT3
                have HEM2 : Hid (rem = (uv x ++ uv y) ++ rem2) := Lib.hid (by rw [HEM.out, erem1, List.append_assoc])
                have hl2 : (k1 + k2) + rem2.length = q := by rw [HQ.out, HEM2.out, List.length_append, List.length_append, hk2, HK1.out]
                have hkk : k1 + k2 = (uv x ++ uv y).length := by rw [List.length_append, hk2, HK1.out]
                by_cases hsm : x ≤ 2147483648 ∧ y ≤ 2147483648
                · have b1 : ¬ (2147483648 : Int) < (x : Int) := by omega
                  have b2 : ¬ (2147483648 : Int) < (y : Int) := by omega
                  have b3 : (x : Int) ≤ 2147483648 := by omega
                  have b4 : (y : Int) ≤ 2147483648 := by omega
                  have s4 : (k1 : Int) + (k2 : Int) ≤ (q : Int) := by omega
                  have s5 : (0 : Int) ≤ (k2 : Int) := by omega
                  have HR2 : Hid (RdB w2 (if c' = k1 + k2 then some ⟨b, o, none⟩ else some ⟨b, o + (k1 + k2), none⟩) rem2) := Lib.hid (by have h9 := HRD.out; rw [HEM2.out] at h9; exact h9.cutIf hkk (by rw [← HEM2.out, ← HQ.out]; exact hqc))
                  have HB2 : Hid (Byt rem2) := Lib.hid (by rw [erem1] at hby1; exact (Byt.app.1 hby1).2)
                  have HQ2 : Hid (q - (k1 + k2) = rem2.length) := Lib.hid (by omega)
                  have hqc2 : q - (k1 + k2) ≤ c' - (k1 + k2) := by omega
                  have HPR : Hid (prs (D ++ [x, y]) = prs D ++ [((x : Int), (x : Int) + (y : Int) + 1)]) := Lib.hid (prs_snoc x y t D HDL.out)
                  have HDS2 : Hid (∀ z ∈ D ++ [x, y], z < 18446744073709551616) := Lib.hid fun z hz => by
                    rcases List.mem_append.1 hz with h | h
                    · exact HDS.out z h
                    · simp at h; omega
                  have HL1 : Hid ((prs D).length ≤ 1000000) := Lib.hid (by rw [HPL.out]; omega)
                  have hsz := HBE.out.size
                  have HBX := Lib.hid (fun o : Obj => bb_alloc HBE.out o hsz)
                  have hcases : ∃ (X : Option Addr) (x0 y0 : Nat), Hid (RdB w2 X rem2) ∧ Hid (x0 = rem2.length) ∧ x0 ≤ y0 ∧ x0 ≤ 8000 ∧ ((c' = k1 + k2 ∧ X = some ⟨b, o, none⟩ ∧ x0 = 0 ∧ y0 = 0) ∨ (¬ c' = k1 + k2 ∧ X = some ⟨b, o + (k1 + k2), none⟩ ∧ x0 = q - (k1 + k2) ∧ y0 = c' - (k1 + k2))) := by
                    have h9 := HR2.out
                    by_cases hcm : c' = k1 + k2
                    · rw [if_pos hcm] at h9
                      exact ⟨_, 0, 0, Lib.hid h9, Lib.hid (by have := HQ2.out; omega), by omega, by omega, .inl ⟨hcm, rfl, rfl, rfl⟩⟩
                    · rw [if_neg hcm] at h9
                      exact ⟨_, q - (k1 + k2), c' - (k1 + k2), Lib.hid h9, HQ2, by omega, by omega, .inr ⟨hcm, rfl, rfl, rfl⟩⟩
                  obtain ⟨X, x0, y0, HRX, HQX, hq2', hq3', hcs⟩ := hcases
                  clear ht hk2 hl2 hkk hsm hr1 hby1 HTK3 hx hy erem1 erem er1 hl1 HR2 HQ2 hqc2
                  rcases hcs with ⟨rfl, rfl, rfl, rfl⟩ | ⟨hcm2, rfl, rfl, rfl⟩
                  · rw [show k1 + k2 - k1 = k2 by omega] at HT3
                    go_wp2_with fail
                    refine HT.out.mono ?_
                    rintro e w3 ⟨rfl, rfl⟩
                    clear HT
                    go_wp2_with fail
                    refine HT3.out.mono ?_
                    rintro e w4 ⟨rfl, rfl⟩
                    clear HT3
                    go_wp2_with (at_builtin; refine wpList_appS (.tmp 74) (.tmp 83) w2.heap.size _ (prs D) w4.heap.size 1 (x : Int) ((x : Int) + (y : Int) + 1) rfl rfl (by rfl) (HOS.out.below (bel_alloc (Below.refl _ _) _)) (by rfl) (sb_cells (heap_alloc_new w4 (SB (x : Int) ((x : Int) + (y : Int) + 1)))) HL1.out (HBX.out _).size ?_; intro v5 w5 ho5 hb5; have HO5 := Lib.hid ho5; have HB5 : Hid (Below w2.heap.size w2 w5) := Lib.hid ((HBX.out _).trans hb5); clear ho5 hb5)
                    go_roundw
                    case measure => simp [intOf]; omega
                    case rel => exact ⟨_, _, _, t + 1, D ++ [x, y], rem2, rfl, by go_num, by omega, hq2', hq3', HQX, HRX, HB2, Lib.hid (by rw [HPR.out]; exact HO5.out), Lib.hid (by rw [List.length_append, HDL.out]; simp; omega), HDS2, Lib.hid (by rw [HEQ.out, HEM2.out, encN_app, encN_cons, encN_cons, encN_nil]; simp), HB5⟩
                  · go_wp2_with fail
                    refine HT.out.mono ?_
                    rintro e w3 ⟨rfl, rfl⟩
                    clear HT
                    go_wp2_with fail
                    refine HT3.out.mono ?_
                    rintro e w4 ⟨rfl, rfl⟩
                    clear HT3
                    go_wp2_with (at_builtin; refine wpList_appS (.tmp 74) (.tmp 83) w2.heap.size _ (prs D) w4.heap.size 1 (x : Int) ((x : Int) + (y : Int) + 1) rfl rfl (by rfl) (HOS.out.below (bel_alloc (Below.refl _ _) _)) (by rfl) (sb_cells (heap_alloc_new w4 (SB (x : Int) ((x : Int) + (y : Int) + 1)))) HL1.out (HBX.out _).size ?_; intro v5 w5 ho5 hb5; have HO5 := Lib.hid ho5; have HB5 : Hid (Below w2.heap.size w2 w5) := Lib.hid ((HBX.out _).trans hb5); clear ho5 hb5)
                    go_roundw
                    case measure => simp [intOf]; omega
                    case rel => exact ⟨_, _, _, t + 1, D ++ [x, y], rem2, rfl, by go_num, by omega, hq2', hq3', HQX, HRX, HB2, Lib.hid (by rw [HPR.out]; exact HO5.out), Lib.hid (by rw [List.length_append, HDL.out]; simp; omega), HDS2, Lib.hid (by rw [HEQ.out, HEM2.out, encN_app, encN_cons, encN_cons, encN_nil]; simp), HB5⟩
                · have HNO : Hid (∀ xs, Okl xs → encI xs ≠ sealL ps) := Lib.hid fun xs hx2 e => by
                    obtain ⟨x', L', e1, e2, e3, e4⟩ := HNX.out xs hx2 e
                    rw [HEM.out] at e1
                    obtain ⟨rfl, e5⟩ := uv_inj hx (by omega) e1
                    cases L' with
                    | nil => simp at e4
                    | cons y' L' =>
                      rw [erem1, encN_cons] at e5
                      have hy' := e3 y' (by simp)
                      obtain ⟨rfl, _⟩ := uv_inj hy (by omega) e5
                      omega
                  clear ht hk2 hl2 hkk hr1 hby1 HTK3 erem1 erem er1 hl1
                  by_cases hxb : x ≤ 2147483648
                  · have b1 : ¬ (2147483648 : Int) < (x : Int) := by omega
                    have b2 : (2147483648 : Int) < (y : Int) := by omega
                    clear hsm hx hy
                    go_wp2_with fail
                    refine HT.out.mono ?_
                    rintro e w3 ⟨rfl, rfl⟩
                    clear HT
                    go_wp2_with fail
                    refine HT3.out.mono ?_
                    rintro e w4 ⟨rfl, rfl⟩
                    clear HT3
                    go_wp2
                    go_ret2
                    exact ⟨HB1.out.trans (HBE.out.mono hs1), .inr ⟨_, rfl, HNO.out⟩⟩
                  · have b1 : (2147483648 : Int) < (x : Int) := by omega
                    clear hsm hx hy
                    go_wp2_with fail
                    refine HT.out.mono ?_
                    rintro e w3 ⟨rfl, rfl⟩
                    clear HT
                    go_wp2_with fail
                    refine HT3.out.mono ?_
                    rintro e w4 ⟨rfl, rfl⟩
                    clear HT3
                    go_wp2
                    go_ret2
                    exact ⟨HB1.out.trans (HBE.out.mono hs1), .inr ⟨_, rfl, HNO.out⟩⟩
              · have HNO : Hid (∀ xs, Okl xs → encI xs ≠ sealL ps) := Lib.hid fun xs hx2 e => by
                  obtain ⟨x', L', e1, e2, e3, e4⟩ := HNX.out xs hx2 e
                  rw [HEM.out] at e1
                  obtain ⟨rfl, e5⟩ := uv_inj hx (by omega) e1
                  cases L' with
                  | nil => simp at e4
                  | cons y' L' =>
                    rw [encN_cons] at e5
                    exact hno y' _ (by have := e3 y' (by simp); omega) e5
                by_cases hck : c' = k1
                · have e10 : rem1 = [] := List.eq_nil_of_length_eq_zero (by omega)
                  have HT3 := Lib.hid (Take_any (some ⟨b, o, none⟩) 0 [] wr (fun h => by simp at h) (fun x hx => by simp at hx) (by simp) (0, 0, 10) rfl)
                  clear ht hno hr1 hby1 HTK3 hx erem he er1 hl1 e10
                  subst hck
                  go_wp2_with fail
                  refine HT.out.mono ?_
                  rintro e w3 ⟨rfl, rfl⟩
                  clear HT
                  go_wp2_with fail
                  refine HT3.out.mono ?_
                  rintro e w4 ⟨rfl, rfl⟩
                  clear HT3
                  go_wp2
                  go_ret2
                  exact ⟨HB1.out.trans (HBE.out.mono hs1), .inr ⟨_, rfl, HNO.out⟩⟩
                · have HT3 := Lib.hid (HTK3 _ ht)
                  rw [if_neg hck] at HT3
                  clear ht hno hr1 hby1 HTK3 hx erem er1 hl1
                  rcases he with rfl | rfl
                  all_goals
                    go_wp2_with fail
                    refine HT.out.mono ?_
                    rintro e w3 ⟨rfl, rfl⟩
                    clear HT
                    go_wp2_with fail
                    refine HT3.out.mono ?_
                    rintro e w4 ⟨rfl, rfl⟩
                    clear HT3
                    go_wp2
                    go_ret2
                    exact ⟨HB1.out.trans (HBE.out.mono hs1), .inr ⟨_, rfl, HNO.out⟩⟩
            · have HT := Lib.hid (HTK2 _ ht)
              have HNO : Hid (∀ xs, Okl xs → encI xs ≠ sealL ps) := Lib.hid fun xs hx2 e => by
                obtain ⟨x', L', e1, e2, _⟩ := HNX.out xs hx2 e
                exact hno x' _ (by omega) e1
              clear ht hno HTK2
              rcases he with rfl | rfl
              all_goals
                go_wp2_with fail
                refine HT.out.mono ?_
                rintro e w3 ⟨rfl, rfl⟩
                clear HT
                go_wp2
                go_ret2
                exact ⟨HB1.out.trans (HBE.out.mono hs1), .inr ⟨_, rfl, HNO.out⟩⟩
          · have hge : ¬ (t : Int) < (u : Int) := by omega
            obtain ⟨A3, c3, rfl, hrs, hAn3⟩ := HOS.out.rd
            have HRS := Lib.hid hrs
            have HBT : Hid (Below w.heap.size w wr) := Lib.hid (HB1.out.trans (HBE.out.mono hs1))
            have etu : t = u := by omega
            have HCH := Lib.hid (Check12_any A3 c3 (prs D) wr hrs (by rw [HPL.out]; omega))
            have HDE : Hid (∀ xs, Okl xs → encI xs = sealL ps → rem = [] ∧ xs = prs D) := Lib.hid fun xs hx e => by
              obtain ⟨e1, e2⟩ := HXS.out xs hx e
              rw [HEQ.out] at e2
              obtain ⟨L', e3, e4⟩ := encN_split D (flatP xs) rem HDS.out (flat_small xs hx.v hx.e).lt e2.symm
              have hl := congrArg List.length e3
              rw [flatP_len, List.length_append, HDL.out, e1, etu] at hl
              obtain rfl : L' = [] := List.eq_nil_of_length_eq_zero (by omega)
              rw [List.append_nil] at e3
              exact ⟨e4, by rw [← e3, prs_flat xs hx.v]⟩
            have HEN : Hid (rem = [] → encI (prs D) = sealL ps) := Lib.hid fun h => by
              rw [encI_eq, flat_prs t D HDL.out, HPL.out, etu, encN_cons, HEPS.out, HEQ.out, h, List.append_nil]
            rw [HPL.out] at HCH ⊢
            clear hrs hAn3 etu
            by_cases hq0 : q = 0
            · have hrem : rem = [] := List.eq_nil_of_length_eq_zero (by rw [← HQ.out]; exact hq0)
              have tq : ((q : Int) == 0) = true := by rw [beq_iff_eq]; omega
              by_cases hok : (prs D).all okV = true ∧ (prs D).all okE = true
              · have HOKL : Hid (Okl (prs D)) := Lib.hid ⟨by rw [HPL.out]; omega, hok.1, hok.2⟩
                rw [chk_ok HOKL.out] at HCH
                have HFN := Lib.hid (HEN.out hrem)
                clear hq0 hok hrem
                go_wp2_with fail
                refine HCH.out.mono ?_
                rintro e w3 ⟨rfl, hb3⟩
                have HRS3 := Lib.hid (HRS.out.below hb3)
                have HB3 := Lib.hid (HBT.out.trans (hb3.mono HBT.out.size))
                clear hb3
                go_wp2
                go_ret2
                exact ⟨HB3.out, .inl ⟨A3, c3, prs D, by rw [HPL.out]; rfl, HRS3.out, HOKL.out, HFN.out⟩⟩
              · rw [chk_bad (by rw [HPL.out]; omega) hok] at HCH
                have HNO : Hid (∀ xs, Okl xs → encI xs ≠ sealL ps) := Lib.hid fun xs hx e => hok (by rw [← (HDE.out xs hx e).2]; exact ⟨hx.v, hx.e⟩)
                clear hq0 hok hrem
                go_wp2_with fail
                refine HCH.out.mono ?_
                rintro e w3 ⟨rfl, hb3⟩
                have HB3 := Lib.hid (HBT.out.trans (hb3.mono HBT.out.size))
                clear hb3
                go_wp2
                go_ret2
                exact ⟨HB3.out, .inr ⟨_, rfl, HNO.out⟩⟩
            · have tq : ((q : Int) == 0) = false := by rw [beq_eq_false_iff_ne]; omega
              have HNO : Hid (∀ xs, Okl xs → encI xs ≠ sealL ps) := Lib.hid fun xs hx e => hq0 (by rw [HQ.out, (HDE.out xs hx e).1]; rfl)
              clear hq0
              go_wp2
              go_ret2
              exact ⟨HBT.out, .inr ⟨_, rfl, HNO.out⟩⟩
    · have hnb : (4096 : Int) < (u : Int) := by omega
      have HNO : Hid (∀ xs, Okl xs → encI xs ≠ sealL ps) := Lib.hid fun xs hx e => by
        have := (HXS.out xs hx e).1
        have := hx.l
        omega
      clear hu
      go_wp2_with fail
      refine HT.out.mono ?_
      rintro e w2 ⟨rfl, rfl⟩
      clear HT
      go_wp2
      go_ret2
      exact ⟨HB1.out, .inr ⟨_, rfl, HNO.out⟩⟩
  · have HT := Lib.hid (HTK _ ht)
    have HNO : Hid (∀ xs, Okl xs → encI xs ≠ sealL ps) := Lib.hid fun xs hx e => by
      rw [encI_eq] at e
      have e2 := seal_inj e
      rw [encN_cons] at e2
      exact hno xs.length _ (by have := hx.l; omega) e2.symm
    clear HTK ht hno
    rcases he with rfl | rfl
    all_goals
      go_wp2_with fail
      refine HT.out.mono ?_
      rintro e w2 ⟨rfl, rfl⟩
      clear HT
      go_wp2
      go_ret2
      exact ⟨HB1.out, .inr ⟨_, rfl, HNO.out⟩⟩
end Go.Proofs.Ytlpdligkjihkeaa.Tb
