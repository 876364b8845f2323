/- stab.Decode, walked. -/
import Derived.Test.YtlpdligkjihkeaaWd
import Derived.Maps.AppendAt
import Derived.Deep.RegionHeld3
set_option linter.unusedVariables false
set_option linter.unusedSimpArgs false
namespace Go.Proofs.Ytlpdligkjihkeaa.Tb
open Go.RowKit

def OwnS (w : World) (base : Nat) (v : Value) (ys : List (Int × Int)) : Prop := w.ownsRow base 35 2 v ys.length (cellsS ys)
theorem OwnS.nil (w : World) (base : Nat) : OwnS w base (.slice none 0 0) [] := World.ownsRow_nil _ _ _ _
theorem OwnS.below {w w' : World} {base : Nat} {v : Value} {ys : List (Int × Int)} (h : OwnS w base v ys) (hb : Below w.heap.size w w') : OwnS w' base v ys := ownsBelow h hb
theorem OwnS.rd {w : World} {base : Nat} {v : Value} {ys : List (Int × Int)} (h : OwnS w base v ys) : ∃ A c, v = .slice A ys.length c ∧ RdS w A ys ∧ (A = none → ys.length = 0 ∧ c = 0) := by
  obtain ⟨A, c, rfl⟩ := own_shape h
  refine ⟨A, c, rfl, (own_rdS h).2, fun hA => ?_⟩
  subst hA
  rcases h.2 with ⟨e, e2⟩ | ⟨g, cap, cur, e, _⟩
  · injection e with _ e3 e4
    exact ⟨e3, e4⟩
  · cases e
theorem cellsS_app (ys : List (Int × Int)) (p q : Int) : cellsS (ys ++ [(p, q)]) = cellsS ys ++ [.int .i64 p, .int .i64 q] := by
  induction ys with
  | nil => rfl
  | cons y ys ih => simp only [List.cons_append, cellsS, ih]
theorem step_appS {w : World} {ops : Array Oper} {o : Oper} {a : Act} {K : Act → World → Prop} {Q : Exit → Act → World → Prop} {E : Prop} (s x : Operand) (base : Nat) (v : Value) (ys : List (Int × Int)) (g c : Nat) (p q : Int) (hgd : o.guard = none)
    (ho : o.op = .call { callee := .builtin .append, args := #[s, x], argTypes := #[22, 22] })
    (hs : a.eval s = v) (hown : OwnS w base v ys) (hx : a.eval x = .slice (some ⟨g, 0, none⟩) 1 c) (hr : w.cell? ⟨g, 0, none⟩ = some (.int .i64 p) ∧ w.cell? ⟨g, 1, none⟩ = some (.int .i64 q)) (hm : ys.length ≤ 1000000) (hbase : base ≤ w.heap.size)
    (h : ∀ v' w', OwnS w' base v' (ys ++ [(p, q)]) → w.grownBy w' v.ownBlock → Below base w w' → K (a.put o.dst v') w') :
    if Region.wanted o (yielded ops a.tmps) = true then Oper.wp Try.prog o a w K Q else E := by
  have hw : Region.wanted o (yielded ops a.tmps) = true := by simp [Region.wanted, hgd]
  rw [if_pos hw]
  obtain ⟨i0, hi0, hz0, hz1, hz2⟩ := info_parts infoS
  obtain ⟨v', w', hrun, h2, h3, _, h5⟩ := run_append_own_at (P := Try.prog) w base 22 o.type 35 i0 _ 2 16 Try.underlying22 hi0 hz0 hz1 hz2 rfl (by omega) v ys.length (cellsS ys) hown ⟨g, 0, none⟩ 1 c [.int .i64 p, .int .i64 q] rfl (fun j u hu => by
    rw [addr_add, Nat.zero_add]
    have hj : j < 2 := by have := (List.getElem?_eq_some_iff.1 hu).1; simpa using this
    rcases (show j = 0 ∨ j = 1 by omega) with rfl | rfl
    · simp at hu; subst hu; exact hr.1
    · simp at hu; subst hu; exact hr.2) (by simp [Value.oneCell']) (by simp only [maxLen]; omega) (by omega) hbase
  unfold Oper.wp execOp
  simp only [ho, resolve, invoke, builtin, Sem.run_bind, Sem.run_pure, Result.andThen_ok, List.map_toArray, List.map_cons, List.map_nil, hs, hx, hrun]
  refine h v' w' ?_ h3 (growsBel hown hbase h3)
  unfold OwnS
  rw [List.length_append, cellsS_app]
  exact h2

def DecPost (w : World) (bs : List Nat) (e : Ending) (w' : World) : Prop :=
  Below w.heap.size w w' ∧ ((∃ p xs, e = .returned (.tuple #[.pointer (some ⟨p, 0, none⟩), .int .i64 0]) ∧ Idx w' p xs ∧ Okl xs ∧ encI xs = bs) ∨ (e = .returned (.tuple #[.pointer none, .int .i64 9]) ∧ ∀ xs, Okl xs → encI xs ≠ bs))

set_option maxRecDepth 100000 in
set_option maxHeartbeats 3200000 in
theorem Decode_unsealed (A : Option Addr) (c : Nat) (bs : List Nat) (w : World) (ha : RdB w A bs) (hcap : bs.length ≤ c) (hb : Byt bs) (hm : bs.length ≤ 8000) (hno : ∀ ps, sealL ps ≠ bs) :
    Calls Try.prog 22 #[.slice A bs.length c] w fun e w' => DecPost w bs e w' := by
  have HU := Lib.hid (Unseal_no A c bs w ha hb (by omega) hcap hno)
  have HNO : Hid (∀ xs, Okl xs → encI xs ≠ bs) := Lib.hid fun xs _ => enc_none (ps := []) hno xs
  obtain ⟨n, hn⟩ : ∃ n, n = bs.length := ⟨_, rfl⟩
  rw [← hn] at HU ⊢
  clear ha hb hno hn hm hcap
  go_enter Try.func22, Try.ntmps22
  go_wp2_with fail
  refine HU.out.mono ?_
  rintro e w1 ⟨k, hk, rfl, hb1⟩
  have HB1 := Lib.hid hb1
  clear hb1 HU
  rcases hk with rfl | rfl
  all_goals
    go_wp2
    go_ret2
    exact ⟨HB1.out, .inr ⟨rfl, HNO.out⟩⟩

set_option maxRecDepth 100000 in
set_option maxHeartbeats 12800000 in
theorem Decode_sealed (A : Option Addr) (c : Nat) (ps : List Nat) (w : World) (ha : RdB w A (sealL ps)) (hcap : ps.length + 4 ≤ c) (hb : Byt (sealL ps)) (hm : ps.length ≤ 8000) :
    Calls Try.prog 22 #[.slice A (ps.length + 4) c] w fun e w' => DecPost w (sealL ps) e w' := by
  have hbp : Byt ps := by unfold sealL at hb; exact (Byt.app.1 hb).1
  have HU := Lib.hid (Unseal_ok A c ps w ha hbp (by omega) hcap)
  have HA := Lib.hid ha
  have HB := Lib.hid hb
  have HBP := Lib.hid hbp
  have HBSL : Hid (∀ n, n = ps.length → (sealL ps).length = n + 4) := Lib.hid fun n h => by rw [sealL_len, h]
  obtain ⟨n, hn⟩ : ∃ n, n = ps.length := ⟨_, rfl⟩
  rw [← hn] at HU hm hcap ⊢
  have HN := Lib.hid hn
  clear ha hb hbp hn
  go_enter Try.func22, Try.ntmps22
  go_wp2_with fail
  refine HU.out.mono ?_
  rintro e w1 ⟨v1, rfl, ho1, hb1⟩
  obtain ⟨A1, c1, rfl, hr1, hAn1, hcap1, _⟩ := ho1.rd
  have HB1 := Lib.hid hb1
  have HNU := Lib.hid (numbers_any A1 c1 ps w1 hr1 hcap1 HBP.out (by rw [← HN.out]; omega))
  rw [← HN.out] at HNU ⊢
  clear ho1 hr1 hAn1 hcap1 hb1 HU
  go_wp2_with fail
  refine HNU.out.mono ?_
  rintro e w2 ⟨hb2, ⟨v2, L, rfl, ho2, hsm, hps, hlen⟩ | ⟨rfl, hno⟩⟩
  · have HB2 := Lib.hid (HB1.out.trans (hb2.mono HB1.out.size))
    obtain ⟨hul, A2, c2, rfl, hr2, hAn2, hc2, _⟩ := own_rd ho2
    obtain ⟨l, hl⟩ : ∃ l, l = L.length := ⟨_, rfl⟩
    rw [← hl] at hlen hc2 ⊢
    have hln : l ≤ n := by rw [HN.out]; exact hlen
    have HR2 := Lib.hid hr2
    have HL := Lib.hid hl
    have HSM := Lib.hid hsm
    have HPS := Lib.hid hps
    clear hb2 hul hr2 hAn2 hl hsm hps hlen HNU ho2
    by_cases hodd : l % 2 = 1
    · obtain ⟨n0, M, rfl⟩ : ∃ n0 M, L = n0 :: M := by
        cases L with
        | nil => have := HL.out; simp at this; omega
        | cons n0 M => exact ⟨n0, M, rfl⟩
      obtain ⟨k, hk⟩ : ∃ k, l = 2 * k + 1 := ⟨l / 2, by omega⟩
      have hML : M.length = 2 * k := by have := HL.out; simp at this; omega
      have hev : (((l : Int) % 2) != 1) = false := by rw [bne_eq_false_iff_eq]; omega
      obtain ⟨g2, o2, rfl, hc⟩ := HR2.out (by rw [uvs_len]; simp)
      have HCE : Hid (∀ j, j < l → w2.cell? ⟨g2, o2 + j, none⟩ = some (.int .u64 ((n0 :: M).getD j 0 : Nat))) := Lib.hid fun j hj => hc j _ (by
        rw [HL.out] at hj
        simp only [uvs, List.getElem?_map, List.getElem?_eq_getElem hj, List.getD_eq_getElem?_getD]
        rfl)
      have HMT : Hid (∀ t, t < k → prs (M.take (2 * (t + 1))) = prs (M.take (2 * t)) ++ [(((n0 :: M).getD (1 + 2 * t) 0 : Int), ((n0 :: M).getD (1 + 2 * t) 0 : Int) + ((n0 :: M).getD (1 + 2 * t + 1) 0 : Int) + 1)]) := Lib.hid fun t ht => by
        have e0 : M.take (2 * (t + 1)) = M.take (2 * t) ++ [(n0 :: M).getD (1 + 2 * t) 0, (n0 :: M).getD (1 + 2 * t + 1) 0] := by
          rw [show 2 * (t + 1) = (2 * t + 1) + 1 by omega, take_snoc 0 M (2 * t + 1) (by omega), take_snoc 0 M (2 * t) (by omega), List.append_assoc, show 1 + 2 * t = 2 * t + 1 by omega]
          rfl
        rw [e0, prs_snoc _ _ t _ (by rw [List.length_take]; omega)]
      have HSX : Hid (∀ j, (n0 :: M).getD j 0 ≤ 2147483647) := Lib.hid fun j => by
        rw [List.getD_eq_getElem?_getD]
        cases h : (n0 :: M)[j]? with
        | none => simp
        | some z => exact HSM.out z (List.mem_of_getElem? h)
      have HPL : Hid (∀ t, t ≤ k → (prs (M.take (2 * t))).length = t) := Lib.hid fun t ht => prs_len t _ (by rw [List.length_take]; omega)
      have k1 : l ≤ 2 * k + 1 := by omega
      have k2 : 2 * k + 1 ≤ l := by omega
      have HML := Lib.hid hML
      have hs2 : w.heap.size ≤ w2.heap.size := HB2.out.size
      clear hk hodd hML hc HR2
      go_wp2
      go_loopw [8, 9] (fun v s wr => ∃ i t : Nat, s = .int .i64 i ∧ i ≤ 1 + 2 * t ∧ 1 + 2 * t ≤ i ∧ t ≤ k ∧ Hid (OwnS wr w2.heap.size v (prs (M.take (2 * t)))) ∧ Hid (Below w2.heap.size w2 wr)) (fun _ s _ => l - (intOf s).toNat)
      case atStart => exact ⟨1, 0, rfl, by omega, by omega, by omega, Lib.hid (OwnS.nil _ _), Lib.hid (Below.refl _ _)⟩
      case round =>
        obtain ⟨i, t, rfl, hi1, hi2, htk, HOS, HBW⟩ := hrel
        by_cases hlt : t < k
        · have ei : 1 + 2 * t = i := by omega
          have hmt := HMT.out t hlt
          have hx1 := HSX.out i
          have hx2 := HSX.out (i + 1)
          have q1 := below_cell HBW.out (HCE.out i (by omega))
          have q2 := below_cell HBW.out (HCE.out (i + 1) (by omega))
          rw [ei] at hmt
          obtain ⟨x, hx⟩ : ∃ x, x = (n0 :: M).getD i 0 := ⟨_, rfl⟩
          obtain ⟨y, hy⟩ : ∃ y, y = (n0 :: M).getD (i + 1) 0 := ⟨_, rfl⟩
          have HCE2 : Hid (w2.cell? ⟨g2, o2 + i, none⟩ = some (.int .u64 (x : Int)) ∧ w2.cell? ⟨g2, o2 + (i + 1), none⟩ = some (.int .u64 (y : Int))) := Lib.hid ⟨by rw [hx]; exact HCE.out i (by omega), by rw [hy]; exact HCE.out (i + 1) (by omega)⟩
          rw [← hx] at hmt hx1 q1
          rw [← hy] at hmt hx2 q2
          obtain ⟨z, hz⟩ : ∃ z : Nat, z = x + y := ⟨_, rfl⟩
          obtain ⟨en, hen⟩ : ∃ en : Nat, en = z + 1 := ⟨_, rfl⟩
          have een : (x : Int) + (y : Int) + 1 = (en : Int) := by omega
          rw [een] at hmt
          have HMTt := Lib.hid hmt
          have HL1 : Hid ((prs (M.take (2 * t))).length ≤ 1000000) := Lib.hid (by rw [HPL.out t (by omega)]; omega)
          have HSZ : Hid (w2.heap.size ≤ ((wr.alloc (SB (x : Int) (en : Int))).drew).heap.size) := Lib.hid (Below.size' HBW.out (Nat.le_refl _))
          have K0 : wr.drew.cell? ⟨g2, o2 + i, none⟩ = some (.int .u64 (x : Int)) ∧ wr.drew.cell? ⟨g2, o2 + (i + 1), none⟩ = some (.int .u64 (y : Int)) := ⟨q1, q2⟩
          have KA := fun o : Obj => And.intro (below_cell (bel_alloc (Below.refl wr.heap.size wr) o) q1) (below_cell (bel_alloc (Below.refl wr.heap.size wr) o) q2)
          have g1 : (0 : Int) ≤ (i : Int) := by omega
          have g3 : (i : Int) < (l : Int) := by omega
          have g4 : (i : Int) + 1 < (l : Int) := by omega
          have g5 : (0 : Int) ≤ (i : Int) + 1 := by omega
          have a1 : IntKind.i64.wrap ((i : Int) + 1) = (i : Int) + 1 := wr64 _ (by omega) (by omega)
          have a2 : ((i : Int) + 1).toNat = i + 1 := by omega
          have a3 : IntKind.i64.wrap (x : Int) = (x : Int) := wr64 _ (by omega) (by omega)
          have a4 : IntKind.u64.wrap ((x : Int) + (y : Int)) = (z : Int) := by rw [hz]; exact wru64 _ (by omega) (by omega)
          have a5 : IntKind.i64.wrap (z : Int) = (z : Int) := wr64 _ (by omega) (by omega)
          have a6 : IntKind.i64.wrap ((z : Int) + 1) = (en : Int) := by rw [hen]; exact wr64 _ (by omega) (by omega)
          have HA6 := Lib.hid (And.intro a1 a2)
          clear hmt hx hy een hz hen q1 q2 ei HMT HPL HSX
          go_wp2_with fail
          go_region_held3 (fun w' => w'.cell? ⟨g2, o2 + i, none⟩ = some (.int .u64 (x : Int)) ∧ w'.cell? ⟨g2, o2 + (i + 1), none⟩ = some (.int .u64 (y : Int)))
            (first | (with_reducible exact K1) | (with_reducible exact K0) | exact KA _)
            (first
              | (refine step_appS (.tmp 37) (.tmp 56) w2.heap.size _ (prs (M.take (2 * t))) wr.heap.size 1 (x : Int) (en : Int) rfl rfl (by rfl) (HOS.out.below (bd_drew (bel_alloc (Below.refl _ _) _))) (by rfl) (sb_cells (heap_alloc_new wr (SB (x : Int) (en : Int)))) HL1.out HSZ.out ?_
                 intro v5 w5 ho5 hg5 hb5
                 have HO5 := Lib.hid ho5
                 have HB5 : Hid (Below w2.heap.size w2 w5) := Lib.hid (bel2 HBW.out (Nat.le_refl _) hb5)
                 have K1 := And.intro (below_cell HB5.out HCE2.out.1) (below_cell HB5.out HCE2.out.2)
                 clear ho5 hg5 hb5)
              | fail)
          clear K0 K1 KA a1 a2 a3 a4 a5 a6
          go_wp2
          go_roundw
          case measure => simp [intOf]; omega
          case rel => exact ⟨i + 2, t + 1, by go_num, by omega, by omega, by omega, Lib.hid (by rw [HMTt.out]; exact HO5.out), HB5⟩
        · have hge : ¬ (i : Int) < (l : Int) := by omega
          obtain ⟨A3, c3, rfl, hrs, hAn3⟩ := HOS.out.rd
          have et : t = k := by omega
          have emt : M.take (2 * t) = M := List.take_of_length_le (by rw [HML.out]; omega)
          rw [HPL.out t htk] at hAn3 ⊢
          rw [emt] at hrs
          have HRS := Lib.hid hrs
          have HBT := Lib.hid (HB2.out.trans (HBW.out.mono hs2))
          have HYL : Hid ((prs M).length = t) := Lib.hid (by have := HPL.out t htk; rwa [emt] at this)
          have ht4 : t ≤ 4096 := by omega
          have HUN : Hid (∀ xs, Okl xs → encI xs = sealL ps → prs M = xs) := Lib.hid fun xs hx e => enc_odd HSM.out hx (by rw [← HPS.out]; exact e)
          clear hrs emt et HMT HSX HPL HCE HL HOS hi1 hi2
          by_cases hok : (prs M).all okV = true ∧ (prs M).all okE = true
          · have HOKL : Hid (Okl (prs M)) := Lib.hid ⟨by rw [HYL.out]; exact ht4, hok.1, hok.2⟩
            have HBU := Lib.hid (Build_ok A3 c3 (prs M) wr HRS.out (by rw [HYL.out]; exact hAn3) (by rw [HYL.out]; exact ht4) hok.1 hok.2)
            rw [HYL.out] at HBU
            clear hok
            go_wp2_with fail
            refine HBU.out.mono ?_
            rintro e w4 ⟨p, rfl, hi4, hb4⟩
            have HI4 := Lib.hid hi4
            have HB4 := Lib.hid (HBT.out.trans (hb4.mono HBT.out.size))
            have HEN := Lib.hid (Encode_any (prs M) p w4 HOKL.out.l HOKL.out.v HOKL.out.e hi4)
            clear hi4 hb4 HBU
            go_wp2_with fail
            refine HEN.out.mono ?_
            rintro e w5 ⟨v5, rfl, ho5, hb5⟩
            obtain ⟨A5, c5, rfl, hr5, _⟩ := ho5.rd
            have HI5 := Lib.hid (HI4.out.below hb5)
            have HB5 := Lib.hid (HB4.out.trans (hb5.mono HB4.out.size))
            obtain ⟨m5, hm5⟩ : ∃ m5, m5 = (encI (prs M)).length := ⟨_, rfl⟩
            have HEQ := Lib.hid (Equal_any A5 A c5 c (encI (prs M)) (sealL ps) w5 hr5 (HA.out.below HB5.out) (encI_byt _) HB.out)
            rw [← hm5, HBSL.out n HN.out] at HEQ
            rw [← hm5]
            clear ho5 hr5 hb5 HEN hm5
            by_cases heq : encI (prs M) = sealL ps
            · rw [decide_eq_true heq] at HEQ
              have HQ := Lib.hid heq
              clear heq
              go_wp2_with fail
              refine HEQ.out.mono ?_
              rintro e w6 ⟨rfl, rfl⟩
              go_wp2
              go_ret2
              exact ⟨HB5.out, .inl ⟨p, prs M, rfl, HI5.out, HOKL.out, HQ.out⟩⟩
            · rw [decide_eq_false heq] at HEQ
              have HNO : Hid (∀ xs, Okl xs → encI xs ≠ sealL ps) := Lib.hid fun xs hx e => heq (by rw [HUN.out xs hx e]; exact e)
              clear heq
              go_wp2_with fail
              refine HEQ.out.mono ?_
              rintro e w6 ⟨rfl, rfl⟩
              go_wp2
              go_ret2
              exact ⟨HB5.out, .inr ⟨rfl, HNO.out⟩⟩
          · have HNO : Hid (∀ xs, Okl xs → encI xs ≠ sealL ps) := Lib.hid fun xs hx e => hok (by rw [HUN.out xs hx e]; exact ⟨hx.v, hx.e⟩)
            have HBU := Lib.hid (Build_bad A3 c3 (prs M) wr HRS.out (by rw [HYL.out]; exact ht4) hok)
            rw [HYL.out] at HBU
            clear hok
            go_wp2_with fail
            refine HBU.out.mono ?_
            rintro e w4 ⟨rfl, hb4⟩
            have HB4 := Lib.hid (HBT.out.trans (hb4.mono HBT.out.size))
            clear hb4 HBU
            go_wp2
            go_ret2
            exact ⟨HB4.out, .inr ⟨rfl, HNO.out⟩⟩
    · have HNO : Hid (∀ xs, Okl xs → encI xs ≠ sealL ps) := Lib.hid fun xs hx => by rw [HPS.out]; exact enc_even HSM.out (by rw [← HL.out]; omega) xs hx
      have hev : (((l : Int) % 2) != 1) = true := by rw [bne_iff_ne]; omega
      clear hodd
      go_wp2
      go_ret2
      exact ⟨HB2.out, .inr ⟨rfl, HNO.out⟩⟩
  · have HB2 := Lib.hid (HB1.out.trans (hb2.mono HB1.out.size))
    have HNO : Hid (∀ xs, Okl xs → encI xs ≠ sealL ps) := Lib.hid fun xs hx => enc_nonum hno xs hx
    clear hb2 hno HNU
    go_wp2
    go_ret2
    exact ⟨HB2.out, .inr ⟨rfl, HNO.out⟩⟩
end Go.Proofs.Ytlpdligkjihkeaa.Tb
