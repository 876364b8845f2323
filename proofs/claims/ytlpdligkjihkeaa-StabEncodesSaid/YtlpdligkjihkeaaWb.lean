/- The reference's encoding of an index, walked. -/
import Derived.Test.YtlpdligkjihkeaaWa
set_option linter.unusedVariables false
set_option linter.unusedSimpArgs false
namespace Go.Proofs.Ytlpdligkjihkeaa.Tb
open Go.RowKit

theorem wr64 (z : Int) (h0 : 0 ≤ z) (h1 : z < 9223372036854775808) : IntKind.i64.wrap z = z := IntWalk.i64_in _ (by omega)

theorem wru64 (z : Int) (h0 : 0 ≤ z) (h1 : z < 18446744073709551616) : IntKind.u64.wrap z = z := by simp only [IntKind.wrap, IntKind.bits, IntKind.signed]; simp; omega
theorem box_app {w w' : World} {B : Nat} {o : Obj} {v v' : Value} (hx : w.heap[B]? = some o) (hne : v.ownBlock ≠ some B) (hg : w.grownBy w' v.ownBlock) (hat : v'.ownBlock = v.ownBlock ∨ v'.ownBlock = some w.heap.size) :
    w'.heap[B]? = some o ∧ v'.ownBlock ≠ some B := by
  have hlt := blk_lt hx
  refine ⟨(hg.block B hlt (Ne.symm hne)).trans hx, ?_⟩
  rcases hat with e | e
  · rw [e]; exact hne
  · rw [e]
    intro h
    injection h with h
    omega
theorem sb_cells {w : World} {B : Nat} {a b : Int} (hx : w.heap[B]? = some (SB a b)) : w.cell? ⟨B, 0, none⟩ = some (.int .i64 a) ∧ w.cell? ⟨B, 1, none⟩ = some (.int .i64 b) :=
  ⟨(blk_cell hx 0).trans rfl, (blk_cell hx 1).trans rfl⟩

set_option maxRecDepth 100000 in
set_option maxHeartbeats 6400000 in
theorem REncode_any (A : Option Addr) (c : Nat) (xs : List (Int × Int)) (w : World) (ha : RdS w A xs) (hm : xs.length ≤ 4096) (hv : xs.all okV = true) (he : xs.all okE = true) :
    Calls Try.prog 23 #[.slice A xs.length c] w fun e w' => ∃ v', e = .returned v' ∧ OwnB w' w.heap.size v' (encI xs) ∧ Below w.heap.size w w' := by
  have HLen := Lib.hid (encP_len xs fun i hi => by have := ok_bd hv he hi; omega)
  have HBD := Lib.hid (fun i (hi : i < xs.length) => ok_bd hv he hi)
  have HTK := Lib.hid (fun i (hi : i < xs.length) => encP_take xs i hi)
  have HRS := Lib.hid ha
  obtain ⟨n, hn⟩ : ∃ n, n = xs.length := ⟨_, rfl⟩
  have HEI : Hid (encI xs = sealL (uv n ++ encP xs)) := Lib.hid (by unfold encI; rw [hn])
  rw [← hn] at hm ⊢
  have HN := Lib.hid hn
  clear ha hn hv he
  go_enter Try.func23, Try.ntmps23
  go_wp2_with fail
  refine (RUvarint_any n w (by omega)).mono ?_
  rintro e w1 ⟨v1, rfl, ho1, hb1⟩
  have HO1 := Lib.hid ho1
  have HB1 := Lib.hid hb1
  clear ho1 hb1
  go_wp2
  go_loopw [3, 12] (fun b s wr => ∃ i : Nat, s = .int .i64 i ∧ i ≤ n ∧ Hid (OwnB wr w.heap.size b (uv n ++ encP (xs.take i))) ∧ Hid (Below w.heap.size w wr)) (fun _ s _ => n - (intOf s).toNat)
  case atStart => exact ⟨0, rfl, by omega, Lib.hid (by simpa [encP] using HO1.out), HB1⟩
  case round =>
    obtain ⟨i, rfl, hin, HOW, HB⟩ := hrel
    obtain ⟨A', c', rfl, hrd, hAn, hcap, hcm⟩ := HOW.out.rd
    have hll := HLen.out i (by rw [← HN.out]; exact hin)
    have hun := uv_len10 (v := n) (by omega)
    obtain ⟨L, hL⟩ : ∃ L, L = uv n ++ encP (xs.take i) := ⟨_, rfl⟩
    have hLl : L.length ≤ 10 + 20 * i := by rw [hL, List.length_append]; omega
    rw [← hL] at hrd hAn hcap HOW ⊢
    obtain ⟨m, hmL⟩ : ∃ m, m = L.length := ⟨_, rfl⟩
    rw [← hmL] at hAn hcap hLl HOW ⊢
    have HRD := Lib.hid hrd
    have HAN := Lib.hid hAn
    have HML := Lib.hid hmL
    have HLL := Lib.hid hL
    clear hrd hAn hmL hL hll hun
    by_cases hlt : i < n
    · obtain ⟨bs, o1, e1, c1⟩ := (HRS.out.below HB.out) (by rw [← HN.out]; omega)
      obtain ⟨c1', c2'⟩ := c1 i (by rw [← HN.out]; exact hlt)
      have hbd := HBD.out i (by rw [← HN.out]; exact hlt)
      have htk := HTK.out i (by rw [← HN.out]; exact hlt)
      clear c1
      subst e1
      obtain ⟨a, ha⟩ : ∃ a : Nat, (a : Int) = bgn xs i := ⟨(bgn xs i).toNat, by omega⟩
      obtain ⟨b, hb⟩ : ∃ b : Nat, (b : Int) = enn xs i := ⟨(enn xs i).toNat, by omega⟩
      obtain ⟨q, hq⟩ : ∃ q : Nat, (q : Int) = (b : Int) - (a : Int) := ⟨((b : Int) - (a : Int)).toNat, by omega⟩
      obtain ⟨d, hd⟩ : ∃ d : Nat, (d : Int) = (q : Int) - 1 := ⟨((q : Int) - 1).toNat, by omega⟩
      rw [← ha] at hbd htk
      rw [← hb] at hbd htk
      change _ = some (Value.int .i64 (bgn xs i)) at c1'
      change _ = some (Value.int .i64 (enn xs i)) at c2'
      rw [← ha] at c1'
      rw [← hb] at c2'
      rw [← hq, ← hd, Int.toNat_natCast, Int.toNat_natCast] at htk
      have hd1 : (d : Int) < 2147483648 := by omega
      have hda : (a : Int) < 2147483648 := by omega
      have e1 : IntKind.i64.wrap ((b : Int) - (a : Int)) = (q : Int) := by rw [hq]; exact wr64 _ (by omega) (by omega)
      have e2 : IntKind.i64.wrap ((q : Int) - 1) = (d : Int) := by rw [hd]; exact wr64 _ (by omega) (by omega)
      have wq : IntKind.i64.wrap (q : Int) = (q : Int) := wr64 _ (by omega) (by omega)
      have wd : IntKind.i64.wrap (d : Int) = (d : Int) := wr64 _ (by omega) (by omega)
      have wa : IntKind.u64.wrap (a : Int) = (a : Int) := wru64 _ (by omega) (by omega)
      have wud : IntKind.u64.wrap (d : Int) = (d : Int) := wru64 _ (by omega) (by omega)
      have HTKi := Lib.hid htk
      have hq' : (b : Int) - (a : Int) = (q : Int) := hq.symm
      have hd' : (q : Int) - 1 = (d : Int) := hd.symm
      clear ha hb htk hd hq
      have hbA := bb_alloc HB.out (SB (a : Int) (b : Int)) HB.out.size
      have HBA : Hid (Below w.heap.size w (wr.alloc (SB (a : Int) (b : Int))).drew) := Lib.hid (bd_drew hbA)
      have HX0 : Hid ((wr.alloc (SB (a : Int) (b : Int))).drew.heap[wr.heap.size]? = some (SB (a : Int) (b : Int))) := Lib.hid (heap_alloc_new wr _)
      have hsz := HB.out.size
      have NE0 : Hid ((Value.slice A' m c').ownBlock ≠ some wr.heap.size) := Lib.hid fun h => by have := (HOW.out.lt _ h).2; omega
      have K0 := sb_cells HX0.out
      have HO0 : Hid (OwnB (wr.alloc (SB (a : Int) (b : Int))).drew w.heap.size (.slice A' m c') L) := Lib.hid (HOW.out.below (bd_drew (bel_alloc (Below.refl _ _) _)))
      have ua := uv_len10 (v := a) (by omega)
      have ud := uv_len10 (v := d) (by omega)
      have HSZ1 : Hid (L.length + (uv a).length ≤ 4000000000) := Lib.hid (by rw [← HML.out]; omega)
      have HSZ2 : Hid ((L ++ uv a).length + (uv d).length ≤ 4000000000) := Lib.hid (by rw [List.length_append, ← HML.out]; omega)
      have HRa := Lib.hid (fun W => RUvarint_any a W (by omega))
      have HRd := Lib.hid (fun W => RUvarint_any d W (by omega))
      clear hbA
      go_wp2_with fail
      go_region_held3 (fun w' => w'.cell? ⟨wr.heap.size, 0, none⟩ = some (.int .i64 (a : Int)) ∧ w'.cell? ⟨wr.heap.size, 1, none⟩ = some (.int .i64 (b : Int)))
        (first | (with_reducible exact K4) | (with_reducible exact K3) | (with_reducible exact K2) | (with_reducible exact K1) | (with_reducible exact K0))
        (first
          | (go_at_call_of 41 (Value.int IntKind.u64 (a : Int))
             with_reducible refine (HRa.out _).mono ?_
             rintro e w2 ⟨v2, rfl, ho2, hb2⟩
             obtain ⟨A2, c2, rfl, hrd2, hAn2, hcap2, hcm2⟩ := ho2.rd
             have HR2 := Lib.hid (And.intro hrd2 hAn2)
             have HB2 : Hid (Below w.heap.size w w2) := Lib.hid (HBA.out.trans (hb2.mono HBA.out.size))
             have HO2 := Lib.hid (HO0.out.below hb2)
             have HX1 := Lib.hid ((hb2.block _ (blk_lt HX0.out)).trans HX0.out)
             have K1 := sb_cells HX1.out
             clear ho2 hrd2 hAn2 hcap2 hcm2 hb2)
          | (have _t := HO2
             refine step_appB (.tmp 16) (.tmp 20) w.heap.size (.slice A' m c') L A2 c2 (uv a) rfl rfl (by rfl) HO2.out (by rfl) HR2.out.2 HR2.out.1 HSZ1.out HB2.out.size ?_
             intro v3 w3 ho3 hb3 hg3 ha3
             have HX2 := Lib.hid (box_app HX1.out NE0.out hg3 ha3)
             have HO3 := Lib.hid ho3
             have HB3 : Hid (Below w.heap.size w w3) := Lib.hid (HB2.out.trans hb3)
             have K2 := sb_cells HX2.out.1
             clear ho3 hb3 hg3 ha3)
          | (go_at_call_of 41 (Value.int IntKind.u64 (d : Int))
             with_reducible refine (HRd.out _).mono ?_
             rintro e w4 ⟨v4, rfl, ho4, hb4⟩
             obtain ⟨A4, c4, rfl, hrd4, hAn4, hcap4, hcm4⟩ := ho4.rd
             have HR4 := Lib.hid (And.intro hrd4 hAn4)
             have HB4 : Hid (Below w.heap.size w w4) := Lib.hid (HB3.out.trans (hb4.mono HB3.out.size))
             have HO4 := Lib.hid (HO3.out.below hb4)
             have HX3 := Lib.hid ((hb4.block _ (blk_lt HX2.out.1)).trans HX2.out.1)
             have K3 := sb_cells HX3.out
             clear ho4 hrd4 hAn4 hcap4 hcm4 hb4)
          | (have _t := HO4
             refine step_appB (.tmp 21) (.tmp 29) w.heap.size v3 (L ++ uv a) A4 c4 (uv d) rfl rfl (by rfl) HO4.out (by rfl) HR4.out.2 HR4.out.1 HSZ2.out HB4.out.size ?_
             intro v5 w5 ho5 hb5 hg5 ha5
             have HX4 := Lib.hid (box_app HX3.out HX2.out.2 hg5 ha5)
             have HO5 := Lib.hid ho5
             have HB5 : Hid (Below w.heap.size w w5) := Lib.hid (HB4.out.trans hb5)
             have K4 := sb_cells HX4.out.1
             clear ho5 hb5 hg5 ha5)
          | fail)
      go_wp2
      go_roundw
      case measure => simp [intOf]; omega
      case rel => exact ⟨i + 1, by go_num, by omega, Lib.hid (by rw [HTKi.out, ← List.append_assoc, ← HLL.out, ← List.append_assoc]; exact HO5.out), HB5⟩
    · obtain rfl : i = n := by omega
      have HSE := Lib.hid (RSeal_any A' c' L wr HRD.out (by rw [← HML.out]; exact HAN.out) (by rw [HLL.out]; exact Byt.app.2 ⟨uv_byt _, encP_byt _⟩) (by rw [← HML.out]; omega))
      rw [← HML.out] at HSE
      go_wp2_with fail
      refine HSE.out.mono ?_
      rintro e w3 ⟨v3, rfl, ho3, hb3⟩
      have HO3 : Hid (OwnB w3 w.heap.size v3 (encI xs)) := Lib.hid (by rw [HEI.out]; rw [HLL.out, List.take_of_length_le (by rw [← HN.out]; exact Nat.le_refl _)] at ho3; exact ho3.lower HB.out.size)
      have HB3 := Lib.hid (HB.out.trans (hb3.mono HB.out.size))
      clear ho3 hb3 HSE
      go_wp2
      go_ret
      exact ⟨v3, rfl, HO3.out, HB3.out⟩
end Go.Proofs.Ytlpdligkjihkeaa.Tb
