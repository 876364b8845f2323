/- The index is encoded, walked. -/
import Derived.Test.YtlpdligkjihkeaaTx
import Derived.Test.YtlpdligkjihkeaaVk
set_option linter.unusedVariables false
set_option linter.unusedSimpArgs false
namespace Go.Proofs.Ytlpdligkjihkeaa.Tb
open Go.RowKit

def encP (xs : List (Int × Int)) : List Nat := xs.flatMap fun x => uv x.1.toNat ++ uv (x.2 - x.1 - 1).toNat
def encI (xs : List (Int × Int)) : List Nat := sealL (uv xs.length ++ encP xs)
theorem encP_snoc (xs : List (Int × Int)) (x : Int × Int) : encP (xs ++ [x]) = encP xs ++ (uv x.1.toNat ++ uv (x.2 - x.1 - 1).toNat) := by simp [encP]
theorem encP_take (xs : List (Int × Int)) (i : Nat) (h : i < xs.length) : encP (xs.take (i + 1)) = encP (xs.take i) ++ (uv (bgn xs i).toNat ++ uv (enn xs i - bgn xs i - 1).toNat) := by
  rw [take_snoc (0, 0) xs i h, encP_snoc]
  rfl
theorem encP_len (xs : List (Int × Int)) (h : ∀ i, i < xs.length → bgn xs i < 2147483648 ∧ enn xs i ≤ 2147483648 ∧ 0 ≤ bgn xs i) : ∀ i, i ≤ xs.length → (encP (xs.take i)).length ≤ 20 * i
  | 0, _ => by simp [encP]
  | i + 1, hi => by
    have ih := encP_len xs h i (by omega)
    obtain ⟨h1, h2, h3⟩ := h i (by omega)
    rw [encP_take xs i (by omega), List.length_append, List.length_append]
    have l1 := uv_len10 (v := (bgn xs i).toNat) (by omega)
    have l2 := uv_len10 (v := (enn xs i - bgn xs i - 1).toNat) (by omega)
    omega
theorem encP_byt (xs : List (Int × Int)) : Byt (encP xs) := by
  intro x hx
  simp only [encP, List.mem_flatMap, List.mem_append] at hx
  obtain ⟨y, _, h | h⟩ := hx
  · exact uv_byt _ x h
  · exact uv_byt _ x h
theorem ok_bd {xs : List (Int × Int)} (hv : xs.all okV = true) (he : xs.all okE = true) {i : Nat} (hi : i < xs.length) : 0 ≤ bgn xs i ∧ bgn xs i < enn xs i ∧ enn xs i ≤ 2147483647 := by
  have h1 := all_get (0, 0) hv hi
  have h2 := all_get (0, 0) he hi
  unfold okV vld at h1
  unfold okE at h2
  have h3 := of_decide_eq_true h1
  have h4 := of_decide_eq_true h2
  unfold bgn enn
  exact ⟨h3.1, h3.2, h4⟩

set_option maxRecDepth 100000 in
set_option maxHeartbeats 6400000 in
theorem Encode_any (xs : List (Int × Int)) (p : Nat) (w : World) (hm : xs.length ≤ 4096) (hv : xs.all okV = true) (he : xs.all okE = true) (hI : Idx w p xs) :
    Calls Try.prog 21 #[.pointer (some ⟨p, 0, none⟩)] w fun e w' => ∃ v', e = .returned v' ∧ OwnB w' w.heap.size v' (encI xs) ∧ Below w.heap.size w w' := by
  have HLen := Lib.hid (encP_len xs fun i hi => by have := ok_bd hv he hi; omega)
  have HBD := Lib.hid (fun i (hi : i < xs.length) => ok_bd hv he hi)
  have HTK := Lib.hid (fun i (hi : i < xs.length) => encP_take xs i hi)
  have HIdx := Lib.hid hI
  obtain ⟨As, Ao, Ae, cs, co, ce, on, E, k0, k1, k2, hr, _, _⟩ := hI
  have HRS := Lib.hid hr
  obtain ⟨n, hn⟩ : ∃ n, n = xs.length := ⟨_, rfl⟩
  have HEI : Hid (encI xs = sealL (uv n ++ encP xs)) := Lib.hid (by unfold encI; rw [hn])
  rw [← hn] at hm k0
  have HN := Lib.hid hn
  clear hr hn hv he k1 k2
  have k0b := Lib.hid k0
  go_enter Try.func21, Try.ntmps21
  go_wp2_with fail
  refine (PutUvarint_any none 0 [] n w (fun h => by simp at h) (by simp) (by omega)).mono ?_
  rintro e w1 ⟨v1, rfl, ho1, hb1⟩
  rw [List.nil_append] at ho1
  have HO1 := Lib.hid ho1
  have HB1 := Lib.hid hb1
  have k0w := below_cell hb1 k0
  clear ho1 hb1 k0
  go_wp2
  go_loopw [3, 18] (fun b s wr => ∃ i : Nat, s = .int .i64 i ∧ i ≤ n ∧ Hid (OwnB wr w.heap.size b (uv n ++ encP (xs.take i))) ∧ Hid (Below w.heap.size w wr)) (fun _ s _ => n - (intOf s).toNat)
  case atStart => exact ⟨0, rfl, by omega, Lib.hid (by simpa [encP] using HO1.out), HB1⟩
  case round =>
    obtain ⟨i, rfl, hin, HOW, HB⟩ := hrel
    clear k0w
    obtain ⟨A', c', rfl, hrd, hAn, hcap, hcm⟩ := HOW.out.rd
    have hll := HLen.out i (by rw [← HN.out]; exact hin)
    have hun := uv_len10 (v := n) (by omega)
    obtain ⟨L, hL⟩ : ∃ L, L = uv n ++ encP (xs.take i) := ⟨_, rfl⟩
    have hLl : L.length ≤ 10 + 20 * i := by rw [hL, List.length_append]; omega
    rw [← hL] at hrd hAn hcap ⊢
    obtain ⟨m, hmL⟩ : ∃ m, m = L.length := ⟨_, rfl⟩
    rw [← hmL] at hAn hcap hLl ⊢
    have HRD := Lib.hid hrd
    have HAN := Lib.hid hAn
    have HML := Lib.hid hmL
    have HLL := Lib.hid hL
    clear hrd hAn hmL hL hll hun
    by_cases hlt : i < n
    · obtain ⟨bs, bo, be, rfl, _, _, c1, _, _⟩ := HRS.out (by rw [← HN.out]; omega)
      obtain ⟨c1', c2'⟩ := c1 i (by rw [← HN.out]; exact hlt)
      have hbd := HBD.out i (by rw [← HN.out]; exact hlt)
      have htk := HTK.out i (by rw [← HN.out]; exact hlt)
      clear c1
      have c1'' := below_cell HB.out c1'
      have c2'' := below_cell HB.out c2'
      obtain ⟨a, ha⟩ : ∃ a : Nat, (a : Int) = bgn xs i := ⟨(bgn xs i).toNat, by omega⟩
      obtain ⟨b, hb⟩ : ∃ b : Nat, (b : Int) = enn xs i := ⟨(enn xs i).toNat, by omega⟩
      obtain ⟨d, hd⟩ : ∃ d : Nat, (d : Int) = (b : Int) - (a : Int) - 1 := ⟨((b : Int) - (a : Int) - 1).toNat, by omega⟩
      rw [← ha] at c1'' hbd htk
      rw [← hb] at c2'' hbd htk
      rw [← hd, Int.toNat_natCast, Int.toNat_natCast] at htk
      have hd1 : (d : Int) < 2147483648 := by omega
      have hd2 : 0 ≤ (b : Int) - (a : Int) := by omega
      have hd3 : (b : Int) - (a : Int) - 1 = (d : Int) := hd.symm
      have HTKi := Lib.hid htk
      clear c1' c2' ha hb htk hd
      have hbA := bb_alloc HB.out (SB (a : Int) (b : Int)) HB.out.size
      have HBA := Lib.hid hbA
      have HX := Lib.hid (heap_alloc_new wr (SB (a : Int) (b : Int)))
      have HPU := Lib.hid (PutUvarint_any A' c' L a (wr.alloc (SB (a : Int) (b : Int))) (HRD.out.below (bel_alloc (Below.refl _ _) _)) (by rw [← HML.out]; omega) (by omega))
      rw [← HML.out] at HPU
      have hsz := HB.out.size
      clear hbA
      go_wp2_with fail
      refine HPU.out.mono ?_
      rintro e w2 ⟨v2, rfl, ho2, hb2⟩
      obtain ⟨A2, c2, rfl, hrd2, hAn2, hcap2, hcm2⟩ := ho2.rd
      have HX2 := Lib.hid ((hb2.block _ (by simp)).trans HX.out)
      have x1 : w2.cell? ⟨wr.heap.size, 0, none⟩ = some (.int .i64 (a : Int)) := by rw [blk_cell HX2.out]; rfl
      have x2 : w2.cell? ⟨wr.heap.size, 1, none⟩ = some (.int .i64 (b : Int)) := by rw [blk_cell HX2.out]; rfl
      have hl2 : (L ++ uv a).length ≤ 200000 := by rw [List.length_append, ← HML.out]; have := uv_len10 (v := a) (by omega); omega
      have HPU2 := Lib.hid (PutUvarint_any A2 c2 (L ++ uv a) d w2 hrd2 (by omega) (by omega))
      have HB2 := Lib.hid (HBA.out.trans (hb2.mono HBA.out.size))
      obtain ⟨m2, hm2⟩ : ∃ m2, m2 = (L ++ uv a).length := ⟨_, rfl⟩
      rw [← hm2] at HPU2 ⊢
      clear ho2 hrd2 hAn2 hcap2 hb2 HPU hl2 hm2 HX2 c1'' c2''
      go_wp2_with fail
      refine HPU2.out.mono ?_
      rintro e w3 ⟨v3, rfl, ho3, hb3⟩
      have HO3 : Hid (OwnB w3 w.heap.size v3 (uv n ++ encP (xs.take (i + 1)))) := Lib.hid (by rw [HTKi.out, ← List.append_assoc, ← HLL.out, ← List.append_assoc]; exact ho3.lower HB2.out.size)
      have HB3 := Lib.hid (HB2.out.trans (hb3.mono HB2.out.size))
      clear ho3 hb3 HPU2 x1 x2
      go_wp2
      go_roundw
      case measure => simp [intOf]; omega
      case rel => exact ⟨i + 1, by go_num, by omega, HO3, HB3⟩
    · obtain rfl : i = n := by omega
      have HSE := Lib.hid (Seal_any A' c' L wr HRD.out (by rw [← HML.out]; exact HAN.out) (by rw [← HML.out]; exact hcap) (by rw [HLL.out]; exact Byt.app.2 ⟨uv_byt _, encP_byt _⟩) (by rw [← HML.out]; omega))
      rw [← HML.out] at HSE
      go_wp2_with fail
      refine HSE.out.mono ?_
      rintro e w3 ⟨v3, rfl, ho3, hb3⟩
      have HO3 : Hid (OwnB w3 w.heap.size v3 (encI xs)) := Lib.hid (by rw [HEI.out]; rw [HLL.out, List.take_of_length_le (by rw [← HN.out]; exact Nat.le_refl _)] at ho3; exact ho3.lower HB.out.size)
      have HB3 := Lib.hid (HB.out.trans (hb3.mono HB.out.size))
      clear ho3 hb3 HSE
      go_wp2
      go_ret
      exact ⟨v3, rfl, HO3.out, HB3.out⟩
end Go.Proofs.Ytlpdligkjihkeaa.Tb
