/- Seal and Unseal, walked. -/
import Derived.Test.YtlpdligkjihkeaaVd
import Derived.Deep.RegionHeld3
set_option linter.unusedVariables false
set_option linter.unusedSimpArgs false
namespace Go.Proofs.Ytlpdligkjihkeaa.Tb
open Go.RowKit

theorem bb_alloc {B : Nat} {w W : World} (h : Below B w W) (o : Obj) (hB : B ≤ W.heap.size := by first | exact Nat.le_refl _ | assumption) : Below B w (W.alloc o) := h.alloc hB o
theorem bd_drew {B : Nat} {a w : World} (h : Below B a w) : Below B a w.drew := ⟨h.os, h.tape, h.output, h.size, h.block⟩
theorem below_cell {w w1 : World} (hb : Below w.heap.size w w1) {p : Addr} {v : Value} (h : w.cell? p = some v) : w1.cell? p = some v := by
  rw [← h]
  refine hb.cell ?_
  rcases Nat.lt_or_ge p.block w.heap.size with h2 | h2
  · exact h2
  · simp [World.cell?, Array.getElem?_eq_none h2] at h
theorem RdB.drew {w : World} {A : Option Addr} {xs : List Nat} (h : RdB w A xs) : RdB w.drew A xs := h
set_option maxHeartbeats 1600000 in
theorem RSum_any (A : Option Addr) (c : Nat) (bs : List Nat) (w : World) (ha : RdB w A bs) (hb : Byt bs) (hm : bs.length ≤ 1000000000) :
    Calls Try.prog 56 #[.slice A bs.length c] w fun e w' => e = .returned (.int .u32 (crc bs)) ∧ w' = w := by
  obtain ⟨n, hn⟩ : ∃ n, n = bs.length := ⟨_, rfl⟩
  rw [← hn] at hm ⊢
  have HA := Lib.hid ha
  have HB := Lib.hid hb
  have HN := Lib.hid hn
  clear ha hb hn
  go_enter Try.func56, Try.ntmps56
  go_wp2
  go_loop [3, 8] (fun v s => ∃ i : Nat, s = .int .i64 i ∧ i ≤ n ∧ v = .int .u32 (sumTo (bs.take i) : Nat)) (fun _ s => n - (intOf s).toNat)
  case atStart => exact ⟨0, rfl, by omega, rfl⟩
  case round =>
    obtain ⟨i, rfl, hi, rfl⟩ := hrel
    by_cases hlt : i < n
    · obtain ⟨b1, o1, e1, c1⟩ := HA.out (by rw [← HN.out]; omega)
      have cc := c1 i (by rw [← HN.out]; exact hlt)
      have hc2 := HB.out.at_ i
      have hv := sumTo_lt (bs.take i) 4294967295 (by omega) (fun x hx => HB.out x (List.mem_of_mem_take hx))
      have hs := sumTo_snoc (bs.take i) (bs.getD i 0)
      rw [← take_snoc 0 bs i (by rw [← HN.out]; exact hlt)] at hs
      unfold byteStep at hs
      have HS := Lib.hid hs
      clear c1 hs
      subst e1
      obtain ⟨c0, h0⟩ : ∃ x, x = bs.getD i 0 := ⟨_, rfl⟩
      obtain ⟨v, h1⟩ : ∃ x, x = sumTo (bs.take i) := ⟨_, rfl⟩
      change sumTo (bs.take i) < _ at hv
      rw [← h0] at cc hc2 HS
      rw [← h1] at hv HS ⊢
      obtain ⟨y, h2⟩ : ∃ x, x = v ^^^ c0 := ⟨_, rfl⟩
      have hy : y < 4294967296 := by rw [h2]; exact Nat.xor_lt_two_pow (n := 32) (by omega) (by omega)
      have e2 : bits BinOp.xor IntKind.u32 (v : Int) (c0 : Int) = (y : Int) := by rw [h2]; exact u32_xor_nat v c0 hv (by omega)
      have HF : Hid (sumTo (bs.take (i + 1)) = stpN 8 y) := Lib.hid (by rw [HS.out, h2])
      clear h0 h1 h2 HS
      go_wp2_with (go_at_call 64; refine (Rstep_any y _ hy).mono ?_; rintro e w' ⟨rfl, rfl⟩)
      go_round
      case measure => simp [intOf]; omega
      case rel => exact ⟨i + 1, by go_num, by omega, by rw [HF.out]⟩
    · go_wp2
      go_ret
      obtain rfl : i = n := by omega
      refine ⟨?_, rfl⟩
      rw [List.take_of_length_le (by rw [HN.out]; exact Nat.le_refl _)]
      refine ret_int32 ?_
      exact u32_xor_nat 4294967295 (sumTo bs) (by omega) (sumTo_lt bs 4294967295 (by omega) HB.out)

set_option maxHeartbeats 1600000 in
theorem bytesOf_any (v b0 b1 b2 b3 : Nat) (w : World) (hv : v < 4294967296) (h : sumB v = [b0, b1, b2, b3]) :
    Calls Try.prog 53 #[.int .u32 v] w fun e w' => e = .returned (.agg #[.int .u8 b0, .int .u8 b1, .int .u8 b2, .int .u8 b3]) ∧ Below w.heap.size w w' := by
  have H := Lib.hid h
  clear h
  go_enter Try.func53, Try.ntmps53
  go_wp2
  refine bodyPost_ret (v := .agg #[.int .u8 b0, .int .u8 b1, .int .u8 b2, .int .u8 b3]) ?_ rfl ⟨rfl, (Below.refl _ _).alloc (Nat.le_refl _) _⟩
  simp [results, Try.results53, go_sem]
  have h := H.out
  simp [sumB] at h
  omega

set_option maxHeartbeats 1600000 in
theorem Seal_any (A : Option Addr) (c : Nat) (bs : List Nat) (w : World) (ha : RdB w A bs) (hA : A = none → bs.length = 0 ∧ c = 0) (hcap : bs.length ≤ c) (hb : Byt bs) (hm : bs.length ≤ 1000000000) :
    Calls Try.prog 37 #[.slice A bs.length c] w fun e w' => ∃ v, e = .returned v ∧ OwnB w' w.heap.size v (sealL bs) ∧ Below w.heap.size w w' := by
  have HS := Lib.hid (Sum_any A c bs w ha hb hm)
  have hlt := crc_lt bs hb
  obtain ⟨b0, b1, b2, b3, hs⟩ : ∃ b0 b1 b2 b3, sumB (crc bs) = [b0, b1, b2, b3] := ⟨_, _, _, _, rfl⟩
  have HSL : Hid (sealL bs = bs ++ [b0, b1, b2, b3]) := Lib.hid (by unfold sealL; rw [hs])
  have HBO := Lib.hid (fun w1 => bytesOf_any (crc bs) b0 b1 b2 b3 w1 hlt hs)
  have HA := Lib.hid ha
  have HAn := Lib.hid hA
  obtain ⟨n, hn⟩ : ∃ n, n = bs.length := ⟨_, rfl⟩
  rw [← hn] at hm hcap HS ⊢
  have HN := Lib.hid hn
  have hi1 : (0 : Int) ≤ (n : Int) := by omega
  have hi2 : (n : Int) ≤ (c : Int) := by omega
  clear ha hA hb hs hlt hn
  go_enter Try.func37, Try.ntmps37
  go_wp2_with fail
  refine HS.out.mono ?_
  rintro e w1 ⟨rfl, hb1⟩
  have HB1 := Lib.hid hb1
  clear hb1 HS
  go_wp2_with fail
  refine (HBO.out w1).mono ?_
  rintro e w2 ⟨rfl, hb2⟩
  have HB2 := Lib.hid (hb2.mono HB1.out.size |> fun h => HB1.out.trans h)
  clear hb2 HB1 HBO
  go_wp2_with fail
  have hbx := bb_alloc (Below.refl w2.heap.size w2) (.cells (bv [b0, b1, b2, b3]).toArray 79)
  have HR := Lib.hid ((HA.out.below HB2.out).below hbx)
  have HR4 : Hid (RdB (w2.alloc (.cells (bv [b0, b1, b2, b3]).toArray 79)) (some ⟨w2.heap.size, 0, none⟩) [b0, b1, b2, b3]) := Lib.hid (rd_blk (heap_alloc_new w2 _))
  clear hbx
  have HAn' : A = none → n = 0 ∧ n = 0 := fun h => by have := (HAn.out h).1; rw [← HN.out] at this; exact ⟨this, this⟩
  have HAn2 := Lib.hid HAn'
  clear HAn HAn'
  have hz := HB2.out.size
  go_region_law ((refine step_appNewB (.tmp 12) (.tmp 13) A n bs ⟨w2.heap.size, 0, none⟩ 4 [b0, b1, b2, b3] rfl (by rfl) (by rw [← HN.out]; rfl) (by rw [← HN.out]; exact HAn2.out) HR.out.drew (by rfl) HR4.out.drew (by rw [← HN.out]; simp) (by rw [← HN.out]; simp; omega) ?_; intro v' w4 hown hb4; have HO : Hid (OwnB w4 w.heap.size v' (bs ++ [b0, b1, b2, b3])) := Lib.hid (hown.lower (by simp; omega)); have HB4 : Hid (Below w.heap.size w w4) := Lib.hid ((bd_drew (bb_alloc HB2.out _ hz)).trans (hb4.mono (by simp; omega))); clear hown hb4))
  go_wp2
  go_ret
  exact ⟨v', rfl, by rw [HSL.out]; exact HO.out, HB4.out⟩
end Go.Proofs.Ytlpdligkjihkeaa.Tb
