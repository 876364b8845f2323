/- Bytes in memory; the sum, walked. -/
import Derived.Test.YtlpdligkjihkeaaVb
set_option linter.unusedVariables false
set_option linter.unusedSimpArgs false
namespace Go.Proofs.Ytlpdligkjihkeaa.Tb
open Go.RowKit

/-- A slice of bytes reads as a list. -/
def RdB (w : World) (A : Option Addr) (xs : List Nat) : Prop := 0 < xs.length → ∃ b off, A = some ⟨b, off, none⟩ ∧ ∀ j, j < xs.length → w.cell? ⟨b, off + j, none⟩ = some (.int .u8 (xs.getD j 0 : Nat))
def Byt (xs : List Nat) : Prop := ∀ x ∈ xs, x < 256
theorem Byt.at_ {xs : List Nat} (h : Byt xs) (j : Nat) : xs.getD j 0 < 256 := by
  rw [List.getD_eq_getElem?_getD]
  by_cases hj : j < xs.length
  · rw [List.getElem?_eq_getElem hj]
    exact h _ (List.getElem_mem hj)
  · rw [List.getElem?_eq_none (by omega)]
    decide
theorem RdB.below {w w1 : World} {A : Option Addr} {xs : List Nat} (h : RdB w A xs) (hb : Below w.heap.size w w1) : RdB w1 A xs := by
  intro hl
  obtain ⟨b, off, e, hc⟩ := h hl
  refine ⟨b, off, e, fun j hj => ?_⟩
  rw [← hc j hj]
  refine hb.cell (p := ⟨b, off + j, none⟩) ?_
  have h1 := hc j hj
  rcases Nat.lt_or_ge b w.heap.size with h2 | h2
  · exact h2
  · simp [World.cell?, Array.getElem?_eq_none h2] at h1
theorem take_snoc {α : Type} (d : α) (xs : List α) (i : Nat) (h : i < xs.length) : xs.take (i + 1) = xs.take i ++ [xs.getD i d] := by
  rw [List.take_succ_eq_append_getElem h, List.getD_eq_getElem?_getD, List.getElem?_eq_getElem h]
  rfl

def tblA (i : Nat) : Array Value := ((List.range 16).map fun k => Value.int .u32 (if k < i then stpN 4 k else 0 : Nat)).toArray
theorem tblA_get (i k : Nat) (h : k < 16) : (tblA i)[k]? = some (.int .u32 (if k < i then stpN 4 k else 0 : Nat)) := by simp [tblA, h]
theorem tblA_set (i : Nat) (h : i < 16) : (tblA i).setIfInBounds i (.int .u32 (stpN 4 i : Nat)) = tblA (i + 1) := by
  apply Array.ext_getElem?
  intro k
  by_cases hk : k < 16
  · rw [tblA_get _ _ hk]
    by_cases e : i = k
    · subst e
      rw [Array.getElem?_setIfInBounds_self_of_lt (by simpa [tblA] using h), if_pos (by omega)]
    · rw [Array.getElem?_setIfInBounds_ne e, tblA_get _ _ hk]
      by_cases h2 : k < i
      · rw [if_pos h2, if_pos (by omega)]
      · rw [if_neg h2, if_neg (by omega)]
  · rw [Array.getElem?_eq_none (by simp [tblA]; omega), Array.getElem?_eq_none (by simp [tblA]; omega)]

theorem tblA_zero : tblA 0 = #[.int .u32 0, .int .u32 0, .int .u32 0, .int .u32 0, .int .u32 0, .int .u32 0, .int .u32 0, .int .u32 0, .int .u32 0, .int .u32 0, .int .u32 0, .int .u32 0, .int .u32 0, .int .u32 0, .int .u32 0, .int .u32 0] := rfl
theorem ret_int32 {k : IntKind} {a b : Int} (h : a = b) : Ending.returned (.int k a) = Ending.returned (.int k b) := by rw [h]
/-- Block g is just these cells. -/
def Blk (w : World) (g : Nat) (t : TypeId) (cs : Array Value) : Prop := w.heap[g]? = some (.cells cs t (0, 0))
theorem Blk.cell {w : World} {g : Nat} {t : TypeId} {cs : Array Value} (h : Blk w g t cs) (i : Nat) : w.cell? ⟨g, i, none⟩ = cs[i]? := cell_of_row w g i cs t (0, 0) h
theorem Blk.free {w : World} {g : Nat} {t : TypeId} {cs : Array Value} (h : Blk w g t cs) (i : Nat) : w.frozen? ⟨g, i, none⟩ = false := by unfold Blk at h; simp [World.frozen?, h]
theorem Blk.lt {w : World} {g : Nat} {t : TypeId} {cs : Array Value} (h : Blk w g t cs) : g < w.heap.size := by
  rcases Nat.lt_or_ge g w.heap.size with hlt | hge
  · exact hlt
  · unfold Blk at h; rw [Array.getElem?_eq_none hge] at h; cases h
theorem Blk.set_ {w : World} {g : Nat} {t : TypeId} {cs : Array Value} (h : Blk w g t cs) (i : Nat) (u : Value) : Blk (w.setCell ⟨g, i, none⟩ u) g t (cs.setIfInBounds i u) := by
  unfold Blk at h ⊢
  simp [World.setCell, Array.getElem?_modify, h]

set_option maxHeartbeats 1600000 in
theorem Sum_any (A : Option Addr) (c : Nat) (bs : List Nat) (w : World) (ha : RdB w A bs) (hb : Byt bs) (hm : bs.length ≤ 1000000000) :
    Calls Try.prog 54 #[.slice A bs.length c] w fun e w' => e = .returned (.int .u32 (crc bs)) ∧ Below w.heap.size w w' := by
  obtain ⟨n, hn⟩ : ∃ n, n = bs.length := ⟨_, rfl⟩
  rw [← hn] at hm ⊢
  have HA := Lib.hid ha
  have HB := Lib.hid hb
  have HN := Lib.hid hn
  clear ha hb hn
  go_enter Try.func54, Try.ntmps54
  go_wp2
  go_loopw [8] (fun s wr => ∃ i : Nat, s = .int .i64 i ∧ i ≤ 16 ∧ Hid (Below w.heap.size w wr) ∧ Hid (Blk wr w.heap.size 88 (tblA i))) (fun s _ => 16 - (intOf s).toNat)
  case atStart => exact ⟨0, rfl, by omega, Lib.hid ((Below.refl _ _).alloc (Nat.le_refl _) _), Lib.hid (heap_alloc_new w (.cells (tblA 0) 88))⟩
  case round =>
    obtain ⟨i, rfl, hi, HW, HT⟩ := hrel
    by_cases hlt : i < 16
    · have hc : wr.cell? ⟨w.heap.size, i, none⟩ = some (.int .u32 0) := by rw [HT.out.cell, tblA_get _ _ hlt, if_neg (by omega)]; rfl
      have hf : wr.frozen? ⟨w.heap.size, i, none⟩ = false := HT.out.free i
      have hsz := HT.out.lt
      go_wp2_with (go_at_call 63; refine (step_any i 4 _ (by omega) (by omega)).mono ?_; rintro e w' ⟨rfl, rfl⟩)
      go_roundw
      case measure => simp [intOf]; omega
      case rel => exact ⟨i + 1, by go_num, by omega, Lib.hid (HW.out.setCell (by simp) _), Lib.hid (by rw [← tblA_set i hlt]; exact HT.out.set_ i _)⟩
    · obtain rfl : i = 16 := by omega
      have hsz := HT.out.lt
      go_wp2
      go_loop [5, 19] (fun v s => ∃ i : Nat, s = .int .i64 i ∧ i ≤ n ∧ v = .int .u32 (sumTo (bs.take i) : Nat)) (fun _ s => n - (intOf s).toNat)
      case atStart => exact ⟨0, rfl, by omega, rfl⟩
      case round =>
        obtain ⟨i, rfl, hi, rfl⟩ := hrel
        by_cases hlt : i < n
        · obtain ⟨b1, o1, e1, c1⟩ := (HA.out.below HW.out) (by rw [← HN.out]; omega)
          have cc := c1 i (by rw [← HN.out]; exact hlt)
          have hc2 := HB.out.at_ i
          have hv := sumTo_lt (bs.take i) 4294967295 (by omega) (fun x hx => HB.out x (List.mem_of_mem_take hx))
          have hs := sumTo_snoc (bs.take i) (bs.getD i 0)
          rw [← take_snoc 0 bs i (by rw [← HN.out]; exact hlt), byteStep_eq] at hs
          have HS := Lib.hid hs
          clear c1 hs
          subst e1
          obtain ⟨c0, h0⟩ : ∃ x, x = bs.getD i 0 := ⟨_, rfl⟩
          obtain ⟨v, h1⟩ : ∃ x, x = sumTo (bs.take i) := ⟨_, rfl⟩
          change sumTo (bs.take i) < _ at hv
          rw [← h0] at cc hc2 HS
          rw [← h1] at hv HS ⊢
          obtain ⟨y, h2⟩ : ∃ x, x = v ^^^ c0 := ⟨_, rfl⟩
          have hy : y < 4294967296 := by rw [h2]; exact Nat.xor_lt_two_pow (n := 32) (by omega) (by omega)
          have e2 : bits BinOp.xor IntKind.u32 (v : Int) (c0 : Int) = (y : Int) := by rw [h2]; exact u32_xor_nat v c0 hv (by omega)
          obtain ⟨m, h3⟩ : ∃ x, x = y % 16 := ⟨_, rfl⟩
          have hm3 : m < 16 := by omega
          have e3 : bits BinOp.and IntKind.u32 (y : Int) 15 = (m : Int) := by rw [h3]; exact u32_and15 y hy
          obtain ⟨t, h4⟩ : ∃ x, x = stpN 4 m := ⟨_, rfl⟩
          have ht : t < 4294967296 := by rw [h4]; exact stpN_lt (by omega) 4
          have c4 : wr.cell? ⟨w.heap.size, m, none⟩ = some (.int .u32 t) := by rw [HT.out.cell, tblA_get _ _ hm3, if_pos hm3, ← h4]
          obtain ⟨z, h5⟩ : ∃ x, x = y / 16 ^^^ t := ⟨_, rfl⟩
          have hz : z < 4294967296 := by rw [h5]; exact Nat.xor_lt_two_pow (n := 32) (by omega) (by omega)
          have e5 : bits BinOp.xor IntKind.u32 ((y : Int) / 16) (t : Int) = (z : Int) := by rw [h5]; exact u32_xor_nat (y / 16) t (by omega) (by omega)
          obtain ⟨m', h6⟩ : ∃ x, x = z % 16 := ⟨_, rfl⟩
          have hm6 : m' < 16 := by omega
          have e6 : bits BinOp.and IntKind.u32 (z : Int) 15 = (m' : Int) := by rw [h6]; exact u32_and15 z hz
          obtain ⟨t', h7⟩ : ∃ x, x = stpN 4 m' := ⟨_, rfl⟩
          have ht' : t' < 4294967296 := by rw [h7]; exact stpN_lt (by omega) 4
          have c7 : wr.cell? ⟨w.heap.size, m', none⟩ = some (.int .u32 t') := by rw [HT.out.cell, tblA_get _ _ hm6, if_pos hm6, ← h7]
          obtain ⟨z', h8⟩ : ∃ x, x = z / 16 ^^^ t' := ⟨_, rfl⟩
          have e8 : bits BinOp.xor IntKind.u32 ((z : Int) / 16) (t' : Int) = (z' : Int) := by rw [h8]; exact u32_xor_nat (z / 16) t' (by omega) (by omega)
          have HF : Hid (sumTo (bs.take (i + 1)) = z') := Lib.hid (by rw [HS.out, h8, h7, h6, h5, h4, h3, h2])
          clear h0 h1 h2 h3 h4 h5 h6 h7 h8 HS
          go_wp2
          go_round
          case measure => simp [intOf]; omega
          case rel => exact ⟨i + 1, by go_num, by omega, by rw [HF.out]⟩
        · go_wp2
          go_ret
          obtain rfl : i = n := by omega
          refine ⟨?_, HW.out⟩
          rw [List.take_of_length_le (by rw [HN.out]; exact Nat.le_refl _)]
          refine ret_int32 ?_
          exact u32_xor_nat 4294967295 (sumTo bs) (by omega) (sumTo_lt bs 4294967295 (by omega) HB.out)
end Go.Proofs.Ytlpdligkjihkeaa.Tb
