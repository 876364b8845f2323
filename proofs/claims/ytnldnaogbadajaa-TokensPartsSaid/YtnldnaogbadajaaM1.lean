/- Walks and plain laws: sums, bytes, varints. -/
import Derived.Test.YtnldnaogbadajaaProg
import Derived.Below
import Derived.WalkKit
import Derived.OwnWalk
import Derived.BigQuiet
import Derived.Deep.QuietTactic
import Derived.Deep.Draws
import Derived.Lib.Hide
import Derived.KernelRfl
import Derived.Laws.BitsAllLaws
import Derived.Outline
import Derived.Maps.AppendAt
import Derived.Laws.AppendOwnNone
import Derived.Laws.OwnMore
import Derived.Laws.CopyOwn
import Derived.Deep.RegionLawGrows
import Derived.Deep.RegionHeld3
import Derived.Laws.StructEq
import Derived.Laws.BytesArg
import Derived.Laws.BytesString
import Derived.Lib.Bytes
import Derived.Laws.MakeOwn

/- Plain: the cyclic check, bit by bit and by a table. -/
namespace Go.Proofs.Ytnldnaogbadajaa.Tb

def stp (v : Nat) : Nat := if v % 2 = 1 then (v / 2) ^^^ 2197175160 else v / 2
def stpN : Nat → Nat → Nat
  | 0, v => v
  | k + 1, v => stp (stpN k v)
theorem stp_lt {v : Nat} (h : v < 4294967296) : stp v < 4294967296 := by
  unfold stp
  split
  · exact Nat.xor_lt_two_pow (n := 32) (by omega) (by omega)
  · omega
theorem stpN_lt {v : Nat} (h : v < 4294967296) : ∀ k, stpN k v < 4294967296
  | 0 => h
  | k + 1 => stp_lt (stpN_lt h k)
theorem stpN_add (a : Nat) (v : Nat) : ∀ b, stpN (a + b) v = stpN b (stpN a v)
  | 0 => rfl
  | b + 1 => by show stp (stpN (a + b) v) = stp (stpN b (stpN a v)); rw [stpN_add a v b]
theorem xor_odd (a b : Nat) : (a ^^^ b) % 2 = 1 ↔ ¬ (a % 2 = 1 ↔ b % 2 = 1) := by
  have h := Nat.testBit_xor a b 0
  simp only [Nat.testBit_zero] at h
  by_cases ha : a % 2 = 1 <;> by_cases hb : b % 2 = 1 <;> simp_all
theorem stp_xor (a b : Nat) : stp (a ^^^ b) = stp a ^^^ stp b := by
  unfold stp
  have hd : (a ^^^ b) / 2 = a / 2 ^^^ b / 2 := by have := Nat.shiftRight_xor_distrib (a := a) (b := b) (i := 1); rwa [Nat.shiftRight_eq_div_pow, Nat.shiftRight_eq_div_pow, Nat.shiftRight_eq_div_pow] at this
  rw [hd]
  have ho := xor_odd a b
  by_cases ha : a % 2 = 1 <;> by_cases hb : b % 2 = 1
  · rw [if_neg (by rw [ho]; simp [ha, hb]), if_pos ha, if_pos hb]
    apply Nat.eq_of_testBit_eq
    intro i
    simp only [Nat.testBit_xor]
    cases (a / 2).testBit i <;> cases (b / 2).testBit i <;> cases (Nat.testBit 2197175160 i) <;> rfl
  · rw [if_pos (by rw [ho]; simp [ha, hb]), if_pos ha, if_neg hb]
    apply Nat.eq_of_testBit_eq
    intro i
    simp only [Nat.testBit_xor]
    cases (a / 2).testBit i <;> cases (b / 2).testBit i <;> cases (Nat.testBit 2197175160 i) <;> rfl
  · rw [if_pos (by rw [ho]; simp [ha, hb]), if_neg ha, if_pos hb]
    apply Nat.eq_of_testBit_eq
    intro i
    simp only [Nat.testBit_xor]
    cases (a / 2).testBit i <;> cases (b / 2).testBit i <;> cases (Nat.testBit 2197175160 i) <;> rfl
  · rw [if_neg (by rw [ho]; simp [ha, hb]), if_neg ha, if_neg hb]
theorem stpN_xor (a b : Nat) : ∀ k, stpN k (a ^^^ b) = stpN k a ^^^ stpN k b
  | 0 => rfl
  | k + 1 => by show stp _ = stp _ ^^^ stp _; rw [stpN_xor a b k, stp_xor]
theorem stp_even (m : Nat) : stp (2 * m) = m := by
  unfold stp
  rw [if_neg (by omega)]
  omega
theorem add_xor (q r : Nat) (h : r < 16) : 16 * q + r = 16 * q ^^^ r := by
  apply Nat.eq_of_testBit_eq
  intro i
  have e1 := Nat.testBit_two_pow_mul_add (i := 4) (b := r) q (by omega) i
  have e2 := Nat.testBit_two_pow_mul (i := 4) (a := q) (j := i)
  rw [show (2 : Nat) ^ 4 = 16 from rfl] at e1 e2
  rw [Nat.testBit_xor, e1, e2]
  by_cases hi : i < 4
  · rw [if_pos hi]
    have : ¬ i ≥ 4 := by omega
    simp [this]
  · rw [if_neg hi]
    have hr : r.testBit i = false := Nat.testBit_lt_two_pow (Nat.lt_of_lt_of_le h (by rw [show 16 = 2 ^ 4 from rfl]; exact Nat.pow_le_pow_right (by omega) (by omega)))
    have : i ≥ 4 := by omega
    simp [this, hr]
/-- Four steps by the table. -/
theorem four (v : Nat) : (v / 16) ^^^ stpN 4 (v % 16) = stpN 4 v := by
  have e : v = 16 * (v / 16) ^^^ (v % 16) := by rw [← add_xor _ _ (by omega)]; omega
  have e4 : stpN 4 (16 * (v / 16)) = v / 16 := by
    show stp (stp (stp (stp (16 * (v / 16))))) = _
    rw [show 16 * (v / 16) = 2 * (2 * (2 * (2 * (v / 16)))) by omega, stp_even, stp_even, stp_even, stp_even]
  have := stpN_xor (16 * (v / 16)) (v % 16) 4
  rw [← e, e4] at this
  exact this.symm
def byteStep (v c : Nat) : Nat := stpN 8 (v ^^^ c)
theorem byteStep_lt {v c : Nat} (h : v < 4294967296) (hc : c < 256) : byteStep v c < 4294967296 :=
  stpN_lt (Nat.xor_lt_two_pow (n := 32) (by omega) (by omega)) 8
theorem byteStep_eq (v c : Nat) : byteStep v c = (((v ^^^ c) / 16 ^^^ stpN 4 ((v ^^^ c) % 16)) / 16) ^^^ stpN 4 (((v ^^^ c) / 16 ^^^ stpN 4 ((v ^^^ c) % 16)) % 16) := by
  rw [four, four, ← stpN_add 4 (v ^^^ c) 4]
  rfl
def sumTo (bs : List Nat) : Nat := bs.foldl byteStep 4294967295
theorem sumTo_lt : ∀ (bs : List Nat) (v : Nat), v < 4294967296 → (∀ x ∈ bs, x < 256) → bs.foldl byteStep v < 4294967296
  | [], v, h, _ => h
  | c :: bs, v, h, hb => sumTo_lt bs (byteStep v c) (byteStep_lt h (hb c (by simp))) (fun x hx => hb x (by simp [hx]))
def crc (bs : List Nat) : Nat := 4294967295 ^^^ sumTo bs
theorem sumTo_snoc (bs : List Nat) (c : Nat) : sumTo (bs ++ [c]) = byteStep (sumTo bs) c := by simp [sumTo]
theorem crc_lt (bs : List Nat) (h : ∀ x ∈ bs, x < 256) : crc bs < 4294967296 := Nat.xor_lt_two_pow (n := 32) (by omega) (sumTo_lt bs 4294967295 (by omega) h)
/-- The four bytes of a sum. -/
def sumB (v : Nat) : List Nat := [v % 256, v / 256 % 256, v / 65536 % 256, v / 16777216 % 256]
def sealL (bs : List Nat) : List Nat := bs ++ sumB (crc bs)
theorem sumB_len (v : Nat) : (sumB v).length = 4 := rfl
theorem sealL_len (bs : List Nat) : (sealL bs).length = bs.length + 4 := by simp [sealL, sumB_len]
theorem sumB_byt (v : Nat) : ∀ x ∈ sumB v, x < 256 := by
  intro x hx
  simp [sumB] at hx
  omega
end Go.Proofs.Ytnldnaogbadajaa.Tb

/- The cyclic check, walked. -/
set_option linter.unusedVariables false
set_option linter.unusedSimpArgs false
namespace Go.Proofs.Ytnldnaogbadajaa.Tb
open Go.RowKit

theorem u32_and1 (x : Nat) (h : x < 4294967296) : bits BinOp.and IntKind.u32 (x : Int) 1 = ((x % 2 : Nat) : Int) := by
  have := u32_and_nat x 1 h (by omega)
  rw [Nat.and_one_is_mod] at this
  exact this
theorem u32_and15 (x : Nat) (h : x < 4294967296) : bits BinOp.and IntKind.u32 (x : Int) 15 = ((x % 16 : Nat) : Int) := by
  have := u32_and_nat x 15 h (by omega)
  rw [show (15 : Nat) = 2 ^ 4 - 1 from rfl, Nat.and_two_pow_sub_one_eq_mod] at this
  exact this
theorem u32_xorP (x : Nat) (h : x < 4294967296) : bits BinOp.xor IntKind.u32 ((x : Int) / 2) 2197175160 = ((x / 2 ^^^ 2197175160 : Nat) : Int) := by
  have := u32_xor_nat (x / 2) 2197175160 (by omega) (by omega)
  rw [← this]
  rfl
theorem u32_t {x : Nat} (h : x < 4294967296) (hp : x % 2 = 1) : (bits BinOp.and IntKind.u32 (x : Int) 1 == 1) = true := by rw [u32_and1 x h, hp]; rfl
theorem u32_f {x : Nat} (h : x < 4294967296) (hp : ¬ x % 2 = 1) : (bits BinOp.and IntKind.u32 (x : Int) 1 == 1) = false := by rw [u32_and1 x h, show x % 2 = 0 by omega]; rfl

set_option maxHeartbeats 1600000 in
theorem step_any (v k : Nat) (w : World) (hv : v < 4294967296) (hk : k ≤ 64) : Calls Try.prog 68 #[.int .u32 v, .int .i64 k] w fun e w' => e = .returned (.int .u32 (stpN k v)) ∧ w' = w := by
  go_enter Try.func68, Try.ntmps68
  go_wp2
  go_loop [0, 6] (fun x i => ∃ j : Nat, j ≤ k ∧ i = .int .i64 j ∧ x = .int .u32 (stpN j v)) (fun _ i => k - (intOf i).toNat)
  case atStart => exact ⟨0, Nat.zero_le _, rfl, rfl⟩
  case round =>
    obtain ⟨j, hj, rfl, rfl⟩ := hrel
    have hl := stpN_lt hv j
    have HS : Hid (stpN (j + 1) v = stp (stpN j v)) := Lib.hid rfl
    obtain ⟨x, hx⟩ : ∃ x, x = stpN j v := ⟨_, rfl⟩
    rw [← hx] at hl HS ⊢
    have HX := Lib.hid hx
    clear hx
    by_cases hlt : j < k
    · by_cases hp : x % 2 = 1
      · have ht := u32_t hl hp
        have HP := Lib.hid hp
        clear hp
        go_wp2
        go_round
        case measure => simp [intOf]; omega
        case rel => exact ⟨j + 1, by omega, by go_num, by rw [HS.out, stp, if_pos HP.out, u32_xorP x hl]⟩
      · have ht := u32_f hl hp
        have HP := Lib.hid hp
        clear hp
        go_wp2
        go_round
        case measure => simp [intOf]; omega
        case rel => exact ⟨j + 1, by omega, by go_num, by rw [HS.out, stp, if_neg HP.out]; rfl⟩
    · go_wp2
      go_ret
      obtain rfl : j = k := by omega
      exact ⟨by rw [HX.out]; rfl, rfl⟩

set_option maxHeartbeats 1600000 in
theorem Rstep_any (v : Nat) (w : World) (hv : v < 4294967296) : Calls Try.prog 77 #[.int .u32 v] w fun e w' => e = .returned (.int .u32 (stpN 8 v)) ∧ w' = w := by
  go_enter Try.func77, Try.ntmps77
  go_wp2
  go_loop [0, 3] (fun x i => ∃ j : Nat, j ≤ 8 ∧ i = .int .i64 j ∧ x = .int .u32 (stpN j v)) (fun _ i => 8 - (intOf i).toNat)
  case atStart => exact ⟨0, Nat.zero_le _, rfl, rfl⟩
  case round =>
    obtain ⟨j, hj, rfl, rfl⟩ := hrel
    have hl := stpN_lt hv j
    have HS : Hid (stpN (j + 1) v = stp (stpN j v)) := Lib.hid rfl
    obtain ⟨x, hx⟩ : ∃ x, x = stpN j v := ⟨_, rfl⟩
    rw [← hx] at hl HS ⊢
    have HX := Lib.hid hx
    clear hx
    by_cases hlt : j < 8
    · by_cases hp : x % 2 = 1
      · have ht := u32_t hl hp
        have HP := Lib.hid hp
        clear hp
        go_wp2
        go_round
        case measure => simp [intOf]; omega
        case rel => exact ⟨j + 1, by omega, by go_num, by rw [HS.out, stp, if_pos HP.out, u32_xorP x hl]⟩
      · have ht := u32_f hl hp
        have HP := Lib.hid hp
        clear hp
        go_wp2
        go_round
        case measure => simp [intOf]; omega
        case rel => exact ⟨j + 1, by omega, by go_num, by rw [HS.out, stp, if_neg HP.out]; rfl⟩
    · go_wp2
      go_ret
      obtain rfl : j = 8 := by omega
      exact ⟨by rw [HX.out]; rfl, rfl⟩
end Go.Proofs.Ytnldnaogbadajaa.Tb

/- Bytes in memory; the sum, walked. -/
set_option linter.unusedVariables false
set_option linter.unusedSimpArgs false
namespace Go.Proofs.Ytnldnaogbadajaa.Tb
open Go.RowKit

/-- A slice of bytes reads as a list. -/
def RdB (w : World) (A : Option Addr) (xs : List Nat) : Prop := 0 < xs.length → ∃ b off, A = some ⟨b, off, none⟩ ∧ ∀ j, j < xs.length → w.cell? ⟨b, off + j, none⟩ = some (.int .u8 (xs.getD j 0 : Nat))
def Byt (xs : List Nat) : Prop := ∀ x ∈ xs, x < 256
theorem Byt.at_ {xs : List Nat} (h : Byt xs) (j : Nat) : xs.getD j 0 < 256 := by
  rw [List.getD_eq_getElem?_getD]
  by_cases hj : j < xs.length
  · rw [List.getElem?_eq_getElem hj]
    exact h _ (List.getElem_mem hj)
  · rw [List.getElem?_eq_none (by omega)]
    decide
theorem RdB.below {w w1 : World} {A : Option Addr} {xs : List Nat} (h : RdB w A xs) (hb : Below w.heap.size w w1) : RdB w1 A xs := by
  intro hl
  obtain ⟨b, off, e, hc⟩ := h hl
  refine ⟨b, off, e, fun j hj => ?_⟩
  rw [← hc j hj]
  refine hb.cell (p := ⟨b, off + j, none⟩) ?_
  have h1 := hc j hj
  rcases Nat.lt_or_ge b w.heap.size with h2 | h2
  · exact h2
  · simp [World.cell?, Array.getElem?_eq_none h2] at h1
theorem take_snoc {α : Type} (d : α) (xs : List α) (i : Nat) (h : i < xs.length) : xs.take (i + 1) = xs.take i ++ [xs.getD i d] := by
  rw [List.take_succ_eq_append_getElem h, List.getD_eq_getElem?_getD, List.getElem?_eq_getElem h]
  rfl

def tblA (i : Nat) : Array Value := ((List.range 16).map fun k => Value.int .u32 (if k < i then stpN 4 k else 0 : Nat)).toArray
theorem tblA_get (i k : Nat) (h : k < 16) : (tblA i)[k]? = some (.int .u32 (if k < i then stpN 4 k else 0 : Nat)) := by simp [tblA, h]
theorem tblA_set (i : Nat) (h : i < 16) : (tblA i).setIfInBounds i (.int .u32 (stpN 4 i : Nat)) = tblA (i + 1) := by
  apply Array.ext_getElem?
  intro k
  by_cases hk : k < 16
  · rw [tblA_get _ _ hk]
    by_cases e : i = k
    · subst e
      rw [Array.getElem?_setIfInBounds_self_of_lt (by simpa [tblA] using h), if_pos (by omega)]
    · rw [Array.getElem?_setIfInBounds_ne e, tblA_get _ _ hk]
      by_cases h2 : k < i
      · rw [if_pos h2, if_pos (by omega)]
      · rw [if_neg h2, if_neg (by omega)]
  · rw [Array.getElem?_eq_none (by simp [tblA]; omega), Array.getElem?_eq_none (by simp [tblA]; omega)]

theorem tblA_zero : tblA 0 = #[.int .u32 0, .int .u32 0, .int .u32 0, .int .u32 0, .int .u32 0, .int .u32 0, .int .u32 0, .int .u32 0, .int .u32 0, .int .u32 0, .int .u32 0, .int .u32 0, .int .u32 0, .int .u32 0, .int .u32 0, .int .u32 0] := rfl
theorem ret_int32 {k : IntKind} {a b : Int} (h : a = b) : Ending.returned (.int k a) = Ending.returned (.int k b) := by rw [h]
/-- Block g is just these cells. -/
def Blk (w : World) (g : Nat) (t : TypeId) (cs : Array Value) : Prop := w.heap[g]? = some (.cells cs t (0, 0))
theorem Blk.cell {w : World} {g : Nat} {t : TypeId} {cs : Array Value} (h : Blk w g t cs) (i : Nat) : w.cell? ⟨g, i, none⟩ = cs[i]? := cell_of_row w g i cs t (0, 0) h
theorem Blk.free {w : World} {g : Nat} {t : TypeId} {cs : Array Value} (h : Blk w g t cs) (i : Nat) : w.frozen? ⟨g, i, none⟩ = false := by unfold Blk at h; simp [World.frozen?, h]
theorem Blk.lt {w : World} {g : Nat} {t : TypeId} {cs : Array Value} (h : Blk w g t cs) : g < w.heap.size := by
  rcases Nat.lt_or_ge g w.heap.size with hlt | hge
  · exact hlt
  · unfold Blk at h; rw [Array.getElem?_eq_none hge] at h; cases h
theorem Blk.set_ {w : World} {g : Nat} {t : TypeId} {cs : Array Value} (h : Blk w g t cs) (i : Nat) (u : Value) : Blk (w.setCell ⟨g, i, none⟩ u) g t (cs.setIfInBounds i u) := by
  unfold Blk at h ⊢
  simp [World.setCell, Array.getElem?_modify, h]

set_option maxHeartbeats 1600000 in
theorem Sum_any (A : Option Addr) (c : Nat) (bs : List Nat) (w : World) (ha : RdB w A bs) (hb : Byt bs) (hm : bs.length ≤ 1000000000) :
    Calls Try.prog 41 #[.slice A bs.length c] w fun e w' => e = .returned (.int .u32 (crc bs)) ∧ Below w.heap.size w w' := by
  obtain ⟨n, hn⟩ : ∃ n, n = bs.length := ⟨_, rfl⟩
  rw [← hn] at hm ⊢
  have HA := Lib.hid ha
  have HB := Lib.hid hb
  have HN := Lib.hid hn
  clear ha hb hn
  go_enter Try.func41, Try.ntmps41
  go_wp2
  go_loopw [8] (fun s wr => ∃ i : Nat, s = .int .i64 i ∧ i ≤ 16 ∧ Hid (Below w.heap.size w wr) ∧ Hid (Blk wr w.heap.size 103 (tblA i))) (fun s _ => 16 - (intOf s).toNat)
  case atStart => exact ⟨0, rfl, by omega, Lib.hid ((Below.refl _ _).alloc (Nat.le_refl _) _), Lib.hid (heap_alloc_new w (.cells (tblA 0) 103))⟩
  case round =>
    obtain ⟨i, rfl, hi, HW, HT⟩ := hrel
    by_cases hlt : i < 16
    · have hc : wr.cell? ⟨w.heap.size, i, none⟩ = some (.int .u32 0) := by rw [HT.out.cell, tblA_get _ _ hlt, if_neg (by omega)]; rfl
      have hf : wr.frozen? ⟨w.heap.size, i, none⟩ = false := HT.out.free i
      have hsz := HT.out.lt
      go_wp2_with (go_at_call 68; refine (step_any i 4 _ (by omega) (by omega)).mono ?_; rintro e w' ⟨rfl, rfl⟩)
      go_roundw
      case measure => simp [intOf]; omega
      case rel => exact ⟨i + 1, by go_num, by omega, Lib.hid (HW.out.setCell (by simp) _), Lib.hid (by rw [← tblA_set i hlt]; exact HT.out.set_ i _)⟩
    · obtain rfl : i = 16 := by omega
      have hsz := HT.out.lt
      go_wp2
      go_loop [5, 19] (fun v s => ∃ i : Nat, s = .int .i64 i ∧ i ≤ n ∧ v = .int .u32 (sumTo (bs.take i) : Nat)) (fun _ s => n - (intOf s).toNat)
      case atStart => exact ⟨0, rfl, by omega, rfl⟩
      case round =>
        obtain ⟨i, rfl, hi, rfl⟩ := hrel
        by_cases hlt : i < n
        · obtain ⟨b1, o1, e1, c1⟩ := (HA.out.below HW.out) (by rw [← HN.out]; omega)
          have cc := c1 i (by rw [← HN.out]; exact hlt)
          have hc2 := HB.out.at_ i
          have hv := sumTo_lt (bs.take i) 4294967295 (by omega) (fun x hx => HB.out x (List.mem_of_mem_take hx))
          have hs := sumTo_snoc (bs.take i) (bs.getD i 0)
          rw [← take_snoc 0 bs i (by rw [← HN.out]; exact hlt), byteStep_eq] at hs
          have HS := Lib.hid hs
          clear c1 hs
          subst e1
          obtain ⟨c0, h0⟩ : ∃ x, x = bs.getD i 0 := ⟨_, rfl⟩
          obtain ⟨v, h1⟩ : ∃ x, x = sumTo (bs.take i) := ⟨_, rfl⟩
          change sumTo (bs.take i) < _ at hv
          rw [← h0] at cc hc2 HS
          rw [← h1] at hv HS ⊢
          obtain ⟨y, h2⟩ : ∃ x, x = v ^^^ c0 := ⟨_, rfl⟩
          have hy : y < 4294967296 := by rw [h2]; exact Nat.xor_lt_two_pow (n := 32) (by omega) (by omega)
          have e2 : bits BinOp.xor IntKind.u32 (v : Int) (c0 : Int) = (y : Int) := by rw [h2]; exact u32_xor_nat v c0 hv (by omega)
          obtain ⟨m, h3⟩ : ∃ x, x = y % 16 := ⟨_, rfl⟩
          have hm3 : m < 16 := by omega
          have e3 : bits BinOp.and IntKind.u32 (y : Int) 15 = (m : Int) := by rw [h3]; exact u32_and15 y hy
          obtain ⟨t, h4⟩ : ∃ x, x = stpN 4 m := ⟨_, rfl⟩
          have ht : t < 4294967296 := by rw [h4]; exact stpN_lt (by omega) 4
          have c4 : wr.cell? ⟨w.heap.size, m, none⟩ = some (.int .u32 t) := by rw [HT.out.cell, tblA_get _ _ hm3, if_pos hm3, ← h4]
          obtain ⟨z, h5⟩ : ∃ x, x = y / 16 ^^^ t := ⟨_, rfl⟩
          have hz : z < 4294967296 := by rw [h5]; exact Nat.xor_lt_two_pow (n := 32) (by omega) (by omega)
          have e5 : bits BinOp.xor IntKind.u32 ((y : Int) / 16) (t : Int) = (z : Int) := by rw [h5]; exact u32_xor_nat (y / 16) t (by omega) (by omega)
          obtain ⟨m', h6⟩ : ∃ x, x = z % 16 := ⟨_, rfl⟩
          have hm6 : m' < 16 := by omega
          have e6 : bits BinOp.and IntKind.u32 (z : Int) 15 = (m' : Int) := by rw [h6]; exact u32_and15 z hz
          obtain ⟨t', h7⟩ : ∃ x, x = stpN 4 m' := ⟨_, rfl⟩
          have ht' : t' < 4294967296 := by rw [h7]; exact stpN_lt (by omega) 4
          have c7 : wr.cell? ⟨w.heap.size, m', none⟩ = some (.int .u32 t') := by rw [HT.out.cell, tblA_get _ _ hm6, if_pos hm6, ← h7]
          obtain ⟨z', h8⟩ : ∃ x, x = z / 16 ^^^ t' := ⟨_, rfl⟩
          have e8 : bits BinOp.xor IntKind.u32 ((z : Int) / 16) (t' : Int) = (z' : Int) := by rw [h8]; exact u32_xor_nat (z / 16) t' (by omega) (by omega)
          have HF : Hid (sumTo (bs.take (i + 1)) = z') := Lib.hid (by rw [HS.out, h8, h7, h6, h5, h4, h3, h2])
          clear h0 h1 h2 h3 h4 h5 h6 h7 h8 HS
          go_wp2
          go_round
          case measure => simp [intOf]; omega
          case rel => exact ⟨i + 1, by go_num, by omega, by rw [HF.out]⟩
        · go_wp2
          go_ret
          obtain rfl : i = n := by omega
          refine ⟨?_, HW.out⟩
          rw [List.take_of_length_le (by rw [HN.out]; exact Nat.le_refl _)]
          refine ret_int32 ?_
          exact u32_xor_nat 4294967295 (sumTo bs) (by omega) (sumTo_lt bs 4294967295 (by omega) HB.out)
end Go.Proofs.Ytnldnaogbadajaa.Tb

/- Bytes in memory: appends, rows of the call's own. -/
set_option linter.unusedVariables false
set_option linter.unusedSimpArgs false
namespace Go.Proofs.Ytnldnaogbadajaa.Tb
open Go.RowKit

/-- A slice whose elements take one cell each reads as these values. -/
def Rd1 (w : World) (A : Option Addr) (vs : List Value) : Prop := 0 < vs.length → ∃ b off, A = some ⟨b, off, none⟩ ∧ ∀ j u, vs[j]? = some u → w.cell? ⟨b, off + j, none⟩ = some u
def bv (xs : List Nat) : List Value := xs.map fun (x : Nat) => Value.int .u8 (x : Int)
theorem bv_len (xs : List Nat) : (bv xs).length = xs.length := by simp [bv]
theorem bv_app (xs ys : List Nat) : bv (xs ++ ys) = bv xs ++ bv ys := by simp [bv]
theorem bv_one (xs : List Nat) : ∀ u ∈ bv xs, u.oneCell' = true := by
  intro u hu
  simp only [bv, List.mem_map] at hu
  obtain ⟨x, _, rfl⟩ := hu
  rfl
theorem bv_get {xs : List Nat} {j : Nat} {u : Value} (h : (bv xs)[j]? = some u) : j < xs.length ∧ u = .int .u8 (xs.getD j 0 : Nat) := by
  have hj : j < (bv xs).length := (List.getElem?_eq_some_iff.1 h).1
  rw [bv_len] at hj
  refine ⟨hj, ?_⟩
  simp [bv, hj] at h
  rw [List.getD_eq_getElem?_getD, List.getElem?_eq_getElem hj]
  exact h.symm
theorem RdB.rd {w : World} {A : Option Addr} {xs : List Nat} (h : RdB w A xs) : Rd1 w A (bv xs) := by
  intro hl
  rw [bv_len] at hl
  obtain ⟨b, off, e, hc⟩ := h hl
  refine ⟨b, off, e, fun j u hu => ?_⟩
  obtain ⟨hj, rfl⟩ := bv_get hu
  exact hc j hj
theorem Rd1.b {w : World} {A : Option Addr} {xs : List Nat} (h : Rd1 w A (bv xs)) : RdB w A xs := by
  intro hl
  obtain ⟨b, off, e, hc⟩ := h (by rw [bv_len]; exact hl)
  refine ⟨b, off, e, fun j hj => hc j _ ?_⟩
  simp [bv, hj]
theorem Rd1.below {w w1 : World} {A : Option Addr} {vs : List Value} (h : Rd1 w A vs) (hb : Below w.heap.size w w1) : Rd1 w1 A vs := by
  intro hl
  obtain ⟨b, off, e, hc⟩ := h hl
  refine ⟨b, off, e, fun j u hu => ?_⟩
  have h1 := hc j u hu
  rw [← h1]
  refine hb.cell (p := ⟨b, off + j, none⟩) ?_
  rcases Nat.lt_or_ge b w.heap.size with h2 | h2
  · exact h2
  · simp [World.cell?, Array.getElem?_eq_none h2] at h1
theorem addr_add (b off j : Nat) : (⟨b, off, none⟩ : Addr).add j = ⟨b, off + j, none⟩ := by unfold Addr.add; split <;> simp_all
theorem own_rd {w : World} {base : Nat} {e : TypeId} {v : Value} {n : Nat} {vs : List Value} (h : w.ownsRow base e 1 v n vs) : vs.length = n ∧ ∃ A c, v = .slice A n c ∧ Rd1 w A vs ∧ (A = none → n = 0 ∧ c = 0) ∧ n ≤ c ∧ c ≤ maxLen := by
  have hl : vs.length = n := by have := h.1; omega
  refine ⟨hl, ?_⟩
  have hcells := fun (g : Nat) => h.cells (g := g)
  rcases h.2 with ⟨rfl, rfl⟩ | ⟨g, cap, cur, rfl, hb, hh, hnc, hcm, hsz, htk⟩
  · exact ⟨none, 0, rfl, fun h => by omega, fun _ => ⟨rfl, rfl⟩, by omega, by simp [maxLen]⟩
  · refine ⟨_, cap, rfl, fun _ => ⟨g, 0, rfl, fun j u hu => ?_⟩, (fun h => by cases h), hnc, hcm⟩
    have := hcells g rfl j u hu
    rwa [addr_add] at this

/-- A row of bytes of the call's own. -/
def OwnB (w : World) (base : Nat) (v : Value) (xs : List Nat) : Prop := w.ownsRow base 5 1 v xs.length (bv xs)
theorem OwnB.nil (w : World) (base : Nat) : OwnB w base (.slice none 0 0) [] := World.ownsRow_nil _ _ _ _
theorem OwnB.rd {w : World} {base : Nat} {v : Value} {xs : List Nat} (h : OwnB w base v xs) : ∃ A c, v = .slice A xs.length c ∧ RdB w A xs ∧ (A = none → xs.length = 0 ∧ c = 0) ∧ xs.length ≤ c ∧ c ≤ maxLen := by
  obtain ⟨_, A, c, e, hr, h2, h3⟩ := own_rd h
  exact ⟨A, c, e, hr.b, h2, h3⟩
theorem ownsBelow {B : Nat} {e : TypeId} {k : Nat} {v : Value} {n : Nat} {xs : List Value} {w w' : World} (h : w.ownsRow B e k v n xs) (hb : Below w.heap.size w w') : w'.ownsRow B e k v n xs :=
  h.kept (row := none) ⟨hb.os, hb.tape, hb.output, hb.size, fun j hj _ => hb.block j hj⟩ (by cases hv : v.ownBlock <;> simp)
theorem OwnB.below {w w' : World} {base : Nat} {v : Value} {xs : List Nat} (h : OwnB w base v xs) (hb : Below w.heap.size w w') : OwnB w' base v xs := ownsBelow h hb
theorem ownsLower {w : World} {base base' n : Nat} {e : TypeId} {size : Nat} {v : Value} {xs : List Value} (h : w.ownsRow base e size v n xs) (hb : base' ≤ base) : w.ownsRow base' e size v n xs := by
  refine ⟨h.1, ?_⟩
  rcases h.2 with h2 | ⟨g, cap, cur, e1, hbg, rest⟩
  · exact .inl h2
  · exact .inr ⟨g, cap, cur, e1, by omega, rest⟩
theorem OwnB.lower {w : World} {base base' : Nat} {v : Value} {xs : List Nat} (h : OwnB w base v xs) (hb : base' ≤ base) : OwnB w base' v xs := ownsLower h hb
theorem growsBel {B : Nat} {v : Value} {n : Nat} {xs : List Value} {w w' : World} {t : TypeId} {k : Nat} (h : w.ownsRow B t k v n xs) (hB : B ≤ w.heap.size) (hg : w.grownBy w' v.ownBlock) : Below B w w' := by
  refine (Below.refl B w).grown hg hB fun j ej => ?_
  exact (h.lt j ej).1
theorem infoB : (Try.prog.info? 5).map (fun i => (i.zero, i.size, i.bytes)) = some (some (.int .u8 0), 1, 1) := by kernel_rfl

section
variable {P : Program} {w : World}
/-- append onto a row of the call's own: the source nil, empty or not. -/
theorem run_app (base : Nat) (t ty e : TypeId) (i : TypeInfo) (z : Value) (bytes : Nat) (ht : P.underlying t = some (.slice e)) (hi : P.info? e = some i) (hz : i.zero = some z)
    (hsize : i.size = 1) (hby : i.bytes = bytes) (hzs : z.cells.size = 1)
    (v : Value) (n : Nat) (vs : List Value) (hown : w.ownsRow base e 1 v n vs)
    (A : Option Addr) (m c : Nat) (news : List Value) (hA : A = none → m = 0 ∧ c = 0) (hr : Rd1 w A news) (hl : news.length = m) (h1 : ∀ u ∈ news, u.oneCell' = true)
    (h63 : n + m ≤ maxLen) (hbytes : (n + m) * bytes ≤ 140737488355328) (hbase : base ≤ w.heap.size) :
    ∃ v' w', (Builtin.append_ #[t, t] ty #[v, .slice A m c]).run P w = .ok v' w' ∧ w'.ownsRow base e 1 v' (n + m) (vs ++ news) ∧ w.grownBy w' v.ownBlock ∧ (v'.ownBlock = v.ownBlock ∨ v'.ownBlock = some w.heap.size) := by
  cases A with
  | none =>
    obtain ⟨rfl, rfl⟩ := hA rfl
    obtain rfl : news = [] := List.eq_nil_of_length_eq_zero hl
    exact ⟨v, w, run_append_owned_none (P := P) (w := w) base t ty e i 1 ht hi v n vs hown, by simpa using hown, World.grownBy.refl w _, .inl rfl⟩
  | some ad =>
    obtain ⟨v', w', hrun, h2, h3, _, h5⟩ := run_append_own_at (P := P) w base t ty e i z 1 bytes ht hi hz hsize hby hzs (by omega) v n vs hown ad m c news (by omega) (fun j u hu => by
      have hp : 0 < news.length := by
        have := (List.getElem?_eq_some_iff.1 hu).1
        omega
      obtain ⟨b, off, e1, hc⟩ := hr hp
      injection e1 with e1
      subst e1
      rw [addr_add]
      exact hc j u hu) h1 h63 hbytes hbase
    exact ⟨v', w', hrun, h2, h3, h5⟩

theorem wp_app {o : Oper} {a : Act} {K : Act → World → Prop} {Q : Exit → Act → World → Prop} (s x : Operand) (t : TypeId)
    (ho : o.op = .call { callee := .builtin .append, args := #[s, x], argTypes := #[t, t] })
    (base : Nat) (e : TypeId) (i : TypeInfo) (z : Value) (bytes : Nat) (ht : P.underlying t = some (.slice e)) (hi : P.info? e = some i) (hz : i.zero = some z)
    (hsize : i.size = 1) (hby : i.bytes = bytes) (hzs : z.cells.size = 1)
    (v : Value) (n : Nat) (vs : List Value) (hs : a.eval s = v) (hown : w.ownsRow base e 1 v n vs)
    (A : Option Addr) (m c : Nat) (news : List Value) (hx : a.eval x = .slice A m c) (hA : A = none → m = 0 ∧ c = 0) (hr : Rd1 w A news) (hl : news.length = m) (h1 : ∀ u ∈ news, u.oneCell' = true)
    (h63 : n + m ≤ maxLen) (hbytes : (n + m) * bytes ≤ 140737488355328) (hbase : base ≤ w.heap.size)
    (h : ∀ v' w', w'.ownsRow base e 1 v' (n + m) (vs ++ news) → w.grownBy w' v.ownBlock → (v'.ownBlock = v.ownBlock ∨ v'.ownBlock = some w.heap.size) → K (a.put o.dst v') w') : o.wp P a w K Q := by
  obtain ⟨v', w', hrun, h2, h3, h4⟩ := run_app (P := P) (w := w) base t o.type e i z bytes ht hi hz hsize hby hzs v n vs hown A m c news hA hr hl h1 h63 hbytes hbase
  unfold Oper.wp execOp
  simp only [ho, resolve, invoke, builtin, Sem.run_bind, Sem.run_pure, Result.andThen_ok, List.map_toArray, List.map_cons, List.map_nil, hs, hx, hrun]
  exact h v' w' h2 h3 h4
end

/-- append of bytes, in a plain region. -/
theorem wpList_appB {w : World} {ops : Array Oper} {rest : List Oper} {o : Oper} {a : Act} {Q : Exit → Act → World → Prop} (s x : Operand) (base : Nat) (v : Value) (xs : List Nat) (A : Option Addr) (c : Nat) (ys : List Nat) (hgd : o.guard = none)
    (ho : o.op = .call { callee := .builtin .append, args := #[s, x], argTypes := #[40, 40] })
    (hs : a.eval s = v) (hown : OwnB w base v xs) (hx : a.eval x = .slice A ys.length c) (hA : A = none → ys.length = 0 ∧ c = 0) (hr : RdB w A ys) (hm : xs.length + ys.length ≤ 4000000000) (hbase : base ≤ w.heap.size)
    (h : ∀ v' w', OwnB w' base v' (xs ++ ys) → Below base w w' → w.grownBy w' v.ownBlock → (v'.ownBlock = v.ownBlock ∨ v'.ownBlock = some w.heap.size) → wpList Try.prog ops Q rest (a.put o.dst v') w') : wpList Try.prog ops Q (o :: rest) a w := by
  obtain ⟨i0, hi0, hz0, hz1, hz2⟩ := info_parts infoB
  refine wpList_plain hgd fun K hK => wp_app s x _ ho base 5 i0 _ 1 Try.underlying40 hi0 hz0 hz1 hz2 rfl v xs.length (bv xs) hs hown A ys.length c (bv ys) hx hA hr.rd (bv_len ys) (bv_one ys) (by simp only [maxLen]; omega) (by omega) hbase fun v' w' h2 h3 h4 => hK _ _ (h v' w' ?_ (growsBel hown hbase h3) h3 h4)
  unfold OwnB
  rw [List.length_append, bv_app]
  exact h2

/-- The same, one step of a region that draws its order. -/
theorem step_appB {w : World} {ops : Array Oper} {o : Oper} {a : Act} {K : Act → World → Prop} {Q : Exit → Act → World → Prop} {E : Prop} (s x : Operand) (base : Nat) (v : Value) (xs : List Nat) (A : Option Addr) (c : Nat) (ys : List Nat) (hgd : o.guard = none)
    (ho : o.op = .call { callee := .builtin .append, args := #[s, x], argTypes := #[40, 40] })
    (hs : a.eval s = v) (hown : OwnB w base v xs) (hx : a.eval x = .slice A ys.length c) (hA : A = none → ys.length = 0 ∧ c = 0) (hr : RdB w A ys) (hm : xs.length + ys.length ≤ 4000000000) (hbase : base ≤ w.heap.size)
    (h : ∀ v' w', OwnB w' base v' (xs ++ ys) → Below base w w' → w.grownBy w' v.ownBlock → (v'.ownBlock = v.ownBlock ∨ v'.ownBlock = some w.heap.size) → K (a.put o.dst v') w') :
    if Region.wanted o (yielded ops a.tmps) = true then Oper.wp Try.prog o a w K Q else E := by
  have hw : Region.wanted o (yielded ops a.tmps) = true := by simp [Region.wanted, hgd]
  rw [if_pos hw]
  obtain ⟨i0, hi0, hz0, hz1, hz2⟩ := info_parts infoB
  refine wp_app s x _ ho base 5 i0 _ 1 Try.underlying40 hi0 hz0 hz1 hz2 rfl v xs.length (bv xs) hs hown A ys.length c (bv ys) hx hA hr.rd (bv_len ys) (bv_one ys) (by simp only [maxLen]; omega) (by omega) hbase fun v' w' h2 h3 h4 => h v' w' ?_ (growsBel hown hbase h3) h3 h4
  unfold OwnB
  rw [List.length_append, bv_app]
  exact h2
theorem rd_src {w : World} {b : Addr} {xs : List Nat} (hr : RdB w (some b) xs) : ∀ j u, (bv xs)[j]? = some u → w.cell? (b.add j) = some u := by
  intro j u hu
  obtain ⟨hj, rfl⟩ := bv_get hu
  obtain ⟨g, off, e, hc⟩ := hr (by omega)
  injection e with e
  subst e
  rw [addr_add]
  exact hc j hj
/-- append of bytes where it must grow: the row is new. -/
theorem step_appNewB {w : World} {ops : Array Oper} {o : Oper} {a : Act} {K : Act → World → Prop} {Q : Exit → Act → World → Prop} {E : Prop} (s x : Operand) (A : Option Addr) (cap : Nat) (xs : List Nat) (ad : Addr) (c : Nat) (ys : List Nat) (hgd : o.guard = none)
    (ho : o.op = .call { callee := .builtin .append, args := #[s, x], argTypes := #[40, 40] })
    (hs : a.eval s = .slice A xs.length cap) (hA : A = none → xs.length = 0 ∧ cap = 0) (hrx : RdB w A xs) (hx : a.eval x = .slice (some ad) ys.length c) (hr : RdB w (some ad) ys) (hfull : cap < xs.length + ys.length) (hm : xs.length + ys.length ≤ 4000000000)
    (h : ∀ v' w', OwnB w' w.heap.size v' (xs ++ ys) → Below w.heap.size w w' → K (a.put o.dst v') w') :
    if Region.wanted o (yielded ops a.tmps) = true then Oper.wp Try.prog o a w K Q else E := by
  obtain ⟨i0, hi0, hz0, hz1, hz2⟩ := info_parts infoB
  refine step_append_grows hgd s x _ ho 5 i0 _ 1 1 Try.underlying40 hi0 hz0 hz1 hz2 rfl (by omega) A xs.length cap (bv xs) hs hA (by rw [bv_len]; omega) (fun b e => by subst e; exact rd_src hrx) ad ys.length c (bv ys) hx (by rw [bv_len]; omega) (rd_src hr) (bv_one ys) hfull (by simp only [maxLen]; omega) (by omega) fun v' w' h2 h3 => h v' w' ?_ ((Below.refl _ _).grown h3 (Nat.le_refl _) (fun k hk => by cases hk))
  unfold OwnB
  rw [List.length_append, bv_app]
  exact h2
theorem rd_blk {w : World} {g : Nat} {t : TypeId} {ys : List Nat} (h : w.heap[g]? = some (.cells (bv ys).toArray t (0, 0))) : RdB w (some ⟨g, 0, none⟩) ys := fun _ => ⟨g, 0, rfl, fun j hj => by
  rw [cell_of_row w g (0 + j) _ t (0, 0) h]
  simp [bv, hj]⟩
end Go.Proofs.Ytnldnaogbadajaa.Tb

/- Seal and Unseal, walked. -/
set_option linter.unusedVariables false
set_option linter.unusedSimpArgs false
namespace Go.Proofs.Ytnldnaogbadajaa.Tb
open Go.RowKit

theorem bb_alloc {B : Nat} {w W : World} (h : Below B w W) (o : Obj) (hB : B ≤ W.heap.size := by first | exact Nat.le_refl _ | assumption) : Below B w (W.alloc o) := h.alloc hB o
theorem bd_drew {B : Nat} {a w : World} (h : Below B a w) : Below B a w.drew := ⟨h.os, h.tape, h.output, h.size, h.block⟩
theorem below_cell {w w1 : World} (hb : Below w.heap.size w w1) {p : Addr} {v : Value} (h : w.cell? p = some v) : w1.cell? p = some v := by
  rw [← h]
  refine hb.cell ?_
  rcases Nat.lt_or_ge p.block w.heap.size with h2 | h2
  · exact h2
  · simp [World.cell?, Array.getElem?_eq_none h2] at h
theorem RdB.drew {w : World} {A : Option Addr} {xs : List Nat} (h : RdB w A xs) : RdB w.drew A xs := h
set_option maxHeartbeats 1600000 in
theorem RSum_any (A : Option Addr) (c : Nat) (bs : List Nat) (w : World) (ha : RdB w A bs) (hb : Byt bs) (hm : bs.length ≤ 1000000000) :
    Calls Try.prog 49 #[.slice A bs.length c] w fun e w' => e = .returned (.int .u32 (crc bs)) ∧ w' = w := by
  obtain ⟨n, hn⟩ : ∃ n, n = bs.length := ⟨_, rfl⟩
  rw [← hn] at hm ⊢
  have HA := Lib.hid ha
  have HB := Lib.hid hb
  have HN := Lib.hid hn
  clear ha hb hn
  go_enter Try.func49, Try.ntmps49
  go_wp2
  go_loop [3, 8] (fun v s => ∃ i : Nat, s = .int .i64 i ∧ i ≤ n ∧ v = .int .u32 (sumTo (bs.take i) : Nat)) (fun _ s => n - (intOf s).toNat)
  case atStart => exact ⟨0, rfl, by omega, rfl⟩
  case round =>
    obtain ⟨i, rfl, hi, rfl⟩ := hrel
    by_cases hlt : i < n
    · obtain ⟨b1, o1, e1, c1⟩ := HA.out (by rw [← HN.out]; omega)
      have cc := c1 i (by rw [← HN.out]; exact hlt)
      have hc2 := HB.out.at_ i
      have hv := sumTo_lt (bs.take i) 4294967295 (by omega) (fun x hx => HB.out x (List.mem_of_mem_take hx))
      have hs := sumTo_snoc (bs.take i) (bs.getD i 0)
      rw [← take_snoc 0 bs i (by rw [← HN.out]; exact hlt)] at hs
      unfold byteStep at hs
      have HS := Lib.hid hs
      clear c1 hs
      subst e1
      obtain ⟨c0, h0⟩ : ∃ x, x = bs.getD i 0 := ⟨_, rfl⟩
      obtain ⟨v, h1⟩ : ∃ x, x = sumTo (bs.take i) := ⟨_, rfl⟩
      change sumTo (bs.take i) < _ at hv
      rw [← h0] at cc hc2 HS
      rw [← h1] at hv HS ⊢
      obtain ⟨y, h2⟩ : ∃ x, x = v ^^^ c0 := ⟨_, rfl⟩
      have hy : y < 4294967296 := by rw [h2]; exact Nat.xor_lt_two_pow (n := 32) (by omega) (by omega)
      have e2 : bits BinOp.xor IntKind.u32 (v : Int) (c0 : Int) = (y : Int) := by rw [h2]; exact u32_xor_nat v c0 hv (by omega)
      have HF : Hid (sumTo (bs.take (i + 1)) = stpN 8 y) := Lib.hid (by rw [HS.out, h2])
      clear h0 h1 h2 HS
      go_wp2_with (go_at_call 77; refine (Rstep_any y _ hy).mono ?_; rintro e w' ⟨rfl, rfl⟩)
      go_round
      case measure => simp [intOf]; omega
      case rel => exact ⟨i + 1, by go_num, by omega, by rw [HF.out]⟩
    · go_wp2
      go_ret
      obtain rfl : i = n := by omega
      refine ⟨?_, rfl⟩
      rw [List.take_of_length_le (by rw [HN.out]; exact Nat.le_refl _)]
      refine ret_int32 ?_
      exact u32_xor_nat 4294967295 (sumTo bs) (by omega) (sumTo_lt bs 4294967295 (by omega) HB.out)

set_option maxHeartbeats 1600000 in
theorem bytesOf_any (v b0 b1 b2 b3 : Nat) (w : World) (hv : v < 4294967296) (h : sumB v = [b0, b1, b2, b3]) :
    Calls Try.prog 40 #[.int .u32 v] w fun e w' => e = .returned (.agg #[.int .u8 b0, .int .u8 b1, .int .u8 b2, .int .u8 b3]) ∧ Below w.heap.size w w' := by
  have H := Lib.hid h
  clear h
  go_enter Try.func40, Try.ntmps40
  go_wp2
  refine bodyPost_ret (v := .agg #[.int .u8 b0, .int .u8 b1, .int .u8 b2, .int .u8 b3]) ?_ rfl ⟨rfl, (Below.refl _ _).alloc (Nat.le_refl _) _⟩
  simp [results, Try.results40, go_sem]
  have h := H.out
  simp [sumB] at h
  omega

set_option maxHeartbeats 1600000 in
theorem Seal_any (A : Option Addr) (c : Nat) (bs : List Nat) (w : World) (ha : RdB w A bs) (hA : A = none → bs.length = 0 ∧ c = 0) (hcap : bs.length ≤ c) (hb : Byt bs) (hm : bs.length ≤ 1000000000) :
    Calls Try.prog 26 #[.slice A bs.length c] w fun e w' => ∃ v, e = .returned v ∧ OwnB w' w.heap.size v (sealL bs) ∧ Below w.heap.size w w' := by
  have HS := Lib.hid (Sum_any A c bs w ha hb hm)
  have hlt := crc_lt bs hb
  obtain ⟨b0, b1, b2, b3, hs⟩ : ∃ b0 b1 b2 b3, sumB (crc bs) = [b0, b1, b2, b3] := ⟨_, _, _, _, rfl⟩
  have HSL : Hid (sealL bs = bs ++ [b0, b1, b2, b3]) := Lib.hid (by unfold sealL; rw [hs])
  have HBO := Lib.hid (fun w1 => bytesOf_any (crc bs) b0 b1 b2 b3 w1 hlt hs)
  have HA := Lib.hid ha
  have HAn := Lib.hid hA
  obtain ⟨n, hn⟩ : ∃ n, n = bs.length := ⟨_, rfl⟩
  rw [← hn] at hm hcap HS ⊢
  have HN := Lib.hid hn
  have hi1 : (0 : Int) ≤ (n : Int) := by omega
  have hi2 : (n : Int) ≤ (c : Int) := by omega
  clear ha hA hb hs hlt hn
  go_enter Try.func26, Try.ntmps26
  go_wp2_with fail
  refine HS.out.mono ?_
  rintro e w1 ⟨rfl, hb1⟩
  have HB1 := Lib.hid hb1
  clear hb1 HS
  go_wp2_with fail
  refine (HBO.out w1).mono ?_
  rintro e w2 ⟨rfl, hb2⟩
  have HB2 := Lib.hid (hb2.mono HB1.out.size |> fun h => HB1.out.trans h)
  clear hb2 HB1 HBO
  go_wp2_with fail
  have hbx := bb_alloc (Below.refl w2.heap.size w2) (.cells (bv [b0, b1, b2, b3]).toArray 70)
  have HR := Lib.hid ((HA.out.below HB2.out).below hbx)
  have HR4 : Hid (RdB (w2.alloc (.cells (bv [b0, b1, b2, b3]).toArray 70)) (some ⟨w2.heap.size, 0, none⟩) [b0, b1, b2, b3]) := Lib.hid (rd_blk (heap_alloc_new w2 _))
  clear hbx
  have HAn' : A = none → n = 0 ∧ n = 0 := fun h => by have := (HAn.out h).1; rw [← HN.out] at this; exact ⟨this, this⟩
  have HAn2 := Lib.hid HAn'
  clear HAn HAn'
  have hz := HB2.out.size
  go_region_law ((refine step_appNewB (.tmp 12) (.tmp 13) A n bs ⟨w2.heap.size, 0, none⟩ 4 [b0, b1, b2, b3] rfl (by rfl) (by rw [← HN.out]; rfl) (by rw [← HN.out]; exact HAn2.out) HR.out.drew (by rfl) HR4.out.drew (by rw [← HN.out]; simp) (by rw [← HN.out]; simp; omega) ?_; intro v' w4 hown hb4; have HO : Hid (OwnB w4 w.heap.size v' (bs ++ [b0, b1, b2, b3])) := Lib.hid (hown.lower (by simp; omega)); have HB4 : Hid (Below w.heap.size w w4) := Lib.hid ((bd_drew (bb_alloc HB2.out _ hz)).trans (hb4.mono (by simp; omega))); clear hown hb4))
  go_wp2
  go_ret
  exact ⟨v', rfl, by rw [HSL.out]; exact HO.out, HB4.out⟩
end Go.Proofs.Ytnldnaogbadajaa.Tb

/- Unseal, walked. -/
set_option linter.unusedVariables false
set_option linter.unusedSimpArgs false
namespace Go.Proofs.Ytnldnaogbadajaa.Tb
open Go.RowKit

set_option maxHeartbeats 1600000 in
theorem Unseal_short (A : Option Addr) (n c : Nat) (w : World) (h : n < 4) :
    Calls Try.prog 27 #[.slice A n c] w fun e w' => e = .returned (.tuple #[.slice none 0 0, .int .i64 10]) ∧ w' = w := by
  go_enter Try.func27, Try.ntmps27
  go_wp2
  go_ret2
  exact ⟨rfl, rfl⟩

theorem arr_at (b o c : Nat) (w : World) : (Instr.arrayAt 70 (.slice (some ⟨b, o, none⟩) 4 c)).run Try.prog w = .ok (.pointer (some ⟨b, o, none⟩)) w := by
  simp [Instr.arrayAt, run_underlying Try.underlying70]
theorem eq4_d (d : Nat) (b0 b1 b2 b3 t0 t1 t2 t3 : Int) (w : World) :
    (Op.equalIn (d + 2) 70 (.agg #[.int .u8 b0, .int .u8 b1, .int .u8 b2, .int .u8 b3]) (.agg #[.int .u8 t0, .int .u8 t1, .int .u8 t2, .int .u8 t3])).run Try.prog w = .ok (b0 == t0 && (b1 == t1 && (b2 == t2 && b3 == t3))) w := by
  have e1 : ∀ (a b : Int) (w : World), (Op.equalIn (d + 1) 5 (.int .u8 a) (.int .u8 b)).run Try.prog w = .ok (a == b) w := fun a b w => run_equalIn_int w d 5 .u8 .u8 a b Try.underlying5
  have hz := Try.sizeOf5
  have ha := Try.isAgg5
  show (Op.equalIn ((d + 1) + 1) 70 _ _).run Try.prog w = _
  rw [Op.equalIn]
  simp only [Sem.run_bind, run_underlying Try.underlying70, Result.andThen_ok]
  simp only [hz, Result.andThen_ok]
  simp [Std.Legacy.Range.forIn_eq_forIn_range', List.range', part, ha, hz, e1]
  by_cases h0 : b0 = t0 <;> by_cases h1 : b1 = t1 <;> by_cases h2 : b2 = t2 <;> by_cases h3 : b3 = t3 <;> simp [*]
theorem eq4 (b0 b1 b2 b3 t0 t1 t2 t3 : Nat) (r : Bool) (hr : r = decide ([b0, b1, b2, b3] = [t0, t1, t2, t3])) (w : World) :
    (Op.equalIn 10000 70 (.agg #[.int .u8 b0, .int .u8 b1, .int .u8 b2, .int .u8 b3]) (.agg #[.int .u8 t0, .int .u8 t1, .int .u8 t2, .int .u8 t3])).run Try.prog w = .ok r w := by
  refine (eq4_d 9998 b0 b1 b2 b3 t0 t1 t2 t3 w).trans ?_
  rw [hr]
  congr 1
  rw [Bool.eq_iff_iff]
  simp
  omega
theorem ownB_empty (w : World) : OwnB (w.alloc (.cells #[] 5)) w.heap.size (.slice (some ⟨w.heap.size, 0, none⟩) 0 0) [] :=
  ⟨rfl, .inr ⟨w.heap.size, 0, #[], rfl, Nat.le_refl _, heap_alloc_new w _, Nat.le_refl _, by simp [maxLen], rfl, rfl⟩⟩
theorem guard4 : Try.prog.eqGuardType Try.prog.depth 70 = false := by kernel_rfl
set_option maxRecDepth 100000 in
set_option maxHeartbeats 3200000 in
theorem Unseal_good (b o m c : Nat) (ps : List Nat) (b0 b1 b2 b3 t0 t1 t2 t3 : Nat) (w : World) (hp : ps.length = m) (ha : RdB w (some ⟨b, o, none⟩) ps) (hb : Byt ps) (hm : m ≤ 1000000000) (hc : m + 4 ≤ c) (hs : sumB (crc ps) = [b0, b1, b2, b3]) (ht : [b0, b1, b2, b3] = [t0, t1, t2, t3])
    (k0 : w.cell? ⟨b, o + m, none⟩ = some (.int .u8 t0)) (k1 : w.cell? ⟨b, o + m + 1, none⟩ = some (.int .u8 t1)) (k2 : w.cell? ⟨b, o + m + 2, none⟩ = some (.int .u8 t2)) (k3 : w.cell? ⟨b, o + m + 3, none⟩ = some (.int .u8 t3)) :
    Calls Try.prog 27 #[.slice (some ⟨b, o, none⟩) (m + 4) c] w fun e w' => ∃ v, e = .returned (.tuple #[v, .int .i64 0]) ∧ OwnB w' w.heap.size v ps ∧ Below w.heap.size w w' := by
  have HSU := Lib.hid (fun w1 (hw : Below w.heap.size w w1) => Sum_any (some ⟨b, o, none⟩) c ps w1 (ha.below hw) hb (by omega))
  have HBO := Lib.hid (fun w1 => bytesOf_any (crc ps) b0 b1 b2 b3 w1 (crc_lt ps hb) hs)
  rw [hp] at HSU
  have HA := Lib.hid ha
  have HP := Lib.hid hp
  have hk := fun (w1 : World) (hw : Below w.heap.size w w1) => And.intro (below_cell hw k0) (And.intro (below_cell hw k1) (And.intro (below_cell hw k2) (below_cell hw k3)))
  have HK := Lib.hid hk
  have K0 := HK.out w.drew (bd_drew (Below.refl _ _))
  have g1 : (0 : Int) ≤ (m : Int) := by omega
  have g2 : (m : Int) + 4 ≤ (c : Int) := by omega
  have g3 : (m : Int) ≤ (c : Int) := by omega
  have g4 : (m : Int) ≤ (m : Int) + 4 := by omega
  have g5 : m ≤ c := by omega
  have g6 : m < c := by omega
  have g7 : ¬ c = m := by omega
  have heq := fun (w : World) => eq4 b0 b1 b2 b3 t0 t1 t2 t3 true (by simp [ht]) w
  have hgd := guard4
  have ha4 := arr_at b (o + m) (c - m)
  clear ha hb hs ht hk k0 k1 k2 k3 hp
  go_enter Try.func27, Try.ntmps27
  go_wp2_with fail
  go_region_held3 (fun w' => w'.cell? ⟨b, o + m, none⟩ = some (.int .u8 t0) ∧ w'.cell? ⟨b, o + m + 1, none⟩ = some (.int .u8 t1) ∧ w'.cell? ⟨b, o + m + 2, none⟩ = some (.int .u8 t2) ∧ w'.cell? ⟨b, o + m + 3, none⟩ = some (.int .u8 t3))
    (first | (with_reducible exact K2) | (with_reducible exact K1) | (with_reducible exact K0))
    (first
      | (go_at_call 41
         with_reducible refine (HSU.out _ (bd_drew (Below.refl _ _))).mono ?_
         rintro e v1 ⟨rfl, h1⟩
         have B1 := Lib.hid (show Below w.heap.size w v1 from (bd_drew (Below.refl _ _)).trans h1)
         have K1 := HK.out v1 B1.out
         clear h1)
      | (go_at_call 40
         with_reducible refine (HBO.out _).mono ?_
         rintro e v2 ⟨rfl, h2⟩
         have B2 := Lib.hid (show Below w.heap.size w v2 from B1.out.trans (h2.mono B1.out.size))
         have K2 := HK.out v2 B2.out
         clear h2))
  all_goals
    go_wp2_with (at_builtin; refine wpList_appB (.tmp 22) (.tmp 25) v2.heap.size (.slice (some ⟨v2.heap.size, 0, none⟩) 0 0) [] (some ⟨b, o, none⟩) c ps rfl rfl (by rfl) (ownB_empty v2) (by rw [HP.out]; rfl) (fun h => by cases h) (HA.out.below (bb_alloc B2.out _ B2.out.size)) (by rw [HP.out]; simp; omega) (by simp) ?_; intro v' w' hown hb3 _ _; have HO := Lib.hid hown; have HB3 := Lib.hid hb3; clear hown hb3)
    go_ret2
    exact ⟨v', rfl, HO.out.lower B2.out.size, (bb_alloc B2.out _ B2.out.size).trans (HB3.out.mono B2.out.size)⟩
set_option maxRecDepth 100000 in
set_option maxHeartbeats 3200000 in
theorem Unseal_bad (b o m c : Nat) (ps : List Nat) (b0 b1 b2 b3 t0 t1 t2 t3 : Nat) (w : World) (hp : ps.length = m) (ha : RdB w (some ⟨b, o, none⟩) ps) (hb : Byt ps) (hm : m ≤ 1000000000) (hc : m + 4 ≤ c) (hs : sumB (crc ps) = [b0, b1, b2, b3]) (ht : ¬ [b0, b1, b2, b3] = [t0, t1, t2, t3])
    (k0 : w.cell? ⟨b, o + m, none⟩ = some (.int .u8 t0)) (k1 : w.cell? ⟨b, o + m + 1, none⟩ = some (.int .u8 t1)) (k2 : w.cell? ⟨b, o + m + 2, none⟩ = some (.int .u8 t2)) (k3 : w.cell? ⟨b, o + m + 3, none⟩ = some (.int .u8 t3)) :
    Calls Try.prog 27 #[.slice (some ⟨b, o, none⟩) (m + 4) c] w fun e w' => e = .returned (.tuple #[.slice none 0 0, .int .i64 9]) ∧ Below w.heap.size w w' := by
  have HSU := Lib.hid (fun w1 (hw : Below w.heap.size w w1) => Sum_any (some ⟨b, o, none⟩) c ps w1 (ha.below hw) hb (by omega))
  have HBO := Lib.hid (fun w1 => bytesOf_any (crc ps) b0 b1 b2 b3 w1 (crc_lt ps hb) hs)
  rw [hp] at HSU
  have HA := Lib.hid ha
  have HP := Lib.hid hp
  have hk := fun (w1 : World) (hw : Below w.heap.size w w1) => And.intro (below_cell hw k0) (And.intro (below_cell hw k1) (And.intro (below_cell hw k2) (below_cell hw k3)))
  have HK := Lib.hid hk
  have K0 := HK.out w.drew (bd_drew (Below.refl _ _))
  have g1 : (0 : Int) ≤ (m : Int) := by omega
  have g2 : (m : Int) + 4 ≤ (c : Int) := by omega
  have g3 : (m : Int) ≤ (c : Int) := by omega
  have g4 : (m : Int) ≤ (m : Int) + 4 := by omega
  have g5 : m ≤ c := by omega
  have g6 : m < c := by omega
  have g7 : ¬ c = m := by omega
  have heq := fun (w : World) => eq4 b0 b1 b2 b3 t0 t1 t2 t3 false (decide_eq_false ht).symm w
  have hgd := guard4
  have ha4 := arr_at b (o + m) (c - m)
  clear ha hb hs ht hk k0 k1 k2 k3 hp
  go_enter Try.func27, Try.ntmps27
  go_wp2_with fail
  go_region_held3 (fun w' => w'.cell? ⟨b, o + m, none⟩ = some (.int .u8 t0) ∧ w'.cell? ⟨b, o + m + 1, none⟩ = some (.int .u8 t1) ∧ w'.cell? ⟨b, o + m + 2, none⟩ = some (.int .u8 t2) ∧ w'.cell? ⟨b, o + m + 3, none⟩ = some (.int .u8 t3))
    (first | (with_reducible exact K2) | (with_reducible exact K1) | (with_reducible exact K0))
    (first
      | (go_at_call 41
         with_reducible refine (HSU.out _ (bd_drew (Below.refl _ _))).mono ?_
         rintro e v1 ⟨rfl, h1⟩
         have B1 := Lib.hid (show Below w.heap.size w v1 from (bd_drew (Below.refl _ _)).trans h1)
         have K1 := HK.out v1 B1.out
         clear h1)
      | (go_at_call 40
         with_reducible refine (HBO.out _).mono ?_
         rintro e v2 ⟨rfl, h2⟩
         have B2 := Lib.hid (show Below w.heap.size w v2 from B1.out.trans (h2.mono B1.out.size))
         have K2 := HK.out v2 B2.out
         clear h2))
  all_goals
    go_wp2
    go_ret2
    exact ⟨rfl, B2.out⟩

theorem cut4 (bs : List Nat) (h : 4 ≤ bs.length) : ∃ ps t0 t1 t2 t3, bs = ps ++ [t0, t1, t2, t3] ∧ ps = bs.take (bs.length - 4) := by
  refine ⟨bs.take (bs.length - 4), bs.getD (bs.length - 4) 0, bs.getD (bs.length - 3) 0, bs.getD (bs.length - 2) 0, bs.getD (bs.length - 1) 0, ?_, rfl⟩
  apply List.ext_getElem?
  intro i
  by_cases hi : i < bs.length - 4
  · rw [List.getElem?_append_left (by rw [List.length_take]; omega), List.getElem?_take_of_lt hi]
  · rw [List.getElem?_append_right (by rw [List.length_take]; omega)]
    have hl : (bs.take (bs.length - 4)).length = bs.length - 4 := by rw [List.length_take]; omega
    rw [hl]
    by_cases hi2 : i < bs.length
    · have e : bs[i]? = some (bs.getD i 0) := by rw [List.getD_eq_getElem?_getD, List.getElem?_eq_getElem hi2]; rfl
      rcases (show i = bs.length - 4 ∨ i = bs.length - 3 ∨ i = bs.length - 2 ∨ i = bs.length - 1 by omega) with e1 | e1 | e1 | e1
      · rw [e, e1, show bs.length - 4 - (bs.length - 4) = 0 by omega]; rfl
      · rw [e, e1, show bs.length - 3 - (bs.length - 4) = 1 by omega]; rfl
      · rw [e, e1, show bs.length - 2 - (bs.length - 4) = 2 by omega]; rfl
      · rw [e, e1, show bs.length - 1 - (bs.length - 4) = 3 by omega]; rfl
    · rw [List.getElem?_eq_none (by omega), List.getElem?_eq_none (by simp; omega)]
theorem rdB_take {w : World} {A : Option Addr} {ps ts : List Nat} (h : RdB w A (ps ++ ts)) : RdB w A ps := fun hl => by
  obtain ⟨b, o, e, hc⟩ := h (by simp; omega)
  refine ⟨b, o, e, fun j hj => ?_⟩
  rw [hc j (by simp; omega), List.getD_eq_getElem?_getD, List.getD_eq_getElem?_getD, List.getElem?_append_left hj]
theorem Byt.app {xs ys : List Nat} : Byt (xs ++ ys) ↔ Byt xs ∧ Byt ys := by
  unfold Byt
  simp only [List.mem_append]
  exact ⟨fun h => ⟨fun x hx => h x (.inl hx), fun x hx => h x (.inr hx)⟩, fun h x hx => hx.elim (h.1 x) (h.2 x)⟩
theorem seal_iff {ps ts : List Nat} (hl : ts.length = 4) : sealL ps = ps ++ ts ↔ sumB (crc ps) = ts := by
  unfold sealL
  exact List.append_cancel_left_eq _ _ _ |>.to_iff

/-- The bytes are sealed: their payload comes back. -/
theorem Unseal_ok (A : Option Addr) (c : Nat) (ps : List Nat) (w : World) (ha : RdB w A (sealL ps)) (hb : Byt ps) (hm : ps.length ≤ 1000000000) (hc : ps.length + 4 ≤ c) :
    Calls Try.prog 27 #[.slice A (ps.length + 4) c] w fun e w' => ∃ v, e = .returned (.tuple #[v, .int .i64 0]) ∧ OwnB w' w.heap.size v ps ∧ Below w.heap.size w w' := by
  obtain ⟨b, o, rfl, hcl⟩ := ha (by rw [sealL_len]; omega)
  obtain ⟨b0, b1, b2, b3, hs⟩ : ∃ b0 b1 b2 b3, sumB (crc ps) = [b0, b1, b2, b3] := ⟨_, _, _, _, rfl⟩
  have at_ : ∀ i, i < 4 → w.cell? ⟨b, o + (ps.length + i), none⟩ = some (.int .u8 ([b0, b1, b2, b3].getD i 0 : Nat)) := fun i hi => by
    rw [hcl _ (by rw [sealL_len]; omega)]
    unfold sealL
    rw [hs, List.getD_eq_getElem?_getD, List.getElem?_append_right (by omega), show ps.length + i - ps.length = i by omega, List.getD_eq_getElem?_getD]
  exact Unseal_good b o ps.length c ps b0 b1 b2 b3 b0 b1 b2 b3 w rfl (rdB_take (ts := sumB (crc ps)) ha) hb hm hc hs rfl (by simpa using at_ 0 (by omega)) (by simpa [Nat.add_assoc] using at_ 1 (by omega)) (by simpa [Nat.add_assoc] using at_ 2 (by omega)) (by simpa [Nat.add_assoc] using at_ 3 (by omega))
/-- The bytes are not sealed. -/
theorem Unseal_no (A : Option Addr) (c : Nat) (bs : List Nat) (w : World) (ha : RdB w A bs) (hb : Byt bs) (hm : bs.length ≤ 1000000000) (hc : bs.length ≤ c) (h : ∀ ps, sealL ps ≠ bs) :
    Calls Try.prog 27 #[.slice A bs.length c] w fun e w' => ∃ k, (k = 9 ∨ k = 10) ∧ e = .returned (.tuple #[.slice none 0 0, .int .i64 k]) ∧ Below w.heap.size w w' := by
  by_cases h4 : bs.length < 4
  · refine (Unseal_short A bs.length c w h4).mono ?_
    rintro e w' ⟨rfl, rfl⟩
    exact ⟨10, .inr rfl, rfl, Below.refl _ _⟩
  · obtain ⟨ps, t0, t1, t2, t3, rfl, hps⟩ := cut4 bs (by omega)
    clear hps
    have hl : (ps ++ [t0, t1, t2, t3]).length = ps.length + 4 := by simp
    obtain ⟨b, o, rfl, hcl⟩ := ha (by omega)
    obtain ⟨b0, b1, b2, b3, hs⟩ : ∃ b0 b1 b2 b3, sumB (crc ps) = [b0, b1, b2, b3] := ⟨_, _, _, _, rfl⟩
    have ht : ¬ [b0, b1, b2, b3] = [t0, t1, t2, t3] := fun e => h ps ((seal_iff rfl).2 (hs.trans e))
    have at_ : ∀ i, i < 4 → w.cell? ⟨b, o + (ps.length + i), none⟩ = some (.int .u8 ([t0, t1, t2, t3].getD i 0 : Nat)) := fun i hi => by
      rw [hcl _ (by omega)]
      rw [List.getD_eq_getElem?_getD, List.getElem?_append_right (by omega), show ps.length + i - ps.length = i by omega, List.getD_eq_getElem?_getD]
    rw [hl]
    refine (Unseal_bad b o ps.length c ps b0 b1 b2 b3 t0 t1 t2 t3 w rfl (rdB_take ha) (Byt.app.1 hb).1 (by omega) (by omega) hs ht (by simpa using at_ 0 (by omega)) (by simpa [Nat.add_assoc] using at_ 1 (by omega)) (by simpa [Nat.add_assoc] using at_ 2 (by omega)) (by simpa [Nat.add_assoc] using at_ 3 (by omega))).mono ?_
    rintro e w' ⟨rfl, hbb⟩
    exact ⟨9, .inl rfl, rfl, hbb⟩
end Go.Proofs.Ytnldnaogbadajaa.Tb

/- Bytes as strings; bytes.Equal; the reference's Seal and Unseal, walked. -/
set_option linter.unusedVariables false
set_option linter.unusedSimpArgs false
namespace Go.Proofs.Ytnldnaogbadajaa.Tb
open Go.RowKit

def strN (xs : List Nat) : ByteArray := strOfNums (xs.map fun (x : Nat) => (x : Int))
theorem strN_list (xs : List Nat) : (strN xs).toList = xs.map fun x => UInt8.ofNat x := by
  unfold strN
  rw [Lib.strOfNums_toList]
  simp [Lib.bytesOf]
theorem map_u8_inj : ∀ {xs ys : List Nat}, Byt xs → Byt ys → xs.map (fun x => UInt8.ofNat x) = ys.map (fun x => UInt8.ofNat x) → xs = ys
  | [], [], _, _, _ => rfl
  | [], _ :: _, _, _, h => by simp at h
  | _ :: _, [], _, _, h => by simp at h
  | x :: xs, y :: ys, hx, hy, h => by
    simp only [List.map_cons, List.cons.injEq] at h
    have e1 := congrArg UInt8.toNat h.1
    have b1 := hx x (by simp)
    have b2 := hy y (by simp)
    simp only [UInt8.toNat_ofNat'] at e1
    rw [Nat.mod_eq_of_lt (by omega), Nat.mod_eq_of_lt (by omega)] at e1
    rw [e1, map_u8_inj (fun z hz => hx z (by simp [hz])) (fun z hz => hy z (by simp [hz])) h.2]
theorem strN_eqL {xs ys : List Nat} (hx : Byt xs) (hy : Byt ys) : ((strN xs).toList == (strN ys).toList) = decide (xs = ys) := by
  rw [strN_list, strN_list]
  by_cases h : xs = ys
  · subst h; simp
  · rw [decide_eq_false h, beq_eq_false_iff_ne]
    exact fun e => h (map_u8_inj hx hy e)
theorem strN_eq {xs ys : List Nat} (hx : Byt xs) (hy : Byt ys) : (strN xs == strN ys) = decide (xs = ys) := by
  rw [beq_toListBytes, strN_eqL hx hy]
theorem conv_B {w : World} {A : Option Addr} {c : Nat} {xs : List Nat} (h : RdB w A xs) : (convert 40 9 (.slice A xs.length c)).run Try.prog w = .ok (.string (strN xs)) w := by
  by_cases h0 : 0 < xs.length
  · obtain ⟨b, o, rfl, hc⟩ := h h0
    refine run_convert_bytes_arg w 40 5 Try.underlying40 Try.underlying5 b o xs.length c (xs.map fun (x : Nat) => (x : Int)) (by simp) (fun i hi => ?_) 9 Try.underlying9
    rw [hc i hi]
    simp [List.getD_eq_getElem?_getD, hi]
  · obtain rfl : xs = [] := List.eq_nil_of_length_eq_zero (by omega)
    cases A with
    | none => exact run_convert_bytes_nil w 40 5 Try.underlying40 Try.underlying5 0 c 9 Try.underlying9
    | some ad =>
      rw [show ([] : List Nat).length = 0 from rfl, run_convert_bytes_string w 40 9 5 (some ad) 0 c Try.underlying40 Try.underlying5 Try.underlying9]
      have hl : (loadCells ad 0).run Try.prog w = .ok (([] : List Int).map (Value.int .u8)).toArray w := by
        have := run_loadCells_list (P := Try.prog) w ad [] (fun j v hj => by simp at hj)
        simpa using this
      rw [run_bytesToString w ad 0 c [] hl]
      rfl

set_option maxHeartbeats 1600000 in
theorem Equal_any (A B : Option Addr) (ca cb : Nat) (xs ys : List Nat) (w : World) (ha : RdB w A xs) (hb : RdB w B ys) (hx : Byt xs) (hy : Byt ys) :
    Calls Try.prog 29 #[.slice A xs.length ca, .slice B ys.length cb] w fun e w' => e = .returned (.bool (decide (xs = ys))) ∧ w' = w := by
  have h1 := conv_B (c := ca) ha
  have h2 := conv_B (c := cb) hb
  have h3 := strN_eqL hx hy
  have h4 := strN_eq hx hy
  obtain ⟨r, hr⟩ : ∃ r : Bool, r = decide (xs = ys) := ⟨_, rfl⟩
  rw [← hr] at h3 h4 ⊢
  obtain ⟨sx, e1⟩ : ∃ s, s = strN xs := ⟨_, rfl⟩
  obtain ⟨sy, e2⟩ : ∃ s, s = strN ys := ⟨_, rfl⟩
  rw [← e1] at h1 h3 h4
  rw [← e2] at h2 h3 h4
  obtain ⟨n, hn⟩ : ∃ n, n = xs.length := ⟨_, rfl⟩
  obtain ⟨m, hm⟩ : ∃ m, m = ys.length := ⟨_, rfl⟩
  rw [← hn] at h1 ⊢
  rw [← hm] at h2 ⊢
  clear ha hb hx hy hr e1 e2 hn hm
  go_enter Try.func29, Try.ntmps29
  go_wp2
  go_ret
  exact ⟨rfl, rfl⟩

set_option maxRecDepth 100000 in
set_option maxHeartbeats 1600000 in
theorem RSeal_any (A : Option Addr) (c : Nat) (bs : List Nat) (w : World) (ha : RdB w A bs) (hA : A = none → bs.length = 0 ∧ c = 0) (hb : Byt bs) (hm : bs.length ≤ 1000000000) :
    Calls Try.prog 32 #[.slice A bs.length c] w fun e w' => ∃ v, e = .returned v ∧ OwnB w' w.heap.size v (sealL bs) ∧ Below w.heap.size w w' := by
  have HS := Lib.hid (RSum_any A c bs w ha hb hm)
  have hlt := crc_lt bs hb
  obtain ⟨v, hv⟩ : ∃ v, v = crc bs := ⟨_, rfl⟩
  rw [← hv] at HS hlt
  have HSL : Hid (sealL bs = bs ++ sumB v) := Lib.hid (by unfold sealL; rw [hv])
  have HA := Lib.hid ha
  have HAn := Lib.hid hA
  obtain ⟨n, hn⟩ : ∃ n, n = bs.length := ⟨_, rfl⟩
  rw [← hn] at hm HS ⊢
  have HN := Lib.hid hn
  have hr4 : ∀ W : World, RdB (W.alloc (.cells #[.int .u8 ((v : Int) % 256), .int .u8 ((v : Int) / 256 % 256), .int .u8 ((v : Int) / 65536 % 256), .int .u8 ((v : Int) / 16777216)] 5)) (some ⟨W.heap.size, 0, none⟩) (sumB v) := fun W => by
    refine rd_blk (t := 5) ?_
    have e : #[Value.int .u8 ((v : Int) % 256), .int .u8 ((v : Int) / 256 % 256), .int .u8 ((v : Int) / 65536 % 256), .int .u8 ((v : Int) / 16777216)] = (bv (sumB v)).toArray := by
      simp [bv, sumB]
      omega
    rw [e]
    exact heap_alloc_new W _
  have HR4 := Lib.hid hr4
  clear ha hA hb hn hv hr4
  go_enter Try.func32, Try.ntmps32
  go_wp2_with fail
  refine HS.out.mono ?_
  rintro e w1 ⟨rfl, rfl⟩
  clear HS
  go_wp2_with (first
    | (at_builtin; refine wpList_appB (.const (.slice none 0 0)) (.tmp 6) w1.heap.size (.slice none 0 0) [] A c bs rfl rfl (by rfl) (OwnB.nil _ _) (by rw [← HN.out]; rfl) HAn.out HA.out (by rw [← HN.out]; simp; omega) (Nat.le_refl _) ?_; intro v1 w2 hown hb1 _ _; have HO1 := Lib.hid hown; have HB1 := Lib.hid hb1; clear hown hb1)
    | (at_builtin; refine wpList_appB (.tmp 7) (.tmp 19) w1.heap.size v1 ([] ++ bs) (some ⟨w2.heap.size, 0, none⟩) 4 (sumB v) rfl rfl (by rfl) (HO1.out.below (bb_alloc (Below.refl _ _) _)) (by rfl) (fun h => by cases h) (HR4.out w2) (by rw [sumB_len, List.nil_append, ← HN.out]; omega) (by have := HB1.out.size; simp; omega) ?_; intro v2 w3 hown hb2 _ _; have HO2 := Lib.hid hown; have HB2 := Lib.hid hb2; clear hown hb2))
  go_ret
  exact ⟨v2, rfl, by rw [HSL.out]; exact HO2.out, (bb_alloc HB1.out _ HB1.out.size).trans HB2.out⟩
end Go.Proofs.Ytnldnaogbadajaa.Tb

/- Plain: numbers of variable length. -/
namespace Go.Proofs.Ytnldnaogbadajaa.Tb

def uv (v : Nat) : List Nat := if v < 128 then [v] else (v % 128 + 128) :: uv (v / 128)
termination_by v
decreasing_by omega
theorem uv_lo {v : Nat} (h : v < 128) : uv v = [v] := by rw [uv, if_pos h]
theorem uv_hi {v : Nat} (h : ¬ v < 128) : uv v = (v % 128 + 128) :: uv (v / 128) := by rw [uv, if_neg h]
theorem uv_byt (v : Nat) : ∀ x ∈ uv v, x < 256 := by
  induction v using Nat.strongRecOn with
  | ind v ih =>
    intro x hx
    by_cases h : v < 128
    · rw [uv_lo h] at hx
      simp at hx
      omega
    · rw [uv_hi h] at hx
      rcases List.mem_cons.1 hx with rfl | hx
      · omega
      · exact ih (v / 128) (by omega) x hx
theorem uv_pos (v : Nat) : 0 < (uv v).length := by
  by_cases h : v < 128
  · rw [uv_lo h]; simp
  · rw [uv_hi h]; simp
theorem uv_len (v : Nat) : ∀ k, v < 128 ^ (k + 1) → (uv v).length ≤ k + 1 := by
  induction v using Nat.strongRecOn with
  | ind v ih =>
    intro k hk
    by_cases h : v < 128
    · rw [uv_lo h]; simp
    · rw [uv_hi h]
      cases k with
      | zero => simp at hk; omega
      | succ k =>
        have := ih (v / 128) (by omega) k (by rw [Nat.pow_succ] at hk; omega)
        simpa using this
theorem uv_len10 {v : Nat} (h : v < 18446744073709551616) : (uv v).length ≤ 10 := uv_len v 9 (by
  have : (18446744073709551616 : Nat) ≤ 128 ^ (9 + 1) := by decide
  omega)

/-- What is read: the number, the bytes that it took, 0; or 0, 0, the error. -/
def tk : List Nat → Nat → Nat → Nat × Nat × Int
  | [], _, _ => (0, 0, 10)
  | c :: cs, i, v => if i = 9 ∧ c ≠ 1 then (0, 0, 9) else if c < 128 then (if c = 0 ∧ 0 < i then (0, 0, 9) else (v + c * 128 ^ i, i + 1, 0)) else tk cs (i + 1) (v + (c - 128) * 128 ^ i)

/-- A number that was written is read. -/
theorem tk_uv (rest : List Nat) (u : Nat) : ∀ (i v : Nat), (i = 0 ∨ 0 < u) → i ≤ 9 → u * 128 ^ i < 18446744073709551616 → tk (uv u ++ rest) i v = (v + u * 128 ^ i, i + (uv u).length, 0) := by
  induction u using Nat.strongRecOn with
  | ind u ih =>
    intro i v hi h9 hu
    by_cases h : u < 128
    · rw [uv_lo h]
      simp only [List.cons_append, List.nil_append, List.length_cons, List.length_nil]
      unfold tk
      have h1 : ¬ (i = 9 ∧ u ≠ 1) := by
        rintro ⟨rfl, hne⟩
        have : (128 : Nat) ^ 9 = 9223372036854775808 := by decide
        rw [this] at hu
        omega
      have h2 : ¬ (u = 0 ∧ 0 < i) := by omega
      rw [if_neg h1, if_pos h, if_neg h2]
    · rw [uv_hi h]
      simp only [List.cons_append, List.length_cons]
      unfold tk
      have h9' : i < 9 := by
        rcases Nat.lt_or_ge i 9 with h | h
        · exact h
        · obtain rfl : i = 9 := by omega
          have : (128 : Nat) ^ 9 = 9223372036854775808 := by decide
          rw [this] at hu
          omega
      have e1 : 128 ^ (i + 1) = 128 ^ i * 128 := Nat.pow_succ _ _
      have e2 : u / 128 * (128 ^ i * 128) ≤ u * 128 ^ i := by
        rw [Nat.mul_comm (128 ^ i) 128, ← Nat.mul_assoc]
        exact Nat.mul_le_mul_right _ (by omega)
      rw [if_neg (by omega), if_neg (by omega), ih (u / 128) (by omega) (i + 1) _ (.inr (by omega)) (by omega) (by rw [e1]; omega)]
      have e3 : (u % 128 + 128 - 128) * 128 ^ i + u / 128 * 128 ^ (i + 1) = u * 128 ^ i := by
        rw [e1, Nat.mul_comm (128 ^ i) 128, ← Nat.mul_assoc, ← Nat.add_mul]
        rw [show u % 128 + 128 - 128 + u / 128 * 128 = u by omega]
      rw [Nat.add_assoc, e3, Nat.add_assoc, Nat.add_comm 1]
theorem take_uv (u : Nat) (rest : List Nat) (h : u < 18446744073709551616) : tk (uv u ++ rest) 0 0 = (u, (uv u).length, 0) := by
  rw [tk_uv rest u 0 0 (.inl rfl) (by omega) (by rw [Nat.pow_zero, Nat.mul_one]; exact h)]
  rw [Nat.pow_zero, Nat.mul_one, Nat.zero_add, Nat.zero_add]
/-- What is read was written. -/
theorem tk_inv : ∀ (bs : List Nat) (i v a n : Nat) (e : Int), (∀ x ∈ bs, x < 256) → i ≤ 9 → tk bs i v = (a, n, e) → (e = 9 ∨ e = 10) ∧ a = 0 ∧ n = 0 ∨
    e = 0 ∧ ∃ u rest, bs = uv u ++ rest ∧ a = v + u * 128 ^ i ∧ n = i + (uv u).length ∧ u * 128 ^ i < 18446744073709551616 ∧ (i = 0 ∨ 0 < u)
  | [], i, v, a, n, e, _, _, h => by
    unfold tk at h
    injection h with h1 h
    injection h with h2 h3
    exact .inl ⟨.inr h3.symm, h1.symm, h2.symm⟩
  | c :: cs, i, v, a, n, e, hb, h9, h => by
    unfold tk at h
    have hc := hb c (by simp)
    by_cases h1 : i = 9 ∧ c ≠ 1
    · rw [if_pos h1] at h
      injection h with h1 h
      injection h with h2 h3
      exact .inl ⟨.inl h3.symm, h1.symm, h2.symm⟩
    · rw [if_neg h1] at h
      have e9 : (128 : Nat) ^ 9 = 9223372036854775808 := by decide
      by_cases h2 : c < 128
      · rw [if_pos h2] at h
        by_cases h3 : c = 0 ∧ 0 < i
        · rw [if_pos h3] at h
          injection h with h1 h
          injection h with h2 h3
          exact .inl ⟨.inl h3.symm, h1.symm, h2.symm⟩
        · rw [if_neg h3] at h
          injection h with k1 h
          injection h with k2 k3
          refine .inr ⟨k3.symm, c, cs, by rw [uv_lo h2]; rfl, k1.symm, by rw [uv_lo h2, ← k2]; rfl, ?_, by omega⟩
          rcases Nat.lt_or_ge i 9 with hi | hi
          · have := Nat.pow_le_pow_right (n := 128) (by omega) (show i ≤ 8 by omega)
            have e8 : (128 : Nat) ^ 8 = 72057594037927936 := by decide
            have := Nat.mul_le_mul (show c ≤ 127 by omega) this
            omega
          · obtain rfl : i = 9 := by omega
            rw [e9]
            omega
      · rw [if_neg h2] at h
        have hi : i < 9 := by omega
        rcases tk_inv cs (i + 1) (v + (c - 128) * 128 ^ i) a n e (fun x hx => hb x (by simp [hx])) (by omega) h with hh | ⟨k0, u, rest, k1, k2, k3, k4, k5⟩
        · exact .inl hh
        · have e1 : 128 ^ (i + 1) = 128 ^ i * 128 := Nat.pow_succ _ _
          have hu : 0 < u := by omega
          have ec : (c - 128 + u * 128) * 128 ^ i = (c - 128) * 128 ^ i + u * 128 ^ (i + 1) := by
            rw [e1, Nat.mul_comm (128 ^ i) 128, ← Nat.mul_assoc, ← Nat.add_mul]
          have euv : uv (c - 128 + u * 128) = c :: uv u := by
            rw [uv_hi (by omega), show (c - 128 + u * 128) % 128 + 128 = c by omega, show (c - 128 + u * 128) / 128 = u by omega]
          refine .inr ⟨k0, c - 128 + u * 128, rest, by rw [euv, k1]; rfl, by rw [k2, ec]; omega, by rw [k3, euv]; simp; omega, ?_, by omega⟩
          rw [ec]
          -- the sum is below 2^64: u * 128^(i+1) is a multiple of 128^(i+1)
          have hd : 128 ^ (i + 1) * 128 ^ (9 - (i + 1)) = 128 ^ 9 := by rw [← Nat.pow_add, show i + 1 + (9 - (i + 1)) = 9 by omega]
          rw [e9] at hd
          have hlt : (c - 128) * 128 ^ i < 128 ^ (i + 1) := by
            rw [e1, Nat.mul_comm]
            exact Nat.mul_lt_mul_of_pos_left (by omega) (Nat.pow_pos (by omega))
          obtain ⟨P, hP⟩ : ∃ P, P = 128 ^ (i + 1) := ⟨_, rfl⟩
          obtain ⟨Q, hQ⟩ : ∃ Q, Q = 128 ^ (9 - (i + 1)) := ⟨_, rfl⟩
          rw [← hP] at hd hlt k4 ⊢
          rw [← hQ] at hd
          have hP0 : 0 < P := by rw [hP]; exact Nat.pow_pos (by omega)
          have h2Q : u < 2 * Q := by
            rcases Nat.lt_or_ge u (2 * Q) with hh | hh
            · exact hh
            · have := Nat.mul_le_mul_right P hh
              have e5 : 2 * Q * P = 2 * (P * Q) := by rw [Nat.mul_assoc, Nat.mul_comm Q P]
              omega
          have : (u + 1) * P ≤ 2 * Q * P := Nat.mul_le_mul_right P (by omega)
          have e5 : 2 * Q * P = 2 * (P * Q) := by rw [Nat.mul_assoc, Nat.mul_comm Q P]
          have e6 : (u + 1) * P = u * P + P := by rw [Nat.add_mul, Nat.one_mul]
          omega
/-- What is read, in one word. -/
theorem take_cases (bs : List Nat) (hb : ∀ x ∈ bs, x < 256) : (∃ u rest, bs = uv u ++ rest ∧ u < 18446744073709551616 ∧ tk bs 0 0 = (u, (uv u).length, 0)) ∨ (∃ e : Int, (e = 9 ∨ e = 10) ∧ tk bs 0 0 = (0, 0, e) ∧ ∀ u rest, u < 18446744073709551616 → bs ≠ uv u ++ rest) := by
  obtain ⟨⟨a, n, e⟩, hr⟩ : ∃ r, r = tk bs 0 0 := ⟨_, rfl⟩
  rcases tk_inv bs 0 0 a n e hb (by omega) hr.symm with ⟨he, rfl, rfl⟩ | ⟨rfl, u, rest, k1, k2, k3, k4, _⟩
  · refine .inr ⟨e, he, hr.symm, fun u rest hu hbs => ?_⟩
    rw [hbs, take_uv u rest hu] at hr
    injection hr with h1 hr
    injection hr with h2 h3
    omega
  · refine .inl ⟨u, rest, k1, by rw [Nat.pow_zero, Nat.mul_one] at k4; exact k4, ?_⟩
    rw [← hr]
    rw [Nat.pow_zero, Nat.mul_one, Nat.zero_add] at k2
    rw [Nat.zero_add] at k3
    rw [k2, k3]
theorem uv_inj {a b : Nat} {r s : List Nat} (ha : a < 18446744073709551616) (hb : b < 18446744073709551616) (h : uv a ++ r = uv b ++ s) : a = b ∧ r = s := by
  have e := take_uv a r ha
  rw [h, take_uv b s hb] at e
  injection e with e1 e
  subst e1
  exact ⟨rfl, List.append_cancel_left h⟩
end Go.Proofs.Ytnldnaogbadajaa.Tb

/- Numbers of variable length are written, walked. -/
set_option linter.unusedVariables false
set_option linter.unusedSimpArgs false
namespace Go.Proofs.Ytnldnaogbadajaa.Tb
open Go.RowKit

def zer (k : Nat) : List Value := List.replicate k (Value.int .u8 0)
theorem make_B (n c : Nat) (hnc : n ≤ c) (hc : c ≤ 5000000000) (W : World) : (Instr.makeSlice 40 (.int .i64 (n : Int)) (.int .i64 (c : Int))).run Try.prog W = .ok (.slice (some ⟨W.heap.size, 0, none⟩) n c) (W.alloc (.cells (zer c).toArray 5)) := by
  obtain ⟨i0, hi0, hz0, hz1, hz2⟩ := info_parts infoB
  have hr := run_make (P := Try.prog) W 40 5 i0 _ Try.underlying40 hi0 hz0 .i64 .i64 n c (by omega) (by omega) (by rw [hz2]; omega) (by omega)
  have e : madeCells (Value.int .u8 0).cells c = (zer c).toArray := by
    apply Array.ext_getElem?
    intro i
    by_cases hi : i < c
    · simp [madeCells, zer, hi, Value.cells, Nat.mod_one]
    · rw [Array.getElem?_eq_none (by simp [madeCells]; omega), Array.getElem?_eq_none (by simp [zer]; omega)]
  rw [hr, hz1, Int.toNat_natCast, Int.toNat_natCast, Nat.mul_one, e]
theorem or128 (x : Nat) (h : x < 256) : x ||| 128 = x % 128 + 128 := by
  have := (by decide +kernel : ∀ y : Fin 256, (y.val ||| 128) = y.val % 128 + 128) ⟨x, h⟩
  exact this
theorem u8_or128 (u : Nat) : bits BinOp.or IntKind.u8 ((u : Int) % 256) 128 = ((u % 128 + 128 : Nat) : Int) := by
  have := u8_or_nat (u % 256) 128 (by omega) (by omega)
  rw [or128 _ (by omega), show u % 256 % 128 = u % 128 by omega] at this
  rw [← this]
  rfl
theorem rd_one (W : World) (t : TypeId) (y : Nat) : RdB (W.alloc (.cells #[.int .u8 (y : Int)] t)) (some ⟨W.heap.size, 0, none⟩) [y] := rd_blk (t := t) (heap_alloc_new W _)
theorem ownB_splice {w : World} {g n k : Nat} {xs : List Nat} (hn : xs.length = n) (hk : n + k ≤ maxLen) (h : w.heap[g]? = some (.cells (splice (zer (n + k)) 0 (bv xs)).toArray 5 (0, 0))) {base : Nat} (hb : base ≤ g) : OwnB w base (.slice (some ⟨g, 0, none⟩) n (n + k)) xs := by
  unfold OwnB
  rw [hn]
  have hl : (bv xs).length = n := by rw [bv_len, hn]
  refine ⟨by omega, .inr ⟨g, n + k, _, rfl, hb, h, by omega, hk, ?_, ?_⟩⟩
  · simp [splice, zer, hl]
  · simp only [splice, List.take_zero, List.nil_append, Nat.zero_add, Nat.mul_one]
    show List.take n (bv xs ++ _) = bv xs
    rw [← hl, List.take_left]

set_option maxRecDepth 100000 in
set_option maxHeartbeats 3200000 in
theorem PutUvarint_any (A : Option Addr) (c : Nat) (xs : List Nat) (v : Nat) (w : World) (ha : RdB w A xs) (hm : xs.length ≤ 1000000000) (hv : v < 18446744073709551616) :
    Calls Try.prog 39 #[.slice A xs.length c, .int .u64 v] w fun e w' => ∃ v', e = .returned v' ∧ OwnB w' w.heap.size v' (xs ++ uv v) ∧ Below w.heap.size w w' := by
  have HU := Lib.hid (uv_len10 hv)
  have HA := Lib.hid ha
  obtain ⟨n, hn⟩ : ∃ n, n = xs.length := ⟨_, rfl⟩
  rw [← hn] at hm ⊢
  have HN := Lib.hid hn
  have hmk : ∀ W : World, (Instr.makeSlice 40 (.int .i64 (n : Int)) (.int .i64 ((n : Int) + 10))).run Try.prog W = .ok (.slice (some ⟨W.heap.size, 0, none⟩) n (n + 10)) (W.alloc (.cells (zer (n + 10)).toArray 5)) := fun W => make_B n (n + 10) (by omega) (by omega) W
  have hpos : 0 < (bv xs).length → (some (⟨w.heap.size, 0, none⟩ : Addr)) = some ⟨w.heap.size, 0, none⟩ ∧ ∃ ad, A = some ad ∧ ∀ j u, (bv xs)[j]? = some u → (w.alloc (.cells (zer (n + 10)).toArray 5)).cell? (ad.add j) = some u := fun h => by
    have hr := (ha.below (bb_alloc (Below.refl w.heap.size w) (.cells (zer (n + 10)).toArray 5)))
    obtain ⟨b, o, rfl, _⟩ := hr (by rw [bv_len] at h; exact h)
    exact ⟨rfl, _, rfl, rd_src hr⟩
  have HPOS := Lib.hid hpos
  have HL : Hid ((bv xs).length = n) := Lib.hid (by rw [bv_len, hn])
  clear ha hn hv hpos
  go_enter Try.func39, Try.ntmps39
  go_wp2_with (with_reducible refine wpList_copy_splice rfl (.tmp 12) (.tmp 13) _ _ rfl 5 Try.underlying40 (by kernel_rfl) (some ⟨w.heap.size, 0, none⟩) A n (n + 10) n c rfl rfl w.heap.size 0 (zer (n + 10)) 5 (heap_alloc_new w _) (bv xs) (by rw [HL.out]; exact (Nat.min_self n).symm) HPOS.out (by rw [HL.out]; simp [zer]) (bv_one xs) w.heap.size w (bb_alloc (Below.refl _ _) _) (Nat.le_refl _) ?_; intro w1 hh hb1; have HB1 := Lib.hid hb1; clear hb1)
  have HO : Hid (OwnB w1 w.heap.size (.slice (some ⟨w.heap.size, 0, none⟩) n (n + 10)) xs) := Lib.hid (ownB_splice HN.out.symm (by simp only [maxLen]; omega) hh (Nat.le_refl _))
  clear hh HPOS hmk
  go_loopw [1, 5] (fun u s wr => ∃ (x : Nat) (pre : List Nat), u = .int .u64 x ∧ Hid (pre ++ uv x = uv v) ∧ Hid (OwnB wr w.heap.size s (xs ++ pre)) ∧ Hid (Below w.heap.size w wr)) (fun u _ _ => (intOf u).toNat)
  case atStart => exact ⟨v, [], rfl, Lib.hid rfl, by rw [List.append_nil]; exact HO, HB1⟩
  case round =>
    obtain ⟨x, pre, rfl, HP, HOW, HB⟩ := hrel
    have hpl : n + (pre.length + (uv x).length) ≤ n + 10 := by have := congrArg List.length HP.out; rw [List.length_append] at this; have := HU.out; omega
    have hup := uv_pos x
    have hsz := HB.out.size
    have HXL : Hid ((xs ++ pre).length = n + pre.length) := Lib.hid (by rw [List.length_append, HN.out])
    by_cases hlt : x < 128
    · have HUX := Lib.hid (uv_lo hlt)
      go_wp2_with (at_builtin; refine wpList_appB (.tmp 25) (.tmp 28) w.heap.size _ (xs ++ pre) (some ⟨wr.heap.size, 0, none⟩) 1 [x] rfl rfl (by rfl) (HOW.out.below (bb_alloc (Below.refl _ _) _)) (by rfl) (fun h => by cases h) (rd_one wr _ x) (by rw [HXL.out]; simp; omega) (by simp; omega) ?_; intro v2 w3 hown hb2 _ _; have HO2 := Lib.hid hown; have HB2 := Lib.hid hb2; clear hown hb2)
      go_ret
      exact ⟨v2, rfl, by rw [← HP.out, HUX.out, ← List.append_assoc]; exact HO2.out, (bb_alloc HB.out _ hsz).trans HB2.out⟩
    · have HUX := Lib.hid (uv_hi hlt)
      obtain ⟨y, hy⟩ : ∃ y, y = x % 128 + 128 := ⟨_, rfl⟩
      have e128 : bits BinOp.or IntKind.u8 ((x : Int) % 256) 128 = (y : Int) := by rw [hy]; exact u8_or128 x
      have hge : (128 : Int) ≤ (x : Int) := by omega
      rw [← hy] at HUX
      have HY := Lib.hid hy
      clear hy
      go_wp2_with (at_builtin; refine wpList_appB (.tmp 17) (.tmp 21) w.heap.size _ (xs ++ pre) (some ⟨wr.heap.size, 0, none⟩) 1 [y] rfl rfl (by rfl) (HOW.out.below (bb_alloc (Below.refl _ _) _)) (by rfl) (fun h => by cases h) (rd_one wr _ y) (by rw [HXL.out]; simp; omega) (by simp; omega) ?_; intro v2 w3 hown hb2 _ _; have HO2 := Lib.hid hown; have HB2 := Lib.hid hb2; clear hown hb2)
      go_roundw
      case measure => simp [intOf]; omega
      case rel => exact ⟨x / 128, pre ++ [y], by go_num, Lib.hid (by rw [← HP.out, HUX.out, List.append_assoc]; rfl), Lib.hid (by rw [← List.append_assoc]; exact HO2.out), Lib.hid ((bb_alloc HB.out _ hsz).trans HB2.out)⟩

set_option maxRecDepth 100000 in
set_option maxHeartbeats 3200000 in
theorem RUvarint_any (v : Nat) (w : World) (hv : v < 18446744073709551616) :
    Calls Try.prog 45 #[.int .u64 v] w fun e w' => ∃ v', e = .returned v' ∧ OwnB w' w.heap.size v' (uv v) ∧ Below w.heap.size w w' := by
  have HU := Lib.hid (uv_len10 hv)
  have hv' : v ≤ 18446744073709551615 := by omega
  clear hv
  go_enter Try.func45, Try.ntmps45
  go_wp2
  go_loopw [0, 3] (fun u s wr => ∃ (x : Nat) (pre : List Nat), u = .int .u64 x ∧ x ≤ v ∧ Hid (pre ++ uv x = uv v) ∧ Hid (OwnB wr w.heap.size s pre) ∧ Hid (Below w.heap.size w wr)) (fun u _ _ => (intOf u).toNat)
  case atStart => exact ⟨v, [], rfl, Nat.le_refl _, Lib.hid rfl, Lib.hid (OwnB.nil _ _), Lib.hid (Below.refl _ _)⟩
  case round =>
    obtain ⟨x, pre, rfl, hxv, HP, HOW, HB⟩ := hrel
    have hpl : pre.length + (uv x).length ≤ 10 := by have := congrArg List.length HP.out; rw [List.length_append] at this; have := HU.out; omega
    have hup := uv_pos x
    have hsz := HB.out.size
    by_cases hlt : x < 128
    · have HUX := Lib.hid (uv_lo hlt)
      go_wp2_with (at_builtin; refine wpList_appB (.tmp 15) (.tmp 18) w.heap.size _ pre (some ⟨wr.heap.size, 0, none⟩) 1 [x] rfl rfl (by rfl) (HOW.out.below (bb_alloc (Below.refl _ _) _)) (by rfl) (fun h => by cases h) (rd_one wr _ x) (by simp; omega) (by simp; omega) ?_; intro v2 w3 hown hb2 _ _; have HO2 := Lib.hid hown; have HB2 := Lib.hid hb2; clear hown hb2)
      go_ret
      exact ⟨v2, rfl, by rw [← HP.out, HUX.out]; exact HO2.out, (bb_alloc HB.out _ hsz).trans HB2.out⟩
    · have HUX := Lib.hid (uv_hi hlt)
      obtain ⟨y, hy⟩ : ∃ y, y = x % 128 + 128 := ⟨_, rfl⟩
      have e128 : (x : Int) % 128 + 128 = (y : Int) := by omega
      have hge : (128 : Int) ≤ (x : Int) := by omega
      rw [← hy] at HUX
      have HY := Lib.hid hy
      clear hy
      go_wp2_with (at_builtin; refine wpList_appB (.tmp 6) (.tmp 11) w.heap.size _ pre (some ⟨wr.heap.size, 0, none⟩) 1 [y] rfl rfl (by rfl) (HOW.out.below (bb_alloc (Below.refl _ _) _)) (by rfl) (fun h => by cases h) (rd_one wr _ y) (by simp; omega) (by simp; omega) ?_; intro v2 w3 hown hb2 _ _; have HO2 := Lib.hid hown; have HB2 := Lib.hid hb2; clear hown hb2)
      go_roundw
      case measure => simp [intOf]; omega
      case rel => exact ⟨x / 128, pre ++ [y], by go_num, by omega, Lib.hid (by rw [← HP.out, HUX.out, List.append_assoc]; rfl), Lib.hid HO2.out, Lib.hid ((bb_alloc HB.out _ hsz).trans HB2.out)⟩
end Go.Proofs.Ytnldnaogbadajaa.Tb
