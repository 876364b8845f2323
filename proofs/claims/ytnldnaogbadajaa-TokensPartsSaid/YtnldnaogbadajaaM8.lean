/- Walks and plain laws: reading bits, blocks, tables. -/
import Derived.Test.YtnldnaogbadajaaM2
import Derived.Test.YtnldnaogbadajaaM1
import Derived.Test.YtnldnaogbadajaaM7
import Derived.WalkMore
import Derived.ScopeJumps
import Derived.Deep.DeepCutAuto
import Derived.BigRegion
import Derived.Deep.QuietTactic
import Derived.BigQuiet

/- Plain: bits that are read. -/
set_option linter.unusedVariables false
namespace Go.Proofs.Ytnldnaogbadajaa.Tb

def bitN (bs : List Nat) (i : Nat) : Nat := bs.getD (i / 8) 0 / 2 ^ (7 - i % 8) % 2
def takeN (bs : List Nat) (at_ : Nat) : Nat → Nat
  | 0 => 0
  | n + 1 => 2 * takeN bs at_ n + bitN bs (at_ + n)
theorem bitN_lt (bs : List Nat) (i : Nat) : bitN bs i < 2 := Nat.mod_lt _ (by omega)
theorem takeN_lt (bs : List Nat) (at_ : Nat) : ∀ n, takeN bs at_ n < 2 ^ n
  | 0 => by simp [takeN]
  | n + 1 => by
    have h1 := takeN_lt bs at_ n
    have h2 := bitN_lt bs (at_ + n)
    rw [takeN, Nat.pow_succ]
    omega
theorem bitV_nat (l : List Bool) (i w : Nat) : bitV l i w = w * (l.getD i false).toNat := by
  unfold bitV
  cases l.getD i false <;> simp
theorem byte_bit (x0 x1 x2 x3 x4 x5 x6 x7 r : Nat) (h : x0 ≤ 1 ∧ x1 ≤ 1 ∧ x2 ≤ 1 ∧ x3 ≤ 1 ∧ x4 ≤ 1 ∧ x5 ≤ 1 ∧ x6 ≤ 1 ∧ x7 ≤ 1) (f : Nat → Nat) (hf : f 0 = x0 ∧ f 1 = x1 ∧ f 2 = x2 ∧ f 3 = x3 ∧ f 4 = x4 ∧ f 5 = x5 ∧ f 6 = x6 ∧ f 7 = x7) (hr : r < 8) :
    (128 * x0 + 64 * x1 + 32 * x2 + 16 * x3 + 8 * x4 + 4 * x5 + 2 * x6 + 1 * x7) / 2 ^ (7 - r) % 2 = f r := by
  rcases (show r = 0 ∨ r = 1 ∨ r = 2 ∨ r = 3 ∨ r = 4 ∨ r = 5 ∨ r = 6 ∨ r = 7 by omega) with rfl | rfl | rfl | rfl | rfl | rfl | rfl | rfl <;> simp only [Nat.sub_zero, Nat.sub_self, Nat.reduceSub, Nat.reducePow] <;> omega
theorem pk_bit (l : List Bool) (i : Nat) (h : i < l.length) : bitN (pk l) i = (l.getD i false).toNat := by
  unfold bitN
  rw [pk_get l (i / 8) (by omega)]
  unfold byteAt
  simp only [bitV_nat]
  have hb : ∀ k, (l.getD (8 * (i / 8) + k) false).toNat ≤ 1 := fun k => Bool.toNat_le _
  have h0 := hb 0
  rw [Nat.add_zero] at h0
  rw [byte_bit _ _ _ _ _ _ _ _ (i % 8) ⟨h0, hb 1, hb 2, hb 3, hb 4, hb 5, hb 6, hb 7⟩ (fun k => (l.getD (8 * (i / 8) + k) false).toNat) ⟨rfl, rfl, rfl, rfl, rfl, rfl, rfl, rfl⟩ (Nat.mod_lt _ (by omega))]
  rw [show 8 * (i / 8) + i % 8 = i by omega]
theorem testBit_nat (v i : Nat) : (v.testBit i).toNat = v / 2 ^ i % 2 := by
  rw [Nat.testBit_eq_decide_div_mod_eq]
  have := Nat.mod_lt (v / 2 ^ i) (show 0 < 2 by omega)
  rcases (show v / 2 ^ i % 2 = 0 ∨ v / 2 ^ i % 2 = 1 by omega) with e | e <;> simp [e]
theorem takeN_pre (bs : List Nat) (at_ v n : Nat) (hv : v < 2 ^ n) (h : ∀ t, t < n → bitN bs (at_ + t) = (v.testBit (n - 1 - t)).toNat) : ∀ k, k ≤ n → takeN bs at_ k = v / 2 ^ (n - k)
  | 0, _ => by rw [takeN, Nat.sub_zero, Nat.div_eq_of_lt hv]
  | k + 1, hk => by
    rw [takeN, takeN_pre bs at_ v n hv h k (by omega), h k (by omega), testBit_nat, show n - 1 - k = n - (k + 1) by omega, show n - k = n - (k + 1) + 1 by omega, Nat.pow_succ, ← Nat.div_div_eq_div_mul]
    omega
theorem takeN_low (a c : List Bool) (v n : Nat) (hv : v < 2 ^ n) : takeN (pk (a ++ (lowB v n ++ c))) a.length n = v := by
  have := takeN_pre (pk (a ++ (lowB v n ++ c))) a.length v n hv (fun t ht => by
    rw [pk_bit _ _ (by simp only [List.length_append, lowB_len]; omega), List.getD_eq_getElem?_getD, List.getElem?_append_right (by omega), Nat.add_sub_cancel_left, List.getElem?_append_left (by rw [lowB_len]; exact ht), ← List.getD_eq_getElem?_getD, lowB_get v n t ht]) n (Nat.le_refl _)
  rw [this, Nat.sub_self, Nat.pow_zero, Nat.div_one]
end Go.Proofs.Ytnldnaogbadajaa.Tb

/- bitio.Reader, walked: bit, take, Bits, Pos, NewReader. -/
set_option linter.unusedVariables false
set_option linter.unusedSimpArgs false
namespace Go.Proofs.Ytnldnaogbadajaa.Tb
open Go.RowKit

set_option maxHeartbeats 3200000 in
theorem bit_any (p c : Nat) (A : Option Addr) (bs : List Nat) (i : Nat) (w : World) (h0 : w.cell? ⟨p, 0, none⟩ = some (.slice A bs.length c)) (hr : RdB w A bs) (hb : Byt bs) (hi : i < 8 * bs.length) (hm : bs.length ≤ 1000000000) :
    Calls Try.prog 97 #[.pointer (some ⟨p, 0, none⟩), .int .i64 i] w fun e w' => e = .returned (.int .u64 (bitN bs i)) ∧ w' = w := by
  obtain ⟨b, o, rfl, cc⟩ := hr (by omega)
  obtain ⟨j, hj⟩ : ∃ j, j = i / 8 := ⟨_, rfl⟩
  obtain ⟨r, hr8⟩ : ∃ r, r = i % 8 := ⟨_, rfl⟩
  have hjl : j < bs.length := by omega
  have ck := cc j hjl
  have hx := hb.at_ j
  have HBI : Hid (bitN bs i = bs.getD j 0 / 2 ^ (7 - r) % 2) := Lib.hid (by unfold bitN; rw [hj, hr8])
  obtain ⟨x, hxx⟩ : ∃ x, x = bs.getD j 0 := ⟨_, rfl⟩
  rw [← hxx] at ck hx HBI
  obtain ⟨n, hn⟩ : ∃ n, n = bs.length := ⟨_, rfl⟩
  rw [← hn] at h0 hjl hm hi
  have t1 : bits BinOp.and IntKind.i64 (i : Int) 7 = (r : Int) := by rw [i64_and7 _ (by omega), hr8]
  have e8 : (i : Int) / 8 = (j : Int) := by omega
  obtain ⟨s, hs⟩ : ∃ s, s = 7 - r := ⟨_, rfl⟩
  have es : (7 : Int) - (r : Int) = (s : Int) := by omega
  rw [← hs] at HBI
  obtain ⟨y, hy⟩ : ∃ y, y = x / 2 ^ s := ⟨_, rfl⟩
  have ey : (x : Int) / 2 ^ s = (y : Int) := by rw [hy]; push_cast; rfl
  have hyx : y < 256 := by rw [hy]; exact Nat.lt_of_le_of_lt (Nat.div_le_self _ _) hx
  have HBY : Hid (bitN bs i = y % 2) := Lib.hid (by rw [HBI.out, hy])
  have t2 := u64_and1 y (by omega)
  have g1 : (0 : Int) ≤ (j : Int) := by omega
  have g2 : (j : Int) < (n : Int) := by omega
  have hs8 : s < 8 := by omega
  clear hr hb cc hxx hn hj hr8 hs hy hi HBI
  go_enter Try.func97, Try.ntmps97
  go_wp2
  go_ret
  rw [HBY.out]
  exact ⟨rfl, rfl⟩
set_option maxHeartbeats 1600000 in
theorem size_any (p n : Nat) (w : World) (h1 : w.cell? ⟨p, 1, none⟩ = some (.int .i64 n)) : Calls Try.prog 88 #[.pointer (some ⟨p, 0, none⟩)] w fun e w' => e = .returned (.int .i64 n) ∧ w' = w := by
  go_enter Try.func88, Try.ntmps88
  go_wp2
  go_ret
  exact ⟨rfl, rfl⟩
/-- A reader of n bits, at a position. -/
structure RdSt (w : World) (p : Nat) (bs : List Nat) (n pos : Nat) : Prop where
  it : ∃ A c, Blk w p 123 #[.slice A bs.length c, .int .i64 n, .int .i64 pos] ∧ RdB w A bs ∧ ∀ b, A = some b → b.block < p
  byt : Byt bs
  le : n ≤ 8 * bs.length
  len : bs.length ≤ 100000000
theorem RdSt.below {w w' : World} {p : Nat} {bs : List Nat} {n pos : Nat} (h : RdSt w p bs n pos) (hb : Below w.heap.size w w') : RdSt w' p bs n pos := by
  obtain ⟨A, c, h1, h2, h3⟩ := h.it
  exact ⟨⟨A, c, (hb.block p h1.lt).trans h1, h2.below hb, h3⟩, h.byt, h.le, h.len⟩
theorem RdSt.keep {w w' : World} {p : Nat} {bs : List Nat} {n pos : Nat} (h : RdSt w p bs n pos) (hb : Below (p + 1) w w') : RdSt w' p bs n pos := by
  obtain ⟨A, c, h1, h2, h3⟩ := h.it
  refine ⟨⟨A, c, (hb.block p (by omega)).trans h1, fun hl => ?_, h3⟩, h.byt, h.le, h.len⟩
  obtain ⟨b, off, e, hc⟩ := h2 hl
  refine ⟨b, off, e, fun j hj => ?_⟩
  have h5 := h3 _ e
  simp only at h5
  exact (hb.cell (p := ⟨b, off + j, none⟩) (by simp only; omega)).trans (hc j hj)
theorem RdSt.lt {w : World} {p : Nat} {bs : List Nat} {n pos : Nat} (h : RdSt w p bs n pos) : p < w.heap.size := by
  obtain ⟨A, c, h1, _⟩ := h.it
  exact h1.lt
theorem RdB.set_ {w : World} {A : Option Addr} {xs : List Nat} (h : RdB w A xs) (g j : Nat) (u : Value) (hne : ∀ b, A = some b → b.block ≠ g) : RdB (w.setCell ⟨g, j, none⟩ u) A xs := by
  intro hl
  obtain ⟨b, off, e, hc⟩ := h hl
  have hb : b ≠ g := hne _ e
  exact ⟨b, off, e, fun j hj => by rw [World.cell?_setCell_far _ _ _ _ (Ne.symm hb)]; exact hc j hj⟩
theorem RdSt.move {w : World} {p : Nat} {bs : List Nat} {n pos : Nat} (h : RdSt w p bs n pos) (q : Nat) : RdSt (w.setCell ⟨p, 2, none⟩ (.int .i64 (q : Int))) p bs n q := by
  obtain ⟨A, c, h1, h2, h3⟩ := h.it
  refine ⟨⟨A, c, ?_, h2.set_ _ _ _ (fun b hb => Nat.ne_of_lt (h3 b hb)), h3⟩, h.byt, h.le, h.len⟩
  have h9 := h1.set_ 2 (.int .i64 (q : Int))
  simpa using h9
theorem or_bit (v b : Nat) (hv : v < 9223372036854775808) (hb : b < 2) : bits BinOp.or IntKind.u64 (2 * (v : Int)) (b : Int) = ((2 * v + b : Nat) : Int) := by
  have h1 := u64_or_nat (2 * v) b (by omega) (by omega)
  have h2 := Nat.two_pow_add_eq_or_of_lt (i := 1) (b := b) (by simpa using hb) v
  rw [Nat.pow_one] at h2
  rw [← h2] at h1
  rw [← h1]
  congr 1

set_option maxRecDepth 100000 in
set_option maxHeartbeats 6400000 in
theorem take_any (p : Nat) (bs : List Nat) (n pos at_ k : Nat) (w : World) (hS : RdSt w p bs n pos) (ha : at_ ≤ n) (hk : k ≤ 64) :
    Calls Try.prog 91 #[.pointer (some ⟨p, 0, none⟩), .int .i64 at_, .int .i64 k] w fun e w' => e = .returned (if n < at_ + k then .tuple #[.int .u64 0, .bool false] else .tuple #[.int .u64 (takeN bs at_ k), .bool true]) ∧ w' = w := by
  obtain ⟨A, c, h1, h2, h3⟩ := hS.it
  have hb := hS.byt
  have hle := hS.le
  have hln := hS.len
  have a0 : w.cell? ⟨p, 0, none⟩ = some (.slice A bs.length c) := h1.cell 0
  have a1 : w.cell? ⟨p, 1, none⟩ = some (.int .i64 n) := h1.cell 1
  have HSZ := Lib.hid (size_any p n w a1)
  have HBI := Lib.hid (fun i (hi : i < 8 * bs.length) => bit_any p c A bs i w a0 h2 hb hi (by omega))
  clear hS h1 h2 h3 a0 a1
  by_cases h : n < at_ + k
  · rw [if_pos h]
    have t1 : (n : Int) - (at_ : Int) < (k : Int) := by omega
    go_enter Try.func91, Try.ntmps91
    go_wp2_with fail
    refine HSZ.out.mono ?_
    rintro e w1 ⟨rfl, rfl⟩
    go_wp2
    go_ret2
    exact ⟨rfl, rfl⟩
  · rw [if_neg h]
    have t1 : ¬ (n : Int) - (at_ : Int) < (k : Int) := by omega
    go_enter Try.func91, Try.ntmps91
    go_wp2_with fail
    refine HSZ.out.mono ?_
    rintro e w1 ⟨rfl, rfl⟩
    go_wp2
    go_loop [8, 19] (fun a s => ∃ (t v : Nat), s = .int .i64 t ∧ a = .int .u64 v ∧ t ≤ k ∧ v < 18446744073709551616 ∧ (t < k → v < 9223372036854775808) ∧ Hid (v = takeN bs at_ t)) (fun _ s => k - (intOf s).toNat)
    case atStart => exact ⟨0, 0, rfl, rfl, by omega, by omega, fun _ => by omega, Lib.hid rfl⟩
    case round =>
      obtain ⟨t, v, rfl, rfl, ht, hv, hv2, HV⟩ := hrel
      by_cases hlt : t < k
      · have hv3 := hv2 hlt
        have HBT := Lib.hid (HBI.out (at_ + t) (by omega))
        have hb2 := bitN_lt bs (at_ + t)
        have HT : Hid (takeN bs at_ (t + 1) = 2 * v + bitN bs (at_ + t)) := Lib.hid (by rw [takeN, ← HV.out])
        have hlt1 : takeN bs at_ (t + 1) < 2 ^ (t + 1) := takeN_lt bs at_ (t + 1)
        have hp1 : 2 ^ (t + 1) ≤ 2 ^ k := Nat.pow_le_pow_right (by omega) (by omega)
        have hp64 : 2 ^ k ≤ 18446744073709551616 := Nat.le_trans (Nat.pow_le_pow_right (by omega) hk) (by decide)
        have HLT2 : Hid (t + 1 < k → takeN bs at_ (t + 1) < 9223372036854775808) := Lib.hid (fun h => Nat.lt_of_lt_of_le hlt1 (Nat.le_trans (Nat.pow_le_pow_right (by omega) (show t + 1 ≤ 63 by omega)) (by decide)))
        have HLT1 : Hid (takeN bs at_ (t + 1) < 18446744073709551616) := Lib.hid (by omega)
        obtain ⟨b, hbb⟩ : ∃ b, b = bitN bs (at_ + t) := ⟨_, rfl⟩
        rw [← hbb] at HBT hb2 HT
        have e1 := or_bit v b hv3 hb2
        have e2 : IntKind.u64.wrap ((v : Int) * 2) = ((2 * v : Nat) : Int) := by rw [IntKind.wrap_u64]; omega
        obtain ⟨q, hq⟩ : ∃ q, q = at_ + t := ⟨_, rfl⟩
        have ea : (at_ : Int) + (t : Int) = (q : Int) := by omega
        rw [← hq] at HBT
        clear hq hlt1 hp1 hp64 hbb hv2
        go_wp2_with fail
        refine HBT.out.mono ?_
        rintro e w2 ⟨rfl, rfl⟩
        clear HBT
        go_wp2
        go_round
        case measure => simp [intOf]; omega
        case rel => exact ⟨t + 1, 2 * v + b, by go_num, by go_num, by omega, by rw [← HT.out]; exact HLT1.out, by rw [← HT.out]; exact HLT2.out, Lib.hid HT.out.symm⟩
      · obtain rfl : t = k := by omega
        go_wp2
        go_ret2
        rw [← HV.out]
        exact ⟨rfl, rfl⟩

set_option maxRecDepth 100000 in
set_option maxHeartbeats 6400000 in
theorem RBits_ok (p : Nat) (bs : List Nat) (n pos k : Nat) (w : World) (hS : RdSt w p bs n pos) (hk : k ≤ 64) (h : pos + k ≤ n) :
    Calls Try.prog 78 #[.pointer (some ⟨p, 0, none⟩), .int .i64 k] w fun e w' => e = .returned (.tuple #[.int .u64 (takeN bs pos k), .int .i64 0]) ∧ w' = w.setCell ⟨p, 2, none⟩ (.int .i64 ((pos + k : Nat) : Int)) := by
  obtain ⟨A, c, h1, h2, h3⟩ := hS.it
  have hln := hS.len
  have hle := hS.le
  have a2 : w.cell? ⟨p, 2, none⟩ = some (.int .i64 pos) := h1.cell 2
  have f2 : w.frozen? ⟨p, 2, none⟩ = false := h1.free 2
  have HTK := Lib.hid (take_any p bs n pos pos k w hS (by omega) hk)
  rw [if_neg (show ¬ n < pos + k by omega)] at HTK
  have t1 : ¬ (64 : Int) < (k : Int) := by omega
  have t2 : ¬ (k : Int) < 0 := by omega
  obtain ⟨v, hv⟩ : ∃ v, v = takeN bs pos k := ⟨_, rfl⟩
  rw [← hv] at HTK ⊢
  have hpos : pos + k ≤ 800000000 := by omega
  clear hS h1 h2 h3 hv h
  go_enter Try.func78, Try.ntmps78
  go_wp2_with fail
  refine HTK.out.mono ?_
  rintro e w1 ⟨rfl, rfl⟩
  go_wp2
  go_ret2
  exact ⟨rfl, by push_cast; rfl⟩
set_option maxRecDepth 100000 in
set_option maxHeartbeats 6400000 in
theorem RBits_no (p : Nat) (bs : List Nat) (n pos k : Nat) (w : World) (hS : RdSt w p bs n pos) (hk : k ≤ 64) (hp : pos ≤ n) (h : n < pos + k) :
    Calls Try.prog 78 #[.pointer (some ⟨p, 0, none⟩), .int .i64 k] w fun e w' => e = .returned (.tuple #[.int .u64 0, .int .i64 10]) ∧ w' = w := by
  obtain ⟨A, c, h1, h2, h3⟩ := hS.it
  have a2 : w.cell? ⟨p, 2, none⟩ = some (.int .i64 pos) := h1.cell 2
  have HTK := Lib.hid (take_any p bs n pos pos k w hS hp hk)
  rw [if_pos h] at HTK
  have t1 : ¬ (64 : Int) < (k : Int) := by omega
  have t2 : ¬ (k : Int) < 0 := by omega
  clear hS h1 h2 h3 h
  go_enter Try.func78, Try.ntmps78
  go_wp2_with fail
  refine HTK.out.mono ?_
  rintro e w1 ⟨rfl, rfl⟩
  go_wp2
  go_ret2
  exact ⟨rfl, rfl⟩
set_option maxHeartbeats 1600000 in
theorem RPos_any (p : Nat) (bs : List Nat) (n pos : Nat) (w : World) (hS : RdSt w p bs n pos) : Calls Try.prog 56 #[.pointer (some ⟨p, 0, none⟩)] w fun e w' => e = .returned (.int .i64 pos) ∧ w' = w := by
  obtain ⟨A, c, h1, _⟩ := hS.it
  have a2 : w.cell? ⟨p, 2, none⟩ = some (.int .i64 pos) := h1.cell 2
  clear hS h1
  go_enter Try.func56, Try.ntmps56
  go_wp2
  go_ret
  exact ⟨rfl, rfl⟩

set_option maxRecDepth 100000 in
set_option maxHeartbeats 6400000 in
theorem NewReader_ok (A : Option Addr) (c : Nat) (bs : List Nat) (n : Nat) (w : World) (hr : RdB w A bs) (hA : A = none → bs.length = 0 ∧ c = 0) (hc : bs.length ≤ c) (hb : Byt bs) (hl : bs.length ≤ 100000000) (hn : n ≤ 8 * bs.length) :
    Calls Try.prog 53 #[.slice A bs.length c, .int .i64 n] w fun e w' => ∃ p, e = .returned (.tuple #[.pointer (some ⟨p, 0, none⟩), .int .i64 0]) ∧ RdSt w' p (bs.take ((n + 7) / 8)) n 0 ∧ w.heap.size ≤ p ∧ Below w.heap.size w w' := by
  have HR := Lib.hid (rdB_take (w := w) (A := A) (ps := bs.take ((n + 7) / 8)) (ts := bs.drop ((n + 7) / 8)) (by rw [List.take_append_drop]; exact hr))
  have HB : Hid (Byt (bs.take ((n + 7) / 8))) := Lib.hid (fun x h => hb x (List.mem_of_mem_take h))
  have HLN : Hid ((bs.take ((n + 7) / 8)).length = (n + 7) / 8) := Lib.hid (by rw [List.length_take]; omega)
  obtain ⟨m, hm⟩ : ∃ m, m = (n + 7) / 8 := ⟨_, rfl⟩
  have em : ((n : Int) + 7) / 8 = (m : Int) := by omega
  rw [← hm] at HR HB HLN ⊢
  obtain ⟨l, hll⟩ : ∃ l, l = bs.length := ⟨_, rfl⟩
  rw [← hll] at hA hc hl hn ⊢
  have hm8 : n ≤ 8 * m := by omega
  have hml : m ≤ l := by omega
  have t1 : ¬ (n : Int) < 0 := by omega
  have t2 : ¬ 8 * (l : Int) < (n : Int) := by omega
  have g1 : (0 : Int) ≤ (m : Int) := by omega
  have g2 : (m : Int) ≤ (c : Int) := by omega
  have HA := Lib.hid hA
  obtain ⟨bt, hbt⟩ : ∃ bt, bt = bs.take m := ⟨_, rfl⟩
  rw [← hbt] at HR HB HLN ⊢
  clear hr hb hm hll hbt hA
  have hm9 := HLN.out
  subst hm9
  have HR0 := Lib.hid (HR.out.below (bel9 w (.cells #[] 5)))
  have HAN : Hid (A = none → bt.length = 0 ∧ c = 0) := Lib.hid (fun h => by have := HA.out h; omega)
  have HZ : Hid (([] : List Nat).length + bt.length ≤ 4000000000) := Lib.hid (by simp only [List.length_nil]; omega)
  clear HLN
  go_enter Try.func53, Try.ntmps53
  go_wp2_with (at_builtin; refine wpList_appB (.tmp 15) (.tmp 20) w.heap.size (.slice (some ⟨w.heap.size, 0, none⟩) 0 0) [] A c bt rfl rfl (by rfl) (ownB_empty w) (by rfl) HAN.out HR0.out HZ.out (bel9 w _).size ?_; intro v' w' hown hb3 _ _; obtain ⟨A5, c5, rfl, _⟩ := hown.rd; have HO := Lib.hid hown; have HB3 := Lib.hid hb3; clear hown hb3)
  go_ret2
  have hO := HO.out
  have hB4 : Below w.heap.size w w' := (bel9 w (.cells #[] 5)).trans HB3.out
  have hb5 := bel9 w' (.cells #[.slice A5 ([] ++ bt).length c5, .int .i64 n, .int .i64 0] 123)
  refine ⟨w'.heap.size, rfl, ⟨⟨A5, c5, heap_alloc_new _ _, (own_rd_of hO).1.below hb5, fun b hb => ?_⟩, HB.out, hm8, by omega⟩, hB4.size, hB4.alloc hB4.size _⟩
  subst hb
  have := (hO.lt _ rfl).2
  omega
end Go.Proofs.Ytnldnaogbadajaa.Tb

/- Numbers of variable length are read, walked. -/
set_option linter.unusedVariables false
set_option linter.unusedSimpArgs false
namespace Go.Proofs.Ytnldnaogbadajaa.Tb
open Go.RowKit

theorem u8_and127 (c : Nat) (h : c < 256) : bits BinOp.and IntKind.u8 (c : Int) 127 = ((c % 128 : Nat) : Int) := by
  have := u8_and_nat c 127 h (by omega)
  rw [show (127 : Nat) = 2 ^ 7 - 1 from rfl, Nat.and_two_pow_sub_one_eq_mod] at this
  exact this
theorem p128 (i : Nat) : 2 ^ (7 * i) = 128 ^ i := by rw [Nat.pow_mul]
theorem fit64 {i y : Nat} (hi : i ≤ 9) (hy : y < 128) (h9 : i = 9 → y ≤ 1) : y * 128 ^ i ≤ 9223372036854775808 := by
  rcases Nat.lt_or_ge i 9 with h | h
  · have h1 := Nat.pow_le_pow_right (n := 128) (by omega) (show i ≤ 8 by omega)
    have e8 : (128 : Nat) ^ 8 = 72057594037927936 := by decide
    have := Nat.mul_le_mul (show y ≤ 127 by omega) h1
    omega
  · obtain rfl : i = 9 := by omega
    have e9 : (128 : Nat) ^ 9 = 9223372036854775808 := by decide
    have := h9 rfl
    rw [e9]
    omega
theorem orL {i y v : Nat} (hi : i ≤ 9) (hy : y < 128) (h9 : i = 9 → y ≤ 1) (hv : v < 128 ^ i) : bits BinOp.or IntKind.u64 (v : Int) (IntKind.u64.wrap ((y : Int) * 2 ^ (7 * i))) = ((v + y * 128 ^ i : Nat) : Int) := by
  have hf := fit64 hi hy h9
  have e1 : (y : Int) * 2 ^ (7 * i) = ((y * 128 ^ i : Nat) : Int) := by rw [← p128]; push_cast; rfl
  have hw : IntKind.u64.wrap ((y : Int) * 2 ^ (7 * i)) = ((y * 128 ^ i : Nat) : Int) := by
    rw [e1]
    have : ∀ z : Nat, z ≤ 9223372036854775808 → IntKind.u64.wrap (z : Int) = (z : Int) := fun z hz => by simp only [IntKind.wrap, IntKind.bits, IntKind.signed]; simp; omega
    exact this _ hf
  rw [hw]
  have hv9 : v < 9223372036854775808 + 1 := by
    have h1 := Nat.pow_le_pow_right (n := 128) (by omega) hi
    have e9 : (128 : Nat) ^ 9 = 9223372036854775808 := by decide
    omega
  rw [u64_or_nat v (y * 128 ^ i) (by omega) (by omega)]
  have := Nat.two_pow_add_eq_or_of_lt (i := 7 * i) (b := v) (by rw [p128]; exact hv) y
  rw [p128, Nat.mul_comm, Nat.add_comm] at this
  rw [Nat.or_comm, ← this]
theorem z_lt {i y v : Nat} (hy : y < 128) (hv : v < 128 ^ i) : v + y * 128 ^ i < 128 ^ (i + 1) := by
  have e1 : 128 ^ (i + 1) = 128 ^ i * 128 := Nat.pow_succ _ _
  have := Nat.mul_le_mul_right (128 ^ i) (show y ≤ 127 by omega)
  rw [e1]
  omega
/-- One byte more. -/
theorem tk_bad {x i v : Nat} {cs : List Nat} (h : i = 9 ∧ x ≠ 1) : tk (x :: cs) i v = (0, 0, 9) := by unfold tk; rw [if_pos h]
theorem tk_zero {x i v : Nat} {cs : List Nat} (h : x = 0 ∧ 0 < i) : tk (x :: cs) i v = (0, 0, 9) := by
  rw [tk]
  by_cases h1 : i = 9 ∧ x ≠ 1
  · rw [if_pos h1]
  · rw [if_neg h1, if_pos (show x < 128 by omega), if_pos h]
theorem tk_last {x i v : Nat} {cs : List Nat} (h1 : ¬ (i = 9 ∧ x ≠ 1)) (h2 : x < 128) (h3 : ¬ (x = 0 ∧ 0 < i)) : tk (x :: cs) i v = (v + x % 128 * 128 ^ i, i + 1, 0) := by
  unfold tk
  rw [if_neg h1, if_pos h2, if_neg h3, Nat.mod_eq_of_lt h2]
theorem tk_next {x i v : Nat} {cs : List Nat} (h1 : ¬ (i = 9 ∧ x ≠ 1)) (h2 : ¬ x < 128) (h3 : x < 256) : tk (x :: cs) i v = tk cs (i + 1) (v + x % 128 * 128 ^ i) := by
  rw [tk, if_neg h1, if_neg h2, show x - 128 = x % 128 by omega]

set_option maxRecDepth 100000 in
set_option maxHeartbeats 6400000 in
theorem Uvarint_any (A : Option Addr) (c : Nat) (bs : List Nat) (w : World) (ha : RdB w A bs) (hb : Byt bs) (hm : bs.length ≤ 1000000000) (r : Nat × Nat × Int) (hr : tk bs 0 0 = r) :
    Calls Try.prog 69 #[.slice A bs.length c] w fun e w' => e = .returned (.tuple #[.int .u64 r.1, .int .i64 r.2.1, .int .i64 r.2.2]) ∧ w' = w := by
  have HA := Lib.hid ha
  have HB := Lib.hid hb
  have HR := Lib.hid hr
  obtain ⟨n, hn⟩ : ∃ n, n = bs.length := ⟨_, rfl⟩
  rw [← hn] at hm ⊢
  have HN := Lib.hid hn
  clear ha hb hr hn
  go_enter Try.func69, Try.ntmps69
  go_wp2
  go_loop [2, 9] (fun x s => ∃ (i v : Nat), s = .int .i64 i ∧ x = .int .u64 v ∧ i ≤ n ∧ i ≤ 9 ∧ Hid (v < 128 ^ i) ∧ Hid (tk (bs.drop i) i v = r)) (fun _ s => n - (intOf s).toNat)
  case atStart => exact ⟨0, 0, rfl, rfl, by omega, by omega, Lib.hid (by decide), HR⟩
  case round =>
    obtain ⟨i, v, rfl, rfl, hin, hi9, HV, HT⟩ := hrel
    by_cases hlt : i < n
    · obtain ⟨b1, o1, e1, c1⟩ := HA.out (by rw [← HN.out]; omega)
      have cc := c1 i (by rw [← HN.out]; exact hlt)
      have hc2 := HB.out.at_ i
      have hd : bs.drop i = bs.getD i 0 :: bs.drop (i + 1) := by
        rw [List.drop_eq_getElem_cons (by rw [← HN.out]; exact hlt), List.getD_eq_getElem?_getD, List.getElem?_eq_getElem (by rw [← HN.out]; exact hlt)]
        rfl
      rw [hd] at HT
      obtain ⟨x, hx⟩ : ∃ x, x = bs.getD i 0 := ⟨_, rfl⟩
      rw [← hx] at cc hc2 HT
      clear c1 hd hx
      subst e1
      by_cases hbad : i = 9 ∧ x ≠ 1
      · have t9 : ((i : Int) == 9) = true := by rw [beq_iff_eq]; omega
        have tx : ((x : Int) != 1) = true := by rw [bne_iff_ne]; omega
        have HF : Hid (r = (0, 0, 9)) := Lib.hid (by rw [← HT.out]; exact tk_bad ⟨hbad.1, by omega⟩)
        clear hbad
        go_wp2
        go_ret3
        exact ⟨by rw [HF.out]; rfl, rfl⟩
      · obtain ⟨y, hy⟩ : ∃ y, y = x % 128 := ⟨_, rfl⟩
        have e127 : bits BinOp.and IntKind.u8 (x : Int) 127 = (y : Int) := by rw [hy]; exact u8_and127 x hc2
        have hy2 : y < 128 := by omega
        have hor := orL (i := i) (y := y) (v := v) hi9 hy2 (by intro h; omega) HV.out
        have hzl := z_lt (y := y) hy2 HV.out
        have g1 : (0 : Int) ≤ 7 * (i : Int) := by omega
        have g2 : 7 * (i : Int) < 64 := by omega
        have hcase : ((((i : Int) == 9) = true ∧ ((x : Int) != 1) = false) ∨ ((i : Int) == 9) = false) := by
          by_cases h9 : i = 9
          · exact .inl ⟨by rw [beq_iff_eq]; omega, by rw [bne_eq_false_iff_eq]; omega⟩
          · exact .inr (by rw [beq_eq_false_iff_ne]; omega)
        by_cases hlo : x < 128
        · by_cases hz : x = 0 ∧ 0 < i
          · have HF : Hid (r = (0, 0, 9)) := Lib.hid (by rw [← HT.out]; exact tk_zero hz)
            have tz : ((x : Int) == 0) = true := by rw [beq_iff_eq]; omega
            have tp : (0 : Int) < (i : Int) := by omega
            clear hy hzl hbad hz
            obtain ⟨z, hz⟩ : ∃ z, z = v + y * 128 ^ i := ⟨_, rfl⟩
            rw [← hz] at hor
            clear hz
            rcases hcase with ⟨t9, tx⟩ | t9
            all_goals
              go_wp2
              go_ret3
              exact ⟨by rw [HF.out]; rfl, rfl⟩
          · have HF0 := tk_last (x := x) (i := i) (v := v) (cs := bs.drop (i + 1)) (by omega) hlo hz
            rw [HT.out, ← hy] at HF0
            clear hy hzl hbad
            obtain ⟨z, hz0⟩ : ∃ z, z = v + y * 128 ^ i := ⟨_, rfl⟩
            rw [← hz0] at hor HF0
            have HF := Lib.hid HF0
            clear hz0 HF0
            by_cases hx0 : x = 0
            · have tz : ((x : Int) == 0) = true := by rw [beq_iff_eq]; omega
              have tp : ¬ (0 : Int) < (i : Int) := by omega
              clear hz hx0
              rcases hcase with ⟨t9, tx⟩ | t9
              all_goals
                go_wp2
                go_ret3
                exact ⟨by rw [HF.out]; rfl, rfl⟩
            · have tz : ((x : Int) == 0) = false := by rw [beq_eq_false_iff_ne]; omega
              clear hz hx0
              rcases hcase with ⟨t9, tx⟩ | t9
              all_goals
                go_wp2
                go_ret3
                exact ⟨by rw [HF.out]; rfl, rfl⟩
        · have hi8 : i < 9 := by
            rcases Nat.lt_or_ge i 9 with h | h
            · exact h
            · omega
          have HF0 := tk_next (x := x) (i := i) (v := v) (cs := bs.drop (i + 1)) (by omega) hlo hc2
          rw [HT.out, ← hy] at HF0
          clear hy hbad
          obtain ⟨z, hz0⟩ : ∃ z, z = v + y * 128 ^ i := ⟨_, rfl⟩
          rw [← hz0] at hor HF0 hzl
          have HF := Lib.hid HF0
          have HZ := Lib.hid hzl
          have t9 : ((i : Int) == 9) = false := by rw [beq_eq_false_iff_ne]; omega
          clear hz0 HF0 hzl hcase
          go_wp2
          go_round
          case measure => simp [intOf]; omega
          case rel => exact ⟨i + 1, z, by go_num, rfl, by omega, by omega, HZ, Lib.hid HF.out.symm⟩
    · have HF : Hid (r = (0, 0, 10)) := Lib.hid (by rw [← HT.out, List.drop_eq_nil_of_le (by rw [← HN.out]; omega)]; rfl)
      go_wp2
      go_ret3
      exact ⟨by rw [HF.out]; rfl, rfl⟩

end Go.Proofs.Ytnldnaogbadajaa.Tb

/- The readers' number, walked (block and tokens). (Written by gen/gen_jc.py.) -/
set_option linter.unusedVariables false
set_option linter.unusedSimpArgs false
namespace Go.Proofs.Ytnldnaogbadajaa.Tb
open Go.RowKit

def numF (ok : Bool) (bs : List Nat) (lim : Nat) : Nat × Bool × List Nat :=
  if ok = true ∧ (tk bs 0 0).2.2 = 0 ∧ (tk bs 0 0).1 ≤ lim then ((tk bs 0 0).1, true, bs.drop (tk bs 0 0).2.1) else (0, false, bs)
theorem tk_fits {bs : List Nat} (hb : Byt bs) (h : (tk bs 0 0).2.2 = 0) : (tk bs 0 0).2.1 ≤ bs.length ∧ (tk bs 0 0).1 < 18446744073709551616 := by
  rcases take_cases bs hb with ⟨u, rest, e, hu, h1⟩ | ⟨e, he, h1, _⟩
  · rw [h1, e]
    exact ⟨by simp, hu⟩
  · rw [h1] at h
    simp only at h
    omega
theorem tk_v (bs : List Nat) (hb : Byt bs) : (tk bs 0 0).1 < 18446744073709551616 := by
  rcases take_cases bs hb with ⟨u, rest, e, hu, h1⟩ | ⟨e, he, h1, _⟩
  · rw [h1]; exact hu
  · rw [h1]; exact Nat.zero_lt_of_lt (show 0 < 18446744073709551616 by omega)
theorem byt_drop {bs : List Nat} (h : Byt bs) (n : Nat) : Byt (bs.drop n) := fun x hx => h x (List.mem_of_mem_drop hx)
theorem numF_byt {ok : Bool} {bs : List Nat} {lim : Nat} (h : Byt bs) : Byt (numF ok bs lim).2.2 := by
  unfold numF
  split
  · exact byt_drop h _
  · exact h
theorem numF_len (ok : Bool) (bs : List Nat) (lim : Nat) : (numF ok bs lim).2.2.length ≤ bs.length := by
  unfold numF
  split
  · simp
  · exact Nat.le_refl _
theorem numF_lim (ok : Bool) (bs : List Nat) (lim : Nat) : (numF ok bs lim).1 ≤ lim := by
  unfold numF
  split
  · next h => exact h.2.2
  · exact Nat.zero_le _
theorem RdB.sub {w : World} {b o : Nat} {bs : List Nat} (h : ∀ j, j < bs.length → w.cell? ⟨b, o + j, none⟩ = some (.int .u8 (bs.getD j 0 : Nat))) (n : Nat) : RdB w (some ⟨b, o + n, none⟩) (bs.drop n) := fun _ => ⟨b, _, rfl, fun j hj => by
  rw [List.length_drop] at hj
  rw [Nat.add_assoc, h (n + j) (by omega), List.getD_eq_getElem?_getD, List.getD_eq_getElem?_getD, List.getElem?_drop]⟩

/-- A reader of bytes (BRd). -/
structure BRd (w : World) (p : Nat) (bs : List Nat) (ok : Bool) (s : Option Nat) : Prop where
  it : ∃ A c, Blk w p 81 #[.slice A bs.length c, .bool ok] ∧ RdB w A bs ∧ bs.length ≤ c ∧ (A = none → bs.length = 0 ∧ c = 0) ∧ (∀ b, A = some b → b.block ≠ p) ∧ (∀ b, A = some b → b.spot = none) ∧ A.map (fun a => a.block) = s
  byt : Byt bs
theorem BRd.below {w w' : World} {p : Nat} {bs : List Nat} {ok : Bool} {s : Option Nat} (h : BRd w p bs ok s) (hb : Below w.heap.size w w') : BRd w' p bs ok s := by
  obtain ⟨A, c, h1, h2, h3⟩ := h.it
  exact ⟨⟨A, c, (hb.block p h1.lt).trans h1, h2.below hb, h3⟩, h.byt⟩
theorem BRd.lt {w : World} {p : Nat} {bs : List Nat} {ok : Bool} {s : Option Nat} (h : BRd w p bs ok s) : p < w.heap.size := by
  obtain ⟨A, c, h1, _⟩ := h.it
  exact h1.lt
theorem BRd.fail {w : World} {p : Nat} {bs : List Nat} {ok : Bool} {s : Option Nat} (h : BRd w p bs ok s) : BRd (w.setCell ⟨p, 1, none⟩ (.bool false)) p bs false s := by
  obtain ⟨A, c, h1, h2, h3, h4, h5, h6⟩ := h.it
  exact ⟨⟨A, c, by have h9 := h1.set_ 1 (.bool false); simpa using h9, h2.set_ _ _ _ h5, h3, h4, h5, h6⟩, h.byt⟩
set_option maxRecDepth 100000 in
set_option maxHeartbeats 6400000 in
theorem BRd_number (p : Nat) (bs : List Nat) (ok : Bool) (s : Option Nat) (lim : Nat) (w : World) (hS : BRd w p bs ok s) (hl : bs.length ≤ 100000000) (hlim : lim ≤ 4294967295) :
    Calls Try.prog 50 #[.pointer (some ⟨p, 0, none⟩), .int .i64 lim] w fun e w' => e = .returned (.int .i64 (numF ok bs lim).1) ∧ BRd w' p (numF ok bs lim).2.2 (numF ok bs lim).2.1 s ∧ ∃ j u, w' = w.setCell ⟨p, j, none⟩ u := by
  obtain ⟨A, c, h1, h2, h3, h4, h5, h6, h7⟩ := hS.it
  have hb := hS.byt
  have a0 : w.cell? ⟨p, 0, none⟩ = some (.slice A bs.length c) := h1.cell 0
  have a1 : w.cell? ⟨p, 1, none⟩ = some (.bool ok) := h1.cell 1
  have f0 : w.frozen? ⟨p, 0, none⟩ = false := h1.free 0
  have f1 : w.frozen? ⟨p, 1, none⟩ = false := h1.free 1
  obtain ⟨r, hr⟩ : ∃ r, r = tk bs 0 0 := ⟨_, rfl⟩
  have HUV := Lib.hid (Uvarint_any A c bs w h2 hb (by omega) r hr.symm)
  have hfit := fun h => tk_fits hb h
  have hv := tk_v bs hb
  have HNF : Hid (numF ok bs lim = if ok = true ∧ r.2.2 = 0 ∧ r.1 ≤ lim then (r.1, true, bs.drop r.2.1) else (0, false, bs)) := Lib.hid (by rw [hr]; rfl)
  rw [← hr] at hfit hv
  have hemp : bs.length = 0 → r.2.2 = 10 := fun h => by rw [hr, List.eq_nil_of_length_eq_zero h]; rfl
  have HBK := Lib.hid h1
  have HS := Lib.hid hS
  have HR := Lib.hid h2
  have H4 := Lib.hid h4
  have H5 := Lib.hid h5
  have H7 := Lib.hid h7
  obtain ⟨v, n, e⟩ := r
  simp only at hfit hv HNF HUV hemp
  obtain ⟨m, hm⟩ : ∃ m, m = bs.length := ⟨_, rfl⟩
  rw [← hm] at a0 HUV hl h3 hfit hemp
  have HM := Lib.hid hm
  have elim' : IntKind.u64.wrap (lim : Int) = (lim : Int) := by rw [IntKind.wrap_u64]; omega
  clear hS h1 h2 hb hr h4 h5 h6 h7 hm
  by_cases hok : ok = true
  · subst hok
    by_cases he : e = 0
    · subst he
      by_cases hvl : v ≤ lim
      · rw [if_pos ⟨rfl, rfl, hvl⟩] at HNF
        obtain ⟨hn, _⟩ := hfit rfl
        have t1 : ¬ (lim : Int) < (v : Int) := by omega
        have g1 : (n : Int) ≤ (m : Int) := by omega
        have ev : IntKind.i64.wrap (v : Int) = (v : Int) := by rw [IntKind.wrap_i64]; omega
        by_cases h0 : 0 < m
        · obtain ⟨b, o, rfl, cc⟩ := HR.out (by rw [← HM.out]; exact h0)
          have HCC := Lib.hid cc
          have HB : Hid (b ≠ p) := Lib.hid (H5.out _ rfl)
          have HBK2 : Hid (Blk w p 81 #[.slice (some ⟨b, o, none⟩) m c, .bool true]) := Lib.hid (by rw [HM.out]; exact HBK.out)
          have key : Hid (∀ A', (A' = some ⟨b, o + n, none⟩ ∨ (n = c ∧ A' = some ⟨b, o, none⟩)) → BRd (w.setCell ⟨p, 0, none⟩ (.slice A' (m - n) (c - n))) p (bs.drop n) true s) := Lib.hid (fun A' hA' => by
            refine ⟨⟨A', c - n, ?_, ?_, ?_, ?_, ?_, ?_, ?_⟩, byt_drop HS.out.byt n⟩
            · have h9 := HBK2.out.set_ 0 (.slice A' (m - n) (c - n))
              rw [List.length_drop, ← HM.out]
              simpa using h9
            · refine RdB.set_ ?_ p 0 _ ?_
              · rcases hA' with e | ⟨e1, e2⟩
                · rw [e]; exact RdB.sub HCC.out n
                · intro hl9
                  rw [List.length_drop, ← HM.out] at hl9
                  omega
              · intro b' hb'
                rcases hA' with e | ⟨_, e⟩ <;> (rw [e] at hb'; injection hb' with hb'; subst hb'; exact HB.out)
            · rw [List.length_drop, ← HM.out]; omega
            · intro hn9; rcases hA' with e | ⟨_, e⟩ <;> (rw [e] at hn9; cases hn9)
            · intro b' hb'
              rcases hA' with e | ⟨_, e⟩ <;> (rw [e] at hb'; injection hb' with hb'; subst hb'; exact HB.out)
            · intro b' hb'
              rcases hA' with e | ⟨_, e⟩ <;> (rw [e] at hb'; injection hb' with hb'; subst hb'; rfl)
            · rcases hA' with e | ⟨_, e⟩ <;> (rw [e]; exact H7.out))
          clear cc
          by_cases hcn : n = c
          · have hk0 := key.out (some ⟨b, o, none⟩) (.inr ⟨hcn, rfl⟩)
            clear key
            subst hcn
            rw [show m - n = 0 by omega, Nat.sub_self] at hk0
            have HK := Lib.hid hk0
            clear hk0
            go_enter Try.func50, Try.ntmps50
            go_wp2_with fail
            refine HUV.out.mono ?_
            rintro e w1 ⟨rfl, rfl⟩
            go_wp2
            go_ret
            rw [HNF.out]
            exact ⟨rfl, HK.out, 0, _, rfl⟩
          · have HK := Lib.hid (key.out (some ⟨b, o + n, none⟩) (.inl rfl))
            have hcn' : ¬ c = n := fun e => hcn e.symm
            clear key hcn
            go_enter Try.func50, Try.ntmps50
            go_wp2_with fail
            refine HUV.out.mono ?_
            rintro e w1 ⟨rfl, rfl⟩
            go_wp2
            go_ret
            rw [HNF.out]
            exact ⟨rfl, HK.out, 0, _, rfl⟩
        · exfalso
          have := hemp (by omega)
          omega
      · rw [if_neg (fun h => hvl h.2.2)] at HNF
        have t1 : (lim : Int) < (v : Int) := by omega
        have HK : Hid (BRd (w.setCell ⟨p, 1, none⟩ (.bool false)) p bs false s) := Lib.hid HS.out.fail
        go_enter Try.func50, Try.ntmps50
        go_wp2_with fail
        refine HUV.out.mono ?_
        rintro e w1 ⟨rfl, rfl⟩
        go_wp2
        go_ret
        rw [HNF.out]
        exact ⟨rfl, HK.out, 1, _, rfl⟩
    · rw [if_neg (fun h => he h.2.1)] at HNF
      have t1 : (e == 0) = false := by simpa using he
      have HK : Hid (BRd (w.setCell ⟨p, 1, none⟩ (.bool false)) p bs false s) := Lib.hid HS.out.fail
      go_enter Try.func50, Try.ntmps50
      go_wp2_with fail
      refine HUV.out.mono ?_
      rintro e w1 ⟨rfl, rfl⟩
      go_wp2
      go_ret
      rw [HNF.out]
      exact ⟨rfl, HK.out, 1, _, rfl⟩
  · rw [if_neg (fun h => hok h.1)] at HNF
    have hf : ok = false := by simpa using hok
    subst hf
    have HK : Hid (BRd (w.setCell ⟨p, 1, none⟩ (.bool false)) p bs false s) := Lib.hid HS.out.fail
    go_enter Try.func50, Try.ntmps50
    go_wp2_with fail
    refine HUV.out.mono ?_
    rintro e w1 ⟨rfl, rfl⟩
    go_wp2
    go_ret
    rw [HNF.out]
    exact ⟨rfl, HK.out, 1, _, rfl⟩

/-- A reader of bytes (TRd). -/
structure TRd (w : World) (p : Nat) (bs : List Nat) (ok : Bool) (s : Option Nat) : Prop where
  it : ∃ A c, Blk w p 55 #[.slice A bs.length c, .bool ok] ∧ RdB w A bs ∧ bs.length ≤ c ∧ (A = none → bs.length = 0 ∧ c = 0) ∧ (∀ b, A = some b → b.block ≠ p) ∧ (∀ b, A = some b → b.spot = none) ∧ A.map (fun a => a.block) = s
  byt : Byt bs
theorem TRd.below {w w' : World} {p : Nat} {bs : List Nat} {ok : Bool} {s : Option Nat} (h : TRd w p bs ok s) (hb : Below w.heap.size w w') : TRd w' p bs ok s := by
  obtain ⟨A, c, h1, h2, h3⟩ := h.it
  exact ⟨⟨A, c, (hb.block p h1.lt).trans h1, h2.below hb, h3⟩, h.byt⟩
theorem TRd.lt {w : World} {p : Nat} {bs : List Nat} {ok : Bool} {s : Option Nat} (h : TRd w p bs ok s) : p < w.heap.size := by
  obtain ⟨A, c, h1, _⟩ := h.it
  exact h1.lt
theorem TRd.fail {w : World} {p : Nat} {bs : List Nat} {ok : Bool} {s : Option Nat} (h : TRd w p bs ok s) : TRd (w.setCell ⟨p, 1, none⟩ (.bool false)) p bs false s := by
  obtain ⟨A, c, h1, h2, h3, h4, h5, h6⟩ := h.it
  exact ⟨⟨A, c, by have h9 := h1.set_ 1 (.bool false); simpa using h9, h2.set_ _ _ _ h5, h3, h4, h5, h6⟩, h.byt⟩
set_option maxRecDepth 100000 in
set_option maxHeartbeats 6400000 in
theorem TRd_number (p : Nat) (bs : List Nat) (ok : Bool) (s : Option Nat) (lim : Nat) (w : World) (hS : TRd w p bs ok s) (hl : bs.length ≤ 100000000) (hlim : lim ≤ 4294967295) :
    Calls Try.prog 42 #[.pointer (some ⟨p, 0, none⟩), .int .i64 lim] w fun e w' => e = .returned (.int .i64 (numF ok bs lim).1) ∧ TRd w' p (numF ok bs lim).2.2 (numF ok bs lim).2.1 s ∧ ∃ j u, w' = w.setCell ⟨p, j, none⟩ u := by
  obtain ⟨A, c, h1, h2, h3, h4, h5, h6, h7⟩ := hS.it
  have hb := hS.byt
  have a0 : w.cell? ⟨p, 0, none⟩ = some (.slice A bs.length c) := h1.cell 0
  have a1 : w.cell? ⟨p, 1, none⟩ = some (.bool ok) := h1.cell 1
  have f0 : w.frozen? ⟨p, 0, none⟩ = false := h1.free 0
  have f1 : w.frozen? ⟨p, 1, none⟩ = false := h1.free 1
  obtain ⟨r, hr⟩ : ∃ r, r = tk bs 0 0 := ⟨_, rfl⟩
  have HUV := Lib.hid (Uvarint_any A c bs w h2 hb (by omega) r hr.symm)
  have hfit := fun h => tk_fits hb h
  have hv := tk_v bs hb
  have HNF : Hid (numF ok bs lim = if ok = true ∧ r.2.2 = 0 ∧ r.1 ≤ lim then (r.1, true, bs.drop r.2.1) else (0, false, bs)) := Lib.hid (by rw [hr]; rfl)
  rw [← hr] at hfit hv
  have hemp : bs.length = 0 → r.2.2 = 10 := fun h => by rw [hr, List.eq_nil_of_length_eq_zero h]; rfl
  have HBK := Lib.hid h1
  have HS := Lib.hid hS
  have HR := Lib.hid h2
  have H4 := Lib.hid h4
  have H5 := Lib.hid h5
  have H7 := Lib.hid h7
  obtain ⟨v, n, e⟩ := r
  simp only at hfit hv HNF HUV hemp
  obtain ⟨m, hm⟩ : ∃ m, m = bs.length := ⟨_, rfl⟩
  rw [← hm] at a0 HUV hl h3 hfit hemp
  have HM := Lib.hid hm
  have elim' : IntKind.u64.wrap (lim : Int) = (lim : Int) := by rw [IntKind.wrap_u64]; omega
  clear hS h1 h2 hb hr h4 h5 h6 h7 hm
  by_cases hok : ok = true
  · subst hok
    by_cases he : e = 0
    · subst he
      by_cases hvl : v ≤ lim
      · rw [if_pos ⟨rfl, rfl, hvl⟩] at HNF
        obtain ⟨hn, _⟩ := hfit rfl
        have t1 : ¬ (lim : Int) < (v : Int) := by omega
        have g1 : (n : Int) ≤ (m : Int) := by omega
        have ev : IntKind.i64.wrap (v : Int) = (v : Int) := by rw [IntKind.wrap_i64]; omega
        by_cases h0 : 0 < m
        · obtain ⟨b, o, rfl, cc⟩ := HR.out (by rw [← HM.out]; exact h0)
          have HCC := Lib.hid cc
          have HB : Hid (b ≠ p) := Lib.hid (H5.out _ rfl)
          have HBK2 : Hid (Blk w p 55 #[.slice (some ⟨b, o, none⟩) m c, .bool true]) := Lib.hid (by rw [HM.out]; exact HBK.out)
          have key : Hid (∀ A', (A' = some ⟨b, o + n, none⟩ ∨ (n = c ∧ A' = some ⟨b, o, none⟩)) → TRd (w.setCell ⟨p, 0, none⟩ (.slice A' (m - n) (c - n))) p (bs.drop n) true s) := Lib.hid (fun A' hA' => by
            refine ⟨⟨A', c - n, ?_, ?_, ?_, ?_, ?_, ?_, ?_⟩, byt_drop HS.out.byt n⟩
            · have h9 := HBK2.out.set_ 0 (.slice A' (m - n) (c - n))
              rw [List.length_drop, ← HM.out]
              simpa using h9
            · refine RdB.set_ ?_ p 0 _ ?_
              · rcases hA' with e | ⟨e1, e2⟩
                · rw [e]; exact RdB.sub HCC.out n
                · intro hl9
                  rw [List.length_drop, ← HM.out] at hl9
                  omega
              · intro b' hb'
                rcases hA' with e | ⟨_, e⟩ <;> (rw [e] at hb'; injection hb' with hb'; subst hb'; exact HB.out)
            · rw [List.length_drop, ← HM.out]; omega
            · intro hn9; rcases hA' with e | ⟨_, e⟩ <;> (rw [e] at hn9; cases hn9)
            · intro b' hb'
              rcases hA' with e | ⟨_, e⟩ <;> (rw [e] at hb'; injection hb' with hb'; subst hb'; exact HB.out)
            · intro b' hb'
              rcases hA' with e | ⟨_, e⟩ <;> (rw [e] at hb'; injection hb' with hb'; subst hb'; rfl)
            · rcases hA' with e | ⟨_, e⟩ <;> (rw [e]; exact H7.out))
          clear cc
          by_cases hcn : n = c
          · have hk0 := key.out (some ⟨b, o, none⟩) (.inr ⟨hcn, rfl⟩)
            clear key
            subst hcn
            rw [show m - n = 0 by omega, Nat.sub_self] at hk0
            have HK := Lib.hid hk0
            clear hk0
            go_enter Try.func42, Try.ntmps42
            go_wp2_with fail
            refine HUV.out.mono ?_
            rintro e w1 ⟨rfl, rfl⟩
            go_wp2
            go_ret
            rw [HNF.out]
            exact ⟨rfl, HK.out, 0, _, rfl⟩
          · have HK := Lib.hid (key.out (some ⟨b, o + n, none⟩) (.inl rfl))
            have hcn' : ¬ c = n := fun e => hcn e.symm
            clear key hcn
            go_enter Try.func42, Try.ntmps42
            go_wp2_with fail
            refine HUV.out.mono ?_
            rintro e w1 ⟨rfl, rfl⟩
            go_wp2
            go_ret
            rw [HNF.out]
            exact ⟨rfl, HK.out, 0, _, rfl⟩
        · exfalso
          have := hemp (by omega)
          omega
      · rw [if_neg (fun h => hvl h.2.2)] at HNF
        have t1 : (lim : Int) < (v : Int) := by omega
        have HK : Hid (TRd (w.setCell ⟨p, 1, none⟩ (.bool false)) p bs false s) := Lib.hid HS.out.fail
        go_enter Try.func42, Try.ntmps42
        go_wp2_with fail
        refine HUV.out.mono ?_
        rintro e w1 ⟨rfl, rfl⟩
        go_wp2
        go_ret
        rw [HNF.out]
        exact ⟨rfl, HK.out, 1, _, rfl⟩
    · rw [if_neg (fun h => he h.2.1)] at HNF
      have t1 : (e == 0) = false := by simpa using he
      have HK : Hid (TRd (w.setCell ⟨p, 1, none⟩ (.bool false)) p bs false s) := Lib.hid HS.out.fail
      go_enter Try.func42, Try.ntmps42
      go_wp2_with fail
      refine HUV.out.mono ?_
      rintro e w1 ⟨rfl, rfl⟩
      go_wp2
      go_ret
      rw [HNF.out]
      exact ⟨rfl, HK.out, 1, _, rfl⟩
  · rw [if_neg (fun h => hok h.1)] at HNF
    have hf : ok = false := by simpa using hok
    subst hf
    have HK : Hid (TRd (w.setCell ⟨p, 1, none⟩ (.bool false)) p bs false s) := Lib.hid HS.out.fail
    go_enter Try.func42, Try.ntmps42
    go_wp2_with fail
    refine HUV.out.mono ?_
    rintro e w1 ⟨rfl, rfl⟩
    go_wp2
    go_ret
    rw [HNF.out]
    exact ⟨rfl, HK.out, 1, _, rfl⟩
end Go.Proofs.Ytnldnaogbadajaa.Tb

/- block.lowest, walked. -/
set_option linter.unusedVariables false
set_option linter.unusedSimpArgs false
namespace Go.Proofs.Ytnldnaogbadajaa.Tb
open Go.RowKit

def lowF (bs : List Nat) (n wd : Nat) : List Nat := (List.range n).map fun i => takeN bs (i * wd) wd
theorem lowF_len (bs : List Nat) (n wd : Nat) : (lowF bs n wd).length = n := by simp [lowF]
theorem lowF_get (bs : List Nat) (n wd j : Nat) (h : j < n) : (lowF bs n wd).getD j 0 = takeN bs (j * wd) wd := by
  unfold lowF
  rw [List.getD_eq_getElem?_getD, List.getElem?_map, List.getElem?_range h]
  rfl
theorem list_ext0 {xs ys : List Nat} {n : Nat} (h1 : xs.length = n) (h2 : ys.length = n) (h : ∀ j, j < n → xs.getD j 0 = ys.getD j 0) : xs = ys := by
  refine List.ext_getElem (by omega) fun j a b => ?_
  have := h j (by omega)
  rw [List.getD_eq_getElem?_getD, List.getElem?_eq_getElem a, List.getD_eq_getElem?_getD, List.getElem?_eq_getElem b] at this
  exact this
theorem grown_new {w w1 : World} {row : Option Nat} (h : w.grownBy w1 row) (g i : Nat) (u : Value) (hg : w.heap.size ≤ g) : w.grownBy (w1.setCell ⟨g, i, none⟩ u) row :=
  ⟨h.os, h.tape, h.output, by simpa [World.setCell] using h.size, fun k hk hne => (Below.heap_setCell w1 ⟨g, i, none⟩ u k (by show k ≠ g; omega)).trans (h.block k hk hne)⟩
theorem RdSt.of {w w1 : World} {p : Nat} {bs : List Nat} {n pos q c : Nat} {A : Option Addr} (h : RdSt w p bs n pos) (hr : RdB w A bs) (hne : ∀ b, A = some b → b.block < p) (hg : w.grownBy w1 (some p)) (hb : Blk w1 p 123 #[.slice A bs.length c, .int .i64 n, .int .i64 q]) : RdSt w1 p bs n q := by
  refine ⟨⟨A, c, hb, fun hl => ?_, hne⟩, h.byt, h.le, h.len⟩
  obtain ⟨b, off, e, hc⟩ := hr hl
  refine ⟨b, off, e, fun j hj => ?_⟩
  have h1 := hc j hj
  have hlt := World.block_lt_of_cell? _ _ h1
  rw [← h1]
  exact World.cell?_of_block (hg.block b hlt (fun e2 => Nat.ne_of_lt (hne _ e) (by injection e2)))

set_option maxRecDepth 100000 in
set_option maxHeartbeats 6400000 in
theorem lowest_ok (A : Option Addr) (c : Nat) (bs : List Nat) (n wd : Nat) (w : World) (hr : RdB w A bs) (hA : A = none → bs.length = 0 ∧ c = 0) (hc : bs.length ≤ c) (hb : Byt bs) (hn : n ≤ 128) (hw : wd ≤ 31) (hl : bs.length = (n * wd + 7) / 8) :
    Calls Try.prog 51 #[.slice A bs.length c, .int .i64 n, .int .i64 wd] w fun e w' => ∃ v', e = .returned v' ∧ OwnN w' w.heap.size v' (lowF bs n wd) ∧ Below w.heap.size w w' := by
  have hnw : n * wd ≤ 128 * 31 := Nat.mul_le_mul hn hw
  have hNR := NewReader_ok A c bs (n * wd) w hr hA hc hb (by omega) (by omega)
  rw [List.take_of_length_le (show bs.length ≤ (n * wd + 7) / 8 by omega)] at hNR
  have HNR := Lib.hid hNR
  have HLT : Hid (∀ i, takeN bs i wd < 2147483648) := Lib.hid (fun i => Nat.lt_of_lt_of_le (takeN_lt bs i wd) (Nat.le_trans (Nat.pow_le_pow_right (by omega) hw) (by decide)))
  have HMUL : Hid (∀ t, t < n → t * wd + wd ≤ n * wd) := Lib.hid (fun t ht => by
    have := Nat.mul_le_mul_right wd (show t + 1 ≤ n by omega)
    rw [Nat.add_mul, Nat.one_mul] at this
    exact this)
  obtain ⟨N, hN⟩ : ∃ N, N = n * wd := ⟨_, rfl⟩
  have eN : (n : Int) * (wd : Int) = (N : Int) := by rw [hN]; push_cast; rfl
  rw [← hN] at HNR HMUL hnw
  have hmk := make_N n (by omega)
  obtain ⟨l, hll⟩ : ∃ l, l = bs.length := ⟨_, rfl⟩
  rw [← hll] at HNR ⊢
  have HLL := Lib.hid hll
  clear hr hA hc hb hl hN hNR hll
  go_enter Try.func51, Try.ntmps51
  go_wp2_with fail
  refine HNR.out.mono ?_
  rintro e w1 ⟨p, rfl, hs1, hp1, hb1⟩
  have HS1 := Lib.hid hs1
  have HB1 := Lib.hid hb1
  obtain ⟨A1, c1, hblk, hrd1, hne1⟩ := hs1.it
  have HRD := Lib.hid hrd1
  have HNE := Lib.hid hne1
  have HBK : Hid (Blk (w1.alloc (.cells (nvs (List.replicate n 0)).toArray 3)) p 123 #[.slice A1 bs.length c1, .int .i64 N, .int .i64 (0 * wd : Nat)]) := Lib.hid (by
    rw [Nat.zero_mul]
    exact ((bel9 w1 _).block p hblk.lt).trans hblk)
  have HG0 : Hid (w1.grownBy (w1.alloc (.cells (nvs (List.replicate n 0)).toArray 3)) (some p)) := Lib.hid (World.grownBy_alloc _ _ _)
  have HNW := Lib.hid (ownN_new w1 n (by omega))
  have hpl := hblk.lt
  have hsz1 := hb1.size
  clear hs1 hblk hrd1 hne1 hb1 HNR
  go_wp2
  go_loopw [25] (fun s wr => ∃ (t : Nat) (cs : List Nat), s = .int .i64 t ∧ t ≤ n ∧ Hid (cs.length = n) ∧ Hid (∀ j, j < t → cs.getD j 0 = takeN bs (j * wd) wd) ∧ Hid (OwnN wr w1.heap.size (.slice (some ⟨w1.heap.size, 0, none⟩) n n) cs) ∧ Hid (Blk wr p 123 #[.slice A1 bs.length c1, .int .i64 N, .int .i64 (t * wd : Nat)]) ∧ Hid (w1.grownBy wr (some p))) (fun s _ => n - (intOf s).toNat)
  case atStart => exact ⟨0, List.replicate n 0, rfl, by omega, Lib.hid (by simp), Lib.hid (fun j hj => by omega), HNW, HBK, HG0⟩
  case round =>
    clear HNW HBK HG0 hmk
    obtain ⟨t, cs, rfl, ht, HCN, HCG, HO, HBK, HG⟩ := hrel
    by_cases hlt : t < n
    · have HRS := Lib.hid (HS1.out.of HRD.out HNE.out HG.out HBK.out)
      have HBI := Lib.hid (RBits_ok p bs N (t * wd) wd wr HRS.out (by omega) (HMUL.out t hlt))
      have hv := HLT.out (t * wd)
      have HCG2 : Hid (∀ j, j < t + 1 → (cs.set t (takeN bs (t * wd) wd)).getD j 0 = takeN bs (j * wd) wd) := Lib.hid (fun j hj => by
        by_cases e : j = t
        · subst e
          rw [List.getD_eq_getElem?_getD, List.getElem?_set_self (by rw [HCN.out]; exact hlt)]
          rfl
        · rw [List.getD_eq_getElem?_getD, List.getElem?_set_ne (by omega), ← List.getD_eq_getElem?_getD]
          exact HCG.out j (by omega))
      obtain ⟨v, hvv⟩ : ∃ v, v = takeN bs (t * wd) wd := ⟨_, rfl⟩
      rw [← hvv] at HBI hv HCG2
      have ev : IntKind.i64.wrap (v : Int) = (v : Int) := by rw [IntKind.wrap_i64]; omega
      have HBK2 : Hid (Blk (wr.setCell ⟨p, 2, none⟩ (.int .i64 ((t * wd + wd : Nat) : Int))) p 123 #[.slice A1 bs.length c1, .int .i64 N, .int .i64 ((t * wd + wd : Nat) : Int)]) := Lib.hid (by
        have h9 := HBK.out.set_ 2 (.int .i64 ((t * wd + wd : Nat) : Int))
        simpa using h9)
      have HO2 : Hid (OwnN (wr.setCell ⟨p, 2, none⟩ (.int .i64 ((t * wd + wd : Nat) : Int))) w1.heap.size (.slice (some ⟨w1.heap.size, 0, none⟩) n n) cs) := Lib.hid (World.ownsRow.kept HO.out (grown_setCell wr p 2 _) (.inr (own_ne HO.out HBK.out (by decide))))
      have HG2 : Hid (w1.grownBy (wr.setCell ⟨p, 2, none⟩ (.int .i64 ((t * wd + wd : Nat) : Int))) (some p)) := Lib.hid (HG.out.trans (grown_setCell wr p 2 _))
      obtain ⟨W, hW⟩ : ∃ W, W = wr.setCell ⟨p, 2, none⟩ (.int .i64 ((t * wd + wd : Nat) : Int)) := ⟨_, rfl⟩
      rw [← hW] at HBI HBK2 HO2 HG2
      have hne : w1.heap.size ≠ p := by omega
      have hc0 : W.cell? ⟨w1.heap.size, t, none⟩ = some (.int .i64 (cs.getD t 0 : Nat)) := getN_cell (by have h9 := HO2.out; rw [← HCN.out] at h9; exact h9) HCN.out hlt
      have hf0 : W.frozen? ⟨w1.heap.size, t, none⟩ = false := by
        have h9 := HO2.out
        rw [← HCN.out] at h9
        exact ownN_free h9 t
      have hsz : w1.heap.size < W.heap.size := (HO2.out.lt _ rfl).2
      have HO3 : Hid (OwnN (W.setCell ⟨w1.heap.size, t, none⟩ (.int .i64 (v : Int))) w1.heap.size (.slice (some ⟨w1.heap.size, 0, none⟩) n n) (cs.set t v)) := Lib.hid (by have h9 := HO2.out; rw [← HCN.out] at h9; have h8 := ownN_stored h9 t v; rw [HCN.out] at h8; exact h8)
      have HBK3 : Hid (Blk (W.setCell ⟨w1.heap.size, t, none⟩ (.int .i64 (v : Int))) p 123 #[.slice A1 bs.length c1, .int .i64 N, .int .i64 (((t + 1) * wd : Nat) : Int)]) := Lib.hid (by
        rw [Nat.add_mul, Nat.one_mul]
        exact (Below.heap_setCell W ⟨w1.heap.size, t, none⟩ _ p (by simp only; omega)).trans HBK2.out)
      have HG3 := Lib.hid (grown_new HG2.out w1.heap.size t (.int .i64 (v : Int)) (Nat.le_refl _))
      generalize cs.getD t 0 = old at hc0
      clear hW hvv HRS
      go_wp2_with fail
      refine HBI.out.mono ?_
      rintro e w2 ⟨rfl, rfl⟩
      clear HBI
      go_wp2
      go_roundw
      case measure => simp [intOf]; omega
      case rel => exact ⟨t + 1, cs.set t v, by go_num, by omega, Lib.hid (by rw [List.length_set]; exact HCN.out), HCG2, HO3, HBK3, HG3⟩
    · obtain rfl : t = n := by omega
      have HF : Hid (lowF bs t wd = cs) := Lib.hid (list_ext0 (lowF_len _ _ _) HCN.out (fun j hj => by rw [lowF_get _ _ _ _ hj, HCG.out j hj]))
      have HBE : Hid (Below w.heap.size w wr) := Lib.hid (HB1.out.grown HG.out hsz1 (fun k hk => by injection hk with hk; omega))
      go_wp2
      go_ret
      rw [HF.out]
      exact ⟨_, rfl, HO.out.lower hsz1, HBE.out⟩
end Go.Proofs.Ytnldnaogbadajaa.Tb

/- block.Unpack, walked. (Written by gen/gen_je.py.) -/
set_option linter.unusedVariables false
set_option linter.unusedSimpArgs false
namespace Go.Proofs.Ytnldnaogbadajaa.Tb
open Go.RowKit

/-! ### plain -/
def loopF (n wd : Nat) : Nat → Int → List Nat → List Nat → Option (List Nat)
  | 0, _, _, vals => some vals
  | c + 1, at_, rest, vals =>
    if (numF (numF true rest 128).2.1 (numF true rest 128).2.2 (2147483647 / 2 ^ wd)).2.1 = true ∧ 0 ≤ at_ + ((numF true rest 128).1 : Int) ∧ at_ + ((numF true rest 128).1 : Int) < (n : Int) then
      loopF n wd c (at_ + ((numF true rest 128).1 : Int)) (numF (numF true rest 128).2.1 (numF true rest 128).2.2 (2147483647 / 2 ^ wd)).2.2
        (vals.set (at_ + ((numF true rest 128).1 : Int)).toNat (vals.getD (at_ + ((numF true rest 128).1 : Int)).toNat 0 ||| (numF (numF true rest 128).2.1 (numF true rest 128).2.2 (2147483647 / 2 ^ wd)).1 * 2 ^ wd))
    else none
/-- The head of a block: its three numbers, and what is behind them. -/
def hdF (b : List Nat) : Nat × Nat × Nat × Bool × List Nat :=
  let a := numF true b 128
  let w := numF a.2.1 a.2.2 31
  let c := numF w.2.1 w.2.2 128
  (a.1, w.1, c.1, c.2.1, c.2.2)
def szF (n wd : Nat) : Nat := (n * wd + 7) / 8
def unpackF (b : List Nat) : Option (List Nat) :=
  let h := hdF b
  if h.2.2.2.1 = true ∧ szF h.1 h.2.1 ≤ h.2.2.2.2.length then
    match loopF h.1 h.2.1 h.2.2.1 (-1) (h.2.2.2.2.drop (szF h.1 h.2.1)) (lowF (h.2.2.2.2.take (szF h.1 h.2.1)) h.1 h.2.1) with
    | some vs => if packL vs = b then some vs else none
    | none => none
  else none
def UnpPost (w : World) (bs : List Nat) (e : Ending) (w' : World) : Prop :=
  match unpackF bs with
  | some vs => ∃ v', e = .returned (.tuple #[v', .int .i64 0]) ∧ OwnN w' w.heap.size v' vs ∧ Below w.heap.size w w'
  | none => e = .returned (.tuple #[.slice none 0 0, .int .i64 9]) ∧ Below w.heap.size w w'
theorem UnpPost.no {w w' : World} {bs : List Nat} {e : Ending} (h : unpackF bs = none) (he : e = .returned (.tuple #[.slice none 0 0, .int .i64 9])) (hb : Below w.heap.size w w') : UnpPost w bs e w' := by
  unfold UnpPost
  rw [h]
  exact ⟨he, hb⟩
theorem i64_or_nat (a b : Nat) (ha : a < 2147483648) (hb : b < 2147483648) : bits BinOp.or IntKind.i64 (a : Int) (b : Int) = ((a ||| b : Nat) : Int) := by
  have e1 : ∀ n : Nat, n < 2147483648 → (BitVec.ofInt 64 (n : Int)).toNat = n := fun n h => by
    rw [BitVec.ofInt_natCast, BitVec.toNat_ofNat]; exact Nat.mod_eq_of_lt (by omega)
  have hx : a ||| b < 2 ^ 31 := Nat.or_lt_two_pow (by omega) (by omega)
  show IntKind.i64.wrap ((BitVec.ofInt 64 (a : Int) ||| BitVec.ofInt 64 (b : Int)).toNat : Int) = _
  rw [BitVec.toNat_or, e1 a ha, e1 b hb, IntKind.wrap_i64]
  omega
theorem BRd.adv {w : World} {p c m : Nat} {A A' : Option Addr} {bs : List Nat} {ok : Bool} {s : Option Nat} (h : BRd w p bs ok s) (hblk : Blk w p 81 #[.slice A m c, .bool ok]) (k : Nat) (hm : m = bs.length) (hk : k ≤ m) (hc : m ≤ c)
    (hr : RdB w A' (bs.drop k)) (hn : A' = none → m - k = 0 ∧ c - k = 0) (hne : ∀ b, A' = some b → b.block ≠ p) (hsp : ∀ b, A' = some b → b.spot = none) (hs : A'.map (fun a => a.block) = s) : BRd (w.setCell ⟨p, 0, none⟩ (.slice A' (m - k) (c - k))) p (bs.drop k) ok s := by
  refine ⟨⟨A', c - k, ?_, RdB.set_ hr p 0 _ hne, ?_, ?_, hne, hsp, hs⟩, byt_drop h.byt k⟩
  · have h9 := hblk.set_ 0 (.slice A' (m - k) (c - k))
    rw [List.length_drop, ← hm]
    simpa using h9
  · rw [List.length_drop, ← hm]; omega
  · rw [List.length_drop, ← hm]; exact hn

set_option maxRecDepth 100000 in
set_option maxHeartbeats 25600000 in
theorem Unpack_any (A : Option Addr) (c : Nat) (bs : List Nat) (w : World) (hr : RdB w A bs) (hA : A = none → bs.length = 0 ∧ c = 0) (hsp : ∀ b, A = some b → b.spot = none ∧ b.block < w.heap.size) (hc : bs.length ≤ c) (hb : Byt bs) (hm : bs.length ≤ 1000000) :
    Calls Try.prog 33 #[.slice A bs.length c] w (UnpPost w bs) := by
  have HA := Lib.hid hr
  have HBY := Lib.hid hb
  have HSP := Lib.hid hsp
  have HAN := Lib.hid hA
  have HB0 : Hid (BRd (w.alloc (.cells #[.slice A bs.length c, .bool true] 81)) w.heap.size bs true (A.map (fun a => a.block))) := Lib.hid ⟨⟨A, c, heap_alloc_new _ _, hr.below (bel9 _ _), hc, hA, fun b hb2 e => by have := (hsp b hb2).2; omega, fun b hb2 => (hsp b hb2).1, rfl⟩, hb⟩
  have HBE0 := Lib.hid (bel9 w (.cells #[.slice A bs.length c, .bool true] 81))
  obtain ⟨p, hp⟩ : ∃ p, p = w.heap.size := ⟨_, rfl⟩
  have HP := Lib.hid hp
  rcases ha1 : numF true bs 128 with ⟨n, ok1, r1⟩
  rcases ha2 : numF ok1 r1 31 with ⟨wd, ok2, r2⟩
  rcases ha3 : numF ok2 r2 128 with ⟨cnt, ok3, r3⟩
  have hhd : hdF bs = (n, wd, cnt, ok3, r3) := by unfold hdF; simp only [ha1, ha2, ha3]
  have hn : n ≤ 128 := by have := numF_lim true bs 128; rw [ha1] at this; exact this
  have hwd : wd ≤ 31 := by have := numF_lim ok1 r1 31; rw [ha2] at this; exact this
  have hcnt : cnt ≤ 128 := by have := numF_lim ok2 r2 128; rw [ha3] at this; exact this
  have hl1 : r1.length ≤ bs.length := by have := numF_len true bs 128; rw [ha1] at this; exact this
  have hl2 : r2.length ≤ r1.length := by have := numF_len ok1 r1 31; rw [ha2] at this; exact this
  have hl3 : r3.length ≤ r2.length := by have := numF_len ok2 r2 128; rw [ha3] at this; exact this
  have HN1 := Lib.hid (fun W (hW : BRd W p bs true (A.map (fun a => a.block))) => BRd_number p bs true (A.map (fun a => a.block)) 128 W hW (by omega) (by omega))
  have HN2 := Lib.hid (fun W (hW : BRd W p r1 ok1 (A.map (fun a => a.block))) => BRd_number p r1 ok1 (A.map (fun a => a.block)) 31 W hW (by omega) (by omega))
  have HN3 := Lib.hid (fun W (hW : BRd W p r2 ok2 (A.map (fun a => a.block))) => BRd_number p r2 ok2 (A.map (fun a => a.block)) 128 W hW (by omega) (by omega))
  rw [ha1] at HN1
  rw [ha2] at HN2
  rw [ha3] at HN3
  simp only at HN1 HN2 HN3
  have HSO : Hid (ok3 = true → A ≠ none) := Lib.hid (fun h3 hAn => by
      subst hAn
      have h0 : bs = [] := List.eq_nil_of_length_eq_zero (hA rfl).1
      subst h0
      have e1 : numF true [] 128 = (0, false, []) := rfl
      rw [e1] at ha1
      injection ha1 with _ ha1
      injection ha1 with ha1 hr1
      subst ha1 hr1
      have e2 : numF false [] 31 = (0, false, []) := rfl
      rw [e2] at ha2
      injection ha2 with _ ha2
      injection ha2 with ha2 hr2
      subst ha2 hr2
      have e3 : numF false [] 128 = (0, false, []) := rfl
      rw [e3] at ha3
      injection ha3 with _ ha3
      injection ha3 with ha3 _
      rw [h3] at ha3
      cases ha3)
  have HUF : Hid (unpackF bs = if ok3 = true ∧ szF n wd ≤ r3.length then (match loopF n wd cnt (-1) (r3.drop (szF n wd)) (lowF (r3.take (szF n wd)) n wd) with | some vs => if packL vs = bs then some vs else none | none => none) else none) := Lib.hid (by unfold unpackF; simp only [hhd])
  obtain ⟨N, hN⟩ : ∃ N, N = n * wd := ⟨_, rfl⟩
  have hN4 : N ≤ 3968 := by rw [hN]; exact Nat.mul_le_mul hn hwd
  have eN : (n : Int) * (wd : Int) = (N : Int) := by rw [hN]; push_cast; rfl
  obtain ⟨S, hS⟩ : ∃ S, S = szF n wd := ⟨_, rfl⟩
  have eS : ((N : Int) + 7) / 8 = (S : Int) := by rw [hS]; unfold szF; rw [← hN]; omega
  have HSE : Hid (S = (n * wd + 7) / 8) := Lib.hid hS
  rw [← hS] at HUF
  obtain ⟨m, hmm⟩ : ∃ m, m = bs.length := ⟨_, rfl⟩
  rw [← hmm] at hm hl1 HB0 HBE0 ⊢
  rw [← hp] at HB0
  have HM := Lib.hid hmm
  clear hr hA hc hb hsp hmm ha1 ha2 ha3 hhd hN hS hp
  go_enter Try.func33, Try.ntmps33
  go_wp2
  refine wp_scope_jumps 0 (fun a' w' => Hid (unpackF bs = none) ∧ Below w.heap.size w w' ∧ ∃ u0 u1 u2 u3 u4 u5 u6 u7 u8 u9 u10 u11 u12 u13 u14 u15 u16 u17 u18 u19 u20 u21 u22 u23 u24 u25 u26 u27 u28 u29 u30 u31 u32 u33 u34 u35 u36 u37 u38 u39 u40 u41 u42 u43 u44 u45 u46 u47 u48 u49 u50 u51 u52 u53 u54 u55 u56 u57 u58 u59 u60 u61 u62 u63 u64 u65 u66 u67 u68 u69 u70 u71 u72 u73 u74 u75 u76 u77 u78 u79 u80 u81 u82 u83 u84 u85 : Value, a' = { tmps := #[u0, u1, u2, u3, u4, u5, u6, u7, u8, u9, u10, u11, u12, u13, u14, u15, u16, u17, u18, u19, u20, u21, u22, u23, u24, u25, u26, u27, u28, u29, u30, u31, u32, u33, u34, u35, u36, u37, u38, u39, u40, u41, u42, u43, u44, u45, u46, u47, u48, u49, u50, u51, u52, u53, u54, u55, u56, u57, u58, u59, u60, u61, u62, u63, u64, u65, u66, u67, u68, u69, u70, u71, u72, u73, u74, u75, u76, u77, u78, u79, u80, u81, u82, u83, u84, u85], defers := [] }) (fun _ _ => 0) rfl ?_ ?_
  · go_wp2_with fail
    rw [← HP.out]
    refine (HN1.out _ HB0.out).mono ?_
    rintro e w1 ⟨rfl, hs1, j1, x1, hw1⟩
    have HS1 := Lib.hid hs1
    have HE1 : Hid (Below w.heap.size w w1) := Lib.hid (by rw [hw1]; exact HBE0.out.setCell (p := ⟨p, j1, none⟩) (by rw [HP.out]; exact Nat.le_refl _) x1)
    clear hs1 hw1 HN1 HB0 HBE0
    go_wp2_with fail
    refine (HN2.out _ HS1.out).mono ?_
    rintro e w2 ⟨rfl, hs2, j2, x2, hw2⟩
    have HS2 := Lib.hid hs2
    have HE2 : Hid (Below w.heap.size w w2) := Lib.hid (by rw [hw2]; exact HE1.out.setCell (p := ⟨p, j2, none⟩) (by rw [HP.out]; exact Nat.le_refl _) x2)
    clear hs2 hw2 HN2 HS1 HE1
    go_wp2_with fail
    refine (HN3.out _ HS2.out).mono ?_
    rintro e w3 ⟨rfl, hs3, j3, x3, hw3⟩
    have HS3 := Lib.hid hs3
    have HE3 : Hid (Below w.heap.size w w3) := Lib.hid (by rw [hw3]; exact HE2.out.setCell (p := ⟨p, j3, none⟩) (by rw [HP.out]; exact Nat.le_refl _) x3)
    clear hs3 hw3 HN3 HS2 HE2
    obtain ⟨A3, c3, hk3, hr3, hc3, hn3, hne3, hsp3, hso3⟩ := HS3.out.it
    have k0 : w3.cell? ⟨p, 0, none⟩ = some (.slice A3 r3.length c3) := hk3.cell 0
    have k1 : w3.cell? ⟨p, 1, none⟩ = some (.bool ok3) := hk3.cell 1
    have q0 : w3.frozen? ⟨p, 0, none⟩ = false := hk3.free 0
    have HK3 := Lib.hid hk3
    have HR3 := Lib.hid hr3
    have HN3 := Lib.hid hn3
    have HNE3 := Lib.hid hne3
    have HSP3 := Lib.hid hsp3
    have HSO3 := Lib.hid hso3
    obtain ⟨m3, hm3⟩ : ∃ m3, m3 = r3.length := ⟨_, rfl⟩
    rw [← hm3] at k0 HK3 hc3 HN3 HUF hl3
    have HM3 := Lib.hid hm3
    have hp3 : p < w3.heap.size := hk3.lt
    clear hk3 hr3 hn3 hne3 hsp3 hso3 hm3
    by_cases hok : ok3 = true
    · subst hok
      by_cases hsz : S ≤ m3
      · rw [if_pos ⟨rfl, hsz⟩] at HUF
        have t1 : ¬ (m3 : Int) < (S : Int) := by omega
        obtain ⟨b3, o3, s3, hA3⟩ : ∃ b3 o3 s3, A3 = some ⟨b3, o3, s3⟩ := by
          cases hA3 : A3 with
          | none =>
            have h9 := HSO3.out
            rw [hA3] at h9
            cases hAA : A with
            | none => exact absurd hAA (HSO.out rfl)
            | some a => rw [hAA] at h9; cases h9
          | some a => exact ⟨a.block, a.off, a.spot, rfl⟩
        obtain rfl : s3 = none := HSP3.out _ hA3
        subst hA3
        have HTL : Hid ((r3.take S).length = S) := Lib.hid (by rw [List.length_take, ← HM3.out]; omega)
        have HLW := lowest_ok (some ⟨b3, o3, none⟩) c3 (r3.take S) n wd w3 (rdB_take (ts := r3.drop S) (by rw [List.take_append_drop]; exact HR3.out)) (fun h => by cases h) (by rw [HTL.out]; omega) (fun x hx => HS3.out.byt x (List.mem_of_mem_take hx)) hn hwd (by rw [HTL.out]; exact HSE.out)
        rw [HTL.out] at HLW
        have HLW' := Lib.hid HLW
        clear HLW
        go_wp2_with fail
        refine HLW'.out.mono ?_
        rintro e w4 ⟨v4, rfl, ho4, hb4⟩
        have HS4 := Lib.hid (HS3.out.below hb4)
        have HK4 := Lib.hid ((hb4.block p HK3.out.lt).trans HK3.out)
        have HE4 := Lib.hid (HE3.out.trans (hb4.mono HE3.out.size))
        have HR4 := Lib.hid (HR3.out.below hb4)
        have HBL : Hid (b3 ≠ p) := Lib.hid (HNE3.out _ rfl)
        have HO4 := Lib.hid (ho4.lower HE3.out.size)
        have y0 : w4.cell? ⟨p, 0, none⟩ = some (.slice (some ⟨b3, o3, none⟩) m3 c3) := Blk.cell HK4.out 0
        have z0 : w4.frozen? ⟨p, 0, none⟩ = false := Blk.free HK4.out 0
        have hp4 : p < w4.heap.size := Blk.lt HK4.out
        obtain ⟨_, Av, cv, rfl, _, _, hcv, _⟩ := own_rd ho4
        rw [lowF_len] at HO4 hcv ⊢
        have g1 : (S : Int) ≤ (m3 : Int) := by omega
        clear ho4 hb4 k0 k1 q0 hp3 HLW' HS3 HK3 HE3 HR3
        have hnS : ∀ A4, (A4 = some ⟨b3, o3 + S, none⟩ ∨ (c3 = S ∧ A4 = some ⟨b3, o3, none⟩)) → BRd (w4.setCell ⟨p, 0, none⟩ (.slice A4 (m3 - S) (c3 - S))) p (r3.drop S) true (A.map (fun a => a.block)) := fun A4 h4 => by
          refine HS4.out.adv HK4.out S HM3.out hsz hc3 ?_ ?_ ?_ ?_ ?_
          · rcases h4 with e | ⟨e1, e2⟩
            · rw [e]
              by_cases h0 : 0 < r3.length
              · obtain ⟨b5, o5, e5, cc⟩ := HR4.out h0
                injection e5 with e5
                injection e5 with e5 e6
                subst e5 e6
                exact RdB.sub cc S
              · intro hl9
                rw [List.length_drop] at hl9
                omega
            · intro hl9
              rw [List.length_drop, ← HM3.out] at hl9
              omega
          · intro h9; rcases h4 with e | ⟨_, e⟩ <;> (rw [e] at h9; cases h9)
          · intro b' hb'
            rcases h4 with e | ⟨_, e⟩ <;> (rw [e] at hb'; injection hb' with hb'; subst hb'; exact HBL.out)
          · intro b' hb'
            rcases h4 with e | ⟨_, e⟩ <;> (rw [e] at hb'; injection hb' with hb'; subst hb'; rfl)
          · rcases h4 with e | ⟨_, e⟩ <;> (rw [e]; exact HSO3.out)
        have hO4 : ∀ u, OwnN (w4.setCell ⟨p, 0, none⟩ u) w.heap.size (.slice Av n cv) (lowF (r3.take S) n wd) := fun u => World.ownsRow.kept HO4.out (grown_setCell w4 p 0 u) (.inr (own_ne HO4.out HK4.out (by decide)))
        have hE4 : ∀ u, Below w.heap.size w (w4.setCell ⟨p, 0, none⟩ u) := fun u => HE4.out.setCell (p := ⟨p, 0, none⟩) (by rw [HP.out]; exact Nat.le_refl _) u
        have HKS := Lib.hid hnS
        have HKO := Lib.hid hO4
        have HKE := Lib.hid hE4
        clear hnS hO4 hE4
        go_upto_region 9 with fail
        go_cut [11] (fun s wx => s = .int .i64 (S : Nat) ∧ Hid (BRd wx p (r3.drop S) true (A.map (fun a => a.block))) ∧ Hid (OwnN wx w.heap.size (.slice Av n cv) (lowF (r3.take S) n wd)) ∧ Hid (Below w.heap.size w wx))
        case first =>
          by_cases hcS : c3 = S
          · have hx0 := HKS.out (some ⟨b3, o3, none⟩) (.inr ⟨hcS, rfl⟩)
            rw [show c3 - S = 0 by omega] at hx0
            have HX := Lib.hid hx0
            clear hx0
            go_wp2_with fail
            go_meet
            case rel => exact ⟨rfl, HX, Lib.hid (HKO.out _), Lib.hid (HKE.out _)⟩
          · have HX := Lib.hid (HKS.out (some ⟨b3, o3 + S, none⟩) (.inl rfl))
            go_wp2_with fail
            go_meet
            case rel => exact ⟨rfl, HX, Lib.hid (HKO.out _), Lib.hid (HKE.out _)⟩
        case rest =>
          obtain ⟨rfl, HS5, HO5, HE5⟩ := hcut
          clear HKS HKO HKE y0 z0 hp4 HS4 HK4 HR4 HE4 HO4
          have HLL : Hid (∀ x ∈ lowF (r3.take S) n wd, x < 2147483648) := Lib.hid (fun x hx => by
            unfold lowF at hx
            obtain ⟨i, _, rfl⟩ := List.mem_map.1 hx
            exact Nat.lt_of_lt_of_le (takeN_lt _ _ _) (Nat.le_trans (Nat.pow_le_pow_right (by omega) hwd) (by decide)))
          have HL0 : Hid ((lowF (r3.take S) n wd).length = n) := Lib.hid (lowF_len _ _ _)
          have HRL : Hid ((r3.drop S).length ≤ m3) := Lib.hid (by rw [List.length_drop, ← HM3.out]; omega)
          obtain ⟨lim, hlim⟩ : ∃ lim, lim = 2147483647 / 2 ^ wd := ⟨_, rfl⟩
          have eP : (2147483647 : Int) / 2 ^ wd = (lim : Int) := by rw [hlim, Int.natCast_ediv, Int.natCast_pow]; rfl
          have hlim2 : lim * 2 ^ wd ≤ 2147483647 := by rw [hlim]; exact Nat.div_mul_le_self _ _
          have hlim1 : lim ≤ 2147483647 := by rw [hlim]; exact Nat.div_le_self _ _
          have gw1 : (0 : Int) ≤ (wd : Int) := by omega
          have gw2 : (wd : Int) < 64 := by omega
          have HLM2 := Lib.hid hlim2
          have HLIM := Lib.hid hlim
          obtain ⟨R0, hR0⟩ : ∃ R0, R0 = loopF n wd cnt (-1) (r3.drop S) (lowF (r3.take S) n wd) := ⟨_, rfl⟩
          rw [← hR0] at HUF
          have HR0 := Lib.hid hR0
          clear hlim hlim2 hR0
          go_wp2
          go_loopw [6, 10] (fun a s wr => ∃ (k : Nat) (at_ : Int) (rs vals : List Nat), s = .int .i64 k ∧ a = .int .i64 at_ ∧ k ≤ 128 ∧ -1 ≤ at_ ∧ at_ < 128 ∧ Hid (loopF n wd k at_ rs vals = R0) ∧ Hid (vals.length = n) ∧ Hid (∀ x ∈ vals, x < 2147483648) ∧ rs.length ≤ m3 ∧ Hid (BRd wr p rs true (A.map (fun a => a.block))) ∧ Hid (OwnN wr w.heap.size (.slice Av n cv) vals) ∧ Hid (Below w.heap.size w wr)) (fun _ s _ => (intOf s).toNat)
          case atStart => exact ⟨cnt, -1, r3.drop S, lowF (r3.take S) n wd, rfl, rfl, hcnt, by omega, by omega, Lib.hid HR0.out.symm, HL0, HLL, HRL.out, HS5, HO5, HE5⟩
          case round =>
            clear HS5 HO5 HE5 HLL HL0 HRL
            obtain ⟨k, at_, rs, vals, rfl, rfl, hk, hat1, hat2, HLF, HVN, HVL, hrl, HS6, HO6, HE6⟩ := hrel
            by_cases hk0 : 0 < k
            · obtain ⟨k, rfl⟩ : ∃ q, k = q + 1 := ⟨k - 1, by omega⟩
              rcases hg : numF true rs 128 with ⟨gap, ok4, r4⟩
              rcases hh : numF ok4 r4 lim with ⟨high, ok5, r5⟩
              have hgl : gap ≤ 128 := by have := numF_lim true rs 128; rw [hg] at this; exact this
              have hhl : high ≤ lim := by have := numF_lim ok4 r4 lim; rw [hh] at this; exact this
              have hr4 : r4.length ≤ rs.length := by have := numF_len true rs 128; rw [hg] at this; exact this
              have hr5 : r5.length ≤ r4.length := by have := numF_len ok4 r4 lim; rw [hh] at this; exact this
              have HNa := Lib.hid (fun W (hW : BRd W p rs true (A.map (fun a => a.block))) => BRd_number p rs true (A.map (fun a => a.block)) 128 W hW (by omega) (by omega))
              have HNb := Lib.hid (fun W (hW : BRd W p r4 ok4 (A.map (fun a => a.block))) => BRd_number p r4 ok4 (A.map (fun a => a.block)) lim W hW (by omega) (by omega))
              rw [hg] at HNa
              rw [hh] at HNb
              simp only at HNa HNb
              have HLS : Hid (R0 = if ok5 = true ∧ 0 ≤ at_ + (gap : Int) ∧ at_ + (gap : Int) < (n : Int) then loopF n wd k (at_ + (gap : Int)) r5 (vals.set (at_ + (gap : Int)).toNat (vals.getD (at_ + (gap : Int)).toNat 0 ||| high * 2 ^ wd)) else none) := Lib.hid (by
                have h1 := HLF.out
                rw [loopF] at h1
                rw [← HLIM.out] at h1
                simp only [hg, hh] at h1
                exact h1.symm)
              have HHP : Hid (high * 2 ^ wd ≤ 2147483647) := Lib.hid (Nat.le_trans (Nat.mul_le_mul_right _ hhl) HLM2.out)
              clear hg hh
              go_wp2_with fail
              refine (HNa.out _ HS6.out).mono ?_
              rintro e w7 ⟨rfl, hs7, j7, x7, hw7⟩
              have HS7 := Lib.hid hs7
              have HE7 : Hid (Below w.heap.size w w7) := Lib.hid (by rw [hw7]; exact HE6.out.setCell (p := ⟨p, j7, none⟩) (by rw [HP.out]; exact Nat.le_refl _) x7)
              obtain ⟨_, _, hbk6, _⟩ := HS6.out.it
              have HO7 : Hid (OwnN w7 w.heap.size (.slice Av n cv) vals) := Lib.hid (by rw [hw7]; exact World.ownsRow.kept HO6.out (grown_setCell wr p j7 x7) (.inr (own_ne HO6.out hbk6 (by decide))))
              clear hs7 hw7 HNa hbk6 HS6 HO6 HE6
              go_wp2_with fail
              refine (HNb.out _ HS7.out).mono ?_
              rintro e w8 ⟨rfl, hs8, j8, x8, hw8⟩
              have HS8 := Lib.hid hs8
              have HE8 : Hid (Below w.heap.size w w8) := Lib.hid (by rw [hw8]; exact HE7.out.setCell (p := ⟨p, j8, none⟩) (by rw [HP.out]; exact Nat.le_refl _) x8)
              obtain ⟨_, _, hbk7, _⟩ := HS7.out.it
              have HO8 : Hid (OwnN w8 w.heap.size (.slice Av n cv) vals) := Lib.hid (by rw [hw8]; exact World.ownsRow.kept HO7.out (grown_setCell w7 p j8 x8) (.inr (own_ne HO7.out hbk7 (by decide))))
              clear hs8 hw8 HNb hbk7 HS7 HO7 HE7
              have k1 : w8.cell? ⟨p, 1, none⟩ = some (.bool ok5) := by obtain ⟨A8, c8, hbk8, _⟩ := HS8.out.it; exact hbk8.cell 1
              obtain ⟨at5, hat5⟩ : ∃ z, z = at_ + (gap : Int) := ⟨_, rfl⟩
              have eat : at_ + (gap : Int) = at5 := hat5.symm
              rw [eat] at HLS
              have h5a : -1 ≤ at5 := by omega
              have h5b : at5 < 256 := by omega
              have HAT := Lib.hid hat5
              clear hat5
              by_cases hok5 : ok5 = true
              · subst hok5
                by_cases h50 : at5 < 0
                · have HUN : Hid (unpackF bs = none) := Lib.hid (by
                    rw [HUF.out, HLS.out, if_neg (fun h => by omega)])
                  go_wp2
                  go_step3
                  exact ⟨rfl, HUN, HE8.out, _, _, _, _, _, _, _, _, _, _, _, _, _, _, _, _, _, _, _, _, _, _, _, _, _, _, _, _, _, _, _, _, _, _, _, _, _, _, _, _, _, _, _, _, _, _, _, _, _, _, _, _, _, _, _, _, _, _, _, _, _, _, _, _, _, _, _, _, _, _, _, _, _, _, _, _, _, _, _, _, _, _, _, _, _, _, rfl⟩
                · by_cases h5n : (n : Int) ≤ at5
                  · have HUN : Hid (unpackF bs = none) := Lib.hid (by
                      rw [HUF.out, HLS.out, if_neg (fun h => by omega)])
                    go_wp2
                    go_step3
                    exact ⟨rfl, HUN, HE8.out, _, _, _, _, _, _, _, _, _, _, _, _, _, _, _, _, _, _, _, _, _, _, _, _, _, _, _, _, _, _, _, _, _, _, _, _, _, _, _, _, _, _, _, _, _, _, _, _, _, _, _, _, _, _, _, _, _, _, _, _, _, _, _, _, _, _, _, _, _, _, _, _, _, _, _, _, _, _, _, _, _, _, _, _, _, _, rfl⟩
                  · obtain ⟨q, rfl⟩ : ∃ q : Nat, at5 = (q : Int) := ⟨at5.toNat, by omega⟩
                    have hqn : q < n := by omega
                    rw [if_pos ⟨rfl, by omega, by omega⟩, Int.toNat_natCast] at HLS
                    obtain ⟨gv, cv', e9, hgv1, hgv2⟩ := ownN_form (by have h9 := HO8.out; exact h9) (by rw [HVN.out]; omega)
                    injection e9 with e9 e9n e10
                    clear e9n
                    subst e9 e10
                    have hx31 : vals.getD q 0 < 2147483648 := HVL.out _ (by rw [List.getD_eq_getElem?_getD, List.getElem?_eq_getElem (by rw [HVN.out]; exact hqn)]; exact List.getElem_mem _)
                    have hc0 : w8.cell? ⟨gv, q, none⟩ = some (.int .i64 (vals.getD q 0 : Nat)) := getN_cell (by have h9 := HO8.out; rw [← HVN.out] at h9; exact h9) HVN.out hqn
                    have hf0 : w8.frozen? ⟨gv, q, none⟩ = false := by have h9 := HO8.out; rw [← HVN.out] at h9; exact ownN_free h9 q
                    obtain ⟨x, hxx⟩ : ∃ x, x = vals.getD q 0 := ⟨_, rfl⟩
                    rw [← hxx] at hx31 hc0 HLS
                    obtain ⟨hv, hhv⟩ : ∃ hv, hv = high * 2 ^ wd := ⟨_, rfl⟩
                    have hhvl : hv < 2147483648 := by have := HHP.out; omega
                    rw [← hhv] at HLS
                    have esh : (high : Int) * 2 ^ wd = (hv : Int) := by rw [hhv]; push_cast; rfl
                    have eor := i64_or_nat x hv hx31 hhvl
                    obtain ⟨y, hy⟩ : ∃ y, y = x ||| hv := ⟨_, rfl⟩
                    rw [← hy] at eor HLS
                    have hy31 : y < 2147483648 := by rw [hy]; exact Nat.or_lt_two_pow (n := 31) (by omega) (by omega)
                    have HO9 : Hid (OwnN (w8.setCell ⟨gv, q, none⟩ (.int .i64 (y : Int))).drew w.heap.size (.slice (some ⟨gv, 0, none⟩) n cv) (vals.set q y)) := Lib.hid (by have h9 := HO8.out; rw [← HVN.out] at h9; have h8 := ownN_stored h9 q y; rw [HVN.out] at h8; exact h8.below (belDrew _ _))
                    have HNE : Hid (gv ≠ p) := Lib.hid (fun e => by obtain ⟨A8, c8, hbk8, _⟩ := HS8.out.it; exact own_ne HO8.out hbk8 (by decide) (by rw [e]; rfl))
                    have HVL9 : Hid (∀ z ∈ vals.set q y, z < 2147483648) := Lib.hid (fun z hz => by
                      rcases List.mem_or_eq_of_mem_set hz with hz | hz
                      · exact HVL.out z hz
                      · rw [hz]; exact hy31)
                    have HS9 : Hid (BRd (w8.setCell ⟨gv, q, none⟩ (.int .i64 (y : Int))).drew p r5 true (A.map (fun a => a.block))) := Lib.hid (by
                      obtain ⟨A8, c8, u1, u2, u3, u4, u5, u6, u7⟩ := HS8.out.it
                      have hne8 : ∀ b, A8 = some b → b.block ≠ gv := fun b hb e => by
                        rw [hb] at u7
                        cases hAA : A with
                        | none => rw [hAA] at u7; cases u7
                        | some a =>
                          rw [hAA] at u7
                          injection u7 with u7
                          have u8 : b.block = a.block := u7
                          have := (HSP.out a hAA).2
                          omega
                      refine BRd.below ⟨⟨A8, c8, ?_, u2.set_ _ _ _ hne8, u3, u4, u5, u6, u7⟩, HS8.out.byt⟩ (belDrew _ _)
                      exact (Below.heap_setCell w8 ⟨gv, q, none⟩ _ p (by show p ≠ gv; exact Ne.symm HNE.out)).trans u1)
                    have HE9 : Hid (Below w.heap.size w (w8.setCell ⟨gv, q, none⟩ (.int .i64 (y : Int))).drew) := Lib.hid ((HE8.out.setCell (p := ⟨gv, q, none⟩) hgv1 _).trans (belDrew _ _))
                    have hqn' : (q : Int) < (n : Int) := by omega
                    have hgs : gv < w8.heap.size := hgv2
                    clear hxx hhv hy
                    go_wp2_with fail
                    go_big_region
                    go_wp2
                    go_roundw
                    case measure => simp [intOf]
                    case rel => exact ⟨k, (q : Int), r5, vals.set q y, by go_num, rfl, by omega, by omega, by omega, Lib.hid HLS.out.symm, Lib.hid (by rw [List.length_set]; exact HVN.out), HVL9, by omega, HS9, HO9, HE9⟩
              · have hf5 : ok5 = false := by simpa using hok5
                subst hf5
                have HUN : Hid (unpackF bs = none) := Lib.hid (by
                  rw [HUF.out, HLS.out, if_neg (fun h => by cases h.1)])
                go_wp2
                go_step3
                exact ⟨rfl, HUN, HE8.out, _, _, _, _, _, _, _, _, _, _, _, _, _, _, _, _, _, _, _, _, _, _, _, _, _, _, _, _, _, _, _, _, _, _, _, _, _, _, _, _, _, _, _, _, _, _, _, _, _, _, _, _, _, _, _, _, _, _, _, _, _, _, _, _, _, _, _, _, _, _, _, _, _, _, _, _, _, _, _, _, _, _, _, _, _, _, rfl⟩
            · obtain rfl : k = 0 := by omega
              have HUF2 : Hid (unpackF bs = if packL vals = bs then some vals else none) := Lib.hid (by rw [HUF.out, ← HLF.out]; rfl)
              have HPK := Pack_ok Av cv vals wr (by have h9 := HO6.out; rw [← HVN.out] at h9; exact h9.rd.1) (by rw [HVN.out]; exact hn) (fun x hx => HVL.out x hx)
              rw [HVN.out] at HPK
              have HPK' := Lib.hid HPK
              clear HPK HS6
              go_wp2_with fail
              refine HPK'.out.mono ?_
              rintro e w7 ⟨v7, rfl, ho7, hb7⟩
              have HE7 := Lib.hid (HE6.out.trans (hb7.mono HE6.out.size))
              have HO7 := Lib.hid (HO6.out.below hb7)
              obtain ⟨A7, c7, rfl, hrd7, _⟩ := ho7.rd
              have HEQ := Lib.hid (Equal_any A7 A c7 c (packL vals) bs w7 hrd7 (HA.out.below HE7.out) (fun x hx => blkW_byt _ _ x hx) HBY.out)
              obtain ⟨l7, hl7⟩ : ∃ l7, l7 = (packL vals).length := ⟨_, rfl⟩
              rw [← hl7, ← HM.out] at HEQ
              rw [← hl7]
              clear ho7 hb7 hrd7 hl7 HPK' HO6 HE6
              by_cases hpe : packL vals = bs
              · rw [decide_eq_true hpe] at HEQ
                rw [if_pos hpe] at HUF2
                go_wp2_with fail
                refine HEQ.out.mono ?_
                rintro e w8 ⟨rfl, rfl⟩
                clear HEQ
                go_wp2
                simp only [Exit.jump]
                go_ret2
                unfold UnpPost
                rw [HUF2.out]
                exact ⟨_, rfl, HO7.out, HE7.out⟩
              · rw [decide_eq_false hpe] at HEQ
                rw [if_neg hpe] at HUF2
                have HUN : Hid (unpackF bs = none) := Lib.hid HUF2.out
                go_wp2_with fail
                refine HEQ.out.mono ?_
                rintro e w8 ⟨rfl, rfl⟩
                clear HEQ
                go_wp2
                go_step3
                exact ⟨rfl, HUN, HE7.out, _, _, _, _, _, _, _, _, _, _, _, _, _, _, _, _, _, _, _, _, _, _, _, _, _, _, _, _, _, _, _, _, _, _, _, _, _, _, _, _, _, _, _, _, _, _, _, _, _, _, _, _, _, _, _, _, _, _, _, _, _, _, _, _, _, _, _, _, _, _, _, _, _, _, _, _, _, _, _, _, _, _, _, _, _, _, rfl⟩
      · rw [if_neg (fun h => hsz h.2)] at HUF
        have t1 : (m3 : Int) < (S : Int) := by omega
        go_wp2
        go_step3
        exact ⟨rfl, Lib.hid HUF.out, HE3.out, _, _, _, _, _, _, _, _, _, _, _, _, _, _, _, _, _, _, _, _, _, _, _, _, _, _, _, _, _, _, _, _, _, _, _, _, _, _, _, _, _, _, _, _, _, _, _, _, _, _, _, _, _, _, _, _, _, _, _, _, _, _, _, _, _, _, _, _, _, _, _, _, _, _, _, _, _, _, _, _, _, _, _, _, _, _, rfl⟩
    · rw [if_neg (fun h => hok h.1)] at HUF
      have hf : ok3 = false := by simpa using hok
      subst hf
      go_wp2
      go_step3
      exact ⟨rfl, Lib.hid HUF.out, HE3.out, _, _, _, _, _, _, _, _, _, _, _, _, _, _, _, _, _, _, _, _, _, _, _, _, _, _, _, _, _, _, _, _, _, _, _, _, _, _, _, _, _, _, _, _, _, _, _, _, _, _, _, _, _, _, _, _, _, _, _, _, _, _, _, _, _, _, _, _, _, _, _, _, _, _, _, _, _, _, _, _, _, _, _, _, _, _, rfl⟩
  · rintro a' w1 ⟨HN, hb1, u0, u1, u2, u3, u4, u5, u6, u7, u8, u9, u10, u11, u12, u13, u14, u15, u16, u17, u18, u19, u20, u21, u22, u23, u24, u25, u26, u27, u28, u29, u30, u31, u32, u33, u34, u35, u36, u37, u38, u39, u40, u41, u42, u43, u44, u45, u46, u47, u48, u49, u50, u51, u52, u53, u54, u55, u56, u57, u58, u59, u60, u61, u62, u63, u64, u65, u66, u67, u68, u69, u70, u71, u72, u73, u74, u75, u76, u77, u78, u79, u80, u81, u82, u83, u84, u85, rfl⟩
    have HBF := Lib.hid hb1
    go_wp2
    simp only [Exit.jump]
    go_ret2
    exact UnpPost.no HN.out rfl HBF.out
end Go.Proofs.Ytnldnaogbadajaa.Tb

/- Plain: what is packed is unpacked. -/
set_option linter.unusedVariables false
namespace Go.Proofs.Ytnldnaogbadajaa.Tb

theorem numF_uv {u lim : Nat} {rest : List Nat} (h : u ≤ lim) (h2 : u < 18446744073709551616) : numF true (uv u ++ rest) lim = (u, true, rest) := by
  unfold numF
  rw [take_uv u rest h2]
  rw [if_pos ⟨rfl, rfl, h⟩]
  simp
theorem bitsW_app (w : Nat) (xs ys : List Nat) : bitsW w (xs ++ ys) = bitsW w xs ++ bitsW w ys := by simp [bitsW]
theorem lowF_pk (wd : Nat) (xs : List Nat) : lowF (pk (bitsW wd xs)) xs.length wd = xs.map (· % 2 ^ wd) := by
  refine list_ext0 (lowF_len _ _ _) (by simp) fun j hj => ?_
  rw [lowF_get _ _ _ _ hj]
  have hs : xs = xs.take j ++ (xs[j] :: xs.drop (j + 1)) := by rw [← List.drop_eq_getElem_cons hj, List.take_append_drop]
  have hb : bitsW wd xs = bitsW wd (xs.take j) ++ (lowB (xs[j] % 2 ^ wd) wd ++ bitsW wd (xs.drop (j + 1))) := by
    rw [lowB_mod]
    conv => lhs; rw [hs, bitsW_app]
    rfl
  have hl : (bitsW wd (xs.take j)).length = j * wd := by rw [bitsW_len, List.length_take, Nat.min_eq_left (by omega)]
  rw [hb, ← hl, takeN_low _ _ _ _ (Nat.mod_lt _ (Nat.two_pow_pos _)), List.getD_eq_getElem?_getD, List.getElem?_map, List.getElem?_eq_getElem hj]
  rfl
theorem or_split (v w : Nat) : (v % 2 ^ w) ||| (v / 2 ^ w * 2 ^ w) = v := by
  have h := Nat.two_pow_add_eq_or_of_lt (i := w) (b := v % 2 ^ w) (Nat.mod_lt _ (Nat.two_pow_pos _)) (v / 2 ^ w)
  rw [Nat.div_add_mod] at h
  rw [Nat.or_comm, Nat.mul_comm]
  exact h.symm
theorem loopF_exc (wd : Nat) : ∀ (ys pre : List Nat) (g n : Nat), n = pre.length + ys.length → n ≤ 128 → g ≤ pre.length + 1 → (∀ v ∈ ys, v < 2147483648) →
    loopF n wd (cntW wd ys) ((pre.length : Int) - (g : Int)) (excW wd g ys) (pre ++ ys.map (· % 2 ^ wd)) = some (pre ++ ys)
  | [], pre, g, n, _, _, _, _ => by simp [cntW, loopF]
  | v :: vs, pre, g, n, hn, hn8, hg, hv => by
    have hv0 := hv v (by simp)
    have hvs := fun x hx => hv x (List.mem_cons_of_mem _ hx)
    have hlen : (v :: vs).length = vs.length + 1 := rfl
    rw [hlen] at hn
    by_cases h : 0 < v / 2 ^ wd
    · have hc : cntW wd (v :: vs) = cntW wd vs + 1 := by unfold cntW; rw [List.filter_cons_of_pos (by rw [decide_eq_true_eq]; exact h), List.length_cons]
      have he : excW wd g (v :: vs) = uv g ++ (uv (v / 2 ^ wd) ++ excW wd 1 vs) := by rw [excW, if_pos h, List.append_assoc]
      have hh : v / 2 ^ wd ≤ 2147483647 / 2 ^ wd := Nat.div_le_div_right (by omega)
      have hd : v / 2 ^ wd ≤ v := Nat.div_le_self _ _
      rw [hc, he, loopF, numF_uv (u := g) (by omega) (by omega)]
      simp only
      rw [numF_uv (u := v / 2 ^ wd) hh (by omega)]
      simp only
      rw [show (pre.length : Int) - (g : Int) + (g : Int) = (pre.length : Int) by omega, if_pos ⟨trivial, by omega, by omega⟩, Int.toNat_natCast]
      have hget : (pre ++ (v :: vs).map (· % 2 ^ wd)).getD pre.length 0 = v % 2 ^ wd := by
        rw [List.getD_eq_getElem?_getD, List.getElem?_append_right (Nat.le_refl _), Nat.sub_self]
        rfl
      rw [hget, or_split]
      have hset : (pre ++ (v :: vs).map (· % 2 ^ wd)).set pre.length v = (pre ++ [v]) ++ vs.map (· % 2 ^ wd) := by
        rw [List.set_append_right _ _ (Nat.le_refl _), Nat.sub_self, List.map_cons, List.set_cons_zero]
        simp
      rw [hset]
      have ih := loopF_exc wd vs (pre ++ [v]) 1 n (by simp; omega) hn8 (by simp) hvs
      rw [show (((pre ++ [v]).length : Nat) : Int) - ((1 : Nat) : Int) = (pre.length : Int) by simp] at ih
      rw [ih]
      simp
    · have hc : cntW wd (v :: vs) = cntW wd vs := by unfold cntW; rw [List.filter_cons_of_neg (by rw [decide_eq_true_eq]; exact h)]
      have he : excW wd g (v :: vs) = excW wd (g + 1) vs := by rw [excW, if_neg h]
      have hm : v % 2 ^ wd = v := by
        have := Nat.div_add_mod v (2 ^ wd)
        rw [Nat.eq_zero_of_not_pos h, Nat.mul_zero, Nat.zero_add] at this
        exact this
      have ih := loopF_exc wd vs (pre ++ [v]) (g + 1) n (by simp; omega) hn8 (by simp; omega) hvs
      rw [hc, he, List.map_cons, hm]
      rw [show (((pre ++ [v]).length : Nat) : Int) - ((g + 1 : Nat) : Int) = (pre.length : Int) - (g : Int) by simp; omega] at ih
      rw [show pre ++ v :: vs.map (· % 2 ^ wd) = (pre ++ [v]) ++ vs.map (· % 2 ^ wd) by simp, ih]
      simp
theorem unpack_pack {xs : List Nat} (hl : xs.length ≤ 128) (hx : Lt31 xs) : unpackF (packL xs) = some xs := by
  have hw := bestW_lt xs
  obtain ⟨wd, hwd⟩ : ∃ wd, wd = bestW xs := ⟨_, rfl⟩
  rw [← hwd] at hw
  have hp : packL xs = uv xs.length ++ (uv wd ++ (uv (cntW wd xs) ++ (pk (bitsW wd xs) ++ excW wd 1 xs))) := by
    unfold packL blkW
    rw [← hwd]
    simp only [List.append_assoc]
  have hc := cntW_le wd xs
  have hh : hdF (packL xs) = (xs.length, wd, cntW wd xs, true, pk (bitsW wd xs) ++ excW wd 1 xs) := by
    unfold hdF
    rw [hp, numF_uv hl (by omega)]
    simp only
    rw [numF_uv (u := wd) (lim := 31) (by omega) (by omega)]
    simp only
    rw [numF_uv (u := cntW wd xs) (lim := 128) (by omega) (by omega)]
  have hs : szF xs.length wd = (pk (bitsW wd xs)).length := by unfold szF; rw [pk_len, bitsW_len]
  unfold unpackF
  simp only [hh]
  rw [hs, if_pos ⟨trivial, by simp⟩, List.drop_left', List.take_left', lowF_pk]
  · have hlp := loopF_exc wd xs [] 1 xs.length (by simp) hl (by simp) hx
    rw [show (([] : List Nat).length : Int) - ((1 : Nat) : Int) = -1 from rfl, List.nil_append, List.nil_append] at hlp
    rw [hlp]
    simp
  · rfl
  · rfl
theorem unpack_sound {b xs : List Nat} (h : unpackF b = some xs) : packL xs = b := by
  unfold unpackF at h
  simp only at h
  split at h
  · split at h
    · next vs _ =>
      split at h
      · next e => injection h with h; rw [← h]; exact e
      · cases h
    · cases h
  · cases h
end Go.Proofs.Ytnldnaogbadajaa.Tb

/- huffman.tableOf, walked. (Written by gen/gen_jg.py.) -/
set_option linter.unusedVariables false
set_option linter.unusedSimpArgs false
namespace Go.Proofs.Ytnldnaogbadajaa.Tb
open Go.RowKit

/-! ### plain -/
def symsK (ls P : List Nat) (n : Nat) : List Nat := P.filter fun i => decide (ls.getD i 0 = n)
def firstOf (cds : List Nat) : List Nat → Nat
  | [] => 0
  | i :: _ => cds.getD i 0
def longK (ls P : List Nat) : Nat := P.foldl (fun _ i => ls.getD i 0) 0
theorem symsK_snoc (ls P : List Nat) (i n : Nat) : symsK ls (P ++ [i]) n = symsK ls P n ++ if ls.getD i 0 = n then [i] else [] := by
  unfold symsK
  rw [List.filter_append]
  congr 1
  by_cases h : ls.getD i 0 = n
  · rw [if_pos h, List.filter_cons_of_pos (by rw [decide_eq_true_eq]; exact h)]; rfl
  · rw [if_neg h, List.filter_cons_of_neg (by rw [decide_eq_true_eq]; exact h)]; rfl
theorem longK_snoc (ls P : List Nat) (i : Nat) : longK ls (P ++ [i]) = ls.getD i 0 := by unfold longK; rw [List.foldl_append]; rfl
theorem symsK_len (ls P : List Nat) (n : Nat) : (symsK ls P n).length ≤ P.length := List.length_filter_le _ _
def upd (vs : Nat → Value) (x : Nat) (v : Value) : Nat → Value := fun n => if n = x then v else vs n
def tabC (cds ls P : List Nat) (vs : Nat → Value) : Array Value := ((List.range 16).map (fun n => Value.int .u64 (firstOf cds (symsK ls P n) : Nat)) ++ ((List.range 16).map vs ++ [Value.int .i64 (longK ls P : Nat)])).toArray
theorem tabC_get (cds ls P : List Nat) (vs : Nat → Value) (j : Nat) : (tabC cds ls P vs)[j]? = if j < 16 then some (.int .u64 (firstOf cds (symsK ls P j) : Nat)) else if j < 32 then some (vs (j - 16)) else if j = 32 then some (.int .i64 (longK ls P : Nat)) else none := by
  unfold tabC
  rw [List.getElem?_toArray]
  by_cases h1 : j < 16
  · rw [if_pos h1, List.getElem?_append_left (by simpa using h1), List.getElem?_map, List.getElem?_range h1]; rfl
  · rw [if_neg h1, List.getElem?_append_right (by simpa using h1), List.length_map, List.length_range]
    by_cases h2 : j < 32
    · rw [if_pos h2, List.getElem?_append_left (by simp; omega), List.getElem?_map, List.getElem?_range (by omega)]; rfl
    · rw [if_neg h2, List.getElem?_append_right (by simp; omega), List.length_map, List.length_range]
      by_cases h3 : j = 32
      · subst h3; rfl
      · rw [if_neg h3, List.getElem?_eq_none (by simp; omega)]
theorem tabC_size (cds ls P : List Nat) (vs : Nat → Value) : (tabC cds ls P vs).size = 33 := by simp [tabC]
theorem tab_first (cds ls P : List Nat) (vs : Nat → Value) (x i : Nat) (v' : Value) (hx : x < 16) (hxi : ls.getD i 0 = x) (h0 : symsK ls P x = []) :
    ((((tabC cds ls P vs).setIfInBounds x (.int .u64 (cds.getD i 0 : Nat))).setIfInBounds (16 + x) v').setIfInBounds 32 (.int .i64 (x : Nat))) = tabC cds ls (P ++ [i]) (upd vs x v') := by
  apply Array.ext_getElem?
  intro j
  have hz := tabC_size cds ls P vs
  simp only [Array.getElem?_setIfInBounds, Array.size_setIfInBounds, hz, tabC_get, symsK_snoc, longK_snoc, upd, hxi]
  by_cases e1 : j = 32
  · subst e1; simp
  · by_cases e2 : j = 16 + x
    · subst e2
      simp only [show ¬ 32 = 16 + x by omega, if_false, if_true, show 16 + x < 33 by omega, show ¬ 16 + x < 16 by omega, show 16 + x < 32 by omega, show 16 + x - 16 = x by omega]
    · by_cases e3 : j = x
      · subst e3
        simp only [show ¬ 32 = j by omega, show ¬ 16 + j = j by omega, if_false, if_true, show j < 33 by omega, hx, h0]
        rfl
      · simp only [show ¬ 32 = j by omega, show ¬ 16 + x = j by omega, show ¬ x = j by omega, if_false, List.append_nil]
        by_cases h16 : j < 16
        · simp [h16]
        · simp [h16, show ¬ j - 16 = x by omega, e1]
theorem tab_more (cds ls P : List Nat) (vs : Nat → Value) (x i : Nat) (v' : Value) (hx : x < 16) (hxi : ls.getD i 0 = x) (h0 : symsK ls P x ≠ []) :
    ((((tabC cds ls P vs)).setIfInBounds (16 + x) v').setIfInBounds 32 (.int .i64 (x : Nat))) = tabC cds ls (P ++ [i]) (upd vs x v') := by
  apply Array.ext_getElem?
  intro j
  have hz := tabC_size cds ls P vs
  simp only [Array.getElem?_setIfInBounds, Array.size_setIfInBounds, hz, tabC_get, symsK_snoc, longK_snoc, upd, hxi]
  by_cases e1 : j = 32
  · subst e1; simp
  · by_cases e2 : j = 16 + x
    · subst e2
      simp only [show ¬ 32 = 16 + x by omega, if_false, if_true, show 16 + x < 33 by omega, show ¬ 16 + x < 16 by omega, show 16 + x < 32 by omega, show 16 + x - 16 = x by omega]
    · by_cases e3 : j = x
      · subst e3
        simp only [show ¬ 32 = j by omega, show ¬ 16 + j = j by omega, if_false, if_true, hx]
        cases h : symsK ls P j with
        | nil => exact absurd h h0
        | cons a L => rfl
      · simp only [show ¬ 32 = j by omega, show ¬ 16 + x = j by omega, show ¬ x = j by omega, if_false, List.append_nil]
        by_cases h16 : j < 16
        · simp [h16]
        · simp [h16, show ¬ j - 16 = x by omega, e1]

/-! ### the table in memory -/
structure TbSt (w : World) (B p : Nat) (cds ls P : List Nat) (vs : Nat → Value) : Prop where
  blk : Blk w p 127 (tabC cds ls P vs)
  own : ∀ n, n < 16 → OwnN w B (vs n) (symsK ls P n)
  apart : ∀ n m, n < 16 → m < 16 → n ≠ m → (vs n).ownBlock = none ∨ (vs n).ownBlock ≠ (vs m).ownBlock
  low : p < B
theorem TbSt.below {w w' : World} {B p : Nat} {cds ls P : List Nat} {vs : Nat → Value} (h : TbSt w B p cds ls P vs) (hb : Below w.heap.size w w') : TbSt w' B p cds ls P vs :=
  ⟨(hb.block p h.blk.lt).trans h.blk, fun n hn => (h.own n hn).below hb, h.apart, h.low⟩
theorem tb_step {W W1 w2 : World} {B p x i : Nat} {cds ls P : List Nat} {vs : Nat → Value} {cs : Array Value} {v' : Value} (hx : x < 16) (hxi : ls.getD i 0 = x)
    (hbk : Blk W p 127 cs) (hcs : ∀ v', ((cs.setIfInBounds (16 + x) v').setIfInBounds 32 (.int .i64 (x : Nat))) = tabC cds ls (P ++ [i]) (upd vs x v'))
    (how : ∀ n, n < 16 → OwnN W B (vs n) (symsK ls P n)) (hap : ∀ n m, n < 16 → m < 16 → n ≠ m → (vs n).ownBlock = none ∨ (vs n).ownBlock ≠ (vs m).ownBlock) (hlow : p < B)
    (hW : Below W.heap.size W W1) (ho : OwnN w2 B v' (symsK ls P x ++ [i])) (hg : W1.grownBy w2 (vs x).ownBlock) (ha : v'.ownBlock = (vs x).ownBlock ∨ v'.ownBlock = some W1.heap.size) :
    TbSt ((w2.setCell ⟨p, 16 + x, none⟩ v').setCell ⟨p, 32, none⟩ (.int .i64 (x : Nat))) B p cds ls (P ++ [i]) (upd vs x v') := by
  have hbk1 : Blk W1 p 127 cs := (hW.block p hbk.lt).trans hbk
  have how1 := fun n hn => (how n hn).below hW
  have hnp : (vs x).ownBlock ≠ some p := own_ne (how1 x hx) hbk1 (by decide)
  have hbk2 : Blk w2 p 127 cs := (hg.block p hbk1.lt (Ne.symm hnp)).trans hbk1
  have hbk3 := hbk2.set_ (16 + x) v'
  have hbk4 := hbk3.set_ 32 (.int .i64 (x : Nat))
  rw [hcs v'] at hbk4
  have keep : ∀ {u : Value} {L : List Nat}, OwnN w2 B u L → OwnN ((w2.setCell ⟨p, 16 + x, none⟩ v').setCell ⟨p, 32, none⟩ (.int .i64 (x : Nat))) B u L := fun {u L} h => by
    have h1 : OwnN (w2.setCell ⟨p, 16 + x, none⟩ v') B u L := World.ownsRow.kept h (grown_setCell w2 p (16 + x) v') (.inr (own_ne h hbk2 (by decide)))
    exact World.ownsRow.kept h1 (grown_setCell _ p 32 _) (.inr (own_ne h1 hbk3 (by decide)))
  have hfresh : ∀ n, n < 16 → (vs n).ownBlock ≠ some W1.heap.size := fun n hn e => by
    have := ((how1 n hn).lt _ e).2
    omega
  refine ⟨hbk4, fun n hn => ?_, fun n m hn hm hne => ?_, hlow⟩
  · unfold upd
    by_cases e : n = x
    · subst e
      rw [if_pos rfl, symsK_snoc, if_pos hxi]
      exact keep ho
    · rw [if_neg e, symsK_snoc, if_neg (by omega), List.append_nil]
      exact keep (World.ownsRow.kept (how1 n hn) hg (hap n x hn hx e))
  · unfold upd
    by_cases e : n = x
    · subst e
      rw [if_pos rfl, if_neg (fun h => hne h.symm)]
      rcases ha with e2 | e2
      · rw [e2]; exact hap n m hn hm hne
      · rw [e2]; exact .inr (fun e3 => hfresh m hm e3.symm)
    · rw [if_neg e]
      by_cases e4 : m = x
      · subst e4
        rw [if_pos rfl]
        rcases ha with e2 | e2
        · rw [e2]; exact hap n m hn hm hne
        · rw [e2]; exact .inr (hfresh n hn)
      · rw [if_neg e4]; exact hap n m hn hm hne
theorem step_appN {w : World} {ops : Array Oper} {o : Oper} {a : Act} {K : Act → World → Prop} {Q : Exit → Act → World → Prop} {E : Prop} (s x : Operand) (base : Nat) (v : Value) (xs : List Nat) (A : Option Addr) (m c : Nat) (ys : List Nat) (hgd : o.guard = none)
    (ho : o.op = .call { callee := .builtin .append, args := #[s, x], argTypes := #[22, 22] })
    (hs : a.eval s = v) (hown : OwnN w base v xs) (hx : a.eval x = .slice A m c) (hy : m = ys.length) (hA : A = none → m = 0 ∧ c = 0) (hr : RdN w A ys) (hm : xs.length + ys.length ≤ 1000000) (hbase : base ≤ w.heap.size)
    (h : ∀ v' w', OwnN w' base v' (xs ++ ys) → Below base w w' → w.grownBy w' v.ownBlock → (v'.ownBlock = v.ownBlock ∨ v'.ownBlock = some w.heap.size) → K (a.put o.dst v') w') :
    if Region.wanted o (yielded ops a.tmps) = true then Oper.wp Try.prog o a w K Q else E := by
  have hw : Region.wanted o (yielded ops a.tmps) = true := by simp [Region.wanted, hgd]
  rw [if_pos hw]
  obtain ⟨i0, hi0, hz0, hz1, hz2⟩ := info_parts infoN
  subst hy
  refine wp_app s x _ ho base 3 i0 _ 8 Try.underlying22 hi0 hz0 hz1 hz2 rfl v xs.length (nvs xs) hs hown A ys.length c (nvs ys) hx hA hr.rd1 (nvs_len ys) (nvs_one ys) (by simp only [maxLen]; omega) (by omega) hbase fun v' w' h2 h3 h4 => h v' w' ?_ (growsBel hown hbase h3) h3 h4
  unfold OwnN
  rw [List.length_append, nvs_app]
  exact h2
theorem RdN.grown {w w' : World} {A : Option Addr} {xs : List Nat} {p : Nat} (h : RdN w A xs) (hg : w.grownBy w' (some p)) (hne : ∀ b, A = some b → b.block ≠ p) : RdN w' A xs := by
  intro hl
  obtain ⟨b, off, e, hc⟩ := h hl
  refine ⟨b, off, e, fun j hj => ?_⟩
  have h1 := hc j hj
  rw [← h1]
  exact World.cell?_of_block (hg.block b (World.block_lt_of_cell? _ _ h1) (fun e2 => hne _ e (by injection e2)))
theorem tb_grown {w3 W W1 w2 : World} {p x : Nat} {u v' : Value} {L : List Nat} (hgw : w3.grownBy W (some p)) (hW : Below W.heap.size W W1) (ho : OwnN W1 w3.heap.size u L) (hg : W1.grownBy w2 u.ownBlock) :
    w3.grownBy ((w2.setCell ⟨p, 16 + x, none⟩ v').setCell ⟨p, 32, none⟩ (.int .i64 (x : Nat))) (some p) := by
  refine (World.grownBy.trans (World.grownBy.trans (?_ : w3.grownBy w2 (some p)) (grown_setCell w2 p (16 + x) v')) (grown_setCell _ p 32 _))
  refine ⟨hg.os.trans (hW.os.trans hgw.os), hg.tape.trans (hW.tape.trans hgw.tape), hg.output.trans (hW.output.trans hgw.output), Nat.le_trans hgw.size (Nat.le_trans hW.size hg.size), fun k hk hne => ?_⟩
  have h1 : k < W.heap.size := Nat.lt_of_lt_of_le hk hgw.size
  have h2 : k < W1.heap.size := Nat.lt_of_lt_of_le h1 hW.size
  exact (hg.block k h2 (fun e => by have := (ho.lt k e.symm).1; omega)).trans ((hW.block k h1).trans (hgw.block k hk hne))
theorem tb_cells {W W1 w2 : World} {B p : Nat} {cs : Array Value} {u : Value} {L : List Nat} (hbk : Blk W p 127 cs) (hW : Below W.heap.size W W1) (ho : OwnN W1 B u L) (hg : W1.grownBy w2 u.ownBlock) (hz : cs.size = 33) (x : Nat) (hx : x < 16) :
    (∃ y, w2.cell? ⟨p, 16 + x, none⟩ = some y) ∧ w2.frozen? ⟨p, 16 + x, none⟩ = false ∧ (∃ y, w2.cell? ⟨p, 32, none⟩ = some y) ∧ w2.frozen? ⟨p, 32, none⟩ = false ∧ p < w2.heap.size := by
  have hbk1 : Blk W1 p 127 cs := (hW.block p hbk.lt).trans hbk
  have hbk2 : Blk w2 p 127 cs := (hg.block p hbk1.lt (Ne.symm (own_ne ho hbk1 (by decide)))).trans hbk1
  exact ⟨⟨cs[16 + x], by rw [hbk2.cell (16 + x)]; exact Array.getElem?_eq_getElem (by omega)⟩, hbk2.free _, ⟨cs[32], by rw [hbk2.cell 32]; exact Array.getElem?_eq_getElem (by omega)⟩, hbk2.free _, hbk2.lt⟩
def zeroT : Array Value := #[.int .u64 0, .int .u64 0, .int .u64 0, .int .u64 0, .int .u64 0, .int .u64 0, .int .u64 0, .int .u64 0, .int .u64 0, .int .u64 0, .int .u64 0, .int .u64 0, .int .u64 0, .int .u64 0, .int .u64 0, .int .u64 0,
  .slice none 0 0, .slice none 0 0, .slice none 0 0, .slice none 0 0, .slice none 0 0, .slice none 0 0, .slice none 0 0, .slice none 0 0, .slice none 0 0, .slice none 0 0, .slice none 0 0, .slice none 0 0, .slice none 0 0, .slice none 0 0, .slice none 0 0, .slice none 0 0, .int .i64 0]
theorem zero_tab (cds ls : List Nat) : zeroT = tabC cds ls [] (fun _ => .slice none 0 0) := rfl

set_option maxRecDepth 100000 in
set_option maxHeartbeats 25600000 in
theorem tableOf_any (A : Option Addr) (c : Nat) (ls : List Nat) (w : World) (hr : RdN w A ls) (hA : ∀ b, A = some b → b.block < w.heap.size) (hL : LenOk ls) :
    Calls Try.prog 54 #[.slice A ls.length c] w fun e w' => e = .returned (.pointer (some ⟨w.heap.size, 0, none⟩)) ∧ (∃ B vs, TbSt w' B w.heap.size (codesL ls) ls (ordL ls) vs) ∧ Below w.heap.size w w' := by
  have HCO := Lib.hid (codesOf_any A c ls (w.alloc (.cells zeroT 127)) (hr.below (bel9 _ _)) hL.len hL.le hL.sum)
  have HIO := Lib.hid (fun W (hW : RdN W A ls) => inOrder_any A c ls W hW hL.len (fun x h => Nat.le_trans (hL.le x h) (by decide)))
  have HA := Lib.hid hr
  have HAL := Lib.hid hA
  have HLE := Lib.hid hL
  have HMEM : Hid (∀ k, k < (ordL ls).length → (ordL ls).getD k 0 < ls.length ∧ 0 < ls.getD ((ordL ls).getD k 0) 0) := Lib.hid (fun k hk => by
    rw [← ordL_mem, List.getD_eq_getElem?_getD, List.getElem?_eq_getElem hk]; exact List.getElem_mem hk)
  have HZ : Hid (∀ cds, zeroT = tabC cds ls [] (fun _ => .slice none 0 0)) := Lib.hid (fun cds => zero_tab cds ls)
  have HB0 := Lib.hid (bel9 w (.cells zeroT 127))
  have HK0 : Hid (Blk (w.alloc (.cells zeroT 127)) w.heap.size 127 zeroT) := Lib.hid (heap_alloc_new _ _)
  have HSZ0 : Hid ((w.alloc (.cells zeroT 127)).heap.size = w.heap.size + 1) := Lib.hid (by simp)
  have hn1 := hL.len
  obtain ⟨p, hp⟩ : ∃ p, p = w.heap.size := ⟨_, rfl⟩
  obtain ⟨w0, hw0⟩ : ∃ w0, w0 = w.alloc (.cells zeroT 127) := ⟨_, rfl⟩
  rw [← hw0] at HCO HB0 HK0 HSZ0
  rw [← hp] at HK0 HSZ0 HB0 ⊢
  have HW0 : Hid (w.alloc (.cells #[.int .u64 0, .int .u64 0, .int .u64 0, .int .u64 0, .int .u64 0, .int .u64 0, .int .u64 0, .int .u64 0, .int .u64 0, .int .u64 0, .int .u64 0, .int .u64 0, .int .u64 0, .int .u64 0, .int .u64 0, .int .u64 0,
  .slice none 0 0, .slice none 0 0, .slice none 0 0, .slice none 0 0, .slice none 0 0, .slice none 0 0, .slice none 0 0, .slice none 0 0, .slice none 0 0, .slice none 0 0, .slice none 0 0, .slice none 0 0, .slice none 0 0, .slice none 0 0, .slice none 0 0, .slice none 0 0, .int .i64 0] 127) = w0) := Lib.hid hw0.symm
  have HP := Lib.hid hp
  obtain ⟨O, hO⟩ : ∃ O, O = ordL ls := ⟨_, rfl⟩
  obtain ⟨cds, hcd⟩ : ∃ cds, cds = codesL ls := ⟨_, rfl⟩
  rw [← hO] at HMEM
  rw [← hcd] at HCO
  have HOO := Lib.hid hO
  have HCD := Lib.hid hcd
  have HCN : Hid (cds.length = ls.length) := Lib.hid (by rw [hcd]; exact codesL_len ls)
  have HOL : Hid (O.length ≤ ls.length) := Lib.hid (by rw [hO]; unfold ordL; rw [srtO_len]; exact presO_len ls 0)
  obtain ⟨n, hn⟩ : ∃ n, n = ls.length := ⟨_, rfl⟩
  rw [← hn] at HCO HIO HMEM hn1 HCN HOL ⊢
  have HN := Lib.hid hn
  clear hr hA hL hn hO hcd hw0 hp
  go_enter Try.func54, Try.ntmps54
  go_wp2_with fail
  rw [HW0.out, ← HP.out]
  refine HCO.out.mono ?_
  rintro e w2 ⟨v2, rfl, ho2, hb2⟩
  have HO2 := Lib.hid ho2
  have HB2 := Lib.hid (HB0.out.trans (hb2.mono (by rw [HSZ0.out]; omega)))
  have HK2 : Hid (Blk w2 p 127 zeroT) := Lib.hid ((hb2.block p (Blk.lt HK0.out)).trans HK0.out)
  have hs2 : p + 1 ≤ w2.heap.size := by have := hb2.size; rw [HSZ0.out] at this; exact this
  have HIO2 := Lib.hid (HIO.out w2 (HA.out.below (HB2.out.mono (by rw [HP.out]; exact Nat.le_refl _))))
  clear ho2 hb2 HCO HIO HW0
  go_wp2_with fail
  refine HIO2.out.mono ?_
  rintro e w3 ⟨v3, rfl, hi3, hb3⟩
  obtain ⟨A3, c3, rfl, hrd3, hc3, hbb3⟩ := hi3
  rw [← HOO.out] at hrd3 hc3 ⊢
  have HRO := Lib.hid hrd3
  have HBB : Hid (∀ b, A3 = some b → b.block ≠ p) := Lib.hid (fun b hb e => by have := hbb3 b hb; omega)
  have HO3 := Lib.hid (HO2.out.below hb3)
  have HB3 := Lib.hid (HB2.out.trans (hb3.mono (show p ≤ w2.heap.size by omega)))
  have HK3 : Hid (Blk w3 p 127 zeroT) := Lib.hid ((hb3.block p (Blk.lt HK2.out)).trans HK2.out)
  have HRL := Lib.hid (HA.out.below (HB3.out.mono (by rw [HP.out]; exact Nat.le_refl _)))
  have hs3 : p < w3.heap.size := HK3.out.lt
  have HT3 : Hid (TbSt w3 w3.heap.size p cds ls [] (fun _ => .slice none 0 0)) := Lib.hid ⟨by rw [← HZ.out cds]; exact HK3.out, fun n hn => OwnN.nil _ _, fun n m _ _ _ => .inl rfl, hs3⟩
  have HG3 : Hid (w3.grownBy w3 (some p)) := Lib.hid ⟨rfl, rfl, rfl, Nat.le_refl _, fun _ _ _ => rfl⟩
  obtain ⟨m, hm⟩ : ∃ m, m = O.length := ⟨_, rfl⟩
  rw [← hm] at hc3 HMEM HOL ⊢
  have HM := Lib.hid hm
  have hm1 : m ≤ 1024 := Nat.le_trans HOL.out hn1
  clear hrd3 hbb3 hb3 hm HIO2 HO2 HK2 HB2 HK0 HB0
  go_wp2
  go_loopw [15] (fun s wr => ∃ (k : Nat) (vs : Nat → Value), s = .int .i64 k ∧ k ≤ m ∧ Hid (TbSt wr w3.heap.size p cds ls (O.take k) vs) ∧ Hid (w3.grownBy wr (some p))) (fun s _ => m - (intOf s).toNat)
  case atStart => exact ⟨0, _, rfl, by omega, HT3, HG3⟩
  case round =>
    clear HT3 HG3
    obtain ⟨k, vs, rfl, hkm, HT, HG⟩ := hrel
    by_cases hlt : k < m
    · have HBLK := Lib.hid HT.out.blk
      have HRO4 := Lib.hid (HRO.out.grown HG.out HBB.out)
      have HRL4 := Lib.hid (HRL.out.grown HG.out (fun b hb e => by have := HAL.out b hb; rw [e, HP.out] at this; omega))
      have HO4 : Hid (OwnU wr w0.heap.size v2 cds) := Lib.hid (World.ownsRow.kept HO3.out HG.out (.inr (own_ne HO3.out HK3.out (by decide))))
      have hme := HMEM.out k hlt
      obtain ⟨b3, o3, e3, cc3⟩ := HRO4.out (by rw [← HM.out]; omega)
      have ck := cc3 k (by rw [← HM.out]; exact hlt)
      have htk : O.take (k + 1) = O.take k ++ [O.getD k 0] := take_snoc 0 O k (by rw [← HM.out]; exact hlt)
      obtain ⟨i, hi⟩ : ∃ i, i = O.getD k 0 := ⟨_, rfl⟩
      rw [← hi] at ck hme htk
      obtain ⟨b1, o1, e1, cc1⟩ := HRL4.out (by rw [← HN.out]; omega)
      have cl := cc1 i (by rw [← HN.out]; exact hme.1)
      have hx15 := HLE.out.at_ i
      obtain ⟨x, hxx⟩ : ∃ x, x = ls.getD i 0 := ⟨_, rfl⟩
      rw [← hxx] at cl hx15 hme
      have HXI : Hid (ls.getD i 0 = x) := Lib.hid hxx.symm
      obtain ⟨hi1, hx0⟩ := hme
      obtain ⟨gc, c2, e2, hg1, hg2⟩ := ownU_form HO4.out (by rw [HCN.out]; omega)
      subst e2
      have ccd : wr.cell? ⟨gc, i, none⟩ = some (.int .u64 (cds.getD i 0 : Nat)) := ownU_cell HO4.out (by rw [HCN.out]; exact hi1)
      rw [HCN.out]
      have HOX := Lib.hid (HT.out.own x (by omega))
      have hox := HOX.out
      obtain ⟨_, Ax, cx, hvx, _, hAx, _, _⟩ := own_rd hox
      have HVX := Lib.hid hvx
      have t0 : wr.cell? ⟨p, x, none⟩ = some (.int .u64 (firstOf cds (symsK ls (O.take k) x) : Nat)) := by rw [HBLK.out.cell x, tabC_get, if_pos (by omega)]
      have t1 : wr.cell? ⟨p, 16 + x, none⟩ = some (.slice Ax (symsK ls (O.take k) x).length cx) := by rw [HBLK.out.cell (16 + x), tabC_get, if_neg (by omega), if_pos (by omega), show 16 + x - 16 = x by omega, hvx]
      have f0 : wr.frozen? ⟨p, x, none⟩ = false := HBLK.out.free x
      have f1 : wr.frozen? ⟨p, 16 + x, none⟩ = false := HBLK.out.free (16 + x)
      have hpl : p < wr.heap.size := HBLK.out.lt
      have HTK := Lib.hid htk
      have hsl := symsK_len ls (O.take k) x
      rw [List.length_take, ← HM.out] at hsl
      have hsz3 := HG.out.size
      generalize firstOf cds (symsK ls (O.take k) x) = fo at t0
      obtain ⟨cd, hcdd⟩ : ∃ cd, cd = cds.getD i 0 := ⟨_, rfl⟩
      rw [← hcdd] at ccd
      have HCDD := Lib.hid hcdd
      obtain ⟨Lx, hLx⟩ : ∃ Lx, Lx = symsK ls (O.take k) x := ⟨_, rfl⟩
      rw [← hLx] at t1 HOX hsl
      have HLX := Lib.hid hLx
      rw [hvx, ← hLx] at HOX
      have g1 : (x : Int) < 16 := by omega
      have g2 : (0 : Int) ≤ (x : Int) := by omega
      have g3 : (i : Int) < (n : Int) := by omega
      clear cc1 cc3 htk hi hxx hox hvx hcdd hLx
      subst e1
      subst e3
      have hll : Lx.length ≤ 1024 := by have := Nat.min_le_right k m; omega
      have hLEN : Hid (Lx.length + [i].length ≤ 1000000) := Lib.hid (by simp; omega)
      by_cases hL0 : Lx.length = 0
      · obtain rfl : Lx = [] := List.eq_nil_of_length_eq_zero hL0
        have hbk2 := (HBLK.out.set_ x (.int .u64 (cd : Nat)))
        have HBKW : Hid (Blk (wr.setCell ⟨p, x, none⟩ (.int .u64 (cd : Nat))).drew p 127 ((tabC cds ls (O.take k) vs).setIfInBounds x (.int .u64 (cd : Nat)))) := Lib.hid hbk2
        have HCSW : Hid (∀ v', ((((tabC cds ls (O.take k) vs).setIfInBounds x (.int .u64 (cd : Nat))).setIfInBounds (16 + x) v').setIfInBounds 32 (.int .i64 (x : Nat))) = tabC cds ls (O.take k ++ [i]) (upd vs x v')) := Lib.hid (fun v' => by rw [HCDD.out]; exact tab_first cds ls (O.take k) vs x i v' (by omega) HXI.out HLX.out.symm)
        have keep : ∀ {u : Value} {L : List Nat}, OwnN wr w3.heap.size u L → OwnN (wr.setCell ⟨p, x, none⟩ (.int .u64 (cd : Nat))).drew w3.heap.size u L := fun {u L} h => (OwnN.below (World.ownsRow.kept h (grown_setCell wr p x _) (.inr (own_ne h HBLK.out (by decide)))) (belDrew _ _))
        have HOWW : Hid (∀ n, n < 16 → OwnN (wr.setCell ⟨p, x, none⟩ (.int .u64 (cd : Nat))).drew w3.heap.size (vs n) (symsK ls (O.take k) n)) := Lib.hid (fun n hn => keep (HT.out.own n hn))
        have HGW : Hid (w3.grownBy (wr.setCell ⟨p, x, none⟩ (.int .u64 (cd : Nat))).drew (some p)) := Lib.hid (HG.out.trans ⟨rfl, rfl, rfl, by simp [World.setCell, World.drew], fun j hj hne => (grown_setCell wr p x (.int .u64 (cd : Nat))).block j hj hne⟩)
        have HOXW : Hid (OwnN (wr.setCell ⟨p, x, none⟩ (.int .u64 (cd : Nat))).drew w3.heap.size (.slice Ax (@List.length Nat []) cx) []) := Lib.hid (keep HOX.out)
        have HY1 : Hid ((wr.setCell ⟨p, x, none⟩ (.int .u64 (cd : Nat))).drew.cell? ⟨p, 16 + x, none⟩ = some (.slice Ax (@List.length Nat []) cx)) := Lib.hid (by
          have h1 : (wr.setCell ⟨p, x, none⟩ (.int .u64 (cd : Nat))).cell? ⟨p, 16 + x, none⟩ = some (.slice Ax (@List.length Nat []) cx) := by
            rw [World.cell?_setCell_other _ _ _ _ (by intro e; injection e with _ e; omega)]
            exact t1
          exact h1)
        have HSZW : Hid (((tabC cds ls (O.take k) vs).setIfInBounds x (.int .u64 (cd : Nat))).size = 33) := Lib.hid (by rw [Array.size_setIfInBounds]; exact tabC_size _ _ _ _)
        have hz : (((@List.length Nat [] : Nat) : Int) == 0) = true := rfl
        obtain ⟨W, hW⟩ : ∃ W, W = (wr.setCell ⟨p, x, none⟩ (.int .u64 (cd : Nat))).drew := ⟨_, rfl⟩
        rw [← hW] at HBKW HOWW HGW HOXW HY1
        have HWE := Lib.hid hW
        clear hbk2 keep hW
        go_wp2_with fail
        go_big_region
        rw [← HWE.out]
        have HSRC := Lib.hid (rdN_new W i 3)
        have HOA := Lib.hid ((HOXW.out.below (bel9 W (.cells #[.int .i64 i] 3))).below (belDrew _ _))
        have HBW1 : Hid (Below W.heap.size W (W.alloc (.cells #[.int .i64 i] 3)).drew) := Lib.hid ((bel9 _ _).trans (belDrew _ _))
        have HSZ1 : Hid (w3.heap.size ≤ (W.alloc (.cells #[.int .i64 i] 3)).drew.heap.size) := Lib.hid (Nat.le_trans HGW.out.size HBW1.out.size)
        have y1 : W.cell? ⟨p, 16 + x, none⟩ = some (.slice Ax (@List.nil Nat).length cx) := HY1.out
        have z1 : W.frozen? ⟨p, 16 + x, none⟩ = false := HBKW.out.free (16 + x)
        have hplW : p < W.heap.size := HBKW.out.lt
        go_wp2_with fail
        go_region_law
          (first
            | (refine step_appN (.tmp 47) (.tmp 49) w3.heap.size (.slice Ax (@List.nil Nat).length cx) (@List.nil Nat) (some ⟨W.heap.size, 0, none⟩) 1 1 [i] rfl rfl (by rfl) HOA.out (by rfl) rfl (fun h => by cases h) (HSRC.out.below (belDrew _ _)) hLEN.out (by have := HGW.out.size; simp; omega) ?_
               intro v7 w7 ho7 hb7 hg7 ha7
               obtain ⟨g7, c7, rfl, _, _⟩ := ownN_form ho7 (by simp)
               obtain ⟨l7, hl7⟩ : ∃ l7, l7 = ((@List.nil Nat) ++ [i]).length := ⟨_, rfl⟩
               rw [← hl7] at ho7 ha7 ⊢
               have HT7 := Lib.hid (tb_step (by omega) HXI.out HBKW.out HCSW.out HOWW.out HT.out.apart HT.out.low HBW1.out (by rw [← HLX.out]; exact ho7) (by rw [HVX.out, ← HLX.out]; exact hg7) (by rw [HVX.out, ← HLX.out]; exact ha7))
               have HG7 := Lib.hid (tb_grown HGW.out HBW1.out (HOA.out) hg7 (v' := .slice (some ⟨g7, 0, none⟩) l7 c7) (x := x))
               obtain ⟨⟨y7, y7'⟩, z7, ⟨q7, q7'⟩, r7, s7⟩ := tb_cells HBKW.out HBW1.out HOA.out hg7 (HSZW.out) x (by omega)
               clear ho7 hb7 hg7 ha7 hl7)
            | fail)
        all_goals
          try simp only [Act.put, List.getElem_toArray, List.getElem_cons_succ, List.getElem_cons_zero, List.setIfInBounds_toArray, List.set_cons_succ, List.set_cons_zero]
          go_wp2
          go_roundw
          case measure => simp [intOf]; omega
          case rel => exact ⟨k + 1, upd vs x (.slice (some ⟨g7, 0, none⟩) l7 c7), by go_num, by omega, Lib.hid (by rw [HTK.out]; exact HT7.out), HG7⟩
      · have HBKW := Lib.hid HBLK.out
        have HCSW : Hid (∀ v', (((tabC cds ls (O.take k) vs).setIfInBounds (16 + x) v').setIfInBounds 32 (.int .i64 (x : Nat))) = tabC cds ls (O.take k ++ [i]) (upd vs x v')) := Lib.hid (fun v' => tab_more cds ls (O.take k) vs x i v' (by omega) HXI.out (by rw [← HLX.out]; intro h; rw [h] at hL0; exact hL0 rfl))
        have HOWW := Lib.hid HT.out.own
        have HGW := Lib.hid HG.out
        have HOXW := Lib.hid HOX.out
        have HY1 := Lib.hid t1
        have HSZW : Hid ((tabC cds ls (O.take k) vs).size = 33) := Lib.hid (tabC_size _ _ _ _)
        have hz : ((Lx.length : Int) == 0) = false := by rw [beq_eq_false_iff_ne]; omega
        have HSRC := Lib.hid (rdN_new wr i 3)
        have HOA := Lib.hid ((HOXW.out.below (bel9 wr (.cells #[.int .i64 i] 3))).below (belDrew _ _))
        have HBW1 : Hid (Below wr.heap.size wr (wr.alloc (.cells #[.int .i64 i] 3)).drew) := Lib.hid ((bel9 _ _).trans (belDrew _ _))
        have HSZ1 : Hid (w3.heap.size ≤ (wr.alloc (.cells #[.int .i64 i] 3)).drew.heap.size) := Lib.hid (Nat.le_trans HGW.out.size HBW1.out.size)
        have y1 : wr.cell? ⟨p, 16 + x, none⟩ = some (.slice Ax Lx.length cx) := HY1.out
        have z1 : wr.frozen? ⟨p, 16 + x, none⟩ = false := HBKW.out.free (16 + x)
        have hplW : p < wr.heap.size := HBKW.out.lt
        go_wp2_with fail
        go_region_law
          (first
            | (refine step_appN (.tmp 47) (.tmp 49) w3.heap.size (.slice Ax Lx.length cx) Lx (some ⟨wr.heap.size, 0, none⟩) 1 1 [i] rfl rfl (by rfl) HOA.out (by rfl) rfl (fun h => by cases h) (HSRC.out.below (belDrew _ _)) hLEN.out (by have := HGW.out.size; simp; omega) ?_
               intro v7 w7 ho7 hb7 hg7 ha7
               obtain ⟨g7, c7, rfl, _, _⟩ := ownN_form ho7 (by simp)
               obtain ⟨l7, hl7⟩ : ∃ l7, l7 = (Lx ++ [i]).length := ⟨_, rfl⟩
               rw [← hl7] at ho7 ha7 ⊢
               have HT7 := Lib.hid (tb_step (by omega) HXI.out HBKW.out HCSW.out HOWW.out HT.out.apart HT.out.low HBW1.out (by rw [← HLX.out]; exact ho7) (by rw [HVX.out, ← HLX.out]; exact hg7) (by rw [HVX.out, ← HLX.out]; exact ha7))
               have HG7 := Lib.hid (tb_grown HGW.out HBW1.out (HOA.out) hg7 (v' := .slice (some ⟨g7, 0, none⟩) l7 c7) (x := x))
               obtain ⟨⟨y7, y7'⟩, z7, ⟨q7, q7'⟩, r7, s7⟩ := tb_cells HBKW.out HBW1.out HOA.out hg7 (HSZW.out) x (by omega)
               clear ho7 hb7 hg7 ha7 hl7)
            | fail)
        all_goals
          try simp only [Act.put, List.getElem_toArray, List.getElem_cons_succ, List.getElem_cons_zero, List.setIfInBounds_toArray, List.set_cons_succ, List.set_cons_zero]
          go_wp2
          go_roundw
          case measure => simp [intOf]; omega
          case rel => exact ⟨k + 1, upd vs x (.slice (some ⟨g7, 0, none⟩) l7 c7), by go_num, by omega, Lib.hid (by rw [HTK.out]; exact HT7.out), HG7⟩
    · have hk : k = m := by omega
      have hall : O.take k = ordL ls := by rw [← HOO.out]; exact List.take_of_length_le (by rw [← HM.out]; omega)
      have HF : Hid (∃ B vs, TbSt wr B p (codesL ls) ls (ordL ls) vs) := Lib.hid ⟨w3.heap.size, vs, by rw [← HCD.out, ← hall]; exact HT.out⟩
      have HBE : Hid (Below p w wr) := Lib.hid (HB3.out.grown HG.out (Nat.le_of_lt hs3) (fun k hk => by injection hk with hk; omega))
      clear hall hk
      go_wp2
      go_ret
      exact ⟨rfl, HF.out, HBE.out⟩
end Go.Proofs.Ytnldnaogbadajaa.Tb

/- huffman.begins, walked. -/
set_option linter.unusedVariables false
set_option linter.unusedSimpArgs false
namespace Go.Proofs.Ytnldnaogbadajaa.Tb
open Go.RowKit

/-- A table as it is read; its blocks are not below lo. -/
structure Tab (w : World) (lo p : Nat) (F : Nat → Nat) (S : Nat → List Nat) (LG : Nat) : Prop where
  c0 : ∀ k, k < 16 → w.cell? ⟨p, k, none⟩ = some (.int .u64 (F k : Nat))
  c1 : ∀ k, k < 16 → ∃ A c, w.cell? ⟨p, 16 + k, none⟩ = some (.slice A (S k).length c) ∧ RdN w A (S k) ∧ ∀ b, A = some b → lo ≤ b.block
  c2 : w.cell? ⟨p, 32, none⟩ = some (.int .i64 LG)
  low : lo ≤ p
theorem Tab.below {w w' : World} {lo p : Nat} {F : Nat → Nat} {S : Nat → List Nat} {LG : Nat} (h : Tab w lo p F S LG) (hb : Below w.heap.size w w') : Tab w' lo p F S LG :=
  ⟨fun k hk => cell_kept hb (h.c0 k hk), fun k hk => by
    obtain ⟨A, c, h1, h2, h3⟩ := h.c1 k hk
    exact ⟨A, c, cell_kept hb h1, h2.below hb, h3⟩, cell_kept hb h.c2, h.low⟩
theorem Tab.grown {w w' : World} {lo p r : Nat} {F : Nat → Nat} {S : Nat → List Nat} {LG : Nat} (h : Tab w lo p F S LG) (hg : w.grownBy w' (some r)) (hr : r < lo) : Tab w' lo p F S LG := by
  have tr : ∀ {a : Addr} {v : Value}, w.cell? a = some v → a.block ≠ r → w'.cell? a = some v := fun {a v} hc hne => by
    rw [← hc]
    exact World.cell?_of_block (hg.block a.block (World.block_lt_of_cell? _ _ hc) (fun e => hne (by injection e)))
  have hl := h.low
  exact ⟨fun k hk => tr (h.c0 k hk) (by simp only; omega), fun k hk => by
    obtain ⟨A, c, h1, h2, h3⟩ := h.c1 k hk
    exact ⟨A, c, tr h1 (by simp only; omega), h2.grown hg (fun b hb => by have := h3 b hb; omega), h3⟩, tr h.c2 (by simp only; omega), h.low⟩
theorem TbSt.tab {w : World} {B p : Nat} {cds ls P : List Nat} {vs : Nat → Value} (h : TbSt w B p cds ls P vs) : Tab w p p (fun k => firstOf cds (symsK ls P k)) (symsK ls P) (longK ls P) := by
  have hlow := h.low
  refine ⟨fun k hk => by rw [h.blk.cell k, tabC_get, if_pos hk], fun k hk => ?_, by rw [h.blk.cell 32, tabC_get, if_neg (by omega), if_neg (by omega), if_pos rfl], Nat.le_refl _⟩
  have ho := h.own k hk
  obtain ⟨_, A, c, e, _, _, _, _⟩ := own_rd ho
  rw [e] at ho
  refine ⟨A, c, by rw [h.blk.cell (16 + k), tabC_get, if_neg (by omega), if_pos (by omega), show 16 + k - 16 = k by omega, e], ho.rd.1, fun b hb => ?_⟩
  subst hb
  rcases ho.2 with ⟨e1, _⟩ | ⟨g, cap, cur, e1, hg, _⟩
  · injection e1 with e1; cases e1
  · injection e1 with e1
    injection e1 with e1
    subst e1
    simp only
    omega
/-- What begins asks at level k. -/
def begK (F : Nat → Nat) (M : Nat → Nat) (v n k : Nat) : Bool := decide (0 < M k) && (decide (v ≤ (F k + M k - 1) / 2 ^ (k - n)) && decide (F k / 2 ^ (k - n) ≤ v))
def begB (F : Nat → Nat) (M : Nat → Nat) (LG v n : Nat) : Bool := (List.range (LG + 1)).any fun k => decide (n ≤ k) && begK F M v n k
theorem begB_true {F M : Nat → Nat} {LG v n k : Nat} (h1 : n ≤ k) (h2 : k ≤ LG) (h : begK F M v n k = true) : begB F M LG v n = true :=
  List.any_eq_true.2 ⟨k, List.mem_range.2 (by omega), by simp [h1, h]⟩
theorem begB_false {F M : Nat → Nat} {LG v n : Nat} (h : ∀ k, n ≤ k → k ≤ LG → begK F M v n k = false) : begB F M LG v n = false := by
  unfold begB
  rw [List.any_eq_false]
  intro k hk
  have := List.mem_range.1 hk
  by_cases h1 : n ≤ k
  · simp [h1, h k h1 (by omega)]
  · simp [h1]

set_option maxRecDepth 100000 in
set_option maxHeartbeats 12800000 in
theorem begins_any (lo p : Nat) (F : Nat → Nat) (S : Nat → List Nat) (LG v n : Nat) (w : World) (hT : Tab w lo p F S LG) (hLG : LG ≤ 15) (hn : n ≤ 100) (hF : ∀ k, F k ≤ 65536) (hS : ∀ k, (S k).length ≤ 1024) (hv : v ≤ 9223372036854775807) :
    Calls Try.prog 80 #[.pointer (some ⟨p, 0, none⟩), .int .u64 v, .int .i64 n] w fun e w' => e = .returned (.bool (begB F (fun k => (S k).length) LG v n)) ∧ w' = w := by
  have HT := Lib.hid hT
  have HF := Lib.hid hF
  have HSS := Lib.hid hS
  have k2 : w.cell? ⟨p, 32, none⟩ = some (.int .i64 LG) := hT.c2
  clear hT hF hS
  go_enter Try.func80, Try.ntmps80
  go_wp2
  go_loop [7] (fun s => ∃ (k : Nat), s = .int .i64 k ∧ n ≤ k ∧ k ≤ 200 ∧ (n ≤ LG → k ≤ LG + 1) ∧ Hid (∀ j, n ≤ j → j < k → j ≤ LG → begK F (fun k => (S k).length) v n j = false)) (fun s => 300 - (intOf s).toNat)
  case atStart => exact ⟨n, rfl, by omega, by omega, fun _ => by omega, Lib.hid (fun j h1 h2 => by omega)⟩
  case round =>
    obtain ⟨k, rfl, hnk, hk2, hkL, HNO⟩ := hrel
    by_cases hlt : k ≤ LG
    · have hk16 : k < 16 := by omega
      have c0 := HT.out.c0 k hk16
      obtain ⟨Ak, ck, c1, _, _⟩ := HT.out.c1 k hk16
      have hFk := HF.out k
      have hSk := HSS.out k
      have HBK : Hid (begK F (fun k => (S k).length) v n k = (decide (0 < (S k).length) && (decide (v ≤ (F k + (S k).length - 1) / 2 ^ (k - n)) && decide (F k / 2 ^ (k - n) ≤ v)))) := Lib.hid rfl
      obtain ⟨f, hf⟩ : ∃ f, f = F k := ⟨_, rfl⟩
      obtain ⟨m, hm⟩ : ∃ m, m = (S k).length := ⟨_, rfl⟩
      obtain ⟨d, hd⟩ : ∃ d, d = k - n := ⟨_, rfl⟩
      rw [← hf] at c0 hFk HBK
      rw [← hm] at c1 hSk HBK
      rw [← hd] at HBK
      have ed : (k : Int) - (n : Int) = (d : Int) := by omega
      have g1 : (k : Int) < 16 := by omega
      have g2 : (0 : Int) ≤ (k : Int) := by omega
      have g3 : (d : Int) < 64 := by omega
      have hlt' : (k : Int) ≤ (LG : Int) := by omega
      clear hf hm hd
      by_cases hm0 : 0 < m
      · obtain ⟨a, ha⟩ : ∃ a, a = f + m - 1 := ⟨_, rfl⟩
        have e1 : IntKind.u64.wrap (m : Int) = (m : Int) := by rw [IntKind.wrap_u64]; omega
        have e2 : IntKind.u64.wrap ((f : Int) + (m : Int)) = (f : Int) + (m : Int) := by rw [IntKind.wrap_u64]; omega
        have e3 : (f : Int) + (m : Int) - 1 = (a : Int) := by omega
        obtain ⟨q1, hq1⟩ : ∃ q1, q1 = a / 2 ^ d := ⟨_, rfl⟩
        obtain ⟨q2, hq2⟩ : ∃ q2, q2 = f / 2 ^ d := ⟨_, rfl⟩
        have eq1 : (a : Int) / 2 ^ d = (q1 : Int) := by rw [hq1, Int.natCast_ediv, Int.natCast_pow]; rfl
        have eq2 : (f : Int) / 2 ^ d = (q2 : Int) := by rw [hq2, Int.natCast_ediv, Int.natCast_pow]; rfl
        rw [decide_eq_true hm0, Bool.true_and, ← ha, ← hq1, ← hq2] at HBK
        have ea : IntKind.u64.wrap (a : Int) = (a : Int) := by rw [IntKind.wrap_u64]; omega
        have t0 : (0 : Int) < (m : Int) := by omega
        clear ha hq1 hq2
        by_cases h1 : v ≤ q1
        · have t1 : (v : Int) ≤ (q1 : Int) := by omega
          by_cases h2 : q2 ≤ v
          · have t2 : (q2 : Int) ≤ (v : Int) := by omega
            have HF1 : Hid (begB F (fun k => (S k).length) LG v n = true) := Lib.hid (begB_true hnk hlt (by rw [HBK.out, decide_eq_true h1, decide_eq_true h2]; rfl))
            go_wp2
            go_ret
            rw [HF1.out]
            exact ⟨rfl, rfl⟩
          · have t2 : ¬ (q2 : Int) ≤ (v : Int) := by omega
            have HNO2 : Hid (∀ j, n ≤ j → j < k + 1 → j ≤ LG → begK F (fun k => (S k).length) v n j = false) := Lib.hid (fun j h3 h4 h5 => by
              by_cases e : j = k
              · subst e; rw [HBK.out, decide_eq_false h2, Bool.and_false]
              · exact HNO.out j h3 (by omega) h5)
            go_wp2
            go_round
            case measure => simp [intOf]; omega
            case rel => exact ⟨k + 1, by go_num, by omega, by omega, fun _ => by omega, HNO2⟩
        · have t1 : ¬ (v : Int) ≤ (q1 : Int) := by omega
          have HNO2 : Hid (∀ j, n ≤ j → j < k + 1 → j ≤ LG → begK F (fun k => (S k).length) v n j = false) := Lib.hid (fun j h3 h4 h5 => by
            by_cases e : j = k
            · subst e; rw [HBK.out, decide_eq_false h1, Bool.false_and]
            · exact HNO.out j h3 (by omega) h5)
          go_wp2
          go_round
          case measure => simp [intOf]; omega
          case rel => exact ⟨k + 1, by go_num, by omega, by omega, fun _ => by omega, HNO2⟩
      · have t0 : ¬ (0 : Int) < (m : Int) := by omega
        have HNO2 : Hid (∀ j, n ≤ j → j < k + 1 → j ≤ LG → begK F (fun k => (S k).length) v n j = false) := Lib.hid (fun j h3 h4 h5 => by
          by_cases e : j = k
          · subst e; rw [HBK.out, decide_eq_false hm0, Bool.false_and]
          · exact HNO.out j h3 (by omega) h5)
        go_wp2
        go_round
        case measure => simp [intOf]; omega
        case rel => exact ⟨k + 1, by go_num, by omega, by omega, fun _ => by omega, HNO2⟩
    · have hlt' : ¬ (k : Int) ≤ (LG : Int) := by omega
      have HF1 : Hid (begB F (fun k => (S k).length) LG v n = false) := Lib.hid (begB_false (fun j h1 h2 => HNO.out j h1 (by omega) h2))
      go_wp2
      go_ret
      rw [HF1.out]
      exact ⟨rfl, rfl⟩
end Go.Proofs.Ytnldnaogbadajaa.Tb

/- huffman.symbol, walked. -/
set_option linter.unusedVariables false
set_option linter.unusedSimpArgs false
namespace Go.Proofs.Ytnldnaogbadajaa.Tb
open Go.RowKit

/-- The symbol at a position, how many bits it has, the error. -/
def symF (F : Nat → Nat) (S : Nat → List Nat) (LG : Nat) (bs : List Nat) (N pos : Nat) : Nat → Nat → Nat × Nat × Int
  | 0, _ => (0, 0, 9)
  | f + 1, n =>
    if N < pos + n then (0, 0, 10)
    else if begB F (fun k => (S k).length) LG (takeN bs pos n) n = false then (0, 0, 9)
    else if F n ≤ takeN bs pos n ∧ takeN bs pos n - F n < (S n).length then ((S n).getD (takeN bs pos n - F n) 0, n, 0)
    else symF F S LG bs N pos f (n + 1)
theorem begB_over {F M : Nat → Nat} {LG v n : Nat} (h : LG < n) : begB F M LG v n = false := begB_false (fun k h1 h2 => by omega)
theorem bel_drewN (w : World) (q B : Nat) : Below B w (w.drewN q) := by
  induction q generalizing w with
  | zero => exact Below.refl _ _
  | succ q ih => exact (ih w).trans (belDrew _ B)
theorem grown_drewN {w W : World} {r : Nat} (h : w.grownBy W (some r)) (q : Nat) : w.grownBy (W.drewN q) (some r) := by
  have hb := bel_drewN W q W.heap.size
  exact ⟨hb.os.trans h.os, hb.tape.trans h.tape, hb.output.trans h.output, Nat.le_trans h.size hb.size, fun k hk hne => (hb.block k (Nat.lt_of_lt_of_le hk h.size)).trans (h.block k hk hne)⟩
structure TabOk (F : Nat → Nat) (S : Nat → List Nat) (LG : Nat) : Prop where
  lg : LG ≤ 15
  f : ∀ k, F k ≤ 65536
  s : ∀ k, (S k).length ≤ 1024
  v : ∀ k, ∀ x ∈ S k, x < 1024

set_option maxRecDepth 100000 in
set_option maxHeartbeats 25600000 in
theorem symbol_any (lo p r : Nat) (F : Nat → Nat) (S : Nat → List Nat) (LG : Nat) (bs : List Nat) (N pos : Nat) (w : World) (hT : Tab w lo p F S LG) (hO : TabOk F S LG) (hR : RdSt w r bs N pos) (hrl : r < lo) (hpos : pos ≤ N) (hN : N ≤ 1000000) :
    Calls Try.prog 55 #[.pointer (some ⟨p, 0, none⟩), .pointer (some ⟨r, 0, none⟩)] w fun e w' => e = .returned (.tuple #[.int .i64 (symF F S LG bs N pos 17 1).1, .int .i64 (symF F S LG bs N pos 17 1).2.2]) ∧ w.grownBy w' (some r) ∧ ((symF F S LG bs N pos 17 1).2.2 = 0 → RdSt w' r bs N (pos + (symF F S LG bs N pos 17 1).2.1) ∧ pos + (symF F S LG bs N pos 17 1).2.1 ≤ N) := by
  have HT := Lib.hid hT
  have HO := Lib.hid hO
  have HR := Lib.hid hR
  have HNX : Hid (∀ f n, symF F S LG bs N pos (f + 1) n = if N < pos + n then (0, 0, 10) else if begB F (fun k => (S k).length) LG (takeN bs pos n) n = false then (0, 0, 9) else if F n ≤ takeN bs pos n ∧ takeN bs pos n - F n < (S n).length then ((S n).getD (takeN bs pos n - F n) 0, n, 0) else symF F S LG bs N pos f (n + 1)) := Lib.hid (fun f n => rfl)
  obtain ⟨R0, hR0⟩ : ∃ R0, R0 = symF F S LG bs N pos 17 1 := ⟨_, rfl⟩
  rw [← hR0]
  have HR0 := Lib.hid hR0
  have HG0 : Hid (w.grownBy w (some r)) := Lib.hid ⟨rfl, rfl, rfl, Nat.le_refl _, fun _ _ _ => rfl⟩
  have HLG := hO.lg
  clear hT hO hR hR0
  go_enter Try.func55, Try.ntmps55
  go_wp2
  go_loopw [6, 7] (fun a s wr => ∃ (n f v : Nat), s = .int .i64 (n + 1 : Nat) ∧ a = .int .u64 v ∧ n + f = 16 ∧ n ≤ LG ∧ pos + n ≤ N ∧ Hid (v = takeN bs pos n) ∧ Hid (symF F S LG bs N pos (f + 1) (n + 1) = R0) ∧ Hid (RdSt wr r bs N (pos + n)) ∧ Hid (w.grownBy wr (some r))) (fun _ s _ => 20 - (intOf s).toNat)
  case atStart => exact ⟨0, 16, 0, rfl, rfl, rfl, by omega, by omega, Lib.hid rfl, Lib.hid HR0.out.symm, HR, HG0⟩
  case round =>
    obtain ⟨n, f, v, rfl, rfl, hnf, hnL, hpn, HV, HS, HRR, HG⟩ := hrel
    have hS := HS.out
    rw [HNX.out] at hS
    by_cases hend : N < pos + (n + 1)
    · rw [if_pos hend] at hS
      have HF1 : Hid (R0 = (0, 0, 10)) := Lib.hid hS.symm
      have HB := Lib.hid (RBits_no r bs N (pos + n) 1 wr HRR.out (by omega) hpn (by omega))
      clear hS HS
      go_wp2_with fail
      refine HB.out.mono ?_
      rintro e w1 ⟨rfl, rfl⟩
      go_wp2
      go_ret2
      rw [HF1.out]
      exact ⟨rfl, HG.out, fun h => by cases h⟩
    · rw [if_neg hend] at hS
      have hb := RBits_ok r bs N (pos + n) 1 wr HRR.out (by omega) (by omega)
      have hb1 : takeN bs (pos + n) 1 = bitN bs (pos + n) := by simp [takeN]
      rw [hb1] at hb
      have hst : takeN bs pos (n + 1) = 2 * v + bitN bs (pos + n) := by rw [takeN, ← HV.out]
      have hb2 := bitN_lt bs (pos + n)
      obtain ⟨b, hbb⟩ : ∃ b, b = bitN bs (pos + n) := ⟨_, rfl⟩
      rw [← hbb] at hb hst hb2
      have hvl : v < 2 ^ n := by rw [HV.out]; exact takeN_lt _ _ _
      have hv15 : v < 65536 := Nat.lt_of_lt_of_le hvl (Nat.le_trans (Nat.pow_le_pow_right (by omega) (show n ≤ 16 by omega)) (by decide))
      have e1 := or_bit v b (by omega) hb2
      have e2 : IntKind.u64.wrap ((v : Int) * 2) = 2 * (v : Int) := by rw [IntKind.wrap_u64]; omega
      obtain ⟨y, hy⟩ : ∃ y, y = 2 * v + b := ⟨_, rfl⟩
      rw [← hy] at hst e1
      rw [hst] at hS
      have HB := Lib.hid hb
      have HVY : Hid (y = takeN bs pos (n + 1)) := Lib.hid hst.symm
      have HRM := Lib.hid (HRR.out.move (pos + n + 1))
      obtain ⟨_, _, hrbk, _⟩ := HRR.out.it
      have HGM : Hid (w.grownBy (wr.setCell ⟨r, 2, none⟩ (.int .i64 ((pos + n + 1 : Nat) : Int))) (some r)) := Lib.hid (HG.out.trans (grown_setCell wr r 2 _))
      obtain ⟨W, hW⟩ : ∃ W, W = wr.setCell ⟨r, 2, none⟩ (.int .i64 ((pos + n + 1 : Nat) : Int)) := ⟨_, rfl⟩
      rw [← hW] at HRM HGM
      have HWE : Hid (wr.setCell ⟨r, 2, none⟩ (.int .i64 ((pos + n + 1 : Nat) : Int)) = W) := Lib.hid hW.symm
      have hTW := HT.out.grown HGM.out hrl
      have HTW := Lib.hid hTW
      have HBG := Lib.hid (begins_any lo p F S LG y (n + 1) W hTW HO.out.lg (by omega) HO.out.f HO.out.s (by omega))
      have hy17 : y < 131072 := by omega
      clear hb hb1 hbb hvl hy hW hst hTW hrbk HS
      go_wp2_with fail
      refine HB.out.mono ?_
      rintro e w1 ⟨rfl, rfl⟩
      rw [HWE.out]
      clear HB
      go_wp2_with fail
      refine HBG.out.mono ?_
      rintro e w2 ⟨rfl, rfl⟩
      clear HBG
      by_cases hbeg : begB F (fun k => (S k).length) LG y (n + 1) = false
      · rw [if_pos hbeg] at hS
        have HF1 : Hid (R0 = (0, 0, 9)) := Lib.hid hS.symm
        rw [hbeg]
        clear hS
        go_wp2
        go_ret2
        rw [HF1.out]
        exact ⟨rfl, HGM.out, fun h => by cases h⟩
      · rw [if_neg hbeg] at hS
        have hbt : begB F (fun k => (S k).length) LG y (n + 1) = true := by simpa using hbeg
        rw [hbt]
        have hn15 : n + 1 ≤ LG := by
          rcases Nat.lt_or_ge LG (n + 1) with h | h
          · exact absurd (begB_over h) hbeg
          · exact h
        obtain ⟨f', rfl⟩ : ∃ f', f = f' + 1 := ⟨f - 1, by omega⟩
        obtain ⟨m, hm⟩ : ∃ m, m = n + 1 := ⟨_, rfl⟩
        rw [← hm] at hS hn15 HVY
        have em : (n : Int) + 1 = (m : Int) := by omega
        have hm16 : m < 16 := by omega
        have c0 := HTW.out.c0 m hm16
        obtain ⟨Am, cm, c1, hrd, _⟩ := HTW.out.c1 m hm16
        have hFm := HO.out.f m
        have hSm := HO.out.s m
        obtain ⟨fm, hfm⟩ : ∃ fm, fm = F m := ⟨_, rfl⟩
        obtain ⟨lm, hlm⟩ : ∃ lm, lm = (S m).length := ⟨_, rfl⟩
        rw [← hfm] at c0 hS hFm
        rw [← hlm] at c1 hS hSm
        have g1 : (m : Int) < 16 := by omega
        have g2 : (0 : Int) ≤ (m : Int) := by omega
        have el : IntKind.u64.wrap (lm : Int) = (lm : Int) := by rw [IntKind.wrap_u64]; omega
        have HLM := Lib.hid hlm
        have HRD := Lib.hid hrd
        have HPM : Hid (pos + n + 1 = pos + m) := Lib.hid (by omega)
        have HMN := Lib.hid hm
        rw [em]
        clear hbeg hbt hfm hlm hrd em hm
        by_cases h1 : fm ≤ y
        · obtain ⟨d, hd⟩ : ∃ d, d = y - fm := ⟨_, rfl⟩
          have ed : (y : Int) - (fm : Int) = (d : Int) := by omega
          have edw : IntKind.u64.wrap ((y : Int) - (fm : Int)) = (d : Int) := by rw [IntKind.wrap_u64]; omega
          rw [← hd] at hS
          have t1 : (fm : Int) ≤ (y : Int) := by omega
          by_cases h2 : d < lm
          · rw [if_pos ⟨h1, h2⟩] at hS
            have t2 : (d : Int) < (lm : Int) := by omega
            have HF1 : Hid (R0 = ((S m).getD d 0, m, 0)) := Lib.hid hS.symm
            obtain ⟨b5, o5, e5, cc⟩ := HRD.out (by rw [← HLM.out]; omega)
            have ck := cc d (by rw [← HLM.out]; exact h2)
            obtain ⟨x, hx⟩ : ∃ x, x = (S m).getD d 0 := ⟨_, rfl⟩
            rw [← hx] at ck HF1
            clear hS hd cc hx
            subst e5
            go_wp2_with fail
            go_quiet (fail)
            go_wp2_with fail
            go_quiet (fail)
            go_wp2
            go_ret2
            rw [HF1.out]
            refine ⟨rfl, grown_drewN (grown_drewN HGM.out _) _, fun _ => ⟨?_, ?_⟩⟩
            · show RdSt _ r bs N (pos + m)
              rw [← HPM.out]
              exact (HRM.out.below (bel_drewN _ _ _)).below (bel_drewN _ _ _)
            · show pos + m ≤ N
              have := HPM.out
              omega
          · rw [if_neg (fun h => h2 h.2)] at hS
            have t2 : ¬ (d : Int) < (lm : Int) := by omega
            have HSX : Hid (symF F S LG bs N pos (f' + 1) (m + 1) = R0) := Lib.hid hS
            clear hS hd
            go_wp2_with fail
            go_quiet (fail)
            go_wp2
            go_roundw
            case measure => have := HMN.out; simp [intOf]; omega
            case rel => have hmn := HMN.out; exact ⟨m, f', y, by go_num, rfl, by omega, hn15, by omega, HVY, HSX, Lib.hid (by rw [← HPM.out]; exact HRM.out.below (bel_drewN _ _ _)), Lib.hid (grown_drewN HGM.out _)⟩
        · rw [if_neg (fun h => h1 h.1)] at hS
          have t1 : ¬ (fm : Int) ≤ (y : Int) := by omega
          have HSX : Hid (symF F S LG bs N pos (f' + 1) (m + 1) = R0) := Lib.hid hS
          clear hS
          go_wp2_with fail
          go_quiet (fail)
          go_wp2
          go_roundw
          case measure => have := HMN.out; simp [intOf]; omega
          case rel => have hmn := HMN.out; exact ⟨m, f', y, by go_num, rfl, by omega, hn15, by omega, HVY, HSX, Lib.hid (by rw [← HPM.out]; exact HRM.out.below (bel_drewN _ _ _)), Lib.hid (grown_drewN HGM.out _)⟩
end Go.Proofs.Ytnldnaogbadajaa.Tb
