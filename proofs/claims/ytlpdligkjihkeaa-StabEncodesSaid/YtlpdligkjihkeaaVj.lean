/- Numbers of variable length are written, walked. -/
import Derived.Test.YtlpdligkjihkeaaVh
import Derived.Test.YtlpdligkjihkeaaVi
import Derived.Laws.MakeOwn
set_option linter.unusedVariables false
set_option linter.unusedSimpArgs false
namespace Go.Proofs.Ytlpdligkjihkeaa.Tb
open Go.RowKit

def zer (k : Nat) : List Value := List.replicate k (Value.int .u8 0)
theorem make_B (n c : Nat) (hnc : n ≤ c) (hc : c ≤ 5000000000) (W : World) : (Instr.makeSlice 41 (.int .i64 (n : Int)) (.int .i64 (c : Int))).run Try.prog W = .ok (.slice (some ⟨W.heap.size, 0, none⟩) n c) (W.alloc (.cells (zer c).toArray 5)) := by
  obtain ⟨i0, hi0, hz0, hz1, hz2⟩ := info_parts infoB
  have hr := run_make (P := Try.prog) W 41 5 i0 _ Try.underlying41 hi0 hz0 .i64 .i64 n c (by omega) (by omega) (by rw [hz2]; omega) (by omega)
  have e : madeCells (Value.int .u8 0).cells c = (zer c).toArray := by
    apply Array.ext_getElem?
    intro i
    by_cases hi : i < c
    · simp [madeCells, zer, hi, Value.cells, Nat.mod_one]
    · rw [Array.getElem?_eq_none (by simp [madeCells]; omega), Array.getElem?_eq_none (by simp [zer]; omega)]
  rw [hr, hz1, Int.toNat_natCast, Int.toNat_natCast, Nat.mul_one, e]
theorem or128 (x : Nat) (h : x < 256) : x ||| 128 = x % 128 + 128 := by
  have := (by decide +kernel : ∀ y : Fin 256, (y.val ||| 128) = y.val % 128 + 128) ⟨x, h⟩
  exact this
theorem u8_or128 (u : Nat) : bits BinOp.or IntKind.u8 ((u : Int) % 256) 128 = ((u % 128 + 128 : Nat) : Int) := by
  have := u8_or_nat (u % 256) 128 (by omega) (by omega)
  rw [or128 _ (by omega), show u % 256 % 128 = u % 128 by omega] at this
  rw [← this]
  rfl
theorem rd_one (W : World) (t : TypeId) (y : Nat) : RdB (W.alloc (.cells #[.int .u8 (y : Int)] t)) (some ⟨W.heap.size, 0, none⟩) [y] := rd_blk (t := t) (heap_alloc_new W _)
theorem ownB_splice {w : World} {g n k : Nat} {xs : List Nat} (hn : xs.length = n) (hk : n + k ≤ maxLen) (h : w.heap[g]? = some (.cells (splice (zer (n + k)) 0 (bv xs)).toArray 5 (0, 0))) {base : Nat} (hb : base ≤ g) : OwnB w base (.slice (some ⟨g, 0, none⟩) n (n + k)) xs := by
  unfold OwnB
  rw [hn]
  have hl : (bv xs).length = n := by rw [bv_len, hn]
  refine ⟨by omega, .inr ⟨g, n + k, _, rfl, hb, h, by omega, hk, ?_, ?_⟩⟩
  · simp [splice, zer, hl]
  · simp only [splice, List.take_zero, List.nil_append, Nat.zero_add, Nat.mul_one]
    show List.take n (bv xs ++ _) = bv xs
    rw [← hl, List.take_left]

set_option maxRecDepth 100000 in
set_option maxHeartbeats 3200000 in
theorem PutUvarint_any (A : Option Addr) (c : Nat) (xs : List Nat) (v : Nat) (w : World) (ha : RdB w A xs) (hm : xs.length ≤ 1000000000) (hv : v < 18446744073709551616) :
    Calls Try.prog 36 #[.slice A xs.length c, .int .u64 v] w fun e w' => ∃ v', e = .returned v' ∧ OwnB w' w.heap.size v' (xs ++ uv v) ∧ Below w.heap.size w w' := by
  have HU := Lib.hid (uv_len10 hv)
  have HA := Lib.hid ha
  obtain ⟨n, hn⟩ : ∃ n, n = xs.length := ⟨_, rfl⟩
  rw [← hn] at hm ⊢
  have HN := Lib.hid hn
  have hmk : ∀ W : World, (Instr.makeSlice 41 (.int .i64 (n : Int)) (.int .i64 ((n : Int) + 10))).run Try.prog W = .ok (.slice (some ⟨W.heap.size, 0, none⟩) n (n + 10)) (W.alloc (.cells (zer (n + 10)).toArray 5)) := fun W => make_B n (n + 10) (by omega) (by omega) W
  have hpos : 0 < (bv xs).length → (some (⟨w.heap.size, 0, none⟩ : Addr)) = some ⟨w.heap.size, 0, none⟩ ∧ ∃ ad, A = some ad ∧ ∀ j u, (bv xs)[j]? = some u → (w.alloc (.cells (zer (n + 10)).toArray 5)).cell? (ad.add j) = some u := fun h => by
    have hr := (ha.below (bb_alloc (Below.refl w.heap.size w) (.cells (zer (n + 10)).toArray 5)))
    obtain ⟨b, o, rfl, _⟩ := hr (by rw [bv_len] at h; exact h)
    exact ⟨rfl, _, rfl, rd_src hr⟩
  have HPOS := Lib.hid hpos
  have HL : Hid ((bv xs).length = n) := Lib.hid (by rw [bv_len, hn])
  clear ha hn hv hpos
  go_enter Try.func36, Try.ntmps36
  go_wp2_with (with_reducible refine wpList_copy_splice rfl (.tmp 12) (.tmp 13) _ _ rfl 5 Try.underlying41 (by kernel_rfl) (some ⟨w.heap.size, 0, none⟩) A n (n + 10) n c rfl rfl w.heap.size 0 (zer (n + 10)) 5 (heap_alloc_new w _) (bv xs) (by rw [HL.out]; exact (Nat.min_self n).symm) HPOS.out (by rw [HL.out]; simp [zer]) (bv_one xs) w.heap.size w (bb_alloc (Below.refl _ _) _) (Nat.le_refl _) ?_; intro w1 hh hb1; have HB1 := Lib.hid hb1; clear hb1)
  have HO : Hid (OwnB w1 w.heap.size (.slice (some ⟨w.heap.size, 0, none⟩) n (n + 10)) xs) := Lib.hid (ownB_splice HN.out.symm (by simp only [maxLen]; omega) hh (Nat.le_refl _))
  clear hh HPOS hmk
  go_loopw [1, 5] (fun u s wr => ∃ (x : Nat) (pre : List Nat), u = .int .u64 x ∧ Hid (pre ++ uv x = uv v) ∧ Hid (OwnB wr w.heap.size s (xs ++ pre)) ∧ Hid (Below w.heap.size w wr)) (fun u _ _ => (intOf u).toNat)
  case atStart => exact ⟨v, [], rfl, Lib.hid rfl, by rw [List.append_nil]; exact HO, HB1⟩
  case round =>
    obtain ⟨x, pre, rfl, HP, HOW, HB⟩ := hrel
    have hpl : n + (pre.length + (uv x).length) ≤ n + 10 := by have := congrArg List.length HP.out; rw [List.length_append] at this; have := HU.out; omega
    have hup := uv_pos x
    have hsz := HB.out.size
    have HXL : Hid ((xs ++ pre).length = n + pre.length) := Lib.hid (by rw [List.length_append, HN.out])
    by_cases hlt : x < 128
    · have HUX := Lib.hid (uv_lo hlt)
      go_wp2_with (at_builtin; refine wpList_appB (.tmp 25) (.tmp 28) w.heap.size _ (xs ++ pre) (some ⟨wr.heap.size, 0, none⟩) 1 [x] rfl rfl (by rfl) (HOW.out.below (bb_alloc (Below.refl _ _) _)) (by rfl) (fun h => by cases h) (rd_one wr _ x) (by rw [HXL.out]; simp; omega) (by simp; omega) ?_; intro v2 w3 hown hb2 _ _; have HO2 := Lib.hid hown; have HB2 := Lib.hid hb2; clear hown hb2)
      go_ret
      exact ⟨v2, rfl, by rw [← HP.out, HUX.out, ← List.append_assoc]; exact HO2.out, (bb_alloc HB.out _ hsz).trans HB2.out⟩
    · have HUX := Lib.hid (uv_hi hlt)
      obtain ⟨y, hy⟩ : ∃ y, y = x % 128 + 128 := ⟨_, rfl⟩
      have e128 : bits BinOp.or IntKind.u8 ((x : Int) % 256) 128 = (y : Int) := by rw [hy]; exact u8_or128 x
      have hge : (128 : Int) ≤ (x : Int) := by omega
      rw [← hy] at HUX
      have HY := Lib.hid hy
      clear hy
      go_wp2_with (at_builtin; refine wpList_appB (.tmp 17) (.tmp 21) w.heap.size _ (xs ++ pre) (some ⟨wr.heap.size, 0, none⟩) 1 [y] rfl rfl (by rfl) (HOW.out.below (bb_alloc (Below.refl _ _) _)) (by rfl) (fun h => by cases h) (rd_one wr _ y) (by rw [HXL.out]; simp; omega) (by simp; omega) ?_; intro v2 w3 hown hb2 _ _; have HO2 := Lib.hid hown; have HB2 := Lib.hid hb2; clear hown hb2)
      go_roundw
      case measure => simp [intOf]; omega
      case rel => exact ⟨x / 128, pre ++ [y], by go_num, Lib.hid (by rw [← HP.out, HUX.out, List.append_assoc]; rfl), Lib.hid (by rw [← List.append_assoc]; exact HO2.out), Lib.hid ((bb_alloc HB.out _ hsz).trans HB2.out)⟩

set_option maxRecDepth 100000 in
set_option maxHeartbeats 3200000 in
theorem RUvarint_any (v : Nat) (w : World) (hv : v < 18446744073709551616) :
    Calls Try.prog 41 #[.int .u64 v] w fun e w' => ∃ v', e = .returned v' ∧ OwnB w' w.heap.size v' (uv v) ∧ Below w.heap.size w w' := by
  have HU := Lib.hid (uv_len10 hv)
  have hv' : v ≤ 18446744073709551615 := by omega
  clear hv
  go_enter Try.func41, Try.ntmps41
  go_wp2
  go_loopw [0, 3] (fun u s wr => ∃ (x : Nat) (pre : List Nat), u = .int .u64 x ∧ x ≤ v ∧ Hid (pre ++ uv x = uv v) ∧ Hid (OwnB wr w.heap.size s pre) ∧ Hid (Below w.heap.size w wr)) (fun u _ _ => (intOf u).toNat)
  case atStart => exact ⟨v, [], rfl, Nat.le_refl _, Lib.hid rfl, Lib.hid (OwnB.nil _ _), Lib.hid (Below.refl _ _)⟩
  case round =>
    obtain ⟨x, pre, rfl, hxv, HP, HOW, HB⟩ := hrel
    have hpl : pre.length + (uv x).length ≤ 10 := by have := congrArg List.length HP.out; rw [List.length_append] at this; have := HU.out; omega
    have hup := uv_pos x
    have hsz := HB.out.size
    by_cases hlt : x < 128
    · have HUX := Lib.hid (uv_lo hlt)
      go_wp2_with (at_builtin; refine wpList_appB (.tmp 15) (.tmp 18) w.heap.size _ pre (some ⟨wr.heap.size, 0, none⟩) 1 [x] rfl rfl (by rfl) (HOW.out.below (bb_alloc (Below.refl _ _) _)) (by rfl) (fun h => by cases h) (rd_one wr _ x) (by simp; omega) (by simp; omega) ?_; intro v2 w3 hown hb2 _ _; have HO2 := Lib.hid hown; have HB2 := Lib.hid hb2; clear hown hb2)
      go_ret
      exact ⟨v2, rfl, by rw [← HP.out, HUX.out]; exact HO2.out, (bb_alloc HB.out _ hsz).trans HB2.out⟩
    · have HUX := Lib.hid (uv_hi hlt)
      obtain ⟨y, hy⟩ : ∃ y, y = x % 128 + 128 := ⟨_, rfl⟩
      have e128 : (x : Int) % 128 + 128 = (y : Int) := by omega
      have hge : (128 : Int) ≤ (x : Int) := by omega
      rw [← hy] at HUX
      have HY := Lib.hid hy
      clear hy
      go_wp2_with (at_builtin; refine wpList_appB (.tmp 6) (.tmp 11) w.heap.size _ pre (some ⟨wr.heap.size, 0, none⟩) 1 [y] rfl rfl (by rfl) (HOW.out.below (bb_alloc (Below.refl _ _) _)) (by rfl) (fun h => by cases h) (rd_one wr _ y) (by simp; omega) (by simp; omega) ?_; intro v2 w3 hown hb2 _ _; have HO2 := Lib.hid hown; have HB2 := Lib.hid hb2; clear hown hb2)
      go_roundw
      case measure => simp [intOf]; omega
      case rel => exact ⟨x / 128, pre ++ [y], by go_num, by omega, Lib.hid (by rw [← HP.out, HUX.out, List.append_assoc]; rfl), Lib.hid HO2.out, Lib.hid ((bb_alloc HB.out _ hsz).trans HB2.out)⟩
end Go.Proofs.Ytlpdligkjihkeaa.Tb
