/- Walks and plain laws: bits and blocks. -/
import Derived.Test.YtnldnaogbadajaaM1
import Derived.StillTailTactics
import Derived.Deep.AppendLies
import Derived.Shelf.Strconv.Itoa0
import Derived.Test.YtnldnaogbadajaaProg
import Derived.Deep.RegionHeld3
import Derived.Lib.BitFns
import Derived.Deep.QuietTactic
import Derived.BigQuiet
import Derived.WalkSmall

/- Plain: bits, and bits as bytes. -/
namespace Go.Proofs.Ytnldnaogbadajaa.Tb

/-- The byte number j of a list of bits, the first bit the greatest. -/
def bitV (l : List Bool) (i w : Nat) : Nat := if l.getD i false then w else 0
def byteAt (l : List Bool) (j : Nat) : Nat := bitV l (8 * j) 128 + bitV l (8 * j + 1) 64 + bitV l (8 * j + 2) 32 + bitV l (8 * j + 3) 16 + bitV l (8 * j + 4) 8 + bitV l (8 * j + 5) 4 + bitV l (8 * j + 6) 2 + bitV l (8 * j + 7) 1
def pk (l : List Bool) : List Nat := (List.range ((l.length + 7) / 8)).map (byteAt l)
theorem pk_len (l : List Bool) : (pk l).length = (l.length + 7) / 8 := by simp [pk]
theorem bitV_le (l : List Bool) (i w : Nat) : bitV l i w ≤ w := by unfold bitV; split <;> omega
theorem byteAt_lt (l : List Bool) (j : Nat) : byteAt l j < 256 := by
  have h := fun i w => bitV_le l i w
  have := h (8 * j) 128; have := h (8 * j + 1) 64; have := h (8 * j + 2) 32; have := h (8 * j + 3) 16
  have := h (8 * j + 4) 8; have := h (8 * j + 5) 4; have := h (8 * j + 6) 2; have := h (8 * j + 7) 1
  unfold byteAt
  omega
theorem pk_byt (l : List Bool) : ∀ x ∈ pk l, x < 256 := by
  intro x hx
  simp only [pk, List.mem_map] at hx
  obtain ⟨j, _, rfl⟩ := hx
  exact byteAt_lt l j
theorem pk_get (l : List Bool) (j : Nat) (h : j < (l.length + 7) / 8) : (pk l).getD j 0 = byteAt l j := by
  rw [List.getD_eq_getElem?_getD]
  simp [pk, h]
theorem bitV_snoc_lt (l : List Bool) (b : Bool) (i w : Nat) (h : i < l.length) : bitV (l ++ [b]) i w = bitV l i w := by
  unfold bitV
  rw [List.getD_eq_getElem?_getD, List.getD_eq_getElem?_getD, List.getElem?_append_left h]
theorem bitV_snoc_eq (l : List Bool) (b : Bool) (i w : Nat) (h : i = l.length) : bitV (l ++ [b]) i w = if b then w else 0 := by
  subst h
  unfold bitV
  rw [List.getD_eq_getElem?_getD, List.getElem?_append_right (Nat.le_refl _), Nat.sub_self]
  rfl
theorem bitV_gt (l : List Bool) (i w : Nat) (h : l.length ≤ i) : bitV l i w = 0 := by
  unfold bitV
  rw [List.getD_eq_getElem?_getD, List.getElem?_eq_none h]
  rfl
theorem bitV_snoc_f (l : List Bool) (i w : Nat) : bitV (l ++ [false]) i w = bitV l i w := by
  rcases Nat.lt_trichotomy i l.length with h | h | h
  · exact bitV_snoc_lt l false i w h
  · rw [bitV_snoc_eq l false i w h, bitV_gt l i w (by omega)]; rfl
  · rw [bitV_gt _ _ _ (by simp; omega), bitV_gt _ _ _ (by omega)]
theorem byteAt_f (l : List Bool) (j : Nat) : byteAt (l ++ [false]) j = byteAt l j := by
  unfold byteAt
  simp only [bitV_snoc_f]
theorem byteAt_gt (l : List Bool) (j : Nat) (h : l.length ≤ 8 * j) : byteAt l j = 0 := by
  unfold byteAt
  rw [bitV_gt _ _ _ (by omega), bitV_gt _ _ _ (by omega), bitV_gt _ _ _ (by omega), bitV_gt _ _ _ (by omega), bitV_gt _ _ _ (by omega), bitV_gt _ _ _ (by omega), bitV_gt _ _ _ (by omega), bitV_gt _ _ _ (by omega)]
/-- A bit 0 more: a byte 0 more, or none. -/
theorem pk_f0 (l : List Bool) (h : l.length % 8 = 0) : pk (l ++ [false]) = pk l ++ [0] := by
  unfold pk
  rw [show ((l ++ [false]).length + 7) / 8 = (l.length + 7) / 8 + 1 by simp; omega, List.range_succ, List.map_append]
  congr 1
  · exact List.map_congr_left fun j _ => byteAt_f l j
  · simp only [List.map_cons, List.map_nil]
    rw [byteAt_f, byteAt_gt l _ (by omega)]
theorem pk_f1 (l : List Bool) (h : ¬ l.length % 8 = 0) : pk (l ++ [false]) = pk l := by
  unfold pk
  rw [show ((l ++ [false]).length + 7) / 8 = (l.length + 7) / 8 by simp; omega]
  exact List.map_congr_left fun j _ => byteAt_f l j
theorem or_pow (x k : Nat) (h : x % 2 ^ (k + 1) = 0) : x ||| 2 ^ k = x + 2 ^ k := by
  have h1 := Nat.two_pow_add_eq_or_of_lt (i := k + 1) (b := 2 ^ k) (Nat.pow_lt_pow_right (by omega) (by omega)) (x / 2 ^ (k + 1))
  have h2 : 2 ^ (k + 1) * (x / 2 ^ (k + 1)) = x := by
    have := Nat.div_add_mod x (2 ^ (k + 1))
    omega
  rw [h2] at h1
  exact h1.symm
theorem bitV_snoc_t (l : List Bool) (i w : Nat) : bitV (l ++ [true]) i w = bitV l i w + if i = l.length then w else 0 := by
  rcases Nat.lt_trichotomy i l.length with h | h | h
  · rw [bitV_snoc_lt l true i w h, if_neg (by omega)]; rfl
  · rw [bitV_snoc_eq l true i w h, bitV_gt l i w (by omega), if_pos h]; simp
  · rw [bitV_gt _ _ _ (by simp; omega), bitV_gt _ _ _ (by omega), if_neg (by omega)]
theorem byteAt_t (l : List Bool) (j : Nat) : byteAt (l ++ [true]) j = byteAt l j + if j = l.length / 8 then 2 ^ (7 - l.length % 8) else 0 := by
  unfold byteAt
  simp only [bitV_snoc_t]
  generalize bitV l (8 * j) 128 = x0
  generalize bitV l (8 * j + 1) 64 = x1
  generalize bitV l (8 * j + 2) 32 = x2
  generalize bitV l (8 * j + 3) 16 = x3
  generalize bitV l (8 * j + 4) 8 = x4
  generalize bitV l (8 * j + 5) 4 = x5
  generalize bitV l (8 * j + 6) 2 = x6
  generalize bitV l (8 * j + 7) 1 = x7
  obtain ⟨n, hn⟩ : ∃ n, n = l.length := ⟨_, rfl⟩
  rw [← hn]
  clear hn l
  by_cases hj : j = n / 8
  · rw [if_pos hj]
    obtain ⟨r, hr, rfl⟩ : ∃ r, r < 8 ∧ n = 8 * j + r := ⟨n % 8, by omega, by omega⟩
    rw [show (8 * j + r) % 8 = r by omega]
    clear hj
    rcases (show r = 0 ∨ r = 1 ∨ r = 2 ∨ r = 3 ∨ r = 4 ∨ r = 5 ∨ r = 6 ∨ r = 7 by omega) with rfl | rfl | rfl | rfl | rfl | rfl | rfl | rfl
    all_goals
      simp
      try omega
  · rw [if_neg hj, if_neg (by omega), if_neg (by omega), if_neg (by omega), if_neg (by omega), if_neg (by omega), if_neg (by omega), if_neg (by omega), if_neg (by omega)]
    omega
/-- The byte of the next bit has no bits behind it. -/
theorem byteAt_mod (l : List Bool) : byteAt l (l.length / 8) % 2 ^ (7 - l.length % 8 + 1) = 0 := by
  have hr : l.length % 8 < 8 := Nat.mod_lt _ (by omega)
  obtain ⟨r, hr2⟩ : ∃ r, r = l.length % 8 := ⟨_, rfl⟩
  have g := fun k (h : r ≤ k) w => bitV_gt l (8 * (l.length / 8) + k) w (by omega)
  have cs : ∀ i w, bitV l i w = 0 ∨ bitV l i w = w := fun i w => by unfold bitV; split <;> simp
  rw [← hr2] at hr ⊢
  unfold byteAt
  have c0 := cs (8 * (l.length / 8)) 128
  have c1 := cs (8 * (l.length / 8) + 1) 64
  have c2 := cs (8 * (l.length / 8) + 2) 32
  have c3 := cs (8 * (l.length / 8) + 3) 16
  have c4 := cs (8 * (l.length / 8) + 4) 8
  have c5 := cs (8 * (l.length / 8) + 5) 4
  have c6 := cs (8 * (l.length / 8) + 6) 2
  have g0 : r ≤ 0 → bitV l (8 * (l.length / 8)) 128 = 0 := fun h => by have := g 0 h 128; simpa using this
  have g1 := fun h => g 1 h 64
  have g2 := fun h => g 2 h 32
  have g3 := fun h => g 3 h 16
  have g4 := fun h => g 4 h 8
  have g5 := fun h => g 5 h 4
  have g6 := fun h => g 6 h 2
  have g7 := g 7 (by omega) 1
  rcases (show r = 0 ∨ r = 1 ∨ r = 2 ∨ r = 3 ∨ r = 4 ∨ r = 5 ∨ r = 6 ∨ r = 7 by omega) with rfl | rfl | rfl | rfl | rfl | rfl | rfl | rfl
  all_goals
    simp only [Nat.sub_zero, Nat.reduceSub, Nat.reduceAdd, Nat.reducePow, Nat.reduceLeDiff, Nat.le_refl, forall_const, Nat.zero_le] at *
    omega
/-- A bit 1 more. -/
theorem pk_t (l : List Bool) : pk (l ++ [true]) = (pk (l ++ [false])).set (l.length / 8) ((pk (l ++ [false])).getD (l.length / 8) 0 ||| 2 ^ (7 - l.length % 8)) := by
  have hlen : ∀ b : Bool, ((l ++ [b]).length + 7) / 8 = l.length / 8 + 1 := fun b => by simp; omega
  rw [pk_get _ _ (by rw [hlen]; omega), byteAt_f, or_pow _ _ (byteAt_mod l)]
  apply List.ext_getElem?
  intro j
  by_cases hj : j < l.length / 8 + 1
  · rw [List.getElem?_set]
    simp only [pk, hlen, List.length_map, List.length_range, List.getElem?_map, List.getElem?_range hj, Option.map_some]
    by_cases e : l.length / 8 = j
    · rw [if_pos e, if_pos (by omega), byteAt_t, if_pos e.symm, e]
    · rw [if_neg e, byteAt_t, if_neg (Ne.symm e), byteAt_f]; rfl
  · rw [List.getElem?_eq_none (by rw [pk_len, hlen]; omega), List.getElem?_eq_none (by rw [List.length_set, pk_len, hlen]; omega)]
def lowB (v n : Nat) : List Bool := (List.range n).map fun t => v.testBit (n - 1 - t)
theorem lowB_len (v n : Nat) : (lowB v n).length = n := by simp [lowB]
theorem lowB_get (v n t : Nat) (h : t < n) : (lowB v n).getD t false = v.testBit (n - 1 - t) := by
  rw [List.getD_eq_getElem?_getD]
  simp [lowB, h]
end Go.Proofs.Ytnldnaogbadajaa.Tb

/- The bit writer, walked. -/
set_option linter.unusedVariables false
set_option linter.unusedSimpArgs false
namespace Go.Proofs.Ytnldnaogbadajaa.Tb
open Go.RowKit

theorem bel9 (w : World) (o : Obj) : Below w.heap.size w (w.alloc o) := (Below.refl _ _).alloc (Nat.le_refl _) o
structure WrSt (w : World) (B p : Nat) (v : Value) (l : List Bool) : Prop where
  blk : Blk w p 136 #[v, .int .i64 l.length]
  own : OwnB w B v (pk l)
  low : B ≤ p
/-- Nothing has turned but the block p and the row v. -/
structure Fr (w w' : World) (p : Nat) (v v' : Value) : Prop where
  os : w'.os = w.os
  tape : w'.tape = w.tape
  output : w'.output = w.output
  size : w.heap.size ≤ w'.heap.size
  block : ∀ k, k < w.heap.size → k ≠ p → v.ownBlock ≠ some k → w'.heap[k]? = w.heap[k]?
  own : v'.ownBlock = v.ownBlock ∨ ∀ k, v'.ownBlock = some k → w.heap.size ≤ k
theorem Fr.refl (w : World) (p : Nat) (v : Value) : Fr w w p v v := ⟨rfl, rfl, rfl, Nat.le_refl _, fun _ _ _ _ => rfl, .inl rfl⟩
theorem Fr.trans {w w1 w2 : World} {p : Nat} {v v1 v2 : Value} (h : Fr w w1 p v v1) (k : Fr w1 w2 p v1 v2) : Fr w w2 p v v2 :=
  ⟨k.os.trans h.os, k.tape.trans h.tape, k.output.trans h.output, Nat.le_trans h.size k.size, fun j hj h1 h2 => (k.block j (Nat.lt_of_lt_of_le hj h.size) h1 (by
    rcases h.own with e | e
    · rw [e]; exact h2
    · intro e2; have := e j e2; omega)).trans (h.block j hj h1 h2), by
    rcases k.own with e | e
    · rcases h.own with e1 | e1
      · exact .inl (e.trans e1)
      · exact .inr fun j hj => e1 j (by rw [← e]; exact hj)
    · exact .inr fun j hj => Nat.le_trans h.size (e j hj)⟩
theorem Fr.drew {w w1 : World} {p : Nat} {v v1 : Value} (h : Fr w w1 p v v1) : Fr w w1.drew p v v1 := ⟨h.os, h.tape, h.output, h.size, h.block, h.own⟩
theorem Fr.bel {w w1 : World} {B p : Nat} {v v1 : Value} {l : List Bool} (h : Fr w w1 p v v1) (hS : WrSt w B p v l) : Below B w w1 :=
  ⟨h.os, h.tape, h.output, h.size, fun k hk => h.block k (by have := hS.blk.lt; have := hS.low; omega) (by have := hS.low; omega) fun e => by have := (hS.own.lt k e).1; omega⟩
theorem WrSt.ne {w : World} {B p : Nat} {v : Value} {l : List Bool} (h : WrSt w B p v l) : v.ownBlock ≠ some p := fun e => by
  rcases h.own.2 with ⟨rfl, _⟩ | ⟨g', cap, cur, rfl, _, hh, _⟩
  · simp [Value.ownBlock] at e
  · have e2 : g' = p := by simpa [Value.ownBlock] using e
    subst e2
    have hb : w.heap[g']? = _ := h.blk
    rw [hh] at hb
    injection hb with hb
    injection hb with _ ht
    exact absurd ht (by decide)
theorem WrSt.below {w w' : World} {B p : Nat} {v : Value} {l : List Bool} (h : WrSt w B p v l) (hb : Below w.heap.size w w') : WrSt w' B p v l :=
  ⟨(hb.block p h.blk.lt).trans h.blk, h.own.below hb, h.low⟩
theorem grown_setCell (w : World) (p i : Nat) (u : Value) : w.grownBy (w.setCell ⟨p, i, none⟩ u) (some p) :=
  ⟨rfl, rfl, rfl, by simp [World.setCell], fun k _ hne => Below.heap_setCell w ⟨p, i, none⟩ u k (fun e => hne (by rw [e]))⟩
theorem ownB_set {w : World} {B p i : Nat} {v u : Value} {xs : List Nat} (h : OwnB w B v xs) (hne : v.ownBlock ≠ some p) : OwnB (w.setCell ⟨p, i, none⟩ u) B v xs :=
  World.ownsRow.kept h (grown_setCell w p i u) (.inr hne)
theorem WrSt.grown {w w2 : World} {B p : Nat} {v : Value} {l : List Bool} {o : Obj} (hS : WrSt w B p v l) (hg : (w.alloc o).grownBy w2 v.ownBlock) : Blk w2 p 136 #[v, .int .i64 l.length] :=
  (hg.block p (by have := hS.blk.lt; simp; omega) (Ne.symm hS.ne)).trans ((bel9 w o).block p hS.blk.lt |>.trans hS.blk)
theorem own_ne_new {w : World} {v v2 : Value} {B p : Nat} {l : List Bool} {o : Obj} (hS : WrSt w B p v l) (ha : v2.ownBlock = v.ownBlock ∨ v2.ownBlock = some (w.alloc o).heap.size) : v2.ownBlock ≠ some p := by
  rcases ha with e | e
  · rw [e]; exact hS.ne
  · rw [e]
    intro h
    injection h with h
    have := hS.blk.lt
    simp at h
    omega
theorem fr_put {w w2 w3 : World} {B p : Nat} {v v2 : Value} {l : List Bool} {o : Obj} (hS : WrSt w B p v l) (hg : (w.alloc o).grownBy w2 v.ownBlock) (ha : v2.ownBlock = v.ownBlock ∨ v2.ownBlock = some (w.alloc o).heap.size) (h3 : w2.grownBy w3 (some p)) : Fr w w3 p v v2 := by
  have h1 := bel9 w o
  refine ⟨h3.os.trans (hg.os.trans h1.os), h3.tape.trans (hg.tape.trans h1.tape), h3.output.trans (hg.output.trans h1.output), Nat.le_trans h1.size (Nat.le_trans hg.size h3.size), fun k hk h4 h5 => ?_, ?_⟩
  · have a1 : k < (w.alloc o).heap.size := Nat.lt_of_lt_of_le hk h1.size
    exact (h3.block k (Nat.lt_of_lt_of_le a1 hg.size) (fun e => h4 (by injection e))).trans ((hg.block k a1 (Ne.symm h5)).trans (h1.block k hk))
  · rcases ha with e | e
    · exact .inl e
    · refine .inr fun k hk => ?_
      rw [e] at hk
      injection hk with hk
      simp at hk
      omega
theorem grown_two {w w1 w2 : World} {p : Nat} (h : w.grownBy w1 (some p)) (k : w1.grownBy w2 (some p)) : w.grownBy w2 (some p) :=
  ⟨k.os.trans h.os, k.tape.trans h.tape, k.output.trans h.output, Nat.le_trans h.size k.size, fun j hj hne => (k.block j (Nat.lt_of_lt_of_le hj h.size) hne).trans (h.block j hj hne)⟩
theorem ownB_form {w : World} {B : Nat} {v : Value} {xs : List Nat} (h : OwnB w B v xs) (h0 : 0 < xs.length) : ∃ g c, v = .slice (some ⟨g, 0, none⟩) xs.length c ∧ B ≤ g ∧ g < w.heap.size := by
  obtain ⟨g, c, e, h1, h2⟩ := World.ownsRow.form h h0
  exact ⟨g, c, e, h1, h2⟩
theorem ownB_cell {w : World} {B g c j : Nat} {xs : List Nat} (h : OwnB w B (.slice (some ⟨g, 0, none⟩) xs.length c) xs) (hj : j < xs.length) : w.cell? ⟨g, j, none⟩ = some (.int .u8 (xs.getD j 0 : Nat)) := by
  have := World.ownsRow.cellAt h j (by omega)
  rw [this]
  simp [bv, hj]
theorem ownB_free {w : World} {B g c : Nat} {xs : List Nat} (h : OwnB w B (.slice (some ⟨g, 0, none⟩) xs.length c) xs) (j : Nat) : w.frozen? ⟨g, j, none⟩ = false := World.ownsRow.frozenAt h j
/-- What the append in put leaves. -/
structure PutA (w w2 : World) (B p : Nat) (v v2 : Value) (l : List Bool) (xs : List Nat) : Prop where
  ne : v2.ownBlock ≠ some p
  fr : ∀ w3, w2.grownBy w3 (some p) → Fr w w3 p v v2
  blk : Blk w2 p 136 #[v, .int .i64 l.length]
  own : OwnB w2 B v2 xs
theorem put_app {w w2 : World} {B p : Nat} {v v2 : Value} {l : List Bool} {o : Obj} {xs : List Nat} (hS : WrSt w B p v l) (ho : OwnB w2 B v2 xs) (hg : (w.alloc o).grownBy w2 v.ownBlock) (ha : v2.ownBlock = v.ownBlock ∨ v2.ownBlock = some (w.alloc o).heap.size) :
    ∃ A2 c2, v2 = .slice A2 xs.length c2 ∧ w2.cell? ⟨p, 0, none⟩ = some v ∧ w2.cell? ⟨p, 1, none⟩ = some (.int .i64 l.length) ∧ w2.frozen? ⟨p, 0, none⟩ = false ∧ w2.frozen? ⟨p, 1, none⟩ = false ∧ PutA w w2 B p v v2 l xs := by
  have hb := hS.grown hg
  obtain ⟨A2, c2, e, _⟩ := ho.rd
  exact ⟨A2, c2, e, hb.cell 0, hb.cell 1, hb.free 0, hb.free 1, own_ne_new hS ha, fun w3 h3 => fr_put hS hg ha h3, hb, ho⟩
theorem ownB_stored {w : World} {B g c : Nat} {xs : List Nat} (h : OwnB w B (.slice (some ⟨g, 0, none⟩) xs.length c) xs) (j b : Nat) : OwnB (w.setCell ⟨g, j, none⟩ (.int .u8 (b : Int))) B (.slice (some ⟨g, 0, none⟩) xs.length c) (xs.set j b) := by
  have h1 := (World.ownsRow.stored h j (.int .u8 (b : Int))).1
  unfold OwnB
  rw [List.length_set, show bv (xs.set j b) = (bv xs).set j (.int .u8 (b : Int)) by simp [bv, List.map_set]]
  exact h1
theorem put_app2 {w w2 : World} {B p : Nat} {v v2 : Value} {l : List Bool} {o : Obj} {xs : List Nat} {x : Nat} (hS : WrSt w B p v l) (ho : OwnB w2 B v2 (xs ++ [x])) (hg : (w.alloc o).grownBy w2 v.ownBlock) (ha : v2.ownBlock = v.ownBlock ∨ v2.ownBlock = some (w.alloc o).heap.size) :
    ∃ g2 c2, v2 = .slice (some ⟨g2, 0, none⟩) (xs ++ [x]).length c2 ∧ g2 ≠ p ∧ w2.cell? ⟨g2, xs.length, none⟩ = some (.int .u8 (x : Int)) ∧ w2.cell? ⟨p, 0, none⟩ = some v ∧ w2.cell? ⟨p, 1, none⟩ = some (.int .i64 l.length) ∧ w2.frozen? ⟨p, 0, none⟩ = false ∧ w2.frozen? ⟨p, 1, none⟩ = false ∧ PutA w w2 B p v (.slice (some ⟨g2, 0, none⟩) (xs ++ [x]).length c2) l (xs ++ [x]) := by
  obtain ⟨g2, c2, rfl, _, _⟩ := ownB_form ho (by simp)
  obtain ⟨_, _, _, d0, d1, f0, f1, hpa⟩ := put_app hS ho hg ha
  have := ownB_cell ho (j := xs.length) (by simp)
  rw [List.getD_eq_getElem?_getD, List.getElem?_append_right (Nat.le_refl _), Nat.sub_self] at this
  exact ⟨g2, c2, rfl, fun e => hpa.ne (by rw [e]; rfl), this, d0, d1, f0, f1, hpa⟩
theorem fr_store {w : World} {g p j m c : Nat} {u u' : Value} (hne : g ≠ p) : Fr w ((w.setCell ⟨g, j, none⟩ u).setCell ⟨p, 1, none⟩ u') p (.slice (some ⟨g, 0, none⟩) m c) (.slice (some ⟨g, 0, none⟩) m c) := by
  have hgs := grown_setCell w g j u
  have hps := grown_setCell (w.setCell ⟨g, j, none⟩ u) p 1 u'
  exact ⟨rfl, rfl, rfl, Nat.le_trans hgs.size hps.size, fun k hk h1 h2 => (hps.block k (Nat.lt_of_lt_of_le hk hgs.size) (fun e => h1 (by injection e))).trans (hgs.block k hk (fun e => h2 e.symm)), .inl rfl⟩
theorem i64_and7 (n : Nat) (h : n < 9223372036854775808) : bits BinOp.and IntKind.i64 (n : Int) 7 = ((n % 8 : Nat) : Int) := by
  have e1 : (BitVec.ofInt 64 (n : Int)).toNat = n := by
    rw [BitVec.ofInt_natCast, BitVec.toNat_ofNat]; exact Nat.mod_eq_of_lt (by omega)
  have hx : n &&& 7 = n % 8 := Nat.and_two_pow_sub_one_eq_mod n 3
  show IntKind.i64.wrap ((BitVec.ofInt 64 (n : Int) &&& BitVec.ofInt 64 7).toNat : Int) = _
  rw [BitVec.toNat_and, e1, show (BitVec.ofInt 64 7).toNat = 7 from rfl, hx, IntKind.wrap_i64]
  omega
theorem u8_orbit (b r : Nat) (hb : b < 256) (hr : r < 8) : bits BinOp.or IntKind.u8 (b : Int) (128 / 2 ^ r) = ((b ||| 2 ^ (7 - r) : Nat) : Int) := by
  have h2 : (2 : Nat) ^ (7 - r) < 256 := Nat.lt_of_le_of_lt (Nat.pow_le_pow_right (by omega) (show 7 - r ≤ 7 by omega)) (by decide)
  have e : (128 : Int) / 2 ^ r = ((2 ^ (7 - r) : Nat) : Int) := by
    rcases (show r = 0 ∨ r = 1 ∨ r = 2 ∨ r = 3 ∨ r = 4 ∨ r = 5 ∨ r = 6 ∨ r = 7 by omega) with rfl | rfl | rfl | rfl | rfl | rfl | rfl | rfl <;> rfl
  rw [e]
  exact u8_or_nat b _ hb h2
theorem u64_and1 (x : Nat) (h : x < 18446744073709551616) : bits BinOp.and IntKind.u64 (x : Int) 1 = ((x % 2 : Nat) : Int) := by
  have := u64_and_nat x 1 h (by omega)
  rw [Nat.and_one_is_mod] at this
  exact this

set_option maxRecDepth 100000 in
set_option maxHeartbeats 6400000 in
theorem put_f0 (B p : Nat) (v : Value) (l : List Bool) (x : Nat) (w : World) (hS : WrSt w B p v l) (hl : l.length < 4000000000) (hx : x < 18446744073709551616) (h0 : l.length % 8 = 0) (hb : x % 2 = 0) :
    Calls Try.prog 96 #[.pointer (some ⟨p, 0, none⟩), .int .u64 x] w fun e w' => ∃ v', e = .returned (.tuple #[]) ∧ WrSt w' B p v' (l ++ [false]) ∧ Fr w w' p v v' := by
  have HS := Lib.hid hS
  have c0 : w.cell? ⟨p, 0, none⟩ = some v := hS.blk.cell 0
  have c1 : w.cell? ⟨p, 1, none⟩ = some (.int .i64 l.length) := hS.blk.cell 1
  have t1 : (bits BinOp.and IntKind.i64 (l.length : Int) 7 == 0) = true := by rw [i64_and7 _ (by omega), h0]; rfl
  have t2 : (bits BinOp.and IntKind.u64 (x : Int) 1 == 1) = false := by rw [u64_and1 _ hx, hb]; rfl
  obtain ⟨n, hn⟩ : ∃ n, n = l.length := ⟨_, rfl⟩
  rw [← hn] at c1 t1 hl h0
  have HN := Lib.hid hn
  have HPL : Hid ((pk l).length + [0].length ≤ 4000000000) := Lib.hid (by have := pk_len l; simp only [List.length_cons, List.length_nil]; omega)
  have H0 := Lib.hid h0
  have hp := hS.blk.lt
  have hB : B ≤ w.heap.size := by have := hS.low; omega
  clear hS hn h0 hb hx
  go_enter Try.func96, Try.ntmps96
  go_wp2_with (at_builtin; refine wpList_appB (.tmp 14) (.tmp 15) B v (pk l) (some ⟨w.heap.size, 0, none⟩) 1 [0] rfl rfl (by rfl) (HS.out.own.below (bel9 w _)) (by rfl) (fun h => by cases h) (rd_blk (heap_alloc_new w _)) HPL.out (Nat.le_trans hB (bel9 w _).size) ?_; intro v2 w2 ho2 hb2 hg2 ha2; obtain ⟨A2, c2, rfl, d0, d1, f0, f1, hpa⟩ := put_app HS.out ho2 hg2 ha2; rw [← HN.out] at d1; have HPA := Lib.hid hpa; clear ho2 hb2 hg2 ha2 c0 c1 hpa)
  go_end0
  have e1 := pk_f0 l (by rw [← HN.out]; exact H0.out)
  have hln : (((l ++ [false]).length : Nat) : Int) = (n : Int) + 1 := by rw [List.length_append, ← HN.out]; simp
  refine ⟨_, rfl, ⟨?_, ?_, HS.out.low⟩, HPA.out.fr _ (grown_two (grown_setCell _ _ _ _) (grown_setCell _ _ _ _))⟩
  · rw [hln]
    have := (HPA.out.blk.set_ 0 (.slice A2 ((pk l).length + 1) c2)).set_ 1 (.int .i64 ((n : Int) + 1))
    simpa using this
  · rw [e1]
    exact ownB_set (ownB_set HPA.out.own HPA.out.ne) HPA.out.ne

set_option maxRecDepth 100000 in
set_option maxHeartbeats 6400000 in
theorem put_f1 (B p : Nat) (v : Value) (l : List Bool) (x : Nat) (w : World) (hS : WrSt w B p v l) (hl : l.length < 4000000000) (hx : x < 18446744073709551616) (h0 : ¬ l.length % 8 = 0) (hb : x % 2 = 0) :
    Calls Try.prog 96 #[.pointer (some ⟨p, 0, none⟩), .int .u64 x] w fun e w' => ∃ v', e = .returned (.tuple #[]) ∧ WrSt w' B p v' (l ++ [false]) ∧ Fr w w' p v v' := by
  have HS := Lib.hid hS
  have c0 : w.cell? ⟨p, 0, none⟩ = some v := hS.blk.cell 0
  have c1 : w.cell? ⟨p, 1, none⟩ = some (.int .i64 l.length) := hS.blk.cell 1
  have f1 : w.frozen? ⟨p, 1, none⟩ = false := hS.blk.free 1
  have t1 : (bits BinOp.and IntKind.i64 (l.length : Int) 7 == 0) = false := by rw [i64_and7 _ (by omega), beq_eq_false_iff_ne]; omega
  have t2 : (bits BinOp.and IntKind.u64 (x : Int) 1 == 1) = false := by rw [u64_and1 _ hx, hb]; rfl
  obtain ⟨n, hn⟩ : ∃ n, n = l.length := ⟨_, rfl⟩
  rw [← hn] at c1 t1 hl h0
  have HN := Lib.hid hn
  have H0 := Lib.hid h0
  clear hS hn h0 hb hx
  go_enter Try.func96, Try.ntmps96
  go_wp2
  go_end0
  have e1 := pk_f1 l (by rw [← HN.out]; exact H0.out)
  have hln : (((l ++ [false]).length : Nat) : Int) = (n : Int) + 1 := by rw [List.length_append, ← HN.out]; simp
  have hg := grown_setCell w p 1 (.int .i64 ((n : Int) + 1))
  refine ⟨v, rfl, ⟨?_, ?_, HS.out.low⟩, ⟨hg.os, hg.tape, hg.output, hg.size, fun k hk h1 h2 => hg.block k hk (fun e => h1 (by injection e)), .inl rfl⟩⟩
  · rw [hln]
    have := HS.out.blk.set_ 1 (.int .i64 ((n : Int) + 1))
    simpa using this
  · rw [e1]
    exact ownB_set HS.out.own HS.out.ne

set_option maxRecDepth 100000 in
set_option maxHeartbeats 6400000 in
theorem put_t1 (B p : Nat) (v : Value) (l : List Bool) (x : Nat) (w : World) (hS : WrSt w B p v l) (hl : l.length < 4000000000) (hx : x < 18446744073709551616) (h0 : ¬ l.length % 8 = 0) (hb : x % 2 = 1) :
    Calls Try.prog 96 #[.pointer (some ⟨p, 0, none⟩), .int .u64 x] w fun e w' => ∃ v', e = .returned (.tuple #[]) ∧ WrSt w' B p v' (l ++ [true]) ∧ Fr w w' p v v' := by
  have HS := Lib.hid hS
  obtain ⟨n, hn⟩ : ∃ n, n = l.length := ⟨_, rfl⟩
  have HN := Lib.hid hn
  have hpl := pk_len l
  have hpp : 0 < (pk l).length := by rw [hpl]; omega
  obtain ⟨g, c, rfl, hgB, hglt⟩ := ownB_form hS.own hpp
  have c0 : w.cell? ⟨p, 0, none⟩ = some (.slice (some ⟨g, 0, none⟩) (pk l).length c) := hS.blk.cell 0
  have c1 : w.cell? ⟨p, 1, none⟩ = some (.int .i64 l.length) := hS.blk.cell 1
  have f1 : w.frozen? ⟨p, 1, none⟩ = false := hS.blk.free 1
  have hj : l.length / 8 < (pk l).length := by rw [hpl]; omega
  have c2 := ownB_cell hS.own hj
  have f2 := ownB_free hS.own (l.length / 8)
  have hne : g ≠ p := fun e => hS.ne (by rw [e]; rfl)
  have t1 : (bits BinOp.and IntKind.i64 (l.length : Int) 7 == 0) = false := by rw [i64_and7 _ (by omega), beq_eq_false_iff_ne]; omega
  have t2 : (bits BinOp.and IntKind.u64 (x : Int) 1 == 1) = true := by rw [u64_and1 _ hx, hb]; rfl
  obtain ⟨r, hr⟩ : ∃ r, r = l.length % 8 := ⟨_, rfl⟩
  have t3 : bits BinOp.and IntKind.i64 (l.length : Int) 7 = (r : Int) := by rw [i64_and7 _ (by omega), hr]
  have hr8 : r < 8 := by omega
  obtain ⟨b0, hb0⟩ : ∃ b0, b0 = (pk l).getD (l.length / 8) 0 := ⟨_, rfl⟩
  rw [← hb0] at c2
  rw [← hn] at c1 c2 f2 t1 t3 hl hj h0
  obtain ⟨m, hm⟩ : ∃ m, m = (pk l).length := ⟨_, rfl⟩
  have HM := Lib.hid hm
  rw [← hm] at c0 hj
  obtain ⟨j, hj8⟩ : ∃ j, j = n / 8 := ⟨_, rfl⟩
  rw [← hj8] at c2 f2 hj
  have e8 : (n : Int) / 8 = (j : Int) := by omega
  have g1 : (0 : Int) ≤ (j : Int) := by omega
  have g2 : (j : Int) < (m : Int) := by omega
  obtain ⟨b1, hb1⟩ : ∃ b1, b1 = b0 ||| 2 ^ (7 - r) := ⟨_, rfl⟩
  have e9 : bits BinOp.or IntKind.u8 (b0 : Int) (128 / 2 ^ r) = (b1 : Int) := by rw [hb1]; exact u8_orbit b0 r (by rw [hb0]; exact Byt.at_ (pk_byt l) _) hr8
  have HFN : Hid (pk (l ++ [true]) = (pk l).set j b1) := Lib.hid (by rw [pk_t, pk_f1 l (by omega), ← hn, ← hj8, hb1, hb0, hr, hn, hj8, hn])
  clear hS hn hb hx hpl hpp hr hb0 hm hj8 hb1 h0
  go_enter Try.func96, Try.ntmps96
  go_wp2
  go_still_tail 19, (by kernel_rfl)
  change wpList _ _ _ _ _ w.drew
  go_wp2
  go_end0
  have hln : (((l ++ [true]).length : Nat) : Int) = (n : Int) + 1 := by rw [List.length_append, ← HN.out]; simp
  have hown := ownB_stored HS.out.own j b1
  have hgs := grown_setCell w g j (.int .u8 (b1 : Int))
  have hps := grown_setCell (w.setCell ⟨g, j, none⟩ (.int .u8 (b1 : Int))) p 1 (.int .i64 ((n : Int) + 1))
  refine ⟨.slice (some ⟨g, 0, none⟩) (pk l).length c, rfl, ⟨?_, ?_, HS.out.low⟩, ⟨rfl, rfl, rfl, Nat.le_trans hgs.size hps.size, fun k hk h1 h2 => (hps.block k (Nat.lt_of_lt_of_le hk hgs.size) (fun e => h1 (by injection e))).trans (hgs.block k hk (fun e => h2 e.symm)), .inl rfl⟩⟩
  · rw [hln]
    have hbg : Blk (w.setCell ⟨g, j, none⟩ (.int .u8 (b1 : Int))) p 136 #[.slice (some ⟨g, 0, none⟩) (pk l).length c, .int .i64 l.length] := (hgs.block p HS.out.blk.lt (fun e => hne (by injection e with e; exact e.symm))).trans HS.out.blk
    have h9 := hbg.set_ 1 (.int .i64 ((n : Int) + 1))
    show Blk ((w.setCell ⟨g, j, none⟩ (.int .u8 (b1 : Int))).setCell ⟨p, 1, none⟩ (.int .i64 ((n : Int) + 1))) p _ _
    simpa using h9
  · rw [HFN.out]
    refine cast ?_ (ownB_set (p := p) (i := 1) (u := .int .i64 ((n : Int) + 1)) hown HS.out.ne)
    rfl

set_option maxRecDepth 100000 in
set_option maxHeartbeats 6400000 in
theorem put_t0 (B p : Nat) (v : Value) (l : List Bool) (x : Nat) (w : World) (hS : WrSt w B p v l) (hl : l.length < 4000000000) (hx : x < 18446744073709551616) (h0 : l.length % 8 = 0) (hb : x % 2 = 1) :
    Calls Try.prog 96 #[.pointer (some ⟨p, 0, none⟩), .int .u64 x] w fun e w' => ∃ v', e = .returned (.tuple #[]) ∧ WrSt w' B p v' (l ++ [true]) ∧ Fr w w' p v v' := by
  have HS := Lib.hid hS
  have c0 : w.cell? ⟨p, 0, none⟩ = some v := hS.blk.cell 0
  have c1 : w.cell? ⟨p, 1, none⟩ = some (.int .i64 l.length) := hS.blk.cell 1
  have t1 : (bits BinOp.and IntKind.i64 (l.length : Int) 7 == 0) = true := by rw [i64_and7 _ (by omega), h0]; rfl
  have t2 : (bits BinOp.and IntKind.u64 (x : Int) 1 == 1) = true := by rw [u64_and1 _ hx, hb]; rfl
  have T3 : Hid (bits BinOp.and IntKind.i64 (l.length : Int) 7 = (0 : Int)) := Lib.hid (by rw [i64_and7 _ (by omega), h0]; rfl)
  obtain ⟨n, hn⟩ : ∃ n, n = l.length := ⟨_, rfl⟩
  have hpl := pk_len l
  rw [← hn] at c1 t1 hl h0 T3
  have HN := Lib.hid hn
  have HPL : Hid ((pk l).length + [0].length ≤ 4000000000) := Lib.hid (by simp only [List.length_cons, List.length_nil]; omega)
  have hp := hS.blk.lt
  have hB : B ≤ w.heap.size := by have := hS.low; omega
  obtain ⟨j, hj8⟩ : ∃ j, j = n / 8 := ⟨_, rfl⟩
  have e8 : (n : Int) / 8 = (j : Int) := by omega
  have HJ : Hid ((pk l).length = j) := Lib.hid (by omega)
  have g1 : (0 : Int) ≤ (j : Int) := by omega
  have j1 : (j : Int) < (((pk l ++ [0]).length : Nat) : Int) := by rw [List.length_append]; simp; omega
  have e9 : bits BinOp.or IntKind.u8 (0 : Int) 128 = (128 : Int) := by decide +kernel
  have HFN : Hid (pk (l ++ [true]) = (pk l ++ [0]).set j 128) := Lib.hid (by
    rw [pk_t, pk_f0 l (by omega), ← hn, ← hj8, h0, List.getD_eq_getElem?_getD, List.getElem?_append_right (by omega), show j - (pk l).length = 0 by omega]
    rfl)
  clear hS hn hb hx h0 hpl hj8
  go_enter Try.func96, Try.ntmps96
  go_wp2_with (at_builtin; refine wpList_appB (.tmp 14) (.tmp 15) B v (pk l) (some ⟨w.heap.size, 0, none⟩) 1 [0] rfl rfl (by rfl) (HS.out.own.below (bel9 w _)) (by rfl) (fun h => by cases h) (rd_blk (heap_alloc_new w _)) HPL.out (Nat.le_trans hB (bel9 w _).size) ?_; intro v2 w2 ho2 hb2 hg2 ha2; obtain ⟨g2, c2, e2, hgs, j0, d0, d1, f0, f1, hpa⟩ := put_app2 HS.out ho2 hg2 ha2; subst e2; have HPA := Lib.hid hpa; have HGS := Lib.hid hgs; have k0 : w2.cell? ⟨g2, (pk l).length, none⟩ = some (.int .u8 0) := j0; rw [HJ.out] at k0; have kf : w2.frozen? ⟨g2, j, none⟩ = false := ownB_free hpa.own j; rw [← HN.out] at d1; clear ho2 hb2 hg2 ha2 c0 c1 hpa j0)
  have hbW : Blk (w2.setCell ⟨p, 0, none⟩ (.slice (some ⟨g2, 0, none⟩) ((pk l).length + 1) c2)) p 136 #[.slice (some ⟨g2, 0, none⟩) ((pk l).length + 1) c2, .int .i64 (n : Int)] := by
    have h9 := HPA.out.blk.set_ 0 (.slice (some ⟨g2, 0, none⟩) ((pk l).length + 1) c2)
    rw [← HN.out] at h9
    simpa using h9
  have hoW := ownB_set (p := p) (i := 0) (u := .slice (some ⟨g2, 0, none⟩) ((pk l).length + 1) c2) HPA.out.own HPA.out.ne
  have hgW := grown_setCell w2 p 0 (.slice (some ⟨g2, 0, none⟩) ((pk l).length + 1) c2)
  have hlW : (pk l ++ [0]).length = (pk l).length + 1 := by simp
  rw [hlW] at hoW
  generalize w2.setCell ⟨p, 0, none⟩ (.slice (some ⟨g2, 0, none⟩) ((pk l).length + 1) c2) = W at *
  have q0 : W.cell? ⟨p, 0, none⟩ = some (.slice (some ⟨g2, 0, none⟩) ((pk l).length + 1) c2) := hbW.cell 0
  have q1 : W.cell? ⟨p, 1, none⟩ = some (.int .i64 (n : Int)) := hbW.cell 1
  have qf1 : W.frozen? ⟨p, 1, none⟩ = false := hbW.free 1
  have hj9 : j < (pk l ++ [0]).length := by rw [hlW, HJ.out]; omega
  have qk := ownB_cell (xs := pk l ++ [0]) (by rw [hlW]; exact hoW) hj9
  have qf := ownB_free (xs := pk l ++ [0]) (by rw [hlW]; exact hoW) j
  rw [List.getD_eq_getElem?_getD, List.getElem?_append_right (by rw [HJ.out]; exact Nat.le_refl _), HJ.out, Nat.sub_self] at qk
  have qk' : W.cell? ⟨g2, j, none⟩ = some (.int .u8 0) := qk
  have HBW := Lib.hid hbW
  have HOW : Hid (OwnB W B (.slice (some ⟨g2, 0, none⟩) ((pk l).length + 1) c2) (pk l ++ [0])) := Lib.hid hoW
  have HGW := Lib.hid hgW
  have hj10 : (j : Int) < (((pk l).length : Nat) : Int) + 1 := by rw [HJ.out]; omega
  have t3 := T3.out
  clear hbW hoW hgW hlW hj9 qk d0 d1 f0 f1 k0 kf j1
  go_still_tail 19, (by kernel_rfl)
  change wpList _ _ _ _ _ W.drew
  go_wp2
  go_end0
  have hln : (((l ++ [true]).length : Nat) : Int) = (n : Int) + 1 := by rw [List.length_append, ← HN.out]; simp
  have hlW : (pk l ++ [0]).length = (pk l).length + 1 := by simp
  have hoW := HOW.out
  have hown := ownB_stored (c := c2) (xs := pk l ++ [0]) (by rw [hlW]; exact hoW) j 128
  have hgs' := grown_setCell W g2 j (.int .u8 128)
  refine ⟨.slice (some ⟨g2, 0, none⟩) ((pk l).length + 1) c2, rfl, ⟨?_, ?_, HS.out.low⟩, ((HPA.out.fr _ HGW.out).trans (by rw [hlW]; exact fr_store HGS.out)).drew⟩
  · rw [hln]
    have hbg : Blk (W.setCell ⟨g2, j, none⟩ (.int .u8 128)) p 136 #[.slice (some ⟨g2, 0, none⟩) ((pk l).length + 1) c2, .int .i64 (n : Int)] := (hgs'.block p HBW.out.lt (fun e => HGS.out (by injection e with e; exact e.symm))).trans HBW.out
    have h9 := hbg.set_ 1 (.int .i64 ((n : Int) + 1))
    show Blk ((W.setCell ⟨g2, j, none⟩ (.int .u8 128)).setCell ⟨p, 1, none⟩ (.int .i64 ((n : Int) + 1))) p _ _
    simpa using h9
  · rw [HFN.out]
    rw [hlW] at hown
    exact ownB_set (p := p) (i := 1) (u := .int .i64 ((n : Int) + 1)) hown (by rw [← hlW]; exact HPA.out.ne)

theorem put_any (B p : Nat) (v : Value) (l : List Bool) (x : Nat) (w : World) (hS : WrSt w B p v l) (hl : l.length < 4000000000) (hx : x < 18446744073709551616) :
    Calls Try.prog 96 #[.pointer (some ⟨p, 0, none⟩), .int .u64 x] w fun e w' => ∃ v', e = .returned (.tuple #[]) ∧ WrSt w' B p v' (l ++ [x.testBit 0]) ∧ Fr w w' p v v' := by
  rw [Nat.testBit_zero]
  by_cases hb : x % 2 = 1
  · rw [decide_eq_true hb]
    by_cases h0 : l.length % 8 = 0
    · exact put_t0 B p v l x w hS hl hx h0 hb
    · exact put_t1 B p v l x w hS hl hx h0 hb
  · rw [decide_eq_false hb]
    by_cases h0 : l.length % 8 = 0
    · exact put_f0 B p v l x w hS hl hx h0 (by omega)
    · exact put_f1 B p v l x w hS hl hx h0 (by omega)
end Go.Proofs.Ytnldnaogbadajaa.Tb

/- The library contract of math/bits.Len64, at this program. -/
namespace Go.Proofs
open Go.Shelf
def Try.lays129_ren : Go.Shelf.Ren := ⟨fun | 129 => 86 | n => n, fun | 53 => 69 | 3 => 3 | 4 => 4 | 46 => 79 | 5 => 5 | 9 => 9 | n => n, fun | n => n⟩
theorem Try.lays129 : Go.Proofs.Lays.n129 Try.prog Try.lays129_ren := {
  mixed := by kernel_rfl
  f129 := Try.func86.trans (congrArg some (by kernel_rfl))
  t3 := Try.underlying3
  a3 := Try.isAgg3
  z3 := Try.sizeOf3
  v3 := Try.zeroValue3
  t4 := Try.underlying4
  a4 := Try.isAgg4
  z4 := Try.sizeOf4
  v4 := Try.zeroValue4
  t5 := Try.underlying5
  a5 := Try.isAgg5
  z5 := Try.sizeOf5
  v5 := Try.zeroValue5
  t9 := Try.underlying9
  a9 := Try.isAgg9
  z9 := Try.sizeOf9
  v9 := Try.zeroValue9
  t46 := Try.underlying79
  a46 := Try.isAgg79
  z46 := Try.sizeOf79
  v46 := Try.zeroValue79
  t53 := Try.underlying69
  a53 := Try.isAgg69
  z53 := Try.sizeOf69
  v53 := Try.zeroValue69 }
theorem Try.bits_Len64 (x : Int) (w : World) (h0 : 0 ≤ x) (h1 : x ≤ 18446744073709551615) :
    Calls Try.prog 86 #[.int .u64 x] w fun e w' => e = .returned (.int .i64 (Lib.bitLen x.toNat)) ∧ w' = w := Any.bits_Len64 Try.lays129 x w h0 h1
end Go.Proofs

/- The bit writer's methods, walked. -/
set_option linter.unusedVariables false
set_option linter.unusedSimpArgs false
namespace Go.Proofs.Ytnldnaogbadajaa.Tb
open Go.RowKit

theorem bitLenAux_le : ∀ (f x n : Nat), x < 2 ^ n → Lib.bitLenAux f x ≤ n
  | 0, _, _, _ => Nat.zero_le _
  | f + 1, x, n, h => by
    unfold Lib.bitLenAux
    by_cases h0 : x = 0
    · rw [if_pos h0]; exact Nat.zero_le _
    · rw [if_neg h0]
      cases n with
      | zero => simp at h; omega
      | succ n =>
        have := bitLenAux_le f (x / 2) n (by rw [Nat.pow_succ] at h; omega)
        omega
theorem bitLen_le {x n : Nat} (h : x < 2 ^ n) : Lib.bitLen x ≤ n := bitLenAux_le 64 x n h
theorem bitLenAux_gt : ∀ (f x n : Nat), n < f → 2 ^ n ≤ x → n < Lib.bitLenAux f x
  | 0, _, _, h, _ => by omega
  | f + 1, x, n, hf, h => by
    unfold Lib.bitLenAux
    have hx : 0 < 2 ^ n := Nat.pow_pos (by omega)
    rw [if_neg (by omega)]
    cases n with
    | zero => omega
    | succ n =>
      have := bitLenAux_gt f (x / 2) n (by omega) (by rw [Nat.pow_succ] at h; omega)
      omega
theorem bitLen_gt {x n : Nat} (hn : n < 64) (h : 2 ^ n ≤ x) : n < Lib.bitLen x := bitLenAux_gt 64 x n hn h
theorem testBit_shr (v i : Nat) : (v / 2 ^ i).testBit 0 = v.testBit i := by
  rw [← Nat.shiftRight_eq_div_pow, Nat.testBit_shiftRight, Nat.add_zero]

set_option maxRecDepth 100000 in
set_option maxHeartbeats 6400000 in
theorem lowest_any (B p : Nat) (v0 : Value) (l : List Bool) (x n : Nat) (w : World) (hS : WrSt w B p v0 l) (hl : l.length + n < 4000000000) (hx : x < 18446744073709551616) (hn : n ≤ 64) :
    Calls Try.prog 87 #[.pointer (some ⟨p, 0, none⟩), .int .u64 x, .int .i64 n] w fun e w' => ∃ v', e = .returned (.tuple #[]) ∧ WrSt w' B p v' (l ++ lowB x n) ∧ Fr w w' p v0 v' := by
  have HS := Lib.hid hS
  have HX := Lib.hid hx
  have HL := Lib.hid hl
  have HPUT := Lib.hid (fun (W : World) (v : Value) (m : List Bool) (y : Nat) (h : WrSt W B p v m) (hm : m.length < 4000000000) (hy : y < 18446744073709551616) => put_any B p v m y W h hm hy)
  clear hS hx hl
  go_enter Try.func87, Try.ntmps87
  go_wp2
  go_loopw [6] (fun s wr => ∃ (t : Nat) (v : Value), s = .int .i64 ((n : Int) - 1 - (t : Int)) ∧ t ≤ n ∧ Hid (WrSt wr B p v (l ++ (lowB x n).take t)) ∧ Hid (Fr w wr p v0 v)) (fun s _ => (intOf s + 1).toNat)
  case atStart => exact ⟨0, v0, by simp, by omega, by simpa using HS, Lib.hid (Fr.refl _ _ _)⟩
  case round =>
    obtain ⟨t, v, rfl, htn, HW, HF⟩ := hrel
    by_cases hlt : t < n
    · obtain ⟨i, hi⟩ : ∃ i, i = n - 1 - t := ⟨_, rfl⟩
      have ei : (n : Int) - 1 - (t : Int) = (i : Int) := by omega
      have hib : i < 64 := by omega
      obtain ⟨y, hy⟩ : ∃ y, y = x / 2 ^ i := ⟨_, rfl⟩
      have ey : (x : Int) / 2 ^ i = (y : Int) := by rw [hy]; push_cast; rfl
      have hyx : y < 18446744073709551616 := by rw [hy]; exact Nat.lt_of_le_of_lt (Nat.div_le_self _ _) HX.out
      have htk : (lowB x n).take (t + 1) = (lowB x n).take t ++ [y.testBit 0] := by
        rw [take_snoc false _ t (by rw [lowB_len]; exact hlt), lowB_get x n t hlt, hy, testBit_shr, hi]
      have HT := Lib.hid htk
      have HP := Lib.hid (HPUT.out wr.drew v (l ++ (lowB x n).take t) y ⟨HW.out.blk, HW.out.own, HW.out.low⟩ (by have := HL.out; rw [List.length_append, List.length_take, lowB_len]; omega) hyx)
      have HFd := Lib.hid HF.out.drew
      have g1 : (0 : Int) ≤ (i : Int) := by omega
      have g2 : (i : Int) < 64 := by omega
      rw [ei]
      have e1 : (n : Int) - 1 - ((t + 1 : Nat) : Int) = (i : Int) - 1 := by omega
      have E1 := Lib.hid e1
      clear htk hi hy ei hyx e1
      go_wp2
      go_region_with ((go_at_call 96; refine HP.out.mono ?_; rintro e w2 ⟨v2, rfl, hs2, hf2⟩; have HS2 := Lib.hid hs2; have HF2 := Lib.hid (HFd.out.trans hf2); clear hs2 hf2))
      go_wp2
      go_roundw
      case measure => simp [intOf]
      case rel => exact ⟨t + 1, v2, by rw [E1.out], by omega, Lib.hid (by rw [HT.out, ← List.append_assoc]; exact HS2.out), HF2⟩
    · have et : t = n := by omega
      have eneg : (n : Int) - 1 - (t : Int) = -1 := by omega
      have HW2 : Hid (WrSt wr B p v (l ++ lowB x n)) := Lib.hid (by have h9 := HW.out; rw [et, List.take_of_length_le (by rw [lowB_len]; exact Nat.le_refl _)] at h9; exact h9)
      rw [eneg]
      clear et eneg
      go_wp2
      go_end0
      exact ⟨v, rfl, HW2.out, HF.out⟩

set_option maxRecDepth 100000 in
set_option maxHeartbeats 6400000 in
theorem Bits_ok (B p : Nat) (v0 : Value) (l : List Bool) (x n : Nat) (w : World) (hS : WrSt w B p v0 l) (hl : l.length + n < 4000000000) (hx : x < 18446744073709551616) (hn : n ≤ 64) (hf : x < 2 ^ n) :
    Calls Try.prog 65 #[.pointer (some ⟨p, 0, none⟩), .int .u64 x, .int .i64 n] w fun e w' => ∃ v', e = .returned (.int .i64 0) ∧ WrSt w' B p v' (l ++ lowB x n) ∧ Fr w w' p v0 v' := by
  have HB := Lib.hid (Try.bits_Len64 (x : Int) w (by omega) (by omega))
  have hb := bitLen_le hf
  rw [Int.toNat_natCast] at HB
  obtain ⟨k, hk⟩ : ∃ k, k = Lib.bitLen x := ⟨_, rfl⟩
  rw [← hk] at HB hb
  have HLO := Lib.hid (lowest_any B p v0 l x n w hS hl hx hn)
  have g1 : ¬ (n : Int) < 0 := by omega
  have g2 : ¬ (64 : Int) < (n : Int) := by omega
  have g3 : ¬ (n : Int) < (k : Int) := by omega
  clear hk hS hf hl hx
  go_enter Try.func65, Try.ntmps65
  go_wp2_with fail
  refine HB.out.mono ?_
  rintro e w1 ⟨rfl, rfl⟩
  clear HB
  go_wp2_with fail
  refine HLO.out.mono ?_
  rintro e w2 ⟨v2, rfl, hs2, hf2⟩
  have HS2 := Lib.hid hs2
  have HF2 := Lib.hid hf2
  clear hs2 hf2
  go_wp2
  go_ret
  exact ⟨v2, rfl, HS2.out, HF2.out⟩

set_option maxHeartbeats 1600000 in
theorem NewWriter_any (w : World) : Calls Try.prog 64 #[] w fun e w' => e = .returned (.pointer (some ⟨w.heap.size, 0, none⟩)) ∧ WrSt w' w.heap.size w.heap.size (.slice none 0 0) [] ∧ Below w.heap.size w w' := by
  go_enter Try.func64, Try.ntmps64
  go_wp2
  go_ret
  exact ⟨rfl, ⟨heap_alloc_new w _, OwnB.nil _ _, Nat.le_refl _⟩, bel9 w _⟩
set_option maxHeartbeats 1600000 in
theorem WLen_any (B p : Nat) (v : Value) (l : List Bool) (w : World) (hS : WrSt w B p v l) : Calls Try.prog 67 #[.pointer (some ⟨p, 0, none⟩)] w fun e w' => e = .returned (.int .i64 l.length) ∧ w' = w := by
  have c1 : w.cell? ⟨p, 1, none⟩ = some (.int .i64 l.length) := hS.blk.cell 1
  have hp := hS.blk.lt
  have c0 : w.cell? ⟨p, 0, none⟩ = some v := hS.blk.cell 0
  clear hS
  go_enter Try.func67, Try.ntmps67
  go_wp2
  go_ret
  exact ⟨rfl, rfl⟩
set_option maxHeartbeats 3200000 in
theorem WBytes_any (B p : Nat) (v : Value) (l : List Bool) (w : World) (hS : WrSt w B p v l) (hl : l.length < 4000000000) : Calls Try.prog 66 #[.pointer (some ⟨p, 0, none⟩)] w fun e w' => ∃ v', e = .returned v' ∧ OwnB w' w.heap.size v' (pk l) ∧ Below w.heap.size w w' := by
  have c0 : w.cell? ⟨p, 0, none⟩ = some v := hS.blk.cell 0
  have hp := hS.blk.lt
  obtain ⟨A, c, rfl, hr, hAn, _⟩ := hS.own.rd
  have HR := Lib.hid (hr.below (bel9 w (.cells #[] 5)))
  have HAN := Lib.hid hAn
  have HZ : Hid (([] : List Nat).length + (pk l).length ≤ 4000000000) := Lib.hid (by have := pk_len l; simp only [List.length_nil]; omega)
  clear hS hr hAn
  go_enter Try.func66, Try.ntmps66
  go_wp2_with (at_builtin; refine wpList_appB (.tmp 3) (.tmp 8) w.heap.size (.slice (some ⟨w.heap.size, 0, none⟩) 0 0) [] A c (pk l) rfl rfl (by rfl) (ownB_empty w) (by rfl) HAN.out HR.out HZ.out (bel9 w _).size ?_; intro v' w' hown hb3 _ _; have HO := Lib.hid hown; have HB3 := Lib.hid hb3; clear hown hb3)
  go_ret
  exact ⟨v', rfl, HO.out, (bel9 w _).trans HB3.out⟩
end Go.Proofs.Ytnldnaogbadajaa.Tb

/- Plain: blocks of numbers. -/
set_option linter.unusedVariables false
set_option linter.unusedSimpArgs false
namespace Go.Proofs.Ytnldnaogbadajaa.Tb
open Go

theorem bitLenAux_div (f x : Nat) (h : 0 < x) : Lib.bitLenAux (f + 1) x = 1 + Lib.bitLenAux f (x / 2) := by
  rw [Lib.bitLenAux, if_neg (by omega)]
theorem bitLenAux_zero : ∀ f, Lib.bitLenAux f 0 = 0
  | 0 => rfl
  | f + 1 => by rw [Lib.bitLenAux, if_pos rfl]
/-- Enough steps. -/
theorem bitLenAux_more : ∀ (f g x : Nat), x < 2 ^ f → f ≤ g → Lib.bitLenAux g x = Lib.bitLenAux f x
  | 0, g, x, h, _ => by
    have : x = 0 := by simpa using h
    subst this
    rw [bitLenAux_zero, bitLenAux_zero]
  | f + 1, 0, x, _, hg => by omega
  | f + 1, g + 1, x, h, hg => by
    by_cases h0 : x = 0
    · subst h0
      rw [bitLenAux_zero, bitLenAux_zero]
    · rw [bitLenAux_div _ _ (by omega), bitLenAux_div _ _ (by omega), bitLenAux_more f g (x / 2) (by rw [Nat.pow_succ] at h; omega) (by omega)]
theorem bitLenAux_pos (f x : Nat) (h : 0 < x) (hf : 0 < f) : 0 < Lib.bitLenAux f x := by
  cases f with
  | zero => omega
  | succ f => rw [bitLenAux_div _ _ h]; omega
/-- Seven bits more. -/
theorem bitLenAux_seven (f x : Nat) (hx : 128 ≤ x) : Lib.bitLenAux (f + 7) x = 7 + Lib.bitLenAux f (x / 128) := by
  rw [show f + 7 = (((((((f + 1) + 1) + 1) + 1) + 1) + 1) + 1) from rfl, bitLenAux_div _ _ (by omega), bitLenAux_div _ _ (by omega), bitLenAux_div _ _ (by omega), bitLenAux_div _ _ (by omega), bitLenAux_div _ _ (by omega), bitLenAux_div _ _ (by omega), bitLenAux_div _ _ (by omega)]
  have e : x / 2 / 2 / 2 / 2 / 2 / 2 / 2 = x / 128 := by omega
  rw [e]
  omega
theorem uv_size (x : Nat) : ∀ f, x < 2 ^ f → (uv x).length = (max (Lib.bitLenAux f x) 1 + 6) / 7 := by
  induction x using Nat.strongRecOn with
  | ind x ih =>
    intro f hf
    by_cases h : x < 128
    · rw [uv_lo h]
      have hb : Lib.bitLenAux f x ≤ 7 := by
        rcases Nat.le_total f 7 with h7 | h7
        · rw [← bitLenAux_more f 7 x hf h7]
          have : ∀ y : Fin 128, Lib.bitLenAux 7 y.val ≤ 7 := by decide +kernel
          exact this ⟨x, h⟩
        · rw [bitLenAux_more 7 f x h h7]
          have : ∀ y : Fin 128, Lib.bitLenAux 7 y.val ≤ 7 := by decide +kernel
          exact this ⟨x, h⟩
      simp only [List.length_cons, List.length_nil]
      omega
    · rw [uv_hi h]
      obtain ⟨g, rfl⟩ : ∃ g, f = g + 7 := ⟨f - 7, by
        rcases Nat.lt_or_ge f 7 with h7 | h7
        · have := Nat.pow_le_pow_right (n := 2) (by omega) (show f ≤ 7 by omega)
          omega
        · omega⟩
      have hlt : x / 128 < 2 ^ g := by
        rw [Nat.pow_add] at hf
        omega
      have hg : 0 < g := by
        cases g with
        | zero => simp at hlt; omega
        | succ g => omega
      have := ih (x / 128) (by omega) g hlt
      have hp := bitLenAux_pos g (x / 128) (by omega) hg
      rw [List.length_cons, this, bitLenAux_seven g x (by omega)]
      omega
def szN (x : Nat) : Nat := (max (Lib.bitLen x) 1 + 6) / 7
theorem szN_eq {x : Nat} (h : x < 18446744073709551616) : szN x = (uv x).length := (uv_size x 64 h).symm

/-! ### a block with a width -/
def bitsW (w : Nat) (xs : List Nat) : List Bool := xs.flatMap fun v => lowB v w
def excW (w : Nat) : Nat → List Nat → List Nat
  | _, [] => []
  | g, v :: vs => if 0 < v / 2 ^ w then uv g ++ uv (v / 2 ^ w) ++ excW w 1 vs else excW w (g + 1) vs
def cntW (w : Nat) (xs : List Nat) : Nat := (xs.filter fun v => decide (0 < v / 2 ^ w)).length
def blkW (w : Nat) (xs : List Nat) : List Nat := uv xs.length ++ uv w ++ uv (cntW w xs) ++ pk (bitsW w xs) ++ excW w 1 xs
def excSz (w : Nat) : Nat → List Nat → Nat
  | _, [] => 0
  | g, v :: vs => if 0 < v / 2 ^ w then szN g + szN (v / 2 ^ w) + excSz w 1 vs else excSz w (g + 1) vs
def costW (w : Nat) (xs : List Nat) : Nat := excSz w 1 xs + szN xs.length + szN w + szN (cntW w xs) + (xs.length * w + 7) / 8
def bestTo (xs : List Nat) : Nat → Nat
  | 0 => 0
  | k + 1 => if costW k xs < costW (bestTo xs k) xs then k else bestTo xs k
def bestW (xs : List Nat) : Nat := bestTo xs 32
def packL (xs : List Nat) : List Nat := blkW (bestW xs) xs
theorem bitsW_len (w : Nat) (xs : List Nat) : (bitsW w xs).length = xs.length * w := by
  induction xs with
  | nil => simp [bitsW]
  | cons x xs ih =>
    show (lowB x w ++ bitsW w xs).length = _
    rw [List.length_append, lowB_len, ih, List.length_cons, Nat.succ_mul]
    omega
theorem excSz_eq (w : Nat) : ∀ (xs : List Nat) (g : Nat), g + xs.length < 1000000000 → (∀ v ∈ xs, v < 18446744073709551616) → excSz w g xs = (excW w g xs).length
  | [], _, _, _ => rfl
  | v :: vs, g, hg, hv => by
    simp only [List.length_cons] at hg
    unfold excSz excW
    by_cases h : 0 < v / 2 ^ w
    · rw [if_pos h, if_pos h, List.length_append, List.length_append, excSz_eq w vs 1 (by omega) (fun x hx => hv x (by simp [hx])), szN_eq (by omega),
        szN_eq (Nat.lt_of_le_of_lt (Nat.div_le_self _ _) (hv v (by simp)))]
    · rw [if_neg h, if_neg h, excSz_eq w vs (g + 1) (by omega) (fun x hx => hv x (by simp [hx]))]
theorem cntW_le (w : Nat) (xs : List Nat) : cntW w xs ≤ xs.length := List.length_filter_le _ _
theorem costW_eq (w : Nat) (xs : List Nat) (hw : w < 1000000000) (hl : xs.length < 1000000) (hv : ∀ v ∈ xs, v < 18446744073709551616) : costW w xs = (blkW w xs).length := by
  have hc := cntW_le w xs
  unfold costW blkW
  rw [excSz_eq w xs 1 (by omega) hv, szN_eq (by omega), szN_eq (by omega), szN_eq (by omega)]
  simp only [List.length_append]
  rw [pk_len, bitsW_len]
  omega
theorem bestTo_lt (xs : List Nat) : ∀ k, 0 < k → bestTo xs k < k
  | 0, h => by omega
  | 1, _ => by unfold bestTo; split <;> simp [bestTo]
  | k + 2, _ => by
    have := bestTo_lt xs (k + 1) (by omega)
    rw [bestTo]
    split <;> omega
theorem bestW_lt (xs : List Nat) : bestW xs < 32 := bestTo_lt xs 32 (by omega)

/-! ### one number more -/
theorem bitsW_snoc (w : Nat) (xs : List Nat) (v : Nat) : bitsW w (xs ++ [v]) = bitsW w xs ++ lowB v w := by simp [bitsW]
theorem cntW_snoc (w : Nat) (xs : List Nat) (v : Nat) : cntW w (xs ++ [v]) = cntW w xs + if 0 < v / 2 ^ w then 1 else 0 := by
  unfold cntW
  rw [List.filter_append, List.length_append]
  by_cases h : 0 < v / 2 ^ w
  · rw [if_pos h, List.filter_cons_of_pos (by simpa using h)]; rfl
  · rw [if_neg h, List.filter_cons_of_neg (by simpa using h)]; rfl
/-- How far the last exception lies behind the end. -/
def gapW (w : Nat) : Nat → List Nat → Nat
  | g, [] => g
  | g, v :: vs => if 0 < v / 2 ^ w then gapW w 1 vs else gapW w (g + 1) vs
theorem gapW_snoc (w : Nat) (v : Nat) : ∀ (xs : List Nat) (g : Nat), gapW w g (xs ++ [v]) = if 0 < v / 2 ^ w then 1 else gapW w g xs + 1
  | [], g => by simp only [List.nil_append, gapW]
  | x :: xs, g => by
    simp only [List.cons_append, gapW]
    split
    · exact gapW_snoc w v xs 1
    · exact gapW_snoc w v xs (g + 1)
theorem gapW_le (w : Nat) : ∀ (xs : List Nat) (g : Nat), 1 ≤ g → 1 ≤ gapW w g xs ∧ gapW w g xs ≤ g + xs.length
  | [], g, h => ⟨h, by simp [gapW]⟩
  | x :: xs, g, h => by
    simp only [gapW, List.length_cons]
    split
    · have := gapW_le w xs 1 (by omega); omega
    · have := gapW_le w xs (g + 1) (by omega); omega
theorem excW_snoc (w : Nat) (v : Nat) : ∀ (xs : List Nat) (g : Nat), excW w g (xs ++ [v]) = excW w g xs ++ if 0 < v / 2 ^ w then uv (gapW w g xs) ++ uv (v / 2 ^ w) else []
  | [], g => by
    simp only [List.nil_append, excW, gapW]
    split <;> simp
  | x :: xs, g => by
    simp only [List.cons_append, excW, gapW]
    split
    · rw [excW_snoc w v xs 1]; simp
    · exact excW_snoc w v xs (g + 1)
theorem excSz_snoc (w : Nat) (v : Nat) : ∀ (xs : List Nat) (g : Nat), excSz w g (xs ++ [v]) = excSz w g xs + if 0 < v / 2 ^ w then szN (gapW w g xs) + szN (v / 2 ^ w) else 0
  | [], g => by
    simp only [List.nil_append, excSz, gapW]
    split <;> simp
  | x :: xs, g => by
    simp only [List.cons_append, excSz, gapW]
    split
    · rw [excSz_snoc w v xs 1]; omega
    · exact excSz_snoc w v xs (g + 1)
theorem lowB_mod (v w : Nat) : lowB (v % 2 ^ w) w = lowB v w := by
  unfold lowB
  refine List.map_congr_left fun t ht => ?_
  rw [Nat.testBit_mod_two_pow]
  have := List.mem_range.1 ht
  rw [decide_eq_true (show w - 1 - t < w by omega)]
  rfl
theorem uv_len5 {v : Nat} (h : v < 34359738368) : (uv v).length ≤ 5 := uv_len v 4 (by
  have : (34359738368 : Nat) ≤ 128 ^ (4 + 1) := by decide
  omega)
theorem excW_len (w : Nat) : ∀ (xs : List Nat) (g : Nat), g + xs.length < 1000000000 → (∀ v ∈ xs, v < 34359738368) → (excW w g xs).length ≤ 10 * xs.length
  | [], _, _, _ => by simp [excW]
  | v :: vs, g, hg, hv => by
    simp only [List.length_cons] at hg ⊢
    unfold excW
    by_cases h : 0 < v / 2 ^ w
    · rw [if_pos h, List.length_append, List.length_append]
      have h1 := uv_len5 (v := g) (by omega)
      have h2 := uv_len5 (v := v / 2 ^ w) (Nat.lt_of_le_of_lt (Nat.div_le_self _ _) (hv v (by simp)))
      have := excW_len w vs 1 (by omega) (fun x hx => hv x (by simp [hx]))
      omega
    · rw [if_neg h]
      have := excW_len w vs (g + 1) (by omega) (fun x hx => hv x (by simp [hx]))
      omega
theorem excW_byt (w : Nat) : ∀ (xs : List Nat) (g : Nat), ∀ x ∈ excW w g xs, x < 256
  | [], _, x, hx => by simp [excW] at hx
  | v :: vs, g, x, hx => by
    unfold excW at hx
    split at hx
    · simp only [List.mem_append] at hx
      rcases hx with (hx | hx) | hx
      · exact uv_byt _ x hx
      · exact uv_byt _ x hx
      · exact excW_byt w vs 1 x hx
    · exact excW_byt w vs (g + 1) x hx
theorem blkW_byt (w : Nat) (xs : List Nat) : ∀ x ∈ blkW w xs, x < 256 := by
  intro x hx
  unfold blkW at hx
  simp only [List.mem_append] at hx
  rcases hx with (((hx | hx) | hx) | hx) | hx
  · exact uv_byt _ x hx
  · exact uv_byt _ x hx
  · exact uv_byt _ x hx
  · exact pk_byt _ x hx
  · exact excW_byt _ _ _ x hx
end Go.Proofs.Ytnldnaogbadajaa.Tb

/- block: sizes, walked. -/
set_option linter.unusedVariables false
set_option linter.unusedSimpArgs false
namespace Go.Proofs.Ytnldnaogbadajaa.Tb
open Go.RowKit

/-- A slice of numbers reads so. -/
def RdN (w : World) (A : Option Addr) (xs : List Nat) : Prop := 0 < xs.length → ∃ b off, A = some ⟨b, off, none⟩ ∧ ∀ j, j < xs.length → w.cell? ⟨b, off + j, none⟩ = some (.int .i64 (xs.getD j 0 : Nat))
theorem RdN.drew {w : World} {A : Option Addr} {xs : List Nat} (h : RdN w A xs) : RdN w.drew A xs := h
def Lt31 (xs : List Nat) : Prop := ∀ v ∈ xs, v < 2147483648
theorem Lt31.at_ {xs : List Nat} (h : Lt31 xs) (j : Nat) : xs.getD j 0 < 2147483648 := by
  rw [List.getD_eq_getElem?_getD]
  by_cases hj : j < xs.length
  · rw [List.getElem?_eq_getElem hj]; exact h _ (List.getElem_mem hj)
  · rw [List.getElem?_eq_none (by omega)]; decide
theorem Lt31.w {xs : List Nat} (h : Lt31 xs) : ∀ v ∈ xs, v < 18446744073709551616 := fun v hv => by have := h v hv; omega
theorem bitLen_le64 (x : Nat) : Lib.bitLen x ≤ 64 := by
  have : ∀ f x, Lib.bitLenAux f x ≤ f := by
    intro f
    induction f with
    | zero => intro x; exact Nat.le_refl _
    | succ f ih =>
      intro x
      by_cases h : x = 0
      · subst h; rw [bitLenAux_zero]; omega
      · rw [bitLenAux_div _ _ (by omega)]; have := ih (x / 2); omega
  exact this 64 x
theorem szN_le (x : Nat) : szN x ≤ 10 := by have := bitLen_le64 x; unfold szN; omega
theorem szN_pos (x : Nat) : 1 ≤ szN x := by unfold szN; omega

set_option maxHeartbeats 1600000 in
theorem sizeOf_any (x : Nat) (w : World) (hx : x < 9223372036854775808) : Calls Try.prog 94 #[.int .i64 x] w fun e w' => e = .returned (.int .i64 (szN x)) ∧ w' = w := by
  have HB := Lib.hid (Try.bits_Len64 (x : Int) w (by omega) (by omega))
  rw [Int.toNat_natCast] at HB
  have hb := bitLen_le64 x
  obtain ⟨k, hk⟩ : ∃ k, k = Lib.bitLen x := ⟨_, rfl⟩
  have hs : szN x = (max k 1 + 6) / 7 := by rw [hk]; rfl
  rw [← hk] at HB hb
  clear hk
  rw [hs]
  clear hs
  go_enter Try.func94, Try.ntmps94
  go_wp2_with fail
  refine HB.out.mono ?_
  rintro e w1 ⟨rfl, rfl⟩
  clear HB
  go_wp2
  go_ret
  exact ⟨by simp; omega, rfl⟩
theorem excSz_le (w : Nat) : ∀ (xs : List Nat) (g : Nat), excSz w g xs ≤ 20 * xs.length
  | [], _ => by simp [excSz]
  | v :: vs, g => by
    simp only [excSz, List.length_cons]
    split
    · have := excSz_le w vs 1; have := szN_le g; have := szN_le (v / 2 ^ w); omega
    · have := excSz_le w vs (g + 1); omega
/-- One number more in the sums of cost. -/
theorem cost_step (w : Nat) (xs : List Nat) (t E C G : Nat) (ht : t < xs.length) (hE : E = excSz w 1 (xs.take t)) (hC : C = cntW w (xs.take t)) (hG : G = gapW w 1 (xs.take t)) :
    (0 < xs.getD t 0 / 2 ^ w → excSz w 1 (xs.take (t + 1)) = E + (szN G + szN (xs.getD t 0 / 2 ^ w)) ∧ cntW w (xs.take (t + 1)) = C + 1 ∧ gapW w 1 (xs.take (t + 1)) = 1) ∧
    (¬ 0 < xs.getD t 0 / 2 ^ w → excSz w 1 (xs.take (t + 1)) = E ∧ cntW w (xs.take (t + 1)) = C ∧ gapW w 1 (xs.take (t + 1)) = G + 1) := by
  rw [take_snoc 0 xs t ht, excSz_snoc, cntW_snoc, gapW_snoc, ← hE, ← hC, ← hG]
  constructor
  · intro h; rw [if_pos h, if_pos h, if_pos h]; exact ⟨rfl, rfl, rfl⟩
  · intro h; rw [if_neg h, if_neg h, if_neg h]; exact ⟨rfl, rfl, rfl⟩

set_option maxRecDepth 100000 in
set_option maxHeartbeats 6400000 in
theorem cost_any (A : Option Addr) (c : Nat) (xs : List Nat) (wd : Nat) (w : World) (hr : RdN w A xs) (hl : xs.length ≤ 128) (hx : Lt31 xs) (hwd : wd < 32) :
    Calls Try.prog 81 #[.slice A xs.length c, .int .i64 wd] w fun e w' => e = .returned (.int .i64 (costW wd xs)) ∧ w' = w := by
  have HA := Lib.hid hr
  have HX := Lib.hid hx
  obtain ⟨n, hn⟩ : ∃ n, n = xs.length := ⟨_, rfl⟩
  rw [← hn] at hl ⊢
  have HN := Lib.hid hn
  have HSZ := Lib.hid (fun (x : Nat) (h : x < 9223372036854775808) => sizeOf_any x w h)
  have g1 : (0 : Int) ≤ (wd : Int) := by omega
  have g2 : (wd : Int) < 64 := by omega
  clear hr hx hn
  go_enter Try.func81, Try.ntmps81
  go_wp2
  go_loop [5, 6, 7, 13] (fun a b d s => ∃ (t E C G : Nat), s = .int .i64 t ∧ a = .int .i64 E ∧ b = .int .i64 C ∧ d = .int .i64 ((t : Int) - (G : Int)) ∧ t ≤ n ∧ Hid (E = excSz wd 1 (xs.take t)) ∧ Hid (C = cntW wd (xs.take t)) ∧ Hid (G = gapW wd 1 (xs.take t))) (fun _ _ _ s => n - (intOf s).toNat)
  case atStart => exact ⟨0, 0, 0, 1, rfl, rfl, rfl, rfl, by omega, Lib.hid rfl, Lib.hid rfl, Lib.hid rfl⟩
  case round =>
    obtain ⟨t, E, C, G, rfl, rfl, rfl, rfl, htn, HE, HC, HG⟩ := hrel
    have hE20 : E ≤ 2560 := by have := excSz_le wd (xs.take t) 1; rw [← HE.out, List.length_take, ← HN.out] at this; omega
    have hC20 : C ≤ 128 := by have := cntW_le wd (xs.take t); rw [← HC.out, List.length_take, ← HN.out] at this; omega
    have hG20 : 1 ≤ G ∧ G ≤ t + 1 := by have := gapW_le wd (xs.take t) 1 (by omega); rw [← HG.out, List.length_take, ← HN.out] at this; omega
    by_cases hlt : t < n
    · obtain ⟨b1, o1, e1, c1⟩ := HA.out (by rw [← HN.out]; omega)
      have cc := c1 t (by rw [← HN.out]; exact hlt)
      have hst := cost_step wd xs t E C G (by rw [← HN.out]; exact hlt) HE.out HC.out HG.out
      have hx31 := HX.out.at_ t
      obtain ⟨x, hx⟩ : ∃ x, x = xs.getD t 0 := ⟨_, rfl⟩
      rw [← hx] at cc hst hx31
      obtain ⟨y, hy⟩ : ∃ y, y = x / 2 ^ wd := ⟨_, rfl⟩
      have hyx : y < 2147483648 := by rw [hy]; exact Nat.lt_of_le_of_lt (Nat.div_le_self _ _) hx31
      have ey : (x : Int) / 2 ^ wd = (y : Int) := by rw [hy]; push_cast; rfl
      rw [← hy] at hst
      have HST := Lib.hid hst
      have hs1 := szN_le G
      have hs2 := szN_le y
      have eg : (t : Int) - ((t : Int) - (G : Int)) = (G : Int) := by omega
      clear c1 hx hst hy
      subst e1
      by_cases hy0 : 0 < y
      · have t1 : (0 : Int) < (y : Int) := by omega
        obtain ⟨f1, f2, f3⟩ := HST.out.1 hy0
        have F1 := Lib.hid f1
        have F2 := Lib.hid f2
        have F3 := Lib.hid f3
        have HG2 := Lib.hid (HSZ.out G (by omega))
        have HY2 := Lib.hid (HSZ.out y (by omega))
        clear f1 f2 f3 hy0
        obtain ⟨p, hp⟩ : ∃ p, p = szN G := ⟨_, rfl⟩
        obtain ⟨q, hq⟩ : ∃ q, q = szN y := ⟨_, rfl⟩
        rw [← hp] at hs1 HG2 F1
        rw [← hq] at hs2 HY2 F1
        clear hp hq
        go_wp2_with fail
        refine HG2.out.mono ?_
        rintro e w1 ⟨rfl, rfl⟩
        go_wp2_with fail
        refine HY2.out.mono ?_
        rintro e w1 ⟨rfl, rfl⟩
        go_wp2
        go_round
        case measure => simp [intOf]; omega
        case rel => exact ⟨t + 1, E + (p + q), C + 1, 1, by go_num, by go_num, by go_num, by congr 1; omega, by omega, Lib.hid F1.out.symm, Lib.hid F2.out.symm, Lib.hid F3.out.symm⟩
      · have t1 : ¬ (0 : Int) < (y : Int) := by omega
        obtain ⟨f1, f2, f3⟩ := HST.out.2 hy0
        have F1 := Lib.hid f1
        have F2 := Lib.hid f2
        have F3 := Lib.hid f3
        clear f1 f2 f3 hy0
        go_wp2
        go_round
        case measure => simp [intOf]; omega
        case rel => exact ⟨t + 1, E, C, G + 1, by go_num, rfl, rfl, by congr 1; omega, by omega, Lib.hid F1.out.symm, Lib.hid F2.out.symm, Lib.hid F3.out.symm⟩
    · have ht : t = n := by omega
      have hEo := HE.out
      have hCo := HC.out
      rw [List.take_of_length_le (by rw [← HN.out]; omega)] at hEo hCo
      have HF : Hid (costW wd xs = E + szN n + szN wd + szN C + (n * wd + 7) / 8) := Lib.hid (by unfold costW; rw [← hEo, ← hCo, ← HN.out])
      have H1 := Lib.hid (HSZ.out n (by omega))
      have H2 := Lib.hid (HSZ.out wd (by omega))
      have H3 := Lib.hid (HSZ.out C (by omega))
      have hs1 := szN_le n
      have hs2 := szN_le wd
      have hs3 := szN_le C
      obtain ⟨p, hp⟩ : ∃ p, p = szN n := ⟨_, rfl⟩
      obtain ⟨q, hq⟩ : ∃ q, q = szN wd := ⟨_, rfl⟩
      obtain ⟨r, hr⟩ : ∃ r, r = szN C := ⟨_, rfl⟩
      obtain ⟨m, hm⟩ : ∃ m, m = n * wd := ⟨_, rfl⟩
      have hm2 : m ≤ 128 * 31 := by rw [hm]; exact Nat.mul_le_mul hl (by omega)
      have em : (n : Int) * (wd : Int) = (m : Int) := by rw [hm]; push_cast; rfl
      rw [← hp] at hs1 H1 HF
      rw [← hq] at hs2 H2 HF
      rw [← hr] at hs3 H3 HF
      rw [← hm] at HF
      clear hp hq hr hm hEo hCo
      go_wp2_with fail
      refine H1.out.mono ?_
      rintro e w1 ⟨rfl, rfl⟩
      go_wp2_with fail
      refine H2.out.mono ?_
      rintro e w1 ⟨rfl, rfl⟩
      go_wp2_with fail
      refine H3.out.mono ?_
      rintro e w1 ⟨rfl, rfl⟩
      go_wp2
      go_ret
      exact ⟨by rw [HF.out]; simp, rfl⟩
end Go.Proofs.Ytnldnaogbadajaa.Tb

/- block: the best width, and the check, walked. -/
set_option linter.unusedVariables false
set_option linter.unusedSimpArgs false
namespace Go.Proofs.Ytnldnaogbadajaa.Tb
open Go.RowKit

theorem RdN.below {w w1 : World} {A : Option Addr} {xs : List Nat} (h : RdN w A xs) (hb : Below w.heap.size w w1) : RdN w1 A xs := by
  intro hl
  obtain ⟨b, off, e, hc⟩ := h hl
  refine ⟨b, off, e, fun j hj => ?_⟩
  rw [← hc j hj]
  refine hb.cell (p := ⟨b, off + j, none⟩) ?_
  have h1 := hc j hj
  rcases Nat.lt_or_ge b w.heap.size with h2 | h2
  · exact h2
  · simp [World.cell?, Array.getElem?_eq_none h2] at h1
def tblC (xs : List Nat) (i : Nat) : Array Value := ((List.range 32).map fun k => Value.int .i64 (if k < i then costW k xs else 0 : Nat)).toArray
theorem tblC_get (xs : List Nat) (i k : Nat) (h : k < 32) : (tblC xs i)[k]? = some (.int .i64 (if k < i then costW k xs else 0 : Nat)) := by simp [tblC, h]
theorem tblC_set (xs : List Nat) (i : Nat) (h : i < 32) : (tblC xs i).setIfInBounds i (.int .i64 (costW i xs : Nat)) = tblC xs (i + 1) := by
  apply Array.ext_getElem?
  intro k
  by_cases hk : k < 32
  · rw [tblC_get _ _ _ hk]
    by_cases e : i = k
    · subst e
      rw [Array.getElem?_setIfInBounds_self_of_lt (by simpa [tblC] using h), if_pos (by omega)]
    · rw [Array.getElem?_setIfInBounds_ne e, tblC_get _ _ _ hk]
      by_cases h2 : k < i
      · rw [if_pos h2, if_pos (by omega)]
      · rw [if_neg h2, if_neg (by omega)]
  · rw [Array.getElem?_eq_none (by simp [tblC]; omega), Array.getElem?_eq_none (by simp [tblC]; omega)]
theorem tblC_zero (xs : List Nat) : tblC xs 0 = (List.replicate 32 (Value.int .i64 0)).toArray := by
  rw [tblC]
  simp only [Nat.not_lt_zero, if_false]
  rfl
theorem bestTo_lt1 (xs : List Nat) (k : Nat) : bestTo xs k < k + 1 := by
  cases k with
  | zero => exact Nat.zero_lt_one
  | succ k => have := bestTo_lt xs (k + 1) (by omega); omega

set_option maxRecDepth 100000 in
set_option maxHeartbeats 6400000 in
theorem best_any (A : Option Addr) (c : Nat) (xs : List Nat) (w : World) (hr : RdN w A xs) (hl : xs.length ≤ 128) (hx : Lt31 xs) :
    Calls Try.prog 59 #[.slice A xs.length c] w fun e w' => e = .returned (.int .i64 (bestW xs)) ∧ Below w.heap.size w w' := by
  have HC := Lib.hid (fun (wd : Nat) (W : World) (hb : Below w.heap.size w W) (h : wd < 32) => cost_any A c xs wd W (hr.below hb) hl hx h)
  have HBL := Lib.hid (bestTo_lt1 xs)
  obtain ⟨n, hn⟩ : ∃ n, n = xs.length := ⟨_, rfl⟩
  rw [← hn] at HC ⊢
  clear hr hx hn hl
  go_enter Try.func59, Try.ntmps59
  go_wp2
  go_loopw [4, 6] (fun b s wr => ∃ (t d : Nat), s = .int .i64 t ∧ b = .int .i64 d ∧ t ≤ 32 ∧ Hid (d = bestTo xs t) ∧ Hid (Below w.heap.size w wr) ∧ Hid (Blk wr w.heap.size 130 (tblC xs t))) (fun _ s _ => 32 - (intOf s).toNat)
  case atStart => exact ⟨0, 0, rfl, rfl, by omega, Lib.hid rfl, Lib.hid ((Below.refl _ _).alloc (Nat.le_refl _) _), Lib.hid (by rw [tblC_zero]; exact heap_alloc_new w _)⟩
  case round =>
    obtain ⟨t, d, rfl, rfl, ht, HD, HW, HT⟩ := hrel
    have hdl := HBL.out t
    rw [← HD.out] at hdl
    have hsz := HT.out.lt
    by_cases hlt : t < 32
    · have HCC := Lib.hid (HC.out t wr HW.out hlt)
      have hf : wr.frozen? ⟨w.heap.size, t, none⟩ = false := HT.out.free t
      have hc : wr.cell? ⟨w.heap.size, t, none⟩ = some (.int .i64 0) := by rw [HT.out.cell, tblC_get _ _ _ hlt, if_neg (by omega)]; rfl
      have hbt : bestTo xs (t + 1) = if costW t xs < costW d xs then t else d := by rw [HD.out]; rfl
      have HBT := Lib.hid hbt
      have HT2 := tblC_set xs t hlt
      have g1 := tblC_get xs (t + 1) t hlt
      have g2 := tblC_get xs (t + 1) d (by omega)
      rw [if_pos (by omega)] at g1 g2
      obtain ⟨p, hp⟩ : ∃ p, p = costW t xs := ⟨_, rfl⟩
      obtain ⟨q, hq⟩ : ∃ q, q = costW d xs := ⟨_, rfl⟩
      rw [← hp] at HCC HBT HT2 g1
      rw [← hq] at HBT g2
      have G1 := Lib.hid g1
      have G2 := Lib.hid g2
      have GT2 := Lib.hid HT2
      clear hp hq hbt g1 g2 HT2
      go_wp2_with fail
      refine HCC.out.mono ?_
      rintro e w1 ⟨rfl, rfl⟩
      go_wp2_with fail
      have hb2 := HT.out.set_ t (.int .i64 (p : Int))
      rw [GT2.out] at hb2
      have hw2 := HW.out.setCell (p := ⟨w.heap.size, t, none⟩) (Nat.le_refl _) (.int .i64 (p : Int))
      have HB2 := Lib.hid hb2
      have HW2 := Lib.hid hw2
      clear hb2 hw2 hf hc hsz
      generalize World.setCell _ _ _ = w2 at HB2 HW2 ⊢
      have c1 : w2.cell? ⟨w.heap.size, t, none⟩ = some (.int .i64 (p : Int)) := by rw [HB2.out.cell]; exact G1.out
      have c2 : w2.cell? ⟨w.heap.size, d, none⟩ = some (.int .i64 (q : Int)) := by rw [HB2.out.cell]; exact G2.out
      by_cases hpq : p < q
      · go_quiet (fail)
        have HW3 := Lib.hid (below_drewN HW2.out nq)
        have HB3 : Hid (Blk (w2.drewN nq) w.heap.size 130 (tblC xs (t + 1))) := Lib.hid HB2.out
        clear c1 c2 HW2 HB2
        generalize w2.drewN nq = w3 at HW3 HB3 ⊢
        go_wp2
        go_roundw
        case measure => simp [intOf]; omega
        case rel => exact ⟨t + 1, t, by go_num, rfl, by omega, Lib.hid (by rw [HBT.out, if_pos hpq]), HW3, HB3⟩
      · go_quiet (fail)
        have HW3 := Lib.hid (below_drewN HW2.out nq)
        have HB3 : Hid (Blk (w2.drewN nq) w.heap.size 130 (tblC xs (t + 1))) := Lib.hid HB2.out
        clear c1 c2 HW2 HB2
        generalize w2.drewN nq = w3 at HW3 HB3 ⊢
        go_wp2
        go_roundw
        case measure => simp [intOf]; omega
        case rel => exact ⟨t + 1, d, by go_num, rfl, by omega, Lib.hid (by rw [HBT.out, if_neg hpq]), HW3, HB3⟩
    · have et : t = 32 := by omega
      have HF : Hid (d = bestW xs) := Lib.hid (by rw [HD.out, et]; rfl)
      go_wp2
      go_ret
      exact ⟨by rw [HF.out]; rfl, HW.out⟩

/-! ### the check -/
def RdI (w : World) (A : Option Addr) (xs : List Int) : Prop := 0 < xs.length → ∃ b off, A = some ⟨b, off, none⟩ ∧ ∀ j, j < xs.length → w.cell? ⟨b, off + j, none⟩ = some (.int .i64 (xs.getD j 0))
set_option maxRecDepth 100000 in
set_option maxHeartbeats 6400000 in
theorem check_ok (A : Option Addr) (c : Nat) (xs : List Nat) (w : World) (hr : RdN w A xs) (hl : xs.length ≤ 128) (hx : Lt31 xs) :
    Calls Try.prog 57 #[.slice A xs.length c] w fun e w' => e = .returned (.int .i64 0) ∧ w' = w := by
  have HA := Lib.hid hr
  have HX := Lib.hid hx
  obtain ⟨n, hn⟩ : ∃ n, n = xs.length := ⟨_, rfl⟩
  rw [← hn] at hl ⊢
  have HN := Lib.hid hn
  clear hr hx hn
  go_enter Try.func57, Try.ntmps57
  go_wp2
  go_loop [10] (fun s => ∃ t : Nat, s = .int .i64 t ∧ t ≤ n) (fun s => n - (intOf s).toNat)
  case atStart => exact ⟨0, rfl, by omega⟩
  case round =>
    obtain ⟨t, rfl, ht⟩ := hrel
    by_cases hlt : t < n
    · obtain ⟨b1, o1, e1, c1⟩ := HA.out (by rw [← HN.out]; omega)
      have cc := c1 t (by rw [← HN.out]; exact hlt)
      have hx31 := HX.out.at_ t
      obtain ⟨x, hx⟩ : ∃ x, x = xs.getD t 0 := ⟨_, rfl⟩
      rw [← hx] at cc hx31
      have t1 : ¬ (x : Int) < 0 := by omega
      have t2 : ¬ (2147483647 : Int) < (x : Int) := by omega
      clear c1 hx
      subst e1
      go_wp2
      go_round
      case measure => simp [intOf]; omega
      case rel => exact ⟨t + 1, by go_num, by omega⟩
    · go_wp2
      go_ret
      exact ⟨rfl, rfl⟩
end Go.Proofs.Ytnldnaogbadajaa.Tb

/- block: the encoding, walked. -/
set_option linter.unusedVariables false
set_option linter.unusedSimpArgs false
namespace Go.Proofs.Ytnldnaogbadajaa.Tb
open Go.RowKit

/-- A row apart from a writer stays what it is. -/
def Apt (u v : Value) (p : Nat) : Prop := ∀ k, u.ownBlock = some k → k ≠ p ∧ v.ownBlock ≠ some k
theorem ownB_fr {w w' : World} {B p : Nat} {u v v' : Value} {xs : List Nat} (h : OwnB w B u xs) (hf : Fr w w' p v v') (ha : Apt u v p) : OwnB w' B u xs := by
  refine ⟨h.1, ?_⟩
  rcases h.2 with h2 | ⟨g, cap, cur, rfl, hbg, hh, rest⟩
  · exact .inl h2
  · have hlt : g < w.heap.size := (h.lt g rfl).2
    obtain ⟨h1, h2⟩ := ha g rfl
    exact .inr ⟨g, cap, cur, rfl, hbg, (hf.block g hlt h1 h2).trans hh, rest⟩
theorem apt_fr {w w' : World} {B p : Nat} {u v v' : Value} {xs : List Nat} (h : OwnB w B u xs) (hf : Fr w w' p v v') (ha : Apt u v p) : Apt u v' p := fun k hk => by
  obtain ⟨h1, h2⟩ := ha k hk
  refine ⟨h1, ?_⟩
  rcases hf.own with e | e
  · rw [e]; exact h2
  · intro e2
    have := e k e2
    have := (h.lt k hk).2
    omega
theorem apt_new {w w' : World} {B p : Nat} {u v : Value} {l : List Bool} {xs : List Nat} (h : OwnB w' w.heap.size u xs) (hS : WrSt w B p v l) : Apt u v p := fun k hk => by
  have h1 := (h.lt k hk).1
  have h2 := hS.blk.lt
  refine ⟨by omega, fun e => ?_⟩
  have := (hS.own.lt k e).2
  omega
theorem rows_apart {w w3 w4 : World} {B B3 : Nat} {u v : Value} {xs ys : List Nat} (h : OwnB w B u xs) (h4 : OwnB w4 B3 v ys) (hs : w.heap.size ≤ B3) : u.ownBlock = none ∨ u.ownBlock ≠ v.ownBlock := by
  cases hu : u.ownBlock with
  | none => exact .inl rfl
  | some k =>
    refine .inr fun e => ?_
    have h1 := (h.lt k hu).2
    have h2 := (h4.lt k e.symm).1
    omega
theorem own_rd_of {w : World} {B c : Nat} {A : Option Addr} {xs : List Nat} (h : OwnB w B (.slice A xs.length c) xs) : RdB w A xs ∧ (A = none → xs.length = 0 ∧ c = 0) := by
  obtain ⟨A', c', e, h1, h2, _⟩ := h.rd
  injection e with e1 e2 e3
  rw [e1, e3]
  exact ⟨h1, h2⟩
theorem mask_eq (x wd : Nat) (hx : x < 2147483648) (hw : wd < 32) : bits BinOp.and IntKind.u64 (x : Int) ((2 ^ wd - 1 : Nat) : Int) = ((x % 2 ^ wd : Nat) : Int) := by
  have h2 : (2 : Nat) ^ wd < 4294967296 := Nat.pow_lt_pow_right (by omega) (show wd < 32 from hw)
  rw [u64_and_nat x (2 ^ wd - 1) (by omega) (by omega), Nat.and_two_pow_sub_one_eq_mod]

set_option maxRecDepth 100000 in
set_option maxHeartbeats 6400000 in
theorem encode_any (A : Option Addr) (c : Nat) (xs : List Nat) (wd : Nat) (w : World) (hr : RdN w A xs) (hl : xs.length ≤ 128) (hx : Lt31 xs) (hwd : wd < 32) :
    Calls Try.prog 58 #[.slice A xs.length c, .int .i64 wd] w fun e w' => ∃ v', e = .returned v' ∧ OwnB w' w.heap.size v' (blkW wd xs) ∧ Below w.heap.size w w' := by
  have HA := Lib.hid hr
  have HX := Lib.hid hx
  obtain ⟨n, hn⟩ : ∃ n, n = xs.length := ⟨_, rfl⟩
  rw [← hn] at hl ⊢
  have HN := Lib.hid hn
  obtain ⟨P, hP⟩ : ∃ P : Nat, P = 2 ^ wd := ⟨_, rfl⟩
  have hP1 : P < 4294967296 := by rw [hP]; exact Nat.pow_lt_pow_right (by omega) (show wd < 32 from hwd)
  have hP0 : 0 < P := by rw [hP]; exact Nat.two_pow_pos _
  have eP1 : IntKind.u64.wrap ((2 : Int) ^ wd) = (P : Int) := by
    have : ((2 : Int) ^ wd) = (P : Int) := by rw [hP]; push_cast; rfl
    rw [this]
    simp only [IntKind.wrap, IntKind.bits, IntKind.signed]; simp; omega
  have eP2 : (P : Int) - 1 = ((P - 1 : Nat) : Int) := by omega
  have HPP := Lib.hid hP
  have g1 : (0 : Int) ≤ (wd : Int) := by omega
  have g2 : (wd : Int) < 64 := by omega
  obtain ⟨q, hq⟩ : ∃ q : Nat, q = P - 1 := ⟨_, rfl⟩
  have HQ := Lib.hid hq
  rw [← hq] at eP2
  have hq1 : q < 4294967296 := by omega
  clear hr hx hn hP hq
  go_enter Try.func58, Try.ntmps58
  go_wp2_with fail
  refine (NewWriter_any w).mono ?_
  rintro e w1 ⟨rfl, hs1, hb1⟩
  have HS1 := Lib.hid hs1
  have HB1 := Lib.hid hb1
  clear hs1 hb1
  obtain ⟨p, hp⟩ : ∃ p, p = w.heap.size := ⟨_, rfl⟩
  have HP := Lib.hid hp
  rw [← hp] at HS1 ⊢
  clear hp
  go_wp2
  go_loopw [6, 7, 8, 16] (fun a b d s wr => ∃ (t C G : Nat) (v : Value) (A6 : Option Addr) (c6 : Nat) (L : List Nat), s = .int .i64 t ∧ a = .slice A6 L.length c6 ∧ b = .int .i64 C ∧ d = .int .i64 ((t : Int) - (G : Int)) ∧ t ≤ n ∧ Hid (L = excW wd 1 (xs.take t)) ∧ Hid (C = cntW wd (xs.take t)) ∧ Hid (G = gapW wd 1 (xs.take t)) ∧ Hid (WrSt wr p p v (bitsW wd (xs.take t))) ∧ Hid (OwnB wr p (.slice A6 L.length c6) L) ∧ Hid (Apt (.slice A6 L.length c6) v p) ∧ Hid (Below p w wr)) (fun _ _ _ s _ => n - (intOf s).toNat)
  case atStart => exact ⟨0, 0, 1, .slice none 0 0, none, 0, [], rfl, rfl, rfl, rfl, by omega, Lib.hid rfl, Lib.hid rfl, Lib.hid rfl, HS1, Lib.hid (OwnB.nil _ _), Lib.hid (fun k hk => by cases hk), Lib.hid (by rw [HP.out]; exact HB1.out)⟩
  case round =>
    obtain ⟨t, C, G, v, A6, c6, L, rfl, rfl, rfl, rfl, htn, HL, HC, HG, HW, HO, HAP, HB⟩ := hrel
    have hC20 : C ≤ 128 := by have := cntW_le wd (xs.take t); rw [← HC.out, List.length_take, ← HN.out] at this; omega
    have hG20 : 1 ≤ G ∧ G ≤ t + 1 := by have := gapW_le wd (xs.take t) 1 (by omega); rw [← HG.out, List.length_take, ← HN.out] at this; omega
    have hlb : (bitsW wd (xs.take t)).length ≤ 4000 := by
      rw [bitsW_len, List.length_take, ← HN.out]
      exact Nat.le_trans (Nat.mul_le_mul (show min t n ≤ 128 by omega) (show wd ≤ 31 by omega)) (by omega)
    have hLL : L.length ≤ 1280 := by
      have := excW_len wd (xs.take t) 1 (by rw [List.length_take, ← HN.out]; omega) (fun v hv => by have := HX.out v (List.mem_of_mem_take hv); omega)
      rw [← HL.out, List.length_take, ← HN.out] at this
      omega
    by_cases hlt : t < n
    · obtain ⟨b1, o1, e1, c1⟩ := (HA.out.below (HB.out.mono (by rw [HP.out]; exact Nat.le_refl _))) (by rw [← HN.out]; omega)
      have cc := c1 t (by rw [← HN.out]; exact hlt)
      have hst : excW wd 1 (xs.take (t + 1)) = L ++ (if 0 < xs.getD t 0 / 2 ^ wd then uv G ++ uv (xs.getD t 0 / 2 ^ wd) else []) ∧ cntW wd (xs.take (t + 1)) = C + (if 0 < xs.getD t 0 / 2 ^ wd then 1 else 0) ∧ gapW wd 1 (xs.take (t + 1)) = (if 0 < xs.getD t 0 / 2 ^ wd then 1 else G + 1) ∧ bitsW wd (xs.take (t + 1)) = bitsW wd (xs.take t) ++ lowB (xs.getD t 0 % 2 ^ wd) wd := by
        rw [take_snoc 0 xs t (by rw [← HN.out]; exact hlt), excW_snoc, cntW_snoc, gapW_snoc, bitsW_snoc, lowB_mod, ← HL.out, ← HC.out, ← HG.out]
        exact ⟨rfl, rfl, rfl, rfl⟩
      have hx31 := HX.out.at_ t
      obtain ⟨x, hx⟩ : ∃ x, x = xs.getD t 0 := ⟨_, rfl⟩
      rw [← hx] at cc hst hx31
      obtain ⟨y, hy⟩ : ∃ y, y = x / 2 ^ wd := ⟨_, rfl⟩
      obtain ⟨m, hm⟩ : ∃ m, m = x % 2 ^ wd := ⟨_, rfl⟩
      have hyx : y < 2147483648 := by rw [hy]; exact Nat.lt_of_le_of_lt (Nat.div_le_self _ _) hx31
      have ey : (x : Int) / 2 ^ wd = (y : Int) := by rw [hy]; push_cast; rfl
      have em : bits BinOp.and IntKind.u64 (x : Int) (q : Int) = (m : Int) := by
        have := mask_eq x wd hx31 hwd
        rw [← hm] at this
        rw [HQ.out, HPP.out]
        exact this
      have hmP : m < 2 ^ wd := by rw [hm]; exact Nat.mod_lt _ (Nat.two_pow_pos _)
      have hm64 : m < 4294967296 := by rw [← HPP.out] at hmP; omega
      rw [← hy, ← hm] at hst
      obtain ⟨s1, s2, s3, s4⟩ := hst
      have HST4 := Lib.hid s4
      have eg : (t : Int) - ((t : Int) - (G : Int)) = (G : Int) := by omega
      have HBI := Lib.hid (Bits_ok p p v (bitsW wd (xs.take t)) m wd wr HW.out (by omega) (by omega) (by omega) hmP)
      clear c1 hx hm hy s4 hmP
      subst e1
      by_cases hy0 : 0 < y
      · have t1 : (0 : Int) < (y : Int) := by omega
        rw [if_pos hy0] at s1 s2 s3
        have F1 := Lib.hid s1
        have F2 := Lib.hid s2
        have F3 := Lib.hid s3
        clear s1 s2 s3 hy0
        go_wp2_with fail
        refine HBI.out.mono ?_
        rintro e w2 ⟨v2, rfl, hs2, hf2⟩
        have hap2 := apt_fr HO.out hf2 HAP.out
        have ho2 := ownB_fr HO.out hf2 HAP.out
        have hb2 := HB.out.trans (hf2.bel HW.out)
        have hrd2 : RdB w2 A6 L := by
          obtain ⟨A', c', e', h', _⟩ := ho2.rd
          injection e' with e1 e2 e3
          rw [e1]; exact h'
        have HPU := Lib.hid (PutUvarint_any A6 c6 L G w2 hrd2 (by omega) (by omega))
        have HS2 := Lib.hid hs2
        have HB2 := Lib.hid hb2
        obtain ⟨k6, hk6⟩ : ∃ k6, k6 = L.length := ⟨_, rfl⟩
        rw [← hk6] at HPU hLL ⊢
        have HK6 := Lib.hid hk6
        clear hs2 hf2 hap2 ho2 hb2 hrd2 HBI cc hk6
        go_wp2_with fail
        refine HPU.out.mono ?_
        rintro e w3 ⟨v3, rfl, ho3, hb3⟩
        obtain ⟨A3, c3, rfl, hrd3, _⟩ := ho3.rd
        have hl3 : (L ++ uv G).length ≤ 2000 := by rw [List.length_append, ← HK6.out]; have := uv_len10 (v := G) (by omega); omega
        have HPU2 := Lib.hid (PutUvarint_any A3 c3 (L ++ uv G) y w3 hrd3 (by omega) (by omega))
        have HB3 := Lib.hid (HB2.out.trans (hb3.mono (by have := HS2.out.blk.lt; omega)))
        have HS3 := Lib.hid (HS2.out.below hb3)
        obtain ⟨k7, hk7⟩ : ∃ k7, k7 = (L ++ uv G).length := ⟨_, rfl⟩
        rw [← hk7] at HPU2 ⊢
        clear ho3 hrd3 hb3 HPU hk7 hl3
        go_wp2_with fail
        refine HPU2.out.mono ?_
        rintro e w4 ⟨v4, rfl, ho4, hb4⟩
        obtain ⟨A4, c4, rfl, hrd4, _⟩ := ho4.rd
        have HO4 : Hid (OwnB w4 p (.slice A4 ((L ++ uv G) ++ uv y).length c4) ((L ++ uv G) ++ uv y)) := Lib.hid (ho4.lower (by have := HS3.out.blk.lt; omega))
        have HA4 := Lib.hid (apt_new ho4 HS3.out)
        have HB4 := Lib.hid (HB3.out.trans (hb4.mono (by have := HS3.out.blk.lt; omega)))
        have HS4 := Lib.hid (HS3.out.below hb4)
        clear ho4 hrd4 hb4 HPU2
        have HF1 : Hid ((L ++ uv G) ++ uv y = excW wd 1 (xs.take (t + 1))) := Lib.hid (by rw [F1.out, List.append_assoc])
        generalize (L ++ uv G) ++ uv y = L4 at HO4 HA4 HF1 ⊢
        go_wp2
        go_roundw
        case measure => simp [intOf]; omega
        case rel => exact ⟨t + 1, C + 1, 1, v2, A4, c4, L4, by go_num, rfl, by go_num, by congr 1; omega, by omega, HF1, Lib.hid F2.out.symm, Lib.hid F3.out.symm, Lib.hid (by rw [HST4.out]; exact HS4.out), HO4, HA4, HB4⟩
      · have t1 : ¬ (0 : Int) < (y : Int) := by omega
        rw [if_neg hy0] at s1 s2 s3
        rw [List.append_nil] at s1
        have F1 := Lib.hid s1
        have F2 := Lib.hid s2
        have F3 := Lib.hid s3
        clear s1 s2 s3 hy0
        go_wp2_with fail
        refine HBI.out.mono ?_
        rintro e w2 ⟨v2, rfl, hs2, hf2⟩
        have HA2 := Lib.hid (apt_fr HO.out hf2 HAP.out)
        have HO2 := Lib.hid (ownB_fr HO.out hf2 HAP.out)
        have HB2 := Lib.hid (HB.out.trans (hf2.bel HW.out))
        have HS2 := Lib.hid hs2
        clear hs2 hf2 HBI cc
        go_wp2
        go_roundw
        case measure => simp [intOf]; omega
        case rel => exact ⟨t + 1, C, G + 1, v2, A6, c6, L, by go_num, rfl, rfl, by congr 1; omega, by omega, Lib.hid F1.out.symm, Lib.hid F2.out.symm, Lib.hid F3.out.symm, Lib.hid (by rw [HST4.out]; exact HS2.out), HO2, HA2, HB2⟩
    · obtain rfl : t = n := by omega
      have hLo := HL.out
      have hCo := HC.out
      have hWo := HW.out
      rw [List.take_of_length_le (by rw [← HN.out]; exact Nat.le_refl _)] at hLo hCo hWo
      have HF : Hid (blkW wd xs = (([] ++ uv t ++ uv wd) ++ uv C ++ pk (bitsW wd xs)) ++ L) := Lib.hid (by unfold blkW; rw [← hLo, ← hCo, ← HN.out]; rfl)
      have hlb : (bitsW wd xs).length ≤ 4000 := by
        rw [bitsW_len, ← HN.out]
        exact Nat.le_trans (Nat.mul_le_mul hl (show wd ≤ 31 by omega)) (by omega)
      have HW2 := Lib.hid hWo
      obtain ⟨M, hM⟩ : ∃ M, M = bitsW wd xs := ⟨_, rfl⟩
      rw [← hM] at HF HW2 hlb
      have HPU := Lib.hid (PutUvarint_any none 0 [] t wr (fun h => by simp at h) (by simp) (by omega))
      have hpw := HW2.out.blk.lt
      clear hLo hCo hWo hM
      go_wp2_with fail
      refine HPU.out.mono ?_
      rintro e w2 ⟨v2, rfl, ho2, hb2⟩
      obtain ⟨A2, c2, rfl, hrd2, _⟩ := ho2.rd
      have hl2 : ([] ++ uv t).length ≤ 10 := by have := uv_len10 (v := t) (by omega); simpa using this
      have HPU2 := Lib.hid (PutUvarint_any A2 c2 ([] ++ uv t) wd w2 hrd2 (by omega) (by omega))
      obtain ⟨k2, hk2⟩ : ∃ k, k = ([] ++ uv t).length := ⟨_, rfl⟩
      rw [← hk2] at HPU2 hl2 ⊢
      have HK2 := Lib.hid hk2
      have HHB2 := Lib.hid (hb2.mono (Nat.le_of_lt hpw))
      have HS2 := Lib.hid (HW2.out.below hb2)
      have HO2 := Lib.hid (HO.out.below hb2)
      clear ho2 hrd2 hb2 HPU hk2
      go_wp2_with fail
      refine HPU2.out.mono ?_
      rintro e w3 ⟨v3, rfl, ho3, hb3⟩
      obtain ⟨A3, c3, rfl, hrd3, _⟩ := ho3.rd
      have hl3 : ([] ++ uv t ++ uv wd).length ≤ 20 := by rw [List.length_append, ← HK2.out]; have := uv_len10 (v := wd) (by omega); omega
      have HPU3 := Lib.hid (PutUvarint_any A3 c3 ([] ++ uv t ++ uv wd) C w3 hrd3 (by omega) (by omega))
      obtain ⟨k3, hk3⟩ : ∃ k, k = ([] ++ uv t ++ uv wd).length := ⟨_, rfl⟩
      rw [← hk3] at HPU3 hl3 ⊢
      have HK3 := Lib.hid hk3
      have HHB3 := Lib.hid (HHB2.out.trans (hb3.mono (by have := HS2.out.blk.lt; omega)))
      have HS3 := Lib.hid (HS2.out.below hb3)
      have HO3 := Lib.hid (HO2.out.below hb3)
      clear ho3 hrd3 hb3 HPU2 hk3 HS2 HO2
      go_wp2_with fail
      refine HPU3.out.mono ?_
      rintro e w4 ⟨v4, rfl, ho4, hb4⟩
      have hl4 : ([] ++ uv t ++ uv wd ++ uv C).length ≤ 30 := by rw [List.length_append, ← HK3.out]; have := uv_len10 (v := C) (by omega); omega
      have HHB4 := Lib.hid (HHB3.out.trans (hb4.mono (by have := HS3.out.blk.lt; omega)))
      have HS4 := Lib.hid (HS3.out.below hb4)
      have HO4 := Lib.hid (HO3.out.below hb4)
      have HNE := Lib.hid (rows_apart (w3 := w3) HO3.out ho4 (Nat.le_refl _))
      have HV4 := Lib.hid (ho4.lower (show p ≤ w3.heap.size by have := HS3.out.blk.lt; omega))
      have HWB := Lib.hid (WBytes_any p p v M w4 HS4.out (by omega))
      obtain ⟨R, hR⟩ : ∃ R, R = [] ++ uv t ++ uv wd ++ uv C := ⟨_, rfl⟩
      rw [← hR] at HV4 hl4 HF
      clear ho4 hb4 HPU3 HS3 HO3 hR
      go_wp2_with fail
      refine HWB.out.mono ?_
      rintro e w5 ⟨v5, rfl, ho5, hb5⟩
      obtain ⟨A5, c5, rfl, hrd5, hAn5, _⟩ := ho5.rd
      have HHB5 := Lib.hid (HHB4.out.trans (hb5.mono (by have := HS4.out.blk.lt; omega)))
      have HO5 := Lib.hid (HO4.out.below hb5)
      have HV5 := Lib.hid (HV4.out.below hb5)
      have hp5 : p ≤ w5.heap.size := by have := HS4.out.blk.lt; have := hb5.size; omega
      have hpk := pk_len M
      have hsum : R.length + (pk M).length ≤ 4000000000 := by omega
      have hsum2 : R.length + (pk M).length ≤ 1000 := by omega
      have HRD5 := Lib.hid hrd5
      have HA5 := Lib.hid hAn5
      have HSUM := Lib.hid hsum
      have HSUM2 := Lib.hid hsum2
      have HLLo := Lib.hid hLL
      have HP5 := Lib.hid hp5
      clear ho5 hrd5 hb5 HWB HS4 HO4 HV4 hAn5 hpk hsum hsum2 hLL hl4 hl3 hl2
      have HRL : Hid (R.length + (pk M).length = (R ++ pk M).length) := Lib.hid (List.length_append).symm
      go_wp2_with (first | (at_builtin; refine wpList_appB (.tmp 61) (.tmp 63) p v4 R A5 c5 (pk M) rfl rfl (by rfl) HV5.out (by rfl) HA5.out HRD5.out HSUM.out HP5.out ?_; intro v6 w6 ho6 hb6 hg6 ha6; have HV6 := Lib.hid ho6; have HHB6 := Lib.hid (HHB5.out.trans hb6); have HO6 := Lib.hid (World.ownsRow.kept HO5.out hg6 HNE.out); have HP6 := Lib.hid (Nat.le_trans HP5.out hg6.size); have HRD6 := Lib.hid (own_rd_of HO6.out); have HS3 : Hid ((R ++ pk M).length + L.length ≤ 4000000000) := Lib.hid (by rw [List.length_append]; have := HSUM2.out; have := HLLo.out; omega); clear ho6 hb6 hg6 ha6) | (at_builtin; refine wpList_appB (.tmp 64) (.tmp 65) p v6 (R ++ pk M) A6 c6 L rfl rfl (by rfl) HV6.out (by rfl) HRD6.out.2 HRD6.out.1 HS3.out HP6.out ?_; intro v7 w7 ho7 hb7 hg7 ha7; have HV7 := Lib.hid ho7; have HHB7 := Lib.hid (HHB6.out.trans hb7); clear ho7 hb7 hg7 ha7))
      go_ret
      exact ⟨v7, rfl, by rw [HF.out, ← HP.out]; exact HV7.out, by rw [← HP.out]; exact HB.out.trans HHB7.out⟩
end Go.Proofs.Ytnldnaogbadajaa.Tb

/- block.Pack, walked. -/
set_option linter.unusedVariables false
set_option linter.unusedSimpArgs false
namespace Go.Proofs.Ytnldnaogbadajaa.Tb
open Go.RowKit

set_option maxRecDepth 100000 in
set_option maxHeartbeats 3200000 in
theorem Pack_ok (A : Option Addr) (c : Nat) (xs : List Nat) (w : World) (hr : RdN w A xs) (hl : xs.length ≤ 128) (hx : Lt31 xs) :
    Calls Try.prog 36 #[.slice A xs.length c] w fun e w' => ∃ v', e = .returned (.tuple #[v', .int .i64 0]) ∧ OwnB w' w.heap.size v' (packL xs) ∧ Below w.heap.size w w' := by
  have HCK := Lib.hid (check_ok A c xs w hr hl hx)
  have HBE := Lib.hid (best_any A c xs w hr hl hx)
  have HEN := Lib.hid (fun (W : World) (hb : Below w.heap.size w W) => encode_any A c xs (bestW xs) W (hr.below hb) hl hx (bestW_lt xs))
  have HPK : Hid (packL xs = blkW (bestW xs) xs) := Lib.hid rfl
  obtain ⟨n, hn⟩ : ∃ n, n = xs.length := ⟨_, rfl⟩
  obtain ⟨b, hb⟩ : ∃ b, b = bestW xs := ⟨_, rfl⟩
  rw [← hn] at HCK HBE HEN ⊢
  rw [← hb] at HBE HEN HPK
  clear hr hx hn hb hl
  go_enter Try.func36, Try.ntmps36
  go_wp2_with fail
  refine HCK.out.mono ?_
  rintro e w1 ⟨rfl, rfl⟩
  go_wp2_with fail
  refine HBE.out.mono ?_
  rintro e w2 ⟨rfl, hb2⟩
  have HB2 := Lib.hid hb2
  clear hb2
  go_wp2_with fail
  refine (HEN.out w2 HB2.out).mono ?_
  rintro e w3 ⟨v3, rfl, ho3, hb3⟩
  have HV := Lib.hid (ho3.lower HB2.out.size)
  have HB3 := Lib.hid (HB2.out.trans (hb3.mono HB2.out.size))
  clear ho3 hb3
  go_wp2
  go_ret2
  exact ⟨v3, rfl, by rw [HPK.out]; exact HV.out, HB3.out⟩
end Go.Proofs.Ytnldnaogbadajaa.Tb
