/- Walks and plain laws: tokens: streams. -/
import Derived.Test.YtnldnaogbadajaaM6
import Derived.Test.YtnldnaogbadajaaM2
import Derived.Test.YtnldnaogbadajaaRows
import Derived.Deep.SlicePairs
import Derived.Lib.SmallJoins
import Derived.ProofKit
import Derived.OpenShut
import Derived.Carry
import Derived.ChangeSlices

/- A stream in memory; plain: blocks of 64. -/
set_option linter.unusedVariables false
set_option linter.unusedSimpArgs false
namespace Go.Proofs.Ytnldnaogbadajaa.Tb
open Go.RowKit

/-! ### plain -/
def chunk (xs : List Nat) (k : Nat) : List Nat := (xs.drop (64 * k)).take 64
def nblk (n : Nat) : Nat := (n + 63) / 64
def partsK (f : List Nat → List Nat × Nat) (xs : List Nat) (k : Nat) : List (List Nat × Nat) := (List.range k).map fun j => f (chunk xs j)
theorem partsK_succ (f : List Nat → List Nat × Nat) (xs : List Nat) (k : Nat) : partsK f xs (k + 1) = partsK f xs k ++ [f (chunk xs k)] := by simp [partsK, List.range_succ]
theorem partsK_len (f : List Nat → List Nat × Nat) (xs : List Nat) (k : Nat) : (partsK f xs k).length = k := by simp [partsK]
theorem chunk_len (xs : List Nat) (k : Nat) : (chunk xs k).length = min 64 (xs.length - 64 * k) := by simp [chunk]
theorem chunk_get (xs : List Nat) (k j : Nat) (h : j < 64) : (chunk xs k).getD j 0 = xs.getD (64 * k + j) 0 := by
  unfold chunk
  rw [List.getD_eq_getElem?_getD, List.getElem?_take_of_lt h, List.getElem?_drop, ← List.getD_eq_getElem?_getD]
theorem chunk_mem {xs : List Nat} {k x : Nat} (h : x ∈ chunk xs k) : x ∈ xs := List.mem_of_mem_drop (List.mem_of_mem_take h)
def pk0 (l : List Nat) : List Nat × Nat := (packL l, 0)
def pk1 (ls l : List Nat) : List Nat × Nat := (pk (encB ls l), (encB ls l).length)

/-! ### parts in memory -/
structure Pt where
  v : Value
  b : List Nat
  n : Nat
def Pt.pr (t : Pt) : List Nat × Nat := (t.b, t.n)
def fieldsP (t : Pt) : List Value := [t.v, .int .i64 t.n]
def cellsP (L : List Pt) : List Value := L.flatMap fieldsP
theorem cellsP_cons (x : Pt) (L : List Pt) : cellsP (x :: L) = fieldsP x ++ cellsP L := by simp [cellsP]
theorem cellsP_app (L M : List Pt) : cellsP (L ++ M) = cellsP L ++ cellsP M := by simp [cellsP]
theorem cellsP_len : ∀ L : List Pt, (cellsP L).length = L.length * 2
  | [] => rfl
  | x :: L => by rw [cellsP_cons, List.length_append, cellsP_len L, List.length_cons]; simp only [fieldsP, List.length_cons, List.length_nil]; omega
theorem cellsP_get : ∀ (L : List Pt) (j : Nat) (t : Pt), L[j]? = some t → (cellsP L)[j * 2]? = some t.v ∧ (cellsP L)[j * 2 + 1]? = some (.int .i64 t.n)
  | [], j, t, h => by simp at h
  | x :: L, 0, t, h => by
    simp only [List.getElem?_cons_zero, Option.some.injEq] at h
    subst h
    exact ⟨rfl, rfl⟩
  | x :: L, j + 1, t, h => by
    rw [List.getElem?_cons_succ] at h
    obtain ⟨h1, h2⟩ := cellsP_get L j t h
    rw [cellsP_cons]
    constructor
    · rw [List.getElem?_append_right (by simp [fieldsP]; omega), show (fieldsP x).length = 2 from rfl, show (j + 1) * 2 - 2 = j * 2 by omega]; exact h1
    · rw [List.getElem?_append_right (by simp [fieldsP]; omega), show (fieldsP x).length = 2 from rfl, show (j + 1) * 2 + 1 - 2 = j * 2 + 1 by omega]; exact h2
theorem infoP : (Try.prog.info? 61).map (fun i => (i.zero, i.size, i.bytes)) = some (some (.agg #[.slice none 0 0, .int .i64 0]), 2, 32) := by kernel_rfl
def OwnP (w : World) (base : Nat) (v : Value) (ts : List Pt) : Prop := w.ownsRow base 61 2 v ts.length (cellsP ts)
theorem OwnP.nil (w : World) (base : Nat) : OwnP w base (.slice none 0 0) [] := World.ownsRow_nil _ _ _ _
theorem own_ne {w : World} {base n : Nat} {e : TypeId} {size : Nat} {v : Value} {xs : List Value} (h : w.ownsRow base e size v n xs) {g : Nat} {cs : Array Value} {t : TypeId} {fr : Nat × Nat} (hg : w.heap[g]? = some (.cells cs t fr)) (hne : e ≠ t) : v.ownBlock ≠ some g := by
  rcases h.2 with ⟨rfl, _⟩ | ⟨g', cap, cur, rfl, _, hh, _⟩
  · simp [Value.ownBlock]
  · intro he
    have : g' = g := by simpa [Value.ownBlock] using he
    subst this
    rw [hh] at hg
    injection hg with hg
    injection hg with _ ht
    exact hne ht
theorem own_types_ne {w : World} {b b' : Nat} {e e' : TypeId} {s s' n n' : Nat} {v v' : Value} {xs xs' : List Value} (h : w.ownsRow b e s v n xs) (h' : w.ownsRow b' e' s' v' n' xs') (hne : e ≠ e') : v.ownBlock = none ∨ v.ownBlock ≠ v'.ownBlock := by
  rcases h'.2 with ⟨rfl, _⟩ | ⟨g, cap, cur, rfl, _, hh, _⟩
  · rcases h.2 with ⟨rfl, _⟩ | ⟨g', cap', cur', rfl, _, hh', _⟩
    · exact .inl rfl
    · exact .inr (by simp [Value.ownBlock])
  · exact .inr (own_ne h hh hne)
theorem wpList_appP {w : World} {ops : Array Oper} {rest : List Oper} {o : Oper} {a : Act} {Q : Exit → Act → World → Prop} (s x : Operand) (base : Nat) (v : Value) (ts : List Pt) (ad : Addr) (c : Nat) (t : Pt) (hgd : o.guard = none)
    (ho : o.op = .call { callee := .builtin .append, args := #[s, x], argTypes := #[46, 46] })
    (hs : a.eval s = v) (hown : OwnP w base v ts) (hx : a.eval x = .slice (some ad) 1 c) (hr : ∀ j u, (fieldsP t)[j]? = some u → w.cell? (ad.add j) = some u) (h1 : ∀ u ∈ cellsP [t], u.oneCell' = true) (hm : ts.length + 1 ≤ 1000000) (hbase : base ≤ w.heap.size)
    (h : ∀ v' w', OwnP w' base v' (ts ++ [t]) → w.grownBy w' v.ownBlock → wpList Try.prog ops Q rest (a.put o.dst v') w') : wpList Try.prog ops Q (o :: rest) a w := by
  obtain ⟨i0, hi0, hz0, hz1, hz2⟩ := info_parts infoP
  refine wpList_append_own w hgd s x _ ho base 61 i0 _ 2 32 Try.underlying46 hi0 hz0 hz1 hz2 rfl (by decide) v ts.length (cellsP ts) hs hown ad 1 c (cellsP [t]) hx (cellsP_len [t]) (by simpa [cellsP] using hr) h1 (by simp only [maxLen]; omega) (by omega) hbase fun v' w' h2 h3 _ => h v' w' ?_ h3
  unfold OwnP
  rw [List.length_append, cellsP_app]
  exact h2

/-- A stream: its block, and what it owns. -/
structure StrSt (w : World) (B p n kind : Nat) (vl : Value) (ls : List Nat) (v : Value) (ts : List Pt) : Prop where
  blk : Blk w p 48 #[.int .i64 n, .int .i64 kind, vl, v, .int .i64 0, .slice none 0 0]
  lens : OwnN w B vl ls
  row : OwnP w B v ts
  bs : ∀ t ∈ ts, OwnB w B t.v t.b
  low : B ≤ p
theorem StrSt.below {w w' : World} {B p n kind : Nat} {vl : Value} {ls : List Nat} {v : Value} {ts : List Pt} (h : StrSt w B p n kind vl ls v ts) (hb : Below w.heap.size w w') : StrSt w' B p n kind vl ls v ts :=
  ⟨(hb.block p h.blk.lt).trans h.blk, h.lens.below hb, ownsBelow h.row hb, fun t ht => (h.bs t ht).below hb, h.low⟩
theorem ownB_one {w : World} {B : Nat} {v : Value} {xs : List Nat} (h : OwnB w B v xs) : v.oneCell' = true := by
  obtain ⟨A, c, rfl, _⟩ := h.rd
  rfl
/-- One part more. -/
theorem StrSt.app {w w2 : World} {B p n kind : Nat} {vl : Value} {ls : List Nat} {v v2 : Value} {ts : List Pt} {t : Pt} {o : Obj} (h : StrSt w B p n kind vl ls v ts) (ht : OwnB w B t.v t.b) (ho : OwnP w2 B v2 (ts ++ [t])) (hg : (w.alloc o).grownBy w2 v.ownBlock) :
    StrSt (w2.setCell ⟨p, 3, none⟩ v2) B p n kind vl ls v2 (ts ++ [t]) := by
  have ha := h.below (bel9 w o)
  have hta := ht.below (bel9 w o)
  have hne := own_ne ha.row ha.blk (by decide)
  have hb2 : Blk w2 p 48 #[.int .i64 n, .int .i64 kind, vl, v, .int .i64 0, .slice none 0 0] := (hg.block p ha.blk.lt (Ne.symm hne)).trans ha.blk
  have hk := fun {u : Value} {xs : List Nat} (hu : OwnB (w.alloc o) B u xs) => (World.ownsRow.kept hu hg (own_types_ne hu ha.row (by decide)) : OwnB w2 B u xs)
  have hl2 : OwnN w2 B vl ls := World.ownsRow.kept ha.lens hg (own_types_ne ha.lens ha.row (by decide))
  have hgs := grown_setCell w2 p 3 v2
  refine ⟨?_, World.ownsRow.kept hl2 hgs (.inr (own_ne hl2 hb2 (by decide))), World.ownsRow.kept ho hgs (.inr (own_ne ho hb2 (by decide))), fun u hu => ?_, h.low⟩
  · have h9 := hb2.set_ 3 v2
    simpa using h9
  · have hu2 : OwnB w2 B u.v u.b := by
      rcases List.mem_append.1 hu with hu | hu
      · exact hk (ha.bs u hu)
      · have e := List.mem_singleton.1 hu
        subst e
        exact hk hta
    exact World.ownsRow.kept hu2 hgs (.inr (own_ne hu2 hb2 (by decide)))
theorem RdN.sub {w : World} {b off : Nat} {xs : List Nat} (h : ∀ j, j < xs.length → w.cell? ⟨b, off + j, none⟩ = some (.int .i64 (xs.getD j 0 : Nat))) (k : Nat) : RdN w (some ⟨b, off + 64 * k, none⟩) (chunk xs k) := fun _ => ⟨b, _, rfl, fun j hj => by
  rw [chunk_len] at hj
  rw [chunk_get xs k j (by omega), Nat.add_assoc]
  exact h _ (by omega)⟩
end Go.Proofs.Ytnldnaogbadajaa.Tb

/- tokens.packed, walked. -/
set_option linter.unusedVariables false
set_option linter.unusedSimpArgs false
namespace Go.Proofs.Ytnldnaogbadajaa.Tb
open Go.RowKit

theorem new_stream (w : World) (n kind : Nat) : StrSt (w.alloc (.cells #[.int .i64 n, .int .i64 kind, .slice none 0 0, .slice none 0 0, .int .i64 0, .slice none 0 0] 48)) w.heap.size w.heap.size n kind (.slice none 0 0) [] (.slice none 0 0) [] :=
  ⟨heap_alloc_new _ _, OwnN.nil _ _, OwnP.nil _ _, fun t h => by simp at h, Nat.le_refl _⟩
theorem part_src (w : World) (u : Value) (b : List Nat) (m : Nat) (t : TypeId) : ∀ j x, (fieldsP ⟨u, b, m⟩)[j]? = some x → (w.alloc (.cells #[u, .int .i64 m] t)).cell? ((⟨w.heap.size, 0, none⟩ : Addr).add j) = some x := by
  intro j x hx
  rw [addr_add, Nat.zero_add]
  have hj : j < 2 := (List.getElem?_eq_some_iff.1 hx).1
  rcases (show j = 0 ∨ j = 1 by omega) with rfl | rfl <;> (simp [fieldsP] at hx; subst hx; simp)
theorem part_one {t : Pt} (h : t.v.oneCell' = true) : ∀ u ∈ cellsP [t], u.oneCell' = true := by
  intro u hu
  simp only [cellsP, List.flatMap_cons, List.flatMap_nil, List.append_nil, fieldsP, List.mem_cons, List.not_mem_nil, or_false] at hu
  rcases hu with rfl | rfl
  · exact h
  · rfl
theorem StrSt.mid {w w2 : World} {B p n kind : Nat} {vl : Value} {ls : List Nat} {v : Value} {ts : List Pt} {o : Obj} (h : StrSt w B p n kind vl ls v ts) (hg : (w.alloc o).grownBy w2 v.ownBlock) :
    w2.cell? ⟨p, 3, none⟩ = some v ∧ w2.frozen? ⟨p, 3, none⟩ = false ∧ p < w2.heap.size := by
  have ha := h.below (bel9 w o)
  have hne := own_ne ha.row ha.blk (by decide)
  have hb2 : Blk w2 p 48 #[.int .i64 n, .int .i64 kind, vl, v, .int .i64 0, .slice none 0 0] := (hg.block p ha.blk.lt (Ne.symm hne)).trans ha.blk
  exact ⟨hb2.cell 3, hb2.free 3, hb2.lt⟩
theorem StrSt.bel {w w2 : World} {B p n kind : Nat} {vl v2 : Value} {ls : List Nat} {v : Value} {ts : List Pt} {o : Obj} {w0 : World} (h : StrSt w B p n kind vl ls v ts) (hb : Below B w0 w) (hB : B ≤ w.heap.size) (hg : (w.alloc o).grownBy w2 v.ownBlock) : Below B w0 (w2.setCell ⟨p, 3, none⟩ v2) := by
  have ha := h.below (bel9 w o)
  have hb1 := hb.alloc hB o
  refine (hb1.trans (growsBel ha.row (by simp; omega) hg)).setCell (p := ⟨p, 3, none⟩) h.low v2

set_option maxRecDepth 100000 in
set_option maxHeartbeats 6400000 in
theorem packed_any (A : Option Addr) (c : Nat) (xs : List Nat) (w : World) (hr : RdN w A xs) (hl : xs.length ≤ 4096) (hc : xs.length ≤ c) (hx : Lt31 xs) :
    Calls Try.prog 23 #[.slice A xs.length c] w fun e w' => ∃ ts v, e = .returned (.pointer (some ⟨w.heap.size, 0, none⟩)) ∧ StrSt w' w.heap.size w.heap.size xs.length 0 (.slice none 0 0) [] v ts ∧ ts.map Pt.pr = partsK pk0 xs (nblk xs.length) ∧ Below w.heap.size w w' := by
  have HA := Lib.hid hr
  have HX := Lib.hid hx
  obtain ⟨n, hn⟩ : ∃ n, n = xs.length := ⟨_, rfl⟩
  rw [← hn] at hl hc ⊢
  have HN := Lib.hid hn
  have HNS := Lib.hid (new_stream w n 0)
  obtain ⟨m, hm⟩ : ∃ m, m = nblk n := ⟨_, rfl⟩
  have HM := Lib.hid hm
  have hm1 : 64 * m < n + 64 ∧ n ≤ 64 * m := by rw [hm]; unfold nblk; omega
  clear hr hx hn hm
  go_enter Try.func23, Try.ntmps23
  go_wp2
  have HB0 := Lib.hid (bel9 w (.cells #[.int .i64 n, .int .i64 0, .slice none 0 0, .slice none 0 0, .int .i64 0, .slice none 0 0] 48))
  go_loopw [4] (fun s wr => ∃ (k : Nat) (ts : List Pt) (v : Value), s = .int .i64 (64 * k : Nat) ∧ k ≤ m ∧ Hid (ts.length = k) ∧ Hid (StrSt wr w.heap.size w.heap.size n 0 (.slice none 0 0) [] v ts) ∧ Hid (ts.map Pt.pr = partsK pk0 xs k) ∧ Hid (Below w.heap.size w wr)) (fun s _ => 64 * m - (intOf s).toNat)
  case atStart => exact ⟨0, [], .slice none 0 0, rfl, by omega, Lib.hid rfl, HNS, Lib.hid rfl, HB0⟩
  case round =>
    obtain ⟨k, ts, v, rfl, hkm, HTL, HS, HTS, HB⟩ := hrel
    have hsz := HB.out.size
    by_cases hlt : 64 * k < n
    · have t1 : ((64 * k : Nat) : Int) < (n : Int) := by omega
      obtain ⟨b1, o1, e1, cc⟩ := (HA.out.below HB.out) (by rw [← HN.out]; omega)
      have HSUB := Lib.hid (RdN.sub cc k)
      have HPAK := Lib.hid (Pack_ok (some ⟨b1, o1 + 64 * k, none⟩) (c - 64 * k) (chunk xs k) wr HSUB.out (by rw [chunk_len]; omega) (fun x h => HX.out x (chunk_mem h)))
      rw [chunk_len, ← HN.out] at HPAK
      subst e1
      clear cc
      have emn : (min ((64 : Int) * k + 64) (n : Int)).toNat - 64 * k = min 64 (n - 64 * k) := by omega
      have EMN := Lib.hid emn
      have HPR : Hid (partsK pk0 xs (k + 1) = partsK pk0 xs k ++ [(packL (chunk xs k), 0)]) := Lib.hid (partsK_succ _ _ _)
      clear emn
      go_wp2_with fail
      rw [EMN.out]
      refine HPAK.out.mono ?_
      rintro e w3 ⟨u, rfl, hu3, hb3⟩
      obtain ⟨Au, cu, rfl, _⟩ := hu3.rd
      obtain ⟨lu, hlu⟩ : ∃ lu, lu = (packL (chunk xs k)).length := ⟨_, rfl⟩
      rw [← hlu] at hu3 ⊢
      clear hlu
      obtain ⟨u, hu⟩ : ∃ u, u = Value.slice Au lu cu := ⟨_, rfl⟩
      rw [← hu] at hu3
      have HU := Lib.hid (hu3.lower hsz)
      have HS3 := Lib.hid (HS.out.below hb3)
      have HB3 := Lib.hid (HB.out.trans (hb3.mono hsz))
      have hsz3 := HB3.out.size
      have c3 : w3.cell? ⟨w.heap.size, 3, none⟩ = some v := HS3.out.blk.cell 3
      have f3 := HS3.out.blk.free 3
      have HSRC := Lib.hid (part_src w3 u (packL (chunk xs k)) 0 61)
      have HONE : Hid (∀ x ∈ cellsP [⟨u, packL (chunk xs k), 0⟩], x.oneCell' = true) := Lib.hid (part_one (ownB_one hu3))
      have HROW := Lib.hid (StrSt.row (HS3.out.below (bel9 w3 (.cells #[u, .int .i64 (0 : Nat)] 61))))
      have HLE : Hid (ts.length + 1 ≤ 1000000) := Lib.hid (by rw [HTL.out]; omega)
      subst hu
      clear hu3 hb3 HPAK HSUB
      go_wp2_with (at_builtin; refine wpList_appP (.tmp 33) (.tmp 36) w.heap.size v ts ⟨w3.heap.size, 0, none⟩ 1 ⟨.slice Au lu cu, packL (chunk xs k), 0⟩ rfl rfl (by rfl) HROW.out (by rfl) HSRC.out HONE.out HLE.out (by have := hsz3; simp; omega) ?_; intro v4 w4 ho4 hg4; obtain ⟨g4, c5, rfl, _, _⟩ := World.ownsRow.form ho4 (by simp); obtain ⟨L4, hL4⟩ : ∃ L4, L4 = (ts ++ [(⟨.slice Au lu cu, packL (chunk xs k), 0⟩ : Pt)]).length := ⟨_, rfl⟩; rw [← hL4] at ho4 ⊢; clear hL4; have HS4 := Lib.hid (HS3.out.app (t := ⟨.slice Au lu cu, packL (chunk xs k), 0⟩) HU.out ho4 hg4); have HB4 := Lib.hid (HS3.out.bel (v2 := .slice (some ⟨g4, 0, none⟩) L4 c5) HB3.out hsz3 hg4); obtain ⟨c4, f4, l4⟩ := HS3.out.mid hg4; clear ho4 hg4)
      go_roundw
      case measure => simp [intOf]; omega
      case rel => exact ⟨k + 1, ts ++ [⟨.slice Au lu cu, packL (chunk xs k), 0⟩], _, by go_num, by omega, Lib.hid (by rw [List.length_append, HTL.out]; rfl), HS4, Lib.hid (by rw [List.map_append, HTS.out, HPR.out]; rfl), HB4⟩
    · have hk : k = m := by omega
      have HF : Hid (ts.map Pt.pr = partsK pk0 xs (nblk n)) := Lib.hid (by rw [HTS.out, hk, HM.out])
      clear hk
      go_wp2
      go_ret
      exact ⟨ts, v, rfl, HS.out, HF.out, HB.out⟩
end Go.Proofs.Ytnldnaogbadajaa.Tb

/- tokens.coded, walked: the counts. -/
set_option linter.unusedVariables false
set_option linter.unusedSimpArgs false
namespace Go.Proofs.Ytnldnaogbadajaa.Tb
open Go.RowKit

/-! ### plain -/
def mxL (xs : List Nat) : Nat := xs.foldl (fun m v => max m (v + 1)) 0
def cntS (cs : List Nat) (v : Nat) : List Nat := cs.set v (cs.getD v 0 + 1)
def cntL (xs : List Nat) : List Nat := xs.foldl cntS (List.replicate (mxL xs) 0)
theorem mx_ge : ∀ (xs : List Nat) (m : Nat), m ≤ xs.foldl (fun m v => max m (v + 1)) m ∧ ∀ x ∈ xs, x < xs.foldl (fun m v => max m (v + 1)) m
  | [], m => by simp
  | y :: xs, m => by
    obtain ⟨h1, h2⟩ := mx_ge xs (max m (y + 1))
    rw [List.foldl_cons]
    refine ⟨by omega, fun x hx => ?_⟩
    rcases List.mem_cons.1 hx with rfl | hx
    · omega
    · exact h2 x hx
theorem mx_le {M : Nat} : ∀ (xs : List Nat) (m : Nat), m ≤ M → (∀ x ∈ xs, x < M) → xs.foldl (fun m v => max m (v + 1)) m ≤ M
  | [], m, h, _ => h
  | y :: xs, m, h, hx => by
    rw [List.foldl_cons]
    exact mx_le xs _ (by have := hx y (by simp); omega) (fun x h => hx x (List.mem_cons_of_mem _ h))
theorem mxL_lt {xs : List Nat} {x : Nat} (h : x ∈ xs) : x < mxL xs := (mx_ge xs 0).2 x h
theorem mxL_le {xs : List Nat} {M : Nat} (h : ∀ x ∈ xs, x < M) : mxL xs ≤ M := mx_le xs 0 (Nat.zero_le _) h
theorem mxL_snoc (xs : List Nat) (x : Nat) : mxL (xs ++ [x]) = max (mxL xs) (x + 1) := by simp [mxL]
theorem cntS_len (cs : List Nat) (v : Nat) : (cntS cs v).length = cs.length := by simp [cntS]
theorem cnts_len : ∀ (xs cs : List Nat), (xs.foldl cntS cs).length = cs.length
  | [], _ => rfl
  | x :: xs, cs => by rw [List.foldl_cons, cnts_len xs, cntS_len]
theorem cntS_get (cs : List Nat) (v s : Nat) (h : v < cs.length) : (cntS cs v).getD s 0 = cs.getD s 0 + if v = s then 1 else 0 := by
  unfold cntS
  by_cases e : v = s
  · subst e
    rw [if_pos rfl, List.getD_eq_getElem?_getD, List.getElem?_set_self h]
    rfl
  · rw [if_neg e, List.getD_eq_getElem?_getD, List.getElem?_set_ne e, ← List.getD_eq_getElem?_getD]
    rfl
theorem cnts_get (s : Nat) : ∀ (xs cs : List Nat), (∀ x ∈ xs, x < cs.length) → (xs.foldl cntS cs).getD s 0 = cs.getD s 0 + (xs.filter fun x => decide (x = s)).length
  | [], cs, _ => by simp
  | x :: xs, cs, h => by
    rw [List.foldl_cons, cnts_get s xs _ (fun y hy => by rw [cntS_len]; exact h y (List.mem_cons_of_mem _ hy)), cntS_get cs x s (h x (by simp)), List.filter_cons]
    by_cases e : x = s
    · rw [if_pos e, if_pos (by simpa using e), List.length_cons]; omega
    · rw [if_neg e, if_neg (by simpa using e)]; omega
theorem cntL_len (xs : List Nat) : (cntL xs).length = mxL xs := by unfold cntL; rw [cnts_len, List.length_replicate]
theorem cntL_get (xs : List Nat) (s : Nat) : (cntL xs).getD s 0 = (xs.filter fun x => decide (x = s)).length := by
  unfold cntL
  rw [cnts_get s xs _ (fun x hx => by rw [List.length_replicate]; exact mxL_lt hx), List.getD_eq_getElem?_getD, List.getElem?_replicate]
  split <;> simp
theorem cntL_le (xs : List Nat) : ∀ c ∈ cntL xs, c ≤ xs.length := getD_mem_le fun s _ => by rw [cntL_get]; exact List.length_filter_le _ _
theorem cntL_pos {xs : List Nat} {x : Nat} (h : x ∈ xs) : 0 < (cntL xs).getD x 0 := by
  rw [cntL_get]
  exact List.length_pos_of_mem (List.mem_filter.2 ⟨h, by simp⟩)
def lensL (xs : List Nat) : List Nat := lenL (cntL xs)
structure Lt1024 (xs : List Nat) : Prop where
  lt : ∀ x ∈ xs, x < 1024
theorem lens_ok {xs : List Nat} (h : Lt1024 xs) : LenSpec (cntL xs) (lensL xs) := lenL_spec _ (by rw [cntL_len]; exact mxL_le h.lt)
theorem lens_lenOk {xs : List Nat} (h : Lt1024 xs) : LenOk (lensL xs) := lenOk_of (lens_ok h) (by rw [cntL_len]; exact mxL_le h.lt)
theorem lens_len {xs : List Nat} : (lensL xs).length = mxL xs := by unfold lensL; rw [lenL_len, cntL_len]
theorem lens_sym {xs l : List Nat} (h : Lt1024 xs) (hl : ∀ x ∈ l, x ∈ xs) : SymOk (lensL xs) l := ⟨fun s hs => by
  have h1 := mxL_lt (hl s hs)
  refine ⟨by rw [lens_len]; exact h1, ((lens_ok h).pos s (by rw [cntL_len]; exact h1)).2 (cntL_pos (hl s hs))⟩⟩

theorem Lengths_any (A : Option Addr) (c : Nat) (cs : List Nat) (w : World) (hr : RdN w A cs) (hl : cs.length ≤ 1024) (hx : Le4096 cs) :
    Calls Try.prog 37 #[.slice A cs.length c, .int .i64 15] w fun e w' => ∃ v', e = .returned (.tuple #[v', .int .i64 0]) ∧ OwnN w' w.heap.size v' (lenL cs) ∧ Below w.heap.size w w' := by
  by_cases h : (leavesL cs).length < 2
  · exact Lengths_few A c cs w hr hl hx h
  · exact Lengths_many A c cs w hr hl hx h

theorem getN_cell {w : World} {B g c : Nat} {xs : List Nat} (h : OwnN w B (.slice (some ⟨g, 0, none⟩) xs.length c) xs) {n : Nat} (e : xs.length = n) {j : Nat} (hj : j < n) : w.cell? ⟨g, j, none⟩ = some (.int .i64 (xs.getD j 0 : Nat)) := ownN_cell h (by omega)

/-- The stream of kind 1 when its lengths are stored. -/
theorem StrSt.lens_set {w : World} {B p n : Nat} {v : Value} {ls : List Nat} (hb : Blk w p 48 #[.int .i64 n, .int .i64 (1 : Nat), .slice none 0 0, .slice none 0 0, .int .i64 0, .slice none 0 0]) (hB : B ≤ p) (ho : OwnN w B v ls) : StrSt (w.setCell ⟨p, 2, none⟩ v) B p n 1 v ls (.slice none 0 0) [] :=
  ⟨by have h9 := hb.set_ 2 v; simpa using h9, World.ownsRow.kept ho (grown_setCell w p 2 v) (.inr (own_ne ho hb (by decide))), OwnP.nil _ _, fun t h => by simp at h, hB⟩

set_option maxRecDepth 100000 in
set_option maxHeartbeats 12800000 in
theorem coded_any (A : Option Addr) (c : Nat) (xs : List Nat) (w : World) (hr : RdN w A xs) (hl : xs.length ≤ 4096) (hc : xs.length ≤ c) (hx : Lt1024 xs) :
    Calls Try.prog 24 #[.slice A xs.length c] w fun e w' => ∃ p ts v vl, e = .returned (.pointer (some ⟨p, 0, none⟩)) ∧ StrSt w' w.heap.size p xs.length 1 vl (lensL xs) v ts ∧ ts.map Pt.pr = partsK (pk1 (lensL xs)) xs (nblk xs.length) ∧ Below w.heap.size w w' := by
  have HA := Lib.hid hr
  have HX := Lib.hid hx
  have HLO := Lib.hid (lens_lenOk hx)
  have HMX : Hid (mxL xs ≤ 1024) := Lib.hid (mxL_le hx.lt)
  have HCL := Lib.hid (cntL_le xs)
  have HCN : Hid (cntL xs = xs.foldl cntS (List.replicate (mxL xs) 0)) := Lib.hid rfl
  obtain ⟨n, hn⟩ : ∃ n, n = xs.length := ⟨_, rfl⟩
  rw [← hn] at hl hc HCL ⊢
  have HN := Lib.hid hn
  obtain ⟨m, hm⟩ : ∃ m, m = nblk n := ⟨_, rfl⟩
  have HM := Lib.hid hm
  have hm1 : 64 * m < n + 64 ∧ n ≤ 64 * m := by rw [hm]; unfold nblk; omega
  clear hr hx hn hm
  go_enter Try.func24, Try.ntmps24
  go_wp2
  go_loop [3, 16] (fun a s => ∃ (t q : Nat), s = .int .i64 t ∧ a = .int .i64 q ∧ t ≤ n ∧ q ≤ 1024 ∧ Hid (q = mxL (xs.take t))) (fun _ s => n - (intOf s).toNat)
  case atStart => exact ⟨0, 0, rfl, rfl, by omega, by omega, Lib.hid rfl⟩
  case round =>
    obtain ⟨t, q, rfl, rfl, ht, hq, HQ⟩ := hrel
    by_cases hlt : t < n
    · obtain ⟨b1, o1, e1, cc⟩ := HA.out (by rw [← HN.out]; omega)
      have ck := cc t (by rw [← HN.out]; exact hlt)
      have htk : xs.take (t + 1) = xs.take t ++ [xs.getD t 0] := take_snoc 0 xs t (by rw [← HN.out]; exact hlt)
      have hx1 := HX.out.lt (xs.getD t 0) (by rw [List.getD_eq_getElem?_getD, List.getElem?_eq_getElem (by rw [← HN.out]; exact hlt)]; exact List.getElem_mem _)
      have hmx : mxL (xs.take (t + 1)) = max q (xs.getD t 0 + 1) := by rw [htk, mxL_snoc, ← HQ.out]
      have HMX2 := Lib.hid hmx
      obtain ⟨x, hxx⟩ : ∃ x, x = xs.getD t 0 := ⟨_, rfl⟩
      rw [← hxx] at ck hx1 HMX2
      clear cc htk hmx hxx
      subst e1
      go_wp2
      go_round
      case measure => simp [intOf]; omega
      case rel => exact ⟨t + 1, max q (x + 1), by go_num, by go_num, by omega, by omega, Lib.hid HMX2.out.symm⟩
    · have hall : xs.take t = xs := List.take_of_length_le (by rw [← HN.out]; omega)
      rw [hall] at HQ
      have hq2 := HQ.out
      rw [← hq2] at HCN
      have HCLN : Hid ((cntL xs).length = q) := Lib.hid (by rw [cntL_len, ← hq2])
      clear hall hq2 HMX
      have hmk := make_N q (by omega)
      have HNW := Lib.hid (ownN_new w q (by omega))
      have HBW := Lib.hid (bel9 w (.cells (nvs (List.replicate q 0)).toArray 3))
      have HALT : Hid (0 < n → ∀ b, A = some b → b.block < w.heap.size) := Lib.hid (fun h0 => HA.out.lt (by rw [← HN.out]; exact h0))
      have HXQ : Hid (∀ x ∈ xs, x < q) := Lib.hid (fun x h => by rw [HQ.out]; exact mxL_lt h)
      clear HQ
      go_wp2
      go_loopw [29] (fun s wr => ∃ (t : Nat) (cs : List Nat), s = .int .i64 t ∧ t ≤ n ∧ Hid (cs = (xs.take t).foldl cntS (List.replicate q 0)) ∧ Hid (cs.length = q) ∧ Hid (∀ s, cs.getD s 0 ≤ t) ∧ Hid (OwnN wr w.heap.size (.slice (some ⟨w.heap.size, 0, none⟩) q q) cs) ∧ Hid (Below w.heap.size w wr)) (fun s _ => n - (intOf s).toNat)
      case atStart => exact ⟨0, List.replicate q 0, rfl, by omega, Lib.hid rfl, Lib.hid (by simp), Lib.hid (fun s => by rw [getD_rep]; exact Nat.le_refl _), HNW, HBW⟩
      case round =>
        obtain ⟨t, cs, rfl, ht, HCS, HCQ, HCT, HO, HB⟩ := hrel
        by_cases hlt : t < n
        · obtain ⟨b1, o1, e1, cc⟩ := (HA.out.below HB.out) (by rw [← HN.out]; omega)
          have hab := HALT.out (by omega) _ e1
          have ck := cc t (by rw [← HN.out]; exact hlt)
          have htk : xs.take (t + 1) = xs.take t ++ [xs.getD t 0] := take_snoc 0 xs t (by rw [← HN.out]; exact hlt)
          have hx1 := HXQ.out (xs.getD t 0) (by rw [List.getD_eq_getElem?_getD, List.getElem?_eq_getElem (by rw [← HN.out]; exact hlt)]; exact List.getElem_mem _)
          have hst : (xs.take (t + 1)).foldl cntS (List.replicate q 0) = cntS cs (xs.getD t 0) := by rw [htk, List.foldl_append, ← HCS.out]; rfl
          obtain ⟨p, hp⟩ : ∃ p, p = xs.getD t 0 := ⟨_, rfl⟩
          rw [← hp] at ck hx1 hst
          have HST : Hid ((xs.take (t + 1)).foldl cntS (List.replicate q 0) = cs.set p (cs.getD p 0 + 1)) := Lib.hid hst
          have hle := HCT.out p
          have HCT2 : Hid (∀ s, (cs.set p (cs.getD p 0 + 1)).getD s 0 ≤ t + 1) := Lib.hid (fun s => by
            have h1 := cntS_get cs p s (by rw [HCQ.out]; exact hx1)
            have h2 := HCT.out s
            unfold cntS at h1
            rw [h1]
            split <;> omega)
          have hc0 : wr.cell? ⟨w.heap.size, p, none⟩ = some (.int .i64 (cs.getD p 0 : Nat)) := by
            have h9 := HO.out
            rw [← HCQ.out] at h9
            exact ownN_cell h9 (by rw [HCQ.out]; exact hx1)
          have hf0 : wr.frozen? ⟨w.heap.size, p, none⟩ = false := by
            have h9 := HO.out
            rw [← HCQ.out] at h9
            exact ownN_free h9 p
          have hsz : w.heap.size < wr.heap.size := (HO.out.lt _ rfl).2
          obtain ⟨lp, hlp⟩ : ∃ lp, lp = cs.getD p 0 := ⟨_, rfl⟩
          rw [← hlp] at hle HST HCT2 hc0
          have elp : (lp : Int) + 1 = ((lp + 1 : Nat) : Int) := by omega
          have HS2 : Hid (OwnN (wr.setCell ⟨w.heap.size, p, none⟩ (.int .i64 ((lp : Int) + 1))) w.heap.size (.slice (some ⟨w.heap.size, 0, none⟩) q q) (cs.set p (lp + 1))) := Lib.hid (by have h9 := HO.out; rw [← HCQ.out] at h9; have h8 := ownN_stored h9 p (lp + 1); rw [HCQ.out] at h8; rw [elp]; exact h8)
          have HB2 := Lib.hid (HB.out.setCell (p := ⟨w.heap.size, p, none⟩) (Nat.le_refl _) (.int .i64 ((lp : Int) + 1)))
          clear elp hlp hp hst htk cc
          subst e1
          go_wp2
          go_roundw
          case measure => simp [intOf]; omega
          case rel => exact ⟨t + 1, cs.set p (lp + 1), by go_num, by omega, Lib.hid HST.out.symm, Lib.hid (by rw [List.length_set]; exact HCQ.out), HCT2, HS2, HB2⟩
        · have hall : xs.take t = xs := List.take_of_length_le (by rw [← HN.out]; omega)
          rw [hall, ← HCN.out] at HCS
          clear hall
          have hsz := HB.out.size
          obtain ⟨p, hp⟩ : ∃ p, p = wr.heap.size := ⟨_, rfl⟩
          have HP := Lib.hid hp
          have HST : Hid (Blk (wr.alloc (.cells #[.int .i64 n, .int .i64 (1 : Nat), .slice none 0 0, .slice none 0 0, .int .i64 0, .slice none 0 0] 48)) p 48 #[.int .i64 n, .int .i64 (1 : Nat), .slice none 0 0, .slice none 0 0, .int .i64 0, .slice none 0 0]) := Lib.hid (by rw [hp]; exact heap_alloc_new _ _)
          have HB1 := Lib.hid (HB.out.alloc hsz (.cells #[.int .i64 n, .int .i64 (1 : Nat), .slice none 0 0, .slice none 0 0, .int .i64 0, .slice none 0 0] 48))
          have HLN := Lib.hid (Lengths_any (some ⟨w.heap.size, 0, none⟩) q cs (wr.alloc (.cells #[.int .i64 n, .int .i64 (1 : Nat), .slice none 0 0, .slice none 0 0, .int .i64 0, .slice none 0 0] 48)) (by have h9 := HO.out.below (bel9 wr (.cells #[.int .i64 n, .int .i64 (1 : Nat), .slice none 0 0, .slice none 0 0, .int .i64 0, .slice none 0 0] 48)); rw [← HCQ.out] at h9; exact h9.rd.1) (by rw [HCQ.out]; exact hq) (fun x h => by rw [HCS.out] at h; exact Nat.le_trans (HCL.out x h) hl))
          rw [HCQ.out] at HLN
          have HLL : Hid (lenL cs = lensL xs) := Lib.hid (by rw [HCS.out]; rfl)
          have HLQ : Hid ((lensL xs).length = q) := Lib.hid (by rw [lens_len, ← HCLN.out, cntL_len])
          rw [HLL.out] at HLN
          have hBp : w.heap.size ≤ p := by rw [hp]; exact hsz
          clear HO HCT hp
          go_wp2_with fail
          refine HLN.out.mono ?_
          rintro e w3 ⟨vl, rfl, ho3, hb3⟩
          have hs3 : w.heap.size ≤ (wr.alloc (.cells #[.int .i64 n, .int .i64 (1 : Nat), .slice none 0 0, .slice none 0 0, .int .i64 0, .slice none 0 0] 48)).heap.size := HB1.out.size
          have HB3 := Lib.hid (HB1.out.trans (hb3.mono hs3))
          have HO3 := Lib.hid (ho3.lower hs3)
          have HBK := Lib.hid ((hb3.block p HST.out.lt).trans HST.out)
          obtain ⟨_, Al, cl, rfl, _, _, _, _⟩ := own_rd ho3
          rw [HLQ.out] at HO3 ⊢
          have HS3 := Lib.hid (StrSt.lens_set HBK.out hBp HO3.out)
          have HB4 := Lib.hid (HB3.out.setCell (p := ⟨p, 2, none⟩) hBp (.slice Al q cl))
          have c2 : w3.cell? ⟨p, 2, none⟩ = some (.slice none 0 0) := Blk.cell HBK.out 2
          have f2 : w3.frozen? ⟨p, 2, none⟩ = false := Blk.free HBK.out 2
          have hpl : p < w3.heap.size := Blk.lt HBK.out
          rw [← HP.out]
          clear ho3 hb3 hs3 HLN hmk HNW HBW HALT
          go_wp2
          go_loopw [10] (fun s wr => ∃ (k : Nat) (ts : List Pt) (v : Value), s = .int .i64 (64 * k : Nat) ∧ k ≤ m ∧ Hid (ts.length = k) ∧ Hid (StrSt wr w.heap.size p n 1 (.slice Al q cl) (lensL xs) v ts) ∧ Hid (ts.map Pt.pr = partsK (pk1 (lensL xs)) xs k) ∧ Hid (Below w.heap.size w wr)) (fun s _ => 64 * m - (intOf s).toNat)
          case atStart => exact ⟨0, [], .slice none 0 0, rfl, by omega, Lib.hid rfl, HS3, Lib.hid rfl, HB4⟩
          case round =>
            clear HS3 HB4 c2 f2 hpl HB3 HO3 HBK HB1 HST HB HCS
            obtain ⟨k, ts, v, rfl, hkm, HTL, HS, HTS, HB⟩ := hrel
            have hszr := HB.out.size
            by_cases hlt2 : 64 * k < n
            · have t1 : ((64 * k : Nat) : Int) < (n : Int) := by omega
              obtain ⟨b1, o1, e1, cc⟩ := (HA.out.below HB.out) (by rw [← HN.out]; omega)
              have HSUB := Lib.hid (RdN.sub cc k)
              have hrl : RdN wr Al (lensL xs) := by have h9 := HS.out.lens; rw [← HLQ.out] at h9; exact h9.rd.1
              have HEN := Lib.hid (hEncode_ok Al (some ⟨b1, o1 + 64 * k, none⟩) cl (c - 64 * k) (lensL xs) (chunk xs k) wr.drew hrl.drew HSUB.out.drew HLO.out (by rw [chunk_len]; omega) (lens_sym HX.out (fun x h => chunk_mem h)))
              rw [chunk_len, ← HN.out, HLQ.out] at HEN
              subst e1
              obtain ⟨hi, hhi⟩ : ∃ hi, hi = min (64 * k + 64) n := ⟨_, rfl⟩
              have emn : min ((64 : Int) * k + 64) (n : Int) = (hi : Int) := by omega
              have EMN : Hid (hi - 64 * k = min 64 (n - 64 * k)) := Lib.hid (by omega)
              have E64 : Hid ((64 * (k : Int)).toNat = 64 * k) := Lib.hid (by omega)
              have NE64 : Hid (¬ c = 64 * k) := Lib.hid (by omega)
              have g1 : (0 : Int) ≤ 64 * (k : Int) := by omega
              have g2 : (64 : Int) * (k : Int) ≤ (hi : Int) := by omega
              have g3 : (hi : Int) ≤ (c : Int) := by omega
              have g4 : IntKind.i64.wrap (64 * (k : Int) + 64) = 64 * (k : Int) + 64 := by rw [IntKind.wrap_i64]; omega
              have g5 : (0 : Int) ≤ (hi : Int) := by omega
              have HPR : Hid (partsK (pk1 (lensL xs)) xs (k + 1) = partsK (pk1 (lensL xs)) xs k ++ [(pk (encB (lensL xs) (chunk xs k)), (encB (lensL xs) (chunk xs k)).length)]) := Lib.hid (partsK_succ _ _ _)
              have K0 : wr.cell? ⟨p, 2, none⟩ = some (.slice Al q cl) := HS.out.blk.cell 2
              obtain ⟨bl, hbl⟩ : ∃ bl, bl = (encB (lensL xs) (chunk xs k)).length := ⟨_, rfl⟩
              obtain ⟨pb, hpb⟩ : ∃ pb, pb = pk (encB (lensL xs) (chunk xs k)) := ⟨_, rfl⟩
              rw [← hbl, ← hpb] at HEN HPR
              clear cc hrl HSUB hhi hbl hpb
              go_wp2_with fail
              go_region_held3 (fun w' => w'.cell? ⟨p, 2, none⟩ = some (.slice Al q cl))
                (first | (with_reducible exact K1) | exact K0 | go_keep)
                (first
                  | (go_at_call 38
                     rw [E64.out, if_neg NE64.out, EMN.out]
                     refine HEN.out.mono ?_
                     rintro e w4 ⟨u, rfl, hu4, hb4⟩
                     have HU := Lib.hid hu4
                     have HHB := Lib.hid hb4
                     have K1 : w4.cell? ⟨p, 2, none⟩ = some (.slice Al q cl) := (hb4.cell (p := ⟨p, 2, none⟩) HS.out.blk.lt).trans K0
                     clear hu4 hb4))
              have hszr4 : w.heap.size ≤ wr.drew.heap.size := hszr
              have hbw4 : Below w.heap.size wr w4 := (belDrew wr _).trans (HHB.out.mono hszr4)
              have HB5 := Lib.hid (HB.out.trans hbw4)
              have hsz5 := HB5.out.size
              have HS5 := Lib.hid ((HS.out.below (belDrew wr _)).below HHB.out)
              have hu := HU.out.lower hszr4
              obtain ⟨Au, cu, rfl, _⟩ := hu.rd
              obtain ⟨lu, hlu⟩ : ∃ lu, lu = pb.length := ⟨_, rfl⟩
              rw [← hlu] at hu ⊢
              clear hlu
              have HU5 : Hid (OwnB wr.drew w.heap.size (.slice Au lu cu) pb ∨ OwnB w4 w.heap.size (.slice Au lu cu) pb) := Lib.hid (.inr hu)
              have c5 : w4.cell? ⟨p, 3, none⟩ = some v := HS5.out.blk.cell 3
              have f5 : w4.frozen? ⟨p, 3, none⟩ = false := HS5.out.blk.free 3
              have HSRC := Lib.hid (part_src w4 (.slice Au lu cu) pb bl 61)
              have HONE : Hid (∀ x ∈ cellsP [⟨.slice Au lu cu, pb, bl⟩], x.oneCell' = true) := Lib.hid (part_one rfl)
              have HROW := Lib.hid (StrSt.row (HS5.out.below (bel9 w4 (.cells #[.slice Au lu cu, .int .i64 (bl : Nat)] 61))))
              have HLE : Hid (ts.length + 1 ≤ 1000000) := Lib.hid (by rw [HTL.out]; omega)
              have HUU := Lib.hid hu
              clear hu HEN emn g1 g2 g3 g4 g5 K0 K1 hszr4 hbw4
              go_wp2_with (at_builtin; refine wpList_appP (.tmp 79) (.tmp 83) w.heap.size v ts ⟨w4.heap.size, 0, none⟩ 1 ⟨.slice Au lu cu, pb, bl⟩ rfl rfl (by rfl) HROW.out (by rfl) HSRC.out HONE.out HLE.out (by have := hsz5; simp; omega) ?_; intro v6 w6 ho6 hg6; obtain ⟨g6, c6, rfl, _, _⟩ := World.ownsRow.form ho6 (by simp); obtain ⟨L6, hL6⟩ : ∃ L6, L6 = (ts ++ [(⟨.slice Au lu cu, pb, bl⟩ : Pt)]).length := ⟨_, rfl⟩; rw [← hL6] at ho6 ⊢; clear hL6; have HS6 := Lib.hid (HS5.out.app (t := ⟨.slice Au lu cu, pb, bl⟩) HUU.out ho6 hg6); have HB6 := Lib.hid (HS5.out.bel (v2 := .slice (some ⟨g6, 0, none⟩) L6 c6) HB5.out hsz5 hg6); obtain ⟨c7, f7, l7⟩ := HS5.out.mid hg6; clear ho6 hg6)
              go_roundw
              case measure => simp [intOf]; omega
              case rel => exact ⟨k + 1, ts ++ [⟨.slice Au lu cu, pb, bl⟩], _, by go_num, by omega, Lib.hid (by rw [List.length_append, HTL.out]; rfl), HS6, Lib.hid (by rw [List.map_append, HTS.out, HPR.out]; rfl), HB6⟩
            · have hk : k = m := by omega
              have HF : Hid (ts.map Pt.pr = partsK (pk1 (lensL xs)) xs (nblk n)) := Lib.hid (by rw [HTS.out, hk, HM.out])
              clear hk
              go_wp2
              go_ret
              exact ⟨p, ts, v, _, rfl, HS.out, HF.out, HB.out⟩
end Go.Proofs.Ytnldnaogbadajaa.Tb

/- tokens.payload, walked. -/
set_option linter.unusedVariables false
set_option linter.unusedSimpArgs false
namespace Go.Proofs.Ytnldnaogbadajaa.Tb
open Go.RowKit

/-! ### plain -/
def blkB (kind : Nat) (q : List Nat × Nat) : List Nat := uv (if kind = 0 then q.1.length else q.2) ++ q.1
def bodyB (kind : Nat) : List (List Nat × Nat) → List Nat
  | [] => []
  | q :: ps => blkB kind q ++ bodyB kind ps
def headB (n kind : Nat) (ls : List Nat) : List Nat := uv n ++ (uv kind ++ if kind = 1 then uv ls.length ++ ls else [])
def payL (n kind : Nat) (ls : List Nat) (ps : List (List Nat × Nat)) : List Nat := headB n kind ls ++ bodyB kind ps
theorem bodyB_snoc (kind : Nat) (q : List Nat × Nat) : ∀ ps : List (List Nat × Nat), bodyB kind (ps ++ [q]) = bodyB kind ps ++ blkB kind q
  | [] => by simp [bodyB]
  | p :: ps => by rw [List.cons_append, bodyB, bodyB_snoc kind q ps, bodyB, List.append_assoc]
structure PsOk (ps : List (List Nat × Nat)) : Prop where
  len : ps.length ≤ 64
  ok : ∀ q ∈ ps, q.1.length ≤ 2000 ∧ q.2 ≤ 1000000 ∧ Byt q.1
theorem blkB_len {kind : Nat} {q : List Nat × Nat} (h1 : q.1.length ≤ 2000) (h2 : q.2 ≤ 1000000) : (blkB kind q).length ≤ 2010 := by
  unfold blkB
  rw [List.length_append]
  have := uv_len10 (v := if kind = 0 then q.1.length else q.2) (by split <;> omega)
  omega
theorem bodyB_len {kind : Nat} : ∀ ps : List (List Nat × Nat), (∀ q ∈ ps, q.1.length ≤ 2000 ∧ q.2 ≤ 1000000 ∧ Byt q.1) → (bodyB kind ps).length ≤ 2010 * ps.length
  | [], _ => by simp [bodyB]
  | q :: ps, h => by
    have h1 := h q (by simp)
    have h2 := blkB_len (kind := kind) h1.1 h1.2.1
    have h3 := bodyB_len (kind := kind) ps (fun p hp => h p (List.mem_cons_of_mem _ hp))
    rw [bodyB, List.length_append, List.length_cons]
    omega
theorem bodyB_byt {kind : Nat} : ∀ ps : List (List Nat × Nat), (∀ q ∈ ps, q.1.length ≤ 2000 ∧ q.2 ≤ 1000000 ∧ Byt q.1) → Byt (bodyB kind ps)
  | [], _ => fun x hx => by simp [bodyB] at hx
  | q :: ps, h => fun x hx => by
    rw [bodyB, blkB] at hx
    rcases List.mem_append.1 hx with hx | hx
    · rcases List.mem_append.1 hx with hx | hx
      · exact uv_byt _ x hx
      · exact (h q (by simp)).2.2 x hx
    · exact bodyB_byt ps (fun p hp => h p (List.mem_cons_of_mem _ hp)) x hx
theorem headB_byt {n kind : Nat} {ls : List Nat} (h : Byt ls) : Byt (headB n kind ls) := fun x hx => by
  unfold headB at hx
  rcases List.mem_append.1 hx with hx | hx
  · exact uv_byt _ x hx
  · rcases List.mem_append.1 hx with hx | hx
    · exact uv_byt _ x hx
    · split at hx
      · rcases List.mem_append.1 hx with hx | hx
        · exact uv_byt _ x hx
        · exact h x hx
      · cases hx
theorem headB_len {n kind : Nat} {ls : List Nat} (h1 : n ≤ 4096) (h2 : kind ≤ 1) (h3 : ls.length ≤ 1024) : (headB n kind ls).length ≤ 1054 := by
  unfold headB
  have a := uv_len10 (v := n) (by omega)
  have b := uv_len10 (v := kind) (by omega)
  have c := uv_len10 (v := ls.length) (by omega)
  rw [List.length_append, List.length_append]
  split
  · rw [List.length_append]; omega
  · simp only [List.length_nil]; omega

/-! ### a stream as it is read -/
structure PtAt (w : World) (g p j : Nat) (q : List Nat × Nat) : Prop where
  it : ∃ A c, w.cell? ⟨g, j * 2, none⟩ = some (.slice A q.1.length c) ∧ w.cell? ⟨g, j * 2 + 1, none⟩ = some (.int .i64 q.2) ∧ RdB w A q.1 ∧ (A = none → q.1.length = 0 ∧ c = 0) ∧ q.1.length ≤ c ∧ ∀ b, A = some b → b.block ≠ p
structure Str (w : World) (p n kind : Nat) (ls : List Nat) (ps : List (List Nat × Nat)) (last : Nat) (bv : Value) : Prop where
  it : ∃ Al cl Ap cp g, Blk w p 48 #[.int .i64 n, .int .i64 kind, .slice Al ls.length cl, .slice Ap ps.length cp, .int .i64 last, bv] ∧
    RdN w Al ls ∧ (∀ b, Al = some b → b.block ≠ p) ∧ ls.length ≤ cl ∧ (0 < ps.length → Ap = some ⟨g, 0, none⟩) ∧ g ≠ p ∧ ∀ j q, ps[j]? = some q → PtAt w g p j q
theorem cell_kept {w w' : World} (hb : Below w.heap.size w w') {a : Addr} {v : Value} (hc : w.cell? a = some v) : w'.cell? a = some v := (hb.cell (World.block_lt_of_cell? w _ hc)).trans hc
theorem PtAt.below {w w' : World} {g p j : Nat} {q : List Nat × Nat} (h : PtAt w g p j q) (hb : Below w.heap.size w w') : PtAt w' g p j q := by
  obtain ⟨A, c, h1, h2, h3, h4⟩ := h.it
  exact ⟨A, c, cell_kept hb h1, cell_kept hb h2, h3.below hb, h4⟩
theorem Str.below {w w' : World} {p n kind : Nat} {ls : List Nat} {ps : List (List Nat × Nat)} {last : Nat} {bv : Value} (h : Str w p n kind ls ps last bv) (hb : Below w.heap.size w w') : Str w' p n kind ls ps last bv := by
  obtain ⟨Al, cl, Ap, cp, g, h1, h2, h3, h4, h5, h6, h7⟩ := h.it
  exact ⟨Al, cl, Ap, cp, g, (hb.block p h1.lt).trans h1, h2.below hb, h3, h4, h5, h6, fun j q hq => (h7 j q hq).below hb⟩
theorem StrSt.str {w : World} {B p n kind : Nat} {vl : Value} {ls : List Nat} {v : Value} {ts : List Pt} (h : StrSt w B p n kind vl ls v ts) : Str w p n kind ls (ts.map Pt.pr) 0 (.slice none 0 0) := by
  obtain ⟨_, Al, cl, rfl, _, _, hcl, _⟩ := own_rd h.lens
  have hnl := own_ne h.lens h.blk (by decide)
  have hnr := own_ne h.row h.blk (by decide)
  have hrow := h.row
  have hblk := h.blk
  rcases h.row.2 with ⟨e1, e2⟩ | ⟨g, cap, cur, rfl, _⟩
  · obtain rfl : v = .slice none 0 0 := e1
    have h0 : ts.length = 0 := e2
    refine ⟨Al, cl, none, 0, p + 1, by rw [List.length_map, h0]; exact hblk, h.lens.rd.1, fun b hb e => hnl ?_, hcl, fun h1 => by rw [List.length_map] at h1; omega, by omega, fun j q hq => ?_⟩
    · have h9 := h.lens
      subst hb
      rcases h9.2 with ⟨e, _⟩ | ⟨g, cap, cur, e2, _⟩
      · injection e with e; cases e
      · injection e2 with e2
        injection e2 with e2
        subst e2
        simp only at e
        rw [← e]; rfl
    · obtain rfl : ts = [] := List.eq_nil_of_length_eq_zero h0
      simp at hq
  · refine ⟨Al, cl, some ⟨g, 0, none⟩, cap, g, by rw [List.length_map]; exact hblk, h.lens.rd.1, fun b hb e => hnl ?_, hcl, fun _ => rfl, fun e => hnr (by rw [e]; rfl), fun j q hq => ?_⟩
    · have h9 := h.lens
      subst hb
      rcases h9.2 with ⟨e, _⟩ | ⟨g, cap, cur, e2, _⟩
      · injection e with e; cases e
      · injection e2 with e2
        injection e2 with e2
        subst e2
        simp only at e
        rw [← e]; rfl
    · rw [List.getElem?_map] at hq
      obtain ⟨t, ht, rfl⟩ := Option.map_eq_some_iff.1 hq
      obtain ⟨k0, k1⟩ := cellsP_get ts j t ht
      have c0 := World.ownsRow.cells hrow (g := g) rfl _ _ k0
      have c1 := World.ownsRow.cells hrow (g := g) rfl _ _ k1
      rw [addr_add, Nat.zero_add] at c0 c1
      have ho := h.bs t (List.mem_of_getElem? ht)
      have hne := own_ne ho h.blk (by decide)
      obtain ⟨A, c, e, hrd, hA, hcc, _⟩ := ho.rd
      rw [e] at c0
      refine ⟨A, c, c0, c1, hrd, hA, hcc, fun b hb e3 => hne ?_⟩
      rw [e]
      subst hb
      rcases ho.2 with ⟨e4, _⟩ | ⟨g2, cap2, cur2, e4, _⟩
      · rw [e] at e4; injection e4 with e4; cases e4
      · rw [e] at e4
        injection e4 with e4
        injection e4 with e4
        subst e4
        simp only at e3
        rw [← e3]; rfl
theorem Str.lt {w : World} {p n kind : Nat} {ls : List Nat} {ps : List (List Nat × Nat)} {last : Nat} {bv : Value} (h : Str w p n kind ls ps last bv) : p < w.heap.size := by
  obtain ⟨Al, cl, Ap, cp, g, h1, _⟩ := h.it
  exact h1.lt
end Go.Proofs.Ytnldnaogbadajaa.Tb

/- tokens.payload, walked, at both kinds. (Written by gen/gen_ie.py.) -/
set_option linter.unusedVariables false
set_option linter.unusedSimpArgs false
namespace Go.Proofs.Ytnldnaogbadajaa.Tb
open Go.RowKit

theorem ownB_A {w : World} {B c : Nat} {A : Option Addr} {xs : List Nat} (h : OwnB w B (.slice A xs.length c) xs) : A = none → xs.length = 0 ∧ c = 0 := (own_rd_of h).2
theorem psOk_at {ps : List (List Nat × Nat)} (h : PsOk ps) {t : Nat} {q : List Nat × Nat} (hq : ps[t]? = some q) : q.1.length ≤ 2000 ∧ q.2 ≤ 1000000 ∧ Byt q.1 := h.ok q (List.mem_of_getElem? hq)
theorem take_psok {kind : Nat} {ps : List (List Nat × Nat)} (h : PsOk ps) (t : Nat) : (bodyB kind (ps.take t)).length ≤ 128640 := by
  have h1 := bodyB_len (kind := kind) (ps.take t) (fun q hq => h.ok q (List.mem_of_mem_take hq))
  have h2 := h.len
  have h3 : (ps.take t).length ≤ 64 := Nat.le_trans (by rw [List.length_take]; exact Nat.min_le_right _ _) h2
  have : 2010 * (ps.take t).length ≤ 2010 * 64 := Nat.mul_le_mul_left _ h3
  omega

set_option maxRecDepth 100000 in
set_option maxHeartbeats 12800000 in
theorem payload_0 (w : World) (p n : Nat) (ls : List Nat) (ps : List (List Nat × Nat)) (last : Nat) (bv : Value) (hS : Str w p n 0 ls ps last bv) (hn : n ≤ 4096) (hl : ls.length ≤ 1024) (hb : Byt ls) (hp : PsOk ps) :
    Calls Try.prog 25 #[.pointer (some ⟨p, 0, none⟩)] w fun e w' => ∃ v', e = .returned v' ∧ OwnB w' w.heap.size v' (payL n 0 ls ps) ∧ Below w.heap.size w w' := by
  obtain ⟨Al, cl, Ap, cp, g, hblk, hrl, hal, hcl, hap, hgp, hpt⟩ := hS.it
  have HRL := Lib.hid hrl
  have HPT := Lib.hid hpt
  have HAP := Lib.hid hap
  have HBY := Lib.hid hb
  have HPS := Lib.hid hp
  have HBK := Lib.hid hblk
  have HHD : Hid (payL n 0 ls ps = headB n 0 ls ++ bodyB 0 ps) := Lib.hid rfl
  have hpl := hp.len
  have hpw := hblk.lt
  obtain ⟨nl, hnl⟩ : ∃ nl, nl = ls.length := ⟨_, rfl⟩
  obtain ⟨np, hnp⟩ : ∃ np, np = ps.length := ⟨_, rfl⟩
  have HNL := Lib.hid hnl
  have HNP := Lib.hid hnp
  rw [← hnl] at hl hcl
  rw [← hnp] at hpl HAP
  rw [← hnl, ← hnp] at HBK
  have a0 : w.cell? ⟨p, 0, none⟩ = some (.int .i64 n) := HBK.out.cell 0
  have k0 : ∀ W : World, Below w.heap.size w W → W.cell? ⟨p, 1, none⟩ = some (.int .i64 0) ∧ W.cell? ⟨p, 2, none⟩ = some (.slice Al nl cl) ∧ W.cell? ⟨p, 3, none⟩ = some (.slice Ap np cp) := fun W hW => ⟨cell_kept hW (HBK.out.cell 1), cell_kept hW (HBK.out.cell 2), cell_kept hW (HBK.out.cell 3)⟩
  have HK := Lib.hid k0
  have e1 : IntKind.u64.wrap (n : Int) = (n : Int) := by rw [IntKind.wrap_u64]; omega
  have HPU := Lib.hid (PutUvarint_any none 0 [] n w (fun h => by simp at h) (by simp) (by omega))
  clear hS hblk hrl hal hap hpt hb hp hnl hnp k0
  go_enter Try.func25, Try.ntmps25
  go_wp2_with fail
  refine HPU.out.mono ?_
  rintro e w1 ⟨v1, rfl, ho1, hb1⟩
  obtain ⟨A1, c1, rfl, hrd1, _⟩ := ho1.rd
  have hl1 : ([] ++ uv n).length ≤ 10 := by have := uv_len10 (v := n) (by omega); simpa using this
  have HPU2 := Lib.hid (PutUvarint_any A1 c1 ([] ++ uv n) 0 w1 hrd1 (by omega) (by omega))
  obtain ⟨kk1, hk1⟩ : ∃ k, k = ([] ++ uv n).length := ⟨_, rfl⟩
  rw [← hk1] at HPU2 hl1 ⊢
  have hs1 := hb1.size
  have HB1 := Lib.hid hb1
  obtain ⟨b1, b2, b3⟩ := HK.out w1 hb1
  clear ho1 hb1 hrd1 hk1 HPU a0
  go_wp2_with fail
  refine HPU2.out.mono ?_
  rintro e w2 ⟨v2, rfl, ho2, hb2⟩
  obtain ⟨A2, c2, rfl, hrd2, _⟩ := ho2.rd
  have HB2 := Lib.hid (HB1.out.trans (hb2.mono hs1))
  have HO2 := Lib.hid (ho2.lower hs1)
  have hs2 := HB2.out.size
  obtain ⟨L2, hL2⟩ : ∃ L2, L2 = [] ++ uv n ++ uv 0 := ⟨_, rfl⟩
  have hl2 : L2.length ≤ 20 := by rw [hL2, List.nil_append, List.length_append]; have h1 := uv_len10 (v := n) (by omega); have h2 := uv_len10 (v := 0) (by omega); omega
  rw [← hL2] at HO2 hrd2 ⊢
  have HL2 := Lib.hid hL2
  obtain ⟨d1, d2, d3⟩ := HK.out w2 HB2.out
  clear ho2 hb2 HPU2 hL2 b1 b2 b3
  have HLH : Hid (L2 = headB n 0 ls) := Lib.hid (by rw [HL2.out]; simp [headB])
  have hLH : L2.length ≤ 1054 := by omega
  clear hrd2 HL2 hl2
  go_wp2
  go_loopw [3, 54] (fun a s wr => ∃ (t : Nat) (L : List Nat) (A4 : Option Addr) (c4 : Nat), s = .int .i64 t ∧ a = .slice A4 L.length c4 ∧ t ≤ np ∧ Hid (L = headB n 0 ls ++ bodyB 0 (ps.take t)) ∧ L.length ≤ 200000 ∧ Hid (OwnB wr w.heap.size (.slice A4 L.length c4) L) ∧ Hid (Below w.heap.size w wr)) (fun _ s _ => np - (intOf s).toNat)
  case atStart => exact ⟨0, L2, A2, c2, rfl, rfl, by omega, Lib.hid (by rw [HLH.out]; simp [bodyB]), by omega, HO2, HB2⟩
  case round =>
    have hHL : (headB n 0 ls).length ≤ 1054 := by rw [← HLH.out]; exact hLH
    clear HO2 HB2 HLH hLH d1 d2 d3
    obtain ⟨t, L, A4, c4, rfl, rfl, ht, HL, hL20, HO, HB⟩ := hrel
    have hszr := HB.out.size
    obtain ⟨d1, d2, d3⟩ := HK.out _ HB.out
    have hpr : p < wr.heap.size := by omega
    by_cases hlt : t < np
    · obtain ⟨q, hq⟩ : ∃ q, ps[t]? = some q := ⟨_, List.getElem?_eq_getElem (by rw [← HNP.out]; exact hlt)⟩
      obtain ⟨Aq, cq, hc0, hc1, hrq, hAq, hcq, _⟩ := ((HPT.out t q hq).below HB.out).it
      obtain ⟨hq1, hq2, hq3⟩ := psOk_at HPS.out hq
      have hap := HAP.out (by omega)
      subst hap
      have htk : headB n 0 ls ++ bodyB 0 (ps.take (t + 1)) = L ++ (uv q.1.length ++ q.1) := by
        rw [List.take_add_one, hq, Option.toList_some, bodyB_snoc, ← List.append_assoc, ← HL.out]
        simp [blkB]
      have hL20' : (headB n 0 ls ++ bodyB 0 (ps.take (t + 1))).length ≤ 200000 := by
        rw [List.length_append]
        have := take_psok (kind := 0) HPS.out (t + 1)
        omega
      rw [htk] at hL20'
      obtain ⟨bq, hbq⟩ : ∃ bq, bq = q.1 := ⟨_, rfl⟩
      obtain ⟨nq, hnq⟩ : ∃ nq, nq = q.2 := ⟨_, rfl⟩
      obtain ⟨lq, hlq⟩ : ∃ lq, lq = q.1.length := ⟨_, rfl⟩
      have HLQ : Hid (lq = bq.length) := Lib.hid (by rw [hlq, hbq])
      rw [← hlq] at hq1 hcq hAq hc0
      rw [← hlq] at htk hL20'
      rw [← hnq] at hc1 hq2
      rw [← hbq] at htk hL20' hrq
      have HTK := Lib.hid htk
      have HTL := Lib.hid hL20'
      have HRQ := Lib.hid hrq
      have HAQ := Lib.hid hAq
      have ev : IntKind.u64.wrap (lq : Int) = (lq : Int) := by rw [IntKind.wrap_u64]; omega
      have HBO := Lib.hid (HB.out.alloc hszr (.cells #[.slice Aq lq cq, .int .i64 nq] 61))
      have HPU := Lib.hid (PutUvarint_any A4 c4 L lq (wr.alloc (.cells #[.slice Aq lq cq, .int .i64 nq] 61)) (own_rd_of (HO.out.below (bel9 _ _))).1 (by omega) (by omega))
      have hbx : (wr.alloc (.cells #[.slice Aq lq cq, .int .i64 nq] 61)).cell? ⟨wr.heap.size, 0, none⟩ = some (.slice Aq lq cq) := by simp
      have HBX := Lib.hid hbx
      have HHA := Lib.hid (bel9 wr (.cells #[.slice Aq lq cq, .int .i64 nq] 61))
      clear hq hbq hnq hlq htk hL20' hrq hAq hq3 hbx hL20
      go_wp2_with fail
      refine HPU.out.mono ?_
      rintro e w5 ⟨v5, rfl, ho5, hb5⟩
      obtain ⟨A5, c5, rfl, _⟩ := ho5.rd
      have hb5' : Below w.heap.size (wr.alloc (.cells #[.slice Aq lq cq, .int .i64 nq] 61)) w5 := hb5.mono HBO.out.size
      have HB5 := Lib.hid (HBO.out.trans hb5')
      have HO5 := Lib.hid (ho5.lower HBO.out.size)
      have hbx5 : w5.cell? ⟨wr.heap.size, 0, none⟩ = some (.slice Aq lq cq) := cell_kept hb5 HBX.out
      have HRQ5 := Lib.hid ((HRQ.out.below HHA.out).below hb5)
      obtain ⟨L5, hL5⟩ : ∃ L5, L5 = L ++ uv lq := ⟨_, rfl⟩
      rw [← hL5] at HO5 ⊢
      have HTK2 : Hid (headB n 0 ls ++ bodyB 0 (ps.take (t + 1)) = L5 ++ bq) := Lib.hid (by rw [HTK.out, hL5, List.append_assoc])
      have HTL2 : Hid ((L5 ++ bq).length ≤ 200000) := Lib.hid (by have := HTL.out; rw [← List.append_assoc, ← hL5] at this; exact this)
      have HLL : Hid (L5.length + bq.length ≤ 4000000000) := Lib.hid (by have := HTL2.out; rw [List.length_append] at this; omega)
      have HAQ2 : Hid (Aq = none → bq.length = 0 ∧ cq = 0) := Lib.hid (by rw [← HLQ.out]; exact HAQ.out)
      clear ho5 hb5 hb5' hL5 HPU HBX HHA
      rw [HLQ.out] at hbx5 ⊢
      go_wp2_with (at_builtin; refine wpList_appB (.tmp 74) (.tmp 76) w.heap.size (.slice A5 L5.length c5) L5 Aq cq bq rfl rfl (by rfl) HO5.out (by rfl) HAQ2.out HRQ5.out HLL.out HB5.out.size ?_; intro v6 w6 ho6 hb6 _ _; obtain ⟨A6, c6, rfl, _⟩ := ho6.rd; have HO6 := Lib.hid ho6; have HB6 := Lib.hid (HB5.out.trans hb6); clear ho6 hb6; generalize L5 ++ bq = L6 at HTK2 HTL2 HO6 ⊢)
      go_roundw
      case measure => simp [intOf]; omega
      case rel => exact ⟨t + 1, L6, A6, c6, by go_num, rfl, by omega, Lib.hid HTK2.out.symm, HTL2.out, HO6, HB6⟩
    · have hall : ps.take t = ps := List.take_of_length_le (by rw [← HNP.out]; omega)
      have HF : Hid (payL n 0 ls ps = L) := Lib.hid (by rw [HHD.out, HL.out, hall])
      clear hall
      go_wp2
      go_ret
      rw [HF.out]
      exact ⟨_, rfl, HO.out, HB.out⟩

set_option maxRecDepth 100000 in
set_option maxHeartbeats 12800000 in
theorem payload_1 (w : World) (p n : Nat) (ls : List Nat) (ps : List (List Nat × Nat)) (last : Nat) (bv : Value) (hS : Str w p n 1 ls ps last bv) (hn : n ≤ 4096) (hl : ls.length ≤ 1024) (hb : Byt ls) (hp : PsOk ps) :
    Calls Try.prog 25 #[.pointer (some ⟨p, 0, none⟩)] w fun e w' => ∃ v', e = .returned v' ∧ OwnB w' w.heap.size v' (payL n 1 ls ps) ∧ Below w.heap.size w w' := by
  obtain ⟨Al, cl, Ap, cp, g, hblk, hrl, hal, hcl, hap, hgp, hpt⟩ := hS.it
  have HRL := Lib.hid hrl
  have HPT := Lib.hid hpt
  have HAP := Lib.hid hap
  have HBY := Lib.hid hb
  have HPS := Lib.hid hp
  have HBK := Lib.hid hblk
  have HHD : Hid (payL n 1 ls ps = headB n 1 ls ++ bodyB 1 ps) := Lib.hid rfl
  have hpl := hp.len
  have hpw := hblk.lt
  obtain ⟨nl, hnl⟩ : ∃ nl, nl = ls.length := ⟨_, rfl⟩
  obtain ⟨np, hnp⟩ : ∃ np, np = ps.length := ⟨_, rfl⟩
  have HNL := Lib.hid hnl
  have HNP := Lib.hid hnp
  rw [← hnl] at hl hcl
  rw [← hnp] at hpl HAP
  rw [← hnl, ← hnp] at HBK
  have a0 : w.cell? ⟨p, 0, none⟩ = some (.int .i64 n) := HBK.out.cell 0
  have k0 : ∀ W : World, Below w.heap.size w W → W.cell? ⟨p, 1, none⟩ = some (.int .i64 1) ∧ W.cell? ⟨p, 2, none⟩ = some (.slice Al nl cl) ∧ W.cell? ⟨p, 3, none⟩ = some (.slice Ap np cp) := fun W hW => ⟨cell_kept hW (HBK.out.cell 1), cell_kept hW (HBK.out.cell 2), cell_kept hW (HBK.out.cell 3)⟩
  have HK := Lib.hid k0
  have e1 : IntKind.u64.wrap (n : Int) = (n : Int) := by rw [IntKind.wrap_u64]; omega
  have HPU := Lib.hid (PutUvarint_any none 0 [] n w (fun h => by simp at h) (by simp) (by omega))
  clear hS hblk hrl hal hap hpt hb hp hnl hnp k0
  go_enter Try.func25, Try.ntmps25
  go_wp2_with fail
  refine HPU.out.mono ?_
  rintro e w1 ⟨v1, rfl, ho1, hb1⟩
  obtain ⟨A1, c1, rfl, hrd1, _⟩ := ho1.rd
  have hl1 : ([] ++ uv n).length ≤ 10 := by have := uv_len10 (v := n) (by omega); simpa using this
  have HPU2 := Lib.hid (PutUvarint_any A1 c1 ([] ++ uv n) 1 w1 hrd1 (by omega) (by omega))
  obtain ⟨kk1, hk1⟩ : ∃ k, k = ([] ++ uv n).length := ⟨_, rfl⟩
  rw [← hk1] at HPU2 hl1 ⊢
  have hs1 := hb1.size
  have HB1 := Lib.hid hb1
  obtain ⟨b1, b2, b3⟩ := HK.out w1 hb1
  clear ho1 hb1 hrd1 hk1 HPU a0
  go_wp2_with fail
  refine HPU2.out.mono ?_
  rintro e w2 ⟨v2, rfl, ho2, hb2⟩
  obtain ⟨A2, c2, rfl, hrd2, _⟩ := ho2.rd
  have HB2 := Lib.hid (HB1.out.trans (hb2.mono hs1))
  have HO2 := Lib.hid (ho2.lower hs1)
  have hs2 := HB2.out.size
  obtain ⟨L2, hL2⟩ : ∃ L2, L2 = [] ++ uv n ++ uv 1 := ⟨_, rfl⟩
  have hl2 : L2.length ≤ 20 := by rw [hL2, List.nil_append, List.length_append]; have h1 := uv_len10 (v := n) (by omega); have h2 := uv_len10 (v := 1) (by omega); omega
  rw [← hL2] at HO2 hrd2 ⊢
  have HL2 := Lib.hid hL2
  obtain ⟨d1, d2, d3⟩ := HK.out w2 HB2.out
  clear ho2 hb2 HPU2 hL2 b1 b2 b3
  have e2 : IntKind.u64.wrap (nl : Int) = (nl : Int) := by rw [IntKind.wrap_u64]; omega
  have HPU3 := Lib.hid (PutUvarint_any A2 c2 L2 nl w2 hrd2 (by omega) (by omega))
  clear hrd2
  go_wp2_with fail
  refine HPU3.out.mono ?_
  rintro e w3 ⟨v3, rfl, ho3, hb3⟩
  obtain ⟨A3, c3, rfl, _⟩ := ho3.rd
  have HB3 := Lib.hid (HB2.out.trans (hb3.mono hs2))
  have HO3 := Lib.hid (ho3.lower hs2)
  obtain ⟨L3, hL3⟩ : ∃ L3, L3 = L2 ++ uv nl := ⟨_, rfl⟩
  have hl3 : L3.length ≤ 30 := by rw [hL3, List.length_append]; have h1 := uv_len10 (v := nl) (by omega); omega
  rw [← hL3] at HO3 ⊢
  have HL3 := Lib.hid hL3
  obtain ⟨m1, m2, m3⟩ := HK.out w3 HB3.out
  clear ho3 hb3 HPU3 hL3 d1 d2 d3
  go_wp2
  go_loopw [3, 39] (fun a s wr => ∃ (t : Nat) (L : List Nat) (A4 : Option Addr) (c4 : Nat), s = .int .i64 t ∧ a = .slice A4 L.length c4 ∧ t ≤ nl ∧ Hid (L = L3 ++ ls.take t) ∧ Hid (OwnB wr w.heap.size (.slice A4 L.length c4) L) ∧ Hid (Below w.heap.size w wr)) (fun _ s _ => nl - (intOf s).toNat)
  case atStart => exact ⟨0, L3, A3, c3, rfl, rfl, by omega, Lib.hid (by simp), HO3, HB3⟩
  case round =>
    clear HO3 HB3 m1 m2 m3 HB1 HB2 HO2
    obtain ⟨t, L, A4, c4, rfl, rfl, ht, HL, HO, HB⟩ := hrel
    have hszr := HB.out.size
    have hLl : L.length = L3.length + t := by rw [HL.out, List.length_append, List.length_take, ← HNL.out]; omega
    by_cases hlt : t < nl
    · obtain ⟨b1, o1, e1', cc⟩ := (HRL.out.below HB.out) (by rw [← HNL.out]; omega)
      have ck := cc t (by rw [← HNL.out]; exact hlt)
      have hx1 := HBY.out (ls.getD t 0) (by rw [List.getD_eq_getElem?_getD, List.getElem?_eq_getElem (by rw [← HNL.out]; exact hlt)]; exact List.getElem_mem _)
      have htk : L3 ++ ls.take (t + 1) = L ++ [ls.getD t 0] := by rw [take_snoc 0 ls t (by rw [← HNL.out]; exact hlt), ← List.append_assoc, ← HL.out]
      obtain ⟨x, hxx⟩ : ∃ x, x = ls.getD t 0 := ⟨_, rfl⟩
      rw [← hxx] at ck hx1 htk
      have HTK := Lib.hid htk
      have ex : IntKind.u8.wrap (x : Int) = (x : Int) := by simp only [IntKind.wrap, IntKind.bits, IntKind.signed]; simp; omega
      have HRO := Lib.hid (HO.out.below (bel9 wr (.cells #[.int .u8 (x : Int)] 5)))
      have HBO := Lib.hid (HB.out.alloc hszr (.cells #[.int .u8 (x : Int)] 5))
      have HLE : Hid (L.length + [x].length ≤ 4000000000) := Lib.hid (by simp; omega)
      clear cc hxx htk
      subst e1'
      go_wp2_with (at_builtin; refine wpList_appB (.tmp 43) (.tmp 46) w.heap.size (.slice A4 L.length c4) L (some ⟨wr.heap.size, 0, none⟩) 1 [x] rfl rfl (by rfl) HRO.out (by rfl) (fun h => by cases h) (rd_one wr _ x) HLE.out HBO.out.size ?_; intro v5 w5 ho5 hb5 _ _; obtain ⟨A5, c5, rfl, _⟩ := ho5.rd; have HO5 := Lib.hid ho5; have HB5 := Lib.hid (HBO.out.trans hb5); clear ho5 hb5; generalize L ++ [x] = L5 at HTK HO5 ⊢)
      go_roundw
      case measure => simp [intOf]; omega
      case rel => exact ⟨t + 1, L5, A5, c5, by go_num, rfl, by omega, Lib.hid HTK.out.symm, HO5, HB5⟩
    · have hall : ls.take t = ls := List.take_of_length_le (by rw [← HNL.out]; omega)
      have HLH : Hid (L = headB n 1 ls) := Lib.hid (by rw [HL.out, hall, HL3.out, HL2.out, HNL.out]; simp [headB])
      have hLH : L.length ≤ 1054 := by omega
      clear hall hLl HL HL3 HL2 hl3 hl2
      obtain ⟨d1, d2, d3⟩ := HK.out wr HB.out
      go_wp2
      go_loopw [3, 54] (fun a s wr => ∃ (t : Nat) (L : List Nat) (A4 : Option Addr) (c4 : Nat), s = .int .i64 t ∧ a = .slice A4 L.length c4 ∧ t ≤ np ∧ Hid (L = headB n 1 ls ++ bodyB 1 (ps.take t)) ∧ L.length ≤ 200000 ∧ Hid (OwnB wr w.heap.size (.slice A4 L.length c4) L) ∧ Hid (Below w.heap.size w wr)) (fun _ s _ => np - (intOf s).toNat)
      case atStart => exact ⟨0, L, A4, c4, rfl, rfl, by omega, Lib.hid (by rw [HLH.out]; simp [bodyB]), by omega, HO, HB⟩
      case round =>
        have hHL : (headB n 1 ls).length ≤ 1054 := by rw [← HLH.out]; exact hLH
        clear HO HB HLH hLH d1 d2 d3
        obtain ⟨t, L, A4, c4, rfl, rfl, ht, HL, hL20, HO, HB⟩ := hrel
        have hszr := HB.out.size
        obtain ⟨d1, d2, d3⟩ := HK.out _ HB.out
        have hpr : p < wr.heap.size := by omega
        by_cases hlt : t < np
        · obtain ⟨q, hq⟩ : ∃ q, ps[t]? = some q := ⟨_, List.getElem?_eq_getElem (by rw [← HNP.out]; exact hlt)⟩
          obtain ⟨Aq, cq, hc0, hc1, hrq, hAq, hcq, _⟩ := ((HPT.out t q hq).below HB.out).it
          obtain ⟨hq1, hq2, hq3⟩ := psOk_at HPS.out hq
          have hap := HAP.out (by omega)
          subst hap
          have htk : headB n 1 ls ++ bodyB 1 (ps.take (t + 1)) = L ++ (uv q.2 ++ q.1) := by
            rw [List.take_add_one, hq, Option.toList_some, bodyB_snoc, ← List.append_assoc, ← HL.out]
            simp [blkB]
          have hL20' : (headB n 1 ls ++ bodyB 1 (ps.take (t + 1))).length ≤ 200000 := by
            rw [List.length_append]
            have := take_psok (kind := 1) HPS.out (t + 1)
            omega
          rw [htk] at hL20'
          obtain ⟨bq, hbq⟩ : ∃ bq, bq = q.1 := ⟨_, rfl⟩
          obtain ⟨nq, hnq⟩ : ∃ nq, nq = q.2 := ⟨_, rfl⟩
          obtain ⟨lq, hlq⟩ : ∃ lq, lq = q.1.length := ⟨_, rfl⟩
          have HLQ : Hid (lq = bq.length) := Lib.hid (by rw [hlq, hbq])
          rw [← hlq] at hq1 hcq hAq hc0
          rw [← hnq] at hc1 hq2
          rw [← hnq] at htk hL20'
          rw [← hbq] at htk hL20' hrq
          have HTK := Lib.hid htk
          have HTL := Lib.hid hL20'
          have HRQ := Lib.hid hrq
          have HAQ := Lib.hid hAq
          have ev : IntKind.u64.wrap (nq : Int) = (nq : Int) := by rw [IntKind.wrap_u64]; omega
          have HBO := Lib.hid (HB.out.alloc hszr (.cells #[.slice Aq lq cq, .int .i64 nq] 61))
          have HPU := Lib.hid (PutUvarint_any A4 c4 L nq (wr.alloc (.cells #[.slice Aq lq cq, .int .i64 nq] 61)) (own_rd_of (HO.out.below (bel9 _ _))).1 (by omega) (by omega))
          have hbx : (wr.alloc (.cells #[.slice Aq lq cq, .int .i64 nq] 61)).cell? ⟨wr.heap.size, 0, none⟩ = some (.slice Aq lq cq) := by simp
          have HBX := Lib.hid hbx
          have HHA := Lib.hid (bel9 wr (.cells #[.slice Aq lq cq, .int .i64 nq] 61))
          clear hq hbq hnq hlq htk hL20' hrq hAq hq3 hbx hL20
          go_wp2_with fail
          refine HPU.out.mono ?_
          rintro e w5 ⟨v5, rfl, ho5, hb5⟩
          obtain ⟨A5, c5, rfl, _⟩ := ho5.rd
          have hb5' : Below w.heap.size (wr.alloc (.cells #[.slice Aq lq cq, .int .i64 nq] 61)) w5 := hb5.mono HBO.out.size
          have HB5 := Lib.hid (HBO.out.trans hb5')
          have HO5 := Lib.hid (ho5.lower HBO.out.size)
          have hbx5 : w5.cell? ⟨wr.heap.size, 0, none⟩ = some (.slice Aq lq cq) := cell_kept hb5 HBX.out
          have HRQ5 := Lib.hid ((HRQ.out.below HHA.out).below hb5)
          obtain ⟨L5, hL5⟩ : ∃ L5, L5 = L ++ uv nq := ⟨_, rfl⟩
          rw [← hL5] at HO5 ⊢
          have HTK2 : Hid (headB n 1 ls ++ bodyB 1 (ps.take (t + 1)) = L5 ++ bq) := Lib.hid (by rw [HTK.out, hL5, List.append_assoc])
          have HTL2 : Hid ((L5 ++ bq).length ≤ 200000) := Lib.hid (by have := HTL.out; rw [← List.append_assoc, ← hL5] at this; exact this)
          have HLL : Hid (L5.length + bq.length ≤ 4000000000) := Lib.hid (by have := HTL2.out; rw [List.length_append] at this; omega)
          have HAQ2 : Hid (Aq = none → bq.length = 0 ∧ cq = 0) := Lib.hid (by rw [← HLQ.out]; exact HAQ.out)
          clear ho5 hb5 hb5' hL5 HPU HBX HHA
          rw [HLQ.out] at hbx5 ⊢
          go_wp2_with (at_builtin; refine wpList_appB (.tmp 74) (.tmp 76) w.heap.size (.slice A5 L5.length c5) L5 Aq cq bq rfl rfl (by rfl) HO5.out (by rfl) HAQ2.out HRQ5.out HLL.out HB5.out.size ?_; intro v6 w6 ho6 hb6 _ _; obtain ⟨A6, c6, rfl, _⟩ := ho6.rd; have HO6 := Lib.hid ho6; have HB6 := Lib.hid (HB5.out.trans hb6); clear ho6 hb6; generalize L5 ++ bq = L6 at HTK2 HTL2 HO6 ⊢)
          go_roundw
          case measure => simp [intOf]; omega
          case rel => exact ⟨t + 1, L6, A6, c6, by go_num, rfl, by omega, Lib.hid HTK2.out.symm, HTL2.out, HO6, HB6⟩
        · have hall : ps.take t = ps := List.take_of_length_le (by rw [← HNP.out]; omega)
          have HF : Hid (payL n 1 ls ps = L) := Lib.hid (by rw [HHD.out, HL.out, hall])
          clear hall
          go_wp2
          go_ret
          rw [HF.out]
          exact ⟨_, rfl, HO.out, HB.out⟩
end Go.Proofs.Ytnldnaogbadajaa.Tb

/- tokens.Build, walked. -/
set_option linter.unusedVariables false
set_option linter.unusedSimpArgs false
namespace Go.Proofs.Ytnldnaogbadajaa.Tb
open Go.RowKit

/-! ### plain -/
def ps0 (xs : List Nat) : List (List Nat × Nat) := partsK pk0 xs (nblk xs.length)
def ps1 (xs : List Nat) : List (List Nat × Nat) := partsK (pk1 (lensL xs)) xs (nblk xs.length)
def pay0 (xs : List Nat) : List Nat := payL xs.length 0 [] (ps0 xs)
def pay1 (xs : List Nat) : List Nat := payL xs.length 1 (lensL xs) (ps1 xs)
def kindL (xs : List Nat) : Nat := if (pay1 xs).length < (pay0 xs).length then 1 else 0
def lsL (xs : List Nat) : List Nat := if (pay1 xs).length < (pay0 xs).length then lensL xs else []
def psL (xs : List Nat) : List (List Nat × Nat) := if (pay1 xs).length < (pay0 xs).length then ps1 xs else ps0 xs
theorem packL_len {xs : List Nat} (h : xs.length ≤ 64) (hx : Lt31 xs) : (packL xs).length ≤ 2000 := by
  unfold packL blkW
  have h1 := bestW_lt xs
  have h2 := excW_len (bestW xs) xs 1 (by omega) (fun v hv => by have := hx v hv; omega)
  have h3 := uv_len10 (v := xs.length) (by omega)
  have h4 := uv_len10 (v := bestW xs) (by omega)
  have h5 := uv_len10 (v := cntW (bestW xs) xs) (by have := cntW_le (bestW xs) xs; omega)
  have h6 : xs.length * bestW xs ≤ 64 * 31 := Nat.mul_le_mul h (by omega)
  simp only [List.length_append, pk_len, bitsW_len]
  omega
theorem nblk_le {n : Nat} (h : n ≤ 4096) : nblk n ≤ 64 := by unfold nblk; omega
theorem partsK_mem {f : List Nat → List Nat × Nat} {xs : List Nat} {k : Nat} {q : List Nat × Nat} (h : q ∈ partsK f xs k) : ∃ j, j < k ∧ q = f (chunk xs j) := by
  unfold partsK at h
  obtain ⟨j, hj, rfl⟩ := List.mem_map.1 h
  exact ⟨j, List.mem_range.1 hj, rfl⟩
theorem Lt1024.lt31 {xs : List Nat} (h : Lt1024 xs) : Lt31 xs := fun v hv => by have := h.lt v hv; omega
theorem ps0_ok {xs : List Nat} (hl : xs.length ≤ 4096) (h : Lt1024 xs) : PsOk (ps0 xs) := ⟨by unfold ps0; rw [partsK_len]; exact nblk_le hl, fun q hq => by
  obtain ⟨j, _, rfl⟩ := partsK_mem hq
  exact ⟨packL_len (by rw [chunk_len]; omega) (fun v hv => h.lt31 v (chunk_mem hv)), by simp [pk0], fun x hx => blkW_byt _ _ x hx⟩⟩
theorem ps1_ok {xs : List Nat} (hl : xs.length ≤ 4096) (h : Lt1024 xs) : PsOk (ps1 xs) := ⟨by unfold ps1; rw [partsK_len]; exact nblk_le hl, fun q hq => by
  obtain ⟨j, _, rfl⟩ := partsK_mem hq
  have h1 := encB_len_le (lens_lenOk h) (chunk xs j)
  rw [chunk_len] at h1
  exact ⟨by simp only [pk1, pk_len]; omega, by simp only [pk1]; omega, fun x hx => pk_byt _ x hx⟩⟩
theorem lens_byt {xs : List Nat} (h : Lt1024 xs) : Byt (lensL xs) := fun x hx => by have := (lens_lenOk h).le x hx; omega
theorem lens_1024 {xs : List Nat} (h : Lt1024 xs) : (lensL xs).length ≤ 1024 := (lens_lenOk h).len
/-- Integers read so. -/
def RdZ (w : World) (A : Option Addr) (zs : List Int) : Prop := 0 < zs.length → ∃ b off, A = some ⟨b, off, none⟩ ∧ ∀ j, j < zs.length → w.cell? ⟨b, off + j, none⟩ = some (.int .i64 (zs.getD j 0))
theorem RdZ.nat {w : World} {A : Option Addr} {zs : List Int} (h : RdZ w A zs) (hz : ∀ z ∈ zs, 0 ≤ z) : RdN w A (zs.map Int.toNat) := by
  intro hl
  rw [List.length_map] at hl
  obtain ⟨b, off, e, hc⟩ := h hl
  refine ⟨b, off, e, fun j hj => ?_⟩
  rw [List.length_map] at hj
  rw [hc j hj, List.getD_eq_getElem?_getD, List.getD_eq_getElem?_getD, List.getElem?_map, List.getElem?_eq_getElem hj]
  have := hz zs[j] (List.getElem_mem hj)
  simp only [Option.map_some, Option.getD_some]
  congr 2
  omega
theorem RdN.int {w : World} {A : Option Addr} {xs : List Nat} (h : RdN w A xs) : RdZ w A (xs.map Int.ofNat) := by
  intro hl
  rw [List.length_map] at hl
  obtain ⟨b, off, e, hc⟩ := h hl
  refine ⟨b, off, e, fun j hj => ?_⟩
  rw [List.length_map] at hj
  rw [hc j hj, List.getD_eq_getElem?_getD, List.getD_eq_getElem?_getD, List.getElem?_map, List.getElem?_eq_getElem hj]
  rfl
def checkZ (zs : List Int) : Int := if 4096 < zs.length then 2 else if zs.all (fun z => decide (0 ≤ z) && decide (z < 1024)) then 0 else 8

set_option maxRecDepth 100000 in
set_option maxHeartbeats 6400000 in
/-- Lists that have no stream. -/
theorem Build_bad (A : Option Addr) (c : Nat) (zs : List Int) (w : World) (hr : RdZ w A zs) (hm : zs.length ≤ 1000000) (hb : checkZ zs ≠ 0) :
    Calls Try.prog 13 #[.slice A zs.length c] w fun e w' => e = .returned (.tuple #[.pointer none, .int .i64 (checkZ zs)]) ∧ w' = w := by
  have HCK : Hid (checkZ zs = if 4096 < zs.length then 2 else if zs.all (fun z => decide (0 ≤ z) && decide (z < 1024)) then 0 else 8) := Lib.hid rfl
  have HBD := Lib.hid hb
  have HA := Lib.hid hr
  obtain ⟨n, hn⟩ : ∃ n, n = zs.length := ⟨_, rfl⟩
  rw [← hn] at hm HCK ⊢
  have HN := Lib.hid hn
  clear hr hn hb
  by_cases h1 : 4096 < n
  · have t1 : (4096 : Int) < (n : Int) := by omega
    have HF : Hid (checkZ zs = 2) := Lib.hid (by rw [HCK.out, if_pos h1])
    go_enter Try.func13, Try.ntmps13
    go_wp2
    go_ret2
    rw [HF.out]
    exact ⟨rfl, rfl⟩
  · have t1 : ¬ (4096 : Int) < (n : Int) := by omega
    rw [if_neg h1] at HCK
    go_enter Try.func13, Try.ntmps13
    go_wp2
    go_loop [13] (fun s => ∃ (t : Nat), s = .int .i64 t ∧ t ≤ n ∧ Hid (∀ z ∈ zs.take t, 0 ≤ z ∧ z < 1024)) (fun s => n - (intOf s).toNat)
    case atStart => exact ⟨0, rfl, by omega, Lib.hid (fun z hz => by simp at hz)⟩
    case round =>
      obtain ⟨t, rfl, ht, HALL⟩ := hrel
      by_cases hlt : t < n
      · obtain ⟨b1, o1, e1, cc⟩ := HA.out (by rw [← HN.out]; omega)
        have ck := cc t (by rw [← HN.out]; exact hlt)
        have htk : zs.take (t + 1) = zs.take t ++ [zs.getD t 0] := take_snoc 0 zs t (by rw [← HN.out]; exact hlt)
        have hmem : zs.getD t 0 ∈ zs := by rw [List.getD_eq_getElem?_getD, List.getElem?_eq_getElem (by rw [← HN.out]; exact hlt)]; exact List.getElem_mem _
        obtain ⟨x, hxx⟩ : ∃ x, x = zs.getD t 0 := ⟨_, rfl⟩
        rw [← hxx] at ck htk hmem
        have HNO : Hid (¬ (0 ≤ x ∧ x < 1024) → checkZ zs = 8) := Lib.hid (fun h => by
          rw [HCK.out, if_neg]
          intro h2
          have := List.all_eq_true.1 h2 x hmem
          simp only [Bool.and_eq_true, decide_eq_true_eq] at this
          exact h this)
        have HTK : Hid (0 ≤ x → x < 1024 → ∀ z ∈ zs.take (t + 1), 0 ≤ z ∧ z < 1024) := Lib.hid (fun h1 h2 z hz => by
          rw [htk] at hz
          rcases List.mem_append.1 hz with hz | hz
          · exact HALL.out z hz
          · have e := List.mem_singleton.1 hz
            rw [e]; exact ⟨h1, h2⟩)
        clear cc htk hmem hxx
        subst e1
        by_cases hx0 : x < 0
        · have HF : Hid (checkZ zs = 8) := Lib.hid (HNO.out (by omega))
          go_wp2
          go_ret2
          rw [HF.out]
          exact ⟨rfl, rfl⟩
        · by_cases hx1 : 1024 ≤ x
          · have HF : Hid (checkZ zs = 8) := Lib.hid (HNO.out (by omega))
            go_wp2
            go_ret2
            rw [HF.out]
            exact ⟨rfl, rfl⟩
          · have HT := Lib.hid (HTK.out (by omega) (by omega))
            go_wp2
            go_round
            case measure => simp [intOf]; omega
            case rel => exact ⟨t + 1, by go_num, by omega, HT⟩
      · exfalso
        have hall : zs.take t = zs := List.take_of_length_le (by rw [← HN.out]; omega)
        rw [hall] at HALL
        refine HBD.out ?_
        rw [HCK.out, if_pos (List.all_eq_true.2 fun z hz => by have := HALL.out z hz; simp [this])]

set_option maxRecDepth 100000 in
set_option maxHeartbeats 6400000 in
theorem Build_ok (A : Option Addr) (c : Nat) (xs : List Nat) (w : World) (hr : RdN w A xs) (hl : xs.length ≤ 4096) (hc : xs.length ≤ c) (hx : Lt1024 xs) :
    Calls Try.prog 13 #[.slice A xs.length c] w fun e w' => ∃ p, e = .returned (.tuple #[.pointer (some ⟨p, 0, none⟩), .int .i64 0]) ∧ Str w' p xs.length (kindL xs) (lsL xs) (psL xs) 0 (.slice none 0 0) ∧ w.heap.size ≤ p ∧ Below w.heap.size w w' := by
  have HPK := Lib.hid (packed_any A c xs w hr hl hc hx.lt31)
  have HCO := Lib.hid (fun (W : World) (hb : Below w.heap.size w W) => coded_any A c xs W (hr.below hb) hl hc hx)
  have HX := Lib.hid hx
  have HP0 := Lib.hid (ps0_ok hl hx)
  have HP1 := Lib.hid (ps1_ok hl hx)
  have HLB := Lib.hid (lens_byt hx)
  have HL1 := Lib.hid (lens_1024 hx)
  have HA := Lib.hid hr
  have HD0 : Hid (pay0 xs = payL xs.length 0 [] (ps0 xs) ∧ ps0 xs = partsK pk0 xs (nblk xs.length)) := Lib.hid ⟨rfl, rfl⟩
  have HD1 : Hid (pay1 xs = payL xs.length 1 (lensL xs) (ps1 xs) ∧ ps1 xs = partsK (pk1 (lensL xs)) xs (nblk xs.length)) := Lib.hid ⟨rfl, rfl⟩
  obtain ⟨n, hn⟩ : ∃ n, n = xs.length := ⟨_, rfl⟩
  rw [← hn] at hl hc HPK HCO HD0 HD1 ⊢
  have HN := Lib.hid hn
  clear hr hx hn
  go_enter Try.func13, Try.ntmps13
  go_wp2
  go_loop [13] (fun s => ∃ (t : Nat), s = .int .i64 t ∧ t ≤ n) (fun s => n - (intOf s).toNat)
  case atStart => exact ⟨0, rfl, by omega⟩
  case round =>
    obtain ⟨t, rfl, ht⟩ := hrel
    by_cases hlt : t < n
    · obtain ⟨b1, o1, e1, cc⟩ := HA.out (by rw [← HN.out]; omega)
      have ck := cc t (by rw [← HN.out]; exact hlt)
      have hx1 := HX.out.lt (xs.getD t 0) (by rw [List.getD_eq_getElem?_getD, List.getElem?_eq_getElem (by rw [← HN.out]; exact hlt)]; exact List.getElem_mem _)
      obtain ⟨x, hxx⟩ : ∃ x, x = xs.getD t 0 := ⟨_, rfl⟩
      rw [← hxx] at ck hx1
      have t2 : ¬ (x : Int) < 0 := by omega
      have t3 : ¬ (1024 : Int) ≤ (x : Int) := by omega
      clear cc hxx
      subst e1
      go_wp2
      go_round
      case measure => simp [intOf]; omega
      case rel => exact ⟨t + 1, by go_num, by omega⟩
    · go_wp2_with fail
      refine HPK.out.mono ?_
      rintro e w1 ⟨ts0, v0, rfl, hs0, hp0, hb0⟩
      have HS0 := Lib.hid hs0.str
      rw [hp0, ← HD0.out.2] at HS0
      have HB0 := Lib.hid hb0
      clear hs0 hp0 hb0 HPK
      go_wp2_with fail
      refine (HCO.out w1 HB0.out).mono ?_
      rintro e w2 ⟨p1, ts1, v1, vl1, rfl, hs1, hp1, hb1⟩
      have HLO : Hid (w.heap.size ≤ p1) := Lib.hid (Nat.le_trans HB0.out.size hs1.low)
      have HS1 := Lib.hid hs1.str
      rw [hp1, ← HD1.out.2] at HS1
      have HS02 := Lib.hid (HS0.out.below hb1)
      have HB1 := Lib.hid (HB0.out.trans (hb1.mono HB0.out.size))
      have HY1 := Lib.hid (payload_1 w2 p1 n (lensL xs) (ps1 xs) 0 _ HS1.out hl HL1.out HLB.out HP1.out)
      rw [← HD1.out.1] at HY1
      clear hs1 hp1 hb1 HCO HS0 HB0
      go_wp2_with fail
      refine HY1.out.mono ?_
      rintro e w3 ⟨v3, rfl, ho3, hb3⟩
      obtain ⟨A3, c3, rfl, _⟩ := ho3.rd
      have HS13 := Lib.hid (HS1.out.below hb3)
      have HS03 := Lib.hid (HS02.out.below hb3)
      have HB3 := Lib.hid (HB1.out.trans (hb3.mono HB1.out.size))
      have HY0 := Lib.hid (payload_0 w3 w.heap.size n [] (ps0 xs) 0 _ HS03.out hl (by simp) (fun x h => by cases h) HP0.out)
      rw [← HD0.out.1] at HY0
      obtain ⟨y1, hy1⟩ : ∃ y1, y1 = (pay1 xs).length := ⟨_, rfl⟩
      rw [← hy1]
      have HYE1 := Lib.hid hy1
      clear ho3 hb3 hy1 HY1 HS1 HS02 HB1
      go_wp2_with fail
      refine HY0.out.mono ?_
      rintro e w4 ⟨v4, rfl, ho4, hb4⟩
      obtain ⟨A4, c4, rfl, _⟩ := ho4.rd
      have HS14 := Lib.hid (HS13.out.below hb4)
      have HS04 := Lib.hid (HS03.out.below hb4)
      have HB4 := Lib.hid (HB3.out.trans (hb4.mono HB3.out.size))
      obtain ⟨y0, hy0⟩ : ∃ y0, y0 = (pay0 xs).length := ⟨_, rfl⟩
      rw [← hy0]
      have HYE0 := Lib.hid hy0
      clear ho4 hb4 hy0 HY0 HS13 HS03 HB3
      by_cases hy : y1 < y0
      · have t5 : (y1 : Int) < (y0 : Int) := by omega
        have HF : Hid (kindL xs = 1 ∧ lsL xs = lensL xs ∧ psL xs = ps1 xs) := Lib.hid (by unfold kindL lsL psL; rw [← HYE1.out, ← HYE0.out, if_pos hy, if_pos hy, if_pos hy]; exact ⟨rfl, rfl, rfl⟩)
        go_wp2
        go_ret2
        obtain ⟨h1, h2, h3⟩ := HF.out
        rw [h1, h2, h3]
        exact ⟨p1, rfl, HS14.out, HLO.out, HB4.out⟩
      · have t5 : ¬ (y1 : Int) < (y0 : Int) := by omega
        have HF : Hid (kindL xs = 0 ∧ lsL xs = [] ∧ psL xs = ps0 xs) := Lib.hid (by unfold kindL lsL psL; rw [← HYE1.out, ← HYE0.out, if_neg hy, if_neg hy, if_neg hy]; exact ⟨rfl, rfl, rfl⟩)
        go_wp2
        go_ret2
        obtain ⟨h1, h2, h3⟩ := HF.out
        rw [h1, h2, h3]
        exact ⟨w.heap.size, rfl, HS04.out, Nat.le_refl _, HB4.out⟩
end Go.Proofs.Ytnldnaogbadajaa.Tb

/- Tokens: Len, Kind, Encode; the reference's Check; the law's own helpers. -/
set_option linter.unusedVariables false
set_option linter.unusedSimpArgs false
namespace Go.Proofs.Ytnldnaogbadajaa.Tb
open Go.RowKit

theorem payload_any (w : World) (p n kind : Nat) (ls : List Nat) (ps : List (List Nat × Nat)) (last : Nat) (bv : Value) (hS : Str w p n kind ls ps last bv) (hk : kind ≤ 1) (hn : n ≤ 4096) (hl : ls.length ≤ 1024) (hb : Byt ls) (hp : PsOk ps) :
    Calls Try.prog 25 #[.pointer (some ⟨p, 0, none⟩)] w fun e w' => ∃ v', e = .returned v' ∧ OwnB w' w.heap.size v' (payL n kind ls ps) ∧ Below w.heap.size w w' := by
  rcases (show kind = 0 ∨ kind = 1 by omega) with rfl | rfl
  · exact payload_0 w p n ls ps last bv hS hn hl hb hp
  · exact payload_1 w p n ls ps last bv hS hn hl hb hp
theorem payL_byt {n kind : Nat} {ls : List Nat} {ps : List (List Nat × Nat)} (hb : Byt ls) (hp : PsOk ps) : Byt (payL n kind ls ps) := fun x hx => by
  unfold payL at hx
  rcases List.mem_append.1 hx with hx | hx
  · exact headB_byt hb x hx
  · exact bodyB_byt ps hp.ok x hx
theorem payL_len {n kind : Nat} {ls : List Nat} {ps : List (List Nat × Nat)} (hn : n ≤ 4096) (hk : kind ≤ 1) (hl : ls.length ≤ 1024) (hp : PsOk ps) : (payL n kind ls ps).length ≤ 130000 := by
  unfold payL
  have h1 := headB_len (n := n) (kind := kind) (ls := ls) hn hk hl
  have h2 := bodyB_len (kind := kind) ps hp.ok
  have h3 : 2010 * ps.length ≤ 2010 * 64 := Nat.mul_le_mul_left _ hp.len
  rw [List.length_append]
  omega
set_option maxHeartbeats 1600000 in
theorem TLen_any (w : World) (p n kind : Nat) (ls : List Nat) (ps : List (List Nat × Nat)) (last : Nat) (bv : Value) (hS : Str w p n kind ls ps last bv) :
    Calls Try.prog 10 #[.pointer (some ⟨p, 0, none⟩)] w fun e w' => e = .returned (.int .i64 n) ∧ w' = w := by
  obtain ⟨Al, cl, Ap, cp, g, hblk, _⟩ := hS.it
  have a0 : w.cell? ⟨p, 0, none⟩ = some (.int .i64 n) := hblk.cell 0
  clear hblk hS
  go_enter Try.func10, Try.ntmps10
  go_wp2
  go_ret
  exact ⟨rfl, rfl⟩
set_option maxHeartbeats 1600000 in
theorem TKind_any (w : World) (p n kind : Nat) (ls : List Nat) (ps : List (List Nat × Nat)) (last : Nat) (bv : Value) (hS : Str w p n kind ls ps last bv) :
    Calls Try.prog 18 #[.pointer (some ⟨p, 0, none⟩)] w fun e w' => e = .returned (.int .i64 kind) ∧ w' = w := by
  obtain ⟨Al, cl, Ap, cp, g, hblk, _⟩ := hS.it
  have a0 : w.cell? ⟨p, 1, none⟩ = some (.int .i64 kind) := hblk.cell 1
  clear hblk hS
  go_enter Try.func18, Try.ntmps18
  go_wp2
  go_ret
  exact ⟨rfl, rfl⟩
set_option maxHeartbeats 1600000 in
theorem TEncode_any (w : World) (p n kind : Nat) (ls : List Nat) (ps : List (List Nat × Nat)) (last : Nat) (bv : Value) (hS : Str w p n kind ls ps last bv) (hk : kind ≤ 1) (hn : n ≤ 4096) (hl : ls.length ≤ 1024) (hb : Byt ls) (hp : PsOk ps) :
    Calls Try.prog 16 #[.pointer (some ⟨p, 0, none⟩)] w fun e w' => ∃ v', e = .returned v' ∧ OwnB w' w.heap.size v' (sealL (payL n kind ls ps)) ∧ Below w.heap.size w w' := by
  have HP := Lib.hid (payload_any w p n kind ls ps last bv hS hk hn hl hb hp)
  have HBY := Lib.hid (payL_byt (n := n) (kind := kind) hb hp)
  have hle := payL_len hn hk hl hp
  obtain ⟨L, hL⟩ : ∃ L, L = payL n kind ls ps := ⟨_, rfl⟩
  rw [← hL] at HP HBY hle ⊢
  clear hS hb hp hL hl
  go_enter Try.func16, Try.ntmps16
  go_wp2_with fail
  refine HP.out.mono ?_
  rintro e w1 ⟨v1, rfl, ho1, hb1⟩
  obtain ⟨A1, c1, rfl, hrd, hA, hc, _⟩ := ho1.rd
  have HSE := Lib.hid (Seal_any A1 c1 L w1 hrd hA hc HBY.out (by omega))
  have HB1 := Lib.hid hb1
  clear ho1 hrd hA hc hb1 HP
  go_wp2_with fail
  refine HSE.out.mono ?_
  rintro e w2 ⟨v2, rfl, ho2, hb2⟩
  have HO2 := Lib.hid (ho2.lower HB1.out.size)
  have HB2 := Lib.hid (HB1.out.trans (hb2.mono HB1.out.size))
  clear ho2 hb2 HSE
  go_wp2
  go_ret
  exact ⟨v2, rfl, HO2.out, HB2.out⟩

set_option maxRecDepth 100000 in
set_option maxHeartbeats 6400000 in
theorem Check16_any (A : Option Addr) (c : Nat) (zs : List Int) (w : World) (hr : RdZ w A zs) (hm : zs.length ≤ 1000000) :
    Calls Try.prog 21 #[.slice A zs.length c] w fun e w' => e = .returned (.int .i64 (checkZ zs)) ∧ w' = w := by
  have HCK : Hid (checkZ zs = if 4096 < zs.length then 2 else if zs.all (fun z => decide (0 ≤ z) && decide (z < 1024)) then 0 else 8) := Lib.hid rfl
  have HA := Lib.hid hr
  obtain ⟨n, hn⟩ : ∃ n, n = zs.length := ⟨_, rfl⟩
  rw [← hn] at hm HCK ⊢
  have HN := Lib.hid hn
  clear hr hn
  by_cases h1 : 4096 < n
  · have t1 : (4096 : Int) < (n : Int) := by omega
    have HF : Hid (checkZ zs = 2) := Lib.hid (by rw [HCK.out, if_pos h1])
    go_enter Try.func21, Try.ntmps21
    go_wp2
    go_ret
    rw [HF.out]
    exact ⟨rfl, rfl⟩
  · have t1 : ¬ (4096 : Int) < (n : Int) := by omega
    rw [if_neg h1] at HCK
    go_enter Try.func21, Try.ntmps21
    go_wp2
    go_loop [10] (fun s => ∃ (t : Nat), s = .int .i64 t ∧ t ≤ n ∧ Hid (∀ z ∈ zs.take t, 0 ≤ z ∧ z < 1024)) (fun s => n - (intOf s).toNat)
    case atStart => exact ⟨0, rfl, by omega, Lib.hid (fun z hz => by simp at hz)⟩
    case round =>
      obtain ⟨t, rfl, ht, HALL⟩ := hrel
      by_cases hlt : t < n
      · obtain ⟨b1, o1, e1, cc⟩ := HA.out (by rw [← HN.out]; omega)
        have ck := cc t (by rw [← HN.out]; exact hlt)
        have htk : zs.take (t + 1) = zs.take t ++ [zs.getD t 0] := take_snoc 0 zs t (by rw [← HN.out]; exact hlt)
        have hmem : zs.getD t 0 ∈ zs := by rw [List.getD_eq_getElem?_getD, List.getElem?_eq_getElem (by rw [← HN.out]; exact hlt)]; exact List.getElem_mem _
        obtain ⟨x, hxx⟩ : ∃ x, x = zs.getD t 0 := ⟨_, rfl⟩
        rw [← hxx] at ck htk hmem
        have HNO : Hid (¬ (0 ≤ x ∧ x < 1024) → checkZ zs = 8) := Lib.hid (fun h => by
          rw [HCK.out, if_neg]
          intro h2
          have := List.all_eq_true.1 h2 x hmem
          simp only [Bool.and_eq_true, decide_eq_true_eq] at this
          exact h this)
        have HTK : Hid (0 ≤ x → x < 1024 → ∀ z ∈ zs.take (t + 1), 0 ≤ z ∧ z < 1024) := Lib.hid (fun h1 h2 z hz => by
          rw [htk] at hz
          rcases List.mem_append.1 hz with hz | hz
          · exact HALL.out z hz
          · have e := List.mem_singleton.1 hz
            rw [e]; exact ⟨h1, h2⟩)
        clear cc htk hmem hxx
        subst e1
        by_cases hx0 : x < 0
        · have HF : Hid (checkZ zs = 8) := Lib.hid (HNO.out (by omega))
          go_wp2
          go_ret
          rw [HF.out]
          exact ⟨rfl, rfl⟩
        · by_cases hx1 : 1024 ≤ x
          · have HF : Hid (checkZ zs = 8) := Lib.hid (HNO.out (by omega))
            go_wp2
            go_ret
            rw [HF.out]
            exact ⟨rfl, rfl⟩
          · have HT := Lib.hid (HTK.out (by omega) (by omega))
            go_wp2
            go_round
            case measure => simp [intOf]; omega
            case rel => exact ⟨t + 1, by go_num, by omega, HT⟩
      · have hall : zs.take t = zs := List.take_of_length_le (by rw [← HN.out]; omega)
        rw [hall] at HALL
        have HF : Hid (checkZ zs = 0) := Lib.hid (by rw [HCK.out, if_pos (List.all_eq_true.2 fun z hz => by have := HALL.out z hz; simp [this])])
        clear hall
        go_wp2
        go_ret
        rw [HF.out]
        exact ⟨rfl, rfl⟩

/-! ### the example -/
def ex5 : List Nat := [5, 5, 5]
theorem pack_ex : packL ex5 = [3, 3, 0, 182, 128] := by
  have h : bestW ex5 = 3 := by decide +kernel
  unfold packL
  rw [h]
  unfold blkW
  rw [show ex5.length = 3 from rfl, uv_lo (by omega), show cntW 3 ex5 = 0 by decide, uv_lo (by omega), show pk (bitsW 3 ex5) = [182, 128] by decide +kernel, show excW 3 1 ex5 = [] by simp [excW, ex5]]
  rfl
theorem ps_ex : ps0 ex5 = [([3, 3, 0, 182, 128], 0)] := by
  unfold ps0
  rw [show nblk ex5.length = 0 + 1 from rfl, partsK_succ, show chunk ex5 0 = ex5 from rfl, pk0, pack_ex]
  rfl
theorem pay_ex : pay0 ex5 = [3, 0, 5, 3, 3, 0, 182, 128] := by
  unfold pay0 payL headB
  rw [ps_ex]
  simp only [bodyB, blkB, if_true]
  rw [show ex5.length = 3 from rfl, uv_lo (v := 3) (by omega), uv_lo (v := 0) (by omega), show [3, 3, 0, 182, 128].length = 5 from rfl, uv_lo (v := 5) (by omega)]
  rfl
theorem no1_ex : ¬ (pay1 ex5).length < (pay0 ex5).length := by
  rw [pay_ex]
  unfold pay1 payL headB
  have h : (lensL ex5).length = 6 := by rw [lens_len]; rfl
  simp only [List.length_append, if_true, h]
  have h1 := uv_pos ex5.length
  have h2 := uv_pos 1
  have h3 := uv_pos 6
  simp only [List.length_cons, List.length_nil]
  omega
theorem ex_ok : Lt1024 ex5 := ⟨by decide⟩
theorem build_ex (b : Nat) (w : World) (h : RdN w (some ⟨b, 0, none⟩) ex5) : Calls Try.prog 13 #[.slice (some ⟨b, 0, none⟩) 3 3] w fun e w' => ∃ p, e = .returned (.tuple #[.pointer (some ⟨p, 0, none⟩), .int .i64 0]) ∧ Str w' p 3 0 [] (ps0 ex5) 0 (.slice none 0 0) ∧ Below w.heap.size w w' := by
  refine (Build_ok (some ⟨b, 0, none⟩) 3 ex5 w h (by decide) (by decide) ex_ok).mono ?_
  rintro e w' ⟨p, rfl, hs, _, hb⟩
  unfold kindL lsL psL at hs
  rw [if_neg no1_ex, if_neg no1_ex, if_neg no1_ex] at hs
  exact ⟨p, rfl, hs, hb⟩
theorem enc_ex (p : Nat) (w : World) (h : Str w p 3 0 [] (ps0 ex5) 0 (.slice none 0 0)) : Calls Try.prog 16 #[.pointer (some ⟨p, 0, none⟩)] w fun e w' => ∃ b o c, e = .returned (.slice (some ⟨b, o, none⟩) 12 c) ∧ 12 ≤ c ∧ (convert 40 9 (.slice (some ⟨b, o, none⟩) 8 c)).run Try.prog w' = .ok (.string ⟨#[3, 0, 5, 3, 3, 0, 182, 128]⟩) w' ∧ Below w.heap.size w w' := by
  refine (TEncode_any w p 3 0 [] (ps0 ex5) 0 _ h (by omega) (by omega) (by simp) (fun x h => by cases h) (ps0_ok (by decide) ex_ok)).mono ?_
  rintro e w' ⟨v', rfl, ho, hb⟩
  rw [show payL 3 0 [] (ps0 ex5) = pay0 ex5 from rfl, pay_ex] at ho
  obtain ⟨A, c, rfl, hr, _, hc, _⟩ := ho.rd
  rw [sealL_len] at hc ⊢
  obtain ⟨b, o, e1, _⟩ := hr (by rw [sealL_len]; simp)
  subst e1
  refine ⟨b, o, c, rfl, hc, ?_, hb⟩
  have h8 := conv_B (c := c) (rdB_take (ps := [3, 0, 5, 3, 3, 0, 182, 128]) hr)
  rw [show strN [3, 0, 5, 3, 3, 0, 182, 128] = (⟨#[3, 0, 5, 3, 3, 0, 182, 128]⟩ : ByteArray) from by rfl] at h8
  exact h8
theorem rd_ex (w : World) : RdN (w.alloc (.cells #[.int .i64 5, .int .i64 5, .int .i64 5] 3)) (some ⟨w.heap.size, 0, none⟩) ex5 := fun _ => ⟨_, 0, rfl, fun j hj => by
  have hj' : j < 3 := hj
  rcases (show j = 0 ∨ j = 1 ∨ j = 2 by omega) with rfl | rfl | rfl <;> simp [ex5]⟩

set_option maxHeartbeats 4000000 in
theorem awake_any (w : World) : Calls Try.prog 11 #[] w fun e w' => e = .returned (.bool true) ∧ Below w.heap.size w w' := by
  go_enter Try.func11, Try.ntmps11
  go_wp2_with fail
  refine (build_ex w.heap.size _ (rd_ex w)).mono ?_
  rintro e w1 ⟨p, rfl, hs1, hb1⟩
  have HS1 := Lib.hid hs1
  have HB1 := Lib.hid ((bel9 w (.cells #[.int .i64 5, .int .i64 5, .int .i64 5] 3)).trans (hb1.mono (bel9 w _).size))
  clear hs1 hb1
  go_wp2_with fail
  refine (TKind_any w1 p 3 0 [] _ 0 _ HS1.out).mono ?_
  rintro e w2 ⟨rfl, rfl⟩
  go_wp2_with fail
  refine (enc_ex p w2 HS1.out).mono ?_
  rintro e w3 ⟨b3, o3, c3, rfl, hc3, _, hb3⟩
  have HS3 := Lib.hid (HS1.out.below hb3)
  have HB3 := Lib.hid (HB1.out.trans (hb3.mono HB1.out.size))
  clear hb3 hc3
  go_wp2_with fail
  refine (enc_ex p w3 HS3.out).mono ?_
  rintro e w4 ⟨b4, o4, c4, rfl, hc4, hcv, hb4⟩
  have HB4 := Lib.hid (HB3.out.trans (hb4.mono HB3.out.size))
  have g1 : (8 : Int) ≤ (c4 : Int) := by omega
  clear hb4
  go_wp2
  go_ret
  exact ⟨rfl, HB4.out⟩

/-! ### built -/
theorem check_nat {xs : List Nat} (hl : xs.length ≤ 4096) (h : Lt1024 xs) : checkZ (xs.map Int.ofNat) = 0 := by
  unfold checkZ
  rw [List.length_map, if_neg (by omega), if_pos (List.all_eq_true.2 fun z hz => by
    obtain ⟨x, hx, rfl⟩ := List.mem_map.1 hz
    have := h.lt x hx
    simp only [Int.ofNat_eq_natCast, Bool.and_eq_true, decide_eq_true_eq]
    omega)]
set_option maxHeartbeats 4000000 in
theorem built_ok (A : Option Addr) (c : Nat) (xs : List Nat) (w : World) (hr : RdN w A xs) (hl : xs.length ≤ 4096) (hc : xs.length ≤ c) (hx : Lt1024 xs) :
    Calls Try.prog 9 #[.slice A xs.length c] w fun e w' => ∃ p, e = .returned (.tuple #[.pointer (some ⟨p, 0, none⟩), .bool true]) ∧ Str w' p xs.length (kindL xs) (lsL xs) (psL xs) 0 (.slice none 0 0) ∧ w.heap.size ≤ p ∧ Below w.heap.size w w' := by
  have HB := Lib.hid (Build_ok A c xs w hr hl hc hx)
  have HC := Lib.hid (fun (w1 : World) (hb : Below w.heap.size w w1) => Check16_any A c (xs.map Int.ofNat) w1 (hr.below hb).int (by rw [List.length_map]; omega))
  rw [check_nat hl hx, List.length_map] at HC
  obtain ⟨n, hn⟩ : ∃ n, n = xs.length := ⟨_, rfl⟩
  rw [← hn] at HB HC ⊢
  clear hr hx hn hl hc
  go_enter Try.func9, Try.ntmps9
  go_wp2_with fail
  refine HB.out.mono ?_
  rintro e w1 ⟨p, rfl, hi, hp, hb1⟩
  have HI := Lib.hid hi
  have HC1 := Lib.hid (HC.out w1 hb1)
  have HB1 := Lib.hid hb1
  clear hi hb1 HB HC
  go_wp2_with fail
  refine HC1.out.mono ?_
  rintro e w2 ⟨rfl, rfl⟩
  go_wp2
  go_ret2
  exact ⟨p, rfl, HI.out, hp, HB1.out⟩
theorem checkZ_val (zs : List Int) : checkZ zs = 0 ∨ checkZ zs = 2 ∨ checkZ zs = 8 := by
  unfold checkZ
  split
  · simp
  · split <;> simp
set_option maxHeartbeats 4000000 in
theorem built_bad (A : Option Addr) (c : Nat) (zs : List Int) (w : World) (hr : RdZ w A zs) (hm : zs.length ≤ 1000000) (hb : checkZ zs ≠ 0) :
    Calls Try.prog 9 #[.slice A zs.length c] w fun e w' => e = .returned (.tuple #[.pointer none, .bool true]) ∧ w' = w := by
  have HB := Lib.hid (Build_bad A c zs w hr hm hb)
  have HC := Lib.hid (Check16_any A c zs w hr hm)
  obtain ⟨n, hn⟩ : ∃ n, n = zs.length := ⟨_, rfl⟩
  obtain ⟨k, hk⟩ : ∃ k, k = checkZ zs := ⟨_, rfl⟩
  rw [← hn, ← hk] at HB HC
  rw [← hn]
  rw [← hk] at hb
  have h1 : (k == k) = true := by simp
  have h2 : (k == 0) = false := by simpa using hb
  clear hr hm hn hk hb
  go_enter Try.func9, Try.ntmps9
  go_wp2_with fail
  refine HB.out.mono ?_
  rintro e w1 ⟨rfl, rfl⟩
  go_wp2_with fail
  refine HC.out.mono ?_
  rintro e w2 ⟨rfl, rfl⟩
  go_wp2
  go_ret2
  exact ⟨rfl, rfl⟩
end Go.Proofs.Ytnldnaogbadajaa.Tb

/- The law TokensBuilds, walked; an argument that is a slice of ints, opened. -/
set_option linter.unusedVariables false
set_option linter.unusedSimpArgs false
namespace Go.Proofs.Ytnldnaogbadajaa.Tb
open Go.ChangeShapes Go.WideShapes Go.ChangeAt Go.RowKit Go.Joins

theorem laidOut : laidOutB Try.prog = true := by kernel_rfl
theorem cells3 : Try.prog.cellsOf 3 = 1 := by kernel_rfl
set_option maxRecDepth 1000000 in
theorem open_zs {H : Type} {enc : TypeId × Value → H} {W : World} {v : Value} {d : DataW H} {p : List MemPlace} {base : Nat} (hv : Value.okWide Try.prog W .any base 22 v)
    (h : DataW.Trod enc Try.prog W 0 (fun _ => true) true 22 v d p) :
    ∃ (A : Option Addr) (c : Nat) (zs : List Int), v = .slice A zs.length c ∧ RdZ W A zs ∧ zs.length ≤ c ∧ zs.length ≤ maxLen := by
  obtain ⟨a0, len, cap, rfl⟩ := okWide_slice Try.underlying22 hv
  obtain ⟨fuel, hf⟩ := h
  rcases open_ints Try.underlying22 Try.underlying3 cells3 hf with ⟨hcs, _⟩ | ⟨a, len', cap', zs, hcs, _, hl, hm, hz, _, hx, hw⟩
  · simp [Value.cells] at hcs
    obtain ⟨rfl, rfl, rfl⟩ := hcs
    exact ⟨none, 0, [], rfl, fun h => by simp at h, by simp, by simp⟩
  · simp [Value.cells] at hcs
    obtain ⟨rfl, rfl, rfl⟩ := hcs
    simp only [if_true] at hz
    have hln : (zs.take len).length = len := by simp; omega
    refine ⟨some a, cap, zs.take len, by rw [hln], fun h0 => ?_, by rw [hln]; exact hl, by rw [hln]; omega⟩
    rw [hln] at h0
    obtain ⟨b, off, spot⟩ := a
    have c0 := hx 0 (by omega)
    have hspot : spot = none := by simpa [Addr.add] using World.cell?_spot c0
    subst hspot
    refine ⟨b, off, rfl, fun j hj => ?_⟩
    rw [hln] at hj
    have hj' : j < zs.length := by omega
    have := hx j hj'
    rw [addr_add] at this
    rw [this]
    have e1 : zs.getD j 0 = zs[j] := by rw [List.getD_eq_getElem?_getD, List.getElem?_eq_getElem hj']; rfl
    have e2 : (zs.take len).getD j 0 = zs[j] := by
      rw [List.getD_eq_getElem?_getD, List.getElem?_take_of_lt hj, List.getElem?_eq_getElem hj']
      rfl
    rw [e1, e2]
/-- A list of ints that has a stream is one of natural numbers. -/
theorem good_nat {zs : List Int} (h : checkZ zs = 0) : ∃ xs : List Nat, zs = xs.map Int.ofNat ∧ xs.length ≤ 4096 ∧ Lt1024 xs := by
  unfold checkZ at h
  split at h
  · cases h
  · split at h
    · next h1 h2 =>
      have h3 := List.all_eq_true.1 h2
      simp only [Bool.and_eq_true, decide_eq_true_eq] at h3
      refine ⟨zs.map Int.toNat, ?_, by rw [List.length_map]; omega, ⟨fun x hx => ?_⟩⟩
      · rw [List.map_map]
        conv => lhs; rw [← List.map_id zs]
        refine List.map_congr_left fun z hz => ?_
        have := h3 z hz
        simp only [id, Function.comp, Int.ofNat_eq_natCast]
        omega
      · obtain ⟨z, hz, rfl⟩ := List.mem_map.1 hx
        have := h3 z hz
        omega
    · cases h
theorem RdZ.toN {w : World} {A : Option Addr} {xs : List Nat} (h : RdZ w A (xs.map Int.ofNat)) : RdN w A xs := by
  have h1 := h.nat (fun z hz => by obtain ⟨x, _, rfl⟩ := List.mem_map.1 hz; exact Int.natCast_nonneg x)
  rw [List.map_map] at h1
  have e : xs.map (Int.toNat ∘ Int.ofNat) = xs := by
    conv => rhs; rw [← List.map_id xs]
    exact List.map_congr_left fun x _ => rfl
  rwa [e] at h1

set_option maxHeartbeats 4000000 in
theorem tokensBuilds_walk (A : Option Addr) (c : Nat) (zs : List Int) (w : World) (hr : RdZ w A zs) (hc : zs.length ≤ c) (hm : zs.length ≤ maxLen) :
    Calls Try.prog 3 #[.slice A zs.length c] w fun e w' => e = .returned (.bool true) ∧ Below w.heap.size w w' := by
  unfold maxLen at hm
  by_cases hl : 400 < zs.length
  · obtain ⟨n, hn⟩ : ∃ n, n = zs.length := ⟨_, rfl⟩
    rw [← hn] at hm hl ⊢
    have g1 : (400 : Int) < (n : Int) := by omega
    clear hr hn hc
    go_enter Try.func3, Try.ntmps3
    go_wp2
    go_ret
    exact ⟨rfl, Below.refl _ _⟩
  · by_cases hok : checkZ zs = 0
    · obtain ⟨xs, rfl, hxl, hx⟩ := good_nat hok
      rw [List.length_map] at hl hc hm ⊢
      have HB := Lib.hid (built_ok A c xs w hr.toN hxl hc hx)
      obtain ⟨n, hn⟩ : ∃ n, n = xs.length := ⟨_, rfl⟩
      rw [← hn] at HB hm hl ⊢
      have g1 : ¬ (400 : Int) < (n : Int) := by omega
      clear hr hn hok hx hxl hc
      go_enter Try.func3, Try.ntmps3
      go_wp2_with fail
      refine HB.out.mono ?_
      rintro e w1 ⟨p, rfl, hs, _, hb1⟩
      have HL1 := Lib.hid (TLen_any w1 p n _ _ _ _ _ hs)
      have HB1 := Lib.hid hb1
      clear hs hb1 HB
      go_wp2_with fail
      refine HL1.out.mono ?_
      rintro e w2 ⟨rfl, rfl⟩
      clear HL1
      go_wp2_with fail
      refine (awake_any w2).mono ?_
      rintro e w3 ⟨rfl, hb3⟩
      have HB3 := Lib.hid (HB1.out.trans (hb3.mono HB1.out.size))
      clear hb3 HB1
      go_wp2
      go_ret
      exact ⟨rfl, HB3.out⟩
    · have HB := Lib.hid (built_bad A c zs w hr (by omega) hok)
      obtain ⟨n, hn⟩ : ∃ n, n = zs.length := ⟨_, rfl⟩
      rw [← hn] at HB hm hl ⊢
      have g1 : ¬ (400 : Int) < (n : Int) := by omega
      clear hr hn hok hc
      go_enter Try.func3, Try.ntmps3
      go_wp2_with fail
      refine HB.out.mono ?_
      rintro e w1 ⟨rfl, rfl⟩
      clear HB
      go_wp2_with fail
      refine (awake_any _).mono ?_
      rintro e w3 ⟨rfl, hb3⟩
      have HB3 := Lib.hid hb3
      clear hb3
      go_wp2
      go_ret
      exact ⟨rfl, HB3.out⟩
end Go.Proofs.Ytnldnaogbadajaa.Tb
