/- Walks and plain laws: huffman: lengths, codes, Encode. -/
import Derived.Test.YtnldnaogbadajaaM5
import Derived.Laws.MakeOwn
import Derived.Deep.DeepCutAuto
import Derived.Test.YtnldnaogbadajaaM4
import Derived.Test.YtnldnaogbadajaaM2
import Derived.StillTailTactics

/- huffman.Lengths, plain: what the loops compute. -/
namespace Go.Proofs.Ytnldnaogbadajaa.Tb

def setOne (ls : List Nat) (x : It) : List Nat := ls.set x.s.toNat 1
def bump (ls : List Nat) (x : It) : List Nat := if 0 ≤ x.s then ls.set x.s.toNat (ls.getD x.s.toNat 0 + 1) else ls
def npk (T : List It) : Nat := (T.filter fun x => decide (x.s < 0)).length
def lenTo (lv : List It) : Nat → Nat → List Nat → List Nat
  | 0, _, ls => ls
  | k + 1, t, ls => lenTo lv k (2 * npk ((listK lv k).take t)) (((listK lv k).take t).foldl bump ls)
def lenL (cs : List Nat) : List Nat :=
  if (leavesL cs).length < 2 then (leavesL cs).foldl setOne (List.replicate cs.length 0)
  else lenTo (leavesL cs) 15 (2 * (leavesL cs).length - 2) (List.replicate cs.length 0)
theorem bump_len (ls : List Nat) (x : It) : (bump ls x).length = ls.length := by
  unfold bump; split <;> simp
theorem bumps_len : ∀ (T : List It) (ls : List Nat), (T.foldl bump ls).length = ls.length
  | [], _ => rfl
  | x :: T, ls => by rw [List.foldl_cons, bumps_len T, bump_len]
theorem ones_len : ∀ (T : List It) (ls : List Nat), (T.foldl setOne ls).length = ls.length
  | [], _ => rfl
  | x :: T, ls => by rw [List.foldl_cons, ones_len T]; simp [setOne]
theorem lenTo_len (lv : List It) : ∀ k t ls, (lenTo lv k t ls).length = ls.length
  | 0, _, _ => rfl
  | k + 1, t, ls => by rw [lenTo, lenTo_len lv k, bumps_len]
theorem lenL_len (cs : List Nat) : (lenL cs).length = cs.length := by
  unfold lenL
  split
  · rw [ones_len, List.length_replicate]
  · rw [lenTo_len, List.length_replicate]
theorem npk_app (S T : List It) : npk (S ++ T) = npk S + npk T := by simp [npk]
theorem npk_take (T : List It) (t : Nat) : npk (T.take t) ≤ npk T := by
  have := npk_app (T.take t) (T.drop t)
  rw [List.take_append_drop] at this
  omega
theorem npk_zero {T : List It} (h : ∀ x ∈ T, 0 ≤ x.s) : npk T = 0 := by
  unfold npk
  rw [List.length_eq_zero_iff, List.filter_eq_nil_iff]
  intro x hx
  have := h x hx
  simp only [decide_eq_true_eq]
  omega
theorem npk_srt (L : List It) : npk (srt L) = npk L := ((srt_perm L).filter _).length_eq
theorem npk_le (L : List It) : npk L ≤ L.length := List.length_filter_le _ _
theorem npk_next {lv b : List It} (h : ∀ x ∈ lv, 0 ≤ x.s) : npk (nextL lv b) ≤ b.length / 2 := by
  unfold nextL
  rw [npk_srt, npk_app, npk_zero h, Nat.zero_add]
  exact Nat.le_trans (npk_le _) (by rw [packs_len]; exact Nat.le_refl _)
/-- How many are taken fits. -/
theorem take_fits {lv : List It} (h : ∀ x ∈ lv, 0 ≤ x.s) (k t : Nat) : 2 * npk ((listK lv (k + 1)).take t) ≤ (listK lv k).length := by
  have h1 := npk_take (listK lv (k + 1)) t
  have h2 := npk_next (b := listK lv k) h
  have h3 : listK lv (k + 1) = nextL lv (listK lv k) := rfl
  rw [h3] at h1
  rw [h3]
  omega
theorem take_first {lv : List It} (h : lv.length ≤ 1024) : 2 * lv.length - 2 ≤ (listK lv 14).length := by
  have := listK_ge lv 14 2 (by omega)
  omega
theorem leaves_sym (cs : List Nat) : ∀ x ∈ leavesL cs, 0 ≤ x.s ∧ x.s < (cs.length : Int) ∧ 0 < x.w := fun x hx => by
  have := presL_mem (srt_mem.1 hx)
  exact ⟨by omega, by omega, this.1⟩
theorem npk_snoc (T : List It) (x : It) : npk (T ++ [x]) = npk T + if x.s < 0 then 1 else 0 := by
  rw [npk_app]
  congr 1
  by_cases h : x.s < 0
  · rw [if_pos h]
    simp only [npk]
    rw [List.filter_cons_of_pos (by simpa using h)]
    rfl
  · rw [if_neg h]
    simp only [npk]
    rw [List.filter_cons_of_neg (by simpa using h)]
    rfl
end Go.Proofs.Ytnldnaogbadajaa.Tb

/- huffman.Lengths, walked: fewer than two leaves. -/
set_option linter.unusedVariables false
set_option linter.unusedSimpArgs false
namespace Go.Proofs.Ytnldnaogbadajaa.Tb
open Go.RowKit

theorem infoN : (Try.prog.info? 3).map (fun i => (i.zero, i.size, i.bytes)) = some (some (.int .i64 0), 1, 8) := by kernel_rfl
theorem make_N (n : Nat) (hc : n ≤ 1000000) (W : World) : (Instr.makeSlice 22 (.int .i64 (n : Int)) (.int .i64 (n : Int))).run Try.prog W = .ok (.slice (some ⟨W.heap.size, 0, none⟩) n n) (W.alloc (.cells (nvs (List.replicate n 0)).toArray 3)) := by
  obtain ⟨i0, hi0, hz0, hz1, hz2⟩ := info_parts infoN
  have hr := run_make (P := Try.prog) W 22 3 i0 _ Try.underlying22 hi0 hz0 .i64 .i64 n n (by omega) (by omega) (by rw [hz2]; omega) (by omega)
  have e : madeCells (Value.int .i64 0).cells n = (nvs (List.replicate n 0)).toArray := by
    apply Array.ext_getElem?
    intro i
    by_cases hi : i < n
    · simp [madeCells, nvs, hi, Value.cells, Nat.mod_one]
    · rw [Array.getElem?_eq_none (by simp [madeCells]; omega), Array.getElem?_eq_none (by simp [nvs]; omega)]
  rw [hr, hz1, Int.toNat_natCast, Nat.mul_one, e]
theorem ownN_new (w : World) (n : Nat) (hn : n ≤ 1000000) : OwnN (w.alloc (.cells (nvs (List.replicate n 0)).toArray 3)) w.heap.size (.slice (some ⟨w.heap.size, 0, none⟩) n n) (List.replicate n 0) := by
  unfold OwnN
  rw [List.length_replicate]
  refine ⟨by rw [nvs_len, List.length_replicate]; omega, .inr ⟨w.heap.size, n, _, rfl, Nat.le_refl _, heap_alloc_new w _, Nat.le_refl _, by simp only [maxLen]; omega, by simp [nvs], ?_⟩⟩
  rw [List.toList_toArray, Nat.mul_one]
  exact List.take_of_length_le (by rw [nvs_len, List.length_replicate]; exact Nat.le_refl _)
/-- Items stay behind a store into another block. -/
theorem RdIt.set_ {w : World} {A : Option Addr} {L : List It} (h : RdIt w A L) (g j : Nat) (u : Value) (hne : ∀ b, A = some b → b.block ≠ g) : RdIt (w.setCell ⟨g, j, none⟩ u) A L := by
  intro hl
  obtain ⟨b, off, e, hc⟩ := h hl
  have hb : b ≠ g := hne _ e
  have tr : ∀ {o : Nat} {v : Value}, w.cell? ⟨b, o, none⟩ = some v → (w.setCell ⟨g, j, none⟩ u).cell? ⟨b, o, none⟩ = some v := fun {o v} hc => by
    rw [World.cell?_setCell_far _ _ _ _ (Ne.symm hb)]; exact hc
  exact ⟨b, off, e, fun j hj => ⟨tr (hc j hj).1, tr (hc j hj).2.1, tr (hc j hj).2.2.1, tr (hc j hj).2.2.2⟩⟩

set_option maxRecDepth 100000 in
set_option maxHeartbeats 6400000 in
theorem Lengths_few (A : Option Addr) (c : Nat) (cs : List Nat) (w : World) (hr : RdN w A cs) (hl : cs.length ≤ 1024) (hx : Le4096 cs) (hf : (leavesL cs).length < 2) :
    Calls Try.prog 37 #[.slice A cs.length c, .int .i64 15] w fun e w' => ∃ v', e = .returned (.tuple #[v', .int .i64 0]) ∧ OwnN w' w.heap.size v' (lenL cs) ∧ Below w.heap.size w w' := by
  have HCK := Lib.hid (hcheck_ok A c cs w hr hl hx)
  have HLE := Lib.hid (leavesOf_any A c cs (w.alloc (.cells (nvs (List.replicate cs.length 0)).toArray 3)) (hr.below (bel9 w _)) hl hx)
  have HLL : Hid (lenL cs = (leavesL cs).foldl setOne (List.replicate cs.length 0)) := Lib.hid (by unfold lenL; rw [if_pos hf])
  have HSY := Lib.hid (leaves_sym cs)
  have HNW := Lib.hid (ownN_new w cs.length (by omega))
  obtain ⟨n, hn⟩ : ∃ n, n = cs.length := ⟨_, rfl⟩
  rw [← hn] at hl HCK HLE HLL HSY HNW ⊢
  have hmk := make_N n (by omega)
  obtain ⟨lv, hlv⟩ : ∃ lv, lv = leavesL cs := ⟨_, rfl⟩
  rw [← hlv] at HLE HLL HSY hf
  have HN := Lib.hid hn
  clear hr hx hn hlv
  go_enter Try.func37, Try.ntmps37
  go_wp2_with fail
  refine HCK.out.mono ?_
  rintro e w1 ⟨rfl, rfl⟩
  go_wp2_with fail
  refine HLE.out.mono ?_
  rintro e w2 ⟨v2, rfl, hi2, hb2⟩
  obtain ⟨A2, c2, rfl, hrd2, hc2, hbb2⟩ := hi2
  have HRD := Lib.hid hrd2
  have HBB := Lib.hid hbb2
  have HOW := Lib.hid (HNW.out.below hb2)
  have HB := Lib.hid ((bel9 w1 (.cells (nvs (List.replicate n 0)).toArray 3)).trans (hb2.mono (bel9 w1 _).size))
  obtain ⟨m, hm⟩ : ∃ m, m = lv.length := ⟨_, rfl⟩
  rw [← hm] at hf hc2 ⊢
  have HM := Lib.hid hm
  have t2 : (m : Int) < 2 := by omega
  clear hrd2 hbb2 hb2 hm HCK HLE HNW hmk
  go_wp2
  go_loopw [33] (fun s wr => ∃ (t : Nat) (ls : List Nat), s = .int .i64 t ∧ t ≤ m ∧ Hid (ls = (lv.take t).foldl setOne (List.replicate n 0)) ∧ Hid (ls.length = n) ∧ Hid (OwnN wr w1.heap.size (.slice (some ⟨w1.heap.size, 0, none⟩) n n) ls) ∧ Hid (RdIt wr A2 lv) ∧ Hid (Below w1.heap.size w1 wr)) (fun s _ => m - (intOf s).toNat)
  case atStart => exact ⟨0, List.replicate n 0, rfl, by omega, Lib.hid rfl, Lib.hid (by simp), HOW, HRD, HB⟩
  case round =>
    obtain ⟨t, ls, rfl, htm, HLS, HLN, HO, HR, HBE⟩ := hrel
    by_cases hlt : t < m
    · obtain ⟨b1, o1, e1, cc⟩ := HR.out (by rw [← HM.out]; omega)
      obtain ⟨k0, k1, k2, k3⟩ := cc t (by rw [← HM.out]; exact hlt)
      have hbb := HBB.out _ e1
      have hst : (lv.take (t + 1)).foldl setOne (List.replicate n 0) = setOne ls (lv.getD t default) := by
        rw [take_snoc default lv t (by rw [← HM.out]; exact hlt), List.foldl_append, ← HLS.out]; rfl
      have hsy := HSY.out (lv.getD t default) (by rw [List.getD_eq_getElem?_getD, List.getElem?_eq_getElem (by rw [← HM.out]; exact hlt)]; exact List.getElem_mem _)
      obtain ⟨x, hx⟩ : ∃ x, x = lv.getD t default := ⟨_, rfl⟩
      rw [← hx] at k0 k1 k2 k3 hst hsy
      obtain ⟨p, hp⟩ : ∃ p : Nat, p = x.s.toNat := ⟨_, rfl⟩
      have eps : x.s = (p : Int) := by omega
      have hpn : p < n := by omega
      have HST : Hid ((lv.take (t + 1)).foldl setOne (List.replicate n 0) = ls.set p 1) := Lib.hid (by rw [hst, hp]; rfl)
      rw [eps] at k1
      have hc0 : wr.cell? ⟨w1.heap.size, p, none⟩ = some (.int .i64 (ls.getD p 0 : Nat)) := by
        have h9 := HO.out
        rw [← HLN.out] at h9
        exact ownN_cell h9 (by rw [HLN.out]; exact hpn)
      have hf0 : wr.frozen? ⟨w1.heap.size, p, none⟩ = false := by
        have h9 := HO.out
        rw [← HLN.out] at h9
        exact ownN_free h9 p
      have hsz : w1.heap.size < wr.heap.size := (HO.out.lt _ rfl).2
      obtain ⟨xw, hxw⟩ : ∃ v : Int, v = (x.w : Int) := ⟨_, rfl⟩
      obtain ⟨xl, hxl⟩ : ∃ v : Int, v = (x.l : Int) := ⟨_, rfl⟩
      obtain ⟨xr, hxr⟩ : ∃ v : Int, v = (x.r : Int) := ⟨_, rfl⟩
      rw [← hxw] at k0
      rw [← hxl] at k2
      rw [← hxr] at k3
      clear cc hx hp eps hsy hst hxw hxl hxr
      subst e1
      have HS2 : Hid (OwnN (wr.setCell ⟨w1.heap.size, p, none⟩ (.int .i64 1)) w1.heap.size (.slice (some ⟨w1.heap.size, 0, none⟩) n n) (ls.set p 1)) := Lib.hid (by have h9 := HO.out; rw [← HLN.out] at h9; have h8 := ownN_stored h9 p 1; rw [HLN.out] at h8; exact h8)
      have HR2 := Lib.hid (HR.out.set_ w1.heap.size p (.int .i64 1) (fun b h => by injection h with h; subst h; have := (bel9 w1 (.cells (nvs (List.replicate n 0)).toArray 3)).size; simp at hbb; simp; omega))
      have HB2 := Lib.hid (HBE.out.setCell (p := ⟨w1.heap.size, p, none⟩) (Nat.le_refl _) (.int .i64 1))
      go_wp2
      go_roundw
      case measure => simp [intOf]; omega
      case rel => exact ⟨t + 1, ls.set p 1, by go_num, by omega, Lib.hid HST.out.symm, Lib.hid (by rw [List.length_set]; exact HLN.out), Lib.hid (HS2.out.below (bel9 _ _)), Lib.hid (HR2.out.below (bel9 _ _)), Lib.hid (HB2.out.alloc HB2.out.size _)⟩
    · have ht : t = m := by omega
      have HF : Hid (lenL cs = ls) := Lib.hid (by rw [HLL.out, HLS.out, List.take_of_length_le (by rw [← HM.out]; omega)])
      go_wp2
      go_ret2
      exact ⟨_, rfl, by rw [HF.out]; exact HO.out, HBE.out⟩
end Go.Proofs.Ytnldnaogbadajaa.Tb

/- huffman.Lengths, walked: the lists. -/
set_option linter.unusedVariables false
set_option linter.unusedSimpArgs false
namespace Go.Proofs.Ytnldnaogbadajaa.Tb
open Go.RowKit

/-- A row of slices. -/
def OwnR (w : World) (base : Nat) (v : Value) (vs : List Value) : Prop := w.ownsRow base 92 1 v vs.length vs ∧ ∀ u ∈ vs, u.oneCell' = true
theorem OwnR.below {w w' : World} {base : Nat} {v : Value} {vs : List Value} (h : OwnR w base v vs) (hb : Below w.heap.size w w') : OwnR w' base v vs := ⟨ownsBelow h.1 hb, h.2⟩
theorem infoR : (Try.prog.info? 92).map (fun i => (i.zero, i.size, i.bytes)) = some (some (.slice none 0 0), 1, 24) := by kernel_rfl
theorem wpList_appR {w : World} {ops : Array Oper} {rest : List Oper} {o : Oper} {a : Act} {Q : Exit → Act → World → Prop} (s x : Operand) (base : Nat) (v : Value) (vs : List Value) (ad : Addr) (c : Nat) (u : Value) (hgd : o.guard = none)
    (ho : o.op = .call { callee := .builtin .append, args := #[s, x], argTypes := #[96, 96] })
    (hs : a.eval s = v) (hown : OwnR w base v vs) (hx : a.eval x = .slice (some ad) 1 c) (hr : w.cell? ad = some u) (h1 : u.oneCell' = true) (hsp : ad.spot = none) (hm : vs.length + 1 ≤ 1000000) (hbase : base ≤ w.heap.size)
    (h : ∀ v' w', OwnR w' base v' (vs ++ [u]) → Below base w w' → w.grownBy w' v.ownBlock → (v'.ownBlock = v.ownBlock ∨ v'.ownBlock = some w.heap.size) → wpList Try.prog ops Q rest (a.put o.dst v') w') : wpList Try.prog ops Q (o :: rest) a w := by
  obtain ⟨i0, hi0, hz0, hz1, hz2⟩ := info_parts infoR
  refine wpList_plain hgd fun K hK => wp_app s x _ ho base 92 i0 _ 24 Try.underlying96 hi0 hz0 hz1 hz2 rfl v vs.length vs hs hown.1 (some ad) 1 c [u] hx (fun h => by cases h) ?_ rfl (by simpa using h1) (by simp only [maxLen]; omega) (by omega) hbase fun v' w' h2 h3 h4 => hK _ _ (h v' w' ⟨?_, ?_⟩ (growsBel hown.1 hbase h3) h3 h4)
  · intro _
    obtain ⟨b, o, sp⟩ := ad
    simp only at hsp
    subst hsp
    refine ⟨b, o, rfl, fun j y hy => ?_⟩
    have hj : j = 0 := by have := (List.getElem?_eq_some_iff.1 hy).1; simp at this; omega
    subst hj
    simp at hy
    subst hy
    rw [Nat.add_zero]
    exact hr
  · rw [List.length_append]; exact h2
  · intro y hy
    rcases List.mem_append.1 hy with hy | hy
    · exact hown.2 y hy
    · simp at hy; subst hy; exact h1
theorem ownR_cell {w : World} {B g c j : Nat} {vs : List Value} (h : OwnR w B (.slice (some ⟨g, 0, none⟩) vs.length c) vs) (hj : j < vs.length) : w.cell? ⟨g, j, none⟩ = vs[j]? := by
  exact World.ownsRow.cellAt h.1 j (by omega)
theorem ownR_form {w : World} {B : Nat} {v : Value} {vs : List Value} (h : OwnR w B v vs) (h0 : 0 < vs.length) : ∃ g c, v = .slice (some ⟨g, 0, none⟩) vs.length c ∧ B ≤ g ∧ g < w.heap.size := by
  obtain ⟨g, c, e, h1, h2⟩ := World.ownsRow.form h.1 h0
  exact ⟨g, c, e, h1, h2⟩
/-- Items in a block other than g. -/
def OffIt (w : World) (B g : Nat) (v : Value) (L : List It) : Prop := ∃ A c, v = .slice A L.length c ∧ RdIt w A L ∧ L.length ≤ c ∧ ∀ b, A = some b → B ≤ b.block ∧ b.block ≠ g
theorem OffIt.below {w w1 : World} {B g : Nat} {v : Value} {L : List It} (h : OffIt w B g v L) (hb : Below w.heap.size w w1) : OffIt w1 B g v L := by
  obtain ⟨A, c, e, h1, h2, h3⟩ := h
  exact ⟨A, c, e, h1.below hb, h2, h3⟩
theorem RdIt.grown {w w1 : World} {A : Option Addr} {L : List It} {g : Nat} (h : RdIt w A L) (hg : w.grownBy w1 (some g)) (hne : ∀ b, A = some b → b.block ≠ g) : RdIt w1 A L := by
  intro hl
  obtain ⟨b, off, e, hc⟩ := h hl
  have hb : b ≠ g := hne _ e
  have hlt : b < w.heap.size := World.block_lt_of_cell? w _ (hc 0 hl).1
  have hk := hg.block b hlt (fun e => hb (by injection e))
  have tr : ∀ {o : Nat} {v : Value}, w.cell? ⟨b, o, none⟩ = some v → w1.cell? ⟨b, o, none⟩ = some v := fun {o v} hc => (World.cell?_of_block hk).trans hc
  exact ⟨b, off, e, fun j hj => ⟨tr (hc j hj).1, tr (hc j hj).2.1, tr (hc j hj).2.2.1, tr (hc j hj).2.2.2⟩⟩
theorem OffIt.grown {w w1 : World} {B g g' : Nat} {v : Value} {L : List It} (h0 : 0 < L.length) (h : OffIt w B g v L) (hg : w.grownBy w1 (some g)) (hg' : g' = g ∨ w.heap.size ≤ g') : OffIt w1 B g' v L := by
  obtain ⟨A, c, e, h1, h2, h3⟩ := h
  obtain ⟨b0, off, e0, hc⟩ := h1 h0
  have hlt : b0 < w.heap.size := World.block_lt_of_cell? w _ (hc 0 h0).1
  refine ⟨A, c, e, h1.grown hg (fun b hb => (h3 b hb).2), h2, fun b hb => ⟨(h3 b hb).1, ?_⟩⟩
  have hb2 := (h3 b hb).2
  rw [e0] at hb
  injection hb with hb
  subst hb
  simp only at hb2 ⊢
  rcases hg' with e | e
  · rw [e]; exact hb2
  · omega
theorem listK_pos (lv : List It) (h : 0 < lv.length) : ∀ k, 0 < (listK lv k).length
  | 0 => h
  | k + 1 => by simp only [listK]; rw [next_len]; omega
/-- The lists, one behind the other. -/
structure Lists (w : World) (B g : Nat) (lv : List It) (vs : List Value) : Prop where
  it : ∀ j, j < vs.length → ∃ v, vs[j]? = some v ∧ OffIt w B g v (listK lv j)
theorem Lists.below {w w' : World} {B g : Nat} {lv : List It} {vs : List Value} (h : Lists w B g lv vs) (hb : Below w.heap.size w w') : Lists w' B g lv vs := ⟨fun j hj => by
  obtain ⟨v, h1, h2⟩ := h.it j hj
  exact ⟨v, h1, h2.below hb⟩⟩
theorem Lists.grown {w w1 : World} {B g g' : Nat} {lv : List It} {vs : List Value} (h0 : 0 < lv.length) (h : Lists w B g lv vs) (hg : w.grownBy w1 (some g)) (hg' : g' = g ∨ w.heap.size ≤ g') : Lists w1 B g' lv vs := ⟨fun j hj => by
  obtain ⟨v, h1, h2⟩ := h.it j hj
  exact ⟨v, h1, OffIt.grown (listK_pos lv h0 j) h2 hg hg'⟩⟩
theorem Lists.snoc {w : World} {B g : Nat} {lv : List It} {vs : List Value} {u : Value} (h : Lists w B g lv vs) (hu : OffIt w B g u (listK lv vs.length)) : Lists w B g lv (vs ++ [u]) := ⟨fun j hj => by
  rw [List.length_append] at hj
  simp only [List.length_cons, List.length_nil] at hj
  by_cases e : j < vs.length
  · obtain ⟨v, h1, h2⟩ := h.it j e
    exact ⟨v, by rw [List.getElem?_append_left e]; exact h1, h2⟩
  · obtain rfl : j = vs.length := by omega
    exact ⟨u, by rw [List.getElem?_append_right (Nat.le_refl _), Nat.sub_self]; rfl, hu⟩⟩
theorem IsIt.off {w : World} {B g : Nat} {v : Value} {L : List It} (h : IsIt w B v L) (B' : Nat) (hb : B' ≤ B) (hg : g < B ∨ (0 < L.length ∧ w.heap.size ≤ g)) : OffIt w B' g v L := by
  obtain ⟨A, c, e, h1, h2, h3⟩ := h
  refine ⟨A, c, e, h1, h2, fun b hb2 => ⟨Nat.le_trans hb (h3 b hb2), ?_⟩⟩
  have hB := h3 b hb2
  rcases hg with hg | ⟨h0, hg⟩
  · omega
  · obtain ⟨b0, off, e0, hc⟩ := h1 h0
    have hlt : b0 < w.heap.size := World.block_lt_of_cell? w _ (hc 0 h0).1
    rw [e0] at hb2
    injection hb2 with hb2
    subst hb2
    simp only at hB ⊢
    omega
theorem ownR_new (w : World) (u : Value) (h : u.oneCell' = true) : OwnR (w.alloc (.cells #[u] 92)) w.heap.size (.slice (some ⟨w.heap.size, 0, none⟩) 1 1) [u] :=
  ⟨⟨rfl, .inr ⟨w.heap.size, 1, _, rfl, Nat.le_refl _, heap_alloc_new w _, Nat.le_refl _, by simp [maxLen], rfl, rfl⟩⟩, by simpa using h⟩
theorem OwnR.lower {w : World} {B B' : Nat} {v : Value} {vs : List Value} (h : OwnR w B v vs) (hb : B' ≤ B) : OwnR w B' v vs := ⟨ownsLower h.1 hb, h.2⟩
theorem IsIt.lower {w : World} {B B' : Nat} {v : Value} {L : List It} (h : IsIt w B v L) (hb : B' ≤ B) : IsIt w B' v L := by
  obtain ⟨A, c, e, h1, h2, h3⟩ := h
  exact ⟨A, c, e, h1, h2, fun b hb2 => Nat.le_trans hb (h3 b hb2)⟩
end Go.Proofs.Ytnldnaogbadajaa.Tb

/- huffman.Lengths, walked: two leaves or more. -/
set_option linter.unusedVariables false
set_option linter.unusedSimpArgs false
namespace Go.Proofs.Ytnldnaogbadajaa.Tb
open Go.RowKit

theorem bump_le (ls : List Nat) (x : It) (p : Nat) : (bump ls x).getD p 0 ≤ ls.getD p 0 + 1 := by
  unfold bump
  split
  · rw [List.getD_eq_getElem?_getD, List.getElem?_set]
    split
    · next e => subst e; split <;> simp
    · rw [← List.getD_eq_getElem?_getD]; omega
  · omega
theorem bumps_le : ∀ (T : List It) (ls : List Nat) (p : Nat), (T.foldl bump ls).getD p 0 ≤ ls.getD p 0 + T.length
  | [], ls, p => by simp
  | x :: T, ls, p => by
    have h1 := bumps_le T (bump ls x) p
    have h2 := bump_le ls x p
    rw [List.foldl_cons, List.length_cons]
    omega
theorem getD_rep (n p : Nat) : (List.replicate n 0).getD p 0 = 0 := by
  rw [List.getD_eq_getElem?_getD, List.getElem?_replicate]
  split <;> rfl
theorem OwnR.set_ {w : World} {B p i : Nat} {v u : Value} {vs : List Value} (h : OwnR w B v vs) (hne : v.ownBlock ≠ some p) : OwnR (w.setCell ⟨p, i, none⟩ u) B v vs :=
  ⟨World.ownsRow.kept h.1 (grown_setCell w p i u) (.inr hne), h.2⟩
theorem Lists.set_ {w : World} {B p i g : Nat} {u : Value} {lv : List It} {vs : List Value} (h : Lists w B g lv vs) (hp : p < B) : Lists (w.setCell ⟨p, i, none⟩ u) B g lv vs := ⟨fun j hj => by
  obtain ⟨v, h1, A, c, e, h2, h3, h4⟩ := h.it j hj
  exact ⟨v, h1, A, c, e, h2.set_ p i u (fun b hb => by have := (h4 b hb).1; omega), h3, h4⟩⟩

set_option maxRecDepth 100000 in
set_option maxHeartbeats 12800000 in
theorem Lengths_many (A : Option Addr) (c : Nat) (cs : List Nat) (w : World) (hr : RdN w A cs) (hl : cs.length ≤ 1024) (hx : Le4096 cs) (hf : ¬ (leavesL cs).length < 2) :
    Calls Try.prog 37 #[.slice A cs.length c, .int .i64 15] w fun e w' => ∃ v', e = .returned (.tuple #[v', .int .i64 0]) ∧ OwnN w' w.heap.size v' (lenL cs) ∧ Below w.heap.size w w' := by
  have HCK := Lib.hid (hcheck_ok A c cs w hr hl hx)
  have HLE := Lib.hid (leavesOf_any A c cs (w.alloc (.cells (nvs (List.replicate cs.length 0)).toArray 3)) (hr.below (bel9 w _)) hl hx)
  have HLL : Hid (lenL cs = lenTo (leavesL cs) 15 (2 * (leavesL cs).length - 2) (List.replicate cs.length 0)) := Lib.hid (by unfold lenL; rw [if_neg hf])
  have HSY := Lib.hid (leaves_sym cs)
  have HOK := Lib.hid (leaves_ok hx)
  have HNW := Lib.hid (ownN_new w cs.length (by omega))
  have hlv1 : (leavesL cs).length ≤ 1024 := by unfold leavesL; rw [srt_len]; exact Nat.le_trans (presL_len cs 0) hl
  obtain ⟨n, hn⟩ : ∃ n, n = cs.length := ⟨_, rfl⟩
  rw [← hn] at hl HCK HLE HLL HSY HNW HOK ⊢
  have hmk := make_N n (by omega)
  obtain ⟨lv, hlv⟩ : ∃ lv, lv = leavesL cs := ⟨_, rfl⟩
  rw [← hlv] at HLE HLL HSY HOK hf hlv1
  have HN := Lib.hid hn
  clear hr hx hn hlv
  go_enter Try.func37, Try.ntmps37
  go_wp2_with fail
  refine HCK.out.mono ?_
  rintro e w1 ⟨rfl, rfl⟩
  go_wp2_with fail
  refine HLE.out.mono ?_
  rintro e w2 ⟨v2, rfl, hi2, hb2⟩
  have HIT := Lib.hid (hi2.lower (show w1.heap.size + 1 ≤ _ by simp))
  obtain ⟨A2, c2, rfl, hrd2, hc2, hbb2⟩ := hi2
  have HOW := Lib.hid (HNW.out.below hb2)
  have HB := Lib.hid ((bel9 w1 (.cells (nvs (List.replicate n 0)).toArray 3)).trans (hb2.mono (bel9 w1 _).size))
  have HSZ := Lib.hid (Nat.le_trans (show w1.heap.size + 1 ≤ (w1.alloc (.cells (nvs (List.replicate n 0)).toArray 3)).heap.size by simp) hb2.size)
  obtain ⟨m, hm⟩ : ∃ m, m = lv.length := ⟨_, rfl⟩
  rw [← hm] at hf hc2 hlv1 HIT HLL ⊢
  have HM := Lib.hid hm
  have t2 : ¬ (m : Int) < 2 := by omega
  have HRD := Lib.hid hrd2
  clear hrd2 hbb2 hb2 hm HCK HLE HNW hmk
  go_wp2_with fail
  go_loopw [11, 47] (fun L s wr => ∃ (t : Nat) (vs : List Value) (gl cl : Nat), s = .int .i64 t ∧ L = .slice (some ⟨gl, 0, none⟩) (t + 1) cl ∧ t ≤ 14 ∧ w1.heap.size < gl ∧ Hid (vs.length = t + 1) ∧ Hid (OwnR wr w1.heap.size (.slice (some ⟨gl, 0, none⟩) (t + 1) cl) vs) ∧ Hid (Lists wr (w1.heap.size + 1) gl lv vs) ∧ Hid (OwnN wr w1.heap.size (.slice (some ⟨w1.heap.size, 0, none⟩) n n) (List.replicate n 0)) ∧ Hid (OffIt wr (w1.heap.size + 1) gl (.slice A2 m c2) lv) ∧ Hid (Below w1.heap.size w1 wr)) (fun _ s _ => 14 - (intOf s).toNat)
  case atStart =>
    have hof : OffIt w2 (w1.heap.size + 1) w2.heap.size (.slice A2 m c2) lv := HIT.out.off _ (Nat.le_refl _) (.inr ⟨by rw [← HM.out]; omega, Nat.le_refl _⟩)
    exact ⟨0, [.slice A2 m c2], w2.heap.size, 1, rfl, rfl, by omega, by have := HSZ.out; omega, Lib.hid rfl, Lib.hid ((ownR_new w2 _ rfl).lower (by have := HSZ.out; omega)), Lib.hid ((Lists.snoc (vs := []) ⟨fun j hj => by simp at hj⟩ hof).below (bel9 _ _)), Lib.hid (HOW.out.below (bel9 _ _)), Lib.hid (hof.below (bel9 _ _)), Lib.hid (HB.out.alloc HB.out.size _)⟩
  case round =>
    obtain ⟨t, vs, gl, cl, rfl, rfl, ht, hgl, HVL, HOR, HLS, HON, HRL, HBE⟩ := hrel
    by_cases hlt : t < 14
    · obtain ⟨vt, hvt, hit⟩ := HLS.out.it t (by rw [HVL.out]; omega)
      have hcell : wr.cell? ⟨gl, t, none⟩ = some vt := by
        have h9 := HOR.out
        rw [← HVL.out] at h9
        rw [← hvt]
        exact ownR_cell h9 (by rw [HVL.out]; omega)
      obtain ⟨At, ct, rfl, hrt, _, _⟩ := hit
      have HRLr : Hid (RdIt wr A2 lv) := Lib.hid (by obtain ⟨A', c', e', h', _⟩ := HRL.out; injection e' with e1 _ _; rw [e1]; exact h')
      have hok := listK_ok HOK.out t
      have hll := listK_le lv t
      have HNX := Lib.hid (next_any A2 At c2 ct lv (listK lv t) (4096 * 2 ^ t) wr HRLr.out hrt (by rw [← HM.out]; omega) (by rw [← HM.out]; exact hlv1) (by rw [← HM.out] at hll; omega) HOK.out.wt hok.wt (by have := Nat.pow_le_pow_right (n := 2) (by omega) (show t ≤ 13 by omega); omega))
      rw [← HM.out] at HNX
      obtain ⟨q, hq⟩ : ∃ q, q = (listK lv t).length := ⟨_, rfl⟩
      rw [← hq] at HNX hcell
      have e3 : (t : Int) + 1 - 1 = (t : Int) := by omega
      clear hvt hok hll hq hrt
      go_wp2_with fail
      refine HNX.out.mono ?_
      rintro e w3 ⟨v3, rfl, hi3, hb3⟩
      have hgw : gl < wr.heap.size := (HOR.out.1.lt gl rfl).2
      have hi4 : OffIt w3 (w1.heap.size + 1) gl v3 (listK lv (t + 1)) := IsIt.off hi3 _ (by omega) (.inl hgw)
      obtain ⟨A3, c3, rfl, _⟩ := hi3
      obtain ⟨k3, hk3⟩ : ∃ k3, k3 = (nextL lv (listK lv t)).length := ⟨_, rfl⟩
      rw [← hk3] at hi4 ⊢
      have hone : (Value.slice A3 k3 c3).oneCell' = true := rfl
      have h0lv : Hid (0 < lv.length) := Lib.hid (by rw [← HM.out]; omega)
      have HB3 := Lib.hid (HBE.out.trans (hb3.mono HBE.out.size))
      have HOR3 := Lib.hid (show OwnR (w3.alloc (.cells #[(Value.slice A3 k3 c3)] 92)) w1.heap.size (.slice (some ⟨gl, 0, none⟩) (t + 1) cl) vs from (HOR.out.below hb3).below (bel9 _ _))
      have HLS3 : Hid (Lists w3 (w1.heap.size + 1) gl lv (vs ++ [(Value.slice A3 k3 c3)])) := Lib.hid ((HLS.out.below hb3).snoc (by rw [HVL.out]; exact hi4))
      have HON3 := Lib.hid (HON.out.below hb3)
      have HRL3 := Lib.hid (HRL.out.below hb3)
      have HVL3 : Hid ((vs ++ [(Value.slice A3 k3 c3)]).length = t + 1 + 1) := Lib.hid (by rw [List.length_append, HVL.out]; rfl)
      have HONE := Lib.hid hone
      have HCU : Hid ((w3.alloc (.cells #[(Value.slice A3 k3 c3)] 92)).cell? ⟨w3.heap.size, 0, none⟩ = some (Value.slice A3 k3 c3)) := Lib.hid (by simp)
      have HLE3 : Hid (vs.length + 1 ≤ 1000000) := Lib.hid (by rw [HVL.out]; omega)
      clear hk3 hi4 hone hb3 HNX hcell HOR HLS HON HRL
      go_wp2_with (at_builtin; refine wpList_appR (.tmp 49) (.tmp 58) w1.heap.size (.slice (some ⟨gl, 0, none⟩) (t + 1) cl) vs ⟨w3.heap.size, 0, none⟩ 1 (Value.slice A3 k3 c3) rfl rfl (by rfl) HOR3.out (by rfl) HCU.out HONE.out rfl HLE3.out (by have := HB3.out.size; simp; omega) ?_; intro v4 w4 ho4 hb4 hg4 ha4; obtain ⟨g4, c4, rfl, _, _⟩ := ownR_form ho4 (by simp); have HO4 := Lib.hid ho4; rw [HVL3.out] at HO4 ⊢; have hga : g4 = gl ∨ (w3.alloc (.cells #[(Value.slice A3 k3 c3)] 92)).heap.size ≤ g4 := (by rcases ha4 with e | e <;> (simp [Value.ownBlock] at e; first | (left; exact e) | (right; simp; omega))); have HLS4 := Lib.hid ((HLS3.out.below (bel9 _ _)).grown h0lv.out hg4 hga); have HRL4 := Lib.hid (OffIt.grown h0lv.out (HRL3.out.below (bel9 _ _)) hg4 hga); have HBE4 := Lib.hid ((HB3.out.alloc HB3.out.size _).trans hb4); have hgl4 : w1.heap.size < g4 := (by have := HB3.out.size; rcases hga with e | e <;> (try simp at e) <;> omega); have hgK := Lib.hid hg4; clear ho4 hb4 hg4 ha4 hga)
      have HON4 := Lib.hid (ownsLower (World.ownsRow.kept (HON3.out.below (bel9 w3 (.cells #[Value.slice A3 k3 c3] 92))) hgK.out (.inr (fun e => by simp [Value.ownBlock] at e; omega))) (Nat.le_refl _))
      go_roundw
      case measure => simp [intOf]; omega
      case rel => exact ⟨t + 1, _, g4, c4, by go_num, rfl, by omega, hgl4, HVL3, HO4, HLS4, HON4, HRL4, HBE4⟩
    · obtain rfl : t = 14 := by omega
      have HTK : Hid (2 * m - 2 ≤ (listK lv 14).length) := Lib.hid (by rw [HM.out]; exact take_first (by rw [← HM.out]; exact hlv1))
      obtain ⟨t0, ht0⟩ : ∃ t0, t0 = 2 * m - 2 := ⟨_, rfl⟩
      have e1 : 2 * (m : Int) - 2 = (t0 : Int) := by omega
      have ht1 : t0 ≤ 4096 := by omega
      rw [← ht0] at HTK HLL
      clear ht0
      go_wp2
      go_loopw [12, 13] (fun a s wr => ∃ (k tk : Nat) (ls : List Nat), s = .int .i64 ((k : Int) - 1) ∧ a = .int .i64 tk ∧ k ≤ 15 ∧ tk ≤ 4096 ∧ Hid (0 < k → tk ≤ (listK lv (k - 1)).length) ∧ Hid (ls.length = n) ∧ Hid (lenTo lv k tk ls = lenL cs) ∧ Hid (∀ p, ls.getD p 0 ≤ (15 - k) * 4096) ∧ Hid (OwnR wr w1.heap.size (.slice (some ⟨gl, 0, none⟩) (14 + 1) cl) vs) ∧ Hid (Lists wr (w1.heap.size + 1) gl lv vs) ∧ Hid (OwnN wr w1.heap.size (.slice (some ⟨w1.heap.size, 0, none⟩) n n) ls) ∧ Hid (Below w1.heap.size w1 wr)) (fun _ s _ => (intOf s + 1).toNat)
      case atStart => exact ⟨15, t0, _, by go_num, rfl, by omega, by omega, Lib.hid (fun _ => HTK.out), Lib.hid (by simp), Lib.hid HLL.out.symm, Lib.hid (fun p => by rw [getD_rep]; exact Nat.zero_le _), HOR, HLS, HON, HBE⟩
      case round =>
        clear HOR HLS HON HBE HRL
        obtain ⟨k, tk, ls, rfl, rfl, hk15, htk, HT, HLN, HLT, HLM, HOR, HLS, HON, HBE⟩ := hrel
        by_cases hk0 : 0 < k
        · obtain ⟨q, rfl⟩ : ∃ q, k = q + 1 := ⟨k - 1, by omega⟩
          have eq1 : ((q + 1 : Nat) : Int) - 1 = (q : Int) := by omega
          rw [eq1]
          obtain ⟨vq, hvq, hof⟩ := HLS.out.it q (by rw [HVL.out]; omega)
          have hcell : wr.cell? ⟨gl, q, none⟩ = some vq := by
            have h9 := HOR.out
            rw [← HVL.out] at h9
            rw [← hvq]
            exact ownR_cell h9 (by rw [HVL.out]; omega)
          obtain ⟨Aq, cq, rfl, hrq, hcq, hbq⟩ := hof
          have htl := HT.out (by omega)
          rw [Nat.add_sub_cancel] at htl
          obtain ⟨T, hT⟩ : ∃ T, T = (listK lv q).take tk := ⟨_, rfl⟩
          obtain ⟨kq, hkq⟩ : ∃ kq, kq = (listK lv q).length := ⟨_, rfl⟩
          rw [← hkq] at hcell hcq htl
          have hTl : T.length = tk := by rw [hT, List.length_take, ← hkq]; omega
          have HTL := Lib.hid hTl
          have hlt2 : tk ≤ cq := by omega
          have HTD := Lib.hid hT
          have HKQ := Lib.hid hkq
          have HLN1 : Hid (lenTo lv q (2 * npk T) (T.foldl bump ls) = lenL cs) := Lib.hid (by rw [← HLT.out, hT]; rfl)
          have HRQ := Lib.hid hrq
          have HBQ := Lib.hid hbq
          clear hT hkq hvq eq1 hTl hrq hbq
          go_wp2
          go_loopw [14, 79] (fun p s wr2 => ∃ (j np : Nat) (ls2 : List Nat), s = .int .i64 j ∧ p = .int .i64 np ∧ j ≤ tk ∧ Hid (np = npk (T.take j)) ∧ Hid (ls2 = (T.take j).foldl bump ls) ∧ Hid (ls2.length = n) ∧ Hid (OwnR wr2 w1.heap.size (.slice (some ⟨gl, 0, none⟩) (14 + 1) cl) vs) ∧ Hid (Lists wr2 (w1.heap.size + 1) gl lv vs) ∧ Hid (OwnN wr2 w1.heap.size (.slice (some ⟨w1.heap.size, 0, none⟩) n n) ls2) ∧ Hid (RdIt wr2 Aq (listK lv q)) ∧ Hid (Below w1.heap.size w1 wr2)) (fun _ s _ => tk - (intOf s).toNat)
          case atStart => exact ⟨0, 0, ls, rfl, rfl, by omega, Lib.hid rfl, Lib.hid rfl, HLN, HOR, HLS, HON, HRQ, HBE⟩
          case round =>
            clear HOR HLS HON HBE
            obtain ⟨j, np, ls2, rfl, rfl, hjt, HNP, HL2, HLN2, HOR, HLS, HON, HRQ, HBE⟩ := hrel
            by_cases hlt : j < tk
            · have hjq : j < (listK lv q).length := by rw [← HKQ.out]; omega
              obtain ⟨b1, o1, e1, cc⟩ := HRQ.out (by omega)
              obtain ⟨k0, k1, k2, k3⟩ := cc j hjq
              have hbb := HBQ.out _ e1
              have htk1 : T.take (j + 1) = T.take j ++ [(listK lv q).getD j default] := by
                rw [take_snoc default T j (by rw [HTL.out]; exact hlt)]
                congr 2
                rw [HTD.out, List.getD_eq_getElem?_getD, List.getElem?_take_of_lt hlt, ← List.getD_eq_getElem?_getD]
              have hsy := (listK_ok HOK.out q).sym ((listK lv q).getD j default) (by rw [List.getD_eq_getElem?_getD, List.getElem?_eq_getElem hjq]; exact List.getElem_mem _)
              have hst : (T.take (j + 1)).foldl bump ls = bump ls2 ((listK lv q).getD j default) := by
                rw [htk1, List.foldl_append, ← HL2.out]; rfl
              have hnp2 : npk (T.take (j + 1)) = np + if ((listK lv q).getD j default).s < 0 then 1 else 0 := by
                rw [htk1, npk_snoc, ← HNP.out]
              obtain ⟨x, hx⟩ : ∃ x, x = (listK lv q).getD j default := ⟨_, rfl⟩
              rw [← hx] at k0 k1 k2 k3 hst hsy hnp2
              have hnpt : np ≤ j := by
                have h1 := npk_le (T.take j)
                rw [← HNP.out] at h1
                exact Nat.le_trans h1 (by rw [List.length_take]; exact Nat.min_le_left _ _)
              obtain ⟨xw, hxw⟩ : ∃ v : Int, v = (x.w : Int) := ⟨_, rfl⟩
              obtain ⟨xl, hxl⟩ : ∃ v : Int, v = (x.l : Int) := ⟨_, rfl⟩
              obtain ⟨xr, hxr⟩ : ∃ v : Int, v = (x.r : Int) := ⟨_, rfl⟩
              rw [← hxw] at k0
              rw [← hxl] at k2
              rw [← hxr] at k3
              have HBB := Lib.hid hbb
              have h0q : 0 < (listK lv q).length := by omega
              clear cc hx htk1 hxw hxl hxr hbb
              by_cases hs : 0 ≤ x.s
              · obtain ⟨p, hp⟩ : ∃ p : Nat, p = x.s.toNat := ⟨_, rfl⟩
                have eps : x.s = (p : Int) := by omega
                have hpn : p < n := by omega
                have HST : Hid ((T.take (j + 1)).foldl bump ls = ls2.set p (ls2.getD p 0 + 1)) := Lib.hid (by rw [hst, hp]; unfold bump; rw [if_pos hs])
                have HNP2 : Hid (npk (T.take (j + 1)) = np) := Lib.hid (by rw [hnp2, if_neg (by omega)]; rfl)
                rw [eps] at k1
                have hc0 : wr.cell? ⟨w1.heap.size, p, none⟩ = some (.int .i64 (ls2.getD p 0 : Nat)) := by
                  have h9 := HON.out
                  rw [← HLN2.out] at h9
                  exact ownN_cell h9 (by rw [HLN2.out]; exact hpn)
                have hf0 : wr.frozen? ⟨w1.heap.size, p, none⟩ = false := by
                  have h9 := HON.out
                  rw [← HLN2.out] at h9
                  exact ownN_free h9 p
                have hsz : w1.heap.size < wr.heap.size := (HON.out.lt _ rfl).2
                have HLB : Hid (ls2.getD p 0 ≤ 100000) := Lib.hid (by have h1 := bumps_le (T.take j) ls p; rw [← HL2.out, List.length_take] at h1; have h2 := HLM.out p; have := Nat.min_le_left j T.length; have : (15 - (q + 1)) * 4096 ≤ 15 * 4096 := Nat.mul_le_mul_right _ (by omega); omega)
                obtain ⟨lp, hlp⟩ : ∃ lp, lp = ls2.getD p 0 := ⟨_, rfl⟩
                rw [← hlp] at HLB HST hc0
                have hlb := HLB.out
                have elp : (lp : Int) + 1 = ((lp + 1 : Nat) : Int) := by omega
                clear hp eps hsy hst hnp2 hs hlp
                subst e1
                have HS2 : Hid (OwnN (wr.setCell ⟨w1.heap.size, p, none⟩ (.int .i64 ((lp : Int) + 1))) w1.heap.size (.slice (some ⟨w1.heap.size, 0, none⟩) n n) (ls2.set p (lp + 1))) := Lib.hid (by have h9 := HON.out; rw [← HLN2.out] at h9; have h8 := ownN_stored h9 p (lp + 1); rw [HLN2.out] at h8; rw [elp]; exact h8)
                have HR2 := Lib.hid (HRQ.out.set_ w1.heap.size p (.int .i64 ((lp : Int) + 1)) (fun b h => by injection h with h; subst h; have := HBB.out.1; simp at this ⊢; omega))
                have HB2 := Lib.hid (HBE.out.setCell (p := ⟨w1.heap.size, p, none⟩) (Nat.le_refl _) (.int .i64 ((lp : Int) + 1)))
                have HO2 := Lib.hid (HOR.out.set_ (p := w1.heap.size) (i := p) (u := .int .i64 ((lp : Int) + 1)) (by simp [Value.ownBlock]; omega))
                have HL22 := Lib.hid (HLS.out.set_ (p := w1.heap.size) (i := p) (u := .int .i64 ((lp : Int) + 1)) (by omega))
                clear elp
                go_wp2
                go_roundw
                case measure => simp [intOf]; omega
                case rel => exact ⟨j + 1, np, ls2.set p (lp + 1), by go_num, rfl, by omega, Lib.hid HNP2.out.symm, Lib.hid HST.out.symm, Lib.hid (by rw [List.length_set]; exact HLN2.out), Lib.hid (HO2.out.below (bel9 _ _)), Lib.hid (HL22.out.below (bel9 _ _)), Lib.hid (HS2.out.below (bel9 _ _)), Lib.hid (HR2.out.below (bel9 _ _)), Lib.hid (HB2.out.alloc HB2.out.size _)⟩
              · have HST : Hid ((T.take (j + 1)).foldl bump ls = ls2) := Lib.hid (by rw [hst]; unfold bump; rw [if_neg hs])
                have HNP2 : Hid (npk (T.take (j + 1)) = np + 1) := Lib.hid (by rw [hnp2, if_pos (by omega)])
                have eps : x.s = -1 := by omega
                rw [eps] at k1
                clear eps hsy hst hnp2 hs
                subst e1
                go_wp2
                go_roundw
                case measure => simp [intOf]; omega
                case rel => exact ⟨j + 1, np + 1, ls2, by go_num, by go_num, by omega, Lib.hid HNP2.out.symm, Lib.hid HST.out.symm, HLN2, Lib.hid (HOR.out.below (bel9 _ _)), Lib.hid (HLS.out.below (bel9 _ _)), Lib.hid (HON.out.below (bel9 _ _)), Lib.hid (HRQ.out.below (bel9 _ _)), Lib.hid (HBE.out.alloc HBE.out.size _)⟩
            · obtain rfl : j = tk := by omega
              have HTT : Hid (T.take j = T) := Lib.hid (List.take_of_length_le (by rw [HTL.out]; exact Nat.le_refl _))
              rw [HTT.out] at HNP HL2
              have hnpt : np ≤ j := by
                have h1 := npk_le T
                rw [← HNP.out, HTL.out] at h1
                exact h1
              have HFIT : Hid (0 < q → 2 * np ≤ (listK lv (q - 1)).length) := Lib.hid (fun h0 => by
                obtain ⟨r, rfl⟩ : ∃ r, q = r + 1 := ⟨q - 1, by omega⟩
                rw [HNP.out, HTD.out]
                exact take_fits (fun x hx => (HSY.out x hx).1) r j)
              have HB40 : Hid (2 * np ≤ 4096) := Lib.hid (by have := listK_le lv q; rw [← HKQ.out, ← HM.out] at this; omega)
              have HLM2 : Hid (∀ p, ls2.getD p 0 ≤ (15 - q) * 4096) := Lib.hid (fun p => by
                have h1 := bumps_le T ls p
                rw [← HL2.out, HTL.out] at h1
                have h2 := HLM.out p
                have h3 : (15 - q) * 4096 = (15 - (q + 1)) * 4096 + 4096 := by rw [show 15 - q = 15 - (q + 1) + 1 by omega, Nat.succ_mul]
                omega)
              have hb40 := HB40.out
              have HLT2 : Hid (lenTo lv q (2 * np) ls2 = lenL cs) := Lib.hid (by rw [HNP.out, HL2.out]; exact HLN1.out)
              clear HB40
              go_wp2
              go_roundw
              case measure => simp [intOf]
              case rel => exact ⟨q, 2 * np, ls2, by go_num, by go_num, by omega, by omega, HFIT, HLN2, HLT2, HLM2, HOR, HLS, HON, HBE⟩
        · obtain rfl : k = 0 := by omega
          have HF : Hid (lenL cs = ls) := Lib.hid HLT.out.symm
          go_wp2
          go_ret2
          exact ⟨_, rfl, by rw [HF.out]; exact HON.out, HBE.out⟩
end Go.Proofs.Ytnldnaogbadajaa.Tb

/- huffman.valid, walked. -/
set_option linter.unusedVariables false
set_option linter.unusedSimpArgs false
namespace Go.Proofs.Ytnldnaogbadajaa.Tb
open Go.RowKit

def kr (n : Nat) : Nat := if 0 < n then 2 ^ (15 - n) else 0
def krS (ls : List Nat) : Nat := (ls.map kr).sum
def vld (ls : List Nat) : Bool := decide (ls.length ≤ 1024) && (ls.all (fun n => decide (n ≤ 15)) && decide (krS ls ≤ 32768))
theorem kr_le (n : Nat) : kr n ≤ 32768 := by
  unfold kr
  split
  · exact Nat.le_trans (Nat.pow_le_pow_right (by omega) (show 15 - n ≤ 15 by omega)) (by decide)
  · omega
theorem krS_snoc (ls : List Nat) (x : Nat) : krS (ls ++ [x]) = krS ls + kr x := by simp [krS]
theorem krS_le : ∀ (ls : List Nat), krS ls ≤ ls.length * 32768
  | [] => by simp [krS]
  | x :: ls => by
    have h1 := krS_le ls
    have h2 := kr_le x
    simp only [krS, List.map_cons, List.sum_cons, List.length_cons] at *
    omega

set_option maxRecDepth 100000 in
set_option maxHeartbeats 6400000 in
theorem valid_any (A : Option Addr) (c : Nat) (ls : List Nat) (w : World) (hr : RdN w A ls) (hm : ls.length ≤ 1000000) (hx : ∀ x ∈ ls, x ≤ 2147483647) :
    Calls Try.prog 52 #[.slice A ls.length c] w fun e w' => e = .returned (.bool (vld ls)) ∧ w' = w := by
  have HA := Lib.hid hr
  have HX := Lib.hid hx
  have HV : Hid (vld ls = (decide (ls.length ≤ 1024) && (ls.all (fun n => decide (n ≤ 15)) && decide (krS ls ≤ 32768)))) := Lib.hid rfl
  obtain ⟨n, hn⟩ : ∃ n, n = ls.length := ⟨_, rfl⟩
  rw [← hn] at hm HV ⊢
  have HN := Lib.hid hn
  clear hr hx hn
  by_cases h1 : 1024 < n
  · have HF : Hid (vld ls = false) := Lib.hid (by rw [HV.out, decide_eq_false (by omega)]; rfl)
    have t1 : (1024 : Int) < (n : Int) := by omega
    go_enter Try.func52, Try.ntmps52
    go_wp2
    go_ret
    rw [HF.out]
    exact ⟨rfl, rfl⟩
  · have t1 : ¬ (1024 : Int) < (n : Int) := by omega
    rw [decide_eq_true (show n ≤ 1024 by omega), Bool.true_and] at HV
    go_enter Try.func52, Try.ntmps52
    go_wp2
    go_loop [3, 11] (fun p s => ∃ (t q : Nat), s = .int .i64 t ∧ p = .int .i64 q ∧ t ≤ n ∧ q ≤ t * 32768 ∧ Hid (q = krS (ls.take t)) ∧ Hid ((ls.take t).all (fun n => decide (n ≤ 15)) = true)) (fun _ s => n - (intOf s).toNat)
    case atStart => exact ⟨0, 0, rfl, rfl, by omega, by omega, Lib.hid rfl, Lib.hid rfl⟩
    case round =>
      obtain ⟨t, q, rfl, rfl, ht, hq, HQ, HALL⟩ := hrel
      by_cases hlt : t < n
      · obtain ⟨b1, o1, e1, c1⟩ := HA.out (by rw [← HN.out]; omega)
        have cc := c1 t (by rw [← HN.out]; exact hlt)
        have htk : ls.take (t + 1) = ls.take t ++ [ls.getD t 0] := take_snoc 0 ls t (by rw [← HN.out]; exact hlt)
        have hmem : ls.getD t 0 ∈ ls := by rw [List.getD_eq_getElem?_getD, List.getElem?_eq_getElem (by rw [← HN.out]; exact hlt)]; exact List.getElem_mem _
        have hx31 := HX.out _ hmem
        obtain ⟨x, hx⟩ : ∃ x, x = ls.getD t 0 := ⟨_, rfl⟩
        rw [← hx] at cc hx31 htk hmem
        have t2 : ¬ (x : Int) < 0 := by omega
        clear c1 hx
        subst e1
        by_cases h15 : 15 < x
        · have HF : Hid (vld ls = false) := Lib.hid (by
            rw [HV.out, show ls.all (fun n => decide (n ≤ 15)) = false from ?_]
            · rfl
            · rw [List.all_eq_false]; exact ⟨x, hmem, by simp; omega⟩)
          have t3 : (15 : Int) < (x : Int) := by omega
          clear hmem htk
          go_wp2
          go_ret
          rw [HF.out]
          exact ⟨rfl, rfl⟩
        · have t3 : ¬ (15 : Int) < (x : Int) := by omega
          have HALL2 : Hid ((ls.take (t + 1)).all (fun n => decide (n ≤ 15)) = true) := Lib.hid (by rw [htk, List.all_append, HALL.out]; simp; omega)
          have hQ2 : krS (ls.take (t + 1)) = q + kr x := by rw [htk, krS_snoc, ← HQ.out]
          have HQ2 := Lib.hid hQ2
          clear hmem htk hQ2
          by_cases hx0 : 0 < x
          · have t4 : (0 : Int) < (x : Int) := by omega
            have hk : kr x = 2 ^ (15 - x) := by unfold kr; rw [if_pos hx0]
            have hle := kr_le x
            have E9 : Hid (((2 : Int) ^ (15 - x)) = ((kr x : Nat) : Int)) := Lib.hid (by rw [hk]; push_cast; rfl)
            clear hk
            go_wp2
            go_round
            case measure => simp [intOf]; omega
            case rel => exact ⟨t + 1, q + kr x, by go_num, by rw [E9.out]; simp (disch := omega) only [IntWalk.wrap64_in]; go_num, by omega, by omega, Lib.hid HQ2.out.symm, HALL2⟩
          · have t4 : ¬ (0 : Int) < (x : Int) := by omega
            have hk : kr x = 0 := by unfold kr; rw [if_neg hx0]
            rw [hk] at HQ2
            clear hk
            go_wp2
            go_round
            case measure => simp [intOf]; omega
            case rel => exact ⟨t + 1, q, by go_num, rfl, by omega, by omega, Lib.hid HQ2.out.symm, HALL2⟩
      · have hall : ls.take t = ls := List.take_of_length_le (by rw [← HN.out]; omega)
        rw [hall] at HQ HALL
        have HF : Hid (vld ls = decide (q ≤ 32768)) := Lib.hid (by rw [HV.out, HALL.out, Bool.true_and, HQ.out])
        clear hall
        go_wp2
        go_ret
        rw [HF.out]
        rw [show decide ((q : Int) ≤ 32768) = decide (q ≤ 32768) from decide_eq_decide.2 (by omega)]
        exact ⟨rfl, rfl⟩
end Go.Proofs.Ytnldnaogbadajaa.Tb

/- huffman.inOrder, walked: the present symbols, sorted by their lengths. -/
set_option linter.unusedVariables false
set_option linter.unusedSimpArgs false
namespace Go.Proofs.Ytnldnaogbadajaa.Tb
open Go.RowKit Go.Shelf Go.Lib Go.Sort Go.Proofs.Ytnldnaogbadajaa.St
open Go.Proofs.Ytnldnaogbadajaa.Sw (E oneE)

def presO : List Nat → Nat → List Nat
  | [], _ => []
  | n :: ls, i => (if 0 < n then [i] else []) ++ presO ls (i + 1)
def srtO (ls L : List Nat) : List Nat := L.mergeSort fun a b => decide (ls.getD a 0 ≤ ls.getD b 0)
def ordL (ls : List Nat) : List Nat := srtO ls (presO ls 0)
theorem presO_snoc (n : Nat) : ∀ (ls : List Nat) (i : Nat), presO (ls ++ [n]) i = presO ls i ++ if 0 < n then [i + ls.length] else []
  | [], i => by simp [presO]
  | m :: ls, i => by
    rw [List.cons_append, presO, presO_snoc n ls (i + 1), presO, List.append_assoc, List.length_cons, show i + 1 + ls.length = i + (ls.length + 1) by omega]
theorem presO_len : ∀ (ls : List Nat) (i : Nat), (presO ls i).length ≤ ls.length
  | [], _ => by simp [presO]
  | m :: ls, i => by
    have := presO_len ls (i + 1)
    rw [presO, List.length_append, List.length_cons]
    split <;> simp <;> omega
theorem presO_mem {x : Nat} : ∀ {ls : List Nat} {i : Nat}, x ∈ presO ls i ↔ i ≤ x ∧ x < i + ls.length ∧ 0 < ls.getD (x - i) 0
  | [], i => by simp [presO]
  | m :: ls, i => by
    rw [presO, List.mem_append, presO_mem, List.length_cons]
    by_cases hx : x = i
    · subst hx
      rw [Nat.sub_self]
      by_cases hm : 0 < m
      · simp [hm]
      · constructor
        · rintro (h | ⟨h, _, _⟩)
          · rw [if_neg hm] at h; cases h
          · omega
        · rintro ⟨_, _, h⟩; exact absurd h hm
    · have h1 : x ∈ (if 0 < m then [i] else []) ↔ False := by split <;> simp [hx]
      rw [h1, false_or]
      constructor
      · rintro ⟨h2, h3, h4⟩
        refine ⟨by omega, by omega, ?_⟩
        rw [show x - i = (x - (i + 1)) + 1 by omega, List.getD_cons_succ]
        exact h4
      · rintro ⟨h2, h3, h4⟩
        refine ⟨by omega, by omega, ?_⟩
        rw [show x - i = (x - (i + 1)) + 1 by omega, List.getD_cons_succ] at h4
        exact h4
theorem srtO_len (ls L : List Nat) : (srtO ls L).length = L.length := List.length_mergeSort _
theorem srtO_perm (ls L : List Nat) : (srtO ls L).Perm L := List.mergeSort_perm _ _
theorem ordL_mem {ls : List Nat} {x : Nat} : x ∈ ordL ls ↔ x < ls.length ∧ 0 < ls.getD x 0 := by
  unfold ordL
  rw [(srtO_perm _ _).mem_iff, presO_mem]
  simp

/-! ### append of numbers -/
theorem nvs_app (xs ys : List Nat) : nvs (xs ++ ys) = nvs xs ++ nvs ys := by simp [nvs]
theorem nvs_one (xs : List Nat) : ∀ u ∈ nvs xs, u.oneCell' = true := by
  intro u hu
  simp only [nvs, List.mem_map] at hu
  obtain ⟨x, _, rfl⟩ := hu
  rfl
theorem RdN.rd1 {w : World} {A : Option Addr} {xs : List Nat} (h : RdN w A xs) : Rd1 w A (nvs xs) := by
  intro hl
  rw [nvs_len] at hl
  obtain ⟨b, off, e, hc⟩ := h hl
  refine ⟨b, off, e, fun j y hy => ?_⟩
  have hj : j < xs.length := by have := (List.getElem?_eq_some_iff.1 hy).1; rw [nvs_len] at this; exact this
  rw [hc j hj]
  rw [← hy]
  simp [nvs, hj]
theorem wpList_appN {w : World} {ops : Array Oper} {rest : List Oper} {o : Oper} {a : Act} {Q : Exit → Act → World → Prop} (s x : Operand) (base : Nat) (v : Value) (xs : List Nat) (A : Option Addr) (m c : Nat) (ys : List Nat) (hgd : o.guard = none)
    (ho : o.op = .call { callee := .builtin .append, args := #[s, x], argTypes := #[22, 22] })
    (hs : a.eval s = v) (hown : OwnN w base v xs) (hx : a.eval x = .slice A m c) (hy : m = ys.length) (hA : A = none → m = 0 ∧ c = 0) (hr : RdN w A ys) (hm : xs.length + ys.length ≤ 1000000) (hbase : base ≤ w.heap.size)
    (h : ∀ v' w', OwnN w' base v' (xs ++ ys) → Below base w w' → w.grownBy w' v.ownBlock → (v'.ownBlock = v.ownBlock ∨ v'.ownBlock = some w.heap.size) → wpList Try.prog ops Q rest (a.put o.dst v') w') : wpList Try.prog ops Q (o :: rest) a w := by
  obtain ⟨i0, hi0, hz0, hz1, hz2⟩ := info_parts infoN
  subst hy
  refine wpList_plain hgd fun K hK => wp_app s x _ ho base 3 i0 _ 8 Try.underlying22 hi0 hz0 hz1 hz2 rfl v xs.length (nvs xs) hs hown A ys.length c (nvs ys) hx hA hr.rd1 (nvs_len ys) (nvs_one ys) (by simp only [maxLen]; omega) (by omega) hbase fun v' w' h2 h3 h4 => hK _ _ (h v' w' ?_ (growsBel hown hbase h3) h3 h4)
  unfold OwnN
  rw [List.length_append, nvs_app]
  exact h2
theorem OwnN.nil (w : World) (base : Nat) : OwnN w base (.slice none 0 0) [] := ⟨rfl, .inl ⟨rfl, rfl⟩⟩
theorem rdN_new (w : World) (x : Nat) (t : TypeId) : RdN (w.alloc (.cells #[.int .i64 (x : Int)] t)) (some ⟨w.heap.size, 0, none⟩) [x] := fun _ => ⟨w.heap.size, 0, rfl, fun j hj => by
  have h0 : j = 0 := by simp at hj; omega
  subst h0
  simp⟩

/-! ### the closure and the sort -/
set_option maxHeartbeats 1600000 in
theorem lessO_any (bx b off n c : Nat) (i j : Nat) (x y : Nat) (w : World) (hi2 : i < n) (hj2 : j < n) (hn : n ≤ 1000000) (hx31 : x ≤ 2147483647) (hy31 : y ≤ 2147483647)
    (hb : w.cell? ⟨bx, 0, none⟩ = some (.slice (some ⟨b, off, none⟩) n c))
    (hx : w.cell? ⟨b, off + i, none⟩ = some (.int .i64 x)) (hy : w.cell? ⟨b, off + j, none⟩ = some (.int .i64 y)) :
    Calls Try.prog 93 #[.int .i64 i, .int .i64 j, .pointer (some ⟨bx, 0, none⟩)] w fun e w' => e = .returned (.int .i64 ((x : Int) - y)) ∧ ∃ q, w' = w.drewN q := by
  have e1 : IntKind.i64.wrap ((x : Int) - (y : Int)) = (x : Int) - (y : Int) := by rw [IntKind.wrap_i64]; omega
  go_enter Try.func93, Try.ntmps93
  go_wp2_with fail
  go_quiet (fail)
  go_wp2
  go_ret
  exact ⟨rfl, nq, rfl⟩

def fO {n : Nat} (x : Fin n) : Int := (x.val : Int)
def cfO (ls : List Nat) {n : Nat} (x y : Fin n) : Int := (ls.getD x.val 0 : Int) - (ls.getD y.val 0 : Int)
theorem ltO (ls : List Nat) {n : Nat} (x y : Fin n) : ltOf (cfO ls) x y = decide (ls.getD x.val 0 < ls.getD y.val 0) := by
  unfold ltOf cfO
  exact decide_eq_decide.2 (by omega)
theorem swo_cfO (ls : List Nat) (n : Nat) : SWO (ltOf (cfO ls (n := n))) := by
  have h := fun x y : Fin n => ltO ls x y
  refine ⟨fun x => by rw [h]; simp, fun x y z h1 h2 => ?_, fun x y z h1 h2 => ?_⟩
  · rw [h, decide_eq_true_eq] at *; omega
  · rw [h, decide_eq_false_iff_not] at *; omega
def toF {n : Nat} [Inhabited (Fin n)] (i : Nat) : Fin n := if h : i < n then ⟨i, h⟩ else default
theorem toF_val {n : Nat} [Inhabited (Fin n)] {i : Nat} (h : i < n) : (toF (n := n) i).val = i := by unfold toF; rw [dif_pos h]
theorem sorted_O (ls L : List Nat) (n : Nat) [Inhabited (Fin n)] (hL : ∀ i ∈ L, i < n) : ((stable (ltOf (cfO ls (n := n))) (L.map toF).toArray).toList.map Fin.val) = srtO ls L := by
  rw [stable_eq (swo_cfO ls n), List.map_mergeSort (s := fun a b => decide (ls.getD a 0 ≤ ls.getD b 0)), List.toList_toArray, List.map_map]
  · have : L.map (Fin.val ∘ toF (n := n)) = L := by
      conv => rhs; rw [← List.map_id L]
      exact List.map_congr_left fun i hi => toF_val (hL i hi)
    rw [this]; rfl
  · intro a _ b _
    rw [ltO, ← decide_not]
    exact decide_eq_decide.2 (by omega)
theorem size_O (ls L : List Nat) (n : Nat) [Inhabited (Fin n)] : (stable (ltOf (cfO ls (n := n))) (L.map toF).toArray).size = L.length := by
  have := congrArg List.length (stable_eq (swo_cfO ls n) (L.map toF).toArray)
  rw [List.length_mergeSort] at this
  simpa using this
section
variable {α : Type} [Inhabited α] {enc : α → Value} {w0 W : World} {blk off : Nat} {dk : Array α}
theorem sw_block (h : SW enc w0 blk off dk W) (k : Nat) (hk : k < w0.heap.size) (hne : k ≠ blk) : W.heap[k]? = w0.heap[k]? := by
  obtain ⟨n, os, rfl⟩ := h
  unfold sortWorld
  rw [heap_grow_old _ _ (by rw [size_putRow]; exact hk)]
  simp only [putRow, mapBlock]
  rw [Array.getElem?_modify, if_neg (by omega)]
  rfl
theorem sw_other (h : SW enc w0 blk off dk W) {a : Addr} (hb : a.block < w0.heap.size) (hne : a.block ≠ blk) : W.cell? a = w0.cell? a := World.cell?_of_block (sw_block h a.block hb hne)
theorem sw_grown (h : SW enc w0 blk off dk W) : w0.grownBy W (some blk) := by
  refine ⟨?_, ?_, ?_, h.le, fun k hk hne => sw_block h k hk (by intro e; apply hne; rw [e])⟩ <;> (obtain ⟨n, os, rfl⟩ := h; rfl)
end

set_option maxHeartbeats 1600000 in
/-- The stable sort of positions by the lengths there. -/
theorem sortO (base g c bx cA : Nat) (A : Option Addr) (ls L : List Nat) (w : World) (hL : ∀ i ∈ L, i < ls.length) (h0 : 0 < L.length) (hm : L.length ≤ 1000000) (hm2 : ls.length ≤ 1000000) (hB : base ≤ w.heap.size) (hown : OwnN w base (.slice (some ⟨g, 0, none⟩) L.length c) L)
    (hbox : w.cell? ⟨bx, 0, none⟩ = some (.slice A ls.length cA)) (hbl : bx < base) (hr : RdN w A ls) (hA : ∀ b, A = some b → b.block < base) (hx : ∀ x ∈ ls, x ≤ 2147483647) :
    Calls Try.prog 92 #[.slice (some ⟨g, 0, none⟩) L.length c, .func (.func 93) #[] #[.pointer (some ⟨bx, 0, none⟩)]] w fun e w' => e = .returned (.tuple #[]) ∧ RdN w' (some ⟨g, 0, none⟩) (srtO ls L) ∧ Below base w w' := by
  obtain ⟨n, hn⟩ : ∃ n, n = ls.length := ⟨_, rfl⟩
  have hn0 : 0 < n := by
    have := hL (L[0]) (List.getElem_mem h0)
    omega
  haveI : Inhabited (Fin n) := ⟨⟨0, hn0⟩⟩
  rw [← hn] at hL hbox
  obtain ⟨hl1, hl2⟩ := hown.lt g rfl
  have hdz : (L.map (toF (n := n))).toArray.size = L.length := by simp
  have hel : ∀ (d : Array (Fin n)) (M : List Nat), d.toList.map Fin.val = M → ∀ j, j < M.length → fO (d[j]!) = (M.getD j 0 : Int) := by
    intro d M hM j hj
    subst hM
    have hj2 : j < d.size := by simpa using hj
    rw [getElem!_pos d j hj2, List.getD_eq_getElem?_getD, List.getElem?_map, Array.getElem?_toList, Array.getElem?_eq_getElem hj2]
    rfl
  have hdL : (L.map (toF (n := n))).toArray.toList.map Fin.val = L := by
    rw [List.toList_toArray, List.map_map]
    conv => rhs; rw [← List.map_id L]
    exact List.map_congr_left fun i hi => toF_val (hL i hi)
  have R : Row1 (E (fO (n := n))) w g 0 (L.map toF).toArray := by
    refine ⟨oneE _, fun j hj => ?_, hl2⟩
    rw [hdz] at hj
    rw [Nat.zero_add]
    refine ⟨?_, ownN_free hown j⟩
    rw [ownN_cell hown hj]
    unfold E
    rw [hel _ L hdL j hj]
  obtain ⟨b, off, e, hc⟩ := hr (by omega)
  subst e
  have hbb := hA _ rfl
  simp only at hbb
  refine (Go.Proofs.Ytnldnaogbadajaa.Sw.sortStable_s fO (cfO ls) 93 _ g 0 c (L.map toF).toArray w (fun args w => by kernel_rfl) ?_ R L.length w hdz (SW.start R.hH) hm).mono ?_
  · intro m os dk hs x y
    have S : SW (E (fO (n := n))) w g 0 dk (sortWorld (E (fO (n := n))) w g 0 m dk os) := ⟨m, os, rfl⟩
    have hbox2 := (sw_other S (World.block_lt_of_cell? _ _ hbox) (by simp; omega)).trans hbox
    have cx := hc x.val (by omega)
    have cy := hc y.val (by omega)
    have hx1 := (sw_other S (World.block_lt_of_cell? _ _ cx) (by simp; omega)).trans cx
    have hy1 := (sw_other S (World.block_lt_of_cell? _ _ cy) (by simp; omega)).trans cy
    have hb : ∀ j, ls.getD j 0 ≤ 2147483647 := fun j => by
      rw [List.getD_eq_getElem?_getD]
      by_cases hj : j < ls.length
      · rw [List.getElem?_eq_getElem hj]; exact hx _ (List.getElem_mem hj)
      · rw [List.getElem?_eq_none (by omega)]; decide
    refine (lessO_any bx b off n cA x.val y.val _ _ _ x.isLt y.isLt (by omega) (hb _) (hb _) hbox2 hx1 hy1).mono ?_
    rintro e w' ⟨rfl, q, rfl⟩
    exact ⟨rfl, q, #[], by rw [grow_empty]⟩
  · rintro e w' ⟨rfl, S⟩
    have hz := size_O ls L n
    refine ⟨rfl, fun hl => ⟨g, 0, rfl, fun j hj => ?_⟩, (Below.refl _ _).grown (sw_grown S) hB (fun k hk => by injection hk with hk; omega)⟩
    rw [srtO_len] at hj
    have h1 := S.c1 R (by rw [hz, hdz]) j (by rw [hz]; exact hj)
    rw [h1]
    unfold E
    rw [hel _ _ (sorted_O ls L n hL) j (by rw [srtO_len]; exact hj)]

set_option maxHeartbeats 1600000 in
theorem insertion_nilO (F : Value) (w : World) : Calls Try.prog 101 #[.slice none 0 0, .int .i64 0, .int .i64 0, F] w fun e w' => e = .returned (.tuple #[]) ∧ w' = w := by
  go_enter Try.func101, Try.ntmps101
  go_wp2
  go_loop [8] (fun s => s = .int .i64 1) (fun _ => 0)
  case atStart => rfl
  case round =>
    subst hrel
    go_wp2
    go_end0
    exact ⟨rfl, rfl⟩
set_option maxHeartbeats 1600000 in
theorem stable_nilO (F : Value) (w : World) : Calls Try.prog 98 #[.slice none 0 0, .int .i64 0, F] w fun e w' => e = .returned (.tuple #[]) ∧ w' = w := by
  go_enter Try.func98, Try.ntmps98
  go_wp2
  go_loop [7, 8] (fun s t => s = .int .i64 0 ∧ t = .int .i64 20) (fun _ _ => 0)
  case atStart => exact ⟨rfl, rfl⟩
  case round =>
    obtain ⟨rfl, rfl⟩ := hrel
    go_wp2_with fail
    refine (insertion_nilO F _).mono ?_
    rintro e w1 ⟨rfl, rfl⟩
    go_wp2
    go_loop [6] (fun s => s = .int .i64 20) (fun _ => 0)
    case atStart => rfl
    case round =>
      subst hrel
      go_wp2
      go_end0
      exact ⟨rfl, rfl⟩
set_option maxHeartbeats 1600000 in
theorem sort_nilO (F : Value) (w : World) : Calls Try.prog 92 #[.slice none 0 0, F] w fun e w' => e = .returned (.tuple #[]) ∧ w' = w := by
  go_enter Try.func92, Try.ntmps92
  go_wp2_with fail
  refine (stable_nilO F _).mono ?_
  rintro e w1 ⟨rfl, rfl⟩
  go_wp2
  go_end0
  exact ⟨rfl, rfl⟩
end Go.Proofs.Ytnldnaogbadajaa.Tb

/- huffman.inOrder, walked. -/
set_option linter.unusedVariables false
set_option linter.unusedSimpArgs false
namespace Go.Proofs.Ytnldnaogbadajaa.Tb
open Go.RowKit

/-- A slice of numbers, its block not below B. -/
def IsN (w : World) (B : Nat) (v : Value) (L : List Nat) : Prop := ∃ A c, v = .slice A L.length c ∧ RdN w A L ∧ L.length ≤ c ∧ ∀ b, A = some b → B ≤ b.block
theorem IsN.below {w w1 : World} {B : Nat} {v : Value} {L : List Nat} (h : IsN w B v L) (hb : Below w.heap.size w w1) : IsN w1 B v L := by
  obtain ⟨A, c, e, h1, h2, h3⟩ := h
  exact ⟨A, c, e, h1.below hb, h2, h3⟩
theorem ownN_cap {w : World} {B c : Nat} {A : Option Addr} {L : List Nat} (h : OwnN w B (.slice A L.length c) L) : L.length ≤ c := h.rd.2
theorem OwnN.lower {w : World} {B B' : Nat} {v : Value} {xs : List Nat} (h : OwnN w B v xs) (hb : B' ≤ B) : OwnN w B' v xs := ownsLower h hb

set_option maxRecDepth 100000 in
set_option maxHeartbeats 6400000 in
theorem inOrder_any (A : Option Addr) (c : Nat) (ls : List Nat) (w : World) (hr : RdN w A ls) (hl : ls.length ≤ 1024) (hx : ∀ x ∈ ls, x ≤ 2147483647) :
    Calls Try.prog 79 #[.slice A ls.length c] w fun e w' => ∃ v', e = .returned v' ∧ IsN w' w.heap.size v' (ordL ls) ∧ Below w.heap.size w w' := by
  have HA := Lib.hid hr
  have HX := Lib.hid hx
  obtain ⟨n, hn⟩ : ∃ n, n = ls.length := ⟨_, rfl⟩
  rw [← hn] at hl ⊢
  have HN := Lib.hid hn
  clear hr hx hn
  go_enter Try.func79, Try.ntmps79
  go_wp2
  have HBX0 : Hid ((w.alloc (.cells #[.slice A n c] 22)).cell? ⟨w.heap.size, 0, none⟩ = some (.slice A n c)) := Lib.hid (by simp)
  obtain ⟨w0, hw0⟩ : ∃ w0, w0 = w.alloc (.cells #[.slice A n c] 22) := ⟨_, rfl⟩
  rw [← hw0] at HBX0 ⊢
  have HS0 : Hid (w0.heap.size = w.heap.size + 1) := Lib.hid (by rw [hw0]; simp)
  have HB0 : Hid (Below w.heap.size w w0) := Lib.hid (by rw [hw0]; exact bel9 _ _)
  clear hw0
  go_loopw [3, 8] (fun v s wr => ∃ (t : Nat) (L : List Nat) (A3 : Option Addr) (c3 : Nat), s = .int .i64 t ∧ v = .slice A3 L.length c3 ∧ t ≤ n ∧ Hid (L = presO (ls.take t) 0) ∧ Hid (OwnN wr (w.heap.size + 1) (.slice A3 L.length c3) L) ∧ Hid (L = [] → A3 = none ∧ c3 = 0) ∧ Hid (Below (w.heap.size + 1) w0 wr)) (fun _ s _ => n - (intOf s).toNat)
  case atStart => exact ⟨0, [], none, 0, rfl, rfl, by omega, Lib.hid rfl, Lib.hid (OwnN.nil _ _), Lib.hid (fun _ => ⟨rfl, rfl⟩), Lib.hid (Below.refl _ _)⟩
  case round =>
    obtain ⟨t, L, A3, c3, rfl, rfl, htn, HL, HO, HZ, HB⟩ := hrel
    have hLl : L.length ≤ 1024 := by have := presO_len (ls.take t) 0; rw [← HL.out, List.length_take, ← HN.out] at this; omega
    have hszr : w.heap.size + 1 ≤ wr.heap.size := by have := HB.out.size; rw [HS0.out] at this; exact this
    have HBW : Hid (Below w.heap.size w wr) := Lib.hid (HB0.out.trans (HB.out.mono (by omega)))
    have HBX : Hid (wr.cell? ⟨w.heap.size, 0, none⟩ = some (.slice A n c)) := Lib.hid ((HB.out.cell (by simp)).trans HBX0.out)
    by_cases hlt : t < n
    · obtain ⟨b1, o1, e1, c1⟩ := (HA.out.below HBW.out) (by rw [← HN.out]; omega)
      have cc := c1 t (by rw [← HN.out]; exact hlt)
      have hst : presO (ls.take (t + 1)) 0 = L ++ if 0 < ls.getD t 0 then [t] else [] := by
        have e1 : (0 + (ls.take t).length : Nat) = t := by rw [List.length_take, ← HN.out]; omega
        rw [take_snoc 0 ls t (by rw [← HN.out]; exact hlt), presO_snoc, ← HL.out, e1]
      have hbx := HBX.out
      obtain ⟨x, hx⟩ : ∃ x, x = ls.getD t 0 := ⟨_, rfl⟩
      rw [← hx] at cc hst
      clear c1 hx
      subst e1
      by_cases hx0 : 0 < x
      · have t1 : (0 : Int) < (x : Int) := by omega
        rw [if_pos hx0] at hst
        have HST := Lib.hid (And.intro hst (show L ++ [t] ≠ [] by simp))
        have HS := Lib.hid (rdN_new wr t 3)
        have HOA := Lib.hid (HO.out.below (bel9 wr (.cells #[.int .i64 t] 3)))
        have HBA := Lib.hid (HB.out.alloc hszr (.cells #[.int .i64 t] 3))
        have HLE : Hid (L.length + 1 ≤ 1000000) := Lib.hid (by omega)
        clear hst
        go_wp2_with (at_builtin; refine wpList_appN (.tmp 15) (.tmp 17) (w.heap.size + 1) (.slice A3 L.length c3) L (some ⟨wr.heap.size, 0, none⟩) 1 1 [t] rfl rfl (by rfl) HOA.out (by rfl) rfl (fun h => by cases h) HS.out HLE.out (by have := hszr; simp; omega) ?_; intro v2 w2 ho2 hb2 hg2 ha2; obtain ⟨g2, c2, rfl, _, _⟩ := ownN_form ho2 (by simp); have HO2 := Lib.hid ho2; have HB2 := Lib.hid (HBA.out.trans hb2); clear ho2 hb2 hg2 ha2; generalize L ++ [t] = L2 at HST HO2 ⊢)
        go_roundw
        case measure => simp [intOf]; omega
        case rel => exact ⟨t + 1, L2, _, c2, by go_num, rfl, by omega, Lib.hid HST.out.1.symm, HO2, Lib.hid (fun h => absurd h HST.out.2), HB2⟩
      · have t1 : ¬ (0 : Int) < (x : Int) := by omega
        rw [if_neg hx0, List.append_nil] at hst
        have HST := Lib.hid hst
        clear hst
        go_wp2
        go_roundw
        case measure => simp [intOf]; omega
        case rel => exact ⟨t + 1, L, A3, c3, by go_num, rfl, by omega, Lib.hid HST.out.symm, HO, HZ, HB⟩
    · obtain rfl : t = n := by omega
      have hLo := HL.out
      rw [List.take_of_length_le (by rw [← HN.out]; exact Nat.le_refl _)] at hLo
      have HLV : Hid (ordL ls = srtO ls L) := Lib.hid (by rw [hLo]; rfl)
      by_cases hL0 : L.length = 0
      · obtain rfl : L = [] := List.eq_nil_of_length_eq_zero hL0
        obtain ⟨rfl, rfl⟩ := HZ.out rfl
        have e0 : ordL ls = [] := by rw [HLV.out]; exact List.eq_nil_of_length_eq_zero (srtO_len ls [])
        have E0 := Lib.hid e0
        clear e0 HLV hLo hL0 HL HZ HO
        change @List.length Nat [] ≤ 1024 at hLl
        clear hLl
        rw [show @List.length Nat [] = 0 from rfl]
        go_wp2_with fail
        refine (sort_nilO _ _).mono ?_
        rintro e w1 ⟨rfl, rfl⟩
        go_wp2
        go_ret
        rw [E0.out]
        exact ⟨.slice none 0 0, rfl, ⟨none, 0, rfl, fun h => by simp at h, by simp, fun b h => by cases h⟩, HBW.out⟩
      · have h0 : 0 < L.length := by omega
        obtain ⟨g, c', e3, hgB, hgl⟩ := ownN_form HO.out h0
        injection e3 with e3 _ e4
        subst e3 e4
        have hA : ∀ b, A = some b → b.block < w.heap.size + 1 := fun b hb => by
          have hn0 : 0 < ls.length := by have := presO_len ls 0; rw [← hLo] at this; omega
          obtain ⟨b1, o1, e1, c1⟩ := HA.out hn0
          have := World.block_lt_of_cell? _ _ (c1 0 hn0)
          rw [hb] at e1
          injection e1 with e1
          subst e1
          simp only at this ⊢
          omega
        have HSO := Lib.hid (sortO (w.heap.size + 1) g c3 w.heap.size c A ls L wr (fun i hi => by rw [hLo, presO_mem] at hi; omega) h0 (by omega) (by rw [← HN.out]; omega) hszr HO.out (by rw [← HN.out]; exact HBX.out) (by omega) (HA.out.below HBW.out) hA HX.out)
        obtain ⟨k, hk⟩ : ∃ k, k = L.length := ⟨_, rfl⟩
        rw [← hk] at HSO ⊢
        have HK : Hid ((srtO ls L).length = k) := Lib.hid (by rw [srtO_len, hk])
        have HCAP : Hid (k ≤ c3) := Lib.hid (by rw [hk]; exact ownN_cap HO.out)
        clear hk hLl hLo HL HZ HO hL0 h0 hA
        go_wp2_with fail
        refine HSO.out.mono ?_
        rintro e w1 ⟨rfl, hr1, hb1⟩
        have HR1 := Lib.hid hr1
        have HB1 := Lib.hid (HBW.out.trans (hb1.mono (by omega)))
        clear hr1 hb1 HSO
        go_wp2
        go_ret
        rw [HLV.out]
        exact ⟨_, rfl, ⟨_, c3, by rw [HK.out]; rfl, HR1.out, by rw [HK.out]; exact HCAP.out, fun b h => by injection h with h; subst h; simp only; omega⟩, HB1.out⟩
end Go.Proofs.Ytnldnaogbadajaa.Tb

/- huffman.codesOf, walked. -/
set_option linter.unusedVariables false
set_option linter.unusedSimpArgs false
namespace Go.Proofs.Ytnldnaogbadajaa.Tb
open Go.RowKit

/-! ### plain -/
def kS (ls O : List Nat) : Nat := (O.map fun i => kr (ls.getD i 0)).sum
def codesTo (ls : List Nat) : List Nat → Nat → List Nat → List Nat
  | [], _, cs => cs
  | i :: O, s, cs => codesTo ls O (s + kr (ls.getD i 0)) (cs.set i (s / kr (ls.getD i 0)))
def codesL (ls : List Nat) : List Nat := codesTo ls (ordL ls) 0 (List.replicate ls.length 0)
theorem kS_app (ls O O' : List Nat) : kS ls (O ++ O') = kS ls O + kS ls O' := by simp [kS]
theorem kS_snoc (ls O : List Nat) (i : Nat) : kS ls (O ++ [i]) = kS ls O + kr (ls.getD i 0) := by simp [kS]
theorem codesTo_snoc (ls : List Nat) (i : Nat) : ∀ (O : List Nat) (s : Nat) (cs : List Nat), codesTo ls (O ++ [i]) s cs = (codesTo ls O s cs).set i ((s + kS ls O) / kr (ls.getD i 0))
  | [], s, cs => by simp [codesTo, kS]
  | j :: O, s, cs => by
    rw [List.cons_append, codesTo, codesTo_snoc ls i O, codesTo]
    congr 2
    simp only [kS, List.map_cons, List.sum_cons]
    omega
theorem codesTo_len (ls : List Nat) : ∀ (O : List Nat) (s : Nat) (cs : List Nat), (codesTo ls O s cs).length = cs.length
  | [], _, _ => rfl
  | j :: O, s, cs => by rw [codesTo, codesTo_len ls O, List.length_set]
theorem codesL_len (ls : List Nat) : (codesL ls).length = ls.length := by unfold codesL; rw [codesTo_len, List.length_replicate]
theorem kS_presO : ∀ (ls' ls : List Nat) (i : Nat), (∀ j, j < ls.length → ls'.getD (i + j) 0 = ls.getD j 0) → kS ls' (presO ls i) = krS ls
  | ls', [], i, _ => rfl
  | ls', n :: ls, i, h => by
    have h0 := h 0 (by simp)
    rw [Nat.add_zero, List.getD_cons_zero] at h0
    have ih := kS_presO ls' ls (i + 1) (fun j hj => by
      have := h (j + 1) (by simpa using hj)
      rw [List.getD_cons_succ] at this
      rw [← this]
      congr 1
      omega)
    rw [presO, kS_app, ih]
    simp only [krS, List.map_cons, List.sum_cons]
    congr 1
    split
    · simp only [kS, List.map_cons, List.map_nil, List.sum_cons, List.sum_nil, h0, Nat.add_zero]
    · simp [kS, kr, show n = 0 by omega]
theorem kS_perm (ls : List Nat) {O O' : List Nat} (h : O.Perm O') : kS ls O = kS ls O' := List.Perm.sum_nat (h.map _)
theorem kS_ordL (ls : List Nat) : kS ls (ordL ls) = krS ls := by
  unfold ordL
  rw [kS_perm ls (srtO_perm ls _)]
  exact kS_presO ls ls 0 (fun j _ => by rw [Nat.zero_add])
theorem kS_take (ls O : List Nat) (k : Nat) : kS ls (O.take k) ≤ kS ls O := by
  have := kS_app ls (O.take k) (O.drop k)
  rw [List.take_append_drop] at this
  omega
theorem ordL_asc (ls : List Nat) (i j : Nat) (hij : i < j) (hj : j < (ordL ls).length) : ls.getD ((ordL ls).getD i 0) 0 ≤ ls.getD ((ordL ls).getD j 0) 0 := by
  have hp : (ordL ls).Pairwise fun a b => decide (ls.getD a 0 ≤ ls.getD b 0) = true := by
    unfold ordL srtO
    refine List.pairwise_mergeSort (fun a b c h1 h2 => ?_) (fun a b => ?_) _
    · simp only [decide_eq_true_eq] at h1 h2 ⊢; omega
    · simp only [Bool.or_eq_true, decide_eq_true_eq]; omega
  have := List.pairwise_iff_getElem.1 hp i j (by omega) hj hij
  rw [decide_eq_true_eq] at this
  have e : ∀ k (hk : k < (ordL ls).length), (ordL ls).getD k 0 = (ordL ls)[k] := fun k hk => by rw [List.getD_eq_getElem?_getD, List.getElem?_eq_getElem hk]; rfl
  rw [e i (by omega), e j hj]
  exact this

/-! ### rows of uint64 -/
def uvs (xs : List Nat) : List Value := xs.map fun (x : Nat) => Value.int .u64 (x : Int)
theorem uvs_len (xs : List Nat) : (uvs xs).length = xs.length := by simp [uvs]
def OwnU (w : World) (base : Nat) (v : Value) (xs : List Nat) : Prop := w.ownsRow base 69 1 v xs.length (uvs xs)
theorem OwnU.below {w w' : World} {base : Nat} {v : Value} {xs : List Nat} (h : OwnU w base v xs) (hb : Below w.heap.size w w') : OwnU w' base v xs := ownsBelow h hb
theorem ownU_cell {w : World} {B g c j : Nat} {xs : List Nat} (h : OwnU w B (.slice (some ⟨g, 0, none⟩) xs.length c) xs) (hj : j < xs.length) : w.cell? ⟨g, j, none⟩ = some (.int .u64 (xs.getD j 0 : Nat)) := by
  have := World.ownsRow.cellAt h j (by omega)
  rw [this]
  simp [uvs, hj]
theorem ownU_free {w : World} {B g c : Nat} {xs : List Nat} (h : OwnU w B (.slice (some ⟨g, 0, none⟩) xs.length c) xs) (j : Nat) : w.frozen? ⟨g, j, none⟩ = false := World.ownsRow.frozenAt h j
theorem ownU_stored {w : World} {B g c : Nat} {xs : List Nat} (h : OwnU w B (.slice (some ⟨g, 0, none⟩) xs.length c) xs) (j b : Nat) : OwnU (w.setCell ⟨g, j, none⟩ (.int .u64 (b : Int))) B (.slice (some ⟨g, 0, none⟩) xs.length c) (xs.set j b) := by
  have h1 := (World.ownsRow.stored h j (.int .u64 (b : Int))).1
  unfold OwnU
  rw [List.length_set, show uvs (xs.set j b) = (uvs xs).set j (.int .u64 (b : Int)) by simp [uvs, List.map_set]]
  exact h1
theorem infoU : (Try.prog.info? 69).map (fun i => (i.zero, i.size, i.bytes)) = some (some (.int .u64 0), 1, 8) := by kernel_rfl
theorem make_U (n : Nat) (hc : n ≤ 1000000) (W : World) : (Instr.makeSlice 98 (.int .i64 (n : Int)) (.int .i64 (n : Int))).run Try.prog W = .ok (.slice (some ⟨W.heap.size, 0, none⟩) n n) (W.alloc (.cells (uvs (List.replicate n 0)).toArray 69)) := by
  obtain ⟨i0, hi0, hz0, hz1, hz2⟩ := info_parts infoU
  have hr := run_make (P := Try.prog) W 98 69 i0 _ Try.underlying98 hi0 hz0 .i64 .i64 n n (by omega) (by omega) (by rw [hz2]; omega) (by omega)
  have e : madeCells (Value.int .u64 0).cells n = (uvs (List.replicate n 0)).toArray := by
    apply Array.ext_getElem?
    intro i
    by_cases hi : i < n
    · simp [madeCells, uvs, hi, Value.cells, Nat.mod_one]
    · rw [Array.getElem?_eq_none (by simp [madeCells]; omega), Array.getElem?_eq_none (by simp [uvs]; omega)]
  rw [hr, hz1, Int.toNat_natCast, Nat.mul_one, e]
theorem ownU_new (w : World) (n : Nat) (hn : n ≤ 1000000) : OwnU (w.alloc (.cells (uvs (List.replicate n 0)).toArray 69)) w.heap.size (.slice (some ⟨w.heap.size, 0, none⟩) n n) (List.replicate n 0) := by
  unfold OwnU
  rw [List.length_replicate]
  refine ⟨by rw [uvs_len, List.length_replicate]; omega, .inr ⟨w.heap.size, n, _, rfl, Nat.le_refl _, heap_alloc_new w _, Nat.le_refl _, by simp only [maxLen]; omega, by simp [uvs], ?_⟩⟩
  rw [List.toList_toArray, Nat.mul_one]
  exact List.take_of_length_le (by rw [uvs_len, List.length_replicate]; exact Nat.le_refl _)
theorem RdN.set_ {w : World} {A : Option Addr} {xs : List Nat} (h : RdN w A xs) (g j : Nat) (u : Value) (hne : ∀ b, A = some b → b.block ≠ g) : RdN (w.setCell ⟨g, j, none⟩ u) A xs := by
  intro hl
  obtain ⟨b, off, e, hc⟩ := h hl
  have hb : b ≠ g := hne _ e
  exact ⟨b, off, e, fun j hj => by rw [World.cell?_setCell_far _ _ _ _ (Ne.symm hb)]; exact hc j hj⟩
theorem RdN.lt {w : World} {A : Option Addr} {xs : List Nat} (h : RdN w A xs) (h0 : 0 < xs.length) : ∀ b, A = some b → b.block < w.heap.size := fun b hb => by
  obtain ⟨b1, o1, e1, c1⟩ := h h0
  have := World.block_lt_of_cell? _ _ (c1 0 h0)
  rw [hb] at e1
  injection e1 with e1
  subst e1
  exact this

theorem shl_eq (c bf x S : Nat) (h1 : bf ≤ x) (h2 : x ≤ 15) (h : (c + 1) * 2 ^ (15 - bf) = S) : (c + 1) * 2 ^ (x - bf) = S / 2 ^ (15 - x) := by
  subst h
  rw [show 15 - bf = (x - bf) + (15 - x) by omega, Nat.pow_add, ← Nat.mul_assoc, Nat.mul_div_cancel _ (Nat.two_pow_pos _)]
theorem shl_next (c bf x S : Nat) (h1 : bf ≤ x) (h2 : x ≤ 15) (h : (c + 1) * 2 ^ (15 - bf) = S) : ((c + 1) * 2 ^ (x - bf) + 1) * 2 ^ (15 - x) = S + 2 ^ (15 - x) := by
  subst h
  rw [Nat.add_mul, Nat.one_mul, show 15 - bf = (x - bf) + (15 - x) by omega, Nat.pow_add, ← Nat.mul_assoc]

set_option maxRecDepth 100000 in
set_option maxHeartbeats 6400000 in
theorem codesOf_any (A : Option Addr) (c : Nat) (ls : List Nat) (w : World) (hr : RdN w A ls) (hl : ls.length ≤ 1024) (hx : ∀ x ∈ ls, x ≤ 15) (hs : krS ls ≤ 32768) :
    Calls Try.prog 63 #[.slice A ls.length c] w fun e w' => ∃ v', e = .returned v' ∧ OwnU w' w.heap.size v' (codesL ls) ∧ Below w.heap.size w w' := by
  have HIO := Lib.hid (inOrder_any A c ls (w.alloc (.cells (uvs (List.replicate ls.length 0)).toArray 69)) (hr.below (bel9 w _)) hl (fun x h => Nat.le_trans (hx x h) (by decide)))
  have HA := Lib.hid hr
  have HX := Lib.hid hx
  have HTOT := Lib.hid (Nat.le_trans (Nat.le_of_eq (kS_ordL ls)) hs)
  have HASC := Lib.hid (ordL_asc ls)
  have HMEM : Hid (∀ k, k < (ordL ls).length → (ordL ls).getD k 0 < ls.length ∧ 0 < ls.getD ((ordL ls).getD k 0) 0) := Lib.hid (fun k hk => by
    rw [← ordL_mem, List.getD_eq_getElem?_getD, List.getElem?_eq_getElem hk]; exact List.getElem_mem hk)
  have HCL : Hid (codesL ls = codesTo ls (ordL ls) 0 (List.replicate ls.length 0)) := Lib.hid rfl
  have HAL : Hid (0 < ls.length → ∀ b, A = some b → b.block < w.heap.size) := Lib.hid (fun h0 => hr.lt h0)
  have HNW := Lib.hid (ownU_new w ls.length (by omega))
  obtain ⟨n, hn⟩ : ∃ n, n = ls.length := ⟨_, rfl⟩
  rw [← hn] at hl HIO HMEM HCL HAL HNW ⊢
  have HN := Lib.hid hn
  have hmk := make_U n (by omega)
  obtain ⟨O, hO⟩ : ∃ O, O = ordL ls := ⟨_, rfl⟩
  rw [← hO] at HIO HTOT HASC HMEM HCL
  have hOl : O.length ≤ n := by rw [hO, hn]; unfold ordL; rw [srtO_len]; exact presO_len ls 0
  clear hr hx hn hs hO
  go_enter Try.func63, Try.ntmps63
  go_wp2_with fail
  refine HIO.out.mono ?_
  rintro e w2 ⟨v2, rfl, hi2, hb2⟩
  obtain ⟨A2, c2, rfl, hrd2, hc2, hbb2⟩ := hi2
  obtain ⟨m, hm⟩ : ∃ m, m = O.length := ⟨_, rfl⟩
  rw [← hm] at hc2 hOl HMEM ⊢
  have HRO := Lib.hid hrd2
  have HBB := Lib.hid hbb2
  have HOW := Lib.hid (HNW.out.below hb2)
  have HRL := Lib.hid ((HA.out.below (bel9 w _)).below hb2)
  have HB := Lib.hid ((bel9 w (.cells (uvs (List.replicate n 0)).toArray 69)).trans (hb2.mono (bel9 w _).size))
  have HM := Lib.hid hm
  clear hrd2 hbb2 hb2 hm HIO HNW hmk
  go_wp2
  go_loopw [4, 5, 14] (fun a b s wr => ∃ (k cd bf : Nat) (cs : List Nat), s = .int .i64 k ∧ a = .int .u64 cd ∧ b = .int .i64 bf ∧ k ≤ m ∧ bf ≤ 15 ∧ cd ≤ 32768 ∧ (k = 0 → cd = 0 ∧ bf = 0) ∧ Hid (0 < k → bf = ls.getD (O.getD (k - 1) 0) 0 ∧ (cd + 1) * 2 ^ (15 - bf) = kS ls (O.take k)) ∧ Hid (cs = codesTo ls (O.take k) 0 (List.replicate n 0)) ∧ Hid (cs.length = n) ∧ Hid (OwnU wr w.heap.size (.slice (some ⟨w.heap.size, 0, none⟩) n n) cs) ∧ Hid (RdN wr A2 O) ∧ Hid (RdN wr A ls) ∧ Hid (Below w.heap.size w wr)) (fun _ _ s _ => m - (intOf s).toNat)
  case atStart => exact ⟨0, 0, 0, List.replicate n 0, rfl, rfl, rfl, by omega, by omega, by omega, fun _ => ⟨rfl, rfl⟩, Lib.hid (fun h => by omega), Lib.hid rfl, Lib.hid (by simp), HOW, HRO, HRL, HB⟩
  case round =>
    obtain ⟨k, cd, bf, cs, rfl, rfl, rfl, hkm, hbf, hcd, hk0, HINV, HCS, HCN, HO, HR2, HRA, HBE⟩ := hrel
    by_cases hlt : k < m
    · obtain ⟨b2, o2, e2, cc2⟩ := HR2.out (by rw [← HM.out]; omega)
      have ck := cc2 k (by rw [← HM.out]; exact hlt)
      have hme := HMEM.out k hlt
      have hbb := HBB.out _ e2
      obtain ⟨b1, o1, e1, cc1⟩ := HRA.out (by rw [← HN.out]; omega)
      have hab := HAL.out (by omega) _ e1
      have htk : O.take (k + 1) = O.take k ++ [O.getD k 0] := take_snoc 0 O k (by rw [← HM.out]; exact hlt)
      obtain ⟨i, hi⟩ : ∃ i, i = O.getD k 0 := ⟨_, rfl⟩
      rw [← hi] at ck hme htk
      have cl := cc1 i (by rw [← HN.out]; exact hme.1)
      have hx15 : ls.getD i 0 ≤ 15 := HX.out _ (by rw [List.getD_eq_getElem?_getD, List.getElem?_eq_getElem (by rw [← HN.out]; exact hme.1)]; exact List.getElem_mem _)
      have hS1 : kS ls (O.take (k + 1)) = kS ls (O.take k) + kr (ls.getD i 0) := by rw [htk, kS_snoc]
      have hS2 : kS ls (O.take (k + 1)) ≤ 32768 := Nat.le_trans (kS_take ls O _) HTOT.out
      have hkr : kr (ls.getD i 0) = 2 ^ (15 - ls.getD i 0) := by unfold kr; rw [if_pos hme.2]
      have hbx : 0 < k → bf ≤ ls.getD i 0 := fun h0 => by
        rw [(HINV.out h0).1, hi]
        exact HASC.out (k - 1) k (by omega) (by rw [← HM.out]; exact hlt)
      have hcs1 : codesTo ls (O.take (k + 1)) 0 (List.replicate n 0) = cs.set i (kS ls (O.take k) / kr (ls.getD i 0)) := by
        rw [htk, codesTo_snoc, ← HCS.out, Nat.zero_add]
      have hi1 := hme.1
      have HLI : Hid (ls.getD (O.getD (k + 1 - 1) 0) 0 = ls.getD i 0) := Lib.hid (by rw [Nat.add_sub_cancel, ← hi])
      obtain ⟨x, hxx⟩ : ∃ x, x = ls.getD i 0 := ⟨_, rfl⟩
      rw [← hxx] at cl hx15 hS1 hkr hbx hcs1 hme HLI
      have hx1 := hme.2
      have hc0 : wr.cell? ⟨w.heap.size, i, none⟩ = some (.int .u64 (cs.getD i 0 : Nat)) := by
        have h9 := HO.out
        rw [← HCN.out] at h9
        exact ownU_cell h9 (by rw [HCN.out]; exact hi1)
      have hf0 : wr.frozen? ⟨w.heap.size, i, none⟩ = false := by
        have h9 := HO.out
        rw [← HCN.out] at h9
        exact ownU_free h9 i
      have hsz : w.heap.size < wr.heap.size := (HO.out.lt _ rfl).2
      have hST : ∀ v : Nat, OwnU (wr.setCell ⟨w.heap.size, i, none⟩ (.int .u64 (v : Int))) w.heap.size (.slice (some ⟨w.heap.size, 0, none⟩) n n) (cs.set i v) := fun v => by
        have h9 := HO.out
        rw [← HCN.out] at h9
        have h8 := ownU_stored h9 i v
        rw [HCN.out] at h8
        exact h8
      have HST := Lib.hid hST
      have HR22 : Hid (∀ v : Value, RdN (wr.setCell ⟨w.heap.size, i, none⟩ v) A2 O) := Lib.hid (fun v => HR2.out.set_ _ _ v (fun b hb => by rw [hb] at e2; injection e2 with e2; subst e2; simp at hbb; simp only; omega))
      have HRA2 : Hid (∀ v : Value, RdN (wr.setCell ⟨w.heap.size, i, none⟩ v) A ls) := Lib.hid (fun v => HRA.out.set_ _ _ v (fun b hb => by rw [hb] at e1; injection e1 with e1; subst e1; simp at hab; simp only; omega))
      have HB2 : Hid (∀ v : Value, Below w.heap.size w (wr.setCell ⟨w.heap.size, i, none⟩ v)) := Lib.hid (fun v => HBE.out.setCell (p := ⟨w.heap.size, i, none⟩) (Nat.le_refl _) v)
      generalize cs.getD i 0 = old at hc0
      by_cases h0 : 0 < k
      · have hb9 := hbx h0
        have hinv := (HINV.out h0).2
        have hq := shl_eq cd bf x _ hb9 hx15 hinv
        have hq2 := shl_next cd bf x _ hb9 hx15 hinv
        rw [← hkr] at hq hq2
        obtain ⟨y, hy⟩ : ∃ y, y = (cd + 1) * 2 ^ (x - bf) := ⟨_, rfl⟩
        rw [← hy] at hq hq2
        rw [← hq] at hcs1
        have hyl : y ≤ 32768 := by
          have : y * 1 ≤ y * kr x := Nat.mul_le_mul_left _ (by rw [hkr]; exact Nat.two_pow_pos _)
          rw [← hS1] at hq2
          rw [Nat.add_mul] at hq2
          omega
        have HFIN : Hid ((y + 1) * 2 ^ (15 - x) = kS ls (O.take (k + 1))) := Lib.hid (by rw [hS1, ← hkr]; exact hq2)
        have HCS2 := Lib.hid hcs1
        have t1 : (0 : Int) < (k : Int) := by omega
        obtain ⟨d, hd⟩ : ∃ d, d = x - bf := ⟨_, rfl⟩
        have ed : (x : Int) - (bf : Int) = (d : Int) := by omega
        have hd15 : d ≤ 15 := by omega
        have HY : Hid (((cd : Int) + 1) * 2 ^ d = (y : Int)) := Lib.hid (by rw [hy, hd]; push_cast; rfl)
        clear hcs1 hinv hq hq2 hy hS1 hS2 hkr hbx htk hxx cc1 cc2 hST hi hd hme hk0 HINV
        subst e1
        subst e2
        go_wp2
        rw [show IntKind.u64.wrap (((cd : Int) + 1) * 2 ^ d) = (y : Int) by rw [HY.out, IntKind.wrap_u64]; omega]
        go_roundw
        case measure => simp [intOf]; omega
        case rel => exact ⟨k + 1, y, x, cs.set i y, by go_num, rfl, rfl, by omega, hx15, hyl, fun h => by omega, Lib.hid (fun _ => ⟨HLI.out.symm, HFIN.out⟩), Lib.hid HCS2.out.symm, Lib.hid (by rw [List.length_set]; exact HCN.out), Lib.hid (HST.out y), Lib.hid (HR22.out _), Lib.hid (HRA2.out _), Lib.hid (HB2.out _)⟩
      · obtain rfl : k = 0 := by omega
        obtain ⟨rfl, rfl⟩ := hk0 rfl
        rw [Nat.add_zero] at ck
        rw [show kS ls (O.take 0) = 0 from rfl, Nat.zero_div] at hcs1
        rw [show kS ls (O.take 0) = 0 from rfl, Nat.zero_add] at hS1
        have HFIN : Hid ((0 + 1) * 2 ^ (15 - x) = kS ls (O.take (0 + 1))) := Lib.hid (by rw [hS1, ← hkr]; omega)
        have HCS2 := Lib.hid hcs1
        clear hcs1 hS1 hS2 hkr hbx htk hxx cc1 cc2 hST hi hme HINV h0 hk0
        subst e1
        subst e2
        go_wp2
        go_roundw
        case measure => simp [intOf]; omega
        case rel => exact ⟨1, 0, x, cs.set i 0, by go_num, rfl, rfl, by omega, hx15, by omega, fun h => by omega, Lib.hid (fun _ => ⟨HLI.out.symm, HFIN.out⟩), Lib.hid HCS2.out.symm, Lib.hid (by rw [List.length_set]; exact HCN.out), Lib.hid (HST.out 0), Lib.hid (HR22.out _), Lib.hid (HRA2.out _), Lib.hid (HB2.out _)⟩
    · have hall : O.take k = O := List.take_of_length_le (by rw [← HM.out]; omega)
      have HF : Hid (codesL ls = cs) := Lib.hid (by rw [HCL.out, HCS.out, hall])
      clear hall
      go_wp2
      go_ret
      exact ⟨_, rfl, by rw [HF.out]; have h9 := HO.out; exact h9, HBE.out⟩
end Go.Proofs.Ytnldnaogbadajaa.Tb

/- huffman.Encode, walked: symbols that have codes. -/
set_option linter.unusedVariables false
set_option linter.unusedSimpArgs false
namespace Go.Proofs.Ytnldnaogbadajaa.Tb
open Go.RowKit

/-! ### plain -/
theorem codesTo_other (ls : List Nat) (j : Nat) : ∀ (O : List Nat) (s : Nat) (cs : List Nat), j ∉ O → (codesTo ls O s cs).getD j 0 = cs.getD j 0
  | [], _, _, _ => rfl
  | i :: O, s, cs, h => by
    rw [codesTo, codesTo_other ls j O _ _ (fun h2 => h (List.mem_cons_of_mem _ h2))]
    have hne : i ≠ j := fun e => h (by rw [e]; exact List.mem_cons_self ..)
    rw [List.getD_eq_getElem?_getD, List.getElem?_set_ne hne, ← List.getD_eq_getElem?_getD]
theorem codesTo_get (ls : List Nat) : ∀ (O : List Nat) (s : Nat) (cs : List Nat) (k i : Nat), O.Nodup → O[k]? = some i → i < cs.length → (codesTo ls O s cs).getD i 0 = (s + kS ls (O.take k)) / kr (ls.getD i 0)
  | [], _, _, k, i, _, h, _ => by simp at h
  | j :: O, s, cs, 0, i, hn, h, hi => by
    simp only [List.getElem?_cons_zero, Option.some.injEq] at h
    subst h
    rw [codesTo, codesTo_other ls j O _ _ (List.nodup_cons.1 hn).1, List.getD_eq_getElem?_getD, List.getElem?_set_self hi]
    simp [kS]
  | j :: O, s, cs, k + 1, i, hn, h, hi => by
    rw [List.getElem?_cons_succ] at h
    rw [codesTo, codesTo_get ls O _ _ k i (List.nodup_cons.1 hn).2 h (by rw [List.length_set]; exact hi)]
    congr 1
    simp only [kS, List.take_succ_cons, List.map_cons, List.sum_cons]
    omega
theorem presO_asc : ∀ (ls : List Nat) (i : Nat), (presO ls i).Pairwise (· < ·)
  | [], _ => List.Pairwise.nil
  | n :: ls, i => by
    rw [presO]
    split
    · rw [List.singleton_append, List.pairwise_cons]
      exact ⟨fun x hx => by have := presO_mem.1 hx; omega, presO_asc ls (i + 1)⟩
    · rw [List.nil_append]; exact presO_asc ls (i + 1)
theorem ordL_nodup (ls : List Nat) : (ordL ls).Nodup := by
  unfold ordL
  rw [(srtO_perm _ _).nodup_iff]
  exact (presO_asc ls 0).imp (fun h => Nat.ne_of_lt h)
theorem codesL_at (ls : List Nat) {k i : Nat} (h : (ordL ls)[k]? = some i) : (codesL ls).getD i 0 = kS ls ((ordL ls).take k) / kr (ls.getD i 0) := by
  have hi := ordL_mem.1 (List.mem_of_getElem? h)
  unfold codesL
  rw [codesTo_get ls _ 0 _ k i (ordL_nodup ls) h (by rw [List.length_replicate]; exact hi.1), Nat.zero_add]
theorem codesL_lt (ls : List Nat) (h15 : ∀ x ∈ ls, x ≤ 15) (hs : krS ls ≤ 32768) {i : Nat} (h1 : i < ls.length) (h2 : 0 < ls.getD i 0) : (codesL ls).getD i 0 < 2 ^ ls.getD i 0 := by
  obtain ⟨k, hk⟩ := List.mem_iff_getElem?.1 (ordL_mem.2 ⟨h1, h2⟩)
  rw [codesL_at ls hk]
  have hkl : k < (ordL ls).length := (List.getElem?_eq_some_iff.1 hk).1
  have hx : ls.getD i 0 ≤ 15 := h15 _ (by rw [List.getD_eq_getElem?_getD, List.getElem?_eq_getElem h1]; exact List.getElem_mem _)
  have htk : (ordL ls).take (k + 1) = (ordL ls).take k ++ [i] := by rw [List.take_add_one, hk]; rfl
  have hS := Nat.le_trans (kS_take ls (ordL ls) (k + 1)) (Nat.le_trans (Nat.le_of_eq (kS_ordL ls)) hs)
  rw [htk, kS_snoc] at hS
  have hkr : kr (ls.getD i 0) = 2 ^ (15 - ls.getD i 0) := by unfold kr; rw [if_pos h2]
  rw [hkr] at hS ⊢
  rw [Nat.div_lt_iff_lt_mul (Nat.two_pow_pos _), ← Nat.pow_add, show ls.getD i 0 + (15 - ls.getD i 0) = 15 by omega]
  have := Nat.two_pow_pos (15 - ls.getD i 0)
  omega
def symB (ls : List Nat) (s : Nat) : List Bool := lowB ((codesL ls).getD s 0) (ls.getD s 0)
def encB (ls : List Nat) : List Nat → List Bool
  | [] => []
  | s :: l => symB ls s ++ encB ls l
theorem belDrew (w : World) (B : Nat) : Below B w w.drew := ⟨rfl, rfl, rfl, Nat.le_refl _, fun _ _ => rfl⟩
theorem ownU_form {w : World} {B : Nat} {v : Value} {xs : List Nat} (h : OwnU w B v xs) (h0 : 0 < xs.length) : ∃ g c, v = .slice (some ⟨g, 0, none⟩) xs.length c ∧ B ≤ g ∧ g < w.heap.size := by
  obtain ⟨g, c, e, h1, h2⟩ := World.ownsRow.form h h0
  exact ⟨g, c, e, h1, h2⟩
theorem encB_snoc (ls : List Nat) (s : Nat) : ∀ l : List Nat, encB ls (l ++ [s]) = encB ls l ++ symB ls s
  | [] => by simp [encB]
  | x :: l => by rw [List.cons_append, encB, encB_snoc ls s l, encB, List.append_assoc]
structure SymOk (ls l : List Nat) : Prop where
  ok : ∀ s ∈ l, s < ls.length ∧ 0 < ls.getD s 0
structure LenOk (ls : List Nat) : Prop where
  len : ls.length ≤ 1024
  le : ∀ x ∈ ls, x ≤ 15
  sum : krS ls ≤ 32768
theorem LenOk.at_ {ls : List Nat} (h : LenOk ls) (s : Nat) : ls.getD s 0 ≤ 15 := by
  rw [List.getD_eq_getElem?_getD]
  by_cases hj : s < ls.length
  · rw [List.getElem?_eq_getElem hj]; exact h.le _ (List.getElem_mem hj)
  · rw [List.getElem?_eq_none (by omega)]; decide
theorem LenOk.vld {ls : List Nat} (h : LenOk ls) : vld ls = true := by
  unfold Go.Proofs.Ytnldnaogbadajaa.Tb.vld
  rw [decide_eq_true h.len, decide_eq_true h.sum, List.all_eq_true.2 (fun x hx => decide_eq_true (h.le x hx))]; rfl
theorem encB_len_le {ls : List Nat} (h : LenOk ls) : ∀ l : List Nat, (encB ls l).length ≤ 15 * l.length
  | [] => by simp [encB]
  | x :: l => by
    have h1 := encB_len_le h l
    have h2 := h.at_ x
    rw [encB, List.length_append, symB, lowB_len, List.length_cons]
    omega

set_option maxRecDepth 100000 in
set_option maxHeartbeats 12800000 in
theorem hEncode_ok (A B : Option Addr) (c cb : Nat) (ls l : List Nat) (w : World) (hr : RdN w A ls) (hrb : RdN w B l) (hL : LenOk ls) (hl : l.length ≤ 4096) (hs : SymOk ls l) :
    Calls Try.prog 38 #[.slice A ls.length c, .slice B l.length cb] w fun e w' => ∃ v', e = .returned (.tuple #[v', .int .i64 (encB ls l).length, .int .i64 0]) ∧ OwnB w' w.heap.size v' (pk (encB ls l)) ∧ Below w.heap.size w w' := by
  have HVA := Lib.hid (valid_any A c ls w hr (by have := hL.len; omega) (fun x hx => Nat.le_trans (hL.le x hx) (by decide)))
  have HCO := Lib.hid (codesOf_any A c ls w hr hL.len hL.le hL.sum)
  rw [hL.vld] at HVA
  have HLT : Hid (∀ i, i < ls.length → 0 < ls.getD i 0 → (codesL ls).getD i 0 < 2 ^ ls.getD i 0) := Lib.hid (fun i h1 h2 => codesL_lt ls hL.le hL.sum h1 h2)
  have HLK := Lib.hid hL
  have HSK := Lib.hid hs
  have HA := Lib.hid hr
  have HRB := Lib.hid hrb
  have HCN : Hid ((codesL ls).length = ls.length) := Lib.hid (codesL_len ls)
  have hn1 := hL.len
  obtain ⟨n, hn⟩ : ∃ n, n = ls.length := ⟨_, rfl⟩
  obtain ⟨m, hm⟩ : ∃ m, m = l.length := ⟨_, rfl⟩
  rw [← hn] at hn1 HVA HCO HCN ⊢
  rw [← hm] at hl ⊢
  have HN := Lib.hid hn
  have HM := Lib.hid hm
  clear hr hrb hL hs hn hm
  go_enter Try.func38, Try.ntmps38
  go_wp2_with fail
  refine HVA.out.mono ?_
  rintro e w ⟨rfl, rfl⟩
  go_wp2_with fail
  refine HCO.out.mono ?_
  rintro e w1 ⟨v1, rfl, ho1, hb1⟩
  obtain ⟨cds, hcd⟩ : ∃ cds, cds = codesL ls := ⟨_, rfl⟩
  rw [← hcd] at ho1 HLT HCN
  have HO1 := Lib.hid ho1
  have HB1 := Lib.hid hb1
  have HCD := Lib.hid hcd
  clear ho1 hb1 hcd HCO HVA
  go_wp2_with fail
  refine (NewWriter_any w1).mono ?_
  rintro e w2 ⟨rfl, hs2, hb2⟩
  have HS2 := Lib.hid hs2
  have HB2 := Lib.hid hb2
  clear hs2 hb2
  obtain ⟨p, hp⟩ : ∃ p, p = w1.heap.size := ⟨_, rfl⟩
  have HP := Lib.hid hp
  rw [← hp] at HS2 HB2 ⊢
  clear hp
  go_wp2
  go_loopw [27] (fun s wr => ∃ (t : Nat) (v : Value), s = .int .i64 t ∧ t ≤ m ∧ Hid (WrSt wr p p v (encB ls (l.take t))) ∧ Hid (Below p w1 wr)) (fun s _ => m - (intOf s).toNat)
  case atStart => exact ⟨0, _, rfl, by omega, HS2, HB2⟩
  case round =>
    obtain ⟨t, v, rfl, htm, HW, HB⟩ := hrel
    have HBW : Hid (Below w.heap.size w wr) := Lib.hid (HB1.out.trans (HB.out.mono (by rw [HP.out]; exact HB1.out.size)))
    by_cases hlt : t < m
    · have hx := HSK.out.ok (l.getD t 0) (by rw [List.getD_eq_getElem?_getD, List.getElem?_eq_getElem (by rw [← HM.out]; exact hlt)]; exact List.getElem_mem _)
      obtain ⟨b2, o2, e2, cc2⟩ := (HRB.out.below HBW.out) (by rw [← HM.out]; omega)
      have cl := cc2 t (by rw [← HM.out]; exact hlt)
      have hst : encB ls (l.take (t + 1)) = encB ls (l.take t) ++ symB ls (l.getD t 0) := by
        rw [take_snoc 0 l t (by rw [← HM.out]; exact hlt), encB_snoc]
      have hlen := encB_len_le HLK.out (l.take t)
      rw [List.length_take, ← HM.out] at hlen
      obtain ⟨x, hxx⟩ : ∃ x, x = l.getD t 0 := ⟨_, rfl⟩
      rw [← hxx] at hx cl hst
      obtain ⟨hx1, hx2⟩ := hx
      obtain ⟨b1, o1, e1, cc1⟩ := (HA.out.below HBW.out) (by omega)
      have cy := cc1 x hx1
      have hcode := HLT.out x hx1 hx2
      have hy15 := HLK.out.at_ x
      unfold symB at hst
      rw [← HCD.out] at hst
      rw [← HN.out] at hx1
      obtain ⟨g, c1, e3, hg1, hg2⟩ := ownU_form HO1.out (by rw [HCN.out]; omega)
      subst e3
      have h9 := HO1.out
      have ccd : wr.cell? ⟨g, x, none⟩ = some (.int .u64 (cds.getD x 0 : Nat)) := by
        rw [(HB.out.cell (show (⟨g, x, none⟩ : Addr).block < p by rw [HP.out]; exact hg2))]
        exact ownU_cell h9 (by rw [HCN.out]; exact hx1)
      rw [HCN.out]
      obtain ⟨y, hy⟩ : ∃ y, y = ls.getD x 0 := ⟨_, rfl⟩
      rw [← hy] at cy hx2 hcode hy15 hst
      obtain ⟨cd, hcd⟩ : ∃ cd, cd = cds.getD x 0 := ⟨_, rfl⟩
      rw [← hcd] at ccd hcode hst
      have hcd16 : cd < 65536 := Nat.lt_of_lt_of_le hcode (Nat.le_trans (Nat.pow_le_pow_right (by omega) hy15) (by decide))
      have HST := Lib.hid hst
      have HBI := Lib.hid (Bits_ok p p v (encB ls (l.take t)) cd y wr.drew (HW.out.below (belDrew wr _)) (by have := Nat.min_le_left t m; omega) (by omega) (by omega) hcode)
      have t1 : ¬ (x : Int) < 0 := by omega
      have t2 : ¬ (n : Int) ≤ (x : Int) := by omega
      have t3 : ((y : Int) == 0) = false := by rw [beq_eq_false_iff_ne]; omega
      have g1 : (0 : Int) ≤ (x : Int) := by omega
      have g2 : (x : Int) < (n : Int) := by omega
      clear cc1 cc2 hxx hy hcd hst hcode hlen h9
      subst e1
      subst e2
      go_wp2
      go_still_tail 9, (by kernel_rfl)
      change wpList _ _ _ _ _ wr.drew
      go_wp2_with fail
      refine HBI.out.mono ?_
      rintro e w3 ⟨v3, rfl, hs3, hf3⟩
      rw [← HST.out] at hs3
      have HS3 := Lib.hid hs3
      have HB3 := Lib.hid (HB.out.trans ((belDrew wr _).trans (Fr.bel hf3 (HW.out.below (belDrew wr _)))))
      clear hs3 hf3 HBI
      go_wp2
      go_roundw
      case measure => simp [intOf]; omega
      case rel => exact ⟨t + 1, v3, by go_num, by omega, HS3, HB3⟩
    · have hall : l.take t = l := List.take_of_length_le (by rw [← HM.out]; omega)
      rw [hall] at HW
      clear hall
      have hlen := encB_len_le HLK.out l
      rw [← HM.out] at hlen
      have HBY := Lib.hid (WBytes_any p p v (encB ls l) wr HW.out (by omega))
      obtain ⟨E, hE⟩ : ∃ E, E = encB ls l := ⟨_, rfl⟩
      rw [← hE] at HW HBY
      have HE := Lib.hid hE
      have hszr := HBW.out.size
      clear hE hlen
      go_wp2_with fail
      refine HBY.out.mono ?_
      rintro e w3 ⟨v3, rfl, ho3, hb3⟩
      have HLN := Lib.hid (WLen_any p p v E w3 (HW.out.below hb3))
      have HO3 := Lib.hid (ho3.lower hszr)
      have HB3 := Lib.hid (HBW.out.trans (hb3.mono hszr))
      clear ho3 hb3 HBY
      go_wp2_with fail
      refine HLN.out.mono ?_
      rintro e w4 ⟨rfl, rfl⟩
      go_wp2
      go_ret3
      rw [← HE.out]
      exact ⟨v3, rfl, HO3.out, HB3.out⟩
end Go.Proofs.Ytnldnaogbadajaa.Tb

/- huffman.Lengths, plain: the lengths are those of a complete code. -/
set_option linter.unusedVariables false
namespace Go.Proofs.Ytnldnaogbadajaa.Tb

/-! ### packages -/
theorem packs_get : ∀ (b : List It) (i j : Nat), j < b.length / 2 → (packs b i)[j]? = some ⟨(b.getD (2 * j) default).w + (b.getD (2 * j + 1) default).w, -1, i + 2 * j, i + 2 * j + 1⟩
  | [], _, j, h => by simp at h
  | [x], _, j, h => by simp at h
  | x :: y :: r, i, 0, _ => by simp [packs]
  | x :: y :: r, i, j + 1, h => by
    rw [packs, List.getElem?_cons_succ, packs_get r (i + 2) j (by simp only [List.length_cons] at h; omega)]
    rw [show 2 * (j + 1) = 2 * j + 1 + 1 by omega, List.getD_cons_succ, List.getD_cons_succ, List.getD_cons_succ, List.getD_cons_succ, show i + 2 + 2 * j = i + (2 * j + 1 + 1) by omega, show i + (2 * j + 1 + 1) + 1 = i + (2 * j + 1 + 1) + 1 from rfl]
def Asc (L : List It) : Prop := L.Pairwise fun x y => leW x y = true
theorem Asc.le {L : List It} (h : Asc L) {i j : Nat} (hij : i ≤ j) (hj : j < L.length) : (L.getD i default).w ≤ (L.getD j default).w := by
  by_cases e : i = j
  · subst e; exact Nat.le_refl _
  · have := List.pairwise_iff_getElem.1 h i j (by omega) hj (by omega)
    simp only [leW, decide_eq_true_eq] at this
    have g : ∀ k (hk : k < L.length), L.getD k default = L[k] := fun k hk => by rw [List.getD_eq_getElem?_getD, List.getElem?_eq_getElem hk]; rfl
    rw [g i (by omega), g j hj]
    exact this
theorem packs_at (b : List It) (i j : Nat) (h : j < (packs b i).length) : (packs b i)[j] = ⟨(b.getD (2 * j) default).w + (b.getD (2 * j + 1) default).w, -1, i + 2 * j, i + 2 * j + 1⟩ := by
  have h2 := packs_get b i j (by rw [packs_len] at h; exact h)
  rw [List.getElem?_eq_getElem h] at h2
  exact Option.some.inj h2
theorem packs_asc {b : List It} (h : Asc b) (i : Nat) : Asc (packs b i) := by
  refine List.pairwise_iff_getElem.2 fun j k hj hk hjk => ?_
  rw [packs_at b i j hj, packs_at b i k hk]
  simp only [leW, decide_eq_true_eq]
  rw [packs_len] at hk
  have h1 := h.le (show 2 * j ≤ 2 * k by omega) (by omega)
  have h2 := h.le (show 2 * j + 1 ≤ 2 * k + 1 by omega) (by omega)
  omega
theorem packs_nodup (b : List It) (i : Nat) : (packs b i).Nodup := by
  refine List.pairwise_iff_getElem.2 fun j k hj hk hjk => ?_
  rw [packs_at b i j hj, packs_at b i k hk]
  intro e
  injection e with _ _ e _
  omega
theorem packs_sym {b : List It} {i : Nat} {x : It} (h : x ∈ packs b i) : x.s = -1 := by
  obtain ⟨j, hj, rfl⟩ := List.mem_iff_getElem.1 h
  rw [packs_at b i j hj]

/-! ### leaves -/
structure Leaf (lv : List It) : Prop where
  asc : Asc lv
  nd : lv.Nodup
  sy : ∀ x ∈ lv, 0 ≤ x.s
  one : ∀ s : Nat, (lv.filter fun x => decide (x.s = (s : Int))).length ≤ 1
theorem presL_asc : ∀ (cs : List Nat) (i : Nat), (presL cs i).Pairwise fun x y => x.s < y.s
  | [], _ => List.Pairwise.nil
  | c :: cs, i => by
    rw [presL]
    split
    · rw [List.pairwise_cons]
      exact ⟨fun x hx => by have := (presL_mem hx).2.1; simp only; omega, presL_asc cs (i + 1)⟩
    · exact presL_asc cs (i + 1)
theorem leaf_leaves (cs : List Nat) : Leaf (leavesL cs) where
  asc := srt_asc _
  nd := by
    unfold leavesL
    rw [(srt_perm _).nodup_iff]
    exact (presL_asc cs 0).imp (fun h e => by rw [e] at h; omega)
  sy := fun x hx => (leaves_sym cs x hx).1
  one := fun s => by
    unfold leavesL
    rw [((srt_perm _).filter _).length_eq]
    have hp := (presL_asc cs 0).filter (fun x => decide (x.s = (s : Int)))
    have hm : ∀ x ∈ (presL cs 0).filter (fun x => decide (x.s = (s : Int))), x.s = s := fun x hx => by simpa using (List.mem_filter.1 hx).2
    generalize (presL cs 0).filter (fun x => decide (x.s = (s : Int))) = L at hp hm
    match L, hp, hm with
    | [], _, _ => simp
    | [_], _, _ => simp
    | x :: y :: r, hp, hm =>
      have h1 := (List.pairwise_cons.1 hp).1 y (by simp)
      have h2 := hm x (by simp)
      have h3 := hm y (by simp)
      omega
theorem listK_asc {lv : List It} (h : Leaf lv) : ∀ k, Asc (listK lv k)
  | 0 => h.asc
  | k + 1 => srt_asc _
theorem listK_nodup {lv : List It} (h : Leaf lv) : ∀ k, (listK lv k).Nodup
  | 0 => h.nd
  | k + 1 => by
    rw [listK, nextL, (srt_perm _).nodup_iff, List.nodup_append]
    exact ⟨h.nd, packs_nodup _ _, fun x hx y hy e => by have h1 := h.sy x hx; have h2 := packs_sym hy; rw [e] at h1; omega⟩
def ct (T : List It) (s : Nat) : Nat := (T.filter fun x => decide (x.s = (s : Int))).length
theorem ct_app (S T : List It) (s : Nat) : ct (S ++ T) s = ct S s + ct T s := by simp [ct]
theorem ct_cons (x : It) (T : List It) (s : Nat) : ct (x :: T) s = (if x.s = (s : Int) then 1 else 0) + ct T s := by
  rw [← List.singleton_append, ct_app]
  congr 1
  unfold ct
  split <;> simp [*]
theorem ct_perm {S T : List It} (h : S.Perm T) (s : Nat) : ct S s = ct T s := (h.filter _).length_eq
theorem ct_take (T : List It) (t s : Nat) : ct (T.take t) s ≤ ct T s := by
  have := ct_app (T.take t) (T.drop t) s
  rw [List.take_append_drop] at this
  omega
theorem ct_zero {T : List It} {s : Nat} (h : ∀ x ∈ T, x.s ≠ (s : Int)) : ct T s = 0 := by
  unfold ct
  rw [List.length_eq_zero_iff, List.filter_eq_nil_iff]
  intro x hx
  simpa using h x hx
theorem ct_pos {T : List It} {s : Nat} : 0 < ct T s ↔ ∃ x ∈ T, x.s = (s : Int) := by
  unfold ct
  rw [List.length_pos_iff_exists_mem]
  constructor
  · rintro ⟨x, hx⟩
    have := List.mem_filter.1 hx
    exact ⟨x, this.1, by simpa using this.2⟩
  · rintro ⟨x, h1, h2⟩
    exact ⟨x, List.mem_filter.2 ⟨h1, by simpa using h2⟩⟩
theorem ct_listK {lv : List It} (s : Nat) : ∀ k, ct (listK lv k) s = ct lv s
  | 0 => rfl
  | k + 1 => by
    rw [listK, nextL, ct_perm (srt_perm _), ct_app, ct_zero (T := packs _ _) (fun x hx => by rw [packs_sym hx]; omega), Nat.add_zero]

/-! ### what is taken below is taken above -/
theorem take_before {α : Type} {L : List α} {x y : α} {t : Nat} (hn : L.Nodup) (h : [x, y].Sublist L) (hy : y ∈ L.take t) : x ∈ L.take t := by
  have hs : L = L.take t ++ L.drop t := (List.take_append_drop t L).symm
  rw [hs] at h hn
  rw [List.nodup_append] at hn
  obtain ⟨l1, l2, e, h1, h2⟩ := List.sublist_append_iff.1 h
  match l1, e, h1 with
  | [], e, _ =>
    rw [List.nil_append] at e
    subst e
    have := h2.subset (show y ∈ [x, y] by simp)
    exact absurd rfl (hn.2.2 y hy y this)
  | a :: l1, e, h1 =>
    rw [List.cons_append] at e
    injection e with e1 e2
    subst e1
    exact h1.subset (by simp)
theorem filter_take_prefix {α : Type} (p : α → Bool) (L : List α) (t : Nat) : (L.take t).filter p = (L.filter p).take ((L.take t).filter p).length := by
  have h : L.filter p = (L.take t).filter p ++ (L.drop t).filter p := by rw [← List.filter_append, List.take_append_drop]
  rw [h, List.take_left']
  rfl
theorem packs_in_next {lv : List It} (h : Leaf lv) (b : List It) (hb : Asc b) : (nextL lv b).filter (fun x => decide (x.s < 0)) = packs b 0 := by
  have h1 : (packs b 0).Sublist (nextL lv b) := List.sublist_mergeSort leW_trans leW_total (packs_asc hb 0) (List.sublist_append_right _ _)
  have h2 : (packs b 0).filter (fun x => decide (x.s < 0)) = packs b 0 := by
    rw [List.filter_eq_self]
    intro x hx
    rw [packs_sym hx]; rfl
  have h3 : (lv.filter fun x => decide (x.s < 0)) = [] := by
    rw [List.filter_eq_nil_iff]
    intro x hx
    have := h.sy x hx
    simp only [decide_eq_true_eq]; omega
  have h4 := h1.filter (fun x => decide (x.s < 0))
  rw [h2] at h4
  refine (h4.eq_of_length ?_).symm
  have h5 := ((srt_perm (lv ++ packs b 0)).filter (fun x => decide (x.s < 0))).length_eq
  rw [List.filter_append, h3, List.nil_append, h2] at h5
  exact h5.symm
theorem below_above {lv : List It} (h : Leaf lv) (q t s : Nat) : ct ((listK lv q).take (2 * npk ((listK lv (q + 1)).take t))) s ≤ ct ((listK lv (q + 1)).take t) s := by
  obtain ⟨p, hp⟩ : ∃ p, p = npk ((listK lv (q + 1)).take t) := ⟨_, rfl⟩
  rw [← hp]
  by_cases h0 : 0 < ct ((listK lv q).take (2 * p)) s
  · have hle : ct ((listK lv q).take (2 * p)) s ≤ 1 := Nat.le_trans (ct_take _ _ _) (by rw [ct_listK]; exact h.one s)
    suffices 0 < ct ((listK lv (q + 1)).take t) s by omega
    obtain ⟨x, hx, hxs⟩ := ct_pos.1 h0
    refine ct_pos.2 ⟨x, ?_, hxs⟩
    have hp0 : 0 < p := by
      rcases Nat.eq_zero_or_pos p with e | e
      · rw [e] at hx; simp at hx
      · exact e
    have hf := filter_take_prefix (fun x => decide (x.s < 0)) (listK lv (q + 1)) t
    have hpk : (listK lv (q + 1)).filter (fun x => decide (x.s < 0)) = packs (listK lv q) 0 := packs_in_next h _ (listK_asc h q)
    have hpn : ((listK lv (q + 1)).take t |>.filter (fun x => decide (x.s < 0))).length = p := hp.symm
    rw [hpk, hpn] at hf
    have hpl : p ≤ (packs (listK lv q) 0).length := by
      have := congrArg List.length hf
      rw [hpn, List.length_take] at this
      omega
    have hpl2 := hpl
    rw [packs_len] at hpl2
    have hy := packs_at (listK lv q) 0 (p - 1) (by omega)
    obtain ⟨y, hyy⟩ : ∃ y, y = (packs (listK lv q) 0)[p - 1]'(by omega) := ⟨_, rfl⟩
    have hyt : y ∈ (listK lv (q + 1)).take t := by
      refine (List.mem_filter.1 (?_ : y ∈ ((listK lv (q + 1)).take t).filter (fun x => decide (x.s < 0)))).1
      rw [hf, hyy]
      exact List.mem_take_iff_getElem.2 ⟨p - 1, by omega, rfl⟩
    refine take_before (listK_nodup h (q + 1)) ?_ hyt
    obtain ⟨i, hi, rfl⟩ := List.mem_take_iff_getElem.1 hx
    refine List.pair_sublist_mergeSort leW_trans leW_total ?_ ?_
    · have h1 := (listK_asc h q).le (show i ≤ 2 * (p - 1) + 1 by omega) (by omega)
      rw [hyy, hy]
      simp only [leW, decide_eq_true_eq]
      rw [List.getD_eq_getElem?_getD, List.getElem?_eq_getElem (show i < (listK lv q).length by omega)] at h1
      simp only [Option.getD_some] at h1
      omega
    · have hxl : (listK lv q)[i]'(by omega) ∈ lv := by
        have hm : (listK lv q)[i]'(by omega) ∈ listK lv q := List.getElem_mem _
        cases q with
        | zero => exact hm
        | succ q =>
          rcases List.mem_append.1 (srt_mem.1 hm) with h2 | h2
          · exact h2
          · have := packs_sym h2; rw [hxs] at this; omega
      exact (List.singleton_sublist.2 hxl).append (List.singleton_sublist.2 (by rw [hyy]; exact List.getElem_mem _))
  · omega
end Go.Proofs.Ytnldnaogbadajaa.Tb

/- huffman.Lengths, plain: what Encode wants of the lengths. -/
set_option linter.unusedVariables false
namespace Go.Proofs.Ytnldnaogbadajaa.Tb

/-! ### counts and widths -/
def cnt (lv : List It) : Nat → Nat → Nat → Nat
  | 0, _, _ => 0
  | k + 1, t, s => ct ((listK lv k).take t) s + cnt lv k (2 * npk ((listK lv k).take t)) s
def wdt (lv : List It) : Nat → Nat → Nat → Nat
  | 0, _, _ => 0
  | k + 1, t, s => ct ((listK lv k).take t) s * 2 ^ k + wdt lv k (2 * npk ((listK lv k).take t)) s
theorem bump_get (ls : List Nat) (x : It) (s : Nat) (h : s < ls.length) : (bump ls x).getD s 0 = ls.getD s 0 + if x.s = (s : Int) then 1 else 0 := by
  unfold bump
  by_cases h0 : 0 ≤ x.s
  · rw [if_pos h0]
    by_cases e : x.s = (s : Int)
    · have e2 : x.s.toNat = s := by omega
      rw [e2, if_pos e, List.getD_eq_getElem?_getD, List.getElem?_set_self h]
      rfl
    · rw [if_neg e, List.getD_eq_getElem?_getD, List.getElem?_set_ne (by omega), ← List.getD_eq_getElem?_getD]
      rfl
  · rw [if_neg h0, if_neg (by omega)]
    rfl
theorem bumps_get (s : Nat) : ∀ (T : List It) (ls : List Nat), s < ls.length → (T.foldl bump ls).getD s 0 = ls.getD s 0 + ct T s
  | [], ls, _ => by simp [ct]
  | x :: T, ls, h => by
    rw [List.foldl_cons, bumps_get s T _ (by rw [bump_len]; exact h), bump_get ls x s h, ct_cons]
    omega
theorem lenTo_get (lv : List It) (s : Nat) : ∀ (k t : Nat) (ls : List Nat), s < ls.length → (lenTo lv k t ls).getD s 0 = ls.getD s 0 + cnt lv k t s
  | 0, _, _, _ => by simp [lenTo, cnt]
  | k + 1, t, ls, h => by
    rw [lenTo, lenTo_get lv s k _ _ (by rw [bumps_len]; exact h), bumps_get s _ _ h, cnt]
    omega
theorem cnt_zero {lv : List It} (h : Leaf lv) (s : Nat) : ∀ (k t : Nat), ct ((listK lv k).take t) s = 0 → cnt lv k (2 * npk ((listK lv k).take t)) s = 0
  | 0, _, _ => rfl
  | k + 1, t, h0 => by
    have h1 := below_above h k t s
    have h2 : ct ((listK lv k).take (2 * npk ((listK lv (k + 1)).take t))) s = 0 := by omega
    rw [cnt, h2, cnt_zero h s k _ h2]
theorem wdt_cnt {lv : List It} (h : Leaf lv) (s : Nat) : ∀ (k t : Nat), wdt lv k t s + 2 ^ (k - cnt lv k t s) = 2 ^ k ∧ cnt lv k t s ≤ k
  | 0, _ => by simp [wdt, cnt]
  | k + 1, t => by
    obtain ⟨h1, h2⟩ := wdt_cnt h s k (2 * npk ((listK lv k).take t))
    have hle : ct ((listK lv k).take t) s ≤ 1 := Nat.le_trans (ct_take _ _ _) (by rw [ct_listK]; exact h.one s)
    rw [wdt, cnt]
    rcases Nat.le_one_iff_eq_zero_or_eq_one.1 hle with e | e
    · have h3 := cnt_zero h s k t e
      rw [h3, Nat.sub_zero] at h1
      rw [e, h3]
      simp only [Nat.zero_mul, Nat.zero_add, Nat.add_zero, Nat.sub_zero]
      exact ⟨by omega, by omega⟩
    · rw [e, Nat.one_mul, show k + 1 - (1 + cnt lv k (2 * npk ((listK lv k).take t)) s) = k - cnt lv k (2 * npk ((listK lv k).take t)) s by omega, Nat.pow_succ]
      exact ⟨by omega, by omega⟩
theorem sum_add {α : Type} (f g : α → Nat) : ∀ L : List α, (L.map fun x => f x + g x).sum = (L.map f).sum + (L.map g).sum
  | [] => rfl
  | x :: L => by
    have := sum_add f g L
    simp only [List.map_cons, List.sum_cons]
    omega
theorem sum_mul {α : Type} (f : α → Nat) (c : Nat) : ∀ L : List α, (L.map fun x => f x * c).sum = (L.map f).sum * c
  | [] => by simp
  | x :: L => by
    have := sum_mul f c L
    simp only [List.map_cons, List.sum_cons, Nat.add_mul]
    omega
theorem sum_congr {α : Type} {f g : α → Nat} {L : List α} (h : ∀ x ∈ L, f x = g x) : (L.map f).sum = (L.map g).sum := by rw [List.map_congr_left h]
theorem sum_const {α : Type} (c : Nat) : ∀ L : List α, (L.map fun _ => c).sum = L.length * c
  | [] => by simp
  | x :: L => by
    have := sum_const c L
    simp only [List.map_cons, List.sum_cons, List.length_cons, Nat.add_mul]
    omega
theorem sum_ge {α : Type} (f : α → Nat) {x : α} : ∀ {L : List α}, (∀ y ∈ L, 1 ≤ f y) → x ∈ L → f x + (L.length - 1) ≤ (L.map f).sum
  | [], _, h => by simp at h
  | y :: L, h1, h => by
    simp only [List.map_cons, List.sum_cons, List.length_cons, Nat.add_sub_cancel]
    have hl : ∀ M : List α, (∀ y ∈ M, 1 ≤ f y) → M.length ≤ (M.map f).sum := fun M hM => by
      induction M with
      | nil => simp
      | cons z M ih =>
        have h2 := ih (fun y hy => hM y (List.mem_cons_of_mem _ hy))
        have h3 := hM z (by simp)
        simp only [List.map_cons, List.sum_cons, List.length_cons]
        omega
    rcases List.mem_cons.1 h with rfl | h
    · have := hl L (fun y hy => h1 y (List.mem_cons_of_mem _ hy))
      omega
    · have h2 := sum_ge f (fun y hy => h1 y (List.mem_cons_of_mem _ hy)) h
      have h3 := h1 y (by simp)
      have h4 : 0 < L.length := List.length_pos_of_mem h
      omega
theorem sum_ind (y : Int) : ∀ (lv : List It), (∀ x ∈ lv, 0 ≤ x.s) → (lv.map fun x => if y = ((x.s.toNat : Nat) : Int) then 1 else 0).sum = (lv.filter fun x => decide (x.s = y)).length
  | [], _ => rfl
  | x :: lv, h => by
    have h1 := sum_ind y lv (fun z hz => h z (List.mem_cons_of_mem _ hz))
    have h2 := h x (by simp)
    rw [List.map_cons, List.sum_cons, h1, List.filter_cons]
    by_cases e : x.s = y
    · rw [if_pos (by omega), if_pos (by simpa using e), List.length_cons]; omega
    · rw [if_neg (by omega), if_neg (by simpa using e)]; omega
theorem sum_ct {lv : List It} (h : Leaf lv) : ∀ (T : List It), (∀ y ∈ T, y.s = -1 ∨ y ∈ lv) → (lv.map fun x => ct T x.s.toNat).sum + npk T = T.length
  | [], _ => by
    rw [sum_congr (g := fun _ => 0) (fun x _ => by simp [ct]), sum_const]
    simp [npk]
  | y :: T, hT => by
    have ih := sum_ct h T (fun z hz => hT z (List.mem_cons_of_mem _ hz))
    rw [sum_congr (g := fun x => (if y.s = ((x.s.toNat : Nat) : Int) then 1 else 0) + ct T x.s.toNat) (fun x _ => ct_cons y T _), sum_add, sum_ind y.s lv h.sy, List.length_cons]
    have hn : npk (y :: T) = npk T + if y.s < 0 then 1 else 0 := by
      rw [← List.singleton_append, npk_app]
      by_cases e : y.s < 0
      · simp [npk, e]; omega
      · simp [npk, e]
    rw [hn]
    rcases hT y (by simp) with e | e
    · have h0 : (lv.filter fun x => decide (x.s = y.s)).length = 0 := by
        rw [List.length_eq_zero_iff, List.filter_eq_nil_iff]
        intro x hx
        have := h.sy x hx
        simp only [decide_eq_true_eq]; omega
      rw [h0, if_pos (by omega)]
      omega
    · have hy := h.sy y e
      have h1 : (lv.filter fun x => decide (x.s = y.s)).length = 1 := by
        have h2 := h.one y.s.toNat
        rw [show ((y.s.toNat : Nat) : Int) = y.s by omega] at h2
        have h3 : 0 < (lv.filter fun x => decide (x.s = y.s)).length := List.length_pos_of_mem (List.mem_filter.2 ⟨e, by simp⟩)
        omega
      rw [h1, if_neg (by omega)]
      omega
theorem listK_sub {lv : List It} : ∀ (k : Nat), ∀ y ∈ listK lv k, y.s = -1 ∨ y ∈ lv
  | 0, y, h => .inr h
  | k + 1, y, h => by
    rcases List.mem_append.1 (srt_mem.1 h) with h | h
    · exact .inr h
    · exact .inl (packs_sym h)
theorem sum_wdt {lv : List It} (h : Leaf lv) : ∀ (k t : Nat), t ≤ (listK lv k).length → (lv.map fun x => wdt lv (k + 1) t x.s.toNat).sum = t * 2 ^ k
  | 0, t, ht => by
    have h1 := sum_ct h ((listK lv 0).take t) (fun y hy => listK_sub 0 y (List.mem_of_mem_take hy))
    have h2 : npk ((listK lv 0).take t) = 0 := npk_zero (fun x hx => h.sy x (List.mem_of_mem_take hx))
    rw [sum_congr (g := fun x => ct ((listK lv 0).take t) x.s.toNat) (fun x _ => by simp [wdt])]
    rw [h2, List.length_take] at h1
    omega
  | k + 1, t, ht => by
    have h1 := sum_ct h ((listK lv (k + 1)).take t) (fun y hy => listK_sub _ y (List.mem_of_mem_take hy))
    have h2 := sum_wdt h k (2 * npk ((listK lv (k + 1)).take t)) (take_fits h.sy k t)
    rw [sum_congr (f := fun x : It => wdt lv (k + 1 + 1) t x.s.toNat) (g := fun x : It => ct ((listK lv (k + 1)).take t) x.s.toNat * 2 ^ (k + 1) + wdt lv (k + 1) (2 * npk ((listK lv (k + 1)).take t)) x.s.toNat) (fun x _ => rfl), sum_add, sum_mul, h2]
    rw [List.length_take, Nat.min_eq_left ht] at h1
    generalize (lv.map fun x => ct ((listK lv (k + 1)).take t) x.s.toNat).sum = a at h1 ⊢
    generalize npk ((listK lv (k + 1)).take t) = b at h1 ⊢
    rw [← h1, Nat.add_mul, Nat.pow_succ, Nat.mul_comm 2 b, Nat.mul_assoc b, Nat.mul_comm 2]

theorem sum_two {lv : List It} (h : Leaf lv) (k t : Nat) (ht : t ≤ (listK lv k).length) : t * 2 ^ k + (lv.map fun x => 2 ^ (k + 1 - cnt lv (k + 1) t x.s.toNat)).sum = lv.length * 2 ^ (k + 1) := by
  rw [← sum_wdt h k t ht, ← sum_add, ← sum_const]
  exact sum_congr fun x _ => (wdt_cnt h x.s.toNat (k + 1) t).1

/-! ### the lengths -/
theorem presL_syms : ∀ (cs : List Nat) (i : Nat), (presL cs i).map (fun x => x.s.toNat) = presO cs i
  | [], _ => rfl
  | c :: cs, i => by
    rw [presL, presO]
    split
    · rw [List.map_cons, presL_syms cs (i + 1)]
      simp
    · rw [presL_syms cs (i + 1)]; rfl
theorem leaf_iff (cs : List Nat) (s : Nat) : 0 < ct (leavesL cs) s ↔ s < cs.length ∧ 0 < cs.getD s 0 := by
  rw [ct_pos]
  have h := @presO_mem s cs 0
  rw [← presL_syms, List.mem_map] at h
  simp only [Nat.zero_le, true_and, Nat.zero_add, Nat.sub_zero] at h
  rw [← h]
  constructor
  · rintro ⟨x, hx, e⟩
    exact ⟨x, srt_mem.1 hx, by omega⟩
  · rintro ⟨x, hx, e⟩
    have := (presL_mem hx).2.1
    exact ⟨x, srt_mem.2 hx, by omega⟩
theorem presO_congr : ∀ (ls cs : List Nat) (i : Nat), ls.length = cs.length → (∀ j, j < cs.length → (0 < ls.getD j 0 ↔ 0 < cs.getD j 0)) → presO ls i = presO cs i
  | [], [], _, _, _ => rfl
  | [], _ :: _, _, h, _ => by simp at h
  | _ :: _, [], _, h, _ => by simp at h
  | l :: ls, c :: cs, i, h, h2 => by
    have h0 := h2 0 (by simp)
    rw [List.getD_cons_zero, List.getD_cons_zero] at h0
    rw [presO, presO, presO_congr ls cs (i + 1) (by simpa using h) (fun j hj => by
      have := h2 (j + 1) (by simpa using hj)
      rw [List.getD_cons_succ, List.getD_cons_succ] at this
      exact this)]
    by_cases e : 0 < c
    · rw [if_pos e, if_pos (h0.2 e)]
    · rw [if_neg e, if_neg (fun h => e (h0.1 h))]
theorem krS_leaves (ls cs : List Nat) (hl : ls.length = cs.length) (h : ∀ j, j < cs.length → (0 < ls.getD j 0 ↔ 0 < cs.getD j 0)) : krS ls = ((leavesL cs).map fun x => kr (ls.getD x.s.toNat 0)).sum := by
  rw [← kS_presO ls ls 0 (fun j _ => by rw [Nat.zero_add]), presO_congr ls cs 0 hl h, ← presL_syms]
  unfold kS leavesL
  rw [List.map_map]
  exact ((srt_perm (presL cs 0)).symm.map _).sum_nat
structure LenSpec (cs ls : List Nat) : Prop where
  len : ls.length = cs.length
  le : ∀ x ∈ ls, x ≤ 15
  pos : ∀ s, s < cs.length → (0 < ls.getD s 0 ↔ 0 < cs.getD s 0)
  sum : krS ls ≤ 32768
theorem getD_mem_le {ls : List Nat} {m : Nat} (h : ∀ s, s < ls.length → ls.getD s 0 ≤ m) : ∀ x ∈ ls, x ≤ m := fun x hx => by
  obtain ⟨i, hi, rfl⟩ := List.mem_iff_getElem.1 hx
  have := h i hi
  rw [List.getD_eq_getElem?_getD, List.getElem?_eq_getElem hi] at this
  exact this
theorem ones_get (s : Nat) : ∀ (T : List It) (ls : List Nat), s < ls.length → (∀ x ∈ T, 0 ≤ x.s) → (T.foldl setOne ls).getD s 0 = if 0 < ct T s then 1 else ls.getD s 0
  | [], ls, _, _ => by simp [ct]
  | x :: T, ls, h, hT => by
    have hx := hT x (by simp)
    rw [List.foldl_cons, ones_get s T _ (by simp [setOne, h]) (fun y hy => hT y (List.mem_cons_of_mem _ hy)), ct_cons]
    by_cases e : x.s = (s : Int)
    · rw [if_pos e, if_pos (show 0 < 1 + ct T s by omega)]
      split
      · rfl
      · unfold setOne
        rw [show x.s.toNat = s by omega, List.getD_eq_getElem?_getD, List.getElem?_set_self h]
        rfl
    · rw [if_neg e, Nat.zero_add]
      split
      · rfl
      · unfold setOne
        rw [List.getD_eq_getElem?_getD, List.getElem?_set_ne (by omega), ← List.getD_eq_getElem?_getD]
theorem lenL_spec (cs : List Nat) (h1024 : cs.length ≤ 1024) : LenSpec cs (lenL cs) := by
  have hlen := lenL_len cs
  have hL := leaf_leaves cs
  by_cases hf : (leavesL cs).length < 2
  · have hg : ∀ s, s < cs.length → (lenL cs).getD s 0 = if 0 < ct (leavesL cs) s then 1 else 0 := fun s hs => by
      unfold lenL
      rw [if_pos hf, ones_get s _ _ (by rw [List.length_replicate]; exact hs) hL.sy]
      congr 1
      rw [List.getD_eq_getElem?_getD, List.getElem?_replicate]
      split <;> rfl
    have hpos : ∀ s, s < cs.length → (0 < (lenL cs).getD s 0 ↔ 0 < cs.getD s 0) := fun s hs => by
      rw [hg s hs]
      have h2 := leaf_iff cs s
      by_cases e : 0 < ct (leavesL cs) s
      · rw [if_pos e]; exact ⟨fun _ => (h2.1 e).2, fun _ => by omega⟩
      · rw [if_neg e]; exact ⟨fun h => by omega, fun h => absurd (h2.2 ⟨hs, h⟩) e⟩
    refine ⟨hlen, getD_mem_le fun s hs => by rw [hg s (by rw [← hlen]; exact hs)]; split <;> omega, hpos, ?_⟩
    rw [krS_leaves _ cs hlen hpos]
    have hb : ((leavesL cs).map fun x => kr ((lenL cs).getD x.s.toNat 0)).sum ≤ (leavesL cs).length * 32768 := by
      generalize leavesL cs = L
      induction L with
      | nil => simp
      | cons x L ih =>
        have := kr_le ((lenL cs).getD x.s.toNat 0)
        simp only [List.map_cons, List.sum_cons, List.length_cons]
        omega
    have : (leavesL cs).length * 32768 ≤ 1 * 32768 := Nat.mul_le_mul_right _ (by omega)
    omega
  · obtain ⟨n, hn⟩ : ∃ n, n = (leavesL cs).length := ⟨_, rfl⟩
    have hn1 : n ≤ 1024 := by rw [hn]; unfold leavesL; rw [srt_len]; exact Nat.le_trans (presL_len cs 0) h1024
    have hg : ∀ s, s < cs.length → (lenL cs).getD s 0 = cnt (leavesL cs) 15 (2 * n - 2) s := fun s hs => by
      unfold lenL
      rw [if_neg hf, lenTo_get _ s _ _ _ (by rw [List.length_replicate]; exact hs), ← hn, List.getD_eq_getElem?_getD, List.getElem?_replicate]
      split <;> simp
    have hD := fun s => wdt_cnt hL s 15 (2 * n - 2)
    have hsum : ((leavesL cs).map fun x => 2 ^ (15 - cnt (leavesL cs) 15 (2 * n - 2) x.s.toNat)).sum = 32768 := by
      have h1 : (2 * n - 2) * 2 ^ 14 + ((leavesL cs).map fun x => 2 ^ (15 - cnt (leavesL cs) 15 (2 * n - 2) x.s.toNat)).sum = (leavesL cs).length * 2 ^ 15 := sum_two hL 14 (2 * n - 2) (by rw [hn]; exact take_first (by rw [← hn]; exact hn1))
      rw [← hn] at h1
      have e : (2 * n - 2) * 2 ^ 14 + 32768 = n * 2 ^ 15 := by omega
      omega
    have hleaf : ∀ x ∈ leavesL cs, 0 < cnt (leavesL cs) 15 (2 * n - 2) x.s.toNat := fun x hx => by
      have h1 := sum_ge (fun x : It => 2 ^ (15 - cnt (leavesL cs) 15 (2 * n - 2) x.s.toNat)) (fun y _ => Nat.two_pow_pos _) hx
      rw [hsum, ← hn] at h1
      rcases Nat.eq_zero_or_pos (cnt (leavesL cs) 15 (2 * n - 2) x.s.toNat) with e | e
      · rw [e] at h1; omega
      · exact e
    have hpos : ∀ s, s < cs.length → (0 < (lenL cs).getD s 0 ↔ 0 < cs.getD s 0) := fun s hs => by
      rw [hg s hs]
      have h2 := leaf_iff cs s
      by_cases e : 0 < ct (leavesL cs) s
      · obtain ⟨x, hx, hxs⟩ := ct_pos.1 e
        have h3 := hleaf x hx
        rw [hxs, Int.toNat_natCast] at h3
        exact ⟨fun _ => (h2.1 e).2, fun _ => h3⟩
      · have h0 : ct ((listK (leavesL cs) 14).take (2 * n - 2)) s = 0 := by
          have := ct_take (listK (leavesL cs) 14) (2 * n - 2) s
          rw [ct_listK] at this
          omega
        have h4 : cnt (leavesL cs) 15 (2 * n - 2) s = 0 := by rw [cnt, h0, cnt_zero hL s 14 _ h0]
        rw [h4]
        exact ⟨fun h => by omega, fun h => absurd (h2.2 ⟨hs, h⟩) e⟩
    refine ⟨hlen, getD_mem_le fun s hs => by rw [hg s (by rw [← hlen]; exact hs)]; exact (hD s).2, hpos, ?_⟩
    rw [krS_leaves _ cs hlen hpos, ← hsum]
    refine Nat.le_of_eq (sum_congr fun x hx => ?_)
    have h5 := leaves_sym cs x hx
    rw [hg _ (by omega)]
    unfold kr
    rw [if_pos (hleaf x hx)]
theorem lenOk_of {cs ls : List Nat} (h : LenSpec cs ls) (hl : cs.length ≤ 1024) : LenOk ls := ⟨by rw [h.len]; exact hl, h.le, h.sum⟩
end Go.Proofs.Ytnldnaogbadajaa.Tb
