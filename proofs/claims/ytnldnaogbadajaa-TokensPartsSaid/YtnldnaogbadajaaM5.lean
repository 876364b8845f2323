/- Walks and plain laws: huffman: items and lists. -/
import Derived.Test.YtnldnaogbadajaaM3
import Derived.Test.YtnldnaogbadajaaM1
import Derived.Test.YtnldnaogbadajaaM2
import Derived.Deep.RegionLawGrows

/- huffman, plain: items, their order, their lists. -/
namespace Go.Proofs.Ytnldnaogbadajaa.Tb

structure It where
  w : Nat
  s : Int
  l : Nat
  r : Nat
instance : Inhabited It := ⟨⟨0, 0, 0, 0⟩⟩
def leW (x y : It) : Bool := decide (x.w ≤ y.w)
theorem leW_trans (a b c : It) (h1 : leW a b = true) (h2 : leW b c = true) : leW a c = true := by
  simp only [leW, decide_eq_true_eq] at *; omega
theorem leW_total (a b : It) : (leW a b || leW b a) = true := by
  simp only [leW, Bool.or_eq_true, decide_eq_true_eq]; omega
def srt (L : List It) : List It := L.mergeSort leW
theorem srt_perm (L : List It) : (srt L).Perm L := List.mergeSort_perm L leW
theorem srt_len (L : List It) : (srt L).length = L.length := (srt_perm L).length_eq
theorem srt_mem {L : List It} {x : It} : x ∈ srt L ↔ x ∈ L := (srt_perm L).mem_iff
theorem srt_asc (L : List It) : (srt L).Pairwise fun x y => leW x y = true := List.pairwise_mergeSort leW_trans leW_total L
/-- The present symbols, from the number i on. -/
def presL : List Nat → Nat → List It
  | [], _ => []
  | c :: cs, i => if 0 < c then ⟨c, i, 0, 0⟩ :: presL cs (i + 1) else presL cs (i + 1)
def packs : List It → Nat → List It
  | x :: y :: r, i => ⟨x.w + y.w, -1, i, i + 1⟩ :: packs r (i + 2)
  | _, _ => []
def leavesL (cs : List Nat) : List It := srt (presL cs 0)
def nextL (lv b : List It) : List It := srt (lv ++ packs b 0)
def listK (lv : List It) : Nat → List It
  | 0 => lv
  | k + 1 => nextL lv (listK lv k)
theorem presL_snoc (c : Nat) : ∀ (cs : List Nat) (i : Nat), presL (cs ++ [c]) i = presL cs i ++ if 0 < c then [⟨c, ((i + cs.length : Nat) : Int), 0, 0⟩] else []
  | [], i => by
    simp only [List.nil_append, presL, List.length_nil, Nat.add_zero]
  | x :: cs, i => by
    simp only [List.cons_append, presL, List.length_cons]
    rw [presL_snoc c cs (i + 1), show i + 1 + cs.length = i + (cs.length + 1) by omega]
    split <;> simp
theorem presL_len : ∀ (cs : List Nat) (i : Nat), (presL cs i).length ≤ cs.length
  | [], _ => by simp [presL]
  | c :: cs, i => by
    simp only [presL, List.length_cons]
    have := presL_len cs (i + 1)
    split
    · simp only [List.length_cons]; omega
    · omega
theorem presL_mem {x : It} : ∀ {cs : List Nat} {i : Nat}, x ∈ presL cs i → 0 < x.w ∧ (i : Int) ≤ x.s ∧ x.s < ((i + cs.length : Nat) : Int) ∧ x.w ∈ cs
  | [], i, h => by simp [presL] at h
  | c :: cs, i, h => by
    simp only [presL] at h
    have go : x ∈ presL cs (i + 1) → 0 < x.w ∧ (i : Int) ≤ x.s ∧ x.s < ((i + (c :: cs).length : Nat) : Int) ∧ x.w ∈ c :: cs := fun h => by
      have := presL_mem h
      simp only [List.length_cons]
      exact ⟨this.1, by omega, by omega, List.mem_cons_of_mem _ this.2.2.2⟩
    split at h
    · rename_i hc
      rcases List.mem_cons.1 h with rfl | h
      · simp only [List.length_cons]
        exact ⟨hc, by omega, by omega, List.mem_cons_self⟩
      · exact go h
    · exact go h
theorem packs_len : ∀ (b : List It) (i : Nat), (packs b i).length = b.length / 2
  | [], _ => by simp [packs]
  | [x], _ => by simp [packs]
  | x :: y :: r, i => by
    simp only [packs, List.length_cons]
    rw [packs_len r (i + 2)]
    omega
theorem packs_mem {x : It} : ∀ {b : List It} {i : Nat} {m : Nat}, x ∈ packs b i → (∀ y ∈ b, y.w ≤ m) → x.s = -1 ∧ x.w ≤ 2 * m
  | [], _, _, h, _ => by simp [packs] at h
  | [_], _, _, h, _ => by simp [packs] at h
  | p :: q :: r, i, m, h, hm => by
    simp only [packs, List.mem_cons] at h
    rcases h with rfl | h
    · have h1 := hm p (by simp)
      have h2 := hm q (by simp)
      exact ⟨rfl, by simp only; omega⟩
    · exact packs_mem h fun y hy => hm y (by simp [hy])
/-- What the walk wants of a list: each symbol is one of n or a package; each weight is bounded. -/
structure ItOk (n m : Nat) (L : List It) : Prop where
  sym : ∀ x ∈ L, x.s = -1 ∨ 0 ≤ x.s ∧ x.s < (n : Int)
  wt : ∀ x ∈ L, x.w ≤ m
theorem leaves_ok {cs : List Nat} (h : ∀ c ∈ cs, c ≤ 4096) : ItOk cs.length 4096 (leavesL cs) :=
  ⟨fun x hx => by have := presL_mem (srt_mem.1 hx); exact .inr ⟨by omega, by omega⟩, fun x hx => h _ (presL_mem (srt_mem.1 hx)).2.2.2⟩
theorem next_ok {n m : Nat} {lv b : List It} (h1 : ItOk n 4096 lv) (h2 : ItOk n m b) (hm : 4096 ≤ 2 * m) : ItOk n (2 * m) (nextL lv b) :=
  ⟨fun x hx => by
    rcases List.mem_append.1 (srt_mem.1 hx) with h | h
    · exact h1.sym x h
    · exact .inl (packs_mem h h2.wt).1, fun x hx => by
    rcases List.mem_append.1 (srt_mem.1 hx) with h | h
    · have := h1.wt x h; omega
    · exact (packs_mem h h2.wt).2⟩
theorem listK_ok {n : Nat} {lv : List It} (h : ItOk n 4096 lv) : ∀ k, ItOk n (4096 * 2 ^ k) (listK lv k)
  | 0 => by simpa [listK] using h
  | k + 1 => by
    have := next_ok h (listK_ok h k) (by have := Nat.two_pow_pos k; omega)
    rw [Nat.pow_succ, ← Nat.mul_assoc, Nat.mul_comm]
    exact this
theorem next_len (lv b : List It) : (nextL lv b).length = lv.length + b.length / 2 := by
  unfold nextL
  rw [srt_len, List.length_append, packs_len]
theorem listK_le (lv : List It) : ∀ k, (listK lv k).length ≤ 2 * lv.length
  | 0 => by simp only [listK]; omega
  | k + 1 => by simp only [listK]; rw [next_len]; have := listK_le lv k; omega
/-- 2n less the length of a list halves with each list. -/
theorem listK_ge (lv : List It) : ∀ k d, lv.length ≤ d * 2 ^ k → 2 * lv.length ≤ (listK lv k).length + d
  | 0, d, h => by simp only [listK]; simp at h; omega
  | k + 1, d, h => by
    simp only [listK]
    rw [next_len]
    have := listK_ge lv k (2 * d) (by rw [Nat.pow_succ] at h; rw [Nat.mul_comm 2 d, Nat.mul_assoc, Nat.mul_comm 2]; exact h)
    omega
theorem packs_snoc (b : List It) (x y : It) (i : Nat) (h : b.length % 2 = 0) : packs (b ++ [x, y]) i = packs b i ++ [⟨x.w + y.w, -1, i + b.length, i + b.length + 1⟩] := by
  match b, h with
  | [], _ => simp [packs]
  | [_], h => simp at h
  | p :: q :: r, h =>
    simp only [List.length_cons] at h
    simp only [List.cons_append, packs, List.length_cons]
    rw [packs_snoc r x y (i + 2) (by omega), show i + 2 + r.length = i + (r.length + 1 + 1) by omega]
theorem packs_odd (b : List It) (x : It) (i : Nat) (h : b.length % 2 = 0) : packs (b ++ [x]) i = packs b i := by
  match b, h with
  | [], _ => simp [packs]
  | [_], h => simp at h
  | p :: q :: r, h =>
    simp only [List.length_cons] at h
    simp only [List.cons_append, packs]
    rw [packs_odd r x (i + 2) (by omega)]
end Go.Proofs.Ytnldnaogbadajaa.Tb

/- huffman: items in memory, and their stable sort. -/
set_option linter.unusedVariables false
set_option linter.unusedSimpArgs false
namespace Go.Proofs.Ytnldnaogbadajaa.Tb
open Go.RowKit Go.Shelf Go.Lib Go.Sort Go.Proofs.Ytnldnaogbadajaa.Kw Go.Proofs.Ytnldnaogbadajaa.St

def fieldsOf (x : It) : List Value := [.int .i64 x.w, .int .i64 x.s, .int .i64 x.l, .int .i64 x.r]
def cellsI (L : List It) : List Value := L.flatMap fieldsOf
theorem cellsI_cons (x : It) (L : List It) : cellsI (x :: L) = fieldsOf x ++ cellsI L := by simp [cellsI]
theorem cellsI_app (L M : List It) : cellsI (L ++ M) = cellsI L ++ cellsI M := by simp [cellsI]
theorem cellsI_len : ∀ L : List It, (cellsI L).length = L.length * 4
  | [] => rfl
  | x :: L => by rw [cellsI_cons, List.length_append, cellsI_len L, List.length_cons]; simp only [fieldsOf, List.length_cons, List.length_nil]; omega
theorem cellsI_one (L : List It) : ∀ u ∈ cellsI L, u.oneCell' = true := by
  intro u hu
  simp only [cellsI, List.mem_flatMap] at hu
  obtain ⟨x, _, hx⟩ := hu
  simp only [fieldsOf, List.mem_cons, List.not_mem_nil, or_false] at hx
  rcases hx with rfl | rfl | rfl | rfl <;> rfl
theorem cellsI_get : ∀ (L : List It) (t : Nat), t < L.length * 4 → (cellsI L)[t]? = some ((fieldsOf (L.getD (t / 4) default))[t % 4]!)
  | [], t, h => by simp at h
  | x :: L, t, h => by
    rw [cellsI_cons]
    rcases Nat.lt_or_ge t 4 with h4 | h4
    · rw [List.getElem?_append_left (by simpa [fieldsOf] using h4), show t / 4 = 0 by omega, Nat.mod_eq_of_lt h4]
      rcases (show t = 0 ∨ t = 1 ∨ t = 2 ∨ t = 3 by omega) with rfl | rfl | rfl | rfl <;> rfl
    · simp only [List.length_cons] at h
      rw [List.getElem?_append_right (by simpa [fieldsOf] using h4), show (fieldsOf x).length = 4 from rfl, cellsI_get L (t - 4) (by omega)]
      rw [show t / 4 = (t - 4) / 4 + 1 by omega, show (t - 4) % 4 = t % 4 by omega, List.getD_cons_succ]
/-- Items read so. -/
def RdIt (w : World) (A : Option Addr) (L : List It) : Prop := 0 < L.length → ∃ b off, A = some ⟨b, off, none⟩ ∧ ∀ j, j < L.length →
  w.cell? ⟨b, off + j * 4, none⟩ = some (.int .i64 (L.getD j default).w) ∧ w.cell? ⟨b, off + j * 4 + 1, none⟩ = some (.int .i64 (L.getD j default).s) ∧
  w.cell? ⟨b, off + j * 4 + 2, none⟩ = some (.int .i64 (L.getD j default).l) ∧ w.cell? ⟨b, off + j * 4 + 3, none⟩ = some (.int .i64 (L.getD j default).r)
theorem RdIt.below {w w1 : World} {A : Option Addr} {L : List It} (h : RdIt w A L) (hb : Below w.heap.size w w1) : RdIt w1 A L := by
  intro hl
  obtain ⟨b, off, e, hc⟩ := h hl
  have tr : ∀ {a : Addr} {v : Value}, w.cell? a = some v → w1.cell? a = some v := fun {a v} hc => (hb.cell (World.block_lt_of_cell? w _ hc)).trans hc
  exact ⟨b, off, e, fun j hj => ⟨tr (hc j hj).1, tr (hc j hj).2.1, tr (hc j hj).2.2.1, tr (hc j hj).2.2.2⟩⟩
def OwnI (w : World) (base : Nat) (v : Value) (L : List It) : Prop := w.ownsRow base 95 4 v L.length (cellsI L)
theorem OwnI.nil (w : World) (base : Nat) : OwnI w base (.slice none 0 0) [] := World.ownsRow_nil _ _ _ _
theorem OwnI.below {w w' : World} {base : Nat} {v : Value} {L : List It} (h : OwnI w base v L) (hb : Below w.heap.size w w') : OwnI w' base v L := ownsBelow h hb
theorem OwnI.cells {w : World} {base g c : Nat} {L : List It} (h : OwnI w base (.slice (some ⟨g, 0, none⟩) L.length c) L) (t : Nat) (ht : t < L.length * 4) : w.cell? ⟨g, t, none⟩ = some ((fieldsOf (L.getD (t / 4) default))[t % 4]!) := by
  have := World.ownsRow.cells h (g := g) rfl t _ (cellsI_get L t ht)
  rw [addr_add] at this
  simpa using this
theorem infoI : (Try.prog.info? 95).map (fun i => (i.zero, i.size, i.bytes)) = some (some (.agg #[.int .i64 0, .int .i64 0, .int .i64 0, .int .i64 0]), 4, 32) := by kernel_rfl

/-! ### the comparison -/
def fI (L : List It) {n : Nat} (x : Fin n) : Int × Int × Int × Int := ((L.getD x.val default).w, (L.getD x.val default).s, (L.getD x.val default).l, (L.getD x.val default).r)
theorem e4_fI (L : List It) {n : Nat} (x : Fin n) : E4 (fI L) x = fieldsOf (L.getD x.val default) := rfl
def cfI (L : List It) {n : Nat} (x y : Fin n) : Int := ((L.getD x.val default).w : Int) - ((L.getD y.val default).w : Int)
theorem ltI (L : List It) {n : Nat} (x y : Fin n) : ltOf (cfI L) x y = decide ((L.getD x.val default).w < (L.getD y.val default).w) := by
  unfold ltOf cfI
  by_cases h : (L.getD x.val default).w < (L.getD y.val default).w
  · rw [decide_eq_true h, decide_eq_true (by omega)]
  · rw [decide_eq_false h, decide_eq_false (by omega)]
theorem swo_cfI (L : List It) (n : Nat) : SWO (ltOf (cfI L (n := n))) := by
  have h := fun x y : Fin n => ltI L x y
  refine ⟨fun x => by rw [h]; simp, fun x y z h1 h2 => ?_, fun x y z h1 h2 => ?_⟩
  · rw [h, decide_eq_true_eq] at *; omega
  · rw [h, decide_eq_false_iff_not] at *; omega
def idf (n : Nat) : Array (Fin n) := Array.ofFn fun k : Fin n => k
theorem size_idf (n : Nat) : (idf n).size = n := by simp [idf]
theorem idf_map (L : List It) (n : Nat) (hn : n = L.length) : (idf n).toList.map (fun x : Fin n => L.getD x.val default) = L := by
  subst hn
  refine List.ext_getElem (by simp [size_idf]) fun i h1 h2 => ?_
  simp only [List.getElem_map, idf, Array.getElem_toList, Array.getElem_ofFn]
  rw [List.getD_eq_getElem?_getD, List.getElem?_eq_getElem h2]
  rfl
theorem sorted_eq (L : List It) (n : Nat) (hn : n = L.length) [Inhabited (Fin n)] : (stable (ltOf (cfI L (n := n))) (idf n)).toList.map (fun x : Fin n => L.getD x.val default) = srt L := by
  rw [stable_eq (swo_cfI L n), List.map_mergeSort (s := leW)]
  · rw [idf_map L n hn]; rfl
  · intro a _ b _
    rw [ltI]
    unfold leW
    by_cases h : (L.getD b.val default).w < (L.getD a.val default).w
    · rw [decide_eq_true h, decide_eq_false (by omega)]; rfl
    · rw [decide_eq_false h, decide_eq_true (by omega)]; rfl

set_option maxHeartbeats 1600000 in
theorem lessA_any (x0 x1 x2 x3 y0 y1 y2 y3 : Int) (w : World) (h1 : 0 ≤ x0) (h2 : x0 ≤ 1099511627776) (h3 : 0 ≤ y0) (h4 : y0 ≤ 1099511627776) : Calls Try.prog 83 #[.agg #[.int .i64 x0, .int .i64 x1, .int .i64 x2, .int .i64 x3], .agg #[.int .i64 y0, .int .i64 y1, .int .i64 y2, .int .i64 y3]] w
    fun e w' => e = .returned (.int .i64 (x0 - y0)) ∧ ∃ q os, w' = grow (w.drewN q) os := by
  go_enter Try.func83, Try.ntmps83
  go_wp2
  go_ret
  exact ⟨rfl, 0, #[_, _], by rw [alloc_eq_grow, alloc_eq_grow, grow_grow]; rfl⟩
set_option maxHeartbeats 1600000 in
theorem lessB_any (x0 x1 x2 x3 y0 y1 y2 y3 : Int) (w : World) (h1 : 0 ≤ x0) (h2 : x0 ≤ 1099511627776) (h3 : 0 ≤ y0) (h4 : y0 ≤ 1099511627776) : Calls Try.prog 85 #[.agg #[.int .i64 x0, .int .i64 x1, .int .i64 x2, .int .i64 x3], .agg #[.int .i64 y0, .int .i64 y1, .int .i64 y2, .int .i64 y3]] w
    fun e w' => e = .returned (.int .i64 (x0 - y0)) ∧ ∃ q os, w' = grow (w.drewN q) os := by
  go_enter Try.func85, Try.ntmps85
  go_wp2
  go_ret
  exact ⟨rfl, 0, #[_, _], by rw [alloc_eq_grow, alloc_eq_grow, grow_grow]; rfl⟩

section
variable {α : Type} [Inhabited α] {enc : α → List Value} {k : Nat} {w0 W : World} {blk off : Nat} {dk : Array α}
theorem swk_block (h : SWK enc k w0 blk off dk W) (j : Nat) (hk : j < w0.heap.size) (hne : j ≠ blk) : W.heap[j]? = w0.heap[j]? := by
  obtain ⟨n, os, rfl⟩ := h
  unfold sortWorldK putRowK
  rw [heap_grow_old _ _ (by rw [size_putRow]; exact hk)]
  simp only [putRow, mapBlock]
  rw [Array.getElem?_modify, if_neg (by omega)]
  rfl
theorem swk_grown (h : SWK enc k w0 blk off dk W) : w0.grownBy W (some blk) := by
  refine ⟨?_, ?_, ?_, h.le, fun j hk hne => swk_block h j hk (by intro e; apply hne; rw [e])⟩ <;> (obtain ⟨n, os, rfl⟩ := h; rfl)
end
def WtI (L : List It) : Prop := ∀ x ∈ L, x.w ≤ 1099511627776
theorem WtI.at_ {L : List It} (h : WtI L) (j : Nat) : (L.getD j default).w ≤ 1099511627776 := by
  rw [List.getD_eq_getElem?_getD]
  by_cases hj : j < L.length
  · rw [List.getElem?_eq_getElem hj]; exact h _ (List.getElem_mem hj)
  · rw [List.getElem?_eq_none (by omega)]; decide
theorem rowK_I {w : World} {base g c n : Nat} {L : List It} [Inhabited (Fin n)] (hn : n = L.length) (h0 : 0 < n) (hown : OwnI w base (.slice (some ⟨g, 0, none⟩) n c) L) : RowK (E4 (fI L (n := n))) 4 w g 0 (idf n) := by
  subst hn
  have hl := hown.lt g rfl
  refine ⟨fun _ => rfl, fun x v hv => ?_, fun t ht => ?_, hl.2⟩
  · simp only [E4, List.mem_cons, List.not_mem_nil, or_false] at hv
    rcases hv with rfl | rfl | rfl | rfl <;> rfl
  · rw [size_flatK, size_idf] at ht
    refine ⟨?_, World.ownsRow.frozenAt hown _⟩
    rw [Nat.zero_add, hown.cells t ht, get_flatK _ _ _ _ (by rw [size_idf]; exact ht)]
    have hd : (idf L.length)[t / 4]! = ⟨t / 4, by omega⟩ := by
      rw [getElem!_pos (idf L.length) (t / 4) (by rw [size_idf]; omega)]
      simp [idf]
    rw [hd, e4_fI]
    rfl
theorem size_stableI (L : List It) (n : Nat) [Inhabited (Fin n)] : (stable (ltOf (cfI L (n := n))) (idf n)).size = n := by
  have := congrArg List.length (stable_eq (swo_cfI L n) (idf n))
  rw [List.length_mergeSort] at this
  simpa [size_idf] using this
theorem rdIt_sorted {w w' : World} {base g c n : Nat} {L : List It} [Inhabited (Fin n)] (hn : n = L.length) (R : RowK (E4 (fI L (n := n))) 4 w g 0 (idf n)) (S : SWK (E4 (fI L (n := n))) 4 w g 0 (stable (ltOf (cfI L (n := n))) (idf n)) w') : RdIt w' (some ⟨g, 0, none⟩) (srt L) := by
  intro hl
  have hz := size_stableI L n
  refine ⟨g, 0, rfl, fun j hj => ?_⟩
  rw [srt_len, ← hn] at hj
  have hh := fun c hc => ((S.holds R.hblk R.hH (by rw [hz, size_idf])).cell (i := j) (c := c) (by rw [hz]; exact hj) hc).1
  have e : (srt L).getD j default = L.getD ((stable (ltOf (cfI L (n := n))) (idf n))[j]!).val default := by
    rw [← sorted_eq L n hn, List.getD_eq_getElem?_getD, List.getElem?_map, Array.getElem?_toList, Array.getElem?_eq_getElem (by rw [hz]; exact hj), getElem!_pos _ j (by rw [hz]; exact hj)]
    rfl
  have g0 := hh 0 (by omega)
  have g1 := hh 1 (by omega)
  have g2 := hh 2 (by omega)
  have g3 := hh 3 (by omega)
  rw [e4_fI, ← e] at g0 g1 g2 g3
  exact ⟨g0, g1, g2, g3⟩

set_option maxHeartbeats 1600000 in
/-- The stable sort of a row of items. -/
theorem sortI (f : Nat) (base g c n : Nat) (L : List It) (w : World) (hn : n = L.length) (h0 : 0 < n) (hm : n ≤ 1000000) (hw : WtI L) (hB : base ≤ w.heap.size) (hown : OwnI w base (.slice (some ⟨g, 0, none⟩) n c) L)
    (eg : ∀ args w, (callFunc f args).run Try.prog w = .ok (.enter f args) w)
    (hf : ∀ (x0 x1 x2 x3 y0 y1 y2 y3 : Int) (w : World), 0 ≤ x0 → x0 ≤ 1099511627776 → 0 ≤ y0 → y0 ≤ 1099511627776 → Calls Try.prog f #[.agg #[.int .i64 x0, .int .i64 x1, .int .i64 x2, .int .i64 x3], .agg #[.int .i64 y0, .int .i64 y1, .int .i64 y2, .int .i64 y3]] w fun e w' => e = .returned (.int .i64 (x0 - y0)) ∧ ∃ q os, w' = grow (w.drewN q) os) :
    Calls Try.prog 82 #[.slice (some ⟨g, 0, none⟩) n c, .func (.func f) #[] #[]] w fun e w' => e = .returned (.tuple #[]) ∧ RdIt w' (some ⟨g, 0, none⟩) (srt L) ∧ Below base w w' := by
  haveI : Inhabited (Fin n) := ⟨⟨0, h0⟩⟩
  have R := rowK_I hn h0 hown
  have hl := hown.lt g rfl
  refine (sortStable_s (fI L) (cfI L) f #[] g 0 c (idf n) w eg ?_ R n w (size_idf n) (SWK.start R.hH) hm).mono ?_
  · intro m os dk hs x y
    have := hf (fI L x).1 (fI L x).2.1 (fI L x).2.2.1 (fI L x).2.2.2 (fI L y).1 (fI L y).2.1 (fI L y).2.2.1 (fI L y).2.2.2 (sortWorldK (E4 (fI L)) 4 w g 0 m dk os) (by unfold fI; simp) (by have := hw.at_ x.val; unfold fI; simp only; omega) (by unfold fI; simp) (by have := hw.at_ y.val; unfold fI; simp only; omega)
    exact this
  · rintro e w' ⟨rfl, S⟩
    exact ⟨rfl, rdIt_sorted (base := base) (c := c) hn R S, (Below.refl _ _).grown (swk_grown S) hB (fun k hk => by injection hk with hk; omega)⟩
end Go.Proofs.Ytnldnaogbadajaa.Tb

/- huffman.leavesOf, walked. -/
set_option linter.unusedVariables false
set_option linter.unusedSimpArgs false
namespace Go.Proofs.Ytnldnaogbadajaa.Tb
open Go.RowKit

theorem wpList_appI {w : World} {ops : Array Oper} {rest : List Oper} {o : Oper} {a : Act} {Q : Exit → Act → World → Prop} (s x : Operand) (base : Nat) (v : Value) (L : List It) (ad : Addr) (m c : Nat) (M : List It) (hgd : o.guard = none)
    (ho : o.op = .call { callee := .builtin .append, args := #[s, x], argTypes := #[92, 92] })
    (hs : a.eval s = v) (hown : OwnI w base v L) (hx : a.eval x = .slice (some ad) m c) (hml : m = M.length) (hr : ∀ j u, (cellsI M)[j]? = some u → w.cell? (ad.add j) = some u) (hm : L.length + m ≤ 1000000) (hbase : base ≤ w.heap.size)
    (h : ∀ v' w', OwnI w' base v' (L ++ M) → Below base w w' → wpList Try.prog ops Q rest (a.put o.dst v') w') : wpList Try.prog ops Q (o :: rest) a w := by
  obtain ⟨i0, hi0, hz0, hz1, hz2⟩ := info_parts infoI
  subst hml
  refine wpList_append_own w hgd s x _ ho base 95 i0 _ 4 32 Try.underlying92 hi0 hz0 hz1 hz2 rfl (by decide) v L.length (cellsI L) hs hown ad M.length c (cellsI M) hx (cellsI_len M) hr (cellsI_one M) (by simp only [maxLen]; omega) (by omega) hbase fun v' w' h2 h3 _ => h v' w' ?_ (growsBel hown hbase h3)
  unfold OwnI
  rw [List.length_append, cellsI_app]
  exact h2
theorem one_src (w : World) (t : TypeId) (x : It) : ∀ j u, (cellsI [x])[j]? = some u → (w.alloc (.cells #[.int .i64 x.w, .int .i64 x.s, .int .i64 x.l, .int .i64 x.r] t)).cell? ((⟨w.heap.size, 0, none⟩ : Addr).add j) = some u := by
  intro j u hu
  rw [addr_add, Nat.zero_add]
  have hj : j < 4 := (List.getElem?_eq_some_iff.1 hu).1
  rcases (show j = 0 ∨ j = 1 ∨ j = 2 ∨ j = 3 by omega) with rfl | rfl | rfl | rfl <;> (simp [cellsI, fieldsOf] at hu; subst hu; simp)

set_option maxHeartbeats 1600000 in
theorem insertion_nil (f : Nat) (w : World) : Calls Try.prog 99 #[.slice none 0 0, .int .i64 0, .int .i64 0, .func (.func f) #[] #[]] w fun e w' => e = .returned (.tuple #[]) ∧ w' = w := by
  go_enter Try.func99, Try.ntmps99
  go_wp2
  go_loop [8] (fun s => s = .int .i64 1) (fun _ => 0)
  case atStart => rfl
  case round =>
    subst hrel
    go_wp2
    go_end0
    exact ⟨rfl, rfl⟩
set_option maxHeartbeats 1600000 in
theorem stable_nil (f : Nat) (w : World) : Calls Try.prog 95 #[.slice none 0 0, .int .i64 0, .func (.func f) #[] #[]] w fun e w' => e = .returned (.tuple #[]) ∧ w' = w := by
  go_enter Try.func95, Try.ntmps95
  go_wp2
  go_loop [7, 8] (fun s t => s = .int .i64 0 ∧ t = .int .i64 20) (fun _ _ => 0)
  case atStart => exact ⟨rfl, rfl⟩
  case round =>
    obtain ⟨rfl, rfl⟩ := hrel
    go_wp2_with fail
    refine (insertion_nil f _).mono ?_
    rintro e w1 ⟨rfl, rfl⟩
    go_wp2
    go_loop [6] (fun s => s = .int .i64 20) (fun _ => 0)
    case atStart => rfl
    case round =>
      subst hrel
      go_wp2
      go_end0
      exact ⟨rfl, rfl⟩
set_option maxHeartbeats 1600000 in
theorem sort_nil (f : Nat) (w : World) : Calls Try.prog 82 #[.slice none 0 0, .func (.func f) #[] #[]] w fun e w' => e = .returned (.tuple #[]) ∧ w' = w := by
  go_enter Try.func82, Try.ntmps82
  go_wp2_with fail
  refine (stable_nil f _).mono ?_
  rintro e w1 ⟨rfl, rfl⟩
  go_wp2
  go_end0
  exact ⟨rfl, rfl⟩

/-- A slice of items, its block not below B. -/
def IsIt (w : World) (B : Nat) (v : Value) (L : List It) : Prop := ∃ A c, v = .slice A L.length c ∧ RdIt w A L ∧ L.length ≤ c ∧ ∀ b, A = some b → B ≤ b.block
theorem IsIt.below {w w1 : World} {B : Nat} {v : Value} {L : List It} (h : IsIt w B v L) (hb : Below w.heap.size w w1) : IsIt w1 B v L := by
  obtain ⟨A, c, e, h1, h2, h3⟩ := h
  exact ⟨A, c, e, h1.below hb, h2, h3⟩
theorem own_capI {w : World} {B c : Nat} {A : Option Addr} {L : List It} (h : OwnI w B (.slice A L.length c) L) : L.length ≤ c := by
  rcases h.2 with ⟨e, _⟩ | ⟨g, cap, cur, e, _, _, hc, _⟩
  · injection e with _ e2 e3; omega
  · injection e with _ _ e3; omega
def Le4096 (cs : List Nat) : Prop := ∀ c ∈ cs, c ≤ 4096
theorem Le4096.at_ {cs : List Nat} (h : Le4096 cs) (j : Nat) : cs.getD j 0 ≤ 4096 := by
  rw [List.getD_eq_getElem?_getD]
  by_cases hj : j < cs.length
  · rw [List.getElem?_eq_getElem hj]; exact h _ (List.getElem_mem hj)
  · rw [List.getElem?_eq_none (by omega)]; decide
theorem own_formI {w : World} {B : Nat} {v : Value} {L : List It} (h : OwnI w B v L) (h0 : 0 < L.length) : ∃ g c, v = .slice (some ⟨g, 0, none⟩) L.length c ∧ B ≤ g ∧ g < w.heap.size := by
  obtain ⟨g, c, e, h1, h2⟩ := World.ownsRow.form h h0
  exact ⟨g, c, e, h1, h2⟩
theorem own_nilI {w : World} {B : Nat} {v : Value} (h : OwnI w B v []) (hn : v.ownBlock = none) : v = .slice none 0 0 := by
  rcases h.2 with ⟨rfl, _⟩ | ⟨g, cap, cur, rfl, _⟩
  · rfl
  · simp [Value.ownBlock] at hn

set_option maxRecDepth 100000 in
set_option maxHeartbeats 6400000 in
theorem leavesOf_any (A : Option Addr) (c : Nat) (cs : List Nat) (w : World) (hr : RdN w A cs) (hl : cs.length ≤ 1024) (hx : Le4096 cs) :
    Calls Try.prog 61 #[.slice A cs.length c] w fun e w' => ∃ v', e = .returned v' ∧ IsIt w' w.heap.size v' (leavesL cs) ∧ Below w.heap.size w w' := by
  have HA := Lib.hid hr
  have HX := Lib.hid hx
  obtain ⟨n, hn⟩ : ∃ n, n = cs.length := ⟨_, rfl⟩
  rw [← hn] at hl ⊢
  have HN := Lib.hid hn
  clear hr hx hn
  go_enter Try.func61, Try.ntmps61
  go_wp2
  go_loopw [3, 8] (fun v s wr => ∃ (t : Nat) (L : List It) (A3 : Option Addr) (c3 : Nat), s = .int .i64 t ∧ v = .slice A3 L.length c3 ∧ t ≤ n ∧ Hid (L = presL (cs.take t) 0) ∧ Hid (OwnI wr w.heap.size (.slice A3 L.length c3) L) ∧ Hid (L = [] → A3 = none ∧ c3 = 0) ∧ Hid (Below w.heap.size w wr)) (fun _ s _ => n - (intOf s).toNat)
  case atStart => exact ⟨0, [], none, 0, rfl, rfl, by omega, Lib.hid rfl, Lib.hid (OwnI.nil _ _), Lib.hid (fun _ => ⟨rfl, rfl⟩), Lib.hid (Below.refl _ _)⟩
  case round =>
    obtain ⟨t, L, A3, c3, rfl, rfl, htn, HL, HO, HZ, HB⟩ := hrel
    have hLl : L.length ≤ 1024 := by have := presL_len (cs.take t) 0; rw [← HL.out, List.length_take, ← HN.out] at this; omega
    by_cases hlt : t < n
    · obtain ⟨b1, o1, e1, c1⟩ := (HA.out.below HB.out) (by rw [← HN.out]; omega)
      have cc := c1 t (by rw [← HN.out]; exact hlt)
      have hst : presL (cs.take (t + 1)) 0 = L ++ if 0 < cs.getD t 0 then [⟨cs.getD t 0, (t : Int), 0, 0⟩] else [] := by
        have e1 : (0 + (cs.take t).length : Nat) = t := by rw [List.length_take, ← HN.out]; omega
        rw [take_snoc 0 cs t (by rw [← HN.out]; exact hlt), presL_snoc, ← HL.out, e1]
      have hx9 := HX.out.at_ t
      obtain ⟨x, hx⟩ : ∃ x, x = cs.getD t 0 := ⟨_, rfl⟩
      rw [← hx] at cc hst hx9
      clear c1 hx
      subst e1
      by_cases hx0 : 0 < x
      · have t1 : (0 : Int) < (x : Int) := by omega
        rw [if_pos hx0] at hst
        have HST := Lib.hid (And.intro hst (show L ++ [(⟨x, (t : Int), 0, 0⟩ : It)] ≠ [] by simp))
        have hsz := HB.out.size
        have HS := Lib.hid (one_src wr 95 ⟨x, (t : Int), 0, 0⟩)
        have HOA := Lib.hid (HO.out.below (bel9 wr (.cells #[.int .i64 x, .int .i64 t, .int .i64 0, .int .i64 0] 95)))
        have HBA := Lib.hid (HB.out.alloc hsz (.cells #[.int .i64 x, .int .i64 t, .int .i64 0, .int .i64 0] 95))
        have HLE : Hid (L.length + 1 ≤ 1000000) := Lib.hid (by omega)
        clear hst
        go_wp2_with (at_builtin; refine wpList_appI (.tmp 15) (.tmp 19) w.heap.size (.slice A3 L.length c3) L ⟨wr.heap.size, 0, none⟩ 1 1 [⟨x, (t : Int), 0, 0⟩] rfl rfl (by rfl) HOA.out (by rfl) rfl HS.out HLE.out (by have := hsz; simp; omega) ?_; intro v2 w2 ho2 hb2; obtain ⟨g2, c2, rfl, _, _⟩ := own_formI ho2 (by simp); have HO2 := Lib.hid ho2; have HB2 := Lib.hid (HBA.out.trans hb2); clear ho2 hb2; generalize L ++ [⟨x, (t : Int), 0, 0⟩] = L2 at HST HO2 ⊢)
        go_roundw
        case measure => simp [intOf]; omega
        case rel => exact ⟨t + 1, L2, _, c2, by go_num, rfl, by omega, Lib.hid HST.out.1.symm, HO2, Lib.hid (fun h => absurd h HST.out.2), HB2⟩
      · have t1 : ¬ (0 : Int) < (x : Int) := by omega
        rw [if_neg hx0, List.append_nil] at hst
        have HST := Lib.hid hst
        clear hst
        go_wp2
        go_roundw
        case measure => simp [intOf]; omega
        case rel => exact ⟨t + 1, L, A3, c3, by go_num, rfl, by omega, Lib.hid HST.out.symm, HO, HZ, HB⟩
    · obtain rfl : t = n := by omega
      have hLo := HL.out
      rw [List.take_of_length_le (by rw [← HN.out]; exact Nat.le_refl _)] at hLo
      have HLV : Hid (leavesL cs = srt L) := Lib.hid (by rw [hLo]; rfl)
      have hwt : WtI L := fun y hy => by
        have h1 := (presL_mem (by rw [← hLo]; exact hy : y ∈ presL cs 0)).2.2.2
        have := HX.out _ h1
        omega
      by_cases hL0 : L.length = 0
      · obtain rfl : L = [] := List.eq_nil_of_length_eq_zero hL0
        obtain ⟨rfl, rfl⟩ := HZ.out rfl
        have e0 : leavesL cs = [] := by rw [HLV.out]; exact List.eq_nil_of_length_eq_zero (srt_len [])
        have E0 := Lib.hid e0
        clear e0 HLV hwt hLo hL0 HL HZ HO
        change @List.length It [] ≤ 1024 at hLl
        clear hLl
        rw [show @List.length It [] = 0 from rfl]
        go_wp2_with fail
        refine (sort_nil _ _).mono ?_
        rintro e w1 ⟨rfl, rfl⟩
        go_wp2
        go_ret
        rw [E0.out]
        exact ⟨.slice none 0 0, rfl, ⟨none, 0, rfl, fun h => by simp at h, by simp, fun b h => by cases h⟩, HB.out⟩
      · have h0 : 0 < L.length := by omega
        obtain ⟨g, c', e3, hgB, hgl⟩ := own_formI HO.out h0
        injection e3 with e3 _ e4
        subst e3 e4
        obtain ⟨k, hk⟩ : ∃ k, k = L.length := ⟨_, rfl⟩
        have HSO := Lib.hid (sortI 83 w.heap.size g c3 k L wr hk (by omega) (by omega) hwt HB.out.size (by rw [hk]; exact HO.out) (fun args w => by kernel_rfl) lessA_any)
        rw [← hk]
        have HK : Hid ((srt L).length = k) := Lib.hid (by rw [srt_len, hk])
        have HCAP : Hid (k ≤ c3) := Lib.hid (by rw [hk]; exact own_capI HO.out)
        clear hk hwt hLl hLo HL HZ HO hL0 h0
        go_wp2_with fail
        refine HSO.out.mono ?_
        rintro e w1 ⟨rfl, hr1, hb1⟩
        have HR1 := Lib.hid hr1
        have HB1 := Lib.hid (HB.out.trans hb1)
        clear hr1 hb1 HSO
        go_wp2
        go_ret
        rw [HLV.out]
        exact ⟨_, rfl, ⟨_, c3, by rw [HK.out]; rfl, HR1.out, by rw [HK.out]; exact HCAP.out, fun b h => by injection h with h; subst h; exact hgB⟩, HB1.out⟩
end Go.Proofs.Ytnldnaogbadajaa.Tb

/- huffman.next, walked. -/
set_option linter.unusedVariables false
set_option linter.unusedSimpArgs false
namespace Go.Proofs.Ytnldnaogbadajaa.Tb
open Go.RowKit

theorem step_appI {w : World} {ops : Array Oper} {o : Oper} {a : Act} {K : Act → World → Prop} {Q : Exit → Act → World → Prop} {E : Prop} (s x : Operand) (base : Nat) (v : Value) (L : List It) (ad : Addr) (m c : Nat) (M : List It) (hgd : o.guard = none)
    (ho : o.op = .call { callee := .builtin .append, args := #[s, x], argTypes := #[92, 92] })
    (hs : a.eval s = v) (hown : OwnI w base v L) (hx : a.eval x = .slice (some ad) m c) (hml : m = M.length) (hr : ∀ j u, (cellsI M)[j]? = some u → w.cell? (ad.add j) = some u) (hm : L.length + m ≤ 1000000) (hbase : base ≤ w.heap.size)
    (h : ∀ v' w', OwnI w' base v' (L ++ M) → Below base w w' → K (a.put o.dst v') w') :
    if Region.wanted o (yielded ops a.tmps) = true then Oper.wp Try.prog o a w K Q else E := by
  have hw : Region.wanted o (yielded ops a.tmps) = true := by simp [Region.wanted, hgd]
  rw [if_pos hw]
  obtain ⟨i0, hi0, hz0, hz1, hz2⟩ := info_parts infoI
  subst hml
  refine wp_append_own w s x _ ho base 95 i0 _ 4 32 Try.underlying92 hi0 hz0 hz1 hz2 rfl (by decide) v L.length (cellsI L) hs hown ad M.length c (cellsI M) hx (cellsI_len M) hr (cellsI_one M) (by simp only [maxLen]; omega) (by omega) hbase fun v' w' h2 h3 _ => h v' w' ?_ (growsBel hown hbase h3)
  unfold OwnI
  rw [List.length_append, cellsI_app]
  exact h2
theorem rdIt_src {w : World} {ad : Addr} {L : List It} (h : RdIt w (some ad) L) : ∀ j u, (cellsI L)[j]? = some u → w.cell? (ad.add j) = some u := by
  intro t u hu
  have ht : t < (cellsI L).length := (List.getElem?_eq_some_iff.1 hu).1
  rw [cellsI_len] at ht
  rw [cellsI_get L t ht] at hu
  obtain ⟨b, off, e, hc⟩ := h (by omega)
  injection e with e
  subst e
  injection hu with hu
  subst hu
  rw [addr_add]
  obtain ⟨h0, h1, h2, h3⟩ := hc (t / 4) (by omega)
  rcases (show t % 4 = 0 ∨ t % 4 = 1 ∨ t % 4 = 2 ∨ t % 4 = 3 by omega) with e | e | e | e
  · rw [e, show off + t = off + t / 4 * 4 by omega]; exact h0
  · rw [e, show off + t = off + t / 4 * 4 + 1 by omega]; exact h1
  · rw [e, show off + t = off + t / 4 * 4 + 2 by omega]; exact h2
  · rw [e, show off + t = off + t / 4 * 4 + 3 by omega]; exact h3

set_option maxHeartbeats 1600000 in
theorem CloneI_any (A : Option Addr) (c : Nat) (L : List It) (w : World) (ha : RdIt w A L) (h0 : 0 < L.length) (hm : L.length ≤ 4096) :
    Calls Try.prog 84 #[.slice A L.length c] w fun e w' => ∃ v', e = .returned v' ∧ OwnI w' w.heap.size v' L ∧ Below w.heap.size w w' := by
  obtain ⟨b, off, e, _⟩ := ha h0
  subst e
  have HR := Lib.hid ha
  obtain ⟨n, hn⟩ : ∃ n, n = L.length := ⟨_, rfl⟩
  rw [← hn] at hm ⊢
  have HN := Lib.hid hn
  clear ha h0 hn
  have hq : ∀ w1 : World, (binOp .eql 92 (.slice (some ⟨b, off, none⟩) n c) (.slice none 0 0)).run Try.prog w1 = .ok (.bool false) w1 := fun w1 => by
    rw [Lib.run_eql_slice_nil w1 _ _ (some ⟨b, off, none⟩) n c 0 0 Try.underlying92]
    rfl
  have hown : OwnI (w.alloc (.cells #[] 95)) w.heap.size (.slice (some ⟨w.heap.size, 0, none⟩) 0 0) [] := World.ownsRow_made w #[] 0 (Nat.le_refl _) (by simp [maxLen]) rfl
  have HW := Lib.hid hown
  have HRA := Lib.hid (rdIt_src (HR.out.below (bel9 w (.cells #[] 95))))
  have HL : Hid (([] : List It).length + n ≤ 1000000) := Lib.hid (by simp; omega)
  have HB := Lib.hid (bel9 w (.cells #[] 95))
  clear hown
  go_enter Try.func84, Try.ntmps84
  go_wp2_with (at_builtin; refine wpList_appI (.tmp 5) (.tmp 6) w.heap.size _ [] ⟨b, off, none⟩ n c L rfl rfl rfl HW.out (by rfl) HN.out HRA.out HL.out HB.out.size ?_; intro v1 w1 ho1 hb1; have HO1 := Lib.hid ho1; have HB1 := Lib.hid (HB.out.trans hb1); clear ho1 hb1)
  go_wp2
  go_ret
  exact ⟨v1, rfl, HO1.out, HB1.out⟩
end Go.Proofs.Ytnldnaogbadajaa.Tb

/- huffman.next, walked: the loop. -/
set_option linter.unusedVariables false
set_option linter.unusedSimpArgs false
namespace Go.Proofs.Ytnldnaogbadajaa.Tb
open Go.RowKit

theorem packs_step (b : List It) (t : Nat) (h : 2 * t + 1 < b.length) : packs (b.take (2 * (t + 1))) 0 = packs (b.take (2 * t)) 0 ++ [⟨(b.getD (2 * t) default).w + (b.getD (2 * t + 1) default).w, -1, 2 * t, 2 * t + 1⟩] := by
  have e1 : (b.take (2 * t)).length = 2 * t := by rw [List.length_take]; omega
  have := packs_snoc (b.take (2 * t)) (b.getD (2 * t) default) (b.getD (2 * t + 1) default) 0 (by rw [e1]; omega)
  rw [e1, Nat.zero_add] at this
  rw [← this, show 2 * (t + 1) = 2 * t + 1 + 1 by omega, take_snoc default b (2 * t + 1) h, take_snoc default b (2 * t) (by omega)]
  simp
theorem packs_end (b : List It) (t : Nat) (h1 : 2 * t ≤ b.length) (h2 : ¬ 2 * t + 1 < b.length) : packs (b.take (2 * t)) 0 = packs b 0 := by
  rcases (show b.length = 2 * t ∨ b.length = 2 * t + 1 by omega) with h | h
  · rw [List.take_of_length_le (by omega)]
  · have e1 : (b.take (2 * t)).length = 2 * t := by rw [List.length_take]; omega
    have := packs_odd (b.take (2 * t)) (b.getD (2 * t) default) 0 (by rw [e1]; omega)
    rw [← take_snoc default b (2 * t) (by omega), List.take_of_length_le (by omega)] at this
    exact this.symm

set_option maxRecDepth 100000 in
set_option maxHeartbeats 6400000 in
theorem next_any (A Ab : Option Addr) (c cb : Nat) (lv b : List It) (mb : Nat) (w : World) (ha : RdIt w A lv) (hb : RdIt w Ab b) (h0 : 0 < lv.length) (hl : lv.length ≤ 1024) (hbl : b.length ≤ 2048) (hw1 : ∀ x ∈ lv, x.w ≤ 4096) (hw2 : ∀ x ∈ b, x.w ≤ mb) (hmb : mb ≤ 4294967296) :
    Calls Try.prog 62 #[.slice A lv.length c, .slice Ab b.length cb] w fun e w' => ∃ v', e = .returned v' ∧ IsIt w' w.heap.size v' (nextL lv b) ∧ Below w.heap.size w w' := by
  have HB := Lib.hid hb
  have HW2 := Lib.hid hw2
  have HCL := Lib.hid (CloneI_any A c lv w ha h0 (by omega))
  have HWT : Hid (∀ t, WtI (lv ++ packs (b.take t) 0)) := Lib.hid fun t x hx => by
    rcases List.mem_append.1 hx with h | h
    · have := hw1 x h; omega
    · have := (packs_mem h fun y hy => hw2 y (List.mem_of_mem_take hy)).2; omega
  obtain ⟨n, hn⟩ : ∃ n, n = lv.length := ⟨_, rfl⟩
  rw [← hn] at hl h0 HCL ⊢
  obtain ⟨m, hm⟩ : ∃ m, m = b.length := ⟨_, rfl⟩
  rw [← hm] at hbl ⊢
  have HN := Lib.hid hn
  have HM := Lib.hid hm
  clear ha hb hn hm hw1 hw2
  go_enter Try.func62, Try.ntmps62
  go_wp2_with fail
  refine HCL.out.mono ?_
  rintro e w1 ⟨v1, rfl, ho1, hb1⟩
  obtain ⟨g1, c1, rfl, _, _⟩ := own_formI ho1 (by rw [← HN.out]; exact h0)
  have HO1 := Lib.hid ho1
  have HB1 := Lib.hid hb1
  clear ho1 hb1
  go_wp2
  go_loopw [5, 6] (fun v s wr => ∃ (t : Nat) (L : List It) (A5 : Option Addr) (c5 : Nat), s = .int .i64 (2 * (t : Int)) ∧ v = .slice A5 L.length c5 ∧ 2 * t ≤ m ∧ Hid (L = lv ++ packs (b.take (2 * t)) 0) ∧ Hid (OwnI wr w.heap.size (.slice A5 L.length c5) L) ∧ Hid (Below w.heap.size w wr)) (fun _ s _ => m - (intOf s).toNat)
  case atStart => exact ⟨0, lv, _, c1, rfl, rfl, by omega, Lib.hid (by simp [packs]), HO1, HB1⟩
  case round =>
    obtain ⟨t, L, A5, c5, rfl, rfl, htm, HL, HO, HBE⟩ := hrel
    have hLl : L.length = n + (2 * t) / 2 := by rw [HL.out, List.length_append, packs_len, List.length_take, ← HM.out, ← HN.out]; omega
    by_cases hlt : 2 * t + 1 < m
    · obtain ⟨b1, o1, e1, cc⟩ := (HB.out.below HBE.out) (by rw [← HM.out]; omega)
      have cx := (cc (2 * t) (by rw [← HM.out]; omega)).1
      have cy := (cc (2 * t + 1) (by rw [← HM.out]; omega)).1
      have hst := packs_step b t (by rw [← HM.out]; exact hlt)
      obtain ⟨x, hx⟩ : ∃ x, x = (b.getD (2 * t) default).w := ⟨_, rfl⟩
      obtain ⟨y, hy⟩ : ∃ x, x = (b.getD (2 * t + 1) default).w := ⟨_, rfl⟩
      have gx : x ≤ mb := by rw [hx, List.getD_eq_getElem?_getD, List.getElem?_eq_getElem (by rw [← HM.out]; omega)]; exact HW2.out _ (List.getElem_mem _)
      have gy : y ≤ mb := by rw [hy, List.getD_eq_getElem?_getD, List.getElem?_eq_getElem (by rw [← HM.out]; omega)]; exact HW2.out _ (List.getElem_mem _)
      rw [← hx] at cx hst
      rw [← hy] at cy hst
      have HST : Hid (L ++ [⟨x + y, -1, 2 * t, 2 * t + 1⟩] = lv ++ packs (b.take (2 * (t + 1))) 0) := Lib.hid (by rw [hst, HL.out, List.append_assoc])
      clear cc hx hy hst
      subst e1
      obtain ⟨i, hi⟩ : ∃ i, i = 2 * t := ⟨_, rfl⟩
      have ei : 2 * (t : Int) = (i : Int) := by omega
      rw [← hi] at cx cy HST
      have HI := Lib.hid hi
      rw [ei]
      obtain ⟨k, hk⟩ : ∃ k, k = i + 1 := ⟨_, rfl⟩
      obtain ⟨z, hz⟩ : ∃ z, z = x + y := ⟨_, rfl⟩
      rw [← hk] at cy HST
      rw [← hz] at HST
      have q1 : (k : Int) < (m : Int) := by omega
      have q3 : IntKind.i64.wrap ((i : Int) + 1) = (k : Int) := by rw [IntKind.wrap_i64]; omega
      have q4 : IntKind.i64.wrap ((x : Int) + (y : Int)) = (z : Int) := by rw [IntKind.wrap_i64]; omega
      have q6 : (i : Int) < (m : Int) := by omega
      have hsz := HBE.out.size
      have HS : Hid (∀ j u, (cellsI [⟨z, -1, i, k⟩])[j]? = some u → (wr.alloc (.cells #[.int .i64 z, .int .i64 (-1), .int .i64 i, .int .i64 k] 95)).drew.cell? ((⟨wr.heap.size, 0, none⟩ : Addr).add j) = some u) := Lib.hid (one_src wr 95 ⟨z, -1, i, k⟩)
      have HOA := Lib.hid (HO.out.below (bd_drew (bel9 wr (.cells #[.int .i64 z, .int .i64 (-1), .int .i64 i, .int .i64 k] 95))))
      have HBA := Lib.hid (bd_drew (HBE.out.alloc hsz (.cells #[.int .i64 z, .int .i64 (-1), .int .i64 i, .int .i64 k] 95)))
      have HLE : Hid (L.length + 1 ≤ 1000000) := Lib.hid (by omega)
      have HI2 : Hid ((i : Int) + 2 = 2 * ((t + 1 : Nat) : Int)) := Lib.hid (by omega)
      have q7 : (i : Int) + 1 < (m : Int) := by omega
      clear ei hi hk hz hLl
      go_wp2_with fail
      go_region_law
        (first
          | (refine step_appI (.tmp 16) (.tmp 33) w.heap.size (.slice A5 L.length c5) L ⟨wr.heap.size, 0, none⟩ 1 1 [⟨z, -1, i, k⟩] rfl rfl (by rfl) HOA.out (by rfl) rfl HS.out HLE.out HBA.out.size ?_
             intro v2 w2 ho2 hb2
             obtain ⟨g2, c2, rfl, _, _⟩ := own_formI ho2 (by simp)
             have HO2 := Lib.hid ho2
             have HB2 := Lib.hid (HBA.out.trans hb2)
             clear ho2 hb2
             generalize L ++ [⟨z, -1, i, k⟩] = L2 at HST HO2 ⊢)
          | fail)
      all_goals
        simp only [Act.put, List.getElem_toArray, List.getElem_cons_succ, List.getElem_cons_zero, List.setIfInBounds_toArray, List.set_cons_succ, List.set_cons_zero]
        go_wp2
        go_roundw
        case measure => simp [intOf]; omega
        case rel => exact ⟨t + 1, L2, _, c2, by rw [← HI2.out], rfl, by have := HI.out; omega, HST, HO2, HB2⟩
    · have HE : Hid (nextL lv b = srt L) := Lib.hid (by unfold nextL; rw [HL.out, packs_end b t (by rw [← HM.out]; exact htm) (by rw [← HM.out]; exact hlt)])
      have q1 : ¬ 2 * (t : Int) + 1 < (m : Int) := by omega
      have hwt : WtI L := by rw [HL.out]; exact HWT.out _
      have h0L : 0 < L.length := by omega
      obtain ⟨g, c', e3, hgB, hgl⟩ := own_formI HO.out h0L
      injection e3 with e3 _ e4
      subst e3 e4
      obtain ⟨k, hk⟩ : ∃ k, k = L.length := ⟨_, rfl⟩
      have HSO := Lib.hid (sortI 85 w.heap.size g c5 k L wr hk (by omega) (by omega) hwt HBE.out.size (by rw [hk]; exact HO.out) (fun args w => by kernel_rfl) lessB_any)
      rw [← hk]
      have HK : Hid ((srt L).length = k) := Lib.hid (by rw [srt_len, hk])
      have HCAP : Hid (k ≤ c5) := Lib.hid (by rw [hk]; exact own_capI HO.out)
      clear hk hwt hLl HL HO h0L
      go_wp2_with fail
      refine HSO.out.mono ?_
      rintro e w2 ⟨rfl, hr2, hb2⟩
      have HR2 := Lib.hid hr2
      have HB2 := Lib.hid (HBE.out.trans hb2)
      clear hr2 hb2 HSO
      go_wp2
      go_ret
      rw [HE.out]
      exact ⟨_, rfl, ⟨_, c5, by rw [HK.out]; rfl, HR2.out, by rw [HK.out]; exact HCAP.out, fun b h => by injection h with h; subst h; exact hgB⟩, HB2.out⟩
end Go.Proofs.Ytnldnaogbadajaa.Tb

/- huffman.check, walked; rows of ints. -/
set_option linter.unusedVariables false
set_option linter.unusedSimpArgs false
namespace Go.Proofs.Ytnldnaogbadajaa.Tb
open Go.RowKit

set_option maxRecDepth 100000 in
set_option maxHeartbeats 6400000 in
theorem hcheck_ok (A : Option Addr) (c : Nat) (cs : List Nat) (w : World) (hr : RdN w A cs) (hl : cs.length ≤ 1024) (hx : Le4096 cs) :
    Calls Try.prog 60 #[.slice A cs.length c, .int .i64 15] w fun e w' => e = .returned (.int .i64 0) ∧ w' = w := by
  have HA := Lib.hid hr
  have HX := Lib.hid hx
  obtain ⟨n, hn⟩ : ∃ n, n = cs.length := ⟨_, rfl⟩
  rw [← hn] at hl ⊢
  have HN := Lib.hid hn
  clear hr hx hn
  go_enter Try.func60, Try.ntmps60
  go_wp2
  go_loop [5, 21] (fun p s => ∃ (t q : Nat), s = .int .i64 t ∧ p = .int .i64 q ∧ t ≤ n ∧ q ≤ t) (fun _ s => n - (intOf s).toNat)
  case atStart => exact ⟨0, 0, rfl, rfl, by omega, by omega⟩
  case round =>
    obtain ⟨t, q, rfl, rfl, ht, hq⟩ := hrel
    by_cases hlt : t < n
    · obtain ⟨b1, o1, e1, c1⟩ := HA.out (by rw [← HN.out]; omega)
      have cc := c1 t (by rw [← HN.out]; exact hlt)
      have hx31 := HX.out.at_ t
      obtain ⟨x, hx⟩ : ∃ x, x = cs.getD t 0 := ⟨_, rfl⟩
      rw [← hx] at cc hx31
      have t1 : ¬ (x : Int) < 0 := by omega
      have t2 : ¬ (4096 : Int) < (x : Int) := by omega
      clear c1 hx
      subst e1
      by_cases hx0 : 0 < x
      · have t3 : (0 : Int) < (x : Int) := by omega
        go_wp2
        go_round
        case measure => simp [intOf]; omega
        case rel => exact ⟨t + 1, q + 1, by go_num, by go_num, by omega, by omega⟩
      · have t3 : ¬ (0 : Int) < (x : Int) := by omega
        go_wp2
        go_round
        case measure => simp [intOf]; omega
        case rel => exact ⟨t + 1, q, by go_num, rfl, by omega, by omega⟩
    · have t4 : ¬ (32768 : Int) < (q : Int) := by omega
      go_wp2
      go_ret
      exact ⟨rfl, rfl⟩

/-! ### rows of ints -/
def nvs (xs : List Nat) : List Value := xs.map fun (x : Nat) => Value.int .i64 (x : Int)
theorem nvs_len (xs : List Nat) : (nvs xs).length = xs.length := by simp [nvs]
def OwnN (w : World) (base : Nat) (v : Value) (xs : List Nat) : Prop := w.ownsRow base 3 1 v xs.length (nvs xs)
theorem OwnN.below {w w' : World} {base : Nat} {v : Value} {xs : List Nat} (h : OwnN w base v xs) (hb : Below w.heap.size w w') : OwnN w' base v xs := ownsBelow h hb
theorem OwnN.rd {w : World} {base c : Nat} {A : Option Addr} {xs : List Nat} (h : OwnN w base (.slice A xs.length c) xs) : RdN w A xs ∧ xs.length ≤ c := by
  obtain ⟨_, A', c', e, hr, _, h3, _⟩ := own_rd h
  injection e with e1 e2 e3
  subst e1 e3
  refine ⟨fun hl => ?_, h3⟩
  obtain ⟨b, off, e, hc⟩ := hr (by rw [nvs_len]; exact hl)
  refine ⟨b, off, e, fun j hj => hc j _ ?_⟩
  simp [nvs, hj]
theorem ownN_form {w : World} {B : Nat} {v : Value} {xs : List Nat} (h : OwnN w B v xs) (h0 : 0 < xs.length) : ∃ g c, v = .slice (some ⟨g, 0, none⟩) xs.length c ∧ B ≤ g ∧ g < w.heap.size := by
  obtain ⟨g, c, e, h1, h2⟩ := World.ownsRow.form h h0
  exact ⟨g, c, e, h1, h2⟩
theorem ownN_cell {w : World} {B g c j : Nat} {xs : List Nat} (h : OwnN w B (.slice (some ⟨g, 0, none⟩) xs.length c) xs) (hj : j < xs.length) : w.cell? ⟨g, j, none⟩ = some (.int .i64 (xs.getD j 0 : Nat)) := by
  have := World.ownsRow.cellAt h j (by omega)
  rw [this]
  simp [nvs, hj]
theorem ownN_free {w : World} {B g c : Nat} {xs : List Nat} (h : OwnN w B (.slice (some ⟨g, 0, none⟩) xs.length c) xs) (j : Nat) : w.frozen? ⟨g, j, none⟩ = false := World.ownsRow.frozenAt h j
theorem ownN_stored {w : World} {B g c : Nat} {xs : List Nat} (h : OwnN w B (.slice (some ⟨g, 0, none⟩) xs.length c) xs) (j b : Nat) : OwnN (w.setCell ⟨g, j, none⟩ (.int .i64 (b : Int))) B (.slice (some ⟨g, 0, none⟩) xs.length c) (xs.set j b) := by
  have h1 := (World.ownsRow.stored h j (.int .i64 (b : Int))).1
  unfold OwnN
  rw [List.length_set, show nvs (xs.set j b) = (nvs xs).set j (.int .i64 (b : Int)) by simp [nvs, List.map_set]]
  exact h1
end Go.Proofs.Ytnldnaogbadajaa.Tb
