/- What the stable sort and grow make of the collected numbers. -/
import Derived.Test.YtlpdligkjihkeaaTg0
set_option linter.unusedVariables false
set_option linter.unusedSimpArgs false
namespace Go.Proofs.Ytlpdligkjihkeaa.Tb
open Go.RowKit Go.Shelf Go.Lib Go.Sort Go.Proofs.Ytlpdligkjihkeaa.Sw Go.Proofs.Ytlpdligkjihkeaa.St

def bgn (xs : List (Int × Int)) (i : Nat) : Int := (xs.getD i (0, 0)).1
def enn (xs : List (Int × Int)) (i : Nat) : Int := (xs.getD i (0, 0)).2
structure OnOk (xs : List (Int × Int)) (on : Nat → Nat) : Prop where
  lt : ∀ i, i < xs.length → on i < xs.length
  perm : ((List.range xs.length).map on).Perm (List.range xs.length)
  asc : ∀ i j, i < j → j < xs.length → bgn xs (on i) ≤ bgn xs (on j)

def cfB (xs : List (Int × Int)) {n : Nat} (x y : Fin n) : Int := cmpI (bgn xs x.val) (bgn xs y.val)
theorem ltB (xs : List (Int × Int)) {n : Nat} (x y : Fin n) : ltOf (cfB xs) x y = decide (bgn xs x.val < bgn xs y.val) := by
  unfold ltOf cfB cmpI
  by_cases h1 : bgn xs x.val < bgn xs y.val
  · rw [if_pos h1]; simp [h1]
  · rw [if_neg h1]
    split <;> simp [h1]
theorem swo_cfB (xs : List (Int × Int)) (n : Nat) : SWO (ltOf (cfB xs (n := n))) := by
  have h := fun x y : Fin n => ltB xs x y
  refine ⟨fun x => by rw [h]; simp, fun x y z h1 h2 => ?_, fun x y z h1 h2 => ?_⟩
  · rw [h, decide_eq_true_eq] at *; omega
  · rw [h, decide_eq_false_iff_not] at *; omega
def fV {n : Nat} (x : Fin n) : Int := (x.val : Int)
def idn (n : Nat) : Array (Fin n) := Array.ofFn fun k : Fin n => k
theorem size_idn (n : Nat) : (idn n).size = n := by simp [idn]

set_option maxHeartbeats 1600000 in
/-- The call of the stable sort, where there are spans. -/
theorem sort_call (n : Nat) [Inhabited (Fin n)] (A : Option Addr) (c : Nat) (xs : List (Int × Int)) (w wr : World) (g : Nat) (As : Option Addr) (cs ge : Nat) (bo co : Nat) (hn : n = xs.length) (hn0 : 0 < n) (hm : n ≤ 4096) (ha : RdS w A xs)
    (B : B10 w wr A n c xs g As cs ge (some ⟨bo, 0, none⟩) co n) :
    Calls Try.prog 46 #[.slice (some ⟨bo, 0, none⟩) n co, .func (.func 47) #[] #[.pointer (some ⟨w.heap.size, 0, none⟩)]] wr fun e w' => e = .returned (.tuple #[]) ∧ SW (E (fV (n := n))) wr bo 0 (stable (ltOf (cfB xs)) (idn n)) w' := by
  obtain ⟨hl1, hl2⟩ := B.own.lt bo rfl
  have hu : ∀ j, j < n → (upto n)[j]? = some (.int .i64 (j : Int)) := fun j hj => by simp [upto, List.getElem?_map, List.getElem?_range hj]
  have had : ∀ k, (⟨bo, 0, none⟩ : Addr).add k = ⟨bo, k, none⟩ := fun k => by unfold Addr.add; split <;> simp_all
  have R : Row1 (E (fV (n := n))) wr bo 0 (idn n) := by
    refine ⟨oneE _, fun j hj => ?_, hl2⟩
    rw [size_idn] at hj
    have hc := B.own.cells (g := bo) rfl j _ (hu j hj)
    rw [had] at hc
    have hd : (idn n)[j]! = ⟨j, hj⟩ := by
      rw [getElem!_pos (idn n) j (by rw [size_idn]; exact hj)]
      simp [idn]
    rw [Nat.zero_add, hd]
    refine ⟨hc, ?_⟩
    rcases B.own.2 with ⟨e, _⟩ | ⟨g', cap, cur, e, _, hh, _⟩
    · cases e
    · injection e with e
      injection e with e
      injection e with e
      subst e
      exact blk_free hh j
  refine sortStable_s fV (cfB xs) 47 _ bo 0 co (idn n) wr (fun args w => by kernel_rfl) ?_ R n wr (size_idn n) (SW.start R.hH) (by omega)
  intro m os dk hs x y
  obtain ⟨b, off, e, hc⟩ := (ha.below B.bel) (by omega)
  subst e
  have S : SW (E (fV (n := n))) wr bo 0 dk (sortWorld (E (fV (n := n))) wr bo 0 m dk os) := ⟨m, os, rfl⟩
  have hbox := (sw_other S (World.block_lt_of_cell? _ _ B.box) (by simp; omega)).trans B.box
  obtain ⟨b2, off2, e2, hc2⟩ := ha (by omega)
  injection e2 with e2
  injection e2 with e2 e3
  subst e2 e3
  have hbl : b < w.heap.size := World.block_lt_of_cell? w _ (hc2 0 (by omega)).1
  have hne : b ≠ bo := by omega
  have cx := hc x.val (by omega)
  have cy := hc y.val (by omega)
  have hx := (sw_other S (World.block_lt_of_cell? _ _ cx.1) hne).trans cx.1
  have hy := (sw_other S (World.block_lt_of_cell? _ _ cy.1) hne).trans cy.1
  refine (less_any w.heap.size b off n c (fV x) (fV y) (bgn xs x.val) (bgn xs y.val) _ (by unfold fV; omega) (by unfold fV; omega) (by unfold fV; omega) (by unfold fV; omega) (by omega) hbox ?_ ?_).mono ?_
  · rw [show (fV x).toNat = x.val by unfold fV; omega]; exact hx
  · rw [show (fV y).toNat = y.val by unfold fV; omega]; exact hy
  · rintro e w' ⟨rfl, q, rfl⟩
    exact ⟨rfl, q, #[], by rw [grow_empty]⟩

/-- The order that the sort leaves. -/
def ordOf (xs : List (Int × Int)) (n : Nat) [Inhabited (Fin n)] (i : Nat) : Nat := ((stable (ltOf (cfB xs (n := n))) (idn n))[i]!).val
theorem size_stable {α : Type} [Inhabited α] {lt : α → α → Bool} (hS : SWO lt) (d : Array α) : (stable lt d).size = d.size := by
  have := congrArg List.length (stable_eq hS d)
  rw [List.length_mergeSort] at this
  simpa using this
theorem onOk (xs : List (Int × Int)) (n : Nat) [Inhabited (Fin n)] (hn : n = xs.length) : OnOk xs (ordOf xs n) := by
  have hS := swo_cfB xs n
  have hz : (stable (ltOf (cfB xs (n := n))) (idn n)).size = n := by rw [size_stable hS, size_idn]
  have hl : (List.range n).map (ordOf xs n) = (stable (ltOf (cfB xs (n := n))) (idn n)).toList.map Fin.val := by
    refine List.ext_getElem (by simp [hz]) fun i h1 h2 => ?_
    have hi : i < n := by simpa using h1
    simp only [List.getElem_map, List.getElem_range, ordOf, Array.getElem_toList]
    rw [getElem!_pos _ i (by rw [hz]; exact hi)]
  have hid : (idn n).toList.map Fin.val = List.range n := by
    refine List.ext_getElem (by simp [size_idn]) fun i h1 h2 => ?_
    simp [idn]
  refine ⟨fun i hi => by rw [← hn]; exact (Fin.isLt _), ?_, fun i j hij hj => ?_⟩
  · rw [← hn, hl, stable_eq hS, ← hid]
    exact (List.mergeSort_perm _ _).map _
  · have hp : ((stable (ltOf (cfB xs (n := n))) (idn n)).toList).Pairwise fun x y => (!ltOf (cfB xs) y x) = true := by
      rw [stable_eq hS]
      refine List.pairwise_mergeSort (fun a b c h1 h2 => ?_) (fun a b => ?_) _
      · simp only [Bool.not_eq_true'] at h1 h2 ⊢
        exact hS.ntrans _ _ _ h2 h1
      · cases h : ltOf (cfB xs) b a with
        | false => simp
        | true => simp [hS.asymmA h]
    rw [List.pairwise_iff_getElem] at hp
    have := hp i j (by simp [hz]; omega) (by simp [hz]; omega) hij
    simp only [Array.getElem_toList, Bool.not_eq_true'] at this
    unfold ordOf
    rw [getElem!_pos _ i (by rw [hz]; omega), getElem!_pos _ j (by rw [hz]; omega)]
    rw [ltB, decide_eq_false_iff_not] at this
    omega

/-- An index in memory. -/
def Idx (w : World) (p : Nat) (xs : List (Int × Int)) : Prop := ∃ (As Ao Ae : Option Addr) (cs co ce : Nat) (on : Nat → Nat) (E : Array Int),
  w.cell? ⟨p, 0, none⟩ = some (.slice As xs.length cs) ∧ w.cell? ⟨p, 1, none⟩ = some (.slice Ao xs.length co) ∧ w.cell? ⟨p, 2, none⟩ = some (.slice Ae xs.length ce) ∧
  (0 < xs.length → ∃ bs bo be, As = some ⟨bs, 0, none⟩ ∧ Ao = some ⟨bo, 0, none⟩ ∧ Ae = some ⟨be, 0, none⟩ ∧
    (∀ j, j < xs.length → w.cell? ⟨bs, j * 2, none⟩ = some (.int .i64 (bgn xs j)) ∧ w.cell? ⟨bs, j * 2 + 1, none⟩ = some (.int .i64 (enn xs j))) ∧
    (∀ j, j < xs.length → w.cell? ⟨bo, j, none⟩ = some (.int .i64 (on j))) ∧ ∀ j, j < xs.length → w.cell? ⟨be, j, none⟩ = some (.int .i64 E[j]!)) ∧
  OnOk xs on ∧ Good (fun i => enn xs (on i)) E 0 xs.length
theorem Idx.below {w w1 : World} {p : Nat} {xs : List (Int × Int)} (h : Idx w p xs) (hb : Below w.heap.size w w1) : Idx w1 p xs := by
  obtain ⟨As, Ao, Ae, cs, co, ce, on, E, k0, k1, k2, hr, h1, h2⟩ := h
  have tr : ∀ {a : Addr} {v : Value}, w.cell? a = some v → w1.cell? a = some v := fun {a v} hc => (hb.cell (World.block_lt_of_cell? w _ hc)).trans hc
  refine ⟨As, Ao, Ae, cs, co, ce, on, E, tr k0, tr k1, tr k2, fun h0 => ?_, h1, h2⟩
  obtain ⟨bs, bo, be, e1, e2, e3, c1, c2, c3⟩ := hr h0
  exact ⟨bs, bo, be, e1, e2, e3, fun j hj => ⟨tr (c1 j hj).1, tr (c1 j hj).2⟩, fun j hj => tr (c2 j hj), fun j hj => tr (c3 j hj)⟩

theorem madeCells_get (z : Value) (n j : Nat) (hj : j < n) : (madeCells #[z] n)[j]? = some z := by
  unfold madeCells
  rw [Array.getElem?_map, Array.getElem?_range, if_pos hj]
  simp [Nat.mod_one]

/-- grow behind the sort. -/
theorem grow_call (n : Nat) [Inhabited (Fin n)] (A : Option Addr) (c : Nat) (xs : List (Int × Int)) (w wr w2 : World) (g : Nat) (As : Option Addr) (cs ge : Nat) (bo co : Nat) (hn : n = xs.length) (hn0 : 0 < n) (hm : n ≤ 4096)
    (hv : xs.all okV = true) (he : xs.all okE = true)
    (B : B10 w wr A n c xs g As cs ge (some ⟨bo, 0, none⟩) co n) (S : SW (E (fV (n := n))) wr bo 0 (stable (ltOf (cfB xs)) (idn n)) w2) :
    Below w.heap.size w w2 ∧ w2.cell? ⟨w.heap.size, 0, none⟩ = some (.slice A n c) ∧
    Calls Try.prog 49 #[.pointer (some ⟨g, 0, none⟩), .int .i64 0, .int .i64 n] w2 fun e w' => (∃ r, e = .returned (.int .i64 r)) ∧ Idx w' g xs ∧ Below w.heap.size w w' := by
  have hS := swo_cfB xs n
  have hz : (stable (ltOf (cfB xs (n := n))) (idn n)).size = n := by rw [size_stable hS, size_idn]
  obtain ⟨hl1, hl2⟩ := B.own.lt bo rfl
  have hbel : Below w.heap.size w w2 := B.bel.grown (sw_grown S) B.bel.size (fun k hk => by injection hk with hk; omega)
  have hbox : w2.cell? ⟨w.heap.size, 0, none⟩ = some (.slice A n c) := (sw_other S (World.block_lt_of_cell? _ _ B.box) (by simp; omega)).trans B.box
  refine ⟨hbel, hbox, ?_⟩
  have hgl := blk_lt B.ix
  have hel := blk_lt B.ends
  have hgbo : g ≠ bo := fun e => own_ne B.own B.ix (by decide) (by rw [e]; rfl)
  have hebo : ge ≠ bo := fun e => B.ne (by rw [e]; rfl)
  have hge : g ≠ ge := by
    intro e
    have h1 := B.ix
    rw [e, B.ends] at h1
    injection h1 with h1
    injection h1 with _ h1
    exact absurd h1 (by decide)
  have ix2 : w2.heap[g]? = _ := (sw_block S g hgl hgbo).trans B.ix
  have en2 : w2.heap[ge]? = _ := (sw_block S ge hel hebo).trans B.ends
  have sp2 := B.spans.kept (sw_grown S) (own_types_ne B.spans B.own (by decide))
  obtain ⟨gs, caps, hAs, hgs1, hgs2⟩ := sp2.form hn0
  injection hAs with hAs
  subst hAs
  obtain ⟨_, hrs⟩ := own_rdS sp2
  obtain ⟨bs, off, e1, hc⟩ := hrs (by omega)
  injection e1 with e1
  injection e1 with e1 e2
  subst e1 e2
  have hok := onOk xs n hn
  have hos : gs ≠ ge := fun e => own_ne sp2 en2 (by decide) (by rw [e]; rfl)
  have had : ∀ k, (⟨bo, 0, none⟩ : Addr).add k = ⟨bo, k, none⟩ := fun k => by unfold Addr.add; split <;> simp_all
  have hd0 : (idn n).size = n := size_idn n
  -- the row of the order, sorted
  have hH : Holds (E (fV (n := n))) w2 bo 0 (stable (ltOf (cfB xs)) (idn n)) := by
    refine S.holds hl2 (d0 := idn n) ?_ (by rw [hz, hd0])
    intro j hj
    rw [size_idn] at hj
    have hu : (upto n)[j]? = some (.int .i64 (j : Int)) := by simp [upto, List.getElem?_map, List.getElem?_range hj]
    have hc := B.own.cells (g := bo) rfl j _ hu
    rw [had] at hc
    have hd : (idn n)[j]! = ⟨j, hj⟩ := by
      rw [getElem!_pos (idn n) j (by rw [size_idn]; exact hj)]
      simp [idn]
    rw [Nat.zero_add, hd]
    refine ⟨hc, ?_⟩
    rcases B.own.2 with ⟨e, _⟩ | ⟨g', cap, cur, e, _, hh, _⟩
    · cases e
    · injection e with e
      injection e with e
      injection e with e
      subst e
      exact blk_free hh j
  have ko : ∀ i, i < n → w2.cell? ⟨bo, i, none⟩ = some (.int .i64 (ordOf xs n i : Nat)) := by
    intro i hi
    have := (hH i (by rw [hz]; exact hi)).1
    rw [Nat.zero_add] at this
    exact this
  have R : Row1 EI w2 ge 0 (Array.replicate n 0) := by
    refine ⟨oneE _, fun j hj => ?_, blk_lt en2⟩
    have hj' : j < n := by simpa using hj
    refine ⟨?_, blk_free en2 _⟩
    rw [blk_cell en2, Nat.zero_add, madeCells_get _ _ _ hj', getElem!_pos (Array.replicate n (0 : Int)) j hj]
    simp [EI, E]
  have hall : ∀ j, j < n → 0 ≤ enn xs j ∧ enn xs j ≤ 2147483647 := by
    intro j hj
    have h1 := all_get (0, 0) hv (show j < xs.length by omega)
    have h2 := all_get (0, 0) he (show j < xs.length by omega)
    have h1' := of_decide_eq_true h1
    have h2' := of_decide_eq_true h2
    exact ⟨by unfold enn; omega, h2'⟩
  have k0 : w2.cell? ⟨g, 0, none⟩ = some (.slice (some ⟨gs, 0, none⟩) n cs) := by rw [blk_cell ix2]; rfl
  have k1 : w2.cell? ⟨g, 1, none⟩ = some (.slice (some ⟨bo, 0, none⟩) n co) := by rw [blk_cell ix2]; rfl
  have k2 : w2.cell? ⟨g, 2, none⟩ = some (.slice (some ⟨ge, 0, none⟩) n n) := by rw [blk_cell ix2]; rfl
  have hc' : ∀ j, j < n → w2.cell? ⟨gs, j * 2, none⟩ = some (.int .i64 (bgn xs j)) ∧ w2.cell? ⟨gs, j * 2 + 1, none⟩ = some (.int .i64 (enn xs j)) := fun j hj => by
    have := hc j (by omega)
    rw [Nat.zero_add] at this
    exact this
  have C := grow_s g gs bo ge n cs co n (ordOf xs n) (enn xs) (Array.replicate n 0) w2 R (by simp) (by omega) k0 k1 k2 ko (fun i hi => by have := hok.lt i (by omega); omega) (fun j hj => (hc' j hj).2) hall hge (Ne.symm hebo) hos
    n 0 n (Array.replicate n 0) w2 (by simp) (SW.start R.hH) (by omega) (Nat.le_refl _) (by omega)
  refine C.mono ?_
  rintro e w' ⟨r, d', rfl, G, S'⟩
  refine ⟨⟨r, rfl⟩, ?_, hbel.grown (sw_grown S') hbel.size (fun k hk => by injection hk with hk; have := B.ge1; omega)⟩
  have tr : ∀ {a : Addr} {v : Value}, w2.cell? a = some v → a.block ≠ ge → w'.cell? a = some v := fun {a v} hc hne => (sw_other S' (World.block_lt_of_cell? _ _ hc) hne).trans hc
  have hd' : d'.size = n := by rw [G.size]; simp
  refine ⟨some ⟨gs, 0, none⟩, some ⟨bo, 0, none⟩, some ⟨ge, 0, none⟩, cs, co, n, ordOf xs n, d', ?_, ?_, ?_, fun _ => ⟨gs, bo, ge, rfl, rfl, rfl, ?_, ?_, ?_⟩, hok, ?_⟩
  · rw [← hn]; exact tr k0 hge
  · rw [← hn]; exact tr k1 hge
  · rw [← hn]; exact tr k2 hge
  · intro j hj
    exact ⟨tr (hc' j (by omega)).1 hos, tr (hc' j (by omega)).2 hos⟩
  · intro j hj
    exact tr (ko j (by omega)) (Ne.symm hebo)
  · intro j hj
    have := (S'.holds R.hblk R.hH (by rw [hd']; simp) j (by rw [hd']; omega)).1
    rw [Nat.zero_add] at this
    exact this
  · rw [← hn]
    exact G.good
end Go.Proofs.Ytlpdligkjihkeaa.Tb
