/- What lies in memory while an index is built. -/
import Derived.Test.YtlpdligkjihkeaaTf
import Derived.Test.YtlpdligkjihkeaaSz
import Derived.Deep.DeepCutAuto
import Derived.Deep.RegionHeld3
set_option linter.unusedVariables false
set_option linter.unusedSimpArgs false
namespace Go.Proofs.Ytlpdligkjihkeaa.Tb
open Go.RowKit Go.Shelf Go.Lib Go.Sort Go.Proofs.Ytlpdligkjihkeaa.Sw

theorem all_get {α : Type} {p : α → Bool} {xs : List α} (d : α) (h : xs.all p = true) {i : Nat} (hi : i < xs.length) : p (xs.getD i d) = true := by
  rw [List.getD_eq_getElem?_getD, List.getElem?_eq_getElem hi]
  rw [List.all_eq_true] at h
  exact h _ (List.getElem_mem hi)

theorem own_shape {w : World} {base n : Nat} {e : TypeId} {size : Nat} {v : Value} {xs : List Value} (h : w.ownsRow base e size v n xs) : ∃ A c, v = .slice A n c := by
  rcases h.2 with ⟨rfl, rfl⟩ | ⟨g, cap, cur, rfl, _⟩
  · exact ⟨none, 0, rfl⟩
  · exact ⟨_, cap, rfl⟩
theorem own_lower {w : World} {base base' n : Nat} {e : TypeId} {size : Nat} {v : Value} {xs : List Value} (h : w.ownsRow base e size v n xs) (hb : base' ≤ base) : w.ownsRow base' e size v n xs := by
  refine ⟨h.1, ?_⟩
  rcases h.2 with h2 | ⟨g, cap, cur, e1, e2, rest⟩
  · exact .inl h2
  · exact .inr ⟨g, cap, cur, e1, by omega, rest⟩
/-- Behind the statement that makes the index. -/
structure B9 (w wx : World) (A : Option Addr) (n c : Nat) (xs : List (Int × Int)) (g : Nat) (As : Option Addr) (cs ge : Nat) : Prop where
  bel : Below w.heap.size w wx
  box : wx.cell? ⟨w.heap.size, 0, none⟩ = some (.slice A n c)
  ix : wx.heap[g]? = some (.cells #[.slice As n cs, .slice none 0 0, .slice (some ⟨ge, 0, none⟩) n n] 53 (0, 0))
  spans : wx.ownsRow w.heap.size 35 2 (.slice As n cs) n (cellsS xs)
  ends : wx.heap[ge]? = some (.cells (madeCells #[.int .i64 0] n) 3 (0, 0))
  ge1 : w.heap.size < ge
  g1 : w.heap.size < g

def upto (i : Nat) : List Value := (List.range i).map fun (k : Nat) => .int .i64 (k : Int)
theorem upto_succ (i : Nat) : upto (i + 1) = upto i ++ [.int .i64 (i : Int)] := by simp [upto, List.range_succ]
/-- While the numbers are collected. -/
structure B10 (w wx : World) (A : Option Addr) (n c : Nat) (xs : List (Int × Int)) (g : Nat) (As : Option Addr) (cs ge : Nat) (Ao : Option Addr) (co i : Nat) : Prop where
  bel : Below w.heap.size w wx
  box : wx.cell? ⟨w.heap.size, 0, none⟩ = some (.slice A n c)
  ix : wx.heap[g]? = some (.cells #[.slice As n cs, .slice Ao i co, .slice (some ⟨ge, 0, none⟩) n n] 53 (0, 0))
  spans : wx.ownsRow w.heap.size 35 2 (.slice As n cs) n (cellsS xs)
  ends : wx.heap[ge]? = some (.cells (madeCells #[.int .i64 0] n) 3 (0, 0))
  own : wx.ownsRow (w.heap.size + 1) 3 1 (.slice Ao i co) i (upto i)
  ne : (Value.slice Ao i co).ownBlock ≠ some ge
  nil0 : i = 0 → Ao = none ∧ co = 0
  ge1 : w.heap.size < ge
  g1 : w.heap.size < g
theorem blk_set {w : World} {g : Nat} {t : TypeId} {cs : Array Value} (h : w.heap[g]? = some (.cells cs t (0, 0))) (i : Nat) (u : Value) : (w.setCell ⟨g, i, none⟩ u).heap[g]? = some (.cells (cs.setIfInBounds i u) t (0, 0)) := by
  simp [World.setCell, Array.getElem?_modify, h]
theorem blk_cell {w : World} {g : Nat} {t : TypeId} {cs : Array Value} (h : w.heap[g]? = some (.cells cs t (0, 0))) (i : Nat) : w.cell? ⟨g, i, none⟩ = cs[i]? := cell_of_row w g i cs t (0, 0) h
theorem blk_free {w : World} {g : Nat} {t : TypeId} {cs : Array Value} (h : w.heap[g]? = some (.cells cs t (0, 0))) (i : Nat) : w.frozen? ⟨g, i, none⟩ = false := by simp [World.frozen?, h]
theorem blk_lt {w : World} {g : Nat} {o : Obj} (h : w.heap[g]? = some o) : g < w.heap.size := by
  rcases Nat.lt_or_ge g w.heap.size with h1 | h1
  · exact h1
  · rw [Array.getElem?_eq_none h1] at h; cases h
/-- A row's block is of the row's type. -/
theorem own_ne {w : World} {base n : Nat} {e : TypeId} {size : Nat} {v : Value} {xs : List Value} (h : w.ownsRow base e size v n xs) {g : Nat} {cs : Array Value} {t : TypeId} {fr : Nat × Nat} (hg : w.heap[g]? = some (.cells cs t fr)) (hne : e ≠ t) : v.ownBlock ≠ some g := by
  rcases h.2 with ⟨rfl, _⟩ | ⟨g', cap, cur, rfl, _, hh, _⟩
  · simp [Value.ownBlock]
  · intro he
    have : g' = g := by simpa [Value.ownBlock] using he
    subst this
    rw [hh] at hg
    injection hg with hg
    injection hg with _ ht
    exact hne ht

theorem grown_set (w : World) (p : Addr) (u : Value) : w.grownBy (w.setCell p u) (some p.block) :=
  ⟨rfl, rfl, rfl, by simp [World.setCell], fun k _ hne => Below.heap_setCell _ _ _ _ (fun e => hne (by rw [e]))⟩
theorem own_types_ne {w : World} {b b' : Nat} {e e' : TypeId} {s s' n n' : Nat} {v v' : Value} {xs xs' : List Value} (h : w.ownsRow b e s v n xs) (h' : w.ownsRow b' e' s' v' n' xs') (hne : e ≠ e') : v.ownBlock = none ∨ v.ownBlock ≠ v'.ownBlock := by
  rcases h'.2 with ⟨rfl, _⟩ | ⟨g, cap, cur, rfl, _, hh, _⟩
  · rcases h.2 with ⟨rfl, _⟩ | ⟨g', cap', cur', rfl, _, hh', _⟩
    · exact .inl rfl
    · exact .inr (by simp [Value.ownBlock])
  · exact .inr (own_ne h hh hne)
theorem B10.grown {w wr w1 : World} {A : Option Addr} {n c : Nat} {xs : List (Int × Int)} {g : Nat} {As : Option Addr} {cs ge : Nat} {Ao : Option Addr} {co i : Nat} (B : B10 w wr A n c xs g As cs ge Ao co i) {o : Obj}
    (hg : (wr.alloc o).grownBy w1 (Value.slice Ao i co).ownBlock) : w1.heap[g]? = wr.heap[g]? := by
  have hl := blk_lt B.ix
  rw [hg.block g (by simp; omega) (Ne.symm (own_ne B.own B.ix (by decide)))]
  exact heap_alloc_old _ _ hl
theorem B10.step {w wr w1 : World} {A : Option Addr} {n c : Nat} {xs : List (Int × Int)} {g : Nat} {As : Option Addr} {cs ge : Nat} {Ao : Option Addr} {co i g' cap : Nat} (B : B10 w wr A n c xs g As cs ge Ao co i) {o : Obj}
    (own1 : w1.ownsRow (w.heap.size + 1) 3 1 (.slice (some ⟨g', 0, none⟩) (i + 1) cap) (i + 1) (upto i ++ [.int .i64 (i : Int)]))
    (hg : (wr.alloc o).grownBy w1 (Value.slice Ao i co).ownBlock) (hat : (Value.slice Ao i co).ownBlock = some g' ∨ g' = wr.heap.size + 1) :
    B10 w (w1.setCell ⟨g, 1, none⟩ (.slice (some ⟨g', 0, none⟩) (i + 1) cap)) A n c xs g As cs ge (some ⟨g', 0, none⟩) cap (i + 1) := by
  have hix := (B.grown hg).trans B.ix
  have hgl := blk_lt B.ix
  have hel := blk_lt B.ends
  have hsz := B.bel.size
  have hbl := B.own.lt
  have hge : g ≠ ge := by
    intro e
    have h1 := B.ix
    rw [e, B.ends] at h1
    injection h1 with h1
    injection h1 with _ h1
    exact absurd h1 (by decide)
  have hbox := World.block_lt_of_cell? _ _ B.box
  have hends : w1.heap[ge]? = some (.cells (madeCells #[.int .i64 0] n) 3 (0, 0)) := by
    rw [hg.block ge (by simp; omega) (Ne.symm B.ne)]
    exact (heap_alloc_old _ _ hel).trans B.ends
  have hsp : w1.ownsRow w.heap.size 35 2 (.slice As n cs) n (cellsS xs) := (B.spans.alloc o).kept hg (own_types_ne B.spans B.own (by decide))
  refine ⟨?_, ?_, ?_, ?_, ?_, ?_, ?_, fun h => by omega, B.ge1, B.g1⟩
  · exact ((B.bel.alloc hsz o).grown hg (by simp; omega) (fun k hk => by have := (hbl k hk).1; omega)).setCell (p := ⟨g, 1, none⟩) (by have := B.g1; simp; omega) _
  · rw [World.cell?_setCell_other _ _ _ _ (by intro e; simp only [Addr.mk.injEq] at e; have := B.g1; omega)]
    have : w1.heap[w.heap.size]? = (wr.alloc o).heap[w.heap.size]? := hg.block _ (by simp; simp at hbox; omega) (by
      intro e
      have := (hbl _ e.symm).1
      omega)
    rw [World.cell?_of_block (a := ⟨w.heap.size, 0, none⟩) this, World.cell?_alloc_lt _ _ _ hbox]
    exact B.box
  · exact blk_set hix 1 _
  · exact hsp.kept (grown_set w1 ⟨g, 1, none⟩ _) (.inr (own_ne hsp hix (by decide)))
  · rw [Below.heap_setCell _ _ _ _ (Ne.symm hge)]
    exact hends
  · have h1 := own1.kept (grown_set w1 ⟨g, 1, none⟩ (.slice (some ⟨g', 0, none⟩) (i + 1) cap)) (.inr (own_ne own1 hix (by decide)))
    rw [upto_succ]
    exact h1
  · intro e
    have e' : g' = ge := by simpa [Value.ownBlock] using e
    rcases hat with h | h
    · exact B.ne (by rw [h, e'])
    · omega

end Go.Proofs.Ytlpdligkjihkeaa.Tb
