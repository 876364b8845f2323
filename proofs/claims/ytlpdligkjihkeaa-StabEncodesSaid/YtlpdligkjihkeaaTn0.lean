/- What find's loop keeps, and what its sort leaves. -/
import Derived.Test.YtlpdligkjihkeaaTm
import Derived.Test.YtlpdligkjihkeaaSh
import Derived.RangeFuncBox
import Derived.RangeFuncNested
import Derived.Maps.AppendAt
import Derived.LoopIn
import Derived.LoopNIn
import Derived.Sort.OwnSortedInts
set_option linter.unusedVariables false
set_option linter.unusedSimpArgs false
namespace Go.Proofs.Ytlpdligkjihkeaa.Tb
open Go.RowKit Go.Shelf Go.Sort

theorem own_below {B : Nat} {e : TypeId} {k : Nat} {v : Value} {n : Nat} {xs : List Value} {w w' : World} (h : w.ownsRow B e k v n xs) (hb : Below w.heap.size w w') : w'.ownsRow B e k v n xs :=
  h.kept (row := none) ⟨hb.os, hb.tape, hb.output, hb.size, fun j hj _ => hb.block j hj⟩ (by cases hv : v.ownBlock <;> simp)
theorem boxed_below {B : Nat} {t : TypeId} {v : Value} {w w' : World} (h : Boxed w B t v) (hb : Below w.heap.size w w') : Boxed w' B t v := (hb.block B h.lt).trans h
theorem keeps_below {w w' : World} (hb : Below w.heap.size w w') : KeepsOthers w w' := ⟨hb.size, fun k o hk _ => (hb.block k (blk_lt hk)).trans hk⟩
theorem kp_below {n₀ : Nat} {w w' : World} (hn : n₀ ≤ w.heap.size) (hb : Below w.heap.size w w') : Kp n₀ w w' := ⟨hb.mono hn, fun k cs fr hk => (hb.block k (blk_lt hk)).trans hk⟩

/-- An append keeps the boxes of spans. -/
theorem kp_append {n₀ B : Nat} {w w1 : World} {v v' : Value} {k : Nat} {xs : List Value} {tmp : Obj} (hv : Boxed w B 30 v) (hrow : w.ownsRow n₀ 3 1 v k xs) (hgrow : (w.alloc tmp).grownBy w1 v.ownBlock)
    (hb : Below n₀ w (w1.setCell ⟨B, 0, none⟩ v')) : Kp n₀ w (w1.setCell ⟨B, 0, none⟩ v') := by
  refine ⟨hb, fun k cs fr hk => ?_⟩
  have hkb : k ≠ B := fun e => by subst e; have := hv.symm.trans hk; injection this with this; injection this with _ ht; exact absurd ht (by decide)
  have h1 : (w.alloc tmp).heap[k]? = some (.cells cs 35 fr) := (heap_alloc_old _ _ (blk_lt hk)).trans hk
  have h2 : w1.heap[k]? = some (.cells cs 35 fr) := (hgrow.block k (blk_lt h1) (fun e => own_ne hrow hk (by decide) e.symm)).trans h1
  exact (Below.heap_setCell _ _ _ _ (fun e => hkb e)).trans h2

theorem kp_put {n₀ : Nat} {w : World} (hn : n₀ ≤ w.heap.size) (W : World) (l : Nat) (o o' : Obj) (hl : w.heap.size ≤ l) (h : W.heap[l]? = some o) (ho : o.isCells = false) (hw : o.isWalk = false) : Kp n₀ W (W.putObj l o') := by
  refine ⟨belowK_b hn W l o o' hl h ho hw, fun k cs fr hk => ?_⟩
  have hne : k ≠ l := fun e => by subst e; rw [h] at hk; injection hk with hk; subst hk; cases ho
  exact (World.putObj_heap_other hne).trans hk

/-- What slices.Sort leaves of a list that the call owns. -/
theorem sort_own {B : Nat} {v : Value} {zs : List Int} {w : World} (h : w.ownsRow B 3 1 v zs.length (zs.map (Value.int .i64))) (hm : zs.length ≤ 1000000) :
    Calls Try.prog 52 #[v] w fun e w' => e = .returned (.tuple #[]) ∧ w'.ownsRow B 3 1 v zs.length ((zs.mergeSort fun x y => decide (x ≤ y)).map (Value.int .i64)) ∧ w.grownBy w' v.ownBlock := by
  rcases h.2 with ⟨rfl, h0⟩ | ⟨g, cap, cur, rfl, hB, hg, hc1, hc2, hc3, ht⟩
  · have hz : zs = [] := List.eq_nil_of_length_eq_zero h0
    subst hz
    refine (Try.slices_Sort_int_none none 0 w).mono ?_
    rintro e w' ⟨rfl, rfl⟩
    exact ⟨rfl, by simpa using h, ⟨rfl, rfl, rfl, Nat.le_refl _, fun _ _ _ => rfl⟩⟩
  · rw [Nat.mul_one] at ht
    refine (Try.slices_Sort_int g 0 cap zs w (holds_of_blockI hg ht) (blk_lt hg) (by omega)).mono ?_
    rintro e w' ⟨rfl, n, os, rfl⟩
    have hl : (zs.mergeSort fun x y => decide (x ≤ y)).length = zs.length := List.length_mergeSort _
    exact ⟨rfl, ownsRow_sortedI hl hB hg hc1 hc2 hc3, grownBy_sortedI _⟩
theorem own_rdI {B : Nat} {v : Value} {zs : List Int} {w : World} (h : w.ownsRow B 3 1 v zs.length (zs.map (Value.int .i64))) : ∃ A c, v = .slice A zs.length c ∧ RdI w A zs := by
  rcases h.2 with ⟨rfl, h0⟩ | ⟨g, cap, cur, rfl, hB, hg, hc1, hc2, hc3, ht⟩
  · rw [h0]
    exact ⟨none, 0, rfl, fun h => by omega⟩
  · refine ⟨_, _, rfl, fun h0 => ⟨g, 0, rfl, fun j hj => ?_⟩⟩
    have := (holds_of_blockI hg (by rwa [Nat.mul_one] at ht) j (by simpa using hj)).1
    rw [this]
    simp [List.getD_eq_getElem?_getD, hj]
theorem grow_bel {B : Nat} {v : Value} {n : Nat} {xs : List Value} {w w' : World} {t : TypeId} {k : Nat} (h : w.ownsRow B t k v n xs) (hB : B ≤ w.heap.size) (hg : w.grownBy w' v.ownBlock) : Below B w w' := by
  refine (Below.refl B w).grown hg hB fun j ej => ?_
  rcases h.2 with ⟨rfl, _⟩ | ⟨g, cap, cur, rfl, hb, _, _⟩
  · simp [Value.ownBlock] at ej
  · obtain rfl : g = j := by simpa [Value.ownBlock] using ej
    exact hb
end Go.Proofs.Ytlpdligkjihkeaa.Tb
