/- slices.Clone at []api.Span, walked. -/
import Derived.Test.YtlpdligkjihkeaaTe
import Derived.Laws.OwnMore
import Derived.Deep.AppendLies
import Derived.Deep.OwnRows
import Derived.Laws.MakeOwn
import Derived.WalkSpells
set_option linter.unusedVariables false
set_option linter.unusedSimpArgs false
namespace Go.Proofs.Ytlpdligkjihkeaa.Tb
open Go.RowKit

theorem infoS : (Try.prog.info? 35).map (fun i => (i.zero, i.size, i.bytes)) = some (some (.agg #[.int .i64 0, .int .i64 0]), 2, 16) := by kernel_rfl
theorem infoI : (Try.prog.info? 3).map (fun i => (i.zero, i.size, i.bytes)) = some (some (.int .i64 0), 1, 8) := by kernel_rfl

/-- the cells of spans -/
def cellsS : List (Int × Int) → List Value
  | [] => []
  | x :: xs => .int .i64 x.1 :: .int .i64 x.2 :: cellsS xs
theorem cellsS_length (xs : List (Int × Int)) : (cellsS xs).length = xs.length * 2 := by
  induction xs with
  | nil => rfl
  | cons x xs ih => simp only [cellsS, List.length_cons, ih]; omega
theorem cellsS_get (xs : List (Int × Int)) : ∀ j, j < xs.length → (cellsS xs)[j * 2]? = some (.int .i64 (xs.getD j (0, 0)).1) ∧ (cellsS xs)[j * 2 + 1]? = some (.int .i64 (xs.getD j (0, 0)).2) := by
  induction xs with
  | nil => intro j hj; simp at hj
  | cons x xs ih =>
    intro j hj
    cases j with
    | zero => exact ⟨rfl, rfl⟩
    | succ j =>
      obtain ⟨h1, h2⟩ := ih j (by simpa using hj)
      refine ⟨?_, ?_⟩
      · rw [show (j + 1) * 2 = j * 2 + 1 + 1 by omega]
        simpa [cellsS] using h1
      · rw [show (j + 1) * 2 + 1 = j * 2 + 1 + 1 + 1 by omega]
        simpa [cellsS] using h2
theorem cellsS_one (xs : List (Int × Int)) : ∀ u ∈ cellsS xs, u.oneCell' = true := by
  induction xs with
  | nil => intro u hu; simp [cellsS] at hu
  | cons x xs ih =>
    intro u hu
    simp only [cellsS, List.mem_cons] at hu
    rcases hu with rfl | rfl | hu
    · rfl
    · rfl
    · exact ih u hu
theorem rdS_cells {w : World} {b off : Nat} {xs : List (Int × Int)} (hc : ∀ j, j < xs.length → w.cell? ⟨b, off + j * 2, none⟩ = some (.int .i64 (xs.getD j (0, 0)).1) ∧ w.cell? ⟨b, off + j * 2 + 1, none⟩ = some (.int .i64 (xs.getD j (0, 0)).2)) :
    ∀ j u, (cellsS xs)[j]? = some u → w.cell? ((⟨b, off, none⟩ : Addr).add j) = some u := by
  intro j u hu
  have hl : j < (cellsS xs).length := by
    rcases Nat.lt_or_ge j (cellsS xs).length with h | h
    · exact h
    · rw [List.getElem?_eq_none h] at hu; cases hu
  rw [cellsS_length] at hl
  have ha : (⟨b, off, none⟩ : Addr).add j = ⟨b, off + j, none⟩ := by unfold Addr.add; split <;> simp_all
  rw [ha]
  have hg := cellsS_get xs (j / 2) (by omega)
  have hcc := hc (j / 2) (by omega)
  rcases Nat.mod_two_eq_zero_or_one j with h | h
  · have e : j / 2 * 2 = j := by omega
    rw [e] at hg hcc
    rw [hg.1] at hu
    rw [hcc.1]
    exact hu
  · have e : j / 2 * 2 + 1 = j := by omega
    rw [Nat.add_assoc, e] at hcc
    rw [e] at hg
    rw [hg.2] at hu
    rw [hcc.2]
    exact hu
theorem own_rdS {w : World} {base n : Nat} {A : Option Addr} {c : Nat} {xs : List (Int × Int)} (h : w.ownsRow base 35 2 (.slice A n c) n (cellsS xs)) : xs.length = n ∧ RdS w A xs := by
  have hl := h.1
  rw [cellsS_length] at hl
  have hn : xs.length = n := by omega
  refine ⟨hn, fun h0 => ?_⟩
  obtain ⟨g, cap, hv, _, _⟩ := h.form (by omega)
  injection hv with hA
  subst hA
  refine ⟨g, 0, rfl, fun j hj => ?_⟩
  obtain ⟨g1, g2⟩ := cellsS_get xs j hj
  have ha : ∀ k, (⟨g, 0, none⟩ : Addr).add k = ⟨g, k, none⟩ := fun k => by unfold Addr.add; split <;> simp_all
  have c1 := h.cells (g := g) rfl _ _ g1
  have c2 := h.cells (g := g) rfl _ _ g2
  rw [ha] at c1 c2
  exact ⟨by rw [Nat.zero_add]; exact c1, by rw [Nat.zero_add]; exact c2⟩

set_option maxHeartbeats 1600000 in
set_option maxRecDepth 100000 in
theorem Clone_any (A : Option Addr) (c : Nat) (xs : List (Int × Int)) (w : World) (ha : RdS w A xs) (hA : A = none → xs.length = 0 ∧ c = 0) (hm : xs.length ≤ 1000000) :
    Calls Try.prog 45 #[.slice A xs.length c] w fun e w' => ∃ v, e = .returned v ∧ w'.ownsRow w.heap.size 35 2 v xs.length (cellsS xs) ∧ Below w.heap.size w w' := by
  obtain ⟨i0, hi0, hz0, hz1, hz2⟩ := info_parts infoS
  cases A with
  | none =>
    obtain ⟨h1, h2⟩ := hA rfl
    have hxs : xs = [] := List.eq_nil_of_length_eq_zero h1
    subst hxs
    subst h2
    have hq : ∀ w1 : World, (binOp .eql 22 (.slice none 0 0) (.slice none 0 0)).run Try.prog w1 = .ok (.bool true) w1 := fun w1 => by
      rw [Lib.run_eql_slice_nil w1 _ _ none 0 0 0 0 Try.underlying22]
      rfl
    go_enter Try.func45, Try.ntmps45
    go_wp2
    go_ret
    exact ⟨_, rfl, World.ownsRow_nil _ _ _ _, Below.refl _ _⟩
  | some ad =>
    have hcells : ∀ j u, (cellsS xs)[j]? = some u → w.cell? (ad.add j) = some u := by
      intro j u hu
      by_cases h0 : 0 < xs.length
      · obtain ⟨b, off, e, hc⟩ := ha h0
        injection e with e
        subst e
        exact rdS_cells hc j u hu
      · have : xs = [] := List.eq_nil_of_length_eq_zero (by omega)
        subst this
        simp [cellsS] at hu
    have HC := Lib.hid hcells
    have hone := cellsS_one xs
    have hlen := cellsS_length xs
    obtain ⟨ys, hys⟩ : ∃ ys, ys = cellsS xs := ⟨_, rfl⟩
    rw [← hys] at HC hone hlen ⊢
    have HY := Lib.hid hys
    have HO := Lib.hid hone
    have HL := Lib.hid hlen
    obtain ⟨n, hn⟩ : ∃ n, n = xs.length := ⟨_, rfl⟩
    rw [← hn] at hm HL ⊢
    have HN := Lib.hid hn
    clear hcells hone hlen ha hA hys hn
    have hq : ∀ w1 : World, (binOp .eql 22 (.slice (some ad) n c) (.slice none 0 0)).run Try.prog w1 = .ok (.bool false) w1 := fun w1 => by
      rw [Lib.run_eql_slice_nil w1 _ _ (some ad) n c 0 0 Try.underlying22]
      rfl
    go_enter Try.func45, Try.ntmps45
    have hown : (w.alloc (.cells #[] 35)).ownsRow w.heap.size 35 2 (.slice (some ⟨w.heap.size, 0, none⟩) 0 0) 0 [] := World.ownsRow_made w #[] 0 (Nat.le_refl _) (by simp [maxLen]) rfl
    have hnews : ∀ j u, ys[j]? = some u → (w.alloc (.cells #[] 35)).cell? (ad.add j) = some u := fun j u hu => by
      have := HC.out j u hu
      rw [World.cell?_alloc_lt w _ _ (World.block_lt_of_cell? w _ this)]
      exact this
    have HW := Lib.hid hown
    have HN2 := Lib.hid hnews
    clear hown hnews
    have hbl := bel_alloc (Below.refl w.heap.size w) (.cells #[] 35)
    go_wp2_with (at_builtin; refine wpList_append_own _ rfl (.tmp 5) (.tmp 6) 22 rfl w.heap.size 35 i0 _ 2 16 Try.underlying22 hi0 hz0 hz1 hz2 rfl (by decide) _ 0 [] rfl HW.out ad n c ys rfl HL.out HN2.out HO.out (by simp only [maxLen]; omega) (by omega) (by simp) ?_; intro v1 w1 hown1 hgrow1 _)
    have hg' : (w.alloc (.cells #[] 35)).grownBy w1 (some w.heap.size) := hgrow1
    have hb1 : Below w.heap.size w w1 := hbl.grown hg' hbl.size (fun k hk => by injection hk with hk; omega)
    have H1 := Lib.hid hown1
    clear hown1 hgrow1 hg'
    go_wp2
    go_ret
    refine ⟨v1, rfl, ?_, hb1⟩
    have := H1.out
    rwa [Nat.zero_add, List.nil_append] at this
end Go.Proofs.Ytlpdligkjihkeaa.Tb
