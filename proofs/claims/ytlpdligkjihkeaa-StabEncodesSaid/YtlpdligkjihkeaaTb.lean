/- SameInts, walked; readings of slices. -/
import Derived.Test.YtlpdligkjihkeaaTa
set_option linter.unusedVariables false
set_option linter.unusedSimpArgs false
namespace Go.Proofs.Ytlpdligkjihkeaa.Tb
open Go.RowKit

/-- A slice of ints reads as xs. -/
def RdI (w : World) (A : Option Addr) (xs : List Int) : Prop := 0 < xs.length → ∃ b off, A = some ⟨b, off, none⟩ ∧ ∀ j, j < xs.length → w.cell? ⟨b, off + j, none⟩ = some (.int .i64 (xs.getD j 0))
theorem RdI.below {w w1 : World} {A : Option Addr} {xs : List Int} (h : RdI w A xs) (hb : Below w.heap.size w w1) : RdI w1 A xs := by
  intro h0
  obtain ⟨b, off, e, hc⟩ := h h0
  refine ⟨b, off, e, fun j hj => ?_⟩
  have hj' := hc j hj
  exact (hb.cell (World.block_lt_of_cell? w _ hj')).trans hj'

def sameB (xs ys : List Int) : Bool := decide (xs = ys)
theorem sameB_t {xs ys : List Int} (h : xs = ys) : sameB xs ys = true := decide_eq_true h
theorem sameB_f {xs ys : List Int} (h : ¬ xs = ys) : sameB xs ys = false := decide_eq_false h
theorem ret_bool {a b : Bool} (h : b = a) : Ending.returned (.bool a) = Ending.returned (.bool b) := by rw [h]
theorem ret_int {k : IntKind} {a b : Int} (h : a = b) : Ending.returned (.int k a) = Ending.returned (.int k b) := by rw [h]
theorem same_step {xs ys : List Int} (i : Nat) (hl : xs.length = ys.length) (hi : i < xs.length) (h : xs.take i = ys.take i) (e : xs.getD i 0 = ys.getD i 0) : xs.take (i + 1) = ys.take (i + 1) := by
  rw [List.take_succ_eq_append_getElem hi, List.take_succ_eq_append_getElem (by omega), h]
  rw [List.getD_eq_getElem?_getD, List.getElem?_eq_getElem hi, List.getD_eq_getElem?_getD, List.getElem?_eq_getElem (by omega)] at e
  simp only [Option.getD_some] at e
  rw [e]

set_option maxHeartbeats 1600000 in
theorem SameInts_any (A B : Option Addr) (ca cb : Nat) (xs ys : List Int) (w : World) (ha : RdI w A xs) (hb : RdI w B ys) (hm : xs.length ≤ 1000000) (hm2 : ys.length ≤ 1000000) :
    Calls Try.prog 13 #[.slice A xs.length ca, .slice B ys.length cb] w fun e w' => e = .returned (.bool (sameB xs ys)) ∧ Below w.heap.size w w' := by
  have HA := Lib.hid ha
  have HB := Lib.hid hb
  clear ha hb
  obtain ⟨n, hn⟩ : ∃ n, n = xs.length := ⟨_, rfl⟩
  obtain ⟨m, hmm⟩ : ∃ n, n = ys.length := ⟨_, rfl⟩
  rw [← hn, ← hmm]
  rw [← hn] at hm
  rw [← hmm] at hm2
  have HN := Lib.hid hn
  have HM := Lib.hid hmm
  clear hn hmm
  by_cases hnm : n = m
  · subst hnm
    have t1 : ((n : Int) != n) = false := by simp
    go_enter Try.func13, Try.ntmps13
    go_wp2
    go_loopw [13] (fun s wr => ∃ i : Nat, s = .int .i64 i ∧ i ≤ n ∧ Below w.heap.size w wr ∧ Hid (xs.take i = ys.take i)) (fun s _ => n - (intOf s).toNat)
    case atStart => exact ⟨0, rfl, by omega, Below.refl _ _, rfl⟩
    case round =>
      obtain ⟨i, rfl, hin, hbw, HT⟩ := hrel
      by_cases hlt : i < n
      · obtain ⟨b1, o1, e1, c1⟩ := (HA.out.below hbw) (by rw [← HN.out]; omega)
        obtain ⟨b2, o2, e2, c2⟩ := (HB.out.below hbw) (by rw [← HM.out]; omega)
        have c1' := c1 i (by rw [← HN.out]; exact hlt)
        have c2' := c2 i (by rw [← HM.out]; exact hlt)
        clear c1 c2
        obtain ⟨x, hx⟩ : ∃ x, x = xs.getD i 0 := ⟨_, rfl⟩
        obtain ⟨y, hy⟩ : ∃ x, x = ys.getD i 0 := ⟨_, rfl⟩
        rw [← hx] at c1'
        rw [← hy] at c2'
        have HX := Lib.hid hx
        have HY := Lib.hid hy
        clear hx hy
        subst e1 e2
        have g1 : (i : Int) < (n : Int) := by omega
        by_cases hxy : x = y
        · have t2 : (x != y) = false := by rw [hxy]; simp
          have HXY := Lib.hid hxy
          clear hxy
          go_wp2_with fail
          go_quiet (fail)
          have hbw2 := bdrewN hbw nq
          clear hbw
          generalize wr.drewN nq = w2 at hbw2 ⊢
          go_wp2
          go_roundw
          case measure => simp [intOf]; omega
          case rel => exact ⟨i + 1, by go_num, by omega, hbw2, same_step i (by rw [← HN.out, ← HM.out]) (by rw [← HN.out]; exact hlt) HT.out (by rw [← HX.out, ← HY.out]; exact HXY.out)⟩
        · have t2 : (x != y) = true := by rw [bne_iff_ne]; exact hxy
          have HXY := Lib.hid hxy
          clear hxy
          go_wp2_with fail
          go_quiet (fail)
          have hbw2 := bdrewN hbw nq
          clear hbw
          generalize wr.drewN nq = w2 at hbw2 ⊢
          go_wp2
          go_ret
          exact ⟨ret_bool (sameB_f fun h => HXY.out (by rw [HX.out, HY.out, h])), hbw2⟩
      · have g1 : ¬ (i : Int) < (n : Int) := by omega
        go_wp2
        go_ret
        refine ⟨ret_bool (sameB_t ?_), hbw⟩
        have := HT.out
        rwa [List.take_of_length_le (by rw [← HN.out]; omega), List.take_of_length_le (by rw [← HM.out]; omega)] at this
  · have t1 : ((n : Int) != m) = true := by rw [bne_iff_ne]; omega
    go_enter Try.func13, Try.ntmps13
    go_wp2
    go_ret
    exact ⟨ret_bool (sameB_f fun h => hnm (by rw [HN.out, HM.out, h])), Below.refl _ _⟩
end Go.Proofs.Ytlpdligkjihkeaa.Tb
