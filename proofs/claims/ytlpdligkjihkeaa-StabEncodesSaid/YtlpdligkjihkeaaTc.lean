/- The references' checks of lists of spans, walked. -/
import Derived.Test.YtlpdligkjihkeaaTb
set_option linter.unusedVariables false
set_option linter.unusedSimpArgs false
namespace Go.Proofs.Ytlpdligkjihkeaa.Tb
open Go.RowKit

/-- A slice of spans reads as xs. -/
def RdS (w : World) (A : Option Addr) (xs : List (Int × Int)) : Prop := 0 < xs.length → ∃ b off, A = some ⟨b, off, none⟩ ∧ ∀ j, j < xs.length →
  w.cell? ⟨b, off + j * 2, none⟩ = some (.int .i64 (xs.getD j (0, 0)).1) ∧ w.cell? ⟨b, off + j * 2 + 1, none⟩ = some (.int .i64 (xs.getD j (0, 0)).2)
theorem RdS.below {w w1 : World} {A : Option Addr} {xs : List (Int × Int)} (h : RdS w A xs) (hb : Below w.heap.size w w1) : RdS w1 A xs := by
  intro h0
  obtain ⟨b, off, e, hc⟩ := h h0
  refine ⟨b, off, e, fun j hj => ?_⟩
  obtain ⟨c1, c2⟩ := hc j hj
  exact ⟨(hb.cell (World.block_lt_of_cell? w _ c1)).trans c1, (hb.cell (World.block_lt_of_cell? w _ c2)).trans c2⟩

def okV (x : Int × Int) : Bool := vld x.1 x.2
def okE (x : Int × Int) : Bool := decide (x.2 ≤ 2147483647)
def chk11 (xs : List (Int × Int)) : Int := if 4096 < xs.length then 2 else if xs.all okV = true then 0 else 8
def chk12 (xs : List (Int × Int)) : Int := if 4096 < xs.length then 2 else if xs.all okV = true ∧ xs.all okE = true then 0 else 8
theorem all_step {α : Type} (p : α → Bool) (xs : List α) (d : α) (i : Nat) (hi : i < xs.length) (h : (xs.take i).all p = true) (e : p (xs.getD i d) = true) : (xs.take (i + 1)).all p = true := by
  rw [List.take_succ_eq_append_getElem hi, List.all_append, h]
  rw [List.getD_eq_getElem?_getD, List.getElem?_eq_getElem hi] at e
  simpa using e
theorem all_not {α : Type} (p : α → Bool) (xs : List α) (d : α) (i : Nat) (hi : i < xs.length) (e : p (xs.getD i d) = false) : ¬ xs.all p = true := by
  rw [List.getD_eq_getElem?_getD, List.getElem?_eq_getElem hi] at e
  intro h
  rw [List.all_eq_true] at h
  have := h xs[i] (List.getElem_mem hi)
  simp only [Option.getD_some] at e
  rw [e] at this
  cases this

set_option maxHeartbeats 1600000 in
theorem Check11_any (A : Option Addr) (c : Nat) (xs : List (Int × Int)) (w : World) (ha : RdS w A xs) (hm : xs.length ≤ 1000000) :
    Calls Try.prog 50 #[.slice A xs.length c] w fun e w' => e = .returned (.int .i64 (chk11 xs)) ∧ Below w.heap.size w w' := by
  have HA := Lib.hid ha
  clear ha
  obtain ⟨n, hn⟩ : ∃ n, n = xs.length := ⟨_, rfl⟩
  rw [← hn]
  rw [← hn] at hm
  have HN := Lib.hid hn
  clear hn
  by_cases h4 : 4096 < n
  · have g : (4096 : Int) < (n : Int) := by omega
    go_enter Try.func50, Try.ntmps50
    go_wp2
    go_ret
    exact ⟨ret_int (by unfold chk11; rw [if_pos (by rw [← HN.out]; exact h4)]), Below.refl _ _⟩
  · have g : ¬ (4096 : Int) < (n : Int) := by omega
    go_enter Try.func50, Try.ntmps50
    go_wp2
    go_loopw [10] (fun s wr => ∃ i : Nat, s = .int .i64 i ∧ i ≤ n ∧ Below w.heap.size w wr ∧ Hid ((xs.take i).all okV = true)) (fun s _ => n - (intOf s).toNat)
    case atStart => exact ⟨0, rfl, by omega, Below.refl _ _, rfl⟩
    case round =>
      obtain ⟨i, rfl, hin, hbw, HT⟩ := hrel
      by_cases hlt : i < n
      · obtain ⟨b1, o1, e1, c1⟩ := (HA.out.below hbw) (by rw [← HN.out]; omega)
        obtain ⟨c1', c2'⟩ := c1 i (by rw [← HN.out]; exact hlt)
        clear c1
        obtain ⟨x, y, hx, hy⟩ : ∃ x y, x = (xs.getD i (0, 0)).1 ∧ y = (xs.getD i (0, 0)).2 := ⟨_, _, rfl, rfl⟩
        rw [← hx] at c1'
        rw [← hy] at c2'
        have HX := Lib.hid hx
        have HY := Lib.hid hy
        clear hx hy
        subst e1
        have g1 : (i : Int) < (n : Int) := by omega
        have hbA := hbw.alloc hbw.size (SB x y)
        clear hbw
        cases hv : vld x y with
        | true =>
          go_wp2_with fail
          refine (Valid_any x y _).mono ?_
          rintro e w2 ⟨rfl, hb2⟩
          have hbw2 := bel_trans hbA hb2
          clear hbA hb2
          go_wp2
          go_roundw
          case measure => simp [intOf]; omega
          case rel => exact ⟨i + 1, by go_num, by omega, hbw2, all_step okV xs (0, 0) i (by rw [← HN.out]; exact hlt) HT.out (by unfold okV; rw [← HX.out, ← HY.out]; exact hv)⟩
        | false =>
          have HV := Lib.hid hv
          go_wp2_with fail
          refine (Valid_any x y _).mono ?_
          rintro e w2 ⟨rfl, hb2⟩
          have hbw2 := bel_trans hbA hb2
          clear hbA hb2
          go_wp2
          go_ret
          refine ⟨ret_int ?_, hbw2⟩
          unfold chk11
          rw [if_neg (by rw [← HN.out]; exact h4), if_neg (all_not okV xs (0, 0) i (by rw [← HN.out]; exact hlt) (by unfold okV; rw [← HX.out, ← HY.out]; exact HV.out))]
      · have g1 : ¬ (i : Int) < (n : Int) := by omega
        go_wp2
        go_ret
        refine ⟨ret_int ?_, hbw⟩
        unfold chk11
        have := HT.out
        rw [List.take_of_length_le (by rw [← HN.out]; omega)] at this
        rw [if_neg (by rw [← HN.out]; exact h4), if_pos this]

set_option maxHeartbeats 1600000 in
theorem Check12_any (A : Option Addr) (c : Nat) (xs : List (Int × Int)) (w : World) (ha : RdS w A xs) (hm : xs.length ≤ 1000000) :
    Calls Try.prog 26 #[.slice A xs.length c] w fun e w' => e = .returned (.int .i64 (chk12 xs)) ∧ Below w.heap.size w w' := by
  have C := Lib.hid (Check11_any A c xs w ha hm)
  have HA := Lib.hid ha
  clear ha
  obtain ⟨n, hn⟩ : ∃ n, n = xs.length := ⟨_, rfl⟩
  rw [← hn] at C ⊢
  rw [← hn] at hm
  have HN := Lib.hid hn
  clear hn
  obtain ⟨r, hr⟩ : ∃ r, r = chk11 xs := ⟨_, rfl⟩
  rw [← hr] at C
  have HR := Lib.hid hr
  clear hr
  by_cases hr0 : r = 0
  · have t1 : (r != 0) = false := by rw [hr0]; rfl
    have HR0 := Lib.hid hr0
    clear hr0
    go_enter Try.func26, Try.ntmps26
    go_wp2_with fail
    refine C.out.mono ?_
    rintro e w1 ⟨rfl, hb1⟩
    clear C
    have hok : ¬ 4096 < n ∧ xs.all okV = true := by
      have h := HR.out
      rw [HR0.out] at h
      unfold chk11 at h
      rw [← HN.out] at h
      split at h
      · cases h
      · split at h
        · rename_i a b; exact ⟨a, b⟩
        · cases h
    have h4 := hok.1
    have HV := Lib.hid hok.2
    clear hok
    go_wp2
    go_loopw [13] (fun s wr => ∃ i : Nat, s = .int .i64 i ∧ i ≤ n ∧ Below w.heap.size w wr ∧ Hid ((xs.take i).all okE = true)) (fun s _ => n - (intOf s).toNat)
    case atStart => exact ⟨0, rfl, by omega, hb1, rfl⟩
    case round =>
      clear hb1
      obtain ⟨i, rfl, hin, hbw, HT⟩ := hrel
      by_cases hlt : i < n
      · obtain ⟨b1, o1, e1, c1⟩ := (HA.out.below hbw) (by rw [← HN.out]; omega)
        obtain ⟨c1', c2'⟩ := c1 i (by rw [← HN.out]; exact hlt)
        clear c1
        obtain ⟨x, y, hx, hy⟩ : ∃ x y, x = (xs.getD i (0, 0)).1 ∧ y = (xs.getD i (0, 0)).2 := ⟨_, _, rfl, rfl⟩
        rw [← hx] at c1'
        rw [← hy] at c2'
        have HX := Lib.hid hx
        have HY := Lib.hid hy
        clear hx hy
        subst e1
        have g1 : (i : Int) < (n : Int) := by omega
        have hbA := hbw.alloc hbw.size (SB x y)
        clear hbw
        by_cases hv : y ≤ 2147483647
        · go_wp2
          go_roundw
          case measure => simp [intOf]; omega
          case rel => exact ⟨i + 1, by go_num, by omega, hbA, all_step okE xs (0, 0) i (by rw [← HN.out]; exact hlt) HT.out (by unfold okE; rw [← HY.out]; exact decide_eq_true hv)⟩
        · go_wp2
          go_ret
          refine ⟨ret_int ?_, hbA⟩
          unfold chk12
          rw [if_neg (by rw [← HN.out]; exact h4), if_neg (fun h => all_not okE xs (0, 0) i (by rw [← HN.out]; exact hlt) (by unfold okE; rw [← HY.out]; exact decide_eq_false (by omega)) h.2)]
      · have g1 : ¬ (i : Int) < (n : Int) := by omega
        go_wp2
        go_ret
        refine ⟨ret_int ?_, hbw⟩
        unfold chk12
        have := HT.out
        rw [List.take_of_length_le (by rw [← HN.out]; omega)] at this
        rw [if_neg (by rw [← HN.out]; exact h4), if_pos ⟨HV.out, this⟩]
  · have t1 : (r != 0) = true := by rw [bne_iff_ne]; exact hr0
    have HR0 := Lib.hid hr0
    clear hr0
    go_enter Try.func26, Try.ntmps26
    go_wp2_with fail
    refine C.out.mono ?_
    rintro e w1 ⟨rfl, hb1⟩
    clear C
    go_wp2
    go_ret
    refine ⟨ret_int ?_, hb1⟩
    have h := HR.out
    have h0 := HR0.out
    rw [h] at h0 ⊢
    unfold chk11 at h0 ⊢
    unfold chk12
    split at h0 <;> rename_i q
    · rw [if_pos q, if_pos q]
    · rw [if_neg q, if_neg q]
      split at h0 <;> rename_i q2
      · exact absurd rfl h0
      · rw [if_neg q2, if_neg fun h => q2 h.1]
end Go.Proofs.Ytlpdligkjihkeaa.Tb
