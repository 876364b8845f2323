/- (*Index).overlapping: the iterator's contract. -/
import Derived.Test.YtlpdligkjihkeaaTk
set_option linter.unusedVariables false
set_option linter.unusedSimpArgs false
namespace Go.Proofs.Ytlpdligkjihkeaa.Tb
open Go.RowKit Go.Shelf
attribute [local go_sem] Oper.semAt_some

set_option maxHeartbeats 1600000 in
theorem overlapping_any (P : Value) (hP : P = .pointer none ∨ ∃ a, P = .pointer (some a)) (s1 s2 : Int) (w : World) : Calls Try.prog 51 #[P, SP s1 s2] w fun e w' =>
    e = .returned (.func (.func 59) #[] #[.pointer (some ⟨w.heap.size, 0, none⟩), .pointer (some ⟨w.heap.size + 1, 0, none⟩)]) ∧ (w.alloc (.cells #[P] 23)).alloc (SB s1 s2) = w' := by
  rcases hP with rfl | ⟨a, rfl⟩ <;>
  · go_enter Try.func51, Try.ntmps51
    go_wp2
    go_ret
    exact ⟨rfl, rfl⟩

set_option maxRecDepth 1000000 in
set_option maxHeartbeats 4000000 in
theorem all1_in (nn l n₀ B0 Bx Bs p bs bo be n cs co ce : Nat) (onF : Nat → Fin n) (bg en : Nat → Int) (E : Array Int) (s1 s2 : Int) (hn : n ≤ 1000000)
    (hasc : ∀ i j, i < j → j < n → bg (onF i).val ≤ bg (onF j).val) (hG : Good (fun i => en (onF i).val) E 0 n) (J Jx : List (Fin n) → World → Prop) (hJ : AbidesFrom B0 J)
    (hY : ∀ pre (x : Fin n) W, J pre W → pre.length < (hits onF bg en s1 s2 0 n).length → YieldAt Fence.wide (nn - 1) Try.prog l #[.int .i64 (x.val : Int)] W fun e W' =>
      (e = .returned (.bool true) ∧ J (pre ++ [x]) W' ∧ Kp n₀ W W') ∨ (e = .returned (.bool false) ∧ Jx (pre ++ [x]) W'))
    (W : World) (hn0 : n₀ ≤ W.heap.size) (hBx : W.cell? ⟨Bx, 0, none⟩ = some (.pointer (some ⟨p, 0, none⟩))) (hBs : W.cell? ⟨Bs, 0, none⟩ = some (.int .i64 s1)) (hBs2 : W.cell? ⟨Bs, 1, none⟩ = some (.int .i64 s2))
    (I : IxW W n₀ p bs bo be n cs co ce (fun i => (onF i).val) bg en (fun i => E[i]!)) (h0 : J [] W) :
    CallsIn Fence.wide nn Try.prog 59 #[.func (.yield l) #[] #[], .pointer (some ⟨Bx, 0, none⟩), .pointer (some ⟨Bs, 0, none⟩)] W fun e W' => (∃ v, e = .returned v) ∧
      ((∃ ys, ys = hits onF bg en s1 s2 0 n ∧ J ys W') ∨ (∃ pre, pre <+: hits onF bg en s1 s2 0 n ∧ Jx pre W')) := by
  have hJd : J [] W.drew := hJ _ _ _ none h0 (grown_drewN _ 1) (fun r e => by cases e)
  have hp := walkW l n₀ (hits onF bg en s1 s2 0 n).length B0 p bs bo be n cs co ce onF bg en E s1 s2 hn hasc J Jx hJ (fun m pre x W hj hl => yieldAny rfl m (hY pre x W hj hl)) n (nn - 1) 0 n [] W.drew (by omega) (by omega) (Nat.le_refl _) hn0 (I.below (bel_drew (Below.refl _ _))) hG hJd (by simp)
  rw [show ((0 : Nat) : Int) = 0 from rfl] at hp
  have HP := Lib.hid hp
  clear hp
  have k0 := I.k0
  clear hJ hY hG I h0 hJd hasc
  have mixed : Try.prog.follows .mixedOrders = true := by kernel_rfl
  refine callsIn_of_wp Try.func59 rfl trivial ?_ rfl
  simp only [Try.ntmps59, List.size_toArray, List.length_cons, List.length_nil, Nat.reduceAdd, Nat.reduceSub, Array.replicate_succ, Array.replicate_zero, List.push_toArray, List.append_toArray, List.nil_append, List.cons_append]
  gi_wp2_with fail
  gi_region_with_o (refine ⟨trivial, fun h => (by cases h), ?_⟩; refine HP.out.mono ?_; clear HP; rintro e W3 hp3; obtain ⟨bb, rfl, hq3⟩ := yield_two hp3)
  all_goals
    have HQ := Lib.hid hq3
    clear hq3
    gi_wp2
    go_end0
    cases bb with
    | true => exact ⟨⟨_, rfl⟩, .inl ⟨_, rfl, by have := (HQ.out.t rfl).1; simpa using this⟩⟩
    | false =>
      obtain ⟨q, hq, hx⟩ := HQ.out.f rfl
      exact ⟨⟨_, rfl⟩, .inr ⟨q, hq, by simpa using hx⟩⟩

/-- The value of overlapping as an iterator. -/
theorem over_stops (nn n₀ Bx Bs p bs bo be n cs co ce : Nat) (onF : Nat → Fin n) (bg en : Nat → Int) (E : Array Int) (s1 s2 : Int) (hn : n ≤ 1000000)
    (hasc : ∀ i j, i < j → j < n → bg (onF i).val ≤ bg (onF j).val) (hG : Good (fun i => en (onF i).val) E 0 n) (w : World) (hn0 : n₀ ≤ w.heap.size) (hBx : w.cell? ⟨Bx, 0, none⟩ = some (.pointer (some ⟨p, 0, none⟩)))
    (hBs : w.heap[Bs]? = some (SB s1 s2)) (I : IxW w n₀ p bs bo be n cs co ce (fun i => (onF i).val) bg en (fun i => E[i]!)) :
    SeqStopsK Fence.wide nn Try.prog 59 #[.pointer (some ⟨Bx, 0, none⟩), .pointer (some ⟨Bs, 0, none⟩)] (fun x : Fin n => #[Value.int .i64 (x.val : Int)]) (Kp n₀) (fun ys => ys = hits onF bg en s1 s2 0 n) (fun pre => pre <+: hits onF bg en s1 s2 0 n) (hits onF bg en s1 s2 0 n).length w :=
  fun l J Jx W hW hJ _ hY h0 => by
    have hb := (hW.block Bs (blk_lt hBs)).trans hBs
    exact all1_in nn l n₀ W.heap.size Bx Bs p bs bo be n cs co ce onF bg en E s1 s2 hn hasc hG J Jx hJ hY W (Nat.le_trans hn0 hW.size) ((hW.cell (p := ⟨Bx, 0, none⟩) (World.block_lt_of_cell? w _ hBx)).trans hBx)
      (by rw [blk_cell hb]; rfl) (by rw [blk_cell hb]; rfl) (I.below (hW.mono hn0)) h0
end Go.Proofs.Ytlpdligkjihkeaa.Tb
