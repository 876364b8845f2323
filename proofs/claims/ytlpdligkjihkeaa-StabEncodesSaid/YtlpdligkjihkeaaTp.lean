/- What find answers, as a list; the walk over an empty index. -/
import Derived.Test.YtlpdligkjihkeaaTo
set_option linter.unusedVariables false
set_option linter.unusedSimpArgs false
namespace Go.Proofs.Ytlpdligkjihkeaa.Tb
open Go.RowKit Go.Shelf
attribute [local go_sem] Oper.semAt_some

/-- The numbers below n that a test passes. -/
def sel (n : Nat) (k : Nat → Bool) : List Int := ((List.range n).filter k).map Int.ofNat
theorem sel_len (n : Nat) (k : Nat → Bool) : (sel n k).length ≤ n := by
  unfold sel
  rw [List.length_map]
  exact Nat.le_trans (List.length_filter_le _ _) (by simp)
theorem sel_congr {n : Nat} {k k' : Nat → Bool} (h : ∀ i, i < n → k i = k' i) : sel n k = sel n k' := by
  unfold sel
  congr 1
  exact List.filter_congr fun i hi => h i (List.mem_range.1 hi)
theorem sel_succ (n : Nat) (k : Nat → Bool) : sel (n + 1) k = sel n k ++ (if k n then [(n : Int)] else []) := by
  unfold sel
  rw [List.range_succ, List.filter_append, List.map_append]
  congr 1
  cases h : k n <;> simp [h]
theorem sel_asc (n : Nat) (k : Nat → Bool) : (sel n k).Pairwise (fun x y => x ≤ y) := by
  unfold sel
  rw [List.pairwise_map]
  refine List.Pairwise.imp (fun {a b} h => ?_) (List.Pairwise.filter k (List.pairwise_lt_range (n := n)))
  exact Int.ofNat_le.2 (Nat.le_of_lt h)
theorem perm_sorted : ∀ {xs ys : List Int}, xs.Perm ys → xs.Pairwise (fun x y => x ≤ y) → ys.Pairwise (fun x y => x ≤ y) → xs = ys :=
  fun {xs ys} h h1 h2 => List.Perm.eq_of_pairwise (fun a b _ _ x y => Int.le_antisymm x y) h1 h2 h

theorem hits_sel {n : Nat} (on : Nat → Nat) (onF : Nat → Fin n) (hon : ∀ i, i < n → (onF i).val = on i) (hp : ((List.range n).map on).Perm (List.range n)) (bg en : Nat → Int) (kp : Nat → Bool) (s1 s2 : Int) :
    (((hits onF bg en s1 s2 0 n).filter fun x => kp x.val).map fun x => (x.val : Int)).mergeSort (fun x y => decide (x ≤ y)) = sel n fun i => hitN bg en s1 s2 i && kp i := by
  have hq : (((hits onF bg en s1 s2 0 n).filter fun x => kp x.val).map fun x => (x.val : Int)).Perm (sel n fun i => hitN bg en s1 s2 i && kp i) := by
    have e : ((hits onF bg en s1 s2 0 n).filter fun x => kp x.val).map (fun x => (x.val : Int)) = (((List.range n).map on).filter fun i => hitN bg en s1 s2 i && kp i).map Int.ofNat := by
      unfold hits
      rw [Nat.sub_zero, ← List.range_eq_range', List.filter_filter, List.filter_map, List.map_map, List.filter_map, List.map_map]
      have e1 : (List.range n).filter ((fun x : Fin n => kp x.val && hitN bg en s1 s2 x.val) ∘ onF) = (List.range n).filter ((fun i => hitN bg en s1 s2 i && kp i) ∘ on) := by
        refine List.filter_congr fun i hi => ?_
        simp only [Function.comp, hon i (List.mem_range.1 hi)]
        exact Bool.and_comm _ _
      rw [e1]
      refine List.map_congr_left fun i hi => ?_
      have hi' := List.mem_range.1 (List.mem_filter.1 hi).1
      simp only [Function.comp, hon i hi']
      rfl
    rw [e]
    exact (hp.filter _).map _
  refine perm_sorted ((List.mergeSort_perm _ _).trans hq) ?_ (sel_asc _ _)
  have := List.pairwise_mergeSort (le := fun (x y : Int) => decide (x ≤ y)) (fun a b c h1 h2 => by simp at *; omega) (fun a b => by simp; omega) (((hits onF bg en s1 s2 0 n).filter fun x => kp x.val).map fun x => (x.val : Int))
  exact this.imp (fun {a b} h => by simpa using h)

theorem goodF_congrV {v v' : Nat → Int} {E : Array Int} : ∀ (k a b : Nat), (∀ i, a ≤ i → i < b → v' i = v i) → GoodF v E k a b → GoodF v' E k a b := by
  intro k
  induction k with
  | zero => intro a b h g; trivial
  | succ k ih =>
    intro a b h g hab
    obtain ⟨g1, g2, g3⟩ := g hab
    exact ⟨fun i h1 h2 => by rw [h i h1 h2]; exact g1 i h1 h2, ih _ _ (fun i h1 h2 => h i h1 (by omega)) g2, ih _ _ (fun i h1 h2 => h i (by omega) h2) g3⟩
theorem Good.congrV {v v' : Nat → Int} {E : Array Int} {a b : Nat} (g : Good v E a b) (h : ∀ i, a ≤ i → i < b → v' i = v i) : Good v' E a b := fun k => goodF_congrV k a b h (g k)

set_option maxRecDepth 1000000 in
set_option maxHeartbeats 4000000 in
theorem walk_zero (nn : Nat) (P : Addr) (s1 s2 : Int) (l : Nat) (W : World) :
    CallsIn Fence.wide nn Try.prog 60 #[.pointer (some P), .int .i64 0, .int .i64 0, SP s1 s2, .func (.yield l) #[] #[]] W fun e W' => e = .returned (.bool true) ∧ W' = W.alloc (SB s1 s2) := by
  refine callsIn_of_wp Try.func60 rfl trivial ?_ rfl
  simp only [Try.ntmps60, List.size_toArray, List.length_cons, List.length_nil, Nat.reduceAdd, Nat.reduceSub, Array.replicate_succ, Array.replicate_zero, List.push_toArray, List.append_toArray, List.nil_append, List.cons_append]
  gi_wp2
  go_ret
  exact ⟨rfl, rfl⟩

set_option maxRecDepth 1000000 in
set_option maxHeartbeats 4000000 in
theorem over_stops0 (nn n₀ Bx Bs p cs : Nat) (As : Option Addr) (s1 s2 : Int) (w : World) (hBx : w.cell? ⟨Bx, 0, none⟩ = some (.pointer (some ⟨p, 0, none⟩)))
    (hBs : w.heap[Bs]? = some (SB s1 s2)) (k0 : w.cell? ⟨p, 0, none⟩ = some (.slice As 0 cs)) :
    SeqStopsK Fence.wide nn Try.prog 59 #[.pointer (some ⟨Bx, 0, none⟩), .pointer (some ⟨Bs, 0, none⟩)] (fun x : Fin 0 => #[Value.int .i64 (x.val : Int)]) (Kp n₀) (fun ys => ys = []) (fun pre => pre <+: []) 0 w :=
  fun l J Jx W hW hJ _ hY h0 => by
    have hb := (hW.block Bs (blk_lt hBs)).trans hBs
    have b0 := (hW.cell (p := ⟨Bx, 0, none⟩) (World.block_lt_of_cell? w _ hBx)).trans hBx
    have b1 : W.cell? ⟨Bs, 0, none⟩ = some (.int .i64 s1) := by rw [blk_cell hb]; rfl
    have b2 : W.cell? ⟨Bs, 1, none⟩ = some (.int .i64 s2) := by rw [blk_cell hb]; rfl
    have b3 := (hW.cell (p := ⟨p, 0, none⟩) (World.block_lt_of_cell? w _ k0)).trans k0
    have hJd : J [] W.drew := hJ _ _ _ none h0 (grown_drewN _ 1) (fun r e => by cases e)
    have hJe : J [] (W.drew.alloc (SB s1 s2)) := hJ _ _ _ none hJd (World.grownBy_alloc _ _ none) (fun r e => by cases e)
    have HJ := Lib.hid hJe
    have HP := Lib.hid (walk_zero (nn - 1) ⟨p, 0, none⟩ s1 s2 l W.drew)
    clear hJ hY h0 hJd hJe hb hW
    have mixed : Try.prog.follows .mixedOrders = true := by kernel_rfl
    refine callsIn_of_wp Try.func59 rfl trivial ?_ rfl
    simp only [Try.ntmps59, List.size_toArray, List.length_cons, List.length_nil, Nat.reduceAdd, Nat.reduceSub, Array.replicate_succ, Array.replicate_zero, List.push_toArray, List.append_toArray, List.nil_append, List.cons_append]
    gi_wp2_with fail
    gi_region_with_o (refine ⟨trivial, fun h => (by cases h), ?_⟩; refine HP.out.mono ?_; rintro e W3 ⟨rfl, rfl⟩)
    all_goals
      gi_wp2
      go_end0
      exact ⟨⟨_, rfl⟩, .inl ⟨_, rfl, HJ.out⟩⟩

set_option maxRecDepth 1000000 in
set_option maxHeartbeats 4000000 in
/-- find, at an index of xs. -/
theorem find_any (xs : List (Int × Int)) (p : Nat) (kp : Nat → Bool) (s1 s2 : Int) (kf : Nat) (kcb : Array Value) (w : World) (hv : vld s1 s2 = true) (hn : xs.length ≤ 1000000) (hI : Idx w p xs)
    (ekf : ∀ args w, (callFunc kf args).run Try.prog w = .ok (.enter kf args) w)
    (hkeep : ∀ (W : World) (i : Nat), i < xs.length → Below w.heap.size w W → Calls Try.prog kf (#[SP (bgn xs i) (enn xs i)] ++ kcb) W fun e w' => e = .returned (.bool (kp i)) ∧ Below W.heap.size W w') :
    Calls Try.prog 28 #[.pointer (some ⟨p, 0, none⟩), SP s1 s2, .func (.func kf) #[] kcb] w fun e w' => ∃ A c, e = .returned (.slice A (sel xs.length fun i => hitN (bgn xs) (enn xs) s1 s2 i && kp i).length c) ∧
      RdI w' A (sel xs.length fun i => hitN (bgn xs) (enn xs) s1 s2 i && kp i) ∧ Below w.heap.size w w' := by
  obtain ⟨As, Ao, Ae, cs, co, ce, on, E, k0, k1, k2, hr, hO, hG⟩ := hI
  obtain ⟨n, hnn⟩ : ∃ n, n = xs.length := ⟨_, rfl⟩
  rw [← hnn] at hn hkeep k0 k1 k2 hr hG ⊢
  by_cases h0 : n = 0
  · subst h0
    refine (find_ok (n := 0) p As cs (bgn xs) (enn xs) kp [] s1 s2 kf kcb w hv (by omega) (by simp) k0 (fun x => x.elim0) ?_ ekf (fun W x _ => x.elim0)).mono ?_
    · intro nn n₀ Bx Bs w2 hb _ _ hx hs
      exact over_stops0 nn n₀ Bx Bs p cs As s1 s2 w2 hx hs ((hb.cell (p := ⟨p, 0, none⟩) (World.block_lt_of_cell? w _ k0)).trans k0)
    · rintro e w' ⟨A, c, rfl, hrd, hb⟩
      exact ⟨A, c, rfl, fun h => by simp [sel] at h, hb⟩
  · obtain ⟨bs, bo, be, rfl, rfl, rfl, c0, c1, c2⟩ := hr (by omega)
    have hlt : ∀ i, i < n → on i < n := fun i hi => by rw [hnn] at hi ⊢; exact hO.lt i hi
    obtain ⟨onF, honF⟩ : ∃ onF : Nat → Fin n, ∀ i, i < n → (onF i).val = on i :=
      ⟨fun i => if h : on i < n then ⟨on i, h⟩ else ⟨0, by omega⟩, fun i hi => by simp only [hlt i hi, dif_pos]⟩
    have hS := hits_sel on onF honF (by rw [hnn]; exact hO.perm) (bgn xs) (enn xs) kp s1 s2
    have hlen : (hits onF (bgn xs) (enn xs) s1 s2 0 n).length ≤ n := by
      unfold hits
      exact Nat.le_trans (List.length_filter_le _ _) (by simp)
    have hl2 : ((hits onF (bgn xs) (enn xs) s1 s2 0 n).filter fun x => kp x.val).length = (sel n fun i => hitN (bgn xs) (enn xs) s1 s2 i && kp i).length := by
      rw [← hS, List.length_mergeSort, List.length_map]
    refine (find_ok (n := n) p (some ⟨bs, 0, none⟩) cs (bgn xs) (enn xs) kp (hits onF (bgn xs) (enn xs) s1 s2 0 n) s1 s2 kf kcb w hv hn hlen k0 (fun x => ⟨bs, rfl, c0 x.val x.isLt⟩) ?_ ekf (fun W x hb => hkeep W x.val x.isLt hb)).mono ?_
    · intro nn n₀ Bx Bs w2 hb h1 h2 hx hs
      have tr : ∀ {a : Addr} {v : Value}, w.cell? a = some v → w2.cell? a = some v := fun {a v} h => (hb.cell (World.block_lt_of_cell? _ _ h)).trans h
      have lt : ∀ {a : Addr} {v : Value}, w.cell? a = some v → a.block < n₀ := fun {a v} h => Nat.lt_of_lt_of_le (World.block_lt_of_cell? _ _ h) h1
      refine over_stops nn n₀ Bx Bs p bs bo be n cs co ce onF (bgn xs) (enn xs) E s1 s2 hn (fun i j hij hj => ?_) ?_ w2 h2 hx hs ?_
      · rw [honF i (by omega), honF j hj]
        exact hO.asc i j hij (by rw [← hnn]; exact hj)
      · exact hG.congrV fun i _ hi => by rw [honF i hi]
      · exact ⟨tr k0, tr k1, tr k2, fun j hj => ⟨tr (c0 j hj).1, tr (c0 j hj).2⟩, fun j hj => by rw [honF j hj]; exact tr (c1 j hj), fun j hj => tr (c2 j hj), lt k0, lt (c0 0 (by omega)).1, lt (c1 0 (by omega)), lt (c2 0 (by omega))⟩
    · rintro e w' ⟨A, c, rfl, hrd, hb⟩
      refine ⟨A, c, by rw [hl2], by rw [← hS]; exact hrd, hb⟩
end Go.Proofs.Ytlpdligkjihkeaa.Tb
