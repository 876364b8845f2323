/- The plain side of Go's stable sort, second part: the whole gives core's mergeSort. No program in this text. -/
import Derived.Test.YtlpdligkjihkeaaSt
namespace Go.Proofs.Ytlpdligkjihkeaa.St
open Go.Sort
variable {α : Type} [Inhabited α]

theorem seg_extract (d : Array α) (a b : Nat) (hb : b ≤ d.size) : (d.extract a b).toList = seg d a b := extract_toList d a b hb
theorem Merged.permIn {lt : α → α → Bool} {a b : Nat} {d d' : Array α} (h : Merged lt a b d d') (hb : b ≤ d.size) : PermIn a b d d' :=
  ⟨h.out.size, h.out.out, by rw [seg_extract _ _ _ (by rw [h.out.size]; exact hb), seg_extract _ _ _ hb]; exact h.perm⟩

/-! ### Two orders that say the same of an earlier and a later element -/
section
variable {lt lr : α → α → Bool} {tag : α → Nat} (ag : ∀ x y, tag x < tag y → lt y x = lr y x)
include ag

theorem insInner_congr (a : Nat) : ∀ (j : Nat) (d : Array α), j < d.size → (∀ p, a ≤ p → p < j → tag d[p]! < tag d[j]!) → insInner lt a j d = insInner lr a j d := by
  intro j
  induction j with
  | zero => intro d _ _; rfl
  | succ j ih =>
    intro d hj h
    unfold insInner
    by_cases hja : j + 1 > a
    · rw [ag _ _ (h j (by omega) (by omega))]
      by_cases hc : (decide (j + 1 > a) && lr d[j + 1]! d[j]!) = true
      · rw [if_pos hc, if_pos hc]
        refine ih _ (by rw [size_swp]; omega) fun p hp1 hp2 => ?_
        rw [swp_other _ _ _ _ (by omega) (by omega), swp_right _ _ _ (by omega)]
        exact h p hp1 (by omega)
      · rw [if_neg hc, if_neg hc]
    · rw [if_neg (by simp [hja]), if_neg (by simp [hja])]

omit ag in
theorem insInner_permIn (a b : Nat) : ∀ (j : Nat) (d : Array α), a ≤ j → j < b → b ≤ d.size → PermIn a b d (insInner lr a j d) := by
  intro j
  induction j with
  | zero => intro d _ _ _; exact permIn_refl _ _ _
  | succ j ih =>
    intro d h1 h2 h3
    unfold insInner
    split
    · rename_i hc
      simp only [Bool.and_eq_true, decide_eq_true_eq] at hc
      exact permIn_trans _ _ _ _ _ (swp_permIn d a b (j + 1) j h1 h2 (by omega) (by omega) h3) (ih _ (by omega) (by omega) (by rw [size_swp]; exact h3))
    · exact permIn_refl _ _ _

theorem insOuter_congr (a b : Nat) : ∀ (k i : Nat) (d : Array α), b - i ≤ k → a ≤ i → b ≤ d.size → (∀ p q, a ≤ p → p < q → i ≤ q → q < b → tag d[p]! < tag d[q]!) → insOuter lt a b i d = insOuter lr a b i d := by
  intro k
  induction k with
  | zero => intro i d hk _ _ _; rw [insOuter, if_neg (by omega), insOuter, if_neg (by omega)]
  | succ k ih =>
    intro i d hk hai hb h
    by_cases hlt : i < b
    · have e : ∀ l : α → α → Bool, insOuter l a b i d = insOuter l a b (i + 1) (insInner l a i d) := fun l => by rw [insOuter, if_pos hlt]
      rw [e lt, e lr, insInner_congr ag a i d (by omega) fun p h1 h2 => h p i h1 h2 (Nat.le_refl _) hlt]
      have hP := insInner_permIn (lr := lr) a (i + 1) i d hai (by omega) (by omega)
      refine ih (i + 1) _ (by omega) (by omega) (by rw [hP.1]; exact hb) fun p q h1 h2 h3 h4 => ?_
      rw [hP.2.1 q (.inr (by omega))]
      by_cases hp : p < i + 1
      · exact permIn_all d _ a (i + 1) (fun x => tag x < tag d[q]!) (by omega) hP (fun x x1 x2 => h x q x1 (by omega) (by omega) h4) p h1 hp
      · rw [hP.2.1 p (.inr (by omega))]
        exact h p q h1 h2 (by omega) h4
    · have e : ∀ l : α → α → Bool, insOuter l a b i d = d := fun l => by rw [insOuter, if_neg hlt]
      rw [e, e]

theorem insertionSort_congr (a b : Nat) (d : Array α) (hb : b ≤ d.size) (h : ∀ p q, a ≤ p → p < q → q < b → tag d[p]! < tag d[q]!) : insertionSort lt d a b = insertionSort lr d a b :=
  insOuter_congr ag a b (b - (a + 1)) (a + 1) d (Nat.le_refl _) (by omega) hb fun p q h1 h2 _ h4 => h p q h1 h2 h4

omit ag in
theorem symM_out (l : α → α → Bool) : ∀ (k a m b : Nat) (d : Array α), a < m → m < b → b ≤ d.size → Out a b d (symM l k a m b d) := by
  intro k
  induction k with
  | zero => intro a m b d _ _ _; exact Out.refl _ _ _
  | succ k ih =>
    intro a m b d ham hmb hsz
    unfold symM
    by_cases e1 : m - a = 1
    · rw [if_pos e1]
      obtain ⟨g1, g2, _⟩ := bs_spec (fun h => l d[h]! d[a]!) m b (b - m) m b (by omega) (by omega) (by omega) (by omega) (.inl rfl) (.inl rfl)
      exact (shiftR_spec _ _ a d (Nat.le_refl _) (by omega) (by omega)).1.mono (Nat.le_refl _) (by omega)
    rw [if_neg e1]
    by_cases e2 : b - m = 1
    · rw [if_pos e2]
      obtain ⟨g1, g2, _⟩ := bs_spec (fun h => !l d[m]! d[h]!) a m (m - a) a m (by omega) (by omega) (by omega) (by omega) (.inl rfl) (.inl rfl)
      exact (shiftL_spec _ m d g2 (by omega)).1.mono g1 (by omega)
    rw [if_neg e2]
    simp only
    generalize hmid : (a + b) / 2 = mid
    obtain ⟨g1, g2, g3, g4⟩ := bs_spec (fun c => !l d[mid + m - 1 - c]! d[c]!) (if m > mid then mid + m - b else a) (if m > mid then mid else m) b (if m > mid then mid + m - b else a) (if m > mid then mid else m)
      (by split <;> omega) (Nat.le_refl _) (by split <;> omega) (Nat.le_refl _) (.inl rfl) (.inl rfl)
    generalize bs (fun c => !l d[mid + m - 1 - c]! d[c]!) (if m > mid then mid + m - b else a) (if m > mid then mid else m) = st at g1 g2 g3 g4 ⊢
    have hst : a ≤ st ∧ st ≤ m ∧ st ≤ mid ∧ mid + m - st ≤ b ∧ m ≤ mid + m - st := by split at g1 <;> split at g2 <;> omega
    obtain ⟨h1, h2, h3, h4, h5⟩ := hst
    generalize hen : mid + m - st = en at h4 h5 ⊢
    have o1 : ∃ d1, (if st < m ∧ m < en then rotate st m en d else d) = d1 ∧ Out a b d d1 := by
      refine ⟨_, rfl, ?_⟩
      split
      · rename_i hc; exact (rotate_spec st m en d hc.1 hc.2 (by omega)).1.mono h1 h4
      · exact Out.refl _ _ _
    obtain ⟨d1, e1, o1⟩ := o1
    rw [e1]
    have z1 := o1.size
    have o2 : ∃ d2, (if a < st ∧ st < mid then symM l k a st mid d1 else d1) = d2 ∧ Out a b d1 d2 := by
      refine ⟨_, rfl, ?_⟩
      split
      · rename_i hc; exact (ih a st mid d1 hc.1 hc.2 (by omega)).mono (Nat.le_refl _) (by omega)
      · exact Out.refl _ _ _
    obtain ⟨d2, e2, o2⟩ := o2
    rw [e2]
    have z2 := o2.size
    split
    · rename_i hc; exact (o1.trans o2).trans ((ih mid en b d2 hc.1 hc.2 (by omega)).mono (by omega) (Nat.le_refl _))
    · exact o1.trans o2

theorem symM_congr : ∀ (k a m b : Nat) (d : Array α), a < m → m < b → b ≤ d.size → (∀ i j, a ≤ i → i < m → m ≤ j → j < b → tag d[i]! < tag d[j]!) → symM lt k a m b d = symM lr k a m b d := by
  intro k
  induction k with
  | zero => intro a m b d _ _ _ _; rfl
  | succ k ih =>
    intro a m b d ham hmb hsz h
    unfold symM
    by_cases e1 : m - a = 1
    · rw [if_pos e1, if_pos e1, bs_congr _ (fun h => lr d[h]! d[a]!) (b - m) m b (Nat.le_refl _) fun x x1 x2 => ag _ _ (h a x (Nat.le_refl _) ham x1 x2)]
    rw [if_neg e1, if_neg e1]
    by_cases e2 : b - m = 1
    · rw [if_pos e2, if_pos e2, bs_congr _ (fun h => !lr d[m]! d[h]!) (m - a) a m (Nat.le_refl _) fun x x1 x2 => by rw [ag _ _ (h x m x1 x2 (Nat.le_refl _) hmb)]]
    rw [if_neg e2, if_neg e2]
    simp only
    generalize hmid : (a + b) / 2 = mid
    have hbs : bs (fun c => !lt d[mid + m - 1 - c]! d[c]!) (if m > mid then mid + m - b else a) (if m > mid then mid else m) = bs (fun c => !lr d[mid + m - 1 - c]! d[c]!) (if m > mid then mid + m - b else a) (if m > mid then mid else m) := by
      refine bs_congr _ _ b _ _ (by split <;> omega) fun c c1 c2 => ?_
      rw [ag _ _ (h c (mid + m - 1 - c) (by split at c1 <;> split at c2 <;> omega) (by split at c1 <;> split at c2 <;> omega) (by split at c1 <;> split at c2 <;> omega) (by split at c1 <;> split at c2 <;> omega))]
    rw [hbs]
    obtain ⟨g1, g2, _⟩ := bs_spec (fun c => !lr d[mid + m - 1 - c]! d[c]!) (if m > mid then mid + m - b else a) (if m > mid then mid else m) b (if m > mid then mid + m - b else a) (if m > mid then mid else m)
      (by split <;> omega) (Nat.le_refl _) (by split <;> omega) (Nat.le_refl _) (.inl rfl) (.inl rfl)
    generalize bs (fun c => !lr d[mid + m - 1 - c]! d[c]!) (if m > mid then mid + m - b else a) (if m > mid then mid else m) = st at g1 g2 ⊢
    have hst : a ≤ st ∧ st ≤ m ∧ st ≤ mid ∧ mid + m - st ≤ b ∧ m ≤ mid + m - st := by split at g1 <;> split at g2 <;> omega
    obtain ⟨h1, h2, h3, h4, h5⟩ := hst
    generalize hen : mid + m - st = en at h4 h5 ⊢
    have hrot : ∃ d1, (if st < m ∧ m < en then rotate st m en d else d) = d1 ∧ Out st en d d1 ∧ seg d1 st en = seg d m en ++ seg d st m := by
      refine ⟨_, rfl, ?_⟩
      by_cases hc : st < m ∧ m < en
      · rw [if_pos hc]; exact rotate_spec st m en d hc.1 hc.2 (by omega)
      · rw [if_neg hc]
        refine ⟨Out.refl _ _ _, ?_⟩
        by_cases hc1 : st < m
        · rw [seg_nil d m en (by omega), show en = m by omega, List.nil_append]
        · rw [seg_nil d st m (by omega), show st = m by omega, List.append_nil]
    obtain ⟨d1, hd1, o1, s1⟩ := hrot
    rw [hd1]
    clear hd1
    have s1a : seg d1 st mid = seg d m en ∧ seg d1 mid en = seg d st m := by
      rw [seg_append d1 st mid en h3 (by omega)] at s1
      exact List.append_inj s1 (by rw [seg_length, seg_length]; omega)
    have z1 := o1.size
    have c2 : (if a < st ∧ st < mid then symM lt k a st mid d1 else d1) = (if a < st ∧ st < mid then symM lr k a st mid d1 else d1) := by
      split
      · rename_i hc
        refine ih a st mid d1 hc.1 hc.2 (by omega) fun i j i1 i2 j1 j2 => ?_
        have hj : d1[j]! ∈ seg d m en := by rw [← s1a.1, seg_mem]; exact ⟨j, j1, j2, rfl⟩
        rw [seg_mem] at hj
        obtain ⟨j', j3, j4, j5⟩ := hj
        rw [o1.out i (by omega), ← j5]
        exact h i j' i1 (by omega) j3 (by omega)
      · rfl
    rw [c2]
    have o2 : ∃ d2, (if a < st ∧ st < mid then symM lr k a st mid d1 else d1) = d2 ∧ Out a mid d1 d2 := by
      refine ⟨_, rfl, ?_⟩
      split
      · rename_i hc; exact symM_out lr k a st mid d1 hc.1 hc.2 (by omega)
      · exact Out.refl _ _ _
    obtain ⟨d2, e2, o2⟩ := o2
    rw [e2]
    have z2 := o2.size
    split
    · rename_i hc
      refine ih mid en b d2 hc.1 hc.2 (by omega) fun i j i1 i2 j1 j2 => ?_
      have hi : d1[i]! ∈ seg d st m := by rw [← s1a.2, seg_mem]; exact ⟨i, i1, i2, rfl⟩
      rw [seg_mem] at hi
      obtain ⟨i', i3, i4, i5⟩ := hi
      rw [o2.out i (by omega), o2.out j (by omega), ← i5, o1.out j (by omega)]
      exact h i' j (by omega) i4 (by omega) j2
    · rfl

/-! ### Blocks -/
/-- Blocks of s are sorted each for itself, and hold what belongs there. -/
structure Runs (lr : α → α → Bool) (tag : α → Nat) (s n q : Nat) (d : Array α) : Prop where
  tags : ∀ r i, q ≤ r → r * s ≤ i → i < r * s + s → i < n → r * s ≤ tag d[i]! ∧ tag d[i]! < r * s + s
  run : ∀ r i j, q ≤ r → r * s ≤ i → i < j → j < r * s + s → j < n → lr d[j]! d[i]! = false
/-- The same of the blocks in front. -/
structure Front (lr : α → α → Bool) (tag : α → Nat) (s n q : Nat) (d : Array α) : Prop where
  tags : ∀ r i, r < q → r * s ≤ i → i < r * s + s → i < n → r * s ≤ tag d[i]! ∧ tag d[i]! < r * s + s
  run : ∀ r i j, r < q → r * s ≤ i → i < j → j < r * s + s → j < n → lr d[j]! d[i]! = false

omit ag in
theorem blk_lt {r q s : Nat} (h : r < q) : r * s + s ≤ q * s := by have := Nat.mul_le_mul_right s (Nat.succ_le_of_lt h); rw [Nat.succ_mul] at this; exact this

theorem mergePass_spec (hS : SWO lr) (s n : Nat) (hs : 0 < s) : ∀ (k q : Nat) (d : Array α), n + 1 ≤ k + q → n = d.size → Front lr tag (2 * s) n q d → Runs lr tag s n (2 * q) d →
    mergePass lt s n k (q * (2 * s)) d = mergePass lr s n k (q * (2 * s)) d ∧ PermIn 0 n d (mergePass lr s n k (q * (2 * s)) d) ∧ Runs lr tag (2 * s) n 0 (mergePass lr s n k (q * (2 * s)) d) := by
  intro k
  induction k with
  | zero =>
    intro q d hk hn F R
    refine ⟨rfl, permIn_refl _ _ _, ⟨fun r i _ h1 h2 h3 => ?_, fun r i j _ h1 h2 h3 h4 => ?_⟩⟩
    · have hq : q ≤ q * (2 * s) := Nat.le_mul_of_pos_right _ (by omega)
      have : r < q := by
        rcases Nat.lt_or_ge r q with h | h
        · exact h
        · have := Nat.mul_le_mul_right (2 * s) h; omega
      exact F.tags r i this h1 h2 h3
    · have hq : q ≤ q * (2 * s) := Nat.le_mul_of_pos_right _ (by omega)
      have : r < q := by
        rcases Nat.lt_or_ge r q with h | h
        · exact h
        · have := Nat.mul_le_mul_right (2 * s) h; omega
      exact F.run r i j this h1 h2 h3 h4
  | succ k ih =>
    intro q d hk hn F R
    have e2 : 2 * q * s = q * (2 * s) := by rw [Nat.mul_comm 2 q, Nat.mul_assoc]
    have e3 : (2 * q + 1) * s = q * (2 * s) + s := by rw [Nat.succ_mul, e2]
    unfold mergePass
    by_cases c1 : q * (2 * s) + 2 * s ≤ n
    · rw [if_pos c1, if_pos c1]
      generalize ha : q * (2 * s) = a at *
      have t1 := R.tags (2 * q)
      have t2 := R.tags (2 * q + 1)
      rw [e2] at t1
      rw [e3] at t2
      have r1 := R.run (2 * q)
      have r2 := R.run (2 * q + 1)
      rw [e2] at r1
      rw [e3] at r2
      rw [symM_congr ag (2 * s) a (a + s) (a + 2 * s) d (by omega) (by omega) (by omega) fun i j i1 i2 j1 j2 => by
        have := t1 i (by omega) i1 i2 (by omega)
        have := t2 j (by omega) j1 (by omega) (by omega)
        omega]
      have M := symM_spec hS (2 * s) a (a + s) (a + 2 * s) d (by omega) (by omega) (by omega) (by omega) (fun i j h1 h2 h3 => r1 i j (by omega) h1 h2 h3 (by omega)) (fun i j h1 h2 h3 => r2 i j (by omega) h1 h2 (by omega) (by omega))
      generalize symM lr (2 * s) a (a + s) (a + 2 * s) d = d1 at M ⊢
      have hP := M.permIn (by omega)
      have e4 : (q + 1) * (2 * s) = a + 2 * s := by rw [Nat.succ_mul, ha]
      have := ih (q + 1) d1 (by omega) (by rw [hP.1]; exact hn) ⟨fun r i hr h1 h2 h3 => ?_, fun r i j hr h1 h2 h3 h4 => ?_⟩ ⟨fun r i hr h1 h2 h3 => ?_, fun r i j hr h1 h2 h3 h4 => ?_⟩
      · rw [e4] at this
        exact ⟨this.1, permIn_trans _ _ _ _ _ (permIn_mono d d1 a (a + 2 * s) 0 n (by omega) c1 (by omega) hP) this.2.1, this.2.2⟩
      · by_cases hrq : r = q
        · subst hrq
          rw [ha] at h1 h2 ⊢
          exact permIn_all d d1 a (a + 2 * s) (fun x => a ≤ tag x ∧ tag x < a + 2 * s) (by omega) hP (fun x x1 x2 => by
            by_cases hx : x < a + s
            · have := t1 x (by omega) x1 hx (by omega); omega
            · have := t2 x (by omega) (by omega) (by omega) (by omega); omega) i h1 h2
        · have hb := blk_lt (s := 2 * s) (show r < q by omega)
          rw [ha] at hb
          rw [hP.2.1 i (by omega)]
          exact F.tags r i (by omega) h1 h2 h3
      · by_cases hrq : r = q
        · subst hrq
          rw [ha] at h1 h3
          exact M.asc i j h1 h2 h3
        · have hb := blk_lt (s := 2 * s) (show r < q by omega)
          rw [ha] at hb
          rw [hP.2.1 i (by omega), hP.2.1 j (by omega)]
          exact F.run r i j (by omega) h1 h2 h3 h4
      · have hb := Nat.mul_le_mul_right s (show 2 * q + 2 ≤ r by omega)
        rw [Nat.add_mul, e2] at hb
        rw [hP.2.1 i (by omega)]
        exact R.tags r i (by omega) h1 h2 h3
      · have hb := Nat.mul_le_mul_right s (show 2 * q + 2 ≤ r by omega)
        rw [Nat.add_mul, e2] at hb
        rw [hP.2.1 i (by omega), hP.2.1 j (by omega)]
        exact R.run r i j (by omega) h1 h2 h3 h4
    · rw [if_neg c1, if_neg c1]
      generalize ha : q * (2 * s) = a at *
      have t1 := R.tags (2 * q)
      have t2 := R.tags (2 * q + 1)
      rw [e2] at t1
      rw [e3] at t2
      have r1 := R.run (2 * q)
      have r2 := R.run (2 * q + 1)
      rw [e2] at r1
      rw [e3] at r2
      by_cases c2 : a + s < n
      · rw [if_pos c2, if_pos c2]
        rw [symM_congr ag (n - a) a (a + s) n d (by omega) (by omega) (by omega) fun i j i1 i2 j1 j2 => by
          have := t1 i (by omega) i1 i2 (by omega)
          have := t2 j (by omega) j1 (by omega) (by omega)
          omega]
        have M := symM_spec hS (n - a) a (a + s) n d (by omega) (by omega) (by omega) (by omega) (fun i j h1 h2 h3 => r1 i j (by omega) h1 h2 h3 (by omega)) (fun i j h1 h2 h3 => r2 i j (by omega) h1 h2 (by omega) (by omega))
        generalize symM lr (n - a) a (a + s) n d = d1 at M ⊢
        have hP := M.permIn (by omega)
        refine ⟨rfl, permIn_mono d d1 a n 0 n (by omega) (Nat.le_refl _) (by omega) hP, ⟨fun r i _ h1 h2 h3 => ?_, fun r i j _ h1 h2 h3 h4 => ?_⟩⟩
        · rcases Nat.lt_trichotomy r q with hr | hr | hr
          · have hb := blk_lt (s := 2 * s) hr
            rw [ha] at hb
            rw [hP.2.1 i (by omega)]
            exact F.tags r i hr h1 h2 h3
          · subst hr
            rw [ha] at h1 h2 ⊢
            exact permIn_all d d1 a n (fun x => a ≤ tag x ∧ tag x < a + 2 * s) (by omega) hP (fun x x1 x2 => by
              by_cases hx : x < a + s
              · have := t1 x (by omega) x1 hx (by omega); omega
              · have := t2 x (by omega) (by omega) (by omega) (by omega); omega) i h1 h3
          · have hb := blk_lt (s := 2 * s) hr
            omega
        · rcases Nat.lt_trichotomy r q with hr | hr | hr
          · have hb := blk_lt (s := 2 * s) hr
            rw [ha] at hb
            rw [hP.2.1 i (by omega), hP.2.1 j (by omega)]
            exact F.run r i j hr h1 h2 h3 h4
          · subst hr
            rw [ha] at h1 h3
            exact M.asc i j h1 h2 h4
          · have hb := blk_lt (s := 2 * s) hr
            omega
      · rw [if_neg c2, if_neg c2]
        refine ⟨rfl, permIn_refl _ _ _, ⟨fun r i _ h1 h2 h3 => ?_, fun r i j _ h1 h2 h3 h4 => ?_⟩⟩
        · rcases Nat.lt_trichotomy r q with hr | hr | hr
          · exact F.tags r i hr h1 h2 h3
          · subst hr
            rw [ha] at h1 h2 ⊢
            have := t1 i (by omega) h1 (by omega) h3
            omega
          · have hb := blk_lt (s := 2 * s) hr
            omega
        · rcases Nat.lt_trichotomy r q with hr | hr | hr
          · exact F.run r i j hr h1 h2 h3 h4
          · subst hr
            rw [ha] at h1 h3
            exact r1 i j (by omega) h1 h2 (by omega) h4
          · have hb := blk_lt (s := 2 * s) hr
            omega

theorem mergeAll_spec (hS : SWO lr) (n : Nat) : ∀ (k s : Nat) (d : Array α), 0 < s → n ≤ k + s → n = d.size → Runs lr tag s n 0 d →
    mergeAll lt n k s d = mergeAll lr n k s d ∧ PermIn 0 n d (mergeAll lr n k s d) ∧ SortedIn lr 0 n (mergeAll lr n k s d) := by
  intro k
  induction k with
  | zero =>
    intro s d hs hk hn R
    exact ⟨rfl, permIn_refl _ _ _, fun i j h1 h2 h3 => R.run 0 i j (Nat.le_refl _) (by omega) h2 (by omega) h3⟩
  | succ k ih =>
    intro s d hs hk hn R
    unfold mergeAll
    by_cases c : s < n
    · rw [if_pos c, if_pos c]
      have h := mergePass_spec ag hS s n hs (n + 1) 0 d (by omega) hn ⟨fun r i hr => by omega, fun r i j hr => by omega⟩ R
      rw [Nat.zero_mul] at h
      obtain ⟨h1, h2, h3⟩ := h
      rw [h1]
      obtain ⟨g1, g2, g3⟩ := ih (2 * s) _ (by omega) (by omega) (by rw [h2.1]; exact hn) h3
      exact ⟨g1, permIn_trans _ _ _ _ _ h2 g2, g3⟩
    · rw [if_neg c, if_neg c]
      exact ⟨rfl, permIn_refl _ _ _, fun i j h1 h2 h3 => R.run 0 i j (Nat.le_refl _) (by omega) h2 (by omega) h3⟩

theorem insBlocks_spec (hS : SWO lr) (n : Nat) : ∀ (k q : Nat) (d : Array α), n ≤ k + q * 20 → n = d.size → q * 20 ≤ n → Front lr tag 20 n q d → (∀ i, q * 20 ≤ i → i < n → tag d[i]! = i) →
    insBlocks lt n (q * 20) d = insBlocks lr n (q * 20) d ∧ PermIn 0 n d (insBlocks lr n (q * 20) d) ∧ Runs lr tag 20 n 0 (insBlocks lr n (q * 20) d) := by
  intro k
  induction k with
  | zero =>
    intro q d hk hn hq F T
    have e : ∀ l : α → α → Bool, insBlocks l n (q * 20) d = insertionSort l d (q * 20) n := fun l => by rw [insBlocks, if_neg (by omega)]
    have e2 : ∀ l : α → α → Bool, insertionSort l d (q * 20) n = d := fun l => by unfold insertionSort; rw [insOuter, if_neg (by omega)]
    rw [e, e, e2, e2]
    refine ⟨rfl, permIn_refl _ _ _, ⟨fun r i _ h1 h2 h3 => F.tags r i (by omega) h1 h2 h3, fun r i j _ h1 h2 h3 h4 => F.run r i j (by omega) h1 h2 h3 h4⟩⟩
  | succ k ih =>
    intro q d hk hn hq F T
    by_cases c : q * 20 + 20 ≤ n
    · have e : ∀ l : α → α → Bool, insBlocks l n (q * 20) d = insBlocks l n (q * 20 + 20) (insertionSort l d (q * 20) (q * 20 + 20)) := fun l => by rw [insBlocks, if_pos c]
      rw [e, e, insertionSort_congr ag (q * 20) (q * 20 + 20) d (by omega) fun x y h1 h2 h3 => by rw [T x h1 (by omega), T y (by omega) (by omega)]; exact h2]
      obtain ⟨hP, hA⟩ := insertionSort_holds hS d (q * 20) (q * 20 + 20) (by omega) (by omega)
      generalize insertionSort lr d (q * 20) (q * 20 + 20) = d1 at hP hA ⊢
      have := ih (q + 1) d1 (by omega) (by rw [hP.1]; exact hn) (by omega) ⟨fun r i hr h1 h2 h3 => ?_, fun r i j hr h1 h2 h3 h4 => ?_⟩ fun i h1 h2 => ?_
      · rw [show (q + 1) * 20 = q * 20 + 20 by omega] at this
        exact ⟨this.1, permIn_trans _ _ _ _ _ (permIn_mono d d1 _ _ 0 n (by omega) c (by omega) hP) this.2.1, this.2.2⟩
      · by_cases hr2 : r = q
        · subst hr2
          exact permIn_all d d1 _ _ (fun x => r * 20 ≤ tag x ∧ tag x < r * 20 + 20) (by omega) hP (fun x x1 x2 => by rw [T x x1 (by omega)]; omega) i h1 h2
        · rw [hP.2.1 i (by omega)]
          exact F.tags r i (by omega) h1 h2 h3
      · by_cases hr2 : r = q
        · subst hr2
          exact hA i j h1 h2 h3
        · rw [hP.2.1 i (by omega), hP.2.1 j (by omega)]
          exact F.run r i j (by omega) h1 h2 h3 h4
      · rw [hP.2.1 i (by omega)]
        exact T i (by omega) h2
    · have e : ∀ l : α → α → Bool, insBlocks l n (q * 20) d = insertionSort l d (q * 20) n := fun l => by rw [insBlocks, if_neg c]
      rw [e, e, insertionSort_congr ag (q * 20) n d (by omega) fun x y h1 h2 h3 => by rw [T x h1 (by omega), T y (by omega) (by omega)]; exact h2]
      obtain ⟨hP, hA⟩ := insertionSort_holds hS d (q * 20) n (by omega) (by omega)
      generalize insertionSort lr d (q * 20) n = d1 at hP hA ⊢
      refine ⟨rfl, permIn_mono d d1 _ _ 0 n (by omega) (Nat.le_refl _) (by omega) hP, ⟨fun r i _ h1 h2 h3 => ?_, fun r i j _ h1 h2 h3 h4 => ?_⟩⟩
      · by_cases hr2 : r = q
        · subst hr2
          exact permIn_all d d1 _ _ (fun x => r * 20 ≤ tag x ∧ tag x < r * 20 + 20) (by omega) hP (fun x x1 x2 => by rw [T x x1 (by omega)]; omega) i h1 h3
        · rw [hP.2.1 i (by omega)]
          exact F.tags r i (by omega) h1 h2 h3
      · by_cases hr2 : r = q
        · subst hr2
          exact hA i j h1 h2 h4
        · rw [hP.2.1 i (by omega), hP.2.1 j (by omega)]
          exact F.run r i j (by omega) h1 h2 h3 h4

theorem stable_spec (hS : SWO lr) (d : Array α) (T : ∀ i, i < d.size → tag d[i]! = i) :
    stable lt d = stable lr d ∧ PermIn 0 d.size d (stable lr d) ∧ SortedIn lr 0 d.size (stable lr d) := by
  unfold stable
  have h := insBlocks_spec ag hS d.size d.size 0 d (by omega) rfl (by omega) ⟨fun r i hr => by omega, fun r i j hr => by omega⟩ fun i _ h => T i h
  rw [Nat.zero_mul] at h
  obtain ⟨h1, h2, h3⟩ := h
  rw [h1]
  have hz := h2.1
  obtain ⟨g1, g2, g3⟩ := mergeAll_spec ag hS d.size d.size 20 _ (by omega) (by omega) hz.symm h3
  exact ⟨g1, permIn_trans _ _ _ _ _ h2 g2, g3⟩
end

/-! ### What does not look at the tags -/
section
variable {β : Type} [Inhabited β] (f : β → α) (lt : α → α → Bool)
def ltf (x y : β) : Bool := lt (f x) (f y)
theorem map_get (d : Array β) (i : Nat) (h : i < d.size) : (d.map f)[i]! = f d[i]! := by
  rw [getElem!_pos (d.map f) i (by simpa using h), getElem!_pos d i h, Array.getElem_map]
theorem map_swp (d : Array β) (i j : Nat) (hi : i < d.size) (hj : j < d.size) : swp (d.map f) i j = (swp d i j).map f := by
  unfold swp
  rw [map_get f d i hi, map_get f d j hj, Array.map_setIfInBounds, Array.map_setIfInBounds]
theorem map_insInner (a : Nat) : ∀ (j : Nat) (d : Array β), j < d.size → insInner lt a j (d.map f) = (insInner (ltf f lt) a j d).map f := by
  intro j
  induction j with
  | zero => intro d _; rfl
  | succ j ih =>
    intro d hj
    unfold insInner
    rw [map_get f d _ hj, map_get f d _ (by omega), map_swp f d _ _ hj (by omega), ih _ (by rw [size_swp]; omega), ← apply_ite (Array.map f)]
    rfl
theorem size_insInner (l : β → β → Bool) (a : Nat) : ∀ (j : Nat) (d : Array β), (insInner l a j d).size = d.size := by
  intro j
  induction j with
  | zero => intro d; rfl
  | succ j ih =>
    intro d
    unfold insInner
    split
    · rw [ih, size_swp]
    · rfl
theorem insOuter_pos {γ : Type} [Inhabited γ] (l : γ → γ → Bool) (a b i : Nat) (d : Array γ) (h : i < b) : insOuter l a b i d = insOuter l a b (i + 1) (insInner l a i d) := by rw [insOuter, if_pos h]
theorem shiftR_pos {γ : Type} [Inhabited γ] (k e : Nat) (d : Array γ) (h : k < e) : shiftR k e d = shiftR (k + 1) e (swp d k (k + 1)) := by rw [shiftR, if_pos h]
theorem swapR_pos {γ : Type} [Inhabited γ] (a b n i : Nat) (d : Array γ) (h : i < n) : swapR a b n i d = swapR a b n (i + 1) (swp d (a + i) (b + i)) := by rw [swapR, if_pos h]
theorem insBlocks_pos {γ : Type} [Inhabited γ] (l : γ → γ → Bool) (n a : Nat) (d : Array γ) (h : a + 20 ≤ n) : insBlocks l n a d = insBlocks l n (a + 20) (insertionSort l d a (a + 20)) := by rw [insBlocks, if_pos h]
theorem map_insOuter (a b : Nat) : ∀ (k i : Nat) (d : Array β), b - i ≤ k → b ≤ d.size → insOuter lt a b i (d.map f) = (insOuter (ltf f lt) a b i d).map f := by
  intro k
  induction k with
  | zero => intro i d hk _; rw [insOuter, if_neg (by omega), insOuter, if_neg (by omega)]
  | succ k ih =>
    intro i d hk hb
    by_cases h : i < b
    · rw [insOuter_pos lt _ _ _ _ h, insOuter_pos (ltf f lt) _ _ _ _ h, map_insInner f lt a i d (by omega), ih _ _ (by omega) (by rw [size_insInner]; exact hb)]
    · rw [insOuter, if_neg h, insOuter, if_neg h]
theorem map_shiftR (e : Nat) : ∀ (n k : Nat) (d : Array β), e - k ≤ n → e < d.size → shiftR k e (d.map f) = (shiftR k e d).map f := by
  intro n
  induction n with
  | zero => intro k d h _; rw [shiftR, if_neg (by omega), shiftR, if_neg (by omega)]
  | succ n ih =>
    intro k d h he
    by_cases hk : k < e
    · rw [shiftR_pos _ _ (d.map f) hk, shiftR_pos _ _ d hk, map_swp f d _ _ (by omega) (by omega), ih _ _ (by omega) (by rw [size_swp]; exact he)]
    · rw [shiftR, if_neg hk, shiftR, if_neg hk]
theorem map_shiftL (i : Nat) : ∀ (k : Nat) (d : Array β), k < d.size → shiftL i k (d.map f) = (shiftL i k d).map f := by
  intro k
  induction k with
  | zero => intro d _; rfl
  | succ k ih =>
    intro d hk
    unfold shiftL
    split
    · rw [map_swp f d _ _ (by omega) (by omega), ih _ (by rw [size_swp]; omega)]
    · rfl
theorem map_swapR (a b n : Nat) : ∀ (k i : Nat) (d : Array β), n - i ≤ k → a + n ≤ d.size → b + n ≤ d.size → swapR a b n i (d.map f) = (swapR a b n i d).map f := by
  intro k
  induction k with
  | zero => intro i d h _ _; rw [swapR, if_neg (by omega), swapR, if_neg (by omega)]
  | succ k ih =>
    intro i d h ha hb
    by_cases hi : i < n
    · rw [swapR_pos _ _ _ _ (d.map f) hi, swapR_pos _ _ _ _ d hi, map_swp f d _ _ (by omega) (by omega), ih _ _ (by omega) (by rw [size_swp]; exact ha) (by rw [size_swp]; exact hb)]
    · rw [swapR, if_neg hi, swapR, if_neg hi]
theorem size_swapR (a b n : Nat) : ∀ (k i : Nat) (d : Array β), n - i ≤ k → (swapR a b n i d).size = d.size := by
  intro k
  induction k with
  | zero => intro i d h; rw [swapR, if_neg (by omega)]
  | succ k ih =>
    intro i d h
    by_cases hi : i < n
    · rw [swapR, if_pos hi, ih _ _ (by omega), size_swp]
    · rw [swapR, if_neg hi]
theorem map_rotL (m : Nat) : ∀ (k i j : Nat) (d : Array β), i ≤ m → m + j ≤ d.size → rotL m k i j (d.map f) = (rotL m k i j d).map f := by
  intro k
  induction k with
  | zero => intro i j d _ _; rfl
  | succ k ih =>
    intro i j d hi hj
    unfold rotL
    by_cases e : i = j
    · rw [if_pos e, if_pos e, map_swapR f _ _ _ i 0 d (by omega) (by omega) (by omega)]
    · rw [if_neg e, if_neg e]
      by_cases g : i > j
      · rw [if_pos g, if_pos g, map_swapR f _ _ _ j 0 d (by omega) (by omega) (by omega), ih _ _ _ (by omega) (by rw [size_swapR _ _ _ j 0 d (by omega)]; exact hj)]
      · rw [if_neg g, if_neg g, map_swapR f _ _ _ i 0 d (by omega) (by omega) (by omega), ih _ _ _ (by omega) (by rw [size_swapR _ _ _ i 0 d (by omega)]; omega)]
theorem map_symM : ∀ (k a m b : Nat) (d : Array β), a < m → m < b → b ≤ d.size → symM lt k a m b (d.map f) = (symM (ltf f lt) k a m b d).map f := by
  intro k
  induction k with
  | zero => intro a m b d _ _ _; rfl
  | succ k ih =>
    intro a m b d ham hmb hsz
    unfold symM
    by_cases e1 : m - a = 1
    · rw [if_pos e1, if_pos e1]
      have hc : bs (fun h => lt (d.map f)[h]! (d.map f)[a]!) m b = bs (fun h => ltf f lt d[h]! d[a]!) m b :=
        bs_congr _ _ (b - m) m b (Nat.le_refl _) fun x x1 x2 => by rw [map_get f d x (by omega), map_get f d a (by omega)]; rfl
      obtain ⟨g1, g2, _⟩ := bs_spec (fun h => ltf f lt d[h]! d[a]!) m b (b - m) m b (by omega) (by omega) (by omega) (by omega) (.inl rfl) (.inl rfl)
      rw [hc, map_shiftR f _ _ _ _ (Nat.le_refl _) (by omega)]
    rw [if_neg e1, if_neg e1]
    by_cases e2 : b - m = 1
    · rw [if_pos e2, if_pos e2]
      have hc : bs (fun h => !lt (d.map f)[m]! (d.map f)[h]!) a m = bs (fun h => !ltf f lt d[m]! d[h]!) a m :=
        bs_congr _ _ (m - a) a m (Nat.le_refl _) fun x x1 x2 => by rw [map_get f d x (by omega), map_get f d m (by omega)]; rfl
      rw [hc, map_shiftL f _ _ _ (by omega)]
    rw [if_neg e2, if_neg e2]
    simp only
    generalize hmid : (a + b) / 2 = mid
    have hbs : bs (fun c => !lt (d.map f)[mid + m - 1 - c]! (d.map f)[c]!) (if m > mid then mid + m - b else a) (if m > mid then mid else m) = bs (fun c => !ltf f lt d[mid + m - 1 - c]! d[c]!) (if m > mid then mid + m - b else a) (if m > mid then mid else m) := by
      refine bs_congr _ _ b _ _ (by split <;> omega) fun c c1 c2 => ?_
      rw [map_get f d _ (by split at c1 <;> split at c2 <;> omega), map_get f d _ (by split at c1 <;> split at c2 <;> omega)]
      rfl
    rw [hbs]
    obtain ⟨g1, g2, _⟩ := bs_spec (fun c => !ltf f lt d[mid + m - 1 - c]! d[c]!) (if m > mid then mid + m - b else a) (if m > mid then mid else m) b (if m > mid then mid + m - b else a) (if m > mid then mid else m)
      (by split <;> omega) (Nat.le_refl _) (by split <;> omega) (Nat.le_refl _) (.inl rfl) (.inl rfl)
    generalize bs (fun c => !ltf f lt d[mid + m - 1 - c]! d[c]!) (if m > mid then mid + m - b else a) (if m > mid then mid else m) = st at g1 g2 ⊢
    have hst : a ≤ st ∧ st ≤ m ∧ st ≤ mid ∧ mid + m - st ≤ b ∧ m ≤ mid + m - st := by split at g1 <;> split at g2 <;> omega
    obtain ⟨h1, h2, h3, h4, h5⟩ := hst
    generalize hen : mid + m - st = en at h4 h5 ⊢
    have q1 : (if st < m ∧ m < en then rotate st m en (d.map f) else d.map f) = (if st < m ∧ m < en then rotate st m en d else d).map f := by
      split
      · unfold rotate; exact map_rotL f m _ _ _ d (by omega) (by omega)
      · rfl
    rw [q1]
    have o1 : ∃ d1, (if st < m ∧ m < en then rotate st m en d else d) = d1 ∧ d1.size = d.size := by
      refine ⟨_, rfl, ?_⟩
      split
      · rename_i hc; exact (rotate_spec st m en d hc.1 hc.2 (by omega)).1.size
      · rfl
    obtain ⟨d1, e1, z1⟩ := o1
    rw [e1]
    have q2 : (if a < st ∧ st < mid then symM lt k a st mid (d1.map f) else d1.map f) = (if a < st ∧ st < mid then symM (ltf f lt) k a st mid d1 else d1).map f := by
      split
      · rename_i hc; exact ih a st mid d1 hc.1 hc.2 (by omega)
      · rfl
    rw [q2]
    have o2 : ∃ d2, (if a < st ∧ st < mid then symM (ltf f lt) k a st mid d1 else d1) = d2 ∧ d2.size = d.size := by
      refine ⟨_, rfl, ?_⟩
      split
      · rename_i hc; rw [(symM_out (ltf f lt) k a st mid d1 hc.1 hc.2 (by omega)).size, z1]
      · exact z1
    obtain ⟨d2, e2, z2⟩ := o2
    rw [e2]
    split
    · rename_i hc; exact ih mid en b d2 hc.1 hc.2 (by omega)
    · rfl
theorem size_symM (l : β → β → Bool) (k a m b : Nat) (d : Array β) (h1 : a < m) (h2 : m < b) (h3 : b ≤ d.size) : (symM l k a m b d).size = d.size := (symM_out l k a m b d h1 h2 h3).size
theorem size_mergePass (l : β → β → Bool) (s n : Nat) (hs : 0 < s) : ∀ (k a : Nat) (d : Array β), n = d.size → (mergePass l s n k a d).size = d.size := by
  intro k
  induction k with
  | zero => intro a d _; rfl
  | succ k ih =>
    intro a d hn
    unfold mergePass
    split
    · rw [ih _ _ (by rw [size_symM _ _ _ _ _ _ (by omega) (by omega) (by omega)]; exact hn), size_symM _ _ _ _ _ _ (by omega) (by omega) (by omega)]
    · split
      · rw [size_symM _ _ _ _ _ _ (by omega) (by omega) (by omega)]
      · rfl
theorem map_mergePass (s n : Nat) (hs : 0 < s) : ∀ (k a : Nat) (d : Array β), n = d.size → mergePass lt s n k a (d.map f) = (mergePass (ltf f lt) s n k a d).map f := by
  intro k
  induction k with
  | zero => intro a d _; rfl
  | succ k ih =>
    intro a d hn
    unfold mergePass
    split
    · rw [map_symM f lt _ _ _ _ _ (by omega) (by omega) (by omega), ih _ _ (by rw [size_symM _ _ _ _ _ _ (by omega) (by omega) (by omega)]; exact hn)]
    · split
      · rw [map_symM f lt _ _ _ _ _ (by omega) (by omega) (by omega)]
      · rfl
theorem map_mergeAll (n : Nat) : ∀ (k s : Nat) (d : Array β), 0 < s → n = d.size → mergeAll lt n k s (d.map f) = (mergeAll (ltf f lt) n k s d).map f := by
  intro k
  induction k with
  | zero => intro s d _ _; rfl
  | succ k ih =>
    intro s d hs hn
    unfold mergeAll
    split
    · rw [map_mergePass f lt s n hs _ _ _ hn, ih _ _ (by omega) (by rw [size_mergePass _ _ _ hs _ _ _ hn]; exact hn)]
    · rfl
theorem map_insertionSort (a b : Nat) (d : Array β) (hb : b ≤ d.size) : insertionSort lt (d.map f) a b = (insertionSort (ltf f lt) d a b).map f := map_insOuter f lt a b (b - (a + 1)) (a + 1) d (Nat.le_refl _) hb
theorem size_insOuter (l : β → β → Bool) (a b : Nat) : ∀ (k i : Nat) (d : Array β), b - i ≤ k → (insOuter l a b i d).size = d.size := by
  intro k
  induction k with
  | zero => intro i d hk; rw [insOuter, if_neg (by omega)]
  | succ k ih =>
    intro i d hk
    by_cases h : i < b
    · rw [insOuter, if_pos h, ih _ _ (by omega), size_insInner]
    · rw [insOuter, if_neg h]
theorem size_insertionSort (l : β → β → Bool) (a b : Nat) (d : Array β) : (insertionSort l d a b).size = d.size := size_insOuter l a b (b - (a + 1)) (a + 1) d (Nat.le_refl _)
theorem map_insBlocks (n : Nat) : ∀ (k a : Nat) (d : Array β), n ≤ k + a → n = d.size → insBlocks lt n a (d.map f) = (insBlocks (ltf f lt) n a d).map f := by
  intro k
  induction k with
  | zero => intro a d h hn; rw [insBlocks, if_neg (by omega), insBlocks, if_neg (by omega), map_insertionSort f lt _ _ _ (by omega)]
  | succ k ih =>
    intro a d h hn
    by_cases c : a + 20 ≤ n
    · rw [insBlocks_pos lt _ _ _ c, insBlocks_pos (ltf f lt) _ _ _ c, map_insertionSort f lt _ _ _ (by omega), ih _ _ (by omega) (by rw [size_insertionSort]; exact hn)]
    · rw [insBlocks, if_neg c, insBlocks, if_neg c, map_insertionSort f lt _ _ _ (by omega)]
theorem size_insBlocks (l : β → β → Bool) (n : Nat) : ∀ (k a : Nat) (d : Array β), n ≤ k + a → (insBlocks l n a d).size = d.size := by
  intro k
  induction k with
  | zero => intro a d h; rw [insBlocks, if_neg (by omega), size_insertionSort]
  | succ k ih =>
    intro a d h
    by_cases c : a + 20 ≤ n
    · rw [insBlocks, if_pos c, ih _ _ (by omega), size_insertionSort]
    · rw [insBlocks, if_neg c, size_insertionSort]
theorem map_stable (d : Array β) : stable lt (d.map f) = (stable (ltf f lt) d).map f := by
  unfold stable
  rw [Array.size_map, map_insBlocks f lt d.size d.size 0 d (by omega) rfl, map_mergeAll f lt _ _ _ _ (by omega) (by rw [size_insBlocks _ _ d.size 0 d (by omega)])]
end

/-! ### The whole -/
def lexlt (lt : α → α → Bool) (x y : α × Nat) : Bool := lt x.1 y.1 || (!lt y.1 x.1 && decide (x.2 < y.2))
omit [Inhabited α] in
theorem swo_lex {lt : α → α → Bool} (h : SWO lt) : SWO (lexlt lt) where
  irrefl x := by simp [lexlt, h.irrefl]
  trans x y z h1 h2 := by
    simp only [lexlt, Bool.or_eq_true, Bool.and_eq_true, Bool.not_eq_true', decide_eq_true_eq] at *
    rcases h1 with h1 | ⟨h1, h1'⟩
    · rcases h2 with h2 | ⟨h2, h2'⟩
      · exact .inl (h.trans _ _ _ h1 h2)
      · refine .inl ?_
        cases hc : lt x.1 z.1 with
        | true => rfl
        | false => have := h.ntrans _ _ _ hc h2; rw [h1] at this; cases this
    · rcases h2 with h2 | ⟨h2, h2'⟩
      · refine .inl ?_
        cases hc : lt x.1 z.1 with
        | true => rfl
        | false => have := h.ntrans _ _ _ h1 hc; rw [h2] at this; cases this
      · exact .inr ⟨h.ntrans _ _ _ h2 h1, by omega⟩
  ntrans x y z h1 h2 := by
    simp only [lexlt, Bool.or_eq_false_iff, Bool.and_eq_false_iff, Bool.not_eq_false', decide_eq_false_iff_not] at *
    refine ⟨h.ntrans _ _ _ h1.1 h2.1, ?_⟩
    cases hc : lt z.1 x.1 with
    | true => exact .inl rfl
    | false =>
      refine .inr ?_
      have a1 := h1.2
      have a2 := h2.2
      have b1 : lt y.1 x.1 = false := by
        cases hy : lt y.1 x.1 with
        | false => rfl
        | true => have := h.ntrans _ _ _ h2.1 hc; rw [hy] at this; cases this
      have b2 : lt z.1 y.1 = false := by
        cases hy : lt z.1 y.1 with
        | false => rfl
        | true => have := h.ntrans _ _ _ hc h1.1; rw [hy] at this; cases this
      rw [b1] at a1
      rw [b2] at a2
      simp only [Bool.false_eq_true, false_or] at a1 a2
      omega

/-- THE STABLE SORT GIVES core's mergeSort. -/
theorem stable_eq {lt : α → α → Bool} (hS : SWO lt) (d : Array α) : (stable lt d).toList = d.toList.mergeSort (fun x y => !lt y x) := by
  let e : Array (α × Nat) := d.zipIdx
  have he : e.map Prod.fst = d := by
    refine Array.ext (by simp [e]) fun i h1 h2 => ?_
    simp [e]
  have hsz : e.size = d.size := by simp [e]
  have hel : e.toList = d.toList.zipIdx := by simp [e]
  have T : ∀ i, i < e.size → (fun x : α × Nat => x.2) e[i]! = i := by
    intro i hi
    show (e[i]!).2 = i
    rw [getElem!_pos e i hi]
    simp [e]
  have ag : ∀ x y : α × Nat, (fun x : α × Nat => x.2) x < (fun x : α × Nat => x.2) y → ltf Prod.fst lt y x = lexlt lt y x := by
    intro x y hxy
    simp only at hxy
    have : decide (y.2 < x.2) = false := decide_eq_false (by omega)
    simp [ltf, lexlt, this]
  obtain ⟨h1, h2, h3⟩ := stable_spec ag (swo_lex hS) e T
  have hu : (stable (ltf Prod.fst lt) e).toList = e.toList.mergeSort (List.zipIdxLE fun x y => !lt y x) := by
    rw [h1]
    obtain ⟨hz, _, hp⟩ := h2
    have e1 : (stable (lexlt lt) e).extract 0 e.size = stable (lexlt lt) e := by rw [← hz]; exact Array.extract_size
    rw [e1, Array.extract_size] at hp
    have le_eq : ∀ x y : α × Nat, (List.zipIdxLE (fun x y => !lt y x) x y) = true ↔ lexlt lt y x = false := by
      intro x y
      unfold List.zipIdxLE lexlt
      cases ha : lt y.1 x.1 <;> cases hb : lt x.1 y.1 <;> simp [ha, hb]
    refine List.Perm.eq_of_pairwise (le := fun x y => lexlt lt y x = false) ?_ ?_ ?_ (hp.trans (List.mergeSort_perm _ _).symm)
    · intro x y hx hy h1 h2
      have hx' := (hp.mem_iff).1 hx
      have hy' := ((List.mergeSort_perm _ _).mem_iff).1 hy
      simp only [lexlt, Bool.or_eq_false_iff, Bool.and_eq_false_iff, Bool.not_eq_false', decide_eq_false_iff_not] at h1 h2
      have : x.2 = y.2 := by
        have a1 := h1.2
        have a2 := h2.2
        rw [h2.1] at a1
        rw [h1.1] at a2
        simp only [Bool.false_eq_true, false_or] at a1 a2
        omega
      rw [hel] at hx' hy'
      have g1 := List.mk_mem_zipIdx_iff_getElem?.1 (show (x.1, x.2) ∈ d.toList.zipIdx from hx')
      have g2 := List.mk_mem_zipIdx_iff_getElem?.1 (show (y.1, y.2) ∈ d.toList.zipIdx from hy')
      rw [this, g2] at g1
      injection g1 with g1
      exact Prod.ext g1.symm this
    · rw [List.pairwise_iff_getElem]
      intro i j hi hj hij
      have hi' : i < (stable (lexlt lt) e).size := by simpa using hi
      have hj' : j < (stable (lexlt lt) e).size := by simpa using hj
      have := h3 i j (Nat.zero_le _) hij (by omega)
      rw [getElem!_pos _ j hj', getElem!_pos _ i hi'] at this
      simpa using this
    · have hp := List.pairwise_mergeSort (le := List.zipIdxLE fun x y => !lt y x) (fun a b c h1 h2 => by
        rw [le_eq] at *
        exact (swo_lex hS).ntrans _ _ _ h2 h1) (fun a b => by
        rw [Bool.or_eq_true, le_eq, le_eq]
        cases hc : lexlt lt b a with
        | false => exact .inl rfl
        | true => exact .inr ((swo_lex hS).asymmA hc)) e.toList
      exact hp.imp fun {a b} h => (le_eq a b).1 h
  have := map_stable Prod.fst lt e
  rw [he] at this
  rw [this, Array.toList_map, hu, hel]
  exact List.mergeSort_zipIdx
end Go.Proofs.Ytlpdligkjihkeaa.St
