/- Walks and plain laws: the stable sort of items. -/
import Derived.Sort.LotA
import Derived.Test.YtnldnaogbadajaaProg
import Derived.Shelf.SlSortCmp.KitK
import Derived.Sort.WalkA
import Derived.Sort.WalkB2
import Derived.Sort.WalkB12
import Derived.Deep.LoopGhost
import Derived.BigRegion
import Derived.BigQuiet
import Derived.WalkKit
import Derived.Outline
import Derived.Lib.Hide
import Derived.Deep.DeepCutAuto
import Derived.Deep.CutBlock

/- The plain side of Go's stable sort (insertion sort of blocks, symMerge, rotate): it gives the stable sorted list. No program in this text. -/
namespace Go.Proofs.Ytnldnaogbadajaa.St
open Go.Sort
variable {α : Type} [Inhabited α]

/-! ### Segments -/
def seg (d : Array α) (a b : Nat) : List α := (List.range' a (b - a)).map fun i => d[i]!
theorem seg_length (d : Array α) (a b : Nat) : (seg d a b).length = b - a := by simp [seg]
theorem seg_nil (d : Array α) (a b : Nat) (h : b ≤ a) : seg d a b = [] := by simp [seg, show b - a = 0 by omega]
theorem seg_cons (d : Array α) (a b : Nat) (h : a < b) : seg d a b = d[a]! :: seg d (a + 1) b := by
  unfold seg
  rw [show b - a = (b - (a + 1)) + 1 by omega, List.range'_succ]
  rfl
theorem seg_append (d : Array α) (a b c : Nat) (h1 : a ≤ b) (h2 : b ≤ c) : seg d a c = seg d a b ++ seg d b c := by
  unfold seg
  rw [← List.map_append]
  congr 1
  have := List.range'_append (s := a) (m := b - a) (n := c - b) (step := 1)
  rw [show a + 1 * (b - a) = b by omega, show b - a + (c - b) = c - a by omega] at this
  exact this.symm
theorem seg_get (d : Array α) (a b k : Nat) (h : k < b - a) : (seg d a b)[k]? = some d[a + k]! := by
  unfold seg
  rw [List.getElem?_map, List.getElem?_range' (by omega)]
  simp
theorem seg_eq (d d' : Array α) (a b a' b' : Nat) (hl : b - a = b' - a') (h : ∀ k, k < b - a → d[a + k]! = d'[a' + k]!) : seg d a b = seg d' a' b' := by
  refine List.ext_getElem? fun k => ?_
  by_cases hk : k < b - a
  · rw [seg_get d a b k hk, seg_get d' a' b' k (by omega), h k hk]
  · rw [List.getElem?_eq_none (by rw [seg_length]; omega), List.getElem?_eq_none (by rw [seg_length]; omega)]
theorem seg_mem (d : Array α) (a b : Nat) (x : α) : x ∈ seg d a b ↔ ∃ i, a ≤ i ∧ i < b ∧ d[i]! = x := by
  unfold seg
  simp only [List.mem_map, List.mem_range'_1]
  constructor
  · rintro ⟨i, ⟨h1, h2⟩, h⟩; exact ⟨i, h1, by omega, h⟩
  · rintro ⟨i, h1, h2, h⟩; exact ⟨i, ⟨h1, by omega⟩, h⟩
theorem seg_whole (d : Array α) : seg d 0 d.size = d.toList := by
  rw [seg, ← extract_toList d 0 d.size (Nat.le_refl _), Array.extract_size]

/-- d' is d, but for the places from a to b. -/
structure Out (a b : Nat) (d d' : Array α) : Prop where
  size : d'.size = d.size
  out : ∀ i, i < a ∨ b ≤ i → d'[i]! = d[i]!
theorem Out.refl (a b : Nat) (d : Array α) : Out a b d d := ⟨rfl, fun _ _ => rfl⟩
theorem Out.trans {a b : Nat} {d d' d'' : Array α} (h : Out a b d d') (k : Out a b d' d'') : Out a b d d'' := ⟨k.size.trans h.size, fun i hi => (k.out i hi).trans (h.out i hi)⟩
theorem Out.mono {a b a' b' : Nat} {d d' : Array α} (h : Out a b d d') (h1 : a' ≤ a) (h2 : b ≤ b') : Out a' b' d d' := ⟨h.size, fun i hi => h.out i (by omega)⟩
theorem Out.seg {a b : Nat} {d d' : Array α} (h : Out a b d d') (x y : Nat) (hxy : y ≤ a ∨ b ≤ x) : seg d' x y = seg d x y :=
  seg_eq _ _ _ _ _ _ rfl fun k hk => h.out _ (by omega)
theorem out_swp (d : Array α) (i j a b : Nat) (hi : a ≤ i ∧ i < b) (hj : a ≤ j ∧ j < b) : Out a b d (swp d i j) :=
  ⟨size_swp _ _ _, fun k hk => swp_other _ _ _ _ (by omega) (by omega)⟩

/-! ### The loops -/
/-- for i < j { h := (i+j)/2; if p(h) { i = h+1 } else { j = h } }: what i is at the end. -/
def bs (p : Nat → Bool) (i j : Nat) : Nat :=
  if i < j then (if p ((i + j) / 2) then bs p ((i + j) / 2 + 1) j else bs p i ((i + j) / 2)) else i
termination_by j - i
theorem bs_spec (p : Nat → Bool) (i0 j0 : Nat) : ∀ (k i j : Nat), j - i ≤ k → i0 ≤ i → i ≤ j → j ≤ j0 → (i = i0 ∨ p (i - 1) = true) → (j = j0 ∨ p j = false) →
    i ≤ bs p i j ∧ bs p i j ≤ j ∧ (bs p i j = i0 ∨ p (bs p i j - 1) = true) ∧ (bs p i j = j0 ∨ p (bs p i j) = false) := by
  intro k
  induction k with
  | zero =>
    intro i j hk _ hij _ h1 h2
    have : i = j := by omega
    subst this
    rw [bs, if_neg (by omega)]
    exact ⟨Nat.le_refl _, Nat.le_refl _, h1, h2⟩
  | succ k ih =>
    intro i j hk h0 hij hj h1 h2
    by_cases hlt : i < j
    · rw [bs, if_pos hlt]
      cases hp : p ((i + j) / 2) with
      | true =>
        rw [if_pos rfl]
        obtain ⟨a, b, c⟩ := ih ((i + j) / 2 + 1) j (by omega) (by omega) (by omega) hj (.inr (by simpa using hp)) h2
        exact ⟨by omega, b, c⟩
      | false =>
        rw [if_neg (by simp)]
        obtain ⟨a, b, c⟩ := ih i ((i + j) / 2) (by omega) h0 (by omega) (by omega) h1 (.inr hp)
        exact ⟨a, by omega, c⟩
    · rw [bs, if_neg hlt]
      have : i = j := by omega
      subst this
      exact ⟨Nat.le_refl _, Nat.le_refl _, h1, h2⟩
theorem bs_stop (p : Nat → Bool) (i j : Nat) (h : ¬ i < j) : bs p i j = i := by rw [bs, if_neg h]
theorem bs_up (p : Nat → Bool) (i j : Nat) (h : i < j) (hp : p ((i + j) / 2) = true) : bs p i j = bs p ((i + j) / 2 + 1) j := by rw [bs, if_pos h, if_pos hp]
theorem bs_dn (p : Nat → Bool) (i j : Nat) (h : i < j) (hp : p ((i + j) / 2) = false) : bs p i j = bs p i ((i + j) / 2) := by rw [bs, if_pos h, if_neg (by simp [hp])]
theorem bs_congr (p q : Nat → Bool) : ∀ (k i j : Nat), j - i ≤ k → (∀ h, i ≤ h → h < j → p h = q h) → bs p i j = bs q i j := by
  intro k
  induction k with
  | zero => intro i j hk _; rw [bs_stop p _ _ (by omega), bs_stop q _ _ (by omega)]
  | succ k ih =>
    intro i j hk h
    by_cases hlt : i < j
    · have e := h ((i + j) / 2) (by omega) (by omega)
      cases hq : q ((i + j) / 2) with
      | true => rw [bs_up p _ _ hlt (e.trans hq), bs_up q _ _ hlt hq]; exact ih _ _ (by omega) fun x h1 h2 => h x (by omega) h2
      | false => rw [bs_dn p _ _ hlt (e.trans hq), bs_dn q _ _ hlt hq]; exact ih _ _ (by omega) fun x h1 h2 => h x h1 (by omega)
    · rw [bs_stop p _ _ hlt, bs_stop q _ _ hlt]

/-- for ; k < e; k++ { swap k, k+1 } -/
def shiftR (k e : Nat) (d : Array α) : Array α := if k < e then shiftR (k + 1) e (swp d k (k + 1)) else d
termination_by e - k
/-- for ; k > i; k-- { swap k, k-1 } -/
def shiftL (i : Nat) : Nat → Array α → Array α
  | 0, d => d
  | k + 1, d => if k + 1 > i then shiftL i k (swp d (k + 1) k) else d

theorem shiftR_spec (e : Nat) : ∀ (n k : Nat) (d : Array α), e - k ≤ n → k ≤ e → e < d.size →
    Out k (e + 1) d (shiftR k e d) ∧ seg (shiftR k e d) k (e + 1) = seg d (k + 1) (e + 1) ++ [d[k]!] := by
  intro n
  induction n with
  | zero =>
    intro k d h1 h2 h3
    rw [shiftR, if_neg (by omega)]
    have : k = e := by omega
    subst this
    exact ⟨Out.refl _ _ _, by rw [seg_cons _ _ _ (by omega), seg_nil _ _ _ (by omega)]; rfl⟩
  | succ n ih =>
    intro k d h1 h2 h3
    by_cases h : k < e
    · rw [shiftR, if_pos h]
      obtain ⟨o, s⟩ := ih (k + 1) (swp d k (k + 1)) (by omega) (by omega) (by rw [size_swp]; exact h3)
      have o2 := o.mono (a' := k) (b' := e + 1) (by omega) (by omega)
      refine ⟨(out_swp d k (k + 1) k (e + 1) (by omega) (by omega)).trans o2, ?_⟩
      rw [seg_cons _ _ _ (by omega), s, o.out k (by omega), swp_left _ _ _ (by omega) (by omega), swp_right _ _ _ (by omega), seg_cons d (k + 1) _ (by omega), List.cons_append]
      congr 2
      exact seg_eq _ _ _ _ _ _ rfl fun i hi => swp_other _ _ _ _ (by omega) (by omega)
    · rw [shiftR, if_neg h]
      have : k = e := by omega
      subst this
      exact ⟨Out.refl _ _ _, by rw [seg_cons _ _ _ (by omega), seg_nil _ _ _ (by omega)]; rfl⟩

theorem shiftL_spec (i : Nat) : ∀ (k : Nat) (d : Array α), i ≤ k → k < d.size →
    Out i (k + 1) d (shiftL i k d) ∧ seg (shiftL i k d) i (k + 1) = d[k]! :: seg d i k := by
  intro k
  induction k with
  | zero =>
    intro d h1 h2
    have : i = 0 := by omega
    subst this
    exact ⟨Out.refl _ _ _, by rw [shiftL, seg_cons _ _ _ (by omega), seg_nil _ _ _ (by omega), seg_nil _ _ _ (by omega)]⟩
  | succ k ih =>
    intro d h1 h2
    by_cases h : k + 1 > i
    · rw [shiftL, if_pos h]
      obtain ⟨o, s⟩ := ih (swp d (k + 1) k) (by omega) (by rw [size_swp]; omega)
      refine ⟨(out_swp d (k + 1) k i (k + 1 + 1) (by omega) (by omega)).trans (o.mono (by omega) (by omega)), ?_⟩
      rw [seg_append _ i (k + 1) (k + 1 + 1) (by omega) (by omega), s, swp_right _ _ _ (by omega), seg_cons _ (k + 1) _ (by omega), seg_nil _ (k + 1 + 1) _ (by omega), o.out (k + 1) (by omega),
        swp_left _ _ _ (by omega) (by omega), seg_append d i k (k + 1) (by omega) (by omega), seg_cons d k _ (by omega), seg_nil d (k + 1) _ (by omega), List.cons_append]
      congr 2
      exact seg_eq _ _ _ _ _ _ rfl fun j hj => swp_other _ _ _ _ (by omega) (by omega)
    · rw [shiftL, if_neg h]
      have : i = k + 1 := by omega
      subst this
      exact ⟨Out.refl _ _ _, by rw [seg_cons _ _ _ (by omega), seg_nil _ _ _ (by omega), seg_nil _ _ _ (by omega)]⟩

/-- for ; i < n; i++ { swap a+i, b+i } -/
def swapR (a b n i : Nat) (d : Array α) : Array α := if i < n then swapR a b n (i + 1) (swp d (a + i) (b + i)) else d
termination_by n - i
theorem swapR_spec (a b n : Nat) (hab : a + n ≤ b) : ∀ (k i : Nat) (d : Array α), n - i ≤ k → i ≤ n → b + n ≤ d.size →
    (swapR a b n i d).size = d.size ∧ ∀ j, (swapR a b n i d)[j]! = if a + i ≤ j ∧ j < a + n then d[j - a + b]! else if b + i ≤ j ∧ j < b + n then d[j - b + a]! else d[j]! := by
  intro k
  induction k with
  | zero =>
    intro i d h1 h2 h3
    rw [swapR, if_neg (by omega)]
    exact ⟨rfl, fun j => by rw [if_neg (by omega), if_neg (by omega)]⟩
  | succ k ih =>
    intro i d h1 h2 h3
    by_cases h : i < n
    · rw [swapR, if_pos h]
      obtain ⟨z, g⟩ := ih (i + 1) (swp d (a + i) (b + i)) (by omega) (by omega) (by rw [size_swp]; exact h3)
      refine ⟨by rw [z, size_swp], fun j => ?_⟩
      rw [g j]
      by_cases e1 : j = a + i
      · subst e1
        rw [if_neg (by omega), if_neg (by omega), if_pos (by omega), swp_left _ _ _ (by omega) (by omega)]
        congr 1; omega
      · by_cases e2 : j = b + i
        · subst e2
          rw [if_neg (by omega), if_neg (by omega), if_neg (by omega), if_pos (by omega), swp_right _ _ _ (by omega)]
          congr 1; omega
        · by_cases e3 : a + i ≤ j ∧ j < a + n
          · rw [if_pos (by omega), if_pos e3, swp_other _ _ _ _ (by omega) (by omega)]
          · rw [if_neg (by omega), if_neg e3]
            by_cases e4 : b + i ≤ j ∧ j < b + n
            · rw [if_pos (by omega), if_pos e4, swp_other _ _ _ _ (by omega) (by omega)]
            · rw [if_neg (by omega), if_neg e4, swp_other _ _ _ _ (by omega) (by omega)]
    · rw [swapR, if_neg h]
      exact ⟨rfl, fun j => by rw [if_neg (by omega), if_neg (by omega)]⟩

/-- for i != j { if i > j { swap(m-i, m, j); i -= j } else { swap(m-i, m+j-i, i); j -= i } }; swap(m-i, m, i): k rounds at most. -/
def rotL (m : Nat) : Nat → Nat → Nat → Array α → Array α
  | 0, _, _, d => d
  | k + 1, i, j, d => if i = j then swapR (m - i) m i 0 d else if i > j then rotL m k (i - j) j (swapR (m - i) m j 0 d) else rotL m k i (j - i) (swapR (m - i) (m + j - i) i 0 d)
def rotate (a m b : Nat) (d : Array α) : Array α := rotL m (b - a) (m - a) (b - m) d

theorem rotL_spec (m : Nat) : ∀ (k i j : Nat) (d : Array α), i + j ≤ k → 0 < i → 0 < j → i ≤ m → m + j ≤ d.size →
    Out (m - i) (m + j) d (rotL m k i j d) ∧ seg (rotL m k i j d) (m - i) (m + j) = seg d m (m + j) ++ seg d (m - i) m := by
  intro k
  induction k with
  | zero => intro i j d h; omega
  | succ k ih =>
    intro i j d h hi hj him hsz
    unfold rotL
    by_cases e : i = j
    · subst e
      rw [if_pos rfl]
      obtain ⟨z, g⟩ := swapR_spec (m - i) m i (by omega) i 0 d (by omega) (by omega) (by omega)
      refine ⟨⟨z, fun x hx => by rw [g x, if_neg (by omega), if_neg (by omega)]⟩, ?_⟩
      rw [seg_append _ (m - i) m (m + i) (by omega) (by omega)]
      congr 1
      · exact seg_eq _ _ _ _ _ _ (by omega) fun x hx => by rw [g, if_pos (by omega)]; congr 1; omega
      · exact seg_eq _ _ _ _ _ _ (by omega) fun x hx => by rw [g, if_neg (by omega), if_pos (by omega)]; congr 1; omega
    · rw [if_neg e]
      by_cases hgt : i > j
      · rw [if_pos hgt]
        obtain ⟨z, g⟩ := swapR_spec (m - i) m j (by omega) j 0 d (by omega) (by omega) (by omega)
        generalize hd1 : swapR (m - i) m j 0 d = d1 at z g
        obtain ⟨o, s⟩ := ih (i - j) j d1 (by omega) (by omega) hj (by omega) (by omega)
        refine ⟨Out.trans ⟨z, fun x hx => by rw [g x, if_neg (by omega), if_neg (by omega)]⟩ (o.mono (by omega) (by omega)), ?_⟩
        rw [seg_append _ (m - i) (m - (i - j)) (m + j) (by omega) (by omega), s, seg_append d (m - i) (m - i + j) m (by omega) (by omega), ← List.append_assoc, ← List.append_assoc]
        congr 1
        · congr 1
          · exact seg_eq _ _ _ _ _ _ (by omega) fun x hx => by rw [o.out _ (by omega), g, if_pos (by omega)]; congr 1; omega
          · exact seg_eq _ _ _ _ _ _ (by omega) fun x hx => by rw [g, if_neg (by omega), if_pos (by omega)]; congr 1; omega
        · exact seg_eq _ _ _ _ _ _ (by omega) fun x hx => by rw [g, if_neg (by omega), if_neg (by omega)]; congr 1; omega
      · rw [if_neg hgt]
        obtain ⟨z, g⟩ := swapR_spec (m - i) (m + j - i) i (by omega) i 0 d (by omega) (by omega) (by omega)
        generalize hd1 : swapR (m - i) (m + j - i) i 0 d = d1 at z g
        obtain ⟨o, s⟩ := ih i (j - i) d1 (by omega) hi (by omega) him (by omega)
        refine ⟨Out.trans ⟨z, fun x hx => by rw [g x, if_neg (by omega), if_neg (by omega)]⟩ (o.mono (by omega) (by omega)), ?_⟩
        rw [show m + j = m + (j - i) + i by omega, seg_append _ (m - i) (m + (j - i)) _ (by omega) (by omega), s, seg_append d m (m + (j - i)) _ (by omega) (by omega), List.append_assoc, List.append_assoc]
        congr 1
        · exact seg_eq _ _ _ _ _ _ (by omega) fun x hx => by rw [g, if_neg (by omega), if_neg (by omega)]
        · congr 1
          · exact seg_eq _ _ _ _ _ _ (by omega) fun x hx => by rw [g, if_pos (by omega)]; congr 1; omega
          · exact seg_eq _ _ _ _ _ _ (by omega) fun x hx => by rw [o.out _ (by omega), g, if_neg (by omega), if_pos (by omega)]; congr 1; omega

theorem rotate_spec (a m b : Nat) (d : Array α) (h1 : a < m) (h2 : m < b) (h3 : b ≤ d.size) :
    Out a b d (rotate a m b d) ∧ seg (rotate a m b d) a b = seg d m b ++ seg d a m := by
  have := rotL_spec m (b - a) (m - a) (b - m) d (by omega) (by omega) (by omega) (by omega) (by omega)
  rw [show m - (m - a) = a by omega, show m + (b - m) = b by omega] at this
  exact this

/-! ### symMerge -/
section
variable (lt : α → α → Bool)
/-- symMerge on [a, m) and [m, b); 'k' bounds how deep it calls itself. -/
def symM : Nat → Nat → Nat → Nat → Array α → Array α
  | 0, _, _, _, d => d
  | k + 1, a, m, b, d =>
    if m - a = 1 then shiftR a (bs (fun h => lt d[h]! d[a]!) m b - 1) d else
    if b - m = 1 then shiftL (bs (fun h => !lt d[m]! d[h]!) a m) m d else
    let mid := (a + b) / 2
    let n := mid + m
    let start := bs (fun c => !lt d[n - 1 - c]! d[c]!) (if m > mid then n - b else a) (if m > mid then mid else m)
    let d1 := if start < m ∧ m < n - start then rotate start m (n - start) d else d
    let d2 := if a < start ∧ start < mid then symM k a start mid d1 else d1
    if mid < n - start ∧ n - start < b then symM k mid (n - start) b d2 else d2
/-- for b <= n { insertionSort(a, b); a = b; b += 20 }; insertionSort(a, n) -/
def insBlocks (n a : Nat) (d : Array α) : Array α := if a + 20 ≤ n then insBlocks n (a + 20) (insertionSort lt d a (a + 20)) else insertionSort lt d a n
termination_by n - a
/-- One round of merges, blocks of size s: from a on; k rounds at most. -/
def mergePass (s n : Nat) : Nat → Nat → Array α → Array α
  | 0, _, d => d
  | k + 1, a, d => if a + 2 * s ≤ n then mergePass s n k (a + 2 * s) (symM lt (2 * s) a (a + s) (a + 2 * s) d) else if a + s < n then symM lt (n - a) a (a + s) n d else d
def mergeAll (n : Nat) : Nat → Nat → Array α → Array α
  | 0, _, d => d
  | k + 1, s, d => if s < n then mergeAll n k (2 * s) (mergePass lt s n (n + 1) 0 d) else d
def stable (d : Array α) : Array α := mergeAll lt d.size d.size 20 (insBlocks lt d.size 0 d)
end

def Asc (lt : α → α → Bool) (l : List α) : Prop := l.Pairwise fun x y => lt y x = false
omit [Inhabited α] in
theorem asc_append {lt : α → α → Bool} {l l' : List α} : Asc lt (l ++ l') ↔ Asc lt l ∧ Asc lt l' ∧ ∀ x ∈ l, ∀ y ∈ l', lt y x = false := List.pairwise_append
omit [Inhabited α] in
theorem asc_cons {lt : α → α → Bool} {x : α} {l : List α} : Asc lt (x :: l) ↔ (∀ y ∈ l, lt y x = false) ∧ Asc lt l := List.pairwise_cons
theorem asc_seg {lt : α → α → Bool} {d : Array α} {a b : Nat} : Asc lt (seg d a b) ↔ SortedIn lt a b d := by
  unfold Asc SortedIn
  rw [List.pairwise_iff_getElem]
  simp only [seg_length]
  constructor
  · intro h i j h1 h2 h3
    have := h (i - a) (j - a) (by omega) (by omega) (by omega)
    have e1 := seg_get d a b (i - a) (by omega)
    have e2 := seg_get d a b (j - a) (by omega)
    rw [List.getElem?_eq_getElem (by rw [seg_length]; omega)] at e1 e2
    rw [Option.some.inj e1, Option.some.inj e2, show a + (i - a) = i by omega, show a + (j - a) = j by omega] at this
    exact this
  · intro h i j hi hj hij
    have e1 := seg_get d a b i hi
    have e2 := seg_get d a b j hj
    rw [List.getElem?_eq_getElem (by rw [seg_length]; omega)] at e1 e2
    rw [Option.some.inj e1, Option.some.inj e2]
    exact h _ _ (by omega) (by omega) (by omega)
theorem sin_sub {lt : α → α → Bool} {d : Array α} {a b a' b' : Nat} (h : SortedIn lt a b d) (h1 : a ≤ a') (h2 : b' ≤ b) : SortedIn lt a' b' d := fun i j x y z => h i j (by omega) y (by omega)
theorem sin_le {lt : α → α → Bool} (hS : SWO lt) {d : Array α} {a b : Nat} (h : SortedIn lt a b d) {i j : Nat} (h1 : a ≤ i) (h2 : i ≤ j) (h3 : j < b) : lt d[j]! d[i]! = false := by
  by_cases e : i = j
  · subst e; exact hS.irrefl _
  · exact h i j h1 (by omega) h3
theorem sorted_join {lt : α → α → Bool} {d : Array α} {a m b : Nat} (h1 : SortedIn lt a m d) (h2 : SortedIn lt m b d) (h3 : ∀ i j, a ≤ i → i < m → m ≤ j → j < b → lt d[j]! d[i]! = false) : SortedIn lt a b d := by
  intro i j x y z
  by_cases hj : j < m
  · exact h1 i j x y hj
  · by_cases hi : i < m
    · exact h3 i j x hi (by omega) z
    · exact h2 i j (by omega) y z

/-- What a merge leaves. -/
structure Merged (lt : α → α → Bool) (a b : Nat) (d d' : Array α) : Prop where
  out : Out a b d d'
  perm : (seg d' a b).Perm (seg d a b)
  asc : SortedIn lt a b d'

theorem perm_cases {α : Type} {l l' : List α} (h : l'.Perm l) {p : α → Prop} (hp : ∀ x ∈ l, p x) : ∀ x ∈ l', p x := fun x hx => hp x (h.mem_iff.1 hx)

theorem symM_spec {lt : α → α → Bool} (hS : SWO lt) : ∀ (k a m b : Nat) (d : Array α), b - a ≤ k → a < m → m < b → b ≤ d.size → SortedIn lt a m d → SortedIn lt m b d → Merged lt a b d (symM lt k a m b d) := by
  intro k
  induction k with
  | zero => intro a m b d h; omega
  | succ k ih =>
    intro a m b d hk ham hmb hsz hl hr
    unfold symM
    by_cases e1 : m - a = 1
    · rw [if_pos e1]
      obtain ⟨g1, g2, g3, g4⟩ := bs_spec (fun h => lt d[h]! d[a]!) m b (b - m) m b (by omega) (by omega) (by omega) (by omega) (.inl rfl) (.inl rfl)
      generalize bs (fun h => lt d[h]! d[a]!) m b = r at g1 g2 g3 g4 ⊢
      obtain ⟨o, s⟩ := shiftR_spec (r - 1) (r - 1 - a) a d (by omega) (by omega) (by omega)
      rw [show r - 1 + 1 = r by omega] at o s
      have hd : seg d a b = d[a]! :: (seg d (a + 1) r ++ seg d r b) := by rw [seg_cons _ _ _ (by omega), seg_append d (a + 1) r b (by omega) (by omega)]
      have hd' : seg (shiftR a (r - 1) d) a b = seg d (a + 1) r ++ [d[a]!] ++ seg d r b := by rw [seg_append _ a r b (by omega) (by omega), s, o.seg _ _ (by omega)]
      refine ⟨o.mono (by omega) (by omega), ?_, ?_⟩
      · rw [hd, hd', List.append_assoc]
        exact List.perm_middle
      · rw [← asc_seg, hd', asc_append, asc_append]
        have hm : m = a + 1 := by omega
        subst hm
        have lo : ∀ x ∈ seg d (a + 1) r, lt x d[a]! = true := by
          intro x hx
          rw [seg_mem] at hx
          obtain ⟨i, hi1, hi2, rfl⟩ := hx
          rcases g3 with g3 | g3
          · omega
          · cases hc : lt d[i]! d[a]! with
            | true => rfl
            | false =>
              have := hS.ntrans _ _ _ (sin_le hS hr hi1 (show i ≤ r - 1 by omega) (by omega)) hc
              exact absurd g3 (by simp [this])
        have hi : ∀ x ∈ seg d r b, lt x d[a]! = false := by
          intro x hx
          rw [seg_mem] at hx
          obtain ⟨i, hi1, hi2, rfl⟩ := hx
          rcases g4 with g4 | g4
          · omega
          · exact hS.ntrans _ _ _ (sin_le hS hr (by omega) hi1 hi2) g4
        refine ⟨⟨asc_seg.2 (sin_sub hr (by omega) (by omega)), by simp [Asc], fun x hx y hy => ?_⟩, asc_seg.2 (sin_sub hr (by omega) (by omega)), fun x hx y hy => ?_⟩
        · rw [List.mem_singleton] at hy
          subst hy
          exact hS.asymmA (lo x hx)
        · rcases List.mem_append.1 hx with hx | hx
          · rw [seg_mem] at hx hy
            obtain ⟨i, h1, h2, rfl⟩ := hx
            obtain ⟨j, h3, h4, rfl⟩ := hy
            exact hr i j h1 (by omega) h4
          · rw [List.mem_singleton] at hx
            subst hx
            exact hi y hy
    rw [if_neg e1]
    by_cases e2 : b - m = 1
    · rw [if_pos e2]
      obtain ⟨g1, g2, g3, g4⟩ := bs_spec (fun h => !lt d[m]! d[h]!) a m (m - a) a m (by omega) (by omega) (by omega) (by omega) (.inl rfl) (.inl rfl)
      generalize bs (fun h => !lt d[m]! d[h]!) a m = r at g1 g2 g3 g4 ⊢
      simp only [Bool.not_eq_true', Bool.not_eq_false'] at g3 g4
      obtain ⟨o, s⟩ := shiftL_spec r m d g2 (by omega)
      have hb : b = m + 1 := by omega
      subst hb
      have hd : seg d a (m + 1) = seg d a r ++ (seg d r m ++ [d[m]!]) := by
        rw [seg_append d a m (m + 1) (by omega) (by omega), seg_append d a r m (by omega) (by omega), seg_cons d m _ (by omega), seg_nil d (m + 1) _ (by omega), List.append_assoc]
      have hd' : seg (shiftL r m d) a (m + 1) = seg d a r ++ (d[m]! :: seg d r m) := by rw [seg_append _ a r _ (by omega) (by omega), s, o.seg _ _ (by omega)]
      refine ⟨o.mono (by omega) (by omega), ?_, ?_⟩
      · rw [hd, hd']
        exact List.Perm.append_left _ (List.perm_append_singleton _ _).symm
      · rw [← asc_seg, hd', asc_append, asc_cons]
        have lo : ∀ x ∈ seg d a r, lt d[m]! x = false := by
          intro x hx
          rw [seg_mem] at hx
          obtain ⟨i, h1, h2, rfl⟩ := hx
          rcases g3 with g3 | g3
          · omega
          · exact hS.ntrans _ _ _ g3 (sin_le hS hl h1 (show i ≤ r - 1 by omega) (by omega))
        have hi : ∀ x ∈ seg d r m, lt d[m]! x = true := by
          intro x hx
          rw [seg_mem] at hx
          obtain ⟨i, h1, h2, rfl⟩ := hx
          rcases g4 with g4 | g4
          · omega
          · cases hc : lt d[m]! d[i]! with
            | true => rfl
            | false => exact absurd g4 (by simp [hS.ntrans _ _ _ hc (sin_le hS hl (by omega) h1 h2)])
        refine ⟨asc_seg.2 (sin_sub hl (by omega) (by omega)), ⟨fun y hy => hS.asymmA (hi y hy), asc_seg.2 (sin_sub hl (by omega) (by omega))⟩, fun x hx y hy => ?_⟩
        rcases List.mem_cons.1 hy with rfl | hy
        · exact lo x hx
        · rw [seg_mem] at hx hy
          obtain ⟨i, h1, h2, rfl⟩ := hx
          obtain ⟨j, h3, h4, rfl⟩ := hy
          exact hl i j h1 (by omega) h4
    rw [if_neg e2]
    simp only
    generalize hmid : (a + b) / 2 = mid
    obtain ⟨g1, g2, g3, g4⟩ := bs_spec (fun c => !lt d[mid + m - 1 - c]! d[c]!) (if m > mid then mid + m - b else a) (if m > mid then mid else m) b (if m > mid then mid + m - b else a) (if m > mid then mid else m)
      (by split <;> omega) (Nat.le_refl _) (by split <;> omega) (Nat.le_refl _) (.inl rfl) (.inl rfl)
    generalize bs (fun c => !lt d[mid + m - 1 - c]! d[c]!) (if m > mid then mid + m - b else a) (if m > mid then mid else m) = st at g1 g2 g3 g4 ⊢
    simp only [Bool.not_eq_true', Bool.not_eq_false'] at g3 g4
    have hst : a ≤ st ∧ st ≤ m ∧ st ≤ mid ∧ mid + m - st ≤ b ∧ m ≤ mid + m - st := by split at g1 <;> split at g2 <;> omega
    obtain ⟨h1, h2, h3, h4, h5⟩ := hst
    generalize hen : mid + m - st = en at h4 h5 ⊢
    have hL1 : ∀ x ∈ seg d a st, ∀ y ∈ seg d en b, lt y x = false := by
      intro x hx y hy
      rw [seg_mem] at hx hy
      obtain ⟨i, i1, i2, rfl⟩ := hx
      obtain ⟨j, j1, j2, rfl⟩ := hy
      rcases g3 with g3 | g3
      · split at g3 <;> omega
      · rw [show mid + m - 1 - (st - 1) = en by omega] at g3
        exact hS.ntrans _ _ _ (sin_le hS hr (by omega) j1 j2) (hS.ntrans _ _ _ g3 (sin_le hS hl i1 (show i ≤ st - 1 by omega) (by omega)))
    have hL2 : ∀ x ∈ seg d m en, ∀ y ∈ seg d st m, lt y x = false := by
      intro x hx y hy
      rw [seg_mem] at hx hy
      obtain ⟨i, i1, i2, rfl⟩ := hx
      obtain ⟨j, j1, j2, rfl⟩ := hy
      rcases g4 with g4 | g4
      · split at g4 <;> omega
      · rw [show mid + m - 1 - st = en - 1 by omega] at g4
        have q1 := sin_le hS hr i1 (show i ≤ en - 1 by omega) (by omega)
        have q2 := sin_le hS hl h1 j1 j2
        exact hS.ntrans _ _ _ q2 (hS.ntrans _ _ _ (hS.asymmA g4) q1)
    -- behind the rotation
    have hrot : ∃ d1, (if st < m ∧ m < en then rotate st m en d else d) = d1 ∧ Out st en d d1 ∧ seg d1 st en = seg d m en ++ seg d st m := by
      refine ⟨_, rfl, ?_⟩
      by_cases hc : st < m ∧ m < en
      · rw [if_pos hc]; exact rotate_spec st m en d hc.1 hc.2 (by omega)
      · rw [if_neg hc]
        refine ⟨Out.refl _ _ _, ?_⟩
        by_cases hc1 : st < m
        · rw [seg_nil d m en (by omega), show en = m by omega, List.nil_append]
        · rw [seg_nil d st m (by omega), show st = m by omega, List.append_nil]
    obtain ⟨d1, hd1, o1, s1⟩ := hrot
    rw [hd1]
    clear hd1
    have s1a : seg d1 st mid = seg d m en ∧ seg d1 mid en = seg d st m := by
      rw [seg_append d1 st mid en h3 (by omega)] at s1
      exact List.append_inj s1 (by rw [seg_length, seg_length]; omega)
    have hA : seg d1 a mid = seg d a st ++ seg d m en := by rw [seg_append d1 a st mid h1 h3, o1.seg a st (by omega), s1a.1]
    have hB : seg d1 mid b = seg d st m ++ seg d en b := by rw [seg_append d1 mid en b (by omega) h4, o1.seg en b (by omega), s1a.2]
    have hcross : ∀ x ∈ seg d1 a mid, ∀ y ∈ seg d1 mid b, lt y x = false := by
      intro x hx y hy
      rw [hA] at hx
      rw [hB] at hy
      rcases List.mem_append.1 hx with hx | hx <;> rcases List.mem_append.1 hy with hy | hy
      · rw [seg_mem] at hx hy
        obtain ⟨i, i1, i2, rfl⟩ := hx
        obtain ⟨j, j1, j2, rfl⟩ := hy
        exact hl i j i1 (by omega) j2
      · exact hL1 x hx y hy
      · exact hL2 x hx y hy
      · rw [seg_mem] at hx hy
        obtain ⟨i, i1, i2, rfl⟩ := hx
        obtain ⟨j, j1, j2, rfl⟩ := hy
        exact hr i j i1 (by omega) j2
    have sA1 : SortedIn lt a st d1 := asc_seg.1 (by rw [o1.seg _ _ (by omega)]; exact asc_seg.2 (sin_sub hl (by omega) h2))
    have sA2 : SortedIn lt st mid d1 := asc_seg.1 (by rw [s1a.1]; exact asc_seg.2 (sin_sub hr (by omega) h4))
    have sB1 : SortedIn lt mid en d1 := asc_seg.1 (by rw [s1a.2]; exact asc_seg.2 (sin_sub hl h1 (by omega)))
    have sB2 : SortedIn lt en b d1 := asc_seg.1 (by rw [o1.seg _ _ (by omega)]; exact asc_seg.2 (sin_sub hr (by omega) (by omega)))
    have hp1 : (seg d1 a b).Perm (seg d a b) := by
      rw [seg_append d1 a mid b (by omega) (by omega), hA, hB, seg_append d a st b h1 (by omega), seg_append d st m b h2 (by omega), seg_append d m en b h5 h4, List.append_assoc]
      refine List.Perm.append_left _ ?_
      rw [← List.append_assoc, ← List.append_assoc]
      exact List.Perm.append_right _ List.perm_append_comm
    have ob1 : Out a b d d1 := o1.mono h1 h4
    have hz1 := ob1.size
    -- the two calls of itself
    have hM2 : ∃ d2, (if a < st ∧ st < mid then symM lt k a st mid d1 else d1) = d2 ∧ Merged lt a mid d1 d2 := by
      refine ⟨_, rfl, ?_⟩
      by_cases hc : a < st ∧ st < mid
      · rw [if_pos hc]; exact ih a st mid d1 (by omega) hc.1 hc.2 (by omega) sA1 sA2
      · rw [if_neg hc]
        refine ⟨Out.refl _ _ _, List.Perm.refl _, ?_⟩
        by_cases hc1 : a < st
        · rw [show mid = st by omega]; exact sA1
        · have : a = st := by omega
          subst this; exact sA2
    obtain ⟨d2, hd2, M2⟩ := hM2
    rw [hd2]
    clear hd2
    have hz2 := M2.out.size
    have e2B : seg d2 mid b = seg d1 mid b := M2.out.seg _ _ (by omega)
    have hM3 : ∃ d3, (if mid < en ∧ en < b then symM lt k mid en b d2 else d2) = d3 ∧ Merged lt mid b d2 d3 := by
      have sB1' : SortedIn lt mid en d2 := asc_seg.1 (by rw [M2.out.seg _ _ (by omega)]; exact asc_seg.2 sB1)
      have sB2' : SortedIn lt en b d2 := asc_seg.1 (by rw [M2.out.seg _ _ (by omega)]; exact asc_seg.2 sB2)
      refine ⟨_, rfl, ?_⟩
      by_cases hc : mid < en ∧ en < b
      · rw [if_pos hc]; exact ih mid en b d2 (by omega) hc.1 hc.2 (by omega) sB1' sB2'
      · rw [if_neg hc]
        refine ⟨Out.refl _ _ _, List.Perm.refl _, ?_⟩
        by_cases hc1 : mid < en
        · rw [show b = en by omega]; exact sB1'
        · have : mid = en := by omega
          subst this; exact sB2'
    obtain ⟨d3, hd3, M3⟩ := hM3
    rw [hd3]
    clear hd3
    have hz3 := M3.out.size
    have e3A : seg d3 a mid = seg d2 a mid := M3.out.seg _ _ (by omega)
    refine ⟨(ob1.trans (M2.out.mono (Nat.le_refl _) (by omega))).trans (M3.out.mono (by omega) (Nat.le_refl _)), ?_, ?_⟩
    · refine List.Perm.trans ?_ hp1
      rw [seg_append d3 a mid b (by omega) (by omega), e3A, seg_append d1 a mid b (by omega) (by omega)]
      exact List.Perm.append M2.perm (M3.perm.trans (by rw [e2B]))
    · rw [← asc_seg, seg_append d3 a mid b (by omega) (by omega), asc_append, e3A]
      refine ⟨asc_seg.2 M2.asc, asc_seg.2 M3.asc, fun x hx y hy => ?_⟩
      have hx1 := M2.perm.mem_iff.1 hx
      have hy1 := M3.perm.mem_iff.1 hy
      rw [e2B] at hy1
      exact hcross x hx1 y hy1
end Go.Proofs.Ytnldnaogbadajaa.St

/- The plain side of Go's stable sort, second part: the whole gives core's mergeSort. No program in this text. -/
namespace Go.Proofs.Ytnldnaogbadajaa.St
open Go.Sort
variable {α : Type} [Inhabited α]

theorem seg_extract (d : Array α) (a b : Nat) (hb : b ≤ d.size) : (d.extract a b).toList = seg d a b := extract_toList d a b hb
theorem Merged.permIn {lt : α → α → Bool} {a b : Nat} {d d' : Array α} (h : Merged lt a b d d') (hb : b ≤ d.size) : PermIn a b d d' :=
  ⟨h.out.size, h.out.out, by rw [seg_extract _ _ _ (by rw [h.out.size]; exact hb), seg_extract _ _ _ hb]; exact h.perm⟩

/-! ### Two orders that say the same of an earlier and a later element -/
section
variable {lt lr : α → α → Bool} {tag : α → Nat} (ag : ∀ x y, tag x < tag y → lt y x = lr y x)
include ag

theorem insInner_congr (a : Nat) : ∀ (j : Nat) (d : Array α), j < d.size → (∀ p, a ≤ p → p < j → tag d[p]! < tag d[j]!) → insInner lt a j d = insInner lr a j d := by
  intro j
  induction j with
  | zero => intro d _ _; rfl
  | succ j ih =>
    intro d hj h
    unfold insInner
    by_cases hja : j + 1 > a
    · rw [ag _ _ (h j (by omega) (by omega))]
      by_cases hc : (decide (j + 1 > a) && lr d[j + 1]! d[j]!) = true
      · rw [if_pos hc, if_pos hc]
        refine ih _ (by rw [size_swp]; omega) fun p hp1 hp2 => ?_
        rw [swp_other _ _ _ _ (by omega) (by omega), swp_right _ _ _ (by omega)]
        exact h p hp1 (by omega)
      · rw [if_neg hc, if_neg hc]
    · rw [if_neg (by simp [hja]), if_neg (by simp [hja])]

omit ag in
theorem insInner_permIn (a b : Nat) : ∀ (j : Nat) (d : Array α), a ≤ j → j < b → b ≤ d.size → PermIn a b d (insInner lr a j d) := by
  intro j
  induction j with
  | zero => intro d _ _ _; exact permIn_refl _ _ _
  | succ j ih =>
    intro d h1 h2 h3
    unfold insInner
    split
    · rename_i hc
      simp only [Bool.and_eq_true, decide_eq_true_eq] at hc
      exact permIn_trans _ _ _ _ _ (swp_permIn d a b (j + 1) j h1 h2 (by omega) (by omega) h3) (ih _ (by omega) (by omega) (by rw [size_swp]; exact h3))
    · exact permIn_refl _ _ _

theorem insOuter_congr (a b : Nat) : ∀ (k i : Nat) (d : Array α), b - i ≤ k → a ≤ i → b ≤ d.size → (∀ p q, a ≤ p → p < q → i ≤ q → q < b → tag d[p]! < tag d[q]!) → insOuter lt a b i d = insOuter lr a b i d := by
  intro k
  induction k with
  | zero => intro i d hk _ _ _; rw [insOuter, if_neg (by omega), insOuter, if_neg (by omega)]
  | succ k ih =>
    intro i d hk hai hb h
    by_cases hlt : i < b
    · have e : ∀ l : α → α → Bool, insOuter l a b i d = insOuter l a b (i + 1) (insInner l a i d) := fun l => by rw [insOuter, if_pos hlt]
      rw [e lt, e lr, insInner_congr ag a i d (by omega) fun p h1 h2 => h p i h1 h2 (Nat.le_refl _) hlt]
      have hP := insInner_permIn (lr := lr) a (i + 1) i d hai (by omega) (by omega)
      refine ih (i + 1) _ (by omega) (by omega) (by rw [hP.1]; exact hb) fun p q h1 h2 h3 h4 => ?_
      rw [hP.2.1 q (.inr (by omega))]
      by_cases hp : p < i + 1
      · exact permIn_all d _ a (i + 1) (fun x => tag x < tag d[q]!) (by omega) hP (fun x x1 x2 => h x q x1 (by omega) (by omega) h4) p h1 hp
      · rw [hP.2.1 p (.inr (by omega))]
        exact h p q h1 h2 (by omega) h4
    · have e : ∀ l : α → α → Bool, insOuter l a b i d = d := fun l => by rw [insOuter, if_neg hlt]
      rw [e, e]

theorem insertionSort_congr (a b : Nat) (d : Array α) (hb : b ≤ d.size) (h : ∀ p q, a ≤ p → p < q → q < b → tag d[p]! < tag d[q]!) : insertionSort lt d a b = insertionSort lr d a b :=
  insOuter_congr ag a b (b - (a + 1)) (a + 1) d (Nat.le_refl _) (by omega) hb fun p q h1 h2 _ h4 => h p q h1 h2 h4

omit ag in
theorem symM_out (l : α → α → Bool) : ∀ (k a m b : Nat) (d : Array α), a < m → m < b → b ≤ d.size → Out a b d (symM l k a m b d) := by
  intro k
  induction k with
  | zero => intro a m b d _ _ _; exact Out.refl _ _ _
  | succ k ih =>
    intro a m b d ham hmb hsz
    unfold symM
    by_cases e1 : m - a = 1
    · rw [if_pos e1]
      obtain ⟨g1, g2, _⟩ := bs_spec (fun h => l d[h]! d[a]!) m b (b - m) m b (by omega) (by omega) (by omega) (by omega) (.inl rfl) (.inl rfl)
      exact (shiftR_spec _ _ a d (Nat.le_refl _) (by omega) (by omega)).1.mono (Nat.le_refl _) (by omega)
    rw [if_neg e1]
    by_cases e2 : b - m = 1
    · rw [if_pos e2]
      obtain ⟨g1, g2, _⟩ := bs_spec (fun h => !l d[m]! d[h]!) a m (m - a) a m (by omega) (by omega) (by omega) (by omega) (.inl rfl) (.inl rfl)
      exact (shiftL_spec _ m d g2 (by omega)).1.mono g1 (by omega)
    rw [if_neg e2]
    simp only
    generalize hmid : (a + b) / 2 = mid
    obtain ⟨g1, g2, g3, g4⟩ := bs_spec (fun c => !l d[mid + m - 1 - c]! d[c]!) (if m > mid then mid + m - b else a) (if m > mid then mid else m) b (if m > mid then mid + m - b else a) (if m > mid then mid else m)
      (by split <;> omega) (Nat.le_refl _) (by split <;> omega) (Nat.le_refl _) (.inl rfl) (.inl rfl)
    generalize bs (fun c => !l d[mid + m - 1 - c]! d[c]!) (if m > mid then mid + m - b else a) (if m > mid then mid else m) = st at g1 g2 g3 g4 ⊢
    have hst : a ≤ st ∧ st ≤ m ∧ st ≤ mid ∧ mid + m - st ≤ b ∧ m ≤ mid + m - st := by split at g1 <;> split at g2 <;> omega
    obtain ⟨h1, h2, h3, h4, h5⟩ := hst
    generalize hen : mid + m - st = en at h4 h5 ⊢
    have o1 : ∃ d1, (if st < m ∧ m < en then rotate st m en d else d) = d1 ∧ Out a b d d1 := by
      refine ⟨_, rfl, ?_⟩
      split
      · rename_i hc; exact (rotate_spec st m en d hc.1 hc.2 (by omega)).1.mono h1 h4
      · exact Out.refl _ _ _
    obtain ⟨d1, e1, o1⟩ := o1
    rw [e1]
    have z1 := o1.size
    have o2 : ∃ d2, (if a < st ∧ st < mid then symM l k a st mid d1 else d1) = d2 ∧ Out a b d1 d2 := by
      refine ⟨_, rfl, ?_⟩
      split
      · rename_i hc; exact (ih a st mid d1 hc.1 hc.2 (by omega)).mono (Nat.le_refl _) (by omega)
      · exact Out.refl _ _ _
    obtain ⟨d2, e2, o2⟩ := o2
    rw [e2]
    have z2 := o2.size
    split
    · rename_i hc; exact (o1.trans o2).trans ((ih mid en b d2 hc.1 hc.2 (by omega)).mono (by omega) (Nat.le_refl _))
    · exact o1.trans o2

theorem symM_congr : ∀ (k a m b : Nat) (d : Array α), a < m → m < b → b ≤ d.size → (∀ i j, a ≤ i → i < m → m ≤ j → j < b → tag d[i]! < tag d[j]!) → symM lt k a m b d = symM lr k a m b d := by
  intro k
  induction k with
  | zero => intro a m b d _ _ _ _; rfl
  | succ k ih =>
    intro a m b d ham hmb hsz h
    unfold symM
    by_cases e1 : m - a = 1
    · rw [if_pos e1, if_pos e1, bs_congr _ (fun h => lr d[h]! d[a]!) (b - m) m b (Nat.le_refl _) fun x x1 x2 => ag _ _ (h a x (Nat.le_refl _) ham x1 x2)]
    rw [if_neg e1, if_neg e1]
    by_cases e2 : b - m = 1
    · rw [if_pos e2, if_pos e2, bs_congr _ (fun h => !lr d[m]! d[h]!) (m - a) a m (Nat.le_refl _) fun x x1 x2 => by rw [ag _ _ (h x m x1 x2 (Nat.le_refl _) hmb)]]
    rw [if_neg e2, if_neg e2]
    simp only
    generalize hmid : (a + b) / 2 = mid
    have hbs : bs (fun c => !lt d[mid + m - 1 - c]! d[c]!) (if m > mid then mid + m - b else a) (if m > mid then mid else m) = bs (fun c => !lr d[mid + m - 1 - c]! d[c]!) (if m > mid then mid + m - b else a) (if m > mid then mid else m) := by
      refine bs_congr _ _ b _ _ (by split <;> omega) fun c c1 c2 => ?_
      rw [ag _ _ (h c (mid + m - 1 - c) (by split at c1 <;> split at c2 <;> omega) (by split at c1 <;> split at c2 <;> omega) (by split at c1 <;> split at c2 <;> omega) (by split at c1 <;> split at c2 <;> omega))]
    rw [hbs]
    obtain ⟨g1, g2, _⟩ := bs_spec (fun c => !lr d[mid + m - 1 - c]! d[c]!) (if m > mid then mid + m - b else a) (if m > mid then mid else m) b (if m > mid then mid + m - b else a) (if m > mid then mid else m)
      (by split <;> omega) (Nat.le_refl _) (by split <;> omega) (Nat.le_refl _) (.inl rfl) (.inl rfl)
    generalize bs (fun c => !lr d[mid + m - 1 - c]! d[c]!) (if m > mid then mid + m - b else a) (if m > mid then mid else m) = st at g1 g2 ⊢
    have hst : a ≤ st ∧ st ≤ m ∧ st ≤ mid ∧ mid + m - st ≤ b ∧ m ≤ mid + m - st := by split at g1 <;> split at g2 <;> omega
    obtain ⟨h1, h2, h3, h4, h5⟩ := hst
    generalize hen : mid + m - st = en at h4 h5 ⊢
    have hrot : ∃ d1, (if st < m ∧ m < en then rotate st m en d else d) = d1 ∧ Out st en d d1 ∧ seg d1 st en = seg d m en ++ seg d st m := by
      refine ⟨_, rfl, ?_⟩
      by_cases hc : st < m ∧ m < en
      · rw [if_pos hc]; exact rotate_spec st m en d hc.1 hc.2 (by omega)
      · rw [if_neg hc]
        refine ⟨Out.refl _ _ _, ?_⟩
        by_cases hc1 : st < m
        · rw [seg_nil d m en (by omega), show en = m by omega, List.nil_append]
        · rw [seg_nil d st m (by omega), show st = m by omega, List.append_nil]
    obtain ⟨d1, hd1, o1, s1⟩ := hrot
    rw [hd1]
    clear hd1
    have s1a : seg d1 st mid = seg d m en ∧ seg d1 mid en = seg d st m := by
      rw [seg_append d1 st mid en h3 (by omega)] at s1
      exact List.append_inj s1 (by rw [seg_length, seg_length]; omega)
    have z1 := o1.size
    have c2 : (if a < st ∧ st < mid then symM lt k a st mid d1 else d1) = (if a < st ∧ st < mid then symM lr k a st mid d1 else d1) := by
      split
      · rename_i hc
        refine ih a st mid d1 hc.1 hc.2 (by omega) fun i j i1 i2 j1 j2 => ?_
        have hj : d1[j]! ∈ seg d m en := by rw [← s1a.1, seg_mem]; exact ⟨j, j1, j2, rfl⟩
        rw [seg_mem] at hj
        obtain ⟨j', j3, j4, j5⟩ := hj
        rw [o1.out i (by omega), ← j5]
        exact h i j' i1 (by omega) j3 (by omega)
      · rfl
    rw [c2]
    have o2 : ∃ d2, (if a < st ∧ st < mid then symM lr k a st mid d1 else d1) = d2 ∧ Out a mid d1 d2 := by
      refine ⟨_, rfl, ?_⟩
      split
      · rename_i hc; exact symM_out lr k a st mid d1 hc.1 hc.2 (by omega)
      · exact Out.refl _ _ _
    obtain ⟨d2, e2, o2⟩ := o2
    rw [e2]
    have z2 := o2.size
    split
    · rename_i hc
      refine ih mid en b d2 hc.1 hc.2 (by omega) fun i j i1 i2 j1 j2 => ?_
      have hi : d1[i]! ∈ seg d st m := by rw [← s1a.2, seg_mem]; exact ⟨i, i1, i2, rfl⟩
      rw [seg_mem] at hi
      obtain ⟨i', i3, i4, i5⟩ := hi
      rw [o2.out i (by omega), o2.out j (by omega), ← i5, o1.out j (by omega)]
      exact h i' j (by omega) i4 (by omega) j2
    · rfl

/-! ### Blocks -/
/-- Blocks of s are sorted each for itself, and hold what belongs there. -/
structure Runs (lr : α → α → Bool) (tag : α → Nat) (s n q : Nat) (d : Array α) : Prop where
  tags : ∀ r i, q ≤ r → r * s ≤ i → i < r * s + s → i < n → r * s ≤ tag d[i]! ∧ tag d[i]! < r * s + s
  run : ∀ r i j, q ≤ r → r * s ≤ i → i < j → j < r * s + s → j < n → lr d[j]! d[i]! = false
/-- The same of the blocks in front. -/
structure Front (lr : α → α → Bool) (tag : α → Nat) (s n q : Nat) (d : Array α) : Prop where
  tags : ∀ r i, r < q → r * s ≤ i → i < r * s + s → i < n → r * s ≤ tag d[i]! ∧ tag d[i]! < r * s + s
  run : ∀ r i j, r < q → r * s ≤ i → i < j → j < r * s + s → j < n → lr d[j]! d[i]! = false

omit ag in
theorem blk_lt {r q s : Nat} (h : r < q) : r * s + s ≤ q * s := by have := Nat.mul_le_mul_right s (Nat.succ_le_of_lt h); rw [Nat.succ_mul] at this; exact this

theorem mergePass_spec (hS : SWO lr) (s n : Nat) (hs : 0 < s) : ∀ (k q : Nat) (d : Array α), n + 1 ≤ k + q → n = d.size → Front lr tag (2 * s) n q d → Runs lr tag s n (2 * q) d →
    mergePass lt s n k (q * (2 * s)) d = mergePass lr s n k (q * (2 * s)) d ∧ PermIn 0 n d (mergePass lr s n k (q * (2 * s)) d) ∧ Runs lr tag (2 * s) n 0 (mergePass lr s n k (q * (2 * s)) d) := by
  intro k
  induction k with
  | zero =>
    intro q d hk hn F R
    refine ⟨rfl, permIn_refl _ _ _, ⟨fun r i _ h1 h2 h3 => ?_, fun r i j _ h1 h2 h3 h4 => ?_⟩⟩
    · have hq : q ≤ q * (2 * s) := Nat.le_mul_of_pos_right _ (by omega)
      have : r < q := by
        rcases Nat.lt_or_ge r q with h | h
        · exact h
        · have := Nat.mul_le_mul_right (2 * s) h; omega
      exact F.tags r i this h1 h2 h3
    · have hq : q ≤ q * (2 * s) := Nat.le_mul_of_pos_right _ (by omega)
      have : r < q := by
        rcases Nat.lt_or_ge r q with h | h
        · exact h
        · have := Nat.mul_le_mul_right (2 * s) h; omega
      exact F.run r i j this h1 h2 h3 h4
  | succ k ih =>
    intro q d hk hn F R
    have e2 : 2 * q * s = q * (2 * s) := by rw [Nat.mul_comm 2 q, Nat.mul_assoc]
    have e3 : (2 * q + 1) * s = q * (2 * s) + s := by rw [Nat.succ_mul, e2]
    unfold mergePass
    by_cases c1 : q * (2 * s) + 2 * s ≤ n
    · rw [if_pos c1, if_pos c1]
      generalize ha : q * (2 * s) = a at *
      have t1 := R.tags (2 * q)
      have t2 := R.tags (2 * q + 1)
      rw [e2] at t1
      rw [e3] at t2
      have r1 := R.run (2 * q)
      have r2 := R.run (2 * q + 1)
      rw [e2] at r1
      rw [e3] at r2
      rw [symM_congr ag (2 * s) a (a + s) (a + 2 * s) d (by omega) (by omega) (by omega) fun i j i1 i2 j1 j2 => by
        have := t1 i (by omega) i1 i2 (by omega)
        have := t2 j (by omega) j1 (by omega) (by omega)
        omega]
      have M := symM_spec hS (2 * s) a (a + s) (a + 2 * s) d (by omega) (by omega) (by omega) (by omega) (fun i j h1 h2 h3 => r1 i j (by omega) h1 h2 h3 (by omega)) (fun i j h1 h2 h3 => r2 i j (by omega) h1 h2 (by omega) (by omega))
      generalize symM lr (2 * s) a (a + s) (a + 2 * s) d = d1 at M ⊢
      have hP := M.permIn (by omega)
      have e4 : (q + 1) * (2 * s) = a + 2 * s := by rw [Nat.succ_mul, ha]
      have := ih (q + 1) d1 (by omega) (by rw [hP.1]; exact hn) ⟨fun r i hr h1 h2 h3 => ?_, fun r i j hr h1 h2 h3 h4 => ?_⟩ ⟨fun r i hr h1 h2 h3 => ?_, fun r i j hr h1 h2 h3 h4 => ?_⟩
      · rw [e4] at this
        exact ⟨this.1, permIn_trans _ _ _ _ _ (permIn_mono d d1 a (a + 2 * s) 0 n (by omega) c1 (by omega) hP) this.2.1, this.2.2⟩
      · by_cases hrq : r = q
        · subst hrq
          rw [ha] at h1 h2 ⊢
          exact permIn_all d d1 a (a + 2 * s) (fun x => a ≤ tag x ∧ tag x < a + 2 * s) (by omega) hP (fun x x1 x2 => by
            by_cases hx : x < a + s
            · have := t1 x (by omega) x1 hx (by omega); omega
            · have := t2 x (by omega) (by omega) (by omega) (by omega); omega) i h1 h2
        · have hb := blk_lt (s := 2 * s) (show r < q by omega)
          rw [ha] at hb
          rw [hP.2.1 i (by omega)]
          exact F.tags r i (by omega) h1 h2 h3
      · by_cases hrq : r = q
        · subst hrq
          rw [ha] at h1 h3
          exact M.asc i j h1 h2 h3
        · have hb := blk_lt (s := 2 * s) (show r < q by omega)
          rw [ha] at hb
          rw [hP.2.1 i (by omega), hP.2.1 j (by omega)]
          exact F.run r i j (by omega) h1 h2 h3 h4
      · have hb := Nat.mul_le_mul_right s (show 2 * q + 2 ≤ r by omega)
        rw [Nat.add_mul, e2] at hb
        rw [hP.2.1 i (by omega)]
        exact R.tags r i (by omega) h1 h2 h3
      · have hb := Nat.mul_le_mul_right s (show 2 * q + 2 ≤ r by omega)
        rw [Nat.add_mul, e2] at hb
        rw [hP.2.1 i (by omega), hP.2.1 j (by omega)]
        exact R.run r i j (by omega) h1 h2 h3 h4
    · rw [if_neg c1, if_neg c1]
      generalize ha : q * (2 * s) = a at *
      have t1 := R.tags (2 * q)
      have t2 := R.tags (2 * q + 1)
      rw [e2] at t1
      rw [e3] at t2
      have r1 := R.run (2 * q)
      have r2 := R.run (2 * q + 1)
      rw [e2] at r1
      rw [e3] at r2
      by_cases c2 : a + s < n
      · rw [if_pos c2, if_pos c2]
        rw [symM_congr ag (n - a) a (a + s) n d (by omega) (by omega) (by omega) fun i j i1 i2 j1 j2 => by
          have := t1 i (by omega) i1 i2 (by omega)
          have := t2 j (by omega) j1 (by omega) (by omega)
          omega]
        have M := symM_spec hS (n - a) a (a + s) n d (by omega) (by omega) (by omega) (by omega) (fun i j h1 h2 h3 => r1 i j (by omega) h1 h2 h3 (by omega)) (fun i j h1 h2 h3 => r2 i j (by omega) h1 h2 (by omega) (by omega))
        generalize symM lr (n - a) a (a + s) n d = d1 at M ⊢
        have hP := M.permIn (by omega)
        refine ⟨rfl, permIn_mono d d1 a n 0 n (by omega) (Nat.le_refl _) (by omega) hP, ⟨fun r i _ h1 h2 h3 => ?_, fun r i j _ h1 h2 h3 h4 => ?_⟩⟩
        · rcases Nat.lt_trichotomy r q with hr | hr | hr
          · have hb := blk_lt (s := 2 * s) hr
            rw [ha] at hb
            rw [hP.2.1 i (by omega)]
            exact F.tags r i hr h1 h2 h3
          · subst hr
            rw [ha] at h1 h2 ⊢
            exact permIn_all d d1 a n (fun x => a ≤ tag x ∧ tag x < a + 2 * s) (by omega) hP (fun x x1 x2 => by
              by_cases hx : x < a + s
              · have := t1 x (by omega) x1 hx (by omega); omega
              · have := t2 x (by omega) (by omega) (by omega) (by omega); omega) i h1 h3
          · have hb := blk_lt (s := 2 * s) hr
            omega
        · rcases Nat.lt_trichotomy r q with hr | hr | hr
          · have hb := blk_lt (s := 2 * s) hr
            rw [ha] at hb
            rw [hP.2.1 i (by omega), hP.2.1 j (by omega)]
            exact F.run r i j hr h1 h2 h3 h4
          · subst hr
            rw [ha] at h1 h3
            exact M.asc i j h1 h2 h4
          · have hb := blk_lt (s := 2 * s) hr
            omega
      · rw [if_neg c2, if_neg c2]
        refine ⟨rfl, permIn_refl _ _ _, ⟨fun r i _ h1 h2 h3 => ?_, fun r i j _ h1 h2 h3 h4 => ?_⟩⟩
        · rcases Nat.lt_trichotomy r q with hr | hr | hr
          · exact F.tags r i hr h1 h2 h3
          · subst hr
            rw [ha] at h1 h2 ⊢
            have := t1 i (by omega) h1 (by omega) h3
            omega
          · have hb := blk_lt (s := 2 * s) hr
            omega
        · rcases Nat.lt_trichotomy r q with hr | hr | hr
          · exact F.run r i j hr h1 h2 h3 h4
          · subst hr
            rw [ha] at h1 h3
            exact r1 i j (by omega) h1 h2 (by omega) h4
          · have hb := blk_lt (s := 2 * s) hr
            omega

theorem mergeAll_spec (hS : SWO lr) (n : Nat) : ∀ (k s : Nat) (d : Array α), 0 < s → n ≤ k + s → n = d.size → Runs lr tag s n 0 d →
    mergeAll lt n k s d = mergeAll lr n k s d ∧ PermIn 0 n d (mergeAll lr n k s d) ∧ SortedIn lr 0 n (mergeAll lr n k s d) := by
  intro k
  induction k with
  | zero =>
    intro s d hs hk hn R
    exact ⟨rfl, permIn_refl _ _ _, fun i j h1 h2 h3 => R.run 0 i j (Nat.le_refl _) (by omega) h2 (by omega) h3⟩
  | succ k ih =>
    intro s d hs hk hn R
    unfold mergeAll
    by_cases c : s < n
    · rw [if_pos c, if_pos c]
      have h := mergePass_spec ag hS s n hs (n + 1) 0 d (by omega) hn ⟨fun r i hr => by omega, fun r i j hr => by omega⟩ R
      rw [Nat.zero_mul] at h
      obtain ⟨h1, h2, h3⟩ := h
      rw [h1]
      obtain ⟨g1, g2, g3⟩ := ih (2 * s) _ (by omega) (by omega) (by rw [h2.1]; exact hn) h3
      exact ⟨g1, permIn_trans _ _ _ _ _ h2 g2, g3⟩
    · rw [if_neg c, if_neg c]
      exact ⟨rfl, permIn_refl _ _ _, fun i j h1 h2 h3 => R.run 0 i j (Nat.le_refl _) (by omega) h2 (by omega) h3⟩

theorem insBlocks_spec (hS : SWO lr) (n : Nat) : ∀ (k q : Nat) (d : Array α), n ≤ k + q * 20 → n = d.size → q * 20 ≤ n → Front lr tag 20 n q d → (∀ i, q * 20 ≤ i → i < n → tag d[i]! = i) →
    insBlocks lt n (q * 20) d = insBlocks lr n (q * 20) d ∧ PermIn 0 n d (insBlocks lr n (q * 20) d) ∧ Runs lr tag 20 n 0 (insBlocks lr n (q * 20) d) := by
  intro k
  induction k with
  | zero =>
    intro q d hk hn hq F T
    have e : ∀ l : α → α → Bool, insBlocks l n (q * 20) d = insertionSort l d (q * 20) n := fun l => by rw [insBlocks, if_neg (by omega)]
    have e2 : ∀ l : α → α → Bool, insertionSort l d (q * 20) n = d := fun l => by unfold insertionSort; rw [insOuter, if_neg (by omega)]
    rw [e, e, e2, e2]
    refine ⟨rfl, permIn_refl _ _ _, ⟨fun r i _ h1 h2 h3 => F.tags r i (by omega) h1 h2 h3, fun r i j _ h1 h2 h3 h4 => F.run r i j (by omega) h1 h2 h3 h4⟩⟩
  | succ k ih =>
    intro q d hk hn hq F T
    by_cases c : q * 20 + 20 ≤ n
    · have e : ∀ l : α → α → Bool, insBlocks l n (q * 20) d = insBlocks l n (q * 20 + 20) (insertionSort l d (q * 20) (q * 20 + 20)) := fun l => by rw [insBlocks, if_pos c]
      rw [e, e, insertionSort_congr ag (q * 20) (q * 20 + 20) d (by omega) fun x y h1 h2 h3 => by rw [T x h1 (by omega), T y (by omega) (by omega)]; exact h2]
      obtain ⟨hP, hA⟩ := insertionSort_holds hS d (q * 20) (q * 20 + 20) (by omega) (by omega)
      generalize insertionSort lr d (q * 20) (q * 20 + 20) = d1 at hP hA ⊢
      have := ih (q + 1) d1 (by omega) (by rw [hP.1]; exact hn) (by omega) ⟨fun r i hr h1 h2 h3 => ?_, fun r i j hr h1 h2 h3 h4 => ?_⟩ fun i h1 h2 => ?_
      · rw [show (q + 1) * 20 = q * 20 + 20 by omega] at this
        exact ⟨this.1, permIn_trans _ _ _ _ _ (permIn_mono d d1 _ _ 0 n (by omega) c (by omega) hP) this.2.1, this.2.2⟩
      · by_cases hr2 : r = q
        · subst hr2
          exact permIn_all d d1 _ _ (fun x => r * 20 ≤ tag x ∧ tag x < r * 20 + 20) (by omega) hP (fun x x1 x2 => by rw [T x x1 (by omega)]; omega) i h1 h2
        · rw [hP.2.1 i (by omega)]
          exact F.tags r i (by omega) h1 h2 h3
      · by_cases hr2 : r = q
        · subst hr2
          exact hA i j h1 h2 h3
        · rw [hP.2.1 i (by omega), hP.2.1 j (by omega)]
          exact F.run r i j (by omega) h1 h2 h3 h4
      · rw [hP.2.1 i (by omega)]
        exact T i (by omega) h2
    · have e : ∀ l : α → α → Bool, insBlocks l n (q * 20) d = insertionSort l d (q * 20) n := fun l => by rw [insBlocks, if_neg c]
      rw [e, e, insertionSort_congr ag (q * 20) n d (by omega) fun x y h1 h2 h3 => by rw [T x h1 (by omega), T y (by omega) (by omega)]; exact h2]
      obtain ⟨hP, hA⟩ := insertionSort_holds hS d (q * 20) n (by omega) (by omega)
      generalize insertionSort lr d (q * 20) n = d1 at hP hA ⊢
      refine ⟨rfl, permIn_mono d d1 _ _ 0 n (by omega) (Nat.le_refl _) (by omega) hP, ⟨fun r i _ h1 h2 h3 => ?_, fun r i j _ h1 h2 h3 h4 => ?_⟩⟩
      · by_cases hr2 : r = q
        · subst hr2
          exact permIn_all d d1 _ _ (fun x => r * 20 ≤ tag x ∧ tag x < r * 20 + 20) (by omega) hP (fun x x1 x2 => by rw [T x x1 (by omega)]; omega) i h1 h3
        · rw [hP.2.1 i (by omega)]
          exact F.tags r i (by omega) h1 h2 h3
      · by_cases hr2 : r = q
        · subst hr2
          exact hA i j h1 h2 h4
        · rw [hP.2.1 i (by omega), hP.2.1 j (by omega)]
          exact F.run r i j (by omega) h1 h2 h3 h4

theorem stable_spec (hS : SWO lr) (d : Array α) (T : ∀ i, i < d.size → tag d[i]! = i) :
    stable lt d = stable lr d ∧ PermIn 0 d.size d (stable lr d) ∧ SortedIn lr 0 d.size (stable lr d) := by
  unfold stable
  have h := insBlocks_spec ag hS d.size d.size 0 d (by omega) rfl (by omega) ⟨fun r i hr => by omega, fun r i j hr => by omega⟩ fun i _ h => T i h
  rw [Nat.zero_mul] at h
  obtain ⟨h1, h2, h3⟩ := h
  rw [h1]
  have hz := h2.1
  obtain ⟨g1, g2, g3⟩ := mergeAll_spec ag hS d.size d.size 20 _ (by omega) (by omega) hz.symm h3
  exact ⟨g1, permIn_trans _ _ _ _ _ h2 g2, g3⟩
end

/-! ### What does not look at the tags -/
section
variable {β : Type} [Inhabited β] (f : β → α) (lt : α → α → Bool)
def ltf (x y : β) : Bool := lt (f x) (f y)
theorem map_get (d : Array β) (i : Nat) (h : i < d.size) : (d.map f)[i]! = f d[i]! := by
  rw [getElem!_pos (d.map f) i (by simpa using h), getElem!_pos d i h, Array.getElem_map]
theorem map_swp (d : Array β) (i j : Nat) (hi : i < d.size) (hj : j < d.size) : swp (d.map f) i j = (swp d i j).map f := by
  unfold swp
  rw [map_get f d i hi, map_get f d j hj, Array.map_setIfInBounds, Array.map_setIfInBounds]
theorem map_insInner (a : Nat) : ∀ (j : Nat) (d : Array β), j < d.size → insInner lt a j (d.map f) = (insInner (ltf f lt) a j d).map f := by
  intro j
  induction j with
  | zero => intro d _; rfl
  | succ j ih =>
    intro d hj
    unfold insInner
    rw [map_get f d _ hj, map_get f d _ (by omega), map_swp f d _ _ hj (by omega), ih _ (by rw [size_swp]; omega), ← apply_ite (Array.map f)]
    rfl
theorem size_insInner (l : β → β → Bool) (a : Nat) : ∀ (j : Nat) (d : Array β), (insInner l a j d).size = d.size := by
  intro j
  induction j with
  | zero => intro d; rfl
  | succ j ih =>
    intro d
    unfold insInner
    split
    · rw [ih, size_swp]
    · rfl
theorem insOuter_pos {γ : Type} [Inhabited γ] (l : γ → γ → Bool) (a b i : Nat) (d : Array γ) (h : i < b) : insOuter l a b i d = insOuter l a b (i + 1) (insInner l a i d) := by rw [insOuter, if_pos h]
theorem shiftR_pos {γ : Type} [Inhabited γ] (k e : Nat) (d : Array γ) (h : k < e) : shiftR k e d = shiftR (k + 1) e (swp d k (k + 1)) := by rw [shiftR, if_pos h]
theorem swapR_pos {γ : Type} [Inhabited γ] (a b n i : Nat) (d : Array γ) (h : i < n) : swapR a b n i d = swapR a b n (i + 1) (swp d (a + i) (b + i)) := by rw [swapR, if_pos h]
theorem insBlocks_pos {γ : Type} [Inhabited γ] (l : γ → γ → Bool) (n a : Nat) (d : Array γ) (h : a + 20 ≤ n) : insBlocks l n a d = insBlocks l n (a + 20) (insertionSort l d a (a + 20)) := by rw [insBlocks, if_pos h]
theorem map_insOuter (a b : Nat) : ∀ (k i : Nat) (d : Array β), b - i ≤ k → b ≤ d.size → insOuter lt a b i (d.map f) = (insOuter (ltf f lt) a b i d).map f := by
  intro k
  induction k with
  | zero => intro i d hk _; rw [insOuter, if_neg (by omega), insOuter, if_neg (by omega)]
  | succ k ih =>
    intro i d hk hb
    by_cases h : i < b
    · rw [insOuter_pos lt _ _ _ _ h, insOuter_pos (ltf f lt) _ _ _ _ h, map_insInner f lt a i d (by omega), ih _ _ (by omega) (by rw [size_insInner]; exact hb)]
    · rw [insOuter, if_neg h, insOuter, if_neg h]
theorem map_shiftR (e : Nat) : ∀ (n k : Nat) (d : Array β), e - k ≤ n → e < d.size → shiftR k e (d.map f) = (shiftR k e d).map f := by
  intro n
  induction n with
  | zero => intro k d h _; rw [shiftR, if_neg (by omega), shiftR, if_neg (by omega)]
  | succ n ih =>
    intro k d h he
    by_cases hk : k < e
    · rw [shiftR_pos _ _ (d.map f) hk, shiftR_pos _ _ d hk, map_swp f d _ _ (by omega) (by omega), ih _ _ (by omega) (by rw [size_swp]; exact he)]
    · rw [shiftR, if_neg hk, shiftR, if_neg hk]
theorem map_shiftL (i : Nat) : ∀ (k : Nat) (d : Array β), k < d.size → shiftL i k (d.map f) = (shiftL i k d).map f := by
  intro k
  induction k with
  | zero => intro d _; rfl
  | succ k ih =>
    intro d hk
    unfold shiftL
    split
    · rw [map_swp f d _ _ (by omega) (by omega), ih _ (by rw [size_swp]; omega)]
    · rfl
theorem map_swapR (a b n : Nat) : ∀ (k i : Nat) (d : Array β), n - i ≤ k → a + n ≤ d.size → b + n ≤ d.size → swapR a b n i (d.map f) = (swapR a b n i d).map f := by
  intro k
  induction k with
  | zero => intro i d h _ _; rw [swapR, if_neg (by omega), swapR, if_neg (by omega)]
  | succ k ih =>
    intro i d h ha hb
    by_cases hi : i < n
    · rw [swapR_pos _ _ _ _ (d.map f) hi, swapR_pos _ _ _ _ d hi, map_swp f d _ _ (by omega) (by omega), ih _ _ (by omega) (by rw [size_swp]; exact ha) (by rw [size_swp]; exact hb)]
    · rw [swapR, if_neg hi, swapR, if_neg hi]
theorem size_swapR (a b n : Nat) : ∀ (k i : Nat) (d : Array β), n - i ≤ k → (swapR a b n i d).size = d.size := by
  intro k
  induction k with
  | zero => intro i d h; rw [swapR, if_neg (by omega)]
  | succ k ih =>
    intro i d h
    by_cases hi : i < n
    · rw [swapR, if_pos hi, ih _ _ (by omega), size_swp]
    · rw [swapR, if_neg hi]
theorem map_rotL (m : Nat) : ∀ (k i j : Nat) (d : Array β), i ≤ m → m + j ≤ d.size → rotL m k i j (d.map f) = (rotL m k i j d).map f := by
  intro k
  induction k with
  | zero => intro i j d _ _; rfl
  | succ k ih =>
    intro i j d hi hj
    unfold rotL
    by_cases e : i = j
    · rw [if_pos e, if_pos e, map_swapR f _ _ _ i 0 d (by omega) (by omega) (by omega)]
    · rw [if_neg e, if_neg e]
      by_cases g : i > j
      · rw [if_pos g, if_pos g, map_swapR f _ _ _ j 0 d (by omega) (by omega) (by omega), ih _ _ _ (by omega) (by rw [size_swapR _ _ _ j 0 d (by omega)]; exact hj)]
      · rw [if_neg g, if_neg g, map_swapR f _ _ _ i 0 d (by omega) (by omega) (by omega), ih _ _ _ (by omega) (by rw [size_swapR _ _ _ i 0 d (by omega)]; omega)]
theorem map_symM : ∀ (k a m b : Nat) (d : Array β), a < m → m < b → b ≤ d.size → symM lt k a m b (d.map f) = (symM (ltf f lt) k a m b d).map f := by
  intro k
  induction k with
  | zero => intro a m b d _ _ _; rfl
  | succ k ih =>
    intro a m b d ham hmb hsz
    unfold symM
    by_cases e1 : m - a = 1
    · rw [if_pos e1, if_pos e1]
      have hc : bs (fun h => lt (d.map f)[h]! (d.map f)[a]!) m b = bs (fun h => ltf f lt d[h]! d[a]!) m b :=
        bs_congr _ _ (b - m) m b (Nat.le_refl _) fun x x1 x2 => by rw [map_get f d x (by omega), map_get f d a (by omega)]; rfl
      obtain ⟨g1, g2, _⟩ := bs_spec (fun h => ltf f lt d[h]! d[a]!) m b (b - m) m b (by omega) (by omega) (by omega) (by omega) (.inl rfl) (.inl rfl)
      rw [hc, map_shiftR f _ _ _ _ (Nat.le_refl _) (by omega)]
    rw [if_neg e1, if_neg e1]
    by_cases e2 : b - m = 1
    · rw [if_pos e2, if_pos e2]
      have hc : bs (fun h => !lt (d.map f)[m]! (d.map f)[h]!) a m = bs (fun h => !ltf f lt d[m]! d[h]!) a m :=
        bs_congr _ _ (m - a) a m (Nat.le_refl _) fun x x1 x2 => by rw [map_get f d x (by omega), map_get f d m (by omega)]; rfl
      rw [hc, map_shiftL f _ _ _ (by omega)]
    rw [if_neg e2, if_neg e2]
    simp only
    generalize hmid : (a + b) / 2 = mid
    have hbs : bs (fun c => !lt (d.map f)[mid + m - 1 - c]! (d.map f)[c]!) (if m > mid then mid + m - b else a) (if m > mid then mid else m) = bs (fun c => !ltf f lt d[mid + m - 1 - c]! d[c]!) (if m > mid then mid + m - b else a) (if m > mid then mid else m) := by
      refine bs_congr _ _ b _ _ (by split <;> omega) fun c c1 c2 => ?_
      rw [map_get f d _ (by split at c1 <;> split at c2 <;> omega), map_get f d _ (by split at c1 <;> split at c2 <;> omega)]
      rfl
    rw [hbs]
    obtain ⟨g1, g2, _⟩ := bs_spec (fun c => !ltf f lt d[mid + m - 1 - c]! d[c]!) (if m > mid then mid + m - b else a) (if m > mid then mid else m) b (if m > mid then mid + m - b else a) (if m > mid then mid else m)
      (by split <;> omega) (Nat.le_refl _) (by split <;> omega) (Nat.le_refl _) (.inl rfl) (.inl rfl)
    generalize bs (fun c => !ltf f lt d[mid + m - 1 - c]! d[c]!) (if m > mid then mid + m - b else a) (if m > mid then mid else m) = st at g1 g2 ⊢
    have hst : a ≤ st ∧ st ≤ m ∧ st ≤ mid ∧ mid + m - st ≤ b ∧ m ≤ mid + m - st := by split at g1 <;> split at g2 <;> omega
    obtain ⟨h1, h2, h3, h4, h5⟩ := hst
    generalize hen : mid + m - st = en at h4 h5 ⊢
    have q1 : (if st < m ∧ m < en then rotate st m en (d.map f) else d.map f) = (if st < m ∧ m < en then rotate st m en d else d).map f := by
      split
      · unfold rotate; exact map_rotL f m _ _ _ d (by omega) (by omega)
      · rfl
    rw [q1]
    have o1 : ∃ d1, (if st < m ∧ m < en then rotate st m en d else d) = d1 ∧ d1.size = d.size := by
      refine ⟨_, rfl, ?_⟩
      split
      · rename_i hc; exact (rotate_spec st m en d hc.1 hc.2 (by omega)).1.size
      · rfl
    obtain ⟨d1, e1, z1⟩ := o1
    rw [e1]
    have q2 : (if a < st ∧ st < mid then symM lt k a st mid (d1.map f) else d1.map f) = (if a < st ∧ st < mid then symM (ltf f lt) k a st mid d1 else d1).map f := by
      split
      · rename_i hc; exact ih a st mid d1 hc.1 hc.2 (by omega)
      · rfl
    rw [q2]
    have o2 : ∃ d2, (if a < st ∧ st < mid then symM (ltf f lt) k a st mid d1 else d1) = d2 ∧ d2.size = d.size := by
      refine ⟨_, rfl, ?_⟩
      split
      · rename_i hc; rw [(symM_out (ltf f lt) k a st mid d1 hc.1 hc.2 (by omega)).size, z1]
      · exact z1
    obtain ⟨d2, e2, z2⟩ := o2
    rw [e2]
    split
    · rename_i hc; exact ih mid en b d2 hc.1 hc.2 (by omega)
    · rfl
theorem size_symM (l : β → β → Bool) (k a m b : Nat) (d : Array β) (h1 : a < m) (h2 : m < b) (h3 : b ≤ d.size) : (symM l k a m b d).size = d.size := (symM_out l k a m b d h1 h2 h3).size
theorem size_mergePass (l : β → β → Bool) (s n : Nat) (hs : 0 < s) : ∀ (k a : Nat) (d : Array β), n = d.size → (mergePass l s n k a d).size = d.size := by
  intro k
  induction k with
  | zero => intro a d _; rfl
  | succ k ih =>
    intro a d hn
    unfold mergePass
    split
    · rw [ih _ _ (by rw [size_symM _ _ _ _ _ _ (by omega) (by omega) (by omega)]; exact hn), size_symM _ _ _ _ _ _ (by omega) (by omega) (by omega)]
    · split
      · rw [size_symM _ _ _ _ _ _ (by omega) (by omega) (by omega)]
      · rfl
theorem map_mergePass (s n : Nat) (hs : 0 < s) : ∀ (k a : Nat) (d : Array β), n = d.size → mergePass lt s n k a (d.map f) = (mergePass (ltf f lt) s n k a d).map f := by
  intro k
  induction k with
  | zero => intro a d _; rfl
  | succ k ih =>
    intro a d hn
    unfold mergePass
    split
    · rw [map_symM f lt _ _ _ _ _ (by omega) (by omega) (by omega), ih _ _ (by rw [size_symM _ _ _ _ _ _ (by omega) (by omega) (by omega)]; exact hn)]
    · split
      · rw [map_symM f lt _ _ _ _ _ (by omega) (by omega) (by omega)]
      · rfl
theorem map_mergeAll (n : Nat) : ∀ (k s : Nat) (d : Array β), 0 < s → n = d.size → mergeAll lt n k s (d.map f) = (mergeAll (ltf f lt) n k s d).map f := by
  intro k
  induction k with
  | zero => intro s d _ _; rfl
  | succ k ih =>
    intro s d hs hn
    unfold mergeAll
    split
    · rw [map_mergePass f lt s n hs _ _ _ hn, ih _ _ (by omega) (by rw [size_mergePass _ _ _ hs _ _ _ hn]; exact hn)]
    · rfl
theorem map_insertionSort (a b : Nat) (d : Array β) (hb : b ≤ d.size) : insertionSort lt (d.map f) a b = (insertionSort (ltf f lt) d a b).map f := map_insOuter f lt a b (b - (a + 1)) (a + 1) d (Nat.le_refl _) hb
theorem size_insOuter (l : β → β → Bool) (a b : Nat) : ∀ (k i : Nat) (d : Array β), b - i ≤ k → (insOuter l a b i d).size = d.size := by
  intro k
  induction k with
  | zero => intro i d hk; rw [insOuter, if_neg (by omega)]
  | succ k ih =>
    intro i d hk
    by_cases h : i < b
    · rw [insOuter, if_pos h, ih _ _ (by omega), size_insInner]
    · rw [insOuter, if_neg h]
theorem size_insertionSort (l : β → β → Bool) (a b : Nat) (d : Array β) : (insertionSort l d a b).size = d.size := size_insOuter l a b (b - (a + 1)) (a + 1) d (Nat.le_refl _)
theorem map_insBlocks (n : Nat) : ∀ (k a : Nat) (d : Array β), n ≤ k + a → n = d.size → insBlocks lt n a (d.map f) = (insBlocks (ltf f lt) n a d).map f := by
  intro k
  induction k with
  | zero => intro a d h hn; rw [insBlocks, if_neg (by omega), insBlocks, if_neg (by omega), map_insertionSort f lt _ _ _ (by omega)]
  | succ k ih =>
    intro a d h hn
    by_cases c : a + 20 ≤ n
    · rw [insBlocks_pos lt _ _ _ c, insBlocks_pos (ltf f lt) _ _ _ c, map_insertionSort f lt _ _ _ (by omega), ih _ _ (by omega) (by rw [size_insertionSort]; exact hn)]
    · rw [insBlocks, if_neg c, insBlocks, if_neg c, map_insertionSort f lt _ _ _ (by omega)]
theorem size_insBlocks (l : β → β → Bool) (n : Nat) : ∀ (k a : Nat) (d : Array β), n ≤ k + a → (insBlocks l n a d).size = d.size := by
  intro k
  induction k with
  | zero => intro a d h; rw [insBlocks, if_neg (by omega), size_insertionSort]
  | succ k ih =>
    intro a d h
    by_cases c : a + 20 ≤ n
    · rw [insBlocks, if_pos c, ih _ _ (by omega), size_insertionSort]
    · rw [insBlocks, if_neg c, size_insertionSort]
theorem map_stable (d : Array β) : stable lt (d.map f) = (stable (ltf f lt) d).map f := by
  unfold stable
  rw [Array.size_map, map_insBlocks f lt d.size d.size 0 d (by omega) rfl, map_mergeAll f lt _ _ _ _ (by omega) (by rw [size_insBlocks _ _ d.size 0 d (by omega)])]
end

/-! ### The whole -/
def lexlt (lt : α → α → Bool) (x y : α × Nat) : Bool := lt x.1 y.1 || (!lt y.1 x.1 && decide (x.2 < y.2))
omit [Inhabited α] in
theorem swo_lex {lt : α → α → Bool} (h : SWO lt) : SWO (lexlt lt) where
  irrefl x := by simp [lexlt, h.irrefl]
  trans x y z h1 h2 := by
    simp only [lexlt, Bool.or_eq_true, Bool.and_eq_true, Bool.not_eq_true', decide_eq_true_eq] at *
    rcases h1 with h1 | ⟨h1, h1'⟩
    · rcases h2 with h2 | ⟨h2, h2'⟩
      · exact .inl (h.trans _ _ _ h1 h2)
      · refine .inl ?_
        cases hc : lt x.1 z.1 with
        | true => rfl
        | false => have := h.ntrans _ _ _ hc h2; rw [h1] at this; cases this
    · rcases h2 with h2 | ⟨h2, h2'⟩
      · refine .inl ?_
        cases hc : lt x.1 z.1 with
        | true => rfl
        | false => have := h.ntrans _ _ _ h1 hc; rw [h2] at this; cases this
      · exact .inr ⟨h.ntrans _ _ _ h2 h1, by omega⟩
  ntrans x y z h1 h2 := by
    simp only [lexlt, Bool.or_eq_false_iff, Bool.and_eq_false_iff, Bool.not_eq_false', decide_eq_false_iff_not] at *
    refine ⟨h.ntrans _ _ _ h1.1 h2.1, ?_⟩
    cases hc : lt z.1 x.1 with
    | true => exact .inl rfl
    | false =>
      refine .inr ?_
      have a1 := h1.2
      have a2 := h2.2
      have b1 : lt y.1 x.1 = false := by
        cases hy : lt y.1 x.1 with
        | false => rfl
        | true => have := h.ntrans _ _ _ h2.1 hc; rw [hy] at this; cases this
      have b2 : lt z.1 y.1 = false := by
        cases hy : lt z.1 y.1 with
        | false => rfl
        | true => have := h.ntrans _ _ _ hc h1.1; rw [hy] at this; cases this
      rw [b1] at a1
      rw [b2] at a2
      simp only [Bool.false_eq_true, false_or] at a1 a2
      omega

/-- THE STABLE SORT GIVES core's mergeSort. -/
theorem stable_eq {lt : α → α → Bool} (hS : SWO lt) (d : Array α) : (stable lt d).toList = d.toList.mergeSort (fun x y => !lt y x) := by
  let e : Array (α × Nat) := d.zipIdx
  have he : e.map Prod.fst = d := by
    refine Array.ext (by simp [e]) fun i h1 h2 => ?_
    simp [e]
  have hsz : e.size = d.size := by simp [e]
  have hel : e.toList = d.toList.zipIdx := by simp [e]
  have T : ∀ i, i < e.size → (fun x : α × Nat => x.2) e[i]! = i := by
    intro i hi
    show (e[i]!).2 = i
    rw [getElem!_pos e i hi]
    simp [e]
  have ag : ∀ x y : α × Nat, (fun x : α × Nat => x.2) x < (fun x : α × Nat => x.2) y → ltf Prod.fst lt y x = lexlt lt y x := by
    intro x y hxy
    simp only at hxy
    have : decide (y.2 < x.2) = false := decide_eq_false (by omega)
    simp [ltf, lexlt, this]
  obtain ⟨h1, h2, h3⟩ := stable_spec ag (swo_lex hS) e T
  have hu : (stable (ltf Prod.fst lt) e).toList = e.toList.mergeSort (List.zipIdxLE fun x y => !lt y x) := by
    rw [h1]
    obtain ⟨hz, _, hp⟩ := h2
    have e1 : (stable (lexlt lt) e).extract 0 e.size = stable (lexlt lt) e := by rw [← hz]; exact Array.extract_size
    rw [e1, Array.extract_size] at hp
    have le_eq : ∀ x y : α × Nat, (List.zipIdxLE (fun x y => !lt y x) x y) = true ↔ lexlt lt y x = false := by
      intro x y
      unfold List.zipIdxLE lexlt
      cases ha : lt y.1 x.1 <;> cases hb : lt x.1 y.1 <;> simp [ha, hb]
    refine List.Perm.eq_of_pairwise (le := fun x y => lexlt lt y x = false) ?_ ?_ ?_ (hp.trans (List.mergeSort_perm _ _).symm)
    · intro x y hx hy h1 h2
      have hx' := (hp.mem_iff).1 hx
      have hy' := ((List.mergeSort_perm _ _).mem_iff).1 hy
      simp only [lexlt, Bool.or_eq_false_iff, Bool.and_eq_false_iff, Bool.not_eq_false', decide_eq_false_iff_not] at h1 h2
      have : x.2 = y.2 := by
        have a1 := h1.2
        have a2 := h2.2
        rw [h2.1] at a1
        rw [h1.1] at a2
        simp only [Bool.false_eq_true, false_or] at a1 a2
        omega
      rw [hel] at hx' hy'
      have g1 := List.mk_mem_zipIdx_iff_getElem?.1 (show (x.1, x.2) ∈ d.toList.zipIdx from hx')
      have g2 := List.mk_mem_zipIdx_iff_getElem?.1 (show (y.1, y.2) ∈ d.toList.zipIdx from hy')
      rw [this, g2] at g1
      injection g1 with g1
      exact Prod.ext g1.symm this
    · rw [List.pairwise_iff_getElem]
      intro i j hi hj hij
      have hi' : i < (stable (lexlt lt) e).size := by simpa using hi
      have hj' : j < (stable (lexlt lt) e).size := by simpa using hj
      have := h3 i j (Nat.zero_le _) hij (by omega)
      rw [getElem!_pos _ j hj', getElem!_pos _ i hi'] at this
      simpa using this
    · have hp := List.pairwise_mergeSort (le := List.zipIdxLE fun x y => !lt y x) (fun a b c h1 h2 => by
        rw [le_eq] at *
        exact (swo_lex hS).ntrans _ _ _ h2 h1) (fun a b => by
        rw [Bool.or_eq_true, le_eq, le_eq]
        cases hc : lexlt lt b a with
        | false => exact .inl rfl
        | true => exact .inr ((swo_lex hS).asymmA hc)) e.toList
      exact hp.imp fun {a b} h => (le_eq a b).1 h
  have := map_stable Prod.fst lt e
  rw [he] at this
  rw [this, Array.toList_map, hu, hel]
  exact List.mergeSort_zipIdx
end Go.Proofs.Ytnldnaogbadajaa.St

/- Sorting elements of four cells: what a walk wants. -/
namespace Go.Proofs.Ytnldnaogbadajaa.Kw
open Go.Shelf Go.RowKit Go.Lib Go.Sort Go.Proofs.Ytnldnaogbadajaa.St
variable {α : Type} [Inhabited α]

/-- An element: four ints. -/
def E4 (f : α → Int × Int × Int × Int) (x : α) : List Value := [.int .i64 (f x).1, .int .i64 (f x).2.1, .int .i64 (f x).2.2.1, .int .i64 (f x).2.2.2]
omit [Inhabited α] in
theorem four (f : α → Int × Int × Int × Int) (x : α) : ∃ a b c d : Int, E4 f x = [.int .i64 a, .int .i64 b, .int .i64 c, .int .i64 d] := ⟨_, _, _, _, rfl⟩
theorem keepC {W : World} {a : Addr} (h : ∃ u, W.cell? a = some u) (b : Addr) (v : Value) : ∃ u, (W.setCell b v).cell? a = some u := by
  obtain ⟨u, hu⟩ := h
  by_cases e : a = b
  · subst e
    exact ⟨v, World.cell?_setCell_same' _ _ _ (by rw [hu]; rfl)⟩
  · refine ⟨u, ?_⟩
    rw [World.cell?_setCell_other (h := Ne.symm e)]
    exact hu
structure At4 (W : World) (blk o : Nat) (x0 x1 x2 x3 : Value) : Prop where
  c0 : W.cell? ⟨blk, o, none⟩ = some x0
  c1 : W.cell? ⟨blk, o + 1, none⟩ = some x1
  c2 : W.cell? ⟨blk, o + 2, none⟩ = some x2
  c3 : W.cell? ⟨blk, o + 3, none⟩ = some x3
  f0 : W.frozen? ⟨blk, o, none⟩ = false
  f1 : W.frozen? ⟨blk, o + 1, none⟩ = false
  f2 : W.frozen? ⟨blk, o + 2, none⟩ = false
  f3 : W.frozen? ⟨blk, o + 3, none⟩ = false
theorem at4 {enc : α → List Value} {w0 W : World} {blk off : Nat} {dk d0 : Array α} (h : SWK enc 4 w0 blk off dk W) (R : RowK enc 4 w0 blk off d0) (hs : dk.size = d0.size) (i : Nat) (hi : i < dk.size) (x0 x1 x2 x3 : Value) (hx : enc dk[i]! = [x0, x1, x2, x3]) : At4 W blk (off + i * 4) x0 x1 x2 x3 := by
  have g := fun c hc => (h.holds R.hblk R.hH hs).cell (i := i) (c := c) hi hc
  have g0 := g 0 (by omega)
  have g1 := g 1 (by omega)
  have g2 := g 2 (by omega)
  have g3 := g 3 (by omega)
  rw [hx] at g0 g1 g2 g3
  exact ⟨g0.1, g1.1, g2.1, g3.1, g0.2, g1.2, g2.2, g3.2⟩
def st4 (W : World) (blk o : Nat) (x0 x1 x2 x3 : Value) : World := (((W.setCell ⟨blk, o, none⟩ x0).setCell ⟨blk, o + 1, none⟩ x1).setCell ⟨blk, o + 2, none⟩ x2).setCell ⟨blk, o + 3, none⟩ x3
theorem setCells4 (W : World) (blk o : Nat) (x0 x1 x2 x3 : Value) : W.setCells blk o [x0, x1, x2, x3] = st4 W blk o x0 x1 x2 x3 := by
  simp only [World.setCells, st4]
theorem st4_drew (W : World) (blk o : Nat) (x0 x1 x2 x3 : Value) : st4 W.drew blk o x0 x1 x2 x3 = (st4 W blk o x0 x1 x2 x3).drew := rfl
theorem swapped4 {enc : α → List Value} {w0 W : World} {blk off : Nat} {dk d0 : Array α} (h : SWK enc 4 w0 blk off dk W) (R : RowK enc 4 w0 blk off d0) (i j : Nat) (hi : i < dk.size) (hj : j < dk.size) (x0 x1 x2 x3 y0 y1 y2 y3 : Value) (hx : enc dk[i]! = [x0, x1, x2, x3]) (hy : enc dk[j]! = [y0, y1, y2, y3]) :
    SWK enc 4 w0 blk off (swp dk i j) (st4 (st4 W blk (off + i * 4) y0 y1 y2 y3) blk (off + j * 4) x0 x1 x2 x3).drew := by
  have := h.swapped R i j hi hj
  rw [hx, hy, setCells4, setCells4, st4_drew, st4_drew] at this
  exact this
end Go.Proofs.Ytnldnaogbadajaa.Kw

/- Go's stable sort of ints, walked: swapRange, rotate. -/
set_option linter.unusedVariables false
namespace Go.Proofs.Ytnldnaogbadajaa.Kw
open Go.Shelf Go.RowKit Go.Lib Go.Sort Go.Proofs.Ytnldnaogbadajaa.St

variable {α : Type} [Inhabited α]

set_option maxHeartbeats 4000000 in
set_option maxRecDepth 1000000 in
theorem swapRange_s (f : α → Int × Int × Int × Int) (F : Value) (blk off cap a b n : Nat) (d0 d : Array α) (w0 w : World) (R : RowK (E4 f) 4 w0 blk off d0) (hs : d0.size = d.size) (S : SWK (E4 f) 4 w0 blk off d w)
    (h1 : a + n ≤ d.size) (h2 : b + n ≤ d.size) (hsz : d.size < 4611686018427387904) :
    Calls Try.prog 105 #[.slice (some ⟨blk, off, none⟩) d.size cap, .int .i64 a, .int .i64 b, .int .i64 n, F] w fun e w' => e = .returned (.tuple #[]) ∧ SWK (E4 f) 4 w0 blk off (swapR a b n 0 d) w' := by
  have S0 : Aside (SWK (E4 f) 4 w0 blk off d w) := S
  clear S
  go_enter Try.func105, Try.ntmps105
  go_wp2
  go_loopg [10] n (fun kx s wr => ∃ (i : Nat) (dk : Array α), s = .int .i64 i ∧ i ≤ n ∧ n - i ≤ kx ∧ dk.size = d.size ∧ Aside (SWK (E4 f) 4 w0 blk off dk wr) ∧ Hid (swapR a b n i dk = swapR a b n 0 d))
  case atStart => exact ⟨0, d, rfl, by omega, by omega, rfl, S0, rfl⟩
  case round =>
    clear S0
    obtain ⟨i, dk, rfl, hin, hkx, hds, S1, heq⟩ := hrel
    by_cases hlt : i < n
    · go_wp2_with fail
      obtain ⟨iN, hiN⟩ : ∃ q, q = a + i := ⟨_, rfl⟩
      obtain ⟨jN, hjN⟩ : ∃ q, q = b + i := ⟨_, rfl⟩
      have ea : ((a : Int) + (i : Int)).toNat = iN := by omega
      have pa : (0 : Int) ≤ (a : Int) + (i : Int) := by omega
      have ba : (a : Int) + (i : Int) < (d.size : Int) := by omega
      have ra : IntKind.i64.wrap ((a : Int) + (i : Int)) = (a : Int) + (i : Int) := by rw [IntKind.wrap_i64]; omega
      have ec : ((b : Int) + (i : Int)).toNat = jN := by omega
      have pc : (0 : Int) ≤ (b : Int) + (i : Int) := by omega
      have bc : (b : Int) + (i : Int) < (d.size : Int) := by omega
      have rc : IntKind.i64.wrap ((b : Int) + (i : Int)) = (b : Int) + (i : Int) := by rw [IntKind.wrap_i64]; omega
      obtain ⟨x, hx⟩ : ∃ x, x = dk[a + i]! := ⟨_, rfl⟩
      obtain ⟨y, hy⟩ : ∃ x, x = dk[b + i]! := ⟨_, rfl⟩
      obtain ⟨x0, x1, x2, x3, hcX⟩ := four f x
      obtain ⟨y0, y1, y2, y3, hcY⟩ := four f y
      have S2 : Aside (SWK (E4 f) 4 w0 blk off (swp dk (a + i) (b + i)) (st4 (st4 wr blk (off + iN * 4) (.int .i64 y0) (.int .i64 y1) (.int .i64 y2) (.int .i64 y3)) blk (off + jN * 4) (.int .i64 x0) (.int .i64 x1) (.int .i64 x2) (.int .i64 x3)).drew) := by rw [hiN, hjN]; exact swapped4 S1.out R (a + i) (b + i) (by omega) (by omega) (.int .i64 x0) (.int .i64 x1) (.int .i64 x2) (.int .i64 x3) (.int .i64 y0) (.int .i64 y1) (.int .i64 y2) (.int .i64 y3) (by rw [← hx]; exact hcX) (by rw [← hy]; exact hcY)
      have a4 : At4 wr blk (off + iN * 4) (.int .i64 x0) (.int .i64 x1) (.int .i64 x2) (.int .i64 x3) := by rw [hiN]; exact at4 S1.out R (by omega) (a + i) (by omega) (.int .i64 x0) (.int .i64 x1) (.int .i64 x2) (.int .i64 x3) (by rw [← hx]; exact hcX)
      have b4 : At4 wr blk (off + jN * 4) (.int .i64 y0) (.int .i64 y1) (.int .i64 y2) (.int .i64 y3) := by rw [hjN]; exact at4 S1.out R (by omega) (b + i) (by omega) (.int .i64 y0) (.int .i64 y1) (.int .i64 y2) (.int .i64 y3) (by rw [← hy]; exact hcY)
      obtain ⟨cx0, cx1, cx2, cx3, fx0, fx1, fx2, fx3⟩ := a4
      obtain ⟨cy0, cy1, cy2, cy3, fy0, fy1, fy2, fy3⟩ := b4
      obtain ⟨u1, k1⟩ : ∃ u, World.cell? (World.setCell wr ⟨blk, off + iN * 4, none⟩ (.int .i64 y0)) ⟨blk, off + iN * 4 + 1, none⟩ = some u := keepC ⟨_, cx1⟩ _ _
      obtain ⟨u2, k2⟩ : ∃ u, World.cell? (World.setCell (World.setCell wr ⟨blk, off + iN * 4, none⟩ (.int .i64 y0)) ⟨blk, off + iN * 4 + 1, none⟩ (.int .i64 y1)) ⟨blk, off + iN * 4 + 2, none⟩ = some u := keepC (keepC ⟨_, cx2⟩ _ _) _ _
      obtain ⟨u3, k3⟩ : ∃ u, World.cell? (World.setCell (World.setCell (World.setCell wr ⟨blk, off + iN * 4, none⟩ (.int .i64 y0)) ⟨blk, off + iN * 4 + 1, none⟩ (.int .i64 y1)) ⟨blk, off + iN * 4 + 2, none⟩ (.int .i64 y2)) ⟨blk, off + iN * 4 + 3, none⟩ = some u := keepC (keepC (keepC ⟨_, cx3⟩ _ _) _ _) _ _
      obtain ⟨u4, k4⟩ : ∃ u, World.cell? (World.setCell (World.setCell (World.setCell (World.setCell wr ⟨blk, off + iN * 4, none⟩ (.int .i64 y0)) ⟨blk, off + iN * 4 + 1, none⟩ (.int .i64 y1)) ⟨blk, off + iN * 4 + 2, none⟩ (.int .i64 y2)) ⟨blk, off + iN * 4 + 3, none⟩ (.int .i64 y3)) ⟨blk, off + jN * 4, none⟩ = some u := keepC (keepC (keepC (keepC ⟨_, cy0⟩ _ _) _ _) _ _) _ _
      obtain ⟨u5, k5⟩ : ∃ u, World.cell? (World.setCell (World.setCell (World.setCell (World.setCell (World.setCell wr ⟨blk, off + iN * 4, none⟩ (.int .i64 y0)) ⟨blk, off + iN * 4 + 1, none⟩ (.int .i64 y1)) ⟨blk, off + iN * 4 + 2, none⟩ (.int .i64 y2)) ⟨blk, off + iN * 4 + 3, none⟩ (.int .i64 y3)) ⟨blk, off + jN * 4, none⟩ (.int .i64 x0)) ⟨blk, off + jN * 4 + 1, none⟩ = some u := keepC (keepC (keepC (keepC (keepC ⟨_, cy1⟩ _ _) _ _) _ _) _ _) _ _
      obtain ⟨u6, k6⟩ : ∃ u, World.cell? (World.setCell (World.setCell (World.setCell (World.setCell (World.setCell (World.setCell wr ⟨blk, off + iN * 4, none⟩ (.int .i64 y0)) ⟨blk, off + iN * 4 + 1, none⟩ (.int .i64 y1)) ⟨blk, off + iN * 4 + 2, none⟩ (.int .i64 y2)) ⟨blk, off + iN * 4 + 3, none⟩ (.int .i64 y3)) ⟨blk, off + jN * 4, none⟩ (.int .i64 x0)) ⟨blk, off + jN * 4 + 1, none⟩ (.int .i64 x1)) ⟨blk, off + jN * 4 + 2, none⟩ = some u := keepC (keepC (keepC (keepC (keepC (keepC ⟨_, cy2⟩ _ _) _ _) _ _) _ _) _ _) _ _
      obtain ⟨u7, k7⟩ : ∃ u, World.cell? (World.setCell (World.setCell (World.setCell (World.setCell (World.setCell (World.setCell (World.setCell wr ⟨blk, off + iN * 4, none⟩ (.int .i64 y0)) ⟨blk, off + iN * 4 + 1, none⟩ (.int .i64 y1)) ⟨blk, off + iN * 4 + 2, none⟩ (.int .i64 y2)) ⟨blk, off + iN * 4 + 3, none⟩ (.int .i64 y3)) ⟨blk, off + jN * 4, none⟩ (.int .i64 x0)) ⟨blk, off + jN * 4 + 1, none⟩ (.int .i64 x1)) ⟨blk, off + jN * 4 + 2, none⟩ (.int .i64 x2)) ⟨blk, off + jN * 4 + 3, none⟩ = some u := keepC (keepC (keepC (keepC (keepC (keepC (keepC ⟨_, cy3⟩ _ _) _ _) _ _) _ _) _ _) _ _) _ _
      simp only [st4] at S2
      clear S1 hx hy hiN hjN hcX hcY
      go_big_region
      clear cx0 cx1 cx2 cx3 cy0 cy1 cy2 cy3 fx0 fx1 fx2 fx3 fy0 fy1 fy2 fy3 k1 k2 k3 k4 k5 k6 k7
      generalize World.drew _ = w2 at S2 ⊢
      clear ea ec
      go_wp2
      go_roundg (n - (i + 1))
      case measure => omega
      case rel => exact ⟨i + 1, swp dk (a + i) (b + i), by go_num, by omega, by omega, by rw [size_swp]; exact hds, S2, (show Hid _ from by rw [← heq.out, swapR_pos _ _ _ _ _ hlt]; exact rfl)⟩
    · go_wp2
      go_end0
      refine ⟨rfl, ?_⟩
      rw [← heq.out, swapR, if_neg hlt]
      exact S1.out

theorem rotL_stop (m k i : Nat) (d : Array α) : rotL m (k + 1) i i d = swapR (m - i) m i 0 d := by unfold rotL; rw [if_pos rfl]
theorem rotL_gt (m k i j : Nat) (d : Array α) (h : i > j) : rotL m (k + 1) i j d = rotL m k (i - j) j (swapR (m - i) m j 0 d) := by conv => lhs; unfold rotL; rw [if_neg (by omega), if_pos h]
theorem rotL_lt (m k i j : Nat) (d : Array α) (h : i < j) : rotL m (k + 1) i j d = rotL m k i (j - i) (swapR (m - i) (m + j - i) i 0 d) := by conv => lhs; unfold rotL; rw [if_neg (by omega), if_neg (by omega)]
theorem rotL_fuel (m : Nat) : ∀ (k k' i j : Nat) (d : Array α), 0 < i → 0 < j → i + j ≤ k → i + j ≤ k' → rotL m k i j d = rotL m k' i j d := by
  intro k
  induction k with
  | zero => intro k' i j d h1 h2 h3; omega
  | succ k ih =>
    intro k' i j d h1 h2 h3 h4
    obtain ⟨k'', rfl⟩ : ∃ q, k' = q + 1 := ⟨k' - 1, by omega⟩
    rcases Nat.lt_trichotomy i j with h | h | h
    · rw [rotL_lt _ _ _ _ _ h, rotL_lt _ _ _ _ _ h]; exact ih _ _ _ _ (by omega) (by omega) (by omega) (by omega)
    · subst h; rw [rotL_stop, rotL_stop]
    · rw [rotL_gt _ _ _ _ _ h, rotL_gt _ _ _ _ _ h]; exact ih _ _ _ _ (by omega) (by omega) (by omega) (by omega)

set_option maxHeartbeats 4000000 in
set_option maxRecDepth 1000000 in
theorem rotate_s (f : α → Int × Int × Int × Int) (F : Value) (blk off cap a m b : Nat) (d0 d : Array α) (w0 w : World) (R : RowK (E4 f) 4 w0 blk off d0) (hs : d0.size = d.size) (S : SWK (E4 f) 4 w0 blk off d w)
    (h1 : a < m) (h2 : m < b) (h3 : b ≤ d.size) (hsz : d.size < 4611686018427387904) :
    Calls Try.prog 103 #[.slice (some ⟨blk, off, none⟩) d.size cap, .int .i64 a, .int .i64 m, .int .i64 b, F] w fun e w' => e = .returned (.tuple #[]) ∧ SWK (E4 f) 4 w0 blk off (rotate a m b d) w' := by
  have S0 : Aside (SWK (E4 f) 4 w0 blk off d w) := S
  clear S
  go_enter Try.func103, Try.ntmps103
  go_wp2
  go_loopg [10, 11] (b - a) (fun kx s t wr => ∃ (i j : Nat) (dk : Array α), s = .int .i64 i ∧ t = .int .i64 j ∧ 0 < i ∧ 0 < j ∧ i ≤ m - a ∧ j ≤ b - m ∧ i + j ≤ kx ∧ dk.size = d.size ∧ Aside (SWK (E4 f) 4 w0 blk off dk wr) ∧ Hid (rotL m (b - a) i j dk = rotate a m b d))
  case atStart => exact ⟨m - a, b - m, d, by go_num, by go_num, by omega, by omega, by omega, by omega, by omega, rfl, S0, rfl⟩
  case round =>
    clear S0
    obtain ⟨i, j, dk, rfl, rfl, hi, hj, him, hjb, hkx, hds, S1, heq⟩ := hrel
    rcases Nat.lt_trichotomy i j with hlt | hE | hlt
    · have q1 : ((i : Int) != (j : Int)) = true := by rw [bne_iff_ne]; omega
      have q2 : ¬ (j : Int) < (i : Int) := by omega
      go_wp2_with fail
      have C := swapRange_s f F blk off cap (m - i) (m + j - i) i d0 dk w0 wr R (by omega) S1.out (by omega) (by omega) (by omega)
      rw [show ((m - i : Nat) : Int) = (m : Int) - i by omega, show ((m + j - i : Nat) : Int) = (m : Int) + j - i by omega, hds] at C
      refine C.mono ?_
      rintro e w' ⟨rfl, S2⟩
      have S3 : Aside (SWK (E4 f) 4 w0 blk off (swapR (m - i) (m + j - i) i 0 dk) w') := S2
      clear S2 C S1
      go_wp2
      go_roundg (i + (j - i))
      case measure => omega
      case rel => exact ⟨i, j - i, _, rfl, by go_num, hi, by omega, by omega, by omega, by omega, by rw [size_swapR _ _ _ i 0 dk (by omega)]; exact hds, S3, (show Hid _ from by
        obtain ⟨q, hq⟩ : ∃ q, b - a = q + 1 := ⟨b - a - 1, by omega⟩
        rw [← heq.out, hq, rotL_lt _ _ _ _ _ hlt]
        exact rotL_fuel _ _ _ _ _ _ hi (by omega) (by omega) (by omega))⟩
    · subst hE
      have q1 : ((i : Int) != (i : Int)) = false := by simp
      go_wp2_with fail
      have C := swapRange_s f F blk off cap (m - i) m i d0 dk w0 wr R (by omega) S1.out (by omega) (by omega) (by omega)
      rw [show ((m - i : Nat) : Int) = (m : Int) - i by omega, hds] at C
      refine C.mono ?_
      rintro e w' ⟨rfl, S2⟩
      have S3 : Aside (SWK (E4 f) 4 w0 blk off (swapR (m - i) m i 0 dk) w') := S2
      clear S2 C S1
      go_wp2
      go_end0
      refine ⟨rfl, ?_⟩
      obtain ⟨q, hq⟩ : ∃ q, b - a = q + 1 := ⟨b - a - 1, by omega⟩
      rw [← heq.out, hq, rotL_stop]
      exact S3.out
    · have q1 : ((i : Int) != (j : Int)) = true := by rw [bne_iff_ne]; omega
      have q2 : (j : Int) < (i : Int) := by omega
      go_wp2_with fail
      have C := swapRange_s f F blk off cap (m - i) m j d0 dk w0 wr R (by omega) S1.out (by omega) (by omega) (by omega)
      rw [show ((m - i : Nat) : Int) = (m : Int) - i by omega, hds] at C
      refine C.mono ?_
      rintro e w' ⟨rfl, S2⟩
      have S3 : Aside (SWK (E4 f) 4 w0 blk off (swapR (m - i) m j 0 dk) w') := S2
      clear S2 C S1
      go_wp2
      go_roundg (i - j + j)
      case measure => omega
      case rel => exact ⟨i - j, j, _, by go_num, rfl, by omega, hj, by omega, by omega, by omega, by rw [size_swapR _ _ _ j 0 dk (by omega)]; exact hds, S3, (show Hid _ from by
        obtain ⟨q, hq⟩ : ∃ q, b - a = q + 1 := ⟨b - a - 1, by omega⟩
        rw [← heq.out, hq, rotL_gt _ _ _ _ _ hlt]
        exact rotL_fuel _ _ _ _ _ _ (by omega) hj (by omega) (by omega))⟩
end Go.Proofs.Ytnldnaogbadajaa.Kw

/- Go's insertion sort of ints with a comparison, walked. -/
set_option linter.unusedVariables false
namespace Go.Proofs.Ytnldnaogbadajaa.Kw
open Go.Shelf Go.RowKit Go.Lib Go.Sort Go.Proofs.Ytnldnaogbadajaa.St
variable {α : Type} [Inhabited α]

theorem insInner_pos (lt : α → α → Bool) (a j : Nat) (d : Array α) (h : a < j) (hl : lt d[j]! d[j - 1]! = true) : insInner lt a j d = insInner lt a (j - 1) (swp d j (j - 1)) := by
  obtain ⟨p, rfl⟩ : ∃ p, j = p + 1 := ⟨j - 1, by omega⟩
  simp only [Nat.add_sub_cancel] at hl ⊢
  rw [insInner, if_pos (by rw [hl]; simp; omega)]
theorem insInner_neg (lt : α → α → Bool) (a j : Nat) (d : Array α) (h : a < j → lt d[j]! d[j - 1]! = false) : insInner lt a j d = d := by
  cases j with
  | zero => rfl
  | succ p =>
    rw [insInner, if_neg]
    intro hc
    rw [Bool.and_eq_true, decide_eq_true_eq] at hc
    have := h hc.1
    simp only [Nat.add_sub_cancel] at this
    rw [hc.2] at this
    cases this

set_option maxHeartbeats 16000000 in
set_option maxRecDepth 1000000 in
theorem insertion_s (f : α → Int × Int × Int × Int) (cf : α → α → Int) (g : Nat) (cb : Array Value) (blk off cap a b : Nat) (d0 d : Array α) (w0 w : World)
    (eg : ∀ args w, (callFunc g args).run Try.prog w = .ok (.enter g args) w) (hcmp : CmpLays Try.prog g cb (E4 f) 4 cf blk off d0.size w0) (R : RowK (E4 f) 4 w0 blk off d0) (hs : d0.size = d.size) (S : SWK (E4 f) 4 w0 blk off d w)
    (h1 : a ≤ b) (h3 : b ≤ d.size) (hsz : d.size < 4611686018427387904) :
    Calls Try.prog 99 #[.slice (some ⟨blk, off, none⟩) d.size cap, .int .i64 a, .int .i64 b, .func (.func g) #[] cb] w fun e w' => e = .returned (.tuple #[]) ∧ SWK (E4 f) 4 w0 blk off (insertionSort (ltOf cf) d a b) w' := by
  have mixed : Try.prog.follows .mixedOrders = true := by kernel_rfl
  have HC : Aside _ := hcmp
  have S0 : Aside (SWK (E4 f) 4 w0 blk off d w) := S
  clear S hcmp
  go_enter Try.func99, Try.ntmps99
  go_wp2
  go_loopg [8] (b - a) (fun kx s wr => ∃ (i : Nat) (dk : Array α), s = .int .i64 i ∧ a < i ∧ i ≤ b + 1 ∧ b + 1 - i ≤ kx + 1 ∧ dk.size = d.size ∧ Aside (SWK (E4 f) 4 w0 blk off dk wr) ∧ Hid (insOuter (ltOf cf) a b i dk = insOuter (ltOf cf) a b (a + 1) d))
  case atStart => exact ⟨a + 1, d, by go_num, by omega, by omega, by omega, rfl, S0, rfl⟩
  case round =>
    clear S0
    obtain ⟨i, dk, rfl, hai, hib, hkx, hds, S1, HO⟩ := hrel
    by_cases hlt : i < b
    · go_wp2
      go_loopg [9] i (fun kx t wr2 => ∃ (j : Nat) (dj : Array α), t = .int .i64 j ∧ a ≤ j ∧ j ≤ i ∧ j ≤ kx ∧ dj.size = d.size ∧ Aside (SWK (E4 f) 4 w0 blk off dj wr2) ∧ Hid (insInner (ltOf cf) a j dj = insInner (ltOf cf) a i dk))
      case atStart => exact ⟨i, dk, rfl, by omega, Nat.le_refl _, Nat.le_refl _, hds, S1, rfl⟩
      case round =>
        clear S1
        obtain ⟨j, dj, rfl, haj, hji, hkj, hsj, S1, HI⟩ := hrel
        by_cases hja : a < j
        · have g1 : (a : Int) < (j : Int) := by omega
          have g2 : (1 : Int) ≤ (j : Int) := by omega
          cases hlv : ltOf cf dj[j]! dj[j - 1]! with
          | true =>
            obtain ⟨iN, hiN⟩ : ∃ z, z = j := ⟨_, rfl⟩
            obtain ⟨jN, hjN⟩ : ∃ z, z = j - 1 := ⟨_, rfl⟩
            have ea : ((j : Int)).toNat = iN := by omega
            have pa : (0 : Int) ≤ (j : Int) := by omega
            have ba : (j : Int) < (d.size : Int) := by omega
            have ra : IntKind.i64.wrap ((j : Int)) = (j : Int) := by rw [IntKind.wrap_i64]; omega
            have ec : ((j : Int) - 1).toNat = jN := by omega
            have pc : (0 : Int) ≤ (j : Int) - 1 := by omega
            have bc : (j : Int) - 1 < (d.size : Int) := by omega
            have rc : IntKind.i64.wrap ((j : Int) - 1) = (j : Int) - 1 := by rw [IntKind.wrap_i64]; omega
            obtain ⟨x, hx⟩ : ∃ x, x = dj[j]! := ⟨_, rfl⟩
            obtain ⟨y, hy⟩ : ∃ x, x = dj[j - 1]! := ⟨_, rfl⟩
            obtain ⟨x0, x1, x2, x3, hcX⟩ := four f x
            have la : ∀ n os, At4 (grow (wr.drewN n) os) blk (off + iN * 4) (.int .i64 x0) (.int .i64 x1) (.int .i64 x2) (.int .i64 x3) := fun n os => by rw [hiN]; exact at4 (S1.out.grown n os) R (by omega) (j) (by omega) (.int .i64 x0) (.int .i64 x1) (.int .i64 x2) (.int .i64 x3) (by rw [← hx]; exact hcX)
            have la0 := fun n os => (la n os).c0
            have la1 := fun n os => (la n os).c1
            have la2 := fun n os => (la n os).c2
            have la3 := fun n os => (la n os).c3
            obtain ⟨y0, y1, y2, y3, hcY⟩ := four f y
            have lb : ∀ n os, At4 (grow (wr.drewN n) os) blk (off + jN * 4) (.int .i64 y0) (.int .i64 y1) (.int .i64 y2) (.int .i64 y3) := fun n os => by rw [hjN]; exact at4 (S1.out.grown n os) R (by omega) (j - 1) (by omega) (.int .i64 y0) (.int .i64 y1) (.int .i64 y2) (.int .i64 y3) (by rw [← hy]; exact hcY)
            have lb0 := fun n os => (lb n os).c0
            have lb1 := fun n os => (lb n os).c1
            have lb2 := fun n os => (lb n os).c2
            have lb3 := fun n os => (lb n os).c3
            have hc := S1.out.cmp HC.out (by omega) x y
            rw [hcX, hcY] at hc
            clear la lb hcX hcY
            have hv : cf x y < 0 := by rw [hx, hy]; exact of_decide_eq_true hlv
            have hd : decide (cf x y < 0) = true := decide_eq_true hv
            clear hx hy hiN hjN
            go_wp2_with fail
            go_quiet_grown (first | (go_at_fn g; refine Calls.grown_of (hc _ _)))
            have S2 : Aside (SWK (E4 f) 4 w0 blk off dj (grow (wr.drewN nq) osq)) := S1.out.grown nq osq
            clear la0 la1 la2 la3 lb0 lb1 lb2 lb3 hc S1
            generalize grow (wr.drewN nq) osq = w3 at S2 ⊢
            clear nq osq
            clear ea ec
            obtain ⟨iN, hiN⟩ : ∃ z, z = j := ⟨_, rfl⟩
            obtain ⟨jN, hjN⟩ : ∃ z, z = j - 1 := ⟨_, rfl⟩
            have ea : ((j : Int)).toNat = iN := by omega
            have pa : (0 : Int) ≤ (j : Int) := by omega
            have ba : (j : Int) < (d.size : Int) := by omega
            have ra : IntKind.i64.wrap ((j : Int)) = (j : Int) := by rw [IntKind.wrap_i64]; omega
            have ec : ((j : Int) - 1).toNat = jN := by omega
            have pc : (0 : Int) ≤ (j : Int) - 1 := by omega
            have bc : (j : Int) - 1 < (d.size : Int) := by omega
            have rc : IntKind.i64.wrap ((j : Int) - 1) = (j : Int) - 1 := by rw [IntKind.wrap_i64]; omega
            obtain ⟨x, hx⟩ : ∃ x, x = dj[j]! := ⟨_, rfl⟩
            obtain ⟨y, hy⟩ : ∃ x, x = dj[j - 1]! := ⟨_, rfl⟩
            obtain ⟨x0, x1, x2, x3, hcX⟩ := four f x
            obtain ⟨y0, y1, y2, y3, hcY⟩ := four f y
            have S3 : Aside (SWK (E4 f) 4 w0 blk off (swp dj (j) (j - 1)) (st4 (st4 w3 blk (off + iN * 4) (.int .i64 y0) (.int .i64 y1) (.int .i64 y2) (.int .i64 y3)) blk (off + jN * 4) (.int .i64 x0) (.int .i64 x1) (.int .i64 x2) (.int .i64 x3)).drew) := by rw [hiN, hjN]; exact swapped4 S2.out R (j) (j - 1) (by omega) (by omega) (.int .i64 x0) (.int .i64 x1) (.int .i64 x2) (.int .i64 x3) (.int .i64 y0) (.int .i64 y1) (.int .i64 y2) (.int .i64 y3) (by rw [← hx]; exact hcX) (by rw [← hy]; exact hcY)
            have a4 : At4 w3 blk (off + iN * 4) (.int .i64 x0) (.int .i64 x1) (.int .i64 x2) (.int .i64 x3) := by rw [hiN]; exact at4 S2.out R (by omega) (j) (by omega) (.int .i64 x0) (.int .i64 x1) (.int .i64 x2) (.int .i64 x3) (by rw [← hx]; exact hcX)
            have b4 : At4 w3 blk (off + jN * 4) (.int .i64 y0) (.int .i64 y1) (.int .i64 y2) (.int .i64 y3) := by rw [hjN]; exact at4 S2.out R (by omega) (j - 1) (by omega) (.int .i64 y0) (.int .i64 y1) (.int .i64 y2) (.int .i64 y3) (by rw [← hy]; exact hcY)
            obtain ⟨cx0, cx1, cx2, cx3, fx0, fx1, fx2, fx3⟩ := a4
            obtain ⟨cy0, cy1, cy2, cy3, fy0, fy1, fy2, fy3⟩ := b4
            obtain ⟨u1, k1⟩ : ∃ u, World.cell? (World.setCell w3 ⟨blk, off + iN * 4, none⟩ (.int .i64 y0)) ⟨blk, off + iN * 4 + 1, none⟩ = some u := keepC ⟨_, cx1⟩ _ _
            obtain ⟨u2, k2⟩ : ∃ u, World.cell? (World.setCell (World.setCell w3 ⟨blk, off + iN * 4, none⟩ (.int .i64 y0)) ⟨blk, off + iN * 4 + 1, none⟩ (.int .i64 y1)) ⟨blk, off + iN * 4 + 2, none⟩ = some u := keepC (keepC ⟨_, cx2⟩ _ _) _ _
            obtain ⟨u3, k3⟩ : ∃ u, World.cell? (World.setCell (World.setCell (World.setCell w3 ⟨blk, off + iN * 4, none⟩ (.int .i64 y0)) ⟨blk, off + iN * 4 + 1, none⟩ (.int .i64 y1)) ⟨blk, off + iN * 4 + 2, none⟩ (.int .i64 y2)) ⟨blk, off + iN * 4 + 3, none⟩ = some u := keepC (keepC (keepC ⟨_, cx3⟩ _ _) _ _) _ _
            obtain ⟨u4, k4⟩ : ∃ u, World.cell? (World.setCell (World.setCell (World.setCell (World.setCell w3 ⟨blk, off + iN * 4, none⟩ (.int .i64 y0)) ⟨blk, off + iN * 4 + 1, none⟩ (.int .i64 y1)) ⟨blk, off + iN * 4 + 2, none⟩ (.int .i64 y2)) ⟨blk, off + iN * 4 + 3, none⟩ (.int .i64 y3)) ⟨blk, off + jN * 4, none⟩ = some u := keepC (keepC (keepC (keepC ⟨_, cy0⟩ _ _) _ _) _ _) _ _
            obtain ⟨u5, k5⟩ : ∃ u, World.cell? (World.setCell (World.setCell (World.setCell (World.setCell (World.setCell w3 ⟨blk, off + iN * 4, none⟩ (.int .i64 y0)) ⟨blk, off + iN * 4 + 1, none⟩ (.int .i64 y1)) ⟨blk, off + iN * 4 + 2, none⟩ (.int .i64 y2)) ⟨blk, off + iN * 4 + 3, none⟩ (.int .i64 y3)) ⟨blk, off + jN * 4, none⟩ (.int .i64 x0)) ⟨blk, off + jN * 4 + 1, none⟩ = some u := keepC (keepC (keepC (keepC (keepC ⟨_, cy1⟩ _ _) _ _) _ _) _ _) _ _
            obtain ⟨u6, k6⟩ : ∃ u, World.cell? (World.setCell (World.setCell (World.setCell (World.setCell (World.setCell (World.setCell w3 ⟨blk, off + iN * 4, none⟩ (.int .i64 y0)) ⟨blk, off + iN * 4 + 1, none⟩ (.int .i64 y1)) ⟨blk, off + iN * 4 + 2, none⟩ (.int .i64 y2)) ⟨blk, off + iN * 4 + 3, none⟩ (.int .i64 y3)) ⟨blk, off + jN * 4, none⟩ (.int .i64 x0)) ⟨blk, off + jN * 4 + 1, none⟩ (.int .i64 x1)) ⟨blk, off + jN * 4 + 2, none⟩ = some u := keepC (keepC (keepC (keepC (keepC (keepC ⟨_, cy2⟩ _ _) _ _) _ _) _ _) _ _) _ _
            obtain ⟨u7, k7⟩ : ∃ u, World.cell? (World.setCell (World.setCell (World.setCell (World.setCell (World.setCell (World.setCell (World.setCell w3 ⟨blk, off + iN * 4, none⟩ (.int .i64 y0)) ⟨blk, off + iN * 4 + 1, none⟩ (.int .i64 y1)) ⟨blk, off + iN * 4 + 2, none⟩ (.int .i64 y2)) ⟨blk, off + iN * 4 + 3, none⟩ (.int .i64 y3)) ⟨blk, off + jN * 4, none⟩ (.int .i64 x0)) ⟨blk, off + jN * 4 + 1, none⟩ (.int .i64 x1)) ⟨blk, off + jN * 4 + 2, none⟩ (.int .i64 x2)) ⟨blk, off + jN * 4 + 3, none⟩ = some u := keepC (keepC (keepC (keepC (keepC (keepC (keepC ⟨_, cy3⟩ _ _) _ _) _ _) _ _) _ _) _ _) _ _
            simp only [st4] at S3
            clear S2 hx hy hiN hjN hcX hcY
            go_wp2_with fail
            go_big_region
            clear cx0 cx1 cx2 cx3 cy0 cy1 cy2 cy3 fx0 fx1 fx2 fx3 fy0 fy1 fy2 fy3 k1 k2 k3 k4 k5 k6 k7
            generalize World.drew _ = w4 at S3 ⊢
            clear ea ec
            go_wp2
            go_roundg (j - 1)
            case measure => omega
            case rel => exact ⟨j - 1, swp dj j (j - 1), by go_num, by omega, by omega, Nat.le_refl _, by rw [size_swp]; exact hsj, S3, (show Hid _ from by rw [← HI.out, insInner_pos _ _ _ _ hja hlv]; exact rfl)⟩
          | false =>
            obtain ⟨iN, hiN⟩ : ∃ z, z = j := ⟨_, rfl⟩
            obtain ⟨jN, hjN⟩ : ∃ z, z = j - 1 := ⟨_, rfl⟩
            have ea : ((j : Int)).toNat = iN := by omega
            have pa : (0 : Int) ≤ (j : Int) := by omega
            have ba : (j : Int) < (d.size : Int) := by omega
            have ra : IntKind.i64.wrap ((j : Int)) = (j : Int) := by rw [IntKind.wrap_i64]; omega
            have ec : ((j : Int) - 1).toNat = jN := by omega
            have pc : (0 : Int) ≤ (j : Int) - 1 := by omega
            have bc : (j : Int) - 1 < (d.size : Int) := by omega
            have rc : IntKind.i64.wrap ((j : Int) - 1) = (j : Int) - 1 := by rw [IntKind.wrap_i64]; omega
            obtain ⟨x, hx⟩ : ∃ x, x = dj[j]! := ⟨_, rfl⟩
            obtain ⟨y, hy⟩ : ∃ x, x = dj[j - 1]! := ⟨_, rfl⟩
            obtain ⟨x0, x1, x2, x3, hcX⟩ := four f x
            have la : ∀ n os, At4 (grow (wr.drewN n) os) blk (off + iN * 4) (.int .i64 x0) (.int .i64 x1) (.int .i64 x2) (.int .i64 x3) := fun n os => by rw [hiN]; exact at4 (S1.out.grown n os) R (by omega) (j) (by omega) (.int .i64 x0) (.int .i64 x1) (.int .i64 x2) (.int .i64 x3) (by rw [← hx]; exact hcX)
            have la0 := fun n os => (la n os).c0
            have la1 := fun n os => (la n os).c1
            have la2 := fun n os => (la n os).c2
            have la3 := fun n os => (la n os).c3
            obtain ⟨y0, y1, y2, y3, hcY⟩ := four f y
            have lb : ∀ n os, At4 (grow (wr.drewN n) os) blk (off + jN * 4) (.int .i64 y0) (.int .i64 y1) (.int .i64 y2) (.int .i64 y3) := fun n os => by rw [hjN]; exact at4 (S1.out.grown n os) R (by omega) (j - 1) (by omega) (.int .i64 y0) (.int .i64 y1) (.int .i64 y2) (.int .i64 y3) (by rw [← hy]; exact hcY)
            have lb0 := fun n os => (lb n os).c0
            have lb1 := fun n os => (lb n os).c1
            have lb2 := fun n os => (lb n os).c2
            have lb3 := fun n os => (lb n os).c3
            have hc := S1.out.cmp HC.out (by omega) x y
            rw [hcX, hcY] at hc
            clear la lb hcX hcY
            have hv : ¬ cf x y < 0 := by rw [hx, hy]; exact of_decide_eq_false hlv
            have hd : decide (cf x y < 0) = false := decide_eq_false hv
            clear hx hy hiN hjN
            go_wp2_with fail
            go_quiet_grown (first | (go_at_fn g; refine Calls.grown_of (hc _ _)))
            have S2 : Aside (SWK (E4 f) 4 w0 blk off dj (grow (wr.drewN nq) osq)) := S1.out.grown nq osq
            clear la0 la1 la2 la3 lb0 lb1 lb2 lb3 hc S1
            generalize grow (wr.drewN nq) osq = w3 at S2 ⊢
            clear nq osq
            clear ea ec
            have HX : Hid (insOuter (ltOf cf) a b (i + 1) dj = insOuter (ltOf cf) a b (a + 1) d) := (show Hid _ from by rw [← HO.out, insOuter_pos _ _ _ _ _ hlt, ← HI.out, insInner_neg _ _ _ _ (fun _ => hlv)]; exact rfl)
            clear HO HI
            go_wp2
            go_roundg (b - (i + 1))
            case measure => omega
            case rel => exact ⟨i + 1, dj, by go_num, by omega, by omega, by omega, hsj, S2, HX⟩
        · have g1 : ¬ (a : Int) < (j : Int) := by omega
          have g3 : decide ((j : Int) > (a : Int)) = false := decide_eq_false (by omega)
          have HX : Hid (insOuter (ltOf cf) a b (i + 1) dj = insOuter (ltOf cf) a b (a + 1) d) := (show Hid _ from by rw [← HO.out, insOuter_pos _ _ _ _ _ hlt, ← HI.out, insInner_neg _ _ _ _ (fun h => absurd h hja)]; exact rfl)
          clear HO HI
          go_wp2_with fail
          go_big_region
          have S2 : Aside (SWK (E4 f) 4 w0 blk off dj wr.drew) := S1.out.drew
          clear S1
          generalize wr.drew = w3 at S2 ⊢
          go_wp2
          go_roundg (b - (i + 1))
          case measure => omega
          case rel => exact ⟨i + 1, dj, by go_num, by omega, by omega, by omega, hsj, S2, HX⟩
    · go_wp2
      go_end0
      refine ⟨rfl, ?_⟩
      unfold insertionSort
      rw [← HO.out, insOuter, if_neg hlt]
      exact S1.out
end Go.Proofs.Ytnldnaogbadajaa.Kw

/- Go's stable sort of ints, walked: symMerge. -/
set_option linter.unusedVariables false
namespace Go.Proofs.Ytnldnaogbadajaa.Kw
open Go.Shelf Go.RowKit Go.Lib Go.Sort Go.Proofs.Ytnldnaogbadajaa.St
variable {α : Type} [Inhabited α]

theorem symM_A (lt : α → α → Bool) (k a m b : Nat) (d : Array α) (h : m - a = 1) : symM lt (k + 1) a m b d = shiftR a (bs (fun h => lt d[h]! d[a]!) m b - 1) d := by unfold symM; rw [if_pos h]
theorem symM_B (lt : α → α → Bool) (k a m b : Nat) (d : Array α) (h : ¬ m - a = 1) (h2 : b - m = 1) : symM lt (k + 1) a m b d = shiftL (bs (fun h => !lt d[m]! d[h]!) a m) m d := by unfold symM; rw [if_neg h, if_pos h2]
theorem shiftL_pos (i q : Nat) (d : Array α) (h : i < q) : shiftL i q d = shiftL i (q - 1) (swp d q (q - 1)) := by
  obtain ⟨p, rfl⟩ : ∃ p, q = p + 1 := ⟨q - 1, by omega⟩
  rw [shiftL, if_pos h]
  rfl
theorem size_shiftR (e : Nat) : ∀ (n k : Nat) (d : Array α), e - k ≤ n → (shiftR k e d).size = d.size := by
  intro n
  induction n with
  | zero => intro k d h; rw [shiftR, if_neg (by omega)]
  | succ n ih =>
    intro k d h
    by_cases hk : k < e
    · rw [shiftR_pos _ _ _ hk, ih _ _ (by omega), size_swp]
    · rw [shiftR, if_neg hk]

set_option maxHeartbeats 16000000 in
set_option maxRecDepth 1000000 in
theorem symMergeA (f : α → Int × Int × Int × Int) (cf : α → α → Int) (g : Nat) (cb : Array Value) (blk off cap a m b k : Nat) (d0 d : Array α) (w0 w : World)
    (eg : ∀ args w, (callFunc g args).run Try.prog w = .ok (.enter g args) w) (hcmp : CmpLays Try.prog g cb (E4 f) 4 cf blk off d0.size w0) (R : RowK (E4 f) 4 w0 blk off d0) (hs : d0.size = d.size) (S : SWK (E4 f) 4 w0 blk off d w)
    (h1 : a < m) (h2 : m < b) (h3 : b ≤ d.size) (hsz : d.size < 4611686018427387904) (h4 : m ≤ a + 1) :
    Calls Try.prog 100 #[.slice (some ⟨blk, off, none⟩) d.size cap, .int .i64 a, .int .i64 m, .int .i64 b, .func (.func g) #[] cb] w fun e w' => e = .returned (.tuple #[]) ∧ SWK (E4 f) 4 w0 blk off (symM (ltOf cf) (k + 1) a m b d) w' := by
  have mixed : Try.prog.follows .mixedOrders = true := by kernel_rfl
  have HC : Aside _ := hcmp
  have S0 : Aside (SWK (E4 f) 4 w0 blk off d w) := S
  clear S hcmp
  have q0 : ((m : Int) - (a : Int) == 1) = true := by rw [beq_iff_eq]; omega
  go_enter Try.func100, Try.ntmps100
  go_wp2
  go_loopg [10, 11] (b - m) (fun kx s t wr => ∃ (i j : Nat), s = .int .i64 i ∧ t = .int .i64 j ∧ m ≤ i ∧ i ≤ j ∧ j ≤ b ∧ j - i ≤ kx ∧ Aside (SWK (E4 f) 4 w0 blk off d wr) ∧ Hid (bs (fun h => ltOf cf d[h]! d[a]!) i j = bs (fun h => ltOf cf d[h]! d[a]!) m b))
  case atStart => exact ⟨m, b, rfl, rfl, by omega, by omega, by omega, by omega, S0, rfl⟩
  case round =>
    clear S0
    obtain ⟨i, j, rfl, rfl, hmi, hij, hjb, hkx, S1, heq⟩ := hrel
    by_cases hlt : i < j
    · cases hlv : ltOf cf d[(i + j) / 2]! d[a]! with
      | true =>
        obtain ⟨iN, hiN⟩ : ∃ z, z = (i + j) / 2 := ⟨_, rfl⟩
        obtain ⟨jN, hjN⟩ : ∃ z, z = a := ⟨_, rfl⟩
        have ea : (((i : Int) + (j : Int)) / 2).toNat = iN := by omega
        have pa : (0 : Int) ≤ ((i : Int) + (j : Int)) / 2 := by omega
        have ba : ((i : Int) + (j : Int)) / 2 < (d.size : Int) := by omega
        have ra : IntKind.i64.wrap (((i : Int) + (j : Int)) / 2) = ((i : Int) + (j : Int)) / 2 := by rw [IntKind.wrap_i64]; omega
        have ec : ((a : Int)).toNat = jN := by omega
        have pc : (0 : Int) ≤ (a : Int) := by omega
        have bc : (a : Int) < (d.size : Int) := by omega
        have rc : IntKind.i64.wrap ((a : Int)) = (a : Int) := by rw [IntKind.wrap_i64]; omega
        obtain ⟨x, hx⟩ : ∃ x, x = d[(i + j) / 2]! := ⟨_, rfl⟩
        obtain ⟨y, hy⟩ : ∃ x, x = d[a]! := ⟨_, rfl⟩
        obtain ⟨x0, x1, x2, x3, hcX⟩ := four f x
        have la : ∀ n os, At4 (grow (wr.drewN n) os) blk (off + iN * 4) (.int .i64 x0) (.int .i64 x1) (.int .i64 x2) (.int .i64 x3) := fun n os => by rw [hiN]; exact at4 (S1.out.grown n os) R (by omega) ((i + j) / 2) (by omega) (.int .i64 x0) (.int .i64 x1) (.int .i64 x2) (.int .i64 x3) (by rw [← hx]; exact hcX)
        have la0 := fun n os => (la n os).c0
        have la1 := fun n os => (la n os).c1
        have la2 := fun n os => (la n os).c2
        have la3 := fun n os => (la n os).c3
        obtain ⟨y0, y1, y2, y3, hcY⟩ := four f y
        have lb : ∀ n os, At4 (grow (wr.drewN n) os) blk (off + jN * 4) (.int .i64 y0) (.int .i64 y1) (.int .i64 y2) (.int .i64 y3) := fun n os => by rw [hjN]; exact at4 (S1.out.grown n os) R (by omega) (a) (by omega) (.int .i64 y0) (.int .i64 y1) (.int .i64 y2) (.int .i64 y3) (by rw [← hy]; exact hcY)
        have lb0 := fun n os => (lb n os).c0
        have lb1 := fun n os => (lb n os).c1
        have lb2 := fun n os => (lb n os).c2
        have lb3 := fun n os => (lb n os).c3
        have hc := S1.out.cmp HC.out (by omega) x y
        rw [hcX, hcY] at hc
        clear la lb hcX hcY
        have hv : cf x y < 0 := by rw [hx, hy]; exact of_decide_eq_true hlv
        have hd : decide (cf x y < 0) = true := decide_eq_true hv
        clear hx hy hiN hjN
        go_wp2_with fail
        go_quiet_grown (first | (go_at_fn g; refine Calls.grown_of (hc _ _)))
        have S2 : Aside (SWK (E4 f) 4 w0 blk off d (grow (wr.drewN nq) osq)) := S1.out.grown nq osq
        clear la0 la1 la2 la3 lb0 lb1 lb2 lb3 hc S1
        generalize grow (wr.drewN nq) osq = w2 at S2 ⊢
        clear nq osq
        clear ea ec
        go_wp2
        go_roundg (j - ((i + j) / 2 + 1))
        case measure => omega
        case rel => exact ⟨(i + j) / 2 + 1, j, by go_num, rfl, by omega, by omega, by omega, by omega, S2, (show Hid _ from by rw [← heq.out]; exact (bs_up (fun h => ltOf cf d[h]! d[a]!) _ _ hlt hlv).symm)⟩
      | false =>
        obtain ⟨iN, hiN⟩ : ∃ z, z = (i + j) / 2 := ⟨_, rfl⟩
        obtain ⟨jN, hjN⟩ : ∃ z, z = a := ⟨_, rfl⟩
        have ea : (((i : Int) + (j : Int)) / 2).toNat = iN := by omega
        have pa : (0 : Int) ≤ ((i : Int) + (j : Int)) / 2 := by omega
        have ba : ((i : Int) + (j : Int)) / 2 < (d.size : Int) := by omega
        have ra : IntKind.i64.wrap (((i : Int) + (j : Int)) / 2) = ((i : Int) + (j : Int)) / 2 := by rw [IntKind.wrap_i64]; omega
        have ec : ((a : Int)).toNat = jN := by omega
        have pc : (0 : Int) ≤ (a : Int) := by omega
        have bc : (a : Int) < (d.size : Int) := by omega
        have rc : IntKind.i64.wrap ((a : Int)) = (a : Int) := by rw [IntKind.wrap_i64]; omega
        obtain ⟨x, hx⟩ : ∃ x, x = d[(i + j) / 2]! := ⟨_, rfl⟩
        obtain ⟨y, hy⟩ : ∃ x, x = d[a]! := ⟨_, rfl⟩
        obtain ⟨x0, x1, x2, x3, hcX⟩ := four f x
        have la : ∀ n os, At4 (grow (wr.drewN n) os) blk (off + iN * 4) (.int .i64 x0) (.int .i64 x1) (.int .i64 x2) (.int .i64 x3) := fun n os => by rw [hiN]; exact at4 (S1.out.grown n os) R (by omega) ((i + j) / 2) (by omega) (.int .i64 x0) (.int .i64 x1) (.int .i64 x2) (.int .i64 x3) (by rw [← hx]; exact hcX)
        have la0 := fun n os => (la n os).c0
        have la1 := fun n os => (la n os).c1
        have la2 := fun n os => (la n os).c2
        have la3 := fun n os => (la n os).c3
        obtain ⟨y0, y1, y2, y3, hcY⟩ := four f y
        have lb : ∀ n os, At4 (grow (wr.drewN n) os) blk (off + jN * 4) (.int .i64 y0) (.int .i64 y1) (.int .i64 y2) (.int .i64 y3) := fun n os => by rw [hjN]; exact at4 (S1.out.grown n os) R (by omega) (a) (by omega) (.int .i64 y0) (.int .i64 y1) (.int .i64 y2) (.int .i64 y3) (by rw [← hy]; exact hcY)
        have lb0 := fun n os => (lb n os).c0
        have lb1 := fun n os => (lb n os).c1
        have lb2 := fun n os => (lb n os).c2
        have lb3 := fun n os => (lb n os).c3
        have hc := S1.out.cmp HC.out (by omega) x y
        rw [hcX, hcY] at hc
        clear la lb hcX hcY
        have hv : ¬ cf x y < 0 := by rw [hx, hy]; exact of_decide_eq_false hlv
        have hd : decide (cf x y < 0) = false := decide_eq_false hv
        clear hx hy hiN hjN
        go_wp2_with fail
        go_quiet_grown (first | (go_at_fn g; refine Calls.grown_of (hc _ _)))
        have S2 : Aside (SWK (E4 f) 4 w0 blk off d (grow (wr.drewN nq) osq)) := S1.out.grown nq osq
        clear la0 la1 la2 la3 lb0 lb1 lb2 lb3 hc S1
        generalize grow (wr.drewN nq) osq = w2 at S2 ⊢
        clear nq osq
        clear ea ec
        go_wp2
        go_roundg ((i + j) / 2 - i)
        case measure => omega
        case rel => exact ⟨i, (i + j) / 2, rfl, by go_num, by omega, by omega, by omega, by omega, S2, (show Hid _ from by rw [← heq.out]; exact (bs_dn (fun h => ltOf cf d[h]! d[a]!) _ _ hlt hlv).symm)⟩
    · have hi : i = bs (fun h => ltOf cf d[h]! d[a]!) m b := by rw [← heq.out, bs_stop _ _ _ hlt]
      have HI : Hid (i = bs (fun h => ltOf cf d[h]! d[a]!) m b) := hi
      clear hi heq
      have hlt' : ¬ (i : Int) < (j : Int) := by omega
      go_wp2
      go_loopg [13] (b - a) (fun kx s wr => ∃ (q : Nat) (dk : Array α), s = .int .i64 q ∧ a ≤ q ∧ q ≤ i - 1 ∧ i - 1 - q ≤ kx ∧ dk.size = d.size ∧ Aside (SWK (E4 f) 4 w0 blk off dk wr) ∧ Hid (shiftR q (i - 1) dk = shiftR a (i - 1) d))
      case atStart => exact ⟨a, d, rfl, by omega, by omega, by omega, rfl, S1, rfl⟩
      case round =>
        clear S1
        obtain ⟨q, dk, rfl, haq, hqi, hkq, hds, S1, heq⟩ := hrel
        by_cases hql : q < i - 1
        · have hql' : (q : Int) < (i : Int) - 1 := by omega
          obtain ⟨iN, hiN⟩ : ∃ z, z = q := ⟨_, rfl⟩
          obtain ⟨jN, hjN⟩ : ∃ z, z = q + 1 := ⟨_, rfl⟩
          have ea : ((q : Int)).toNat = iN := by omega
          have pa : (0 : Int) ≤ (q : Int) := by omega
          have ba : (q : Int) < (d.size : Int) := by omega
          have ra : IntKind.i64.wrap ((q : Int)) = (q : Int) := by rw [IntKind.wrap_i64]; omega
          have ec : ((q : Int) + 1).toNat = jN := by omega
          have pc : (0 : Int) ≤ (q : Int) + 1 := by omega
          have bc : (q : Int) + 1 < (d.size : Int) := by omega
          have rc : IntKind.i64.wrap ((q : Int) + 1) = (q : Int) + 1 := by rw [IntKind.wrap_i64]; omega
          obtain ⟨x, hx⟩ : ∃ x, x = dk[q]! := ⟨_, rfl⟩
          obtain ⟨y, hy⟩ : ∃ x, x = dk[q + 1]! := ⟨_, rfl⟩
          obtain ⟨x0, x1, x2, x3, hcX⟩ := four f x
          obtain ⟨y0, y1, y2, y3, hcY⟩ := four f y
          have S2 : Aside (SWK (E4 f) 4 w0 blk off (swp dk (q) (q + 1)) (st4 (st4 wr blk (off + iN * 4) (.int .i64 y0) (.int .i64 y1) (.int .i64 y2) (.int .i64 y3)) blk (off + jN * 4) (.int .i64 x0) (.int .i64 x1) (.int .i64 x2) (.int .i64 x3)).drew) := by rw [hiN, hjN]; exact swapped4 S1.out R (q) (q + 1) (by omega) (by omega) (.int .i64 x0) (.int .i64 x1) (.int .i64 x2) (.int .i64 x3) (.int .i64 y0) (.int .i64 y1) (.int .i64 y2) (.int .i64 y3) (by rw [← hx]; exact hcX) (by rw [← hy]; exact hcY)
          have a4 : At4 wr blk (off + iN * 4) (.int .i64 x0) (.int .i64 x1) (.int .i64 x2) (.int .i64 x3) := by rw [hiN]; exact at4 S1.out R (by omega) (q) (by omega) (.int .i64 x0) (.int .i64 x1) (.int .i64 x2) (.int .i64 x3) (by rw [← hx]; exact hcX)
          have b4 : At4 wr blk (off + jN * 4) (.int .i64 y0) (.int .i64 y1) (.int .i64 y2) (.int .i64 y3) := by rw [hjN]; exact at4 S1.out R (by omega) (q + 1) (by omega) (.int .i64 y0) (.int .i64 y1) (.int .i64 y2) (.int .i64 y3) (by rw [← hy]; exact hcY)
          obtain ⟨cx0, cx1, cx2, cx3, fx0, fx1, fx2, fx3⟩ := a4
          obtain ⟨cy0, cy1, cy2, cy3, fy0, fy1, fy2, fy3⟩ := b4
          obtain ⟨u1, k1⟩ : ∃ u, World.cell? (World.setCell wr ⟨blk, off + iN * 4, none⟩ (.int .i64 y0)) ⟨blk, off + iN * 4 + 1, none⟩ = some u := keepC ⟨_, cx1⟩ _ _
          obtain ⟨u2, k2⟩ : ∃ u, World.cell? (World.setCell (World.setCell wr ⟨blk, off + iN * 4, none⟩ (.int .i64 y0)) ⟨blk, off + iN * 4 + 1, none⟩ (.int .i64 y1)) ⟨blk, off + iN * 4 + 2, none⟩ = some u := keepC (keepC ⟨_, cx2⟩ _ _) _ _
          obtain ⟨u3, k3⟩ : ∃ u, World.cell? (World.setCell (World.setCell (World.setCell wr ⟨blk, off + iN * 4, none⟩ (.int .i64 y0)) ⟨blk, off + iN * 4 + 1, none⟩ (.int .i64 y1)) ⟨blk, off + iN * 4 + 2, none⟩ (.int .i64 y2)) ⟨blk, off + iN * 4 + 3, none⟩ = some u := keepC (keepC (keepC ⟨_, cx3⟩ _ _) _ _) _ _
          obtain ⟨u4, k4⟩ : ∃ u, World.cell? (World.setCell (World.setCell (World.setCell (World.setCell wr ⟨blk, off + iN * 4, none⟩ (.int .i64 y0)) ⟨blk, off + iN * 4 + 1, none⟩ (.int .i64 y1)) ⟨blk, off + iN * 4 + 2, none⟩ (.int .i64 y2)) ⟨blk, off + iN * 4 + 3, none⟩ (.int .i64 y3)) ⟨blk, off + jN * 4, none⟩ = some u := keepC (keepC (keepC (keepC ⟨_, cy0⟩ _ _) _ _) _ _) _ _
          obtain ⟨u5, k5⟩ : ∃ u, World.cell? (World.setCell (World.setCell (World.setCell (World.setCell (World.setCell wr ⟨blk, off + iN * 4, none⟩ (.int .i64 y0)) ⟨blk, off + iN * 4 + 1, none⟩ (.int .i64 y1)) ⟨blk, off + iN * 4 + 2, none⟩ (.int .i64 y2)) ⟨blk, off + iN * 4 + 3, none⟩ (.int .i64 y3)) ⟨blk, off + jN * 4, none⟩ (.int .i64 x0)) ⟨blk, off + jN * 4 + 1, none⟩ = some u := keepC (keepC (keepC (keepC (keepC ⟨_, cy1⟩ _ _) _ _) _ _) _ _) _ _
          obtain ⟨u6, k6⟩ : ∃ u, World.cell? (World.setCell (World.setCell (World.setCell (World.setCell (World.setCell (World.setCell wr ⟨blk, off + iN * 4, none⟩ (.int .i64 y0)) ⟨blk, off + iN * 4 + 1, none⟩ (.int .i64 y1)) ⟨blk, off + iN * 4 + 2, none⟩ (.int .i64 y2)) ⟨blk, off + iN * 4 + 3, none⟩ (.int .i64 y3)) ⟨blk, off + jN * 4, none⟩ (.int .i64 x0)) ⟨blk, off + jN * 4 + 1, none⟩ (.int .i64 x1)) ⟨blk, off + jN * 4 + 2, none⟩ = some u := keepC (keepC (keepC (keepC (keepC (keepC ⟨_, cy2⟩ _ _) _ _) _ _) _ _) _ _) _ _
          obtain ⟨u7, k7⟩ : ∃ u, World.cell? (World.setCell (World.setCell (World.setCell (World.setCell (World.setCell (World.setCell (World.setCell wr ⟨blk, off + iN * 4, none⟩ (.int .i64 y0)) ⟨blk, off + iN * 4 + 1, none⟩ (.int .i64 y1)) ⟨blk, off + iN * 4 + 2, none⟩ (.int .i64 y2)) ⟨blk, off + iN * 4 + 3, none⟩ (.int .i64 y3)) ⟨blk, off + jN * 4, none⟩ (.int .i64 x0)) ⟨blk, off + jN * 4 + 1, none⟩ (.int .i64 x1)) ⟨blk, off + jN * 4 + 2, none⟩ (.int .i64 x2)) ⟨blk, off + jN * 4 + 3, none⟩ = some u := keepC (keepC (keepC (keepC (keepC (keepC (keepC ⟨_, cy3⟩ _ _) _ _) _ _) _ _) _ _) _ _) _ _
          simp only [st4] at S2
          clear S1 hx hy hiN hjN hcX hcY
          go_wp2_with fail
          go_big_region
          clear cx0 cx1 cx2 cx3 cy0 cy1 cy2 cy3 fx0 fx1 fx2 fx3 fy0 fy1 fy2 fy3 k1 k2 k3 k4 k5 k6 k7
          generalize World.drew _ = w2 at S2 ⊢
          clear ea ec
          go_wp2
          go_roundg (i - 1 - (q + 1))
          case measure => omega
          case rel => exact ⟨q + 1, swp dk q (q + 1), by go_num, by omega, by omega, by omega, by rw [size_swp]; exact hds, S2, (show Hid _ from by rw [← heq.out, shiftR_pos _ _ _ hql]; exact rfl)⟩
        · have hql' : ¬ (q : Int) < (i : Int) - 1 := by omega
          go_wp2
          refine bodyPost_ret (results_none rfl _ _ _) rfl ?_
          refine ⟨rfl, ?_⟩
          rw [symM_A _ _ _ _ _ _ (by omega), ← HI.out, ← heq.out, shiftR, if_neg hql]
          exact S1.out

set_option maxHeartbeats 16000000 in
set_option maxRecDepth 1000000 in
theorem symMergeB (f : α → Int × Int × Int × Int) (cf : α → α → Int) (g : Nat) (cb : Array Value) (blk off cap a m b k : Nat) (d0 d : Array α) (w0 w : World)
    (eg : ∀ args w, (callFunc g args).run Try.prog w = .ok (.enter g args) w) (hcmp : CmpLays Try.prog g cb (E4 f) 4 cf blk off d0.size w0) (R : RowK (E4 f) 4 w0 blk off d0) (hs : d0.size = d.size) (S : SWK (E4 f) 4 w0 blk off d w)
    (h1 : a < m) (h2 : m < b) (h3 : b ≤ d.size) (hsz : d.size < 4611686018427387904) (h4 : ¬ m ≤ a + 1) (h5 : b ≤ m + 1) :
    Calls Try.prog 100 #[.slice (some ⟨blk, off, none⟩) d.size cap, .int .i64 a, .int .i64 m, .int .i64 b, .func (.func g) #[] cb] w fun e w' => e = .returned (.tuple #[]) ∧ SWK (E4 f) 4 w0 blk off (symM (ltOf cf) (k + 1) a m b d) w' := by
  have mixed : Try.prog.follows .mixedOrders = true := by kernel_rfl
  have HC : Aside _ := hcmp
  have S0 : Aside (SWK (E4 f) 4 w0 blk off d w) := S
  clear S hcmp
  have q0 : ((m : Int) - (a : Int) == 1) = false := by rw [beq_eq_false_iff_ne]; omega
  have q1 : ((b : Int) - (m : Int) == 1) = true := by rw [beq_iff_eq]; omega
  go_enter Try.func100, Try.ntmps100
  go_wp2
  go_loopg [14, 15] (m - a) (fun kx s t wr => ∃ (i j : Nat), s = .int .i64 i ∧ t = .int .i64 j ∧ a ≤ i ∧ i ≤ j ∧ j ≤ m ∧ j - i ≤ kx ∧ Aside (SWK (E4 f) 4 w0 blk off d wr) ∧ Hid (bs (fun h => !ltOf cf d[m]! d[h]!) i j = bs (fun h => !ltOf cf d[m]! d[h]!) a m))
  case atStart => exact ⟨a, m, rfl, rfl, by omega, by omega, by omega, by omega, S0, rfl⟩
  case round =>
    clear S0
    obtain ⟨i, j, rfl, rfl, hmi, hij, hjb, hkx, S1, heq⟩ := hrel
    by_cases hlt : i < j
    · cases hlv : ltOf cf d[m]! d[(i + j) / 2]! with
      | true =>
        obtain ⟨iN, hiN⟩ : ∃ z, z = m := ⟨_, rfl⟩
        obtain ⟨jN, hjN⟩ : ∃ z, z = (i + j) / 2 := ⟨_, rfl⟩
        have ea : ((m : Int)).toNat = iN := by omega
        have pa : (0 : Int) ≤ (m : Int) := by omega
        have ba : (m : Int) < (d.size : Int) := by omega
        have ra : IntKind.i64.wrap ((m : Int)) = (m : Int) := by rw [IntKind.wrap_i64]; omega
        have ec : (((i : Int) + (j : Int)) / 2).toNat = jN := by omega
        have pc : (0 : Int) ≤ ((i : Int) + (j : Int)) / 2 := by omega
        have bc : ((i : Int) + (j : Int)) / 2 < (d.size : Int) := by omega
        have rc : IntKind.i64.wrap (((i : Int) + (j : Int)) / 2) = ((i : Int) + (j : Int)) / 2 := by rw [IntKind.wrap_i64]; omega
        obtain ⟨x, hx⟩ : ∃ x, x = d[m]! := ⟨_, rfl⟩
        obtain ⟨y, hy⟩ : ∃ x, x = d[(i + j) / 2]! := ⟨_, rfl⟩
        obtain ⟨x0, x1, x2, x3, hcX⟩ := four f x
        have la : ∀ n os, At4 (grow (wr.drewN n) os) blk (off + iN * 4) (.int .i64 x0) (.int .i64 x1) (.int .i64 x2) (.int .i64 x3) := fun n os => by rw [hiN]; exact at4 (S1.out.grown n os) R (by omega) (m) (by omega) (.int .i64 x0) (.int .i64 x1) (.int .i64 x2) (.int .i64 x3) (by rw [← hx]; exact hcX)
        have la0 := fun n os => (la n os).c0
        have la1 := fun n os => (la n os).c1
        have la2 := fun n os => (la n os).c2
        have la3 := fun n os => (la n os).c3
        obtain ⟨y0, y1, y2, y3, hcY⟩ := four f y
        have lb : ∀ n os, At4 (grow (wr.drewN n) os) blk (off + jN * 4) (.int .i64 y0) (.int .i64 y1) (.int .i64 y2) (.int .i64 y3) := fun n os => by rw [hjN]; exact at4 (S1.out.grown n os) R (by omega) ((i + j) / 2) (by omega) (.int .i64 y0) (.int .i64 y1) (.int .i64 y2) (.int .i64 y3) (by rw [← hy]; exact hcY)
        have lb0 := fun n os => (lb n os).c0
        have lb1 := fun n os => (lb n os).c1
        have lb2 := fun n os => (lb n os).c2
        have lb3 := fun n os => (lb n os).c3
        have hc := S1.out.cmp HC.out (by omega) x y
        rw [hcX, hcY] at hc
        clear la lb hcX hcY
        have hv : cf x y < 0 := by rw [hx, hy]; exact of_decide_eq_true hlv
        have hd : decide (cf x y < 0) = true := decide_eq_true hv
        clear hx hy hiN hjN
        go_wp2_with fail
        go_quiet_grown (first | (go_at_fn g; refine Calls.grown_of (hc _ _)))
        have S2 : Aside (SWK (E4 f) 4 w0 blk off d (grow (wr.drewN nq) osq)) := S1.out.grown nq osq
        clear la0 la1 la2 la3 lb0 lb1 lb2 lb3 hc S1
        generalize grow (wr.drewN nq) osq = w2 at S2 ⊢
        clear nq osq
        clear ea ec
        go_wp2
        go_roundg ((i + j) / 2 - i)
        case measure => omega
        case rel => exact ⟨i, (i + j) / 2, rfl, by go_num, by omega, by omega, by omega, by omega, S2, (show Hid _ from by rw [← heq.out]; exact (bs_dn (fun h => !ltOf cf d[m]! d[h]!) _ _ hlt (by simp [hlv])).symm)⟩
      | false =>
        obtain ⟨iN, hiN⟩ : ∃ z, z = m := ⟨_, rfl⟩
        obtain ⟨jN, hjN⟩ : ∃ z, z = (i + j) / 2 := ⟨_, rfl⟩
        have ea : ((m : Int)).toNat = iN := by omega
        have pa : (0 : Int) ≤ (m : Int) := by omega
        have ba : (m : Int) < (d.size : Int) := by omega
        have ra : IntKind.i64.wrap ((m : Int)) = (m : Int) := by rw [IntKind.wrap_i64]; omega
        have ec : (((i : Int) + (j : Int)) / 2).toNat = jN := by omega
        have pc : (0 : Int) ≤ ((i : Int) + (j : Int)) / 2 := by omega
        have bc : ((i : Int) + (j : Int)) / 2 < (d.size : Int) := by omega
        have rc : IntKind.i64.wrap (((i : Int) + (j : Int)) / 2) = ((i : Int) + (j : Int)) / 2 := by rw [IntKind.wrap_i64]; omega
        obtain ⟨x, hx⟩ : ∃ x, x = d[m]! := ⟨_, rfl⟩
        obtain ⟨y, hy⟩ : ∃ x, x = d[(i + j) / 2]! := ⟨_, rfl⟩
        obtain ⟨x0, x1, x2, x3, hcX⟩ := four f x
        have la : ∀ n os, At4 (grow (wr.drewN n) os) blk (off + iN * 4) (.int .i64 x0) (.int .i64 x1) (.int .i64 x2) (.int .i64 x3) := fun n os => by rw [hiN]; exact at4 (S1.out.grown n os) R (by omega) (m) (by omega) (.int .i64 x0) (.int .i64 x1) (.int .i64 x2) (.int .i64 x3) (by rw [← hx]; exact hcX)
        have la0 := fun n os => (la n os).c0
        have la1 := fun n os => (la n os).c1
        have la2 := fun n os => (la n os).c2
        have la3 := fun n os => (la n os).c3
        obtain ⟨y0, y1, y2, y3, hcY⟩ := four f y
        have lb : ∀ n os, At4 (grow (wr.drewN n) os) blk (off + jN * 4) (.int .i64 y0) (.int .i64 y1) (.int .i64 y2) (.int .i64 y3) := fun n os => by rw [hjN]; exact at4 (S1.out.grown n os) R (by omega) ((i + j) / 2) (by omega) (.int .i64 y0) (.int .i64 y1) (.int .i64 y2) (.int .i64 y3) (by rw [← hy]; exact hcY)
        have lb0 := fun n os => (lb n os).c0
        have lb1 := fun n os => (lb n os).c1
        have lb2 := fun n os => (lb n os).c2
        have lb3 := fun n os => (lb n os).c3
        have hc := S1.out.cmp HC.out (by omega) x y
        rw [hcX, hcY] at hc
        clear la lb hcX hcY
        have hv : ¬ cf x y < 0 := by rw [hx, hy]; exact of_decide_eq_false hlv
        have hd : decide (cf x y < 0) = false := decide_eq_false hv
        clear hx hy hiN hjN
        go_wp2_with fail
        go_quiet_grown (first | (go_at_fn g; refine Calls.grown_of (hc _ _)))
        have S2 : Aside (SWK (E4 f) 4 w0 blk off d (grow (wr.drewN nq) osq)) := S1.out.grown nq osq
        clear la0 la1 la2 la3 lb0 lb1 lb2 lb3 hc S1
        generalize grow (wr.drewN nq) osq = w2 at S2 ⊢
        clear nq osq
        clear ea ec
        go_wp2
        go_roundg (j - ((i + j) / 2 + 1))
        case measure => omega
        case rel => exact ⟨(i + j) / 2 + 1, j, by go_num, rfl, by omega, by omega, by omega, by omega, S2, (show Hid _ from by rw [← heq.out]; exact (bs_up (fun h => !ltOf cf d[m]! d[h]!) _ _ hlt (by simp [hlv])).symm)⟩
    · have hi : i = bs (fun h => !ltOf cf d[m]! d[h]!) a m := by rw [← heq.out, bs_stop _ _ _ hlt]
      have HI : Hid (i = bs (fun h => !ltOf cf d[m]! d[h]!) a m) := hi
      clear hi heq
      have hlt' : ¬ (i : Int) < (j : Int) := by omega
      go_wp2
      go_loopg [17] (b - a) (fun kx s wr => ∃ (q : Nat) (dk : Array α), s = .int .i64 q ∧ i ≤ q ∧ q ≤ m ∧ q - i ≤ kx ∧ dk.size = d.size ∧ Aside (SWK (E4 f) 4 w0 blk off dk wr) ∧ Hid (shiftL i q dk = shiftL i m d))
      case atStart => exact ⟨m, d, rfl, by omega, by omega, by omega, rfl, S1, rfl⟩
      case round =>
        clear S1
        obtain ⟨q, dk, rfl, haq, hqi, hkq, hds, S1, heq⟩ := hrel
        by_cases hql : i < q
        · have hql' : (i : Int) < (q : Int) := by omega
          obtain ⟨iN, hiN⟩ : ∃ z, z = q := ⟨_, rfl⟩
          obtain ⟨jN, hjN⟩ : ∃ z, z = q - 1 := ⟨_, rfl⟩
          have ea : ((q : Int)).toNat = iN := by omega
          have pa : (0 : Int) ≤ (q : Int) := by omega
          have ba : (q : Int) < (d.size : Int) := by omega
          have ra : IntKind.i64.wrap ((q : Int)) = (q : Int) := by rw [IntKind.wrap_i64]; omega
          have ec : ((q : Int) - 1).toNat = jN := by omega
          have pc : (0 : Int) ≤ (q : Int) - 1 := by omega
          have bc : (q : Int) - 1 < (d.size : Int) := by omega
          have rc : IntKind.i64.wrap ((q : Int) - 1) = (q : Int) - 1 := by rw [IntKind.wrap_i64]; omega
          obtain ⟨x, hx⟩ : ∃ x, x = dk[q]! := ⟨_, rfl⟩
          obtain ⟨y, hy⟩ : ∃ x, x = dk[q - 1]! := ⟨_, rfl⟩
          obtain ⟨x0, x1, x2, x3, hcX⟩ := four f x
          obtain ⟨y0, y1, y2, y3, hcY⟩ := four f y
          have S2 : Aside (SWK (E4 f) 4 w0 blk off (swp dk (q) (q - 1)) (st4 (st4 wr blk (off + iN * 4) (.int .i64 y0) (.int .i64 y1) (.int .i64 y2) (.int .i64 y3)) blk (off + jN * 4) (.int .i64 x0) (.int .i64 x1) (.int .i64 x2) (.int .i64 x3)).drew) := by rw [hiN, hjN]; exact swapped4 S1.out R (q) (q - 1) (by omega) (by omega) (.int .i64 x0) (.int .i64 x1) (.int .i64 x2) (.int .i64 x3) (.int .i64 y0) (.int .i64 y1) (.int .i64 y2) (.int .i64 y3) (by rw [← hx]; exact hcX) (by rw [← hy]; exact hcY)
          have a4 : At4 wr blk (off + iN * 4) (.int .i64 x0) (.int .i64 x1) (.int .i64 x2) (.int .i64 x3) := by rw [hiN]; exact at4 S1.out R (by omega) (q) (by omega) (.int .i64 x0) (.int .i64 x1) (.int .i64 x2) (.int .i64 x3) (by rw [← hx]; exact hcX)
          have b4 : At4 wr blk (off + jN * 4) (.int .i64 y0) (.int .i64 y1) (.int .i64 y2) (.int .i64 y3) := by rw [hjN]; exact at4 S1.out R (by omega) (q - 1) (by omega) (.int .i64 y0) (.int .i64 y1) (.int .i64 y2) (.int .i64 y3) (by rw [← hy]; exact hcY)
          obtain ⟨cx0, cx1, cx2, cx3, fx0, fx1, fx2, fx3⟩ := a4
          obtain ⟨cy0, cy1, cy2, cy3, fy0, fy1, fy2, fy3⟩ := b4
          obtain ⟨u1, k1⟩ : ∃ u, World.cell? (World.setCell wr ⟨blk, off + iN * 4, none⟩ (.int .i64 y0)) ⟨blk, off + iN * 4 + 1, none⟩ = some u := keepC ⟨_, cx1⟩ _ _
          obtain ⟨u2, k2⟩ : ∃ u, World.cell? (World.setCell (World.setCell wr ⟨blk, off + iN * 4, none⟩ (.int .i64 y0)) ⟨blk, off + iN * 4 + 1, none⟩ (.int .i64 y1)) ⟨blk, off + iN * 4 + 2, none⟩ = some u := keepC (keepC ⟨_, cx2⟩ _ _) _ _
          obtain ⟨u3, k3⟩ : ∃ u, World.cell? (World.setCell (World.setCell (World.setCell wr ⟨blk, off + iN * 4, none⟩ (.int .i64 y0)) ⟨blk, off + iN * 4 + 1, none⟩ (.int .i64 y1)) ⟨blk, off + iN * 4 + 2, none⟩ (.int .i64 y2)) ⟨blk, off + iN * 4 + 3, none⟩ = some u := keepC (keepC (keepC ⟨_, cx3⟩ _ _) _ _) _ _
          obtain ⟨u4, k4⟩ : ∃ u, World.cell? (World.setCell (World.setCell (World.setCell (World.setCell wr ⟨blk, off + iN * 4, none⟩ (.int .i64 y0)) ⟨blk, off + iN * 4 + 1, none⟩ (.int .i64 y1)) ⟨blk, off + iN * 4 + 2, none⟩ (.int .i64 y2)) ⟨blk, off + iN * 4 + 3, none⟩ (.int .i64 y3)) ⟨blk, off + jN * 4, none⟩ = some u := keepC (keepC (keepC (keepC ⟨_, cy0⟩ _ _) _ _) _ _) _ _
          obtain ⟨u5, k5⟩ : ∃ u, World.cell? (World.setCell (World.setCell (World.setCell (World.setCell (World.setCell wr ⟨blk, off + iN * 4, none⟩ (.int .i64 y0)) ⟨blk, off + iN * 4 + 1, none⟩ (.int .i64 y1)) ⟨blk, off + iN * 4 + 2, none⟩ (.int .i64 y2)) ⟨blk, off + iN * 4 + 3, none⟩ (.int .i64 y3)) ⟨blk, off + jN * 4, none⟩ (.int .i64 x0)) ⟨blk, off + jN * 4 + 1, none⟩ = some u := keepC (keepC (keepC (keepC (keepC ⟨_, cy1⟩ _ _) _ _) _ _) _ _) _ _
          obtain ⟨u6, k6⟩ : ∃ u, World.cell? (World.setCell (World.setCell (World.setCell (World.setCell (World.setCell (World.setCell wr ⟨blk, off + iN * 4, none⟩ (.int .i64 y0)) ⟨blk, off + iN * 4 + 1, none⟩ (.int .i64 y1)) ⟨blk, off + iN * 4 + 2, none⟩ (.int .i64 y2)) ⟨blk, off + iN * 4 + 3, none⟩ (.int .i64 y3)) ⟨blk, off + jN * 4, none⟩ (.int .i64 x0)) ⟨blk, off + jN * 4 + 1, none⟩ (.int .i64 x1)) ⟨blk, off + jN * 4 + 2, none⟩ = some u := keepC (keepC (keepC (keepC (keepC (keepC ⟨_, cy2⟩ _ _) _ _) _ _) _ _) _ _) _ _
          obtain ⟨u7, k7⟩ : ∃ u, World.cell? (World.setCell (World.setCell (World.setCell (World.setCell (World.setCell (World.setCell (World.setCell wr ⟨blk, off + iN * 4, none⟩ (.int .i64 y0)) ⟨blk, off + iN * 4 + 1, none⟩ (.int .i64 y1)) ⟨blk, off + iN * 4 + 2, none⟩ (.int .i64 y2)) ⟨blk, off + iN * 4 + 3, none⟩ (.int .i64 y3)) ⟨blk, off + jN * 4, none⟩ (.int .i64 x0)) ⟨blk, off + jN * 4 + 1, none⟩ (.int .i64 x1)) ⟨blk, off + jN * 4 + 2, none⟩ (.int .i64 x2)) ⟨blk, off + jN * 4 + 3, none⟩ = some u := keepC (keepC (keepC (keepC (keepC (keepC (keepC ⟨_, cy3⟩ _ _) _ _) _ _) _ _) _ _) _ _) _ _
          simp only [st4] at S2
          clear S1 hx hy hiN hjN hcX hcY
          go_wp2_with fail
          go_big_region
          clear cx0 cx1 cx2 cx3 cy0 cy1 cy2 cy3 fx0 fx1 fx2 fx3 fy0 fy1 fy2 fy3 k1 k2 k3 k4 k5 k6 k7
          generalize World.drew _ = w2 at S2 ⊢
          clear ea ec
          go_wp2
          go_roundg (q - 1 - i)
          case measure => omega
          case rel => exact ⟨q - 1, swp dk q (q - 1), by go_num, by omega, by omega, by omega, by rw [size_swp]; exact hds, S2, (show Hid _ from by rw [← heq.out, shiftL_pos _ _ _ hql]; exact rfl)⟩
        · have hql' : ¬ (i : Int) < (q : Int) := by omega
          go_wp2
          refine bodyPost_ret (results_none rfl _ _ _) rfl ?_
          refine ⟨rfl, ?_⟩
          rw [symM_B _ _ _ _ _ _ (by omega) (by omega), ← HI.out, ← heq.out]
          cases q with
          | zero => exact S1.out
          | succ q => rw [shiftL, if_neg hql]; exact S1.out
end Go.Proofs.Ytnldnaogbadajaa.Kw

/- Go's stable sort of ints, walked: symMerge, the general case, and the whole. -/
set_option linter.unusedVariables false
namespace Go.Proofs.Ytnldnaogbadajaa.Kw
open Go.Shelf Go.RowKit Go.Lib Go.Sort Go.Proofs.Ytnldnaogbadajaa.St
variable {α : Type} [Inhabited α]

theorem symM_C (lt : α → α → Bool) (k a m b mid st : Nat) (d d1 d2 : Array α) (h : ¬ m - a = 1) (h2 : ¬ b - m = 1) (hm : mid = (a + b) / 2)
    (hst : st = bs (fun c => !lt d[mid + m - 1 - c]! d[c]!) (if m > mid then mid + m - b else a) (if m > mid then mid else m))
    (hd1 : d1 = if st < m ∧ m < mid + m - st then rotate st m (mid + m - st) d else d) (hd2 : d2 = if a < st ∧ st < mid then symM lt k a st mid d1 else d1) :
    symM lt (k + 1) a m b d = if mid < mid + m - st ∧ mid + m - st < b then symM lt k mid (mid + m - st) b d2 else d2 := by
  subst hm hst hd1 hd2
  conv => lhs; unfold symM
  rw [if_neg h, if_neg h2]

set_option maxHeartbeats 16000000 in
set_option maxRecDepth 1000000 in
theorem symMergeC (f : α → Int × Int × Int × Int) (cf : α → α → Int) (g : Nat) (cb : Array Value) (blk off cap a m b k : Nat) (d0 d : Array α) (w0 w : World)
    (eg : ∀ args w, (callFunc g args).run Try.prog w = .ok (.enter g args) w) (hcmp : CmpLays Try.prog g cb (E4 f) 4 cf blk off d0.size w0) (R : RowK (E4 f) 4 w0 blk off d0) (hs : d0.size = d.size) (S : SWK (E4 f) 4 w0 blk off d w)
    (h1 : a < m) (h2 : m < b) (h3 : b ≤ d.size) (hsz : d.size < 4611686018427387904) (h4 : ¬ m ≤ a + 1) (h5 : ¬ b ≤ m + 1)
    (ih : ∀ (a' m' b' : Nat) (d' : Array α) (w' : World), d'.size = d.size → SWK (E4 f) 4 w0 blk off d' w' → a' < m' → m' < b' → b' ≤ d'.size → b' - a' < b - a → Calls Try.prog 100 #[.slice (some ⟨blk, off, none⟩) d'.size cap, .int .i64 a', .int .i64 m', .int .i64 b', .func (.func g) #[] cb] w' fun e w'' => e = .returned (.tuple #[]) ∧ SWK (E4 f) 4 w0 blk off (symM (ltOf cf) k a' m' b' d') w'') :
    Calls Try.prog 100 #[.slice (some ⟨blk, off, none⟩) d.size cap, .int .i64 a, .int .i64 m, .int .i64 b, .func (.func g) #[] cb] w fun e w' => e = .returned (.tuple #[]) ∧ SWK (E4 f) 4 w0 blk off (symM (ltOf cf) (k + 1) a m b d) w' := by
  have mixed : Try.prog.follows .mixedOrders = true := by kernel_rfl
  have HC : Aside _ := hcmp
  have S0 : Aside (SWK (E4 f) 4 w0 blk off d w) := S
  have IH := Lib.hid ih
  clear S hcmp ih
  obtain ⟨mid, hmid⟩ : ∃ z, z = (a + b) / 2 := ⟨_, rfl⟩
  have m1 : 2 * mid ≤ a + b := by omega
  have m2 : a + b < 2 * mid + 2 := by omega
  have HM := Lib.hid hmid
  clear hmid
  have q0 : ((m : Int) - (a : Int) == 1) = false := by rw [beq_eq_false_iff_ne]; omega
  have q1 : ((b : Int) - (m : Int) == 1) = false := by rw [beq_eq_false_iff_ne]; omega
  have em : ((a : Int) + (b : Int)) / 2 = (mid : Int) := by omega
  have hlohi : ∃ lo hi : Nat, lo = (if m > mid then mid + m - b else a) ∧ hi = (if m > mid then mid else m) := ⟨_, _, rfl, rfl⟩
  obtain ⟨lo, hi, hlo, hhi⟩ := hlohi
  have b1 : a ≤ lo ∧ lo ≤ hi ∧ hi ≤ m ∧ hi ≤ mid ∧ mid + m ≤ lo + b := by subst hlo hhi; split <;> omega
  obtain ⟨b1, b2, b3, b4, b5⟩ := b1
  have HL := Lib.hid hlo
  have HH := Lib.hid hhi
  clear hlo hhi
  go_enter Try.func100, Try.ntmps100
  go_upto_if 140 with (fail)
  go_cut [20, 21] (fun s t wx => s = .int .i64 lo ∧ t = .int .i64 hi ∧ Aside (SWK (E4 f) 4 w0 blk off d wx))
  case first => as_aux_lemma =>
    have hlo := HL.out
    have hhi := HH.out
    by_cases hmm : m > mid
    · rw [if_pos hmm] at hlo hhi
      have e1 : (mid : Int) + (m : Int) - (b : Int) = (lo : Int) := by omega
      have e2 : mid = hi := hhi.symm
      clear hlo hhi HL HH HM em
      subst e2
      go_wp2
      go_meet
      case rel => exact ⟨rfl, rfl, S0⟩
    · rw [if_neg hmm] at hlo hhi
      subst hlo hhi
      clear HL HH HM em
      go_wp2
      go_meet
      case rel => exact ⟨rfl, rfl, S0⟩
  case rest => as_aux_lemma =>
    clear S0
    obtain ⟨rfl, rfl, S0⟩ := hcut
    go_wp2
    go_loopg [20, 21] (hi - lo) (fun kx s t wr => ∃ (i j : Nat), s = .int .i64 i ∧ t = .int .i64 j ∧ lo ≤ i ∧ i ≤ j ∧ j ≤ hi ∧ j - i ≤ kx ∧ Aside (SWK (E4 f) 4 w0 blk off d wr) ∧ Hid (bs (fun c => !ltOf cf d[mid + m - 1 - c]! d[c]!) i j = bs (fun c => !ltOf cf d[mid + m - 1 - c]! d[c]!) lo hi))
    case atStart => exact ⟨lo, hi, rfl, rfl, by omega, by omega, by omega, by omega, S0, rfl⟩
    case round =>
      clear S0
      obtain ⟨i, j, rfl, rfl, hmi, hij, hjb, hkx, S1, heq⟩ := hrel
      by_cases hlt : i < j
      · cases hlv : ltOf cf d[mid + m - 1 - (i + j) / 2]! d[(i + j) / 2]! with
        | true => as_aux_lemma =>
          have pa1 : ((i : Int) + (j : Int)) / 2 ≤ (mid : Int) + (m : Int) - 1 := by omega
          obtain ⟨iN, hiN⟩ : ∃ z, z = mid + m - 1 - (i + j) / 2 := ⟨_, rfl⟩
          obtain ⟨jN, hjN⟩ : ∃ z, z = (i + j) / 2 := ⟨_, rfl⟩
          have ea : ((mid : Int) + (m : Int) - 1 - ((i : Int) + (j : Int)) / 2).toNat = iN := by omega
          have pa : (0 : Int) ≤ (mid : Int) + (m : Int) - 1 - ((i : Int) + (j : Int)) / 2 := by omega
          have ba : (mid : Int) + (m : Int) - 1 - ((i : Int) + (j : Int)) / 2 < (d.size : Int) := by omega
          have ra : IntKind.i64.wrap ((mid : Int) + (m : Int) - 1 - ((i : Int) + (j : Int)) / 2) = (mid : Int) + (m : Int) - 1 - ((i : Int) + (j : Int)) / 2 := by rw [IntKind.wrap_i64]; omega
          have ec : (((i : Int) + (j : Int)) / 2).toNat = jN := by omega
          have pc : (0 : Int) ≤ ((i : Int) + (j : Int)) / 2 := by omega
          have bc : ((i : Int) + (j : Int)) / 2 < (d.size : Int) := by omega
          have rc : IntKind.i64.wrap (((i : Int) + (j : Int)) / 2) = ((i : Int) + (j : Int)) / 2 := by rw [IntKind.wrap_i64]; omega
          obtain ⟨x, hx⟩ : ∃ x, x = d[mid + m - 1 - (i + j) / 2]! := ⟨_, rfl⟩
          obtain ⟨y, hy⟩ : ∃ x, x = d[(i + j) / 2]! := ⟨_, rfl⟩
          obtain ⟨x0, x1, x2, x3, hcX⟩ := four f x
          have la : ∀ n os, At4 (grow (wr.drewN n) os) blk (off + iN * 4) (.int .i64 x0) (.int .i64 x1) (.int .i64 x2) (.int .i64 x3) := fun n os => by rw [hiN]; exact at4 (S1.out.grown n os) R (by omega) (mid + m - 1 - (i + j) / 2) (by omega) (.int .i64 x0) (.int .i64 x1) (.int .i64 x2) (.int .i64 x3) (by rw [← hx]; exact hcX)
          have la0 := fun n os => (la n os).c0
          have la1 := fun n os => (la n os).c1
          have la2 := fun n os => (la n os).c2
          have la3 := fun n os => (la n os).c3
          obtain ⟨y0, y1, y2, y3, hcY⟩ := four f y
          have lb : ∀ n os, At4 (grow (wr.drewN n) os) blk (off + jN * 4) (.int .i64 y0) (.int .i64 y1) (.int .i64 y2) (.int .i64 y3) := fun n os => by rw [hjN]; exact at4 (S1.out.grown n os) R (by omega) ((i + j) / 2) (by omega) (.int .i64 y0) (.int .i64 y1) (.int .i64 y2) (.int .i64 y3) (by rw [← hy]; exact hcY)
          have lb0 := fun n os => (lb n os).c0
          have lb1 := fun n os => (lb n os).c1
          have lb2 := fun n os => (lb n os).c2
          have lb3 := fun n os => (lb n os).c3
          have hc := S1.out.cmp HC.out (by omega) x y
          rw [hcX, hcY] at hc
          clear la lb hcX hcY
          have hv : cf x y < 0 := by rw [hx, hy]; exact of_decide_eq_true hlv
          have hd : decide (cf x y < 0) = true := decide_eq_true hv
          clear hx hy hiN hjN
          go_wp2_with fail
          go_quiet_grown (first | (go_at_fn g; refine Calls.grown_of (hc _ _)))
          have S2 : Aside (SWK (E4 f) 4 w0 blk off d (grow (wr.drewN nq) osq)) := S1.out.grown nq osq
          clear la0 la1 la2 la3 lb0 lb1 lb2 lb3 hc S1
          generalize grow (wr.drewN nq) osq = w2 at S2 ⊢
          clear nq osq
          clear ea ec
          go_wp2
          go_roundg ((i + j) / 2 - i)
          case measure => omega
          case rel => exact ⟨i, (i + j) / 2, rfl, by go_num, by omega, by omega, by omega, by omega, S2, (show Hid _ from by rw [← heq.out]; exact (bs_dn (fun c => !ltOf cf d[mid + m - 1 - c]! d[c]!) _ _ hlt (by simp [hlv])).symm)⟩
        | false => as_aux_lemma =>
          have pa1 : ((i : Int) + (j : Int)) / 2 ≤ (mid : Int) + (m : Int) - 1 := by omega
          obtain ⟨iN, hiN⟩ : ∃ z, z = mid + m - 1 - (i + j) / 2 := ⟨_, rfl⟩
          obtain ⟨jN, hjN⟩ : ∃ z, z = (i + j) / 2 := ⟨_, rfl⟩
          have ea : ((mid : Int) + (m : Int) - 1 - ((i : Int) + (j : Int)) / 2).toNat = iN := by omega
          have pa : (0 : Int) ≤ (mid : Int) + (m : Int) - 1 - ((i : Int) + (j : Int)) / 2 := by omega
          have ba : (mid : Int) + (m : Int) - 1 - ((i : Int) + (j : Int)) / 2 < (d.size : Int) := by omega
          have ra : IntKind.i64.wrap ((mid : Int) + (m : Int) - 1 - ((i : Int) + (j : Int)) / 2) = (mid : Int) + (m : Int) - 1 - ((i : Int) + (j : Int)) / 2 := by rw [IntKind.wrap_i64]; omega
          have ec : (((i : Int) + (j : Int)) / 2).toNat = jN := by omega
          have pc : (0 : Int) ≤ ((i : Int) + (j : Int)) / 2 := by omega
          have bc : ((i : Int) + (j : Int)) / 2 < (d.size : Int) := by omega
          have rc : IntKind.i64.wrap (((i : Int) + (j : Int)) / 2) = ((i : Int) + (j : Int)) / 2 := by rw [IntKind.wrap_i64]; omega
          obtain ⟨x, hx⟩ : ∃ x, x = d[mid + m - 1 - (i + j) / 2]! := ⟨_, rfl⟩
          obtain ⟨y, hy⟩ : ∃ x, x = d[(i + j) / 2]! := ⟨_, rfl⟩
          obtain ⟨x0, x1, x2, x3, hcX⟩ := four f x
          have la : ∀ n os, At4 (grow (wr.drewN n) os) blk (off + iN * 4) (.int .i64 x0) (.int .i64 x1) (.int .i64 x2) (.int .i64 x3) := fun n os => by rw [hiN]; exact at4 (S1.out.grown n os) R (by omega) (mid + m - 1 - (i + j) / 2) (by omega) (.int .i64 x0) (.int .i64 x1) (.int .i64 x2) (.int .i64 x3) (by rw [← hx]; exact hcX)
          have la0 := fun n os => (la n os).c0
          have la1 := fun n os => (la n os).c1
          have la2 := fun n os => (la n os).c2
          have la3 := fun n os => (la n os).c3
          obtain ⟨y0, y1, y2, y3, hcY⟩ := four f y
          have lb : ∀ n os, At4 (grow (wr.drewN n) os) blk (off + jN * 4) (.int .i64 y0) (.int .i64 y1) (.int .i64 y2) (.int .i64 y3) := fun n os => by rw [hjN]; exact at4 (S1.out.grown n os) R (by omega) ((i + j) / 2) (by omega) (.int .i64 y0) (.int .i64 y1) (.int .i64 y2) (.int .i64 y3) (by rw [← hy]; exact hcY)
          have lb0 := fun n os => (lb n os).c0
          have lb1 := fun n os => (lb n os).c1
          have lb2 := fun n os => (lb n os).c2
          have lb3 := fun n os => (lb n os).c3
          have hc := S1.out.cmp HC.out (by omega) x y
          rw [hcX, hcY] at hc
          clear la lb hcX hcY
          have hv : ¬ cf x y < 0 := by rw [hx, hy]; exact of_decide_eq_false hlv
          have hd : decide (cf x y < 0) = false := decide_eq_false hv
          clear hx hy hiN hjN
          go_wp2_with fail
          go_quiet_grown (first | (go_at_fn g; refine Calls.grown_of (hc _ _)))
          have S2 : Aside (SWK (E4 f) 4 w0 blk off d (grow (wr.drewN nq) osq)) := S1.out.grown nq osq
          clear la0 la1 la2 la3 lb0 lb1 lb2 lb3 hc S1
          generalize grow (wr.drewN nq) osq = w2 at S2 ⊢
          clear nq osq
          clear ea ec
          go_wp2
          go_roundg (j - ((i + j) / 2 + 1))
          case measure => omega
          case rel => exact ⟨(i + j) / 2 + 1, j, by go_num, rfl, by omega, by omega, by omega, by omega, S2, (show Hid _ from by rw [← heq.out]; exact (bs_up (fun c => !ltOf cf d[mid + m - 1 - c]! d[c]!) _ _ hlt (by simp [hlv])).symm)⟩
      · have hi' : i = bs (fun c => !ltOf cf d[mid + m - 1 - c]! d[c]!) lo hi := by rw [← heq.out, bs_stop _ _ _ hlt]
        have HI : Hid (i = bs (fun c => !ltOf cf d[mid + m - 1 - c]! d[c]!) lo hi) := hi'
        clear hi' heq
        have hlt' : ¬ (i : Int) < (j : Int) := by omega
        obtain ⟨d1, hd1⟩ : ∃ z, z = if i < m ∧ m < mid + m - i then rotate i m (mid + m - i) d else d := ⟨_, rfl⟩
        have z1 : d1.size = d.size := by
          subst hd1
          split
          · rename_i hc; exact (rotate_spec i m (mid + m - i) d hc.1 hc.2 (by omega)).1.size
          · rfl
        obtain ⟨d2, hd2⟩ : ∃ z, z = if a < i ∧ i < mid then symM (ltOf cf) k a i mid d1 else d1 := ⟨_, rfl⟩
        have z2 : d2.size = d.size := by
          subst hd2
          split
          · rename_i hc; exact (symM_out (ltOf cf) k a i mid d1 hc.1 hc.2 (by omega)).size.trans z1
          · exact z1
        have Z1 := Lib.hid z1
        have Z2 := Lib.hid z2
        have D1 := Lib.hid hd1
        have D2 := Lib.hid hd2
        clear z1 z2 hd1 hd2
        obtain ⟨v1, hv1⟩ : ∃ z : Bool, z = decide (i < m ∧ m < mid + m - i) := ⟨_, rfl⟩
        have V1 := Lib.hid hv1
        clear hv1
        go_upto_region 39 with (fail)
        go_cut [185] (fun s wx => s = .bool v1 ∧ Aside (SWK (E4 f) 4 w0 blk off d wx))
        case first => as_aux_lemma =>
          have hv1 := V1.out
          clear V1 D1 D2 Z1 Z2
          by_cases hc1 : i < m
          · by_cases hc2 : m < mid + m - i
            · have g1 : (i : Int) < (m : Int) := by omega
              have g2 : (m : Int) < (mid : Int) + (m : Int) - (i : Int) := by omega
              rw [decide_eq_true ⟨hc1, hc2⟩] at hv1
              subst hv1
              go_wp2
              go_meet
              case rel => exact ⟨rfl, S1⟩
            · have g1 : (i : Int) < (m : Int) := by omega
              have g2 : ¬ (m : Int) < (mid : Int) + (m : Int) - (i : Int) := by omega
              rw [decide_eq_false (by omega)] at hv1
              subst hv1
              go_wp2
              go_meet
              case rel => exact ⟨rfl, S1⟩
          · have g1 : ¬ (i : Int) < (m : Int) := by omega
            rw [decide_eq_false (by omega)] at hv1
            subst hv1
            go_wp2
            go_meet
            case rel => exact ⟨rfl, S1⟩
        case rest => as_aux_lemma =>
          clear S1
          obtain ⟨rfl, S1⟩ := hcut
          go_upto_if 185 with (fail)
          go_cut [20] (fun s wx => s = .int .i64 i ∧ Aside (SWK (E4 f) 4 w0 blk off d1 wx))
          case first => as_aux_lemma =>
            have hd1 := D1.out
            have hv1 := V1.out
            clear V1 D1 D2 Z1 Z2
            by_cases hc : i < m ∧ m < mid + m - i
            · rw [if_pos hc] at hd1
              rw [decide_eq_true hc] at hv1
              subst hd1 hv1
              have C := rotate_s f (.func (.func g) #[] cb) blk off cap i m (mid + m - i) d0 d w0 wc R hs S1.out hc.1 hc.2 (by omega) hsz
              rw [show ((mid + m - i : Nat) : Int) = (mid : Int) + (m : Int) - (i : Int) by omega] at C
              have HC2 := Lib.hid C
              clear C
              go_wp2_with fail
              refine HC2.out.mono ?_
              rintro e w' ⟨rfl, S2⟩
              have S3 : Aside (SWK (E4 f) 4 w0 blk off (rotate i m (mid + m - i) d) w') := S2
              clear S2 S1 HC2
              go_wp2
              go_meet
              case rel => exact ⟨rfl, S3⟩
            · rw [if_neg hc] at hd1
              rw [decide_eq_false hc] at hv1
              subst hd1 hv1
              go_wp2
              go_meet
              case rel => exact ⟨rfl, S1⟩
          case rest => as_aux_lemma =>
            clear S1 V1
            obtain ⟨rfl, S1⟩ := hcut
            obtain ⟨v2, hv2⟩ : ∃ z : Bool, z = decide (a < i ∧ i < mid) := ⟨_, rfl⟩
            have V2 := Lib.hid hv2
            clear hv2
            go_upto_region 41 with (fail)
            go_cut [199] (fun s wx => s = .bool v2 ∧ Aside (SWK (E4 f) 4 w0 blk off d1 wx))
            case first => as_aux_lemma =>
              have hv2 := V2.out
              clear V2 D1 D2 Z1 Z2
              by_cases hc1 : a < i
              · by_cases hc2 : i < mid
                · have g1 : (a : Int) < (i : Int) := by omega
                  have g2 : (i : Int) < (mid : Int) := by omega
                  rw [decide_eq_true ⟨hc1, hc2⟩] at hv2
                  subst hv2
                  go_wp2
                  go_meet
                  case rel => exact ⟨rfl, S1⟩
                · have g1 : (a : Int) < (i : Int) := by omega
                  have g2 : ¬ (i : Int) < (mid : Int) := by omega
                  rw [decide_eq_false (by omega)] at hv2
                  subst hv2
                  go_wp2
                  go_meet
                  case rel => exact ⟨rfl, S1⟩
              · have g1 : ¬ (a : Int) < (i : Int) := by omega
                rw [decide_eq_false (by omega)] at hv2
                subst hv2
                go_wp2
                go_meet
                case rel => exact ⟨rfl, S1⟩
            case rest => as_aux_lemma =>
              clear S1
              obtain ⟨rfl, S1⟩ := hcut
              go_upto_if 199 with (fail)
              go_cut [20] (fun s wx => s = .int .i64 i ∧ Aside (SWK (E4 f) 4 w0 blk off d2 wx))
              case first => as_aux_lemma =>
                have hd2 := D2.out
                have hv2 := V2.out
                clear V2
                by_cases hc : a < i ∧ i < mid
                · rw [if_pos hc] at hd2
                  rw [decide_eq_true hc] at hv2
                  have C := IH.out a i mid d1 wc Z1.out S1.out hc.1 hc.2 (by rw [Z1.out]; omega) (by omega)
                  rw [Z1.out] at C
                  have HC2 := Lib.hid C
                  clear C
                  subst hd2 hv2
                  clear D1 D2 Z1 Z2
                  go_wp2_with fail
                  refine HC2.out.mono ?_
                  rintro e w' ⟨rfl, S2⟩
                  have S3 : Aside (SWK (E4 f) 4 w0 blk off (symM (ltOf cf) k a i mid d1) w') := S2
                  clear S2 S1 HC2
                  go_wp2
                  go_meet
                  case rel => exact ⟨rfl, S3⟩
                · rw [if_neg hc] at hd2
                  rw [decide_eq_false hc] at hv2
                  subst hd2 hv2
                  clear D1 D2 Z1 Z2
                  go_wp2
                  go_meet
                  case rel => exact ⟨rfl, S1⟩
              case rest => as_aux_lemma =>
                clear S1 V2
                obtain ⟨rfl, S1⟩ := hcut
                have fin := symM_C (ltOf cf) k a m b mid i d d1 d2 (by omega) (by omega) HM.out (by rw [← HL.out, ← HH.out]; exact HI.out) D1.out D2.out
                have FIN := Lib.hid fin
                clear fin
                by_cases hc1 : mid < mid + m - i
                · by_cases hc2 : mid + m - i < b
                  · have g1 : (mid : Int) < (mid : Int) + (m : Int) - (i : Int) := by omega
                    have g2 : (mid : Int) + (m : Int) - (i : Int) < (b : Int) := by omega
                    have C := IH.out mid (mid + m - i) b d2 wc Z2.out S1.out hc1 hc2 (by rw [Z2.out]; omega) (by omega)
                    rw [Z2.out, show ((mid + m - i : Nat) : Int) = (mid : Int) + (m : Int) - (i : Int) by omega] at C
                    have HC2 := Lib.hid C
                    clear C
                    go_wp2_with fail
                    refine HC2.out.mono ?_
                    rintro e w' ⟨rfl, S2⟩
                    have S3 : Aside (SWK (E4 f) 4 w0 blk off (symM (ltOf cf) k mid (mid + m - i) b d2) w') := S2
                    clear S2 S1 HC2
                    go_wp2
                    go_end0
                    refine ⟨rfl, ?_⟩
                    rw [FIN.out, if_pos ⟨hc1, hc2⟩]
                    exact S3.out
                  · have g1 : (mid : Int) < (mid : Int) + (m : Int) - (i : Int) := by omega
                    have g2 : ¬ (mid : Int) + (m : Int) - (i : Int) < (b : Int) := by omega
                    go_wp2
                    go_end0
                    refine ⟨rfl, ?_⟩
                    rw [FIN.out, if_neg (by omega)]
                    exact S1.out
                · have g1 : ¬ (mid : Int) < (mid : Int) + (m : Int) - (i : Int) := by omega
                  go_wp2
                  go_end0
                  refine ⟨rfl, ?_⟩
                  rw [FIN.out, if_neg (by omega)]
                  exact S1.out
end Go.Proofs.Ytnldnaogbadajaa.Kw

/- Go's stable sort of ints, walked: the whole. -/
set_option linter.unusedVariables false
namespace Go.Proofs.Ytnldnaogbadajaa.Kw
open Go.Shelf Go.RowKit Go.Lib Go.Sort Go.Proofs.Ytnldnaogbadajaa.St
variable {α : Type} [Inhabited α]

theorem symMerge_s (f : α → Int × Int × Int × Int) (cf : α → α → Int) (g : Nat) (cb : Array Value) (blk off cap : Nat) (d0 : Array α) (w0 : World)
    (eg : ∀ args w, (callFunc g args).run Try.prog w = .ok (.enter g args) w) (hcmp : CmpLays Try.prog g cb (E4 f) 4 cf blk off d0.size w0) (R : RowK (E4 f) 4 w0 blk off d0) : ∀ (k a m b : Nat) (d : Array α) (w : World), d0.size = d.size → SWK (E4 f) 4 w0 blk off d w → a < m → m < b → b ≤ d.size → b - a ≤ k → d.size < 4611686018427387904 →
    Calls Try.prog 100 #[.slice (some ⟨blk, off, none⟩) d.size cap, .int .i64 a, .int .i64 m, .int .i64 b, .func (.func g) #[] cb] w fun e w' => e = .returned (.tuple #[]) ∧ SWK (E4 f) 4 w0 blk off (symM (ltOf cf) k a m b d) w' := by
  intro k
  induction k with
  | zero => intro a m b d w _ _ h1 h2 _ h; omega
  | succ k ih =>
    intro a m b d w hs S h1 h2 h3 h4 hsz
    by_cases c1 : m ≤ a + 1
    · exact symMergeA f cf g cb blk off cap a m b k d0 d w0 w eg hcmp R hs S h1 h2 h3 hsz c1
    · by_cases c2 : b ≤ m + 1
      · exact symMergeB f cf g cb blk off cap a m b k d0 d w0 w eg hcmp R hs S h1 h2 h3 hsz c1 c2
      · refine symMergeC f cf g cb blk off cap a m b k d0 d w0 w eg hcmp R hs S h1 h2 h3 hsz c1 c2 ?_
        intro a' m' b' d' w' hz S' x1 x2 x3 x4
        exact ih a' m' b' d' w' (by omega) S' x1 x2 x3 (by omega) (by omega)

theorem mergeAll_pos (lt : α → α → Bool) (n k s : Nat) (d : Array α) (h : s < n) : mergeAll lt n (k + 1) s d = mergeAll lt n k (2 * s) (mergePass lt s n (n + 1) 0 d) := by rw [mergeAll, if_pos h]
theorem mergeAll_neg (lt : α → α → Bool) (n k s : Nat) (d : Array α) (h : ¬ s < n) : mergeAll lt n k s d = d := by
  cases k with
  | zero => rfl
  | succ k => rw [mergeAll, if_neg h]
theorem mergePass_pos (lt : α → α → Bool) (s n k a : Nat) (d : Array α) (h : a + 2 * s ≤ n) : mergePass lt s n (k + 1) a d = mergePass lt s n k (a + 2 * s) (symM lt (2 * s) a (a + s) (a + 2 * s) d) := by rw [mergePass, if_pos h]
theorem mergePass_one (lt : α → α → Bool) (s n k a : Nat) (d : Array α) (h : ¬ a + 2 * s ≤ n) (h2 : a + s < n) : mergePass lt s n (k + 1) a d = symM lt (n - a) a (a + s) n d := by rw [mergePass, if_neg h, if_pos h2]
theorem mergePass_none (lt : α → α → Bool) (s n k a : Nat) (d : Array α) (h : ¬ a + 2 * s ≤ n) (h2 : ¬ a + s < n) : mergePass lt s n (k + 1) a d = d := by rw [mergePass, if_neg h, if_neg h2]

set_option maxHeartbeats 16000000 in
set_option maxRecDepth 1000000 in
theorem stable_s (f : α → Int × Int × Int × Int) (cf : α → α → Int) (g : Nat) (cb : Array Value) (blk off cap : Nat) (d0 : Array α) (w0 : World)
    (eg : ∀ args w, (callFunc g args).run Try.prog w = .ok (.enter g args) w) (hcmp : CmpLays Try.prog g cb (E4 f) 4 cf blk off d0.size w0) (R : RowK (E4 f) 4 w0 blk off d0) (d : Array α) (w : World) (hs : d0.size = d.size) (S : SWK (E4 f) 4 w0 blk off d w) (hsz : d.size ≤ 1000000) :
    Calls Try.prog 95 #[.slice (some ⟨blk, off, none⟩) d.size cap, .int .i64 d.size, .func (.func g) #[] cb] w fun e w' => e = .returned (.tuple #[]) ∧ SWK (E4 f) 4 w0 blk off (stable (ltOf cf) d) w' := by
  have HC := Lib.hid hcmp
  have S0 : Aside (SWK (E4 f) 4 w0 blk off d w) := S
  obtain ⟨n, hn⟩ : ∃ z, z = d.size := ⟨_, rfl⟩
  rw [← hn] at hsz ⊢
  have HN := Lib.hid hn
  clear S hcmp hn
  go_enter Try.func95, Try.ntmps95
  go_wp2
  go_loopg [7, 8] n (fun kx s t wr => ∃ (a : Nat) (dk : Array α), s = .int .i64 a ∧ t = .int .i64 (a + 20) ∧ a ≤ n ∧ n - a ≤ kx ∧ Hid (dk.size = n) ∧ Aside (SWK (E4 f) 4 w0 blk off dk wr) ∧ Hid (insBlocks (ltOf cf) n a dk = insBlocks (ltOf cf) n 0 d))
  case atStart => exact ⟨0, d, rfl, rfl, by omega, by omega, HN.out.symm, S0, rfl⟩
  case round =>
    clear S0
    obtain ⟨a, dk, rfl, rfl, han, hkx, hds, S1, HO⟩ := hrel
    by_cases hlt : a + 20 ≤ n
    · have hlt' : (a : Int) + 20 ≤ (n : Int) := by omega
      go_wp2_with fail
      have C := insertion_s f cf g cb blk off cap a (a + 20) d0 dk w0 wr eg HC.out R (by rw [hs, ← HN.out, hds.out]) S1.out (by omega) (by rw [hds.out]; exact hlt) (by rw [hds.out]; omega)
      rw [hds.out, show ((a + 20 : Nat) : Int) = (a : Int) + 20 by omega] at C
      refine C.mono ?_
      rintro e w' ⟨rfl, S2⟩
      have S3 : Aside (SWK (E4 f) 4 w0 blk off (insertionSort (ltOf cf) dk a (a + 20)) w') := S2
      clear S2 C S1
      go_wp2
      go_roundg (n - (a + 20))
      case measure => omega
      case rel => exact ⟨a + 20, _, by go_num, by go_num, by omega, by omega, (show Hid _ from by rw [size_insertionSort]; exact hds.out), S3, (show Hid _ from by rw [← HO.out, insBlocks_pos _ _ _ _ hlt]; exact rfl)⟩
    · have hlt' : ¬ (a : Int) + 20 ≤ (n : Int) := by omega
      go_wp2_with fail
      have C := insertion_s f cf g cb blk off cap a n d0 dk w0 wr eg HC.out R (by rw [hs, ← HN.out, hds.out]) S1.out (by omega) (by rw [hds.out]; exact Nat.le_refl _) (by rw [hds.out]; omega)
      rw [hds.out] at C
      refine C.mono ?_
      rintro e w' ⟨rfl, S2⟩
      have hfin : insertionSort (ltOf cf) dk a n = insBlocks (ltOf cf) n 0 d := by rw [← HO.out, insBlocks, if_neg hlt]
      have hz := size_insertionSort (ltOf cf) a n dk
      rw [hfin] at S2 hz
      obtain ⟨d1, hd1⟩ : ∃ z, z = insBlocks (ltOf cf) n 0 d := ⟨_, rfl⟩
      rw [← hd1] at S2 hz
      have S3 : Aside (SWK (E4 f) 4 w0 blk off d1 w') := S2
      have HZ : Hid (d1.size = n) := hz.trans hds.out
      have HD : Hid (mergeAll (ltOf cf) n n 20 d1 = stable (ltOf cf) d) := (show Hid _ from by unfold stable; rw [← HN.out, hd1]; exact rfl)
      clear S2 C S1 hfin hz hd1 hds HO
      go_wp2
      go_loopg [6] n (fun kx s wr => ∃ (z k : Nat) (dk : Array α), s = .int .i64 z ∧ 0 < z ∧ z ≤ 2 * n + 20 ∧ n ≤ k + z ∧ k ≤ kx ∧ Hid (dk.size = n) ∧ Aside (SWK (E4 f) 4 w0 blk off dk wr) ∧ Hid (mergeAll (ltOf cf) n k z dk = stable (ltOf cf) d))
      case atStart => exact ⟨20, n, d1, rfl, by omega, by omega, by omega, Nat.le_refl _, HZ, S3, HD⟩
      case round =>
        clear S3 HZ HD
        obtain ⟨z, k, dk, rfl, hz0, hzn, hnk, hkx, hds, S1, HO⟩ := hrel
        by_cases hlt : z < n
        · obtain ⟨k, rfl⟩ : ∃ q, k = q + 1 := ⟨k - 1, by omega⟩
          go_wp2
          go_loopg [7, 8] n (fun kx s t wr => ∃ (a fk : Nat) (dj : Array α), s = .int .i64 a ∧ t = .int .i64 (a + 2 * z) ∧ a ≤ n ∧ n + 1 ≤ fk + a ∧ n - a ≤ kx ∧ Hid (dj.size = n) ∧ Aside (SWK (E4 f) 4 w0 blk off dj wr) ∧ Hid (mergePass (ltOf cf) z n fk a dj = mergePass (ltOf cf) z n (n + 1) 0 dk))
          case atStart => exact ⟨0, n + 1, dk, rfl, by go_num, by omega, by omega, by omega, hds, S1, rfl⟩
          case round =>
            clear S1
            have HDK := hds
            clear hds
            obtain ⟨a, fk, dj, rfl, rfl, han, hfk, hka, hds, S1, HI⟩ := hrel
            obtain ⟨fk, rfl⟩ : ∃ q, fk = q + 1 := ⟨fk - 1, by omega⟩
            by_cases hl2 : a + 2 * z ≤ n
            · have hl2' : (a : Int) + 2 * (z : Int) ≤ (n : Int) := by omega
              go_wp2_with fail
              have C := symMerge_s f cf g cb blk off cap d0 w0 eg HC.out R (2 * z) a (a + z) (a + 2 * z) dj wr (by rw [hs, ← HN.out, hds.out]) S1.out (by omega) (by omega) (by rw [hds.out]; exact hl2) (by omega) (by rw [hds.out]; omega)
              rw [hds.out, show ((a + z : Nat) : Int) = (a : Int) + z by omega, show ((a + 2 * z : Nat) : Int) = (a : Int) + 2 * z by omega] at C
              refine C.mono ?_
              rintro e w' ⟨rfl, S2⟩
              have S3 : Aside (SWK (E4 f) 4 w0 blk off (symM (ltOf cf) (2 * z) a (a + z) (a + 2 * z) dj) w') := S2
              clear S2 C S1
              go_wp2
              go_roundg (n - (a + 2 * z))
              case measure => omega
              case rel => exact ⟨a + 2 * z, fk, _, by go_num, by go_num, by omega, by omega, by omega, (show Hid _ from by rw [size_symM _ _ _ _ _ _ (by omega) (by omega) (by rw [hds.out]; exact hl2)]; exact hds.out), S3, (show Hid _ from by rw [← HI.out, mergePass_pos _ _ _ _ _ _ hl2]; exact rfl)⟩
            · have hl2' : ¬ (a : Int) + 2 * (z : Int) ≤ (n : Int) := by omega
              by_cases hl3 : a + z < n
              · have hl3' : (a : Int) + (z : Int) < (n : Int) := by omega
                go_wp2_with fail
                have C := symMerge_s f cf g cb blk off cap d0 w0 eg HC.out R (n - a) a (a + z) n dj wr (by rw [hs, ← HN.out, hds.out]) S1.out (by omega) (by omega) (by rw [hds.out]; exact Nat.le_refl _) (Nat.le_refl _) (by rw [hds.out]; omega)
                rw [hds.out, show ((a + z : Nat) : Int) = (a : Int) + z by omega] at C
                refine C.mono ?_
                rintro e w' ⟨rfl, S2⟩
                have S3 : Aside (SWK (E4 f) 4 w0 blk off (symM (ltOf cf) (n - a) a (a + z) n dj) w') := S2
                clear S2 C S1
                go_wp2
                go_roundg k
                case measure => omega
                case rel => exact ⟨2 * z, k, _, by go_num, by omega, by omega, by omega, Nat.le_refl _, (show Hid _ from by rw [size_symM _ _ _ _ _ _ (by omega) (by omega) (by rw [hds.out]; exact Nat.le_refl _)]; exact hds.out), S3, (show Hid _ from by rw [← HO.out, mergeAll_pos _ _ _ _ _ hlt, ← HI.out, mergePass_one _ _ _ _ _ _ hl2 hl3]; exact rfl)⟩
              · have hl3' : ¬ (a : Int) + (z : Int) < (n : Int) := by omega
                go_wp2
                go_roundg k
                case measure => omega
                case rel => exact ⟨2 * z, k, dj, by go_num, by omega, by omega, by omega, Nat.le_refl _, hds, S1, (show Hid _ from by rw [← HO.out, mergeAll_pos _ _ _ _ _ hlt, ← HI.out, mergePass_none _ _ _ _ _ _ hl2 hl3]; exact rfl)⟩
        · go_wp2
          go_end0
          refine ⟨rfl, ?_⟩
          rw [← HO.out, mergeAll_neg _ _ _ _ _ hlt]
          exact S1.out

set_option maxHeartbeats 4000000 in
/-- slices.SortStableFunc at []int: the row holds the stable sorted list. -/
theorem sortStable_s (f : α → Int × Int × Int × Int) (cf : α → α → Int) (g : Nat) (cb : Array Value) (blk off cap : Nat) (d0 : Array α) (w0 : World)
    (eg : ∀ args w, (callFunc g args).run Try.prog w = .ok (.enter g args) w) (hcmp : CmpLays Try.prog g cb (E4 f) 4 cf blk off d0.size w0) (R : RowK (E4 f) 4 w0 blk off d0) (n : Nat) (w : World) (hn : d0.size = n) (S : SWK (E4 f) 4 w0 blk off d0 w) (hsz : n ≤ 1000000) :
    Calls Try.prog 82 #[.slice (some ⟨blk, off, none⟩) n cap, .func (.func g) #[] cb] w fun e w' => e = .returned (.tuple #[]) ∧ SWK (E4 f) 4 w0 blk off (stable (ltOf cf) d0) w' := by
  subst hn
  have C := stable_s f cf g cb blk off cap d0 w0 eg hcmp R d0 w rfl S hsz
  have HC := Lib.hid C
  clear C S hcmp
  go_enter Try.func82, Try.ntmps82
  go_wp2_with fail
  refine HC.out.mono ?_
  rintro e w' ⟨rfl, S2⟩
  have S3 := Lib.hid S2
  clear S2 HC
  go_wp2
  go_end0
  exact ⟨rfl, S3.out⟩
end Go.Proofs.Ytnldnaogbadajaa.Kw
