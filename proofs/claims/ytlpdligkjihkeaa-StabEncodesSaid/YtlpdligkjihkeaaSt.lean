/- The plain side of Go's stable sort (insertion sort of blocks, symMerge, rotate): it gives the stable sorted list. No program in this text. -/
import Derived.Sort.LotA
namespace Go.Proofs.Ytlpdligkjihkeaa.St
open Go.Sort
variable {α : Type} [Inhabited α]

/-! ### Segments -/
def seg (d : Array α) (a b : Nat) : List α := (List.range' a (b - a)).map fun i => d[i]!
theorem seg_length (d : Array α) (a b : Nat) : (seg d a b).length = b - a := by simp [seg]
theorem seg_nil (d : Array α) (a b : Nat) (h : b ≤ a) : seg d a b = [] := by simp [seg, show b - a = 0 by omega]
theorem seg_cons (d : Array α) (a b : Nat) (h : a < b) : seg d a b = d[a]! :: seg d (a + 1) b := by
  unfold seg
  rw [show b - a = (b - (a + 1)) + 1 by omega, List.range'_succ]
  rfl
theorem seg_append (d : Array α) (a b c : Nat) (h1 : a ≤ b) (h2 : b ≤ c) : seg d a c = seg d a b ++ seg d b c := by
  unfold seg
  rw [← List.map_append]
  congr 1
  have := List.range'_append (s := a) (m := b - a) (n := c - b) (step := 1)
  rw [show a + 1 * (b - a) = b by omega, show b - a + (c - b) = c - a by omega] at this
  exact this.symm
theorem seg_get (d : Array α) (a b k : Nat) (h : k < b - a) : (seg d a b)[k]? = some d[a + k]! := by
  unfold seg
  rw [List.getElem?_map, List.getElem?_range' (by omega)]
  simp
theorem seg_eq (d d' : Array α) (a b a' b' : Nat) (hl : b - a = b' - a') (h : ∀ k, k < b - a → d[a + k]! = d'[a' + k]!) : seg d a b = seg d' a' b' := by
  refine List.ext_getElem? fun k => ?_
  by_cases hk : k < b - a
  · rw [seg_get d a b k hk, seg_get d' a' b' k (by omega), h k hk]
  · rw [List.getElem?_eq_none (by rw [seg_length]; omega), List.getElem?_eq_none (by rw [seg_length]; omega)]
theorem seg_mem (d : Array α) (a b : Nat) (x : α) : x ∈ seg d a b ↔ ∃ i, a ≤ i ∧ i < b ∧ d[i]! = x := by
  unfold seg
  simp only [List.mem_map, List.mem_range'_1]
  constructor
  · rintro ⟨i, ⟨h1, h2⟩, h⟩; exact ⟨i, h1, by omega, h⟩
  · rintro ⟨i, h1, h2, h⟩; exact ⟨i, ⟨h1, by omega⟩, h⟩
theorem seg_whole (d : Array α) : seg d 0 d.size = d.toList := by
  rw [seg, ← extract_toList d 0 d.size (Nat.le_refl _), Array.extract_size]

/-- d' is d, but for the places from a to b. -/
structure Out (a b : Nat) (d d' : Array α) : Prop where
  size : d'.size = d.size
  out : ∀ i, i < a ∨ b ≤ i → d'[i]! = d[i]!
theorem Out.refl (a b : Nat) (d : Array α) : Out a b d d := ⟨rfl, fun _ _ => rfl⟩
theorem Out.trans {a b : Nat} {d d' d'' : Array α} (h : Out a b d d') (k : Out a b d' d'') : Out a b d d'' := ⟨k.size.trans h.size, fun i hi => (k.out i hi).trans (h.out i hi)⟩
theorem Out.mono {a b a' b' : Nat} {d d' : Array α} (h : Out a b d d') (h1 : a' ≤ a) (h2 : b ≤ b') : Out a' b' d d' := ⟨h.size, fun i hi => h.out i (by omega)⟩
theorem Out.seg {a b : Nat} {d d' : Array α} (h : Out a b d d') (x y : Nat) (hxy : y ≤ a ∨ b ≤ x) : seg d' x y = seg d x y :=
  seg_eq _ _ _ _ _ _ rfl fun k hk => h.out _ (by omega)
theorem out_swp (d : Array α) (i j a b : Nat) (hi : a ≤ i ∧ i < b) (hj : a ≤ j ∧ j < b) : Out a b d (swp d i j) :=
  ⟨size_swp _ _ _, fun k hk => swp_other _ _ _ _ (by omega) (by omega)⟩

/-! ### The loops -/
/-- for i < j { h := (i+j)/2; if p(h) { i = h+1 } else { j = h } }: what i is at the end. -/
def bs (p : Nat → Bool) (i j : Nat) : Nat :=
  if i < j then (if p ((i + j) / 2) then bs p ((i + j) / 2 + 1) j else bs p i ((i + j) / 2)) else i
termination_by j - i
theorem bs_spec (p : Nat → Bool) (i0 j0 : Nat) : ∀ (k i j : Nat), j - i ≤ k → i0 ≤ i → i ≤ j → j ≤ j0 → (i = i0 ∨ p (i - 1) = true) → (j = j0 ∨ p j = false) →
    i ≤ bs p i j ∧ bs p i j ≤ j ∧ (bs p i j = i0 ∨ p (bs p i j - 1) = true) ∧ (bs p i j = j0 ∨ p (bs p i j) = false) := by
  intro k
  induction k with
  | zero =>
    intro i j hk _ hij _ h1 h2
    have : i = j := by omega
    subst this
    rw [bs, if_neg (by omega)]
    exact ⟨Nat.le_refl _, Nat.le_refl _, h1, h2⟩
  | succ k ih =>
    intro i j hk h0 hij hj h1 h2
    by_cases hlt : i < j
    · rw [bs, if_pos hlt]
      cases hp : p ((i + j) / 2) with
      | true =>
        rw [if_pos rfl]
        obtain ⟨a, b, c⟩ := ih ((i + j) / 2 + 1) j (by omega) (by omega) (by omega) hj (.inr (by simpa using hp)) h2
        exact ⟨by omega, b, c⟩
      | false =>
        rw [if_neg (by simp)]
        obtain ⟨a, b, c⟩ := ih i ((i + j) / 2) (by omega) h0 (by omega) (by omega) h1 (.inr hp)
        exact ⟨a, by omega, c⟩
    · rw [bs, if_neg hlt]
      have : i = j := by omega
      subst this
      exact ⟨Nat.le_refl _, Nat.le_refl _, h1, h2⟩
theorem bs_stop (p : Nat → Bool) (i j : Nat) (h : ¬ i < j) : bs p i j = i := by rw [bs, if_neg h]
theorem bs_up (p : Nat → Bool) (i j : Nat) (h : i < j) (hp : p ((i + j) / 2) = true) : bs p i j = bs p ((i + j) / 2 + 1) j := by rw [bs, if_pos h, if_pos hp]
theorem bs_dn (p : Nat → Bool) (i j : Nat) (h : i < j) (hp : p ((i + j) / 2) = false) : bs p i j = bs p i ((i + j) / 2) := by rw [bs, if_pos h, if_neg (by simp [hp])]
theorem bs_congr (p q : Nat → Bool) : ∀ (k i j : Nat), j - i ≤ k → (∀ h, i ≤ h → h < j → p h = q h) → bs p i j = bs q i j := by
  intro k
  induction k with
  | zero => intro i j hk _; rw [bs_stop p _ _ (by omega), bs_stop q _ _ (by omega)]
  | succ k ih =>
    intro i j hk h
    by_cases hlt : i < j
    · have e := h ((i + j) / 2) (by omega) (by omega)
      cases hq : q ((i + j) / 2) with
      | true => rw [bs_up p _ _ hlt (e.trans hq), bs_up q _ _ hlt hq]; exact ih _ _ (by omega) fun x h1 h2 => h x (by omega) h2
      | false => rw [bs_dn p _ _ hlt (e.trans hq), bs_dn q _ _ hlt hq]; exact ih _ _ (by omega) fun x h1 h2 => h x h1 (by omega)
    · rw [bs_stop p _ _ hlt, bs_stop q _ _ hlt]

/-- for ; k < e; k++ { swap k, k+1 } -/
def shiftR (k e : Nat) (d : Array α) : Array α := if k < e then shiftR (k + 1) e (swp d k (k + 1)) else d
termination_by e - k
/-- for ; k > i; k-- { swap k, k-1 } -/
def shiftL (i : Nat) : Nat → Array α → Array α
  | 0, d => d
  | k + 1, d => if k + 1 > i then shiftL i k (swp d (k + 1) k) else d

theorem shiftR_spec (e : Nat) : ∀ (n k : Nat) (d : Array α), e - k ≤ n → k ≤ e → e < d.size →
    Out k (e + 1) d (shiftR k e d) ∧ seg (shiftR k e d) k (e + 1) = seg d (k + 1) (e + 1) ++ [d[k]!] := by
  intro n
  induction n with
  | zero =>
    intro k d h1 h2 h3
    rw [shiftR, if_neg (by omega)]
    have : k = e := by omega
    subst this
    exact ⟨Out.refl _ _ _, by rw [seg_cons _ _ _ (by omega), seg_nil _ _ _ (by omega)]; rfl⟩
  | succ n ih =>
    intro k d h1 h2 h3
    by_cases h : k < e
    · rw [shiftR, if_pos h]
      obtain ⟨o, s⟩ := ih (k + 1) (swp d k (k + 1)) (by omega) (by omega) (by rw [size_swp]; exact h3)
      have o2 := o.mono (a' := k) (b' := e + 1) (by omega) (by omega)
      refine ⟨(out_swp d k (k + 1) k (e + 1) (by omega) (by omega)).trans o2, ?_⟩
      rw [seg_cons _ _ _ (by omega), s, o.out k (by omega), swp_left _ _ _ (by omega) (by omega), swp_right _ _ _ (by omega), seg_cons d (k + 1) _ (by omega), List.cons_append]
      congr 2
      exact seg_eq _ _ _ _ _ _ rfl fun i hi => swp_other _ _ _ _ (by omega) (by omega)
    · rw [shiftR, if_neg h]
      have : k = e := by omega
      subst this
      exact ⟨Out.refl _ _ _, by rw [seg_cons _ _ _ (by omega), seg_nil _ _ _ (by omega)]; rfl⟩

theorem shiftL_spec (i : Nat) : ∀ (k : Nat) (d : Array α), i ≤ k → k < d.size →
    Out i (k + 1) d (shiftL i k d) ∧ seg (shiftL i k d) i (k + 1) = d[k]! :: seg d i k := by
  intro k
  induction k with
  | zero =>
    intro d h1 h2
    have : i = 0 := by omega
    subst this
    exact ⟨Out.refl _ _ _, by rw [shiftL, seg_cons _ _ _ (by omega), seg_nil _ _ _ (by omega), seg_nil _ _ _ (by omega)]⟩
  | succ k ih =>
    intro d h1 h2
    by_cases h : k + 1 > i
    · rw [shiftL, if_pos h]
      obtain ⟨o, s⟩ := ih (swp d (k + 1) k) (by omega) (by rw [size_swp]; omega)
      refine ⟨(out_swp d (k + 1) k i (k + 1 + 1) (by omega) (by omega)).trans (o.mono (by omega) (by omega)), ?_⟩
      rw [seg_append _ i (k + 1) (k + 1 + 1) (by omega) (by omega), s, swp_right _ _ _ (by omega), seg_cons _ (k + 1) _ (by omega), seg_nil _ (k + 1 + 1) _ (by omega), o.out (k + 1) (by omega),
        swp_left _ _ _ (by omega) (by omega), seg_append d i k (k + 1) (by omega) (by omega), seg_cons d k _ (by omega), seg_nil d (k + 1) _ (by omega), List.cons_append]
      congr 2
      exact seg_eq _ _ _ _ _ _ rfl fun j hj => swp_other _ _ _ _ (by omega) (by omega)
    · rw [shiftL, if_neg h]
      have : i = k + 1 := by omega
      subst this
      exact ⟨Out.refl _ _ _, by rw [seg_cons _ _ _ (by omega), seg_nil _ _ _ (by omega), seg_nil _ _ _ (by omega)]⟩

/-- for ; i < n; i++ { swap a+i, b+i } -/
def swapR (a b n i : Nat) (d : Array α) : Array α := if i < n then swapR a b n (i + 1) (swp d (a + i) (b + i)) else d
termination_by n - i
theorem swapR_spec (a b n : Nat) (hab : a + n ≤ b) : ∀ (k i : Nat) (d : Array α), n - i ≤ k → i ≤ n → b + n ≤ d.size →
    (swapR a b n i d).size = d.size ∧ ∀ j, (swapR a b n i d)[j]! = if a + i ≤ j ∧ j < a + n then d[j - a + b]! else if b + i ≤ j ∧ j < b + n then d[j - b + a]! else d[j]! := by
  intro k
  induction k with
  | zero =>
    intro i d h1 h2 h3
    rw [swapR, if_neg (by omega)]
    exact ⟨rfl, fun j => by rw [if_neg (by omega), if_neg (by omega)]⟩
  | succ k ih =>
    intro i d h1 h2 h3
    by_cases h : i < n
    · rw [swapR, if_pos h]
      obtain ⟨z, g⟩ := ih (i + 1) (swp d (a + i) (b + i)) (by omega) (by omega) (by rw [size_swp]; exact h3)
      refine ⟨by rw [z, size_swp], fun j => ?_⟩
      rw [g j]
      by_cases e1 : j = a + i
      · subst e1
        rw [if_neg (by omega), if_neg (by omega), if_pos (by omega), swp_left _ _ _ (by omega) (by omega)]
        congr 1; omega
      · by_cases e2 : j = b + i
        · subst e2
          rw [if_neg (by omega), if_neg (by omega), if_neg (by omega), if_pos (by omega), swp_right _ _ _ (by omega)]
          congr 1; omega
        · by_cases e3 : a + i ≤ j ∧ j < a + n
          · rw [if_pos (by omega), if_pos e3, swp_other _ _ _ _ (by omega) (by omega)]
          · rw [if_neg (by omega), if_neg e3]
            by_cases e4 : b + i ≤ j ∧ j < b + n
            · rw [if_pos (by omega), if_pos e4, swp_other _ _ _ _ (by omega) (by omega)]
            · rw [if_neg (by omega), if_neg e4, swp_other _ _ _ _ (by omega) (by omega)]
    · rw [swapR, if_neg h]
      exact ⟨rfl, fun j => by rw [if_neg (by omega), if_neg (by omega)]⟩

/-- for i != j { if i > j { swap(m-i, m, j); i -= j } else { swap(m-i, m+j-i, i); j -= i } }; swap(m-i, m, i): k rounds at most. -/
def rotL (m : Nat) : Nat → Nat → Nat → Array α → Array α
  | 0, _, _, d => d
  | k + 1, i, j, d => if i = j then swapR (m - i) m i 0 d else if i > j then rotL m k (i - j) j (swapR (m - i) m j 0 d) else rotL m k i (j - i) (swapR (m - i) (m + j - i) i 0 d)
def rotate (a m b : Nat) (d : Array α) : Array α := rotL m (b - a) (m - a) (b - m) d

theorem rotL_spec (m : Nat) : ∀ (k i j : Nat) (d : Array α), i + j ≤ k → 0 < i → 0 < j → i ≤ m → m + j ≤ d.size →
    Out (m - i) (m + j) d (rotL m k i j d) ∧ seg (rotL m k i j d) (m - i) (m + j) = seg d m (m + j) ++ seg d (m - i) m := by
  intro k
  induction k with
  | zero => intro i j d h; omega
  | succ k ih =>
    intro i j d h hi hj him hsz
    unfold rotL
    by_cases e : i = j
    · subst e
      rw [if_pos rfl]
      obtain ⟨z, g⟩ := swapR_spec (m - i) m i (by omega) i 0 d (by omega) (by omega) (by omega)
      refine ⟨⟨z, fun x hx => by rw [g x, if_neg (by omega), if_neg (by omega)]⟩, ?_⟩
      rw [seg_append _ (m - i) m (m + i) (by omega) (by omega)]
      congr 1
      · exact seg_eq _ _ _ _ _ _ (by omega) fun x hx => by rw [g, if_pos (by omega)]; congr 1; omega
      · exact seg_eq _ _ _ _ _ _ (by omega) fun x hx => by rw [g, if_neg (by omega), if_pos (by omega)]; congr 1; omega
    · rw [if_neg e]
      by_cases hgt : i > j
      · rw [if_pos hgt]
        obtain ⟨z, g⟩ := swapR_spec (m - i) m j (by omega) j 0 d (by omega) (by omega) (by omega)
        generalize hd1 : swapR (m - i) m j 0 d = d1 at z g
        obtain ⟨o, s⟩ := ih (i - j) j d1 (by omega) (by omega) hj (by omega) (by omega)
        refine ⟨Out.trans ⟨z, fun x hx => by rw [g x, if_neg (by omega), if_neg (by omega)]⟩ (o.mono (by omega) (by omega)), ?_⟩
        rw [seg_append _ (m - i) (m - (i - j)) (m + j) (by omega) (by omega), s, seg_append d (m - i) (m - i + j) m (by omega) (by omega), ← List.append_assoc, ← List.append_assoc]
        congr 1
        · congr 1
          · exact seg_eq _ _ _ _ _ _ (by omega) fun x hx => by rw [o.out _ (by omega), g, if_pos (by omega)]; congr 1; omega
          · exact seg_eq _ _ _ _ _ _ (by omega) fun x hx => by rw [g, if_neg (by omega), if_pos (by omega)]; congr 1; omega
        · exact seg_eq _ _ _ _ _ _ (by omega) fun x hx => by rw [g, if_neg (by omega), if_neg (by omega)]; congr 1; omega
      · rw [if_neg hgt]
        obtain ⟨z, g⟩ := swapR_spec (m - i) (m + j - i) i (by omega) i 0 d (by omega) (by omega) (by omega)
        generalize hd1 : swapR (m - i) (m + j - i) i 0 d = d1 at z g
        obtain ⟨o, s⟩ := ih i (j - i) d1 (by omega) hi (by omega) him (by omega)
        refine ⟨Out.trans ⟨z, fun x hx => by rw [g x, if_neg (by omega), if_neg (by omega)]⟩ (o.mono (by omega) (by omega)), ?_⟩
        rw [show m + j = m + (j - i) + i by omega, seg_append _ (m - i) (m + (j - i)) _ (by omega) (by omega), s, seg_append d m (m + (j - i)) _ (by omega) (by omega), List.append_assoc, List.append_assoc]
        congr 1
        · exact seg_eq _ _ _ _ _ _ (by omega) fun x hx => by rw [g, if_neg (by omega), if_neg (by omega)]
        · congr 1
          · exact seg_eq _ _ _ _ _ _ (by omega) fun x hx => by rw [g, if_pos (by omega)]; congr 1; omega
          · exact seg_eq _ _ _ _ _ _ (by omega) fun x hx => by rw [o.out _ (by omega), g, if_neg (by omega), if_pos (by omega)]; congr 1; omega

theorem rotate_spec (a m b : Nat) (d : Array α) (h1 : a < m) (h2 : m < b) (h3 : b ≤ d.size) :
    Out a b d (rotate a m b d) ∧ seg (rotate a m b d) a b = seg d m b ++ seg d a m := by
  have := rotL_spec m (b - a) (m - a) (b - m) d (by omega) (by omega) (by omega) (by omega) (by omega)
  rw [show m - (m - a) = a by omega, show m + (b - m) = b by omega] at this
  exact this

/-! ### symMerge -/
section
variable (lt : α → α → Bool)
/-- symMerge on [a, m) and [m, b); 'k' bounds how deep it calls itself. -/
def symM : Nat → Nat → Nat → Nat → Array α → Array α
  | 0, _, _, _, d => d
  | k + 1, a, m, b, d =>
    if m - a = 1 then shiftR a (bs (fun h => lt d[h]! d[a]!) m b - 1) d else
    if b - m = 1 then shiftL (bs (fun h => !lt d[m]! d[h]!) a m) m d else
    let mid := (a + b) / 2
    let n := mid + m
    let start := bs (fun c => !lt d[n - 1 - c]! d[c]!) (if m > mid then n - b else a) (if m > mid then mid else m)
    let d1 := if start < m ∧ m < n - start then rotate start m (n - start) d else d
    let d2 := if a < start ∧ start < mid then symM k a start mid d1 else d1
    if mid < n - start ∧ n - start < b then symM k mid (n - start) b d2 else d2
/-- for b <= n { insertionSort(a, b); a = b; b += 20 }; insertionSort(a, n) -/
def insBlocks (n a : Nat) (d : Array α) : Array α := if a + 20 ≤ n then insBlocks n (a + 20) (insertionSort lt d a (a + 20)) else insertionSort lt d a n
termination_by n - a
/-- One round of merges, blocks of size s: from a on; k rounds at most. -/
def mergePass (s n : Nat) : Nat → Nat → Array α → Array α
  | 0, _, d => d
  | k + 1, a, d => if a + 2 * s ≤ n then mergePass s n k (a + 2 * s) (symM lt (2 * s) a (a + s) (a + 2 * s) d) else if a + s < n then symM lt (n - a) a (a + s) n d else d
def mergeAll (n : Nat) : Nat → Nat → Array α → Array α
  | 0, _, d => d
  | k + 1, s, d => if s < n then mergeAll n k (2 * s) (mergePass lt s n (n + 1) 0 d) else d
def stable (d : Array α) : Array α := mergeAll lt d.size d.size 20 (insBlocks lt d.size 0 d)
end

def Asc (lt : α → α → Bool) (l : List α) : Prop := l.Pairwise fun x y => lt y x = false
omit [Inhabited α] in
theorem asc_append {lt : α → α → Bool} {l l' : List α} : Asc lt (l ++ l') ↔ Asc lt l ∧ Asc lt l' ∧ ∀ x ∈ l, ∀ y ∈ l', lt y x = false := List.pairwise_append
omit [Inhabited α] in
theorem asc_cons {lt : α → α → Bool} {x : α} {l : List α} : Asc lt (x :: l) ↔ (∀ y ∈ l, lt y x = false) ∧ Asc lt l := List.pairwise_cons
theorem asc_seg {lt : α → α → Bool} {d : Array α} {a b : Nat} : Asc lt (seg d a b) ↔ SortedIn lt a b d := by
  unfold Asc SortedIn
  rw [List.pairwise_iff_getElem]
  simp only [seg_length]
  constructor
  · intro h i j h1 h2 h3
    have := h (i - a) (j - a) (by omega) (by omega) (by omega)
    have e1 := seg_get d a b (i - a) (by omega)
    have e2 := seg_get d a b (j - a) (by omega)
    rw [List.getElem?_eq_getElem (by rw [seg_length]; omega)] at e1 e2
    rw [Option.some.inj e1, Option.some.inj e2, show a + (i - a) = i by omega, show a + (j - a) = j by omega] at this
    exact this
  · intro h i j hi hj hij
    have e1 := seg_get d a b i hi
    have e2 := seg_get d a b j hj
    rw [List.getElem?_eq_getElem (by rw [seg_length]; omega)] at e1 e2
    rw [Option.some.inj e1, Option.some.inj e2]
    exact h _ _ (by omega) (by omega) (by omega)
theorem sin_sub {lt : α → α → Bool} {d : Array α} {a b a' b' : Nat} (h : SortedIn lt a b d) (h1 : a ≤ a') (h2 : b' ≤ b) : SortedIn lt a' b' d := fun i j x y z => h i j (by omega) y (by omega)
theorem sin_le {lt : α → α → Bool} (hS : SWO lt) {d : Array α} {a b : Nat} (h : SortedIn lt a b d) {i j : Nat} (h1 : a ≤ i) (h2 : i ≤ j) (h3 : j < b) : lt d[j]! d[i]! = false := by
  by_cases e : i = j
  · subst e; exact hS.irrefl _
  · exact h i j h1 (by omega) h3
theorem sorted_join {lt : α → α → Bool} {d : Array α} {a m b : Nat} (h1 : SortedIn lt a m d) (h2 : SortedIn lt m b d) (h3 : ∀ i j, a ≤ i → i < m → m ≤ j → j < b → lt d[j]! d[i]! = false) : SortedIn lt a b d := by
  intro i j x y z
  by_cases hj : j < m
  · exact h1 i j x y hj
  · by_cases hi : i < m
    · exact h3 i j x hi (by omega) z
    · exact h2 i j (by omega) y z

/-- What a merge leaves. -/
structure Merged (lt : α → α → Bool) (a b : Nat) (d d' : Array α) : Prop where
  out : Out a b d d'
  perm : (seg d' a b).Perm (seg d a b)
  asc : SortedIn lt a b d'

theorem perm_cases {α : Type} {l l' : List α} (h : l'.Perm l) {p : α → Prop} (hp : ∀ x ∈ l, p x) : ∀ x ∈ l', p x := fun x hx => hp x (h.mem_iff.1 hx)

theorem symM_spec {lt : α → α → Bool} (hS : SWO lt) : ∀ (k a m b : Nat) (d : Array α), b - a ≤ k → a < m → m < b → b ≤ d.size → SortedIn lt a m d → SortedIn lt m b d → Merged lt a b d (symM lt k a m b d) := by
  intro k
  induction k with
  | zero => intro a m b d h; omega
  | succ k ih =>
    intro a m b d hk ham hmb hsz hl hr
    unfold symM
    by_cases e1 : m - a = 1
    · rw [if_pos e1]
      obtain ⟨g1, g2, g3, g4⟩ := bs_spec (fun h => lt d[h]! d[a]!) m b (b - m) m b (by omega) (by omega) (by omega) (by omega) (.inl rfl) (.inl rfl)
      generalize bs (fun h => lt d[h]! d[a]!) m b = r at g1 g2 g3 g4 ⊢
      obtain ⟨o, s⟩ := shiftR_spec (r - 1) (r - 1 - a) a d (by omega) (by omega) (by omega)
      rw [show r - 1 + 1 = r by omega] at o s
      have hd : seg d a b = d[a]! :: (seg d (a + 1) r ++ seg d r b) := by rw [seg_cons _ _ _ (by omega), seg_append d (a + 1) r b (by omega) (by omega)]
      have hd' : seg (shiftR a (r - 1) d) a b = seg d (a + 1) r ++ [d[a]!] ++ seg d r b := by rw [seg_append _ a r b (by omega) (by omega), s, o.seg _ _ (by omega)]
      refine ⟨o.mono (by omega) (by omega), ?_, ?_⟩
      · rw [hd, hd', List.append_assoc]
        exact List.perm_middle
      · rw [← asc_seg, hd', asc_append, asc_append]
        have hm : m = a + 1 := by omega
        subst hm
        have lo : ∀ x ∈ seg d (a + 1) r, lt x d[a]! = true := by
          intro x hx
          rw [seg_mem] at hx
          obtain ⟨i, hi1, hi2, rfl⟩ := hx
          rcases g3 with g3 | g3
          · omega
          · cases hc : lt d[i]! d[a]! with
            | true => rfl
            | false =>
              have := hS.ntrans _ _ _ (sin_le hS hr hi1 (show i ≤ r - 1 by omega) (by omega)) hc
              exact absurd g3 (by simp [this])
        have hi : ∀ x ∈ seg d r b, lt x d[a]! = false := by
          intro x hx
          rw [seg_mem] at hx
          obtain ⟨i, hi1, hi2, rfl⟩ := hx
          rcases g4 with g4 | g4
          · omega
          · exact hS.ntrans _ _ _ (sin_le hS hr (by omega) hi1 hi2) g4
        refine ⟨⟨asc_seg.2 (sin_sub hr (by omega) (by omega)), by simp [Asc], fun x hx y hy => ?_⟩, asc_seg.2 (sin_sub hr (by omega) (by omega)), fun x hx y hy => ?_⟩
        · rw [List.mem_singleton] at hy
          subst hy
          exact hS.asymmA (lo x hx)
        · rcases List.mem_append.1 hx with hx | hx
          · rw [seg_mem] at hx hy
            obtain ⟨i, h1, h2, rfl⟩ := hx
            obtain ⟨j, h3, h4, rfl⟩ := hy
            exact hr i j h1 (by omega) h4
          · rw [List.mem_singleton] at hx
            subst hx
            exact hi y hy
    rw [if_neg e1]
    by_cases e2 : b - m = 1
    · rw [if_pos e2]
      obtain ⟨g1, g2, g3, g4⟩ := bs_spec (fun h => !lt d[m]! d[h]!) a m (m - a) a m (by omega) (by omega) (by omega) (by omega) (.inl rfl) (.inl rfl)
      generalize bs (fun h => !lt d[m]! d[h]!) a m = r at g1 g2 g3 g4 ⊢
      simp only [Bool.not_eq_true', Bool.not_eq_false'] at g3 g4
      obtain ⟨o, s⟩ := shiftL_spec r m d g2 (by omega)
      have hb : b = m + 1 := by omega
      subst hb
      have hd : seg d a (m + 1) = seg d a r ++ (seg d r m ++ [d[m]!]) := by
        rw [seg_append d a m (m + 1) (by omega) (by omega), seg_append d a r m (by omega) (by omega), seg_cons d m _ (by omega), seg_nil d (m + 1) _ (by omega), List.append_assoc]
      have hd' : seg (shiftL r m d) a (m + 1) = seg d a r ++ (d[m]! :: seg d r m) := by rw [seg_append _ a r _ (by omega) (by omega), s, o.seg _ _ (by omega)]
      refine ⟨o.mono (by omega) (by omega), ?_, ?_⟩
      · rw [hd, hd']
        exact List.Perm.append_left _ (List.perm_append_singleton _ _).symm
      · rw [← asc_seg, hd', asc_append, asc_cons]
        have lo : ∀ x ∈ seg d a r, lt d[m]! x = false := by
          intro x hx
          rw [seg_mem] at hx
          obtain ⟨i, h1, h2, rfl⟩ := hx
          rcases g3 with g3 | g3
          · omega
          · exact hS.ntrans _ _ _ g3 (sin_le hS hl h1 (show i ≤ r - 1 by omega) (by omega))
        have hi : ∀ x ∈ seg d r m, lt d[m]! x = true := by
          intro x hx
          rw [seg_mem] at hx
          obtain ⟨i, h1, h2, rfl⟩ := hx
          rcases g4 with g4 | g4
          · omega
          · cases hc : lt d[m]! d[i]! with
            | true => rfl
            | false => exact absurd g4 (by simp [hS.ntrans _ _ _ hc (sin_le hS hl (by omega) h1 h2)])
        refine ⟨asc_seg.2 (sin_sub hl (by omega) (by omega)), ⟨fun y hy => hS.asymmA (hi y hy), asc_seg.2 (sin_sub hl (by omega) (by omega))⟩, fun x hx y hy => ?_⟩
        rcases List.mem_cons.1 hy with rfl | hy
        · exact lo x hx
        · rw [seg_mem] at hx hy
          obtain ⟨i, h1, h2, rfl⟩ := hx
          obtain ⟨j, h3, h4, rfl⟩ := hy
          exact hl i j h1 (by omega) h4
    rw [if_neg e2]
    simp only
    generalize hmid : (a + b) / 2 = mid
    obtain ⟨g1, g2, g3, g4⟩ := bs_spec (fun c => !lt d[mid + m - 1 - c]! d[c]!) (if m > mid then mid + m - b else a) (if m > mid then mid else m) b (if m > mid then mid + m - b else a) (if m > mid then mid else m)
      (by split <;> omega) (Nat.le_refl _) (by split <;> omega) (Nat.le_refl _) (.inl rfl) (.inl rfl)
    generalize bs (fun c => !lt d[mid + m - 1 - c]! d[c]!) (if m > mid then mid + m - b else a) (if m > mid then mid else m) = st at g1 g2 g3 g4 ⊢
    simp only [Bool.not_eq_true', Bool.not_eq_false'] at g3 g4
    have hst : a ≤ st ∧ st ≤ m ∧ st ≤ mid ∧ mid + m - st ≤ b ∧ m ≤ mid + m - st := by split at g1 <;> split at g2 <;> omega
    obtain ⟨h1, h2, h3, h4, h5⟩ := hst
    generalize hen : mid + m - st = en at h4 h5 ⊢
    have hL1 : ∀ x ∈ seg d a st, ∀ y ∈ seg d en b, lt y x = false := by
      intro x hx y hy
      rw [seg_mem] at hx hy
      obtain ⟨i, i1, i2, rfl⟩ := hx
      obtain ⟨j, j1, j2, rfl⟩ := hy
      rcases g3 with g3 | g3
      · split at g3 <;> omega
      · rw [show mid + m - 1 - (st - 1) = en by omega] at g3
        exact hS.ntrans _ _ _ (sin_le hS hr (by omega) j1 j2) (hS.ntrans _ _ _ g3 (sin_le hS hl i1 (show i ≤ st - 1 by omega) (by omega)))
    have hL2 : ∀ x ∈ seg d m en, ∀ y ∈ seg d st m, lt y x = false := by
      intro x hx y hy
      rw [seg_mem] at hx hy
      obtain ⟨i, i1, i2, rfl⟩ := hx
      obtain ⟨j, j1, j2, rfl⟩ := hy
      rcases g4 with g4 | g4
      · split at g4 <;> omega
      · rw [show mid + m - 1 - st = en - 1 by omega] at g4
        have q1 := sin_le hS hr i1 (show i ≤ en - 1 by omega) (by omega)
        have q2 := sin_le hS hl h1 j1 j2
        exact hS.ntrans _ _ _ q2 (hS.ntrans _ _ _ (hS.asymmA g4) q1)
    -- behind the rotation
    have hrot : ∃ d1, (if st < m ∧ m < en then rotate st m en d else d) = d1 ∧ Out st en d d1 ∧ seg d1 st en = seg d m en ++ seg d st m := by
      refine ⟨_, rfl, ?_⟩
      by_cases hc : st < m ∧ m < en
      · rw [if_pos hc]; exact rotate_spec st m en d hc.1 hc.2 (by omega)
      · rw [if_neg hc]
        refine ⟨Out.refl _ _ _, ?_⟩
        by_cases hc1 : st < m
        · rw [seg_nil d m en (by omega), show en = m by omega, List.nil_append]
        · rw [seg_nil d st m (by omega), show st = m by omega, List.append_nil]
    obtain ⟨d1, hd1, o1, s1⟩ := hrot
    rw [hd1]
    clear hd1
    have s1a : seg d1 st mid = seg d m en ∧ seg d1 mid en = seg d st m := by
      rw [seg_append d1 st mid en h3 (by omega)] at s1
      exact List.append_inj s1 (by rw [seg_length, seg_length]; omega)
    have hA : seg d1 a mid = seg d a st ++ seg d m en := by rw [seg_append d1 a st mid h1 h3, o1.seg a st (by omega), s1a.1]
    have hB : seg d1 mid b = seg d st m ++ seg d en b := by rw [seg_append d1 mid en b (by omega) h4, o1.seg en b (by omega), s1a.2]
    have hcross : ∀ x ∈ seg d1 a mid, ∀ y ∈ seg d1 mid b, lt y x = false := by
      intro x hx y hy
      rw [hA] at hx
      rw [hB] at hy
      rcases List.mem_append.1 hx with hx | hx <;> rcases List.mem_append.1 hy with hy | hy
      · rw [seg_mem] at hx hy
        obtain ⟨i, i1, i2, rfl⟩ := hx
        obtain ⟨j, j1, j2, rfl⟩ := hy
        exact hl i j i1 (by omega) j2
      · exact hL1 x hx y hy
      · exact hL2 x hx y hy
      · rw [seg_mem] at hx hy
        obtain ⟨i, i1, i2, rfl⟩ := hx
        obtain ⟨j, j1, j2, rfl⟩ := hy
        exact hr i j i1 (by omega) j2
    have sA1 : SortedIn lt a st d1 := asc_seg.1 (by rw [o1.seg _ _ (by omega)]; exact asc_seg.2 (sin_sub hl (by omega) h2))
    have sA2 : SortedIn lt st mid d1 := asc_seg.1 (by rw [s1a.1]; exact asc_seg.2 (sin_sub hr (by omega) h4))
    have sB1 : SortedIn lt mid en d1 := asc_seg.1 (by rw [s1a.2]; exact asc_seg.2 (sin_sub hl h1 (by omega)))
    have sB2 : SortedIn lt en b d1 := asc_seg.1 (by rw [o1.seg _ _ (by omega)]; exact asc_seg.2 (sin_sub hr (by omega) (by omega)))
    have hp1 : (seg d1 a b).Perm (seg d a b) := by
      rw [seg_append d1 a mid b (by omega) (by omega), hA, hB, seg_append d a st b h1 (by omega), seg_append d st m b h2 (by omega), seg_append d m en b h5 h4, List.append_assoc]
      refine List.Perm.append_left _ ?_
      rw [← List.append_assoc, ← List.append_assoc]
      exact List.Perm.append_right _ List.perm_append_comm
    have ob1 : Out a b d d1 := o1.mono h1 h4
    have hz1 := ob1.size
    -- the two calls of itself
    have hM2 : ∃ d2, (if a < st ∧ st < mid then symM lt k a st mid d1 else d1) = d2 ∧ Merged lt a mid d1 d2 := by
      refine ⟨_, rfl, ?_⟩
      by_cases hc : a < st ∧ st < mid
      · rw [if_pos hc]; exact ih a st mid d1 (by omega) hc.1 hc.2 (by omega) sA1 sA2
      · rw [if_neg hc]
        refine ⟨Out.refl _ _ _, List.Perm.refl _, ?_⟩
        by_cases hc1 : a < st
        · rw [show mid = st by omega]; exact sA1
        · have : a = st := by omega
          subst this; exact sA2
    obtain ⟨d2, hd2, M2⟩ := hM2
    rw [hd2]
    clear hd2
    have hz2 := M2.out.size
    have e2B : seg d2 mid b = seg d1 mid b := M2.out.seg _ _ (by omega)
    have hM3 : ∃ d3, (if mid < en ∧ en < b then symM lt k mid en b d2 else d2) = d3 ∧ Merged lt mid b d2 d3 := by
      have sB1' : SortedIn lt mid en d2 := asc_seg.1 (by rw [M2.out.seg _ _ (by omega)]; exact asc_seg.2 sB1)
      have sB2' : SortedIn lt en b d2 := asc_seg.1 (by rw [M2.out.seg _ _ (by omega)]; exact asc_seg.2 sB2)
      refine ⟨_, rfl, ?_⟩
      by_cases hc : mid < en ∧ en < b
      · rw [if_pos hc]; exact ih mid en b d2 (by omega) hc.1 hc.2 (by omega) sB1' sB2'
      · rw [if_neg hc]
        refine ⟨Out.refl _ _ _, List.Perm.refl _, ?_⟩
        by_cases hc1 : mid < en
        · rw [show b = en by omega]; exact sB1'
        · have : mid = en := by omega
          subst this; exact sB2'
    obtain ⟨d3, hd3, M3⟩ := hM3
    rw [hd3]
    clear hd3
    have hz3 := M3.out.size
    have e3A : seg d3 a mid = seg d2 a mid := M3.out.seg _ _ (by omega)
    refine ⟨(ob1.trans (M2.out.mono (Nat.le_refl _) (by omega))).trans (M3.out.mono (by omega) (Nat.le_refl _)), ?_, ?_⟩
    · refine List.Perm.trans ?_ hp1
      rw [seg_append d3 a mid b (by omega) (by omega), e3A, seg_append d1 a mid b (by omega) (by omega)]
      exact List.Perm.append M2.perm (M3.perm.trans (by rw [e2B]))
    · rw [← asc_seg, seg_append d3 a mid b (by omega) (by omega), asc_append, e3A]
      refine ⟨asc_seg.2 M2.asc, asc_seg.2 M3.asc, fun x hx y hy => ?_⟩
      have hx1 := M2.perm.mem_iff.1 hx
      have hy1 := M3.perm.mem_iff.1 hy
      rw [e2B] at hy1
      exact hcross x hx1 y hy1
end Go.Proofs.Ytlpdligkjihkeaa.St
