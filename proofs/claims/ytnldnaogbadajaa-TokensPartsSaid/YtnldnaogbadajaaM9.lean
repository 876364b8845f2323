/- Walks and plain laws: decoding. -/
import Derived.Test.YtnldnaogbadajaaM8
import Derived.Deep.RegionHeld3

/- Plain: what is encoded is decoded (canonical codes). -/
set_option linter.unusedVariables false
namespace Go.Proofs.Ytnldnaogbadajaa.Tb

theorem split_at (key : Nat → Nat) (n : Nat) : ∀ L : List Nat, L.Pairwise (fun a b => key a ≤ key b) → L = L.filter (fun i => decide (key i < n)) ++ (L.filter (fun i => decide (key i = n)) ++ L.filter (fun i => decide (n < key i)))
  | [], _ => rfl
  | a :: L, h => by
    obtain ⟨h1, h2⟩ := List.pairwise_cons.1 h
    have ih := split_at key n L h2
    rcases Nat.lt_trichotomy (key a) n with e | e | e
    · rw [List.filter_cons_of_pos (by rw [decide_eq_true_eq]; exact e), List.filter_cons_of_neg (by rw [decide_eq_true_eq]; omega), List.filter_cons_of_neg (by rw [decide_eq_true_eq]; omega), List.cons_append, ← ih]
    · have h0 : L.filter (fun i => decide (key i < n)) = [] := by
        rw [List.filter_eq_nil_iff]
        intro b hb
        have := h1 b hb
        rw [decide_eq_true_eq]; omega
      rw [List.filter_cons_of_neg (by rw [decide_eq_true_eq]; omega), List.filter_cons_of_pos (by rw [decide_eq_true_eq]; exact e), List.filter_cons_of_neg (by rw [decide_eq_true_eq]; omega), h0, List.nil_append, List.cons_append]
      rw [h0, List.nil_append] at ih
      rw [← ih]
    · have h0 : L.filter (fun i => decide (key i < n)) = [] := by
        rw [List.filter_eq_nil_iff]
        intro b hb
        have := h1 b hb
        rw [decide_eq_true_eq]; omega
      have h3 : L.filter (fun i => decide (key i = n)) = [] := by
        rw [List.filter_eq_nil_iff]
        intro b hb
        have := h1 b hb
        rw [decide_eq_true_eq]; omega
      rw [List.filter_cons_of_neg (by rw [decide_eq_true_eq]; omega), List.filter_cons_of_neg (by rw [decide_eq_true_eq]; omega), List.filter_cons_of_pos (by rw [decide_eq_true_eq]; exact e), h0, h3, List.nil_append, List.nil_append]
      rw [h0, h3, List.nil_append, List.nil_append] at ih
      rw [← ih]
def loK (ls : List Nat) (n : Nat) : List Nat := (ordL ls).filter fun i => decide (ls.getD i 0 < n)
def SK (ls : List Nat) (n : Nat) : List Nat := symsK ls (ordL ls) n
def FK (ls : List Nat) (n : Nat) : Nat := firstOf (codesL ls) (SK ls n)
def baseK (ls : List Nat) (n : Nat) : Nat := kS ls (loK ls n)
theorem ord_sorted (ls : List Nat) : (ordL ls).Pairwise (fun a b => ls.getD a 0 ≤ ls.getD b 0) := by
  rw [List.pairwise_iff_getElem]
  intro i j hi hj hij
  have h := ordL_asc ls i j hij hj
  have e : ∀ k (hk : k < (ordL ls).length), (ordL ls).getD k 0 = (ordL ls)[k] := fun k hk => by rw [List.getD_eq_getElem?_getD, List.getElem?_eq_getElem hk]; rfl
  rw [e i hi, e j hj] at h
  exact h
theorem ord_split (ls : List Nat) (n : Nat) : ordL ls = loK ls n ++ (SK ls n ++ (ordL ls).filter fun i => decide (n < ls.getD i 0)) := split_at (fun i => ls.getD i 0) n _ (ord_sorted ls)
theorem SK_mem {ls : List Nat} {n s : Nat} : s ∈ SK ls n ↔ s ∈ ordL ls ∧ ls.getD s 0 = n := by
  unfold SK symsK
  rw [List.mem_filter, decide_eq_true_eq]
theorem kS_const (ls : List Nat) (n : Nat) : ∀ L : List Nat, (∀ i ∈ L, ls.getD i 0 = n) → kS ls L = L.length * kr n
  | [], _ => by simp [kS]
  | i :: L, h => by
    have ih := kS_const ls n L (fun j hj => h j (List.mem_cons_of_mem _ hj))
    have h0 := h i (by simp)
    have e : kS ls (i :: L) = kr (ls.getD i 0) + kS ls L := rfl
    rw [e, ih, h0, List.length_cons, Nat.add_mul, Nat.one_mul, Nat.add_comm]
theorem base_dvd (ls : List Nat) (n : Nat) (h : n ≤ 15) : 2 ^ (15 - n) ∣ baseK ls n := by
  unfold baseK
  have hl : ∀ i ∈ loK ls n, ls.getD i 0 < n := fun i hi => by
    have := (List.mem_filter.1 hi).2
    rwa [decide_eq_true_eq] at this
  generalize loK ls n = L at hl
  induction L with
  | nil => exact Nat.dvd_zero _
  | cons i L ih =>
    have e : kS ls (i :: L) = kr (ls.getD i 0) + kS ls L := rfl
    rw [e]
    refine Nat.dvd_add ?_ (ih (fun j hj => hl j (List.mem_cons_of_mem _ hj)))
    have h0 := hl i (by simp)
    unfold kr
    split
    · exact Nat.pow_dvd_pow 2 (by omega)
    · exact Nat.dvd_zero _
theorem base_step (ls : List Nat) {n x : Nat} (h : n < x) : baseK ls n + (SK ls n).length * kr n ≤ baseK ls x := by
  have hs := ord_split ls n
  have e : loK ls x = loK ls n ++ (SK ls n ++ ((ordL ls).filter fun i => decide (n < ls.getD i 0)).filter fun i => decide (ls.getD i 0 < x)) := by
    have h1 : loK ls x = (ordL ls).filter fun i => decide (ls.getD i 0 < x) := rfl
    rw [h1]
    conv => lhs; rw [hs]
    rw [List.filter_append, List.filter_append]
    congr 1
    · rw [List.filter_eq_self]
      intro i hi
      have := (List.mem_filter.1 hi).2
      rw [decide_eq_true_eq] at this ⊢
      omega
    · congr 1
      rw [List.filter_eq_self]
      intro i hi
      have := (SK_mem.1 hi).2
      rw [decide_eq_true_eq]
      omega
  unfold baseK
  rw [e, kS_app, kS_app, kS_const ls n (SK ls n) (fun i hi => (SK_mem.1 hi).2)]
  omega
/-- The code of the symbol number t at level x. -/
theorem code_at (ls : List Nat) {x t s : Nat} (hx : x ≤ 15) (h0 : 0 < x) (ht : (SK ls x)[t]? = some s) : (codesL ls).getD s 0 = baseK ls x / 2 ^ (15 - x) + t := by
  have htl : t < (SK ls x).length := (List.getElem?_eq_some_iff.1 ht).1
  have hs := ord_split ls x
  have hsx := (SK_mem.1 (List.mem_of_getElem? ht)).2
  have hk : (ordL ls)[(loK ls x).length + t]? = some s := by
    conv => lhs; rw [hs]
    rw [List.getElem?_append_right (by omega), Nat.add_sub_cancel_left, List.getElem?_append_left htl]
    exact ht
  have htk : (ordL ls).take ((loK ls x).length + t) = loK ls x ++ (SK ls x).take t := by
    conv => lhs; rw [hs]
    rw [List.take_append, List.take_of_length_le (by omega), Nat.add_sub_cancel_left, List.take_append_of_le_length (by omega)]
  have hkr : kr x = 2 ^ (15 - x) := by unfold kr; rw [if_pos h0]
  rw [codesL_at ls hk, htk, kS_app, kS_const ls x ((SK ls x).take t) (fun i hi => (SK_mem.1 (List.mem_of_mem_take hi)).2), hsx, hkr, List.length_take, Nat.min_eq_left (by omega)]
  have e : kS ls (loK ls x) = baseK ls x := rfl
  rw [e, Nat.add_mul_div_right _ _ (Nat.two_pow_pos _)]
theorem FK_eq (ls : List Nat) {x : Nat} (hx : x ≤ 15) (h0 : 0 < x) (h : 0 < (SK ls x).length) : FK ls x = baseK ls x / 2 ^ (15 - x) := by
  obtain ⟨a, L, hS⟩ : ∃ a L, SK ls x = a :: L := List.exists_cons_of_length_pos h
  have h1 := code_at ls (t := 0) (s := a) hx h0 (by rw [hS]; rfl)
  rw [Nat.add_zero] at h1
  rw [← h1]
  unfold FK
  rw [hS]
  rfl
theorem long_ge (key : Nat → Nat) : ∀ (L : List Nat), L.Pairwise (fun a b => key a ≤ key b) → ∀ a ∈ L, ∀ z, key a ≤ L.foldl (fun _ i => key i) z
  | [], _, a, ha, _ => by simp at ha
  | b :: L, h, a, ha, z => by
    obtain ⟨h1, h2⟩ := List.pairwise_cons.1 h
    rw [List.foldl_cons]
    rcases List.mem_cons.1 ha with rfl | ha
    · cases L with
      | nil => exact Nat.le_refl _
      | cons c L => exact Nat.le_trans (h1 c (by simp)) (long_ge key (c :: L) h2 c (by simp) _)
    · exact long_ge key L h2 a ha _
theorem long_le (key : Nat → Nat) (M : Nat) : ∀ (L : List Nat) (z : Nat), z ≤ M → (∀ a ∈ L, key a ≤ M) → L.foldl (fun _ i => key i) z ≤ M
  | [], _, h, _ => h
  | b :: L, z, _, h => by
    rw [List.foldl_cons]
    exact long_le key M L _ (h b (by simp)) (fun a ha => h a (List.mem_cons_of_mem _ ha))
theorem ord_tabOk {ls : List Nat} (h : LenOk ls) : TabOk (FK ls) (SK ls) (longK ls (ordL ls)) where
  lg := long_le _ 15 _ 0 (by omega) (fun a _ => h.at_ a)
  f := fun k => by
    unfold FK
    cases hS : SK ls k with
    | nil => simp [firstOf]
    | cons a L =>
      have ha : a ∈ SK ls k := by rw [hS]; simp
      obtain ⟨h1, h2⟩ := SK_mem.1 ha
      obtain ⟨h3, h4⟩ := ordL_mem.1 h1
      have h5 := codesL_lt ls h.le h.sum h3 h4
      have h6 := h.at_ a
      exact Nat.le_trans (Nat.le_of_lt h5) (Nat.le_trans (Nat.pow_le_pow_right (by omega) h6) (by decide))
  s := fun k => Nat.le_trans (symsK_len _ _ _) (Nat.le_trans (by unfold ordL; rw [srtO_len]; exact presO_len ls 0) h.len)
  v := fun k x hx => by
    have h1 := (ordL_mem.1 (SK_mem.1 hx).1).1
    have := h.len
    omega
theorem takeN_lowp (a c : List Bool) (v n k : Nat) (hv : v < 2 ^ n) (hk : k ≤ n) : takeN (pk (a ++ (lowB v n ++ c))) a.length k = v / 2 ^ (n - k) :=
  takeN_pre (pk (a ++ (lowB v n ++ c))) a.length v n hv (fun t ht => by
    rw [pk_bit _ _ (by simp only [List.length_append, lowB_len]; omega), List.getD_eq_getElem?_getD, List.getElem?_append_right (by omega), Nat.add_sub_cancel_left, List.getElem?_append_left (by rw [lowB_len]; exact ht), ← List.getD_eq_getElem?_getD, lowB_get v n t ht]) k hk
/-- A symbol that was encoded is read. -/
theorem sym_dec {ls : List Nat} (h : LenOk ls) {s : Nat} (hs1 : s < ls.length) (hs2 : 0 < ls.getD s 0) (a c : List Bool) (N : Nat) (hN : (a ++ symB ls s).length ≤ N) :
    symF (FK ls) (SK ls) (longK ls (ordL ls)) (pk (a ++ (symB ls s ++ c))) N a.length 17 1 = (s, ls.getD s 0, 0) := by
  have hx15 := h.at_ s
  have hlt := codesL_lt ls h.le h.sum hs1 hs2
  have hmo : s ∈ ordL ls := ordL_mem.2 ⟨hs1, hs2⟩
  obtain ⟨t, ht⟩ := List.mem_iff_getElem?.1 (SK_mem.2 ⟨hmo, rfl⟩)
  have hcode := code_at ls hx15 hs2 ht
  have htl : t < (SK ls (ls.getD s 0)).length := (List.getElem?_eq_some_iff.1 ht).1
  have hFx := FK_eq ls hx15 hs2 (by omega)
  have hlg : ls.getD s 0 ≤ longK ls (ordL ls) := long_ge (fun i => ls.getD i 0) _ (ord_sorted ls) s hmo 0
  have htk : ∀ n, n ≤ ls.getD s 0 → takeN (pk (a ++ (symB ls s ++ c))) a.length n = (codesL ls).getD s 0 / 2 ^ (ls.getD s 0 - n) := fun n hn => takeN_lowp a c _ _ n hlt hn
  have hNl : a.length + ls.getD s 0 ≤ N := by rw [List.length_append, symB, lowB_len] at hN; exact hN
  have hdv := base_dvd ls (ls.getD s 0) hx15
  obtain ⟨C, hC⟩ : ∃ C, C = (codesL ls).getD s 0 := ⟨_, rfl⟩
  obtain ⟨x, hx⟩ : ∃ x, x = ls.getD s 0 := ⟨_, rfl⟩
  rw [← hC] at hcode htk
  rw [← hx] at hs2 hx15 ht hcode htl hFx hlg htk hNl hdv
  have hget : (SK ls x).getD t 0 = s := by rw [List.getD_eq_getElem?_getD, ht]; rfl
  rw [← hFx] at hcode
  have hCb : baseK ls x ≤ C * 2 ^ (15 - x) := by
    obtain ⟨q, hq⟩ := hdv
    have h1 : FK ls x = q := by rw [hFx, hq, Nat.mul_div_cancel_left _ (Nat.two_pow_pos _)]
    rw [hcode, h1, hq, Nat.add_mul, Nat.mul_comm]
    omega
  have hbeg : ∀ n, n ≤ x → begB (FK ls) (fun k => (SK ls k).length) (longK ls (ordL ls)) (C / 2 ^ (x - n)) n = true := fun n hn => by
    refine begB_true hn hlg ?_
    unfold begK
    rw [decide_eq_true (show 0 < (SK ls x).length by omega), decide_eq_true (Nat.div_le_div_right (show C ≤ FK ls x + (SK ls x).length - 1 by omega)), decide_eq_true (Nat.div_le_div_right (show FK ls x ≤ C by omega))]
    rfl
  have go : ∀ (d n f : Nat), n + d = x → 0 < n → f + n = 18 → symF (FK ls) (SK ls) (longK ls (ordL ls)) (pk (a ++ (symB ls s ++ c))) N a.length f n = (s, x, 0) := by
    intro d
    induction d with
    | zero =>
      intro n f hn h0 hf
      obtain rfl : n = x := by omega
      obtain ⟨f, rfl⟩ : ∃ g, f = g + 1 := ⟨f - 1, by omega⟩
      rw [symF, if_neg (by omega), htk n (Nat.le_refl _), if_neg (by rw [hbeg n (Nat.le_refl _)]; simp), Nat.sub_self, Nat.pow_zero, Nat.div_one, if_pos ⟨by omega, by omega⟩, hcode, Nat.add_sub_cancel_left, hget]
    | succ d ih =>
      intro n f hn h0 hf
      obtain ⟨f, rfl⟩ : ∃ g, f = g + 1 := ⟨f - 1, by omega⟩
      rw [symF, if_neg (by omega), htk n (by omega), if_neg (by rw [hbeg n (by omega)]; simp), if_neg]
      · exact ih (n + 1) f (by omega) (by omega) (by omega)
      · rintro ⟨h1, h2⟩
        have hM : 0 < (SK ls n).length := by omega
        have hFn := FK_eq ls (show n ≤ 15 by omega) h0 hM
        have hstep := base_step ls (show n < x by omega)
        have hkn : kr n = 2 ^ (15 - n) := by unfold kr; rw [if_pos h0]
        obtain ⟨q, hq⟩ := base_dvd ls n (by omega)
        have h3 : FK ls n = q := by rw [hFn, hq, Nat.mul_div_cancel_left _ (Nat.two_pow_pos _)]
        rw [hkn, hq] at hstep
        have h4 : (q + (SK ls n).length) * 2 ^ (15 - n) ≤ C * 2 ^ (15 - x) := by
          rw [Nat.add_mul, Nat.mul_comm q]
          omega
        rw [show 15 - n = (x - n) + (15 - x) by omega, Nat.pow_add, ← Nat.mul_assoc] at h4
        have h5 := Nat.le_of_mul_le_mul_right h4 (Nat.two_pow_pos _)
        have h6 : q + (SK ls n).length ≤ C / 2 ^ (x - n) := (Nat.le_div_iff_mul_le (Nat.two_pow_pos _)).2 h5
        omega
  rw [← hx]
  exact go (x - 1) 1 17 (by omega) (by omega) rfl
def decF (F : Nat → Nat) (S : Nat → List Nat) (LG : Nat) (bs : List Nat) (N : Nat) : Nat → Nat → List Nat → List Nat × Int
  | 0, pos, acc => if pos = N then (acc, 0) else ([], 9)
  | c + 1, pos, acc => if (symF F S LG bs N pos 17 1).2.2 = 0 then decF F S LG bs N c (pos + (symF F S LG bs N pos 17 1).2.1) (acc ++ [(symF F S LG bs N pos 17 1).1]) else ([], (symF F S LG bs N pos 17 1).2.2)
theorem dec_enc {ls : List Nat} (h : LenOk ls) : ∀ (l : List Nat) (a : List Bool) (acc : List Nat) (B : List Bool), SymOk ls l → B = a ++ encB ls l → decF (FK ls) (SK ls) (longK ls (ordL ls)) (pk B) B.length l.length a.length acc = (acc ++ l, 0)
  | [], a, acc, B, _, hB => by
    rw [hB]
    simp [decF, encB]
  | s :: l, a, acc, B, hs, hB => by
    obtain ⟨h1, h2⟩ := hs.ok s (by simp)
    have hsym := sym_dec h h1 h2 a (encB ls l) B.length (by rw [hB, encB]; simp only [List.length_append]; omega)
    have hB2 : B = a ++ (symB ls s ++ encB ls l) := hB
    rw [← hB2] at hsym
    have ih := dec_enc h l (a ++ symB ls s) (acc ++ [s]) B ⟨fun x hx => hs.ok x (List.mem_cons_of_mem _ hx)⟩ (by rw [hB, encB, List.append_assoc])
    rw [List.length_append, show (symB ls s).length = ls.getD s 0 by rw [symB, lowB_len]] at ih
    rw [List.length_cons, decF, hsym]
    simp only [if_true]
    rw [ih]
    simp
end Go.Proofs.Ytnldnaogbadajaa.Tb

/- huffman.Decode, walked. -/
set_option linter.unusedVariables false
set_option linter.unusedSimpArgs false
namespace Go.Proofs.Ytnldnaogbadajaa.Tb
open Go.RowKit

def DecPost (w : World) (R : List Nat × Int) (e : Ending) (w' : World) : Prop :=
  (R.2 = 0 ∧ ∃ v', e = .returned (.tuple #[v', .int .i64 0]) ∧ OwnN w' w.heap.size v' R.1 ∧ Below w.heap.size w w') ∨ (R.2 ≠ 0 ∧ e = .returned (.tuple #[.slice none 0 0, .int .i64 R.2]) ∧ Below w.heap.size w w')
theorem grown_below {w w1 w2 : World} {row : Option Nat} (h : w.grownBy w1 row) (hb : Below w.heap.size w1 w2) : w.grownBy w2 row :=
  ⟨hb.os.trans h.os, hb.tape.trans h.tape, hb.output.trans h.output, Nat.le_trans h.size hb.size, fun k hk hne => (hb.block k hk).trans (h.block k hk hne)⟩
theorem decF_succ (F : Nat → Nat) (S : Nat → List Nat) (LG : Nat) (bs : List Nat) (N c pos : Nat) (acc : List Nat) : decF F S LG bs N (c + 1) pos acc = if (symF F S LG bs N pos 17 1).2.2 = 0 then decF F S LG bs N c (pos + (symF F S LG bs N pos 17 1).2.1) (acc ++ [(symF F S LG bs N pos 17 1).1]) else ([], (symF F S LG bs N pos 17 1).2.2) := rfl

set_option maxRecDepth 100000 in
set_option maxHeartbeats 25600000 in
theorem hDecode_ok (A B : Option Addr) (c cb : Nat) (ls b : List Nat) (N cnt : Nat) (w : World) (hr : RdN w A ls) (hA : ∀ a, A = some a → a.block < w.heap.size) (hL : LenOk ls) (hrb : RdB w B b) (hB : B = none → b.length = 0 ∧ cb = 0) (hcb : b.length ≤ cb) (hby : Byt b) (hbl : b.length ≤ 100000) (hN : N ≤ 8 * b.length) (hc : cnt ≤ 4096) :
    Calls Try.prog 34 #[.slice A ls.length c, .slice B b.length cb, .int .i64 N, .int .i64 cnt] w (DecPost w (decF (FK ls) (SK ls) (longK ls (ordL ls)) (b.take ((N + 7) / 8)) N cnt 0 [])) := by
  have HVA := Lib.hid (valid_any A c ls w hr (by have := hL.len; omega) (fun x hx => Nat.le_trans (hL.le x hx) (by decide)))
  rw [hL.vld] at HVA
  have HNR := Lib.hid (NewReader_ok B cb b N w hrb hB hcb hby (by omega) hN)
  have HTB := Lib.hid (fun W (h1 : Below w.heap.size w W) => tableOf_any A c ls W (hr.below h1) (fun a ha => Nat.lt_of_lt_of_le (hA a ha) h1.size) hL)
  have HTO := Lib.hid (ord_tabOk hL)
  obtain ⟨bt, hbt⟩ : ∃ bt, bt = b.take ((N + 7) / 8) := ⟨_, rfl⟩
  rw [← hbt] at HNR ⊢
  obtain ⟨F, hF⟩ : ∃ F, F = FK ls := ⟨_, rfl⟩
  obtain ⟨S, hS⟩ : ∃ S, S = SK ls := ⟨_, rfl⟩
  obtain ⟨LG, hLG⟩ : ∃ LG, LG = longK ls (ordL ls) := ⟨_, rfl⟩
  have HFS : Hid (∀ W p q vs, TbSt W q p (codesL ls) ls (ordL ls) vs → Tab W p p F S LG) := Lib.hid (fun W p q vs h => by rw [hF, hS, hLG]; exact h.tab)
  rw [← hF, ← hS, ← hLG] at HTO ⊢
  obtain ⟨R, hR⟩ : ∃ R, R = decF F S LG bt N cnt 0 [] := ⟨_, rfl⟩
  rw [← hR]
  have HR := Lib.hid hR
  obtain ⟨n, hn⟩ : ∃ n, n = ls.length := ⟨_, rfl⟩
  obtain ⟨l, hl⟩ : ∃ l, l = b.length := ⟨_, rfl⟩
  rw [← hn] at HVA HTB ⊢
  rw [← hl] at HNR hbl hN ⊢
  have t1 : ¬ (4096 : Int) < (cnt : Int) := by omega
  have t2 : ¬ (cnt : Int) < 0 := by omega
  have hN1 : N ≤ 1000000 := by omega
  clear hr hA hL hrb hB hcb hby hbt hF hS hLG hR hn hl
  go_enter Try.func34, Try.ntmps34
  go_wp2_with fail
  refine HVA.out.mono ?_
  rintro e w ⟨rfl, rfl⟩
  go_wp2_with fail
  refine HNR.out.mono ?_
  rintro e w1 ⟨r, rfl, hs1, hr1, hb1⟩
  have HS1 := Lib.hid hs1
  have HB1 := Lib.hid hb1
  have hrl1 := hs1.lt
  have HTB1 := Lib.hid (HTB.out w1 hb1)
  clear hs1 hb1 HTB HNR HVA
  go_wp2_with fail
  refine HTB1.out.mono ?_
  rintro e w2 ⟨rfl, ⟨q2, vs2, htb⟩, hb2⟩
  have HT2 := Lib.hid (HFS.out _ _ _ _ htb)
  have HS2 := Lib.hid (HS1.out.below hb2)
  have HB2 := Lib.hid (HB1.out.trans (hb2.mono HB1.out.size))
  obtain ⟨p, hp⟩ : ∃ p, p = w1.heap.size := ⟨_, rfl⟩
  rw [← hp] at HT2 hrl1 ⊢
  have hpl2 : p < w2.heap.size := by rw [hp]; exact htb.blk.lt
  have HG2 : Hid (w2.grownBy w2 (some r)) := Lib.hid ⟨rfl, rfl, rfl, Nat.le_refl _, fun _ _ _ => rfl⟩
  have hb2s : w.heap.size ≤ w2.heap.size := HB2.out.size
  clear htb hb2 HTB1 HFS HS1 HB1 hp
  go_wp2
  go_loopw [13, 38] (fun a s wr => ∃ (t pos : Nat) (acc : List Nat) (A5 : Option Addr) (c5 : Nat), s = .int .i64 t ∧ a = .slice A5 acc.length c5 ∧ t ≤ cnt ∧ Hid (acc.length = t) ∧ pos ≤ N ∧ Hid (decF F S LG bt N (cnt - t) pos acc = R) ∧ Hid (RdSt wr r bt N pos) ∧ Hid (w2.grownBy wr (some r)) ∧ Hid (OwnN wr w2.heap.size (.slice A5 acc.length c5) acc)) (fun _ s _ => cnt - (intOf s).toNat)
  case atStart => exact ⟨0, 0, [], none, 0, rfl, rfl, by omega, Lib.hid rfl, by omega, Lib.hid HR.out.symm, HS2, HG2, Lib.hid (OwnN.nil _ _)⟩
  case round =>
    clear HS2 HG2
    obtain ⟨t, pos, acc, A5, c5, rfl, rfl, ht, HAL, hpos, HD, HS, HG, HO⟩ := hrel
    have hszr := HG.out.size
    by_cases hlt : t < cnt
    · have hd := HD.out
      rw [show cnt - t = (cnt - (t + 1)) + 1 by omega, decF_succ] at hd
      have HSY := symbol_any p p r F S LG bt N pos wr (HT2.out.grown HG.out hrl1) HTO.out HS.out hrl1 hpos hN1
      rcases hsy : symF F S LG bt N pos 17 1 with ⟨sy, ln, se⟩
      rw [hsy] at HSY hd
      simp only at HSY hd
      have HSY' := Lib.hid HSY
      have HDD := Lib.hid hd
      clear HSY hd hsy
      go_wp2_with fail
      refine HSY'.out.mono ?_
      rintro e w3 ⟨rfl, hg3, hs3⟩
      have HG3 := Lib.hid (HG.out.trans hg3)
      have HS3 := Lib.hid hs3
      have HO3 : Hid (OwnN w3 w2.heap.size (.slice A5 acc.length c5) acc) := Lib.hid (World.ownsRow.kept HO.out hg3 (.inr (fun e => by have := (HO.out.lt _ e).1; omega)))
      clear hg3 hs3 HSY' HO
      by_cases he : se = 0
      · subst he
        obtain ⟨hs4, hp4⟩ := HS3.out rfl
        rw [if_pos rfl] at HDD
        have HS4 := Lib.hid hs4
        have hszr3 := HG3.out.size
        have HSRC := Lib.hid (rdN_new w3 sy 3)
        have HOA := Lib.hid (HO3.out.below (bel9 w3 (.cells #[.int .i64 sy] 3)))
        have HLE : Hid (acc.length + [sy].length ≤ 1000000) := Lib.hid (by have := HAL.out; simp; omega)
        have HB4 : Hid (Below w2.heap.size w3 (w3.alloc (.cells #[.int .i64 sy] 3))) := Lib.hid ((bel9 w3 _).mono hszr3)
        have HSZ4 : Hid (w2.heap.size ≤ (w3.alloc (.cells #[.int .i64 sy] 3)).heap.size) := Lib.hid (Nat.le_trans hszr3 HB4.out.size)
        clear HS3 hs4
        go_wp2_with (at_builtin; refine wpList_appN (.tmp 49) (.tmp 51) w2.heap.size (.slice A5 acc.length c5) acc (some ⟨w3.heap.size, 0, none⟩) 1 1 [sy] rfl rfl (by rfl) HOA.out (by rfl) rfl (fun h => by cases h) HSRC.out HLE.out HSZ4.out ?_; intro v6 w6 ho6 hb6 _ _; obtain ⟨g6, c6, rfl, _, _⟩ := ownN_form ho6 (by simp); have HO6 := Lib.hid ho6; have HB6 := Lib.hid (HB4.out.trans hb6); obtain ⟨L6, hL6⟩ : ∃ L6, L6 = acc ++ [sy] := ⟨_, rfl⟩; rw [← hL6] at HO6 HDD ⊢; have HL6 : Hid (L6.length = acc.length + 1) := Lib.hid (by rw [hL6]; simp); clear ho6 hb6 hL6)
        go_roundw
        case measure => simp [intOf]; omega
        case rel => exact ⟨t + 1, pos + ln, L6, _, c6, by go_num, rfl, by omega, Lib.hid (by rw [HL6.out, HAL.out]), hp4, HDD, Lib.hid (HS4.out.keep (HB6.out.mono (by omega))), Lib.hid (grown_below HG3.out HB6.out), HO6⟩
      · rw [if_neg he] at HDD
        have t5 : (se == 0) = false := by simpa using he
        have HBE : Hid (Below w.heap.size w w3) := Lib.hid (HB2.out.grown HG3.out hb2s (fun k hk => by injection hk with hk; omega))
        go_wp2
        go_ret2
        refine .inr ⟨?_, ?_, HBE.out⟩
        · rw [← HDD.out]; exact he
        · rw [← HDD.out]
          rfl
    · obtain rfl : t = cnt := by omega
      have hd := HD.out
      rw [Nat.sub_self] at hd
      have HRP := Lib.hid (RPos_any r bt N pos wr HS.out)
      have HBE : Hid (Below w.heap.size w wr) := Lib.hid (HB2.out.grown HG.out hb2s (fun k hk => by injection hk with hk; omega))
      by_cases hpe : pos = N
      · have HDD : Hid (R = (acc, 0)) := Lib.hid (by rw [← hd, decF, if_pos hpe])
        have t6 : ((pos : Int) == (N : Int)) = true := by simp [hpe]
        have t6' : ((pos : Int) != (N : Int)) = false := by simp [hpe]
        clear hd HD
        go_wp2_with fail
        refine HRP.out.mono ?_
        rintro e w3 ⟨rfl, rfl⟩
        go_wp2
        go_ret2
        rw [HDD.out]
        exact .inl ⟨rfl, _, rfl, HO.out.lower hb2s, HBE.out⟩
      · have HDD : Hid (R = ([], 9)) := Lib.hid (by rw [← hd, decF, if_neg hpe])
        have t6 : ((pos : Int) == (N : Int)) = false := by rw [beq_eq_false_iff_ne]; omega
        have t6' : ((pos : Int) != (N : Int)) = true := by rw [bne_iff_ne]; omega
        clear hd HD
        go_wp2_with fail
        refine HRP.out.mono ?_
        rintro e w3 ⟨rfl, rfl⟩
        go_wp2
        go_ret2
        rw [HDD.out]
        exact .inr ⟨by decide, rfl, HBE.out⟩
end Go.Proofs.Ytnldnaogbadajaa.Tb

/- tokens: size, decode, walked. -/
set_option linter.unusedVariables false
set_option linter.unusedSimpArgs false
namespace Go.Proofs.Ytnldnaogbadajaa.Tb
open Go.RowKit

/-- The block that was decoded last. -/
def CacheOk (w : World) (p : Nat) (xs : List Nat) (last : Nat) (bv : Value) : Prop :=
  last = 0 ∨ ∃ k A c, k < nblk xs.length ∧ last = k + 1 ∧ bv = .slice A (chunk xs k).length c ∧ RdN w A (chunk xs k) ∧ (chunk xs k).length ≤ c ∧ ∀ b, A = some b → b.block ≠ p
/-- The stream of xs. -/
def StrX (w : World) (p : Nat) (xs : List Nat) : Prop := ∃ last bv, Str w p xs.length (kindL xs) (lsL xs) (psL xs) last bv ∧ CacheOk w p xs last bv ∧ last ≤ 100
theorem StrX.of {w : World} {p : Nat} {xs : List Nat} (h : Str w p xs.length (kindL xs) (lsL xs) (psL xs) 0 (.slice none 0 0)) : StrX w p xs := ⟨0, _, h, .inl rfl, by omega⟩
theorem StrX.below {w w' : World} {p : Nat} {xs : List Nat} (h : StrX w p xs) (hb : Below w.heap.size w w') : StrX w' p xs := by
  obtain ⟨last, bv, h1, h2, h3⟩ := h
  refine ⟨last, bv, h1.below hb, ?_, h3⟩
  rcases h2 with e | ⟨k, A, c, a1, a2, a3, a4, a5, a6⟩
  · exact .inl e
  · exact .inr ⟨k, A, c, a1, a2, a3, a4.below hb, a5, a6⟩
theorem PtAt.set_ {w : World} {g p j i : Nat} {q : List Nat × Nat} {u : Value} (h : PtAt w g p j q) (hg : g ≠ p) : PtAt (w.setCell ⟨p, i, none⟩ u) g p j q := by
  obtain ⟨A, c, h1, h2, h3, h4, h5, h6⟩ := h.it
  exact ⟨A, c, by rw [World.cell?_setCell_far _ _ _ _ (Ne.symm hg)]; exact h1, by rw [World.cell?_setCell_far _ _ _ _ (Ne.symm hg)]; exact h2, h3.set_ _ _ _ h6, h4, h5, h6⟩
theorem Str.cache {w : World} {p n kind : Nat} {ls : List Nat} {ps : List (List Nat × Nat)} {last : Nat} {bv : Value} (h : Str w p n kind ls ps last bv) (l2 : Nat) (bv2 : Value) : Str ((w.setCell ⟨p, 4, none⟩ (.int .i64 (l2 : Nat))).setCell ⟨p, 5, none⟩ bv2) p n kind ls ps l2 bv2 := by
  obtain ⟨Al, cl, Ap, cp, g, h1, h2, h3, h4, h5, h6, h7⟩ := h.it
  refine ⟨Al, cl, Ap, cp, g, ?_, (h2.set_ _ _ _ h3).set_ _ _ _ h3, h3, h4, h5, h6, fun j q hq => ((h7 j q hq).set_ h6).set_ h6⟩
  have h9 := (h1.set_ 4 (.int .i64 (l2 : Nat))).set_ 5 bv2
  simpa using h9
theorem nblk_lt {n k : Nat} (h : k < nblk n) : 64 * k < n := by unfold nblk at h; omega
theorem chunk_len_pos {xs : List Nat} {k : Nat} (h : k < nblk xs.length) : 0 < (chunk xs k).length := by rw [chunk_len]; have := nblk_lt h; omega
theorem partsK_get (f : List Nat → List Nat × Nat) (xs : List Nat) {m k : Nat} (h : k < m) : (partsK f xs m)[k]? = some (f (chunk xs k)) := by
  unfold partsK
  rw [List.getElem?_map, List.getElem?_range h]
  rfl

set_option maxHeartbeats 1600000 in
theorem TSize_any (w : World) (p n kind : Nat) (ls : List Nat) (ps : List (List Nat × Nat)) (last : Nat) (bv : Value) (k : Nat) (hS : Str w p n kind ls ps last bv) (hn : n ≤ 4096) (hk : 64 * k < n) :
    Calls Try.prog 35 #[.pointer (some ⟨p, 0, none⟩), .int .i64 k] w fun e w' => e = .returned (.int .i64 (min 64 (n - 64 * k) : Nat)) ∧ w' = w := by
  obtain ⟨Al, cl, Ap, cp, g, hblk, _⟩ := hS.it
  have a0 : w.cell? ⟨p, 0, none⟩ = some (.int .i64 n) := hblk.cell 0
  have e1 : min (64 : Int) ((n : Int) - (k : Int) * 64) = ((min 64 (n - 64 * k) : Nat) : Int) := by omega
  have HE : Hid (min (64 : Int) ((n : Int) - (k : Int) * 64) = ((min 64 (n - 64 * k) : Nat) : Int)) := Lib.hid e1
  clear hblk hS e1
  go_enter Try.func35, Try.ntmps35
  go_wp2
  go_ret
  refine ⟨?_, rfl⟩
  rw [← HE.out]
  rfl

/-- What decode leaves in the cache. -/
def DcX (w : World) (p k : Nat) (A : Option Addr) (l c : Nat) (w' : World) : Prop :=
  w'.cell? ⟨p, 4, none⟩ = some (.int .i64 ((k : Int) + 1)) ∧ w'.cell? ⟨p, 5, none⟩ = some (.slice A l c) ∧ (∀ i, i < 4 → w'.cell? ⟨p, i, none⟩ = w.cell? ⟨p, i, none⟩) ∧ ((w.cell? ⟨p, 4, none⟩ = some (.int .i64 ((k : Int) + 1)) ∧ w.cell? ⟨p, 5, none⟩ = some (.slice A l c)) ∨ ∀ b, A = some b → w.heap.size ≤ b.block)
theorem dcx_set {w w1 : World} {p k l c n kind : Nat} {A : Option Addr} {ls : List Nat} {ps : List (List Nat × Nat)} (hb : Below w.heap.size w w1) (hp : p < w.heap.size) (hs : Str ((w1.setCell ⟨p, 4, none⟩ (.int .i64 ((k : Int) + 1))).setCell ⟨p, 5, none⟩ (.slice A l c)) p n kind ls ps (k + 1) (.slice A l c)) (hA : ∀ b, A = some b → w.heap.size ≤ b.block) :
    DcX w p k A l c ((w1.setCell ⟨p, 4, none⟩ (.int .i64 ((k : Int) + 1))).setCell ⟨p, 5, none⟩ (.slice A l c)) := by
  obtain ⟨_, _, _, _, _, hblk, _⟩ := hs.it
  have h4 := hblk.cell 4
  have h5 := hblk.cell 5
  refine ⟨by rw [h4]; rfl, h5, fun i hi => ?_, .inr hA⟩
  rw [World.cell?_setCell_other _ _ _ _ (by intro e; injection e with _ e; omega), World.cell?_setCell_other _ _ _ _ (by intro e; injection e with _ e; omega)]
  exact hb.cell (p := ⟨p, i, none⟩) hp
theorem own_base {w : World} {B : Nat} {A : Option Addr} {l c : Nat} {xs : List Nat} (h : OwnN w B (.slice A l c) xs) : ∀ b, A = some b → B ≤ b.block := fun b hb => by
  subst hb
  rcases h.2 with ⟨e, _⟩ | ⟨g, cap, cur, e, hg, _⟩
  · injection e with e; cases e
  · injection e with e
    injection e with e
    subst e
    exact hg
/-- What decode answers. -/
def DcPost (w : World) (p : Nat) (xs : List Nat) (k : Nat) (e : Ending) (w' : World) : Prop := ∃ A c, e = .returned (.slice A (chunk xs k).length c) ∧ RdN w' A (chunk xs k) ∧ (chunk xs k).length ≤ c ∧ StrX w' p xs ∧ w.grownBy w' (some p) ∧ DcX w p k A (chunk xs k).length c w'
set_option maxHeartbeats 1600000 in
theorem decode_hit (w : World) (p : Nat) (xs : List Nat) (k : Nat) (A : Option Addr) (c : Nat) (hS : Str w p xs.length (kindL xs) (lsL xs) (psL xs) (k + 1) (.slice A (chunk xs k).length c)) (hr : RdN w A (chunk xs k)) (hc : (chunk xs k).length ≤ c) (hX : StrX w p xs) (hk : k ≤ 100) :
    Calls Try.prog 22 #[.pointer (some ⟨p, 0, none⟩), .int .i64 k] w (DcPost w p xs k) := by
  obtain ⟨Al, cl, Ap, cp, g, hblk, _⟩ := hS.it
  have a4 : w.cell? ⟨p, 4, none⟩ = some (.int .i64 (k + 1 : Nat)) := hblk.cell 4
  have a5 : w.cell? ⟨p, 5, none⟩ = some (.slice A (chunk xs k).length c) := hblk.cell 5
  have HP : Hid (DcPost w p xs k (.returned (.slice A (chunk xs k).length c)) w) := Lib.hid ⟨A, c, rfl, hr, hc, hX, ⟨rfl, rfl, rfl, Nat.le_refl _, fun _ _ _ => rfl⟩, hblk.cell 4, hblk.cell 5, fun _ _ => rfl, .inl ⟨hblk.cell 4, hblk.cell 5⟩⟩
  have e1 : ((k + 1 : Nat) : Int) = (k : Int) + 1 := by omega
  rw [e1] at a4
  have t1 : ((k : Int) + 1 == (k : Int) + 1) = true := by simp
  obtain ⟨m, hm⟩ : ∃ m, m = (chunk xs k).length := ⟨_, rfl⟩
  rw [← hm] at a5 HP
  clear hblk hS hr hc hX e1 hm
  go_enter Try.func22, Try.ntmps22
  go_wp2
  go_ret
  exact HP.out
theorem str_grown {w : World} (p : Nat) {w1 : World} (u1 u2 : Value) (h : Below w.heap.size w w1) : w.grownBy ((w1.setCell ⟨p, 4, none⟩ u1).setCell ⟨p, 5, none⟩ u2) (some p) :=
  World.grownBy.trans (World.grownBy.trans ⟨h.os, h.tape, h.output, h.size, fun k hk _ => h.block k hk⟩ (grown_setCell w1 p 4 u1)) (grown_setCell _ p 5 u2)

set_option maxRecDepth 100000 in
set_option maxHeartbeats 12800000 in
theorem decode_0 (w : World) (p : Nat) (xs : List Nat) (k last : Nat) (bv : Value) (hS : Str w p xs.length 0 [] (ps0 xs) last bv) (hK : kindL xs = 0 ∧ lsL xs = [] ∧ psL xs = ps0 xs) (hk : k < nblk xs.length) (hl : xs.length ≤ 4096) (hx : Lt1024 xs) (hla : last ≠ k + 1) (hlb : last ≤ 100) :
    Calls Try.prog 22 #[.pointer (some ⟨p, 0, none⟩), .int .i64 k] w (DcPost w p xs k) := by
  obtain ⟨Al, cl, Ap, cp, g, hblk, hrl, hal, hcl, hap, hgp, hpt⟩ := hS.it
  have hpl : (ps0 xs).length = nblk xs.length := partsK_len _ _ _
  have hps : (ps0 xs)[k]? = some (pk0 (chunk xs k)) := partsK_get _ _ hk
  obtain ⟨A, c, q0, q1, q2, q3, q4, q5⟩ := (hpt k _ hps).it
  have hAp := hap (by omega)
  subst hAp
  have a1 : w.cell? ⟨p, 1, none⟩ = some (.int .i64 0) := hblk.cell 1
  have a3 : w.cell? ⟨p, 3, none⟩ = some (.slice (some ⟨g, 0, none⟩) (ps0 xs).length cp) := hblk.cell 3
  have a4 : w.cell? ⟨p, 4, none⟩ = some (.int .i64 last) := hblk.cell 4
  have hcl64 : (chunk xs k).length ≤ 64 := by rw [chunk_len]; omega
  have hx31 : Lt31 (chunk xs k) := fun v hv => hx.lt31 v (chunk_mem hv)
  have hplen := packL_len hcl64 hx31
  have hnz : 0 < (packL (chunk xs k)).length := by
    unfold packL blkW
    simp only [List.length_append]
    have := uv_pos (chunk xs k).length
    omega
  have HUN := Unpack_any A c (packL (chunk xs k)) w q2 q3 (fun b hb => by
    obtain ⟨b1, o1, e1, cc⟩ := q2 hnz
    have := World.block_lt_of_cell? _ _ (cc 0 hnz)
    rw [hb] at e1
    injection e1 with e1
    subst e1
    exact ⟨rfl, this⟩) q4 (fun x hx => blkW_byt _ _ x hx) (by omega)
  have HUP : Hid (unpackF (packL (chunk xs k)) = some (chunk xs k)) := Lib.hid (unpack_pack (by omega) hx31)
  have HUN' := Lib.hid HUN
  have HS := Lib.hid hS
  have HKK := Lib.hid hK
  have hb0 : w.cell? ⟨g, k * 2, none⟩ = some (.slice A (packL (chunk xs k)).length c) := q0
  have hnk := nblk_le hl
  have HKN := Lib.hid hk
  rw [hpl] at a3
  obtain ⟨m, hm⟩ : ∃ m, m = nblk xs.length := ⟨_, rfl⟩
  rw [← hm] at a3 hk hnk
  obtain ⟨lp, hlp⟩ : ∃ lp, lp = (packL (chunk xs k)).length := ⟨_, rfl⟩
  rw [← hlp] at hb0 HUN'
  have t1 : ((last : Int) == (k : Int) + 1) = false := by rw [beq_eq_false_iff_ne]; omega
  have g1 : (k : Int) < (m : Int) := by omega
  have hpw := hblk.lt
  have f4 : w.frozen? ⟨p, 4, none⟩ = false := hblk.free 4
  clear hS hblk hrl hal hcl hap hpt hpl hps q0 q1 q2 q3 q4 q5 hx31 hplen hnz HUN hm hlp hK hl hx hla
  go_enter Try.func22, Try.ntmps22
  go_wp2_with fail
  refine HUN'.out.mono ?_
  rintro e w1 hup
  unfold UnpPost at hup
  rw [HUP.out] at hup
  obtain ⟨v1, rfl, ho1, hb1⟩ := hup
  have HS1 := Lib.hid (HS.out.below hb1)
  have HO1 := Lib.hid ho1
  have HB1 := Lib.hid hb1
  obtain ⟨_, A1, c1, rfl, _, _, hc1, _⟩ := own_rd ho1
  obtain ⟨_, _, _, _, _, hblk1, _⟩ := HS1.out.it
  have b4 : w1.cell? ⟨p, 4, none⟩ = some (.int .i64 last) := hblk1.cell 4
  have b5 : w1.cell? ⟨p, 5, none⟩ = some bv := hblk1.cell 5
  have f4 : w1.frozen? ⟨p, 4, none⟩ = false := hblk1.free 4
  have f5 : w1.frozen? ⟨p, 5, none⟩ = false := hblk1.free 5
  have hp1 : p < w1.heap.size := hblk1.lt
  have HNE : Hid (∀ b, A1 = some b → b.block ≠ p) := Lib.hid (fun b hb e => by
    subst hb
    have h9 := own_ne ho1 hblk1 (by decide)
    rcases ho1.2 with ⟨e2, _⟩ | ⟨g2, cap, cur, e2, _⟩
    · injection e2 with e2; cases e2
    · injection e2 with e2
      injection e2 with e2
      subst e2
      simp only at e
      exact h9 (by rw [← e]; rfl))
  have HC1 := Lib.hid hc1
  have HAB := Lib.hid (own_base ho1)
  have HRD := Lib.hid ho1.rd.1
  clear ho1 hb1 hblk1 HUN' hc1 a1 a3 a4 hb0
  obtain ⟨m1, hm1⟩ : ∃ m1, m1 = (chunk xs k).length := ⟨_, rfl⟩
  have HM1 := Lib.hid hm1
  rw [← hm1]
  clear hm1
  go_wp2
  go_ret
  have hs9 := HS1.out.cache (k + 1) (.slice A1 m1 c1)
  have e9 : ((k + 1 : Nat) : Int) = (k : Int) + 1 := by omega
  rw [e9] at hs9
  have hr9 : RdN ((w1.setCell ⟨p, 4, none⟩ (.int .i64 ((k : Int) + 1))).setCell ⟨p, 5, none⟩ (.slice A1 m1 c1)) A1 (chunk xs k) := (HRD.out.set_ p 4 _ HNE.out).set_ p 5 _ HNE.out
  refine ⟨A1, c1, by rw [← HM1.out]; rfl, hr9, HC1.out, ⟨k + 1, .slice A1 m1 c1, ?_, .inr ⟨k, A1, c1, HKN.out, rfl, by rw [← HM1.out], hr9, HC1.out, HNE.out⟩, by omega⟩, str_grown p _ _ HB1.out, by rw [← HM1.out]; exact dcx_set HB1.out hpw hs9 HAB.out⟩
  obtain ⟨h1, h2, h3⟩ := HKK.out
  rw [h1, h2, h3]
  exact hs9
end Go.Proofs.Ytnldnaogbadajaa.Tb

/- tokens: decode at kind 1; decode. -/
set_option linter.unusedVariables false
set_option linter.unusedSimpArgs false
namespace Go.Proofs.Ytnldnaogbadajaa.Tb
open Go.RowKit

set_option maxRecDepth 100000 in
set_option maxHeartbeats 12800000 in
theorem decode_1 (w : World) (p : Nat) (xs : List Nat) (k last : Nat) (bv : Value) (hS : Str w p xs.length 1 (lensL xs) (ps1 xs) last bv) (hK : kindL xs = 1 ∧ lsL xs = lensL xs ∧ psL xs = ps1 xs) (hk : k < nblk xs.length) (hl : xs.length ≤ 4096) (hx : Lt1024 xs) (hla : last ≠ k + 1) (hlb : last ≤ 100) :
    Calls Try.prog 22 #[.pointer (some ⟨p, 0, none⟩), .int .i64 k] w (DcPost w p xs k) := by
  obtain ⟨Al, cl, Ap, cp, g, hblk, hrl, hal, hcl, hap, hgp, hpt⟩ := hS.it
  have hpl : (ps1 xs).length = nblk xs.length := partsK_len _ _ _
  have hps : (ps1 xs)[k]? = some (pk1 (lensL xs) (chunk xs k)) := partsK_get _ _ hk
  obtain ⟨A, c, q0, q1, q2, q3, q4, q5⟩ := (hpt k _ hps).it
  have hAp := hap (by omega)
  subst hAp
  have hnk := nblk_lt hk
  have hcl64 : (chunk xs k).length = min 64 (xs.length - 64 * k) := chunk_len _ _
  have hLO := lens_lenOk hx
  have hsy : SymOk (lensL xs) (chunk xs k) := lens_sym hx (fun x h => chunk_mem h)
  have hlen := encB_len_le hLO (chunk xs k)
  have h0 : 0 < (lensL xs).length := by
    obtain ⟨y, hy⟩ := List.exists_mem_of_length_pos (show 0 < xs.length by omega)
    have := mxL_lt hy
    rw [lens_len]
    omega
  have hpk : (pk (encB (lensL xs) (chunk xs k))).length = ((encB (lensL xs) (chunk xs k)).length + 7) / 8 := pk_len _
  have hDE := dec_enc hLO (chunk xs k) [] [] (encB (lensL xs) (chunk xs k)) hsy rfl
  rw [List.nil_append, List.length_nil] at hDE
  have HDC := fun (W : World) (hW : Below w.heap.size w W) => hDecode_ok Al A cl c (lensL xs) (pk (encB (lensL xs) (chunk xs k))) (encB (lensL xs) (chunk xs k)).length (chunk xs k).length W (hrl.below hW) (fun a ha => Nat.lt_of_lt_of_le (hrl.lt h0 a ha) hW.size) hLO (q2.below hW) q3 q4 (fun x hx => pk_byt _ x hx) (by rw [hpk]; omega) (by rw [hpk]; omega) (by omega)
  rw [List.take_of_length_le (show (pk (encB (lensL xs) (chunk xs k))).length ≤ ((encB (lensL xs) (chunk xs k)).length + 7) / 8 by rw [hpk]; exact Nat.le_refl _), hDE, hcl64] at HDC
  have HDC' := Lib.hid HDC
  have HSZ := Lib.hid (fun (W : World) (hW : Below w.heap.size w W) => TSize_any W p xs.length 1 (lensL xs) (ps1 xs) last bv k (hS.below hW) hl hnk)
  have a1 : w.cell? ⟨p, 1, none⟩ = some (.int .i64 1) := hblk.cell 1
  have a2 : w.cell? ⟨p, 2, none⟩ = some (.slice Al (lensL xs).length cl) := hblk.cell 2
  have a3 : w.cell? ⟨p, 3, none⟩ = some (.slice (some ⟨g, 0, none⟩) (ps1 xs).length cp) := hblk.cell 3
  have a4 : w.cell? ⟨p, 4, none⟩ = some (.int .i64 last) := hblk.cell 4
  have hb0 : w.cell? ⟨g, k * 2, none⟩ = some (.slice A (pk (encB (lensL xs) (chunk xs k))).length c) := q0
  have hbb1 : w.cell? ⟨g, k * 2 + 1, none⟩ = some (.int .i64 (encB (lensL xs) (chunk xs k)).length) := q1
  have HS := Lib.hid hS
  have HKK := Lib.hid hK
  have HKN := Lib.hid hk
  have hnk64 := nblk_le hl
  rw [hpl] at a3
  have HCL := Lib.hid hcl64
  obtain ⟨m, hm⟩ : ∃ m, m = nblk xs.length := ⟨_, rfl⟩
  rw [← hm] at a3 hk hnk64
  obtain ⟨ql, hql⟩ : ∃ ql, ql = (lensL xs).length := ⟨_, rfl⟩
  obtain ⟨pl, hppl⟩ : ∃ pl, pl = (pk (encB (lensL xs) (chunk xs k))).length := ⟨_, rfl⟩
  obtain ⟨el, hel⟩ : ∃ el, el = (encB (lensL xs) (chunk xs k)).length := ⟨_, rfl⟩
  obtain ⟨sz, hsz⟩ : ∃ sz, sz = min 64 (xs.length - 64 * k) := ⟨_, rfl⟩
  rw [← hql] at a2
  rw [← hppl] at hb0
  rw [← hel] at hbb1
  rw [← hql, ← hppl, ← hel, ← hsz] at HDC'
  rw [← hsz] at HSZ HCL
  have t1 : ((last : Int) == (k : Int) + 1) = false := by rw [beq_eq_false_iff_ne]; omega
  have g1 : (k : Int) < (m : Int) := by omega
  have g2 : (0 : Int) ≤ (k : Int) := by omega
  have g3 : (k : Int) * 2 = ((k * 2 : Nat) : Int) := by omega
  have hpw := hblk.lt
  have BD : Below w.heap.size w w.drew := belDrew w _
  have HSZ0 := Lib.hid (HSZ.out w.drew BD)
  have HDC0 : Hid (Calls Try.prog 34 #[.slice Al ql cl, .slice A pl c, .int .i64 el, .int .i64 sz] w.drew fun e w' => ∃ v', e = .returned (.tuple #[v', .int .i64 0]) ∧ OwnN w' w.drew.heap.size v' (chunk xs k) ∧ Below w.drew.heap.size w.drew w') := Lib.hid ((HDC'.out w.drew BD).mono fun e w' h => by
    rcases h with ⟨_, v1, h1, h2, h3⟩ | ⟨hne, _⟩
    · exact ⟨v1, h1, h2, h3⟩
    · exact absurd rfl hne)
  clear hS hblk hrl hal hcl hap hpt hpl hps q0 q1 q2 q3 q4 q5 hlen hpk hDE HDC hm hql hppl hel hsz hK hl hx hla hLO hsy h0 hcl64 hnk HSZ HDC' BD
  go_enter Try.func22, Try.ntmps22
  go_wp2_with fail
  go_region_held3 (fun w' => w'.cell? ⟨p, 2, none⟩ = some (.slice Al ql cl) ∧ w'.cell? ⟨p, 3, none⟩ = some (.slice (some ⟨g, 0, none⟩) m cp) ∧ w'.cell? ⟨g, k * 2, none⟩ = some (.slice A pl c) ∧ w'.cell? ⟨g, k * 2 + 1, none⟩ = some (.int .i64 el))
    (first | (with_reducible exact K1) | exact ⟨a2, a3, hb0, hbb1⟩ | go_keep)
    (first
      | (go_at_call 35
         refine HSZ0.out.mono ?_
         rintro e w4 ⟨rfl, rfl⟩)
      | (go_at_call 34
         refine HDC0.out.mono ?_
         rintro e w1 ⟨v1, rfl, ho1, hb1⟩
         have K1 : w1.cell? ⟨p, 2, none⟩ = some (.slice Al ql cl) ∧ w1.cell? ⟨p, 3, none⟩ = some (.slice (some ⟨g, 0, none⟩) m cp) ∧ w1.cell? ⟨g, k * 2, none⟩ = some (.slice A pl c) ∧ w1.cell? ⟨g, k * 2 + 1, none⟩ = some (.int .i64 el) := ⟨cell_kept hb1 a2, cell_kept hb1 a3, cell_kept hb1 hb0, cell_kept hb1 hbb1⟩
         have HO1 := Lib.hid ho1
         have HB1 := Lib.hid hb1
         clear ho1 hb1))
  have HS1 := Lib.hid ((HS.out.below (belDrew w _)).below HB1.out)
  have HBW : Hid (Below w.heap.size w w1) := Lib.hid ((belDrew w _).trans HB1.out)
  have ho1 := HO1.out
  obtain ⟨_, A1, c1, rfl, _, _, hc1, _⟩ := own_rd ho1
  obtain ⟨_, _, _, _, _, hblk1, _⟩ := HS1.out.it
  have b4 : w1.cell? ⟨p, 4, none⟩ = some (.int .i64 last) := hblk1.cell 4
  have b5 : w1.cell? ⟨p, 5, none⟩ = some bv := hblk1.cell 5
  have f4 : w1.frozen? ⟨p, 4, none⟩ = false := hblk1.free 4
  have f5 : w1.frozen? ⟨p, 5, none⟩ = false := hblk1.free 5
  have hp1 : p < w1.heap.size := hblk1.lt
  have HNE : Hid (∀ b, A1 = some b → b.block ≠ p) := Lib.hid (fun b hb e => by
    subst hb
    have h9 := own_ne ho1 hblk1 (by decide)
    rcases ho1.2 with ⟨e2, _⟩ | ⟨g2, cap, cur, e2, _⟩
    · injection e2 with e2; cases e2
    · injection e2 with e2
      injection e2 with e2
      subst e2
      simp only at e
      exact h9 (by rw [← e]; rfl))
  have HC1 := Lib.hid hc1
  have HAB : Hid (∀ b, A1 = some b → w.heap.size ≤ b.block) := Lib.hid (own_base ho1)
  have HRD := Lib.hid ho1.rd.1
  clear ho1 hblk1 hc1 a1 a2 a3 a4 hb0 hbb1 K1 HO1
  obtain ⟨m1, hm1⟩ : ∃ m1, m1 = (chunk xs k).length := ⟨_, rfl⟩
  have HM1 := Lib.hid hm1
  rw [← hm1]
  clear hm1
  go_wp2
  go_ret
  have hs9 := HS1.out.cache (k + 1) (.slice A1 m1 c1)
  have e9 : ((k + 1 : Nat) : Int) = (k : Int) + 1 := by omega
  rw [e9] at hs9
  have hr9 : RdN ((w1.setCell ⟨p, 4, none⟩ (.int .i64 ((k : Int) + 1))).setCell ⟨p, 5, none⟩ (.slice A1 m1 c1)) A1 (chunk xs k) := (HRD.out.set_ p 4 _ HNE.out).set_ p 5 _ HNE.out
  refine ⟨A1, c1, by rw [← HM1.out]; rfl, hr9, HC1.out, ⟨k + 1, .slice A1 m1 c1, ?_, .inr ⟨k, A1, c1, HKN.out, rfl, by rw [← HM1.out], hr9, HC1.out, HNE.out⟩, by omega⟩, str_grown p _ _ HBW.out, by rw [← HM1.out]; exact dcx_set HBW.out hpw hs9 HAB.out⟩
  obtain ⟨h1, h2, h3⟩ := HKK.out
  rw [h1, h2, h3]
  exact hs9
theorem decode_any (w : World) (p : Nat) (xs : List Nat) (k : Nat) (hX : StrX w p xs) (hk : k < nblk xs.length) (hl : xs.length ≤ 4096) (hx : Lt1024 xs) :
    Calls Try.prog 22 #[.pointer (some ⟨p, 0, none⟩), .int .i64 k] w (DcPost w p xs k) := by
  have hX2 := hX
  obtain ⟨last, bv, hS, hC, hlb⟩ := hX
  by_cases hla : last = k + 1
  · subst hla
    rcases hC with e | ⟨k', A, c, h1, h2, h3, h4, h5, h6⟩
    · omega
    · obtain rfl : k' = k := by omega
      subst h3
      exact decode_hit w p xs k' A c hS h4 h5 hX2 (by have := nblk_le hl; omega)
  · by_cases hy : (pay1 xs).length < (pay0 xs).length
    · have hK : kindL xs = 1 ∧ lsL xs = lensL xs ∧ psL xs = ps1 xs := by unfold kindL lsL psL; rw [if_pos hy, if_pos hy, if_pos hy]; exact ⟨rfl, rfl, rfl⟩
      rw [hK.1, hK.2.1, hK.2.2] at hS
      exact decode_1 w p xs k last bv hS hK hk hl hx hla hlb
    · have hK : kindL xs = 0 ∧ lsL xs = [] ∧ psL xs = ps0 xs := by unfold kindL lsL psL; rw [if_neg hy, if_neg hy, if_neg hy]; exact ⟨rfl, rfl, rfl⟩
      rw [hK.1, hK.2.1, hK.2.2] at hS
      exact decode_0 w p xs k last bv hS hK hk hl hx hla hlb

/-! ### At -/
theorem at_get {xs : List Nat} {i : Nat} (h : i < xs.length) : (chunk xs (i / 64)).getD (i % 64) 0 = xs.getD i 0 := by
  rw [chunk_get xs _ _ (Nat.mod_lt _ (by omega)), show 64 * (i / 64) + i % 64 = i by omega]
theorem at_blk {n i : Nat} (h : i < n) : i / 64 < nblk n := by unfold nblk; omega
set_option maxRecDepth 100000 in
set_option maxHeartbeats 6400000 in
theorem At_ok (w : World) (p : Nat) (xs : List Nat) (i : Nat) (hX : StrX w p xs) (hi : i < xs.length) (hl : xs.length ≤ 4096) (hx : Lt1024 xs) :
    Calls Try.prog 12 #[.pointer (some ⟨p, 0, none⟩), .int .i64 i] w fun e w' => e = .returned (.tuple #[.int .i64 (xs.getD i 0 : Nat), .bool true]) ∧ StrX w' p xs ∧ w.grownBy w' (some p) := by
  have HDC := Lib.hid (decode_any w p xs (i / 64) hX (at_blk hi) hl hx)
  obtain ⟨last, bv, hS, _, _⟩ := hX
  obtain ⟨_, _, _, _, _, hblk, _⟩ := hS.it
  have a0 : w.cell? ⟨p, 0, none⟩ = some (.int .i64 xs.length) := hblk.cell 0
  have HG : Hid ((chunk xs (i / 64)).getD (i % 64) 0 = xs.getD i 0) := Lib.hid (at_get hi)
  have hcl := chunk_len xs (i / 64)
  have hrm : i % 64 < (chunk xs (i / 64)).length := by rw [hcl]; omega
  obtain ⟨n, hn⟩ : ∃ n, n = xs.length := ⟨_, rfl⟩
  rw [← hn] at a0
  obtain ⟨k, hk⟩ : ∃ k, k = i / 64 := ⟨_, rfl⟩
  obtain ⟨j, hj⟩ : ∃ j, j = i % 64 := ⟨_, rfl⟩
  rw [← hk] at HDC HG hrm
  rw [← hj] at HG hrm
  have ek : (i : Int) / 64 = (k : Int) := by omega
  have ej : (i : Int) % 64 = (j : Int) := by omega
  have ejt : Int.tmod (i : Int) 64 = (j : Int) := by rw [Int.tmod_eq_emod_of_nonneg (by omega)]; exact ej
  have t1 : ¬ (i : Int) < 0 := by omega
  have t2 : ¬ (n : Int) ≤ (i : Int) := by omega
  have hi4 : i ≤ 4096 := by omega
  clear hS hblk hcl hn hk hj hx hl hi
  go_enter Try.func12, Try.ntmps12
  go_wp2_with fail
  refine HDC.out.mono ?_
  rintro e w1 ⟨A, c, rfl, hrd, hc, hx1, hg1, _⟩
  obtain ⟨b, o, rfl, cc⟩ := hrd (by omega)
  have ck := cc j hrm
  obtain ⟨m, hm⟩ : ∃ m, m = (chunk xs k).length := ⟨_, rfl⟩
  rw [← hm] at hrm ⊢
  rw [HG.out] at ck
  have HX1 := Lib.hid hx1
  have HG1 := Lib.hid hg1
  obtain ⟨v, hv⟩ : ∃ v, v = xs.getD i 0 := ⟨_, rfl⟩
  rw [← hv] at ck
  have HV := Lib.hid hv
  have g1 : (0 : Int) ≤ (j : Int) := by omega
  have g2 : (j : Int) < (m : Int) := by omega
  clear hrd cc hm hv hx1 hg1 hc HDC a0
  go_wp2
  go_ret2
  rw [← HV.out]
  exact ⟨rfl, HX1.out, HG1.out⟩
set_option maxRecDepth 100000 in
set_option maxHeartbeats 6400000 in
theorem At_no (w : World) (p : Nat) (xs : List Nat) (i : Int) (hX : StrX w p xs) (hi : i < 0 ∨ (xs.length : Int) ≤ i) :
    Calls Try.prog 12 #[.pointer (some ⟨p, 0, none⟩), .int .i64 i] w fun e w' => e = .returned (.tuple #[.int .i64 0, .bool false]) ∧ w' = w := by
  obtain ⟨last, bv, hS, _, _⟩ := hX
  obtain ⟨_, _, _, _, _, hblk, _⟩ := hS.it
  have a0 : w.cell? ⟨p, 0, none⟩ = some (.int .i64 xs.length) := hblk.cell 0
  obtain ⟨n, hn⟩ : ∃ n, n = xs.length := ⟨_, rfl⟩
  rw [← hn] at a0 hi
  clear hS hblk hn
  by_cases h0 : i < 0
  · go_enter Try.func12, Try.ntmps12
    go_wp2
    go_ret2
    exact ⟨rfl, rfl⟩
  · have t2 : (n : Int) ≤ i := by omega
    clear hi
    go_enter Try.func12, Try.ntmps12
    go_wp2
    go_ret2
    exact ⟨rfl, rfl⟩
end Go.Proofs.Ytnldnaogbadajaa.Tb
