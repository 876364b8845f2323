/- Plain: the cyclic check, bit by bit and by a table. -/
namespace Go.Proofs.Ytlpdligkjihkeaa.Tb

def stp (v : Nat) : Nat := if v % 2 = 1 then (v / 2) ^^^ 2197175160 else v / 2
def stpN : Nat → Nat → Nat
  | 0, v => v
  | k + 1, v => stp (stpN k v)
theorem stp_lt {v : Nat} (h : v < 4294967296) : stp v < 4294967296 := by
  unfold stp
  split
  · exact Nat.xor_lt_two_pow (n := 32) (by omega) (by omega)
  · omega
theorem stpN_lt {v : Nat} (h : v < 4294967296) : ∀ k, stpN k v < 4294967296
  | 0 => h
  | k + 1 => stp_lt (stpN_lt h k)
theorem stpN_add (a : Nat) (v : Nat) : ∀ b, stpN (a + b) v = stpN b (stpN a v)
  | 0 => rfl
  | b + 1 => by show stp (stpN (a + b) v) = stp (stpN b (stpN a v)); rw [stpN_add a v b]
theorem xor_odd (a b : Nat) : (a ^^^ b) % 2 = 1 ↔ ¬ (a % 2 = 1 ↔ b % 2 = 1) := by
  have h := Nat.testBit_xor a b 0
  simp only [Nat.testBit_zero] at h
  by_cases ha : a % 2 = 1 <;> by_cases hb : b % 2 = 1 <;> simp_all
theorem stp_xor (a b : Nat) : stp (a ^^^ b) = stp a ^^^ stp b := by
  unfold stp
  have hd : (a ^^^ b) / 2 = a / 2 ^^^ b / 2 := by have := Nat.shiftRight_xor_distrib (a := a) (b := b) (i := 1); rwa [Nat.shiftRight_eq_div_pow, Nat.shiftRight_eq_div_pow, Nat.shiftRight_eq_div_pow] at this
  rw [hd]
  have ho := xor_odd a b
  by_cases ha : a % 2 = 1 <;> by_cases hb : b % 2 = 1
  · rw [if_neg (by rw [ho]; simp [ha, hb]), if_pos ha, if_pos hb]
    apply Nat.eq_of_testBit_eq
    intro i
    simp only [Nat.testBit_xor]
    cases (a / 2).testBit i <;> cases (b / 2).testBit i <;> cases (Nat.testBit 2197175160 i) <;> rfl
  · rw [if_pos (by rw [ho]; simp [ha, hb]), if_pos ha, if_neg hb]
    apply Nat.eq_of_testBit_eq
    intro i
    simp only [Nat.testBit_xor]
    cases (a / 2).testBit i <;> cases (b / 2).testBit i <;> cases (Nat.testBit 2197175160 i) <;> rfl
  · rw [if_pos (by rw [ho]; simp [ha, hb]), if_neg ha, if_pos hb]
    apply Nat.eq_of_testBit_eq
    intro i
    simp only [Nat.testBit_xor]
    cases (a / 2).testBit i <;> cases (b / 2).testBit i <;> cases (Nat.testBit 2197175160 i) <;> rfl
  · rw [if_neg (by rw [ho]; simp [ha, hb]), if_neg ha, if_neg hb]
theorem stpN_xor (a b : Nat) : ∀ k, stpN k (a ^^^ b) = stpN k a ^^^ stpN k b
  | 0 => rfl
  | k + 1 => by show stp _ = stp _ ^^^ stp _; rw [stpN_xor a b k, stp_xor]
theorem stp_even (m : Nat) : stp (2 * m) = m := by
  unfold stp
  rw [if_neg (by omega)]
  omega
theorem add_xor (q r : Nat) (h : r < 16) : 16 * q + r = 16 * q ^^^ r := by
  apply Nat.eq_of_testBit_eq
  intro i
  have e1 := Nat.testBit_two_pow_mul_add (i := 4) (b := r) q (by omega) i
  have e2 := Nat.testBit_two_pow_mul (i := 4) (a := q) (j := i)
  rw [show (2 : Nat) ^ 4 = 16 from rfl] at e1 e2
  rw [Nat.testBit_xor, e1, e2]
  by_cases hi : i < 4
  · rw [if_pos hi]
    have : ¬ i ≥ 4 := by omega
    simp [this]
  · rw [if_neg hi]
    have hr : r.testBit i = false := Nat.testBit_lt_two_pow (Nat.lt_of_lt_of_le h (by rw [show 16 = 2 ^ 4 from rfl]; exact Nat.pow_le_pow_right (by omega) (by omega)))
    have : i ≥ 4 := by omega
    simp [this, hr]
/-- Four steps by the table. -/
theorem four (v : Nat) : (v / 16) ^^^ stpN 4 (v % 16) = stpN 4 v := by
  have e : v = 16 * (v / 16) ^^^ (v % 16) := by rw [← add_xor _ _ (by omega)]; omega
  have e4 : stpN 4 (16 * (v / 16)) = v / 16 := by
    show stp (stp (stp (stp (16 * (v / 16))))) = _
    rw [show 16 * (v / 16) = 2 * (2 * (2 * (2 * (v / 16)))) by omega, stp_even, stp_even, stp_even, stp_even]
  have := stpN_xor (16 * (v / 16)) (v % 16) 4
  rw [← e, e4] at this
  exact this.symm
def byteStep (v c : Nat) : Nat := stpN 8 (v ^^^ c)
theorem byteStep_lt {v c : Nat} (h : v < 4294967296) (hc : c < 256) : byteStep v c < 4294967296 :=
  stpN_lt (Nat.xor_lt_two_pow (n := 32) (by omega) (by omega)) 8
theorem byteStep_eq (v c : Nat) : byteStep v c = (((v ^^^ c) / 16 ^^^ stpN 4 ((v ^^^ c) % 16)) / 16) ^^^ stpN 4 (((v ^^^ c) / 16 ^^^ stpN 4 ((v ^^^ c) % 16)) % 16) := by
  rw [four, four, ← stpN_add 4 (v ^^^ c) 4]
  rfl
def sumTo (bs : List Nat) : Nat := bs.foldl byteStep 4294967295
theorem sumTo_lt : ∀ (bs : List Nat) (v : Nat), v < 4294967296 → (∀ x ∈ bs, x < 256) → bs.foldl byteStep v < 4294967296
  | [], v, h, _ => h
  | c :: bs, v, h, hb => sumTo_lt bs (byteStep v c) (byteStep_lt h (hb c (by simp))) (fun x hx => hb x (by simp [hx]))
def crc (bs : List Nat) : Nat := 4294967295 ^^^ sumTo bs
theorem sumTo_snoc (bs : List Nat) (c : Nat) : sumTo (bs ++ [c]) = byteStep (sumTo bs) c := by simp [sumTo]
theorem crc_lt (bs : List Nat) (h : ∀ x ∈ bs, x < 256) : crc bs < 4294967296 := Nat.xor_lt_two_pow (n := 32) (by omega) (sumTo_lt bs 4294967295 (by omega) h)
/-- The four bytes of a sum. -/
def sumB (v : Nat) : List Nat := [v % 256, v / 256 % 256, v / 65536 % 256, v / 16777216 % 256]
def sealL (bs : List Nat) : List Nat := bs ++ sumB (crc bs)
theorem sumB_len (v : Nat) : (sumB v).length = 4 := rfl
theorem sealL_len (bs : List Nat) : (sealL bs).length = bs.length + 4 := by simp [sealL, sumB_len]
theorem sumB_byt (v : Nat) : ∀ x ∈ sumB v, x < 256 := by
  intro x hx
  simp [sumB] at hx
  omega
end Go.Proofs.Ytlpdligkjihkeaa.Tb
