/- Plain: numbers of variable length. -/
namespace Go.Proofs.Ytlpdligkjihkeaa.Tb

def uv (v : Nat) : List Nat := if v < 128 then [v] else (v % 128 + 128) :: uv (v / 128)
termination_by v
decreasing_by omega
theorem uv_lo {v : Nat} (h : v < 128) : uv v = [v] := by rw [uv, if_pos h]
theorem uv_hi {v : Nat} (h : ¬ v < 128) : uv v = (v % 128 + 128) :: uv (v / 128) := by rw [uv, if_neg h]
theorem uv_byt (v : Nat) : ∀ x ∈ uv v, x < 256 := by
  induction v using Nat.strongRecOn with
  | ind v ih =>
    intro x hx
    by_cases h : v < 128
    · rw [uv_lo h] at hx
      simp at hx
      omega
    · rw [uv_hi h] at hx
      rcases List.mem_cons.1 hx with rfl | hx
      · omega
      · exact ih (v / 128) (by omega) x hx
theorem uv_pos (v : Nat) : 0 < (uv v).length := by
  by_cases h : v < 128
  · rw [uv_lo h]; simp
  · rw [uv_hi h]; simp
theorem uv_len (v : Nat) : ∀ k, v < 128 ^ (k + 1) → (uv v).length ≤ k + 1 := by
  induction v using Nat.strongRecOn with
  | ind v ih =>
    intro k hk
    by_cases h : v < 128
    · rw [uv_lo h]; simp
    · rw [uv_hi h]
      cases k with
      | zero => simp at hk; omega
      | succ k =>
        have := ih (v / 128) (by omega) k (by rw [Nat.pow_succ] at hk; omega)
        simpa using this
theorem uv_len10 {v : Nat} (h : v < 18446744073709551616) : (uv v).length ≤ 10 := uv_len v 9 (by
  have : (18446744073709551616 : Nat) ≤ 128 ^ (9 + 1) := by decide
  omega)

/-- What is read: the number, the bytes that it took, 0; or 0, 0, the error. -/
def tk : List Nat → Nat → Nat → Nat × Nat × Int
  | [], _, _ => (0, 0, 10)
  | c :: cs, i, v => if i = 9 ∧ c ≠ 1 then (0, 0, 9) else if c < 128 then (if c = 0 ∧ 0 < i then (0, 0, 9) else (v + c * 128 ^ i, i + 1, 0)) else tk cs (i + 1) (v + (c - 128) * 128 ^ i)

/-- A number that was written is read. -/
theorem tk_uv (rest : List Nat) (u : Nat) : ∀ (i v : Nat), (i = 0 ∨ 0 < u) → i ≤ 9 → u * 128 ^ i < 18446744073709551616 → tk (uv u ++ rest) i v = (v + u * 128 ^ i, i + (uv u).length, 0) := by
  induction u using Nat.strongRecOn with
  | ind u ih =>
    intro i v hi h9 hu
    by_cases h : u < 128
    · rw [uv_lo h]
      simp only [List.cons_append, List.nil_append, List.length_cons, List.length_nil]
      unfold tk
      have h1 : ¬ (i = 9 ∧ u ≠ 1) := by
        rintro ⟨rfl, hne⟩
        have : (128 : Nat) ^ 9 = 9223372036854775808 := by decide
        rw [this] at hu
        omega
      have h2 : ¬ (u = 0 ∧ 0 < i) := by omega
      rw [if_neg h1, if_pos h, if_neg h2]
    · rw [uv_hi h]
      simp only [List.cons_append, List.length_cons]
      unfold tk
      have h9' : i < 9 := by
        rcases Nat.lt_or_ge i 9 with h | h
        · exact h
        · obtain rfl : i = 9 := by omega
          have : (128 : Nat) ^ 9 = 9223372036854775808 := by decide
          rw [this] at hu
          omega
      have e1 : 128 ^ (i + 1) = 128 ^ i * 128 := Nat.pow_succ _ _
      have e2 : u / 128 * (128 ^ i * 128) ≤ u * 128 ^ i := by
        rw [Nat.mul_comm (128 ^ i) 128, ← Nat.mul_assoc]
        exact Nat.mul_le_mul_right _ (by omega)
      rw [if_neg (by omega), if_neg (by omega), ih (u / 128) (by omega) (i + 1) _ (.inr (by omega)) (by omega) (by rw [e1]; omega)]
      have e3 : (u % 128 + 128 - 128) * 128 ^ i + u / 128 * 128 ^ (i + 1) = u * 128 ^ i := by
        rw [e1, Nat.mul_comm (128 ^ i) 128, ← Nat.mul_assoc, ← Nat.add_mul]
        rw [show u % 128 + 128 - 128 + u / 128 * 128 = u by omega]
      rw [Nat.add_assoc, e3, Nat.add_assoc, Nat.add_comm 1]
theorem take_uv (u : Nat) (rest : List Nat) (h : u < 18446744073709551616) : tk (uv u ++ rest) 0 0 = (u, (uv u).length, 0) := by
  rw [tk_uv rest u 0 0 (.inl rfl) (by omega) (by rw [Nat.pow_zero, Nat.mul_one]; exact h)]
  rw [Nat.pow_zero, Nat.mul_one, Nat.zero_add, Nat.zero_add]
/-- What is read was written. -/
theorem tk_inv : ∀ (bs : List Nat) (i v a n : Nat) (e : Int), (∀ x ∈ bs, x < 256) → i ≤ 9 → tk bs i v = (a, n, e) → (e = 9 ∨ e = 10) ∧ a = 0 ∧ n = 0 ∨
    e = 0 ∧ ∃ u rest, bs = uv u ++ rest ∧ a = v + u * 128 ^ i ∧ n = i + (uv u).length ∧ u * 128 ^ i < 18446744073709551616 ∧ (i = 0 ∨ 0 < u)
  | [], i, v, a, n, e, _, _, h => by
    unfold tk at h
    injection h with h1 h
    injection h with h2 h3
    exact .inl ⟨.inr h3.symm, h1.symm, h2.symm⟩
  | c :: cs, i, v, a, n, e, hb, h9, h => by
    unfold tk at h
    have hc := hb c (by simp)
    by_cases h1 : i = 9 ∧ c ≠ 1
    · rw [if_pos h1] at h
      injection h with h1 h
      injection h with h2 h3
      exact .inl ⟨.inl h3.symm, h1.symm, h2.symm⟩
    · rw [if_neg h1] at h
      have e9 : (128 : Nat) ^ 9 = 9223372036854775808 := by decide
      by_cases h2 : c < 128
      · rw [if_pos h2] at h
        by_cases h3 : c = 0 ∧ 0 < i
        · rw [if_pos h3] at h
          injection h with h1 h
          injection h with h2 h3
          exact .inl ⟨.inl h3.symm, h1.symm, h2.symm⟩
        · rw [if_neg h3] at h
          injection h with k1 h
          injection h with k2 k3
          refine .inr ⟨k3.symm, c, cs, by rw [uv_lo h2]; rfl, k1.symm, by rw [uv_lo h2, ← k2]; rfl, ?_, by omega⟩
          rcases Nat.lt_or_ge i 9 with hi | hi
          · have := Nat.pow_le_pow_right (n := 128) (by omega) (show i ≤ 8 by omega)
            have e8 : (128 : Nat) ^ 8 = 72057594037927936 := by decide
            have := Nat.mul_le_mul (show c ≤ 127 by omega) this
            omega
          · obtain rfl : i = 9 := by omega
            rw [e9]
            omega
      · rw [if_neg h2] at h
        have hi : i < 9 := by omega
        rcases tk_inv cs (i + 1) (v + (c - 128) * 128 ^ i) a n e (fun x hx => hb x (by simp [hx])) (by omega) h with hh | ⟨k0, u, rest, k1, k2, k3, k4, k5⟩
        · exact .inl hh
        · have e1 : 128 ^ (i + 1) = 128 ^ i * 128 := Nat.pow_succ _ _
          have hu : 0 < u := by omega
          have ec : (c - 128 + u * 128) * 128 ^ i = (c - 128) * 128 ^ i + u * 128 ^ (i + 1) := by
            rw [e1, Nat.mul_comm (128 ^ i) 128, ← Nat.mul_assoc, ← Nat.add_mul]
          have euv : uv (c - 128 + u * 128) = c :: uv u := by
            rw [uv_hi (by omega), show (c - 128 + u * 128) % 128 + 128 = c by omega, show (c - 128 + u * 128) / 128 = u by omega]
          refine .inr ⟨k0, c - 128 + u * 128, rest, by rw [euv, k1]; rfl, by rw [k2, ec]; omega, by rw [k3, euv]; simp; omega, ?_, by omega⟩
          rw [ec]
          -- the sum is below 2^64: u * 128^(i+1) is a multiple of 128^(i+1)
          have hd : 128 ^ (i + 1) * 128 ^ (9 - (i + 1)) = 128 ^ 9 := by rw [← Nat.pow_add, show i + 1 + (9 - (i + 1)) = 9 by omega]
          rw [e9] at hd
          have hlt : (c - 128) * 128 ^ i < 128 ^ (i + 1) := by
            rw [e1, Nat.mul_comm]
            exact Nat.mul_lt_mul_of_pos_left (by omega) (Nat.pow_pos (by omega))
          obtain ⟨P, hP⟩ : ∃ P, P = 128 ^ (i + 1) := ⟨_, rfl⟩
          obtain ⟨Q, hQ⟩ : ∃ Q, Q = 128 ^ (9 - (i + 1)) := ⟨_, rfl⟩
          rw [← hP] at hd hlt k4 ⊢
          rw [← hQ] at hd
          have hP0 : 0 < P := by rw [hP]; exact Nat.pow_pos (by omega)
          have h2Q : u < 2 * Q := by
            rcases Nat.lt_or_ge u (2 * Q) with hh | hh
            · exact hh
            · have := Nat.mul_le_mul_right P hh
              have e5 : 2 * Q * P = 2 * (P * Q) := by rw [Nat.mul_assoc, Nat.mul_comm Q P]
              omega
          have : (u + 1) * P ≤ 2 * Q * P := Nat.mul_le_mul_right P (by omega)
          have e5 : 2 * Q * P = 2 * (P * Q) := by rw [Nat.mul_assoc, Nat.mul_comm Q P]
          have e6 : (u + 1) * P = u * P + P := by rw [Nat.add_mul, Nat.one_mul]
          omega
/-- What is read, in one word. -/
theorem take_cases (bs : List Nat) (hb : ∀ x ∈ bs, x < 256) : (∃ u rest, bs = uv u ++ rest ∧ u < 18446744073709551616 ∧ tk bs 0 0 = (u, (uv u).length, 0)) ∨ (∃ e : Int, (e = 9 ∨ e = 10) ∧ tk bs 0 0 = (0, 0, e) ∧ ∀ u rest, u < 18446744073709551616 → bs ≠ uv u ++ rest) := by
  obtain ⟨⟨a, n, e⟩, hr⟩ : ∃ r, r = tk bs 0 0 := ⟨_, rfl⟩
  rcases tk_inv bs 0 0 a n e hb (by omega) hr.symm with ⟨he, rfl, rfl⟩ | ⟨rfl, u, rest, k1, k2, k3, k4, _⟩
  · refine .inr ⟨e, he, hr.symm, fun u rest hu hbs => ?_⟩
    rw [hbs, take_uv u rest hu] at hr
    injection hr with h1 hr
    injection hr with h2 h3
    omega
  · refine .inl ⟨u, rest, k1, by rw [Nat.pow_zero, Nat.mul_one] at k4; exact k4, ?_⟩
    rw [← hr]
    rw [Nat.pow_zero, Nat.mul_one, Nat.zero_add] at k2
    rw [Nat.zero_add] at k3
    rw [k2, k3]
theorem uv_inj {a b : Nat} {r s : List Nat} (ha : a < 18446744073709551616) (hb : b < 18446744073709551616) (h : uv a ++ r = uv b ++ s) : a = b ∧ r = s := by
  have e := take_uv a r ha
  rw [h, take_uv b s hb] at e
  injection e with e1 e
  subst e1
  exact ⟨rfl, List.append_cancel_left h⟩
end Go.Proofs.Ytlpdligkjihkeaa.Tb
