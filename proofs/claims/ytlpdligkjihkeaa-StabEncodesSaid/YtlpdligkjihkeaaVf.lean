/- Unseal, walked. -/
import Derived.Test.YtlpdligkjihkeaaVe
import Derived.Laws.StructEq
set_option linter.unusedVariables false
set_option linter.unusedSimpArgs false
namespace Go.Proofs.Ytlpdligkjihkeaa.Tb
open Go.RowKit

set_option maxHeartbeats 1600000 in
theorem Unseal_short (A : Option Addr) (n c : Nat) (w : World) (h : n < 4) :
    Calls Try.prog 38 #[.slice A n c] w fun e w' => e = .returned (.tuple #[.slice none 0 0, .int .i64 10]) ∧ w' = w := by
  go_enter Try.func38, Try.ntmps38
  go_wp2
  go_ret2
  exact ⟨rfl, rfl⟩

theorem arr_at (b o c : Nat) (w : World) : (Instr.arrayAt 79 (.slice (some ⟨b, o, none⟩) 4 c)).run Try.prog w = .ok (.pointer (some ⟨b, o, none⟩)) w := by
  simp [Instr.arrayAt, run_underlying Try.underlying79]
theorem eq4_d (d : Nat) (b0 b1 b2 b3 t0 t1 t2 t3 : Int) (w : World) :
    (Op.equalIn (d + 2) 79 (.agg #[.int .u8 b0, .int .u8 b1, .int .u8 b2, .int .u8 b3]) (.agg #[.int .u8 t0, .int .u8 t1, .int .u8 t2, .int .u8 t3])).run Try.prog w = .ok (b0 == t0 && (b1 == t1 && (b2 == t2 && b3 == t3))) w := by
  have e1 : ∀ (a b : Int) (w : World), (Op.equalIn (d + 1) 5 (.int .u8 a) (.int .u8 b)).run Try.prog w = .ok (a == b) w := fun a b w => run_equalIn_int w d 5 .u8 .u8 a b Try.underlying5
  have hz := Try.sizeOf5
  have ha := Try.isAgg5
  show (Op.equalIn ((d + 1) + 1) 79 _ _).run Try.prog w = _
  rw [Op.equalIn]
  simp only [Sem.run_bind, run_underlying Try.underlying79, Result.andThen_ok]
  simp only [hz, Result.andThen_ok]
  simp [Std.Legacy.Range.forIn_eq_forIn_range', List.range', part, ha, hz, e1]
  by_cases h0 : b0 = t0 <;> by_cases h1 : b1 = t1 <;> by_cases h2 : b2 = t2 <;> by_cases h3 : b3 = t3 <;> simp [*]
theorem eq4 (b0 b1 b2 b3 t0 t1 t2 t3 : Nat) (r : Bool) (hr : r = decide ([b0, b1, b2, b3] = [t0, t1, t2, t3])) (w : World) :
    (Op.equalIn 10000 79 (.agg #[.int .u8 b0, .int .u8 b1, .int .u8 b2, .int .u8 b3]) (.agg #[.int .u8 t0, .int .u8 t1, .int .u8 t2, .int .u8 t3])).run Try.prog w = .ok r w := by
  refine (eq4_d 9998 b0 b1 b2 b3 t0 t1 t2 t3 w).trans ?_
  rw [hr]
  congr 1
  rw [Bool.eq_iff_iff]
  simp
  omega
theorem ownB_empty (w : World) : OwnB (w.alloc (.cells #[] 5)) w.heap.size (.slice (some ⟨w.heap.size, 0, none⟩) 0 0) [] :=
  ⟨rfl, .inr ⟨w.heap.size, 0, #[], rfl, Nat.le_refl _, heap_alloc_new w _, Nat.le_refl _, by simp [maxLen], rfl, rfl⟩⟩
theorem guard4 : Try.prog.eqGuardType Try.prog.depth 79 = false := by kernel_rfl
set_option maxRecDepth 100000 in
set_option maxHeartbeats 3200000 in
theorem Unseal_good (b o m c : Nat) (ps : List Nat) (b0 b1 b2 b3 t0 t1 t2 t3 : Nat) (w : World) (hp : ps.length = m) (ha : RdB w (some ⟨b, o, none⟩) ps) (hb : Byt ps) (hm : m ≤ 1000000000) (hc : m + 4 ≤ c) (hs : sumB (crc ps) = [b0, b1, b2, b3]) (ht : [b0, b1, b2, b3] = [t0, t1, t2, t3])
    (k0 : w.cell? ⟨b, o + m, none⟩ = some (.int .u8 t0)) (k1 : w.cell? ⟨b, o + m + 1, none⟩ = some (.int .u8 t1)) (k2 : w.cell? ⟨b, o + m + 2, none⟩ = some (.int .u8 t2)) (k3 : w.cell? ⟨b, o + m + 3, none⟩ = some (.int .u8 t3)) :
    Calls Try.prog 38 #[.slice (some ⟨b, o, none⟩) (m + 4) c] w fun e w' => ∃ v, e = .returned (.tuple #[v, .int .i64 0]) ∧ OwnB w' w.heap.size v ps ∧ Below w.heap.size w w' := by
  have HSU := Lib.hid (fun w1 (hw : Below w.heap.size w w1) => Sum_any (some ⟨b, o, none⟩) c ps w1 (ha.below hw) hb (by omega))
  have HBO := Lib.hid (fun w1 => bytesOf_any (crc ps) b0 b1 b2 b3 w1 (crc_lt ps hb) hs)
  rw [hp] at HSU
  have HA := Lib.hid ha
  have HP := Lib.hid hp
  have hk := fun (w1 : World) (hw : Below w.heap.size w w1) => And.intro (below_cell hw k0) (And.intro (below_cell hw k1) (And.intro (below_cell hw k2) (below_cell hw k3)))
  have HK := Lib.hid hk
  have K0 := HK.out w.drew (bd_drew (Below.refl _ _))
  have g1 : (0 : Int) ≤ (m : Int) := by omega
  have g2 : (m : Int) + 4 ≤ (c : Int) := by omega
  have g3 : (m : Int) ≤ (c : Int) := by omega
  have g4 : (m : Int) ≤ (m : Int) + 4 := by omega
  have g5 : m ≤ c := by omega
  have g6 : m < c := by omega
  have g7 : ¬ c = m := by omega
  have heq := fun (w : World) => eq4 b0 b1 b2 b3 t0 t1 t2 t3 true (by simp [ht]) w
  have hgd := guard4
  have ha4 := arr_at b (o + m) (c - m)
  clear ha hb hs ht hk k0 k1 k2 k3 hp
  go_enter Try.func38, Try.ntmps38
  go_wp2_with fail
  go_region_held3 (fun w' => w'.cell? ⟨b, o + m, none⟩ = some (.int .u8 t0) ∧ w'.cell? ⟨b, o + m + 1, none⟩ = some (.int .u8 t1) ∧ w'.cell? ⟨b, o + m + 2, none⟩ = some (.int .u8 t2) ∧ w'.cell? ⟨b, o + m + 3, none⟩ = some (.int .u8 t3))
    (first | (with_reducible exact K2) | (with_reducible exact K1) | (with_reducible exact K0))
    (first
      | (go_at_call 54
         with_reducible refine (HSU.out _ (bd_drew (Below.refl _ _))).mono ?_
         rintro e v1 ⟨rfl, h1⟩
         have B1 := Lib.hid (show Below w.heap.size w v1 from (bd_drew (Below.refl _ _)).trans h1)
         have K1 := HK.out v1 B1.out
         clear h1)
      | (go_at_call 53
         with_reducible refine (HBO.out _).mono ?_
         rintro e v2 ⟨rfl, h2⟩
         have B2 := Lib.hid (show Below w.heap.size w v2 from B1.out.trans (h2.mono B1.out.size))
         have K2 := HK.out v2 B2.out
         clear h2))
  all_goals
    go_wp2_with (at_builtin; refine wpList_appB (.tmp 22) (.tmp 25) v2.heap.size (.slice (some ⟨v2.heap.size, 0, none⟩) 0 0) [] (some ⟨b, o, none⟩) c ps rfl rfl (by rfl) (ownB_empty v2) (by rw [HP.out]; rfl) (fun h => by cases h) (HA.out.below (bb_alloc B2.out _ B2.out.size)) (by rw [HP.out]; simp; omega) (by simp) ?_; intro v' w' hown hb3 _ _; have HO := Lib.hid hown; have HB3 := Lib.hid hb3; clear hown hb3)
    go_ret2
    exact ⟨v', rfl, HO.out.lower B2.out.size, (bb_alloc B2.out _ B2.out.size).trans (HB3.out.mono B2.out.size)⟩
set_option maxRecDepth 100000 in
set_option maxHeartbeats 3200000 in
theorem Unseal_bad (b o m c : Nat) (ps : List Nat) (b0 b1 b2 b3 t0 t1 t2 t3 : Nat) (w : World) (hp : ps.length = m) (ha : RdB w (some ⟨b, o, none⟩) ps) (hb : Byt ps) (hm : m ≤ 1000000000) (hc : m + 4 ≤ c) (hs : sumB (crc ps) = [b0, b1, b2, b3]) (ht : ¬ [b0, b1, b2, b3] = [t0, t1, t2, t3])
    (k0 : w.cell? ⟨b, o + m, none⟩ = some (.int .u8 t0)) (k1 : w.cell? ⟨b, o + m + 1, none⟩ = some (.int .u8 t1)) (k2 : w.cell? ⟨b, o + m + 2, none⟩ = some (.int .u8 t2)) (k3 : w.cell? ⟨b, o + m + 3, none⟩ = some (.int .u8 t3)) :
    Calls Try.prog 38 #[.slice (some ⟨b, o, none⟩) (m + 4) c] w fun e w' => e = .returned (.tuple #[.slice none 0 0, .int .i64 9]) ∧ Below w.heap.size w w' := by
  have HSU := Lib.hid (fun w1 (hw : Below w.heap.size w w1) => Sum_any (some ⟨b, o, none⟩) c ps w1 (ha.below hw) hb (by omega))
  have HBO := Lib.hid (fun w1 => bytesOf_any (crc ps) b0 b1 b2 b3 w1 (crc_lt ps hb) hs)
  rw [hp] at HSU
  have HA := Lib.hid ha
  have HP := Lib.hid hp
  have hk := fun (w1 : World) (hw : Below w.heap.size w w1) => And.intro (below_cell hw k0) (And.intro (below_cell hw k1) (And.intro (below_cell hw k2) (below_cell hw k3)))
  have HK := Lib.hid hk
  have K0 := HK.out w.drew (bd_drew (Below.refl _ _))
  have g1 : (0 : Int) ≤ (m : Int) := by omega
  have g2 : (m : Int) + 4 ≤ (c : Int) := by omega
  have g3 : (m : Int) ≤ (c : Int) := by omega
  have g4 : (m : Int) ≤ (m : Int) + 4 := by omega
  have g5 : m ≤ c := by omega
  have g6 : m < c := by omega
  have g7 : ¬ c = m := by omega
  have heq := fun (w : World) => eq4 b0 b1 b2 b3 t0 t1 t2 t3 false (decide_eq_false ht).symm w
  have hgd := guard4
  have ha4 := arr_at b (o + m) (c - m)
  clear ha hb hs ht hk k0 k1 k2 k3 hp
  go_enter Try.func38, Try.ntmps38
  go_wp2_with fail
  go_region_held3 (fun w' => w'.cell? ⟨b, o + m, none⟩ = some (.int .u8 t0) ∧ w'.cell? ⟨b, o + m + 1, none⟩ = some (.int .u8 t1) ∧ w'.cell? ⟨b, o + m + 2, none⟩ = some (.int .u8 t2) ∧ w'.cell? ⟨b, o + m + 3, none⟩ = some (.int .u8 t3))
    (first | (with_reducible exact K2) | (with_reducible exact K1) | (with_reducible exact K0))
    (first
      | (go_at_call 54
         with_reducible refine (HSU.out _ (bd_drew (Below.refl _ _))).mono ?_
         rintro e v1 ⟨rfl, h1⟩
         have B1 := Lib.hid (show Below w.heap.size w v1 from (bd_drew (Below.refl _ _)).trans h1)
         have K1 := HK.out v1 B1.out
         clear h1)
      | (go_at_call 53
         with_reducible refine (HBO.out _).mono ?_
         rintro e v2 ⟨rfl, h2⟩
         have B2 := Lib.hid (show Below w.heap.size w v2 from B1.out.trans (h2.mono B1.out.size))
         have K2 := HK.out v2 B2.out
         clear h2))
  all_goals
    go_wp2
    go_ret2
    exact ⟨rfl, B2.out⟩

theorem cut4 (bs : List Nat) (h : 4 ≤ bs.length) : ∃ ps t0 t1 t2 t3, bs = ps ++ [t0, t1, t2, t3] ∧ ps = bs.take (bs.length - 4) := by
  refine ⟨bs.take (bs.length - 4), bs.getD (bs.length - 4) 0, bs.getD (bs.length - 3) 0, bs.getD (bs.length - 2) 0, bs.getD (bs.length - 1) 0, ?_, rfl⟩
  apply List.ext_getElem?
  intro i
  by_cases hi : i < bs.length - 4
  · rw [List.getElem?_append_left (by rw [List.length_take]; omega), List.getElem?_take_of_lt hi]
  · rw [List.getElem?_append_right (by rw [List.length_take]; omega)]
    have hl : (bs.take (bs.length - 4)).length = bs.length - 4 := by rw [List.length_take]; omega
    rw [hl]
    by_cases hi2 : i < bs.length
    · have e : bs[i]? = some (bs.getD i 0) := by rw [List.getD_eq_getElem?_getD, List.getElem?_eq_getElem hi2]; rfl
      rcases (show i = bs.length - 4 ∨ i = bs.length - 3 ∨ i = bs.length - 2 ∨ i = bs.length - 1 by omega) with e1 | e1 | e1 | e1
      · rw [e, e1, show bs.length - 4 - (bs.length - 4) = 0 by omega]; rfl
      · rw [e, e1, show bs.length - 3 - (bs.length - 4) = 1 by omega]; rfl
      · rw [e, e1, show bs.length - 2 - (bs.length - 4) = 2 by omega]; rfl
      · rw [e, e1, show bs.length - 1 - (bs.length - 4) = 3 by omega]; rfl
    · rw [List.getElem?_eq_none (by omega), List.getElem?_eq_none (by simp; omega)]
theorem rdB_take {w : World} {A : Option Addr} {ps ts : List Nat} (h : RdB w A (ps ++ ts)) : RdB w A ps := fun hl => by
  obtain ⟨b, o, e, hc⟩ := h (by simp; omega)
  refine ⟨b, o, e, fun j hj => ?_⟩
  rw [hc j (by simp; omega), List.getD_eq_getElem?_getD, List.getD_eq_getElem?_getD, List.getElem?_append_left hj]
theorem Byt.app {xs ys : List Nat} : Byt (xs ++ ys) ↔ Byt xs ∧ Byt ys := by
  unfold Byt
  simp only [List.mem_append]
  exact ⟨fun h => ⟨fun x hx => h x (.inl hx), fun x hx => h x (.inr hx)⟩, fun h x hx => hx.elim (h.1 x) (h.2 x)⟩
theorem seal_iff {ps ts : List Nat} (hl : ts.length = 4) : sealL ps = ps ++ ts ↔ sumB (crc ps) = ts := by
  unfold sealL
  exact List.append_cancel_left_eq _ _ _ |>.to_iff

/-- The bytes are sealed: their payload comes back. -/
theorem Unseal_ok (A : Option Addr) (c : Nat) (ps : List Nat) (w : World) (ha : RdB w A (sealL ps)) (hb : Byt ps) (hm : ps.length ≤ 1000000000) (hc : ps.length + 4 ≤ c) :
    Calls Try.prog 38 #[.slice A (ps.length + 4) c] w fun e w' => ∃ v, e = .returned (.tuple #[v, .int .i64 0]) ∧ OwnB w' w.heap.size v ps ∧ Below w.heap.size w w' := by
  obtain ⟨b, o, rfl, hcl⟩ := ha (by rw [sealL_len]; omega)
  obtain ⟨b0, b1, b2, b3, hs⟩ : ∃ b0 b1 b2 b3, sumB (crc ps) = [b0, b1, b2, b3] := ⟨_, _, _, _, rfl⟩
  have at_ : ∀ i, i < 4 → w.cell? ⟨b, o + (ps.length + i), none⟩ = some (.int .u8 ([b0, b1, b2, b3].getD i 0 : Nat)) := fun i hi => by
    rw [hcl _ (by rw [sealL_len]; omega)]
    unfold sealL
    rw [hs, List.getD_eq_getElem?_getD, List.getElem?_append_right (by omega), show ps.length + i - ps.length = i by omega, List.getD_eq_getElem?_getD]
  exact Unseal_good b o ps.length c ps b0 b1 b2 b3 b0 b1 b2 b3 w rfl (rdB_take (ts := sumB (crc ps)) ha) hb hm hc hs rfl (by simpa using at_ 0 (by omega)) (by simpa [Nat.add_assoc] using at_ 1 (by omega)) (by simpa [Nat.add_assoc] using at_ 2 (by omega)) (by simpa [Nat.add_assoc] using at_ 3 (by omega))
/-- The bytes are not sealed. -/
theorem Unseal_no (A : Option Addr) (c : Nat) (bs : List Nat) (w : World) (ha : RdB w A bs) (hb : Byt bs) (hm : bs.length ≤ 1000000000) (hc : bs.length ≤ c) (h : ∀ ps, sealL ps ≠ bs) :
    Calls Try.prog 38 #[.slice A bs.length c] w fun e w' => ∃ k, (k = 9 ∨ k = 10) ∧ e = .returned (.tuple #[.slice none 0 0, .int .i64 k]) ∧ Below w.heap.size w w' := by
  by_cases h4 : bs.length < 4
  · refine (Unseal_short A bs.length c w h4).mono ?_
    rintro e w' ⟨rfl, rfl⟩
    exact ⟨10, .inr rfl, rfl, Below.refl _ _⟩
  · obtain ⟨ps, t0, t1, t2, t3, rfl, hps⟩ := cut4 bs (by omega)
    clear hps
    have hl : (ps ++ [t0, t1, t2, t3]).length = ps.length + 4 := by simp
    obtain ⟨b, o, rfl, hcl⟩ := ha (by omega)
    obtain ⟨b0, b1, b2, b3, hs⟩ : ∃ b0 b1 b2 b3, sumB (crc ps) = [b0, b1, b2, b3] := ⟨_, _, _, _, rfl⟩
    have ht : ¬ [b0, b1, b2, b3] = [t0, t1, t2, t3] := fun e => h ps ((seal_iff rfl).2 (hs.trans e))
    have at_ : ∀ i, i < 4 → w.cell? ⟨b, o + (ps.length + i), none⟩ = some (.int .u8 ([t0, t1, t2, t3].getD i 0 : Nat)) := fun i hi => by
      rw [hcl _ (by omega)]
      rw [List.getD_eq_getElem?_getD, List.getElem?_append_right (by omega), show ps.length + i - ps.length = i by omega, List.getD_eq_getElem?_getD]
    rw [hl]
    refine (Unseal_bad b o ps.length c ps b0 b1 b2 b3 t0 t1 t2 t3 w rfl (rdB_take ha) (Byt.app.1 hb).1 (by omega) (by omega) hs ht (by simpa using at_ 0 (by omega)) (by simpa [Nat.add_assoc] using at_ 1 (by omega)) (by simpa [Nat.add_assoc] using at_ 2 (by omega)) (by simpa [Nat.add_assoc] using at_ 3 (by omega))).mono ?_
    rintro e w' ⟨rfl, hbb⟩
    exact ⟨9, .inl rfl, rfl, hbb⟩
end Go.Proofs.Ytlpdligkjihkeaa.Tb
