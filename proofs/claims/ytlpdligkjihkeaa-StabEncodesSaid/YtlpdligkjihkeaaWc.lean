/- stab.numbers, walked. -/
import Derived.Test.YtlpdligkjihkeaaWb
set_option linter.unusedVariables false
set_option linter.unusedSimpArgs false
namespace Go.Proofs.Ytlpdligkjihkeaa.Tb
open Go.RowKit

/-! ### plain: lists of numbers, written one behind the other -/
def encN (L : List Nat) : List Nat := L.flatMap uv
theorem encN_nil : encN [] = [] := rfl
theorem encN_cons (u : Nat) (L : List Nat) : encN (u :: L) = uv u ++ encN L := by simp [encN]
theorem encN_app (L M : List Nat) : encN (L ++ M) = encN L ++ encN M := by simp [encN]
theorem uv_ne (v : Nat) : uv v ≠ [] := fun h => by have := uv_pos v; rw [h] at this; simp at this
theorem encN_split : ∀ (D L r : List Nat), (∀ x ∈ D, x < 18446744073709551616) → (∀ x ∈ L, x < 18446744073709551616) → encN L = encN D ++ r → ∃ L', L = D ++ L' ∧ r = encN L'
  | [], L, r, _, _, h => ⟨L, rfl, h.symm⟩
  | d :: D, [], r, _, _, h => by
    rw [encN_cons, List.append_assoc] at h
    have := congrArg List.length h
    rw [List.length_append] at this
    have hp := uv_pos d
    simp [encN] at this
    omega
  | d :: D, l :: L, r, hD, hL, h => by
    rw [encN_cons, encN_cons, List.append_assoc] at h
    obtain ⟨e1, e2⟩ := uv_inj (hL l (by simp)) (hD d (by simp)) h
    obtain ⟨L', e3, e4⟩ := encN_split D L r (fun x hx => hD x (by simp [hx])) (fun x hx => hL x (by simp [hx])) e2
    exact ⟨L', by rw [e1, e3]; rfl, e4⟩
def SmallN (L : List Nat) : Prop := ∀ x ∈ L, x ≤ 2147483647
theorem SmallN.lt {L : List Nat} (h : SmallN L) : ∀ x ∈ L, x < 18446744073709551616 := fun x hx => by have := h x hx; omega

/-! ### rows of uint64 -/
def uvs (xs : List Nat) : List Value := xs.map fun (x : Nat) => Value.int .u64 (x : Int)
theorem uvs_len (xs : List Nat) : (uvs xs).length = xs.length := by simp [uvs]
theorem uvs_one (xs : List Nat) : ∀ u ∈ uvs xs, u.oneCell' = true := by
  intro u hu
  simp only [uvs, List.mem_map] at hu
  obtain ⟨x, _, rfl⟩ := hu
  rfl
def OwnU (w : World) (base : Nat) (v : Value) (xs : List Nat) : Prop := w.ownsRow base 59 1 v xs.length (uvs xs)
theorem OwnU.nil (w : World) (base : Nat) : OwnU w base (.slice none 0 0) [] := World.ownsRow_nil _ _ _ _
theorem OwnU.below {w w' : World} {base : Nat} {v : Value} {xs : List Nat} (h : OwnU w base v xs) (hb : Below w.heap.size w w') : OwnU w' base v xs := ownsBelow h hb
theorem infoU : (Try.prog.info? 59).map (fun i => (i.zero, i.size, i.bytes)) = some (some (.int .u64 0), 1, 8) := by kernel_rfl
theorem step_appU {w : World} {ops : Array Oper} {o : Oper} {a : Act} {K : Act → World → Prop} {Q : Exit → Act → World → Prop} {E : Prop} (s x : Operand) (base : Nat) (v : Value) (xs : List Nat) (A : Option Addr) (c : Nat) (y : Nat) (hgd : o.guard = none)
    (ho : o.op = .call { callee := .builtin .append, args := #[s, x], argTypes := #[63, 63] })
    (hs : a.eval s = v) (hown : OwnU w base v xs) (hx : a.eval x = .slice A 1 c) (hA : A = none → 1 = 0 ∧ c = 0) (hr : Rd1 w A [.int .u64 (y : Int)]) (hm : xs.length ≤ 4000000000) (hbase : base ≤ w.heap.size)
    (h : ∀ v' w', OwnU w' base v' (xs ++ [y]) → Below base w w' → K (a.put o.dst v') w') :
    if Region.wanted o (yielded ops a.tmps) = true then Oper.wp Try.prog o a w K Q else E := by
  have hw : Region.wanted o (yielded ops a.tmps) = true := by simp [Region.wanted, hgd]
  rw [if_pos hw]
  obtain ⟨i0, hi0, hz0, hz1, hz2⟩ := info_parts infoU
  refine wp_app s x _ ho base 59 i0 _ 8 Try.underlying63 hi0 hz0 hz1 hz2 rfl v xs.length (uvs xs) hs hown A 1 c [.int .u64 (y : Int)] hx hA hr rfl (by simp [Value.oneCell']) (by simp only [maxLen]; omega) (by omega) hbase fun v' w' h2 h3 h4 => h v' w' ?_ (growsBel hown hbase h3)
  unfold OwnU
  rw [List.length_append, show uvs (xs ++ [y]) = uvs xs ++ [.int .u64 (y : Int)] by simp [uvs]]
  exact h2
theorem rd1_one (W : World) (t : TypeId) (v : Value) : Rd1 (W.alloc (.cells #[v] t)) (some ⟨W.heap.size, 0, none⟩) [v] := fun _ => ⟨_, 0, rfl, fun j u hu => by
  have hj : j = 0 := by have := (List.getElem?_eq_some_iff.1 hu).1; simp at this; omega
  subst hj
  simp at hu
  subst hu
  simp⟩
theorem RdB.cut {w : World} {b o : Nat} {xs ys : List Nat} (h : RdB w (some ⟨b, o, none⟩) (xs ++ ys)) : RdB w (some ⟨b, o + xs.length, none⟩) ys := fun hl => by
  obtain ⟨b', o', e, hc⟩ := h (by simp; omega)
  injection e with e
  injection e with e1 e2
  subst e1 e2
  refine ⟨b, o + xs.length, rfl, fun j hj => ?_⟩
  have := hc (xs.length + j) (by simp; omega)
  rw [← Nat.add_assoc] at this
  rw [this, List.getD_eq_getElem?_getD, List.getD_eq_getElem?_getD, List.getElem?_append_right (by omega), show xs.length + j - xs.length = j by omega]

def lenV : Value → Nat
  | .slice _ n _ => n
  | _ => 0
theorem Rd1.drew {w : World} {A : Option Addr} {vs : List Value} (h : Rd1 w A vs) : Rd1 w.drew A vs := h
theorem Below.size' {B : Nat} {w0 w : World} {o : Obj} (h : Below B w0 w) (hB : B ≤ w0.heap.size) : B ≤ (w.alloc o).drew.heap.size := by
  have h1 := h.size
  have h2 : (w.alloc o).drew.heap.size = w.heap.size + 1 := by simp
  omega
theorem bel2 {B : Nat} {w0 w w2 : World} {o : Obj} (h : Below B w0 w) (hB : B ≤ w0.heap.size) (h2 : Below B (w.alloc o).drew w2) : Below B w0 w2 :=
  (bd_drew (bb_alloc h o (Nat.le_trans hB h.size))).trans h2
/-- A list of numbers is answered, or none. -/
def NumsPost (w : World) (bs : List Nat) (e : Ending) (w' : World) : Prop :=
  Below w.heap.size w w' ∧ ((∃ v L, e = .returned (.tuple #[v, .bool true]) ∧ OwnU w' w.heap.size v L ∧ SmallN L ∧ bs = encN L ∧ L.length ≤ bs.length) ∨ (e = .returned (.tuple #[.slice none 0 0, .bool false]) ∧ ∀ L, SmallN L → bs ≠ encN L))

set_option maxRecDepth 100000 in
set_option maxHeartbeats 6400000 in
theorem numbers_any (A : Option Addr) (c : Nat) (bs : List Nat) (w : World) (ha : RdB w A bs) (hcap : bs.length ≤ c) (hb : Byt bs) (hm : bs.length ≤ 1000000000) :
    Calls Try.prog 39 #[.slice A bs.length c] w fun e w' => NumsPost w bs e w' := by
  have HA := Lib.hid ha
  have HB := Lib.hid hb
  obtain ⟨n, hn⟩ : ∃ n, n = bs.length := ⟨_, rfl⟩
  rw [← hn] at hm hcap ⊢
  have HN := Lib.hid hn
  clear ha hb
  go_enter Try.func39, Try.ntmps39
  go_wp2
  go_loopw [0, 4] (fun b l wr => ∃ (A' : Option Addr) (c' k : Nat) (D rem : List Nat), b = .slice A' k c' ∧ k ≤ c' ∧ k ≤ n ∧ Hid (k = rem.length) ∧ Hid (RdB w A' rem) ∧ Hid (Byt rem) ∧ Hid (OwnU wr w.heap.size l D) ∧ Hid (SmallN D) ∧ Hid (bs = encN D ++ rem) ∧ D.length + k ≤ n ∧ Hid (Below w.heap.size w wr)) (fun b _ _ => lenV b)
  case atStart => exact ⟨A, c, n, [], bs, rfl, hcap, by omega, HN, HA, HB, Lib.hid (OwnU.nil _ _), Lib.hid (fun x hx => by simp at hx), Lib.hid rfl, by simp, Lib.hid (Below.refl _ _)⟩
  case round =>
    obtain ⟨A', c', k, D, rem, rfl, hkc, hkn, HK, HRD, HBY, HOW, HSM, HEQ, hDk, HBE⟩ := hrel
    by_cases hk0 : 0 < k
    · obtain ⟨b, o, rfl, _⟩ := HRD.out (by rw [← HK.out]; exact hk0)
      have HRW := Lib.hid (HRD.out.below HBE.out)
      have hg : (0 : Int) < (k : Int) := by omega
      have HUV := fun r hr => Uvarint_any (some ⟨b, o, none⟩) c' rem wr HRW.out HBY.out (by rw [← HK.out]; omega) r hr
      rw [← HK.out] at HUV
      rcases take_cases rem HBY.out with ⟨u, rest, erem, hu, ht⟩ | ⟨e, he, ht, hno⟩
      · have HU := Lib.hid (HUV _ ht)
        obtain ⟨m, hm⟩ : ∃ m, m = (uv u).length := ⟨_, rfl⟩
        rw [← hm] at HU
        have hmk : m + rest.length = k := by rw [HK.out, erem, List.length_append, hm]
        have hm0 : 0 < m := by rw [hm]; exact uv_pos u
        have HM := Lib.hid hm
        have HER := Lib.hid erem
        obtain ⟨q, hq⟩ : ∃ q, q = rest.length := ⟨_, rfl⟩
        rw [← hq] at hmk
        have HQ := Lib.hid hq
        clear HUV hm erem ht hq
        by_cases hbig : u ≤ 2147483647
        · have hnb : ¬ (2147483647 : Int) < (u : Int) := by omega
          have s1 : (0 : Int) ≤ (m : Int) := by omega
          have s2 : (m : Int) ≤ (k : Int) := by omega
          have s3 : (k : Int) ≤ (c' : Int) := by omega
          have s4 : k - m = q := by omega
          have HS4 := Lib.hid s4
          have HD9 : Hid (D.length ≤ 4000000000) := Lib.hid (by omega)
          have s5 : m ≤ k := by omega
          have HUX := Lib.hid (rd1_one wr 59 (.int .u64 (u : Int)))
          clear s4 hu
          by_cases hcm : m = c'
          · subst hcm
            go_wp2_with fail
            refine HU.out.mono ?_
            rintro e w1 ⟨rfl, rfl⟩
            clear HU
            go_wp2_with fail
            go_region_law
              (first
                | (refine step_appU (.tmp 23) (.tmp 25) w.heap.size _ D (some ⟨w1.heap.size, 0, none⟩) 1 u rfl rfl (by rfl) (HOW.out.below (bd_drew (bel_alloc (Below.refl _ _) _))) (by rfl) (fun h => by cases h) HUX.out.drew HD9.out (Below.size' HBE.out (Nat.le_refl _)) ?_
                   intro v2 w2 hown hb2
                   have HO2 := Lib.hid hown
                   have HB2 := Lib.hid (bel2 HBE.out (Nat.le_refl _) hb2)
                   clear hown hb2)
                | fail)
            simp only [Act.put, List.getElem_toArray, List.getElem_cons_succ, List.getElem_cons_zero, List.setIfInBounds_toArray, List.set_cons_succ, List.set_cons_zero]
            go_wp2
            go_roundw
            case measure => simp [lenV]; omega
            case rel => exact ⟨some ⟨b, o, none⟩, 0, q, D ++ [u], rest, by rw [show q = 0 by omega], by omega, by omega, HQ, Lib.hid (fun h => by have := HQ.out; omega), Lib.hid (by have h9 := HBY.out; rw [HER.out] at h9; exact (Byt.app.1 h9).2), HO2, Lib.hid (by intro x hx; rcases List.mem_append.1 hx with h | h; exact HSM.out x h; simp at h; omega), Lib.hid (by rw [HEQ.out, HER.out, encN_app, encN_cons, encN_nil, List.append_nil, List.append_assoc]), by simp; omega, HB2⟩
          · have hcm' : ¬ c' = m := fun h => hcm h.symm
            go_wp2_with fail
            refine HU.out.mono ?_
            rintro e w1 ⟨rfl, rfl⟩
            clear HU
            go_wp2_with fail
            go_region_law
              (first
                | (refine step_appU (.tmp 23) (.tmp 25) w.heap.size _ D (some ⟨w1.heap.size, 0, none⟩) 1 u rfl rfl (by rfl) (HOW.out.below (bd_drew (bel_alloc (Below.refl _ _) _))) (by rfl) (fun h => by cases h) HUX.out.drew HD9.out (Below.size' HBE.out (Nat.le_refl _)) ?_
                   intro v2 w2 hown hb2
                   have HO2 := Lib.hid hown
                   have HB2 := Lib.hid (bel2 HBE.out (Nat.le_refl _) hb2)
                   clear hown hb2)
                | fail)
            simp only [Act.put, List.getElem_toArray, List.getElem_cons_succ, List.getElem_cons_zero, List.setIfInBounds_toArray, List.set_cons_succ, List.set_cons_zero]
            go_wp2
            go_roundw
            case measure => simp [lenV]; omega
            case rel => exact ⟨_, _, q, D ++ [u], rest, by rw [HS4.out], by omega, by omega, HQ, Lib.hid (by rw [HM.out]; have h9 := HRD.out; rw [HER.out] at h9; exact h9.cut), Lib.hid (by have h9 := HBY.out; rw [HER.out] at h9; exact (Byt.app.1 h9).2), HO2, Lib.hid (by intro x hx; rcases List.mem_append.1 hx with h | h; exact HSM.out x h; simp at h; omega), Lib.hid (by rw [HEQ.out, HER.out, encN_app, encN_cons, encN_nil, List.append_nil, List.append_assoc]), by simp; omega, HB2⟩
        · have hnb : (2147483647 : Int) < (u : Int) := by omega
          have HNO : Hid (∀ L, SmallN L → bs ≠ encN L) := Lib.hid fun L hL h => by
            rw [HEQ.out, HER.out] at h
            obtain ⟨L', e1, e2⟩ := encN_split D L _ (HSM.out.lt) hL.lt h.symm
            cases L' with
            | nil => exact uv_ne u (by have := congrArg List.length e2; simp [encN] at this; exact List.eq_nil_of_length_eq_zero (by simp [this.1]))
            | cons l L' =>
              rw [encN_cons] at e2
              obtain ⟨rfl, _⟩ := uv_inj hu (hL.lt l (by rw [e1]; simp)) e2
              have := hL u (by rw [e1]; simp)
              omega
          clear hbig hu
          go_wp2_with fail
          refine HU.out.mono ?_
          rintro e w1 ⟨rfl, rfl⟩
          clear HU
          go_wp2
          go_ret2
          exact ⟨HBE.out, .inr ⟨rfl, HNO.out⟩⟩
      · have HU := Lib.hid (HUV _ ht)
        have HNO : Hid (∀ L, SmallN L → bs ≠ encN L) := Lib.hid fun L hL h => by
          rw [HEQ.out] at h
          obtain ⟨L', e1, e2⟩ := encN_split D L _ (HSM.out.lt) hL.lt h.symm
          cases L' with
          | nil => rw [e2] at HK; have := HK.out; simp [encN] at this; omega
          | cons l L' =>
            rw [encN_cons] at e2
            exact hno l _ (hL.lt l (by rw [e1]; simp)) e2
        clear HUV ht hno
        rcases he with rfl | rfl
        all_goals
          go_wp2_with fail
          refine HU.out.mono ?_
          rintro e w1 ⟨rfl, rfl⟩
          clear HU
          go_wp2
          go_ret2
          exact ⟨HBE.out, .inr ⟨rfl, HNO.out⟩⟩
    · have hg : ¬ (0 : Int) < (k : Int) := by omega
      have HF : Hid (bs = encN D ∧ D.length ≤ bs.length) := Lib.hid (by
        have e : rem = [] := List.eq_nil_of_length_eq_zero (by rw [← HK.out]; omega)
        refine ⟨by rw [HEQ.out, e, List.append_nil], by rw [← hn]; omega⟩)
      clear hn
      go_wp2
      go_ret2
      exact ⟨HBE.out, .inl ⟨_, D, rfl, HOW.out, HSM.out, HF.out.1, HF.out.2⟩⟩
end Go.Proofs.Ytlpdligkjihkeaa.Tb
