/- The law StabRelates, walked. -/
import Derived.Test.YtlpdligkjihkeaaTx
import Derived.Maps.AppendAt
set_option linter.unusedVariables false
set_option linter.unusedSimpArgs false
namespace Go.Proofs.Ytlpdligkjihkeaa.Tb
open Go.ChangeShapes Go.WideShapes Go.ChangeAt Go.RowKit Go.Joins

theorem wf_bd {n : Int} (h : (Lit.int .i64 n).wf = true) : -9223372036854775808 ≤ n ∧ n ≤ 9223372036854775807 := by
  simp only [Lit.wf, Bool.and_eq_true, decide_eq_true_eq] at h
  exact ⟨h.1, h.2⟩
set_option maxRecDepth 1000000 in
theorem open_span2 {H : Type} {enc : TypeId × Value → H} {W : World} {v : Value} {d : DataW H} {p : List MemPlace} {base : Nat} (hv : Value.okWide Try.prog W .any base 35 v)
    (h : DataW.Trod enc Try.prog W 0 (fun _ => true) true 35 v d p) : ∃ a b : Int, v = SP a b ∧ b ≤ 9223372036854775807 := by
  obtain ⟨c0, c1, y0, y1, m, rfl, _, _, hy0, hy1⟩ := open_agg2 Try.underlying35 (by kernel_rfl) cells22 hv h
  obtain ⟨a, e0, _, _⟩ := DataW.trod_int Try.underlying3 hy0
  obtain ⟨b, e1, _, wf1⟩ := DataW.trod_int Try.underlying3 hy1
  simp at e0 e1
  subst e0 e1
  exact ⟨a, b, rfl, (wf_bd wf1).2⟩

/-! ### what the relation's number says -/
def pO (s1 s2 a b : Int) : Bool := decide (3 ≤ relP a b s1 s2 ∧ relP a b s1 s2 ≤ 11)
def pI (s1 s2 a b : Int) : Bool := decide (relP a b s1 s2 = 6 ∨ relP a b s1 s2 = 7 ∨ relP a b s1 s2 = 9 ∨ relP a b s1 s2 = 10)
def pA (s1 s2 a b : Int) : Bool := decide (relP a b s1 s2 = 4 ∨ relP a b s1 s2 = 5 ∨ relP a b s1 s2 = 7 ∨ relP a b s1 s2 = 8)
theorem relP_val {a b c d : Int} (h1 : 0 ≤ a ∧ a < b) (h2 : 0 ≤ c ∧ c < d) : relP a b c d = if c < a ∨ a = c ∧ d < b then 14 - rel0 c d a b else rel0 a b c d := by
  unfold relP
  rw [if_pos ⟨vld_t h1.1 h1.2, vld_t h2.1 h2.2⟩]
theorem relP_bd {a b c d : Int} (h1 : 0 ≤ a ∧ a < b) (h2 : 0 ≤ c ∧ c < d) : 1 ≤ relP a b c d ∧ relP a b c d ≤ 13 := by
  rw [relP_val h1 h2]
  have := rel0_bd a b c d
  have := rel0_bd c d a b
  split <;> omega
theorem pO_eq {a b c d : Int} (h1 : 0 ≤ a ∧ a < b) (h2 : 0 ≤ c ∧ c < d) : pO c d a b = ovl a b c d := by
  unfold pO ovl
  rw [relP_val h1 h2, decide_eq_decide]
  unfold rel0
  repeat' split
  all_goals omega
theorem pI_eq {a b c d : Int} (h1 : 0 ≤ a ∧ a < b) (h2 : 0 ≤ c ∧ c < d) : pI c d a b = cont c d a b := by
  unfold pI cont
  rw [relP_val h1 h2, decide_eq_decide]
  unfold rel0
  repeat' split
  all_goals omega
theorem pA_eq {a b c d : Int} (h1 : 0 ≤ a ∧ a < b) (h2 : 0 ≤ c ∧ c < d) : pA c d a b = cont a b c d := by
  unfold pA cont
  rw [relP_val h1 h2, decide_eq_decide]
  unfold rel0
  repeat' split
  all_goals omega
theorem selK_congr {xs : List (Int × Int)} {k k' : Int → Int → Bool} (n : Nat) (h : ∀ i, i < n → k (bgn xs i) (enn xs i) = k' (bgn xs i) (enn xs i)) : selK xs k n = selK xs k' n := sel_congr h
theorem askL_v {xs : List (Int × Int)} {s1 s2 : Int} {k : Int → Int → Bool} (h : vld s1 s2 = true) : askL xs s1 s2 k = selK xs k xs.length := by unfold askL; rw [if_pos h]
theorem one_stab {xs : List (Int × Int)} (h : xs.all okV = true) (h2 : xs.all okE = true) (s1 : Int) (h0 : 0 ≤ s1) : ansS xs s1 = ansK xs s1 (s1 + 1) fun _ _ => true := by
  rw [ans_stab h h2, ans_over, askL_v (vld_t h0 (by omega))]
  refine selK_congr _ fun i _ => ?_
  unfold ovl
  rw [decide_eq_decide]
  omega

/-! ### three rows of the call's own -/
structure Tri (w1 w : World) (v7 v8 v9 : Value) (L7 L8 L9 : List Int) : Prop where
  bel : Below w1.heap.size w1 w
  o7 : w.ownsRow w1.heap.size 3 1 v7 L7.length (L7.map (Value.int .i64))
  o8 : w.ownsRow w1.heap.size 3 1 v8 L8.length (L8.map (Value.int .i64))
  o9 : w.ownsRow w1.heap.size 3 1 v9 L9.length (L9.map (Value.int .i64))
  a78 : v7.ownBlock = none ∨ v7.ownBlock ≠ v8.ownBlock
  a79 : v7.ownBlock = none ∨ v7.ownBlock ≠ v9.ownBlock
  a89 : v8.ownBlock = none ∨ v8.ownBlock ≠ v9.ownBlock
theorem Tri.start (w : World) : Tri w w (.slice none 0 0) (.slice none 0 0) (.slice none 0 0) [] [] [] :=
  ⟨Below.refl _ _, World.ownsRow_nil _ _ _ _, World.ownsRow_nil _ _ _ _, World.ownsRow_nil _ _ _ _, .inl rfl, .inl rfl, .inl rfl⟩
theorem Tri.below {w1 w w' : World} {v7 v8 v9 : Value} {L7 L8 L9 : List Int} (h : Tri w1 w v7 v8 v9 L7 L8 L9) (hb : Below w.heap.size w w') : Tri w1 w' v7 v8 v9 L7 L8 L9 :=
  ⟨h.bel.trans (hb.mono h.bel.size), own_below h.o7 hb, own_below h.o8 hb, own_below h.o9 hb, h.a78, h.a79, h.a89⟩
theorem Tri.box {w1 w : World} {v7 v8 v9 : Value} {L7 L8 L9 : List Int} (h : Tri w1 w v7 v8 v9 L7 L8 L9) (o : Obj) : Tri w1 (w.alloc o) v7 v8 v9 L7 L8 L9 := h.below (bel_alloc (Below.refl _ _) _)
theorem ap_sym {v v' : Value} (h : v.ownBlock = none ∨ v.ownBlock ≠ v'.ownBlock) : v'.ownBlock = none ∨ v'.ownBlock ≠ v.ownBlock := by
  rcases h with h | h
  · rw [h]
    cases v'.ownBlock with
    | none => exact .inl rfl
    | some g => exact .inr (by simp)
  · exact .inr (Ne.symm h)
theorem Tri.rot {w1 w : World} {v7 v8 v9 : Value} {L7 L8 L9 : List Int} (h : Tri w1 w v7 v8 v9 L7 L8 L9) : Tri w1 w v8 v9 v7 L8 L9 L7 := ⟨h.bel, h.o8, h.o9, h.o7, h.a89, ap_sym h.a78, ap_sym h.a79⟩
theorem ap_new {w : World} {base' : Nat} {e' : TypeId} {size' n' : Nat} {v v8 v' : Value} {xs' : List Value} (h8 : w.ownsRow base' e' size' v8 n' xs') (ha : v.ownBlock = none ∨ v.ownBlock ≠ v8.ownBlock)
    (hat : v'.ownBlock = v.ownBlock ∨ v'.ownBlock = some w.heap.size) : v'.ownBlock = none ∨ v'.ownBlock ≠ v8.ownBlock := by
  rcases hat with e | e
  · rw [e]; exact ha
  · refine .inr fun h => ?_
    have := (h8.lt w.heap.size (by rw [← h, e])).2
    omega
theorem Tri.app7 {w1 w w' : World} {v7 v8 v9 v' : Value} {L7 L8 L9 : List Int} {x : Int} {o : Obj} (h : Tri w1 w v7 v8 v9 L7 L8 L9)
    (hown : w'.ownsRow w1.heap.size 3 1 v' (L7.length + 1) (L7.map (Value.int .i64) ++ [.int .i64 x])) (hg : (w.alloc o).grownBy w' v7.ownBlock) (hat : v'.ownBlock = v7.ownBlock ∨ v'.ownBlock = some (w.alloc o).heap.size) :
    Tri w1 w' v' v8 v9 (L7 ++ [x]) L8 L9 := by
  have hb := h.box o
  have hsz := hb.bel.size
  refine ⟨hb.bel.trans (grow_bel hb.o7 hsz hg), by simpa using hown, hb.o8.kept hg (ap_sym h.a78), hb.o9.kept hg (ap_sym h.a79), ap_new hb.o8 h.a78 hat, ap_new hb.o9 h.a79 hat, h.a89⟩
theorem Tri.app8 {w1 w w' : World} {v7 v8 v9 v' : Value} {L7 L8 L9 : List Int} {x : Int} {o : Obj} (h : Tri w1 w v7 v8 v9 L7 L8 L9)
    (hown : w'.ownsRow w1.heap.size 3 1 v' (L8.length + 1) (L8.map (Value.int .i64) ++ [.int .i64 x])) (hg : (w.alloc o).grownBy w' v8.ownBlock) (hat : v'.ownBlock = v8.ownBlock ∨ v'.ownBlock = some (w.alloc o).heap.size) :
    Tri w1 w' v7 v' v9 L7 (L8 ++ [x]) L9 := (h.rot.app7 hown hg hat).rot.rot
theorem Tri.app9 {w1 w w' : World} {v7 v8 v9 v' : Value} {L7 L8 L9 : List Int} {x : Int} {o : Obj} (h : Tri w1 w v7 v8 v9 L7 L8 L9)
    (hown : w'.ownsRow w1.heap.size 3 1 v' (L9.length + 1) (L9.map (Value.int .i64) ++ [.int .i64 x])) (hg : (w.alloc o).grownBy w' v9.ownBlock) (hat : v'.ownBlock = v9.ownBlock ∨ v'.ownBlock = some (w.alloc o).heap.size) :
    Tri w1 w' v7 v8 v' L7 L8 (L9 ++ [x]) := (h.rot.rot.app7 hown hg hat).rot

/-- Where the asking stands. -/
structure RelSt (w0 : World) (B B2 p : Nat) (xs : List (Int × Int)) (s1 s2 : Int) (v : World) : Prop where
  bel : Below w0.heap.size w0 v
  box : v.heap[B]? = some (SB s1 s2)
  box2 : v.heap[B2]? = some (SB s1 (s1 + 1))
  idx : Idx v p xs
theorem RelSt.step {w0 v v' : World} {B B2 p : Nat} {xs : List (Int × Int)} {s1 s2 : Int} (h : RelSt w0 B B2 p xs s1 s2 v) (hb : Below v.heap.size v v') : RelSt w0 B B2 p xs s1 s2 v' :=
  ⟨bel_trans h.bel hb, (hb.block _ (blk_lt h.box)).trans h.box, (hb.block _ (blk_lt h.box2)).trans h.box2, h.idx.below hb⟩
theorem RelSt.k {w0 v : World} {B B2 p : Nat} {xs : List (Int × Int)} {s1 s2 : Int} (h : RelSt w0 B B2 p xs s1 s2 v) :
    v.cell? ⟨B, 0, none⟩ = some (.int .i64 s1) ∧ v.cell? ⟨B, 1, none⟩ = some (.int .i64 s2) ∧ v.cell? ⟨B2, 0, none⟩ = some (.int .i64 s1) ∧ v.cell? ⟨B2, 1, none⟩ = some (.int .i64 (s1 + 1)) :=
  ⟨by rw [blk_cell h.box]; rfl, by rw [blk_cell h.box]; rfl, by rw [blk_cell h.box2]; rfl, by rw [blk_cell h.box2]; rfl⟩

set_option maxRecDepth 1000000 in
set_option maxHeartbeats 16000000 in
theorem stabRelates_walk (A : Option Addr) (c : Nat) (xs : List (Int × Int)) (s1 s2 : Int) (w : World) (ha : RdS w A xs) (hA : A = none → xs.length = 0 ∧ c = 0) (hm : xs.length ≤ maxLen) (hs2 : s2 ≤ 9223372036854775807) :
    Calls Try.prog 7 #[.slice A xs.length c, SP s1 s2] w fun e w' => e = .returned (.bool true) ∧ Below w.heap.size w w' := by
  unfold maxLen at hm
  obtain ⟨i0, hi0, hz0, hz1, hz2⟩ := info_parts infoI
  obtain ⟨n, hn⟩ : ∃ n, n = xs.length := ⟨_, rfl⟩
  have hb0 : Below w.heap.size w (w.alloc (SB s1 s2)) := bel_alloc (Below.refl _ _) _
  have hx0 : (w.alloc (SB s1 s2)).heap[w.heap.size]? = some (SB s1 s2) := heap_alloc_new w _
  have ha0 := ha.below hb0
  by_cases hl : 40 < n
  · rw [← hn] at hm ⊢
    have g1 : (40 : Int) < (n : Int) := by omega
    clear ha hA hn
    go_enter Try.func7, Try.ntmps7
    go_wp2
    go_ret
    exact ⟨rfl, hb0⟩
  · have g1 : ¬ (40 : Int) < (n : Int) := by omega
    by_cases hok : xs.all okV = true ∧ xs.all okE = true
    · have HB := Lib.hid (built_ok A c xs (w.alloc (SB s1 s2)) ha0 hA ⟨by omega, hok.1, hok.2⟩)
      by_cases hv : vld s1 s2 = true
      · have hv2 : 0 ≤ s1 ∧ s1 < s2 := of_decide_eq_true hv
        have hrr : relP s1 s2 s1 s2 = 7 := by
          rw [relP_val hv2 hv2, if_neg (by omega)]
          unfold rel0
          rw [if_pos ⟨rfl, rfl⟩]
        have HRR := Lib.hid (fun w1 => rel_any s1 s2 s1 s2 w1)
        rw [hrr] at HRR
        obtain ⟨L1, hL1⟩ : ∃ L, L = askL xs s1 s2 fun a b => ovl a b s1 s2 := ⟨_, rfl⟩
        obtain ⟨m1, hm1⟩ : ∃ m, m = L1.length := ⟨_, rfl⟩
        have hl1 : m1 ≤ 100 := by rw [hm1, hL1]; have := askL_len xs s1 s2 fun a b => ovl a b s1 s2; omega
        obtain ⟨L2, hL2⟩ : ∃ L, L = askL xs s1 s2 fun a b => cont s1 s2 a b := ⟨_, rfl⟩
        obtain ⟨m2, hm2⟩ : ∃ m, m = L2.length := ⟨_, rfl⟩
        have hl2 : m2 ≤ 100 := by rw [hm2, hL2]; have := askL_len xs s1 s2 fun a b => cont s1 s2 a b; omega
        obtain ⟨L3, hL3⟩ : ∃ L, L = askL xs s1 s2 fun a b => cont a b s1 s2 := ⟨_, rfl⟩
        obtain ⟨m3, hm3⟩ : ∃ m, m = L3.length := ⟨_, rfl⟩
        have hl3 : m3 ≤ 100 := by rw [hm3, hL3]; have := askL_len xs s1 s2 fun a b => cont a b s1 s2; omega
        obtain ⟨L4, hL4⟩ : ∃ L, L = ansS xs s1 := ⟨_, rfl⟩
        obtain ⟨m4, hm4⟩ : ∃ m, m = L4.length := ⟨_, rfl⟩
        have hl4 : m4 ≤ 100 := by rw [hm4, hL4]; have := ansS_len xs s1; omega
        have HI1 := Lib.hid (fun p w1 (h : Idx w1 p xs) => (Overlap_ans xs p s1 s2 w1 (by omega) h).mono fun e w' (h : Ans w1 _ e w') => show AnsM w1 L1 m1 e w' from by rw [ans_over, ← hL1] at h; exact h.m m1 hm1)
        have HI2 := Lib.hid (fun p w1 (h : Idx w1 p xs) => (Inside_ans xs p s1 s2 w1 (by omega) h).mono fun e w' (h : Ans w1 _ e w') => show AnsM w1 L2 m2 e w' from by rw [ans_in hok.1, ← hL2] at h; exact h.m m2 hm2)
        have HI3 := Lib.hid (fun p w1 (h : Idx w1 p xs) => (Around_ans xs p s1 s2 w1 (by omega) h).mono fun e w' (h : Ans w1 _ e w') => show AnsM w1 L3 m3 e w' from by rw [ans_around hok.1, ← hL3] at h; exact h.m m3 hm3)
        have HI4 := Lib.hid (fun p w1 (h : Idx w1 p xs) => (Overlap_ans xs p s1 (s1 + 1) w1 (by omega) h).mono fun e w' (h : Ans w1 _ e w') => show AnsM w1 L4 m4 e w' from by rw [← one_stab hok.1 hok.2 s1 hv2.1, ← hL4] at h; exact h.m m4 hm4)
        have HI5 := Lib.hid (fun p w1 (h : Idx w1 p xs) => (Stab_ans xs p s1 w1 (by omega) h).mono fun e w' (h : Ans w1 _ e w') => show AnsM w1 L4 m4 e w' from by rw [← hL4] at h; exact h.m m4 hm4)
        have HO := Lib.hid (show selK xs (pO s1 s2) n = L1 by rw [hL1, askL_v hv, hn]; exact selK_congr _ fun i hi => pO_eq (ok_at hok.1 hi) hv2)
        have HI := Lib.hid (show selK xs (pI s1 s2) n = L2 by rw [hL2, askL_v hv, hn]; exact selK_congr _ fun i hi => pI_eq (ok_at hok.1 hi) hv2)
        have HAr := Lib.hid (show selK xs (pA s1 s2) n = L3 by rw [hL3, askL_v hv, hn]; exact selK_congr _ fun i hi => pA_eq (ok_at hok.1 hi) hv2)
        have HBD := Lib.hid (fun i (hi : i < n) => relP_bd (ok_at hok.1 (i := i) (by omega)) hv2)
        rw [← hn] at HB hm ⊢
        have HN := Lib.hid hn
        have HX0 := Lib.hid hx0
        have HB0 := Lib.hid hb0
        have HA0 := Lib.hid ha0
        have HM1 := Lib.hid hm1
        have HM2 := Lib.hid hm2
        have HM3 := Lib.hid hm3
        have HM4 := Lib.hid hm4
        have hv3 : s1 + 1 ≤ 9223372036854775807 := by omega
        have hv4 : 0 ≤ s1 := hv2.1
        clear ha ha0 hA hn hok hL1 hL2 hL3 hL4 hx0 hb0 hm1 hm2 hm3 hm4 hrr hv hv2
        go_enter Try.func7, Try.ntmps7
        go_wp2_with fail
        refine HB.out.mono ?_
        rintro e w1 ⟨p, rfl, hi, hb1⟩
        have HX1 := Lib.hid ((hb1.block _ (blk_lt HX0.out)).trans HX0.out)
        have HR1 := Lib.hid (HRR.out w1)
        have x1 : w1.cell? ⟨w.heap.size, 0, none⟩ = some (.int .i64 s1) := by rw [blk_cell HX1.out]; rfl
        have x2 : w1.cell? ⟨w.heap.size, 1, none⟩ = some (.int .i64 s2) := by rw [blk_cell HX1.out]; rfl
        have HIX := Lib.hid hi
        have HB1 := Lib.hid hb1
        clear hi hb1 HB HX0 HRR
        go_wp2_with fail
        refine HR1.out.mono ?_
        rintro e w2 ⟨rfl, hb2⟩
        clear x1 x2
        have HX2 := Lib.hid ((hb2.block _ (blk_lt HX1.out)).trans HX1.out)
        have HIX2 := Lib.hid (HIX.out.below hb2)
        have HB2 := Lib.hid (bel_trans HB1.out hb2)
        have HA2 := Lib.hid (HA0.out.below HB2.out)
        clear hb2 HIX HB1 HA0 HX1 HR1
        go_wp2
        go_loopw [7, 8, 9, 40] (fun v7 v8 v9 s wr => ∃ i : Nat, s = .int .i64 i ∧ i ≤ n ∧ Hid (Tri w2 wr v7 v8 v9 (selK xs (pO s1 s2) i) (selK xs (pI s1 s2) i) (selK xs (pA s1 s2) i))) (fun _ _ _ s _ => n - (intOf s).toNat)
        case atStart => exact ⟨0, rfl, by omega, Lib.hid (Tri.start _)⟩
        case round =>
          obtain ⟨i, rfl, hin, HT⟩ := hrel
          by_cases hlt : i < n
          · obtain ⟨b1, o1, e1, c1⟩ := (HA2.out.below HT.out.bel) (by rw [← HN.out]; omega)
            obtain ⟨c1', c2'⟩ := c1 i (by rw [← HN.out]; exact hlt)
            clear c1
            have hbd := HBD.out i hlt
            have k7 := selK_succ xs (pO s1 s2) i
            have k8 := selK_succ xs (pI s1 s2) i
            have k9 := selK_succ xs (pA s1 s2) i
            unfold bgn enn at hbd
            obtain ⟨a, b, hx, hy⟩ : ∃ x y, x = (xs.getD i (0, 0)).1 ∧ y = (xs.getD i (0, 0)).2 := ⟨_, _, rfl, rfl⟩
            rw [← hx] at c1' k7 k8 k9 hbd
            rw [← hy] at c2' k7 k8 k9 hbd
            have HREL := Lib.hid (rel_any a b s1 s2 (wr.alloc (SB a b)))
            unfold pO at k7
            unfold pI at k8
            unfold pA at k9
            obtain ⟨r, hr⟩ : ∃ r, r = relP a b s1 s2 := ⟨_, rfl⟩
            rw [← hr] at HREL k7 k8 k9 hbd
            have K7 : Hid (selK xs (pO s1 s2) (i + 1) = selK xs (pO s1 s2) i ++ if decide (3 ≤ r ∧ r ≤ 11) = true then [(i : Int)] else []) := Lib.hid k7
            have K8 : Hid (selK xs (pI s1 s2) (i + 1) = selK xs (pI s1 s2) i ++ if decide (r = 6 ∨ r = 7 ∨ r = 9 ∨ r = 10) = true then [(i : Int)] else []) := Lib.hid k8
            have K9 : Hid (selK xs (pA s1 s2) (i + 1) = selK xs (pA s1 s2) i ++ if decide (r = 4 ∨ r = 5 ∨ r = 7 ∨ r = 8) = true then [(i : Int)] else []) := Lib.hid k9
            have l7 : (selK xs (pO s1 s2) i).length ≤ i := selK_len _ _ _
            have l8 : (selK xs (pI s1 s2) i).length ≤ i := selK_len _ _ _
            have l9 : (selK xs (pA s1 s2) i).length ≤ i := selK_len _ _ _
            clear hx hy hr k7 k8 k9
            subst e1
            have g3 : (i : Int) < (n : Int) := by omega
            have hsz := HT.out.bel.size
            have hbx := (HT.out.bel.block _ (blk_lt HX2.out)).trans HX2.out
            have x1 : wr.cell? ⟨w.heap.size, 0, none⟩ = some (.int .i64 s1) := by rw [blk_cell hbx]; rfl
            have x2 : wr.cell? ⟨w.heap.size, 1, none⟩ = some (.int .i64 s2) := by rw [blk_cell hbx]; rfl
            have xlt := blk_lt hbx
            have HTB := Lib.hid (HT.out.box (SB a b))
            clear hbx HT
            go_wp2_with fail
            refine HREL.out.mono ?_
            rintro e w3 ⟨rfl, hb3⟩
            have T3 := Lib.hid (HTB.out.below hb3)
            have hsz3 := T3.out.bel.size
            clear hb3 HTB HREL x1 x2 xlt c1' c2' hsz
            rcases (show r = 1 ∨ r = 2 ∨ r = 3 ∨ r = 4 ∨ r = 5 ∨ r = 6 ∨ r = 7 ∨ r = 8 ∨ r = 9 ∨ r = 10 ∨ r = 11 ∨ r = 12 ∨ r = 13 by omega) with rfl | rfl | rfl | rfl | rfl | rfl | rfl | rfl | rfl | rfl | rfl | rfl | rfl
            · go_wp2_with fail
              go_roundw
              case measure => simp [intOf]; omega
              case rel => exact ⟨i + 1, by go_num, by omega, by rw [K7.out, K8.out, K9.out]; rw [if_neg (by decide), List.append_nil]; rw [if_neg (by decide), List.append_nil]; rw [if_neg (by decide), List.append_nil]; exact T3⟩
            · go_wp2_with fail
              go_roundw
              case measure => simp [intOf]; omega
              case rel => exact ⟨i + 1, by go_num, by omega, by rw [K7.out, K8.out, K9.out]; rw [if_neg (by decide), List.append_nil]; rw [if_neg (by decide), List.append_nil]; rw [if_neg (by decide), List.append_nil]; exact T3⟩
            · go_wp2_with (first | (at_builtin; refine wpList_append_own_at _ rfl (.tmp 54) (.tmp 56) 30 rfl w2.heap.size 3 i0 (.int .i64 0) 1 8 Try.underlying30 hi0 hz0 hz1 hz2 rfl (by decide) _ _ _ rfl (T3.out.o7.alloc _) ⟨w3.heap.size, 0, none⟩ 1 1 [.int .i64 (i : Int)] rfl rfl (cell_one_new _ _ _) (by simp [Value.oneCell']) (by simp only [maxLen]; omega) (by omega) (by simp; omega) ?_; intro u7 w4 hown' hgrow _ hat; have T4 := Lib.hid (T3.out.app7 hown' hgrow hat); have hsz4 := T4.out.bel.size; clear hown' hgrow hat))
              go_roundw
              case measure => simp [intOf]; omega
              case rel => exact ⟨i + 1, by go_num, by omega, by rw [K7.out, K8.out, K9.out]; rw [if_pos (by decide)]; rw [if_neg (by decide), List.append_nil]; rw [if_neg (by decide), List.append_nil]; exact T4⟩
            · go_wp2_with (first | (at_builtin; refine wpList_append_own_at _ rfl (.tmp 54) (.tmp 56) 30 rfl w2.heap.size 3 i0 (.int .i64 0) 1 8 Try.underlying30 hi0 hz0 hz1 hz2 rfl (by decide) _ _ _ rfl (T3.out.o7.alloc _) ⟨w3.heap.size, 0, none⟩ 1 1 [.int .i64 (i : Int)] rfl rfl (cell_one_new _ _ _) (by simp [Value.oneCell']) (by simp only [maxLen]; omega) (by omega) (by simp; omega) ?_; intro u7 w4 hown' hgrow _ hat; have T4 := Lib.hid (T3.out.app7 hown' hgrow hat); have hsz4 := T4.out.bel.size; clear hown' hgrow hat) | (at_builtin; refine wpList_append_own_at _ rfl (.tmp 90) (.tmp 92) 30 rfl w2.heap.size 3 i0 (.int .i64 0) 1 8 Try.underlying30 hi0 hz0 hz1 hz2 rfl (by decide) _ _ _ rfl (T4.out.o9.alloc _) ⟨w4.heap.size, 0, none⟩ 1 1 [.int .i64 (i : Int)] rfl rfl (cell_one_new _ _ _) (by simp [Value.oneCell']) (by simp only [maxLen]; omega) (by omega) (by simp; omega) ?_; intro u9 w5 hown' hgrow _ hat; have T5 := Lib.hid (T4.out.app9 hown' hgrow hat); have hsz5 := T5.out.bel.size; clear hown' hgrow hat))
              go_roundw
              case measure => simp [intOf]; omega
              case rel => exact ⟨i + 1, by go_num, by omega, by rw [K7.out, K8.out, K9.out]; rw [if_pos (by decide)]; rw [if_neg (by decide), List.append_nil]; rw [if_pos (by decide)]; exact T5⟩
            · go_wp2_with (first | (at_builtin; refine wpList_append_own_at _ rfl (.tmp 54) (.tmp 56) 30 rfl w2.heap.size 3 i0 (.int .i64 0) 1 8 Try.underlying30 hi0 hz0 hz1 hz2 rfl (by decide) _ _ _ rfl (T3.out.o7.alloc _) ⟨w3.heap.size, 0, none⟩ 1 1 [.int .i64 (i : Int)] rfl rfl (cell_one_new _ _ _) (by simp [Value.oneCell']) (by simp only [maxLen]; omega) (by omega) (by simp; omega) ?_; intro u7 w4 hown' hgrow _ hat; have T4 := Lib.hid (T3.out.app7 hown' hgrow hat); have hsz4 := T4.out.bel.size; clear hown' hgrow hat) | (at_builtin; refine wpList_append_own_at _ rfl (.tmp 90) (.tmp 92) 30 rfl w2.heap.size 3 i0 (.int .i64 0) 1 8 Try.underlying30 hi0 hz0 hz1 hz2 rfl (by decide) _ _ _ rfl (T4.out.o9.alloc _) ⟨w4.heap.size, 0, none⟩ 1 1 [.int .i64 (i : Int)] rfl rfl (cell_one_new _ _ _) (by simp [Value.oneCell']) (by simp only [maxLen]; omega) (by omega) (by simp; omega) ?_; intro u9 w5 hown' hgrow _ hat; have T5 := Lib.hid (T4.out.app9 hown' hgrow hat); have hsz5 := T5.out.bel.size; clear hown' hgrow hat))
              go_roundw
              case measure => simp [intOf]; omega
              case rel => exact ⟨i + 1, by go_num, by omega, by rw [K7.out, K8.out, K9.out]; rw [if_pos (by decide)]; rw [if_neg (by decide), List.append_nil]; rw [if_pos (by decide)]; exact T5⟩
            · go_wp2_with (first | (at_builtin; refine wpList_append_own_at _ rfl (.tmp 54) (.tmp 56) 30 rfl w2.heap.size 3 i0 (.int .i64 0) 1 8 Try.underlying30 hi0 hz0 hz1 hz2 rfl (by decide) _ _ _ rfl (T3.out.o7.alloc _) ⟨w3.heap.size, 0, none⟩ 1 1 [.int .i64 (i : Int)] rfl rfl (cell_one_new _ _ _) (by simp [Value.oneCell']) (by simp only [maxLen]; omega) (by omega) (by simp; omega) ?_; intro u7 w4 hown' hgrow _ hat; have T4 := Lib.hid (T3.out.app7 hown' hgrow hat); have hsz4 := T4.out.bel.size; clear hown' hgrow hat) | (at_builtin; refine wpList_append_own_at _ rfl (.tmp 72) (.tmp 74) 30 rfl w2.heap.size 3 i0 (.int .i64 0) 1 8 Try.underlying30 hi0 hz0 hz1 hz2 rfl (by decide) _ _ _ rfl (T4.out.o8.alloc _) ⟨w4.heap.size, 0, none⟩ 1 1 [.int .i64 (i : Int)] rfl rfl (cell_one_new _ _ _) (by simp [Value.oneCell']) (by simp only [maxLen]; omega) (by omega) (by simp; omega) ?_; intro u8 w5 hown' hgrow _ hat; have T5 := Lib.hid (T4.out.app8 hown' hgrow hat); have hsz5 := T5.out.bel.size; clear hown' hgrow hat))
              go_roundw
              case measure => simp [intOf]; omega
              case rel => exact ⟨i + 1, by go_num, by omega, by rw [K7.out, K8.out, K9.out]; rw [if_pos (by decide)]; rw [if_pos (by decide)]; rw [if_neg (by decide), List.append_nil]; exact T5⟩
            · go_wp2_with (first | (at_builtin; refine wpList_append_own_at _ rfl (.tmp 54) (.tmp 56) 30 rfl w2.heap.size 3 i0 (.int .i64 0) 1 8 Try.underlying30 hi0 hz0 hz1 hz2 rfl (by decide) _ _ _ rfl (T3.out.o7.alloc _) ⟨w3.heap.size, 0, none⟩ 1 1 [.int .i64 (i : Int)] rfl rfl (cell_one_new _ _ _) (by simp [Value.oneCell']) (by simp only [maxLen]; omega) (by omega) (by simp; omega) ?_; intro u7 w4 hown' hgrow _ hat; have T4 := Lib.hid (T3.out.app7 hown' hgrow hat); have hsz4 := T4.out.bel.size; clear hown' hgrow hat) | (at_builtin; refine wpList_append_own_at _ rfl (.tmp 72) (.tmp 74) 30 rfl w2.heap.size 3 i0 (.int .i64 0) 1 8 Try.underlying30 hi0 hz0 hz1 hz2 rfl (by decide) _ _ _ rfl (T4.out.o8.alloc _) ⟨w4.heap.size, 0, none⟩ 1 1 [.int .i64 (i : Int)] rfl rfl (cell_one_new _ _ _) (by simp [Value.oneCell']) (by simp only [maxLen]; omega) (by omega) (by simp; omega) ?_; intro u8 w5 hown' hgrow _ hat; have T5 := Lib.hid (T4.out.app8 hown' hgrow hat); have hsz5 := T5.out.bel.size; clear hown' hgrow hat) | (at_builtin; refine wpList_append_own_at _ rfl (.tmp 90) (.tmp 92) 30 rfl w2.heap.size 3 i0 (.int .i64 0) 1 8 Try.underlying30 hi0 hz0 hz1 hz2 rfl (by decide) _ _ _ rfl (T5.out.o9.alloc _) ⟨w5.heap.size, 0, none⟩ 1 1 [.int .i64 (i : Int)] rfl rfl (cell_one_new _ _ _) (by simp [Value.oneCell']) (by simp only [maxLen]; omega) (by omega) (by simp; omega) ?_; intro u9 w6 hown' hgrow _ hat; have T6 := Lib.hid (T5.out.app9 hown' hgrow hat); have hsz6 := T6.out.bel.size; clear hown' hgrow hat))
              go_roundw
              case measure => simp [intOf]; omega
              case rel => exact ⟨i + 1, by go_num, by omega, by rw [K7.out, K8.out, K9.out]; rw [if_pos (by decide)]; rw [if_pos (by decide)]; rw [if_pos (by decide)]; exact T6⟩
            · go_wp2_with (first | (at_builtin; refine wpList_append_own_at _ rfl (.tmp 54) (.tmp 56) 30 rfl w2.heap.size 3 i0 (.int .i64 0) 1 8 Try.underlying30 hi0 hz0 hz1 hz2 rfl (by decide) _ _ _ rfl (T3.out.o7.alloc _) ⟨w3.heap.size, 0, none⟩ 1 1 [.int .i64 (i : Int)] rfl rfl (cell_one_new _ _ _) (by simp [Value.oneCell']) (by simp only [maxLen]; omega) (by omega) (by simp; omega) ?_; intro u7 w4 hown' hgrow _ hat; have T4 := Lib.hid (T3.out.app7 hown' hgrow hat); have hsz4 := T4.out.bel.size; clear hown' hgrow hat) | (at_builtin; refine wpList_append_own_at _ rfl (.tmp 90) (.tmp 92) 30 rfl w2.heap.size 3 i0 (.int .i64 0) 1 8 Try.underlying30 hi0 hz0 hz1 hz2 rfl (by decide) _ _ _ rfl (T4.out.o9.alloc _) ⟨w4.heap.size, 0, none⟩ 1 1 [.int .i64 (i : Int)] rfl rfl (cell_one_new _ _ _) (by simp [Value.oneCell']) (by simp only [maxLen]; omega) (by omega) (by simp; omega) ?_; intro u9 w5 hown' hgrow _ hat; have T5 := Lib.hid (T4.out.app9 hown' hgrow hat); have hsz5 := T5.out.bel.size; clear hown' hgrow hat))
              go_roundw
              case measure => simp [intOf]; omega
              case rel => exact ⟨i + 1, by go_num, by omega, by rw [K7.out, K8.out, K9.out]; rw [if_pos (by decide)]; rw [if_neg (by decide), List.append_nil]; rw [if_pos (by decide)]; exact T5⟩
            · go_wp2_with (first | (at_builtin; refine wpList_append_own_at _ rfl (.tmp 54) (.tmp 56) 30 rfl w2.heap.size 3 i0 (.int .i64 0) 1 8 Try.underlying30 hi0 hz0 hz1 hz2 rfl (by decide) _ _ _ rfl (T3.out.o7.alloc _) ⟨w3.heap.size, 0, none⟩ 1 1 [.int .i64 (i : Int)] rfl rfl (cell_one_new _ _ _) (by simp [Value.oneCell']) (by simp only [maxLen]; omega) (by omega) (by simp; omega) ?_; intro u7 w4 hown' hgrow _ hat; have T4 := Lib.hid (T3.out.app7 hown' hgrow hat); have hsz4 := T4.out.bel.size; clear hown' hgrow hat) | (at_builtin; refine wpList_append_own_at _ rfl (.tmp 72) (.tmp 74) 30 rfl w2.heap.size 3 i0 (.int .i64 0) 1 8 Try.underlying30 hi0 hz0 hz1 hz2 rfl (by decide) _ _ _ rfl (T4.out.o8.alloc _) ⟨w4.heap.size, 0, none⟩ 1 1 [.int .i64 (i : Int)] rfl rfl (cell_one_new _ _ _) (by simp [Value.oneCell']) (by simp only [maxLen]; omega) (by omega) (by simp; omega) ?_; intro u8 w5 hown' hgrow _ hat; have T5 := Lib.hid (T4.out.app8 hown' hgrow hat); have hsz5 := T5.out.bel.size; clear hown' hgrow hat))
              go_roundw
              case measure => simp [intOf]; omega
              case rel => exact ⟨i + 1, by go_num, by omega, by rw [K7.out, K8.out, K9.out]; rw [if_pos (by decide)]; rw [if_pos (by decide)]; rw [if_neg (by decide), List.append_nil]; exact T5⟩
            · go_wp2_with (first | (at_builtin; refine wpList_append_own_at _ rfl (.tmp 54) (.tmp 56) 30 rfl w2.heap.size 3 i0 (.int .i64 0) 1 8 Try.underlying30 hi0 hz0 hz1 hz2 rfl (by decide) _ _ _ rfl (T3.out.o7.alloc _) ⟨w3.heap.size, 0, none⟩ 1 1 [.int .i64 (i : Int)] rfl rfl (cell_one_new _ _ _) (by simp [Value.oneCell']) (by simp only [maxLen]; omega) (by omega) (by simp; omega) ?_; intro u7 w4 hown' hgrow _ hat; have T4 := Lib.hid (T3.out.app7 hown' hgrow hat); have hsz4 := T4.out.bel.size; clear hown' hgrow hat) | (at_builtin; refine wpList_append_own_at _ rfl (.tmp 72) (.tmp 74) 30 rfl w2.heap.size 3 i0 (.int .i64 0) 1 8 Try.underlying30 hi0 hz0 hz1 hz2 rfl (by decide) _ _ _ rfl (T4.out.o8.alloc _) ⟨w4.heap.size, 0, none⟩ 1 1 [.int .i64 (i : Int)] rfl rfl (cell_one_new _ _ _) (by simp [Value.oneCell']) (by simp only [maxLen]; omega) (by omega) (by simp; omega) ?_; intro u8 w5 hown' hgrow _ hat; have T5 := Lib.hid (T4.out.app8 hown' hgrow hat); have hsz5 := T5.out.bel.size; clear hown' hgrow hat))
              go_roundw
              case measure => simp [intOf]; omega
              case rel => exact ⟨i + 1, by go_num, by omega, by rw [K7.out, K8.out, K9.out]; rw [if_pos (by decide)]; rw [if_pos (by decide)]; rw [if_neg (by decide), List.append_nil]; exact T5⟩
            · go_wp2_with (first | (at_builtin; refine wpList_append_own_at _ rfl (.tmp 54) (.tmp 56) 30 rfl w2.heap.size 3 i0 (.int .i64 0) 1 8 Try.underlying30 hi0 hz0 hz1 hz2 rfl (by decide) _ _ _ rfl (T3.out.o7.alloc _) ⟨w3.heap.size, 0, none⟩ 1 1 [.int .i64 (i : Int)] rfl rfl (cell_one_new _ _ _) (by simp [Value.oneCell']) (by simp only [maxLen]; omega) (by omega) (by simp; omega) ?_; intro u7 w4 hown' hgrow _ hat; have T4 := Lib.hid (T3.out.app7 hown' hgrow hat); have hsz4 := T4.out.bel.size; clear hown' hgrow hat))
              go_roundw
              case measure => simp [intOf]; omega
              case rel => exact ⟨i + 1, by go_num, by omega, by rw [K7.out, K8.out, K9.out]; rw [if_pos (by decide)]; rw [if_neg (by decide), List.append_nil]; rw [if_neg (by decide), List.append_nil]; exact T4⟩
            · go_wp2_with fail
              go_roundw
              case measure => simp [intOf]; omega
              case rel => exact ⟨i + 1, by go_num, by omega, by rw [K7.out, K8.out, K9.out]; rw [if_neg (by decide), List.append_nil]; rw [if_neg (by decide), List.append_nil]; rw [if_neg (by decide), List.append_nil]; exact T3⟩
            · go_wp2_with fail
              go_roundw
              case measure => simp [intOf]; omega
              case rel => exact ⟨i + 1, by go_num, by omega, by rw [K7.out, K8.out, K9.out]; rw [if_neg (by decide), List.append_nil]; rw [if_neg (by decide), List.append_nil]; rw [if_neg (by decide), List.append_nil]; exact T3⟩
          · have g3 : ¬ (i : Int) < (n : Int) := by omega
            have hi : i = n := by omega
            subst hi
            rw [HO.out, HI.out, HAr.out] at HT
            obtain ⟨A7, c7, e7, r7⟩ := own_rdI HT.out.o7
            obtain ⟨A8, c8, e8, r8⟩ := own_rdI HT.out.o8
            obtain ⟨A9, c9, e9, r9⟩ := own_rdI HT.out.o9
            rw [← HM1.out] at e7
            rw [← HM2.out] at e8
            rw [← HM3.out] at e9
            have R7 := Lib.hid r7
            have R8 := Lib.hid r8
            have R9 := Lib.hid r9
            have hbx := (HT.out.bel.block _ (blk_lt HX2.out)).trans HX2.out
            have hbw := bel_trans HB2.out HT.out.bel
            have hix := HIX2.out.below HT.out.bel
            have bA := bel_alloc (Below.refl wr.heap.size wr) (SB s1 (s1 + 1))
            have xlt := blk_lt hbx
            have S0 : Hid (RelSt (w.alloc (SB s1 s2)) w.heap.size wr.heap.size p xs s1 s2 (wr.alloc (SB s1 (s1 + 1))).drew) := Lib.hid ((RelSt.mk (bel_trans hbw bA) ((bA.block _ (blk_lt hbx)).trans hbx) (heap_alloc_new wr _) (hix.below bA) : RelSt (w.alloc (SB s1 s2)) w.heap.size wr.heap.size p xs s1 s2 (wr.alloc (SB s1 (s1 + 1)))).step (bel_drew (Below.refl _ _)))
            have Q7 := Lib.hid ((R7.out.below bA).below (bel_drew (Below.refl _ _)))
            have Q8 := Lib.hid ((R8.out.below bA).below (bel_drew (Below.refl _ _)))
            have Q9 := Lib.hid ((R9.out.below bA).below (bel_drew (Below.refl _ _)))
            have x1 : wr.cell? ⟨w.heap.size, 0, none⟩ = some (.int .i64 s1) := by rw [blk_cell hbx]; rfl
            have x2 : wr.cell? ⟨w.heap.size, 1, none⟩ = some (.int .i64 s2) := by rw [blk_cell hbx]; rfl
            have K0 := S0.out.k
            clear r7 r8 r9 R7 R8 R9 hbx hbw hix bA HT HX2 HIX2 HB2 HA2
            subst e7 e8 e9
            go_wp2_with fail
            go_region_held3 (fun w' => w'.cell? ⟨w.heap.size, 0, none⟩ = some (.int .i64 s1) ∧ w'.cell? ⟨w.heap.size, 1, none⟩ = some (.int .i64 s2) ∧ w'.cell? ⟨wr.heap.size, 0, none⟩ = some (.int .i64 s1) ∧ w'.cell? ⟨wr.heap.size, 1, none⟩ = some (.int .i64 (s1 + 1)))
              (first | (with_reducible exact KA) | (with_reducible exact K9) | (with_reducible exact K8) | (with_reducible exact K7) | (with_reducible exact K6) | (with_reducible exact K5) | (with_reducible exact K4) | (with_reducible exact K3) | (with_reducible exact K2) | (with_reducible exact K1) | (with_reducible exact K0))
              (first
                | (go_at_call_of 16 (Value.pointer (some ⟨p, 0, none⟩))
                   with_reducible refine (HI1.out p _ S0.out.idx).mono ?_
                   rintro e v1 ⟨B1, d1, rfl, r1, b1⟩
                   have S1 := Lib.hid (S0.out.step b1)
                   have R1 := Lib.hid r1
                   have K1 := S1.out.k
                   have Q7' := Lib.hid (Q7.out.below b1)
                   have Q8' := Lib.hid (Q8.out.below b1)
                   have Q9' := Lib.hid (Q9.out.below b1)
                   clear r1 b1)
                | (go_at_call_of 13 (Value.slice B1 m1 d1)
                   with_reducible refine (same_refl L1 m1 HM1.out (by omega) B1 A7 d1 c7 _ R1.out Q7'.out).mono ?_
                   rintro e v2 ⟨rfl, b2⟩
                   have S2 := Lib.hid (S1.out.step b2)
                   have K2 := S2.out.k
                   have Q8'' := Lib.hid (Q8'.out.below b2)
                   have Q9'' := Lib.hid (Q9'.out.below b2)
                   clear b2)
                | (go_at_call_of 19 (Value.pointer (some ⟨p, 0, none⟩))
                   with_reducible refine (HI2.out p _ S2.out.idx).mono ?_
                   rintro e v3 ⟨B3, d3, rfl, r3, b3⟩
                   have S3 := Lib.hid (S2.out.step b3)
                   have R3 := Lib.hid r3
                   have K3 := S3.out.k
                   have Q8''' := Lib.hid (Q8''.out.below b3)
                   have Q9''' := Lib.hid (Q9''.out.below b3)
                   clear r3 b3)
                | (go_at_call_of 13 (Value.slice B3 m2 d3)
                   with_reducible refine (same_refl L2 m2 HM2.out (by omega) B3 A8 d3 c8 _ R3.out Q8'''.out).mono ?_
                   rintro e v4 ⟨rfl, b4⟩
                   have S4 := Lib.hid (S3.out.step b4)
                   have K4 := S4.out.k
                   have Q9'''' := Lib.hid (Q9'''.out.below b4)
                   clear b4)
                | (go_at_call_of 17 (Value.pointer (some ⟨p, 0, none⟩))
                   with_reducible refine (HI3.out p _ S4.out.idx).mono ?_
                   rintro e v5 ⟨B5, d5, rfl, r5, b5⟩
                   have S5 := Lib.hid (S4.out.step b5)
                   have R5 := Lib.hid r5
                   have K5 := S5.out.k
                   have Q9''''' := Lib.hid (Q9''''.out.below b5)
                   clear r5 b5)
                | (go_at_call_of 13 (Value.slice B5 m3 d5)
                   with_reducible refine (same_refl L3 m3 HM3.out (by omega) B5 A9 d5 c9 _ R5.out Q9'''''.out).mono ?_
                   rintro e v6 ⟨rfl, b6⟩
                   have S6 := Lib.hid (S5.out.step b6)
                   have K6 := S6.out.k
                   clear b6)
                | (go_at_call_of 16 (Value.pointer (some ⟨p, 0, none⟩))
                   with_reducible refine (HI4.out p _ S6.out.idx).mono ?_
                   rintro e v7 ⟨B7, d7, rfl, r7, b7⟩
                   have S7 := Lib.hid (S6.out.step b7)
                   have R7 := Lib.hid r7
                   have K7 := S7.out.k
                   clear r7 b7)
                | (go_at_call_of 14 (Value.pointer (some ⟨p, 0, none⟩))
                   with_reducible refine (HI5.out p _ S7.out.idx).mono ?_
                   rintro e v8 ⟨B8, d8, rfl, r8, b8⟩
                   have S8 := Lib.hid (S7.out.step b8)
                   have R8 := Lib.hid r8
                   have R7' := Lib.hid (R7.out.below b8)
                   have K8 := S8.out.k
                   clear r8 b8)
                | (go_at_call_of 13 (Value.slice B7 m4 d7)
                   with_reducible refine (same_refl L4 m4 HM4.out (by omega) B7 B8 d7 d8 _ R7'.out R8.out).mono ?_
                   rintro e v9 ⟨rfl, b9⟩
                   have S9 := Lib.hid (S8.out.step b9)
                   have K9 := S9.out.k
                   clear b9)
                | (go_at_call 12
                   with_reducible refine (awake_any _).mono ?_
                   rintro e vA ⟨rfl, bA⟩
                   have SA := Lib.hid (S9.out.step bA)
                   have KA := SA.out.k
                   clear bA))
            go_wp2
            go_ret
            exact ⟨rfl, bel_trans HB0.out SA.out.bel⟩
      · have hv' : vld s1 s2 = false := by simpa using hv
        have HRR := Lib.hid (fun w1 => rel_bad1 s1 s2 s1 s2 w1 hv')
        rw [← hn] at HB hm ⊢
        have HX0 := Lib.hid hx0
        have HB0 := Lib.hid hb0
        clear ha ha0 hA hn hok hx0 hb0 hv hv'
        go_enter Try.func7, Try.ntmps7
        go_wp2_with fail
        refine HB.out.mono ?_
        rintro e w1 ⟨p, rfl, hi, hb1⟩
        have HX1 := Lib.hid ((hb1.block _ (blk_lt HX0.out)).trans HX0.out)
        have HR1 := Lib.hid (HRR.out w1)
        have x1 : w1.cell? ⟨w.heap.size, 0, none⟩ = some (.int .i64 s1) := by rw [blk_cell HX1.out]; rfl
        have x2 : w1.cell? ⟨w.heap.size, 1, none⟩ = some (.int .i64 s2) := by rw [blk_cell HX1.out]; rfl
        have HB1 := Lib.hid hb1
        clear hi hb1 HB HX0 HRR
        go_wp2_with fail
        refine HR1.out.mono ?_
        rintro e w2 ⟨rfl, hb2⟩
        clear x1 x2
        have HB2 := Lib.hid (bel_trans HB0.out (bel_trans HB1.out hb2))
        clear hb2
        go_wp2_with fail
        refine (awake_any w2).mono ?_
        rintro e w3 ⟨rfl, hb3⟩
        have HB3 := Lib.hid (bel_trans HB2.out hb3)
        clear hb3
        go_wp2
        go_ret
        exact ⟨rfl, HB3.out⟩
    · have HB := Lib.hid (built_bad A c xs (w.alloc (SB s1 s2)) ha0 (by omega) hok)
      rw [← hn] at HB hm ⊢
      have HB0 := Lib.hid hb0
      clear ha ha0 hA hn hok hb0
      go_enter Try.func7, Try.ntmps7
      go_wp2_with fail
      refine HB.out.mono ?_
      rintro e w1 ⟨rfl, hb1⟩
      have HB1 := Lib.hid (bel_trans HB0.out hb1)
      clear hb1 HB
      go_wp2_with fail
      refine (awake_any w1).mono ?_
      rintro e w3 ⟨rfl, hb3⟩
      have HB3 := Lib.hid (bel_trans HB1.out hb3)
      clear hb3 HB1
      go_wp2
      go_ret
      exact ⟨rfl, HB3.out⟩
end Go.Proofs.Ytlpdligkjihkeaa.Tb
