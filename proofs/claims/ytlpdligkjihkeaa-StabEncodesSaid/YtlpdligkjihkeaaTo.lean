/- (*Index).find, walked: valid spans. -/
import Derived.Test.YtlpdligkjihkeaaTn
set_option linter.unusedVariables false
set_option linter.unusedSimpArgs false
namespace Go.Proofs.Ytlpdligkjihkeaa.Tb
open Go.RowKit Go.Shelf
attribute [local go_sem] Oper.semAt_some

set_option maxRecDepth 1000000 in
set_option maxHeartbeats 8000000 in
theorem find_ok {n : Nat} (p : Nat) (As : Option Addr) (cs : Nat) (bg en : Nat → Int) (kp : Nat → Bool) (L : List (Fin n)) (s1 s2 : Int) (kf : Nat) (kcb : Array Value) (w : World) (hv : vld s1 s2 = true) (hn : n ≤ 1000000) (hL : L.length ≤ n)
    (hk0 : w.cell? ⟨p, 0, none⟩ = some (.slice As n cs))
    (hkc : ∀ x : Fin n, ∃ bs, As = some ⟨bs, 0, none⟩ ∧ w.cell? ⟨bs, x.val * 2, none⟩ = some (.int .i64 (bg x.val)) ∧ w.cell? ⟨bs, x.val * 2 + 1, none⟩ = some (.int .i64 (en x.val)))
    (hst : ∀ (nn n₀ Bx Bs : Nat) (w2 : World), Below w.heap.size w w2 → w.heap.size ≤ n₀ → n₀ ≤ w2.heap.size → w2.cell? ⟨Bx, 0, none⟩ = some (.pointer (some ⟨p, 0, none⟩)) → w2.heap[Bs]? = some (SB s1 s2) →
      SeqStopsK Fence.wide nn Try.prog 59 #[.pointer (some ⟨Bx, 0, none⟩), .pointer (some ⟨Bs, 0, none⟩)] (fun x : Fin n => #[Value.int .i64 (x.val : Int)]) (Kp n₀) (fun ys => ys = L) (fun pre => pre <+: L) L.length w2)
    (ekf : ∀ args w, (callFunc kf args).run Try.prog w = .ok (.enter kf args) w)
    (hkeep : ∀ (W : World) (x : Fin n), Below w.heap.size w W → Calls Try.prog kf (#[SP (bg x.val) (en x.val)] ++ kcb) W fun e w' => e = .returned (.bool (kp x.val)) ∧ Below W.heap.size W w') :
    Calls Try.prog 28 #[.pointer (some ⟨p, 0, none⟩), SP s1 s2, .func (.func kf) #[] kcb] w fun e w' => ∃ A c, e = .returned (.slice A (L.filter fun x => kp x.val).length c) ∧
      RdI w' A (((L.filter fun x => kp x.val).map fun x => (x.val : Int)).mergeSort fun x y => decide (x ≤ y)) ∧ Below w.heap.size w w' := by
  obtain ⟨w0, hw0⟩ : ∃ w0, w0 = (((w.alloc (.cells #[.pointer (some ⟨p, 0, none⟩)] 23)).alloc (SB s1 s2)).alloc (.cells #[.func (.func kf) #[] kcb] 56)) := ⟨_, rfl⟩
  have hb0 : Below w.heap.size w w0 := by rw [hw0]; exact bel_alloc (bel_alloc (bel_alloc (Below.refl _ _) _) _) _
  have hv2 := hv
  have hr := rel_eq s1 s2 s1 s2 w0 hv hv2 (Int.le_refl _) (Int.le_refl _) (Int.le_refl _) (Int.le_refl _)
  rw [hw0] at hr
  have HR := Lib.hid hr
  have HST := Lib.hid hst
  have HKP := Lib.hid hkeep
  have HKC := Lib.hid hkc
  have HV := Lib.hid hv
  clear hr hst hkeep hkc hv hv2
  have HB0 := Lib.hid hb0
  have HW0 := Lib.hid hw0
  have x0 : w0.heap.size = w.heap.size + 3 := by rw [hw0, World.size_alloc, World.size_alloc, World.size_alloc]
  have x1 : w0.cell? ⟨w.heap.size, 0, none⟩ = some (.pointer (some ⟨p, 0, none⟩)) := by
    have h1 := heap_alloc_new w (.cells #[.pointer (some ⟨p, 0, none⟩)] 23)
    have h2 : w0.heap[w.heap.size]? = some (.cells #[.pointer (some ⟨p, 0, none⟩)] 23) := by
      rw [hw0]
      exact (heap_alloc_old _ _ (by rw [World.size_alloc, World.size_alloc]; omega)).trans ((heap_alloc_old _ _ (by rw [World.size_alloc]; omega)).trans h1)
    rw [blk_cell h2]
    rfl
  have x2 : w0.heap[w.heap.size + 1]? = some (SB s1 s2) := by
    have h1 := heap_alloc_new (w.alloc (.cells #[.pointer (some ⟨p, 0, none⟩)] 23)) (SB s1 s2)
    rw [World.size_alloc] at h1
    rw [hw0]
    exact (heap_alloc_old _ _ (by rw [World.size_alloc, World.size_alloc]; omega)).trans h1
  have x3 : w0.cell? ⟨w.heap.size + 1 + 1, 0, none⟩ = some (.func (.func kf) #[] kcb) := by
    have h1 := heap_alloc_new ((w.alloc (.cells #[.pointer (some ⟨p, 0, none⟩)] 23)).alloc (SB s1 s2)) (.cells #[.func (.func kf) #[] kcb] 56)
    rw [World.size_alloc, World.size_alloc, ← hw0] at h1
    rw [blk_cell h1]
    rfl
  have HX := Lib.hid (And.intro x0 (And.intro x1 (And.intro x2 x3)))
  clear hb0 hw0 x0 x1 x2 x3
  refine (callsIn_wide (n := 5)).1 ?_
  refine callsIn_of_wp_marks Try.func28 rfl trivial ?_ rfl
  simp only [Try.ntmps28, List.size_toArray, List.length_cons, List.length_nil, Nat.reduceAdd, Nat.reduceSub, Array.replicate_succ, Array.replicate_zero, List.push_toArray, List.append_toArray, List.nil_append, List.cons_append]
  gi_wp2_with fail
  refine ⟨trivial, ?_⟩
  refine (callsIn_wide.2 HR.out).mono ?_
  rintro e w1 ⟨rfl, hb⟩
  rw [← HW0.out] at hb
  obtain ⟨x0, x1, x2, x3⟩ := HX.out
  have y1 : w1.cell? ⟨w.heap.size, 0, none⟩ = some (.pointer (some ⟨p, 0, none⟩)) := (hb.cell (World.block_lt_of_cell? _ _ x1)).trans x1
  have y2 : w1.heap[w.heap.size + 1]? = some (SB s1 s2) := (hb.block _ (blk_lt x2)).trans x2
  have y3 : w1.cell? ⟨w.heap.size + 1 + 1, 0, none⟩ = some (.func (.func kf) #[] kcb) := (hb.cell (World.block_lt_of_cell? _ _ x3)).trans x3
  have y0 : w.heap.size + 3 ≤ w1.heap.size := by have := hb.size; omega
  have y4 : w1.cell? ⟨w.heap.size + 1, 0, none⟩ = some (.int .i64 s1) := by rw [blk_cell y2]; rfl
  have y5 : w1.cell? ⟨w.heap.size + 1, 1, none⟩ = some (.int .i64 s2) := by rw [blk_cell y2]; rfl
  have HB1 := Lib.hid (bel_trans HB0.out hb)
  have HY := Lib.hid (And.intro y0 (And.intro y1 (And.intro y2 y3)))
  clear x0 x1 x2 x3 hb HR HX HW0
  have al : ∀ (o : Obj) {a : Addr} {v : Value}, w1.cell? a = some v → (w1.alloc o).cell? a = some v := fun o {a v} h => ((bel_alloc (Below.refl _ w1) o).cell (World.block_lt_of_cell? _ _ h)).trans h
  have z1 := al (.cells #[.slice none 0 0] 30) y1
  have z4 := al (.cells #[.slice none 0 0] 30) y4
  have z5 := al (.cells #[.slice none 0 0] 30) y5
  clear y0 y1 y2 y3 y4 y5 al
  gi_wp2_with fail
  refine ⟨trivial, ?_⟩
  refine (callsIn_wide.2 (overlapping_any _ (.inr ⟨_, rfl⟩) s1 s2 _)).mono ?_
  rintro e w2 ⟨rfl, hw2⟩
  clear z1 z4 z5
  gi_wp2_with fail
  have hc := HY.out
  obtain ⟨y0, y1, y2, y3⟩ := hc
  obtain ⟨B, hB⟩ : ∃ B, B = w1.heap.size := ⟨_, rfl⟩
  have bO : Boxed w2 B 30 (.slice none 0 0) := by rw [← hw2, hB]; exact ((Boxed.new w1 _ _).alloc _).alloc _
  have bX : w2.cell? ⟨B + 1, 0, none⟩ = some (.pointer (some ⟨p, 0, none⟩)) := by
    have h1 := heap_alloc_new (w1.alloc (.cells #[.slice none 0 0] 30)) (.cells #[.pointer (some ⟨p, 0, none⟩)] 23)
    rw [World.size_alloc, ← hB] at h1
    rw [← hw2]
    rw [blk_cell ((heap_alloc_old _ _ (by rw [World.size_alloc, World.size_alloc]; omega)).trans h1)]
    rfl
  have bS : w2.heap[B + 1 + 1]? = some (SB s1 s2) := by
    have h1 := heap_alloc_new ((w1.alloc (.cells #[.slice none 0 0] 30)).alloc (.cells #[.pointer (some ⟨p, 0, none⟩)] 23)) (SB s1 s2)
    rw [World.size_alloc, World.size_alloc, ← hB, hw2] at h1
    exact h1
  have sz : w2.heap.size = B + 3 := by rw [← hw2, World.size_alloc, World.size_alloc, World.size_alloc, hB]
  have hb2 : Below B w1 w2 := by rw [← hw2, hB]; exact bel_alloc (bel_alloc (bel_alloc (Below.refl _ _) _) _) _
  have hb2w : Below w.heap.size w w2 := HB1.out.trans (hb2.mono (by omega))
  have hS := HST.out (5 - 1) B (B + 1) (B + 1 + 1) w2 hb2w (by omega) (by omega) bX bS
  clear bX bS hw2 HST
  subst hB
  obtain ⟨i0, hi0, hz0, hz1, hz2⟩ := info_parts infoI
  have HH := Lib.hid hb2
  have HA := Lib.hid hb2w
  refine wpIn_rangeFunc_ownG rfl (by omega) (gf := 59) (lb := #[.pointer (some ⟨w1.heap.size + 1, 0, none⟩), .pointer (some ⟨w1.heap.size + 1 + 1, 0, none⟩)]) rfl trivial (enters_of Try.func59 (by kernel_rfl) rfl)
    hS (fun h k => h.trans k) (kp_put (by omega)) (Below.refl _ _) (fun _ => rfl)
    (fun pre W => (∃ v, Boxed W w1.heap.size 30 v ∧ W.ownsRow w1.heap.size 3 1 v (pre.filter fun x => kp x.val).length ((pre.filter fun x => kp x.val).map fun x => Value.int .i64 (x.val : Int)) ∧ True) ∧ Below w1.heap.size w2 W)
    (fun _ _ _ => False)
    (OwnFrom.and (Own.from (holdsRow_own w1.heap.size w1.heap.size 30 3 1 (fun (pre : List (Fin n)) => (pre.filter fun x => kp x.val).length) (fun (pre : List (Fin n)) => (pre.filter fun x => kp x.val).map fun x => Value.int .i64 (x.val : Int)) (fun _ _ => True)) _) (ownFrom_below (by omega) (by omega)))
    (fun _ _ _ _ _ hs _ _ => hs)
    ⟨⟨_, bO, World.ownsRow_nil _ _ _ _, trivial⟩, Below.refl _ _⟩
    (fun x => { tmps :=
      #[Value.pointer (some { block := p, off := 0 }), SP s1 s2, Value.func (Fn.func kf) #[] kcb,
          Value.pointer (some { block := w.heap.size, off := 0 }),
          Value.pointer (some { block := w.heap.size + 1, off := 0 }),
          Value.pointer (some { block := w.heap.size + 1 + 1, off := 0 }), Value.slice none 0 0,
          Value.pointer (some { block := w1.heap.size, off := 0 }), .int .i64 (x.val : Int),
          Value.agg #[Value.int IntKind.i64 s1, Value.int IntKind.i64 s2],
          Value.agg #[Value.int IntKind.i64 s1, Value.int IntKind.i64 s2], Value.int IntKind.i64 7, Value.bool false,
          Value.pointer (some { block := p, off := 0 }),
          Value.agg #[Value.int IntKind.i64 s1, Value.int IntKind.i64 s2],
          Value.func (Fn.func 59) #[]
            #[Value.pointer (some { block := w1.heap.size + 1, off := 0 }),
              Value.pointer (some { block := w1.heap.size + 1 + 1, off := 0 })],
          .int .i64 (x.val : Int), undef, undef, undef, undef, undef, undef, undef, undef, undef, undef, undef, undef, undef, undef,
          undef, undef], defers := [] }) ?assign ?body ?done ?stop
  case assign =>
    intro l x W K hK
    gi_wp2
    exact hK
  case stop =>
    rintro D c pre W _ _ h _
    exact h.elim
  case done =>
    rintro D ys W hD rfl ⟨⟨v, hv, hrow, _⟩, hBl⟩ hK
    have hc := hv.cell
    have hl : (ys.filter fun x => kp x.val).length ≤ n := Nat.le_trans (List.length_filter_le _ _) hL
    obtain ⟨zs, hzs⟩ : ∃ zs : List Int, zs = (ys.filter fun x => kp x.val).map fun x => (x.val : Int) := ⟨_, rfl⟩
    have hrow' : W.ownsRow w1.heap.size 3 1 v zs.length (zs.map (Value.int .i64)) := by rw [hzs, List.length_map, List.map_map]; exact hrow
    have hzl : zs.length ≤ n := by rw [hzs, List.length_map]; exact hl
    have CS := Lib.hid (sort_own hrow' (by omega))
    have HW := Lib.hid (And.intro hrow' hBl)
    have HZ := Lib.hid hzs
    have HKD := Lib.hid hK
    have HBX := Lib.hid hv
    clear hrow hrow' hBl hv hK hzs
    gi_wp2_with fail
    refine ⟨trivial, ?_⟩
    refine (callsIn_wide.2 CS.out).mono ?_
    rintro e W3 ⟨rfl, ho3, hg3⟩
    obtain ⟨hrow', hBl⟩ := HW.out
    have hv3 : Boxed W3 w1.heap.size 30 v := HBX.out.kept hg3 (HBX.out.not_row (by decide) hrow')
    have hc3 := hv3.cell
    have hK3 : W3.heap[D]? = some (.deferred (some [])) := (show W3.heap[D]? = W.heap[D]? from hg3.block D (blk_lt HKD.out) (fun e => by
      rcases hrow'.2 with ⟨rfl, _⟩ | ⟨g, cap, cur, rfl, hb, hg, _⟩
      · simp [Value.ownBlock] at e
      · obtain rfl : D = g := by simpa [Value.ownBlock] using e
        rw [HKD.out] at hg
        cases hg)).trans HKD.out
    have hb3 : Below w1.heap.size W W3 := grow_bel hrow' (by have := hBl.size; omega) hg3
    have hlm : (zs.mergeSort fun x y => decide (x ≤ y)).length = zs.length := List.length_mergeSort _
    obtain ⟨A, c, rfl, hrd⟩ := own_rdI (zs := zs.mergeSort fun x y => decide (x ≤ y)) (by rw [hlm]; exact ho3)
    have HRD := Lib.hid hrd
    have HK3 := Lib.hid hK3
    have HB3 := Lib.hid (hBl.trans hb3)
    clear hrd hK3 hb3 hv3 ho3 hg3 hrow' hBl hc CS
    gi_wp2
    refine ⟨by simp, .inl ⟨_, _, rfl, run_takeDeferred HK3.out, ?_⟩⟩
    have hD' : w1.heap.size + 3 ≤ D := by omega
    refine ⟨_, results_tmp rfl _ _ _, A, c, ?_, ?_, ?_⟩
    · have e1 : zs.length = (ys.filter fun x => kp x.val).length := by rw [HZ.out, List.length_map]
      rw [← e1]
      rfl
    · rw [← HZ.out]
      intro h0
      obtain ⟨b, off, e, hcs⟩ := HRD.out h0
      refine ⟨b, off, e, fun j hj => (?_ : _ = _).trans (hcs j hj)⟩
      have hbk := hcs j hj
      have hne : b ≠ D := fun e => by
        subst e
        simp [World.cell?, HK3.out] at hbk
      simp only [World.cell?, World.putObj_heap_other hne]
    · exact (HA.out.trans (HB3.out.mono (by omega))).trans (belowK_b (w := w2) (by omega) W3 D _ _ (by omega) HK3.out rfl rfl)
  case body =>
    rintro l pre x W ⟨⟨v, hv, hrow, _⟩, hBl⟩ hlt
    have hc := hv.cell
    obtain ⟨bs, hAs, hc1, hc2⟩ := HKC.out x
    subst hAs
    have hWw : Below w.heap.size w W := HA.out.trans (hBl.mono (by omega))
    have tr : ∀ {a : Addr} {v : Value}, w.cell? a = some v → W.cell? a = some v := fun {a v} h => (hWw.cell (World.block_lt_of_cell? _ _ h)).trans h
    have q0 := tr hk0
    have q1 := tr hc1
    have q2 := tr hc2
    have hBB := HH.out.trans hBl
    have q3 : W.cell? ⟨w.heap.size, 0, none⟩ = some (.pointer (some ⟨p, 0, none⟩)) := (hBB.cell (World.block_lt_of_cell? _ _ y1)).trans y1
    have q4 : W.cell? ⟨w.heap.size + 1 + 1, 0, none⟩ = some (.func (.func kf) #[] kcb) := (hBB.cell (World.block_lt_of_cell? _ _ y3)).trans y3
    have hk := HKP.out W.drew x (bel_drew hWw)
    have HK := Lib.hid hk
    have g1 : (0 : Int) ≤ (x.val : Int) := by omega
    have g2 : (x.val : Int) < (n : Int) := by have := x.isLt; omega
    have mixed : Try.prog.follows .mixedOrders = true := by kernel_rfl
    have HST := Lib.hid (And.intro hv (And.intro hrow hBl))
    clear hv hrow hBl hWw tr hBB hk hc1 hc2
    obtain ⟨xv, hxv⟩ : ∃ xv, xv = x.val := ⟨_, rfl⟩
    have HCT := Lib.hid (And.intro hL hlt)
    clear hL hlt y1 y3 y2 y0
    gi_wp2_with fail
    gi_cut [25] from 17 (fun v25 wc => v25 = .bool (kp x.val) ∧ Below W.heap.size W wc)
    case first =>
      clear HST HKP HKC HV HB0 HB1 HH HA HY HCT
      clear hi0 hz0 hz1 hz2 i0 hn sz hc hb2 hb2w
      gi_region_with_o (refine ⟨trivial, ?_⟩; refine (CallsIn.inRound l (callsIn_wide.2 HK.out)).mono ?_; rintro e W3 ⟨rfl, hb3⟩)
      all_goals
        have HB := Lib.hid hb3
        clear hb3
        gi_wp2
        gi_meet
        case rel => exact ⟨rfl, bel_trans (bel_drew (Below.refl _ W)) HB.out⟩
    case rest =>
      obtain ⟨rfl, hb3⟩ := hcut
      obtain ⟨hv, hrow, hBl⟩ := HST.out
      have hsz : w1.heap.size ≤ W.heap.size := Nat.le_of_lt hv.lt
      have hv3 := boxed_below hv hb3
      have hrow3 := own_below hrow hb3
      have hB3 := hb3.mono hsz
      have hn3 : w1.heap.size ≤ wc.heap.size := Nat.le_trans hsz hb3.size
      have hc3 := hv3.cell
      have hkp := kp_below hsz hb3
      have hko := keeps_below hb3
      have hbl3 := hBl.trans hB3
      obtain ⟨hL, hlt⟩ := HCT.out
      have hlf : (pre.filter fun x => kp x.val).length ≤ pre.length := List.length_filter_le _ _
      clear HST hv hrow hBl hb3 hc q0 q1 q2 q3 q4 HK HKP HKC
      obtain ⟨A, c, rfl⟩ := own_shape hrow3
      obtain ⟨kb, hkb⟩ : ∃ b, b = kp x.val := ⟨_, rfl⟩
      rw [← hkb]
      have HKB := Lib.hid hkb
      clear hkb
      cases kb with
      | false =>
        gi_wp2
        refine ⟨hko.from _, hkp, ⟨_, hv3, ?_, trivial⟩, hbl3⟩
        rw [List.filter_append, List.filter_cons, ← HKB.out, if_neg (by simp), List.filter_nil, List.append_nil]
        exact hrow3
      | true =>
        gi_wp2_with (gi_at_builtin; refine wpListIn_append_own _ rfl _ _ 30 rfl w1.heap.size 3 i0 (.int .i64 0) 1 8 Try.underlying30 hi0 hz0 hz1 hz2 rfl (by decide) _ _ _ rfl (hrow3.alloc _) ⟨wc.heap.size, 0, none⟩ 1 1 [.int .i64 (x.val : Int)] rfl rfl (cell_one_new _ _ _) (by simp [Value.oneCell']) (by simp only [maxLen]; omega) (by omega) (by simp; omega) ?_; intro v' w4 hown' hgrow _; obtain ⟨g', cap', rfl⟩ := ownsRow_succ hown'; obtain ⟨hv1, hv2, hr2, hk2, hb2'⟩ := hv3.appended (by decide) hrow3 hn3 (Nat.le_refl _) hown' hgrow; have hkpa := kp_append hv3 hrow3 hgrow hb2'; have hc1 := hv1.cell; have hf1 := hv1.frozen)
        refine ⟨(hko.trans hk2).from _, hkp.trans hkpa, ⟨_, hv2, ?_, trivial⟩, hbl3.trans hb2'⟩
        rw [List.filter_append, List.filter_cons, ← HKB.out, if_pos rfl, List.filter_nil]
        simpa using hr2
end Go.Proofs.Ytlpdligkjihkeaa.Tb
