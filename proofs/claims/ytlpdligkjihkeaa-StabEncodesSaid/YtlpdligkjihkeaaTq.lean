/- The index's questions, walked. -/
import Derived.Test.YtlpdligkjihkeaaTp
set_option linter.unusedVariables false
set_option linter.unusedSimpArgs false
namespace Go.Proofs.Ytlpdligkjihkeaa.Tb
open Go.RowKit Go.Shelf

def ansK (xs : List (Int × Int)) (s1 s2 : Int) (k : Int → Int → Bool) : List Int := if vld s1 s2 = true then sel xs.length fun i => hitN (bgn xs) (enn xs) s1 s2 i && k (bgn xs i) (enn xs i) else []
theorem ansK_len (xs : List (Int × Int)) (s1 s2 : Int) (k : Int → Int → Bool) : (ansK xs s1 s2 k).length ≤ xs.length := by
  unfold ansK
  split
  · exact sel_len _ _
  · simp

/-- A list of ints is answered. -/
def Ans (w : World) (L : List Int) (e : Ending) (w' : World) : Prop := ∃ A c, e = .returned (.slice A L.length c) ∧ RdI w' A L ∧ Below w.heap.size w w'
theorem ans_nil {w w' : World} {e : Ending} (he : e = .returned (.slice none 0 0)) (hb : Below w.heap.size w w') {L : List Int} (hL : L = []) : Ans w L e w' := by
  subst hL
  exact ⟨none, 0, he, fun h => by simp at h, hb⟩

set_option maxHeartbeats 1600000 in
theorem find_ans (xs : List (Int × Int)) (p : Nat) (k : Int → Int → Bool) (s1 s2 : Int) (kf : Nat) (kcb : Array Value) (w : World) (hn : xs.length ≤ 1000000) (hI : Idx w p xs)
    (ekf : ∀ args w, (callFunc kf args).run Try.prog w = .ok (.enter kf args) w)
    (hkeep : ∀ (W : World) (a b : Int), Below w.heap.size w W → Calls Try.prog kf (#[SP a b] ++ kcb) W fun e w' => e = .returned (.bool (k a b)) ∧ Below W.heap.size W w') :
    Calls Try.prog 28 #[.pointer (some ⟨p, 0, none⟩), SP s1 s2, .func (.func kf) #[] kcb] w fun e w' => Ans w (ansK xs s1 s2 k) e w' := by
  by_cases hv : vld s1 s2 = true
  · refine (find_any xs p (fun i => k (bgn xs i) (enn xs i)) s1 s2 kf kcb w hv hn hI ekf (fun W i _ hb => hkeep W _ _ hb)).mono ?_
    rintro e w' ⟨A, c, rfl, hrd, hb⟩
    rw [ansK, if_pos hv]
    exact ⟨A, c, rfl, hrd, hb⟩
  · have hv' : vld s1 s2 = false := by simpa using hv
    refine (find_bad (some ⟨p, 0, none⟩) s1 s2 kf kcb w hv').mono ?_
    rintro e w' ⟨rfl, hb⟩
    exact ans_nil rfl hb (by rw [ansK, if_neg hv])

theorem ans_below {w w1 w' : World} {L : List Int} {e : Ending} (hb : Below w.heap.size w w1) (h : Ans w1 L e w') : Ans w L e w' := by
  obtain ⟨A, c, he, hr, hb2⟩ := h
  exact ⟨A, c, he, hr, bel_trans hb hb2⟩

set_option maxHeartbeats 1600000 in
theorem Overlap_ans (xs : List (Int × Int)) (p : Nat) (s1 s2 : Int) (w : World) (hn : xs.length ≤ 1000000) (hI : Idx w p xs) :
    Calls Try.prog 16 #[.pointer (some ⟨p, 0, none⟩), SP s1 s2] w fun e w' => Ans w (ansK xs s1 s2 fun _ _ => true) e w' := by
  have hb := bel_alloc (Below.refl w.heap.size w) (SB s1 s2)
  have HF := Lib.hid (find_ans xs p (fun _ _ => true) s1 s2 29 #[] (w.alloc (SB s1 s2)) hn (hI.below hb) (enters_of Try.func29 (by kernel_rfl) rfl) (fun W a b _ => keepO a b W))
  have HB := Lib.hid hb
  clear hb hI
  go_enter Try.func16, Try.ntmps16
  go_wp2_with fail
  refine HF.out.mono ?_
  rintro e w1 ⟨A, c, rfl, hr, hb2⟩
  have H2 := Lib.hid (And.intro hr (bel_trans HB.out hb2))
  clear hr hb2 HF
  go_wp2
  go_ret
  exact ⟨A, c, rfl, H2.out.1, H2.out.2⟩

set_option maxHeartbeats 1600000 in
theorem Inside_ans (xs : List (Int × Int)) (p : Nat) (s1 s2 : Int) (w : World) (hn : xs.length ≤ 1000000) (hI : Idx w p xs) :
    Calls Try.prog 19 #[.pointer (some ⟨p, 0, none⟩), SP s1 s2] w fun e w' => Ans w (ansK xs s1 s2 fun a b => cont s1 s2 a b) e w' := by
  have hb := bel_alloc (Below.refl w.heap.size w) (SB s1 s2)
  have HF := Lib.hid (find_ans xs p (fun a b => cont s1 s2 a b) s1 s2 34 #[.pointer (some ⟨w.heap.size, 0, none⟩)] (w.alloc (SB s1 s2)) hn (hI.below hb) (enters_of Try.func34 (by kernel_rfl) rfl)
    (fun W a b hW => keepI a b s1 s2 w.heap.size W ((hW.block _ (by simp)).trans (heap_alloc_new w (SB s1 s2)))))
  have HB := Lib.hid hb
  clear hb hI
  go_enter Try.func19, Try.ntmps19
  go_wp2_with fail
  refine HF.out.mono ?_
  rintro e w1 ⟨A, c, rfl, hr, hb2⟩
  have H2 := Lib.hid (And.intro hr (bel_trans HB.out hb2))
  clear hr hb2 HF
  go_wp2
  go_ret
  exact ⟨A, c, rfl, H2.out.1, H2.out.2⟩

set_option maxHeartbeats 1600000 in
theorem Around_ans (xs : List (Int × Int)) (p : Nat) (s1 s2 : Int) (w : World) (hn : xs.length ≤ 1000000) (hI : Idx w p xs) :
    Calls Try.prog 17 #[.pointer (some ⟨p, 0, none⟩), SP s1 s2] w fun e w' => Ans w (ansK xs s1 s2 fun a b => cont a b s1 s2) e w' := by
  have hb := bel_alloc (Below.refl w.heap.size w) (SB s1 s2)
  have HF := Lib.hid (find_ans xs p (fun a b => cont a b s1 s2) s1 s2 30 #[.pointer (some ⟨w.heap.size, 0, none⟩)] (w.alloc (SB s1 s2)) hn (hI.below hb) (enters_of Try.func30 (by kernel_rfl) rfl)
    (fun W a b hW => keepA a b s1 s2 w.heap.size W ((hW.block _ (by simp)).trans (heap_alloc_new w (SB s1 s2)))))
  have HB := Lib.hid hb
  clear hb hI
  go_enter Try.func17, Try.ntmps17
  go_wp2_with fail
  refine HF.out.mono ?_
  rintro e w1 ⟨A, c, rfl, hr, hb2⟩
  have H2 := Lib.hid (And.intro hr (bel_trans HB.out hb2))
  clear hr hb2 HF
  go_wp2
  go_ret
  exact ⟨A, c, rfl, H2.out.1, H2.out.2⟩

def ansS (xs : List (Int × Int)) (pos : Int) : List Int := if 0 ≤ pos ∧ pos < 2147483647 then ansK xs pos (pos + 1) (fun _ _ => true) else []
set_option maxHeartbeats 1600000 in
theorem Stab_ans (xs : List (Int × Int)) (p : Nat) (pos : Int) (w : World) (hn : xs.length ≤ 1000000) (hI : Idx w p xs) :
    Calls Try.prog 14 #[.pointer (some ⟨p, 0, none⟩), .int .i64 pos] w fun e w' => Ans w (ansS xs pos) e w' := by
  have HF := Lib.hid (Overlap_ans xs p pos (pos + 1) w hn hI)
  clear hI
  by_cases h1 : 0 ≤ pos
  · by_cases h2 : pos < 2147483647
    · go_enter Try.func14, Try.ntmps14
      go_wp2_with fail
      refine HF.out.mono ?_
      rintro e w1 ⟨A, c, rfl, hr, hb2⟩
      have H2 := Lib.hid (And.intro hr hb2)
      clear hr hb2 HF
      have e0 : ansS xs pos = ansK xs pos (pos + 1) (fun _ _ => true) := by rw [ansS, if_pos ⟨h1, h2⟩]
      have E0 := Lib.hid e0
      clear e0
      go_wp2
      go_ret
      rw [E0.out]
      exact ⟨A, c, rfl, H2.out.1, H2.out.2⟩
    · go_enter Try.func14, Try.ntmps14
      go_wp2
      go_ret
      exact ans_nil rfl (Below.refl _ _) (by rw [ansS, if_neg (by omega)])
  · go_enter Try.func14, Try.ntmps14
    go_wp2
    go_ret
    exact ans_nil rfl (Below.refl _ _) (by rw [ansS, if_neg (by omega)])

set_option maxHeartbeats 1600000 in
theorem Len_any (xs : List (Int × Int)) (p : Nat) (w : World) (hI : Idx w p xs) :
    Calls Try.prog 11 #[.pointer (some ⟨p, 0, none⟩)] w fun e w' => e = .returned (.int .i64 xs.length) ∧ w' = w := by
  obtain ⟨As, Ao, Ae, cs, co, ce, on, E, k0, _⟩ := hI
  go_enter Try.func11, Try.ntmps11
  go_wp2
  go_ret
  exact ⟨rfl, rfl⟩
end Go.Proofs.Ytlpdligkjihkeaa.Tb
