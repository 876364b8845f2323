/- Go's insertion sort of ints with a comparison, walked. -/
import Derived.Test.YtlpdligkjihkeaaSw
set_option linter.unusedVariables false
namespace Go.Proofs.Ytlpdligkjihkeaa.Sw
open Go.Shelf Go.RowKit Go.Lib Go.Sort Go.Proofs.Ytlpdligkjihkeaa.St
variable {α : Type} [Inhabited α]

theorem insInner_pos (lt : α → α → Bool) (a j : Nat) (d : Array α) (h : a < j) (hl : lt d[j]! d[j - 1]! = true) : insInner lt a j d = insInner lt a (j - 1) (swp d j (j - 1)) := by
  obtain ⟨p, rfl⟩ : ∃ p, j = p + 1 := ⟨j - 1, by omega⟩
  simp only [Nat.add_sub_cancel] at hl ⊢
  rw [insInner, if_pos (by rw [hl]; simp; omega)]
theorem insInner_neg (lt : α → α → Bool) (a j : Nat) (d : Array α) (h : a < j → lt d[j]! d[j - 1]! = false) : insInner lt a j d = d := by
  cases j with
  | zero => rfl
  | succ p =>
    rw [insInner, if_neg]
    intro hc
    rw [Bool.and_eq_true, decide_eq_true_eq] at hc
    have := h hc.1
    simp only [Nat.add_sub_cancel] at this
    rw [hc.2] at this
    cases this

set_option maxHeartbeats 16000000 in
set_option maxRecDepth 1000000 in
theorem insertion_s (f : α → Int) (cf : α → α → Int) (g : Nat) (cb : Array Value) (blk off cap a b : Nat) (d0 d : Array α) (w0 w : World)
    (eg : ∀ args w, (callFunc g args).run Try.prog w = .ok (.enter g args) w) (hcmp : CmpLays1 Try.prog g cb (E f) cf blk off d0.size w0) (R : Row1 (E f) w0 blk off d0) (hs : d0.size = d.size) (S : SW (E f) w0 blk off d w)
    (h1 : a ≤ b) (h3 : b ≤ d.size) (hsz : d.size < 4611686018427387904) :
    Calls Try.prog 65 #[.slice (some ⟨blk, off, none⟩) d.size cap, .int .i64 a, .int .i64 b, .func (.func g) #[] cb] w fun e w' => e = .returned (.tuple #[]) ∧ SW (E f) w0 blk off (insertionSort (ltOf cf) d a b) w' := by
  have mixed : Try.prog.follows .mixedOrders = true := by kernel_rfl
  have HC : Aside _ := hcmp
  have S0 : Aside (SW (E f) w0 blk off d w) := S
  clear S hcmp
  go_enter Try.func65, Try.ntmps65
  go_wp2
  go_loopg [8] (b - a) (fun kx s wr => ∃ (i : Nat) (dk : Array α), s = .int .i64 i ∧ a < i ∧ i ≤ b + 1 ∧ b + 1 - i ≤ kx + 1 ∧ dk.size = d.size ∧ Aside (SW (E f) w0 blk off dk wr) ∧ Hid (insOuter (ltOf cf) a b i dk = insOuter (ltOf cf) a b (a + 1) d))
  case atStart => exact ⟨a + 1, d, by go_num, by omega, by omega, by omega, rfl, S0, rfl⟩
  case round =>
    clear S0
    obtain ⟨i, dk, rfl, hai, hib, hkx, hds, S1, HO⟩ := hrel
    by_cases hlt : i < b
    · go_wp2
      go_loopg [9] i (fun kx t wr2 => ∃ (j : Nat) (dj : Array α), t = .int .i64 j ∧ a ≤ j ∧ j ≤ i ∧ j ≤ kx ∧ dj.size = d.size ∧ Aside (SW (E f) w0 blk off dj wr2) ∧ Hid (insInner (ltOf cf) a j dj = insInner (ltOf cf) a i dk))
      case atStart => exact ⟨i, dk, rfl, by omega, Nat.le_refl _, Nat.le_refl _, hds, S1, rfl⟩
      case round =>
        clear S1
        obtain ⟨j, dj, rfl, haj, hji, hkj, hsj, S1, HI⟩ := hrel
        by_cases hja : a < j
        · have g1 : (a : Int) < (j : Int) := by omega
          have g2 : (1 : Int) ≤ (j : Int) := by omega
          cases hlv : ltOf cf dj[j]! dj[j - 1]! with
          | true =>
            obtain ⟨iN, hiN⟩ : ∃ z, z = j := ⟨_, rfl⟩
            obtain ⟨jN, hjN⟩ : ∃ z, z = j - 1 := ⟨_, rfl⟩
            have ea : ((j : Int)).toNat = iN := by omega
            have pa : (0 : Int) ≤ (j : Int) := by omega
            have ba : (j : Int) < (d.size : Int) := by omega
            have ra : IntKind.i64.wrap ((j : Int)) = (j : Int) := by rw [IntKind.wrap_i64]; omega
            have ec : ((j : Int) - 1).toNat = jN := by omega
            have pc : (0 : Int) ≤ (j : Int) - 1 := by omega
            have bc : (j : Int) - 1 < (d.size : Int) := by omega
            have rc : IntKind.i64.wrap ((j : Int) - 1) = (j : Int) - 1 := by rw [IntKind.wrap_i64]; omega
            obtain ⟨x, hx⟩ : ∃ x, x = dj[j]! := ⟨_, rfl⟩
            obtain ⟨y, hy⟩ : ∃ x, x = dj[j - 1]! := ⟨_, rfl⟩
            have la : ∀ n os, (grow (wr.drewN n) os).cell? ⟨blk, off + iN, none⟩ = some (.int .i64 (f x)) := by rw [hiN, hx]; exact S1.out.cl R (by omega) (j) (by omega)
            have lb : ∀ n os, (grow (wr.drewN n) os).cell? ⟨blk, off + jN, none⟩ = some (.int .i64 (f y)) := by rw [hjN, hy]; exact S1.out.cl R (by omega) (j - 1) (by omega)
            have hc := S1.out.cmp HC.out (by omega) x y
            have hv : cf x y < 0 := by rw [hx, hy]; exact of_decide_eq_true hlv
            have hd : decide (cf x y < 0) = true := decide_eq_true hv
            clear hx hy hiN hjN
            go_wp2_with fail
            go_quiet_grown (first | (go_at_fn g; refine Calls.grown_of (hc _ _)))
            have S2 : Aside (SW (E f) w0 blk off dj (grow (wr.drewN nq) osq)) := S1.out.grown nq osq
            clear la lb hc S1
            generalize grow (wr.drewN nq) osq = w3 at S2 ⊢
            clear nq osq
            clear ea ec
            obtain ⟨iN, hiN⟩ : ∃ z, z = j := ⟨_, rfl⟩
            obtain ⟨jN, hjN⟩ : ∃ z, z = j - 1 := ⟨_, rfl⟩
            have ea : ((j : Int)).toNat = iN := by omega
            have pa : (0 : Int) ≤ (j : Int) := by omega
            have ba : (j : Int) < (d.size : Int) := by omega
            have ra : IntKind.i64.wrap ((j : Int)) = (j : Int) := by rw [IntKind.wrap_i64]; omega
            have ec : ((j : Int) - 1).toNat = jN := by omega
            have pc : (0 : Int) ≤ (j : Int) - 1 := by omega
            have bc : (j : Int) - 1 < (d.size : Int) := by omega
            have rc : IntKind.i64.wrap ((j : Int) - 1) = (j : Int) - 1 := by rw [IntKind.wrap_i64]; omega
            obtain ⟨x, hx⟩ : ∃ x, x = dj[j]! := ⟨_, rfl⟩
            obtain ⟨y, hy⟩ : ∃ x, x = dj[j - 1]! := ⟨_, rfl⟩
            have S3 : Aside (SW (E f) w0 blk off (swp dj (j) (j - 1)) ((w3.setCell ⟨blk, off + iN, none⟩ (.int .i64 (f y))).setCell ⟨blk, off + jN, none⟩ (.int .i64 (f x))).drew) := by rw [hiN, hjN, hx, hy]; exact S2.out.swapped R (j) (j - 1) (by omega) (by omega)
            have c1 : w3.cell? ⟨blk, off + iN, none⟩ = some (.int .i64 (f x)) := by rw [hiN, hx]; exact S2.out.c1 R (by omega) (j) (by omega)
            have c2 : w3.cell? ⟨blk, off + jN, none⟩ = some (.int .i64 (f y)) := by rw [hjN, hy]; exact S2.out.c1 R (by omega) (j - 1) (by omega)
            have f1 : w3.frozen? ⟨blk, off + iN, none⟩ = false := by rw [hiN]; exact S2.out.f1 R (by omega) (j) (by omega)
            have f2 : w3.frozen? ⟨blk, off + jN, none⟩ = false := by rw [hjN]; exact S2.out.f1 R (by omega) (j - 1) (by omega)
            obtain ⟨u, c3⟩ : ∃ u, (w3.setCell ⟨blk, off + iN, none⟩ (.int .i64 (f y))).cell? ⟨blk, off + jN, none⟩ = some u := by rw [hiN, hjN]; exact S2.out.c2 R (by omega) (j) (j - 1) (by omega) (by omega) (E f y)
            clear S2 hx hy hiN hjN
            go_wp2_with fail
            go_big_region
            clear c1 c2 c3 f1 f2
            generalize ((w3.setCell ⟨blk, off + iN, none⟩ (.int .i64 (f y))).setCell ⟨blk, off + jN, none⟩ (.int .i64 (f x))).drew = w4 at S3 ⊢
            clear ea ec
            go_wp2
            go_roundg (j - 1)
            case measure => omega
            case rel => exact ⟨j - 1, swp dj j (j - 1), by go_num, by omega, by omega, Nat.le_refl _, by rw [size_swp]; exact hsj, S3, (show Hid _ from by rw [← HI.out, insInner_pos _ _ _ _ hja hlv]; exact rfl)⟩
          | false =>
            obtain ⟨iN, hiN⟩ : ∃ z, z = j := ⟨_, rfl⟩
            obtain ⟨jN, hjN⟩ : ∃ z, z = j - 1 := ⟨_, rfl⟩
            have ea : ((j : Int)).toNat = iN := by omega
            have pa : (0 : Int) ≤ (j : Int) := by omega
            have ba : (j : Int) < (d.size : Int) := by omega
            have ra : IntKind.i64.wrap ((j : Int)) = (j : Int) := by rw [IntKind.wrap_i64]; omega
            have ec : ((j : Int) - 1).toNat = jN := by omega
            have pc : (0 : Int) ≤ (j : Int) - 1 := by omega
            have bc : (j : Int) - 1 < (d.size : Int) := by omega
            have rc : IntKind.i64.wrap ((j : Int) - 1) = (j : Int) - 1 := by rw [IntKind.wrap_i64]; omega
            obtain ⟨x, hx⟩ : ∃ x, x = dj[j]! := ⟨_, rfl⟩
            obtain ⟨y, hy⟩ : ∃ x, x = dj[j - 1]! := ⟨_, rfl⟩
            have la : ∀ n os, (grow (wr.drewN n) os).cell? ⟨blk, off + iN, none⟩ = some (.int .i64 (f x)) := by rw [hiN, hx]; exact S1.out.cl R (by omega) (j) (by omega)
            have lb : ∀ n os, (grow (wr.drewN n) os).cell? ⟨blk, off + jN, none⟩ = some (.int .i64 (f y)) := by rw [hjN, hy]; exact S1.out.cl R (by omega) (j - 1) (by omega)
            have hc := S1.out.cmp HC.out (by omega) x y
            have hv : ¬ cf x y < 0 := by rw [hx, hy]; exact of_decide_eq_false hlv
            have hd : decide (cf x y < 0) = false := decide_eq_false hv
            clear hx hy hiN hjN
            go_wp2_with fail
            go_quiet_grown (first | (go_at_fn g; refine Calls.grown_of (hc _ _)))
            have S2 : Aside (SW (E f) w0 blk off dj (grow (wr.drewN nq) osq)) := S1.out.grown nq osq
            clear la lb hc S1
            generalize grow (wr.drewN nq) osq = w3 at S2 ⊢
            clear nq osq
            clear ea ec
            have HX : Hid (insOuter (ltOf cf) a b (i + 1) dj = insOuter (ltOf cf) a b (a + 1) d) := (show Hid _ from by rw [← HO.out, insOuter_pos _ _ _ _ _ hlt, ← HI.out, insInner_neg _ _ _ _ (fun _ => hlv)]; exact rfl)
            clear HO HI
            go_wp2
            go_roundg (b - (i + 1))
            case measure => omega
            case rel => exact ⟨i + 1, dj, by go_num, by omega, by omega, by omega, hsj, S2, HX⟩
        · have g1 : ¬ (a : Int) < (j : Int) := by omega
          have g3 : decide ((j : Int) > (a : Int)) = false := decide_eq_false (by omega)
          have HX : Hid (insOuter (ltOf cf) a b (i + 1) dj = insOuter (ltOf cf) a b (a + 1) d) := (show Hid _ from by rw [← HO.out, insOuter_pos _ _ _ _ _ hlt, ← HI.out, insInner_neg _ _ _ _ (fun h => absurd h hja)]; exact rfl)
          clear HO HI
          go_wp2_with fail
          go_big_region
          have S2 : Aside (SW (E f) w0 blk off dj wr.drew) := S1.out.drew
          clear S1
          generalize wr.drew = w3 at S2 ⊢
          go_wp2
          go_roundg (b - (i + 1))
          case measure => omega
          case rel => exact ⟨i + 1, dj, by go_num, by omega, by omega, by omega, hsj, S2, HX⟩
    · go_wp2
      go_end0
      refine ⟨rfl, ?_⟩
      unfold insertionSort
      rw [← HO.out, insOuter, if_neg hlt]
      exact S1.out
end Go.Proofs.Ytlpdligkjihkeaa.Sw
