/- Go's stable sort of ints, walked: symMerge. -/
import Derived.Test.YtlpdligkjihkeaaSw
import Derived.Outline
set_option linter.unusedVariables false
namespace Go.Proofs.Ytlpdligkjihkeaa.Sw
open Go.Shelf Go.RowKit Go.Lib Go.Sort Go.Proofs.Ytlpdligkjihkeaa.St
variable {α : Type} [Inhabited α]

theorem symM_A (lt : α → α → Bool) (k a m b : Nat) (d : Array α) (h : m - a = 1) : symM lt (k + 1) a m b d = shiftR a (bs (fun h => lt d[h]! d[a]!) m b - 1) d := by unfold symM; rw [if_pos h]
theorem symM_B (lt : α → α → Bool) (k a m b : Nat) (d : Array α) (h : ¬ m - a = 1) (h2 : b - m = 1) : symM lt (k + 1) a m b d = shiftL (bs (fun h => !lt d[m]! d[h]!) a m) m d := by unfold symM; rw [if_neg h, if_pos h2]
theorem shiftL_pos (i q : Nat) (d : Array α) (h : i < q) : shiftL i q d = shiftL i (q - 1) (swp d q (q - 1)) := by
  obtain ⟨p, rfl⟩ : ∃ p, q = p + 1 := ⟨q - 1, by omega⟩
  rw [shiftL, if_pos h]
  rfl
theorem size_shiftR (e : Nat) : ∀ (n k : Nat) (d : Array α), e - k ≤ n → (shiftR k e d).size = d.size := by
  intro n
  induction n with
  | zero => intro k d h; rw [shiftR, if_neg (by omega)]
  | succ n ih =>
    intro k d h
    by_cases hk : k < e
    · rw [shiftR_pos _ _ _ hk, ih _ _ (by omega), size_swp]
    · rw [shiftR, if_neg hk]

set_option maxHeartbeats 16000000 in
set_option maxRecDepth 1000000 in
theorem symMergeA (f : α → Int) (cf : α → α → Int) (g : Nat) (cb : Array Value) (blk off cap a m b k : Nat) (d0 d : Array α) (w0 w : World)
    (eg : ∀ args w, (callFunc g args).run Try.prog w = .ok (.enter g args) w) (hcmp : CmpLays1 Try.prog g cb (E f) cf blk off d0.size w0) (R : Row1 (E f) w0 blk off d0) (hs : d0.size = d.size) (S : SW (E f) w0 blk off d w)
    (h1 : a < m) (h2 : m < b) (h3 : b ≤ d.size) (hsz : d.size < 4611686018427387904) (h4 : m ≤ a + 1) :
    Calls Try.prog 66 #[.slice (some ⟨blk, off, none⟩) d.size cap, .int .i64 a, .int .i64 m, .int .i64 b, .func (.func g) #[] cb] w fun e w' => e = .returned (.tuple #[]) ∧ SW (E f) w0 blk off (symM (ltOf cf) (k + 1) a m b d) w' := by
  have mixed : Try.prog.follows .mixedOrders = true := by kernel_rfl
  have HC : Aside _ := hcmp
  have S0 : Aside (SW (E f) w0 blk off d w) := S
  clear S hcmp
  have q0 : ((m : Int) - (a : Int) == 1) = true := by rw [beq_iff_eq]; omega
  go_enter Try.func66, Try.ntmps66
  go_wp2
  go_loopg [10, 11] (b - m) (fun kx s t wr => ∃ (i j : Nat), s = .int .i64 i ∧ t = .int .i64 j ∧ m ≤ i ∧ i ≤ j ∧ j ≤ b ∧ j - i ≤ kx ∧ Aside (SW (E f) w0 blk off d wr) ∧ Hid (bs (fun h => ltOf cf d[h]! d[a]!) i j = bs (fun h => ltOf cf d[h]! d[a]!) m b))
  case atStart => exact ⟨m, b, rfl, rfl, by omega, by omega, by omega, by omega, S0, rfl⟩
  case round =>
    clear S0
    obtain ⟨i, j, rfl, rfl, hmi, hij, hjb, hkx, S1, heq⟩ := hrel
    by_cases hlt : i < j
    · cases hlv : ltOf cf d[(i + j) / 2]! d[a]! with
      | true =>
        obtain ⟨iN, hiN⟩ : ∃ z, z = (i + j) / 2 := ⟨_, rfl⟩
        obtain ⟨jN, hjN⟩ : ∃ z, z = a := ⟨_, rfl⟩
        have ea : (((i : Int) + (j : Int)) / 2).toNat = iN := by omega
        have pa : (0 : Int) ≤ ((i : Int) + (j : Int)) / 2 := by omega
        have ba : ((i : Int) + (j : Int)) / 2 < (d.size : Int) := by omega
        have ra : IntKind.i64.wrap (((i : Int) + (j : Int)) / 2) = ((i : Int) + (j : Int)) / 2 := by rw [IntKind.wrap_i64]; omega
        have ec : ((a : Int)).toNat = jN := by omega
        have pc : (0 : Int) ≤ (a : Int) := by omega
        have bc : (a : Int) < (d.size : Int) := by omega
        have rc : IntKind.i64.wrap ((a : Int)) = (a : Int) := by rw [IntKind.wrap_i64]; omega
        obtain ⟨x, hx⟩ : ∃ x, x = d[(i + j) / 2]! := ⟨_, rfl⟩
        obtain ⟨y, hy⟩ : ∃ x, x = d[a]! := ⟨_, rfl⟩
        have la : ∀ n os, (grow (wr.drewN n) os).cell? ⟨blk, off + iN, none⟩ = some (.int .i64 (f x)) := by rw [hiN, hx]; exact S1.out.cl R (by omega) ((i + j) / 2) (by omega)
        have lb : ∀ n os, (grow (wr.drewN n) os).cell? ⟨blk, off + jN, none⟩ = some (.int .i64 (f y)) := by rw [hjN, hy]; exact S1.out.cl R (by omega) (a) (by omega)
        have hc := S1.out.cmp HC.out (by omega) x y
        have hv : cf x y < 0 := by rw [hx, hy]; exact of_decide_eq_true hlv
        have hd : decide (cf x y < 0) = true := decide_eq_true hv
        clear hx hy hiN hjN
        go_wp2_with fail
        go_quiet_grown (first | (go_at_fn g; refine Calls.grown_of (hc _ _)))
        have S2 : Aside (SW (E f) w0 blk off d (grow (wr.drewN nq) osq)) := S1.out.grown nq osq
        clear la lb hc S1
        generalize grow (wr.drewN nq) osq = w2 at S2 ⊢
        clear nq osq
        clear ea ec
        go_wp2
        go_roundg (j - ((i + j) / 2 + 1))
        case measure => omega
        case rel => exact ⟨(i + j) / 2 + 1, j, by go_num, rfl, by omega, by omega, by omega, by omega, S2, (show Hid _ from by rw [← heq.out]; exact (bs_up (fun h => ltOf cf d[h]! d[a]!) _ _ hlt hlv).symm)⟩
      | false =>
        obtain ⟨iN, hiN⟩ : ∃ z, z = (i + j) / 2 := ⟨_, rfl⟩
        obtain ⟨jN, hjN⟩ : ∃ z, z = a := ⟨_, rfl⟩
        have ea : (((i : Int) + (j : Int)) / 2).toNat = iN := by omega
        have pa : (0 : Int) ≤ ((i : Int) + (j : Int)) / 2 := by omega
        have ba : ((i : Int) + (j : Int)) / 2 < (d.size : Int) := by omega
        have ra : IntKind.i64.wrap (((i : Int) + (j : Int)) / 2) = ((i : Int) + (j : Int)) / 2 := by rw [IntKind.wrap_i64]; omega
        have ec : ((a : Int)).toNat = jN := by omega
        have pc : (0 : Int) ≤ (a : Int) := by omega
        have bc : (a : Int) < (d.size : Int) := by omega
        have rc : IntKind.i64.wrap ((a : Int)) = (a : Int) := by rw [IntKind.wrap_i64]; omega
        obtain ⟨x, hx⟩ : ∃ x, x = d[(i + j) / 2]! := ⟨_, rfl⟩
        obtain ⟨y, hy⟩ : ∃ x, x = d[a]! := ⟨_, rfl⟩
        have la : ∀ n os, (grow (wr.drewN n) os).cell? ⟨blk, off + iN, none⟩ = some (.int .i64 (f x)) := by rw [hiN, hx]; exact S1.out.cl R (by omega) ((i + j) / 2) (by omega)
        have lb : ∀ n os, (grow (wr.drewN n) os).cell? ⟨blk, off + jN, none⟩ = some (.int .i64 (f y)) := by rw [hjN, hy]; exact S1.out.cl R (by omega) (a) (by omega)
        have hc := S1.out.cmp HC.out (by omega) x y
        have hv : ¬ cf x y < 0 := by rw [hx, hy]; exact of_decide_eq_false hlv
        have hd : decide (cf x y < 0) = false := decide_eq_false hv
        clear hx hy hiN hjN
        go_wp2_with fail
        go_quiet_grown (first | (go_at_fn g; refine Calls.grown_of (hc _ _)))
        have S2 : Aside (SW (E f) w0 blk off d (grow (wr.drewN nq) osq)) := S1.out.grown nq osq
        clear la lb hc S1
        generalize grow (wr.drewN nq) osq = w2 at S2 ⊢
        clear nq osq
        clear ea ec
        go_wp2
        go_roundg ((i + j) / 2 - i)
        case measure => omega
        case rel => exact ⟨i, (i + j) / 2, rfl, by go_num, by omega, by omega, by omega, by omega, S2, (show Hid _ from by rw [← heq.out]; exact (bs_dn (fun h => ltOf cf d[h]! d[a]!) _ _ hlt hlv).symm)⟩
    · have hi : i = bs (fun h => ltOf cf d[h]! d[a]!) m b := by rw [← heq.out, bs_stop _ _ _ hlt]
      have HI : Hid (i = bs (fun h => ltOf cf d[h]! d[a]!) m b) := hi
      clear hi heq
      have hlt' : ¬ (i : Int) < (j : Int) := by omega
      go_wp2
      go_loopg [13] (b - a) (fun kx s wr => ∃ (q : Nat) (dk : Array α), s = .int .i64 q ∧ a ≤ q ∧ q ≤ i - 1 ∧ i - 1 - q ≤ kx ∧ dk.size = d.size ∧ Aside (SW (E f) w0 blk off dk wr) ∧ Hid (shiftR q (i - 1) dk = shiftR a (i - 1) d))
      case atStart => exact ⟨a, d, rfl, by omega, by omega, by omega, rfl, S1, rfl⟩
      case round =>
        clear S1
        obtain ⟨q, dk, rfl, haq, hqi, hkq, hds, S1, heq⟩ := hrel
        by_cases hql : q < i - 1
        · have hql' : (q : Int) < (i : Int) - 1 := by omega
          obtain ⟨iN, hiN⟩ : ∃ z, z = q := ⟨_, rfl⟩
          obtain ⟨jN, hjN⟩ : ∃ z, z = q + 1 := ⟨_, rfl⟩
          have ea : ((q : Int)).toNat = iN := by omega
          have pa : (0 : Int) ≤ (q : Int) := by omega
          have ba : (q : Int) < (d.size : Int) := by omega
          have ra : IntKind.i64.wrap ((q : Int)) = (q : Int) := by rw [IntKind.wrap_i64]; omega
          have ec : ((q : Int) + 1).toNat = jN := by omega
          have pc : (0 : Int) ≤ (q : Int) + 1 := by omega
          have bc : (q : Int) + 1 < (d.size : Int) := by omega
          have rc : IntKind.i64.wrap ((q : Int) + 1) = (q : Int) + 1 := by rw [IntKind.wrap_i64]; omega
          obtain ⟨x, hx⟩ : ∃ x, x = dk[q]! := ⟨_, rfl⟩
          obtain ⟨y, hy⟩ : ∃ x, x = dk[q + 1]! := ⟨_, rfl⟩
          have S2 : Aside (SW (E f) w0 blk off (swp dk (q) (q + 1)) ((wr.setCell ⟨blk, off + iN, none⟩ (.int .i64 (f y))).setCell ⟨blk, off + jN, none⟩ (.int .i64 (f x))).drew) := by rw [hiN, hjN, hx, hy]; exact S1.out.swapped R (q) (q + 1) (by omega) (by omega)
          have c1 : wr.cell? ⟨blk, off + iN, none⟩ = some (.int .i64 (f x)) := by rw [hiN, hx]; exact S1.out.c1 R (by omega) (q) (by omega)
          have c2 : wr.cell? ⟨blk, off + jN, none⟩ = some (.int .i64 (f y)) := by rw [hjN, hy]; exact S1.out.c1 R (by omega) (q + 1) (by omega)
          have f1 : wr.frozen? ⟨blk, off + iN, none⟩ = false := by rw [hiN]; exact S1.out.f1 R (by omega) (q) (by omega)
          have f2 : wr.frozen? ⟨blk, off + jN, none⟩ = false := by rw [hjN]; exact S1.out.f1 R (by omega) (q + 1) (by omega)
          obtain ⟨u, c3⟩ : ∃ u, (wr.setCell ⟨blk, off + iN, none⟩ (.int .i64 (f y))).cell? ⟨blk, off + jN, none⟩ = some u := by rw [hiN, hjN]; exact S1.out.c2 R (by omega) (q) (q + 1) (by omega) (by omega) (E f y)
          clear S1 hx hy hiN hjN
          go_wp2_with fail
          go_big_region
          clear c1 c2 c3 f1 f2
          generalize ((wr.setCell ⟨blk, off + iN, none⟩ (.int .i64 (f y))).setCell ⟨blk, off + jN, none⟩ (.int .i64 (f x))).drew = w2 at S2 ⊢
          clear ea ec
          go_wp2
          go_roundg (i - 1 - (q + 1))
          case measure => omega
          case rel => exact ⟨q + 1, swp dk q (q + 1), by go_num, by omega, by omega, by omega, by rw [size_swp]; exact hds, S2, (show Hid _ from by rw [← heq.out, shiftR_pos _ _ _ hql]; exact rfl)⟩
        · have hql' : ¬ (q : Int) < (i : Int) - 1 := by omega
          go_wp2
          refine bodyPost_ret (results_none rfl _ _ _) rfl ?_
          refine ⟨rfl, ?_⟩
          rw [symM_A _ _ _ _ _ _ (by omega), ← HI.out, ← heq.out, shiftR, if_neg hql]
          exact S1.out

set_option maxHeartbeats 16000000 in
set_option maxRecDepth 1000000 in
theorem symMergeB (f : α → Int) (cf : α → α → Int) (g : Nat) (cb : Array Value) (blk off cap a m b k : Nat) (d0 d : Array α) (w0 w : World)
    (eg : ∀ args w, (callFunc g args).run Try.prog w = .ok (.enter g args) w) (hcmp : CmpLays1 Try.prog g cb (E f) cf blk off d0.size w0) (R : Row1 (E f) w0 blk off d0) (hs : d0.size = d.size) (S : SW (E f) w0 blk off d w)
    (h1 : a < m) (h2 : m < b) (h3 : b ≤ d.size) (hsz : d.size < 4611686018427387904) (h4 : ¬ m ≤ a + 1) (h5 : b ≤ m + 1) :
    Calls Try.prog 66 #[.slice (some ⟨blk, off, none⟩) d.size cap, .int .i64 a, .int .i64 m, .int .i64 b, .func (.func g) #[] cb] w fun e w' => e = .returned (.tuple #[]) ∧ SW (E f) w0 blk off (symM (ltOf cf) (k + 1) a m b d) w' := by
  have mixed : Try.prog.follows .mixedOrders = true := by kernel_rfl
  have HC : Aside _ := hcmp
  have S0 : Aside (SW (E f) w0 blk off d w) := S
  clear S hcmp
  have q0 : ((m : Int) - (a : Int) == 1) = false := by rw [beq_eq_false_iff_ne]; omega
  have q1 : ((b : Int) - (m : Int) == 1) = true := by rw [beq_iff_eq]; omega
  go_enter Try.func66, Try.ntmps66
  go_wp2
  go_loopg [14, 15] (m - a) (fun kx s t wr => ∃ (i j : Nat), s = .int .i64 i ∧ t = .int .i64 j ∧ a ≤ i ∧ i ≤ j ∧ j ≤ m ∧ j - i ≤ kx ∧ Aside (SW (E f) w0 blk off d wr) ∧ Hid (bs (fun h => !ltOf cf d[m]! d[h]!) i j = bs (fun h => !ltOf cf d[m]! d[h]!) a m))
  case atStart => exact ⟨a, m, rfl, rfl, by omega, by omega, by omega, by omega, S0, rfl⟩
  case round =>
    clear S0
    obtain ⟨i, j, rfl, rfl, hmi, hij, hjb, hkx, S1, heq⟩ := hrel
    by_cases hlt : i < j
    · cases hlv : ltOf cf d[m]! d[(i + j) / 2]! with
      | true =>
        obtain ⟨iN, hiN⟩ : ∃ z, z = m := ⟨_, rfl⟩
        obtain ⟨jN, hjN⟩ : ∃ z, z = (i + j) / 2 := ⟨_, rfl⟩
        have ea : ((m : Int)).toNat = iN := by omega
        have pa : (0 : Int) ≤ (m : Int) := by omega
        have ba : (m : Int) < (d.size : Int) := by omega
        have ra : IntKind.i64.wrap ((m : Int)) = (m : Int) := by rw [IntKind.wrap_i64]; omega
        have ec : (((i : Int) + (j : Int)) / 2).toNat = jN := by omega
        have pc : (0 : Int) ≤ ((i : Int) + (j : Int)) / 2 := by omega
        have bc : ((i : Int) + (j : Int)) / 2 < (d.size : Int) := by omega
        have rc : IntKind.i64.wrap (((i : Int) + (j : Int)) / 2) = ((i : Int) + (j : Int)) / 2 := by rw [IntKind.wrap_i64]; omega
        obtain ⟨x, hx⟩ : ∃ x, x = d[m]! := ⟨_, rfl⟩
        obtain ⟨y, hy⟩ : ∃ x, x = d[(i + j) / 2]! := ⟨_, rfl⟩
        have la : ∀ n os, (grow (wr.drewN n) os).cell? ⟨blk, off + iN, none⟩ = some (.int .i64 (f x)) := by rw [hiN, hx]; exact S1.out.cl R (by omega) (m) (by omega)
        have lb : ∀ n os, (grow (wr.drewN n) os).cell? ⟨blk, off + jN, none⟩ = some (.int .i64 (f y)) := by rw [hjN, hy]; exact S1.out.cl R (by omega) ((i + j) / 2) (by omega)
        have hc := S1.out.cmp HC.out (by omega) x y
        have hv : cf x y < 0 := by rw [hx, hy]; exact of_decide_eq_true hlv
        have hd : decide (cf x y < 0) = true := decide_eq_true hv
        clear hx hy hiN hjN
        go_wp2_with fail
        go_quiet_grown (first | (go_at_fn g; refine Calls.grown_of (hc _ _)))
        have S2 : Aside (SW (E f) w0 blk off d (grow (wr.drewN nq) osq)) := S1.out.grown nq osq
        clear la lb hc S1
        generalize grow (wr.drewN nq) osq = w2 at S2 ⊢
        clear nq osq
        clear ea ec
        go_wp2
        go_roundg ((i + j) / 2 - i)
        case measure => omega
        case rel => exact ⟨i, (i + j) / 2, rfl, by go_num, by omega, by omega, by omega, by omega, S2, (show Hid _ from by rw [← heq.out]; exact (bs_dn (fun h => !ltOf cf d[m]! d[h]!) _ _ hlt (by simp [hlv])).symm)⟩
      | false =>
        obtain ⟨iN, hiN⟩ : ∃ z, z = m := ⟨_, rfl⟩
        obtain ⟨jN, hjN⟩ : ∃ z, z = (i + j) / 2 := ⟨_, rfl⟩
        have ea : ((m : Int)).toNat = iN := by omega
        have pa : (0 : Int) ≤ (m : Int) := by omega
        have ba : (m : Int) < (d.size : Int) := by omega
        have ra : IntKind.i64.wrap ((m : Int)) = (m : Int) := by rw [IntKind.wrap_i64]; omega
        have ec : (((i : Int) + (j : Int)) / 2).toNat = jN := by omega
        have pc : (0 : Int) ≤ ((i : Int) + (j : Int)) / 2 := by omega
        have bc : ((i : Int) + (j : Int)) / 2 < (d.size : Int) := by omega
        have rc : IntKind.i64.wrap (((i : Int) + (j : Int)) / 2) = ((i : Int) + (j : Int)) / 2 := by rw [IntKind.wrap_i64]; omega
        obtain ⟨x, hx⟩ : ∃ x, x = d[m]! := ⟨_, rfl⟩
        obtain ⟨y, hy⟩ : ∃ x, x = d[(i + j) / 2]! := ⟨_, rfl⟩
        have la : ∀ n os, (grow (wr.drewN n) os).cell? ⟨blk, off + iN, none⟩ = some (.int .i64 (f x)) := by rw [hiN, hx]; exact S1.out.cl R (by omega) (m) (by omega)
        have lb : ∀ n os, (grow (wr.drewN n) os).cell? ⟨blk, off + jN, none⟩ = some (.int .i64 (f y)) := by rw [hjN, hy]; exact S1.out.cl R (by omega) ((i + j) / 2) (by omega)
        have hc := S1.out.cmp HC.out (by omega) x y
        have hv : ¬ cf x y < 0 := by rw [hx, hy]; exact of_decide_eq_false hlv
        have hd : decide (cf x y < 0) = false := decide_eq_false hv
        clear hx hy hiN hjN
        go_wp2_with fail
        go_quiet_grown (first | (go_at_fn g; refine Calls.grown_of (hc _ _)))
        have S2 : Aside (SW (E f) w0 blk off d (grow (wr.drewN nq) osq)) := S1.out.grown nq osq
        clear la lb hc S1
        generalize grow (wr.drewN nq) osq = w2 at S2 ⊢
        clear nq osq
        clear ea ec
        go_wp2
        go_roundg (j - ((i + j) / 2 + 1))
        case measure => omega
        case rel => exact ⟨(i + j) / 2 + 1, j, by go_num, rfl, by omega, by omega, by omega, by omega, S2, (show Hid _ from by rw [← heq.out]; exact (bs_up (fun h => !ltOf cf d[m]! d[h]!) _ _ hlt (by simp [hlv])).symm)⟩
    · have hi : i = bs (fun h => !ltOf cf d[m]! d[h]!) a m := by rw [← heq.out, bs_stop _ _ _ hlt]
      have HI : Hid (i = bs (fun h => !ltOf cf d[m]! d[h]!) a m) := hi
      clear hi heq
      have hlt' : ¬ (i : Int) < (j : Int) := by omega
      go_wp2
      go_loopg [17] (b - a) (fun kx s wr => ∃ (q : Nat) (dk : Array α), s = .int .i64 q ∧ i ≤ q ∧ q ≤ m ∧ q - i ≤ kx ∧ dk.size = d.size ∧ Aside (SW (E f) w0 blk off dk wr) ∧ Hid (shiftL i q dk = shiftL i m d))
      case atStart => exact ⟨m, d, rfl, by omega, by omega, by omega, rfl, S1, rfl⟩
      case round =>
        clear S1
        obtain ⟨q, dk, rfl, haq, hqi, hkq, hds, S1, heq⟩ := hrel
        by_cases hql : i < q
        · have hql' : (i : Int) < (q : Int) := by omega
          obtain ⟨iN, hiN⟩ : ∃ z, z = q := ⟨_, rfl⟩
          obtain ⟨jN, hjN⟩ : ∃ z, z = q - 1 := ⟨_, rfl⟩
          have ea : ((q : Int)).toNat = iN := by omega
          have pa : (0 : Int) ≤ (q : Int) := by omega
          have ba : (q : Int) < (d.size : Int) := by omega
          have ra : IntKind.i64.wrap ((q : Int)) = (q : Int) := by rw [IntKind.wrap_i64]; omega
          have ec : ((q : Int) - 1).toNat = jN := by omega
          have pc : (0 : Int) ≤ (q : Int) - 1 := by omega
          have bc : (q : Int) - 1 < (d.size : Int) := by omega
          have rc : IntKind.i64.wrap ((q : Int) - 1) = (q : Int) - 1 := by rw [IntKind.wrap_i64]; omega
          obtain ⟨x, hx⟩ : ∃ x, x = dk[q]! := ⟨_, rfl⟩
          obtain ⟨y, hy⟩ : ∃ x, x = dk[q - 1]! := ⟨_, rfl⟩
          have S2 : Aside (SW (E f) w0 blk off (swp dk (q) (q - 1)) ((wr.setCell ⟨blk, off + iN, none⟩ (.int .i64 (f y))).setCell ⟨blk, off + jN, none⟩ (.int .i64 (f x))).drew) := by rw [hiN, hjN, hx, hy]; exact S1.out.swapped R (q) (q - 1) (by omega) (by omega)
          have c1 : wr.cell? ⟨blk, off + iN, none⟩ = some (.int .i64 (f x)) := by rw [hiN, hx]; exact S1.out.c1 R (by omega) (q) (by omega)
          have c2 : wr.cell? ⟨blk, off + jN, none⟩ = some (.int .i64 (f y)) := by rw [hjN, hy]; exact S1.out.c1 R (by omega) (q - 1) (by omega)
          have f1 : wr.frozen? ⟨blk, off + iN, none⟩ = false := by rw [hiN]; exact S1.out.f1 R (by omega) (q) (by omega)
          have f2 : wr.frozen? ⟨blk, off + jN, none⟩ = false := by rw [hjN]; exact S1.out.f1 R (by omega) (q - 1) (by omega)
          obtain ⟨u, c3⟩ : ∃ u, (wr.setCell ⟨blk, off + iN, none⟩ (.int .i64 (f y))).cell? ⟨blk, off + jN, none⟩ = some u := by rw [hiN, hjN]; exact S1.out.c2 R (by omega) (q) (q - 1) (by omega) (by omega) (E f y)
          clear S1 hx hy hiN hjN
          go_wp2_with fail
          go_big_region
          clear c1 c2 c3 f1 f2
          generalize ((wr.setCell ⟨blk, off + iN, none⟩ (.int .i64 (f y))).setCell ⟨blk, off + jN, none⟩ (.int .i64 (f x))).drew = w2 at S2 ⊢
          clear ea ec
          go_wp2
          go_roundg (q - 1 - i)
          case measure => omega
          case rel => exact ⟨q - 1, swp dk q (q - 1), by go_num, by omega, by omega, by omega, by rw [size_swp]; exact hds, S2, (show Hid _ from by rw [← heq.out, shiftL_pos _ _ _ hql]; exact rfl)⟩
        · have hql' : ¬ (i : Int) < (q : Int) := by omega
          go_wp2
          refine bodyPost_ret (results_none rfl _ _ _) rfl ?_
          refine ⟨rfl, ?_⟩
          rw [symM_B _ _ _ _ _ _ (by omega) (by omega), ← HI.out, ← heq.out]
          cases q with
          | zero => exact S1.out
          | succ q => rw [shiftL, if_neg hql]; exact S1.out
end Go.Proofs.Ytlpdligkjihkeaa.Sw
