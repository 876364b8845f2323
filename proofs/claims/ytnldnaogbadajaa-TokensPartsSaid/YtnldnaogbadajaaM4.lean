/- Walks and plain laws: the stable sort of ints. -/
import Derived.Test.YtnldnaogbadajaaProg
import Derived.Test.YtnldnaogbadajaaM3
import Derived.Shelf.SlSortCmp.Kit1
import Derived.Sort.WalkA
import Derived.Sort.WalkB2
import Derived.Sort.WalkB12
import Derived.Deep.LoopGhost
import Derived.BigRegion
import Derived.BigQuiet
import Derived.WalkKit
import Derived.Outline
import Derived.Lib.Hide
import Derived.Deep.DeepCutAuto
import Derived.Deep.CutBlock

/- Go's stable sort of ints, walked: swapRange, rotate. -/
namespace Go.Proofs.Ytnldnaogbadajaa.Sw
open Go.Shelf Go.RowKit Go.Lib Go.Sort Go.Proofs.Ytnldnaogbadajaa.St

variable {α : Type} [Inhabited α]
abbrev E (f : α → Int) (x : α) : Value := .int .i64 (f x)
omit [Inhabited α] in
theorem oneE (f : α → Int) : OneCell (E f) := fun _ => rfl

set_option maxHeartbeats 4000000 in
set_option maxRecDepth 1000000 in
theorem swapRange_s (f : α → Int) (F : Value) (blk off cap a b n : Nat) (d0 d : Array α) (w0 w : World) (R : Row1 (E f) w0 blk off d0) (hs : d0.size = d.size) (S : SW (E f) w0 blk off d w)
    (h1 : a + n ≤ d.size) (h2 : b + n ≤ d.size) (hsz : d.size < 4611686018427387904) :
    Calls Try.prog 106 #[.slice (some ⟨blk, off, none⟩) d.size cap, .int .i64 a, .int .i64 b, .int .i64 n, F] w fun e w' => e = .returned (.tuple #[]) ∧ SW (E f) w0 blk off (swapR a b n 0 d) w' := by
  have S0 : Aside (SW (E f) w0 blk off d w) := S
  clear S
  go_enter Try.func106, Try.ntmps106
  go_wp2
  go_loopg [10] n (fun kx s wr => ∃ (i : Nat) (dk : Array α), s = .int .i64 i ∧ i ≤ n ∧ n - i ≤ kx ∧ dk.size = d.size ∧ Aside (SW (E f) w0 blk off dk wr) ∧ Hid (swapR a b n i dk = swapR a b n 0 d))
  case atStart => exact ⟨0, d, rfl, by omega, by omega, rfl, S0, rfl⟩
  case round =>
    clear S0
    obtain ⟨i, dk, rfl, hin, hkx, hds, S1, heq⟩ := hrel
    by_cases hlt : i < n
    · go_wp2_with fail
      obtain ⟨iN, hiN⟩ : ∃ q, q = a + i := ⟨_, rfl⟩
      obtain ⟨jN, hjN⟩ : ∃ q, q = b + i := ⟨_, rfl⟩
      have ea : ((a : Int) + (i : Int)).toNat = iN := by omega
      have pa : (0 : Int) ≤ (a : Int) + (i : Int) := by omega
      have ba : (a : Int) + (i : Int) < (d.size : Int) := by omega
      have ra : IntKind.i64.wrap ((a : Int) + (i : Int)) = (a : Int) + (i : Int) := by rw [IntKind.wrap_i64]; omega
      have ec : ((b : Int) + (i : Int)).toNat = jN := by omega
      have pc : (0 : Int) ≤ (b : Int) + (i : Int) := by omega
      have bc : (b : Int) + (i : Int) < (d.size : Int) := by omega
      have rc : IntKind.i64.wrap ((b : Int) + (i : Int)) = (b : Int) + (i : Int) := by rw [IntKind.wrap_i64]; omega
      obtain ⟨x, hx⟩ : ∃ x, x = dk[a + i]! := ⟨_, rfl⟩
      obtain ⟨y, hy⟩ : ∃ x, x = dk[b + i]! := ⟨_, rfl⟩
      have S2 : Aside (SW (E f) w0 blk off (swp dk (a + i) (b + i)) ((wr.setCell ⟨blk, off + iN, none⟩ (.int .i64 (f y))).setCell ⟨blk, off + jN, none⟩ (.int .i64 (f x))).drew) := by rw [hiN, hjN, hx, hy]; exact S1.out.swapped R (a + i) (b + i) (by omega) (by omega)
      have c1 := S1.out.c1 R (by omega) (a + i) (by omega)
      have c2 := S1.out.c1 R (by omega) (b + i) (by omega)
      have f1 := S1.out.f1 R (by omega) (a + i) (by omega)
      have f2 := S1.out.f1 R (by omega) (b + i) (by omega)
      obtain ⟨u, c3⟩ := S1.out.c2 R (by omega) (a + i) (b + i) (by omega) (by omega) (E f y)
      rw [← hjN, ← hiN] at c3
      rw [← hx, ← hiN] at c1
      rw [← hy, ← hjN] at c2
      rw [← hiN] at f1
      rw [← hjN] at f2
      clear S1 hx hy hiN hjN
      go_big_region
      clear c1 c2 c3 f1 f2
      generalize ((wr.setCell ⟨blk, off + iN, none⟩ (.int .i64 (f y))).setCell ⟨blk, off + jN, none⟩ (.int .i64 (f x))).drew = w2 at S2 ⊢
      clear ea ec
      go_wp2
      go_roundg (n - (i + 1))
      case measure => omega
      case rel => exact ⟨i + 1, swp dk (a + i) (b + i), by go_num, by omega, by omega, by rw [size_swp]; exact hds, S2, (show Hid _ from by rw [← heq.out, swapR_pos _ _ _ _ _ hlt]; exact rfl)⟩
    · go_wp2
      go_end0
      refine ⟨rfl, ?_⟩
      rw [← heq.out, swapR, if_neg hlt]
      exact S1.out

theorem rotL_stop (m k i : Nat) (d : Array α) : rotL m (k + 1) i i d = swapR (m - i) m i 0 d := by unfold rotL; rw [if_pos rfl]
theorem rotL_gt (m k i j : Nat) (d : Array α) (h : i > j) : rotL m (k + 1) i j d = rotL m k (i - j) j (swapR (m - i) m j 0 d) := by conv => lhs; unfold rotL; rw [if_neg (by omega), if_pos h]
theorem rotL_lt (m k i j : Nat) (d : Array α) (h : i < j) : rotL m (k + 1) i j d = rotL m k i (j - i) (swapR (m - i) (m + j - i) i 0 d) := by conv => lhs; unfold rotL; rw [if_neg (by omega), if_neg (by omega)]
theorem rotL_fuel (m : Nat) : ∀ (k k' i j : Nat) (d : Array α), 0 < i → 0 < j → i + j ≤ k → i + j ≤ k' → rotL m k i j d = rotL m k' i j d := by
  intro k
  induction k with
  | zero => intro k' i j d h1 h2 h3; omega
  | succ k ih =>
    intro k' i j d h1 h2 h3 h4
    obtain ⟨k'', rfl⟩ : ∃ q, k' = q + 1 := ⟨k' - 1, by omega⟩
    rcases Nat.lt_trichotomy i j with h | h | h
    · rw [rotL_lt _ _ _ _ _ h, rotL_lt _ _ _ _ _ h]; exact ih _ _ _ _ (by omega) (by omega) (by omega) (by omega)
    · subst h; rw [rotL_stop, rotL_stop]
    · rw [rotL_gt _ _ _ _ _ h, rotL_gt _ _ _ _ _ h]; exact ih _ _ _ _ (by omega) (by omega) (by omega) (by omega)

set_option maxHeartbeats 4000000 in
set_option maxRecDepth 1000000 in
theorem rotate_s (f : α → Int) (F : Value) (blk off cap a m b : Nat) (d0 d : Array α) (w0 w : World) (R : Row1 (E f) w0 blk off d0) (hs : d0.size = d.size) (S : SW (E f) w0 blk off d w)
    (h1 : a < m) (h2 : m < b) (h3 : b ≤ d.size) (hsz : d.size < 4611686018427387904) :
    Calls Try.prog 104 #[.slice (some ⟨blk, off, none⟩) d.size cap, .int .i64 a, .int .i64 m, .int .i64 b, F] w fun e w' => e = .returned (.tuple #[]) ∧ SW (E f) w0 blk off (rotate a m b d) w' := by
  have S0 : Aside (SW (E f) w0 blk off d w) := S
  clear S
  go_enter Try.func104, Try.ntmps104
  go_wp2
  go_loopg [10, 11] (b - a) (fun kx s t wr => ∃ (i j : Nat) (dk : Array α), s = .int .i64 i ∧ t = .int .i64 j ∧ 0 < i ∧ 0 < j ∧ i ≤ m - a ∧ j ≤ b - m ∧ i + j ≤ kx ∧ dk.size = d.size ∧ Aside (SW (E f) w0 blk off dk wr) ∧ Hid (rotL m (b - a) i j dk = rotate a m b d))
  case atStart => exact ⟨m - a, b - m, d, by go_num, by go_num, by omega, by omega, by omega, by omega, by omega, rfl, S0, rfl⟩
  case round =>
    clear S0
    obtain ⟨i, j, dk, rfl, rfl, hi, hj, him, hjb, hkx, hds, S1, heq⟩ := hrel
    rcases Nat.lt_trichotomy i j with hlt | hE | hlt
    · have q1 : ((i : Int) != (j : Int)) = true := by rw [bne_iff_ne]; omega
      have q2 : ¬ (j : Int) < (i : Int) := by omega
      go_wp2_with fail
      have C := swapRange_s f F blk off cap (m - i) (m + j - i) i d0 dk w0 wr R (by omega) S1.out (by omega) (by omega) (by omega)
      rw [show ((m - i : Nat) : Int) = (m : Int) - i by omega, show ((m + j - i : Nat) : Int) = (m : Int) + j - i by omega, hds] at C
      refine C.mono ?_
      rintro e w' ⟨rfl, S2⟩
      have S3 : Aside (SW (E f) w0 blk off (swapR (m - i) (m + j - i) i 0 dk) w') := S2
      clear S2 C S1
      go_wp2
      go_roundg (i + (j - i))
      case measure => omega
      case rel => exact ⟨i, j - i, _, rfl, by go_num, hi, by omega, by omega, by omega, by omega, by rw [size_swapR _ _ _ i 0 dk (by omega)]; exact hds, S3, (show Hid _ from by
        obtain ⟨q, hq⟩ : ∃ q, b - a = q + 1 := ⟨b - a - 1, by omega⟩
        rw [← heq.out, hq, rotL_lt _ _ _ _ _ hlt]
        exact rotL_fuel _ _ _ _ _ _ hi (by omega) (by omega) (by omega))⟩
    · subst hE
      have q1 : ((i : Int) != (i : Int)) = false := by simp
      go_wp2_with fail
      have C := swapRange_s f F blk off cap (m - i) m i d0 dk w0 wr R (by omega) S1.out (by omega) (by omega) (by omega)
      rw [show ((m - i : Nat) : Int) = (m : Int) - i by omega, hds] at C
      refine C.mono ?_
      rintro e w' ⟨rfl, S2⟩
      have S3 : Aside (SW (E f) w0 blk off (swapR (m - i) m i 0 dk) w') := S2
      clear S2 C S1
      go_wp2
      go_end0
      refine ⟨rfl, ?_⟩
      obtain ⟨q, hq⟩ : ∃ q, b - a = q + 1 := ⟨b - a - 1, by omega⟩
      rw [← heq.out, hq, rotL_stop]
      exact S3.out
    · have q1 : ((i : Int) != (j : Int)) = true := by rw [bne_iff_ne]; omega
      have q2 : (j : Int) < (i : Int) := by omega
      go_wp2_with fail
      have C := swapRange_s f F blk off cap (m - i) m j d0 dk w0 wr R (by omega) S1.out (by omega) (by omega) (by omega)
      rw [show ((m - i : Nat) : Int) = (m : Int) - i by omega, hds] at C
      refine C.mono ?_
      rintro e w' ⟨rfl, S2⟩
      have S3 : Aside (SW (E f) w0 blk off (swapR (m - i) m j 0 dk) w') := S2
      clear S2 C S1
      go_wp2
      go_roundg (i - j + j)
      case measure => omega
      case rel => exact ⟨i - j, j, _, by go_num, rfl, by omega, hj, by omega, by omega, by omega, by rw [size_swapR _ _ _ j 0 dk (by omega)]; exact hds, S3, (show Hid _ from by
        obtain ⟨q, hq⟩ : ∃ q, b - a = q + 1 := ⟨b - a - 1, by omega⟩
        rw [← heq.out, hq, rotL_gt _ _ _ _ _ hlt]
        exact rotL_fuel _ _ _ _ _ _ (by omega) hj (by omega) (by omega))⟩
end Go.Proofs.Ytnldnaogbadajaa.Sw

/- Go's stable sort of ints, walked: symMerge. -/
set_option linter.unusedVariables false
namespace Go.Proofs.Ytnldnaogbadajaa.Sw
open Go.Shelf Go.RowKit Go.Lib Go.Sort Go.Proofs.Ytnldnaogbadajaa.St
variable {α : Type} [Inhabited α]

theorem symM_A (lt : α → α → Bool) (k a m b : Nat) (d : Array α) (h : m - a = 1) : symM lt (k + 1) a m b d = shiftR a (bs (fun h => lt d[h]! d[a]!) m b - 1) d := by unfold symM; rw [if_pos h]
theorem symM_B (lt : α → α → Bool) (k a m b : Nat) (d : Array α) (h : ¬ m - a = 1) (h2 : b - m = 1) : symM lt (k + 1) a m b d = shiftL (bs (fun h => !lt d[m]! d[h]!) a m) m d := by unfold symM; rw [if_neg h, if_pos h2]
theorem shiftL_pos (i q : Nat) (d : Array α) (h : i < q) : shiftL i q d = shiftL i (q - 1) (swp d q (q - 1)) := by
  obtain ⟨p, rfl⟩ : ∃ p, q = p + 1 := ⟨q - 1, by omega⟩
  rw [shiftL, if_pos h]
  rfl
theorem size_shiftR (e : Nat) : ∀ (n k : Nat) (d : Array α), e - k ≤ n → (shiftR k e d).size = d.size := by
  intro n
  induction n with
  | zero => intro k d h; rw [shiftR, if_neg (by omega)]
  | succ n ih =>
    intro k d h
    by_cases hk : k < e
    · rw [shiftR_pos _ _ _ hk, ih _ _ (by omega), size_swp]
    · rw [shiftR, if_neg hk]

set_option maxHeartbeats 16000000 in
set_option maxRecDepth 1000000 in
theorem symMergeA (f : α → Int) (cf : α → α → Int) (g : Nat) (cb : Array Value) (blk off cap a m b k : Nat) (d0 d : Array α) (w0 w : World)
    (eg : ∀ args w, (callFunc g args).run Try.prog w = .ok (.enter g args) w) (hcmp : CmpLays1 Try.prog g cb (E f) cf blk off d0.size w0) (R : Row1 (E f) w0 blk off d0) (hs : d0.size = d.size) (S : SW (E f) w0 blk off d w)
    (h1 : a < m) (h2 : m < b) (h3 : b ≤ d.size) (hsz : d.size < 4611686018427387904) (h4 : m ≤ a + 1) :
    Calls Try.prog 102 #[.slice (some ⟨blk, off, none⟩) d.size cap, .int .i64 a, .int .i64 m, .int .i64 b, .func (.func g) #[] cb] w fun e w' => e = .returned (.tuple #[]) ∧ SW (E f) w0 blk off (symM (ltOf cf) (k + 1) a m b d) w' := by
  have mixed : Try.prog.follows .mixedOrders = true := by kernel_rfl
  have HC : Aside _ := hcmp
  have S0 : Aside (SW (E f) w0 blk off d w) := S
  clear S hcmp
  have q0 : ((m : Int) - (a : Int) == 1) = true := by rw [beq_iff_eq]; omega
  go_enter Try.func102, Try.ntmps102
  go_wp2
  go_loopg [10, 11] (b - m) (fun kx s t wr => ∃ (i j : Nat), s = .int .i64 i ∧ t = .int .i64 j ∧ m ≤ i ∧ i ≤ j ∧ j ≤ b ∧ j - i ≤ kx ∧ Aside (SW (E f) w0 blk off d wr) ∧ Hid (bs (fun h => ltOf cf d[h]! d[a]!) i j = bs (fun h => ltOf cf d[h]! d[a]!) m b))
  case atStart => exact ⟨m, b, rfl, rfl, by omega, by omega, by omega, by omega, S0, rfl⟩
  case round =>
    clear S0
    obtain ⟨i, j, rfl, rfl, hmi, hij, hjb, hkx, S1, heq⟩ := hrel
    by_cases hlt : i < j
    · cases hlv : ltOf cf d[(i + j) / 2]! d[a]! with
      | true =>
        obtain ⟨iN, hiN⟩ : ∃ z, z = (i + j) / 2 := ⟨_, rfl⟩
        obtain ⟨jN, hjN⟩ : ∃ z, z = a := ⟨_, rfl⟩
        have ea : (((i : Int) + (j : Int)) / 2).toNat = iN := by omega
        have pa : (0 : Int) ≤ ((i : Int) + (j : Int)) / 2 := by omega
        have ba : ((i : Int) + (j : Int)) / 2 < (d.size : Int) := by omega
        have ra : IntKind.i64.wrap (((i : Int) + (j : Int)) / 2) = ((i : Int) + (j : Int)) / 2 := by rw [IntKind.wrap_i64]; omega
        have ec : ((a : Int)).toNat = jN := by omega
        have pc : (0 : Int) ≤ (a : Int) := by omega
        have bc : (a : Int) < (d.size : Int) := by omega
        have rc : IntKind.i64.wrap ((a : Int)) = (a : Int) := by rw [IntKind.wrap_i64]; omega
        obtain ⟨x, hx⟩ : ∃ x, x = d[(i + j) / 2]! := ⟨_, rfl⟩
        obtain ⟨y, hy⟩ : ∃ x, x = d[a]! := ⟨_, rfl⟩
        have la : ∀ n os, (grow (wr.drewN n) os).cell? ⟨blk, off + iN, none⟩ = some (.int .i64 (f x)) := by rw [hiN, hx]; exact S1.out.cl R (by omega) ((i + j) / 2) (by omega)
        have lb : ∀ n os, (grow (wr.drewN n) os).cell? ⟨blk, off + jN, none⟩ = some (.int .i64 (f y)) := by rw [hjN, hy]; exact S1.out.cl R (by omega) (a) (by omega)
        have hc := S1.out.cmp HC.out (by omega) x y
        have hv : cf x y < 0 := by rw [hx, hy]; exact of_decide_eq_true hlv
        have hd : decide (cf x y < 0) = true := decide_eq_true hv
        clear hx hy hiN hjN
        go_wp2_with fail
        go_quiet_grown (first | (go_at_fn g; refine Calls.grown_of (hc _ _)))
        have S2 : Aside (SW (E f) w0 blk off d (grow (wr.drewN nq) osq)) := S1.out.grown nq osq
        clear la lb hc S1
        generalize grow (wr.drewN nq) osq = w2 at S2 ⊢
        clear nq osq
        clear ea ec
        go_wp2
        go_roundg (j - ((i + j) / 2 + 1))
        case measure => omega
        case rel => exact ⟨(i + j) / 2 + 1, j, by go_num, rfl, by omega, by omega, by omega, by omega, S2, (show Hid _ from by rw [← heq.out]; exact (bs_up (fun h => ltOf cf d[h]! d[a]!) _ _ hlt hlv).symm)⟩
      | false =>
        obtain ⟨iN, hiN⟩ : ∃ z, z = (i + j) / 2 := ⟨_, rfl⟩
        obtain ⟨jN, hjN⟩ : ∃ z, z = a := ⟨_, rfl⟩
        have ea : (((i : Int) + (j : Int)) / 2).toNat = iN := by omega
        have pa : (0 : Int) ≤ ((i : Int) + (j : Int)) / 2 := by omega
        have ba : ((i : Int) + (j : Int)) / 2 < (d.size : Int) := by omega
        have ra : IntKind.i64.wrap (((i : Int) + (j : Int)) / 2) = ((i : Int) + (j : Int)) / 2 := by rw [IntKind.wrap_i64]; omega
        have ec : ((a : Int)).toNat = jN := by omega
        have pc : (0 : Int) ≤ (a : Int) := by omega
        have bc : (a : Int) < (d.size : Int) := by omega
        have rc : IntKind.i64.wrap ((a : Int)) = (a : Int) := by rw [IntKind.wrap_i64]; omega
        obtain ⟨x, hx⟩ : ∃ x, x = d[(i + j) / 2]! := ⟨_, rfl⟩
        obtain ⟨y, hy⟩ : ∃ x, x = d[a]! := ⟨_, rfl⟩
        have la : ∀ n os, (grow (wr.drewN n) os).cell? ⟨blk, off + iN, none⟩ = some (.int .i64 (f x)) := by rw [hiN, hx]; exact S1.out.cl R (by omega) ((i + j) / 2) (by omega)
        have lb : ∀ n os, (grow (wr.drewN n) os).cell? ⟨blk, off + jN, none⟩ = some (.int .i64 (f y)) := by rw [hjN, hy]; exact S1.out.cl R (by omega) (a) (by omega)
        have hc := S1.out.cmp HC.out (by omega) x y
        have hv : ¬ cf x y < 0 := by rw [hx, hy]; exact of_decide_eq_false hlv
        have hd : decide (cf x y < 0) = false := decide_eq_false hv
        clear hx hy hiN hjN
        go_wp2_with fail
        go_quiet_grown (first | (go_at_fn g; refine Calls.grown_of (hc _ _)))
        have S2 : Aside (SW (E f) w0 blk off d (grow (wr.drewN nq) osq)) := S1.out.grown nq osq
        clear la lb hc S1
        generalize grow (wr.drewN nq) osq = w2 at S2 ⊢
        clear nq osq
        clear ea ec
        go_wp2
        go_roundg ((i + j) / 2 - i)
        case measure => omega
        case rel => exact ⟨i, (i + j) / 2, rfl, by go_num, by omega, by omega, by omega, by omega, S2, (show Hid _ from by rw [← heq.out]; exact (bs_dn (fun h => ltOf cf d[h]! d[a]!) _ _ hlt hlv).symm)⟩
    · have hi : i = bs (fun h => ltOf cf d[h]! d[a]!) m b := by rw [← heq.out, bs_stop _ _ _ hlt]
      have HI : Hid (i = bs (fun h => ltOf cf d[h]! d[a]!) m b) := hi
      clear hi heq
      have hlt' : ¬ (i : Int) < (j : Int) := by omega
      go_wp2
      go_loopg [13] (b - a) (fun kx s wr => ∃ (q : Nat) (dk : Array α), s = .int .i64 q ∧ a ≤ q ∧ q ≤ i - 1 ∧ i - 1 - q ≤ kx ∧ dk.size = d.size ∧ Aside (SW (E f) w0 blk off dk wr) ∧ Hid (shiftR q (i - 1) dk = shiftR a (i - 1) d))
      case atStart => exact ⟨a, d, rfl, by omega, by omega, by omega, rfl, S1, rfl⟩
      case round =>
        clear S1
        obtain ⟨q, dk, rfl, haq, hqi, hkq, hds, S1, heq⟩ := hrel
        by_cases hql : q < i - 1
        · have hql' : (q : Int) < (i : Int) - 1 := by omega
          obtain ⟨iN, hiN⟩ : ∃ z, z = q := ⟨_, rfl⟩
          obtain ⟨jN, hjN⟩ : ∃ z, z = q + 1 := ⟨_, rfl⟩
          have ea : ((q : Int)).toNat = iN := by omega
          have pa : (0 : Int) ≤ (q : Int) := by omega
          have ba : (q : Int) < (d.size : Int) := by omega
          have ra : IntKind.i64.wrap ((q : Int)) = (q : Int) := by rw [IntKind.wrap_i64]; omega
          have ec : ((q : Int) + 1).toNat = jN := by omega
          have pc : (0 : Int) ≤ (q : Int) + 1 := by omega
          have bc : (q : Int) + 1 < (d.size : Int) := by omega
          have rc : IntKind.i64.wrap ((q : Int) + 1) = (q : Int) + 1 := by rw [IntKind.wrap_i64]; omega
          obtain ⟨x, hx⟩ : ∃ x, x = dk[q]! := ⟨_, rfl⟩
          obtain ⟨y, hy⟩ : ∃ x, x = dk[q + 1]! := ⟨_, rfl⟩
          have S2 : Aside (SW (E f) w0 blk off (swp dk (q) (q + 1)) ((wr.setCell ⟨blk, off + iN, none⟩ (.int .i64 (f y))).setCell ⟨blk, off + jN, none⟩ (.int .i64 (f x))).drew) := by rw [hiN, hjN, hx, hy]; exact S1.out.swapped R (q) (q + 1) (by omega) (by omega)
          have c1 : wr.cell? ⟨blk, off + iN, none⟩ = some (.int .i64 (f x)) := by rw [hiN, hx]; exact S1.out.c1 R (by omega) (q) (by omega)
          have c2 : wr.cell? ⟨blk, off + jN, none⟩ = some (.int .i64 (f y)) := by rw [hjN, hy]; exact S1.out.c1 R (by omega) (q + 1) (by omega)
          have f1 : wr.frozen? ⟨blk, off + iN, none⟩ = false := by rw [hiN]; exact S1.out.f1 R (by omega) (q) (by omega)
          have f2 : wr.frozen? ⟨blk, off + jN, none⟩ = false := by rw [hjN]; exact S1.out.f1 R (by omega) (q + 1) (by omega)
          obtain ⟨u, c3⟩ : ∃ u, (wr.setCell ⟨blk, off + iN, none⟩ (.int .i64 (f y))).cell? ⟨blk, off + jN, none⟩ = some u := by rw [hiN, hjN]; exact S1.out.c2 R (by omega) (q) (q + 1) (by omega) (by omega) (E f y)
          clear S1 hx hy hiN hjN
          go_wp2_with fail
          go_big_region
          clear c1 c2 c3 f1 f2
          generalize ((wr.setCell ⟨blk, off + iN, none⟩ (.int .i64 (f y))).setCell ⟨blk, off + jN, none⟩ (.int .i64 (f x))).drew = w2 at S2 ⊢
          clear ea ec
          go_wp2
          go_roundg (i - 1 - (q + 1))
          case measure => omega
          case rel => exact ⟨q + 1, swp dk q (q + 1), by go_num, by omega, by omega, by omega, by rw [size_swp]; exact hds, S2, (show Hid _ from by rw [← heq.out, shiftR_pos _ _ _ hql]; exact rfl)⟩
        · have hql' : ¬ (q : Int) < (i : Int) - 1 := by omega
          go_wp2
          refine bodyPost_ret (results_none rfl _ _ _) rfl ?_
          refine ⟨rfl, ?_⟩
          rw [symM_A _ _ _ _ _ _ (by omega), ← HI.out, ← heq.out, shiftR, if_neg hql]
          exact S1.out

set_option maxHeartbeats 16000000 in
set_option maxRecDepth 1000000 in
theorem symMergeB (f : α → Int) (cf : α → α → Int) (g : Nat) (cb : Array Value) (blk off cap a m b k : Nat) (d0 d : Array α) (w0 w : World)
    (eg : ∀ args w, (callFunc g args).run Try.prog w = .ok (.enter g args) w) (hcmp : CmpLays1 Try.prog g cb (E f) cf blk off d0.size w0) (R : Row1 (E f) w0 blk off d0) (hs : d0.size = d.size) (S : SW (E f) w0 blk off d w)
    (h1 : a < m) (h2 : m < b) (h3 : b ≤ d.size) (hsz : d.size < 4611686018427387904) (h4 : ¬ m ≤ a + 1) (h5 : b ≤ m + 1) :
    Calls Try.prog 102 #[.slice (some ⟨blk, off, none⟩) d.size cap, .int .i64 a, .int .i64 m, .int .i64 b, .func (.func g) #[] cb] w fun e w' => e = .returned (.tuple #[]) ∧ SW (E f) w0 blk off (symM (ltOf cf) (k + 1) a m b d) w' := by
  have mixed : Try.prog.follows .mixedOrders = true := by kernel_rfl
  have HC : Aside _ := hcmp
  have S0 : Aside (SW (E f) w0 blk off d w) := S
  clear S hcmp
  have q0 : ((m : Int) - (a : Int) == 1) = false := by rw [beq_eq_false_iff_ne]; omega
  have q1 : ((b : Int) - (m : Int) == 1) = true := by rw [beq_iff_eq]; omega
  go_enter Try.func102, Try.ntmps102
  go_wp2
  go_loopg [14, 15] (m - a) (fun kx s t wr => ∃ (i j : Nat), s = .int .i64 i ∧ t = .int .i64 j ∧ a ≤ i ∧ i ≤ j ∧ j ≤ m ∧ j - i ≤ kx ∧ Aside (SW (E f) w0 blk off d wr) ∧ Hid (bs (fun h => !ltOf cf d[m]! d[h]!) i j = bs (fun h => !ltOf cf d[m]! d[h]!) a m))
  case atStart => exact ⟨a, m, rfl, rfl, by omega, by omega, by omega, by omega, S0, rfl⟩
  case round =>
    clear S0
    obtain ⟨i, j, rfl, rfl, hmi, hij, hjb, hkx, S1, heq⟩ := hrel
    by_cases hlt : i < j
    · cases hlv : ltOf cf d[m]! d[(i + j) / 2]! with
      | true =>
        obtain ⟨iN, hiN⟩ : ∃ z, z = m := ⟨_, rfl⟩
        obtain ⟨jN, hjN⟩ : ∃ z, z = (i + j) / 2 := ⟨_, rfl⟩
        have ea : ((m : Int)).toNat = iN := by omega
        have pa : (0 : Int) ≤ (m : Int) := by omega
        have ba : (m : Int) < (d.size : Int) := by omega
        have ra : IntKind.i64.wrap ((m : Int)) = (m : Int) := by rw [IntKind.wrap_i64]; omega
        have ec : (((i : Int) + (j : Int)) / 2).toNat = jN := by omega
        have pc : (0 : Int) ≤ ((i : Int) + (j : Int)) / 2 := by omega
        have bc : ((i : Int) + (j : Int)) / 2 < (d.size : Int) := by omega
        have rc : IntKind.i64.wrap (((i : Int) + (j : Int)) / 2) = ((i : Int) + (j : Int)) / 2 := by rw [IntKind.wrap_i64]; omega
        obtain ⟨x, hx⟩ : ∃ x, x = d[m]! := ⟨_, rfl⟩
        obtain ⟨y, hy⟩ : ∃ x, x = d[(i + j) / 2]! := ⟨_, rfl⟩
        have la : ∀ n os, (grow (wr.drewN n) os).cell? ⟨blk, off + iN, none⟩ = some (.int .i64 (f x)) := by rw [hiN, hx]; exact S1.out.cl R (by omega) (m) (by omega)
        have lb : ∀ n os, (grow (wr.drewN n) os).cell? ⟨blk, off + jN, none⟩ = some (.int .i64 (f y)) := by rw [hjN, hy]; exact S1.out.cl R (by omega) ((i + j) / 2) (by omega)
        have hc := S1.out.cmp HC.out (by omega) x y
        have hv : cf x y < 0 := by rw [hx, hy]; exact of_decide_eq_true hlv
        have hd : decide (cf x y < 0) = true := decide_eq_true hv
        clear hx hy hiN hjN
        go_wp2_with fail
        go_quiet_grown (first | (go_at_fn g; refine Calls.grown_of (hc _ _)))
        have S2 : Aside (SW (E f) w0 blk off d (grow (wr.drewN nq) osq)) := S1.out.grown nq osq
        clear la lb hc S1
        generalize grow (wr.drewN nq) osq = w2 at S2 ⊢
        clear nq osq
        clear ea ec
        go_wp2
        go_roundg ((i + j) / 2 - i)
        case measure => omega
        case rel => exact ⟨i, (i + j) / 2, rfl, by go_num, by omega, by omega, by omega, by omega, S2, (show Hid _ from by rw [← heq.out]; exact (bs_dn (fun h => !ltOf cf d[m]! d[h]!) _ _ hlt (by simp [hlv])).symm)⟩
      | false =>
        obtain ⟨iN, hiN⟩ : ∃ z, z = m := ⟨_, rfl⟩
        obtain ⟨jN, hjN⟩ : ∃ z, z = (i + j) / 2 := ⟨_, rfl⟩
        have ea : ((m : Int)).toNat = iN := by omega
        have pa : (0 : Int) ≤ (m : Int) := by omega
        have ba : (m : Int) < (d.size : Int) := by omega
        have ra : IntKind.i64.wrap ((m : Int)) = (m : Int) := by rw [IntKind.wrap_i64]; omega
        have ec : (((i : Int) + (j : Int)) / 2).toNat = jN := by omega
        have pc : (0 : Int) ≤ ((i : Int) + (j : Int)) / 2 := by omega
        have bc : ((i : Int) + (j : Int)) / 2 < (d.size : Int) := by omega
        have rc : IntKind.i64.wrap (((i : Int) + (j : Int)) / 2) = ((i : Int) + (j : Int)) / 2 := by rw [IntKind.wrap_i64]; omega
        obtain ⟨x, hx⟩ : ∃ x, x = d[m]! := ⟨_, rfl⟩
        obtain ⟨y, hy⟩ : ∃ x, x = d[(i + j) / 2]! := ⟨_, rfl⟩
        have la : ∀ n os, (grow (wr.drewN n) os).cell? ⟨blk, off + iN, none⟩ = some (.int .i64 (f x)) := by rw [hiN, hx]; exact S1.out.cl R (by omega) (m) (by omega)
        have lb : ∀ n os, (grow (wr.drewN n) os).cell? ⟨blk, off + jN, none⟩ = some (.int .i64 (f y)) := by rw [hjN, hy]; exact S1.out.cl R (by omega) ((i + j) / 2) (by omega)
        have hc := S1.out.cmp HC.out (by omega) x y
        have hv : ¬ cf x y < 0 := by rw [hx, hy]; exact of_decide_eq_false hlv
        have hd : decide (cf x y < 0) = false := decide_eq_false hv
        clear hx hy hiN hjN
        go_wp2_with fail
        go_quiet_grown (first | (go_at_fn g; refine Calls.grown_of (hc _ _)))
        have S2 : Aside (SW (E f) w0 blk off d (grow (wr.drewN nq) osq)) := S1.out.grown nq osq
        clear la lb hc S1
        generalize grow (wr.drewN nq) osq = w2 at S2 ⊢
        clear nq osq
        clear ea ec
        go_wp2
        go_roundg (j - ((i + j) / 2 + 1))
        case measure => omega
        case rel => exact ⟨(i + j) / 2 + 1, j, by go_num, rfl, by omega, by omega, by omega, by omega, S2, (show Hid _ from by rw [← heq.out]; exact (bs_up (fun h => !ltOf cf d[m]! d[h]!) _ _ hlt (by simp [hlv])).symm)⟩
    · have hi : i = bs (fun h => !ltOf cf d[m]! d[h]!) a m := by rw [← heq.out, bs_stop _ _ _ hlt]
      have HI : Hid (i = bs (fun h => !ltOf cf d[m]! d[h]!) a m) := hi
      clear hi heq
      have hlt' : ¬ (i : Int) < (j : Int) := by omega
      go_wp2
      go_loopg [17] (b - a) (fun kx s wr => ∃ (q : Nat) (dk : Array α), s = .int .i64 q ∧ i ≤ q ∧ q ≤ m ∧ q - i ≤ kx ∧ dk.size = d.size ∧ Aside (SW (E f) w0 blk off dk wr) ∧ Hid (shiftL i q dk = shiftL i m d))
      case atStart => exact ⟨m, d, rfl, by omega, by omega, by omega, rfl, S1, rfl⟩
      case round =>
        clear S1
        obtain ⟨q, dk, rfl, haq, hqi, hkq, hds, S1, heq⟩ := hrel
        by_cases hql : i < q
        · have hql' : (i : Int) < (q : Int) := by omega
          obtain ⟨iN, hiN⟩ : ∃ z, z = q := ⟨_, rfl⟩
          obtain ⟨jN, hjN⟩ : ∃ z, z = q - 1 := ⟨_, rfl⟩
          have ea : ((q : Int)).toNat = iN := by omega
          have pa : (0 : Int) ≤ (q : Int) := by omega
          have ba : (q : Int) < (d.size : Int) := by omega
          have ra : IntKind.i64.wrap ((q : Int)) = (q : Int) := by rw [IntKind.wrap_i64]; omega
          have ec : ((q : Int) - 1).toNat = jN := by omega
          have pc : (0 : Int) ≤ (q : Int) - 1 := by omega
          have bc : (q : Int) - 1 < (d.size : Int) := by omega
          have rc : IntKind.i64.wrap ((q : Int) - 1) = (q : Int) - 1 := by rw [IntKind.wrap_i64]; omega
          obtain ⟨x, hx⟩ : ∃ x, x = dk[q]! := ⟨_, rfl⟩
          obtain ⟨y, hy⟩ : ∃ x, x = dk[q - 1]! := ⟨_, rfl⟩
          have S2 : Aside (SW (E f) w0 blk off (swp dk (q) (q - 1)) ((wr.setCell ⟨blk, off + iN, none⟩ (.int .i64 (f y))).setCell ⟨blk, off + jN, none⟩ (.int .i64 (f x))).drew) := by rw [hiN, hjN, hx, hy]; exact S1.out.swapped R (q) (q - 1) (by omega) (by omega)
          have c1 : wr.cell? ⟨blk, off + iN, none⟩ = some (.int .i64 (f x)) := by rw [hiN, hx]; exact S1.out.c1 R (by omega) (q) (by omega)
          have c2 : wr.cell? ⟨blk, off + jN, none⟩ = some (.int .i64 (f y)) := by rw [hjN, hy]; exact S1.out.c1 R (by omega) (q - 1) (by omega)
          have f1 : wr.frozen? ⟨blk, off + iN, none⟩ = false := by rw [hiN]; exact S1.out.f1 R (by omega) (q) (by omega)
          have f2 : wr.frozen? ⟨blk, off + jN, none⟩ = false := by rw [hjN]; exact S1.out.f1 R (by omega) (q - 1) (by omega)
          obtain ⟨u, c3⟩ : ∃ u, (wr.setCell ⟨blk, off + iN, none⟩ (.int .i64 (f y))).cell? ⟨blk, off + jN, none⟩ = some u := by rw [hiN, hjN]; exact S1.out.c2 R (by omega) (q) (q - 1) (by omega) (by omega) (E f y)
          clear S1 hx hy hiN hjN
          go_wp2_with fail
          go_big_region
          clear c1 c2 c3 f1 f2
          generalize ((wr.setCell ⟨blk, off + iN, none⟩ (.int .i64 (f y))).setCell ⟨blk, off + jN, none⟩ (.int .i64 (f x))).drew = w2 at S2 ⊢
          clear ea ec
          go_wp2
          go_roundg (q - 1 - i)
          case measure => omega
          case rel => exact ⟨q - 1, swp dk q (q - 1), by go_num, by omega, by omega, by omega, by rw [size_swp]; exact hds, S2, (show Hid _ from by rw [← heq.out, shiftL_pos _ _ _ hql]; exact rfl)⟩
        · have hql' : ¬ (i : Int) < (q : Int) := by omega
          go_wp2
          refine bodyPost_ret (results_none rfl _ _ _) rfl ?_
          refine ⟨rfl, ?_⟩
          rw [symM_B _ _ _ _ _ _ (by omega) (by omega), ← HI.out, ← heq.out]
          cases q with
          | zero => exact S1.out
          | succ q => rw [shiftL, if_neg hql]; exact S1.out
end Go.Proofs.Ytnldnaogbadajaa.Sw

/- Go's stable sort of ints, walked: symMerge, the general case, and the whole. -/
set_option linter.unusedVariables false
namespace Go.Proofs.Ytnldnaogbadajaa.Sw
open Go.Shelf Go.RowKit Go.Lib Go.Sort Go.Proofs.Ytnldnaogbadajaa.St
variable {α : Type} [Inhabited α]

theorem symM_C (lt : α → α → Bool) (k a m b mid st : Nat) (d d1 d2 : Array α) (h : ¬ m - a = 1) (h2 : ¬ b - m = 1) (hm : mid = (a + b) / 2)
    (hst : st = bs (fun c => !lt d[mid + m - 1 - c]! d[c]!) (if m > mid then mid + m - b else a) (if m > mid then mid else m))
    (hd1 : d1 = if st < m ∧ m < mid + m - st then rotate st m (mid + m - st) d else d) (hd2 : d2 = if a < st ∧ st < mid then symM lt k a st mid d1 else d1) :
    symM lt (k + 1) a m b d = if mid < mid + m - st ∧ mid + m - st < b then symM lt k mid (mid + m - st) b d2 else d2 := by
  subst hm hst hd1 hd2
  conv => lhs; unfold symM
  rw [if_neg h, if_neg h2]

set_option maxHeartbeats 16000000 in
set_option maxRecDepth 1000000 in
theorem symMergeC (f : α → Int) (cf : α → α → Int) (g : Nat) (cb : Array Value) (blk off cap a m b k : Nat) (d0 d : Array α) (w0 w : World)
    (eg : ∀ args w, (callFunc g args).run Try.prog w = .ok (.enter g args) w) (hcmp : CmpLays1 Try.prog g cb (E f) cf blk off d0.size w0) (R : Row1 (E f) w0 blk off d0) (hs : d0.size = d.size) (S : SW (E f) w0 blk off d w)
    (h1 : a < m) (h2 : m < b) (h3 : b ≤ d.size) (hsz : d.size < 4611686018427387904) (h4 : ¬ m ≤ a + 1) (h5 : ¬ b ≤ m + 1)
    (ih : ∀ (a' m' b' : Nat) (d' : Array α) (w' : World), d'.size = d.size → SW (E f) w0 blk off d' w' → a' < m' → m' < b' → b' ≤ d'.size → b' - a' < b - a → Calls Try.prog 102 #[.slice (some ⟨blk, off, none⟩) d'.size cap, .int .i64 a', .int .i64 m', .int .i64 b', .func (.func g) #[] cb] w' fun e w'' => e = .returned (.tuple #[]) ∧ SW (E f) w0 blk off (symM (ltOf cf) k a' m' b' d') w'') :
    Calls Try.prog 102 #[.slice (some ⟨blk, off, none⟩) d.size cap, .int .i64 a, .int .i64 m, .int .i64 b, .func (.func g) #[] cb] w fun e w' => e = .returned (.tuple #[]) ∧ SW (E f) w0 blk off (symM (ltOf cf) (k + 1) a m b d) w' := by
  have mixed : Try.prog.follows .mixedOrders = true := by kernel_rfl
  have HC : Aside _ := hcmp
  have S0 : Aside (SW (E f) w0 blk off d w) := S
  have IH := Lib.hid ih
  clear S hcmp ih
  obtain ⟨mid, hmid⟩ : ∃ z, z = (a + b) / 2 := ⟨_, rfl⟩
  have m1 : 2 * mid ≤ a + b := by omega
  have m2 : a + b < 2 * mid + 2 := by omega
  have HM := Lib.hid hmid
  clear hmid
  have q0 : ((m : Int) - (a : Int) == 1) = false := by rw [beq_eq_false_iff_ne]; omega
  have q1 : ((b : Int) - (m : Int) == 1) = false := by rw [beq_eq_false_iff_ne]; omega
  have em : ((a : Int) + (b : Int)) / 2 = (mid : Int) := by omega
  have hlohi : ∃ lo hi : Nat, lo = (if m > mid then mid + m - b else a) ∧ hi = (if m > mid then mid else m) := ⟨_, _, rfl, rfl⟩
  obtain ⟨lo, hi, hlo, hhi⟩ := hlohi
  have b1 : a ≤ lo ∧ lo ≤ hi ∧ hi ≤ m ∧ hi ≤ mid ∧ mid + m ≤ lo + b := by subst hlo hhi; split <;> omega
  obtain ⟨b1, b2, b3, b4, b5⟩ := b1
  have HL := Lib.hid hlo
  have HH := Lib.hid hhi
  clear hlo hhi
  go_enter Try.func102, Try.ntmps102
  go_upto_if 140 with (fail)
  go_cut [20, 21] (fun s t wx => s = .int .i64 lo ∧ t = .int .i64 hi ∧ Aside (SW (E f) w0 blk off d wx))
  case first => as_aux_lemma =>
    have hlo := HL.out
    have hhi := HH.out
    by_cases hmm : m > mid
    · rw [if_pos hmm] at hlo hhi
      have e1 : (mid : Int) + (m : Int) - (b : Int) = (lo : Int) := by omega
      have e2 : mid = hi := hhi.symm
      clear hlo hhi HL HH HM em
      subst e2
      go_wp2
      go_meet
      case rel => exact ⟨rfl, rfl, S0⟩
    · rw [if_neg hmm] at hlo hhi
      subst hlo hhi
      clear HL HH HM em
      go_wp2
      go_meet
      case rel => exact ⟨rfl, rfl, S0⟩
  case rest => as_aux_lemma =>
    clear S0
    obtain ⟨rfl, rfl, S0⟩ := hcut
    go_wp2
    go_loopg [20, 21] (hi - lo) (fun kx s t wr => ∃ (i j : Nat), s = .int .i64 i ∧ t = .int .i64 j ∧ lo ≤ i ∧ i ≤ j ∧ j ≤ hi ∧ j - i ≤ kx ∧ Aside (SW (E f) w0 blk off d wr) ∧ Hid (bs (fun c => !ltOf cf d[mid + m - 1 - c]! d[c]!) i j = bs (fun c => !ltOf cf d[mid + m - 1 - c]! d[c]!) lo hi))
    case atStart => exact ⟨lo, hi, rfl, rfl, by omega, by omega, by omega, by omega, S0, rfl⟩
    case round =>
      clear S0
      obtain ⟨i, j, rfl, rfl, hmi, hij, hjb, hkx, S1, heq⟩ := hrel
      by_cases hlt : i < j
      · cases hlv : ltOf cf d[mid + m - 1 - (i + j) / 2]! d[(i + j) / 2]! with
        | true => as_aux_lemma =>
          have pa1 : ((i : Int) + (j : Int)) / 2 ≤ (mid : Int) + (m : Int) - 1 := by omega
          obtain ⟨iN, hiN⟩ : ∃ z, z = mid + m - 1 - (i + j) / 2 := ⟨_, rfl⟩
          obtain ⟨jN, hjN⟩ : ∃ z, z = (i + j) / 2 := ⟨_, rfl⟩
          have ea : ((mid : Int) + (m : Int) - 1 - ((i : Int) + (j : Int)) / 2).toNat = iN := by omega
          have pa : (0 : Int) ≤ (mid : Int) + (m : Int) - 1 - ((i : Int) + (j : Int)) / 2 := by omega
          have ba : (mid : Int) + (m : Int) - 1 - ((i : Int) + (j : Int)) / 2 < (d.size : Int) := by omega
          have ra : IntKind.i64.wrap ((mid : Int) + (m : Int) - 1 - ((i : Int) + (j : Int)) / 2) = (mid : Int) + (m : Int) - 1 - ((i : Int) + (j : Int)) / 2 := by rw [IntKind.wrap_i64]; omega
          have ec : (((i : Int) + (j : Int)) / 2).toNat = jN := by omega
          have pc : (0 : Int) ≤ ((i : Int) + (j : Int)) / 2 := by omega
          have bc : ((i : Int) + (j : Int)) / 2 < (d.size : Int) := by omega
          have rc : IntKind.i64.wrap (((i : Int) + (j : Int)) / 2) = ((i : Int) + (j : Int)) / 2 := by rw [IntKind.wrap_i64]; omega
          obtain ⟨x, hx⟩ : ∃ x, x = d[mid + m - 1 - (i + j) / 2]! := ⟨_, rfl⟩
          obtain ⟨y, hy⟩ : ∃ x, x = d[(i + j) / 2]! := ⟨_, rfl⟩
          have la : ∀ n os, (grow (wr.drewN n) os).cell? ⟨blk, off + iN, none⟩ = some (.int .i64 (f x)) := by rw [hiN, hx]; exact S1.out.cl R (by omega) (mid + m - 1 - (i + j) / 2) (by omega)
          have lb : ∀ n os, (grow (wr.drewN n) os).cell? ⟨blk, off + jN, none⟩ = some (.int .i64 (f y)) := by rw [hjN, hy]; exact S1.out.cl R (by omega) ((i + j) / 2) (by omega)
          have hc := S1.out.cmp HC.out (by omega) x y
          have hv : cf x y < 0 := by rw [hx, hy]; exact of_decide_eq_true hlv
          have hd : decide (cf x y < 0) = true := decide_eq_true hv
          clear hx hy hiN hjN
          go_wp2_with fail
          go_quiet_grown (first | (go_at_fn g; refine Calls.grown_of (hc _ _)))
          have S2 : Aside (SW (E f) w0 blk off d (grow (wr.drewN nq) osq)) := S1.out.grown nq osq
          clear la lb hc S1
          generalize grow (wr.drewN nq) osq = w2 at S2 ⊢
          clear nq osq
          clear ea ec
          go_wp2
          go_roundg ((i + j) / 2 - i)
          case measure => omega
          case rel => exact ⟨i, (i + j) / 2, rfl, by go_num, by omega, by omega, by omega, by omega, S2, (show Hid _ from by rw [← heq.out]; exact (bs_dn (fun c => !ltOf cf d[mid + m - 1 - c]! d[c]!) _ _ hlt (by simp [hlv])).symm)⟩
        | false => as_aux_lemma =>
          have pa1 : ((i : Int) + (j : Int)) / 2 ≤ (mid : Int) + (m : Int) - 1 := by omega
          obtain ⟨iN, hiN⟩ : ∃ z, z = mid + m - 1 - (i + j) / 2 := ⟨_, rfl⟩
          obtain ⟨jN, hjN⟩ : ∃ z, z = (i + j) / 2 := ⟨_, rfl⟩
          have ea : ((mid : Int) + (m : Int) - 1 - ((i : Int) + (j : Int)) / 2).toNat = iN := by omega
          have pa : (0 : Int) ≤ (mid : Int) + (m : Int) - 1 - ((i : Int) + (j : Int)) / 2 := by omega
          have ba : (mid : Int) + (m : Int) - 1 - ((i : Int) + (j : Int)) / 2 < (d.size : Int) := by omega
          have ra : IntKind.i64.wrap ((mid : Int) + (m : Int) - 1 - ((i : Int) + (j : Int)) / 2) = (mid : Int) + (m : Int) - 1 - ((i : Int) + (j : Int)) / 2 := by rw [IntKind.wrap_i64]; omega
          have ec : (((i : Int) + (j : Int)) / 2).toNat = jN := by omega
          have pc : (0 : Int) ≤ ((i : Int) + (j : Int)) / 2 := by omega
          have bc : ((i : Int) + (j : Int)) / 2 < (d.size : Int) := by omega
          have rc : IntKind.i64.wrap (((i : Int) + (j : Int)) / 2) = ((i : Int) + (j : Int)) / 2 := by rw [IntKind.wrap_i64]; omega
          obtain ⟨x, hx⟩ : ∃ x, x = d[mid + m - 1 - (i + j) / 2]! := ⟨_, rfl⟩
          obtain ⟨y, hy⟩ : ∃ x, x = d[(i + j) / 2]! := ⟨_, rfl⟩
          have la : ∀ n os, (grow (wr.drewN n) os).cell? ⟨blk, off + iN, none⟩ = some (.int .i64 (f x)) := by rw [hiN, hx]; exact S1.out.cl R (by omega) (mid + m - 1 - (i + j) / 2) (by omega)
          have lb : ∀ n os, (grow (wr.drewN n) os).cell? ⟨blk, off + jN, none⟩ = some (.int .i64 (f y)) := by rw [hjN, hy]; exact S1.out.cl R (by omega) ((i + j) / 2) (by omega)
          have hc := S1.out.cmp HC.out (by omega) x y
          have hv : ¬ cf x y < 0 := by rw [hx, hy]; exact of_decide_eq_false hlv
          have hd : decide (cf x y < 0) = false := decide_eq_false hv
          clear hx hy hiN hjN
          go_wp2_with fail
          go_quiet_grown (first | (go_at_fn g; refine Calls.grown_of (hc _ _)))
          have S2 : Aside (SW (E f) w0 blk off d (grow (wr.drewN nq) osq)) := S1.out.grown nq osq
          clear la lb hc S1
          generalize grow (wr.drewN nq) osq = w2 at S2 ⊢
          clear nq osq
          clear ea ec
          go_wp2
          go_roundg (j - ((i + j) / 2 + 1))
          case measure => omega
          case rel => exact ⟨(i + j) / 2 + 1, j, by go_num, rfl, by omega, by omega, by omega, by omega, S2, (show Hid _ from by rw [← heq.out]; exact (bs_up (fun c => !ltOf cf d[mid + m - 1 - c]! d[c]!) _ _ hlt (by simp [hlv])).symm)⟩
      · have hi' : i = bs (fun c => !ltOf cf d[mid + m - 1 - c]! d[c]!) lo hi := by rw [← heq.out, bs_stop _ _ _ hlt]
        have HI : Hid (i = bs (fun c => !ltOf cf d[mid + m - 1 - c]! d[c]!) lo hi) := hi'
        clear hi' heq
        have hlt' : ¬ (i : Int) < (j : Int) := by omega
        obtain ⟨d1, hd1⟩ : ∃ z, z = if i < m ∧ m < mid + m - i then rotate i m (mid + m - i) d else d := ⟨_, rfl⟩
        have z1 : d1.size = d.size := by
          subst hd1
          split
          · rename_i hc; exact (rotate_spec i m (mid + m - i) d hc.1 hc.2 (by omega)).1.size
          · rfl
        obtain ⟨d2, hd2⟩ : ∃ z, z = if a < i ∧ i < mid then symM (ltOf cf) k a i mid d1 else d1 := ⟨_, rfl⟩
        have z2 : d2.size = d.size := by
          subst hd2
          split
          · rename_i hc; exact (symM_out (ltOf cf) k a i mid d1 hc.1 hc.2 (by omega)).size.trans z1
          · exact z1
        have Z1 := Lib.hid z1
        have Z2 := Lib.hid z2
        have D1 := Lib.hid hd1
        have D2 := Lib.hid hd2
        clear z1 z2 hd1 hd2
        obtain ⟨v1, hv1⟩ : ∃ z : Bool, z = decide (i < m ∧ m < mid + m - i) := ⟨_, rfl⟩
        have V1 := Lib.hid hv1
        clear hv1
        go_upto_region 39 with (fail)
        go_cut [185] (fun s wx => s = .bool v1 ∧ Aside (SW (E f) w0 blk off d wx))
        case first => as_aux_lemma =>
          have hv1 := V1.out
          clear V1 D1 D2 Z1 Z2
          by_cases hc1 : i < m
          · by_cases hc2 : m < mid + m - i
            · have g1 : (i : Int) < (m : Int) := by omega
              have g2 : (m : Int) < (mid : Int) + (m : Int) - (i : Int) := by omega
              rw [decide_eq_true ⟨hc1, hc2⟩] at hv1
              subst hv1
              go_wp2
              go_meet
              case rel => exact ⟨rfl, S1⟩
            · have g1 : (i : Int) < (m : Int) := by omega
              have g2 : ¬ (m : Int) < (mid : Int) + (m : Int) - (i : Int) := by omega
              rw [decide_eq_false (by omega)] at hv1
              subst hv1
              go_wp2
              go_meet
              case rel => exact ⟨rfl, S1⟩
          · have g1 : ¬ (i : Int) < (m : Int) := by omega
            rw [decide_eq_false (by omega)] at hv1
            subst hv1
            go_wp2
            go_meet
            case rel => exact ⟨rfl, S1⟩
        case rest => as_aux_lemma =>
          clear S1
          obtain ⟨rfl, S1⟩ := hcut
          go_upto_if 185 with (fail)
          go_cut [20] (fun s wx => s = .int .i64 i ∧ Aside (SW (E f) w0 blk off d1 wx))
          case first => as_aux_lemma =>
            have hd1 := D1.out
            have hv1 := V1.out
            clear V1 D1 D2 Z1 Z2
            by_cases hc : i < m ∧ m < mid + m - i
            · rw [if_pos hc] at hd1
              rw [decide_eq_true hc] at hv1
              subst hd1 hv1
              have C := rotate_s f (.func (.func g) #[] cb) blk off cap i m (mid + m - i) d0 d w0 wc R hs S1.out hc.1 hc.2 (by omega) hsz
              rw [show ((mid + m - i : Nat) : Int) = (mid : Int) + (m : Int) - (i : Int) by omega] at C
              have HC2 := Lib.hid C
              clear C
              go_wp2_with fail
              refine HC2.out.mono ?_
              rintro e w' ⟨rfl, S2⟩
              have S3 : Aside (SW (E f) w0 blk off (rotate i m (mid + m - i) d) w') := S2
              clear S2 S1 HC2
              go_wp2
              go_meet
              case rel => exact ⟨rfl, S3⟩
            · rw [if_neg hc] at hd1
              rw [decide_eq_false hc] at hv1
              subst hd1 hv1
              go_wp2
              go_meet
              case rel => exact ⟨rfl, S1⟩
          case rest => as_aux_lemma =>
            clear S1 V1
            obtain ⟨rfl, S1⟩ := hcut
            obtain ⟨v2, hv2⟩ : ∃ z : Bool, z = decide (a < i ∧ i < mid) := ⟨_, rfl⟩
            have V2 := Lib.hid hv2
            clear hv2
            go_upto_region 41 with (fail)
            go_cut [199] (fun s wx => s = .bool v2 ∧ Aside (SW (E f) w0 blk off d1 wx))
            case first => as_aux_lemma =>
              have hv2 := V2.out
              clear V2 D1 D2 Z1 Z2
              by_cases hc1 : a < i
              · by_cases hc2 : i < mid
                · have g1 : (a : Int) < (i : Int) := by omega
                  have g2 : (i : Int) < (mid : Int) := by omega
                  rw [decide_eq_true ⟨hc1, hc2⟩] at hv2
                  subst hv2
                  go_wp2
                  go_meet
                  case rel => exact ⟨rfl, S1⟩
                · have g1 : (a : Int) < (i : Int) := by omega
                  have g2 : ¬ (i : Int) < (mid : Int) := by omega
                  rw [decide_eq_false (by omega)] at hv2
                  subst hv2
                  go_wp2
                  go_meet
                  case rel => exact ⟨rfl, S1⟩
              · have g1 : ¬ (a : Int) < (i : Int) := by omega
                rw [decide_eq_false (by omega)] at hv2
                subst hv2
                go_wp2
                go_meet
                case rel => exact ⟨rfl, S1⟩
            case rest => as_aux_lemma =>
              clear S1
              obtain ⟨rfl, S1⟩ := hcut
              go_upto_if 199 with (fail)
              go_cut [20] (fun s wx => s = .int .i64 i ∧ Aside (SW (E f) w0 blk off d2 wx))
              case first => as_aux_lemma =>
                have hd2 := D2.out
                have hv2 := V2.out
                clear V2
                by_cases hc : a < i ∧ i < mid
                · rw [if_pos hc] at hd2
                  rw [decide_eq_true hc] at hv2
                  have C := IH.out a i mid d1 wc Z1.out S1.out hc.1 hc.2 (by rw [Z1.out]; omega) (by omega)
                  rw [Z1.out] at C
                  have HC2 := Lib.hid C
                  clear C
                  subst hd2 hv2
                  clear D1 D2 Z1 Z2
                  go_wp2_with fail
                  refine HC2.out.mono ?_
                  rintro e w' ⟨rfl, S2⟩
                  have S3 : Aside (SW (E f) w0 blk off (symM (ltOf cf) k a i mid d1) w') := S2
                  clear S2 S1 HC2
                  go_wp2
                  go_meet
                  case rel => exact ⟨rfl, S3⟩
                · rw [if_neg hc] at hd2
                  rw [decide_eq_false hc] at hv2
                  subst hd2 hv2
                  clear D1 D2 Z1 Z2
                  go_wp2
                  go_meet
                  case rel => exact ⟨rfl, S1⟩
              case rest => as_aux_lemma =>
                clear S1 V2
                obtain ⟨rfl, S1⟩ := hcut
                have fin := symM_C (ltOf cf) k a m b mid i d d1 d2 (by omega) (by omega) HM.out (by rw [← HL.out, ← HH.out]; exact HI.out) D1.out D2.out
                have FIN := Lib.hid fin
                clear fin
                by_cases hc1 : mid < mid + m - i
                · by_cases hc2 : mid + m - i < b
                  · have g1 : (mid : Int) < (mid : Int) + (m : Int) - (i : Int) := by omega
                    have g2 : (mid : Int) + (m : Int) - (i : Int) < (b : Int) := by omega
                    have C := IH.out mid (mid + m - i) b d2 wc Z2.out S1.out hc1 hc2 (by rw [Z2.out]; omega) (by omega)
                    rw [Z2.out, show ((mid + m - i : Nat) : Int) = (mid : Int) + (m : Int) - (i : Int) by omega] at C
                    have HC2 := Lib.hid C
                    clear C
                    go_wp2_with fail
                    refine HC2.out.mono ?_
                    rintro e w' ⟨rfl, S2⟩
                    have S3 : Aside (SW (E f) w0 blk off (symM (ltOf cf) k mid (mid + m - i) b d2) w') := S2
                    clear S2 S1 HC2
                    go_wp2
                    go_end0
                    refine ⟨rfl, ?_⟩
                    rw [FIN.out, if_pos ⟨hc1, hc2⟩]
                    exact S3.out
                  · have g1 : (mid : Int) < (mid : Int) + (m : Int) - (i : Int) := by omega
                    have g2 : ¬ (mid : Int) + (m : Int) - (i : Int) < (b : Int) := by omega
                    go_wp2
                    go_end0
                    refine ⟨rfl, ?_⟩
                    rw [FIN.out, if_neg (by omega)]
                    exact S1.out
                · have g1 : ¬ (mid : Int) < (mid : Int) + (m : Int) - (i : Int) := by omega
                  go_wp2
                  go_end0
                  refine ⟨rfl, ?_⟩
                  rw [FIN.out, if_neg (by omega)]
                  exact S1.out
end Go.Proofs.Ytnldnaogbadajaa.Sw

/- Go's insertion sort of ints with a comparison, walked. -/
set_option linter.unusedVariables false
namespace Go.Proofs.Ytnldnaogbadajaa.Sw
open Go.Shelf Go.RowKit Go.Lib Go.Sort Go.Proofs.Ytnldnaogbadajaa.St
variable {α : Type} [Inhabited α]

theorem insInner_pos (lt : α → α → Bool) (a j : Nat) (d : Array α) (h : a < j) (hl : lt d[j]! d[j - 1]! = true) : insInner lt a j d = insInner lt a (j - 1) (swp d j (j - 1)) := by
  obtain ⟨p, rfl⟩ : ∃ p, j = p + 1 := ⟨j - 1, by omega⟩
  simp only [Nat.add_sub_cancel] at hl ⊢
  rw [insInner, if_pos (by rw [hl]; simp; omega)]
theorem insInner_neg (lt : α → α → Bool) (a j : Nat) (d : Array α) (h : a < j → lt d[j]! d[j - 1]! = false) : insInner lt a j d = d := by
  cases j with
  | zero => rfl
  | succ p =>
    rw [insInner, if_neg]
    intro hc
    rw [Bool.and_eq_true, decide_eq_true_eq] at hc
    have := h hc.1
    simp only [Nat.add_sub_cancel] at this
    rw [hc.2] at this
    cases this

set_option maxHeartbeats 16000000 in
set_option maxRecDepth 1000000 in
theorem insertion_s (f : α → Int) (cf : α → α → Int) (g : Nat) (cb : Array Value) (blk off cap a b : Nat) (d0 d : Array α) (w0 w : World)
    (eg : ∀ args w, (callFunc g args).run Try.prog w = .ok (.enter g args) w) (hcmp : CmpLays1 Try.prog g cb (E f) cf blk off d0.size w0) (R : Row1 (E f) w0 blk off d0) (hs : d0.size = d.size) (S : SW (E f) w0 blk off d w)
    (h1 : a ≤ b) (h3 : b ≤ d.size) (hsz : d.size < 4611686018427387904) :
    Calls Try.prog 101 #[.slice (some ⟨blk, off, none⟩) d.size cap, .int .i64 a, .int .i64 b, .func (.func g) #[] cb] w fun e w' => e = .returned (.tuple #[]) ∧ SW (E f) w0 blk off (insertionSort (ltOf cf) d a b) w' := by
  have mixed : Try.prog.follows .mixedOrders = true := by kernel_rfl
  have HC : Aside _ := hcmp
  have S0 : Aside (SW (E f) w0 blk off d w) := S
  clear S hcmp
  go_enter Try.func101, Try.ntmps101
  go_wp2
  go_loopg [8] (b - a) (fun kx s wr => ∃ (i : Nat) (dk : Array α), s = .int .i64 i ∧ a < i ∧ i ≤ b + 1 ∧ b + 1 - i ≤ kx + 1 ∧ dk.size = d.size ∧ Aside (SW (E f) w0 blk off dk wr) ∧ Hid (insOuter (ltOf cf) a b i dk = insOuter (ltOf cf) a b (a + 1) d))
  case atStart => exact ⟨a + 1, d, by go_num, by omega, by omega, by omega, rfl, S0, rfl⟩
  case round =>
    clear S0
    obtain ⟨i, dk, rfl, hai, hib, hkx, hds, S1, HO⟩ := hrel
    by_cases hlt : i < b
    · go_wp2
      go_loopg [9] i (fun kx t wr2 => ∃ (j : Nat) (dj : Array α), t = .int .i64 j ∧ a ≤ j ∧ j ≤ i ∧ j ≤ kx ∧ dj.size = d.size ∧ Aside (SW (E f) w0 blk off dj wr2) ∧ Hid (insInner (ltOf cf) a j dj = insInner (ltOf cf) a i dk))
      case atStart => exact ⟨i, dk, rfl, by omega, Nat.le_refl _, Nat.le_refl _, hds, S1, rfl⟩
      case round =>
        clear S1
        obtain ⟨j, dj, rfl, haj, hji, hkj, hsj, S1, HI⟩ := hrel
        by_cases hja : a < j
        · have g1 : (a : Int) < (j : Int) := by omega
          have g2 : (1 : Int) ≤ (j : Int) := by omega
          cases hlv : ltOf cf dj[j]! dj[j - 1]! with
          | true =>
            obtain ⟨iN, hiN⟩ : ∃ z, z = j := ⟨_, rfl⟩
            obtain ⟨jN, hjN⟩ : ∃ z, z = j - 1 := ⟨_, rfl⟩
            have ea : ((j : Int)).toNat = iN := by omega
            have pa : (0 : Int) ≤ (j : Int) := by omega
            have ba : (j : Int) < (d.size : Int) := by omega
            have ra : IntKind.i64.wrap ((j : Int)) = (j : Int) := by rw [IntKind.wrap_i64]; omega
            have ec : ((j : Int) - 1).toNat = jN := by omega
            have pc : (0 : Int) ≤ (j : Int) - 1 := by omega
            have bc : (j : Int) - 1 < (d.size : Int) := by omega
            have rc : IntKind.i64.wrap ((j : Int) - 1) = (j : Int) - 1 := by rw [IntKind.wrap_i64]; omega
            obtain ⟨x, hx⟩ : ∃ x, x = dj[j]! := ⟨_, rfl⟩
            obtain ⟨y, hy⟩ : ∃ x, x = dj[j - 1]! := ⟨_, rfl⟩
            have la : ∀ n os, (grow (wr.drewN n) os).cell? ⟨blk, off + iN, none⟩ = some (.int .i64 (f x)) := by rw [hiN, hx]; exact S1.out.cl R (by omega) (j) (by omega)
            have lb : ∀ n os, (grow (wr.drewN n) os).cell? ⟨blk, off + jN, none⟩ = some (.int .i64 (f y)) := by rw [hjN, hy]; exact S1.out.cl R (by omega) (j - 1) (by omega)
            have hc := S1.out.cmp HC.out (by omega) x y
            have hv : cf x y < 0 := by rw [hx, hy]; exact of_decide_eq_true hlv
            have hd : decide (cf x y < 0) = true := decide_eq_true hv
            clear hx hy hiN hjN
            go_wp2_with fail
            go_quiet_grown (first | (go_at_fn g; refine Calls.grown_of (hc _ _)))
            have S2 : Aside (SW (E f) w0 blk off dj (grow (wr.drewN nq) osq)) := S1.out.grown nq osq
            clear la lb hc S1
            generalize grow (wr.drewN nq) osq = w3 at S2 ⊢
            clear nq osq
            clear ea ec
            obtain ⟨iN, hiN⟩ : ∃ z, z = j := ⟨_, rfl⟩
            obtain ⟨jN, hjN⟩ : ∃ z, z = j - 1 := ⟨_, rfl⟩
            have ea : ((j : Int)).toNat = iN := by omega
            have pa : (0 : Int) ≤ (j : Int) := by omega
            have ba : (j : Int) < (d.size : Int) := by omega
            have ra : IntKind.i64.wrap ((j : Int)) = (j : Int) := by rw [IntKind.wrap_i64]; omega
            have ec : ((j : Int) - 1).toNat = jN := by omega
            have pc : (0 : Int) ≤ (j : Int) - 1 := by omega
            have bc : (j : Int) - 1 < (d.size : Int) := by omega
            have rc : IntKind.i64.wrap ((j : Int) - 1) = (j : Int) - 1 := by rw [IntKind.wrap_i64]; omega
            obtain ⟨x, hx⟩ : ∃ x, x = dj[j]! := ⟨_, rfl⟩
            obtain ⟨y, hy⟩ : ∃ x, x = dj[j - 1]! := ⟨_, rfl⟩
            have S3 : Aside (SW (E f) w0 blk off (swp dj (j) (j - 1)) ((w3.setCell ⟨blk, off + iN, none⟩ (.int .i64 (f y))).setCell ⟨blk, off + jN, none⟩ (.int .i64 (f x))).drew) := by rw [hiN, hjN, hx, hy]; exact S2.out.swapped R (j) (j - 1) (by omega) (by omega)
            have c1 : w3.cell? ⟨blk, off + iN, none⟩ = some (.int .i64 (f x)) := by rw [hiN, hx]; exact S2.out.c1 R (by omega) (j) (by omega)
            have c2 : w3.cell? ⟨blk, off + jN, none⟩ = some (.int .i64 (f y)) := by rw [hjN, hy]; exact S2.out.c1 R (by omega) (j - 1) (by omega)
            have f1 : w3.frozen? ⟨blk, off + iN, none⟩ = false := by rw [hiN]; exact S2.out.f1 R (by omega) (j) (by omega)
            have f2 : w3.frozen? ⟨blk, off + jN, none⟩ = false := by rw [hjN]; exact S2.out.f1 R (by omega) (j - 1) (by omega)
            obtain ⟨u, c3⟩ : ∃ u, (w3.setCell ⟨blk, off + iN, none⟩ (.int .i64 (f y))).cell? ⟨blk, off + jN, none⟩ = some u := by rw [hiN, hjN]; exact S2.out.c2 R (by omega) (j) (j - 1) (by omega) (by omega) (E f y)
            clear S2 hx hy hiN hjN
            go_wp2_with fail
            go_big_region
            clear c1 c2 c3 f1 f2
            generalize ((w3.setCell ⟨blk, off + iN, none⟩ (.int .i64 (f y))).setCell ⟨blk, off + jN, none⟩ (.int .i64 (f x))).drew = w4 at S3 ⊢
            clear ea ec
            go_wp2
            go_roundg (j - 1)
            case measure => omega
            case rel => exact ⟨j - 1, swp dj j (j - 1), by go_num, by omega, by omega, Nat.le_refl _, by rw [size_swp]; exact hsj, S3, (show Hid _ from by rw [← HI.out, insInner_pos _ _ _ _ hja hlv]; exact rfl)⟩
          | false =>
            obtain ⟨iN, hiN⟩ : ∃ z, z = j := ⟨_, rfl⟩
            obtain ⟨jN, hjN⟩ : ∃ z, z = j - 1 := ⟨_, rfl⟩
            have ea : ((j : Int)).toNat = iN := by omega
            have pa : (0 : Int) ≤ (j : Int) := by omega
            have ba : (j : Int) < (d.size : Int) := by omega
            have ra : IntKind.i64.wrap ((j : Int)) = (j : Int) := by rw [IntKind.wrap_i64]; omega
            have ec : ((j : Int) - 1).toNat = jN := by omega
            have pc : (0 : Int) ≤ (j : Int) - 1 := by omega
            have bc : (j : Int) - 1 < (d.size : Int) := by omega
            have rc : IntKind.i64.wrap ((j : Int) - 1) = (j : Int) - 1 := by rw [IntKind.wrap_i64]; omega
            obtain ⟨x, hx⟩ : ∃ x, x = dj[j]! := ⟨_, rfl⟩
            obtain ⟨y, hy⟩ : ∃ x, x = dj[j - 1]! := ⟨_, rfl⟩
            have la : ∀ n os, (grow (wr.drewN n) os).cell? ⟨blk, off + iN, none⟩ = some (.int .i64 (f x)) := by rw [hiN, hx]; exact S1.out.cl R (by omega) (j) (by omega)
            have lb : ∀ n os, (grow (wr.drewN n) os).cell? ⟨blk, off + jN, none⟩ = some (.int .i64 (f y)) := by rw [hjN, hy]; exact S1.out.cl R (by omega) (j - 1) (by omega)
            have hc := S1.out.cmp HC.out (by omega) x y
            have hv : ¬ cf x y < 0 := by rw [hx, hy]; exact of_decide_eq_false hlv
            have hd : decide (cf x y < 0) = false := decide_eq_false hv
            clear hx hy hiN hjN
            go_wp2_with fail
            go_quiet_grown (first | (go_at_fn g; refine Calls.grown_of (hc _ _)))
            have S2 : Aside (SW (E f) w0 blk off dj (grow (wr.drewN nq) osq)) := S1.out.grown nq osq
            clear la lb hc S1
            generalize grow (wr.drewN nq) osq = w3 at S2 ⊢
            clear nq osq
            clear ea ec
            have HX : Hid (insOuter (ltOf cf) a b (i + 1) dj = insOuter (ltOf cf) a b (a + 1) d) := (show Hid _ from by rw [← HO.out, insOuter_pos _ _ _ _ _ hlt, ← HI.out, insInner_neg _ _ _ _ (fun _ => hlv)]; exact rfl)
            clear HO HI
            go_wp2
            go_roundg (b - (i + 1))
            case measure => omega
            case rel => exact ⟨i + 1, dj, by go_num, by omega, by omega, by omega, hsj, S2, HX⟩
        · have g1 : ¬ (a : Int) < (j : Int) := by omega
          have g3 : decide ((j : Int) > (a : Int)) = false := decide_eq_false (by omega)
          have HX : Hid (insOuter (ltOf cf) a b (i + 1) dj = insOuter (ltOf cf) a b (a + 1) d) := (show Hid _ from by rw [← HO.out, insOuter_pos _ _ _ _ _ hlt, ← HI.out, insInner_neg _ _ _ _ (fun h => absurd h hja)]; exact rfl)
          clear HO HI
          go_wp2_with fail
          go_big_region
          have S2 : Aside (SW (E f) w0 blk off dj wr.drew) := S1.out.drew
          clear S1
          generalize wr.drew = w3 at S2 ⊢
          go_wp2
          go_roundg (b - (i + 1))
          case measure => omega
          case rel => exact ⟨i + 1, dj, by go_num, by omega, by omega, by omega, hsj, S2, HX⟩
    · go_wp2
      go_end0
      refine ⟨rfl, ?_⟩
      unfold insertionSort
      rw [← HO.out, insOuter, if_neg hlt]
      exact S1.out
end Go.Proofs.Ytnldnaogbadajaa.Sw

/- Go's stable sort of ints, walked: the whole. -/
set_option linter.unusedVariables false
namespace Go.Proofs.Ytnldnaogbadajaa.Sw
open Go.Shelf Go.RowKit Go.Lib Go.Sort Go.Proofs.Ytnldnaogbadajaa.St
variable {α : Type} [Inhabited α]

theorem symMerge_s (f : α → Int) (cf : α → α → Int) (g : Nat) (cb : Array Value) (blk off cap : Nat) (d0 : Array α) (w0 : World)
    (eg : ∀ args w, (callFunc g args).run Try.prog w = .ok (.enter g args) w) (hcmp : CmpLays1 Try.prog g cb (E f) cf blk off d0.size w0) (R : Row1 (E f) w0 blk off d0) : ∀ (k a m b : Nat) (d : Array α) (w : World), d0.size = d.size → SW (E f) w0 blk off d w → a < m → m < b → b ≤ d.size → b - a ≤ k → d.size < 4611686018427387904 →
    Calls Try.prog 102 #[.slice (some ⟨blk, off, none⟩) d.size cap, .int .i64 a, .int .i64 m, .int .i64 b, .func (.func g) #[] cb] w fun e w' => e = .returned (.tuple #[]) ∧ SW (E f) w0 blk off (symM (ltOf cf) k a m b d) w' := by
  intro k
  induction k with
  | zero => intro a m b d w _ _ h1 h2 _ h; omega
  | succ k ih =>
    intro a m b d w hs S h1 h2 h3 h4 hsz
    by_cases c1 : m ≤ a + 1
    · exact symMergeA f cf g cb blk off cap a m b k d0 d w0 w eg hcmp R hs S h1 h2 h3 hsz c1
    · by_cases c2 : b ≤ m + 1
      · exact symMergeB f cf g cb blk off cap a m b k d0 d w0 w eg hcmp R hs S h1 h2 h3 hsz c1 c2
      · refine symMergeC f cf g cb blk off cap a m b k d0 d w0 w eg hcmp R hs S h1 h2 h3 hsz c1 c2 ?_
        intro a' m' b' d' w' hz S' x1 x2 x3 x4
        exact ih a' m' b' d' w' (by omega) S' x1 x2 x3 (by omega) (by omega)

theorem mergeAll_pos (lt : α → α → Bool) (n k s : Nat) (d : Array α) (h : s < n) : mergeAll lt n (k + 1) s d = mergeAll lt n k (2 * s) (mergePass lt s n (n + 1) 0 d) := by rw [mergeAll, if_pos h]
theorem mergeAll_neg (lt : α → α → Bool) (n k s : Nat) (d : Array α) (h : ¬ s < n) : mergeAll lt n k s d = d := by
  cases k with
  | zero => rfl
  | succ k => rw [mergeAll, if_neg h]
theorem mergePass_pos (lt : α → α → Bool) (s n k a : Nat) (d : Array α) (h : a + 2 * s ≤ n) : mergePass lt s n (k + 1) a d = mergePass lt s n k (a + 2 * s) (symM lt (2 * s) a (a + s) (a + 2 * s) d) := by rw [mergePass, if_pos h]
theorem mergePass_one (lt : α → α → Bool) (s n k a : Nat) (d : Array α) (h : ¬ a + 2 * s ≤ n) (h2 : a + s < n) : mergePass lt s n (k + 1) a d = symM lt (n - a) a (a + s) n d := by rw [mergePass, if_neg h, if_pos h2]
theorem mergePass_none (lt : α → α → Bool) (s n k a : Nat) (d : Array α) (h : ¬ a + 2 * s ≤ n) (h2 : ¬ a + s < n) : mergePass lt s n (k + 1) a d = d := by rw [mergePass, if_neg h, if_neg h2]

set_option maxHeartbeats 16000000 in
set_option maxRecDepth 1000000 in
theorem stable_s (f : α → Int) (cf : α → α → Int) (g : Nat) (cb : Array Value) (blk off cap : Nat) (d0 : Array α) (w0 : World)
    (eg : ∀ args w, (callFunc g args).run Try.prog w = .ok (.enter g args) w) (hcmp : CmpLays1 Try.prog g cb (E f) cf blk off d0.size w0) (R : Row1 (E f) w0 blk off d0) (d : Array α) (w : World) (hs : d0.size = d.size) (S : SW (E f) w0 blk off d w) (hsz : d.size ≤ 1000000) :
    Calls Try.prog 98 #[.slice (some ⟨blk, off, none⟩) d.size cap, .int .i64 d.size, .func (.func g) #[] cb] w fun e w' => e = .returned (.tuple #[]) ∧ SW (E f) w0 blk off (stable (ltOf cf) d) w' := by
  have HC := Lib.hid hcmp
  have S0 : Aside (SW (E f) w0 blk off d w) := S
  obtain ⟨n, hn⟩ : ∃ z, z = d.size := ⟨_, rfl⟩
  rw [← hn] at hsz ⊢
  have HN := Lib.hid hn
  clear S hcmp hn
  go_enter Try.func98, Try.ntmps98
  go_wp2
  go_loopg [7, 8] n (fun kx s t wr => ∃ (a : Nat) (dk : Array α), s = .int .i64 a ∧ t = .int .i64 (a + 20) ∧ a ≤ n ∧ n - a ≤ kx ∧ Hid (dk.size = n) ∧ Aside (SW (E f) w0 blk off dk wr) ∧ Hid (insBlocks (ltOf cf) n a dk = insBlocks (ltOf cf) n 0 d))
  case atStart => exact ⟨0, d, rfl, rfl, by omega, by omega, HN.out.symm, S0, rfl⟩
  case round =>
    clear S0
    obtain ⟨a, dk, rfl, rfl, han, hkx, hds, S1, HO⟩ := hrel
    by_cases hlt : a + 20 ≤ n
    · have hlt' : (a : Int) + 20 ≤ (n : Int) := by omega
      go_wp2_with fail
      have C := insertion_s f cf g cb blk off cap a (a + 20) d0 dk w0 wr eg HC.out R (by rw [hs, ← HN.out, hds.out]) S1.out (by omega) (by rw [hds.out]; exact hlt) (by rw [hds.out]; omega)
      rw [hds.out, show ((a + 20 : Nat) : Int) = (a : Int) + 20 by omega] at C
      refine C.mono ?_
      rintro e w' ⟨rfl, S2⟩
      have S3 : Aside (SW (E f) w0 blk off (insertionSort (ltOf cf) dk a (a + 20)) w') := S2
      clear S2 C S1
      go_wp2
      go_roundg (n - (a + 20))
      case measure => omega
      case rel => exact ⟨a + 20, _, by go_num, by go_num, by omega, by omega, (show Hid _ from by rw [size_insertionSort]; exact hds.out), S3, (show Hid _ from by rw [← HO.out, insBlocks_pos _ _ _ _ hlt]; exact rfl)⟩
    · have hlt' : ¬ (a : Int) + 20 ≤ (n : Int) := by omega
      go_wp2_with fail
      have C := insertion_s f cf g cb blk off cap a n d0 dk w0 wr eg HC.out R (by rw [hs, ← HN.out, hds.out]) S1.out (by omega) (by rw [hds.out]; exact Nat.le_refl _) (by rw [hds.out]; omega)
      rw [hds.out] at C
      refine C.mono ?_
      rintro e w' ⟨rfl, S2⟩
      have hfin : insertionSort (ltOf cf) dk a n = insBlocks (ltOf cf) n 0 d := by rw [← HO.out, insBlocks, if_neg hlt]
      have hz := size_insertionSort (ltOf cf) a n dk
      rw [hfin] at S2 hz
      obtain ⟨d1, hd1⟩ : ∃ z, z = insBlocks (ltOf cf) n 0 d := ⟨_, rfl⟩
      rw [← hd1] at S2 hz
      have S3 : Aside (SW (E f) w0 blk off d1 w') := S2
      have HZ : Hid (d1.size = n) := hz.trans hds.out
      have HD : Hid (mergeAll (ltOf cf) n n 20 d1 = stable (ltOf cf) d) := (show Hid _ from by unfold stable; rw [← HN.out, hd1]; exact rfl)
      clear S2 C S1 hfin hz hd1 hds HO
      go_wp2
      go_loopg [6] n (fun kx s wr => ∃ (z k : Nat) (dk : Array α), s = .int .i64 z ∧ 0 < z ∧ z ≤ 2 * n + 20 ∧ n ≤ k + z ∧ k ≤ kx ∧ Hid (dk.size = n) ∧ Aside (SW (E f) w0 blk off dk wr) ∧ Hid (mergeAll (ltOf cf) n k z dk = stable (ltOf cf) d))
      case atStart => exact ⟨20, n, d1, rfl, by omega, by omega, by omega, Nat.le_refl _, HZ, S3, HD⟩
      case round =>
        clear S3 HZ HD
        obtain ⟨z, k, dk, rfl, hz0, hzn, hnk, hkx, hds, S1, HO⟩ := hrel
        by_cases hlt : z < n
        · obtain ⟨k, rfl⟩ : ∃ q, k = q + 1 := ⟨k - 1, by omega⟩
          go_wp2
          go_loopg [7, 8] n (fun kx s t wr => ∃ (a fk : Nat) (dj : Array α), s = .int .i64 a ∧ t = .int .i64 (a + 2 * z) ∧ a ≤ n ∧ n + 1 ≤ fk + a ∧ n - a ≤ kx ∧ Hid (dj.size = n) ∧ Aside (SW (E f) w0 blk off dj wr) ∧ Hid (mergePass (ltOf cf) z n fk a dj = mergePass (ltOf cf) z n (n + 1) 0 dk))
          case atStart => exact ⟨0, n + 1, dk, rfl, by go_num, by omega, by omega, by omega, hds, S1, rfl⟩
          case round =>
            clear S1
            have HDK := hds
            clear hds
            obtain ⟨a, fk, dj, rfl, rfl, han, hfk, hka, hds, S1, HI⟩ := hrel
            obtain ⟨fk, rfl⟩ : ∃ q, fk = q + 1 := ⟨fk - 1, by omega⟩
            by_cases hl2 : a + 2 * z ≤ n
            · have hl2' : (a : Int) + 2 * (z : Int) ≤ (n : Int) := by omega
              go_wp2_with fail
              have C := symMerge_s f cf g cb blk off cap d0 w0 eg HC.out R (2 * z) a (a + z) (a + 2 * z) dj wr (by rw [hs, ← HN.out, hds.out]) S1.out (by omega) (by omega) (by rw [hds.out]; exact hl2) (by omega) (by rw [hds.out]; omega)
              rw [hds.out, show ((a + z : Nat) : Int) = (a : Int) + z by omega, show ((a + 2 * z : Nat) : Int) = (a : Int) + 2 * z by omega] at C
              refine C.mono ?_
              rintro e w' ⟨rfl, S2⟩
              have S3 : Aside (SW (E f) w0 blk off (symM (ltOf cf) (2 * z) a (a + z) (a + 2 * z) dj) w') := S2
              clear S2 C S1
              go_wp2
              go_roundg (n - (a + 2 * z))
              case measure => omega
              case rel => exact ⟨a + 2 * z, fk, _, by go_num, by go_num, by omega, by omega, by omega, (show Hid _ from by rw [size_symM _ _ _ _ _ _ (by omega) (by omega) (by rw [hds.out]; exact hl2)]; exact hds.out), S3, (show Hid _ from by rw [← HI.out, mergePass_pos _ _ _ _ _ _ hl2]; exact rfl)⟩
            · have hl2' : ¬ (a : Int) + 2 * (z : Int) ≤ (n : Int) := by omega
              by_cases hl3 : a + z < n
              · have hl3' : (a : Int) + (z : Int) < (n : Int) := by omega
                go_wp2_with fail
                have C := symMerge_s f cf g cb blk off cap d0 w0 eg HC.out R (n - a) a (a + z) n dj wr (by rw [hs, ← HN.out, hds.out]) S1.out (by omega) (by omega) (by rw [hds.out]; exact Nat.le_refl _) (Nat.le_refl _) (by rw [hds.out]; omega)
                rw [hds.out, show ((a + z : Nat) : Int) = (a : Int) + z by omega] at C
                refine C.mono ?_
                rintro e w' ⟨rfl, S2⟩
                have S3 : Aside (SW (E f) w0 blk off (symM (ltOf cf) (n - a) a (a + z) n dj) w') := S2
                clear S2 C S1
                go_wp2
                go_roundg k
                case measure => omega
                case rel => exact ⟨2 * z, k, _, by go_num, by omega, by omega, by omega, Nat.le_refl _, (show Hid _ from by rw [size_symM _ _ _ _ _ _ (by omega) (by omega) (by rw [hds.out]; exact Nat.le_refl _)]; exact hds.out), S3, (show Hid _ from by rw [← HO.out, mergeAll_pos _ _ _ _ _ hlt, ← HI.out, mergePass_one _ _ _ _ _ _ hl2 hl3]; exact rfl)⟩
              · have hl3' : ¬ (a : Int) + (z : Int) < (n : Int) := by omega
                go_wp2
                go_roundg k
                case measure => omega
                case rel => exact ⟨2 * z, k, dj, by go_num, by omega, by omega, by omega, Nat.le_refl _, hds, S1, (show Hid _ from by rw [← HO.out, mergeAll_pos _ _ _ _ _ hlt, ← HI.out, mergePass_none _ _ _ _ _ _ hl2 hl3]; exact rfl)⟩
        · go_wp2
          go_end0
          refine ⟨rfl, ?_⟩
          rw [← HO.out, mergeAll_neg _ _ _ _ _ hlt]
          exact S1.out

set_option maxHeartbeats 4000000 in
/-- slices.SortStableFunc at []int: the row holds the stable sorted list. -/
theorem sortStable_s (f : α → Int) (cf : α → α → Int) (g : Nat) (cb : Array Value) (blk off cap : Nat) (d0 : Array α) (w0 : World)
    (eg : ∀ args w, (callFunc g args).run Try.prog w = .ok (.enter g args) w) (hcmp : CmpLays1 Try.prog g cb (E f) cf blk off d0.size w0) (R : Row1 (E f) w0 blk off d0) (n : Nat) (w : World) (hn : d0.size = n) (S : SW (E f) w0 blk off d0 w) (hsz : n ≤ 1000000) :
    Calls Try.prog 92 #[.slice (some ⟨blk, off, none⟩) n cap, .func (.func g) #[] cb] w fun e w' => e = .returned (.tuple #[]) ∧ SW (E f) w0 blk off (stable (ltOf cf) d0) w' := by
  subst hn
  have C := stable_s f cf g cb blk off cap d0 w0 eg hcmp R d0 w rfl S hsz
  have HC := Lib.hid C
  clear C S hcmp
  go_enter Try.func92, Try.ntmps92
  go_wp2_with fail
  refine HC.out.mono ?_
  rintro e w' ⟨rfl, S2⟩
  have S3 := Lib.hid S2
  clear S2 HC
  go_wp2
  go_end0
  exact ⟨rfl, S3.out⟩
end Go.Proofs.Ytnldnaogbadajaa.Sw
