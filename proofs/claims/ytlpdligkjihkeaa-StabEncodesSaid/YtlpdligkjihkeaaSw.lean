/- Go's stable sort of ints, walked: swapRange, rotate. -/
import Derived.Test.YtlpdligkjihkeaaProg
import Derived.Test.YtlpdligkjihkeaaSu
import Derived.Shelf.SlSortCmp.Kit1
import Derived.Sort.WalkA
import Derived.Sort.WalkB2
import Derived.Sort.WalkB12
import Derived.Deep.LoopGhost
import Derived.BigRegion
import Derived.BigQuiet
import Derived.WalkKit
namespace Go.Proofs.Ytlpdligkjihkeaa.Sw
open Go.Shelf Go.RowKit Go.Lib Go.Sort Go.Proofs.Ytlpdligkjihkeaa.St

variable {α : Type} [Inhabited α]
abbrev E (f : α → Int) (x : α) : Value := .int .i64 (f x)
omit [Inhabited α] in
theorem oneE (f : α → Int) : OneCell (E f) := fun _ => rfl

set_option maxHeartbeats 4000000 in
set_option maxRecDepth 1000000 in
theorem swapRange_s (f : α → Int) (F : Value) (blk off cap a b n : Nat) (d0 d : Array α) (w0 w : World) (R : Row1 (E f) w0 blk off d0) (hs : d0.size = d.size) (S : SW (E f) w0 blk off d w)
    (h1 : a + n ≤ d.size) (h2 : b + n ≤ d.size) (hsz : d.size < 4611686018427387904) :
    Calls Try.prog 84 #[.slice (some ⟨blk, off, none⟩) d.size cap, .int .i64 a, .int .i64 b, .int .i64 n, F] w fun e w' => e = .returned (.tuple #[]) ∧ SW (E f) w0 blk off (swapR a b n 0 d) w' := by
  have S0 : Aside (SW (E f) w0 blk off d w) := S
  clear S
  go_enter Try.func84, Try.ntmps84
  go_wp2
  go_loopg [10] n (fun kx s wr => ∃ (i : Nat) (dk : Array α), s = .int .i64 i ∧ i ≤ n ∧ n - i ≤ kx ∧ dk.size = d.size ∧ Aside (SW (E f) w0 blk off dk wr) ∧ Hid (swapR a b n i dk = swapR a b n 0 d))
  case atStart => exact ⟨0, d, rfl, by omega, by omega, rfl, S0, rfl⟩
  case round =>
    clear S0
    obtain ⟨i, dk, rfl, hin, hkx, hds, S1, heq⟩ := hrel
    by_cases hlt : i < n
    · go_wp2_with fail
      obtain ⟨iN, hiN⟩ : ∃ q, q = a + i := ⟨_, rfl⟩
      obtain ⟨jN, hjN⟩ : ∃ q, q = b + i := ⟨_, rfl⟩
      have ea : ((a : Int) + (i : Int)).toNat = iN := by omega
      have pa : (0 : Int) ≤ (a : Int) + (i : Int) := by omega
      have ba : (a : Int) + (i : Int) < (d.size : Int) := by omega
      have ra : IntKind.i64.wrap ((a : Int) + (i : Int)) = (a : Int) + (i : Int) := by rw [IntKind.wrap_i64]; omega
      have ec : ((b : Int) + (i : Int)).toNat = jN := by omega
      have pc : (0 : Int) ≤ (b : Int) + (i : Int) := by omega
      have bc : (b : Int) + (i : Int) < (d.size : Int) := by omega
      have rc : IntKind.i64.wrap ((b : Int) + (i : Int)) = (b : Int) + (i : Int) := by rw [IntKind.wrap_i64]; omega
      obtain ⟨x, hx⟩ : ∃ x, x = dk[a + i]! := ⟨_, rfl⟩
      obtain ⟨y, hy⟩ : ∃ x, x = dk[b + i]! := ⟨_, rfl⟩
      have S2 : Aside (SW (E f) w0 blk off (swp dk (a + i) (b + i)) ((wr.setCell ⟨blk, off + iN, none⟩ (.int .i64 (f y))).setCell ⟨blk, off + jN, none⟩ (.int .i64 (f x))).drew) := by rw [hiN, hjN, hx, hy]; exact S1.out.swapped R (a + i) (b + i) (by omega) (by omega)
      have c1 := S1.out.c1 R (by omega) (a + i) (by omega)
      have c2 := S1.out.c1 R (by omega) (b + i) (by omega)
      have f1 := S1.out.f1 R (by omega) (a + i) (by omega)
      have f2 := S1.out.f1 R (by omega) (b + i) (by omega)
      obtain ⟨u, c3⟩ := S1.out.c2 R (by omega) (a + i) (b + i) (by omega) (by omega) (E f y)
      rw [← hjN, ← hiN] at c3
      rw [← hx, ← hiN] at c1
      rw [← hy, ← hjN] at c2
      rw [← hiN] at f1
      rw [← hjN] at f2
      clear S1 hx hy hiN hjN
      go_big_region
      clear c1 c2 c3 f1 f2
      generalize ((wr.setCell ⟨blk, off + iN, none⟩ (.int .i64 (f y))).setCell ⟨blk, off + jN, none⟩ (.int .i64 (f x))).drew = w2 at S2 ⊢
      clear ea ec
      go_wp2
      go_roundg (n - (i + 1))
      case measure => omega
      case rel => exact ⟨i + 1, swp dk (a + i) (b + i), by go_num, by omega, by omega, by rw [size_swp]; exact hds, S2, (show Hid _ from by rw [← heq.out, swapR_pos _ _ _ _ _ hlt]; exact rfl)⟩
    · go_wp2
      go_end0
      refine ⟨rfl, ?_⟩
      rw [← heq.out, swapR, if_neg hlt]
      exact S1.out

theorem rotL_stop (m k i : Nat) (d : Array α) : rotL m (k + 1) i i d = swapR (m - i) m i 0 d := by unfold rotL; rw [if_pos rfl]
theorem rotL_gt (m k i j : Nat) (d : Array α) (h : i > j) : rotL m (k + 1) i j d = rotL m k (i - j) j (swapR (m - i) m j 0 d) := by conv => lhs; unfold rotL; rw [if_neg (by omega), if_pos h]
theorem rotL_lt (m k i j : Nat) (d : Array α) (h : i < j) : rotL m (k + 1) i j d = rotL m k i (j - i) (swapR (m - i) (m + j - i) i 0 d) := by conv => lhs; unfold rotL; rw [if_neg (by omega), if_neg (by omega)]
theorem rotL_fuel (m : Nat) : ∀ (k k' i j : Nat) (d : Array α), 0 < i → 0 < j → i + j ≤ k → i + j ≤ k' → rotL m k i j d = rotL m k' i j d := by
  intro k
  induction k with
  | zero => intro k' i j d h1 h2 h3; omega
  | succ k ih =>
    intro k' i j d h1 h2 h3 h4
    obtain ⟨k'', rfl⟩ : ∃ q, k' = q + 1 := ⟨k' - 1, by omega⟩
    rcases Nat.lt_trichotomy i j with h | h | h
    · rw [rotL_lt _ _ _ _ _ h, rotL_lt _ _ _ _ _ h]; exact ih _ _ _ _ (by omega) (by omega) (by omega) (by omega)
    · subst h; rw [rotL_stop, rotL_stop]
    · rw [rotL_gt _ _ _ _ _ h, rotL_gt _ _ _ _ _ h]; exact ih _ _ _ _ (by omega) (by omega) (by omega) (by omega)

set_option maxHeartbeats 4000000 in
set_option maxRecDepth 1000000 in
theorem rotate_s (f : α → Int) (F : Value) (blk off cap a m b : Nat) (d0 d : Array α) (w0 w : World) (R : Row1 (E f) w0 blk off d0) (hs : d0.size = d.size) (S : SW (E f) w0 blk off d w)
    (h1 : a < m) (h2 : m < b) (h3 : b ≤ d.size) (hsz : d.size < 4611686018427387904) :
    Calls Try.prog 78 #[.slice (some ⟨blk, off, none⟩) d.size cap, .int .i64 a, .int .i64 m, .int .i64 b, F] w fun e w' => e = .returned (.tuple #[]) ∧ SW (E f) w0 blk off (rotate a m b d) w' := by
  have S0 : Aside (SW (E f) w0 blk off d w) := S
  clear S
  go_enter Try.func78, Try.ntmps78
  go_wp2
  go_loopg [10, 11] (b - a) (fun kx s t wr => ∃ (i j : Nat) (dk : Array α), s = .int .i64 i ∧ t = .int .i64 j ∧ 0 < i ∧ 0 < j ∧ i ≤ m - a ∧ j ≤ b - m ∧ i + j ≤ kx ∧ dk.size = d.size ∧ Aside (SW (E f) w0 blk off dk wr) ∧ Hid (rotL m (b - a) i j dk = rotate a m b d))
  case atStart => exact ⟨m - a, b - m, d, by go_num, by go_num, by omega, by omega, by omega, by omega, by omega, rfl, S0, rfl⟩
  case round =>
    clear S0
    obtain ⟨i, j, dk, rfl, rfl, hi, hj, him, hjb, hkx, hds, S1, heq⟩ := hrel
    rcases Nat.lt_trichotomy i j with hlt | hE | hlt
    · have q1 : ((i : Int) != (j : Int)) = true := by rw [bne_iff_ne]; omega
      have q2 : ¬ (j : Int) < (i : Int) := by omega
      go_wp2_with fail
      have C := swapRange_s f F blk off cap (m - i) (m + j - i) i d0 dk w0 wr R (by omega) S1.out (by omega) (by omega) (by omega)
      rw [show ((m - i : Nat) : Int) = (m : Int) - i by omega, show ((m + j - i : Nat) : Int) = (m : Int) + j - i by omega, hds] at C
      refine C.mono ?_
      rintro e w' ⟨rfl, S2⟩
      have S3 : Aside (SW (E f) w0 blk off (swapR (m - i) (m + j - i) i 0 dk) w') := S2
      clear S2 C S1
      go_wp2
      go_roundg (i + (j - i))
      case measure => omega
      case rel => exact ⟨i, j - i, _, rfl, by go_num, hi, by omega, by omega, by omega, by omega, by rw [size_swapR _ _ _ i 0 dk (by omega)]; exact hds, S3, (show Hid _ from by
        obtain ⟨q, hq⟩ : ∃ q, b - a = q + 1 := ⟨b - a - 1, by omega⟩
        rw [← heq.out, hq, rotL_lt _ _ _ _ _ hlt]
        exact rotL_fuel _ _ _ _ _ _ hi (by omega) (by omega) (by omega))⟩
    · subst hE
      have q1 : ((i : Int) != (i : Int)) = false := by simp
      go_wp2_with fail
      have C := swapRange_s f F blk off cap (m - i) m i d0 dk w0 wr R (by omega) S1.out (by omega) (by omega) (by omega)
      rw [show ((m - i : Nat) : Int) = (m : Int) - i by omega, hds] at C
      refine C.mono ?_
      rintro e w' ⟨rfl, S2⟩
      have S3 : Aside (SW (E f) w0 blk off (swapR (m - i) m i 0 dk) w') := S2
      clear S2 C S1
      go_wp2
      go_end0
      refine ⟨rfl, ?_⟩
      obtain ⟨q, hq⟩ : ∃ q, b - a = q + 1 := ⟨b - a - 1, by omega⟩
      rw [← heq.out, hq, rotL_stop]
      exact S3.out
    · have q1 : ((i : Int) != (j : Int)) = true := by rw [bne_iff_ne]; omega
      have q2 : (j : Int) < (i : Int) := by omega
      go_wp2_with fail
      have C := swapRange_s f F blk off cap (m - i) m j d0 dk w0 wr R (by omega) S1.out (by omega) (by omega) (by omega)
      rw [show ((m - i : Nat) : Int) = (m : Int) - i by omega, hds] at C
      refine C.mono ?_
      rintro e w' ⟨rfl, S2⟩
      have S3 : Aside (SW (E f) w0 blk off (swapR (m - i) m j 0 dk) w') := S2
      clear S2 C S1
      go_wp2
      go_roundg (i - j + j)
      case measure => omega
      case rel => exact ⟨i - j, j, _, by go_num, rfl, by omega, hj, by omega, by omega, by omega, by rw [size_swapR _ _ _ j 0 dk (by omega)]; exact hds, S3, (show Hid _ from by
        obtain ⟨q, hq⟩ : ∃ q, b - a = q + 1 := ⟨b - a - 1, by omega⟩
        rw [← heq.out, hq, rotL_gt _ _ _ _ _ hlt]
        exact rotL_fuel _ _ _ _ _ _ (by omega) hj (by omega) (by omega))⟩
end Go.Proofs.Ytlpdligkjihkeaa.Sw
