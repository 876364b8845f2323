/- Go's stable sort of ints, walked: symMerge, the general case, and the whole. -/
import Derived.Test.YtlpdligkjihkeaaSx
import Derived.Lib.Hide
import Derived.Deep.DeepCutAuto
import Derived.Deep.CutBlock
set_option linter.unusedVariables false
namespace Go.Proofs.Ytlpdligkjihkeaa.Sw
open Go.Shelf Go.RowKit Go.Lib Go.Sort Go.Proofs.Ytlpdligkjihkeaa.St
variable {α : Type} [Inhabited α]

theorem symM_C (lt : α → α → Bool) (k a m b mid st : Nat) (d d1 d2 : Array α) (h : ¬ m - a = 1) (h2 : ¬ b - m = 1) (hm : mid = (a + b) / 2)
    (hst : st = bs (fun c => !lt d[mid + m - 1 - c]! d[c]!) (if m > mid then mid + m - b else a) (if m > mid then mid else m))
    (hd1 : d1 = if st < m ∧ m < mid + m - st then rotate st m (mid + m - st) d else d) (hd2 : d2 = if a < st ∧ st < mid then symM lt k a st mid d1 else d1) :
    symM lt (k + 1) a m b d = if mid < mid + m - st ∧ mid + m - st < b then symM lt k mid (mid + m - st) b d2 else d2 := by
  subst hm hst hd1 hd2
  conv => lhs; unfold symM
  rw [if_neg h, if_neg h2]

set_option maxHeartbeats 16000000 in
set_option maxRecDepth 1000000 in
theorem symMergeC (f : α → Int) (cf : α → α → Int) (g : Nat) (cb : Array Value) (blk off cap a m b k : Nat) (d0 d : Array α) (w0 w : World)
    (eg : ∀ args w, (callFunc g args).run Try.prog w = .ok (.enter g args) w) (hcmp : CmpLays1 Try.prog g cb (E f) cf blk off d0.size w0) (R : Row1 (E f) w0 blk off d0) (hs : d0.size = d.size) (S : SW (E f) w0 blk off d w)
    (h1 : a < m) (h2 : m < b) (h3 : b ≤ d.size) (hsz : d.size < 4611686018427387904) (h4 : ¬ m ≤ a + 1) (h5 : ¬ b ≤ m + 1)
    (ih : ∀ (a' m' b' : Nat) (d' : Array α) (w' : World), d'.size = d.size → SW (E f) w0 blk off d' w' → a' < m' → m' < b' → b' ≤ d'.size → b' - a' < b - a → Calls Try.prog 66 #[.slice (some ⟨blk, off, none⟩) d'.size cap, .int .i64 a', .int .i64 m', .int .i64 b', .func (.func g) #[] cb] w' fun e w'' => e = .returned (.tuple #[]) ∧ SW (E f) w0 blk off (symM (ltOf cf) k a' m' b' d') w'') :
    Calls Try.prog 66 #[.slice (some ⟨blk, off, none⟩) d.size cap, .int .i64 a, .int .i64 m, .int .i64 b, .func (.func g) #[] cb] w fun e w' => e = .returned (.tuple #[]) ∧ SW (E f) w0 blk off (symM (ltOf cf) (k + 1) a m b d) w' := by
  have mixed : Try.prog.follows .mixedOrders = true := by kernel_rfl
  have HC : Aside _ := hcmp
  have S0 : Aside (SW (E f) w0 blk off d w) := S
  have IH := Lib.hid ih
  clear S hcmp ih
  obtain ⟨mid, hmid⟩ : ∃ z, z = (a + b) / 2 := ⟨_, rfl⟩
  have m1 : 2 * mid ≤ a + b := by omega
  have m2 : a + b < 2 * mid + 2 := by omega
  have HM := Lib.hid hmid
  clear hmid
  have q0 : ((m : Int) - (a : Int) == 1) = false := by rw [beq_eq_false_iff_ne]; omega
  have q1 : ((b : Int) - (m : Int) == 1) = false := by rw [beq_eq_false_iff_ne]; omega
  have em : ((a : Int) + (b : Int)) / 2 = (mid : Int) := by omega
  have hlohi : ∃ lo hi : Nat, lo = (if m > mid then mid + m - b else a) ∧ hi = (if m > mid then mid else m) := ⟨_, _, rfl, rfl⟩
  obtain ⟨lo, hi, hlo, hhi⟩ := hlohi
  have b1 : a ≤ lo ∧ lo ≤ hi ∧ hi ≤ m ∧ hi ≤ mid ∧ mid + m ≤ lo + b := by subst hlo hhi; split <;> omega
  obtain ⟨b1, b2, b3, b4, b5⟩ := b1
  have HL := Lib.hid hlo
  have HH := Lib.hid hhi
  clear hlo hhi
  go_enter Try.func66, Try.ntmps66
  go_upto_if 140 with (fail)
  go_cut [20, 21] (fun s t wx => s = .int .i64 lo ∧ t = .int .i64 hi ∧ Aside (SW (E f) w0 blk off d wx))
  case first => as_aux_lemma =>
    have hlo := HL.out
    have hhi := HH.out
    by_cases hmm : m > mid
    · rw [if_pos hmm] at hlo hhi
      have e1 : (mid : Int) + (m : Int) - (b : Int) = (lo : Int) := by omega
      have e2 : mid = hi := hhi.symm
      clear hlo hhi HL HH HM em
      subst e2
      go_wp2
      go_meet
      case rel => exact ⟨rfl, rfl, S0⟩
    · rw [if_neg hmm] at hlo hhi
      subst hlo hhi
      clear HL HH HM em
      go_wp2
      go_meet
      case rel => exact ⟨rfl, rfl, S0⟩
  case rest => as_aux_lemma =>
    clear S0
    obtain ⟨rfl, rfl, S0⟩ := hcut
    go_wp2
    go_loopg [20, 21] (hi - lo) (fun kx s t wr => ∃ (i j : Nat), s = .int .i64 i ∧ t = .int .i64 j ∧ lo ≤ i ∧ i ≤ j ∧ j ≤ hi ∧ j - i ≤ kx ∧ Aside (SW (E f) w0 blk off d wr) ∧ Hid (bs (fun c => !ltOf cf d[mid + m - 1 - c]! d[c]!) i j = bs (fun c => !ltOf cf d[mid + m - 1 - c]! d[c]!) lo hi))
    case atStart => exact ⟨lo, hi, rfl, rfl, by omega, by omega, by omega, by omega, S0, rfl⟩
    case round =>
      clear S0
      obtain ⟨i, j, rfl, rfl, hmi, hij, hjb, hkx, S1, heq⟩ := hrel
      by_cases hlt : i < j
      · cases hlv : ltOf cf d[mid + m - 1 - (i + j) / 2]! d[(i + j) / 2]! with
        | true => as_aux_lemma =>
          have pa1 : ((i : Int) + (j : Int)) / 2 ≤ (mid : Int) + (m : Int) - 1 := by omega
          obtain ⟨iN, hiN⟩ : ∃ z, z = mid + m - 1 - (i + j) / 2 := ⟨_, rfl⟩
          obtain ⟨jN, hjN⟩ : ∃ z, z = (i + j) / 2 := ⟨_, rfl⟩
          have ea : ((mid : Int) + (m : Int) - 1 - ((i : Int) + (j : Int)) / 2).toNat = iN := by omega
          have pa : (0 : Int) ≤ (mid : Int) + (m : Int) - 1 - ((i : Int) + (j : Int)) / 2 := by omega
          have ba : (mid : Int) + (m : Int) - 1 - ((i : Int) + (j : Int)) / 2 < (d.size : Int) := by omega
          have ra : IntKind.i64.wrap ((mid : Int) + (m : Int) - 1 - ((i : Int) + (j : Int)) / 2) = (mid : Int) + (m : Int) - 1 - ((i : Int) + (j : Int)) / 2 := by rw [IntKind.wrap_i64]; omega
          have ec : (((i : Int) + (j : Int)) / 2).toNat = jN := by omega
          have pc : (0 : Int) ≤ ((i : Int) + (j : Int)) / 2 := by omega
          have bc : ((i : Int) + (j : Int)) / 2 < (d.size : Int) := by omega
          have rc : IntKind.i64.wrap (((i : Int) + (j : Int)) / 2) = ((i : Int) + (j : Int)) / 2 := by rw [IntKind.wrap_i64]; omega
          obtain ⟨x, hx⟩ : ∃ x, x = d[mid + m - 1 - (i + j) / 2]! := ⟨_, rfl⟩
          obtain ⟨y, hy⟩ : ∃ x, x = d[(i + j) / 2]! := ⟨_, rfl⟩
          have la : ∀ n os, (grow (wr.drewN n) os).cell? ⟨blk, off + iN, none⟩ = some (.int .i64 (f x)) := by rw [hiN, hx]; exact S1.out.cl R (by omega) (mid + m - 1 - (i + j) / 2) (by omega)
          have lb : ∀ n os, (grow (wr.drewN n) os).cell? ⟨blk, off + jN, none⟩ = some (.int .i64 (f y)) := by rw [hjN, hy]; exact S1.out.cl R (by omega) ((i + j) / 2) (by omega)
          have hc := S1.out.cmp HC.out (by omega) x y
          have hv : cf x y < 0 := by rw [hx, hy]; exact of_decide_eq_true hlv
          have hd : decide (cf x y < 0) = true := decide_eq_true hv
          clear hx hy hiN hjN
          go_wp2_with fail
          go_quiet_grown (first | (go_at_fn g; refine Calls.grown_of (hc _ _)))
          have S2 : Aside (SW (E f) w0 blk off d (grow (wr.drewN nq) osq)) := S1.out.grown nq osq
          clear la lb hc S1
          generalize grow (wr.drewN nq) osq = w2 at S2 ⊢
          clear nq osq
          clear ea ec
          go_wp2
          go_roundg ((i + j) / 2 - i)
          case measure => omega
          case rel => exact ⟨i, (i + j) / 2, rfl, by go_num, by omega, by omega, by omega, by omega, S2, (show Hid _ from by rw [← heq.out]; exact (bs_dn (fun c => !ltOf cf d[mid + m - 1 - c]! d[c]!) _ _ hlt (by simp [hlv])).symm)⟩
        | false => as_aux_lemma =>
          have pa1 : ((i : Int) + (j : Int)) / 2 ≤ (mid : Int) + (m : Int) - 1 := by omega
          obtain ⟨iN, hiN⟩ : ∃ z, z = mid + m - 1 - (i + j) / 2 := ⟨_, rfl⟩
          obtain ⟨jN, hjN⟩ : ∃ z, z = (i + j) / 2 := ⟨_, rfl⟩
          have ea : ((mid : Int) + (m : Int) - 1 - ((i : Int) + (j : Int)) / 2).toNat = iN := by omega
          have pa : (0 : Int) ≤ (mid : Int) + (m : Int) - 1 - ((i : Int) + (j : Int)) / 2 := by omega
          have ba : (mid : Int) + (m : Int) - 1 - ((i : Int) + (j : Int)) / 2 < (d.size : Int) := by omega
          have ra : IntKind.i64.wrap ((mid : Int) + (m : Int) - 1 - ((i : Int) + (j : Int)) / 2) = (mid : Int) + (m : Int) - 1 - ((i : Int) + (j : Int)) / 2 := by rw [IntKind.wrap_i64]; omega
          have ec : (((i : Int) + (j : Int)) / 2).toNat = jN := by omega
          have pc : (0 : Int) ≤ ((i : Int) + (j : Int)) / 2 := by omega
          have bc : ((i : Int) + (j : Int)) / 2 < (d.size : Int) := by omega
          have rc : IntKind.i64.wrap (((i : Int) + (j : Int)) / 2) = ((i : Int) + (j : Int)) / 2 := by rw [IntKind.wrap_i64]; omega
          obtain ⟨x, hx⟩ : ∃ x, x = d[mid + m - 1 - (i + j) / 2]! := ⟨_, rfl⟩
          obtain ⟨y, hy⟩ : ∃ x, x = d[(i + j) / 2]! := ⟨_, rfl⟩
          have la : ∀ n os, (grow (wr.drewN n) os).cell? ⟨blk, off + iN, none⟩ = some (.int .i64 (f x)) := by rw [hiN, hx]; exact S1.out.cl R (by omega) (mid + m - 1 - (i + j) / 2) (by omega)
          have lb : ∀ n os, (grow (wr.drewN n) os).cell? ⟨blk, off + jN, none⟩ = some (.int .i64 (f y)) := by rw [hjN, hy]; exact S1.out.cl R (by omega) ((i + j) / 2) (by omega)
          have hc := S1.out.cmp HC.out (by omega) x y
          have hv : ¬ cf x y < 0 := by rw [hx, hy]; exact of_decide_eq_false hlv
          have hd : decide (cf x y < 0) = false := decide_eq_false hv
          clear hx hy hiN hjN
          go_wp2_with fail
          go_quiet_grown (first | (go_at_fn g; refine Calls.grown_of (hc _ _)))
          have S2 : Aside (SW (E f) w0 blk off d (grow (wr.drewN nq) osq)) := S1.out.grown nq osq
          clear la lb hc S1
          generalize grow (wr.drewN nq) osq = w2 at S2 ⊢
          clear nq osq
          clear ea ec
          go_wp2
          go_roundg (j - ((i + j) / 2 + 1))
          case measure => omega
          case rel => exact ⟨(i + j) / 2 + 1, j, by go_num, rfl, by omega, by omega, by omega, by omega, S2, (show Hid _ from by rw [← heq.out]; exact (bs_up (fun c => !ltOf cf d[mid + m - 1 - c]! d[c]!) _ _ hlt (by simp [hlv])).symm)⟩
      · have hi' : i = bs (fun c => !ltOf cf d[mid + m - 1 - c]! d[c]!) lo hi := by rw [← heq.out, bs_stop _ _ _ hlt]
        have HI : Hid (i = bs (fun c => !ltOf cf d[mid + m - 1 - c]! d[c]!) lo hi) := hi'
        clear hi' heq
        have hlt' : ¬ (i : Int) < (j : Int) := by omega
        obtain ⟨d1, hd1⟩ : ∃ z, z = if i < m ∧ m < mid + m - i then rotate i m (mid + m - i) d else d := ⟨_, rfl⟩
        have z1 : d1.size = d.size := by
          subst hd1
          split
          · rename_i hc; exact (rotate_spec i m (mid + m - i) d hc.1 hc.2 (by omega)).1.size
          · rfl
        obtain ⟨d2, hd2⟩ : ∃ z, z = if a < i ∧ i < mid then symM (ltOf cf) k a i mid d1 else d1 := ⟨_, rfl⟩
        have z2 : d2.size = d.size := by
          subst hd2
          split
          · rename_i hc; exact (symM_out (ltOf cf) k a i mid d1 hc.1 hc.2 (by omega)).size.trans z1
          · exact z1
        have Z1 := Lib.hid z1
        have Z2 := Lib.hid z2
        have D1 := Lib.hid hd1
        have D2 := Lib.hid hd2
        clear z1 z2 hd1 hd2
        obtain ⟨v1, hv1⟩ : ∃ z : Bool, z = decide (i < m ∧ m < mid + m - i) := ⟨_, rfl⟩
        have V1 := Lib.hid hv1
        clear hv1
        go_upto_region 39 with (fail)
        go_cut [185] (fun s wx => s = .bool v1 ∧ Aside (SW (E f) w0 blk off d wx))
        case first => as_aux_lemma =>
          have hv1 := V1.out
          clear V1 D1 D2 Z1 Z2
          by_cases hc1 : i < m
          · by_cases hc2 : m < mid + m - i
            · have g1 : (i : Int) < (m : Int) := by omega
              have g2 : (m : Int) < (mid : Int) + (m : Int) - (i : Int) := by omega
              rw [decide_eq_true ⟨hc1, hc2⟩] at hv1
              subst hv1
              go_wp2
              go_meet
              case rel => exact ⟨rfl, S1⟩
            · have g1 : (i : Int) < (m : Int) := by omega
              have g2 : ¬ (m : Int) < (mid : Int) + (m : Int) - (i : Int) := by omega
              rw [decide_eq_false (by omega)] at hv1
              subst hv1
              go_wp2
              go_meet
              case rel => exact ⟨rfl, S1⟩
          · have g1 : ¬ (i : Int) < (m : Int) := by omega
            rw [decide_eq_false (by omega)] at hv1
            subst hv1
            go_wp2
            go_meet
            case rel => exact ⟨rfl, S1⟩
        case rest => as_aux_lemma =>
          clear S1
          obtain ⟨rfl, S1⟩ := hcut
          go_upto_if 185 with (fail)
          go_cut [20] (fun s wx => s = .int .i64 i ∧ Aside (SW (E f) w0 blk off d1 wx))
          case first => as_aux_lemma =>
            have hd1 := D1.out
            have hv1 := V1.out
            clear V1 D1 D2 Z1 Z2
            by_cases hc : i < m ∧ m < mid + m - i
            · rw [if_pos hc] at hd1
              rw [decide_eq_true hc] at hv1
              subst hd1 hv1
              have C := rotate_s f (.func (.func g) #[] cb) blk off cap i m (mid + m - i) d0 d w0 wc R hs S1.out hc.1 hc.2 (by omega) hsz
              rw [show ((mid + m - i : Nat) : Int) = (mid : Int) + (m : Int) - (i : Int) by omega] at C
              have HC2 := Lib.hid C
              clear C
              go_wp2_with fail
              refine HC2.out.mono ?_
              rintro e w' ⟨rfl, S2⟩
              have S3 : Aside (SW (E f) w0 blk off (rotate i m (mid + m - i) d) w') := S2
              clear S2 S1 HC2
              go_wp2
              go_meet
              case rel => exact ⟨rfl, S3⟩
            · rw [if_neg hc] at hd1
              rw [decide_eq_false hc] at hv1
              subst hd1 hv1
              go_wp2
              go_meet
              case rel => exact ⟨rfl, S1⟩
          case rest => as_aux_lemma =>
            clear S1 V1
            obtain ⟨rfl, S1⟩ := hcut
            obtain ⟨v2, hv2⟩ : ∃ z : Bool, z = decide (a < i ∧ i < mid) := ⟨_, rfl⟩
            have V2 := Lib.hid hv2
            clear hv2
            go_upto_region 41 with (fail)
            go_cut [199] (fun s wx => s = .bool v2 ∧ Aside (SW (E f) w0 blk off d1 wx))
            case first => as_aux_lemma =>
              have hv2 := V2.out
              clear V2 D1 D2 Z1 Z2
              by_cases hc1 : a < i
              · by_cases hc2 : i < mid
                · have g1 : (a : Int) < (i : Int) := by omega
                  have g2 : (i : Int) < (mid : Int) := by omega
                  rw [decide_eq_true ⟨hc1, hc2⟩] at hv2
                  subst hv2
                  go_wp2
                  go_meet
                  case rel => exact ⟨rfl, S1⟩
                · have g1 : (a : Int) < (i : Int) := by omega
                  have g2 : ¬ (i : Int) < (mid : Int) := by omega
                  rw [decide_eq_false (by omega)] at hv2
                  subst hv2
                  go_wp2
                  go_meet
                  case rel => exact ⟨rfl, S1⟩
              · have g1 : ¬ (a : Int) < (i : Int) := by omega
                rw [decide_eq_false (by omega)] at hv2
                subst hv2
                go_wp2
                go_meet
                case rel => exact ⟨rfl, S1⟩
            case rest => as_aux_lemma =>
              clear S1
              obtain ⟨rfl, S1⟩ := hcut
              go_upto_if 199 with (fail)
              go_cut [20] (fun s wx => s = .int .i64 i ∧ Aside (SW (E f) w0 blk off d2 wx))
              case first => as_aux_lemma =>
                have hd2 := D2.out
                have hv2 := V2.out
                clear V2
                by_cases hc : a < i ∧ i < mid
                · rw [if_pos hc] at hd2
                  rw [decide_eq_true hc] at hv2
                  have C := IH.out a i mid d1 wc Z1.out S1.out hc.1 hc.2 (by rw [Z1.out]; omega) (by omega)
                  rw [Z1.out] at C
                  have HC2 := Lib.hid C
                  clear C
                  subst hd2 hv2
                  clear D1 D2 Z1 Z2
                  go_wp2_with fail
                  refine HC2.out.mono ?_
                  rintro e w' ⟨rfl, S2⟩
                  have S3 : Aside (SW (E f) w0 blk off (symM (ltOf cf) k a i mid d1) w') := S2
                  clear S2 S1 HC2
                  go_wp2
                  go_meet
                  case rel => exact ⟨rfl, S3⟩
                · rw [if_neg hc] at hd2
                  rw [decide_eq_false hc] at hv2
                  subst hd2 hv2
                  clear D1 D2 Z1 Z2
                  go_wp2
                  go_meet
                  case rel => exact ⟨rfl, S1⟩
              case rest => as_aux_lemma =>
                clear S1 V2
                obtain ⟨rfl, S1⟩ := hcut
                have fin := symM_C (ltOf cf) k a m b mid i d d1 d2 (by omega) (by omega) HM.out (by rw [← HL.out, ← HH.out]; exact HI.out) D1.out D2.out
                have FIN := Lib.hid fin
                clear fin
                by_cases hc1 : mid < mid + m - i
                · by_cases hc2 : mid + m - i < b
                  · have g1 : (mid : Int) < (mid : Int) + (m : Int) - (i : Int) := by omega
                    have g2 : (mid : Int) + (m : Int) - (i : Int) < (b : Int) := by omega
                    have C := IH.out mid (mid + m - i) b d2 wc Z2.out S1.out hc1 hc2 (by rw [Z2.out]; omega) (by omega)
                    rw [Z2.out, show ((mid + m - i : Nat) : Int) = (mid : Int) + (m : Int) - (i : Int) by omega] at C
                    have HC2 := Lib.hid C
                    clear C
                    go_wp2_with fail
                    refine HC2.out.mono ?_
                    rintro e w' ⟨rfl, S2⟩
                    have S3 : Aside (SW (E f) w0 blk off (symM (ltOf cf) k mid (mid + m - i) b d2) w') := S2
                    clear S2 S1 HC2
                    go_wp2
                    go_end0
                    refine ⟨rfl, ?_⟩
                    rw [FIN.out, if_pos ⟨hc1, hc2⟩]
                    exact S3.out
                  · have g1 : (mid : Int) < (mid : Int) + (m : Int) - (i : Int) := by omega
                    have g2 : ¬ (mid : Int) + (m : Int) - (i : Int) < (b : Int) := by omega
                    go_wp2
                    go_end0
                    refine ⟨rfl, ?_⟩
                    rw [FIN.out, if_neg (by omega)]
                    exact S1.out
                · have g1 : ¬ (mid : Int) < (mid : Int) + (m : Int) - (i : Int) := by omega
                  go_wp2
                  go_end0
                  refine ⟨rfl, ?_⟩
                  rw [FIN.out, if_neg (by omega)]
                  exact S1.out
end Go.Proofs.Ytlpdligkjihkeaa.Sw
