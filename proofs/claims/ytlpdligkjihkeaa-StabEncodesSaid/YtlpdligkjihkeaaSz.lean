/- Go's stable sort of ints, walked: the whole. -/
import Derived.Test.YtlpdligkjihkeaaSy
import Derived.Test.YtlpdligkjihkeaaSi
set_option linter.unusedVariables false
namespace Go.Proofs.Ytlpdligkjihkeaa.Sw
open Go.Shelf Go.RowKit Go.Lib Go.Sort Go.Proofs.Ytlpdligkjihkeaa.St
variable {α : Type} [Inhabited α]

theorem symMerge_s (f : α → Int) (cf : α → α → Int) (g : Nat) (cb : Array Value) (blk off cap : Nat) (d0 : Array α) (w0 : World)
    (eg : ∀ args w, (callFunc g args).run Try.prog w = .ok (.enter g args) w) (hcmp : CmpLays1 Try.prog g cb (E f) cf blk off d0.size w0) (R : Row1 (E f) w0 blk off d0) : ∀ (k a m b : Nat) (d : Array α) (w : World), d0.size = d.size → SW (E f) w0 blk off d w → a < m → m < b → b ≤ d.size → b - a ≤ k → d.size < 4611686018427387904 →
    Calls Try.prog 66 #[.slice (some ⟨blk, off, none⟩) d.size cap, .int .i64 a, .int .i64 m, .int .i64 b, .func (.func g) #[] cb] w fun e w' => e = .returned (.tuple #[]) ∧ SW (E f) w0 blk off (symM (ltOf cf) k a m b d) w' := by
  intro k
  induction k with
  | zero => intro a m b d w _ _ h1 h2 _ h; omega
  | succ k ih =>
    intro a m b d w hs S h1 h2 h3 h4 hsz
    by_cases c1 : m ≤ a + 1
    · exact symMergeA f cf g cb blk off cap a m b k d0 d w0 w eg hcmp R hs S h1 h2 h3 hsz c1
    · by_cases c2 : b ≤ m + 1
      · exact symMergeB f cf g cb blk off cap a m b k d0 d w0 w eg hcmp R hs S h1 h2 h3 hsz c1 c2
      · refine symMergeC f cf g cb blk off cap a m b k d0 d w0 w eg hcmp R hs S h1 h2 h3 hsz c1 c2 ?_
        intro a' m' b' d' w' hz S' x1 x2 x3 x4
        exact ih a' m' b' d' w' (by omega) S' x1 x2 x3 (by omega) (by omega)

theorem mergeAll_pos (lt : α → α → Bool) (n k s : Nat) (d : Array α) (h : s < n) : mergeAll lt n (k + 1) s d = mergeAll lt n k (2 * s) (mergePass lt s n (n + 1) 0 d) := by rw [mergeAll, if_pos h]
theorem mergeAll_neg (lt : α → α → Bool) (n k s : Nat) (d : Array α) (h : ¬ s < n) : mergeAll lt n k s d = d := by
  cases k with
  | zero => rfl
  | succ k => rw [mergeAll, if_neg h]
theorem mergePass_pos (lt : α → α → Bool) (s n k a : Nat) (d : Array α) (h : a + 2 * s ≤ n) : mergePass lt s n (k + 1) a d = mergePass lt s n k (a + 2 * s) (symM lt (2 * s) a (a + s) (a + 2 * s) d) := by rw [mergePass, if_pos h]
theorem mergePass_one (lt : α → α → Bool) (s n k a : Nat) (d : Array α) (h : ¬ a + 2 * s ≤ n) (h2 : a + s < n) : mergePass lt s n (k + 1) a d = symM lt (n - a) a (a + s) n d := by rw [mergePass, if_neg h, if_pos h2]
theorem mergePass_none (lt : α → α → Bool) (s n k a : Nat) (d : Array α) (h : ¬ a + 2 * s ≤ n) (h2 : ¬ a + s < n) : mergePass lt s n (k + 1) a d = d := by rw [mergePass, if_neg h, if_neg h2]

set_option maxHeartbeats 16000000 in
set_option maxRecDepth 1000000 in
theorem stable_s (f : α → Int) (cf : α → α → Int) (g : Nat) (cb : Array Value) (blk off cap : Nat) (d0 : Array α) (w0 : World)
    (eg : ∀ args w, (callFunc g args).run Try.prog w = .ok (.enter g args) w) (hcmp : CmpLays1 Try.prog g cb (E f) cf blk off d0.size w0) (R : Row1 (E f) w0 blk off d0) (d : Array α) (w : World) (hs : d0.size = d.size) (S : SW (E f) w0 blk off d w) (hsz : d.size ≤ 1000000) :
    Calls Try.prog 57 #[.slice (some ⟨blk, off, none⟩) d.size cap, .int .i64 d.size, .func (.func g) #[] cb] w fun e w' => e = .returned (.tuple #[]) ∧ SW (E f) w0 blk off (stable (ltOf cf) d) w' := by
  have HC := Lib.hid hcmp
  have S0 : Aside (SW (E f) w0 blk off d w) := S
  obtain ⟨n, hn⟩ : ∃ z, z = d.size := ⟨_, rfl⟩
  rw [← hn] at hsz ⊢
  have HN := Lib.hid hn
  clear S hcmp hn
  go_enter Try.func57, Try.ntmps57
  go_wp2
  go_loopg [7, 8] n (fun kx s t wr => ∃ (a : Nat) (dk : Array α), s = .int .i64 a ∧ t = .int .i64 (a + 20) ∧ a ≤ n ∧ n - a ≤ kx ∧ Hid (dk.size = n) ∧ Aside (SW (E f) w0 blk off dk wr) ∧ Hid (insBlocks (ltOf cf) n a dk = insBlocks (ltOf cf) n 0 d))
  case atStart => exact ⟨0, d, rfl, rfl, by omega, by omega, HN.out.symm, S0, rfl⟩
  case round =>
    clear S0
    obtain ⟨a, dk, rfl, rfl, han, hkx, hds, S1, HO⟩ := hrel
    by_cases hlt : a + 20 ≤ n
    · have hlt' : (a : Int) + 20 ≤ (n : Int) := by omega
      go_wp2_with fail
      have C := insertion_s f cf g cb blk off cap a (a + 20) d0 dk w0 wr eg HC.out R (by rw [hs, ← HN.out, hds.out]) S1.out (by omega) (by rw [hds.out]; exact hlt) (by rw [hds.out]; omega)
      rw [hds.out, show ((a + 20 : Nat) : Int) = (a : Int) + 20 by omega] at C
      refine C.mono ?_
      rintro e w' ⟨rfl, S2⟩
      have S3 : Aside (SW (E f) w0 blk off (insertionSort (ltOf cf) dk a (a + 20)) w') := S2
      clear S2 C S1
      go_wp2
      go_roundg (n - (a + 20))
      case measure => omega
      case rel => exact ⟨a + 20, _, by go_num, by go_num, by omega, by omega, (show Hid _ from by rw [size_insertionSort]; exact hds.out), S3, (show Hid _ from by rw [← HO.out, insBlocks_pos _ _ _ _ hlt]; exact rfl)⟩
    · have hlt' : ¬ (a : Int) + 20 ≤ (n : Int) := by omega
      go_wp2_with fail
      have C := insertion_s f cf g cb blk off cap a n d0 dk w0 wr eg HC.out R (by rw [hs, ← HN.out, hds.out]) S1.out (by omega) (by rw [hds.out]; exact Nat.le_refl _) (by rw [hds.out]; omega)
      rw [hds.out] at C
      refine C.mono ?_
      rintro e w' ⟨rfl, S2⟩
      have hfin : insertionSort (ltOf cf) dk a n = insBlocks (ltOf cf) n 0 d := by rw [← HO.out, insBlocks, if_neg hlt]
      have hz := size_insertionSort (ltOf cf) a n dk
      rw [hfin] at S2 hz
      obtain ⟨d1, hd1⟩ : ∃ z, z = insBlocks (ltOf cf) n 0 d := ⟨_, rfl⟩
      rw [← hd1] at S2 hz
      have S3 : Aside (SW (E f) w0 blk off d1 w') := S2
      have HZ : Hid (d1.size = n) := hz.trans hds.out
      have HD : Hid (mergeAll (ltOf cf) n n 20 d1 = stable (ltOf cf) d) := (show Hid _ from by unfold stable; rw [← HN.out, hd1]; exact rfl)
      clear S2 C S1 hfin hz hd1 hds HO
      go_wp2
      go_loopg [6] n (fun kx s wr => ∃ (z k : Nat) (dk : Array α), s = .int .i64 z ∧ 0 < z ∧ z ≤ 2 * n + 20 ∧ n ≤ k + z ∧ k ≤ kx ∧ Hid (dk.size = n) ∧ Aside (SW (E f) w0 blk off dk wr) ∧ Hid (mergeAll (ltOf cf) n k z dk = stable (ltOf cf) d))
      case atStart => exact ⟨20, n, d1, rfl, by omega, by omega, by omega, Nat.le_refl _, HZ, S3, HD⟩
      case round =>
        clear S3 HZ HD
        obtain ⟨z, k, dk, rfl, hz0, hzn, hnk, hkx, hds, S1, HO⟩ := hrel
        by_cases hlt : z < n
        · obtain ⟨k, rfl⟩ : ∃ q, k = q + 1 := ⟨k - 1, by omega⟩
          go_wp2
          go_loopg [7, 8] n (fun kx s t wr => ∃ (a fk : Nat) (dj : Array α), s = .int .i64 a ∧ t = .int .i64 (a + 2 * z) ∧ a ≤ n ∧ n + 1 ≤ fk + a ∧ n - a ≤ kx ∧ Hid (dj.size = n) ∧ Aside (SW (E f) w0 blk off dj wr) ∧ Hid (mergePass (ltOf cf) z n fk a dj = mergePass (ltOf cf) z n (n + 1) 0 dk))
          case atStart => exact ⟨0, n + 1, dk, rfl, by go_num, by omega, by omega, by omega, hds, S1, rfl⟩
          case round =>
            clear S1
            have HDK := hds
            clear hds
            obtain ⟨a, fk, dj, rfl, rfl, han, hfk, hka, hds, S1, HI⟩ := hrel
            obtain ⟨fk, rfl⟩ : ∃ q, fk = q + 1 := ⟨fk - 1, by omega⟩
            by_cases hl2 : a + 2 * z ≤ n
            · have hl2' : (a : Int) + 2 * (z : Int) ≤ (n : Int) := by omega
              go_wp2_with fail
              have C := symMerge_s f cf g cb blk off cap d0 w0 eg HC.out R (2 * z) a (a + z) (a + 2 * z) dj wr (by rw [hs, ← HN.out, hds.out]) S1.out (by omega) (by omega) (by rw [hds.out]; exact hl2) (by omega) (by rw [hds.out]; omega)
              rw [hds.out, show ((a + z : Nat) : Int) = (a : Int) + z by omega, show ((a + 2 * z : Nat) : Int) = (a : Int) + 2 * z by omega] at C
              refine C.mono ?_
              rintro e w' ⟨rfl, S2⟩
              have S3 : Aside (SW (E f) w0 blk off (symM (ltOf cf) (2 * z) a (a + z) (a + 2 * z) dj) w') := S2
              clear S2 C S1
              go_wp2
              go_roundg (n - (a + 2 * z))
              case measure => omega
              case rel => exact ⟨a + 2 * z, fk, _, by go_num, by go_num, by omega, by omega, by omega, (show Hid _ from by rw [size_symM _ _ _ _ _ _ (by omega) (by omega) (by rw [hds.out]; exact hl2)]; exact hds.out), S3, (show Hid _ from by rw [← HI.out, mergePass_pos _ _ _ _ _ _ hl2]; exact rfl)⟩
            · have hl2' : ¬ (a : Int) + 2 * (z : Int) ≤ (n : Int) := by omega
              by_cases hl3 : a + z < n
              · have hl3' : (a : Int) + (z : Int) < (n : Int) := by omega
                go_wp2_with fail
                have C := symMerge_s f cf g cb blk off cap d0 w0 eg HC.out R (n - a) a (a + z) n dj wr (by rw [hs, ← HN.out, hds.out]) S1.out (by omega) (by omega) (by rw [hds.out]; exact Nat.le_refl _) (Nat.le_refl _) (by rw [hds.out]; omega)
                rw [hds.out, show ((a + z : Nat) : Int) = (a : Int) + z by omega] at C
                refine C.mono ?_
                rintro e w' ⟨rfl, S2⟩
                have S3 : Aside (SW (E f) w0 blk off (symM (ltOf cf) (n - a) a (a + z) n dj) w') := S2
                clear S2 C S1
                go_wp2
                go_roundg k
                case measure => omega
                case rel => exact ⟨2 * z, k, _, by go_num, by omega, by omega, by omega, Nat.le_refl _, (show Hid _ from by rw [size_symM _ _ _ _ _ _ (by omega) (by omega) (by rw [hds.out]; exact Nat.le_refl _)]; exact hds.out), S3, (show Hid _ from by rw [← HO.out, mergeAll_pos _ _ _ _ _ hlt, ← HI.out, mergePass_one _ _ _ _ _ _ hl2 hl3]; exact rfl)⟩
              · have hl3' : ¬ (a : Int) + (z : Int) < (n : Int) := by omega
                go_wp2
                go_roundg k
                case measure => omega
                case rel => exact ⟨2 * z, k, dj, by go_num, by omega, by omega, by omega, Nat.le_refl _, hds, S1, (show Hid _ from by rw [← HO.out, mergeAll_pos _ _ _ _ _ hlt, ← HI.out, mergePass_none _ _ _ _ _ _ hl2 hl3]; exact rfl)⟩
        · go_wp2
          go_end0
          refine ⟨rfl, ?_⟩
          rw [← HO.out, mergeAll_neg _ _ _ _ _ hlt]
          exact S1.out

set_option maxHeartbeats 4000000 in
/-- slices.SortStableFunc at []int: the row holds the stable sorted list. -/
theorem sortStable_s (f : α → Int) (cf : α → α → Int) (g : Nat) (cb : Array Value) (blk off cap : Nat) (d0 : Array α) (w0 : World)
    (eg : ∀ args w, (callFunc g args).run Try.prog w = .ok (.enter g args) w) (hcmp : CmpLays1 Try.prog g cb (E f) cf blk off d0.size w0) (R : Row1 (E f) w0 blk off d0) (n : Nat) (w : World) (hn : d0.size = n) (S : SW (E f) w0 blk off d0 w) (hsz : n ≤ 1000000) :
    Calls Try.prog 46 #[.slice (some ⟨blk, off, none⟩) n cap, .func (.func g) #[] cb] w fun e w' => e = .returned (.tuple #[]) ∧ SW (E f) w0 blk off (stable (ltOf cf) d0) w' := by
  subst hn
  have C := stable_s f cf g cb blk off cap d0 w0 eg hcmp R d0 w rfl S hsz
  have HC := Lib.hid C
  clear C S hcmp
  go_enter Try.func46, Try.ntmps46
  go_wp2_with fail
  refine HC.out.mono ?_
  rintro e w' ⟨rfl, S2⟩
  have S3 := Lib.hid S2
  clear S2 HC
  go_wp2
  go_end0
  exact ⟨rfl, S3.out⟩
end Go.Proofs.Ytlpdligkjihkeaa.Sw
