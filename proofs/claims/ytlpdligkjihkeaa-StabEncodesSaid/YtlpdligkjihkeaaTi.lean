/- stab.Build, walked: the lists that have an index. -/
import Derived.Test.YtlpdligkjihkeaaTh
set_option linter.unusedVariables false
set_option linter.unusedSimpArgs false
namespace Go.Proofs.Ytlpdligkjihkeaa.Tb
open Go.RowKit Go.Shelf Go.Lib Go.Sort Go.Proofs.Ytlpdligkjihkeaa.Sw

set_option maxHeartbeats 1600000 in
theorem ins_nil (F : Value) (w : World) : Calls Try.prog 65 #[.slice none 0 0, .int .i64 0, .int .i64 0, F] w fun e w' => e = .returned (.tuple #[]) ∧ w' = w := by
  go_enter Try.func65, Try.ntmps65
  go_wp2
  go_loopg [8] 0 (fun kx s wr => s = .int .i64 1 ∧ wr = w)
  case atStart => exact ⟨rfl, rfl⟩
  case round =>
    obtain ⟨rfl, rfl⟩ := hrel
    go_wp2
    go_end0
    exact ⟨rfl, rfl⟩
set_option maxHeartbeats 1600000 in
theorem stab_nil (F : Value) (w : World) : Calls Try.prog 57 #[.slice none 0 0, .int .i64 0, F] w fun e w' => e = .returned (.tuple #[]) ∧ w' = w := by
  go_enter Try.func57, Try.ntmps57
  go_wp2
  go_loopg [7, 8] 0 (fun kx s t wr => s = .int .i64 0 ∧ t = .int .i64 20 ∧ wr = w)
  case atStart => exact ⟨rfl, rfl, rfl⟩
  case round =>
    obtain ⟨rfl, rfl, rfl⟩ := hrel
    go_wp2_with fail
    refine (ins_nil _ _).mono ?_
    rintro e w1 ⟨rfl, rfl⟩
    go_wp2
    go_loopg [6] 0 (fun kx s wr => s = .int .i64 20 ∧ wr = w1)
    case atStart => exact ⟨rfl, rfl⟩
    case round =>
      obtain ⟨rfl, rfl⟩ := hrel
      go_wp2
      go_end0
      exact ⟨rfl, rfl⟩
set_option maxHeartbeats 1600000 in
theorem sort_nil (F : Value) (w : World) : Calls Try.prog 46 #[.slice none 0 0, F] w fun e w' => e = .returned (.tuple #[]) ∧ w' = w := by
  go_enter Try.func46, Try.ntmps46
  go_wp2_with fail
  refine (stab_nil _ _).mono ?_
  rintro e w1 ⟨rfl, rfl⟩
  go_wp2
  go_end0
  exact ⟨rfl, rfl⟩
set_option maxHeartbeats 1600000 in
theorem grow_nil (p : Value) (w : World) : Calls Try.prog 49 #[p, .int .i64 0, .int .i64 0] w fun e w' => e = .returned (.int .i64 0) ∧ w' = w := by
  go_enter Try.func49, Try.ntmps49
  go_wp2
  go_ret
  exact ⟨rfl, rfl⟩

set_option maxHeartbeats 8000000 in
set_option maxRecDepth 1000000 in
theorem Build_ok (A : Option Addr) (c : Nat) (xs : List (Int × Int)) (w : World) (ha : RdS w A xs) (hA : A = none → xs.length = 0 ∧ c = 0) (hm : xs.length ≤ 4096) (hv : xs.all okV = true) (he : xs.all okE = true) :
    Calls Try.prog 25 #[.slice A xs.length c] w fun e w' => ∃ p, e = .returned (.tuple #[.pointer (some ⟨p, 0, none⟩), .int .i64 0]) ∧ Idx w' p xs ∧ Below w.heap.size w w' := by
  have HCL := fun W hW => Lib.hid (Clone_any A c xs W hW hA (by omega))
  have HA := Lib.hid ha
  clear ha
  obtain ⟨n, hn⟩ : ∃ n, n = xs.length := ⟨_, rfl⟩
  rw [← hn] at hm hA HCL ⊢
  have HN := Lib.hid hn
  have HV := Lib.hid hv
  have HE := Lib.hid he
  have HA0 := Lib.hid hA
  have HC := Lib.hid HCL
  clear hn hv he hA HCL
  have hmk : ∀ W : World, _ := fun W => run_make_row' (P := Try.prog) 30 3 (.int .i64 0) 8 Try.underlying30 infoI rfl .i64 .i64 n (by omega) (by omega) W
  go_enter Try.func25, Try.ntmps25
  go_wp2
  go_loopw [13] (fun s wr => ∃ i : Nat, s = .int .i64 i ∧ i ≤ n ∧ Below w.heap.size w wr ∧ w.heap.size < wr.heap.size ∧ wr.cell? ⟨w.heap.size, 0, none⟩ = some (.slice A n c)) (fun s _ => n - (intOf s).toNat)
  case atStart => exact ⟨0, rfl, by omega, bel_alloc (Below.refl _ _) _, by simp, by simp⟩
  case round =>
    obtain ⟨i, rfl, hin, hbw, hsz, hbox⟩ := hrel
    by_cases hlt : i < n
    · obtain ⟨b1, o1, e1, c1⟩ := (HA.out.below hbw) (by rw [← HN.out]; omega)
      obtain ⟨c1', c2'⟩ := c1 i (by rw [← HN.out]; exact hlt)
      clear c1
      have hv1 := all_get (0, 0) HV.out (show i < xs.length by rw [← HN.out]; exact hlt)
      have he1 := all_get (0, 0) HE.out (show i < xs.length by rw [← HN.out]; exact hlt)
      unfold okV at hv1
      unfold okE at he1
      obtain ⟨x, y, hx, hy⟩ : ∃ x y, x = (xs.getD i (0, 0)).1 ∧ y = (xs.getD i (0, 0)).2 := ⟨_, _, rfl, rfl⟩
      rw [← hx] at c1' hv1
      rw [← hy] at c2' hv1 he1
      clear hx hy
      subst e1
      have he2 := of_decide_eq_true he1
      clear he1
      have g1 : (i : Int) < (n : Int) := by omega
      have hbA := hbw.alloc hbw.size (SB x y)
      have hbox2 : (wr.alloc (SB x y)).cell? ⟨w.heap.size, 0, none⟩ = some (.slice (some ⟨b1, o1, none⟩) n c) := by rw [World.cell?_alloc_lt wr _ _ hsz]; exact hbox
      have CR := Lib.hid (rel_eq x y x y (wr.alloc (SB x y)) hv1 hv1 (Int.le_refl _) (Int.le_refl _) (Int.le_refl _) (Int.le_refl _))
      clear hbw hv1 hbox
      go_wp2_with fail
      refine CR.out.mono ?_
      rintro e w2 ⟨rfl, hb2⟩
      have hbw2 := bel_trans hbA hb2
      have hbox3 : w2.cell? ⟨w.heap.size, 0, none⟩ = some (.slice (some ⟨b1, o1, none⟩) n c) := (hb2.cell (p := ⟨_, 0, none⟩) (by simp; omega)).trans hbox2
      have hy2 : w2.cell? ⟨wr.heap.size, 1, none⟩ = some (.int .i64 y) := (hb2.cell (p := ⟨_, 1, none⟩) (by simp)).trans (by simp)
      have hsz2 : w.heap.size < w2.heap.size := by have := hb2.size; simp at this; omega
      clear hbA hb2 CR hbox2
      go_wp2
      go_roundw
      case measure => simp [intOf]; omega
      case rel => exact ⟨i + 1, by go_num, by omega, hbw2, hsz2, hbox3⟩
    · have g1 : ¬ (i : Int) < (n : Int) := by omega
      go_upto_region 9 with (fail)
      go_cut [6] (fun s wx => ∃ g As cs ge, s = .pointer (some ⟨g, 0, none⟩) ∧ B9 w wx A n c xs g As cs ge)
      case first =>
        have hbm : Below w.heap.size w (wr.alloc (.cells (madeCells #[.int .i64 0] n) 3)).drew := bel_drew (bel_alloc hbw _)
        have hc1 := HC.out _ (HA.out.below hbm)
        have hc0 := HC.out wr.drew (HA.out.below (bel_drew hbw))
        have hbd := bel_drew hbw
        have hbx : (wr.alloc (.cells (madeCells #[.int .i64 0] n) 3)).cell? ⟨w.heap.size, 0, none⟩ = some (.slice A n c) := by rw [World.cell?_alloc_lt wr _ _ hsz]; exact hbox
        have hen : (wr.alloc (.cells (madeCells #[.int .i64 0] n) 3)).drew.heap[wr.heap.size]? = some (.cells (madeCells #[.int .i64 0] n) 3 (0, 0)) := heap_alloc_new wr _
        have HEN := Lib.hid hen
        clear hen
        go_region_held3 (fun w' => w'.cell? ⟨w.heap.size, 0, none⟩ = some (.slice A n c))
          (first | (with_reducible exact K1) | exact hbx | exact hbox | (rw [World.cell?_alloc_lt _ _ _ (World.block_lt_of_cell? _ _ K1)]; exact K1) | go_keep)
          (first
            | (go_at_call 45
               with_reducible refine hc0.out.mono ?_
               rintro e w2 ⟨v, rfl, ho, hb⟩
               obtain ⟨As, cs, rfl⟩ := own_shape ho
               have K1 : w2.cell? ⟨w.heap.size, 0, none⟩ = some (.slice A n c) := (hb.cell (p := ⟨_, 0, none⟩) hsz).trans hbox
               have HO := Lib.hid ho
               have HB := Lib.hid hb
               clear ho hb)
            | (go_at_call 45
               with_reducible refine hc1.out.mono ?_
               rintro e w2 ⟨v, rfl, ho, hb⟩
               obtain ⟨As, cs, rfl⟩ := own_shape ho
               have K1 : w2.cell? ⟨w.heap.size, 0, none⟩ = some (.slice A n c) := (hb.cell (p := ⟨_, 0, none⟩) (by simp; omega)).trans hbx
               have HO := Lib.hid ho
               have HB := Lib.hid hb
               clear ho hb))
        · have hb2 := bel_trans hbd HB.out
          have hsz2 : w.heap.size < w2.heap.size := World.block_lt_of_cell? _ _ K1
          clear HC hc0 hc1
          go_wp2_with fail
          go_meet
          case rel =>
            refine ⟨w2.heap.size + 1, As, cs, w2.heap.size, rfl, ⟨bel_alloc (bel_alloc hb2 _) _, ?_, ?_, ((own_lower HO.out hbd.size).alloc _).alloc _, ?_, hsz2, by omega⟩⟩
            · rw [World.cell?_alloc_lt _ _ _ (by simp; omega), World.cell?_alloc_lt _ _ _ (by simp; omega)]; exact K1
            · have := heap_alloc_new (w2.alloc (.cells (madeCells #[.int .i64 0] n) 3)) (.cells #[.slice As n cs, .slice none 0 0, .slice (some ⟨w2.heap.size, 0, none⟩) n n] 53 (0, 0))
              rw [World.size_alloc] at this
              exact this
            · exact (heap_alloc_old _ _ (by simp)).trans (heap_alloc_new w2 _)
        · have hb2 := bel_trans hbm HB.out
          have hsz2 : w.heap.size < w2.heap.size := World.block_lt_of_cell? _ _ K1
          have hlt2 : wr.heap.size < w2.heap.size := by have := HB.out.size; simp at this; omega
          clear HC hc0 hc1
          go_wp2_with fail
          go_meet
          case rel =>
            refine ⟨w2.heap.size, As, cs, wr.heap.size, rfl, ⟨bel_alloc hb2 _, ?_, heap_alloc_new w2 _, (own_lower HO.out hbm.size).alloc _, ?_, hsz, hsz2⟩⟩
            · rw [World.cell?_alloc_lt _ _ _ hsz2]; exact K1
            · exact (heap_alloc_old _ _ hlt2).trans ((HB.out.block _ (by simp)).trans HEN.out)
      case rest =>
        clear HC hbox hbw
        obtain ⟨g, As, cs, ge, rfl, B⟩ := hcut
        have hbx := B.box
        have B0 : B10 w wc A n c xs g As cs ge none 0 0 := ⟨B.bel, B.box, B.ix, B.spans, B.ends, World.ownsRow_nil _ _ _ _, by simp [Value.ownBlock], fun _ => ⟨rfl, rfl⟩, B.ge1, B.g1⟩
        have HB0 := Lib.hid B0
        clear B B0
        obtain ⟨i0, hi0, hz0, hz1, hz2⟩ := info_parts infoI
        go_wp2
        clear hbx
        go_loopw [36] (fun s wr => ∃ (i : Nat) (Ao : Option Addr) (co : Nat), s = .int .i64 i ∧ i ≤ n ∧ Hid (B10 w wr A n c xs g As cs ge Ao co i)) (fun s _ => n - (intOf s).toNat)
        case atStart => exact ⟨0, none, 0, rfl, by omega, HB0⟩
        case round =>
          clear HB0
          obtain ⟨i, Ao, co, rfl, hin, HB⟩ := hrel
          have B := HB.out
          by_cases hlt : i < n
          · have g1 : (i : Int) < (n : Int) := by omega
            have k1 : wr.cell? ⟨g, 1, none⟩ = some (.slice Ao i co) := by rw [blk_cell B.ix]; rfl
            have hown := B.own.alloc (.cells #[.int .i64 (i : Int)] 3)
            have hbase : w.heap.size + 1 ≤ (wr.alloc (.cells #[.int .i64 (i : Int)] 3)).heap.size := by have := B.bel.size; simp; omega
            have hnews : ∀ j u, ([.int .i64 (i : Int)] : List Value)[j]? = some u → (wr.alloc (.cells #[.int .i64 (i : Int)] 3)).cell? ((⟨wr.heap.size, 0, none⟩ : Addr).add j) = some u := cell_one_new _ _ _
            have HW := Lib.hid hown
            have HN2 := Lib.hid hnews
            clear B hown hnews
            go_wp2_with (at_builtin; refine wpList_append_lies _ rfl (.tmp 43) (.tmp 45) 30 rfl (w.heap.size + 1) 3 i0 _ 1 8 Try.underlying30 hi0 hz0 hz1 hz2 rfl (by decide) _ i (upto i) rfl HW.out ⟨wr.heap.size, 0, none⟩ 1 1 [.int .i64 (i : Int)] rfl rfl HN2.out (by simp [Value.oneCell']) (by omega) (by simp only [maxLen]; omega) (by omega) hbase (wr.heap.size + 1) (by simp) ?_; intro g' cap' w1 hown1 hgrow1 hat1 _; have H1 := Lib.hid hown1; have HG := Lib.hid hgrow1; have HT := Lib.hid hat1; have k2 := blk_cell ((HB.out.grown hgrow1).trans HB.out.ix) 1; have f2 := blk_free ((HB.out.grown hgrow1).trans HB.out.ix) 1; clear hown1 hgrow1 hat1)
            go_roundw
            case measure => simp [intOf]; omega
            case rel => exact ⟨i + 1, some ⟨g', 0, none⟩, cap', by go_num, by omega, HB.out.step H1.out HG.out HT.out⟩
          · have g1 : ¬ (i : Int) < (n : Int) := by omega
            have hi : i = n := by omega
            subst hi
            have hbx := B.box
            have hix := B.ix
            have k1 : wr.cell? ⟨g, 1, none⟩ = some (.slice Ao i co) := by rw [blk_cell B.ix]; rfl
            by_cases h0 : i = 0
            · obtain ⟨e1, e2⟩ := B.nil0 h0
              have hix0 : Idx wr g xs := by
                have hx0 : xs.length = 0 := by rw [← HN.out]; exact h0
                refine ⟨As, Ao, some ⟨ge, 0, none⟩, cs, co, i, id, #[], ?_, ?_, ?_, fun h => by omega, ⟨fun i h => by omega, by rw [hx0]; exact List.Perm.refl _, fun i j h1 h2 => by omega⟩, Good.nil (by omega)⟩ <;> rw [← HN.out, blk_cell B.ix] <;> rfl
              have HIX := Lib.hid hix0
              have HBL := Lib.hid B.bel
              clear hix0 B hix HB
              subst e1 e2
              subst h0
              go_wp2_with fail
              refine (sort_nil _ _).mono ?_
              rintro e w3 ⟨rfl, rfl⟩
              go_wp2_with fail
              refine (grow_nil _ _).mono ?_
              rintro e w3 ⟨rfl, rfl⟩
              go_wp2
              go_ret2
              exact ⟨g, rfl, HIX.out, HBL.out⟩
            · have hi0 : 0 < i := by omega
              haveI : Inhabited (Fin i) := ⟨⟨0, hi0⟩⟩
              obtain ⟨bo, cap, hAo, _, _⟩ := B.own.form hi0
              injection hAo with hA1 _ hA2
              subst hA1
              subst hA2
              have CS := Lib.hid (sort_call i A c xs w wr g As cs ge bo co HN.out hi0 hm HA.out B)
              have CG := fun w2 hS => Lib.hid (grow_call i A c xs w wr w2 g As cs ge bo co HN.out hi0 hm HV.out HE.out B hS)
              have CGG := Lib.hid CG
              clear CG B HB hix
              go_wp2_with fail
              refine CS.out.mono ?_
              rintro e w3 ⟨rfl, S⟩
              obtain ⟨hb3, hbx3, C3⟩ := (CGG.out w3 S).out
              have HC3 := Lib.hid C3
              clear C3 CS CGG S hbx k1
              go_wp2_with fail
              refine HC3.out.mono ?_
              rintro e w4 ⟨⟨r, rfl⟩, hI, hb4⟩
              have HI := Lib.hid hI
              clear HC3 hI
              go_wp2
              go_ret2
              exact ⟨g, rfl, HI.out, hb4⟩
end Go.Proofs.Ytlpdligkjihkeaa.Tb
