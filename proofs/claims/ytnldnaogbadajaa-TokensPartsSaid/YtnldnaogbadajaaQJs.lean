/- tokens: Slice, walked. -/
import Derived.Test.YtnldnaogbadajaaM9
set_option linter.unusedVariables false
set_option linter.unusedSimpArgs false
namespace Go.Proofs.Ytnldnaogbadajaa.Tb
open Go.RowKit

/-! ### plain -/
def cutL (xs : List Nat) (a b : Nat) : List Nat := (xs.drop a).take (b - a)
theorem cutL_len {xs : List Nat} {a b : Nat} (h : b ≤ xs.length) : (cutL xs a b).length = b - a := by
  unfold cutL
  rw [List.length_take, List.length_drop]
  omega
theorem cutL_join {xs : List Nat} {a b c : Nat} (h1 : a ≤ b) (h2 : b ≤ c) : cutL xs a b ++ cutL xs b c = cutL xs a c := by
  unfold cutL
  rw [show c - a = (b - a) + (c - b) by omega, List.take_add, List.drop_drop, show a + (b - a) = b by omega]
theorem cut_chunk {xs : List Nat} {k a e : Nat} (h1 : 64 * k ≤ a) (h2 : a ≤ e) (h3 : e ≤ 64 * k + 64) : ((chunk xs k).drop (a - 64 * k)).take (e - a) = cutL xs a e := by
  unfold chunk cutL
  rw [List.drop_take, List.take_take, List.drop_drop, show 64 * k + (a - 64 * k) = a by omega, Nat.min_eq_left (by omega)]
theorem make_cap (k : Nat) (hc : k ≤ 1000000) (W : World) : (Instr.makeSlice 22 (.int .i64 0) (.int .i64 (k : Int))).run Try.prog W = .ok (.slice (some ⟨W.heap.size, 0, none⟩) 0 k) (W.alloc (.cells (madeCells (Value.int .i64 0).cells k) 3)) := by
  obtain ⟨i0, hi0, hz0, hz1, hz2⟩ := info_parts infoN
  have hr := run_make (P := Try.prog) W 22 3 i0 _ Try.underlying22 hi0 hz0 .i64 .i64 0 k (by omega) (by omega) (by rw [hz2]; omega) (by omega)
  rw [hr, hz1, Int.toNat_natCast, Nat.mul_one]
  rfl
theorem ownN_cap0 (w : World) (k : Nat) (hk : k ≤ 1000000) : OwnN (w.alloc (.cells (madeCells (Value.int .i64 0).cells k) 3)) w.heap.size (.slice (some ⟨w.heap.size, 0, none⟩) (@List.length Nat []) k) [] :=
  ⟨rfl, .inr ⟨w.heap.size, k, _, rfl, Nat.le_refl _, heap_alloc_new w _, Nat.zero_le _, by simp only [maxLen]; omega, by simp [madeCells], rfl⟩⟩

/-! ### the stream behind other stores -/
theorem RdB.grown {w w' : World} {A : Option Addr} {xs : List Nat} {row : Option Nat} (h : RdB w A xs) (hg : w.grownBy w' row) (hne : ∀ b, A = some b → row ≠ some b.block) : RdB w' A xs := by
  intro hl
  obtain ⟨b, off, e, hc⟩ := h hl
  refine ⟨b, off, e, fun j hj => ?_⟩
  have h1 := hc j hj
  rw [← h1]
  exact World.cell?_of_block (hg.block b (World.block_lt_of_cell? _ _ h1) (fun e2 => hne _ e e2.symm))
theorem RdN.grownRow {w w' : World} {A : Option Addr} {xs : List Nat} {row : Option Nat} (h : RdN w A xs) (hg : w.grownBy w' row) (hne : ∀ b, A = some b → row ≠ some b.block) : RdN w' A xs := by
  intro hl
  obtain ⟨b, off, e, hc⟩ := h hl
  refine ⟨b, off, e, fun j hj => ?_⟩
  have h1 := hc j hj
  rw [← h1]
  exact World.cell?_of_block (hg.block b (World.block_lt_of_cell? _ _ h1) (fun e2 => hne _ e e2.symm))
def stC (n kind : Nat) (S2 S3 : Value) (last : Nat) (bv : Value) : Array Value := #[.int .i64 n, .int .i64 kind, S2, S3, .int .i64 last, bv]
theorem str_re {w0 wr : World} {p n kind : Nat} {ls : List Nat} {ps : List (List Nat × Nat)} {last last' : Nat} {bv bv' S2 S3 : Value} (h : Str w0 p n kind ls ps last bv) (hb0 : Blk w0 p 48 (stC n kind S2 S3 last bv)) (hg : w0.grownBy wr (some p))
    (hb : Blk wr p 48 (stC n kind S2 S3 last' bv')) : Str wr p n kind ls ps last' bv' := by
  obtain ⟨Al, cl, Ap, cp, g, h1, h2, h3, h4, h5, h6, h7⟩ := h.it
  have e2 : S2 = .slice Al ls.length cl := by
    have a := h1.cell 2
    rw [hb0.cell 2] at a
    simpa [stC] using a
  have e3 : S3 = .slice Ap ps.length cp := by
    have a := h1.cell 3
    rw [hb0.cell 3] at a
    simpa [stC] using a
  subst e2 e3
  have tr : ∀ {a : Addr} {v : Value}, w0.cell? a = some v → a.block ≠ p → wr.cell? a = some v := fun {a v} hc hne => by
    rw [← hc]
    exact World.cell?_of_block (hg.block a.block (World.block_lt_of_cell? _ _ hc) (fun e => hne (by injection e)))
  refine ⟨Al, cl, Ap, cp, g, hb, h2.grownRow hg (fun b hb2 e => h3 b hb2 (by injection e with e; exact e.symm)), h3, h4, h5, h6, fun j q hq => ?_⟩
  obtain ⟨A, c, a1, a2, a3, a4, a5, a6⟩ := (h7 j q hq).it
  exact ⟨A, c, tr a1 h6, tr a2 h6, a3.grown hg (fun b hb2 e => a6 b hb2 (by injection e with e; exact e.symm)), a4, a5, a6⟩
/-- The block of a stream, its cells pinned by what decode left. -/
theorem blk_pin {w w2 : World} {p k l c n kind last : Nat} {A : Option Addr} {S2 S3 bv : Value} {xs : List Nat} (hb : Blk w p 48 (stC n kind S2 S3 last bv)) (hx : StrX w2 p xs) (hd : DcX w p k A l c w2) :
    Blk w2 p 48 (stC n kind S2 S3 (k + 1) (.slice A l c)) ∧ CacheOk w2 p xs (k + 1) (.slice A l c) := by
  obtain ⟨d4, d5, d03, _⟩ := hd
  obtain ⟨last2, bv2, hs, hc, _⟩ := hx
  obtain ⟨_, _, _, _, _, h1, _⟩ := hs.it
  have e0 := d03 0 (by omega)
  have e1 := d03 1 (by omega)
  have e2 := d03 2 (by omega)
  have e3 := d03 3 (by omega)
  rw [h1.cell 0, hb.cell 0] at e0
  rw [h1.cell 1, hb.cell 1] at e1
  rw [h1.cell 2, hb.cell 2] at e2
  rw [h1.cell 3, hb.cell 3] at e3
  rw [h1.cell 4] at d4
  rw [h1.cell 5] at d5
  simp only [stC, List.getElem?_toArray, List.getElem?_cons_zero, List.getElem?_cons_succ, Option.some.injEq] at e0 e1 e2 e3 d4 d5
  have ek : last2 = k + 1 := by
    injection d4 with _ d4
    omega
  subst ek d5
  refine ⟨?_, hc⟩
  unfold stC
  rw [← e0, ← e1, ← e2, ← e3]
  exact h1

set_option maxRecDepth 100000 in
set_option maxHeartbeats 25600000 in
theorem Slice_ok (w : World) (p : Nat) (xs : List Nat) (f t : Nat) (hX : StrX w p xs) (hft : f ≤ t) (htn : t ≤ xs.length) (hl : xs.length ≤ 4096) (hx : Lt1024 xs) :
    Calls Try.prog 14 #[.pointer (some ⟨p, 0, none⟩), .int .i64 f, .int .i64 t] w fun e w' => ∃ A c, e = .returned (.tuple #[.slice A (t - f) c, .bool true]) ∧ RdN w' A (cutL xs f t) ∧ t - f ≤ c ∧ StrX w' p xs ∧ w.grownBy w' (some p) ∧ ∀ a, A = some a → w.heap.size ≤ a.block := by
  obtain ⟨last0, bv0, hS, hC, hlast⟩ := hX
  obtain ⟨Al, cl, Ap, cp, g0, hblk, _⟩ := hS.it
  obtain ⟨S2, hS2⟩ : ∃ S2, S2 = Value.slice Al (lsL xs).length cl := ⟨_, rfl⟩
  obtain ⟨S3, hS3⟩ : ∃ S3, S3 = Value.slice Ap (psL xs).length cp := ⟨_, rfl⟩
  rw [← hS2, ← hS3] at hblk
  obtain ⟨kind, hkind⟩ : ∃ kind, kind = kindL xs := ⟨_, rfl⟩
  rw [← hkind] at hblk
  have HKD := Lib.hid hkind
  have a0 : w.cell? ⟨p, 0, none⟩ = some (.int .i64 xs.length) := hblk.cell 0
  have HSW := Lib.hid hS
  have HBK0 : Hid (Blk w p 48 (stC xs.length kind S2 S3 last0 bv0)) := Lib.hid hblk
  have HCW := Lib.hid hC
  have hpw := hblk.lt
  have HXL := Lib.hid hl
  have HX := Lib.hid hx
  obtain ⟨n, hn⟩ : ∃ n, n = xs.length := ⟨_, rfl⟩
  rw [← hn] at a0 htn HBK0
  have HN := Lib.hid hn
  have hn4 : n ≤ 4096 := by omega
  obtain ⟨m, hm⟩ : ∃ m, m = t - f := ⟨_, rfl⟩
  have em : (t : Int) - (f : Int) = (m : Int) := by omega
  have hmk := make_cap m (by omega)
  have HOW := Lib.hid (ownN_cap0 w m (by omega))
  have HMM := Lib.hid hm
  have HBE1 := Lib.hid (bel9 w (.cells (madeCells (Value.int .i64 0).cells m) 3))
  have HBK1 : Hid (Blk (w.alloc (.cells (madeCells (Value.int .i64 0).cells m) 3)) p 48 (stC n kind S2 S3 last0 bv0)) := Lib.hid ((HBE1.out.block p hpw).trans HBK0.out)
  have HG1 : Hid (w.grownBy (w.alloc (.cells (madeCells (Value.int .i64 0).cells m) 3)) (some p)) := Lib.hid (World.grownBy_alloc _ _ _)
  have HC1 : Hid (CacheOk (w.alloc (.cells (madeCells (Value.int .i64 0).cells m) 3)) p xs last0 bv0) := Lib.hid (by
    rcases hC with e | ⟨k, A, c, a1, a2, a3, a4, a5, a6⟩
    · exact .inl e
    · exact .inr ⟨k, A, c, a1, a2, a3, a4.below HBE1.out, a5, a6⟩)
  have HNE1 : Hid (∀ A l c, last0 ≠ 0 → bv0 = .slice A l c → ∀ b, A = some b → (Value.slice (some ⟨w.heap.size, 0, none⟩) (@List.length Nat []) m).ownBlock ≠ some b.block) := Lib.hid (fun A l c h0 hb b hA e => by
    rcases hC with e0 | ⟨k, A', c', a1, a2, a3, a4, a5, a6⟩
    · exact h0 e0
    · rw [hb] at a3
      injection a3 with a3 _ _
      subst a3
      have h9 := a4.lt (chunk_len_pos a1) b hA
      simp only [Value.ownBlock, Option.some.injEq] at e
      omega)
  have t1 : ¬ (f : Int) < 0 := by omega
  have t2 : ¬ (t : Int) < (f : Int) := by omega
  have t3 : ¬ (n : Int) < (t : Int) := by omega
  clear hS hblk hS2 hS3 hkind hC hl hx hn hm
  go_enter Try.func14, Try.ntmps14
  go_wp2
  go_loopw [8, 9] (fun a s wr => ∃ (u : Nat) (acc : List Nat) (A5 : Option Addr) (c5 last : Nat) (bv : Value), s = .int .i64 u ∧ a = .slice A5 acc.length c5 ∧ f ≤ u ∧ u ≤ t ∧ last ≤ 100 ∧ Hid (acc = cutL xs f u) ∧ Hid (OwnN wr w.heap.size (.slice A5 acc.length c5) acc) ∧ Hid (Blk wr p 48 (stC n kind S2 S3 last bv)) ∧ Hid (CacheOk wr p xs last bv) ∧ Hid (∀ A l c, last ≠ 0 → bv = .slice A l c → ∀ b, A = some b → (Value.slice A5 acc.length c5).ownBlock ≠ some b.block) ∧ Hid (w.grownBy wr (some p))) (fun _ s _ => t - (intOf s).toNat)
  case atStart => exact ⟨f, [], _, m, last0, bv0, rfl, rfl, by omega, by omega, hlast, Lib.hid (by simp [cutL]), HOW, HBK1, HC1, HNE1, HG1⟩
  case round =>
    clear HOW HBK1 HC1 HNE1 HG1 hmk
    obtain ⟨u, acc, A5, c5, last, bv, rfl, rfl, hfu, hut, hla, HACC, HO, HBK, HCA, HNE, HG⟩ := hrel
    have HSR : Hid (StrX wr p xs) := Lib.hid ⟨last, bv, by have h9 := HSW.out; rw [← HN.out, ← HKD.out] at h9 ⊢; exact str_re h9 HBK0.out HG.out HBK.out, HCA.out, hla⟩
    have hszr := HG.out.size
    by_cases hlt : u < t
    · obtain ⟨k, hk⟩ : ∃ k, k = u / 64 := ⟨_, rfl⟩
      have hkn : k < nblk xs.length := by rw [hk, ← HN.out]; exact at_blk (by omega)
      have HDC := Lib.hid (decode_any wr p xs k HSR.out hkn HXL.out HX.out)
      obtain ⟨e, he⟩ : ∃ e, e = min t ((k + 1) * 64) := ⟨_, rfl⟩
      obtain ⟨lo, hlo⟩ : ∃ lo, lo = u - 64 * k := ⟨_, rfl⟩
      have ek : (u : Int) / 64 = (k : Int) := by omega
      have eo : (u : Int) % 64 = (lo : Int) := by omega
      have emn : min (t : Int) (((k : Int) + 1) * 64) = (e : Int) := by omega
      have hue : u < e := by omega
      have het : e ≤ t := by omega
      have he64 : e ≤ 64 * k + 64 := by omega
      have hu64 : 64 * k ≤ u := by omega
      obtain ⟨hi, hhi⟩ : ∃ hi, hi = e - 64 * k := ⟨_, rfl⟩
      have ehi : (e : Int) - (k : Int) * 64 = (hi : Int) := by omega
      have hk64 : k ≤ 64 := by omega
      have hloh : lo < hi := by omega
      have HCL := chunk_len xs k
      have hcl2 : hi ≤ (chunk xs k).length := by rw [HCL, ← HN.out]; omega
      have HYS : Hid (((chunk xs k).drop lo).take (hi - lo) = cutL xs u e) := Lib.hid (by rw [hlo, hhi, show e - 64 * k - (u - 64 * k) = e - u by omega]; exact cut_chunk hu64 (by omega) he64)
      have HYL : Hid ((((chunk xs k).drop lo).take (hi - lo)).length = hi - lo) := Lib.hid (by rw [List.length_take, List.length_drop]; omega)
      have HAC2 : Hid (acc ++ ((chunk xs k).drop lo).take (hi - lo) = cutL xs f e) := Lib.hid (by rw [HYS.out, HACC.out]; exact cutL_join hfu (by omega))
      have hacl : acc.length = u - f := by rw [HACC.out]; exact cutL_len (by rw [← HN.out]; omega)
      have HLE : Hid (acc.length + (((chunk xs k).drop lo).take (hi - lo)).length ≤ 1000000) := Lib.hid (by rw [HYL.out]; omega)
      clear hk hkn he hlo hhi HCL hacl HYS
      go_wp2_with fail
      refine HDC.out.mono ?_
      rintro ee w2 ⟨A, c, rfl, hrd, hcc, hx2, hg2, hd2⟩
      obtain ⟨hb2, hc2⟩ := blk_pin HBK.out hx2 hd2
      have HB2 := Lib.hid hb2
      have HC2 := Lib.hid hc2
      have HG2 := Lib.hid (HG.out.trans hg2)
      have hownp : (Value.slice A5 acc.length c5).ownBlock ≠ some p := fun ep => by have := (HO.out.lt _ ep).1; omega
      have HO2 : Hid (OwnN w2 w.heap.size (.slice A5 acc.length c5) acc) := Lib.hid (World.ownsRow.kept HO.out hg2 (.inr hownp))
      have HNE2 : Hid (∀ b, A = some b → (Value.slice A5 acc.length c5).ownBlock ≠ some b.block) := Lib.hid (fun b hA eb => by
        rcases hd2.2.2.2 with ⟨h4, h5⟩ | h5
        · have hbv := HBK.out.cell 5
          have hlv := HBK.out.cell 4
          rw [h5] at hbv
          rw [h4] at hlv
          simp only [stC, List.getElem?_toArray, List.getElem?_cons_zero, List.getElem?_cons_succ, Option.some.injEq] at hbv hlv
          have hl0 : last ≠ 0 := fun e0 => by
            injection hlv with _ hlv
            omega
          exact HNE.out A _ c hl0 hbv.symm b hA eb
        · have h6 := h5 b hA
          have h7 := (HO.out.lt _ eb).2
          omega)
      obtain ⟨b, o, hAe, cc⟩ := hrd (by omega)
      subst hAe
      have HRD2 := Lib.hid hrd
      have HSRC : Hid (RdN w2 (some ⟨b, o + lo, none⟩) (((chunk xs k).drop lo).take (hi - lo))) := Lib.hid (fun _ => ⟨b, _, rfl, fun j hj => by
        rw [HYL.out] at hj
        rw [Nat.add_assoc, cc (lo + j) (by omega)]
        congr 3
        rw [List.getD_eq_getElem?_getD, List.getD_eq_getElem?_getD, List.getElem?_take_of_lt hj, List.getElem?_drop]⟩)
      obtain ⟨l2, hl2⟩ : ∃ l2, l2 = (chunk xs k).length := ⟨_, rfl⟩
      have HL2 := Lib.hid hl2
      rw [← hl2] at hcc hcl2 HC2 HB2 ⊢
      obtain ⟨ys, hys⟩ : ∃ ys, ys = ((chunk xs k).drop lo).take (hi - lo) := ⟨_, rfl⟩
      rw [← hys] at HSRC HLE HYL HAC2
      have HSZ2 : Hid (w.heap.size ≤ w2.heap.size) := Lib.hid HG2.out.size
      have HRD3 := Lib.hid hrd
      have HYLS : Hid (hi - lo = ys.length) := Lib.hid HYL.out.symm
      have q1 : (lo : Int) ≤ (hi : Int) := by omega
      have q2 : (hi : Int) ≤ (c : Int) := by omega
      have q3 : (0 : Int) ≤ (lo : Int) := by omega
      have q4 : ¬ c = lo := by omega
      have q5 : IntKind.i64.wrap (((k : Int) + 1) * 64) = ((k : Int) + 1) * 64 := by rw [IntKind.wrap_i64]; omega
      clear hrd hcc hx2 hg2 hd2 hb2 hc2 cc hl2 hys HDC
      go_wp2_with (at_builtin; refine wpList_appN (.tmp 45) (.tmp 54) w.heap.size (.slice A5 acc.length c5) acc (some ⟨b, o + lo, none⟩) (hi - lo) (c - lo) ys rfl rfl (by rfl) HO2.out (by rfl) HYLS.out (fun h => by cases h) HSRC.out HLE.out HSZ2.out ?_; intro v6 w6 ho6 hb6 hg6 ha6; have HO6 := Lib.hid ho6; have HB6 := Lib.hid hb6; have HGR := Lib.hid hg6; have HA6 := Lib.hid ha6; obtain ⟨_, A6, c6, rfl, _, _, _, _⟩ := own_rd ho6; rw [HAC2.out] at HO6 HA6 ⊢; clear ho6 hb6 hg6 ha6)
      have HBK6 : Hid (Blk w6 p 48 (stC n kind S2 S3 (k + 1) (.slice (some ⟨b, o, none⟩) l2 c))) := Lib.hid ((HB6.out.block p hpw).trans HB2.out)
      have HG6 : Hid (w.grownBy w6 (some p)) := Lib.hid (grown_below HG2.out HB6.out)
      have HC6 : Hid (CacheOk w6 p xs (k + 1) (.slice (some ⟨b, o, none⟩) l2 c)) := Lib.hid (by
        rcases HC2.out with e0 | ⟨k', A', c', a1, a2, a3, a4, a5, a6⟩
        · omega
        · injection a3 with a31 a32 a33
          subst a31 a33
          exact .inr ⟨k', _, c, a1, a2, by rw [a32], a4.grownRow HGR.out (fun b' hb' => HNE2.out b' hb'), a5, a6⟩)
      have HNE6 : Hid (∀ A l c', k + 1 ≠ 0 → Value.slice (some ⟨b, o, none⟩) l2 c = .slice A l c' → ∀ b', A = some b' → (Value.slice A6 (cutL xs f e).length c6).ownBlock ≠ some b'.block) := Lib.hid (fun A l c' _ hsl b' hb' => by
        injection hsl with hsl _ _
        subst hsl
        rcases HA6.out with e1 | e1
        · rw [e1]; exact HNE2.out b' hb'
        · rw [e1]
          intro e2
          injection hb' with hb'
          subst hb'
          have h9 := HRD3.out.lt (by rw [← HL2.out]; omega) _ rfl
          injection e2 with e2
          simp only at h9 e2
          omega)
      go_roundw
      case measure => simp [intOf]; omega
      case rel => exact ⟨e, cutL xs f e, A6, c6, k + 1, _, rfl, rfl, by omega, by omega, by omega, Lib.hid rfl, HO6, HBK6, HC6, HNE6, HG6⟩
    · obtain rfl : u = t := by omega
      have HAB : Hid (∀ a, A5 = some a → w.heap.size ≤ a.block) := Lib.hid (fun a ha => (HO.out.lt a.block (by rw [ha]; rfl)).1)
      have HRES : Hid (RdN wr A5 (cutL xs f u) ∧ u - f ≤ c5 ∧ acc.length = u - f) := Lib.hid (by
        have h9 := HO.out.rd
        have h8 : acc.length = u - f := by rw [HACC.out]; exact cutL_len (by rw [← HN.out]; exact htn)
        refine ⟨?_, ?_, h8⟩
        · have h7 := h9.1
          rw [HACC.out] at h7
          exact h7
        · rw [← h8]; exact h9.2)
      rw [HRES.out.2.2]
      go_wp2
      go_ret2
      exact ⟨A5, c5, rfl, HRES.out.1, HRES.out.2.1, HSR.out, HG.out, HAB.out⟩
end Go.Proofs.Ytnldnaogbadajaa.Tb
