/- Bytes as strings; bytes.Equal; the reference's Seal and Unseal, walked. -/
import Derived.Test.YtlpdligkjihkeaaVf
import Derived.Laws.BytesArg
import Derived.Laws.BytesString
import Derived.Lib.Bytes
set_option linter.unusedVariables false
set_option linter.unusedSimpArgs false
namespace Go.Proofs.Ytlpdligkjihkeaa.Tb
open Go.RowKit

def strN (xs : List Nat) : ByteArray := strOfNums (xs.map fun (x : Nat) => (x : Int))
theorem strN_list (xs : List Nat) : (strN xs).toList = xs.map fun x => UInt8.ofNat x := by
  unfold strN
  rw [Lib.strOfNums_toList]
  simp [Lib.bytesOf]
theorem map_u8_inj : ∀ {xs ys : List Nat}, Byt xs → Byt ys → xs.map (fun x => UInt8.ofNat x) = ys.map (fun x => UInt8.ofNat x) → xs = ys
  | [], [], _, _, _ => rfl
  | [], _ :: _, _, _, h => by simp at h
  | _ :: _, [], _, _, h => by simp at h
  | x :: xs, y :: ys, hx, hy, h => by
    simp only [List.map_cons, List.cons.injEq] at h
    have e1 := congrArg UInt8.toNat h.1
    have b1 := hx x (by simp)
    have b2 := hy y (by simp)
    simp only [UInt8.toNat_ofNat'] at e1
    rw [Nat.mod_eq_of_lt (by omega), Nat.mod_eq_of_lt (by omega)] at e1
    rw [e1, map_u8_inj (fun z hz => hx z (by simp [hz])) (fun z hz => hy z (by simp [hz])) h.2]
theorem strN_eqL {xs ys : List Nat} (hx : Byt xs) (hy : Byt ys) : ((strN xs).toList == (strN ys).toList) = decide (xs = ys) := by
  rw [strN_list, strN_list]
  by_cases h : xs = ys
  · subst h; simp
  · rw [decide_eq_false h, beq_eq_false_iff_ne]
    exact fun e => h (map_u8_inj hx hy e)
theorem strN_eq {xs ys : List Nat} (hx : Byt xs) (hy : Byt ys) : (strN xs == strN ys) = decide (xs = ys) := by
  rw [beq_toListBytes, strN_eqL hx hy]
theorem conv_B {w : World} {A : Option Addr} {c : Nat} {xs : List Nat} (h : RdB w A xs) : (convert 41 9 (.slice A xs.length c)).run Try.prog w = .ok (.string (strN xs)) w := by
  by_cases h0 : 0 < xs.length
  · obtain ⟨b, o, rfl, hc⟩ := h h0
    refine run_convert_bytes_arg w 41 5 Try.underlying41 Try.underlying5 b o xs.length c (xs.map fun (x : Nat) => (x : Int)) (by simp) (fun i hi => ?_) 9 Try.underlying9
    rw [hc i hi]
    simp [List.getD_eq_getElem?_getD, hi]
  · obtain rfl : xs = [] := List.eq_nil_of_length_eq_zero (by omega)
    cases A with
    | none => exact run_convert_bytes_nil w 41 5 Try.underlying41 Try.underlying5 0 c 9 Try.underlying9
    | some ad =>
      rw [show ([] : List Nat).length = 0 from rfl, run_convert_bytes_string w 41 9 5 (some ad) 0 c Try.underlying41 Try.underlying5 Try.underlying9]
      have hl : (loadCells ad 0).run Try.prog w = .ok (([] : List Int).map (Value.int .u8)).toArray w := by
        have := run_loadCells_list (P := Try.prog) w ad [] (fun j v hj => by simp at hj)
        simpa using this
      rw [run_bytesToString w ad 0 c [] hl]
      rfl

set_option maxHeartbeats 1600000 in
theorem Equal_any (A B : Option Addr) (ca cb : Nat) (xs ys : List Nat) (w : World) (ha : RdB w A xs) (hb : RdB w B ys) (hx : Byt xs) (hy : Byt ys) :
    Calls Try.prog 40 #[.slice A xs.length ca, .slice B ys.length cb] w fun e w' => e = .returned (.bool (decide (xs = ys))) ∧ w' = w := by
  have h1 := conv_B (c := ca) ha
  have h2 := conv_B (c := cb) hb
  have h3 := strN_eqL hx hy
  have h4 := strN_eq hx hy
  obtain ⟨r, hr⟩ : ∃ r : Bool, r = decide (xs = ys) := ⟨_, rfl⟩
  rw [← hr] at h3 h4 ⊢
  obtain ⟨sx, e1⟩ : ∃ s, s = strN xs := ⟨_, rfl⟩
  obtain ⟨sy, e2⟩ : ∃ s, s = strN ys := ⟨_, rfl⟩
  rw [← e1] at h1 h3 h4
  rw [← e2] at h2 h3 h4
  obtain ⟨n, hn⟩ : ∃ n, n = xs.length := ⟨_, rfl⟩
  obtain ⟨m, hm⟩ : ∃ m, m = ys.length := ⟨_, rfl⟩
  rw [← hn] at h1 ⊢
  rw [← hm] at h2 ⊢
  clear ha hb hx hy hr e1 e2 hn hm
  go_enter Try.func40, Try.ntmps40
  go_wp2
  go_ret
  exact ⟨rfl, rfl⟩

set_option maxRecDepth 100000 in
set_option maxHeartbeats 1600000 in
theorem RSeal_any (A : Option Addr) (c : Nat) (bs : List Nat) (w : World) (ha : RdB w A bs) (hA : A = none → bs.length = 0 ∧ c = 0) (hb : Byt bs) (hm : bs.length ≤ 1000000000) :
    Calls Try.prog 42 #[.slice A bs.length c] w fun e w' => ∃ v, e = .returned v ∧ OwnB w' w.heap.size v (sealL bs) ∧ Below w.heap.size w w' := by
  have HS := Lib.hid (RSum_any A c bs w ha hb hm)
  have hlt := crc_lt bs hb
  obtain ⟨v, hv⟩ : ∃ v, v = crc bs := ⟨_, rfl⟩
  rw [← hv] at HS hlt
  have HSL : Hid (sealL bs = bs ++ sumB v) := Lib.hid (by unfold sealL; rw [hv])
  have HA := Lib.hid ha
  have HAn := Lib.hid hA
  obtain ⟨n, hn⟩ : ∃ n, n = bs.length := ⟨_, rfl⟩
  rw [← hn] at hm HS ⊢
  have HN := Lib.hid hn
  have hr4 : ∀ W : World, RdB (W.alloc (.cells #[.int .u8 ((v : Int) % 256), .int .u8 ((v : Int) / 256 % 256), .int .u8 ((v : Int) / 65536 % 256), .int .u8 ((v : Int) / 16777216)] 5)) (some ⟨W.heap.size, 0, none⟩) (sumB v) := fun W => by
    refine rd_blk (t := 5) ?_
    have e : #[Value.int .u8 ((v : Int) % 256), .int .u8 ((v : Int) / 256 % 256), .int .u8 ((v : Int) / 65536 % 256), .int .u8 ((v : Int) / 16777216)] = (bv (sumB v)).toArray := by
      simp [bv, sumB]
      omega
    rw [e]
    exact heap_alloc_new W _
  have HR4 := Lib.hid hr4
  clear ha hA hb hn hv hr4
  go_enter Try.func42, Try.ntmps42
  go_wp2_with fail
  refine HS.out.mono ?_
  rintro e w1 ⟨rfl, rfl⟩
  clear HS
  go_wp2_with (first
    | (at_builtin; refine wpList_appB (.const (.slice none 0 0)) (.tmp 6) w1.heap.size (.slice none 0 0) [] A c bs rfl rfl (by rfl) (OwnB.nil _ _) (by rw [← HN.out]; rfl) HAn.out HA.out (by rw [← HN.out]; simp; omega) (Nat.le_refl _) ?_; intro v1 w2 hown hb1 _ _; have HO1 := Lib.hid hown; have HB1 := Lib.hid hb1; clear hown hb1)
    | (at_builtin; refine wpList_appB (.tmp 7) (.tmp 19) w1.heap.size v1 ([] ++ bs) (some ⟨w2.heap.size, 0, none⟩) 4 (sumB v) rfl rfl (by rfl) (HO1.out.below (bb_alloc (Below.refl _ _) _)) (by rfl) (fun h => by cases h) (HR4.out w2) (by rw [sumB_len, List.nil_append, ← HN.out]; omega) (by have := HB1.out.size; simp; omega) ?_; intro v2 w3 hown hb2 _ _; have HO2 := Lib.hid hown; have HB2 := Lib.hid hb2; clear hown hb2))
  go_ret
  exact ⟨v2, rfl, by rw [HSL.out]; exact HO2.out, (bb_alloc HB1.out _ HB1.out.size).trans HB2.out⟩
end Go.Proofs.Ytlpdligkjihkeaa.Tb
