/- Bytes in memory: appends, rows of the call's own. -/
import Derived.Test.YtlpdligkjihkeaaVc
import Derived.Maps.AppendAt
import Derived.Laws.AppendOwnNone
import Derived.Laws.OwnMore
import Derived.Laws.CopyOwn
import Derived.Deep.RegionLawGrows
import Derived.OwnWalk
set_option linter.unusedVariables false
set_option linter.unusedSimpArgs false
namespace Go.Proofs.Ytlpdligkjihkeaa.Tb
open Go.RowKit

/-- A slice whose elements take one cell each reads as these values. -/
def Rd1 (w : World) (A : Option Addr) (vs : List Value) : Prop := 0 < vs.length → ∃ b off, A = some ⟨b, off, none⟩ ∧ ∀ j u, vs[j]? = some u → w.cell? ⟨b, off + j, none⟩ = some u
def bv (xs : List Nat) : List Value := xs.map fun (x : Nat) => Value.int .u8 (x : Int)
theorem bv_len (xs : List Nat) : (bv xs).length = xs.length := by simp [bv]
theorem bv_app (xs ys : List Nat) : bv (xs ++ ys) = bv xs ++ bv ys := by simp [bv]
theorem bv_one (xs : List Nat) : ∀ u ∈ bv xs, u.oneCell' = true := by
  intro u hu
  simp only [bv, List.mem_map] at hu
  obtain ⟨x, _, rfl⟩ := hu
  rfl
theorem bv_get {xs : List Nat} {j : Nat} {u : Value} (h : (bv xs)[j]? = some u) : j < xs.length ∧ u = .int .u8 (xs.getD j 0 : Nat) := by
  have hj : j < (bv xs).length := (List.getElem?_eq_some_iff.1 h).1
  rw [bv_len] at hj
  refine ⟨hj, ?_⟩
  simp [bv, hj] at h
  rw [List.getD_eq_getElem?_getD, List.getElem?_eq_getElem hj]
  exact h.symm
theorem RdB.rd {w : World} {A : Option Addr} {xs : List Nat} (h : RdB w A xs) : Rd1 w A (bv xs) := by
  intro hl
  rw [bv_len] at hl
  obtain ⟨b, off, e, hc⟩ := h hl
  refine ⟨b, off, e, fun j u hu => ?_⟩
  obtain ⟨hj, rfl⟩ := bv_get hu
  exact hc j hj
theorem Rd1.b {w : World} {A : Option Addr} {xs : List Nat} (h : Rd1 w A (bv xs)) : RdB w A xs := by
  intro hl
  obtain ⟨b, off, e, hc⟩ := h (by rw [bv_len]; exact hl)
  refine ⟨b, off, e, fun j hj => hc j _ ?_⟩
  simp [bv, hj]
theorem Rd1.below {w w1 : World} {A : Option Addr} {vs : List Value} (h : Rd1 w A vs) (hb : Below w.heap.size w w1) : Rd1 w1 A vs := by
  intro hl
  obtain ⟨b, off, e, hc⟩ := h hl
  refine ⟨b, off, e, fun j u hu => ?_⟩
  have h1 := hc j u hu
  rw [← h1]
  refine hb.cell (p := ⟨b, off + j, none⟩) ?_
  rcases Nat.lt_or_ge b w.heap.size with h2 | h2
  · exact h2
  · simp [World.cell?, Array.getElem?_eq_none h2] at h1
theorem addr_add (b off j : Nat) : (⟨b, off, none⟩ : Addr).add j = ⟨b, off + j, none⟩ := by unfold Addr.add; split <;> simp_all
theorem own_rd {w : World} {base : Nat} {e : TypeId} {v : Value} {n : Nat} {vs : List Value} (h : w.ownsRow base e 1 v n vs) : vs.length = n ∧ ∃ A c, v = .slice A n c ∧ Rd1 w A vs ∧ (A = none → n = 0 ∧ c = 0) ∧ n ≤ c ∧ c ≤ maxLen := by
  have hl : vs.length = n := by have := h.1; omega
  refine ⟨hl, ?_⟩
  have hcells := fun (g : Nat) => h.cells (g := g)
  rcases h.2 with ⟨rfl, rfl⟩ | ⟨g, cap, cur, rfl, hb, hh, hnc, hcm, hsz, htk⟩
  · exact ⟨none, 0, rfl, fun h => by omega, fun _ => ⟨rfl, rfl⟩, by omega, by simp [maxLen]⟩
  · refine ⟨_, cap, rfl, fun _ => ⟨g, 0, rfl, fun j u hu => ?_⟩, (fun h => by cases h), hnc, hcm⟩
    have := hcells g rfl j u hu
    rwa [addr_add] at this

/-- A row of bytes of the call's own. -/
def OwnB (w : World) (base : Nat) (v : Value) (xs : List Nat) : Prop := w.ownsRow base 5 1 v xs.length (bv xs)
theorem OwnB.nil (w : World) (base : Nat) : OwnB w base (.slice none 0 0) [] := World.ownsRow_nil _ _ _ _
theorem OwnB.rd {w : World} {base : Nat} {v : Value} {xs : List Nat} (h : OwnB w base v xs) : ∃ A c, v = .slice A xs.length c ∧ RdB w A xs ∧ (A = none → xs.length = 0 ∧ c = 0) ∧ xs.length ≤ c ∧ c ≤ maxLen := by
  obtain ⟨_, A, c, e, hr, h2, h3⟩ := own_rd h
  exact ⟨A, c, e, hr.b, h2, h3⟩
theorem ownsBelow {B : Nat} {e : TypeId} {k : Nat} {v : Value} {n : Nat} {xs : List Value} {w w' : World} (h : w.ownsRow B e k v n xs) (hb : Below w.heap.size w w') : w'.ownsRow B e k v n xs :=
  h.kept (row := none) ⟨hb.os, hb.tape, hb.output, hb.size, fun j hj _ => hb.block j hj⟩ (by cases hv : v.ownBlock <;> simp)
theorem OwnB.below {w w' : World} {base : Nat} {v : Value} {xs : List Nat} (h : OwnB w base v xs) (hb : Below w.heap.size w w') : OwnB w' base v xs := ownsBelow h hb
theorem ownsLower {w : World} {base base' n : Nat} {e : TypeId} {size : Nat} {v : Value} {xs : List Value} (h : w.ownsRow base e size v n xs) (hb : base' ≤ base) : w.ownsRow base' e size v n xs := by
  refine ⟨h.1, ?_⟩
  rcases h.2 with h2 | ⟨g, cap, cur, e1, hbg, rest⟩
  · exact .inl h2
  · exact .inr ⟨g, cap, cur, e1, by omega, rest⟩
theorem OwnB.lower {w : World} {base base' : Nat} {v : Value} {xs : List Nat} (h : OwnB w base v xs) (hb : base' ≤ base) : OwnB w base' v xs := ownsLower h hb
theorem growsBel {B : Nat} {v : Value} {n : Nat} {xs : List Value} {w w' : World} {t : TypeId} {k : Nat} (h : w.ownsRow B t k v n xs) (hB : B ≤ w.heap.size) (hg : w.grownBy w' v.ownBlock) : Below B w w' := by
  refine (Below.refl B w).grown hg hB fun j ej => ?_
  exact (h.lt j ej).1
theorem infoB : (Try.prog.info? 5).map (fun i => (i.zero, i.size, i.bytes)) = some (some (.int .u8 0), 1, 1) := by kernel_rfl

section
variable {P : Program} {w : World}
/-- append onto a row of the call's own: the source nil, empty or not. -/
theorem run_app (base : Nat) (t ty e : TypeId) (i : TypeInfo) (z : Value) (bytes : Nat) (ht : P.underlying t = some (.slice e)) (hi : P.info? e = some i) (hz : i.zero = some z)
    (hsize : i.size = 1) (hby : i.bytes = bytes) (hzs : z.cells.size = 1)
    (v : Value) (n : Nat) (vs : List Value) (hown : w.ownsRow base e 1 v n vs)
    (A : Option Addr) (m c : Nat) (news : List Value) (hA : A = none → m = 0 ∧ c = 0) (hr : Rd1 w A news) (hl : news.length = m) (h1 : ∀ u ∈ news, u.oneCell' = true)
    (h63 : n + m ≤ maxLen) (hbytes : (n + m) * bytes ≤ 140737488355328) (hbase : base ≤ w.heap.size) :
    ∃ v' w', (Builtin.append_ #[t, t] ty #[v, .slice A m c]).run P w = .ok v' w' ∧ w'.ownsRow base e 1 v' (n + m) (vs ++ news) ∧ w.grownBy w' v.ownBlock ∧ (v'.ownBlock = v.ownBlock ∨ v'.ownBlock = some w.heap.size) := by
  cases A with
  | none =>
    obtain ⟨rfl, rfl⟩ := hA rfl
    obtain rfl : news = [] := List.eq_nil_of_length_eq_zero hl
    exact ⟨v, w, run_append_owned_none (P := P) (w := w) base t ty e i 1 ht hi v n vs hown, by simpa using hown, World.grownBy.refl w _, .inl rfl⟩
  | some ad =>
    obtain ⟨v', w', hrun, h2, h3, _, h5⟩ := run_append_own_at (P := P) w base t ty e i z 1 bytes ht hi hz hsize hby hzs (by omega) v n vs hown ad m c news (by omega) (fun j u hu => by
      have hp : 0 < news.length := by
        have := (List.getElem?_eq_some_iff.1 hu).1
        omega
      obtain ⟨b, off, e1, hc⟩ := hr hp
      injection e1 with e1
      subst e1
      rw [addr_add]
      exact hc j u hu) h1 h63 hbytes hbase
    exact ⟨v', w', hrun, h2, h3, h5⟩

theorem wp_app {o : Oper} {a : Act} {K : Act → World → Prop} {Q : Exit → Act → World → Prop} (s x : Operand) (t : TypeId)
    (ho : o.op = .call { callee := .builtin .append, args := #[s, x], argTypes := #[t, t] })
    (base : Nat) (e : TypeId) (i : TypeInfo) (z : Value) (bytes : Nat) (ht : P.underlying t = some (.slice e)) (hi : P.info? e = some i) (hz : i.zero = some z)
    (hsize : i.size = 1) (hby : i.bytes = bytes) (hzs : z.cells.size = 1)
    (v : Value) (n : Nat) (vs : List Value) (hs : a.eval s = v) (hown : w.ownsRow base e 1 v n vs)
    (A : Option Addr) (m c : Nat) (news : List Value) (hx : a.eval x = .slice A m c) (hA : A = none → m = 0 ∧ c = 0) (hr : Rd1 w A news) (hl : news.length = m) (h1 : ∀ u ∈ news, u.oneCell' = true)
    (h63 : n + m ≤ maxLen) (hbytes : (n + m) * bytes ≤ 140737488355328) (hbase : base ≤ w.heap.size)
    (h : ∀ v' w', w'.ownsRow base e 1 v' (n + m) (vs ++ news) → w.grownBy w' v.ownBlock → (v'.ownBlock = v.ownBlock ∨ v'.ownBlock = some w.heap.size) → K (a.put o.dst v') w') : o.wp P a w K Q := by
  obtain ⟨v', w', hrun, h2, h3, h4⟩ := run_app (P := P) (w := w) base t o.type e i z bytes ht hi hz hsize hby hzs v n vs hown A m c news hA hr hl h1 h63 hbytes hbase
  unfold Oper.wp execOp
  simp only [ho, resolve, invoke, builtin, Sem.run_bind, Sem.run_pure, Result.andThen_ok, List.map_toArray, List.map_cons, List.map_nil, hs, hx, hrun]
  exact h v' w' h2 h3 h4
end

/-- append of bytes, in a plain region. -/
theorem wpList_appB {w : World} {ops : Array Oper} {rest : List Oper} {o : Oper} {a : Act} {Q : Exit → Act → World → Prop} (s x : Operand) (base : Nat) (v : Value) (xs : List Nat) (A : Option Addr) (c : Nat) (ys : List Nat) (hgd : o.guard = none)
    (ho : o.op = .call { callee := .builtin .append, args := #[s, x], argTypes := #[41, 41] })
    (hs : a.eval s = v) (hown : OwnB w base v xs) (hx : a.eval x = .slice A ys.length c) (hA : A = none → ys.length = 0 ∧ c = 0) (hr : RdB w A ys) (hm : xs.length + ys.length ≤ 4000000000) (hbase : base ≤ w.heap.size)
    (h : ∀ v' w', OwnB w' base v' (xs ++ ys) → Below base w w' → w.grownBy w' v.ownBlock → (v'.ownBlock = v.ownBlock ∨ v'.ownBlock = some w.heap.size) → wpList Try.prog ops Q rest (a.put o.dst v') w') : wpList Try.prog ops Q (o :: rest) a w := by
  obtain ⟨i0, hi0, hz0, hz1, hz2⟩ := info_parts infoB
  refine wpList_plain hgd fun K hK => wp_app s x _ ho base 5 i0 _ 1 Try.underlying41 hi0 hz0 hz1 hz2 rfl v xs.length (bv xs) hs hown A ys.length c (bv ys) hx hA hr.rd (bv_len ys) (bv_one ys) (by simp only [maxLen]; omega) (by omega) hbase fun v' w' h2 h3 h4 => hK _ _ (h v' w' ?_ (growsBel hown hbase h3) h3 h4)
  unfold OwnB
  rw [List.length_append, bv_app]
  exact h2

/-- The same, one step of a region that draws its order. -/
theorem step_appB {w : World} {ops : Array Oper} {o : Oper} {a : Act} {K : Act → World → Prop} {Q : Exit → Act → World → Prop} {E : Prop} (s x : Operand) (base : Nat) (v : Value) (xs : List Nat) (A : Option Addr) (c : Nat) (ys : List Nat) (hgd : o.guard = none)
    (ho : o.op = .call { callee := .builtin .append, args := #[s, x], argTypes := #[41, 41] })
    (hs : a.eval s = v) (hown : OwnB w base v xs) (hx : a.eval x = .slice A ys.length c) (hA : A = none → ys.length = 0 ∧ c = 0) (hr : RdB w A ys) (hm : xs.length + ys.length ≤ 4000000000) (hbase : base ≤ w.heap.size)
    (h : ∀ v' w', OwnB w' base v' (xs ++ ys) → Below base w w' → w.grownBy w' v.ownBlock → (v'.ownBlock = v.ownBlock ∨ v'.ownBlock = some w.heap.size) → K (a.put o.dst v') w') :
    if Region.wanted o (yielded ops a.tmps) = true then Oper.wp Try.prog o a w K Q else E := by
  have hw : Region.wanted o (yielded ops a.tmps) = true := by simp [Region.wanted, hgd]
  rw [if_pos hw]
  obtain ⟨i0, hi0, hz0, hz1, hz2⟩ := info_parts infoB
  refine wp_app s x _ ho base 5 i0 _ 1 Try.underlying41 hi0 hz0 hz1 hz2 rfl v xs.length (bv xs) hs hown A ys.length c (bv ys) hx hA hr.rd (bv_len ys) (bv_one ys) (by simp only [maxLen]; omega) (by omega) hbase fun v' w' h2 h3 h4 => h v' w' ?_ (growsBel hown hbase h3) h3 h4
  unfold OwnB
  rw [List.length_append, bv_app]
  exact h2
theorem rd_src {w : World} {b : Addr} {xs : List Nat} (hr : RdB w (some b) xs) : ∀ j u, (bv xs)[j]? = some u → w.cell? (b.add j) = some u := by
  intro j u hu
  obtain ⟨hj, rfl⟩ := bv_get hu
  obtain ⟨g, off, e, hc⟩ := hr (by omega)
  injection e with e
  subst e
  rw [addr_add]
  exact hc j hj
/-- append of bytes where it must grow: the row is new. -/
theorem step_appNewB {w : World} {ops : Array Oper} {o : Oper} {a : Act} {K : Act → World → Prop} {Q : Exit → Act → World → Prop} {E : Prop} (s x : Operand) (A : Option Addr) (cap : Nat) (xs : List Nat) (ad : Addr) (c : Nat) (ys : List Nat) (hgd : o.guard = none)
    (ho : o.op = .call { callee := .builtin .append, args := #[s, x], argTypes := #[41, 41] })
    (hs : a.eval s = .slice A xs.length cap) (hA : A = none → xs.length = 0 ∧ cap = 0) (hrx : RdB w A xs) (hx : a.eval x = .slice (some ad) ys.length c) (hr : RdB w (some ad) ys) (hfull : cap < xs.length + ys.length) (hm : xs.length + ys.length ≤ 4000000000)
    (h : ∀ v' w', OwnB w' w.heap.size v' (xs ++ ys) → Below w.heap.size w w' → K (a.put o.dst v') w') :
    if Region.wanted o (yielded ops a.tmps) = true then Oper.wp Try.prog o a w K Q else E := by
  obtain ⟨i0, hi0, hz0, hz1, hz2⟩ := info_parts infoB
  refine step_append_grows hgd s x _ ho 5 i0 _ 1 1 Try.underlying41 hi0 hz0 hz1 hz2 rfl (by omega) A xs.length cap (bv xs) hs hA (by rw [bv_len]; omega) (fun b e => by subst e; exact rd_src hrx) ad ys.length c (bv ys) hx (by rw [bv_len]; omega) (rd_src hr) (bv_one ys) hfull (by simp only [maxLen]; omega) (by omega) fun v' w' h2 h3 => h v' w' ?_ ((Below.refl _ _).grown h3 (Nat.le_refl _) (fun k hk => by cases hk))
  unfold OwnB
  rw [List.length_append, bv_app]
  exact h2
theorem rd_blk {w : World} {g : Nat} {t : TypeId} {ys : List Nat} (h : w.heap[g]? = some (.cells (bv ys).toArray t (0, 0))) : RdB w (some ⟨g, 0, none⟩) ys := fun _ => ⟨g, 0, rfl, fun j hj => by
  rw [cell_of_row w g (0 + j) _ t (0, 0) h]
  simp [bv, hj]⟩
end Go.Proofs.Ytlpdligkjihkeaa.Tb
