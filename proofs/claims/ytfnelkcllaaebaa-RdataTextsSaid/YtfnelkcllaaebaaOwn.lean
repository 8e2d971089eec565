/- Rows of the call's own: append, make. No condition. -/
import Derived.Test.YtfnelkcllaaebaaMem
import Derived.Deep.AppendLies
import Derived.Maps.AppendAt
open Go.RowKit
set_option linter.unusedVariables false
set_option linter.unusedSimpArgs false
namespace Go.Proofs.Ytfnelkcllaaebaa
/-- A slice of one-cell elements that the call itself owns, from block base on. -/
def OwnL {α : Type} (V : α → Value) (e : TypeId) (w : World) (base : Nat) (v : Value) (l : List α) : Prop := w.ownsRow base e 1 v l.length (l.map V)
theorem OwnL.nil {α : Type} (V : α → Value) (e : TypeId) (w : World) (base : Nat) : OwnL V e w base (.slice none 0 0) [] := World.ownsRow_nil w base e 1
theorem own_base {w : World} {base : Nat} {e : TypeId} {size n : Nat} {v : Value} {xs : List Value} (h : w.ownsRow base e size v n xs) (k : Nat) (hk : v.ownBlock = some k) : base ≤ k := (h.lt k hk).1
theorem OwnL.base_le {α : Type} {V : α → Value} {e : TypeId} {w : World} {base : Nat} {v : Value} {l : List α} (h : OwnL V e w base v l) (k : Nat) (hk : v.ownBlock = some k) : base ≤ k := own_base h k hk
theorem OwnL.mono {α : Type} {V : α → Value} {e : TypeId} {w : World} {base base' : Nat} {v : Value} {l : List α} (h : OwnL V e w base v l) (hb : base' ≤ base) : OwnL V e w base' v l := by
  refine ⟨h.1, ?_⟩
  rcases h.2 with h2 | ⟨g, cap, cur, h3, h4, h5⟩
  · exact .inl h2
  · exact .inr ⟨g, cap, cur, h3, by omega, h5⟩
theorem OwnL.fl {α : Type} {V : α → Value} {e : TypeId} {w : World} {base : Nat} {v : Value} {l : List α} (h : OwnL V e w base v l) : Fl V w v l := by
  have hc := fun g hg => World.ownsRow.cells h (g := g) hg
  rcases h.2 with ⟨rfl, h2⟩ | ⟨g, cap, cur, rfl, hb, hh, h1, h2, h3, h4⟩
  · obtain rfl : l = [] := List.eq_nil_of_length_eq_zero h2
    exact Fl.nil V w
  · refine ⟨_, cap, rfl, h1, by simpa [maxLen] using h2, fun _ => ⟨g, 0, rfl, fun j x hx => ?_⟩⟩
    have := hc g rfl j (V x) (by rw [List.getElem?_map, hx]; rfl)
    have ha : (⟨g, 0, none⟩ : Addr).add j = ⟨g, 0 + j, none⟩ := by unfold Addr.add; split <;> simp_all
    rwa [ha] at this
theorem grown_ext (w w1 : World) (h : Ext w w1) (row : Option Nat) : w.grownBy w1 row := ⟨Below.os h, Below.tape h, Below.output h, Below.size h, fun i hi _ => Below.block h i hi⟩
theorem OwnL.ext {α : Type} {V : α → Value} {e : TypeId} {w w1 : World} {base : Nat} {v : Value} {l : List α} (h : OwnL V e w base v l) (he : Ext w w1) : OwnL V e w1 base v l :=
  World.ownsRow.kept h (grown_ext w w1 he none) (by cases v.ownBlock <;> simp)
theorem grown_trans_ext {w0 w w1 : World} {base : Nat} {e : TypeId} {size n : Nat} {v : Value} {xs : List Value} (h : Ext w0 w) (ho : w.ownsRow base e size v n xs) (hb : w0.heap.size ≤ base) (hg : w.grownBy w1 v.ownBlock) : Ext w0 w1 :=
  h.grown hg (fun k hk => Nat.le_trans hb (own_base ho k hk))
section
variable {P : Program} {ops : Array Oper} {rest : List Oper} {o : Oper} {a : Act} {Q : Exit → Act → World → Prop}
/-- append(v, y): the goal's world is 'W.alloc' of the variadic's box. -/
theorem wpList_app1 {α : Type} (V : α → Value) {W : World} (base : Nat) (hgd : o.guard = none) (s x : Operand) (t e : TypeId) (z : Value) (bytes : Nat)
    (ho : o.op = .call { callee := .builtin .append, args := #[s, x], argTypes := #[t, t] })
    (ht : P.underlying t = some (.slice e)) (hinfo : (P.info? e).map (fun i => (i.zero, i.size, i.bytes)) = some (some z, 1, bytes)) (hz : z.cells.size = 1) (hb0 : 0 < bytes)
    (v : Value) (l : List α) (y : α) (hs : a.eval s = v) (hx : a.eval x = .slice (some ⟨W.heap.size, 0, none⟩) 1 1) (h1 : (V y).oneCell' = true)
    (HO : OwnL V e W base v l) (hbase : base ≤ W.heap.size) (hl : (l.length + 1) * bytes ≤ 140737488355328)
    (h : ∀ v1 w1, OwnL V e w1 base v1 (l ++ [y]) → W.grownBy w1 v.ownBlock → wpList P ops Q rest (a.put o.dst v1) w1) :
    wpList P ops Q (o :: rest) a (W.alloc (.cells #[V y] e)) := by
  obtain ⟨i0, hi, hzz⟩ := Option.map_eq_some_iff.1 hinfo
  simp only [Prod.mk.injEq] at hzz
  obtain ⟨hz0, hz1, hz2⟩ := hzz
  have hlen : l.length + 1 ≤ 140737488355328 := Nat.le_trans (Nat.le_mul_of_pos_right _ hb0) hl
  refine wpList_append_own_at (W.alloc (.cells #[V y] e)) hgd s x t ho base e i0 z 1 bytes ht hi hz0 hz1 hz2 hz (by omega) v l.length (l.map V) hs (World.ownsRow.alloc HO _) ⟨W.heap.size, 0, none⟩ 1 1 [V y] hx rfl
    (World.news_of_block (cs := #[V y]) (t := e) (fr := (0, 0)) (heap_alloc_new W _)) (by simpa using h1) (by simp only [maxLen]; omega) hl (by simp; omega) ?_
  intro v1 w1 hown hg _ hat
  exact h v1 w1 (by unfold OwnL; simpa using hown) (World.grownBy.trans (World.grownBy_alloc W _ _) hg)
/-- append(v, ys...), ys a slice that is read, nil let in. -/
theorem wpList_appRow {α : Type} (V : α → Value) {W : World} (base : Nat) (hgd : o.guard = none) (s x : Operand) (t e : TypeId) (z : Value) (bytes : Nat)
    (ho : o.op = .call { callee := .builtin .append, args := #[s, x], argTypes := #[t, t] })
    (ht : P.underlying t = some (.slice e)) (hinfo : (P.info? e).map (fun i => (i.zero, i.size, i.bytes)) = some (some z, 1, bytes)) (hz : z.cells.size = 1) (hb0 : 0 < bytes)
    (v : Value) (l ys : List α) (vy : Value) (hs : a.eval s = v) (hx : a.eval x = vy) (h1 : ∀ y, (V y).oneCell' = true)
    (HO : OwnL V e W base v l) (HY : Fl V W vy ys) (hbase : base ≤ W.heap.size) (hl : (l.length + ys.length) * bytes ≤ 140737488355328)
    (h : ∀ v1 w1, OwnL V e w1 base v1 (l ++ ys) → W.grownBy w1 v.ownBlock → wpList P ops Q rest (a.put o.dst v1) w1) :
    wpList P ops Q (o :: rest) a W := by
  obtain ⟨i0, hi, hzz⟩ := Option.map_eq_some_iff.1 hinfo
  simp only [Prod.mk.injEq] at hzz
  obtain ⟨hz0, hz1, hz2⟩ := hzz
  have hlen : l.length + ys.length ≤ 140737488355328 := Nat.le_trans (Nat.le_mul_of_pos_right _ hb0) hl
  have hrun : ∃ v1 w1, (Builtin.append_ #[t, t] o.type #[v, vy]).run P W = .ok v1 w1 ∧ OwnL V e w1 base v1 (l ++ ys) ∧ W.grownBy w1 v.ownBlock := by
    rcases Nat.eq_zero_or_pos ys.length with h0 | h0
    · obtain rfl : ys = [] := List.eq_nil_of_length_eq_zero h0
      obtain ⟨A, c, rfl, h2, h3, h4⟩ := HY
      rw [List.append_nil]
      have HO2 := HO
      rcases HO.2 with ⟨rfl, hn⟩ | ⟨g, cap, cur, rfl, hbg, hgg, hnc, hcm, hcs, htk⟩
      · refine ⟨.slice none 0 0, W, ?_, HO2, World.grownBy.refl W _⟩
        cases A <;> simp [Builtin.append_, run_underlying ht, sizeOf, typeInfo, hi, Builtin.lenOf, Builtin.firstCells, loadCells, loadCellsFrom]
      · refine ⟨_, W, ?_, HO2, World.grownBy.refl W _⟩
        cases A <;> simp [Builtin.append_, run_underlying ht, sizeOf, typeInfo, hi, Builtin.lenOf, Builtin.firstCells, loadCells, loadCellsFrom, hnc, storeCells]
    · obtain ⟨b, ob, c, rfl, h2, h3, hcell⟩ := HY.opens h0
      obtain ⟨v1, w1, hr, hown, hg, _, _⟩ := run_append_own_at (P := P) W base t o.type e i0 z 1 bytes ht hi hz0 hz1 hz2 hz (by omega) v l.length (l.map V) HO ⟨b, ob, none⟩ ys.length c (ys.map V) (by simp) (fun j u hu => by
        rw [List.getElem?_map] at hu
        cases hy : ys[j]? with
        | none => rw [hy] at hu; cases hu
        | some y =>
          rw [hy] at hu
          injection hu with hu
          have ha : (⟨b, ob, none⟩ : Addr).add j = ⟨b, ob + j, none⟩ := by unfold Addr.add; split <;> simp_all
          rw [ha, ← hu]
          exact hcell j y hy)
        (by intro u hu; simp only [List.mem_map] at hu; obtain ⟨q, _, rfl⟩ := hu; exact h1 q) (by simp only [maxLen]; omega) hl hbase
      exact ⟨v1, w1, hr, by unfold OwnL; simpa using hown, hg⟩
  obtain ⟨v1, w1, hr, hown, hg⟩ := hrun
  refine wpList_plain hgd fun K hK => ?_
  unfold Oper.wp execOp
  simp only [ho, resolve, invoke, builtin, Sem.run_bind, Sem.run_pure, Result.andThen_ok, List.map_toArray, List.map_cons, List.map_nil, hs, hx, hr]
  exact hK _ _ (h v1 w1 hown hg)
end
/-- A block that is not the row's own is written. -/
theorem OwnL.set_other {α : Type} {V : α → Value} {e : TypeId} {w : World} {base : Nat} {v : Value} {l : List α} (h : OwnL V e w base v l) {g : Nat} (hg : g < base) (o : Nat) (u : Value) : OwnL V e (w.setCell ⟨g, o, none⟩ u) base v l :=
  World.ownsRow.kept (row := some g) h ⟨rfl, rfl, rfl, by simp [World.setCell], fun k hk hn => Below.heap_setCell w ⟨g, o, none⟩ u k (fun e => hn (by rw [e]))⟩ (by
    cases hv : v.ownBlock with
    | none => exact .inl rfl
    | some b => exact .inr (fun e => by injection e with e; have := h.base_le b hv; omega))
theorem kp_grown {g : Nat} {w w1 : World} (h : Kp (· = g) w w1) : w.grownBy w1 (some g) := ⟨h.os, h.tape, h.output, h.size, fun i hi hn => h.block i hi (fun e => hn (by rw [e]))⟩
theorem OwnL.kp {α : Type} {V : α → Value} {e : TypeId} {w w1 : World} {base g : Nat} {v : Value} {l : List α} (h : OwnL V e w base v l) (hk : Kp (· = g) w w1) (hg : g < base) : OwnL V e w1 base v l :=
  World.ownsRow.kept h (kp_grown hk) (by
    cases hv : v.ownBlock with
    | none => exact .inl rfl
    | some b => exact .inr (fun e => by injection e with e; have := h.base_le b hv; omega))
/-- An empty literal. -/
theorem OwnL.lit0 {α : Type} (V : α → Value) (e : TypeId) (W : World) (base : Nat) (hb : base ≤ W.heap.size) : OwnL V e (W.alloc (.cells #[] e)) base (.slice (some ⟨W.heap.size, 0, none⟩) 0 0) [] := by
  unfold OwnL
  exact World.ownsRow_made W #[] 0 hb (by simp [maxLen]) (by simp)
end Go.Proofs.Ytfnelkcllaaebaa
