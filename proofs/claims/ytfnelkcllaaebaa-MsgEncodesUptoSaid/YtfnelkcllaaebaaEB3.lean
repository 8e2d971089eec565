/- Parts of one proof, joined: Idx, Own, Cut, Clone, NewS. Conditions: those that each theorem states. -/
import Derived.Test.YtfnelkcllaaebaaEB2
import Derived.Test.YtfnelkcllaaebaaEB1
import Derived.Shelf.Abstract
import Derived.Deep.AppendLies
import Derived.Maps.AppendAt
import Derived.Laws.Slices
import Derived.Deep.AppendSrc
section
/- Contracts of slices.IndexFunc and slices.ContainsFunc, whatever predicate that pays its premise. -/
open Go.RowKit
set_option linter.unusedVariables false
set_option linter.unusedSimpArgs false
namespace Go.Proofs.Ytfnelkcllaaebaa
/-- The first index of which p holds; -1: there is none. -/
def idxF {α : Type} (p : α → Bool) (l : List α) : Int := match l.findIdx? p with | some i => (i : Int) | none => -1
theorem idxF_hit {α : Type} (p : α → Bool) (l : List α) (k : Nat) (x : α) (hx : l[k]? = some x) (h : ∀ j x, j < k → l[j]? = some x → p x = false) (hp : p x = true) : (k : Int) = idxF p l := by
  obtain ⟨hlt, he⟩ := List.getElem?_eq_some_iff.1 hx
  have e : l.findIdx? p = some k := by
    rw [List.findIdx?_eq_some_iff_getElem]
    refine ⟨hlt, by rw [he]; exact hp, fun j hj => ?_⟩
    rw [h j l[j] hj (List.getElem?_eq_getElem (by omega))]
    simp
  simp [idxF, e]
theorem idxF_miss {α : Type} (p : α → Bool) (l : List α) (k : Nat) (hk : l.length ≤ k) (h : ∀ j x, j < k → l[j]? = some x → p x = false) : (-1 : Int) = idxF p l := by
  have e : l.findIdx? p = none := by
    rw [List.findIdx?_eq_none_iff]
    intro x hx
    obtain ⟨j, hj, rfl⟩ := List.getElem_of_mem hx
    exact h j _ (by omega) (List.getElem?_eq_getElem hj)
  simp [idxF, e]
theorem idxF_step {α : Type} (p : α → Bool) (l : List α) (k : Nat) (x : α) (hx : l[k]? = some x) (h : ∀ j x, j < k → l[j]? = some x → p x = false) (hp : p x = false) : ∀ j x, j < k + 1 → l[j]? = some x → p x = false := by
  intro j y hj hy
  rcases Nat.lt_or_ge j k with h1 | h1
  · exact h j y h1 hy
  · obtain rfl : j = k := by omega
    rw [hx] at hy
    injection hy with hy
    rw [← hy]; exact hp
theorem idxF_any {α : Type} (p : α → Bool) (l : List α) : decide (0 ≤ idxF p l) = l.any p := by
  unfold idxF
  cases h : l.findIdx? p with
  | none =>
    rw [List.findIdx?_eq_none_iff] at h
    have : l.any p = false := by
      rw [List.any_eq_false]
      intro x hx; simp [h x hx]
    rw [this]; simp
  | some i =>
    rw [List.findIdx?_eq_some_iff_getElem] at h
    obtain ⟨h1, h2, _⟩ := h
    have : l.any p = true := List.any_eq_true.2 ⟨l[i], List.getElem_mem h1, h2⟩
    rw [this]; simp

/-- slices.IndexFunc at ByteArray, whatever predicate. -/
theorem indexFunc_S (f : FuncId) (cap : Array Value) (eg : ∀ args w, (callFunc f args).run Try.prog w = .ok (.enter f args) w) (p : ByteArray → Bool) (v : Value) (l : List ByteArray) (w : World) (hv : NameV w v l)
    (hf : ∀ x w', x ∈ l → Ext w w' → Calls Try.prog f (#[.string x] ++ cap) w' fun e w'' => e = .returned (.bool (p x)) ∧ Ext w' w'') :
    Calls Try.prog 142 #[v, .func (.func f) #[] cap] w fun e w' => e = .returned (.int .i64 (idxF p l)) ∧ Ext w w' := by
  have hl := hv.len
  unfold maxI at hl
  have HV := Lib.hid hv
  have HF := Lib.hid hf
  obtain ⟨A, c, rfl, h1, h2⟩ := hv.form
  clear hv hf
  go_enter Try.func142, Try.ntmps142
  go_wp2
  go_loopw [5, 8] (fun u i wr => ∃ k : Nat, k ≤ l.length ∧ i = .int .i64 k ∧ Hid (∀ j x, j < k → l[j]? = some x → p x = false) ∧ Ext w wr) (fun _ i _ => l.length - (intOf i).toNat)
  case atStart => exact ⟨0, by omega, rfl, by intro j x hx; omega, Ext.refl _⟩
  case round =>
    obtain ⟨k, hk, rfl, hT, hE⟩ := hrel
    by_cases hlt : k < l.length
    · obtain ⟨b, o, c1, e1, _, _, hc1⟩ := HV.out.opens (by omega)
      injection e1 with e1 e3 e4
      subst e1
      clear e3 e4
      have hx := List.getElem?_eq_getElem hlt
      have hcx := hE.cell (hc1 k _ hx)
      have hcall := HF.out _ wr (List.mem_of_getElem? hx) hE
      have HX := Lib.hid hx
      clear hx hc1
      generalize l[k] = x at *
      cases hq : p x with
      | true =>
        rw [hq] at hcall
        have HQ := Lib.hid hq
        clear hq
        go_wp2_with (go_at_fn f; refine hcall.mono ?_; rintro e w' ⟨rfl, hb'⟩)
        go_ret
        exact ⟨ret_eq (int_eq (idxF_hit p l k x HX.out hT.out HQ.out)), hE.trans hb'⟩
      | false =>
        rw [hq] at hcall
        have HQ := Lib.hid hq
        clear hq
        go_wp2_with (go_at_fn f; refine hcall.mono ?_; rintro e w' ⟨rfl, hb'⟩)
        go_roundw
        case rel => exact ⟨k + 1, by omega, by go_num, idxF_step p l k x HX.out hT.out HQ.out, hE.trans hb'⟩
        case measure => simp [intOf]; omega
    · have HE := Lib.hid (idxF_miss p l k (by omega) hT.out)
      go_wp2
      go_ret
      exact ⟨ret_eq (int_eq HE.out), hE⟩
/-- slices.ContainsFunc at ByteArray. -/
theorem containsFunc_S (f : FuncId) (cap : Array Value) (eg : ∀ args w, (callFunc f args).run Try.prog w = .ok (.enter f args) w) (p : ByteArray → Bool) (v : Value) (l : List ByteArray) (w : World) (hv : NameV w v l)
    (hf : ∀ x w', x ∈ l → Ext w w' → Calls Try.prog f (#[.string x] ++ cap) w' fun e w'' => e = .returned (.bool (p x)) ∧ Ext w' w'') :
    Calls Try.prog 95 #[v, .func (.func f) #[] cap] w fun e w' => e = .returned (.bool (l.any p)) ∧ Ext w w' := by
  have HI := Lib.hid (indexFunc_S f cap eg p v l w hv hf)
  have HE := Lib.hid (idxF_any p l)
  clear hv hf
  go_enter Try.func95, Try.ntmps95
  go_wp2_with (go_at_call 142; refine (HI.out).mono ?_; rintro e w' ⟨rfl, hE⟩)
  go_ret
  exact ⟨ret_eq (bool_eq HE.out), hE⟩

/-- slices.IndexFunc at Int, whatever predicate. -/
theorem indexFunc_I (f : FuncId) (cap : Array Value) (eg : ∀ args w, (callFunc f args).run Try.prog w = .ok (.enter f args) w) (p : Int → Bool) (v : Value) (l : List Int) (w : World) (hv : IntsV w v l)
    (hf : ∀ x w', x ∈ l → Ext w w' → Calls Try.prog f (#[.int .i64 x] ++ cap) w' fun e w'' => e = .returned (.bool (p x)) ∧ Ext w' w'') :
    Calls Try.prog 141 #[v, .func (.func f) #[] cap] w fun e w' => e = .returned (.int .i64 (idxF p l)) ∧ Ext w w' := by
  have hl := hv.len
  unfold maxI at hl
  have HV := Lib.hid hv
  have HF := Lib.hid hf
  obtain ⟨A, c, rfl, h1, h2⟩ := hv.form
  clear hv hf
  go_enter Try.func141, Try.ntmps141
  go_wp2
  go_loopw [5, 8] (fun u i wr => ∃ k : Nat, k ≤ l.length ∧ i = .int .i64 k ∧ Hid (∀ j x, j < k → l[j]? = some x → p x = false) ∧ Ext w wr) (fun _ i _ => l.length - (intOf i).toNat)
  case atStart => exact ⟨0, by omega, rfl, by intro j x hx; omega, Ext.refl _⟩
  case round =>
    obtain ⟨k, hk, rfl, hT, hE⟩ := hrel
    by_cases hlt : k < l.length
    · obtain ⟨b, o, c1, e1, _, _, hc1⟩ := HV.out.opens (by omega)
      injection e1 with e1 e3 e4
      subst e1
      clear e3 e4
      have hx := List.getElem?_eq_getElem hlt
      have hcx := hE.cell (hc1 k _ hx)
      have hcall := HF.out _ wr (List.mem_of_getElem? hx) hE
      have HX := Lib.hid hx
      clear hx hc1
      generalize l[k] = x at *
      cases hq : p x with
      | true =>
        rw [hq] at hcall
        have HQ := Lib.hid hq
        clear hq
        go_wp2_with (go_at_fn f; refine hcall.mono ?_; rintro e w' ⟨rfl, hb'⟩)
        go_ret
        exact ⟨ret_eq (int_eq (idxF_hit p l k x HX.out hT.out HQ.out)), hE.trans hb'⟩
      | false =>
        rw [hq] at hcall
        have HQ := Lib.hid hq
        clear hq
        go_wp2_with (go_at_fn f; refine hcall.mono ?_; rintro e w' ⟨rfl, hb'⟩)
        go_roundw
        case rel => exact ⟨k + 1, by omega, by go_num, idxF_step p l k x HX.out hT.out HQ.out, hE.trans hb'⟩
        case measure => simp [intOf]; omega
    · have HE := Lib.hid (idxF_miss p l k (by omega) hT.out)
      go_wp2
      go_ret
      exact ⟨ret_eq (int_eq HE.out), hE⟩
/-- slices.ContainsFunc at Int. -/
theorem containsFunc_I (f : FuncId) (cap : Array Value) (eg : ∀ args w, (callFunc f args).run Try.prog w = .ok (.enter f args) w) (p : Int → Bool) (v : Value) (l : List Int) (w : World) (hv : IntsV w v l)
    (hf : ∀ x w', x ∈ l → Ext w w' → Calls Try.prog f (#[.int .i64 x] ++ cap) w' fun e w'' => e = .returned (.bool (p x)) ∧ Ext w' w'') :
    Calls Try.prog 92 #[v, .func (.func f) #[] cap] w fun e w' => e = .returned (.bool (l.any p)) ∧ Ext w w' := by
  have HI := Lib.hid (indexFunc_I f cap eg p v l w hv hf)
  have HE := Lib.hid (idxF_any p l)
  clear hv hf
  go_enter Try.func92, Try.ntmps92
  go_wp2_with (go_at_call 141; refine (HI.out).mono ?_; rintro e w' ⟨rfl, hE⟩)
  go_ret
  exact ⟨ret_eq (bool_eq HE.out), hE⟩
end Go.Proofs.Ytfnelkcllaaebaa
end
section
/- Rows of the call's own: append, make. No condition. -/
open Go.RowKit
set_option linter.unusedVariables false
set_option linter.unusedSimpArgs false
namespace Go.Proofs.Ytfnelkcllaaebaa
/-- A slice of one-cell elements that the call itself owns, from block base on. -/
def OwnL {α : Type} (V : α → Value) (e : TypeId) (w : World) (base : Nat) (v : Value) (l : List α) : Prop := w.ownsRow base e 1 v l.length (l.map V)
theorem OwnL.nil {α : Type} (V : α → Value) (e : TypeId) (w : World) (base : Nat) : OwnL V e w base (.slice none 0 0) [] := World.ownsRow_nil w base e 1
theorem own_base {w : World} {base : Nat} {e : TypeId} {size n : Nat} {v : Value} {xs : List Value} (h : w.ownsRow base e size v n xs) (k : Nat) (hk : v.ownBlock = some k) : base ≤ k := (h.lt k hk).1
theorem OwnL.base_le {α : Type} {V : α → Value} {e : TypeId} {w : World} {base : Nat} {v : Value} {l : List α} (h : OwnL V e w base v l) (k : Nat) (hk : v.ownBlock = some k) : base ≤ k := own_base h k hk
theorem OwnL.mono {α : Type} {V : α → Value} {e : TypeId} {w : World} {base base' : Nat} {v : Value} {l : List α} (h : OwnL V e w base v l) (hb : base' ≤ base) : OwnL V e w base' v l := by
  refine ⟨h.1, ?_⟩
  rcases h.2 with h2 | ⟨g, cap, cur, h3, h4, h5⟩
  · exact .inl h2
  · exact .inr ⟨g, cap, cur, h3, by omega, h5⟩
theorem OwnL.fl {α : Type} {V : α → Value} {e : TypeId} {w : World} {base : Nat} {v : Value} {l : List α} (h : OwnL V e w base v l) : Fl V w v l := by
  have hc := fun g hg => World.ownsRow.cells h (g := g) hg
  rcases h.2 with ⟨rfl, h2⟩ | ⟨g, cap, cur, rfl, hb, hh, h1, h2, h3, h4⟩
  · obtain rfl : l = [] := List.eq_nil_of_length_eq_zero h2
    exact Fl.nil V w
  · refine ⟨_, cap, rfl, h1, by simpa [maxLen] using h2, fun _ => ⟨g, 0, rfl, fun j x hx => ?_⟩⟩
    have := hc g rfl j (V x) (by rw [List.getElem?_map, hx]; rfl)
    have ha : (⟨g, 0, none⟩ : Addr).add j = ⟨g, 0 + j, none⟩ := by unfold Addr.add; split <;> simp_all
    rwa [ha] at this
theorem grown_ext (w w1 : World) (h : Ext w w1) (row : Option Nat) : w.grownBy w1 row := ⟨Below.os h, Below.tape h, Below.output h, Below.size h, fun i hi _ => Below.block h i hi⟩
theorem OwnL.ext {α : Type} {V : α → Value} {e : TypeId} {w w1 : World} {base : Nat} {v : Value} {l : List α} (h : OwnL V e w base v l) (he : Ext w w1) : OwnL V e w1 base v l :=
  World.ownsRow.kept h (grown_ext w w1 he none) (by cases v.ownBlock <;> simp)
theorem grown_trans_ext {w0 w w1 : World} {base : Nat} {e : TypeId} {size n : Nat} {v : Value} {xs : List Value} (h : Ext w0 w) (ho : w.ownsRow base e size v n xs) (hb : w0.heap.size ≤ base) (hg : w.grownBy w1 v.ownBlock) : Ext w0 w1 :=
  h.grown hg (fun k hk => Nat.le_trans hb (own_base ho k hk))
section
variable {P : Program} {ops : Array Oper} {rest : List Oper} {o : Oper} {a : Act} {Q : Exit → Act → World → Prop}
/-- append(v, y): the goal's world is 'W.alloc' of the variadic's box. -/
theorem wpList_app1 {α : Type} (V : α → Value) {W : World} (base : Nat) (hgd : o.guard = none) (s x : Operand) (t e : TypeId) (z : Value) (bytes : Nat)
    (ho : o.op = .call { callee := .builtin .append, args := #[s, x], argTypes := #[t, t] })
    (ht : P.underlying t = some (.slice e)) (hinfo : (P.info? e).map (fun i => (i.zero, i.size, i.bytes)) = some (some z, 1, bytes)) (hz : z.cells.size = 1) (hb0 : 0 < bytes)
    (v : Value) (l : List α) (y : α) (hs : a.eval s = v) (hx : a.eval x = .slice (some ⟨W.heap.size, 0, none⟩) 1 1) (h1 : (V y).oneCell' = true)
    (HO : OwnL V e W base v l) (hbase : base ≤ W.heap.size) (hl : (l.length + 1) * bytes ≤ 140737488355328)
    (h : ∀ v1 w1, OwnL V e w1 base v1 (l ++ [y]) → W.grownBy w1 v.ownBlock → wpList P ops Q rest (a.put o.dst v1) w1) :
    wpList P ops Q (o :: rest) a (W.alloc (.cells #[V y] e)) := by
  obtain ⟨i0, hi, hzz⟩ := Option.map_eq_some_iff.1 hinfo
  simp only [Prod.mk.injEq] at hzz
  obtain ⟨hz0, hz1, hz2⟩ := hzz
  have hlen : l.length + 1 ≤ 140737488355328 := Nat.le_trans (Nat.le_mul_of_pos_right _ hb0) hl
  refine wpList_append_own_at (W.alloc (.cells #[V y] e)) hgd s x t ho base e i0 z 1 bytes ht hi hz0 hz1 hz2 hz (by omega) v l.length (l.map V) hs (World.ownsRow.alloc HO _) ⟨W.heap.size, 0, none⟩ 1 1 [V y] hx rfl
    (World.news_of_block (cs := #[V y]) (t := e) (fr := (0, 0)) (heap_alloc_new W _)) (by simpa using h1) (by simp only [maxLen]; omega) hl (by simp; omega) ?_
  intro v1 w1 hown hg _ hat
  exact h v1 w1 (by unfold OwnL; simpa using hown) (World.grownBy.trans (World.grownBy_alloc W _ _) hg)
/-- append(v, ys...), ys a slice that is read, nil let in. -/
theorem wpList_appRow {α : Type} (V : α → Value) {W : World} (base : Nat) (hgd : o.guard = none) (s x : Operand) (t e : TypeId) (z : Value) (bytes : Nat)
    (ho : o.op = .call { callee := .builtin .append, args := #[s, x], argTypes := #[t, t] })
    (ht : P.underlying t = some (.slice e)) (hinfo : (P.info? e).map (fun i => (i.zero, i.size, i.bytes)) = some (some z, 1, bytes)) (hz : z.cells.size = 1) (hb0 : 0 < bytes)
    (v : Value) (l ys : List α) (vy : Value) (hs : a.eval s = v) (hx : a.eval x = vy) (h1 : ∀ y, (V y).oneCell' = true)
    (HO : OwnL V e W base v l) (HY : Fl V W vy ys) (hbase : base ≤ W.heap.size) (hl : (l.length + ys.length) * bytes ≤ 140737488355328)
    (h : ∀ v1 w1, OwnL V e w1 base v1 (l ++ ys) → W.grownBy w1 v.ownBlock → wpList P ops Q rest (a.put o.dst v1) w1) :
    wpList P ops Q (o :: rest) a W := by
  obtain ⟨i0, hi, hzz⟩ := Option.map_eq_some_iff.1 hinfo
  simp only [Prod.mk.injEq] at hzz
  obtain ⟨hz0, hz1, hz2⟩ := hzz
  have hlen : l.length + ys.length ≤ 140737488355328 := Nat.le_trans (Nat.le_mul_of_pos_right _ hb0) hl
  have hrun : ∃ v1 w1, (Builtin.append_ #[t, t] o.type #[v, vy]).run P W = .ok v1 w1 ∧ OwnL V e w1 base v1 (l ++ ys) ∧ W.grownBy w1 v.ownBlock := by
    rcases Nat.eq_zero_or_pos ys.length with h0 | h0
    · obtain rfl : ys = [] := List.eq_nil_of_length_eq_zero h0
      obtain ⟨A, c, rfl, h2, h3, h4⟩ := HY
      rw [List.append_nil]
      have HO2 := HO
      rcases HO.2 with ⟨rfl, hn⟩ | ⟨g, cap, cur, rfl, hbg, hgg, hnc, hcm, hcs, htk⟩
      · refine ⟨.slice none 0 0, W, ?_, HO2, World.grownBy.refl W _⟩
        cases A <;> simp [Builtin.append_, run_underlying ht, sizeOf, typeInfo, hi, Builtin.lenOf, Builtin.firstCells, loadCells, loadCellsFrom]
      · refine ⟨_, W, ?_, HO2, World.grownBy.refl W _⟩
        cases A <;> simp [Builtin.append_, run_underlying ht, sizeOf, typeInfo, hi, Builtin.lenOf, Builtin.firstCells, loadCells, loadCellsFrom, hnc, storeCells]
    · obtain ⟨b, ob, c, rfl, h2, h3, hcell⟩ := HY.opens h0
      obtain ⟨v1, w1, hr, hown, hg, _, _⟩ := run_append_own_at (P := P) W base t o.type e i0 z 1 bytes ht hi hz0 hz1 hz2 hz (by omega) v l.length (l.map V) HO ⟨b, ob, none⟩ ys.length c (ys.map V) (by simp) (fun j u hu => by
        rw [List.getElem?_map] at hu
        cases hy : ys[j]? with
        | none => rw [hy] at hu; cases hu
        | some y =>
          rw [hy] at hu
          injection hu with hu
          have ha : (⟨b, ob, none⟩ : Addr).add j = ⟨b, ob + j, none⟩ := by unfold Addr.add; split <;> simp_all
          rw [ha, ← hu]
          exact hcell j y hy)
        (by intro u hu; simp only [List.mem_map] at hu; obtain ⟨q, _, rfl⟩ := hu; exact h1 q) (by simp only [maxLen]; omega) hl hbase
      exact ⟨v1, w1, hr, by unfold OwnL; simpa using hown, hg⟩
  obtain ⟨v1, w1, hr, hown, hg⟩ := hrun
  refine wpList_plain hgd fun K hK => ?_
  unfold Oper.wp execOp
  simp only [ho, resolve, invoke, builtin, Sem.run_bind, Sem.run_pure, Result.andThen_ok, List.map_toArray, List.map_cons, List.map_nil, hs, hx, hr]
  exact hK _ _ (h v1 w1 hown hg)
end
/-- A block that is not the row's own is written. -/
theorem OwnL.set_other {α : Type} {V : α → Value} {e : TypeId} {w : World} {base : Nat} {v : Value} {l : List α} (h : OwnL V e w base v l) {g : Nat} (hg : g < base) (o : Nat) (u : Value) : OwnL V e (w.setCell ⟨g, o, none⟩ u) base v l :=
  World.ownsRow.kept (row := some g) h ⟨rfl, rfl, rfl, by simp [World.setCell], fun k hk hn => Below.heap_setCell w ⟨g, o, none⟩ u k (fun e => hn (by rw [e]))⟩ (by
    cases hv : v.ownBlock with
    | none => exact .inl rfl
    | some b => exact .inr (fun e => by injection e with e; have := h.base_le b hv; omega))
/-- An empty literal. -/
theorem OwnL.lit0 {α : Type} (V : α → Value) (e : TypeId) (W : World) (base : Nat) (hb : base ≤ W.heap.size) : OwnL V e (W.alloc (.cells #[] e)) base (.slice (some ⟨W.heap.size, 0, none⟩) 0 0) [] := by
  unfold OwnL
  exact World.ownsRow_made W #[] 0 hb (by simp [maxLen]) (by simp)
end Go.Proofs.Ytfnelkcllaaebaa
end
section
/- Cuts of slices. No condition. -/
open Go.RowKit
set_option linter.unusedVariables false
set_option linter.unusedSimpArgs false
namespace Go.Proofs.Ytfnelkcllaaebaa
theorem add_flat (b o n : Nat) : (⟨b, o, none⟩ : Addr).add n = ⟨b, o + n, none⟩ := by unfold Addr.add; split <;> simp_all
theorem Fl.sliced {α : Type} {V : α → Value} {w : World} {A : Option Addr} {n c lo hi m : Nat} {l : List α} (h : Fl V w (.slice A n c) l) (h1 : lo ≤ hi) (h2 : hi ≤ l.length) (h3 : hi ≤ m) (h4 : m ≤ c) :
    Fl V w (Go.sliced A lo hi m 1) ((l.take hi).drop lo) := by
  obtain ⟨A', c', e, h5, h6, h7⟩ := h
  injection e with e1 e2 e3
  subst e1 e2 e3
  have hlen : ((l.take hi).drop lo).length = hi - lo := by simp; omega
  refine ⟨_, m - lo, by rw [hlen]; rfl, by rw [hlen]; omega, by omega, fun hl => ?_⟩
  rw [hlen] at hl
  obtain ⟨b, o, rfl, hc⟩ := h7 (by omega)
  refine ⟨b, o + lo, ?_, fun j x hx => ?_⟩
  · rw [if_neg (by omega), Option.map_some, Nat.mul_one, add_flat]
  · rw [List.getElem?_drop, List.getElem?_take] at hx
    split at hx
    · have := hc (lo + j) x hx
      rwa [← Nat.add_assoc] at this
    · cases hx
theorem size22 (w : World) : (sizeOf (Try.prog.elem 22)).run Try.prog w = .ok 1 w := by kernel_rfl
theorem size23 (w : World) : (sizeOf (Try.prog.elem 23)).run Try.prog w = .ok 1 w := by kernel_rfl
theorem elem22 : Try.prog.underlying 22 = some (.slice (Try.prog.elem 22)) := by kernel_rfl
theorem elem23 : Try.prog.underlying 23 = some (.slice (Try.prog.elem 23)) := by kernel_rfl
section
variable {α : Type} {V : α → Value} {w : World} {v : Value} {l : List α} {t : TypeId}
theorem cut_l (ht : Try.prog.underlying t = some (.slice (Try.prog.elem t))) (hs : ∀ w, (sizeOf (Try.prog.elem t)).run Try.prog w = .ok 1 w) (h : Fl V w v l) (lo : Int) (h0 : 0 ≤ lo) (h2 : lo ≤ (l.length : Int)) :
    ∃ v', (∀ W, (Instr.slice t v (some (.int .i64 lo)) none none).run Try.prog W = .ok v' W) ∧ Fl V w v' (l.drop lo.toNat) := by
  obtain ⟨A, c, rfl, hl, hc⟩ := h.form
  have := h.sliced (m := c) (lo := lo.toNat) (hi := l.length) (by omega) (by omega) (by omega) (Nat.le_refl _)
  rw [List.take_length] at this
  refine ⟨_, fun W => ?_, this⟩
  rw [run_slice_l W t A l.length c ht .i64 lo h0 h2, hs W]
  rfl
end
end Go.Proofs.Ytfnelkcllaaebaa
end
section
/- Contracts of slices.Clone, bytes.Clone. No condition but that the slice reads as a list, and the room. -/
open Go.RowKit
set_option linter.unusedVariables false
set_option linter.unusedSimpArgs false
namespace Go.Proofs.Ytfnelkcllaaebaa
/-- A new slice that reads as l. -/
def NewL {α : Type} (V : α → Value) (e : TypeId) (w : World) (l : List α) (en : Ending) (w' : World) : Prop := ∃ v, en = .returned v ∧ OwnL V e w' w.heap.size v l ∧ Ext w w'
theorem newL_mk {α : Type} {V : α → Value} {e : TypeId} {w w1 : World} {l : List α} {v : Value} {en : Ending} (he : en = .returned v) (h : OwnL V e w1 w.heap.size v l) (hE : Ext w w1) : NewL V e w l en w1 := ⟨v, he, h, hE⟩

/-- clone_B. -/
theorem clone_B (v : Value) (l : List UInt8) (w : World) (hv : Fl vByte w v l) (hl : l.length * 1 ≤ 140737488355328) :
    Calls Try.prog 123 #[v] w (NewL vByte 5 w l) := by
  have HV := Lib.hid hv
  obtain ⟨A, c, rfl, h1, h2⟩ := hv.form
  clear hv
  have qT : ∀ (w : World) (a : Option Addr) (n c n' c' : Nat), (binOp .eql 22 (.slice a n c) (.slice none n' c')).run Try.prog w = .ok (.bool a.isNone) w := fun w a n c n' c' => Lib.run_eql_slice_nil w _ _ a n c n' c' Try.underlying22
  cases A with
  | none =>
    have h0 : l = [] := by
      rcases Nat.eq_zero_or_pos l.length with h | h
      · exact List.eq_nil_of_length_eq_zero h
      · obtain ⟨b, o, c', e, _⟩ := HV.out.opens h
        cases e
    subst h0
    go_enter Try.func123, Try.ntmps123
    go_wp2
    go_ret
    exact newL_mk rfl (OwnL.nil _ _ _ _) (Ext.refl _)
  | some ad =>
    have HO := Lib.hid (OwnL.lit0 vByte 5 w w.heap.size (Nat.le_refl _))
    have HY := Lib.hid (HV.out.ext ((Ext.refl w).alloc (.cells #[] 5)))
    have HX := Lib.hid ((Ext.refl w).alloc (.cells #[] 5))
    have hl' : (0 + l.length) * 1 ≤ 140737488355328 := by omega
    have HL := Lib.hid hl'
    clear hl' hl
    go_enter Try.func123, Try.ntmps123
    go_wp2_with (at_builtin; refine wpList_appRow vByte w.heap.size rfl (.tmp 5) (.tmp 6) 22 5 (.int .u8 0) 1 rfl Try.underlying22 (by kernel_rfl) rfl (by decide) _ [] l _ rfl rfl (fun _ => rfl) HO.out HY.out (by simp) HL.out ?_; intro v1 w1 hO1 hg1)
    go_ret
    exact newL_mk rfl hO1 (grown_trans_ext HX.out HO.out (Nat.le_refl _) hg1)

end Go.Proofs.Ytfnelkcllaaebaa
end
section
/- append to an empty literal: what comes is new, the rest stands. No condition. -/
open Go.RowKit
set_option linter.unusedVariables false
set_option linter.unusedSimpArgs false
namespace Go.Proofs.Ytfnelkcllaaebaa
/-- A slice that reads as l; if it has an element, its row is the call's own. -/
def NewS {α : Type} (V : α → Value) (e : TypeId) (w : World) (base : Nat) (v : Value) (l : List α) : Prop := Fl V w v l ∧ (l ≠ [] → OwnL V e w base v l)
theorem NewS.ext {α : Type} {V : α → Value} {e : TypeId} {w w1 : World} {base : Nat} {v : Value} {l : List α} (h : NewS V e w base v l) (he : Ext w w1) : NewS V e w1 base v l := ⟨h.1.ext he, fun hl => (h.2 hl).ext he⟩
theorem fl_empty {α : Type} (V : α → Value) (w : World) (A : Option Addr) : Fl V w (.slice A 0 0) [] := ⟨A, 0, rfl, by simp, by simp, by simp⟩
section
variable {P : Program} {ops : Array Oper} {rest : List Oper} {o : Oper} {a : Act} {Q : Exit → Act → World → Prop}
theorem wpList_app0 {α : Type} (V : α → Value) {W : World} (hgd : o.guard = none) (s x : Operand) (t e : TypeId) (z : Value) (bytes : Nat)
    (ho : o.op = .call { callee := .builtin .append, args := #[s, x], argTypes := #[t, t] })
    (ht : P.underlying t = some (.slice e)) (hinfo : (P.info? e).map (fun i => (i.zero, i.size, i.bytes)) = some (some z, 1, bytes)) (hz : z.cells.size = 1) (hb0 : 0 < bytes)
    (A0 : Option Addr) (ys : List α) (vy : Value) (hs : a.eval s = .slice A0 0 0) (hx : a.eval x = vy) (h1 : ∀ y, (V y).oneCell' = true)
    (HY : Fl V W vy ys) (hl : ys.length * bytes ≤ 140737488355328)
    (h : ∀ v1 w1, NewS V e w1 W.heap.size v1 ys → Ext W w1 → wpList P ops Q rest (a.put o.dst v1) w1) :
    wpList P ops Q (o :: rest) a W := by
  obtain ⟨i0, hi, hzz⟩ := Option.map_eq_some_iff.1 hinfo
  simp only [Prod.mk.injEq] at hzz
  obtain ⟨hz0, hz1, hz2⟩ := hzz
  have hlen : ys.length ≤ 140737488355328 := Nat.le_trans (Nat.le_mul_of_pos_right _ hb0) hl
  have hrun : ∃ v1 w1, (Builtin.append_ #[t, t] o.type #[.slice A0 0 0, vy]).run P W = .ok v1 w1 ∧ NewS V e w1 W.heap.size v1 ys ∧ Ext W w1 := by
    rcases Nat.eq_zero_or_pos ys.length with h0 | h0
    · obtain rfl : ys = [] := List.eq_nil_of_length_eq_zero h0
      obtain ⟨A, c, rfl, h2, h3, h4⟩ := HY
      refine ⟨.slice A0 0 0, W, ?_, ⟨fl_empty V W A0, fun h => absurd rfl h⟩, Ext.refl W⟩
      cases A <;> cases A0 <;> simp [Builtin.append_, run_underlying ht, sizeOf, typeInfo, hi, Builtin.lenOf, Builtin.firstCells, loadCells, loadCellsFrom, storeCells]
    · obtain ⟨b, ob, c, rfl, h2, h3, hcell⟩ := HY.opens h0
      obtain ⟨v1, w1, hr, hown, hg, _, _⟩ := run_append_own_at (P := P) W W.heap.size t o.type e i0 z 1 bytes ht hi hz0 hz1 hz2 hz (by omega) (.slice none 0 0) 0 [] (World.ownsRow_nil W W.heap.size e 1) ⟨b, ob, none⟩ ys.length c (ys.map V) (by simp) (fun j u hu => by
        rw [List.getElem?_map] at hu
        cases hy : ys[j]? with
        | none => rw [hy] at hu; cases hu
        | some y =>
          rw [hy] at hu
          injection hu with hu
          have ha : (⟨b, ob, none⟩ : Addr).add j = ⟨b, ob + j, none⟩ := by unfold Addr.add; split <;> simp_all
          rw [ha, ← hu]
          exact hcell j y hy)
        (by intro u hu; simp only [List.mem_map] at hu; obtain ⟨q, _, rfl⟩ := hu; exact h1 q) (by simp only [maxLen]; omega) (by simpa using hl) (Nat.le_refl _)
      have hO : OwnL V e w1 W.heap.size v1 ys := by unfold OwnL; simpa using hown
      refine ⟨v1, w1, ?_, ⟨hO.fl, fun _ => hO⟩, (Ext.refl W).grown hg (by intro k hk; cases hk)⟩
      rw [← hr]
      have hsrc : Src P i0.size t (.slice (some ⟨b, ob, none⟩) ys.length c) ys.length (ys.map V) W := by
        refine Src.ofSlice W ht _ _ _ _ (by rw [hz1]; simp) (fun j u hu => ?_) (by intro u hu; simp only [List.mem_map] at hu; obtain ⟨q, _, rfl⟩ := hu; exact h1 q)
        rw [List.getElem?_map] at hu
        cases hy : ys[j]? with
        | none => rw [hy] at hu; cases hu
        | some y =>
          rw [hy] at hu
          injection hu with hu
          have ha : (⟨b, ob, none⟩ : Addr).add j = ⟨b, ob + j, none⟩ := by unfold Addr.add; split <;> simp_all
          rw [ha, ← hu]
          exact hcell j y hy
      have hgo : ∀ A1 : Option Addr, _ := fun A1 => run_append_grow_src (P := P) W t t o.type e i0 z ht hi hz0 A1 0 0 [] (by cases A1 <;> simp [Builtin.firstCells, loadCells, loadCellsFrom]) _ _ _ hsrc (by omega) (by omega) (by rw [hz2, Nat.zero_add]; exact growslice_fits (by omega) hl)
      rw [hgo A0, hgo none]
  obtain ⟨v1, w1, hr, hown, hg⟩ := hrun
  refine wpList_plain hgd fun K hK => ?_
  unfold Oper.wp execOp
  simp only [ho, resolve, invoke, builtin, Sem.run_bind, Sem.run_pure, Result.andThen_ok, List.map_toArray, List.map_cons, List.map_nil, hs, hx, hr]
  exact hK _ _ (h v1 w1 hown hg)
end
end Go.Proofs.Ytfnelkcllaaebaa
end
