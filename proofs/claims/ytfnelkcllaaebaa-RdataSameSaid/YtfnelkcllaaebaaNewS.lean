/- append to an empty literal: what comes is new, the rest stands. No condition. -/
import Derived.Test.YtfnelkcllaaebaaOwn
import Derived.Deep.AppendSrc
open Go.RowKit
set_option linter.unusedVariables false
set_option linter.unusedSimpArgs false
namespace Go.Proofs.Ytfnelkcllaaebaa
/-- A slice that reads as l; if it has an element, its row is the call's own. -/
def NewS {α : Type} (V : α → Value) (e : TypeId) (w : World) (base : Nat) (v : Value) (l : List α) : Prop := Fl V w v l ∧ (l ≠ [] → OwnL V e w base v l)
theorem NewS.ext {α : Type} {V : α → Value} {e : TypeId} {w w1 : World} {base : Nat} {v : Value} {l : List α} (h : NewS V e w base v l) (he : Ext w w1) : NewS V e w1 base v l := ⟨h.1.ext he, fun hl => (h.2 hl).ext he⟩
theorem fl_empty {α : Type} (V : α → Value) (w : World) (A : Option Addr) : Fl V w (.slice A 0 0) [] := ⟨A, 0, rfl, by simp, by simp, by simp⟩
section
variable {P : Program} {ops : Array Oper} {rest : List Oper} {o : Oper} {a : Act} {Q : Exit → Act → World → Prop}
theorem wpList_app0 {α : Type} (V : α → Value) {W : World} (hgd : o.guard = none) (s x : Operand) (t e : TypeId) (z : Value) (bytes : Nat)
    (ho : o.op = .call { callee := .builtin .append, args := #[s, x], argTypes := #[t, t] })
    (ht : P.underlying t = some (.slice e)) (hinfo : (P.info? e).map (fun i => (i.zero, i.size, i.bytes)) = some (some z, 1, bytes)) (hz : z.cells.size = 1) (hb0 : 0 < bytes)
    (A0 : Option Addr) (ys : List α) (vy : Value) (hs : a.eval s = .slice A0 0 0) (hx : a.eval x = vy) (h1 : ∀ y, (V y).oneCell' = true)
    (HY : Fl V W vy ys) (hl : ys.length * bytes ≤ 140737488355328)
    (h : ∀ v1 w1, NewS V e w1 W.heap.size v1 ys → Ext W w1 → wpList P ops Q rest (a.put o.dst v1) w1) :
    wpList P ops Q (o :: rest) a W := by
  obtain ⟨i0, hi, hzz⟩ := Option.map_eq_some_iff.1 hinfo
  simp only [Prod.mk.injEq] at hzz
  obtain ⟨hz0, hz1, hz2⟩ := hzz
  have hlen : ys.length ≤ 140737488355328 := Nat.le_trans (Nat.le_mul_of_pos_right _ hb0) hl
  have hrun : ∃ v1 w1, (Builtin.append_ #[t, t] o.type #[.slice A0 0 0, vy]).run P W = .ok v1 w1 ∧ NewS V e w1 W.heap.size v1 ys ∧ Ext W w1 := by
    rcases Nat.eq_zero_or_pos ys.length with h0 | h0
    · obtain rfl : ys = [] := List.eq_nil_of_length_eq_zero h0
      obtain ⟨A, c, rfl, h2, h3, h4⟩ := HY
      refine ⟨.slice A0 0 0, W, ?_, ⟨fl_empty V W A0, fun h => absurd rfl h⟩, Ext.refl W⟩
      cases A <;> cases A0 <;> simp [Builtin.append_, run_underlying ht, sizeOf, typeInfo, hi, Builtin.lenOf, Builtin.firstCells, loadCells, loadCellsFrom, storeCells]
    · obtain ⟨b, ob, c, rfl, h2, h3, hcell⟩ := HY.opens h0
      obtain ⟨v1, w1, hr, hown, hg, _, _⟩ := run_append_own_at (P := P) W W.heap.size t o.type e i0 z 1 bytes ht hi hz0 hz1 hz2 hz (by omega) (.slice none 0 0) 0 [] (World.ownsRow_nil W W.heap.size e 1) ⟨b, ob, none⟩ ys.length c (ys.map V) (by simp) (fun j u hu => by
        rw [List.getElem?_map] at hu
        cases hy : ys[j]? with
        | none => rw [hy] at hu; cases hu
        | some y =>
          rw [hy] at hu
          injection hu with hu
          have ha : (⟨b, ob, none⟩ : Addr).add j = ⟨b, ob + j, none⟩ := by unfold Addr.add; split <;> simp_all
          rw [ha, ← hu]
          exact hcell j y hy)
        (by intro u hu; simp only [List.mem_map] at hu; obtain ⟨q, _, rfl⟩ := hu; exact h1 q) (by simp only [maxLen]; omega) (by simpa using hl) (Nat.le_refl _)
      have hO : OwnL V e w1 W.heap.size v1 ys := by unfold OwnL; simpa using hown
      refine ⟨v1, w1, ?_, ⟨hO.fl, fun _ => hO⟩, (Ext.refl W).grown hg (by intro k hk; cases hk)⟩
      rw [← hr]
      have hsrc : Src P i0.size t (.slice (some ⟨b, ob, none⟩) ys.length c) ys.length (ys.map V) W := by
        refine Src.ofSlice W ht _ _ _ _ (by rw [hz1]; simp) (fun j u hu => ?_) (by intro u hu; simp only [List.mem_map] at hu; obtain ⟨q, _, rfl⟩ := hu; exact h1 q)
        rw [List.getElem?_map] at hu
        cases hy : ys[j]? with
        | none => rw [hy] at hu; cases hu
        | some y =>
          rw [hy] at hu
          injection hu with hu
          have ha : (⟨b, ob, none⟩ : Addr).add j = ⟨b, ob + j, none⟩ := by unfold Addr.add; split <;> simp_all
          rw [ha, ← hu]
          exact hcell j y hy
      have hgo : ∀ A1 : Option Addr, _ := fun A1 => run_append_grow_src (P := P) W t t o.type e i0 z ht hi hz0 A1 0 0 [] (by cases A1 <;> simp [Builtin.firstCells, loadCells, loadCellsFrom]) _ _ _ hsrc (by omega) (by omega) (by rw [hz2, Nat.zero_add]; exact growslice_fits (by omega) hl)
      rw [hgo A0, hgo none]
  obtain ⟨v1, w1, hr, hown, hg⟩ := hrun
  refine wpList_plain hgd fun K hK => ?_
  unfold Oper.wp execOp
  simp only [ho, resolve, invoke, builtin, Sem.run_bind, Sem.run_pure, Result.andThen_ok, List.map_toArray, List.map_cons, List.map_nil, hs, hx, hr]
  exact hK _ _ (h v1 w1 hown hg)
end
end Go.Proofs.Ytfnelkcllaaebaa
