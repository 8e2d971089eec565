/- Parts of one proof, joined: Data, Data2, Shape, Dfr, RGet. Conditions: those that each theorem states. -/
import Derived.Test.YtfnelkcllaaebaaEB5
import Derived.Defers
import Derived.Recover
section
/- Contract of rdata's reader.data, shape by shape. -/
open Go.RowKit
set_option linter.unusedVariables false
set_option linter.unusedSimpArgs false
namespace Go.Proofs.Ytfnelkcllaaebaa
section
variable {w W W' : World} {g e_ a a' : Nat} {vb v0 v1 v2 v3 v4 v : Value} {sc : Array Value} {d : Dat}
end
abbrev nilS : Value := .slice none 0 0
end Go.Proofs.Ytfnelkcllaaebaa
end
section
/- Contract of rdata's reader.data: the last shape, and all of them; shapes. -/
open Go.RowKit
set_option linter.unusedVariables false
set_option linter.unusedSimpArgs false
namespace Go.Proofs.Ytfnelkcllaaebaa
end Go.Proofs.Ytfnelkcllaaebaa
end
section
/- Contract of rdata.shapes. No condition. -/
open Go.RowKit
set_option linter.unusedVariables false
set_option linter.unusedSimpArgs false
namespace Go.Proofs.Ytfnelkcllaaebaa
def ShapeGives (kind : Int) (w : World) (e : Ending) (w' : World) : Prop := e = .returned (.agg (shapeC (shapeOf kind))) ∧ Ext w w'
theorem shapes_ends {kind : Int} {w W : World} {tmps : Array Value} {i : Nat} (hi : w.heap.size ≤ i) (ht : tmps.getD 2 undef = .pointer (some ⟨i, 0, none⟩)) (hE : Ext w W) (hc : W.heap[i]? = some (.cells (shapeC (shapeOf kind)) 118 (0, 0))) {a : Act} (ha : a.tmps = tmps) (hd : a.defers = []) :
    bodyPost Try.prog Try.f90 (ShapeGives kind w) .ret a W := by
  subst ha
  have ht' : a.tmps[2]?.getD undef = .pointer (some ⟨i, 0, none⟩) := by rw [← ht]; simp
  have hcell : ∀ j, W.cell? ⟨i, j, none⟩ = (shapeC (shapeOf kind))[j]? := fun j => by simp [World.cell?, hc]
  refine bodyPost_ret (v := .agg (shapeC (shapeOf kind))) ?_ hd ⟨rfl, hE⟩
  unfold shapeC at hcell ⊢
  have c0 := hcell 0; have c1 := hcell 1; have c2 := hcell 2; have c3 := hcell 3; have c4 := hcell 4; have c5 := hcell 5; have c6 := hcell 6; have c7 := hcell 7
  simp at c0 c1 c2 c3 c4 c5 c6 c7
  simp [results, Try.results90, go_sem, ht', c0, c1, c2, c3, c4, c5, c6, c7]
set_option maxHeartbeats 1000000 in
theorem rdata_shapes (kind : Int) (w : World) : Calls Try.prog 90 #[.int .i64 kind] w (ShapeGives kind w) := by
  by_cases h : kind = 1 ∨ kind = 28 ∨ kind = 2 ∨ kind = 5 ∨ kind = 12 ∨ kind = 15 ∨ kind = 6 ∨ kind = 33 ∨ kind = 16
  · rcases h with rfl | rfl | rfl | rfl | rfl | rfl | rfl | rfl | rfl
    all_goals
      go_enter Try.func90, Try.ntmps90
      go_wp2
      exact shapes_ends (i := w.heap.size) (Nat.le_refl _) rfl ((Ext.refl _).alloc _) ((heap_alloc_new _ _).trans (by simp [shapeOf, shapeC])) rfl rfl
  · simp only [not_or] at h
    obtain ⟨h1, h2, h3, h4, h5, h6, h7, h8, h9⟩ := h
    have t0 : (kind == 1) = false := by rw [beq_eq_false_iff_ne]; exact h1
    have t1 : (kind == 28) = false := by rw [beq_eq_false_iff_ne]; exact h2
    have t2 : (kind == 2) = false := by rw [beq_eq_false_iff_ne]; exact h3
    have t3 : (kind == 5) = false := by rw [beq_eq_false_iff_ne]; exact h4
    have t4 : (kind == 12) = false := by rw [beq_eq_false_iff_ne]; exact h5
    have t5 : (kind == 15) = false := by rw [beq_eq_false_iff_ne]; exact h6
    have t6 : (kind == 6) = false := by rw [beq_eq_false_iff_ne]; exact h7
    have t7 : (kind == 33) = false := by rw [beq_eq_false_iff_ne]; exact h8
    have t8 : (kind == 16) = false := by rw [beq_eq_false_iff_ne]; exact h9
    have hs : shapeC (shapeOf kind) = #[.int .i64 (-1), .bool false, .bool false, .bool false, .int .i64 0, .int .i64 0, .bool false, .bool false] := by
      unfold shapeOf
      rw [if_neg h1, if_neg h2, if_neg (by omega), if_neg h6, if_neg h7, if_neg h8, if_neg h9]; rfl
    have HS := Lib.hid hs
    clear h1 h2 h3 h4 h5 h6 h7 h8 h9 hs
    go_enter Try.func90, Try.ntmps90
    go_wp2
    exact shapes_ends (i := w.heap.size) (Nat.le_refl _) rfl ((Ext.refl _).alloc _) ((heap_alloc_new _ _).trans (by rw [HS.out])) rfl rfl
end Go.Proofs.Ytfnelkcllaaebaa
end
section
open Go.RowKit
namespace Go.Proofs.Ytfnelkcllaaebaa
set_option linter.unusedVariables false
set_option linter.unusedSimpArgs false
/- rdata.Get's deferred closure: its contracts in a frame that returns and in one that panics. No condition but on the two blocks. -/
end Go.Proofs.Ytfnelkcllaaebaa
end
section
/- rdata.Get. No condition but the slice's length (and that the slice reads as a list). -/
open Go.RowKit
set_option linter.unusedVariables false
set_option linter.unusedSimpArgs false
namespace Go.Proofs.Ytfnelkcllaaebaa
/-- The two named results' blocks, stored into. -/
def six (p q : Nat) (v0 v1 v2 v3 v4 x : Value) (W : World) : World :=
  (((((W.setCell ⟨p, 0, none⟩ v0).setCell ⟨p, 1, none⟩ v1).setCell ⟨p, 2, none⟩ v2).setCell ⟨p, 3, none⟩ v3).setCell ⟨p, 4, none⟩ v4).setCell ⟨q, 0, none⟩ x
end Go.Proofs.Ytfnelkcllaaebaa
end
