import Derived.Test.YtfnelkcllaaebaaData2
import Derived.Test.YtfnelkcllaaebaaShape
import Derived.Defers
import Derived.Recover
open Go.RowKit
namespace Go.Proofs.Ytfnelkcllaaebaa
set_option linter.unusedVariables false
set_option linter.unusedSimpArgs false
/- rdata.Get's deferred closure: its contracts in a frame that returns and in one that panics. No condition but on the two blocks. -/
theorem get_idle (p q : Addr) (w : World) :
    CallsD Try.prog 88 #[.pointer (some p), .pointer (some q)] .returning w fun e u' w' => e = .returned (.tuple #[]) ∧ u' = .returning ∧ w' = w := by
  refine callsD_of_wpS Try.func88 rfl fun c₀ cs hu => ?_
  apply wpS_seq
  apply wpS_region
  simp [wpOpsS, go_sem, recoverD, hu, Try.ntmps88, Exit.thenS]
  refine wpS_of_wp ?_
  have ht : (#[Value.pointer (some p), Value.pointer (some q)] ++
          ((Array.replicate 16 undef).setIfInBounds 3 Value.nilIface).setIfInBounds 0 Value.nilIface) = #[Value.pointer (some p), Value.pointer (some q), .nilIface, undef, undef, .nilIface, undef, undef, undef, undef, undef, undef, undef, undef, undef, undef, undef, undef] := by kernel_rfl
  rw [ht]
  go_wp2
  cases c₀
  simp_all [bodyPostS, results, Try.results88]
set_option maxRecDepth 100000 in
theorem get_catch (p q : Nat) (k : Int) (v0 v1 v2 v3 v4 x : Value) (w : World) (hp : w.heap[p]? = some (.cells #[v0, v1, v2, v3, v4] 26 (0,0))) (hq : w.heap[q]? = some (.cells #[x] 31 (0,0))) (hpq : p ≠ q) :
    CallsD Try.prog 88 #[.pointer (some ⟨p, 0, none⟩), .pointer (some ⟨q, 0, none⟩)] (.panicking [{ v := .iface 31 (.int .i64 k), recovered := false }]) w fun e u' w' =>
      e = .returned (.tuple #[]) ∧ u' = .panicking [{ v := .iface 31 (.int .i64 k), recovered := true }] ∧ w' = (((((w.setCell ⟨p, 0, none⟩ nilS).setCell ⟨p, 1, none⟩ nilS).setCell ⟨p, 2, none⟩ nilS).setCell ⟨p, 3, none⟩ nilS).setCell ⟨p, 4, none⟩ nilS).setCell ⟨q, 0, none⟩ (.int .i64 k) := by
  have d0 : w.cell? ⟨p, 0, none⟩ = some v0 := by simp [World.cell?, hp]
  have d1 : w.cell? ⟨p, 1, none⟩ = some v1 := by simp [World.cell?, hp]
  have d2 : w.cell? ⟨p, 2, none⟩ = some v2 := by simp [World.cell?, hp]
  have d3 : w.cell? ⟨p, 3, none⟩ = some v3 := by simp [World.cell?, hp]
  have d4 : w.cell? ⟨p, 4, none⟩ = some v4 := by simp [World.cell?, hp]
  have d5 : w.cell? ⟨q, 0, none⟩ = some x := by simp [World.cell?, hq]
  have f0 : ∀ i, w.frozen? ⟨p, i, none⟩ = false := by intro i; simp [World.frozen?, hp]
  have f1 : w.frozen? ⟨q, 0, none⟩ = false := by simp [World.frozen?, hq]
  have hqp : ¬ q = p := fun h => hpq h.symm
  clear hp hq
  have hta : ∀ w, (Instr.typeAssert (Value.iface 31 (Value.int IntKind.i64 k)) 20 31 true).run Try.prog w = .ok (.tuple #[.int .i64 k, .bool true]) w := fun w => by kernel_rfl
  refine callsD_of_wpS Try.func88 rfl fun c₀ cs hu => ?_
  apply wpS_seq
  apply wpS_region
  simp [wpOpsS, go_sem, recoverD, hu, Try.ntmps88, Exit.thenS]
  refine wpS_of_wp ?_
  have ht : (#[Value.pointer (some { block := p, off := 0 }), Value.pointer (some { block := q, off := 0 })] ++
          ((Array.replicate 16 undef).setIfInBounds 3 (Value.iface 31 (Value.int IntKind.i64 k))).setIfInBounds 0 (Value.iface 31 (Value.int IntKind.i64 k))) = #[Value.pointer (some { block := p, off := 0 }), Value.pointer (some { block := q, off := 0 }), (Value.iface 31 (Value.int IntKind.i64 k)), undef, undef, (Value.iface 31 (Value.int IntKind.i64 k)), undef, undef, undef, undef, undef, undef, undef, undef, undef, undef, undef, undef] := by kernel_rfl
  rw [ht]
  clear ht
  go_wp2
  cases c₀
  simp_all [bodyPostS, results, Try.results88, nilS]
end Go.Proofs.Ytfnelkcllaaebaa
