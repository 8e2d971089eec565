/- Parts of one proof, joined: LTexts. Conditions: those that each theorem states. -/
import Derived.Test.YtfnelkcllaaebaaEB10
import Derived.Test.YtfnelkcllaaebaaEB8
import Derived.Test.YtfnelkcllaaebaaEB3
import Derived.Laws.MakeOwn
section
/- Contract of law04.RdataTexts. No condition but that the three numbers are bytes. -/
open Go.RowKit
set_option linter.unusedVariables false
set_option linter.unusedSimpArgs false
namespace Go.Proofs.Ytfnelkcllaaebaa
theorem made_info : (Try.prog.info? 5).map (fun i => (i.zero, i.size, i.bytes)) = some (some (.int .u8 0), 1, 1) := by kernel_rfl
theorem made_run (l : Nat) (hl : l ≤ 1000) (w : World) : (Instr.makeSlice 22 (.int .i64 (l : Int)) (.int .i64 (l : Int))).run Try.prog w = .ok (.slice (some ⟨w.heap.size, 0, none⟩) l l) (w.alloc (.cells (madeCells #[Value.int .u8 0] l) 5)) := by
  obtain ⟨i0, hi, hzz⟩ := Option.map_eq_some_iff.1 made_info
  simp only [Prod.mk.injEq] at hzz
  obtain ⟨hz0, hz1, hz2⟩ := hzz
  have h := run_make (P := Try.prog) w 22 5 i0 (.int .u8 0) Try.underlying22 hi hz0 .i64 .i64 (l : Int) (l : Int) (by omega) (by omega) (by rw [hz2]; omega) (by omega)
  rw [h, hz1]
  simp [Value.cells]
end Go.Proofs.Ytfnelkcllaaebaa
end
