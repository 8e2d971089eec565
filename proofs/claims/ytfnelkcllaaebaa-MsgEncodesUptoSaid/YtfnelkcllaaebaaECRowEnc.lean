/- Proved: 'gazetteer/gazetteerlaw06.MsgEncodes' answers true at every message whose bulk is at most 1048576, and it reads afterwards as before. Conditions: those of the row's own form. -/
import Derived.Test.YtfnelkcllaaebaaRows
import Derived.Test.YtfnelkcllaaebaaEB31
import Derived.Test.YtfnelkcllaaebaaECOpen3
import Derived.Test.YtfnelkcllaaebaaClosed
import Derived.Test.YtfnelkcllaaebaaECOpen4
import Derived.WalkKit
import Derived.ProofKit
import Derived.OpenShut
import Derived.JoinedCond
namespace Go.Proofs.Ytfnelkcllaaebaa
open Go.ChangeShapes Go.WideShapes Go.ChangeAt Go.RowKit
set_option linter.unusedVariables false
set_option linter.unusedSimpArgs false
theorem msgEncodes_own : ownKnob Try.prog.godebug = none := by kernel_rfl
theorem msgEncodes_laidOut : laidOutB Try.prog = true := by kernel_rfl
theorem msgEncodes_rr39 : Try.prog.readableRec 39 = true := by kernel_rfl
set_option maxRecDepth 100000 in
theorem msgEncodes_contract (H : Type) (enc : TypeId × Value → H) (W : World) (base : Nat) (args : Array Value) (ds gs : List (DataW H)) (before : List MemPlace)
    (hval : ∀ (j : Nat) t v, Try.f5.params[j]? = some t → args[j]? = some v → Value.okWide Try.prog W .any base t v)
    (hW : DataW.Whole enc Try.prog Try.f5.params.toList Rows.msgEncodesSpec.vars false W args.toList ds gs before) (hk : Rows.uptoSmall H (ds ++ gs) = true) :
    Calls Try.prog 5 args W fun e W' => ∃ v, e = .returned v ∧ Rows.msgEncodesSpec.post enc Try.prog Try.f5 false true false false W args v W' := by
  have hW' := hW
  obtain ⟨p, q, hA0, hV, rfl, hfz, hnd⟩ := hW
  have hA : DataW.TrodAll enc Try.prog W 0 (fun _ => true) true Try.f5.params.toList args.toList ds p := hA0
  rw [Try.params5] at hA hval
  obtain ⟨v0, vs0, d0, ds0, p0, q0, hargs, rfl, rfl, h0, r0⟩ := trodAll_cons hA
  obtain ⟨rfl, rfl, rfl⟩ := trodAll_nil r0
  obtain rfl : args = #[v0] := by cases args; simp_all
  obtain ⟨rfl, rfl⟩ := trodVars_none hV
  clear hA0
  simp only [List.append_nil, List.nil_append] at hW'
  have hlt : ∀ x ∈ p0, x.block < W.heap.size := fun x hx => by simpa using hW'.lt x (by simpa using hx)
  have harg0 : ∀ W', Ext W W' → DataW.Trod enc Try.prog W' 0 (fun b => decide (b < W.heap.size)) true 39 v0 d0 p0 :=
    fun W' hE => Below.trod msgEncodes_laidOut msgEncodes_rr39 (of_decide_eq_true (by kernel_rfl)) h0 hE (fun x hx => hlt x (by simp [hx]))
  obtain ⟨m, vq, va, vu, ve, rfl, hm, hok, hbk⟩ := open_msg h0
  have hB : Rows.uptoBulk d0 ≤ 1048576 := Nat.le_trans (bulk_part (by simp)) (bulk_bound hk)
  refine (law06_encodes m _ _ _ _ W hm hok ⟨hbk.byt hB⟩ (hbk.room hB)).mono fun e W' ⟨he, hE⟩ => ?_
  subst he
  exact ⟨_, rfl, _, _, _, [], _, [], hW', trodAll_mk1 (shut_bool Try.underlying4 _), (trodAll_cons_mk (harg0 _ hE) trodAll_mk0), rfl, Below.frame hE _, fun h => by cases h⟩
set_option maxRecDepth 100000 in
theorem msgEncodes_lifted (os : Os) (started : os.Started) (H : Type) (enc : TypeId × Value → H) (F : Stop.Interp) :
    ReturnsInHanded {} Try.checked os 5 .any ((Rows.OpenSpec.upto Rows.msgEncodesSpec).pre6 enc Try.prog Try.f5 Rows.msgEncodesUptoRow.domain false) (((Rows.OpenSpec.upto Rows.msgEncodesSpec).at F).post enc Try.prog Try.f5 false true false false) := by
  refine returnsInHanded_of_cond (C := Try.checked) (s := Rows.OpenSpec.upto Rows.msgEncodesSpec) (k := Rows.uptoSmall) rfl msgEncodes_own started (by kernel_rfl) Try.func5
    (OpenSpec.witness (enc := enc) (C := Try.checked) (s := Rows.OpenSpec.upto Rows.msgEncodesSpec) (k := Rows.uptoSmall) rfl false ⟨#[], #[.agg #[.int .i64 0, .bool false, .int .i64 0, .bool false, .bool false, .bool false, .bool false, .int .i64 0, .slice none 0 0, .slice none 0 0, .slice none 0 0, .slice none 0 0, .bool false, .int .i64 0]], []⟩ 8 (by kernel_rfl) (by kernel_rfl) (by kernel_rfl)
      (x := ([.agg [.lit (.int .i64 0), .lit (.bool false), .lit (.int .i64 0), .lit (.bool false), .lit (.bool false), .lit (.bool false), .lit (.bool false), .lit (.int .i64 0), .nil, .nil, .nil, .nil, .lit (.bool false), .lit (.int .i64 0)]], [], [])) (by kernel_rfl) rfl (by kernel_rfl)) ?_
  intro W base args ds gs before hval hW _ hk _
  exact msgEncodes_contract H enc W base args ds gs before hval hW hk
theorem msgEncodes_holds : Rows.MsgEncodesUptoSaid :=
  OpenClaim.holds_of_cond 5 Try.f5 rfl rfl rfl rfl rfl rfl rfl ⟨rfl, rfl, rfl, rfl, rfl⟩ rfl rfl rfl rfl rfl (by kernel_rfl) Try.func5 (joined_try (by kernel_rfl) rfl rfl)
    (of_decide_eq_true (by kernel_rfl)) (by unfold Func.isWrapper; first | (rw [if_pos (by decide +kernel)]; kernel_rfl) | (rw [if_neg (by decide +kernel)]; exact ⟨rfl, rfl⟩))
    (fun os started H enc _ F => msgEncodes_lifted os started H enc F)
#print axioms msgEncodes_holds
end Go.Proofs.Ytfnelkcllaaebaa
