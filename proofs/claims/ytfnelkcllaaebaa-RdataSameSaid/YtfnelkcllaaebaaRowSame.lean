/- Proved: 'gazetteer/gazetteerlaw04.RdataSame' answers true at every two Data, and they read afterwards as before. Conditions: those of the row's own form. -/
import Derived.Test.YtfnelkcllaaebaaRows
import Derived.Test.YtfnelkcllaaebaaLSame
import Derived.Test.YtfnelkcllaaebaaOpen
import Derived.Test.YtfnelkcllaaebaaClosed
import Derived.WalkKit
import Derived.ProofKit
import Derived.OpenShut
namespace Go.Proofs.Ytfnelkcllaaebaa
open Go.ChangeShapes Go.WideShapes Go.ChangeAt Go.RowKit
set_option linter.unusedVariables false
theorem rdataSame_own : ownKnob Try.prog.godebug = none := by kernel_rfl
theorem rdataSame_laidOut : laidOutB Try.prog = true := by kernel_rfl
theorem rdataSame_rr : Try.prog.readableRec 26 = true := by kernel_rfl
theorem rdataSame_contract (H : Type) (enc : TypeId × Value → H) (W : World) (base : Nat) (args : Array Value) (ds gs : List (DataW H)) (before : List MemPlace)
    (hW : DataW.Whole enc Try.prog Try.f3.params.toList Rows.rdataSameSpec.vars false W args.toList ds gs before) :
    Calls Try.prog 3 args W fun e W' => ∃ v, e = .returned v ∧ Rows.rdataSameSpec.post enc Try.prog Try.f3 false true false false W args v W' := by
  have hW' := hW
  obtain ⟨p, q, hA0, hV, rfl, hfz, hnd⟩ := hW
  have hA : DataW.TrodAll enc Try.prog W 0 (fun _ => true) true Try.f3.params.toList args.toList ds p := hA0
  rw [Try.params3] at hA
  obtain ⟨v0, v1, d0, d1, p0, p1, rfl, rfl, rfl, h0, h1⟩ := trodAll_two hA
  obtain ⟨rfl, rfl⟩ := trodVars_none hV
  clear hA0
  simp only [List.append_nil] at hW'
  have hlt : ∀ x ∈ p0 ++ p1, x.block < W.heap.size := fun x hx => by simpa using hW'.lt x hx
  have harg0 : ∀ W', Ext W W' → DataW.Trod enc Try.prog W' 0 (fun b => decide (b < W.heap.size)) true 26 v0 d0 p0 :=
    fun W' hE => Below.trod rdataSame_laidOut rdataSame_rr (of_decide_eq_true (by kernel_rfl)) h0 hE (fun x hx => hlt x (List.mem_append.2 (.inl hx)))
  have harg1 : ∀ W', Ext W W' → DataW.Trod enc Try.prog W' 0 (fun b => decide (b < W.heap.size)) true 26 v1 d1 p1 :=
    fun W' hE => Below.trod rdataSame_laidOut rdataSame_rr (of_decide_eq_true (by kernel_rfl)) h1 hE (fun x hx => hlt x (List.mem_append.2 (.inr hx)))
  obtain ⟨a0, a1, a2, a3, a4, rfl, a, ha, fa, _, _⟩ := open_data h0
  obtain ⟨b0, b1, b2, b3, b4, rfl, b, hb, fb, _, _⟩ := open_data h1
  refine (law04_RdataSame a b _ _ _ _ _ _ _ _ _ _ W ha hb fa fb).mono fun e W' ⟨he, hE⟩ => ?_
  subst he
  exact ⟨_, rfl, _, _, _, [], _, [], hW', trodAll_mk1 (shut_bool Try.underlying4 _), trodAll_mk2 (harg0 _ hE) (harg1 _ hE), rfl, Below.frame hE _, fun h => by cases h⟩
set_option maxRecDepth 100000 in
theorem rdataSame_lifted (os : Os) (started : os.Started) (H : Type) (enc : TypeId × Value → H) :
    ReturnsInHanded {} Try.checked os 3 .any (Rows.rdataSameSpec.pre6 enc Try.prog Try.f3 Rows.rdataSameRow.domain false) (Rows.rdataSameSpec.post enc Try.prog Try.f3 false true false false) := by
  refine returnsInHanded_of_change (C := Try.checked) rdataSame_own started (by kernel_rfl) Try.func3
    (ChangeSpec.witness6 (enc := enc) (C := Try.checked) false ⟨#[], #[.agg #[.slice none 0 0, .slice none 0 0, .slice none 0 0, .slice none 0 0, .slice none 0 0], .agg #[.slice none 0 0, .slice none 0 0, .slice none 0 0, .slice none 0 0, .slice none 0 0]], []⟩ 8 (by kernel_rfl) (by kernel_rfl) (by kernel_rfl) (by kernel_rfl)) ?_
  intro W base args ds gs before hval0 hW hcnd _
  exact rdataSame_contract H enc W base args ds gs before hW
theorem rdataSame_holds : Rows.RdataSameSaid :=
  OpenClaim.holds_of_wide 3 Try.f3 rfl rfl rfl rfl rfl rfl rfl ⟨rfl, rfl, rfl, rfl, rfl⟩ rfl rfl rfl rfl rfl (by kernel_rfl) Try.func3 (joined_try (by kernel_rfl) rfl rfl)
    (of_decide_eq_true (by kernel_rfl)) (by unfold Func.isWrapper; first | (rw [if_pos (by decide +kernel)]; kernel_rfl) | (rw [if_neg (by decide +kernel)]; exact ⟨rfl, rfl⟩))
    (fun os started H enc _ => rdataSame_lifted os started H enc)
#print axioms rdataSame_holds
end Go.Proofs.Ytfnelkcllaaebaa
