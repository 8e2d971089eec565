/- Proved: 'gazetteer/gazetteerlaw05.RrWrites' answers true at every list of records, and they read afterwards as before. Conditions: those of the row's own form. -/
import Derived.Test.YtfnelkcllaaebaaRows
import Derived.Test.YtfnelkcllaaebaaCLWr
import Derived.Test.YtfnelkcllaaebaaCOpen3
import Derived.Test.YtfnelkcllaaebaaClosed
import Derived.WalkKit
import Derived.ProofKit
import Derived.OpenShut
namespace Go.Proofs.Ytfnelkcllaaebaa
open Go.ChangeShapes Go.WideShapes Go.ChangeAt Go.RowKit
set_option linter.unusedVariables false
set_option linter.unusedSimpArgs false
theorem rrWrites_own : ownKnob Try.prog.godebug = none := by kernel_rfl
theorem rrWrites_laidOut : laidOutB Try.prog = true := by kernel_rfl
theorem rrWrites_rr37 : Try.prog.readableRec 37 = true := by kernel_rfl
set_option maxRecDepth 100000 in
theorem rrWrites_contract (H : Type) (enc : TypeId × Value → H) (W : World) (base : Nat) (args : Array Value) (ds gs : List (DataW H)) (before : List MemPlace)
    (hval : ∀ (j : Nat) t v, Try.f14.params[j]? = some t → args[j]? = some v → Value.okWide Try.prog W .any base t v)
    (hW : DataW.Whole enc Try.prog Try.f14.params.toList Rows.rrWritesSpec.vars false W args.toList ds gs before) :
    Calls Try.prog 14 args W fun e W' => ∃ v, e = .returned v ∧ Rows.rrWritesSpec.post enc Try.prog Try.f14 false true false false W args v W' := by
  have hW' := hW
  obtain ⟨p, q, hA0, hV, rfl, hfz, hnd⟩ := hW
  have hA : DataW.TrodAll enc Try.prog W 0 (fun _ => true) true Try.f14.params.toList args.toList ds p := hA0
  rw [Try.params14] at hA hval
  obtain ⟨v0, vs0, d0, ds0, p0, q0, hargs, rfl, rfl, h0, r0⟩ := trodAll_cons hA
  obtain ⟨rfl, rfl, rfl⟩ := trodAll_nil r0
  obtain rfl : args = #[v0] := by cases args; simp_all
  obtain ⟨rfl, rfl⟩ := trodVars_none hV
  clear hA0
  simp only [List.append_nil, List.nil_append] at hW'
  have hlt : ∀ x ∈ p0, x.block < W.heap.size := fun x hx => by simpa using hW'.lt x (by simpa using hx)
  have harg0 : ∀ W', Ext W W' → DataW.Trod enc Try.prog W' 0 (fun b => decide (b < W.heap.size)) true 37 v0 d0 p0 :=
    fun W' hE => Below.trod rrWrites_laidOut rrWrites_rr37 (of_decide_eq_true (by kernel_rfl)) h0 hE (fun x hx => hlt x (by simp [hx]))
  obtain ⟨A0, n0, c0, rfl⟩ := okWide_slice Try.underlying37 (hval 0 37 v0 rfl rfl)
  obtain ⟨f0, g0⟩ := trod_one rfl h0
  obtain ⟨l0, m0, k0⟩ := open_recs g0
  refine (law05_RrWrites l0 _ W m0 k0).mono fun e W' ⟨he, hE⟩ => ?_
  subst he
  exact ⟨_, rfl, _, _, _, [], _, [], hW', trodAll_mk1 (shut_bool Try.underlying4 _), (trodAll_cons_mk (harg0 _ hE) trodAll_mk0), rfl, Below.frame hE _, fun h => by cases h⟩
set_option maxRecDepth 100000 in
theorem rrWrites_lifted (os : Os) (started : os.Started) (H : Type) (enc : TypeId × Value → H) :
    ReturnsInHanded {} Try.checked os 14 .any (Rows.rrWritesSpec.pre6 enc Try.prog Try.f14 Rows.rrWritesRow.domain false) (Rows.rrWritesSpec.post enc Try.prog Try.f14 false true false false) := by
  refine returnsInHanded_of_change (C := Try.checked) rrWrites_own started (by kernel_rfl) Try.func14
    (ChangeSpec.witness6 (enc := enc) (C := Try.checked) false ⟨#[], #[.slice none 0 0], []⟩ 8 (by kernel_rfl) (by kernel_rfl) (by kernel_rfl) (by kernel_rfl)) ?_
  intro W base args ds gs before hval0 hW hcnd _
  exact rrWrites_contract H enc W base args ds gs before hval0 hW
theorem rrWrites_holds : Rows.RrWritesSaid :=
  OpenClaim.holds_of_wide 14 Try.f14 rfl rfl rfl rfl rfl rfl rfl ⟨rfl, rfl, rfl, rfl, rfl⟩ rfl rfl rfl rfl rfl (by kernel_rfl) Try.func14 (joined_try (by kernel_rfl) rfl rfl)
    (of_decide_eq_true (by kernel_rfl)) (by unfold Func.isWrapper; first | (rw [if_pos (by decide +kernel)]; kernel_rfl) | (rw [if_neg (by decide +kernel)]; exact ⟨rfl, rfl⟩))
    (fun os started H enc _ => rrWrites_lifted os started H enc)
#print axioms rrWrites_holds
end Go.Proofs.Ytfnelkcllaaebaa
