/- Proved: 'gazetteer/gazetteerlaw04.RdataWrites' answers true at every kind, Data and list of names, and they read afterwards as before. Conditions: those of the row's own form. -/
import Derived.Test.YtfnelkcllaaebaaRows
import Derived.Test.YtfnelkcllaaebaaCLDWr
import Derived.Test.YtfnelkcllaaebaaCOpen3
import Derived.Test.YtfnelkcllaaebaaClosed
import Derived.WalkKit
import Derived.ProofKit
import Derived.OpenShut
namespace Go.Proofs.Ytfnelkcllaaebaa
open Go.ChangeShapes Go.WideShapes Go.ChangeAt Go.RowKit
set_option linter.unusedVariables false
set_option linter.unusedSimpArgs false
theorem rdataWrites_own : ownKnob Try.prog.godebug = none := by kernel_rfl
theorem rdataWrites_laidOut : laidOutB Try.prog = true := by kernel_rfl
theorem rdataWrites_rr26 : Try.prog.readableRec 26 = true := by kernel_rfl
theorem rdataWrites_rr70 : Try.prog.readableRec 70 = true := by kernel_rfl
set_option maxRecDepth 100000 in
theorem rdataWrites_contract (H : Type) (enc : TypeId × Value → H) (W : World) (base : Nat) (args : Array Value) (ds gs : List (DataW H)) (before : List MemPlace)
    (hval : ∀ (j : Nat) t v, Try.f11.params[j]? = some t → args[j]? = some v → Value.okWide Try.prog W .any base t v)
    (hW : DataW.Whole enc Try.prog Try.f11.params.toList Rows.rdataWritesSpec.vars false W args.toList ds gs before) :
    Calls Try.prog 11 args W fun e W' => ∃ v, e = .returned v ∧ Rows.rdataWritesSpec.post enc Try.prog Try.f11 false true false false W args v W' := by
  have hW' := hW
  obtain ⟨p, q, hA0, hV, rfl, hfz, hnd⟩ := hW
  have hA : DataW.TrodAll enc Try.prog W 0 (fun _ => true) true Try.f11.params.toList args.toList ds p := hA0
  rw [Try.params11] at hA hval
  obtain ⟨v0, vs0, d0, ds0, p0, q0, hargs, rfl, rfl, h0, r0⟩ := trodAll_cons hA
  obtain ⟨v1, vs1, d1, ds1, p1, q1, rfl, rfl, rfl, h1, r1⟩ := trodAll_cons r0
  obtain ⟨v2, vs2, d2, ds2, p2, q2, rfl, rfl, rfl, h2, r2⟩ := trodAll_cons r1
  obtain ⟨rfl, rfl, rfl⟩ := trodAll_nil r2
  obtain rfl : args = #[v0, v1, v2] := by cases args; simp_all
  obtain ⟨rfl, rfl⟩ := trodVars_none hV
  obtain ⟨i0, rfl, rfl, rfl, w0⟩ := open_int Try.underlying3 (hval 0 3 v0 rfl rfl) h0
  clear hA0
  simp only [List.append_nil, List.nil_append] at hW'
  have hlt : ∀ x ∈ p1 ++ p2, x.block < W.heap.size := fun x hx => by simpa using hW'.lt x (by simpa using hx)
  have harg1 : ∀ W', Ext W W' → DataW.Trod enc Try.prog W' 0 (fun b => decide (b < W.heap.size)) true 26 v1 d1 p1 :=
    fun W' hE => Below.trod rdataWrites_laidOut rdataWrites_rr26 (of_decide_eq_true (by kernel_rfl)) h1 hE (fun x hx => hlt x (by simp [hx]))
  have harg2 : ∀ W', Ext W W' → DataW.Trod enc Try.prog W' 0 (fun b => decide (b < W.heap.size)) true 70 v2 d2 p2 :=
    fun W' hE => Below.trod rdataWrites_laidOut rdataWrites_rr70 (of_decide_eq_true (by kernel_rfl)) h2 hE (fun x hx => hlt x (by simp [hx]))
  obtain ⟨a0, a1, a2, a3, a4, rfl, dd, hd, fd, ft, hi⟩ := open_data h1
  obtain ⟨A2, n2, c2, rfl⟩ := okWide_slice Try.underlying70 (hval 2 70 v2 rfl rfl)
  obtain ⟨f2, g2⟩ := trod_one rfl h2
  obtain ⟨l2, m2, k2⟩ := open_namess g2
  refine (law04_RdataWrites i0 dd l2 _ _ _ _ _ _ W hd m2 fd ft hi).mono fun e W' ⟨he, hE⟩ => ?_
  subst he
  exact ⟨_, rfl, _, _, _, [], _, [], hW', trodAll_mk1 (shut_bool Try.underlying4 _), (trodAll_cons_mk (shut_int Try.underlying3 w0) (trodAll_cons_mk (harg1 _ hE) (trodAll_cons_mk (harg2 _ hE) trodAll_mk0))), rfl, Below.frame hE _, fun h => by cases h⟩
set_option maxRecDepth 100000 in
theorem rdataWrites_lifted (os : Os) (started : os.Started) (H : Type) (enc : TypeId × Value → H) :
    ReturnsInHanded {} Try.checked os 11 .any (Rows.rdataWritesSpec.pre6 enc Try.prog Try.f11 Rows.rdataWritesRow.domain false) (Rows.rdataWritesSpec.post enc Try.prog Try.f11 false true false false) := by
  refine returnsInHanded_of_change (C := Try.checked) rdataWrites_own started (by kernel_rfl) Try.func11
    (ChangeSpec.witness6 (enc := enc) (C := Try.checked) false ⟨#[], #[.int .i64 0, .agg #[.slice none 0 0, .slice none 0 0, .slice none 0 0, .slice none 0 0, .slice none 0 0], .slice none 0 0], []⟩ 8 (by kernel_rfl) (by kernel_rfl) (by kernel_rfl) (by kernel_rfl)) ?_
  intro W base args ds gs before hval0 hW hcnd _
  exact rdataWrites_contract H enc W base args ds gs before hval0 hW
theorem rdataWrites_holds : Rows.RdataWritesSaid :=
  OpenClaim.holds_of_wide 11 Try.f11 rfl rfl rfl rfl rfl rfl rfl ⟨rfl, rfl, rfl, rfl, rfl⟩ rfl rfl rfl rfl rfl (by kernel_rfl) Try.func11 (joined_try (by kernel_rfl) rfl rfl)
    (of_decide_eq_true (by kernel_rfl)) (by unfold Func.isWrapper; first | (rw [if_pos (by decide +kernel)]; kernel_rfl) | (rw [if_neg (by decide +kernel)]; exact ⟨rfl, rfl⟩))
    (fun os started H enc _ => rdataWrites_lifted os started H enc)
#print axioms rdataWrites_holds
end Go.Proofs.Ytfnelkcllaaebaa
