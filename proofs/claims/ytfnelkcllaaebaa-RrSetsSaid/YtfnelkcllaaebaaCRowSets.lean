/- Proved: 'gazetteer/gazetteerlaw05.RrSets' answers true at every list of records, name, type and list of Data, and they read afterwards as before. Conditions: those of the row's own form. -/
import Derived.Test.YtfnelkcllaaebaaRows
import Derived.Test.YtfnelkcllaaebaaCLSets
import Derived.Test.YtfnelkcllaaebaaB15
import Derived.Test.YtfnelkcllaaebaaClosed
import Derived.WalkKit
import Derived.ProofKit
import Derived.OpenShut
namespace Go.Proofs.Ytfnelkcllaaebaa
open Go.ChangeShapes Go.WideShapes Go.ChangeAt Go.RowKit
set_option linter.unusedVariables false
set_option linter.unusedSimpArgs false
theorem rrSets_own : ownKnob Try.prog.godebug = none := by kernel_rfl
theorem rrSets_laidOut : laidOutB Try.prog = true := by kernel_rfl
theorem rrSets_rr23 : Try.prog.readableRec 23 = true := by kernel_rfl
theorem rrSets_rr37 : Try.prog.readableRec 37 = true := by kernel_rfl
theorem rrSets_rr60 : Try.prog.readableRec 60 = true := by kernel_rfl
set_option maxRecDepth 100000 in
theorem rrSets_contract (H : Type) (enc : TypeId × Value → H) (W : World) (base : Nat) (args : Array Value) (ds gs : List (DataW H)) (before : List MemPlace)
    (hval : ∀ (j : Nat) t v, Try.f8.params[j]? = some t → args[j]? = some v → Value.okWide Try.prog W .any base t v)
    (hW : DataW.Whole enc Try.prog Try.f8.params.toList Rows.rrSetsSpec.vars false W args.toList ds gs before) :
    Calls Try.prog 8 args W fun e W' => ∃ v, e = .returned v ∧ Rows.rrSetsSpec.post enc Try.prog Try.f8 false true false false W args v W' := by
  have hW' := hW
  obtain ⟨p, q, hA0, hV, rfl, hfz, hnd⟩ := hW
  have hA : DataW.TrodAll enc Try.prog W 0 (fun _ => true) true Try.f8.params.toList args.toList ds p := hA0
  rw [Try.params8] at hA hval
  obtain ⟨v0, vs0, d0, ds0, p0, q0, hargs, rfl, rfl, h0, r0⟩ := trodAll_cons hA
  obtain ⟨v1, vs1, d1, ds1, p1, q1, rfl, rfl, rfl, h1, r1⟩ := trodAll_cons r0
  obtain ⟨v2, vs2, d2, ds2, p2, q2, rfl, rfl, rfl, h2, r2⟩ := trodAll_cons r1
  obtain ⟨v3, vs3, d3, ds3, p3, q3, rfl, rfl, rfl, h3, r3⟩ := trodAll_cons r2
  obtain ⟨rfl, rfl, rfl⟩ := trodAll_nil r3
  obtain rfl : args = #[v0, v1, v2, v3] := by cases args; simp_all
  obtain ⟨rfl, rfl⟩ := trodVars_none hV
  obtain ⟨i2, rfl, rfl, rfl, w2⟩ := open_int Try.underlying3 (hval 2 3 v2 rfl rfl) h2
  clear hA0
  simp only [List.append_nil, List.nil_append] at hW'
  have hlt : ∀ x ∈ p0 ++ (p1 ++ p3), x.block < W.heap.size := fun x hx => by simpa using hW'.lt x (by simpa using hx)
  have harg0 : ∀ W', Ext W W' → DataW.Trod enc Try.prog W' 0 (fun b => decide (b < W.heap.size)) true 37 v0 d0 p0 :=
    fun W' hE => Below.trod rrSets_laidOut rrSets_rr37 (of_decide_eq_true (by kernel_rfl)) h0 hE (fun x hx => hlt x (by simp [hx]))
  have harg1 : ∀ W', Ext W W' → DataW.Trod enc Try.prog W' 0 (fun b => decide (b < W.heap.size)) true 23 v1 d1 p1 :=
    fun W' hE => Below.trod rrSets_laidOut rrSets_rr23 (of_decide_eq_true (by kernel_rfl)) h1 hE (fun x hx => hlt x (by simp [hx]))
  have harg3 : ∀ W', Ext W W' → DataW.Trod enc Try.prog W' 0 (fun b => decide (b < W.heap.size)) true 60 v3 d3 p3 :=
    fun W' hE => Below.trod rrSets_laidOut rrSets_rr60 (of_decide_eq_true (by kernel_rfl)) h3 hE (fun x hx => hlt x (by simp [hx]))
  obtain ⟨A0, n0, c0, rfl⟩ := okWide_slice Try.underlying37 (hval 0 37 v0 rfl rfl)
  obtain ⟨f0, g0⟩ := trod_one rfl h0
  obtain ⟨l0, m0, k0⟩ := open_recs g0
  obtain ⟨A1, n1, c1, rfl⟩ := okWide_slice Try.underlying23 (hval 1 23 v1 rfl rfl)
  obtain ⟨f1, g1⟩ := trod_one rfl h1
  obtain ⟨l1, m1, k1⟩ := open_names g1
  obtain ⟨A3, n3, c3, rfl⟩ := okWide_slice Try.underlying60 (hval 3 60 v3 rfl rfl)
  obtain ⟨f3, g3⟩ := trod_one rfl h3
  obtain ⟨l3, m3, k3⟩ := open_datas g3
  refine (law05_RrSets l0 l1 i2 l3 _ _ _ W m0 m1 m3 (fun r hr => (k0 r hr).fit) k1 (fun d hd => (k3 d hd).1)).mono fun e W' ⟨he, hE⟩ => ?_
  subst he
  exact ⟨_, rfl, _, _, _, [], _, [], hW', trodAll_mk1 (shut_bool Try.underlying4 _), (trodAll_cons_mk (harg0 _ hE) (trodAll_cons_mk (harg1 _ hE) (trodAll_cons_mk (shut_int Try.underlying3 w2) (trodAll_cons_mk (harg3 _ hE) trodAll_mk0)))), rfl, Below.frame hE _, fun h => by cases h⟩
set_option maxRecDepth 100000 in
theorem rrSets_lifted (os : Os) (started : os.Started) (H : Type) (enc : TypeId × Value → H) :
    ReturnsInHanded {} Try.checked os 8 .any (Rows.rrSetsSpec.pre6 enc Try.prog Try.f8 Rows.rrSetsRow.domain false) (Rows.rrSetsSpec.post enc Try.prog Try.f8 false true false false) := by
  refine returnsInHanded_of_change (C := Try.checked) rrSets_own started (by kernel_rfl) Try.func8
    (ChangeSpec.witness6 (enc := enc) (C := Try.checked) false ⟨#[], #[.slice none 0 0, .slice none 0 0, .int .i64 0, .slice none 0 0], []⟩ 8 (by kernel_rfl) (by kernel_rfl) (by kernel_rfl) (by kernel_rfl)) ?_
  intro W base args ds gs before hval0 hW hcnd _
  exact rrSets_contract H enc W base args ds gs before hval0 hW
theorem rrSets_holds : Rows.RrSetsSaid :=
  OpenClaim.holds_of_wide 8 Try.f8 rfl rfl rfl rfl rfl rfl rfl ⟨rfl, rfl, rfl, rfl, rfl⟩ rfl rfl rfl rfl rfl (by kernel_rfl) Try.func8 (joined_try (by kernel_rfl) rfl rfl)
    (of_decide_eq_true (by kernel_rfl)) (by unfold Func.isWrapper; first | (rw [if_pos (by decide +kernel)]; kernel_rfl) | (rw [if_neg (by decide +kernel)]; exact ⟨rfl, rfl⟩))
    (fun os started H enc _ => rrSets_lifted os started H enc)
#print axioms rrSets_holds
end Go.Proofs.Ytfnelkcllaaebaa
