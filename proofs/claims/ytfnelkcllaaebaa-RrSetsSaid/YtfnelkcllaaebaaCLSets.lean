/- Parts of one proof, joined: LSets. Conditions: those that each theorem states. -/
import Derived.Test.YtfnelkcllaaebaaB14
section
/- Contract of law05.RrSets. No condition but that slices read as lists, and the strings' sizes. -/
open Go.RowKit
set_option linter.unusedVariables false
set_option linter.unusedSimpArgs false
namespace Go.Proofs.Ytfnelkcllaaebaa
theorem neq_comm (a b : List Str) : neq a b = neq b a := by unfold neq; rw [decide_eq_decide]; exact ⟨Eq.symm, Eq.symm⟩
theorem neq_trans {a b c : List Str} (h : neq a b = true) (h2 : neq b c = true) : neq a c = true := by
  unfold neq at *; rw [decide_eq_true_eq] at *; exact h.trans h2
theorem dsame_refl (a : Dat) : dsame a a = true := by unfold dsame; simp [neq_refl]
theorem dsame_trans {a b c : Dat} (h : dsame a b = true) (h2 : dsame b c = true) : dsame a c = true := by
  unfold dsame at *
  simp only [Bool.and_eq_true, decide_eq_true_eq] at *
  obtain ⟨a1, a2, a3, a4, a5⟩ := h
  obtain ⟨b1, b2, b3, b4, b5⟩ := h2
  exact ⟨a1.trans b1, a2.trans b2, a3.trans b3, neq_trans a4 b4, neq_trans a5 b5⟩
theorem dexact_refl (a : Dat) : dexact a a = true := by unfold dexact; simp [dsame_refl]
theorem sameSets_comm (a b : List Dat) : sameSets a b = sameSets b a := by unfold sameSets; exact Bool.and_comm _ _
theorem inAll_iff (a b : List Dat) : inAll a b = true ↔ ∀ x ∈ a, ∃ y ∈ b, dsame x y = true := by
  unfold inAll
  rw [Bool.not_eq_true', List.any_eq_false]
  constructor
  · intro h x hx
    have := h x hx
    simpa using this
  · intro h x hx
    obtain ⟨y, hy, hd⟩ := h x hx
    simp only [Bool.not_eq_true', Bool.not_eq_false]
    exact List.any_eq_true.2 ⟨y, hy, hd⟩
theorem sameSets_refl (a : List Dat) : sameSets a a = true := by
  unfold sameSets
  have : inAll a a = true := (inAll_iff a a).2 fun x hx => ⟨x, hx, dsame_refl x⟩
  rw [this]; rfl
theorem light5_room {l : List Rec} (h : light5 l = true) : (∀ r ∈ l, RRoom r) ∧ l.length ≤ 60 := by
  unfold light5 at h
  rw [Bool.and_eq_true, List.all_eq_true, decide_eq_true_eq] at h
  refine ⟨fun r hr => ?_, h.2⟩
  have := h.1 r hr
  unfold lightR at this
  rw [decide_eq_true_eq] at this
  obtain ⟨q1, q2, q3, q4, q5, q6⟩ := this
  refine ⟨by omega, by omega, by omega, by omega, by omega, by omega⟩
set_option maxRecDepth 100000 in
set_option maxHeartbeats 4000000 in
theorem law05_RrSets (l : List Rec) (n : List Str) (kind : Int) (other : List Dat) (v vn vo : Value) (w : World) (hv : RecsV w v l) (hn : NameV w vn n) (ho : DatsV w vo other) (fr : ∀ r ∈ l, RFit r) (fn : Fits n) (fo : ∀ d ∈ other, DFit d) :
    Calls Try.prog 8 #[v, vn, .int .i64 kind, vo] w fun e w' => e = .returned (.bool true) ∧ Ext w w' := by
  have hll := hv.len
  have hnl := hn.len
  have hol := ho.len
  have HV := Lib.hid hv
  have HN := Lib.hid hn
  have HOo := Lib.hid ho
  have FR := Lib.hid fr
  have FN := Lib.hid fn
  have FO := Lib.hid fo
  obtain ⟨A, c, rfl, h1, h2⟩ := hv.form
  obtain ⟨An, cn, rfl, n1, n2⟩ := hn.form
  obtain ⟨Ao, co, rfl, o1, o2⟩ := ho.form
  clear hv hn ho fr fn fo
  unfold maxI at *
  go_enter Try.func8, Try.ntmps8
  go_wp2_with fail
  refine (law05_answers _).mono ?_
  rintro e w1 ⟨rfl, hE1⟩
  have HE1 := Lib.hid hE1
  clear hE1
  go_wp2_with fail
  refine (law05_light l _ w1 (HV.out.ext HE1.out)).mono ?_
  rintro e w2 ⟨rfl, hE2⟩
  have HE2 := Lib.hid (HE1.out.trans hE2)
  clear hE2
  cases hL : light5 l with
  | false =>
    clear hL
    go_wp2_with fail
    refine (law05_answers _).mono ?_
    rintro e w3 ⟨rfl, hE3⟩
    go_wp2
    go_ret
    exact ⟨rfl, HE2.out.trans hE3⟩
  | true =>
    obtain ⟨hroom, h60⟩ := light5_room hL
    have HR := Lib.hid hroom
    clear hroom hL
    by_cases hn2 : n.length ≤ 200
    · by_cases ho2 : other.length ≤ 60
      · go_wp2_with fail
        refine (ref_OwnRRs l _ w2 (HV.out.ext HE2.out) HR.out (by omega)).mono ?_
        rintro e w3 ⟨hE3, v3, rfl, hO3⟩
        have HE3 := Lib.hid (HE2.out.trans hE3)
        have HO3 := Lib.hid (recs_of_own hO3)
        obtain ⟨A3, c3, rfl, _, _⟩ := hO3.slice
        clear hE3 hO3
        go_wp2_with (at_builtin; go_must (refine wpList_app0 Value.string rfl (.tmp 35) (.tmp 36) 23 9 (.string ⟨#[]⟩) 16 rfl Try.underlying23 (by kernel_rfl) rfl (by decide) _ n _ rfl rfl (fun _ => rfl) (HN.out.ext (HE3.out.alloc _)) (by omega) ?_); intro v9 w4 hN9 hE9; obtain ⟨A9, n9, k9, rfl⟩ := hN9.slice; have HE4 := Lib.hid ((HE3.out.alloc _).trans hE9); have HN9 := Lib.hid hN9; have HO4 := Lib.hid (HO3.out.ext (((Ext.refl _).alloc _).trans hE9)); clear hN9 hE9)
        have hS := setOf_len n kind l
        refine (rr_Set l n kind _ _ w4 HO4.out HN9.out.1 FR.out FN.out HR.out (by omega)).mono ?_
        rintro e w5 ⟨hE5, v5, rfl, hO5⟩
        obtain ⟨A5, c5, rfl, _, _⟩ := hO5.slice
        have HE5 := Lib.hid (HE4.out.trans hE5)
        have HO5 := Lib.hid (dats_of_own hO5)
        clear hE5 hO5
        go_wp2_with fail
        refine (ref_Set l n kind _ _ w5 (HV.out.ext HE5.out) (HN.out.ext HE5.out) FR.out FN.out (by omega)).mono ?_
        rintro e w6 ⟨hE6, v6, rfl, hO6⟩
        obtain ⟨A6, c6, rfl, _, _⟩ := hO6.slice
        have HE6 := Lib.hid (HE5.out.trans hE6)
        have HW := Lib.hid (show DatsV w6 _ (setOf n kind l).1 from hO6.sl.imp fun _ _ h => h.1.ext h.2)
        have HS := Lib.hid (HO5.out.ext hE6)
        clear hE6 hO6
        have HF : Hid (∀ d ∈ (setOf n kind l).1, DFit d) := Lib.hid (fun d hd => by
          obtain ⟨r, hr1, hr2⟩ := setOf_mem n kind _ d hd
          rw [← hr2]
          exact (FR.out r hr1).2)
        generalize (setOf n kind l).2 = ttl at *
        generalize (setOf n kind l).1 = S at *
        go_wp2
        go_loopw [13] (fun i wr => ∃ k : Nat, k ≤ S.length ∧ i = .int .i64 k ∧ Ext w6 wr) (fun i _ => S.length - (intOf i).toNat)
        case atStart => exact ⟨0, by omega, rfl, Ext.refl _⟩
        case round =>
          obtain ⟨k, hk, rfl, hE⟩ := hrel
          by_cases hlt : k < S.length
          · obtain ⟨b, o, x1, e1, _, _, _⟩ := HS.out.opens (by omega)
            injection e1 with e1 e3 e4
            subst e1
            clear e3 e4
            obtain ⟨b', o', x1', e1, _, _, _⟩ := HW.out.opens (by omega)
            injection e1 with e1 e3 e4
            subst e1
            clear e3 e4
            have hx := List.getElem?_eq_getElem hlt
            obtain ⟨a0, a1, a2, a3, a4, hd, c0', c1', c2', c3', c4'⟩ := dats_cells HS.out hx
            obtain ⟨b0, b1, b2, b3, b4, hd2, d0', d1', d2', d3', d4'⟩ := dats_cells HW.out hx
            have c0 := hE.cell c0'
            have c1 := hE.cell c1'
            have c2 := hE.cell c2'
            have c3 := hE.cell c3'
            have c4 := hE.cell c4'
            have d0 := hE.cell d0'
            have d1 := hE.cell d1'
            have d2 := hE.cell d2'
            have d3 := hE.cell d3'
            have d4 := hE.cell d4'
            clear c0' c1' c2' c3' c4' d0' d1' d2' d3' d4'
            have hfx := HF.out _ (List.mem_of_getElem? hx)
            have HC := Lib.hid (rref_Exact _ _ _ _ _ _ _ _ _ _ _ _ wr.drew (hd.ext hE.drew) (hd2.ext hE.drew) hfx hfx)
            rw [dexact_refl] at HC
            have HEk := Lib.hid hE
            clear hx hd hd2 hfx hE
            go_wp2
            go_region_with (go_at_call 50; refine (HC.out).mono ?_; rintro e w' ⟨rfl, hb'⟩)
            all_goals go_wp2
            all_goals go_roundw
            all_goals first | exact ⟨k + 1, by omega, by go_num, (HEk.out.drew).trans hb'⟩ | (simp [intOf]; omega)
          · have HE7 := Lib.hid (HE6.out.trans hE)
            have HS7 := Lib.hid (HS.out.ext hE)
            have HW7 := Lib.hid (HW.out.ext hE)
            clear hE
            go_wp2_with fail
            refine (rr_Same S other _ _ wr HS7.out (HOo.out.ext HE7.out) HF.out FO.out).mono ?_
            rintro e w8 ⟨rfl, hE8⟩
            have HE8 := Lib.hid (HE7.out.trans hE8)
            have HS8 := Lib.hid (HS7.out.ext hE8)
            have HW8 := Lib.hid (HW7.out.ext hE8)
            clear hE8
            go_wp2_with fail
            refine (ref_SameSet S other _ _ w8 HW8.out (HOo.out.ext HE8.out) HF.out FO.out).mono ?_
            rintro e w9 ⟨rfl, hE9⟩
            have HE9 := Lib.hid (HE8.out.trans hE9)
            have HS9 := Lib.hid (HS8.out.ext hE9)
            clear hE9
            have tt : (sameSets S other == sameSets S other) = true := by simp
            go_wp2_with fail
            refine (rr_Same other S _ _ w9 (HOo.out.ext HE9.out) HS9.out FO.out HF.out).mono ?_
            rintro e w10 ⟨rfl, hE10⟩
            have HE10 := Lib.hid (HE9.out.trans hE10)
            have HS10 := Lib.hid (HS9.out.ext hE10)
            clear hE10
            go_wp2_with fail
            refine (rr_Same S other _ _ w10 HS10.out (HOo.out.ext HE10.out) HF.out FO.out).mono ?_
            rintro e w11 ⟨rfl, hE11⟩
            have HE11 := Lib.hid (HE10.out.trans hE11)
            have HS11 := Lib.hid (HS10.out.ext hE11)
            clear hE11
            rw [sameSets_comm other S]
            go_wp2_with fail
            refine (rr_Same S S _ _ w11 HS11.out HS11.out HF.out HF.out).mono ?_
            rintro e w12 ⟨rfl, hE12⟩
            have HE12 := Lib.hid (HE11.out.trans hE12)
            clear hE12
            rw [sameSets_refl S]
            go_wp2
            go_ret
            exact ⟨rfl, HE12.out⟩
      · go_wp2_with fail
        refine (law05_answers _).mono ?_
        rintro e w3 ⟨rfl, hE3⟩
        go_wp2
        go_ret
        exact ⟨rfl, HE2.out.trans hE3⟩
    · go_wp2_with fail
      refine (law05_answers _).mono ?_
      rintro e w3 ⟨rfl, hE3⟩
      go_wp2
      go_ret
      exact ⟨rfl, HE2.out.trans hE3⟩
end Go.Proofs.Ytfnelkcllaaebaa
end
