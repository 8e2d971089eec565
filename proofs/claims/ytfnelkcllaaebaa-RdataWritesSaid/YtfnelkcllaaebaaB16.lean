/- Parts of one proof, joined: LSets, SetP, LOrder. Conditions: those that each theorem states. -/
import Derived.Test.YtfnelkcllaaebaaB14
import Derived.Deep.RegionHeld3
section
/- Contract of law05.RrSets. No condition but that slices read as lists, and the strings' sizes. -/
open Go.RowKit
set_option linter.unusedVariables false
set_option linter.unusedSimpArgs false
namespace Go.Proofs.Ytfnelkcllaaebaa
theorem neq_comm (a b : List Str) : neq a b = neq b a := by unfold neq; rw [decide_eq_decide]; exact ⟨Eq.symm, Eq.symm⟩
theorem neq_trans {a b c : List Str} (h : neq a b = true) (h2 : neq b c = true) : neq a c = true := by
  unfold neq at *; rw [decide_eq_true_eq] at *; exact h.trans h2
theorem dsame_refl (a : Dat) : dsame a a = true := by unfold dsame; simp [neq_refl]
theorem dsame_trans {a b c : Dat} (h : dsame a b = true) (h2 : dsame b c = true) : dsame a c = true := by
  unfold dsame at *
  simp only [Bool.and_eq_true, decide_eq_true_eq] at *
  obtain ⟨a1, a2, a3, a4, a5⟩ := h
  obtain ⟨b1, b2, b3, b4, b5⟩ := h2
  exact ⟨a1.trans b1, a2.trans b2, a3.trans b3, neq_trans a4 b4, neq_trans a5 b5⟩
theorem dexact_refl (a : Dat) : dexact a a = true := by unfold dexact; simp [dsame_refl]
theorem sameSets_comm (a b : List Dat) : sameSets a b = sameSets b a := by unfold sameSets; exact Bool.and_comm _ _
theorem inAll_iff (a b : List Dat) : inAll a b = true ↔ ∀ x ∈ a, ∃ y ∈ b, dsame x y = true := by
  unfold inAll
  rw [Bool.not_eq_true', List.any_eq_false]
  constructor
  · intro h x hx
    have := h x hx
    simpa using this
  · intro h x hx
    obtain ⟨y, hy, hd⟩ := h x hx
    simp only [Bool.not_eq_true', Bool.not_eq_false]
    exact List.any_eq_true.2 ⟨y, hy, hd⟩
theorem sameSets_refl (a : List Dat) : sameSets a a = true := by
  unfold sameSets
  have : inAll a a = true := (inAll_iff a a).2 fun x hx => ⟨x, hx, dsame_refl x⟩
  rw [this]; rfl
theorem light5_room {l : List Rec} (h : light5 l = true) : (∀ r ∈ l, RRoom r) ∧ l.length ≤ 60 := by
  unfold light5 at h
  rw [Bool.and_eq_true, List.all_eq_true, decide_eq_true_eq] at h
  refine ⟨fun r hr => ?_, h.2⟩
  have := h.1 r hr
  unfold lightR at this
  rw [decide_eq_true_eq] at this
  obtain ⟨q1, q2, q3, q4, q5, q6⟩ := this
  refine ⟨by omega, by omega, by omega, by omega, by omega, by omega⟩
set_option maxRecDepth 100000 in
set_option maxHeartbeats 4000000 in
theorem law05_RrSets (l : List Rec) (n : List Str) (kind : Int) (other : List Dat) (v vn vo : Value) (w : World) (hv : RecsV w v l) (hn : NameV w vn n) (ho : DatsV w vo other) (fr : ∀ r ∈ l, RFit r) (fn : Fits n) (fo : ∀ d ∈ other, DFit d) :
    Calls Try.prog 8 #[v, vn, .int .i64 kind, vo] w fun e w' => e = .returned (.bool true) ∧ Ext w w' := by
  have hll := hv.len
  have hnl := hn.len
  have hol := ho.len
  have HV := Lib.hid hv
  have HN := Lib.hid hn
  have HOo := Lib.hid ho
  have FR := Lib.hid fr
  have FN := Lib.hid fn
  have FO := Lib.hid fo
  obtain ⟨A, c, rfl, h1, h2⟩ := hv.form
  obtain ⟨An, cn, rfl, n1, n2⟩ := hn.form
  obtain ⟨Ao, co, rfl, o1, o2⟩ := ho.form
  clear hv hn ho fr fn fo
  unfold maxI at *
  go_enter Try.func8, Try.ntmps8
  go_wp2_with fail
  refine (law05_answers _).mono ?_
  rintro e w1 ⟨rfl, hE1⟩
  have HE1 := Lib.hid hE1
  clear hE1
  go_wp2_with fail
  refine (law05_light l _ w1 (HV.out.ext HE1.out)).mono ?_
  rintro e w2 ⟨rfl, hE2⟩
  have HE2 := Lib.hid (HE1.out.trans hE2)
  clear hE2
  cases hL : light5 l with
  | false =>
    clear hL
    go_wp2_with fail
    refine (law05_answers _).mono ?_
    rintro e w3 ⟨rfl, hE3⟩
    go_wp2
    go_ret
    exact ⟨rfl, HE2.out.trans hE3⟩
  | true =>
    obtain ⟨hroom, h60⟩ := light5_room hL
    have HR := Lib.hid hroom
    clear hroom hL
    by_cases hn2 : n.length ≤ 200
    · by_cases ho2 : other.length ≤ 60
      · go_wp2_with fail
        refine (ref_OwnRRs l _ w2 (HV.out.ext HE2.out) HR.out (by omega)).mono ?_
        rintro e w3 ⟨hE3, v3, rfl, hO3⟩
        have HE3 := Lib.hid (HE2.out.trans hE3)
        have HO3 := Lib.hid (recs_of_own hO3)
        obtain ⟨A3, c3, rfl, _, _⟩ := hO3.slice
        clear hE3 hO3
        go_wp2_with (at_builtin; go_must (refine wpList_app0 Value.string rfl (.tmp 35) (.tmp 36) 23 9 (.string ⟨#[]⟩) 16 rfl Try.underlying23 (by kernel_rfl) rfl (by decide) _ n _ rfl rfl (fun _ => rfl) (HN.out.ext (HE3.out.alloc _)) (by omega) ?_); intro v9 w4 hN9 hE9; obtain ⟨A9, n9, k9, rfl⟩ := hN9.slice; have HE4 := Lib.hid ((HE3.out.alloc _).trans hE9); have HN9 := Lib.hid hN9; have HO4 := Lib.hid (HO3.out.ext (((Ext.refl _).alloc _).trans hE9)); clear hN9 hE9)
        have hS := setOf_len n kind l
        refine (rr_Set l n kind _ _ w4 HO4.out HN9.out.1 FR.out FN.out HR.out (by omega)).mono ?_
        rintro e w5 ⟨hE5, v5, rfl, hO5⟩
        obtain ⟨A5, c5, rfl, _, _⟩ := hO5.slice
        have HE5 := Lib.hid (HE4.out.trans hE5)
        have HO5 := Lib.hid (dats_of_own hO5)
        clear hE5 hO5
        go_wp2_with fail
        refine (ref_Set l n kind _ _ w5 (HV.out.ext HE5.out) (HN.out.ext HE5.out) FR.out FN.out (by omega)).mono ?_
        rintro e w6 ⟨hE6, v6, rfl, hO6⟩
        obtain ⟨A6, c6, rfl, _, _⟩ := hO6.slice
        have HE6 := Lib.hid (HE5.out.trans hE6)
        have HW := Lib.hid (show DatsV w6 _ (setOf n kind l).1 from hO6.sl.imp fun _ _ h => h.1.ext h.2)
        have HS := Lib.hid (HO5.out.ext hE6)
        clear hE6 hO6
        have HF : Hid (∀ d ∈ (setOf n kind l).1, DFit d) := Lib.hid (fun d hd => by
          obtain ⟨r, hr1, hr2⟩ := setOf_mem n kind _ d hd
          rw [← hr2]
          exact (FR.out r hr1).2)
        generalize (setOf n kind l).2 = ttl at *
        generalize (setOf n kind l).1 = S at *
        go_wp2
        go_loopw [13] (fun i wr => ∃ k : Nat, k ≤ S.length ∧ i = .int .i64 k ∧ Ext w6 wr) (fun i _ => S.length - (intOf i).toNat)
        case atStart => exact ⟨0, by omega, rfl, Ext.refl _⟩
        case round =>
          obtain ⟨k, hk, rfl, hE⟩ := hrel
          by_cases hlt : k < S.length
          · obtain ⟨b, o, x1, e1, _, _, _⟩ := HS.out.opens (by omega)
            injection e1 with e1 e3 e4
            subst e1
            clear e3 e4
            obtain ⟨b', o', x1', e1, _, _, _⟩ := HW.out.opens (by omega)
            injection e1 with e1 e3 e4
            subst e1
            clear e3 e4
            have hx := List.getElem?_eq_getElem hlt
            obtain ⟨a0, a1, a2, a3, a4, hd, c0', c1', c2', c3', c4'⟩ := dats_cells HS.out hx
            obtain ⟨b0, b1, b2, b3, b4, hd2, d0', d1', d2', d3', d4'⟩ := dats_cells HW.out hx
            have c0 := hE.cell c0'
            have c1 := hE.cell c1'
            have c2 := hE.cell c2'
            have c3 := hE.cell c3'
            have c4 := hE.cell c4'
            have d0 := hE.cell d0'
            have d1 := hE.cell d1'
            have d2 := hE.cell d2'
            have d3 := hE.cell d3'
            have d4 := hE.cell d4'
            clear c0' c1' c2' c3' c4' d0' d1' d2' d3' d4'
            have hfx := HF.out _ (List.mem_of_getElem? hx)
            have HC := Lib.hid (rref_Exact _ _ _ _ _ _ _ _ _ _ _ _ wr.drew (hd.ext hE.drew) (hd2.ext hE.drew) hfx hfx)
            rw [dexact_refl] at HC
            have HEk := Lib.hid hE
            clear hx hd hd2 hfx hE
            go_wp2
            go_region_with (go_at_call 50; refine (HC.out).mono ?_; rintro e w' ⟨rfl, hb'⟩)
            all_goals go_wp2
            all_goals go_roundw
            all_goals first | exact ⟨k + 1, by omega, by go_num, (HEk.out.drew).trans hb'⟩ | (simp [intOf]; omega)
          · have HE7 := Lib.hid (HE6.out.trans hE)
            have HS7 := Lib.hid (HS.out.ext hE)
            have HW7 := Lib.hid (HW.out.ext hE)
            clear hE
            go_wp2_with fail
            refine (rr_Same S other _ _ wr HS7.out (HOo.out.ext HE7.out) HF.out FO.out).mono ?_
            rintro e w8 ⟨rfl, hE8⟩
            have HE8 := Lib.hid (HE7.out.trans hE8)
            have HS8 := Lib.hid (HS7.out.ext hE8)
            have HW8 := Lib.hid (HW7.out.ext hE8)
            clear hE8
            go_wp2_with fail
            refine (ref_SameSet S other _ _ w8 HW8.out (HOo.out.ext HE8.out) HF.out FO.out).mono ?_
            rintro e w9 ⟨rfl, hE9⟩
            have HE9 := Lib.hid (HE8.out.trans hE9)
            have HS9 := Lib.hid (HS8.out.ext hE9)
            clear hE9
            have tt : (sameSets S other == sameSets S other) = true := by simp
            go_wp2_with fail
            refine (rr_Same other S _ _ w9 (HOo.out.ext HE9.out) HS9.out FO.out HF.out).mono ?_
            rintro e w10 ⟨rfl, hE10⟩
            have HE10 := Lib.hid (HE9.out.trans hE10)
            have HS10 := Lib.hid (HS9.out.ext hE10)
            clear hE10
            go_wp2_with fail
            refine (rr_Same S other _ _ w10 HS10.out (HOo.out.ext HE10.out) HF.out FO.out).mono ?_
            rintro e w11 ⟨rfl, hE11⟩
            have HE11 := Lib.hid (HE10.out.trans hE11)
            have HS11 := Lib.hid (HS10.out.ext hE11)
            clear hE11
            rw [sameSets_comm other S]
            go_wp2_with fail
            refine (rr_Same S S _ _ w11 HS11.out HS11.out HF.out HF.out).mono ?_
            rintro e w12 ⟨rfl, hE12⟩
            have HE12 := Lib.hid (HE11.out.trans hE12)
            clear hE12
            rw [sameSets_refl S]
            go_wp2
            go_ret
            exact ⟨rfl, HE12.out⟩
      · go_wp2_with fail
        refine (law05_answers _).mono ?_
        rintro e w3 ⟨rfl, hE3⟩
        go_wp2
        go_ret
        exact ⟨rfl, HE2.out.trans hE3⟩
    · go_wp2_with fail
      refine (law05_answers _).mono ?_
      rintro e w3 ⟨rfl, hE3⟩
      go_wp2
      go_ret
      exact ⟨rfl, HE2.out.trans hE3⟩
end Go.Proofs.Ytfnelkcllaaebaa
end
section
/- Sets of records: the order and what is there twice do not matter. No condition: plain lists. -/
set_option linter.unusedVariables false
set_option linter.unusedSimpArgs false
namespace Go.Proofs.Ytfnelkcllaaebaa
structure SetP (n : List Str) (kind : Int) (l : List Rec) (s : List Dat × Int) : Prop where
  all : ∀ r ∈ l, keepR n kind r = true → ∃ d ∈ s.1, dsame d r.data = true
  from_ : ∀ d ∈ s.1, ∃ r ∈ l, keepR n kind r = true ∧ r.data = d
  pair : s.1.Pairwise fun a b => dsame a b = false
  none : s.1 = [] → s.2 = 0 ∧ ∀ r ∈ l, keepR n kind r = false
  least : s.1 ≠ [] → (∃ r ∈ l, keepR n kind r = true ∧ r.ttl = s.2) ∧ ∀ r ∈ l, keepR n kind r = true → s.2 ≤ r.ttl
theorem setP_step {n : List Str} {kind : Int} {l : List Rec} {s : List Dat × Int} {r : Rec} (h : SetP n kind l s) : SetP n kind (l ++ [r]) (setStep n kind s r) := by
  unfold setStep
  cases hk : keepR n kind r with
  | false =>
    simp only [Bool.false_eq_true, if_false]
    refine ⟨?_, ?_, h.pair, ?_, ?_⟩
    · intro x hx hkx
      rw [List.mem_append, List.mem_singleton] at hx
      rcases hx with hx | rfl
      · exact h.all x hx hkx
      · rw [hk] at hkx; cases hkx
    · intro d hd
      obtain ⟨x, hx, h1, h2⟩ := h.from_ d hd
      exact ⟨x, by simp [hx], h1, h2⟩
    · intro h0
      obtain ⟨h1, h2⟩ := h.none h0
      refine ⟨h1, fun x hx => ?_⟩
      rw [List.mem_append, List.mem_singleton] at hx
      rcases hx with hx | rfl
      · exact h2 x hx
      · exact hk
    · intro h0
      obtain ⟨⟨x, hx, h1, h2⟩, h3⟩ := h.least h0
      refine ⟨⟨x, by simp [hx], h1, h2⟩, fun y hy hky => ?_⟩
      rw [List.mem_append, List.mem_singleton] at hy
      rcases hy with hy | rfl
      · exact h3 y hy hky
      · rw [hk] at hky; cases hky
  | true =>
    simp only [if_true]
    have hleast : (∃ x ∈ l ++ [r], keepR n kind x = true ∧ x.ttl = (if s.1 = [] ∨ r.ttl < s.2 then r.ttl else s.2)) ∧ ∀ x ∈ l ++ [r], keepR n kind x = true → (if s.1 = [] ∨ r.ttl < s.2 then r.ttl else s.2) ≤ x.ttl := by
      by_cases h0 : s.1 = []
      · rw [if_pos (.inl h0)]
        obtain ⟨h1, h2⟩ := h.none h0
        refine ⟨⟨r, by simp, hk, rfl⟩, fun y hy hky => ?_⟩
        rw [List.mem_append, List.mem_singleton] at hy
        rcases hy with hy | rfl
        · rw [h2 y hy] at hky; cases hky
        · exact Int.le_refl _
      · obtain ⟨⟨x, hx, h1, h2⟩, h3⟩ := h.least h0
        by_cases h4 : r.ttl < s.2
        · rw [if_pos (.inr h4)]
          refine ⟨⟨r, by simp, hk, rfl⟩, fun y hy hky => ?_⟩
          rw [List.mem_append, List.mem_singleton] at hy
          rcases hy with hy | rfl
          · have := h3 y hy hky; omega
          · exact Int.le_refl _
        · rw [if_neg (by simp [h0, h4])]
          refine ⟨⟨x, by simp [hx], h1, h2⟩, fun y hy hky => ?_⟩
          rw [List.mem_append, List.mem_singleton] at hy
          rcases hy with hy | rfl
          · exact h3 y hy hky
          · omega
    cases hq : s.1.any (fun x => dsame x r.data) with
    | true =>
      simp only [if_true]
      obtain ⟨d0, hd0, hd1⟩ := List.any_eq_true.1 hq
      refine ⟨?_, ?_, h.pair, fun h0 => ?_, fun _ => hleast⟩
      · intro x hx hkx
        rw [List.mem_append, List.mem_singleton] at hx
        rcases hx with hx | rfl
        · exact h.all x hx hkx
        · exact ⟨d0, hd0, hd1⟩
      · intro d hd
        obtain ⟨x, hx, h1, h2⟩ := h.from_ d hd
        exact ⟨x, by simp [hx], h1, h2⟩
      · simp only at h0; rw [h0] at hd0; cases hd0
    | false =>
      simp only [Bool.false_eq_true, if_false]
      rw [List.any_eq_false] at hq
      refine ⟨?_, ?_, ?_, fun h0 => ?_, fun _ => hleast⟩
      · intro x hx hkx
        rw [List.mem_append, List.mem_singleton] at hx
        rcases hx with hx | rfl
        · obtain ⟨d, hd, h1⟩ := h.all x hx hkx
          exact ⟨d, by simp [hd], h1⟩
        · exact ⟨x.data, by simp, dsame_refl _⟩
      · intro d hd
        rw [List.mem_append, List.mem_singleton] at hd
        rcases hd with hd | rfl
        · obtain ⟨x, hx, h1, h2⟩ := h.from_ d hd
          exact ⟨x, by simp [hx], h1, h2⟩
        · exact ⟨r, by simp, hk, rfl⟩
      · rw [List.pairwise_append]
        refine ⟨h.pair, by simp, fun a ha b hb => ?_⟩
        rw [List.mem_singleton] at hb
        subst hb
        have := hq a ha
        simpa using this
      · simp at h0
theorem setP (n : List Str) (kind : Int) (l : List Rec) : SetP n kind l (setOf n kind l) := by
  have key : ∀ (l m : List Rec), SetP n kind m (setOf n kind m) → SetP n kind (m ++ l) (setOf n kind (m ++ l)) := by
    intro l
    induction l with
    | nil => intro m h; simpa using h
    | cons r l ih =>
      intro m h
      have := ih (m ++ [r]) (by rw [setOf_snoc]; exact setP_step h)
      simpa using this
  exact key l [] ⟨by simp, by simp [setOf], by simp [setOf], by simp [setOf], by simp [setOf]⟩
theorem pigeon : ∀ (a b : List Dat), a.Pairwise (fun x y => dsame x y = false) → (∀ x ∈ a, ∃ y ∈ b, dsame x y = true) → a.length ≤ b.length := by
  intro a
  induction a with
  | nil => intro b _ _; simp
  | cons x a ih =>
    intro b hp hb
    rw [List.pairwise_cons] at hp
    obtain ⟨y, hy, hxy⟩ := hb x (by simp)
    have h1 : (b.filter fun z => !dsame x z).length < b.length := by
      refine List.length_filter_lt_length_iff_exists.2 ⟨y, hy, by simp [hxy]⟩
    have h2 := ih (b.filter fun z => !dsame x z) hp.2 (fun z hz => by
      obtain ⟨u, hu, hzu⟩ := hb z (by simp [hz])
      refine ⟨u, List.mem_filter.2 ⟨hu, ?_⟩, hzu⟩
      cases hxu : dsame x u with
      | false => rfl
      | true =>
        have := dsame_trans hxu (by rw [dsame_comm]; exact hzu)
        rw [hp.1 z hz] at this
        cases this)
    simp only [List.length_cons]
    omega
/-- The same records, in whatever order and number, give the same set. -/
theorem set_same {n : List Str} {kind : Int} {l m : List Rec} (h : ∀ r, r ∈ l ↔ r ∈ m) : sameSets (setOf n kind l).1 (setOf n kind m).1 = true ∧ (setOf n kind l).1.length = (setOf n kind m).1.length ∧ (setOf n kind l).2 = (setOf n kind m).2 := by
  have hl := setP n kind l
  have hm := setP n kind m
  generalize setOf n kind l = s at *
  generalize setOf n kind m = t at *
  have sub : ∀ {l m : List Rec} {s t : List Dat × Int}, SetP n kind l s → SetP n kind m t → (∀ r, r ∈ l → r ∈ m) → ∀ x ∈ s.1, ∃ y ∈ t.1, dsame x y = true := by
    intro l m s t hl hm h x hx
    obtain ⟨r, hr, h1, h2⟩ := hl.from_ x hx
    obtain ⟨d, hd, h3⟩ := hm.all r (h r hr) h1
    exact ⟨d, hd, by rw [dsame_comm, ← h2]; exact h3⟩
  have s1 := sub hl hm (fun r => (h r).1)
  have s2 := sub hm hl (fun r => (h r).2)
  refine ⟨?_, Nat.le_antisymm (pigeon _ _ hl.pair s1) (pigeon _ _ hm.pair s2), ?_⟩
  · unfold sameSets
    rw [(inAll_iff _ _).2 s1, (inAll_iff _ _).2 s2]; rfl
  · by_cases h0 : s.1 = []
    · have h1 : t.1 = [] := by
        cases ht : t.1 with
        | nil => rfl
        | cons y ys =>
          obtain ⟨x, hx, _⟩ := s2 y (by rw [ht]; simp)
          rw [h0] at hx; cases hx
      rw [(hl.none h0).1, (hm.none h1).1]
    · have h1 : t.1 ≠ [] := by
        intro ht
        cases hs : s.1 with
        | nil => exact h0 hs
        | cons y ys =>
          obtain ⟨x, hx, _⟩ := s1 y (by rw [hs]; simp)
          rw [ht] at hx; cases hx
      obtain ⟨⟨x, hx, k1, k2⟩, k3⟩ := hl.least h0
      obtain ⟨⟨y, hy, j1, j2⟩, j3⟩ := hm.least h1
      have a1 := j3 x ((h x).1 hx) k1
      have a2 := k3 y ((h y).2 hy) j1
      omega
theorem turned_same (l : List Rec) (k : Nat) (x : Rec) (hx : l[k]? = some x) : ∀ r, r ∈ l ↔ r ∈ l.reverse ++ [x] := by
  intro r
  rw [List.mem_append, List.mem_reverse, List.mem_singleton]
  constructor
  · exact .inl
  · rintro (h | rfl)
    · exact h
    · exact List.mem_of_getElem? hx
end Go.Proofs.Ytfnelkcllaaebaa
end
section
/- Contract of law05.RrOrder. No condition but that the slice reads as a list, and the strings' sizes. -/
open Go.RowKit
set_option linter.unusedVariables false
set_option linter.unusedSimpArgs false
namespace Go.Proofs.Ytfnelkcllaaebaa
theorem rev_step {α : Type} {l : List α} {j : Nat} {x : α} (hx : l[j]? = some x) : (l.drop (j + 1)).reverse ++ [x] = (l.drop j).reverse := by
  obtain ⟨hlt, rfl⟩ := List.getElem?_eq_some_iff.1 hx
  rw [List.drop_eq_getElem_cons hlt, List.reverse_cons]
theorem ones9 (An A0 A1 A2 A3 A4 : Option Addr) (an a0 a1 a2 a3 a4 cn c0 c1 c2 c3 c4 : Nat) (t c s : Int) : ∀ u ∈ (#[Value.slice An an cn, .int .i64 t, .int .i64 c, .int .i64 s, .slice A0 a0 c0, .slice A1 a1 c1, .slice A2 a2 c2, .slice A3 a3 c3, .slice A4 a4 c4] : Array Value).toList, u.oneCell' = true := by
  intro u hu
  simp only [List.mem_cons, List.not_mem_nil, or_false] at hu
  rcases hu with rfl | rfl | rfl | rfl | rfl | rfl | rfl | rfl | rfl <;> rfl
set_option maxRecDepth 100000 in
set_option maxHeartbeats 4000000 in
theorem law05_RrOrder (l : List Rec) (tw : Int) (v : Value) (w : World) (hv : RecsV w v l) (fr : ∀ r ∈ l, RFit r) (ht : 0 ≤ tw ∧ tw ≤ 255) :
    Calls Try.prog 9 #[v, .int .u8 tw] w fun e w' => e = .returned (.bool true) ∧ Ext w w' := by
  have hll := hv.len
  have HV := Lib.hid hv
  have FR := Lib.hid fr
  obtain ⟨A, c, rfl, h1, h2⟩ := hv.form
  clear hv fr
  unfold maxI at *
  go_enter Try.func9, Try.ntmps9
  go_wp2_with fail
  refine (law05_answers _).mono ?_
  rintro e w1 ⟨rfl, hE1⟩
  have HE1 := Lib.hid hE1
  clear hE1
  go_wp2_with fail
  refine (law05_light l _ w1 (HV.out.ext HE1.out)).mono ?_
  rintro e w2 ⟨rfl, hE2⟩
  have HE2 := Lib.hid (HE1.out.trans hE2)
  clear hE2
  cases hL : light5 l with
  | false =>
    clear hL
    go_wp2_with fail
    refine (law05_answers _).mono ?_
    rintro e w3 ⟨rfl, hE3⟩
    go_wp2
    go_ret
    exact ⟨rfl, HE2.out.trans hE3⟩
  | true =>
    obtain ⟨hroom, h60⟩ := light5_room hL
    have HR := Lib.hid hroom
    clear hroom hL
    by_cases hl0 : l = []
    · have t0 := len_zero hl0
      clear hl0
      go_wp2_with fail
      refine (law05_answers _).mono ?_
      rintro e w3 ⟨rfl, hE3⟩
      go_wp2
      go_ret
      exact ⟨rfl, HE2.out.trans hE3⟩
    · have t0 := len_nz hl0
      have hl1 : 1 ≤ l.length := by have := List.length_pos_iff.2 hl0; omega
      obtain ⟨K, hK⟩ : ∃ K : Nat, tw % (l.length : Int) = (K : Int) := ⟨(tw % (l.length : Int)).toNat, by have := Int.emod_nonneg tw (b := (l.length : Int)) (by omega); omega⟩
      have hKl : K < l.length := by have := Int.emod_lt_of_pos tw (b := (l.length : Int)) (by omega); omega
      clear hl0
      go_wp2
      go_loopw [6, 7] (fun t i wr => ∃ (m : Nat) (z : Int), m ≤ l.length ∧ z = (m : Int) - 1 ∧ i = .int .i64 z ∧ OwnM (fun W cs r => RecR w cs r ∧ Ext w W) 49 9 wr w.heap.size t (l.drop m).reverse ∧ Ext w wr) (fun _ i _ => (intOf i + 1).toNat)
      case atStart => exact ⟨l.length, _, Nat.le_refl _, rfl, rfl, by rw [List.drop_length]; exact OwnM.nil _ _ _ _ _, HE2.out⟩
      case round =>
        obtain ⟨m, z, hm, hz, rfl, hO, hE⟩ := hrel
        rcases m with _ | j
        · obtain rfl : z = -1 := by omega
          clear hz
          rw [List.drop_zero] at hO
          have HO := Lib.hid hO
          clear hO
          obtain ⟨b, o, c1, e1, _, _, _⟩ := HV.out.opens (by omega)
          injection e1 with e1 e3 e4
          subst e1
          clear e3 e4
          have hx := List.getElem?_eq_getElem (show K < l.length by omega)
          obtain ⟨vn, v0, v1, v2, v3, v4, hn, hd, c0', c1', c2', c3', c4', c5', c6', c7', c8'⟩ := recs_cells HV.out hx
          obtain ⟨An, kn, rfl, _, _⟩ := hn.form
          obtain ⟨A0, k0, rfl, _, _⟩ := hd.by_.form
          obtain ⟨A1, k1, rfl, _, _⟩ := hd.ho.form
          obtain ⟨A2, k2, rfl, _, _⟩ := hd.ma.form
          obtain ⟨A3, k3, rfl, _, _⟩ := hd.nu.form
          obtain ⟨A4, k4, rfl, _, _⟩ := hd.tx.form
          have g0 := hE.cell c0'
          have g1 := hE.cell c1'
          have g2 := hE.cell c2'
          have g3 := hE.cell c3'
          have g4 := hE.cell c4'
          have g5 := hE.cell c5'
          have g6 := hE.cell c6'
          have g7 := hE.cell c7'
          have g8 := hE.cell c8'
          have c0x := c0'
          have c1x := c1'
          clear c0' c1' c2' c3' c4' c5' c6' c7' c8'
          have HY : Hid (RecR w (#[.slice An l[K].name.length kn, .int .i64 l[K].type, .int .i64 l[K].cls, .int .i64 l[K].ttl, .slice A0 l[K].data.bytes.length k0, .slice A1 l[K].data.host.length k1, .slice A2 l[K].data.mail.length k2, .slice A3 l[K].data.nums.length k3, .slice A4 l[K].data.texts.length k4] : Array Value).toList l[K] ∧ Ext w wr) := Lib.hid ⟨⟨_, _, _, _, _, _, rfl, hn, hd⟩, hE⟩
          have HX := Lib.hid hx
          have HE := Lib.hid hE
          have HS := Lib.hid hE.size
          have HL : Hid ((l.reverse.length + 1) * 168 ≤ 140737488355328) := Lib.hid (by rw [List.length_reverse]; omega)
          have HFx := Lib.hid (FR.out _ (List.mem_of_getElem? hx))
          have HNx := Lib.hid hn
          have hR2 : ∀ r ∈ l.reverse ++ [l[K]], RRoom r := fun r hr => HR.out r ((turned_same l K _ hx r).2 hr)
          have hF2 : ∀ r ∈ l.reverse ++ [l[K]], RFit r := fun r hr => FR.out r ((turned_same l K _ hx r).2 hr)
          have HR2 := Lib.hid hR2
          have HF2 := Lib.hid hF2
          have HT := Lib.hid (fun (n : List Str) (kind : Int) => set_same (n := n) (kind := kind) (turned_same l K _ hx))
          clear hn hd hx hR2 hF2
          generalize l[K] = x at *
          have H1 := Lib.hid (ones9 An A0 A1 A2 A3 A4 x.name.length x.data.bytes.length x.data.host.length x.data.mail.length x.data.nums.length x.data.texts.length kn k0 k1 k2 k3 k4 x.type x.cls x.ttl)
          go_wp2_with (at_builtin; refine wpList_appB (fun W cs r => RecR w cs r ∧ Ext w W) w.heap.size rfl (.tmp 44) (.tmp 49) 37 49 (.agg #[.slice none 0 0, .int .i64 0, .int .i64 0, .int .i64 0, .slice none 0 0, .slice none 0 0, .slice none 0 0, .slice none 0 0, .slice none 0 0]) 9 168 rfl Try.underlying37 rec_info rfl (by decide) (by decide) (keepsB_old w) _ l.reverse x #[.slice An x.name.length kn, .int .i64 x.type, .int .i64 x.cls, .int .i64 x.ttl, .slice A0 x.data.bytes.length k0, .slice A1 x.data.host.length k1, .slice A2 x.data.mail.length k2, .slice A3 x.data.nums.length k3, .slice A4 x.data.texts.length k4] rfl rfl rfl H1.out HY.out HO.out HS.out HL.out ?_; intro v5 w5 hO5 hg5; have HE5 := Lib.hid (HE.out.grown hg5 (fun q hq => HO.out.base_le q hq)); have HO5 := Lib.hid hO5; clear hO5 hg5)
          have d0 := HE5.out.cell c0x
          have d1 := HE5.out.cell c1x
          have HO5l : Hid ((l.reverse ++ [x]).length ≤ 1000) := Lib.hid (by simp; omega)
          generalize l.reverse ++ [x] = lr at *
          have HOr := Lib.hid (HO5.out.sl.imp fun _ _ h => RecR.ext h.1 h.2)
          obtain ⟨A5, c5, rfl, _, _⟩ := HO5.out.slice
          have HE5d := Lib.hid (HE5.out.drew)
          have HC1 := Lib.hid (ref_OwnRRs l _ w5.drew (HV.out.ext HE5d.out) HR.out (by omega))
          go_wp2
          go_region_held3 (fun W => W.cell? ⟨b, o + K * 9, none⟩ = some (.slice An x.name.length kn) ∧ W.cell? ⟨b, o + K * 9 + 1, none⟩ = some (.int .i64 x.type))
            (first | go_keep | exact ⟨HE7.out.cell c0x, HE7.out.cell c1x⟩ | exact ⟨HE6.out.cell c0x, HE6.out.cell c1x⟩)
            ((first
              | (go_at_call 48; refine (HC1.out).mono ?_; rintro e w6 ⟨hE6, v6, rfl, hO6⟩; obtain ⟨A6, k6, rfl, _, _⟩ := hO6.slice; have HE6 := Lib.hid (HE5d.out.trans hE6); have HG6 := Lib.hid ((Ext.refl w5).drew.trans hE6); have HO6 := Lib.hid (recs_of_own hO6); clear hE6 hO6)
              | (go_at_call 47; refine (rr_Set l x.name x.type _ _ _ HO6.out (HNx.out.ext HE6.out) FR.out HFx.out.1 HR.out (by omega)).mono ?_; rintro e w7 ⟨hE7, v7, rfl, hO7⟩; obtain ⟨A7, k7, rfl, _, _⟩ := hO7.slice; have HE7 := Lib.hid (HE6.out.trans hE7); have HG7 := Lib.hid (HG6.out.trans hE7); have HO7 := Lib.hid (dats_of_own hO7); clear hE7 hO7)))
          have HE7d := Lib.hid (HE7.out.drew)
          have HC2 := Lib.hid (ref_OwnRRs lr _ w7.drew (RecsV.ext HOr.out HG7.out.drew) HR2.out HO5l.out)
          have e0 := HE7.out.cell c0x
          have e1 := HE7.out.cell c1x
          clear d0 d1 g0 g1 g2 g3 g4 g5 g6 g7 g8
          go_wp2
          go_region_held3 (fun W => W.cell? ⟨b, o + K * 9, none⟩ = some (.slice An x.name.length kn) ∧ W.cell? ⟨b, o + K * 9 + 1, none⟩ = some (.int .i64 x.type))
            (first | go_keep | exact ⟨HE9.out.cell c0x, HE9.out.cell c1x⟩ | exact ⟨HE8.out.cell c0x, HE8.out.cell c1x⟩)
            ((first
              | (go_at_call 48; refine (HC2.out).mono ?_; rintro e w8 ⟨hE8, v8, rfl, hO8⟩; obtain ⟨A8, k8, rfl, _, _⟩ := hO8.slice; have HE8 := Lib.hid (HE7d.out.trans hE8); have HG8 := Lib.hid ((Ext.refl w7).drew.trans hE8); have HO8 := Lib.hid (recs_of_own hO8); clear hE8 hO8)
              | (go_at_call 47; refine (rr_Set lr x.name x.type _ _ _ HO8.out (HNx.out.ext HE8.out) HF2.out HFx.out.1 HR2.out HO5l.out).mono ?_; rintro e w9 ⟨hE9, v9, rfl, hO9⟩; obtain ⟨A9, k9, rfl, _, _⟩ := hO9.slice; have HE9 := Lib.hid (HE8.out.trans hE9); have HG9 := Lib.hid (HG8.out.trans hE9); have HO9 := Lib.hid (dats_of_own hO9); clear hE9 hO9)))
          have HO7' := Lib.hid (HO7.out.ext HG9.out)
          obtain ⟨q1, q2, q3⟩ := HT.out x.name x.type
          have HM1 : Hid (∀ d ∈ (setOf x.name x.type l).1, DFit d) := Lib.hid (fun d hd => by
            obtain ⟨r, hr1, hr2⟩ := setOf_mem _ _ _ d hd
            rw [← hr2]
            exact (FR.out r hr1).2)
          have HM2 : Hid (∀ d ∈ (setOf x.name x.type lr).1, DFit d) := Lib.hid (fun d hd => by
            obtain ⟨r, hr1, hr2⟩ := setOf_mem _ _ _ d hd
            rw [← hr2]
            exact (HF2.out r hr1).2)
          clear HT
          rw [← q2] at HO9 ⊢
          rw [← q3]
          clear q2 q3
          generalize (setOf x.name x.type l).2 = ttl at *
          generalize (setOf x.name x.type l).1 = S at *
          generalize (setOf x.name x.type lr).1 = T at *
          have HC3 := Lib.hid (rr_Same S T _ _ w9 HO7'.out HO9.out HM1.out HM2.out)
          rw [q1] at HC3
          clear q1
          go_wp2_with fail
          refine (HC3.out).mono ?_
          rintro e w10 ⟨rfl, hE10⟩
          have HE10 := Lib.hid (HE9.out.trans hE10)
          clear hE10
          go_wp2
          go_ret
          exact ⟨rfl, HE10.out⟩
        · obtain rfl : z = (j : Int) := by omega
          clear hz
          obtain ⟨b, o, c1, e1, _, _, _⟩ := HV.out.opens (by omega)
          injection e1 with e1 e3 e4
          subst e1
          clear e3 e4
          have hx := List.getElem?_eq_getElem (show j < l.length by omega)
          obtain ⟨vn, v0, v1, v2, v3, v4, hn, hd, c0', c1', c2', c3', c4', c5', c6', c7', c8'⟩ := recs_cells HV.out hx
          obtain ⟨An, kn, rfl, _, _⟩ := hn.form
          obtain ⟨A0, k0, rfl, _, _⟩ := hd.by_.form
          obtain ⟨A1, k1, rfl, _, _⟩ := hd.ho.form
          obtain ⟨A2, k2, rfl, _, _⟩ := hd.ma.form
          obtain ⟨A3, k3, rfl, _, _⟩ := hd.nu.form
          obtain ⟨A4, k4, rfl, _, _⟩ := hd.tx.form
          have g0 := hE.cell c0'
          have g1 := hE.cell c1'
          have g2 := hE.cell c2'
          have g3 := hE.cell c3'
          have g4 := hE.cell c4'
          have g5 := hE.cell c5'
          have g6 := hE.cell c6'
          have g7 := hE.cell c7'
          have g8 := hE.cell c8'
          clear c0' c1' c2' c3' c4' c5' c6' c7' c8'
          have HY : Hid (RecR w (#[.slice An l[j].name.length kn, .int .i64 l[j].type, .int .i64 l[j].cls, .int .i64 l[j].ttl, .slice A0 l[j].data.bytes.length k0, .slice A1 l[j].data.host.length k1, .slice A2 l[j].data.mail.length k2, .slice A3 l[j].data.nums.length k3, .slice A4 l[j].data.texts.length k4] : Array Value).toList l[j] ∧ Ext w wr) := Lib.hid ⟨⟨_, _, _, _, _, _, rfl, hn, hd⟩, hE⟩
          have HX := Lib.hid (rev_step hx)
          have HE := Lib.hid hE
          have HO := Lib.hid hO
          have HS := Lib.hid hE.size
          have HL : Hid (((l.drop (j + 1)).reverse.length + 1) * 168 ≤ 140737488355328) := Lib.hid (by rw [List.length_reverse, List.length_drop]; omega)
          clear hn hd hx hO
          generalize l[j] = x at *
          have H1 := Lib.hid (ones9 An A0 A1 A2 A3 A4 x.name.length x.data.bytes.length x.data.host.length x.data.mail.length x.data.nums.length x.data.texts.length kn k0 k1 k2 k3 k4 x.type x.cls x.ttl)
          go_wp2_with (at_builtin; refine wpList_appB (fun W cs r => RecR w cs r ∧ Ext w W) w.heap.size rfl (.tmp 37) (.tmp 42) 37 49 (.agg #[.slice none 0 0, .int .i64 0, .int .i64 0, .int .i64 0, .slice none 0 0, .slice none 0 0, .slice none 0 0, .slice none 0 0, .slice none 0 0]) 9 168 rfl Try.underlying37 rec_info rfl (by decide) (by decide) (keepsB_old w) _ (l.drop (j + 1)).reverse x #[.slice An x.name.length kn, .int .i64 x.type, .int .i64 x.cls, .int .i64 x.ttl, .slice A0 x.data.bytes.length k0, .slice A1 x.data.host.length k1, .slice A2 x.data.mail.length k2, .slice A3 x.data.nums.length k3, .slice A4 x.data.texts.length k4] rfl rfl rfl H1.out HY.out HO.out HS.out HL.out ?_; intro v5 w5 hO5 hg5; have HE5 := Lib.hid (HE.out.grown hg5 (fun q hq => HO.out.base_le q hq)); have HO5 := Lib.hid hO5; clear hO5 hg5)
          go_roundw
          case rel => exact ⟨j, by omega, by omega, by rw [← HX.out]; exact HO5.out, HE5.out⟩
          case measure => simp [intOf]; omega
end Go.Proofs.Ytfnelkcllaaebaa
end
