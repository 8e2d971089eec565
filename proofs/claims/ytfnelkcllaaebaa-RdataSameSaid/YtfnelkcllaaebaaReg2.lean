/- wp_region_posts once more, with posts that may speak of the values of operations that are certainly behind. No condition. -/
import Derived.Test.YtfnelkcllaaebaaReg
open Go.RowKit
set_option linter.unusedVariables false
set_option linter.unusedSimpArgs false
namespace Go.Proofs.Ytfnelkcllaaebaa
section
variable {P : Program} {ops : Array Oper} {Q : Exit → Act → World → Prop}
/-- What is certainly behind us when an operation comes up. -/
def preOk (ops : List Oper) (m : Nat) (pre : Nat → List Nat) : Bool :=
  (List.range m).all fun i => (pre i).all fun k => decide (k < m) && (match ops[i]? with
    | none => false
    | some o => o.after.any fun e => Region.binds .any e && (e.on == k || (pre e.on).contains k))
theorem preOk_spec {l : List Oper} {m : Nat} {pre : Nat → List Nat} (h : preOk l m pre = true) {i : Nat} (hi : i < m) {k : Nat} (hk : k ∈ pre i) :
    k < m ∧ ∃ o, l[i]? = some o ∧ ∃ e ∈ o.after, Region.binds .any e = true ∧ (e.on = k ∨ k ∈ pre e.on) := by
  unfold preOk at h
  rw [List.all_eq_true] at h
  have h2 := h i (List.mem_range.2 hi)
  rw [List.all_eq_true] at h2
  have h3 := h2 k hk
  rw [Bool.and_eq_true, decide_eq_true_eq] at h3
  refine ⟨h3.1, ?_⟩
  have h4 := h3.2
  cases ho : l[i]? with
  | none => rw [ho] at h4; cases h4
  | some o =>
    rw [ho] at h4
    simp only [Array.any_eq_true'] at h4
    obtain ⟨e, he, hb⟩ := h4
    rw [Bool.and_eq_true, Bool.or_eq_true, beq_iff_eq, List.contains_iff_mem] at hb
    exact ⟨o, rfl, e, he, hb.1, hb.2⟩
/-- What holds of frame and world while the head's operations come up. -/
structure RInv2 (pre : Nat → List Nat) (E : World → World → Prop) (ops : Array Oper) (m : Nat) (Ps : Nat → (Nat → Value) → World → Prop) (a0 : Act) (w0 : World) (listed : Array Bool) (vs : Nat → Value) (a : Act) (w : World) : Prop where
  size : listed.size = ops.size
  tail : ∀ i, i < ops.size → m ≤ i → listed.getD i true = false
  world : E w0 w
  posts : ∀ j, j < m → listed.getD j false = true → Ps j vs w
  defers : a.defers = a0.defers
  tsize : a.tmps.size = a0.tmps.size
  done : ∀ j o d, j < m → ops[j]? = some o → o.dst = some d → listed.getD j false = true → a.tmps[d]? = some (vs j)
  other : ∀ t, (∀ j o, j < m → ops[j]? = some o → listed.getD j false = true → o.dst ≠ some t) → a.tmps[t]? = a0.tmps[t]?
  preds : ∀ j, j < m → listed.getD j false = true → ∀ k ∈ pre j, listed.getD k false = true
/-- **A region whose operations each find and leave their posts.** The first m operations come up in whatever order their edges allow; what stands behind them (m on) comes up in its own order. -/
theorem wpAny_posts2 {pre : Nat → List Nat} {E : World → World → Prop} (hEt : ∀ a b c, E a b → E b c → E a c) (m : Nat) (Ps : Nat → (Nat → Value) → World → Prop) (Pan : List PanicEntry → World → Prop) (a0 : Act) (w0 : World)
    (hpre : preOk ops.toList m pre = true) (hmono : ∀ i vs w w', Ps i vs w → E w w' → Ps i vs w') (hsame : ∀ i vs vs' w, (∀ j, j = i ∨ j ∈ pre i → vs j = vs' j) → Ps i vs w → Ps i vs' w)
    (hok : regOk ops.toList m a0.tmps.size = true) (hpan : ∀ ch a w, E w0 w → Pan ch w → Q (.panic ch) a w)
    (hobl : ∀ i o, i < m → ops[i]? = some o → ∀ (vs : Nat → Value) w, E w0 w → (∀ j, j ∈ depsOf ops.toList m o ∨ j ∈ pre i → Ps j vs w) →
      wpList P ops (regPost a0.defers o.dst (fun v w' => E w w' ∧ Ps i (fun j => if j = i then v else vs j) w') (fun ch w' => E w w' ∧ Pan ch w')) [o] (fullA vs (ops.toList.take m) 0 a0) w)
    (hend : ∀ (vs : Nat → Value) w, E w0 w → (∀ i, i < m → Ps i vs w) → wpList P ops Q (ops.toList.drop m) (fullA vs (ops.toList.take m) 0 a0) w) :
    ∀ (fuel : Nat) (listed : Array Bool) (vs : Nat → Value) (a : Act) (w : World), ((List.range m).filter fun i => !listed.getD i true).length + (ops.size - m) = fuel →
      RInv2 pre E ops m Ps a0 w0 listed vs a w → wpAny P .any ops Q fuel listed a w := by
  simp only [regOk, Bool.and_eq_true, decide_eq_true_eq] at hok
  obtain ⟨⟨hm, hhead⟩, htail⟩ := hok
  rw [Array.length_toList] at hm htail
  have hH : ∀ i, i < m → headOk ops.toList m a0.tmps.size i = true := fun i hi => (List.all_eq_true.1 hhead) i (List.mem_range.2 hi)
  have hT : ∀ i, i < ops.size → m ≤ i → tailOk ops.toList m i = true := fun i hi hmi => by
    have := (List.all_eq_true.1 htail) i (List.mem_range.2 hi)
    simpa [show ¬ i < m by omega] using this
  have htl : ∀ (j : Nat), ops.toList[j]? = ops[j]? := fun j => Array.getElem?_toList
  have hdone : ∀ (listed : Array Bool) (vs : Nat → Value) (a : Act) (w : World), RInv2 pre E ops m Ps a0 w0 listed vs a w → (∀ j, j < m → listed.getD j false = true) → wpAny P .any ops Q (ops.size - m) listed a w := by
    intro listed vs a w hI hall
    have hfull : a = fullA vs (ops.toList.take m) 0 a0 := by
      obtain ⟨at1, ad⟩ := a
      have e1 := hI.defers
      have e2 := fullA_defers vs (ops.toList.take m) 0 a0
      cases hfu : fullA vs (ops.toList.take m) 0 a0 with
      | mk ft fd =>
      rw [hfu] at e2
      simp only at e1 e2
      subst e1 e2
      congr 1
      apply Array.ext_getElem?
      intro t
      have hft : ft[t]? = (fullA vs (ops.toList.take m) 0 a0).tmps[t]? := by rw [hfu]
      rw [hft]
      by_cases hex : ∃ j o, j < m ∧ ops[j]? = some o ∧ o.dst = some t
      · obtain ⟨j, o, hj, ho, hd⟩ := hex
        obtain ⟨o', ho', hsel, hsz, hdeps, hlt, hdis⟩ := headOk_spec (hH j hj)
        rw [htl, ho] at ho'
        injection ho' with ho'
        subst ho'
        have h1 := hI.done j o t hj ho hd (hall j hj)
        have h2 := fullA_at vs (ops.toList.take m) 0 a0 j o t (by rw [List.getElem?_take, if_pos hj, htl, ho]) hd (hsz t hd) (fun k o' hk hne => by
          rw [List.getElem?_take] at hk
          split at hk
          · exact hdis k o' t (by assumption) hne hk hd
          · cases hk)
        rw [h2, Nat.zero_add]
        exact h1
      · have h1 := hI.other t (fun j o hj ho _ hd => hex ⟨j, o, hj, ho, hd⟩)
        have h2 := fullA_other vs (ops.toList.take m) 0 a0 t (fun o ho hd => by
          obtain ⟨k, hk, hke⟩ := List.getElem_of_mem ho
          simp only [List.length_take, Array.length_toList] at hk
          exact hex ⟨k, o, by omega, by rw [← htl, List.getElem?_eq_getElem (by simp; omega)]; rw [List.getElem_take] at hke; rw [hke], hd⟩)
        rw [h2]
        exact h1
    rw [hfull]
    refine wpAny_tail hT (ops.size - m) m listed _ w (Nat.le_refl _) (by omega) hI.size (fun i hi => ⟨fun h => ?_, fun h => ?_⟩) (hend vs w hI.world (fun i hi => hI.posts i hi (hall i hi)))
    · rcases Nat.lt_or_ge i m with h2 | h2
      · exact h2
      · rw [hI.tail i hi h2] at h; cases h
    · have := hall i h
      rwa [getD_flip (by rw [hI.size]; omega) false true] at this
  intro fuel
  induction fuel with
  | zero =>
    intro listed vs a w hf hI
    have hall : ∀ j, j < m → listed.getD j false = true := fun j hj => by
      have h0 : ((List.range m).filter fun i => !listed.getD i true) = [] := List.eq_nil_of_length_eq_zero (by omega)
      rw [List.filter_eq_nil_iff] at h0
      have := h0 j (List.mem_range.2 hj)
      have hjs : j < listed.size := by rw [hI.size]; omega
      rw [getD_flip hjs true false] at this
      simpa using this
    have := hdone listed vs a w hI hall
    rwa [show ops.size - m = 0 from by omega] at this
  | succ fuel ih =>
    intro listed vs a w hf hI
    by_cases hall : ∀ j, j < m → listed.getD j false = true
    · have h0 : ((List.range m).filter fun i => !listed.getD i true) = [] := by
        rw [List.filter_eq_nil_iff]
        intro j hj
        have hjm := List.mem_range.1 hj
        have := hall j hjm
        rw [getD_flip (by rw [hI.size]; omega) false true] at this
        simp [this]
      have := hdone listed vs a w hI hall
      rw [h0, List.length_nil, Nat.zero_add] at hf
      rwa [hf] at this
    · -- something of the head is left: the least of it may come up
      have hleast : ∀ (n : Nat), n ≤ m → (∃ j, j < n ∧ listed.getD j false = false) → ∃ j, j < n ∧ listed.getD j false = false ∧ ∀ k, k < j → listed.getD k false = true := by
        intro n
        induction n with
        | zero => intro _ ⟨j, h, _⟩; omega
        | succ n ihn =>
          intro hnm ⟨j, hj, hjf⟩
          by_cases hex : ∃ j, j < n ∧ listed.getD j false = false
          · obtain ⟨k, h1, h2, h3⟩ := ihn (by omega) hex
            exact ⟨k, by omega, h2, h3⟩
          · refine ⟨j, hj, hjf, fun k hk => ?_⟩
            cases hkf : listed.getD k false with
            | true => rfl
            | false => exact absurd ⟨k, by omega, hkf⟩ hex
      have hex : ∃ j, j < m ∧ listed.getD j false = false := by
        refine Classical.byContradiction fun h => hall fun j hj => ?_
        cases hjf : listed.getD j false with
        | true => rfl
        | false => exact absurd ⟨j, hj, hjf⟩ h
      obtain ⟨k, hkm, hkf, hkl⟩ := hleast m (Nat.le_refl _) hex
      have hkr : k ∈ Region.ready .any ops listed := by
        obtain ⟨o, ho, hsel, hsz, hdeps, hlt, hdis⟩ := headOk_spec (hH k hkm)
        rw [mem_ready]
        refine ⟨by omega, by rw [getD_flip (by rw [hI.size]; omega) true false]; exact hkf, o, by rw [← htl, ho], fun e he hb => hkl _ (hlt e he hb)⟩
      refine ⟨fun h0 => (by rw [h0] at hkr; cases hkr), fun i hi => ?_⟩
      rw [mem_ready] at hi
      obtain ⟨hin, hif, o, ho, hafter⟩ := hi
      have him : i < m := by
        rcases Nat.lt_or_ge i m with h1 | h1
        · exact h1
        · obtain ⟨o', ho', h2, h3, h4⟩ := tailOk_spec (hT i hin h1)
          rw [htl, ho] at ho'
          injection ho' with ho'
          subst ho'
          by_cases h5 : i = m
          · obtain ⟨e, he, hb, hon⟩ := h3 h5 k hkm
            have := hafter e he hb
            rw [hon, hkf] at this
            cases this
          · obtain ⟨e, he, hb, hon⟩ := h4 h5
            have h6 := hafter e he hb
            rw [hon, getD_flip (by rw [hI.size]; omega) false true, hI.tail (i - 1) (by omega) (by omega)] at h6
            cases h6
      obtain ⟨o', ho', hsel, hsz, hdeps, hlt, hdis⟩ := headOk_spec (hH i him)
      rw [htl, ho] at ho'
      injection ho' with ho'
      subst ho'
      have hdepl : ∀ j ∈ depsOf ops.toList m o, listed.getD j false = true := fun j hj => by
        obtain ⟨e, he, hb, hon⟩ := hdeps j hj
        rw [← hon]
        exact hafter e he hb
      have hdm : ∀ j ∈ depsOf ops.toList m o, j < m := fun j hj => List.mem_range.1 (List.mem_filter.1 hj).1
      have hpl : ∀ j ∈ pre i, j < m ∧ listed.getD j false = true := fun j hj => by
        obtain ⟨hjm, o2, ho2, e, he, hb, hon⟩ := preOk_spec hpre him hj
        rw [htl, ho] at ho2
        injection ho2 with ho2
        subst ho2
        have h9 := hafter e he hb
        rcases hon with h10 | h10
        · rw [h10] at h9; exact ⟨hjm, h9⟩
        · exact ⟨hjm, hI.preds e.on (by have := hlt e he hb; omega) h9 j h10⟩
      have hO := hobl i o him ho vs w hI.world (fun j hj => hj.elim (fun hj => hI.posts j (hdm j hj) (hdepl j hj)) (fun hj => hI.posts j (hpl j hj).1 (hpl j hj).2))
      -- what it looks at
      have hlook : ∀ t, t ∈ o.looksAt ops → a.tmps[t]? = (fullA vs (ops.toList.take m) 0 a0).tmps[t]? := by
        intro t ht
        by_cases hex2 : ∃ j o', j < m ∧ ops[j]? = some o' ∧ o'.dst = some t
        · obtain ⟨j, o', hj, ho', hd⟩ := hex2
          obtain ⟨o2, ho2, hsel2, hsz2, hdeps2, hlt2, hdis2⟩ := headOk_spec (hH j hj)
          rw [htl, ho'] at ho2
          injection ho2 with ho2
          subst ho2
          have hjd : j ∈ depsOf ops.toList m o := by
            unfold depsOf
            rw [List.mem_filter, List.mem_range]
            refine ⟨hj, ?_⟩
            rw [htl, ho']
            simp only [Option.bind_some, hd]
            simpa using ht
          rw [hI.done j o' t hj ho' hd (hdepl j hjd), fullA_at vs (ops.toList.take m) 0 a0 j o' t (by rw [List.getElem?_take, if_pos hj, htl, ho']) hd (hsz2 t hd) (fun k o3 hk hne => by
            rw [List.getElem?_take] at hk
            split at hk
            · exact hdis2 k o3 t (by assumption) hne hk hd
            · cases hk), Nat.zero_add]
        · rw [hI.other t (fun j o' hj ho' _ hd => hex2 ⟨j, o', hj, ho', hd⟩), fullA_other vs (ops.toList.take m) 0 a0 t (fun o' ho' hd => by
            obtain ⟨k', hk', hke⟩ := List.getElem_of_mem ho'
            simp only [List.length_take, Array.length_toList] at hk'
            exact hex2 ⟨k', o', by omega, by rw [← htl, List.getElem?_eq_getElem (by simp; omega)]; rw [List.getElem_take] at hke; rw [hke], hd⟩)]
      have hex3 : execOp (fullA vs (ops.toList.take m) 0 a0).eval o = execOp a.eval o := execOp_congr o hsel fun x hx => (eval_same fun t ht => hlook t (by
        subst ht
        exact List.mem_append_left _ (List.mem_filterMap.2 ⟨.tmp t, by simpa using hx, rfl⟩))).symm
      have hwant : Region.wanted o (yielded ops (fullA vs (ops.toList.take m) 0 a0).tmps) = Region.wanted o (yielded ops a.tmps) := by
        unfold Region.wanted
        cases hg : o.guard with
        | none => rfl
        | some gw =>
          obtain ⟨g, want⟩ := gw
          have := yielded_same (ops := ops) (a := a) (b := fullA vs (ops.toList.take m) 0 a0) (g := g) (fun t ht => hlook t (List.mem_append_right _ (by rw [hg]; simp [ht])))
          simp only [this]
      -- the state behind it
      have hnext : ∀ v w', E w w' → Ps i (fun j => if j = i then (match o.dst with | some _ => v | none => undef) else vs j) w' → wpAny P .any ops Q fuel (listed.setIfInBounds i true) (a.put o.dst v) w' := by
        intro v w' hE hR
        refine ih (listed.setIfInBounds i true) (fun j => if j = i then (match o.dst with | some _ => v | none => undef) else vs j) (a.put o.dst v) w' ?_ ?_
        · have hcount : ∀ n, i < n → n ≤ m → ((List.range n).filter fun j => !(listed.setIfInBounds i true).getD j true).length + 1 = ((List.range n).filter fun j => !listed.getD j true).length := by
            intro n
            induction n with
            | zero => intro h; omega
            | succ n ihn =>
              intro h1 h2
              rw [List.range_succ, List.filter_append, List.filter_append, List.length_append, List.length_append]
              have hns : n < listed.size := by rw [hI.size]; omega
              rcases Nat.lt_or_ge i n with h3 | h3
              · have h4 := ihn h3 (by omega)
                have h5 : (listed.setIfInBounds i true).getD n true = listed.getD n true := by rw [getD_set hns, if_neg (by omega)]
                simp only [List.filter_cons, List.filter_nil, h5]
                omega
              · obtain rfl : i = n := by omega
                have h5 : (listed.setIfInBounds i true).getD i true = true := by rw [getD_set hns, if_pos rfl]
                have h6 : ∀ j ∈ List.range i, (!(listed.setIfInBounds i true).getD j true) = (!listed.getD j true) := fun j hj => by
                  have := List.mem_range.1 hj
                  rw [getD_set (by omega), if_neg (by omega)]
                rw [List.filter_congr h6]
                have h7 : (List.filter (fun j => !listed.getD j true) [i]).length = 1 := by rw [List.filter_cons, hif]; rfl
                have h8 : (List.filter (fun j => !(listed.setIfInBounds i true).getD j true) [i]).length = 0 := by rw [List.filter_cons, h5]; rfl
                omega
          have := hcount m him (Nat.le_refl _)
          omega
        · have hil : i < listed.size := by rw [hI.size]; exact hin
          refine ⟨by simpa using hI.size, fun j hj hmj => ?_, hEt _ _ _ hI.world hE, fun j hj hl => ?_, by rw [put_defers]; exact hI.defers, by rw [put_size]; exact hI.tsize, fun j o' d hj ho' hd hl => ?_, fun t ht => ?_, fun j hj hl k hk => ?_⟩
          · rw [getD_set (by rw [hI.size]; exact hj), if_neg (by omega)]
            exact hI.tail j hj hmj
          · rw [getD_set (by rw [hI.size]; omega)] at hl
            by_cases hji : j = i
            · subst hji
              exact hR
            · rw [if_neg (fun e => hji e.symm)] at hl
              refine hmono _ _ _ _ (hsame j vs _ w (fun q hq => ?_) (hI.posts j hj hl)) hE
              have hqi : ¬ q = i := by
                rintro rfl
                rcases hq with hq | hq
                · exact hji hq.symm
                · have := hI.preds j hj hl q hq
                  rw [getD_flip (by rw [hI.size]; exact hin) false true, hif] at this
                  cases this
              simp only [if_neg hqi]
          · rw [getD_set (by rw [hI.size]; omega)] at hl
            by_cases hji : j = i
            · subst hji
              rw [ho] at ho'
              injection ho' with ho'
              subst ho'
              simp only [if_true, hd]
              exact put_tmps_self _ _ _ (by rw [hI.tsize]; exact hsz d hd)
            · rw [if_neg (fun e => hji e.symm)] at hl
              simp only [hji, if_false]
              rw [put_tmps_other _ _ _ _ (fun e => hdis j o' d hj hji (by rw [htl, ho']) e hd)]
              exact hI.done j o' d hj ho' hd hl
          · have h1 : o.dst ≠ some t := ht i o him ho (by rw [getD_set hil, if_pos rfl])
            rw [put_tmps_other _ _ _ _ h1]
            refine hI.other t fun j o' hj ho' hl => ht j o' hj ho' ?_
            rw [getD_set (by rw [hI.size]; omega)]
            split
            · rfl
            · exact hl
          · have hjs : j < listed.size := by rw [hI.size]; omega
            rw [getD_set hjs] at hl
            by_cases hji : j = i
            · subst hji
              obtain ⟨hkm, hkl2⟩ := hpl k hk
              rw [getD_set (by rw [hI.size]; omega)]
              split
              · rfl
              · exact hkl2
            · rw [if_neg (fun e => hji e.symm)] at hl
              have hkl2 := hI.preds j hj hl k hk
              obtain ⟨hkm, _⟩ := preOk_spec hpre hj hk
              rw [getD_set (by rw [hI.size]; omega)]
              split
              · rfl
              · exact hkl2
      unfold wpOp
      simp only [ho]
      simp only [wpList] at hO
      rw [hwant] at hO
      split
      · rename_i hw
        rw [if_pos hw] at hO
        rcases hO with hO | ⟨_, a', w', hO⟩
        · refine .inl ?_
          unfold Oper.wp at hO ⊢
          rw [hex3] at hO
          generalize (execOp a.eval o).run P w = r at hO ⊢
          have hput : ∀ v, (match o.dst with | some d => ((fullA vs (ops.toList.take m) 0 a0).put o.dst v).tmps.getD d undef | none => undef) = (match o.dst with | some _ => v | none => undef) := by
            intro v
            cases hd : o.dst with
            | none => rfl
            | some d =>
              simp only [Array.getD_eq_getD_getElem?]
              rw [put_tmps_self _ _ _ (by rw [fullA_size]; exact hsz d hd)]
              rfl
          have hfix : ∀ (v : Value) (q : Nat), (q = i ∨ q ∈ pre i) → (if q = i then (match o.dst with | some d => ((fullA vs (ops.toList.take m) 0 a0).put o.dst v).tmps.getD d undef | none => undef) else vs q) = (if q = i then (match o.dst with | some _ => v | none => undef) else vs q) := by
            intro v q _
            by_cases hq : q = i
            · rw [if_pos hq, if_pos hq]; exact hput v
            · rw [if_neg hq, if_neg hq]
          cases r with
          | ok n w' =>
            cases n <;> simp only [Oper.upon] at hO ⊢
            case value v =>
              simp only [regPost] at hO
              exact hnext v w' hO.2.1 (hsame i _ _ _ (hfix v) hO.2.2)
            case skip =>
              simp only [regPost] at hO
              exact hnext undef w' hO.2.1 (hsame i _ _ _ (hfix undef) hO.2.2)
            case defer d =>
              simp only [regPost, put_defers, fullA_defers] at hO
              exact absurd hO.1 (List.cons_ne_self _ _)
            case enter f args =>
              refine hO.mono fun e w'' he => ?_
              cases e with
              | returned v =>
                simp only [regPost] at he
                exact hnext v w'' he.2.1 (hsame i _ _ _ (hfix v) he.2.2)
              | panicked ch =>
                simp only [regPost] at he
                exact hpan ch a w'' (hEt _ _ _ hI.world he.1) he.2
              | outgrown =>
                obtain ⟨a', w', hh⟩ := he
                exact hh.elim
            case row row args =>
              refine Rows.mono hO fun v w'' he => ?_
              simp only [regPost] at he
              exact hnext v w'' he.2.1 (hsame i _ _ _ (hfix v) he.2.2)
          | halt x w' =>
            cases x <;> simp only [Oper.upon] at hO ⊢
            case panic v =>
              simp only [regPost] at hO
              exact hpan _ a w' (hEt _ _ _ hI.world hO.1) hO.2
        · exact hO.elim
      · rename_i hw
        rw [if_neg hw] at hO
        simp only [regPost] at hO
        refine hnext undef w ?_ ?_
        · exact hO.2.1
        · have h2 := hO.2.2
          cases hd : o.dst with
          | none => rw [hd] at h2; exact h2
          | some d =>
            rw [hd] at h2
            simp only [Array.getD_eq_getD_getElem?] at h2
            rw [put_tmps_self _ _ _ (by rw [fullA_size]; exact hsz d hd)] at h2
            exact h2
/-- The obligations, one behind the other. -/
def Obls2 (P : Program) (ops : Array Oper) (pre : Nat → List Nat) (E : World → World → Prop) (m : Nat) (Ps : Nat → (Nat → Value) → World → Prop) (Pan : List PanicEntry → World → Prop) (a0 : Act) (w0 : World) : List Oper → Nat → Prop
  | [], _ => True
  | o :: rest, i => (∀ (vs : Nat → Value) w, E w0 w → (∀ j, j ∈ depsOf ops.toList m o ∨ j ∈ pre i → Ps j vs w) →
      wpList P ops (regPost a0.defers o.dst (fun v w' => E w w' ∧ Ps i (fun j => if j = i then v else vs j) w') (fun ch w' => E w w' ∧ Pan ch w')) [o] (fullA vs (ops.toList.take m) 0 a0) w) ∧ Obls2 P ops pre E m Ps Pan a0 w0 rest (i + 1)
theorem Obls2.at_ {pre : Nat → List Nat} {E : World → World → Prop} {m : Nat} {Ps : Nat → (Nat → Value) → World → Prop} {Pan : List PanicEntry → World → Prop} {a0 : Act} {w0 : World} : ∀ (l : List Oper) (i : Nat), Obls2 P ops pre E m Ps Pan a0 w0 l i → ∀ j o, l[j]? = some o →
    ∀ (vs : Nat → Value) w, E w0 w → (∀ q, q ∈ depsOf ops.toList m o ∨ q ∈ pre (i + j) → Ps q vs w) →
      wpList P ops (regPost a0.defers o.dst (fun v w' => E w w' ∧ Ps (i + j) (fun q => if q = i + j then v else vs q) w') (fun ch w' => E w w' ∧ Pan ch w')) [o] (fullA vs (ops.toList.take m) 0 a0) w
  | [], _, _, _, _, h => by simp at h
  | o :: l, i, h, 0, o', ho => by
    simp at ho
    subst ho
    exact h.1
  | o :: l, i, h, j + 1, o', ho => by
    have := Obls2.at_ l (i + 1) h.2 j o' (by simpa using ho)
    rwa [show i + 1 + j = i + (j + 1) from by omega] at this
theorem wp_region_posts2 (pre : Nat → List Nat) {E : World → World → Prop} (hEr : ∀ a, E a a) (hEt : ∀ a b c, E a b → E b c → E a c) {id : Nat} {l : List Oper} {a0 : Act} {w : World} (m : Nat) (Ps : Nat → (Nat → Value) → World → Prop) (Pan : List PanicEntry → World → Prop)
    (hpre : preOk l m pre = true) (hmono : ∀ i vs w w', Ps i vs w → E w w' → Ps i vs w') (hsame : ∀ i vs vs' w, (∀ j, j = i ∨ j ∈ pre i → vs j = vs' j) → Ps i vs w → Ps i vs' w)
    (hm : P.follows .mixedOrders = true) (hok : regOk l m a0.tmps.size = true) (hpan : ∀ ch a w', E w.drew w' → Pan ch w' → Q (.panic ch) a w')
    (hobl : Obls2 P l.toArray pre E m Ps Pan a0 w.drew (l.take m) 0)
    (hend : ∀ (vs : Nat → Value) w', E w.drew w' → (∀ i, i < m → Ps i vs w') → wpList P l.toArray Q (l.drop m) (fullA vs (l.take m) 0 a0) w') :
    (Code.region id l.toArray true).wp P Q a0 w := by
  refine wp_region_any hm ?_
  have hml : m ≤ l.length := by
    simp only [regOk, Bool.and_eq_true, decide_eq_true_eq] at hok
    exact hok.1.1
  refine wpAny_posts2 hEt m Ps Pan a0 w.drew (by simpa using hpre) hmono hsame (by simpa using hok) hpan (fun i o hi ho => ?_) hend _ _ (fun _ => undef) a0 _ ?_ ?_
  · have := Obls2.at_ (l.take m) 0 hobl i o (by rw [List.getElem?_take, if_pos hi]; simpa using ho)
    simp only [Nat.zero_add] at this; exact this
  · have h1 : ((List.range m).filter fun i => !(Array.replicate l.toArray.size false).getD i true) = List.range m := by
      rw [List.filter_eq_self]
      intro i hi
      have := List.mem_range.1 hi
      have h3 : i < l.length := by omega
      simp [Array.getD_eq_getD_getElem?, Array.getElem?_replicate, h3]
    rw [h1, List.length_range]
    simp
    omega
  · have hf : ∀ j, (Array.replicate l.toArray.size false).getD j false = false := fun j => by
      simp only [Array.getD_eq_getD_getElem?, Array.getElem?_replicate]
      split <;> rfl
    refine ⟨by simp, fun i hi _ => ?_, hEr _, fun j _ h => ?_, rfl, rfl, fun j o d _ _ _ h => ?_, fun _ _ => rfl, fun j _ h => ?_⟩
    · have h3 : i < l.length := by simpa using hi
      simp [Array.getD_eq_getD_getElem?, Array.getElem?_replicate, h3]
    · rw [hf j] at h; cases h
    · rw [hf j] at h; cases h
    · rw [hf j] at h; cases h
end
end Go.Proofs.Ytfnelkcllaaebaa
