/- Parts of one proof, joined: Reg3, MrN0, MrN. Conditions: those that each theorem states. -/
import Derived.Test.YtfnelkcllaaebaaEB4
import Derived.Test.YtfnelkcllaaebaaEB22
import Derived.Test.YtfnelkcllaaebaaEB8
import Derived.Test.YtfnelkcllaaebaaEB18
section
/- wp_region_posts2 once more, with one operation that may turn what the others rely on. No condition. -/
open Go.RowKit
set_option linter.unusedVariables false
set_option linter.unusedSimpArgs false
namespace Go.Proofs.Ytfnelkcllaaebaa
section
variable {P : Program} {ops : Array Oper} {Q : Exit → Act → World → Prop}
/-- What holds of frame and world while the head's operations come up. -/
structure RInv3 (x : Nat) (pre : Nat → List Nat) (E : Bool → World → Bool → World → Prop) (ops : Array Oper) (m : Nat) (Ps : Nat → (Nat → Value) → World → Prop) (a0 : Act) (w0 : World) (listed : Array Bool) (vs : Nat → Value) (a : Act) (w : World) : Prop where
  size : listed.size = ops.size
  tail : ∀ i, i < ops.size → m ≤ i → listed.getD i true = false
  world : E false w0 (listed.getD x false) w
  posts : ∀ j, j < m → listed.getD j false = true → Ps j vs w
  defers : a.defers = a0.defers
  tsize : a.tmps.size = a0.tmps.size
  done : ∀ j o d, j < m → ops[j]? = some o → o.dst = some d → listed.getD j false = true → a.tmps[d]? = some (vs j)
  other : ∀ t, (∀ j o, j < m → ops[j]? = some o → listed.getD j false = true → o.dst ≠ some t) → a.tmps[t]? = a0.tmps[t]?
  preds : ∀ j, j < m → listed.getD j false = true → ∀ k ∈ pre j, listed.getD k false = true
/-- **A region whose operations each find and leave their posts.** The first m operations come up in whatever order their edges allow; what stands behind them (m on) comes up in its own order. -/
theorem wpAny_posts3 (x : Nat) {pre : Nat → List Nat} {E : Bool → World → Bool → World → Prop} (hEt : ∀ p a q b r c, E p a q b → E q b r c → E p a r c) (m : Nat) (Ps : Nat → (Nat → Value) → World → Prop) (Pan : List PanicEntry → World → Prop) (a0 : Act) (w0 : World)
    (hpre : preOk ops.toList m pre = true) (hx : x < m) (hmono : ∀ i vs p w q w', (i = x → p = true) → Ps i vs w → E p w q w' → Ps i vs w') (hsame : ∀ i vs vs' w, (∀ j, j = i ∨ j ∈ pre i → vs j = vs' j) → Ps i vs w → Ps i vs' w)
    (hok : regOk ops.toList m a0.tmps.size = true) (hpan : ∀ ch a p w, E false w0 p w → Pan ch w → Q (.panic ch) a w)
    (hobl : ∀ i o, i < m → ops[i]? = some o → ∀ (vs : Nat → Value) w (bb : Bool), E false w0 bb w → (i = x → bb = false) → (∀ j, j ∈ depsOf ops.toList m o ∨ j ∈ pre i → Ps j vs w) →
      wpList P ops (regPost a0.defers o.dst (fun v w' => E bb w (bb || decide (i = x)) w' ∧ Ps i (fun j => if j = i then v else vs j) w') (fun ch w' => E bb w bb w' ∧ Pan ch w')) [o] (fullA vs (ops.toList.take m) 0 a0) w)
    (hend : ∀ (vs : Nat → Value) w, E false w0 true w → (∀ i, i < m → Ps i vs w) → wpList P ops Q (ops.toList.drop m) (fullA vs (ops.toList.take m) 0 a0) w) :
    ∀ (fuel : Nat) (listed : Array Bool) (vs : Nat → Value) (a : Act) (w : World), ((List.range m).filter fun i => !listed.getD i true).length + (ops.size - m) = fuel →
      RInv3 x pre E ops m Ps a0 w0 listed vs a w → wpAny P .any ops Q fuel listed a w := by
  simp only [regOk, Bool.and_eq_true, decide_eq_true_eq] at hok
  obtain ⟨⟨hm, hhead⟩, htail⟩ := hok
  rw [Array.length_toList] at hm htail
  have hH : ∀ i, i < m → headOk ops.toList m a0.tmps.size i = true := fun i hi => (List.all_eq_true.1 hhead) i (List.mem_range.2 hi)
  have hT : ∀ i, i < ops.size → m ≤ i → tailOk ops.toList m i = true := fun i hi hmi => by
    have := (List.all_eq_true.1 htail) i (List.mem_range.2 hi)
    simpa [show ¬ i < m by omega] using this
  have htl : ∀ (j : Nat), ops.toList[j]? = ops[j]? := fun j => Array.getElem?_toList
  have hdone : ∀ (listed : Array Bool) (vs : Nat → Value) (a : Act) (w : World), RInv3 x pre E ops m Ps a0 w0 listed vs a w → (∀ j, j < m → listed.getD j false = true) → wpAny P .any ops Q (ops.size - m) listed a w := by
    intro listed vs a w hI hall
    have hfull : a = fullA vs (ops.toList.take m) 0 a0 := by
      obtain ⟨at1, ad⟩ := a
      have e1 := hI.defers
      have e2 := fullA_defers vs (ops.toList.take m) 0 a0
      cases hfu : fullA vs (ops.toList.take m) 0 a0 with
      | mk ft fd =>
      rw [hfu] at e2
      simp only at e1 e2
      subst e1 e2
      congr 1
      apply Array.ext_getElem?
      intro t
      have hft : ft[t]? = (fullA vs (ops.toList.take m) 0 a0).tmps[t]? := by rw [hfu]
      rw [hft]
      by_cases hex : ∃ j o, j < m ∧ ops[j]? = some o ∧ o.dst = some t
      · obtain ⟨j, o, hj, ho, hd⟩ := hex
        obtain ⟨o', ho', hsel, hsz, hdeps, hlt, hdis⟩ := headOk_spec (hH j hj)
        rw [htl, ho] at ho'
        injection ho' with ho'
        subst ho'
        have h1 := hI.done j o t hj ho hd (hall j hj)
        have h2 := fullA_at vs (ops.toList.take m) 0 a0 j o t (by rw [List.getElem?_take, if_pos hj, htl, ho]) hd (hsz t hd) (fun k o' hk hne => by
          rw [List.getElem?_take] at hk
          split at hk
          · exact hdis k o' t (by assumption) hne hk hd
          · cases hk)
        rw [h2, Nat.zero_add]
        exact h1
      · have h1 := hI.other t (fun j o hj ho _ hd => hex ⟨j, o, hj, ho, hd⟩)
        have h2 := fullA_other vs (ops.toList.take m) 0 a0 t (fun o ho hd => by
          obtain ⟨k, hk, hke⟩ := List.getElem_of_mem ho
          simp only [List.length_take, Array.length_toList] at hk
          exact hex ⟨k, o, by omega, by rw [← htl, List.getElem?_eq_getElem (by simp; omega)]; rw [List.getElem_take] at hke; rw [hke], hd⟩)
        rw [h2]
        exact h1
    rw [hfull]
    refine wpAny_tail hT (ops.size - m) m listed _ w (Nat.le_refl _) (by omega) hI.size (fun i hi => ⟨fun h => ?_, fun h => ?_⟩) (hend vs w (by have := hI.world; rwa [hall x hx] at this) (fun i hi => hI.posts i hi (hall i hi)))
    · rcases Nat.lt_or_ge i m with h2 | h2
      · exact h2
      · rw [hI.tail i hi h2] at h; cases h
    · have := hall i h
      rwa [getD_flip (by rw [hI.size]; omega) false true] at this
  intro fuel
  induction fuel with
  | zero =>
    intro listed vs a w hf hI
    have hall : ∀ j, j < m → listed.getD j false = true := fun j hj => by
      have h0 : ((List.range m).filter fun i => !listed.getD i true) = [] := List.eq_nil_of_length_eq_zero (by omega)
      rw [List.filter_eq_nil_iff] at h0
      have := h0 j (List.mem_range.2 hj)
      have hjs : j < listed.size := by rw [hI.size]; omega
      rw [getD_flip hjs true false] at this
      simpa using this
    have := hdone listed vs a w hI hall
    rwa [show ops.size - m = 0 from by omega] at this
  | succ fuel ih =>
    intro listed vs a w hf hI
    by_cases hall : ∀ j, j < m → listed.getD j false = true
    · have h0 : ((List.range m).filter fun i => !listed.getD i true) = [] := by
        rw [List.filter_eq_nil_iff]
        intro j hj
        have hjm := List.mem_range.1 hj
        have := hall j hjm
        rw [getD_flip (by rw [hI.size]; omega) false true] at this
        simp [this]
      have := hdone listed vs a w hI hall
      rw [h0, List.length_nil, Nat.zero_add] at hf
      rwa [hf] at this
    · -- something of the head is left: the least of it may come up
      have hleast : ∀ (n : Nat), n ≤ m → (∃ j, j < n ∧ listed.getD j false = false) → ∃ j, j < n ∧ listed.getD j false = false ∧ ∀ k, k < j → listed.getD k false = true := by
        intro n
        induction n with
        | zero => intro _ ⟨j, h, _⟩; omega
        | succ n ihn =>
          intro hnm ⟨j, hj, hjf⟩
          by_cases hex : ∃ j, j < n ∧ listed.getD j false = false
          · obtain ⟨k, h1, h2, h3⟩ := ihn (by omega) hex
            exact ⟨k, by omega, h2, h3⟩
          · refine ⟨j, hj, hjf, fun k hk => ?_⟩
            cases hkf : listed.getD k false with
            | true => rfl
            | false => exact absurd ⟨k, by omega, hkf⟩ hex
      have hex : ∃ j, j < m ∧ listed.getD j false = false := by
        refine Classical.byContradiction fun h => hall fun j hj => ?_
        cases hjf : listed.getD j false with
        | true => rfl
        | false => exact absurd ⟨j, hj, hjf⟩ h
      obtain ⟨k, hkm, hkf, hkl⟩ := hleast m (Nat.le_refl _) hex
      have hkr : k ∈ Region.ready .any ops listed := by
        obtain ⟨o, ho, hsel, hsz, hdeps, hlt, hdis⟩ := headOk_spec (hH k hkm)
        rw [mem_ready]
        refine ⟨by omega, by rw [getD_flip (by rw [hI.size]; omega) true false]; exact hkf, o, by rw [← htl, ho], fun e he hb => hkl _ (hlt e he hb)⟩
      refine ⟨fun h0 => (by rw [h0] at hkr; cases hkr), fun i hi => ?_⟩
      rw [mem_ready] at hi
      obtain ⟨hin, hif, o, ho, hafter⟩ := hi
      have him : i < m := by
        rcases Nat.lt_or_ge i m with h1 | h1
        · exact h1
        · obtain ⟨o', ho', h2, h3, h4⟩ := tailOk_spec (hT i hin h1)
          rw [htl, ho] at ho'
          injection ho' with ho'
          subst ho'
          by_cases h5 : i = m
          · obtain ⟨e, he, hb, hon⟩ := h3 h5 k hkm
            have := hafter e he hb
            rw [hon, hkf] at this
            cases this
          · obtain ⟨e, he, hb, hon⟩ := h4 h5
            have h6 := hafter e he hb
            rw [hon, getD_flip (by rw [hI.size]; omega) false true, hI.tail (i - 1) (by omega) (by omega)] at h6
            cases h6
      obtain ⟨o', ho', hsel, hsz, hdeps, hlt, hdis⟩ := headOk_spec (hH i him)
      rw [htl, ho] at ho'
      injection ho' with ho'
      subst ho'
      have hdepl : ∀ j ∈ depsOf ops.toList m o, listed.getD j false = true := fun j hj => by
        obtain ⟨e, he, hb, hon⟩ := hdeps j hj
        rw [← hon]
        exact hafter e he hb
      have hdm : ∀ j ∈ depsOf ops.toList m o, j < m := fun j hj => List.mem_range.1 (List.mem_filter.1 hj).1
      have hpl : ∀ j ∈ pre i, j < m ∧ listed.getD j false = true := fun j hj => by
        obtain ⟨hjm, o2, ho2, e, he, hb, hon⟩ := preOk_spec hpre him hj
        rw [htl, ho] at ho2
        injection ho2 with ho2
        subst ho2
        have h9 := hafter e he hb
        rcases hon with h10 | h10
        · rw [h10] at h9; exact ⟨hjm, h9⟩
        · exact ⟨hjm, hI.preds e.on (by have := hlt e he hb; omega) h9 j h10⟩
      have hO := hobl i o him ho vs w (listed.getD x false) hI.world (fun e => by subst e; rw [getD_flip (by rw [hI.size]; exact hin) false true]; exact hif) (fun j hj => hj.elim (fun hj => hI.posts j (hdm j hj) (hdepl j hj)) (fun hj => hI.posts j (hpl j hj).1 (hpl j hj).2))
      -- what it looks at
      have hlook : ∀ t, t ∈ o.looksAt ops → a.tmps[t]? = (fullA vs (ops.toList.take m) 0 a0).tmps[t]? := by
        intro t ht
        by_cases hex2 : ∃ j o', j < m ∧ ops[j]? = some o' ∧ o'.dst = some t
        · obtain ⟨j, o', hj, ho', hd⟩ := hex2
          obtain ⟨o2, ho2, hsel2, hsz2, hdeps2, hlt2, hdis2⟩ := headOk_spec (hH j hj)
          rw [htl, ho'] at ho2
          injection ho2 with ho2
          subst ho2
          have hjd : j ∈ depsOf ops.toList m o := by
            unfold depsOf
            rw [List.mem_filter, List.mem_range]
            refine ⟨hj, ?_⟩
            rw [htl, ho']
            simp only [Option.bind_some, hd]
            simpa using ht
          rw [hI.done j o' t hj ho' hd (hdepl j hjd), fullA_at vs (ops.toList.take m) 0 a0 j o' t (by rw [List.getElem?_take, if_pos hj, htl, ho']) hd (hsz2 t hd) (fun k o3 hk hne => by
            rw [List.getElem?_take] at hk
            split at hk
            · exact hdis2 k o3 t (by assumption) hne hk hd
            · cases hk), Nat.zero_add]
        · rw [hI.other t (fun j o' hj ho' _ hd => hex2 ⟨j, o', hj, ho', hd⟩), fullA_other vs (ops.toList.take m) 0 a0 t (fun o' ho' hd => by
            obtain ⟨k', hk', hke⟩ := List.getElem_of_mem ho'
            simp only [List.length_take, Array.length_toList] at hk'
            exact hex2 ⟨k', o', by omega, by rw [← htl, List.getElem?_eq_getElem (by simp; omega)]; rw [List.getElem_take] at hke; rw [hke], hd⟩)]
      have hex3 : execOp (fullA vs (ops.toList.take m) 0 a0).eval o = execOp a.eval o := execOp_congr o hsel fun x hx => (eval_same fun t ht => hlook t (by
        subst ht
        exact List.mem_append_left _ (List.mem_filterMap.2 ⟨.tmp t, by simpa using hx, rfl⟩))).symm
      have hwant : Region.wanted o (yielded ops (fullA vs (ops.toList.take m) 0 a0).tmps) = Region.wanted o (yielded ops a.tmps) := by
        unfold Region.wanted
        cases hg : o.guard with
        | none => rfl
        | some gw =>
          obtain ⟨g, want⟩ := gw
          have := yielded_same (ops := ops) (a := a) (b := fullA vs (ops.toList.take m) 0 a0) (g := g) (fun t ht => hlook t (List.mem_append_right _ (by rw [hg]; simp [ht])))
          simp only [this]
      -- the state behind it
      have hnext : ∀ v w', E (listed.getD x false) w (listed.getD x false || decide (i = x)) w' → Ps i (fun j => if j = i then (match o.dst with | some _ => v | none => undef) else vs j) w' → wpAny P .any ops Q fuel (listed.setIfInBounds i true) (a.put o.dst v) w' := by
        intro v w' hE hR
        refine ih (listed.setIfInBounds i true) (fun j => if j = i then (match o.dst with | some _ => v | none => undef) else vs j) (a.put o.dst v) w' ?_ ?_
        · have hcount : ∀ n, i < n → n ≤ m → ((List.range n).filter fun j => !(listed.setIfInBounds i true).getD j true).length + 1 = ((List.range n).filter fun j => !listed.getD j true).length := by
            intro n
            induction n with
            | zero => intro h; omega
            | succ n ihn =>
              intro h1 h2
              rw [List.range_succ, List.filter_append, List.filter_append, List.length_append, List.length_append]
              have hns : n < listed.size := by rw [hI.size]; omega
              rcases Nat.lt_or_ge i n with h3 | h3
              · have h4 := ihn h3 (by omega)
                have h5 : (listed.setIfInBounds i true).getD n true = listed.getD n true := by rw [getD_set hns, if_neg (by omega)]
                simp only [List.filter_cons, List.filter_nil, h5]
                omega
              · obtain rfl : i = n := by omega
                have h5 : (listed.setIfInBounds i true).getD i true = true := by rw [getD_set hns, if_pos rfl]
                have h6 : ∀ j ∈ List.range i, (!(listed.setIfInBounds i true).getD j true) = (!listed.getD j true) := fun j hj => by
                  have := List.mem_range.1 hj
                  rw [getD_set (by omega), if_neg (by omega)]
                rw [List.filter_congr h6]
                have h7 : (List.filter (fun j => !listed.getD j true) [i]).length = 1 := by rw [List.filter_cons, hif]; rfl
                have h8 : (List.filter (fun j => !(listed.setIfInBounds i true).getD j true) [i]).length = 0 := by rw [List.filter_cons, h5]; rfl
                omega
          have := hcount m him (Nat.le_refl _)
          omega
        · have hil : i < listed.size := by rw [hI.size]; exact hin
          refine ⟨by simpa using hI.size, fun j hj hmj => ?_, ?_, fun j hj hl => ?_, by rw [put_defers]; exact hI.defers, by rw [put_size]; exact hI.tsize, fun j o' d hj ho' hd hl => ?_, fun t ht => ?_, fun j hj hl k hk => ?_⟩
          · rw [getD_set (by rw [hI.size]; exact hj), if_neg (by omega)]
            exact hI.tail j hj hmj
          · refine hEt _ _ _ _ _ _ hI.world ?_
            rw [getD_set (by rw [hI.size]; omega)]
            by_cases hix : i = x
            · rw [if_pos hix]
              rw [decide_eq_true hix, Bool.or_true] at hE
              exact hE
            · rw [if_neg hix]
              rw [decide_eq_false hix, Bool.or_false] at hE
              exact hE
          · rw [getD_set (by rw [hI.size]; omega)] at hl
            by_cases hji : j = i
            · subst hji
              exact hR
            · rw [if_neg (fun e => hji e.symm)] at hl
              refine hmono _ _ _ _ _ _ (fun e => by subst e; exact hl) (hsame j vs _ w (fun q hq => ?_) (hI.posts j hj hl)) hE
              have hqi : ¬ q = i := by
                rintro rfl
                rcases hq with hq | hq
                · exact hji hq.symm
                · have := hI.preds j hj hl q hq
                  rw [getD_flip (by rw [hI.size]; exact hin) false true, hif] at this
                  cases this
              simp only [if_neg hqi]
          · rw [getD_set (by rw [hI.size]; omega)] at hl
            by_cases hji : j = i
            · subst hji
              rw [ho] at ho'
              injection ho' with ho'
              subst ho'
              simp only [if_true, hd]
              exact put_tmps_self _ _ _ (by rw [hI.tsize]; exact hsz d hd)
            · rw [if_neg (fun e => hji e.symm)] at hl
              simp only [hji, if_false]
              rw [put_tmps_other _ _ _ _ (fun e => hdis j o' d hj hji (by rw [htl, ho']) e hd)]
              exact hI.done j o' d hj ho' hd hl
          · have h1 : o.dst ≠ some t := ht i o him ho (by rw [getD_set hil, if_pos rfl])
            rw [put_tmps_other _ _ _ _ h1]
            refine hI.other t fun j o' hj ho' hl => ht j o' hj ho' ?_
            rw [getD_set (by rw [hI.size]; omega)]
            split
            · rfl
            · exact hl
          · have hjs : j < listed.size := by rw [hI.size]; omega
            rw [getD_set hjs] at hl
            by_cases hji : j = i
            · subst hji
              obtain ⟨hkm, hkl2⟩ := hpl k hk
              rw [getD_set (by rw [hI.size]; omega)]
              split
              · rfl
              · exact hkl2
            · rw [if_neg (fun e => hji e.symm)] at hl
              have hkl2 := hI.preds j hj hl k hk
              obtain ⟨hkm, _⟩ := preOk_spec hpre hj hk
              rw [getD_set (by rw [hI.size]; omega)]
              split
              · rfl
              · exact hkl2
      unfold wpOp
      simp only [ho]
      simp only [wpList] at hO
      rw [hwant] at hO
      split
      · rename_i hw
        rw [if_pos hw] at hO
        rcases hO with hO | ⟨_, a', w', hO⟩
        · refine .inl ?_
          unfold Oper.wp at hO ⊢
          rw [hex3] at hO
          generalize (execOp a.eval o).run P w = r at hO ⊢
          have hput : ∀ v, (match o.dst with | some d => ((fullA vs (ops.toList.take m) 0 a0).put o.dst v).tmps.getD d undef | none => undef) = (match o.dst with | some _ => v | none => undef) := by
            intro v
            cases hd : o.dst with
            | none => rfl
            | some d =>
              simp only [Array.getD_eq_getD_getElem?]
              rw [put_tmps_self _ _ _ (by rw [fullA_size]; exact hsz d hd)]
              rfl
          have hfix : ∀ (v : Value) (q : Nat), (q = i ∨ q ∈ pre i) → (if q = i then (match o.dst with | some d => ((fullA vs (ops.toList.take m) 0 a0).put o.dst v).tmps.getD d undef | none => undef) else vs q) = (if q = i then (match o.dst with | some _ => v | none => undef) else vs q) := by
            intro v q _
            by_cases hq : q = i
            · rw [if_pos hq, if_pos hq]; exact hput v
            · rw [if_neg hq, if_neg hq]
          cases r with
          | ok n w' =>
            cases n <;> simp only [Oper.upon] at hO ⊢
            case value v =>
              simp only [regPost] at hO
              exact hnext v w' hO.2.1 (hsame i _ _ _ (hfix v) hO.2.2)
            case skip =>
              simp only [regPost] at hO
              exact hnext undef w' hO.2.1 (hsame i _ _ _ (hfix undef) hO.2.2)
            case defer d =>
              simp only [regPost, put_defers, fullA_defers] at hO
              exact absurd hO.1 (List.cons_ne_self _ _)
            case enter f args =>
              refine hO.mono fun e w'' he => ?_
              cases e with
              | returned v =>
                simp only [regPost] at he
                exact hnext v w'' he.2.1 (hsame i _ _ _ (hfix v) he.2.2)
              | panicked ch =>
                simp only [regPost] at he
                exact hpan ch a _ w'' (hEt _ _ _ _ _ _ hI.world he.1) he.2
              | outgrown =>
                obtain ⟨a', w', hh⟩ := he
                exact hh.elim
            case row row args =>
              refine Rows.mono hO fun v w'' he => ?_
              simp only [regPost] at he
              exact hnext v w'' he.2.1 (hsame i _ _ _ (hfix v) he.2.2)
          | halt x w' =>
            cases x <;> simp only [Oper.upon] at hO ⊢
            case panic v =>
              simp only [regPost] at hO
              exact hpan _ a _ w' (hEt _ _ _ _ _ _ hI.world hO.1) hO.2
        · exact hO.elim
      · rename_i hw
        rw [if_neg hw] at hO
        simp only [regPost] at hO
        refine hnext undef w ?_ ?_
        · exact hO.2.1
        · have h2 := hO.2.2
          cases hd : o.dst with
          | none => rw [hd] at h2; exact h2
          | some d =>
            rw [hd] at h2
            simp only [Array.getD_eq_getD_getElem?] at h2
            rw [put_tmps_self _ _ _ (by rw [fullA_size]; exact hsz d hd)] at h2
            exact h2
/-- The obligations, one behind the other. -/
def Obls3 (P : Program) (ops : Array Oper) (x : Nat) (pre : Nat → List Nat) (E : Bool → World → Bool → World → Prop) (m : Nat) (Ps : Nat → (Nat → Value) → World → Prop) (Pan : List PanicEntry → World → Prop) (a0 : Act) (w0 : World) : List Oper → Nat → Prop
  | [], _ => True
  | o :: rest, i => (∀ (vs : Nat → Value) w (bb : Bool), E false w0 bb w → (i = x → bb = false) → (∀ j, j ∈ depsOf ops.toList m o ∨ j ∈ pre i → Ps j vs w) →
      wpList P ops (regPost a0.defers o.dst (fun v w' => E bb w (bb || decide (i = x)) w' ∧ Ps i (fun j => if j = i then v else vs j) w') (fun ch w' => E bb w bb w' ∧ Pan ch w')) [o] (fullA vs (ops.toList.take m) 0 a0) w) ∧ Obls3 P ops x pre E m Ps Pan a0 w0 rest (i + 1)
theorem Obls3.at_ {x : Nat} {pre : Nat → List Nat} {E : Bool → World → Bool → World → Prop} {m : Nat} {Ps : Nat → (Nat → Value) → World → Prop} {Pan : List PanicEntry → World → Prop} {a0 : Act} {w0 : World} : ∀ (l : List Oper) (i : Nat), Obls3 P ops x pre E m Ps Pan a0 w0 l i → ∀ j o, l[j]? = some o →
    ∀ (vs : Nat → Value) w (bb : Bool), E false w0 bb w → (i + j = x → bb = false) → (∀ q, q ∈ depsOf ops.toList m o ∨ q ∈ pre (i + j) → Ps q vs w) →
      wpList P ops (regPost a0.defers o.dst (fun v w' => E bb w (bb || decide (i + j = x)) w' ∧ Ps (i + j) (fun q => if q = i + j then v else vs q) w') (fun ch w' => E bb w bb w' ∧ Pan ch w')) [o] (fullA vs (ops.toList.take m) 0 a0) w
  | [], _, _, _, _, h => by simp at h
  | o :: l, i, h, 0, o', ho => by
    simp at ho
    subst ho
    exact h.1
  | o :: l, i, h, j + 1, o', ho => by
    have := Obls3.at_ l (i + 1) h.2 j o' (by simpa using ho)
    rwa [show i + 1 + j = i + (j + 1) from by omega] at this
theorem wp_region_posts3 (x : Nat) (pre : Nat → List Nat) {E : Bool → World → Bool → World → Prop} (hEr : ∀ a, E false a false a) (hEt : ∀ p a q b r c, E p a q b → E q b r c → E p a r c) {id : Nat} {l : List Oper} {a0 : Act} {w : World} (m : Nat) (Ps : Nat → (Nat → Value) → World → Prop) (Pan : List PanicEntry → World → Prop)
    (hpre : preOk l m pre = true) (hx : x < m) (hmono : ∀ i vs p w q w', (i = x → p = true) → Ps i vs w → E p w q w' → Ps i vs w') (hsame : ∀ i vs vs' w, (∀ j, j = i ∨ j ∈ pre i → vs j = vs' j) → Ps i vs w → Ps i vs' w)
    (hm : P.follows .mixedOrders = true) (hok : regOk l m a0.tmps.size = true) (hpan : ∀ ch a p w', E false w.drew p w' → Pan ch w' → Q (.panic ch) a w')
    (hobl : Obls3 P l.toArray x pre E m Ps Pan a0 w.drew (l.take m) 0)
    (hend : ∀ (vs : Nat → Value) w', E false w.drew true w' → (∀ i, i < m → Ps i vs w') → wpList P l.toArray Q (l.drop m) (fullA vs (l.take m) 0 a0) w') :
    (Code.region id l.toArray true).wp P Q a0 w := by
  refine wp_region_any hm ?_
  have hml : m ≤ l.length := by
    simp only [regOk, Bool.and_eq_true, decide_eq_true_eq] at hok
    exact hok.1.1
  refine wpAny_posts3 x hEt m Ps Pan a0 w.drew (by simpa using hpre) hx hmono hsame (by simpa using hok) hpan (fun i o hi ho => ?_) hend _ _ (fun _ => undef) a0 _ ?_ ?_
  · have := Obls3.at_ (l.take m) 0 hobl i o (by rw [List.getElem?_take, if_pos hi]; simpa using ho)
    simp only [Nat.zero_add] at this; exact this
  · have h1 : ((List.range m).filter fun i => !(Array.replicate l.toArray.size false).getD i true) = List.range m := by
      rw [List.filter_eq_self]
      intro i hi
      have := List.mem_range.1 hi
      have h3 : i < l.length := by omega
      simp [Array.getD_eq_getD_getElem?, Array.getElem?_replicate, h3]
    rw [h1, List.length_range]
    simp
    omega
  · have hf : ∀ j, (Array.replicate l.toArray.size false).getD j false = false := fun j => by
      simp only [Array.getD_eq_getD_getElem?, Array.getElem?_replicate]
      split <;> rfl
    refine ⟨by simp, fun i hi _ => ?_, by rw [hf x]; exact hEr _, fun j _ h => ?_, rfl, rfl, fun j o d _ _ _ h => ?_, fun _ _ => rfl, fun j _ h => ?_⟩
    · have h3 : i < l.length := by simpa using hi
      simp [Array.getD_eq_getD_getElem?, Array.getElem?_replicate, h3]
    · rw [hf j] at h; cases h
    · rw [hf j] at h; cases h
    · rw [hf j] at h; cases h
end
end Go.Proofs.Ytfnelkcllaaebaa
end
section
/- The document's writer: what holds while a rest is noted. No condition: definitions and plain laws on worlds. -/
open Go.RowKit
set_option linter.unusedVariables false
set_option linter.unusedSimpArgs false
namespace Go.Proofs.Ytfnelkcllaaebaa
/-- Ahead of the append, and behind it. -/
def EPh (T : Nat → Prop) : Bool → World → Bool → World → Prop
  | false, a, false, b => Ext a b
  | true, a, true, b => Ext a b
  | false, a, true, b => NoStr T a ∧ Kp T a b
  | true, _, false, _ => False
theorem noStr_back {T : Nat → Prop} {a b : World} (hE : Ext a b) (h : NoStr T b) : NoStr T a := fun k hk cur x hc => h k hk cur x (hE.block hc)
theorem ePh_trans (T : Nat → Prop) : ∀ p a q b r c, EPh T p a q b → EPh T q b r c → EPh T p a r c := by
  intro p a q b r c h k
  cases p <;> cases q <;> cases r <;> simp only [EPh] at h k ⊢
  · exact h.trans k
  · exact ⟨noStr_back h k.1, (Kp.of_ext h).trans k.2⟩
  · exact ⟨h.1, h.2.ext k⟩
  · exact h.trans k
def nmPs (q : Nat) (u t vn vc : Value) (k bl : Nat) (n : List Str) (rs : List (Nat × List Str)) (w0 : World) (i : Nat) (vs : Nat → Value) (W : World) : Prop :=
  match i with
  | 0 => vs 0 = .pointer (some ⟨q, 0, none⟩) | 1 => vs 1 = .pointer (some ⟨q, 0, none⟩) | 2 => vs 2 = .pointer (some ⟨q, 0, none⟩)
  | 5 => vs 5 = .pointer (some ⟨q, 0, none⟩) | 6 => vs 6 = .pointer (some ⟨q, 0, none⟩) | 7 => vs 7 = .pointer (some ⟨q, 0, none⟩)
  | 3 => vs 3 = .pointer (some ⟨q, 1, none⟩)
  | 4 => vs 4 = t | 8 => vs 8 = u | 9 => vs 9 = .int .i64 (bl : Int) | 10 => isE (vs 10) | 11 => vs 11 = vn | 12 => vs 12 = .int .i64 (k : Int) | 13 => vs 13 = vc
  | 14 => NewS Value.string 9 W 0 (vs 14) n
  | 15 => ∃ v, vs 15 = .agg #[.int .i64 (bl : Int), v] ∧ NewS Value.string 9 W 0 v n
  | 16 => ∃ g v, vs 16 = .slice (some ⟨g, 0, none⟩) 1 1 ∧ W.heap[g]? = some (.cells #[.int .i64 (bl : Int), v] 144 (0, 0)) ∧ NewS Value.string 9 W 0 v n ∧ w0.heap.size ≤ g
  | 17 => OwnM RestR 144 2 W 0 (vs 17) (rs ++ [(bl, n)]) ∧ ∀ k, (vs 17).ownBlock = some k → t.ownBlock = some k ∨ w0.heap.size ≤ k
  | _ => True
theorem nmPs_mono (q : Nat) (u t vn vc : Value) (k bl : Nat) (n : List Str) (rs : List (Nat × List Str)) (w0 : World) (hT : ∀ k, t.ownBlock = some k → k < w0.heap.size) :
    ∀ i vs p w r w', (i = 17 → p = true) → nmPs q u t vn vc k bl n rs w0 i vs w → EPh (fun k => t.ownBlock = some k) p w r w' → nmPs q u t vn vc k bl n rs w0 i vs w' := by
  intro i vs p w r w' hp h hE
  have hN : ∀ v, NewS Value.string 9 w 0 v n → NewS Value.string 9 w' 0 v n := by
    intro v hv
    cases p <;> cases r <;> simp only [EPh] at hE
    · exact hv.ext hE
    · exact hv.kpT hE.2 hE.1
    · exact hv.ext hE
  have hH : ∀ g o, w0.heap.size ≤ g → w.heap[g]? = some o → w'.heap[g]? = some o := by
    intro g o hg ho
    cases p <;> cases r <;> simp only [EPh] at hE
    · exact hE.block ho
    · exact hE.2.heap ho (fun e => by have := hT g e; omega)
    · exact hE.block ho
  unfold nmPs at *
  split at h <;> first | exact h | exact hN _ h | (obtain ⟨v, h1, h2⟩ := h; exact ⟨v, h1, hN v h2⟩) | (obtain ⟨g, v, h1, h2, h3, h4⟩ := h; exact ⟨g, v, h1, hH g _ h4 h2, hN v h3, h4⟩) | skip
  have hp' := hp rfl
  subst hp'
  cases r <;> simp only [EPh] at hE
  refine ⟨h.1.ext (fun cs x hR => restR_keeps w w' none cs x (grown_ext w w' hE none) (by simp) hR) hE, h.2⟩
theorem nmPs_same (q : Nat) (u t vn vc : Value) (k bl : Nat) (n : List Str) (rs : List (Nat × List Str)) (w0 : World) :
    ∀ i (vs vs' : Nat → Value) W, (∀ j, j = i ∨ j ∈ (fun _ : Nat => ([] : List Nat)) i → vs j = vs' j) → nmPs q u t vn vc k bl n rs w0 i vs W → nmPs q u t vn vc k bl n rs w0 i vs' W := by
  intro i vs vs' W hs h
  have e := hs i (.inl rfl)
  unfold nmPs at *
  split at h <;> first | (rw [← e]; exact h) | exact h
theorem mr_note2 {w w1 : World} {q : Nat} {u t t' : Value} {b : List UInt8} {rs rs' : List (Nat × List Str)} (h : MrP w q u t b rs) (hO : OwnM RestR 144 2 w1 0 t' rs') (hK0 : Kp (fun k => t.ownBlock = some k) w w1) (hat : ∀ k, t'.ownBlock = some k → t.ownBlock = some k ∨ w.heap.size ≤ k) : Mrote q u t b b rs' w (w1.setCell ⟨q, 1, none⟩ t') := by
  have hq := h.lt q (.inl rfl)
  have hb1 : w1.heap[q]? = some (.cells #[u, t] 76 (0, 0)) := (hK0.block q hq (fun e => h.ne_rests e)).trans h.box
  have hK : Kp (fun k => k = q) w1 (w1.setCell ⟨q, 1, none⟩ t') := Kp.setCell (S := fun k => k = q) (p := ⟨q, 1, none⟩) (Kp.refl _ _) (.inl rfl) t'
  have hNo : NoStr (fun k => k = q) w1 := fun k hk cur x hc => by subst hk; rw [hb1] at hc; injection hc with hc; injection hc with _ h9 _; cases h9
  have hrow := h.row.kpN hK0 (fun k hb hu => h.row_rests hb k hu)
  have hne : t'.ownBlock ≠ some q := by
    intro e
    rcases hat q e with h1 | h1
    · exact h.ne_rests h1
    · omega
  refine ⟨u, t', ⟨by simp [World.setCell, Array.getElem?_modify, hb1], ?_, ?_⟩, ?_, ?_⟩
  · exact hrow.kpN hK (fun k hb hu e => by subst e; exact h.ne_row hb hu)
  · exact hO.kpS (RestR.kp hK hNo) hK (fun k ht e => by subst e; exact hne ht)
  · exact (hK0.mono (fun k hk => .inr (.inr hk))).setCell (.inl (.inl rfl)) _
  · rintro k (rfl | hk | hk)
    · exact .inl (.inl rfl)
    · exact .inl (.inr (.inl hk))
    · rcases hat k hk with h1 | h1
      · exact .inl (.inr (.inr h1))
      · exact .inr h1
theorem putN_app (b : List UInt8) (n size : Int) : putN b n size = b ++ putN [] n size := by
  unfold putN; split <;> simp
/-- All noted places are small. -/
def SmallR (rs : List (Nat × List Str)) : Prop := ∀ r ∈ rs, r.1 < 16384
theorem findR_small {rs : List (Nat × List Str)} (h : SmallR rs) {n : List Str} {k : Nat} (hf : findR rs n = some k) : k < 16384 := by
  unfold findR at hf
  cases hx : rs.find? (fun r => decide (r.2 = n)) with
  | none => rw [hx] at hf; cases hf
  | some r => rw [hx] at hf; injection hf with hf; rw [← hf]; exact h r (List.mem_of_find?_eq_some hx)
theorem SmallR.app {rs : List (Nat × List Str)} {p : Nat} {n : List Str} (h : SmallR rs) (hp : p < 16384) : SmallR (rs ++ [(p, n)]) := by
  intro r hr
  rcases List.mem_append.1 hr with hr | hr
  · exact h r hr
  · simp at hr; rw [hr]; exact hp
section
variable {P : Program} {ops : Array Oper} {rest : List Oper} {o : Oper} {a : Act} {Q : Exit → Act → World → Prop}
theorem wpList_appH {α : Type} (R : World → List Value → α → Prop) {W : World} (base : Nat) (hgd : o.guard = none) (s x : Operand) (t e : TypeId) (z : Value) (sz bytes : Nat)
    (ho : o.op = .call { callee := .builtin .append, args := #[s, x], argTypes := #[t, t] })
    (ht : P.underlying t = some (.slice e)) (hinfo : (P.info? e).map (fun i => (i.zero, i.size, i.bytes)) = some (some z, sz, bytes)) (hz : z.cells.size = sz) (hsz : 0 < sz) (hb0 : 0 < bytes)
    (hk : KeepsB base R e)
    (v : Value) (l : List α) (y : α) (cs : Array Value) (hcs : cs.size = sz) (g : Nat) (hs : a.eval s = v) (hx : a.eval x = .slice (some ⟨g, 0, none⟩) 1 1) (hg : W.heap[g]? = some (.cells cs e (0, 0))) (h1 : ∀ u ∈ cs.toList, u.oneCell' = true)
    (hy : R W cs.toList y) (HO : OwnM R e sz W base v l) (hbase : base ≤ W.heap.size) (hl : (l.length + 1) * bytes ≤ 140737488355328)
    (h : ∀ v1 w1, OwnM R e sz w1 base v1 (l ++ [y]) → W.grownBy w1 v.ownBlock → (∀ k, v1.ownBlock = some k → v.ownBlock = some k ∨ W.heap.size ≤ k) → wpList P ops Q rest (a.put o.dst v1) w1) : wpList P ops Q (o :: rest) a W := by
  refine wpList_plain hgd fun K hK => ?_
  exact wp_appH R base s x t e z sz bytes ho ht hinfo hz hsz hb0 hk v l y cs hcs g hs hx hg h1 hy HO hbase hl fun v1 w1 h1 h2 h3 => hK _ _ (h v1 w1 h1 h2 h3)
end
theorem ePh_same {T : Nat → Prop} {p : Bool} {w w' : World} (hE : Ext w w') : EPh T p w p w' := by cases p <;> exact hE
theorem ePh_or {T : Nat → Prop} {p d : Bool} {w w' : World} (hE : Ext w w') (hd : d = false) : EPh T p w (p || d) w' := by subst hd; rw [Bool.or_false]; exact ePh_same hE
theorem ePh_kp {T : Nat → Prop} {p : Bool} {w w' : World} (h : EPh T false w p w') : Kp T w w' := by
  cases p
  · exact Kp.of_ext h
  · exact h.2
theorem mr_boxk {w w' : World} {q : Nat} {u t : Value} {b : List UInt8} {rs : List (Nat × List Str)} (h : MrP w q u t b rs) (hK : Kp (fun k => t.ownBlock = some k) w w') : w'.cell? ⟨q, 0, none⟩ = some u ∧ w'.cell? ⟨q, 1, none⟩ = some t ∧ ∀ i, w'.frozen? ⟨q, i, none⟩ = false := by
  have hb : w'.heap[q]? = some (.cells #[u, t] 76 (0, 0)) := (hK.block q (h.lt q (.inl rfl)) (fun e => h.ne_rests e)).trans h.box
  exact ⟨by simp [World.cell?, hb], by simp [World.cell?, hb], fun i => by simp [World.frozen?, hb]⟩
theorem mr_noT {w : World} {q : Nat} {u t : Value} {b : List UInt8} {rs : List (Nat × List Str)} (h : MrP w q u t b rs) : NoStr (fun k => t.ownBlock = some k) w := fun k hk => h.noStr k (.inr (.inr hk))
end Go.Proofs.Ytfnelkcllaaebaa
end
section
/- The document's writer: Name of a sound name. No condition but that the writer and the name stand in memory, and room. -/
open Go.RowKit
set_option linter.unusedVariables false
set_option linter.unusedSimpArgs false
namespace Go.Proofs.Ytfnelkcllaaebaa
set_option maxRecDepth 100000 in
set_option maxHeartbeats 2000000 in
/-- ref03.Writer.Name of a sound name. -/
theorem mw_Name (q : Nat) (u t vn : Value) (n : List Str) (short : Bool) (b : List UInt8) (rs : List (Nat × List Str)) (w : World) (hW : MrP w q u t b rs) (hsm : SmallR rs) (hrl : rs.length ≤ 1000000) (hn : Stb (Smr q u t b) w fun w' => NameV w' vn n) (hs : nsound n = true) (hb : b.length ≤ 140737480000000) :
    Calls Try.prog 59 #[.pointer (some ⟨q, 0, none⟩), vn, .bool short] w fun e w' => e = .returned (.tuple #[]) ∧ ∃ rs', findR rs' = (Wt.name n short).rests b (findR rs) ∧ SmallR rs' ∧ rs'.length ≤ rs.length + n.length ∧ Mrote q u t b ((Wt.name n short).bytes b (findR rs)) rs' w w' := by
  have HN := Lib.hid hn
  have HSm := Lib.hid hsm
  have HRl := Lib.hid hrl
  have hs' := hs
  unfold nsound at hs'
  rw [decide_eq_true_eq] at hs'
  obtain ⟨hg, h255⟩ := hs'
  have HG := Lib.hid hg
  have H255 := Lib.hid h255
  have hlen := nsize_ge n
  obtain ⟨An, cn, rfl, n1, n2⟩ := hn.here.form
  obtain ⟨B0, hB0⟩ : ∃ B0, (Wt.name n short).bytes b (findR rs) = B0 := ⟨_, rfl⟩
  obtain ⟨F0, hF0⟩ : ∃ F0, (Wt.name n short).rests b (findR rs) = F0 := ⟨_, rfl⟩
  rw [hB0, hF0]
  have HB0 := Lib.hid hB0
  have HF0 := Lib.hid hF0
  have HW := Lib.hid hW
  clear hn hs hg hW hB0 hF0 hsm hrl
  go_enter Try.func59, Try.ntmps59
  go_wp2
  go_loopw [6, 7] (fun i _ wr => ∃ (k : Nat) (uc tc : Value) (B : List UInt8) (RS : List (Nat × List Str)), k ≤ n.length ∧ i = .int .i64 k ∧ MrP wr q uc tc B RS ∧ Stp (Smr q u t b) w (Smr q uc tc B) wr ∧ Hid ((Wt.name (n.drop k) short).bytes B (findR RS) = B0) ∧ Hid ((Wt.name (n.drop k) short).rests B (findR RS) = F0) ∧ SmallR RS ∧ RS.length ≤ rs.length + k ∧ B.length + nsize (n.drop k) ≤ b.length + nsize n) (fun i _ _ => n.length - (intOf i).toNat)
  case atStart => exact ⟨0, u, t, b, rs, by omega, rfl, HW.out, Stp.refl _ _, HB0, HF0, HSm.out, by omega, by simp⟩
  case round =>
    obtain ⟨k, uc, tc, B, RS, hk, rfl, hW, hS, HBf, HRf, hsm, hrl, hBl⟩ := hrel
    have HSm := Lib.hid hsm
    have HRl2 := Lib.hid hrl
    have HBd := Lib.hid hBl
    have HBn : Hid (B.length ≤ 140737480000300) := Lib.hid (by omega)
    clear hBl hsm hrl
    by_cases hlt : k < n.length
    · have HNr := Lib.hid (HN.out wr hS.1)
      obtain ⟨b1, o1, c1, e1, _, _, hc1⟩ := HNr.out.opens (by omega)
      injection e1 with e1 e3 e4
      subst e1
      clear e3 e4
      have hx := List.getElem?_eq_getElem hlt
      have hgx := HG.out _ (List.mem_of_getElem? hx)
      have hdr := List.drop_eq_getElem_cons hlt
      rw [hdr] at HBf HRf HBd
      obtain ⟨vs, hsl, hvs⟩ := cut_l elem23 size23 HNr.out (k : Int) (by omega) (by omega)
      rw [Int.toNat_natCast, hdr] at hvs
      have hsr : nsize (n[k] :: n.drop (k + 1)) ≤ 255 := by
        have := nsize_append (n.take k) (n[k] :: n.drop (k + 1))
        rw [← hdr, List.take_append_drop] at this
        rw [← hdr]
        have := nsize_ge (n.take k)
        omega
      have HLr : Hid ((n[k] :: n.drop (k + 1)).length ≤ 255) := Lib.hid (by have := nsize_ge (n[k] :: n.drop (k + 1)); omega)
      have HNs : Hid (nsize (n[k] :: n.drop (k + 1)) = n[k].size + 1 + nsize (n.drop (k + 1))) := Lib.hid rfl
      have HLn : Hid ((putN [] (n[k].size : Int) 1).length = 1) := Lib.hid (by rw [put1 _ (by omega)]; rfl)
      have HXs : Hid (n[k].size ≤ 63) := Lib.hid hgx.2
      have HX := Lib.hid hx
      have HDr := Lib.hid hdr
      clear hc1 hx hdr hsr
      generalize n[k] = x at *
      generalize hrem : n.drop (k + 1) = rem at *
      have HRem := Lib.hid hrem
      clear hrem
      have HVs := Lib.hid hvs
      obtain ⟨As, ns, cs, rfl⟩ : ∃ As ns cs, vs = .slice As ns cs := by obtain ⟨A, c, h, _⟩ := hvs.form; exact ⟨_, _, _, h⟩
      have HWr := Lib.hid hW
      have HS := Lib.hid hS
      obtain ⟨Av, cv, rfl⟩ := hW.slice
      have HFd := Lib.hid (mw_find q _ tc _ (x :: rem) B RS wr hW hvs)
      clear hW hS hvs
      go_wp2_with fail
      refine (HFd.out).mono ?_
      rintro e w2 ⟨rfl, hE2⟩
      have HW2 := Lib.hid (HWr.out.ext hE2)
      have HS2 := Lib.hid (HS.out.ext hE2)
      clear hE2
      cases hfr : findR RS (x :: rem) with
      | some j =>
        have hj := findR_small HSm.out hfr
        have e0 : fAns (some j) = (j : Int) := rfl
        rw [e0]
        clear e0
        cases short with
        | true =>
          have HM := Lib.hid (name_hit (b := B) hfr)
          have hwr : IntKind.i64.wrap (49152 + (j : Int)) = 49152 + (j : Int) := wraps_i64 _ (by omega) (by omega)
          go_wp2_with fail
          refine (mw_Num q _ tc (49152 + (j : Int)) 2 B RS w2 HW2.out (by have := HBn.out; omega) (by omega)).mono ?_
          rintro e w3 ⟨rfl, hM⟩
          have HM3 := Lib.hid hM
          clear hM
          go_wp2
          refine bodyPost_ret (results_none (by kernel_rfl) _ _ _) rfl ?_
          exact ⟨rfl, RS, by rw [← HRf.out, HM.out.2], HSm.out, by have := HRl2.out; omega, Mrote.trans HS2.out (by rw [← HBf.out, HM.out.1, ← putN_app]; exact HM3.out)⟩
        | false =>
          have HM := Lib.hid (name_miss (b := B) (f := findR RS) (x := x) (n := rem) (short := false) (.inl rfl))
          clear hfr
          by_cases h16 : B.length < 16384
          · have h16' := h16
            have HL1 : Hid ((x :: rem).length * 16 ≤ 140737488355328) := Lib.hid (by have := HLr.out; omega)
            have HL2 : Hid ((RS.length + 1) * 32 ≤ 140737488355328) := Lib.hid (by have := HRl.out; have := HRl2.out; omega)
            have HMr := Lib.hid (HW2.out.ext (Ext.refl w2).drew)
            have HSr := Lib.hid (HS2.out.ext (Ext.refl w2).drew)
            obtain ⟨q0, q1, qf⟩ := HW2.out.cells
            go_wp2
            clear q0 q1 qf
            generalize hdr : w2.drew = wd at *
            obtain ⟨At, ct, rfl, _, _⟩ := HMr.out.rests.slice
            have HEK : ∀ bb W, EPh (fun k => (Value.slice At RS.length ct).ownBlock = some k) false wd bb W → Hid (Kp (fun k => (Value.slice At RS.length ct).ownBlock = some k) wd W) := fun bb W h => Lib.hid (ePh_kp h)
            have hTl : ∀ k, (Value.slice At RS.length ct).ownBlock = some k → k < wd.heap.size := fun k hk => HMr.out.lt k (.inr (.inr hk))
            have HTl := Lib.hid hTl
            have HNk : ∀ W, Kp (fun k => (Value.slice At RS.length ct).ownBlock = some k) wd W → Hid (NameV W (.slice As ns cs) (x :: rem)) := fun W hK => Lib.hid (by
              have h1 := HN.out W (HSr.out.1.trans' hK (fun i hi => HSr.out.2 i (.inr (.inr hi))))
              obtain ⟨v', hr, hv⟩ := cut_l elem23 size23 h1 (k : Int) (by omega) (by omega)
              have hr' := (hr W).symm.trans (hsl W)
              injection hr' with hr'
              rw [Int.toNat_natCast, HDr.out] at hv
              rw [← hr']; exact hv)
            have HNk := Lib.hid HNk
            have HEK := Lib.hid HEK
            clear hTl
            refine wp_region_posts3 17 (fun _ => []) (E := EPh (fun k => (Value.slice At RS.length ct).ownBlock = some k)) (fun a => Ext.refl a) (ePh_trans _) 18 (nmPs q (.slice Av B.length cv) (.slice At RS.length ct) (.slice (some ⟨b1, o1, none⟩) n.length cn) (.slice As ns cs) k B.length (x :: rem) RS wd) (fun _ _ => False) (by decide) (by decide) (nmPs_mono _ _ _ _ _ _ _ _ _ _ HTl.out) (nmPs_same _ _ _ _ _ _ _ _ _ _) (by kernel_rfl) (by kernel_rfl) (fun _ _ _ _ _ h => h.elim) ?_ ?_
            · simp (config := { maxSteps := 10000000 }) only [List.take, Obls3, fullA, Act.put, List.setIfInBounds_toArray, List.set_cons_zero, List.set_cons_succ, Nat.zero_add, Nat.reduceAdd]
              rw [hdr]
              refine ⟨?_, ?_, ?_, ?_, ?_, ?_, ?_, ?_, ?_, ?_, ?_, ?_, ?_, ?_, ?_, ?_, ?_, ?_, trivial⟩
              all_goals intro vs W bb hE hb hd
              all_goals have HKW := HEK.out bb W hE
              all_goals have HE := Lib.hid hE
              all_goals clear hE
              · clear hd
                go_wp2
                exact ⟨rfl, (by first | exact ePh_same (Ext.refl _) | exact ePh_or (Ext.refl _) (by decide)), rfl⟩
              · clear hd
                go_wp2
                exact ⟨rfl, (by first | exact ePh_same (Ext.refl _) | exact ePh_or (Ext.refl _) (by decide)), rfl⟩
              · have e1 : vs 1 = .pointer (some ⟨q, 0, none⟩) := hd 1 (.inl (by decide))
                clear hd
                rw [e1]
                go_wp2
                exact ⟨rfl, (by first | exact ePh_same (Ext.refl _) | exact ePh_or (Ext.refl _) (by decide)), rfl⟩
              · have e2 : vs 2 = .pointer (some ⟨q, 0, none⟩) := hd 2 (.inl (by decide))
                clear hd
                rw [e2]
                go_wp2
                exact ⟨rfl, (by first | exact ePh_same (Ext.refl _) | exact ePh_or (Ext.refl _) (by decide)), rfl⟩
              · have e3 : vs 3 = .pointer (some ⟨q, 1, none⟩) := hd 3 (.inl (by decide))
                clear hd
                rw [e3]
                have c1 := (mr_boxk HMr.out HKW.out).2.1
                go_wp2
                exact ⟨rfl, (by first | exact ePh_same (Ext.refl _) | exact ePh_or (Ext.refl _) (by decide)), rfl⟩
              · clear hd
                go_wp2
                exact ⟨rfl, (by first | exact ePh_same (Ext.refl _) | exact ePh_or (Ext.refl _) (by decide)), rfl⟩
              · have e5 : vs 5 = .pointer (some ⟨q, 0, none⟩) := hd 5 (.inl (by decide))
                clear hd
                rw [e5]
                go_wp2
                exact ⟨rfl, (by first | exact ePh_same (Ext.refl _) | exact ePh_or (Ext.refl _) (by decide)), rfl⟩
              · have e6 : vs 6 = .pointer (some ⟨q, 0, none⟩) := hd 6 (.inl (by decide))
                clear hd
                rw [e6]
                go_wp2
                exact ⟨rfl, (by first | exact ePh_same (Ext.refl _) | exact ePh_or (Ext.refl _) (by decide)), rfl⟩
              · have e7 : vs 7 = .pointer (some ⟨q, 0, none⟩) := hd 7 (.inl (by decide))
                clear hd
                rw [e7]
                have c0 := (mr_boxk HMr.out HKW.out).1
                go_wp2
                exact ⟨rfl, (by first | exact ePh_same (Ext.refl _) | exact ePh_or (Ext.refl _) (by decide)), rfl⟩
              · have e8 : vs 8 = .slice Av B.length cv := hd 8 (.inl (by decide))
                clear hd
                rw [e8]
                go_wp2
                exact ⟨rfl, (by first | exact ePh_same (Ext.refl _) | exact ePh_or (Ext.refl _) (by decide)), rfl⟩
              · clear hd
                go_wp2
                exact ⟨rfl, (by first | exact ePh_same ((Ext.refl _).alloc _) | exact ePh_or ((Ext.refl _).alloc _) (by decide)), _, rfl⟩
              · clear hd
                go_wp2
                exact ⟨rfl, (by first | exact ePh_same (Ext.refl _) | exact ePh_or (Ext.refl _) (by decide)), rfl⟩
              · clear hd
                go_wp2
                exact ⟨rfl, (by first | exact ePh_same (Ext.refl _) | exact ePh_or (Ext.refl _) (by decide)), rfl⟩
              · have e11 : vs 11 = .slice (some ⟨b1, o1, none⟩) n.length cn := hd 11 (.inl (by decide))
                have e12 : vs 12 = .int .i64 (k : Int) := hd 12 (.inl (by decide))
                clear hd
                rw [e11, e12]
                go_wp2
                exact ⟨rfl, (by first | exact ePh_same (Ext.refl _) | exact ePh_or (Ext.refl _) (by decide)), rfl⟩
              · obtain ⟨A, e10⟩ : isE (vs 10) := hd 10 (.inl (by decide))
                have e13 : vs 13 = .slice As ns cs := hd 13 (.inl (by decide))
                clear hd
                rw [e10, e13]
                have HY := HNk.out W HKW.out
                go_wp2_with (at_builtin; refine wpList_app0 Value.string rfl (.tmp 44) (.tmp 47) 23 9 (.string ⟨#[]⟩) 16 rfl Try.underlying23 (by kernel_rfl) rfl (by decide) A (x :: rem) (.slice As ns cs) rfl rfl (fun _ => rfl) HY.out HL1.out ?_; intro v9 w9 hN hE9)
                exact ⟨rfl, (by first | exact ePh_same hE9 | exact ePh_or hE9 (by decide)), hN.mono (Nat.zero_le _)⟩
              · have e9 : vs 9 = .int .i64 (B.length : Int) := hd 9 (.inl (by decide))
                have h14 : NewS Value.string 9 W 0 (vs 14) (x :: rem) := hd 14 (.inl (by decide))
                clear hd
                obtain ⟨A14, n14, c14, e14⟩ := h14.slice
                rw [e14] at h14
                rw [e9, e14]
                have H14 := Lib.hid h14
                clear h14
                go_wp2
                exact ⟨rfl, (by first | exact ePh_same (Ext.refl _) | exact ePh_or (Ext.refl _) (by decide)), _, rfl, H14.out⟩
              · obtain ⟨v, e15, h15⟩ : ∃ v, vs 15 = .agg #[.int .i64 (B.length : Int), v] ∧ NewS Value.string 9 W 0 v (x :: rem) := hd 15 (.inl (by decide))
                clear hd
                obtain ⟨A14, n14, c14, rfl⟩ := h15.slice
                rw [e15]
                have H14 := Lib.hid h15
                clear h15
                go_wp2
                exact ⟨rfl, (by first | exact ePh_same ((Ext.refl _).alloc _) | exact ePh_or ((Ext.refl _).alloc _) (by decide)), _, _, rfl, heap_alloc_new W _, H14.out.ext ((Ext.refl _).alloc _), HKW.out.size⟩
              · have e4 : vs 4 = .slice At RS.length ct := hd 4 (.inl (by decide))
                obtain ⟨g, v, e16, hg, h16n, hge⟩ : ∃ g v, vs 16 = .slice (some ⟨g, 0, none⟩) 1 1 ∧ W.heap[g]? = some (.cells #[.int .i64 (B.length : Int), v] 144 (0, 0)) ∧ NewS Value.string 9 W 0 v (x :: rem) ∧ wd.heap.size ≤ g := hd 16 (.inl (by decide))
                clear hd
                have hbb : bb = false := by first | exact hb rfl | exact hb trivial
                subst hbb
                have HRs := Lib.hid ((HMr.out.ext HE.out).rests)
                have HNS := Lib.hid (mr_noT (HMr.out.ext HE.out))
                obtain ⟨A14, n14, c14, rfl⟩ := h16n.slice
                have H14 := Lib.hid h16n
                have HG16 := Lib.hid hg
                clear h16n hg
                rw [e4, e16]
                clear e4 e16
                go_wp2_with (at_builtin; refine wpList_appH RestR 0 rfl (.tmp 38) (.tmp 50) 74 144 (.agg #[.int .i64 0, .slice none 0 0]) 2 32 rfl Try.underlying74 rest_info rfl (by decide) (by decide) restR_keeps (.slice At RS.length ct) RS (B.length, x :: rem) #[.int .i64 (B.length : Int), .slice A14 n14 c14] rfl g rfl rfl HG16.out (by intro u hu; simp at hu; rcases hu with rfl | rfl <;> rfl) ⟨_, rfl, H14.out⟩ HRs.out (Nat.zero_le _) HL2.out ?_; intro v5 w5 hO5 hg5 hat5)
                exact ⟨rfl, (show EPh _ false W true w5 from ⟨HNS.out, (Kp.refl _ _).grown hg5 (fun k hk => .inl hk)⟩), hO5, fun k hk => (hat5 k hk).imp id (fun h => Nat.le_trans HKW.out.size h)⟩
            · intro vs W hE hP
              have e0 : vs 0 = .pointer (some ⟨q, 0, none⟩) := hP 0 (by decide)
              have h17 : OwnM RestR 144 2 W 0 (vs 17) (RS ++ [(B.length, x :: rem)]) ∧ ∀ k, (vs 17).ownBlock = some k → (Value.slice At RS.length ct).ownBlock = some k ∨ wd.heap.size ≤ k := hP 17 (by decide)
              clear hP
              rw [hdr] at hE
              have HKW := HEK.out true W hE
              clear hE
              simp (config := { maxSteps := 10000000 }) only [List.drop, List.take, fullA, Act.put, List.setIfInBounds_toArray, List.set_cons_zero, List.set_cons_succ, Nat.zero_add, Nat.reduceAdd]
              obtain ⟨h17, hat⟩ := h17
              obtain ⟨A5, c5, e17, _, _⟩ := h17.slice
              rw [e17] at h17 hat
              rw [e0, e17]
              clear e0 e17
              generalize (RS ++ [(B.length, x :: rem)]).length = n5 at *
              obtain ⟨u5, t5, hM5, hS5⟩ := mr_note2 HMr.out h17 HKW.out hat
              have HMN := Lib.hid hM5
              have HSN := Lib.hid (HSr.out.trans hS5)
              clear hM5 hS5 h17 hat
              obtain ⟨d0, d1, df⟩ := mr_boxk HMr.out HKW.out
              obtain ⟨_, _, c3, e3, _, _, hc3⟩ := (HN.out (W.setCell ⟨q, 1, none⟩ (.slice A5 n5 c5)) HSN.out.1).opens (by omega)
              injection e3 with e3 e5 e6
              injection e3 with e3
              injection e3 with e3 e7 _
              subst e3 e7
              have hcxN := hc3 k _ HX.out
              clear hc3 e5 e6
              go_wp2_with fail
              clear hcxN d0 d1 df
              refine (mw_Num q u5 t5 (x.size : Int) 1 B (RS ++ [(B.length, x :: rem)]) (W.setCell ⟨q, 1, none⟩ (.slice A5 n5 c5)) HMN.out (by have := HBn.out; omega) (by have := HXs.out; omega)).mono ?_
              rintro e w6 ⟨rfl, u6, t6, hW6, hs6⟩
              rw [putN_app] at hW6 hs6
              have HW6 := Lib.hid hW6
              have HS6 := Lib.hid (HSN.out.trans hs6)
              clear hW6 hs6
              obtain ⟨_, _, c3, e3, _, _, hc3⟩ := (HN.out w6 HS6.out.1).opens (by omega)
              injection e3 with e3 e5 e6
              injection e3 with e3
              injection e3 with e3 e7 _
              subst e3 e7
              have hcxN := hc3 k _ HX.out
              clear hc3 e5 e6
              have kb := fun w => Lib.run_convert_string_bytes (P := Try.prog) w 9 22 5 x Try.underlying9 Try.underlying22 Try.underlying5
              have hxs := HXs.out
              have hcm := grownCap_le_maxLen w6 x.size 0 5 (by simp [maxLen]; omega)
              have hcg := grownCap_ge w6 x.size 0 5
              have HY := Lib.hid ((blk_bytes w6 x).fl x.size (grownCap w6 x.size 0 5) (bs_length x) hcg (by simpa [maxLen] using hcm))
              have HE7 := Lib.hid (ext_bytes w6 x)
              clear hcm hcg
              go_wp2_with fail
              generalize Lib.bytesWorld w6 5 x = w7 at *
              generalize grownCap w6 x.size 0 5 = cg at *
              refine (mw_Raw q u6 t6 _ _ (bs x) (RS ++ [(B.length, x :: rem)]) w7 (HW6.out.ext HE7.out) HY.out (by have := HBn.out; have := HLn.out; rw [List.length_append, bs_length]; omega)).mono ?_
              rintro e w8 ⟨rfl, u8, t8, hW8, hs8⟩
              have HW8 := Lib.hid hW8
              have HS8 := Lib.hid ((HS6.out.ext HE7.out).trans hs8)
              clear hW8 hs8
              go_wp2
              go_roundw
              case rel => exact ⟨k + 1, u8, t8, _, RS ++ [(B.length, x :: rem)], by omega, by go_num, HW8.out, HS8.out, Lib.hid (by rw [HRem.out, findR_note h16']; exact HM.out.1.symm.trans HBf.out), Lib.hid (by rw [HRem.out, findR_note h16']; exact HM.out.2.symm.trans HRf.out), HSm.out.app h16', by have := HRl2.out; simp; omega, by rw [List.length_append, List.length_append, HLn.out, bs_length, HRem.out]; have := HBd.out; have := HNs.out; omega⟩
              case measure => simp [intOf]; omega
          · rw [note_same (.inr (by omega))] at HM
            have HMN := Lib.hid HW2.out
            have HSN := Lib.hid HS2.out
            obtain ⟨q0, q1, qf⟩ := HW2.out.cells
            obtain ⟨_, _, c3, e3, _, _, hc3⟩ := (HN.out w2 HSN.out.1).opens (by omega)
            injection e3 with e3 e5 e6
            injection e3 with e3
            injection e3 with e3 e7 _
            subst e3 e7
            have hcxN := hc3 k _ HX.out
            clear hc3 e5 e6
            go_wp2_with fail
            clear hcxN q0 q1 qf
            refine (mw_Num q _ tc (x.size : Int) 1 B (RS) w2 HMN.out (by have := HBn.out; omega) (by have := HXs.out; omega)).mono ?_
            rintro e w6 ⟨rfl, u6, t6, hW6, hs6⟩
            rw [putN_app] at hW6 hs6
            have HW6 := Lib.hid hW6
            have HS6 := Lib.hid (HSN.out.trans hs6)
            clear hW6 hs6
            obtain ⟨_, _, c3, e3, _, _, hc3⟩ := (HN.out w6 HS6.out.1).opens (by omega)
            injection e3 with e3 e5 e6
            injection e3 with e3
            injection e3 with e3 e7 _
            subst e3 e7
            have hcxN := hc3 k _ HX.out
            clear hc3 e5 e6
            have kb := fun w => Lib.run_convert_string_bytes (P := Try.prog) w 9 22 5 x Try.underlying9 Try.underlying22 Try.underlying5
            have hxs := HXs.out
            have hcm := grownCap_le_maxLen w6 x.size 0 5 (by simp [maxLen]; omega)
            have hcg := grownCap_ge w6 x.size 0 5
            have HY := Lib.hid ((blk_bytes w6 x).fl x.size (grownCap w6 x.size 0 5) (bs_length x) hcg (by simpa [maxLen] using hcm))
            have HE7 := Lib.hid (ext_bytes w6 x)
            clear hcm hcg
            go_wp2_with fail
            generalize Lib.bytesWorld w6 5 x = w7 at *
            generalize grownCap w6 x.size 0 5 = cg at *
            refine (mw_Raw q u6 t6 _ _ (bs x) (RS) w7 (HW6.out.ext HE7.out) HY.out (by have := HBn.out; have := HLn.out; rw [List.length_append, bs_length]; omega)).mono ?_
            rintro e w8 ⟨rfl, u8, t8, hW8, hs8⟩
            have HW8 := Lib.hid hW8
            have HS8 := Lib.hid ((HS6.out.ext HE7.out).trans hs8)
            clear hW8 hs8
            go_wp2
            go_roundw
            case rel => exact ⟨k + 1, u8, t8, _, RS, by omega, by go_num, HW8.out, HS8.out, Lib.hid (by rw [HRem.out, show findR RS = findR RS from rfl]; exact HM.out.1.symm.trans HBf.out), Lib.hid (by rw [HRem.out, show findR RS = findR RS from rfl]; exact HM.out.2.symm.trans HRf.out), HSm.out, by have := HRl2.out; omega, by rw [List.length_append, List.length_append, HLn.out, bs_length, HRem.out]; have := HBd.out; have := HNs.out; omega⟩
            case measure => simp [intOf]; omega
      | none =>
        have e0 : fAns none = -1 := rfl
        rw [e0]
        clear e0
        have HM := Lib.hid (name_miss (b := B) (f := findR RS) (x := x) (n := rem) (short := short) (.inr hfr))
        clear hfr
        by_cases h16 : B.length < 16384
        · have h16' := h16
          have HL1 : Hid ((x :: rem).length * 16 ≤ 140737488355328) := Lib.hid (by have := HLr.out; omega)
          have HL2 : Hid ((RS.length + 1) * 32 ≤ 140737488355328) := Lib.hid (by have := HRl.out; have := HRl2.out; omega)
          have HMr := Lib.hid (HW2.out.ext (Ext.refl w2).drew)
          have HSr := Lib.hid (HS2.out.ext (Ext.refl w2).drew)
          obtain ⟨q0, q1, qf⟩ := HW2.out.cells
          go_wp2
          clear q0 q1 qf
          generalize hdr : w2.drew = wd at *
          obtain ⟨At, ct, rfl, _, _⟩ := HMr.out.rests.slice
          have HEK : ∀ bb W, EPh (fun k => (Value.slice At RS.length ct).ownBlock = some k) false wd bb W → Hid (Kp (fun k => (Value.slice At RS.length ct).ownBlock = some k) wd W) := fun bb W h => Lib.hid (ePh_kp h)
          have hTl : ∀ k, (Value.slice At RS.length ct).ownBlock = some k → k < wd.heap.size := fun k hk => HMr.out.lt k (.inr (.inr hk))
          have HTl := Lib.hid hTl
          have HNk : ∀ W, Kp (fun k => (Value.slice At RS.length ct).ownBlock = some k) wd W → Hid (NameV W (.slice As ns cs) (x :: rem)) := fun W hK => Lib.hid (by
            have h1 := HN.out W (HSr.out.1.trans' hK (fun i hi => HSr.out.2 i (.inr (.inr hi))))
            obtain ⟨v', hr, hv⟩ := cut_l elem23 size23 h1 (k : Int) (by omega) (by omega)
            have hr' := (hr W).symm.trans (hsl W)
            injection hr' with hr'
            rw [Int.toNat_natCast, HDr.out] at hv
            rw [← hr']; exact hv)
          have HNk := Lib.hid HNk
          have HEK := Lib.hid HEK
          clear hTl
          refine wp_region_posts3 17 (fun _ => []) (E := EPh (fun k => (Value.slice At RS.length ct).ownBlock = some k)) (fun a => Ext.refl a) (ePh_trans _) 18 (nmPs q (.slice Av B.length cv) (.slice At RS.length ct) (.slice (some ⟨b1, o1, none⟩) n.length cn) (.slice As ns cs) k B.length (x :: rem) RS wd) (fun _ _ => False) (by decide) (by decide) (nmPs_mono _ _ _ _ _ _ _ _ _ _ HTl.out) (nmPs_same _ _ _ _ _ _ _ _ _ _) (by kernel_rfl) (by kernel_rfl) (fun _ _ _ _ _ h => h.elim) ?_ ?_
          · simp (config := { maxSteps := 10000000 }) only [List.take, Obls3, fullA, Act.put, List.setIfInBounds_toArray, List.set_cons_zero, List.set_cons_succ, Nat.zero_add, Nat.reduceAdd]
            rw [hdr]
            refine ⟨?_, ?_, ?_, ?_, ?_, ?_, ?_, ?_, ?_, ?_, ?_, ?_, ?_, ?_, ?_, ?_, ?_, ?_, trivial⟩
            all_goals intro vs W bb hE hb hd
            all_goals have HKW := HEK.out bb W hE
            all_goals have HE := Lib.hid hE
            all_goals clear hE
            · clear hd
              go_wp2
              exact ⟨rfl, (by first | exact ePh_same (Ext.refl _) | exact ePh_or (Ext.refl _) (by decide)), rfl⟩
            · clear hd
              go_wp2
              exact ⟨rfl, (by first | exact ePh_same (Ext.refl _) | exact ePh_or (Ext.refl _) (by decide)), rfl⟩
            · have e1 : vs 1 = .pointer (some ⟨q, 0, none⟩) := hd 1 (.inl (by decide))
              clear hd
              rw [e1]
              go_wp2
              exact ⟨rfl, (by first | exact ePh_same (Ext.refl _) | exact ePh_or (Ext.refl _) (by decide)), rfl⟩
            · have e2 : vs 2 = .pointer (some ⟨q, 0, none⟩) := hd 2 (.inl (by decide))
              clear hd
              rw [e2]
              go_wp2
              exact ⟨rfl, (by first | exact ePh_same (Ext.refl _) | exact ePh_or (Ext.refl _) (by decide)), rfl⟩
            · have e3 : vs 3 = .pointer (some ⟨q, 1, none⟩) := hd 3 (.inl (by decide))
              clear hd
              rw [e3]
              have c1 := (mr_boxk HMr.out HKW.out).2.1
              go_wp2
              exact ⟨rfl, (by first | exact ePh_same (Ext.refl _) | exact ePh_or (Ext.refl _) (by decide)), rfl⟩
            · clear hd
              go_wp2
              exact ⟨rfl, (by first | exact ePh_same (Ext.refl _) | exact ePh_or (Ext.refl _) (by decide)), rfl⟩
            · have e5 : vs 5 = .pointer (some ⟨q, 0, none⟩) := hd 5 (.inl (by decide))
              clear hd
              rw [e5]
              go_wp2
              exact ⟨rfl, (by first | exact ePh_same (Ext.refl _) | exact ePh_or (Ext.refl _) (by decide)), rfl⟩
            · have e6 : vs 6 = .pointer (some ⟨q, 0, none⟩) := hd 6 (.inl (by decide))
              clear hd
              rw [e6]
              go_wp2
              exact ⟨rfl, (by first | exact ePh_same (Ext.refl _) | exact ePh_or (Ext.refl _) (by decide)), rfl⟩
            · have e7 : vs 7 = .pointer (some ⟨q, 0, none⟩) := hd 7 (.inl (by decide))
              clear hd
              rw [e7]
              have c0 := (mr_boxk HMr.out HKW.out).1
              go_wp2
              exact ⟨rfl, (by first | exact ePh_same (Ext.refl _) | exact ePh_or (Ext.refl _) (by decide)), rfl⟩
            · have e8 : vs 8 = .slice Av B.length cv := hd 8 (.inl (by decide))
              clear hd
              rw [e8]
              go_wp2
              exact ⟨rfl, (by first | exact ePh_same (Ext.refl _) | exact ePh_or (Ext.refl _) (by decide)), rfl⟩
            · clear hd
              go_wp2
              exact ⟨rfl, (by first | exact ePh_same ((Ext.refl _).alloc _) | exact ePh_or ((Ext.refl _).alloc _) (by decide)), _, rfl⟩
            · clear hd
              go_wp2
              exact ⟨rfl, (by first | exact ePh_same (Ext.refl _) | exact ePh_or (Ext.refl _) (by decide)), rfl⟩
            · clear hd
              go_wp2
              exact ⟨rfl, (by first | exact ePh_same (Ext.refl _) | exact ePh_or (Ext.refl _) (by decide)), rfl⟩
            · have e11 : vs 11 = .slice (some ⟨b1, o1, none⟩) n.length cn := hd 11 (.inl (by decide))
              have e12 : vs 12 = .int .i64 (k : Int) := hd 12 (.inl (by decide))
              clear hd
              rw [e11, e12]
              go_wp2
              exact ⟨rfl, (by first | exact ePh_same (Ext.refl _) | exact ePh_or (Ext.refl _) (by decide)), rfl⟩
            · obtain ⟨A, e10⟩ : isE (vs 10) := hd 10 (.inl (by decide))
              have e13 : vs 13 = .slice As ns cs := hd 13 (.inl (by decide))
              clear hd
              rw [e10, e13]
              have HY := HNk.out W HKW.out
              go_wp2_with (at_builtin; refine wpList_app0 Value.string rfl (.tmp 44) (.tmp 47) 23 9 (.string ⟨#[]⟩) 16 rfl Try.underlying23 (by kernel_rfl) rfl (by decide) A (x :: rem) (.slice As ns cs) rfl rfl (fun _ => rfl) HY.out HL1.out ?_; intro v9 w9 hN hE9)
              exact ⟨rfl, (by first | exact ePh_same hE9 | exact ePh_or hE9 (by decide)), hN.mono (Nat.zero_le _)⟩
            · have e9 : vs 9 = .int .i64 (B.length : Int) := hd 9 (.inl (by decide))
              have h14 : NewS Value.string 9 W 0 (vs 14) (x :: rem) := hd 14 (.inl (by decide))
              clear hd
              obtain ⟨A14, n14, c14, e14⟩ := h14.slice
              rw [e14] at h14
              rw [e9, e14]
              have H14 := Lib.hid h14
              clear h14
              go_wp2
              exact ⟨rfl, (by first | exact ePh_same (Ext.refl _) | exact ePh_or (Ext.refl _) (by decide)), _, rfl, H14.out⟩
            · obtain ⟨v, e15, h15⟩ : ∃ v, vs 15 = .agg #[.int .i64 (B.length : Int), v] ∧ NewS Value.string 9 W 0 v (x :: rem) := hd 15 (.inl (by decide))
              clear hd
              obtain ⟨A14, n14, c14, rfl⟩ := h15.slice
              rw [e15]
              have H14 := Lib.hid h15
              clear h15
              go_wp2
              exact ⟨rfl, (by first | exact ePh_same ((Ext.refl _).alloc _) | exact ePh_or ((Ext.refl _).alloc _) (by decide)), _, _, rfl, heap_alloc_new W _, H14.out.ext ((Ext.refl _).alloc _), HKW.out.size⟩
            · have e4 : vs 4 = .slice At RS.length ct := hd 4 (.inl (by decide))
              obtain ⟨g, v, e16, hg, h16n, hge⟩ : ∃ g v, vs 16 = .slice (some ⟨g, 0, none⟩) 1 1 ∧ W.heap[g]? = some (.cells #[.int .i64 (B.length : Int), v] 144 (0, 0)) ∧ NewS Value.string 9 W 0 v (x :: rem) ∧ wd.heap.size ≤ g := hd 16 (.inl (by decide))
              clear hd
              have hbb : bb = false := by first | exact hb rfl | exact hb trivial
              subst hbb
              have HRs := Lib.hid ((HMr.out.ext HE.out).rests)
              have HNS := Lib.hid (mr_noT (HMr.out.ext HE.out))
              obtain ⟨A14, n14, c14, rfl⟩ := h16n.slice
              have H14 := Lib.hid h16n
              have HG16 := Lib.hid hg
              clear h16n hg
              rw [e4, e16]
              clear e4 e16
              go_wp2_with (at_builtin; refine wpList_appH RestR 0 rfl (.tmp 38) (.tmp 50) 74 144 (.agg #[.int .i64 0, .slice none 0 0]) 2 32 rfl Try.underlying74 rest_info rfl (by decide) (by decide) restR_keeps (.slice At RS.length ct) RS (B.length, x :: rem) #[.int .i64 (B.length : Int), .slice A14 n14 c14] rfl g rfl rfl HG16.out (by intro u hu; simp at hu; rcases hu with rfl | rfl <;> rfl) ⟨_, rfl, H14.out⟩ HRs.out (Nat.zero_le _) HL2.out ?_; intro v5 w5 hO5 hg5 hat5)
              exact ⟨rfl, (show EPh _ false W true w5 from ⟨HNS.out, (Kp.refl _ _).grown hg5 (fun k hk => .inl hk)⟩), hO5, fun k hk => (hat5 k hk).imp id (fun h => Nat.le_trans HKW.out.size h)⟩
          · intro vs W hE hP
            have e0 : vs 0 = .pointer (some ⟨q, 0, none⟩) := hP 0 (by decide)
            have h17 : OwnM RestR 144 2 W 0 (vs 17) (RS ++ [(B.length, x :: rem)]) ∧ ∀ k, (vs 17).ownBlock = some k → (Value.slice At RS.length ct).ownBlock = some k ∨ wd.heap.size ≤ k := hP 17 (by decide)
            clear hP
            rw [hdr] at hE
            have HKW := HEK.out true W hE
            clear hE
            simp (config := { maxSteps := 10000000 }) only [List.drop, List.take, fullA, Act.put, List.setIfInBounds_toArray, List.set_cons_zero, List.set_cons_succ, Nat.zero_add, Nat.reduceAdd]
            obtain ⟨h17, hat⟩ := h17
            obtain ⟨A5, c5, e17, _, _⟩ := h17.slice
            rw [e17] at h17 hat
            rw [e0, e17]
            clear e0 e17
            generalize (RS ++ [(B.length, x :: rem)]).length = n5 at *
            obtain ⟨u5, t5, hM5, hS5⟩ := mr_note2 HMr.out h17 HKW.out hat
            have HMN := Lib.hid hM5
            have HSN := Lib.hid (HSr.out.trans hS5)
            clear hM5 hS5 h17 hat
            obtain ⟨d0, d1, df⟩ := mr_boxk HMr.out HKW.out
            obtain ⟨_, _, c3, e3, _, _, hc3⟩ := (HN.out (W.setCell ⟨q, 1, none⟩ (.slice A5 n5 c5)) HSN.out.1).opens (by omega)
            injection e3 with e3 e5 e6
            injection e3 with e3
            injection e3 with e3 e7 _
            subst e3 e7
            have hcxN := hc3 k _ HX.out
            clear hc3 e5 e6
            go_wp2_with fail
            clear hcxN d0 d1 df
            refine (mw_Num q u5 t5 (x.size : Int) 1 B (RS ++ [(B.length, x :: rem)]) (W.setCell ⟨q, 1, none⟩ (.slice A5 n5 c5)) HMN.out (by have := HBn.out; omega) (by have := HXs.out; omega)).mono ?_
            rintro e w6 ⟨rfl, u6, t6, hW6, hs6⟩
            rw [putN_app] at hW6 hs6
            have HW6 := Lib.hid hW6
            have HS6 := Lib.hid (HSN.out.trans hs6)
            clear hW6 hs6
            obtain ⟨_, _, c3, e3, _, _, hc3⟩ := (HN.out w6 HS6.out.1).opens (by omega)
            injection e3 with e3 e5 e6
            injection e3 with e3
            injection e3 with e3 e7 _
            subst e3 e7
            have hcxN := hc3 k _ HX.out
            clear hc3 e5 e6
            have kb := fun w => Lib.run_convert_string_bytes (P := Try.prog) w 9 22 5 x Try.underlying9 Try.underlying22 Try.underlying5
            have hxs := HXs.out
            have hcm := grownCap_le_maxLen w6 x.size 0 5 (by simp [maxLen]; omega)
            have hcg := grownCap_ge w6 x.size 0 5
            have HY := Lib.hid ((blk_bytes w6 x).fl x.size (grownCap w6 x.size 0 5) (bs_length x) hcg (by simpa [maxLen] using hcm))
            have HE7 := Lib.hid (ext_bytes w6 x)
            clear hcm hcg
            go_wp2_with fail
            generalize Lib.bytesWorld w6 5 x = w7 at *
            generalize grownCap w6 x.size 0 5 = cg at *
            refine (mw_Raw q u6 t6 _ _ (bs x) (RS ++ [(B.length, x :: rem)]) w7 (HW6.out.ext HE7.out) HY.out (by have := HBn.out; have := HLn.out; rw [List.length_append, bs_length]; omega)).mono ?_
            rintro e w8 ⟨rfl, u8, t8, hW8, hs8⟩
            have HW8 := Lib.hid hW8
            have HS8 := Lib.hid ((HS6.out.ext HE7.out).trans hs8)
            clear hW8 hs8
            go_wp2
            go_roundw
            case rel => exact ⟨k + 1, u8, t8, _, RS ++ [(B.length, x :: rem)], by omega, by go_num, HW8.out, HS8.out, Lib.hid (by rw [HRem.out, findR_note h16']; exact HM.out.1.symm.trans HBf.out), Lib.hid (by rw [HRem.out, findR_note h16']; exact HM.out.2.symm.trans HRf.out), HSm.out.app h16', by have := HRl2.out; simp; omega, by rw [List.length_append, List.length_append, HLn.out, bs_length, HRem.out]; have := HBd.out; have := HNs.out; omega⟩
            case measure => simp [intOf]; omega
        · rw [note_same (.inr (by omega))] at HM
          have HMN := Lib.hid HW2.out
          have HSN := Lib.hid HS2.out
          obtain ⟨q0, q1, qf⟩ := HW2.out.cells
          obtain ⟨_, _, c3, e3, _, _, hc3⟩ := (HN.out w2 HSN.out.1).opens (by omega)
          injection e3 with e3 e5 e6
          injection e3 with e3
          injection e3 with e3 e7 _
          subst e3 e7
          have hcxN := hc3 k _ HX.out
          clear hc3 e5 e6
          go_wp2_with fail
          clear hcxN q0 q1 qf
          refine (mw_Num q _ tc (x.size : Int) 1 B (RS) w2 HMN.out (by have := HBn.out; omega) (by have := HXs.out; omega)).mono ?_
          rintro e w6 ⟨rfl, u6, t6, hW6, hs6⟩
          rw [putN_app] at hW6 hs6
          have HW6 := Lib.hid hW6
          have HS6 := Lib.hid (HSN.out.trans hs6)
          clear hW6 hs6
          obtain ⟨_, _, c3, e3, _, _, hc3⟩ := (HN.out w6 HS6.out.1).opens (by omega)
          injection e3 with e3 e5 e6
          injection e3 with e3
          injection e3 with e3 e7 _
          subst e3 e7
          have hcxN := hc3 k _ HX.out
          clear hc3 e5 e6
          have kb := fun w => Lib.run_convert_string_bytes (P := Try.prog) w 9 22 5 x Try.underlying9 Try.underlying22 Try.underlying5
          have hxs := HXs.out
          have hcm := grownCap_le_maxLen w6 x.size 0 5 (by simp [maxLen]; omega)
          have hcg := grownCap_ge w6 x.size 0 5
          have HY := Lib.hid ((blk_bytes w6 x).fl x.size (grownCap w6 x.size 0 5) (bs_length x) hcg (by simpa [maxLen] using hcm))
          have HE7 := Lib.hid (ext_bytes w6 x)
          clear hcm hcg
          go_wp2_with fail
          generalize Lib.bytesWorld w6 5 x = w7 at *
          generalize grownCap w6 x.size 0 5 = cg at *
          refine (mw_Raw q u6 t6 _ _ (bs x) (RS) w7 (HW6.out.ext HE7.out) HY.out (by have := HBn.out; have := HLn.out; rw [List.length_append, bs_length]; omega)).mono ?_
          rintro e w8 ⟨rfl, u8, t8, hW8, hs8⟩
          have HW8 := Lib.hid hW8
          have HS8 := Lib.hid ((HS6.out.ext HE7.out).trans hs8)
          clear hW8 hs8
          go_wp2
          go_roundw
          case rel => exact ⟨k + 1, u8, t8, _, RS, by omega, by go_num, HW8.out, HS8.out, Lib.hid (by rw [HRem.out, show findR RS = findR RS from rfl]; exact HM.out.1.symm.trans HBf.out), Lib.hid (by rw [HRem.out, show findR RS = findR RS from rfl]; exact HM.out.2.symm.trans HRf.out), HSm.out, by have := HRl2.out; omega, by rw [List.length_append, List.length_append, HLn.out, bs_length, HRem.out]; have := HBd.out; have := HNs.out; omega⟩
          case measure => simp [intOf]; omega
    · have HX : Hid (n.drop k = []) := Lib.hid (List.drop_of_length_le (by omega))
      rw [HX.out] at HBf HRf
      have HW2 := Lib.hid hW
      have HS2 := Lib.hid hS
      clear hW hS
      go_wp2_with fail
      refine (mw_Num q uc tc 0 1 B RS wr HW2.out (by have := HBn.out; omega) (by omega)).mono ?_
      rintro e w3 ⟨rfl, hM⟩
      have HM3 := Lib.hid hM
      clear hM
      go_wp2
      refine bodyPost_end (results_none (by kernel_rfl) _ _ _) rfl ?_
      exact ⟨rfl, RS, by rw [← HRf.out, name_end.2], HSm.out, by have := HRl2.out; omega, Mrote.trans HS2.out (by rw [← HBf.out, name_end.1, ← putN_app]; exact HM3.out)⟩
end Go.Proofs.Ytfnelkcllaaebaa
end
