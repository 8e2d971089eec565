/- Parts of one proof, joined: AppS, MsgR, MsgN. Conditions: those that each theorem states. -/
import Derived.Test.YtfnelkcllaaebaaEB17
import Derived.Test.YtfnelkcllaaebaaEB28
import Derived.Test.YtfnelkcllaaebaaEB27
import Derived.Test.YtfnelkcllaaebaaEB26
section
/- append of many structs to a row of the call's own. No condition. -/
open Go.RowKit
set_option linter.unusedVariables false
set_option linter.unusedSimpArgs false
namespace Go.Proofs.Ytfnelkcllaaebaa
theorem flat_split {α : Type} (sz : Nat) (hsz : 0 < sz) : ∀ (css : List (List α)) (i : Nat) (u : α), (∀ c ∈ css, c.length = sz) → css.flatten[i]? = some u → ∃ cs, css[i / sz]? = some cs ∧ cs[i % sz]? = some u := by
  intro css
  induction css with
  | nil => intro i u _ h; simp at h
  | cons c css ih =>
    intro i u hall h
    have hc := hall c (by simp)
    rw [List.flatten_cons] at h
    rcases Nat.lt_or_ge i sz with h1 | h1
    · rw [List.getElem?_append_left (by omega)] at h
      exact ⟨c, by rw [Nat.div_eq_of_lt h1]; rfl, by rw [Nat.mod_eq_of_lt h1]; exact h⟩
    · rw [List.getElem?_append_right (by omega), hc] at h
      obtain ⟨cs, h2, h3⟩ := ih (i - sz) u (fun c hc => hall c (by simp [hc])) h
      refine ⟨cs, ?_, ?_⟩
      · rw [show i / sz = (i - sz) / sz + 1 from by rw [← Nat.add_div_right _ hsz]; congr 1; omega]
        simpa using h2
      · rw [show i % sz = (i - sz) % sz from by rw [Nat.mod_eq_sub_mod h1]]
        exact h3
theorem css_of {α : Type} : ∀ (ys : List α) (P : Nat → List Value → α → Prop), (∀ j x, ys[j]? = some x → ∃ cs, P j cs x) → ∃ css : List (List Value), css.length = ys.length ∧ ∀ j cs x, css[j]? = some cs → ys[j]? = some x → P j cs x
  | [], P, _ => ⟨[], rfl, by intro j cs x h; simp at h⟩
  | y :: ys, P, h => by
    obtain ⟨c0, h0⟩ := h 0 y rfl
    obtain ⟨css, h1, h2⟩ := css_of ys (fun j => P (j + 1)) (fun j x hx => h (j + 1) x (by simpa using hx))
    refine ⟨c0 :: css, by simp [h1], ?_⟩
    intro j cs x hc hx
    cases j with
    | zero => simp at hc hx; subst hc hx; exact h0
    | succ j => exact h2 j cs x (by simpa using hc) (by simpa using hx)
/-- An empty literal. -/
theorem OwnM.lit0 {α : Type} (R : World → List Value → α → Prop) (e : TypeId) (sz : Nat) (W : World) (base : Nat) (hb : base ≤ W.heap.size) : OwnM R e sz (W.alloc (.cells #[] e)) base (.slice (some ⟨W.heap.size, 0, none⟩) 0 0) [] :=
  ⟨[], ⟨by simp, .inr ⟨W.heap.size, 0, #[], rfl, hb, heap_alloc_new W _, Nat.le_refl _, by decide, by simp, by simp⟩⟩, rfl, by simp⟩
section
variable {P : Program} {ops : Array Oper} {rest : List Oper} {o : Oper} {a : Act} {Q : Exit → Act → World → Prop} {K : Act → World → Prop} {E : Prop}
theorem run_appS {α : Type} (R : List Value → α → Prop) {W : World} (base : Nat) (t tr e : TypeId) (z : Value) (sz bytes : Nat)
    (ht : P.underlying t = some (.slice e)) (hinfo : (P.info? e).map (fun i => (i.zero, i.size, i.bytes)) = some (some z, sz, bytes)) (hz : z.cells.size = sz) (hsz : 0 < sz) (hb0 : 0 < bytes)
    (h1 : ∀ cs x, R cs x → ∀ u ∈ cs, u.oneCell' = true)
    (v : Value) (l ys : List α) (vy : Value) (HO : OwnM (fun _ => R) e sz W base v l) (HY : Sl (fun _ => R) sz W vy ys) (hbase : base ≤ W.heap.size) (hl : (l.length + ys.length) * bytes ≤ 140737488355328) :
    ∃ v1 w1, (Builtin.append_ #[t, t] tr #[v, vy]).run P W = .ok v1 w1 ∧ OwnM (fun _ => R) e sz w1 base v1 (l ++ ys) ∧ W.grownBy w1 v.ownBlock ∧ (∀ k, v1.ownBlock = some k → v.ownBlock = some k ∨ W.heap.size ≤ k) := by
  obtain ⟨i0, hi, hzz⟩ := Option.map_eq_some_iff.1 hinfo
  simp only [Prod.mk.injEq] at hzz
  obtain ⟨hz0, hz1, hz2⟩ := hzz
  have hlen : l.length + ys.length ≤ 140737488355328 := Nat.le_trans (Nat.le_mul_of_pos_right _ hb0) hl
  rcases Nat.eq_zero_or_pos ys.length with h0 | h0
  · obtain rfl : ys = [] := List.eq_nil_of_length_eq_zero h0
    obtain ⟨A, c, rfl, _, _, _⟩ := HY
    rw [List.append_nil]
    have HO2 := HO
    obtain ⟨css, hO, _⟩ := HO
    rcases hO.2 with ⟨rfl, hn⟩ | ⟨g, cap, cur, rfl, hbg, hgg, hnc, hcm, hcs, htk⟩
    · refine ⟨.slice none 0 0, W, ?_, HO2, World.grownBy.refl W _, fun k hk => .inl hk⟩
      cases A <;> simp [Builtin.append_, run_underlying ht, sizeOf, typeInfo, hi, Builtin.lenOf, Builtin.firstCells, loadCells, loadCellsFrom]
    · refine ⟨_, W, ?_, HO2, World.grownBy.refl W _, fun k hk => .inl hk⟩
      cases A <;> simp [Builtin.append_, run_underlying ht, sizeOf, typeInfo, hi, Builtin.lenOf, Builtin.firstCells, loadCells, loadCellsFrom, hnc, storeCells]
  · obtain ⟨b, ob, c, rfl, _, _, hcell⟩ := HY.opens h0
    obtain ⟨cys, hcy, hcp⟩ := css_of ys (fun j cs x => cs.length = sz ∧ R cs x ∧ ∀ i u, cs[i]? = some u → W.cell? ⟨b, ob + (j * sz + i), none⟩ = some u) hcell
    have hally : ∀ c ∈ cys, c.length = sz := by
      intro c hc
      obtain ⟨j', hj', rfl⟩ := List.mem_iff_getElem.1 hc
      exact (hcp j' _ _ (List.getElem?_eq_getElem hj') (List.getElem?_eq_getElem (by omega))).1
    have hfl : cys.flatten.length = ys.length * sz := by
      have key : ∀ L : List (List Value), (∀ c ∈ L, c.length = sz) → L.flatten.length = L.length * sz := by
        intro L
        induction L with
        | nil => intro _; simp
        | cons c L ih => intro h; rw [List.flatten_cons, List.length_append, ih (fun c hc => h c (by simp [hc])), h c (by simp), List.length_cons, Nat.succ_mul]; omega
      rw [key cys hally, hcy]
    obtain ⟨css, hO, hcl, hj⟩ := HO
    obtain ⟨v1, w1, hr, hown, hgr, _, hat⟩ := run_append_own_at (P := P) W base t tr e i0 z sz bytes ht hi hz0 hz1 hz2 hz hsz v l.length css.flatten hO ⟨b, ob, none⟩ ys.length c cys.flatten hfl
      (fun j u hu => by
        obtain ⟨cs, h2, h3⟩ := flat_split sz hsz cys j u hally hu
        have hlt := (List.getElem?_eq_some_iff.1 h2).1
        have := (hcp (j / sz) cs _ h2 (List.getElem?_eq_getElem (by omega))).2.2 (j % sz) u h3
        have ha : (⟨b, ob, none⟩ : Addr).add j = ⟨b, ob + j, none⟩ := by unfold Addr.add; split <;> simp_all
        rw [ha]
        have e : j / sz * sz + j % sz = j := by rw [Nat.mul_comm]; exact Nat.div_add_mod j sz
        rwa [e] at this)
      (fun u hu => by
        obtain ⟨cs, hcs, hu2⟩ := List.mem_flatten.1 hu
        obtain ⟨j', hj', rfl⟩ := List.mem_iff_getElem.1 hcs
        exact h1 _ _ (hcp j' _ _ (List.getElem?_eq_getElem hj') (List.getElem?_eq_getElem (by omega))).2.1 u hu2)
      (by simp only [maxLen]; omega) hl hbase
    refine ⟨v1, w1, hr, ⟨css ++ cys, by simpa using hown, by simp [hcl, hcy], ?_⟩, hgr, fun k hk => hat.elim (fun h => .inl (by rw [← h]; exact hk)) (fun h => .inr (by rw [h] at hk; injection hk with hk; omega))⟩
    intro j cs x hc hx
    rcases Nat.lt_or_ge j l.length with h2 | h2
    · rw [List.getElem?_append_left (by omega)] at hc hx
      exact hj j cs x hc hx
    · rw [List.getElem?_append_right (by omega)] at hc hx
      rw [hcl] at hc
      have := hcp (j - l.length) cs x hc hx
      exact ⟨this.1, this.2.1⟩
/-- At a step of a region that draws its order. -/
theorem step_appS {α : Type} (R : List Value → α → Prop) {W : World} (base : Nat) (hgd : o.guard = none) (s x : Operand) (t e : TypeId) (z : Value) (sz bytes : Nat)
    (ho : o.op = .call { callee := .builtin .append, args := #[s, x], argTypes := #[t, t] })
    (ht : P.underlying t = some (.slice e)) (hinfo : (P.info? e).map (fun i => (i.zero, i.size, i.bytes)) = some (some z, sz, bytes)) (hz : z.cells.size = sz) (hsz : 0 < sz) (hb0 : 0 < bytes)
    (h1 : ∀ cs x, R cs x → ∀ u ∈ cs, u.oneCell' = true)
    (v : Value) (l ys : List α) (vy : Value) (hs : a.eval s = v) (hx : a.eval x = vy) (HO : OwnM (fun _ => R) e sz W base v l) (HY : Sl (fun _ => R) sz W vy ys) (hbase : base ≤ W.heap.size) (hl : (l.length + ys.length) * bytes ≤ 140737488355328)
    (h : ∀ v1 w1, OwnM (fun _ => R) e sz w1 base v1 (l ++ ys) → W.grownBy w1 v.ownBlock → K (a.put o.dst v1) w1) : if Region.wanted o (yielded ops a.tmps) = true then Oper.wp P o a W K Q else E := by
  have hw : Region.wanted o (yielded ops a.tmps) = true := by simp [Region.wanted, hgd]
  rw [if_pos hw]
  obtain ⟨v1, w1, hr, hown, hgr, hat⟩ := run_appS (P := P) R base t o.type e z sz bytes ht hinfo hz hsz hb0 h1 v l ys vy HO HY hbase hl
  unfold Oper.wp execOp
  simp only [ho, resolve, invoke, builtin, Sem.run_bind, Sem.run_pure, Result.andThen_ok, List.map_toArray, List.map_cons, List.map_nil, hs, hx, hr]
  exact h v1 w1 hown hgr
end
theorem recR_one {w0 : World} : ∀ (cs : List Value) (r : Rec), RecR w0 cs r → ∀ u ∈ cs, u.oneCell' = true := by
  rintro cs r ⟨vn, v0, v1, v2, v3, v4, rfl, hn, hd⟩ u hu
  obtain ⟨_, _, rfl, _, _⟩ := hn.form
  obtain ⟨_, _, rfl, _, _⟩ := hd.by_.form
  obtain ⟨_, _, rfl, _, _⟩ := hd.ho.form
  obtain ⟨_, _, rfl, _, _⟩ := hd.ma.form
  obtain ⟨_, _, rfl, _, _⟩ := hd.nu.form
  obtain ⟨_, _, rfl, _, _⟩ := hd.tx.form
  simp only [List.mem_cons, List.not_mem_nil, or_false] at hu
  rcases hu with rfl | rfl | rfl | rfl | rfl | rfl | rfl | rfl | rfl <;> rfl
/-- What was read in an elder world. -/
theorem recs_old {w0 W : World} {v : Value} {l : List Rec} (h : RecsV w0 v l) (hE : Ext w0 W) : Sl (fun _ => RecR w0) 9 W v l := by
  obtain ⟨A, c, h1, h2, h3, h4⟩ := h
  refine ⟨A, c, h1, h2, h3, fun hl => ?_⟩
  obtain ⟨b, o, e, hc⟩ := h4 hl
  refine ⟨b, o, e, fun j x hx => ?_⟩
  obtain ⟨cs, k1, k2, k3⟩ := hc j x hx
  exact ⟨cs, k1, k2, fun i u hu => hE.cell (k3 i u hu)⟩
end Go.Proofs.Ytfnelkcllaaebaa
end
section
/- Contracts of msg.Raw of a sound message and of msg.Encode. No condition but that the message stands in memory, that its lists are not too long, and the strings' sizes. -/
open Go.RowKit
set_option linter.unusedVariables false
set_option linter.unusedSimpArgs false
namespace Go.Proofs.Ytfnelkcllaaebaa
theorem rrsF_snoc (s : List UInt8 × Rests) (pre : List Rec) {l : List Rec} {j : Nat} {x : Rec} (hx : l[j]? = some x) : rrsF s (pre ++ l.take (j + 1)) = rrStep (rrsF s (pre ++ l.take j)) x := by
  rw [List.take_add_one, hx]
  simp only [Option.toList_some, ← List.append_assoc]
  unfold rrsF
  rw [List.foldl_append]; rfl
theorem qsF_snoc (s : List UInt8 × Rests) {l : List Qst} {j : Nat} {x : Qst} (hx : l[j]? = some x) : qsF s (l.take (j + 1)) = qStep (qsF s (l.take j)) x := by
  rw [List.take_add_one, hx]
  simp only [Option.toList_some]
  unfold qsF
  rw [List.foldl_append]; rfl
theorem rrs_len (s : List UInt8 × Rests) (l : List Rec) (hg : Good s.1 s.2) (h1 : s.1.length ≤ 200000) (hs : ∀ r ∈ l, r.type ≠ 41 ∧ rrsound r = true) (hl : l.length ≤ 512) : Good (rrsF s l).1 (rrsF s l).2 ∧ (rrsF s l).1.length ≤ 40000000 := by
  obtain ⟨a, _, c⟩ := rrsF_back false l s hs hg
  exact ⟨a, by omega⟩
def pres (m : Msg) : Nat → List Rec
  | 0 => []
  | 1 => m.ans
  | 2 => m.ans ++ m.auth
  | _ => m.ans ++ m.auth ++ m.extra
theorem pres_sound {m : Msg} (h : MSound m) : ∀ r ∈ pres m 3, r.type ≠ 41 ∧ rrsound r = true := by
  intro r hr
  simp only [pres, List.mem_append] at hr
  rcases hr with (hr | hr) | hr
  · exact h.ans r hr
  · exact h.auth r hr
  · exact h.extra r hr
theorem qs_len (s : List UInt8 × Rests) (l : List Qst) (hg : Good s.1 s.2) (h1 : s.1.length ≤ 12) (hs : ∀ q ∈ l, qsound q = true) (hl : l.length ≤ 512) : Good (qsF s l).1 (qsF s l).2 ∧ (qsF s l).1.length ≤ 140000 := by
  obtain ⟨a, _, c⟩ := qsF_back l s hs hg
  exact ⟨a, by omega⟩
/-- The six numbers ahead. -/
def numsL (m : Msg) : List Int := [m.id, flagsN m, m.qs.length, m.ans.length, m.auth.length, (m.extra.length : Int) + bitN m.edns 1]
theorem head_nums (m : Msg) : headB m = numsB 2 (numsL m) := by simp [headB, numsB, numsL]
theorem WInv.keep {w0 : World} {p mp : Nat} {v : Value} {N N' : Nat} {b b' : List UInt8} {f f' : Rests} {W W' : World} {s : Nat} {o : Obj} (h : WInv w0 p mp v N b f W) (hW : Wrote p mp v N' b' f' W W') (hs : W.heap[s]? = some o) (hn : ¬ Sof p mp v s) : ∃ v', WInv w0 p mp v' N' b' f' W' ∧ W'.heap[s]? = some o ∧ ¬ Sof p mp v' s := by
  have hlt := (Array.getElem?_eq_some_iff.1 hs).1
  obtain ⟨v', hw, hst⟩ := hW
  refine ⟨v', ⟨hw, ext_kp h.ext hst.1 h.sof, fun j hj => ?_⟩, hst.1.heap hs hn, fun hs2 => ?_⟩
  · rcases hst.2 j hj with h1 | h1
    · exact h.sof j h1
    · exact Nat.le_trans h.ext.size h1
  · rcases hst.2 s hs2 with h1 | h1
    · exact hn h1
    · omega
set_option maxRecDepth 100000 in
set_option maxHeartbeats 2000000 in
/-- msg.Raw of a sound message. -/
theorem msg_Raw (m : Msg) (vq va vu ve : Value) (w : World) (h : MsgC w vq va vu ve m) (hf : MFit m) (hs : MSound m) :
    Calls Try.prog 97 #[.agg #[.int .i64 m.id, .bool m.resp, .int .i64 m.op, .bool m.aa, .bool m.tc, .bool m.rd, .bool m.ra, .int .i64 m.rc, vq, va, vu, ve, .bool m.edns, .int .i64 m.size]] w (NewL vByte 5 w (mraw m)) := by
  have H := Lib.hid h
  have HF := Lib.hid hf
  have HS := Lib.hid hs
  have hall := hs.all
  unfold Msg.all at hall
  have HHd := Lib.hid (headB_len hs)
  have HFl := Lib.hid (flags_bound hs)
  have HId := Lib.hid hs.id
  have hid := fits_bound _ _ hs.id
  clear h hf
  obtain ⟨Aq, kq, rfl, _, _⟩ := H.out.qs.form
  obtain ⟨Aa, ka, rfl, _, _⟩ := H.out.ans.form
  obtain ⟨Au, ku, rfl, _, _⟩ := H.out.auth.form
  obtain ⟨Ae, ke, rfl, _, _⟩ := H.out.extra.form
  have HE1 := Lib.hid ((Ext.refl w).alloc (.cells #[.int .i64 m.id, .bool m.resp, .int .i64 m.op, .bool m.aa, .bool m.tc, .bool m.rd, .bool m.ra, .int .i64 m.rc, .slice Aq m.qs.length kq, .slice Aa m.ans.length ka, .slice Au m.auth.length ku, .slice Ae m.extra.length ke, .bool m.edns, .int .i64 m.size] 39))
  have HB1 : Hid (BoxM (w.alloc (.cells #[.int .i64 m.id, .bool m.resp, .int .i64 m.op, .bool m.aa, .bool m.tc, .bool m.rd, .bool m.ra, .int .i64 m.rc, .slice Aq m.qs.length kq, .slice Aa m.ans.length ka, .slice Au m.auth.length ku, .slice Ae m.extra.length ke, .bool m.edns, .int .i64 m.size] 39)) w.heap.size m _ _ _ _) := Lib.hid (heap_alloc_new w _)
  have hop := hs.op
  have hrc := hs.rc
  have HOp := Lib.hid hop
  have HRc := Lib.hid hrc
  clear hs hop hrc hid
  go_enter Try.func97, Try.ntmps97
  go_wp2_with fail
  generalize w.alloc (.cells #[.int .i64 m.id, .bool m.resp, .int .i64 m.op, .bool m.aa, .bool m.tc, .bool m.rd, .bool m.ra, .int .i64 m.rc, .slice Aq m.qs.length kq, .slice Aa m.ans.length ka, .slice Au m.auth.length ku, .slice Ae m.extra.length ke, .bool m.edns, .int .i64 m.size] 39) = w1 at *
  generalize w.heap.size = g at *
  refine (wname_New w1).mono ?_
  rintro e w2 ⟨rfl, hW2, hE2⟩
  have HE2 := Lib.hid (HE1.out.trans hE2)
  have HB := Lib.hid (HB1.out.ext hE2)
  have HI2 := Lib.hid (WInv.start hW2 hE2)
  clear hE2 hW2
  generalize w1.heap.size + 1 = p at *
  generalize w1.heap.size = mp at *
  have HX : Hid (∃ ex : Int, (m.edns = true ∧ ex = m.extra.length + 1 ∨ m.edns = false ∧ ex = m.extra.length)) := Lib.hid (by cases m.edns with | true => exact ⟨_, .inl ⟨rfl, rfl⟩⟩ | false => exact ⟨_, .inr ⟨rfl, rfl⟩⟩)
  have HFlg := Lib.hid (fun W (hB : BoxM W g m _ _ _ _) => msg_flags m g (.slice Aq m.qs.length kq) (.slice Aa m.ans.length ka) (.slice Au m.auth.length ku) (.slice Ae m.extra.length ke) W hB HOp.out HRc.out)
  obtain ⟨c0, c1, c2, c3, c4, c5, c6, c7, c8, c9, c10, c11, c12, c13⟩ := HB.out.cells
  cases hed : m.edns with
  | false =>
    rw [hed] at c12
    go_wp2
    have HK : Hid (∀ W, Ext w2 W → W.cell? ⟨g, 0, none⟩ = some (.int .i64 m.id) ∧ W.cell? ⟨g, 8, none⟩ = some (.slice Aq m.qs.length kq) ∧ W.cell? ⟨g, 9, none⟩ = some (.slice Aa m.ans.length ka) ∧ W.cell? ⟨g, 10, none⟩ = some (.slice Au m.auth.length ku)) := Lib.hid (fun W hE => by obtain ⟨c0, c1, c2, c3, c4, c5, c6, c7, c8, c9, c10, c11, c12, c13⟩ := (HB.out.ext hE).cells; exact ⟨c0, c8, c9, c10⟩)
    go_region_held3 (fun W => W.cell? ⟨g, 0, none⟩ = some (.int .i64 m.id) ∧ W.cell? ⟨g, 8, none⟩ = some (.slice Aq m.qs.length kq) ∧ W.cell? ⟨g, 9, none⟩ = some (.slice Aa m.ans.length ka) ∧ W.cell? ⟨g, 10, none⟩ = some (.slice Au m.auth.length ku))
      (first | go_keep | exact HK.out _ HE5.out | exact HK.out _ (HE5.out.alloc _))
      (first | (go_at_call 143; refine (HFlg.out w2.drew (HB.out.ext (Ext.refl w2).drew)).mono ?_; rintro e w5 ⟨rfl, hE5⟩; have HE5 := Lib.hid ((Ext.refl w2).drew.trans hE5); clear hE5))
    clear c0 c1 c2 c3 c4 c5 c6 c7 c8 c9 c10 c11 c12 c13
    have HI5 := Lib.hid (HI2.out.to_ext (HE5.out.alloc (.cells #[.int .i64 m.id, .int .i64 (flagsN m), .int .i64 m.qs.length, .int .i64 m.ans.length, .int .i64 m.auth.length, .int .i64 (m.extra.length : Int)] 3)))
    have HR5 := Lib.hid (heap_alloc_new w5 (.cells #[.int .i64 m.id, .int .i64 (flagsN m), .int .i64 m.qs.length, .int .i64 m.ans.length, .int .i64 m.auth.length, .int .i64 (m.extra.length : Int)] 3))
    have HN5 : Hid (¬ Sof p mp (.slice none 0 0) w5.heap.size) := Lib.hid (fun h => by have := (HI2.out.to_ext HE5.out).wr.lt _ h; omega)
    have HV5 : Hid ([m.id, flagsN m, m.qs.length, m.ans.length, m.auth.length, (m.extra.length : Int)] = numsL m) := Lib.hid (by unfold numsL bitN; rw [hed]; simp)
    have HRow : Hid ((w5.alloc (.cells #[.int .i64 m.id, .int .i64 (flagsN m), .int .i64 m.qs.length, .int .i64 m.ans.length, .int .i64 m.auth.length, .int .i64 (m.extra.length : Int)] 3)).heap[w5.heap.size]? = some (.cells ((numsL m).map vInt).toArray 3 (0, 0))) := Lib.hid (by rw [← HV5.out]; exact HR5.out)
    clear HR5 HV5
    generalize w5.alloc (.cells #[.int .i64 m.id, .int .i64 (flagsN m), .int .i64 m.qs.length, .int .i64 m.ans.length, .int .i64 m.auth.length, .int .i64 (m.extra.length : Int)] 3) = w6 at *
    generalize w5.heap.size = s5 at *
    have HNl : Hid ((numsL m).length = 6) := Lib.hid rfl
    go_wp2
    go_loopw [36] (fun i wr => ∃ (k : Nat) (vc : Value), k ≤ 6 ∧ i = .int .i64 k ∧ WInv w1 p mp vc 0 (numsB 2 ((numsL m).take k)) (fun _ => none) wr ∧ (wr.heap[s5]? = some (.cells ((numsL m).map vInt).toArray 3 (0, 0)) ∧ ¬ Sof p mp vc s5)) (fun i _ => 6 - (intOf i).toNat)
    case atStart => exact ⟨0, _, by omega, rfl, HI5.out, HRow.out, HN5.out⟩
    case round =>
      obtain ⟨k, vc, hk, rfl, hI, hR⟩ := hrel
      have HI := Lib.hid hI
      have HR := Lib.hid hR
      clear hI hR
      by_cases hlt : k < 6
      · have hx : (numsL m)[k]? = some (numsL m)[k] := List.getElem?_eq_getElem (by rw [HNl.out]; exact hlt)
        have hc : wr.cell? ⟨s5, k, none⟩ = some (.int .i64 (numsL m)[k]) := by rw [row_cells HR.out.1]; simp [hx]
        have HPS := Lib.hid (numsB_snoc 2 hx)
        have HLn := Lib.hid (numsB_len 2 ((numsL m).take k))
        have HLt : Hid (((numsL m).take k).length ≤ 6) := Lib.hid (by rw [List.length_take]; omega)
        clear hx
        generalize (numsL m)[k] = x at *
        go_wp2_with fail
        clear hc
        refine (wname_Num p mp vc x 2 0 _ _ wr HI.out.wr (by have := HLn.out; have := HLt.out; omega)).mono ?_
        rintro e w7 ⟨rfl, hw7⟩
        obtain ⟨v7, hI7, hk7⟩ := HI.out.keep hw7 HR.out.1 HR.out.2
        have HI7 := Lib.hid hI7
        have HR7 := Lib.hid hk7
        clear hw7 hI7 hk7
        go_wp2
        go_roundw
        case rel => exact ⟨k + 1, v7, by omega, by go_num, by rw [HPS.out]; exact HI7.out, HR7.out⟩
        case measure => simp [intOf]; omega
      · rw [List.take_of_length_le (by rw [HNl.out]; omega), ← head_nums] at HI
        have HI0 := Lib.hid HI.out
        clear HI HR HRow HI5 HN5
        have HHl := Lib.hid HHd.out
        have hql : m.qs.length ≤ 512 := by omega
        have HBx := Lib.hid (HB1.out.ext HI0.out.ext)
        obtain ⟨c0, c1, c2, c3, c4, c5, c6, c7, c8, c9, c10, c11, c12, c13⟩ := HBx.out.cells
        go_wp2
        clear c0 c1 c2 c3 c4 c5 c6 c7 c8 c9 c10 c11 c12 c13
        go_loopw [47, 8] (fun i _ wr => ∃ (j : Nat) (vc : Value) (Nm : Nat), j ≤ m.qs.length ∧ i = .int .i64 j ∧ WInv w1 p mp vc Nm (qsF (headB m, fun _ => none) (m.qs.take j)).1 (qsF (headB m, fun _ => none) (m.qs.take j)).2 wr ∧ Nm ≤ (qsF (headB m, fun _ => none) (m.qs.take j)).1.length) (fun i _ _ => m.qs.length - (intOf i).toNat)
        case atStart => exact ⟨0, _, 0, by omega, rfl, by simpa [qsF] using HI0.out, by omega⟩
        case round =>
          obtain ⟨j, vc, Nm, hj, rfl, hI, hNm⟩ := hrel
          clear HI0
          have HI := Lib.hid hI
          have HNm := Lib.hid hNm
          clear hI hNm
          by_cases hlt : j < m.qs.length
          · obtain ⟨b, o, c1, e1, _, _, _⟩ := H.out.qs.opens (by omega)
            injection e1 with e1 e3 e4
            subst e1
            clear e3 e4
            have hx := List.getElem?_eq_getElem hlt
            obtain ⟨vn, hn, d0', d1', d2'⟩ := qs_cells H.out.qs hx
            obtain ⟨An, kn, rfl, _, _⟩ := hn.form
            have hmem := List.mem_of_getElem? hx
            have HNx := Lib.hid hn
            have HQS := Lib.hid (qsound_parts (HS.out.qs _ hmem))
            have HLn := Lib.hid (qs_len (headB m, fun _ => none) (m.qs.take j) (head_good m) (by rw [HHl.out]; omega) (fun q hq => HS.out.qs q (List.mem_of_mem_take hq)) (by have := List.length_take_le' j m.qs; omega))
            have HPS := Lib.hid (qsF_snoc (headB m, fun _ => none) hx)
            have g0 := (HE1.out.trans HI.out.ext).cell d0'
            have g1 := (HE1.out.trans HI.out.ext).cell d1'
            have g2 := (HE1.out.trans HI.out.ext).cell d2'
            clear d0' d1' d2' hn hmem hx
            generalize m.qs[j] = x at *
            generalize hss : qsF (headB m, fun _ => none) (m.qs.take j) = ss at *
            clear hss
            have HEB := Lib.hid ((Ext.refl wr).alloc (.cells #[.slice An x.name.length kn, .int .i64 x.type, .int .i64 x.cls] 46))
            have HIB := Lib.hid (HI.out.to_ext HEB.out)
            have HQb := Lib.hid (heap_alloc_new wr (.cells #[.slice An x.name.length kn, .int .i64 x.type, .int .i64 x.cls] 46))
            have HQn : Hid (¬ Sof p mp vc wr.heap.size) := Lib.hid (fun h => by have := HI.out.wr.lt _ h; omega)
            go_wp2_with fail
            clear g0 g1 g2
            refine (wname_Name p mp vc _ x.name true Nm ss.1 ss.2 _ HIB.out.wr HNm.out (Stb.of_old (fun w' hE => HNx.out.ext (HE1.out.trans hE)) HIB.out.ext HIB.out.sof) HQS.out.1 (by have := HLn.out.2; omega)).mono ?_
            rintro e w7 ⟨rfl, N7, hN7, hw7⟩
            obtain ⟨v7, hI7, hq7, hn7⟩ := HIB.out.keep hw7 HQb.out HQn.out
            have HI7 := Lib.hid hI7
            have HN7 := Lib.hid hN7
            have HQ7 := Lib.hid hq7
            have HQn7 := Lib.hid hn7
            have HGr := Lib.hid (name_grow (short := true) (b := ss.1) HQS.out.1 HI.out.wr.small)
            have x1 := row_cells HQ7.out 1
            have x2 := row_cells HQ7.out 2
            simp at x1 x2
            clear hw7 hI7 hq7 hn7 hN7 HQb HQn HIB
            generalize wr.heap.size = bq at *
            go_wp2_with fail
            clear x1 x2
            refine (wname_Num p mp v7 x.type 2 N7 _ _ w7 HI7.out.wr (by have := HGr.out; have := HLn.out.2; omega)).mono ?_
            rintro e w8 ⟨rfl, hw8⟩
            obtain ⟨v8, hI8, hq8, hn8⟩ := HI7.out.keep hw8 HQ7.out HQn7.out
            have HI8 := Lib.hid hI8
            have HQ8 := Lib.hid hq8
            have x1 := row_cells HQ8.out 1
            have x2 := row_cells HQ8.out 2
            simp at x1 x2
            clear hw8 hI8 hq8 hn8
            go_wp2_with fail
            clear x1 x2
            refine (wname_Num p mp v8 x.cls 2 N7 _ _ w8 HI8.out.wr (by have := HGr.out; have := HLn.out.2; have := putN_le x.type (size := 2) (by omega); simp at this; rw [List.length_append]; omega)).mono ?_
            rintro e w9 ⟨rfl, hw9⟩
            obtain ⟨v9, hI9⟩ := HI8.out.step hw9
            have HEq : Hid (qStep ss x = ((Wt.name x.name true).bytes ss.1 ss.2 ++ putN [] x.type 2 ++ putN [] x.cls 2, (Wt.name x.name true).rests ss.1 ss.2)) := Lib.hid (by unfold qStep; rw [qst_bytes, qst_rests, List.append_assoc])
            have HI9 := Lib.hid hI9
            clear hw9 hI9
            go_wp2
            go_roundw
            case rel => exact ⟨j + 1, v9, N7, by omega, by go_num, by rw [HPS.out, HEq.out]; exact HI9.out, by rw [HPS.out, HEq.out]; have := HN7.out; simp only [List.length_append]; omega⟩
            case measure => simp [intOf]; omega
          · rw [List.take_of_length_le (by omega)] at HI HNm
            have HL1' := Lib.hid (qs_len (headB m, fun _ => none) m.qs (head_good m) (by rw [HHl.out]; omega) HS.out.qs (by omega))
            obtain ⟨S1, hS1⟩ : ∃ S1, qsF (headB m, fun _ => none) m.qs = S1 := ⟨_, rfl⟩
            rw [hS1] at HI HNm HL1'
            have HS1 := Lib.hid hS1
            have HG1 := Lib.hid HL1'.out.1
            have HL1 : Hid (S1.1.length ≤ 200000) := Lib.hid (by have := HL1'.out.2; omega)
            clear hS1 HL1'
            go_wp2_with fail
            refine (msg_sections g wr).mono ?_
            rintro e w7 ⟨s, rfl, hE7, hs7, hS7⟩
            have HI7 := Lib.hid (HI.out.to_ext hE7)
            have HSc := Lib.hid hS7
            have HSn : Hid (¬ Sof p mp vc s) := Lib.hid (fun h => by have := HI.out.wr.lt _ h; omega)
            clear hE7 hs7 hS7
            go_wp2
            go_loopw [66, 12] (fun i _ wr => ∃ (k : Nat) (vc : Value) (Nm : Nat), k ≤ 3 ∧ i = .int .i64 k ∧ WInv w1 p mp vc Nm (rrsF S1 (pres m k)).1 (rrsF S1 (pres m k)).2 wr ∧ Nm ≤ (rrsF S1 (pres m k)).1.length ∧ (Secs wr s g ∧ ¬ Sof p mp vc s)) (fun i _ _ => 3 - (intOf i).toNat)
            case atStart => exact ⟨0, _, _, by omega, rfl, HI7.out, HNm.out, HSc.out, HSn.out⟩
            case round =>
              obtain ⟨k, vc, Nm, hk, rfl, hI, hNm, hE6⟩ := hrel
              clear HI HNm HI7 HSc HSn
              by_cases h3 : k < 3
              · obtain rfl | rfl | rfl : k = 0 ∨ k = 1 ∨ k = 2 := by omega
                · rw [show ((0 : Nat) : Int) = 0 from rfl]
                  have HBx := Lib.hid (HB1.out.ext hI.ext)
                  have HSx := Lib.hid hE6.1
                  have HI := Lib.hid hI
                  have HNm := Lib.hid hNm
                  obtain ⟨wo, rfl⟩ : ∃ wo : World, wo = wr := ⟨_, rfl⟩
                  have HE6 := Lib.hid hE6
                  clear hI hNm hE6
                  have hsl : m.ans.length ≤ 512 := by omega
                  obtain ⟨c0, c1, c2, c3, c4, c5, c6, c7, c8, c9, c10, c11, c12, c13⟩ := HBx.out.cells
                  obtain ⟨s0, s1, s2⟩ := HSx.out.cells
                  go_wp2
                  clear c0 c1 c2 c3 c4 c5 c6 c7 c8 c9 c10 c11 c12 c13
                  clear s0 s1 s2
                  go_loopw [74, 12] (fun i _ wr => ∃ (j : Nat) (vc : Value) (Nm : Nat), j ≤ m.ans.length ∧ i = .int .i64 j ∧ WInv w1 p mp vc Nm (rrsF S1 ([] ++ m.ans.take j)).1 (rrsF S1 ([] ++ m.ans.take j)).2 wr ∧ Nm ≤ (rrsF S1 ([] ++ m.ans.take j)).1.length ∧ (Secs wr s g ∧ ¬ Sof p mp vc s)) (fun i _ _ => m.ans.length - (intOf i).toNat)
                  case atStart => exact ⟨0, _, _, by omega, rfl, by simpa [pres] using HI.out, by simpa [pres] using HNm.out, HE6.out⟩
                  case round =>
                    obtain ⟨j, vc, Nm, hj, rfl, hI, hNm, hE6⟩ := hrel
                    clear HI HNm HE6
                    have HI := Lib.hid hI
                    have HNm := Lib.hid hNm
                    have HE6 := Lib.hid hE6
                    clear hI hNm hE6
                    by_cases hlt : j < m.ans.length
                    · obtain ⟨b, o, c1, e1, _, _, _⟩ := H.out.ans.opens (by omega)
                      injection e1 with e1 e3 e4
                      subst e1
                      clear e3 e4
                      have hx := List.getElem?_eq_getElem hlt
                      obtain ⟨vn, v0, v1, v2, v3, v4, hn, hd, d0', d1', d2', d3', d4', d5', d6', d7', d8'⟩ := recs_cells H.out.ans hx
                      obtain ⟨An, kn, rfl, _, _⟩ := hn.form
                      obtain ⟨A0, k0, rfl, _, _⟩ := hd.by_.form
                      obtain ⟨A1, k1, rfl, _, _⟩ := hd.ho.form
                      obtain ⟨A2, k2, rfl, _, _⟩ := hd.ma.form
                      obtain ⟨A3, k3, rfl, _, _⟩ := hd.nu.form
                      obtain ⟨A4, k4, rfl, _, _⟩ := hd.tx.form
                      have HCells := Lib.hid (And.intro d0' (And.intro d1' (And.intro d2' (And.intro d3' (And.intro d4' (And.intro d5' (And.intro d6' (And.intro d7' d8'))))))))
                      have hmem := List.mem_of_getElem? hx
                      have HRec := Lib.hid (show RecC w _ _ _ _ _ _ m.ans[j] from ⟨hn, hd⟩)
                      have HRS := Lib.hid (HS.out.ans _ hmem)
                      have HRF := Lib.hid (HF.out.ans _ hmem)
                      have HLn := Lib.hid (rrs_len S1 ([] ++ m.ans.take j) HG1.out HL1.out (by intro r hr; rcases List.mem_append.1 hr with hr | hr; simp at hr; exact HS.out.ans r (List.mem_of_mem_take hr)) (by have := List.length_take_le' j m.ans; simp only [List.length_append, List.length_nil]; omega))
                      have HPS := Lib.hid (rrsF_snoc S1 [] hx)
                      clear d0' d1' d2' d3' d4' d5' d6' d7' d8' hn hd hmem hx
                      generalize m.ans[j] = x at *
                      generalize hss : rrsF S1 ([] ++ m.ans.take j) = ss at *
                      clear hss
                      have HE3 := Lib.hid (HE1.out.trans HI.out.ext)
                      have g0 := HE3.out.cell HCells.out.1
                      have g1 := HE3.out.cell HCells.out.2.1
                      have g2 := HE3.out.cell HCells.out.2.2.1
                      have g3 := HE3.out.cell HCells.out.2.2.2.1
                      have g4 := HE3.out.cell HCells.out.2.2.2.2.1
                      have g5 := HE3.out.cell HCells.out.2.2.2.2.2.1
                      have g6 := HE3.out.cell HCells.out.2.2.2.2.2.2.1
                      have g7 := HE3.out.cell HCells.out.2.2.2.2.2.2.2.1
                      have g8 := HE3.out.cell HCells.out.2.2.2.2.2.2.2.2
                      go_wp2_with fail
                      clear g0 g1 g2 g3 g4 g5 g6 g7 g8
                      have HEB := Lib.hid ((Ext.refl wr).alloc (.cells #[.slice An x.name.length kn, .int .i64 x.type, .int .i64 x.cls, .int .i64 x.ttl, .slice A0 x.data.bytes.length k0, .slice A1 x.data.host.length k1, .slice A2 x.data.mail.length k2, .slice A3 x.data.nums.length k3, .slice A4 x.data.texts.length k4] 49))
                      have HIB := Lib.hid (HI.out.to_ext HEB.out)
                      refine (rr_Put x p mp vc _ _ _ _ _ _ Nm ss.1 ss.2 _ HIB.out.wr HNm.out HLn.out.1 (Stb.of_old (fun w' hE => HRec.out.ext (HE1.out.trans hE)) HIB.out.ext HIB.out.sof) HRF.out.1 HRF.out.2 HRS.out.2 (by have := HLn.out.2; omega)).mono ?_
                      rintro e w7 ⟨rfl, N7, hN7, hw7⟩
                      obtain ⟨v7, hI7, hk7⟩ := HIB.out.keep hw7 (HE6.out.1.ext HEB.out) HE6.out.2
                      have HI7 := Lib.hid hI7
                      have HN7 := Lib.hid hN7
                      have HE7 := Lib.hid hk7
                      clear hw7 hI7 hN7 hk7
                      go_wp2
                      go_roundw
                      case rel => exact ⟨j + 1, v7, N7, by omega, by go_num, by rw [HPS.out]; exact HI7.out, by rw [HPS.out]; exact HN7.out, HE7.out⟩
                      case measure => simp [intOf]; omega
                    · rw [List.take_of_length_le (by omega)] at HI HNm
                      go_wp2
                      go_roundw
                      case rel => exact ⟨1, vc, Nm, by omega, rfl, by simpa [pres] using HI.out, by simpa [pres] using HNm.out, HE6.out⟩
                      case measure => simp [intOf]
                · rw [show ((1 : Nat) : Int) = 1 from rfl]
                  have HBx := Lib.hid (HB1.out.ext hI.ext)
                  have HSx := Lib.hid hE6.1
                  have HI := Lib.hid hI
                  have HNm := Lib.hid hNm
                  obtain ⟨wo, rfl⟩ : ∃ wo : World, wo = wr := ⟨_, rfl⟩
                  have HE6 := Lib.hid hE6
                  clear hI hNm hE6
                  have hsl : m.auth.length ≤ 512 := by omega
                  obtain ⟨c0, c1, c2, c3, c4, c5, c6, c7, c8, c9, c10, c11, c12, c13⟩ := HBx.out.cells
                  obtain ⟨s0, s1, s2⟩ := HSx.out.cells
                  go_wp2
                  clear c0 c1 c2 c3 c4 c5 c6 c7 c8 c9 c10 c11 c12 c13
                  clear s0 s1 s2
                  go_loopw [74, 12] (fun i _ wr => ∃ (j : Nat) (vc : Value) (Nm : Nat), j ≤ m.auth.length ∧ i = .int .i64 j ∧ WInv w1 p mp vc Nm (rrsF S1 (m.ans ++ m.auth.take j)).1 (rrsF S1 (m.ans ++ m.auth.take j)).2 wr ∧ Nm ≤ (rrsF S1 (m.ans ++ m.auth.take j)).1.length ∧ (Secs wr s g ∧ ¬ Sof p mp vc s)) (fun i _ _ => m.auth.length - (intOf i).toNat)
                  case atStart => exact ⟨0, _, _, by omega, rfl, by simpa [pres] using HI.out, by simpa [pres] using HNm.out, HE6.out⟩
                  case round =>
                    obtain ⟨j, vc, Nm, hj, rfl, hI, hNm, hE6⟩ := hrel
                    clear HI HNm HE6
                    have HI := Lib.hid hI
                    have HNm := Lib.hid hNm
                    have HE6 := Lib.hid hE6
                    clear hI hNm hE6
                    by_cases hlt : j < m.auth.length
                    · obtain ⟨b, o, c1, e1, _, _, _⟩ := H.out.auth.opens (by omega)
                      injection e1 with e1 e3 e4
                      subst e1
                      clear e3 e4
                      have hx := List.getElem?_eq_getElem hlt
                      obtain ⟨vn, v0, v1, v2, v3, v4, hn, hd, d0', d1', d2', d3', d4', d5', d6', d7', d8'⟩ := recs_cells H.out.auth hx
                      obtain ⟨An, kn, rfl, _, _⟩ := hn.form
                      obtain ⟨A0, k0, rfl, _, _⟩ := hd.by_.form
                      obtain ⟨A1, k1, rfl, _, _⟩ := hd.ho.form
                      obtain ⟨A2, k2, rfl, _, _⟩ := hd.ma.form
                      obtain ⟨A3, k3, rfl, _, _⟩ := hd.nu.form
                      obtain ⟨A4, k4, rfl, _, _⟩ := hd.tx.form
                      have HCells := Lib.hid (And.intro d0' (And.intro d1' (And.intro d2' (And.intro d3' (And.intro d4' (And.intro d5' (And.intro d6' (And.intro d7' d8'))))))))
                      have hmem := List.mem_of_getElem? hx
                      have HRec := Lib.hid (show RecC w _ _ _ _ _ _ m.auth[j] from ⟨hn, hd⟩)
                      have HRS := Lib.hid (HS.out.auth _ hmem)
                      have HRF := Lib.hid (HF.out.auth _ hmem)
                      have HLn := Lib.hid (rrs_len S1 (m.ans ++ m.auth.take j) HG1.out HL1.out (by intro r hr; rcases List.mem_append.1 hr with hr | hr; exact HS.out.ans r hr; exact HS.out.auth r (List.mem_of_mem_take hr)) (by have := List.length_take_le' j m.auth; simp only [List.length_append, List.length_nil]; omega))
                      have HPS := Lib.hid (rrsF_snoc S1 m.ans hx)
                      clear d0' d1' d2' d3' d4' d5' d6' d7' d8' hn hd hmem hx
                      generalize m.auth[j] = x at *
                      generalize hss : rrsF S1 (m.ans ++ m.auth.take j) = ss at *
                      clear hss
                      have HE3 := Lib.hid (HE1.out.trans HI.out.ext)
                      have g0 := HE3.out.cell HCells.out.1
                      have g1 := HE3.out.cell HCells.out.2.1
                      have g2 := HE3.out.cell HCells.out.2.2.1
                      have g3 := HE3.out.cell HCells.out.2.2.2.1
                      have g4 := HE3.out.cell HCells.out.2.2.2.2.1
                      have g5 := HE3.out.cell HCells.out.2.2.2.2.2.1
                      have g6 := HE3.out.cell HCells.out.2.2.2.2.2.2.1
                      have g7 := HE3.out.cell HCells.out.2.2.2.2.2.2.2.1
                      have g8 := HE3.out.cell HCells.out.2.2.2.2.2.2.2.2
                      go_wp2_with fail
                      clear g0 g1 g2 g3 g4 g5 g6 g7 g8
                      have HEB := Lib.hid ((Ext.refl wr).alloc (.cells #[.slice An x.name.length kn, .int .i64 x.type, .int .i64 x.cls, .int .i64 x.ttl, .slice A0 x.data.bytes.length k0, .slice A1 x.data.host.length k1, .slice A2 x.data.mail.length k2, .slice A3 x.data.nums.length k3, .slice A4 x.data.texts.length k4] 49))
                      have HIB := Lib.hid (HI.out.to_ext HEB.out)
                      refine (rr_Put x p mp vc _ _ _ _ _ _ Nm ss.1 ss.2 _ HIB.out.wr HNm.out HLn.out.1 (Stb.of_old (fun w' hE => HRec.out.ext (HE1.out.trans hE)) HIB.out.ext HIB.out.sof) HRF.out.1 HRF.out.2 HRS.out.2 (by have := HLn.out.2; omega)).mono ?_
                      rintro e w7 ⟨rfl, N7, hN7, hw7⟩
                      obtain ⟨v7, hI7, hk7⟩ := HIB.out.keep hw7 (HE6.out.1.ext HEB.out) HE6.out.2
                      have HI7 := Lib.hid hI7
                      have HN7 := Lib.hid hN7
                      have HE7 := Lib.hid hk7
                      clear hw7 hI7 hN7 hk7
                      go_wp2
                      go_roundw
                      case rel => exact ⟨j + 1, v7, N7, by omega, by go_num, by rw [HPS.out]; exact HI7.out, by rw [HPS.out]; exact HN7.out, HE7.out⟩
                      case measure => simp [intOf]; omega
                    · rw [List.take_of_length_le (by omega)] at HI HNm
                      go_wp2
                      go_roundw
                      case rel => exact ⟨2, vc, Nm, by omega, rfl, by simpa [pres] using HI.out, by simpa [pres] using HNm.out, HE6.out⟩
                      case measure => simp [intOf]
                · rw [show ((2 : Nat) : Int) = 2 from rfl]
                  have HBx := Lib.hid (HB1.out.ext hI.ext)
                  have HSx := Lib.hid hE6.1
                  have HI := Lib.hid hI
                  have HNm := Lib.hid hNm
                  obtain ⟨wo, rfl⟩ : ∃ wo : World, wo = wr := ⟨_, rfl⟩
                  have HE6 := Lib.hid hE6
                  clear hI hNm hE6
                  have hsl : m.extra.length ≤ 512 := by omega
                  obtain ⟨c0, c1, c2, c3, c4, c5, c6, c7, c8, c9, c10, c11, c12, c13⟩ := HBx.out.cells
                  obtain ⟨s0, s1, s2⟩ := HSx.out.cells
                  go_wp2
                  clear c0 c1 c2 c3 c4 c5 c6 c7 c8 c9 c10 c11 c12 c13
                  clear s0 s1 s2
                  go_loopw [74, 12] (fun i _ wr => ∃ (j : Nat) (vc : Value) (Nm : Nat), j ≤ m.extra.length ∧ i = .int .i64 j ∧ WInv w1 p mp vc Nm (rrsF S1 ((m.ans ++ m.auth) ++ m.extra.take j)).1 (rrsF S1 ((m.ans ++ m.auth) ++ m.extra.take j)).2 wr ∧ Nm ≤ (rrsF S1 ((m.ans ++ m.auth) ++ m.extra.take j)).1.length ∧ (Secs wr s g ∧ ¬ Sof p mp vc s)) (fun i _ _ => m.extra.length - (intOf i).toNat)
                  case atStart => exact ⟨0, _, _, by omega, rfl, by simpa [pres] using HI.out, by simpa [pres] using HNm.out, HE6.out⟩
                  case round =>
                    obtain ⟨j, vc, Nm, hj, rfl, hI, hNm, hE6⟩ := hrel
                    clear HI HNm HE6
                    have HI := Lib.hid hI
                    have HNm := Lib.hid hNm
                    have HE6 := Lib.hid hE6
                    clear hI hNm hE6
                    by_cases hlt : j < m.extra.length
                    · obtain ⟨b, o, c1, e1, _, _, _⟩ := H.out.extra.opens (by omega)
                      injection e1 with e1 e3 e4
                      subst e1
                      clear e3 e4
                      have hx := List.getElem?_eq_getElem hlt
                      obtain ⟨vn, v0, v1, v2, v3, v4, hn, hd, d0', d1', d2', d3', d4', d5', d6', d7', d8'⟩ := recs_cells H.out.extra hx
                      obtain ⟨An, kn, rfl, _, _⟩ := hn.form
                      obtain ⟨A0, k0, rfl, _, _⟩ := hd.by_.form
                      obtain ⟨A1, k1, rfl, _, _⟩ := hd.ho.form
                      obtain ⟨A2, k2, rfl, _, _⟩ := hd.ma.form
                      obtain ⟨A3, k3, rfl, _, _⟩ := hd.nu.form
                      obtain ⟨A4, k4, rfl, _, _⟩ := hd.tx.form
                      have HCells := Lib.hid (And.intro d0' (And.intro d1' (And.intro d2' (And.intro d3' (And.intro d4' (And.intro d5' (And.intro d6' (And.intro d7' d8'))))))))
                      have hmem := List.mem_of_getElem? hx
                      have HRec := Lib.hid (show RecC w _ _ _ _ _ _ m.extra[j] from ⟨hn, hd⟩)
                      have HRS := Lib.hid (HS.out.extra _ hmem)
                      have HRF := Lib.hid (HF.out.extra _ hmem)
                      have HLn := Lib.hid (rrs_len S1 ((m.ans ++ m.auth) ++ m.extra.take j) HG1.out HL1.out (by intro r hr; rcases List.mem_append.1 hr with hr | hr; rcases List.mem_append.1 hr with hr | hr; exact HS.out.ans r hr; exact HS.out.auth r hr; exact HS.out.extra r (List.mem_of_mem_take hr)) (by have := List.length_take_le' j m.extra; simp only [List.length_append, List.length_nil]; omega))
                      have HPS := Lib.hid (rrsF_snoc S1 (m.ans ++ m.auth) hx)
                      clear d0' d1' d2' d3' d4' d5' d6' d7' d8' hn hd hmem hx
                      generalize m.extra[j] = x at *
                      generalize hss : rrsF S1 ((m.ans ++ m.auth) ++ m.extra.take j) = ss at *
                      clear hss
                      have HE3 := Lib.hid (HE1.out.trans HI.out.ext)
                      have g0 := HE3.out.cell HCells.out.1
                      have g1 := HE3.out.cell HCells.out.2.1
                      have g2 := HE3.out.cell HCells.out.2.2.1
                      have g3 := HE3.out.cell HCells.out.2.2.2.1
                      have g4 := HE3.out.cell HCells.out.2.2.2.2.1
                      have g5 := HE3.out.cell HCells.out.2.2.2.2.2.1
                      have g6 := HE3.out.cell HCells.out.2.2.2.2.2.2.1
                      have g7 := HE3.out.cell HCells.out.2.2.2.2.2.2.2.1
                      have g8 := HE3.out.cell HCells.out.2.2.2.2.2.2.2.2
                      go_wp2_with fail
                      clear g0 g1 g2 g3 g4 g5 g6 g7 g8
                      have HEB := Lib.hid ((Ext.refl wr).alloc (.cells #[.slice An x.name.length kn, .int .i64 x.type, .int .i64 x.cls, .int .i64 x.ttl, .slice A0 x.data.bytes.length k0, .slice A1 x.data.host.length k1, .slice A2 x.data.mail.length k2, .slice A3 x.data.nums.length k3, .slice A4 x.data.texts.length k4] 49))
                      have HIB := Lib.hid (HI.out.to_ext HEB.out)
                      refine (rr_Put x p mp vc _ _ _ _ _ _ Nm ss.1 ss.2 _ HIB.out.wr HNm.out HLn.out.1 (Stb.of_old (fun w' hE => HRec.out.ext (HE1.out.trans hE)) HIB.out.ext HIB.out.sof) HRF.out.1 HRF.out.2 HRS.out.2 (by have := HLn.out.2; omega)).mono ?_
                      rintro e w7 ⟨rfl, N7, hN7, hw7⟩
                      obtain ⟨v7, hI7, hk7⟩ := HIB.out.keep hw7 (HE6.out.1.ext HEB.out) HE6.out.2
                      have HI7 := Lib.hid hI7
                      have HN7 := Lib.hid hN7
                      have HE7 := Lib.hid hk7
                      clear hw7 hI7 hN7 hk7
                      go_wp2
                      go_roundw
                      case rel => exact ⟨j + 1, v7, N7, by omega, by go_num, by rw [HPS.out]; exact HI7.out, by rw [HPS.out]; exact HN7.out, HE7.out⟩
                      case measure => simp [intOf]; omega
                    · rw [List.take_of_length_le (by omega)] at HI HNm
                      go_wp2
                      go_roundw
                      case rel => exact ⟨3, vc, Nm, by omega, rfl, by simpa [pres] using HI.out, by simpa [pres] using HNm.out, HE6.out⟩
                      case measure => simp [intOf]
              · obtain rfl : k = 3 := by omega
                have HI := Lib.hid hI
                have HNm := Lib.hid hNm
                have HBx := Lib.hid (HB1.out.ext hI.ext)
                clear hI hNm hE6
                have HMs : Hid ((rrsF S1 (pres m 3)).1 = mraw m) := Lib.hid (by unfold mraw mstate; rw [hed, HS1.out]; rfl)
                have HLn := Lib.hid (rrs_len S1 (pres m 3) HG1.out HL1.out (pres_sound HS.out) (by simp only [pres, List.length_append]; omega))
                rw [HMs.out] at HI HLn
                obtain ⟨c0, c1, c2, c3, c4, c5, c6, c7, c8, c9, c10, c11, c12, c13⟩ := HBx.out.cells
                rw [hed] at c12
                go_wp2_with fail
                clear c0 c1 c2 c3 c4 c5 c6 c7 c8 c9 c10 c11 c12 c13
                refine (wname_Bytes p mp vc Nm _ _ wr HI.out.wr (by have := HLn.out.2; omega)).mono ?_
                rintro e w9 ⟨v9, rfl, hO9, hE9⟩
                have HO9 := Lib.hid (hO9.mono (HE1.out.trans HI.out.ext).size)
                have HE9 := Lib.hid ((HE1.out.trans HI.out.ext).trans hE9)
                obtain ⟨A9, n9, c9, rfl⟩ := own_sl hO9
                clear hO9 hE9
                go_wp2
                go_ret
                exact ⟨_, rfl, HO9.out, HE9.out⟩
  | true =>
    rw [hed] at c12
    go_wp2
    have HK : Hid (∀ W, Ext w2 W → W.cell? ⟨g, 0, none⟩ = some (.int .i64 m.id) ∧ W.cell? ⟨g, 8, none⟩ = some (.slice Aq m.qs.length kq) ∧ W.cell? ⟨g, 9, none⟩ = some (.slice Aa m.ans.length ka) ∧ W.cell? ⟨g, 10, none⟩ = some (.slice Au m.auth.length ku)) := Lib.hid (fun W hE => by obtain ⟨c0, c1, c2, c3, c4, c5, c6, c7, c8, c9, c10, c11, c12, c13⟩ := (HB.out.ext hE).cells; exact ⟨c0, c8, c9, c10⟩)
    go_region_held3 (fun W => W.cell? ⟨g, 0, none⟩ = some (.int .i64 m.id) ∧ W.cell? ⟨g, 8, none⟩ = some (.slice Aq m.qs.length kq) ∧ W.cell? ⟨g, 9, none⟩ = some (.slice Aa m.ans.length ka) ∧ W.cell? ⟨g, 10, none⟩ = some (.slice Au m.auth.length ku))
      (first | go_keep | exact HK.out _ HE5.out | exact HK.out _ (HE5.out.alloc _))
      (first | (go_at_call 143; refine (HFlg.out w2.drew (HB.out.ext (Ext.refl w2).drew)).mono ?_; rintro e w5 ⟨rfl, hE5⟩; have HE5 := Lib.hid ((Ext.refl w2).drew.trans hE5); clear hE5))
    clear c0 c1 c2 c3 c4 c5 c6 c7 c8 c9 c10 c11 c12 c13
    have HI5 := Lib.hid (HI2.out.to_ext (HE5.out.alloc (.cells #[.int .i64 m.id, .int .i64 (flagsN m), .int .i64 m.qs.length, .int .i64 m.ans.length, .int .i64 m.auth.length, .int .i64 ((m.extra.length : Int) + 1)] 3)))
    have HR5 := Lib.hid (heap_alloc_new w5 (.cells #[.int .i64 m.id, .int .i64 (flagsN m), .int .i64 m.qs.length, .int .i64 m.ans.length, .int .i64 m.auth.length, .int .i64 ((m.extra.length : Int) + 1)] 3))
    have HN5 : Hid (¬ Sof p mp (.slice none 0 0) w5.heap.size) := Lib.hid (fun h => by have := (HI2.out.to_ext HE5.out).wr.lt _ h; omega)
    have HV5 : Hid ([m.id, flagsN m, m.qs.length, m.ans.length, m.auth.length, ((m.extra.length : Int) + 1)] = numsL m) := Lib.hid (by unfold numsL bitN; rw [hed]; simp)
    have HRow : Hid ((w5.alloc (.cells #[.int .i64 m.id, .int .i64 (flagsN m), .int .i64 m.qs.length, .int .i64 m.ans.length, .int .i64 m.auth.length, .int .i64 ((m.extra.length : Int) + 1)] 3)).heap[w5.heap.size]? = some (.cells ((numsL m).map vInt).toArray 3 (0, 0))) := Lib.hid (by rw [← HV5.out]; exact HR5.out)
    clear HR5 HV5
    generalize w5.alloc (.cells #[.int .i64 m.id, .int .i64 (flagsN m), .int .i64 m.qs.length, .int .i64 m.ans.length, .int .i64 m.auth.length, .int .i64 ((m.extra.length : Int) + 1)] 3) = w6 at *
    generalize w5.heap.size = s5 at *
    have HNl : Hid ((numsL m).length = 6) := Lib.hid rfl
    go_wp2
    go_loopw [36] (fun i wr => ∃ (k : Nat) (vc : Value), k ≤ 6 ∧ i = .int .i64 k ∧ WInv w1 p mp vc 0 (numsB 2 ((numsL m).take k)) (fun _ => none) wr ∧ (wr.heap[s5]? = some (.cells ((numsL m).map vInt).toArray 3 (0, 0)) ∧ ¬ Sof p mp vc s5)) (fun i _ => 6 - (intOf i).toNat)
    case atStart => exact ⟨0, _, by omega, rfl, HI5.out, HRow.out, HN5.out⟩
    case round =>
      obtain ⟨k, vc, hk, rfl, hI, hR⟩ := hrel
      have HI := Lib.hid hI
      have HR := Lib.hid hR
      clear hI hR
      by_cases hlt : k < 6
      · have hx : (numsL m)[k]? = some (numsL m)[k] := List.getElem?_eq_getElem (by rw [HNl.out]; exact hlt)
        have hc : wr.cell? ⟨s5, k, none⟩ = some (.int .i64 (numsL m)[k]) := by rw [row_cells HR.out.1]; simp [hx]
        have HPS := Lib.hid (numsB_snoc 2 hx)
        have HLn := Lib.hid (numsB_len 2 ((numsL m).take k))
        have HLt : Hid (((numsL m).take k).length ≤ 6) := Lib.hid (by rw [List.length_take]; omega)
        clear hx
        generalize (numsL m)[k] = x at *
        go_wp2_with fail
        clear hc
        refine (wname_Num p mp vc x 2 0 _ _ wr HI.out.wr (by have := HLn.out; have := HLt.out; omega)).mono ?_
        rintro e w7 ⟨rfl, hw7⟩
        obtain ⟨v7, hI7, hk7⟩ := HI.out.keep hw7 HR.out.1 HR.out.2
        have HI7 := Lib.hid hI7
        have HR7 := Lib.hid hk7
        clear hw7 hI7 hk7
        go_wp2
        go_roundw
        case rel => exact ⟨k + 1, v7, by omega, by go_num, by rw [HPS.out]; exact HI7.out, HR7.out⟩
        case measure => simp [intOf]; omega
      · rw [List.take_of_length_le (by rw [HNl.out]; omega), ← head_nums] at HI
        have HI0 := Lib.hid HI.out
        clear HI HR HRow HI5 HN5
        have HHl := Lib.hid HHd.out
        have hql : m.qs.length ≤ 512 := by omega
        have HBx := Lib.hid (HB1.out.ext HI0.out.ext)
        obtain ⟨c0, c1, c2, c3, c4, c5, c6, c7, c8, c9, c10, c11, c12, c13⟩ := HBx.out.cells
        go_wp2
        clear c0 c1 c2 c3 c4 c5 c6 c7 c8 c9 c10 c11 c12 c13
        go_loopw [47, 8] (fun i _ wr => ∃ (j : Nat) (vc : Value) (Nm : Nat), j ≤ m.qs.length ∧ i = .int .i64 j ∧ WInv w1 p mp vc Nm (qsF (headB m, fun _ => none) (m.qs.take j)).1 (qsF (headB m, fun _ => none) (m.qs.take j)).2 wr ∧ Nm ≤ (qsF (headB m, fun _ => none) (m.qs.take j)).1.length) (fun i _ _ => m.qs.length - (intOf i).toNat)
        case atStart => exact ⟨0, _, 0, by omega, rfl, by simpa [qsF] using HI0.out, by omega⟩
        case round =>
          obtain ⟨j, vc, Nm, hj, rfl, hI, hNm⟩ := hrel
          clear HI0
          have HI := Lib.hid hI
          have HNm := Lib.hid hNm
          clear hI hNm
          by_cases hlt : j < m.qs.length
          · obtain ⟨b, o, c1, e1, _, _, _⟩ := H.out.qs.opens (by omega)
            injection e1 with e1 e3 e4
            subst e1
            clear e3 e4
            have hx := List.getElem?_eq_getElem hlt
            obtain ⟨vn, hn, d0', d1', d2'⟩ := qs_cells H.out.qs hx
            obtain ⟨An, kn, rfl, _, _⟩ := hn.form
            have hmem := List.mem_of_getElem? hx
            have HNx := Lib.hid hn
            have HQS := Lib.hid (qsound_parts (HS.out.qs _ hmem))
            have HLn := Lib.hid (qs_len (headB m, fun _ => none) (m.qs.take j) (head_good m) (by rw [HHl.out]; omega) (fun q hq => HS.out.qs q (List.mem_of_mem_take hq)) (by have := List.length_take_le' j m.qs; omega))
            have HPS := Lib.hid (qsF_snoc (headB m, fun _ => none) hx)
            have g0 := (HE1.out.trans HI.out.ext).cell d0'
            have g1 := (HE1.out.trans HI.out.ext).cell d1'
            have g2 := (HE1.out.trans HI.out.ext).cell d2'
            clear d0' d1' d2' hn hmem hx
            generalize m.qs[j] = x at *
            generalize hss : qsF (headB m, fun _ => none) (m.qs.take j) = ss at *
            clear hss
            have HEB := Lib.hid ((Ext.refl wr).alloc (.cells #[.slice An x.name.length kn, .int .i64 x.type, .int .i64 x.cls] 46))
            have HIB := Lib.hid (HI.out.to_ext HEB.out)
            have HQb := Lib.hid (heap_alloc_new wr (.cells #[.slice An x.name.length kn, .int .i64 x.type, .int .i64 x.cls] 46))
            have HQn : Hid (¬ Sof p mp vc wr.heap.size) := Lib.hid (fun h => by have := HI.out.wr.lt _ h; omega)
            go_wp2_with fail
            clear g0 g1 g2
            refine (wname_Name p mp vc _ x.name true Nm ss.1 ss.2 _ HIB.out.wr HNm.out (Stb.of_old (fun w' hE => HNx.out.ext (HE1.out.trans hE)) HIB.out.ext HIB.out.sof) HQS.out.1 (by have := HLn.out.2; omega)).mono ?_
            rintro e w7 ⟨rfl, N7, hN7, hw7⟩
            obtain ⟨v7, hI7, hq7, hn7⟩ := HIB.out.keep hw7 HQb.out HQn.out
            have HI7 := Lib.hid hI7
            have HN7 := Lib.hid hN7
            have HQ7 := Lib.hid hq7
            have HQn7 := Lib.hid hn7
            have HGr := Lib.hid (name_grow (short := true) (b := ss.1) HQS.out.1 HI.out.wr.small)
            have x1 := row_cells HQ7.out 1
            have x2 := row_cells HQ7.out 2
            simp at x1 x2
            clear hw7 hI7 hq7 hn7 hN7 HQb HQn HIB
            generalize wr.heap.size = bq at *
            go_wp2_with fail
            clear x1 x2
            refine (wname_Num p mp v7 x.type 2 N7 _ _ w7 HI7.out.wr (by have := HGr.out; have := HLn.out.2; omega)).mono ?_
            rintro e w8 ⟨rfl, hw8⟩
            obtain ⟨v8, hI8, hq8, hn8⟩ := HI7.out.keep hw8 HQ7.out HQn7.out
            have HI8 := Lib.hid hI8
            have HQ8 := Lib.hid hq8
            have x1 := row_cells HQ8.out 1
            have x2 := row_cells HQ8.out 2
            simp at x1 x2
            clear hw8 hI8 hq8 hn8
            go_wp2_with fail
            clear x1 x2
            refine (wname_Num p mp v8 x.cls 2 N7 _ _ w8 HI8.out.wr (by have := HGr.out; have := HLn.out.2; have := putN_le x.type (size := 2) (by omega); simp at this; rw [List.length_append]; omega)).mono ?_
            rintro e w9 ⟨rfl, hw9⟩
            obtain ⟨v9, hI9⟩ := HI8.out.step hw9
            have HEq : Hid (qStep ss x = ((Wt.name x.name true).bytes ss.1 ss.2 ++ putN [] x.type 2 ++ putN [] x.cls 2, (Wt.name x.name true).rests ss.1 ss.2)) := Lib.hid (by unfold qStep; rw [qst_bytes, qst_rests, List.append_assoc])
            have HI9 := Lib.hid hI9
            clear hw9 hI9
            go_wp2
            go_roundw
            case rel => exact ⟨j + 1, v9, N7, by omega, by go_num, by rw [HPS.out, HEq.out]; exact HI9.out, by rw [HPS.out, HEq.out]; have := HN7.out; simp only [List.length_append]; omega⟩
            case measure => simp [intOf]; omega
          · rw [List.take_of_length_le (by omega)] at HI HNm
            have HL1' := Lib.hid (qs_len (headB m, fun _ => none) m.qs (head_good m) (by rw [HHl.out]; omega) HS.out.qs (by omega))
            obtain ⟨S1, hS1⟩ : ∃ S1, qsF (headB m, fun _ => none) m.qs = S1 := ⟨_, rfl⟩
            rw [hS1] at HI HNm HL1'
            have HS1 := Lib.hid hS1
            have HG1 := Lib.hid HL1'.out.1
            have HL1 : Hid (S1.1.length ≤ 200000) := Lib.hid (by have := HL1'.out.2; omega)
            clear hS1 HL1'
            go_wp2_with fail
            refine (msg_sections g wr).mono ?_
            rintro e w7 ⟨s, rfl, hE7, hs7, hS7⟩
            have HI7 := Lib.hid (HI.out.to_ext hE7)
            have HSc := Lib.hid hS7
            have HSn : Hid (¬ Sof p mp vc s) := Lib.hid (fun h => by have := HI.out.wr.lt _ h; omega)
            clear hE7 hs7 hS7
            go_wp2
            go_loopw [66, 12] (fun i _ wr => ∃ (k : Nat) (vc : Value) (Nm : Nat), k ≤ 3 ∧ i = .int .i64 k ∧ WInv w1 p mp vc Nm (rrsF S1 (pres m k)).1 (rrsF S1 (pres m k)).2 wr ∧ Nm ≤ (rrsF S1 (pres m k)).1.length ∧ (Secs wr s g ∧ ¬ Sof p mp vc s)) (fun i _ _ => 3 - (intOf i).toNat)
            case atStart => exact ⟨0, _, _, by omega, rfl, HI7.out, HNm.out, HSc.out, HSn.out⟩
            case round =>
              obtain ⟨k, vc, Nm, hk, rfl, hI, hNm, hE6⟩ := hrel
              clear HI HNm HI7 HSc HSn
              by_cases h3 : k < 3
              · obtain rfl | rfl | rfl : k = 0 ∨ k = 1 ∨ k = 2 := by omega
                · rw [show ((0 : Nat) : Int) = 0 from rfl]
                  have HBx := Lib.hid (HB1.out.ext hI.ext)
                  have HSx := Lib.hid hE6.1
                  have HI := Lib.hid hI
                  have HNm := Lib.hid hNm
                  obtain ⟨wo, rfl⟩ : ∃ wo : World, wo = wr := ⟨_, rfl⟩
                  have HE6 := Lib.hid hE6
                  clear hI hNm hE6
                  have hsl : m.ans.length ≤ 512 := by omega
                  obtain ⟨c0, c1, c2, c3, c4, c5, c6, c7, c8, c9, c10, c11, c12, c13⟩ := HBx.out.cells
                  obtain ⟨s0, s1, s2⟩ := HSx.out.cells
                  go_wp2
                  clear c0 c1 c2 c3 c4 c5 c6 c7 c8 c9 c10 c11 c12 c13
                  clear s0 s1 s2
                  go_loopw [74, 12] (fun i _ wr => ∃ (j : Nat) (vc : Value) (Nm : Nat), j ≤ m.ans.length ∧ i = .int .i64 j ∧ WInv w1 p mp vc Nm (rrsF S1 ([] ++ m.ans.take j)).1 (rrsF S1 ([] ++ m.ans.take j)).2 wr ∧ Nm ≤ (rrsF S1 ([] ++ m.ans.take j)).1.length ∧ (Secs wr s g ∧ ¬ Sof p mp vc s)) (fun i _ _ => m.ans.length - (intOf i).toNat)
                  case atStart => exact ⟨0, _, _, by omega, rfl, by simpa [pres] using HI.out, by simpa [pres] using HNm.out, HE6.out⟩
                  case round =>
                    obtain ⟨j, vc, Nm, hj, rfl, hI, hNm, hE6⟩ := hrel
                    clear HI HNm HE6
                    have HI := Lib.hid hI
                    have HNm := Lib.hid hNm
                    have HE6 := Lib.hid hE6
                    clear hI hNm hE6
                    by_cases hlt : j < m.ans.length
                    · obtain ⟨b, o, c1, e1, _, _, _⟩ := H.out.ans.opens (by omega)
                      injection e1 with e1 e3 e4
                      subst e1
                      clear e3 e4
                      have hx := List.getElem?_eq_getElem hlt
                      obtain ⟨vn, v0, v1, v2, v3, v4, hn, hd, d0', d1', d2', d3', d4', d5', d6', d7', d8'⟩ := recs_cells H.out.ans hx
                      obtain ⟨An, kn, rfl, _, _⟩ := hn.form
                      obtain ⟨A0, k0, rfl, _, _⟩ := hd.by_.form
                      obtain ⟨A1, k1, rfl, _, _⟩ := hd.ho.form
                      obtain ⟨A2, k2, rfl, _, _⟩ := hd.ma.form
                      obtain ⟨A3, k3, rfl, _, _⟩ := hd.nu.form
                      obtain ⟨A4, k4, rfl, _, _⟩ := hd.tx.form
                      have HCells := Lib.hid (And.intro d0' (And.intro d1' (And.intro d2' (And.intro d3' (And.intro d4' (And.intro d5' (And.intro d6' (And.intro d7' d8'))))))))
                      have hmem := List.mem_of_getElem? hx
                      have HRec := Lib.hid (show RecC w _ _ _ _ _ _ m.ans[j] from ⟨hn, hd⟩)
                      have HRS := Lib.hid (HS.out.ans _ hmem)
                      have HRF := Lib.hid (HF.out.ans _ hmem)
                      have HLn := Lib.hid (rrs_len S1 ([] ++ m.ans.take j) HG1.out HL1.out (by intro r hr; rcases List.mem_append.1 hr with hr | hr; simp at hr; exact HS.out.ans r (List.mem_of_mem_take hr)) (by have := List.length_take_le' j m.ans; simp only [List.length_append, List.length_nil]; omega))
                      have HPS := Lib.hid (rrsF_snoc S1 [] hx)
                      clear d0' d1' d2' d3' d4' d5' d6' d7' d8' hn hd hmem hx
                      generalize m.ans[j] = x at *
                      generalize hss : rrsF S1 ([] ++ m.ans.take j) = ss at *
                      clear hss
                      have HE3 := Lib.hid (HE1.out.trans HI.out.ext)
                      have g0 := HE3.out.cell HCells.out.1
                      have g1 := HE3.out.cell HCells.out.2.1
                      have g2 := HE3.out.cell HCells.out.2.2.1
                      have g3 := HE3.out.cell HCells.out.2.2.2.1
                      have g4 := HE3.out.cell HCells.out.2.2.2.2.1
                      have g5 := HE3.out.cell HCells.out.2.2.2.2.2.1
                      have g6 := HE3.out.cell HCells.out.2.2.2.2.2.2.1
                      have g7 := HE3.out.cell HCells.out.2.2.2.2.2.2.2.1
                      have g8 := HE3.out.cell HCells.out.2.2.2.2.2.2.2.2
                      go_wp2_with fail
                      clear g0 g1 g2 g3 g4 g5 g6 g7 g8
                      have HEB := Lib.hid ((Ext.refl wr).alloc (.cells #[.slice An x.name.length kn, .int .i64 x.type, .int .i64 x.cls, .int .i64 x.ttl, .slice A0 x.data.bytes.length k0, .slice A1 x.data.host.length k1, .slice A2 x.data.mail.length k2, .slice A3 x.data.nums.length k3, .slice A4 x.data.texts.length k4] 49))
                      have HIB := Lib.hid (HI.out.to_ext HEB.out)
                      refine (rr_Put x p mp vc _ _ _ _ _ _ Nm ss.1 ss.2 _ HIB.out.wr HNm.out HLn.out.1 (Stb.of_old (fun w' hE => HRec.out.ext (HE1.out.trans hE)) HIB.out.ext HIB.out.sof) HRF.out.1 HRF.out.2 HRS.out.2 (by have := HLn.out.2; omega)).mono ?_
                      rintro e w7 ⟨rfl, N7, hN7, hw7⟩
                      obtain ⟨v7, hI7, hk7⟩ := HIB.out.keep hw7 (HE6.out.1.ext HEB.out) HE6.out.2
                      have HI7 := Lib.hid hI7
                      have HN7 := Lib.hid hN7
                      have HE7 := Lib.hid hk7
                      clear hw7 hI7 hN7 hk7
                      go_wp2
                      go_roundw
                      case rel => exact ⟨j + 1, v7, N7, by omega, by go_num, by rw [HPS.out]; exact HI7.out, by rw [HPS.out]; exact HN7.out, HE7.out⟩
                      case measure => simp [intOf]; omega
                    · rw [List.take_of_length_le (by omega)] at HI HNm
                      go_wp2
                      go_roundw
                      case rel => exact ⟨1, vc, Nm, by omega, rfl, by simpa [pres] using HI.out, by simpa [pres] using HNm.out, HE6.out⟩
                      case measure => simp [intOf]
                · rw [show ((1 : Nat) : Int) = 1 from rfl]
                  have HBx := Lib.hid (HB1.out.ext hI.ext)
                  have HSx := Lib.hid hE6.1
                  have HI := Lib.hid hI
                  have HNm := Lib.hid hNm
                  obtain ⟨wo, rfl⟩ : ∃ wo : World, wo = wr := ⟨_, rfl⟩
                  have HE6 := Lib.hid hE6
                  clear hI hNm hE6
                  have hsl : m.auth.length ≤ 512 := by omega
                  obtain ⟨c0, c1, c2, c3, c4, c5, c6, c7, c8, c9, c10, c11, c12, c13⟩ := HBx.out.cells
                  obtain ⟨s0, s1, s2⟩ := HSx.out.cells
                  go_wp2
                  clear c0 c1 c2 c3 c4 c5 c6 c7 c8 c9 c10 c11 c12 c13
                  clear s0 s1 s2
                  go_loopw [74, 12] (fun i _ wr => ∃ (j : Nat) (vc : Value) (Nm : Nat), j ≤ m.auth.length ∧ i = .int .i64 j ∧ WInv w1 p mp vc Nm (rrsF S1 (m.ans ++ m.auth.take j)).1 (rrsF S1 (m.ans ++ m.auth.take j)).2 wr ∧ Nm ≤ (rrsF S1 (m.ans ++ m.auth.take j)).1.length ∧ (Secs wr s g ∧ ¬ Sof p mp vc s)) (fun i _ _ => m.auth.length - (intOf i).toNat)
                  case atStart => exact ⟨0, _, _, by omega, rfl, by simpa [pres] using HI.out, by simpa [pres] using HNm.out, HE6.out⟩
                  case round =>
                    obtain ⟨j, vc, Nm, hj, rfl, hI, hNm, hE6⟩ := hrel
                    clear HI HNm HE6
                    have HI := Lib.hid hI
                    have HNm := Lib.hid hNm
                    have HE6 := Lib.hid hE6
                    clear hI hNm hE6
                    by_cases hlt : j < m.auth.length
                    · obtain ⟨b, o, c1, e1, _, _, _⟩ := H.out.auth.opens (by omega)
                      injection e1 with e1 e3 e4
                      subst e1
                      clear e3 e4
                      have hx := List.getElem?_eq_getElem hlt
                      obtain ⟨vn, v0, v1, v2, v3, v4, hn, hd, d0', d1', d2', d3', d4', d5', d6', d7', d8'⟩ := recs_cells H.out.auth hx
                      obtain ⟨An, kn, rfl, _, _⟩ := hn.form
                      obtain ⟨A0, k0, rfl, _, _⟩ := hd.by_.form
                      obtain ⟨A1, k1, rfl, _, _⟩ := hd.ho.form
                      obtain ⟨A2, k2, rfl, _, _⟩ := hd.ma.form
                      obtain ⟨A3, k3, rfl, _, _⟩ := hd.nu.form
                      obtain ⟨A4, k4, rfl, _, _⟩ := hd.tx.form
                      have HCells := Lib.hid (And.intro d0' (And.intro d1' (And.intro d2' (And.intro d3' (And.intro d4' (And.intro d5' (And.intro d6' (And.intro d7' d8'))))))))
                      have hmem := List.mem_of_getElem? hx
                      have HRec := Lib.hid (show RecC w _ _ _ _ _ _ m.auth[j] from ⟨hn, hd⟩)
                      have HRS := Lib.hid (HS.out.auth _ hmem)
                      have HRF := Lib.hid (HF.out.auth _ hmem)
                      have HLn := Lib.hid (rrs_len S1 (m.ans ++ m.auth.take j) HG1.out HL1.out (by intro r hr; rcases List.mem_append.1 hr with hr | hr; exact HS.out.ans r hr; exact HS.out.auth r (List.mem_of_mem_take hr)) (by have := List.length_take_le' j m.auth; simp only [List.length_append, List.length_nil]; omega))
                      have HPS := Lib.hid (rrsF_snoc S1 m.ans hx)
                      clear d0' d1' d2' d3' d4' d5' d6' d7' d8' hn hd hmem hx
                      generalize m.auth[j] = x at *
                      generalize hss : rrsF S1 (m.ans ++ m.auth.take j) = ss at *
                      clear hss
                      have HE3 := Lib.hid (HE1.out.trans HI.out.ext)
                      have g0 := HE3.out.cell HCells.out.1
                      have g1 := HE3.out.cell HCells.out.2.1
                      have g2 := HE3.out.cell HCells.out.2.2.1
                      have g3 := HE3.out.cell HCells.out.2.2.2.1
                      have g4 := HE3.out.cell HCells.out.2.2.2.2.1
                      have g5 := HE3.out.cell HCells.out.2.2.2.2.2.1
                      have g6 := HE3.out.cell HCells.out.2.2.2.2.2.2.1
                      have g7 := HE3.out.cell HCells.out.2.2.2.2.2.2.2.1
                      have g8 := HE3.out.cell HCells.out.2.2.2.2.2.2.2.2
                      go_wp2_with fail
                      clear g0 g1 g2 g3 g4 g5 g6 g7 g8
                      have HEB := Lib.hid ((Ext.refl wr).alloc (.cells #[.slice An x.name.length kn, .int .i64 x.type, .int .i64 x.cls, .int .i64 x.ttl, .slice A0 x.data.bytes.length k0, .slice A1 x.data.host.length k1, .slice A2 x.data.mail.length k2, .slice A3 x.data.nums.length k3, .slice A4 x.data.texts.length k4] 49))
                      have HIB := Lib.hid (HI.out.to_ext HEB.out)
                      refine (rr_Put x p mp vc _ _ _ _ _ _ Nm ss.1 ss.2 _ HIB.out.wr HNm.out HLn.out.1 (Stb.of_old (fun w' hE => HRec.out.ext (HE1.out.trans hE)) HIB.out.ext HIB.out.sof) HRF.out.1 HRF.out.2 HRS.out.2 (by have := HLn.out.2; omega)).mono ?_
                      rintro e w7 ⟨rfl, N7, hN7, hw7⟩
                      obtain ⟨v7, hI7, hk7⟩ := HIB.out.keep hw7 (HE6.out.1.ext HEB.out) HE6.out.2
                      have HI7 := Lib.hid hI7
                      have HN7 := Lib.hid hN7
                      have HE7 := Lib.hid hk7
                      clear hw7 hI7 hN7 hk7
                      go_wp2
                      go_roundw
                      case rel => exact ⟨j + 1, v7, N7, by omega, by go_num, by rw [HPS.out]; exact HI7.out, by rw [HPS.out]; exact HN7.out, HE7.out⟩
                      case measure => simp [intOf]; omega
                    · rw [List.take_of_length_le (by omega)] at HI HNm
                      go_wp2
                      go_roundw
                      case rel => exact ⟨2, vc, Nm, by omega, rfl, by simpa [pres] using HI.out, by simpa [pres] using HNm.out, HE6.out⟩
                      case measure => simp [intOf]
                · rw [show ((2 : Nat) : Int) = 2 from rfl]
                  have HBx := Lib.hid (HB1.out.ext hI.ext)
                  have HSx := Lib.hid hE6.1
                  have HI := Lib.hid hI
                  have HNm := Lib.hid hNm
                  obtain ⟨wo, rfl⟩ : ∃ wo : World, wo = wr := ⟨_, rfl⟩
                  have HE6 := Lib.hid hE6
                  clear hI hNm hE6
                  have hsl : m.extra.length ≤ 512 := by omega
                  obtain ⟨c0, c1, c2, c3, c4, c5, c6, c7, c8, c9, c10, c11, c12, c13⟩ := HBx.out.cells
                  obtain ⟨s0, s1, s2⟩ := HSx.out.cells
                  go_wp2
                  clear c0 c1 c2 c3 c4 c5 c6 c7 c8 c9 c10 c11 c12 c13
                  clear s0 s1 s2
                  go_loopw [74, 12] (fun i _ wr => ∃ (j : Nat) (vc : Value) (Nm : Nat), j ≤ m.extra.length ∧ i = .int .i64 j ∧ WInv w1 p mp vc Nm (rrsF S1 ((m.ans ++ m.auth) ++ m.extra.take j)).1 (rrsF S1 ((m.ans ++ m.auth) ++ m.extra.take j)).2 wr ∧ Nm ≤ (rrsF S1 ((m.ans ++ m.auth) ++ m.extra.take j)).1.length ∧ (Secs wr s g ∧ ¬ Sof p mp vc s)) (fun i _ _ => m.extra.length - (intOf i).toNat)
                  case atStart => exact ⟨0, _, _, by omega, rfl, by simpa [pres] using HI.out, by simpa [pres] using HNm.out, HE6.out⟩
                  case round =>
                    obtain ⟨j, vc, Nm, hj, rfl, hI, hNm, hE6⟩ := hrel
                    clear HI HNm HE6
                    have HI := Lib.hid hI
                    have HNm := Lib.hid hNm
                    have HE6 := Lib.hid hE6
                    clear hI hNm hE6
                    by_cases hlt : j < m.extra.length
                    · obtain ⟨b, o, c1, e1, _, _, _⟩ := H.out.extra.opens (by omega)
                      injection e1 with e1 e3 e4
                      subst e1
                      clear e3 e4
                      have hx := List.getElem?_eq_getElem hlt
                      obtain ⟨vn, v0, v1, v2, v3, v4, hn, hd, d0', d1', d2', d3', d4', d5', d6', d7', d8'⟩ := recs_cells H.out.extra hx
                      obtain ⟨An, kn, rfl, _, _⟩ := hn.form
                      obtain ⟨A0, k0, rfl, _, _⟩ := hd.by_.form
                      obtain ⟨A1, k1, rfl, _, _⟩ := hd.ho.form
                      obtain ⟨A2, k2, rfl, _, _⟩ := hd.ma.form
                      obtain ⟨A3, k3, rfl, _, _⟩ := hd.nu.form
                      obtain ⟨A4, k4, rfl, _, _⟩ := hd.tx.form
                      have HCells := Lib.hid (And.intro d0' (And.intro d1' (And.intro d2' (And.intro d3' (And.intro d4' (And.intro d5' (And.intro d6' (And.intro d7' d8'))))))))
                      have hmem := List.mem_of_getElem? hx
                      have HRec := Lib.hid (show RecC w _ _ _ _ _ _ m.extra[j] from ⟨hn, hd⟩)
                      have HRS := Lib.hid (HS.out.extra _ hmem)
                      have HRF := Lib.hid (HF.out.extra _ hmem)
                      have HLn := Lib.hid (rrs_len S1 ((m.ans ++ m.auth) ++ m.extra.take j) HG1.out HL1.out (by intro r hr; rcases List.mem_append.1 hr with hr | hr; rcases List.mem_append.1 hr with hr | hr; exact HS.out.ans r hr; exact HS.out.auth r hr; exact HS.out.extra r (List.mem_of_mem_take hr)) (by have := List.length_take_le' j m.extra; simp only [List.length_append, List.length_nil]; omega))
                      have HPS := Lib.hid (rrsF_snoc S1 (m.ans ++ m.auth) hx)
                      clear d0' d1' d2' d3' d4' d5' d6' d7' d8' hn hd hmem hx
                      generalize m.extra[j] = x at *
                      generalize hss : rrsF S1 ((m.ans ++ m.auth) ++ m.extra.take j) = ss at *
                      clear hss
                      have HE3 := Lib.hid (HE1.out.trans HI.out.ext)
                      have g0 := HE3.out.cell HCells.out.1
                      have g1 := HE3.out.cell HCells.out.2.1
                      have g2 := HE3.out.cell HCells.out.2.2.1
                      have g3 := HE3.out.cell HCells.out.2.2.2.1
                      have g4 := HE3.out.cell HCells.out.2.2.2.2.1
                      have g5 := HE3.out.cell HCells.out.2.2.2.2.2.1
                      have g6 := HE3.out.cell HCells.out.2.2.2.2.2.2.1
                      have g7 := HE3.out.cell HCells.out.2.2.2.2.2.2.2.1
                      have g8 := HE3.out.cell HCells.out.2.2.2.2.2.2.2.2
                      go_wp2_with fail
                      clear g0 g1 g2 g3 g4 g5 g6 g7 g8
                      have HEB := Lib.hid ((Ext.refl wr).alloc (.cells #[.slice An x.name.length kn, .int .i64 x.type, .int .i64 x.cls, .int .i64 x.ttl, .slice A0 x.data.bytes.length k0, .slice A1 x.data.host.length k1, .slice A2 x.data.mail.length k2, .slice A3 x.data.nums.length k3, .slice A4 x.data.texts.length k4] 49))
                      have HIB := Lib.hid (HI.out.to_ext HEB.out)
                      refine (rr_Put x p mp vc _ _ _ _ _ _ Nm ss.1 ss.2 _ HIB.out.wr HNm.out HLn.out.1 (Stb.of_old (fun w' hE => HRec.out.ext (HE1.out.trans hE)) HIB.out.ext HIB.out.sof) HRF.out.1 HRF.out.2 HRS.out.2 (by have := HLn.out.2; omega)).mono ?_
                      rintro e w7 ⟨rfl, N7, hN7, hw7⟩
                      obtain ⟨v7, hI7, hk7⟩ := HIB.out.keep hw7 (HE6.out.1.ext HEB.out) HE6.out.2
                      have HI7 := Lib.hid hI7
                      have HN7 := Lib.hid hN7
                      have HE7 := Lib.hid hk7
                      clear hw7 hI7 hN7 hk7
                      go_wp2
                      go_roundw
                      case rel => exact ⟨j + 1, v7, N7, by omega, by go_num, by rw [HPS.out]; exact HI7.out, by rw [HPS.out]; exact HN7.out, HE7.out⟩
                      case measure => simp [intOf]; omega
                    · rw [List.take_of_length_le (by omega)] at HI HNm
                      go_wp2
                      go_roundw
                      case rel => exact ⟨3, vc, Nm, by omega, rfl, by simpa [pres] using HI.out, by simpa [pres] using HNm.out, HE6.out⟩
                      case measure => simp [intOf]
              · obtain rfl : k = 3 := by omega
                have HI := Lib.hid hI
                have HNm := Lib.hid hNm
                have HBx := Lib.hid (HB1.out.ext hI.ext)
                clear hI hNm hE6
                obtain ⟨B, hB⟩ : ∃ B, (rrsF S1 (pres m 3)).1 = B := ⟨_, rfl⟩
                have HMs : Hid (B ++ [0] ++ putN [] 41 2 ++ putN [] m.size 2 ++ putN [] 0 6 = mraw m) := Lib.hid (by rw [← hB]; unfold mraw mstate optB; rw [hed, HS1.out]; simp only [pres, if_true, List.append_assoc])
                have HLn := Lib.hid (rrs_len S1 (pres m 3) HG1.out HL1.out (pres_sound HS.out) (by simp only [pres, List.length_append]; omega)).2
                rw [hB] at HI HNm HLn
                generalize (rrsF S1 (pres m 3)).2 = F at *
                clear hB
                obtain ⟨c0, c1, c2, c3, c4, c5, c6, c7, c8, c9, c10, c11, c12, c13⟩ := HBx.out.cells
                rw [hed] at c12
                have HZ := Lib.hid (heap_alloc_new wr (.cells #[.int .u8 0] 5))
                have HIz := Lib.hid (HI.out.to_ext ((Ext.refl wr).alloc (.cells #[.int .u8 0] 5)))
                have HBz : Hid (BytesV (wr.alloc (.cells #[.int .u8 0] 5)) (.slice (some ⟨wr.heap.size, 0, none⟩) 1 1) [0]) := Lib.hid ((show Blk vByte 5 _ _ [0] from ⟨_, _, _, HZ.out, by simp, by intro j x hx; cases j with | zero => simp at hx; rw [← hx]; rfl | succ j => simp at hx⟩).fl 1 1 rfl (by omega) (by unfold maxI; omega))
                have l41 := putN_le 41 (size := 2) (by omega)
                have lsz := putN_le m.size (size := 2) (by omega)
                have HLa := Lib.hid l41
                have HLb := Lib.hid lsz
                clear l41 lsz
                go_wp2_with fail
                clear c0 c1 c2 c3 c4 c5 c6 c7 c8 c9 c10 c11 c12 c13
                refine (wname_Raw p mp vc _ Nm B [0] F _ HIz.out.wr HBz.out (by have := HLn.out; simp; omega)).mono ?_
                rintro e w7 ⟨rfl, hw7⟩
                obtain ⟨v7, hI7⟩ := HIz.out.step hw7
                have HI7 := Lib.hid hI7
                clear hw7 hI7
                go_wp2_with fail
                refine (wname_Num p mp v7 41 2 Nm _ F w7 HI7.out.wr (by have := HLn.out; simp; omega)).mono ?_
                rintro e w8 ⟨rfl, hw8⟩
                obtain ⟨v8, hI8⟩ := HI7.out.step hw8
                have HI8 := Lib.hid hI8
                have HBx8 := Lib.hid (HB1.out.ext hI8.ext)
                clear hw8 hI8
                obtain ⟨c0, c1, c2, c3, c4, c5, c6, c7, c8, c9, c10, c11, c12, c13⟩ := HBx8.out.cells
                go_wp2_with fail
                clear c0 c1 c2 c3 c4 c5 c6 c7 c8 c9 c10 c11 c12 c13
                refine (wname_Num p mp v8 m.size 2 Nm _ F w8 HI8.out.wr (by have := HLn.out; have := HLa.out; simp at this; simp only [List.length_append, List.length_cons, List.length_nil]; omega)).mono ?_
                rintro e w9 ⟨rfl, hw9⟩
                obtain ⟨v9, hI9⟩ := HI8.out.step hw9
                have HI9 := Lib.hid hI9
                clear hw9 hI9
                go_wp2_with fail
                refine (wname_Num p mp v9 0 6 Nm _ F w9 HI9.out.wr (by have := HLn.out; have h1 := HLa.out; have h2 := HLb.out; simp at h1 h2; simp only [List.length_append, List.length_cons, List.length_nil]; omega)).mono ?_
                rintro e w10 ⟨rfl, hw10⟩
                obtain ⟨v10, hI10⟩ := HI9.out.step hw10
                have HI10 := Lib.hid hI10
                clear hw10 hI10
                rw [HMs.out] at HI10
                have HLm : Hid ((mraw m).length ≤ 41000000) := Lib.hid (by rw [← HMs.out]; have := HLn.out; have h1 := HLa.out; have h2 := HLb.out; have h3 := putN_le 0 (size := 6) (by omega); simp at h1 h2 h3; simp only [List.length_append, List.length_cons, List.length_nil]; omega)
                go_wp2_with fail
                refine (wname_Bytes p mp v10 Nm _ _ w10 HI10.out.wr (by have := HLm.out; omega)).mono ?_
                rintro e w11 ⟨v11, rfl, hO11, hE11⟩
                have HO11 := Lib.hid (hO11.mono (HE1.out.trans HI10.out.ext).size)
                have HE11 := Lib.hid ((HE1.out.trans HI10.out.ext).trans hE11)
                obtain ⟨A11, n11, c11, rfl⟩ := own_sl hO11
                clear hO11 hE11
                go_wp2
                go_ret
                exact ⟨_, rfl, HO11.out, HE11.out⟩
end Go.Proofs.Ytfnelkcllaaebaa
end
section
/- Contract of msg.Encode. No condition but that the message stands in memory, that its lists are not too long, and the strings' sizes. -/
open Go.RowKit
set_option linter.unusedVariables false
set_option linter.unusedSimpArgs false
namespace Go.Proofs.Ytfnelkcllaaebaa
set_option maxRecDepth 100000 in
set_option maxHeartbeats 1000000 in
theorem msg_Encode (m : Msg) (vq va vu ve : Value) (w : World) (h : MsgC w vq va vu ve m) (hx : MFit m) (hl : m.all ≤ 100000) :
    Calls Try.prog 34 #[.agg #[.int .i64 m.id, .bool m.resp, .int .i64 m.op, .bool m.aa, .bool m.tc, .bool m.rd, .bool m.ra, .int .i64 m.rc, vq, va, vu, ve, .bool m.edns, .int .i64 m.size]] w fun e w' => ∃ v, e = .returned (.tuple #[v, .int .i64 (encM m).2]) ∧ NewS vByte 5 w' w.heap.size v (encM m).1 ∧ Ext w w' := by
  have H := Lib.hid h
  have HX := Lib.hid hx
  have HL := Lib.hid hl
  clear h hx hl
  obtain ⟨Aq, kq, rfl, _, _⟩ := H.out.qs.form
  obtain ⟨Aa, ka, rfl, _, _⟩ := H.out.ans.form
  obtain ⟨Au, ku, rfl, _, _⟩ := H.out.auth.form
  obtain ⟨Ae, ke, rfl, _, _⟩ := H.out.extra.form
  have HE1 := Lib.hid ((Ext.refl w).alloc (.cells #[.int .i64 m.id, .bool m.resp, .int .i64 m.op, .bool m.aa, .bool m.tc, .bool m.rd, .bool m.ra, .int .i64 m.rc, .slice Aq m.qs.length kq, .slice Aa m.ans.length ka, .slice Au m.auth.length ku, .slice Ae m.extra.length ke, .bool m.edns, .int .i64 m.size] 39))
  have HB1 : Hid (BoxM (w.alloc (.cells #[.int .i64 m.id, .bool m.resp, .int .i64 m.op, .bool m.aa, .bool m.tc, .bool m.rd, .bool m.ra, .int .i64 m.rc, .slice Aq m.qs.length kq, .slice Aa m.ans.length ka, .slice Au m.auth.length ku, .slice Ae m.extra.length ke, .bool m.edns, .int .i64 m.size] 39)) w.heap.size m _ _ _ _) := Lib.hid (heap_alloc_new w _)
  have hg : w.heap.size ≤ (w.alloc (.cells #[.int .i64 m.id, .bool m.resp, .int .i64 m.op, .bool m.aa, .bool m.tc, .bool m.rd, .bool m.ra, .int .i64 m.rc, .slice Aq m.qs.length kq, .slice Aa m.ans.length ka, .slice Au m.auth.length ku, .slice Ae m.extra.length ke, .bool m.edns, .int .i64 m.size] 39)).heap.size := HE1.out.size
  go_enter Try.func34, Try.ntmps34
  go_wp2_with fail
  generalize w.alloc (.cells #[.int .i64 m.id, .bool m.resp, .int .i64 m.op, .bool m.aa, .bool m.tc, .bool m.rd, .bool m.ra, .int .i64 m.rc, .slice Aq m.qs.length kq, .slice Aa m.ans.length ka, .slice Au m.auth.length ku, .slice Ae m.extra.length ke, .bool m.edns, .int .i64 m.size] 39) = w1 at *
  generalize hgg : w.heap.size = g at *
  refine (msg_Sound m _ _ _ _ w1 (H.out.ext HE1.out) HX.out HL.out).mono ?_
  rintro e w2 ⟨rfl, hE2⟩
  have HE2 := Lib.hid (HE1.out.trans hE2)
  have HB2 := Lib.hid (HB1.out.ext hE2)
  clear hE2
  cases hs : msound m with
  | false =>
    have HR := Lib.hid (show encM m = ([], 2) by unfold encM; rw [hs]; rfl)
    clear hs
    go_wp2
    go_ret2
    rw [HR.out]
    exact ⟨_, rfl, ⟨Fl.nil _ _, fun h => absurd rfl h⟩, HE2.out⟩
  | true =>
    have HS := Lib.hid ((msound_iff m).1 hs)
    have HR := Lib.hid (show encM m = if 65535 < (mraw m).length then ([], 4) else (mraw m, 0) by unfold encM; rw [hs]; rfl)
    clear hs
    obtain ⟨c0, c1, c2, c3, c4, c5, c6, c7, c8, c9, c10, c11, c12, c13⟩ := HB2.out.cells
    go_wp2_with fail
    clear c0 c1 c2 c3 c4 c5 c6 c7 c8 c9 c10 c11 c12 c13
    refine (msg_Raw m _ _ _ _ w2 (H.out.ext HE2.out) HX.out HS.out).mono ?_
    rintro e w3 ⟨v3, rfl, hO3, hE3⟩
    have HO3 := Lib.hid (hO3.mono HE2.out.size)
    have HE3 := Lib.hid (HE2.out.trans hE3)
    obtain ⟨A3, c3, rfl, _, _⟩ := hO3.fl.form
    clear hO3 hE3
    by_cases h6 : (mraw m).length ≤ 65535
    · have HR2 := Lib.hid (HR.out.trans (if_neg (by omega)))
      have j6 : decide ((65535 : Int) < ((mraw m).length : Int)) = false := by rw [decide_eq_false_iff_not]; omega
      clear h6
      go_wp2
      go_ret2
      rw [HR2.out]
      exact ⟨_, rfl, by rw [hgg]; exact ⟨HO3.out.fl, fun _ => by rw [← hgg]; exact HO3.out⟩, HE3.out⟩
    · have HR2 := Lib.hid (HR.out.trans (if_pos (by omega)))
      have j6 : decide ((65535 : Int) < ((mraw m).length : Int)) = true := by rw [decide_eq_true_eq]; omega
      clear h6
      go_wp2
      go_ret2
      rw [HR2.out]
      exact ⟨_, rfl, ⟨Fl.nil _ _, fun h => absurd rfl h⟩, HE3.out⟩
end Go.Proofs.Ytfnelkcllaaebaa
end
