/- Parts of one proof, joined: Qs, AppG, RNames, RefNames, LNames. Conditions: those that each theorem states. -/
import Derived.Test.YtfnelkcllaaebaaB16
import Derived.Deep.RegionHeld3
section
/- Questions: how they read; IndexFunc and ContainsFunc over them. No condition but that slices read as lists. -/
open Go.RowKit
set_option linter.unusedVariables false
set_option linter.unusedSimpArgs false
namespace Go.Proofs.Ytfnelkcllaaebaa
structure Qst where
  name : List Str
  type : Int
  cls : Int
/-- The three cells read as a question. -/
def QR (w : World) (cs : List Value) (q : Qst) : Prop := ∃ vn, cs = [vn, .int .i64 q.type, .int .i64 q.cls] ∧ NameV w vn q.name
theorem QR.ext {w w' : World} {cs : List Value} {q : Qst} (h : QR w cs q) (hE : Ext w w') : QR w' cs q := by
  obtain ⟨vn, h, hn⟩ := h; exact ⟨vn, h, hn.ext hE⟩
abbrev QsV (w : World) (v : Value) (l : List Qst) : Prop := Sl QR 3 w v l
theorem QsV.ext {w w' : World} {v : Value} {l : List Qst} (h : QsV w v l) (hE : Ext w w') : QsV w' v l := Sl.ext (R := QR) (fun h hE => QR.ext h hE) h hE
/-- An element's three cells. -/
theorem qs_cells {w : World} {b o n c : Nat} {l : List Qst} {k : Nat} {x : Qst} (h : QsV w (.slice (some ⟨b, o, none⟩) n c) l) (hx : l[k]? = some x) :
    ∃ vn, NameV w vn x.name ∧ w.cell? ⟨b, o + k * 3, none⟩ = some vn ∧ w.cell? ⟨b, o + k * 3 + 1, none⟩ = some (.int .i64 x.type) ∧ w.cell? ⟨b, o + k * 3 + 2, none⟩ = some (.int .i64 x.cls) := by
  have hk : 0 < l.length := by have := (List.getElem?_eq_some_iff.1 hx).1; omega
  obtain ⟨A, c', e, _, _, h3⟩ := h
  obtain ⟨b', o', rfl, hc⟩ := h3 hk
  injection e with e _ _
  injection e with e
  injection e with e1 e2 _
  subst e1 e2
  obtain ⟨cs, _, ⟨vn, rfl, hn⟩, hcell⟩ := hc k x hx
  exact ⟨vn, hn, by simpa using hcell 0 vn rfl, by simpa [Nat.add_assoc] using hcell 1 _ rfl, by simpa [Nat.add_assoc] using hcell 2 _ rfl⟩
/-- The three cells of a question whose name is the call's own. -/
def QN (w : World) (base : Nat) (cs : List Value) (q : Qst) : Prop := ∃ vn, cs = [vn, .int .i64 q.type, .int .i64 q.cls] ∧ NewS Value.string 9 w base vn q.name
theorem QN.ext {w w' : World} {base : Nat} {cs : List Value} {q : Qst} (h : QN w base cs q) (he : Ext w w') : QN w' base cs q := by
  obtain ⟨vn, h, hn⟩ := h; exact ⟨vn, h, hn.ext he⟩
theorem QN.qr {w : World} {base : Nat} {cs : List Value} {q : Qst} (h : QN w base cs q) : QR w cs q := by
  obtain ⟨vn, h, hn⟩ := h; exact ⟨vn, h, hn.1⟩
theorem qN_keeps (base : Nat) : Keeps (fun w cs q => QN w base cs q) 46 := by
  intro w w' row cs q hg ht h
  obtain ⟨vn, h, hn⟩ := h
  exact ⟨vn, h, hn.grown hg ht (by decide)⟩
theorem q_info : (Try.prog.info? 46).map (fun i => (i.zero, i.size, i.bytes)) = some (some (.agg #[.slice none 0 0, .int .i64 0, .int .i64 0]), 3, 40) := by kernel_rfl
theorem qs_of_own {w : World} {base b : Nat} {v : Value} {l : List Qst} (h : OwnM (fun W cs q => QN W base cs q) 46 3 w b v l) : QsV w v l := h.sl.imp fun _ _ => QN.qr
theorem indexFunc_Q (f : FuncId) (cap : Array Value) (eg : ∀ args w, (callFunc f args).run Try.prog w = .ok (.enter f args) w) (p : Qst → Bool) (v : Value) (l : List Qst) (w : World) (hv : QsV w v l)
    (hf : ∀ x v0 w', x ∈ l → NameV w v0 x.name → Ext w w' → Calls Try.prog f (#[.agg #[v0, .int .i64 x.type, .int .i64 x.cls]] ++ cap) w' fun e w'' => e = .returned (.bool (p x)) ∧ Ext w' w'') :
    Calls Try.prog 146 #[v, .func (.func f) #[] cap] w fun e w' => e = .returned (.int .i64 (idxF p l)) ∧ Ext w w' := by
  have hl := hv.len
  unfold maxI at hl
  have HV := Lib.hid hv
  have HF := Lib.hid hf
  obtain ⟨A, c, rfl, h1, h2⟩ := hv.form
  clear hv hf
  go_enter Try.func146, Try.ntmps146
  go_wp2
  go_loopw [5, 8] (fun u i wr => ∃ k : Nat, k ≤ l.length ∧ i = .int .i64 k ∧ Hid (∀ j x, j < k → l[j]? = some x → p x = false) ∧ Ext w wr) (fun _ i _ => l.length - (intOf i).toNat)
  case atStart => exact ⟨0, by omega, rfl, by intro j x hx; omega, Ext.refl _⟩
  case round =>
    obtain ⟨k, hk, rfl, hT, hE⟩ := hrel
    by_cases hlt : k < l.length
    · obtain ⟨b, o, c1, e1, _, _, _⟩ := HV.out.opens (by omega)
      injection e1 with e1 e3 e4
      subst e1
      clear e3 e4
      have hx := List.getElem?_eq_getElem hlt
      obtain ⟨v0, hd, g0, g1, g2⟩ := qs_cells HV.out hx
      obtain ⟨An, kn, rfl, _, _⟩ := hd.form
      have c0 := hE.cell g0
      have c1' := hE.cell g1
      have c2 := hE.cell g2
      clear g0 g1 g2
      have hcall := HF.out _ _ wr (List.mem_of_getElem? hx) hd hE
      have HX := Lib.hid hx
      clear hx hd
      generalize l[k] = x at *
      cases hq : p x with
      | true =>
        rw [hq] at hcall
        have HQ := Lib.hid hq
        clear hq
        go_wp2_with (go_at_fn f; refine hcall.mono ?_; rintro e w' ⟨rfl, hb'⟩)
        go_ret
        exact ⟨ret_eq (int_eq (idxF_hit p l k x HX.out hT.out HQ.out)), hE.trans hb'⟩
      | false =>
        rw [hq] at hcall
        have HQ := Lib.hid hq
        clear hq
        go_wp2_with (go_at_fn f; refine hcall.mono ?_; rintro e w' ⟨rfl, hb'⟩)
        go_roundw
        case rel => exact ⟨k + 1, by omega, by go_num, idxF_step p l k x HX.out hT.out HQ.out, hE.trans hb'⟩
        case measure => simp [intOf]; omega
    · have HE := Lib.hid (idxF_miss p l k (by omega) hT.out)
      go_wp2
      go_ret
      exact ⟨ret_eq (int_eq HE.out), hE⟩
/-- slices.ContainsFunc at Question. -/
theorem containsFunc_Q (f : FuncId) (cap : Array Value) (eg : ∀ args w, (callFunc f args).run Try.prog w = .ok (.enter f args) w) (p : Qst → Bool) (v : Value) (l : List Qst) (w : World) (hv : QsV w v l)
    (hf : ∀ x v0 w', x ∈ l → NameV w v0 x.name → Ext w w' → Calls Try.prog f (#[.agg #[v0, .int .i64 x.type, .int .i64 x.cls]] ++ cap) w' fun e w'' => e = .returned (.bool (p x)) ∧ Ext w' w'') :
    Calls Try.prog 103 #[v, .func (.func f) #[] cap] w fun e w' => e = .returned (.bool (l.any p)) ∧ Ext w w' := by
  have HI := Lib.hid (indexFunc_Q f cap eg p v l w hv hf)
  have HE := Lib.hid (idxF_any p l)
  clear hv hf
  go_enter Try.func103, Try.ntmps103
  go_wp2_with (go_at_call 146; refine (HI.out).mono ?_; rintro e w' ⟨rfl, hE⟩)
  go_ret
  exact ⟨ret_eq (bool_eq HE.out), hE⟩
end Go.Proofs.Ytfnelkcllaaebaa
end
section
/- append of one struct out of a block that is known whole: at a list of operations, and at a step of a region that draws. No condition. -/
open Go.RowKit
set_option linter.unusedVariables false
set_option linter.unusedSimpArgs false
namespace Go.Proofs.Ytfnelkcllaaebaa
section
variable {P : Program} {ops : Array Oper} {rest : List Oper} {o : Oper} {a : Act} {Q : Exit → Act → World → Prop} {K : Act → World → Prop} {E : Prop}
theorem run_appG {α : Type} (R : World → List Value → α → Prop) {W : World} (base : Nat) (t tr e : TypeId) (z : Value) (sz bytes : Nat)
    (ht : P.underlying t = some (.slice e)) (hinfo : (P.info? e).map (fun i => (i.zero, i.size, i.bytes)) = some (some z, sz, bytes)) (hz : z.cells.size = sz) (hsz : 0 < sz) (hb0 : 0 < bytes)
    (hk : KeepsB base R e)
    (v : Value) (l : List α) (y : α) (cs : Array Value) (hcs : cs.size = sz) (g : Nat) (hg : W.heap[g]? = some (.cells cs e (0, 0))) (h1 : ∀ u ∈ cs.toList, u.oneCell' = true)
    (hy : R W cs.toList y) (HO : OwnM R e sz W base v l) (hbase : base ≤ W.heap.size) (hl : (l.length + 1) * bytes ≤ 140737488355328) :
    ∃ v1 w1, (Builtin.append_ #[t, t] tr #[v, .slice (some ⟨g, 0, none⟩) 1 1]).run P W = .ok v1 w1 ∧ OwnM R e sz w1 base v1 (l ++ [y]) ∧ W.grownBy w1 v.ownBlock := by
  obtain ⟨i0, hi, hzz⟩ := Option.map_eq_some_iff.1 hinfo
  simp only [Prod.mk.injEq] at hzz
  obtain ⟨hz0, hz1, hz2⟩ := hzz
  have hlen : l.length + 1 ≤ 140737488355328 := Nat.le_trans (Nat.le_mul_of_pos_right _ hb0) hl
  have htype : ∀ k, v.ownBlock = some k → base ≤ k ∧ ∃ cur, W.heap[k]? = some (.cells cur e (0, 0)) := fun k hk => ⟨HO.base_le k hk, HO.type k hk⟩
  obtain ⟨css, hO, hcl, hj⟩ := HO
  obtain ⟨v1, w1, hr, hown, hgr, _, _⟩ := run_append_own_at (P := P) W base t tr e i0 z sz bytes ht hi hz0 hz1 hz2 hz hsz v l.length css.flatten hO ⟨g, 0, none⟩ 1 1 cs.toList (by simp [hcs])
    (World.news_of_block (cs := cs) (t := e) (fr := (0, 0)) hg) h1 (by simp only [maxLen]; omega) hl hbase
  have hR : ∀ cs x, R W cs x → R w1 cs x := fun cs x h => hk W w1 v.ownBlock cs x hgr htype h
  refine ⟨v1, w1, hr, ⟨css ++ [cs.toList], ?_, by simp [hcl], ?_⟩, hgr⟩
  · simpa using hown
  · intro j c x hc hx2
    rcases Nat.lt_or_ge j l.length with h2 | h2
    · rw [List.getElem?_append_left (by omega)] at hc hx2
      exact ⟨(hj j c x hc hx2).1, hR _ _ (hj j c x hc hx2).2⟩
    · rw [List.getElem?_append_right (by omega)] at hc hx2
      rw [hcl] at hc
      cases hq : j - l.length with
      | zero =>
        rw [hq] at hc hx2
        simp at hc hx2
        subst hc hx2
        exact ⟨by simp [hcs], hR _ _ hy⟩
      | succ q => rw [hq] at hc; simp at hc
theorem wp_appG {α : Type} (R : World → List Value → α → Prop) {W : World} (base : Nat) (s x : Operand) (t e : TypeId) (z : Value) (sz bytes : Nat)
    (ho : o.op = .call { callee := .builtin .append, args := #[s, x], argTypes := #[t, t] })
    (ht : P.underlying t = some (.slice e)) (hinfo : (P.info? e).map (fun i => (i.zero, i.size, i.bytes)) = some (some z, sz, bytes)) (hz : z.cells.size = sz) (hsz : 0 < sz) (hb0 : 0 < bytes)
    (hk : KeepsB base R e)
    (v : Value) (l : List α) (y : α) (cs : Array Value) (hcs : cs.size = sz) (g : Nat) (hs : a.eval s = v) (hx : a.eval x = .slice (some ⟨g, 0, none⟩) 1 1) (hg : W.heap[g]? = some (.cells cs e (0, 0))) (h1 : ∀ u ∈ cs.toList, u.oneCell' = true)
    (hy : R W cs.toList y) (HO : OwnM R e sz W base v l) (hbase : base ≤ W.heap.size) (hl : (l.length + 1) * bytes ≤ 140737488355328)
    (h : ∀ v1 w1, OwnM R e sz w1 base v1 (l ++ [y]) → W.grownBy w1 v.ownBlock → K (a.put o.dst v1) w1) : Oper.wp P o a W K Q := by
  obtain ⟨v1, w1, hr, hown, hgr⟩ := run_appG (P := P) R base t o.type e z sz bytes ht hinfo hz hsz hb0 hk v l y cs hcs g hg h1 hy HO hbase hl
  unfold Oper.wp execOp
  simp only [ho, resolve, invoke, builtin, Sem.run_bind, Sem.run_pure, Result.andThen_ok, List.map_toArray, List.map_cons, List.map_nil, hs, hx, hr]
  exact h v1 w1 hown hgr
/-- At a step of a region that draws its order. -/
theorem step_appG {α : Type} (R : World → List Value → α → Prop) {W : World} (base : Nat) (hgd : o.guard = none) (s x : Operand) (t e : TypeId) (z : Value) (sz bytes : Nat)
    (ho : o.op = .call { callee := .builtin .append, args := #[s, x], argTypes := #[t, t] })
    (ht : P.underlying t = some (.slice e)) (hinfo : (P.info? e).map (fun i => (i.zero, i.size, i.bytes)) = some (some z, sz, bytes)) (hz : z.cells.size = sz) (hsz : 0 < sz) (hb0 : 0 < bytes)
    (hk : KeepsB base R e)
    (v : Value) (l : List α) (y : α) (cs : Array Value) (hcs : cs.size = sz) (g : Nat) (hs : a.eval s = v) (hx : a.eval x = .slice (some ⟨g, 0, none⟩) 1 1) (hg : W.heap[g]? = some (.cells cs e (0, 0))) (h1 : ∀ u ∈ cs.toList, u.oneCell' = true)
    (hy : R W cs.toList y) (HO : OwnM R e sz W base v l) (hbase : base ≤ W.heap.size) (hl : (l.length + 1) * bytes ≤ 140737488355328)
    (h : ∀ v1 w1, OwnM R e sz w1 base v1 (l ++ [y]) → W.grownBy w1 v.ownBlock → K (a.put o.dst v1) w1) : if Region.wanted o (yielded ops a.tmps) = true then Oper.wp P o a W K Q else E := by
  have hw : Region.wanted o (yielded ops a.tmps) = true := by simp [Region.wanted, hgd]
  rw [if_pos hw]
  exact wp_appG R base s x t e z sz bytes ho ht hinfo hz hsz hb0 hk v l y cs hcs g hs hx hg h1 hy HO hbase hl h
/-- append(v, y) at a list of operations, the variadic's box anywhere. -/
theorem wpList_appG {α : Type} (R : World → List Value → α → Prop) {W : World} (base : Nat) (hgd : o.guard = none) (s x : Operand) (t e : TypeId) (z : Value) (sz bytes : Nat)
    (ho : o.op = .call { callee := .builtin .append, args := #[s, x], argTypes := #[t, t] })
    (ht : P.underlying t = some (.slice e)) (hinfo : (P.info? e).map (fun i => (i.zero, i.size, i.bytes)) = some (some z, sz, bytes)) (hz : z.cells.size = sz) (hsz : 0 < sz) (hb0 : 0 < bytes)
    (hk : KeepsB base R e)
    (v : Value) (l : List α) (y : α) (cs : Array Value) (hcs : cs.size = sz) (g : Nat) (hs : a.eval s = v) (hx : a.eval x = .slice (some ⟨g, 0, none⟩) 1 1) (hg : W.heap[g]? = some (.cells cs e (0, 0))) (h1 : ∀ u ∈ cs.toList, u.oneCell' = true)
    (hy : R W cs.toList y) (HO : OwnM R e sz W base v l) (hbase : base ≤ W.heap.size) (hl : (l.length + 1) * bytes ≤ 140737488355328)
    (h : ∀ v1 w1, OwnM R e sz w1 base v1 (l ++ [y]) → W.grownBy w1 v.ownBlock → wpList P ops Q rest (a.put o.dst v1) w1) : wpList P ops Q (o :: rest) a W :=
  wpList_plain hgd fun K hK => wp_appG R base s x t e z sz bytes ho ht hinfo hz hsz hb0 hk v l y cs hcs g hs hx hg h1 hy HO hbase hl fun v1 w1 h2 h3 => hK _ _ (h v1 w1 h2 h3)
end
end Go.Proofs.Ytfnelkcllaaebaa
end
section
/- Contract of rr.Names. No condition but that the slice reads as a list, the strings' sizes, and room. -/
open Go.RowKit
set_option linter.unusedVariables false
set_option linter.unusedSimpArgs false
namespace Go.Proofs.Ytfnelkcllaaebaa
def qrec (q : Qst) (r : Rec) : Bool := decide (q.type = r.type) && neq q.name r.name
def nstep (out : List Qst) (r : Rec) : List Qst := if decide (r.cls = 1) && !(out.any fun q => qrec q r) then out ++ [⟨r.name, r.type, 1⟩] else out
/-- Of which names and types records are. -/
def namesOf (l : List Rec) : List Qst := l.foldl nstep []
theorem namesOf_snoc (l : List Rec) (r : Rec) : namesOf (l ++ [r]) = nstep (namesOf l) r := by simp [namesOf]
theorem namesOf_take {l : List Rec} {k : Nat} {x : Rec} (hx : l[k]? = some x) : namesOf (l.take (k + 1)) = nstep (namesOf (l.take k)) x := by
  rw [List.take_add_one, hx, ← namesOf_snoc]; rfl
theorem namesOf_P (l : List Rec) : (namesOf l).length ≤ l.length ∧ ∀ q ∈ namesOf l, q.cls = 1 ∧ ∃ r ∈ l, r.cls = 1 ∧ r.name = q.name ∧ r.type = q.type := by
  have key : ∀ (l m : List Rec), ((namesOf m).length ≤ m.length ∧ ∀ q ∈ namesOf m, q.cls = 1 ∧ ∃ r ∈ m, r.cls = 1 ∧ r.name = q.name ∧ r.type = q.type) → ((namesOf (m ++ l)).length ≤ (m ++ l).length ∧ ∀ q ∈ namesOf (m ++ l), q.cls = 1 ∧ ∃ r ∈ m ++ l, r.cls = 1 ∧ r.name = q.name ∧ r.type = q.type) := by
    intro l
    induction l with
    | nil => intro m h; simpa using h
    | cons r l ih =>
      intro m h
      have := ih (m ++ [r]) (by
        rw [namesOf_snoc]
        unfold nstep
        split
        · rename_i hc
          rw [Bool.and_eq_true, decide_eq_true_eq] at hc
          refine ⟨by simp; exact h.1, fun q hq => ?_⟩
          rw [List.mem_append, List.mem_singleton] at hq
          rcases hq with hq | rfl
          · obtain ⟨a, r', b, c⟩ := h.2 q hq
            exact ⟨a, r', by simp [b], c⟩
          · exact ⟨rfl, r, by simp, hc.1, rfl, rfl⟩
        · refine ⟨by simp; omega, fun q hq => ?_⟩
          obtain ⟨a, r', b, c⟩ := h.2 q hq
          exact ⟨a, r', by simp [b], c⟩)
      simpa using this
  simpa using key l [] (by simp [namesOf])
theorem ones3 (A : Option Addr) (n c : Nat) (t k : Int) : ∀ u ∈ (#[Value.slice A n c, .int .i64 t, .int .i64 k] : Array Value).toList, u.oneCell' = true := by
  intro u hu
  simp only [List.mem_cons, List.not_mem_nil, or_false] at hu
  rcases hu with rfl | rfl | rfl <;> rfl
/-- rr.Names$1. -/
theorem rr_Names1 (q : Qst) (r : Rec) (g : Nat) (vq vn : Value) (w : World) (hq : NameV w vq q.name) (hn : NameV w vn r.name) (h0 : w.cell? ⟨g, 0, none⟩ = some vn) (h1 : w.cell? ⟨g, 1, none⟩ = some (.int .i64 r.type)) (fq : Fits q.name) (fr : Fits r.name) :
    Calls Try.prog 113 #[.agg #[vq, .int .i64 q.type, .int .i64 q.cls], .pointer (some ⟨g, 0, none⟩)] w fun e w' => e = .returned (.bool (qrec q r)) ∧ Ext w w' := by
  have HE := Lib.hid ((Ext.refl w).alloc (.cells #[vq, .int .i64 q.type, .int .i64 q.cls] 46))
  have c0 := HE.out.cell h0
  have c1 := HE.out.cell h1
  have HQ := Lib.hid hq
  have HN := Lib.hid hn
  obtain ⟨A, n, rfl, _, _⟩ := hq.form
  obtain ⟨A', n', rfl, _, _⟩ := hn.form
  have FQ := Lib.hid fq
  have FR := Lib.hid fr
  clear hq hn fq fr h0 h1
  by_cases ht : q.type = r.type
  · have t0 : (q.type == r.type) = true := by rw [ht]; simp
    have HM := Lib.hid (show qrec q r = neq q.name r.name by unfold qrec; rw [decide_eq_true ht]; rfl)
    clear ht
    go_enter Try.func113, Try.ntmps113
    go_wp2_with fail
    refine (name_Equal _ _ _ _ _ (HQ.out.ext HE.out) (HN.out.ext HE.out) FQ.out FR.out).mono ?_
    rintro e w1 ⟨rfl, hE1⟩
    go_wp2
    go_ret
    exact ⟨by rw [HM.out]; rfl, HE.out.trans hE1⟩
  · have t0 : (q.type == r.type) = false := by simp [ht]
    have HM := Lib.hid (show qrec q r = false by unfold qrec; rw [decide_eq_false ht]; rfl)
    clear ht
    go_enter Try.func113, Try.ntmps113
    go_wp2
    go_ret
    exact ⟨by rw [HM.out]; rfl, HE.out⟩
set_option maxRecDepth 100000 in
set_option maxHeartbeats 4000000 in
/-- rr.Names. -/
theorem rr_Names (l : List Rec) (v : Value) (w : World) (hv : RecsV w v l) (fr : ∀ r ∈ l, RFit r) (hr : ∀ r ∈ l, RRoom r) (hl : l.length ≤ 1000) :
    Calls Try.prog 53 #[v] w fun e w' => Ext w w' ∧ ∃ v1, e = .returned v1 ∧ OwnM (fun W cs q => QN W w.heap.size cs q) 46 3 w' w.heap.size v1 (namesOf l) := by
  have hmf : ∀ (fn : Fn) (first cap : Array Value) (w : World), (Instr.makeFunc fn first cap).run Try.prog w = .ok (.func fn first cap) w := fun _ _ _ _ => rfl
  have HV := Lib.hid hv
  have HF := Lib.hid fr
  have HR := Lib.hid hr
  obtain ⟨A, c, rfl, h1, h2⟩ := hv.form
  clear hv fr hr
  go_enter Try.func53, Try.ntmps53
  go_wp2
  go_loopw [3, 5, 6, 9] (fun out _ _ i wr => ∃ k : Nat, k ≤ l.length ∧ i = .int .i64 k ∧ OwnM (fun W cs q => QN W w.heap.size cs q) 46 3 wr w.heap.size out (namesOf (l.take k)) ∧ Ext w wr) (fun _ _ _ i _ => l.length - (intOf i).toNat)
  case atStart => exact ⟨0, by omega, rfl, OwnM.nil _ _ _ _ _, Ext.refl _⟩
  case round =>
    obtain ⟨k, hk, rfl, hO, hE⟩ := hrel
    by_cases hlt : k < l.length
    · obtain ⟨b, o, c1, e1, _, _, _⟩ := HV.out.opens (by omega)
      injection e1 with e1 e3 e4
      subst e1
      clear e3 e4
      have hx := List.getElem?_eq_getElem hlt
      obtain ⟨vn, v0, v1, v2, v3, v4, hn, hd, c0', c1', c2', c3', c4', c5', c6', c7', c8'⟩ := recs_cells HV.out hx
      obtain ⟨An, kn, rfl, _, _⟩ := hn.form
      obtain ⟨A0, k0, rfl, _, _⟩ := hd.by_.form
      obtain ⟨A1, k1, rfl, _, _⟩ := hd.ho.form
      obtain ⟨A2, k2, rfl, _, _⟩ := hd.ma.form
      obtain ⟨A3, k3, rfl, _, _⟩ := hd.nu.form
      obtain ⟨A4, k4, rfl, _, _⟩ := hd.tx.form
      have g0 := hE.cell c0'
      have g1 := hE.cell c1'
      have g2 := hE.cell c2'
      have g3 := hE.cell c3'
      have g4 := hE.cell c4'
      have g5 := hE.cell c5'
      have g6 := hE.cell c6'
      have g7 := hE.cell c7'
      have g8 := hE.cell c8'
      clear c0' c1' c2' c3' c4' c5' c6' c7' c8'
      have HNr := Lib.hid hn
      have hmem := List.mem_of_getElem? hx
      have HRm := Lib.hid (HR.out _ hmem).1
      have HFt := Lib.hid (HF.out _ hmem).1
      have HX := Lib.hid (namesOf_take hx)
      have HO := Lib.hid hO
      have HS := Lib.hid hE.size
      have HP := Lib.hid (namesOf_P (l.take k))
      have HPl : Hid ((namesOf (l.take k)).length ≤ k) := Lib.hid (by have := HP.out.1; rw [List.length_take] at this; omega)
      have HPf : Hid (∀ q ∈ namesOf (l.take k), Fits q.name) := Lib.hid (fun q hq => by
        obtain ⟨_, r, hr, _, h1, _⟩ := HP.out.2 q hq
        rw [← h1]; exact (HF.out r (List.mem_of_mem_take hr)).1)
      clear hn hd hx hO hmem HP
      generalize l[k] = x at *
      generalize namesOf (l.take k) = S at *
      obtain ⟨As, cs, rfl, _, _⟩ := HO.out.slice
      have hbx : Box9 (wr.alloc (.cells #[.slice An x.name.length kn, .int .i64 x.type, .int .i64 x.cls, .int .i64 x.ttl, .slice A0 x.data.bytes.length k0, .slice A1 x.data.host.length k1, .slice A2 x.data.mail.length k2, .slice A3 x.data.nums.length k3, .slice A4 x.data.texts.length k4] 49)) wr.heap.size _ _ _ _ _ _ _ _ _ := heap_alloc_new wr _
      have HBX := Lib.hid hbx
      clear hbx
      have HEa := Lib.hid (hE.alloc (.cells #[.slice An x.name.length kn, .int .i64 x.type, .int .i64 x.cls, .int .i64 x.ttl, .slice A0 x.data.bytes.length k0, .slice A1 x.data.host.length k1, .slice A2 x.data.mail.length k2, .slice A3 x.data.nums.length k3, .slice A4 x.data.texts.length k4] 49))
      have HOa := Lib.hid (HO.out.ext (fun cs r h => h.ext ((Ext.refl wr).alloc (.cells #[.slice An x.name.length kn, .int .i64 x.type, .int .i64 x.cls, .int .i64 x.ttl, .slice A0 x.data.bytes.length k0, .slice A1 x.data.host.length k1, .slice A2 x.data.mail.length k2, .slice A3 x.data.nums.length k3, .slice A4 x.data.texts.length k4] 49))) ((Ext.refl wr).alloc _))
      by_cases hc : x.cls = 1
      · have t0 : (x.cls == 1) = true := by rw [hc]; rfl
        have HC := Lib.hid (containsFunc_Q 113 #[.pointer (some ⟨wr.heap.size, 0, none⟩)] (fun _ _ => by kernel_rfl) (fun q => qrec q x) _ S _ (qs_of_own HOa.out) (fun q vq w' hq hnq hE' => by
          have hb := (show Box9 w' wr.heap.size _ _ _ _ _ _ _ _ _ from hE'.block HBX.out).cells
          exact rr_Names1 q x wr.heap.size vq _ w' (hnq.ext hE') (HNr.out.ext (HEa.out.trans hE')) hb.1 hb.2.1 (HPf.out q hq) HFt.out))
        have HCl := Lib.hid hc
        clear hc
        go_wp2_with fail
        refine (HC.out).mono ?_
        rintro e w1 ⟨rfl, hE1⟩
        have HE1 := Lib.hid (HEa.out.trans hE1)
        have HO1 := Lib.hid (HOa.out.ext (fun cs r h => h.ext hE1) hE1)
        have HB1 := Lib.hid (show Box9 w1 wr.heap.size _ _ _ _ _ _ _ _ _ from hE1.block HBX.out)
        clear hE1 g0 g1 g2 g3 g4 g5 g6 g7 g8 HC
        cases hq : S.any (fun q => qrec q x) with
        | true =>
          have HQ := Lib.hid (show nstep S x = S by unfold nstep; rw [hq]; simp)
          clear hq
          go_wp2
          go_roundw
          case rel => exact ⟨k + 1, by omega, by go_num, by rw [HX.out, HQ.out]; exact HO1.out, HE1.out⟩
          case measure => simp [intOf]; omega
        | false =>
          have HQ := Lib.hid (show nstep S x = S ++ [⟨x.name, x.type, 1⟩] by unfold nstep; rw [hq, decide_eq_true HCl.out]; rfl)
          clear hq
          go_wp2
          obtain ⟨q0, q1, q2, q3, q4, q5, q6, q7, q8⟩ := HB1.out.cells
          have HL : Hid ((S.length + 1) * 40 ≤ 140737488355328) := Lib.hid (by have := HPl.out; omega)
          have HE1d := Lib.hid HE1.out.drew
          have hne : (Value.slice As S.length cs).ownBlock ≠ some wr.heap.size := fun h => by have := HO.out.lt _ h; omega
          have hlt9 : wr.heap.size < w1.heap.size := (Array.getElem?_eq_some_iff.1 (show w1.heap[wr.heap.size]? = _ from HB1.out)).1
          have HNE := Lib.hid hne
          have HLT := Lib.hid hlt9
          clear hne hlt9
          go_region_held3 (fun W => W.cell? ⟨wr.heap.size, 0, none⟩ = some (.slice An x.name.length kn) ∧ W.cell? ⟨wr.heap.size, 1, none⟩ = some (.int .i64 x.type))
            (first | go_keep | exact HK5.out | exact ⟨HB2.out.cells.1, HB2.out.cells.2.1⟩)
            ((first
              | (refine step_appG (fun W cs q => QN W w.heap.size cs q) w.heap.size (by rfl) (.tmp 23) (.tmp 30) 36 46 (.agg #[.slice none 0 0, .int .i64 0, .int .i64 0]) 3 40 (by rfl) Try.underlying36 q_info rfl (by decide) (by decide) ((qN_keeps _).b _) _ S ⟨x.name, x.type, 1⟩ #[.slice A9 n9 c9, .int .i64 x.type, .int .i64 1] rfl w2.heap.size (by rfl) (by rfl) (heap_alloc_new w2 _) (ones3 A9 n9 c9 x.type 1) ⟨_, rfl, HN9.out.ext ((Ext.refl _).alloc _)⟩ (HO2.out.ext (fun cs r h => h.ext ((Ext.refl _).alloc _)) ((Ext.refl _).alloc _)) (HE2.out.alloc _).size HL.out ?_; intro v5 w5 hO5 hg5; have HK5 : Hid (w5.cell? ⟨wr.heap.size, 0, none⟩ = some (.slice An x.name.length kn) ∧ w5.cell? ⟨wr.heap.size, 1, none⟩ = some (.int .i64 x.type)) := Lib.hid ⟨(hg5.cell_far ⟨wr.heap.size, 0, none⟩ HLT4.out (Ne.symm HNE.out)).trans HC4.out.cells.1, (hg5.cell_far ⟨wr.heap.size, 1, none⟩ HLT4.out (Ne.symm HNE.out)).trans HC4.out.cells.2.1⟩)
              | (go_at_call 114; refine (clone_S _ x.name w1.drew (HNr.out.ext HE1d.out) HRm.out).mono ?_; rintro e w2 ⟨v9, rfl, hO9, hE9⟩; obtain ⟨A9, n9, c9, rfl⟩ := hO9.slice; have HE2 := Lib.hid (HE1d.out.trans hE9); have HO2 := Lib.hid (HO1.out.ext (fun cs r h => h.ext ((Ext.refl w1).drew.trans hE9)) ((Ext.refl w1).drew.trans hE9)); have HN9 : Hid (NewS Value.string 9 w2 w.heap.size (.slice A9 n9 c9) x.name) := Lib.hid ⟨hO9.fl, fun _ => hO9.mono HE1d.out.size⟩; have HB2 := Lib.hid (show Box9 w2 wr.heap.size _ _ _ _ _ _ _ _ _ from hE9.block HB1.out); have HLT4 : Hid (wr.heap.size < (w2.alloc (.cells #[.slice A9 n9 c9, .int .i64 x.type, .int .i64 1] 46)).heap.size) := Lib.hid (Nat.lt_of_lt_of_le HLT.out (Nat.le_trans hE9.size ((Ext.refl w2).alloc _).size)); have HC4 := Lib.hid (show Box9 (w2.alloc (.cells #[.slice A9 n9 c9, .int .i64 x.type, .int .i64 1] 46)) wr.heap.size _ _ _ _ _ _ _ _ _ from ((Ext.refl w2).alloc _).block HB2.out); clear hO9 hE9)))
          have HE5 := Lib.hid ((HE2.out.alloc _).grown hg5 (fun q hq => HO.out.base_le q hq))
          have HO5 := Lib.hid hO5
          clear hO5 hg5
          go_wp2
          go_roundw
          case rel => exact ⟨k + 1, by omega, by go_num, by rw [HX.out, HQ.out]; exact HO5.out, HE5.out⟩
          case measure => simp [intOf]; omega
      · have t0 : (x.cls == 1) = false := by simp [hc]
        have HQ := Lib.hid (show nstep S x = S by unfold nstep; rw [decide_eq_false hc]; rfl)
        clear hc
        go_wp2
        go_roundw
        case rel => exact ⟨k + 1, by omega, by go_num, by rw [HX.out, HQ.out]; exact HOa.out, HEa.out⟩
        case measure => simp [intOf]; omega
    · rw [List.take_of_length_le (by omega)] at hO
      have HO := Lib.hid hO
      clear hO
      go_wp2
      go_ret
      exact ⟨hE, _, rfl, HO.out⟩
end Go.Proofs.Ytfnelkcllaaebaa
end
section
/- Contract of ref03.Names. No condition but that the slice reads as a list, and the strings' sizes. -/
open Go.RowKit
set_option linter.unusedVariables false
set_option linter.unusedSimpArgs false
namespace Go.Proofs.Ytfnelkcllaaebaa
theorem any_step {l : List Qst} {p : Qst → Bool} {c : Bool} {k : Nat} {x : Qst} (hx : l[k]? = some x) : (c || (l.take (k + 1)).any p) = ((c || (l.take k).any p) || p x) := by
  rw [List.take_add_one, hx, List.any_append]
  simp [Bool.or_assoc]
theorem nstep_no {c : Bool} {S : List Qst} {x : Rec} (hc : (x.cls != 1) = c) (h : (c || S.any fun q => qrec q x) = true) : nstep S x = S := by
  unfold nstep
  rw [if_neg]
  intro hh
  rw [Bool.and_eq_true, decide_eq_true_eq] at hh
  rw [hh.1] at hc
  subst hc
  rw [Bool.or_eq_true] at h
  rcases h with h | h
  · simp at h
  · rw [h] at hh; simp at hh
theorem nstep_yes {c : Bool} {S : List Qst} {x : Rec} (hc : (x.cls != 1) = c) (h : (c || S.any fun q => qrec q x) = false) : nstep S x = S ++ [⟨x.name, x.type, 1⟩] := by
  rw [Bool.or_eq_false_iff] at h
  obtain ⟨h1, h2⟩ := h
  subst h1
  unfold nstep
  rw [if_pos]
  rw [h2]
  simp at hc
  simp [hc]
def innerRel (S : List Qst) (x : Rec) (c0 : Bool) (w0 : World) (there i : Value) (wr : World) : Prop := ∃ j : Nat, j ≤ S.length ∧ i = .int .i64 j ∧ there = .bool (c0 || (S.take j).any fun q => qrec q x) ∧ Ext w0 wr
set_option maxRecDepth 100000 in
set_option maxHeartbeats 1000000 in
/-- ref03.Names. -/
theorem ref_Names (l : List Rec) (v : Value) (w : World) (hv : RecsV w v l) (fr : ∀ r ∈ l, RFit r) (hl : l.length ≤ 1000) :
    Calls Try.prog 54 #[v] w fun e w' => Ext w w' ∧ ∃ v1, e = .returned v1 ∧ OwnM (fun W cs q => QR w cs q ∧ Ext w W) 46 3 w' w.heap.size v1 (namesOf l) := by
  have HV := Lib.hid hv
  have HF := Lib.hid fr
  obtain ⟨A, c, rfl, h1, h2⟩ := hv.form
  clear hv fr
  go_enter Try.func54, Try.ntmps54
  go_wp2
  go_loopw [3, 4, 5, 6] (fun out i _ _ wr => ∃ k : Nat, k ≤ l.length ∧ i = .int .i64 k ∧ OwnM (fun W cs q => QR w cs q ∧ Ext w W) 46 3 wr w.heap.size out (namesOf (l.take k)) ∧ Ext w wr) (fun _ i _ _ _ => l.length - (intOf i).toNat)
  case atStart => exact ⟨0, by omega, rfl, OwnM.nil _ _ _ _ _, Ext.refl _⟩
  case round =>
    obtain ⟨k, hk, rfl, hO, hE⟩ := hrel
    obtain ⟨wo, rfl⟩ : ∃ wo : World, wo = wr := ⟨_, rfl⟩
    by_cases hlt : k < l.length
    · obtain ⟨b, o, c1, e1, _, _, _⟩ := HV.out.opens (by omega)
      injection e1 with e1 e3 e4
      subst e1
      clear e3 e4
      have hx := List.getElem?_eq_getElem hlt
      obtain ⟨vn, v0, v1, v2, v3, v4, hn, hd, c0', c1', c2', c3', c4', c5', c6', c7', c8'⟩ := recs_cells HV.out hx
      obtain ⟨An, kn, rfl, _, _⟩ := hn.form
      have g2 := hE.cell c2'
      have HC0 := Lib.hid c0'
      have HC1 := Lib.hid c1'
      clear c0' c1' c2' c3' c4' c5' c6' c7' c8'
      have HNr := Lib.hid hn
      have hmem := List.mem_of_getElem? hx
      have HFt := Lib.hid (HF.out _ hmem).1
      have HX := Lib.hid (namesOf_take hx)
      have HO := Lib.hid hO
      have HS := Lib.hid hE.size
      have HP := Lib.hid (namesOf_P (l.take k))
      have HPl : Hid ((namesOf (l.take k)).length ≤ k) := Lib.hid (by have := HP.out.1; rw [List.length_take] at this; omega)
      have HPf : Hid (∀ q ∈ namesOf (l.take k), Fits q.name) := Lib.hid (fun q hq => by
        obtain ⟨_, r, hr, _, h1, _⟩ := HP.out.2 q hq
        rw [← h1]; exact (HF.out r (List.mem_of_mem_take hr)).1)
      have HE := Lib.hid hE
      clear hn hd hx hO hmem HP hE
      generalize l[k] = x at *
      generalize namesOf (l.take k) = S at *
      obtain ⟨As, cs, rfl, hs1, hs2⟩ := HO.out.slice
      obtain ⟨c0, hc0⟩ : ∃ c0, (x.cls != 1) = c0 := ⟨_, rfl⟩
      have HQs := Lib.hid (show QsV wo _ S from HO.out.sl.imp fun _ _ h => QR.ext h.1 h.2)
      have hSl := HPl.out
      go_wp2
      go_loopw [5, 6] (fun there i wr => innerRel S x c0 wo there i wr) (fun _ i _ => S.length - (intOf i).toNat)
      case atStart => exact ⟨0, by omega, rfl, by simp, Ext.refl _⟩
      case round =>
        obtain ⟨j, hj, rfl, rfl, hE1⟩ := hrel
        have HEw := Lib.hid (HE.out.trans hE1)
        by_cases hjlt : j < S.length
        · obtain ⟨b', o', cs', e1, _, _, _⟩ := HQs.out.opens (by omega)
          injection e1 with e1 e3 e4
          subst e1
          clear e3 e4
          have hq := List.getElem?_eq_getElem hjlt
          obtain ⟨vq, hnq, d0', d1', d2'⟩ := qs_cells HQs.out hq
          obtain ⟨Aq, kq, rfl, _, _⟩ := hnq.form
          have d0 := hE1.cell d0'
          have d1 := hE1.cell d1'
          have g0 := HEw.out.cell HC0.out
          have g1 := HEw.out.cell HC1.out
          have HD := Lib.hid (show wr.drew.cell? ⟨b', o' + j * 3, none⟩ = _ ∧ wr.drew.cell? ⟨b', o' + j * 3 + 1, none⟩ = _ ∧ wr.drew.cell? ⟨b, o + k * 9, none⟩ = _ ∧ wr.drew.cell? ⟨b, o + k * 9 + 1, none⟩ = _ from ⟨d0, d1, g0, g1⟩)
          have HFq := Lib.hid (HPf.out _ (List.mem_of_getElem? hq))
          have HA := Lib.hid (any_step (p := fun q => qrec q x) (c := c0) hq)
          have HNq := Lib.hid hnq
          have HE1 := Lib.hid hE1
          clear hq hnq d0' d1' d2' hE1
          generalize S[j] = q at *
          generalize (c0 || (S.take j).any fun q => qrec q x) = th at *
          by_cases ht : q.type = x.type
          · have t0 : (q.type == x.type) = true := by rw [ht]; simp
            have HC := Lib.hid (ref_Equal _ _ _ _ wr.drew (HNq.out.ext HE1.out.drew) (HNr.out.ext HEw.out.drew) HFq.out HFt.out)
            have HM := Lib.hid (show qrec q x = neq q.name x.name by unfold qrec; rw [decide_eq_true ht]; rfl)
            clear ht
            generalize neq q.name x.name = β at *
            cases β
            · go_wp2
              go_region_held3 (fun W => W.cell? ⟨b', o' + j * 3, none⟩ = some (.slice Aq q.name.length kq) ∧ W.cell? ⟨b', o' + j * 3 + 1, none⟩ = some (.int .i64 q.type) ∧ W.cell? ⟨b, o + k * 9, none⟩ = some (.slice An x.name.length kn) ∧ W.cell? ⟨b, o + k * 9 + 1, none⟩ = some (.int .i64 x.type))
                (first | go_keep | exact HK.out)
                ((go_at_call 81; refine (HC.out).mono ?_; rintro e w' ⟨rfl, hb'⟩; have HK := Lib.hid (And.intro (hb'.cell HD.out.1) (And.intro (hb'.cell HD.out.2.1) (And.intro (hb'.cell HD.out.2.2.1) (hb'.cell HD.out.2.2.2))))))
              all_goals go_wp2
              all_goals go_roundw
              all_goals first | exact ⟨j + 1, by omega, by go_num, by rw [HA.out, HM.out, Bool.or_false], (HE1.out.drew).trans hb'⟩ | (simp [intOf]; omega)
            · go_wp2
              go_region_held3 (fun W => W.cell? ⟨b', o' + j * 3, none⟩ = some (.slice Aq q.name.length kq) ∧ W.cell? ⟨b', o' + j * 3 + 1, none⟩ = some (.int .i64 q.type) ∧ W.cell? ⟨b, o + k * 9, none⟩ = some (.slice An x.name.length kn) ∧ W.cell? ⟨b, o + k * 9 + 1, none⟩ = some (.int .i64 x.type))
                (first | go_keep | exact HK.out)
                ((go_at_call 81; refine (HC.out).mono ?_; rintro e w' ⟨rfl, hb'⟩; have HK := Lib.hid (And.intro (hb'.cell HD.out.1) (And.intro (hb'.cell HD.out.2.1) (And.intro (hb'.cell HD.out.2.2.1) (hb'.cell HD.out.2.2.2))))))
              all_goals go_wp2
              all_goals go_roundw
              all_goals first | exact ⟨j + 1, by omega, by go_num, by rw [HA.out, HM.out, Bool.or_true], (HE1.out.drew).trans hb'⟩ | (simp [intOf]; omega)
          · have t0 : (q.type == x.type) = false := by simp [ht]
            have HM := Lib.hid (show qrec q x = false by unfold qrec; rw [decide_eq_false ht]; rfl)
            clear ht
            go_wp2
            go_quiet (fail)
            all_goals go_wp2
            all_goals go_roundw
            all_goals first | exact ⟨j + 1, by omega, by go_num, by rw [HA.out, HM.out, Bool.or_false], HE1.out.drewN _⟩ | (simp [intOf]; omega)
        · rw [List.take_of_length_le (by omega)]
          cases hth : (c0 || S.any fun q => qrec q x) with
          | true =>
            have HQ := Lib.hid (nstep_no hc0 hth)
            have HO1 := Lib.hid (HO.out.ext (fun cs q h => ⟨h.1, h.2.trans hE1⟩) hE1)
            clear hth hE1
            go_wp2
            go_roundw
            case rel => exact ⟨k + 1, by omega, by go_num, by rw [HX.out, HQ.out]; exact HO1.out, HEw.out⟩
            case measure => simp [intOf]; omega
          | false =>
            have HQ := Lib.hid (nstep_yes hc0 hth)
            have HO1 := Lib.hid (HO.out.ext (fun cs q h => ⟨h.1, h.2.trans hE1⟩) hE1)
            have g0 := HEw.out.cell HC0.out
            have g1 := HEw.out.cell HC1.out
            have HL : Hid ((S.length + 1) * 40 ≤ 140737488355328) := Lib.hid (by have := HPl.out; omega)
            clear hth hE1
            go_wp2
            go_region_held3 (fun W => W.cell? ⟨b, o + k * 9, none⟩ = some (.slice An x.name.length kn) ∧ W.cell? ⟨b, o + k * 9 + 1, none⟩ = some (.int .i64 x.type))
              (first | go_keep | exact HK5.out)
              ((refine step_appG (fun W cs q => QR w cs q ∧ Ext w W) w.heap.size (by rfl) (.tmp 51) (.tmp 63) 36 46 (.agg #[.slice none 0 0, .int .i64 0, .int .i64 0]) 3 40 (by rfl) Try.underlying36 q_info rfl (by decide) (by decide) (keepsB_old w) _ S ⟨x.name, x.type, 1⟩ #[.slice An x.name.length kn, .int .i64 x.type, .int .i64 1] rfl wr.drew.heap.size (by rfl) (by rfl) (heap_alloc_new wr.drew _) (ones3 An x.name.length kn x.type 1) ⟨⟨_, rfl, HNr.out⟩, (HEw.out.drew).alloc _⟩ (HO1.out.ext (fun cs q h => ⟨h.1, h.2.trans ((Ext.refl wr).drew.alloc _)⟩) ((Ext.refl wr).drew.alloc _)) ((HEw.out.drew).alloc _).size HL.out ?_; intro v5 w5 hO5 hg5; have HE5 := Lib.hid (((HEw.out.drew).alloc _).grown hg5 (fun q hq => HO1.out.base_le q hq)); have HK5 : Hid (w5.cell? ⟨b, o + k * 9, none⟩ = some (.slice An x.name.length kn) ∧ w5.cell? ⟨b, o + k * 9 + 1, none⟩ = some (.int .i64 x.type)) := Lib.hid ⟨HE5.out.cell HC0.out, HE5.out.cell HC1.out⟩))
            have HO5 := Lib.hid hO5
            clear hO5 hg5
            go_wp2
            go_roundw
            case rel => exact ⟨k + 1, by omega, by go_num, by rw [HX.out, HQ.out]; exact HO5.out, HE5.out⟩
            case measure => simp [intOf]; omega
    · rw [List.take_of_length_le (by omega)] at hO
      have HO := Lib.hid hO
      clear hO
      go_wp2
      go_ret
      exact ⟨hE, _, rfl, HO.out⟩
end Go.Proofs.Ytfnelkcllaaebaa
end
section
/- Contract of law05.RrNames. No condition but that the slice reads as a list, and the strings' sizes. -/
open Go.RowKit
set_option linter.unusedVariables false
set_option linter.unusedSimpArgs false
namespace Go.Proofs.Ytfnelkcllaaebaa
theorem names_set {l : List Rec} {q : Qst} (h : q ∈ namesOf l) : (setOf q.name q.type l).1 ≠ [] := by
  obtain ⟨_, r, hr, h1, h2, h3⟩ := (namesOf_P l).2 q h
  obtain ⟨d, hd, _⟩ := (setP q.name q.type l).all r hr (by unfold keepR; rw [h1, h2, h3, neq_refl]; simp)
  intro h0
  rw [h0] at hd; cases hd
set_option maxRecDepth 100000 in
set_option maxHeartbeats 2000000 in
theorem law05_RrNames (l : List Rec) (v : Value) (w : World) (hv : RecsV w v l) (fr : ∀ r ∈ l, RFit r) :
    Calls Try.prog 10 #[v] w fun e w' => e = .returned (.bool true) ∧ Ext w w' := by
  have hll := hv.len
  have HV := Lib.hid hv
  have FR := Lib.hid fr
  obtain ⟨A, c, rfl, h1, h2⟩ := hv.form
  clear hv fr
  unfold maxI at *
  go_enter Try.func10, Try.ntmps10
  go_wp2_with fail
  refine (law05_answers _).mono ?_
  rintro e w1 ⟨rfl, hE1⟩
  have HE1 := Lib.hid hE1
  clear hE1
  go_wp2_with fail
  refine (law05_light l _ w1 (HV.out.ext HE1.out)).mono ?_
  rintro e w2 ⟨rfl, hE2⟩
  have HE2 := Lib.hid (HE1.out.trans hE2)
  clear hE2
  cases hL : light5 l with
  | false =>
    clear hL
    go_wp2_with fail
    refine (law05_answers _).mono ?_
    rintro e w3 ⟨rfl, hE3⟩
    go_wp2
    go_ret
    exact ⟨rfl, HE2.out.trans hE3⟩
  | true =>
    obtain ⟨hroom, h60⟩ := light5_room hL
    have HR := Lib.hid hroom
    clear hroom hL
    go_wp2_with fail
    refine (ref_OwnRRs l _ w2 (HV.out.ext HE2.out) HR.out (by omega)).mono ?_
    rintro e w3 ⟨hE3, v3, rfl, hO3⟩
    have HE3 := Lib.hid (HE2.out.trans hE3)
    have HO3 := Lib.hid (recs_of_own hO3)
    obtain ⟨A3, c3, rfl, _, _⟩ := hO3.slice
    clear hE3 hO3
    go_wp2_with fail
    refine (rr_Names l _ w3 HO3.out FR.out HR.out (by omega)).mono ?_
    rintro e w4 ⟨hE4, v4, rfl, hO4⟩
    have HE4 := Lib.hid (HE3.out.trans hE4)
    have HQ4 := Lib.hid (qs_of_own hO4)
    obtain ⟨A4, c4, rfl, _, _⟩ := hO4.slice
    clear hE4 hO4
    go_wp2_with fail
    refine (ref_Names l _ w4 (HV.out.ext HE4.out) FR.out (by omega)).mono ?_
    rintro e w5 ⟨hE5, v5, rfl, hO5⟩
    have HE5 := Lib.hid (HE4.out.trans hE5)
    have HQ5 := Lib.hid (HQ4.out.ext hE5)
    have HM5 := Lib.hid (show QsV w5 _ (namesOf l) from hO5.sl.imp fun _ _ h => QR.ext h.1 h.2)
    obtain ⟨A5, c5, rfl, _, _⟩ := hO5.slice
    clear hE5 hO5
    have HP := Lib.hid (namesOf_P l)
    have HPs : Hid (∀ q ∈ namesOf l, (setOf q.name q.type l).1 ≠ []) := Lib.hid (fun q hq => names_set hq)
    have hPl := HP.out.1
    generalize namesOf l = S at *
    go_wp2
    go_loopw [5, 6, 7] (fun i _ _ wr => ∃ k : Nat, k ≤ S.length ∧ i = .int .i64 k ∧ Ext w5 wr) (fun i _ _ _ => S.length - (intOf i).toNat)
    case atStart => exact ⟨0, by omega, rfl, Ext.refl _⟩
    case round =>
      obtain ⟨k, hk, rfl, hE⟩ := hrel
      have HEk := Lib.hid (HE5.out.trans hE)
      by_cases hlt : k < S.length
      · obtain ⟨b, o, x1, e1, _, _, _⟩ := HQ5.out.opens (by omega)
        injection e1 with e1 e3 e4
        subst e1
        clear e3 e4
        obtain ⟨b', o', x1', e1, _, _, _⟩ := HM5.out.opens (by omega)
        injection e1 with e1 e3 e4
        subst e1
        clear e3 e4
        have hx := List.getElem?_eq_getElem hlt
        obtain ⟨vq, hn, c0', c1', c2'⟩ := qs_cells HQ5.out hx
        obtain ⟨vq2, hn2, d0', d1', d2'⟩ := qs_cells HM5.out hx
        obtain ⟨An, kn, rfl, _, _⟩ := hn.form
        obtain ⟨Am, km, rfl, _, _⟩ := hn2.form
        have c0 := hE.cell c0'
        have c1 := hE.cell c1'
        have c2 := hE.cell c2'
        have d0 := hE.cell d0'
        have d1 := hE.cell d1'
        have hmem := List.mem_of_getElem? hx
        obtain ⟨hcls, r, hr, _, hrn, _⟩ := HP.out.2 _ hmem
        have HFq : Hid (Fits S[k].name) := Lib.hid (by rw [← hrn]; exact (FR.out r hr).1)
        have HNE := Lib.hid (HPs.out _ hmem)
        have HN := Lib.hid (hn.ext hE)
        have HC := Lib.hid (ref_Exact _ _ _ _ wr.drew (hn.ext hE.drew) (hn2.ext hE.drew))
        rw [decide_eq_true rfl] at HC
        rw [hcls] at c2
        have HD := Lib.hid (And.intro c0 (And.intro c1 (And.intro c2 (And.intro d0 d1))))
        have HE1 := Lib.hid hE
        clear c0' c1' c2' d0' d1' d2' hx hn hn2 hmem hcls hr hrn hE
        generalize S[k] = x at *
        go_wp2
        go_region_held3 (fun W => W.cell? ⟨b, o + k * 3, none⟩ = some (.slice An x.name.length kn) ∧ W.cell? ⟨b, o + k * 3 + 1, none⟩ = some (.int .i64 x.type) ∧ W.cell? ⟨b, o + k * 3 + 2, none⟩ = some (.int .i64 1) ∧ W.cell? ⟨b', o' + k * 3, none⟩ = some (.slice Am x.name.length km) ∧ W.cell? ⟨b', o' + k * 3 + 1, none⟩ = some (.int .i64 x.type))
          (first | go_keep | exact ⟨HX2.out.cell HD.out.1, HX2.out.cell HD.out.2.1, HX2.out.cell HD.out.2.2.1, HX2.out.cell HD.out.2.2.2.1, HX2.out.cell HD.out.2.2.2.2⟩)
          ((go_at_call 55; refine (HC.out).mono ?_; rintro e w6 ⟨rfl, hb⟩; have HX2 := Lib.hid ((Ext.refl wr).drew.trans hb.ext)))
        have HE2 := Lib.hid (HE1.out.trans HX2.out)
        have HEl := Lib.hid (HE5.out.trans HE2.out)
        have HN2 := Lib.hid (HN.out.ext HX2.out)
        have f0 := HX2.out.cell HD.out.1
        have f1 := HX2.out.cell HD.out.2.1
        have HF := Lib.hid (And.intro f0 f1)
        clear c0 c1 c2 d0 d1 hb
        have HC2 := Lib.hid (rr_Set l x.name x.type _ _ w6.drew (HV.out.ext HEl.out.drew) (HN2.out.ext (Ext.refl w6).drew) FR.out HFq.out HR.out (by omega))
        go_wp2
        go_region_held3 (fun W => W.cell? ⟨b, o + k * 3, none⟩ = some (.slice An x.name.length kn) ∧ W.cell? ⟨b, o + k * 3 + 1, none⟩ = some (.int .i64 x.type))
          (first | go_keep | exact ⟨HX7.out.cell HF.out.1, HX7.out.cell HF.out.2⟩)
          ((go_at_call 47; refine (HC2.out).mono ?_; rintro e w7 ⟨hE7, v7, rfl, hO7⟩; obtain ⟨A7, k7, rfl, _, _⟩ := hO7.slice; have HX7 := Lib.hid ((Ext.refl w6).drew.trans hE7)))
        have tt := len_nz HNE.out
        have HE7 := Lib.hid (HE2.out.trans HX7.out)
        clear hE7 hO7 f0 f1
        generalize (setOf x.name x.type l).1 = T at *
        go_wp2
        go_roundw
        case rel => exact ⟨k + 1, by omega, by go_num, HE7.out⟩
        case measure => simp [intOf]; omega
      · go_wp2
        go_ret
        exact ⟨rfl, HEk.out⟩
end Go.Proofs.Ytfnelkcllaaebaa
end
