/- Parts of one proof, joined: OwnM, RrOwn, IdxD, Sets, Sets2, Sets3, Rec, Light5, RExact. Conditions: those that each theorem states. -/
import Derived.Test.YtfnelkcllaaebaaB8
import Derived.Test.YtfnelkcllaaebaaB9
import Derived.Test.YtfnelkcllaaebaaB3
import Derived.Deep.RegionWith
section
/- Rows of the call's own whose elements take several cells: append of one. No condition. -/
open Go.RowKit
set_option linter.unusedVariables false
set_option linter.unusedSimpArgs false
namespace Go.Proofs.Ytfnelkcllaaebaa
/-- A slice of structs that the call itself owns, from block base on. -/
def OwnM {α : Type} (R : World → List Value → α → Prop) (e : TypeId) (sz : Nat) (w : World) (base : Nat) (v : Value) (l : List α) : Prop :=
  ∃ css : List (List Value), w.ownsRow base e sz v l.length css.flatten ∧ css.length = l.length ∧ ∀ (j : Nat) (cs : List Value) (x : α), css[j]? = some cs → l[j]? = some x → cs.length = sz ∧ R w cs x
/-- R outlives a turn of a row of type e. -/
def Keeps {α : Type} (R : World → List Value → α → Prop) (e : TypeId) : Prop :=
  ∀ w w' row cs x, w.grownBy w' row → (∀ k, row = some k → ∃ cur, w.heap[k]? = some (.cells cur e (0, 0))) → R w cs x → R w' cs x
theorem OwnM.nil {α : Type} (R : World → List Value → α → Prop) (e : TypeId) (sz : Nat) (w : World) (base : Nat) : OwnM R e sz w base (.slice none 0 0) [] :=
  ⟨[], World.ownsRow_nil w base e sz, rfl, by simp⟩
theorem OwnM.base_le {α : Type} {R : World → List Value → α → Prop} {e : TypeId} {sz : Nat} {w : World} {base : Nat} {v : Value} {l : List α} (h : OwnM R e sz w base v l) (k : Nat) (hk : v.ownBlock = some k) : base ≤ k := by
  obtain ⟨css, h, _⟩ := h; exact own_base h k hk
theorem OwnM.type {α : Type} {R : World → List Value → α → Prop} {e : TypeId} {sz : Nat} {w : World} {base : Nat} {v : Value} {l : List α} (h : OwnM R e sz w base v l) (k : Nat) (hk : v.ownBlock = some k) : ∃ cur, w.heap[k]? = some (.cells cur e (0, 0)) := by
  obtain ⟨css, h, _⟩ := h
  rcases h.2 with ⟨rfl, _⟩ | ⟨g, cap, cur, rfl, _, hg, _⟩
  · simp [Value.ownBlock] at hk
  · simp [Value.ownBlock] at hk; subst hk; exact ⟨cur, hg⟩
theorem OwnM.slice {α : Type} {R : World → List Value → α → Prop} {e : TypeId} {sz : Nat} {w : World} {base : Nat} {v : Value} {l : List α} (h : OwnM R e sz w base v l) : ∃ A c, v = .slice A l.length c ∧ l.length ≤ c ∧ c ≤ maxI := by
  obtain ⟨css, h, _⟩ := h
  rcases h.2 with ⟨rfl, h2⟩ | ⟨g, cap, cur, rfl, _, _, h1, h2, _⟩
  · exact ⟨none, 0, by rw [h2], by omega, by decide⟩
  · exact ⟨_, cap, rfl, h1, by simpa [maxLen] using h2⟩
/-- Where nothing old turns, or what turns is another row. -/
theorem OwnM.kept {α : Type} {R : World → List Value → α → Prop} {e : TypeId} {sz : Nat} {w w1 : World} {base : Nat} {v : Value} {l : List α} (h : OwnM R e sz w base v l) (hR : ∀ cs x, R w cs x → R w1 cs x) {row : Option Nat} (hg : w.grownBy w1 row) (hrow : row = none ∨ v.ownBlock ≠ row) : OwnM R e sz w1 base v l := by
  obtain ⟨css, h, hl, hj⟩ := h
  exact ⟨css, World.ownsRow.kept h hg (hrow.elim (fun h9 => by subst h9; cases v.ownBlock <;> simp) (fun h9 => .inr h9)), hl, fun j cs x h1 h2 => ⟨(hj j cs x h1 h2).1, hR _ _ (hj j cs x h1 h2).2⟩⟩
theorem OwnM.ext {α : Type} {R : World → List Value → α → Prop} {e : TypeId} {sz : Nat} {w w1 : World} {base : Nat} {v : Value} {l : List α} (h : OwnM R e sz w base v l) (hR : ∀ cs x, R w cs x → R w1 cs x) (hE : Ext w w1) : OwnM R e sz w1 base v l :=
  h.kept hR (grown_ext w w1 hE none) (.inl rfl)
section
variable {P : Program} {ops : Array Oper} {rest : List Oper} {o : Oper} {a : Act} {Q : Exit → Act → World → Prop}
/-- append(v, y): the goal's world is 'W.alloc' of the variadic's box. -/
theorem wpList_appM {α : Type} (R : World → List Value → α → Prop) {W : World} (base : Nat) (hgd : o.guard = none) (s x : Operand) (t e : TypeId) (z : Value) (sz bytes : Nat)
    (ho : o.op = .call { callee := .builtin .append, args := #[s, x], argTypes := #[t, t] })
    (ht : P.underlying t = some (.slice e)) (hinfo : (P.info? e).map (fun i => (i.zero, i.size, i.bytes)) = some (some z, sz, bytes)) (hz : z.cells.size = sz) (hsz : 0 < sz) (hb0 : 0 < bytes)
    (hk : Keeps R e) (hkE : ∀ w w' cs x, Ext w w' → R w cs x → R w' cs x)
    (v : Value) (l : List α) (y : α) (cs : Array Value) (hcs : cs.size = sz) (hs : a.eval s = v) (hx : a.eval x = .slice (some ⟨W.heap.size, 0, none⟩) 1 1) (h1 : ∀ u ∈ cs.toList, u.oneCell' = true)
    (hy : R W cs.toList y) (HO : OwnM R e sz W base v l) (hbase : base ≤ W.heap.size) (hl : (l.length + 1) * bytes ≤ 140737488355328)
    (h : ∀ v1 w1, OwnM R e sz w1 base v1 (l ++ [y]) → W.grownBy w1 v.ownBlock → wpList P ops Q rest (a.put o.dst v1) w1) :
    wpList P ops Q (o :: rest) a (W.alloc (.cells cs e)) := by
  obtain ⟨i0, hi, hzz⟩ := Option.map_eq_some_iff.1 hinfo
  simp only [Prod.mk.injEq] at hzz
  obtain ⟨hz0, hz1, hz2⟩ := hzz
  have hlen : l.length + 1 ≤ 140737488355328 := Nat.le_trans (Nat.le_mul_of_pos_right _ hb0) hl
  have htype := HO.type
  obtain ⟨css, hO, hcl, hj⟩ := HO
  refine wpList_append_own_at (W.alloc (.cells cs e)) hgd s x t ho base e i0 z sz bytes ht hi hz0 hz1 hz2 hz hsz v l.length css.flatten hs (World.ownsRow.alloc hO _) ⟨W.heap.size, 0, none⟩ 1 1 cs.toList hx (by simp [hcs])
    (World.news_of_block (cs := cs) (t := e) (fr := (0, 0)) (heap_alloc_new W _)) h1 (by simp only [maxLen]; omega) hl (by simp; omega) ?_
  intro v1 w1 hown hg _ hat
  have hg2 : W.grownBy w1 v.ownBlock := World.grownBy.trans (World.grownBy_alloc W _ _) hg
  have hR : ∀ cs x, R W cs x → R w1 cs x := fun cs x h => hk W w1 v.ownBlock cs x hg2 htype h
  refine h v1 w1 ⟨css ++ [cs.toList], ?_, by simp [hcl], ?_⟩ hg2
  · simpa using hown
  · intro j c x hc hx2
    rcases Nat.lt_or_ge j l.length with h2 | h2
    · rw [List.getElem?_append_left (by omega)] at hc hx2
      exact ⟨(hj j c x hc hx2).1, hR _ _ (hj j c x hc hx2).2⟩
    · rw [List.getElem?_append_right (by omega)] at hc hx2
      rw [hcl] at hc
      cases hq : j - l.length with
      | zero =>
        rw [hq] at hc hx2
        simp at hc hx2
        subst hc hx2
        exact ⟨by simp [hcs], hR _ _ hy⟩
      | succ q => rw [hq] at hc; simp at hc
end
end Go.Proofs.Ytfnelkcllaaebaa
end
section
/- Contract of rr.Own. No condition but that slices read as lists, and room. -/
open Go.RowKit
set_option linter.unusedVariables false
set_option linter.unusedSimpArgs false
namespace Go.Proofs.Ytfnelkcllaaebaa
/-- The five cells of a Data whose rows are the call's own. -/
def DatN (w : World) (base : Nat) (cs : List Value) (d : Dat) : Prop := ∃ v0 v1 v2 v3 v4, cs = [v0, v1, v2, v3, v4] ∧
  NewS vByte 5 w base v0 d.bytes ∧ NewS Value.string 9 w base v1 d.host ∧ NewS Value.string 9 w base v2 d.mail ∧ NewS vInt 3 w base v3 d.nums ∧ NewS Value.string 9 w base v4 d.texts
theorem DatN.ext {w w' : World} {base : Nat} {cs : List Value} {d : Dat} (h : DatN w base cs d) (he : Ext w w') : DatN w' base cs d := by
  obtain ⟨v0, v1, v2, v3, v4, h, h0, h1, h2, h3, h4⟩ := h
  exact ⟨v0, v1, v2, v3, v4, h, h0.ext he, h1.ext he, h2.ext he, h3.ext he, h4.ext he⟩
theorem DatN.mono {w : World} {base base' : Nat} {cs : List Value} {d : Dat} (h : DatN w base cs d) (hb : base' ≤ base) : DatN w base' cs d := by
  obtain ⟨v0, v1, v2, v3, v4, h, h0, h1, h2, h3, h4⟩ := h
  exact ⟨v0, v1, v2, v3, v4, h, h0.mono hb, h1.mono hb, h2.mono hb, h3.mono hb, h4.mono hb⟩
theorem DatN.dr {w : World} {base : Nat} {cs : List Value} {d : Dat} (h : DatN w base cs d) : ∃ v0 v1 v2 v3 v4, cs = [v0, v1, v2, v3, v4] ∧ DR w v0 v1 v2 v3 v4 d := by
  obtain ⟨v0, v1, v2, v3, v4, h, h0, h1, h2, h3, h4⟩ := h
  exact ⟨v0, v1, v2, v3, v4, h, h0.1, h1.1, h2.1, h3.1, h4.1⟩
/-- A row of another type turns. -/
theorem NewS.grown {α : Type} {V : α → Value} {e e' : TypeId} {w w' : World} {base : Nat} {v : Value} {l : List α} {row : Option Nat} (h : NewS V e w base v l) (hg : w.grownBy w' row) (ht : ∀ k, row = some k → ∃ cur, w.heap[k]? = some (.cells cur e' (0, 0))) (hne : e' ≠ e) : NewS V e w' base v l := by
  by_cases hl : l = []
  · subst hl
    obtain ⟨A, c, rfl, h1, h2, _⟩ := h.1
    exact ⟨⟨A, c, rfl, h1, h2, by simp⟩, fun h => absurd rfl h⟩
  · have : OwnL V e w' base v l := World.ownsRow.kept (h.2 hl) hg (by
      cases hv : v.ownBlock with
      | none => exact .inl rfl
      | some k =>
        refine .inr fun hr => ?_
        obtain ⟨cur, h1⟩ := ht k hr.symm
        obtain ⟨cur', h2⟩ := h.type hl hv
        rw [h1] at h2
        injection h2 with h2
        injection h2 with _ h2 _
        exact hne h2)
    exact ⟨this.fl, fun _ => this⟩
theorem datN_keeps (base : Nat) : Keeps (fun w cs d => DatN w base cs d) 26 := by
  intro w w' row cs d hg ht h
  obtain ⟨v0, v1, v2, v3, v4, h, h0, h1, h2, h3, h4⟩ := h
  exact ⟨v0, v1, v2, v3, v4, h, h0.grown hg ht (by decide), h1.grown hg ht (by decide), h2.grown hg ht (by decide), h3.grown hg ht (by decide), h4.grown hg ht (by decide)⟩
def RrOwnGives (d : Dat) (w : World) (e : Ending) (w' : World) : Prop := Ext w w' ∧ ∃ v0 v1 v2 v3 v4, e = .returned (.agg #[v0, v1, v2, v3, v4]) ∧ DatN w' w.heap.size [v0, v1, v2, v3, v4] d
def rpN {α : Type} (V : α → Value) (e : TypeId) (base : Nat) (l : List α) : RP Ext := ⟨fun v w => NewS V e w base v l, fun _ _ _ h he => h.ext he⟩
def rrOwnPs (w : World) (d : Dat) (v0 v1 v2 v3 v4 : Value) (i : Nat) : RP Ext :=
  match i with
  | 0 => RP.eq (.pointer (some ⟨w.heap.size, 0, none⟩)) | 1 => RP.eq v0
  | 3 => RP.eq (.pointer (some ⟨w.heap.size, 1, none⟩)) | 4 => RP.eq v1
  | 6 => RP.eq (.pointer (some ⟨w.heap.size, 2, none⟩)) | 7 => RP.eq v2
  | 9 => RP.eq (.pointer (some ⟨w.heap.size, 3, none⟩)) | 10 => RP.eq v3
  | 12 => RP.eq (.pointer (some ⟨w.heap.size, 4, none⟩)) | 13 => RP.eq v4
  | 2 => rpN vByte 5 (w.heap.size + 2) d.bytes
  | 5 => rpN Value.string 9 (w.heap.size + 2) d.host
  | 8 => rpN Value.string 9 (w.heap.size + 2) d.mail
  | 11 => rpN vInt 3 (w.heap.size + 2) d.nums
  | 14 => rpN Value.string 9 (w.heap.size + 2) d.texts
  | 15 => ⟨fun v W => ∃ v0 v1 v2 v3 v4, v = .agg #[v0, v1, v2, v3, v4] ∧ DatN W (w.heap.size + 2) [v0, v1, v2, v3, v4] d, fun _ _ _ h he => by obtain ⟨v0, v1, v2, v3, v4, h1, h2⟩ := h; exact ⟨v0, v1, v2, v3, v4, h1, h2.ext he⟩⟩
  | _ => RP.any
theorem rrown_ends {d : Dat} {w W : World} {v0 v1 v2 v3 v4 x0 x1 x2 x3 x4 : Value} (hT : Two w W v0 v1 v2 v3 v4 nilS nilS nilS nilS nilS)
    (h0 : NewS vByte 5 W (w.heap.size + 2) x0 d.bytes) (h1 : NewS Value.string 9 W (w.heap.size + 2) x1 d.host) (h2 : NewS Value.string 9 W (w.heap.size + 2) x2 d.mail) (h3 : NewS vInt 3 W (w.heap.size + 2) x3 d.nums) (h4 : NewS Value.string 9 W (w.heap.size + 2) x4 d.texts)
    {a : Act} (ht : a.tmps.getD 2 undef = .pointer (some ⟨w.heap.size + 1, 0, none⟩)) (hd : a.defers = []) :
    bodyPost Try.prog Try.f110 (RrOwnGives d w) .ret a (((((W.setCell ⟨w.heap.size + 1, 0, none⟩ x0).setCell ⟨w.heap.size + 1, 1, none⟩ x1).setCell ⟨w.heap.size + 1, 2, none⟩ x2).setCell ⟨w.heap.size + 1, 3, none⟩ x3).setCell ⟨w.heap.size + 1, 4, none⟩ x4) := by
  have ht' : a.tmps[2]?.getD undef = .pointer (some ⟨w.heap.size + 1, 0, none⟩) := by rw [← ht]; simp
  have hcell : (((((W.setCell ⟨w.heap.size + 1, 0, none⟩ x0).setCell ⟨w.heap.size + 1, 1, none⟩ x1).setCell ⟨w.heap.size + 1, 2, none⟩ x2).setCell ⟨w.heap.size + 1, 3, none⟩ x3).setCell ⟨w.heap.size + 1, 4, none⟩ x4).heap[w.heap.size + 1]? = some (.cells #[x0, x1, x2, x3, x4] 26 (0, 0)) := by
    simp [World.setCell, Array.getElem?_modify, hT.hb]
  refine bodyPost_ret (v := .agg #[x0, x1, x2, x3, x4]) ?_ hd ⟨?_, x0, x1, x2, x3, x4, rfl, x0, x1, x2, x3, x4, rfl, ?_, ?_, ?_, ?_, ?_⟩
  · generalize ((((W.setCell ⟨w.heap.size + 1, 0, none⟩ x0).setCell ⟨w.heap.size + 1, 1, none⟩ x1).setCell ⟨w.heap.size + 1, 2, none⟩ x2).setCell ⟨w.heap.size + 1, 3, none⟩ x3).setCell ⟨w.heap.size + 1, 4, none⟩ x4 = W5 at *
    have c0 : W5.cell? ⟨w.heap.size + 1, 0, none⟩ = some x0 := by simp [World.cell?, hcell]
    have c1 : W5.cell? ⟨w.heap.size + 1, 1, none⟩ = some x1 := by simp [World.cell?, hcell]
    have c2 : W5.cell? ⟨w.heap.size + 1, 2, none⟩ = some x2 := by simp [World.cell?, hcell]
    have c3 : W5.cell? ⟨w.heap.size + 1, 3, none⟩ = some x3 := by simp [World.cell?, hcell]
    have c4 : W5.cell? ⟨w.heap.size + 1, 4, none⟩ = some x4 := by simp [World.cell?, hcell]
    simp [results, Try.results110, go_sem, ht', c0, c1, c2, c3, c4]
  · refine ((((hT.ext.setCell ?_ _).setCell ?_ _).setCell ?_ _).setCell ?_ _).setCell ?_ _ <;> exact Nat.le_succ _
  all_goals
    refine NewS.mono (base := w.heap.size + 2) ?_ (by omega)
  · exact ((((h0.set_other (by omega) _ _).set_other (by omega) _ _).set_other (by omega) _ _).set_other (by omega) _ _).set_other (by omega) _ _
  · exact ((((h1.set_other (by omega) _ _).set_other (by omega) _ _).set_other (by omega) _ _).set_other (by omega) _ _).set_other (by omega) _ _
  · exact ((((h2.set_other (by omega) _ _).set_other (by omega) _ _).set_other (by omega) _ _).set_other (by omega) _ _).set_other (by omega) _ _
  · exact ((((h3.set_other (by omega) _ _).set_other (by omega) _ _).set_other (by omega) _ _).set_other (by omega) _ _).set_other (by omega) _ _
  · exact ((((h4.set_other (by omega) _ _).set_other (by omega) _ _).set_other (by omega) _ _).set_other (by omega) _ _).set_other (by omega) _ _
set_option maxRecDepth 100000 in
set_option maxHeartbeats 1000000 in
/-- rr.Own. -/
theorem rr_Own (d : Dat) (v0 v1 v2 v3 v4 : Value) (w : World) (hd : DR w v0 v1 v2 v3 v4 d) (hr : DRoom d) :
    Calls Try.prog 110 #[.agg #[v0, v1, v2, v3, v4]] w (RrOwnGives d w) := by
  have HD := Lib.hid hd
  have HR := Lib.hid hr
  have HT := Lib.hid (two_start w v0 v1 v2 v3 v4 nilS nilS nilS nilS nilS)
  clear hd hr
  go_enter Try.func110, Try.ntmps110
  go_wp2
  generalize hW : (w.alloc (.cells #[v0, v1, v2, v3, v4] 26)).alloc (.cells #[nilS, nilS, nilS, nilS, nilS] 26) = W0 at *
  clear hW
  refine wp_region_posts (E := Ext) Ext.refl (fun _ _ _ => Ext.trans) 16 (rrOwnPs w d v0 v1 v2 v3 v4) (fun _ _ => False) (by kernel_rfl) (by kernel_rfl) (fun _ _ _ _ h => h.elim) ?_ ?_
  · simp (config := { maxSteps := 10000000 }) only [List.take, Obls, fullA, Act.put, List.setIfInBounds_toArray, List.set_cons_zero, List.set_cons_succ, Nat.zero_add, Nat.reduceAdd]
    refine ⟨?_, ?_, ?_, ?_, ?_, ?_, ?_, ?_, ?_, ?_, ?_, ?_, ?_, ?_, ?_, ?_, trivial⟩
    all_goals intro vs W hE hd
    all_goals have hT := HT.out.step (Ext.trans (Ext.drew (Ext.refl W0)) hE)
    all_goals have HT2 := Lib.hid hT
    all_goals have hsz : w.heap.size + 2 ≤ W.heap.size := by have := (Array.getElem?_eq_some_iff.1 hT.hb).1; omega
    all_goals clear hT
    · clear hd
      go_wp2
      exact ⟨rfl, Ext.refl _, rfl⟩
    · have e1 : vs 0 = .pointer (some ⟨w.heap.size, 0, none⟩) := hd 0 (by decide)
      clear hd
      rw [e1]
      have c0 := HT2.out.ca.1
      go_wp2
      exact ⟨rfl, Ext.refl _, rfl⟩
    · have e2 : vs 1 = v0 := hd 1 (by decide)
      clear hd
      rw [e2]
      go_wp2_with fail
      refine (clone_B v0 d.bytes W (HD.out.ext HT2.out.ext).by_ HR.out.1).mono ?_
      rintro e W2 ⟨v9, rfl, hO, hE9⟩
      have HO9 := Lib.hid hO
      have HE9 := Lib.hid hE9
      clear hO hE9
      go_wp2
      exact ⟨rfl, HE9.out, HO9.out.fl, fun _ => HO9.out.mono hsz⟩
    · clear hd
      go_wp2
      exact ⟨rfl, Ext.refl _, rfl⟩
    · have e1 : vs 3 = .pointer (some ⟨w.heap.size, 1, none⟩) := hd 3 (by decide)
      clear hd
      rw [e1]
      have c0 := HT2.out.ca.2.1
      go_wp2
      exact ⟨rfl, Ext.refl _, rfl⟩
    · have e2 : vs 4 = v1 := hd 4 (by decide)
      clear hd
      rw [e2]
      go_wp2_with fail
      refine (clone_S v1 d.host W (HD.out.ext HT2.out.ext).ho HR.out.2.1).mono ?_
      rintro e W2 ⟨v9, rfl, hO, hE9⟩
      have HO9 := Lib.hid hO
      have HE9 := Lib.hid hE9
      clear hO hE9
      go_wp2
      exact ⟨rfl, HE9.out, HO9.out.fl, fun _ => HO9.out.mono hsz⟩
    · clear hd
      go_wp2
      exact ⟨rfl, Ext.refl _, rfl⟩
    · have e1 : vs 6 = .pointer (some ⟨w.heap.size, 2, none⟩) := hd 6 (by decide)
      clear hd
      rw [e1]
      have c0 := HT2.out.ca.2.2.1
      go_wp2
      exact ⟨rfl, Ext.refl _, rfl⟩
    · have e2 : vs 7 = v2 := hd 7 (by decide)
      clear hd
      rw [e2]
      go_wp2_with fail
      refine (clone_S v2 d.mail W (HD.out.ext HT2.out.ext).ma HR.out.2.2.1).mono ?_
      rintro e W2 ⟨v9, rfl, hO, hE9⟩
      have HO9 := Lib.hid hO
      have HE9 := Lib.hid hE9
      clear hO hE9
      go_wp2
      exact ⟨rfl, HE9.out, HO9.out.fl, fun _ => HO9.out.mono hsz⟩
    · clear hd
      go_wp2
      exact ⟨rfl, Ext.refl _, rfl⟩
    · have e1 : vs 9 = .pointer (some ⟨w.heap.size, 3, none⟩) := hd 9 (by decide)
      clear hd
      rw [e1]
      have c0 := HT2.out.ca.2.2.2.1
      go_wp2
      exact ⟨rfl, Ext.refl _, rfl⟩
    · have e2 : vs 10 = v3 := hd 10 (by decide)
      clear hd
      rw [e2]
      go_wp2_with fail
      refine (clone_I v3 d.nums W (HD.out.ext HT2.out.ext).nu HR.out.2.2.2.1).mono ?_
      rintro e W2 ⟨v9, rfl, hO, hE9⟩
      have HO9 := Lib.hid hO
      have HE9 := Lib.hid hE9
      clear hO hE9
      go_wp2
      exact ⟨rfl, HE9.out, HO9.out.fl, fun _ => HO9.out.mono hsz⟩
    · clear hd
      go_wp2
      exact ⟨rfl, Ext.refl _, rfl⟩
    · have e1 : vs 12 = .pointer (some ⟨w.heap.size, 4, none⟩) := hd 12 (by decide)
      clear hd
      rw [e1]
      have c0 := HT2.out.ca.2.2.2.2
      go_wp2
      exact ⟨rfl, Ext.refl _, rfl⟩
    · have e2 : vs 13 = v4 := hd 13 (by decide)
      clear hd
      rw [e2]
      go_wp2_with fail
      refine (clone_S v4 d.texts W (HD.out.ext HT2.out.ext).tx HR.out.2.2.2.2).mono ?_
      rintro e W2 ⟨v9, rfl, hO, hE9⟩
      have HO9 := Lib.hid hO
      have HE9 := Lib.hid hE9
      clear hO hE9
      go_wp2
      exact ⟨rfl, HE9.out, HO9.out.fl, fun _ => HO9.out.mono hsz⟩
    · have h0 : NewS vByte 5 W (w.heap.size + 2) (vs 2) d.bytes := hd 2 (by decide)
      have h1 : NewS Value.string 9 W (w.heap.size + 2) (vs 5) d.host := hd 5 (by decide)
      have h2 : NewS Value.string 9 W (w.heap.size + 2) (vs 8) d.mail := hd 8 (by decide)
      have h3 : NewS vInt 3 W (w.heap.size + 2) (vs 11) d.nums := hd 11 (by decide)
      have h4 : NewS Value.string 9 W (w.heap.size + 2) (vs 14) d.texts := hd 14 (by decide)
      clear hd
      obtain ⟨A0, n0, c0, e0⟩ := h0.slice
      rw [e0] at h0
      obtain ⟨A1, n1, c1, e1⟩ := h1.slice
      rw [e1] at h1
      obtain ⟨A2, n2, c2, e2⟩ := h2.slice
      rw [e2] at h2
      obtain ⟨A3, n3, c3, e3⟩ := h3.slice
      rw [e3] at h3
      obtain ⟨A4, n4, c4, e4⟩ := h4.slice
      rw [e4] at h4
      rw [e0, e1, e2, e3, e4]
      have HO : Hid (DatN W (w.heap.size + 2) [.slice A0 n0 c0, .slice A1 n1 c1, .slice A2 n2 c2, .slice A3 n3 c3, .slice A4 n4 c4] d) := Lib.hid ⟨_, _, _, _, _, rfl, h0, h1, h2, h3, h4⟩
      clear h0 h1 h2 h3 h4
      go_wp2
      exact ⟨rfl, Ext.refl _, _, _, _, _, _, rfl, HO.out⟩
  · intro vs W hE hP
    have hT := HT.out.step (Ext.trans (Ext.drew (Ext.refl W0)) hE)
    obtain ⟨x0, x1, x2, x3, x4, e20, x0', x1', x2', x3', x4', ex, h0, h1, h2, h3, h4⟩ : ∃ x0 x1 x2 x3 x4, vs 15 = .agg #[x0, x1, x2, x3, x4] ∧ DatN W (w.heap.size + 2) [x0, x1, x2, x3, x4] d := hP 15 (by decide)
    simp only [List.cons.injEq, and_true] at ex
    obtain ⟨rfl, rfl, rfl, rfl, rfl⟩ := ex
    clear hP
    simp only [List.drop, List.take, fullA, Act.put, List.setIfInBounds_toArray, List.set_cons_zero, List.set_cons_succ, Nat.zero_add, Nat.reduceAdd]
    rw [e20]
    obtain ⟨A0, n0, c0, rfl⟩ := h0.slice
    have H0 := Lib.hid h0
    obtain ⟨A1, n1, c1, rfl⟩ := h1.slice
    have H1 := Lib.hid h1
    obtain ⟨A2, n2, c2, rfl⟩ := h2.slice
    have H2 := Lib.hid h2
    obtain ⟨A3, n3, c3, rfl⟩ := h3.slice
    have H3 := Lib.hid h3
    obtain ⟨A4, n4, c4, rfl⟩ := h4.slice
    have H4 := Lib.hid h4
    clear h0 h1 h2 h3 h4
    have HT2 := Lib.hid hT
    obtain ⟨d0, d1, d2, d3, d4⟩ := hT.cb
    have hf : ∀ i, W.frozen? ⟨w.heap.size + 1, i, none⟩ = false := by intro i; have := hT.hb; simp [World.frozen?, this]
    clear hT
    go_wp2
    exact rrown_ends HT2.out H0.out H1.out H2.out H3.out H4.out (by rfl) (by rfl)
end Go.Proofs.Ytfnelkcllaaebaa
end
section
/- Contracts of slices.IndexFunc and slices.ContainsFunc over Data, whatever predicate that pays its premise. -/
open Go.RowKit
set_option linter.unusedVariables false
set_option linter.unusedSimpArgs false
namespace Go.Proofs.Ytfnelkcllaaebaa
/-- The five cells read as a Data. -/
def DatR (w : World) (cs : List Value) (d : Dat) : Prop := ∃ v0 v1 v2 v3 v4, cs = [v0, v1, v2, v3, v4] ∧ DR w v0 v1 v2 v3 v4 d
theorem DatR.ext {w w' : World} {cs : List Value} {d : Dat} (h : DatR w cs d) (hE : Ext w w') : DatR w' cs d := by
  obtain ⟨v0, v1, v2, v3, v4, h, h0⟩ := h; exact ⟨v0, v1, v2, v3, v4, h, h0.ext hE⟩
abbrev DatsV (w : World) (v : Value) (l : List Dat) : Prop := Sl DatR 5 w v l
/-- An element's five cells. -/
theorem dats_cells {w : World} {b o n c : Nat} {l : List Dat} {k : Nat} {x : Dat} (h : DatsV w (.slice (some ⟨b, o, none⟩) n c) l) (hx : l[k]? = some x) :
    ∃ v0 v1 v2 v3 v4, DR w v0 v1 v2 v3 v4 x ∧ w.cell? ⟨b, o + k * 5, none⟩ = some v0 ∧ w.cell? ⟨b, o + k * 5 + 1, none⟩ = some v1 ∧ w.cell? ⟨b, o + k * 5 + 2, none⟩ = some v2 ∧ w.cell? ⟨b, o + k * 5 + 3, none⟩ = some v3 ∧ w.cell? ⟨b, o + k * 5 + 4, none⟩ = some v4 := by
  have hk : 0 < l.length := by have := (List.getElem?_eq_some_iff.1 hx).1; omega
  obtain ⟨A, c', e, _, _, h3⟩ := h
  obtain ⟨b', o', rfl, hc⟩ := h3 hk
  injection e with e _ _
  injection e with e
  injection e with e1 e2 _
  subst e1 e2
  obtain ⟨cs, _, ⟨v0, v1, v2, v3, v4, rfl, hd⟩, hcell⟩ := hc k x hx
  exact ⟨v0, v1, v2, v3, v4, hd, by simpa using hcell 0 v0 rfl, by simpa [Nat.add_assoc] using hcell 1 v1 rfl, by simpa [Nat.add_assoc] using hcell 2 v2 rfl, by simpa [Nat.add_assoc] using hcell 3 v3 rfl, by simpa [Nat.add_assoc] using hcell 4 v4 rfl⟩
theorem indexFunc_D (f : FuncId) (cap : Array Value) (eg : ∀ args w, (callFunc f args).run Try.prog w = .ok (.enter f args) w) (p : Dat → Bool) (v : Value) (l : List Dat) (w : World) (hv : DatsV w v l)
    (hf : ∀ x v0 v1 v2 v3 v4 w', x ∈ l → DR w v0 v1 v2 v3 v4 x → Ext w w' → Calls Try.prog f (#[.agg #[v0, v1, v2, v3, v4]] ++ cap) w' fun e w'' => e = .returned (.bool (p x)) ∧ Ext w' w'') :
    Calls Try.prog 160 #[v, .func (.func f) #[] cap] w fun e w' => e = .returned (.int .i64 (idxF p l)) ∧ Ext w w' := by
  have hl := hv.len
  unfold maxI at hl
  have HV := Lib.hid hv
  have HF := Lib.hid hf
  obtain ⟨A, c, rfl, h1, h2⟩ := hv.form
  clear hv hf
  go_enter Try.func160, Try.ntmps160
  go_wp2
  go_loopw [5, 8] (fun u i wr => ∃ k : Nat, k ≤ l.length ∧ i = .int .i64 k ∧ Hid (∀ j x, j < k → l[j]? = some x → p x = false) ∧ Ext w wr) (fun _ i _ => l.length - (intOf i).toNat)
  case atStart => exact ⟨0, by omega, rfl, by intro j x hx; omega, Ext.refl _⟩
  case round =>
    obtain ⟨k, hk, rfl, hT, hE⟩ := hrel
    by_cases hlt : k < l.length
    · obtain ⟨b, o, c1, e1, _, _, _⟩ := HV.out.opens (by omega)
      injection e1 with e1 e3 e4
      subst e1
      clear e3 e4
      have hx := List.getElem?_eq_getElem hlt
      obtain ⟨v0, v1, v2, v3, v4, hd, g0, g1, g2, g3, g4⟩ := dats_cells HV.out hx
      have c0 := hE.cell g0
      have c1' := hE.cell g1
      have c2 := hE.cell g2
      have c3 := hE.cell g3
      have c4 := hE.cell g4
      clear g0 g1 g2 g3 g4
      have hcall := HF.out _ v0 v1 v2 v3 v4 wr (List.mem_of_getElem? hx) hd hE
      have HX := Lib.hid hx
      clear hx hd
      generalize l[k] = x at *
      cases hq : p x with
      | true =>
        rw [hq] at hcall
        have HQ := Lib.hid hq
        clear hq
        go_wp2_with (go_at_fn f; refine hcall.mono ?_; rintro e w' ⟨rfl, hb'⟩)
        go_ret
        exact ⟨ret_eq (int_eq (idxF_hit p l k x HX.out hT.out HQ.out)), hE.trans hb'⟩
      | false =>
        rw [hq] at hcall
        have HQ := Lib.hid hq
        clear hq
        go_wp2_with (go_at_fn f; refine hcall.mono ?_; rintro e w' ⟨rfl, hb'⟩)
        go_roundw
        case rel => exact ⟨k + 1, by omega, by go_num, idxF_step p l k x HX.out hT.out HQ.out, hE.trans hb'⟩
        case measure => simp [intOf]; omega
    · have HE := Lib.hid (idxF_miss p l k (by omega) hT.out)
      go_wp2
      go_ret
      exact ⟨ret_eq (int_eq HE.out), hE⟩
/-- slices.ContainsFunc at Data. -/
theorem containsFunc_D (f : FuncId) (cap : Array Value) (eg : ∀ args w, (callFunc f args).run Try.prog w = .ok (.enter f args) w) (p : Dat → Bool) (v : Value) (l : List Dat) (w : World) (hv : DatsV w v l)
    (hf : ∀ x v0 v1 v2 v3 v4 w', x ∈ l → DR w v0 v1 v2 v3 v4 x → Ext w w' → Calls Try.prog f (#[.agg #[v0, v1, v2, v3, v4]] ++ cap) w' fun e w'' => e = .returned (.bool (p x)) ∧ Ext w' w'') :
    Calls Try.prog 147 #[v, .func (.func f) #[] cap] w fun e w' => e = .returned (.bool (l.any p)) ∧ Ext w w' := by
  have HI := Lib.hid (indexFunc_D f cap eg p v l w hv hf)
  have HE := Lib.hid (idxF_any p l)
  clear hv hf
  go_enter Try.func147, Try.ntmps147
  go_wp2_with (go_at_call 160; refine (HI.out).mono ?_; rintro e w' ⟨rfl, hE⟩)
  go_ret
  exact ⟨ret_eq (bool_eq HE.out), hE⟩
end Go.Proofs.Ytfnelkcllaaebaa
end
section
/- Contracts of rr.among, rr.Same, ref03.In, ref03.SameSet. No condition but that slices read as lists, and the labels' sizes. -/
open Go.RowKit
set_option linter.unusedVariables false
set_option linter.unusedSimpArgs false
namespace Go.Proofs.Ytfnelkcllaaebaa
/-- Five cells of a box. -/
def Box5 (w : World) (q : Nat) (y0 y1 y2 y3 y4 : Value) : Prop := w.heap[q]? = some (.cells #[y0, y1, y2, y3, y4] 26 (0, 0))
theorem Box5.cells {w : World} {q : Nat} {y0 y1 y2 y3 y4 : Value} (h : Box5 w q y0 y1 y2 y3 y4) : w.cell? ⟨q, 0, none⟩ = some y0 ∧ w.cell? ⟨q, 1, none⟩ = some y1 ∧ w.cell? ⟨q, 2, none⟩ = some y2 ∧ w.cell? ⟨q, 3, none⟩ = some y3 ∧ w.cell? ⟨q, 4, none⟩ = some y4 := by
  unfold Box5 at h
  refine ⟨?_, ?_, ?_, ?_, ?_⟩ <;> simp [World.cell?, h]
theorem DatsV.ext {w w' : World} {v : Value} {l : List Dat} (h : DatsV w v l) (hE : Ext w w') : DatsV w' v l := Sl.ext (R := DatR) (fun h hE => DatR.ext h hE) h hE
/-- rr.among$1. -/
theorem rr_among1 (x d : Dat) (q : Nat) (v0 v1 v2 v3 v4 y0 y1 y2 y3 y4 : Value) (w : World) (hx : DR w v0 v1 v2 v3 v4 x) (hd : DR w y0 y1 y2 y3 y4 d) (hq : Box5 w q y0 y1 y2 y3 y4) (fx : DFit x) (fd : DFit d) :
    Calls Try.prog 148 #[.agg #[v0, v1, v2, v3, v4], .pointer (some ⟨q, 0, none⟩)] w fun e w' => e = .returned (.bool (dsame x d)) ∧ Ext w w' := by
  have hE : Ext w (w.alloc (.cells #[v0, v1, v2, v3, v4] 26)) := (Ext.refl w).alloc _
  have HE := Lib.hid hE
  have HX := Lib.hid hx
  have HD := Lib.hid hd
  have FX := Lib.hid fx
  have FD := Lib.hid fd
  obtain ⟨c0, c1, c2, c3, c4⟩ := Box5.cells (hE.block hq : Box5 _ q y0 y1 y2 y3 y4)
  clear hx hd hq fx fd hE
  go_enter Try.func148, Try.ntmps148
  go_wp2_with fail
  refine (rdata_Same x d _ _ _ _ _ _ _ _ _ _ _ (HX.out.ext HE.out) (HD.out.ext HE.out) FX.out FD.out).mono ?_
  rintro e w1 ⟨rfl, h1⟩
  have H1 := Lib.hid h1
  clear h1
  go_wp2
  go_ret
  exact ⟨rfl, HE.out.trans H1.out⟩
/-- rr.among. -/
theorem rr_among (l : List Dat) (d : Dat) (v y0 y1 y2 y3 y4 : Value) (w : World) (hv : DatsV w v l) (hd : DR w y0 y1 y2 y3 y4 d) (fl : ∀ x ∈ l, DFit x) (fd : DFit d) :
    Calls Try.prog 109 #[v, .agg #[y0, y1, y2, y3, y4]] w fun e w' => e = .returned (.bool (l.any fun x => dsame x d)) ∧ Ext w w' := by
  have hmf : ∀ (fn : Fn) (first cap : Array Value) (w : World), (Instr.makeFunc fn first cap).run Try.prog w = .ok (.func fn first cap) w := fun _ _ _ _ => rfl
  have hE : Ext w (w.alloc (.cells #[y0, y1, y2, y3, y4] 26)) := (Ext.refl w).alloc _
  have hb : Box5 (w.alloc (.cells #[y0, y1, y2, y3, y4] 26)) w.heap.size y0 y1 y2 y3 y4 := heap_alloc_new w _
  have HC := Lib.hid (containsFunc_D 148 #[.pointer (some ⟨w.heap.size, 0, none⟩)] (fun _ _ => by kernel_rfl) (fun x => dsame x d) v l (w.alloc (.cells #[y0, y1, y2, y3, y4] 26)) (DatsV.ext hv hE)
    (fun x v0 v1 v2 v3 v4 w' hx hr hE' => rr_among1 x d w.heap.size _ _ _ _ _ _ _ _ _ _ w' (hr.ext hE') ((hd.ext hE).ext hE') (hE'.block hb) (fl x hx) fd))
  have HE := Lib.hid hE
  clear hE hb hv hd fl fd
  go_enter Try.func109, Try.ntmps109
  go_wp2_with (go_at_call 147; refine (HC.out).mono ?_; rintro e w1 ⟨rfl, h1⟩)
  go_ret
  exact ⟨rfl, HE.out.trans h1⟩
/-- rr.within$1$1 at rdata.Same. -/
theorem rr_within11 (x y : Dat) (p q : Nat) (x0 x1 x2 x3 x4 y0 y1 y2 y3 y4 : Value) (w : World) (hx : DR w x0 x1 x2 x3 x4 x) (hy : DR w y0 y1 y2 y3 y4 y) (hp : w.heap[p]? = some (.cells #[.func (.func 28) #[] #[]] 30 (0, 0))) (hq : Box5 w q x0 x1 x2 x3 x4) (fx : DFit x) (fy : DFit y) :
    Calls Try.prog 151 #[.agg #[y0, y1, y2, y3, y4], .pointer (some ⟨p, 0, none⟩), .pointer (some ⟨q, 0, none⟩)] w fun e w' => e = .returned (.bool (dsame x y)) ∧ Ext w w' := by
  have eg : ∀ args w, (callFunc 28 args).run Try.prog w = .ok (.enter 28 args) w := fun _ _ => by kernel_rfl
  have hE : Ext w (w.alloc (.cells #[y0, y1, y2, y3, y4] 26)) := (Ext.refl w).alloc _
  have HE := Lib.hid hE
  have HX := Lib.hid hx
  have HY := Lib.hid hy
  have FX := Lib.hid fx
  have FY := Lib.hid fy
  obtain ⟨c0, c1, c2, c3, c4⟩ := Box5.cells (hE.block hq : Box5 _ q x0 x1 x2 x3 x4)
  have hp2 := hE.block hp
  have cp : (w.alloc (.cells #[y0, y1, y2, y3, y4] 26)).cell? ⟨p, 0, none⟩ = some (.func (.func 28) #[] #[]) := by unfold World.cell?; rw [hp2]; rfl
  clear hx hy hp hq fx fy hE hp2
  go_enter Try.func151, Try.ntmps151
  have HC := Lib.hid (rdata_Same x y _ _ _ _ _ _ _ _ _ _ _ (HX.out.ext HE.out) (HY.out.ext HE.out) FX.out FY.out)
  go_wp2_with (go_at_fn 28; refine (HC.out).mono ?_; rintro e w1 ⟨rfl, h1⟩)
  go_ret
  exact ⟨rfl, HE.out.trans h1⟩
/-- rr.within$1 at rdata.Same. -/
theorem rr_within1 (x : Dat) (b : List Dat) (vb : Value) (p q : Nat) (x0 x1 x2 x3 x4 : Value) (w : World) (hx : DR w x0 x1 x2 x3 x4 x) (hb : DatsV w vb b) (hp : w.heap[p]? = some (.cells #[.func (.func 28) #[] #[]] 30 (0, 0))) (hq : w.heap[q]? = some (.cells #[vb] 60 (0, 0))) (fx : DFit x) (fb : ∀ y ∈ b, DFit y) :
    Calls Try.prog 150 #[.agg #[x0, x1, x2, x3, x4], .pointer (some ⟨q, 0, none⟩), .pointer (some ⟨p, 0, none⟩)] w fun e w' => e = .returned (.bool (!b.any fun y => dsame x y)) ∧ Ext w w' := by
  have hmf : ∀ (fn : Fn) (first cap : Array Value) (w : World), (Instr.makeFunc fn first cap).run Try.prog w = .ok (.func fn first cap) w := fun _ _ _ _ => rfl
  have hE : Ext w (w.alloc (.cells #[x0, x1, x2, x3, x4] 26)) := (Ext.refl w).alloc _
  have hbx : Box5 (w.alloc (.cells #[x0, x1, x2, x3, x4] 26)) w.heap.size x0 x1 x2 x3 x4 := heap_alloc_new w _
  have HC := Lib.hid (containsFunc_D 151 #[.pointer (some ⟨p, 0, none⟩), .pointer (some ⟨w.heap.size, 0, none⟩)] (fun _ _ => by kernel_rfl) (fun y => dsame x y) vb b (w.alloc (.cells #[x0, x1, x2, x3, x4] 26)) (hb.ext hE)
    (fun y y0 y1 y2 y3 y4 w' hy hr hE' => rr_within11 x y p w.heap.size _ _ _ _ _ _ _ _ _ _ w' ((hx.ext hE).ext hE') (hr.ext hE') (hE'.block (hE.block hp)) (hE'.block hbx) fx (fb y hy)))
  have HE := Lib.hid hE
  have hq2 := hE.block hq
  have cq : (w.alloc (.cells #[x0, x1, x2, x3, x4] 26)).cell? ⟨q, 0, none⟩ = some vb := by unfold World.cell?; rw [hq2]; rfl
  clear hE hbx hb hp hq fx fb hq2 hx
  generalize (b.any fun y => dsame x y) = β at *
  go_enter Try.func150, Try.ntmps150
  go_wp2_with (go_at_call 147; refine (HC.out).mono ?_; rintro e w1 ⟨rfl, h1⟩)
  cases β
  all_goals go_ret
  all_goals exact ⟨rfl, HE.out.trans h1⟩
end Go.Proofs.Ytfnelkcllaaebaa
end
section
/- Contracts of rr.Same, ref03.In, ref03.SameSet. No condition but that slices read as lists, and the labels' sizes. -/
open Go.RowKit
set_option linter.unusedVariables false
set_option linter.unusedSimpArgs false
namespace Go.Proofs.Ytfnelkcllaaebaa
/-- Is each of a one of b? -/
def inAll (a b : List Dat) : Bool := !(a.any fun x => !(b.any fun y => dsame x y))
def sameSets (a b : List Dat) : Bool := inAll a b && inAll b a
theorem box1_get {w : World} {q : Nat} {v : Value} {t : TypeId} (h : w.heap[q]? = some (.cells #[v] t (0, 0))) : w.cell? ⟨q, 0, none⟩ = some v := by unfold World.cell?; rw [h]; rfl
/-- rr.within at rdata.Same. -/
theorem rr_within (a b : List Dat) (va vb : Value) (w : World) (ha : DatsV w va a) (hb : DatsV w vb b) (fa : ∀ x ∈ a, DFit x) (fb : ∀ x ∈ b, DFit x) :
    Calls Try.prog 112 #[va, vb, .func (.func 28) #[] #[]] w fun e w' => e = .returned (.bool (inAll a b)) ∧ Ext w w' := by
  have hmf : ∀ (fn : Fn) (first cap : Array Value) (w : World), (Instr.makeFunc fn first cap).run Try.prog w = .ok (.func fn first cap) w := fun _ _ _ _ => rfl
  obtain ⟨Ab, cb, rfl, _, _⟩ := hb.form
  have e1 : (w.alloc (.cells #[.slice Ab b.length cb] 60)).heap.size = w.heap.size + 1 := by simp
  have hE1 : Ext w (w.alloc (.cells #[.slice Ab b.length cb] 60)) := (Ext.refl w).alloc _
  have hE2 : Ext (w.alloc (.cells #[.slice Ab b.length cb] 60)) ((w.alloc (.cells #[.slice Ab b.length cb] 60)).alloc (.cells #[.func (.func 28) #[] #[]] 30)) := (Ext.refl _).alloc _
  have hq := hE2.block (heap_alloc_new w (.cells #[.slice Ab b.length cb] 60))
  have hp := heap_alloc_new (w.alloc (.cells #[.slice Ab b.length cb] 60)) (.cells #[.func (.func 28) #[] #[]] 30)
  rw [e1] at hp
  have hE := hE1.trans hE2
  have HC := Lib.hid (containsFunc_D 150 #[.pointer (some ⟨w.heap.size, 0, none⟩), .pointer (some ⟨w.heap.size + 1, 0, none⟩)] (fun _ _ => by kernel_rfl) (fun x => !b.any fun y => dsame x y) va a _ (ha.ext hE)
    (fun x x0 x1 x2 x3 x4 w' hx hr hE' => rr_within1 x b _ (w.heap.size + 1) w.heap.size _ _ _ _ _ w' (hr.ext hE') ((hb.ext hE).ext hE') (hE'.block hp) (hE'.block hq) (fa x hx) fb))
  have HE := Lib.hid hE
  have HM := Lib.hid (show inAll a b = !(a.any fun x => !(b.any fun y => dsame x y)) from rfl)
  clear hE hE1 hE2 hq hp ha hb fa fb e1
  generalize (a.any fun x => !(b.any fun y => dsame x y)) = β at *
  go_enter Try.func112, Try.ntmps112
  go_wp2_with (go_at_call 147; refine (HC.out).mono ?_; rintro e w1 ⟨rfl, h1⟩)
  cases β
  all_goals go_ret
  all_goals exact ⟨by rw [HM.out]; rfl, HE.out.trans h1⟩
/-- rr.Same. -/
theorem rr_Same (a b : List Dat) (va vb : Value) (w : World) (ha : DatsV w va a) (hb : DatsV w vb b) (fa : ∀ x ∈ a, DFit x) (fb : ∀ x ∈ b, DFit x) :
    Calls Try.prog 51 #[va, vb] w fun e w' => e = .returned (.bool (sameSets a b)) ∧ Ext w w' := by
  have HA := Lib.hid ha
  have HB := Lib.hid hb
  have FA := Lib.hid fa
  have FB := Lib.hid fb
  have HM := Lib.hid (show sameSets a b = (inAll a b && inAll b a) from rfl)
  clear ha hb fa fb
  go_enter Try.func51, Try.ntmps51
  go_wp2_with fail
  refine (rr_within a b va vb w HA.out HB.out FA.out FB.out).mono ?_
  rintro e w1 ⟨rfl, h1⟩
  have H1 := Lib.hid h1
  clear h1
  generalize inAll a b = β at *
  cases β
  · go_wp2
    go_ret
    exact ⟨by rw [HM.out]; rfl, H1.out⟩
  · go_wp2_with fail
    refine (rr_within b a vb va w1 (HB.out.ext H1.out) (HA.out.ext H1.out) FB.out FA.out).mono ?_
    rintro e w2 ⟨rfl, h2⟩
    have H2 := Lib.hid h2
    clear h2
    go_wp2
    go_ret
    exact ⟨by rw [HM.out]; rfl, H1.out.trans H2.out⟩
theorem any_take_step {l : List Dat} {p : Dat → Bool} {k : Nat} {x : Dat} (hx : l[k]? = some x) (hp : p x = false) (h : (l.take k).any p = false) : (l.take (k + 1)).any p = false := by
  rw [List.take_add_one, hx, List.any_append, h]
  simp [hp]
theorem any_hit {l : List Dat} {p : Dat → Bool} {k : Nat} {x : Dat} (hx : l[k]? = some x) (hp : p x = true) : l.any p = true := List.any_eq_true.2 ⟨x, List.mem_of_getElem? hx, hp⟩
theorem any_all {l : List Dat} {p : Dat → Bool} {k : Nat} (hk : l.length ≤ k) (h : (l.take k).any p = false) : l.any p = false := by rwa [List.take_of_length_le hk] at h
set_option maxHeartbeats 1000000 in
/-- ref03.In. -/
theorem ref_In (l : List Dat) (d : Dat) (v y0 y1 y2 y3 y4 : Value) (w : World) (hv : DatsV w v l) (hd : DR w y0 y1 y2 y3 y4 d) (fl : ∀ x ∈ l, DFit x) (fd : DFit d) :
    Calls Try.prog 111 #[v, .agg #[y0, y1, y2, y3, y4]] w fun e w' => e = .returned (.bool (l.any fun x => dsame x d)) ∧ Ext w w' := by
  have hl := hv.len
  unfold maxI at hl
  have hE : Ext w (w.alloc (.cells #[y0, y1, y2, y3, y4] 26)) := (Ext.refl w).alloc _
  have hbx : Box5 (w.alloc (.cells #[y0, y1, y2, y3, y4] 26)) w.heap.size y0 y1 y2 y3 y4 := heap_alloc_new w _
  have HBX := Lib.hid hbx
  have HE := Lib.hid hE
  have HV := Lib.hid hv
  have HD := Lib.hid hd
  have FL := Lib.hid fl
  have FD := Lib.hid fd
  obtain ⟨A, c, rfl, h1, h2⟩ := hv.form
  clear hv hd fl fd hE hbx
  go_enter Try.func111, Try.ntmps111
  go_wp2
  generalize hW : w.alloc (.cells #[y0, y1, y2, y3, y4] 26) = W0 at *
  clear hW
  go_loopw [5] (fun i wr => ∃ k : Nat, k ≤ l.length ∧ i = .int .i64 k ∧ Hid ((l.take k).any (fun x => dsame x d) = false) ∧ Ext W0 wr) (fun i _ => l.length - (intOf i).toNat)
  case atStart => exact ⟨0, by omega, rfl, rfl, Ext.refl _⟩
  case round =>
    obtain ⟨k, hk, rfl, hT, hE⟩ := hrel
    obtain ⟨g0, g1, g2, g3, g4⟩ := Box5.cells (hE.block HBX.out : Box5 _ w.heap.size y0 y1 y2 y3 y4)
    have HEw := Lib.hid (HE.out.trans hE)
    by_cases hlt : k < l.length
    · obtain ⟨b, o, c1, e1, _, _, _⟩ := HV.out.opens (by omega)
      injection e1 with e1 e3 e4
      subst e1
      clear e3 e4
      have hx := List.getElem?_eq_getElem hlt
      obtain ⟨v0, v1, v2, v3, v4, hd, c0', c1', c2', c3', c4'⟩ := dats_cells HV.out hx
      have c0 := HEw.out.cell c0'
      have c1 := HEw.out.cell c1'
      have c2 := HEw.out.cell c2'
      have c3 := HEw.out.cell c3'
      have c4 := HEw.out.cell c4'
      clear c0' c1' c2' c3' c4'
      have hfx := FL.out _ (List.mem_of_getElem? hx)
      have HC := fun W (h : Ext w W) => Lib.hid (rref_Same _ d _ _ _ _ _ _ _ _ _ _ W (hd.ext h) (HD.out.ext h) hfx FD.out)
      have HX := Lib.hid hx
      clear hx hd hfx
      generalize l[k] = x at *
      have HCx := HC wr.drew (HEw.out.drew)
      cases hq : dsame x d with
      | true =>
        rw [hq] at HCx
        have HQ := Lib.hid (any_hit (p := fun x => dsame x d) HX.out hq)
        clear hq HC
        go_wp2
        go_region_with (go_at_call 29; refine (HCx.out).mono ?_; rintro e w' ⟨rfl, hb'⟩)
        all_goals go_wp2
        all_goals go_ret
        all_goals exact ⟨by rw [HQ.out]; rfl, (HEw.out.drew).trans hb'⟩
      | false =>
        rw [hq] at HCx
        have HQ := Lib.hid (any_take_step (p := fun x => dsame x d) HX.out hq hT.out)
        clear hq HC
        go_wp2
        go_region_with (go_at_call 29; refine (HCx.out).mono ?_; rintro e w' ⟨rfl, hb'⟩)
        all_goals go_wp2
        all_goals go_roundw
        all_goals first | exact ⟨k + 1, by omega, by go_num, HQ.out, (hE.drew).trans hb'⟩ | (simp [intOf]; omega)
    · have HQ := Lib.hid (any_all (by omega) hT.out)
      go_wp2
      go_ret
      exact ⟨by rw [HQ.out]; rfl, HEw.out⟩
end Go.Proofs.Ytfnelkcllaaebaa
end
section
/- Contract of ref03.SameSet. No condition but that slices read as lists, and the labels' sizes. -/
open Go.RowKit
set_option linter.unusedVariables false
set_option linter.unusedSimpArgs false
namespace Go.Proofs.Ytfnelkcllaaebaa
theorem inAll_comm (a b : List Dat) : inAll a b = a.all fun x => b.any fun y => dsame y x := by
  unfold inAll
  rw [List.all_eq_not_any_not]
  congr 2
  funext x
  congr 2
  funext y
  exact dsame_comm x y
theorem all_step {a b : List Dat} {k : Nat} {x : Dat} (hx : a[k]? = some x) (hp : (b.any fun y => dsame y x) = true) (h : inAll (a.take k) b = true) : inAll (a.take (k + 1)) b = true := by
  rw [inAll_comm] at *
  rw [List.take_add_one, hx, List.all_append, h]
  simp [hp]
theorem all_hit {a b : List Dat} {k : Nat} {x : Dat} (hx : a[k]? = some x) (hp : (b.any fun y => dsame y x) = false) : inAll a b = false := by
  rw [inAll_comm, List.all_eq_false]
  exact ⟨x, List.mem_of_getElem? hx, by rw [hp]; decide⟩
theorem all_end {a b : List Dat} {k : Nat} (hk : a.length ≤ k) (h : inAll (a.take k) b = true) : inAll a b = true := by rwa [List.take_of_length_le hk] at h
set_option maxHeartbeats 1000000 in
/-- ref03.SameSet. -/
theorem ref_SameSet (a b : List Dat) (va vb : Value) (w : World) (ha : DatsV w va a) (hb : DatsV w vb b) (fa : ∀ x ∈ a, DFit x) (fb : ∀ x ∈ b, DFit x) :
    Calls Try.prog 52 #[va, vb] w fun e w' => e = .returned (.bool (sameSets a b)) ∧ Ext w w' := by
  have hla := ha.len
  have hlb := hb.len
  unfold maxI at hla hlb
  have HA := Lib.hid ha
  have HB := Lib.hid hb
  have FA := Lib.hid fa
  have FB := Lib.hid fb
  obtain ⟨A, c, rfl, h1, h2⟩ := ha.form
  obtain ⟨A', c', rfl, h3, h4⟩ := hb.form
  have HM := Lib.hid (show sameSets a b = (inAll a b && inAll b a) from rfl)
  clear ha hb fa fb
  go_enter Try.func52, Try.ntmps52
  go_wp2
  go_loopw [5] (fun i wr => ∃ k : Nat, k ≤ a.length ∧ i = .int .i64 k ∧ Hid (inAll (a.take k) b = true) ∧ Ext w wr) (fun i _ => a.length - (intOf i).toNat)
  case atStart => exact ⟨0, by omega, rfl, rfl, Ext.refl _⟩
  case round =>
    obtain ⟨k, hk, rfl, hT, hE⟩ := hrel
    by_cases hlt : k < a.length
    · obtain ⟨p, o, c1, e1, _, _, _⟩ := HA.out.opens (by omega)
      injection e1 with e1 e3 e4
      subst e1
      clear e3 e4
      have hx := List.getElem?_eq_getElem hlt
      obtain ⟨v0, v1, v2, v3, v4, hd, c0', c1', c2', c3', c4'⟩ := dats_cells HA.out hx
      have g0 := hE.cell c0'
      have g1 := hE.cell c1'
      have g2 := hE.cell c2'
      have g3 := hE.cell c3'
      have g4 := hE.cell c4'
      clear c0' c1' c2' c3' c4'
      have HC := Lib.hid (ref_In b _ _ _ _ _ _ _ wr (HB.out.ext hE) (hd.ext hE) FB.out (FA.out _ (List.mem_of_getElem? hx)))
      have HX := Lib.hid hx
      clear hx hd
      generalize a[k] = x at *
      cases hq : b.any (fun y => dsame y x) with
      | true =>
        rw [hq] at HC
        have HQ := Lib.hid (all_step HX.out hq hT.out)
        clear hq
        go_wp2_with (go_at_call 111; refine (HC.out).mono ?_; rintro e w' ⟨rfl, hb'⟩)
        go_roundw
        case rel => exact ⟨k + 1, by omega, by go_num, HQ.out, hE.trans hb'⟩
        case measure => simp [intOf]; omega
      | false =>
        rw [hq] at HC
        have HQ := Lib.hid (all_hit HX.out hq)
        clear hq
        go_wp2_with (go_at_call 111; refine (HC.out).mono ?_; rintro e w' ⟨rfl, hb'⟩)
        go_ret
        exact ⟨by rw [HM.out, HQ.out]; rfl, hE.trans hb'⟩
    · have HQa := Lib.hid (all_end (by omega) hT.out)
      have HEa := Lib.hid hE
      clear hT hE
      go_wp2
      go_loopw [6] (fun i wr => ∃ k : Nat, k ≤ b.length ∧ i = .int .i64 k ∧ Hid (inAll (b.take k) a = true) ∧ Ext w wr) (fun i _ => b.length - (intOf i).toNat)
      case atStart => exact ⟨0, by omega, rfl, rfl, HEa.out⟩
      case round =>
        obtain ⟨k, hk, rfl, hT, hE⟩ := hrel
        by_cases hlt : k < b.length
        · obtain ⟨p, o, c1, e1, _, _, _⟩ := HB.out.opens (by omega)
          injection e1 with e1 e3 e4
          subst e1
          clear e3 e4
          have hx := List.getElem?_eq_getElem hlt
          obtain ⟨v0, v1, v2, v3, v4, hd, c0', c1', c2', c3', c4'⟩ := dats_cells HB.out hx
          have g0 := hE.cell c0'
          have g1 := hE.cell c1'
          have g2 := hE.cell c2'
          have g3 := hE.cell c3'
          have g4 := hE.cell c4'
          clear c0' c1' c2' c3' c4'
          have HC := Lib.hid (ref_In a _ _ _ _ _ _ _ wr (HA.out.ext hE) (hd.ext hE) FA.out (FB.out _ (List.mem_of_getElem? hx)))
          have HX := Lib.hid hx
          clear hx hd
          generalize b[k] = x at *
          cases hq : a.any (fun y => dsame y x) with
          | true =>
            rw [hq] at HC
            have HQ := Lib.hid (all_step HX.out hq hT.out)
            clear hq
            go_wp2_with (go_at_call 111; refine (HC.out).mono ?_; rintro e w' ⟨rfl, hb'⟩)
            go_roundw
            case rel => exact ⟨k + 1, by omega, by go_num, HQ.out, hE.trans hb'⟩
            case measure => simp [intOf]; omega
          | false =>
            rw [hq] at HC
            have HQ := Lib.hid (all_hit HX.out hq)
            clear hq
            go_wp2_with (go_at_call 111; refine (HC.out).mono ?_; rintro e w' ⟨rfl, hb'⟩)
            go_ret
            exact ⟨by rw [HM.out, HQa.out, HQ.out]; rfl, hE.trans hb'⟩
        · have HQb := Lib.hid (all_end (by omega) hT.out)
          go_wp2
          go_ret
          exact ⟨by rw [HM.out, HQa.out, HQb.out]; rfl, hE⟩
end Go.Proofs.Ytfnelkcllaaebaa
end
section
/- Records: how they read. No condition. -/
open Go.RowKit
set_option linter.unusedVariables false
set_option linter.unusedSimpArgs false
namespace Go.Proofs.Ytfnelkcllaaebaa
structure Rec where
  name : List Str
  type : Int
  cls : Int
  ttl : Int
  data : Dat
/-- The nine cells read as a record. -/
def RecR (w : World) (cs : List Value) (r : Rec) : Prop := ∃ vn v0 v1 v2 v3 v4, cs = [vn, .int .i64 r.type, .int .i64 r.cls, .int .i64 r.ttl, v0, v1, v2, v3, v4] ∧ NameV w vn r.name ∧ DR w v0 v1 v2 v3 v4 r.data
theorem RecR.ext {w w' : World} {cs : List Value} {r : Rec} (h : RecR w cs r) (hE : Ext w w') : RecR w' cs r := by
  obtain ⟨vn, v0, v1, v2, v3, v4, h, hn, h0⟩ := h; exact ⟨vn, v0, v1, v2, v3, v4, h, hn.ext hE, h0.ext hE⟩
abbrev RecsV (w : World) (v : Value) (l : List Rec) : Prop := Sl RecR 9 w v l
theorem RecsV.ext {w w' : World} {v : Value} {l : List Rec} (h : RecsV w v l) (hE : Ext w w') : RecsV w' v l := Sl.ext (R := RecR) (fun h hE => RecR.ext h hE) h hE
def RFit (r : Rec) : Prop := Fits r.name ∧ DFit r.data
/-- An element's nine cells. -/
theorem recs_cells {w : World} {b o n c : Nat} {l : List Rec} {k : Nat} {x : Rec} (h : RecsV w (.slice (some ⟨b, o, none⟩) n c) l) (hx : l[k]? = some x) :
    ∃ vn v0 v1 v2 v3 v4, NameV w vn x.name ∧ DR w v0 v1 v2 v3 v4 x.data ∧ w.cell? ⟨b, o + k * 9, none⟩ = some vn ∧ w.cell? ⟨b, o + k * 9 + 1, none⟩ = some (.int .i64 x.type) ∧ w.cell? ⟨b, o + k * 9 + 2, none⟩ = some (.int .i64 x.cls) ∧ w.cell? ⟨b, o + k * 9 + 3, none⟩ = some (.int .i64 x.ttl) ∧
      w.cell? ⟨b, o + k * 9 + 4, none⟩ = some v0 ∧ w.cell? ⟨b, o + k * 9 + 5, none⟩ = some v1 ∧ w.cell? ⟨b, o + k * 9 + 6, none⟩ = some v2 ∧ w.cell? ⟨b, o + k * 9 + 7, none⟩ = some v3 ∧ w.cell? ⟨b, o + k * 9 + 8, none⟩ = some v4 := by
  have hk : 0 < l.length := by have := (List.getElem?_eq_some_iff.1 hx).1; omega
  obtain ⟨A, c', e, _, _, h3⟩ := h
  obtain ⟨b', o', rfl, hc⟩ := h3 hk
  injection e with e _ _
  injection e with e
  injection e with e1 e2 _
  subst e1 e2
  obtain ⟨cs, _, ⟨vn, v0, v1, v2, v3, v4, rfl, hn, hd⟩, hcell⟩ := hc k x hx
  exact ⟨vn, v0, v1, v2, v3, v4, hn, hd, by simpa using hcell 0 vn rfl, by simpa [Nat.add_assoc] using hcell 1 _ rfl, by simpa [Nat.add_assoc] using hcell 2 _ rfl, by simpa [Nat.add_assoc] using hcell 3 _ rfl,
    by simpa [Nat.add_assoc] using hcell 4 v0 rfl, by simpa [Nat.add_assoc] using hcell 5 v1 rfl, by simpa [Nat.add_assoc] using hcell 6 v2 rfl, by simpa [Nat.add_assoc] using hcell 7 v3 rfl, by simpa [Nat.add_assoc] using hcell 8 v4 rfl⟩
end Go.Proofs.Ytfnelkcllaaebaa
end
section
/- Contract of law05.light. No condition but that slices read as lists. -/
open Go.RowKit
set_option linter.unusedVariables false
set_option linter.unusedSimpArgs false
namespace Go.Proofs.Ytfnelkcllaaebaa
def lightR (r : Rec) : Bool := decide (r.name.length ≤ 200 ∧ r.data.host.length ≤ 200 ∧ r.data.mail.length ≤ 200 ∧ r.data.texts.length ≤ 100 ∧ r.data.nums.length ≤ 100 ∧ r.data.bytes.length ≤ 66000)
def light5 (l : List Rec) : Bool := l.all lightR && decide (l.length ≤ 60)
theorem l5_step {l : List Rec} {k : Nat} {x : Rec} (hx : l[k]? = some x) (hp : lightR x = true) (h : (l.take k).all lightR = true) : (l.take (k + 1)).all lightR = true := by
  rw [List.take_add_one, hx, List.all_append, h]
  simp [hp]
theorem l5_hit {l : List Rec} {k : Nat} {x : Rec} (hx : l[k]? = some x) (hp : lightR x = false) : light5 l = false := by
  have : l.all lightR = false := by rw [List.all_eq_false]; exact ⟨x, List.mem_of_getElem? hx, by rw [hp]; decide⟩
  unfold light5; rw [this]; rfl
theorem l5_end {l : List Rec} {k : Nat} (hk : l.length ≤ k) (h : (l.take k).all lightR = true) : light5 l = decide (l.length ≤ 60) := by
  rw [List.take_of_length_le hk] at h
  unfold light5; rw [h]; rfl
set_option maxRecDepth 100000 in
set_option maxHeartbeats 1000000 in
theorem law05_light (l : List Rec) (v : Value) (w : World) (hv : RecsV w v l) :
    Calls Try.prog 46 #[v] w fun e w' => e = .returned (.bool (light5 l)) ∧ Ext w w' := by
  have hl := hv.len
  unfold maxI at hl
  have HV := Lib.hid hv
  obtain ⟨A, c, rfl, h1, h2⟩ := hv.form
  clear hv
  go_enter Try.func46, Try.ntmps46
  go_wp2
  go_loopw [3, 4] (fun i _ wr => ∃ k : Nat, k ≤ l.length ∧ i = .int .i64 k ∧ Hid ((l.take k).all lightR = true) ∧ Ext w wr) (fun i _ _ => l.length - (intOf i).toNat)
  case atStart => exact ⟨0, by omega, rfl, rfl, Ext.refl _⟩
  case round =>
    obtain ⟨k, hk, rfl, hT, hE⟩ := hrel
    by_cases hlt : k < l.length
    · obtain ⟨b, o, c1, e1, _, _, _⟩ := HV.out.opens (by omega)
      injection e1 with e1 e3 e4
      subst e1
      clear e3 e4
      have hx := List.getElem?_eq_getElem hlt
      obtain ⟨vn, v0, v1, v2, v3, v4, hn, hd, cn, _, _, _, c4', c5', c6', c7', c8'⟩ := recs_cells HV.out hx
      obtain ⟨An, kn, rfl, ln, mn⟩ := hn.form
      obtain ⟨A0, k0, rfl, l0, m0⟩ := hd.by_.form
      obtain ⟨A1, k1, rfl, l1, m1⟩ := hd.ho.form
      obtain ⟨A2, k2, rfl, l2, m2⟩ := hd.ma.form
      obtain ⟨A3, k3, rfl, l3, m3⟩ := hd.nu.form
      obtain ⟨A4, k4, rfl, l4, m4⟩ := hd.tx.form
      have g4 := hE.cell c4'
      have g5 := hE.cell c5'
      have g6 := hE.cell c6'
      have g7 := hE.cell c7'
      have g8 := hE.cell c8'
      have hEa := hE.alloc (.cells #[.slice A0 l[k].data.bytes.length k0, .slice A1 l[k].data.host.length k1, .slice A2 l[k].data.mail.length k2, .slice A3 l[k].data.nums.length k3, .slice A4 l[k].data.texts.length k4] 26)
      have gn := hEa.cell cn
      have HEa := Lib.hid hEa
      clear cn c4' c5' c6' c7' c8' hn hd hEa
      have HX := Lib.hid hx
      clear hx
      generalize l[k] = x at *
      unfold maxI at m0 m1 m2 m3 m4 mn
      by_cases hq : lightR x = true
      · have HQ := Lib.hid (l5_step HX.out hq hT.out)
        unfold lightR at hq
        rw [decide_eq_true_eq] at hq
        obtain ⟨q1, q2, q3, q4, q5, q6⟩ := hq
        go_wp2
        go_roundw
        case rel => exact ⟨k + 1, by omega, by go_num, HQ.out, HEa.out⟩
        case measure => simp [intOf]; omega
      · have HQ := Lib.hid (l5_hit HX.out (by simpa using hq))
        unfold lightR at hq
        rw [decide_eq_true_eq] at hq
        have HN := Lib.hid hq
        clear hq
        go_wp2
        all_goals first
          | (go_ret
             exact ⟨by rw [HQ.out]; rfl, HEa.out⟩)
          | (exfalso; exact HN.out ⟨by omega, by omega, by omega, by omega, by omega, by omega⟩)
    · have HQ := Lib.hid (l5_end (by omega) hT.out)
      go_wp2
      go_ret
      exact ⟨ret_eq (bool_eq (by rw [HQ.out, decide_eq_decide]; omega)), hE⟩
end Go.Proofs.Ytfnelkcllaaebaa
end
section
/- Contract of ref03.Exact. No condition but that slices read as lists, and the labels' sizes. -/
open Go.RowKit
set_option linter.unusedVariables false
set_option linter.unusedSimpArgs false
namespace Go.Proofs.Ytfnelkcllaaebaa
def dexact (a b : Dat) : Bool := dsame a b && (decide (a.host = b.host) && decide (a.mail = b.mail))
set_option maxRecDepth 100000 in
/-- ref03.Exact. -/
theorem rref_Exact (a b : Dat) (a0 a1 a2 a3 a4 b0 b1 b2 b3 b4 : Value) (w : World) (ha : DR w a0 a1 a2 a3 a4 a) (hb : DR w b0 b1 b2 b3 b4 b) (fa : DFit a) (fb : DFit b) :
    Calls Try.prog 50 #[.agg #[a0, a1, a2, a3, a4], .agg #[b0, b1, b2, b3, b4]] w fun e w' => e = .returned (.bool (dexact a b)) ∧ Ext w w' := by
  have HM := Lib.hid (show dexact a b = (dsame a b && (decide (a.host = b.host) && decide (a.mail = b.mail))) from rfl)
  have HA := Lib.hid ha
  have HB := Lib.hid hb
  have FA := Lib.hid fa
  have FB := Lib.hid fb
  have HT := Lib.hid (two_start w a0 a1 a2 a3 a4 b0 b1 b2 b3 b4)
  clear ha hb fa fb
  go_enter Try.func50, Try.ntmps50
  go_wp2_with fail
  refine (rref_Same a b _ _ _ _ _ _ _ _ _ _ _ (HA.out.ext HT.out.ext) (HB.out.ext HT.out.ext) FA.out FB.out).mono ?_
  rintro e w1 ⟨rfl, h1⟩
  have HT1 := Lib.hid (HT.out.step h1)
  clear h1
  generalize dsame a b = β at *
  cases β
  · go_wp2
    go_ret
    exact ⟨by rw [HM.out]; rfl, HT1.out.ext⟩
  · obtain ⟨c0, c1, c2, c3, c4⟩ := HT1.out.ca
    obtain ⟨d0, d1, d2, d3, d4⟩ := HT1.out.cb
    go_wp2_with fail
    refine (ref_Exact _ _ _ _ _ (HA.out.ext HT1.out.ext).ho (HB.out.ext HT1.out.ext).ho).mono ?_
    rintro e w2 ⟨rfl, h1⟩
    have HT2 := Lib.hid (HT1.out.step h1.ext)
    clear h1 c0 c1 c2 c3 c4 d0 d1 d2 d3 d4
    generalize decide (a.host = b.host) = β at *
    cases β
    · go_wp2
      go_ret
      exact ⟨by rw [HM.out]; rfl, HT2.out.ext⟩
    · obtain ⟨c0, c1, c2, c3, c4⟩ := HT2.out.ca
      obtain ⟨d0, d1, d2, d3, d4⟩ := HT2.out.cb
      go_wp2_with fail
      refine (ref_Exact _ _ _ _ _ (HA.out.ext HT2.out.ext).ma (HB.out.ext HT2.out.ext).ma).mono ?_
      rintro e w3 ⟨rfl, h1⟩
      have HT3 := Lib.hid (HT2.out.step h1.ext)
      clear h1
      go_wp2
      go_ret
      exact ⟨by rw [HM.out]; rfl, HT3.out.ext⟩
end Go.Proofs.Ytfnelkcllaaebaa
end
