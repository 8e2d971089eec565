/- Parts of one proof, joined: OwnM, RrOwn, IdxD, Sets, Sets2, Sets3, Rec, Light5, RExact. Conditions: those that each theorem states. -/
import Derived.Test.YtfnelkcllaaebaaEB8
import Derived.Test.YtfnelkcllaaebaaEB9
import Derived.Test.YtfnelkcllaaebaaEB3
import Derived.Deep.RegionWith
section
/- Rows of the call's own whose elements take several cells: append of one. No condition. -/
open Go.RowKit
set_option linter.unusedVariables false
set_option linter.unusedSimpArgs false
namespace Go.Proofs.Ytfnelkcllaaebaa
/-- A slice of structs that the call itself owns, from block base on. -/
def OwnM {α : Type} (R : World → List Value → α → Prop) (e : TypeId) (sz : Nat) (w : World) (base : Nat) (v : Value) (l : List α) : Prop :=
  ∃ css : List (List Value), w.ownsRow base e sz v l.length css.flatten ∧ css.length = l.length ∧ ∀ (j : Nat) (cs : List Value) (x : α), css[j]? = some cs → l[j]? = some x → cs.length = sz ∧ R w cs x
/-- R outlives a turn of a row of type e. -/
def Keeps {α : Type} (R : World → List Value → α → Prop) (e : TypeId) : Prop :=
  ∀ w w' row cs x, w.grownBy w' row → (∀ k, row = some k → ∃ cur, w.heap[k]? = some (.cells cur e (0, 0))) → R w cs x → R w' cs x
theorem OwnM.nil {α : Type} (R : World → List Value → α → Prop) (e : TypeId) (sz : Nat) (w : World) (base : Nat) : OwnM R e sz w base (.slice none 0 0) [] :=
  ⟨[], World.ownsRow_nil w base e sz, rfl, by simp⟩
theorem OwnM.base_le {α : Type} {R : World → List Value → α → Prop} {e : TypeId} {sz : Nat} {w : World} {base : Nat} {v : Value} {l : List α} (h : OwnM R e sz w base v l) (k : Nat) (hk : v.ownBlock = some k) : base ≤ k := by
  obtain ⟨css, h, _⟩ := h; exact own_base h k hk
theorem OwnM.type {α : Type} {R : World → List Value → α → Prop} {e : TypeId} {sz : Nat} {w : World} {base : Nat} {v : Value} {l : List α} (h : OwnM R e sz w base v l) (k : Nat) (hk : v.ownBlock = some k) : ∃ cur, w.heap[k]? = some (.cells cur e (0, 0)) := by
  obtain ⟨css, h, _⟩ := h
  rcases h.2 with ⟨rfl, _⟩ | ⟨g, cap, cur, rfl, _, hg, _⟩
  · simp [Value.ownBlock] at hk
  · simp [Value.ownBlock] at hk; subst hk; exact ⟨cur, hg⟩
theorem OwnM.slice {α : Type} {R : World → List Value → α → Prop} {e : TypeId} {sz : Nat} {w : World} {base : Nat} {v : Value} {l : List α} (h : OwnM R e sz w base v l) : ∃ A c, v = .slice A l.length c ∧ l.length ≤ c ∧ c ≤ maxI := by
  obtain ⟨css, h, _⟩ := h
  rcases h.2 with ⟨rfl, h2⟩ | ⟨g, cap, cur, rfl, _, _, h1, h2, _⟩
  · exact ⟨none, 0, by rw [h2], by omega, by decide⟩
  · exact ⟨_, cap, rfl, h1, by simpa [maxLen] using h2⟩
/-- Where nothing old turns, or what turns is another row. -/
theorem OwnM.kept {α : Type} {R : World → List Value → α → Prop} {e : TypeId} {sz : Nat} {w w1 : World} {base : Nat} {v : Value} {l : List α} (h : OwnM R e sz w base v l) (hR : ∀ cs x, R w cs x → R w1 cs x) {row : Option Nat} (hg : w.grownBy w1 row) (hrow : row = none ∨ v.ownBlock ≠ row) : OwnM R e sz w1 base v l := by
  obtain ⟨css, h, hl, hj⟩ := h
  exact ⟨css, World.ownsRow.kept h hg (hrow.elim (fun h9 => by subst h9; cases v.ownBlock <;> simp) (fun h9 => .inr h9)), hl, fun j cs x h1 h2 => ⟨(hj j cs x h1 h2).1, hR _ _ (hj j cs x h1 h2).2⟩⟩
theorem OwnM.ext {α : Type} {R : World → List Value → α → Prop} {e : TypeId} {sz : Nat} {w w1 : World} {base : Nat} {v : Value} {l : List α} (h : OwnM R e sz w base v l) (hR : ∀ cs x, R w cs x → R w1 cs x) (hE : Ext w w1) : OwnM R e sz w1 base v l :=
  h.kept hR (grown_ext w w1 hE none) (.inl rfl)
section
variable {P : Program} {ops : Array Oper} {rest : List Oper} {o : Oper} {a : Act} {Q : Exit → Act → World → Prop}
/-- append(v, y): the goal's world is 'W.alloc' of the variadic's box. -/
theorem wpList_appM {α : Type} (R : World → List Value → α → Prop) {W : World} (base : Nat) (hgd : o.guard = none) (s x : Operand) (t e : TypeId) (z : Value) (sz bytes : Nat)
    (ho : o.op = .call { callee := .builtin .append, args := #[s, x], argTypes := #[t, t] })
    (ht : P.underlying t = some (.slice e)) (hinfo : (P.info? e).map (fun i => (i.zero, i.size, i.bytes)) = some (some z, sz, bytes)) (hz : z.cells.size = sz) (hsz : 0 < sz) (hb0 : 0 < bytes)
    (hk : Keeps R e) (hkE : ∀ w w' cs x, Ext w w' → R w cs x → R w' cs x)
    (v : Value) (l : List α) (y : α) (cs : Array Value) (hcs : cs.size = sz) (hs : a.eval s = v) (hx : a.eval x = .slice (some ⟨W.heap.size, 0, none⟩) 1 1) (h1 : ∀ u ∈ cs.toList, u.oneCell' = true)
    (hy : R W cs.toList y) (HO : OwnM R e sz W base v l) (hbase : base ≤ W.heap.size) (hl : (l.length + 1) * bytes ≤ 140737488355328)
    (h : ∀ v1 w1, OwnM R e sz w1 base v1 (l ++ [y]) → W.grownBy w1 v.ownBlock → wpList P ops Q rest (a.put o.dst v1) w1) :
    wpList P ops Q (o :: rest) a (W.alloc (.cells cs e)) := by
  obtain ⟨i0, hi, hzz⟩ := Option.map_eq_some_iff.1 hinfo
  simp only [Prod.mk.injEq] at hzz
  obtain ⟨hz0, hz1, hz2⟩ := hzz
  have hlen : l.length + 1 ≤ 140737488355328 := Nat.le_trans (Nat.le_mul_of_pos_right _ hb0) hl
  have htype := HO.type
  obtain ⟨css, hO, hcl, hj⟩ := HO
  refine wpList_append_own_at (W.alloc (.cells cs e)) hgd s x t ho base e i0 z sz bytes ht hi hz0 hz1 hz2 hz hsz v l.length css.flatten hs (World.ownsRow.alloc hO _) ⟨W.heap.size, 0, none⟩ 1 1 cs.toList hx (by simp [hcs])
    (World.news_of_block (cs := cs) (t := e) (fr := (0, 0)) (heap_alloc_new W _)) h1 (by simp only [maxLen]; omega) hl (by simp; omega) ?_
  intro v1 w1 hown hg _ hat
  have hg2 : W.grownBy w1 v.ownBlock := World.grownBy.trans (World.grownBy_alloc W _ _) hg
  have hR : ∀ cs x, R W cs x → R w1 cs x := fun cs x h => hk W w1 v.ownBlock cs x hg2 htype h
  refine h v1 w1 ⟨css ++ [cs.toList], ?_, by simp [hcl], ?_⟩ hg2
  · simpa using hown
  · intro j c x hc hx2
    rcases Nat.lt_or_ge j l.length with h2 | h2
    · rw [List.getElem?_append_left (by omega)] at hc hx2
      exact ⟨(hj j c x hc hx2).1, hR _ _ (hj j c x hc hx2).2⟩
    · rw [List.getElem?_append_right (by omega)] at hc hx2
      rw [hcl] at hc
      cases hq : j - l.length with
      | zero =>
        rw [hq] at hc hx2
        simp at hc hx2
        subst hc hx2
        exact ⟨by simp [hcs], hR _ _ hy⟩
      | succ q => rw [hq] at hc; simp at hc
end
end Go.Proofs.Ytfnelkcllaaebaa
end
section
/- Contract of rr.Own. No condition but that slices read as lists, and room. -/
open Go.RowKit
set_option linter.unusedVariables false
set_option linter.unusedSimpArgs false
namespace Go.Proofs.Ytfnelkcllaaebaa
/-- The five cells of a Data whose rows are the call's own. -/
def DatN (w : World) (base : Nat) (cs : List Value) (d : Dat) : Prop := ∃ v0 v1 v2 v3 v4, cs = [v0, v1, v2, v3, v4] ∧
  NewS vByte 5 w base v0 d.bytes ∧ NewS Value.string 9 w base v1 d.host ∧ NewS Value.string 9 w base v2 d.mail ∧ NewS vInt 3 w base v3 d.nums ∧ NewS Value.string 9 w base v4 d.texts
theorem DatN.ext {w w' : World} {base : Nat} {cs : List Value} {d : Dat} (h : DatN w base cs d) (he : Ext w w') : DatN w' base cs d := by
  obtain ⟨v0, v1, v2, v3, v4, h, h0, h1, h2, h3, h4⟩ := h
  exact ⟨v0, v1, v2, v3, v4, h, h0.ext he, h1.ext he, h2.ext he, h3.ext he, h4.ext he⟩
theorem DatN.dr {w : World} {base : Nat} {cs : List Value} {d : Dat} (h : DatN w base cs d) : ∃ v0 v1 v2 v3 v4, cs = [v0, v1, v2, v3, v4] ∧ DR w v0 v1 v2 v3 v4 d := by
  obtain ⟨v0, v1, v2, v3, v4, h, h0, h1, h2, h3, h4⟩ := h
  exact ⟨v0, v1, v2, v3, v4, h, h0.1, h1.1, h2.1, h3.1, h4.1⟩
/-- A row of another type turns. -/
theorem NewS.grown {α : Type} {V : α → Value} {e e' : TypeId} {w w' : World} {base : Nat} {v : Value} {l : List α} {row : Option Nat} (h : NewS V e w base v l) (hg : w.grownBy w' row) (ht : ∀ k, row = some k → ∃ cur, w.heap[k]? = some (.cells cur e' (0, 0))) (hne : e' ≠ e) : NewS V e w' base v l := by
  by_cases hl : l = []
  · subst hl
    obtain ⟨A, c, rfl, h1, h2, _⟩ := h.1
    exact ⟨⟨A, c, rfl, h1, h2, by simp⟩, fun h => absurd rfl h⟩
  · have : OwnL V e w' base v l := World.ownsRow.kept (h.2 hl) hg (by
      cases hv : v.ownBlock with
      | none => exact .inl rfl
      | some k =>
        refine .inr fun hr => ?_
        obtain ⟨cur, h1⟩ := ht k hr.symm
        obtain ⟨cur', h2⟩ := h.type hl hv
        rw [h1] at h2
        injection h2 with h2
        injection h2 with _ h2 _
        exact hne h2)
    exact ⟨this.fl, fun _ => this⟩
end Go.Proofs.Ytfnelkcllaaebaa
end
section
/- Contracts of slices.IndexFunc and slices.ContainsFunc over Data, whatever predicate that pays its premise. -/
open Go.RowKit
set_option linter.unusedVariables false
set_option linter.unusedSimpArgs false
namespace Go.Proofs.Ytfnelkcllaaebaa
end Go.Proofs.Ytfnelkcllaaebaa
end
section
/- Contracts of rr.among, rr.Same, ref03.In, ref03.SameSet. No condition but that slices read as lists, and the labels' sizes. -/
open Go.RowKit
set_option linter.unusedVariables false
set_option linter.unusedSimpArgs false
namespace Go.Proofs.Ytfnelkcllaaebaa
end Go.Proofs.Ytfnelkcllaaebaa
end
section
/- Contracts of rr.Same, ref03.In, ref03.SameSet. No condition but that slices read as lists, and the labels' sizes. -/
open Go.RowKit
set_option linter.unusedVariables false
set_option linter.unusedSimpArgs false
namespace Go.Proofs.Ytfnelkcllaaebaa
end Go.Proofs.Ytfnelkcllaaebaa
end
section
/- Contract of ref03.SameSet. No condition but that slices read as lists, and the labels' sizes. -/
open Go.RowKit
set_option linter.unusedVariables false
set_option linter.unusedSimpArgs false
namespace Go.Proofs.Ytfnelkcllaaebaa
end Go.Proofs.Ytfnelkcllaaebaa
end
section
/- Records: how they read. No condition. -/
open Go.RowKit
set_option linter.unusedVariables false
set_option linter.unusedSimpArgs false
namespace Go.Proofs.Ytfnelkcllaaebaa
structure Rec where
  name : List Str
  type : Int
  cls : Int
  ttl : Int
  data : Dat
/-- The nine cells read as a record. -/
def RecR (w : World) (cs : List Value) (r : Rec) : Prop := ∃ vn v0 v1 v2 v3 v4, cs = [vn, .int .i64 r.type, .int .i64 r.cls, .int .i64 r.ttl, v0, v1, v2, v3, v4] ∧ NameV w vn r.name ∧ DR w v0 v1 v2 v3 v4 r.data
theorem RecR.ext {w w' : World} {cs : List Value} {r : Rec} (h : RecR w cs r) (hE : Ext w w') : RecR w' cs r := by
  obtain ⟨vn, v0, v1, v2, v3, v4, h, hn, h0⟩ := h; exact ⟨vn, v0, v1, v2, v3, v4, h, hn.ext hE, h0.ext hE⟩
abbrev RecsV (w : World) (v : Value) (l : List Rec) : Prop := Sl RecR 9 w v l
theorem RecsV.ext {w w' : World} {v : Value} {l : List Rec} (h : RecsV w v l) (hE : Ext w w') : RecsV w' v l := Sl.ext (R := RecR) (fun h hE => RecR.ext h hE) h hE
def RFit (r : Rec) : Prop := Fits r.name ∧ DFit r.data
/-- An element's nine cells. -/
theorem recs_cells {w : World} {b o n c : Nat} {l : List Rec} {k : Nat} {x : Rec} (h : RecsV w (.slice (some ⟨b, o, none⟩) n c) l) (hx : l[k]? = some x) :
    ∃ vn v0 v1 v2 v3 v4, NameV w vn x.name ∧ DR w v0 v1 v2 v3 v4 x.data ∧ w.cell? ⟨b, o + k * 9, none⟩ = some vn ∧ w.cell? ⟨b, o + k * 9 + 1, none⟩ = some (.int .i64 x.type) ∧ w.cell? ⟨b, o + k * 9 + 2, none⟩ = some (.int .i64 x.cls) ∧ w.cell? ⟨b, o + k * 9 + 3, none⟩ = some (.int .i64 x.ttl) ∧
      w.cell? ⟨b, o + k * 9 + 4, none⟩ = some v0 ∧ w.cell? ⟨b, o + k * 9 + 5, none⟩ = some v1 ∧ w.cell? ⟨b, o + k * 9 + 6, none⟩ = some v2 ∧ w.cell? ⟨b, o + k * 9 + 7, none⟩ = some v3 ∧ w.cell? ⟨b, o + k * 9 + 8, none⟩ = some v4 := by
  have hk : 0 < l.length := by have := (List.getElem?_eq_some_iff.1 hx).1; omega
  obtain ⟨A, c', e, _, _, h3⟩ := h
  obtain ⟨b', o', rfl, hc⟩ := h3 hk
  injection e with e _ _
  injection e with e
  injection e with e1 e2 _
  subst e1 e2
  obtain ⟨cs, _, ⟨vn, v0, v1, v2, v3, v4, rfl, hn, hd⟩, hcell⟩ := hc k x hx
  exact ⟨vn, v0, v1, v2, v3, v4, hn, hd, by simpa using hcell 0 vn rfl, by simpa [Nat.add_assoc] using hcell 1 _ rfl, by simpa [Nat.add_assoc] using hcell 2 _ rfl, by simpa [Nat.add_assoc] using hcell 3 _ rfl,
    by simpa [Nat.add_assoc] using hcell 4 v0 rfl, by simpa [Nat.add_assoc] using hcell 5 v1 rfl, by simpa [Nat.add_assoc] using hcell 6 v2 rfl, by simpa [Nat.add_assoc] using hcell 7 v3 rfl, by simpa [Nat.add_assoc] using hcell 8 v4 rfl⟩
end Go.Proofs.Ytfnelkcllaaebaa
end
section
/- Contract of law05.light. No condition but that slices read as lists. -/
open Go.RowKit
set_option linter.unusedVariables false
set_option linter.unusedSimpArgs false
namespace Go.Proofs.Ytfnelkcllaaebaa
end Go.Proofs.Ytfnelkcllaaebaa
end
section
/- Contract of ref03.Exact. No condition but that slices read as lists, and the labels' sizes. -/
open Go.RowKit
set_option linter.unusedVariables false
set_option linter.unusedSimpArgs false
namespace Go.Proofs.Ytfnelkcllaaebaa
end Go.Proofs.Ytfnelkcllaaebaa
end
