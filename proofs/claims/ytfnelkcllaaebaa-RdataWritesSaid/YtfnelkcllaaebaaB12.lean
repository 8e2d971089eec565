/- Parts of one proof, joined: OwnRR, OwnM2, RrSet, RefSet. Conditions: those that each theorem states. -/
import Derived.Test.YtfnelkcllaaebaaB11
section
/- Contract of ref03.OwnRRs. No condition but that slices read as lists, and room. -/
open Go.RowKit
set_option linter.unusedVariables false
set_option linter.unusedSimpArgs false
namespace Go.Proofs.Ytfnelkcllaaebaa
/-- The nine cells of a record whose rows are the call's own. -/
def RecN (w : World) (base : Nat) (cs : List Value) (r : Rec) : Prop := ∃ vn v0 v1 v2 v3 v4, cs = [vn, .int .i64 r.type, .int .i64 r.cls, .int .i64 r.ttl, v0, v1, v2, v3, v4] ∧ NewS Value.string 9 w base vn r.name ∧ DatN w base [v0, v1, v2, v3, v4] r.data
theorem RecN.ext {w w' : World} {base : Nat} {cs : List Value} {r : Rec} (h : RecN w base cs r) (he : Ext w w') : RecN w' base cs r := by
  obtain ⟨vn, v0, v1, v2, v3, v4, h, hn, hd⟩ := h
  exact ⟨vn, v0, v1, v2, v3, v4, h, hn.ext he, hd.ext he⟩
theorem DatN.grown {w w' : World} {base : Nat} {cs : List Value} {d : Dat} {row : Option Nat} {e' : TypeId} (h : DatN w base cs d) (hg : w.grownBy w' row) (ht : ∀ k, row = some k → ∃ cur, w.heap[k]? = some (.cells cur e' (0, 0))) (h5 : e' ≠ 5) (h9 : e' ≠ 9) (h3 : e' ≠ 3) : DatN w' base cs d := by
  obtain ⟨v0, v1, v2, v3, v4, h, g0, g1, g2, g3, g4⟩ := h
  exact ⟨v0, v1, v2, v3, v4, h, g0.grown hg ht h5, g1.grown hg ht h9, g2.grown hg ht h9, g3.grown hg ht h3, g4.grown hg ht h9⟩
theorem recN_keeps (base : Nat) : Keeps (fun w cs r => RecN w base cs r) 49 := by
  intro w w' row cs r hg ht h
  obtain ⟨vn, v0, v1, v2, v3, v4, h, hn, hd⟩ := h
  exact ⟨vn, v0, v1, v2, v3, v4, h, hn.grown hg ht (by decide), hd.grown hg ht (by decide) (by decide) (by decide)⟩
theorem grown_set (w : World) (b o : Nat) (u : Value) : w.grownBy (w.setCell ⟨b, o, none⟩ u) (some b) := ⟨rfl, rfl, rfl, by simp [World.setCell], fun k hk hn => Below.heap_setCell w ⟨b, o, none⟩ u k (fun e => hn (by rw [e]))⟩
/-- A box of the same type, not the row's own, is written. -/
theorem OwnM.box {α : Type} {R : World → List Value → α → Prop} {e : TypeId} {sz : Nat} {w : World} {base : Nat} {v : Value} {l : List α} (h : OwnM R e sz w base v l) (hk : Keeps R e) {b : Nat} (hb : ∃ cur, w.heap[b]? = some (.cells cur e (0, 0))) (hne : v.ownBlock ≠ some b) (o : Nat) (u : Value) : OwnM R e sz (w.setCell ⟨b, o, none⟩ u) base v l :=
  h.kept (fun cs x hr => hk w _ (some b) cs x (grown_set w b o u) (fun k hk => by injection hk with hk; subst hk; exact hb) hr) (grown_set w b o u) (.inr hne)
theorem OwnM.lt {α : Type} {R : World → List Value → α → Prop} {e : TypeId} {sz : Nat} {w : World} {base : Nat} {v : Value} {l : List α} (h : OwnM R e sz w base v l) (k : Nat) (hk : v.ownBlock = some k) : k < w.heap.size := by
  obtain ⟨cur, h1⟩ := h.type k hk
  exact (Array.getElem?_eq_some_iff.1 h1).1
/-- A block of a type. -/
def Typed (w : World) (b : Nat) (e : TypeId) : Prop := ∃ cur, w.heap[b]? = some (.cells cur e (0, 0))
theorem Typed.set {w : World} {b : Nat} {e : TypeId} (h : Typed w b e) (p : Addr) (u : Value) : Typed (w.setCell p u) b e := by
  obtain ⟨cur, h⟩ := h
  by_cases hp : p.block = b
  · subst hp
    exact ⟨_, by simp [World.setCell, Array.getElem?_modify, h]; rfl⟩
  · exact ⟨cur, (Below.heap_setCell w p u b (fun e => hp e.symm)).trans h⟩
theorem NewS.box {α : Type} {V : α → Value} {e e' : TypeId} {w : World} {base : Nat} {v : Value} {l : List α} (h : NewS V e w base v l) {b : Nat} (hb : Typed w b e') (hne : e' ≠ e) (o : Nat) (u : Value) : NewS V e (w.setCell ⟨b, o, none⟩ u) base v l :=
  h.grown (grown_set w b o u) (fun k hk => by injection hk with hk; subst hk; exact hb) hne
theorem DatN.box {w : World} {base : Nat} {cs : List Value} {d : Dat} {e' : TypeId} (h : DatN w base cs d) {b : Nat} (hb : Typed w b e') (h5 : e' ≠ 5) (h9 : e' ≠ 9) (h3 : e' ≠ 3) (o : Nat) (u : Value) : DatN (w.setCell ⟨b, o, none⟩ u) base cs d :=
  h.grown (grown_set w b o u) (fun k hk => by injection hk with hk; subst hk; exact hb) h5 h9 h3
/-- A box of nine cells. -/
def Box9 (w : World) (b : Nat) (c0 c1 c2 c3 c4 c5 c6 c7 c8 : Value) : Prop := w.heap[b]? = some (.cells #[c0, c1, c2, c3, c4, c5, c6, c7, c8] 49 (0, 0))
theorem Box9.cells {w : World} {b : Nat} {c0 c1 c2 c3 c4 c5 c6 c7 c8 : Value} (h : Box9 w b c0 c1 c2 c3 c4 c5 c6 c7 c8) : w.cell? ⟨b, 0, none⟩ = some c0 ∧ w.cell? ⟨b, 1, none⟩ = some c1 ∧ w.cell? ⟨b, 2, none⟩ = some c2 ∧ w.cell? ⟨b, 3, none⟩ = some c3 ∧ w.cell? ⟨b, 4, none⟩ = some c4 ∧ w.cell? ⟨b, 5, none⟩ = some c5 ∧ w.cell? ⟨b, 6, none⟩ = some c6 ∧ w.cell? ⟨b, 7, none⟩ = some c7 ∧ w.cell? ⟨b, 8, none⟩ = some c8 := by
  unfold Box9 at h
  refine ⟨?_, ?_, ?_, ?_, ?_, ?_, ?_, ?_, ?_⟩ <;> simp [World.cell?, h]
theorem Box9.free {w : World} {b : Nat} {c0 c1 c2 c3 c4 c5 c6 c7 c8 : Value} (h : Box9 w b c0 c1 c2 c3 c4 c5 c6 c7 c8) (i : Nat) : w.frozen? ⟨b, i, none⟩ = false := by
  unfold Box9 at h; simp [World.frozen?, h]
theorem Box9.set0 {w : World} {b : Nat} {c0 c1 c2 c3 c4 c5 c6 c7 c8 : Value} (h : Box9 w b c0 c1 c2 c3 c4 c5 c6 c7 c8) (u : Value) : Box9 (w.setCell ⟨b, 0, none⟩ u) b u c1 c2 c3 c4 c5 c6 c7 c8 := by
  unfold Box9 at *; simp [World.setCell, Array.getElem?_modify, h]
theorem Box9.set5 {w : World} {b : Nat} {c0 c1 c2 c3 c4 c5 c6 c7 c8 : Value} (h : Box9 w b c0 c1 c2 c3 c4 c5 c6 c7 c8) (u0 u1 u2 u3 u4 : Value) : Box9 (((((w.setCell ⟨b, 4, none⟩ u0).setCell ⟨b, 5, none⟩ u1).setCell ⟨b, 6, none⟩ u2).setCell ⟨b, 7, none⟩ u3).setCell ⟨b, 8, none⟩ u4) b c0 c1 c2 c3 u0 u1 u2 u3 u4 := by
  unfold Box9 at *; simp [World.setCell, Array.getElem?_modify, h]
def RRoom (r : Rec) : Prop := r.name.length * 16 ≤ 140737488355328 ∧ DRoom r.data
theorem rec_info : (Try.prog.info? 49).map (fun i => (i.zero, i.size, i.bytes)) = some (some (.agg #[.slice none 0 0, .int .i64 0, .int .i64 0, .int .i64 0, .slice none 0 0, .slice none 0 0, .slice none 0 0, .slice none 0 0, .slice none 0 0]), 9, 168) := by kernel_rfl
set_option maxRecDepth 100000 in
set_option maxHeartbeats 1000000 in
theorem ref_OwnRRs (l : List Rec) (v : Value) (w : World) (hv : RecsV w v l) (hr : ∀ r ∈ l, RRoom r) (hl : l.length ≤ 1000) :
    Calls Try.prog 48 #[v] w fun e w' => Ext w w' ∧ ∃ v1, e = .returned v1 ∧ OwnM (fun W cs r => RecN W w.heap.size cs r) 49 9 w' w.heap.size v1 l := by
  have HV := Lib.hid hv
  have HR := Lib.hid hr
  obtain ⟨A, c, rfl, h1, h2⟩ := hv.form
  clear hv hr
  go_enter Try.func48, Try.ntmps48
  go_wp2
  go_loopw [3, 4, 5] (fun out i _ wr => ∃ k : Nat, k ≤ l.length ∧ i = .int .i64 k ∧ OwnM (fun w' cs r => RecN w' w.heap.size cs r) 49 9 wr w.heap.size out (l.take k) ∧ Ext w wr) (fun _ i _ _ => l.length - (intOf i).toNat)
  case atStart => exact ⟨0, by omega, rfl, OwnM.nil _ _ _ _ _, Ext.refl _⟩
  case round =>
    obtain ⟨k, hk, rfl, hO, hE⟩ := hrel
    by_cases hlt : k < l.length
    · obtain ⟨b, o, c1, e1, _, _, _⟩ := HV.out.opens (by omega)
      injection e1 with e1 e3 e4
      subst e1
      clear e3 e4
      have hx := List.getElem?_eq_getElem hlt
      obtain ⟨vn, v0, v1, v2, v3, v4, hn, hd, c0', c1', c2', c3', c4', c5', c6', c7', c8'⟩ := recs_cells HV.out hx
      obtain ⟨An, kn, rfl, _, _⟩ := hn.form
      obtain ⟨A0, k0, rfl, _, _⟩ := hd.by_.form
      obtain ⟨A1, k1, rfl, _, _⟩ := hd.ho.form
      obtain ⟨A2, k2, rfl, _, _⟩ := hd.ma.form
      obtain ⟨A3, k3, rfl, _, _⟩ := hd.nu.form
      obtain ⟨A4, k4, rfl, _, _⟩ := hd.tx.form
      have g0 := hE.cell c0'
      have g1 := hE.cell c1'
      have g2 := hE.cell c2'
      have g3 := hE.cell c3'
      have g4 := hE.cell c4'
      have g5 := hE.cell c5'
      have g6 := hE.cell c6'
      have g7 := hE.cell c7'
      have g8 := hE.cell c8'
      clear c0' c1' c2' c3' c4' c5' c6' c7' c8'
      have HN := Lib.hid hn
      have HD := Lib.hid hd
      have HRm := Lib.hid (HR.out _ (List.mem_of_getElem? hx))
      have HX := Lib.hid hx
      have HO := Lib.hid hO
      clear hn hd hx hO
      generalize l[k] = x at *
      have hbx : Box9 (wr.alloc (.cells #[.slice An x.name.length kn, .int .i64 x.type, .int .i64 x.cls, .int .i64 x.ttl, .slice A0 x.data.bytes.length k0, .slice A1 x.data.host.length k1, .slice A2 x.data.mail.length k2, .slice A3 x.data.nums.length k3, .slice A4 x.data.texts.length k4] 49)) wr.heap.size _ _ _ _ _ _ _ _ _ := heap_alloc_new wr _
      have HBX := Lib.hid hbx
      obtain ⟨b0, -⟩ := hbx.cells
      clear hbx
      go_wp2_with (at_builtin; go_must (refine wpList_app0 Value.string rfl (.tmp 16) (.tmp 18) 23 9 (.string ⟨#[]⟩) 16 rfl Try.underlying23 (by kernel_rfl) rfl (by decide) _ x.name _ rfl rfl (fun _ => rfl) (HN.out.ext ((hE.alloc _).alloc _)) HRm.out.1 ?_); intro v9 w1 hN9 hE9; obtain ⟨A9, n9, k9, rfl⟩ := hN9.slice; have hb9 : Box9 w1 wr.heap.size _ _ _ _ _ _ _ _ _ := hE9.block (((Ext.refl _).alloc _).block HBX.out); obtain ⟨q0, q1, q2, q3, q4, q5, q6, q7, q8⟩ := hb9.cells; have qf := hb9.free; have HB9 := Lib.hid hb9; have HN9 := Lib.hid hN9; have HE9 := Lib.hid hE9; clear hb9 hN9 hE9)
      have hEw1 : Ext w w1 := ((hE.alloc _).alloc _).trans HE9.out
      have hsz : w.heap.size ≤ wr.heap.size := hE.size
      have hEw2 : Ext w (w1.setCell ⟨wr.heap.size, 0, none⟩ (.slice A9 n9 k9)) := hEw1.setCell hsz _
      have HB2 := Lib.hid (HB9.out.set0 (.slice A9 n9 k9))
      have hne : u3.ownBlock ≠ some wr.heap.size := fun h => by have := HO.out.lt _ h; omega
      have HO1 := Lib.hid ((HO.out.ext (fun cs r h => h.ext (((Ext.refl wr).alloc _).alloc _ |>.trans HE9.out)) (((Ext.refl wr).alloc _).alloc _ |>.trans HE9.out)))
      have HO2 := Lib.hid (HO1.out.box (recN_keeps _) ⟨_, HB9.out⟩ hne 0 (.slice A9 n9 k9))
      have HN2 := Lib.hid (HN9.out.grown (e' := 49) (grown_set w1 wr.heap.size 0 (.slice A9 n9 k9)) (fun q hq => by injection hq with hq; subst hq; exact ⟨_, HB9.out⟩) (by decide))
      refine (ref_OwnData x.data _ _ _ _ _ _ (HD.out.ext hEw2) HRm.out.2).mono ?_
      rintro e w3 ⟨hE3, v, rfl, hOV⟩
      obtain ⟨x0, x1, x2, x3, x4, rfl, o0, o1, o2, o3, o4, -, -⟩ := hOV
      obtain ⟨B0, m0, r0, rfl⟩ := o0.slice
      obtain ⟨B1, m1, r1, rfl⟩ := o1.slice
      obtain ⟨B2, m2, r2, rfl⟩ := o2.slice
      obtain ⟨B3, m3, r3, rfl⟩ := o3.slice
      obtain ⟨B4, m4, r4, rfl⟩ := o4.slice
      have hbb : w.heap.size ≤ (w1.setCell ⟨wr.heap.size, 0, none⟩ (.slice A9 n9 k9)).heap.size := hEw2.size
      have HDN := Lib.hid (show DatN w3 w.heap.size _ x.data from ⟨_, _, _, _, _, rfl, o0.mono hbb, o1.mono hbb, o2.mono hbb, o3.mono hbb, o4.mono hbb⟩)
      have HN3 := Lib.hid (HN2.out.ext hE3)
      have HO3 := Lib.hid (HO2.out.ext (fun cs r h => h.ext hE3) hE3)
      have HB3 := Lib.hid (show Box9 w3 wr.heap.size _ _ _ _ _ _ _ _ _ from hE3.block HB2.out)
      have HE3 := Lib.hid (hEw2.trans hE3)
      clear o0 o1 o2 o3 o4 q0 q1 q2 q3 q4 q5 q6 q7 q8 qf hE3
      obtain ⟨q0, q1, q2, q3, q4, q5, q6, q7, q8⟩ := HB3.out.cells
      have qf := HB3.out.free
      have HB4 := Lib.hid (HB3.out.set5 (.slice B0 m0 r0) (.slice B1 m1 r1) (.slice B2 m2 r2) (.slice B3 m3 r3) (.slice B4 m4 r4))
      have hty : ∃ cur, w3.heap[wr.heap.size]? = some (.cells cur 49 (0, 0)) := ⟨_, HB3.out⟩
      have HO4 := Lib.hid (((((HO3.out.box (recN_keeps _) hty hne 4 (.slice B0 m0 r0)).box (recN_keeps _) ⟨_, by simp [World.setCell, Array.getElem?_modify, (show w3.heap[wr.heap.size]? = _ from HB3.out)]; rfl⟩ hne 5 (.slice B1 m1 r1)).box (recN_keeps _) ⟨_, by simp [World.setCell, Array.getElem?_modify, (show w3.heap[wr.heap.size]? = _ from HB3.out)]; rfl⟩ hne 6 (.slice B2 m2 r2)).box (recN_keeps _) ⟨_, by simp [World.setCell, Array.getElem?_modify, (show w3.heap[wr.heap.size]? = _ from HB3.out)]; rfl⟩ hne 7 (.slice B3 m3 r3)).box (recN_keeps _) ⟨_, by simp [World.setCell, Array.getElem?_modify, (show w3.heap[wr.heap.size]? = _ from HB3.out)]; rfl⟩ hne 8 (.slice B4 m4 r4))
      have HL := Lib.hid (show ((l.take k).length + 1) * 168 ≤ 140737488355328 by rw [List.length_take]; omega)
      have hsz4 : (((((w3.setCell ⟨wr.heap.size, 4, none⟩ (.slice B0 m0 r0)).setCell ⟨wr.heap.size, 5, none⟩ (.slice B1 m1 r1)).setCell ⟨wr.heap.size, 6, none⟩ (.slice B2 m2 r2)).setCell ⟨wr.heap.size, 7, none⟩ (.slice B3 m3 r3)).setCell ⟨wr.heap.size, 8, none⟩ (.slice B4 m4 r4)).heap.size = w3.heap.size := by simp [World.setCell]
      have HZ := Lib.hid hsz4
      clear hsz4
      have H1 : Hid (∀ u ∈ ((#[.slice A9 n9 k9, .int .i64 x.type, .int .i64 x.cls, .int .i64 x.ttl, .slice B0 m0 r0, .slice B1 m1 r1, .slice B2 m2 r2, .slice B3 m3 r3, .slice B4 m4 r4] : Array Value)).toList, u.oneCell' = true) := Lib.hid (by
        intro u hu
        simp only [List.mem_cons, List.not_mem_nil, or_false] at hu
        rcases hu with rfl | rfl | rfl | rfl | rfl | rfl | rfl | rfl | rfl <;> rfl)
      have HY : Hid (RecN (((((w3.setCell ⟨wr.heap.size, 4, none⟩ (.slice B0 m0 r0)).setCell ⟨wr.heap.size, 5, none⟩ (.slice B1 m1 r1)).setCell ⟨wr.heap.size, 6, none⟩ (.slice B2 m2 r2)).setCell ⟨wr.heap.size, 7, none⟩ (.slice B3 m3 r3)).setCell ⟨wr.heap.size, 8, none⟩ (.slice B4 m4 r4)) w.heap.size ((#[.slice A9 n9 k9, .int .i64 x.type, .int .i64 x.cls, .int .i64 x.ttl, .slice B0 m0 r0, .slice B1 m1 r1, .slice B2 m2 r2, .slice B3 m3 r3, .slice B4 m4 r4] : Array Value)).toList x) := Lib.hid (by
        have t0 : Typed w3 wr.heap.size 49 := hty
        refine ⟨_, _, _, _, _, _, rfl, ?_, ?_⟩
        · refine NewS.mono (base := ((wr.alloc (.cells #[.slice An x.name.length kn, .int .i64 x.type, .int .i64 x.cls, .int .i64 x.ttl, .slice A0 x.data.bytes.length k0, .slice A1 x.data.host.length k1, .slice A2 x.data.mail.length k2, .slice A3 x.data.nums.length k3, .slice A4 x.data.texts.length k4] 49)).alloc (.cells #[] 9)).heap.size) ?_ (by simp; omega)
          exact ((((HN3.out.box t0 (by decide) 4 (.slice B0 m0 r0)).box (t0.set _ _) (by decide) 5 (.slice B1 m1 r1)).box ((t0.set _ _).set _ _) (by decide) 6 (.slice B2 m2 r2)).box (((t0.set _ _).set _ _).set _ _) (by decide) 7 (.slice B3 m3 r3)).box ((((t0.set _ _).set _ _).set _ _).set _ _) (by decide) 8 (.slice B4 m4 r4)
        · exact ((((HDN.out.box t0 (by decide) (by decide) (by decide) 4 (.slice B0 m0 r0)).box (t0.set _ _) (by decide) (by decide) (by decide) 5 (.slice B1 m1 r1)).box ((t0.set _ _).set _ _) (by decide) (by decide) (by decide) 6 (.slice B2 m2 r2)).box (((t0.set _ _).set _ _).set _ _) (by decide) (by decide) (by decide) 7 (.slice B3 m3 r3)).box ((((t0.set _ _).set _ _).set _ _).set _ _) (by decide) (by decide) (by decide) 8 (.slice B4 m4 r4))
      have HBs : Hid (w.heap.size ≤ (((((w3.setCell ⟨wr.heap.size, 4, none⟩ (.slice B0 m0 r0)).setCell ⟨wr.heap.size, 5, none⟩ (.slice B1 m1 r1)).setCell ⟨wr.heap.size, 6, none⟩ (.slice B2 m2 r2)).setCell ⟨wr.heap.size, 7, none⟩ (.slice B3 m3 r3)).setCell ⟨wr.heap.size, 8, none⟩ (.slice B4 m4 r4)).heap.size) := Lib.hid (by rw [HZ.out]; exact HE3.out.size)
      have HE4 : Hid (Ext w (((((w3.setCell ⟨wr.heap.size, 4, none⟩ (.slice B0 m0 r0)).setCell ⟨wr.heap.size, 5, none⟩ (.slice B1 m1 r1)).setCell ⟨wr.heap.size, 6, none⟩ (.slice B2 m2 r2)).setCell ⟨wr.heap.size, 7, none⟩ (.slice B3 m3 r3)).setCell ⟨wr.heap.size, 8, none⟩ (.slice B4 m4 r4))) := Lib.hid (((((HE3.out.setCell hsz _).setCell hsz _).setCell hsz _).setCell hsz _).setCell hsz _)
      go_wp2_with (at_builtin; refine wpList_appM (fun W cs r => RecN W w.heap.size cs r) w.heap.size rfl (.tmp 25) (.tmp 27) 37 49 (.agg #[.slice none 0 0, .int .i64 0, .int .i64 0, .int .i64 0, .slice none 0 0, .slice none 0 0, .slice none 0 0, .slice none 0 0, .slice none 0 0]) 9 168 rfl Try.underlying37 rec_info rfl (by decide) (by decide) (recN_keeps _) (fun w w' cs r hE h => h.ext hE) u3 (l.take k) x #[.slice A9 n9 k9, .int .i64 x.type, .int .i64 x.cls, .int .i64 x.ttl, .slice B0 m0 r0, .slice B1 m1 r1, .slice B2 m2 r2, .slice B3 m3 r3, .slice B4 m4 r4] rfl rfl (by rw [HZ.out]; rfl) H1.out HY.out HO4.out HBs.out HL.out ?_; intro v5 w5 hO5 hg5; have HE5 := Lib.hid (HE4.out.grown hg5 (fun q hq => HO4.out.base_le q hq)); have HO5 := Lib.hid hO5; clear hO5 hg5)
      go_roundw
      case rel => exact ⟨k + 1, by omega, by go_num, by rw [List.take_add_one, HX.out]; exact HO5.out, HE5.out⟩
      case measure => simp [intOf]; omega
    · go_wp2
      go_ret
      exact ⟨hE, _, rfl, by rw [List.take_of_length_le (by omega)] at hO; exact hO⟩
end Go.Proofs.Ytfnelkcllaaebaa
end
section
/- Rows of the call's own whose elements take several cells: how they read; append under a weaker premise. No condition. -/
open Go.RowKit
set_option linter.unusedVariables false
set_option linter.unusedSimpArgs false
namespace Go.Proofs.Ytfnelkcllaaebaa
theorem flat_get {α : Type} (sz : Nat) : ∀ (css : List (List α)) (j i : Nat) (cs : List α) (u : α), (∀ c ∈ css, c.length = sz) → css[j]? = some cs → cs[i]? = some u → css.flatten[j * sz + i]? = some u := by
  intro css
  induction css with
  | nil => intro j i cs u h hj hi; simp at hj
  | cons c css ih =>
    intro j i cs u h hj hi
    have hc := h c (by simp)
    rw [List.flatten_cons]
    cases j with
    | zero =>
      simp at hj
      subst hj
      rw [Nat.zero_mul, Nat.zero_add, List.getElem?_append_left (List.getElem?_eq_some_iff.1 hi).1]
      exact hi
    | succ j =>
      rw [Nat.succ_mul, List.getElem?_append_right (by omega), hc, show j * sz + sz + i - sz = j * sz + i from by omega]
      exact ih j i cs u (fun c hc => h c (by simp [hc])) (by simpa using hj) hi
theorem OwnM.sl {α : Type} {R : World → List Value → α → Prop} {e : TypeId} {sz : Nat} {w : World} {base : Nat} {v : Value} {l : List α} (h : OwnM R e sz w base v l) : Sl R sz w v l := by
  obtain ⟨css, h, hl, hj⟩ := h
  have hc := fun g hg => World.ownsRow.cells h (g := g) hg
  rcases h.2 with ⟨rfl, h2⟩ | ⟨g, cap, cur, rfl, hb, hh, h1, h2, h3, h4⟩
  · obtain rfl : l = [] := List.eq_nil_of_length_eq_zero h2
    exact Sl.nil R sz w
  · refine ⟨_, cap, rfl, h1, by simpa [maxLen] using h2, fun _ => ⟨g, 0, rfl, fun j x hx => ?_⟩⟩
    have hlt : j < css.length := by rw [hl]; exact (List.getElem?_eq_some_iff.1 hx).1
    have hcs := List.getElem?_eq_getElem hlt
    refine ⟨css[j], (hj j _ x hcs hx).1, (hj j _ x hcs hx).2, fun i u hi => ?_⟩
    have hall : ∀ c ∈ css, c.length = sz := by
      intro c hc
      obtain ⟨j', hj', rfl⟩ := List.mem_iff_getElem.1 hc
      have hx' : l[j']? = some l[j'] := List.getElem?_eq_getElem (by omega)
      exact (hj j' _ _ (List.getElem?_eq_getElem hj') hx').1
    have := hc g rfl (j * sz + i) u (flat_get sz css j i _ u hall hcs hi)
    have ha : (⟨g, 0, none⟩ : Addr).add (j * sz + i) = ⟨g, 0 + (j * sz + i), none⟩ := by unfold Addr.add; split <;> simp_all
    rwa [ha] at this
theorem Sl.imp {α : Type} {R R' : World → List Value → α → Prop} {sz : Nat} {w : World} {v : Value} {l : List α} (h : Sl R sz w v l) (hR : ∀ cs x, R w cs x → R' w cs x) : Sl R' sz w v l := by
  obtain ⟨A, c, h1, h2, h3, h4⟩ := h
  refine ⟨A, c, h1, h2, h3, fun hl => ?_⟩
  obtain ⟨b, o, e, hc⟩ := h4 hl
  refine ⟨b, o, e, fun j x hx => ?_⟩
  obtain ⟨cs, k1, k2, k3⟩ := hc j x hx
  exact ⟨cs, k1, hR _ _ k2, k3⟩
/-- R outlives a turn of a row of type e from base on. -/
def KeepsB {α : Type} (base : Nat) (R : World → List Value → α → Prop) (e : TypeId) : Prop :=
  ∀ w w' row cs x, w.grownBy w' row → (∀ k, row = some k → base ≤ k ∧ ∃ cur, w.heap[k]? = some (.cells cur e (0, 0))) → R w cs x → R w' cs x
theorem Keeps.b {α : Type} {R : World → List Value → α → Prop} {e : TypeId} (h : Keeps R e) (base : Nat) : KeepsB base R e := fun w w' row cs x hg ht hR => h w w' row cs x hg (fun k hk => (ht k hk).2) hR
/-- What is read in a world that goes on. -/
theorem keepsB_old {α : Type} {R : World → List Value → α → Prop} {e : TypeId} (w0 : World) : KeepsB w0.heap.size (fun w cs x => R w0 cs x ∧ Ext w0 w) e :=
  fun w w' row cs x hg ht hR => ⟨hR.1, hR.2.grown hg (fun k hk => (ht k hk).1)⟩
section
variable {P : Program} {ops : Array Oper} {rest : List Oper} {o : Oper} {a : Act} {Q : Exit → Act → World → Prop}
/-- append(v, y): the goal's world is 'W.alloc' of the variadic's box. -/
theorem wpList_appB {α : Type} (R : World → List Value → α → Prop) {W : World} (base : Nat) (hgd : o.guard = none) (s x : Operand) (t e : TypeId) (z : Value) (sz bytes : Nat)
    (ho : o.op = .call { callee := .builtin .append, args := #[s, x], argTypes := #[t, t] })
    (ht : P.underlying t = some (.slice e)) (hinfo : (P.info? e).map (fun i => (i.zero, i.size, i.bytes)) = some (some z, sz, bytes)) (hz : z.cells.size = sz) (hsz : 0 < sz) (hb0 : 0 < bytes)
    (hk : KeepsB base R e)
    (v : Value) (l : List α) (y : α) (cs : Array Value) (hcs : cs.size = sz) (hs : a.eval s = v) (hx : a.eval x = .slice (some ⟨W.heap.size, 0, none⟩) 1 1) (h1 : ∀ u ∈ cs.toList, u.oneCell' = true)
    (hy : R W cs.toList y) (HO : OwnM R e sz W base v l) (hbase : base ≤ W.heap.size) (hl : (l.length + 1) * bytes ≤ 140737488355328)
    (h : ∀ v1 w1, OwnM R e sz w1 base v1 (l ++ [y]) → W.grownBy w1 v.ownBlock → wpList P ops Q rest (a.put o.dst v1) w1) :
    wpList P ops Q (o :: rest) a (W.alloc (.cells cs e)) := by
  obtain ⟨i0, hi, hzz⟩ := Option.map_eq_some_iff.1 hinfo
  simp only [Prod.mk.injEq] at hzz
  obtain ⟨hz0, hz1, hz2⟩ := hzz
  have hlen : l.length + 1 ≤ 140737488355328 := Nat.le_trans (Nat.le_mul_of_pos_right _ hb0) hl
  have htype : ∀ k, v.ownBlock = some k → base ≤ k ∧ ∃ cur, W.heap[k]? = some (.cells cur e (0, 0)) := fun k hk => ⟨HO.base_le k hk, HO.type k hk⟩
  obtain ⟨css, hO, hcl, hj⟩ := HO
  refine wpList_append_own_at (W.alloc (.cells cs e)) hgd s x t ho base e i0 z sz bytes ht hi hz0 hz1 hz2 hz hsz v l.length css.flatten hs (World.ownsRow.alloc hO _) ⟨W.heap.size, 0, none⟩ 1 1 cs.toList hx (by simp [hcs])
    (World.news_of_block (cs := cs) (t := e) (fr := (0, 0)) (heap_alloc_new W _)) h1 (by simp only [maxLen]; omega) hl (by simp; omega) ?_
  intro v1 w1 hown hg _ hat
  have hg2 : W.grownBy w1 v.ownBlock := World.grownBy.trans (World.grownBy_alloc W _ _) hg
  have hR : ∀ cs x, R W cs x → R w1 cs x := fun cs x h => hk W w1 v.ownBlock cs x hg2 htype h
  refine h v1 w1 ⟨css ++ [cs.toList], ?_, by simp [hcl], ?_⟩ hg2
  · simpa using hown
  · intro j c x hc hx2
    rcases Nat.lt_or_ge j l.length with h2 | h2
    · rw [List.getElem?_append_left (by omega)] at hc hx2
      exact ⟨(hj j c x hc hx2).1, hR _ _ (hj j c x hc hx2).2⟩
    · rw [List.getElem?_append_right (by omega)] at hc hx2
      rw [hcl] at hc
      cases hq : j - l.length with
      | zero =>
        rw [hq] at hc hx2
        simp at hc hx2
        subst hc hx2
        exact ⟨by simp [hcs], hR _ _ hy⟩
      | succ q => rw [hq] at hc; simp at hc
end
theorem datN_datR {w : World} {base : Nat} {cs : List Value} {d : Dat} (h : DatN w base cs d) : DatR w cs d := h.dr
theorem recN_recR {w : World} {base : Nat} {cs : List Value} {r : Rec} (h : RecN w base cs r) : RecR w cs r := by
  obtain ⟨vn, v0, v1, v2, v3, v4, rfl, hn, hd⟩ := h
  obtain ⟨x0, x1, x2, x3, x4, e, hd⟩ := hd.dr
  simp only [List.cons.injEq, and_true] at e
  obtain ⟨rfl, rfl, rfl, rfl, rfl⟩ := e
  exact ⟨vn, v0, v1, v2, v3, v4, rfl, hn.1, hd⟩
theorem dats_of_own {w : World} {base b : Nat} {v : Value} {l : List Dat} (h : OwnM (fun W cs d => DatN W base cs d) 26 5 w b v l) : DatsV w v l := h.sl.imp fun _ _ => datN_datR
theorem recs_of_own {w : World} {base b : Nat} {v : Value} {l : List Rec} (h : OwnM (fun W cs r => RecN W base cs r) 49 9 w b v l) : RecsV w v l := h.sl.imp fun _ _ => recN_recR
theorem dat_info : (Try.prog.info? 26).map (fun i => (i.zero, i.size, i.bytes)) = some (some (.agg #[.slice none 0 0, .slice none 0 0, .slice none 0 0, .slice none 0 0, .slice none 0 0]), 5, 120) := by kernel_rfl
/-- Does a record count? -/
def keepR (n : List Str) (kind : Int) (r : Rec) : Bool := decide (r.type = kind) && (decide (r.cls = 1) && neq r.name n)
def setStep (n : List Str) (kind : Int) (s : List Dat × Int) (r : Rec) : List Dat × Int :=
  if keepR n kind r then ((if s.1.any (fun x => dsame x r.data) then s.1 else s.1 ++ [r.data]), (if s.1 = [] ∨ r.ttl < s.2 then r.ttl else s.2)) else s
/-- The set of a name and a type. -/
def setOf (n : List Str) (kind : Int) (l : List Rec) : List Dat × Int := l.foldl (setStep n kind) ([], 0)
theorem setOf_snoc (n : List Str) (kind : Int) (l : List Rec) (r : Rec) : setOf n kind (l ++ [r]) = setStep n kind (setOf n kind l) r := by simp [setOf]
theorem setOf_mem (n : List Str) (kind : Int) (l : List Rec) : ∀ d ∈ (setOf n kind l).1, ∃ r ∈ l, r.data = d := by
  have key : ∀ (l m : List Rec), (∀ d ∈ (setOf n kind m).1, ∃ r ∈ m, r.data = d) → ∀ d ∈ (setOf n kind (m ++ l)).1, ∃ r ∈ m ++ l, r.data = d := by
    intro l
    induction l with
    | nil => intro m h; simpa using h
    | cons r l ih =>
      intro m h
      have := ih (m ++ [r]) (by
        intro d hd
        rw [setOf_snoc] at hd
        unfold setStep at hd
        split at hd
        · simp only at hd
          split at hd
          · obtain ⟨r', h1, h2⟩ := h d hd; exact ⟨r', by simp [h1], h2⟩
          · rw [List.mem_append, List.mem_singleton] at hd
            rcases hd with hd | hd
            · obtain ⟨r', h1, h2⟩ := h d hd; exact ⟨r', by simp [h1], h2⟩
            · exact ⟨r, by simp, hd.symm⟩
        · obtain ⟨r', h1, h2⟩ := h d hd; exact ⟨r', by simp [h1], h2⟩)
      simpa using this
  simpa using key l [] (by simp [setOf])
theorem setOf_len (n : List Str) (kind : Int) (l : List Rec) : (setOf n kind l).1.length ≤ l.length := by
  have key : ∀ (l m : List Rec), (setOf n kind m).1.length ≤ m.length → (setOf n kind (m ++ l)).1.length ≤ (m ++ l).length := by
    intro l
    induction l with
    | nil => intro m h; simpa using h
    | cons r l ih =>
      intro m h
      have := ih (m ++ [r]) (by
        rw [setOf_snoc]
        unfold setStep
        split
        · simp only
          split <;> simp <;> omega
        · simp; omega)
      simpa using this
  simpa using key l [] (by simp [setOf])
theorem setOf_take {n : List Str} {kind : Int} {l : List Rec} {k : Nat} {x : Rec} (hx : l[k]? = some x) : setOf n kind (l.take (k + 1)) = setStep n kind (setOf n kind (l.take k)) x := by
  rw [List.take_add_one, hx, ← setOf_snoc]; rfl
theorem setOf_skip {n : List Str} {kind : Int} {l : List Rec} {k : Nat} {x : Rec} (hx : l[k]? = some x) (h : keepR n kind x = false) : setOf n kind (l.take (k + 1)) = setOf n kind (l.take k) := by
  rw [setOf_take hx]; unfold setStep; rw [h]; rfl
theorem setOf_in {n : List Str} {kind t : Int} {l : List Rec} {k : Nat} {x : Rec} {s : List Dat × Int} (hs : setOf n kind (l.take k) = s) (hx : l[k]? = some x) (h : keepR n kind x = true) (ht : (if s.1 = [] ∨ x.ttl < s.2 then x.ttl else s.2) = t) (hq : s.1.any (fun y => dsame y x.data) = true) :
    setOf n kind (l.take (k + 1)) = (s.1, t) := by
  rw [setOf_take hx, hs]; unfold setStep; rw [h, ht, if_pos hq]; rfl
theorem setOf_new {n : List Str} {kind t : Int} {l : List Rec} {k : Nat} {x : Rec} {s : List Dat × Int} (hs : setOf n kind (l.take k) = s) (hx : l[k]? = some x) (h : keepR n kind x = true) (ht : (if s.1 = [] ∨ x.ttl < s.2 then x.ttl else s.2) = t) (hq : s.1.any (fun y => dsame y x.data) = false) :
    setOf n kind (l.take (k + 1)) = (s.1 ++ [x.data], t) := by
  rw [setOf_take hx, hs]; unfold setStep; rw [h, ht, hq]; rfl
end Go.Proofs.Ytfnelkcllaaebaa
end
section
/- Contract of rr.Set. No condition but that slices read as lists, the strings' sizes, and room. -/
open Go.RowKit
set_option linter.unusedVariables false
set_option linter.unusedSimpArgs false
namespace Go.Proofs.Ytfnelkcllaaebaa
def RrSetGives (n : List Str) (kind : Int) (l : List Rec) (w : World) (e : Ending) (w' : World) : Prop :=
  Ext w w' ∧ ∃ v1, e = .returned (.tuple #[v1, .int .i64 (setOf n kind l).2]) ∧ OwnM (fun W cs d => DatN W w.heap.size cs d) 26 5 w' w.heap.size v1 (setOf n kind l).1
theorem ttl_first {s : List Dat × Int} {x : Rec} (h : s.1 = []) : (if s.1 = [] ∨ x.ttl < s.2 then x.ttl else s.2) = x.ttl := if_pos (.inl h)
theorem ttl_less {s : List Dat × Int} {x : Rec} (h : x.ttl < s.2) : (if s.1 = [] ∨ x.ttl < s.2 then x.ttl else s.2) = x.ttl := if_pos (.inr h)
theorem ttl_keep {s : List Dat × Int} {x : Rec} (h : s.1 ≠ []) (h2 : ¬ x.ttl < s.2) : (if s.1 = [] ∨ x.ttl < s.2 then x.ttl else s.2) = s.2 := if_neg (by simp [h, h2])
theorem ttl_cases (s : List Dat × Int) (x : Rec) : s.1 = [] ∨ (s.1 ≠ [] ∧ x.ttl < s.2) ∨ (s.1 ≠ [] ∧ ¬ x.ttl < s.2) := by
  by_cases h : s.1 = []
  · exact .inl h
  · by_cases h2 : x.ttl < s.2
    · exact .inr (.inl ⟨h, h2⟩)
    · exact .inr (.inr ⟨h, h2⟩)
theorem len_zero {α : Type} {l : List α} (h : l = []) : ((l.length : Int) == 0) = true := by rw [h]; rfl
theorem len_nz {α : Type} {l : List α} (h : l ≠ []) : ((l.length : Int) == 0) = false := by
  rw [beq_eq_false_iff_ne]; have := List.length_pos_iff.2 h; omega
theorem ones5 (A0 A1 A2 A3 A4 : Option Addr) (a0 a1 a2 a3 a4 c0 c1 c2 c3 c4 : Nat) : ∀ u ∈ (#[Value.slice A0 a0 c0, .slice A1 a1 c1, .slice A2 a2 c2, .slice A3 a3 c3, .slice A4 a4 c4] : Array Value).toList, u.oneCell' = true := by
  intro u hu
  simp only [List.mem_cons, List.not_mem_nil, or_false] at hu
  rcases hu with rfl | rfl | rfl | rfl | rfl <;> rfl
set_option maxRecDepth 100000 in
set_option maxHeartbeats 4000000 in
theorem rr_Set (l : List Rec) (n : List Str) (kind : Int) (v vn : Value) (w : World) (hv : RecsV w v l) (hn : NameV w vn n) (fr : ∀ r ∈ l, RFit r) (fn : Fits n) (hr : ∀ r ∈ l, RRoom r) (hl : l.length ≤ 1000) :
    Calls Try.prog 47 #[v, vn, .int .i64 kind] w (RrSetGives n kind l w) := by
  have HV := Lib.hid hv
  have HN := Lib.hid hn
  have HF := Lib.hid fr
  have FN := Lib.hid fn
  have HR := Lib.hid hr
  obtain ⟨A, c, rfl, h1, h2⟩ := hv.form
  obtain ⟨An, cn, rfl, n1, n2⟩ := hn.form
  clear hv hn fr fn hr
  go_enter Try.func47, Try.ntmps47
  go_wp2
  go_loopw [6, 7, 9, 12] (fun set ttl _ i wr => ∃ k : Nat, k ≤ l.length ∧ i = .int .i64 k ∧ ttl = .int .i64 (setOf n kind (l.take k)).2 ∧ OwnM (fun W cs d => DatN W w.heap.size cs d) 26 5 wr w.heap.size set (setOf n kind (l.take k)).1 ∧ Ext w wr) (fun _ _ _ i _ => l.length - (intOf i).toNat)
  case atStart => exact ⟨0, by omega, rfl, rfl, OwnM.nil _ _ _ _ _, Ext.refl _⟩
  case round =>
    obtain ⟨k, hk, rfl, rfl, hO, hE⟩ := hrel
    by_cases hlt : k < l.length
    · obtain ⟨b, o, c1, e1, _, _, _⟩ := HV.out.opens (by omega)
      injection e1 with e1 e3 e4
      subst e1
      clear e3 e4
      have hx := List.getElem?_eq_getElem hlt
      obtain ⟨vn, v0, v1, v2, v3, v4, hn, hd, c0', c1', c2', c3', c4', c5', c6', c7', c8'⟩ := recs_cells HV.out hx
      obtain ⟨An, kn, rfl, _, _⟩ := hn.form
      obtain ⟨A0, k0, rfl, _, _⟩ := hd.by_.form
      obtain ⟨A1, k1, rfl, _, _⟩ := hd.ho.form
      obtain ⟨A2, k2, rfl, _, _⟩ := hd.ma.form
      obtain ⟨A3, k3, rfl, _, _⟩ := hd.nu.form
      obtain ⟨A4, k4, rfl, _, _⟩ := hd.tx.form
      have g0 := hE.cell c0'
      have g1 := hE.cell c1'
      have g2 := hE.cell c2'
      have g3 := hE.cell c3'
      have g4 := hE.cell c4'
      have g5 := hE.cell c5'
      have g6 := hE.cell c6'
      have g7 := hE.cell c7'
      have g8 := hE.cell c8'
      clear c0' c1' c2' c3' c4' c5' c6' c7' c8'
      have HNr := Lib.hid hn
      have HD := Lib.hid hd
      have hmem := List.mem_of_getElem? hx
      have HRm := Lib.hid (HR.out _ hmem)
      have HFt := Lib.hid (HF.out _ hmem)
      have HX := Lib.hid hx
      have HO := Lib.hid hO
      clear hn hd hx hO hmem
      generalize l[k] = x at *
      generalize hs0 : setOf n kind (l.take k) = s at *
      have HS := Lib.hid hs0
      have HSk : Hid (keepR n kind x = false → setOf n kind (l.take (k + 1)) = s) := Lib.hid (fun h => (setOf_skip HX.out h).trans hs0)
      clear hs0
      obtain ⟨As, cs, rfl, _, _⟩ := HO.out.slice
      have hbx : Box9 (wr.alloc (.cells #[.slice An x.name.length kn, .int .i64 x.type, .int .i64 x.cls, .int .i64 x.ttl, .slice A0 x.data.bytes.length k0, .slice A1 x.data.host.length k1, .slice A2 x.data.mail.length k2, .slice A3 x.data.nums.length k3, .slice A4 x.data.texts.length k4] 49)) wr.heap.size _ _ _ _ _ _ _ _ _ := heap_alloc_new wr _
      have HBX := Lib.hid hbx
      clear hbx
      have HEa := Lib.hid (hE.alloc (.cells #[.slice An x.name.length kn, .int .i64 x.type, .int .i64 x.cls, .int .i64 x.ttl, .slice A0 x.data.bytes.length k0, .slice A1 x.data.host.length k1, .slice A2 x.data.mail.length k2, .slice A3 x.data.nums.length k3, .slice A4 x.data.texts.length k4] 49))
      have HOa := Lib.hid (HO.out.ext (fun cs r h => h.ext ((Ext.refl wr).alloc (.cells #[.slice An x.name.length kn, .int .i64 x.type, .int .i64 x.cls, .int .i64 x.ttl, .slice A0 x.data.bytes.length k0, .slice A1 x.data.host.length k1, .slice A2 x.data.mail.length k2, .slice A3 x.data.nums.length k3, .slice A4 x.data.texts.length k4] 49))) ((Ext.refl wr).alloc _))
      by_cases ht : x.type = kind
      · by_cases hc : x.cls = 1
        · have t1 : (x.type != kind) = false := by rw [ht]; simp
          have t2 : (x.cls != 1) = false := by rw [hc]; rfl
          have HT := Lib.hid (And.intro ht hc)
          clear ht hc
          go_wp2_with fail
          refine (name_Equal _ _ _ _ _ (HNr.out.ext HEa.out) (HN.out.ext HEa.out) HFt.out.1 FN.out).mono ?_
          rintro e w1 ⟨rfl, hE1⟩
          cases hq : neq x.name n with
          | false =>
            have HQ := Lib.hid (HSk.out (by unfold keepR; rw [hq]; simp))
            clear hq
            have HE1 := Lib.hid (HEa.out.trans hE1)
            have HO1 := Lib.hid (HOa.out.ext (fun cs r h => h.ext hE1) hE1)
            clear hE1
            go_wp2
            go_roundw
            case rel => exact ⟨k + 1, by omega, by go_num, by rw [HQ.out], by rw [HQ.out]; exact HO1.out, HE1.out⟩
            case measure => simp [intOf]; omega
          | true =>
            have HK := Lib.hid (show keepR n kind x = true by unfold keepR; rw [hq, decide_eq_true HT.out.1, decide_eq_true HT.out.2]; rfl)
            clear hq
            have HE1 := Lib.hid (HEa.out.trans hE1)
            have HO1 := Lib.hid (HOa.out.ext (fun cs r h => h.ext hE1) hE1)
            have HB1 := Lib.hid (show Box9 w1 wr.heap.size _ _ _ _ _ _ _ _ _ from hE1.block HBX.out)
            obtain ⟨q0, q1, q2, q3, q4, q5, q6, q7, q8⟩ := HB1.out.cells
            clear hE1 g0 g1 g2 g3 g4 g5 g6 g7 g8
            have HFs : Hid (∀ d ∈ s.1, DFit d) := Lib.hid (fun d hd => by
              rw [← HS.out] at hd
              obtain ⟨r, hr1, hr2⟩ := setOf_mem n kind _ d hd
              rw [← hr2]
              exact (HF.out r (List.mem_of_mem_take hr1)).2)
            have HLs : Hid (s.1.length ≤ k) := Lib.hid (by
              have := setOf_len n kind (l.take k)
              rw [HS.out, List.length_take] at this
              omega)
            rcases ttl_cases s x with hz | ⟨hz, hz2⟩ | ⟨hz, hz2⟩
            · have t3 := len_zero hz
              have HTt := Lib.hid (ttl_first (x := x) hz)
              clear hz
              go_wp2_with fail
              refine (rr_among s.1 x.data _ _ _ _ _ _ w1 (dats_of_own HO1.out) (HD.out.ext HE1.out) HFs.out HFt.out.2).mono ?_
              rintro e w2 ⟨rfl, hE2⟩
              have HE2 := Lib.hid (HE1.out.trans hE2)
              have HO2 := Lib.hid (HO1.out.ext (fun cs r h => h.ext hE2) hE2)
              have HB2 := Lib.hid (show Box9 w2 wr.heap.size _ _ _ _ _ _ _ _ _ from hE2.block HB1.out)
              clear hE2 q0 q1 q2 q3 q4 q5 q6 q7 q8
              obtain ⟨q0, q1, q2, q3, q4, q5, q6, q7, q8⟩ := HB2.out.cells
              cases hq2 : s.1.any (fun y => dsame y x.data) with
              | true =>
                have HQ := Lib.hid (setOf_in HS.out HX.out HK.out HTt.out hq2)
                clear hq2
                go_wp2
                go_roundw
                case rel => exact ⟨k + 1, by omega, by go_num, by rw [HQ.out], by rw [HQ.out]; exact HO2.out, HE2.out⟩
                case measure => simp [intOf]; omega
              | false =>
                have HQ := Lib.hid (setOf_new HS.out HX.out HK.out HTt.out hq2)
                clear hq2
                go_wp2_with fail
                refine (rr_Own x.data _ _ _ _ _ w2 (HD.out.ext HE2.out) HRm.out.2).mono ?_
                rintro e w3 ⟨hE3, y0, y1, y2, y3, y4, rfl, hDN⟩
                obtain ⟨z0, z1, z2, z3, z4, ez, o0, o1, o2, o3, o4⟩ := hDN
                simp only [List.cons.injEq, and_true] at ez
                obtain ⟨rfl, rfl, rfl, rfl, rfl⟩ := ez
                obtain ⟨B0, m0, r0, rfl⟩ := o0.slice
                obtain ⟨B1, m1, r1, rfl⟩ := o1.slice
                obtain ⟨B2, m2, r2, rfl⟩ := o2.slice
                obtain ⟨B3, m3, r3, rfl⟩ := o3.slice
                obtain ⟨B4, m4, r4, rfl⟩ := o4.slice
                have hbb : w.heap.size ≤ w2.heap.size := HE2.out.size
                have HY : Hid (DatN w3 w.heap.size (#[.slice B0 m0 r0, .slice B1 m1 r1, .slice B2 m2 r2, .slice B3 m3 r3, .slice B4 m4 r4] : Array Value).toList x.data) := Lib.hid ⟨_, _, _, _, _, rfl, o0.mono hbb, o1.mono hbb, o2.mono hbb, o3.mono hbb, o4.mono hbb⟩
                have HO3 := Lib.hid (HO2.out.ext (fun cs r h => h.ext hE3) hE3)
                have HE3 := Lib.hid (HE2.out.trans hE3)
                have HBs : Hid (w.heap.size ≤ w3.heap.size) := Lib.hid HE3.out.size
                have HL : Hid ((s.1.length + 1) * 120 ≤ 140737488355328) := Lib.hid (by have := HLs.out; omega)
                have H1 := Lib.hid (ones5 B0 B1 B2 B3 B4 m0 m1 m2 m3 m4 r0 r1 r2 r3 r4)
                clear o0 o1 o2 o3 o4 hE3 hbb
                go_wp2_with (at_builtin; refine wpList_appB (fun W cs d => DatN W w.heap.size cs d) w.heap.size rfl (.tmp 48) (.tmp 52) 60 26 (.agg #[.slice none 0 0, .slice none 0 0, .slice none 0 0, .slice none 0 0, .slice none 0 0]) 5 120 rfl Try.underlying60 dat_info rfl (by decide) (by decide) ((datN_keeps _).b _) _ s.1 x.data #[.slice B0 m0 r0, .slice B1 m1 r1, .slice B2 m2 r2, .slice B3 m3 r3, .slice B4 m4 r4] rfl rfl rfl H1.out HY.out HO3.out HBs.out HL.out ?_; intro v5 w5 hO5 hg5; have HE5 := Lib.hid (HE3.out.grown hg5 (fun q hq => HO3.out.base_le q hq)); have HO5 := Lib.hid hO5; clear hO5 hg5)
                go_roundw
                case rel => exact ⟨k + 1, by omega, by go_num, by rw [HQ.out], by rw [HQ.out]; exact HO5.out, HE5.out⟩
                case measure => simp [intOf]; omega
            · have t3 := len_nz hz
              have HTt := Lib.hid (ttl_less (s := s) hz2)
              clear hz
              go_wp2_with fail
              refine (rr_among s.1 x.data _ _ _ _ _ _ w1 (dats_of_own HO1.out) (HD.out.ext HE1.out) HFs.out HFt.out.2).mono ?_
              rintro e w2 ⟨rfl, hE2⟩
              have HE2 := Lib.hid (HE1.out.trans hE2)
              have HO2 := Lib.hid (HO1.out.ext (fun cs r h => h.ext hE2) hE2)
              have HB2 := Lib.hid (show Box9 w2 wr.heap.size _ _ _ _ _ _ _ _ _ from hE2.block HB1.out)
              clear hE2 q0 q1 q2 q3 q4 q5 q6 q7 q8
              obtain ⟨q0, q1, q2, q3, q4, q5, q6, q7, q8⟩ := HB2.out.cells
              cases hq2 : s.1.any (fun y => dsame y x.data) with
              | true =>
                have HQ := Lib.hid (setOf_in HS.out HX.out HK.out HTt.out hq2)
                clear hq2
                go_wp2
                go_roundw
                case rel => exact ⟨k + 1, by omega, by go_num, by rw [HQ.out], by rw [HQ.out]; exact HO2.out, HE2.out⟩
                case measure => simp [intOf]; omega
              | false =>
                have HQ := Lib.hid (setOf_new HS.out HX.out HK.out HTt.out hq2)
                clear hq2
                go_wp2_with fail
                refine (rr_Own x.data _ _ _ _ _ w2 (HD.out.ext HE2.out) HRm.out.2).mono ?_
                rintro e w3 ⟨hE3, y0, y1, y2, y3, y4, rfl, hDN⟩
                obtain ⟨z0, z1, z2, z3, z4, ez, o0, o1, o2, o3, o4⟩ := hDN
                simp only [List.cons.injEq, and_true] at ez
                obtain ⟨rfl, rfl, rfl, rfl, rfl⟩ := ez
                obtain ⟨B0, m0, r0, rfl⟩ := o0.slice
                obtain ⟨B1, m1, r1, rfl⟩ := o1.slice
                obtain ⟨B2, m2, r2, rfl⟩ := o2.slice
                obtain ⟨B3, m3, r3, rfl⟩ := o3.slice
                obtain ⟨B4, m4, r4, rfl⟩ := o4.slice
                have hbb : w.heap.size ≤ w2.heap.size := HE2.out.size
                have HY : Hid (DatN w3 w.heap.size (#[.slice B0 m0 r0, .slice B1 m1 r1, .slice B2 m2 r2, .slice B3 m3 r3, .slice B4 m4 r4] : Array Value).toList x.data) := Lib.hid ⟨_, _, _, _, _, rfl, o0.mono hbb, o1.mono hbb, o2.mono hbb, o3.mono hbb, o4.mono hbb⟩
                have HO3 := Lib.hid (HO2.out.ext (fun cs r h => h.ext hE3) hE3)
                have HE3 := Lib.hid (HE2.out.trans hE3)
                have HBs : Hid (w.heap.size ≤ w3.heap.size) := Lib.hid HE3.out.size
                have HL : Hid ((s.1.length + 1) * 120 ≤ 140737488355328) := Lib.hid (by have := HLs.out; omega)
                have H1 := Lib.hid (ones5 B0 B1 B2 B3 B4 m0 m1 m2 m3 m4 r0 r1 r2 r3 r4)
                clear o0 o1 o2 o3 o4 hE3 hbb
                go_wp2_with (at_builtin; refine wpList_appB (fun W cs d => DatN W w.heap.size cs d) w.heap.size rfl (.tmp 48) (.tmp 52) 60 26 (.agg #[.slice none 0 0, .slice none 0 0, .slice none 0 0, .slice none 0 0, .slice none 0 0]) 5 120 rfl Try.underlying60 dat_info rfl (by decide) (by decide) ((datN_keeps _).b _) _ s.1 x.data #[.slice B0 m0 r0, .slice B1 m1 r1, .slice B2 m2 r2, .slice B3 m3 r3, .slice B4 m4 r4] rfl rfl rfl H1.out HY.out HO3.out HBs.out HL.out ?_; intro v5 w5 hO5 hg5; have HE5 := Lib.hid (HE3.out.grown hg5 (fun q hq => HO3.out.base_le q hq)); have HO5 := Lib.hid hO5; clear hO5 hg5)
                go_roundw
                case rel => exact ⟨k + 1, by omega, by go_num, by rw [HQ.out], by rw [HQ.out]; exact HO5.out, HE5.out⟩
                case measure => simp [intOf]; omega
            · have t3 := len_nz hz
              have HTt := Lib.hid (ttl_keep hz hz2)
              clear hz
              go_wp2_with fail
              refine (rr_among s.1 x.data _ _ _ _ _ _ w1 (dats_of_own HO1.out) (HD.out.ext HE1.out) HFs.out HFt.out.2).mono ?_
              rintro e w2 ⟨rfl, hE2⟩
              have HE2 := Lib.hid (HE1.out.trans hE2)
              have HO2 := Lib.hid (HO1.out.ext (fun cs r h => h.ext hE2) hE2)
              have HB2 := Lib.hid (show Box9 w2 wr.heap.size _ _ _ _ _ _ _ _ _ from hE2.block HB1.out)
              clear hE2 q0 q1 q2 q3 q4 q5 q6 q7 q8
              obtain ⟨q0, q1, q2, q3, q4, q5, q6, q7, q8⟩ := HB2.out.cells
              cases hq2 : s.1.any (fun y => dsame y x.data) with
              | true =>
                have HQ := Lib.hid (setOf_in HS.out HX.out HK.out HTt.out hq2)
                clear hq2
                go_wp2
                go_roundw
                case rel => exact ⟨k + 1, by omega, by go_num, by rw [HQ.out], by rw [HQ.out]; exact HO2.out, HE2.out⟩
                case measure => simp [intOf]; omega
              | false =>
                have HQ := Lib.hid (setOf_new HS.out HX.out HK.out HTt.out hq2)
                clear hq2
                go_wp2_with fail
                refine (rr_Own x.data _ _ _ _ _ w2 (HD.out.ext HE2.out) HRm.out.2).mono ?_
                rintro e w3 ⟨hE3, y0, y1, y2, y3, y4, rfl, hDN⟩
                obtain ⟨z0, z1, z2, z3, z4, ez, o0, o1, o2, o3, o4⟩ := hDN
                simp only [List.cons.injEq, and_true] at ez
                obtain ⟨rfl, rfl, rfl, rfl, rfl⟩ := ez
                obtain ⟨B0, m0, r0, rfl⟩ := o0.slice
                obtain ⟨B1, m1, r1, rfl⟩ := o1.slice
                obtain ⟨B2, m2, r2, rfl⟩ := o2.slice
                obtain ⟨B3, m3, r3, rfl⟩ := o3.slice
                obtain ⟨B4, m4, r4, rfl⟩ := o4.slice
                have hbb : w.heap.size ≤ w2.heap.size := HE2.out.size
                have HY : Hid (DatN w3 w.heap.size (#[.slice B0 m0 r0, .slice B1 m1 r1, .slice B2 m2 r2, .slice B3 m3 r3, .slice B4 m4 r4] : Array Value).toList x.data) := Lib.hid ⟨_, _, _, _, _, rfl, o0.mono hbb, o1.mono hbb, o2.mono hbb, o3.mono hbb, o4.mono hbb⟩
                have HO3 := Lib.hid (HO2.out.ext (fun cs r h => h.ext hE3) hE3)
                have HE3 := Lib.hid (HE2.out.trans hE3)
                have HBs : Hid (w.heap.size ≤ w3.heap.size) := Lib.hid HE3.out.size
                have HL : Hid ((s.1.length + 1) * 120 ≤ 140737488355328) := Lib.hid (by have := HLs.out; omega)
                have H1 := Lib.hid (ones5 B0 B1 B2 B3 B4 m0 m1 m2 m3 m4 r0 r1 r2 r3 r4)
                clear o0 o1 o2 o3 o4 hE3 hbb
                go_wp2_with (at_builtin; refine wpList_appB (fun W cs d => DatN W w.heap.size cs d) w.heap.size rfl (.tmp 48) (.tmp 52) 60 26 (.agg #[.slice none 0 0, .slice none 0 0, .slice none 0 0, .slice none 0 0, .slice none 0 0]) 5 120 rfl Try.underlying60 dat_info rfl (by decide) (by decide) ((datN_keeps _).b _) _ s.1 x.data #[.slice B0 m0 r0, .slice B1 m1 r1, .slice B2 m2 r2, .slice B3 m3 r3, .slice B4 m4 r4] rfl rfl rfl H1.out HY.out HO3.out HBs.out HL.out ?_; intro v5 w5 hO5 hg5; have HE5 := Lib.hid (HE3.out.grown hg5 (fun q hq => HO3.out.base_le q hq)); have HO5 := Lib.hid hO5; clear hO5 hg5)
                go_roundw
                case rel => exact ⟨k + 1, by omega, by go_num, by rw [HQ.out], by rw [HQ.out]; exact HO5.out, HE5.out⟩
                case measure => simp [intOf]; omega
        · have t1 : (x.type != kind) = false := by rw [ht]; simp
          have t2 : (x.cls != 1) = true := by simp [hc]
          have HQ := Lib.hid (HSk.out (by unfold keepR; rw [decide_eq_false hc]; simp))
          clear ht hc
          go_wp2
          go_roundw
          case rel => exact ⟨k + 1, by omega, by go_num, by rw [HQ.out], by rw [HQ.out]; exact HOa.out, HEa.out⟩
          case measure => simp [intOf]; omega
      · have t1 : (x.type != kind) = true := by simp [ht]
        have HQ := Lib.hid (HSk.out (by unfold keepR; rw [decide_eq_false ht]; simp))
        clear ht
        go_wp2
        go_roundw
        case rel => exact ⟨k + 1, by omega, by go_num, by rw [HQ.out], by rw [HQ.out]; exact HOa.out, HEa.out⟩
        case measure => simp [intOf]; omega
    · rw [List.take_of_length_le (by omega)] at hO
      rw [List.take_of_length_le (by omega)]
      have HO := Lib.hid hO
      clear hO
      go_wp2
      go_ret2
      exact ⟨hE, _, rfl, HO.out⟩
end Go.Proofs.Ytfnelkcllaaebaa
end
section
/- Contract of ref03.Set. No condition but that slices read as lists, the strings' sizes, and room. -/
open Go.RowKit
set_option linter.unusedVariables false
set_option linter.unusedSimpArgs false
namespace Go.Proofs.Ytfnelkcllaaebaa
def nonE (l : List Dat) : Bool := !l.isEmpty
theorem nonE_no {l : List Dat} (h : l = []) : nonE l = false := by rw [h]; rfl
theorem nonE_yes {l : List Dat} (h : l ≠ []) : nonE l = true := by cases l with | nil => exact absurd rfl h | cons a l => rfl
theorem nonE_snoc {l : List Dat} {d : Dat} : nonE (l ++ [d]) = true := nonE_yes (by simp)
theorem nonE_any {l : List Dat} {p : Dat → Bool} (h : l.any p = true) : nonE l = true := by cases l with | nil => simp at h | cons a l => rfl
def RefSetGives (n : List Str) (kind : Int) (l : List Rec) (w : World) (e : Ending) (w' : World) : Prop :=
  Ext w w' ∧ ∃ v1, e = .returned (.tuple #[v1, .int .i64 (setOf n kind l).2]) ∧ OwnM (fun W cs d => DatR w cs d ∧ Ext w W) 26 5 w' w.heap.size v1 (setOf n kind l).1
set_option maxRecDepth 100000 in
set_option maxHeartbeats 4000000 in
theorem ref_Set (l : List Rec) (n : List Str) (kind : Int) (v vn : Value) (w : World) (hv : RecsV w v l) (hn : NameV w vn n) (fr : ∀ r ∈ l, RFit r) (fn : Fits n) (hl : l.length ≤ 1000) :
    Calls Try.prog 49 #[v, vn, .int .i64 kind] w (RefSetGives n kind l w) := by
  have HV := Lib.hid hv
  have HN := Lib.hid hn
  have HF := Lib.hid fr
  have FN := Lib.hid fn
  obtain ⟨A, c, rfl, h1, h2⟩ := hv.form
  obtain ⟨An, cn, rfl, n1, n2⟩ := hn.form
  clear hv hn fr fn
  go_enter Try.func49, Try.ntmps49
  go_wp2
  go_loopw [8, 9, 10, 11, 12] (fun set ttl any i _ wr => ∃ k : Nat, k ≤ l.length ∧ i = .int .i64 k ∧ ttl = .int .i64 (setOf n kind (l.take k)).2 ∧ any = .bool (nonE (setOf n kind (l.take k)).1) ∧ OwnM (fun W cs d => DatR w cs d ∧ Ext w W) 26 5 wr w.heap.size set (setOf n kind (l.take k)).1 ∧ Ext w wr) (fun _ _ _ i _ _ => l.length - (intOf i).toNat)
  case atStart => exact ⟨0, by omega, rfl, rfl, rfl, OwnM.nil _ _ _ _ _, Ext.refl _⟩
  case round =>
    obtain ⟨k, hk, rfl, rfl, hany, hO, hE⟩ := hrel
    by_cases hlt : k < l.length
    · obtain ⟨b, o, c1, e1, _, _, _⟩ := HV.out.opens (by omega)
      injection e1 with e1 e3 e4
      subst e1
      clear e3 e4
      have hx := List.getElem?_eq_getElem hlt
      obtain ⟨vn, v0, v1, v2, v3, v4, hn, hd, c0', c1', c2', c3', c4', c5', c6', c7', c8'⟩ := recs_cells HV.out hx
      obtain ⟨An, kn, rfl, _, _⟩ := hn.form
      obtain ⟨A0, k0, rfl, _, _⟩ := hd.by_.form
      obtain ⟨A1, k1, rfl, _, _⟩ := hd.ho.form
      obtain ⟨A2, k2, rfl, _, _⟩ := hd.ma.form
      obtain ⟨A3, k3, rfl, _, _⟩ := hd.nu.form
      obtain ⟨A4, k4, rfl, _, _⟩ := hd.tx.form
      have g0 := hE.cell c0'
      have g1 := hE.cell c1'
      have g2 := hE.cell c2'
      have g3 := hE.cell c3'
      have g4 := hE.cell c4'
      have g5 := hE.cell c5'
      have g6 := hE.cell c6'
      have g7 := hE.cell c7'
      have g8 := hE.cell c8'
      clear c0' c1' c2' c3' c4' c5' c6' c7' c8'
      have HNr := Lib.hid hn
      have HD := Lib.hid hd
      have hmem := List.mem_of_getElem? hx
      have HFt := Lib.hid (HF.out _ hmem)
      have HX := Lib.hid hx
      have HO := Lib.hid hO
      clear hn hd hx hO hmem
      generalize l[k] = x at *
      generalize hs0 : setOf n kind (l.take k) = s at *
      have HS := Lib.hid hs0
      have HSk : Hid (keepR n kind x = false → setOf n kind (l.take (k + 1)) = s) := Lib.hid (fun h => (setOf_skip HX.out h).trans hs0)
      clear hs0
      obtain ⟨As, cs, rfl, _, _⟩ := HO.out.slice
      have hbx : Box9 (wr.alloc (.cells #[.slice An x.name.length kn, .int .i64 x.type, .int .i64 x.cls, .int .i64 x.ttl, .slice A0 x.data.bytes.length k0, .slice A1 x.data.host.length k1, .slice A2 x.data.mail.length k2, .slice A3 x.data.nums.length k3, .slice A4 x.data.texts.length k4] 49)) wr.heap.size _ _ _ _ _ _ _ _ _ := heap_alloc_new wr _
      have HBX := Lib.hid hbx
      clear hbx
      have HEa := Lib.hid (hE.alloc (.cells #[.slice An x.name.length kn, .int .i64 x.type, .int .i64 x.cls, .int .i64 x.ttl, .slice A0 x.data.bytes.length k0, .slice A1 x.data.host.length k1, .slice A2 x.data.mail.length k2, .slice A3 x.data.nums.length k3, .slice A4 x.data.texts.length k4] 49))
      have HOa := Lib.hid (HO.out.ext (fun cs r h => ⟨h.1, h.2.trans ((Ext.refl wr).alloc (.cells #[.slice An x.name.length kn, .int .i64 x.type, .int .i64 x.cls, .int .i64 x.ttl, .slice A0 x.data.bytes.length k0, .slice A1 x.data.host.length k1, .slice A2 x.data.mail.length k2, .slice A3 x.data.nums.length k3, .slice A4 x.data.texts.length k4] 49))⟩) ((Ext.refl wr).alloc _))
      have HFs : Hid (∀ d ∈ s.1, DFit d) := Lib.hid (fun d hd => by
        rw [← HS.out] at hd
        obtain ⟨r, hr1, hr2⟩ := setOf_mem n kind _ d hd
        rw [← hr2]
        exact (HF.out r (List.mem_of_mem_take hr1)).2)
      have HLs : Hid (s.1.length ≤ k) := Lib.hid (by
        have := setOf_len n kind (l.take k)
        rw [HS.out, List.length_take] at this
        omega)
      rcases ttl_cases s x with hz | ⟨hz, hz2⟩ | ⟨hz, hz2⟩
      · have HZ := Lib.hid (nonE_no hz)
        rw [HZ.out] at hany
        subst hany
        have HZ0 := Lib.hid hz
        clear hz
        by_cases hc : x.cls = 1
        · by_cases ht : x.type = kind
          · have t1 : (x.type == kind) = true := by rw [ht]; simp
            have t2 : (x.cls == 1) = true := by rw [hc]; rfl
            have HT := Lib.hid (And.intro ht hc)
            clear ht hc
            go_wp2_with fail
            refine (ref_Equal _ _ _ _ _ (HNr.out.ext HEa.out) (HN.out.ext HEa.out) HFt.out.1 FN.out).mono ?_
            rintro e w1 ⟨rfl, hE1⟩
            cases hq : neq x.name n with
            | false =>
              have HQ := Lib.hid (HSk.out (by unfold keepR; rw [hq]; simp))
              clear hq
              have HE1 := Lib.hid (HEa.out.trans hE1)
              have HO1 := Lib.hid (HOa.out.ext (fun cs r h => ⟨h.1, h.2.trans hE1⟩) hE1)
              clear hE1
              skip
              go_wp2
              go_roundw
              case rel => exact ⟨k + 1, by omega, by go_num, by rw [HQ.out], by rw [HQ.out, HZ.out], by rw [HQ.out]; exact HO1.out, HE1.out⟩
              case measure => simp [intOf]; omega
            | true =>
              have HK := Lib.hid (show keepR n kind x = true by unfold keepR; rw [hq, decide_eq_true HT.out.1, decide_eq_true HT.out.2]; rfl)
              clear hq
              have HE1 := Lib.hid (HEa.out.trans hE1)
              have HO1 := Lib.hid (HOa.out.ext (fun cs r h => ⟨h.1, h.2.trans hE1⟩) hE1)
              have HB1 := Lib.hid (show Box9 w1 wr.heap.size _ _ _ _ _ _ _ _ _ from hE1.block HBX.out)
              obtain ⟨q0, q1, q2, q3, q4, q5, q6, q7, q8⟩ := HB1.out.cells
              clear hE1 g0 g1 g2 g3 g4 g5 g6 g7 g8
              have HTt := Lib.hid (ttl_first (x := x) HZ0.out)
              go_wp2_with fail
              refine (ref_In s.1 x.data _ _ _ _ _ _ w1 (HO1.out.sl.imp fun _ _ h => h.1.ext h.2) (HD.out.ext HE1.out) HFs.out HFt.out.2).mono ?_
              rintro e w2 ⟨rfl, hE2⟩
              have HE2 := Lib.hid (HE1.out.trans hE2)
              have HO2 := Lib.hid (HO1.out.ext (fun cs r h => ⟨h.1, h.2.trans hE2⟩) hE2)
              have HB2 := Lib.hid (show Box9 w2 wr.heap.size _ _ _ _ _ _ _ _ _ from hE2.block HB1.out)
              clear hE2 q0 q1 q2 q3 q4 q5 q6 q7 q8
              obtain ⟨q0, q1, q2, q3, q4, q5, q6, q7, q8⟩ := HB2.out.cells
              cases hq2 : s.1.any (fun y => dsame y x.data) with
              | true =>
                have HQ := Lib.hid (setOf_in HS.out HX.out HK.out HTt.out hq2)
                have HN2 := Lib.hid (nonE_any hq2)
                clear hq2
                go_wp2
                go_roundw
                case rel => exact ⟨k + 1, by omega, by go_num, by rw [HQ.out], by rw [HQ.out, HN2.out], by rw [HQ.out]; exact HO2.out, HE2.out⟩
                case measure => simp [intOf]; omega
              | false =>
                have HQ := Lib.hid (setOf_new HS.out HX.out HK.out HTt.out hq2)
                clear hq2
                have hbb : w.heap.size ≤ w2.heap.size := HE2.out.size
                have HBs := Lib.hid hbb
                have HY : Hid (DatR w (#[.slice A0 x.data.bytes.length k0, .slice A1 x.data.host.length k1, .slice A2 x.data.mail.length k2, .slice A3 x.data.nums.length k3, .slice A4 x.data.texts.length k4] : Array Value).toList x.data ∧ Ext w w2) := Lib.hid ⟨⟨_, _, _, _, _, rfl, HD.out⟩, HE2.out⟩
                have HL : Hid ((s.1.length + 1) * 120 ≤ 140737488355328) := Lib.hid (by have := HLs.out; omega)
                have H1 := Lib.hid (ones5 A0 A1 A2 A3 A4 x.data.bytes.length x.data.host.length x.data.mail.length x.data.nums.length x.data.texts.length k0 k1 k2 k3 k4)
                clear hbb
                go_wp2_with (at_builtin; refine wpList_appB (fun W cs d => DatR w cs d ∧ Ext w W) w.heap.size rfl (.tmp 53) (.tmp 56) 60 26 (.agg #[.slice none 0 0, .slice none 0 0, .slice none 0 0, .slice none 0 0, .slice none 0 0]) 5 120 rfl Try.underlying60 dat_info rfl (by decide) (by decide) (keepsB_old w) _ s.1 x.data #[.slice A0 x.data.bytes.length k0, .slice A1 x.data.host.length k1, .slice A2 x.data.mail.length k2, .slice A3 x.data.nums.length k3, .slice A4 x.data.texts.length k4] rfl rfl rfl H1.out HY.out HO2.out HBs.out HL.out ?_; intro v5 w5 hO5 hg5; have HE5 := Lib.hid (HE2.out.grown hg5 (fun q hq => HO2.out.base_le q hq)); have HO5 := Lib.hid hO5; clear hO5 hg5)
                go_roundw
                case rel => exact ⟨k + 1, by omega, by go_num, by rw [HQ.out], by rw [HQ.out, nonE_snoc], by rw [HQ.out]; exact HO5.out, HE5.out⟩
                case measure => simp [intOf]; omega
          · have t1 : (x.type == kind) = false := by simp [ht]
            have t2 : (x.cls == 1) = true := by rw [hc]; rfl
            have HQ := Lib.hid (HSk.out (by unfold keepR; rw [decide_eq_false ht]; simp))
            clear ht hc
            skip
            go_wp2
            go_roundw
            case rel => exact ⟨k + 1, by omega, by go_num, by rw [HQ.out], by rw [HQ.out, HZ.out], by rw [HQ.out]; exact HOa.out, HEa.out⟩
            case measure => simp [intOf]; omega
        · have t2 : (x.cls == 1) = false := by simp [hc]
          have HQ := Lib.hid (HSk.out (by unfold keepR; rw [decide_eq_false hc]; simp))
          clear hc
          skip
          go_wp2
          go_roundw
          case rel => exact ⟨k + 1, by omega, by go_num, by rw [HQ.out], by rw [HQ.out, HZ.out], by rw [HQ.out]; exact HOa.out, HEa.out⟩
          case measure => simp [intOf]; omega
      · have HZ := Lib.hid (nonE_yes hz)
        rw [HZ.out] at hany
        subst hany
        have HZ0 := Lib.hid hz
        clear hz
        by_cases hc : x.cls = 1
        · by_cases ht : x.type = kind
          · have t1 : (x.type == kind) = true := by rw [ht]; simp
            have t2 : (x.cls == 1) = true := by rw [hc]; rfl
            have HT := Lib.hid (And.intro ht hc)
            clear ht hc
            go_wp2_with fail
            refine (ref_Equal _ _ _ _ _ (HNr.out.ext HEa.out) (HN.out.ext HEa.out) HFt.out.1 FN.out).mono ?_
            rintro e w1 ⟨rfl, hE1⟩
            cases hq : neq x.name n with
            | false =>
              have HQ := Lib.hid (HSk.out (by unfold keepR; rw [hq]; simp))
              clear hq
              have HE1 := Lib.hid (HEa.out.trans hE1)
              have HO1 := Lib.hid (HOa.out.ext (fun cs r h => ⟨h.1, h.2.trans hE1⟩) hE1)
              clear hE1
              skip
              go_wp2
              go_roundw
              case rel => exact ⟨k + 1, by omega, by go_num, by rw [HQ.out], by rw [HQ.out, HZ.out], by rw [HQ.out]; exact HO1.out, HE1.out⟩
              case measure => simp [intOf]; omega
            | true =>
              have HK := Lib.hid (show keepR n kind x = true by unfold keepR; rw [hq, decide_eq_true HT.out.1, decide_eq_true HT.out.2]; rfl)
              clear hq
              have HE1 := Lib.hid (HEa.out.trans hE1)
              have HO1 := Lib.hid (HOa.out.ext (fun cs r h => ⟨h.1, h.2.trans hE1⟩) hE1)
              have HB1 := Lib.hid (show Box9 w1 wr.heap.size _ _ _ _ _ _ _ _ _ from hE1.block HBX.out)
              obtain ⟨q0, q1, q2, q3, q4, q5, q6, q7, q8⟩ := HB1.out.cells
              clear hE1 g0 g1 g2 g3 g4 g5 g6 g7 g8
              have HTt := Lib.hid (ttl_less (s := s) hz2)
              go_wp2_with fail
              refine (ref_In s.1 x.data _ _ _ _ _ _ w1 (HO1.out.sl.imp fun _ _ h => h.1.ext h.2) (HD.out.ext HE1.out) HFs.out HFt.out.2).mono ?_
              rintro e w2 ⟨rfl, hE2⟩
              have HE2 := Lib.hid (HE1.out.trans hE2)
              have HO2 := Lib.hid (HO1.out.ext (fun cs r h => ⟨h.1, h.2.trans hE2⟩) hE2)
              have HB2 := Lib.hid (show Box9 w2 wr.heap.size _ _ _ _ _ _ _ _ _ from hE2.block HB1.out)
              clear hE2 q0 q1 q2 q3 q4 q5 q6 q7 q8
              obtain ⟨q0, q1, q2, q3, q4, q5, q6, q7, q8⟩ := HB2.out.cells
              cases hq2 : s.1.any (fun y => dsame y x.data) with
              | true =>
                have HQ := Lib.hid (setOf_in HS.out HX.out HK.out HTt.out hq2)
                have HN2 := Lib.hid (nonE_any hq2)
                clear hq2
                go_wp2
                go_roundw
                case rel => exact ⟨k + 1, by omega, by go_num, by rw [HQ.out], by rw [HQ.out, HN2.out], by rw [HQ.out]; exact HO2.out, HE2.out⟩
                case measure => simp [intOf]; omega
              | false =>
                have HQ := Lib.hid (setOf_new HS.out HX.out HK.out HTt.out hq2)
                clear hq2
                have hbb : w.heap.size ≤ w2.heap.size := HE2.out.size
                have HBs := Lib.hid hbb
                have HY : Hid (DatR w (#[.slice A0 x.data.bytes.length k0, .slice A1 x.data.host.length k1, .slice A2 x.data.mail.length k2, .slice A3 x.data.nums.length k3, .slice A4 x.data.texts.length k4] : Array Value).toList x.data ∧ Ext w w2) := Lib.hid ⟨⟨_, _, _, _, _, rfl, HD.out⟩, HE2.out⟩
                have HL : Hid ((s.1.length + 1) * 120 ≤ 140737488355328) := Lib.hid (by have := HLs.out; omega)
                have H1 := Lib.hid (ones5 A0 A1 A2 A3 A4 x.data.bytes.length x.data.host.length x.data.mail.length x.data.nums.length x.data.texts.length k0 k1 k2 k3 k4)
                clear hbb
                go_wp2_with (at_builtin; refine wpList_appB (fun W cs d => DatR w cs d ∧ Ext w W) w.heap.size rfl (.tmp 53) (.tmp 56) 60 26 (.agg #[.slice none 0 0, .slice none 0 0, .slice none 0 0, .slice none 0 0, .slice none 0 0]) 5 120 rfl Try.underlying60 dat_info rfl (by decide) (by decide) (keepsB_old w) _ s.1 x.data #[.slice A0 x.data.bytes.length k0, .slice A1 x.data.host.length k1, .slice A2 x.data.mail.length k2, .slice A3 x.data.nums.length k3, .slice A4 x.data.texts.length k4] rfl rfl rfl H1.out HY.out HO2.out HBs.out HL.out ?_; intro v5 w5 hO5 hg5; have HE5 := Lib.hid (HE2.out.grown hg5 (fun q hq => HO2.out.base_le q hq)); have HO5 := Lib.hid hO5; clear hO5 hg5)
                go_roundw
                case rel => exact ⟨k + 1, by omega, by go_num, by rw [HQ.out], by rw [HQ.out, nonE_snoc], by rw [HQ.out]; exact HO5.out, HE5.out⟩
                case measure => simp [intOf]; omega
          · have t1 : (x.type == kind) = false := by simp [ht]
            have t2 : (x.cls == 1) = true := by rw [hc]; rfl
            have HQ := Lib.hid (HSk.out (by unfold keepR; rw [decide_eq_false ht]; simp))
            clear ht hc
            skip
            go_wp2
            go_roundw
            case rel => exact ⟨k + 1, by omega, by go_num, by rw [HQ.out], by rw [HQ.out, HZ.out], by rw [HQ.out]; exact HOa.out, HEa.out⟩
            case measure => simp [intOf]; omega
        · have t2 : (x.cls == 1) = false := by simp [hc]
          have HQ := Lib.hid (HSk.out (by unfold keepR; rw [decide_eq_false hc]; simp))
          clear hc
          skip
          go_wp2
          go_roundw
          case rel => exact ⟨k + 1, by omega, by go_num, by rw [HQ.out], by rw [HQ.out, HZ.out], by rw [HQ.out]; exact HOa.out, HEa.out⟩
          case measure => simp [intOf]; omega
      · have HZ := Lib.hid (nonE_yes hz)
        rw [HZ.out] at hany
        subst hany
        have HZ0 := Lib.hid hz
        clear hz
        by_cases hc : x.cls = 1
        · by_cases ht : x.type = kind
          · have t1 : (x.type == kind) = true := by rw [ht]; simp
            have t2 : (x.cls == 1) = true := by rw [hc]; rfl
            have HT := Lib.hid (And.intro ht hc)
            clear ht hc
            go_wp2_with fail
            refine (ref_Equal _ _ _ _ _ (HNr.out.ext HEa.out) (HN.out.ext HEa.out) HFt.out.1 FN.out).mono ?_
            rintro e w1 ⟨rfl, hE1⟩
            cases hq : neq x.name n with
            | false =>
              have HQ := Lib.hid (HSk.out (by unfold keepR; rw [hq]; simp))
              clear hq
              have HE1 := Lib.hid (HEa.out.trans hE1)
              have HO1 := Lib.hid (HOa.out.ext (fun cs r h => ⟨h.1, h.2.trans hE1⟩) hE1)
              clear hE1
              skip
              go_wp2
              go_roundw
              case rel => exact ⟨k + 1, by omega, by go_num, by rw [HQ.out], by rw [HQ.out, HZ.out], by rw [HQ.out]; exact HO1.out, HE1.out⟩
              case measure => simp [intOf]; omega
            | true =>
              have HK := Lib.hid (show keepR n kind x = true by unfold keepR; rw [hq, decide_eq_true HT.out.1, decide_eq_true HT.out.2]; rfl)
              clear hq
              have HE1 := Lib.hid (HEa.out.trans hE1)
              have HO1 := Lib.hid (HOa.out.ext (fun cs r h => ⟨h.1, h.2.trans hE1⟩) hE1)
              have HB1 := Lib.hid (show Box9 w1 wr.heap.size _ _ _ _ _ _ _ _ _ from hE1.block HBX.out)
              obtain ⟨q0, q1, q2, q3, q4, q5, q6, q7, q8⟩ := HB1.out.cells
              clear hE1 g0 g1 g2 g3 g4 g5 g6 g7 g8
              have HTt := Lib.hid (ttl_keep (x := x) HZ0.out (by omega))
              go_wp2_with fail
              refine (ref_In s.1 x.data _ _ _ _ _ _ w1 (HO1.out.sl.imp fun _ _ h => h.1.ext h.2) (HD.out.ext HE1.out) HFs.out HFt.out.2).mono ?_
              rintro e w2 ⟨rfl, hE2⟩
              have HE2 := Lib.hid (HE1.out.trans hE2)
              have HO2 := Lib.hid (HO1.out.ext (fun cs r h => ⟨h.1, h.2.trans hE2⟩) hE2)
              have HB2 := Lib.hid (show Box9 w2 wr.heap.size _ _ _ _ _ _ _ _ _ from hE2.block HB1.out)
              clear hE2 q0 q1 q2 q3 q4 q5 q6 q7 q8
              obtain ⟨q0, q1, q2, q3, q4, q5, q6, q7, q8⟩ := HB2.out.cells
              cases hq2 : s.1.any (fun y => dsame y x.data) with
              | true =>
                have HQ := Lib.hid (setOf_in HS.out HX.out HK.out HTt.out hq2)
                have HN2 := Lib.hid (nonE_any hq2)
                clear hq2
                go_wp2
                go_roundw
                case rel => exact ⟨k + 1, by omega, by go_num, by rw [HQ.out], by rw [HQ.out, HN2.out], by rw [HQ.out]; exact HO2.out, HE2.out⟩
                case measure => simp [intOf]; omega
              | false =>
                have HQ := Lib.hid (setOf_new HS.out HX.out HK.out HTt.out hq2)
                clear hq2
                have hbb : w.heap.size ≤ w2.heap.size := HE2.out.size
                have HBs := Lib.hid hbb
                have HY : Hid (DatR w (#[.slice A0 x.data.bytes.length k0, .slice A1 x.data.host.length k1, .slice A2 x.data.mail.length k2, .slice A3 x.data.nums.length k3, .slice A4 x.data.texts.length k4] : Array Value).toList x.data ∧ Ext w w2) := Lib.hid ⟨⟨_, _, _, _, _, rfl, HD.out⟩, HE2.out⟩
                have HL : Hid ((s.1.length + 1) * 120 ≤ 140737488355328) := Lib.hid (by have := HLs.out; omega)
                have H1 := Lib.hid (ones5 A0 A1 A2 A3 A4 x.data.bytes.length x.data.host.length x.data.mail.length x.data.nums.length x.data.texts.length k0 k1 k2 k3 k4)
                clear hbb
                go_wp2_with (at_builtin; refine wpList_appB (fun W cs d => DatR w cs d ∧ Ext w W) w.heap.size rfl (.tmp 53) (.tmp 56) 60 26 (.agg #[.slice none 0 0, .slice none 0 0, .slice none 0 0, .slice none 0 0, .slice none 0 0]) 5 120 rfl Try.underlying60 dat_info rfl (by decide) (by decide) (keepsB_old w) _ s.1 x.data #[.slice A0 x.data.bytes.length k0, .slice A1 x.data.host.length k1, .slice A2 x.data.mail.length k2, .slice A3 x.data.nums.length k3, .slice A4 x.data.texts.length k4] rfl rfl rfl H1.out HY.out HO2.out HBs.out HL.out ?_; intro v5 w5 hO5 hg5; have HE5 := Lib.hid (HE2.out.grown hg5 (fun q hq => HO2.out.base_le q hq)); have HO5 := Lib.hid hO5; clear hO5 hg5)
                go_roundw
                case rel => exact ⟨k + 1, by omega, by go_num, by rw [HQ.out], by rw [HQ.out, nonE_snoc], by rw [HQ.out]; exact HO5.out, HE5.out⟩
                case measure => simp [intOf]; omega
          · have t1 : (x.type == kind) = false := by simp [ht]
            have t2 : (x.cls == 1) = true := by rw [hc]; rfl
            have HQ := Lib.hid (HSk.out (by unfold keepR; rw [decide_eq_false ht]; simp))
            clear ht hc
            skip
            go_wp2
            go_roundw
            case rel => exact ⟨k + 1, by omega, by go_num, by rw [HQ.out], by rw [HQ.out, HZ.out], by rw [HQ.out]; exact HOa.out, HEa.out⟩
            case measure => simp [intOf]; omega
        · have t2 : (x.cls == 1) = false := by simp [hc]
          have HQ := Lib.hid (HSk.out (by unfold keepR; rw [decide_eq_false hc]; simp))
          clear hc
          skip
          go_wp2
          go_roundw
          case rel => exact ⟨k + 1, by omega, by go_num, by rw [HQ.out], by rw [HQ.out, HZ.out], by rw [HQ.out]; exact HOa.out, HEa.out⟩
          case measure => simp [intOf]; omega
    · rw [List.take_of_length_le (by omega)] at hO
      rw [List.take_of_length_le (by omega)]
      have HO := Lib.hid hO
      clear hO
      go_wp2
      go_ret2
      exact ⟨hE, _, rfl, HO.out⟩
end Go.Proofs.Ytfnelkcllaaebaa
end
