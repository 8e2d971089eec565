/- Parts of one proof, joined: OwnRR, OwnM2, RrSet, RefSet. Conditions: those that each theorem states. -/
import Derived.Test.YtfnelkcllaaebaaEB11
section
/- Contract of ref03.OwnRRs. No condition but that slices read as lists, and room. -/
open Go.RowKit
set_option linter.unusedVariables false
set_option linter.unusedSimpArgs false
namespace Go.Proofs.Ytfnelkcllaaebaa
/-- The nine cells of a record whose rows are the call's own. -/
def RecN (w : World) (base : Nat) (cs : List Value) (r : Rec) : Prop := ∃ vn v0 v1 v2 v3 v4, cs = [vn, .int .i64 r.type, .int .i64 r.cls, .int .i64 r.ttl, v0, v1, v2, v3, v4] ∧ NewS Value.string 9 w base vn r.name ∧ DatN w base [v0, v1, v2, v3, v4] r.data
theorem RecN.ext {w w' : World} {base : Nat} {cs : List Value} {r : Rec} (h : RecN w base cs r) (he : Ext w w') : RecN w' base cs r := by
  obtain ⟨vn, v0, v1, v2, v3, v4, h, hn, hd⟩ := h
  exact ⟨vn, v0, v1, v2, v3, v4, h, hn.ext he, hd.ext he⟩
theorem DatN.grown {w w' : World} {base : Nat} {cs : List Value} {d : Dat} {row : Option Nat} {e' : TypeId} (h : DatN w base cs d) (hg : w.grownBy w' row) (ht : ∀ k, row = some k → ∃ cur, w.heap[k]? = some (.cells cur e' (0, 0))) (h5 : e' ≠ 5) (h9 : e' ≠ 9) (h3 : e' ≠ 3) : DatN w' base cs d := by
  obtain ⟨v0, v1, v2, v3, v4, h, g0, g1, g2, g3, g4⟩ := h
  exact ⟨v0, v1, v2, v3, v4, h, g0.grown hg ht h5, g1.grown hg ht h9, g2.grown hg ht h9, g3.grown hg ht h3, g4.grown hg ht h9⟩
theorem recN_keeps (base : Nat) : Keeps (fun w cs r => RecN w base cs r) 49 := by
  intro w w' row cs r hg ht h
  obtain ⟨vn, v0, v1, v2, v3, v4, h, hn, hd⟩ := h
  exact ⟨vn, v0, v1, v2, v3, v4, h, hn.grown hg ht (by decide), hd.grown hg ht (by decide) (by decide) (by decide)⟩
theorem grown_set (w : World) (b o : Nat) (u : Value) : w.grownBy (w.setCell ⟨b, o, none⟩ u) (some b) := ⟨rfl, rfl, rfl, by simp [World.setCell], fun k hk hn => Below.heap_setCell w ⟨b, o, none⟩ u k (fun e => hn (by rw [e]))⟩
/-- A box of the same type, not the row's own, is written. -/
theorem OwnM.box {α : Type} {R : World → List Value → α → Prop} {e : TypeId} {sz : Nat} {w : World} {base : Nat} {v : Value} {l : List α} (h : OwnM R e sz w base v l) (hk : Keeps R e) {b : Nat} (hb : ∃ cur, w.heap[b]? = some (.cells cur e (0, 0))) (hne : v.ownBlock ≠ some b) (o : Nat) (u : Value) : OwnM R e sz (w.setCell ⟨b, o, none⟩ u) base v l :=
  h.kept (fun cs x hr => hk w _ (some b) cs x (grown_set w b o u) (fun k hk => by injection hk with hk; subst hk; exact hb) hr) (grown_set w b o u) (.inr hne)
theorem OwnM.lt {α : Type} {R : World → List Value → α → Prop} {e : TypeId} {sz : Nat} {w : World} {base : Nat} {v : Value} {l : List α} (h : OwnM R e sz w base v l) (k : Nat) (hk : v.ownBlock = some k) : k < w.heap.size := by
  obtain ⟨cur, h1⟩ := h.type k hk
  exact (Array.getElem?_eq_some_iff.1 h1).1
/-- A block of a type. -/
def Typed (w : World) (b : Nat) (e : TypeId) : Prop := ∃ cur, w.heap[b]? = some (.cells cur e (0, 0))
theorem Typed.set {w : World} {b : Nat} {e : TypeId} (h : Typed w b e) (p : Addr) (u : Value) : Typed (w.setCell p u) b e := by
  obtain ⟨cur, h⟩ := h
  by_cases hp : p.block = b
  · subst hp
    exact ⟨_, by simp [World.setCell, Array.getElem?_modify, h]; rfl⟩
  · exact ⟨cur, (Below.heap_setCell w p u b (fun e => hp e.symm)).trans h⟩
theorem NewS.box {α : Type} {V : α → Value} {e e' : TypeId} {w : World} {base : Nat} {v : Value} {l : List α} (h : NewS V e w base v l) {b : Nat} (hb : Typed w b e') (hne : e' ≠ e) (o : Nat) (u : Value) : NewS V e (w.setCell ⟨b, o, none⟩ u) base v l :=
  h.grown (grown_set w b o u) (fun k hk => by injection hk with hk; subst hk; exact hb) hne
theorem DatN.box {w : World} {base : Nat} {cs : List Value} {d : Dat} {e' : TypeId} (h : DatN w base cs d) {b : Nat} (hb : Typed w b e') (h5 : e' ≠ 5) (h9 : e' ≠ 9) (h3 : e' ≠ 3) (o : Nat) (u : Value) : DatN (w.setCell ⟨b, o, none⟩ u) base cs d :=
  h.grown (grown_set w b o u) (fun k hk => by injection hk with hk; subst hk; exact hb) h5 h9 h3
/-- A box of nine cells. -/
def Box9 (w : World) (b : Nat) (c0 c1 c2 c3 c4 c5 c6 c7 c8 : Value) : Prop := w.heap[b]? = some (.cells #[c0, c1, c2, c3, c4, c5, c6, c7, c8] 49 (0, 0))
theorem Box9.cells {w : World} {b : Nat} {c0 c1 c2 c3 c4 c5 c6 c7 c8 : Value} (h : Box9 w b c0 c1 c2 c3 c4 c5 c6 c7 c8) : w.cell? ⟨b, 0, none⟩ = some c0 ∧ w.cell? ⟨b, 1, none⟩ = some c1 ∧ w.cell? ⟨b, 2, none⟩ = some c2 ∧ w.cell? ⟨b, 3, none⟩ = some c3 ∧ w.cell? ⟨b, 4, none⟩ = some c4 ∧ w.cell? ⟨b, 5, none⟩ = some c5 ∧ w.cell? ⟨b, 6, none⟩ = some c6 ∧ w.cell? ⟨b, 7, none⟩ = some c7 ∧ w.cell? ⟨b, 8, none⟩ = some c8 := by
  unfold Box9 at h
  refine ⟨?_, ?_, ?_, ?_, ?_, ?_, ?_, ?_, ?_⟩ <;> simp [World.cell?, h]
theorem Box9.free {w : World} {b : Nat} {c0 c1 c2 c3 c4 c5 c6 c7 c8 : Value} (h : Box9 w b c0 c1 c2 c3 c4 c5 c6 c7 c8) (i : Nat) : w.frozen? ⟨b, i, none⟩ = false := by
  unfold Box9 at h; simp [World.frozen?, h]
theorem Box9.set0 {w : World} {b : Nat} {c0 c1 c2 c3 c4 c5 c6 c7 c8 : Value} (h : Box9 w b c0 c1 c2 c3 c4 c5 c6 c7 c8) (u : Value) : Box9 (w.setCell ⟨b, 0, none⟩ u) b u c1 c2 c3 c4 c5 c6 c7 c8 := by
  unfold Box9 at *; simp [World.setCell, Array.getElem?_modify, h]
theorem Box9.set5 {w : World} {b : Nat} {c0 c1 c2 c3 c4 c5 c6 c7 c8 : Value} (h : Box9 w b c0 c1 c2 c3 c4 c5 c6 c7 c8) (u0 u1 u2 u3 u4 : Value) : Box9 (((((w.setCell ⟨b, 4, none⟩ u0).setCell ⟨b, 5, none⟩ u1).setCell ⟨b, 6, none⟩ u2).setCell ⟨b, 7, none⟩ u3).setCell ⟨b, 8, none⟩ u4) b c0 c1 c2 c3 u0 u1 u2 u3 u4 := by
  unfold Box9 at *; simp [World.setCell, Array.getElem?_modify, h]
def RRoom (r : Rec) : Prop := r.name.length * 16 ≤ 140737488355328 ∧ DRoom r.data
theorem rec_info : (Try.prog.info? 49).map (fun i => (i.zero, i.size, i.bytes)) = some (some (.agg #[.slice none 0 0, .int .i64 0, .int .i64 0, .int .i64 0, .slice none 0 0, .slice none 0 0, .slice none 0 0, .slice none 0 0, .slice none 0 0]), 9, 168) := by kernel_rfl
set_option maxRecDepth 100000 in
set_option maxHeartbeats 1000000 in
theorem ref_OwnRRs (l : List Rec) (v : Value) (w : World) (hv : RecsV w v l) (hr : ∀ r ∈ l, RRoom r) (hl : l.length ≤ 1000) :
    Calls Try.prog 48 #[v] w fun e w' => Ext w w' ∧ ∃ v1, e = .returned v1 ∧ OwnM (fun W cs r => RecN W w.heap.size cs r) 49 9 w' w.heap.size v1 l := by
  have HV := Lib.hid hv
  have HR := Lib.hid hr
  obtain ⟨A, c, rfl, h1, h2⟩ := hv.form
  clear hv hr
  go_enter Try.func48, Try.ntmps48
  go_wp2
  go_loopw [3, 4, 5] (fun out i _ wr => ∃ k : Nat, k ≤ l.length ∧ i = .int .i64 k ∧ OwnM (fun w' cs r => RecN w' w.heap.size cs r) 49 9 wr w.heap.size out (l.take k) ∧ Ext w wr) (fun _ i _ _ => l.length - (intOf i).toNat)
  case atStart => exact ⟨0, by omega, rfl, OwnM.nil _ _ _ _ _, Ext.refl _⟩
  case round =>
    obtain ⟨k, hk, rfl, hO, hE⟩ := hrel
    by_cases hlt : k < l.length
    · obtain ⟨b, o, c1, e1, _, _, _⟩ := HV.out.opens (by omega)
      injection e1 with e1 e3 e4
      subst e1
      clear e3 e4
      have hx := List.getElem?_eq_getElem hlt
      obtain ⟨vn, v0, v1, v2, v3, v4, hn, hd, c0', c1', c2', c3', c4', c5', c6', c7', c8'⟩ := recs_cells HV.out hx
      obtain ⟨An, kn, rfl, _, _⟩ := hn.form
      obtain ⟨A0, k0, rfl, _, _⟩ := hd.by_.form
      obtain ⟨A1, k1, rfl, _, _⟩ := hd.ho.form
      obtain ⟨A2, k2, rfl, _, _⟩ := hd.ma.form
      obtain ⟨A3, k3, rfl, _, _⟩ := hd.nu.form
      obtain ⟨A4, k4, rfl, _, _⟩ := hd.tx.form
      have g0 := hE.cell c0'
      have g1 := hE.cell c1'
      have g2 := hE.cell c2'
      have g3 := hE.cell c3'
      have g4 := hE.cell c4'
      have g5 := hE.cell c5'
      have g6 := hE.cell c6'
      have g7 := hE.cell c7'
      have g8 := hE.cell c8'
      clear c0' c1' c2' c3' c4' c5' c6' c7' c8'
      have HN := Lib.hid hn
      have HD := Lib.hid hd
      have HRm := Lib.hid (HR.out _ (List.mem_of_getElem? hx))
      have HX := Lib.hid hx
      have HO := Lib.hid hO
      clear hn hd hx hO
      generalize l[k] = x at *
      have hbx : Box9 (wr.alloc (.cells #[.slice An x.name.length kn, .int .i64 x.type, .int .i64 x.cls, .int .i64 x.ttl, .slice A0 x.data.bytes.length k0, .slice A1 x.data.host.length k1, .slice A2 x.data.mail.length k2, .slice A3 x.data.nums.length k3, .slice A4 x.data.texts.length k4] 49)) wr.heap.size _ _ _ _ _ _ _ _ _ := heap_alloc_new wr _
      have HBX := Lib.hid hbx
      obtain ⟨b0, -⟩ := hbx.cells
      clear hbx
      go_wp2_with (at_builtin; go_must (refine wpList_app0 Value.string rfl (.tmp 16) (.tmp 18) 23 9 (.string ⟨#[]⟩) 16 rfl Try.underlying23 (by kernel_rfl) rfl (by decide) _ x.name _ rfl rfl (fun _ => rfl) (HN.out.ext ((hE.alloc _).alloc _)) HRm.out.1 ?_); intro v9 w1 hN9 hE9; obtain ⟨A9, n9, k9, rfl⟩ := hN9.slice; have hb9 : Box9 w1 wr.heap.size _ _ _ _ _ _ _ _ _ := hE9.block (((Ext.refl _).alloc _).block HBX.out); obtain ⟨q0, q1, q2, q3, q4, q5, q6, q7, q8⟩ := hb9.cells; have qf := hb9.free; have HB9 := Lib.hid hb9; have HN9 := Lib.hid hN9; have HE9 := Lib.hid hE9; clear hb9 hN9 hE9)
      have hEw1 : Ext w w1 := ((hE.alloc _).alloc _).trans HE9.out
      have hsz : w.heap.size ≤ wr.heap.size := hE.size
      have hEw2 : Ext w (w1.setCell ⟨wr.heap.size, 0, none⟩ (.slice A9 n9 k9)) := hEw1.setCell hsz _
      have HB2 := Lib.hid (HB9.out.set0 (.slice A9 n9 k9))
      have hne : u3.ownBlock ≠ some wr.heap.size := fun h => by have := HO.out.lt _ h; omega
      have HO1 := Lib.hid ((HO.out.ext (fun cs r h => h.ext (((Ext.refl wr).alloc _).alloc _ |>.trans HE9.out)) (((Ext.refl wr).alloc _).alloc _ |>.trans HE9.out)))
      have HO2 := Lib.hid (HO1.out.box (recN_keeps _) ⟨_, HB9.out⟩ hne 0 (.slice A9 n9 k9))
      have HN2 := Lib.hid (HN9.out.grown (e' := 49) (grown_set w1 wr.heap.size 0 (.slice A9 n9 k9)) (fun q hq => by injection hq with hq; subst hq; exact ⟨_, HB9.out⟩) (by decide))
      refine (ref_OwnData x.data _ _ _ _ _ _ (HD.out.ext hEw2) HRm.out.2).mono ?_
      rintro e w3 ⟨hE3, v, rfl, hOV⟩
      obtain ⟨x0, x1, x2, x3, x4, rfl, o0, o1, o2, o3, o4, -, -⟩ := hOV
      obtain ⟨B0, m0, r0, rfl⟩ := o0.slice
      obtain ⟨B1, m1, r1, rfl⟩ := o1.slice
      obtain ⟨B2, m2, r2, rfl⟩ := o2.slice
      obtain ⟨B3, m3, r3, rfl⟩ := o3.slice
      obtain ⟨B4, m4, r4, rfl⟩ := o4.slice
      have hbb : w.heap.size ≤ (w1.setCell ⟨wr.heap.size, 0, none⟩ (.slice A9 n9 k9)).heap.size := hEw2.size
      have HDN := Lib.hid (show DatN w3 w.heap.size _ x.data from ⟨_, _, _, _, _, rfl, o0.mono hbb, o1.mono hbb, o2.mono hbb, o3.mono hbb, o4.mono hbb⟩)
      have HN3 := Lib.hid (HN2.out.ext hE3)
      have HO3 := Lib.hid (HO2.out.ext (fun cs r h => h.ext hE3) hE3)
      have HB3 := Lib.hid (show Box9 w3 wr.heap.size _ _ _ _ _ _ _ _ _ from hE3.block HB2.out)
      have HE3 := Lib.hid (hEw2.trans hE3)
      clear o0 o1 o2 o3 o4 q0 q1 q2 q3 q4 q5 q6 q7 q8 qf hE3
      obtain ⟨q0, q1, q2, q3, q4, q5, q6, q7, q8⟩ := HB3.out.cells
      have qf := HB3.out.free
      have HB4 := Lib.hid (HB3.out.set5 (.slice B0 m0 r0) (.slice B1 m1 r1) (.slice B2 m2 r2) (.slice B3 m3 r3) (.slice B4 m4 r4))
      have hty : ∃ cur, w3.heap[wr.heap.size]? = some (.cells cur 49 (0, 0)) := ⟨_, HB3.out⟩
      have HO4 := Lib.hid (((((HO3.out.box (recN_keeps _) hty hne 4 (.slice B0 m0 r0)).box (recN_keeps _) ⟨_, by simp [World.setCell, Array.getElem?_modify, (show w3.heap[wr.heap.size]? = _ from HB3.out)]; rfl⟩ hne 5 (.slice B1 m1 r1)).box (recN_keeps _) ⟨_, by simp [World.setCell, Array.getElem?_modify, (show w3.heap[wr.heap.size]? = _ from HB3.out)]; rfl⟩ hne 6 (.slice B2 m2 r2)).box (recN_keeps _) ⟨_, by simp [World.setCell, Array.getElem?_modify, (show w3.heap[wr.heap.size]? = _ from HB3.out)]; rfl⟩ hne 7 (.slice B3 m3 r3)).box (recN_keeps _) ⟨_, by simp [World.setCell, Array.getElem?_modify, (show w3.heap[wr.heap.size]? = _ from HB3.out)]; rfl⟩ hne 8 (.slice B4 m4 r4))
      have HL := Lib.hid (show ((l.take k).length + 1) * 168 ≤ 140737488355328 by rw [List.length_take]; omega)
      have hsz4 : (((((w3.setCell ⟨wr.heap.size, 4, none⟩ (.slice B0 m0 r0)).setCell ⟨wr.heap.size, 5, none⟩ (.slice B1 m1 r1)).setCell ⟨wr.heap.size, 6, none⟩ (.slice B2 m2 r2)).setCell ⟨wr.heap.size, 7, none⟩ (.slice B3 m3 r3)).setCell ⟨wr.heap.size, 8, none⟩ (.slice B4 m4 r4)).heap.size = w3.heap.size := by simp [World.setCell]
      have HZ := Lib.hid hsz4
      clear hsz4
      have H1 : Hid (∀ u ∈ ((#[.slice A9 n9 k9, .int .i64 x.type, .int .i64 x.cls, .int .i64 x.ttl, .slice B0 m0 r0, .slice B1 m1 r1, .slice B2 m2 r2, .slice B3 m3 r3, .slice B4 m4 r4] : Array Value)).toList, u.oneCell' = true) := Lib.hid (by
        intro u hu
        simp only [List.mem_cons, List.not_mem_nil, or_false] at hu
        rcases hu with rfl | rfl | rfl | rfl | rfl | rfl | rfl | rfl | rfl <;> rfl)
      have HY : Hid (RecN (((((w3.setCell ⟨wr.heap.size, 4, none⟩ (.slice B0 m0 r0)).setCell ⟨wr.heap.size, 5, none⟩ (.slice B1 m1 r1)).setCell ⟨wr.heap.size, 6, none⟩ (.slice B2 m2 r2)).setCell ⟨wr.heap.size, 7, none⟩ (.slice B3 m3 r3)).setCell ⟨wr.heap.size, 8, none⟩ (.slice B4 m4 r4)) w.heap.size ((#[.slice A9 n9 k9, .int .i64 x.type, .int .i64 x.cls, .int .i64 x.ttl, .slice B0 m0 r0, .slice B1 m1 r1, .slice B2 m2 r2, .slice B3 m3 r3, .slice B4 m4 r4] : Array Value)).toList x) := Lib.hid (by
        have t0 : Typed w3 wr.heap.size 49 := hty
        refine ⟨_, _, _, _, _, _, rfl, ?_, ?_⟩
        · refine NewS.mono (base := ((wr.alloc (.cells #[.slice An x.name.length kn, .int .i64 x.type, .int .i64 x.cls, .int .i64 x.ttl, .slice A0 x.data.bytes.length k0, .slice A1 x.data.host.length k1, .slice A2 x.data.mail.length k2, .slice A3 x.data.nums.length k3, .slice A4 x.data.texts.length k4] 49)).alloc (.cells #[] 9)).heap.size) ?_ (by simp; omega)
          exact ((((HN3.out.box t0 (by decide) 4 (.slice B0 m0 r0)).box (t0.set _ _) (by decide) 5 (.slice B1 m1 r1)).box ((t0.set _ _).set _ _) (by decide) 6 (.slice B2 m2 r2)).box (((t0.set _ _).set _ _).set _ _) (by decide) 7 (.slice B3 m3 r3)).box ((((t0.set _ _).set _ _).set _ _).set _ _) (by decide) 8 (.slice B4 m4 r4)
        · exact ((((HDN.out.box t0 (by decide) (by decide) (by decide) 4 (.slice B0 m0 r0)).box (t0.set _ _) (by decide) (by decide) (by decide) 5 (.slice B1 m1 r1)).box ((t0.set _ _).set _ _) (by decide) (by decide) (by decide) 6 (.slice B2 m2 r2)).box (((t0.set _ _).set _ _).set _ _) (by decide) (by decide) (by decide) 7 (.slice B3 m3 r3)).box ((((t0.set _ _).set _ _).set _ _).set _ _) (by decide) (by decide) (by decide) 8 (.slice B4 m4 r4))
      have HBs : Hid (w.heap.size ≤ (((((w3.setCell ⟨wr.heap.size, 4, none⟩ (.slice B0 m0 r0)).setCell ⟨wr.heap.size, 5, none⟩ (.slice B1 m1 r1)).setCell ⟨wr.heap.size, 6, none⟩ (.slice B2 m2 r2)).setCell ⟨wr.heap.size, 7, none⟩ (.slice B3 m3 r3)).setCell ⟨wr.heap.size, 8, none⟩ (.slice B4 m4 r4)).heap.size) := Lib.hid (by rw [HZ.out]; exact HE3.out.size)
      have HE4 : Hid (Ext w (((((w3.setCell ⟨wr.heap.size, 4, none⟩ (.slice B0 m0 r0)).setCell ⟨wr.heap.size, 5, none⟩ (.slice B1 m1 r1)).setCell ⟨wr.heap.size, 6, none⟩ (.slice B2 m2 r2)).setCell ⟨wr.heap.size, 7, none⟩ (.slice B3 m3 r3)).setCell ⟨wr.heap.size, 8, none⟩ (.slice B4 m4 r4))) := Lib.hid (((((HE3.out.setCell hsz _).setCell hsz _).setCell hsz _).setCell hsz _).setCell hsz _)
      go_wp2_with (at_builtin; refine wpList_appM (fun W cs r => RecN W w.heap.size cs r) w.heap.size rfl (.tmp 25) (.tmp 27) 37 49 (.agg #[.slice none 0 0, .int .i64 0, .int .i64 0, .int .i64 0, .slice none 0 0, .slice none 0 0, .slice none 0 0, .slice none 0 0, .slice none 0 0]) 9 168 rfl Try.underlying37 rec_info rfl (by decide) (by decide) (recN_keeps _) (fun w w' cs r hE h => h.ext hE) u3 (l.take k) x #[.slice A9 n9 k9, .int .i64 x.type, .int .i64 x.cls, .int .i64 x.ttl, .slice B0 m0 r0, .slice B1 m1 r1, .slice B2 m2 r2, .slice B3 m3 r3, .slice B4 m4 r4] rfl rfl (by rw [HZ.out]; rfl) H1.out HY.out HO4.out HBs.out HL.out ?_; intro v5 w5 hO5 hg5; have HE5 := Lib.hid (HE4.out.grown hg5 (fun q hq => HO4.out.base_le q hq)); have HO5 := Lib.hid hO5; clear hO5 hg5)
      go_roundw
      case rel => exact ⟨k + 1, by omega, by go_num, by rw [List.take_add_one, HX.out]; exact HO5.out, HE5.out⟩
      case measure => simp [intOf]; omega
    · go_wp2
      go_ret
      exact ⟨hE, _, rfl, by rw [List.take_of_length_le (by omega)] at hO; exact hO⟩
end Go.Proofs.Ytfnelkcllaaebaa
end
section
/- Rows of the call's own whose elements take several cells: how they read; append under a weaker premise. No condition. -/
open Go.RowKit
set_option linter.unusedVariables false
set_option linter.unusedSimpArgs false
namespace Go.Proofs.Ytfnelkcllaaebaa
theorem flat_get {α : Type} (sz : Nat) : ∀ (css : List (List α)) (j i : Nat) (cs : List α) (u : α), (∀ c ∈ css, c.length = sz) → css[j]? = some cs → cs[i]? = some u → css.flatten[j * sz + i]? = some u := by
  intro css
  induction css with
  | nil => intro j i cs u h hj hi; simp at hj
  | cons c css ih =>
    intro j i cs u h hj hi
    have hc := h c (by simp)
    rw [List.flatten_cons]
    cases j with
    | zero =>
      simp at hj
      subst hj
      rw [Nat.zero_mul, Nat.zero_add, List.getElem?_append_left (List.getElem?_eq_some_iff.1 hi).1]
      exact hi
    | succ j =>
      rw [Nat.succ_mul, List.getElem?_append_right (by omega), hc, show j * sz + sz + i - sz = j * sz + i from by omega]
      exact ih j i cs u (fun c hc => h c (by simp [hc])) (by simpa using hj) hi
theorem OwnM.sl {α : Type} {R : World → List Value → α → Prop} {e : TypeId} {sz : Nat} {w : World} {base : Nat} {v : Value} {l : List α} (h : OwnM R e sz w base v l) : Sl R sz w v l := by
  obtain ⟨css, h, hl, hj⟩ := h
  have hc := fun g hg => World.ownsRow.cells h (g := g) hg
  rcases h.2 with ⟨rfl, h2⟩ | ⟨g, cap, cur, rfl, hb, hh, h1, h2, h3, h4⟩
  · obtain rfl : l = [] := List.eq_nil_of_length_eq_zero h2
    exact Sl.nil R sz w
  · refine ⟨_, cap, rfl, h1, by simpa [maxLen] using h2, fun _ => ⟨g, 0, rfl, fun j x hx => ?_⟩⟩
    have hlt : j < css.length := by rw [hl]; exact (List.getElem?_eq_some_iff.1 hx).1
    have hcs := List.getElem?_eq_getElem hlt
    refine ⟨css[j], (hj j _ x hcs hx).1, (hj j _ x hcs hx).2, fun i u hi => ?_⟩
    have hall : ∀ c ∈ css, c.length = sz := by
      intro c hc
      obtain ⟨j', hj', rfl⟩ := List.mem_iff_getElem.1 hc
      have hx' : l[j']? = some l[j'] := List.getElem?_eq_getElem (by omega)
      exact (hj j' _ _ (List.getElem?_eq_getElem hj') hx').1
    have := hc g rfl (j * sz + i) u (flat_get sz css j i _ u hall hcs hi)
    have ha : (⟨g, 0, none⟩ : Addr).add (j * sz + i) = ⟨g, 0 + (j * sz + i), none⟩ := by unfold Addr.add; split <;> simp_all
    rwa [ha] at this
theorem Sl.imp {α : Type} {R R' : World → List Value → α → Prop} {sz : Nat} {w : World} {v : Value} {l : List α} (h : Sl R sz w v l) (hR : ∀ cs x, R w cs x → R' w cs x) : Sl R' sz w v l := by
  obtain ⟨A, c, h1, h2, h3, h4⟩ := h
  refine ⟨A, c, h1, h2, h3, fun hl => ?_⟩
  obtain ⟨b, o, e, hc⟩ := h4 hl
  refine ⟨b, o, e, fun j x hx => ?_⟩
  obtain ⟨cs, k1, k2, k3⟩ := hc j x hx
  exact ⟨cs, k1, hR _ _ k2, k3⟩
/-- R outlives a turn of a row of type e from base on. -/
def KeepsB {α : Type} (base : Nat) (R : World → List Value → α → Prop) (e : TypeId) : Prop :=
  ∀ w w' row cs x, w.grownBy w' row → (∀ k, row = some k → base ≤ k ∧ ∃ cur, w.heap[k]? = some (.cells cur e (0, 0))) → R w cs x → R w' cs x
section
variable {P : Program} {ops : Array Oper} {rest : List Oper} {o : Oper} {a : Act} {Q : Exit → Act → World → Prop}
end
theorem recN_recR {w : World} {base : Nat} {cs : List Value} {r : Rec} (h : RecN w base cs r) : RecR w cs r := by
  obtain ⟨vn, v0, v1, v2, v3, v4, rfl, hn, hd⟩ := h
  obtain ⟨x0, x1, x2, x3, x4, e, hd⟩ := hd.dr
  simp only [List.cons.injEq, and_true] at e
  obtain ⟨rfl, rfl, rfl, rfl, rfl⟩ := e
  exact ⟨vn, v0, v1, v2, v3, v4, rfl, hn.1, hd⟩
theorem recs_of_own {w : World} {base b : Nat} {v : Value} {l : List Rec} (h : OwnM (fun W cs r => RecN W base cs r) 49 9 w b v l) : RecsV w v l := h.sl.imp fun _ _ => recN_recR
end Go.Proofs.Ytfnelkcllaaebaa
end
section
/- Contract of rr.Set. No condition but that slices read as lists, the strings' sizes, and room. -/
open Go.RowKit
set_option linter.unusedVariables false
set_option linter.unusedSimpArgs false
namespace Go.Proofs.Ytfnelkcllaaebaa
end Go.Proofs.Ytfnelkcllaaebaa
end
section
/- Contract of ref03.Set. No condition but that slices read as lists, the strings' sizes, and room. -/
open Go.RowKit
set_option linter.unusedVariables false
set_option linter.unusedSimpArgs false
namespace Go.Proofs.Ytfnelkcllaaebaa
end Go.Proofs.Ytfnelkcllaaebaa
end
