/- Parts of one proof, joined: DSame, OwnD, Light, Ans. Conditions: those that each theorem states. -/
import Derived.Test.YtfnelkcllaaebaaEB6
import Derived.Test.YtfnelkcllaaebaaEB7
import Derived.Test.YtfnelkcllaaebaaEB3
import Derived.Test.YtfnelkcllaaebaaEB4
section
/- Contracts: the same data? No condition but that slices read as lists, and the size of each label. -/
open Go.RowKit
set_option linter.unusedVariables false
set_option linter.unusedSimpArgs false
namespace Go.Proofs.Ytfnelkcllaaebaa
/-- The five fields read as d's. -/
structure DR (w : World) (v0 v1 v2 v3 v4 : Value) (d : Dat) : Prop where
  by_ : BytesV w v0 d.bytes
  ho : NameV w v1 d.host
  ma : NameV w v2 d.mail
  nu : IntsV w v3 d.nums
  tx : NameV w v4 d.texts
theorem DR.ext {w w' : World} {v0 v1 v2 v3 v4 : Value} {d : Dat} (h : DR w v0 v1 v2 v3 v4 d) (hE : Ext w w') : DR w' v0 v1 v2 v3 v4 d := ⟨h.by_.ext hE, h.ho.ext hE, h.ma.ext hE, h.nu.ext hE, h.tx.ext hE⟩
/-- The labels' sizes fit. -/
def DFit (d : Dat) : Prop := Fits d.host ∧ Fits d.mail
/-- The two boxes of the arguments. -/
structure Two (w W : World) (a0 a1 a2 a3 a4 b0 b1 b2 b3 b4 : Value) : Prop where
  ext : Ext w W
  ha : W.heap[w.heap.size]? = some (.cells #[a0, a1, a2, a3, a4] 26 (0, 0))
  hb : W.heap[w.heap.size + 1]? = some (.cells #[b0, b1, b2, b3, b4] 26 (0, 0))
theorem two_start (w : World) (a0 a1 a2 a3 a4 b0 b1 b2 b3 b4 : Value) : Two w ((w.alloc (.cells #[a0, a1, a2, a3, a4] 26)).alloc (.cells #[b0, b1, b2, b3, b4] 26)) a0 a1 a2 a3 a4 b0 b1 b2 b3 b4 := by
  refine ⟨((Ext.refl _).alloc _).alloc _, ?_, ?_⟩
  · exact ((Ext.refl _).alloc _).block (heap_alloc_new w _)
  · have := heap_alloc_new (w.alloc (.cells #[a0, a1, a2, a3, a4] 26)) (.cells #[b0, b1, b2, b3, b4] 26)
    simpa using this
theorem Two.step {w W W' : World} {a0 a1 a2 a3 a4 b0 b1 b2 b3 b4 : Value} (h : Two w W a0 a1 a2 a3 a4 b0 b1 b2 b3 b4) (hE : Ext W W') : Two w W' a0 a1 a2 a3 a4 b0 b1 b2 b3 b4 := ⟨h.ext.trans hE, hE.block h.ha, hE.block h.hb⟩
theorem Two.ca {w W : World} {a0 a1 a2 a3 a4 b0 b1 b2 b3 b4 : Value} (h : Two w W a0 a1 a2 a3 a4 b0 b1 b2 b3 b4) : W.cell? ⟨w.heap.size, 0, none⟩ = some a0 ∧ W.cell? ⟨w.heap.size, 1, none⟩ = some a1 ∧ W.cell? ⟨w.heap.size, 2, none⟩ = some a2 ∧ W.cell? ⟨w.heap.size, 3, none⟩ = some a3 ∧ W.cell? ⟨w.heap.size, 4, none⟩ = some a4 := by
  have := h.ha
  refine ⟨?_, ?_, ?_, ?_, ?_⟩ <;> simp [World.cell?, *]
theorem Two.cb {w W : World} {a0 a1 a2 a3 a4 b0 b1 b2 b3 b4 : Value} (h : Two w W a0 a1 a2 a3 a4 b0 b1 b2 b3 b4) : W.cell? ⟨w.heap.size + 1, 0, none⟩ = some b0 ∧ W.cell? ⟨w.heap.size + 1, 1, none⟩ = some b1 ∧ W.cell? ⟨w.heap.size + 1, 2, none⟩ = some b2 ∧ W.cell? ⟨w.heap.size + 1, 3, none⟩ = some b3 ∧ W.cell? ⟨w.heap.size + 1, 4, none⟩ = some b4 := by
  have := h.hb
  refine ⟨?_, ?_, ?_, ?_, ?_⟩ <;> simp [World.cell?, *]
end Go.Proofs.Ytfnelkcllaaebaa
end
section
/- Contract of ref03.OwnData. No condition but that slices read as lists, and room. -/
open Go.RowKit
set_option linter.unusedVariables false
set_option linter.unusedSimpArgs false
namespace Go.Proofs.Ytfnelkcllaaebaa
theorem NewS.mono {α : Type} {V : α → Value} {e : TypeId} {w : World} {base base' : Nat} {v : Value} {l : List α} (h : NewS V e w base v l) (hb : base' ≤ base) : NewS V e w base' v l := ⟨h.1, fun hl => (h.2 hl).mono hb⟩
theorem NewS.slice {α : Type} {V : α → Value} {e : TypeId} {w : World} {base : Nat} {v : Value} {l : List α} (h : NewS V e w base v l) : ∃ A n c, v = .slice A n c := by
  obtain ⟨A, c, h1, _⟩ := h.1.form; exact ⟨A, _, c, h1⟩
theorem NewS.set_other {α : Type} {V : α → Value} {e : TypeId} {w : World} {base : Nat} {v : Value} {l : List α} (h : NewS V e w base v l) {g : Nat} (hg : g < base) (o : Nat) (u : Value) : NewS V e (w.setCell ⟨g, o, none⟩ u) base v l := by
  by_cases hl : l = []
  · subst hl
    obtain ⟨A, c, rfl, h1, h2, _⟩ := h.1
    exact ⟨⟨A, c, rfl, h1, h2, by simp⟩, fun h => absurd rfl h⟩
  · have := (h.2 hl).set_other hg o u
    exact ⟨this.fl, fun _ => this⟩
/-- The five fields' sizes leave room. -/
def DRoom (d : Dat) : Prop := d.bytes.length * 1 ≤ 140737488355328 ∧ d.host.length * 16 ≤ 140737488355328 ∧ d.mail.length * 16 ≤ 140737488355328 ∧ d.nums.length * 8 ≤ 140737488355328 ∧ d.texts.length * 16 ≤ 140737488355328
/-- Two slices lie in different rows. -/
def Sep {α β : Type} (v v' : Value) (l : List α) (l' : List β) : Prop := l ≠ [] → l' ≠ [] → v.ownBlock ≠ v'.ownBlock
theorem sep_new {α β : Type} {V : α → Value} {V' : β → Value} {e e' : TypeId} {w w1 : World} {base : Nat} {v v' : Value} {l : List α} {l' : List β} (h : NewS V e w base v l) (h' : NewS V' e' w1 w.heap.size v' l') : Sep v v' l l' := by
  intro hl hl' he
  obtain h1 := h.2 hl
  obtain h2 := h'.2 hl'
  rcases h1.2 with ⟨rfl, hn⟩ | ⟨g, cap, cur, rfl, _⟩
  · exact hl (List.eq_nil_of_length_eq_zero hn)
  · have h3 := (World.ownsRow.lt h1 g rfl).2
    have h4 := h2.base_le g he.symm
    omega
/-- A Data value that reads as d, its rows the call's own; the host's row is no other's. -/
def OwnV (w : World) (base : Nat) (v : Value) (d : Dat) : Prop := ∃ v0 v1 v2 v3 v4, v = .agg #[v0, v1, v2, v3, v4] ∧
  NewS vByte 5 w base v0 d.bytes ∧ NewS Value.string 9 w base v1 d.host ∧ NewS Value.string 9 w base v2 d.mail ∧ NewS vInt 3 w base v3 d.nums ∧ NewS Value.string 9 w base v4 d.texts ∧ Sep v1 v2 d.host d.mail ∧ Sep v1 v4 d.host d.texts
theorem OwnV.ext {w w' : World} {base : Nat} {v : Value} {d : Dat} (h : OwnV w base v d) (he : Ext w w') : OwnV w' base v d := by
  obtain ⟨v0, v1, v2, v3, v4, h, h0, h1, h2, h3, h4, s⟩ := h
  exact ⟨v0, v1, v2, v3, v4, h, h0.ext he, h1.ext he, h2.ext he, h3.ext he, h4.ext he, s⟩
def OwnGives (d : Dat) (w : World) (e : Ending) (w' : World) : Prop := Ext w w' ∧ ∃ v, e = .returned v ∧ OwnV w' w.heap.size v d
def ownPre (i : Nat) : List Nat := match i with | 11 => [7] | 15 => [11, 7] | 19 => [15, 11, 7] | 20 => [7, 11, 15, 19] | _ => []
def isE (v : Value) : Prop := ∃ A, v = .slice A 0 0
def ownPs (w : World) (d : Dat) (v0 v1 v2 v3 v4 : Value) (i : Nat) (vs : Nat → Value) (W : World) : Prop :=
  match i with
  | 0 => isE (vs 0) | 4 => isE (vs 4) | 8 => isE (vs 8) | 12 => isE (vs 12) | 16 => isE (vs 16)
  | 1 => vs 1 = .pointer (some ⟨w.heap.size, 0, none⟩) | 2 => vs 2 = v0
  | 5 => vs 5 = .pointer (some ⟨w.heap.size, 1, none⟩) | 6 => vs 6 = v1
  | 9 => vs 9 = .pointer (some ⟨w.heap.size, 2, none⟩) | 10 => vs 10 = v2
  | 13 => vs 13 = .pointer (some ⟨w.heap.size, 3, none⟩) | 14 => vs 14 = v3
  | 17 => vs 17 = .pointer (some ⟨w.heap.size, 4, none⟩) | 18 => vs 18 = v4
  | 3 => NewS vByte 5 W (w.heap.size + 2) (vs 3) d.bytes
  | 7 => NewS Value.string 9 W (w.heap.size + 2) (vs 7) d.host
  | 11 => NewS Value.string 9 W (w.heap.size + 2) (vs 11) d.mail ∧ Sep (vs 7) (vs 11) d.host d.mail
  | 15 => NewS vInt 3 W (w.heap.size + 2) (vs 15) d.nums
  | 19 => NewS Value.string 9 W (w.heap.size + 2) (vs 19) d.texts ∧ Sep (vs 7) (vs 19) d.host d.texts
  | 20 => OwnV W (w.heap.size + 2) (vs 20) d
  | _ => True
theorem ownPs_mono (w : World) (d : Dat) (v0 v1 v2 v3 v4 : Value) (i : Nat) (vs : Nat → Value) (W W' : World) (h : ownPs w d v0 v1 v2 v3 v4 i vs W) (hE : Ext W W') : ownPs w d v0 v1 v2 v3 v4 i vs W' := by
  unfold ownPs at *
  split at h <;> first | exact h | exact NewS.ext h hE | exact ⟨NewS.ext h.1 hE, h.2⟩ | exact OwnV.ext h hE
theorem ownPs_same (w : World) (d : Dat) (v0 v1 v2 v3 v4 : Value) (i : Nat) (vs vs' : Nat → Value) (W : World) (hs : ∀ j, j = i ∨ j ∈ ownPre i → vs j = vs' j) (h : ownPs w d v0 v1 v2 v3 v4 i vs W) : ownPs w d v0 v1 v2 v3 v4 i vs' W := by
  unfold ownPs at *
  have h0 := hs i (.inl rfl)
  split at h
  all_goals first
    | (rw [← h0]; exact h)
    | (have h7 := hs 7 (.inr (by decide)); rw [← h0, ← h7]; exact h)
    | trivial
theorem own_ends {d : Dat} {w W : World} {v0 v1 v2 v3 v4 x0 x1 x2 x3 x4 : Value} (hT : Two w W v0 v1 v2 v3 v4 nilS nilS nilS nilS nilS)
    (h0 : NewS vByte 5 W (w.heap.size + 2) x0 d.bytes) (h1 : NewS Value.string 9 W (w.heap.size + 2) x1 d.host) (h2 : NewS Value.string 9 W (w.heap.size + 2) x2 d.mail) (h3 : NewS vInt 3 W (w.heap.size + 2) x3 d.nums) (h4 : NewS Value.string 9 W (w.heap.size + 2) x4 d.texts) (s1 : Sep x1 x2 d.host d.mail) (s2 : Sep x1 x4 d.host d.texts)
    {a : Act} (ht : a.tmps.getD 2 undef = .pointer (some ⟨w.heap.size + 1, 0, none⟩)) (hd : a.defers = []) :
    bodyPost Try.prog Try.f27 (OwnGives d w) .ret a (((((W.setCell ⟨w.heap.size + 1, 0, none⟩ x0).setCell ⟨w.heap.size + 1, 1, none⟩ x1).setCell ⟨w.heap.size + 1, 2, none⟩ x2).setCell ⟨w.heap.size + 1, 3, none⟩ x3).setCell ⟨w.heap.size + 1, 4, none⟩ x4) := by
  have ht' : a.tmps[2]?.getD undef = .pointer (some ⟨w.heap.size + 1, 0, none⟩) := by rw [← ht]; simp
  have hcell : (((((W.setCell ⟨w.heap.size + 1, 0, none⟩ x0).setCell ⟨w.heap.size + 1, 1, none⟩ x1).setCell ⟨w.heap.size + 1, 2, none⟩ x2).setCell ⟨w.heap.size + 1, 3, none⟩ x3).setCell ⟨w.heap.size + 1, 4, none⟩ x4).heap[w.heap.size + 1]? = some (.cells #[x0, x1, x2, x3, x4] 26 (0, 0)) := by
    simp [World.setCell, Array.getElem?_modify, hT.hb]
  refine bodyPost_ret (v := .agg #[x0, x1, x2, x3, x4]) ?_ hd ⟨?_, _, rfl, x0, x1, x2, x3, x4, rfl, ?_, ?_, ?_, ?_, ?_, s1, s2⟩
  · generalize ((((W.setCell ⟨w.heap.size + 1, 0, none⟩ x0).setCell ⟨w.heap.size + 1, 1, none⟩ x1).setCell ⟨w.heap.size + 1, 2, none⟩ x2).setCell ⟨w.heap.size + 1, 3, none⟩ x3).setCell ⟨w.heap.size + 1, 4, none⟩ x4 = W5 at *
    have c0 : W5.cell? ⟨w.heap.size + 1, 0, none⟩ = some x0 := by simp [World.cell?, hcell]
    have c1 : W5.cell? ⟨w.heap.size + 1, 1, none⟩ = some x1 := by simp [World.cell?, hcell]
    have c2 : W5.cell? ⟨w.heap.size + 1, 2, none⟩ = some x2 := by simp [World.cell?, hcell]
    have c3 : W5.cell? ⟨w.heap.size + 1, 3, none⟩ = some x3 := by simp [World.cell?, hcell]
    have c4 : W5.cell? ⟨w.heap.size + 1, 4, none⟩ = some x4 := by simp [World.cell?, hcell]
    simp [results, Try.results27, go_sem, ht', c0, c1, c2, c3, c4]
  · refine ((((hT.ext.setCell ?_ _).setCell ?_ _).setCell ?_ _).setCell ?_ _).setCell ?_ _ <;> exact Nat.le_succ _
  all_goals
    refine NewS.mono (base := w.heap.size + 2) ?_ (by omega)
  · exact ((((h0.set_other (by omega) _ _).set_other (by omega) _ _).set_other (by omega) _ _).set_other (by omega) _ _).set_other (by omega) _ _
  · exact ((((h1.set_other (by omega) _ _).set_other (by omega) _ _).set_other (by omega) _ _).set_other (by omega) _ _).set_other (by omega) _ _
  · exact ((((h2.set_other (by omega) _ _).set_other (by omega) _ _).set_other (by omega) _ _).set_other (by omega) _ _).set_other (by omega) _ _
  · exact ((((h3.set_other (by omega) _ _).set_other (by omega) _ _).set_other (by omega) _ _).set_other (by omega) _ _).set_other (by omega) _ _
  · exact ((((h4.set_other (by omega) _ _).set_other (by omega) _ _).set_other (by omega) _ _).set_other (by omega) _ _).set_other (by omega) _ _
set_option maxRecDepth 100000 in
set_option maxHeartbeats 1000000 in
theorem ref_OwnData (d : Dat) (v0 v1 v2 v3 v4 : Value) (w : World) (hd : DR w v0 v1 v2 v3 v4 d) (hr : DRoom d) :
    Calls Try.prog 27 #[.agg #[v0, v1, v2, v3, v4]] w (OwnGives d w) := by
  have HD := Lib.hid hd
  have HR := Lib.hid hr
  have HT := Lib.hid (two_start w v0 v1 v2 v3 v4 nilS nilS nilS nilS nilS)
  clear hd hr
  go_enter Try.func27, Try.ntmps27
  go_wp2
  generalize hW : (w.alloc (.cells #[v0, v1, v2, v3, v4] 26)).alloc (.cells #[nilS, nilS, nilS, nilS, nilS] 26) = W0 at *
  clear hW
  refine wp_region_posts2 ownPre (E := Ext) Ext.refl (fun _ _ _ => Ext.trans) 21 (ownPs w d v0 v1 v2 v3 v4) (fun _ _ => False) (by kernel_rfl) (ownPs_mono w d v0 v1 v2 v3 v4) (ownPs_same w d v0 v1 v2 v3 v4) (by kernel_rfl) (by kernel_rfl) (fun _ _ _ _ h => h.elim) ?_ ?_
  · simp only [List.take, Obls2, fullA, Act.put, List.setIfInBounds_toArray, List.set_cons_zero, List.set_cons_succ, Nat.zero_add, Nat.reduceAdd]
    refine ⟨?_, ?_, ?_, ?_, ?_, ?_, ?_, ?_, ?_, ?_, ?_, ?_, ?_, ?_, ?_, ?_, ?_, ?_, ?_, ?_, ?_, trivial⟩
    all_goals intro vs W hE hd
    all_goals have hT := HT.out.step (Ext.trans (Ext.drew (Ext.refl W0)) hE)
    all_goals have HT2 := Lib.hid hT
    all_goals have hsz : w.heap.size + 2 ≤ W.heap.size := by have := (Array.getElem?_eq_some_iff.1 hT.hb).1; omega
    all_goals clear hT
    · clear hd
      go_wp2
      exact ⟨rfl, (Ext.refl _).alloc _, _, rfl⟩
    · clear hd
      go_wp2
      exact ⟨rfl, Ext.refl _, rfl⟩
    · have e1 : vs 1 = .pointer (some ⟨w.heap.size, 0, none⟩) := hd 1 (.inl (by decide))
      clear hd
      rw [e1]
      have c0 := HT2.out.ca.1
      go_wp2
      exact ⟨rfl, Ext.refl _, rfl⟩
    · obtain ⟨A, e1⟩ : isE (vs 0) := hd 0 (.inl (by decide))
      have e2 : vs 2 = v0 := hd 2 (.inl (by decide))
      clear hd
      rw [e1, e2]
      have HY := Lib.hid ((HD.out.ext HT2.out.ext).by_)
      go_wp2_with (at_builtin; refine wpList_app0 vByte rfl (.tmp 3) (.tmp 5) 22 5 (.int .u8 0) 1 rfl Try.underlying22 (by kernel_rfl) rfl (by decide) A d.bytes v0 rfl rfl (fun _ => rfl) HY.out HR.out.1 ?_; intro v9 w9 hN hE9)
      exact ⟨rfl, hE9, hN.mono hsz⟩
    · clear hd
      go_wp2
      exact ⟨rfl, (Ext.refl _).alloc _, _, rfl⟩
    · clear hd
      go_wp2
      exact ⟨rfl, Ext.refl _, rfl⟩
    · have e1 : vs 5 = .pointer (some ⟨w.heap.size, 1, none⟩) := hd 5 (.inl (by decide))
      clear hd
      rw [e1]
      have c0 := HT2.out.ca.2.1
      go_wp2
      exact ⟨rfl, Ext.refl _, rfl⟩
    · obtain ⟨A, e1⟩ : isE (vs 4) := hd 4 (.inl (by decide))
      have e2 : vs 6 = v1 := hd 6 (.inl (by decide))
      clear hd
      rw [e1, e2]
      have HY := Lib.hid ((HD.out.ext HT2.out.ext).ho)
      go_wp2_with (at_builtin; refine wpList_app0 Value.string rfl (.tmp 7) (.tmp 9) 23 9 (.string ⟨#[]⟩) 16 rfl Try.underlying23 (by kernel_rfl) rfl (by decide) A d.host v1 rfl rfl (fun _ => rfl) HY.out HR.out.2.1 ?_; intro v9 w9 hN hE9)
      exact ⟨rfl, hE9, hN.mono hsz⟩
    · clear hd
      go_wp2
      exact ⟨rfl, (Ext.refl _).alloc _, _, rfl⟩
    · clear hd
      go_wp2
      exact ⟨rfl, Ext.refl _, rfl⟩
    · have e1 : vs 9 = .pointer (some ⟨w.heap.size, 2, none⟩) := hd 9 (.inl (by decide))
      clear hd
      rw [e1]
      have c0 := HT2.out.ca.2.2.1
      go_wp2
      exact ⟨rfl, Ext.refl _, rfl⟩
    · obtain ⟨A, e1⟩ : isE (vs 8) := hd 8 (.inl (by decide))
      have e2 : vs 10 = v2 := hd 10 (.inl (by decide))
      have h7 : NewS Value.string 9 W (w.heap.size + 2) (vs 7) d.host := hd 7 (.inr (by decide))
      have H7 := Lib.hid h7
      clear h7
      clear hd
      rw [e1, e2]
      have HY := Lib.hid ((HD.out.ext HT2.out.ext).ma)
      go_wp2_with (at_builtin; refine wpList_app0 Value.string rfl (.tmp 11) (.tmp 13) 23 9 (.string ⟨#[]⟩) 16 rfl Try.underlying23 (by kernel_rfl) rfl (by decide) A d.mail v2 rfl rfl (fun _ => rfl) HY.out HR.out.2.2.1 ?_; intro v9 w9 hN hE9)
      exact ⟨rfl, hE9, hN.mono hsz, sep_new H7.out hN⟩
    · clear hd
      go_wp2
      exact ⟨rfl, (Ext.refl _).alloc _, _, rfl⟩
    · clear hd
      go_wp2
      exact ⟨rfl, Ext.refl _, rfl⟩
    · have e1 : vs 13 = .pointer (some ⟨w.heap.size, 3, none⟩) := hd 13 (.inl (by decide))
      clear hd
      rw [e1]
      have c0 := HT2.out.ca.2.2.2.1
      go_wp2
      exact ⟨rfl, Ext.refl _, rfl⟩
    · obtain ⟨A, e1⟩ : isE (vs 12) := hd 12 (.inl (by decide))
      have e2 : vs 14 = v3 := hd 14 (.inl (by decide))
      clear hd
      rw [e1, e2]
      have HY := Lib.hid ((HD.out.ext HT2.out.ext).nu)
      go_wp2_with (at_builtin; refine wpList_app0 vInt rfl (.tmp 15) (.tmp 17) 24 3 (.int .i64 0) 8 rfl Try.underlying24 (by kernel_rfl) rfl (by decide) A d.nums v3 rfl rfl (fun _ => rfl) HY.out HR.out.2.2.2.1 ?_; intro v9 w9 hN hE9)
      exact ⟨rfl, hE9, hN.mono hsz⟩
    · clear hd
      go_wp2
      exact ⟨rfl, (Ext.refl _).alloc _, _, rfl⟩
    · clear hd
      go_wp2
      exact ⟨rfl, Ext.refl _, rfl⟩
    · have e1 : vs 17 = .pointer (some ⟨w.heap.size, 4, none⟩) := hd 17 (.inl (by decide))
      clear hd
      rw [e1]
      have c0 := HT2.out.ca.2.2.2.2
      go_wp2
      exact ⟨rfl, Ext.refl _, rfl⟩
    · obtain ⟨A, e1⟩ : isE (vs 16) := hd 16 (.inl (by decide))
      have e2 : vs 18 = v4 := hd 18 (.inl (by decide))
      have h7 : NewS Value.string 9 W (w.heap.size + 2) (vs 7) d.host := hd 7 (.inr (by decide))
      have H7 := Lib.hid h7
      clear h7
      clear hd
      rw [e1, e2]
      have HY := Lib.hid ((HD.out.ext HT2.out.ext).tx)
      go_wp2_with (at_builtin; refine wpList_app0 Value.string rfl (.tmp 19) (.tmp 21) 23 9 (.string ⟨#[]⟩) 16 rfl Try.underlying23 (by kernel_rfl) rfl (by decide) A d.texts v4 rfl rfl (fun _ => rfl) HY.out HR.out.2.2.2.2 ?_; intro v9 w9 hN hE9)
      exact ⟨rfl, hE9, hN.mono hsz, sep_new H7.out hN⟩
    · have h0 : NewS vByte 5 W (w.heap.size + 2) (vs 3) d.bytes := hd 3 (.inl (by decide))
      have h1 : NewS Value.string 9 W (w.heap.size + 2) (vs 7) d.host := hd 7 (.inl (by decide))
      have h2 : NewS Value.string 9 W (w.heap.size + 2) (vs 11) d.mail := (hd 11 (.inl (by decide))).1
      have h3 : NewS vInt 3 W (w.heap.size + 2) (vs 15) d.nums := hd 15 (.inl (by decide))
      have h4 : NewS Value.string 9 W (w.heap.size + 2) (vs 19) d.texts := (hd 19 (.inl (by decide))).1
      have s1 : Sep (vs 7) (vs 11) d.host d.mail := (hd 11 (.inl (by decide))).2
      have s2 : Sep (vs 7) (vs 19) d.host d.texts := (hd 19 (.inl (by decide))).2
      clear hd
      obtain ⟨A0, n0, c0, e0⟩ := h0.slice
      rw [e0] at h0
      obtain ⟨A1, n1, c1, e1⟩ := h1.slice
      rw [e1] at h1
      obtain ⟨A2, n2, c2, e2⟩ := h2.slice
      rw [e2] at h2
      obtain ⟨A3, n3, c3, e3⟩ := h3.slice
      rw [e3] at h3
      obtain ⟨A4, n4, c4, e4⟩ := h4.slice
      rw [e4] at h4
      rw [e1, e2] at s1
      rw [e1, e4] at s2
      rw [e0, e1, e2, e3, e4]
      have HO : Hid (OwnV W (w.heap.size + 2) (.agg #[.slice A0 n0 c0, .slice A1 n1 c1, .slice A2 n2 c2, .slice A3 n3 c3, .slice A4 n4 c4]) d) := Lib.hid ⟨_, _, _, _, _, rfl, h0, h1, h2, h3, h4, s1, s2⟩
      clear h0 h1 h2 h3 h4 s1 s2
      go_wp2
      exact ⟨rfl, Ext.refl _, HO.out⟩
  · intro vs W hE hP
    have hT := HT.out.step (Ext.trans (Ext.drew (Ext.refl W0)) hE)
    have h20 : OwnV W (w.heap.size + 2) (vs 20) d := hP 20 (by decide)
    clear hP
    simp only [List.drop, List.take, fullA, Act.put, List.setIfInBounds_toArray, List.set_cons_zero, List.set_cons_succ, Nat.zero_add, Nat.reduceAdd]
    obtain ⟨x0, x1, x2, x3, x4, e20, h0, h1, h2, h3, h4, s1, s2⟩ := h20
    have S1 := Lib.hid s1
    have S2 := Lib.hid s2
    clear s1 s2
    rw [e20]
    obtain ⟨A0, n0, c0, rfl⟩ := h0.slice
    have H0 := Lib.hid h0
    obtain ⟨A1, n1, c1, rfl⟩ := h1.slice
    have H1 := Lib.hid h1
    obtain ⟨A2, n2, c2, rfl⟩ := h2.slice
    have H2 := Lib.hid h2
    obtain ⟨A3, n3, c3, rfl⟩ := h3.slice
    have H3 := Lib.hid h3
    obtain ⟨A4, n4, c4, rfl⟩ := h4.slice
    have H4 := Lib.hid h4
    clear h0 h1 h2 h3 h4
    have HT2 := Lib.hid hT
    obtain ⟨d0, d1, d2, d3, d4⟩ := hT.cb
    have hf : ∀ i, W.frozen? ⟨w.heap.size + 1, i, none⟩ = false := by intro i; have := hT.hb; simp [World.frozen?, this]
    clear hT
    go_wp2
    exact own_ends HT2.out H0.out H1.out H2.out H3.out H4.out S1.out S2.out (by rfl) (by rfl)
end Go.Proofs.Ytfnelkcllaaebaa
end
section
/- Contract of law04.light. No condition but that slices read as lists. -/
open Go.RowKit
set_option linter.unusedVariables false
set_option linter.unusedSimpArgs false
namespace Go.Proofs.Ytfnelkcllaaebaa
/-- The argument's box. -/
structure One (w W : World) (a0 a1 a2 a3 a4 : Value) : Prop where
  ext : Ext w W
  ha : W.heap[w.heap.size]? = some (.cells #[a0, a1, a2, a3, a4] 26 (0, 0))
theorem one_start (w : World) (a0 a1 a2 a3 a4 : Value) : One w (w.alloc (.cells #[a0, a1, a2, a3, a4] 26)) a0 a1 a2 a3 a4 := ⟨(Ext.refl _).alloc _, heap_alloc_new w _⟩
theorem One.ca {w W : World} {a0 a1 a2 a3 a4 : Value} (h : One w W a0 a1 a2 a3 a4) : W.cell? ⟨w.heap.size, 0, none⟩ = some a0 ∧ W.cell? ⟨w.heap.size, 1, none⟩ = some a1 ∧ W.cell? ⟨w.heap.size, 2, none⟩ = some a2 ∧ W.cell? ⟨w.heap.size, 3, none⟩ = some a3 ∧ W.cell? ⟨w.heap.size, 4, none⟩ = some a4 := by
  have := h.ha
  refine ⟨?_, ?_, ?_, ?_, ?_⟩ <;> simp [World.cell?, *]
end Go.Proofs.Ytfnelkcllaaebaa
end
section
/- Contract of law04.answers. No condition. -/
open Go.RowKit
set_option linter.unusedVariables false
set_option linter.unusedSimpArgs false
namespace Go.Proofs.Ytfnelkcllaaebaa
end Go.Proofs.Ytfnelkcllaaebaa
end
