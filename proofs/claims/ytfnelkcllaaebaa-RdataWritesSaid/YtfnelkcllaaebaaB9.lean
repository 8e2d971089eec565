/- Parts of one proof, joined: LInv, LSame. Conditions: those that each theorem states. -/
import Derived.Test.YtfnelkcllaaebaaB8
section
/- What holds while law04.RdataSame's loop makes the own host's letters great. No condition. -/
open Go.RowKit
set_option linter.unusedVariables false
set_option linter.unusedSimpArgs false
namespace Go.Proofs.Ytfnelkcllaaebaa
/-- A great letter for a small one. -/
def upB (b : UInt8) : UInt8 := if 97 ≤ b.toNat ∧ b.toNat ≤ 122 then b - 32 else b
def up (s : ByteArray) : ByteArray := ofB ((bs s).map upB)
theorem upB_yes (x : UInt8) (h1 : 97 ≤ (x.toNat : Int)) (h2 : (x.toNat : Int) ≤ 122) : ((upB x).toNat : Int) = (x.toNat : Int) - 32 := by
  have : (x - 32).toNat = x.toNat - 32 := by rw [UInt8.toNat_sub_of_le _ _ (by rw [UInt8.le_iff_toNat_le]; simp; omega)]; simp
  unfold upB; rw [if_pos (by omega), this]; omega
theorem upB_no (x : UInt8) (h : ¬ (97 ≤ (x.toNat : Int) ∧ (x.toNat : Int) ≤ 122)) : upB x = x := by
  unfold upB; rw [if_neg (by omega)]
theorem low_up (x : UInt8) : lowB (upB x) = lowB x := by
  by_cases h : 97 ≤ x.toNat ∧ x.toNat ≤ 122
  · have h1 := upB_yes x (by omega) (by omega)
    have h3 : lowB x = x := lowB_no x (by omega)
    rw [h3]
    apply UInt8.toNat_inj.1
    have h2 := lowB_yes (upB x) (by omega) (by omega)
    omega
  · rw [upB_no x (by omega)]
theorem small_up (s : ByteArray) : small (up s) = small s := by
  unfold small up
  rw [bs_ofB, List.map_map]
  congr 1
  apply List.map_congr_left
  intro x _
  exact low_up x
/-- The first k mapped. -/
def mixF {α : Type} (f : α → α) (l : List α) (k : Nat) : List α := (l.take k).map f ++ l.drop k
theorem mixF_length {α : Type} (f : α → α) (l : List α) (k : Nat) : (mixF f l k).length = l.length := by
  simp [mixF]; omega
theorem mixF_at {α : Type} (f : α → α) (l : List α) (k : Nat) (x : α) (h : l[k]? = some x) : (mixF f l k)[k]? = some x := by
  obtain ⟨hlt, he⟩ := List.getElem?_eq_some_iff.1 h
  unfold mixF
  rw [List.getElem?_append_right (by simp; omega)]
  simp only [List.length_map, List.length_take, List.getElem?_drop]
  rw [show k + (k - min k l.length) = k from by omega, h]
theorem mixF_succ {α : Type} (f : α → α) (l : List α) (k : Nat) (x : α) (h : l[k]? = some x) : mixF f l (k + 1) = (mixF f l k).set k (f x) := by
  obtain ⟨hlt, he⟩ := List.getElem?_eq_some_iff.1 h
  unfold mixF
  have hl : ((l.take k).map f).length = k := by simp; omega
  have e := List.set_append_right (s := (l.take k).map f) (t := l.drop k) k (f x) (by omega)
  rw [e, hl, List.take_add_one, h, Nat.sub_self, List.drop_eq_getElem_cons hlt, he]
  simp
theorem mixF_all {α : Type} (f : α → α) (l : List α) (k : Nat) (h : l.length ≤ k) : mixF f l k = l.map f := by
  unfold mixF; rw [List.take_of_length_le h, List.drop_of_length_le h, List.append_nil]
theorem mixF_zero {α : Type} (f : α → α) (l : List α) : mixF f l 0 = l := by simp [mixF]
theorem mixF_same {α : Type} (f : α → α) (l : List α) (k : Nat) (x : α) (h : l[k]? = some x) (hx : f x = x) : mixF f l (k + 1) = mixF f l k := by
  rw [mixF_succ f l k x h, hx]
  apply List.ext_getElem?
  intro i
  rw [List.getElem?_set]
  split
  · rename_i e
    subst e
    have h2 := mixF_at f l k x h
    split
    · exact h2.symm
    · rename_i hn
      have := (List.getElem?_eq_some_iff.1 h2).1
      exact absurd this hn
  · rfl
theorem up_mix (s : ByteArray) (k : Nat) (h : s.size ≤ k) : ofB (mixF upB s.data.toList k) = up s := by
  rw [mixF_all _ _ _ (by have := bs_length s; unfold bs at this; omega)]; rfl
theorem neq_up (l : List Str) : neq l (l.map up) = true := by
  unfold neq
  rw [decide_eq_true_eq, List.map_map]
  apply List.map_congr_left
  intro x _
  exact (small_up x).symm
theorem NewS.set_off {α : Type} {V : α → Value} {e : TypeId} {w : World} {base : Nat} {v : Value} {l : List α} (h : NewS V e w base v l) {g : Nat} (hg : l ≠ [] → v.ownBlock ≠ some g) (o : Nat) (u : Value) : NewS V e (w.setCell ⟨g, o, none⟩ u) base v l := by
  by_cases hl : l = []
  · subst hl
    obtain ⟨A, c, rfl, h1, h2, _⟩ := h.1
    exact ⟨⟨A, c, rfl, h1, h2, by simp⟩, fun h => absurd rfl h⟩
  · have : OwnL V e (w.setCell ⟨g, o, none⟩ u) base v l := World.ownsRow.kept (row := some g) (h.2 hl) ⟨rfl, rfl, rfl, by simp [World.setCell], fun k hk hn => Below.heap_setCell w ⟨g, o, none⟩ u k (fun e => hn (by rw [e]))⟩ (.inr (fun e => hg hl (by first | exact e | exact e.symm)))
    exact ⟨this.fl, fun _ => this⟩
theorem NewS.type {α : Type} {V : α → Value} {e : TypeId} {w : World} {base : Nat} {v : Value} {l : List α} (h : NewS V e w base v l) (hl : l ≠ []) {g : Nat} (hv : v.ownBlock = some g) : ∃ cur, w.heap[g]? = some (.cells cur e (0, 0)) := by
  rcases (h.2 hl).2 with ⟨rfl, hn⟩ | ⟨g', cap, cur, rfl, _, hh, _⟩
  · exact absurd (List.eq_nil_of_length_eq_zero hn) hl
  · simp [Value.ownBlock] at hv
    subst hv
    exact ⟨cur, hh⟩
theorem NewS.set_self {α : Type} {V : α → Value} {e : TypeId} {w : World} {base g n c : Nat} {l : List α} (h : NewS V e w base (.slice (some ⟨g, 0, none⟩) n c) l) (hl : l ≠ []) (k : Nat) (y : α) : NewS V e (w.setCell ⟨g, k, none⟩ (V y)) base (.slice (some ⟨g, 0, none⟩) n c) (l.set k y) := by
  have hn : n = l.length := by
    obtain ⟨A, c', e1, _⟩ := h.1.form
    injection e1
  subst hn
  have h2 := h.2 hl
  unfold OwnL at h2
  have h3 := (World.ownsRow.stored h2 k (V y)).1
  have : OwnL V e (w.setCell ⟨g, k, none⟩ (V y)) base (.slice (some ⟨g, 0, none⟩) l.length c) (l.set k y) := by
    unfold OwnL
    rw [List.map_set, List.length_set]
    exact h3
  exact ⟨this.fl, fun _ => this⟩
structure LInv (w : World) (g base : Nat) (a : Dat) (a0 a1 a2 a3 a4 b0 b1 b2 b3 b4 x0 x1 x2 x3 x4 : Value) (l : List Str) (W : World) : Prop where
  two : Two w W a0 a1 a2 a3 a4 b0 b1 b2 b3 b4
  bs : w.heap.size + 2 ≤ base
  gb : base ≤ g
  box : W.heap[g]? = some (.cells #[x0, x1, x2, x3, x4] 26 (0, 0))
  o0 : NewS vByte 5 W base x0 a.bytes
  o1 : NewS Value.string 9 W base x1 l
  o2 : NewS Value.string 9 W base x2 a.mail
  o3 : NewS vInt 3 W base x3 a.nums
  o4 : NewS Value.string 9 W base x4 a.texts
  s1 : Sep x1 x2 l a.mail
  s2 : Sep x1 x4 l a.texts
section
variable {w W W' : World} {g base : Nat} {a : Dat} {a0 a1 a2 a3 a4 b0 b1 b2 b3 b4 x0 x1 x2 x3 x4 : Value} {l : List Str}
theorem LInv.step (h : LInv w g base a a0 a1 a2 a3 a4 b0 b1 b2 b3 b4 x0 x1 x2 x3 x4 l W) (hE : Ext W W') : LInv w g base a a0 a1 a2 a3 a4 b0 b1 b2 b3 b4 x0 x1 x2 x3 x4 l W' :=
  ⟨h.two.step hE, h.bs, h.gb, hE.block h.box, h.o0.ext hE, h.o1.ext hE, h.o2.ext hE, h.o3.ext hE, h.o4.ext hE, h.s1, h.s2⟩
theorem LInv.store {gh n c : Nat} (h : LInv w g base a a0 a1 a2 a3 a4 b0 b1 b2 b3 b4 x0 (.slice (some ⟨gh, 0, none⟩) n c) x2 x3 x4 l W) (hl : l ≠ []) (k : Nat) (y : Str) :
    LInv w g base a a0 a1 a2 a3 a4 b0 b1 b2 b3 b4 x0 (.slice (some ⟨gh, 0, none⟩) n c) x2 x3 x4 (l.set k y) (W.setCell ⟨gh, k, none⟩ (.string y)) := by
  obtain ⟨cur, hc⟩ := h.o1.type hl (g := gh) rfl
  have hb : base ≤ gh := (h.o1.2 hl).base_le gh rfl
  have hbs := h.bs
  have hne : ∀ k', k' ≠ gh → (W.setCell ⟨gh, k, none⟩ (.string y)).heap[k']? = W.heap[k']? := fun k' hk => Below.heap_setCell W ⟨gh, k, none⟩ _ k' hk
  have hlset : l.set k y ≠ [] → l ≠ [] := fun h1 h2 => h1 (by rw [h2]; rfl)
  refine ⟨⟨h.two.ext.setCell (by show w.heap.size ≤ gh; omega) _, (hne _ (by omega)).trans h.two.ha, (hne _ (by omega)).trans h.two.hb⟩, h.bs, h.gb, (hne g (fun e => ?_)).trans h.box, h.o0.set_off (fun h1 h2 => ?_) _ _, h.o1.set_self hl k y, h.o2.set_off (fun h1 h2 => ?_) _ _, h.o3.set_off (fun h1 h2 => ?_) _ _, h.o4.set_off (fun h1 h2 => ?_) _ _, fun h1 => h.s1 (hlset h1), fun h1 => h.s2 (hlset h1)⟩
  · have := h.box
    rw [e, hc] at this
    injection this with this
    injection this with _ this _
    exact absurd this (by decide)
  · obtain ⟨cur', hc'⟩ := h.o0.type h1 h2
    rw [hc] at hc'
    injection hc' with hc'
    injection hc' with _ hc' _
    exact absurd hc' (by decide)
  · exact h.s1 hl h1 h2.symm
  · obtain ⟨cur', hc'⟩ := h.o3.type h1 h2
    rw [hc] at hc'
    injection hc' with hc'
    injection hc' with _ hc' _
    exact absurd hc' (by decide)
  · exact h.s2 hl h1 h2.symm
theorem LInv.cx (h : LInv w g base a a0 a1 a2 a3 a4 b0 b1 b2 b3 b4 x0 x1 x2 x3 x4 l W) : W.cell? ⟨g, 0, none⟩ = some x0 ∧ W.cell? ⟨g, 1, none⟩ = some x1 ∧ W.cell? ⟨g, 2, none⟩ = some x2 ∧ W.cell? ⟨g, 3, none⟩ = some x3 ∧ W.cell? ⟨g, 4, none⟩ = some x4 := by
  have := h.box
  refine ⟨?_, ?_, ?_, ?_, ?_⟩ <;> simp [World.cell?, *]
end
end Go.Proofs.Ytfnelkcllaaebaa
end
section
/- Contract of law04.RdataSame. No condition but that slices read as lists, room, and the labels' sizes. -/
open Go.RowKit
set_option linter.unusedVariables false
set_option linter.unusedSimpArgs false
namespace Go.Proofs.Ytfnelkcllaaebaa
theorem light_room {d : Dat} (h : lightD d = true) : DRoom d := by
  have := light_lens h
  unfold DRoom
  omega
theorem dsame_comm (a b : Dat) : dsame a b = dsame b a := by
  have h1 : ∀ {α : Type} [DecidableEq α] (x y : α), decide (x = y) = decide (y = x) := fun x y => by rw [decide_eq_decide]; exact eq_comm
  unfold dsame neq
  rw [h1 a.bytes, h1 a.nums, h1 a.texts, h1 (a.host.map small), h1 (a.mail.map small)]
theorem neq_refl (l : List Str) : neq l l = true := by unfold neq; exact decide_eq_true rfl
theorem dsame_up (a : Dat) : dsame a { a with host := a.host.map up } = true := by
  unfold dsame
  simp only [neq_up, neq_refl, decide_true, Bool.and_true]
theorem dfit_up {a : Dat} (h : DFit a) : DFit { a with host := a.host.map up } := by
  refine ⟨fun x hx => ?_, h.2⟩
  obtain ⟨y, hy, rfl⟩ := List.mem_map.1 hx
  have : (up y).size = y.size := by simp [up, ofB_size, bs_length]
  rw [this]; exact h.1 y hy
def isDR (w : World) (v : Value) (d : Dat) : Prop := ∃ v0 v1 v2 v3 v4, v = .agg #[v0, v1, v2, v3, v4] ∧ DR w v0 v1 v2 v3 v4 d
theorem isDR.ext {w w' : World} {v : Value} {d : Dat} (h : isDR w v d) (hE : Ext w w') : isDR w' v d := by
  obtain ⟨v0, v1, v2, v3, v4, e, h⟩ := h; exact ⟨_, _, _, _, _, e, h.ext hE⟩
theorem OwnV.drv {w : World} {base : Nat} {v : Value} {d : Dat} (h : OwnV w base v d) : isDR w v d := by
  obtain ⟨v0, v1, v2, v3, v4, e, h0, h1, h2, h3, h4, _⟩ := h
  exact ⟨_, _, _, _, _, e, h0.1, h1.1, h2.1, h3.1, h4.1⟩
theorem LInv.dro {w W : World} {g base : Nat} {a : Dat} {a0 a1 a2 a3 a4 b0 b1 b2 b3 b4 x0 x1 x2 x3 x4 : Value} {l : List Str} (h : LInv w g base a a0 a1 a2 a3 a4 b0 b1 b2 b3 b4 x0 x1 x2 x3 x4 l W) : DR W x0 x1 x2 x3 x4 { a with host := l } :=
  ⟨h.o0.1, h.o1.1, h.o2.1, h.o3.1, h.o4.1⟩
def rpD (d : Dat) : RP Ext := ⟨fun v w => isDR w v d, fun _ _ _ h he => h.ext he⟩
def samePs (a b : Dat) (va vb vo : Value) (i : Nat) : RP Ext :=
  match i with
  | 0 => RP.eq va | 5 => RP.eq va | 10 => RP.eq va | 16 => RP.eq va | 18 => RP.eq va
  | 2 => RP.eq vb | 6 => RP.eq vb | 15 => RP.eq vb | 19 => RP.eq vb
  | 11 => RP.eq vo
  | 1 => rpD a | 3 => rpD b
  | 4 => RP.eq (.bool (dsame a b)) | 7 => RP.eq (.bool (dsame a b)) | 20 => RP.eq (.bool (dsame a b))
  | 17 => RP.eq (.bool (dsame b a))
  | _ => RP.eq (.bool true)
set_option maxRecDepth 100000 in
set_option maxHeartbeats 1000000 in
theorem law04_RdataSame (a b : Dat) (a0 a1 a2 a3 a4 b0 b1 b2 b3 b4 : Value) (w : World) (ha : DR w a0 a1 a2 a3 a4 a) (hb : DR w b0 b1 b2 b3 b4 b) (fa : DFit a) (fb : DFit b) :
    Calls Try.prog 3 #[.agg #[a0, a1, a2, a3, a4], .agg #[b0, b1, b2, b3, b4]] w fun e w' => e = .returned (.bool true) ∧ Ext w w' := by
  have HA := Lib.hid ha
  have HB := Lib.hid hb
  have FA := Lib.hid fa
  have FB := Lib.hid fb
  have HT := Lib.hid (two_start w a0 a1 a2 a3 a4 b0 b1 b2 b3 b4)
  clear ha hb fa fb
  go_enter Try.func3, Try.ntmps3
  go_wp2_with fail
  refine (law04_answers _).mono ?_
  rintro e w1 ⟨rfl, h1⟩
  have HT1 := Lib.hid (HT.out.step h1)
  clear h1
  obtain ⟨c0, c1, c2, c3, c4⟩ := HT1.out.ca
  go_wp2_with fail
  refine (law04_light a _ _ _ _ _ _ (HA.out.ext HT1.out.ext)).mono ?_
  rintro e w2 ⟨rfl, h1⟩
  have HT2 := Lib.hid (HT1.out.step h1)
  clear h1 c0 c1 c2 c3 c4
  cases hla : lightD a with
  | false =>
    clear hla
    go_wp2_with fail
    refine (law04_answers _).mono ?_
    rintro e w3 ⟨rfl, h3⟩
    have HE := Lib.hid (HT2.out.ext.trans h3)
    clear h3
    go_wp2
    go_ret
    exact ⟨rfl, HE.out⟩
  | true =>
    have RA := Lib.hid (light_room hla)
    clear hla
    obtain ⟨c0, c1, c2, c3, c4⟩ := HT2.out.cb
    go_wp2_with fail
    refine (law04_light b _ _ _ _ _ _ (HB.out.ext HT2.out.ext)).mono ?_
    rintro e w3 ⟨rfl, h1⟩
    have HT3 := Lib.hid (HT2.out.step h1)
    clear h1 c0 c1 c2 c3 c4
    cases hlb : lightD b with
    | false =>
      clear hlb
      go_wp2_with fail
      refine (law04_answers _).mono ?_
      rintro e w4 ⟨rfl, h3⟩
      have HE := Lib.hid (HT3.out.ext.trans h3)
      clear h3
      go_wp2
      go_ret
      exact ⟨rfl, HE.out⟩
    | true =>
      have RB := Lib.hid (light_room hlb)
      clear hlb HT1 HT2
      obtain ⟨c0, c1, c2, c3, c4⟩ := HT3.out.ca
      go_wp2_with fail
      refine (ref_OwnData a _ _ _ _ _ _ (HA.out.ext HT3.out.ext) RA.out).mono ?_
      rintro e w4 ⟨h1, v, rfl, hO⟩
      have HT4 := Lib.hid (HT3.out.step h1)
      have hsz3 : w.heap.size + 2 ≤ w3.heap.size := by have := (Array.getElem?_eq_some_iff.1 HT3.out.hb).1; omega
      have hsz := h1.size
      clear c0 c1 c2 c3 c4 h1
      obtain ⟨x0, x1, x2, x3, x4, rfl, o0, o1, o2, o3, o4, s1, s2⟩ := hO
      obtain ⟨A0, k0, rfl, _, _⟩ := o0.1.form
      obtain ⟨A1, k1, rfl, l1, m1⟩ := o1.1.form
      obtain ⟨A2, k2, rfl, _, _⟩ := o2.1.form
      obtain ⟨A3, k3, rfl, _, _⟩ := o3.1.form
      obtain ⟨A4, k4, rfl, _, _⟩ := o4.1.form
      have HL := Lib.hid (show LInv w w4.heap.size w3.heap.size a a0 a1 a2 a3 a4 b0 b1 b2 b3 b4 _ _ _ _ _ a.host (w4.alloc (.cells #[.slice A0 a.bytes.length k0, .slice A1 a.host.length k1, .slice A2 a.mail.length k2, .slice A3 a.nums.length k3, .slice A4 a.texts.length k4] 26)) from
        ⟨HT4.out.step ((Ext.refl _).alloc _), hsz3, hsz, heap_alloc_new w4 _, o0.ext ((Ext.refl _).alloc _), o1.ext ((Ext.refl _).alloc _), o2.ext ((Ext.refl _).alloc _), o3.ext ((Ext.refl _).alloc _), o4.ext ((Ext.refl _).alloc _), s1, s2⟩)
      clear o0 o1 o2 o3 o4 s1 s2
      unfold maxI at m1
      go_wp2
      generalize w4.heap.size = g at *
      generalize w3.heap.size = base at *
      generalize hW : w4.alloc (.cells #[.slice A0 a.bytes.length k0, .slice A1 a.host.length k1, .slice A2 a.mail.length k2, .slice A3 a.nums.length k3, .slice A4 a.texts.length k4] 26) = W at *
      clear hW
      go_loopw [6, 7, 8] (fun i _ _ wr => ∃ k : Nat, k ≤ a.host.length ∧ i = .int .i64 k ∧ LInv w g base a a0 a1 a2 a3 a4 b0 b1 b2 b3 b4 (.slice A0 a.bytes.length k0) (.slice A1 a.host.length k1) (.slice A2 a.mail.length k2) (.slice A3 a.nums.length k3) (.slice A4 a.texts.length k4) (mixF up a.host k) wr) (fun i _ _ _ => a.host.length - (intOf i).toNat)
      case atStart => exact ⟨0, by omega, rfl, by rw [mixF_zero]; exact HL.out⟩
      case round =>
        obtain ⟨k, hk, rfl, hI⟩ := hrel
        have HI := Lib.hid hI
        obtain ⟨c0, c1, c2, c3, c4⟩ := hI.cx
        clear hI
        by_cases hlt : k < a.host.length
        · have hx := List.getElem?_eq_getElem hlt
          have hne : mixF up a.host k ≠ [] := fun h => by have := mixF_length up a.host k; rw [h] at this; simp at this; omega
          have hxm := mixF_at up _ _ _ hx
          have HX := Lib.hid hx
          have hfs := FA.out.1.at_ hx
          clear hx
          generalize a.host[k] = x at *
          rcases (HI.out.o1.2 hne).2 with ⟨h0, hn0⟩ | ⟨gh, cap, cur, he, -⟩
          · rw [mixF_length] at hn0; omega
          · injection he with he1 he2 he3
            subst he1 he3
            have HO1 := Lib.hid (HI.out.o1.2 hne)
            have hcx : wr.cell? ⟨gh, k, none⟩ = some (.string x) := by
              have := World.ownsRow.cellAt (by unfold OwnL at HO1; exact (mixF_length up a.host k) ▸ HO1.out) k (by rw [Nat.mul_one]; exact hlt)
              rw [this, List.getElem?_map, hxm]; rfl
            have HN := Lib.hid hne
            clear hne hxm he2
            have hcm := grownCap_le_maxLen wr x.size 0 5 (by unfold maxI at hfs; simpa [maxLen] using hfs)
            have hcg := grownCap_ge wr x.size 0 5
            have kb := fun w => Lib.run_convert_string_bytes (P := Try.prog) w 9 22 5 x Try.underlying9 Try.underlying22 Try.underlying5
            have hb0 := Lib.hid (blk_bytes wr x)
            have he0 := Lib.hid (ext_bytes wr x)
            have hfx := hfs
            unfold maxI at hfx
            go_wp2
            generalize hg : grownCap wr x.size 0 5 = c at *
            clear hg
            have hln := bs_length x
            unfold bs at hln
            go_loopw [8] (fun i wi => ∃ j : Nat, j ≤ x.size ∧ i = .int .i64 j ∧ Blk vByte 5 wi wr.heap.size (mixF upB x.data.toList j) ∧ Ext wr wi) (fun i _ => x.size - (intOf i).toNat)
            case atStart => exact ⟨0, by omega, rfl, by rw [mixF_zero]; exact hb0.out, he0.out⟩
            case round =>
              obtain ⟨j, hj, rfl, hB, hE⟩ := hrel
              by_cases hlt2 : j < x.size
              · have hkl : j < x.data.toList.length := by omega
                have hy : x.data.toList[j]? = some x.data.toList[j] := List.getElem?_eq_getElem hkl
                have hz := mixF_at upB _ _ _ hy
                have HY := Lib.hid hy; clear hy
                generalize x.data.toList[j] = y at *
                have hcl := hB.cell j y hz
                have hfr := hB.free j (by rw [mixF_length]; exact hkl)
                have hx2 := y.toNat_lt
                clear hz kb
                go_wp2
                all_goals
                  go_roundw
                  case measure => simp [intOf]; omega
                  case rel =>
                    first
                    | (exact ⟨j + 1, by omega, by go_num, by rw [mixF_same _ _ _ _ HY.out (upB_no y (by omega))]; exact hB, hE⟩)
                    | (refine ⟨j + 1, by omega, by go_num, ?_, hE.setCell (Nat.le_refl _) _⟩
                       rw [mixF_succ _ _ _ _ HY.out]
                       rw [show (Value.int .u8 (↑y.toNat - 32)) = vByte (upB y) from by rw [vByte, upB_yes y (by assumption) (by assumption)]]
                       exact hB.set j (upB y))
              · have hcv := conv_string (hB.fl x.size c (by rw [mixF_length]; exact hln) hcg hcm)
                have HE := Lib.hid (up_mix x j (by omega))
                have HI2 := Lib.hid (HI.out.step hE)
                clear c0 c1 c2 c3 c4
                obtain ⟨c0, c1, c2, c3, c4⟩ := HI2.out.cx
                have hcx2 := hE.cell hcx
                have hfz := World.ownsRow.frozenAt (base := base) (e := 9) (size := 1) (xs := (mixF up a.host k).map Value.string) (by have := HI2.out.o1.2 HN.out; unfold OwnL at this; rw [mixF_length] at this; exact this) k
                go_wp2
                go_roundw
                case rel => exact ⟨k + 1, by omega, by go_num, by rw [mixF_succ _ _ _ _ HX.out, ← HE.out]; exact HI2.out.store HN.out k _⟩
                case measure => simp [intOf]; omega
        · have HM := Lib.hid (mixF_all up a.host k (by omega))
          rw [HM.out] at HI
          have HO := Lib.hid (HI.out.dro)
          have HQ := Lib.hid (dsame_up a)
          go_wp2
          clear c0 c1 c2 c3 c4
          refine wp_region_posts (E := Ext) Ext.refl (fun _ _ _ => Ext.trans) 23 (samePs a b (.agg #[a0, a1, a2, a3, a4]) (.agg #[b0, b1, b2, b3, b4]) (.agg #[.slice A0 a.bytes.length k0, .slice A1 a.host.length k1, .slice A2 a.mail.length k2, .slice A3 a.nums.length k3, .slice A4 a.texts.length k4])) (fun _ _ => False) (by kernel_rfl) (by kernel_rfl) (fun _ _ _ _ h => h.elim) ?_ ?_
          · simp (config := { maxSteps := 10000000 }) only [List.take, Obls, fullA, Act.put, List.setIfInBounds_toArray, List.set_cons_zero, List.set_cons_succ, Nat.zero_add, Nat.reduceAdd]
            refine ⟨?_, ?_, ?_, ?_, ?_, ?_, ?_, ?_, ?_, ?_, ?_, ?_, ?_, ?_, ?_, ?_, ?_, ?_, ?_, ?_, ?_, ?_, ?_, trivial⟩
            all_goals intro vs W hE hd
            all_goals have hW : Ext wr W := Ext.trans (Ext.drew (Ext.refl wr)) hE
            all_goals have HI3 := Lib.hid (HI.out.step hW)
            all_goals have HW := Lib.hid hW
            all_goals clear hE hW
            · clear hd
              obtain ⟨c0, c1, c2, c3, c4⟩ := HI3.out.two.ca
              go_wp2
              exact ⟨rfl, Ext.refl _, rfl⟩
            · have e0 : vs 0 = .agg #[a0, a1, a2, a3, a4] := hd 0 (by decide)
              clear hd
              rw [e0]
              go_wp2_with fail
              refine (ref_OwnData a _ _ _ _ _ _ (HA.out.ext HI3.out.two.ext) RA.out).mono ?_
              rintro e W2 ⟨h1, v, rfl, hO⟩
              have HO2 := Lib.hid hO
              have H1 := Lib.hid h1
              clear h1 hO
              go_wp2
              exact ⟨rfl, H1.out, HO2.out.drv⟩
            · clear hd
              obtain ⟨c0, c1, c2, c3, c4⟩ := HI3.out.two.cb
              go_wp2
              exact ⟨rfl, Ext.refl _, rfl⟩
            · have e2 : vs 2 = .agg #[b0, b1, b2, b3, b4] := hd 2 (by decide)
              clear hd
              rw [e2]
              go_wp2_with fail
              refine (ref_OwnData b _ _ _ _ _ _ (HB.out.ext HI3.out.two.ext) RB.out).mono ?_
              rintro e W2 ⟨h1, v, rfl, hO⟩
              have HO2 := Lib.hid hO
              have H1 := Lib.hid h1
              clear h1 hO
              go_wp2
              exact ⟨rfl, H1.out, HO2.out.drv⟩
            · obtain ⟨p0, p1, p2, p3, p4, e1, hp⟩ : isDR W (vs 1) a := hd 1 (by decide)
              obtain ⟨q0, q1, q2, q3, q4, e3, hq⟩ : isDR W (vs 3) b := hd 3 (by decide)
              have HP := Lib.hid hp
              have HQ2 := Lib.hid hq
              clear hd hp hq
              rw [e1, e3]
              go_wp2_with fail
              refine (rdata_Same a b _ _ _ _ _ _ _ _ _ _ _ HP.out HQ2.out FA.out FB.out).mono ?_
              rintro e W2 ⟨rfl, h1⟩
              have H1 := Lib.hid h1
              clear h1
              go_wp2
              exact ⟨rfl, H1.out, rfl⟩
            · clear hd
              obtain ⟨c0, c1, c2, c3, c4⟩ := HI3.out.two.ca
              go_wp2
              exact ⟨rfl, Ext.refl _, rfl⟩
            · clear hd
              obtain ⟨c0, c1, c2, c3, c4⟩ := HI3.out.two.cb
              go_wp2
              exact ⟨rfl, Ext.refl _, rfl⟩
            · have e5 : vs 5 = .agg #[a0, a1, a2, a3, a4] := hd 5 (by decide)
              have e6 : vs 6 = .agg #[b0, b1, b2, b3, b4] := hd 6 (by decide)
              clear hd
              rw [e5, e6]
              go_wp2_with fail
              refine (rref_Same a b _ _ _ _ _ _ _ _ _ _ _ (HA.out.ext HI3.out.two.ext) (HB.out.ext HI3.out.two.ext) FA.out FB.out).mono ?_
              rintro e W2 ⟨rfl, h1⟩
              have H1 := Lib.hid h1
              clear h1
              go_wp2
              exact ⟨rfl, H1.out, rfl⟩
            · have e4 : vs 4 = .bool (dsame a b) := hd 4 (by decide)
              have e7 : vs 7 = .bool (dsame a b) := hd 7 (by decide)
              clear hd
              rw [e4, e7]
              generalize dsame a b = β
              cases β
              all_goals go_wp2
              all_goals exact ⟨rfl, Ext.refl _, rfl⟩
            · have e8 : vs 8 = .bool true := hd 8 (by decide)
              clear hd
              rw [e8]
              go_wp2
              exact ⟨rfl, Ext.refl _, rfl⟩
            · have e9 : vs 9 = .bool true := hd 9 (by decide)
              clear hd
              rw [e9]
              obtain ⟨c0, c1, c2, c3, c4⟩ := HI3.out.two.ca
              go_wp2
              exact ⟨rfl, Ext.refl _, rfl⟩
            · have e9 : vs 9 = .bool true := hd 9 (by decide)
              clear hd
              rw [e9]
              obtain ⟨c0, c1, c2, c3, c4⟩ := HI3.out.cx
              go_wp2
              exact ⟨rfl, Ext.refl _, rfl⟩
            · have e9 : vs 9 = .bool true := hd 9 (by decide)
              have e10 : vs 10 = .agg #[a0, a1, a2, a3, a4] := hd 10 (by decide)
              have e11 : vs 11 = .agg #[.slice A0 a.bytes.length k0, .slice A1 a.host.length k1, .slice A2 a.mail.length k2, .slice A3 a.nums.length k3, .slice A4 a.texts.length k4] := hd 11 (by decide)
              clear hd
              rw [e10, e11, e9]
              go_wp2_with fail
              refine (rdata_Same a { a with host := a.host.map up } _ _ _ _ _ _ _ _ _ _ _ (HA.out.ext HI3.out.two.ext) (HO.out.ext HW.out) FA.out (dfit_up FA.out)).mono ?_
              rintro e W2 ⟨rfl, h1⟩
              have H1 := Lib.hid h1
              clear h1
              go_wp2
              exact ⟨rfl, H1.out, by rw [HQ.out]; rfl⟩
            · have e9 : vs 9 = .bool true := hd 9 (by decide)
              have e12 : vs 12 = .bool true := hd 12 (by decide)
              clear hd
              rw [e9, e12]
              go_wp2
              exact ⟨rfl, Ext.refl _, rfl⟩
            · have e13 : vs 13 = .bool true := hd 13 (by decide)
              clear hd
              rw [e13]
              go_wp2
              exact ⟨rfl, Ext.refl _, rfl⟩
            · have e14 : vs 14 = .bool true := hd 14 (by decide)
              clear hd
              rw [e14]
              obtain ⟨c0, c1, c2, c3, c4⟩ := HI3.out.two.cb
              go_wp2
              exact ⟨rfl, Ext.refl _, rfl⟩
            · have e14 : vs 14 = .bool true := hd 14 (by decide)
              clear hd
              rw [e14]
              obtain ⟨c0, c1, c2, c3, c4⟩ := HI3.out.two.ca
              go_wp2
              exact ⟨rfl, Ext.refl _, rfl⟩
            · have e14 : vs 14 = .bool true := hd 14 (by decide)
              have e15 : vs 15 = .agg #[b0, b1, b2, b3, b4] := hd 15 (by decide)
              have e16 : vs 16 = .agg #[a0, a1, a2, a3, a4] := hd 16 (by decide)
              clear hd
              rw [e15, e16, e14]
              go_wp2_with fail
              refine (rdata_Same b a _ _ _ _ _ _ _ _ _ _ _ (HB.out.ext HI3.out.two.ext) (HA.out.ext HI3.out.two.ext) FB.out FA.out).mono ?_
              rintro e W2 ⟨rfl, h1⟩
              have H1 := Lib.hid h1
              clear h1
              go_wp2
              exact ⟨rfl, H1.out, rfl⟩
            · have e14 : vs 14 = .bool true := hd 14 (by decide)
              clear hd
              rw [e14]
              obtain ⟨c0, c1, c2, c3, c4⟩ := HI3.out.two.ca
              go_wp2
              exact ⟨rfl, Ext.refl _, rfl⟩
            · have e14 : vs 14 = .bool true := hd 14 (by decide)
              clear hd
              rw [e14]
              obtain ⟨c0, c1, c2, c3, c4⟩ := HI3.out.two.cb
              go_wp2
              exact ⟨rfl, Ext.refl _, rfl⟩
            · have e14 : vs 14 = .bool true := hd 14 (by decide)
              have e18 : vs 18 = .agg #[a0, a1, a2, a3, a4] := hd 18 (by decide)
              have e19 : vs 19 = .agg #[b0, b1, b2, b3, b4] := hd 19 (by decide)
              clear hd
              rw [e18, e19, e14]
              go_wp2_with fail
              refine (rdata_Same a b _ _ _ _ _ _ _ _ _ _ _ (HA.out.ext HI3.out.two.ext) (HB.out.ext HI3.out.two.ext) FA.out FB.out).mono ?_
              rintro e W2 ⟨rfl, h1⟩
              have H1 := Lib.hid h1
              clear h1
              go_wp2
              exact ⟨rfl, H1.out, rfl⟩
            · have e14 : vs 14 = .bool true := hd 14 (by decide)
              have e17 : vs 17 = .bool (dsame b a) := hd 17 (by decide)
              have e20 : vs 20 = .bool (dsame a b) := hd 20 (by decide)
              clear hd
              rw [e14, e17, e20, dsame_comm b a]
              generalize dsame a b = β
              cases β
              all_goals go_wp2
              all_goals exact ⟨rfl, Ext.refl _, rfl⟩
            · have e14 : vs 14 = .bool true := hd 14 (by decide)
              have e21 : vs 21 = .bool true := hd 21 (by decide)
              clear hd
              rw [e14, e21]
              go_wp2
              exact ⟨rfl, Ext.refl _, rfl⟩
          · intro vs W hE hP
            have e22 : vs 22 = .bool true := hP 22 (by decide)
            have HW := Lib.hid (HI.out.two.ext.trans (Ext.trans (Ext.drew (Ext.refl wr)) hE))
            clear hP hE
            simp only [List.drop, List.take, fullA, Act.put, List.setIfInBounds_toArray, List.set_cons_zero, List.set_cons_succ, Nat.zero_add, Nat.reduceAdd]
            rw [e22]
            go_wp2
            go_ret
            exact ⟨rfl, HW.out⟩
end Go.Proofs.Ytfnelkcllaaebaa
end
