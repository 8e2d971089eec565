/- What holds while law04.RdataSame's loop makes the own host's letters great. No condition. -/
import Derived.Test.YtfnelkcllaaebaaOwnD
open Go.RowKit
set_option linter.unusedVariables false
set_option linter.unusedSimpArgs false
namespace Go.Proofs.Ytfnelkcllaaebaa
/-- A great letter for a small one. -/
def upB (b : UInt8) : UInt8 := if 97 ≤ b.toNat ∧ b.toNat ≤ 122 then b - 32 else b
def up (s : ByteArray) : ByteArray := ofB ((bs s).map upB)
theorem upB_yes (x : UInt8) (h1 : 97 ≤ (x.toNat : Int)) (h2 : (x.toNat : Int) ≤ 122) : ((upB x).toNat : Int) = (x.toNat : Int) - 32 := by
  have : (x - 32).toNat = x.toNat - 32 := by rw [UInt8.toNat_sub_of_le _ _ (by rw [UInt8.le_iff_toNat_le]; simp; omega)]; simp
  unfold upB; rw [if_pos (by omega), this]; omega
theorem upB_no (x : UInt8) (h : ¬ (97 ≤ (x.toNat : Int) ∧ (x.toNat : Int) ≤ 122)) : upB x = x := by
  unfold upB; rw [if_neg (by omega)]
theorem low_up (x : UInt8) : lowB (upB x) = lowB x := by
  by_cases h : 97 ≤ x.toNat ∧ x.toNat ≤ 122
  · have h1 := upB_yes x (by omega) (by omega)
    have h3 : lowB x = x := lowB_no x (by omega)
    rw [h3]
    apply UInt8.toNat_inj.1
    have h2 := lowB_yes (upB x) (by omega) (by omega)
    omega
  · rw [upB_no x (by omega)]
theorem small_up (s : ByteArray) : small (up s) = small s := by
  unfold small up
  rw [bs_ofB, List.map_map]
  congr 1
  apply List.map_congr_left
  intro x _
  exact low_up x
/-- The first k mapped. -/
def mixF {α : Type} (f : α → α) (l : List α) (k : Nat) : List α := (l.take k).map f ++ l.drop k
theorem mixF_length {α : Type} (f : α → α) (l : List α) (k : Nat) : (mixF f l k).length = l.length := by
  simp [mixF]; omega
theorem mixF_at {α : Type} (f : α → α) (l : List α) (k : Nat) (x : α) (h : l[k]? = some x) : (mixF f l k)[k]? = some x := by
  obtain ⟨hlt, he⟩ := List.getElem?_eq_some_iff.1 h
  unfold mixF
  rw [List.getElem?_append_right (by simp; omega)]
  simp only [List.length_map, List.length_take, List.getElem?_drop]
  rw [show k + (k - min k l.length) = k from by omega, h]
theorem mixF_succ {α : Type} (f : α → α) (l : List α) (k : Nat) (x : α) (h : l[k]? = some x) : mixF f l (k + 1) = (mixF f l k).set k (f x) := by
  obtain ⟨hlt, he⟩ := List.getElem?_eq_some_iff.1 h
  unfold mixF
  have hl : ((l.take k).map f).length = k := by simp; omega
  have e := List.set_append_right (s := (l.take k).map f) (t := l.drop k) k (f x) (by omega)
  rw [e, hl, List.take_add_one, h, Nat.sub_self, List.drop_eq_getElem_cons hlt, he]
  simp
theorem mixF_all {α : Type} (f : α → α) (l : List α) (k : Nat) (h : l.length ≤ k) : mixF f l k = l.map f := by
  unfold mixF; rw [List.take_of_length_le h, List.drop_of_length_le h, List.append_nil]
theorem mixF_zero {α : Type} (f : α → α) (l : List α) : mixF f l 0 = l := by simp [mixF]
theorem mixF_same {α : Type} (f : α → α) (l : List α) (k : Nat) (x : α) (h : l[k]? = some x) (hx : f x = x) : mixF f l (k + 1) = mixF f l k := by
  rw [mixF_succ f l k x h, hx]
  apply List.ext_getElem?
  intro i
  rw [List.getElem?_set]
  split
  · rename_i e
    subst e
    have h2 := mixF_at f l k x h
    split
    · exact h2.symm
    · rename_i hn
      have := (List.getElem?_eq_some_iff.1 h2).1
      exact absurd this hn
  · rfl
theorem up_mix (s : ByteArray) (k : Nat) (h : s.size ≤ k) : ofB (mixF upB s.data.toList k) = up s := by
  rw [mixF_all _ _ _ (by have := bs_length s; unfold bs at this; omega)]; rfl
theorem neq_up (l : List Str) : neq l (l.map up) = true := by
  unfold neq
  rw [decide_eq_true_eq, List.map_map]
  apply List.map_congr_left
  intro x _
  exact (small_up x).symm
theorem NewS.set_off {α : Type} {V : α → Value} {e : TypeId} {w : World} {base : Nat} {v : Value} {l : List α} (h : NewS V e w base v l) {g : Nat} (hg : l ≠ [] → v.ownBlock ≠ some g) (o : Nat) (u : Value) : NewS V e (w.setCell ⟨g, o, none⟩ u) base v l := by
  by_cases hl : l = []
  · subst hl
    obtain ⟨A, c, rfl, h1, h2, _⟩ := h.1
    exact ⟨⟨A, c, rfl, h1, h2, by simp⟩, fun h => absurd rfl h⟩
  · have : OwnL V e (w.setCell ⟨g, o, none⟩ u) base v l := World.ownsRow.kept (row := some g) (h.2 hl) ⟨rfl, rfl, rfl, by simp [World.setCell], fun k hk hn => Below.heap_setCell w ⟨g, o, none⟩ u k (fun e => hn (by rw [e]))⟩ (.inr (fun e => hg hl (by first | exact e | exact e.symm)))
    exact ⟨this.fl, fun _ => this⟩
theorem NewS.type {α : Type} {V : α → Value} {e : TypeId} {w : World} {base : Nat} {v : Value} {l : List α} (h : NewS V e w base v l) (hl : l ≠ []) {g : Nat} (hv : v.ownBlock = some g) : ∃ cur, w.heap[g]? = some (.cells cur e (0, 0)) := by
  rcases (h.2 hl).2 with ⟨rfl, hn⟩ | ⟨g', cap, cur, rfl, _, hh, _⟩
  · exact absurd (List.eq_nil_of_length_eq_zero hn) hl
  · simp [Value.ownBlock] at hv
    subst hv
    exact ⟨cur, hh⟩
theorem NewS.set_self {α : Type} {V : α → Value} {e : TypeId} {w : World} {base g n c : Nat} {l : List α} (h : NewS V e w base (.slice (some ⟨g, 0, none⟩) n c) l) (hl : l ≠ []) (k : Nat) (y : α) : NewS V e (w.setCell ⟨g, k, none⟩ (V y)) base (.slice (some ⟨g, 0, none⟩) n c) (l.set k y) := by
  have hn : n = l.length := by
    obtain ⟨A, c', e1, _⟩ := h.1.form
    injection e1
  subst hn
  have h2 := h.2 hl
  unfold OwnL at h2
  have h3 := (World.ownsRow.stored h2 k (V y)).1
  have : OwnL V e (w.setCell ⟨g, k, none⟩ (V y)) base (.slice (some ⟨g, 0, none⟩) l.length c) (l.set k y) := by
    unfold OwnL
    rw [List.map_set, List.length_set]
    exact h3
  exact ⟨this.fl, fun _ => this⟩
structure LInv (w : World) (g base : Nat) (a : Dat) (a0 a1 a2 a3 a4 b0 b1 b2 b3 b4 x0 x1 x2 x3 x4 : Value) (l : List Str) (W : World) : Prop where
  two : Two w W a0 a1 a2 a3 a4 b0 b1 b2 b3 b4
  bs : w.heap.size + 2 ≤ base
  gb : base ≤ g
  box : W.heap[g]? = some (.cells #[x0, x1, x2, x3, x4] 26 (0, 0))
  o0 : NewS vByte 5 W base x0 a.bytes
  o1 : NewS Value.string 9 W base x1 l
  o2 : NewS Value.string 9 W base x2 a.mail
  o3 : NewS vInt 3 W base x3 a.nums
  o4 : NewS Value.string 9 W base x4 a.texts
  s1 : Sep x1 x2 l a.mail
  s2 : Sep x1 x4 l a.texts
section
variable {w W W' : World} {g base : Nat} {a : Dat} {a0 a1 a2 a3 a4 b0 b1 b2 b3 b4 x0 x1 x2 x3 x4 : Value} {l : List Str}
theorem LInv.step (h : LInv w g base a a0 a1 a2 a3 a4 b0 b1 b2 b3 b4 x0 x1 x2 x3 x4 l W) (hE : Ext W W') : LInv w g base a a0 a1 a2 a3 a4 b0 b1 b2 b3 b4 x0 x1 x2 x3 x4 l W' :=
  ⟨h.two.step hE, h.bs, h.gb, hE.block h.box, h.o0.ext hE, h.o1.ext hE, h.o2.ext hE, h.o3.ext hE, h.o4.ext hE, h.s1, h.s2⟩
theorem LInv.store {gh n c : Nat} (h : LInv w g base a a0 a1 a2 a3 a4 b0 b1 b2 b3 b4 x0 (.slice (some ⟨gh, 0, none⟩) n c) x2 x3 x4 l W) (hl : l ≠ []) (k : Nat) (y : Str) :
    LInv w g base a a0 a1 a2 a3 a4 b0 b1 b2 b3 b4 x0 (.slice (some ⟨gh, 0, none⟩) n c) x2 x3 x4 (l.set k y) (W.setCell ⟨gh, k, none⟩ (.string y)) := by
  obtain ⟨cur, hc⟩ := h.o1.type hl (g := gh) rfl
  have hb : base ≤ gh := (h.o1.2 hl).base_le gh rfl
  have hbs := h.bs
  have hne : ∀ k', k' ≠ gh → (W.setCell ⟨gh, k, none⟩ (.string y)).heap[k']? = W.heap[k']? := fun k' hk => Below.heap_setCell W ⟨gh, k, none⟩ _ k' hk
  have hlset : l.set k y ≠ [] → l ≠ [] := fun h1 h2 => h1 (by rw [h2]; rfl)
  refine ⟨⟨h.two.ext.setCell (by show w.heap.size ≤ gh; omega) _, (hne _ (by omega)).trans h.two.ha, (hne _ (by omega)).trans h.two.hb⟩, h.bs, h.gb, (hne g (fun e => ?_)).trans h.box, h.o0.set_off (fun h1 h2 => ?_) _ _, h.o1.set_self hl k y, h.o2.set_off (fun h1 h2 => ?_) _ _, h.o3.set_off (fun h1 h2 => ?_) _ _, h.o4.set_off (fun h1 h2 => ?_) _ _, fun h1 => h.s1 (hlset h1), fun h1 => h.s2 (hlset h1)⟩
  · have := h.box
    rw [e, hc] at this
    injection this with this
    injection this with _ this _
    exact absurd this (by decide)
  · obtain ⟨cur', hc'⟩ := h.o0.type h1 h2
    rw [hc] at hc'
    injection hc' with hc'
    injection hc' with _ hc' _
    exact absurd hc' (by decide)
  · exact h.s1 hl h1 h2.symm
  · obtain ⟨cur', hc'⟩ := h.o3.type h1 h2
    rw [hc] at hc'
    injection hc' with hc'
    injection hc' with _ hc' _
    exact absurd hc' (by decide)
  · exact h.s2 hl h1 h2.symm
theorem LInv.cx (h : LInv w g base a a0 a1 a2 a3 a4 b0 b1 b2 b3 b4 x0 x1 x2 x3 x4 l W) : W.cell? ⟨g, 0, none⟩ = some x0 ∧ W.cell? ⟨g, 1, none⟩ = some x1 ∧ W.cell? ⟨g, 2, none⟩ = some x2 ∧ W.cell? ⟨g, 3, none⟩ = some x3 ∧ W.cell? ⟨g, 4, none⟩ = some x4 := by
  have := h.box
  refine ⟨?_, ?_, ?_, ?_, ?_⟩ <;> simp [World.cell?, *]
end
end Go.Proofs.Ytfnelkcllaaebaa
