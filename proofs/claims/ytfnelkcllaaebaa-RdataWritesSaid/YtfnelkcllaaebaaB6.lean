/- Parts of one proof, joined: Data, Data2, Shape, Dfr, RGet. Conditions: those that each theorem states. -/
import Derived.Test.YtfnelkcllaaebaaB5
import Derived.Defers
import Derived.Recover
section
/- Contract of rdata's reader.data, shape by shape. -/
open Go.RowKit
set_option linter.unusedVariables false
set_option linter.unusedSimpArgs false
namespace Go.Proofs.Ytfnelkcllaaebaa
theorem OwnL.slice {α : Type} {V : α → Value} {e : TypeId} {w : World} {base : Nat} {v : Value} {l : List α} (h : OwnL V e w base v l) : ∃ A n c, v = .slice A n c := by
  obtain ⟨A, c, h1, _⟩ := h.fl.form; exact ⟨A, _, c, h1⟩
/-- What reader.data gives. -/
def DGives (w : World) (g : Nat) (r : Except Int Dat) (e : Ending) (w' : World) : Prop :=
  Kp (· = g) w w' ∧ match r with
    | .ok d => ∃ v0 v1 v2 v3 v4, e = .returned (.agg #[v0, v1, v2, v3, v4]) ∧ OwnL vByte 5 w' w.heap.size v0 d.bytes ∧ OwnL Value.string 9 w' w.heap.size v1 d.host ∧ OwnL Value.string 9 w' w.heap.size v2 d.mail ∧ OwnL vInt 3 w' w.heap.size v3 d.nums ∧ OwnL Value.string 9 w' w.heap.size v4 d.texts
    | .error k => e = .panicked [{ v := .iface 31 (.int .i64 k), recovered := false }]
/-- What holds while data runs. -/
structure DInv (w : World) (g : Nat) (vb : Value) (e_ : Nat) (sc : Array Value) (d : Dat) (v0 v1 v2 v3 v4 : Value) (W : World) (a : Nat) : Prop where
  kp : Kp (· = g) w W
  glt : g < w.heap.size
  shape : W.heap[w.heap.size]? = some (.cells sc 118 (0, 0))
  data : W.heap[w.heap.size + 1]? = some (.cells #[v0, v1, v2, v3, v4] 26 (0, 0))
  rdr : RdrAt W g vb a e_
  le : a ≤ e_
  o0 : OwnL vByte 5 W (w.heap.size + 2) v0 d.bytes
  o1 : OwnL Value.string 9 W (w.heap.size + 2) v1 d.host
  o2 : OwnL Value.string 9 W (w.heap.size + 2) v2 d.mail
  o3 : OwnL vInt 3 W (w.heap.size + 2) v3 d.nums
  o4 : OwnL Value.string 9 W (w.heap.size + 2) v4 d.texts
section
variable {w W W' : World} {g e_ a a' : Nat} {vb v0 v1 v2 v3 v4 v : Value} {sc : Array Value} {d : Dat}
theorem DInv.call (h : DInv w g vb e_ sc d v0 v1 v2 v3 v4 W a) (hk : Kp (· = g) W W') (hr : RdrAt W' g vb a' e_) (ha : a' ≤ e_) : DInv w g vb e_ sc d v0 v1 v2 v3 v4 W' a' := by
  have hg : g < w.heap.size + 2 := by have := h.glt; omega
  exact ⟨h.kp.trans hk, h.glt, hk.heap h.shape (by have := h.glt; omega), hk.heap h.data (by have := h.glt; omega), hr, ha, h.o0.kp hk hg, h.o1.kp hk hg, h.o2.kp hk hg, h.o3.kp hk hg, h.o4.kp hk hg⟩
theorem DInv.drewN (h : DInv w g vb e_ sc d v0 v1 v2 v3 v4 W a) (n : Nat) : DInv w g vb e_ sc d v0 v1 v2 v3 v4 (W.drewN n) a := ⟨h.kp.drewN n, h.glt, h.shape, h.data, h.rdr, h.le, h.o0, h.o1, h.o2, h.o3, h.o4⟩
theorem DInv.size (h : DInv w g vb e_ sc d v0 v1 v2 v3 v4 W a) : w.heap.size + 1 < W.heap.size := (Array.getElem?_eq_some_iff.1 h.data).1
theorem DInv.setk (h : DInv w g vb e_ sc d v0 v1 v2 v3 v4 W a) (i : Nat) (v : Value) : Kp (· = g) w (W.setCell ⟨w.heap.size + 1, i, none⟩ v) := h.kp.setCell (p := ⟨w.heap.size + 1, i, none⟩) (.inr (by show w.heap.size ≤ w.heap.size + 1; omega)) v
theorem DInv.seth (h : DInv w g vb e_ sc d v0 v1 v2 v3 v4 W a) (i : Nat) (v : Value) : (W.setCell ⟨w.heap.size + 1, i, none⟩ v).heap[w.heap.size + 1]? = some (.cells ((#[v0, v1, v2, v3, v4] : Array Value).setIfInBounds i v) 26 (0, 0)) := by
  simp [World.setCell, Array.getElem?_modify, h.data]
theorem DInv.seto (h : DInv w g vb e_ sc d v0 v1 v2 v3 v4 W a) (i : Nat) (v : Value) {k : Nat} (hk : k ≠ w.heap.size + 1) {o : Obj} (ho : W.heap[k]? = some o) : (W.setCell ⟨w.heap.size + 1, i, none⟩ v).heap[k]? = some o :=
  (Below.heap_setCell W ⟨w.heap.size + 1, i, none⟩ v k hk).trans ho
theorem OwnL.setD {α : Type} {V : α → Value} {e : TypeId} {l : List α} {x : Value} (h : OwnL V e W (w.heap.size + 2) x l) (i : Nat) (v : Value) : OwnL V e (W.setCell ⟨w.heap.size + 1, i, none⟩ v) (w.heap.size + 2) x l := h.set_other (by omega) i v
theorem DInv.set0 (h : DInv w g vb e_ sc d v0 v1 v2 v3 v4 W a) {x : List UInt8} {b : Nat} (hx : OwnL vByte 5 W b v x) (hb : w.heap.size + 2 ≤ b) : DInv w g vb e_ sc { d with bytes := x } v v1 v2 v3 v4 (W.setCell ⟨w.heap.size + 1, 0, none⟩ v) a :=
  ⟨h.setk 0 v, h.glt, h.seto 0 v (by omega) h.shape, h.seth 0 v, h.seto 0 v (by have := h.glt; omega) h.rdr, h.le, (hx.mono (hb)).setD 0 v, h.o1.setD 0 v, h.o2.setD 0 v, h.o3.setD 0 v, h.o4.setD 0 v⟩
theorem DInv.set1 (h : DInv w g vb e_ sc d v0 v1 v2 v3 v4 W a) {x : List Str} {b : Nat} (hx : OwnL Value.string 9 W b v x) (hb : w.heap.size + 2 ≤ b) : DInv w g vb e_ sc { d with host := x } v0 v v2 v3 v4 (W.setCell ⟨w.heap.size + 1, 1, none⟩ v) a :=
  ⟨h.setk 1 v, h.glt, h.seto 1 v (by omega) h.shape, h.seth 1 v, h.seto 1 v (by have := h.glt; omega) h.rdr, h.le, h.o0.setD 1 v, (hx.mono (hb)).setD 1 v, h.o2.setD 1 v, h.o3.setD 1 v, h.o4.setD 1 v⟩
theorem DInv.set2 (h : DInv w g vb e_ sc d v0 v1 v2 v3 v4 W a) {x : List Str} {b : Nat} (hx : OwnL Value.string 9 W b v x) (hb : w.heap.size + 2 ≤ b) : DInv w g vb e_ sc { d with mail := x } v0 v1 v v3 v4 (W.setCell ⟨w.heap.size + 1, 2, none⟩ v) a :=
  ⟨h.setk 2 v, h.glt, h.seto 2 v (by omega) h.shape, h.seth 2 v, h.seto 2 v (by have := h.glt; omega) h.rdr, h.le, h.o0.setD 2 v, h.o1.setD 2 v, (hx.mono (hb)).setD 2 v, h.o3.setD 2 v, h.o4.setD 2 v⟩
theorem DInv.set3 (h : DInv w g vb e_ sc d v0 v1 v2 v3 v4 W a) {x : List Int} {b : Nat} (hx : OwnL vInt 3 W b v x) (hb : w.heap.size + 2 ≤ b) : DInv w g vb e_ sc { d with nums := x } v0 v1 v2 v v4 (W.setCell ⟨w.heap.size + 1, 3, none⟩ v) a :=
  ⟨h.setk 3 v, h.glt, h.seto 3 v (by omega) h.shape, h.seth 3 v, h.seto 3 v (by have := h.glt; omega) h.rdr, h.le, h.o0.setD 3 v, h.o1.setD 3 v, h.o2.setD 3 v, (hx.mono (hb)).setD 3 v, h.o4.setD 3 v⟩
theorem DInv.set4 (h : DInv w g vb e_ sc d v0 v1 v2 v3 v4 W a) {x : List Str} {b : Nat} (hx : OwnL Value.string 9 W b v x) (hb : w.heap.size + 2 ≤ b) : DInv w g vb e_ sc { d with texts := x } v0 v1 v2 v3 v (W.setCell ⟨w.heap.size + 1, 4, none⟩ v) a :=
  ⟨h.setk 4 v, h.glt, h.seto 4 v (by omega) h.shape, h.seth 4 v, h.seto 4 v (by have := h.glt; omega) h.rdr, h.le, h.o0.setD 4 v, h.o1.setD 4 v, h.o2.setD 4 v, h.o3.setD 4 v, (hx.mono (hb)).setD 4 v⟩
theorem DInv.dc (h : DInv w g vb e_ sc d v0 v1 v2 v3 v4 W a) : W.cell? ⟨w.heap.size + 1, 0, none⟩ = some v0 ∧ W.cell? ⟨w.heap.size + 1, 1, none⟩ = some v1 ∧ W.cell? ⟨w.heap.size + 1, 2, none⟩ = some v2 ∧
    W.cell? ⟨w.heap.size + 1, 3, none⟩ = some v3 ∧ W.cell? ⟨w.heap.size + 1, 4, none⟩ = some v4 := by
  have := h.data
  refine ⟨?_, ?_, ?_, ?_, ?_⟩ <;> simp [World.cell?, this]
theorem DInv.df (h : DInv w g vb e_ sc d v0 v1 v2 v3 v4 W a) (i : Nat) : W.frozen? ⟨w.heap.size + 1, i, none⟩ = false := by
  have := h.data
  simp [World.frozen?, this]
theorem DInv.shc (h : DInv w g vb e_ sc d v0 v1 v2 v3 v4 W a) (i : Nat) : W.cell? ⟨w.heap.size, i, none⟩ = sc[i]? := by
  have := h.shape
  simp [World.cell?, this]
theorem DInv.ext (h : DInv w g vb e_ sc d v0 v1 v2 v3 v4 W a) {w0 : World} (hE : Ext w0 w) (hg : w0.heap.size ≤ g) : Ext w0 W := h.kp.one hE hg
end
abbrev nilS : Value := .slice none 0 0
theorem dinv_start {w : World} {g : Nat} {vb : Value} {a e_ : Nat} (hr : RdrAt w g vb a e_) (hae : a ≤ e_) (sc : Array Value) :
    DInv w g vb e_ sc Dat.zero nilS nilS nilS nilS nilS ((w.alloc (.cells sc 118)).alloc (.cells #[nilS, nilS, nilS, nilS, nilS] 26)) a := by
  have hglt : g < w.heap.size := (Array.getElem?_eq_some_iff.1 hr).1
  refine ⟨((Kp.refl _ _).alloc _).alloc _, hglt, ?_, ?_, (RdrAt.ext hr ((Ext.refl _).alloc _)).ext ((Ext.refl _).alloc _), hae, OwnL.nil _ _ _ _, OwnL.nil _ _ _ _, OwnL.nil _ _ _ _, OwnL.nil _ _ _ _, OwnL.nil _ _ _ _⟩
  · exact ((Ext.refl _).alloc _).block (heap_alloc_new w _)
  · have := heap_alloc_new (w.alloc (.cells sc 118)) (.cells #[nilS, nilS, nilS, nilS, nilS] 26)
    simpa using this
/-- What is known behind the last store. -/
theorem dinv_end {w W : World} {g e_ a : Nat} {vb v0 v1 v2 v3 v4 : Value} {sc : Array Value} {d d' : Dat} (h : DInv w g vb e_ sc d v0 v1 v2 v3 v4 W a) (hd : d = d') : DGives w g (.ok d') (.returned (.agg #[v0, v1, v2, v3, v4])) W := by
  subst hd
  exact ⟨h.kp, v0, v1, v2, v3, v4, rfl, h.o0.mono (by omega), h.o1.mono (by omega), h.o2.mono (by omega), h.o3.mono (by omega), h.o4.mono (by omega)⟩
theorem dinv_self {w W : World} {g e_ a : Nat} {vb v0 v1 v2 v3 v4 : Value} {sc : Array Value} {d : Dat} (h : DInv w g vb e_ sc d v0 v1 v2 v3 v4 W a) :
    DInv w g vb e_ sc d v0 v1 v2 v3 v4 (((((W.setCell ⟨w.heap.size + 1, 0, none⟩ v0).setCell ⟨w.heap.size + 1, 1, none⟩ v1).setCell ⟨w.heap.size + 1, 2, none⟩ v2).setCell ⟨w.heap.size + 1, 3, none⟩ v3).setCell ⟨w.heap.size + 1, 4, none⟩ v4) a :=
  ((((h.set0 h.o0 (Nat.le_refl _)).set1 (h.o1.setD 0 v0) (Nat.le_refl _)).set2 ((h.o2.setD 0 v0).setD 1 v1) (Nat.le_refl _)).set3 (((h.o3.setD 0 v0).setD 1 v1).setD 2 v2) (Nat.le_refl _)).set4 ((((h.o4.setD 0 v0).setD 1 v1).setD 2 v2).setD 3 v3) (Nat.le_refl _)
theorem dinv_ret {w W : World} {g e_ a : Nat} {vb v0 v1 v2 v3 v4 : Value} {sc : Array Value} {d : Dat} (h : DInv w g vb e_ sc d v0 v1 v2 v3 v4 W a) {tmps : Array Value} (ht : tmps.getD 4 undef = .pointer (some ⟨w.heap.size + 1, 0, none⟩)) :
    (results Try.f89 tmps).run Try.prog W = .ok (.agg #[v0, v1, v2, v3, v4]) W := by
  obtain ⟨d0, d1, d2, d3, d4⟩ := h.dc
  have ht' : tmps[4]?.getD undef = .pointer (some ⟨w.heap.size + 1, 0, none⟩) := by rw [← ht]; simp
  simp [results, Try.results89, go_sem, ht', d0, d1, d2, d3, d4]
set_option maxRecDepth 100000 in
set_option maxHeartbeats 4000000 in
theorem data_bytes (n : Nat) (hn : n = 4 ∨ n = 16) (w0 w : World) (g : Nat) (vb : Value) (l : List UInt8) (e_ a : Nat) (hE : Ext w0 w) (hb : BytesV w0 vb l) (hg : w0.heap.size ≤ g) (hr : RdrAt w g vb a e_) (hae : a ≤ e_) (hel : e_ ≤ l.length) (hl : l.length ≤ 140737488355328) :
    Calls Try.prog 89 #[.pointer (some ⟨g, 0, none⟩), .agg (shapeC ⟨n, false, false, false, 0, 0, false, false⟩)] w (DGives w g (rData l e_ a ⟨n, false, false, false, 0, 0, false, false⟩)) := by
  have hglt : g < w.heap.size := (Array.getElem?_eq_some_iff.1 hr).1
  have HE := Lib.hid hE
  have HB := Lib.hid hb
  have HM := Lib.hid (rData_bytes l e_ a n (by omega))
  have HI0 := Lib.hid (dinv_start hr hae (#[.int .i64 n, .bool false, .bool false, .bool false, .int .i64 0, .int .i64 0, .bool false, .bool false] : Array Value))
  clear hE hb hr
  unfold shapeC
  simp only []
  have hn0 : (0 : Int) < (n : Int) := by omega
  have hn1 : (n : Int) ≤ 16 := by omega
  clear hn
  go_enter Try.func89, Try.ntmps89

  go_wp2_with fail
  refine (rdr_bytes w0 _ g vb l e_ a n (HI0.out.ext HE.out hg) HB.out hg HI0.out.rdr HI0.out.le hel (by unfold maxI; omega) hl).mono ?_
  intro e w1 hP
  have hm := HM.out
  clear HM
  rcases hr1 : rBytes l e_ a n with k | ⟨x1, a1⟩ <;> rw [hr1] at hP hm
  · obtain ⟨hK1, rfl⟩ := hP
    rw [hm]
    exact ⟨rfl, HI0.out.kp.trans hK1, rfl⟩
  · obtain ⟨hK1, ⟨v1, rfl, hV1⟩, hR1, ha1⟩ := hP
    simp only [] at hm
    have HM := Lib.hid hm
    clear hm
    obtain ⟨A1, n1, c1, rfl⟩ := hV1.slice
    have hI1 := HI0.out.call hK1 hR1 ha1
    have hs0 := hI1.shc
    have hd := hI1.dc
    have hf := hI1.df
    have HI1 := Lib.hid (hI1.set0 hV1 (by have := HI0.out.size; omega))
    clear hI1 hV1 hr1
    go_wp2_with fail
    refine (rdr_nums w0 _ g vb l e_ a1 ⟨n, false, false, false, 0, 0, false, false⟩ (HI1.out.ext HE.out hg) HB.out hg HI1.out.rdr HI1.out.le hel (by first | omega | simp) (by first | omega | simp) (by first | omega | simp)).mono ?_
    intro e w2 hP
    simp only [rNums] at hP
    obtain ⟨hK2, ⟨v2, rfl, hV2⟩, hR2, ha2⟩ := hP
    have hA2 : a1 = a1 := rfl
    obtain ⟨A2, n2, c2, rfl⟩ := hV2.slice
    have hI2 := HI1.out.call hK2 hR2 ha2
    clear hs0 hd hf
    have hs0 := hI2.shc
    have hd := hI2.dc
    have hf := hI2.df
    have HI2 := Lib.hid (hI2.set3 hV2 (by have := HI1.out.size; omega))
    clear hI2 hV2
    go_wp2
    clear hs0 hd hf
    generalize w2.setCell ⟨w.heap.size + 1, 3, none⟩ (.slice A2 n2 c2) = W at *
    have hr1 := HI2.out.rdr.c1
    have hr2 := HI2.out.rdr.c2
    have hd := HI2.out.dc
    have hf := HI2.out.df
    have hs0 := HI2.out.shc
    have hgn : ¬ g = w.heap.size + 1 := by omega
    by_cases hlt : a1 < e_
    · have hlt' : (a1 : Int) < (e_ : Int) := by omega
      have HM2 := Lib.hid (HM.out.trans (if_pos hlt))
      clear hlt
      go_quiet (fail)
      go_wp2
      rw [HM2.out]
      exact ⟨rfl, HI2.out.kp.drewN _, rfl⟩
    · have hlt' : ¬ (a1 : Int) < (e_ : Int) := by omega
      have HM2 := Lib.hid (HM.out.trans (if_neg hlt))
      clear hlt
      go_quiet (fail)
      go_wp2
      have hI3 := dinv_self (HI2.out.drewN nq)
      rw [HM2.out]
      exact bodyPost_ret (dinv_ret hI3 rfl) rfl (dinv_end hI3 rfl)
set_option maxRecDepth 100000 in
set_option maxHeartbeats 4000000 in
theorem data_texts (w0 w : World) (g : Nat) (vb : Value) (l : List UInt8) (e_ a : Nat) (hE : Ext w0 w) (hb : BytesV w0 vb l) (hg : w0.heap.size ≤ g) (hr : RdrAt w g vb a e_) (hae : a ≤ e_) (hel : e_ ≤ l.length) (hl : l.length ≤ 140737488355328) :
    Calls Try.prog 89 #[.pointer (some ⟨g, 0, none⟩), .agg (shapeC ⟨0, false, false, false, 0, 0, true, false⟩)] w (DGives w g (rData l e_ a ⟨0, false, false, false, 0, 0, true, false⟩)) := by
  have hglt : g < w.heap.size := (Array.getElem?_eq_some_iff.1 hr).1
  have HE := Lib.hid hE
  have HB := Lib.hid hb
  have HM := Lib.hid (rData_texts l e_ a)
  have HI0 := Lib.hid (dinv_start hr hae (#[.int .i64 0, .bool false, .bool false, .bool false, .int .i64 0, .int .i64 0, .bool true, .bool false] : Array Value))
  clear hE hb hr
  unfold shapeC
  simp only []
  go_enter Try.func89, Try.ntmps89

  go_wp2_with fail
  refine (rdr_texts w0 _ g vb l e_ a (HI0.out.ext HE.out hg) HB.out hg HI0.out.rdr HI0.out.le hel hl).mono ?_
  intro e w1 hP
  have hm := HM.out
  clear HM
  rcases hr1 : rTexts l e_ a [] with k | ⟨x1, a1⟩ <;> rw [hr1] at hP hm
  · obtain ⟨hK1, rfl⟩ := hP
    rw [hm]
    exact ⟨rfl, HI0.out.kp.trans hK1, rfl⟩
  · obtain ⟨hK1, ⟨v1, rfl, hV1⟩, hR1, ha1⟩ := hP
    simp only [] at hm
    have HM := Lib.hid hm
    clear hm
    obtain ⟨A1, n1, c1, rfl⟩ := hV1.slice
    have hI1 := HI0.out.call hK1 hR1 ha1
    have hs0 := hI1.shc
    have hd := hI1.dc
    have hf := hI1.df
    have HI1 := Lib.hid (hI1.set4 hV1 (by have := HI0.out.size; omega))
    clear hI1 hV1 hr1
    go_wp2_with fail
    refine (rdr_nums w0 _ g vb l e_ a1 ⟨0, false, false, false, 0, 0, true, false⟩ (HI1.out.ext HE.out hg) HB.out hg HI1.out.rdr HI1.out.le hel (by first | omega | simp) (by first | omega | simp) (by first | omega | simp)).mono ?_
    intro e w2 hP
    simp only [rNums] at hP
    obtain ⟨hK2, ⟨v2, rfl, hV2⟩, hR2, ha2⟩ := hP
    have hA2 : a1 = a1 := rfl
    obtain ⟨A2, n2, c2, rfl⟩ := hV2.slice
    have hI2 := HI1.out.call hK2 hR2 ha2
    clear hs0 hd hf
    have hs0 := hI2.shc
    have hd := hI2.dc
    have hf := hI2.df
    have HI2 := Lib.hid (hI2.set3 hV2 (by have := HI1.out.size; omega))
    clear hI2 hV2
    go_wp2
    clear hs0 hd hf
    generalize w2.setCell ⟨w.heap.size + 1, 3, none⟩ (.slice A2 n2 c2) = W at *
    have hr1 := HI2.out.rdr.c1
    have hr2 := HI2.out.rdr.c2
    have hd := HI2.out.dc
    have hf := HI2.out.df
    have hs0 := HI2.out.shc
    have hgn : ¬ g = w.heap.size + 1 := by omega
    by_cases hlt : a1 < e_
    · have hlt' : (a1 : Int) < (e_ : Int) := by omega
      have HM2 := Lib.hid (HM.out.trans (if_pos hlt))
      clear hlt
      go_quiet (fail)
      go_wp2
      rw [HM2.out]
      exact ⟨rfl, HI2.out.kp.drewN _, rfl⟩
    · have hlt' : ¬ (a1 : Int) < (e_ : Int) := by omega
      have HM2 := Lib.hid (HM.out.trans (if_neg hlt))
      clear hlt
      go_quiet (fail)
      go_wp2
      have hI3 := dinv_self (HI2.out.drewN nq)
      rw [HM2.out]
      exact bodyPost_ret (dinv_ret hI3 rfl) rfl (dinv_end hI3 rfl)
set_option maxRecDepth 100000 in
set_option maxHeartbeats 4000000 in
theorem data_host (w0 w : World) (g : Nat) (vb : Value) (l : List UInt8) (e_ a : Nat) (hE : Ext w0 w) (hb : BytesV w0 vb l) (hg : w0.heap.size ≤ g) (hr : RdrAt w g vb a e_) (hae : a ≤ e_) (hel : e_ ≤ l.length) (hl : l.length ≤ 140737488355328) :
    Calls Try.prog 89 #[.pointer (some ⟨g, 0, none⟩), .agg (shapeC ⟨0, true, false, true, 0, 0, false, false⟩)] w (DGives w g (rData l e_ a ⟨0, true, false, true, 0, 0, false, false⟩)) := by
  have hglt : g < w.heap.size := (Array.getElem?_eq_some_iff.1 hr).1
  have HE := Lib.hid hE
  have HB := Lib.hid hb
  have HM := Lib.hid (rData_host l e_ a)
  have HI0 := Lib.hid (dinv_start hr hae (#[.int .i64 0, .bool true, .bool false, .bool true, .int .i64 0, .int .i64 0, .bool false, .bool false] : Array Value))
  clear hE hb hr
  unfold shapeC
  simp only []
  go_enter Try.func89, Try.ntmps89

  go_wp2_with fail
  refine (rdr_name w0 _ g vb l e_ a (HI0.out.ext HE.out hg) HB.out hg HI0.out.rdr HI0.out.le hel).mono ?_
  intro e w1 hP
  have hm := HM.out
  clear HM
  rcases hr1 : rName l e_ a with k | ⟨x1, a1⟩ <;> rw [hr1] at hP hm
  · obtain ⟨hK1, rfl⟩ := hP
    rw [hm]
    exact ⟨rfl, HI0.out.kp.trans hK1, rfl⟩
  · obtain ⟨hK1, ⟨v1, rfl, hV1⟩, hR1, ha1⟩ := hP
    simp only [] at hm
    have HM := Lib.hid hm
    clear hm
    obtain ⟨A1, n1, c1, rfl⟩ := hV1.slice
    have hI1 := HI0.out.call hK1 hR1 ha1
    have hs0 := hI1.shc
    have hd := hI1.dc
    have hf := hI1.df
    have HI1 := Lib.hid (hI1.set1 hV1 (by have := HI0.out.size; omega))
    clear hI1 hV1 hr1
    go_wp2_with fail
    refine (rdr_nums w0 _ g vb l e_ a1 ⟨0, true, false, true, 0, 0, false, false⟩ (HI1.out.ext HE.out hg) HB.out hg HI1.out.rdr HI1.out.le hel (by first | omega | simp) (by first | omega | simp) (by first | omega | simp)).mono ?_
    intro e w2 hP
    simp only [rNums] at hP
    obtain ⟨hK2, ⟨v2, rfl, hV2⟩, hR2, ha2⟩ := hP
    have hA2 : a1 = a1 := rfl
    obtain ⟨A2, n2, c2, rfl⟩ := hV2.slice
    have hI2 := HI1.out.call hK2 hR2 ha2
    clear hs0 hd hf
    have hs0 := hI2.shc
    have hd := hI2.dc
    have hf := hI2.df
    have HI2 := Lib.hid (hI2.set3 hV2 (by have := HI1.out.size; omega))
    clear hI2 hV2
    go_wp2
    clear hs0 hd hf
    generalize w2.setCell ⟨w.heap.size + 1, 3, none⟩ (.slice A2 n2 c2) = W at *
    have hr1 := HI2.out.rdr.c1
    have hr2 := HI2.out.rdr.c2
    have hd := HI2.out.dc
    have hf := HI2.out.df
    have hs0 := HI2.out.shc
    have hgn : ¬ g = w.heap.size + 1 := by omega
    by_cases hlt : a1 < e_
    · have hlt' : (a1 : Int) < (e_ : Int) := by omega
      have HM2 := Lib.hid (HM.out.trans (if_pos hlt))
      clear hlt
      go_quiet (fail)
      go_wp2
      rw [HM2.out]
      exact ⟨rfl, HI2.out.kp.drewN _, rfl⟩
    · have hlt' : ¬ (a1 : Int) < (e_ : Int) := by omega
      have HM2 := Lib.hid (HM.out.trans (if_neg hlt))
      clear hlt
      go_quiet (fail)
      go_wp2
      have hI3 := dinv_self (HI2.out.drewN nq)
      rw [HM2.out]
      exact bodyPost_ret (dinv_ret hI3 rfl) rfl (dinv_end hI3 rfl)
set_option maxRecDepth 100000 in
set_option maxHeartbeats 4000000 in
theorem data_mx (w0 w : World) (g : Nat) (vb : Value) (l : List UInt8) (e_ a : Nat) (hE : Ext w0 w) (hb : BytesV w0 vb l) (hg : w0.heap.size ≤ g) (hr : RdrAt w g vb a e_) (hae : a ≤ e_) (hel : e_ ≤ l.length) (hl : l.length ≤ 140737488355328) :
    Calls Try.prog 89 #[.pointer (some ⟨g, 0, none⟩), .agg (shapeC ⟨0, true, false, true, 1, 2, false, true⟩)] w (DGives w g (rData l e_ a ⟨0, true, false, true, 1, 2, false, true⟩)) := by
  have hglt : g < w.heap.size := (Array.getElem?_eq_some_iff.1 hr).1
  have HE := Lib.hid hE
  have HB := Lib.hid hb
  have HM := Lib.hid (rData_first l e_ a 1 2 true)
  have HI0 := Lib.hid (dinv_start hr hae (#[.int .i64 0, .bool true, .bool false, .bool true, .int .i64 1, .int .i64 2, .bool false, .bool true] : Array Value))
  clear hE hb hr
  unfold shapeC
  simp only []
  go_enter Try.func89, Try.ntmps89

  go_wp2_with fail
  refine (rdr_nums w0 _ g vb l e_ a ⟨0, true, false, true, 1, 2, false, true⟩ (HI0.out.ext HE.out hg) HB.out hg HI0.out.rdr HI0.out.le hel (by first | omega | simp) (by first | omega | simp) (by first | omega | simp)).mono ?_
  intro e w1 hP
  have hm := HM.out
  clear HM
  rcases hr1 : rNums l e_ 2 1 a [] with k | ⟨x1, a1⟩ <;> rw [hr1] at hP hm
  · obtain ⟨hK1, rfl⟩ := hP
    rw [hm]
    exact ⟨rfl, HI0.out.kp.trans hK1, rfl⟩
  · obtain ⟨hK1, ⟨v1, rfl, hV1⟩, hR1, ha1⟩ := hP
    simp only [] at hm
    have HM := Lib.hid hm
    clear hm
    obtain ⟨A1, n1, c1, rfl⟩ := hV1.slice
    have hI1 := HI0.out.call hK1 hR1 ha1
    have hs0 := hI1.shc
    have hd := hI1.dc
    have hf := hI1.df
    have HI1 := Lib.hid (hI1.set3 hV1 (by have := HI0.out.size; omega))
    clear hI1 hV1 hr1
    go_wp2_with fail
    refine (rdr_name w0 _ g vb l e_ a1 (HI1.out.ext HE.out hg) HB.out hg HI1.out.rdr HI1.out.le hel).mono ?_
    intro e w2 hP
    have hm := HM.out
    clear HM
    rcases hr2 : rName l e_ a1 with k | ⟨x2, a2⟩ <;> rw [hr2] at hP hm
    · obtain ⟨hK2, rfl⟩ := hP
      rw [hm]
      exact ⟨rfl, HI1.out.kp.trans hK2, rfl⟩
    · obtain ⟨hK2, ⟨v2, rfl, hV2⟩, hR2, ha2⟩ := hP
      simp only [] at hm
      have HM := Lib.hid hm
      clear hm
      obtain ⟨A2, n2, c2, rfl⟩ := hV2.slice
      have hI2 := HI1.out.call hK2 hR2 ha2
      clear hs0 hd hf
      have hs0 := hI2.shc
      have hd := hI2.dc
      have hf := hI2.df
      have HI2 := Lib.hid (hI2.set1 hV2 (by have := HI1.out.size; omega))
      clear hI2 hV2 hr2
      go_wp2
      clear hs0 hd hf
      generalize w2.setCell ⟨w.heap.size + 1, 1, none⟩ (.slice A2 n2 c2) = W at *
      have hr1 := HI2.out.rdr.c1
      have hr2 := HI2.out.rdr.c2
      have hd := HI2.out.dc
      have hf := HI2.out.df
      have hs0 := HI2.out.shc
      have hgn : ¬ g = w.heap.size + 1 := by omega
      by_cases hlt : a2 < e_
      · have hlt' : (a2 : Int) < (e_ : Int) := by omega
        have HM2 := Lib.hid (HM.out.trans (if_pos hlt))
        clear hlt
        go_quiet (fail)
        go_wp2
        rw [HM2.out]
        exact ⟨rfl, HI2.out.kp.drewN _, rfl⟩
      · have hlt' : ¬ (a2 : Int) < (e_ : Int) := by omega
        have HM2 := Lib.hid (HM.out.trans (if_neg hlt))
        clear hlt
        go_quiet (fail)
        go_wp2
        have hI3 := dinv_self (HI2.out.drewN nq)
        rw [HM2.out]
        exact bodyPost_ret (dinv_ret hI3 rfl) rfl (dinv_end hI3 rfl)
set_option maxRecDepth 100000 in
set_option maxHeartbeats 4000000 in
theorem data_srv (w0 w : World) (g : Nat) (vb : Value) (l : List UInt8) (e_ a : Nat) (hE : Ext w0 w) (hb : BytesV w0 vb l) (hg : w0.heap.size ≤ g) (hr : RdrAt w g vb a e_) (hae : a ≤ e_) (hel : e_ ≤ l.length) (hl : l.length ≤ 140737488355328) :
    Calls Try.prog 89 #[.pointer (some ⟨g, 0, none⟩), .agg (shapeC ⟨0, true, false, false, 3, 2, false, true⟩)] w (DGives w g (rData l e_ a ⟨0, true, false, false, 3, 2, false, true⟩)) := by
  have hglt : g < w.heap.size := (Array.getElem?_eq_some_iff.1 hr).1
  have HE := Lib.hid hE
  have HB := Lib.hid hb
  have HM := Lib.hid (rData_first l e_ a 3 2 false)
  have HI0 := Lib.hid (dinv_start hr hae (#[.int .i64 0, .bool true, .bool false, .bool false, .int .i64 3, .int .i64 2, .bool false, .bool true] : Array Value))
  clear hE hb hr
  unfold shapeC
  simp only []
  go_enter Try.func89, Try.ntmps89

  go_wp2_with fail
  refine (rdr_nums w0 _ g vb l e_ a ⟨0, true, false, false, 3, 2, false, true⟩ (HI0.out.ext HE.out hg) HB.out hg HI0.out.rdr HI0.out.le hel (by first | omega | simp) (by first | omega | simp) (by first | omega | simp)).mono ?_
  intro e w1 hP
  have hm := HM.out
  clear HM
  rcases hr1 : rNums l e_ 2 3 a [] with k | ⟨x1, a1⟩ <;> rw [hr1] at hP hm
  · obtain ⟨hK1, rfl⟩ := hP
    rw [hm]
    exact ⟨rfl, HI0.out.kp.trans hK1, rfl⟩
  · obtain ⟨hK1, ⟨v1, rfl, hV1⟩, hR1, ha1⟩ := hP
    simp only [] at hm
    have HM := Lib.hid hm
    clear hm
    obtain ⟨A1, n1, c1, rfl⟩ := hV1.slice
    have hI1 := HI0.out.call hK1 hR1 ha1
    have hs0 := hI1.shc
    have hd := hI1.dc
    have hf := hI1.df
    have HI1 := Lib.hid (hI1.set3 hV1 (by have := HI0.out.size; omega))
    clear hI1 hV1 hr1
    go_wp2_with fail
    refine (rdr_name w0 _ g vb l e_ a1 (HI1.out.ext HE.out hg) HB.out hg HI1.out.rdr HI1.out.le hel).mono ?_
    intro e w2 hP
    have hm := HM.out
    clear HM
    rcases hr2 : rName l e_ a1 with k | ⟨x2, a2⟩ <;> rw [hr2] at hP hm
    · obtain ⟨hK2, rfl⟩ := hP
      rw [hm]
      exact ⟨rfl, HI1.out.kp.trans hK2, rfl⟩
    · obtain ⟨hK2, ⟨v2, rfl, hV2⟩, hR2, ha2⟩ := hP
      simp only [] at hm
      have HM := Lib.hid hm
      clear hm
      obtain ⟨A2, n2, c2, rfl⟩ := hV2.slice
      have hI2 := HI1.out.call hK2 hR2 ha2
      clear hs0 hd hf
      have hs0 := hI2.shc
      have hd := hI2.dc
      have hf := hI2.df
      have HI2 := Lib.hid (hI2.set1 hV2 (by have := HI1.out.size; omega))
      clear hI2 hV2 hr2
      go_wp2
      clear hs0 hd hf
      generalize w2.setCell ⟨w.heap.size + 1, 1, none⟩ (.slice A2 n2 c2) = W at *
      have hr1 := HI2.out.rdr.c1
      have hr2 := HI2.out.rdr.c2
      have hd := HI2.out.dc
      have hf := HI2.out.df
      have hs0 := HI2.out.shc
      have hgn : ¬ g = w.heap.size + 1 := by omega
      by_cases hlt : a2 < e_
      · have hlt' : (a2 : Int) < (e_ : Int) := by omega
        have HM2 := Lib.hid (HM.out.trans (if_pos hlt))
        clear hlt
        go_quiet (fail)
        go_wp2
        rw [HM2.out]
        exact ⟨rfl, HI2.out.kp.drewN _, rfl⟩
      · have hlt' : ¬ (a2 : Int) < (e_ : Int) := by omega
        have HM2 := Lib.hid (HM.out.trans (if_neg hlt))
        clear hlt
        go_quiet (fail)
        go_wp2
        have hI3 := dinv_self (HI2.out.drewN nq)
        rw [HM2.out]
        exact bodyPost_ret (dinv_ret hI3 rfl) rfl (dinv_end hI3 rfl)
set_option maxRecDepth 100000 in
set_option maxHeartbeats 4000000 in
theorem data_soa (w0 w : World) (g : Nat) (vb : Value) (l : List UInt8) (e_ a : Nat) (hE : Ext w0 w) (hb : BytesV w0 vb l) (hg : w0.heap.size ≤ g) (hr : RdrAt w g vb a e_) (hae : a ≤ e_) (hel : e_ ≤ l.length) (hl : l.length ≤ 140737488355328) :
    Calls Try.prog 89 #[.pointer (some ⟨g, 0, none⟩), .agg (shapeC ⟨0, true, true, true, 5, 4, false, false⟩)] w (DGives w g (rData l e_ a ⟨0, true, true, true, 5, 4, false, false⟩)) := by
  have hglt : g < w.heap.size := (Array.getElem?_eq_some_iff.1 hr).1
  have HE := Lib.hid hE
  have HB := Lib.hid hb
  have HM := Lib.hid (rData_soa l e_ a)
  have HI0 := Lib.hid (dinv_start hr hae (#[.int .i64 0, .bool true, .bool true, .bool true, .int .i64 5, .int .i64 4, .bool false, .bool false] : Array Value))
  clear hE hb hr
  unfold shapeC
  simp only []
  go_enter Try.func89, Try.ntmps89

  go_wp2_with fail
  refine (rdr_name w0 _ g vb l e_ a (HI0.out.ext HE.out hg) HB.out hg HI0.out.rdr HI0.out.le hel).mono ?_
  intro e w1 hP
  have hm := HM.out
  clear HM
  rcases hr1 : rName l e_ a with k | ⟨x1, a1⟩ <;> rw [hr1] at hP hm
  · obtain ⟨hK1, rfl⟩ := hP
    rw [hm]
    exact ⟨rfl, HI0.out.kp.trans hK1, rfl⟩
  · obtain ⟨hK1, ⟨v1, rfl, hV1⟩, hR1, ha1⟩ := hP
    simp only [] at hm
    have HM := Lib.hid hm
    clear hm
    obtain ⟨A1, n1, c1, rfl⟩ := hV1.slice
    have hI1 := HI0.out.call hK1 hR1 ha1
    have hs0 := hI1.shc
    have hd := hI1.dc
    have hf := hI1.df
    have HI1 := Lib.hid (hI1.set1 hV1 (by have := HI0.out.size; omega))
    clear hI1 hV1 hr1
    go_wp2_with fail
    refine (rdr_name w0 _ g vb l e_ a1 (HI1.out.ext HE.out hg) HB.out hg HI1.out.rdr HI1.out.le hel).mono ?_
    intro e w2 hP
    have hm := HM.out
    clear HM
    rcases hr2 : rName l e_ a1 with k | ⟨x2, a2⟩ <;> rw [hr2] at hP hm
    · obtain ⟨hK2, rfl⟩ := hP
      rw [hm]
      exact ⟨rfl, HI1.out.kp.trans hK2, rfl⟩
    · obtain ⟨hK2, ⟨v2, rfl, hV2⟩, hR2, ha2⟩ := hP
      simp only [] at hm
      have HM := Lib.hid hm
      clear hm
      obtain ⟨A2, n2, c2, rfl⟩ := hV2.slice
      have hI2 := HI1.out.call hK2 hR2 ha2
      clear hs0 hd hf
      have hs0 := hI2.shc
      have hd := hI2.dc
      have hf := hI2.df
      have HI2 := Lib.hid (hI2.set2 hV2 (by have := HI1.out.size; omega))
      clear hI2 hV2 hr2
      go_wp2_with fail
      refine (rdr_nums w0 _ g vb l e_ a2 ⟨0, true, true, true, 5, 4, false, false⟩ (HI2.out.ext HE.out hg) HB.out hg HI2.out.rdr HI2.out.le hel (by first | omega | simp) (by first | omega | simp) (by first | omega | simp)).mono ?_
      intro e w3 hP
      have hm := HM.out
      clear HM
      rcases hr3 : rNums l e_ 4 5 a2 [] with k | ⟨x3, a3⟩ <;> rw [hr3] at hP hm
      · obtain ⟨hK3, rfl⟩ := hP
        rw [hm]
        exact ⟨rfl, HI2.out.kp.trans hK3, rfl⟩
      · obtain ⟨hK3, ⟨v3, rfl, hV3⟩, hR3, ha3⟩ := hP
        simp only [] at hm
        have HM := Lib.hid hm
        clear hm
        obtain ⟨A3, n3, c3, rfl⟩ := hV3.slice
        have hI3 := HI2.out.call hK3 hR3 ha3
        clear hs0 hd hf
        have hs0 := hI3.shc
        have hd := hI3.dc
        have hf := hI3.df
        have HI3 := Lib.hid (hI3.set3 hV3 (by have := HI2.out.size; omega))
        clear hI3 hV3 hr3
        go_wp2
        clear hs0 hd hf
        generalize w3.setCell ⟨w.heap.size + 1, 3, none⟩ (.slice A3 n3 c3) = W at *
        have hr1 := HI3.out.rdr.c1
        have hr2 := HI3.out.rdr.c2
        have hd := HI3.out.dc
        have hf := HI3.out.df
        have hs0 := HI3.out.shc
        have hgn : ¬ g = w.heap.size + 1 := by omega
        by_cases hlt : a3 < e_
        · have hlt' : (a3 : Int) < (e_ : Int) := by omega
          have HM2 := Lib.hid (HM.out.trans (if_pos hlt))
          clear hlt
          go_quiet (fail)
          go_wp2
          rw [HM2.out]
          exact ⟨rfl, HI3.out.kp.drewN _, rfl⟩
        · have hlt' : ¬ (a3 : Int) < (e_ : Int) := by omega
          have HM2 := Lib.hid (HM.out.trans (if_neg hlt))
          clear hlt
          go_quiet (fail)
          go_wp2
          have hI3 := dinv_self (HI3.out.drewN nq)
          rw [HM2.out]
          exact bodyPost_ret (dinv_ret hI3 rfl) rfl (dinv_end hI3 rfl)
end Go.Proofs.Ytfnelkcllaaebaa
end
section
/- Contract of rdata's reader.data: the last shape, and all of them; shapes. -/
open Go.RowKit
set_option linter.unusedVariables false
set_option linter.unusedSimpArgs false
namespace Go.Proofs.Ytfnelkcllaaebaa
set_option maxRecDepth 100000 in
set_option maxHeartbeats 400000 in
theorem data_rest (w0 w : World) (g : Nat) (vb : Value) (l : List UInt8) (e_ a : Nat) (hE : Ext w0 w) (hb : BytesV w0 vb l) (hg : w0.heap.size ≤ g) (hr : RdrAt w g vb a e_) (hae : a ≤ e_) (hel : e_ ≤ l.length) (hl : l.length ≤ 140737488355328) :
    Calls Try.prog 89 #[.pointer (some ⟨g, 0, none⟩), .agg (shapeC ⟨-1, false, false, false, 0, 0, false, false⟩)] w (DGives w g (rData l e_ a ⟨-1, false, false, false, 0, 0, false, false⟩)) := by
  have hglt : g < w.heap.size := (Array.getElem?_eq_some_iff.1 hr).1
  have HE := Lib.hid hE
  have HB := Lib.hid hb
  have HM := Lib.hid (rData_rest l e_ a)
  have HI0 := Lib.hid (dinv_start hr hae (#[.int .i64 (-1), .bool false, .bool false, .bool false, .int .i64 0, .int .i64 0, .bool false, .bool false] : Array Value))
  clear hE hb hr
  unfold shapeC
  simp only []
  go_enter Try.func89, Try.ntmps89
  go_wp2
  generalize (w.alloc (.cells #[.int .i64 (-1), .bool false, .bool false, .bool false, .int .i64 0, .int .i64 0, .bool false, .bool false] 118)).alloc (.cells #[nilS, nilS, nilS, nilS, nilS] 26) = W0 at *
  have hI := HI0.out.drewN 1
  rw [← World.drew_is_drewN] at hI
  have c1 : W0.drew.cell? ⟨g, 1, none⟩ = some (.int .i64 a) := hI.rdr.c1
  have c2 : W0.drew.cell? ⟨g, 2, none⟩ = some (.int .i64 e_) := hI.rdr.c2
  have hC := rdr_bytes w0 W0.drew g vb l e_ a (e_ - a) (hI.ext HE.out hg) HB.out hg hI.rdr hae hel (by unfold maxI; omega) hl
  have hrb := rBytes_ok (l := l) (show a + (e_ - a) ≤ e_ by omega)
  rw [hrb] at hC
  have hm := HM.out
  rw [hrb] at hm
  simp only [] at hm
  clear HM
  rw [show (((e_ - a : Nat)) : Int) = (e_ : Int) - (a : Int) from by omega] at hC
  rw [show a + (e_ - a) = e_ from by omega] at hC hm
  generalize (l.take e_).drop a = x at *
  rw [if_neg (Nat.lt_irrefl _)] at hm
  have HM := Lib.hid hm
  have HC := Lib.hid hC
  have HI := Lib.hid hI
  clear hm hC hI hrb HI0
  have hwr : IntKind.i64.wrap ((e_ : Int) - (a : Int)) = (e_ : Int) - (a : Int) := wraps_i64 _ (by omega) (by omega)
  go_region_with (first | (go_at_call 135; refine HC.out.mono ?_; rintro e w1 ⟨hK1, ⟨v1, rfl, hV1⟩, hR1, ha1⟩; obtain ⟨A1, n1, k1, rfl⟩ := hV1.slice; have hI1 := HI.out.call hK1 hR1 ha1; have hs0 := hI1.shc; have hd := hI1.dc; have hf := hI1.df; have HI1 := Lib.hid (hI1.set0 hV1 (by have := HI.out.size; omega)); clear hI1 hV1))
  all_goals
    clear c1 c2
    go_wp2_with fail
    refine (rdr_nums w0 _ g vb l e_ e_ ⟨-1, false, false, false, 0, 0, false, false⟩ (HI1.out.ext HE.out hg) HB.out hg HI1.out.rdr HI1.out.le hel (by simp) (by simp) (by simp)).mono ?_
    intro e w2 hP
    simp only [rNums] at hP
    obtain ⟨hK2, ⟨v2, rfl, hV2⟩, hR2, ha2⟩ := hP
    obtain ⟨A2, n2, c2, rfl⟩ := hV2.slice
    have hI2 := HI1.out.call hK2 hR2 ha2
    clear hs0 hd hf
    have hs0 := hI2.shc
    have hd := hI2.dc
    have hf := hI2.df
    have HI2 := Lib.hid (hI2.set3 hV2 (by have := HI1.out.size; omega))
    clear hI2 hV2
    go_wp2
    clear hs0 hd hf
    generalize w2.setCell ⟨w.heap.size + 1, 3, none⟩ (.slice A2 n2 c2) = W at *
    have hr1 := HI2.out.rdr.c1
    have hr2 := HI2.out.rdr.c2
    have hd := HI2.out.dc
    have hf := HI2.out.df
    have hs0 := HI2.out.shc
    have hgn : ¬ g = w.heap.size + 1 := by omega
    have hlt' : ¬ (e_ : Int) < (e_ : Int) := by omega
    go_quiet (fail)
    go_wp2
    have hI3 := dinv_self (HI2.out.drewN nq)
    rw [HM.out]
    exact bodyPost_ret (dinv_ret hI3 rfl) rfl (dinv_end hI3 rfl)
/-- reader.data, at every type's shape. -/
theorem rdr_data (kind : Int) (w0 w : World) (g : Nat) (vb : Value) (l : List UInt8) (e_ a : Nat) (hE : Ext w0 w) (hb : BytesV w0 vb l) (hg : w0.heap.size ≤ g) (hr : RdrAt w g vb a e_) (hae : a ≤ e_) (hel : e_ ≤ l.length) (hl : l.length ≤ 140737488355328) :
    Calls Try.prog 89 #[.pointer (some ⟨g, 0, none⟩), .agg (shapeC (shapeOf kind))] w (DGives w g (rData l e_ a (shapeOf kind))) := by
  unfold shapeOf
  split
  · exact data_bytes 4 (.inl rfl) w0 w g vb l e_ a hE hb hg hr hae hel hl
  · split
    · exact data_bytes 16 (.inr rfl) w0 w g vb l e_ a hE hb hg hr hae hel hl
    · split
      · exact data_host w0 w g vb l e_ a hE hb hg hr hae hel hl
      · split
        · exact data_mx w0 w g vb l e_ a hE hb hg hr hae hel hl
        · split
          · exact data_soa w0 w g vb l e_ a hE hb hg hr hae hel hl
          · split
            · exact data_srv w0 w g vb l e_ a hE hb hg hr hae hel hl
            · split
              · exact data_texts w0 w g vb l e_ a hE hb hg hr hae hel hl
              · exact data_rest w0 w g vb l e_ a hE hb hg hr hae hel hl
end Go.Proofs.Ytfnelkcllaaebaa
end
section
/- Contract of rdata.shapes. No condition. -/
open Go.RowKit
set_option linter.unusedVariables false
set_option linter.unusedSimpArgs false
namespace Go.Proofs.Ytfnelkcllaaebaa
def ShapeGives (kind : Int) (w : World) (e : Ending) (w' : World) : Prop := e = .returned (.agg (shapeC (shapeOf kind))) ∧ Ext w w'
theorem shapes_ends {kind : Int} {w W : World} {tmps : Array Value} {i : Nat} (hi : w.heap.size ≤ i) (ht : tmps.getD 2 undef = .pointer (some ⟨i, 0, none⟩)) (hE : Ext w W) (hc : W.heap[i]? = some (.cells (shapeC (shapeOf kind)) 118 (0, 0))) {a : Act} (ha : a.tmps = tmps) (hd : a.defers = []) :
    bodyPost Try.prog Try.f90 (ShapeGives kind w) .ret a W := by
  subst ha
  have ht' : a.tmps[2]?.getD undef = .pointer (some ⟨i, 0, none⟩) := by rw [← ht]; simp
  have hcell : ∀ j, W.cell? ⟨i, j, none⟩ = (shapeC (shapeOf kind))[j]? := fun j => by simp [World.cell?, hc]
  refine bodyPost_ret (v := .agg (shapeC (shapeOf kind))) ?_ hd ⟨rfl, hE⟩
  unfold shapeC at hcell ⊢
  have c0 := hcell 0; have c1 := hcell 1; have c2 := hcell 2; have c3 := hcell 3; have c4 := hcell 4; have c5 := hcell 5; have c6 := hcell 6; have c7 := hcell 7
  simp at c0 c1 c2 c3 c4 c5 c6 c7
  simp [results, Try.results90, go_sem, ht', c0, c1, c2, c3, c4, c5, c6, c7]
set_option maxHeartbeats 1000000 in
theorem rdata_shapes (kind : Int) (w : World) : Calls Try.prog 90 #[.int .i64 kind] w (ShapeGives kind w) := by
  by_cases h : kind = 1 ∨ kind = 28 ∨ kind = 2 ∨ kind = 5 ∨ kind = 12 ∨ kind = 15 ∨ kind = 6 ∨ kind = 33 ∨ kind = 16
  · rcases h with rfl | rfl | rfl | rfl | rfl | rfl | rfl | rfl | rfl
    all_goals
      go_enter Try.func90, Try.ntmps90
      go_wp2
      exact shapes_ends (i := w.heap.size) (Nat.le_refl _) rfl ((Ext.refl _).alloc _) ((heap_alloc_new _ _).trans (by simp [shapeOf, shapeC])) rfl rfl
  · simp only [not_or] at h
    obtain ⟨h1, h2, h3, h4, h5, h6, h7, h8, h9⟩ := h
    have t0 : (kind == 1) = false := by rw [beq_eq_false_iff_ne]; exact h1
    have t1 : (kind == 28) = false := by rw [beq_eq_false_iff_ne]; exact h2
    have t2 : (kind == 2) = false := by rw [beq_eq_false_iff_ne]; exact h3
    have t3 : (kind == 5) = false := by rw [beq_eq_false_iff_ne]; exact h4
    have t4 : (kind == 12) = false := by rw [beq_eq_false_iff_ne]; exact h5
    have t5 : (kind == 15) = false := by rw [beq_eq_false_iff_ne]; exact h6
    have t6 : (kind == 6) = false := by rw [beq_eq_false_iff_ne]; exact h7
    have t7 : (kind == 33) = false := by rw [beq_eq_false_iff_ne]; exact h8
    have t8 : (kind == 16) = false := by rw [beq_eq_false_iff_ne]; exact h9
    have hs : shapeC (shapeOf kind) = #[.int .i64 (-1), .bool false, .bool false, .bool false, .int .i64 0, .int .i64 0, .bool false, .bool false] := by
      unfold shapeOf
      rw [if_neg h1, if_neg h2, if_neg (by omega), if_neg h6, if_neg h7, if_neg h8, if_neg h9]; rfl
    have HS := Lib.hid hs
    clear h1 h2 h3 h4 h5 h6 h7 h8 h9 hs
    go_enter Try.func90, Try.ntmps90
    go_wp2
    exact shapes_ends (i := w.heap.size) (Nat.le_refl _) rfl ((Ext.refl _).alloc _) ((heap_alloc_new _ _).trans (by rw [HS.out])) rfl rfl
end Go.Proofs.Ytfnelkcllaaebaa
end
section
open Go.RowKit
namespace Go.Proofs.Ytfnelkcllaaebaa
set_option linter.unusedVariables false
set_option linter.unusedSimpArgs false
/- rdata.Get's deferred closure: its contracts in a frame that returns and in one that panics. No condition but on the two blocks. -/
theorem get_idle (p q : Addr) (w : World) :
    CallsD Try.prog 88 #[.pointer (some p), .pointer (some q)] .returning w fun e u' w' => e = .returned (.tuple #[]) ∧ u' = .returning ∧ w' = w := by
  refine callsD_of_wpS Try.func88 rfl fun c₀ cs hu => ?_
  apply wpS_seq
  apply wpS_region
  simp [wpOpsS, go_sem, recoverD, hu, Try.ntmps88, Exit.thenS]
  refine wpS_of_wp ?_
  have ht : (#[Value.pointer (some p), Value.pointer (some q)] ++
          ((Array.replicate 16 undef).setIfInBounds 3 Value.nilIface).setIfInBounds 0 Value.nilIface) = #[Value.pointer (some p), Value.pointer (some q), .nilIface, undef, undef, .nilIface, undef, undef, undef, undef, undef, undef, undef, undef, undef, undef, undef, undef] := by kernel_rfl
  rw [ht]
  go_wp2
  cases c₀
  simp_all [bodyPostS, results, Try.results88]
set_option maxRecDepth 100000 in
theorem get_catch (p q : Nat) (k : Int) (v0 v1 v2 v3 v4 x : Value) (w : World) (hp : w.heap[p]? = some (.cells #[v0, v1, v2, v3, v4] 26 (0,0))) (hq : w.heap[q]? = some (.cells #[x] 31 (0,0))) (hpq : p ≠ q) :
    CallsD Try.prog 88 #[.pointer (some ⟨p, 0, none⟩), .pointer (some ⟨q, 0, none⟩)] (.panicking [{ v := .iface 31 (.int .i64 k), recovered := false }]) w fun e u' w' =>
      e = .returned (.tuple #[]) ∧ u' = .panicking [{ v := .iface 31 (.int .i64 k), recovered := true }] ∧ w' = (((((w.setCell ⟨p, 0, none⟩ nilS).setCell ⟨p, 1, none⟩ nilS).setCell ⟨p, 2, none⟩ nilS).setCell ⟨p, 3, none⟩ nilS).setCell ⟨p, 4, none⟩ nilS).setCell ⟨q, 0, none⟩ (.int .i64 k) := by
  have d0 : w.cell? ⟨p, 0, none⟩ = some v0 := by simp [World.cell?, hp]
  have d1 : w.cell? ⟨p, 1, none⟩ = some v1 := by simp [World.cell?, hp]
  have d2 : w.cell? ⟨p, 2, none⟩ = some v2 := by simp [World.cell?, hp]
  have d3 : w.cell? ⟨p, 3, none⟩ = some v3 := by simp [World.cell?, hp]
  have d4 : w.cell? ⟨p, 4, none⟩ = some v4 := by simp [World.cell?, hp]
  have d5 : w.cell? ⟨q, 0, none⟩ = some x := by simp [World.cell?, hq]
  have f0 : ∀ i, w.frozen? ⟨p, i, none⟩ = false := by intro i; simp [World.frozen?, hp]
  have f1 : w.frozen? ⟨q, 0, none⟩ = false := by simp [World.frozen?, hq]
  have hqp : ¬ q = p := fun h => hpq h.symm
  clear hp hq
  have hta : ∀ w, (Instr.typeAssert (Value.iface 31 (Value.int IntKind.i64 k)) 20 31 true).run Try.prog w = .ok (.tuple #[.int .i64 k, .bool true]) w := fun w => by kernel_rfl
  refine callsD_of_wpS Try.func88 rfl fun c₀ cs hu => ?_
  apply wpS_seq
  apply wpS_region
  simp [wpOpsS, go_sem, recoverD, hu, Try.ntmps88, Exit.thenS]
  refine wpS_of_wp ?_
  have ht : (#[Value.pointer (some { block := p, off := 0 }), Value.pointer (some { block := q, off := 0 })] ++
          ((Array.replicate 16 undef).setIfInBounds 3 (Value.iface 31 (Value.int IntKind.i64 k))).setIfInBounds 0 (Value.iface 31 (Value.int IntKind.i64 k))) = #[Value.pointer (some { block := p, off := 0 }), Value.pointer (some { block := q, off := 0 }), (Value.iface 31 (Value.int IntKind.i64 k)), undef, undef, (Value.iface 31 (Value.int IntKind.i64 k)), undef, undef, undef, undef, undef, undef, undef, undef, undef, undef, undef, undef] := by kernel_rfl
  rw [ht]
  clear ht
  go_wp2
  cases c₀
  simp_all [bodyPostS, results, Try.results88, nilS]
end Go.Proofs.Ytfnelkcllaaebaa
end
section
/- rdata.Get. No condition but the slice's length (and that the slice reads as a list). -/
open Go.RowKit
set_option linter.unusedVariables false
set_option linter.unusedSimpArgs false
namespace Go.Proofs.Ytfnelkcllaaebaa
/-- A Data value reads as d, in memory at or behind base. -/
def DatV (w : World) (base : Nat) (v : Value) (d : Dat) : Prop :=
  ∃ v0 v1 v2 v3 v4, v = .agg #[v0, v1, v2, v3, v4] ∧ OwnL vByte 5 w base v0 d.bytes ∧ OwnL Value.string 9 w base v1 d.host ∧ OwnL Value.string 9 w base v2 d.mail ∧ OwnL vInt 3 w base v3 d.nums ∧ OwnL Value.string 9 w base v4 d.texts
theorem DatV.zero (w : World) (base : Nat) : DatV w base (.agg #[nilS, nilS, nilS, nilS, nilS]) Dat.zero :=
  ⟨_, _, _, _, _, rfl, OwnL.nil _ _ _ _, OwnL.nil _ _ _ _, OwnL.nil _ _ _ _, OwnL.nil _ _ _ _, OwnL.nil _ _ _ _⟩
theorem getData_1 {l : List UInt8} {a s k : Int} (h : a < 0 ∨ s < 0 ∨ k < 1 ∨ 65535 < k) : getData l a s k = (Dat.zero, 1) := by
  unfold getData; rw [if_pos h]
/-- The two named results' blocks, stored into. -/
def six (p q : Nat) (v0 v1 v2 v3 v4 x : Value) (W : World) : World :=
  (((((W.setCell ⟨p, 0, none⟩ v0).setCell ⟨p, 1, none⟩ v1).setCell ⟨p, 2, none⟩ v2).setCell ⟨p, 3, none⟩ v3).setCell ⟨p, 4, none⟩ v4).setCell ⟨q, 0, none⟩ x
structure Res (w W : World) (v0 v1 v2 v3 v4 x : Value) : Prop where
  ext : Ext w W
  hp : W.heap[w.heap.size]? = some (.cells #[v0, v1, v2, v3, v4] 26 (0, 0))
  hq : W.heap[w.heap.size + 1]? = some (.cells #[x] 31 (0, 0))
theorem Res.six {w W : World} {a0 a1 a2 a3 a4 y : Value} (h : Res w W a0 a1 a2 a3 a4 y) (v0 v1 v2 v3 v4 x : Value) : Res w (six w.heap.size (w.heap.size + 1) v0 v1 v2 v3 v4 x W) v0 v1 v2 v3 v4 x := by
  refine ⟨(((((h.ext.setCell ?_ _).setCell ?_ _).setCell ?_ _).setCell ?_ _).setCell ?_ _).setCell ?_ _, ?_, ?_⟩
  · exact Nat.le_refl _
  · exact Nat.le_refl _
  · exact Nat.le_refl _
  · exact Nat.le_refl _
  · exact Nat.le_refl _
  · exact Nat.le_succ _
  · simp [Ytfnelkcllaaebaa.six, World.setCell, Array.getElem?_modify, h.hp]
  · simp [Ytfnelkcllaaebaa.six, World.setCell, Array.getElem?_modify, h.hq]
theorem OwnL.six {α : Type} {V : α → Value} {e : TypeId} {w W : World} {v : Value} {l : List α} (h : OwnL V e W (w.heap.size + 2) v l) (v0 v1 v2 v3 v4 x : Value) : OwnL V e (six w.heap.size (w.heap.size + 1) v0 v1 v2 v3 v4 x W) w.heap.size v l :=
  ((((((h.set_other (by omega) _ _).set_other (by omega) _ _).set_other (by omega) _ _).set_other (by omega) _ _).set_other (by omega) _ _).set_other (by omega) _ _).mono (by omega)
theorem Res.ext_of {w W W' : World} {v0 v1 v2 v3 v4 x : Value} (h : Res w W v0 v1 v2 v3 v4 x) (hE : Ext W W') : Res w W' v0 v1 v2 v3 v4 x := ⟨h.ext.trans hE, hE.block h.hp, hE.block h.hq⟩
theorem Res.kp {w W W' : World} {v0 v1 v2 v3 v4 x : Value} {g : Nat} (h : Res w W v0 v1 v2 v3 v4 x) (hE : Kp (· = g) W W') (hg : w.heap.size + 2 ≤ g) : Res w W' v0 v1 v2 v3 v4 x := ⟨hE.one h.ext (by omega), hE.heap h.hp (by omega), hE.heap h.hq (by omega)⟩
theorem Res.dc {w W : World} {v0 v1 v2 v3 v4 x : Value} (h : Res w W v0 v1 v2 v3 v4 x) : W.cell? ⟨w.heap.size, 0, none⟩ = some v0 ∧ W.cell? ⟨w.heap.size, 1, none⟩ = some v1 ∧ W.cell? ⟨w.heap.size, 2, none⟩ = some v2 ∧
    W.cell? ⟨w.heap.size, 3, none⟩ = some v3 ∧ W.cell? ⟨w.heap.size, 4, none⟩ = some v4 ∧ W.cell? ⟨w.heap.size + 1, 0, none⟩ = some x := by
  have := h.hp
  have := h.hq
  refine ⟨?_, ?_, ?_, ?_, ?_, ?_⟩ <;> simp [World.cell?, *]
theorem Res.df {w W : World} {v0 v1 v2 v3 v4 x : Value} (h : Res w W v0 v1 v2 v3 v4 x) (i : Nat) : W.frozen? ⟨w.heap.size, i, none⟩ = false := by
  have := h.hp
  simp [World.frozen?, this]
theorem Res.dg {w W : World} {v0 v1 v2 v3 v4 x : Value} (h : Res w W v0 v1 v2 v3 v4 x) : W.frozen? ⟨w.heap.size + 1, 0, none⟩ = false := by
  have := h.hq
  simp [World.frozen?, this]
theorem Res.results {w W : World} {v0 v1 v2 v3 v4 x : Value} (h : Res w W v0 v1 v2 v3 v4 x) {tmps : Array Value} (h8 : tmps[8]?.getD undef = .pointer (some ⟨w.heap.size, 0, none⟩)) (h9 : tmps[9]?.getD undef = .pointer (some ⟨w.heap.size + 1, 0, none⟩)) :
    (results Try.f30 tmps).run Try.prog W = .ok (.tuple #[.agg #[v0, v1, v2, v3, v4], x]) W := by
  obtain ⟨d0, d1, d2, d3, d4, d5⟩ := h.dc
  simp [Go.results, Try.results30, go_sem, h8, h9, d0, d1, d2, d3, d4, d5]
theorem res_start (w : World) (k : Int) : Res w ((w.alloc (.cells #[nilS, nilS, nilS, nilS, nilS] 26)).alloc (.cells #[.int .i64 k] 31)) nilS nilS nilS nilS nilS (.int .i64 k) := by
  refine ⟨((Ext.refl _).alloc _).alloc _, ?_, ?_⟩
  · exact ((Ext.refl _).alloc _).block (heap_alloc_new w _)
  · have := heap_alloc_new (w.alloc (.cells #[nilS, nilS, nilS, nilS, nilS] 26)) (.cells #[.int .i64 k] 31)
    simpa using this
theorem Res.leave {w W : World} {v0 v1 v2 v3 v4 x : Value} (h : Res w W v0 v1 v2 v3 v4 x) {tmps : Array Value} (h8 : tmps[8]?.getD undef = .pointer (some ⟨w.heap.size, 0, none⟩)) (h9 : tmps[9]?.getD undef = .pointer (some ⟨w.heap.size + 1, 0, none⟩))
    {R : Ending → World → Prop} (hR : R (.returned (.tuple #[.agg #[v0, v1, v2, v3, v4], x])) W) : Leaves Try.prog Try.f30 tmps R [] .returning W := ⟨_, h.results h8 h9, hR⟩
/-- What Get gives. -/
def GetGives (l : List UInt8) (a s k : Int) (w : World) (e : Ending) (w' : World) : Prop :=
  Ext w w' ∧ ∃ v, e = .returned (.tuple #[v, .int .i64 (getData l a s k).2]) ∧ DatV w' w.heap.size v (getData l a s k).1
theorem Res.done {w W : World} {l : List UInt8} {a s k : Int} {v0 v1 v2 v3 v4 : Value} {d : Dat} {x : Int} (h : Res w W v0 v1 v2 v3 v4 (.int .i64 x)) (hD : DatV W w.heap.size (.agg #[v0, v1, v2, v3, v4]) d) (hM : getData l a s k = (d, x)) {tmps : Array Value} (h8 : tmps[8]?.getD undef = .pointer (some ⟨w.heap.size, 0, none⟩)) (h9 : tmps[9]?.getD undef = .pointer (some ⟨w.heap.size + 1, 0, none⟩)) :
    Leaves Try.prog Try.f30 tmps (GetGives l a s k w) [] .returning W := by
  refine h.leave h8 h9 ?_
  unfold GetGives
  rw [hM]; exact ⟨h.ext, _, rfl, hD⟩
theorem getData_3 {l : List UInt8} {a s k : Int} (h : ¬ (a < 0 ∨ s < 0 ∨ k < 1 ∨ 65535 < k)) (h2 : (l.length : Int) < a + s) : getData l a s k = (Dat.zero, 3) := by
  unfold getData; rw [if_neg h, if_pos h2]
theorem getData_r {l : List UInt8} {a s : Nat} {k : Int} (h : ¬ ((a : Int) < 0 ∨ (s : Int) < 0 ∨ k < 1 ∨ 65535 < k)) (h2 : ¬ (l.length : Int) < (a : Int) + s) : getData l a s k = match rData l (a + s) a (shapeOf k) with
    | .error k => (Dat.zero, k)
    | .ok d => (d, 0) := by
  unfold getData; rw [if_neg h, if_neg h2]; simp only [Int.toNat_natCast]; rw [show ((a : Int) + s).toNat = a + s from by omega]; cases rData l (a + s) a (shapeOf k) <;> rfl
set_option maxRecDepth 100000 in
set_option maxHeartbeats 1000000 in
theorem rdata_Get (l : List UInt8) (at_ size kind : Int) (vb : Value) (w : World) (hv : BytesV w vb l) (hl : l.length ≤ 140737488355328) :
    Calls Try.prog 30 #[vb, .int .i64 at_, .int .i64 size, .int .i64 kind] w (GetGives l at_ size kind w) := by
  have hmf : ∀ (fn : Fn) (first cap : Array Value) (w : World), (Instr.makeFunc fn first cap).run Try.prog w = .ok (.func fn first cap) w := fun _ _ _ _ => rfl
  have HV := Lib.hid hv
  obtain ⟨A, c, rfl, h1, h2⟩ := hv.form
  clear hv
  have HR := Lib.hid (res_start w)
  by_cases hb : at_ < 0 ∨ size < 0 ∨ kind < 1 ∨ 65535 < kind
  · have HM := Lib.hid (getData_1 (l := l) hb)
    go_enter_defers Try.func30, Try.ntmps30
    go_wp2
    all_goals exact (HR.out 1).done (DatV.zero _ _) HM.out rfl rfl
  · have HB := Lib.hid hb
    simp only [not_or] at hb
    obtain ⟨b1, b2, b3, b4⟩ := hb
    by_cases hb : (l.length : Int) < at_ + size
    · have HM := Lib.hid (getData_3 (l := l) HB.out hb)
      go_enter_defers Try.func30, Try.ntmps30
      go_wp2
      all_goals exact (HR.out 3).done (DatV.zero _ _) HM.out rfl rfl
    · obtain ⟨a, rfl⟩ : ∃ a : Nat, at_ = a := ⟨at_.toNat, by omega⟩
      obtain ⟨s, rfl⟩ : ∃ s : Nat, size = s := ⟨size.toNat, by omega⟩
      have HM := Lib.hid (getData_r (l := l) HB.out hb)
      go_enter_defers Try.func30, Try.ntmps30
      go_wp2_with fail
      refine (rdata_shapes kind _).mono ?_
      rintro e w1 ⟨rfl, hE1⟩
      have hR1 := Lib.hid (((HR.out 0).ext_of ((Ext.refl _).alloc (.cells #[.slice A l.length c, .int .i64 (a : Int), .int .i64 ((a : Int) + (s : Int))] 115))).ext_of hE1)
      have hb1 := Lib.hid (HV.out.ext hR1.out.ext)
      have hg1 : w.heap.size + 2 < w1.heap.size := by have := hE1.size; simp at this; omega
      have hr1 : RdrAt w1 (w.heap.size + 1 + 1) (.slice A l.length c) (a : Int) ((a + s : Nat) : Int) := by
        refine hE1.block ?_
        have := heap_alloc_new ((w.alloc (.cells #[nilS, nilS, nilS, nilS, nilS] 26)).alloc (.cells #[.int .i64 0] 31)) (.cells #[.slice A l.length c, .int .i64 (a : Int), .int .i64 ((a : Int) + (s : Int))] 115)
        simpa using this
      have hcall := rdr_data kind w w1 (w.heap.size + 1 + 1) (.slice A l.length c) l (a + s) a hR1.out.ext HV.out (by omega) hr1 (by omega) (by omega) hl
      clear hr1 hE1
      have HC := Lib.hid hcall
      clear hcall
      go_wp2_with fail
      refine (HC.out).mono ?_
      intro e w2 hP
      unfold DGives at hP
      obtain ⟨hK, hP⟩ := hP
      have hR2 := Lib.hid (hR1.out.kp hK (by omega))
      clear HC hR1
      cases hr : rData l (a + s) a (shapeOf kind) with
      | error k =>
        rw [hr] at hP HM
        simp only [] at hP HM
        subst hP
        clear hr
        go_wp2
        refine leaves_cons (f := 88) (args := #[.pointer (some ⟨w.heap.size, 0, none⟩), .pointer (some ⟨w.heap.size + 1, 0, none⟩)]) (by simp) (by simp [go_sem]) ?_
        refine (get_catch w.heap.size (w.heap.size + 1) k _ _ _ _ _ _ _ hR2.out.hp hR2.out.hq (by omega)).mono ?_
        rintro e u' w'' ⟨rfl, rfl, rfl⟩
        have hR3 := hR2.out.six nilS nilS nilS nilS nilS (.int .i64 k)
        exact hR3.done (DatV.zero _ _) HM.out rfl rfl
      | ok d =>
        rw [hr] at hP HM
        simp only [] at hP HM
        obtain ⟨v0, v1, v2, v3, v4, rfl, o0, o1, o2, o3, o4⟩ := hP
        clear hr
        have O0 := Lib.hid (o0.mono (base' := w.heap.size + 2) (by omega))
        have O1 := Lib.hid (o1.mono (base' := w.heap.size + 2) (by omega))
        have O2 := Lib.hid (o2.mono (base' := w.heap.size + 2) (by omega))
        have O3 := Lib.hid (o3.mono (base' := w.heap.size + 2) (by omega))
        have O4 := Lib.hid (o4.mono (base' := w.heap.size + 2) (by omega))
        clear o0 o1 o2 o3 o4
        obtain ⟨A0, n0, k0, rfl⟩ := O0.out.slice
        obtain ⟨A1, n1, k1, rfl⟩ := O1.out.slice
        obtain ⟨A2, n2, k2, rfl⟩ := O2.out.slice
        obtain ⟨A3, n3, k3, rfl⟩ := O3.out.slice
        obtain ⟨A4, n4, k4, rfl⟩ := O4.out.slice
        obtain ⟨c0, c1, c2, c3, c4, c5⟩ := hR2.out.dc
        have d1 := hR2.out.df
        have d2 := hR2.out.dg
        go_wp2
        refine leaves_cons (f := 88) (args := #[.pointer (some ⟨w.heap.size, 0, none⟩), .pointer (some ⟨w.heap.size + 1, 0, none⟩)]) (by simp) (by simp [go_sem]) ?_
        refine (get_idle ⟨w.heap.size, 0, none⟩ ⟨w.heap.size + 1, 0, none⟩ _).mono ?_
        rintro e u' w'' ⟨rfl, rfl, rfl⟩
        clear c0 c1 c2 c3 c4 c5 d1 d2
        have hR3 := hR2.out.six (.slice A0 n0 k0) (.slice A1 n1 k1) (.slice A2 n2 k2) (.slice A3 n3 k3) (.slice A4 n4 k4) (.int .i64 0)
        exact hR3.done (w := w) (d := d) ⟨_, _, _, _, _, rfl, O0.out.six _ _ _ _ _ _, O1.out.six _ _ _ _ _ _, O2.out.six _ _ _ _ _ _, O3.out.six _ _ _ _ _ _, O4.out.six _ _ _ _ _ _⟩ HM.out rfl rfl
end Go.Proofs.Ytfnelkcllaaebaa
end
