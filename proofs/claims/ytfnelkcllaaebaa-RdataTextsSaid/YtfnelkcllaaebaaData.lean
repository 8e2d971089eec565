/- Contract of rdata's reader.data, shape by shape. -/
import Derived.Test.YtfnelkcllaaebaaRdr3
open Go.RowKit
set_option linter.unusedVariables false
set_option linter.unusedSimpArgs false
namespace Go.Proofs.Ytfnelkcllaaebaa
theorem OwnL.slice {α : Type} {V : α → Value} {e : TypeId} {w : World} {base : Nat} {v : Value} {l : List α} (h : OwnL V e w base v l) : ∃ A n c, v = .slice A n c := by
  obtain ⟨A, c, h1, _⟩ := h.fl.form; exact ⟨A, _, c, h1⟩
/-- What reader.data gives. -/
def DGives (w : World) (g : Nat) (r : Except Int Dat) (e : Ending) (w' : World) : Prop :=
  Kp (· = g) w w' ∧ match r with
    | .ok d => ∃ v0 v1 v2 v3 v4, e = .returned (.agg #[v0, v1, v2, v3, v4]) ∧ OwnL vByte 5 w' w.heap.size v0 d.bytes ∧ OwnL Value.string 9 w' w.heap.size v1 d.host ∧ OwnL Value.string 9 w' w.heap.size v2 d.mail ∧ OwnL vInt 3 w' w.heap.size v3 d.nums ∧ OwnL Value.string 9 w' w.heap.size v4 d.texts
    | .error k => e = .panicked [{ v := .iface 31 (.int .i64 k), recovered := false }]
/-- What holds while data runs. -/
structure DInv (w : World) (g : Nat) (vb : Value) (e_ : Nat) (sc : Array Value) (d : Dat) (v0 v1 v2 v3 v4 : Value) (W : World) (a : Nat) : Prop where
  kp : Kp (· = g) w W
  glt : g < w.heap.size
  shape : W.heap[w.heap.size]? = some (.cells sc 118 (0, 0))
  data : W.heap[w.heap.size + 1]? = some (.cells #[v0, v1, v2, v3, v4] 26 (0, 0))
  rdr : RdrAt W g vb a e_
  le : a ≤ e_
  o0 : OwnL vByte 5 W (w.heap.size + 2) v0 d.bytes
  o1 : OwnL Value.string 9 W (w.heap.size + 2) v1 d.host
  o2 : OwnL Value.string 9 W (w.heap.size + 2) v2 d.mail
  o3 : OwnL vInt 3 W (w.heap.size + 2) v3 d.nums
  o4 : OwnL Value.string 9 W (w.heap.size + 2) v4 d.texts
section
variable {w W W' : World} {g e_ a a' : Nat} {vb v0 v1 v2 v3 v4 v : Value} {sc : Array Value} {d : Dat}
theorem DInv.call (h : DInv w g vb e_ sc d v0 v1 v2 v3 v4 W a) (hk : Kp (· = g) W W') (hr : RdrAt W' g vb a' e_) (ha : a' ≤ e_) : DInv w g vb e_ sc d v0 v1 v2 v3 v4 W' a' := by
  have hg : g < w.heap.size + 2 := by have := h.glt; omega
  exact ⟨h.kp.trans hk, h.glt, hk.heap h.shape (by have := h.glt; omega), hk.heap h.data (by have := h.glt; omega), hr, ha, h.o0.kp hk hg, h.o1.kp hk hg, h.o2.kp hk hg, h.o3.kp hk hg, h.o4.kp hk hg⟩
theorem DInv.drewN (h : DInv w g vb e_ sc d v0 v1 v2 v3 v4 W a) (n : Nat) : DInv w g vb e_ sc d v0 v1 v2 v3 v4 (W.drewN n) a := ⟨h.kp.drewN n, h.glt, h.shape, h.data, h.rdr, h.le, h.o0, h.o1, h.o2, h.o3, h.o4⟩
theorem DInv.size (h : DInv w g vb e_ sc d v0 v1 v2 v3 v4 W a) : w.heap.size + 1 < W.heap.size := (Array.getElem?_eq_some_iff.1 h.data).1
theorem DInv.setk (h : DInv w g vb e_ sc d v0 v1 v2 v3 v4 W a) (i : Nat) (v : Value) : Kp (· = g) w (W.setCell ⟨w.heap.size + 1, i, none⟩ v) := h.kp.setCell (p := ⟨w.heap.size + 1, i, none⟩) (.inr (by show w.heap.size ≤ w.heap.size + 1; omega)) v
theorem DInv.seth (h : DInv w g vb e_ sc d v0 v1 v2 v3 v4 W a) (i : Nat) (v : Value) : (W.setCell ⟨w.heap.size + 1, i, none⟩ v).heap[w.heap.size + 1]? = some (.cells ((#[v0, v1, v2, v3, v4] : Array Value).setIfInBounds i v) 26 (0, 0)) := by
  simp [World.setCell, Array.getElem?_modify, h.data]
theorem DInv.seto (h : DInv w g vb e_ sc d v0 v1 v2 v3 v4 W a) (i : Nat) (v : Value) {k : Nat} (hk : k ≠ w.heap.size + 1) {o : Obj} (ho : W.heap[k]? = some o) : (W.setCell ⟨w.heap.size + 1, i, none⟩ v).heap[k]? = some o :=
  (Below.heap_setCell W ⟨w.heap.size + 1, i, none⟩ v k hk).trans ho
theorem OwnL.setD {α : Type} {V : α → Value} {e : TypeId} {l : List α} {x : Value} (h : OwnL V e W (w.heap.size + 2) x l) (i : Nat) (v : Value) : OwnL V e (W.setCell ⟨w.heap.size + 1, i, none⟩ v) (w.heap.size + 2) x l := h.set_other (by omega) i v
theorem DInv.set0 (h : DInv w g vb e_ sc d v0 v1 v2 v3 v4 W a) {x : List UInt8} {b : Nat} (hx : OwnL vByte 5 W b v x) (hb : w.heap.size + 2 ≤ b) : DInv w g vb e_ sc { d with bytes := x } v v1 v2 v3 v4 (W.setCell ⟨w.heap.size + 1, 0, none⟩ v) a :=
  ⟨h.setk 0 v, h.glt, h.seto 0 v (by omega) h.shape, h.seth 0 v, h.seto 0 v (by have := h.glt; omega) h.rdr, h.le, (hx.mono (hb)).setD 0 v, h.o1.setD 0 v, h.o2.setD 0 v, h.o3.setD 0 v, h.o4.setD 0 v⟩
theorem DInv.set1 (h : DInv w g vb e_ sc d v0 v1 v2 v3 v4 W a) {x : List Str} {b : Nat} (hx : OwnL Value.string 9 W b v x) (hb : w.heap.size + 2 ≤ b) : DInv w g vb e_ sc { d with host := x } v0 v v2 v3 v4 (W.setCell ⟨w.heap.size + 1, 1, none⟩ v) a :=
  ⟨h.setk 1 v, h.glt, h.seto 1 v (by omega) h.shape, h.seth 1 v, h.seto 1 v (by have := h.glt; omega) h.rdr, h.le, h.o0.setD 1 v, (hx.mono (hb)).setD 1 v, h.o2.setD 1 v, h.o3.setD 1 v, h.o4.setD 1 v⟩
theorem DInv.set2 (h : DInv w g vb e_ sc d v0 v1 v2 v3 v4 W a) {x : List Str} {b : Nat} (hx : OwnL Value.string 9 W b v x) (hb : w.heap.size + 2 ≤ b) : DInv w g vb e_ sc { d with mail := x } v0 v1 v v3 v4 (W.setCell ⟨w.heap.size + 1, 2, none⟩ v) a :=
  ⟨h.setk 2 v, h.glt, h.seto 2 v (by omega) h.shape, h.seth 2 v, h.seto 2 v (by have := h.glt; omega) h.rdr, h.le, h.o0.setD 2 v, h.o1.setD 2 v, (hx.mono (hb)).setD 2 v, h.o3.setD 2 v, h.o4.setD 2 v⟩
theorem DInv.set3 (h : DInv w g vb e_ sc d v0 v1 v2 v3 v4 W a) {x : List Int} {b : Nat} (hx : OwnL vInt 3 W b v x) (hb : w.heap.size + 2 ≤ b) : DInv w g vb e_ sc { d with nums := x } v0 v1 v2 v v4 (W.setCell ⟨w.heap.size + 1, 3, none⟩ v) a :=
  ⟨h.setk 3 v, h.glt, h.seto 3 v (by omega) h.shape, h.seth 3 v, h.seto 3 v (by have := h.glt; omega) h.rdr, h.le, h.o0.setD 3 v, h.o1.setD 3 v, h.o2.setD 3 v, (hx.mono (hb)).setD 3 v, h.o4.setD 3 v⟩
theorem DInv.set4 (h : DInv w g vb e_ sc d v0 v1 v2 v3 v4 W a) {x : List Str} {b : Nat} (hx : OwnL Value.string 9 W b v x) (hb : w.heap.size + 2 ≤ b) : DInv w g vb e_ sc { d with texts := x } v0 v1 v2 v3 v (W.setCell ⟨w.heap.size + 1, 4, none⟩ v) a :=
  ⟨h.setk 4 v, h.glt, h.seto 4 v (by omega) h.shape, h.seth 4 v, h.seto 4 v (by have := h.glt; omega) h.rdr, h.le, h.o0.setD 4 v, h.o1.setD 4 v, h.o2.setD 4 v, h.o3.setD 4 v, (hx.mono (hb)).setD 4 v⟩
theorem DInv.dc (h : DInv w g vb e_ sc d v0 v1 v2 v3 v4 W a) : W.cell? ⟨w.heap.size + 1, 0, none⟩ = some v0 ∧ W.cell? ⟨w.heap.size + 1, 1, none⟩ = some v1 ∧ W.cell? ⟨w.heap.size + 1, 2, none⟩ = some v2 ∧
    W.cell? ⟨w.heap.size + 1, 3, none⟩ = some v3 ∧ W.cell? ⟨w.heap.size + 1, 4, none⟩ = some v4 := by
  have := h.data
  refine ⟨?_, ?_, ?_, ?_, ?_⟩ <;> simp [World.cell?, this]
theorem DInv.df (h : DInv w g vb e_ sc d v0 v1 v2 v3 v4 W a) (i : Nat) : W.frozen? ⟨w.heap.size + 1, i, none⟩ = false := by
  have := h.data
  simp [World.frozen?, this]
theorem DInv.shc (h : DInv w g vb e_ sc d v0 v1 v2 v3 v4 W a) (i : Nat) : W.cell? ⟨w.heap.size, i, none⟩ = sc[i]? := by
  have := h.shape
  simp [World.cell?, this]
theorem DInv.ext (h : DInv w g vb e_ sc d v0 v1 v2 v3 v4 W a) {w0 : World} (hE : Ext w0 w) (hg : w0.heap.size ≤ g) : Ext w0 W := h.kp.one hE hg
end
abbrev nilS : Value := .slice none 0 0
theorem dinv_start {w : World} {g : Nat} {vb : Value} {a e_ : Nat} (hr : RdrAt w g vb a e_) (hae : a ≤ e_) (sc : Array Value) :
    DInv w g vb e_ sc Dat.zero nilS nilS nilS nilS nilS ((w.alloc (.cells sc 118)).alloc (.cells #[nilS, nilS, nilS, nilS, nilS] 26)) a := by
  have hglt : g < w.heap.size := (Array.getElem?_eq_some_iff.1 hr).1
  refine ⟨((Kp.refl _ _).alloc _).alloc _, hglt, ?_, ?_, (RdrAt.ext hr ((Ext.refl _).alloc _)).ext ((Ext.refl _).alloc _), hae, OwnL.nil _ _ _ _, OwnL.nil _ _ _ _, OwnL.nil _ _ _ _, OwnL.nil _ _ _ _, OwnL.nil _ _ _ _⟩
  · exact ((Ext.refl _).alloc _).block (heap_alloc_new w _)
  · have := heap_alloc_new (w.alloc (.cells sc 118)) (.cells #[nilS, nilS, nilS, nilS, nilS] 26)
    simpa using this
/-- What is known behind the last store. -/
theorem dinv_end {w W : World} {g e_ a : Nat} {vb v0 v1 v2 v3 v4 : Value} {sc : Array Value} {d d' : Dat} (h : DInv w g vb e_ sc d v0 v1 v2 v3 v4 W a) (hd : d = d') : DGives w g (.ok d') (.returned (.agg #[v0, v1, v2, v3, v4])) W := by
  subst hd
  exact ⟨h.kp, v0, v1, v2, v3, v4, rfl, h.o0.mono (by omega), h.o1.mono (by omega), h.o2.mono (by omega), h.o3.mono (by omega), h.o4.mono (by omega)⟩
theorem dinv_self {w W : World} {g e_ a : Nat} {vb v0 v1 v2 v3 v4 : Value} {sc : Array Value} {d : Dat} (h : DInv w g vb e_ sc d v0 v1 v2 v3 v4 W a) :
    DInv w g vb e_ sc d v0 v1 v2 v3 v4 (((((W.setCell ⟨w.heap.size + 1, 0, none⟩ v0).setCell ⟨w.heap.size + 1, 1, none⟩ v1).setCell ⟨w.heap.size + 1, 2, none⟩ v2).setCell ⟨w.heap.size + 1, 3, none⟩ v3).setCell ⟨w.heap.size + 1, 4, none⟩ v4) a :=
  ((((h.set0 h.o0 (Nat.le_refl _)).set1 (h.o1.setD 0 v0) (Nat.le_refl _)).set2 ((h.o2.setD 0 v0).setD 1 v1) (Nat.le_refl _)).set3 (((h.o3.setD 0 v0).setD 1 v1).setD 2 v2) (Nat.le_refl _)).set4 ((((h.o4.setD 0 v0).setD 1 v1).setD 2 v2).setD 3 v3) (Nat.le_refl _)
theorem dinv_ret {w W : World} {g e_ a : Nat} {vb v0 v1 v2 v3 v4 : Value} {sc : Array Value} {d : Dat} (h : DInv w g vb e_ sc d v0 v1 v2 v3 v4 W a) {tmps : Array Value} (ht : tmps.getD 4 undef = .pointer (some ⟨w.heap.size + 1, 0, none⟩)) :
    (results Try.f89 tmps).run Try.prog W = .ok (.agg #[v0, v1, v2, v3, v4]) W := by
  obtain ⟨d0, d1, d2, d3, d4⟩ := h.dc
  have ht' : tmps[4]?.getD undef = .pointer (some ⟨w.heap.size + 1, 0, none⟩) := by rw [← ht]; simp
  simp [results, Try.results89, go_sem, ht', d0, d1, d2, d3, d4]
set_option maxRecDepth 100000 in
set_option maxHeartbeats 4000000 in
theorem data_bytes (n : Nat) (hn : n = 4 ∨ n = 16) (w0 w : World) (g : Nat) (vb : Value) (l : List UInt8) (e_ a : Nat) (hE : Ext w0 w) (hb : BytesV w0 vb l) (hg : w0.heap.size ≤ g) (hr : RdrAt w g vb a e_) (hae : a ≤ e_) (hel : e_ ≤ l.length) (hl : l.length ≤ 140737488355328) :
    Calls Try.prog 89 #[.pointer (some ⟨g, 0, none⟩), .agg (shapeC ⟨n, false, false, false, 0, 0, false, false⟩)] w (DGives w g (rData l e_ a ⟨n, false, false, false, 0, 0, false, false⟩)) := by
  have hglt : g < w.heap.size := (Array.getElem?_eq_some_iff.1 hr).1
  have HE := Lib.hid hE
  have HB := Lib.hid hb
  have HM := Lib.hid (rData_bytes l e_ a n (by omega))
  have HI0 := Lib.hid (dinv_start hr hae (#[.int .i64 n, .bool false, .bool false, .bool false, .int .i64 0, .int .i64 0, .bool false, .bool false] : Array Value))
  clear hE hb hr
  unfold shapeC
  simp only []
  have hn0 : (0 : Int) < (n : Int) := by omega
  have hn1 : (n : Int) ≤ 16 := by omega
  clear hn
  go_enter Try.func89, Try.ntmps89

  go_wp2_with fail
  refine (rdr_bytes w0 _ g vb l e_ a n (HI0.out.ext HE.out hg) HB.out hg HI0.out.rdr HI0.out.le hel (by unfold maxI; omega) hl).mono ?_
  intro e w1 hP
  have hm := HM.out
  clear HM
  rcases hr1 : rBytes l e_ a n with k | ⟨x1, a1⟩ <;> rw [hr1] at hP hm
  · obtain ⟨hK1, rfl⟩ := hP
    rw [hm]
    exact ⟨rfl, HI0.out.kp.trans hK1, rfl⟩
  · obtain ⟨hK1, ⟨v1, rfl, hV1⟩, hR1, ha1⟩ := hP
    simp only [] at hm
    have HM := Lib.hid hm
    clear hm
    obtain ⟨A1, n1, c1, rfl⟩ := hV1.slice
    have hI1 := HI0.out.call hK1 hR1 ha1
    have hs0 := hI1.shc
    have hd := hI1.dc
    have hf := hI1.df
    have HI1 := Lib.hid (hI1.set0 hV1 (by have := HI0.out.size; omega))
    clear hI1 hV1 hr1
    go_wp2_with fail
    refine (rdr_nums w0 _ g vb l e_ a1 ⟨n, false, false, false, 0, 0, false, false⟩ (HI1.out.ext HE.out hg) HB.out hg HI1.out.rdr HI1.out.le hel (by first | omega | simp) (by first | omega | simp) (by first | omega | simp)).mono ?_
    intro e w2 hP
    simp only [rNums] at hP
    obtain ⟨hK2, ⟨v2, rfl, hV2⟩, hR2, ha2⟩ := hP
    have hA2 : a1 = a1 := rfl
    obtain ⟨A2, n2, c2, rfl⟩ := hV2.slice
    have hI2 := HI1.out.call hK2 hR2 ha2
    clear hs0 hd hf
    have hs0 := hI2.shc
    have hd := hI2.dc
    have hf := hI2.df
    have HI2 := Lib.hid (hI2.set3 hV2 (by have := HI1.out.size; omega))
    clear hI2 hV2
    go_wp2
    clear hs0 hd hf
    generalize w2.setCell ⟨w.heap.size + 1, 3, none⟩ (.slice A2 n2 c2) = W at *
    have hr1 := HI2.out.rdr.c1
    have hr2 := HI2.out.rdr.c2
    have hd := HI2.out.dc
    have hf := HI2.out.df
    have hs0 := HI2.out.shc
    have hgn : ¬ g = w.heap.size + 1 := by omega
    by_cases hlt : a1 < e_
    · have hlt' : (a1 : Int) < (e_ : Int) := by omega
      have HM2 := Lib.hid (HM.out.trans (if_pos hlt))
      clear hlt
      go_quiet (fail)
      go_wp2
      rw [HM2.out]
      exact ⟨rfl, HI2.out.kp.drewN _, rfl⟩
    · have hlt' : ¬ (a1 : Int) < (e_ : Int) := by omega
      have HM2 := Lib.hid (HM.out.trans (if_neg hlt))
      clear hlt
      go_quiet (fail)
      go_wp2
      have hI3 := dinv_self (HI2.out.drewN nq)
      rw [HM2.out]
      exact bodyPost_ret (dinv_ret hI3 rfl) rfl (dinv_end hI3 rfl)
set_option maxRecDepth 100000 in
set_option maxHeartbeats 4000000 in
theorem data_texts (w0 w : World) (g : Nat) (vb : Value) (l : List UInt8) (e_ a : Nat) (hE : Ext w0 w) (hb : BytesV w0 vb l) (hg : w0.heap.size ≤ g) (hr : RdrAt w g vb a e_) (hae : a ≤ e_) (hel : e_ ≤ l.length) (hl : l.length ≤ 140737488355328) :
    Calls Try.prog 89 #[.pointer (some ⟨g, 0, none⟩), .agg (shapeC ⟨0, false, false, false, 0, 0, true, false⟩)] w (DGives w g (rData l e_ a ⟨0, false, false, false, 0, 0, true, false⟩)) := by
  have hglt : g < w.heap.size := (Array.getElem?_eq_some_iff.1 hr).1
  have HE := Lib.hid hE
  have HB := Lib.hid hb
  have HM := Lib.hid (rData_texts l e_ a)
  have HI0 := Lib.hid (dinv_start hr hae (#[.int .i64 0, .bool false, .bool false, .bool false, .int .i64 0, .int .i64 0, .bool true, .bool false] : Array Value))
  clear hE hb hr
  unfold shapeC
  simp only []
  go_enter Try.func89, Try.ntmps89

  go_wp2_with fail
  refine (rdr_texts w0 _ g vb l e_ a (HI0.out.ext HE.out hg) HB.out hg HI0.out.rdr HI0.out.le hel hl).mono ?_
  intro e w1 hP
  have hm := HM.out
  clear HM
  rcases hr1 : rTexts l e_ a [] with k | ⟨x1, a1⟩ <;> rw [hr1] at hP hm
  · obtain ⟨hK1, rfl⟩ := hP
    rw [hm]
    exact ⟨rfl, HI0.out.kp.trans hK1, rfl⟩
  · obtain ⟨hK1, ⟨v1, rfl, hV1⟩, hR1, ha1⟩ := hP
    simp only [] at hm
    have HM := Lib.hid hm
    clear hm
    obtain ⟨A1, n1, c1, rfl⟩ := hV1.slice
    have hI1 := HI0.out.call hK1 hR1 ha1
    have hs0 := hI1.shc
    have hd := hI1.dc
    have hf := hI1.df
    have HI1 := Lib.hid (hI1.set4 hV1 (by have := HI0.out.size; omega))
    clear hI1 hV1 hr1
    go_wp2_with fail
    refine (rdr_nums w0 _ g vb l e_ a1 ⟨0, false, false, false, 0, 0, true, false⟩ (HI1.out.ext HE.out hg) HB.out hg HI1.out.rdr HI1.out.le hel (by first | omega | simp) (by first | omega | simp) (by first | omega | simp)).mono ?_
    intro e w2 hP
    simp only [rNums] at hP
    obtain ⟨hK2, ⟨v2, rfl, hV2⟩, hR2, ha2⟩ := hP
    have hA2 : a1 = a1 := rfl
    obtain ⟨A2, n2, c2, rfl⟩ := hV2.slice
    have hI2 := HI1.out.call hK2 hR2 ha2
    clear hs0 hd hf
    have hs0 := hI2.shc
    have hd := hI2.dc
    have hf := hI2.df
    have HI2 := Lib.hid (hI2.set3 hV2 (by have := HI1.out.size; omega))
    clear hI2 hV2
    go_wp2
    clear hs0 hd hf
    generalize w2.setCell ⟨w.heap.size + 1, 3, none⟩ (.slice A2 n2 c2) = W at *
    have hr1 := HI2.out.rdr.c1
    have hr2 := HI2.out.rdr.c2
    have hd := HI2.out.dc
    have hf := HI2.out.df
    have hs0 := HI2.out.shc
    have hgn : ¬ g = w.heap.size + 1 := by omega
    by_cases hlt : a1 < e_
    · have hlt' : (a1 : Int) < (e_ : Int) := by omega
      have HM2 := Lib.hid (HM.out.trans (if_pos hlt))
      clear hlt
      go_quiet (fail)
      go_wp2
      rw [HM2.out]
      exact ⟨rfl, HI2.out.kp.drewN _, rfl⟩
    · have hlt' : ¬ (a1 : Int) < (e_ : Int) := by omega
      have HM2 := Lib.hid (HM.out.trans (if_neg hlt))
      clear hlt
      go_quiet (fail)
      go_wp2
      have hI3 := dinv_self (HI2.out.drewN nq)
      rw [HM2.out]
      exact bodyPost_ret (dinv_ret hI3 rfl) rfl (dinv_end hI3 rfl)
set_option maxRecDepth 100000 in
set_option maxHeartbeats 4000000 in
theorem data_host (w0 w : World) (g : Nat) (vb : Value) (l : List UInt8) (e_ a : Nat) (hE : Ext w0 w) (hb : BytesV w0 vb l) (hg : w0.heap.size ≤ g) (hr : RdrAt w g vb a e_) (hae : a ≤ e_) (hel : e_ ≤ l.length) (hl : l.length ≤ 140737488355328) :
    Calls Try.prog 89 #[.pointer (some ⟨g, 0, none⟩), .agg (shapeC ⟨0, true, false, true, 0, 0, false, false⟩)] w (DGives w g (rData l e_ a ⟨0, true, false, true, 0, 0, false, false⟩)) := by
  have hglt : g < w.heap.size := (Array.getElem?_eq_some_iff.1 hr).1
  have HE := Lib.hid hE
  have HB := Lib.hid hb
  have HM := Lib.hid (rData_host l e_ a)
  have HI0 := Lib.hid (dinv_start hr hae (#[.int .i64 0, .bool true, .bool false, .bool true, .int .i64 0, .int .i64 0, .bool false, .bool false] : Array Value))
  clear hE hb hr
  unfold shapeC
  simp only []
  go_enter Try.func89, Try.ntmps89

  go_wp2_with fail
  refine (rdr_name w0 _ g vb l e_ a (HI0.out.ext HE.out hg) HB.out hg HI0.out.rdr HI0.out.le hel).mono ?_
  intro e w1 hP
  have hm := HM.out
  clear HM
  rcases hr1 : rName l e_ a with k | ⟨x1, a1⟩ <;> rw [hr1] at hP hm
  · obtain ⟨hK1, rfl⟩ := hP
    rw [hm]
    exact ⟨rfl, HI0.out.kp.trans hK1, rfl⟩
  · obtain ⟨hK1, ⟨v1, rfl, hV1⟩, hR1, ha1⟩ := hP
    simp only [] at hm
    have HM := Lib.hid hm
    clear hm
    obtain ⟨A1, n1, c1, rfl⟩ := hV1.slice
    have hI1 := HI0.out.call hK1 hR1 ha1
    have hs0 := hI1.shc
    have hd := hI1.dc
    have hf := hI1.df
    have HI1 := Lib.hid (hI1.set1 hV1 (by have := HI0.out.size; omega))
    clear hI1 hV1 hr1
    go_wp2_with fail
    refine (rdr_nums w0 _ g vb l e_ a1 ⟨0, true, false, true, 0, 0, false, false⟩ (HI1.out.ext HE.out hg) HB.out hg HI1.out.rdr HI1.out.le hel (by first | omega | simp) (by first | omega | simp) (by first | omega | simp)).mono ?_
    intro e w2 hP
    simp only [rNums] at hP
    obtain ⟨hK2, ⟨v2, rfl, hV2⟩, hR2, ha2⟩ := hP
    have hA2 : a1 = a1 := rfl
    obtain ⟨A2, n2, c2, rfl⟩ := hV2.slice
    have hI2 := HI1.out.call hK2 hR2 ha2
    clear hs0 hd hf
    have hs0 := hI2.shc
    have hd := hI2.dc
    have hf := hI2.df
    have HI2 := Lib.hid (hI2.set3 hV2 (by have := HI1.out.size; omega))
    clear hI2 hV2
    go_wp2
    clear hs0 hd hf
    generalize w2.setCell ⟨w.heap.size + 1, 3, none⟩ (.slice A2 n2 c2) = W at *
    have hr1 := HI2.out.rdr.c1
    have hr2 := HI2.out.rdr.c2
    have hd := HI2.out.dc
    have hf := HI2.out.df
    have hs0 := HI2.out.shc
    have hgn : ¬ g = w.heap.size + 1 := by omega
    by_cases hlt : a1 < e_
    · have hlt' : (a1 : Int) < (e_ : Int) := by omega
      have HM2 := Lib.hid (HM.out.trans (if_pos hlt))
      clear hlt
      go_quiet (fail)
      go_wp2
      rw [HM2.out]
      exact ⟨rfl, HI2.out.kp.drewN _, rfl⟩
    · have hlt' : ¬ (a1 : Int) < (e_ : Int) := by omega
      have HM2 := Lib.hid (HM.out.trans (if_neg hlt))
      clear hlt
      go_quiet (fail)
      go_wp2
      have hI3 := dinv_self (HI2.out.drewN nq)
      rw [HM2.out]
      exact bodyPost_ret (dinv_ret hI3 rfl) rfl (dinv_end hI3 rfl)
set_option maxRecDepth 100000 in
set_option maxHeartbeats 4000000 in
theorem data_mx (w0 w : World) (g : Nat) (vb : Value) (l : List UInt8) (e_ a : Nat) (hE : Ext w0 w) (hb : BytesV w0 vb l) (hg : w0.heap.size ≤ g) (hr : RdrAt w g vb a e_) (hae : a ≤ e_) (hel : e_ ≤ l.length) (hl : l.length ≤ 140737488355328) :
    Calls Try.prog 89 #[.pointer (some ⟨g, 0, none⟩), .agg (shapeC ⟨0, true, false, true, 1, 2, false, true⟩)] w (DGives w g (rData l e_ a ⟨0, true, false, true, 1, 2, false, true⟩)) := by
  have hglt : g < w.heap.size := (Array.getElem?_eq_some_iff.1 hr).1
  have HE := Lib.hid hE
  have HB := Lib.hid hb
  have HM := Lib.hid (rData_first l e_ a 1 2 true)
  have HI0 := Lib.hid (dinv_start hr hae (#[.int .i64 0, .bool true, .bool false, .bool true, .int .i64 1, .int .i64 2, .bool false, .bool true] : Array Value))
  clear hE hb hr
  unfold shapeC
  simp only []
  go_enter Try.func89, Try.ntmps89

  go_wp2_with fail
  refine (rdr_nums w0 _ g vb l e_ a ⟨0, true, false, true, 1, 2, false, true⟩ (HI0.out.ext HE.out hg) HB.out hg HI0.out.rdr HI0.out.le hel (by first | omega | simp) (by first | omega | simp) (by first | omega | simp)).mono ?_
  intro e w1 hP
  have hm := HM.out
  clear HM
  rcases hr1 : rNums l e_ 2 1 a [] with k | ⟨x1, a1⟩ <;> rw [hr1] at hP hm
  · obtain ⟨hK1, rfl⟩ := hP
    rw [hm]
    exact ⟨rfl, HI0.out.kp.trans hK1, rfl⟩
  · obtain ⟨hK1, ⟨v1, rfl, hV1⟩, hR1, ha1⟩ := hP
    simp only [] at hm
    have HM := Lib.hid hm
    clear hm
    obtain ⟨A1, n1, c1, rfl⟩ := hV1.slice
    have hI1 := HI0.out.call hK1 hR1 ha1
    have hs0 := hI1.shc
    have hd := hI1.dc
    have hf := hI1.df
    have HI1 := Lib.hid (hI1.set3 hV1 (by have := HI0.out.size; omega))
    clear hI1 hV1 hr1
    go_wp2_with fail
    refine (rdr_name w0 _ g vb l e_ a1 (HI1.out.ext HE.out hg) HB.out hg HI1.out.rdr HI1.out.le hel).mono ?_
    intro e w2 hP
    have hm := HM.out
    clear HM
    rcases hr2 : rName l e_ a1 with k | ⟨x2, a2⟩ <;> rw [hr2] at hP hm
    · obtain ⟨hK2, rfl⟩ := hP
      rw [hm]
      exact ⟨rfl, HI1.out.kp.trans hK2, rfl⟩
    · obtain ⟨hK2, ⟨v2, rfl, hV2⟩, hR2, ha2⟩ := hP
      simp only [] at hm
      have HM := Lib.hid hm
      clear hm
      obtain ⟨A2, n2, c2, rfl⟩ := hV2.slice
      have hI2 := HI1.out.call hK2 hR2 ha2
      clear hs0 hd hf
      have hs0 := hI2.shc
      have hd := hI2.dc
      have hf := hI2.df
      have HI2 := Lib.hid (hI2.set1 hV2 (by have := HI1.out.size; omega))
      clear hI2 hV2 hr2
      go_wp2
      clear hs0 hd hf
      generalize w2.setCell ⟨w.heap.size + 1, 1, none⟩ (.slice A2 n2 c2) = W at *
      have hr1 := HI2.out.rdr.c1
      have hr2 := HI2.out.rdr.c2
      have hd := HI2.out.dc
      have hf := HI2.out.df
      have hs0 := HI2.out.shc
      have hgn : ¬ g = w.heap.size + 1 := by omega
      by_cases hlt : a2 < e_
      · have hlt' : (a2 : Int) < (e_ : Int) := by omega
        have HM2 := Lib.hid (HM.out.trans (if_pos hlt))
        clear hlt
        go_quiet (fail)
        go_wp2
        rw [HM2.out]
        exact ⟨rfl, HI2.out.kp.drewN _, rfl⟩
      · have hlt' : ¬ (a2 : Int) < (e_ : Int) := by omega
        have HM2 := Lib.hid (HM.out.trans (if_neg hlt))
        clear hlt
        go_quiet (fail)
        go_wp2
        have hI3 := dinv_self (HI2.out.drewN nq)
        rw [HM2.out]
        exact bodyPost_ret (dinv_ret hI3 rfl) rfl (dinv_end hI3 rfl)
set_option maxRecDepth 100000 in
set_option maxHeartbeats 4000000 in
theorem data_srv (w0 w : World) (g : Nat) (vb : Value) (l : List UInt8) (e_ a : Nat) (hE : Ext w0 w) (hb : BytesV w0 vb l) (hg : w0.heap.size ≤ g) (hr : RdrAt w g vb a e_) (hae : a ≤ e_) (hel : e_ ≤ l.length) (hl : l.length ≤ 140737488355328) :
    Calls Try.prog 89 #[.pointer (some ⟨g, 0, none⟩), .agg (shapeC ⟨0, true, false, false, 3, 2, false, true⟩)] w (DGives w g (rData l e_ a ⟨0, true, false, false, 3, 2, false, true⟩)) := by
  have hglt : g < w.heap.size := (Array.getElem?_eq_some_iff.1 hr).1
  have HE := Lib.hid hE
  have HB := Lib.hid hb
  have HM := Lib.hid (rData_first l e_ a 3 2 false)
  have HI0 := Lib.hid (dinv_start hr hae (#[.int .i64 0, .bool true, .bool false, .bool false, .int .i64 3, .int .i64 2, .bool false, .bool true] : Array Value))
  clear hE hb hr
  unfold shapeC
  simp only []
  go_enter Try.func89, Try.ntmps89

  go_wp2_with fail
  refine (rdr_nums w0 _ g vb l e_ a ⟨0, true, false, false, 3, 2, false, true⟩ (HI0.out.ext HE.out hg) HB.out hg HI0.out.rdr HI0.out.le hel (by first | omega | simp) (by first | omega | simp) (by first | omega | simp)).mono ?_
  intro e w1 hP
  have hm := HM.out
  clear HM
  rcases hr1 : rNums l e_ 2 3 a [] with k | ⟨x1, a1⟩ <;> rw [hr1] at hP hm
  · obtain ⟨hK1, rfl⟩ := hP
    rw [hm]
    exact ⟨rfl, HI0.out.kp.trans hK1, rfl⟩
  · obtain ⟨hK1, ⟨v1, rfl, hV1⟩, hR1, ha1⟩ := hP
    simp only [] at hm
    have HM := Lib.hid hm
    clear hm
    obtain ⟨A1, n1, c1, rfl⟩ := hV1.slice
    have hI1 := HI0.out.call hK1 hR1 ha1
    have hs0 := hI1.shc
    have hd := hI1.dc
    have hf := hI1.df
    have HI1 := Lib.hid (hI1.set3 hV1 (by have := HI0.out.size; omega))
    clear hI1 hV1 hr1
    go_wp2_with fail
    refine (rdr_name w0 _ g vb l e_ a1 (HI1.out.ext HE.out hg) HB.out hg HI1.out.rdr HI1.out.le hel).mono ?_
    intro e w2 hP
    have hm := HM.out
    clear HM
    rcases hr2 : rName l e_ a1 with k | ⟨x2, a2⟩ <;> rw [hr2] at hP hm
    · obtain ⟨hK2, rfl⟩ := hP
      rw [hm]
      exact ⟨rfl, HI1.out.kp.trans hK2, rfl⟩
    · obtain ⟨hK2, ⟨v2, rfl, hV2⟩, hR2, ha2⟩ := hP
      simp only [] at hm
      have HM := Lib.hid hm
      clear hm
      obtain ⟨A2, n2, c2, rfl⟩ := hV2.slice
      have hI2 := HI1.out.call hK2 hR2 ha2
      clear hs0 hd hf
      have hs0 := hI2.shc
      have hd := hI2.dc
      have hf := hI2.df
      have HI2 := Lib.hid (hI2.set1 hV2 (by have := HI1.out.size; omega))
      clear hI2 hV2 hr2
      go_wp2
      clear hs0 hd hf
      generalize w2.setCell ⟨w.heap.size + 1, 1, none⟩ (.slice A2 n2 c2) = W at *
      have hr1 := HI2.out.rdr.c1
      have hr2 := HI2.out.rdr.c2
      have hd := HI2.out.dc
      have hf := HI2.out.df
      have hs0 := HI2.out.shc
      have hgn : ¬ g = w.heap.size + 1 := by omega
      by_cases hlt : a2 < e_
      · have hlt' : (a2 : Int) < (e_ : Int) := by omega
        have HM2 := Lib.hid (HM.out.trans (if_pos hlt))
        clear hlt
        go_quiet (fail)
        go_wp2
        rw [HM2.out]
        exact ⟨rfl, HI2.out.kp.drewN _, rfl⟩
      · have hlt' : ¬ (a2 : Int) < (e_ : Int) := by omega
        have HM2 := Lib.hid (HM.out.trans (if_neg hlt))
        clear hlt
        go_quiet (fail)
        go_wp2
        have hI3 := dinv_self (HI2.out.drewN nq)
        rw [HM2.out]
        exact bodyPost_ret (dinv_ret hI3 rfl) rfl (dinv_end hI3 rfl)
set_option maxRecDepth 100000 in
set_option maxHeartbeats 4000000 in
theorem data_soa (w0 w : World) (g : Nat) (vb : Value) (l : List UInt8) (e_ a : Nat) (hE : Ext w0 w) (hb : BytesV w0 vb l) (hg : w0.heap.size ≤ g) (hr : RdrAt w g vb a e_) (hae : a ≤ e_) (hel : e_ ≤ l.length) (hl : l.length ≤ 140737488355328) :
    Calls Try.prog 89 #[.pointer (some ⟨g, 0, none⟩), .agg (shapeC ⟨0, true, true, true, 5, 4, false, false⟩)] w (DGives w g (rData l e_ a ⟨0, true, true, true, 5, 4, false, false⟩)) := by
  have hglt : g < w.heap.size := (Array.getElem?_eq_some_iff.1 hr).1
  have HE := Lib.hid hE
  have HB := Lib.hid hb
  have HM := Lib.hid (rData_soa l e_ a)
  have HI0 := Lib.hid (dinv_start hr hae (#[.int .i64 0, .bool true, .bool true, .bool true, .int .i64 5, .int .i64 4, .bool false, .bool false] : Array Value))
  clear hE hb hr
  unfold shapeC
  simp only []
  go_enter Try.func89, Try.ntmps89

  go_wp2_with fail
  refine (rdr_name w0 _ g vb l e_ a (HI0.out.ext HE.out hg) HB.out hg HI0.out.rdr HI0.out.le hel).mono ?_
  intro e w1 hP
  have hm := HM.out
  clear HM
  rcases hr1 : rName l e_ a with k | ⟨x1, a1⟩ <;> rw [hr1] at hP hm
  · obtain ⟨hK1, rfl⟩ := hP
    rw [hm]
    exact ⟨rfl, HI0.out.kp.trans hK1, rfl⟩
  · obtain ⟨hK1, ⟨v1, rfl, hV1⟩, hR1, ha1⟩ := hP
    simp only [] at hm
    have HM := Lib.hid hm
    clear hm
    obtain ⟨A1, n1, c1, rfl⟩ := hV1.slice
    have hI1 := HI0.out.call hK1 hR1 ha1
    have hs0 := hI1.shc
    have hd := hI1.dc
    have hf := hI1.df
    have HI1 := Lib.hid (hI1.set1 hV1 (by have := HI0.out.size; omega))
    clear hI1 hV1 hr1
    go_wp2_with fail
    refine (rdr_name w0 _ g vb l e_ a1 (HI1.out.ext HE.out hg) HB.out hg HI1.out.rdr HI1.out.le hel).mono ?_
    intro e w2 hP
    have hm := HM.out
    clear HM
    rcases hr2 : rName l e_ a1 with k | ⟨x2, a2⟩ <;> rw [hr2] at hP hm
    · obtain ⟨hK2, rfl⟩ := hP
      rw [hm]
      exact ⟨rfl, HI1.out.kp.trans hK2, rfl⟩
    · obtain ⟨hK2, ⟨v2, rfl, hV2⟩, hR2, ha2⟩ := hP
      simp only [] at hm
      have HM := Lib.hid hm
      clear hm
      obtain ⟨A2, n2, c2, rfl⟩ := hV2.slice
      have hI2 := HI1.out.call hK2 hR2 ha2
      clear hs0 hd hf
      have hs0 := hI2.shc
      have hd := hI2.dc
      have hf := hI2.df
      have HI2 := Lib.hid (hI2.set2 hV2 (by have := HI1.out.size; omega))
      clear hI2 hV2 hr2
      go_wp2_with fail
      refine (rdr_nums w0 _ g vb l e_ a2 ⟨0, true, true, true, 5, 4, false, false⟩ (HI2.out.ext HE.out hg) HB.out hg HI2.out.rdr HI2.out.le hel (by first | omega | simp) (by first | omega | simp) (by first | omega | simp)).mono ?_
      intro e w3 hP
      have hm := HM.out
      clear HM
      rcases hr3 : rNums l e_ 4 5 a2 [] with k | ⟨x3, a3⟩ <;> rw [hr3] at hP hm
      · obtain ⟨hK3, rfl⟩ := hP
        rw [hm]
        exact ⟨rfl, HI2.out.kp.trans hK3, rfl⟩
      · obtain ⟨hK3, ⟨v3, rfl, hV3⟩, hR3, ha3⟩ := hP
        simp only [] at hm
        have HM := Lib.hid hm
        clear hm
        obtain ⟨A3, n3, c3, rfl⟩ := hV3.slice
        have hI3 := HI2.out.call hK3 hR3 ha3
        clear hs0 hd hf
        have hs0 := hI3.shc
        have hd := hI3.dc
        have hf := hI3.df
        have HI3 := Lib.hid (hI3.set3 hV3 (by have := HI2.out.size; omega))
        clear hI3 hV3 hr3
        go_wp2
        clear hs0 hd hf
        generalize w3.setCell ⟨w.heap.size + 1, 3, none⟩ (.slice A3 n3 c3) = W at *
        have hr1 := HI3.out.rdr.c1
        have hr2 := HI3.out.rdr.c2
        have hd := HI3.out.dc
        have hf := HI3.out.df
        have hs0 := HI3.out.shc
        have hgn : ¬ g = w.heap.size + 1 := by omega
        by_cases hlt : a3 < e_
        · have hlt' : (a3 : Int) < (e_ : Int) := by omega
          have HM2 := Lib.hid (HM.out.trans (if_pos hlt))
          clear hlt
          go_quiet (fail)
          go_wp2
          rw [HM2.out]
          exact ⟨rfl, HI3.out.kp.drewN _, rfl⟩
        · have hlt' : ¬ (a3 : Int) < (e_ : Int) := by omega
          have HM2 := Lib.hid (HM.out.trans (if_neg hlt))
          clear hlt
          go_quiet (fail)
          go_wp2
          have hI3 := dinv_self (HI3.out.drewN nq)
          rw [HM2.out]
          exact bodyPost_ret (dinv_ret hI3 rfl) rfl (dinv_end hI3 rfl)
end Go.Proofs.Ytfnelkcllaaebaa
