/- rdata.Get. No condition but the slice's length (and that the slice reads as a list). -/
import Derived.Test.YtfnelkcllaaebaaDfr
open Go.RowKit
set_option linter.unusedVariables false
set_option linter.unusedSimpArgs false
namespace Go.Proofs.Ytfnelkcllaaebaa
/-- A Data value reads as d, in memory at or behind base. -/
def DatV (w : World) (base : Nat) (v : Value) (d : Dat) : Prop :=
  ∃ v0 v1 v2 v3 v4, v = .agg #[v0, v1, v2, v3, v4] ∧ OwnL vByte 5 w base v0 d.bytes ∧ OwnL Value.string 9 w base v1 d.host ∧ OwnL Value.string 9 w base v2 d.mail ∧ OwnL vInt 3 w base v3 d.nums ∧ OwnL Value.string 9 w base v4 d.texts
theorem DatV.zero (w : World) (base : Nat) : DatV w base (.agg #[nilS, nilS, nilS, nilS, nilS]) Dat.zero :=
  ⟨_, _, _, _, _, rfl, OwnL.nil _ _ _ _, OwnL.nil _ _ _ _, OwnL.nil _ _ _ _, OwnL.nil _ _ _ _, OwnL.nil _ _ _ _⟩
theorem getData_1 {l : List UInt8} {a s k : Int} (h : a < 0 ∨ s < 0 ∨ k < 1 ∨ 65535 < k) : getData l a s k = (Dat.zero, 1) := by
  unfold getData; rw [if_pos h]
/-- The two named results' blocks, stored into. -/
def six (p q : Nat) (v0 v1 v2 v3 v4 x : Value) (W : World) : World :=
  (((((W.setCell ⟨p, 0, none⟩ v0).setCell ⟨p, 1, none⟩ v1).setCell ⟨p, 2, none⟩ v2).setCell ⟨p, 3, none⟩ v3).setCell ⟨p, 4, none⟩ v4).setCell ⟨q, 0, none⟩ x
structure Res (w W : World) (v0 v1 v2 v3 v4 x : Value) : Prop where
  ext : Ext w W
  hp : W.heap[w.heap.size]? = some (.cells #[v0, v1, v2, v3, v4] 26 (0, 0))
  hq : W.heap[w.heap.size + 1]? = some (.cells #[x] 31 (0, 0))
theorem Res.six {w W : World} {a0 a1 a2 a3 a4 y : Value} (h : Res w W a0 a1 a2 a3 a4 y) (v0 v1 v2 v3 v4 x : Value) : Res w (six w.heap.size (w.heap.size + 1) v0 v1 v2 v3 v4 x W) v0 v1 v2 v3 v4 x := by
  refine ⟨(((((h.ext.setCell ?_ _).setCell ?_ _).setCell ?_ _).setCell ?_ _).setCell ?_ _).setCell ?_ _, ?_, ?_⟩
  · exact Nat.le_refl _
  · exact Nat.le_refl _
  · exact Nat.le_refl _
  · exact Nat.le_refl _
  · exact Nat.le_refl _
  · exact Nat.le_succ _
  · simp [Ytfnelkcllaaebaa.six, World.setCell, Array.getElem?_modify, h.hp]
  · simp [Ytfnelkcllaaebaa.six, World.setCell, Array.getElem?_modify, h.hq]
theorem OwnL.six {α : Type} {V : α → Value} {e : TypeId} {w W : World} {v : Value} {l : List α} (h : OwnL V e W (w.heap.size + 2) v l) (v0 v1 v2 v3 v4 x : Value) : OwnL V e (six w.heap.size (w.heap.size + 1) v0 v1 v2 v3 v4 x W) w.heap.size v l :=
  ((((((h.set_other (by omega) _ _).set_other (by omega) _ _).set_other (by omega) _ _).set_other (by omega) _ _).set_other (by omega) _ _).set_other (by omega) _ _).mono (by omega)
theorem Res.ext_of {w W W' : World} {v0 v1 v2 v3 v4 x : Value} (h : Res w W v0 v1 v2 v3 v4 x) (hE : Ext W W') : Res w W' v0 v1 v2 v3 v4 x := ⟨h.ext.trans hE, hE.block h.hp, hE.block h.hq⟩
theorem Res.kp {w W W' : World} {v0 v1 v2 v3 v4 x : Value} {g : Nat} (h : Res w W v0 v1 v2 v3 v4 x) (hE : Kp (· = g) W W') (hg : w.heap.size + 2 ≤ g) : Res w W' v0 v1 v2 v3 v4 x := ⟨hE.one h.ext (by omega), hE.heap h.hp (by omega), hE.heap h.hq (by omega)⟩
theorem Res.dc {w W : World} {v0 v1 v2 v3 v4 x : Value} (h : Res w W v0 v1 v2 v3 v4 x) : W.cell? ⟨w.heap.size, 0, none⟩ = some v0 ∧ W.cell? ⟨w.heap.size, 1, none⟩ = some v1 ∧ W.cell? ⟨w.heap.size, 2, none⟩ = some v2 ∧
    W.cell? ⟨w.heap.size, 3, none⟩ = some v3 ∧ W.cell? ⟨w.heap.size, 4, none⟩ = some v4 ∧ W.cell? ⟨w.heap.size + 1, 0, none⟩ = some x := by
  have := h.hp
  have := h.hq
  refine ⟨?_, ?_, ?_, ?_, ?_, ?_⟩ <;> simp [World.cell?, *]
theorem Res.df {w W : World} {v0 v1 v2 v3 v4 x : Value} (h : Res w W v0 v1 v2 v3 v4 x) (i : Nat) : W.frozen? ⟨w.heap.size, i, none⟩ = false := by
  have := h.hp
  simp [World.frozen?, this]
theorem Res.dg {w W : World} {v0 v1 v2 v3 v4 x : Value} (h : Res w W v0 v1 v2 v3 v4 x) : W.frozen? ⟨w.heap.size + 1, 0, none⟩ = false := by
  have := h.hq
  simp [World.frozen?, this]
theorem Res.results {w W : World} {v0 v1 v2 v3 v4 x : Value} (h : Res w W v0 v1 v2 v3 v4 x) {tmps : Array Value} (h8 : tmps[8]?.getD undef = .pointer (some ⟨w.heap.size, 0, none⟩)) (h9 : tmps[9]?.getD undef = .pointer (some ⟨w.heap.size + 1, 0, none⟩)) :
    (results Try.f30 tmps).run Try.prog W = .ok (.tuple #[.agg #[v0, v1, v2, v3, v4], x]) W := by
  obtain ⟨d0, d1, d2, d3, d4, d5⟩ := h.dc
  simp [Go.results, Try.results30, go_sem, h8, h9, d0, d1, d2, d3, d4, d5]
theorem res_start (w : World) (k : Int) : Res w ((w.alloc (.cells #[nilS, nilS, nilS, nilS, nilS] 26)).alloc (.cells #[.int .i64 k] 31)) nilS nilS nilS nilS nilS (.int .i64 k) := by
  refine ⟨((Ext.refl _).alloc _).alloc _, ?_, ?_⟩
  · exact ((Ext.refl _).alloc _).block (heap_alloc_new w _)
  · have := heap_alloc_new (w.alloc (.cells #[nilS, nilS, nilS, nilS, nilS] 26)) (.cells #[.int .i64 k] 31)
    simpa using this
theorem Res.leave {w W : World} {v0 v1 v2 v3 v4 x : Value} (h : Res w W v0 v1 v2 v3 v4 x) {tmps : Array Value} (h8 : tmps[8]?.getD undef = .pointer (some ⟨w.heap.size, 0, none⟩)) (h9 : tmps[9]?.getD undef = .pointer (some ⟨w.heap.size + 1, 0, none⟩))
    {R : Ending → World → Prop} (hR : R (.returned (.tuple #[.agg #[v0, v1, v2, v3, v4], x])) W) : Leaves Try.prog Try.f30 tmps R [] .returning W := ⟨_, h.results h8 h9, hR⟩
/-- What Get gives. -/
def GetGives (l : List UInt8) (a s k : Int) (w : World) (e : Ending) (w' : World) : Prop :=
  Ext w w' ∧ ∃ v, e = .returned (.tuple #[v, .int .i64 (getData l a s k).2]) ∧ DatV w' w.heap.size v (getData l a s k).1
theorem Res.done {w W : World} {l : List UInt8} {a s k : Int} {v0 v1 v2 v3 v4 : Value} {d : Dat} {x : Int} (h : Res w W v0 v1 v2 v3 v4 (.int .i64 x)) (hD : DatV W w.heap.size (.agg #[v0, v1, v2, v3, v4]) d) (hM : getData l a s k = (d, x)) {tmps : Array Value} (h8 : tmps[8]?.getD undef = .pointer (some ⟨w.heap.size, 0, none⟩)) (h9 : tmps[9]?.getD undef = .pointer (some ⟨w.heap.size + 1, 0, none⟩)) :
    Leaves Try.prog Try.f30 tmps (GetGives l a s k w) [] .returning W := by
  refine h.leave h8 h9 ?_
  unfold GetGives
  rw [hM]; exact ⟨h.ext, _, rfl, hD⟩
theorem getData_3 {l : List UInt8} {a s k : Int} (h : ¬ (a < 0 ∨ s < 0 ∨ k < 1 ∨ 65535 < k)) (h2 : (l.length : Int) < a + s) : getData l a s k = (Dat.zero, 3) := by
  unfold getData; rw [if_neg h, if_pos h2]
theorem getData_r {l : List UInt8} {a s : Nat} {k : Int} (h : ¬ ((a : Int) < 0 ∨ (s : Int) < 0 ∨ k < 1 ∨ 65535 < k)) (h2 : ¬ (l.length : Int) < (a : Int) + s) : getData l a s k = match rData l (a + s) a (shapeOf k) with
    | .error k => (Dat.zero, k)
    | .ok d => (d, 0) := by
  unfold getData; rw [if_neg h, if_neg h2]; simp only [Int.toNat_natCast]; rw [show ((a : Int) + s).toNat = a + s from by omega]; cases rData l (a + s) a (shapeOf k) <;> rfl
set_option maxRecDepth 100000 in
set_option maxHeartbeats 1000000 in
theorem rdata_Get (l : List UInt8) (at_ size kind : Int) (vb : Value) (w : World) (hv : BytesV w vb l) (hl : l.length ≤ 140737488355328) :
    Calls Try.prog 30 #[vb, .int .i64 at_, .int .i64 size, .int .i64 kind] w (GetGives l at_ size kind w) := by
  have hmf : ∀ (fn : Fn) (first cap : Array Value) (w : World), (Instr.makeFunc fn first cap).run Try.prog w = .ok (.func fn first cap) w := fun _ _ _ _ => rfl
  have HV := Lib.hid hv
  obtain ⟨A, c, rfl, h1, h2⟩ := hv.form
  clear hv
  have HR := Lib.hid (res_start w)
  by_cases hb : at_ < 0 ∨ size < 0 ∨ kind < 1 ∨ 65535 < kind
  · have HM := Lib.hid (getData_1 (l := l) hb)
    go_enter_defers Try.func30, Try.ntmps30
    go_wp2
    all_goals exact (HR.out 1).done (DatV.zero _ _) HM.out rfl rfl
  · have HB := Lib.hid hb
    simp only [not_or] at hb
    obtain ⟨b1, b2, b3, b4⟩ := hb
    by_cases hb : (l.length : Int) < at_ + size
    · have HM := Lib.hid (getData_3 (l := l) HB.out hb)
      go_enter_defers Try.func30, Try.ntmps30
      go_wp2
      all_goals exact (HR.out 3).done (DatV.zero _ _) HM.out rfl rfl
    · obtain ⟨a, rfl⟩ : ∃ a : Nat, at_ = a := ⟨at_.toNat, by omega⟩
      obtain ⟨s, rfl⟩ : ∃ s : Nat, size = s := ⟨size.toNat, by omega⟩
      have HM := Lib.hid (getData_r (l := l) HB.out hb)
      go_enter_defers Try.func30, Try.ntmps30
      go_wp2_with fail
      refine (rdata_shapes kind _).mono ?_
      rintro e w1 ⟨rfl, hE1⟩
      have hR1 := Lib.hid (((HR.out 0).ext_of ((Ext.refl _).alloc (.cells #[.slice A l.length c, .int .i64 (a : Int), .int .i64 ((a : Int) + (s : Int))] 115))).ext_of hE1)
      have hb1 := Lib.hid (HV.out.ext hR1.out.ext)
      have hg1 : w.heap.size + 2 < w1.heap.size := by have := hE1.size; simp at this; omega
      have hr1 : RdrAt w1 (w.heap.size + 1 + 1) (.slice A l.length c) (a : Int) ((a + s : Nat) : Int) := by
        refine hE1.block ?_
        have := heap_alloc_new ((w.alloc (.cells #[nilS, nilS, nilS, nilS, nilS] 26)).alloc (.cells #[.int .i64 0] 31)) (.cells #[.slice A l.length c, .int .i64 (a : Int), .int .i64 ((a : Int) + (s : Int))] 115)
        simpa using this
      have hcall := rdr_data kind w w1 (w.heap.size + 1 + 1) (.slice A l.length c) l (a + s) a hR1.out.ext HV.out (by omega) hr1 (by omega) (by omega) hl
      clear hr1 hE1
      have HC := Lib.hid hcall
      clear hcall
      go_wp2_with fail
      refine (HC.out).mono ?_
      intro e w2 hP
      unfold DGives at hP
      obtain ⟨hK, hP⟩ := hP
      have hR2 := Lib.hid (hR1.out.kp hK (by omega))
      clear HC hR1
      cases hr : rData l (a + s) a (shapeOf kind) with
      | error k =>
        rw [hr] at hP HM
        simp only [] at hP HM
        subst hP
        clear hr
        go_wp2
        refine leaves_cons (f := 88) (args := #[.pointer (some ⟨w.heap.size, 0, none⟩), .pointer (some ⟨w.heap.size + 1, 0, none⟩)]) (by simp) (by simp [go_sem]) ?_
        refine (get_catch w.heap.size (w.heap.size + 1) k _ _ _ _ _ _ _ hR2.out.hp hR2.out.hq (by omega)).mono ?_
        rintro e u' w'' ⟨rfl, rfl, rfl⟩
        have hR3 := hR2.out.six nilS nilS nilS nilS nilS (.int .i64 k)
        exact hR3.done (DatV.zero _ _) HM.out rfl rfl
      | ok d =>
        rw [hr] at hP HM
        simp only [] at hP HM
        obtain ⟨v0, v1, v2, v3, v4, rfl, o0, o1, o2, o3, o4⟩ := hP
        clear hr
        have O0 := Lib.hid (o0.mono (base' := w.heap.size + 2) (by omega))
        have O1 := Lib.hid (o1.mono (base' := w.heap.size + 2) (by omega))
        have O2 := Lib.hid (o2.mono (base' := w.heap.size + 2) (by omega))
        have O3 := Lib.hid (o3.mono (base' := w.heap.size + 2) (by omega))
        have O4 := Lib.hid (o4.mono (base' := w.heap.size + 2) (by omega))
        clear o0 o1 o2 o3 o4
        obtain ⟨A0, n0, k0, rfl⟩ := O0.out.slice
        obtain ⟨A1, n1, k1, rfl⟩ := O1.out.slice
        obtain ⟨A2, n2, k2, rfl⟩ := O2.out.slice
        obtain ⟨A3, n3, k3, rfl⟩ := O3.out.slice
        obtain ⟨A4, n4, k4, rfl⟩ := O4.out.slice
        obtain ⟨c0, c1, c2, c3, c4, c5⟩ := hR2.out.dc
        have d1 := hR2.out.df
        have d2 := hR2.out.dg
        go_wp2
        refine leaves_cons (f := 88) (args := #[.pointer (some ⟨w.heap.size, 0, none⟩), .pointer (some ⟨w.heap.size + 1, 0, none⟩)]) (by simp) (by simp [go_sem]) ?_
        refine (get_idle ⟨w.heap.size, 0, none⟩ ⟨w.heap.size + 1, 0, none⟩ _).mono ?_
        rintro e u' w'' ⟨rfl, rfl, rfl⟩
        clear c0 c1 c2 c3 c4 c5 d1 d2
        have hR3 := hR2.out.six (.slice A0 n0 k0) (.slice A1 n1 k1) (.slice A2 n2 k2) (.slice A3 n3 k3) (.slice A4 n4 k4) (.int .i64 0)
        exact hR3.done (w := w) (d := d) ⟨_, _, _, _, _, rfl, O0.out.six _ _ _ _ _ _, O1.out.six _ _ _ _ _ _, O2.out.six _ _ _ _ _ _, O3.out.six _ _ _ _ _ _, O4.out.six _ _ _ _ _ _⟩ HM.out rfl rfl
end Go.Proofs.Ytfnelkcllaaebaa
