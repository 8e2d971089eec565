/- Contracts of rdata's reader: nums, texts. -/
import Derived.Test.YtfnelkcllaaebaaRdr
open Go.RowKit
set_option linter.unusedVariables false
set_option linter.unusedSimpArgs false
namespace Go.Proofs.Ytfnelkcllaaebaa
/-- A shape's cells. -/
def shapeC (s : Shape) : Array Value := #[.int .i64 s.bytes, .bool s.host, .bool s.mail, .bool s.short, .int .i64 s.nums, .int .i64 s.size, .bool s.texts, .bool s.first]
theorem RdrAt.ext {w w' : World} {g : Nat} {vb : Value} {a e : Int} (h : RdrAt w g vb a e) (hE : Ext w w') : RdrAt w' g vb a e := hE.block h
theorem RdrAt.grown {w w' : World} {row : Option Nat} {g : Nat} {vb : Value} {a e : Int} (h : RdrAt w g vb a e) (hg : w.grownBy w' row) (hne : some g ≠ row) : RdrAt w' g vb a e :=
  (hg.block g (Array.getElem?_eq_some_iff.1 h).1 hne).trans h
theorem blk_grown {w w' : World} {row : Option Nat} {g : Nat} {o : Obj} (h : w.heap[g]? = some o) (hg : w.grownBy w' row) (hne : some g ≠ row) : w'.heap[g]? = some o :=
  (hg.block g (Array.getElem?_eq_some_iff.1 h).1 hne).trans h
theorem ne_row {base g : Nat} {row : Option Nat} (hg : g < base) (h : ∀ k, row = some k → base ≤ k) : some g ≠ row := fun e => by have := h g e.symm; omega
/-- The loop of nums. -/
def NumsRel (w0 w : World) (g : Nat) (vb : Value) (l : List UInt8) (e_ : Nat) (s : Shape) (r : Except Int (List Int × Nat)) (s5 s8 : Value) (wr : World) : Prop :=
  ∃ k a out, s8 = .int .i64 (k : Nat) ∧ k ≤ s.nums ∧ OwnL vInt 3 wr (w.heap.size + 1) s5 out ∧ out.length = k ∧ Kp (· = g) w wr ∧ RdrAt wr g vb (a : Nat) e_ ∧ a ≤ e_ ∧
    wr.heap[w.heap.size]? = some (.cells (shapeC s) 118 (0, 0)) ∧ rNums l e_ s.size (s.nums - k) a out = r
theorem rNums_step_err {l : List UInt8} {e size k a : Nat} {out : List Int} {x : Int} (h : rNum l e a size = .error x) : rNums l e size (k + 1) a out = .error x := by rw [rNums, h]
theorem rNums_step_ok {l : List UInt8} {e size k a a' : Nat} {out : List Int} {x : Int} (h : rNum l e a size = .ok (x, a')) : rNums l e size (k + 1) a out = rNums l e size k a' (out ++ [x]) := by rw [rNums, h]
set_option maxHeartbeats 1000000 in
/-- reader.nums. -/
theorem rdr_nums (w0 w : World) (g : Nat) (vb : Value) (l : List UInt8) (e_ a : Nat) (s : Shape) (hE : Ext w0 w) (hb : BytesV w0 vb l) (hg : w0.heap.size ≤ g) (hr : RdrAt w g vb a e_) (hae : a ≤ e_) (hel : e_ ≤ l.length)
    (h0 : s.nums ≤ 5) (h1 : 0 < s.nums → 1 ≤ s.size) (h7 : s.size ≤ 7) :
    Calls Try.prog 137 #[.pointer (some ⟨g, 0, none⟩), .agg (shapeC s)] w (RGives w g vb e_ (IntsR (w.heap.size + 1)) (rNums l e_ s.size s.nums a [])) := by
  have hglt : g < w.heap.size := (Array.getElem?_eq_some_iff.1 hr).1
  have HE := Lib.hid hE
  have HB := Lib.hid hb
  have HR := Lib.hid hr
  generalize hres : rNums l e_ s.size s.nums a [] = r
  have HRES := Lib.hid hres
  clear hE hb hr hres
  have hS : Hid (shapeC s = #[.int .i64 s.bytes, .bool s.host, .bool s.mail, .bool s.short, .int .i64 s.nums, .int .i64 s.size, .bool s.texts, .bool s.first]) := rfl
  rw [hS.out]
  go_enter Try.func137, Try.ntmps137
  go_wp2
  go_loopw [5, 8] (fun s5 s8 wr => NumsRel w0 w g vb l e_ s r s5 s8 wr) (fun _ s8 _ => s.nums - (intOf s8).toNat)
  case atStart =>
    refine ⟨0, a, [], rfl, by omega, OwnL.nil _ _ _ _, rfl, (Kp.refl _ _).alloc _, RdrAt.ext HR.out ((Ext.refl _).alloc _), hae, ?_, HRES.out⟩
    rw [heap_alloc_new]; rfl
  case round =>
    obtain ⟨k, a, out, rfl, hk, HO, hol, hK, hRd, hae, hbx, hres⟩ := hrel
    have HRES := Lib.hid hres
    have c4 : wr.cell? ⟨w.heap.size, 4, none⟩ = some (.int .i64 s.nums) := by simp [World.cell?, hbx, shapeC]
    have c5 : wr.cell? ⟨w.heap.size, 5, none⟩ = some (.int .i64 s.size) := by simp [World.cell?, hbx, shapeC]
    have HK := Lib.hid hK
    have HRd := Lib.hid hRd
    have HBX := Lib.hid hbx
    clear hres hK hRd hbx
    by_cases hlt : k < s.nums
    · have hC := rdr_num w0 wr g vb l e_ a s.size (HK.out.one HE.out hg) HB.out hg HRd.out hae hel (h1 (by omega)) h7
      obtain ⟨m, hm⟩ : ∃ m, s.nums - k = m + 1 := ⟨s.nums - k - 1, by omega⟩
      rw [hm] at HRES
      cases hn : rNum l e_ a s.size with
      | error x =>
        rw [hn] at hC
        have HM := Lib.hid (rNums_step_err (k := m) (out := out) hn)
        have HC := Lib.hid hC
        clear hn hC hm
        go_wp2_with (go_at_call 158; refine HC.out.mono ?_; rintro e w' ⟨hK1, rfl⟩)
        rw [← HRES.out, HM.out]
        exact ⟨rfl, HK.out.trans hK1, rfl⟩
      | ok p =>
        obtain ⟨x, a'⟩ := p
        rw [hn] at hC
        have HM := Lib.hid (rNums_step_ok (k := m) (out := out) hn)
        have HC := Lib.hid hC
        have Hm := Lib.hid hm
        clear hn hC hm
        have hout6 : (out.length + 1) * 8 ≤ 140737488355328 := by omega
        have HO6 := Lib.hid hout6
        clear hout6
        go_wp2_with (first
          | (go_at_call 158; refine HC.out.mono ?_; rintro e w' ⟨hK1, ⟨v1, rfl, hv1⟩, hRd1, hae1⟩; subst hv1)
          | (at_builtin; go_must (refine wpList_app1 vInt (w.heap.size + 1) rfl (.tmp 10) (.tmp 15) 24 3 (.int .i64 0) 8 rfl Try.underlying24 (by kernel_rfl) rfl (by decide) _ out x rfl rfl rfl (OwnL.kp HO hK1 (by omega)) (by have := HK.out.size; have := hK1.size; have := (Array.getElem?_eq_some_iff.1 HBX.out).1; omega) HO6.out ?_); intro v1 w1 hO1 hg1))
        go_roundw
        case rel =>
          have hb1 : ∀ i, (u5 : Value).ownBlock = some i → w.heap.size + 1 ≤ i := HO.base_le
          have e1 : s.nums - (k + 1) = m := by have := Hm.out; omega
          refine ⟨k + 1, a', out ++ [x], by go_num, by omega, hO1, by simp [hol], (HK.out.trans hK1).grown hg1 (fun i hi => .inr (by have := hb1 i hi; omega)), hRd1.grown hg1 (ne_row (by omega) hb1), hae1, blk_grown (hK1.heap HBX.out (by omega)) hg1 (ne_row (by omega) hb1), ?_⟩
          rw [e1, ← HM.out]
          exact HRES.out
        case measure => simp [intOf]; omega
    · have e0 : s.nums - k = 0 := by omega
      rw [e0] at HRES
      go_wp2
      go_ret
      rw [← HRES.out]
      exact ⟨HK.out, ⟨_, rfl, HO⟩, HRd.out, hae⟩
end Go.Proofs.Ytfnelkcllaaebaa
