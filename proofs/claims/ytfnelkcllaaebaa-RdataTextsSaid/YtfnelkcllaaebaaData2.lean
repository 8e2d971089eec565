/- Contract of rdata's reader.data: the last shape, and all of them; shapes. -/
import Derived.Test.YtfnelkcllaaebaaData
open Go.RowKit
set_option linter.unusedVariables false
set_option linter.unusedSimpArgs false
namespace Go.Proofs.Ytfnelkcllaaebaa
set_option maxRecDepth 100000 in
set_option maxHeartbeats 400000 in
theorem data_rest (w0 w : World) (g : Nat) (vb : Value) (l : List UInt8) (e_ a : Nat) (hE : Ext w0 w) (hb : BytesV w0 vb l) (hg : w0.heap.size ≤ g) (hr : RdrAt w g vb a e_) (hae : a ≤ e_) (hel : e_ ≤ l.length) (hl : l.length ≤ 140737488355328) :
    Calls Try.prog 89 #[.pointer (some ⟨g, 0, none⟩), .agg (shapeC ⟨-1, false, false, false, 0, 0, false, false⟩)] w (DGives w g (rData l e_ a ⟨-1, false, false, false, 0, 0, false, false⟩)) := by
  have hglt : g < w.heap.size := (Array.getElem?_eq_some_iff.1 hr).1
  have HE := Lib.hid hE
  have HB := Lib.hid hb
  have HM := Lib.hid (rData_rest l e_ a)
  have HI0 := Lib.hid (dinv_start hr hae (#[.int .i64 (-1), .bool false, .bool false, .bool false, .int .i64 0, .int .i64 0, .bool false, .bool false] : Array Value))
  clear hE hb hr
  unfold shapeC
  simp only []
  go_enter Try.func89, Try.ntmps89
  go_wp2
  generalize (w.alloc (.cells #[.int .i64 (-1), .bool false, .bool false, .bool false, .int .i64 0, .int .i64 0, .bool false, .bool false] 118)).alloc (.cells #[nilS, nilS, nilS, nilS, nilS] 26) = W0 at *
  have hI := HI0.out.drewN 1
  rw [← World.drew_is_drewN] at hI
  have c1 : W0.drew.cell? ⟨g, 1, none⟩ = some (.int .i64 a) := hI.rdr.c1
  have c2 : W0.drew.cell? ⟨g, 2, none⟩ = some (.int .i64 e_) := hI.rdr.c2
  have hC := rdr_bytes w0 W0.drew g vb l e_ a (e_ - a) (hI.ext HE.out hg) HB.out hg hI.rdr hae hel (by unfold maxI; omega) hl
  have hrb := rBytes_ok (l := l) (show a + (e_ - a) ≤ e_ by omega)
  rw [hrb] at hC
  have hm := HM.out
  rw [hrb] at hm
  simp only [] at hm
  clear HM
  rw [show (((e_ - a : Nat)) : Int) = (e_ : Int) - (a : Int) from by omega] at hC
  rw [show a + (e_ - a) = e_ from by omega] at hC hm
  generalize (l.take e_).drop a = x at *
  rw [if_neg (Nat.lt_irrefl _)] at hm
  have HM := Lib.hid hm
  have HC := Lib.hid hC
  have HI := Lib.hid hI
  clear hm hC hI hrb HI0
  have hwr : IntKind.i64.wrap ((e_ : Int) - (a : Int)) = (e_ : Int) - (a : Int) := wraps_i64 _ (by omega) (by omega)
  go_region_with (first | (go_at_call 135; refine HC.out.mono ?_; rintro e w1 ⟨hK1, ⟨v1, rfl, hV1⟩, hR1, ha1⟩; obtain ⟨A1, n1, k1, rfl⟩ := hV1.slice; have hI1 := HI.out.call hK1 hR1 ha1; have hs0 := hI1.shc; have hd := hI1.dc; have hf := hI1.df; have HI1 := Lib.hid (hI1.set0 hV1 (by have := HI.out.size; omega)); clear hI1 hV1))
  all_goals
    clear c1 c2
    go_wp2_with fail
    refine (rdr_nums w0 _ g vb l e_ e_ ⟨-1, false, false, false, 0, 0, false, false⟩ (HI1.out.ext HE.out hg) HB.out hg HI1.out.rdr HI1.out.le hel (by simp) (by simp) (by simp)).mono ?_
    intro e w2 hP
    simp only [rNums] at hP
    obtain ⟨hK2, ⟨v2, rfl, hV2⟩, hR2, ha2⟩ := hP
    obtain ⟨A2, n2, c2, rfl⟩ := hV2.slice
    have hI2 := HI1.out.call hK2 hR2 ha2
    clear hs0 hd hf
    have hs0 := hI2.shc
    have hd := hI2.dc
    have hf := hI2.df
    have HI2 := Lib.hid (hI2.set3 hV2 (by have := HI1.out.size; omega))
    clear hI2 hV2
    go_wp2
    clear hs0 hd hf
    generalize w2.setCell ⟨w.heap.size + 1, 3, none⟩ (.slice A2 n2 c2) = W at *
    have hr1 := HI2.out.rdr.c1
    have hr2 := HI2.out.rdr.c2
    have hd := HI2.out.dc
    have hf := HI2.out.df
    have hs0 := HI2.out.shc
    have hgn : ¬ g = w.heap.size + 1 := by omega
    have hlt' : ¬ (e_ : Int) < (e_ : Int) := by omega
    go_quiet (fail)
    go_wp2
    have hI3 := dinv_self (HI2.out.drewN nq)
    rw [HM.out]
    exact bodyPost_ret (dinv_ret hI3 rfl) rfl (dinv_end hI3 rfl)
/-- reader.data, at every type's shape. -/
theorem rdr_data (kind : Int) (w0 w : World) (g : Nat) (vb : Value) (l : List UInt8) (e_ a : Nat) (hE : Ext w0 w) (hb : BytesV w0 vb l) (hg : w0.heap.size ≤ g) (hr : RdrAt w g vb a e_) (hae : a ≤ e_) (hel : e_ ≤ l.length) (hl : l.length ≤ 140737488355328) :
    Calls Try.prog 89 #[.pointer (some ⟨g, 0, none⟩), .agg (shapeC (shapeOf kind))] w (DGives w g (rData l e_ a (shapeOf kind))) := by
  unfold shapeOf
  split
  · exact data_bytes 4 (.inl rfl) w0 w g vb l e_ a hE hb hg hr hae hel hl
  · split
    · exact data_bytes 16 (.inr rfl) w0 w g vb l e_ a hE hb hg hr hae hel hl
    · split
      · exact data_host w0 w g vb l e_ a hE hb hg hr hae hel hl
      · split
        · exact data_mx w0 w g vb l e_ a hE hb hg hr hae hel hl
        · split
          · exact data_soa w0 w g vb l e_ a hE hb hg hr hae hel hl
          · split
            · exact data_srv w0 w g vb l e_ a hE hb hg hr hae hel hl
            · split
              · exact data_texts w0 w g vb l e_ a hE hb hg hr hae hel hl
              · exact data_rest w0 w g vb l e_ a hE hb hg hr hae hel hl
end Go.Proofs.Ytfnelkcllaaebaa
