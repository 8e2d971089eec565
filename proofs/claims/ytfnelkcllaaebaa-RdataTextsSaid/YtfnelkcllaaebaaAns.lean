/- Contract of law04.answers. No condition. -/
import Derived.Test.YtfnelkcllaaebaaDSame
open Go.RowKit
set_option linter.unusedVariables false
set_option linter.unusedSimpArgs false
namespace Go.Proofs.Ytfnelkcllaaebaa
theorem getData_ans : getData [1, 2, 3, 4] 0 4 1 = (⟨[1, 2, 3, 4], [], [], [], []⟩, 0) := by
  unfold getData
  rw [if_neg (by decide), if_neg (by decide)]
  rw [show rData [1, 2, 3, 4] ((0 : Int) + 4).toNat (0 : Int).toNat (shapeOf 1) = .ok ⟨[1, 2, 3, 4], [], [], [], []⟩ from by rfl]
theorem ans_blk (w : World) : BytesV (w.alloc (.cells #[.int .u8 1, .int .u8 2, .int .u8 3, .int .u8 4] 5)) (.slice (some ⟨w.heap.size, 0, none⟩) 4 4) [1, 2, 3, 4] := by
  refine Blk.fl (V := vByte) (E := 5) ?_ 4 4 rfl (by decide) (by decide)
  refine ⟨_, 0, 0, heap_alloc_new w _, by simp, ?_⟩
  intro j x hx
  match j, hx with
  | 0, hx => simp at hx; subst hx; rfl
  | 1, hx => simp at hx; subst hx; rfl
  | 2, hx => simp at hx; subst hx; rfl
  | 3, hx => simp at hx; subst hx; rfl
  | j + 4, hx => simp at hx
/-- law04.answers. -/
theorem law04_answers (w : World) : Calls Try.prog 25 #[] w fun e w' => e = .returned (.bool true) ∧ Ext w w' := by
  have HC := Lib.hid (rdata_Get [1, 2, 3, 4] 0 4 1 _ _ (ans_blk w) (by decide))
  have hE0 : Ext w (w.alloc (.cells #[.int .u8 1, .int .u8 2, .int .u8 3, .int .u8 4] 5)) := (Ext.refl w).alloc _
  have HE0 := Lib.hid hE0
  clear hE0
  have hB := Lib.hid (ans_blk w)
  go_enter Try.func25, Try.ntmps25
  go_wp2_with fail
  refine (HC.out).mono ?_
  rintro e w1 ⟨hE, v, he, hD⟩
  rw [getData_ans] at he hD
  subst he
  obtain ⟨x0, x1, x2, x3, x4, rfl, h0, h1, h2, h3, h4⟩ := hD
  obtain ⟨b, o, c, rfl, _, _, hc⟩ := h0.fl.opens (by decide)
  have c3 : w1.cell? ⟨b, o + 3, none⟩ = some (.int .u8 4) := hc 3 4 rfl
  obtain ⟨A1, n1, c1, rfl⟩ := h1.slice
  obtain ⟨A2, n2, c2, rfl⟩ := h2.slice
  obtain ⟨A3, n3, c3', rfl⟩ := h3.slice
  obtain ⟨A4, n4, c4, rfl⟩ := h4.slice
  have HE := Lib.hid (HE0.out.trans hE)
  clear h0 h1 h2 h3 h4 hc hE
  simp only [List.length_cons, List.length_nil, Nat.zero_add, Nat.reduceAdd, vByte] at *
  have c4' := ((Ext.refl w1).alloc (.cells #[.slice (some ⟨b, o, none⟩) 4 c, .slice A1 n1 c1, .slice A2 n2 c2, .slice A3 n3 c3', .slice A4 n4 c4] 26)).cell c3
  go_wp2
  go_ret
  exact ⟨rfl, HE.out.alloc _⟩
end Go.Proofs.Ytfnelkcllaaebaa
