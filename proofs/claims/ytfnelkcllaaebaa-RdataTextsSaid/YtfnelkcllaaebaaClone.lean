/- Contracts of slices.Clone, bytes.Clone. No condition but that the slice reads as a list, and the room. -/
import Derived.Test.YtfnelkcllaaebaaCut
open Go.RowKit
set_option linter.unusedVariables false
set_option linter.unusedSimpArgs false
namespace Go.Proofs.Ytfnelkcllaaebaa
/-- A new slice that reads as l. -/
def NewL {α : Type} (V : α → Value) (e : TypeId) (w : World) (l : List α) (en : Ending) (w' : World) : Prop := ∃ v, en = .returned v ∧ OwnL V e w' w.heap.size v l ∧ Ext w w'
theorem newL_mk {α : Type} {V : α → Value} {e : TypeId} {w w1 : World} {l : List α} {v : Value} {en : Ending} (he : en = .returned v) (h : OwnL V e w1 w.heap.size v l) (hE : Ext w w1) : NewL V e w l en w1 := ⟨v, he, h, hE⟩

/-- clone_B. -/
theorem clone_B (v : Value) (l : List UInt8) (w : World) (hv : Fl vByte w v l) (hl : l.length * 1 ≤ 140737488355328) :
    Calls Try.prog 123 #[v] w (NewL vByte 5 w l) := by
  have HV := Lib.hid hv
  obtain ⟨A, c, rfl, h1, h2⟩ := hv.form
  clear hv
  have qT : ∀ (w : World) (a : Option Addr) (n c n' c' : Nat), (binOp .eql 22 (.slice a n c) (.slice none n' c')).run Try.prog w = .ok (.bool a.isNone) w := fun w a n c n' c' => Lib.run_eql_slice_nil w _ _ a n c n' c' Try.underlying22
  cases A with
  | none =>
    have h0 : l = [] := by
      rcases Nat.eq_zero_or_pos l.length with h | h
      · exact List.eq_nil_of_length_eq_zero h
      · obtain ⟨b, o, c', e, _⟩ := HV.out.opens h
        cases e
    subst h0
    go_enter Try.func123, Try.ntmps123
    go_wp2
    go_ret
    exact newL_mk rfl (OwnL.nil _ _ _ _) (Ext.refl _)
  | some ad =>
    have HO := Lib.hid (OwnL.lit0 vByte 5 w w.heap.size (Nat.le_refl _))
    have HY := Lib.hid (HV.out.ext ((Ext.refl w).alloc (.cells #[] 5)))
    have HX := Lib.hid ((Ext.refl w).alloc (.cells #[] 5))
    have hl' : (0 + l.length) * 1 ≤ 140737488355328 := by omega
    have HL := Lib.hid hl'
    clear hl' hl
    go_enter Try.func123, Try.ntmps123
    go_wp2_with (at_builtin; refine wpList_appRow vByte w.heap.size rfl (.tmp 5) (.tmp 6) 22 5 (.int .u8 0) 1 rfl Try.underlying22 (by kernel_rfl) rfl (by decide) _ [] l _ rfl rfl (fun _ => rfl) HO.out HY.out (by simp) HL.out ?_; intro v1 w1 hO1 hg1)
    go_ret
    exact newL_mk rfl hO1 (grown_trans_ext HX.out HO.out (Nat.le_refl _) hg1)

/-- clone_S. -/
theorem clone_S (v : Value) (l : List ByteArray) (w : World) (hv : Fl Value.string w v l) (hl : l.length * 16 ≤ 140737488355328) :
    Calls Try.prog 114 #[v] w (NewL Value.string 9 w l) := by
  have HV := Lib.hid hv
  obtain ⟨A, c, rfl, h1, h2⟩ := hv.form
  clear hv
  have qT : ∀ (w : World) (a : Option Addr) (n c n' c' : Nat), (binOp .eql 23 (.slice a n c) (.slice none n' c')).run Try.prog w = .ok (.bool a.isNone) w := fun w a n c n' c' => Lib.run_eql_slice_nil w _ _ a n c n' c' Try.underlying23
  cases A with
  | none =>
    have h0 : l = [] := by
      rcases Nat.eq_zero_or_pos l.length with h | h
      · exact List.eq_nil_of_length_eq_zero h
      · obtain ⟨b, o, c', e, _⟩ := HV.out.opens h
        cases e
    subst h0
    go_enter Try.func114, Try.ntmps114
    go_wp2
    go_ret
    exact newL_mk rfl (OwnL.nil _ _ _ _) (Ext.refl _)
  | some ad =>
    have HO := Lib.hid (OwnL.lit0 Value.string 9 w w.heap.size (Nat.le_refl _))
    have HY := Lib.hid (HV.out.ext ((Ext.refl w).alloc (.cells #[] 9)))
    have HX := Lib.hid ((Ext.refl w).alloc (.cells #[] 9))
    have hl' : (0 + l.length) * 16 ≤ 140737488355328 := by omega
    have HL := Lib.hid hl'
    clear hl' hl
    go_enter Try.func114, Try.ntmps114
    go_wp2_with (at_builtin; refine wpList_appRow Value.string w.heap.size rfl (.tmp 5) (.tmp 6) 23 9 (.string ⟨#[]⟩) 16 rfl Try.underlying23 (by kernel_rfl) rfl (by decide) _ [] l _ rfl rfl (fun _ => rfl) HO.out HY.out (by simp) HL.out ?_; intro v1 w1 hO1 hg1)
    go_ret
    exact newL_mk rfl hO1 (grown_trans_ext HX.out HO.out (Nat.le_refl _) hg1)

/-- clone_I. -/
theorem clone_I (v : Value) (l : List Int) (w : World) (hv : Fl vInt w v l) (hl : l.length * 8 ≤ 140737488355328) :
    Calls Try.prog 149 #[v] w (NewL vInt 3 w l) := by
  have HV := Lib.hid hv
  obtain ⟨A, c, rfl, h1, h2⟩ := hv.form
  clear hv
  have qT : ∀ (w : World) (a : Option Addr) (n c n' c' : Nat), (binOp .eql 24 (.slice a n c) (.slice none n' c')).run Try.prog w = .ok (.bool a.isNone) w := fun w a n c n' c' => Lib.run_eql_slice_nil w _ _ a n c n' c' Try.underlying24
  cases A with
  | none =>
    have h0 : l = [] := by
      rcases Nat.eq_zero_or_pos l.length with h | h
      · exact List.eq_nil_of_length_eq_zero h
      · obtain ⟨b, o, c', e, _⟩ := HV.out.opens h
        cases e
    subst h0
    go_enter Try.func149, Try.ntmps149
    go_wp2
    go_ret
    exact newL_mk rfl (OwnL.nil _ _ _ _) (Ext.refl _)
  | some ad =>
    have HO := Lib.hid (OwnL.lit0 vInt 3 w w.heap.size (Nat.le_refl _))
    have HY := Lib.hid (HV.out.ext ((Ext.refl w).alloc (.cells #[] 3)))
    have HX := Lib.hid ((Ext.refl w).alloc (.cells #[] 3))
    have hl' : (0 + l.length) * 8 ≤ 140737488355328 := by omega
    have HL := Lib.hid hl'
    clear hl' hl
    go_enter Try.func149, Try.ntmps149
    go_wp2_with (at_builtin; refine wpList_appRow vInt w.heap.size rfl (.tmp 5) (.tmp 6) 24 3 (.int .i64 0) 8 rfl Try.underlying24 (by kernel_rfl) rfl (by decide) _ [] l _ rfl rfl (fun _ => rfl) HO.out HY.out (by simp) HL.out ?_; intro v1 w1 hO1 hg1)
    go_ret
    exact newL_mk rfl hO1 (grown_trans_ext HX.out HO.out (Nat.le_refl _) hg1)

/-- bytes_Clone. -/
theorem bytes_Clone (v : Value) (l : List UInt8) (w : World) (hv : Fl vByte w v l) (hl : l.length * 1 ≤ 140737488355328) :
    Calls Try.prog 108 #[v] w (NewL vByte 5 w l) := by
  have HV := Lib.hid hv
  obtain ⟨A, c, rfl, h1, h2⟩ := hv.form
  clear hv
  have qT : ∀ (w : World) (a : Option Addr) (n c n' c' : Nat), (binOp .eql 22 (.slice a n c) (.slice none n' c')).run Try.prog w = .ok (.bool a.isNone) w := fun w a n c n' c' => Lib.run_eql_slice_nil w _ _ a n c n' c' Try.underlying22
  cases A with
  | none =>
    have h0 : l = [] := by
      rcases Nat.eq_zero_or_pos l.length with h | h
      · exact List.eq_nil_of_length_eq_zero h
      · obtain ⟨b, o, c', e, _⟩ := HV.out.opens h
        cases e
    subst h0
    go_enter Try.func108, Try.ntmps108
    go_wp2
    go_ret
    exact newL_mk rfl (OwnL.nil _ _ _ _) (Ext.refl _)
  | some ad =>
    have HO := Lib.hid (OwnL.lit0 vByte 5 w w.heap.size (Nat.le_refl _))
    have HY := Lib.hid (HV.out.ext ((Ext.refl w).alloc (.cells #[] 5)))
    have HX := Lib.hid ((Ext.refl w).alloc (.cells #[] 5))
    have hl' : (0 + l.length) * 1 ≤ 140737488355328 := by omega
    have HL := Lib.hid hl'
    clear hl' hl
    go_enter Try.func108, Try.ntmps108
    go_wp2_with (at_builtin; refine wpList_appRow vByte w.heap.size rfl (.tmp 5) (.tmp 6) 22 5 (.int .u8 0) 1 rfl Try.underlying22 (by kernel_rfl) rfl (by decide) _ [] l _ rfl rfl (fun _ => rfl) HO.out HY.out (by simp) HL.out ?_; intro v1 w1 hO1 hg1)
    go_ret
    exact newL_mk rfl hO1 (grown_trans_ext HX.out HO.out (Nat.le_refl _) hg1)
end Go.Proofs.Ytfnelkcllaaebaa
