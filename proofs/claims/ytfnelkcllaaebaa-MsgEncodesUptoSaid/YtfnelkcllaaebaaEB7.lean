/- Parts of one proof, joined: Names, Sounds. Conditions: those that each theorem states. -/
import Derived.Test.YtfnelkcllaaebaaEB2
import Derived.Test.YtfnelkcllaaebaaEB3
import Derived.Deep.RegionWith
section
/- Contracts of name.Equal, ref01.Equal, the sizes and the sounds of names. No condition but that slices read as lists, and each string's size. -/
open Go.RowKit
set_option linter.unusedVariables false
set_option linter.unusedSimpArgs false
namespace Go.Proofs.Ytfnelkcllaaebaa
/-- Each string of it fits. -/
def Fits (l : List Str) : Prop := ∀ x ∈ l, x.size ≤ maxI
end Go.Proofs.Ytfnelkcllaaebaa
end
section
/- Contracts of the sizes and the sounds of names. No condition but that slices read as lists, and each string's size. -/
open Go.RowKit
set_option linter.unusedVariables false
set_option linter.unusedSimpArgs false
namespace Go.Proofs.Ytfnelkcllaaebaa
theorem nsize_take_succ {a : List Str} {k : Nat} {x : Str} (hx : a[k]? = some x) : nsize (a.take (k + 1)) = nsize (a.take k) + x.size + 1 := by
  have := nsize_append (a.take k) [x]
  rw [List.take_add_one, hx]
  simp only [nsize] at this
  simp only [Option.toList]
  omega
theorem nsize_take_le (a : List Str) (k : Nat) : nsize (a.take k) ≤ nsize a := by
  have := nsize_append (a.take k) (a.drop k)
  rw [List.take_append_drop] at this
  have h2 := nsize_ge (a.drop k)
  omega
theorem nsize_take_all {a : List Str} {k : Nat} (h : a.length ≤ k) : nsize (a.take k) = nsize a := by rw [List.take_of_length_le h]
def badL (x : Str) : Bool := decide (x.size = 0) || decide (63 < x.size)
theorem nsound_len {a : List Str} (h : 255 < a.length) : nsound a = false := by
  unfold nsound; have := nsize_ge a; simp; intro _; omega
theorem nsound_bad {a : List Str} (h : a.any badL = true) : nsound a = false := by
  unfold nsound
  rw [List.any_eq_true] at h
  obtain ⟨x, hx, hb⟩ := h
  simp only [badL, Bool.or_eq_true, decide_eq_true_eq] at hb
  rw [decide_eq_false_iff_not]
  rintro ⟨h1, _⟩
  have := h1 x hx
  omega
theorem nsound_good {a : List Str} (h : a.any badL = false) : nsound a = decide (nsize a ≤ 255) := by
  unfold nsound
  rw [List.any_eq_false] at h
  have : ∀ l ∈ a, 1 ≤ l.size ∧ l.size ≤ 63 := fun l hl => by
    have := h l hl
    simp only [badL, Bool.or_eq_true, decide_eq_true_eq] at this
    omega
  rw [decide_eq_decide]; exact ⟨fun h => h.2, fun h => ⟨this, h⟩⟩
theorem good_small {a : List Str} (h : a.any badL = false) (hl : a.length ≤ 255) : nsize a ≤ 20000 := by
  rw [List.any_eq_false] at h
  have := nsize_le a 63 (fun l hl => by have := h l hl; simp only [badL, Bool.or_eq_true, decide_eq_true_eq] at this; omega)
  omega
/-- name.Size. -/
theorem name_Size (va : Value) (a : List Str) (w : World) (ha : NameV w va a) (hs : nsize a ≤ maxI) :
    Calls Try.prog 140 #[va] w fun e w' => e = .returned (.int .i64 (nsize a)) ∧ w' = w := by
  unfold maxI at hs
  have HA := Lib.hid ha
  have hln := nsize_ge a
  obtain ⟨A, c, rfl, h1, h2⟩ := ha.form
  clear ha
  go_enter Try.func140, Try.ntmps140
  go_wp2
  go_loopw [3, 5, 8] (fun s _ i wr => ∃ k : Nat, k ≤ a.length ∧ i = .int .i64 k ∧ s = .int .i64 (nsize (a.take k)) ∧ wr = w) (fun _ _ i _ => a.length - (intOf i).toNat)
  case atStart => exact ⟨0, by omega, rfl, rfl, rfl⟩
  case round =>
    obtain ⟨k, hk, rfl, rfl, rfl⟩ := hrel
    by_cases hlt : k < a.length
    · obtain ⟨b, o, c1, e1, _, _, hc1⟩ := HA.out.opens (by omega)
      injection e1 with e1 e3 e4
      subst e1
      clear e3 e4
      have hx := List.getElem?_eq_getElem hlt
      have hcx := hc1 k _ hx
      have hns := nsize_take_succ hx
      have hle := nsize_take_le a (k + 1)
      clear hc1
      generalize a[k] = x at *
      clear hx
      have hxs : (x.size : Int) ≤ 9223372036854775807 := by omega
      go_wp2
      go_roundw
      case rel => exact ⟨k + 1, by omega, by go_num, by rw [hns]; go_num, trivial⟩
      case measure => simp [intOf]; omega
    · have HE := Lib.hid (nsize_take_all (a := a) (k := k) (by omega))
      go_wp2
      go_ret
      exact ⟨by rw [HE.out]; rfl, rfl⟩
/-- ref01.Size. -/
theorem ref_Size (va : Value) (a : List Str) (w : World) (ha : NameV w va a) (hs : nsize a ≤ maxI) :
    Calls Try.prog 40 #[va] w fun e w' => e = .returned (.int .i64 (nsize a)) ∧ w' = w := by
  unfold maxI at hs
  have HA := Lib.hid ha
  have hln := nsize_ge a
  obtain ⟨A, c, rfl, h1, h2⟩ := ha.form
  clear ha
  go_enter Try.func40, Try.ntmps40
  go_wp2
  go_loopw [3, 4] (fun s i wr => ∃ k : Nat, k ≤ a.length ∧ i = .int .i64 k ∧ s = .int .i64 (nsize (a.take k)) ∧ wr = w) (fun _ i _ => a.length - (intOf i).toNat)
  case atStart => exact ⟨0, by omega, rfl, rfl, rfl⟩
  case round =>
    obtain ⟨k, hk, rfl, rfl, rfl⟩ := hrel
    by_cases hlt : k < a.length
    · obtain ⟨b, o, c1, e1, _, _, hc1⟩ := HA.out.opens (by omega)
      injection e1 with e1 e3 e4
      subst e1
      clear e3 e4
      have hx := List.getElem?_eq_getElem hlt
      have hcx := hc1 k _ hx
      have hns := nsize_take_succ hx
      have hle := nsize_take_le a (k + 1)
      clear hc1
      generalize a[k] = x at *
      clear hx
      have hxs : (x.size : Int) ≤ 9223372036854775807 := by omega
      go_wp2
      go_roundw
      case rel => exact ⟨k + 1, by omega, by go_num, by rw [hns]; go_num, trivial⟩
      case measure => simp [intOf]; omega
    · have HE := Lib.hid (nsize_take_all (a := a) (k := k) (by omega))
      go_wp2
      go_ret
      exact ⟨by rw [HE.out]; rfl, rfl⟩
theorem empty_eq (x : Str) : x.toList.isEmpty = decide (x.size = 0) := by
  rw [ByteArray.toList_eq, ← bs_length]; unfold bs
  cases x.data.toList <;> simp
theorem badL_1 (x : Str) (h : x.toList = []) : true = badL x := by
  have := empty_eq x; rw [h] at this; unfold badL; rw [← this]; rfl
theorem badL_2 (x : Str) : (x.toList.isEmpty || decide ((63 : Int) < (x.size : Int))) = badL x := by
  unfold badL; rw [empty_eq, show decide ((63 : Int) < (x.size : Int)) = decide (63 < x.size) from by rw [decide_eq_decide]; omega]
/-- name.Sound$1. -/
theorem name_Sound1 (x : Str) (w : World) (hx : x.size ≤ maxI) :
    Calls Try.prog 139 #[.string x] w fun e w' => e = .returned (.bool (badL x)) ∧ Ext w w' := by
  unfold maxI at hx
  go_enter Try.func139, Try.ntmps139
  go_wp2
  · rename_i h
    go_ret
    exact ⟨ret_eq (bool_eq (badL_1 x h)), Ext.refl _⟩
  · go_ret
    exact ⟨ret_eq (bool_eq (badL_2 x)), Ext.refl _⟩
theorem le_255 {a : List Str} (h : nsound a = decide (nsize a ≤ 255)) : decide ((nsize a : Int) ≤ 255) = nsound a := by
  rw [h, decide_eq_decide]; omega
/-- name.Sound. -/
theorem name_Sound (va : Value) (a : List Str) (w : World) (ha : NameV w va a) (fa : Fits a) :
    Calls Try.prog 91 #[va] w fun e w' => e = .returned (.bool (nsound a)) ∧ Ext w w' := by
  have HA := Lib.hid ha
  have FA := Lib.hid fa
  obtain ⟨A, c, rfl, h1, h2⟩ := ha.form
  clear ha fa
  by_cases hl : 255 < a.length
  · have HE := Lib.hid (nsound_len hl)
    go_enter Try.func91, Try.ntmps91
    go_wp2
    go_ret
    exact ⟨by rw [HE.out]; rfl, Ext.refl _⟩
  · have HC := Lib.hid (containsFunc_S 139 #[] (fun _ _ => by kernel_rfl) badL _ a w HA.out (fun x w' hx _ => name_Sound1 x w' (FA.out x hx)))
    cases hb : a.any badL with
    | true =>
      have HE := Lib.hid (nsound_bad hb)
      rw [hb] at HC
      clear hb
      go_enter Try.func91, Try.ntmps91
      go_wp2_with (go_at_call 95; refine (HC.out).mono ?_; rintro e w1 ⟨rfl, h1⟩)
      go_ret
      exact ⟨by rw [HE.out]; rfl, h1⟩
    | false =>
      have HE := Lib.hid (nsound_good hb)
      have hsm := good_small hb (by omega)
      rw [hb] at HC
      clear hb
      go_enter Try.func91, Try.ntmps91
      go_wp2_with fail
      refine (HC.out).mono ?_
      rintro e w1 ⟨rfl, h1⟩
      have HS := Lib.hid (name_Size _ a w1 (HA.out.ext h1) (by unfold maxI; omega))
      go_wp2_with fail
      refine (HS.out).mono ?_
      rintro e w2 ⟨rfl, rfl⟩
      go_wp2
      go_ret
      exact ⟨ret_eq (bool_eq (le_255 HE.out)), h1⟩
theorem nsound_len2 {a : List Str} (h : 127 < a.length) : nsound a = false := by
  unfold nsound
  rw [decide_eq_false_iff_not]
  rintro ⟨h1, h2⟩
  have := nsize_ge2 a (fun l hl => (h1 l hl).1)
  omega
theorem nsound_hit {a : List Str} {k : Nat} {x : Str} (hx : a[k]? = some x) (h : x.size < 1 ∨ 63 < x.size) : nsound a = false := by
  refine nsound_bad (List.any_eq_true.2 ⟨x, List.mem_of_getElem? hx, ?_⟩)
  unfold badL
  rcases h with h | h
  · rw [decide_eq_true (show x.size = 0 by omega)]; rfl
  · rw [decide_eq_true h, Bool.or_true]
theorem good_step {a : List Str} {k : Nat} {x : Str} (hx : a[k]? = some x) (h : ¬ (x.size < 1 ∨ 63 < x.size)) (ht : (a.take k).any badL = false) : (a.take (k + 1)).any badL = false := by
  rw [List.take_add_one, hx, List.any_append, ht]
  simp only [Option.toList, List.any_cons, List.any_nil, badL]
  rw [decide_eq_false (show ¬ x.size = 0 by omega), decide_eq_false (show ¬ 63 < x.size by omega)]; rfl
/-- ref01.Sound. -/
theorem ref_Sound (va : Value) (a : List Str) (w : World) (ha : NameV w va a) :
    Calls Try.prog 57 #[va] w fun e w' => e = .returned (.bool (nsound a)) ∧ w' = w := by
  have HA := Lib.hid ha
  obtain ⟨A, c, rfl, h1, h2⟩ := ha.form
  clear ha
  by_cases hl : 127 < a.length
  · have HE := Lib.hid (nsound_len2 hl)
    go_enter Try.func57, Try.ntmps57
    go_wp2
    go_ret
    exact ⟨by rw [HE.out]; rfl, rfl⟩
  · go_enter Try.func57, Try.ntmps57
    go_wp2
    go_loopw [3] (fun i wr => ∃ k : Nat, k ≤ a.length ∧ i = .int .i64 k ∧ Hid ((a.take k).any badL = false) ∧ wr = w) (fun i _ => a.length - (intOf i).toNat)
    case atStart => exact ⟨0, by omega, rfl, rfl, rfl⟩
    case round =>
      obtain ⟨k, hk, rfl, hT, rfl⟩ := hrel
      by_cases hlt : k < a.length
      · obtain ⟨b, o, c1, e1, _, _, hc1⟩ := HA.out.opens (by omega)
        injection e1 with e1 e3 e4
        subst e1
        clear e3 e4
        have hx := List.getElem?_eq_getElem hlt
        have hcx := hc1 k _ hx
        have HX := Lib.hid hx
        clear hc1 hx
        generalize a[k] = x at *
        go_wp2
        all_goals first
          | (go_roundw
             case rel => exact ⟨k + 1, by omega, by go_num, good_step HX.out (by omega) hT.out, trivial⟩
             case measure => simp [intOf]; omega)
          | (have HE := Lib.hid (nsound_hit HX.out (by omega))
             go_ret
             exact ⟨by rw [HE.out]; rfl, rfl⟩)
      · have hT2 := hT.out
        rw [List.take_of_length_le (by omega)] at hT2
        have HE := Lib.hid (nsound_good hT2)
        have HS := Lib.hid (ref_Size _ a wr HA.out (by have := good_small hT2 (by omega); unfold maxI; omega))
        clear hT2
        go_wp2_with fail
        refine (HS.out).mono ?_
        rintro e w2 ⟨rfl, rfl⟩
        go_wp2
        go_ret
        exact ⟨ret_eq (bool_eq (le_255 HE.out)), rfl⟩
end Go.Proofs.Ytfnelkcllaaebaa
end
