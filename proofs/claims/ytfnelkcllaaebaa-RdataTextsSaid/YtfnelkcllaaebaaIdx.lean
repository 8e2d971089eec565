/- Contracts of slices.IndexFunc and slices.ContainsFunc, whatever predicate that pays its premise. -/
import Derived.Test.YtfnelkcllaaebaaMem
import Derived.Test.YtfnelkcllaaebaaModS
import Derived.Shelf.Abstract
open Go.RowKit
set_option linter.unusedVariables false
set_option linter.unusedSimpArgs false
namespace Go.Proofs.Ytfnelkcllaaebaa
/-- The first index of which p holds; -1: there is none. -/
def idxF {α : Type} (p : α → Bool) (l : List α) : Int := match l.findIdx? p with | some i => (i : Int) | none => -1
theorem idxF_hit {α : Type} (p : α → Bool) (l : List α) (k : Nat) (x : α) (hx : l[k]? = some x) (h : ∀ j x, j < k → l[j]? = some x → p x = false) (hp : p x = true) : (k : Int) = idxF p l := by
  obtain ⟨hlt, he⟩ := List.getElem?_eq_some_iff.1 hx
  have e : l.findIdx? p = some k := by
    rw [List.findIdx?_eq_some_iff_getElem]
    refine ⟨hlt, by rw [he]; exact hp, fun j hj => ?_⟩
    rw [h j l[j] hj (List.getElem?_eq_getElem (by omega))]
    simp
  simp [idxF, e]
theorem idxF_miss {α : Type} (p : α → Bool) (l : List α) (k : Nat) (hk : l.length ≤ k) (h : ∀ j x, j < k → l[j]? = some x → p x = false) : (-1 : Int) = idxF p l := by
  have e : l.findIdx? p = none := by
    rw [List.findIdx?_eq_none_iff]
    intro x hx
    obtain ⟨j, hj, rfl⟩ := List.getElem_of_mem hx
    exact h j _ (by omega) (List.getElem?_eq_getElem hj)
  simp [idxF, e]
theorem idxF_step {α : Type} (p : α → Bool) (l : List α) (k : Nat) (x : α) (hx : l[k]? = some x) (h : ∀ j x, j < k → l[j]? = some x → p x = false) (hp : p x = false) : ∀ j x, j < k + 1 → l[j]? = some x → p x = false := by
  intro j y hj hy
  rcases Nat.lt_or_ge j k with h1 | h1
  · exact h j y h1 hy
  · obtain rfl : j = k := by omega
    rw [hx] at hy
    injection hy with hy
    rw [← hy]; exact hp
theorem idxF_any {α : Type} (p : α → Bool) (l : List α) : decide (0 ≤ idxF p l) = l.any p := by
  unfold idxF
  cases h : l.findIdx? p with
  | none =>
    rw [List.findIdx?_eq_none_iff] at h
    have : l.any p = false := by
      rw [List.any_eq_false]
      intro x hx; simp [h x hx]
    rw [this]; simp
  | some i =>
    rw [List.findIdx?_eq_some_iff_getElem] at h
    obtain ⟨h1, h2, _⟩ := h
    have : l.any p = true := List.any_eq_true.2 ⟨l[i], List.getElem_mem h1, h2⟩
    rw [this]; simp

/-- slices.IndexFunc at ByteArray, whatever predicate. -/
theorem indexFunc_S (f : FuncId) (cap : Array Value) (eg : ∀ args w, (callFunc f args).run Try.prog w = .ok (.enter f args) w) (p : ByteArray → Bool) (v : Value) (l : List ByteArray) (w : World) (hv : NameV w v l)
    (hf : ∀ x w', x ∈ l → Ext w w' → Calls Try.prog f (#[.string x] ++ cap) w' fun e w'' => e = .returned (.bool (p x)) ∧ Ext w' w'') :
    Calls Try.prog 142 #[v, .func (.func f) #[] cap] w fun e w' => e = .returned (.int .i64 (idxF p l)) ∧ Ext w w' := by
  have hl := hv.len
  unfold maxI at hl
  have HV := Lib.hid hv
  have HF := Lib.hid hf
  obtain ⟨A, c, rfl, h1, h2⟩ := hv.form
  clear hv hf
  go_enter Try.func142, Try.ntmps142
  go_wp2
  go_loopw [5, 8] (fun u i wr => ∃ k : Nat, k ≤ l.length ∧ i = .int .i64 k ∧ Hid (∀ j x, j < k → l[j]? = some x → p x = false) ∧ Ext w wr) (fun _ i _ => l.length - (intOf i).toNat)
  case atStart => exact ⟨0, by omega, rfl, by intro j x hx; omega, Ext.refl _⟩
  case round =>
    obtain ⟨k, hk, rfl, hT, hE⟩ := hrel
    by_cases hlt : k < l.length
    · obtain ⟨b, o, c1, e1, _, _, hc1⟩ := HV.out.opens (by omega)
      injection e1 with e1 e3 e4
      subst e1
      clear e3 e4
      have hx := List.getElem?_eq_getElem hlt
      have hcx := hE.cell (hc1 k _ hx)
      have hcall := HF.out _ wr (List.mem_of_getElem? hx) hE
      have HX := Lib.hid hx
      clear hx hc1
      generalize l[k] = x at *
      cases hq : p x with
      | true =>
        rw [hq] at hcall
        have HQ := Lib.hid hq
        clear hq
        go_wp2_with (go_at_fn f; refine hcall.mono ?_; rintro e w' ⟨rfl, hb'⟩)
        go_ret
        exact ⟨ret_eq (int_eq (idxF_hit p l k x HX.out hT.out HQ.out)), hE.trans hb'⟩
      | false =>
        rw [hq] at hcall
        have HQ := Lib.hid hq
        clear hq
        go_wp2_with (go_at_fn f; refine hcall.mono ?_; rintro e w' ⟨rfl, hb'⟩)
        go_roundw
        case rel => exact ⟨k + 1, by omega, by go_num, idxF_step p l k x HX.out hT.out HQ.out, hE.trans hb'⟩
        case measure => simp [intOf]; omega
    · have HE := Lib.hid (idxF_miss p l k (by omega) hT.out)
      go_wp2
      go_ret
      exact ⟨ret_eq (int_eq HE.out), hE⟩
/-- slices.ContainsFunc at ByteArray. -/
theorem containsFunc_S (f : FuncId) (cap : Array Value) (eg : ∀ args w, (callFunc f args).run Try.prog w = .ok (.enter f args) w) (p : ByteArray → Bool) (v : Value) (l : List ByteArray) (w : World) (hv : NameV w v l)
    (hf : ∀ x w', x ∈ l → Ext w w' → Calls Try.prog f (#[.string x] ++ cap) w' fun e w'' => e = .returned (.bool (p x)) ∧ Ext w' w'') :
    Calls Try.prog 95 #[v, .func (.func f) #[] cap] w fun e w' => e = .returned (.bool (l.any p)) ∧ Ext w w' := by
  have HI := Lib.hid (indexFunc_S f cap eg p v l w hv hf)
  have HE := Lib.hid (idxF_any p l)
  clear hv hf
  go_enter Try.func95, Try.ntmps95
  go_wp2_with (go_at_call 142; refine (HI.out).mono ?_; rintro e w' ⟨rfl, hE⟩)
  go_ret
  exact ⟨ret_eq (bool_eq HE.out), hE⟩

/-- slices.IndexFunc at Int, whatever predicate. -/
theorem indexFunc_I (f : FuncId) (cap : Array Value) (eg : ∀ args w, (callFunc f args).run Try.prog w = .ok (.enter f args) w) (p : Int → Bool) (v : Value) (l : List Int) (w : World) (hv : IntsV w v l)
    (hf : ∀ x w', x ∈ l → Ext w w' → Calls Try.prog f (#[.int .i64 x] ++ cap) w' fun e w'' => e = .returned (.bool (p x)) ∧ Ext w' w'') :
    Calls Try.prog 141 #[v, .func (.func f) #[] cap] w fun e w' => e = .returned (.int .i64 (idxF p l)) ∧ Ext w w' := by
  have hl := hv.len
  unfold maxI at hl
  have HV := Lib.hid hv
  have HF := Lib.hid hf
  obtain ⟨A, c, rfl, h1, h2⟩ := hv.form
  clear hv hf
  go_enter Try.func141, Try.ntmps141
  go_wp2
  go_loopw [5, 8] (fun u i wr => ∃ k : Nat, k ≤ l.length ∧ i = .int .i64 k ∧ Hid (∀ j x, j < k → l[j]? = some x → p x = false) ∧ Ext w wr) (fun _ i _ => l.length - (intOf i).toNat)
  case atStart => exact ⟨0, by omega, rfl, by intro j x hx; omega, Ext.refl _⟩
  case round =>
    obtain ⟨k, hk, rfl, hT, hE⟩ := hrel
    by_cases hlt : k < l.length
    · obtain ⟨b, o, c1, e1, _, _, hc1⟩ := HV.out.opens (by omega)
      injection e1 with e1 e3 e4
      subst e1
      clear e3 e4
      have hx := List.getElem?_eq_getElem hlt
      have hcx := hE.cell (hc1 k _ hx)
      have hcall := HF.out _ wr (List.mem_of_getElem? hx) hE
      have HX := Lib.hid hx
      clear hx hc1
      generalize l[k] = x at *
      cases hq : p x with
      | true =>
        rw [hq] at hcall
        have HQ := Lib.hid hq
        clear hq
        go_wp2_with (go_at_fn f; refine hcall.mono ?_; rintro e w' ⟨rfl, hb'⟩)
        go_ret
        exact ⟨ret_eq (int_eq (idxF_hit p l k x HX.out hT.out HQ.out)), hE.trans hb'⟩
      | false =>
        rw [hq] at hcall
        have HQ := Lib.hid hq
        clear hq
        go_wp2_with (go_at_fn f; refine hcall.mono ?_; rintro e w' ⟨rfl, hb'⟩)
        go_roundw
        case rel => exact ⟨k + 1, by omega, by go_num, idxF_step p l k x HX.out hT.out HQ.out, hE.trans hb'⟩
        case measure => simp [intOf]; omega
    · have HE := Lib.hid (idxF_miss p l k (by omega) hT.out)
      go_wp2
      go_ret
      exact ⟨ret_eq (int_eq HE.out), hE⟩
/-- slices.ContainsFunc at Int. -/
theorem containsFunc_I (f : FuncId) (cap : Array Value) (eg : ∀ args w, (callFunc f args).run Try.prog w = .ok (.enter f args) w) (p : Int → Bool) (v : Value) (l : List Int) (w : World) (hv : IntsV w v l)
    (hf : ∀ x w', x ∈ l → Ext w w' → Calls Try.prog f (#[.int .i64 x] ++ cap) w' fun e w'' => e = .returned (.bool (p x)) ∧ Ext w' w'') :
    Calls Try.prog 92 #[v, .func (.func f) #[] cap] w fun e w' => e = .returned (.bool (l.any p)) ∧ Ext w w' := by
  have HI := Lib.hid (indexFunc_I f cap eg p v l w hv hf)
  have HE := Lib.hid (idxF_any p l)
  clear hv hf
  go_enter Try.func92, Try.ntmps92
  go_wp2_with (go_at_call 141; refine (HI.out).mono ?_; rintro e w' ⟨rfl, hE⟩)
  go_ret
  exact ⟨ret_eq (bool_eq HE.out), hE⟩
end Go.Proofs.Ytfnelkcllaaebaa
