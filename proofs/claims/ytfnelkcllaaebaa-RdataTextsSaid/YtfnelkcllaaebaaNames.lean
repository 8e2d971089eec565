/- Contracts of name.Equal, ref01.Equal, the sizes and the sounds of names. No condition but that slices read as lists, and each string's size. -/
import Derived.Test.YtfnelkcllaaebaaEqs
import Derived.Test.YtfnelkcllaaebaaStrs
import Derived.Test.YtfnelkcllaaebaaIdx
import Derived.Deep.RegionWith
open Go.RowKit
set_option linter.unusedVariables false
set_option linter.unusedSimpArgs false
namespace Go.Proofs.Ytfnelkcllaaebaa
/-- Each string of it fits. -/
def Fits (l : List Str) : Prop := ∀ x ∈ l, x.size ≤ maxI
theorem Fits.at_ {l : List Str} (h : Fits l) {k : Nat} {x : Str} (hx : l[k]? = some x) : x.size ≤ maxI := h x (List.mem_of_getElem? hx)
theorem map_take_succ_eq {a b : List Str} {k : Nat} {x y : Str} (ha : a[k]? = some x) (hb : b[k]? = some y) (hxy : small x = small y) (h : (a.map small).take k = (b.map small).take k) : (a.map small).take (k + 1) = (b.map small).take (k + 1) :=
  take_succ_eq (x := small x) (by simp [ha]) (by simp [hb, hxy]) h
theorem map_ne {a b : List Str} {k : Nat} {x y : Str} (ha : a[k]? = some x) (hb : b[k]? = some y) (hxy : ¬ small x = small y) : ¬ a.map small = b.map small :=
  ne_of_at (k := k) (x := small x) (y := small y) (by simp [ha]) (by simp [hb]) hxy
theorem str_ne_same (x : ByteArray) : (x.toList != x.toList) = false := by simp
theorem str_ne_diff {x y : ByteArray} (h : ¬ x = y) : (x.toList != y.toList) = true := by rw [bne, str_diff h]; rfl
/-- name.Equal$1. -/
theorem name_Equal1 (x y : Str) (w : World) (hx : x.size ≤ maxI) (hy : y.size ≤ maxI) :
    Calls Try.prog 133 #[.string x, .string y] w fun e w' => e = .returned (.bool (decide (small x = small y))) ∧ Ext w w' := by
  have HX := Lib.hid hx
  have HY := Lib.hid hy
  clear hx hy
  by_cases h : small x = small y
  · have HE := Lib.hid h
    have ht : ((small x).toList == (small y).toList) = true := by rw [h]; exact str_same _
    clear h
    go_enter Try.func133, Try.ntmps133
    go_wp2_with fail
    refine (name_small x _ HX.out).mono ?_
    rintro e w1 ⟨rfl, h1⟩
    go_wp2_with fail
    refine (name_small y _ HY.out).mono ?_
    rintro e w2 ⟨rfl, h2⟩
    go_wp2
    go_ret
    exact ⟨ret_eq (dec_true HE.out), h1.trans h2⟩
  · have HE := Lib.hid h
    have ht := str_diff h
    clear h
    go_enter Try.func133, Try.ntmps133
    go_wp2_with fail
    refine (name_small x _ HX.out).mono ?_
    rintro e w1 ⟨rfl, h1⟩
    go_wp2_with fail
    refine (name_small y _ HY.out).mono ?_
    rintro e w2 ⟨rfl, h2⟩
    go_wp2
    go_ret
    exact ⟨ret_eq (dec_false HE.out), h1.trans h2⟩
/-- equalFunc_S. -/
theorem equalFunc_S (va vb : Value) (a b : List ByteArray) (w : World) (ha : NameV w va a) (hb : NameV w vb b) (fa : Fits a) (fb : Fits b) :
    Calls Try.prog 132 #[va, vb, .func (.func 133) #[] #[]] w fun e w' => e = .returned (.bool (neq a b)) ∧ Ext w w' := by
  unfold neq
  have hla := ha.len
  have hlb := hb.len
  have FA := Lib.hid fa
  have FB := Lib.hid fb
  clear fa fb
  unfold maxI at hla hlb
  have eg : ∀ args w, (callFunc 133 args).run Try.prog w = .ok (.enter 133 args) w := fun _ _ => by kernel_rfl
  by_cases hlen : a.length = b.length
  · have HA := Lib.hid ha
    have HB := Lib.hid hb
    obtain ⟨A, c, rfl, h1, h2⟩ := ha.form
    obtain ⟨A', c', rfl, h3, h4⟩ := hb.form
    have ht := len_eq hlen
    clear ha hb
    have HL := Lib.hid hlen
    clear hlen
    go_enter Try.func132, Try.ntmps132
    go_wp2
    go_loopw [7, 8, 9, 17] (fun _ _ _ i wr => ∃ k : Nat, k ≤ a.length ∧ i = .int .i64 k ∧ Hid ((a.map small).take k = (b.map small).take k) ∧ Ext w wr) (fun _ _ _ i _ => a.length - (intOf i).toNat)
    case atStart => exact ⟨0, by omega, rfl, rfl, Ext.refl _⟩
    case round =>
      obtain ⟨k, hk, rfl, hT, hE⟩ := hrel
      by_cases hlt : k < a.length
      · have hb1 : k < b.length := by have := HL.out; omega
        obtain ⟨b1, o1, c1, e1, _, _, hc1⟩ := HA.out.opens (by omega)
        obtain ⟨b2, o2, c2, e2, _, _, hc2⟩ := HB.out.opens (by omega)
        injection e1 with e1 e3 e4
        injection e2 with e2 e5 e6
        subst e1 e2
        clear e3 e4 e5 e6
        have hx := List.getElem?_eq_getElem hlt
        have hy := List.getElem?_eq_getElem hb1
        have hcx := hE.cell (hc1 k _ hx)
        have hcy := hE.cell (hc2 k _ hy)
        have HX := Lib.hid hx
        have HY := Lib.hid hy
        clear hx hy hc1 hc2
        generalize a[k] = x at *
        generalize b[k] = y at *
        have HC := fun w => Lib.hid (name_Equal1 x y w (FA.out.at_ HX.out) (FB.out.at_ HY.out))
        by_cases hxy : small x = small y
        · have HQ := Lib.hid hxy
          rw [decide_eq_true hxy] at HC
          clear hxy
          go_wp2_with (go_at_fn 133; refine ((HC _).out).mono ?_; rintro e w1 ⟨rfl, h1⟩)
          go_roundw
          case rel => exact ⟨k + 1, by omega, by go_num, map_take_succ_eq HX.out HY.out HQ.out hT.out, hE.trans h1⟩
          case measure => simp [intOf]; omega
        · have HN := Lib.hid (map_ne HX.out HY.out hxy)
          rw [decide_eq_false hxy] at HC
          clear hxy
          go_wp2_with (go_at_fn 133; refine ((HC _).out).mono ?_; rintro e w1 ⟨rfl, h1⟩)
          go_ret
          exact ⟨ret_eq (dec_false HN.out), hE.trans h1⟩
      · have HE := Lib.hid (eq_of_take (a := a.map small) (b := b.map small) (by simpa using HL.out) (by simp; omega) hT.out)
        go_wp2
        go_ret
        exact ⟨ret_eq (dec_true HE.out), hE⟩
  · obtain ⟨A, c, rfl, h1, h2⟩ := ha.form
    obtain ⟨A', c', rfl, h3, h4⟩ := hb.form
    have hne : ¬ a.map small = b.map small := fun h => hlen (by have := congrArg List.length h; simpa using this)
    have HN := Lib.hid hne
    have ht := len_ne hlen
    clear ha hb hlen hne
    go_enter Try.func132, Try.ntmps132
    go_wp2
    go_ret
    exact ⟨ret_eq (dec_false HN.out), Ext.refl _⟩
/-- name.Equal. -/
theorem name_Equal (va vb : Value) (a b : List ByteArray) (w : World) (ha : NameV w va a) (hb : NameV w vb b) (fa : Fits a) (fb : Fits b) :
    Calls Try.prog 85 #[va, vb] w fun e w' => e = .returned (.bool (neq a b)) ∧ Ext w w' := by
  have HC := Lib.hid (equalFunc_S va vb a b w ha hb fa fb)
  clear ha hb fa fb
  go_enter Try.func85, Try.ntmps85
  go_wp2_with (go_at_call 132; refine (HC.out).mono ?_; rintro e w1 ⟨rfl, h1⟩)
  go_ret
  exact ⟨rfl, h1⟩
set_option maxHeartbeats 1000000 in
/-- ref_Equal. -/
theorem ref_Equal (va vb : Value) (a b : List ByteArray) (w : World) (ha : NameV w va a) (hb : NameV w vb b) (fa : Fits a) (fb : Fits b) :
    Calls Try.prog 81 #[va, vb] w fun e w' => e = .returned (.bool (neq a b)) ∧ Ext w w' := by
  unfold neq
  have hla := ha.len
  have hlb := hb.len
  have FA := Lib.hid fa
  have FB := Lib.hid fb
  clear fa fb
  unfold maxI at hla hlb
  by_cases hlen : a.length = b.length
  · have HA := Lib.hid ha
    have HB := Lib.hid hb
    obtain ⟨A, c, rfl, h1, h2⟩ := ha.form
    obtain ⟨A', c', rfl, h3, h4⟩ := hb.form
    have ht := len_eq hlen
    clear ha hb
    have HL := Lib.hid hlen
    clear hlen
    go_enter Try.func81, Try.ntmps81
    go_wp2
    go_loopw [5] (fun i wr => ∃ k : Nat, k ≤ a.length ∧ i = .int .i64 k ∧ Hid ((a.map small).take k = (b.map small).take k) ∧ Ext w wr) (fun i _ => a.length - (intOf i).toNat)
    case atStart => exact ⟨0, by omega, rfl, rfl, Ext.refl _⟩
    case round =>
      obtain ⟨k, hk, rfl, hT, hE⟩ := hrel
      by_cases hlt : k < a.length
      · have hb1 : k < b.length := by have := HL.out; omega
        obtain ⟨b1, o1, c1, e1, _, _, hc1⟩ := HA.out.opens (by omega)
        obtain ⟨b2, o2, c2, e2, _, _, hc2⟩ := HB.out.opens (by omega)
        injection e1 with e1 e3 e4
        injection e2 with e2 e5 e6
        subst e1 e2
        clear e3 e4 e5 e6
        have hx := List.getElem?_eq_getElem hlt
        have hy := List.getElem?_eq_getElem hb1
        have hcx := hE.cell (hc1 k _ hx)
        have hcy := hE.cell (hc2 k _ hy)
        have HX := Lib.hid hx
        have HY := Lib.hid hy
        clear hx hy hc1 hc2
        generalize a[k] = x at *
        generalize b[k] = y at *
        have fx := FA.out.at_ HX.out
        have fy := FB.out.at_ HY.out
        by_cases hxy : small x = small y
        · have HQ := Lib.hid hxy
          have ht2 : ((small x).toList == (small y).toList) = true := by rw [hxy]; exact str_same _
          clear hxy
          go_wp2
          go_region_with (first | (go_at_call 131; refine (ref_Small _ _ (by assumption)).mono ?_; rintro e w1 ⟨rfl, h1⟩; have hcy := h1.cell hcy; have hcx := h1.cell hcx; have hE : Ext w _ := (by first | exact Ext.trans hE h1 | exact Ext.trans (Ext.drew hE) h1); clear h1))
          all_goals go_wp2
          all_goals go_roundw
          all_goals first | exact ⟨k + 1, by omega, by go_num, map_take_succ_eq HX.out HY.out HQ.out hT.out, by assumption⟩ | (simp [intOf]; omega)
        · have HN := Lib.hid (map_ne HX.out HY.out hxy)
          have ht2 := str_diff hxy
          clear hxy
          go_wp2
          go_region_with (first | (go_at_call 131; refine (ref_Small _ _ (by assumption)).mono ?_; rintro e w1 ⟨rfl, h1⟩; have hcy := h1.cell hcy; have hcx := h1.cell hcx; have hE : Ext w _ := (by first | exact Ext.trans hE h1 | exact Ext.trans (Ext.drew hE) h1); clear h1))
          all_goals go_wp2
          all_goals go_ret
          all_goals exact ⟨ret_eq (dec_false HN.out), by assumption⟩
      · have HE := Lib.hid (eq_of_take (a := a.map small) (b := b.map small) (by simpa using HL.out) (by simp; omega) hT.out)
        go_wp2
        go_ret
        exact ⟨ret_eq (dec_true HE.out), hE⟩
  · obtain ⟨A, c, rfl, h1, h2⟩ := ha.form
    obtain ⟨A', c', rfl, h3, h4⟩ := hb.form
    have hne : ¬ a.map small = b.map small := fun h => hlen (by have := congrArg List.length h; simpa using this)
    have HN := Lib.hid hne
    have ht := len_ne hlen
    clear ha hb hlen hne
    go_enter Try.func81, Try.ntmps81
    go_wp2
    go_ret
    exact ⟨ret_eq (dec_false HN.out), Ext.refl _⟩
end Go.Proofs.Ytfnelkcllaaebaa
