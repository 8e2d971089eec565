/- Parts of one proof, joined: Names, Sounds. Conditions: those that each theorem states. -/
import Derived.Test.YtfnelkcllaaebaaB2
import Derived.Test.YtfnelkcllaaebaaB3
import Derived.Deep.RegionWith
section
/- Contracts of name.Equal, ref01.Equal, the sizes and the sounds of names. No condition but that slices read as lists, and each string's size. -/
open Go.RowKit
set_option linter.unusedVariables false
set_option linter.unusedSimpArgs false
namespace Go.Proofs.Ytfnelkcllaaebaa
/-- Each string of it fits. -/
def Fits (l : List Str) : Prop := ∀ x ∈ l, x.size ≤ maxI
theorem Fits.at_ {l : List Str} (h : Fits l) {k : Nat} {x : Str} (hx : l[k]? = some x) : x.size ≤ maxI := h x (List.mem_of_getElem? hx)
theorem map_take_succ_eq {a b : List Str} {k : Nat} {x y : Str} (ha : a[k]? = some x) (hb : b[k]? = some y) (hxy : small x = small y) (h : (a.map small).take k = (b.map small).take k) : (a.map small).take (k + 1) = (b.map small).take (k + 1) :=
  take_succ_eq (x := small x) (by simp [ha]) (by simp [hb, hxy]) h
theorem map_ne {a b : List Str} {k : Nat} {x y : Str} (ha : a[k]? = some x) (hb : b[k]? = some y) (hxy : ¬ small x = small y) : ¬ a.map small = b.map small :=
  ne_of_at (k := k) (x := small x) (y := small y) (by simp [ha]) (by simp [hb]) hxy
theorem str_ne_same (x : ByteArray) : (x.toList != x.toList) = false := by simp
theorem str_ne_diff {x y : ByteArray} (h : ¬ x = y) : (x.toList != y.toList) = true := by rw [bne, str_diff h]; rfl
/-- name.Equal$1. -/
theorem name_Equal1 (x y : Str) (w : World) (hx : x.size ≤ maxI) (hy : y.size ≤ maxI) :
    Calls Try.prog 133 #[.string x, .string y] w fun e w' => e = .returned (.bool (decide (small x = small y))) ∧ Ext w w' := by
  have HX := Lib.hid hx
  have HY := Lib.hid hy
  clear hx hy
  by_cases h : small x = small y
  · have HE := Lib.hid h
    have ht : ((small x).toList == (small y).toList) = true := by rw [h]; exact str_same _
    clear h
    go_enter Try.func133, Try.ntmps133
    go_wp2_with fail
    refine (name_small x _ HX.out).mono ?_
    rintro e w1 ⟨rfl, h1⟩
    go_wp2_with fail
    refine (name_small y _ HY.out).mono ?_
    rintro e w2 ⟨rfl, h2⟩
    go_wp2
    go_ret
    exact ⟨ret_eq (dec_true HE.out), h1.trans h2⟩
  · have HE := Lib.hid h
    have ht := str_diff h
    clear h
    go_enter Try.func133, Try.ntmps133
    go_wp2_with fail
    refine (name_small x _ HX.out).mono ?_
    rintro e w1 ⟨rfl, h1⟩
    go_wp2_with fail
    refine (name_small y _ HY.out).mono ?_
    rintro e w2 ⟨rfl, h2⟩
    go_wp2
    go_ret
    exact ⟨ret_eq (dec_false HE.out), h1.trans h2⟩
/-- equalFunc_S. -/
theorem equalFunc_S (va vb : Value) (a b : List ByteArray) (w : World) (ha : NameV w va a) (hb : NameV w vb b) (fa : Fits a) (fb : Fits b) :
    Calls Try.prog 132 #[va, vb, .func (.func 133) #[] #[]] w fun e w' => e = .returned (.bool (neq a b)) ∧ Ext w w' := by
  unfold neq
  have hla := ha.len
  have hlb := hb.len
  have FA := Lib.hid fa
  have FB := Lib.hid fb
  clear fa fb
  unfold maxI at hla hlb
  have eg : ∀ args w, (callFunc 133 args).run Try.prog w = .ok (.enter 133 args) w := fun _ _ => by kernel_rfl
  by_cases hlen : a.length = b.length
  · have HA := Lib.hid ha
    have HB := Lib.hid hb
    obtain ⟨A, c, rfl, h1, h2⟩ := ha.form
    obtain ⟨A', c', rfl, h3, h4⟩ := hb.form
    have ht := len_eq hlen
    clear ha hb
    have HL := Lib.hid hlen
    clear hlen
    go_enter Try.func132, Try.ntmps132
    go_wp2
    go_loopw [7, 8, 9, 17] (fun _ _ _ i wr => ∃ k : Nat, k ≤ a.length ∧ i = .int .i64 k ∧ Hid ((a.map small).take k = (b.map small).take k) ∧ Ext w wr) (fun _ _ _ i _ => a.length - (intOf i).toNat)
    case atStart => exact ⟨0, by omega, rfl, rfl, Ext.refl _⟩
    case round =>
      obtain ⟨k, hk, rfl, hT, hE⟩ := hrel
      by_cases hlt : k < a.length
      · have hb1 : k < b.length := by have := HL.out; omega
        obtain ⟨b1, o1, c1, e1, _, _, hc1⟩ := HA.out.opens (by omega)
        obtain ⟨b2, o2, c2, e2, _, _, hc2⟩ := HB.out.opens (by omega)
        injection e1 with e1 e3 e4
        injection e2 with e2 e5 e6
        subst e1 e2
        clear e3 e4 e5 e6
        have hx := List.getElem?_eq_getElem hlt
        have hy := List.getElem?_eq_getElem hb1
        have hcx := hE.cell (hc1 k _ hx)
        have hcy := hE.cell (hc2 k _ hy)
        have HX := Lib.hid hx
        have HY := Lib.hid hy
        clear hx hy hc1 hc2
        generalize a[k] = x at *
        generalize b[k] = y at *
        have HC := fun w => Lib.hid (name_Equal1 x y w (FA.out.at_ HX.out) (FB.out.at_ HY.out))
        by_cases hxy : small x = small y
        · have HQ := Lib.hid hxy
          rw [decide_eq_true hxy] at HC
          clear hxy
          go_wp2_with (go_at_fn 133; refine ((HC _).out).mono ?_; rintro e w1 ⟨rfl, h1⟩)
          go_roundw
          case rel => exact ⟨k + 1, by omega, by go_num, map_take_succ_eq HX.out HY.out HQ.out hT.out, hE.trans h1⟩
          case measure => simp [intOf]; omega
        · have HN := Lib.hid (map_ne HX.out HY.out hxy)
          rw [decide_eq_false hxy] at HC
          clear hxy
          go_wp2_with (go_at_fn 133; refine ((HC _).out).mono ?_; rintro e w1 ⟨rfl, h1⟩)
          go_ret
          exact ⟨ret_eq (dec_false HN.out), hE.trans h1⟩
      · have HE := Lib.hid (eq_of_take (a := a.map small) (b := b.map small) (by simpa using HL.out) (by simp; omega) hT.out)
        go_wp2
        go_ret
        exact ⟨ret_eq (dec_true HE.out), hE⟩
  · obtain ⟨A, c, rfl, h1, h2⟩ := ha.form
    obtain ⟨A', c', rfl, h3, h4⟩ := hb.form
    have hne : ¬ a.map small = b.map small := fun h => hlen (by have := congrArg List.length h; simpa using this)
    have HN := Lib.hid hne
    have ht := len_ne hlen
    clear ha hb hlen hne
    go_enter Try.func132, Try.ntmps132
    go_wp2
    go_ret
    exact ⟨ret_eq (dec_false HN.out), Ext.refl _⟩
/-- name.Equal. -/
theorem name_Equal (va vb : Value) (a b : List ByteArray) (w : World) (ha : NameV w va a) (hb : NameV w vb b) (fa : Fits a) (fb : Fits b) :
    Calls Try.prog 85 #[va, vb] w fun e w' => e = .returned (.bool (neq a b)) ∧ Ext w w' := by
  have HC := Lib.hid (equalFunc_S va vb a b w ha hb fa fb)
  clear ha hb fa fb
  go_enter Try.func85, Try.ntmps85
  go_wp2_with (go_at_call 132; refine (HC.out).mono ?_; rintro e w1 ⟨rfl, h1⟩)
  go_ret
  exact ⟨rfl, h1⟩
set_option maxHeartbeats 1000000 in
/-- ref_Equal. -/
theorem ref_Equal (va vb : Value) (a b : List ByteArray) (w : World) (ha : NameV w va a) (hb : NameV w vb b) (fa : Fits a) (fb : Fits b) :
    Calls Try.prog 81 #[va, vb] w fun e w' => e = .returned (.bool (neq a b)) ∧ Ext w w' := by
  unfold neq
  have hla := ha.len
  have hlb := hb.len
  have FA := Lib.hid fa
  have FB := Lib.hid fb
  clear fa fb
  unfold maxI at hla hlb
  by_cases hlen : a.length = b.length
  · have HA := Lib.hid ha
    have HB := Lib.hid hb
    obtain ⟨A, c, rfl, h1, h2⟩ := ha.form
    obtain ⟨A', c', rfl, h3, h4⟩ := hb.form
    have ht := len_eq hlen
    clear ha hb
    have HL := Lib.hid hlen
    clear hlen
    go_enter Try.func81, Try.ntmps81
    go_wp2
    go_loopw [5] (fun i wr => ∃ k : Nat, k ≤ a.length ∧ i = .int .i64 k ∧ Hid ((a.map small).take k = (b.map small).take k) ∧ Ext w wr) (fun i _ => a.length - (intOf i).toNat)
    case atStart => exact ⟨0, by omega, rfl, rfl, Ext.refl _⟩
    case round =>
      obtain ⟨k, hk, rfl, hT, hE⟩ := hrel
      by_cases hlt : k < a.length
      · have hb1 : k < b.length := by have := HL.out; omega
        obtain ⟨b1, o1, c1, e1, _, _, hc1⟩ := HA.out.opens (by omega)
        obtain ⟨b2, o2, c2, e2, _, _, hc2⟩ := HB.out.opens (by omega)
        injection e1 with e1 e3 e4
        injection e2 with e2 e5 e6
        subst e1 e2
        clear e3 e4 e5 e6
        have hx := List.getElem?_eq_getElem hlt
        have hy := List.getElem?_eq_getElem hb1
        have hcx := hE.cell (hc1 k _ hx)
        have hcy := hE.cell (hc2 k _ hy)
        have HX := Lib.hid hx
        have HY := Lib.hid hy
        clear hx hy hc1 hc2
        generalize a[k] = x at *
        generalize b[k] = y at *
        have fx := FA.out.at_ HX.out
        have fy := FB.out.at_ HY.out
        by_cases hxy : small x = small y
        · have HQ := Lib.hid hxy
          have ht2 : ((small x).toList == (small y).toList) = true := by rw [hxy]; exact str_same _
          clear hxy
          go_wp2
          go_region_with (first | (go_at_call 131; refine (ref_Small _ _ (by assumption)).mono ?_; rintro e w1 ⟨rfl, h1⟩; have hcy := h1.cell hcy; have hcx := h1.cell hcx; have hE : Ext w _ := (by first | exact Ext.trans hE h1 | exact Ext.trans (Ext.drew hE) h1); clear h1))
          all_goals go_wp2
          all_goals go_roundw
          all_goals first | exact ⟨k + 1, by omega, by go_num, map_take_succ_eq HX.out HY.out HQ.out hT.out, by assumption⟩ | (simp [intOf]; omega)
        · have HN := Lib.hid (map_ne HX.out HY.out hxy)
          have ht2 := str_diff hxy
          clear hxy
          go_wp2
          go_region_with (first | (go_at_call 131; refine (ref_Small _ _ (by assumption)).mono ?_; rintro e w1 ⟨rfl, h1⟩; have hcy := h1.cell hcy; have hcx := h1.cell hcx; have hE : Ext w _ := (by first | exact Ext.trans hE h1 | exact Ext.trans (Ext.drew hE) h1); clear h1))
          all_goals go_wp2
          all_goals go_ret
          all_goals exact ⟨ret_eq (dec_false HN.out), by assumption⟩
      · have HE := Lib.hid (eq_of_take (a := a.map small) (b := b.map small) (by simpa using HL.out) (by simp; omega) hT.out)
        go_wp2
        go_ret
        exact ⟨ret_eq (dec_true HE.out), hE⟩
  · obtain ⟨A, c, rfl, h1, h2⟩ := ha.form
    obtain ⟨A', c', rfl, h3, h4⟩ := hb.form
    have hne : ¬ a.map small = b.map small := fun h => hlen (by have := congrArg List.length h; simpa using this)
    have HN := Lib.hid hne
    have ht := len_ne hlen
    clear ha hb hlen hne
    go_enter Try.func81, Try.ntmps81
    go_wp2
    go_ret
    exact ⟨ret_eq (dec_false HN.out), Ext.refl _⟩
end Go.Proofs.Ytfnelkcllaaebaa
end
section
/- Contracts of the sizes and the sounds of names. No condition but that slices read as lists, and each string's size. -/
open Go.RowKit
set_option linter.unusedVariables false
set_option linter.unusedSimpArgs false
namespace Go.Proofs.Ytfnelkcllaaebaa
theorem nsize_take_succ {a : List Str} {k : Nat} {x : Str} (hx : a[k]? = some x) : nsize (a.take (k + 1)) = nsize (a.take k) + x.size + 1 := by
  have := nsize_append (a.take k) [x]
  rw [List.take_add_one, hx]
  simp only [nsize] at this
  simp only [Option.toList]
  omega
theorem nsize_take_le (a : List Str) (k : Nat) : nsize (a.take k) ≤ nsize a := by
  have := nsize_append (a.take k) (a.drop k)
  rw [List.take_append_drop] at this
  have h2 := nsize_ge (a.drop k)
  omega
theorem nsize_take_all {a : List Str} {k : Nat} (h : a.length ≤ k) : nsize (a.take k) = nsize a := by rw [List.take_of_length_le h]
def badL (x : Str) : Bool := decide (x.size = 0) || decide (63 < x.size)
theorem nsound_len {a : List Str} (h : 255 < a.length) : nsound a = false := by
  unfold nsound; have := nsize_ge a; simp; intro _; omega
theorem nsound_bad {a : List Str} (h : a.any badL = true) : nsound a = false := by
  unfold nsound
  rw [List.any_eq_true] at h
  obtain ⟨x, hx, hb⟩ := h
  simp only [badL, Bool.or_eq_true, decide_eq_true_eq] at hb
  rw [decide_eq_false_iff_not]
  rintro ⟨h1, _⟩
  have := h1 x hx
  omega
theorem nsound_good {a : List Str} (h : a.any badL = false) : nsound a = decide (nsize a ≤ 255) := by
  unfold nsound
  rw [List.any_eq_false] at h
  have : ∀ l ∈ a, 1 ≤ l.size ∧ l.size ≤ 63 := fun l hl => by
    have := h l hl
    simp only [badL, Bool.or_eq_true, decide_eq_true_eq] at this
    omega
  rw [decide_eq_decide]; exact ⟨fun h => h.2, fun h => ⟨this, h⟩⟩
theorem good_small {a : List Str} (h : a.any badL = false) (hl : a.length ≤ 255) : nsize a ≤ 20000 := by
  rw [List.any_eq_false] at h
  have := nsize_le a 63 (fun l hl => by have := h l hl; simp only [badL, Bool.or_eq_true, decide_eq_true_eq] at this; omega)
  omega
/-- name.Size. -/
theorem name_Size (va : Value) (a : List Str) (w : World) (ha : NameV w va a) (hs : nsize a ≤ maxI) :
    Calls Try.prog 140 #[va] w fun e w' => e = .returned (.int .i64 (nsize a)) ∧ w' = w := by
  unfold maxI at hs
  have HA := Lib.hid ha
  have hln := nsize_ge a
  obtain ⟨A, c, rfl, h1, h2⟩ := ha.form
  clear ha
  go_enter Try.func140, Try.ntmps140
  go_wp2
  go_loopw [3, 5, 8] (fun s _ i wr => ∃ k : Nat, k ≤ a.length ∧ i = .int .i64 k ∧ s = .int .i64 (nsize (a.take k)) ∧ wr = w) (fun _ _ i _ => a.length - (intOf i).toNat)
  case atStart => exact ⟨0, by omega, rfl, rfl, rfl⟩
  case round =>
    obtain ⟨k, hk, rfl, rfl, rfl⟩ := hrel
    by_cases hlt : k < a.length
    · obtain ⟨b, o, c1, e1, _, _, hc1⟩ := HA.out.opens (by omega)
      injection e1 with e1 e3 e4
      subst e1
      clear e3 e4
      have hx := List.getElem?_eq_getElem hlt
      have hcx := hc1 k _ hx
      have hns := nsize_take_succ hx
      have hle := nsize_take_le a (k + 1)
      clear hc1
      generalize a[k] = x at *
      clear hx
      have hxs : (x.size : Int) ≤ 9223372036854775807 := by omega
      go_wp2
      go_roundw
      case rel => exact ⟨k + 1, by omega, by go_num, by rw [hns]; go_num, trivial⟩
      case measure => simp [intOf]; omega
    · have HE := Lib.hid (nsize_take_all (a := a) (k := k) (by omega))
      go_wp2
      go_ret
      exact ⟨by rw [HE.out]; rfl, rfl⟩
/-- ref01.Size. -/
theorem ref_Size (va : Value) (a : List Str) (w : World) (ha : NameV w va a) (hs : nsize a ≤ maxI) :
    Calls Try.prog 40 #[va] w fun e w' => e = .returned (.int .i64 (nsize a)) ∧ w' = w := by
  unfold maxI at hs
  have HA := Lib.hid ha
  have hln := nsize_ge a
  obtain ⟨A, c, rfl, h1, h2⟩ := ha.form
  clear ha
  go_enter Try.func40, Try.ntmps40
  go_wp2
  go_loopw [3, 4] (fun s i wr => ∃ k : Nat, k ≤ a.length ∧ i = .int .i64 k ∧ s = .int .i64 (nsize (a.take k)) ∧ wr = w) (fun _ i _ => a.length - (intOf i).toNat)
  case atStart => exact ⟨0, by omega, rfl, rfl, rfl⟩
  case round =>
    obtain ⟨k, hk, rfl, rfl, rfl⟩ := hrel
    by_cases hlt : k < a.length
    · obtain ⟨b, o, c1, e1, _, _, hc1⟩ := HA.out.opens (by omega)
      injection e1 with e1 e3 e4
      subst e1
      clear e3 e4
      have hx := List.getElem?_eq_getElem hlt
      have hcx := hc1 k _ hx
      have hns := nsize_take_succ hx
      have hle := nsize_take_le a (k + 1)
      clear hc1
      generalize a[k] = x at *
      clear hx
      have hxs : (x.size : Int) ≤ 9223372036854775807 := by omega
      go_wp2
      go_roundw
      case rel => exact ⟨k + 1, by omega, by go_num, by rw [hns]; go_num, trivial⟩
      case measure => simp [intOf]; omega
    · have HE := Lib.hid (nsize_take_all (a := a) (k := k) (by omega))
      go_wp2
      go_ret
      exact ⟨by rw [HE.out]; rfl, rfl⟩
theorem empty_eq (x : Str) : x.toList.isEmpty = decide (x.size = 0) := by
  rw [ByteArray.toList_eq, ← bs_length]; unfold bs
  cases x.data.toList <;> simp
theorem badL_1 (x : Str) (h : x.toList = []) : true = badL x := by
  have := empty_eq x; rw [h] at this; unfold badL; rw [← this]; rfl
theorem badL_2 (x : Str) : (x.toList.isEmpty || decide ((63 : Int) < (x.size : Int))) = badL x := by
  unfold badL; rw [empty_eq, show decide ((63 : Int) < (x.size : Int)) = decide (63 < x.size) from by rw [decide_eq_decide]; omega]
/-- name.Sound$1. -/
theorem name_Sound1 (x : Str) (w : World) (hx : x.size ≤ maxI) :
    Calls Try.prog 139 #[.string x] w fun e w' => e = .returned (.bool (badL x)) ∧ Ext w w' := by
  unfold maxI at hx
  go_enter Try.func139, Try.ntmps139
  go_wp2
  · rename_i h
    go_ret
    exact ⟨ret_eq (bool_eq (badL_1 x h)), Ext.refl _⟩
  · go_ret
    exact ⟨ret_eq (bool_eq (badL_2 x)), Ext.refl _⟩
theorem le_255 {a : List Str} (h : nsound a = decide (nsize a ≤ 255)) : decide ((nsize a : Int) ≤ 255) = nsound a := by
  rw [h, decide_eq_decide]; omega
/-- name.Sound. -/
theorem name_Sound (va : Value) (a : List Str) (w : World) (ha : NameV w va a) (fa : Fits a) :
    Calls Try.prog 91 #[va] w fun e w' => e = .returned (.bool (nsound a)) ∧ Ext w w' := by
  have HA := Lib.hid ha
  have FA := Lib.hid fa
  obtain ⟨A, c, rfl, h1, h2⟩ := ha.form
  clear ha fa
  by_cases hl : 255 < a.length
  · have HE := Lib.hid (nsound_len hl)
    go_enter Try.func91, Try.ntmps91
    go_wp2
    go_ret
    exact ⟨by rw [HE.out]; rfl, Ext.refl _⟩
  · have HC := Lib.hid (containsFunc_S 139 #[] (fun _ _ => by kernel_rfl) badL _ a w HA.out (fun x w' hx _ => name_Sound1 x w' (FA.out x hx)))
    cases hb : a.any badL with
    | true =>
      have HE := Lib.hid (nsound_bad hb)
      rw [hb] at HC
      clear hb
      go_enter Try.func91, Try.ntmps91
      go_wp2_with (go_at_call 95; refine (HC.out).mono ?_; rintro e w1 ⟨rfl, h1⟩)
      go_ret
      exact ⟨by rw [HE.out]; rfl, h1⟩
    | false =>
      have HE := Lib.hid (nsound_good hb)
      have hsm := good_small hb (by omega)
      rw [hb] at HC
      clear hb
      go_enter Try.func91, Try.ntmps91
      go_wp2_with fail
      refine (HC.out).mono ?_
      rintro e w1 ⟨rfl, h1⟩
      have HS := Lib.hid (name_Size _ a w1 (HA.out.ext h1) (by unfold maxI; omega))
      go_wp2_with fail
      refine (HS.out).mono ?_
      rintro e w2 ⟨rfl, rfl⟩
      go_wp2
      go_ret
      exact ⟨ret_eq (bool_eq (le_255 HE.out)), h1⟩
theorem nsound_len2 {a : List Str} (h : 127 < a.length) : nsound a = false := by
  unfold nsound
  rw [decide_eq_false_iff_not]
  rintro ⟨h1, h2⟩
  have := nsize_ge2 a (fun l hl => (h1 l hl).1)
  omega
theorem nsound_hit {a : List Str} {k : Nat} {x : Str} (hx : a[k]? = some x) (h : x.size < 1 ∨ 63 < x.size) : nsound a = false := by
  refine nsound_bad (List.any_eq_true.2 ⟨x, List.mem_of_getElem? hx, ?_⟩)
  unfold badL
  rcases h with h | h
  · rw [decide_eq_true (show x.size = 0 by omega)]; rfl
  · rw [decide_eq_true h, Bool.or_true]
theorem good_step {a : List Str} {k : Nat} {x : Str} (hx : a[k]? = some x) (h : ¬ (x.size < 1 ∨ 63 < x.size)) (ht : (a.take k).any badL = false) : (a.take (k + 1)).any badL = false := by
  rw [List.take_add_one, hx, List.any_append, ht]
  simp only [Option.toList, List.any_cons, List.any_nil, badL]
  rw [decide_eq_false (show ¬ x.size = 0 by omega), decide_eq_false (show ¬ 63 < x.size by omega)]; rfl
/-- ref01.Sound. -/
theorem ref_Sound (va : Value) (a : List Str) (w : World) (ha : NameV w va a) :
    Calls Try.prog 57 #[va] w fun e w' => e = .returned (.bool (nsound a)) ∧ w' = w := by
  have HA := Lib.hid ha
  obtain ⟨A, c, rfl, h1, h2⟩ := ha.form
  clear ha
  by_cases hl : 127 < a.length
  · have HE := Lib.hid (nsound_len2 hl)
    go_enter Try.func57, Try.ntmps57
    go_wp2
    go_ret
    exact ⟨by rw [HE.out]; rfl, rfl⟩
  · go_enter Try.func57, Try.ntmps57
    go_wp2
    go_loopw [3] (fun i wr => ∃ k : Nat, k ≤ a.length ∧ i = .int .i64 k ∧ Hid ((a.take k).any badL = false) ∧ wr = w) (fun i _ => a.length - (intOf i).toNat)
    case atStart => exact ⟨0, by omega, rfl, rfl, rfl⟩
    case round =>
      obtain ⟨k, hk, rfl, hT, rfl⟩ := hrel
      by_cases hlt : k < a.length
      · obtain ⟨b, o, c1, e1, _, _, hc1⟩ := HA.out.opens (by omega)
        injection e1 with e1 e3 e4
        subst e1
        clear e3 e4
        have hx := List.getElem?_eq_getElem hlt
        have hcx := hc1 k _ hx
        have HX := Lib.hid hx
        clear hc1 hx
        generalize a[k] = x at *
        go_wp2
        all_goals first
          | (go_roundw
             case rel => exact ⟨k + 1, by omega, by go_num, good_step HX.out (by omega) hT.out, trivial⟩
             case measure => simp [intOf]; omega)
          | (have HE := Lib.hid (nsound_hit HX.out (by omega))
             go_ret
             exact ⟨by rw [HE.out]; rfl, rfl⟩)
      · have hT2 := hT.out
        rw [List.take_of_length_le (by omega)] at hT2
        have HE := Lib.hid (nsound_good hT2)
        have HS := Lib.hid (ref_Size _ a wr HA.out (by have := good_small hT2 (by omega); unfold maxI; omega))
        clear hT2
        go_wp2_with fail
        refine (HS.out).mono ?_
        rintro e w2 ⟨rfl, rfl⟩
        go_wp2
        go_ret
        exact ⟨ret_eq (bool_eq (le_255 HE.out)), rfl⟩
end Go.Proofs.Ytfnelkcllaaebaa
end
