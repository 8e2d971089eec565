/- Contracts: the same lists? No condition but that slices read as lists. -/
import Derived.Test.YtfnelkcllaaebaaMem
import Derived.Test.YtfnelkcllaaebaaModS
open Go.RowKit
set_option linter.unusedVariables false
set_option linter.unusedSimpArgs false
namespace Go.Proofs.Ytfnelkcllaaebaa
theorem eq_of_take {α : Type} {a b : List α} {k : Nat} (hl : a.length = b.length) (hk : a.length ≤ k) (h : a.take k = b.take k) : a = b := by
  rw [List.take_of_length_le hk, List.take_of_length_le (by omega)] at h; exact h
theorem take_succ_eq {α : Type} {a b : List α} {k : Nat} {x : α} (ha : a[k]? = some x) (hb : b[k]? = some x) (h : a.take k = b.take k) : a.take (k + 1) = b.take (k + 1) := by
  rw [List.take_add_one, List.take_add_one, ha, hb, h]
theorem ne_of_at {α : Type} {a b : List α} {k : Nat} {x y : α} (ha : a[k]? = some x) (hb : b[k]? = some y) (h : x ≠ y) : a ≠ b := by
  rintro rfl; rw [ha] at hb; injection hb with hb; exact h hb
theorem dec_true {p : Prop} [Decidable p] (h : p) : Value.bool true = .bool (decide p) := by rw [decide_eq_true h]
theorem dec_false {p : Prop} [Decidable p] (h : ¬ p) : Value.bool false = .bool (decide p) := by rw [decide_eq_false h]
theorem len_ne {a b : Nat} (h : ¬ a = b) : ((a : Int) != (b : Int)) = true := by rw [bne_iff_ne]; omega
theorem len_eq {a b : Nat} (h : a = b) : ((a : Int) != (b : Int)) = false := by rw [h]; simp
theorem byte_ne {x y : UInt8} (h : ¬ x = y) : ((x.toNat : Int) != (y.toNat : Int)) = true := by
  rw [bne_iff_ne]; intro h2; exact h (UInt8.toNat_inj.1 (by omega))
theorem byte_eq (x : UInt8) : ((x.toNat : Int) != (x.toNat : Int)) = false := by simp
theorem int_ne {x y : Int} (h : ¬ x = y) : (x != y) = true := by rw [bne_iff_ne]; exact h
theorem int_eq' (x : Int) : (x != x) = false := by simp
theorem str_same (x : ByteArray) : (x.toList == x.toList) = true := by simp
theorem str_diff {x y : ByteArray} (h : ¬ x = y) : (x.toList == y.toList) = false := by
  rw [beq_eq_false_iff_ne]; intro h2; rw [ByteArray.toList_eq, ByteArray.toList_eq] at h2; exact h (bs_inj h2)

/-- ref_Exact. -/
theorem ref_Exact (va vb : Value) (a b : List ByteArray) (w : World) (ha : NameV w va a) (hb : NameV w vb b) :
    Calls Try.prog 55 #[va, vb] w fun e w' => e = .returned (.bool (decide (a = b))) ∧ Dr w w' := by
  have hla := ha.len
  have hlb := hb.len
  unfold maxI at hla hlb
  by_cases hlen : a.length = b.length
  · have HA := Lib.hid ha
    have HB := Lib.hid hb
    obtain ⟨A, c, rfl, h1, h2⟩ := ha.form
    obtain ⟨A', c', rfl, h3, h4⟩ := hb.form
    have ht := len_eq hlen
    clear ha hb
    have HL := Lib.hid hlen
    clear hlen
    go_enter Try.func55, Try.ntmps55
    go_wp2
    go_loopw [5] (fun i wr => ∃ k : Nat, k ≤ a.length ∧ i = .int .i64 k ∧ Hid (a.take k = b.take k) ∧ Dr w wr) (fun i _ => a.length - (intOf i).toNat)
    case atStart => exact ⟨0, by omega, rfl, rfl, Dr.refl _⟩
    case round =>
      obtain ⟨k, hk, rfl, hT, hD⟩ := hrel
      by_cases hlt : k < a.length
      · have hb1 : k < b.length := by have := HL.out; omega
        obtain ⟨b1, o1, c1, e1, _, _, hc1⟩ := HA.out.opens (by omega)
        obtain ⟨b2, o2, c2, e2, _, _, hc2⟩ := HB.out.opens (by omega)
        injection e1 with e1 e3 e4
        injection e2 with e2 e5 e6
        subst e1 e2
        clear e3 e4 e5 e6
        have hx := List.getElem?_eq_getElem hlt
        have hy := List.getElem?_eq_getElem hb1
        obtain ⟨n, rfl⟩ := hD
        have hcx := hc1 k _ hx
        have hcy := hc2 k _ hy
        have HX := Lib.hid hx
        have HY := Lib.hid hy
        clear hx hy hc1 hc2
        generalize a[k] = x at *
        generalize b[k] = y at *
        by_cases hxy : x = y
        · subst hxy
          have ht2 := str_same x
          go_wp2
          go_quiet (fail)
          go_wp2
          go_roundw
          case rel => exact ⟨k + 1, by omega, by go_num, take_succ_eq HX.out HY.out hT.out, ⟨_, rfl⟩⟩
          case measure => simp [intOf]; omega
        · have ht2 := str_diff hxy
          have HN := Lib.hid (ne_of_at HX.out HY.out hxy)
          clear hxy
          go_wp2
          go_quiet (fail)
          go_wp2
          go_ret
          exact ⟨ret_eq (dec_false HN.out), by first | exact ⟨_, rfl⟩ | exact ⟨_, World.drewN_drewN ..⟩⟩
      · have HE := Lib.hid (eq_of_take HL.out (by omega) hT.out)
        go_wp2
        go_ret
        exact ⟨ret_eq (dec_true HE.out), hD⟩
  · obtain ⟨A, c, rfl, h1, h2⟩ := ha.form
    obtain ⟨A', c', rfl, h3, h4⟩ := hb.form
    have hne : ¬ a = b := fun h => hlen (by rw [h])
    have HN := Lib.hid hne
    have ht := len_ne hlen
    clear ha hb hlen hne
    go_enter Try.func55, Try.ntmps55
    go_wp2
    go_ret
    exact ⟨ret_eq (dec_false HN.out), Dr.refl _⟩

/-- ref_Same. -/
theorem ref_Same (va vb : Value) (a b : List UInt8) (w : World) (ha : BytesV w va a) (hb : BytesV w vb b) :
    Calls Try.prog 39 #[va, vb] w fun e w' => e = .returned (.bool (decide (a = b))) ∧ Dr w w' := by
  have hla := ha.len
  have hlb := hb.len
  unfold maxI at hla hlb
  by_cases hlen : a.length = b.length
  · have HA := Lib.hid ha
    have HB := Lib.hid hb
    obtain ⟨A, c, rfl, h1, h2⟩ := ha.form
    obtain ⟨A', c', rfl, h3, h4⟩ := hb.form
    have ht := len_eq hlen
    clear ha hb
    have HL := Lib.hid hlen
    clear hlen
    go_enter Try.func39, Try.ntmps39
    go_wp2
    go_loopw [5] (fun i wr => ∃ k : Nat, k ≤ a.length ∧ i = .int .i64 k ∧ Hid (a.take k = b.take k) ∧ Dr w wr) (fun i _ => a.length - (intOf i).toNat)
    case atStart => exact ⟨0, by omega, rfl, rfl, Dr.refl _⟩
    case round =>
      obtain ⟨k, hk, rfl, hT, hD⟩ := hrel
      by_cases hlt : k < a.length
      · have hb1 : k < b.length := by have := HL.out; omega
        obtain ⟨b1, o1, c1, e1, _, _, hc1⟩ := HA.out.opens (by omega)
        obtain ⟨b2, o2, c2, e2, _, _, hc2⟩ := HB.out.opens (by omega)
        injection e1 with e1 e3 e4
        injection e2 with e2 e5 e6
        subst e1 e2
        clear e3 e4 e5 e6
        have hx := List.getElem?_eq_getElem hlt
        have hy := List.getElem?_eq_getElem hb1
        obtain ⟨n, rfl⟩ := hD
        have hcx := hc1 k _ hx
        have hcy := hc2 k _ hy
        have HX := Lib.hid hx
        have HY := Lib.hid hy
        clear hx hy hc1 hc2
        generalize a[k] = x at *
        generalize b[k] = y at *
        by_cases hxy : x = y
        · subst hxy
          have ht2 := byte_eq x
          go_wp2
          go_quiet (fail)
          go_wp2
          go_roundw
          case rel => exact ⟨k + 1, by omega, by go_num, take_succ_eq HX.out HY.out hT.out, ⟨_, rfl⟩⟩
          case measure => simp [intOf]; omega
        · have ht2 := byte_ne hxy
          have HN := Lib.hid (ne_of_at HX.out HY.out hxy)
          clear hxy
          go_wp2
          go_quiet (fail)
          go_wp2
          go_ret
          exact ⟨ret_eq (dec_false HN.out), by first | exact ⟨_, rfl⟩ | exact ⟨_, World.drewN_drewN ..⟩⟩
      · have HE := Lib.hid (eq_of_take HL.out (by omega) hT.out)
        go_wp2
        go_ret
        exact ⟨ret_eq (dec_true HE.out), hD⟩
  · obtain ⟨A, c, rfl, h1, h2⟩ := ha.form
    obtain ⟨A', c', rfl, h3, h4⟩ := hb.form
    have hne : ¬ a = b := fun h => hlen (by rw [h])
    have HN := Lib.hid hne
    have ht := len_ne hlen
    clear ha hb hlen hne
    go_enter Try.func39, Try.ntmps39
    go_wp2
    go_ret
    exact ⟨ret_eq (dec_false HN.out), Dr.refl _⟩

/-- ref_Ints. -/
theorem ref_Ints (va vb : Value) (a b : List Int) (w : World) (ha : IntsV w va a) (hb : IntsV w vb b) :
    Calls Try.prog 86 #[va, vb] w fun e w' => e = .returned (.bool (decide (a = b))) ∧ Dr w w' := by
  have hla := ha.len
  have hlb := hb.len
  unfold maxI at hla hlb
  by_cases hlen : a.length = b.length
  · have HA := Lib.hid ha
    have HB := Lib.hid hb
    obtain ⟨A, c, rfl, h1, h2⟩ := ha.form
    obtain ⟨A', c', rfl, h3, h4⟩ := hb.form
    have ht := len_eq hlen
    clear ha hb
    have HL := Lib.hid hlen
    clear hlen
    go_enter Try.func86, Try.ntmps86
    go_wp2
    go_loopw [5] (fun i wr => ∃ k : Nat, k ≤ a.length ∧ i = .int .i64 k ∧ Hid (a.take k = b.take k) ∧ Dr w wr) (fun i _ => a.length - (intOf i).toNat)
    case atStart => exact ⟨0, by omega, rfl, rfl, Dr.refl _⟩
    case round =>
      obtain ⟨k, hk, rfl, hT, hD⟩ := hrel
      by_cases hlt : k < a.length
      · have hb1 : k < b.length := by have := HL.out; omega
        obtain ⟨b1, o1, c1, e1, _, _, hc1⟩ := HA.out.opens (by omega)
        obtain ⟨b2, o2, c2, e2, _, _, hc2⟩ := HB.out.opens (by omega)
        injection e1 with e1 e3 e4
        injection e2 with e2 e5 e6
        subst e1 e2
        clear e3 e4 e5 e6
        have hx := List.getElem?_eq_getElem hlt
        have hy := List.getElem?_eq_getElem hb1
        obtain ⟨n, rfl⟩ := hD
        have hcx := hc1 k _ hx
        have hcy := hc2 k _ hy
        have HX := Lib.hid hx
        have HY := Lib.hid hy
        clear hx hy hc1 hc2
        generalize a[k] = x at *
        generalize b[k] = y at *
        by_cases hxy : x = y
        · subst hxy
          have ht2 := int_eq' x
          go_wp2
          go_quiet (fail)
          go_wp2
          go_roundw
          case rel => exact ⟨k + 1, by omega, by go_num, take_succ_eq HX.out HY.out hT.out, ⟨_, rfl⟩⟩
          case measure => simp [intOf]; omega
        · have ht2 := int_ne hxy
          have HN := Lib.hid (ne_of_at HX.out HY.out hxy)
          clear hxy
          go_wp2
          go_quiet (fail)
          go_wp2
          go_ret
          exact ⟨ret_eq (dec_false HN.out), by first | exact ⟨_, rfl⟩ | exact ⟨_, World.drewN_drewN ..⟩⟩
      · have HE := Lib.hid (eq_of_take HL.out (by omega) hT.out)
        go_wp2
        go_ret
        exact ⟨ret_eq (dec_true HE.out), hD⟩
  · obtain ⟨A, c, rfl, h1, h2⟩ := ha.form
    obtain ⟨A', c', rfl, h3, h4⟩ := hb.form
    have hne : ¬ a = b := fun h => hlen (by rw [h])
    have HN := Lib.hid hne
    have ht := len_ne hlen
    clear ha hb hlen hne
    go_enter Try.func86, Try.ntmps86
    go_wp2
    go_ret
    exact ⟨ret_eq (dec_false HN.out), Dr.refl _⟩

/-- slices_EqualB. -/
theorem slices_EqualB (va vb : Value) (a b : List UInt8) (w : World) (ha : BytesV w va a) (hb : BytesV w vb b) :
    Calls Try.prog 82 #[va, vb] w fun e w' => e = .returned (.bool (decide (a = b))) ∧ Dr w w' := by
  have hla := ha.len
  have hlb := hb.len
  unfold maxI at hla hlb
  by_cases hlen : a.length = b.length
  · have HA := Lib.hid ha
    have HB := Lib.hid hb
    obtain ⟨A, c, rfl, h1, h2⟩ := ha.form
    obtain ⟨A', c', rfl, h3, h4⟩ := hb.form
    have ht := len_eq hlen
    clear ha hb
    have HL := Lib.hid hlen
    clear hlen
    go_enter Try.func82, Try.ntmps82
    go_wp2
    go_loopw [5, 13] (fun u i wr => ∃ k : Nat, k ≤ a.length ∧ i = .int .i64 k ∧ Hid (a.take k = b.take k) ∧ Dr w wr) (fun _ i _ => a.length - (intOf i).toNat)
    case atStart => exact ⟨0, by omega, rfl, rfl, Dr.refl _⟩
    case round =>
      obtain ⟨k, hk, rfl, hT, hD⟩ := hrel
      by_cases hlt : k < a.length
      · have hb1 : k < b.length := by have := HL.out; omega
        obtain ⟨b1, o1, c1, e1, _, _, hc1⟩ := HA.out.opens (by omega)
        obtain ⟨b2, o2, c2, e2, _, _, hc2⟩ := HB.out.opens (by omega)
        injection e1 with e1 e3 e4
        injection e2 with e2 e5 e6
        subst e1 e2
        clear e3 e4 e5 e6
        have hx := List.getElem?_eq_getElem hlt
        have hy := List.getElem?_eq_getElem hb1
        obtain ⟨n, rfl⟩ := hD
        have hcx := hc1 k _ hx
        have hcy := hc2 k _ hy
        have HX := Lib.hid hx
        have HY := Lib.hid hy
        clear hx hy hc1 hc2
        generalize a[k] = x at *
        generalize b[k] = y at *
        by_cases hxy : x = y
        · subst hxy
          have ht2 := byte_eq x
          go_wp2
          go_quiet (fail)
          go_wp2
          go_roundw
          case rel => exact ⟨k + 1, by omega, by go_num, take_succ_eq HX.out HY.out hT.out, ⟨_, rfl⟩⟩
          case measure => simp [intOf]; omega
        · have ht2 := byte_ne hxy
          have HN := Lib.hid (ne_of_at HX.out HY.out hxy)
          clear hxy
          go_wp2
          go_quiet (fail)
          go_wp2
          go_ret
          exact ⟨ret_eq (dec_false HN.out), by first | exact ⟨_, rfl⟩ | exact ⟨_, World.drewN_drewN ..⟩⟩
      · have HE := Lib.hid (eq_of_take HL.out (by omega) hT.out)
        go_wp2
        go_ret
        exact ⟨ret_eq (dec_true HE.out), hD⟩
  · obtain ⟨A, c, rfl, h1, h2⟩ := ha.form
    obtain ⟨A', c', rfl, h3, h4⟩ := hb.form
    have hne : ¬ a = b := fun h => hlen (by rw [h])
    have HN := Lib.hid hne
    have ht := len_ne hlen
    clear ha hb hlen hne
    go_enter Try.func82, Try.ntmps82
    go_wp2
    go_ret
    exact ⟨ret_eq (dec_false HN.out), Dr.refl _⟩

/-- slices_EqualI. -/
theorem slices_EqualI (va vb : Value) (a b : List Int) (w : World) (ha : IntsV w va a) (hb : IntsV w vb b) :
    Calls Try.prog 83 #[va, vb] w fun e w' => e = .returned (.bool (decide (a = b))) ∧ Dr w w' := by
  have hla := ha.len
  have hlb := hb.len
  unfold maxI at hla hlb
  by_cases hlen : a.length = b.length
  · have HA := Lib.hid ha
    have HB := Lib.hid hb
    obtain ⟨A, c, rfl, h1, h2⟩ := ha.form
    obtain ⟨A', c', rfl, h3, h4⟩ := hb.form
    have ht := len_eq hlen
    clear ha hb
    have HL := Lib.hid hlen
    clear hlen
    go_enter Try.func83, Try.ntmps83
    go_wp2
    go_loopw [5, 13] (fun u i wr => ∃ k : Nat, k ≤ a.length ∧ i = .int .i64 k ∧ Hid (a.take k = b.take k) ∧ Dr w wr) (fun _ i _ => a.length - (intOf i).toNat)
    case atStart => exact ⟨0, by omega, rfl, rfl, Dr.refl _⟩
    case round =>
      obtain ⟨k, hk, rfl, hT, hD⟩ := hrel
      by_cases hlt : k < a.length
      · have hb1 : k < b.length := by have := HL.out; omega
        obtain ⟨b1, o1, c1, e1, _, _, hc1⟩ := HA.out.opens (by omega)
        obtain ⟨b2, o2, c2, e2, _, _, hc2⟩ := HB.out.opens (by omega)
        injection e1 with e1 e3 e4
        injection e2 with e2 e5 e6
        subst e1 e2
        clear e3 e4 e5 e6
        have hx := List.getElem?_eq_getElem hlt
        have hy := List.getElem?_eq_getElem hb1
        obtain ⟨n, rfl⟩ := hD
        have hcx := hc1 k _ hx
        have hcy := hc2 k _ hy
        have HX := Lib.hid hx
        have HY := Lib.hid hy
        clear hx hy hc1 hc2
        generalize a[k] = x at *
        generalize b[k] = y at *
        by_cases hxy : x = y
        · subst hxy
          have ht2 := int_eq' x
          go_wp2
          go_quiet (fail)
          go_wp2
          go_roundw
          case rel => exact ⟨k + 1, by omega, by go_num, take_succ_eq HX.out HY.out hT.out, ⟨_, rfl⟩⟩
          case measure => simp [intOf]; omega
        · have ht2 := int_ne hxy
          have HN := Lib.hid (ne_of_at HX.out HY.out hxy)
          clear hxy
          go_wp2
          go_quiet (fail)
          go_wp2
          go_ret
          exact ⟨ret_eq (dec_false HN.out), by first | exact ⟨_, rfl⟩ | exact ⟨_, World.drewN_drewN ..⟩⟩
      · have HE := Lib.hid (eq_of_take HL.out (by omega) hT.out)
        go_wp2
        go_ret
        exact ⟨ret_eq (dec_true HE.out), hD⟩
  · obtain ⟨A, c, rfl, h1, h2⟩ := ha.form
    obtain ⟨A', c', rfl, h3, h4⟩ := hb.form
    have hne : ¬ a = b := fun h => hlen (by rw [h])
    have HN := Lib.hid hne
    have ht := len_ne hlen
    clear ha hb hlen hne
    go_enter Try.func83, Try.ntmps83
    go_wp2
    go_ret
    exact ⟨ret_eq (dec_false HN.out), Dr.refl _⟩

/-- slices_EqualS. -/
theorem slices_EqualS (va vb : Value) (a b : List ByteArray) (w : World) (ha : NameV w va a) (hb : NameV w vb b) :
    Calls Try.prog 84 #[va, vb] w fun e w' => e = .returned (.bool (decide (a = b))) ∧ Dr w w' := by
  have hla := ha.len
  have hlb := hb.len
  unfold maxI at hla hlb
  by_cases hlen : a.length = b.length
  · have HA := Lib.hid ha
    have HB := Lib.hid hb
    obtain ⟨A, c, rfl, h1, h2⟩ := ha.form
    obtain ⟨A', c', rfl, h3, h4⟩ := hb.form
    have ht := len_eq hlen
    clear ha hb
    have HL := Lib.hid hlen
    clear hlen
    go_enter Try.func84, Try.ntmps84
    go_wp2
    go_loopw [5, 13] (fun u i wr => ∃ k : Nat, k ≤ a.length ∧ i = .int .i64 k ∧ Hid (a.take k = b.take k) ∧ Dr w wr) (fun _ i _ => a.length - (intOf i).toNat)
    case atStart => exact ⟨0, by omega, rfl, rfl, Dr.refl _⟩
    case round =>
      obtain ⟨k, hk, rfl, hT, hD⟩ := hrel
      by_cases hlt : k < a.length
      · have hb1 : k < b.length := by have := HL.out; omega
        obtain ⟨b1, o1, c1, e1, _, _, hc1⟩ := HA.out.opens (by omega)
        obtain ⟨b2, o2, c2, e2, _, _, hc2⟩ := HB.out.opens (by omega)
        injection e1 with e1 e3 e4
        injection e2 with e2 e5 e6
        subst e1 e2
        clear e3 e4 e5 e6
        have hx := List.getElem?_eq_getElem hlt
        have hy := List.getElem?_eq_getElem hb1
        obtain ⟨n, rfl⟩ := hD
        have hcx := hc1 k _ hx
        have hcy := hc2 k _ hy
        have HX := Lib.hid hx
        have HY := Lib.hid hy
        clear hx hy hc1 hc2
        generalize a[k] = x at *
        generalize b[k] = y at *
        by_cases hxy : x = y
        · subst hxy
          have ht2 := str_same x
          go_wp2
          go_quiet (fail)
          go_wp2
          go_roundw
          case rel => exact ⟨k + 1, by omega, by go_num, take_succ_eq HX.out HY.out hT.out, ⟨_, rfl⟩⟩
          case measure => simp [intOf]; omega
        · have ht2 := str_diff hxy
          have HN := Lib.hid (ne_of_at HX.out HY.out hxy)
          clear hxy
          go_wp2
          go_quiet (fail)
          go_wp2
          go_ret
          exact ⟨ret_eq (dec_false HN.out), by first | exact ⟨_, rfl⟩ | exact ⟨_, World.drewN_drewN ..⟩⟩
      · have HE := Lib.hid (eq_of_take HL.out (by omega) hT.out)
        go_wp2
        go_ret
        exact ⟨ret_eq (dec_true HE.out), hD⟩
  · obtain ⟨A, c, rfl, h1, h2⟩ := ha.form
    obtain ⟨A', c', rfl, h3, h4⟩ := hb.form
    have hne : ¬ a = b := fun h => hlen (by rw [h])
    have HN := Lib.hid hne
    have ht := len_ne hlen
    clear ha hb hlen hne
    go_enter Try.func84, Try.ntmps84
    go_wp2
    go_ret
    exact ⟨ret_eq (dec_false HN.out), Dr.refl _⟩
end Go.Proofs.Ytfnelkcllaaebaa
