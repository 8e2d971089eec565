/- Contract of law04.light. No condition but that slices read as lists. -/
import Derived.Test.YtfnelkcllaaebaaDSame
open Go.RowKit
set_option linter.unusedVariables false
set_option linter.unusedSimpArgs false
namespace Go.Proofs.Ytfnelkcllaaebaa
def shortL (m : Nat) (l : List Str) : Bool := l.all fun x => decide (x.size ≤ m)
def lightD (d : Dat) : Bool := shortL 300 d.host && (shortL 300 d.mail && (shortL 600 d.texts && decide (d.host.length ≤ 300 ∧ d.mail.length ≤ 300 ∧ d.texts.length ≤ 200 ∧ d.nums.length ≤ 200 ∧ d.bytes.length ≤ 70000)))
theorem short_step {m : Nat} {l : List Str} {k : Nat} {x : Str} (hx : l[k]? = some x) (h : x.size ≤ m) (ht : shortL m (l.take k) = true) : shortL m (l.take (k + 1)) = true := by
  unfold shortL at *
  rw [List.take_add_one, hx, List.all_append, ht]
  simp [h]
theorem short_hit {m : Nat} {l : List Str} {k : Nat} {x : Str} (hx : l[k]? = some x) (h : m < x.size) : shortL m l = false := by
  unfold shortL
  rw [List.all_eq_false]
  exact ⟨x, List.mem_of_getElem? hx, by simp; omega⟩
theorem light_len {d : Dat} (h1 : shortL 300 d.host = true) (h2 : shortL 300 d.mail = true) (h3 : shortL 600 d.texts = true) :
    lightD d = decide (d.host.length ≤ 300 ∧ d.mail.length ≤ 300 ∧ d.texts.length ≤ 200 ∧ d.nums.length ≤ 200 ∧ d.bytes.length ≤ 70000) := by
  unfold lightD; rw [h1, h2, h3]; rfl
theorem light_1 {d : Dat} (h : shortL 300 d.host = false) : lightD d = false := by unfold lightD; rw [h]; rfl
theorem light_2 {d : Dat} (h : shortL 300 d.mail = false) : lightD d = false := by unfold lightD; rw [h]; simp
theorem light_3 {d : Dat} (h : shortL 600 d.texts = false) : lightD d = false := by unfold lightD; rw [h]; simp
theorem light_lens {d : Dat} (h : lightD d = true) : d.host.length ≤ 300 ∧ d.mail.length ≤ 300 ∧ d.texts.length ≤ 200 ∧ d.nums.length ≤ 200 ∧ d.bytes.length ≤ 70000 := by
  unfold lightD at h
  simp only [Bool.and_eq_true, decide_eq_true_eq] at h
  exact h.2.2.2
/-- The argument's box. -/
structure One (w W : World) (a0 a1 a2 a3 a4 : Value) : Prop where
  ext : Ext w W
  ha : W.heap[w.heap.size]? = some (.cells #[a0, a1, a2, a3, a4] 26 (0, 0))
theorem one_start (w : World) (a0 a1 a2 a3 a4 : Value) : One w (w.alloc (.cells #[a0, a1, a2, a3, a4] 26)) a0 a1 a2 a3 a4 := ⟨(Ext.refl _).alloc _, heap_alloc_new w _⟩
theorem One.ca {w W : World} {a0 a1 a2 a3 a4 : Value} (h : One w W a0 a1 a2 a3 a4) : W.cell? ⟨w.heap.size, 0, none⟩ = some a0 ∧ W.cell? ⟨w.heap.size, 1, none⟩ = some a1 ∧ W.cell? ⟨w.heap.size, 2, none⟩ = some a2 ∧ W.cell? ⟨w.heap.size, 3, none⟩ = some a3 ∧ W.cell? ⟨w.heap.size, 4, none⟩ = some a4 := by
  have := h.ha
  refine ⟨?_, ?_, ?_, ?_, ?_⟩ <;> simp [World.cell?, *]
set_option maxRecDepth 100000 in
set_option maxHeartbeats 1000000 in
/-- law04.light. -/
theorem law04_light (d : Dat) (v0 v1 v2 v3 v4 : Value) (w : World) (hd : DR w v0 v1 v2 v3 v4 d) :
    Calls Try.prog 26 #[.agg #[v0, v1, v2, v3, v4]] w fun e w' => e = .returned (.bool (lightD d)) ∧ Ext w w' := by
  have HD := Lib.hid hd
  have HO := Lib.hid (one_start w v0 v1 v2 v3 v4)
  obtain ⟨A0, k0, rfl, l0, m0⟩ := hd.by_.form
  obtain ⟨A1, k1, rfl, l1, m1⟩ := hd.ho.form
  obtain ⟨A2, k2, rfl, l2, m2⟩ := hd.ma.form
  obtain ⟨A3, k3, rfl, l3, m3⟩ := hd.nu.form
  obtain ⟨A4, k4, rfl, l4, m4⟩ := hd.tx.form
  unfold maxI at m0 m1 m2 m3 m4
  clear hd
  obtain ⟨c0, c1, c2, c3, c4⟩ := HO.out.ca
  go_enter Try.func26, Try.ntmps26
  go_wp2
  generalize hW : w.alloc (.cells #[.slice A0 d.bytes.length k0, .slice A1 d.host.length k1, .slice A2 d.mail.length k2, .slice A3 d.nums.length k3, .slice A4 d.texts.length k4] 26) = W at *
  clear hW
  go_loopw [3] (fun i wr => ∃ k : Nat, k ≤ d.host.length ∧ i = .int .i64 k ∧ Hid (shortL 300 (d.host.take k) = true) ∧ W = wr) (fun i _ => d.host.length - (intOf i).toNat)
  case atStart => exact ⟨0, by omega, rfl, rfl, rfl⟩
  case round =>
    obtain ⟨k, hk, rfl, hT, rfl⟩ := hrel
    by_cases hlt : k < d.host.length
    · obtain ⟨b, o, c', e1, _, _, hc1⟩ := HD.out.ho.opens (by omega)
      injection e1 with e1 e3 e4
      subst e1
      clear e3 e4
      have hx := List.getElem?_eq_getElem hlt
      have hcx := HO.out.ext.cell (hc1 k _ hx)
      have HX := Lib.hid hx
      clear hx hc1
      generalize d.host[k] = x at *
      go_wp2
      all_goals first
        | (go_roundw
           case rel => exact ⟨k + 1, by omega, by go_num, short_step HX.out (by omega) hT.out, by trivial⟩
           case measure => simp [intOf]; omega)
        | (have HE := Lib.hid (light_1 (short_hit (m := 300) HX.out (by omega)))
           go_ret
           exact ⟨by rw [HE.out]; rfl, HO.out.ext⟩)
    · have hT2 := hT.out
      rw [List.take_of_length_le (by omega)] at hT2
      have H1 := Lib.hid hT2
      clear hT2 hT
      go_wp2
      go_loopw [4] (fun i wr => ∃ k : Nat, k ≤ d.mail.length ∧ i = .int .i64 k ∧ Hid (shortL 300 (d.mail.take k) = true) ∧ W = wr) (fun i _ => d.mail.length - (intOf i).toNat)
      case atStart => exact ⟨0, by omega, rfl, rfl, rfl⟩
      case round =>
        obtain ⟨k, hk, rfl, hT, rfl⟩ := hrel
        by_cases hlt : k < d.mail.length
        · obtain ⟨b, o, c', e1, _, _, hc1⟩ := HD.out.ma.opens (by omega)
          injection e1 with e1 e3 e4
          subst e1
          clear e3 e4
          have hx := List.getElem?_eq_getElem hlt
          have hcx := HO.out.ext.cell (hc1 k _ hx)
          have HX := Lib.hid hx
          clear hx hc1
          generalize d.mail[k] = x at *
          go_wp2
          all_goals first
            | (go_roundw
               case rel => exact ⟨k + 1, by omega, by go_num, short_step HX.out (by omega) hT.out, by trivial⟩
               case measure => simp [intOf]; omega)
            | (have HE := Lib.hid (light_2 (short_hit (m := 300) HX.out (by omega)))
               go_ret
               exact ⟨by rw [HE.out]; rfl, HO.out.ext⟩)
        · have hT2 := hT.out
          rw [List.take_of_length_le (by omega)] at hT2
          have H2 := Lib.hid hT2
          clear hT2 hT
          go_wp2
          go_loopw [5] (fun i wr => ∃ k : Nat, k ≤ d.texts.length ∧ i = .int .i64 k ∧ Hid (shortL 600 (d.texts.take k) = true) ∧ W = wr) (fun i _ => d.texts.length - (intOf i).toNat)
          case atStart => exact ⟨0, by omega, rfl, rfl, rfl⟩
          case round =>
            obtain ⟨k, hk, rfl, hT, rfl⟩ := hrel
            by_cases hlt : k < d.texts.length
            · obtain ⟨b, o, c', e1, _, _, hc1⟩ := HD.out.tx.opens (by omega)
              injection e1 with e1 e3 e4
              subst e1
              clear e3 e4
              have hx := List.getElem?_eq_getElem hlt
              have hcx := HO.out.ext.cell (hc1 k _ hx)
              have HX := Lib.hid hx
              clear hx hc1
              generalize d.texts[k] = x at *
              go_wp2
              all_goals first
                | (go_roundw
                   case rel => exact ⟨k + 1, by omega, by go_num, short_step HX.out (by omega) hT.out, by trivial⟩
                   case measure => simp [intOf]; omega)
                | (have HE := Lib.hid (light_3 (short_hit (m := 600) HX.out (by omega)))
                   go_ret
                   exact ⟨by rw [HE.out]; rfl, HO.out.ext⟩)
            · have hT2 := hT.out
              rw [List.take_of_length_le (by omega)] at hT2
              have H3 := Lib.hid hT2
              clear hT2 hT
              go_wp2
              all_goals
                go_ret
                exact ⟨ret_eq (bool_eq (by rw [light_len H1.out H2.out H3.out]; first | (symm; rw [decide_eq_false_iff_not]; omega) | (rw [decide_eq_decide]; omega))), HO.out.ext⟩
end Go.Proofs.Ytfnelkcllaaebaa
