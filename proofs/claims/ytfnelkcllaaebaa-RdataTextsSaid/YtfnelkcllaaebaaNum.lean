/- Contracts of the functions on numbers as bytes: Fits (both), Get, shapes' friends. No condition but that slices read as lists. -/
import Derived.Test.YtfnelkcllaaebaaMem
import Derived.Test.YtfnelkcllaaebaaModN
open Go.RowKit
namespace Go.Proofs.Ytfnelkcllaaebaa
set_option maxHeartbeats 400000 in
/-- num.Fits. -/
theorem num_Fits (n size : Int) (w : World) :
    Calls Try.prog 94 #[.int .i64 n, .int .i64 size] w fun e w' => e = .returned (.bool (fits n size)) ∧ w = w' := by
  by_cases h : 1 ≤ size ∧ size ≤ 7 ∧ 0 ≤ n
  · obtain ⟨h1, h2, h3⟩ := h
    have hf := fits_div n size h1 h2 h3
    have H := Lib.hid hf; clear hf
    go_enter Try.func94, Try.ntmps94
    go_wp2
    go_ret
    exact ⟨ret_eq (bool_eq H.out), rfl⟩
  · have hf := fits_no n size h
    have H := Lib.hid hf; clear hf
    by_cases h1 : 1 ≤ size
    · by_cases h2 : size ≤ 7
      · have h3 : ¬ 0 ≤ n := fun h3 => h ⟨h1, h2, h3⟩
        clear h
        go_enter Try.func94, Try.ntmps94
        go_wp2
        go_ret
        exact ⟨ret_eq (bool_eq H.out.symm), rfl⟩
      · clear h
        go_enter Try.func94, Try.ntmps94
        go_wp2
        go_ret
        exact ⟨ret_eq (bool_eq H.out.symm), rfl⟩
    · clear h
      go_enter Try.func94, Try.ntmps94
      go_wp2
      go_ret
      exact ⟨ret_eq (bool_eq H.out.symm), rfl⟩
set_option maxHeartbeats 400000 in
/-- ref01.Fits. -/
theorem ref_Fits (n size : Int) (w : World) (hn : n ≤ 9223372036854775807) :
    Calls Try.prog 106 #[.int .i64 n, .int .i64 size] w fun e w' => e = .returned (.bool (fits n size)) ∧ w = w' := by
  by_cases h : 1 ≤ size ∧ size ≤ 7 ∧ 0 ≤ n
  · obtain ⟨h1, h2, h3⟩ := h
    have hf := fits_div' n size h1 h2 h3
    have H := Lib.hid hf; clear hf
    go_enter Try.func106, Try.ntmps106
    go_wp2
    go_loop [0, 5] (fun m i => ∃ k : Nat, (k : Int) ≤ size ∧ i = .int .i64 k ∧ m = .int .i64 (n / 256 ^ k)) (fun _ i => size.toNat - (intOf i).toNat)
    case atStart => exact ⟨0, by omega, rfl, by simp⟩
    case round =>
      obtain ⟨k, hk, rfl, rfl⟩ := hrel
      have hd := Lib.hid (div_div_256 n k)
      have hp : 0 ≤ n / 256 ^ k := Int.ediv_nonneg h3 (Int.le_of_lt (pow256_pos k))
      have hp2 : n / 256 ^ k ≤ 9223372036854775807 := Int.le_trans (Int.ediv_le_self _ h3) hn
      by_cases hlt : (k : Int) < size
      · go_wp2
        go_round
        case rel => exact ⟨k + 1, by omega, by go_num, by rw [← hd.out]⟩
        case measure => simp [intOf]; omega
      · go_wp2
        go_ret
        have e : size.toNat = k := by omega
        have H' := H.out
        rw [e] at H'
        exact ⟨ret_eq (bool_eq H'), rfl⟩
  · have hf := fits_no n size h
    have H := Lib.hid hf; clear hf
    have hcase : size < 1 ∨ 7 < size ∨ n < 0 := by omega
    clear h
    rcases hcase with h1 | h1 | h1
    · go_enter Try.func106, Try.ntmps106
      go_wp2
      go_ret
      exact ⟨ret_eq (bool_eq H.out.symm), rfl⟩
    · go_enter Try.func106, Try.ntmps106
      go_wp2
      all_goals
        go_ret
        exact ⟨ret_eq (bool_eq H.out.symm), rfl⟩
    · by_cases h2 : 1 ≤ size
      · by_cases h3 : size ≤ 7
        · go_enter Try.func106, Try.ntmps106
          go_wp2
          go_ret
          exact ⟨ret_eq (bool_eq H.out.symm), rfl⟩
        · go_enter Try.func106, Try.ntmps106
          go_wp2
          go_ret
          exact ⟨ret_eq (bool_eq H.out.symm), rfl⟩
      · go_enter Try.func106, Try.ntmps106
        go_wp2
        go_ret
        exact ⟨ret_eq (bool_eq H.out.symm), rfl⟩
theorem ret2_int {a b c d : Int} (h : (a, b) = (c, d)) : Ending.returned (.tuple #[.int .i64 a, .int .i64 b]) = .returned (.tuple #[.int .i64 c, .int .i64 d]) := by
  injection h with h1 h2; rw [h1, h2]
set_option maxHeartbeats 400000 in
/-- num.Get. -/
theorem num_Get (v : Value) (l : List UInt8) (at_ size : Int) (w : World) (hv : BytesV w v l) (hat : at_ ≤ 9223372036854775807) :
    Calls Try.prog 127 #[v, .int .i64 at_, .int .i64 size] w fun e w' => e = .returned (.tuple #[.int .i64 (getN l at_ size).1, .int .i64 (getN l at_ size).2]) ∧ w = w' := by
  by_cases h : 1 ≤ size ∧ size ≤ 7 ∧ 0 ≤ at_
  · obtain ⟨h1, h2, h3⟩ := h
    by_cases hs : at_ + size ≤ (l.length : Int)
    · obtain ⟨b, o, c, rfl, hl, hc, hcell⟩ := hv.opens (by omega)
      have hf := getN_ok l at_ size ⟨h1, h2, h3⟩ hs
      have H := Lib.hid hf; clear hf
      unfold maxI at hc
      have HC := Lib.hid hcell; clear hcell
      go_enter Try.func127, Try.ntmps127
      go_wp2
      go_loop [8, 10, 42] (fun n x i => ∃ k : Nat, (k : Int) ≤ size ∧ i = .int .i64 k ∧ n = .int .i64 (beN ((l.drop at_.toNat).take k))) (fun _ _ i => size.toNat - (intOf i).toNat)
      case atStart => exact ⟨0, by omega, rfl, rfl⟩
      case round =>
        obtain ⟨k, hk, rfl, rfl⟩ := hrel
        by_cases hlt : (k:Int) < size
        · have hj : at_.toNat + k < l.length := by omega
          have hx : l[at_.toNat + k]? = some l[at_.toNat + k] := List.getElem?_eq_getElem hj
          have hcl := HC.out (at_.toNat + k) _ hx
          rw [← Nat.add_assoc] at hcl
          have hb := beN_take_lt l at_.toNat k (by omega)
          have hsn := Lib.hid (take_drop_snoc l at_.toNat k _ hx)
          generalize l[at_.toNat + k] = x at *
          have hx2 := x.toNat_lt
          clear hx
          have hsn2 := Lib.hid (beN_snoc ((l.drop at_.toNat).take k) x)
          generalize hn : beN ((l.drop at_.toNat).take k) = n at *
          clear hn
          have hor := or_byte_i64 n x hb
          go_wp2
          go_round
          case rel => exact ⟨k + 1, by omega, by go_num, by rw [hsn.out, hsn2.out]; go_num⟩
          case measure => simp [intOf]; omega
        · go_wp2
          go_ret2
          have e : size.toNat = k := by omega
          have H' := H.out
          rw [e] at H'
          rw [H']
          exact ⟨rfl, rfl⟩
    · have hf := getN_short l at_ size ⟨h1, h2, h3⟩ (by omega)
      have H := Lib.hid hf; clear hf
      obtain ⟨A, c, rfl, hl, hc⟩ := hv.form
      unfold maxI at hc
      by_cases h4 : at_ ≤ (l.length : Int)
      · go_enter Try.func127, Try.ntmps127
        go_wp2
        go_ret2
        exact ⟨ret2_int H.out.symm, rfl⟩
      · go_enter Try.func127, Try.ntmps127
        go_wp2
        go_ret2
        exact ⟨ret2_int H.out.symm, rfl⟩
  · have hf := getN_arg l at_ size h
    have H := Lib.hid hf; clear hf
    obtain ⟨A, c, rfl, hl, hc⟩ := hv.form
    have hcase : size < 1 ∨ 7 < size ∨ at_ < 0 := by omega
    clear h
    rcases hcase with h1 | h1 | h1
    · go_enter Try.func127, Try.ntmps127
      go_wp2
      go_ret2
      exact ⟨ret2_int H.out.symm, rfl⟩
    · go_enter Try.func127, Try.ntmps127
      go_wp2
      go_ret2
      exact ⟨ret2_int H.out.symm, rfl⟩
    · by_cases h2 : 1 ≤ size
      · by_cases h3 : size ≤ 7
        · go_enter Try.func127, Try.ntmps127
          go_wp2
          go_ret2
          exact ⟨ret2_int H.out.symm, rfl⟩
        · go_enter Try.func127, Try.ntmps127
          go_wp2
          go_ret2
          exact ⟨ret2_int H.out.symm, rfl⟩
      · go_enter Try.func127, Try.ntmps127
        go_wp2
        go_ret2
        exact ⟨ret2_int H.out.symm, rfl⟩
end Go.Proofs.Ytfnelkcllaaebaa
