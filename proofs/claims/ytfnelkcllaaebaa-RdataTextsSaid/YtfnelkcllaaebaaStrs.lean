/- Contracts of the functions on strings and names. No condition but that slices read as lists (and the bounds that the theorems name). -/
import Derived.Test.YtfnelkcllaaebaaMem
import Derived.Test.YtfnelkcllaaebaaModS
open Go.RowKit
set_option linter.unusedVariables false
set_option linter.unusedSimpArgs false
namespace Go.Proofs.Ytfnelkcllaaebaa
theorem str_eq {a b : ByteArray} (h : a = b) : Value.string a = .string b := by rw [h]
theorem small_mix (s : ByteArray) (k : Nat) (h : s.size ≤ k) : ofB (mixB s.data.toList k) = small s := by
  rw [mixB_all _ _ (by have := bs_length s; unfold bs at this; omega)]; rfl
/-- name.small. -/
theorem name_small (s : ByteArray) (w : World) (hs : s.size ≤ maxI) :
    Calls Try.prog 134 #[.string s] w fun e w' => e = .returned (.string (small s)) ∧ Ext w w' := by
  have hcm := grownCap_le_maxLen w s.size 0 5 (by simpa [maxLen] using hs)
  have hcg := grownCap_ge w s.size 0 5
  have kb := fun w => Lib.run_convert_string_bytes (P := Try.prog) w 9 22 5 s Try.underlying9 Try.underlying22 Try.underlying5
  have hb0 := Lib.hid (blk_bytes w s)
  have he0 := Lib.hid (ext_bytes w s)
  unfold maxI at hs
  go_enter Try.func134, Try.ntmps134
  go_wp2
  generalize hg : grownCap w s.size 0 5 = c at *
  clear hg
  have hln := bs_length s
  unfold bs at hln
  go_loopw [4, 5, 10] (fun u4 u5 i wr => ∃ k : Nat, k ≤ s.size ∧ i = .int .i64 k ∧ Blk vByte 5 wr w.heap.size (mixB s.data.toList k) ∧ Ext w wr) (fun _ _ i _ => s.size - (intOf i).toNat)
  case atStart => exact ⟨0, by omega, rfl, hb0.out, he0.out⟩
  case round =>
    obtain ⟨k, hk, rfl, hB, hE⟩ := hrel
    by_cases hlt : k < s.size
    · have hkl : k < s.data.toList.length := by omega
      have hy : s.data.toList[k]? = some s.data.toList[k] := List.getElem?_eq_getElem hkl
      have hx := mixB_at _ _ _ hy
      have HY := Lib.hid hy; clear hy
      generalize s.data.toList[k] = x at *
      have hcl := hB.cell k x hx
      have hfr := hB.free k (by rw [mixB_length]; exact hkl)
      have hx2 := x.toNat_lt
      clear hx kb
      go_wp2
      · have h1 : 65 ≤ (x.toNat : Int) := by assumption
        have h2 : (x.toNat : Int) ≤ 90 := by assumption
        go_roundw
        case rel =>
          refine ⟨k + 1, by omega, by go_num, ?_, hE.setCell (Nat.le_refl _) _⟩
          rw [mixB_succ _ _ _ HY.out, show (Value.int .u8 (↑x.toNat + 97 - 65)) = vByte (lowB x) from by rw [vByte, lowB_yes x h1 h2]; go_num]
          exact hB.set k (lowB x)
        case measure => simp [intOf]; omega
      all_goals
        go_roundw
        case rel => exact ⟨k + 1, by omega, by go_num, by rw [mixB_same _ _ _ HY.out (lowB_no x (by omega))]; exact hB, hE⟩
        case measure => simp [intOf]; omega
    · have hcv := conv_string (hB.fl s.size c (by rw [mixB_length]; exact hln) hcg hcm)
      have HE := Lib.hid (small_mix s k (by omega))
      go_wp2
      go_ret
      exact ⟨ret_eq (str_eq HE.out), hE⟩
/-- ref01.Small. -/
theorem ref_Small (s : ByteArray) (w : World) (hs : s.size ≤ maxI) :
    Calls Try.prog 131 #[.string s] w fun e w' => e = .returned (.string (small s)) ∧ Ext w w' := by
  have hcm := grownCap_le_maxLen w s.size 0 5 (by simpa [maxLen] using hs)
  have hcg := grownCap_ge w s.size 0 5
  have kb := fun w => Lib.run_convert_string_bytes (P := Try.prog) w 9 22 5 s Try.underlying9 Try.underlying22 Try.underlying5
  have hb0 := Lib.hid (blk_bytes w s)
  have he0 := Lib.hid (ext_bytes w s)
  unfold maxI at hs
  go_enter Try.func131, Try.ntmps131
  go_wp2
  generalize hg : grownCap w s.size 0 5 = c at *
  clear hg
  have hln := bs_length s
  unfold bs at hln
  go_loopw [4] (fun i wr => ∃ k : Nat, k ≤ s.size ∧ i = .int .i64 k ∧ Blk vByte 5 wr w.heap.size (mixB s.data.toList k) ∧ Ext w wr) (fun i _ => s.size - (intOf i).toNat)
  case atStart => exact ⟨0, by omega, rfl, hb0.out, he0.out⟩
  case round =>
    obtain ⟨k, hk, rfl, hB, hE⟩ := hrel
    by_cases hlt : k < s.size
    · have hkl : k < s.data.toList.length := by omega
      have hy : s.data.toList[k]? = some s.data.toList[k] := List.getElem?_eq_getElem hkl
      have hx := mixB_at _ _ _ hy
      have HY := Lib.hid hy; clear hy
      generalize s.data.toList[k] = x at *
      have hcl := hB.cell k x hx
      have hfr := hB.free k (by rw [mixB_length]; exact hkl)
      have hx2 := x.toNat_lt
      clear hx kb
      go_wp2
      · have h1 : 65 ≤ (x.toNat : Int) := by assumption
        have h2 : (x.toNat : Int) ≤ 90 := by assumption
        go_roundw
        case rel =>
          refine ⟨k + 1, by omega, by go_num, ?_, hE.setCell (Nat.le_refl _) _⟩
          rw [mixB_succ _ _ _ HY.out, show (Value.int .u8 (↑x.toNat + 32)) = vByte (lowB x) from by rw [vByte, lowB_yes x h1 h2]]
          exact hB.set k (lowB x)
        case measure => simp [intOf]; omega
      all_goals
        go_roundw
        case rel => exact ⟨k + 1, by omega, by go_num, by rw [mixB_same _ _ _ HY.out (lowB_no x (by omega))]; exact hB, hE⟩
        case measure => simp [intOf]; omega
    · have hcv := conv_string (hB.fl s.size c (by rw [mixB_length]; exact hln) hcg hcm)
      have HE := Lib.hid (small_mix s k (by omega))
      go_wp2
      go_ret
      exact ⟨ret_eq (str_eq HE.out), hE⟩
end Go.Proofs.Ytfnelkcllaaebaa
