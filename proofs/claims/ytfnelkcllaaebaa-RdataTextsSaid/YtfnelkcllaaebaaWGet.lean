/- Contract of wname.Get. No condition but that the bytes read as a list. -/
import Derived.Test.YtfnelkcllaaebaaNum
import Derived.Test.YtfnelkcllaaebaaCut
import Derived.Test.YtfnelkcllaaebaaModG
open Go.RowKit
set_option linter.unusedVariables false
set_option linter.unusedSimpArgs false
namespace Go.Proofs.Ytfnelkcllaaebaa
/-- What wname.Get gives. -/
def GetsName (w0 : World) (r : List Str × Int × Int) (e : Ending) (w' : World) : Prop :=
  ∃ v, e = .returned (.tuple #[v, .int .i64 r.2.1, .int .i64 r.2.2]) ∧ OwnL Value.string 9 w' w0.heap.size v r.1 ∧ Ext w0 w'
/-- The loop's relation. -/
def NmRel (l : List UInt8) (w0 : World) (r : List Str × Int × Int) (s1 s4 s5 s7 s8 : Value) (wr : World) : Prop :=
  ∃ a g s x : Nat, ∃ n, s1 = .int .i64 a ∧ s7 = .int .i64 g ∧ s8 = .int .i64 s ∧ s5 = .int .i64 x ∧ OwnL Value.string 9 wr w0.heap.size s4 n ∧ Ext w0 wr ∧
    getNm l a g s x n = r ∧ a ≤ maxI ∧ g ≤ maxI ∧ s ≤ 255 ∧ n.length ≤ s ∧ x ≤ l.length
/-- The loop's measure. -/
def nmMeas (l : List UInt8) (s1 s7 : Value) : Nat := (intOf s7).toNat * (l.length + 2) + (l.length + 1 - (intOf s1).toNat)
theorem and_reach (c d : UInt8) (hc : 192 ≤ c.toNat) : bits .and .i64 ((c.toNat : Int) * 256 + (d.toNat : Int)) 16383 = (((c.toNat - 192) * 256 + d.toNat : Nat) : Int) := by
  have h1 := c.toNat_lt
  have h2 := d.toNat_lt
  have := bits_mask .i64 63 (by decide) wraps_i64 14 (by decide) ((c.toNat : Int) * 256 + (d.toNat : Int)) (by omega) (by omega)
  rw [show (2 : Int) ^ 14 - 1 = 16383 from by decide, show (2 : Int) ^ 14 = 16384 from by decide] at this
  rw [this]
  omega
theorem getsErr {w0 wr : World} {r : List Str × Int × Int} {k : Int} (h : r = ([], 0, k)) (hE : Ext w0 wr) : GetsName w0 r (.returned (.tuple #[.slice none 0 0, .int .i64 0, .int .i64 k])) wr := by
  subst h; exact ⟨_, rfl, OwnL.nil _ _ _ _, hE⟩
theorem getsOk {w0 wr : World} {r : List Str × Int × Int} {n : List Str} {k k' : Int} {v : Value} (h : r = (n, k, 0)) (hk : k' = k) (hO : OwnL Value.string 9 wr w0.heap.size v n) (hE : Ext w0 wr) :
    GetsName w0 r (.returned (.tuple #[v, .int .i64 k', .int .i64 0])) wr := by
  subst h hk; exact ⟨_, rfl, hO, hE⟩
theorem max_cast (x a : Nat) : max (x : Int) ((a : Int) + 1) = ((max x (a + 1) : Nat) : Int) := by omega
theorem max_cast2 (x a : Nat) : max (x : Int) ((a : Int) + 2) = ((max x (a + 2) : Nat) : Int) := by omega
theorem meas_ptr {L a g y : Nat} (hy : y < g) : y * (L + 2) + (L + 1 - y) < g * (L + 2) + (L + 1 - a) := by
  have : (y + 1) * (L + 2) ≤ g * (L + 2) := Nat.mul_le_mul_right _ hy
  rw [Nat.add_mul, Nat.one_mul] at this
  omega
theorem meas_lab {L a b g : Nat} (h : a < b) (h2 : b ≤ L) : g * (L + 2) + (L + 1 - b) < g * (L + 2) + (L + 1 - a) := by omega
theorem ptr_relOk {l : List UInt8} {w0 wr : World} {r : List Str × Int × Int} {s4 : Value} {a g s x y : Nat} {n : List Str} (hO : OwnL Value.string 9 wr w0.heap.size s4 n) (hE : Ext w0 wr)
    (hR : getNm l y y s (max x (a + 2)) n = r) {z : Int} (hz : z = ((max x (a + 2) : Nat) : Int)) (hy : y ≤ maxI) (hs : s ≤ 255) (hn : n.length ≤ s) (hx : max x (a + 2) ≤ l.length) :
    NmRel l w0 r (.int .i64 (y : Int)) s4 (.int .i64 z) (.int .i64 (y : Int)) (.int .i64 (s : Int)) wr :=
  ⟨y, y, s, max x (a + 2), n, rfl, rfl, rfl, by rw [hz], hO, hE, hR, hy, hy, hs, hn, hx⟩
theorem lab_relOk {l : List UInt8} {w0 wr : World} {r : List Str × Int × Int} {s4 : Value} {a' g s' x : Nat} {n' : List Str} {za zs : Int} (hO : OwnL Value.string 9 wr w0.heap.size s4 n') (hE : Ext w0 wr)
    (hR : getNm l a' g s' x n' = r) (ha : a' ≤ maxI) (hg : g ≤ maxI) (hs : s' ≤ 255) (hn : n'.length ≤ s') (hx : x ≤ l.length) (hza : za = (a' : Int)) (hzs : zs = (s' : Int)) :
    NmRel l w0 r (.int .i64 za) s4 (.int .i64 (x : Int)) (.int .i64 (g : Int)) (.int .i64 zs) wr :=
  ⟨a', g, s', x, n', by rw [hza], rfl, by rw [hzs], rfl, hO, hE, hR, ha, hg, hs, hn, hx⟩
theorem meas_lab' {l : List UInt8} {a : Nat} {g z : Int} (h : (a : Int) < z) (h2 : z ≤ l.length) : nmMeas l (.int .i64 z) (.int .i64 g) < nmMeas l (.int .i64 (a : Int)) (.int .i64 g) := by
  simp only [nmMeas, intOf]; omega
set_option maxRecDepth 100000 in
set_option maxHeartbeats 2000000 in
theorem wname_Get_nat (v : Value) (l : List UInt8) (a0 : Nat) (w : World) (hv : BytesV w v l) (ha0 : a0 ≤ maxI) :
    Calls Try.prog 126 #[v, .int .i64 a0] w (GetsName w (getNm l a0 a0 1 0 [])) := by
  have hll := hv.len
  have HV := Lib.hid hv
  obtain ⟨A, c, rfl, hl, hc⟩ := hv.form
  clear hv
  generalize hr0 : getNm l a0 a0 1 0 [] = r
  have HR0 := Lib.hid hr0
  clear hr0
  unfold maxI at hll hc ha0
  go_enter Try.func126, Try.ntmps126
  go_wp2
  go_loopw [1, 4, 5, 7, 8] (fun s1 s4 s5 s7 s8 wr => NmRel l w r s1 s4 s5 s7 s8 wr) (fun s1 s4 s5 s7 s8 _ => nmMeas l s1 s7)
  case atStart => exact ⟨a0, a0, 1, 0, [], rfl, rfl, rfl, rfl, OwnL.nil _ _ _ _, Ext.refl _, HR0.out, ha0, ha0, by omega, by simp, by omega⟩
  case round =>
    obtain ⟨a, g, s, x, n, rfl, rfl, rfl, rfl, HO, hE, hR, ha, hg, hs, hn, hx⟩ := hrel
    have HR := Lib.hid hR
    clear hR HR0
    unfold maxI at ha hg
    have hv1 := Lib.hid (HV.out.ext hE)
    cases hca : l[a]? with
    | none =>
      have hg1 := num_Get _ l a 1 wr hv1.out (by omega)
      rw [getN_one_end hca] at hg1
      have HE := Lib.hid (getNm_end (g := g) (s := s) (x := x) (n := n) hca)
      have HC := Lib.hid hca
      clear hca
      have HG := Lib.hid hg1
      clear hg1
      go_wp2_with (go_at_call 127; refine HG.out.mono ?_; rintro e w' ⟨rfl, rfl⟩)
      go_ret3
      exact getsErr (HR.out.symm.trans HE.out) hE
    | some b0 =>
      have hal : a < l.length := (List.getElem?_eq_some_iff.1 hca).1
      have hg1 := num_Get _ l a 1 wr hv1.out (by omega)
      rw [getN_one hca] at hg1
      have HG := Lib.hid hg1
      clear hg1
      have hb := b0.toNat_lt
      by_cases h0 : b0.toNat = 0
      · have HE := Lib.hid (getNm_zero (g := g) (s := s) (x := x) (n := n) hca h0)
        have HC := Lib.hid hca
        clear hca
        have ht : ((b0.toNat : Int) == 0) = true := by rw [h0]; rfl
        clear h0
        go_wp2_with (go_at_call 127; refine HG.out.mono ?_; rintro e w' ⟨rfl, rfl⟩)
        all_goals
          go_ret3
          exact getsOk (HR.out.symm.trans HE.out) (by omega) HO hE
      · have ht : ((b0.toNat : Int) == 0) = false := by rw [beq_eq_false_iff_ne]; omega
        by_cases h1 : 192 ≤ b0.toNat
        · cases hcb : l[a + 1]? with
          | none =>
            have hg2 := num_Get _ l a 2 wr hv1.out (by omega)
            rw [getN_two_end hca hcb] at hg2
            have HG2 := Lib.hid hg2
            clear hg2
            have HE := Lib.hid (getNm_ptr_end (g := g) (s := s) (x := x) (n := n) hca h1 hcb)
            clear hca hcb
            have h1' : (192 : Int) ≤ (b0.toNat : Int) := by omega
            clear h1
            go_wp2_with (first | (go_at_call 127; (with_reducible refine HG.out.mono ?_); rintro e w' ⟨rfl, rfl⟩) | (go_at_call 127; (with_reducible refine HG2.out.mono ?_); rintro e w' ⟨rfl, rfl⟩))
            go_ret3
            exact getsErr (HR.out.symm.trans HE.out) hE
          | some d =>
            have hal2 : a + 1 < l.length := (List.getElem?_eq_some_iff.1 hcb).1
            have hg2 := num_Get _ l a 2 wr hv1.out (by omega)
            rw [getN_two hca hcb] at hg2
            have HG2 := Lib.hid hg2
            clear hg2
            have hd := d.toNat_lt
            have hand := and_reach b0 d h1
            have h1' : (192 : Int) ≤ (b0.toNat : Int) := by omega
            by_cases hgy : g ≤ (b0.toNat - 192) * 256 + d.toNat
            · have HE := Lib.hid (getNm_ptr_loop (g := g) (s := s) (x := x) (n := n) hca h1 hcb hgy)
              clear hca hcb h1
              generalize (b0.toNat - 192) * 256 + d.toNat = y at *
              have hgy' : (g : Int) ≤ (y : Int) := by omega
              clear hgy
              go_wp2_with (first | (go_at_call 127; (with_reducible refine HG.out.mono ?_); rintro e w' ⟨rfl, rfl⟩) | (go_at_call 127; (with_reducible refine HG2.out.mono ?_); rintro e w' ⟨rfl, rfl⟩))
              all_goals
                go_ret3
                exact getsErr (HR.out.symm.trans HE.out) hE
            · have HE := Lib.hid (getNm_ptr (g := g) (s := s) (x := x) (n := n) hca h1 hcb (by omega))
              clear hca hcb h1
              generalize (b0.toNat - 192) * 256 + d.toNat = y at *
              have hgy' : ¬ (g : Int) ≤ (y : Int) := by omega
              have hgy2 : y < g := by omega
              clear hgy
              go_wp2_with (first | (go_at_call 127; (with_reducible refine HG.out.mono ?_); rintro e w' ⟨rfl, rfl⟩) | (go_at_call 127; (with_reducible refine HG2.out.mono ?_); rintro e w' ⟨rfl, rfl⟩))
              all_goals
                go_roundw
                case rel => exact ptr_relOk (g := g) HO hE (HE.out.symm.trans HR.out) (by omega) (by unfold maxI; omega) hs hn (by omega)
                case measure => exact meas_ptr hgy2
        · by_cases h2 : 63 < b0.toNat
          · have HE := Lib.hid (getNm_bad (g := g) (s := s) (x := x) (n := n) hca (by omega) h2)
            clear hca
            have h1' : (b0.toNat : Int) < 192 := by omega
            have h2' : 63 < (b0.toNat : Int) := by omega
            clear h1 h2
            go_wp2_with (go_at_call 127; refine HG.out.mono ?_; rintro e w' ⟨rfl, rfl⟩)
            go_ret3
            exact getsErr (HR.out.symm.trans HE.out) hE
          · have h1' : (b0.toNat : Int) < 192 := by omega
            have h2' : (b0.toNat : Int) ≤ 63 := by omega
            by_cases h3 : l.length < a + 1 + b0.toNat
            · have HE := Lib.hid (getNm_short (g := g) (s := s) (x := x) (n := n) hca h0 (by omega) h3)
              clear hca
              have h3' : (l.length : Int) - (a : Int) - 1 < (b0.toNat : Int) := by omega
              clear h1 h2 h3 h0
              go_wp2_with (go_at_call 127; refine HG.out.mono ?_; rintro e w' ⟨rfl, rfl⟩)
              go_ret3
              exact getsErr (HR.out.symm.trans HE.out) hE
            · have h3' : ¬ (l.length : Int) - (a : Int) - 1 < (b0.toNat : Int) := by omega
              by_cases h4 : 255 < s + 1 + b0.toNat
              · have HE := Lib.hid (getNm_long (g := g) (s := s) (x := x) (n := n) hca h0 (by omega) (by omega) h4)
                clear hca
                have h4' : 255 < (s : Int) + (1 + (b0.toNat : Int)) := by omega
                clear h1 h2 h3 h0 h4
                go_wp2_with (go_at_call 127; refine HG.out.mono ?_; rintro e w' ⟨rfl, rfl⟩)
                go_ret3
                exact getsErr (HR.out.symm.trans HE.out) hE
              · have HE := Lib.hid (getNm_label (g := g) (s := s) (x := x) (n := n) hca h0 (by omega) (by omega) (by omega))
                clear hca
                have h4' : ¬ 255 < (s : Int) + (1 + (b0.toNat : Int)) := by omega
                have h5 : a + 1 + b0.toNat ≤ l.length := by omega
                clear h1 h2 h3 h0 h4
                have hcut := cut_lh elem22 size22 hv1.out ((a : Int) + 1) ((a : Int) + 1 + (b0.toNat : Int)) (by omega) (by omega) (by omega)
                obtain ⟨v', hsl, hv'⟩ := hcut
                have hcv := conv_string hv'
                rw [show ((a : Int) + 1 + (b0.toNat : Int)).toNat = a + 1 + b0.toNat from by omega, show ((a : Int) + 1).toNat = a + 1 from by omega] at hcv
                change _ = Result.ok (Value.string (ofB ((l.take (a + 1 + b0.toNat)).drop (a + 1)))) wr at hcv
                generalize ofB ((l.take (a + 1 + b0.toNat)).drop (a + 1)) = q at *
                clear hv'
                have HO' := Lib.hid HO
                have hn' : n.length ≤ 255 := by omega
                have hz1 := hE.size
                go_wp2_with (first
                  | (go_at_call 127; refine HG.out.mono ?_; rintro e w' ⟨rfl, rfl⟩)
                  | (at_builtin; go_must (refine wpList_app1 Value.string w.heap.size rfl (.tmp 28) (.tmp 38) 23 9 (.string ⟨#[]⟩) 16 rfl Try.underlying23 (by kernel_rfl) rfl (by decide) u4 n q rfl rfl rfl HO'.out hz1 (by omega) ?_); intro v1 w1 hO1 hg1))
                go_roundw
                case rel => exact lab_relOk hO1 (grown_trans_ext hE HO'.out (Nat.le_refl _) hg1) (HE.out.symm.trans HR.out) (by unfold maxI; omega) hg (by omega) (by simp; omega) hx (by omega) (by omega)
                case measure => exact meas_lab' (by omega) (by omega)
/-- wname.Get. -/
theorem wname_Get (v : Value) (l : List UInt8) (a0 : Int) (w : World) (hv : BytesV w v l) (ha0 : a0 ≤ 9223372036854775807) :
    Calls Try.prog 126 #[v, .int .i64 a0] w (GetsName w (getName l a0)) := by
  by_cases h : 0 ≤ a0
  · obtain ⟨n, rfl⟩ := Int.eq_ofNat_of_zero_le h
    have := wname_Get_nat v l n w hv (by unfold maxI; omega)
    unfold getName
    rw [if_neg (by omega)]
    exact this
  · have hr : getName l a0 = ([], 0, 1) := by unfold getName; rw [if_pos (by omega)]
    generalize getName l a0 = r at *
    have HR := Lib.hid hr
    clear hr
    obtain ⟨A, c, rfl, hl, hc⟩ := hv.form
    clear hv
    go_enter Try.func126, Try.ntmps126
    go_wp2
    go_ret3
    exact getsErr HR.out (Ext.refl _)
end Go.Proofs.Ytfnelkcllaaebaa
