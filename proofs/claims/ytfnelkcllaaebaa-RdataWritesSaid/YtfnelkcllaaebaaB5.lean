/- Parts of one proof, joined: WGet, Rdr, Rdr2, Rdr3. Conditions: those that each theorem states. -/
import Derived.Test.YtfnelkcllaaebaaB2
import Derived.Test.YtfnelkcllaaebaaB3
import Derived.Test.YtfnelkcllaaebaaB1
import Derived.Test.YtfnelkcllaaebaaB4
import Derived.Deep.RegionWith
import Derived.Deep.RegionHeld3
import Derived.Outline
import Derived.Deep.LoopGhost
section
/- Contract of wname.Get. No condition but that the bytes read as a list. -/
open Go.RowKit
set_option linter.unusedVariables false
set_option linter.unusedSimpArgs false
namespace Go.Proofs.Ytfnelkcllaaebaa
/-- What wname.Get gives. -/
def GetsName (w0 : World) (r : List Str × Int × Int) (e : Ending) (w' : World) : Prop :=
  ∃ v, e = .returned (.tuple #[v, .int .i64 r.2.1, .int .i64 r.2.2]) ∧ OwnL Value.string 9 w' w0.heap.size v r.1 ∧ Ext w0 w'
/-- The loop's relation. -/
def NmRel (l : List UInt8) (w0 : World) (r : List Str × Int × Int) (s1 s4 s5 s7 s8 : Value) (wr : World) : Prop :=
  ∃ a g s x : Nat, ∃ n, s1 = .int .i64 a ∧ s7 = .int .i64 g ∧ s8 = .int .i64 s ∧ s5 = .int .i64 x ∧ OwnL Value.string 9 wr w0.heap.size s4 n ∧ Ext w0 wr ∧
    getNm l a g s x n = r ∧ a ≤ maxI ∧ g ≤ maxI ∧ s ≤ 255 ∧ n.length ≤ s ∧ x ≤ l.length
/-- The loop's measure. -/
def nmMeas (l : List UInt8) (s1 s7 : Value) : Nat := (intOf s7).toNat * (l.length + 2) + (l.length + 1 - (intOf s1).toNat)
theorem and_reach (c d : UInt8) (hc : 192 ≤ c.toNat) : bits .and .i64 ((c.toNat : Int) * 256 + (d.toNat : Int)) 16383 = (((c.toNat - 192) * 256 + d.toNat : Nat) : Int) := by
  have h1 := c.toNat_lt
  have h2 := d.toNat_lt
  have := bits_mask .i64 63 (by decide) wraps_i64 14 (by decide) ((c.toNat : Int) * 256 + (d.toNat : Int)) (by omega) (by omega)
  rw [show (2 : Int) ^ 14 - 1 = 16383 from by decide, show (2 : Int) ^ 14 = 16384 from by decide] at this
  rw [this]
  omega
theorem getsErr {w0 wr : World} {r : List Str × Int × Int} {k : Int} (h : r = ([], 0, k)) (hE : Ext w0 wr) : GetsName w0 r (.returned (.tuple #[.slice none 0 0, .int .i64 0, .int .i64 k])) wr := by
  subst h; exact ⟨_, rfl, OwnL.nil _ _ _ _, hE⟩
theorem getsOk {w0 wr : World} {r : List Str × Int × Int} {n : List Str} {k k' : Int} {v : Value} (h : r = (n, k, 0)) (hk : k' = k) (hO : OwnL Value.string 9 wr w0.heap.size v n) (hE : Ext w0 wr) :
    GetsName w0 r (.returned (.tuple #[v, .int .i64 k', .int .i64 0])) wr := by
  subst h hk; exact ⟨_, rfl, hO, hE⟩
theorem max_cast (x a : Nat) : max (x : Int) ((a : Int) + 1) = ((max x (a + 1) : Nat) : Int) := by omega
theorem max_cast2 (x a : Nat) : max (x : Int) ((a : Int) + 2) = ((max x (a + 2) : Nat) : Int) := by omega
theorem meas_ptr {L a g y : Nat} (hy : y < g) : y * (L + 2) + (L + 1 - y) < g * (L + 2) + (L + 1 - a) := by
  have : (y + 1) * (L + 2) ≤ g * (L + 2) := Nat.mul_le_mul_right _ hy
  rw [Nat.add_mul, Nat.one_mul] at this
  omega
theorem meas_lab {L a b g : Nat} (h : a < b) (h2 : b ≤ L) : g * (L + 2) + (L + 1 - b) < g * (L + 2) + (L + 1 - a) := by omega
theorem ptr_relOk {l : List UInt8} {w0 wr : World} {r : List Str × Int × Int} {s4 : Value} {a g s x y : Nat} {n : List Str} (hO : OwnL Value.string 9 wr w0.heap.size s4 n) (hE : Ext w0 wr)
    (hR : getNm l y y s (max x (a + 2)) n = r) {z : Int} (hz : z = ((max x (a + 2) : Nat) : Int)) (hy : y ≤ maxI) (hs : s ≤ 255) (hn : n.length ≤ s) (hx : max x (a + 2) ≤ l.length) :
    NmRel l w0 r (.int .i64 (y : Int)) s4 (.int .i64 z) (.int .i64 (y : Int)) (.int .i64 (s : Int)) wr :=
  ⟨y, y, s, max x (a + 2), n, rfl, rfl, rfl, by rw [hz], hO, hE, hR, hy, hy, hs, hn, hx⟩
theorem lab_relOk {l : List UInt8} {w0 wr : World} {r : List Str × Int × Int} {s4 : Value} {a' g s' x : Nat} {n' : List Str} {za zs : Int} (hO : OwnL Value.string 9 wr w0.heap.size s4 n') (hE : Ext w0 wr)
    (hR : getNm l a' g s' x n' = r) (ha : a' ≤ maxI) (hg : g ≤ maxI) (hs : s' ≤ 255) (hn : n'.length ≤ s') (hx : x ≤ l.length) (hza : za = (a' : Int)) (hzs : zs = (s' : Int)) :
    NmRel l w0 r (.int .i64 za) s4 (.int .i64 (x : Int)) (.int .i64 (g : Int)) (.int .i64 zs) wr :=
  ⟨a', g, s', x, n', by rw [hza], rfl, by rw [hzs], rfl, hO, hE, hR, ha, hg, hs, hn, hx⟩
theorem meas_lab' {l : List UInt8} {a : Nat} {g z : Int} (h : (a : Int) < z) (h2 : z ≤ l.length) : nmMeas l (.int .i64 z) (.int .i64 g) < nmMeas l (.int .i64 (a : Int)) (.int .i64 g) := by
  simp only [nmMeas, intOf]; omega
set_option maxRecDepth 100000 in
set_option maxHeartbeats 2000000 in
theorem wname_Get_nat (v : Value) (l : List UInt8) (a0 : Nat) (w : World) (hv : BytesV w v l) (ha0 : a0 ≤ maxI) :
    Calls Try.prog 126 #[v, .int .i64 a0] w (GetsName w (getNm l a0 a0 1 0 [])) := by
  have hll := hv.len
  have HV := Lib.hid hv
  obtain ⟨A, c, rfl, hl, hc⟩ := hv.form
  clear hv
  generalize hr0 : getNm l a0 a0 1 0 [] = r
  have HR0 := Lib.hid hr0
  clear hr0
  unfold maxI at hll hc ha0
  go_enter Try.func126, Try.ntmps126
  go_wp2
  go_loopw [1, 4, 5, 7, 8] (fun s1 s4 s5 s7 s8 wr => NmRel l w r s1 s4 s5 s7 s8 wr) (fun s1 s4 s5 s7 s8 _ => nmMeas l s1 s7)
  case atStart => exact ⟨a0, a0, 1, 0, [], rfl, rfl, rfl, rfl, OwnL.nil _ _ _ _, Ext.refl _, HR0.out, ha0, ha0, by omega, by simp, by omega⟩
  case round =>
    obtain ⟨a, g, s, x, n, rfl, rfl, rfl, rfl, HO, hE, hR, ha, hg, hs, hn, hx⟩ := hrel
    have HR := Lib.hid hR
    clear hR HR0
    unfold maxI at ha hg
    have hv1 := Lib.hid (HV.out.ext hE)
    cases hca : l[a]? with
    | none =>
      have hg1 := num_Get _ l a 1 wr hv1.out (by omega)
      rw [getN_one_end hca] at hg1
      have HE := Lib.hid (getNm_end (g := g) (s := s) (x := x) (n := n) hca)
      have HC := Lib.hid hca
      clear hca
      have HG := Lib.hid hg1
      clear hg1
      go_wp2_with (go_at_call 127; refine HG.out.mono ?_; rintro e w' ⟨rfl, rfl⟩)
      go_ret3
      exact getsErr (HR.out.symm.trans HE.out) hE
    | some b0 =>
      have hal : a < l.length := (List.getElem?_eq_some_iff.1 hca).1
      have hg1 := num_Get _ l a 1 wr hv1.out (by omega)
      rw [getN_one hca] at hg1
      have HG := Lib.hid hg1
      clear hg1
      have hb := b0.toNat_lt
      by_cases h0 : b0.toNat = 0
      · have HE := Lib.hid (getNm_zero (g := g) (s := s) (x := x) (n := n) hca h0)
        have HC := Lib.hid hca
        clear hca
        have ht : ((b0.toNat : Int) == 0) = true := by rw [h0]; rfl
        clear h0
        go_wp2_with (go_at_call 127; refine HG.out.mono ?_; rintro e w' ⟨rfl, rfl⟩)
        all_goals
          go_ret3
          exact getsOk (HR.out.symm.trans HE.out) (by omega) HO hE
      · have ht : ((b0.toNat : Int) == 0) = false := by rw [beq_eq_false_iff_ne]; omega
        by_cases h1 : 192 ≤ b0.toNat
        · cases hcb : l[a + 1]? with
          | none =>
            have hg2 := num_Get _ l a 2 wr hv1.out (by omega)
            rw [getN_two_end hca hcb] at hg2
            have HG2 := Lib.hid hg2
            clear hg2
            have HE := Lib.hid (getNm_ptr_end (g := g) (s := s) (x := x) (n := n) hca h1 hcb)
            clear hca hcb
            have h1' : (192 : Int) ≤ (b0.toNat : Int) := by omega
            clear h1
            go_wp2_with (first | (go_at_call 127; (with_reducible refine HG.out.mono ?_); rintro e w' ⟨rfl, rfl⟩) | (go_at_call 127; (with_reducible refine HG2.out.mono ?_); rintro e w' ⟨rfl, rfl⟩))
            go_ret3
            exact getsErr (HR.out.symm.trans HE.out) hE
          | some d =>
            have hal2 : a + 1 < l.length := (List.getElem?_eq_some_iff.1 hcb).1
            have hg2 := num_Get _ l a 2 wr hv1.out (by omega)
            rw [getN_two hca hcb] at hg2
            have HG2 := Lib.hid hg2
            clear hg2
            have hd := d.toNat_lt
            have hand := and_reach b0 d h1
            have h1' : (192 : Int) ≤ (b0.toNat : Int) := by omega
            by_cases hgy : g ≤ (b0.toNat - 192) * 256 + d.toNat
            · have HE := Lib.hid (getNm_ptr_loop (g := g) (s := s) (x := x) (n := n) hca h1 hcb hgy)
              clear hca hcb h1
              generalize (b0.toNat - 192) * 256 + d.toNat = y at *
              have hgy' : (g : Int) ≤ (y : Int) := by omega
              clear hgy
              go_wp2_with (first | (go_at_call 127; (with_reducible refine HG.out.mono ?_); rintro e w' ⟨rfl, rfl⟩) | (go_at_call 127; (with_reducible refine HG2.out.mono ?_); rintro e w' ⟨rfl, rfl⟩))
              all_goals
                go_ret3
                exact getsErr (HR.out.symm.trans HE.out) hE
            · have HE := Lib.hid (getNm_ptr (g := g) (s := s) (x := x) (n := n) hca h1 hcb (by omega))
              clear hca hcb h1
              generalize (b0.toNat - 192) * 256 + d.toNat = y at *
              have hgy' : ¬ (g : Int) ≤ (y : Int) := by omega
              have hgy2 : y < g := by omega
              clear hgy
              go_wp2_with (first | (go_at_call 127; (with_reducible refine HG.out.mono ?_); rintro e w' ⟨rfl, rfl⟩) | (go_at_call 127; (with_reducible refine HG2.out.mono ?_); rintro e w' ⟨rfl, rfl⟩))
              all_goals
                go_roundw
                case rel => exact ptr_relOk (g := g) HO hE (HE.out.symm.trans HR.out) (by omega) (by unfold maxI; omega) hs hn (by omega)
                case measure => exact meas_ptr hgy2
        · by_cases h2 : 63 < b0.toNat
          · have HE := Lib.hid (getNm_bad (g := g) (s := s) (x := x) (n := n) hca (by omega) h2)
            clear hca
            have h1' : (b0.toNat : Int) < 192 := by omega
            have h2' : 63 < (b0.toNat : Int) := by omega
            clear h1 h2
            go_wp2_with (go_at_call 127; refine HG.out.mono ?_; rintro e w' ⟨rfl, rfl⟩)
            go_ret3
            exact getsErr (HR.out.symm.trans HE.out) hE
          · have h1' : (b0.toNat : Int) < 192 := by omega
            have h2' : (b0.toNat : Int) ≤ 63 := by omega
            by_cases h3 : l.length < a + 1 + b0.toNat
            · have HE := Lib.hid (getNm_short (g := g) (s := s) (x := x) (n := n) hca h0 (by omega) h3)
              clear hca
              have h3' : (l.length : Int) - (a : Int) - 1 < (b0.toNat : Int) := by omega
              clear h1 h2 h3 h0
              go_wp2_with (go_at_call 127; refine HG.out.mono ?_; rintro e w' ⟨rfl, rfl⟩)
              go_ret3
              exact getsErr (HR.out.symm.trans HE.out) hE
            · have h3' : ¬ (l.length : Int) - (a : Int) - 1 < (b0.toNat : Int) := by omega
              by_cases h4 : 255 < s + 1 + b0.toNat
              · have HE := Lib.hid (getNm_long (g := g) (s := s) (x := x) (n := n) hca h0 (by omega) (by omega) h4)
                clear hca
                have h4' : 255 < (s : Int) + (1 + (b0.toNat : Int)) := by omega
                clear h1 h2 h3 h0 h4
                go_wp2_with (go_at_call 127; refine HG.out.mono ?_; rintro e w' ⟨rfl, rfl⟩)
                go_ret3
                exact getsErr (HR.out.symm.trans HE.out) hE
              · have HE := Lib.hid (getNm_label (g := g) (s := s) (x := x) (n := n) hca h0 (by omega) (by omega) (by omega))
                clear hca
                have h4' : ¬ 255 < (s : Int) + (1 + (b0.toNat : Int)) := by omega
                have h5 : a + 1 + b0.toNat ≤ l.length := by omega
                clear h1 h2 h3 h0 h4
                have hcut := cut_lh elem22 size22 hv1.out ((a : Int) + 1) ((a : Int) + 1 + (b0.toNat : Int)) (by omega) (by omega) (by omega)
                obtain ⟨v', hsl, hv'⟩ := hcut
                have hcv := conv_string hv'
                rw [show ((a : Int) + 1 + (b0.toNat : Int)).toNat = a + 1 + b0.toNat from by omega, show ((a : Int) + 1).toNat = a + 1 from by omega] at hcv
                change _ = Result.ok (Value.string (ofB ((l.take (a + 1 + b0.toNat)).drop (a + 1)))) wr at hcv
                generalize ofB ((l.take (a + 1 + b0.toNat)).drop (a + 1)) = q at *
                clear hv'
                have HO' := Lib.hid HO
                have hn' : n.length ≤ 255 := by omega
                have hz1 := hE.size
                go_wp2_with (first
                  | (go_at_call 127; refine HG.out.mono ?_; rintro e w' ⟨rfl, rfl⟩)
                  | (at_builtin; go_must (refine wpList_app1 Value.string w.heap.size rfl (.tmp 28) (.tmp 38) 23 9 (.string ⟨#[]⟩) 16 rfl Try.underlying23 (by kernel_rfl) rfl (by decide) u4 n q rfl rfl rfl HO'.out hz1 (by omega) ?_); intro v1 w1 hO1 hg1))
                go_roundw
                case rel => exact lab_relOk hO1 (grown_trans_ext hE HO'.out (Nat.le_refl _) hg1) (HE.out.symm.trans HR.out) (by unfold maxI; omega) hg (by omega) (by simp; omega) hx (by omega) (by omega)
                case measure => exact meas_lab' (by omega) (by omega)
/-- wname.Get. -/
theorem wname_Get (v : Value) (l : List UInt8) (a0 : Int) (w : World) (hv : BytesV w v l) (ha0 : a0 ≤ 9223372036854775807) :
    Calls Try.prog 126 #[v, .int .i64 a0] w (GetsName w (getName l a0)) := by
  by_cases h : 0 ≤ a0
  · obtain ⟨n, rfl⟩ := Int.eq_ofNat_of_zero_le h
    have := wname_Get_nat v l n w hv (by unfold maxI; omega)
    unfold getName
    rw [if_neg (by omega)]
    exact this
  · have hr : getName l a0 = ([], 0, 1) := by unfold getName; rw [if_pos (by omega)]
    generalize getName l a0 = r at *
    have HR := Lib.hid hr
    clear hr
    obtain ⟨A, c, rfl, hl, hc⟩ := hv.form
    clear hv
    go_enter Try.func126, Try.ntmps126
    go_wp2
    go_ret3
    exact getsErr HR.out (Ext.refl _)
end Go.Proofs.Ytfnelkcllaaebaa
end
section
/- Contracts of rdata's reader. The bytes lie in an elder world w0; the reader's block is younger. -/
open Go.RowKit
set_option linter.unusedVariables false
set_option linter.unusedSimpArgs false
namespace Go.Proofs.Ytfnelkcllaaebaa
/-- The reader's block. -/
def RdrAt (w : World) (g : Nat) (vb : Value) (a e : Int) : Prop := w.heap[g]? = some (.cells #[vb, .int .i64 a, .int .i64 e] 115 (0, 0))
theorem RdrAt.c0 {w : World} {g : Nat} {vb : Value} {a e : Int} (h : RdrAt w g vb a e) : w.cell? ⟨g, 0, none⟩ = some vb := by unfold RdrAt at h; simp [World.cell?, h]
theorem RdrAt.c1 {w : World} {g : Nat} {vb : Value} {a e : Int} (h : RdrAt w g vb a e) : w.cell? ⟨g, 1, none⟩ = some (.int .i64 a) := by unfold RdrAt at h; simp [World.cell?, h]
theorem RdrAt.c2 {w : World} {g : Nat} {vb : Value} {a e : Int} (h : RdrAt w g vb a e) : w.cell? ⟨g, 2, none⟩ = some (.int .i64 e) := by unfold RdrAt at h; simp [World.cell?, h]
theorem RdrAt.f1 {w : World} {g : Nat} {vb : Value} {a e : Int} (h : RdrAt w g vb a e) : w.frozen? ⟨g, 1, none⟩ = false := by unfold RdrAt at h; simp [World.frozen?, h]
theorem RdrAt.set {w : World} {g : Nat} {vb : Value} {a e : Int} (h : RdrAt w g vb a e) (a' : Int) : RdrAt (w.setCell ⟨g, 1, none⟩ (.int .i64 a')) g vb a' e := by
  unfold RdrAt at *; simp [World.setCell, Array.getElem?_modify, h]
/-- What a read gives. -/
def RGives {α : Type} (w : World) (g : Nat) (vb : Value) (e_ : Nat) (VR : World → Value → α → Prop) (r : Except Int (α × Nat)) (e : Ending) (w' : World) : Prop :=
  Kp (· = g) w w' ∧ match r with
    | .ok (x, a') => (∃ v, e = .returned v ∧ VR w' v x) ∧ RdrAt w' g vb a' e_ ∧ a' ≤ e_
    | .error k => e = .panicked [{ v := .iface 31 (.int .i64 k), recovered := false }]
abbrev IntR (w : World) (v : Value) (n : Int) : Prop := v = .int .i64 n
theorem rNum_ok {l : List UInt8} {e a size : Nat} (h : a + size ≤ e) : rNum l e a size = .ok ((beN ((l.drop a).take size) : Int), a + size) := by unfold rNum; rw [if_neg (by omega)]
theorem rNum_err {l : List UInt8} {e a size : Nat} (h : e < a + size) : rNum l e a size = .error 3 := by unfold rNum; rw [if_pos h]
theorem take_take_drop (l : List UInt8) (e a k : Nat) (h : a + k ≤ e) : ((l.take e).drop a).take k = (l.drop a).take k := by
  rw [List.drop_take, List.take_take, Nat.min_eq_left (by omega)]
theorem quiet_same {P : Program} {f : FuncId} {args : Array Value} {w : World} {n : Nat} {v : Value} (h : Calls P f args (w.drewN n) fun e w' => e = .returned v ∧ w.drewN n = w') :
    Calls P f args (w.drewN n) fun e w'' => e = .returned v ∧ ∃ m, w'' = w.drewN m := h.mono fun _ _ ⟨he, hm⟩ => ⟨he, n, hm.symm⟩
theorem Kp.set1 {g : Nat} {w w' : World} (h : Kp (· = g) w w') (o : Nat) (u : Value) : Kp (· = g) w (w'.setCell ⟨g, o, none⟩ u) := h.setCell (p := ⟨g, o, none⟩) (.inl rfl) u
theorem Kp.one {g : Nat} {w0 w w' : World} (h : Kp (· = g) w w') (hE : Ext w0 w) (hg : w0.heap.size ≤ g) : Ext w0 w' :=
  Kp.to_ext ((Kp.of_ext (S := (· = g)) hE).trans h) (fun i hi he => by subst he; omega)
set_option maxHeartbeats 1000000 in
/-- reader.num. -/
theorem rdr_num (w0 w : World) (g : Nat) (vb : Value) (l : List UInt8) (e_ a size : Nat) (hE : Ext w0 w) (hb : BytesV w0 vb l) (hg : w0.heap.size ≤ g) (hr : RdrAt w g vb a e_) (hae : a ≤ e_) (hel : e_ ≤ l.length) (h1 : 1 ≤ size) (h7 : size ≤ 7) :
    Calls Try.prog 158 #[.pointer (some ⟨g, 0, none⟩), .int .i64 size] w (RGives w g vb e_ IntR (rNum l e_ a size)) := by
  have hll := hb.len
  have c0 := hr.c0
  have c1 := hr.c1
  have c2 := hr.c2
  have f1 := hr.f1
  have HR := Lib.hid hr
  obtain ⟨v', hsl, hv'⟩ := cut_h elem22 size22 (hb.ext hE) (e_ : Int) (by omega) (by omega)
  have hq := fun n => num_Get v' (l.take e_) a size (w.drewN n) hv' (by unfold maxI at hll; omega)
  unfold maxI at hll
  have HE := Lib.hid hE
  clear hE hb hr hv'
  by_cases hs : a + size ≤ e_
  · have hgn := getN_ok (l.take e_) a size (by omega) (by simp; omega)
    rw [hgn] at hq
    rw [show ((a : Int)).toNat = a from by omega, show ((size : Int)).toNat = size from by omega, take_take_drop l e_ a size hs] at hq
    have HM := Lib.hid (rNum_ok (l := l) hs)
    have HQ := Lib.hid hq
    generalize beN ((l.drop a).take size) = x at *
    clear hq hgn
    go_enter Try.func158, Try.ntmps158
    go_wp2
    go_quiet ((go_at_call 127; exact quiet_same (HQ.out _)))
    go_wp2
    go_ret
    rw [HM.out]
    refine ⟨((Kp.refl _ _).drewN _).set1 _ _, ⟨_, rfl, rfl⟩, ?_, hs⟩
    exact RdrAt.set (w := w.drewN nq) HR.out _
  · have hgn := getN_short (l.take e_) a size (by omega) (by simp; omega)
    rw [hgn] at hq
    have HM := Lib.hid (rNum_err (l := l) (show e_ < a + size by omega))
    have HQ := Lib.hid hq
    clear hq hgn hs
    go_enter Try.func158, Try.ntmps158
    go_wp2
    go_quiet ((go_at_call 127; exact quiet_same (HQ.out _)))
    go_wp2
    rw [HM.out]
    exact ⟨rfl, (Kp.refl _ _).drewN _, rfl⟩
abbrev BytesR (base : Nat) (w : World) (v : Value) (l : List UInt8) : Prop := OwnL vByte 5 w base v l
abbrev NameR (base : Nat) (w : World) (v : Value) (l : List Str) : Prop := OwnL Value.string 9 w base v l
abbrev IntsR (base : Nat) (w : World) (v : Value) (l : List Int) : Prop := OwnL vInt 3 w base v l
theorem rBytes_ok {l : List UInt8} {e a n : Nat} (h : a + n ≤ e) : rBytes l e a n = .ok ((l.take (a + n)).drop a, a + n) := by unfold rBytes; rw [if_neg (by omega)]
theorem rBytes_err {l : List UInt8} {e a n : Nat} (h : e < a + n) : rBytes l e a n = .error 3 := by unfold rBytes; rw [if_pos h]
set_option maxRecDepth 100000 in
set_option maxHeartbeats 1000000 in
/-- reader.bytes. -/
theorem rdr_bytes (w0 w : World) (g : Nat) (vb : Value) (l : List UInt8) (e_ a n : Nat) (hE : Ext w0 w) (hb : BytesV w0 vb l) (hg : w0.heap.size ≤ g) (hr : RdrAt w g vb a e_) (hae : a ≤ e_) (hel : e_ ≤ l.length) (hn : n ≤ maxI) (hl : l.length ≤ 140737488355328) :
    Calls Try.prog 135 #[.pointer (some ⟨g, 0, none⟩), .int .i64 n] w (RGives w g vb e_ (BytesR w.heap.size) (rBytes l e_ a n)) := by
  have c0 := hr.c0
  have c1 := hr.c1
  have c2 := hr.c2
  have f1 := hr.f1
  have HR := Lib.hid hr
  have HE := Lib.hid hE
  have HB := Lib.hid hb
  have hglt : g < w.heap.size := by unfold RdrAt at hr; exact (Array.getElem?_eq_some_iff.1 hr).1
  unfold maxI at hn
  clear hE hb hr
  by_cases hs : a + n ≤ e_
  · obtain ⟨v', hsl, hv'⟩ := cut_lh elem22 size22 (HB.out.ext HE.out) ((a : Int) + (n : Int) - (n : Int)) ((a : Int) + (n : Int)) (by omega) (by omega) (by omega)
    rw [show ((a : Int) + (n : Int) - (n : Int)).toNat = a from by omega, show ((a : Int) + (n : Int)).toNat = a + n from by omega] at hv'
    have hsl2 := hsl
    rw [show ((a : Int) + (n : Int) - (n : Int)) = (a : Int) from by omega] at hsl2
    have hv2 : BytesV w0 v' ((l.take (a + n)).drop a) := by
      obtain ⟨v2, hsl3, hv3⟩ := cut_lh elem22 size22 HB.out ((a : Int) + (n : Int) - (n : Int)) ((a : Int) + (n : Int)) (by omega) (by omega) (by omega)
      rw [show ((a : Int) + (n : Int) - (n : Int)).toNat = a from by omega, show ((a : Int) + (n : Int)).toNat = a + n from by omega] at hv3
      have e1 := (hsl w0).symm.trans (hsl3 w0)
      injection e1 with e1
      rw [e1]
      exact hv3
    have hxl : ((l.take (a + n)).drop a).length ≤ 140737488355328 := by simp; omega
    have HV' := Lib.hid hv'
    have HM := Lib.hid (rBytes_ok (l := l) hs)
    clear hv'
    generalize (l.take (a + n)).drop a = x at *
    go_enter Try.func135, Try.ntmps135
    go_wp2
    go_quiet (fail)
    go_wp2
    have hr2 : RdrAt ((w.drewN nq).setCell ⟨g, 1, none⟩ (.int .i64 ((a : Int) + (n : Int)))) g vb ((a : Int) + (n : Int)) e_ := RdrAt.set (w := w.drewN nq) HR.out _
    have hK : Kp (· = g) w ((w.drewN nq).setCell ⟨g, 1, none⟩ (.int .i64 ((a : Int) + (n : Int)))) := ((Kp.refl _ _).drewN _).set1 _ _
    generalize (w.drewN nq).setCell ⟨g, 1, none⟩ (.int .i64 ((a : Int) + (n : Int))) = W at *
    refine still_tail 15 (by kernel_rfl) (by kernel_rfl) ?_
    simp only [List.take_succ_cons, List.take_zero, List.drop_succ_cons, List.drop_zero]
    have hr3 : RdrAt W.drew g vb ((a : Int) + (n : Int)) e_ := hr2
    have hK3 : Kp (· = g) w W.drew := hK.drew
    clear hr2 hK
    generalize W.drew = W2 at *
    clear c0 c1 c2 f1
    have c0 := hr3.c0
    have c1 := hr3.c1
    have c2 := hr3.c2
    have HR2 := Lib.hid hr3
    have HK := Lib.hid hK3
    have HN := Lib.hid (clone_B v' x W2 (hv2.ext (hK3.one HE.out hg)) (by omega))
    clear hr3 hK3
    have hwr : IntKind.i64.wrap (a : Int) = (a : Int) := wraps_i64 _ (by omega) (by omega)
    repeat still_step
    refine wpStill_nil ?_
    go_wp2_with (go_at_call 123; refine HN.out.mono ?_; rintro e w' ⟨v1, rfl, hO, hE1⟩)
    go_ret
    rw [HM.out]
    exact ⟨HK.out.ext hE1, ⟨_, rfl, hO.mono HK.out.size⟩, hE1.block HR2.out, hs⟩
  · have HM := Lib.hid (rBytes_err (l := l) (show e_ < a + n by omega))
    have hs' : (e_ : Int) - (a : Int) < (n : Int) := by omega
    clear hs
    go_enter Try.func135, Try.ntmps135
    go_wp2
    go_quiet (fail)
    go_wp2
    rw [HM.out]
    exact ⟨rfl, (Kp.refl _ _).drewN _, rfl⟩
theorem rName_err {l : List UInt8} {e a : Nat} {r : List Str × Int × Int} (h : getName l a = r) (h2 : r.2.2 ≠ 0) : rName l e a = .error r.2.2 := by
  unfold rName; simp only [h]; rw [if_pos h2]
theorem rName_far {l : List UInt8} {e a : Nat} {n : List Str} {x : Int} (h : getName l a = (n, x, 0)) (h2 : (e : Int) < x) : rName l e a = .error 3 := by
  unfold rName; simp only [h]; rw [if_neg (by simp), if_pos h2]
theorem rName_ok {l : List UInt8} {e a : Nat} {n : List Str} {x : Nat} (h : getName l a = (n, (x : Int), 0)) (h2 : x ≤ e) : rName l e a = .ok (n, x) := by
  unfold rName; simp only [h]; rw [if_neg (by simp), if_neg (by omega)]; rfl
theorem getNm_next (l : List UInt8) : ∀ (a g s x : Nat) (n : List Str), 0 ≤ (getNm l a g s x n).2.1 := by
  intro a g s x n
  induction a, g, s, x, n using getNm.induct (b := l) with
  | case1 => rw [getNm_end (by assumption)]; simp
  | case2 a g s x n c h1 h2 => rw [getNm_zero h1 h2]; exact Int.natCast_nonneg _
  | case3 a g s x n c h1 h2 h3 h4 => rw [getNm_ptr_end h1 h3 h4]; simp
  | case4 a g s x n c h1 h2 h3 d h4 h5 => rw [getNm_ptr_loop h1 h3 h4 h5]; simp
  | case5 a g s x n c h1 h2 h3 d h4 h5 ih => rw [getNm_ptr h1 h3 h4 (by omega)]; exact ih
  | case6 a g s x n c h1 h2 h3 h4 => rw [getNm_bad h1 (by omega) h4]; simp
  | case7 a g s x n c h1 h2 h3 h4 h5 => rw [getNm_short h1 h2 (by omega) h5]; simp
  | case8 a g s x n c h1 h2 h3 h4 h5 h6 => rw [getNm_long h1 h2 (by omega) (by omega) h6]; simp
  | case9 a g s x n c h1 h2 h3 h4 h5 h6 ih => rw [getNm_label h1 h2 (by omega) (by omega) (by omega)]; exact ih
theorem getName_next (l : List UInt8) (a : Int) : 0 ≤ (getName l a).2.1 := by
  unfold getName; split
  · simp
  · exact getNm_next ..
set_option maxRecDepth 100000 in
set_option maxHeartbeats 1000000 in
/-- reader.name. -/
theorem rdr_name (w0 w : World) (g : Nat) (vb : Value) (l : List UInt8) (e_ a : Nat) (hE : Ext w0 w) (hb : BytesV w0 vb l) (hg : w0.heap.size ≤ g) (hr : RdrAt w g vb a e_) (hae : a ≤ e_) (hel : e_ ≤ l.length) :
    Calls Try.prog 138 #[.pointer (some ⟨g, 0, none⟩)] w (RGives w g vb e_ (NameR w.heap.size) (rName l e_ a)) := by
  have hll := hb.len
  have HE := Lib.hid hE
  have HB := Lib.hid hb
  have hr3 : RdrAt w.drew g vb (a : Int) e_ := hr
  have hK3 : Kp (· = g) w w.drew := (Kp.refl _ _).drew
  have hC := wname_Get vb l a w.drew (hb.ext hE.drew) (by unfold maxI at hll; omega)
  have hglt : g < w.drew.heap.size := by unfold RdrAt at hr; exact (Array.getElem?_eq_some_iff.1 hr).1
  unfold maxI at hll
  clear hE hb hr
  go_enter Try.func138, Try.ntmps138
  go_wp2
  have hsz : w.heap.size ≤ w.drew.heap.size := Nat.le_refl _
  have c0 : w.drew.cell? ⟨g, 0, none⟩ = some vb := hr3.c0
  have c1 : w.drew.cell? ⟨g, 1, none⟩ = some (.int .i64 a) := hr3.c1
  have HR2 := Lib.hid hr3
  have HK := Lib.hid hK3
  have HC := Lib.hid hC
  clear hr3 hK3 hC
  have hnn := getName_next l a
  rcases hgn : getName l a with ⟨n, x, k⟩
  rw [hgn] at HC hnn
  go_region_with (first | (go_at_call 126; refine HC.out.mono ?_; rintro e w' ⟨v1, rfl, hO, hE1⟩; have HR4 : Hid (RdrAt w' g vb a e_) := hE1.block HR2.out))
  all_goals
    clear c0 c1
    have d1 := HR4.out.c1
    have d2 := HR4.out.c2
    have f1 := HR4.out.f1
    by_cases hk : k = 0
    · subst hk
      obtain ⟨y, rfl⟩ := Int.eq_ofNat_of_zero_le hnn
      by_cases hx : y ≤ e_
      · have HM := Lib.hid (rName_ok hgn hx)
        clear hgn hnn
        go_wp2
        go_ret
        rw [HM.out]
        exact ⟨(HK.out.ext hE1).set1 _ _, ⟨_, rfl, (hO.set_other hglt _ _).mono hsz⟩, HR4.out.set _, hx⟩
      · have HM := Lib.hid (rName_far (e := e_) hgn (by omega))
        have hx' : (e_ : Int) < (y : Int) := by omega
        clear hgn hnn hx
        go_wp2
        rw [HM.out]
        exact ⟨rfl, HK.out.ext hE1, rfl⟩
    · have HM := Lib.hid (rName_err (e := e_) hgn hk)
      have hk1 : (k == 0) = false := by rw [beq_eq_false_iff_ne]; exact hk
      have hk2 : (k != 0) = true := by rw [bne_iff_ne]; exact hk
      clear hgn hnn hk
      go_wp2
      rw [HM.out]
      exact ⟨rfl, HK.out.ext hE1, rfl⟩
end Go.Proofs.Ytfnelkcllaaebaa
end
section
/- Contracts of rdata's reader: nums, texts. -/
open Go.RowKit
set_option linter.unusedVariables false
set_option linter.unusedSimpArgs false
namespace Go.Proofs.Ytfnelkcllaaebaa
/-- A shape's cells. -/
def shapeC (s : Shape) : Array Value := #[.int .i64 s.bytes, .bool s.host, .bool s.mail, .bool s.short, .int .i64 s.nums, .int .i64 s.size, .bool s.texts, .bool s.first]
theorem RdrAt.ext {w w' : World} {g : Nat} {vb : Value} {a e : Int} (h : RdrAt w g vb a e) (hE : Ext w w') : RdrAt w' g vb a e := hE.block h
theorem RdrAt.grown {w w' : World} {row : Option Nat} {g : Nat} {vb : Value} {a e : Int} (h : RdrAt w g vb a e) (hg : w.grownBy w' row) (hne : some g ≠ row) : RdrAt w' g vb a e :=
  (hg.block g (Array.getElem?_eq_some_iff.1 h).1 hne).trans h
theorem blk_grown {w w' : World} {row : Option Nat} {g : Nat} {o : Obj} (h : w.heap[g]? = some o) (hg : w.grownBy w' row) (hne : some g ≠ row) : w'.heap[g]? = some o :=
  (hg.block g (Array.getElem?_eq_some_iff.1 h).1 hne).trans h
theorem ne_row {base g : Nat} {row : Option Nat} (hg : g < base) (h : ∀ k, row = some k → base ≤ k) : some g ≠ row := fun e => by have := h g e.symm; omega
/-- The loop of nums. -/
def NumsRel (w0 w : World) (g : Nat) (vb : Value) (l : List UInt8) (e_ : Nat) (s : Shape) (r : Except Int (List Int × Nat)) (s5 s8 : Value) (wr : World) : Prop :=
  ∃ k a out, s8 = .int .i64 (k : Nat) ∧ k ≤ s.nums ∧ OwnL vInt 3 wr (w.heap.size + 1) s5 out ∧ out.length = k ∧ Kp (· = g) w wr ∧ RdrAt wr g vb (a : Nat) e_ ∧ a ≤ e_ ∧
    wr.heap[w.heap.size]? = some (.cells (shapeC s) 118 (0, 0)) ∧ rNums l e_ s.size (s.nums - k) a out = r
theorem rNums_step_err {l : List UInt8} {e size k a : Nat} {out : List Int} {x : Int} (h : rNum l e a size = .error x) : rNums l e size (k + 1) a out = .error x := by rw [rNums, h]
theorem rNums_step_ok {l : List UInt8} {e size k a a' : Nat} {out : List Int} {x : Int} (h : rNum l e a size = .ok (x, a')) : rNums l e size (k + 1) a out = rNums l e size k a' (out ++ [x]) := by rw [rNums, h]
set_option maxHeartbeats 1000000 in
/-- reader.nums. -/
theorem rdr_nums (w0 w : World) (g : Nat) (vb : Value) (l : List UInt8) (e_ a : Nat) (s : Shape) (hE : Ext w0 w) (hb : BytesV w0 vb l) (hg : w0.heap.size ≤ g) (hr : RdrAt w g vb a e_) (hae : a ≤ e_) (hel : e_ ≤ l.length)
    (h0 : s.nums ≤ 5) (h1 : 0 < s.nums → 1 ≤ s.size) (h7 : s.size ≤ 7) :
    Calls Try.prog 137 #[.pointer (some ⟨g, 0, none⟩), .agg (shapeC s)] w (RGives w g vb e_ (IntsR (w.heap.size + 1)) (rNums l e_ s.size s.nums a [])) := by
  have hglt : g < w.heap.size := (Array.getElem?_eq_some_iff.1 hr).1
  have HE := Lib.hid hE
  have HB := Lib.hid hb
  have HR := Lib.hid hr
  generalize hres : rNums l e_ s.size s.nums a [] = r
  have HRES := Lib.hid hres
  clear hE hb hr hres
  have hS : Hid (shapeC s = #[.int .i64 s.bytes, .bool s.host, .bool s.mail, .bool s.short, .int .i64 s.nums, .int .i64 s.size, .bool s.texts, .bool s.first]) := rfl
  rw [hS.out]
  go_enter Try.func137, Try.ntmps137
  go_wp2
  go_loopw [5, 8] (fun s5 s8 wr => NumsRel w0 w g vb l e_ s r s5 s8 wr) (fun _ s8 _ => s.nums - (intOf s8).toNat)
  case atStart =>
    refine ⟨0, a, [], rfl, by omega, OwnL.nil _ _ _ _, rfl, (Kp.refl _ _).alloc _, RdrAt.ext HR.out ((Ext.refl _).alloc _), hae, ?_, HRES.out⟩
    rw [heap_alloc_new]; rfl
  case round =>
    obtain ⟨k, a, out, rfl, hk, HO, hol, hK, hRd, hae, hbx, hres⟩ := hrel
    have HRES := Lib.hid hres
    have c4 : wr.cell? ⟨w.heap.size, 4, none⟩ = some (.int .i64 s.nums) := by simp [World.cell?, hbx, shapeC]
    have c5 : wr.cell? ⟨w.heap.size, 5, none⟩ = some (.int .i64 s.size) := by simp [World.cell?, hbx, shapeC]
    have HK := Lib.hid hK
    have HRd := Lib.hid hRd
    have HBX := Lib.hid hbx
    clear hres hK hRd hbx
    by_cases hlt : k < s.nums
    · have hC := rdr_num w0 wr g vb l e_ a s.size (HK.out.one HE.out hg) HB.out hg HRd.out hae hel (h1 (by omega)) h7
      obtain ⟨m, hm⟩ : ∃ m, s.nums - k = m + 1 := ⟨s.nums - k - 1, by omega⟩
      rw [hm] at HRES
      cases hn : rNum l e_ a s.size with
      | error x =>
        rw [hn] at hC
        have HM := Lib.hid (rNums_step_err (k := m) (out := out) hn)
        have HC := Lib.hid hC
        clear hn hC hm
        go_wp2_with (go_at_call 158; refine HC.out.mono ?_; rintro e w' ⟨hK1, rfl⟩)
        rw [← HRES.out, HM.out]
        exact ⟨rfl, HK.out.trans hK1, rfl⟩
      | ok p =>
        obtain ⟨x, a'⟩ := p
        rw [hn] at hC
        have HM := Lib.hid (rNums_step_ok (k := m) (out := out) hn)
        have HC := Lib.hid hC
        have Hm := Lib.hid hm
        clear hn hC hm
        have hout6 : (out.length + 1) * 8 ≤ 140737488355328 := by omega
        have HO6 := Lib.hid hout6
        clear hout6
        go_wp2_with (first
          | (go_at_call 158; refine HC.out.mono ?_; rintro e w' ⟨hK1, ⟨v1, rfl, hv1⟩, hRd1, hae1⟩; subst hv1)
          | (at_builtin; go_must (refine wpList_app1 vInt (w.heap.size + 1) rfl (.tmp 10) (.tmp 15) 24 3 (.int .i64 0) 8 rfl Try.underlying24 (by kernel_rfl) rfl (by decide) _ out x rfl rfl rfl (OwnL.kp HO hK1 (by omega)) (by have := HK.out.size; have := hK1.size; have := (Array.getElem?_eq_some_iff.1 HBX.out).1; omega) HO6.out ?_); intro v1 w1 hO1 hg1))
        go_roundw
        case rel =>
          have hb1 : ∀ i, (u5 : Value).ownBlock = some i → w.heap.size + 1 ≤ i := HO.base_le
          have e1 : s.nums - (k + 1) = m := by have := Hm.out; omega
          refine ⟨k + 1, a', out ++ [x], by go_num, by omega, hO1, by simp [hol], (HK.out.trans hK1).grown hg1 (fun i hi => .inr (by have := hb1 i hi; omega)), hRd1.grown hg1 (ne_row (by omega) hb1), hae1, blk_grown (hK1.heap HBX.out (by omega)) hg1 (ne_row (by omega) hb1), ?_⟩
          rw [e1, ← HM.out]
          exact HRES.out
        case measure => simp [intOf]; omega
    · have e0 : s.nums - k = 0 := by omega
      rw [e0] at HRES
      go_wp2
      go_ret
      rw [← HRES.out]
      exact ⟨HK.out, ⟨_, rfl, HO⟩, HRd.out, hae⟩
end Go.Proofs.Ytfnelkcllaaebaa
end
section
/- Contracts of rdata's reader: texts. -/
open Go.RowKit
set_option linter.unusedVariables false
set_option linter.unusedSimpArgs false
namespace Go.Proofs.Ytfnelkcllaaebaa
theorem rTexts_done {l : List UInt8} {e a : Nat} {out : List Str} (h : e ≤ a) (ho : out ≠ []) : rTexts l e a out = .ok (out, a) := by rw [rTexts, dif_neg (by omega), if_neg ho]
theorem rTexts_none {l : List UInt8} {e a : Nat} (h : e ≤ a) : rTexts l e a [] = .error 2 := by rw [rTexts, dif_neg (by omega), if_pos rfl]
theorem rTexts_many {l : List UInt8} {e a : Nat} {out : List Str} (h : a < e) (ho : out.length = 64) : rTexts l e a out = .error 4 := by rw [rTexts, dif_pos h, if_pos ho]
theorem rTexts_short {l : List UInt8} {e a : Nat} {out : List Str} {c : UInt8} (h : a < e) (ho : out.length ≠ 64) (hc : l[a]? = some c) (h2 : e < a + 1 + c.toNat) : rTexts l e a out = .error 3 := by
  rw [rTexts, dif_pos h, if_neg ho]; simp only [hc]; rw [if_pos h2]
theorem rTexts_step {l : List UInt8} {e a : Nat} {out : List Str} {c : UInt8} (h : a < e) (ho : out.length ≠ 64) (hc : l[a]? = some c) (h2 : a + 1 + c.toNat ≤ e) :
    rTexts l e a out = rTexts l e (a + 1 + c.toNat) (out ++ [ofB ((l.take (a + 1 + c.toNat)).drop (a + 1))]) := by
  rw [rTexts, dif_pos h, if_neg ho]; simp only [hc]; rw [if_neg (by omega)]
theorem rNum_one {l : List UInt8} {e a : Nat} {c : UInt8} (h : a < e) (hc : l[a]? = some c) : rNum l e a 1 = .ok ((c.toNat : Int), a + 1) := by
  rw [rNum_ok (by omega)]
  have := take_drop_snoc l a 0 c (by simpa using hc)
  simp at this
  simp [this, beN]
/-- The loop of texts. -/
def TextsRel (w : World) (g : Nat) (vb : Value) (l : List UInt8) (e_ : Nat) (r : Except Int (List Str × Nat)) (gg : Nat) (s3 : Value) (wr : World) : Prop :=
  ∃ a out, OwnL Value.string 9 wr w.heap.size s3 out ∧ out.length ≤ 64 ∧ Kp (· = g) w wr ∧ RdrAt wr g vb (a : Nat) e_ ∧ a ≤ e_ ∧ rTexts l e_ a out = r ∧ e_ - a ≤ gg
set_option maxRecDepth 100000 in
set_option maxHeartbeats 1000000 in
/-- reader.texts. -/
theorem rdr_texts (w0 w : World) (g : Nat) (vb : Value) (l : List UInt8) (e_ a : Nat) (hE : Ext w0 w) (hb : BytesV w0 vb l) (hg : w0.heap.size ≤ g) (hr : RdrAt w g vb a e_) (hae : a ≤ e_) (hel : e_ ≤ l.length) (hl : l.length ≤ 140737488355328) :
    Calls Try.prog 136 #[.pointer (some ⟨g, 0, none⟩)] w (RGives w g vb e_ (NameR w.heap.size) (rTexts l e_ a [])) := by
  have hglt : g < w.heap.size := (Array.getElem?_eq_some_iff.1 hr).1
  have HE := Lib.hid hE
  have HB := Lib.hid hb
  have HR := Lib.hid hr
  generalize hres : rTexts l e_ a [] = r
  have HRES := Lib.hid hres
  clear hE hb hr hres
  go_enter Try.func136, Try.ntmps136
  go_wp2
  go_loopg [3] e_ (fun gg s3 wr => TextsRel w g vb l e_ r gg s3 wr)
  case atStart => exact ⟨a, [], OwnL.nil _ _ _ _, by simp, Kp.refl _ _, HR.out, hae, HRES.out, by omega⟩
  case round =>
    obtain ⟨a, out, HO, hol, hK, hRd, hae, hres, hgg⟩ := hrel
    have HRES := Lib.hid hres
    have d1 := hRd.c1
    have d2 := hRd.c2
    have HK := Lib.hid hK
    have HRd := Lib.hid hRd
    clear hres hK hRd
    obtain ⟨A, c1, hform, ho1, ho2⟩ := HO.fl.form
    by_cases hlt : a < e_
    · by_cases h64 : out.length = 64
      · have HM := Lib.hid (rTexts_many hlt h64 (l := l))
        have hz : ((out.length : Int) == 64) = true := by rw [h64]; rfl
        have hlt' : (a : Int) < (e_ : Int) := by omega
        clear hlt h64
        subst hform
        go_wp2
        go_quiet (fail)
        go_wp2
        rw [← HRES.out, HM.out]
        exact ⟨rfl, HK.out.drewN _, rfl⟩
      · have hz : ((out.length : Int) == 64) = false := by rw [beq_eq_false_iff_ne]; omega
        have hlt' : (a : Int) < (e_ : Int) := by omega
        have hx : l[a]? = some l[a] := List.getElem?_eq_getElem (by omega)
        generalize l[a] = c at hx
        have hc8 := c.toNat_lt
        have hC1 := fun n => rdr_num w0 (wr.drewN n) g vb l e_ a 1 ((HK.out.one HE.out hg).drewN n) HB.out hg HRd.out hae hel (by omega) (by omega)
        rw [rNum_one hlt hx] at hC1
        have HC1 := Lib.hid hC1
        clear hC1
        have hE1 : ∀ w1, Kp (· = g) wr w1 → Ext w0 w1 := fun w1 h => (HK.out.trans h).one HE.out hg
        have HE1 := Lib.hid hE1
        clear hE1
        by_cases hs : e_ < a + 1 + c.toNat
        · have HM := Lib.hid (rTexts_short hlt h64 hx hs)
          have HS := Lib.hid (rBytes_err (l := l) hs)
          clear hlt h64 hx hs
          subst hform
          go_wp2
          go_quiet (fail)
          go_wp2_with (first
            | (go_at_call 158; refine (HC1.out _).mono ?_; rintro e w' ⟨hK1, ⟨v1, rfl, hv1⟩, hRd1, hae1⟩; subst hv1; have hK1' : Kp (· = g) wr w' := (Kp.of_ext ((Ext.refl _).drewN _)).trans hK1; clear hK1)
            | (go_at_call 135; go_must (refine (rdr_bytes w0 _ g vb l e_ (a + 1) c.toNat (HE1.out _ hK1') HB.out hg hRd1 hae1 hel (by unfold maxI; omega) hl).mono ?_); intro e w2 hP; rw [HS.out] at hP; obtain ⟨hK2, rfl⟩ := hP))
          rw [← HRES.out, HM.out]
          exact ⟨rfl, (HK.out.trans hK1').trans hK2, rfl⟩
        · have HM := Lib.hid (rTexts_step hlt h64 hx (by omega))
          have HS := Lib.hid (rBytes_ok (l := l) (show a + 1 + c.toNat ≤ e_ by omega))
          have hsz := HK.out.size
          have HO' := Lib.hid HO
          have hlen : (out.length + 1) * 16 ≤ 140737488355328 := by omega
          have HLn := Lib.hid hlen
          have hown : ∀ w2, Kp (· = g) wr w2 → OwnL Value.string 9 w2 w.heap.size (.slice A out.length c1) out := fun w2 h => hform ▸ (HO.kp h hglt)
          have HOWN := Lib.hid hown
          clear hown
          have hle : a + 1 + c.toNat ≤ e_ := by omega
          have ho63 : out.length < 64 := by omega
          clear hlt h64 hx hs hlen
          subst hform
          go_wp2
          go_quiet (fail)
          go_wp2_with (first
            | (go_at_call 158; refine (HC1.out _).mono ?_; rintro e w' ⟨hK1, ⟨v1, rfl, hv1⟩, hRd1, hae1⟩; subst hv1; have hK1' : Kp (· = g) wr w' := (Kp.of_ext ((Ext.refl _).drewN _)).trans hK1; clear hK1)
            | (go_at_call 135; go_must (refine (rdr_bytes w0 _ g vb l e_ (a + 1) c.toNat (HE1.out _ hK1') HB.out hg hRd1 hae1 hel (by unfold maxI; omega) hl).mono ?_); intro e w2 hP; rw [HS.out] at hP; obtain ⟨hK2, ⟨v2, rfl, hO2⟩, hRd2, hae2⟩ := hP; have hcv := conv_string hO2.fl; have hK3 := hK1'.trans hK2; have hsz3 := hK3.size)
            | (at_builtin; go_must (refine wpList_app1 Value.string w.heap.size rfl (.tmp 17) (.tmp 23) 23 9 (.string ⟨#[]⟩) 16 rfl Try.underlying23 (by kernel_rfl) rfl (by decide) _ out (ofB ((l.take (a + 1 + c.toNat)).drop (a + 1))) rfl rfl rfl (HOWN.out _ hK3) (by omega) HLn.out ?_); intro v3 w3 hO3 hg3))
          go_roundg (e_ - (a + 1 + c.toNat))
          case measure => omega
          case rel =>
            refine ⟨a + 1 + c.toNat, _, hO3, by simp; omega, (HK.out.trans hK3).grown hg3 (fun i hi => .inr ((HOWN.out _ hK3).base_le i hi)), hRd2.grown hg3 (ne_row hglt (HOWN.out _ hK3).base_le), hae2, ?_, Nat.le_refl _⟩
            rw [← HM.out]
            exact HRES.out
    · have hlt' : ¬ (a : Int) < (e_ : Int) := by omega
      by_cases h0 : out = []
      · subst h0
        have HM := Lib.hid (rTexts_none (l := l) (show e_ ≤ a by omega))
        clear hlt
        subst hform
        go_wp2
        go_quiet (fail)
        go_wp2
        rw [← HRES.out, HM.out]
        exact ⟨rfl, HK.out.drewN _, rfl⟩
      · have HM := Lib.hid (rTexts_done (l := l) (show e_ ≤ a by omega) h0)
        have hz : ((out.length : Int) == 0) = false := by rw [beq_eq_false_iff_ne]; intro h; exact h0 (List.eq_nil_of_length_eq_zero (by omega))
        clear hlt h0
        subst hform
        go_wp2
        go_quiet (fail)
        go_wp2
        go_ret
        rw [← HRES.out, HM.out]
        exact ⟨HK.out.drewN _, ⟨_, rfl, HO⟩, HRd.out, hae⟩
end Go.Proofs.Ytfnelkcllaaebaa
end
