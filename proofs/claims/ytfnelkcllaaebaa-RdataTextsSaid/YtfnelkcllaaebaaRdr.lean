/- Contracts of rdata's reader. The bytes lie in an elder world w0; the reader's block is younger. -/
import Derived.Test.YtfnelkcllaaebaaWGet
import Derived.Test.YtfnelkcllaaebaaModD
import Derived.Test.YtfnelkcllaaebaaClone
import Derived.Test.YtfnelkcllaaebaaReg
import Derived.Deep.RegionWith
import Derived.Deep.RegionHeld3
import Derived.Outline
open Go.RowKit
set_option linter.unusedVariables false
set_option linter.unusedSimpArgs false
namespace Go.Proofs.Ytfnelkcllaaebaa
/-- The reader's block. -/
def RdrAt (w : World) (g : Nat) (vb : Value) (a e : Int) : Prop := w.heap[g]? = some (.cells #[vb, .int .i64 a, .int .i64 e] 115 (0, 0))
theorem RdrAt.c0 {w : World} {g : Nat} {vb : Value} {a e : Int} (h : RdrAt w g vb a e) : w.cell? ⟨g, 0, none⟩ = some vb := by unfold RdrAt at h; simp [World.cell?, h]
theorem RdrAt.c1 {w : World} {g : Nat} {vb : Value} {a e : Int} (h : RdrAt w g vb a e) : w.cell? ⟨g, 1, none⟩ = some (.int .i64 a) := by unfold RdrAt at h; simp [World.cell?, h]
theorem RdrAt.c2 {w : World} {g : Nat} {vb : Value} {a e : Int} (h : RdrAt w g vb a e) : w.cell? ⟨g, 2, none⟩ = some (.int .i64 e) := by unfold RdrAt at h; simp [World.cell?, h]
theorem RdrAt.f1 {w : World} {g : Nat} {vb : Value} {a e : Int} (h : RdrAt w g vb a e) : w.frozen? ⟨g, 1, none⟩ = false := by unfold RdrAt at h; simp [World.frozen?, h]
theorem RdrAt.set {w : World} {g : Nat} {vb : Value} {a e : Int} (h : RdrAt w g vb a e) (a' : Int) : RdrAt (w.setCell ⟨g, 1, none⟩ (.int .i64 a')) g vb a' e := by
  unfold RdrAt at *; simp [World.setCell, Array.getElem?_modify, h]
/-- What a read gives. -/
def RGives {α : Type} (w : World) (g : Nat) (vb : Value) (e_ : Nat) (VR : World → Value → α → Prop) (r : Except Int (α × Nat)) (e : Ending) (w' : World) : Prop :=
  Kp (· = g) w w' ∧ match r with
    | .ok (x, a') => (∃ v, e = .returned v ∧ VR w' v x) ∧ RdrAt w' g vb a' e_ ∧ a' ≤ e_
    | .error k => e = .panicked [{ v := .iface 31 (.int .i64 k), recovered := false }]
abbrev IntR (w : World) (v : Value) (n : Int) : Prop := v = .int .i64 n
theorem rNum_ok {l : List UInt8} {e a size : Nat} (h : a + size ≤ e) : rNum l e a size = .ok ((beN ((l.drop a).take size) : Int), a + size) := by unfold rNum; rw [if_neg (by omega)]
theorem rNum_err {l : List UInt8} {e a size : Nat} (h : e < a + size) : rNum l e a size = .error 3 := by unfold rNum; rw [if_pos h]
theorem take_take_drop (l : List UInt8) (e a k : Nat) (h : a + k ≤ e) : ((l.take e).drop a).take k = (l.drop a).take k := by
  rw [List.drop_take, List.take_take, Nat.min_eq_left (by omega)]
theorem quiet_same {P : Program} {f : FuncId} {args : Array Value} {w : World} {n : Nat} {v : Value} (h : Calls P f args (w.drewN n) fun e w' => e = .returned v ∧ w.drewN n = w') :
    Calls P f args (w.drewN n) fun e w'' => e = .returned v ∧ ∃ m, w'' = w.drewN m := h.mono fun _ _ ⟨he, hm⟩ => ⟨he, n, hm.symm⟩
theorem Kp.set1 {g : Nat} {w w' : World} (h : Kp (· = g) w w') (o : Nat) (u : Value) : Kp (· = g) w (w'.setCell ⟨g, o, none⟩ u) := h.setCell (p := ⟨g, o, none⟩) (.inl rfl) u
theorem Kp.one {g : Nat} {w0 w w' : World} (h : Kp (· = g) w w') (hE : Ext w0 w) (hg : w0.heap.size ≤ g) : Ext w0 w' :=
  Kp.to_ext ((Kp.of_ext (S := (· = g)) hE).trans h) (fun i hi he => by subst he; omega)
set_option maxHeartbeats 1000000 in
/-- reader.num. -/
theorem rdr_num (w0 w : World) (g : Nat) (vb : Value) (l : List UInt8) (e_ a size : Nat) (hE : Ext w0 w) (hb : BytesV w0 vb l) (hg : w0.heap.size ≤ g) (hr : RdrAt w g vb a e_) (hae : a ≤ e_) (hel : e_ ≤ l.length) (h1 : 1 ≤ size) (h7 : size ≤ 7) :
    Calls Try.prog 158 #[.pointer (some ⟨g, 0, none⟩), .int .i64 size] w (RGives w g vb e_ IntR (rNum l e_ a size)) := by
  have hll := hb.len
  have c0 := hr.c0
  have c1 := hr.c1
  have c2 := hr.c2
  have f1 := hr.f1
  have HR := Lib.hid hr
  obtain ⟨v', hsl, hv'⟩ := cut_h elem22 size22 (hb.ext hE) (e_ : Int) (by omega) (by omega)
  have hq := fun n => num_Get v' (l.take e_) a size (w.drewN n) hv' (by unfold maxI at hll; omega)
  unfold maxI at hll
  have HE := Lib.hid hE
  clear hE hb hr hv'
  by_cases hs : a + size ≤ e_
  · have hgn := getN_ok (l.take e_) a size (by omega) (by simp; omega)
    rw [hgn] at hq
    rw [show ((a : Int)).toNat = a from by omega, show ((size : Int)).toNat = size from by omega, take_take_drop l e_ a size hs] at hq
    have HM := Lib.hid (rNum_ok (l := l) hs)
    have HQ := Lib.hid hq
    generalize beN ((l.drop a).take size) = x at *
    clear hq hgn
    go_enter Try.func158, Try.ntmps158
    go_wp2
    go_quiet ((go_at_call 127; exact quiet_same (HQ.out _)))
    go_wp2
    go_ret
    rw [HM.out]
    refine ⟨((Kp.refl _ _).drewN _).set1 _ _, ⟨_, rfl, rfl⟩, ?_, hs⟩
    exact RdrAt.set (w := w.drewN nq) HR.out _
  · have hgn := getN_short (l.take e_) a size (by omega) (by simp; omega)
    rw [hgn] at hq
    have HM := Lib.hid (rNum_err (l := l) (show e_ < a + size by omega))
    have HQ := Lib.hid hq
    clear hq hgn hs
    go_enter Try.func158, Try.ntmps158
    go_wp2
    go_quiet ((go_at_call 127; exact quiet_same (HQ.out _)))
    go_wp2
    rw [HM.out]
    exact ⟨rfl, (Kp.refl _ _).drewN _, rfl⟩
abbrev BytesR (base : Nat) (w : World) (v : Value) (l : List UInt8) : Prop := OwnL vByte 5 w base v l
abbrev NameR (base : Nat) (w : World) (v : Value) (l : List Str) : Prop := OwnL Value.string 9 w base v l
abbrev IntsR (base : Nat) (w : World) (v : Value) (l : List Int) : Prop := OwnL vInt 3 w base v l
theorem rBytes_ok {l : List UInt8} {e a n : Nat} (h : a + n ≤ e) : rBytes l e a n = .ok ((l.take (a + n)).drop a, a + n) := by unfold rBytes; rw [if_neg (by omega)]
theorem rBytes_err {l : List UInt8} {e a n : Nat} (h : e < a + n) : rBytes l e a n = .error 3 := by unfold rBytes; rw [if_pos h]
set_option maxRecDepth 100000 in
set_option maxHeartbeats 1000000 in
/-- reader.bytes. -/
theorem rdr_bytes (w0 w : World) (g : Nat) (vb : Value) (l : List UInt8) (e_ a n : Nat) (hE : Ext w0 w) (hb : BytesV w0 vb l) (hg : w0.heap.size ≤ g) (hr : RdrAt w g vb a e_) (hae : a ≤ e_) (hel : e_ ≤ l.length) (hn : n ≤ maxI) (hl : l.length ≤ 140737488355328) :
    Calls Try.prog 135 #[.pointer (some ⟨g, 0, none⟩), .int .i64 n] w (RGives w g vb e_ (BytesR w.heap.size) (rBytes l e_ a n)) := by
  have c0 := hr.c0
  have c1 := hr.c1
  have c2 := hr.c2
  have f1 := hr.f1
  have HR := Lib.hid hr
  have HE := Lib.hid hE
  have HB := Lib.hid hb
  have hglt : g < w.heap.size := by unfold RdrAt at hr; exact (Array.getElem?_eq_some_iff.1 hr).1
  unfold maxI at hn
  clear hE hb hr
  by_cases hs : a + n ≤ e_
  · obtain ⟨v', hsl, hv'⟩ := cut_lh elem22 size22 (HB.out.ext HE.out) ((a : Int) + (n : Int) - (n : Int)) ((a : Int) + (n : Int)) (by omega) (by omega) (by omega)
    rw [show ((a : Int) + (n : Int) - (n : Int)).toNat = a from by omega, show ((a : Int) + (n : Int)).toNat = a + n from by omega] at hv'
    have hsl2 := hsl
    rw [show ((a : Int) + (n : Int) - (n : Int)) = (a : Int) from by omega] at hsl2
    have hv2 : BytesV w0 v' ((l.take (a + n)).drop a) := by
      obtain ⟨v2, hsl3, hv3⟩ := cut_lh elem22 size22 HB.out ((a : Int) + (n : Int) - (n : Int)) ((a : Int) + (n : Int)) (by omega) (by omega) (by omega)
      rw [show ((a : Int) + (n : Int) - (n : Int)).toNat = a from by omega, show ((a : Int) + (n : Int)).toNat = a + n from by omega] at hv3
      have e1 := (hsl w0).symm.trans (hsl3 w0)
      injection e1 with e1
      rw [e1]
      exact hv3
    have hxl : ((l.take (a + n)).drop a).length ≤ 140737488355328 := by simp; omega
    have HV' := Lib.hid hv'
    have HM := Lib.hid (rBytes_ok (l := l) hs)
    clear hv'
    generalize (l.take (a + n)).drop a = x at *
    go_enter Try.func135, Try.ntmps135
    go_wp2
    go_quiet (fail)
    go_wp2
    have hr2 : RdrAt ((w.drewN nq).setCell ⟨g, 1, none⟩ (.int .i64 ((a : Int) + (n : Int)))) g vb ((a : Int) + (n : Int)) e_ := RdrAt.set (w := w.drewN nq) HR.out _
    have hK : Kp (· = g) w ((w.drewN nq).setCell ⟨g, 1, none⟩ (.int .i64 ((a : Int) + (n : Int)))) := ((Kp.refl _ _).drewN _).set1 _ _
    generalize (w.drewN nq).setCell ⟨g, 1, none⟩ (.int .i64 ((a : Int) + (n : Int))) = W at *
    refine still_tail 15 (by kernel_rfl) (by kernel_rfl) ?_
    simp only [List.take_succ_cons, List.take_zero, List.drop_succ_cons, List.drop_zero]
    have hr3 : RdrAt W.drew g vb ((a : Int) + (n : Int)) e_ := hr2
    have hK3 : Kp (· = g) w W.drew := hK.drew
    clear hr2 hK
    generalize W.drew = W2 at *
    clear c0 c1 c2 f1
    have c0 := hr3.c0
    have c1 := hr3.c1
    have c2 := hr3.c2
    have HR2 := Lib.hid hr3
    have HK := Lib.hid hK3
    have HN := Lib.hid (clone_B v' x W2 (hv2.ext (hK3.one HE.out hg)) (by omega))
    clear hr3 hK3
    have hwr : IntKind.i64.wrap (a : Int) = (a : Int) := wraps_i64 _ (by omega) (by omega)
    repeat still_step
    refine wpStill_nil ?_
    go_wp2_with (go_at_call 123; refine HN.out.mono ?_; rintro e w' ⟨v1, rfl, hO, hE1⟩)
    go_ret
    rw [HM.out]
    exact ⟨HK.out.ext hE1, ⟨_, rfl, hO.mono HK.out.size⟩, hE1.block HR2.out, hs⟩
  · have HM := Lib.hid (rBytes_err (l := l) (show e_ < a + n by omega))
    have hs' : (e_ : Int) - (a : Int) < (n : Int) := by omega
    clear hs
    go_enter Try.func135, Try.ntmps135
    go_wp2
    go_quiet (fail)
    go_wp2
    rw [HM.out]
    exact ⟨rfl, (Kp.refl _ _).drewN _, rfl⟩
theorem rName_err {l : List UInt8} {e a : Nat} {r : List Str × Int × Int} (h : getName l a = r) (h2 : r.2.2 ≠ 0) : rName l e a = .error r.2.2 := by
  unfold rName; simp only [h]; rw [if_pos h2]
theorem rName_far {l : List UInt8} {e a : Nat} {n : List Str} {x : Int} (h : getName l a = (n, x, 0)) (h2 : (e : Int) < x) : rName l e a = .error 3 := by
  unfold rName; simp only [h]; rw [if_neg (by simp), if_pos h2]
theorem rName_ok {l : List UInt8} {e a : Nat} {n : List Str} {x : Nat} (h : getName l a = (n, (x : Int), 0)) (h2 : x ≤ e) : rName l e a = .ok (n, x) := by
  unfold rName; simp only [h]; rw [if_neg (by simp), if_neg (by omega)]; rfl
theorem getNm_next (l : List UInt8) : ∀ (a g s x : Nat) (n : List Str), 0 ≤ (getNm l a g s x n).2.1 := by
  intro a g s x n
  induction a, g, s, x, n using getNm.induct (b := l) with
  | case1 => rw [getNm_end (by assumption)]; simp
  | case2 a g s x n c h1 h2 => rw [getNm_zero h1 h2]; exact Int.natCast_nonneg _
  | case3 a g s x n c h1 h2 h3 h4 => rw [getNm_ptr_end h1 h3 h4]; simp
  | case4 a g s x n c h1 h2 h3 d h4 h5 => rw [getNm_ptr_loop h1 h3 h4 h5]; simp
  | case5 a g s x n c h1 h2 h3 d h4 h5 ih => rw [getNm_ptr h1 h3 h4 (by omega)]; exact ih
  | case6 a g s x n c h1 h2 h3 h4 => rw [getNm_bad h1 (by omega) h4]; simp
  | case7 a g s x n c h1 h2 h3 h4 h5 => rw [getNm_short h1 h2 (by omega) h5]; simp
  | case8 a g s x n c h1 h2 h3 h4 h5 h6 => rw [getNm_long h1 h2 (by omega) (by omega) h6]; simp
  | case9 a g s x n c h1 h2 h3 h4 h5 h6 ih => rw [getNm_label h1 h2 (by omega) (by omega) (by omega)]; exact ih
theorem getName_next (l : List UInt8) (a : Int) : 0 ≤ (getName l a).2.1 := by
  unfold getName; split
  · simp
  · exact getNm_next ..
set_option maxRecDepth 100000 in
set_option maxHeartbeats 1000000 in
/-- reader.name. -/
theorem rdr_name (w0 w : World) (g : Nat) (vb : Value) (l : List UInt8) (e_ a : Nat) (hE : Ext w0 w) (hb : BytesV w0 vb l) (hg : w0.heap.size ≤ g) (hr : RdrAt w g vb a e_) (hae : a ≤ e_) (hel : e_ ≤ l.length) :
    Calls Try.prog 138 #[.pointer (some ⟨g, 0, none⟩)] w (RGives w g vb e_ (NameR w.heap.size) (rName l e_ a)) := by
  have hll := hb.len
  have HE := Lib.hid hE
  have HB := Lib.hid hb
  have hr3 : RdrAt w.drew g vb (a : Int) e_ := hr
  have hK3 : Kp (· = g) w w.drew := (Kp.refl _ _).drew
  have hC := wname_Get vb l a w.drew (hb.ext hE.drew) (by unfold maxI at hll; omega)
  have hglt : g < w.drew.heap.size := by unfold RdrAt at hr; exact (Array.getElem?_eq_some_iff.1 hr).1
  unfold maxI at hll
  clear hE hb hr
  go_enter Try.func138, Try.ntmps138
  go_wp2
  have hsz : w.heap.size ≤ w.drew.heap.size := Nat.le_refl _
  have c0 : w.drew.cell? ⟨g, 0, none⟩ = some vb := hr3.c0
  have c1 : w.drew.cell? ⟨g, 1, none⟩ = some (.int .i64 a) := hr3.c1
  have HR2 := Lib.hid hr3
  have HK := Lib.hid hK3
  have HC := Lib.hid hC
  clear hr3 hK3 hC
  have hnn := getName_next l a
  rcases hgn : getName l a with ⟨n, x, k⟩
  rw [hgn] at HC hnn
  go_region_with (first | (go_at_call 126; refine HC.out.mono ?_; rintro e w' ⟨v1, rfl, hO, hE1⟩; have HR4 : Hid (RdrAt w' g vb a e_) := hE1.block HR2.out))
  all_goals
    clear c0 c1
    have d1 := HR4.out.c1
    have d2 := HR4.out.c2
    have f1 := HR4.out.f1
    by_cases hk : k = 0
    · subst hk
      obtain ⟨y, rfl⟩ := Int.eq_ofNat_of_zero_le hnn
      by_cases hx : y ≤ e_
      · have HM := Lib.hid (rName_ok hgn hx)
        clear hgn hnn
        go_wp2
        go_ret
        rw [HM.out]
        exact ⟨(HK.out.ext hE1).set1 _ _, ⟨_, rfl, (hO.set_other hglt _ _).mono hsz⟩, HR4.out.set _, hx⟩
      · have HM := Lib.hid (rName_far (e := e_) hgn (by omega))
        have hx' : (e_ : Int) < (y : Int) := by omega
        clear hgn hnn hx
        go_wp2
        rw [HM.out]
        exact ⟨rfl, HK.out.ext hE1, rfl⟩
    · have HM := Lib.hid (rName_err (e := e_) hgn hk)
      have hk1 : (k == 0) = false := by rw [beq_eq_false_iff_ne]; exact hk
      have hk2 : (k != 0) = true := by rw [bne_iff_ne]; exact hk
      clear hgn hnn hk
      go_wp2
      rw [HM.out]
      exact ⟨rfl, HK.out.ext hE1, rfl⟩
end Go.Proofs.Ytfnelkcllaaebaa
