/- Parts of one proof, joined: RefD, RefD2, RefD3. Conditions: those that each theorem states. -/
import Derived.Test.YtfnelkcllaaebaaEB19
import Derived.Test.YtfnelkcllaaebaaEB15
section
/- Contracts of ref03.empty and ref03.fit. No condition but that slices read as lists. -/
open Go.RowKit
set_option linter.unusedVariables false
set_option linter.unusedSimpArgs false
namespace Go.Proofs.Ytfnelkcllaaebaa
def emp (d : Dat) (b h m n t : Bool) : Bool := (b || decide (d.bytes.length = 0)) && ((h || decide (d.host.length = 0)) && ((m || decide (d.mail.length = 0)) && ((n || decide (d.nums.length = 0)) && (t || decide (d.texts.length = 0)))))
theorem len0 (n : Nat) : ((n : Int) == 0) = decide (n = 0) := by
  rw [Bool.eq_iff_iff, beq_iff_eq, decide_eq_true_eq]; omega
set_option maxRecDepth 100000 in
theorem ref_empty_b (d : Dat) (v0 v1 v2 v3 v4 : Value) (w : World) (hd : DR w v0 v1 v2 v3 v4 d) :
    Calls Try.prog 121 #[.agg #[v0, v1, v2, v3, v4], .bool true, .bool false, .bool false, .bool false, .bool false] w fun e w' => e = .returned (.bool (emp d true false false false false)) ∧ Ext w w' := by
  have HE0 := Lib.hid ((Ext.refl w).alloc (.cells #[v0, v1, v2, v3, v4] 26))
  obtain ⟨A0, k0, rfl, _, _⟩ := hd.by_.form
  obtain ⟨A1, k1, rfl, _, _⟩ := hd.ho.form
  obtain ⟨A2, k2, rfl, _, _⟩ := hd.ma.form
  obtain ⟨A3, k3, rfl, _, _⟩ := hd.nu.form
  obtain ⟨A4, k4, rfl, _, _⟩ := hd.tx.form
  clear hd
  have HM : Hid (emp d true false false false false = ((true || ((d.bytes.length : Int) == 0)) && ((false || ((d.host.length : Int) == 0)) && ((false || ((d.mail.length : Int) == 0)) && ((false || ((d.nums.length : Int) == 0)) && (false || ((d.texts.length : Int) == 0))))))) := Lib.hid (by rw [len0, len0, len0, len0, len0]; rfl)
  cases h1 : ((d.host.length : Int) == 0)
  · rw [h1] at HM
    go_enter Try.func121, Try.ntmps121
    go_wp2
    go_ret
    exact ⟨by rw [HM.out]; rfl, HE0.out⟩
  · rw [h1] at HM
    cases h2 : ((d.mail.length : Int) == 0)
    · rw [h2] at HM
      go_enter Try.func121, Try.ntmps121
      go_wp2
      go_ret
      exact ⟨by rw [HM.out]; rfl, HE0.out⟩
    · rw [h2] at HM
      cases h3 : ((d.nums.length : Int) == 0)
      · rw [h3] at HM
        go_enter Try.func121, Try.ntmps121
        go_wp2
        go_ret
        exact ⟨by rw [HM.out]; rfl, HE0.out⟩
      · rw [h3] at HM
        cases h4 : ((d.texts.length : Int) == 0)
        · rw [h4] at HM
          go_enter Try.func121, Try.ntmps121
          go_wp2
          go_ret
          exact ⟨by rw [HM.out]; rfl, HE0.out⟩
        · rw [h4] at HM
          go_enter Try.func121, Try.ntmps121
          go_wp2
          go_ret
          exact ⟨by rw [HM.out]; rfl, HE0.out⟩
set_option maxRecDepth 100000 in
theorem ref_empty_h (d : Dat) (v0 v1 v2 v3 v4 : Value) (w : World) (hd : DR w v0 v1 v2 v3 v4 d) :
    Calls Try.prog 121 #[.agg #[v0, v1, v2, v3, v4], .bool false, .bool true, .bool false, .bool false, .bool false] w fun e w' => e = .returned (.bool (emp d false true false false false)) ∧ Ext w w' := by
  have HE0 := Lib.hid ((Ext.refl w).alloc (.cells #[v0, v1, v2, v3, v4] 26))
  obtain ⟨A0, k0, rfl, _, _⟩ := hd.by_.form
  obtain ⟨A1, k1, rfl, _, _⟩ := hd.ho.form
  obtain ⟨A2, k2, rfl, _, _⟩ := hd.ma.form
  obtain ⟨A3, k3, rfl, _, _⟩ := hd.nu.form
  obtain ⟨A4, k4, rfl, _, _⟩ := hd.tx.form
  clear hd
  have HM : Hid (emp d false true false false false = ((false || ((d.bytes.length : Int) == 0)) && ((true || ((d.host.length : Int) == 0)) && ((false || ((d.mail.length : Int) == 0)) && ((false || ((d.nums.length : Int) == 0)) && (false || ((d.texts.length : Int) == 0))))))) := Lib.hid (by rw [len0, len0, len0, len0, len0]; rfl)
  cases h0 : ((d.bytes.length : Int) == 0)
  · rw [h0] at HM
    go_enter Try.func121, Try.ntmps121
    go_wp2
    go_ret
    exact ⟨by rw [HM.out]; rfl, HE0.out⟩
  · rw [h0] at HM
    cases h2 : ((d.mail.length : Int) == 0)
    · rw [h2] at HM
      go_enter Try.func121, Try.ntmps121
      go_wp2
      go_ret
      exact ⟨by rw [HM.out]; rfl, HE0.out⟩
    · rw [h2] at HM
      cases h3 : ((d.nums.length : Int) == 0)
      · rw [h3] at HM
        go_enter Try.func121, Try.ntmps121
        go_wp2
        go_ret
        exact ⟨by rw [HM.out]; rfl, HE0.out⟩
      · rw [h3] at HM
        cases h4 : ((d.texts.length : Int) == 0)
        · rw [h4] at HM
          go_enter Try.func121, Try.ntmps121
          go_wp2
          go_ret
          exact ⟨by rw [HM.out]; rfl, HE0.out⟩
        · rw [h4] at HM
          go_enter Try.func121, Try.ntmps121
          go_wp2
          go_ret
          exact ⟨by rw [HM.out]; rfl, HE0.out⟩
set_option maxRecDepth 100000 in
theorem ref_empty_hn (d : Dat) (v0 v1 v2 v3 v4 : Value) (w : World) (hd : DR w v0 v1 v2 v3 v4 d) :
    Calls Try.prog 121 #[.agg #[v0, v1, v2, v3, v4], .bool false, .bool true, .bool false, .bool true, .bool false] w fun e w' => e = .returned (.bool (emp d false true false true false)) ∧ Ext w w' := by
  have HE0 := Lib.hid ((Ext.refl w).alloc (.cells #[v0, v1, v2, v3, v4] 26))
  obtain ⟨A0, k0, rfl, _, _⟩ := hd.by_.form
  obtain ⟨A1, k1, rfl, _, _⟩ := hd.ho.form
  obtain ⟨A2, k2, rfl, _, _⟩ := hd.ma.form
  obtain ⟨A3, k3, rfl, _, _⟩ := hd.nu.form
  obtain ⟨A4, k4, rfl, _, _⟩ := hd.tx.form
  clear hd
  have HM : Hid (emp d false true false true false = ((false || ((d.bytes.length : Int) == 0)) && ((true || ((d.host.length : Int) == 0)) && ((false || ((d.mail.length : Int) == 0)) && ((true || ((d.nums.length : Int) == 0)) && (false || ((d.texts.length : Int) == 0))))))) := Lib.hid (by rw [len0, len0, len0, len0, len0]; rfl)
  cases h0 : ((d.bytes.length : Int) == 0)
  · rw [h0] at HM
    go_enter Try.func121, Try.ntmps121
    go_wp2
    go_ret
    exact ⟨by rw [HM.out]; rfl, HE0.out⟩
  · rw [h0] at HM
    cases h2 : ((d.mail.length : Int) == 0)
    · rw [h2] at HM
      go_enter Try.func121, Try.ntmps121
      go_wp2
      go_ret
      exact ⟨by rw [HM.out]; rfl, HE0.out⟩
    · rw [h2] at HM
      cases h4 : ((d.texts.length : Int) == 0)
      · rw [h4] at HM
        go_enter Try.func121, Try.ntmps121
        go_wp2
        go_ret
        exact ⟨by rw [HM.out]; rfl, HE0.out⟩
      · rw [h4] at HM
        go_enter Try.func121, Try.ntmps121
        go_wp2
        go_ret
        exact ⟨by rw [HM.out]; rfl, HE0.out⟩
set_option maxRecDepth 100000 in
theorem ref_empty_hmn (d : Dat) (v0 v1 v2 v3 v4 : Value) (w : World) (hd : DR w v0 v1 v2 v3 v4 d) :
    Calls Try.prog 121 #[.agg #[v0, v1, v2, v3, v4], .bool false, .bool true, .bool true, .bool true, .bool false] w fun e w' => e = .returned (.bool (emp d false true true true false)) ∧ Ext w w' := by
  have HE0 := Lib.hid ((Ext.refl w).alloc (.cells #[v0, v1, v2, v3, v4] 26))
  obtain ⟨A0, k0, rfl, _, _⟩ := hd.by_.form
  obtain ⟨A1, k1, rfl, _, _⟩ := hd.ho.form
  obtain ⟨A2, k2, rfl, _, _⟩ := hd.ma.form
  obtain ⟨A3, k3, rfl, _, _⟩ := hd.nu.form
  obtain ⟨A4, k4, rfl, _, _⟩ := hd.tx.form
  clear hd
  have HM : Hid (emp d false true true true false = ((false || ((d.bytes.length : Int) == 0)) && ((true || ((d.host.length : Int) == 0)) && ((true || ((d.mail.length : Int) == 0)) && ((true || ((d.nums.length : Int) == 0)) && (false || ((d.texts.length : Int) == 0))))))) := Lib.hid (by rw [len0, len0, len0, len0, len0]; rfl)
  cases h0 : ((d.bytes.length : Int) == 0)
  · rw [h0] at HM
    go_enter Try.func121, Try.ntmps121
    go_wp2
    go_ret
    exact ⟨by rw [HM.out]; rfl, HE0.out⟩
  · rw [h0] at HM
    cases h4 : ((d.texts.length : Int) == 0)
    · rw [h4] at HM
      go_enter Try.func121, Try.ntmps121
      go_wp2
      go_ret
      exact ⟨by rw [HM.out]; rfl, HE0.out⟩
    · rw [h4] at HM
      go_enter Try.func121, Try.ntmps121
      go_wp2
      go_ret
      exact ⟨by rw [HM.out]; rfl, HE0.out⟩
set_option maxRecDepth 100000 in
theorem ref_empty_t (d : Dat) (v0 v1 v2 v3 v4 : Value) (w : World) (hd : DR w v0 v1 v2 v3 v4 d) :
    Calls Try.prog 121 #[.agg #[v0, v1, v2, v3, v4], .bool false, .bool false, .bool false, .bool false, .bool true] w fun e w' => e = .returned (.bool (emp d false false false false true)) ∧ Ext w w' := by
  have HE0 := Lib.hid ((Ext.refl w).alloc (.cells #[v0, v1, v2, v3, v4] 26))
  obtain ⟨A0, k0, rfl, _, _⟩ := hd.by_.form
  obtain ⟨A1, k1, rfl, _, _⟩ := hd.ho.form
  obtain ⟨A2, k2, rfl, _, _⟩ := hd.ma.form
  obtain ⟨A3, k3, rfl, _, _⟩ := hd.nu.form
  obtain ⟨A4, k4, rfl, _, _⟩ := hd.tx.form
  clear hd
  have HM : Hid (emp d false false false false true = ((false || ((d.bytes.length : Int) == 0)) && ((false || ((d.host.length : Int) == 0)) && ((false || ((d.mail.length : Int) == 0)) && ((false || ((d.nums.length : Int) == 0)) && (true || ((d.texts.length : Int) == 0))))))) := Lib.hid (by rw [len0, len0, len0, len0, len0]; rfl)
  cases h0 : ((d.bytes.length : Int) == 0)
  · rw [h0] at HM
    go_enter Try.func121, Try.ntmps121
    go_wp2
    go_ret
    exact ⟨by rw [HM.out]; rfl, HE0.out⟩
  · rw [h0] at HM
    cases h1 : ((d.host.length : Int) == 0)
    · rw [h1] at HM
      go_enter Try.func121, Try.ntmps121
      go_wp2
      go_ret
      exact ⟨by rw [HM.out]; rfl, HE0.out⟩
    · rw [h1] at HM
      cases h2 : ((d.mail.length : Int) == 0)
      · rw [h2] at HM
        go_enter Try.func121, Try.ntmps121
        go_wp2
        go_ret
        exact ⟨by rw [HM.out]; rfl, HE0.out⟩
      · rw [h2] at HM
        cases h3 : ((d.nums.length : Int) == 0)
        · rw [h3] at HM
          go_enter Try.func121, Try.ntmps121
          go_wp2
          go_ret
          exact ⟨by rw [HM.out]; rfl, HE0.out⟩
        · rw [h3] at HM
          go_enter Try.func121, Try.ntmps121
          go_wp2
          go_ret
          exact ⟨by rw [HM.out]; rfl, HE0.out⟩
def fitL (l : List Int) (count size : Int) : Bool := decide ((l.length : Int) = count) && !(l.any fun n => !fits n size)
theorem fit_step {l : List Int} {size : Int} {k : Nat} {x : Int} (hx : l[k]? = some x) (hp : fits x size = true) (h : (l.take k).any (fun n => !fits n size) = false) : (l.take (k + 1)).any (fun n => !fits n size) = false := by
  rw [List.take_add_one, hx, List.any_append, h]
  simp [hp]
theorem fit_hit {l : List Int} {size : Int} {k : Nat} {x : Int} (hx : l[k]? = some x) (hp : fits x size = false) : (l.any fun n => !fits n size) = true := List.any_eq_true.2 ⟨x, List.mem_of_getElem? hx, by rw [hp]; rfl⟩
set_option maxHeartbeats 400000 in
/-- ref03.fit. -/
theorem ref_fit (l : List Int) (count size : Int) (v : Value) (w : World) (hv : IntsV w v l) (hw : IntsOk l) :
    Calls Try.prog 122 #[v, .int .i64 count, .int .i64 size] w fun e w' => e = .returned (.bool (fitL l count size)) ∧ w' = w := by
  have HV := Lib.hid hv
  have HI := Lib.hid hw
  have hl := hv.len
  unfold maxI at hl
  obtain ⟨A, c, rfl, _, _⟩ := hv.form
  clear hv hw
  by_cases hc : (l.length : Int) = count
  · have t0 : ((l.length : Int) != count) = false := by rw [hc]; simp
    have HM := Lib.hid (show fitL l count size = !(l.any fun n => !fits n size) by unfold fitL; rw [decide_eq_true hc]; rfl)
    clear hc
    go_enter Try.func122, Try.ntmps122
    go_wp2
    go_loopw [7] (fun i wr => ∃ k : Nat, k ≤ l.length ∧ i = .int .i64 k ∧ Hid ((l.take k).any (fun n => !fits n size) = false) ∧ wr = w) (fun i _ => l.length - (intOf i).toNat)
    case atStart => exact ⟨0, by omega, rfl, rfl, rfl⟩
    case round =>
      obtain ⟨k, hk, rfl, hT, rfl⟩ := hrel
      by_cases hlt : k < l.length
      · obtain ⟨b1, o1, c1, e1, _, _, hc1⟩ := HV.out.opens (by omega)
        injection e1 with e1 e3 e4
        subst e1
        clear e3 e4
        have hx := List.getElem?_eq_getElem hlt
        have hcx := hc1 k _ hx
        have hwx := HI.out _ (List.mem_of_getElem? hx)
        have hrg : l[k] ≤ 9223372036854775807 := by
          simp [Lit.wf, IntKind.min, IntKind.max, IntKind.signed, IntKind.bits] at hwx; omega
        have HC := Lib.hid (ref_Fits l[k] size wr hrg)
        have HX := Lib.hid hx
        clear hc1 hx hwx hrg
        generalize l[k] = x at *
        cases hf : fits x size with
        | true =>
          rw [hf] at HC
          have HN := Lib.hid (fit_step HX.out hf hT.out)
          clear hf
          go_wp2_with fail
          refine (HC.out).mono ?_
          rintro e w' ⟨rfl, rfl⟩
          go_wp2
          go_roundw
          case rel => exact ⟨k + 1, by omega, by go_num, HN.out, trivial⟩
          case measure => simp [intOf]; omega
        | false =>
          rw [hf] at HC
          have HN := Lib.hid (fit_hit HX.out hf)
          clear hf
          go_wp2_with fail
          refine (HC.out).mono ?_
          rintro e w' ⟨rfl, rfl⟩
          go_wp2
          go_ret
          exact ⟨by rw [HM.out, HN.out]; rfl, rfl⟩
      · have hT2 := hT.out
        rw [List.take_of_length_le (by omega)] at hT2
        have HN := Lib.hid hT2
        clear hT2
        go_wp2
        go_ret
        exact ⟨by rw [HM.out, HN.out]; rfl, rfl⟩
  · have t0 : ((l.length : Int) != count) = true := by simp [hc]
    have HM := Lib.hid (show fitL l count size = false by unfold fitL; rw [decide_eq_false hc]; rfl)
    clear hc
    go_enter Try.func122, Try.ntmps122
    go_wp2
    go_ret
    exact ⟨by rw [HM.out]; rfl, rfl⟩
end Go.Proofs.Ytfnelkcllaaebaa
end
section
/- Contract of ref03.Data: it answers as rdata.Sound. No condition but that slices read as lists, and the numbers' sizes. -/
open Go.RowKit
set_option linter.unusedVariables false
set_option linter.unusedSimpArgs false
namespace Go.Proofs.Ytfnelkcllaaebaa
theorem any_nil {ns : List Int} {size : Int} (h : ns.length = 0) : (ns.any fun n => !fits n size) = false := by rw [List.eq_nil_of_length_eq_zero h]; rfl
theorem rs_bytes {kind : Int} {d : Dat} {n : Nat} (hn : n ≤ 16) (h : shapeOf kind = ⟨n, false, false, false, 0, 0, false, false⟩) (hk : 1 ≤ kind ∧ kind ≤ 65535) : rsound kind d = (((d.bytes.length : Int) == n) && emp d true false false false false) := by
  unfold rsound emp
  rw [h, decide_eq_true hk, Bool.eq_iff_iff]
  simp only [rsoundS, Bool.and_eq_true, Bool.or_eq_true, decide_eq_true_eq, beq_iff_eq, Bool.not_eq_true', if_false, Bool.false_eq_true, true_and, true_or, false_or]
  constructor
  · rintro ⟨h1, h2, h3, h4, h5, h6, h7⟩; refine ⟨by omega, h4, h5, h3, h7⟩
  · rintro ⟨h1, h2, h3, h4, h5⟩; exact ⟨by omega, by omega, h4, h2, h3, any_nil h4, h5⟩
theorem rs_host {kind : Int} {d : Dat} (h : shapeOf kind = ⟨0, true, false, true, 0, 0, false, false⟩) (hk : 1 ≤ kind ∧ kind ≤ 65535) : rsound kind d = (nsound d.host && emp d false true false false false) := by
  unfold rsound emp
  rw [h, decide_eq_true hk, Bool.eq_iff_iff]
  simp only [rsoundS, Bool.and_eq_true, Bool.or_eq_true, decide_eq_true_eq, beq_iff_eq, Bool.not_eq_true', if_false, if_true, Bool.false_eq_true, true_and, true_or, false_or]
  constructor
  · rintro ⟨h1, h2, h3, h4, h5, h6, h7⟩; refine ⟨h4, by omega, h5, h3, h7⟩
  · rintro ⟨h1, h2, h3, h4, h5⟩; exact ⟨by omega, by omega, h4, h1, h3, any_nil h4, h5⟩
theorem rs_first {kind : Int} {d : Dat} {n : Nat} {sh : Bool} (h : shapeOf kind = ⟨0, true, false, sh, n, 2, false, true⟩) (hk : 1 ≤ kind ∧ kind ≤ 65535) : rsound kind d = (nsound d.host && (fitL d.nums n 2 && emp d false true false true false)) := by
  unfold rsound emp fitL
  rw [h, decide_eq_true hk, Bool.eq_iff_iff]
  simp only [rsoundS, Bool.and_eq_true, Bool.or_eq_true, decide_eq_true_eq, beq_iff_eq, Bool.not_eq_true', if_false, if_true, Bool.false_eq_true, true_and, true_or, false_or]
  constructor
  · rintro ⟨h1, h2, h3, h4, h5, h6, h7⟩; exact ⟨h4, ⟨by omega, h6⟩, by omega, h5, h7⟩
  · rintro ⟨h1, ⟨h2, h3⟩, h4, h5, h6⟩; exact ⟨by omega, by omega, by omega, h1, h5, h3, h6⟩
theorem rs_soa {kind : Int} {d : Dat} (h : shapeOf kind = ⟨0, true, true, true, 5, 4, false, false⟩) (hk : 1 ≤ kind ∧ kind ≤ 65535) : rsound kind d = (nsound d.host && (nsound d.mail && (fitL d.nums 5 4 && emp d false true true true false))) := by
  unfold rsound emp fitL
  rw [h, decide_eq_true hk, Bool.eq_iff_iff]
  simp only [rsoundS, Bool.and_eq_true, Bool.or_eq_true, decide_eq_true_eq, beq_iff_eq, Bool.not_eq_true', if_false, if_true, Bool.false_eq_true, true_and, true_or, false_or]
  constructor
  · rintro ⟨h1, h2, h3, h4, h5, h6, h7⟩; exact ⟨h4, h5, ⟨by omega, h6⟩, by omega, h7⟩
  · rintro ⟨h1, h2, ⟨h3, h4⟩, h5, h6⟩; exact ⟨by omega, by omega, by omega, h1, h2, h4, h6⟩
theorem rs_texts {kind : Int} {d : Dat} (h : shapeOf kind = ⟨0, false, false, false, 0, 0, true, false⟩) (hk : 1 ≤ kind ∧ kind ≤ 65535) : rsound kind d = (decide (1 ≤ d.texts.length ∧ d.texts.length ≤ 64) && (emp d false false false false true && !(d.texts.any longT))) := by
  unfold rsound emp
  rw [h, decide_eq_true hk, Bool.eq_iff_iff]
  simp only [rsoundS, Bool.and_eq_true, Bool.or_eq_true, decide_eq_true_eq, beq_iff_eq, Bool.not_eq_true', if_false, if_true, Bool.false_eq_true, true_and, true_or, false_or]
  constructor
  · rintro ⟨h1, h2, h3, h4, h5, h6, h7, h8⟩; exact ⟨h7, ⟨by omega, h4, h5, h3, trivial⟩, h8⟩
  · rintro ⟨h1, ⟨h2, h3, h4, h5, _⟩, h6⟩; exact ⟨by omega, by omega, h5, h3, h4, any_nil h5, h1, h6⟩
theorem rs_rest {kind : Int} {d : Dat} (h : shapeOf kind = ⟨-1, false, false, false, 0, 0, false, false⟩) (hk : 1 ≤ kind ∧ kind ≤ 65535) : rsound kind d = (decide ((d.bytes.length : Int) ≤ 65535) && emp d true false false false false) := by
  unfold rsound emp
  rw [h, decide_eq_true hk, Bool.eq_iff_iff]
  simp only [rsoundS, Bool.and_eq_true, Bool.or_eq_true, decide_eq_true_eq, beq_iff_eq, Bool.not_eq_true', if_false, if_true, Bool.false_eq_true, true_and, true_or, false_or]
  constructor
  · rintro ⟨h1, h2, h3, h4, h5, h6, h7⟩; exact ⟨by omega, h4, h5, h3, h7⟩
  · rintro ⟨h1, h2, h3, h4, h5⟩; exact ⟨by omega, by omega, h4, h2, h3, any_nil h4, h5⟩
set_option maxRecDepth 100000 in
set_option maxHeartbeats 1000000 in
theorem refd_a (kind : Int) (d : Dat) (v0 v1 v2 v3 v4 : Value) (w : World) (hd : DR w v0 v1 v2 v3 v4 d) (hi : IntsOk d.nums) (hk : kind = 1) :
    Calls Try.prog 61 #[.int .i64 kind, .agg #[v0, v1, v2, v3, v4]] w fun e w' => e = .returned (.bool (rsound kind d)) ∧ Ext w w' := by
  have HM := Lib.hid (show rsound kind d = ((((d.bytes.length : Int) == 4) && emp d true false false false false)) from rs_bytes (n := 4) (by omega) (kind := kind) (d := d) (by rcases hk with rfl <;> rfl) (by omega))
  have HD := Lib.hid hd
  have HI := Lib.hid hi
  obtain ⟨A0, k0, rfl, a0, b0⟩ := hd.by_.form
  obtain ⟨A1, k1, rfl, _, _⟩ := hd.ho.form
  obtain ⟨A2, k2, rfl, _, _⟩ := hd.ma.form
  obtain ⟨A3, k3, rfl, _, _⟩ := hd.nu.form
  obtain ⟨A4, k4, rfl, a4, b4⟩ := hd.tx.form
  have HE0 := Lib.hid ((Ext.refl w).alloc (.cells #[.slice A0 d.bytes.length k0, .slice A1 d.host.length k1, .slice A2 d.mail.length k2, .slice A3 d.nums.length k3, .slice A4 d.texts.length k4] 26))
  have HB0 := Lib.hid (heap_alloc_new w (.cells #[.slice A0 d.bytes.length k0, .slice A1 d.host.length k1, .slice A2 d.mail.length k2, .slice A3 d.nums.length k3, .slice A4 d.texts.length k4] 26))
  clear hd hi
  have HCe := fun W (hE : Ext w W) => Lib.hid (ref_empty_b d _ _ _ _ _ W (HD.out.ext hE))
  cases hl0 : ((d.bytes.length : Int) == 4)
  · rw [hl0] at HM
    rcases hk with rfl
    all_goals
      go_enter Try.func61, Try.ntmps61
      go_wp2
      go_ret
      exact ⟨by rw [HM.out]; rfl, HE0.out⟩
  · rw [hl0] at HM
    generalize emp d true false false false false = βe at *
    rcases hk with rfl
    all_goals
      go_enter Try.func61, Try.ntmps61
      go_wp2_with fail
      refine ((HCe _ HE0.out).out).mono ?_
      rintro e w1 ⟨rfl, hE1⟩
      have HE1 := Lib.hid (HE0.out.trans hE1)
      clear hE1
      go_wp2
      go_ret
      exact ⟨by rw [HM.out]; rfl, HE1.out⟩
set_option maxRecDepth 100000 in
set_option maxHeartbeats 1000000 in
theorem refd_aaaa (kind : Int) (d : Dat) (v0 v1 v2 v3 v4 : Value) (w : World) (hd : DR w v0 v1 v2 v3 v4 d) (hi : IntsOk d.nums) (hk : kind = 28) :
    Calls Try.prog 61 #[.int .i64 kind, .agg #[v0, v1, v2, v3, v4]] w fun e w' => e = .returned (.bool (rsound kind d)) ∧ Ext w w' := by
  have HM := Lib.hid (show rsound kind d = ((((d.bytes.length : Int) == 16) && emp d true false false false false)) from rs_bytes (n := 16) (by omega) (kind := kind) (d := d) (by rcases hk with rfl <;> rfl) (by omega))
  have HD := Lib.hid hd
  have HI := Lib.hid hi
  obtain ⟨A0, k0, rfl, a0, b0⟩ := hd.by_.form
  obtain ⟨A1, k1, rfl, _, _⟩ := hd.ho.form
  obtain ⟨A2, k2, rfl, _, _⟩ := hd.ma.form
  obtain ⟨A3, k3, rfl, _, _⟩ := hd.nu.form
  obtain ⟨A4, k4, rfl, a4, b4⟩ := hd.tx.form
  have HE0 := Lib.hid ((Ext.refl w).alloc (.cells #[.slice A0 d.bytes.length k0, .slice A1 d.host.length k1, .slice A2 d.mail.length k2, .slice A3 d.nums.length k3, .slice A4 d.texts.length k4] 26))
  have HB0 := Lib.hid (heap_alloc_new w (.cells #[.slice A0 d.bytes.length k0, .slice A1 d.host.length k1, .slice A2 d.mail.length k2, .slice A3 d.nums.length k3, .slice A4 d.texts.length k4] 26))
  clear hd hi
  have HCe := fun W (hE : Ext w W) => Lib.hid (ref_empty_b d _ _ _ _ _ W (HD.out.ext hE))
  cases hl0 : ((d.bytes.length : Int) == 16)
  · rw [hl0] at HM
    rcases hk with rfl
    all_goals
      go_enter Try.func61, Try.ntmps61
      go_wp2
      go_ret
      exact ⟨by rw [HM.out]; rfl, HE0.out⟩
  · rw [hl0] at HM
    generalize emp d true false false false false = βe at *
    rcases hk with rfl
    all_goals
      go_enter Try.func61, Try.ntmps61
      go_wp2_with fail
      refine ((HCe _ HE0.out).out).mono ?_
      rintro e w1 ⟨rfl, hE1⟩
      have HE1 := Lib.hid (HE0.out.trans hE1)
      clear hE1
      go_wp2
      go_ret
      exact ⟨by rw [HM.out]; rfl, HE1.out⟩
set_option maxRecDepth 100000 in
set_option maxHeartbeats 1000000 in
theorem refd_host (kind : Int) (d : Dat) (v0 v1 v2 v3 v4 : Value) (w : World) (hd : DR w v0 v1 v2 v3 v4 d) (hi : IntsOk d.nums) (hk : kind = 2 ∨ kind = 5 ∨ kind = 12) :
    Calls Try.prog 61 #[.int .i64 kind, .agg #[v0, v1, v2, v3, v4]] w fun e w' => e = .returned (.bool (rsound kind d)) ∧ Ext w w' := by
  have HM := Lib.hid (show rsound kind d = ((nsound d.host && emp d false true false false false)) from rs_host (kind := kind) (d := d) (by rcases hk with rfl | rfl | rfl <;> rfl) (by omega))
  have HD := Lib.hid hd
  have HI := Lib.hid hi
  obtain ⟨A0, k0, rfl, a0, b0⟩ := hd.by_.form
  obtain ⟨A1, k1, rfl, _, _⟩ := hd.ho.form
  obtain ⟨A2, k2, rfl, _, _⟩ := hd.ma.form
  obtain ⟨A3, k3, rfl, _, _⟩ := hd.nu.form
  obtain ⟨A4, k4, rfl, a4, b4⟩ := hd.tx.form
  have HE0 := Lib.hid ((Ext.refl w).alloc (.cells #[.slice A0 d.bytes.length k0, .slice A1 d.host.length k1, .slice A2 d.mail.length k2, .slice A3 d.nums.length k3, .slice A4 d.texts.length k4] 26))
  have HB0 := Lib.hid (heap_alloc_new w (.cells #[.slice A0 d.bytes.length k0, .slice A1 d.host.length k1, .slice A2 d.mail.length k2, .slice A3 d.nums.length k3, .slice A4 d.texts.length k4] 26))
  clear hd hi
  have HC0 := fun W (hE : Ext w W) => Lib.hid (ref_Sound _ d.host W ((HD.out.ext hE).ho))
  have HCe := fun W (hE : Ext w W) => Lib.hid (ref_empty_h d _ _ _ _ _ W (HD.out.ext hE))
  generalize nsound d.host = β0 at *
  generalize emp d false true false false false = βe at *
  rcases hk with rfl | rfl | rfl
  all_goals
    go_enter Try.func61, Try.ntmps61
    go_wp2_with fail
    refine ((HC0 _ HE0.out).out).mono ?_
    rintro e w' ⟨rfl, rfl⟩
    cases β0
    · go_wp2
      go_ret
      exact ⟨by rw [HM.out]; rfl, HE0.out⟩
    · skip
      go_wp2_with fail
      refine ((HCe _ HE0.out).out).mono ?_
      rintro e w1 ⟨rfl, hE1⟩
      have HE1 := Lib.hid (HE0.out.trans hE1)
      clear hE1
      go_wp2
      go_ret
      exact ⟨by rw [HM.out]; rfl, HE1.out⟩
set_option maxRecDepth 100000 in
set_option maxHeartbeats 1000000 in
theorem refd_mx (kind : Int) (d : Dat) (v0 v1 v2 v3 v4 : Value) (w : World) (hd : DR w v0 v1 v2 v3 v4 d) (hi : IntsOk d.nums) (hk : kind = 15) :
    Calls Try.prog 61 #[.int .i64 kind, .agg #[v0, v1, v2, v3, v4]] w fun e w' => e = .returned (.bool (rsound kind d)) ∧ Ext w w' := by
  have HM := Lib.hid (show rsound kind d = ((nsound d.host && (fitL d.nums 1 2 && emp d false true false true false))) from rs_first (n := 1) (sh := true) (kind := kind) (d := d) (by rcases hk with rfl <;> rfl) (by omega))
  have HD := Lib.hid hd
  have HI := Lib.hid hi
  obtain ⟨A0, k0, rfl, a0, b0⟩ := hd.by_.form
  obtain ⟨A1, k1, rfl, _, _⟩ := hd.ho.form
  obtain ⟨A2, k2, rfl, _, _⟩ := hd.ma.form
  obtain ⟨A3, k3, rfl, _, _⟩ := hd.nu.form
  obtain ⟨A4, k4, rfl, a4, b4⟩ := hd.tx.form
  have HE0 := Lib.hid ((Ext.refl w).alloc (.cells #[.slice A0 d.bytes.length k0, .slice A1 d.host.length k1, .slice A2 d.mail.length k2, .slice A3 d.nums.length k3, .slice A4 d.texts.length k4] 26))
  have HB0 := Lib.hid (heap_alloc_new w (.cells #[.slice A0 d.bytes.length k0, .slice A1 d.host.length k1, .slice A2 d.mail.length k2, .slice A3 d.nums.length k3, .slice A4 d.texts.length k4] 26))
  clear hd hi
  have HC0 := fun W (hE : Ext w W) => Lib.hid (ref_Sound _ d.host W ((HD.out.ext hE).ho))
  have HC1 := fun W (hE : Ext w W) => Lib.hid (ref_fit d.nums 1 2 _ W (HD.out.ext hE).nu HI.out)
  have HCe := fun W (hE : Ext w W) => Lib.hid (ref_empty_hn d _ _ _ _ _ W (HD.out.ext hE))
  generalize nsound d.host = β0 at *
  generalize fitL d.nums 1 2 = β1 at *
  generalize emp d false true false true false = βe at *
  rcases hk with rfl
  all_goals
    go_enter Try.func61, Try.ntmps61
    go_wp2_with fail
    refine ((HC0 _ HE0.out).out).mono ?_
    rintro e w' ⟨rfl, rfl⟩
    cases β0
    · go_wp2
      go_ret
      exact ⟨by rw [HM.out]; rfl, HE0.out⟩
    · skip
      go_wp2_with fail
      refine ((HC1 _ HE0.out).out).mono ?_
      rintro e w' ⟨rfl, rfl⟩
      cases β1
      · go_wp2
        go_ret
        exact ⟨by rw [HM.out]; rfl, HE0.out⟩
      · skip
        go_wp2_with fail
        refine ((HCe _ HE0.out).out).mono ?_
        rintro e w1 ⟨rfl, hE1⟩
        have HE1 := Lib.hid (HE0.out.trans hE1)
        clear hE1
        go_wp2
        go_ret
        exact ⟨by rw [HM.out]; rfl, HE1.out⟩
set_option maxRecDepth 100000 in
set_option maxHeartbeats 1000000 in
theorem refd_srv (kind : Int) (d : Dat) (v0 v1 v2 v3 v4 : Value) (w : World) (hd : DR w v0 v1 v2 v3 v4 d) (hi : IntsOk d.nums) (hk : kind = 33) :
    Calls Try.prog 61 #[.int .i64 kind, .agg #[v0, v1, v2, v3, v4]] w fun e w' => e = .returned (.bool (rsound kind d)) ∧ Ext w w' := by
  have HM := Lib.hid (show rsound kind d = ((nsound d.host && (fitL d.nums 3 2 && emp d false true false true false))) from rs_first (n := 3) (sh := false) (kind := kind) (d := d) (by rcases hk with rfl <;> rfl) (by omega))
  have HD := Lib.hid hd
  have HI := Lib.hid hi
  obtain ⟨A0, k0, rfl, a0, b0⟩ := hd.by_.form
  obtain ⟨A1, k1, rfl, _, _⟩ := hd.ho.form
  obtain ⟨A2, k2, rfl, _, _⟩ := hd.ma.form
  obtain ⟨A3, k3, rfl, _, _⟩ := hd.nu.form
  obtain ⟨A4, k4, rfl, a4, b4⟩ := hd.tx.form
  have HE0 := Lib.hid ((Ext.refl w).alloc (.cells #[.slice A0 d.bytes.length k0, .slice A1 d.host.length k1, .slice A2 d.mail.length k2, .slice A3 d.nums.length k3, .slice A4 d.texts.length k4] 26))
  have HB0 := Lib.hid (heap_alloc_new w (.cells #[.slice A0 d.bytes.length k0, .slice A1 d.host.length k1, .slice A2 d.mail.length k2, .slice A3 d.nums.length k3, .slice A4 d.texts.length k4] 26))
  clear hd hi
  have HC0 := fun W (hE : Ext w W) => Lib.hid (ref_Sound _ d.host W ((HD.out.ext hE).ho))
  have HC1 := fun W (hE : Ext w W) => Lib.hid (ref_fit d.nums 3 2 _ W (HD.out.ext hE).nu HI.out)
  have HCe := fun W (hE : Ext w W) => Lib.hid (ref_empty_hn d _ _ _ _ _ W (HD.out.ext hE))
  generalize nsound d.host = β0 at *
  generalize fitL d.nums 3 2 = β1 at *
  generalize emp d false true false true false = βe at *
  rcases hk with rfl
  all_goals
    go_enter Try.func61, Try.ntmps61
    go_wp2_with fail
    refine ((HC0 _ HE0.out).out).mono ?_
    rintro e w' ⟨rfl, rfl⟩
    cases β0
    · go_wp2
      go_ret
      exact ⟨by rw [HM.out]; rfl, HE0.out⟩
    · skip
      go_wp2_with fail
      refine ((HC1 _ HE0.out).out).mono ?_
      rintro e w' ⟨rfl, rfl⟩
      cases β1
      · go_wp2
        go_ret
        exact ⟨by rw [HM.out]; rfl, HE0.out⟩
      · skip
        go_wp2_with fail
        refine ((HCe _ HE0.out).out).mono ?_
        rintro e w1 ⟨rfl, hE1⟩
        have HE1 := Lib.hid (HE0.out.trans hE1)
        clear hE1
        go_wp2
        go_ret
        exact ⟨by rw [HM.out]; rfl, HE1.out⟩
set_option maxRecDepth 100000 in
set_option maxHeartbeats 1000000 in
theorem refd_soa (kind : Int) (d : Dat) (v0 v1 v2 v3 v4 : Value) (w : World) (hd : DR w v0 v1 v2 v3 v4 d) (hi : IntsOk d.nums) (hk : kind = 6) :
    Calls Try.prog 61 #[.int .i64 kind, .agg #[v0, v1, v2, v3, v4]] w fun e w' => e = .returned (.bool (rsound kind d)) ∧ Ext w w' := by
  have HM := Lib.hid (show rsound kind d = ((nsound d.host && (nsound d.mail && (fitL d.nums 5 4 && emp d false true true true false)))) from rs_soa (kind := kind) (d := d) (by rcases hk with rfl <;> rfl) (by omega))
  have HD := Lib.hid hd
  have HI := Lib.hid hi
  obtain ⟨A0, k0, rfl, a0, b0⟩ := hd.by_.form
  obtain ⟨A1, k1, rfl, _, _⟩ := hd.ho.form
  obtain ⟨A2, k2, rfl, _, _⟩ := hd.ma.form
  obtain ⟨A3, k3, rfl, _, _⟩ := hd.nu.form
  obtain ⟨A4, k4, rfl, a4, b4⟩ := hd.tx.form
  have HE0 := Lib.hid ((Ext.refl w).alloc (.cells #[.slice A0 d.bytes.length k0, .slice A1 d.host.length k1, .slice A2 d.mail.length k2, .slice A3 d.nums.length k3, .slice A4 d.texts.length k4] 26))
  have HB0 := Lib.hid (heap_alloc_new w (.cells #[.slice A0 d.bytes.length k0, .slice A1 d.host.length k1, .slice A2 d.mail.length k2, .slice A3 d.nums.length k3, .slice A4 d.texts.length k4] 26))
  clear hd hi
  have HC0 := fun W (hE : Ext w W) => Lib.hid (ref_Sound _ d.host W ((HD.out.ext hE).ho))
  have HC1 := fun W (hE : Ext w W) => Lib.hid (ref_Sound _ d.mail W ((HD.out.ext hE).ma))
  have HC2 := fun W (hE : Ext w W) => Lib.hid (ref_fit d.nums 5 4 _ W (HD.out.ext hE).nu HI.out)
  have HCe := fun W (hE : Ext w W) => Lib.hid (ref_empty_hmn d _ _ _ _ _ W (HD.out.ext hE))
  generalize nsound d.host = β0 at *
  generalize nsound d.mail = β1 at *
  generalize fitL d.nums 5 4 = β2 at *
  generalize emp d false true true true false = βe at *
  rcases hk with rfl
  all_goals
    go_enter Try.func61, Try.ntmps61
    go_wp2_with fail
    refine ((HC0 _ HE0.out).out).mono ?_
    rintro e w' ⟨rfl, rfl⟩
    cases β0
    · go_wp2
      go_ret
      exact ⟨by rw [HM.out]; rfl, HE0.out⟩
    · skip
      go_wp2_with fail
      refine ((HC1 _ HE0.out).out).mono ?_
      rintro e w' ⟨rfl, rfl⟩
      cases β1
      · go_wp2
        go_ret
        exact ⟨by rw [HM.out]; rfl, HE0.out⟩
      · skip
        go_wp2_with fail
        refine ((HC2 _ HE0.out).out).mono ?_
        rintro e w' ⟨rfl, rfl⟩
        cases β2
        · go_wp2
          go_ret
          exact ⟨by rw [HM.out]; rfl, HE0.out⟩
        · skip
          go_wp2_with fail
          refine ((HCe _ HE0.out).out).mono ?_
          rintro e w1 ⟨rfl, hE1⟩
          have HE1 := Lib.hid (HE0.out.trans hE1)
          clear hE1
          go_wp2
          go_ret
          exact ⟨by rw [HM.out]; rfl, HE1.out⟩
end Go.Proofs.Ytfnelkcllaaebaa
end
section
/- Contract of ref03.Data, all types. No condition but that slices read as lists, and the numbers' sizes. -/
open Go.RowKit
set_option linter.unusedVariables false
set_option linter.unusedSimpArgs false
namespace Go.Proofs.Ytfnelkcllaaebaa
set_option maxRecDepth 100000 in
set_option maxHeartbeats 1000000 in
theorem refd_texts (kind : Int) (d : Dat) (v0 v1 v2 v3 v4 : Value) (w : World) (hd : DR w v0 v1 v2 v3 v4 d) (hi : IntsOk d.nums) (hk : kind = 16) :
    Calls Try.prog 61 #[.int .i64 kind, .agg #[v0, v1, v2, v3, v4]] w fun e w' => e = .returned (.bool (rsound kind d)) ∧ Ext w w' := by
  have HM := Lib.hid (rs_texts (kind := kind) (d := d) (by rw [hk]; rfl) (by omega))
  have HD := Lib.hid hd
  have HI := Lib.hid hi
  obtain ⟨A0, k0, rfl, a0, b0⟩ := hd.by_.form
  obtain ⟨A1, k1, rfl, _, _⟩ := hd.ho.form
  obtain ⟨A2, k2, rfl, _, _⟩ := hd.ma.form
  obtain ⟨A3, k3, rfl, _, _⟩ := hd.nu.form
  obtain ⟨A4, k4, rfl, a4, b4⟩ := hd.tx.form
  have HE0 := Lib.hid ((Ext.refl w).alloc (.cells #[.slice A0 d.bytes.length k0, .slice A1 d.host.length k1, .slice A2 d.mail.length k2, .slice A3 d.nums.length k3, .slice A4 d.texts.length k4] 26))
  have HB0 := Lib.hid (heap_alloc_new w (.cells #[.slice A0 d.bytes.length k0, .slice A1 d.host.length k1, .slice A2 d.mail.length k2, .slice A3 d.nums.length k3, .slice A4 d.texts.length k4] 26))
  clear hd hi
  subst hk
  by_cases h1 : d.texts.length < 1
  · have HX : Hid (decide (1 ≤ d.texts.length ∧ d.texts.length ≤ 64) = false) := Lib.hid (decide_eq_false (by omega))
    go_enter Try.func61, Try.ntmps61
    go_wp2
    go_ret
    exact ⟨by rw [HM.out, HX.out]; rfl, HE0.out⟩
  · by_cases h2 : 64 < d.texts.length
    · have HX : Hid (decide (1 ≤ d.texts.length ∧ d.texts.length ≤ 64) = false) := Lib.hid (decide_eq_false (by omega))
      go_enter Try.func61, Try.ntmps61
      go_wp2
      go_ret
      exact ⟨by rw [HM.out, HX.out]; rfl, HE0.out⟩
    · have HX : Hid (decide (1 ≤ d.texts.length ∧ d.texts.length ≤ 64) = true) := Lib.hid (decide_eq_true (by omega))
      have HCe := fun W (hE : Ext w W) => Lib.hid (ref_empty_t d _ _ _ _ _ W (HD.out.ext hE))
      generalize emp d false false false false true = βe at *
      go_enter Try.func61, Try.ntmps61
      go_wp2_with fail
      refine ((HCe _ HE0.out).out).mono ?_
      rintro e w1 ⟨rfl, hE1⟩
      have HE1 := Lib.hid (HE0.out.trans hE1)
      have HB1 := Lib.hid (hE1.block HB0.out)
      clear hE1 HCe
      cases βe
      · go_wp2
        go_ret
        exact ⟨by rw [HM.out, HX.out]; rfl, HE1.out⟩
      · go_wp2
        go_loopw [5] (fun i wr => ∃ k : Nat, k ≤ d.texts.length ∧ i = .int .i64 k ∧ Hid ((d.texts.take k).any longT = false) ∧ wr = w1) (fun i _ => d.texts.length - (intOf i).toNat)
        case atStart => exact ⟨0, by omega, rfl, rfl, rfl⟩
        case round =>
          obtain ⟨k, hk, rfl, hT, rfl⟩ := hrel
          have q4 := row_cells HB1.out 4
          simp at q4
          by_cases hlt : k < d.texts.length
          · obtain ⟨b1, o1, c1, e1, _, _, hc1⟩ := (HD.out.ext HE1.out).tx.opens (by omega)
            injection e1 with e1 e3 e4
            subst e1
            clear e3 e4
            have hx := List.getElem?_eq_getElem hlt
            have hcx := hc1 k _ hx
            have HXk := Lib.hid hx
            clear hc1 hx
            generalize d.texts[k] = x at *
            cases hl : longT x with
            | true =>
              have HN : Hid (d.texts.any longT = true) := Lib.hid (List.any_eq_true.2 ⟨x, List.mem_of_getElem? HXk.out, hl⟩)
              have hs : 255 < x.size := by unfold longT at hl; rwa [decide_eq_true_eq] at hl
              clear hl
              go_wp2
              go_ret
              exact ⟨by rw [HM.out, HX.out, HN.out]; rfl, HE1.out⟩
            | false =>
              have HN : Hid ((d.texts.take (k + 1)).any longT = false) := Lib.hid (by rw [List.take_add_one, HXk.out, List.any_append, hT.out]; simp [hl])
              have hs : ¬ 255 < x.size := by unfold longT at hl; rwa [decide_eq_false_iff_not] at hl
              clear hl
              go_wp2
              go_roundw
              case rel => exact ⟨k + 1, by omega, by go_num, HN.out, trivial⟩
              case measure => simp [intOf]; omega
          · have hT2 := hT.out
            rw [List.take_of_length_le (by omega)] at hT2
            have HN := Lib.hid hT2
            clear hT2
            go_wp2
            go_ret
            exact ⟨by rw [HM.out, HX.out, HN.out]; rfl, HE1.out⟩
set_option maxRecDepth 100000 in
set_option maxHeartbeats 1000000 in
theorem refd_rest (kind : Int) (d : Dat) (v0 v1 v2 v3 v4 : Value) (w : World) (hd : DR w v0 v1 v2 v3 v4 d) (hi : IntsOk d.nums) (hk : 1 ≤ kind ∧ kind ≤ 65535) (h : ¬ (kind = 1 ∨ kind = 28 ∨ kind = 2 ∨ kind = 5 ∨ kind = 12 ∨ kind = 15 ∨ kind = 6 ∨ kind = 33 ∨ kind = 16)) :
    Calls Try.prog 61 #[.int .i64 kind, .agg #[v0, v1, v2, v3, v4]] w fun e w' => e = .returned (.bool (rsound kind d)) ∧ Ext w w' := by
  have hs : shapeOf kind = ⟨-1, false, false, false, 0, 0, false, false⟩ := by
    unfold shapeOf
    rw [if_neg (by omega), if_neg (by omega), if_neg (by omega), if_neg (by omega), if_neg (by omega), if_neg (by omega), if_neg (by omega)]
  have HM := Lib.hid (rs_rest (d := d) hs hk)
  have t0 : (kind == 1) = false := by rw [beq_eq_false_iff_ne]; omega
  have t1 : (kind == 28) = false := by rw [beq_eq_false_iff_ne]; omega
  have t2 : (kind == 2) = false := by rw [beq_eq_false_iff_ne]; omega
  have t3 : (kind == 5) = false := by rw [beq_eq_false_iff_ne]; omega
  have t4 : (kind == 12) = false := by rw [beq_eq_false_iff_ne]; omega
  have t5 : (kind == 15) = false := by rw [beq_eq_false_iff_ne]; omega
  have t6 : (kind == 6) = false := by rw [beq_eq_false_iff_ne]; omega
  have t7 : (kind == 33) = false := by rw [beq_eq_false_iff_ne]; omega
  have t8 : (kind == 16) = false := by rw [beq_eq_false_iff_ne]; omega
  have HD := Lib.hid hd
  have HI := Lib.hid hi
  obtain ⟨A0, k0, rfl, a0, b0⟩ := hd.by_.form
  obtain ⟨A1, k1, rfl, _, _⟩ := hd.ho.form
  obtain ⟨A2, k2, rfl, _, _⟩ := hd.ma.form
  obtain ⟨A3, k3, rfl, _, _⟩ := hd.nu.form
  obtain ⟨A4, k4, rfl, a4, b4⟩ := hd.tx.form
  have HE0 := Lib.hid ((Ext.refl w).alloc (.cells #[.slice A0 d.bytes.length k0, .slice A1 d.host.length k1, .slice A2 d.mail.length k2, .slice A3 d.nums.length k3, .slice A4 d.texts.length k4] 26))
  have HB0 := Lib.hid (heap_alloc_new w (.cells #[.slice A0 d.bytes.length k0, .slice A1 d.host.length k1, .slice A2 d.mail.length k2, .slice A3 d.nums.length k3, .slice A4 d.texts.length k4] 26))
  clear hd hi
  obtain ⟨k1', k2'⟩ := hk
  clear hs h
  by_cases hl : (d.bytes.length : Int) ≤ 65535
  · rw [decide_eq_true hl] at HM
    have HCe := fun W (hE : Ext w W) => Lib.hid (ref_empty_b d _ _ _ _ _ W (HD.out.ext hE))
    generalize emp d true false false false false = βe at *
    go_enter Try.func61, Try.ntmps61
    go_wp2_with fail
    refine ((HCe _ HE0.out).out).mono ?_
    rintro e w1 ⟨rfl, hE1⟩
    have HE1 := Lib.hid (HE0.out.trans hE1)
    clear hE1
    go_wp2
    go_ret
    exact ⟨by rw [HM.out]; rfl, HE1.out⟩
  · rw [decide_eq_false hl] at HM
    go_enter Try.func61, Try.ntmps61
    go_wp2
    go_ret
    exact ⟨by rw [HM.out]; rfl, HE0.out⟩
set_option maxHeartbeats 400000 in
theorem refd_bad (kind : Int) (d : Dat) (v0 v1 v2 v3 v4 : Value) (w : World) (hd : DR w v0 v1 v2 v3 v4 d) (hi : IntsOk d.nums) (hk : ¬ (1 ≤ kind ∧ kind ≤ 65535)) :
    Calls Try.prog 61 #[.int .i64 kind, .agg #[v0, v1, v2, v3, v4]] w fun e w' => e = .returned (.bool (rsound kind d)) ∧ Ext w w' := by
  have HM := Lib.hid (show rsound kind d = false by unfold rsound; rw [decide_eq_false hk]; rfl)
  have HD := Lib.hid hd
  have HI := Lib.hid hi
  obtain ⟨A0, k0, rfl, a0, b0⟩ := hd.by_.form
  obtain ⟨A1, k1, rfl, _, _⟩ := hd.ho.form
  obtain ⟨A2, k2, rfl, _, _⟩ := hd.ma.form
  obtain ⟨A3, k3, rfl, _, _⟩ := hd.nu.form
  obtain ⟨A4, k4, rfl, a4, b4⟩ := hd.tx.form
  have HE0 := Lib.hid ((Ext.refl w).alloc (.cells #[.slice A0 d.bytes.length k0, .slice A1 d.host.length k1, .slice A2 d.mail.length k2, .slice A3 d.nums.length k3, .slice A4 d.texts.length k4] 26))
  have HB0 := Lib.hid (heap_alloc_new w (.cells #[.slice A0 d.bytes.length k0, .slice A1 d.host.length k1, .slice A2 d.mail.length k2, .slice A3 d.nums.length k3, .slice A4 d.texts.length k4] 26))
  clear hd hi
  by_cases h1 : kind < 1
  · go_enter Try.func61, Try.ntmps61
    go_wp2
    go_ret
    exact ⟨by rw [HM.out]; rfl, HE0.out⟩
  · have h2 : 65535 < kind := by omega
    clear hk
    go_enter Try.func61, Try.ntmps61
    go_wp2
    go_ret
    exact ⟨by rw [HM.out]; rfl, HE0.out⟩
/-- ref03.Data. -/
theorem ref_Data (kind : Int) (d : Dat) (v0 v1 v2 v3 v4 : Value) (w : World) (hd : DR w v0 v1 v2 v3 v4 d) (hi : IntsOk d.nums) :
    Calls Try.prog 61 #[.int .i64 kind, .agg #[v0, v1, v2, v3, v4]] w fun e w' => e = .returned (.bool (rsound kind d)) ∧ Ext w w' := by
  by_cases hk : 1 ≤ kind ∧ kind ≤ 65535
  · by_cases h : kind = 1 ∨ kind = 28 ∨ kind = 2 ∨ kind = 5 ∨ kind = 12 ∨ kind = 15 ∨ kind = 6 ∨ kind = 33 ∨ kind = 16
    · rcases h with h | h | h | h | h | h | h | h | h
      · exact refd_a kind d _ _ _ _ _ w hd hi h
      · exact refd_aaaa kind d _ _ _ _ _ w hd hi h
      · exact refd_host kind d _ _ _ _ _ w hd hi (.inl h)
      · exact refd_host kind d _ _ _ _ _ w hd hi (.inr (.inl h))
      · exact refd_host kind d _ _ _ _ _ w hd hi (.inr (.inr h))
      · exact refd_mx kind d _ _ _ _ _ w hd hi h
      · exact refd_soa kind d _ _ _ _ _ w hd hi h
      · exact refd_srv kind d _ _ _ _ _ w hd hi h
      · exact refd_texts kind d _ _ _ _ _ w hd hi h
    · exact refd_rest kind d _ _ _ _ _ w hd hi hk h
  · exact refd_bad kind d _ _ _ _ _ w hd hi hk
end Go.Proofs.Ytfnelkcllaaebaa
end
