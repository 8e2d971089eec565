/- Parts of one proof, joined: RefS, Own5. Conditions: those that each theorem states. -/
import Derived.Test.YtfnelkcllaaebaaB20
import Derived.Test.YtfnelkcllaaebaaCOpen3
section
/- Contracts of ref03.Sound, ref03.SameRR and law05.own. No condition but that records stand in memory, their numbers' and strings' sizes, and room. -/
open Go.RowKit
set_option linter.unusedVariables false
set_option linter.unusedSimpArgs false
namespace Go.Proofs.Ytfnelkcllaaebaa
theorem alloc_second (w : World) (o1 o2 : Obj) : ((w.alloc o1).alloc o2).heap[w.heap.size + 1]? = some o2 := by
  have := heap_alloc_new (w.alloc o1) o2
  simpa using this
set_option maxRecDepth 100000 in
set_option maxHeartbeats 1000000 in
/-- ref03.Sound. -/
theorem ref_SoundRR (r : Rec) (vn v0 v1 v2 v3 v4 : Value) (w : World) (h : RecC w vn v0 v1 v2 v3 v4 r) (hi : IntsOk r.data.nums) (hc : r.cls ≤ 9223372036854775807) :
    Calls Try.prog 72 #[.agg #[vn, .int .i64 r.type, .int .i64 r.cls, .int .i64 r.ttl, v0, v1, v2, v3, v4]] w fun e w' => e = .returned (.bool (rrsound r)) ∧ Ext w w' := by
  have hE0 := (Ext.refl w).alloc (.cells #[vn, .int .i64 r.type, .int .i64 r.cls, .int .i64 r.ttl, v0, v1, v2, v3, v4] 49)
  have H := Lib.hid h
  have HI := Lib.hid hi
  have HCl := Lib.hid hc
  obtain ⟨hn, hd⟩ := h
  obtain ⟨An, kn, rfl, _, _⟩ := hn.form
  obtain ⟨A0, k0, rfl, _, _⟩ := hd.by_.form
  obtain ⟨A1, k1, rfl, _, _⟩ := hd.ho.form
  obtain ⟨A2, k2, rfl, _, _⟩ := hd.ma.form
  obtain ⟨A3, k3, rfl, _, _⟩ := hd.nu.form
  obtain ⟨A4, k4, rfl, _, _⟩ := hd.tx.form
  have HE0 := Lib.hid hE0
  have HB0 := Lib.hid (show Box9 _ w.heap.size _ _ _ _ _ _ _ _ _ from heap_alloc_new w (.cells #[.slice An r.name.length kn, .int .i64 r.type, .int .i64 r.cls, .int .i64 r.ttl, .slice A0 r.data.bytes.length k0, .slice A1 r.data.host.length k1, .slice A2 r.data.mail.length k2, .slice A3 r.data.nums.length k3, .slice A4 r.data.texts.length k4] 49))
  have HC1 := Lib.hid (ref_Sound _ r.name _ (H.out.1.ext HE0.out))
  have HM : Hid (rrsound r = (nsound r.name && (rsound r.type r.data && (fits r.cls 2 && decide (0 ≤ r.ttl ∧ r.ttl < 2147483648))))) := Lib.hid rfl
  clear hn hd hE0 hi hc
  generalize nsound r.name = β1 at *
  have HC2 := fun W (hE : Ext w W) => Lib.hid (ref_Data r.type r.data _ _ _ _ _ W (H.out.2.ext hE) HI.out)
  generalize rsound r.type r.data = β2 at *
  have HC3 := Lib.hid (fun w => ref_Fits r.cls 2 w HCl.out)
  generalize fits r.cls 2 = β3 at *
  go_enter Try.func72, Try.ntmps72
  go_wp2_with fail
  refine (HC1.out).mono ?_
  rintro e w' ⟨rfl, rfl⟩
  cases β1
  · go_wp2
    go_ret
    exact ⟨by rw [HM.out]; rfl, HE0.out⟩
  · obtain ⟨q0, q1, q2, q3, q4, q5, q6, q7, q8⟩ := HB0.out.cells
    have HC2' := HC2 _ HE0.out
    clear HC2
    go_wp2_with fail
    refine (HC2'.out).mono ?_
    rintro e w2 ⟨rfl, hE2⟩
    have HE2 := Lib.hid (HE0.out.trans hE2)
    have HB2 := Lib.hid (show Box9 w2 w.heap.size _ _ _ _ _ _ _ _ _ from hE2.block HB0.out)
    clear hE2 q0 q1 q2 q3 q4 q5 q6 q7 q8
    cases β2
    · go_wp2
      go_ret
      exact ⟨by rw [HM.out]; rfl, HE2.out⟩
    · obtain ⟨q0, q1, q2, q3, q4, q5, q6, q7, q8⟩ := HB2.out.cells
      go_wp2_with fail
      refine (HC3.out w2).mono ?_
      rintro e w3 ⟨rfl, rfl⟩
      cases β3
      · go_wp2
        go_ret
        exact ⟨by rw [HM.out]; rfl, HE2.out⟩
      · by_cases h1 : 0 ≤ r.ttl
        · have HX : Hid (decide (0 ≤ r.ttl ∧ r.ttl < 2147483648) = decide (r.ttl < 2147483648)) := Lib.hid (by rw [decide_eq_decide]; exact ⟨fun h => h.2, fun h => ⟨h1, h⟩⟩)
          go_wp2
          go_ret
          exact ⟨by rw [HM.out, HX.out]; rfl, HE2.out⟩
        · have HX : Hid (decide (0 ≤ r.ttl ∧ r.ttl < 2147483648) = false) := Lib.hid (decide_eq_false (fun h => h1 h.1))
          go_wp2
          go_ret
          exact ⟨by rw [HM.out, HX.out]; rfl, HE2.out⟩
set_option maxRecDepth 100000 in
set_option maxHeartbeats 1000000 in
/-- ref03.SameRR of a record and itself. -/
theorem ref_SameRR_refl (r : Rec) (vn v0 v1 v2 v3 v4 un u0 u1 u2 u3 u4 : Value) (w : World) (h : RecC w vn v0 v1 v2 v3 v4 r) (h' : RecC w un u0 u1 u2 u3 u4 r) (fr : RFit r) :
    Calls Try.prog 76 #[.agg #[vn, .int .i64 r.type, .int .i64 r.cls, .int .i64 r.ttl, v0, v1, v2, v3, v4], .agg #[un, .int .i64 r.type, .int .i64 r.cls, .int .i64 r.ttl, u0, u1, u2, u3, u4]] w fun e w' => e = .returned (.bool true) ∧ Ext w w' := by
  have H := Lib.hid h
  have H' := Lib.hid h'
  have FR := Lib.hid fr
  obtain ⟨hn, hd⟩ := h
  obtain ⟨hn', hd'⟩ := h'
  obtain ⟨An, kn, rfl, _, _⟩ := hn.form
  obtain ⟨A0, k0, rfl, _, _⟩ := hd.by_.form
  obtain ⟨A1, k1, rfl, _, _⟩ := hd.ho.form
  obtain ⟨A2, k2, rfl, _, _⟩ := hd.ma.form
  obtain ⟨A3, k3, rfl, _, _⟩ := hd.nu.form
  obtain ⟨A4, k4, rfl, _, _⟩ := hd.tx.form
  obtain ⟨Bn, ln, rfl, _, _⟩ := hn'.form
  obtain ⟨B0, l0, rfl, _, _⟩ := hd'.by_.form
  obtain ⟨B1, l1, rfl, _, _⟩ := hd'.ho.form
  obtain ⟨B2, l2, rfl, _, _⟩ := hd'.ma.form
  obtain ⟨B3, l3, rfl, _, _⟩ := hd'.nu.form
  obtain ⟨B4, l4, rfl, _, _⟩ := hd'.tx.form
  have HE1 := Lib.hid ((Ext.refl w).alloc (.cells #[.slice An r.name.length kn, .int .i64 r.type, .int .i64 r.cls, .int .i64 r.ttl, .slice A0 r.data.bytes.length k0, .slice A1 r.data.host.length k1, .slice A2 r.data.mail.length k2, .slice A3 r.data.nums.length k3, .slice A4 r.data.texts.length k4] 49))
  have HE2' := Lib.hid ((Ext.refl (w.alloc (.cells #[.slice An r.name.length kn, .int .i64 r.type, .int .i64 r.cls, .int .i64 r.ttl, .slice A0 r.data.bytes.length k0, .slice A1 r.data.host.length k1, .slice A2 r.data.mail.length k2, .slice A3 r.data.nums.length k3, .slice A4 r.data.texts.length k4] 49))).alloc (.cells #[.slice Bn r.name.length ln, .int .i64 r.type, .int .i64 r.cls, .int .i64 r.ttl, .slice B0 r.data.bytes.length l0, .slice B1 r.data.host.length l1, .slice B2 r.data.mail.length l2, .slice B3 r.data.nums.length l3, .slice B4 r.data.texts.length l4] 49))
  have HE2 := Lib.hid (HE1.out.trans HE2'.out)
  have HB1 := Lib.hid (show Box9 _ w.heap.size _ _ _ _ _ _ _ _ _ from HE2'.out.block (heap_alloc_new w _))
  have HB2 : Hid (Box9 ((w.alloc (.cells #[.slice An r.name.length kn, .int .i64 r.type, .int .i64 r.cls, .int .i64 r.ttl, .slice A0 r.data.bytes.length k0, .slice A1 r.data.host.length k1, .slice A2 r.data.mail.length k2, .slice A3 r.data.nums.length k3, .slice A4 r.data.texts.length k4] 49)).alloc (.cells #[.slice Bn r.name.length ln, .int .i64 r.type, .int .i64 r.cls, .int .i64 r.ttl, .slice B0 r.data.bytes.length l0, .slice B1 r.data.host.length l1, .slice B2 r.data.mail.length l2, .slice B3 r.data.nums.length l3, .slice B4 r.data.texts.length l4] 49)) (w.heap.size + 1) _ _ _ _ _ _ _ _ _) := Lib.hid (alloc_second w _ _)
  clear hn hd hn' hd' fr
  have HC1 := fun W (hE : Ext w W) => Lib.hid (ref_Exact _ _ _ _ W (H.out.1.ext hE) (H'.out.1.ext hE))
  rw [decide_eq_true rfl] at HC1
  have HC2 := fun W (hE : Ext w W) => Lib.hid (rref_Exact r.data r.data _ _ _ _ _ _ _ _ _ _ W (H.out.2.ext hE) (H'.out.2.ext hE) FR.out.2 FR.out.2)
  rw [dexact_refl] at HC2
  have HC1' := HC1 _ HE2.out
  clear HC1
  go_enter Try.func76, Try.ntmps76
  go_wp2_with fail
  refine (HC1'.out).mono ?_
  rintro e w3 ⟨rfl, hD⟩
  have HE3 := Lib.hid (HE2.out.trans hD.ext)
  have HB3 := Lib.hid (show Box9 w3 w.heap.size _ _ _ _ _ _ _ _ _ from hD.ext.block HB1.out)
  have HB4 := Lib.hid (show Box9 w3 (w.heap.size + 1) _ _ _ _ _ _ _ _ _ from hD.ext.block HB2.out)
  obtain ⟨q0, q1, q2, q3, q4, q5, q6, q7, q8⟩ := HB3.out.cells
  obtain ⟨p0, p1, p2, p3, p4, p5, p6, p7, p8⟩ := HB4.out.cells
  have HC2' := HC2 _ HE3.out
  clear HC2 hD
  go_wp2_with fail
  refine (HC2'.out).mono ?_
  rintro e w4 ⟨rfl, hE4⟩
  go_wp2
  go_ret
  exact ⟨rfl, HE3.out.trans hE4⟩
end Go.Proofs.Ytfnelkcllaaebaa
end
section
/- Contract of law05.own. No condition but that the record stands in memory, and room. -/
open Go.RowKit
set_option linter.unusedVariables false
set_option linter.unusedSimpArgs false
namespace Go.Proofs.Ytfnelkcllaaebaa
theorem recs_single {w : World} {g : Nat} {vn v0 v1 v2 v3 v4 : Value} {r : Rec} (hg : w.heap[g]? = some (.cells #[vn, .int .i64 r.type, .int .i64 r.cls, .int .i64 r.ttl, v0, v1, v2, v3, v4] 49 (0, 0))) (h : RecC w vn v0 v1 v2 v3 v4 r) : RecsV w (.slice (some ⟨g, 0, none⟩) 1 1) [r] := by
  refine ⟨_, 1, rfl, by simp, by decide, fun _ => ⟨g, 0, rfl, fun j x hx => ?_⟩⟩
  match j, hx with
  | 0, hx =>
    simp at hx
    subst hx
    refine ⟨_, rfl, ⟨vn, v0, v1, v2, v3, v4, rfl, h.1, h.2⟩, fun i u hu => ?_⟩
    rw [Nat.zero_mul, Nat.zero_add, Nat.zero_add]
    simp only [World.cell?, hg]
    simpa using hu
  | j + 1, hx => simp at hx
def OwnRGives (r : Rec) (w : World) (e : Ending) (w' : World) : Prop := Ext w w' ∧ ∃ vn v0 v1 v2 v3 v4, e = .returned (.agg #[vn, .int .i64 r.type, .int .i64 r.cls, .int .i64 r.ttl, v0, v1, v2, v3, v4]) ∧ RecN w' w.heap.size [vn, .int .i64 r.type, .int .i64 r.cls, .int .i64 r.ttl, v0, v1, v2, v3, v4] r
theorem own5_ends {w W : World} {r : Rec} {c0 c1 c2 c3 c4 c5 c6 c7 c8 vn v0 v1 v2 v3 v4 : Value} (hB : Box9 W (w.heap.size + 1) c0 c1 c2 c3 c4 c5 c6 c7 c8) (hE : Ext w W) (hN : RecN W (w.heap.size + 2) [vn, .int .i64 r.type, .int .i64 r.cls, .int .i64 r.ttl, v0, v1, v2, v3, v4] r)
    {a : Act} (h2 : a.tmps.getD 2 undef = .pointer (some ⟨w.heap.size + 1, 0, none⟩)) (hd : a.defers = []) :
    bodyPost Try.prog Try.f71 (OwnRGives r w) .ret a (nine W (w.heap.size + 1) vn (.int .i64 r.type) (.int .i64 r.cls) (.int .i64 r.ttl) v0 v1 v2 v3 v4) := by
  have h2' : a.tmps[2]?.getD undef = .pointer (some ⟨w.heap.size + 1, 0, none⟩) := by rw [← h2]; simp
  obtain ⟨q0, q1, q2, q3, q4, q5, q6, q7, q8⟩ := (hB.nine vn (.int .i64 r.type) (.int .i64 r.cls) (.int .i64 r.ttl) v0 v1 v2 v3 v4).cells
  refine bodyPost_ret (v := .agg #[vn, .int .i64 r.type, .int .i64 r.cls, .int .i64 r.ttl, v0, v1, v2, v3, v4]) ?_ hd ⟨hE.nine (Nat.le_succ _) _ _ _ _ _ _ _ _ _, vn, v0, v1, v2, v3, v4, rfl, ?_⟩
  · simp [results, Try.results71, go_sem, h2', q0, q1, q2, q3, q4, q5, q6, q7, q8]
  · obtain ⟨un, u0, u1, u2, u3, u4, e, hn, hd⟩ := hN
    simp only [List.cons.injEq, and_true, true_and] at e
    obtain ⟨rfl, rfl, rfl, rfl, rfl, rfl⟩ := e
    exact ⟨_, _, _, _, _, _, rfl, (hn.nine (Nat.lt_succ_self _) _ _ _ _ _ _ _ _ _).mono (by omega), (hd.nine (Nat.lt_succ_self _) _ _ _ _ _ _ _ _ _).mono (by omega)⟩
theorem RecN.cs {w : World} {base : Nat} {cs : List Value} {r : Rec} (h : RecN w base cs r) : ∃ An mn kn A0 m0 k0 A1 m1 k1 A2 m2 k2 A3 m3 k3 A4 m4 k4, cs = [.slice An mn kn, .int .i64 r.type, .int .i64 r.cls, .int .i64 r.ttl, .slice A0 m0 k0, .slice A1 m1 k1, .slice A2 m2 k2, .slice A3 m3 k3, .slice A4 m4 k4] := by
  obtain ⟨vn, v0, v1, v2, v3, v4, rfl, hn, x0, x1, x2, x3, x4, e, h0, h1, h2, h3, h4⟩ := h
  simp only [List.cons.injEq, and_true] at e
  obtain ⟨rfl, rfl, rfl, rfl, rfl⟩ := e
  obtain ⟨An, mn, kn, rfl⟩ := hn.slice
  obtain ⟨A0, m0, k0, rfl⟩ := h0.slice
  obtain ⟨A1, m1, k1, rfl⟩ := h1.slice
  obtain ⟨A2, m2, k2, rfl⟩ := h2.slice
  obtain ⟨A3, m3, k3, rfl⟩ := h3.slice
  obtain ⟨A4, m4, k4, rfl⟩ := h4.slice
  exact ⟨_, _, _, _, _, _, _, _, _, _, _, _, _, _, _, _, _, _, rfl⟩
set_option maxRecDepth 100000 in
set_option maxHeartbeats 1000000 in
/-- law05.own. -/
theorem law05_own (r : Rec) (vn v0 v1 v2 v3 v4 : Value) (w : World) (h : RecC w vn v0 v1 v2 v3 v4 r) (hr : RRoom r) :
    Calls Try.prog 71 #[.agg #[vn, .int .i64 r.type, .int .i64 r.cls, .int .i64 r.ttl, v0, v1, v2, v3, v4]] w (OwnRGives r w) := by
  have H := Lib.hid h
  have HR := Lib.hid hr
  obtain ⟨hn, hd⟩ := h
  obtain ⟨An, kn, rfl, _, _⟩ := hn.form
  obtain ⟨A0, k0, rfl, _, _⟩ := hd.by_.form
  obtain ⟨A1, k1, rfl, _, _⟩ := hd.ho.form
  obtain ⟨A2, k2, rfl, _, _⟩ := hd.ma.form
  obtain ⟨A3, k3, rfl, _, _⟩ := hd.nu.form
  obtain ⟨A4, k4, rfl, _, _⟩ := hd.tx.form
  clear hn hd hr
  obtain ⟨C, hC⟩ : ∃ C, (#[.slice An r.name.length kn, .int .i64 r.type, .int .i64 r.cls, .int .i64 r.ttl, .slice A0 r.data.bytes.length k0, .slice A1 r.data.host.length k1, .slice A2 r.data.mail.length k2, .slice A3 r.data.nums.length k3, .slice A4 r.data.texts.length k4] : Array Value) = C := ⟨_, rfl⟩
  have HW2 : Hid (((w.alloc (.cells C 49)).alloc (.cells #[nilS, .int .i64 0, .int .i64 0, .int .i64 0, nilS, nilS, nilS, nilS, nilS] 49)).heap.size = w.heap.size + 2) := Lib.hid (by simp)
  have HE2 := Lib.hid (((Ext.refl w).alloc (.cells C 49)).alloc (.cells #[nilS, .int .i64 0, .int .i64 0, .int .i64 0, nilS, nilS, nilS, nilS, nilS] 49))
  have HB2 := Lib.hid (show Box9 _ (w.heap.size + 1) _ _ _ _ _ _ _ _ _ from alloc_second w (.cells C 49) (.cells #[nilS, .int .i64 0, .int .i64 0, .int .i64 0, nilS, nilS, nilS, nilS, nilS] 49))
  rw [← hC] at HW2 HE2 HB2
  clear hC
  go_enter Try.func71, Try.ntmps71
  go_wp2_with fail
  generalize (w.alloc (.cells #[.slice An r.name.length kn, .int .i64 r.type, .int .i64 r.cls, .int .i64 r.ttl, .slice A0 r.data.bytes.length k0, .slice A1 r.data.host.length k1, .slice A2 r.data.mail.length k2, .slice A3 r.data.nums.length k3, .slice A4 r.data.texts.length k4] 49)).alloc (.cells #[nilS, .int .i64 0, .int .i64 0, .int .i64 0, nilS, nilS, nilS, nilS, nilS] 49) = W2 at *
  obtain ⟨C2, hC2⟩ : ∃ C, (#[.slice An r.name.length kn, .int .i64 r.type, .int .i64 r.cls, .int .i64 r.ttl, .slice A0 r.data.bytes.length k0, .slice A1 r.data.host.length k1, .slice A2 r.data.mail.length k2, .slice A3 r.data.nums.length k3, .slice A4 r.data.texts.length k4] : Array Value) = C := ⟨_, rfl⟩
  have hB3 : (W2.alloc (.cells C2 49)).heap[w.heap.size + 1 + 1]? = some (.cells C2 49 (0, 0)) := by
    have := heap_alloc_new W2 (.cells C2 49)
    rwa [HW2.out] at this
  have hE3 := HE2.out.alloc (.cells C2 49)
  have hB4 : Box9 (W2.alloc (.cells C2 49)) (w.heap.size + 1) _ _ _ _ _ _ _ _ _ := ((Ext.refl W2).alloc _).block HB2.out
  have hsz : w.heap.size + 2 ≤ (W2.alloc (.cells C2 49)).heap.size := by have := ((Ext.refl W2).alloc (.cells C2 49)).size; rw [HW2.out] at this; exact this
  rw [← hC2] at hB3 hE3 hB4 hsz
  have hR3 := recs_single hB3 (H.out.ext hE3)
  have HB4 := Lib.hid hB4
  have HE3 := Lib.hid hE3
  have HSz := Lib.hid hsz
  refine (ref_OwnRRs [r] _ _ hR3 (by intro x hx; rw [List.mem_singleton] at hx; rw [hx]; exact HR.out) (by simp)).mono ?_
  rintro e w4 ⟨hE4, v4, rfl, hO⟩
  obtain ⟨b, o, c, rfl, _, _, hcell⟩ := hO.sl.opens (by simp)
  obtain ⟨cs, _, hN, hc⟩ := hcell 0 r rfl
  obtain ⟨Bn, m, j, B0, m0, j0, B1, m1, j1, B2, m2, j2, B3, m3, j3, B4, m4, j4, rfl⟩ := hN.cs
  have d0 := hc 0 _ rfl
  have d1 := hc 1 _ rfl
  have d2 := hc 2 _ rfl
  have d3 := hc 3 _ rfl
  have d4 := hc 4 _ rfl
  have d5 := hc 5 _ rfl
  have d6 := hc 6 _ rfl
  have d7 := hc 7 _ rfl
  have d8 := hc 8 _ rfl
  simp only [Nat.zero_mul, Nat.zero_add, Nat.add_zero, ← Nat.add_assoc] at d0 d1 d2 d3 d4 d5 d6 d7 d8
  have HB5 := Lib.hid (show Box9 w4 (w.heap.size + 1) _ _ _ _ _ _ _ _ _ from hE4.block HB4.out)
  have HE4 := Lib.hid (HE3.out.trans hE4)
  have HN4 : Hid (RecN w4 (w.heap.size + 2) _ r) := Lib.hid (by
    obtain ⟨un, u0, u1, u2, u3, u4, e, hn, hd⟩ := hN
    exact ⟨un, u0, u1, u2, u3, u4, e, hn.mono HSz.out, hd.mono HSz.out⟩)
  clear hcell hc hN hE4 hO hB3 hE3 hB4 hsz hR3 hC2
  obtain ⟨q0, q1, q2, q3, q4, q5, q6, q7, q8⟩ := HB5.out.cells
  have qf := HB5.out.free
  simp only [List.length_cons, List.length_nil, Nat.zero_add]
  go_wp2
  exact own5_ends HB5.out HE4.out HN4.out rfl rfl
end Go.Proofs.Ytfnelkcllaaebaa
end
