/- Parts of one proof, joined: RefS, Own5. Conditions: those that each theorem states. -/
import Derived.Test.YtfnelkcllaaebaaEB20
import Derived.Test.YtfnelkcllaaebaaECOpen3
section
/- Contracts of ref03.Sound, ref03.SameRR and law05.own. No condition but that records stand in memory, their numbers' and strings' sizes, and room. -/
open Go.RowKit
set_option linter.unusedVariables false
set_option linter.unusedSimpArgs false
namespace Go.Proofs.Ytfnelkcllaaebaa
theorem alloc_second (w : World) (o1 o2 : Obj) : ((w.alloc o1).alloc o2).heap[w.heap.size + 1]? = some o2 := by
  have := heap_alloc_new (w.alloc o1) o2
  simpa using this
set_option maxRecDepth 100000 in
set_option maxHeartbeats 1000000 in
/-- ref03.Sound. -/
theorem ref_SoundRR (r : Rec) (vn v0 v1 v2 v3 v4 : Value) (w : World) (h : RecC w vn v0 v1 v2 v3 v4 r) (hi : IntsOk r.data.nums) (hc : r.cls ≤ 9223372036854775807) :
    Calls Try.prog 72 #[.agg #[vn, .int .i64 r.type, .int .i64 r.cls, .int .i64 r.ttl, v0, v1, v2, v3, v4]] w fun e w' => e = .returned (.bool (rrsound r)) ∧ Ext w w' := by
  have hE0 := (Ext.refl w).alloc (.cells #[vn, .int .i64 r.type, .int .i64 r.cls, .int .i64 r.ttl, v0, v1, v2, v3, v4] 49)
  have H := Lib.hid h
  have HI := Lib.hid hi
  have HCl := Lib.hid hc
  obtain ⟨hn, hd⟩ := h
  obtain ⟨An, kn, rfl, _, _⟩ := hn.form
  obtain ⟨A0, k0, rfl, _, _⟩ := hd.by_.form
  obtain ⟨A1, k1, rfl, _, _⟩ := hd.ho.form
  obtain ⟨A2, k2, rfl, _, _⟩ := hd.ma.form
  obtain ⟨A3, k3, rfl, _, _⟩ := hd.nu.form
  obtain ⟨A4, k4, rfl, _, _⟩ := hd.tx.form
  have HE0 := Lib.hid hE0
  have HB0 := Lib.hid (show Box9 _ w.heap.size _ _ _ _ _ _ _ _ _ from heap_alloc_new w (.cells #[.slice An r.name.length kn, .int .i64 r.type, .int .i64 r.cls, .int .i64 r.ttl, .slice A0 r.data.bytes.length k0, .slice A1 r.data.host.length k1, .slice A2 r.data.mail.length k2, .slice A3 r.data.nums.length k3, .slice A4 r.data.texts.length k4] 49))
  have HC1 := Lib.hid (ref_Sound _ r.name _ (H.out.1.ext HE0.out))
  have HM : Hid (rrsound r = (nsound r.name && (rsound r.type r.data && (fits r.cls 2 && decide (0 ≤ r.ttl ∧ r.ttl < 2147483648))))) := Lib.hid rfl
  clear hn hd hE0 hi hc
  generalize nsound r.name = β1 at *
  have HC2 := fun W (hE : Ext w W) => Lib.hid (ref_Data r.type r.data _ _ _ _ _ W (H.out.2.ext hE) HI.out)
  generalize rsound r.type r.data = β2 at *
  have HC3 := Lib.hid (fun w => ref_Fits r.cls 2 w HCl.out)
  generalize fits r.cls 2 = β3 at *
  go_enter Try.func72, Try.ntmps72
  go_wp2_with fail
  refine (HC1.out).mono ?_
  rintro e w' ⟨rfl, rfl⟩
  cases β1
  · go_wp2
    go_ret
    exact ⟨by rw [HM.out]; rfl, HE0.out⟩
  · obtain ⟨q0, q1, q2, q3, q4, q5, q6, q7, q8⟩ := HB0.out.cells
    have HC2' := HC2 _ HE0.out
    clear HC2
    go_wp2_with fail
    refine (HC2'.out).mono ?_
    rintro e w2 ⟨rfl, hE2⟩
    have HE2 := Lib.hid (HE0.out.trans hE2)
    have HB2 := Lib.hid (show Box9 w2 w.heap.size _ _ _ _ _ _ _ _ _ from hE2.block HB0.out)
    clear hE2 q0 q1 q2 q3 q4 q5 q6 q7 q8
    cases β2
    · go_wp2
      go_ret
      exact ⟨by rw [HM.out]; rfl, HE2.out⟩
    · obtain ⟨q0, q1, q2, q3, q4, q5, q6, q7, q8⟩ := HB2.out.cells
      go_wp2_with fail
      refine (HC3.out w2).mono ?_
      rintro e w3 ⟨rfl, rfl⟩
      cases β3
      · go_wp2
        go_ret
        exact ⟨by rw [HM.out]; rfl, HE2.out⟩
      · by_cases h1 : 0 ≤ r.ttl
        · have HX : Hid (decide (0 ≤ r.ttl ∧ r.ttl < 2147483648) = decide (r.ttl < 2147483648)) := Lib.hid (by rw [decide_eq_decide]; exact ⟨fun h => h.2, fun h => ⟨h1, h⟩⟩)
          go_wp2
          go_ret
          exact ⟨by rw [HM.out, HX.out]; rfl, HE2.out⟩
        · have HX : Hid (decide (0 ≤ r.ttl ∧ r.ttl < 2147483648) = false) := Lib.hid (decide_eq_false (fun h => h1 h.1))
          go_wp2
          go_ret
          exact ⟨by rw [HM.out, HX.out]; rfl, HE2.out⟩
end Go.Proofs.Ytfnelkcllaaebaa
end
section
/- Contract of law05.own. No condition but that the record stands in memory, and room. -/
open Go.RowKit
set_option linter.unusedVariables false
set_option linter.unusedSimpArgs false
namespace Go.Proofs.Ytfnelkcllaaebaa
end Go.Proofs.Ytfnelkcllaaebaa
end
