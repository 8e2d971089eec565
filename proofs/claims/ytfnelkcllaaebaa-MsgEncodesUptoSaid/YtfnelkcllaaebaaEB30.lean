/- Parts of one proof, joined: MsgP, RefR, RefE. Conditions: those that each theorem states. -/
import Derived.Test.YtfnelkcllaaebaaEB28
import Derived.Test.YtfnelkcllaaebaaEB27
import Derived.Test.YtfnelkcllaaebaaEB29
import Derived.Test.YtfnelkcllaaebaaECBoth
section
/- Contracts of ref03.records, ref03.flag and ref03.Msg. No condition but that the message stands in memory, that its lists are not too long, and the numbers' sizes. -/
open Go.RowKit
set_option linter.unusedVariables false
set_option linter.unusedSimpArgs false
namespace Go.Proofs.Ytfnelkcllaaebaa
/-- The numbers' sizes. -/
structure MInt (m : Msg) : Prop where
  qs : ∀ q ∈ m.qs, q.cls ≤ 9223372036854775807
  ans : ∀ r ∈ m.ans, IntsOk r.data.nums ∧ r.cls ≤ 9223372036854775807
  auth : ∀ r ∈ m.auth, IntsOk r.data.nums ∧ r.cls ≤ 9223372036854775807
  extra : ∀ r ∈ m.extra, IntsOk r.data.nums ∧ r.cls ≤ 9223372036854775807
  id : m.id ≤ 9223372036854775807
  size : m.size ≤ 9223372036854775807
theorem rok_int {r : Rec} (h : ROk r) : IntsOk r.data.nums ∧ r.cls ≤ 9223372036854775807 := ⟨h.2.1.2.2, (i64_range h.2.2.2.1).2⟩
theorem MOk.int {m : Msg} (h : MOk m) : MInt m := ⟨fun q hq => (i64_range (h.qs q hq).2.2).2, fun r hr => rok_int (h.ans r hr), fun r hr => rok_int (h.auth r hr), fun r hr => rok_int (h.extra r hr), (i64_range h.id).2, (i64_range h.size).2⟩
set_option maxRecDepth 100000 in
set_option maxHeartbeats 1000000 in
/-- ref03.records. -/
theorem ref_records (l : List Rec) (v : Value) (w : World) (hv : RecsV w v l) (hi : ∀ r ∈ l, IntsOk r.data.nums ∧ r.cls ≤ 9223372036854775807) :
    Calls Try.prog 107 #[v] w fun e w' => e = .returned (.bool (l.all rmsound)) ∧ Ext w w' := by
  have hll := hv.len
  have HV := Lib.hid hv
  have HI := Lib.hid hi
  obtain ⟨A, c, rfl, h1, h2⟩ := hv.form
  clear hv hi
  unfold maxI at *
  go_enter Try.func107, Try.ntmps107
  go_wp2
  go_loopw [3] (fun i wr => ∃ k : Nat, k ≤ l.length ∧ i = .int .i64 k ∧ Hid ((l.take k).all rmsound = true) ∧ Ext w wr) (fun i _ => l.length - (intOf i).toNat)
  case atStart => exact ⟨0, by omega, rfl, Lib.hid rfl, Ext.refl _⟩
  case round =>
    obtain ⟨k, hk, rfl, HT, hE⟩ := hrel
    have HE := Lib.hid hE
    clear hE
    by_cases hlt : k < l.length
    · obtain ⟨b, o, c1, e1, _, _, _⟩ := HV.out.opens (by omega)
      injection e1 with e1 e3 e4
      subst e1
      clear e3 e4
      have hx := List.getElem?_eq_getElem hlt
      obtain ⟨vn, v0, v1, v2, v3, v4, hn, hd, d0', d1', d2', d3', d4', d5', d6', d7', d8'⟩ := recs_cells HV.out hx
      obtain ⟨An, kn, rfl, _, _⟩ := hn.form
      obtain ⟨A0, k0, rfl, _, _⟩ := hd.by_.form
      obtain ⟨A1, k1, rfl, _, _⟩ := hd.ho.form
      obtain ⟨A2, k2, rfl, _, _⟩ := hd.ma.form
      obtain ⟨A3, k3, rfl, _, _⟩ := hd.nu.form
      obtain ⟨A4, k4, rfl, _, _⟩ := hd.tx.form
      have HCells := Lib.hid (And.intro d0' (And.intro d1' (And.intro d2' (And.intro d3' (And.intro d4' (And.intro d5' (And.intro d6' (And.intro d7' d8'))))))))
      have hmem := List.mem_of_getElem? hx
      have HRec := Lib.hid (show RecC w _ _ _ _ _ _ l[k] from ⟨hn, hd⟩)
      have HIx := Lib.hid (HI.out _ hmem)
      have HX := Lib.hid hx
      clear d0' d1' d2' d3' d4' d5' d6' d7' d8' hn hd hmem hx
      generalize l[k] = x at *
      have g0 := HE.out.cell HCells.out.1
      have g1 := HE.out.cell HCells.out.2.1
      have g2 := HE.out.cell HCells.out.2.2.1
      have g3 := HE.out.cell HCells.out.2.2.2.1
      have g4 := HE.out.cell HCells.out.2.2.2.2.1
      have g5 := HE.out.cell HCells.out.2.2.2.2.2.1
      have g6 := HE.out.cell HCells.out.2.2.2.2.2.2.1
      have g7 := HE.out.cell HCells.out.2.2.2.2.2.2.2.1
      have g8 := HE.out.cell HCells.out.2.2.2.2.2.2.2.2
      by_cases h41 : x.type = 41
      · have j : (x.type == 41) = true := by rw [h41]; rfl
        have HF := Lib.hid (show l.all rmsound = false by rw [List.all_eq_false]; exact ⟨x, List.mem_of_getElem? HX.out, by unfold rmsound; simp [h41]⟩)
        clear h41
        go_wp2
        go_ret
        exact ⟨ret_eq (bool_eq HF.out.symm), HE.out⟩
      · have j : (x.type == 41) = false := by rw [beq_eq_false_iff_ne]; exact h41
        have H41 := Lib.hid h41
        clear h41
        go_wp2_with fail
        clear g0 g1 g2 g3 g4 g5 g6 g7 g8
        refine (ref_SoundRR x _ _ _ _ _ _ wr (HRec.out.ext HE.out) HIx.out.1 HIx.out.2).mono ?_
        rintro e w4 ⟨rfl, hE4⟩
        have HE4 := Lib.hid (HE.out.trans hE4)
        clear hE4
        cases hs : rrsound x with
        | false =>
          have HF := Lib.hid (show l.all rmsound = false by rw [List.all_eq_false]; exact ⟨x, List.mem_of_getElem? HX.out, by unfold rmsound; simp [hs]⟩)
          clear hs
          go_wp2
          go_ret
          exact ⟨ret_eq (bool_eq HF.out.symm), HE4.out⟩
        | true =>
          have HF := Lib.hid (show (l.take (k + 1)).all rmsound = true by rw [List.take_add_one, HX.out, List.all_append, HT.out]; simp [rmsound, hs, H41.out])
          clear hs
          go_wp2
          go_roundw
          case rel => exact ⟨k + 1, by omega, by go_num, HF, HE4.out⟩
          case measure => simp [intOf]; omega
    · rw [List.take_of_length_le (by omega)] at HT
      go_wp2
      go_ret
      exact ⟨ret_eq (bool_eq HT.out.symm), HE.out⟩
/-- ref03.flag. -/
theorem ref_flag (b : Bool) (n : Int) (w : World) : Calls Try.prog 144 #[.bool b, .int .i64 n] w fun e w' => e = .returned (.int .i64 (bitN b n)) ∧ w' = w := by
  cases b
  all_goals
    go_enter Try.func144, Try.ntmps144
    go_wp2
    go_ret
    exact ⟨rfl, rfl⟩
set_option maxRecDepth 100000 in
set_option maxHeartbeats 2000000 in
/-- ref03.Msg. -/
theorem ref_Msg (m : Msg) (vq va vu ve : Value) (w : World) (h : MsgC w vq va vu ve m) (hi : MInt m) (hl : m.all ≤ 100000) :
    Calls Try.prog 38 #[.agg #[.int .i64 m.id, .bool m.resp, .int .i64 m.op, .bool m.aa, .bool m.tc, .bool m.rd, .bool m.ra, .int .i64 m.rc, vq, va, vu, ve, .bool m.edns, .int .i64 m.size]] w fun e w' => e = .returned (.bool (msound m)) ∧ Ext w w' := by
  have H := Lib.hid h
  have HI := Lib.hid hi
  have hl' := hl
  unfold Msg.all at hl'
  clear h hi hl
  obtain ⟨Aq, kq, rfl, _, _⟩ := H.out.qs.form
  obtain ⟨Aa, ka, rfl, _, _⟩ := H.out.ans.form
  obtain ⟨Au, ku, rfl, _, _⟩ := H.out.auth.form
  obtain ⟨Ae, ke, rfl, _, _⟩ := H.out.extra.form
  have HE1 := Lib.hid ((Ext.refl w).alloc (.cells #[.int .i64 m.id, .bool m.resp, .int .i64 m.op, .bool m.aa, .bool m.tc, .bool m.rd, .bool m.ra, .int .i64 m.rc, .slice Aq m.qs.length kq, .slice Aa m.ans.length ka, .slice Au m.auth.length ku, .slice Ae m.extra.length ke, .bool m.edns, .int .i64 m.size] 39))
  have HB1 : Hid (BoxM (w.alloc (.cells #[.int .i64 m.id, .bool m.resp, .int .i64 m.op, .bool m.aa, .bool m.tc, .bool m.rd, .bool m.ra, .int .i64 m.rc, .slice Aq m.qs.length kq, .slice Aa m.ans.length ka, .slice Au m.auth.length ku, .slice Ae m.extra.length ke, .bool m.edns, .int .i64 m.size] 39)) w.heap.size m _ _ _ _) := Lib.hid (heap_alloc_new w _)
  have HMany : Hid (¬ m.all ≤ 512 → msound m = false) := Lib.hid ms_many
  by_cases hall : m.all ≤ 512
  · have hall' := hall
    unfold Msg.all at hall'
    have HS3 : Hid (sumN m 3 ≤ 512) := Lib.hid hall
    have j1 : decide (512 < (m.qs.length : Int)) = false := by rw [decide_eq_false_iff_not]; omega
    have j2 : decide (512 < (m.ans.length : Int)) = false := by rw [decide_eq_false_iff_not]; omega
    have j3 : decide (512 < (m.auth.length : Int)) = false := by rw [decide_eq_false_iff_not]; omega
    have j4 : decide (512 < (m.extra.length : Int)) = false := by rw [decide_eq_false_iff_not]; omega
    have j5 : decide (512 < (m.qs.length : Int) + m.ans.length + m.auth.length + m.extra.length) = false := by rw [decide_eq_false_iff_not]; omega
    clear hall
    go_enter Try.func38, Try.ntmps38
    go_wp2
    generalize w.alloc (.cells #[.int .i64 m.id, .bool m.resp, .int .i64 m.op, .bool m.aa, .bool m.tc, .bool m.rd, .bool m.ra, .int .i64 m.rc, .slice Aq m.qs.length kq, .slice Aa m.ans.length ka, .slice Au m.auth.length ku, .slice Ae m.extra.length ke, .bool m.edns, .int .i64 m.size] 39) = w1 at *
    generalize w.heap.size = g at *
    clear j1 j2 j3 j4 j5
    go_loopw [3, 4] (fun i _ wr => ∃ k : Nat, k ≤ m.qs.length ∧ i = .int .i64 k ∧ Hid ((m.qs.take k).all qsound = true) ∧ Ext w wr ∧ BoxM wr g m (.slice Aq m.qs.length kq) (.slice Aa m.ans.length ka) (.slice Au m.auth.length ku) (.slice Ae m.extra.length ke)) (fun i _ _ => m.qs.length - (intOf i).toNat)
    case atStart => exact ⟨0, by omega, rfl, Lib.hid rfl, HE1.out, HB1.out⟩
    case round =>
      obtain ⟨k, hk, rfl, HT, hE, hB⟩ := hrel
      have HEx := Lib.hid hE
      have HBx := Lib.hid hB
      clear hE hB
      by_cases hlt : k < m.qs.length
      · obtain ⟨b, o, c1, e1, _, _, _⟩ := H.out.qs.opens (by omega)
        injection e1 with e1 e3 e4
        subst e1
        clear e3 e4
        have hx := List.getElem?_eq_getElem hlt
        obtain ⟨vn, hn, d0', d1', d2'⟩ := qs_cells H.out.qs hx
        obtain ⟨An, kn, rfl, _, _⟩ := hn.form
        have hmem := List.mem_of_getElem? hx
        have HNx := Lib.hid hn
        have HIx := Lib.hid (HI.out.qs _ hmem)
        have HXx := Lib.hid hx
        have hxc := HI.out.qs _ hmem
        have g0 := HEx.out.cell d0'
        have g1 := HEx.out.cell d1'
        have g2 := HEx.out.cell d2'
        clear d0' d1' d2' hn hmem hx
        generalize m.qs[k] = x at *
        have HEB := Lib.hid ((Ext.refl wr).alloc (.cells #[.slice An x.name.length kn, .int .i64 x.type, .int .i64 x.cls] 46))
        have HEb := Lib.hid (HEx.out.trans HEB.out)
        have HQb := Lib.hid (heap_alloc_new wr (.cells #[.slice An x.name.length kn, .int .i64 x.type, .int .i64 x.cls] 46))
        obtain ⟨c0, c1, c2, c3, c4, c5, c6, c7, c8, c9, c10, c11, c12, c13⟩ := HBx.out.cells
        go_wp2_with fail
        clear c0 c1 c2 c3 c4 c5 c6 c7 c8 c9 c10 c11 c12 c13
        clear g0 g1 g2
        refine (ref_Sound _ x.name _ (HNx.out.ext HEb.out)).mono ?_
        rintro e w5 ⟨rfl, hw5⟩
        obtain ⟨wb, hwb⟩ : ∃ wb, wr.alloc (.cells #[.slice An x.name.length kn, .int .i64 x.type, .int .i64 x.cls] 46) = wb := ⟨_, rfl⟩
        rw [hwb] at hw5 HEb HQb HEB
        clear hwb
        subst hw5
        generalize wr.heap.size = bq at *
        have x1 := row_cells HQb.out 1
        have x2 := row_cells HQb.out 2
        simp at x1 x2
        have HBb := Lib.hid (HBx.out.ext HEB.out)
        cases hns : nsound x.name with
        | false =>
          have X := Lib.hid (show m.qs.all qsound = false by rw [List.all_eq_false]; exact ⟨x, List.mem_of_getElem? HXx.out, by unfold qsound; simp [hns]⟩)
          clear hns
          go_wp2
          go_ret
          exact ⟨ret_eq (bool_eq (ms_qs X.out).symm), HEb.out⟩
        | true =>
          by_cases h1 : 1 ≤ x.type
          · by_cases h2 : x.type ≤ 65535
            · have j1 : decide (x.type < 1) = false := by rw [decide_eq_false_iff_not]; omega
              have j2 : decide (65535 < x.type) = false := by rw [decide_eq_false_iff_not]; omega
              have HFt := Lib.hid (fits_type ⟨h1, h2⟩)
              have HNs := Lib.hid hns
              have H1 := Lib.hid h1
              clear hns h1 h2
              go_wp2_with fail
              clear x1 x2
              refine (ref_Fits x.cls 2 _ HIx.out).mono ?_
              rintro e w6 ⟨rfl, rfl⟩
              cases hc : fits x.cls 2 with
              | false =>
                have X := Lib.hid (show m.qs.all qsound = false by rw [List.all_eq_false]; exact ⟨x, List.mem_of_getElem? HXx.out, by unfold qsound; simp [hc]⟩)
                clear hc
                go_wp2
                go_ret
                exact ⟨ret_eq (bool_eq (ms_qs X.out).symm), HEb.out⟩
              | true =>
                have X := Lib.hid (show (m.qs.take (k + 1)).all qsound = true by rw [List.take_add_one, HXx.out, List.all_append, HT.out]; simp [qsound, hc, HNs.out, H1.out, HFt.out])
                clear hc
                go_wp2
                go_roundw
                case rel => exact ⟨k + 1, by omega, by go_num, X, HEb.out, HBb.out⟩
                case measure => simp [intOf]; omega
            · have j1 : decide (x.type < 1) = false := by rw [decide_eq_false_iff_not]; omega
              have j2 : decide (65535 < x.type) = true := by rw [decide_eq_true_eq]; omega
              have X := Lib.hid (show m.qs.all qsound = false by rw [List.all_eq_false]; exact ⟨x, List.mem_of_getElem? HXx.out, fun h => by have := (qsound_parts h).2.2.1; rw [fits_iff] at this; simp at this; omega⟩)
              clear hns h1 h2
              go_wp2
              go_ret
              exact ⟨ret_eq (bool_eq (ms_qs X.out).symm), HEb.out⟩
          · have j1 : decide (x.type < 1) = true := by rw [decide_eq_true_eq]; omega
            have X := Lib.hid (show m.qs.all qsound = false by rw [List.all_eq_false]; exact ⟨x, List.mem_of_getElem? HXx.out, fun h => by have := (qsound_parts h).2.1; omega⟩)
            clear hns h1
            go_wp2
            go_ret
            exact ⟨ret_eq (bool_eq (ms_qs X.out).symm), HEb.out⟩
      · rw [List.take_of_length_le (by omega)] at HT
        have HC1 := Lib.hid (fun w => ref_Fits m.id 2 w HI.out.id)
        have HC6 := Lib.hid (fun w => ref_Fits m.size 2 w HI.out.size)
        obtain ⟨wz, rfl⟩ : ∃ wz : World, wz = wr := ⟨_, rfl⟩
        obtain ⟨c0, c1, c2, c3, c4, c5, c6, c7, c8, c9, c10, c11, c12, c13⟩ := HBx.out.cells
        go_wp2_with fail
        refine (HC1.out _).mono ?_
        rintro e w' ⟨rfl, rfl⟩
        cases hid : fits m.id 2 with
        | false =>
          have X1 := Lib.hid hid
          clear hid
          go_wp2
          go_ret
          exact ⟨ret_eq (bool_eq (ms_id X1.out).symm), HEx.out⟩
        | true =>
          have X1 := Lib.hid hid
          clear hid
          by_cases ho : 0 ≤ m.op
          · by_cases ho2 : m.op < 16
            · have X2 := Lib.hid (And.intro ho ho2)
              have j15 : decide (m.op ≤ 15) = true := by rw [decide_eq_true_eq]; omega
              by_cases hr : 0 ≤ m.rc
              · by_cases hr2 : m.rc < 16
                · have X3 := Lib.hid (And.intro hr hr2)
                  have k15 : decide (m.rc ≤ 15) = true := by rw [decide_eq_true_eq]; omega
                  go_wp2_with fail
                  refine (HC6.out _).mono ?_
                  rintro e w' ⟨rfl, rfl⟩
                  cases hsz : fits m.size 2 with
                  | false =>
                    have X4 := Lib.hid hsz
                    clear hsz
                    go_wp2
                    go_ret
                    exact ⟨ret_eq (bool_eq (ms_size X4.out).symm), HEx.out⟩
                  | true =>
                    have X4 := Lib.hid hsz
                    clear hsz
                    by_cases hed : m.edns = true ∨ m.size = 0
                    · have X5 := Lib.hid hed
                      have HD : (m.edns = true ∧ True) ∨ (m.edns = false ∧ (m.size == 0) = true) := by
                        cases he : m.edns with
                        | true => exact .inl ⟨rfl, trivial⟩
                        | false => exact .inr ⟨rfl, by rcases hed with h | h; rw [he] at h; cases h; rw [h]; rfl⟩
                      clear hed
                      clear c0 c1 c2 c3 c4 c5 c6 c7 c8 c9 c10 c11 c12 c13
                      rcases HD with ⟨he, _⟩ | ⟨he, hz⟩
                      all_goals
                        obtain ⟨c0, c1, c2, c3, c4, c5, c6, c7, c8, c9, c10, c11, c12, c13⟩ := HBx.out.cells
                        go_wp2_with fail
                        clear c0 c1 c2 c3 c4 c5 c6 c7 c8 c9 c10 c11 c12 c13
                        refine (ref_records m.ans _ _ (H.out.ans.ext HEx.out) HI.out.ans).mono ?_
                        rintro e w11 ⟨rfl, hE⟩
                        have HEw11 := Lib.hid (HEx.out.trans hE)
                        have HBw11 := Lib.hid (HBx.out.ext hE)
                        clear hE
                        cases hx1 : m.ans.all rmsound with
                        | false =>
                          have X := Lib.hid hx1
                          clear hx1
                          go_wp2
                          go_ret
                          exact ⟨ret_eq (bool_eq (ms_ans X.out).symm), HEw11.out⟩
                        | true =>
                          have Y1 := Lib.hid hx1
                          clear hx1
                          obtain ⟨c0, c1, c2, c3, c4, c5, c6, c7, c8, c9, c10, c11, c12, c13⟩ := HBw11.out.cells
                          go_wp2_with fail
                          clear c0 c1 c2 c3 c4 c5 c6 c7 c8 c9 c10 c11 c12 c13
                          refine (ref_records m.auth _ w11 (H.out.auth.ext HEw11.out) HI.out.auth).mono ?_
                          rintro e w12 ⟨rfl, hE⟩
                          have HEw12 := Lib.hid (HEw11.out.trans hE)
                          have HBw12 := Lib.hid (HBw11.out.ext hE)
                          clear hE
                          cases hx2 : m.auth.all rmsound with
                          | false =>
                            have X := Lib.hid hx2
                            clear hx2
                            go_wp2
                            go_ret
                            exact ⟨ret_eq (bool_eq (ms_auth X.out).symm), HEw12.out⟩
                          | true =>
                            have Y2 := Lib.hid hx2
                            clear hx2
                            obtain ⟨c0, c1, c2, c3, c4, c5, c6, c7, c8, c9, c10, c11, c12, c13⟩ := HBw12.out.cells
                            go_wp2_with fail
                            clear c0 c1 c2 c3 c4 c5 c6 c7 c8 c9 c10 c11 c12 c13
                            refine (ref_records m.extra _ w12 (H.out.extra.ext HEw12.out) HI.out.extra).mono ?_
                            rintro e w13 ⟨rfl, hE⟩
                            have HEw13 := Lib.hid (HEw12.out.trans hE)
                            have HBw13 := Lib.hid (HBw12.out.ext hE)
                            clear hE
                            cases hx3 : m.extra.all rmsound with
                            | false =>
                              have X := Lib.hid hx3
                              clear hx3
                              go_wp2
                              go_ret
                              exact ⟨ret_eq (bool_eq (ms_extra X.out).symm), HEw13.out⟩
                            | true =>
                              have Y3 := Lib.hid hx3
                              clear hx3
                              go_wp2
                              go_ret
                              exact ⟨ret_eq (bool_eq (ms_true ⟨HS3.out, Y1.out, Y2.out, Y3.out⟩ X1.out X2.out X3.out X4.out X5.out HT.out).symm), HEw13.out⟩
                    · have X5 := Lib.hid hed
                      have he : m.edns = false := by cases he : m.edns with | true => exact absurd (.inl he) hed | false => rfl
                      have hz : (m.size == 0) = false := by rw [beq_eq_false_iff_ne]; exact fun h => hed (.inr h)
                      clear hed
                      go_wp2
                      go_ret
                      exact ⟨ret_eq (bool_eq (ms_edns X5.out).symm), HEx.out⟩
                · have X3 := Lib.hid hr2
                  have j : decide (m.rc ≤ 15) = false := by rw [decide_eq_false_iff_not]; omega
                  clear hr2
                  go_wp2
                  go_ret
                  exact ⟨ret_eq (bool_eq (ms_rc (by have := X3.out; omega)).symm), HEx.out⟩
              · have X3 := Lib.hid hr
                have j : decide (0 ≤ m.rc) = false := decide_eq_false hr
                clear hr
                go_wp2
                go_ret
                exact ⟨ret_eq (bool_eq (ms_rc (by have := X3.out; omega)).symm), HEx.out⟩
            · have X3 := Lib.hid ho2
              have j : decide (m.op ≤ 15) = false := by rw [decide_eq_false_iff_not]; omega
              clear ho2
              go_wp2
              go_ret
              exact ⟨ret_eq (bool_eq (ms_op (by have := X3.out; omega)).symm), HEx.out⟩
          · have X3 := Lib.hid ho
            have j : decide (0 ≤ m.op) = false := decide_eq_false ho
            clear ho
            go_wp2
            go_ret
            exact ⟨ret_eq (bool_eq (ms_op (by have := X3.out; omega)).symm), HEx.out⟩
  · have HF := Lib.hid (ms_many hall)
    have hn : 512 < m.qs.length + m.ans.length + m.auth.length + m.extra.length := by unfold Msg.all at hall; omega
    clear hall
    go_enter Try.func38, Try.ntmps38
    by_cases h1 : 512 < m.qs.length
    · have j1 : decide (512 < (m.qs.length : Int)) = true := by rw [decide_eq_true_eq]; omega
      go_wp2
      go_ret
      exact ⟨ret_eq (bool_eq HF.out.symm), HE1.out⟩
    have j1 : decide (512 < (m.qs.length : Int)) = false := by rw [decide_eq_false_iff_not]; omega
    by_cases h2 : 512 < m.ans.length
    · have j2 : decide (512 < (m.ans.length : Int)) = true := by rw [decide_eq_true_eq]; omega
      go_wp2
      go_ret
      exact ⟨ret_eq (bool_eq HF.out.symm), HE1.out⟩
    have j2 : decide (512 < (m.ans.length : Int)) = false := by rw [decide_eq_false_iff_not]; omega
    by_cases h3 : 512 < m.auth.length
    · have j3 : decide (512 < (m.auth.length : Int)) = true := by rw [decide_eq_true_eq]; omega
      go_wp2
      go_ret
      exact ⟨ret_eq (bool_eq HF.out.symm), HE1.out⟩
    have j3 : decide (512 < (m.auth.length : Int)) = false := by rw [decide_eq_false_iff_not]; omega
    by_cases h4 : 512 < m.extra.length
    · have j4 : decide (512 < (m.extra.length : Int)) = true := by rw [decide_eq_true_eq]; omega
      go_wp2
      go_ret
      exact ⟨ret_eq (bool_eq HF.out.symm), HE1.out⟩
    have j4 : decide (512 < (m.extra.length : Int)) = false := by rw [decide_eq_false_iff_not]; omega
    have j5 : decide (512 < (m.qs.length : Int) + m.ans.length + m.auth.length + m.extra.length) = true := by rw [decide_eq_true_eq]; omega
    go_wp2
    go_ret
    exact ⟨ret_eq (bool_eq HF.out.symm), HE1.out⟩
end Go.Proofs.Ytfnelkcllaaebaa
end
section
/- Contract of ref03.Raw of a sound message. No condition but that the message stands in memory, and that its lists are not too long. -/
open Go.RowKit
set_option linter.unusedVariables false
set_option linter.unusedSimpArgs false
namespace Go.Proofs.Ytfnelkcllaaebaa
/-- The document's writer made behind a world. -/
structure MInv (w0 : World) (q : Nat) (u t : Value) (b : List UInt8) (f : Rests) (N : Nat) (W : World) : Prop where
  mr : MrW W q u t b f N
  ext : Ext w0 W
  smr : ∀ j, Smr q u t b j → w0.heap.size ≤ j
theorem MInv.to_ext {w0 : World} {q : Nat} {u t : Value} {b : List UInt8} {f : Rests} {N : Nat} {W W' : World} (h : MInv w0 q u t b f N W) (hE : Ext W W') : MInv w0 q u t b f N W' := ⟨h.mr.ext hE, h.ext.trans hE, h.smr⟩
theorem MInv.mono {w0 : World} {q : Nat} {u t : Value} {b : List UInt8} {f : Rests} {N N' : Nat} {W : World} (h : MInv w0 q u t b f N W) (hN : N ≤ N') : MInv w0 q u t b f N' W := ⟨h.mr.mono hN, h.ext, h.smr⟩
theorem MInv.keep {w0 : World} {q : Nat} {u t : Value} {b b' : List UInt8} {f f' : Rests} {N N' : Nat} {W W' : World} {s : Nat} {o : Obj} (h : MInv w0 q u t b f N W) (hw : Wrt q u t b b' f' N' W W') (hs : W.heap[s]? = some o) (hn : ¬ Smr q u t b s) : ∃ u' t', MInv w0 q u' t' b' f' N' W' ∧ W'.heap[s]? = some o ∧ ¬ Smr q u' t' b' s := by
  have hlt := (Array.getElem?_eq_some_iff.1 hs).1
  obtain ⟨u', t', h1, hst⟩ := hw
  refine ⟨u', t', ⟨h1, ext_kp h.ext hst.1 h.smr, fun j hj => ?_⟩, hst.1.heap hs hn, fun hs2 => ?_⟩
  · rcases hst.2 j hj with h2 | h2
    · exact h.smr j h2
    · exact Nat.le_trans h.ext.size h2
  · rcases hst.2 s hs2 with h2 | h2
    · exact hn h2
    · omega
theorem MInv.step {w0 : World} {q : Nat} {u t : Value} {b b' : List UInt8} {f f' : Rests} {N N' : Nat} {W W' : World} (h : MInv w0 q u t b f N W) (hw : Wrt q u t b b' f' N' W W') : ∃ u' t', MInv w0 q u' t' b' f' N' W' := by
  obtain ⟨u', t', h1, hst⟩ := hw
  refine ⟨u', t', h1, ext_kp h.ext hst.1 h.smr, fun j hj => ?_⟩
  rcases hst.2 j hj with h2 | h2
  · exact h.smr j h2
  · exact Nat.le_trans h.ext.size h2
theorem MInv.keepM {w0 wx : World} {q : Nat} {u t v : Value} {b b' : List UInt8} {f f' : Rests} {N N' bs : Nat} {W W' : World} {s : Nat} {o : Obj} {l : List Rec} (h : MInv w0 q u t b f N W) (hw : Wrt q u t b b' f' N' W W') (hs : W.heap[s]? = some o) (hn : ¬ Smr q u t b s)
    (hA : OwnM (fun _ => RecR wx) 49 9 W bs v l) (hAn : ∀ k, v.ownBlock = some k → ¬ Smr q u t b k) : ∃ u' t', MInv w0 q u' t' b' f' N' W' ∧ W'.heap[s]? = some o ∧ ¬ Smr q u' t' b' s ∧ OwnM (fun _ => RecR wx) 49 9 W' bs v l ∧ ∀ k, v.ownBlock = some k → ¬ Smr q u' t' b' k := by
  have hlt := (Array.getElem?_eq_some_iff.1 hs).1
  obtain ⟨u', t', h1, hst⟩ := hw
  refine ⟨u', t', ⟨h1, ext_kp h.ext hst.1 h.smr, fun j hj => ?_⟩, hst.1.heap hs hn, fun hs2 => ?_, hA.kpS (fun _ _ h => h) hst.1 hAn, fun k hk hs2 => ?_⟩
  · rcases hst.2 j hj with h2 | h2
    · exact h.smr j h2
    · exact Nat.le_trans h.ext.size h2
  · rcases hst.2 s hs2 with h2 | h2
    · exact hn h2
    · omega
  · rcases hst.2 k hs2 with h2 | h2
    · exact hAn k hk h2
    · obtain ⟨cur, hc⟩ := hA.type k hk
      have := (Array.getElem?_eq_some_iff.1 hc).1
      omega
/-- An element's nine cells, read in an elder world. -/
theorem recs_cells_old {w0 w : World} {b o n c : Nat} {l : List Rec} {k : Nat} {x : Rec} (h : Sl (fun _ => RecR w0) 9 w (.slice (some ⟨b, o, none⟩) n c) l) (hx : l[k]? = some x) :
    ∃ vn v0 v1 v2 v3 v4, NameV w0 vn x.name ∧ DR w0 v0 v1 v2 v3 v4 x.data ∧ w.cell? ⟨b, o + k * 9, none⟩ = some vn ∧ w.cell? ⟨b, o + k * 9 + 1, none⟩ = some (.int .i64 x.type) ∧ w.cell? ⟨b, o + k * 9 + 2, none⟩ = some (.int .i64 x.cls) ∧ w.cell? ⟨b, o + k * 9 + 3, none⟩ = some (.int .i64 x.ttl) ∧
      w.cell? ⟨b, o + k * 9 + 4, none⟩ = some v0 ∧ w.cell? ⟨b, o + k * 9 + 5, none⟩ = some v1 ∧ w.cell? ⟨b, o + k * 9 + 6, none⟩ = some v2 ∧ w.cell? ⟨b, o + k * 9 + 7, none⟩ = some v3 ∧ w.cell? ⟨b, o + k * 9 + 8, none⟩ = some v4 := by
  have hk : 0 < l.length := by have := (List.getElem?_eq_some_iff.1 hx).1; omega
  obtain ⟨A, c', e, _, _, h3⟩ := h
  obtain ⟨b', o', rfl, hc⟩ := h3 hk
  injection e with e _ _
  injection e with e
  injection e with e1 e2 _
  subst e1 e2
  obtain ⟨cs, _, ⟨vn, v0, v1, v2, v3, v4, rfl, hn, hd⟩, hcell⟩ := hc k x hx
  exact ⟨vn, v0, v1, v2, v3, v4, hn, hd, by simpa using hcell 0 vn rfl, by simpa [Nat.add_assoc] using hcell 1 _ rfl, by simpa [Nat.add_assoc] using hcell 2 _ rfl, by simpa [Nat.add_assoc] using hcell 3 _ rfl,
    by simpa [Nat.add_assoc] using hcell 4 v0 rfl, by simpa [Nat.add_assoc] using hcell 5 v1 rfl, by simpa [Nat.add_assoc] using hcell 6 v2 rfl, by simpa [Nat.add_assoc] using hcell 7 v3 rfl, by simpa [Nat.add_assoc] using hcell 8 v4 rfl⟩
/-- A literal's bytes. -/
theorem blk_lit {w : World} {g : Nat} (l : List UInt8) (h : w.heap[g]? = some (.cells (l.map vByte).toArray 5 (0, 0))) (hl : l.length ≤ maxI := by decide) : BytesV w (.slice (some ⟨g, 0, none⟩) l.length l.length) l :=
  (show Blk vByte 5 w g l from ⟨_, _, _, h, by omega, by intro j x hx; simp [hx]⟩).fl _ _ rfl (Nat.le_refl _) hl
/-- Ahead of a writing, and behind it; nothing else turns. -/
def EWr (q : Nat) (u t : Value) (b b' : List UInt8) (f' : Rests) (N' : Nat) : Bool → World → Bool → World → Prop
  | false, x, false, y => x = y
  | true, x, true, y => x = y
  | false, x, true, y => Wrt q u t b b' f' N' x y
  | true, _, false, _ => False
theorem EWr_same {q : Nat} {u t : Value} {b b' : List UInt8} {f' : Rests} {N' : Nat} {p : Bool} {w : World} : EWr q u t b b' f' N' p w p w := by cases p <;> exact rfl
theorem EWr_or {q : Nat} {u t : Value} {b b' : List UInt8} {f' : Rests} {N' : Nat} {p d : Bool} {w : World} (hd : d = false) : EWr q u t b b' f' N' p w (p || d) w := by subst hd; rw [Bool.or_false]; exact EWr_same
theorem EWr_trans (q : Nat) (u t : Value) (b b' : List UInt8) (f' : Rests) (N' : Nat) : ∀ p x r y s z, EWr q u t b b' f' N' p x r y → EWr q u t b b' f' N' r y s z → EWr q u t b b' f' N' p x s z := by
  intro p x r y s z h k
  cases p <;> cases r <;> cases s <;> simp only [EWr] at h k ⊢
  · exact h.trans k
  · rw [h]; exact k
  · rw [← k]; exact h
  · exact h.trans k
def rfPs (q g : Nat) (resp aa tc rd ra : Bool) (x1 x2 x3 x4 x5 op rc : Int) (i : Nat) (vs : Nat → Value) (W : World) : Prop :=
  match i with
  | 0 => vs 0 = .pointer (some ⟨q, 0, none⟩)
  | 1 => vs 1 = .pointer (some ⟨g, 1, none⟩)
  | 2 => vs 2 = .bool resp
  | 3 => vs 3 = .int .i64 x1
  | 4 => vs 4 = .pointer (some ⟨g, 2, none⟩)
  | 5 => vs 5 = .int .i64 op
  | 6 => vs 6 = .int .i64 (op * 2048)
  | 7 => vs 7 = .int .i64 (x1 + op * 2048)
  | 8 => vs 8 = .pointer (some ⟨g, 3, none⟩)
  | 9 => vs 9 = .bool aa
  | 10 => vs 10 = .int .i64 x2
  | 11 => vs 11 = .int .i64 (x1 + op * 2048 + x2)
  | 12 => vs 12 = .pointer (some ⟨g, 4, none⟩)
  | 13 => vs 13 = .bool tc
  | 14 => vs 14 = .int .i64 x3
  | 15 => vs 15 = .int .i64 (x1 + op * 2048 + x2 + x3)
  | 16 => vs 16 = .pointer (some ⟨g, 5, none⟩)
  | 17 => vs 17 = .bool rd
  | 18 => vs 18 = .int .i64 x4
  | 19 => vs 19 = .int .i64 (x1 + op * 2048 + x2 + x3 + x4)
  | 20 => vs 20 = .pointer (some ⟨g, 6, none⟩)
  | 21 => vs 21 = .bool ra
  | 22 => vs 22 = .int .i64 x5
  | 23 => vs 23 = .int .i64 (x1 + op * 2048 + x2 + x3 + x4 + x5)
  | 24 => vs 24 = .pointer (some ⟨g, 7, none⟩)
  | 25 => vs 25 = .int .i64 rc
  | 26 => vs 26 = .int .i64 (x1 + op * 2048 + x2 + x3 + x4 + x5 + rc)
  | _ => True
theorem rfPs_mono (q g : Nat) (resp aa tc rd ra : Bool) (x1 x2 x3 x4 x5 op rc : Int) : ∀ i (vs : Nat → Value) (p : Bool) (w : World) (r : Bool) (w' : World) (E : Prop), rfPs q g resp aa tc rd ra x1 x2 x3 x4 x5 op rc i vs w → E → rfPs q g resp aa tc rd ra x1 x2 x3 x4 x5 op rc i vs w' := by
  intro i vs p w r w' E h _
  unfold rfPs at *
  exact h
theorem rfPs_same (q g : Nat) (resp aa tc rd ra : Bool) (x1 x2 x3 x4 x5 op rc : Int) : ∀ i (vs vs' : Nat → Value) W, (∀ j, j = i ∨ j ∈ (fun _ : Nat => ([] : List Nat)) i → vs j = vs' j) → rfPs q g resp aa tc rd ra x1 x2 x3 x4 x5 op rc i vs W → rfPs q g resp aa tc rd ra x1 x2 x3 x4 x5 op rc i vs' W := by
  intro i vs vs' W hs h
  have e := hs i (.inl rfl)
  unfold rfPs at *
  split at h <;> first | (rw [← e]; exact h) | exact h
set_option maxRecDepth 100000 in
set_option maxHeartbeats 4000000 in
/-- ref03.Raw of a sound message. -/
theorem ref_Raw (m : Msg) (vq va vu ve : Value) (w : World) (h : MsgC w vq va vu ve m) (hs : MSound m) :
    Calls Try.prog 98 #[.agg #[.int .i64 m.id, .bool m.resp, .int .i64 m.op, .bool m.aa, .bool m.tc, .bool m.rd, .bool m.ra, .int .i64 m.rc, vq, va, vu, ve, .bool m.edns, .int .i64 m.size]] w fun e w' => ∃ v, e = .returned v ∧ BytesV w' v (mraw m) ∧ Ext w w' := by
  have H := Lib.hid h
  have HS := Lib.hid hs
  have hall := hs.all
  unfold Msg.all at hall
  have HHd := Lib.hid (headB_len hs)
  have HIdb := Lib.hid (fits_bound _ _ hs.id)
  have HSz := Lib.hid (fits_bound _ _ hs.size)
  clear h
  obtain ⟨Aq, kq, rfl, _, _⟩ := H.out.qs.form
  obtain ⟨Aa, ka, rfl, _, _⟩ := H.out.ans.form
  obtain ⟨Au, ku, rfl, _, _⟩ := H.out.auth.form
  obtain ⟨Ae, ke, rfl, _, _⟩ := H.out.extra.form
  have HE1 := Lib.hid ((Ext.refl w).alloc (.cells #[.int .i64 m.id, .bool m.resp, .int .i64 m.op, .bool m.aa, .bool m.tc, .bool m.rd, .bool m.ra, .int .i64 m.rc, .slice Aq m.qs.length kq, .slice Aa m.ans.length ka, .slice Au m.auth.length ku, .slice Ae m.extra.length ke, .bool m.edns, .int .i64 m.size] 39))
  have HB1 : Hid (BoxM (w.alloc (.cells #[.int .i64 m.id, .bool m.resp, .int .i64 m.op, .bool m.aa, .bool m.tc, .bool m.rd, .bool m.ra, .int .i64 m.rc, .slice Aq m.qs.length kq, .slice Aa m.ans.length ka, .slice Au m.auth.length ku, .slice Ae m.extra.length ke, .bool m.edns, .int .i64 m.size] 39)) w.heap.size m _ _ _ _) := Lib.hid (heap_alloc_new w _)
  have HN1 := Lib.hid (show (w.alloc (.cells #[.int .i64 m.id, .bool m.resp, .int .i64 m.op, .bool m.aa, .bool m.tc, .bool m.rd, .bool m.ra, .int .i64 m.rc, .slice Aq m.qs.length kq, .slice Aa m.ans.length ka, .slice Au m.auth.length ku, .slice Ae m.extra.length ke, .bool m.edns, .int .i64 m.size] 39)).heap.size = w.heap.size + 1 by simp)
  obtain ⟨ho0, ho1⟩ := hs.op
  obtain ⟨hr0, hr1⟩ := hs.rc
  have r1 := bit01' m.resp 32768
  have r2 := bit01' m.aa 1024
  have r3 := bit01' m.tc 512
  have r4 := bit01' m.rd 256
  have r5 := bit01' m.ra 128
  have hC1 := fun W => ref_flag m.resp 32768 W
  have hC2 := fun W => ref_flag m.aa 1024 W
  have hC3 := fun W => ref_flag m.tc 512 W
  have hC4 := fun W => ref_flag m.rd 256 W
  have hC5 := fun W => ref_flag m.ra 128 W
  have hF : flagsN m = bitN m.resp 32768 + m.op * 2048 + bitN m.aa 1024 + bitN m.tc 512 + bitN m.rd 256 + bitN m.ra 128 + m.rc := rfl
  clear hs
  generalize bitN m.resp 32768 = x1 at *
  generalize bitN m.aa 1024 = x2 at *
  generalize bitN m.tc 512 = x3 at *
  generalize bitN m.rd 256 = x4 at *
  generalize bitN m.ra 128 = x5 at *
  have y1 : 0 ≤ x1 := by omega
  have z1 : x1 ≤ 32768 := by omega
  have y2 : 0 ≤ x2 := by omega
  have z2 : x2 ≤ 1024 := by omega
  have y3 : 0 ≤ x3 := by omega
  have z3 : x3 ≤ 512 := by omega
  have y4 : 0 ≤ x4 := by omega
  have z4 : x4 ≤ 256 := by omega
  have y5 : 0 ≤ x5 := by omega
  have z5 : x5 ≤ 128 := by omega
  have HC1 := Lib.hid hC1
  have HC2 := Lib.hid hC2
  have HC3 := Lib.hid hC3
  have HC4 := Lib.hid hC4
  have HC5 := Lib.hid hC5
  have HF := Lib.hid hF
  have HL0 : Hid ((putN [] m.id 2).length ≤ 2) := Lib.hid (putN_le _ (by omega))
  have HL1 : Hid ((putN [] (x1 + m.op * 2048 + x2 + x3 + x4 + x5 + m.rc) 2).length ≤ 2) := Lib.hid (putN_le _ (by omega))
  have HL2 : Hid ((putN [] (m.qs.length : Int) 2).length ≤ 2) := Lib.hid (putN_le _ (by omega))
  have HL3 : Hid ((putN [] (m.ans.length : Int) 2).length ≤ 2) := Lib.hid (putN_le _ (by omega))
  have HL4 : Hid ((putN [] (m.auth.length : Int) 2).length ≤ 2) := Lib.hid (putN_le _ (by omega))
  clear r1 r2 r3 r4 r5 hC1 hC2 hC3 hC4 hC5 hF
  go_enter Try.func98, Try.ntmps98
  go_wp2_with fail
  have hI0 : MInv (w.alloc (.cells #[.int .i64 m.id, .bool m.resp, .int .i64 m.op, .bool m.aa, .bool m.tc, .bool m.rd, .bool m.ra, .int .i64 m.rc, .slice Aq m.qs.length kq, .slice Aa m.ans.length ka, .slice Au m.auth.length ku, .slice Ae m.extra.length ke, .bool m.edns, .int .i64 m.size] 39)) (w.heap.size + 1) (.slice none 0 0) (.slice none 0 0) [] (fun _ => none) 0 ((w.alloc (.cells #[.int .i64 m.id, .bool m.resp, .int .i64 m.op, .bool m.aa, .bool m.tc, .bool m.rd, .bool m.ra, .int .i64 m.rc, .slice Aq m.qs.length kq, .slice Aa m.ans.length ka, .slice Au m.auth.length ku, .slice Ae m.extra.length ke, .bool m.edns, .int .i64 m.size] 39)).alloc (.cells #[.slice none 0 0, .slice none 0 0] 76)) :=
    ⟨mr_new (alloc_second w _ _), (Ext.refl _).alloc _, by rintro j (rfl | hj | hj); rw [HN1.out]; exact Nat.le_refl _; exact absurd rfl hj.1; simp [Value.ownBlock] at hj⟩
  have HI := Lib.hid hI0
  have HBx : Hid (BoxM ((w.alloc (.cells #[.int .i64 m.id, .bool m.resp, .int .i64 m.op, .bool m.aa, .bool m.tc, .bool m.rd, .bool m.ra, .int .i64 m.rc, .slice Aq m.qs.length kq, .slice Aa m.ans.length ka, .slice Au m.auth.length ku, .slice Ae m.extra.length ke, .bool m.edns, .int .i64 m.size] 39)).alloc (.cells #[.slice none 0 0, .slice none 0 0] 76)) w.heap.size m (.slice Aq m.qs.length kq) (.slice Aa m.ans.length ka) (.slice Au m.auth.length ku) (.slice Ae m.extra.length ke)) := Lib.hid (HB1.out.ext ((Ext.refl _).alloc _))
  have HGn : Hid (¬ Smr (w.heap.size + 1) (.slice none 0 0) (.slice none 0 0) [] w.heap.size) := Lib.hid (by rintro (h | h | h); omega; exact absurd rfl h.1; simp [Value.ownBlock] at h)
  clear hI0
  generalize (w.alloc (.cells #[.int .i64 m.id, .bool m.resp, .int .i64 m.op, .bool m.aa, .bool m.tc, .bool m.rd, .bool m.ra, .int .i64 m.rc, .slice Aq m.qs.length kq, .slice Aa m.ans.length ka, .slice Au m.auth.length ku, .slice Ae m.extra.length ke, .bool m.edns, .int .i64 m.size] 39)).alloc (.cells #[.slice none 0 0, .slice none 0 0] 76) = w2 at *
  generalize w.alloc (.cells #[.int .i64 m.id, .bool m.resp, .int .i64 m.op, .bool m.aa, .bool m.tc, .bool m.rd, .bool m.ra, .int .i64 m.rc, .slice Aq m.qs.length kq, .slice Aa m.ans.length ka, .slice Au m.auth.length ku, .slice Ae m.extra.length ke, .bool m.edns, .int .i64 m.size] 39) = w1 at *
  generalize w.heap.size + 1 = q at *
  generalize w.heap.size = g at *
  go_wp2_with fail
  refine (mx_Num q _ _ m.id 2 [] _ _ _ HI.out.mr (by simp) (by have := HIdb.out; omega)).mono ?_
  rintro e wf ⟨rfl, hw⟩
  obtain ⟨uf, tf, hI, hb, hgn⟩ := HI.out.keep hw HBx.out HGn.out
  clear HI HBx HGn hw
  have HI := Lib.hid hI
  have HBx : Hid (BoxM wf g m (.slice Aq m.qs.length kq) (.slice Aa m.ans.length ka) (.slice Au m.auth.length ku) (.slice Ae m.extra.length ke)) := Lib.hid hb
  have HGn := Lib.hid hgn
  clear hI hb hgn
  go_wp2
  obtain ⟨wd, hwd⟩ : ∃ wd, wf.drew = wd := ⟨_, rfl⟩
  have hEd := (Ext.refl wf).drew
  rw [hwd] at hEd
  have HI' := Lib.hid (HI.out.to_ext hEd)
  have HBx' := Lib.hid (HBx.out.ext hEd)
  clear HI HBx hEd
  have HI := HI'
  have HBx := HBx'
  clear HI' HBx'
  have HNum := Lib.hid (mx_Num q uf tf (x1 + m.op * 2048 + x2 + x3 + x4 + x5 + m.rc) 2 _ _ _ wd HI.out.mr (by simp only [List.length_append, List.length_nil]; have := HL0.out; omega) (by omega))
  have HBw : Hid (∀ bb W, EWr q uf tf ([] ++ putN [] m.id 2) ([] ++ putN [] m.id 2 ++ putN [] (x1 + m.op * 2048 + x2 + x3 + x4 + x5 + m.rc) 2) (fun _ => none) 0 false wd bb W → BoxM W g m (.slice Aq m.qs.length kq) (.slice Aa m.ans.length ka) (.slice Au m.auth.length ku) (.slice Ae m.extra.length ke)) := Lib.hid (fun bb W h => by
    cases bb
    · have e : wd = W := h
      rw [← e]; exact HBx.out
    · obtain ⟨_, _, _, hb, _⟩ := HI.out.keep h HBx.out HGn.out
      exact hb)
  refine wp_region_posts3 27 (fun _ => []) (E := EWr q uf tf ([] ++ putN [] m.id 2) ([] ++ putN [] m.id 2 ++ putN [] (x1 + m.op * 2048 + x2 + x3 + x4 + x5 + m.rc) 2) (fun _ => none) 0) (fun a => EWr_same) (EWr_trans _ _ _ _ _ _ _) 28 (rfPs q g m.resp m.aa m.tc m.rd m.ra x1 x2 x3 x4 x5 m.op m.rc) (fun _ _ => False) (by decide) (by decide) (fun i vs p w r w' _ h hE => rfPs_mono _ _ _ _ _ _ _ _ _ _ _ _ _ _ i vs p w r w' _ h hE) (rfPs_same _ _ _ _ _ _ _ _ _ _ _ _ _ _) (by kernel_rfl) (by kernel_rfl) (fun _ _ _ _ _ h => h.elim) ?_ ?_
  · simp (config := { maxSteps := 10000000 }) only [List.take, Obls3, fullA, Act.put, List.setIfInBounds_toArray, List.set_cons_zero, List.set_cons_succ, Nat.zero_add, Nat.reduceAdd]
    refine ⟨?_, ?_, ?_, ?_, ?_, ?_, ?_, ?_, ?_, ?_, ?_, ?_, ?_, ?_, ?_, ?_, ?_, ?_, ?_, ?_, ?_, ?_, ?_, ?_, ?_, ?_, ?_, ?_, trivial⟩
    all_goals intro vs W bb hE hb hd
    all_goals rw [hwd] at hE
    · clear hd
      go_wp2
      exact ⟨rfl, (by first | exact EWr_same | exact EWr_or (by decide)), rfl⟩
    · clear hd
      go_wp2
      exact ⟨rfl, (by first | exact EWr_same | exact EWr_or (by decide)), rfl⟩
    · have e1 : vs 1 = .pointer (some ⟨g, 1, none⟩) := hd 1 (.inl (by decide))
      clear hd
      rw [e1]
      obtain ⟨c0, c1, c2, c3, c4, c5, c6, c7, c8, c9, c10, c11, c12, c13⟩ := (HBw.out bb W hE).cells
      go_wp2
      exact ⟨rfl, (by first | exact EWr_same | exact EWr_or (by decide)), rfl⟩
    · have e2 : vs 2 = .bool m.resp := hd 2 (.inl (by decide))
      clear hd
      rw [e2]
      go_wp2_with fail
      refine (HC1.out W).mono ?_
      rintro e w6 ⟨rfl, rfl⟩
      go_wp2
      exact ⟨rfl, (by first | exact EWr_same | exact EWr_or (by decide)), rfl⟩
    · clear hd
      go_wp2
      exact ⟨rfl, (by first | exact EWr_same | exact EWr_or (by decide)), rfl⟩
    · have e4 : vs 4 = .pointer (some ⟨g, 2, none⟩) := hd 4 (.inl (by decide))
      clear hd
      rw [e4]
      obtain ⟨c0, c1, c2, c3, c4, c5, c6, c7, c8, c9, c10, c11, c12, c13⟩ := (HBw.out bb W hE).cells
      go_wp2
      exact ⟨rfl, (by first | exact EWr_same | exact EWr_or (by decide)), rfl⟩
    · have e5 : vs 5 = .int .i64 m.op := hd 5 (.inl (by decide))
      clear hd
      rw [e5]
      go_wp2
      exact ⟨rfl, (by first | exact EWr_same | exact EWr_or (by decide)), rfl⟩
    · have e3 : vs 3 = .int .i64 x1 := hd 3 (.inl (by decide))
      have e6 : vs 6 = .int .i64 (m.op * 2048) := hd 6 (.inl (by decide))
      clear hd
      rw [e3, e6]
      go_wp2
      exact ⟨rfl, (by first | exact EWr_same | exact EWr_or (by decide)), rfl⟩
    · clear hd
      go_wp2
      exact ⟨rfl, (by first | exact EWr_same | exact EWr_or (by decide)), rfl⟩
    · have e8 : vs 8 = .pointer (some ⟨g, 3, none⟩) := hd 8 (.inl (by decide))
      clear hd
      rw [e8]
      obtain ⟨c0, c1, c2, c3, c4, c5, c6, c7, c8, c9, c10, c11, c12, c13⟩ := (HBw.out bb W hE).cells
      go_wp2
      exact ⟨rfl, (by first | exact EWr_same | exact EWr_or (by decide)), rfl⟩
    · have e9 : vs 9 = .bool m.aa := hd 9 (.inl (by decide))
      clear hd
      rw [e9]
      go_wp2_with fail
      refine (HC2.out W).mono ?_
      rintro e w6 ⟨rfl, rfl⟩
      go_wp2
      exact ⟨rfl, (by first | exact EWr_same | exact EWr_or (by decide)), rfl⟩
    · have e7 : vs 7 = .int .i64 (x1 + m.op * 2048) := hd 7 (.inl (by decide))
      have e10 : vs 10 = .int .i64 x2 := hd 10 (.inl (by decide))
      clear hd
      rw [e7, e10]
      go_wp2
      exact ⟨rfl, (by first | exact EWr_same | exact EWr_or (by decide)), rfl⟩
    · clear hd
      go_wp2
      exact ⟨rfl, (by first | exact EWr_same | exact EWr_or (by decide)), rfl⟩
    · have e12 : vs 12 = .pointer (some ⟨g, 4, none⟩) := hd 12 (.inl (by decide))
      clear hd
      rw [e12]
      obtain ⟨c0, c1, c2, c3, c4, c5, c6, c7, c8, c9, c10, c11, c12, c13⟩ := (HBw.out bb W hE).cells
      go_wp2
      exact ⟨rfl, (by first | exact EWr_same | exact EWr_or (by decide)), rfl⟩
    · have e13 : vs 13 = .bool m.tc := hd 13 (.inl (by decide))
      clear hd
      rw [e13]
      go_wp2_with fail
      refine (HC3.out W).mono ?_
      rintro e w6 ⟨rfl, rfl⟩
      go_wp2
      exact ⟨rfl, (by first | exact EWr_same | exact EWr_or (by decide)), rfl⟩
    · have e11 : vs 11 = .int .i64 (x1 + m.op * 2048 + x2) := hd 11 (.inl (by decide))
      have e14 : vs 14 = .int .i64 x3 := hd 14 (.inl (by decide))
      clear hd
      rw [e11, e14]
      go_wp2
      exact ⟨rfl, (by first | exact EWr_same | exact EWr_or (by decide)), rfl⟩
    · clear hd
      go_wp2
      exact ⟨rfl, (by first | exact EWr_same | exact EWr_or (by decide)), rfl⟩
    · have e16 : vs 16 = .pointer (some ⟨g, 5, none⟩) := hd 16 (.inl (by decide))
      clear hd
      rw [e16]
      obtain ⟨c0, c1, c2, c3, c4, c5, c6, c7, c8, c9, c10, c11, c12, c13⟩ := (HBw.out bb W hE).cells
      go_wp2
      exact ⟨rfl, (by first | exact EWr_same | exact EWr_or (by decide)), rfl⟩
    · have e17 : vs 17 = .bool m.rd := hd 17 (.inl (by decide))
      clear hd
      rw [e17]
      go_wp2_with fail
      refine (HC4.out W).mono ?_
      rintro e w6 ⟨rfl, rfl⟩
      go_wp2
      exact ⟨rfl, (by first | exact EWr_same | exact EWr_or (by decide)), rfl⟩
    · have e15 : vs 15 = .int .i64 (x1 + m.op * 2048 + x2 + x3) := hd 15 (.inl (by decide))
      have e18 : vs 18 = .int .i64 x4 := hd 18 (.inl (by decide))
      clear hd
      rw [e15, e18]
      go_wp2
      exact ⟨rfl, (by first | exact EWr_same | exact EWr_or (by decide)), rfl⟩
    · clear hd
      go_wp2
      exact ⟨rfl, (by first | exact EWr_same | exact EWr_or (by decide)), rfl⟩
    · have e20 : vs 20 = .pointer (some ⟨g, 6, none⟩) := hd 20 (.inl (by decide))
      clear hd
      rw [e20]
      obtain ⟨c0, c1, c2, c3, c4, c5, c6, c7, c8, c9, c10, c11, c12, c13⟩ := (HBw.out bb W hE).cells
      go_wp2
      exact ⟨rfl, (by first | exact EWr_same | exact EWr_or (by decide)), rfl⟩
    · have e21 : vs 21 = .bool m.ra := hd 21 (.inl (by decide))
      clear hd
      rw [e21]
      go_wp2_with fail
      refine (HC5.out W).mono ?_
      rintro e w6 ⟨rfl, rfl⟩
      go_wp2
      exact ⟨rfl, (by first | exact EWr_same | exact EWr_or (by decide)), rfl⟩
    · have e19 : vs 19 = .int .i64 (x1 + m.op * 2048 + x2 + x3 + x4) := hd 19 (.inl (by decide))
      have e22 : vs 22 = .int .i64 x5 := hd 22 (.inl (by decide))
      clear hd
      rw [e19, e22]
      go_wp2
      exact ⟨rfl, (by first | exact EWr_same | exact EWr_or (by decide)), rfl⟩
    · clear hd
      go_wp2
      exact ⟨rfl, (by first | exact EWr_same | exact EWr_or (by decide)), rfl⟩
    · have e24 : vs 24 = .pointer (some ⟨g, 7, none⟩) := hd 24 (.inl (by decide))
      clear hd
      rw [e24]
      obtain ⟨c0, c1, c2, c3, c4, c5, c6, c7, c8, c9, c10, c11, c12, c13⟩ := (HBw.out bb W hE).cells
      go_wp2
      exact ⟨rfl, (by first | exact EWr_same | exact EWr_or (by decide)), rfl⟩
    · have e23 : vs 23 = .int .i64 (x1 + m.op * 2048 + x2 + x3 + x4 + x5) := hd 23 (.inl (by decide))
      have e25 : vs 25 = .int .i64 m.rc := hd 25 (.inl (by decide))
      clear hd
      rw [e23, e25]
      go_wp2
      exact ⟨rfl, (by first | exact EWr_same | exact EWr_or (by decide)), rfl⟩
    · have e0 : vs 0 = .pointer (some ⟨q, 0, none⟩) := hd 0 (.inl (by decide))
      have e26 : vs 26 = .int .i64 (x1 + m.op * 2048 + x2 + x3 + x4 + x5 + m.rc) := hd 26 (.inl (by decide))
      clear hd
      rw [e0, e26]
      have hbb : bb = false := by first | exact hb rfl | exact hb trivial
      subst hbb
      have hW : wd = W := hE
      subst hW
      go_wp2_with fail
      refine (HNum.out).mono ?_
      rintro e w6 ⟨rfl, hw⟩
      have HWr := Lib.hid hw
      clear hw
      go_wp2
      exact ⟨rfl, (show EWr q uf tf _ _ _ _ false wd true w6 from HWr.out), trivial⟩
  · intro vs W hE hP
    clear hP
    simp (config := { maxSteps := 10000000 }) only [List.drop, List.take, fullA, Act.put, List.setIfInBounds_toArray, List.set_cons_zero, List.set_cons_succ, Nat.zero_add, Nat.reduceAdd]
    rw [hwd] at hE
    have hw : Wrt q uf tf _ _ _ _ wd W := hE
    clear hE
    obtain ⟨u5, t5, hI, hb, hgn⟩ := HI.out.keep hw HBx.out HGn.out
    clear HI HBx HGn hw HNum HBw
    have HI := Lib.hid hI
    have HBx : Hid (BoxM W g m (.slice Aq m.qs.length kq) (.slice Aa m.ans.length ka) (.slice Au m.auth.length ku) (.slice Ae m.extra.length ke)) := Lib.hid hb
    have HGn := Lib.hid hgn
    clear hI hb hgn
    obtain ⟨c0, c1, c2, c3, c4, c5, c6, c7, c8, c9, c10, c11, c12, c13⟩ := HBx.out.cells
    go_wp2_with fail
    clear c0 c1 c2 c3 c4 c5 c6 c7 c8 c9 c10 c11 c12 c13
    refine (mx_Num q _ _ (m.qs.length : Int) 2 _ _ _ _ HI.out.mr (by simp only [List.length_append, List.length_nil]; have := HL0.out; have := HL1.out; omega) (by omega)).mono ?_
    rintro e w6 ⟨rfl, hw⟩
    obtain ⟨uw6, tw6, hI, hb, hgn⟩ := HI.out.keep hw HBx.out HGn.out
    clear HI HBx HGn hw
    have HI := Lib.hid hI
    have HBx : Hid (BoxM w6 g m (.slice Aq m.qs.length kq) (.slice Aa m.ans.length ka) (.slice Au m.auth.length ku) (.slice Ae m.extra.length ke)) := Lib.hid hb
    have HGn := Lib.hid hgn
    clear hI hb hgn
    obtain ⟨c0, c1, c2, c3, c4, c5, c6, c7, c8, c9, c10, c11, c12, c13⟩ := HBx.out.cells
    go_wp2_with fail
    clear c0 c1 c2 c3 c4 c5 c6 c7 c8 c9 c10 c11 c12 c13
    refine (mx_Num q _ _ (m.ans.length : Int) 2 _ _ _ _ HI.out.mr (by simp only [List.length_append, List.length_nil]; have := HL0.out; have := HL1.out; have := HL2.out; omega) (by omega)).mono ?_
    rintro e w7 ⟨rfl, hw⟩
    obtain ⟨uw7, tw7, hI, hb, hgn⟩ := HI.out.keep hw HBx.out HGn.out
    clear HI HBx HGn hw
    have HI := Lib.hid hI
    have HBx : Hid (BoxM w7 g m (.slice Aq m.qs.length kq) (.slice Aa m.ans.length ka) (.slice Au m.auth.length ku) (.slice Ae m.extra.length ke)) := Lib.hid hb
    have HGn := Lib.hid hgn
    clear hI hb hgn
    obtain ⟨c0, c1, c2, c3, c4, c5, c6, c7, c8, c9, c10, c11, c12, c13⟩ := HBx.out.cells
    go_wp2_with fail
    clear c0 c1 c2 c3 c4 c5 c6 c7 c8 c9 c10 c11 c12 c13
    refine (mx_Num q _ _ (m.auth.length : Int) 2 _ _ _ _ HI.out.mr (by simp only [List.length_append, List.length_nil]; have := HL0.out; have := HL1.out; have := HL2.out; have := HL3.out; omega) (by omega)).mono ?_
    rintro e w8 ⟨rfl, hw⟩
    obtain ⟨uw8, tw8, hI, hb, hgn⟩ := HI.out.keep hw HBx.out HGn.out
    clear HI HBx HGn hw
    have HI := Lib.hid hI
    have HBx : Hid (BoxM w8 g m (.slice Aq m.qs.length kq) (.slice Aa m.ans.length ka) (.slice Au m.auth.length ku) (.slice Ae m.extra.length ke)) := Lib.hid hb
    have HGn := Lib.hid hgn
    clear hI hb hgn
    obtain ⟨c0, c1, c2, c3, c4, c5, c6, c7, c8, c9, c10, c11, c12, c13⟩ := HBx.out.cells
    have HKc : Hid (∀ W, Ext w8 W → W.cell? ⟨g, 11, none⟩ = some (.slice Ae m.extra.length ke) ∧ W.cell? ⟨g, 12, none⟩ = some (.bool m.edns)) := Lib.hid (fun W hE => by obtain ⟨c0, c1, c2, c3, c4, c5, c6, c7, c8, c9, c10, c11, c12, c13⟩ := (HBx.out.ext hE).cells; exact ⟨c11, c12⟩)
    have HFe := Lib.hid (fun W => ref_flag m.edns 1 W)
    have hxr := bit01' m.edns 1
    have HXe := Lib.hid (show bitN m.edns 1 = bitN m.edns 1 from rfl)
    have hx0 : 0 ≤ bitN m.edns 1 := by omega
    have hx1 : bitN m.edns 1 ≤ 1 := by omega
    clear hxr
    generalize hXx : bitN m.edns 1 = xe at *
    have HXx := Lib.hid hXx
    clear hXx HXe
    go_wp2
    clear c0 c1 c2 c3 c4 c5 c6 c7 c8 c9 c10 c13
    have HNm9 := Lib.hid (fun W (hE : Ext w8 W) => mx_Num q _ _ ((m.extra.length : Int) + xe) 2 _ _ _ W (HI.out.to_ext hE).mr (by simp only [List.length_append, List.length_nil]; have := HL0.out; have := HL1.out; have := HL2.out; have := HL3.out; have := HL4.out; omega) (by omega))
    have HIe := HI
    have HBe := HBx
    have HGe := HGn
    have hwr : IntKind.i64.wrap ((m.extra.length : Int) + xe) = (m.extra.length : Int) + xe := wraps_i64 _ (by omega) (by omega)
    go_region_held3 (fun W => W.cell? ⟨g, 11, none⟩ = some (.slice Ae m.extra.length ke) ∧ W.cell? ⟨g, 12, none⟩ = some (.bool m.edns))
      (first | go_keep | exact ⟨HK9.out.1, HK9.out.2⟩)
      (first | (go_at_call 144; (with_reducible refine (HFe.out w8.drew).mono ?_); rintro e w' ⟨rfl, rfl⟩) | (go_at_call 118; (with_reducible refine (HNm9.out w8.drew (Ext.refl w8).drew).mono ?_); rintro e w9 ⟨rfl, hw⟩; obtain ⟨u9, t9, hI9, hb9, hgn9⟩ := (HIe.out.to_ext (Ext.refl w8).drew).keep hw (HBe.out.ext (Ext.refl w8).drew) HGe.out; have HI9 := Lib.hid hI9; have HB9 : Hid (BoxM w9 g m (.slice Aq m.qs.length kq) (.slice Aa m.ans.length ka) (.slice Au m.auth.length ku) (.slice Ae m.extra.length ke)) := Lib.hid hb9; have HG9 := Lib.hid hgn9; have HK9 : Hid (w9.cell? ⟨g, 11, none⟩ = some (.slice Ae m.extra.length ke) ∧ w9.cell? ⟨g, 12, none⟩ = some (.bool m.edns)) := Lib.hid (by obtain ⟨c0, c1, c2, c3, c4, c5, c6, c7, c8, c9, c10, c11, c12, c13⟩ := HB9.out.cells; exact ⟨c11, c12⟩); clear hw hI9 hb9 hgn9))
    clear c11 c12 hwr HIe HBe HGe HI HBx HGn HNm9
    have HHb : Hid (putN [] m.id 2 ++ putN [] (x1 + m.op * 2048 + x2 + x3 + x4 + x5 + m.rc) 2 ++ putN [] (m.qs.length : Int) 2 ++ putN [] (m.ans.length : Int) 2 ++ putN [] (m.auth.length : Int) 2 ++ putN [] ((m.extra.length : Int) + xe) 2 = headB m) := Lib.hid (by unfold headB; rw [HXx.out, ← HF.out])
    have HI := HI9
    rw [List.nil_append, HHb.out] at HI
    have HBx := HB9
    have HGn := HG9
    rw [List.nil_append, HHb.out] at HGn
    clear HI9 HB9 HG9 HK9 HHb hx0 hx1
    go_wp2
    go_loopw [4] (fun i wr => ∃ (j : Nat) (uc tc : Value), j ≤ m.qs.length ∧ i = .int .i64 j ∧ MInv w1 q uc tc (qsF (headB m, fun _ => none) (m.qs.take j)).1 (qsF (headB m, fun _ => none) (m.qs.take j)).2 (300 * j) wr ∧ (BoxM wr g m (.slice Aq m.qs.length kq) (.slice Aa m.ans.length ka) (.slice Au m.auth.length ku) (.slice Ae m.extra.length ke) ∧ ¬ Smr q uc tc (qsF (headB m, fun _ => none) (m.qs.take j)).1 g)) (fun i _ => m.qs.length - (intOf i).toNat)
    case atStart => exact ⟨0, _, _, by omega, rfl, by simpa [qsF] using HI.out, HBx.out, by simpa [qsF] using HGn.out⟩
    case round =>
      obtain ⟨j, uc, tc, hj, rfl, hI, hBx, hGn⟩ := hrel
      clear HI HBx HGn
      have HI := Lib.hid hI
      have HBx := Lib.hid hBx
      have HGn := Lib.hid hGn
      clear hI hBx hGn
      by_cases hlt : j < m.qs.length
      · obtain ⟨b, o, c1, e1, _, _, _⟩ := H.out.qs.opens (by omega)
        injection e1 with e1 e3 e4
        subst e1
        clear e3 e4
        have hx := List.getElem?_eq_getElem hlt
        obtain ⟨vn, hn, d0', d1', d2'⟩ := qs_cells H.out.qs hx
        obtain ⟨An, kn, rfl, _, _⟩ := hn.form
        have hmem := List.mem_of_getElem? hx
        have HNx := Lib.hid hn
        have HQS := Lib.hid (qsound_parts (HS.out.qs _ hmem))
        have HLn := Lib.hid (qs_len (headB m, fun _ => none) (m.qs.take j) (head_good m) (by rw [HHd.out]; omega) (fun q hq => HS.out.qs q (List.mem_of_mem_take hq)) (by have := List.length_take_le' j m.qs; omega))
        have HPS := Lib.hid (qsF_snoc (headB m, fun _ => none) hx)
        have HCq := Lib.hid (And.intro d0' (And.intro d1' d2'))
        have hqt : m.qs[j].type ≤ 9223372036854775807 := by have := fits_bound _ _ (qsound_parts (HS.out.qs _ hmem)).2.2.1; omega
        have hqc : m.qs[j].cls ≤ 9223372036854775807 := by have := fits_bound _ _ (qsound_parts (HS.out.qs _ hmem)).2.2.2; omega
        clear d0' d1' d2' hn hmem hx
        generalize m.qs[j] = x at *
        generalize hss : qsF (headB m, fun _ => none) (m.qs.take j) = ss at *
        clear hss
        obtain ⟨c0, c1, c2, c3, c4, c5, c6, c7, c8, c9, c10, c11, c12, c13⟩ := HBx.out.cells
        have g0 := (HE1.out.trans HI.out.ext).cell HCq.out.1
        have g1 := (HE1.out.trans HI.out.ext).cell HCq.out.2.1
        have g2 := (HE1.out.trans HI.out.ext).cell HCq.out.2.2
        go_wp2_with fail
        clear c0 c1 c2 c3 c4 c5 c6 c7 c8 c9 c10 c11 c12 c13 g0 g1 g2
        refine (mx_Name q _ _ _ x.name true _ _ _ wr HI.out.mr (by omega) (Stb.of_old (fun w' hE => HNx.out.ext (HE1.out.trans hE)) HI.out.ext HI.out.smr) HQS.out.1 (by have := HLn.out.2; omega)).mono ?_
        rintro e w10 ⟨rfl, hw⟩
        have HGr := Lib.hid (name_grow (short := true) (b := ss.1) HQS.out.1 HI.out.mr.small)
        obtain ⟨u10, t10, hI, hb, hgn⟩ := HI.out.keep hw HBx.out HGn.out
        clear HI HBx HGn hw
        have HI := Lib.hid hI
        have HBx : Hid (BoxM w10 g m (.slice (some ⟨b, o, none⟩) m.qs.length kq) (.slice Aa m.ans.length ka) (.slice Au m.auth.length ku) (.slice Ae m.extra.length ke)) := Lib.hid hb
        have HGn := Lib.hid hgn
        clear hI hb hgn
        obtain ⟨c0, c1, c2, c3, c4, c5, c6, c7, c8, c9, c10, c11, c12, c13⟩ := HBx.out.cells
        have g0 := (HE1.out.trans HI.out.ext).cell HCq.out.1
        have g1 := (HE1.out.trans HI.out.ext).cell HCq.out.2.1
        have g2 := (HE1.out.trans HI.out.ext).cell HCq.out.2.2
        go_wp2_with fail
        clear c0 c1 c2 c3 c4 c5 c6 c7 c8 c9 c10 c11 c12 c13 g0 g1 g2
        refine (mx_Num q _ _ x.type 2 _ _ _ _ HI.out.mr (by have := HGr.out; have := HLn.out.2; omega) (by omega)).mono ?_
        rintro e w11 ⟨rfl, hw⟩
        obtain ⟨uw11, tw11, hI, hb, hgn⟩ := HI.out.keep hw HBx.out HGn.out
        clear HI HBx HGn hw
        have HI := Lib.hid hI
        have HBx : Hid (BoxM w11 g m (.slice (some ⟨b, o, none⟩) m.qs.length kq) (.slice Aa m.ans.length ka) (.slice Au m.auth.length ku) (.slice Ae m.extra.length ke)) := Lib.hid hb
        have HGn := Lib.hid hgn
        clear hI hb hgn
        obtain ⟨c0, c1, c2, c3, c4, c5, c6, c7, c8, c9, c10, c11, c12, c13⟩ := HBx.out.cells
        have g0 := (HE1.out.trans HI.out.ext).cell HCq.out.1
        have g1 := (HE1.out.trans HI.out.ext).cell HCq.out.2.1
        have g2 := (HE1.out.trans HI.out.ext).cell HCq.out.2.2
        go_wp2_with fail
        clear c0 c1 c2 c3 c4 c5 c6 c7 c8 c9 c10 c11 c12 c13 g0 g1 g2
        refine (mx_Num q _ _ x.cls 2 _ _ _ _ HI.out.mr (by have := HGr.out; have := HLn.out.2; have := putN_le x.type (size := 2) (by omega); simp at this; rw [List.length_append]; omega) (by omega)).mono ?_
        rintro e w12 ⟨rfl, hw⟩
        obtain ⟨uw12, tw12, hI, hb, hgn⟩ := HI.out.keep hw HBx.out HGn.out
        clear HI HBx HGn hw
        have HI := Lib.hid hI
        have HBx : Hid (BoxM w12 g m (.slice (some ⟨b, o, none⟩) m.qs.length kq) (.slice Aa m.ans.length ka) (.slice Au m.auth.length ku) (.slice Ae m.extra.length ke)) := Lib.hid hb
        have HGn := Lib.hid hgn
        clear hI hb hgn
        have HEq : Hid (qStep ss x = ((Wt.name x.name true).bytes ss.1 ss.2 ++ putN [] x.type 2 ++ putN [] x.cls 2, (Wt.name x.name true).rests ss.1 ss.2)) := Lib.hid (by unfold qStep; rw [qst_bytes, qst_rests, List.append_assoc])
        go_wp2
        go_roundw
        case rel => exact ⟨j + 1, uw12, tw12, by omega, by go_num, by rw [HPS.out, HEq.out]; exact HI.out.mono (by omega), HBx.out, by rw [HPS.out, HEq.out]; exact HGn.out⟩
        case measure => simp [intOf]; omega
      · rw [List.take_of_length_le (by omega)] at HI HGn
        have HL1' := Lib.hid (qs_len (headB m, fun _ => none) m.qs (head_good m) (by rw [HHd.out]; omega) HS.out.qs (by omega))
        obtain ⟨S1, hS1⟩ : ∃ S1, qsF (headB m, fun _ => none) m.qs = S1 := ⟨_, rfl⟩
        rw [hS1] at HI HGn HL1'
        have HS1 := Lib.hid hS1
        have HG1 := Lib.hid HL1'.out.1
        have HLs : Hid (S1.1.length ≤ 200000) := Lib.hid (by have := HL1'.out.2; omega)
        clear hS1 HL1'
        have HI' : Hid (MInv w1 q uc tc S1.1 S1.2 153600 wr) := Lib.hid (HI.out.mono (by omega))
        clear HI
        have HI := HI'
        clear HI'
        have HEw := Lib.hid (HE1.out.trans HI.out.ext)
        have HKa : Hid (∀ W, Ext wr W → W.cell? ⟨g, 9, none⟩ = some (.slice Aa m.ans.length ka) ∧ W.cell? ⟨g, 10, none⟩ = some (.slice Au m.auth.length ku) ∧ W.cell? ⟨g, 11, none⟩ = some (.slice Ae m.extra.length ke)) := Lib.hid (fun W hE => by obtain ⟨c0, c1, c2, c3, c4, c5, c6, c7, c8, c9, c10, c11, c12, c13⟩ := (HBx.out.ext hE).cells; exact ⟨c9, c10, c11⟩)
        obtain ⟨bs, hbs⟩ : ∃ bs, wr.heap.size = bs := ⟨_, rfl⟩
        have HBs := Lib.hid hbs
        clear hbs
        have HA0 : Hid (OwnM (fun _ => RecR w) 49 9 (wr.drew.alloc (.cells #[] 49)) bs (.slice (some ⟨wr.heap.size, 0, none⟩) 0 0) []) := Lib.hid (by have := OwnM.lit0 (fun _ : World => RecR w) 49 9 wr.drew bs (by rw [← HBs.out]; exact Nat.le_refl _); exact this)
        have HEl := Lib.hid ((Ext.refl wr).drew.alloc (.cells #[] 49))
        have hbig : (m.ans.length + m.auth.length + m.extra.length) * 168 ≤ 140737488355328 := by omega
        have HBig := Lib.hid hbig
        clear hbig
        obtain ⟨c0, c1, c2, c3, c4, c5, c6, c7, c8, c9, c10, c11, c12, c13⟩ := HBx.out.cells
        have HBl := Lib.hid (show bs ≤ (wr.drew.alloc (.cells #[] 49)).heap.size by rw [← HBs.out]; exact HEl.out.size)
        go_wp2
        clear c0 c1 c2 c3 c4 c5 c6 c7 c8 c12 c13
        go_region_held3 (fun W => W.cell? ⟨g, 9, none⟩ = some (.slice Aa m.ans.length ka) ∧ W.cell? ⟨g, 10, none⟩ = some (.slice Au m.auth.length ku) ∧ W.cell? ⟨g, 11, none⟩ = some (.slice Ae m.extra.length ke))
          (first | go_keep | exact HKa.out _ HEl.out | exact HKa.out _ HEa.out | exact HKa.out _ HEb.out | exact HKa.out _ HEc.out)
          (first | (refine step_appS (RecR w) bs (by rfl) (.tmp 96) (.tmp 98) 37 49 _ 9 168 (by rfl) Try.underlying37 rec_info rfl (by decide) (by decide) recR_one _ [] m.ans _ (by rfl) (by rfl) HA0.out (recs_old H.out.ans (HEw.out.trans HEl.out)) HBl.out (by have := HBig.out; simp; omega) ?_; intro va2 wa hO hg; have HEa := Lib.hid (HEl.out.grown hg (fun k hk => by have := HA0.out.base_le k hk; rw [HBs.out]; exact this)); have HAa := Lib.hid hO; obtain ⟨Aa2, na2, ca2, hna, rfl⟩ : ∃ A n c, n = ([] ++ m.ans).length ∧ va2 = .slice A n c := (by obtain ⟨A, c, h, _, _⟩ := hO.slice; exact ⟨A, _, c, rfl, h⟩); have HNa := Lib.hid hna; clear hna; have HBa := Lib.hid (show bs ≤ wa.heap.size by rw [← HBs.out]; exact HEa.out.size); clear hO hg) | (refine step_appS (RecR w) bs (by rfl) (.tmp 99) (.tmp 101) 37 49 _ 9 168 (by rfl) Try.underlying37 rec_info rfl (by decide) (by decide) recR_one _ ([] ++ m.ans) m.auth _ (by rfl) (by rfl) HAa.out (recs_old H.out.auth (HEw.out.trans HEa.out)) HBa.out (by have := HBig.out; simp; omega) ?_; intro vb2 wb hO hg; have HEb := Lib.hid (HEa.out.grown hg (fun k hk => by have := HAa.out.base_le k hk; rw [HBs.out]; exact this)); have HAb := Lib.hid hO; obtain ⟨Ab2, nb2, cb2, hnb, rfl⟩ : ∃ A n c, n = ([] ++ m.ans ++ m.auth).length ∧ vb2 = .slice A n c := (by obtain ⟨A, c, h, _, _⟩ := hO.slice; exact ⟨A, _, c, rfl, h⟩); have HNb := Lib.hid hnb; clear hnb; have HBb := Lib.hid (show bs ≤ wb.heap.size by rw [← HBs.out]; exact HEb.out.size); clear hO hg) | (refine step_appS (RecR w) bs (by rfl) (.tmp 102) (.tmp 104) 37 49 _ 9 168 (by rfl) Try.underlying37 rec_info rfl (by decide) (by decide) recR_one _ ([] ++ m.ans ++ m.auth) m.extra _ (by rfl) (by rfl) HAb.out (recs_old H.out.extra (HEw.out.trans HEb.out)) HBb.out (by have := HBig.out; simp; omega) ?_; intro vc2 wc hO hg; have HEc := Lib.hid (HEb.out.grown hg (fun k hk => by have := HAb.out.base_le k hk; rw [HBs.out]; exact this)); have HAc := Lib.hid hO; obtain ⟨Ac2, nc2, cc2, hnc, rfl⟩ : ∃ A n c, n = ([] ++ m.ans ++ m.auth ++ m.extra).length ∧ vc2 = .slice A n c := (by obtain ⟨A, c, h, _, _⟩ := hO.slice; exact ⟨A, _, c, rfl, h⟩); have HNc := Lib.hid hnc; clear hnc; clear hO hg))
        clear c9 c10 c11
        have HIc := Lib.hid (HI.out.to_ext HEc.out)
        have HBc := Lib.hid (HBx.out.ext HEc.out)
        rw [List.nil_append] at HAc HNc
        have HAs : Hid (∀ k, (Value.slice Ac2 nc2 cc2).ownBlock = some k → ¬ Smr q uc tc S1.1 k) := Lib.hid (fun k hk h => by have := HAc.out.base_le k hk; have := HI.out.mr.lt k h; rw [HBs.out] at this; omega)
        have HAll : Hid (∀ r ∈ m.ans ++ m.auth ++ m.extra, r.type ≠ 41 ∧ rrsound r = true) := Lib.hid (pres_sound HS.out)
        have hal : (m.ans ++ m.auth ++ m.extra).length ≤ 512 := by simp only [List.length_append]; omega
        have HMst : Hid (rrsF S1 (m.ans ++ m.auth ++ m.extra) = mstate m) := Lib.hid (by unfold mstate; rw [HS1.out])
        clear HA0 HEl HBl HKa HI HBx HAa HAb HBa HBb HEa HEb HS1
        generalize m.ans ++ m.auth ++ m.extra = all at *
        obtain rfl := HNc.out
        clear HNc HNa HNb
        go_wp2
        go_loopw [6] (fun i wr => ∃ (j : Nat) (uc tc : Value), j ≤ all.length ∧ i = .int .i64 j ∧ MInv w1 q uc tc (rrsF S1 (all.take j)).1 (rrsF S1 (all.take j)).2 (153600 + 900 * j) wr ∧ (BoxM wr g m (.slice Aq m.qs.length kq) (.slice Aa m.ans.length ka) (.slice Au m.auth.length ku) (.slice Ae m.extra.length ke) ∧ ¬ Smr q uc tc (rrsF S1 (all.take j)).1 g) ∧ (OwnM (fun _ => RecR w) 49 9 wr bs (.slice Ac2 all.length cc2) all ∧ ∀ k, (Value.slice Ac2 all.length cc2).ownBlock = some k → ¬ Smr q uc tc (rrsF S1 (all.take j)).1 k)) (fun i _ => all.length - (intOf i).toNat)
        case atStart => exact ⟨0, _, _, by omega, rfl, by simpa [rrsF] using HIc.out, ⟨HBc.out, by simpa [rrsF] using HGn.out⟩, HAc.out, by simpa [rrsF] using HAs.out⟩
        case round =>
          obtain ⟨j, uc, tc, hj, rfl, hI, ⟨hBx, hGn⟩, hA, hAn⟩ := hrel
          clear HIc HBc HGn HAc HAs
          have HI := Lib.hid hI
          have HBx := Lib.hid hBx
          have HGn := Lib.hid hGn
          have HA := Lib.hid hA
          have HAn := Lib.hid hAn
          clear hI hBx hGn hA hAn
          by_cases hlt : j < all.length
          · obtain ⟨b, o, c1, e1, _, _, _⟩ := HA.out.sl.opens (by omega)
            injection e1 with e1 e3 e4
            subst e1
            clear e3 e4
            have hx := List.getElem?_eq_getElem hlt
            obtain ⟨vn, v0, v1, v2, v3, v4, hn, hd, g0, g1, g2, g3, g4, g5, g6, g7, g8⟩ := recs_cells_old HA.out.sl hx
            obtain ⟨An, kn, rfl, _, _⟩ := hn.form
            obtain ⟨A0, k0, rfl, _, _⟩ := hd.by_.form
            obtain ⟨A1, k1, rfl, _, _⟩ := hd.ho.form
            obtain ⟨A2, k2, rfl, _, _⟩ := hd.ma.form
            obtain ⟨A3, k3, rfl, _, _⟩ := hd.nu.form
            obtain ⟨A4, k4, rfl, _, _⟩ := hd.tx.form
            have hmem := List.mem_of_getElem? hx
            have HRec := Lib.hid (show RecC w _ _ _ _ _ _ all[j] from ⟨hn, hd⟩)
            have HRS := Lib.hid (HAll.out _ hmem)
            have HLn := Lib.hid (rrs_len S1 (all.take j) HG1.out HLs.out (fun r hr => HAll.out r (List.mem_of_mem_take hr)) (by have := List.length_take_le' j all; omega))
            have HPS := Lib.hid (show rrsF S1 (all.take (j + 1)) = rrStep (rrsF S1 (all.take j)) all[j] by have := rrsF_snoc S1 [] hx; simpa using this)
            clear hn hd hmem hx
            generalize all[j] = x at *
            generalize hss : rrsF S1 (all.take j) = ss at *
            clear hss
            go_wp2_with fail
            clear g0 g1 g2 g3 g4 g5 g6 g7 g8
            refine (mx_PutRR x q _ _ _ _ _ _ _ _ ss.1 ss.2 _ wr HI.out.mr HLn.out.1 (Stb.of_old (fun w' hE => HRec.out.ext (HE1.out.trans hE)) HI.out.ext HI.out.smr) HRS.out.2 (by have := HLn.out.2; omega) (by omega)).mono ?_
            rintro e w7 ⟨rfl, hw⟩
            obtain ⟨u7, t7, hI7, hb7, hn7, hA7, hAn7⟩ := HI.out.keepM hw HBx.out HGn.out HA.out HAn.out
            have HI7 := Lib.hid hI7
            have HB7 := Lib.hid (show BoxM w7 g m (.slice Aq m.qs.length kq) (.slice Aa m.ans.length ka) (.slice Au m.auth.length ku) (.slice Ae m.extra.length ke) from hb7)
            have HN7 := Lib.hid hn7
            have HA7 := Lib.hid hA7
            have HAn7 := Lib.hid hAn7
            clear hw hI7 hb7 hn7 hA7 hAn7
            go_wp2
            go_roundw
            case rel => exact ⟨j + 1, u7, t7, by omega, by go_num, by rw [HPS.out]; exact HI7.out.mono (by omega), ⟨HB7.out, by rw [HPS.out]; exact HN7.out⟩, HA7.out, by rw [HPS.out]; exact HAn7.out⟩
            case measure => simp [intOf]; omega
          · rw [List.take_of_length_le (by omega)] at HI HGn
            have HLn := Lib.hid (rrs_len S1 all HG1.out HLs.out HAll.out hal).2
            rw [HMst.out] at HI HGn HLn
            have hjj : j ≤ 512 := by omega
            clear HA HAn
            obtain ⟨c0, c1, c2, c3, c4, c5, c6, c7, c8, c9, c10, c11, c12, c13⟩ := HBx.out.cells
            cases hed : m.edns with
            | false =>
              have HMr := Lib.hid (show (mstate m).1 = mraw m by unfold mraw; rw [hed]; rfl)
              rw [hed] at c12
              have HI' : Hid (MInv w1 q uc tc (mraw m) (mstate m).2 (153600 + 900 * j) wr) := Lib.hid (by rw [← HMr.out]; exact HI.out)
              clear HI
              have HI := HI'
              clear HI' HGn hed
              obtain ⟨Af, cf, rfl⟩ := HI.out.mr.slice
              obtain ⟨m0, m1, mf⟩ := HI.out.mr.cells
              have HBy := Lib.hid (show BytesV _ _ (mraw m) from by obtain ⟨rs, h1, _⟩ := HI.out.mr; exact h1.row.1.1)
              have HEf := Lib.hid (HE1.out.trans HI.out.ext)
              go_wp2
              go_ret
              exact ⟨_, rfl, HBy.out, HEf.out⟩
            | true =>
              have HMr := Lib.hid (show (mstate m).1 ++ [0, 0, 41] ++ putN [] m.size 2 ++ [0, 0, 0, 0, 0, 0] = mraw m by unfold mraw optB; rw [hed, if_pos rfl, show putN [] 41 2 = [0, 41] from by decide, show putN [] 0 6 = [0, 0, 0, 0, 0, 0] from by decide]; simp)
              rw [hed] at c12
              clear hed
              generalize (mstate m).1 = B at *
              generalize (mstate m).2 = F at *
              have HZ := Lib.hid (heap_alloc_new wr (.cells #[.int .u8 0, .int .u8 0, .int .u8 41] 5))
              have HIz := Lib.hid (HI.out.to_ext ((Ext.refl wr).alloc (.cells #[.int .u8 0, .int .u8 0, .int .u8 41] 5)))
              have HBz := Lib.hid (blk_lit [0, 0, 41] HZ.out)
              go_wp2_with fail
              clear c0 c1 c2 c3 c4 c5 c6 c7 c8 c9 c10 c11 c12 c13
              refine (mx_Raw q _ _ _ B [0, 0, 41] F _ _ HIz.out.mr HBz.out (by have := HLn.out; simp; omega)).mono ?_
              rintro e w7 ⟨rfl, hw⟩
              obtain ⟨u7, t7, hI, hb, hgn⟩ := HIz.out.keep hw (HBx.out.ext ((Ext.refl wr).alloc _)) HGn.out
              clear HI HBx HGn hw HIz HBz HZ
              have HI := Lib.hid hI
              have HBx : Hid (BoxM w7 g m (.slice Aq m.qs.length kq) (.slice Aa m.ans.length ka) (.slice Au m.auth.length ku) (.slice Ae m.extra.length ke)) := Lib.hid hb
              have HGn := Lib.hid hgn
              clear hI hb hgn
              obtain ⟨c0, c1, c2, c3, c4, c5, c6, c7, c8, c9, c10, c11, c12, c13⟩ := HBx.out.cells
              go_wp2_with fail
              clear c0 c1 c2 c3 c4 c5 c6 c7 c8 c9 c10 c11 c12 c13
              refine (mx_Num q _ _ m.size 2 _ _ _ _ HI.out.mr (by rw [List.length_append]; have := HLn.out; simp; omega) (by have := HSz.out; omega)).mono ?_
              rintro e w8 ⟨rfl, hw⟩
              obtain ⟨uw8, tw8, hI, hb, hgn⟩ := HI.out.keep hw HBx.out HGn.out
              clear HI HBx HGn hw
              have HI := Lib.hid hI
              have HBx : Hid (BoxM w8 g m (.slice Aq m.qs.length kq) (.slice Aa m.ans.length ka) (.slice Au m.auth.length ku) (.slice Ae m.extra.length ke)) := Lib.hid hb
              have HGn := Lib.hid hgn
              clear hI hb hgn
              have HZ := Lib.hid (heap_alloc_new w8 (.cells #[.int .u8 0, .int .u8 0, .int .u8 0, .int .u8 0, .int .u8 0, .int .u8 0] 5))
              have HIz := Lib.hid (HI.out.to_ext ((Ext.refl w8).alloc (.cells #[.int .u8 0, .int .u8 0, .int .u8 0, .int .u8 0, .int .u8 0, .int .u8 0] 5)))
              have HBz := Lib.hid (blk_lit [0, 0, 0, 0, 0, 0] HZ.out)
              go_wp2_with fail
              refine (mx_Raw q _ _ _ _ [0, 0, 0, 0, 0, 0] F _ _ HIz.out.mr HBz.out (by have := HLn.out; have := putN_le m.size (size := 2) (by omega); simp at this; simp only [List.length_append, List.length_cons, List.length_nil]; omega)).mono ?_
              rintro e w9 ⟨rfl, hw⟩
              obtain ⟨u9, t9, hI⟩ := HIz.out.step hw
              rw [HMr.out] at hI
              clear HI HBx HGn hw HIz HBz HZ
              have HI := Lib.hid hI
              clear hI
              obtain ⟨Af, cf, rfl⟩ := HI.out.mr.slice
              obtain ⟨m0, m1, mf⟩ := HI.out.mr.cells
              have HBy := Lib.hid (show BytesV _ _ (mraw m) from by obtain ⟨rs, h1, _⟩ := HI.out.mr; exact h1.row.1.1)
              have HEf := Lib.hid (HE1.out.trans HI.out.ext)
              go_wp2
              go_ret
              exact ⟨_, rfl, HBy.out, HEf.out⟩
end Go.Proofs.Ytfnelkcllaaebaa
end
section
/- Contract of ref03.Encode. No condition but that the message stands in memory, that its lists are not too long, and the numbers' sizes. -/
open Go.RowKit
set_option linter.unusedVariables false
set_option linter.unusedSimpArgs false
namespace Go.Proofs.Ytfnelkcllaaebaa
set_option maxRecDepth 100000 in
set_option maxHeartbeats 1000000 in
theorem ref_Encode (m : Msg) (vq va vu ve : Value) (w : World) (h : MsgC w vq va vu ve m) (hx : MInt m) (hl : m.all ≤ 100000) :
    Calls Try.prog 36 #[.agg #[.int .i64 m.id, .bool m.resp, .int .i64 m.op, .bool m.aa, .bool m.tc, .bool m.rd, .bool m.ra, .int .i64 m.rc, vq, va, vu, ve, .bool m.edns, .int .i64 m.size]] w fun e w' => ∃ v, e = .returned (.tuple #[v, .int .i64 (encM m).2]) ∧ BytesV w' v (encM m).1 ∧ Ext w w' := by
  have H := Lib.hid h
  have HX := Lib.hid hx
  have HL := Lib.hid hl
  clear h hx hl
  obtain ⟨Aq, kq, rfl, _, _⟩ := H.out.qs.form
  obtain ⟨Aa, ka, rfl, _, _⟩ := H.out.ans.form
  obtain ⟨Au, ku, rfl, _, _⟩ := H.out.auth.form
  obtain ⟨Ae, ke, rfl, _, _⟩ := H.out.extra.form
  have HE1 := Lib.hid ((Ext.refl w).alloc (.cells #[.int .i64 m.id, .bool m.resp, .int .i64 m.op, .bool m.aa, .bool m.tc, .bool m.rd, .bool m.ra, .int .i64 m.rc, .slice Aq m.qs.length kq, .slice Aa m.ans.length ka, .slice Au m.auth.length ku, .slice Ae m.extra.length ke, .bool m.edns, .int .i64 m.size] 39))
  have HB1 : Hid (BoxM (w.alloc (.cells #[.int .i64 m.id, .bool m.resp, .int .i64 m.op, .bool m.aa, .bool m.tc, .bool m.rd, .bool m.ra, .int .i64 m.rc, .slice Aq m.qs.length kq, .slice Aa m.ans.length ka, .slice Au m.auth.length ku, .slice Ae m.extra.length ke, .bool m.edns, .int .i64 m.size] 39)) w.heap.size m _ _ _ _) := Lib.hid (heap_alloc_new w _)
  have hg : w.heap.size ≤ (w.alloc (.cells #[.int .i64 m.id, .bool m.resp, .int .i64 m.op, .bool m.aa, .bool m.tc, .bool m.rd, .bool m.ra, .int .i64 m.rc, .slice Aq m.qs.length kq, .slice Aa m.ans.length ka, .slice Au m.auth.length ku, .slice Ae m.extra.length ke, .bool m.edns, .int .i64 m.size] 39)).heap.size := HE1.out.size
  go_enter Try.func36, Try.ntmps36
  go_wp2_with fail
  generalize w.alloc (.cells #[.int .i64 m.id, .bool m.resp, .int .i64 m.op, .bool m.aa, .bool m.tc, .bool m.rd, .bool m.ra, .int .i64 m.rc, .slice Aq m.qs.length kq, .slice Aa m.ans.length ka, .slice Au m.auth.length ku, .slice Ae m.extra.length ke, .bool m.edns, .int .i64 m.size] 39) = w1 at *
  generalize hgg : w.heap.size = g at *
  refine (ref_Msg m _ _ _ _ w1 (H.out.ext HE1.out) HX.out HL.out).mono ?_
  rintro e w2 ⟨rfl, hE2⟩
  have HE2 := Lib.hid (HE1.out.trans hE2)
  have HB2 := Lib.hid (HB1.out.ext hE2)
  clear hE2
  cases hs : msound m with
  | false =>
    have HR := Lib.hid (show encM m = ([], 2) by unfold encM; rw [hs]; rfl)
    clear hs
    go_wp2
    go_ret2
    rw [HR.out]
    exact ⟨_, rfl, Fl.nil _ _, HE2.out⟩
  | true =>
    have HS := Lib.hid ((msound_iff m).1 hs)
    have HR := Lib.hid (show encM m = if 65535 < (mraw m).length then ([], 4) else (mraw m, 0) by unfold encM; rw [hs]; rfl)
    clear hs
    obtain ⟨c0, c1, c2, c3, c4, c5, c6, c7, c8, c9, c10, c11, c12, c13⟩ := HB2.out.cells
    go_wp2_with fail
    clear c0 c1 c2 c3 c4 c5 c6 c7 c8 c9 c10 c11 c12 c13
    refine (ref_Raw m _ _ _ _ w2 (H.out.ext HE2.out) HS.out).mono ?_
    rintro e w3 ⟨v3, rfl, hO3, hE3⟩
    have HO3 := Lib.hid hO3
    have HE3 := Lib.hid (HE2.out.trans hE3)
    obtain ⟨A3, c3, rfl, _, _⟩ := hO3.form
    clear hO3 hE3
    by_cases h6 : (mraw m).length ≤ 65535
    · have HR2 := Lib.hid (HR.out.trans (if_neg (by omega)))
      have j6 : decide ((65535 : Int) < ((mraw m).length : Int)) = false := by rw [decide_eq_false_iff_not]; omega
      clear h6
      go_wp2
      go_ret2
      rw [HR2.out]
      exact ⟨_, rfl, HO3.out, HE3.out⟩
    · have HR2 := Lib.hid (HR.out.trans (if_pos (by omega)))
      have j6 : decide ((65535 : Int) < ((mraw m).length : Int)) = true := by rw [decide_eq_true_eq]; omega
      clear h6
      go_wp2
      go_ret2
      rw [HR2.out]
      exact ⟨_, rfl, Fl.nil _ _, HE3.out⟩
end Go.Proofs.Ytfnelkcllaaebaa
end
