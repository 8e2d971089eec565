/- Parts of one proof, joined: LgM, OwnMs, LEnc. Conditions: those that each theorem states. -/
import Derived.Test.YtfnelkcllaaebaaEB30
import Derived.Test.YtfnelkcllaaebaaEB17
import Derived.Test.YtfnelkcllaaebaaEB29
import Derived.Test.YtfnelkcllaaebaaECLDWr
import Derived.Deep.Cut
import Derived.Deep.MidRow
section
/- Contracts of law06.light and law07.light. No condition but that the message stands in memory, and room. -/
open Go.RowKit
set_option linter.unusedVariables false
set_option linter.unusedSimpArgs false
namespace Go.Proofs.Ytfnelkcllaaebaa
def lightS (r : Rec) : Bool := decide (r.name.length ≤ 200 ∧ r.data.host.length ≤ 200 ∧ r.data.mail.length ≤ 200 ∧ r.data.texts.length ≤ 100 ∧ r.data.nums.length ≤ 100)
def lightQ (q : Qst) : Bool := decide (q.name.length ≤ 200)
def sumB (l : List Rec) : Nat := (l.map fun r => r.data.bytes.length).sum
/-- Is a message not too large? -/
def lightM (n : Nat) (m : Msg) : Bool := decide ((m.ans ++ m.auth ++ m.extra).length ≤ n ∧ m.qs.length ≤ n) && ((m.ans ++ m.auth ++ m.extra).all lightS && (m.qs.all lightQ && decide (sumB (m.ans ++ m.auth ++ m.extra) < 200000)))
/-- The bytes' sizes. -/
structure MByt (m : Msg) : Prop where
  all : ∀ r ∈ m.ans ++ m.auth ++ m.extra, r.data.bytes.length ≤ 140737488355328
theorem sumB_snoc {l : List Rec} {k : Nat} {x : Rec} (hx : l[k]? = some x) : sumB (l.take (k + 1)) = sumB (l.take k) + x.data.bytes.length := by
  rw [List.take_add_one, hx]; simp [sumB]
theorem sumB_le {l : List Rec} {B : Nat} (h : ∀ r ∈ l, r.data.bytes.length ≤ B) (k : Nat) : sumB (l.take k) ≤ l.length * B := by
  have key : ∀ l : List Rec, (∀ r ∈ l, r.data.bytes.length ≤ B) → sumB l ≤ l.length * B := by
    intro l
    induction l with
    | nil => intro _; simp [sumB]
    | cons x l ih =>
      intro h
      have h1 := h x (by simp)
      have h2 := ih (fun r hr => h r (by simp [hr]))
      simp only [sumB, List.map_cons, List.sum_cons, List.length_cons, Nat.succ_mul] at h2 ⊢
      omega
  exact Nat.le_trans (key _ (fun r hr => h r (List.mem_of_mem_take hr))) (Nat.mul_le_mul_right _ (List.length_take_le' _ _))
theorem lm_rec {n : Nat} {m : Msg} {x : Rec} (h : x ∈ m.ans ++ m.auth ++ m.extra) (hx : lightS x = false) : lightM n m = false := by
  have : (m.ans ++ m.auth ++ m.extra).all lightS = false := by rw [List.all_eq_false]; exact ⟨x, h, by simp [hx]⟩
  unfold lightM; rw [this]; simp
theorem lm_qst {n : Nat} {m : Msg} {x : Qst} (h : x ∈ m.qs) (hx : lightQ x = false) : lightM n m = false := by
  have : m.qs.all lightQ = false := by rw [List.all_eq_false]; exact ⟨x, h, by simp [hx]⟩
  unfold lightM; rw [this]; simp
theorem lm_all {n : Nat} {m : Msg} {all : List Rec} (he : m.ans ++ m.auth ++ m.extra = all) (h : all.length ≤ n ∧ m.qs.length ≤ n) (h1 : all.all lightS = true) (h2 : m.qs.all lightQ = true) : lightM n m = decide (sumB all < 200000) := by
  unfold lightM; rw [he, decide_eq_true h, h1, h2]; rfl
set_option maxRecDepth 100000 in
set_option maxHeartbeats 1000000 in
theorem light_33 (m : Msg) (vq va vu ve : Value) (w : World) (h : MsgC w vq va vu ve m) (hb : MByt m) (hl : ∀ l, l = m.ans ++ m.auth ++ m.extra → l.length * 168 ≤ 140737488355328) :
    Calls Try.prog 33 #[.agg #[.int .i64 m.id, .bool m.resp, .int .i64 m.op, .bool m.aa, .bool m.tc, .bool m.rd, .bool m.ra, .int .i64 m.rc, vq, va, vu, ve, .bool m.edns, .int .i64 m.size]] w fun e w' => e = .returned (.bool (lightM 600 m)) ∧ Ext w w' := by
  have H := Lib.hid h
  have HBy := Lib.hid hb
  have HBig : Hid ((m.ans.length + m.auth.length + m.extra.length) * 168 ≤ 140737488355328) := Lib.hid (by have := hl _ rfl; simpa [Nat.add_assoc] using this)
  clear h hb hl
  obtain ⟨Aq, kq, rfl, _, _⟩ := H.out.qs.form
  obtain ⟨Aa, ka, rfl, _, _⟩ := H.out.ans.form
  obtain ⟨Au, ku, rfl, _, _⟩ := H.out.auth.form
  obtain ⟨Ae, ke, rfl, _, _⟩ := H.out.extra.form
  have HE1 := Lib.hid ((Ext.refl w).alloc (.cells #[.int .i64 m.id, .bool m.resp, .int .i64 m.op, .bool m.aa, .bool m.tc, .bool m.rd, .bool m.ra, .int .i64 m.rc, .slice Aq m.qs.length kq, .slice Aa m.ans.length ka, .slice Au m.auth.length ku, .slice Ae m.extra.length ke, .bool m.edns, .int .i64 m.size] 39))
  have HB1 : Hid (BoxM (w.alloc (.cells #[.int .i64 m.id, .bool m.resp, .int .i64 m.op, .bool m.aa, .bool m.tc, .bool m.rd, .bool m.ra, .int .i64 m.rc, .slice Aq m.qs.length kq, .slice Aa m.ans.length ka, .slice Au m.auth.length ku, .slice Ae m.extra.length ke, .bool m.edns, .int .i64 m.size] 39)) w.heap.size m _ _ _ _) := Lib.hid (heap_alloc_new w _)
  go_enter Try.func33, Try.ntmps33
  go_wp2
  generalize w.alloc (.cells #[.int .i64 m.id, .bool m.resp, .int .i64 m.op, .bool m.aa, .bool m.tc, .bool m.rd, .bool m.ra, .int .i64 m.rc, .slice Aq m.qs.length kq, .slice Aa m.ans.length ka, .slice Au m.auth.length ku, .slice Ae m.extra.length ke, .bool m.edns, .int .i64 m.size] 39) = wr at *
  generalize w.heap.size = g at *
  have HKa : Hid (∀ W, Ext wr W → W.cell? ⟨g, 9, none⟩ = some (.slice Aa m.ans.length ka) ∧ W.cell? ⟨g, 10, none⟩ = some (.slice Au m.auth.length ku) ∧ W.cell? ⟨g, 11, none⟩ = some (.slice Ae m.extra.length ke)) := Lib.hid (fun W hE => by obtain ⟨c0, c1, c2, c3, c4, c5, c6, c7, c8, c9, c10, c11, c12, c13⟩ := (HB1.out.ext hE).cells; exact ⟨c9, c10, c11⟩)
  obtain ⟨bs, hbs⟩ : ∃ bs, wr.heap.size = bs := ⟨_, rfl⟩
  have HBs := Lib.hid hbs
  clear hbs
  have HA0 : Hid (OwnM (fun _ => RecR w) 49 9 (wr.drew.alloc (.cells #[] 49)) bs (.slice (some ⟨wr.heap.size, 0, none⟩) 0 0) []) := Lib.hid (by have := OwnM.lit0 (fun _ : World => RecR w) 49 9 wr.drew bs (by rw [← HBs.out]; exact Nat.le_refl _); exact this)
  have HEl := Lib.hid ((Ext.refl wr).drew.alloc (.cells #[] 49))
  have HBl := Lib.hid (show bs ≤ (wr.drew.alloc (.cells #[] 49)).heap.size by rw [← HBs.out]; exact HEl.out.size)
  obtain ⟨c0, c1, c2, c3, c4, c5, c6, c7, c8, c9, c10, c11, c12, c13⟩ := HB1.out.cells
  clear c0 c1 c2 c3 c4 c5 c6 c7 c8 c12 c13
  go_region_held3 (fun W => W.cell? ⟨g, 9, none⟩ = some (.slice Aa m.ans.length ka) ∧ W.cell? ⟨g, 10, none⟩ = some (.slice Au m.auth.length ku) ∧ W.cell? ⟨g, 11, none⟩ = some (.slice Ae m.extra.length ke))
    (first | go_keep | exact HKa.out _ HEl.out | exact HKa.out _ HEa.out | exact HKa.out _ HEb.out | exact HKa.out _ HEc.out)
    (first | (refine step_appS (RecR w) bs (by rfl) (.tmp 8) (.tmp 10) 37 49 _ 9 168 (by rfl) Try.underlying37 rec_info rfl (by decide) (by decide) recR_one _ ([]) m.ans _ (by rfl) (by rfl) HA0.out (recs_old H.out.ans (HE1.out.trans HEl.out)) HBl.out (by have := HBig.out; simp; omega) ?_; intro va wa hO hg; have HEa := Lib.hid (HEl.out.grown hg (fun k hk => by have := HA0.out.base_le k hk; rw [HBs.out]; exact this)); have HAa := Lib.hid hO; obtain ⟨Aa2, na2, ca2, hna, rfl⟩ : ∃ A n c, n = ([] ++ m.ans).length ∧ va = .slice A n c := (by obtain ⟨A, c, h, _, _⟩ := hO.slice; exact ⟨A, _, c, rfl, h⟩); have HNa := Lib.hid hna; clear hna; have HBa := Lib.hid (show bs ≤ wa.heap.size by rw [← HBs.out]; exact HEa.out.size); clear hO hg) | (refine step_appS (RecR w) bs (by rfl) (.tmp 11) (.tmp 13) 37 49 _ 9 168 (by rfl) Try.underlying37 rec_info rfl (by decide) (by decide) recR_one _ ([] ++ m.ans) m.auth _ (by rfl) (by rfl) HAa.out (recs_old H.out.auth (HE1.out.trans HEa.out)) HBa.out (by have := HBig.out; simp; omega) ?_; intro vb wb hO hg; have HEb := Lib.hid (HEa.out.grown hg (fun k hk => by have := HAa.out.base_le k hk; rw [HBs.out]; exact this)); have HAb := Lib.hid hO; obtain ⟨Ab2, nb2, cb2, hnb, rfl⟩ : ∃ A n c, n = ([] ++ m.ans ++ m.auth).length ∧ vb = .slice A n c := (by obtain ⟨A, c, h, _, _⟩ := hO.slice; exact ⟨A, _, c, rfl, h⟩); have HNb := Lib.hid hnb; clear hnb; have HBb := Lib.hid (show bs ≤ wb.heap.size by rw [← HBs.out]; exact HEb.out.size); clear hO hg) | (refine step_appS (RecR w) bs (by rfl) (.tmp 14) (.tmp 16) 37 49 _ 9 168 (by rfl) Try.underlying37 rec_info rfl (by decide) (by decide) recR_one _ ([] ++ m.ans ++ m.auth) m.extra _ (by rfl) (by rfl) HAb.out (recs_old H.out.extra (HE1.out.trans HEb.out)) HBb.out (by have := HBig.out; simp; omega) ?_; intro vc wc hO hg; have HEc := Lib.hid (HEb.out.grown hg (fun k hk => by have := HAb.out.base_le k hk; rw [HBs.out]; exact this)); have HAc := Lib.hid hO; obtain ⟨Ac2, nc2, cc2, hnc, rfl⟩ : ∃ A n c, n = ([] ++ m.ans ++ m.auth ++ m.extra).length ∧ vc = .slice A n c := (by obtain ⟨A, c, h, _, _⟩ := hO.slice; exact ⟨A, _, c, rfl, h⟩); have HNc := Lib.hid hnc; clear hnc; have HBc := Lib.hid (show bs ≤ wc.heap.size by rw [← HBs.out]; exact HEc.out.size); clear hO hg))
  clear c9 c10 c11
  rw [List.nil_append] at HAc HNc
  have HBc := Lib.hid (HB1.out.ext HEc.out)
  have HEw := Lib.hid (HE1.out.trans HEc.out)
  have HBya := Lib.hid HBy.out.all
  obtain ⟨all, hae⟩ : ∃ all, m.ans ++ m.auth ++ m.extra = all := ⟨_, rfl⟩
  rw [hae] at HAc HNc HBya
  have HAe := Lib.hid hae
  clear hae
  obtain rfl := HNc.out
  clear HNc HNa HNb HA0 HEl HBl HKa HAa HAb HBa HBb HEa HEb HBs HE1 HB1
  obtain ⟨c0, c1, c2, c3, c4, c5, c6, c7, c8, c9, c10, c11, c12, c13⟩ := HBc.out.cells
  by_cases hsz : all.length ≤ 600 ∧ m.qs.length ≤ 600
  · obtain ⟨ha, hq⟩ := hsz
    have ja : decide (600 < (all.length : Int)) = false := by rw [decide_eq_false_iff_not]; omega
    have jq : decide (600 < (m.qs.length : Int)) = false := by rw [decide_eq_false_iff_not]; omega
    go_wp2
    clear c0 c1 c2 c3 c4 c5 c6 c7 c8 c9 c10 c11 c12 c13 ja jq
    go_loopw [5, 4, 6] (fun i sz _ W => ∃ k : Nat, k ≤ all.length ∧ i = .int .i64 k ∧ sz = .int .i64 (sumB (all.take k) : Int) ∧ Hid ((all.take k).all lightS = true) ∧ Ext wc W) (fun i _ _ _ => all.length - (intOf i).toNat)
    case atStart => exact ⟨0, by omega, rfl, rfl, Lib.hid rfl, Ext.refl _⟩
    case round =>
      obtain ⟨k, hk, rfl, rfl, HT, hE⟩ := hrel
      have HEc2 := Lib.hid hE
      have HEx := Lib.hid (HEw.out.trans hE)
      clear hE
      by_cases hlt : k < all.length
      · obtain ⟨b, o, c1, e1, _, _, _⟩ := HAc.out.sl.opens (by omega)
        injection e1 with e1 e3 e4
        subst e1
        clear e3 e4
        have hx := List.getElem?_eq_getElem hlt
        obtain ⟨vn, v0, v1, v2, v3, v4, hn, hd, d0, d1, d2, d3, d4, d5, d6, d7, d8⟩ := recs_cells_old HAc.out.sl hx
        obtain ⟨An, kn, rfl, _, _⟩ := hn.form
        obtain ⟨A0, k0, rfl, _, _⟩ := hd.by_.form
        obtain ⟨A1, k1, rfl, _, _⟩ := hd.ho.form
        obtain ⟨A2, k2, rfl, _, _⟩ := hd.ma.form
        obtain ⟨A3, k3, rfl, _, _⟩ := hd.nu.form
        obtain ⟨A4, k4, rfl, _, _⟩ := hd.tx.form
        have g0 := HEc2.out.cell d0
        have g1 := HEc2.out.cell d1
        have g2 := HEc2.out.cell d2
        have g3 := HEc2.out.cell d3
        have g4 := HEc2.out.cell d4
        have g5 := HEc2.out.cell d5
        have g6 := HEc2.out.cell d6
        have g7 := HEc2.out.cell d7
        have g8 := HEc2.out.cell d8
        have g5' : wr.cell? ⟨b, o + k * 9 + 4 + 1, none⟩ = _ := g5
        have g6' : wr.cell? ⟨b, o + k * 9 + 4 + 2, none⟩ = _ := g6
        have g7' : wr.cell? ⟨b, o + k * 9 + 4 + 3, none⟩ = _ := g7
        have g8' : wr.cell? ⟨b, o + k * 9 + 4 + 4, none⟩ = _ := g8
        have hmem := List.mem_of_getElem? hx
        have hby := HBya.out _ hmem
        have HSb := Lib.hid (sumB_snoc hx)
        have hsb := sumB_le HBya.out k
        have HX := Lib.hid hx
        have hsb2 : sumB (all.take k) ≤ 600 * 140737488355328 := Nat.le_trans hsb (Nat.mul_le_mul_right _ (by omega))
        have hq1 := hn.len
        have hq2 := hd.ho.len
        have hq3 := hd.ma.len
        have hq4 := hd.tx.len
        have hq5 := hd.nu.len
        unfold maxI at hq1 hq2 hq3 hq4 hq5
        clear d0 d1 d2 d3 d4 d5 d6 d7 d8 hn hd hmem hx hsb
        generalize all[k] = x at *
        generalize sumB (all.take k) = sb at *
        have ga0 := ((Ext.refl wr).alloc (.cells #[.slice A0 x.data.bytes.length k0, .slice A1 x.data.host.length k1, .slice A2 x.data.mail.length k2, .slice A3 x.data.nums.length k3, .slice A4 x.data.texts.length k4] 26)).cell g0
        by_cases l0 : x.name.length ≤ 200
        · have j0 : decide (200 < (x.name.length : Int)) = false := by rw [decide_eq_false_iff_not]; omega
          have L0 := Lib.hid l0
          clear l0
          by_cases l1 : x.data.host.length ≤ 200
          · have j1 : decide (200 < (x.data.host.length : Int)) = false := by rw [decide_eq_false_iff_not]; omega
            have L1 := Lib.hid l1
            clear l1
            by_cases l2 : x.data.mail.length ≤ 200
            · have j2 : decide (200 < (x.data.mail.length : Int)) = false := by rw [decide_eq_false_iff_not]; omega
              have L2 := Lib.hid l2
              clear l2
              by_cases l3 : x.data.texts.length ≤ 100
              · have j3 : decide (100 < (x.data.texts.length : Int)) = false := by rw [decide_eq_false_iff_not]; omega
                have L3 := Lib.hid l3
                clear l3
                by_cases l4 : x.data.nums.length ≤ 100
                · have j4 : decide (100 < (x.data.nums.length : Int)) = false := by rw [decide_eq_false_iff_not]; omega
                  have L4 := Lib.hid l4
                  clear l4
                  have hX := Lib.hid (show lightS x = true by unfold lightS; rw [decide_eq_true_eq]; exact ⟨by have := L0.out; omega, by have := L1.out; omega, by have := L2.out; omega, by have := L3.out; omega, by have := L4.out; omega⟩)
                  go_wp2
                  go_roundw
                  case rel => exact ⟨k + 1, by omega, by go_num, by rw [HSb.out]; go_num, Lib.hid (by rw [List.take_add_one, HX.out, List.all_append, HT.out]; simp [hX.out]), (HEc2.out.alloc _)⟩
                  case measure => simp [intOf]; omega
                · have j4 : decide (100 < (x.data.nums.length : Int)) = true := by rw [decide_eq_true_eq]; omega
                  have hX := Lib.hid (show lightS x = false by unfold lightS; rw [decide_eq_false_iff_not]; rintro ⟨h0, h1, h2, h3, h4⟩; omega)
                  have HF := Lib.hid (lm_rec (n := 600) (m := m) (HAe.out ▸ List.mem_of_getElem? HX.out) hX.out)
                  clear l4
                  go_wp2
                  go_ret
                  exact ⟨ret_eq (bool_eq HF.out.symm), HEx.out.alloc _⟩
              · have j3 : decide (100 < (x.data.texts.length : Int)) = true := by rw [decide_eq_true_eq]; omega
                have hX := Lib.hid (show lightS x = false by unfold lightS; rw [decide_eq_false_iff_not]; rintro ⟨h0, h1, h2, h3, h4⟩; omega)
                have HF := Lib.hid (lm_rec (n := 600) (m := m) (HAe.out ▸ List.mem_of_getElem? HX.out) hX.out)
                clear l3
                go_wp2
                go_ret
                exact ⟨ret_eq (bool_eq HF.out.symm), HEx.out.alloc _⟩
            · have j2 : decide (200 < (x.data.mail.length : Int)) = true := by rw [decide_eq_true_eq]; omega
              have hX := Lib.hid (show lightS x = false by unfold lightS; rw [decide_eq_false_iff_not]; rintro ⟨h0, h1, h2, h3, h4⟩; omega)
              have HF := Lib.hid (lm_rec (n := 600) (m := m) (HAe.out ▸ List.mem_of_getElem? HX.out) hX.out)
              clear l2
              go_wp2
              go_ret
              exact ⟨ret_eq (bool_eq HF.out.symm), HEx.out.alloc _⟩
          · have j1 : decide (200 < (x.data.host.length : Int)) = true := by rw [decide_eq_true_eq]; omega
            have hX := Lib.hid (show lightS x = false by unfold lightS; rw [decide_eq_false_iff_not]; rintro ⟨h0, h1, h2, h3, h4⟩; omega)
            have HF := Lib.hid (lm_rec (n := 600) (m := m) (HAe.out ▸ List.mem_of_getElem? HX.out) hX.out)
            clear l1
            go_wp2
            go_ret
            exact ⟨ret_eq (bool_eq HF.out.symm), HEx.out.alloc _⟩
        · have j0 : decide (200 < (x.name.length : Int)) = true := by rw [decide_eq_true_eq]; omega
          have hX := Lib.hid (show lightS x = false by unfold lightS; rw [decide_eq_false_iff_not]; rintro ⟨h0, h1, h2, h3, h4⟩; omega)
          have HF := Lib.hid (lm_rec (n := 600) (m := m) (HAe.out ▸ List.mem_of_getElem? HX.out) hX.out)
          clear l0
          go_wp2
          go_ret
          exact ⟨ret_eq (bool_eq HF.out.symm), HEx.out.alloc _⟩
      · rw [List.take_of_length_le (by omega)] at HT
        have HSm := Lib.hid (show sumB (all.take k) = sumB all by rw [List.take_of_length_le (by omega)])
        have hsb := sumB_le HBya.out k
        have hsb2 : sumB (all.take k) ≤ 600 * 140737488355328 := Nat.le_trans hsb (Nat.mul_le_mul_right _ (by omega))
        clear hsb
        have HB2 := Lib.hid (HBc.out.ext HEc2.out)
        generalize sumB (all.take k) = sb at *
        obtain ⟨c0, c1, c2, c3, c4, c5, c6, c7, c8, c9, c10, c11, c12, c13⟩ := HB2.out.cells
        go_wp2
        clear c0 c1 c2 c3 c4 c5 c6 c7 c8 c9 c10 c11 c12 c13
        go_loopw [7] (fun i W => ∃ j : Nat, j ≤ m.qs.length ∧ i = .int .i64 j ∧ Hid ((m.qs.take j).all lightQ = true) ∧ Ext wr W) (fun i _ => m.qs.length - (intOf i).toNat)
        case atStart => exact ⟨0, by omega, rfl, Lib.hid rfl, Ext.refl _⟩
        case round =>
          obtain ⟨j, hj, rfl, HTq, hE⟩ := hrel
          have HE3 := Lib.hid hE
          have HE4 := Lib.hid (HEx.out.trans hE)
          have HB3 := Lib.hid (HB2.out.ext hE)
          clear hE
          obtain ⟨c0, c1, c2, c3, c4, c5, c6, c7, c8, c9, c10, c11, c12, c13⟩ := HB3.out.cells
          by_cases hlt : j < m.qs.length
          · obtain ⟨b, o, c1', e1, _, _, _⟩ := H.out.qs.opens (by omega)
            injection e1 with e1 e3 e4
            subst e1
            clear e3 e4
            have hx := List.getElem?_eq_getElem hlt
            obtain ⟨vn, hn, d0', d1', d2'⟩ := qs_cells H.out.qs hx
            obtain ⟨An, kn, rfl, _, _⟩ := hn.form
            have hnl := hn.len
            unfold maxI at hnl
            have g0 := HE4.out.cell d0'
            have HX := Lib.hid hx
            clear d0' d1' d2' hn hx
            generalize m.qs[j] = x at *
            by_cases l0 : x.name.length ≤ 200
            · have j0 : decide (200 < (x.name.length : Int)) = false := by rw [decide_eq_false_iff_not]; omega
              have L0 := Lib.hid l0
              clear l0
              go_wp2
              go_roundw
              case rel => exact ⟨j + 1, by omega, by go_num, Lib.hid (by rw [List.take_add_one, HX.out, List.all_append, HTq.out]; simp [lightQ, L0.out]), HE3.out⟩
              case measure => simp [intOf]; omega
            · have j0 : decide (200 < (x.name.length : Int)) = true := by rw [decide_eq_true_eq]; omega
              have HF := Lib.hid (lm_qst (n := 600) (m := m) (List.mem_of_getElem? HX.out) (show lightQ x = false by unfold lightQ; rw [decide_eq_false_iff_not]; omega))
              clear l0
              go_wp2
              go_ret
              exact ⟨ret_eq (bool_eq HF.out.symm), HE4.out⟩
          · rw [List.take_of_length_le (by omega)] at HTq
            have HF := Lib.hid (show lightM 600 m = decide (sb < 200000) by rw [HSm.out]; exact lm_all HAe.out ⟨ha, hq⟩ HT.out HTq.out)
            by_cases hs2 : sb < 200000
            · have j2 : decide ((sb : Int) < 200000) = true := by rw [decide_eq_true_eq]; omega
              have HF2 := Lib.hid (HF.out.trans (decide_eq_true hs2))
              clear hs2 hsb2
              go_wp2
              go_ret
              exact ⟨ret_eq (bool_eq HF2.out.symm), HE4.out⟩
            · have j2 : decide ((sb : Int) < 200000) = false := by rw [decide_eq_false_iff_not]; omega
              have HF2 := Lib.hid (HF.out.trans (decide_eq_false hs2))
              clear hs2 hsb2
              go_wp2
              go_ret
              exact ⟨ret_eq (bool_eq HF2.out.symm), HE4.out⟩
  · have HF := Lib.hid (show lightM 600 m = false by unfold lightM; rw [HAe.out, decide_eq_false hsz]; rfl)
    by_cases ha : all.length ≤ 600
    · have ja : decide (600 < (all.length : Int)) = false := by rw [decide_eq_false_iff_not]; omega
      have jq : decide (600 < (m.qs.length : Int)) = true := by rw [decide_eq_true_eq]; omega
      clear hsz
      go_wp2
      go_ret
      exact ⟨ret_eq (bool_eq HF.out.symm), HEw.out⟩
    · have ja : decide (600 < (all.length : Int)) = true := by rw [decide_eq_true_eq]; omega
      clear hsz
      go_wp2
      go_ret
      exact ⟨ret_eq (bool_eq HF.out.symm), HEw.out⟩
end Go.Proofs.Ytfnelkcllaaebaa
end
section
/- Contract of ref03.OwnMsg. No condition but that the message stands in memory, and room. -/
open Go.RowKit
set_option linter.unusedVariables false
set_option linter.unusedSimpArgs false
namespace Go.Proofs.Ytfnelkcllaaebaa
theorem recN_keepsT (base : Nat) (e' : TypeId) (h5 : e' ≠ 5) (h9 : e' ≠ 9) (h3 : e' ≠ 3) : Keeps (fun w cs r => RecN w base cs r) e' := by
  intro w w' row cs r hg ht h
  obtain ⟨vn, v0, v1, v2, v3, v4, h, hn, hd⟩ := h
  exact ⟨vn, v0, v1, v2, v3, v4, h, hn.grown hg ht h9, hd.grown hg ht h5 h9 h3⟩
theorem qN_keepsT (base : Nat) (e' : TypeId) (h9 : e' ≠ 9) : Keeps (fun w cs q => QN w base cs q) e' := by
  intro w w' row cs q hg ht h
  obtain ⟨vn, h, hn⟩ := h
  exact ⟨vn, h, hn.grown hg ht h9⟩
/-- A box of another type is written. -/
theorem OwnM.boxT {α : Type} {R : World → List Value → α → Prop} {e e' : TypeId} {sz : Nat} {w : World} {base : Nat} {v : Value} {l : List α} (h : OwnM R e sz w base v l) (hk : Keeps R e') {b : Nat} (hb : Typed w b e') (hne : e' ≠ e) (o : Nat) (u : Value) : OwnM R e sz (w.setCell ⟨b, o, none⟩ u) base v l :=
  h.kept (fun cs x hr => hk w _ (some b) cs x (grown_set w b o u) (fun k hk => by injection hk with hk; subst hk; exact hb) hr) (grown_set w b o u) (.inr (fun he => by
    obtain ⟨c1, h1⟩ := h.type b he
    obtain ⟨c2, h2⟩ := hb
    rw [h1] at h2
    injection h2 with h2
    injection h2 with _ h2
    exact hne h2.symm))
theorem OwnM.setsB {α : Type} {R : World → List Value → α → Prop} {e e' : TypeId} {sz : Nat} {base : Nat} {v : Value} {l : List α} (hk : Keeps R e') {b : Nat} (hne : e' ≠ e) : ∀ (vs : List Value) (w : World) (i : Nat), OwnM R e sz w base v l → Typed w b e' → OwnM R e sz (w.setCells b i vs) base v l
  | [], _, _, h, _ => h
  | u :: vs, w, i, h, hb => OwnM.setsB hk hne vs _ _ (h.boxT hk hb hne i u) (hb.set _ u)
theorem Ext.setsB {w0 : World} {b : Nat} (hb : w0.heap.size ≤ b) : ∀ (vs : List Value) (w : World) (i : Nat), Ext w0 w → Ext w0 (w.setCells b i vs)
  | [], _, _, h => h
  | u :: vs, w, i, h => Ext.setsB hb vs _ _ (h.setCell hb u)
theorem blk_sets {b : Nat} {e : TypeId} : ∀ (vs pre old : List Value) (W : World), old.length = vs.length → W.heap[b]? = some (.cells (pre ++ old).toArray e (0, 0)) → (W.setCells b pre.length vs).heap[b]? = some (.cells (pre ++ vs).toArray e (0, 0))
  | [], pre, old, W, h, h1 => by
    obtain rfl : old = [] := List.eq_nil_of_length_eq_zero h
    exact h1
  | u :: vs, pre, old, W, h, h1 => by
    match old, h with
    | x :: old, h =>
      have h2 := blk_sets (b := b) (e := e) vs (pre ++ [u]) old (W.setCell ⟨b, pre.length, none⟩ u) (by simpa using h) (by
        simp [World.setCell, Array.getElem?_modify, h1])
      simpa [World.setCells] using h2
theorem BoxM.set8 {w : World} {g : Nat} {m : Msg} {vq va vu ve : Value} (h : BoxM w g m vq va vu ve) (u : Value) : BoxM (w.setCell ⟨g, 8, none⟩ u) g m u va vu ve := by
  unfold BoxM at *; simp [World.setCell, Array.getElem?_modify, h]
theorem BoxM.set9 {w : World} {g : Nat} {m : Msg} {vq va vu ve : Value} (h : BoxM w g m vq va vu ve) (u : Value) : BoxM (w.setCell ⟨g, 9, none⟩ u) g m vq u vu ve := by
  unfold BoxM at *; simp [World.setCell, Array.getElem?_modify, h]
theorem BoxM.set10 {w : World} {g : Nat} {m : Msg} {vq va vu ve : Value} (h : BoxM w g m vq va vu ve) (u : Value) : BoxM (w.setCell ⟨g, 10, none⟩ u) g m vq va u ve := by
  unfold BoxM at *; simp [World.setCell, Array.getElem?_modify, h]
theorem BoxM.set11 {w : World} {g : Nat} {m : Msg} {vq va vu ve : Value} (h : BoxM w g m vq va vu ve) (u : Value) : BoxM (w.setCell ⟨g, 11, none⟩ u) g m vq va vu u := by
  unfold BoxM at *; simp [World.setCell, Array.getElem?_modify, h]
theorem BoxM.typed {w : World} {g : Nat} {m : Msg} {vq va vu ve : Value} (h : BoxM w g m vq va vu ve) : Typed w g 39 := ⟨_, h⟩
/-- Room for a message's copy. -/
structure MRoom (m : Msg) : Prop where
  qs : ∀ q ∈ m.qs, q.name.length * 16 ≤ 140737488355328
  ans : ∀ r ∈ m.ans, RRoom r
  auth : ∀ r ∈ m.auth, RRoom r
  extra : ∀ r ∈ m.extra, RRoom r
  lq : m.qs.length ≤ 1000
  la : m.ans.length ≤ 1000
  lu : m.auth.length ≤ 1000
  le : m.extra.length ≤ 1000
theorem info39 : (Try.prog.info? 39).map (·.size) = some 14 := by kernel_rfl
theorem ones3q (A : Option Addr) (n c : Nat) (t u : Int) : ∀ x ∈ (#[Value.slice A n c, .int .i64 t, .int .i64 u] : Array Value).toList, x.oneCell' = true := by
  intro x hx
  simp only [List.mem_cons, List.not_mem_nil, or_false] at hx
  rcases hx with rfl | rfl | rfl <;> rfl
/-- A box of fourteen cells. -/
def Z14 (w : World) (b : Nat) : Prop := ∃ old : List Value, old.length = 14 ∧ w.heap[b]? = some (.cells old.toArray 39 (0, 0))
theorem Z14.ext {w w' : World} {b : Nat} (h : Z14 w b) (hE : Ext w w') : Z14 w' b := by obtain ⟨old, h1, h2⟩ := h; exact ⟨old, h1, hE.block h2⟩
theorem Z14.set {w : World} {b : Nat} (h : Z14 w b) {g : Nat} (hne : g ≠ b) (i : Nat) (u : Value) : Z14 (w.setCell ⟨g, i, none⟩ u) b := by
  obtain ⟨old, h1, h2⟩ := h
  exact ⟨old, h1, (Below.heap_setCell w ⟨g, i, none⟩ u b (fun e => hne e.symm)).trans h2⟩
theorem Z14.typed {w : World} {b : Nat} (h : Z14 w b) : Typed w b 39 := by obtain ⟨old, h1, h2⟩ := h; exact ⟨_, h2⟩
theorem Z14.frozen {w : World} {b : Nat} (h : Z14 w b) (i : Nat) : w.frozen? ⟨b, i, none⟩ = false := by obtain ⟨old, h1, h2⟩ := h; simp [World.frozen?, h2]
theorem Z14.there {w : World} {b : Nat} (h : Z14 w b) : w.there b 0 14 := by
  intro j hj
  have hf := h.frozen
  obtain ⟨old, h1, h2⟩ := h
  rw [Nat.zero_add]
  exact ⟨by rw [row_cells h2]; simp [h1, hj], hf j⟩
theorem size_alloc1 (w : World) (o : Obj) : (w.alloc o).heap.size = w.heap.size + 1 := by simp
theorem ownm_end {W : World} {g : Nat} {m : Msg} {vq va vu ve : Value} (hB : BoxM W g m vq va vu ve) {R : Ending → World → Prop} {a : Act} (h2 : a.tmps.getD 2 undef = .pointer (some ⟨g, 0, none⟩)) (hd : a.defers = [])
    (hR : R (.returned (.agg #[.int .i64 m.id, .bool m.resp, .int .i64 m.op, .bool m.aa, .bool m.tc, .bool m.rd, .bool m.ra, .int .i64 m.rc, vq, va, vu, ve, .bool m.edns, .int .i64 m.size])) W) : bodyPost Try.prog Try.f35 R .ret a W := by
  have h2' : a.tmps[2]?.getD undef = .pointer (some ⟨g, 0, none⟩) := by rw [← h2]; simp
  obtain ⟨q0, q1, q2, q3, q4, q5, q6, q7, q8, q9, q10, q11, q12, q13⟩ := hB.cells
  refine bodyPost_ret (v := .agg #[.int .i64 m.id, .bool m.resp, .int .i64 m.op, .bool m.aa, .bool m.tc, .bool m.rd, .bool m.ra, .int .i64 m.rc, vq, va, vu, ve, .bool m.edns, .int .i64 m.size]) ?_ hd hR
  simp [results, Try.results35, go_sem, h2', q0, q1, q2, q3, q4, q5, q6, q7, q8, q9, q10, q11, q12, q13]
set_option maxRecDepth 100000 in
set_option maxHeartbeats 1000000 in
theorem ref_OwnMsg (m : Msg) (vq va vu ve : Value) (w : World) (h : MsgC w vq va vu ve m) (hr : MRoom m) :
    Calls Try.prog 35 #[.agg #[.int .i64 m.id, .bool m.resp, .int .i64 m.op, .bool m.aa, .bool m.tc, .bool m.rd, .bool m.ra, .int .i64 m.rc, vq, va, vu, ve, .bool m.edns, .int .i64 m.size]] w fun e w' => ∃ xq xa xu xe, e = .returned (.agg #[.int .i64 m.id, .bool m.resp, .int .i64 m.op, .bool m.aa, .bool m.tc, .bool m.rd, .bool m.ra, .int .i64 m.rc, xq, xa, xu, xe, .bool m.edns, .int .i64 m.size]) ∧ MsgC w' xq xa xu xe m ∧ Ext w w' := by
  have H := Lib.hid h
  have HR := Lib.hid hr
  clear h hr
  obtain ⟨Aq, kq, rfl, _, _⟩ := H.out.qs.form
  obtain ⟨Aa, ka, rfl, _, _⟩ := H.out.ans.form
  obtain ⟨Au, ku, rfl, _, _⟩ := H.out.auth.form
  obtain ⟨Ae, ke, rfl, _, _⟩ := H.out.extra.form
  have HB1 : Hid (BoxM ((w.alloc (.cells #[.int .i64 m.id, .bool m.resp, .int .i64 m.op, .bool m.aa, .bool m.tc, .bool m.rd, .bool m.ra, .int .i64 m.rc, .slice Aq m.qs.length kq, .slice Aa m.ans.length ka, .slice Au m.auth.length ku, .slice Ae m.extra.length ke, .bool m.edns, .int .i64 m.size] 39)).alloc (.cells #[.int .i64 0, .bool false, .int .i64 0, .bool false, .bool false, .bool false, .bool false, .int .i64 0, .slice none 0 0, .slice none 0 0, .slice none 0 0, .slice none 0 0, .bool false, .int .i64 0] 39)) w.heap.size m _ _ _ _) := Lib.hid (((Ext.refl (w.alloc (.cells #[.int .i64 m.id, .bool m.resp, .int .i64 m.op, .bool m.aa, .bool m.tc, .bool m.rd, .bool m.ra, .int .i64 m.rc, .slice Aq m.qs.length kq, .slice Aa m.ans.length ka, .slice Au m.auth.length ku, .slice Ae m.extra.length ke, .bool m.edns, .int .i64 m.size] 39))).alloc _).block (heap_alloc_new w _))
  have HZ1 : Hid (Z14 ((w.alloc (.cells #[.int .i64 m.id, .bool m.resp, .int .i64 m.op, .bool m.aa, .bool m.tc, .bool m.rd, .bool m.ra, .int .i64 m.rc, .slice Aq m.qs.length kq, .slice Aa m.ans.length ka, .slice Au m.auth.length ku, .slice Ae m.extra.length ke, .bool m.edns, .int .i64 m.size] 39)).alloc (.cells #[.int .i64 0, .bool false, .int .i64 0, .bool false, .bool false, .bool false, .bool false, .int .i64 0, .slice none 0 0, .slice none 0 0, .slice none 0 0, .slice none 0 0, .bool false, .int .i64 0] 39)) (w.heap.size + 1)) := Lib.hid ⟨[.int .i64 0, .bool false, .int .i64 0, .bool false, .bool false, .bool false, .bool false, .int .i64 0, .slice none 0 0, .slice none 0 0, .slice none 0 0, .slice none 0 0, .bool false, .int .i64 0], rfl, by rw [← size_alloc1 w (.cells #[.int .i64 m.id, .bool m.resp, .int .i64 m.op, .bool m.aa, .bool m.tc, .bool m.rd, .bool m.ra, .int .i64 m.rc, .slice Aq m.qs.length kq, .slice Aa m.ans.length ka, .slice Au m.auth.length ku, .slice Ae m.extra.length ke, .bool m.edns, .int .i64 m.size] 39)]; exact heap_alloc_new _ _⟩
  have HE1 := Lib.hid (((Ext.refl w).alloc (.cells #[.int .i64 m.id, .bool m.resp, .int .i64 m.op, .bool m.aa, .bool m.tc, .bool m.rd, .bool m.ra, .int .i64 m.rc, .slice Aq m.qs.length kq, .slice Aa m.ans.length ka, .slice Au m.auth.length ku, .slice Ae m.extra.length ke, .bool m.edns, .int .i64 m.size] 39)).alloc (.cells #[.int .i64 0, .bool false, .int .i64 0, .bool false, .bool false, .bool false, .bool false, .int .i64 0, .slice none 0 0, .slice none 0 0, .slice none 0 0, .slice none 0 0, .bool false, .int .i64 0] 39))
  have HG : Hid (w.heap.size ≤ w.heap.size) := Lib.hid (Nat.le_refl _)
  have HN : Hid (w.heap.size ≠ w.heap.size + 1) := Lib.hid (by omega)
  go_enter Try.func35, Try.ntmps35
  go_wp2
  generalize (w.alloc (.cells #[.int .i64 m.id, .bool m.resp, .int .i64 m.op, .bool m.aa, .bool m.tc, .bool m.rd, .bool m.ra, .int .i64 m.rc, .slice Aq m.qs.length kq, .slice Aa m.ans.length ka, .slice Au m.auth.length ku, .slice Ae m.extra.length ke, .bool m.edns, .int .i64 m.size] 39)).alloc (.cells #[.int .i64 0, .bool false, .int .i64 0, .bool false, .bool false, .bool false, .bool false, .int .i64 0, .slice none 0 0, .slice none 0 0, .slice none 0 0, .slice none 0 0, .bool false, .int .i64 0] 39) = wz at *
  have hlq := HR.out.lq
  obtain ⟨bs, hbs⟩ : ∃ bs, w.heap.size = bs := ⟨_, rfl⟩
  have HBS := Lib.hid hbs
  obtain ⟨g, hg⟩ : ∃ g, w.heap.size = g := ⟨_, rfl⟩
  rw [hg] at HB1 HN
  have HG : Hid (w.heap.size ≤ g) := Lib.hid (Nat.le_of_eq hg)
  rw [hg] at HZ1
  rw [hg]
  have HG2 : Hid (w.heap.size ≤ g + 1) := Lib.hid (by omega)
  clear hg hbs
  generalize g + 1 = g2 at *
  go_loopw [3, 4, 5] (fun out i _ wr => ∃ k : Nat, k ≤ m.qs.length ∧ i = .int .i64 k ∧ OwnM (fun W cs q => QN W wz.heap.size cs q) 46 3 wr wz.heap.size out (m.qs.take k) ∧ Ext wz wr) (fun _ i _ _ => m.qs.length - (intOf i).toNat)
  case atStart => exact ⟨0, by omega, rfl, OwnM.nil _ _ _ _ _, Ext.refl _⟩
  case round =>
    obtain ⟨k, hk, rfl, hO, hE⟩ := hrel
    have hbx := HB1.out.ext hE
    have HBw := Lib.hid hbx
    obtain ⟨c0, c1, c2, c3, c4, c5, c6, c7, c8, c9, c10, c11, c12, c13⟩ := hbx.cells
    clear c0 c1 c2 c3 c4 c5 c6 c7 c9 c10 c11 c12 c13 hbx
    by_cases hlt : k < m.qs.length
    · obtain ⟨b, o, c1, e1, _, _, _⟩ := H.out.qs.opens (by omega)
      injection e1 with e1 e3 e4
      subst e1
      clear e3 e4
      have hx := List.getElem?_eq_getElem hlt
      obtain ⟨vn, hn, d0, d1, d2⟩ := qs_cells H.out.qs hx
      obtain ⟨An, kn, rfl, _, _⟩ := hn.form
      have g0 := (HE1.out.trans hE).cell d0
      have g1 := (HE1.out.trans hE).cell d1
      have g2' := (HE1.out.trans hE).cell d2
      clear d0 d1 d2
      have HNx := Lib.hid hn
      have HRm := Lib.hid (HR.out.qs _ (List.mem_of_getElem? hx))
      have HX := Lib.hid hx
      have HO := Lib.hid hO
      have HEw := Lib.hid hE
      clear hn hx hO
      generalize m.qs[k] = x at *
      have hbx : (wr.alloc (.cells #[.slice An x.name.length kn, .int .i64 x.type, .int .i64 x.cls] 46)).heap[wr.heap.size]? = some (.cells #[.slice An x.name.length kn, .int .i64 x.type, .int .i64 x.cls] 46 (0, 0)) := heap_alloc_new wr _
      have HBX := Lib.hid hbx
      have b0 := row_cells hbx 0
      simp at b0
      clear hbx
      go_wp2_with (at_builtin; first | (refine wpList_appM (fun W cs q => QN W wz.heap.size cs q) wz.heap.size rfl (.tmp 23) (.tmp 25) 36 46 (.agg #[.slice none 0 0, .int .i64 0, .int .i64 0]) 3 40 rfl Try.underlying36 q_info rfl (by decide) (by decide) (qN_keeps _) (fun w w' cs r hE h => h.ext hE) u3 (m.qs.take k) x #[.slice A9 n9 k9, .int .i64 x.type, .int .i64 x.cls] rfl rfl (by rw [HSZ.out]; rfl) (ones3q A9 n9 k9 x.type x.cls) HY.out HO2.out HE2.out.size HL.out ?_; intro v5 w5 hO5 hg5; have HE5 := Lib.hid (HE2.out.grown hg5 (fun q hq => HO2.out.base_le q hq)); have HO5 := Lib.hid hO5; clear hO5 hg5) | (refine wpList_app0 Value.string rfl (.tmp 18) (.tmp 20) 23 9 (.string ⟨#[]⟩) 16 rfl Try.underlying23 (by kernel_rfl) rfl (by decide) _ x.name _ rfl rfl (fun _ => rfl) (HNx.out.ext (((HE1.out.trans hE).alloc _).alloc _)) HRm.out ?_; go_loud (intro v9 w1 hN9 hE9; obtain ⟨A9, n9, k9, rfl⟩ := hN9.slice; have hb9 := hE9.block (((Ext.refl _).alloc _).block HBX.out); have q0 := row_cells hb9 0; have q1 := row_cells hb9 1; have q2 := row_cells hb9 2; simp at q0 q1 q2; have qf : ∀ i, w1.frozen? ⟨wr.heap.size, i, none⟩ = false := (by intro i; simp [World.frozen?, hb9]); have HB9 := Lib.hid hb9; have HN9 := Lib.hid hN9; have HE9 := Lib.hid hE9; clear hb9 hN9 hE9; have hEw1 : Ext wz w1 := ((hE.alloc _).alloc _).trans HE9.out; have hsz : wz.heap.size ≤ wr.heap.size := hE.size; have hEw2 : Ext wz (w1.setCell ⟨wr.heap.size, 0, none⟩ (.slice A9 n9 k9)) := hEw1.setCell hsz _; have hne : u3.ownBlock ≠ some wr.heap.size := (fun h => (by have := HO.out.lt _ h; omega)); have HSZ : Hid ((w1.setCell ⟨wr.heap.size, 0, none⟩ (.slice A9 n9 k9)).heap.size = w1.heap.size) := Lib.hid (by simp [World.setCell]); have HO1 := Lib.hid ((HO.out.ext (fun cs r h => h.ext (((Ext.refl wr).alloc _).alloc _ |>.trans HE9.out)) (((Ext.refl wr).alloc _).alloc _ |>.trans HE9.out))); have HO2 := Lib.hid (HO1.out.box (qN_keeps _) ⟨_, HB9.out⟩ hne 0 (.slice A9 n9 k9)); have HN2 := Lib.hid (HN9.out.grown (e' := 46) (grown_set w1 wr.heap.size 0 (.slice A9 n9 k9)) (fun q hq => by injection hq with hq; subst hq; exact ⟨_, HB9.out⟩) (by decide)); have HL := Lib.hid (show ((m.qs.take k).length + 1) * 40 ≤ 140737488355328 by have := HR.out.lq; rw [List.length_take]; omega); have HY : Hid (QN (w1.setCell ⟨wr.heap.size, 0, none⟩ (.slice A9 n9 k9)) wz.heap.size (#[.slice A9 n9 k9, .int .i64 x.type, .int .i64 x.cls] : Array Value).toList x) := Lib.hid ⟨_, rfl, HN2.out.mono (by have := hsz; rw [size_alloc1, size_alloc1]; omega)⟩; have HE2 := Lib.hid hEw2; clear hEw1 hEw2 hsz hne)))
      go_roundw
      case rel => exact ⟨k + 1, by omega, by go_num, by rw [List.take_add_one, HX.out]; exact HO5.out, HE5.out⟩
      case measure => have := HR.out.lq; simp [intOf]; omega
    · rw [List.take_of_length_le (by omega)] at hO
      obtain ⟨A0, n0, k0, hs⟩ : ∃ A n c, u3 = .slice A n c := (by obtain ⟨A, c, h, _, _⟩ := hO.slice; exact ⟨A, _, c, h⟩)
      subst hs
      have HQx0 := Lib.hid hO
      have HBx0 := HBw
      have HEx0 := Lib.hid (HE1.out.trans hE)
      have HZx0 := Lib.hid (HZ1.out.ext hE)
      have HB0 := Lib.hid (HBx0.out.set8 (.slice A0 n0 k0))
      have HE0 := Lib.hid (HEx0.out.setCell (p := ⟨g, 8, none⟩) HG.out (.slice A0 n0 k0))
      have HZ0 := Lib.hid (HZx0.out.set HN.out 8 (.slice A0 n0 k0))
      have HQ0 := Lib.hid (HQx0.out.boxT (qN_keepsT _ 39 (by decide)) HBx0.out.typed (by decide) 8 (.slice A0 n0 k0))
      clear hO hE
      have qf0 := HBx0.out.frozen
      obtain ⟨c0, c1, c2, c3, c4, c5, c6, c7, c8, c9, c10, c11, c12, c13⟩ := HB0.out.cells
      have qf := HB0.out.frozen
      go_wp2_with fail
      refine (ref_OwnRRs m.ans _ _ (H.out.ans.ext HE0.out) HR.out.ans HR.out.la).mono ?_
      rintro e w1 ⟨hE, v1, rfl, hO⟩
      obtain ⟨A1, n1, k1, hs⟩ : ∃ A n c, v1 = .slice A n c := (by obtain ⟨A, c, h, _, _⟩ := hO.slice; exact ⟨A, _, c, h⟩)
      subst hs
      clear c0 c1 c2 c3 c4 c5 c6 c7 c8 c9 c10 c11 c12 c13 qf
      have HBx1 := Lib.hid (HB0.out.ext hE)
      have HEx1 := Lib.hid (HE0.out.trans hE)
      have HZx1 := Lib.hid (HZ0.out.ext hE)
      have HQx1 := Lib.hid (HQ0.out.ext (fun cs r h => h.ext hE) hE)
      have HO1x1 := Lib.hid hO
      clear hE hO
      have HB1 := Lib.hid (HBx1.out.set9 (.slice A1 n1 k1))
      have HE1 := Lib.hid (HEx1.out.setCell (p := ⟨g, 9, none⟩) HG.out (.slice A1 n1 k1))
      have HZ1 := Lib.hid (HZx1.out.set HN.out 9 (.slice A1 n1 k1))
      have HQ1 := Lib.hid (HQx1.out.boxT (qN_keepsT _ 39 (by decide)) HBx1.out.typed (by decide) 9 (.slice A1 n1 k1))
      have HO1_1 := Lib.hid (HO1x1.out.boxT (recN_keepsT _ 39 (by decide) (by decide) (by decide)) HBx1.out.typed (by decide) 9 (.slice A1 n1 k1))
      obtain ⟨c0, c1, c2, c3, c4, c5, c6, c7, c8, c9, c10, c11, c12, c13⟩ := HBx1.out.cells
      have qf := HBx1.out.frozen
      go_wp2_with fail
      refine (ref_OwnRRs m.auth _ _ (H.out.auth.ext HE1.out) HR.out.auth HR.out.lu).mono ?_
      rintro e w2 ⟨hE, v2, rfl, hO⟩
      obtain ⟨A2, n2, k2, hs⟩ : ∃ A n c, v2 = .slice A n c := (by obtain ⟨A, c, h, _, _⟩ := hO.slice; exact ⟨A, _, c, h⟩)
      subst hs
      clear c0 c1 c2 c3 c4 c5 c6 c7 c8 c9 c10 c11 c12 c13 qf
      have HBx2 := Lib.hid (HB1.out.ext hE)
      have HEx2 := Lib.hid (HE1.out.trans hE)
      have HZx2 := Lib.hid (HZ1.out.ext hE)
      have HQx2 := Lib.hid (HQ1.out.ext (fun cs r h => h.ext hE) hE)
      have HO1x2 := Lib.hid (HO1_1.out.ext (fun cs r h => h.ext hE) hE)
      have HO2x2 := Lib.hid hO
      clear hE hO
      have HB2 := Lib.hid (HBx2.out.set10 (.slice A2 n2 k2))
      have HE2 := Lib.hid (HEx2.out.setCell (p := ⟨g, 10, none⟩) HG.out (.slice A2 n2 k2))
      have HZ2 := Lib.hid (HZx2.out.set HN.out 10 (.slice A2 n2 k2))
      have HQ2 := Lib.hid (HQx2.out.boxT (qN_keepsT _ 39 (by decide)) HBx2.out.typed (by decide) 10 (.slice A2 n2 k2))
      have HO1_2 := Lib.hid (HO1x2.out.boxT (recN_keepsT _ 39 (by decide) (by decide) (by decide)) HBx2.out.typed (by decide) 10 (.slice A2 n2 k2))
      have HO2_2 := Lib.hid (HO2x2.out.boxT (recN_keepsT _ 39 (by decide) (by decide) (by decide)) HBx2.out.typed (by decide) 10 (.slice A2 n2 k2))
      obtain ⟨c0, c1, c2, c3, c4, c5, c6, c7, c8, c9, c10, c11, c12, c13⟩ := HBx2.out.cells
      have qf := HBx2.out.frozen
      go_wp2_with fail
      refine (ref_OwnRRs m.extra _ _ (H.out.extra.ext HE2.out) HR.out.extra HR.out.le).mono ?_
      rintro e w3 ⟨hE, v3, rfl, hO⟩
      obtain ⟨A3, n3, k3, hs⟩ : ∃ A n c, v3 = .slice A n c := (by obtain ⟨A, c, h, _, _⟩ := hO.slice; exact ⟨A, _, c, h⟩)
      subst hs
      clear c0 c1 c2 c3 c4 c5 c6 c7 c8 c9 c10 c11 c12 c13 qf
      have HBx3 := Lib.hid (HB2.out.ext hE)
      have HEx3 := Lib.hid (HE2.out.trans hE)
      have HZx3 := Lib.hid (HZ2.out.ext hE)
      have HQx3 := Lib.hid (HQ2.out.ext (fun cs r h => h.ext hE) hE)
      have HO1x3 := Lib.hid (HO1_2.out.ext (fun cs r h => h.ext hE) hE)
      have HO2x3 := Lib.hid (HO2_2.out.ext (fun cs r h => h.ext hE) hE)
      have HO3x3 := Lib.hid hO
      clear hE hO
      have HB3 := Lib.hid (HBx3.out.set11 (.slice A3 n3 k3))
      have HE3 := Lib.hid (HEx3.out.setCell (p := ⟨g, 11, none⟩) HG.out (.slice A3 n3 k3))
      have HZ3 := Lib.hid (HZx3.out.set HN.out 11 (.slice A3 n3 k3))
      have HQ3 := Lib.hid (HQx3.out.boxT (qN_keepsT _ 39 (by decide)) HBx3.out.typed (by decide) 11 (.slice A3 n3 k3))
      have HO1_3 := Lib.hid (HO1x3.out.boxT (recN_keepsT _ 39 (by decide) (by decide) (by decide)) HBx3.out.typed (by decide) 11 (.slice A3 n3 k3))
      have HO2_3 := Lib.hid (HO2x3.out.boxT (recN_keepsT _ 39 (by decide) (by decide) (by decide)) HBx3.out.typed (by decide) 11 (.slice A3 n3 k3))
      have HO3_3 := Lib.hid (HO3x3.out.boxT (recN_keepsT _ 39 (by decide) (by decide) (by decide)) HBx3.out.typed (by decide) 11 (.slice A3 n3 k3))
      obtain ⟨c0, c1, c2, c3, c4, c5, c6, c7, c8, c9, c10, c11, c12, c13⟩ := HBx3.out.cells
      have qf := HBx3.out.frozen
      have HTh := Lib.hid HZ3.out.there
      have H1c : Hid (((#[.int .i64 m.id, .bool m.resp, .int .i64 m.op, .bool m.aa, .bool m.tc, .bool m.rd, .bool m.ra, .int .i64 m.rc, .slice A0 n0 k0, .slice A1 n1 k1, .slice A2 n2 k2, .slice A3 n3 k3, .bool m.edns, .int .i64 m.size] : Array Value)).all (·.oneCell') = true) := Lib.hid (all_oneCell_toArray (cs := [.int .i64 m.id, .bool m.resp, .int .i64 m.op, .bool m.aa, .bool m.tc, .bool m.rd, .bool m.ra, .int .i64 m.rc, .slice A0 n0 k0, .slice A1 n1 k1, .slice A2 n2 k2, .slice A3 n3 k3, .bool m.edns, .int .i64 m.size]) (by intro u hu; simp only [List.mem_cons, List.not_mem_nil, or_false] at hu; rcases hu with rfl | rfl | rfl | rfl | rfl | rfl | rfl | rfl | rfl | rfl | rfl | rfl | rfl | rfl <;> rfl))
      go_upto_region 12 with fail
      iterate 8 (first | (refine wpList_store_mid rfl 39 (.tmp 2) (.tmp 41) rfl g2 0 #[.int .i64 m.id, .bool m.resp, .int .i64 m.op, .bool m.aa, .bool m.tc, .bool m.rd, .bool m.ra, .int .i64 m.rc, .slice A0 n0 k0, .slice A1 n1 k1, .slice A2 n2 k2, .slice A3 n3 k3, .bool m.edns, .int .i64 m.size] rfl rfl HTh.out info39 H1c.out ?_) | go_step)
      go_wp2
      have hfin : BoxM ((w3.setCell ⟨g, 11, none⟩ (.slice A3 n3 k3)).setCells g2 0 [.int .i64 m.id, .bool m.resp, .int .i64 m.op, .bool m.aa, .bool m.tc, .bool m.rd, .bool m.ra, .int .i64 m.rc, .slice A0 n0 k0, .slice A1 n1 k1, .slice A2 n2 k2, .slice A3 n3 k3, .bool m.edns, .int .i64 m.size]) g2 m (.slice A0 n0 k0) (.slice A1 n1 k1) (.slice A2 n2 k2) (.slice A3 n3 k3) := by
        obtain ⟨old, h1, h2⟩ := HZ3.out
        exact blk_sets [.int .i64 m.id, .bool m.resp, .int .i64 m.op, .bool m.aa, .bool m.tc, .bool m.rd, .bool m.ra, .int .i64 m.rc, .slice A0 n0 k0, .slice A1 n1 k1, .slice A2 n2 k2, .slice A3 n3 k3, .bool m.edns, .int .i64 m.size] [] old _ h1 h2
      have HT := HZ3.out.typed
      have hq := HQ3.out.setsB (qN_keepsT _ 39 (by decide)) (by decide) [.int .i64 m.id, .bool m.resp, .int .i64 m.op, .bool m.aa, .bool m.tc, .bool m.rd, .bool m.ra, .int .i64 m.rc, .slice A0 n0 k0, .slice A1 n1 k1, .slice A2 n2 k2, .slice A3 n3 k3, .bool m.edns, .int .i64 m.size] _ 0 HT
      have h1 := HO1_3.out.setsB (recN_keepsT _ 39 (by decide) (by decide) (by decide)) (by decide) [.int .i64 m.id, .bool m.resp, .int .i64 m.op, .bool m.aa, .bool m.tc, .bool m.rd, .bool m.ra, .int .i64 m.rc, .slice A0 n0 k0, .slice A1 n1 k1, .slice A2 n2 k2, .slice A3 n3 k3, .bool m.edns, .int .i64 m.size] _ 0 HT
      have h2 := HO2_3.out.setsB (recN_keepsT _ 39 (by decide) (by decide) (by decide)) (by decide) [.int .i64 m.id, .bool m.resp, .int .i64 m.op, .bool m.aa, .bool m.tc, .bool m.rd, .bool m.ra, .int .i64 m.rc, .slice A0 n0 k0, .slice A1 n1 k1, .slice A2 n2 k2, .slice A3 n3 k3, .bool m.edns, .int .i64 m.size] _ 0 HT
      have h3 := HO3_3.out.setsB (recN_keepsT _ 39 (by decide) (by decide) (by decide)) (by decide) [.int .i64 m.id, .bool m.resp, .int .i64 m.op, .bool m.aa, .bool m.tc, .bool m.rd, .bool m.ra, .int .i64 m.rc, .slice A0 n0 k0, .slice A1 n1 k1, .slice A2 n2 k2, .slice A3 n3 k3, .bool m.edns, .int .i64 m.size] _ 0 HT
      have hEf := Ext.setsB (b := g2) HG2.out [.int .i64 m.id, .bool m.resp, .int .i64 m.op, .bool m.aa, .bool m.tc, .bool m.rd, .bool m.ra, .int .i64 m.rc, .slice A0 n0 k0, .slice A1 n1 k1, .slice A2 n2 k2, .slice A3 n3 k3, .bool m.edns, .int .i64 m.size] _ 0 HE3.out
      (try simp only [Exit.inBlock, Exit.then])
      refine ownm_end hfin rfl rfl ?_
      exact ⟨_, _, _, _, rfl, ⟨qs_of_own hq, recs_of_own h1, recs_of_own h2, recs_of_own h3⟩, hEf⟩
end Go.Proofs.Ytfnelkcllaaebaa
end
section
/- Contracts of law06.answers and of law06.MsgEncodes. No condition but that the message stands in memory, and the strings' sizes. -/
open Go.RowKit
set_option linter.unusedVariables false
set_option linter.unusedSimpArgs false
namespace Go.Proofs.Ytfnelkcllaaebaa
/-- The message of the question whether anything answers. -/
def msgA : Msg := ⟨258, false, 0, false, false, true, false, 0, [], [], [], [], false, 0⟩
theorem msgA_enc : encM msgA = ([1, 2, 1, 0, 0, 0, 0, 0, 0, 0, 0, 0], 0) := by kernel_rfl
theorem msgA_reads (w : World) : MsgC w (.slice none 0 0) (.slice none 0 0) (.slice none 0 0) (.slice none 0 0) msgA := ⟨Sl.nil _ _ _, Sl.nil _ _ _, Sl.nil _ _ _, Sl.nil _ _ _⟩
theorem msgA_fit : MFit msgA := ⟨by simp [msgA], by simp [msgA], by simp [msgA], by simp [msgA]⟩
set_option maxRecDepth 100000 in
/-- law06.answers. -/
theorem answers6 (w : World) : Calls Try.prog 32 #[] w fun e w' => e = .returned (.bool true) ∧ Ext w w' := by
  have HC := Lib.hid (msg_Encode msgA _ _ _ _ w (msgA_reads w) msgA_fit (by decide))
  rw [msgA_enc] at HC
  go_enter Try.func32, Try.ntmps32
  go_wp2_with fail
  refine (HC.out).mono ?_
  rintro e w1 ⟨v, rfl, hN, hE⟩
  obtain ⟨A, c, e1, h1, h2⟩ := hN.1.form
  obtain ⟨b, o, c2, e2, h3, h4, h5⟩ := hN.1.opens (by decide)
  subst e2
  have q0 : w1.cell? ⟨b, o, none⟩ = some (.int .u8 1) := by have := h5 0 1 rfl; exact this
  have q2 : w1.cell? ⟨b, o + 2, none⟩ = some (.int .u8 1) := by have := h5 2 1 rfl; exact this
  have HE := Lib.hid hE
  have hc : c2 ≤ maxI := h4
  clear HC hN h5 hE e1
  simp only [List.length_cons, List.length_nil] at h3
  go_wp2
  go_ret
  exact ⟨rfl, HE.out⟩
theorem sumB_mem {l : List Rec} {r : Rec} (h : r ∈ l) : r.data.bytes.length ≤ sumB l := by
  induction l with
  | nil => simp at h
  | cons x l ih =>
    rcases List.mem_cons.1 h with rfl | h
    · simp [sumB]
    · have := ih h; simp only [sumB, List.map_cons, List.sum_cons] at this ⊢; omega
theorem lightM_room {n : Nat} {m : Msg} (h : lightM n m = true) (hn : n ≤ 1000) : MRoom m := by
  unfold lightM at h
  simp only [Bool.and_eq_true, decide_eq_true_eq, List.all_eq_true] at h
  obtain ⟨⟨h1, h2⟩, h3, h4, h5⟩ := h
  have hr : ∀ r ∈ m.ans ++ m.auth ++ m.extra, RRoom r := by
    intro r hr
    have hs := h3 r hr
    have hb := sumB_mem hr
    unfold lightS at hs
    simp only [decide_eq_true_eq] at hs
    unfold RRoom DRoom
    omega
  refine ⟨fun q hq => ?_, fun r h => hr r (by simp [h]), fun r h => hr r (by simp [h]), fun r h => hr r (by simp [h]), by omega, ?_, ?_, ?_⟩
  · have := h4 q hq
    unfold lightQ at this
    simp only [decide_eq_true_eq] at this
    omega
  all_goals simp only [List.length_append] at h1; omega
theorem lightM_all {n : Nat} {m : Msg} (h : lightM n m = true) (hn : n ≤ 1000) : m.all ≤ 100000 := by
  have := lightM_room h hn
  have h1 := this.lq; have h2 := this.la; have h3 := this.lu; have h4 := this.le
  unfold Msg.all; omega
/-- A value that reads as a message. -/
def isM (W : World) (v : Value) (m : Msg) : Prop := ∃ Aq kq Aa ka Au ku Ae ke, v = .agg #[.int .i64 m.id, .bool m.resp, .int .i64 m.op, .bool m.aa, .bool m.tc, .bool m.rd, .bool m.ra, .int .i64 m.rc, .slice Aq m.qs.length kq, .slice Aa m.ans.length ka, .slice Au m.auth.length ku, .slice Ae m.extra.length ke, .bool m.edns, .int .i64 m.size] ∧ MsgC W (.slice Aq m.qs.length kq) (.slice Aa m.ans.length ka) (.slice Au m.auth.length ku) (.slice Ae m.extra.length ke) m
def rpM (m : Msg) : RP Ext := ⟨fun v w => isM w v m, fun _ _ _ h he => by obtain ⟨Aq, kq, Aa, ka, Au, ku, Ae, ke, e, h⟩ := h; exact ⟨Aq, kq, Aa, ka, Au, ku, Ae, ke, e, h.ext he⟩⟩
theorem MsgC.isM {W : World} {q a u e : Value} {m : Msg} (h : MsgC W q a u e m) : Ytfnelkcllaaebaa.isM W (.agg #[.int .i64 m.id, .bool m.resp, .int .i64 m.op, .bool m.aa, .bool m.tc, .bool m.rd, .bool m.ra, .int .i64 m.rc, q, a, u, e, .bool m.edns, .int .i64 m.size]) m := by
  obtain ⟨Aq, kq, rfl, _, _⟩ := h.qs.form
  obtain ⟨Aa, ka, rfl, _, _⟩ := h.ans.form
  obtain ⟨Au, ku, rfl, _, _⟩ := h.auth.form
  obtain ⟨Ae, ke, rfl, _, _⟩ := h.extra.form
  exact ⟨_, _, _, _, _, _, _, _, rfl, h⟩
def encPs (m : Msg) (mv : Value) (A3 A5 : Option Addr) (c3 c5 : Nat) (i : Nat) : RP Ext :=
  match i with
  | 0 => RP.eq (mv)
  | 1 => rpM m
  | 2 => RP.eq (.bool (msound m))
  | 3 => RP.eq (mv)
  | 4 => RP.eq (.bool (msound m))
  | 5 => RP.eq (.bool true)
  | 6 => RP.eq (.bool true)
  | 7 => RP.eq (.int .i64 (encM m).2)
  | 8 => RP.eq (.int .i64 (encM m).2)
  | 9 => RP.eq (.bool true)
  | 10 => RP.eq (.bool true)
  | 11 => RP.eq (.bool true)
  | 12 => RP.eq (.slice A3 (encM m).1.length c3)
  | 13 => RP.eq (.slice A5 (encM m).1.length c5)
  | 14 => RP.eq (.bool true)
  | 15 => RP.eq (.bool true)
  | _ => RP.any
set_option maxRecDepth 100000 in
set_option maxHeartbeats 1000000 in
theorem law06_encodes (m : Msg) (vq va vu ve : Value) (w : World) (h : MsgC w vq va vu ve m) (hm : MOk m) (hb : MByt m) (hl : ∀ l, l = m.ans ++ m.auth ++ m.extra → l.length * 168 ≤ 140737488355328) :
    Calls Try.prog 5 #[.agg #[.int .i64 m.id, .bool m.resp, .int .i64 m.op, .bool m.aa, .bool m.tc, .bool m.rd, .bool m.ra, .int .i64 m.rc, vq, va, vu, ve, .bool m.edns, .int .i64 m.size]] w fun e w' => e = .returned (.bool true) ∧ Ext w w' := by
  have H := Lib.hid h
  have HM := Lib.hid hm
  have HBy := Lib.hid hb
  have HL := Lib.hid hl
  clear h hm hb hl
  obtain ⟨Aq, kq, rfl, _, _⟩ := H.out.qs.form
  obtain ⟨Aa, ka, rfl, _, _⟩ := H.out.ans.form
  obtain ⟨Au, ku, rfl, _, _⟩ := H.out.auth.form
  obtain ⟨Ae, ke, rfl, _, _⟩ := H.out.extra.form
  have HE1 := Lib.hid ((Ext.refl w).alloc (.cells #[.int .i64 m.id, .bool m.resp, .int .i64 m.op, .bool m.aa, .bool m.tc, .bool m.rd, .bool m.ra, .int .i64 m.rc, .slice Aq m.qs.length kq, .slice Aa m.ans.length ka, .slice Au m.auth.length ku, .slice Ae m.extra.length ke, .bool m.edns, .int .i64 m.size] 39))
  have HB1 : Hid (BoxM (w.alloc (.cells #[.int .i64 m.id, .bool m.resp, .int .i64 m.op, .bool m.aa, .bool m.tc, .bool m.rd, .bool m.ra, .int .i64 m.rc, .slice Aq m.qs.length kq, .slice Aa m.ans.length ka, .slice Au m.auth.length ku, .slice Ae m.extra.length ke, .bool m.edns, .int .i64 m.size] 39)) w.heap.size m _ _ _ _) := Lib.hid (heap_alloc_new w _)
  go_enter Try.func5, Try.ntmps5
  go_wp2_with fail
  generalize w.alloc (.cells #[.int .i64 m.id, .bool m.resp, .int .i64 m.op, .bool m.aa, .bool m.tc, .bool m.rd, .bool m.ra, .int .i64 m.rc, .slice Aq m.qs.length kq, .slice Aa m.ans.length ka, .slice Au m.auth.length ku, .slice Ae m.extra.length ke, .bool m.edns, .int .i64 m.size] 39) = wa at *
  generalize w.heap.size = g at *
  refine (answers6 wa).mono ?_
  rintro e w1 ⟨rfl, hE⟩
  have HE2 := Lib.hid (HE1.out.trans hE)
  have HB2 := Lib.hid (HB1.out.ext hE)
  clear hE HE1 HB1
  obtain ⟨d0, d1, d2, d3, d4, d5, d6, d7, d8, d9, d10, d11, d12, d13⟩ := HB2.out.cells
  go_wp2_with fail
  refine (light_33 m _ _ _ _ w1 (H.out.ext HE2.out) HBy.out HL.out).mono ?_
  rintro e w2 ⟨rfl, hE⟩
  clear d0 d1 d2 d3 d4 d5 d6 d7 d8 d9 d10 d11 d12 d13
  have HE3 := Lib.hid (HE2.out.trans hE)
  have HB3 := Lib.hid (HB2.out.ext hE)
  clear hE HE2 HB2
  obtain ⟨d0, d1, d2, d3, d4, d5, d6, d7, d8, d9, d10, d11, d12, d13⟩ := HB3.out.cells
  obtain ⟨lt, hlt⟩ : ∃ lt, lightM 600 m = lt := ⟨_, rfl⟩
  rw [hlt]
  cases lt
  · go_wp2_with fail
    refine (answers6 _).mono ?_
    rintro e w3 ⟨rfl, hE⟩
    have HE4 := Lib.hid (HE3.out.trans hE)
    clear hE
    go_wp2
    go_ret
    exact ⟨rfl, HE4.out⟩
  · have HR := Lib.hid (lightM_room hlt (by decide))
    have HA := Lib.hid (lightM_all hlt (by decide))
    have HF := Lib.hid HM.out.fit
    have HI := Lib.hid HM.out.int
    clear hlt
    go_wp2_with fail
    refine (ref_OwnMsg m _ _ _ _ _ (H.out.ext HE3.out) HR.out).mono ?_
    rintro e w3 ⟨xq, xa, xu, xe, rfl, hM, hE⟩
    have HE4 := Lib.hid (HE3.out.trans hE)
    have HB4 := Lib.hid (HB3.out.ext hE)
    obtain ⟨Bq, lq, rfl, _, _⟩ := hM.qs.form
    obtain ⟨Ba, la, rfl, _, _⟩ := hM.ans.form
    obtain ⟨Bu, lu, rfl, _, _⟩ := hM.auth.form
    obtain ⟨Be, le, rfl, _, _⟩ := hM.extra.form
    have HM4 := Lib.hid hM
    clear hE hM d0 d1 d2 d3 d4 d5 d6 d7 d8 d9 d10 d11 d12 d13 HE3 HB3
    go_wp2_with fail
    refine (msg_Encode m _ _ _ _ w3 HM4.out HF.out HA.out).mono ?_
    rintro e w4 ⟨v3, rfl, hN3, hE⟩
    obtain ⟨A3, c3, rfl, _, _⟩ := hN3.1.form
    have HN3 := Lib.hid hN3.1
    have HE5 := Lib.hid (HE4.out.trans hE)
    have HB5 := Lib.hid (HB4.out.ext hE)
    clear hE hN3 HE4 HB4 HM4
    obtain ⟨d0, d1, d2, d3, d4, d5, d6, d7, d8, d9, d10, d11, d12, d13⟩ := HB5.out.cells
    go_wp2_with fail
    refine (ref_Encode m _ _ _ _ w4 (H.out.ext HE5.out) HI.out HA.out).mono ?_
    rintro e w7 ⟨v5, rfl, hN5, hE⟩
    obtain ⟨A5, c5, rfl, _, _⟩ := hN5.form
    have HY5 := Lib.hid hN5
    have HY3 := Lib.hid (HN3.out.ext hE)
    have HE7 := Lib.hid (HE5.out.trans hE)
    have HK := Lib.hid (HB5.out.ext hE)
    clear hE hN5 HE5 HB5 HN3 d0 d1 d2 d3 d4 d5 d6 d7 d8 d9 d10 d11 d12 d13
    go_wp2_with fail
    refine wp_region_posts (E := Ext) Ext.refl (fun _ _ _ => Ext.trans) 16 (encPs m (.agg #[.int .i64 m.id, .bool m.resp, .int .i64 m.op, .bool m.aa, .bool m.tc, .bool m.rd, .bool m.ra, .int .i64 m.rc, .slice Aq m.qs.length kq, .slice Aa m.ans.length ka, .slice Au m.auth.length ku, .slice Ae m.extra.length ke, .bool m.edns, .int .i64 m.size]) A3 A5 c3 c5) (fun _ _ => False) (by kernel_rfl) (by kernel_rfl) (fun _ _ _ _ h => h.elim) ?_ ?_
    · simp (config := { maxSteps := 10000000 }) only [List.take, Obls, fullA, Act.put, List.setIfInBounds_toArray, List.set_cons_zero, List.set_cons_succ, Nat.zero_add, Nat.reduceAdd]
      refine ⟨?_, ?_, ?_, ?_, ?_, ?_, ?_, ?_, ?_, ?_, ?_, ?_, ?_, ?_, ?_, ?_, trivial⟩
      all_goals intro vs W hE hd
      all_goals have hW : Ext w7 W := Ext.trans (Ext.drew (Ext.refl w7)) hE
      all_goals have HW := Lib.hid hW
      all_goals clear hE hW
      · clear hd
        have HBx := HK.out.ext HW.out
        obtain ⟨d0, d1, d2, d3, d4, d5, d6, d7, d8, d9, d10, d11, d12, d13⟩ := HBx.cells
        clear HBx
        go_wp2
        exact ⟨rfl, Ext.refl _, rfl⟩
      · have e0 : vs 0 = .agg #[.int .i64 m.id, .bool m.resp, .int .i64 m.op, .bool m.aa, .bool m.tc, .bool m.rd, .bool m.ra, .int .i64 m.rc, .slice Aq m.qs.length kq, .slice Aa m.ans.length ka, .slice Au m.auth.length ku, .slice Ae m.extra.length ke, .bool m.edns, .int .i64 m.size] := hd 0 (by decide)
        clear hd
        rw [e0]
        go_wp2_with fail
        refine (ref_OwnMsg m _ _ _ _ W (H.out.ext (HE7.out.trans HW.out)) HR.out).mono ?_
        rintro e w6 ⟨xq, xa, xu, xe, rfl, hM6, hE6⟩
        have HE6 := Lib.hid hE6
        have HM6 := Lib.hid hM6.isM
        clear hE6 hM6
        go_wp2
        exact ⟨rfl, HE6.out, HM6.out⟩
      · obtain ⟨Bq, lq, Ba, la, Bu, lu, Be, le, e1, hx⟩ : isM W (vs 1) m := hd 1 (by decide)
        have HX1 := Lib.hid hx
        clear hx
        clear hd
        rw [e1]
        go_wp2_with fail
        refine (msg_Sound m _ _ _ _ W HX1.out HF.out HA.out).mono ?_
        rintro e w6 ⟨rfl, hE6⟩
        have HE6 := Lib.hid hE6
        clear hE6
        go_wp2
        exact ⟨rfl, HE6.out, rfl⟩
      · clear hd
        have HBx := HK.out.ext HW.out
        obtain ⟨d0, d1, d2, d3, d4, d5, d6, d7, d8, d9, d10, d11, d12, d13⟩ := HBx.cells
        clear HBx
        go_wp2
        exact ⟨rfl, Ext.refl _, rfl⟩
      · have e3 : vs 3 = .agg #[.int .i64 m.id, .bool m.resp, .int .i64 m.op, .bool m.aa, .bool m.tc, .bool m.rd, .bool m.ra, .int .i64 m.rc, .slice Aq m.qs.length kq, .slice Aa m.ans.length ka, .slice Au m.auth.length ku, .slice Ae m.extra.length ke, .bool m.edns, .int .i64 m.size] := hd 3 (by decide)
        clear hd
        rw [e3]
        go_wp2_with fail
        refine (ref_Msg m _ _ _ _ W (H.out.ext (HE7.out.trans HW.out)) HI.out HA.out).mono ?_
        rintro e w6 ⟨rfl, hE6⟩
        have HE6 := Lib.hid hE6
        clear hE6
        go_wp2
        exact ⟨rfl, HE6.out, rfl⟩
      · have e2 : vs 2 = .bool (msound m) := hd 2 (by decide)
        have e4 : vs 4 = .bool (msound m) := hd 4 (by decide)
        clear hd
        rw [e2, e4]
        go_wp2
        exact ⟨rfl, Ext.refl _, rfl⟩
      · have e5 : vs 5 = .bool true := hd 5 (by decide)
        clear hd
        rw [e5]
        go_wp2
        exact ⟨rfl, Ext.refl _, rfl⟩
      · have e6 : vs 6 = .bool true := hd 6 (by decide)
        clear hd
        rw [e6]
        go_wp2
        exact ⟨rfl, Ext.refl _, rfl⟩
      · have e6 : vs 6 = .bool true := hd 6 (by decide)
        clear hd
        rw [e6]
        go_wp2
        exact ⟨rfl, Ext.refl _, rfl⟩
      · have e6 : vs 6 = .bool true := hd 6 (by decide)
        have e7 : vs 7 = .int .i64 (encM m).2 := hd 7 (by decide)
        have e8 : vs 8 = .int .i64 (encM m).2 := hd 8 (by decide)
        clear hd
        rw [e6, e7, e8]
        go_wp2
        exact ⟨rfl, Ext.refl _, rfl⟩
      · have e6 : vs 6 = .bool true := hd 6 (by decide)
        have e9 : vs 9 = .bool true := hd 9 (by decide)
        clear hd
        rw [e6, e9]
        go_wp2
        exact ⟨rfl, Ext.refl _, rfl⟩
      · have e10 : vs 10 = .bool true := hd 10 (by decide)
        clear hd
        rw [e10]
        go_wp2
        exact ⟨rfl, Ext.refl _, rfl⟩
      · have e11 : vs 11 = .bool true := hd 11 (by decide)
        clear hd
        rw [e11]
        go_wp2
        exact ⟨rfl, Ext.refl _, rfl⟩
      · have e11 : vs 11 = .bool true := hd 11 (by decide)
        clear hd
        rw [e11]
        go_wp2
        exact ⟨rfl, Ext.refl _, rfl⟩
      · have e11 : vs 11 = .bool true := hd 11 (by decide)
        have e12 : vs 12 = .slice A3 (encM m).1.length c3 := hd 12 (by decide)
        have e13 : vs 13 = .slice A5 (encM m).1.length c5 := hd 13 (by decide)
        clear hd
        rw [e11, e12, e13]
        go_wp2_with fail
        refine (ref_Same _ _ (encM m).1 (encM m).1 W (HY3.out.ext HW.out) (HY5.out.ext HW.out)).mono ?_
        rintro e w6 ⟨rfl, hD6⟩
        have HE6 := Lib.hid hD6.ext
        rw [decide_eq_true rfl]
        clear hD6
        go_wp2
        exact ⟨rfl, HE6.out, rfl⟩
      · have e11 : vs 11 = .bool true := hd 11 (by decide)
        have e14 : vs 14 = .bool true := hd 14 (by decide)
        clear hd
        rw [e11, e14]
        go_wp2
        exact ⟨rfl, Ext.refl _, rfl⟩
    · intro vs W hE hP
      have hW : Ext w7 W := Ext.trans (Ext.drew (Ext.refl w7)) hE
      have HW := Lib.hid hW
      have e15 : vs 15 = .bool true := hP 15 (by decide)
      clear hP hE hW
      simp (config := { maxSteps := 10000000 }) only [List.drop, List.take, fullA, Act.put, List.setIfInBounds_toArray, List.set_cons_zero, List.set_cons_succ, Nat.zero_add, Nat.reduceAdd]
      rw [e15]
      go_wp2
      go_ret
      exact ⟨rfl, HE7.out.trans HW.out⟩
end Go.Proofs.Ytfnelkcllaaebaa
end
