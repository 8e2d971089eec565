/- Parts of one proof, joined: WrG, WrH, RrsP. Conditions: those that each theorem states. -/
import Derived.Test.YtfnelkcllaaebaaEB18
import Derived.Test.YtfnelkcllaaebaaEB14
section
/- Contracts of rr.Sound, and of rdata.Put where nothing is put. No condition but that the records stand in memory, and the strings' sizes. -/
open Go.RowKit
set_option linter.unusedVariables false
set_option linter.unusedSimpArgs false
namespace Go.Proofs.Ytfnelkcllaaebaa
/-- rdata.Put of data that is not sound. -/
theorem rdata_Put_bad (kind : Int) (d : Dat) (p : Nat) (v0 v1 v2 v3 v4 : Value) (w : World) (hd : DR w v0 v1 v2 v3 v4 d) (fd : DFit d) (ft : Fits d.texts) (hs : rsound kind d = false) :
    Calls Try.prog 60 #[.pointer (some ⟨p, 0, none⟩), .int .i64 kind, .agg #[v0, v1, v2, v3, v4]] w fun e w' => e = .returned (.int .i64 2) ∧ Ext w w' := by
  have hE0 := (Ext.refl w).alloc (.cells #[v0, v1, v2, v3, v4] 26)
  have HC := Lib.hid (rdata_Sound kind d _ _ _ _ _ (w.alloc (.cells #[v0, v1, v2, v3, v4] 26)) (hd.ext hE0) fd ft)
  rw [hs] at HC
  obtain ⟨A0, k0, rfl, _, _⟩ := hd.by_.form
  obtain ⟨A1, k1, rfl, _, _⟩ := hd.ho.form
  obtain ⟨A2, k2, rfl, _, _⟩ := hd.ma.form
  obtain ⟨A3, k3, rfl, _, _⟩ := hd.nu.form
  obtain ⟨A4, k4, rfl, _, _⟩ := hd.tx.form
  have HE0 := Lib.hid hE0
  clear hd hs hE0 fd ft
  go_enter Try.func60, Try.ntmps60
  go_wp2_with fail
  refine (HC.out).mono ?_
  rintro e w1 ⟨rfl, hE1⟩
  go_wp2
  go_ret
  exact ⟨rfl, HE0.out.trans hE1⟩
/-- A record's nine cells as values. -/
def RecC (w : World) (vn v0 v1 v2 v3 v4 : Value) (r : Rec) : Prop := NameV w vn r.name ∧ DR w v0 v1 v2 v3 v4 r.data
theorem RecC.ext {w w' : World} {vn v0 v1 v2 v3 v4 : Value} {r : Rec} (h : RecC w vn v0 v1 v2 v3 v4 r) (hE : Ext w w') : RecC w' vn v0 v1 v2 v3 v4 r := ⟨h.1.ext hE, h.2.ext hE⟩
set_option maxRecDepth 100000 in
set_option maxHeartbeats 1000000 in
/-- rr.Sound. -/
theorem rr_Sound (r : Rec) (vn v0 v1 v2 v3 v4 : Value) (w : World) (h : RecC w vn v0 v1 v2 v3 v4 r) (fr : RFit r) (ft : Fits r.data.texts) :
    Calls Try.prog 73 #[.agg #[vn, .int .i64 r.type, .int .i64 r.cls, .int .i64 r.ttl, v0, v1, v2, v3, v4]] w fun e w' => e = .returned (.bool (rrsound r)) ∧ Ext w w' := by
  have hE0 := (Ext.refl w).alloc (.cells #[vn, .int .i64 r.type, .int .i64 r.cls, .int .i64 r.ttl, v0, v1, v2, v3, v4] 49)
  have H := Lib.hid h
  have FR := Lib.hid fr
  have FT := Lib.hid ft
  obtain ⟨hn, hd⟩ := h
  obtain ⟨An, kn, rfl, _, _⟩ := hn.form
  obtain ⟨A0, k0, rfl, _, _⟩ := hd.by_.form
  obtain ⟨A1, k1, rfl, _, _⟩ := hd.ho.form
  obtain ⟨A2, k2, rfl, _, _⟩ := hd.ma.form
  obtain ⟨A3, k3, rfl, _, _⟩ := hd.nu.form
  obtain ⟨A4, k4, rfl, _, _⟩ := hd.tx.form
  have HE0 := Lib.hid hE0
  have HB0 := Lib.hid (show Box9 _ w.heap.size _ _ _ _ _ _ _ _ _ from heap_alloc_new w (.cells #[.slice An r.name.length kn, .int .i64 r.type, .int .i64 r.cls, .int .i64 r.ttl, .slice A0 r.data.bytes.length k0, .slice A1 r.data.host.length k1, .slice A2 r.data.mail.length k2, .slice A3 r.data.nums.length k3, .slice A4 r.data.texts.length k4] 49))
  have HC1 := Lib.hid (name_Sound _ r.name _ (H.out.1.ext HE0.out) FR.out.1)
  have HM : Hid (rrsound r = (nsound r.name && (rsound r.type r.data && (fits r.cls 2 && decide (0 ≤ r.ttl ∧ r.ttl < 2147483648))))) := Lib.hid rfl
  clear hn hd hE0 fr ft
  generalize nsound r.name = β1 at *
  have HC2 := fun W (hE : Ext w W) => Lib.hid (rdata_Sound r.type r.data _ _ _ _ _ W (H.out.2.ext hE) FR.out.2 FT.out)
  generalize rsound r.type r.data = β2 at *
  have HC3 := Lib.hid (num_Fits r.cls 2)
  generalize fits r.cls 2 = β3 at *
  go_enter Try.func73, Try.ntmps73
  go_wp2_with fail
  refine (HC1.out).mono ?_
  rintro e w1 ⟨rfl, hE1⟩
  have HE1 := Lib.hid (HE0.out.trans hE1)
  have HB1 := Lib.hid (show Box9 w1 w.heap.size _ _ _ _ _ _ _ _ _ from hE1.block HB0.out)
  clear hE1
  cases β1
  · go_wp2
    go_ret
    exact ⟨by rw [HM.out]; rfl, HE1.out⟩
  · obtain ⟨q0, q1, q2, q3, q4, q5, q6, q7, q8⟩ := HB1.out.cells
    have HC2' := HC2 w1 HE1.out
    clear HC2
    go_wp2_with fail
    refine (HC2'.out).mono ?_
    rintro e w2 ⟨rfl, hE2⟩
    have HE2 := Lib.hid (HE1.out.trans hE2)
    have HB2 := Lib.hid (show Box9 w2 w.heap.size _ _ _ _ _ _ _ _ _ from hE2.block HB1.out)
    clear hE2 q0 q1 q2 q3 q4 q5 q6 q7 q8
    cases β2
    · go_wp2
      go_ret
      exact ⟨by rw [HM.out]; rfl, HE2.out⟩
    · obtain ⟨q0, q1, q2, q3, q4, q5, q6, q7, q8⟩ := HB2.out.cells
      go_wp2_with fail
      refine (HC3.out w2).mono ?_
      rintro e w3 ⟨rfl, rfl⟩
      cases β3
      · go_wp2
        go_ret
        exact ⟨by rw [HM.out]; rfl, HE2.out⟩
      · by_cases h1 : 0 ≤ r.ttl
        · have HX : Hid (decide (0 ≤ r.ttl ∧ r.ttl < 2147483648) = decide (r.ttl < 2147483648)) := Lib.hid (by rw [decide_eq_decide]; exact ⟨fun h => h.2, fun h => ⟨h1, h⟩⟩)
          go_wp2
          go_ret
          exact ⟨by rw [HM.out, HX.out]; rfl, HE2.out⟩
        · have HX : Hid (decide (0 ≤ r.ttl ∧ r.ttl < 2147483648) = false) := Lib.hid (decide_eq_false (fun h => h1 h.1))
          go_wp2
          go_ret
          exact ⟨by rw [HM.out, HX.out]; rfl, HE2.out⟩
end Go.Proofs.Ytfnelkcllaaebaa
end
section
/- Contract of rr.Put. No condition but that the writer stands in memory, a record that its steps leave alone, and room. -/
open Go.RowKit
set_option linter.unusedVariables false
set_option linter.unusedSimpArgs false
namespace Go.Proofs.Ytfnelkcllaaebaa
theorem putN0 : putN [] 0 2 = [0, 0] := by
  rw [show (0 : Int) = ((0 : Nat) : Int) from rfl, put2 0 (by omega)]; rfl
/-- A record's writing, step by step. -/
theorem rr_steps {r : Rec} {b : List UInt8} {f : Rests} (hs : rrsound r = true) (hg : Good b f) :
    ((Wt.rr r).bytes b f = ((Wt.data r.type r.data).bytes ((Wt.head r).bytes b f ++ putN [] 0 2) ((Wt.head r).rests b f)).take ((Wt.head r).bytes b f).length ++
      putN [] ((((Wt.data r.type r.data).bytes ((Wt.head r).bytes b f ++ putN [] 0 2) ((Wt.head r).rests b f)).length : Int) - ((Wt.head r).bytes b f).length - 2) 2 ++
      ((Wt.data r.type r.data).bytes ((Wt.head r).bytes b f ++ putN [] 0 2) ((Wt.head r).rests b f)).drop (((Wt.head r).bytes b f).length + 2)) ∧
    (Wt.rr r).rests b f = (Wt.data r.type r.data).rests ((Wt.head r).bytes b f ++ putN [] 0 2) ((Wt.head r).rests b f) ∧
    fits ((((Wt.data r.type r.data).bytes ((Wt.head r).bytes b f ++ putN [] 0 2) ((Wt.head r).rests b f)).length : Int) - ((Wt.head r).bytes b f).length - 2) 2 = true ∧
    ((Wt.data r.type r.data).bytes ((Wt.head r).bytes b f ++ putN [] 0 2) ((Wt.head r).rests b f)).length ≤ b.length + 66000 ∧
    ((Wt.head r).bytes b f).length ≤ b.length + 300 ∧ Good ((Wt.head r).bytes b f) ((Wt.head r).rests b f) := by
  unfold rrsound at hs
  simp only [Bool.and_eq_true, decide_eq_true_eq] at hs
  obtain ⟨hn, hd, hc, ht⟩ := hs
  obtain ⟨hsp, hG⟩ := name_good (short := true) hn hg
  have hgrow := name_grow (short := true) (b := b) hn hg.small
  have eh : (Wt.head r).bytes b f = (Wt.name r.name true).bytes b f ++ (putN [] r.type 2 ++ (putN [] r.cls 2 ++ putN [] r.ttl 4)) := by
    simp only [Wt.head, Wt.bytes_seq, Wt.num]; simp [Wt.bytes, Wt.raw]
  have eh2 : (Wt.head r).rests b f = (Wt.name r.name true).rests b f := by
    simp only [Wt.head, Wt.rests_seq, Wt.num]; simp [Wt.rests, Wt.raw]
  have hG2 : Good ((Wt.head r).bytes b f) ((Wt.head r).rests b f) := by rw [eh, eh2]; exact hG.app _
  have hhl : ((Wt.head r).bytes b f).length ≤ b.length + 300 := by
    rw [eh]
    have l1 := putN_le r.type (size := 2) (by omega)
    have l2 := putN_le r.cls (size := 2) (by omega)
    have l3 := putN_le r.ttl (size := 4) (by omega)
    simp only [show ((2 : Int)).toNat = 2 from rfl, show ((4 : Int)).toNat = 4 from rfl] at l1 l2 l3
    simp only [List.length_append]
    omega
  have hB := data_back (b := (Wt.head r).bytes b f ++ putN [] 0 2) hd (hG2.app _)
  have hl := hB.len
  have e2 : ((Wt.head r).bytes b f ++ putN [] 0 2).length = ((Wt.head r).bytes b f).length + 2 := by rw [putN0]; simp
  have eP : b.length + ((Wt.head r) b.length f).1.length = ((Wt.head r).bytes b f).length := by simp [Wt.bytes]
  have ed : (Wt.data r.type r.data).bytes ((Wt.head r).bytes b f ++ putN [] 0 2) ((Wt.head r).rests b f) = (Wt.head r).bytes b f ++ putN [] 0 2 ++ ((Wt.data r.type r.data) (((Wt.head r).bytes b f).length + 2) ((Wt.head r).rests b f)).1 := by
    rw [← e2]; rfl
  rw [e2] at hl
  have er : (Wt.rr r).rests b f = (Wt.data r.type r.data).rests ((Wt.head r).bytes b f ++ putN [] 0 2) ((Wt.head r).rests b f) := by
    have h1 : (Wt.data r.type r.data).rests ((Wt.head r).bytes b f ++ putN [] 0 2) ((Wt.head r).rests b f) = ((Wt.data r.type r.data) (((Wt.head r).bytes b f).length + 2) ((Wt.head r).rests b f)).2 := by rw [← e2]; rfl
    rw [h1, ← eP]; rfl
  have eb : (Wt.rr r).bytes b f = (Wt.head r).bytes b f ++ (putN [] ((((Wt.data r.type r.data) (((Wt.head r).bytes b f).length + 2) ((Wt.head r).rests b f)).1.length : Nat) : Int) 2 ++ ((Wt.data r.type r.data) (((Wt.head r).bytes b f).length + 2) ((Wt.head r).rests b f)).1) := by
    rw [← eP]
    simp only [Wt.bytes, Wt.rr, Wt.rests, List.append_assoc]
  have elen : ((((Wt.data r.type r.data).bytes ((Wt.head r).bytes b f ++ putN [] 0 2) ((Wt.head r).rests b f)).length : Int) - ((Wt.head r).bytes b f).length - 2) = ((((Wt.data r.type r.data) (((Wt.head r).bytes b f).length + 2) ((Wt.head r).rests b f)).1.length : Nat) : Int) := by
    rw [ed, List.length_append, e2]; omega
  refine ⟨?_, er, ?_, ?_, hhl, hG2⟩
  · rw [elen, eb, ed]
    have t1 : ((Wt.head r).bytes b f ++ putN [] 0 2 ++ ((Wt.data r.type r.data) (((Wt.head r).bytes b f).length + 2) ((Wt.head r).rests b f)).1).take ((Wt.head r).bytes b f).length = (Wt.head r).bytes b f := by
      rw [List.append_assoc, List.take_left]
    have t2 : ((Wt.head r).bytes b f ++ putN [] 0 2 ++ ((Wt.data r.type r.data) (((Wt.head r).bytes b f).length + 2) ((Wt.head r).rests b f)).1).drop (((Wt.head r).bytes b f).length + 2) = ((Wt.data r.type r.data) (((Wt.head r).bytes b f).length + 2) ((Wt.head r).rests b f)).1 := by
      rw [← e2, List.drop_left]
    rw [t1, t2, List.append_assoc]
  · rw [elen]; exact fits_len hl
  · rw [ed, List.length_append, e2]; omega
set_option maxRecDepth 100000 in
set_option maxHeartbeats 2000000 in
/-- rr.Put of a sound record. -/
theorem rr_Put (r : Rec) (p mp : Nat) (v vn v0 v1 v2 v3 v4 : Value) (N : Nat) (b : List UInt8) (f : Rests) (w : World) (hW : WrP w p mp v N b f) (hNb : N ≤ b.length) (hg : Good b f) (hd : Stb (Sof p mp v) w fun W => RecC W vn v0 v1 v2 v3 v4 r) (fr : RFit r) (ft : Fits r.data.texts) (hs : rrsound r = true) (hb : b.length ≤ 140737485000000) :
    Calls Try.prog 70 #[.pointer (some ⟨p, 0, none⟩), .agg #[vn, .int .i64 r.type, .int .i64 r.cls, .int .i64 r.ttl, v0, v1, v2, v3, v4]] w fun e w' => e = .returned (.int .i64 0) ∧ ∃ N', N' ≤ ((Wt.rr r).bytes b f).length ∧ Wrote p mp v N' ((Wt.rr r).bytes b f) ((Wt.rr r).rests b f) w w' := by
  obtain ⟨hn, hdd, hc, ht⟩ : nsound r.name = true ∧ rsound r.type r.data = true ∧ fits r.cls 2 = true ∧ (0 ≤ r.ttl ∧ r.ttl < 2147483648) := by
    unfold rrsound at hs; simpa only [Bool.and_eq_true, decide_eq_true_eq] using hs
  have hsteps := rr_steps hs hg
  have hE0 := (Ext.refl w).alloc (.cells #[vn, .int .i64 r.type, .int .i64 r.cls, .int .i64 r.ttl, v0, v1, v2, v3, v4] 49)
  have HCs := Lib.hid (rr_Sound r vn v0 v1 v2 v3 v4 _ (hd _ (Kp.of_ext hE0)) fr ft)
  rw [hs] at HCs
  have eh : (Wt.head r).bytes b f = (Wt.name r.name true).bytes b f ++ putN [] r.type 2 ++ putN [] r.cls 2 ++ putN [] r.ttl 4 := by
    simp only [Wt.head, Wt.bytes_seq, Wt.num]; simp [Wt.bytes, Wt.raw]
  have eh2 : (Wt.head r).rests b f = (Wt.name r.name true).rests b f := by
    simp only [Wt.head, Wt.rests_seq, Wt.num]; simp [Wt.rests, Wt.raw]
  have HEh := Lib.hid (And.intro eh eh2)
  have hgrow := name_grow (short := true) (b := b) hn hg.small
  have HGr := Lib.hid hgrow
  have HST := Lib.hid hsteps
  have HN := Lib.hid hn
  have HDs := Lib.hid hdd
  have HD := Lib.hid hd
  have HW := Lib.hid hW
  have HNb := Lib.hid hNb
  have HFR := Lib.hid fr
  have HFT := Lib.hid ft
  have hd0 := hd.here
  obtain ⟨An, kn, rfl, _, _⟩ := hd0.1.form
  obtain ⟨A0, k0, rfl, _, _⟩ := hd0.2.by_.form
  obtain ⟨A1, k1, rfl, _, _⟩ := hd0.2.ho.form
  obtain ⟨A2, k2, rfl, _, _⟩ := hd0.2.ma.form
  obtain ⟨A3, k3, rfl, _, _⟩ := hd0.2.nu.form
  obtain ⟨A4, k4, rfl, _, _⟩ := hd0.2.tx.form
  have HE0 := Lib.hid hE0
  have HB0 := Lib.hid (show Box9 _ w.heap.size _ _ _ _ _ _ _ _ _ from heap_alloc_new w (.cells #[.slice An r.name.length kn, .int .i64 r.type, .int .i64 r.cls, .int .i64 r.ttl, .slice A0 r.data.bytes.length k0, .slice A1 r.data.host.length k1, .slice A2 r.data.mail.length k2, .slice A3 r.data.nums.length k3, .slice A4 r.data.texts.length k4] 49))
  clear hd hW hNb hE0 hd0 hs hn hdd hc ht hsteps eh eh2 hgrow fr ft hg
  go_enter Try.func70, Try.ntmps70
  go_wp2_with fail
  refine (HCs.out).mono ?_
  rintro e w1 ⟨rfl, hE1⟩
  have HE1 := Lib.hid (HE0.out.trans hE1)
  have HB1 := Lib.hid (show Box9 w1 w.heap.size _ _ _ _ _ _ _ _ _ from hE1.block HB0.out)
  have hS0 : ¬ Sof p mp v w.heap.size := fun h => by have := HW.out.lt _ h; omega
  have HS0 := Lib.hid hS0
  have HD1 := Lib.hid (HD.out.step (Stp.of_ext HE1.out))
  clear hE1 hS0
  obtain ⟨q0, q1, q2, q3, q4, q5, q6, q7, q8⟩ := HB1.out.cells
  go_wp2_with fail
  clear q0 q1 q2 q3 q4 q5 q6 q7 q8
  refine (wname_Name p mp v _ r.name true N b f w1 (HW.out.ext HE1.out) HNb.out (fun W' hk => (HD1.out W' hk).1) HN.out (by omega)).mono ?_
  rintro e w2 ⟨rfl, N2, hN2, v2, hW2, hs2⟩
  have HW2 := Lib.hid hW2
  have HS2 := Lib.hid hs2
  have HN2 := Lib.hid hN2
  clear hW2 hs2 hN2
  have HB2 := Lib.hid (show Box9 w2 w.heap.size _ _ _ _ _ _ _ _ _ from stp_heap HS2.out HB1.out HS0.out)
  obtain ⟨q0, q1, q2, q3, q4, q5, q6, q7, q8⟩ := HB2.out.cells
  go_wp2_with fail
  clear q0 q1 q2 q3 q4 q5 q6 q7 q8
  refine (wname_Num p mp v2 r.type 2 N2 _ _ w2 HW2.out (by have := HGr.out; omega)).mono ?_
  rintro e w3 ⟨rfl, v3, hW3, hs3⟩
  have HW3 := Lib.hid hW3
  have HS3 := Lib.hid (HS2.out.trans hs3)
  clear hW3 hs3
  have HB3 := Lib.hid (show Box9 w3 w.heap.size _ _ _ _ _ _ _ _ _ from stp_heap HS3.out HB1.out HS0.out)
  obtain ⟨q0, q1, q2, q3, q4, q5, q6, q7, q8⟩ := HB3.out.cells
  go_wp2_with fail
  clear q0 q1 q2 q3 q4 q5 q6 q7 q8
  refine (wname_Num p mp v3 r.cls 2 N2 _ _ w3 HW3.out (by have := HGr.out; have := putN_le r.type (size := 2) (by omega); simp at this; rw [List.length_append]; omega)).mono ?_
  rintro e w4 ⟨rfl, v4, hW4, hs4⟩
  have HW4 := Lib.hid hW4
  have HS4 := Lib.hid (HS3.out.trans hs4)
  clear hW4 hs4
  have HB4 := Lib.hid (show Box9 w4 w.heap.size _ _ _ _ _ _ _ _ _ from stp_heap HS4.out HB1.out HS0.out)
  obtain ⟨q0, q1, q2, q3, q4, q5, q6, q7, q8⟩ := HB4.out.cells
  go_wp2_with fail
  clear q0 q1 q2 q3 q4 q5 q6 q7 q8
  refine (wname_Num p mp v4 r.ttl 4 N2 _ _ w4 HW4.out (by have := HGr.out; have := putN_le r.type (size := 2) (by omega); have := putN_le r.cls (size := 2) (by omega); simp at *; omega)).mono ?_
  rintro e w5 ⟨rfl, v5, hW5, hs5⟩
  rw [← HEh.out.1, ← HEh.out.2] at hW5
  have HW5 := Lib.hid hW5
  have HS5 := Lib.hid (HS4.out.trans hs5)
  have HN5 : Hid (N2 ≤ ((Wt.head r).bytes b f).length) := Lib.hid (by have := HN2.out; rw [HEh.out.1, List.length_append, List.length_append, List.length_append]; omega)
  clear hW5 hs5
  generalize hX : (Wt.head r).bytes b f = X at *
  generalize (Wt.head r).rests b f = FX at *
  clear hX
  have hXl : X.length ≤ b.length + 300 := HST.out.2.2.2.2.1
  go_wp2_with fail
  refine (wname_Len p mp v5 N2 X FX w5 HW5.out).mono ?_
  rintro e w' ⟨rfl, rfl⟩
  go_wp2_with fail
  refine (wname_Num p mp v5 0 2 N2 X FX w5 HW5.out (by omega)).mono ?_
  rintro e w6 ⟨rfl, v6, hW6, hs6⟩
  have HW6 := Lib.hid hW6
  have HS6 := Lib.hid (HS5.out.trans hs6)
  clear hW6 hs6
  have HB6 := Lib.hid (show Box9 w6 w.heap.size _ _ _ _ _ _ _ _ _ from stp_heap HS6.out HB1.out HS0.out)
  obtain ⟨q0, q1, q2, q3, q4, q5, q6, q7, q8⟩ := HB6.out.cells
  go_wp2_with fail
  clear q0 q1 q2 q3 q4 q5 q6 q7 q8
  refine (rdata_Put r.type r.data p mp v6 _ _ _ _ _ N2 (X ++ putN [] 0 2) FX w6 HW6.out (by rw [List.length_append]; have := HN5.out; omega) (fun W' hk => (HD1.out.step HS6.out W' hk).2) HFR.out.2 HFT.out HDs.out (by rw [putN0]; simp; omega)).mono ?_
  rintro e w7 ⟨rfl, N7, hN7, v7, hW7, hs7⟩
  have HW7 := Lib.hid hW7
  have HS7 := Lib.hid (HS6.out.trans hs7)
  have HN7 := Lib.hid hN7
  clear hW7 hs7 hN7
  generalize (Wt.data r.type r.data).bytes (X ++ putN [] 0 2) FX = Y at *
  generalize (Wt.data r.type r.data).rests (X ++ putN [] 0 2) FX = FY at *
  obtain ⟨e1, e2, e3, e4, e5, e6⟩ := HST.out
  have HE := Lib.hid (And.intro e1 e2)
  have HF := Lib.hid e3
  have hf := fits_bound _ _ e3
  clear e1 e2 e3 e6 HST
  go_wp2_with fail
  refine (wname_Len p mp v7 N7 Y FY w7 HW7.out).mono ?_
  rintro e w' ⟨rfl, rfl⟩
  go_wp2_with fail
  refine (wname_Set p mp X.length v7 _ N7 Y FY w7 HW7.out HF.out (by omega) (by omega)).mono ?_
  rintro e w8 ⟨rfl, v8, hW8, hs8⟩
  have HW8 := Lib.hid hW8
  have HS8 := Lib.hid (HS7.out.trans hs8)
  clear hW8 hs8
  go_wp2
  go_ret
  refine ⟨rfl, N7, ?_, v8, ?_, ?_⟩
  · rw [HE.out.1]
    have := HN7.out
    have := putN_len HF.out
    simp only [List.length_append, List.length_take, List.length_drop, this]
    simp
    omega
  · rw [HE.out.1, HE.out.2]; exact HW8.out
  · exact (Stp.of_ext HE1.out).trans HS8.out
end Go.Proofs.Ytfnelkcllaaebaa
end
section
/- Records one behind the other: what is written is read. No condition: plain lists. -/
set_option linter.unusedVariables false
set_option linter.unusedSimpArgs false
namespace Go.Proofs.Ytfnelkcllaaebaa
def rrStep (s : List UInt8 × Rests) (r : Rec) : List UInt8 × Rests := ((Wt.rr r).bytes s.1 s.2, (Wt.rr r).rests s.1 s.2)
end Go.Proofs.Ytfnelkcllaaebaa
end
