/- Parts of one proof, joined: MsgC, MsgD, MsgE. Conditions: those that each theorem states. -/
import Derived.Test.YtfnelkcllaaebaaEB27
import Derived.Test.YtfnelkcllaaebaaEB21
import Derived.StillTailTactics
import Derived.Deep.QuietTactic
import Derived.BigQuiet
section
/- Messages: how they read; contracts of msg.question, msg.record and of their closures; IndexFunc and ContainsFunc over records. No condition but that they stand in memory, and the strings' sizes. -/
open Go.RowKit
set_option linter.unusedVariables false
set_option linter.unusedSimpArgs false
namespace Go.Proofs.Ytfnelkcllaaebaa
/-- What a message reads as. -/
structure MsgC (w : World) (vq va vu ve : Value) (m : Msg) : Prop where
  qs : QsV w vq m.qs
  ans : RecsV w va m.ans
  auth : RecsV w vu m.auth
  extra : RecsV w ve m.extra
theorem MsgC.ext {w w' : World} {vq va vu ve : Value} {m : Msg} (h : MsgC w vq va vu ve m) (hE : Ext w w') : MsgC w' vq va vu ve m := ⟨h.qs.ext hE, h.ans.ext hE, h.auth.ext hE, h.extra.ext hE⟩
/-- What a message that came in holds besides. -/
structure MOk (m : Msg) : Prop where
  qs : ∀ q ∈ m.qs, QOk q
  ans : ∀ r ∈ m.ans, ROk r
  auth : ∀ r ∈ m.auth, ROk r
  extra : ∀ r ∈ m.extra, ROk r
  id : (Lit.int .i64 m.id).wf = true
  op : (Lit.int .i64 m.op).wf = true
  rc : (Lit.int .i64 m.rc).wf = true
  size : (Lit.int .i64 m.size).wf = true
theorem indexFunc_R (f : FuncId) (cap : Array Value) (eg : ∀ args w, (callFunc f args).run Try.prog w = .ok (.enter f args) w) (p : Rec → Bool) (v : Value) (l : List Rec) (w : World) (hv : RecsV w v l)
    (hf : ∀ x vn v0 v1 v2 v3 v4 w', x ∈ l → RecC w vn v0 v1 v2 v3 v4 x → Ext w w' → Calls Try.prog f (#[.agg #[vn, .int .i64 x.type, .int .i64 x.cls, .int .i64 x.ttl, v0, v1, v2, v3, v4]] ++ cap) w' fun e w'' => e = .returned (.bool (p x)) ∧ Ext w' w'') :
    Calls Try.prog 145 #[v, .func (.func f) #[] cap] w fun e w' => e = .returned (.int .i64 (idxF p l)) ∧ Ext w w' := by
  have hl := hv.len
  unfold maxI at hl
  have HV := Lib.hid hv
  have HF := Lib.hid hf
  obtain ⟨A, c, rfl, h1, h2⟩ := hv.form
  clear hv hf
  go_enter Try.func145, Try.ntmps145
  go_wp2
  go_loopw [5, 8] (fun u i wr => ∃ k : Nat, k ≤ l.length ∧ i = .int .i64 k ∧ Hid (∀ j x, j < k → l[j]? = some x → p x = false) ∧ Ext w wr) (fun _ i _ => l.length - (intOf i).toNat)
  case atStart => exact ⟨0, by omega, rfl, by intro j x hx; omega, Ext.refl _⟩
  case round =>
    obtain ⟨k, hk, rfl, hT, hE⟩ := hrel
    by_cases hlt : k < l.length
    · obtain ⟨b, o, c1, e1, _, _, _⟩ := HV.out.opens (by omega)
      injection e1 with e1 e3 e4
      subst e1
      clear e3 e4
      have hx := List.getElem?_eq_getElem hlt
      obtain ⟨vn, v0, v1, v2, v3, v4, hn, hd, g0, g1, g2, g3, g4, g5, g6, g7, g8⟩ := recs_cells HV.out hx
      obtain ⟨An, kn, rfl, _, _⟩ := hn.form
      obtain ⟨A0, k0, rfl, _, _⟩ := hd.by_.form
      obtain ⟨A1, k1, rfl, _, _⟩ := hd.ho.form
      obtain ⟨A2, k2, rfl, _, _⟩ := hd.ma.form
      obtain ⟨A3, k3, rfl, _, _⟩ := hd.nu.form
      obtain ⟨A4, k4, rfl, _, _⟩ := hd.tx.form
      have c0 := hE.cell g0
      have c1' := hE.cell g1
      have c2 := hE.cell g2
      have c3 := hE.cell g3
      have c4 := hE.cell g4
      have c5 := hE.cell g5
      have c6 := hE.cell g6
      have c7 := hE.cell g7
      have c8 := hE.cell g8
      clear g0 g1 g2 g3 g4 g5 g6 g7 g8
      have hcall := HF.out _ _ _ _ _ _ _ wr (List.mem_of_getElem? hx) ⟨hn, hd⟩ hE
      have HX := Lib.hid hx
      clear hx hd hn
      generalize l[k] = x at *
      cases hq : p x with
      | true =>
        rw [hq] at hcall
        have HQ := Lib.hid hq
        clear hq
        go_wp2_with (go_at_fn f; refine hcall.mono ?_; rintro e w' ⟨rfl, hb'⟩)
        go_ret
        exact ⟨ret_eq (int_eq (idxF_hit p l k x HX.out hT.out HQ.out)), hE.trans hb'⟩
      | false =>
        rw [hq] at hcall
        have HQ := Lib.hid hq
        clear hq
        go_wp2_with (go_at_fn f; refine hcall.mono ?_; rintro e w' ⟨rfl, hb'⟩)
        go_roundw
        case rel => exact ⟨k + 1, by omega, by go_num, idxF_step p l k x HX.out hT.out HQ.out, hE.trans hb'⟩
        case measure => simp [intOf]; omega
    · have HE := Lib.hid (idxF_miss p l k (by omega) hT.out)
      go_wp2
      go_ret
      exact ⟨ret_eq (int_eq HE.out), hE⟩
/-- slices.ContainsFunc at RR. -/
theorem containsFunc_R (f : FuncId) (cap : Array Value) (eg : ∀ args w, (callFunc f args).run Try.prog w = .ok (.enter f args) w) (p : Rec → Bool) (v : Value) (l : List Rec) (w : World) (hv : RecsV w v l)
    (hf : ∀ x vn v0 v1 v2 v3 v4 w', x ∈ l → RecC w vn v0 v1 v2 v3 v4 x → Ext w w' → Calls Try.prog f (#[.agg #[vn, .int .i64 x.type, .int .i64 x.cls, .int .i64 x.ttl, v0, v1, v2, v3, v4]] ++ cap) w' fun e w'' => e = .returned (.bool (p x)) ∧ Ext w' w'') :
    Calls Try.prog 100 #[v, .func (.func f) #[] cap] w fun e w' => e = .returned (.bool (l.any p)) ∧ Ext w w' := by
  have HI := Lib.hid (indexFunc_R f cap eg p v l w hv hf)
  have HE := Lib.hid (idxF_any p l)
  clear hv hf
  go_enter Try.func100, Try.ntmps100
  go_wp2_with (go_at_call 145; refine (HI.out).mono ?_; rintro e w' ⟨rfl, hE⟩)
  go_ret
  exact ⟨ret_eq (bool_eq HE.out), hE⟩
set_option maxHeartbeats 400000 in
/-- msg.question. -/
theorem msg_question (q : Qst) (vn : Value) (w : World) (hn : NameV w vn q.name) (fn : Fits q.name) :
    Calls Try.prog 105 #[.agg #[vn, .int .i64 q.type, .int .i64 q.cls]] w fun e w' => e = .returned (.bool (qsound q)) ∧ Ext w w' := by
  have hE0 := (Ext.refl w).alloc (.cells #[vn, .int .i64 q.type, .int .i64 q.cls] 46)
  have HC1 := Lib.hid (name_Sound _ q.name _ (hn.ext hE0) fn)
  obtain ⟨An, kn, rfl, _, _⟩ := hn.form
  have HE0 := Lib.hid hE0
  have HB0 := Lib.hid (heap_alloc_new w (.cells #[.slice An q.name.length kn, .int .i64 q.type, .int .i64 q.cls] 46))
  have HM : Hid (qsound q = (nsound q.name && (decide (1 ≤ q.type) && (fits q.type 2 && fits q.cls 2)))) := Lib.hid rfl
  have HC2 := Lib.hid (num_Fits q.type 2)
  have HC3 := Lib.hid (num_Fits q.cls 2)
  clear hn hE0 fn
  generalize nsound q.name = β1 at *
  generalize fits q.type 2 = β2 at *
  generalize fits q.cls 2 = β3 at *
  go_enter Try.func105, Try.ntmps105
  go_wp2_with fail
  refine (HC1.out).mono ?_
  rintro e w1 ⟨rfl, hE1⟩
  have HE1 := Lib.hid (HE0.out.trans hE1)
  have HB1 := Lib.hid (hE1.block HB0.out)
  clear hE1
  have q0 := row_cells HB1.out 0
  have q1 := row_cells HB1.out 1
  have q2 := row_cells HB1.out 2
  simp at q0 q1 q2
  cases β1
  · go_wp2
    go_ret
    exact ⟨by rw [HM.out]; rfl, HE1.out⟩
  · by_cases h1 : 1 ≤ q.type
    · have HX : Hid (decide (1 ≤ q.type) = true) := Lib.hid (decide_eq_true h1)
      go_wp2_with fail
      refine (HC2.out w1).mono ?_
      rintro e w2 ⟨rfl, rfl⟩
      cases β2
      · go_wp2
        go_ret
        exact ⟨by rw [HM.out, HX.out]; rfl, HE1.out⟩
      · go_wp2_with fail
        refine (HC3.out _).mono ?_
        rintro e w2 ⟨rfl, rfl⟩
        cases β3
        · go_wp2
          go_ret
          exact ⟨by rw [HM.out, HX.out]; rfl, HE1.out⟩
        · go_wp2
          go_ret
          exact ⟨by rw [HM.out, HX.out]; rfl, HE1.out⟩
    · have HX : Hid (decide (1 ≤ q.type) = false) := Lib.hid (decide_eq_false h1)
      go_wp2
      go_ret
      exact ⟨by rw [HM.out, HX.out]; rfl, HE1.out⟩
/-- msg.Sound$2. -/
theorem msg_Sound2 (q : Qst) (vn : Value) (w : World) (hn : NameV w vn q.name) (fn : Fits q.name) :
    Calls Try.prog 104 #[.agg #[vn, .int .i64 q.type, .int .i64 q.cls]] w fun e w' => e = .returned (.bool (!qsound q)) ∧ Ext w w' := by
  have hE0 := (Ext.refl w).alloc (.cells #[vn, .int .i64 q.type, .int .i64 q.cls] 46)
  have HC1 := Lib.hid (msg_question q _ _ (hn.ext hE0) fn)
  obtain ⟨An, kn, rfl, _, _⟩ := hn.form
  have HE0 := Lib.hid hE0
  clear hn hE0 fn
  generalize qsound q = β at *
  go_enter Try.func104, Try.ntmps104
  go_wp2_with fail
  refine (HC1.out).mono ?_
  rintro e w1 ⟨rfl, hE1⟩
  cases β
  all_goals
    go_wp2
    go_ret
    exact ⟨rfl, HE0.out.trans hE1⟩
set_option maxHeartbeats 400000 in
/-- msg.record. -/
theorem msg_record (r : Rec) (vn v0 v1 v2 v3 v4 : Value) (w : World) (h : RecC w vn v0 v1 v2 v3 v4 r) (fr : RFit r) (ft : Fits r.data.texts) :
    Calls Try.prog 102 #[.agg #[vn, .int .i64 r.type, .int .i64 r.cls, .int .i64 r.ttl, v0, v1, v2, v3, v4]] w fun e w' => e = .returned (.bool (rmsound r)) ∧ Ext w w' := by
  have hE0 := (Ext.refl w).alloc (.cells #[vn, .int .i64 r.type, .int .i64 r.cls, .int .i64 r.ttl, v0, v1, v2, v3, v4] 49)
  have HC := Lib.hid (rr_Sound r vn v0 v1 v2 v3 v4 _ (h.ext hE0) fr ft)
  obtain ⟨hn, hd⟩ := h
  obtain ⟨An, kn, rfl, _, _⟩ := hn.form
  obtain ⟨A0, k0, rfl, _, _⟩ := hd.by_.form
  obtain ⟨A1, k1, rfl, _, _⟩ := hd.ho.form
  obtain ⟨A2, k2, rfl, _, _⟩ := hd.ma.form
  obtain ⟨A3, k3, rfl, _, _⟩ := hd.nu.form
  obtain ⟨A4, k4, rfl, _, _⟩ := hd.tx.form
  have HE0 := Lib.hid hE0
  have HM : Hid (rmsound r = (decide (r.type ≠ 41) && rrsound r)) := Lib.hid rfl
  clear hn hd hE0 fr ft
  generalize rrsound r = β at *
  by_cases h41 : r.type = 41
  · have j : (r.type != 41) = false := by rw [h41]; rfl
    have HX : Hid (decide (r.type ≠ 41) = false) := Lib.hid (decide_eq_false (fun h => h h41))
    clear h41
    go_enter Try.func102, Try.ntmps102
    go_wp2
    go_ret
    exact ⟨by rw [HM.out, HX.out]; rfl, HE0.out⟩
  · have j : (r.type != 41) = true := by rw [bne_iff_ne]; exact h41
    have HX : Hid (decide (r.type ≠ 41) = true) := Lib.hid (decide_eq_true h41)
    clear h41
    go_enter Try.func102, Try.ntmps102
    go_wp2_with fail
    refine (HC.out).mono ?_
    rintro e w1 ⟨rfl, hE1⟩
    cases β
    all_goals
      go_wp2
      go_ret
      exact ⟨by rw [HM.out, HX.out]; rfl, HE0.out.trans hE1⟩
/-- msg.Sound$1. -/
theorem msg_Sound1 (r : Rec) (vn v0 v1 v2 v3 v4 : Value) (w : World) (h : RecC w vn v0 v1 v2 v3 v4 r) (fr : RFit r) (ft : Fits r.data.texts) :
    Calls Try.prog 101 #[.agg #[vn, .int .i64 r.type, .int .i64 r.cls, .int .i64 r.ttl, v0, v1, v2, v3, v4]] w fun e w' => e = .returned (.bool (!rmsound r)) ∧ Ext w w' := by
  have hE0 := (Ext.refl w).alloc (.cells #[vn, .int .i64 r.type, .int .i64 r.cls, .int .i64 r.ttl, v0, v1, v2, v3, v4] 49)
  have HC := Lib.hid (msg_record r vn v0 v1 v2 v3 v4 _ (h.ext hE0) fr ft)
  obtain ⟨hn, hd⟩ := h
  obtain ⟨An, kn, rfl, _, _⟩ := hn.form
  obtain ⟨A0, k0, rfl, _, _⟩ := hd.by_.form
  obtain ⟨A1, k1, rfl, _, _⟩ := hd.ho.form
  obtain ⟨A2, k2, rfl, _, _⟩ := hd.ma.form
  obtain ⟨A3, k3, rfl, _, _⟩ := hd.nu.form
  obtain ⟨A4, k4, rfl, _, _⟩ := hd.tx.form
  have HE0 := Lib.hid hE0
  clear hn hd hE0 fr ft
  generalize rmsound r = β at *
  go_enter Try.func101, Try.ntmps101
  go_wp2_with fail
  refine (HC.out).mono ?_
  rintro e w1 ⟨rfl, hE1⟩
  cases β
  all_goals
    go_wp2
    go_ret
    exact ⟨rfl, HE0.out.trans hE1⟩
theorem eg101 : ∀ args w, (callFunc 101 args).run Try.prog w = .ok (.enter 101 args) w := fun _ _ => by kernel_rfl
theorem eg104 : ∀ args w, (callFunc 104 args).run Try.prog w = .ok (.enter 104 args) w := fun _ _ => by kernel_rfl
/-- Is a record of a list none for a message? -/
theorem any_rec (v : Value) (l : List Rec) (w : World) (hv : RecsV w v l) (hf : ∀ r ∈ l, RFit r ∧ Fits r.data.texts) :
    Calls Try.prog 100 #[v, .func (.func 101) #[] #[]] w fun e w' => e = .returned (.bool (l.any fun r => !rmsound r)) ∧ Ext w w' :=
  containsFunc_R 101 #[] eg101 (fun r => !rmsound r) v l w hv (fun x vn v0 v1 v2 v3 v4 w' hx hr hE => by
    have := msg_Sound1 x vn v0 v1 v2 v3 v4 w' (hr.ext hE) (hf x hx).1 (hf x hx).2
    simpa using this)
theorem any_qst (v : Value) (l : List Qst) (w : World) (hv : QsV w v l) (hf : ∀ q ∈ l, Fits q.name) :
    Calls Try.prog 103 #[v, .func (.func 104) #[] #[]] w fun e w' => e = .returned (.bool (l.any fun q => !qsound q)) ∧ Ext w w' :=
  containsFunc_Q 104 #[] eg104 (fun q => !qsound q) v l w hv (fun x v0 w' hx hn hE => by
    have := msg_Sound2 x v0 w' (hn.ext hE) (hf x hx)
    simpa using this)
end Go.Proofs.Ytfnelkcllaaebaa
end
section
/- Contracts of msg.sections, msg.bit, msg.flags and msg.Sound. No condition but that the message stands in memory, and the strings' sizes. -/
open Go.RowKit
set_option linter.unusedVariables false
set_option linter.unusedSimpArgs false
namespace Go.Proofs.Ytfnelkcllaaebaa
/-- Three pointers to the lists of a message at block g. -/
def Secs (w : World) (s g : Nat) : Prop := w.heap[s]? = some (.cells #[.pointer (some ⟨g, 9, none⟩), .pointer (some ⟨g, 10, none⟩), .pointer (some ⟨g, 11, none⟩)] 129 (0, 0))
set_option maxRecDepth 100000 in
theorem msg_sections (g : Nat) (w : World) : Calls Try.prog 99 #[.pointer (some ⟨g, 0, none⟩)] w fun e w' => ∃ s, e = .returned (.slice (some ⟨s, 0, none⟩) 3 3) ∧ Ext w w' ∧ w.heap.size ≤ s ∧ Secs w' s g := by
  go_enter Try.func99, Try.ntmps99
  go_wp2
  go_still_tail 9, (by kernel_rfl)
  go_wp2
  go_ret
  exact ⟨_, rfl, (Ext.refl w).drew.alloc _, Nat.le_refl _, heap_alloc_new _ _⟩
theorem msg_bit (b : Bool) (up : Int) (w : World) (h : 0 ≤ up ∧ up ≤ 15) : Calls Try.prog 159 #[.bool b, .int .i64 up] w fun e w' => e = .returned (.int .i64 (bitN b (2 ^ up.toNat))) ∧ w = w' := by
  obtain ⟨n, rfl⟩ : ∃ n : Nat, up = n := ⟨up.toNat, by omega⟩
  have hn : n ≤ 15 := by omega
  clear h
  cases b
  · go_enter Try.func159, Try.ntmps159
    go_wp2
    go_ret
    exact ⟨rfl, rfl⟩
  · have hp : (2 : Int) ^ n ≤ 2 ^ 15 := by
      have := Nat.pow_le_pow_right (n := 2) (by decide) hn
      have h2 : ((2 ^ n : Nat) : Int) ≤ ((2 ^ 15 : Nat) : Int) := Int.ofNat_le.2 this
      exact h2
    have hp0 : (0 : Int) < 2 ^ n := Int.pow_pos (by decide)
    go_enter Try.func159, Try.ntmps159
    go_wp2
    go_ret
    exact ⟨ret_eq (int_eq (by simp [bitN])), rfl⟩
theorem bit01' (b : Bool) (n : Int) : bitN b n = 0 ∨ bitN b n = n := by cases b <;> simp [bitN]
/-- The message's box. -/
def BoxM (w : World) (g : Nat) (m : Msg) (vq va vu ve : Value) : Prop := w.heap[g]? = some (.cells #[.int .i64 m.id, .bool m.resp, .int .i64 m.op, .bool m.aa, .bool m.tc, .bool m.rd, .bool m.ra, .int .i64 m.rc, vq, va, vu, ve, .bool m.edns, .int .i64 m.size] 39 (0, 0))
theorem BoxM.cells {w : World} {g : Nat} {m : Msg} {vq va vu ve : Value} (h : BoxM w g m vq va vu ve) :
    w.cell? ⟨g, 0, none⟩ = some (.int .i64 m.id) ∧ w.cell? ⟨g, 1, none⟩ = some (.bool m.resp) ∧ w.cell? ⟨g, 2, none⟩ = some (.int .i64 m.op) ∧ w.cell? ⟨g, 3, none⟩ = some (.bool m.aa) ∧ w.cell? ⟨g, 4, none⟩ = some (.bool m.tc) ∧ w.cell? ⟨g, 5, none⟩ = some (.bool m.rd) ∧ w.cell? ⟨g, 6, none⟩ = some (.bool m.ra) ∧
    w.cell? ⟨g, 7, none⟩ = some (.int .i64 m.rc) ∧ w.cell? ⟨g, 8, none⟩ = some vq ∧ w.cell? ⟨g, 9, none⟩ = some va ∧ w.cell? ⟨g, 10, none⟩ = some vu ∧ w.cell? ⟨g, 11, none⟩ = some ve ∧ w.cell? ⟨g, 12, none⟩ = some (.bool m.edns) ∧ w.cell? ⟨g, 13, none⟩ = some (.int .i64 m.size) := by
  unfold BoxM at h
  refine ⟨?_, ?_, ?_, ?_, ?_, ?_, ?_, ?_, ?_, ?_, ?_, ?_, ?_, ?_⟩ <;> (rw [row_cells h]; rfl)
theorem BoxM.ext {w w' : World} {g : Nat} {m : Msg} {vq va vu ve : Value} (h : BoxM w g m vq va vu ve) (hE : Ext w w') : BoxM w' g m vq va vu ve := hE.block h
theorem BoxM.frozen {w : World} {g : Nat} {m : Msg} {vq va vu ve : Value} (h : BoxM w g m vq va vu ve) (i : Nat) : w.frozen? ⟨g, i, none⟩ = false := by
  unfold BoxM at h; simp [World.frozen?, h]
theorem Secs.cells {w : World} {s g : Nat} (h : Secs w s g) : w.cell? ⟨s, 0, none⟩ = some (.pointer (some ⟨g, 9, none⟩)) ∧ w.cell? ⟨s, 1, none⟩ = some (.pointer (some ⟨g, 10, none⟩)) ∧ w.cell? ⟨s, 2, none⟩ = some (.pointer (some ⟨g, 11, none⟩)) := by
  unfold Secs at h
  refine ⟨?_, ?_, ?_⟩ <;> (rw [row_cells h]; rfl)
theorem Secs.ext {w w' : World} {s g : Nat} (h : Secs w s g) (hE : Ext w w') : Secs w' s g := hE.block h
set_option maxRecDepth 100000 in
set_option maxHeartbeats 1000000 in
/-- msg.flags of a sound message. -/
theorem msg_flags (m : Msg) (g : Nat) (vq va vu ve : Value) (w : World) (hB : BoxM w g m vq va vu ve) (ho : 0 ≤ m.op ∧ m.op < 16) (hr : 0 ≤ m.rc ∧ m.rc < 16) :
    Calls Try.prog 143 #[.pointer (some ⟨g, 0, none⟩)] w fun e w' => e = .returned (.int .i64 (flagsN m)) ∧ Ext w w' := by
  obtain ⟨c0, c1, c2, c3, c4, c5, c6, c7, c8, c9, c10, c11, c12, c13⟩ := hB.cells
  have HF : Hid (flagsN m = bitN m.resp 32768 + m.op * 2048 + bitN m.aa 1024 + bitN m.tc 512 + bitN m.rd 256 + bitN m.ra 128 + m.rc) := Lib.hid rfl
  have hb1 := msg_bit m.resp 15
  have hb2 := msg_bit m.aa 10
  have hb3 := msg_bit m.tc 9
  have hb4 := msg_bit m.rd 8
  have hb5 := msg_bit m.ra 7
  simp only [show ((15 : Int)).toNat = 15 from rfl, show ((10 : Int)).toNat = 10 from rfl, show ((9 : Int)).toNat = 9 from rfl, show ((8 : Int)).toNat = 8 from rfl, show ((7 : Int)).toNat = 7 from rfl, show (2 : Int) ^ 15 = 32768 from rfl, show (2 : Int) ^ 10 = 1024 from rfl, show (2 : Int) ^ 9 = 512 from rfl, show (2 : Int) ^ 8 = 256 from rfl, show (2 : Int) ^ 7 = 128 from rfl] at hb1 hb2 hb3 hb4 hb5
  have r1 := bit01' m.resp 32768
  have r2 := bit01' m.aa 1024
  have r3 := bit01' m.tc 512
  have r4 := bit01' m.rd 256
  have r5 := bit01' m.ra 128
  obtain ⟨ho0, ho1⟩ := ho
  obtain ⟨hr0, hr1⟩ := hr
  have H1 : Hid (∀ w, Calls Try.prog 159 #[.bool m.resp, .int .i64 15] w fun e w' => e = .returned (.int .i64 (bitN m.resp 32768)) ∧ w' = w) := Lib.hid (fun w => (hb1 w (by omega)).mono (fun e w' h => ⟨h.1, h.2.symm⟩))
  have H2 : Hid (∀ w, Calls Try.prog 159 #[.bool m.aa, .int .i64 10] w fun e w' => e = .returned (.int .i64 (bitN m.aa 1024)) ∧ w' = w) := Lib.hid (fun w => (hb2 w (by omega)).mono (fun e w' h => ⟨h.1, h.2.symm⟩))
  have H3 : Hid (∀ w, Calls Try.prog 159 #[.bool m.tc, .int .i64 9] w fun e w' => e = .returned (.int .i64 (bitN m.tc 512)) ∧ w' = w) := Lib.hid (fun w => (hb3 w (by omega)).mono (fun e w' h => ⟨h.1, h.2.symm⟩))
  have H4 : Hid (∀ w, Calls Try.prog 159 #[.bool m.rd, .int .i64 8] w fun e w' => e = .returned (.int .i64 (bitN m.rd 256)) ∧ w' = w) := Lib.hid (fun w => (hb4 w (by omega)).mono (fun e w' h => ⟨h.1, h.2.symm⟩))
  have H5 : Hid (∀ w, Calls Try.prog 159 #[.bool m.ra, .int .i64 7] w fun e w' => e = .returned (.int .i64 (bitN m.ra 128)) ∧ w' = w) := Lib.hid (fun w => (hb5 w (by omega)).mono (fun e w' h => ⟨h.1, h.2.symm⟩))
  clear hb1 hb2 hb3 hb4 hb5
  generalize bitN m.resp 32768 = x1 at *
  generalize bitN m.aa 1024 = x2 at *
  generalize bitN m.tc 512 = x3 at *
  generalize bitN m.rd 256 = x4 at *
  generalize bitN m.ra 128 = x5 at *
  generalize m.op = op at *
  generalize m.rc = rc at *
  have k1 : bits .or .i64 x1 (op * 2048) = x1 + op * 2048 := or_join 15 _ _ (by omega) (by omega) (by omega) (by omega) (by omega) (by omega)
  have k2 : bits .or .i64 (x1 + op * 2048) x2 = x1 + op * 2048 + x2 := or_join 11 _ _ (by omega) (by omega) (by omega) (by omega) (by omega) (by omega)
  have k3 : bits .or .i64 (x1 + op * 2048 + x2) x3 = x1 + op * 2048 + x2 + x3 := or_join 10 _ _ (by omega) (by omega) (by omega) (by omega) (by omega) (by omega)
  have k4 : bits .or .i64 (x1 + op * 2048 + x2 + x3) x4 = x1 + op * 2048 + x2 + x3 + x4 := or_join 9 _ _ (by omega) (by omega) (by omega) (by omega) (by omega) (by omega)
  have k5 : bits .or .i64 (x1 + op * 2048 + x2 + x3 + x4) x5 = x1 + op * 2048 + x2 + x3 + x4 + x5 := or_join 8 _ _ (by omega) (by omega) (by omega) (by omega) (by omega) (by omega)
  have k6 : bits .or .i64 (x1 + op * 2048 + x2 + x3 + x4 + x5) rc = x1 + op * 2048 + x2 + x3 + x4 + x5 + rc := or_join 7 _ _ (by omega) (by omega) (by omega) (by omega) (by omega) (by omega)
  clear r1 r2 r3 r4 r5
  go_enter Try.func143, Try.ntmps143
  go_wp2
  go_quiet ((first | (go_at_call 159; with_reducible exact Calls.quiet_of_same (H1.out _)) | (go_at_call 159; with_reducible exact Calls.quiet_of_same (H2.out _)) | (go_at_call 159; with_reducible exact Calls.quiet_of_same (H3.out _)) | (go_at_call 159; with_reducible exact Calls.quiet_of_same (H4.out _)) | (go_at_call 159; with_reducible exact Calls.quiet_of_same (H5.out _))))
  go_wp2
  trace_state
  go_ret
  exact ⟨ret_eq (int_eq HF.out.symm), (Ext.refl w).drewN _⟩
end Go.Proofs.Ytfnelkcllaaebaa
end
section
/- Contract of msg.Sound. No condition but that the message stands in memory, that its lists are not too long, and the strings' sizes. -/
open Go.RowKit
set_option linter.unusedVariables false
set_option linter.unusedSimpArgs false
namespace Go.Proofs.Ytfnelkcllaaebaa
/-- The strings' sizes. -/
structure MFit (m : Msg) : Prop where
  qs : ∀ q ∈ m.qs, Fits q.name
  ans : ∀ r ∈ m.ans, RFit r ∧ Fits r.data.texts
  auth : ∀ r ∈ m.auth, RFit r ∧ Fits r.data.texts
  extra : ∀ r ∈ m.extra, RFit r ∧ Fits r.data.texts
theorem MOk.fit {m : Msg} (h : MOk m) : MFit m := ⟨fun q hq => (h.qs q hq).1, fun r hr => ⟨(h.ans r hr).fit, (h.ans r hr).2.1.2.1⟩, fun r hr => ⟨(h.auth r hr).fit, (h.auth r hr).2.1.2.1⟩, fun r hr => ⟨(h.extra r hr).fit, (h.extra r hr).2.1.2.1⟩⟩
theorem any_notall {α : Type} (p : α → Bool) (l : List α) : (!(l.any fun x => !p x)) = l.all p := by
  induction l with
  | nil => rfl
  | cons x l ih => simp only [List.any_cons, List.all_cons, ← ih]; cases p x <;> simp
def sumN (m : Msg) : Nat → Nat
  | 0 => m.qs.length
  | 1 => m.qs.length + m.ans.length
  | 2 => m.qs.length + m.ans.length + m.auth.length
  | _ => m.qs.length + m.ans.length + m.auth.length + m.extra.length
theorem ms_many {m : Msg} (h : ¬ m.all ≤ 512) : msound m = false := by unfold msound; rw [decide_eq_false h]; rfl
theorem ms_false {m : Msg} (h : ¬ MSound m) : msound m = false := by rw [Bool.eq_false_iff]; intro h2; exact h ((msound_iff m).1 h2)
theorem all_rm {l : List Rec} (h : ∀ r ∈ l, r.type ≠ 41 ∧ rrsound r = true) : l.all rmsound = true := by
  rw [List.all_eq_true]; intro r hr; unfold rmsound; rw [(h r hr).2, decide_eq_true (h r hr).1]; rfl
theorem ms_ans {m : Msg} (h : m.ans.all rmsound = false) : msound m = false := ms_false fun hs => by rw [all_rm hs.ans] at h; cases h
theorem ms_auth {m : Msg} (h : m.auth.all rmsound = false) : msound m = false := ms_false fun hs => by rw [all_rm hs.auth] at h; cases h
theorem ms_extra {m : Msg} (h : m.extra.all rmsound = false) : msound m = false := ms_false fun hs => by rw [all_rm hs.extra] at h; cases h
theorem ms_id {m : Msg} (h : fits m.id 2 = false) : msound m = false := ms_false fun hs => by rw [hs.id] at h; cases h
theorem ms_size {m : Msg} (h : fits m.size 2 = false) : msound m = false := ms_false fun hs => by rw [hs.size] at h; cases h
theorem ms_op {m : Msg} (h : ¬ (0 ≤ m.op ∧ m.op < 16)) : msound m = false := ms_false fun hs => h hs.op
theorem ms_rc {m : Msg} (h : ¬ (0 ≤ m.rc ∧ m.rc < 16)) : msound m = false := ms_false fun hs => h hs.rc
theorem ms_edns {m : Msg} (h : ¬ (m.edns = true ∨ m.size = 0)) : msound m = false := ms_false fun hs => h hs.edns
theorem ms_qs {m : Msg} (h : m.qs.all qsound = false) : msound m = false := ms_false fun hs => by rw [List.all_eq_true.2 hs.qs] at h; cases h
abbrev HidAll (m : Msg) : Prop := Hid (sumN m 3 ≤ 512 ∧ m.ans.all rmsound = true ∧ m.auth.all rmsound = true ∧ m.extra.all rmsound = true)
theorem ms_true {m : Msg} (h : sumN m 3 ≤ 512 ∧ m.ans.all rmsound = true ∧ m.auth.all rmsound = true ∧ m.extra.all rmsound = true) (h1 : fits m.id 2 = true) (h2 : 0 ≤ m.op ∧ m.op < 16) (h3 : 0 ≤ m.rc ∧ m.rc < 16) (h4 : fits m.size 2 = true) (h5 : m.edns = true ∨ m.size = 0) (h6 : m.qs.all qsound = true) : msound m = true := by
  obtain ⟨a, b, c, d⟩ := h
  have a' : m.all ≤ 512 := a
  have h5' : (m.edns || decide (m.size = 0)) = true := by rw [Bool.or_eq_true, decide_eq_true_eq]; exact h5
  unfold msound
  rw [decide_eq_true a', b, c, d, h1, decide_eq_true h2, decide_eq_true h3, h4, h5', h6]
  rfl
set_option maxRecDepth 100000 in
set_option maxHeartbeats 2000000 in
/-- msg.Sound. -/
theorem msg_Sound (m : Msg) (vq va vu ve : Value) (w : World) (h : MsgC w vq va vu ve m) (hf : MFit m) (hl : m.all ≤ 100000) :
    Calls Try.prog 37 #[.agg #[.int .i64 m.id, .bool m.resp, .int .i64 m.op, .bool m.aa, .bool m.tc, .bool m.rd, .bool m.ra, .int .i64 m.rc, vq, va, vu, ve, .bool m.edns, .int .i64 m.size]] w fun e w' => e = .returned (.bool (msound m)) ∧ Ext w w' := by
  have H := Lib.hid h
  have HF := Lib.hid hf
  have HL := Lib.hid hl
  have hql : m.qs.length ≤ 100000 := by unfold Msg.all at hl; omega
  clear h hf hl
  obtain ⟨Aq, kq, rfl, _, _⟩ := H.out.qs.form
  obtain ⟨Aa, ka, rfl, _, _⟩ := H.out.ans.form
  obtain ⟨Au, ku, rfl, _, _⟩ := H.out.auth.form
  obtain ⟨Ae, ke, rfl, _, _⟩ := H.out.extra.form
  have HE1 := Lib.hid ((Ext.refl w).alloc (.cells #[.int .i64 m.id, .bool m.resp, .int .i64 m.op, .bool m.aa, .bool m.tc, .bool m.rd, .bool m.ra, .int .i64 m.rc, .slice Aq m.qs.length kq, .slice Aa m.ans.length ka, .slice Au m.auth.length ku, .slice Ae m.extra.length ke, .bool m.edns, .int .i64 m.size] 39))
  have HB1 : Hid (BoxM (w.alloc (.cells #[.int .i64 m.id, .bool m.resp, .int .i64 m.op, .bool m.aa, .bool m.tc, .bool m.rd, .bool m.ra, .int .i64 m.rc, .slice Aq m.qs.length kq, .slice Aa m.ans.length ka, .slice Au m.auth.length ku, .slice Ae m.extra.length ke, .bool m.edns, .int .i64 m.size] 39)) w.heap.size m _ _ _ _) := Lib.hid (heap_alloc_new w _)
  go_enter Try.func37, Try.ntmps37
  go_wp2_with fail
  generalize w.alloc (.cells #[.int .i64 m.id, .bool m.resp, .int .i64 m.op, .bool m.aa, .bool m.tc, .bool m.rd, .bool m.ra, .int .i64 m.rc, .slice Aq m.qs.length kq, .slice Aa m.ans.length ka, .slice Au m.auth.length ku, .slice Ae m.extra.length ke, .bool m.edns, .int .i64 m.size] 39) = w1 at *
  generalize w.heap.size = g at *
  refine (msg_sections g w1).mono ?_
  rintro e w2 ⟨s, rfl, hE2, hs2, hS2⟩
  have HE0 := Lib.hid (HE1.out.trans hE2)
  have HB := Lib.hid (HB1.out.ext hE2)
  have HSc := Lib.hid hS2
  clear hE2 hs2 hS2
  go_wp2
  go_loopw [3, 11] (fun a i wr => ∃ k : Nat, k ≤ 3 ∧ i = .int .i64 k ∧ a = .int .i64 (sumN m k : Int) ∧ Hid ((0 < k → sumN m k ≤ 512) ∧ (0 < k → m.ans.all rmsound = true) ∧ (1 < k → m.auth.all rmsound = true) ∧ (2 < k → m.extra.all rmsound = true)) ∧ Ext w2 wr) (fun _ i _ => 3 - (intOf i).toNat)
  case atStart => exact ⟨0, by omega, rfl, rfl, Lib.hid ⟨by omega, by omega, by omega, by omega⟩, Ext.refl _⟩
  case round =>
    obtain ⟨k, hk, rfl, rfl, HT, hE⟩ := hrel
    by_cases h3 : k < 3
    · obtain rfl | rfl | rfl : k = 0 ∨ k = 1 ∨ k = 2 := by omega
      · have HBx := Lib.hid (HB.out.ext hE)
        have HSx := Lib.hid (HSc.out.ext hE)
        have HEx := Lib.hid (HE0.out.trans hE)
        have hE' := Lib.hid hE
        obtain ⟨c0, c1, c2, c3, c4, c5, c6, c7, c8, c9, c10, c11, c12, c13⟩ := HBx.out.cells
        obtain ⟨s0, s1, s2⟩ := HSx.out.cells
        have HCx := Lib.hid (any_rec _ m.ans wr (H.out.ans.ext HEx.out) HF.out.ans)
        have HXa := Lib.hid (any_notall rmsound m.ans)
        have hsum : m.ans.length ≤ 100000 := by have := HL.out; unfold Msg.all at this; omega
        have hs1 : sumN m 0 ≤ 100000 := by have := HL.out; unfold Msg.all at this; simp only [sumN]; omega
        have hs2 : sumN m 1 = sumN m 0 + m.ans.length := by simp [sumN]
        have HS2 := Lib.hid hs2
        have hs3 : (sumN m 0 : Int) + m.ans.length ≤ 200000 := by omega
        clear hE hs2
        generalize sumN m 0 = S at *
        by_cases h512 : S + m.ans.length ≤ 512
        · have j512 : decide ((512 : Int) < (S : Int) + m.ans.length) = false := by rw [decide_eq_false_iff_not]; omega
          have J := Lib.hid h512
          clear h512
          go_wp2_with fail
          clear c0 c1 c2 c3 c4 c5 c6 c7 c8 c9 c10 c11 c12 c13 s0 s1 s2
          refine (HCx.out).mono ?_
          rintro e w5 ⟨rfl, hE5⟩
          have HE5 := Lib.hid (hE'.out.trans hE5)
          clear hE5
          cases hany : m.ans.any fun r => !rmsound r with
          | false =>
            rw [hany] at HXa
            have HXa' := Lib.hid HXa.out
            clear hany
            go_wp2
            go_roundw
            case rel => exact ⟨1, by omega, rfl, by rw [HS2.out]; go_num, Lib.hid ⟨by rw [HS2.out]; intro _; exact J.out, fun _ => HXa.out.symm, fun h => absurd h (by omega), fun h => absurd h (by omega)⟩, HE5.out⟩
            case measure => simp [intOf]
          | true =>
            rw [hany] at HXa
            have HXa' := Lib.hid HXa.out
            clear hany
            go_wp2
            go_ret
            exact ⟨ret_eq (bool_eq (ms_ans HXa'.out.symm).symm), HE0.out.trans HE5.out⟩
        · have j512 : decide ((512 : Int) < (S : Int) + m.ans.length) = true := by rw [decide_eq_true_eq]; omega
          have HB9 := Lib.hid (show ¬ m.all ≤ 512 by have := HS2.out; simp only [sumN] at this; unfold Msg.all; omega)
          clear h512
          go_wp2
          go_ret
          exact ⟨ret_eq (bool_eq (ms_many HB9.out).symm), HE0.out.trans hE'.out⟩
      · have HBx := Lib.hid (HB.out.ext hE)
        have HSx := Lib.hid (HSc.out.ext hE)
        have HEx := Lib.hid (HE0.out.trans hE)
        have hE' := Lib.hid hE
        obtain ⟨c0, c1, c2, c3, c4, c5, c6, c7, c8, c9, c10, c11, c12, c13⟩ := HBx.out.cells
        obtain ⟨s0, s1, s2⟩ := HSx.out.cells
        have HCx := Lib.hid (any_rec _ m.auth wr (H.out.auth.ext HEx.out) HF.out.auth)
        have HXa := Lib.hid (any_notall rmsound m.auth)
        have hsum : m.auth.length ≤ 100000 := by have := HL.out; unfold Msg.all at this; omega
        have hs1 : sumN m 1 ≤ 100000 := by have := HL.out; unfold Msg.all at this; simp only [sumN]; omega
        have hs2 : sumN m 2 = sumN m 1 + m.auth.length := by simp [sumN]
        have HS2 := Lib.hid hs2
        have hs3 : (sumN m 1 : Int) + m.auth.length ≤ 200000 := by omega
        clear hE hs2
        generalize sumN m 1 = S at *
        by_cases h512 : S + m.auth.length ≤ 512
        · have j512 : decide ((512 : Int) < (S : Int) + m.auth.length) = false := by rw [decide_eq_false_iff_not]; omega
          have J := Lib.hid h512
          clear h512
          go_wp2_with fail
          clear c0 c1 c2 c3 c4 c5 c6 c7 c8 c9 c10 c11 c12 c13 s0 s1 s2
          refine (HCx.out).mono ?_
          rintro e w5 ⟨rfl, hE5⟩
          have HE5 := Lib.hid (hE'.out.trans hE5)
          clear hE5
          cases hany : m.auth.any fun r => !rmsound r with
          | false =>
            rw [hany] at HXa
            have HXa' := Lib.hid HXa.out
            clear hany
            go_wp2
            go_roundw
            case rel => exact ⟨2, by omega, rfl, by rw [HS2.out]; go_num, Lib.hid ⟨by rw [HS2.out]; intro _; exact J.out, fun _ => HT.out.2.1 (by omega), fun _ => HXa.out.symm, fun h => absurd h (by omega)⟩, HE5.out⟩
            case measure => simp [intOf]
          | true =>
            rw [hany] at HXa
            have HXa' := Lib.hid HXa.out
            clear hany
            go_wp2
            go_ret
            exact ⟨ret_eq (bool_eq (ms_auth HXa'.out.symm).symm), HE0.out.trans HE5.out⟩
        · have j512 : decide ((512 : Int) < (S : Int) + m.auth.length) = true := by rw [decide_eq_true_eq]; omega
          have HB9 := Lib.hid (show ¬ m.all ≤ 512 by have := HS2.out; simp only [sumN] at this; unfold Msg.all; omega)
          clear h512
          go_wp2
          go_ret
          exact ⟨ret_eq (bool_eq (ms_many HB9.out).symm), HE0.out.trans hE'.out⟩
      · have HBx := Lib.hid (HB.out.ext hE)
        have HSx := Lib.hid (HSc.out.ext hE)
        have HEx := Lib.hid (HE0.out.trans hE)
        have hE' := Lib.hid hE
        obtain ⟨c0, c1, c2, c3, c4, c5, c6, c7, c8, c9, c10, c11, c12, c13⟩ := HBx.out.cells
        obtain ⟨s0, s1, s2⟩ := HSx.out.cells
        have HCx := Lib.hid (any_rec _ m.extra wr (H.out.extra.ext HEx.out) HF.out.extra)
        have HXa := Lib.hid (any_notall rmsound m.extra)
        have hsum : m.extra.length ≤ 100000 := by have := HL.out; unfold Msg.all at this; omega
        have hs1 : sumN m 2 ≤ 100000 := by have := HL.out; unfold Msg.all at this; simp only [sumN]; omega
        have hs2 : sumN m 3 = sumN m 2 + m.extra.length := by simp [sumN]
        have HS2 := Lib.hid hs2
        have hs3 : (sumN m 2 : Int) + m.extra.length ≤ 200000 := by omega
        clear hE hs2
        generalize sumN m 2 = S at *
        by_cases h512 : S + m.extra.length ≤ 512
        · have j512 : decide ((512 : Int) < (S : Int) + m.extra.length) = false := by rw [decide_eq_false_iff_not]; omega
          have J := Lib.hid h512
          clear h512
          go_wp2_with fail
          clear c0 c1 c2 c3 c4 c5 c6 c7 c8 c9 c10 c11 c12 c13 s0 s1 s2
          refine (HCx.out).mono ?_
          rintro e w5 ⟨rfl, hE5⟩
          have HE5 := Lib.hid (hE'.out.trans hE5)
          clear hE5
          cases hany : m.extra.any fun r => !rmsound r with
          | false =>
            rw [hany] at HXa
            have HXa' := Lib.hid HXa.out
            clear hany
            go_wp2
            go_roundw
            case rel => exact ⟨3, by omega, rfl, by rw [HS2.out]; go_num, Lib.hid ⟨by rw [HS2.out]; intro _; exact J.out, fun _ => HT.out.2.1 (by omega), fun _ => HT.out.2.2.1 (by omega), fun _ => HXa.out.symm⟩, HE5.out⟩
            case measure => simp [intOf]
          | true =>
            rw [hany] at HXa
            have HXa' := Lib.hid HXa.out
            clear hany
            go_wp2
            go_ret
            exact ⟨ret_eq (bool_eq (ms_extra HXa'.out.symm).symm), HE0.out.trans HE5.out⟩
        · have j512 : decide ((512 : Int) < (S : Int) + m.extra.length) = true := by rw [decide_eq_true_eq]; omega
          have HB9 := Lib.hid (show ¬ m.all ≤ 512 by have := HS2.out; simp only [sumN] at this; unfold Msg.all; omega)
          clear h512
          go_wp2
          go_ret
          exact ⟨ret_eq (bool_eq (ms_many HB9.out).symm), HE0.out.trans hE'.out⟩
    · obtain rfl : k = 3 := by omega
      have hall : HidAll m := Lib.hid (by have h1 := HT.out; exact ⟨h1.1 (by omega), h1.2.1 (by omega), h1.2.2.1 (by omega), h1.2.2.2 (by omega)⟩)
      have hs1 : sumN m 3 ≤ 512 := HT.out.1 (by omega)
      have HBx := Lib.hid (HB.out.ext hE)
      have HEx := Lib.hid (HE0.out.trans hE)
      have HC1 := Lib.hid (num_Fits m.id 2)
      have HC6 := Lib.hid (num_Fits m.size 2)
      have HCq := Lib.hid (fun W (hW : Ext wr W) => any_qst _ m.qs W (H.out.qs.ext (HEx.out.trans hW)) HF.out.qs)
      have HXq := Lib.hid (any_notall qsound m.qs)
      clear hE
      generalize hS : sumN m 3 = S at *
      have HSS := Lib.hid hS
      clear hS
      obtain ⟨c0, c1, c2, c3, c4, c5, c6, c7, c8, c9, c10, c11, c12, c13⟩ := HBx.out.cells
      go_wp2_with fail
      refine (HC1.out wr).mono ?_
      rintro e w' ⟨rfl, rfl⟩
      cases hid : fits m.id 2 with
      | false =>
        have X1 := Lib.hid hid
        clear hid
        go_wp2
        go_ret
        exact ⟨ret_eq (bool_eq (ms_id X1.out).symm), HEx.out⟩
      | true =>
        have X1 := Lib.hid hid
        clear hid
        by_cases ho : 0 ≤ m.op
        · by_cases ho2 : m.op < 16
          · have X2 := Lib.hid (And.intro ho ho2)
            by_cases hr : 0 ≤ m.rc
            · by_cases hr2 : m.rc < 16
              · have X3 := Lib.hid (And.intro hr hr2)
                go_wp2_with fail
                refine (HC6.out _).mono ?_
                rintro e w' ⟨rfl, rfl⟩
                cases hsz : fits m.size 2 with
                | false =>
                  have X4 := Lib.hid hsz
                  clear hsz
                  go_wp2
                  go_ret
                  exact ⟨ret_eq (bool_eq (ms_size X4.out).symm), HEx.out⟩
                | true =>
                  have X4 := Lib.hid hsz
                  clear hsz
                  by_cases hed : m.edns = true ∨ m.size = 0
                  · have X5 := Lib.hid hed
                    have HD : (m.edns = true ∧ True) ∨ (m.edns = false ∧ (m.size == 0) = true) := by
                      cases he : m.edns with
                      | true => exact .inl ⟨rfl, trivial⟩
                      | false => exact .inr ⟨rfl, by rcases hed with h | h; rw [he] at h; cases h; rw [h]; rfl⟩
                    clear hed
                    rcases HD with ⟨he, _⟩ | ⟨he, hz⟩
                    all_goals
                      go_wp2_with fail
                      refine (HCq.out _ (Ext.refl _)).mono ?_
                      rintro e w5 ⟨rfl, hE5⟩
                      have HE5 := Lib.hid (HEx.out.trans hE5)
                      clear hE5
                      cases hany : m.qs.any fun q => !qsound q with
                      | false =>
                        rw [hany] at HXq
                        have HXq' := Lib.hid HXq.out
                        clear hany
                        go_wp2
                        go_ret
                        exact ⟨ret_eq (bool_eq (ms_true hall.out X1.out X2.out X3.out X4.out X5.out HXq'.out.symm).symm), HE5.out⟩
                      | true =>
                        rw [hany] at HXq
                        have HXq' := Lib.hid HXq.out
                        clear hany
                        go_wp2
                        go_ret
                        exact ⟨ret_eq (bool_eq (ms_qs HXq'.out.symm).symm), HE5.out⟩
                  · have X5 := Lib.hid hed
                    have he : m.edns = false := by cases he : m.edns with | true => exact absurd (.inl he) hed | false => rfl
                    have hz : (m.size == 0) = false := by rw [beq_eq_false_iff_ne]; exact fun h => hed (.inr h)
                    clear hed
                    go_wp2
                    go_ret
                    exact ⟨ret_eq (bool_eq (ms_edns X5.out).symm), HEx.out⟩
              · have X3 := Lib.hid hr2
                have j : decide (m.rc < 16) = false := decide_eq_false hr2
                clear hr2
                go_wp2
                go_ret
                exact ⟨ret_eq (bool_eq (ms_rc (by have := X3.out; omega)).symm), HEx.out⟩
            · have X3 := Lib.hid hr
              have j : decide (0 ≤ m.rc) = false := decide_eq_false hr
              clear hr
              go_wp2
              go_ret
              exact ⟨ret_eq (bool_eq (ms_rc (by have := X3.out; omega)).symm), HEx.out⟩
          · have X3 := Lib.hid ho2
            have j : decide (m.op < 16) = false := decide_eq_false ho2
            clear ho2
            go_wp2
            go_ret
            exact ⟨ret_eq (bool_eq (ms_op (by have := X3.out; omega)).symm), HEx.out⟩
        · have X3 := Lib.hid ho
          have j : decide (0 ≤ m.op) = false := decide_eq_false ho
          clear ho
          go_wp2
          go_ret
          exact ⟨ret_eq (bool_eq (ms_op (by have := X3.out; omega)).symm), HEx.out⟩
end Go.Proofs.Ytfnelkcllaaebaa
end
