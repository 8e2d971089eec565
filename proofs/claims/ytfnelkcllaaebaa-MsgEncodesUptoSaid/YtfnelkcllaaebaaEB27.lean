/- Parts of one proof, joined: ModM, MsgA, MsgB, MsgS. Conditions: those that each theorem states. -/
import Derived.Test.YtfnelkcllaaebaaEB19
import Derived.Test.YtfnelkcllaaebaaEB17
section
/- The plain words on messages: may they be, how they are written, how they are read. No condition. -/
set_option linter.unusedVariables false
set_option linter.unusedSimpArgs false
namespace Go.Proofs.Ytfnelkcllaaebaa
structure Msg where
  id : Int
  resp : Bool
  op : Int
  aa : Bool
  tc : Bool
  rd : Bool
  ra : Bool
  rc : Int
  qs : List Qst
  ans : List Rec
  auth : List Rec
  extra : List Rec
  edns : Bool
  size : Int
/-- msg.question. -/
def qsound (q : Qst) : Bool := nsound q.name && (decide (1 ≤ q.type) && (fits q.type 2 && fits q.cls 2))
/-- msg.record. -/
def rmsound (r : Rec) : Bool := decide (r.type ≠ 41) && rrsound r
def Msg.all (m : Msg) : Nat := m.qs.length + m.ans.length + m.auth.length + m.extra.length
/-- msg.Sound. -/
def msound (m : Msg) : Bool :=
  decide (m.all ≤ 512) && (m.ans.all rmsound && (m.auth.all rmsound && (m.extra.all rmsound && (fits m.id 2 && (decide (0 ≤ m.op ∧ m.op < 16) && (decide (0 ≤ m.rc ∧ m.rc < 16) && (fits m.size 2 && ((m.edns || decide (m.size = 0)) && m.qs.all qsound))))))))
structure MSound (m : Msg) : Prop where
  all : m.all ≤ 512
  ans : ∀ r ∈ m.ans, r.type ≠ 41 ∧ rrsound r = true
  auth : ∀ r ∈ m.auth, r.type ≠ 41 ∧ rrsound r = true
  extra : ∀ r ∈ m.extra, r.type ≠ 41 ∧ rrsound r = true
  id : fits m.id 2 = true
  op : 0 ≤ m.op ∧ m.op < 16
  rc : 0 ≤ m.rc ∧ m.rc < 16
  size : fits m.size 2 = true
  edns : m.edns = true ∨ m.size = 0
  qs : ∀ q ∈ m.qs, qsound q = true
theorem msound_iff (m : Msg) : msound m = true ↔ MSound m := by
  unfold msound
  simp only [Bool.and_eq_true, decide_eq_true_eq, List.all_eq_true, Bool.or_eq_true, rmsound]
  constructor
  · rintro ⟨h1, h2, h3, h4, h5, h6, h7, h8, h9, h10⟩
    exact ⟨h1, h2, h3, h4, h5, h6, h7, h8, h9, h10⟩
  · rintro ⟨h1, h2, h3, h4, h5, h6, h7, h8, h9, h10⟩
    exact ⟨h1, h2, h3, h4, h5, h6, h7, h8, h9, h10⟩
def bitN (b : Bool) (n : Int) : Int := if b then n else 0
/-- The flags' number. -/
def flagsN (m : Msg) : Int := bitN m.resp 32768 + m.op * 2048 + bitN m.aa 1024 + bitN m.tc 512 + bitN m.rd 256 + bitN m.ra 128 + m.rc
def Wt.qst (q : Qst) : Wt := (Wt.name q.name true).seq ((Wt.num q.type 2).seq (Wt.num q.cls 2))
def qStep (s : List UInt8 × Rests) (q : Qst) : List UInt8 × Rests := ((Wt.qst q).bytes s.1 s.2, (Wt.qst q).rests s.1 s.2)
/-- The twelve bytes ahead. -/
def headB (m : Msg) : List UInt8 := putN [] m.id 2 ++ putN [] (flagsN m) 2 ++ putN [] (m.qs.length : Int) 2 ++ putN [] (m.ans.length : Int) 2 ++ putN [] (m.auth.length : Int) 2 ++ putN [] ((m.extra.length : Int) + bitN m.edns 1) 2
def qsF (s : List UInt8 × Rests) (l : List Qst) : List UInt8 × Rests := l.foldl qStep s
def rrsF (s : List UInt8 × Rests) (l : List Rec) : List UInt8 × Rests := l.foldl rrStep s
def optB (m : Msg) : List UInt8 := [0] ++ putN [] 41 2 ++ putN [] m.size 2 ++ putN [] 0 6
def mstate (m : Msg) : List UInt8 × Rests := rrsF (qsF (headB m, fun _ => none) m.qs) (m.ans ++ m.auth ++ m.extra)
/-- msg.Raw of a sound message. -/
def mraw (m : Msg) : List UInt8 := if m.edns then (mstate m).1 ++ optB m else (mstate m).1
/-- msg.Encode. -/
def encM (m : Msg) : List UInt8 × Int := if msound m = true then (if 65535 < (mraw m).length then ([], 4) else (mraw m, 0)) else ([], 2)
/-- reader.question. -/
def gQ (b : List UInt8) (a : Nat) : Except Int (Qst × Nat) :=
  if (getName b a).2.2 ≠ 0 then .error (getName b a).2.2
  else if (getN b (getName b a).2.1 2).2 ≠ 0 then .error (getN b (getName b a).2.1 2).2
  else if (getN b ((getName b a).2.1 + 2) 2).2 ≠ 0 then .error (getN b ((getName b a).2.1 + 2) 2).2
  else if (getN b (getName b a).2.1 2).1 = 0 then .error 2
  else .ok (⟨(getName b a).1, (getN b (getName b a).2.1 2).1, (getN b ((getName b a).2.1 + 2) 2).1⟩, (getName b a).2.1.toNat + 4)
def gQs (b : List UInt8) : Nat → Nat → List Qst → Except Int (List Qst × Nat)
  | 0, a, out => .ok (out, a)
  | k + 1, a, out => match gQ b a with
    | .error e => .error e
    | .ok (q, a') => gQs b k a' (out ++ [q])
/-- reader.records. -/
def gRs (b : List UInt8) (extra : Bool) : Nat → Nat → Bool × Int → List Rec → Except Int (List Rec × Nat × (Bool × Int))
  | 0, a, ed, out => .ok (out, a, ed)
  | k + 1, a, ed, out =>
    if (getRR b a).2.2 ≠ 0 then .error (getRR b a).2.2
    else if (getRR b a).1.type ≠ 41 then gRs b extra k (getRR b a).2.1.toNat ed (out ++ [(getRR b a).1])
    else if extra = false ∨ ed.1 = true ∨ (getRR b a).1.name ≠ [] then .error 2
    else gRs b extra k (getRR b a).2.1.toNat (true, (getRR b a).1.cls) out
end Go.Proofs.Ytfnelkcllaaebaa
end
section
/- What is read is read as well when more bytes stand behind. No condition: plain lists. -/
set_option linter.unusedVariables false
set_option linter.unusedSimpArgs false
namespace Go.Proofs.Ytfnelkcllaaebaa
end Go.Proofs.Ytfnelkcllaaebaa
end
section
/- What is written as a message is read as it. No condition: plain lists. -/
set_option linter.unusedVariables false
set_option linter.unusedSimpArgs false
namespace Go.Proofs.Ytfnelkcllaaebaa
theorem qsound_parts {q : Qst} (h : qsound q = true) : nsound q.name = true ∧ 1 ≤ q.type ∧ fits q.type 2 = true ∧ fits q.cls 2 = true := by
  unfold qsound at h; simpa only [Bool.and_eq_true, decide_eq_true_eq] using h
theorem qst_bytes (q : Qst) (b : List UInt8) (f : Rests) : (Wt.qst q).bytes b f = (Wt.name q.name true).bytes b f ++ (putN [] q.type 2 ++ putN [] q.cls 2) := by
  simp only [Wt.qst, Wt.bytes_seq, Wt.num]; simp [Wt.bytes, Wt.raw]
theorem qst_rests (q : Qst) (b : List UInt8) (f : Rests) : (Wt.qst q).rests b f = (Wt.name q.name true).rests b f := by
  simp only [Wt.qst, Wt.rests_seq, Wt.num]; simp [Wt.rests, Wt.raw]
/-- What is written as a question is read as it. -/
theorem qst_back {q : Qst} {b : List UInt8} {f : Rests} (hs : qsound q = true) (hg : Good b f) :
    Good ((Wt.qst q).bytes b f) ((Wt.qst q).rests b f) ∧ (∀ rest, gQ ((Wt.qst q).bytes b f ++ rest) b.length = .ok (q, ((Wt.qst q).bytes b f).length)) ∧ ((Wt.qst q).bytes b f).length ≤ b.length + nsize q.name + 4 := by
  obtain ⟨hn, ht, hty, hc⟩ := qsound_parts hs
  obtain ⟨hsp, hG⟩ := name_good (short := true) hn hg
  have hns := hn
  unfold nsound at hns
  rw [decide_eq_true_eq] at hns
  have hnl := name_len true q.name b.length _ hg.small hns.1
  have hbl := bytes_len (Wt.name q.name true) b f
  have h255 := hns.2
  have l1 := putN_len hty
  have l2 := putN_len hc
  rw [show ((2 : Int)).toNat = 2 from rfl] at l1 l2
  rw [qst_bytes, qst_rests]
  refine ⟨hG.app _, ?_, ?_⟩
  · intro rest
    generalize (Wt.name q.name true).bytes b f = X at *
    have hsL := (hsp.app (putN [] q.type 2 ++ putN [] q.cls 2)).app rest
    have hlen : (X ++ (putN [] q.type 2 ++ putN [] q.cls 2)).length = X.length + 4 := by simp [l1, l2]
    rw [hlen]
    have hall : Has (X ++ (putN [] q.type 2 ++ putN [] q.cls 2) ++ rest) X.length (putN [] q.type 2 ++ putN [] q.cls 2) := ⟨X, rest, by simp, rfl⟩
    generalize X ++ (putN [] q.type 2 ++ putN [] q.cls 2) ++ rest = L at *
    have hgn : getName L (b.length : Int) = (q.name, (X.length : Int), 0) := by
      unfold getName
      rw [if_neg (by omega), Int.toNat_natCast, hsL.get 1 0 [] (by omega)]
      simp
    have g1 := getN_has hty hall.left
    have r1 := hall.right
    rw [l1] at r1
    have g2 := getN_has hc r1
    unfold gQ
    rw [hgn]
    simp only
    rw [show ((X.length : Int)) + 2 = ((X.length + 2 : Nat) : Int) from by omega, g1, g2]
    rw [if_neg (by simp), if_neg (by simp), if_neg (by simp), if_neg (by simp; omega)]
    rw [Int.toNat_natCast]
  · simp only [List.length_append, l1, l2]; omega
theorem wt_prefix (x : Wt) (b : List UInt8) (f : Rests) : ∃ z, x.bytes b f = b ++ z := ⟨_, rfl⟩
theorem qsF_cons (s : List UInt8 × Rests) (q : Qst) (l : List Qst) : qsF s (q :: l) = qsF (qStep s q) l := rfl
theorem rrsF_cons (s : List UInt8 × Rests) (r : Rec) (l : List Rec) : rrsF s (r :: l) = rrsF (rrStep s r) l := rfl
theorem qsF_prefix : ∀ (l : List Qst) (s : List UInt8 × Rests), ∃ z, (qsF s l).1 = s.1 ++ z
  | [], s => ⟨[], by simp [qsF]⟩
  | q :: l, s => by
    obtain ⟨z, hz⟩ := qsF_prefix l (qStep s q)
    obtain ⟨y, hy⟩ := wt_prefix (Wt.qst q) s.1 s.2
    refine ⟨y ++ z, ?_⟩
    rw [qsF_cons, hz, ← List.append_assoc, ← hy]; rfl
theorem rrsF_prefix : ∀ (l : List Rec) (s : List UInt8 × Rests), ∃ z, (rrsF s l).1 = s.1 ++ z
  | [], s => ⟨[], by simp [rrsF]⟩
  | r :: l, s => by
    obtain ⟨z, hz⟩ := rrsF_prefix l (rrStep s r)
    obtain ⟨y, hy⟩ := wt_prefix (Wt.rr r) s.1 s.2
    refine ⟨y ++ z, ?_⟩
    rw [rrsF_cons, hz, ← List.append_assoc, ← hy]; rfl
theorem qsF_back : ∀ (l : List Qst) (s : List UInt8 × Rests), (∀ q ∈ l, qsound q = true) → Good s.1 s.2 → Good (qsF s l).1 (qsF s l).2 ∧
    (∀ rest out, gQs ((qsF s l).1 ++ rest) l.length s.1.length out = .ok (out ++ l, (qsF s l).1.length)) ∧ (qsF s l).1.length ≤ s.1.length + 259 * l.length
  | [], s, _, hg => ⟨hg, fun rest out => by simp [qsF, gQs], by simp [qsF]⟩
  | q :: l, s, hs, hg => by
    obtain ⟨h1, h2, h3⟩ := qst_back (hs q (by simp)) hg
    obtain ⟨i1, i2, i3⟩ := qsF_back l (qStep s q) (fun q hq => hs q (by simp [hq])) h1
    obtain ⟨z, hz⟩ := qsF_prefix l (qStep s q)
    have h255 : nsize q.name ≤ 255 := by have := (qsound_parts (hs q (by simp))).1; unfold nsound at this; rw [decide_eq_true_eq] at this; exact this.2
    refine ⟨i1, fun rest out => ?_, ?_⟩
    · rw [qsF_cons]
      have e : gQ ((qsF (qStep s q) l).1 ++ rest) s.1.length = .ok (q, (qStep s q).1.length) := by
        rw [hz, List.append_assoc]; exact h2 _
      simp only [List.length_cons, gQs, e]
      rw [i2 rest (out ++ [q])]
      simp
    · rw [qsF_cons]
      have : (qStep s q).1.length ≤ s.1.length + nsize q.name + 4 := h3
      simp only [List.length_cons]; omega
theorem rrsF_back (extra : Bool) : ∀ (l : List Rec) (s : List UInt8 × Rests), (∀ r ∈ l, r.type ≠ 41 ∧ rrsound r = true) → Good s.1 s.2 → Good (rrsF s l).1 (rrsF s l).2 ∧
    (∀ rest ed out, gRs ((rrsF s l).1 ++ rest) extra l.length s.1.length ed out = .ok (out ++ l, (rrsF s l).1.length, ed)) ∧ (rrsF s l).1.length ≤ s.1.length + 65800 * l.length
  | [], s, _, hg => ⟨hg, fun rest ed out => by simp [rrsF, gRs], by simp [rrsF]⟩
  | r :: l, s, hs, hg => by
    obtain ⟨h1, h2, h3, h4⟩ := rr_back (hs r (by simp)).2 hg
    obtain ⟨i1, i2, i3⟩ := rrsF_back extra l (rrStep s r) (fun q hq => hs q (by simp [hq])) h1
    obtain ⟨z, hz⟩ := rrsF_prefix l (rrStep s r)
    refine ⟨i1, fun rest ed out => ?_, ?_⟩
    · rw [rrsF_cons]
      have e : getRR ((rrsF (rrStep s r) l).1 ++ rest) s.1.length = (r, ((rrStep s r).1.length : Int), 0) := by
        rw [hz, List.append_assoc]; exact h2 _
      simp only [List.length_cons, gRs, e]
      rw [if_neg (by simp), if_pos (hs r (by simp)).1, Int.toNat_natCast, i2 rest ed (out ++ [r])]
      simp
    · rw [rrsF_cons]
      have : (rrStep s r).1.length = s.1.length + (Wt.rr r s.1.length s.2).1.length := bytes_len _ _ _
      simp only [List.length_cons]; omega
theorem flags_bound {m : Msg} (h : MSound m) : 0 ≤ flagsN m ∧ flagsN m < 65536 := by
  obtain ⟨h1, h2⟩ := h.op
  obtain ⟨h3, h4⟩ := h.rc
  unfold flagsN bitN
  cases m.resp <;> cases m.aa <;> cases m.tc <;> cases m.rd <;> cases m.ra <;> simp <;> omega
theorem fits_flags {m : Msg} (h : MSound m) : fits (flagsN m) 2 = true := by
  have := flags_bound h
  rw [fits_iff]; refine ⟨by omega, by omega, by omega, ?_⟩; simp; omega
theorem fits_small {n : Int} (h0 : 0 ≤ n) (h : n ≤ 65535) : fits n 2 = true := by
  rw [fits_iff]; refine ⟨by omega, by omega, by omega, ?_⟩; simp; omega
theorem bitN_range (b : Bool) : 0 ≤ bitN b 1 ∧ bitN b 1 ≤ 1 := by cases b <;> simp [bitN]
theorem headB_len {m : Msg} (h : MSound m) : (headB m).length = 12 := by
  have ha := h.all
  unfold Msg.all at ha
  have hb := bitN_range m.edns
  have l0 := putN_len h.id
  have l1 := putN_len (fits_flags h)
  have l2 := putN_len (fits_small (n := (m.qs.length : Int)) (by omega) (by omega))
  have l3 := putN_len (fits_small (n := (m.ans.length : Int)) (by omega) (by omega))
  have l4 := putN_len (fits_small (n := (m.auth.length : Int)) (by omega) (by omega))
  have l5 := putN_len (fits_small (n := (m.extra.length : Int) + bitN m.edns 1) (by omega) (by omega))
  unfold headB
  simp only [List.length_append, l0, l1, l2, l3, l4, l5]
  rfl
theorem head_good (m : Msg) : Good (headB m) (fun _ => none) := by intro x k h; cases h
end Go.Proofs.Ytfnelkcllaaebaa
end
section
/- What is read as a message is sound, if its records are few. No condition: plain lists. -/
set_option linter.unusedVariables false
set_option linter.unusedSimpArgs false
namespace Go.Proofs.Ytfnelkcllaaebaa
end Go.Proofs.Ytfnelkcllaaebaa
end
