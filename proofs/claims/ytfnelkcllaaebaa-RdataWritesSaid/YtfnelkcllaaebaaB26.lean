/- Parts of one proof, joined: RtS, LDBack. Conditions: those that each theorem states. -/
import Derived.Test.YtfnelkcllaaebaaB13
import Derived.Test.YtfnelkcllaaebaaB11
import Derived.Test.YtfnelkcllaaebaaB25
import Derived.Test.YtfnelkcllaaebaaB9
section
/- Data cut by one byte do not read, but bytes and several texts. No condition: plain lists. -/
set_option linter.unusedVariables false
set_option linter.unusedSimpArgs false
namespace Go.Proofs.Ytfnelkcllaaebaa
/-- The same, or an error. -/
def SameOr {α : Type} (x y : Except Int α) : Prop := y = x ∨ ∃ k : Int, k ≠ 0 ∧ y = .error k
theorem rName_or {l : List UInt8} {e e' a : Nat} {p : List Str × Nat} (h : rName l e a = .ok p) : SameOr (rName l e a) (rName l e' a) := by
  unfold rName at h ⊢
  simp only at h ⊢
  split at h
  · cases h
  · rename_i h0
    split at h
    · cases h
    · rename_i h1
      by_cases h2 : (e' : Int) < (getName l a).2.1
      · exact .inr ⟨3, by decide, by rw [if_neg h0, if_pos h2]⟩
      · exact .inl (by rw [if_neg h0, if_neg h2, if_neg h0, if_neg h1])
theorem rName_last {l : List UInt8} {e a : Nat} {p : List Str × Nat} (h : rName l e a = .ok p) (hp : e ≤ p.2) (he : 0 < e) : rName l (e - 1) a = .error 3 := by
  unfold rName at h ⊢
  simp only at h ⊢
  split at h
  · cases h
  · rename_i h0
    split at h
    · cases h
    · rename_i h1
      injection h with h
      subst h
      simp only at hp
      rw [if_neg h0, if_pos (by omega)]
theorem rNums_or {l : List UInt8} {e e' s : Nat} : ∀ (n a : Nat) (out : List Int) {p : List Int × Nat}, rNums l e s n a out = .ok p → SameOr (rNums l e s n a out) (rNums l e' s n a out) := by
  intro n
  induction n with
  | zero => intro a out p h; exact .inl rfl
  | succ n ih =>
    intro a out p h
    simp only [rNums, rNum] at h ⊢
    by_cases h1 : e < a + s
    · rw [if_pos h1] at h; cases h
    · rw [if_neg h1] at h ⊢
      simp only at h ⊢
      by_cases h2 : e' < a + s
      · rw [if_pos h2]; exact .inr ⟨3, by decide, rfl⟩
      · rw [if_neg h2]; exact ih _ _ h
theorem rNums_end {l : List UInt8} {e s : Nat} : ∀ (n a : Nat) (out : List Int) {p : List Int × Nat}, rNums l e s n a out = .ok p → p.2 = a + n * s := by
  intro n
  induction n with
  | zero => intro a out p h; simp [rNums] at h; subst h; simp
  | succ n ih =>
    intro a out p h
    simp only [rNums, rNum] at h
    split at h
    · cases h
    · rename_i h1
      split at h1
      · cases h1
      · injection h1 with h1
        injection h1 with h2 h3
        subst h2 h3
        rw [ih _ _ h, Nat.succ_mul]; omega
theorem rNums_short {l : List UInt8} {e s : Nat} : ∀ (n a : Nat) (out : List Int), 0 < n → e < a + n * s → rNums l e s n a out = .error 3 := by
  intro n
  induction n with
  | zero => intro a out h; omega
  | succ n ih =>
    intro a out h he
    simp only [rNums, rNum]
    by_cases h1 : e < a + s
    · rw [if_pos h1]
    · rw [if_neg h1]
      simp only
      rw [Nat.succ_mul] at he
      refine ih _ _ ?_ (by omega)
      rcases Nat.eq_zero_or_pos n with h0 | h0
      · subst h0; omega
      · exact h0
theorem short_host {l : List UInt8} {e a : Nat} {d : Dat} (h : rData l e a ⟨0, true, false, true, 0, 0, false, false⟩ = .ok d) (he : 0 < e) : ∃ k : Int, k ≠ 0 ∧ rData l (e - 1) a ⟨0, true, false, true, 0, 0, false, false⟩ = .error k := by
  rw [rData_host] at h ⊢
  cases hn : rName l e a with
  | error k => rw [hn] at h; cases h
  | ok p =>
    obtain ⟨x, a1⟩ := p
    rw [hn] at h
    simp only at h
    by_cases h1 : a1 < e
    · rw [if_pos h1] at h; cases h
    · rw [rName_last hn (by simp only; omega) he]; exact ⟨3, by decide, rfl⟩
theorem short_first {l : List UInt8} {e a n s : Nat} {sh : Bool} {d : Dat} (h : rData l e a ⟨0, true, false, sh, n, s, false, true⟩ = .ok d) (he : 0 < e) : ∃ k : Int, k ≠ 0 ∧ rData l (e - 1) a ⟨0, true, false, sh, n, s, false, true⟩ = .error k := by
  rw [rData_first] at h ⊢
  cases hm : rNums l e s n a [] with
  | error k => rw [hm] at h; cases h
  | ok q =>
    obtain ⟨y, a0⟩ := q
    have ho := rNums_or (e' := e - 1) n a [] hm
    rw [hm] at h
    simp only at h
    rcases ho with ho | ⟨k, hk, ho⟩
    · rw [ho, hm]
      simp only
      cases hn : rName l e a0 with
      | error k => rw [hn] at h; cases h
      | ok p =>
        obtain ⟨x, a1⟩ := p
        rw [hn] at h
        simp only at h
        by_cases h1 : a1 < e
        · rw [if_pos h1] at h; cases h
        · rw [rName_last hn (by simp only; omega) he]; exact ⟨3, by decide, rfl⟩
    · rw [ho]; exact ⟨k, hk, rfl⟩
theorem short_soa {l : List UInt8} {e a : Nat} {d : Dat} (h : rData l e a ⟨0, true, true, true, 5, 4, false, false⟩ = .ok d) (he : 0 < e) : ∃ k : Int, k ≠ 0 ∧ rData l (e - 1) a ⟨0, true, true, true, 5, 4, false, false⟩ = .error k := by
  rw [rData_soa] at h ⊢
  cases hn : rName l e a with
  | error k => rw [hn] at h; cases h
  | ok p =>
    obtain ⟨x, a1⟩ := p
    have ho := rName_or (e' := e - 1) hn
    rw [hn] at h
    simp only at h
    rcases ho with ho | ⟨k, hk, ho⟩
    · rw [ho, hn]
      simp only
      cases hn2 : rName l e a1 with
      | error k => rw [hn2] at h; cases h
      | ok p =>
        obtain ⟨y, a2⟩ := p
        have ho2 := rName_or (e' := e - 1) hn2
        rw [hn2] at h
        simp only at h
        rcases ho2 with ho2 | ⟨k, hk, ho2⟩
        · rw [ho2, hn2]
          simp only
          cases hm : rNums l e 4 5 a2 [] with
          | error k => rw [hm] at h; cases h
          | ok q =>
            obtain ⟨z, a3⟩ := q
            have he3 := rNums_end _ _ _ hm
            rw [hm] at h
            simp only at h he3
            by_cases h1 : a3 < e
            · rw [if_pos h1] at h; cases h
            · rw [rNums_short 5 a2 [] (by omega) (by omega)]; exact ⟨3, by decide, rfl⟩
        · rw [ho2]; exact ⟨k, hk, rfl⟩
    · rw [ho]; exact ⟨k, hk, rfl⟩
theorem short_text {l : List UInt8} {a : Nat} {t : Str} (ht : t.size ≤ 255) (h : Has l a (textsB [t])) : ∃ k : Int, k ≠ 0 ∧ rData l (a + (textsB [t]).length - 1) a ⟨0, false, false, false, 0, 0, true, false⟩ = .error k := by
  rw [textsB_cons t [] ht] at h ⊢
  have hx := h.get
  have e1 := ofNat_toNat t.size ht
  rw [rData_texts]
  simp only [List.length_cons, List.length_append, bs_length, textsB, List.map_nil, List.flatten_nil, List.length_nil, Nat.add_zero]
  by_cases h0 : t.size = 0
  · rw [rTexts, dif_neg (by omega), if_pos rfl]; exact ⟨2, by decide, rfl⟩
  · rw [rTexts, dif_pos (by omega), if_neg (by simp), hx]
    simp only
    rw [e1, if_pos (by omega)]; exact ⟨3, by decide, rfl⟩
theorem raw_fst (l : List UInt8) (p : Nat) (f : Rests) : (Wt.raw l p f).1 = l := rfl
theorem data_short {kind : Int} {d : Dat} {b : List UInt8} {f : Rests} (rest : List UInt8) (hs : rsound kind d = true) (hg : Good b f) (hb : d.bytes = []) (ht : d.texts.length ≤ 1) (hne : 0 < (Wt.data kind d b.length f).1.length) :
    ∃ k : Int, k ≠ 0 ∧ rData ((Wt.data kind d).bytes b f ++ rest) (((Wt.data kind d).bytes b f).length - 1) b.length (shapeOf kind) = .error k := by
  have hread := (data_back hs hg).read rest
  have hlen := bytes_len (Wt.data kind d) b f
  have hs0 := hs
  unfold rsound at hs
  rw [Bool.and_eq_true] at hs
  obtain ⟨hk, hs⟩ := hs
  rcases shape_cases kind with ⟨n, hn, h⟩ | h | ⟨n, sh, hn, h⟩ | h | h | h
  · rw [h] at hs
    simp only [rsoundS, Bool.and_eq_true, Bool.or_eq_true, decide_eq_true_eq, if_true, if_false, Bool.false_eq_true, Bool.not_eq_true', List.length_eq_zero_iff] at hs
    rw [hb] at hs
    simp at hs
    omega
  · rw [h] at hread ⊢
    exact short_host hread (by omega)
  · rw [h] at hread ⊢
    exact short_first hread (by omega)
  · rw [h] at hread ⊢
    exact short_soa hread (by omega)
  · rw [h] at hs
    simp only [rsoundS, Bool.and_eq_true, Bool.or_eq_true, decide_eq_true_eq, if_true, if_false, Bool.false_eq_true, Bool.not_eq_true', List.length_eq_zero_iff] at hs
    obtain ⟨q1, q2, q3, q4, q5, q6, q7⟩ := hs
    obtain ⟨by_, ho, ma, nu, tx⟩ := d
    simp only at hb ht q3 q4 q5 q7
    subst hb q3 q4 q5
    have hl1 : tx.length = 1 := by omega
    obtain ⟨t, rfl⟩ := List.length_eq_one_iff.1 hl1
    have hd : Wt.data kind ⟨[], [], [], [], [t]⟩ = Wt.raw (textsB [t]) := by
      unfold Wt.data
      rw [h]
      simp only [Wt.nums, Wt.raw_nil, Wt.skip_seq, Wt.seq_skip, if_true, if_false, Bool.false_eq_true, texts_raw]
    rw [hd, h]
    have h255 : t.size ≤ 255 := by
      have := q7.2
      simp [longT] at this
      omega
    have hh := has_bytes (Wt.raw (textsB [t])) b f rest
    have hlen2 := bytes_len (Wt.raw (textsB [t])) b f
    have e0 := raw_fst (textsB [t]) b.length f
    rw [e0] at hh hlen2
    rw [hlen2]
    generalize (Wt.raw (textsB [t])).bytes b f ++ rest = L at *
    generalize b.length = a at *
    exact short_text h255 hh
  · rw [h] at hs
    simp only [rsoundS, Bool.and_eq_true, Bool.or_eq_true, decide_eq_true_eq, if_true, if_false, Bool.false_eq_true, Bool.not_eq_true', List.length_eq_zero_iff] at hs
    obtain ⟨q1, q2, q3, q4, q5, q6, q7⟩ := hs
    obtain ⟨by_, ho, ma, nu, tx⟩ := d
    simp only at hb q3 q4 q5 q7
    subst hb q3 q4 q5 q7
    unfold Wt.data at hne
    rw [h] at hne
    simp [Wt.nums, Wt.texts, Wt.raw_nil, Wt.skip_seq, Wt.seq_skip, Wt.skip] at hne
theorem getData_ok {l : List UInt8} {a s kind : Int} {d : Dat} (h0 : 0 ≤ a) (h1 : 0 ≤ s) (hk : 1 ≤ kind ∧ kind ≤ 65535) (hl : a + s ≤ (l.length : Int)) (h : rData l (a + s).toNat a.toNat (shapeOf kind) = .ok d) : getData l a s kind = (d, 0) := by
  unfold getData
  rw [if_neg (by omega), if_neg (by omega), h]
theorem getData_bad {l : List UInt8} {a s kind k : Int} (h0 : 0 ≤ a) (h1 : 0 ≤ s) (hk : 1 ≤ kind ∧ kind ≤ 65535) (hl : a + s ≤ (l.length : Int)) (h : rData l (a + s).toNat a.toNat (shapeOf kind) = .error k) : getData l a s kind = (Dat.zero, k) := by
  unfold getData
  rw [if_neg (by omega), if_neg (by omega), h]
theorem dexact_refl2 (d : Dat) : dexact d d = true := by
  have : neq d.host d.host = true ∧ neq d.mail d.mail = true := by constructor <;> (unfold neq; exact decide_eq_true rfl)
  simp [dexact, dsame, this.1, this.2]
end Go.Proofs.Ytfnelkcllaaebaa
end
section
/- Contract of law04.RdataBack. No condition but that the data and the bytes stand in memory, and the strings' and numbers' sizes. -/
open Go.RowKit
set_option linter.unusedVariables false
set_option linter.unusedSimpArgs false
namespace Go.Proofs.Ytfnelkcllaaebaa
/-- A writer made behind a world. -/
structure WInv (w0 : World) (p mp : Nat) (v : Value) (N : Nat) (b : List UInt8) (f : Rests) (W : World) : Prop where
  wr : WrP W p mp v N b f
  ext : Ext w0 W
  sof : ∀ j, Sof p mp v j → w0.heap.size ≤ j
theorem WInv.to_ext {w0 : World} {p mp : Nat} {v : Value} {N : Nat} {b : List UInt8} {f : Rests} {W W' : World} (h : WInv w0 p mp v N b f W) (hE : Ext W W') : WInv w0 p mp v N b f W' := ⟨h.wr.ext hE, h.ext.trans hE, h.sof⟩
theorem WInv.step {w0 : World} {p mp : Nat} {v : Value} {N N' : Nat} {b b' : List UInt8} {f f' : Rests} {W W' : World} (h : WInv w0 p mp v N b f W) (hW : Wrote p mp v N' b' f' W W') : ∃ v', WInv w0 p mp v' N' b' f' W' := by
  obtain ⟨v', hw, hs⟩ := hW
  refine ⟨v', hw, ext_kp h.ext hs.1 h.sof, fun j hj => ?_⟩
  rcases hs.2 j hj with h1 | h1
  · exact h.sof j h1
  · exact Nat.le_trans h.ext.size h1
theorem WInv.start {w W : World} (hW : WrP W (w.heap.size + 1) w.heap.size (.slice none 0 0) 0 [] (fun _ => none)) (hE : Ext w W) : WInv w (w.heap.size + 1) w.heap.size (.slice none 0 0) 0 [] (fun _ => none) W :=
  ⟨hW, hE, by rintro j (rfl | rfl | hj); omega; omega; simp [Value.ownBlock] at hj⟩
theorem ownV_stb {S : Nat → Prop} {w : World} {base : Nat} {v0 v1 v2 v3 v4 : Value} {d : Dat} (h : OwnV w base (.agg #[v0, v1, v2, v3, v4]) d) (hS : ∀ k, S k → k < base) : Stb S w fun W => DR W v0 v1 v2 v3 v4 d := by
  intro W hk
  obtain ⟨u0, u1, u2, u3, u4, e, h0, h1, h2, h3, h4, _⟩ := h
  injection e with e
  simp only [Array.mk.injEq, List.cons.injEq, and_true] at e
  obtain ⟨rfl, rfl, rfl, rfl, rfl⟩ := e
  exact ⟨(h0.kpS hk hS).1, (h1.kpS hk hS).1, (h2.kpS hk hS).1, (h3.kpS hk hS).1, (h4.kpS hk hS).1⟩
theorem back_facts {kind : Int} {d : Dat} (hs : rsound kind d = true) (pre post : List UInt8) : ∃ B1 f1 sz, (Wt.data kind d).bytes pre (fun _ => none) = B1 ∧ (Wt.data kind d).rests pre (fun _ => none) = f1 ∧ B1.length = pre.length + sz ∧ sz ≤ 65535 ∧
    getData (B1 ++ post) pre.length sz kind = (d, 0) ∧ (0 < sz → d.bytes.length = 0 → d.texts.length ≤ 1 → ∃ k : Int, k ≠ 0 ∧ getData (B1 ++ post) pre.length ((sz : Int) - 1) kind = (Dat.zero, k)) := by
  have hg : Good pre (fun _ => none) := by intro x k h; cases h
  have hB := data_back hs hg
  have hl := bytes_len (Wt.data kind d) pre (fun _ => none)
  have hk : 1 ≤ kind ∧ kind ≤ 65535 := by
    have := hs
    unfold rsound at this
    simp only [Bool.and_eq_true, decide_eq_true_eq] at this
    exact this.1
  refine ⟨_, _, (Wt.data kind d pre.length (fun _ => none)).1.length, rfl, rfl, hl, hB.len, ?_, fun h0 h1 h2 => ?_⟩
  · refine getData_ok (by omega) (by omega) hk (by simp only [List.length_append]; omega) ?_
    have := hB.read post
    rw [hl] at this
    rw [show ((pre.length : Int) + ((Wt.data kind d pre.length (fun _ => none)).1.length : Int)).toNat = pre.length + (Wt.data kind d pre.length (fun _ => none)).1.length from by omega, Int.toNat_natCast]
    exact this
  · obtain ⟨k, hk0, h⟩ := data_short post hs hg (List.length_eq_zero_iff.1 h1) h2 h0
    refine ⟨k, hk0, getData_bad (by omega) (by omega) hk (by simp only [List.length_append]; omega) ?_⟩
    rw [hl] at h
    rw [show ((pre.length : Int) + (((Wt.data kind d pre.length (fun _ => none)).1.length : Int) - 1)).toNat = pre.length + (Wt.data kind d pre.length (fun _ => none)).1.length - 1 from by omega, Int.toNat_natCast]
    exact h
set_option maxRecDepth 100000 in
set_option maxHeartbeats 1000000 in
theorem law04_RdataBack (kind : Int) (d : Dat) (pre post : List UInt8) (v0 v1 v2 v3 v4 va vb : Value) (w : World) (hd : DR w v0 v1 v2 v3 v4 d) (ha : BytesV w va pre) (hb : BytesV w vb post) (fd : DFit d) (ft : Fits d.texts) (hi : IntsOk d.nums) :
    Calls Try.prog 12 #[.int .i64 kind, .agg #[v0, v1, v2, v3, v4], va, vb] w fun e w' => e = .returned (.bool true) ∧ Ext w w' := by
  have hll := ha.len
  have hll2 := hb.len
  have HD := Lib.hid hd
  have HA := Lib.hid ha
  have HB := Lib.hid hb
  have FD := Lib.hid fd
  have FT := Lib.hid ft
  have HI := Lib.hid hi
  have HO := Lib.hid (one_start w v0 v1 v2 v3 v4)
  obtain ⟨A0, k0, rfl, _, _⟩ := hd.by_.form
  obtain ⟨A1, k1, rfl, _, _⟩ := hd.ho.form
  obtain ⟨A2, k2, rfl, _, _⟩ := hd.ma.form
  obtain ⟨A3, k3, rfl, _, _⟩ := hd.nu.form
  obtain ⟨A4, k4, rfl, _, _⟩ := hd.tx.form
  obtain ⟨Aa, ca, rfl, _, _⟩ := ha.form
  obtain ⟨Ab, cb, rfl, _, _⟩ := hb.form
  clear hd ha hb fd ft hi
  unfold maxI at *
  go_enter Try.func12, Try.ntmps12
  go_wp2_with fail
  generalize w.alloc (.cells #[.slice A0 d.bytes.length k0, .slice A1 d.host.length k1, .slice A2 d.mail.length k2, .slice A3 d.nums.length k3, .slice A4 d.texts.length k4] 26) = W0 at *
  generalize hbx : w.heap.size = bx at *
  have HBX := Lib.hid hbx
  clear hbx
  refine (law04_answers _).mono ?_
  rintro e w1 ⟨rfl, hE1⟩
  have HE1 := Lib.hid (HO.out.ext.trans hE1)
  have HC1 := Lib.hid (show w1.cell? ⟨bx, 0, none⟩ = _ ∧ w1.cell? ⟨bx, 1, none⟩ = _ ∧ w1.cell? ⟨bx, 2, none⟩ = _ ∧ w1.cell? ⟨bx, 3, none⟩ = _ ∧ w1.cell? ⟨bx, 4, none⟩ = _ from by rw [← HBX.out]; have h := HO.out.ca; exact ⟨hE1.cell h.1, hE1.cell h.2.1, hE1.cell h.2.2.1, hE1.cell h.2.2.2.1, hE1.cell h.2.2.2.2⟩)
  clear hE1
  obtain ⟨c0, c1, c2, c3, c4⟩ := HC1.out
  go_wp2_with fail
  clear c0 c1 c2 c3 c4
  refine (law04_light d _ _ _ _ _ w1 (HD.out.ext HE1.out)).mono ?_
  rintro e w2 ⟨rfl, hE2⟩
  have HX2 := Lib.hid hE2
  have HE2 := Lib.hid (HE1.out.trans hE2)
  clear hE2
  cases hL : lightD d with
  | false =>
    clear hL
    go_wp2_with fail
    refine (law04_answers _).mono ?_
    rintro e w4 ⟨rfl, hE4⟩
    go_wp2
    go_ret
    exact ⟨rfl, HE2.out.trans hE4⟩
  | true =>
    have HR := Lib.hid (light_room hL)
    clear hL
    by_cases h5 : pre.length ≤ 5000 ∧ post.length ≤ 5000
    · have H5 := Lib.hid h5
      obtain ⟨h51, h52⟩ := h5
      obtain ⟨c0, c1, c2, c3, c4⟩ := HC1.out
      have d0 := HX2.out.cell c0
      have d1 := HX2.out.cell c1
      have d2 := HX2.out.cell c2
      have d3 := HX2.out.cell c3
      have d4 := HX2.out.cell c4
      clear c0 c1 c2 c3 c4
      go_wp2_with fail
      clear d0 d1 d2 d3 d4
      refine (ref_Data kind d _ _ _ _ _ w2 (HD.out.ext HE2.out) HI.out).mono ?_
      rintro e w3 ⟨rfl, hE3⟩
      have HX3 := Lib.hid (HX2.out.trans hE3)
      have HE3 := Lib.hid (HE2.out.trans hE3)
      clear hE3
      cases hs : rsound kind d with
      | false =>
        clear hs
        go_wp2_with fail
        refine (law04_answers _).mono ?_
        rintro e w4 ⟨rfl, hE4⟩
        go_wp2
        go_ret
        exact ⟨rfl, HE3.out.trans hE4⟩
      | true =>
        have HSd := Lib.hid hs
        obtain ⟨B1, f1, sz, e1, e2, hBl, hsz, hG1, hG2⟩ := back_facts hs pre post
        have HBd := Lib.hid (And.intro e1 e2)
        have HBl := Lib.hid hBl
        have HSz := Lib.hid hsz
        have HG1 := Lib.hid hG1
        have HG2 := Lib.hid hG2
        clear hs e1 e2 hBl hsz hG1 hG2
        go_wp2_with fail
        refine (wname_New w3).mono ?_
        rintro e w4 ⟨rfl, hW4, hE4⟩
        have HI4 := Lib.hid (WInv.start hW4 hE4)
        generalize w3.heap.size + 1 = p at *
        generalize w3.heap.size = mp at *
        clear hW4 hE4
        have HL1 : Hid (pre.length * 1 ≤ 140737488355328) := Lib.hid (by omega)
        have HL2 : Hid (post.length * 1 ≤ 140737488355328) := Lib.hid (by omega)
        go_wp2_with (at_builtin; go_must (refine wpList_app0 vByte rfl (.tmp 41) (.tmp 42) 22 5 (.int .u8 0) 1 rfl Try.underlying22 (by kernel_rfl) rfl (by decide) _ pre _ rfl rfl (fun _ => rfl) (HA.out.ext ((HE3.out.trans HI4.out.ext).alloc _)) HL1.out ?_); intro v5 w5 hN5 hE5; have HN5 := Lib.hid hN5.1; have HI5 := Lib.hid (HI4.out.to_ext (((Ext.refl _).alloc _).trans hE5)); obtain ⟨A5, c5, rfl, _, _⟩ := HN5.out.form; clear hN5 hE5)
        refine (wname_Raw p mp _ _ _ [] pre _ w5 HI5.out.wr HN5.out (by have := HL1.out; simp; omega)).mono ?_
        rintro e w6 ⟨rfl, hW6⟩
        obtain ⟨v6, hI6⟩ := HI5.out.step hW6
        rw [List.nil_append] at hI6
        have HI6 := Lib.hid hI6
        have HX6 := Lib.hid (HX3.out.trans hI6.ext)
        clear hI6 hW6
        obtain ⟨c0, c1, c2, c3, c4⟩ := HC1.out
        have d0 := HX6.out.cell c0
        have d1 := HX6.out.cell c1
        have d2 := HX6.out.cell c2
        have d3 := HX6.out.cell c3
        have d4 := HX6.out.cell c4
        clear c0 c1 c2 c3 c4
        go_wp2_with fail
        clear d0 d1 d2 d3 d4
        refine (ref_OwnData d _ _ _ _ _ w6 (HD.out.ext (HE1.out.trans HX6.out)) HR.out).mono ?_
        rintro e w7 ⟨hE7, v7, rfl, hO7⟩
        obtain ⟨u0, u1, u2, u3, u4, rfl, hO7'⟩ := id hO7
        have HI7 := Lib.hid (HI6.out.to_ext hE7)
        have HST := Lib.hid (ownV_stb (S := Sof p mp v6) hO7 (fun j hj => HI6.out.wr.lt j hj))
        clear hE7 hO7 hO7'
        go_wp2_with fail
        refine (rdata_Put kind d p mp v6 _ _ _ _ _ 0 pre (fun _ => none) w7 HI7.out.wr (Nat.zero_le _) HST.out FD.out FT.out HSd.out (by have := HL1.out; omega)).mono ?_
        rintro e w8 ⟨rfl, N8, hN8, hW8⟩
        obtain ⟨v8, hI8⟩ := HI7.out.step hW8
        rw [HBd.out.1, HBd.out.2] at hI8
        have HI8 := Lib.hid hI8
        clear hI8 hW8 hN8
        go_wp2_with fail
        refine (wname_Len p mp v8 N8 _ _ w8 HI8.out.wr).mono ?_
        rintro e w' ⟨rfl, rfl⟩
        rw [HBl.out]
        have HW1 : Hid (wrap64 ((pre.length : Int) + (sz : Int) - (pre.length : Int)) = (sz : Int)) := Lib.hid (by rw [show (pre.length : Int) + (sz : Int) - (pre.length : Int) = sz from by omega]; unfold wrap64; have := HSz.out; omega)
        go_wp2_with (at_builtin; go_must (refine wpList_app0 vByte rfl (.tmp 57) (.tmp 58) 22 5 (.int .u8 0) 1 rfl Try.underlying22 (by kernel_rfl) rfl (by decide) _ post _ rfl rfl (fun _ => rfl) (HB.out.ext ((HE3.out.trans HI8.out.ext).alloc _)) HL2.out ?_); intro v9 w9 hN9 hE9; have HN9 := Lib.hid hN9.1; have HI9 := Lib.hid (HI8.out.to_ext (((Ext.refl _).alloc _).trans hE9)); obtain ⟨A9, c9, rfl, _, _⟩ := HN9.out.form; clear hN9 hE9)
        rw [HW1.out]
        have hB2 : (B1 ++ post).length = pre.length + sz + post.length := by rw [List.length_append, HBl.out]
        refine (wname_Raw p mp v8 _ N8 B1 post f1 w9 HI9.out.wr HN9.out (by have := HSz.out; have := HBl.out; omega)).mono ?_
        rintro e w10 ⟨rfl, hW10⟩
        obtain ⟨v10, hI10⟩ := HI9.out.step hW10
        generalize B1 ++ post = B2 at *
        have HI10 := Lib.hid hI10
        have HB2 : Hid (B2.length ≤ 140000) := Lib.hid (by have := HSz.out; omega)
        clear hI10 hW10 hB2
        go_wp2_with fail
        refine (wname_Bytes p mp v10 _ B2 f1 w10 HI10.out.wr (by have := HB2.out; omega)).mono ?_
        rintro e w11 ⟨v11, rfl, hO11, hE11⟩
        have HI11 := Lib.hid (HI10.out.to_ext hE11)
        have HBy := Lib.hid hO11.fl
        obtain ⟨A11, c11, rfl, _, _⟩ := hO11.fl.form
        clear hE11 hO11
        go_wp2_with fail
        refine (rdata_Get B2 pre.length sz kind _ w11 HBy.out (by have := HB2.out; omega)).mono ?_
        rintro e w12 hG
        unfold GetGives at hG
        rw [HG1.out] at hG
        obtain ⟨hE12, v12, rfl, hD12⟩ := hG
        obtain ⟨x0, x1, x2, x3, x4, rfl, hDR⟩ := hD12.dr
        obtain ⟨C0, j0, rfl, _, _⟩ := hDR.by_.form
        obtain ⟨C1, j1, rfl, _, _⟩ := hDR.ho.form
        obtain ⟨C2, j2, rfl, _, _⟩ := hDR.ma.form
        obtain ⟨C3, j3, rfl, _, _⟩ := hDR.nu.form
        obtain ⟨C4, j4, rfl, _, _⟩ := hDR.tx.form
        have HO13 := Lib.hid (one_start w12 (.slice C0 d.bytes.length j0) (.slice C1 d.host.length j1) (.slice C2 d.mail.length j2) (.slice C3 d.nums.length j3) (.slice C4 d.texts.length j4))
        have HI13 := Lib.hid (HI11.out.to_ext (hE12.trans HO13.out.ext))
        have HDR := Lib.hid (hDR.ext HO13.out.ext)
        have HX13 := Lib.hid (HX3.out.trans HI13.out.ext)
        clear hE12 hD12 hDR
        obtain ⟨c0, c1, c2, c3, c4⟩ := HC1.out
        have d0 := HX13.out.cell c0
        have d1 := HX13.out.cell c1
        have d2 := HX13.out.cell c2
        have d3 := HX13.out.cell c3
        have d4 := HX13.out.cell c4
        clear c0 c1 c2 c3 c4
        obtain ⟨q0, q1, q2, q3, q4⟩ := HO13.out.ca
        go_wp2_with fail
        generalize w12.alloc (.cells #[.slice C0 d.bytes.length j0, .slice C1 d.host.length j1, .slice C2 d.mail.length j2, .slice C3 d.nums.length j3, .slice C4 d.texts.length j4] 26) = W13 at *
        generalize hb2 : w12.heap.size = bx2 at *
        have HBX2 := Lib.hid hb2
        clear hb2
        have HQ := Lib.hid (And.intro q0 (And.intro q1 (And.intro q2 (And.intro q3 q4))))
        clear d0 d1 d2 d3 d4 q0 q1 q2 q3 q4
        refine (rref_Exact d d _ _ _ _ _ _ _ _ _ _ W13 HDR.out (HD.out.ext (HE1.out.trans HX13.out)) FD.out FD.out).mono ?_
        rintro e w14 ⟨rfl, hE14⟩
        rw [dexact_refl2]
        have HI14 := Lib.hid (HI13.out.to_ext hE14)
        have HDR4 := Lib.hid (HDR.out.ext hE14)
        obtain ⟨q0', q1', q2', q3', q4'⟩ := HQ.out
        have q0 := hE14.cell q0'
        have q1 := hE14.cell q1'
        have q2 := hE14.cell q2'
        have q3 := hE14.cell q3'
        have q4 := hE14.cell q4'
        clear hE14 q0' q1' q2' q3' q4'
        go_wp2_with fail
        clear q0 q1 q2 q3 q4
        refine (ref_Data kind d _ _ _ _ _ w14 HDR4.out HI.out).mono ?_
        rintro e w15 ⟨rfl, hE15⟩
        rw [HSd.out]
        have HI15 := Lib.hid (HI14.out.to_ext hE15)
        clear hE15
        by_cases hz : sz = 0
        · subst hz
          go_wp2
          go_ret
          exact ⟨rfl, HE3.out.trans HI15.out.ext⟩
        · have hw3 : IntKind.i64.wrap ((sz : Int) - 1) = (sz : Int) - 1 := wraps_i64 _ (by omega) (by have := HSz.out; omega)
          have hz2 : ¬ ((sz : Int) = 0) := by omega
          go_wp2_with fail
          refine (wname_Bytes p mp v10 _ B2 f1 w15 HI15.out.wr (by have := HB2.out; omega)).mono ?_
          rintro e w16 ⟨v16, rfl, hO16, hE16⟩
          have HI16 := Lib.hid (HI15.out.to_ext hE16)
          have HBy6 := Lib.hid hO16.fl
          obtain ⟨A16, c16, rfl, _, _⟩ := hO16.fl.form
          clear hE16 hO16
          go_wp2_with fail
          try rw [HW3.out]
          refine (rdata_Get B2 pre.length ((sz : Int) - 1) kind _ w16 HBy6.out (by have := HB2.out; omega)).mono ?_
          rintro e w17 ⟨hE17, v17, rfl, hD17⟩
          obtain ⟨y0, y1, y2, y3, y4, rfl, hDR7⟩ := hD17.dr
          have HE17 := Lib.hid (HE3.out.trans (HI16.out.ext.trans hE17))
          have HX17 := Lib.hid (HX3.out.trans (HI16.out.ext.trans hE17))
          have hG2 := HG2.out (by omega)
          generalize getData B2 pre.length ((sz : Int) - 1) kind = R at *
          obtain ⟨dd, kk⟩ := R
          obtain ⟨Y0, i0, rfl, _, _⟩ := hDR7.by_.form
          obtain ⟨Y1, i1, rfl, _, _⟩ := hDR7.ho.form
          obtain ⟨Y2, i2, rfl, _, _⟩ := hDR7.ma.form
          obtain ⟨Y3, i3, rfl, _, _⟩ := hDR7.nu.form
          obtain ⟨Y4, i4, rfl, _, _⟩ := hDR7.tx.form
          clear hE17 hD17
          have HO18 := Lib.hid (one_start w17 (.slice Y0 dd.bytes.length i0) (.slice Y1 dd.host.length i1) (.slice Y2 dd.mail.length i2) (.slice Y3 dd.nums.length i3) (.slice Y4 dd.texts.length i4))
          have HX18 := Lib.hid (HX17.out.trans HO18.out.ext)
          have HE18 := Lib.hid (HE17.out.trans HO18.out.ext)
          clear hDR7
          obtain ⟨c0, c1, c2, c3, c4⟩ := HC1.out
          have d0 := HX18.out.cell c0
          have d4 := HX18.out.cell c4
          clear c0 c1 c2 c3 c4
          dsimp only
          by_cases hk : kk = 0
          · have hor : 0 < d.bytes.length ∨ 1 < d.texts.length := by
              rcases Nat.eq_zero_or_pos d.bytes.length with h1 | h1
              · right
                refine Nat.lt_of_not_le fun h2 => ?_
                obtain ⟨k, hk2, h3⟩ := hG2 h1 h2
                injection h3 with _ h3
                exact hk2 (h3.symm.trans hk)
              · exact .inl h1
            subst hk
            clear hG2
            rcases hor with hb0 | ht
            · go_wp2
              go_ret
              exact ⟨rfl, HE18.out⟩
            · by_cases hb0 : 0 < d.bytes.length
              · go_wp2
                go_ret
                exact ⟨rfl, HE18.out⟩
              · go_wp2
                go_ret
                exact ⟨by show Ending.returned (.bool (decide ((1 : Int) < (d.texts.length : Int)))) = _; rw [decide_eq_true (by omega)], HE18.out⟩
          · clear hG2
            go_wp2
            go_ret
            exact ⟨rfl, HE18.out⟩
    · by_cases h51 : pre.length ≤ 5000
      · have h52 : ¬ post.length ≤ 5000 := fun h => h5 ⟨h51, h⟩
        clear h5
        go_wp2_with fail
        refine (law04_answers _).mono ?_
        rintro e w4 ⟨rfl, hE4⟩
        go_wp2
        go_ret
        exact ⟨rfl, HE2.out.trans hE4⟩
      · clear h5
        go_wp2_with fail
        refine (law04_answers _).mono ?_
        rintro e w4 ⟨rfl, hE4⟩
        go_wp2
        go_ret
        exact ⟨rfl, HE2.out.trans hE4⟩
end Go.Proofs.Ytfnelkcllaaebaa
end
