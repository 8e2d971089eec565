/- Parts of one proof, joined: RtS. Conditions: those that each theorem states. -/
import Derived.Test.YtfnelkcllaaebaaB13
import Derived.Test.YtfnelkcllaaebaaB11
section
/- Data cut by one byte do not read, but bytes and several texts. No condition: plain lists. -/
set_option linter.unusedVariables false
set_option linter.unusedSimpArgs false
namespace Go.Proofs.Ytfnelkcllaaebaa
/-- The same, or an error. -/
def SameOr {α : Type} (x y : Except Int α) : Prop := y = x ∨ ∃ k : Int, k ≠ 0 ∧ y = .error k
theorem rName_or {l : List UInt8} {e e' a : Nat} {p : List Str × Nat} (h : rName l e a = .ok p) : SameOr (rName l e a) (rName l e' a) := by
  unfold rName at h ⊢
  simp only at h ⊢
  split at h
  · cases h
  · rename_i h0
    split at h
    · cases h
    · rename_i h1
      by_cases h2 : (e' : Int) < (getName l a).2.1
      · exact .inr ⟨3, by decide, by rw [if_neg h0, if_pos h2]⟩
      · exact .inl (by rw [if_neg h0, if_neg h2, if_neg h0, if_neg h1])
theorem rName_last {l : List UInt8} {e a : Nat} {p : List Str × Nat} (h : rName l e a = .ok p) (hp : e ≤ p.2) (he : 0 < e) : rName l (e - 1) a = .error 3 := by
  unfold rName at h ⊢
  simp only at h ⊢
  split at h
  · cases h
  · rename_i h0
    split at h
    · cases h
    · rename_i h1
      injection h with h
      subst h
      simp only at hp
      rw [if_neg h0, if_pos (by omega)]
theorem rNums_or {l : List UInt8} {e e' s : Nat} : ∀ (n a : Nat) (out : List Int) {p : List Int × Nat}, rNums l e s n a out = .ok p → SameOr (rNums l e s n a out) (rNums l e' s n a out) := by
  intro n
  induction n with
  | zero => intro a out p h; exact .inl rfl
  | succ n ih =>
    intro a out p h
    simp only [rNums, rNum] at h ⊢
    by_cases h1 : e < a + s
    · rw [if_pos h1] at h; cases h
    · rw [if_neg h1] at h ⊢
      simp only at h ⊢
      by_cases h2 : e' < a + s
      · rw [if_pos h2]; exact .inr ⟨3, by decide, rfl⟩
      · rw [if_neg h2]; exact ih _ _ h
theorem rNums_end {l : List UInt8} {e s : Nat} : ∀ (n a : Nat) (out : List Int) {p : List Int × Nat}, rNums l e s n a out = .ok p → p.2 = a + n * s := by
  intro n
  induction n with
  | zero => intro a out p h; simp [rNums] at h; subst h; simp
  | succ n ih =>
    intro a out p h
    simp only [rNums, rNum] at h
    split at h
    · cases h
    · rename_i h1
      split at h1
      · cases h1
      · injection h1 with h1
        injection h1 with h2 h3
        subst h2 h3
        rw [ih _ _ h, Nat.succ_mul]; omega
theorem rNums_short {l : List UInt8} {e s : Nat} : ∀ (n a : Nat) (out : List Int), 0 < n → e < a + n * s → rNums l e s n a out = .error 3 := by
  intro n
  induction n with
  | zero => intro a out h; omega
  | succ n ih =>
    intro a out h he
    simp only [rNums, rNum]
    by_cases h1 : e < a + s
    · rw [if_pos h1]
    · rw [if_neg h1]
      simp only
      rw [Nat.succ_mul] at he
      refine ih _ _ ?_ (by omega)
      rcases Nat.eq_zero_or_pos n with h0 | h0
      · subst h0; omega
      · exact h0
theorem short_host {l : List UInt8} {e a : Nat} {d : Dat} (h : rData l e a ⟨0, true, false, true, 0, 0, false, false⟩ = .ok d) (he : 0 < e) : ∃ k : Int, k ≠ 0 ∧ rData l (e - 1) a ⟨0, true, false, true, 0, 0, false, false⟩ = .error k := by
  rw [rData_host] at h ⊢
  cases hn : rName l e a with
  | error k => rw [hn] at h; cases h
  | ok p =>
    obtain ⟨x, a1⟩ := p
    rw [hn] at h
    simp only at h
    by_cases h1 : a1 < e
    · rw [if_pos h1] at h; cases h
    · rw [rName_last hn (by simp only; omega) he]; exact ⟨3, by decide, rfl⟩
theorem short_first {l : List UInt8} {e a n s : Nat} {sh : Bool} {d : Dat} (h : rData l e a ⟨0, true, false, sh, n, s, false, true⟩ = .ok d) (he : 0 < e) : ∃ k : Int, k ≠ 0 ∧ rData l (e - 1) a ⟨0, true, false, sh, n, s, false, true⟩ = .error k := by
  rw [rData_first] at h ⊢
  cases hm : rNums l e s n a [] with
  | error k => rw [hm] at h; cases h
  | ok q =>
    obtain ⟨y, a0⟩ := q
    have ho := rNums_or (e' := e - 1) n a [] hm
    rw [hm] at h
    simp only at h
    rcases ho with ho | ⟨k, hk, ho⟩
    · rw [ho, hm]
      simp only
      cases hn : rName l e a0 with
      | error k => rw [hn] at h; cases h
      | ok p =>
        obtain ⟨x, a1⟩ := p
        rw [hn] at h
        simp only at h
        by_cases h1 : a1 < e
        · rw [if_pos h1] at h; cases h
        · rw [rName_last hn (by simp only; omega) he]; exact ⟨3, by decide, rfl⟩
    · rw [ho]; exact ⟨k, hk, rfl⟩
theorem short_soa {l : List UInt8} {e a : Nat} {d : Dat} (h : rData l e a ⟨0, true, true, true, 5, 4, false, false⟩ = .ok d) (he : 0 < e) : ∃ k : Int, k ≠ 0 ∧ rData l (e - 1) a ⟨0, true, true, true, 5, 4, false, false⟩ = .error k := by
  rw [rData_soa] at h ⊢
  cases hn : rName l e a with
  | error k => rw [hn] at h; cases h
  | ok p =>
    obtain ⟨x, a1⟩ := p
    have ho := rName_or (e' := e - 1) hn
    rw [hn] at h
    simp only at h
    rcases ho with ho | ⟨k, hk, ho⟩
    · rw [ho, hn]
      simp only
      cases hn2 : rName l e a1 with
      | error k => rw [hn2] at h; cases h
      | ok p =>
        obtain ⟨y, a2⟩ := p
        have ho2 := rName_or (e' := e - 1) hn2
        rw [hn2] at h
        simp only at h
        rcases ho2 with ho2 | ⟨k, hk, ho2⟩
        · rw [ho2, hn2]
          simp only
          cases hm : rNums l e 4 5 a2 [] with
          | error k => rw [hm] at h; cases h
          | ok q =>
            obtain ⟨z, a3⟩ := q
            have he3 := rNums_end _ _ _ hm
            rw [hm] at h
            simp only at h he3
            by_cases h1 : a3 < e
            · rw [if_pos h1] at h; cases h
            · rw [rNums_short 5 a2 [] (by omega) (by omega)]; exact ⟨3, by decide, rfl⟩
        · rw [ho2]; exact ⟨k, hk, rfl⟩
    · rw [ho]; exact ⟨k, hk, rfl⟩
theorem short_text {l : List UInt8} {a : Nat} {t : Str} (ht : t.size ≤ 255) (h : Has l a (textsB [t])) : ∃ k : Int, k ≠ 0 ∧ rData l (a + (textsB [t]).length - 1) a ⟨0, false, false, false, 0, 0, true, false⟩ = .error k := by
  rw [textsB_cons t [] ht] at h ⊢
  have hx := h.get
  have e1 := ofNat_toNat t.size ht
  rw [rData_texts]
  simp only [List.length_cons, List.length_append, bs_length, textsB, List.map_nil, List.flatten_nil, List.length_nil, Nat.add_zero]
  by_cases h0 : t.size = 0
  · rw [rTexts, dif_neg (by omega), if_pos rfl]; exact ⟨2, by decide, rfl⟩
  · rw [rTexts, dif_pos (by omega), if_neg (by simp), hx]
    simp only
    rw [e1, if_pos (by omega)]; exact ⟨3, by decide, rfl⟩
theorem raw_fst (l : List UInt8) (p : Nat) (f : Rests) : (Wt.raw l p f).1 = l := rfl
theorem data_short {kind : Int} {d : Dat} {b : List UInt8} {f : Rests} (rest : List UInt8) (hs : rsound kind d = true) (hg : Good b f) (hb : d.bytes = []) (ht : d.texts.length ≤ 1) (hne : 0 < (Wt.data kind d b.length f).1.length) :
    ∃ k : Int, k ≠ 0 ∧ rData ((Wt.data kind d).bytes b f ++ rest) (((Wt.data kind d).bytes b f).length - 1) b.length (shapeOf kind) = .error k := by
  have hread := (data_back hs hg).read rest
  have hlen := bytes_len (Wt.data kind d) b f
  have hs0 := hs
  unfold rsound at hs
  rw [Bool.and_eq_true] at hs
  obtain ⟨hk, hs⟩ := hs
  rcases shape_cases kind with ⟨n, hn, h⟩ | h | ⟨n, sh, hn, h⟩ | h | h | h
  · rw [h] at hs
    simp only [rsoundS, Bool.and_eq_true, Bool.or_eq_true, decide_eq_true_eq, if_true, if_false, Bool.false_eq_true, Bool.not_eq_true', List.length_eq_zero_iff] at hs
    rw [hb] at hs
    simp at hs
    omega
  · rw [h] at hread ⊢
    exact short_host hread (by omega)
  · rw [h] at hread ⊢
    exact short_first hread (by omega)
  · rw [h] at hread ⊢
    exact short_soa hread (by omega)
  · rw [h] at hs
    simp only [rsoundS, Bool.and_eq_true, Bool.or_eq_true, decide_eq_true_eq, if_true, if_false, Bool.false_eq_true, Bool.not_eq_true', List.length_eq_zero_iff] at hs
    obtain ⟨q1, q2, q3, q4, q5, q6, q7⟩ := hs
    obtain ⟨by_, ho, ma, nu, tx⟩ := d
    simp only at hb ht q3 q4 q5 q7
    subst hb q3 q4 q5
    have hl1 : tx.length = 1 := by omega
    obtain ⟨t, rfl⟩ := List.length_eq_one_iff.1 hl1
    have hd : Wt.data kind ⟨[], [], [], [], [t]⟩ = Wt.raw (textsB [t]) := by
      unfold Wt.data
      rw [h]
      simp only [Wt.nums, Wt.raw_nil, Wt.skip_seq, Wt.seq_skip, if_true, if_false, Bool.false_eq_true, texts_raw]
    rw [hd, h]
    have h255 : t.size ≤ 255 := by
      have := q7.2
      simp [longT] at this
      omega
    have hh := has_bytes (Wt.raw (textsB [t])) b f rest
    have hlen2 := bytes_len (Wt.raw (textsB [t])) b f
    have e0 := raw_fst (textsB [t]) b.length f
    rw [e0] at hh hlen2
    rw [hlen2]
    generalize (Wt.raw (textsB [t])).bytes b f ++ rest = L at *
    generalize b.length = a at *
    exact short_text h255 hh
  · rw [h] at hs
    simp only [rsoundS, Bool.and_eq_true, Bool.or_eq_true, decide_eq_true_eq, if_true, if_false, Bool.false_eq_true, Bool.not_eq_true', List.length_eq_zero_iff] at hs
    obtain ⟨q1, q2, q3, q4, q5, q6, q7⟩ := hs
    obtain ⟨by_, ho, ma, nu, tx⟩ := d
    simp only at hb q3 q4 q5 q7
    subst hb q3 q4 q5 q7
    unfold Wt.data at hne
    rw [h] at hne
    simp [Wt.nums, Wt.texts, Wt.raw_nil, Wt.skip_seq, Wt.seq_skip, Wt.skip] at hne
theorem getData_ok {l : List UInt8} {a s kind : Int} {d : Dat} (h0 : 0 ≤ a) (h1 : 0 ≤ s) (hk : 1 ≤ kind ∧ kind ≤ 65535) (hl : a + s ≤ (l.length : Int)) (h : rData l (a + s).toNat a.toNat (shapeOf kind) = .ok d) : getData l a s kind = (d, 0) := by
  unfold getData
  rw [if_neg (by omega), if_neg (by omega), h]
theorem getData_bad {l : List UInt8} {a s kind k : Int} (h0 : 0 ≤ a) (h1 : 0 ≤ s) (hk : 1 ≤ kind ∧ kind ≤ 65535) (hl : a + s ≤ (l.length : Int)) (h : rData l (a + s).toNat a.toNat (shapeOf kind) = .error k) : getData l a s kind = (Dat.zero, k) := by
  unfold getData
  rw [if_neg (by omega), if_neg (by omega), h]
theorem dexact_refl (d : Dat) : dexact d d = true := by
  have : neq d.host d.host = true ∧ neq d.mail d.mail = true := by constructor <;> (unfold neq; exact decide_eq_true rfl)
  simp [dexact, dsame, this.1, this.2]
end Go.Proofs.Ytfnelkcllaaebaa
end
