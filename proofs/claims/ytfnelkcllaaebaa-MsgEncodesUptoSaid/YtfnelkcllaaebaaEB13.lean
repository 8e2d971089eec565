/- Parts of one proof, joined: ModW, Spell, RtD, RtD2, ModR. Conditions: those that each theorem states. -/
import Derived.Test.YtfnelkcllaaebaaEB1
import Derived.Test.YtfnelkcllaaebaaEB10
import Derived.Test.YtfnelkcllaaebaaEB11
section
/- The plain words on writing: names with pointers, data, records. No condition. -/
set_option linter.unusedVariables false
set_option linter.unusedSimpArgs false
namespace Go.Proofs.Ytfnelkcllaaebaa
/-- Where the rests of names stand. -/
abbrev Rests := List Str → Option Nat
/-- What is put behind so many bytes, knowing the rests. -/
abbrev Wt := Nat → Rests → List UInt8 × Rests
def Wt.skip : Wt := fun _ f => ([], f)
def Wt.raw (l : List UInt8) : Wt := fun _ f => (l, f)
def Wt.num (n size : Int) : Wt := Wt.raw (putN [] n size)
def Wt.seq (a b : Wt) : Wt := fun p f => ((a p f).1 ++ (b (p + (a p f).1.length) (a p f).2).1, (b (p + (a p f).1.length) (a p f).2).2)
/-- A rest is noted. -/
def note (p : Nat) (f : Rests) (n : List Str) : Rests := fun x => if x = n ∧ p < 16384 then (f x).or (some p) else f x
def Wt.name : List Str → Bool → Wt
  | [], _ => Wt.num 0 1
  | l :: n, short => fun p f =>
    match (if short then f (l :: n) else none) with
    | some k => (putN [] (49152 + (k : Int)) 2, f)
    | none => ((Wt.num l.size 1).seq ((Wt.raw (bs l)).seq (Wt.name n short))) p (note p f (l :: n))
def Wt.nums (size : Int) : List Int → Wt
  | [] => Wt.skip
  | n :: l => (Wt.num n size).seq (Wt.nums size l)
def Wt.texts : List Str → Wt
  | [] => Wt.skip
  | t :: l => (Wt.num t.size 1).seq ((Wt.raw (bs t)).seq (Wt.texts l))
/-- rdata.Put of sound data. -/
def Wt.data (kind : Int) (d : Dat) : Wt :=
  (Wt.raw d.bytes).seq ((Wt.texts d.texts).seq ((if (shapeOf kind).first then Wt.nums (shapeOf kind).size d.nums else Wt.skip).seq
    ((if (shapeOf kind).host then Wt.name d.host (shapeOf kind).short else Wt.skip).seq ((if (shapeOf kind).mail then Wt.name d.mail (shapeOf kind).short else Wt.skip).seq
      (if (shapeOf kind).first then Wt.skip else Wt.nums (shapeOf kind).size d.nums)))))
theorem Wt.skip_seq (a : Wt) : Wt.skip.seq a = a := by funext p f; simp [Wt.seq, Wt.skip]
theorem Wt.seq_skip (a : Wt) : a.seq Wt.skip = a := by funext p f; simp [Wt.seq, Wt.skip]
theorem Wt.raw_nil : Wt.raw [] = Wt.skip := rfl
/-- The writer's bytes and rests behind a piece. -/
def Wt.bytes (a : Wt) (b : List UInt8) (f : Rests) : List UInt8 := b ++ (a b.length f).1
def Wt.rests (a : Wt) (b : List UInt8) (f : Rests) : Rests := (a b.length f).2
theorem Wt.bytes_seq (a c : Wt) (b : List UInt8) (f : Rests) : (a.seq c).bytes b f = c.bytes (a.bytes b f) (a.rests b f) := by
  simp [Wt.bytes, Wt.seq, Wt.rests, List.append_assoc]
theorem Wt.rests_seq (a c : Wt) (b : List UInt8) (f : Rests) : (a.seq c).rests b f = c.rests (a.bytes b f) (a.rests b f) := by
  simp [Wt.bytes, Wt.seq, Wt.rests]
end Go.Proofs.Ytfnelkcllaaebaa
end
section
/- What is written as a name is read as it. No condition: plain lists. -/
set_option linter.unusedVariables false
set_option linter.unusedSimpArgs false
namespace Go.Proofs.Ytfnelkcllaaebaa
/-- From a place of a segment that began at g a name can be read; e: the place behind. -/
inductive Spells (b : List UInt8) : Nat → Nat → List Str → Nat → Prop
  | nil {g a : Nat} {c : UInt8} (h : b[a]? = some c) (hc : c.toNat = 0) : Spells b g a [] (a + 1)
  | lab {g a e : Nat} {c : UInt8} {l : Str} {n : List Str} (h : b[a]? = some c) (hc : c.toNat = l.size) (h1 : 1 ≤ l.size) (h2 : l.size ≤ 63) (h3 : a + 1 + l.size ≤ b.length)
      (h4 : (b.take (a + 1 + l.size)).drop (a + 1) = bs l) (h5 : Spells b g (a + 1 + l.size) n e) : Spells b g a (l :: n) e
  | ptr {g a e : Nat} {c d : UInt8} {n : List Str} (h : b[a]? = some c) (hc : 192 ≤ c.toNat) (hd : b[a + 1]? = some d) (hg : (c.toNat - 192) * 256 + d.toNat < g) (he : e ≤ a)
      (h5 : Spells b ((c.toNat - 192) * 256 + d.toNat) ((c.toNat - 192) * 256 + d.toNat) n e) : Spells b g a n (a + 2)
theorem Spells.le {b : List UInt8} {g a e : Nat} {n : List Str} (h : Spells b g a n e) : a < e ∧ e ≤ b.length := by
  induction h with
  | nil h hc => have := (List.getElem?_eq_some_iff.1 h).1; omega
  | lab h hc h1 h2 h3 h4 h5 ih => omega
  | ptr h hc hd hg he h5 ih => have := (List.getElem?_eq_some_iff.1 hd).1; omega
theorem get_app {b : List UInt8} {a : Nat} {c : UInt8} (l : List UInt8) (h : b[a]? = some c) : (b ++ l)[a]? = some c := by
  rw [List.getElem?_append_left (List.getElem?_eq_some_iff.1 h).1]; exact h
theorem Spells.app {b : List UInt8} {g a e : Nat} {n : List Str} (h : Spells b g a n e) (l : List UInt8) : Spells (b ++ l) g a n e := by
  induction h with
  | nil h hc => exact .nil (get_app l h) hc
  | lab h hc h1 h2 h3 h4 h5 ih =>
    refine .lab (get_app l h) hc h1 h2 (by simp; omega) ?_ ih
    rw [List.take_append_of_le_length h3]; exact h4
  | ptr h hc hd hg he h5 ih => exact .ptr (get_app l h) hc (get_app l hd) hg he ih
theorem Spells.mono {b : List UInt8} {g g' a e : Nat} {n : List Str} (h : Spells b g a n e) (hg : g ≤ g') : Spells b g' a n e := by
  induction h with
  | nil h hc => exact .nil h hc
  | lab h hc h1 h2 h3 h4 h5 ih => exact .lab h hc h1 h2 h3 h4 (ih hg)
  | ptr h hc hd hg1 he h5 ih => exact .ptr h hc hd (by omega) he h5
theorem Spells.get {b : List UInt8} {g a e : Nat} {n : List Str} (h : Spells b g a n e) : ∀ (s x : Nat) (m : List Str), s + nsize n ≤ 256 → getNm b a g s x m = (m ++ n, ((max x e : Nat) : Int), 0) := by
  induction h with
  | nil h hc => intro s x m hs; rw [getNm_zero h hc, List.append_nil]
  | @lab g a e c l n h hc h1 h2 h3 h4 h5 ih =>
    intro s x m hs
    simp only [nsize] at hs
    have hn := nsize_ge n
    rw [getNm_label h (by omega) (by omega) (by omega) (by omega)]
    rw [hc, ih _ _ _ (by omega), h4, ofB_bs]
    simp
  | @ptr g a e c d n h hc hd hg he h5 ih =>
    intro s x m hs
    rw [getNm_ptr h hc hd hg, ih _ _ _ hs]
    have : max (max x (a + 2)) e = max x (a + 2) := by omega
    rw [this]
/-- The rests that are known can be read. -/
def Good (b : List UInt8) (f : Rests) : Prop := ∀ x k, f x = some k → k < 16384 ∧ k < b.length ∧ ∃ e, Spells b k k x e
theorem Good.app {b : List UInt8} {f : Rests} (h : Good b f) (l : List UInt8) : Good (b ++ l) f := by
  intro x k hk
  obtain ⟨h1, h2, e, h3⟩ := h x k hk
  exact ⟨h1, by simp; omega, e, h3.app l⟩
theorem put1 (k : Nat) (h : k ≤ 255) : putN [] (k : Int) 1 = [UInt8.ofNat k] := by
  have hf : fits (k : Int) 1 = true := by rw [fits_iff]; refine ⟨by omega, by omega, by omega, ?_⟩; simp; omega
  unfold putN
  rw [if_pos hf]
  have h2 : k % 256 = k := Nat.mod_eq_of_lt (by omega)
  simp [be, h2]
theorem put2 (k : Nat) (h : k ≤ 65535) : putN [] (k : Int) 2 = [UInt8.ofNat (k / 256), UInt8.ofNat (k % 256)] := by
  have hf : fits (k : Int) 2 = true := by rw [fits_iff]; refine ⟨by omega, by omega, by omega, ?_⟩; simp; omega
  unfold putN
  rw [if_pos hf]
  have h1 : ((k : Int) / 256).toNat = k / 256 := by omega
  have h2 : k / 256 % 256 = k / 256 := Nat.mod_eq_of_lt (by omega)
  simp [be, h1, h2]
theorem ofNat_toNat (k : Nat) (h : k ≤ 255) : (UInt8.ofNat k).toNat = k := by simp; omega
theorem name_spells (short : Bool) : ∀ (n : List Str) (b : List UInt8) (f : Rests) (g : Nat), (∀ l ∈ n, 1 ≤ l.size ∧ l.size ≤ 63) → g ≤ b.length →
    (∀ x k, x.length ≤ n.length → f x = some k → k < 16384 ∧ k < g ∧ ∃ e, Spells b k k x e) →
    Spells ((Wt.name n short).bytes b f) g b.length n ((Wt.name n short).bytes b f).length ∧
    (∀ x k, (Wt.name n short).rests b f x = some k → f x = some k ∨ (k < 16384 ∧ k < ((Wt.name n short).bytes b f).length ∧ ∃ e, Spells ((Wt.name n short).bytes b f) k k x e)) := by
  intro n
  induction n with
  | nil =>
    intro b f g hn hg hf
    have e : (Wt.name [] short).bytes b f = b ++ [0] := by
      simp only [Wt.bytes, Wt.name, Wt.num, Wt.raw]
      rw [show (0 : Int) = ((0 : Nat) : Int) from rfl, put1 0 (by omega)]; rfl
    rw [e]
    refine ⟨?_, fun x k hk => .inl hk⟩
    have : (b ++ [0]).length = b.length + 1 := by simp
    rw [this]
    exact .nil (c := 0) (by simp) rfl
  | cons l n ih =>
    intro b f g hn hg hf
    have hl := hn l (by simp)
    cases hs : (if short then f (l :: n) else none) with
    | some k =>
      have hfk : f (l :: n) = some k := by
        cases short with
        | false => cases hs
        | true => exact hs
      obtain ⟨h1, h2, e, h3⟩ := hf _ _ (Nat.le_refl _) hfk
      have eb : (Wt.name (l :: n) short).bytes b f = b ++ [UInt8.ofNat ((49152 + k) / 256), UInt8.ofNat ((49152 + k) % 256)] := by
        simp only [Wt.bytes, Wt.name, hs]
        rw [show (49152 : Int) + (k : Int) = ((49152 + k : Nat) : Int) from by omega, put2 _ (by omega)]
      have er : (Wt.name (l :: n) short).rests b f = f := by simp only [Wt.rests, Wt.name, hs]
      rw [eb, er]
      refine ⟨?_, fun x k hk => .inl hk⟩
      have elen : (b ++ [UInt8.ofNat ((49152 + k) / 256), UInt8.ofNat ((49152 + k) % 256)]).length = b.length + 2 := by simp
      rw [elen]
      have e1 := ofNat_toNat ((49152 + k) / 256) (by omega)
      have e2 := ofNat_toNat ((49152 + k) % 256) (by omega)
      have e3 : ((UInt8.ofNat ((49152 + k) / 256)).toNat - 192) * 256 + (UInt8.ofNat ((49152 + k) % 256)).toNat = k := by rw [e1, e2]; omega
      refine .ptr (c := UInt8.ofNat ((49152 + k) / 256)) (d := UInt8.ofNat ((49152 + k) % 256)) (e := e) (by simp) (by rw [e1]; omega) (by rw [List.getElem?_append_right (by omega)]; simp) (by rw [e3]; omega) h3.le.2 ?_
      rw [e3]
      exact h3.app _
    | none =>
      have eb : (Wt.name (l :: n) short).bytes b f = (Wt.name n short).bytes (b ++ (UInt8.ofNat l.size :: bs l)) (note b.length f (l :: n)) := by
        simp only [Wt.bytes, Wt.name, hs, Wt.seq, Wt.num, Wt.raw]
        rw [put1 l.size (by omega)]
        simp [Nat.add_assoc, Nat.add_comm]
      have er : (Wt.name (l :: n) short).rests b f = (Wt.name n short).rests (b ++ (UInt8.ofNat l.size :: bs l)) (note b.length f (l :: n)) := by
        simp only [Wt.rests, Wt.name, hs, Wt.seq, Wt.num, Wt.raw]
        rw [put1 l.size (by omega)]
        simp [Nat.add_assoc, Nat.add_comm]
      rw [eb, er]
      have hb1 : (b ++ (UInt8.ofNat l.size :: bs l)).length = b.length + 1 + l.size := by simp [bs_length]; omega
      have := ih (b ++ (UInt8.ofNat l.size :: bs l)) (note b.length f (l :: n)) g (fun x hx => hn x (by simp [hx])) (by omega) (by
        intro x k hx hk
        have hne : x ≠ l :: n := by intro h; rw [h] at hx; simp at hx; omega
        simp only [note, hne, false_and, if_false] at hk
        obtain ⟨h1, h2, e, h3⟩ := hf x k (by simp; omega) hk
        exact ⟨h1, h2, e, h3.app _⟩)
      obtain ⟨hsp, hr⟩ := this
      generalize hB : (Wt.name n short).bytes (b ++ (UInt8.ofNat l.size :: bs l)) (note b.length f (l :: n)) = B at *
      obtain ⟨z, hz⟩ : ∃ z, B = b ++ (UInt8.ofNat l.size :: bs l) ++ z := ⟨_, hB.symm⟩
      have hsp' : Spells B g b.length (l :: n) B.length := by
        refine .lab (c := UInt8.ofNat l.size) ?_ (ofNat_toNat _ (by omega)) hl.1 hl.2 ?_ ?_ (by rw [← hb1]; exact hsp)
        · rw [hz]; simp
        · rw [hz, List.length_append, hb1]; omega
        · rw [hz, ← hb1, List.take_left, List.drop_append]
          simp
      refine ⟨hsp', ?_⟩
      intro x k hk
      rcases hr x k hk with h | h
      · by_cases hx : x = l :: n ∧ b.length < 16384
        · simp only [note, hx, and_self, if_true] at h
          cases hfx : f (l :: n) with
          | some k' => rw [hfx] at h; simp at h; left; rw [hx.1, hfx, h]
          | none =>
            rw [hfx] at h
            simp at h
            right
            subst h
            refine ⟨hx.2, Nat.lt_of_lt_of_le hsp'.le.1 hsp'.le.2, B.length, ?_⟩
            rw [hx.1]
            exact hsp'.mono hg
        · left
          simpa only [note, hx, if_false] using h
      · exact .inr h
/-- A sound name is written so that it is read, and all rests stay readable. -/
theorem name_good {n : List Str} {short : Bool} {b : List UInt8} {f : Rests} (hn : nsound n = true) (hg : Good b f) :
    Spells ((Wt.name n short).bytes b f) b.length b.length n ((Wt.name n short).bytes b f).length ∧ Good ((Wt.name n short).bytes b f) ((Wt.name n short).rests b f) := by
  unfold nsound at hn
  rw [decide_eq_true_eq] at hn
  obtain ⟨h1, h2⟩ := name_spells short n b f b.length hn.1 (Nat.le_refl _) (fun x k _ hk => hg x k hk)
  refine ⟨h1, fun x k hk => ?_⟩
  rcases h2 x k hk with h | h
  · have := hg.app ((Wt.name n short) b.length f).1 x k h
    exact this
  · exact h
end Go.Proofs.Ytfnelkcllaaebaa
end
section
/- What is written as data is read as it. No condition: plain lists. -/
set_option linter.unusedVariables false
set_option linter.unusedSimpArgs false
namespace Go.Proofs.Ytfnelkcllaaebaa
theorem beN_cons (x : UInt8) (l : List UInt8) : beN (x :: l) = x.toNat * 256 ^ l.length + beN l := by
  have key : ∀ (l : List UInt8) (n : Nat), l.foldl (fun n x => n * 256 + x.toNat) n = n * 256 ^ l.length + l.foldl (fun n x => n * 256 + x.toNat) 0 := by
    intro l
    induction l with
    | nil => intro n; simp
    | cons y l ih =>
      intro n
      simp only [List.foldl_cons, List.length_cons]
      rw [ih (n * 256 + y.toNat), ih (0 * 256 + y.toNat), Nat.pow_succ]
      simp only [Nat.zero_mul, Nat.zero_add, Nat.add_mul]
      rw [Nat.mul_assoc, Nat.mul_comm 256, Nat.add_assoc]
  have := key l x.toNat
  simpa [beN] using this
theorem beN_be (k : Nat) (m : Nat) : beN (be (m : Int) k) = m % 256 ^ k := by
  induction k with
  | zero => simp [be, beN, Nat.mod_one]
  | succ k ih =>
    have e : ((m : Int) / 256 ^ k).toNat = m / 256 ^ k := by
      have : (256 : Int) ^ k = ((256 ^ k : Nat) : Int) := by simp
      rw [this, ← Int.natCast_ediv]; rfl
    rw [be, beN_cons, be_length, ih, e, Nat.mod_pow_succ]
    have h2 : (UInt8.ofNat (m / 256 ^ k % 256)).toNat = m / 256 ^ k % 256 := ofNat_toNat _ (by omega)
    rw [h2, Nat.mul_comm, Nat.add_comm]
theorem beN_be_fits {n size : Int} (h : fits n size = true) : (beN (be n size.toNat) : Int) = n := by
  rw [fits_iff] at h
  obtain ⟨h1, h2, h3, h4⟩ := h
  obtain ⟨m, rfl⟩ := Int.eq_ofNat_of_zero_le h3
  rw [beN_be, Nat.mod_eq_of_lt]
  have : (256 : Int) ^ size.toNat = ((256 ^ size.toNat : Nat) : Int) := by simp
  rw [this] at h4
  exact Int.ofNat_lt.1 h4
theorem putN_fits {n size : Int} (h : fits n size = true) : putN [] n size = be n size.toNat := by unfold putN; rw [if_pos h]; rfl
theorem putN_len {n size : Int} (h : fits n size = true) : (putN [] n size).length = size.toNat := by rw [putN_fits h, be_length]
theorem putN_le (n : Int) {size : Int} (h : 0 ≤ size) : (putN [] n size).length ≤ size.toNat := by
  cases hf : fits n size with
  | true => rw [putN_len hf]; exact Nat.le_refl _
  | false => unfold putN; rw [hf]; simp
/-- The list has such a piece at a place. -/
def Has (l : List UInt8) (a : Nat) (c : List UInt8) : Prop := ∃ p q, l = p ++ (c ++ q) ∧ p.length = a
theorem Has.left {l : List UInt8} {a : Nat} {c d : List UInt8} (h : Has l a (c ++ d)) : Has l a c := by
  obtain ⟨p, q, h, hp⟩ := h; exact ⟨p, d ++ q, by rw [h, List.append_assoc], hp⟩
theorem Has.right {l : List UInt8} {a : Nat} {c d : List UInt8} (h : Has l a (c ++ d)) : Has l (a + c.length) d := by
  obtain ⟨p, q, h, hp⟩ := h; exact ⟨p ++ c, q, by rw [h]; simp, by simp; omega⟩
theorem Has.le {l : List UInt8} {a : Nat} {c : List UInt8} (h : Has l a c) : a + c.length ≤ l.length := by
  obtain ⟨p, q, h, hp⟩ := h; rw [h]; simp; omega
theorem Has.take {l : List UInt8} {a : Nat} {c : List UInt8} (h : Has l a c) : (l.drop a).take c.length = c := by
  obtain ⟨p, q, h, rfl⟩ := h; rw [h]; simp
theorem Has.take2 {l : List UInt8} {a : Nat} {c : List UInt8} (h : Has l a c) : (l.take (a + c.length)).drop a = c := by
  obtain ⟨p, q, h, rfl⟩ := h; rw [h, ← List.append_assoc, ← List.length_append, List.take_left, List.drop_left]
theorem Has.get {l : List UInt8} {a : Nat} {x : UInt8} {c : List UInt8} (h : Has l a (x :: c)) : l[a]? = some x := by
  obtain ⟨p, q, h, rfl⟩ := h; rw [h]; simp
theorem rNum_has {l : List UInt8} {a e : Nat} {n size : Int} (hf : fits n size = true) (h : Has l a (putN [] n size)) (he : a + size.toNat ≤ e) : rNum l e a size.toNat = .ok (n, a + size.toNat) := by
  unfold rNum
  rw [if_neg (by omega)]
  have h1 := h.take
  rw [putN_len hf] at h1
  rw [h1, putN_fits hf, beN_be_fits hf]
def numsB (size : Int) (ns : List Int) : List UInt8 := (ns.map fun n => putN [] n size).flatten
def textsB (ts : List Str) : List UInt8 := (ts.map fun t => putN [] t.size 1 ++ bs t).flatten
theorem raw_seq_raw (a b : List UInt8) : (Wt.raw a).seq (Wt.raw b) = Wt.raw (a ++ b) := rfl
theorem nums_raw (size : Int) (ns : List Int) : Wt.nums size ns = Wt.raw (numsB size ns) := by
  induction ns with
  | nil => rfl
  | cons n ns ih => rw [Wt.nums, ih, Wt.num, raw_seq_raw]; rfl
theorem texts_raw (ts : List Str) : Wt.texts ts = Wt.raw (textsB ts) := by
  induction ts with
  | nil => rfl
  | cons n ns ih => rw [Wt.texts, ih, Wt.num, raw_seq_raw, raw_seq_raw]; simp [textsB]
theorem rNums_has {l : List UInt8} {e : Nat} {size : Int} : ∀ (ns : List Int) (a : Nat) (out : List Int), (ns.any fun n => !fits n size) = false → Has l a (numsB size ns) → a + (numsB size ns).length ≤ e →
    rNums l e size.toNat ns.length a out = .ok (out ++ ns, a + (numsB size ns).length) := by
  intro ns
  induction ns with
  | nil => intro a out hf h he; simp [rNums, numsB]
  | cons n ns ih =>
    intro a out hf h he
    simp only [List.any_cons, Bool.or_eq_false_iff, Bool.not_eq_false'] at hf
    have hc : numsB size (n :: ns) = putN [] n size ++ numsB size ns := by simp [numsB]
    rw [hc] at h he
    have hl := putN_len hf.1
    rw [List.length_append] at he
    rw [List.length_cons, rNums, rNum_has hf.1 h.left (by omega)]
    simp only
    have hr := h.right
    rw [hl] at hr he
    rw [ih _ _ hf.2 hr (by omega), hc, List.length_append, hl]
    simp [Nat.add_assoc]
theorem textsB_cons (t : Str) (ts : List Str) (h : t.size ≤ 255) : textsB (t :: ts) = UInt8.ofNat t.size :: (bs t ++ textsB ts) := by
  simp only [textsB, List.map_cons, List.flatten_cons]
  rw [put1 t.size h]; simp
theorem rTexts_has {l : List UInt8} {e : Nat} : ∀ (ts : List Str) (a : Nat) (out : List Str), (ts.any longT) = false → Has l a (textsB ts) → e = a + (textsB ts).length → out.length + ts.length ≤ 64 → out ++ ts ≠ [] →
    rTexts l e a out = .ok (out ++ ts, e) := by
  intro ts
  induction ts with
  | nil =>
    intro a out hf h he hl hne
    have : a = e := by simp [textsB] at he; omega
    subst this
    rw [rTexts, dif_neg (by omega), if_neg (by simpa using hne), List.append_nil]
  | cons t ts ih =>
    intro a out hf h he hl hne
    simp only [List.any_cons, Bool.or_eq_false_iff, longT, decide_eq_false_iff_not] at hf
    have ht : t.size ≤ 255 := by omega
    rw [textsB_cons t ts ht] at h he
    have h2 : Has l (a + 1) (bs t ++ textsB ts) := Has.right (c := [UInt8.ofNat t.size]) h
    have hx := h.get
    have e1 := ofNat_toNat t.size ht
    have hb := h2.left.take2
    have hr := h2.right
    simp only [List.length_cons, List.length_append, bs_length] at he hb hr
    have hlt := h.le
    simp only [List.length_cons, List.length_append, bs_length] at hl
    rw [rTexts, dif_pos (by omega), if_neg (by omega), hx]
    simp only
    rw [e1, if_neg (by omega), hb, ofB_bs, ih _ _ hf.2 hr (by omega) (by simp; omega) (by simp)]
    simp
theorem rName_has {l : List UInt8} {a e e1 : Nat} {n : List Str} (hn : nsound n = true) (h : Spells l a a n e1) (he : e1 ≤ e) : rName l e a = .ok (n, e1) := by
  have hs : nsize n ≤ 255 := by unfold nsound at hn; rw [decide_eq_true_eq] at hn; exact hn.2
  have hg : getName l (a : Int) = (n, (e1 : Int), 0) := by
    unfold getName
    rw [if_neg (by omega), Int.toNat_natCast, h.get 1 0 [] (by omega)]
    simp
  unfold rName
  simp only [hg]
  rw [if_neg (by simp), if_neg (by omega)]
  simp
theorem name_len (short : Bool) : ∀ (n : List Str) (p : Nat) (f : Rests), (∀ x k, f x = some k → k < 16384) → (∀ l ∈ n, 1 ≤ l.size ∧ l.size ≤ 63) → (Wt.name n short p f).1.length ≤ nsize n := by
  intro n
  induction n with
  | nil => intro p f hf hn; simp only [Wt.name, Wt.num, Wt.raw, nsize]; exact putN_le 0 (by omega)
  | cons l n ih =>
    intro p f hf hn
    have hl := hn l (by simp)
    cases hs : (if short then f (l :: n) else none) with
    | some k =>
      simp only [Wt.name, hs, nsize]
      have := putN_le (49152 + (k : Int)) (size := 2) (by omega)
      have h3 := nsize_ge n
      simp at this
      omega
    | none =>
      simp only [Wt.name, hs, nsize, Wt.seq, Wt.num, Wt.raw, List.length_append, bs_length]
      have h1 := putN_le (l.size : Int) (size := 1) (by omega)
      have h2 := ih (p + (putN [] (l.size : Int) 1).length + l.size) (note p f (l :: n)) (by
        intro x k hk
        unfold note at hk
        split at hk
        · rename_i hx
          cases hfx : f x with
          | some k' => rw [hfx] at hk; simp at hk; rw [← hk]; exact hf _ _ hfx
          | none => rw [hfx] at hk; simp at hk; omega
        · exact hf _ _ hk) (fun x hx => hn x (by simp [hx]))
      simp at h1
      omega
theorem Good.small {b : List UInt8} {f : Rests} (h : Good b f) : ∀ x k, f x = some k → k < 16384 := fun x k hk => (h x k hk).1
theorem good_raw {b : List UInt8} {f : Rests} (l : List UInt8) (h : Good b f) : Good ((Wt.raw l).bytes b f) ((Wt.raw l).rests b f) := h.app l
end Go.Proofs.Ytfnelkcllaaebaa
end
section
/- What is written as data is read as it: type by type. No condition: plain lists. -/
set_option linter.unusedVariables false
set_option linter.unusedSimpArgs false
namespace Go.Proofs.Ytfnelkcllaaebaa
theorem shape_cases (kind : Int) : (∃ n : Nat, (n = 4 ∨ n = 16) ∧ shapeOf kind = ⟨n, false, false, false, 0, 0, false, false⟩) ∨ shapeOf kind = ⟨0, true, false, true, 0, 0, false, false⟩ ∨
    (∃ n : Nat, ∃ sh, n ≤ 3 ∧ shapeOf kind = ⟨0, true, false, sh, n, 2, false, true⟩) ∨ shapeOf kind = ⟨0, true, true, true, 5, 4, false, false⟩ ∨ shapeOf kind = ⟨0, false, false, false, 0, 0, true, false⟩ ∨
    shapeOf kind = ⟨-1, false, false, false, 0, 0, false, false⟩ := by
  unfold shapeOf
  split
  · exact .inl ⟨4, .inl rfl, rfl⟩
  split
  · exact .inl ⟨16, .inr rfl, rfl⟩
  split
  · exact .inr (.inl rfl)
  split
  · exact .inr (.inr (.inl ⟨1, true, by omega, rfl⟩))
  split
  · exact .inr (.inr (.inr (.inl rfl)))
  split
  · exact .inr (.inr (.inl ⟨3, false, by omega, rfl⟩))
  split
  · exact .inr (.inr (.inr (.inr (.inl rfl))))
  · exact .inr (.inr (.inr (.inr (.inr rfl))))
/-- What holds of a piece: what is written is read, and the rests stay readable. -/
structure Back (s : Shape) (d : Dat) (x : Wt) (b : List UInt8) (f : Rests) : Prop where
  good : Good (x.bytes b f) (x.rests b f)
  read : ∀ rest, rData (x.bytes b f ++ rest) (x.bytes b f).length b.length s = .ok d
  len : (x b.length f).1.length ≤ 65535
  len2 : (x b.length f).1.length ≤ d.bytes.length + nsize d.host + nsize d.mail + 4 * d.nums.length + (textsB d.texts).length
theorem has_bytes (x : Wt) (b : List UInt8) (f : Rests) (rest : List UInt8) : Has (x.bytes b f ++ rest) b.length (x b.length f).1 := ⟨b, rest, by simp [Wt.bytes], rfl⟩
theorem bytes_len (x : Wt) (b : List UInt8) (f : Rests) : (x.bytes b f).length = b.length + (x b.length f).1.length := by simp [Wt.bytes]
theorem back_bytes {n : Int} {d : Dat} {b : List UInt8} {f : Rests} (hg : Good b f) (hl : d.bytes.length ≤ 65535) (hn : n < 0 ∨ (0 < n ∧ (d.bytes.length : Int) = n))
    (h1 : d.host = []) (h2 : d.mail = []) (h3 : d.nums = []) (h4 : d.texts = []) : Back ⟨n, false, false, false, 0, 0, false, false⟩ d (Wt.raw d.bytes) b f := by
  obtain ⟨by_, ho, ma, nu, tx⟩ := d
  subst h1 h2 h3 h4
  refine ⟨good_raw by_ hg, fun rest => ?_, hl, by simp [Wt.raw]; omega⟩
  have hh := has_bytes (Wt.raw by_) b f rest
  have hlen := bytes_len (Wt.raw by_) b f
  simp only [Wt.raw] at hh hlen
  rcases hn with hn | ⟨hn, hn2⟩
  · unfold rData
    simp only [show ¬ (0 : Int) < n from by omega, hn, if_true, if_false]
    rw [hlen, Nat.add_sub_cancel_left]
    unfold rBytes
    rw [if_neg (by omega), hh.take2]
    simp [rNums, bind, Except.bind, pure, Except.pure]
  · simp only at hn2
    subst hn2
    rw [rData_bytes _ _ _ _ hn, hlen]
    unfold rBytes
    rw [if_neg (by omega), hh.take2]
    simp
theorem back_host {d : Dat} {b : List UInt8} {f : Rests} (hg : Good b f) (hn : nsound d.host = true) (h1 : d.bytes = []) (h2 : d.mail = []) (h3 : d.nums = []) (h4 : d.texts = []) :
    Back ⟨0, true, false, true, 0, 0, false, false⟩ d (Wt.name d.host true) b f := by
  obtain ⟨by_, ho, ma, nu, tx⟩ := d
  subst h1 h2 h3 h4
  simp only at hn
  obtain ⟨hs, hG⟩ := name_good (short := true) hn hg
  have hns := hn
  unfold nsound at hns
  rw [decide_eq_true_eq] at hns
  have hnl := name_len true ho b.length f hg.small hns.1
  refine ⟨hG, fun rest => ?_, by have := hns.2; simp only at this ⊢; omega, by simp only; omega⟩
  rw [rData_host, rName_has hn (hs.app rest) (Nat.le_refl _)]
  simp
theorem back_first {n : Nat} {sh : Bool} {d : Dat} {b : List UInt8} {f : Rests} (hg : Good b f) (hn : nsound d.host = true) (h1 : d.bytes = []) (h2 : d.mail = []) (h3 : d.nums.length = n) (h3' : n ≤ 3) (h4 : d.texts = []) (hf : (d.nums.any fun n => !fits n 2) = false) :
    Back ⟨0, true, false, sh, n, 2, false, true⟩ d ((Wt.nums 2 d.nums).seq (Wt.name d.host sh)) b f := by
  obtain ⟨by_, ho, ma, nu, tx⟩ := d
  subst h1 h2 h4
  simp only at hn h3 hf
  rw [nums_raw]
  have hg1 := good_raw (f := f) (numsB 2 nu) hg
  obtain ⟨hs, hG⟩ := name_good (short := sh) hn hg1
  have hns := hn
  unfold nsound at hns
  rw [decide_eq_true_eq] at hns
  have hnl := name_len sh ho ((Wt.raw (numsB 2 nu)).bytes b f).length _ hg1.small hns.1
  have hln : ∀ l : List Int, (numsB 2 l).length ≤ 2 * l.length := by
    intro l
    induction l with
    | nil => simp [numsB]
    | cons n l ih =>
      have := putN_le n (size := 2) (by omega)
      simp only [numsB, List.map_cons, List.flatten_cons, List.length_append, List.length_cons] at ih ⊢
      simp at this
      omega
  have hl2 := hln nu
  have hlen : (((Wt.raw (numsB 2 nu)).seq (Wt.name ho sh)) b.length f).1.length = (numsB 2 nu).length + ((Wt.name ho sh) (b.length + (numsB 2 nu).length) f).1.length := by simp [Wt.seq, Wt.raw]
  have e1 : ((Wt.raw (numsB 2 nu)).bytes b f).length = b.length + (numsB 2 nu).length := by simp [Wt.bytes, Wt.raw]
  have e2 : (Wt.raw (numsB 2 nu)).rests b f = f := rfl
  rw [e1, e2] at hnl
  have h255 := hns.2
  refine ⟨?_, fun rest => ?_, by rw [hlen]; omega, by rw [hlen]; simp only; omega⟩
  · rw [Wt.bytes_seq, Wt.rests_seq]; exact hG
  · rw [rData_first]
    have hh := has_bytes ((Wt.raw (numsB 2 nu)).seq (Wt.name ho sh)) b f rest
    have hbl := bytes_len ((Wt.raw (numsB 2 nu)).seq (Wt.name ho sh)) b f
    have hh1 : Has (((Wt.raw (numsB 2 nu)).seq (Wt.name ho sh)).bytes b f ++ rest) b.length (numsB 2 nu) := by
      have : (((Wt.raw (numsB 2 nu)).seq (Wt.name ho sh)) b.length f).1 = numsB 2 nu ++ ((Wt.name ho sh) (b.length + (numsB 2 nu).length) f).1 := rfl
      rw [this] at hh
      exact hh.left
    have := rNums_has (e := (((Wt.raw (numsB 2 nu)).seq (Wt.name ho sh)).bytes b f).length) nu b.length [] hf hh1 (by rw [hbl, hlen]; omega)
    rw [h3] at this
    rw [show ((2 : Int)).toNat = 2 from rfl] at this
    rw [this]
    simp only [List.nil_append]
    rw [← e1, Wt.bytes_seq]
    rw [rName_has hn (hs.app rest) (Nat.le_refl _)]
    simp
theorem back_soa {d : Dat} {b : List UInt8} {f : Rests} (hg : Good b f) (hn : nsound d.host = true) (hm : nsound d.mail = true) (h1 : d.bytes = []) (h3 : d.nums.length = 5) (h4 : d.texts = []) (hf : (d.nums.any fun n => !fits n 4) = false) :
    Back ⟨0, true, true, true, 5, 4, false, false⟩ d ((Wt.name d.host true).seq ((Wt.name d.mail true).seq (Wt.nums 4 d.nums))) b f := by
  obtain ⟨by_, ho, ma, nu, tx⟩ := d
  subst h1 h4
  simp only at hn hm h3 hf ⊢
  rw [nums_raw]
  obtain ⟨hs, hG⟩ := name_good (short := true) hn hg
  obtain ⟨hs2, hG2⟩ := name_good (short := true) hm hG
  have hns := hn
  unfold nsound at hns
  rw [decide_eq_true_eq] at hns
  have hnm := hm
  unfold nsound at hnm
  rw [decide_eq_true_eq] at hnm
  have hnl := name_len true ho b.length _ hg.small hns.1
  have hnl2 := name_len true ma ((Wt.name ho true).bytes b f).length _ hG.small hnm.1
  have hln : ∀ l : List Int, (numsB 4 l).length ≤ 4 * l.length := by
    intro l
    induction l with
    | nil => simp [numsB]
    | cons n l ih =>
      have := putN_le n (size := 4) (by omega)
      simp only [numsB, List.map_cons, List.flatten_cons, List.length_append, List.length_cons] at ih ⊢
      simp at this
      omega
  have hl2 := hln nu
  have e1 := bytes_len (Wt.name ho true) b f
  have hlen : (((Wt.name ho true).seq ((Wt.name ma true).seq (Wt.raw (numsB 4 nu)))) b.length f).1.length = (Wt.name ho true b.length f).1.length + ((Wt.name ma true ((Wt.name ho true).bytes b f).length ((Wt.name ho true).rests b f)).1.length + (numsB 4 nu).length) := by
    simp [Wt.seq, Wt.raw, Wt.bytes, Wt.rests]
  have hb1 := hns.2
  have hb2 := hnm.2
  refine ⟨?_, fun rest => ?_, by rw [hlen]; omega, by rw [hlen]; simp only; omega⟩
  · rw [Wt.bytes_seq, Wt.rests_seq, Wt.bytes_seq, Wt.rests_seq]; exact good_raw _ hG2
  · rw [Wt.bytes_seq, Wt.bytes_seq]
    generalize hB1 : (Wt.name ho true).bytes b f = B1 at *
    generalize hf1 : (Wt.name ho true).rests b f = f1 at *
    generalize hB2 : (Wt.name ma true).bytes B1 f1 = B2 at *
    generalize hf2 : (Wt.name ma true).rests B1 f1 = f2 at *
    have hB2' : ∃ z, B2 = B1 ++ z := ⟨_, hB2.symm⟩
    obtain ⟨z, hz⟩ := hB2'
    have hB3 : (Wt.raw (numsB 4 nu)).bytes B2 f2 = B2 ++ numsB 4 nu := rfl
    rw [hB3]
    have l2 : B1.length ≤ B2.length := by rw [hz]; simp
    rw [rData_soa]
    have s1 : Spells (B2 ++ numsB 4 nu ++ rest) b.length b.length ho B1.length := by rw [hz]; exact ((hs.app _).app _).app _
    have s2 : Spells (B2 ++ numsB 4 nu ++ rest) B1.length B1.length ma B2.length := (hs2.app _).app _
    rw [rName_has hn s1 (by simp; omega)]
    simp only
    rw [rName_has hm s2 (by simp)]
    simp only
    have hh1 : Has (B2 ++ numsB 4 nu ++ rest) B2.length (numsB 4 nu) := ⟨B2, rest, by simp, rfl⟩
    have := rNums_has (e := (B2 ++ numsB 4 nu).length) nu B2.length [] hf hh1 (by simp)
    rw [h3] at this
    rw [show ((4 : Int)).toNat = 4 from rfl] at this
    rw [this]
    simp
theorem textsB_len (ts : List Str) (h : (ts.any longT) = false) : (textsB ts).length ≤ 256 * ts.length := by
  induction ts with
  | nil => simp [textsB]
  | cons t ts ih =>
    simp only [List.any_cons, Bool.or_eq_false_iff, longT, decide_eq_false_iff_not] at h
    rw [textsB_cons t ts (by omega)]
    have := ih h.2
    simp only [List.length_cons, List.length_append, bs_length]
    omega
theorem back_texts {d : Dat} {b : List UInt8} {f : Rests} (hg : Good b f) (h1 : d.bytes = []) (h2 : d.host = []) (h2' : d.mail = []) (h3 : d.nums = []) (h4 : 1 ≤ d.texts.length ∧ d.texts.length ≤ 64) (hf : d.texts.any longT = false) :
    Back ⟨0, false, false, false, 0, 0, true, false⟩ d (Wt.texts d.texts) b f := by
  obtain ⟨by_, ho, ma, nu, tx⟩ := d
  subst h1 h2 h2' h3
  simp only at h4 hf ⊢
  rw [texts_raw]
  have hl := textsB_len tx hf
  refine ⟨good_raw _ hg, fun rest => ?_, by simp only [Wt.raw]; omega, by simp only [Wt.raw]; omega⟩
  have hh := has_bytes (Wt.raw (textsB tx)) b f rest
  have hlen := bytes_len (Wt.raw (textsB tx)) b f
  simp only [Wt.raw] at hh hlen
  rw [rData_texts, rTexts_has tx b.length [] hf hh (by rw [hlen]) (by simp; omega) (by intro h; simp at h; rw [h] at h4; simp at h4)]
  simp
theorem data_back {kind : Int} {d : Dat} {b : List UInt8} {f : Rests} (hs : rsound kind d = true) (hg : Good b f) : Back (shapeOf kind) d (Wt.data kind d) b f := by
  unfold rsound at hs
  rw [Bool.and_eq_true] at hs
  obtain ⟨hk, hs⟩ := hs
  obtain ⟨by_, ho, ma, nu, tx⟩ := d
  unfold Wt.data
  rcases shape_cases kind with ⟨n, hn, h⟩ | h | ⟨n, sh, hn, h⟩ | h | h | h
  all_goals
    rw [h] at hs ⊢
    simp only [rsoundS, Bool.and_eq_true, Bool.or_eq_true, decide_eq_true_eq, if_true, if_false, Bool.false_eq_true, Bool.not_eq_true', List.length_eq_zero_iff] at hs
    obtain ⟨q1, q2, q3, q4, q5, q6, q7⟩ := hs
  · subst q3 q4 q5 q7
    simp only [Wt.nums, Wt.texts, Wt.skip_seq, Wt.seq_skip, if_true, if_false, Bool.false_eq_true]
    exact back_bytes hg q2 (by right; show (0 : Int) < (n : Int) ∧ (by_.length : Int) = n; omega) rfl rfl rfl rfl
  · have q1' : by_ = [] := List.length_eq_zero_iff.1 (by omega)
    subst q1' q3 q5 q7
    simp only [Wt.nums, Wt.texts, Wt.raw_nil, Wt.skip_seq, Wt.seq_skip, if_true, if_false, Bool.false_eq_true]
    exact back_host hg q4 rfl rfl rfl rfl
  · have q1' : by_ = [] := List.length_eq_zero_iff.1 (by omega)
    subst q1' q5 q7
    simp only [Wt.texts, Wt.raw_nil, Wt.skip_seq, Wt.seq_skip, if_true, if_false, Bool.false_eq_true]
    exact back_first hg q4 rfl rfl q3 hn rfl q6
  · have q1' : by_ = [] := List.length_eq_zero_iff.1 (by omega)
    subst q1' q7
    simp only [Wt.texts, Wt.raw_nil, Wt.skip_seq, Wt.seq_skip, if_true, if_false, Bool.false_eq_true]
    exact back_soa hg q4 q5 rfl q3 rfl q6
  · have q1' : by_ = [] := List.length_eq_zero_iff.1 (by omega)
    subst q1' q3 q4 q5
    simp only [Wt.nums, Wt.raw_nil, Wt.skip_seq, Wt.seq_skip, if_true, if_false, Bool.false_eq_true]
    exact back_texts hg rfl rfl rfl rfl q7.1 q7.2
  · subst q3 q4 q5 q7
    simp only [Wt.nums, Wt.texts, Wt.skip_seq, Wt.seq_skip, if_true, if_false, Bool.false_eq_true]
    exact back_bytes hg q2 (by left; omega) rfl rfl rfl rfl
end Go.Proofs.Ytfnelkcllaaebaa
end
section
/- The plain words on records: may they be, how they are written, how they are read. No condition. -/
set_option linter.unusedVariables false
set_option linter.unusedSimpArgs false
namespace Go.Proofs.Ytfnelkcllaaebaa
def Rec.zero : Rec := ⟨[], 0, 0, 0, Dat.zero⟩
/-- rr.Sound. -/
def rrsound (r : Rec) : Bool := nsound r.name && (rsound r.type r.data && (fits r.cls 2 && decide (0 ≤ r.ttl ∧ r.ttl < 2147483648)))
/-- rr.Get. -/
def getRR (l : List UInt8) (a : Int) : Rec × Int × Int :=
  let r := getName l a
  if r.2.2 ≠ 0 then (Rec.zero, 0, r.2.2)
  else if (l.length : Int) - r.2.1 < 10 then (Rec.zero, 0, 3)
  else if (getN l r.2.1 2).1 = 0 then (Rec.zero, 0, 2)
  else
    let d := getData l (r.2.1 + 10) (getN l (r.2.1 + 8) 2).1 (getN l r.2.1 2).1
    if d.2 ≠ 0 then (Rec.zero, 0, d.2)
    else (⟨r.1, (getN l r.2.1 2).1, (getN l (r.2.1 + 2) 2).1, if 2147483648 ≤ (getN l (r.2.1 + 4) 4).1 then 0 else (getN l (r.2.1 + 4) 4).1, d.1⟩, r.2.1 + 10 + (getN l (r.2.1 + 8) 2).1, 0)
/-- The head of a record: all ahead of its data's size. -/
def Wt.head (r : Rec) : Wt := (Wt.name r.name true).seq ((Wt.num r.type 2).seq ((Wt.num r.cls 2).seq (Wt.num r.ttl 4)))
/-- rr.Put of a sound record. -/
def Wt.rr (r : Rec) : Wt := fun p f =>
  let x := Wt.head r p f
  let y := Wt.data r.type r.data (p + x.1.length + 2) x.2
  (x.1 ++ (putN [] (y.1.length : Int) 2 ++ y.1), y.2)
theorem getN_has {l : List UInt8} {a : Nat} {n size : Int} (hf : fits n size = true) (h : Has l a (putN [] n size)) : getN l (a : Int) size = (n, 0) := by
  have hb := fits_bound n size hf
  have hlen := putN_len hf
  have hle := h.le
  rw [hlen] at hle
  rw [getN_ok l a size (by omega) (by omega)]
  have h1 := h.take
  rw [hlen] at h1
  rw [Int.toNat_natCast, h1, putN_fits hf, beN_be_fits hf]
theorem fits_type {k : Int} (h : 1 ≤ k ∧ k ≤ 65535) : fits k 2 = true := by
  rw [fits_iff]; refine ⟨by omega, by omega, by omega, ?_⟩; simp; omega
theorem fits_ttl {k : Int} (h : 0 ≤ k ∧ k < 2147483648) : fits k 4 = true := by
  rw [fits_iff]; refine ⟨by omega, by omega, by omega, ?_⟩; simp; omega
theorem fits_len {k : Nat} (h : k ≤ 65535) : fits (k : Int) 2 = true := by
  rw [fits_iff]; refine ⟨by omega, by omega, by omega, ?_⟩; simp; omega
/-- What is written as a record is read as it. -/
theorem rr_back {r : Rec} {b : List UInt8} {f : Rests} (hs : rrsound r = true) (hg : Good b f) :
    Good ((Wt.rr r).bytes b f) ((Wt.rr r).rests b f) ∧ (∀ rest, getRR ((Wt.rr r).bytes b f ++ rest) (b.length : Int) = (r, (((Wt.rr r).bytes b f).length : Int), 0)) ∧
    ((Wt.rr r b.length f).1.length ≤ nsize r.name + 10 + (r.data.bytes.length + nsize r.data.host + nsize r.data.mail + 4 * r.data.nums.length + (textsB r.data.texts).length)) ∧
    ((Wt.rr r b.length f).1.length ≤ 65800) := by
  unfold rrsound at hs
  simp only [Bool.and_eq_true, decide_eq_true_eq] at hs
  obtain ⟨hn, hd, hc, ht⟩ := hs
  have hty : 1 ≤ r.type ∧ r.type ≤ 65535 := by unfold rsound at hd; rw [Bool.and_eq_true, decide_eq_true_eq] at hd; exact hd.1
  obtain ⟨hsp, hG⟩ := name_good (short := true) hn hg
  have hns := hn
  unfold nsound at hns
  rw [decide_eq_true_eq] at hns
  have hnl := name_len true r.name b.length _ hg.small hns.1
  have h255 := hns.2
  have eh : (Wt.head r).bytes b f = (Wt.name r.name true).bytes b f ++ (putN [] r.type 2 ++ (putN [] r.cls 2 ++ putN [] r.ttl 4)) := by
    simp only [Wt.head, Wt.bytes_seq, Wt.num]; simp [Wt.bytes, Wt.raw]
  have eh2 : (Wt.head r).rests b f = (Wt.name r.name true).rests b f := by
    simp only [Wt.head, Wt.rests_seq, Wt.num]; simp [Wt.rests, Wt.raw]
  have hG2 : Good ((Wt.head r).bytes b f) ((Wt.head r).rests b f) := by rw [eh, eh2]; exact hG.app _
  have eP : ((Wt.head r) b.length f).1.length + b.length = ((Wt.head r).bytes b f).length := by simp [Wt.bytes, Nat.add_comm]
  -- the size's bytes, whatever they are
  obtain ⟨N, hN, hN2⟩ : ∃ N : List UInt8, N.length = 2 ∧ N = putN [] (((Wt.data r.type r.data) (((Wt.head r).bytes b f).length + 2) ((Wt.head r).rests b f)).1.length : Int) 2 := by
    have hB := data_back (b := (Wt.head r).bytes b f ++ [0, 0]) hd (hG2.app [0, 0])
    have hl := hB.len
    have e2 : ((Wt.head r).bytes b f ++ [0, 0]).length = ((Wt.head r).bytes b f).length + 2 := by simp
    rw [e2] at hl
    exact ⟨_, by rw [putN_len (fits_len hl)]; rfl, rfl⟩
  have hB := data_back (b := (Wt.head r).bytes b f ++ N) hd (hG2.app N)
  have e2 : ((Wt.head r).bytes b f ++ N).length = ((Wt.head r).bytes b f).length + 2 := by simp [hN]
  have hdl := hB.len
  have hdl2 := hB.len2
  have hread := hB.read
  have hgood := hB.good
  clear hB
  have ebytes : (Wt.rr r).bytes b f = (Wt.data r.type r.data).bytes ((Wt.head r).bytes b f ++ N) ((Wt.head r).rests b f) := by
    have e3 : b.length + ((Wt.head r) b.length f).1.length + 2 = ((Wt.head r).bytes b f).length + 2 := by rw [← eP]; omega
    unfold Wt.bytes
    unfold Wt.rr
    simp only
    rw [e3]
    change _ = _ ++ ((Wt.data r.type r.data) ((Wt.head r).bytes b f ++ N).length ((Wt.head r).rests b f)).1
    rw [e2, hN2]
    simp [Wt.rests]
  have erests : (Wt.rr r).rests b f = (Wt.data r.type r.data).rests ((Wt.head r).bytes b f ++ N) ((Wt.head r).rests b f) := by
    have e3 : b.length + ((Wt.head r) b.length f).1.length + 2 = ((Wt.head r).bytes b f).length + 2 := by rw [← eP]; omega
    unfold Wt.rests
    unfold Wt.rr
    simp only
    rw [e3]
    change _ = ((Wt.data r.type r.data) ((Wt.head r).bytes b f ++ N).length ((Wt.head r).rests b f)).2
    rw [e2]
    simp [Wt.rests]
  rw [e2] at hdl hdl2
  rw [ebytes, erests]
  refine ⟨hgood, ?_, ?_, ?_⟩
  · intro rest
    have hread' := hread rest
    rw [bytes_len, e2] at hread'
    have eB : (Wt.data r.type r.data).bytes ((Wt.head r).bytes b f ++ N) ((Wt.head r).rests b f) = (Wt.head r).bytes b f ++ N ++ ((Wt.data r.type r.data) (((Wt.head r).bytes b f).length + 2) ((Wt.head r).rests b f)).1 := by
      have h0 : (Wt.data r.type r.data).bytes ((Wt.head r).bytes b f ++ N) ((Wt.head r).rests b f) = (Wt.head r).bytes b f ++ N ++ ((Wt.data r.type r.data) ((Wt.head r).bytes b f ++ N).length ((Wt.head r).rests b f)).1 := rfl
      rw [h0, e2]
    generalize hD : (Wt.data r.type r.data) (((Wt.head r).bytes b f).length + 2) ((Wt.head r).rests b f) = D at *
    rw [eB] at hread' ⊢
    rw [eh] at hread' ⊢
    generalize hX : (Wt.name r.name true).bytes b f = X at *
    have l1 := putN_len (fits_type hty)
    have l2 := putN_len hc
    have l3 := putN_len (fits_ttl ht)
    rw [show ((2 : Int)).toNat = 2 from rfl] at l1 l2
    rw [show ((4 : Int)).toNat = 4 from rfl] at l3
    have eN := fits_len hdl
    obtain ⟨L, hL⟩ : ∃ L, X ++ (putN [] r.type 2 ++ (putN [] r.cls 2 ++ putN [] r.ttl 4)) ++ N ++ D.1 ++ rest = L := ⟨_, rfl⟩
    rw [hL] at hread' ⊢
    have hlenX : (X ++ (putN [] r.type 2 ++ (putN [] r.cls 2 ++ putN [] r.ttl 4))).length = X.length + 8 := by simp [l1, l2, l3]
    rw [hlenX] at hread'
    have hsL : Spells L b.length b.length r.name X.length := by
      rw [← hL]; exact (((hsp.app _).app _).app _).app _
    have hgn : getName L (b.length : Int) = (r.name, (X.length : Int), 0) := by
      unfold getName
      rw [if_neg (by omega), Int.toNat_natCast, hsL.get 1 0 [] (by omega)]
      simp
    have hall : Has L X.length (putN [] r.type 2 ++ (putN [] r.cls 2 ++ (putN [] r.ttl 4 ++ (N ++ D.1)))) := ⟨X, rest, by rw [← hL]; simp, rfl⟩
    have g1 := getN_has (fits_type hty) hall.left
    have r1 := hall.right
    rw [l1] at r1
    have g2 := getN_has hc r1.left
    have r2 := r1.right
    rw [l2] at r2
    have g3 := getN_has (fits_ttl ht) r2.left
    have r3 := r2.right
    rw [l3] at r3
    have r3' := r3.left
    rw [hN2] at r3'
    have g4 := getN_has eN r3'
    have hle := hall.le
    simp only [List.length_append, l1, l2, l3, hN] at hle
    unfold getRR
    simp only [hgn]
    rw [show ((X.length : Int)) + 2 = ((X.length + 2 : Nat) : Int) from by omega, show ((X.length : Int)) + 4 = ((X.length + 2 + 2 : Nat) : Int) from by omega, show ((X.length : Int)) + 8 = ((X.length + 2 + 2 + 4 : Nat) : Int) from by omega]
    rw [g1, g2, g3, g4]
    have hgd : getData L ((X.length : Int) + 10) (D.1.length : Int) r.type = (r.data, 0) := by
      unfold getData
      rw [if_neg (by omega), if_neg (by omega)]
      have e5 : ((X.length : Int) + 10 + (D.1.length : Int)).toNat = X.length + 8 + 2 + D.1.length := by omega
      have e6 : ((X.length : Int) + 10).toNat = X.length + 8 + 2 := by omega
      rw [e5, e6, hread']
    simp only [hgd]
    rw [if_neg (by simp), if_neg (by omega), if_neg (by omega), if_neg (by simp)]
    rw [if_neg (by omega)]
    simp only [Prod.mk.injEq, and_true]
    refine ⟨trivial, ?_⟩
    simp only [List.length_append, l1, l2, l3, hN]
    omega
  · have : ((Wt.rr r) b.length f).1.length = ((Wt.rr r).bytes b f).length - b.length := by rw [bytes_len]; omega
    rw [this, ebytes, bytes_len, e2, eh]
    have l1 := putN_le r.type (size := 2) (by omega)
    have l2 := putN_le r.cls (size := 2) (by omega)
    have l3 := putN_le r.ttl (size := 4) (by omega)
    have hb := bytes_len (Wt.name r.name true) b f
    simp only [List.length_append, show ((2 : Int)).toNat = 2 from rfl, show ((4 : Int)).toNat = 4 from rfl] at l1 l2 l3 ⊢
    rw [eh] at hdl2
    simp only [List.length_append] at hdl2
    omega
  · have : ((Wt.rr r) b.length f).1.length = ((Wt.rr r).bytes b f).length - b.length := by rw [bytes_len]; omega
    rw [this, ebytes, bytes_len, e2, eh]
    have l1 := putN_le r.type (size := 2) (by omega)
    have l2 := putN_le r.cls (size := 2) (by omega)
    have l3 := putN_le r.ttl (size := 4) (by omega)
    have hb := bytes_len (Wt.name r.name true) b f
    simp only [List.length_append, show ((2 : Int)).toNat = 2 from rfl, show ((4 : Int)).toNat = 4 from rfl] at l1 l2 l3 ⊢
    rw [eh] at hdl
    simp only [List.length_append] at hdl
    omega
end Go.Proofs.Ytfnelkcllaaebaa
end
