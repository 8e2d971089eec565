/- Parts of one proof, joined: DSame, OwnD, Light, Ans. Conditions: those that each theorem states. -/
import Derived.Test.YtfnelkcllaaebaaB6
import Derived.Test.YtfnelkcllaaebaaB7
import Derived.Test.YtfnelkcllaaebaaB3
import Derived.Test.YtfnelkcllaaebaaB4
section
/- Contracts: the same data? No condition but that slices read as lists, and the size of each label. -/
open Go.RowKit
set_option linter.unusedVariables false
set_option linter.unusedSimpArgs false
namespace Go.Proofs.Ytfnelkcllaaebaa
/-- The five fields read as d's. -/
structure DR (w : World) (v0 v1 v2 v3 v4 : Value) (d : Dat) : Prop where
  by_ : BytesV w v0 d.bytes
  ho : NameV w v1 d.host
  ma : NameV w v2 d.mail
  nu : IntsV w v3 d.nums
  tx : NameV w v4 d.texts
theorem DR.ext {w w' : World} {v0 v1 v2 v3 v4 : Value} {d : Dat} (h : DR w v0 v1 v2 v3 v4 d) (hE : Ext w w') : DR w' v0 v1 v2 v3 v4 d := ⟨h.by_.ext hE, h.ho.ext hE, h.ma.ext hE, h.nu.ext hE, h.tx.ext hE⟩
theorem DatV.dr {w : World} {base : Nat} {v : Value} {d : Dat} (h : DatV w base v d) : ∃ v0 v1 v2 v3 v4, v = .agg #[v0, v1, v2, v3, v4] ∧ DR w v0 v1 v2 v3 v4 d := by
  obtain ⟨v0, v1, v2, v3, v4, rfl, h0, h1, h2, h3, h4⟩ := h
  exact ⟨v0, v1, v2, v3, v4, rfl, h0.fl, h1.fl, h2.fl, h3.fl, h4.fl⟩
/-- The labels' sizes fit. -/
def DFit (d : Dat) : Prop := Fits d.host ∧ Fits d.mail
def dsame (a b : Dat) : Bool := decide (a.bytes = b.bytes) && (decide (a.nums = b.nums) && (decide (a.texts = b.texts) && (neq a.host b.host && neq a.mail b.mail)))
/-- The two boxes of the arguments. -/
structure Two (w W : World) (a0 a1 a2 a3 a4 b0 b1 b2 b3 b4 : Value) : Prop where
  ext : Ext w W
  ha : W.heap[w.heap.size]? = some (.cells #[a0, a1, a2, a3, a4] 26 (0, 0))
  hb : W.heap[w.heap.size + 1]? = some (.cells #[b0, b1, b2, b3, b4] 26 (0, 0))
theorem two_start (w : World) (a0 a1 a2 a3 a4 b0 b1 b2 b3 b4 : Value) : Two w ((w.alloc (.cells #[a0, a1, a2, a3, a4] 26)).alloc (.cells #[b0, b1, b2, b3, b4] 26)) a0 a1 a2 a3 a4 b0 b1 b2 b3 b4 := by
  refine ⟨((Ext.refl _).alloc _).alloc _, ?_, ?_⟩
  · exact ((Ext.refl _).alloc _).block (heap_alloc_new w _)
  · have := heap_alloc_new (w.alloc (.cells #[a0, a1, a2, a3, a4] 26)) (.cells #[b0, b1, b2, b3, b4] 26)
    simpa using this
theorem Two.step {w W W' : World} {a0 a1 a2 a3 a4 b0 b1 b2 b3 b4 : Value} (h : Two w W a0 a1 a2 a3 a4 b0 b1 b2 b3 b4) (hE : Ext W W') : Two w W' a0 a1 a2 a3 a4 b0 b1 b2 b3 b4 := ⟨h.ext.trans hE, hE.block h.ha, hE.block h.hb⟩
theorem Two.ca {w W : World} {a0 a1 a2 a3 a4 b0 b1 b2 b3 b4 : Value} (h : Two w W a0 a1 a2 a3 a4 b0 b1 b2 b3 b4) : W.cell? ⟨w.heap.size, 0, none⟩ = some a0 ∧ W.cell? ⟨w.heap.size, 1, none⟩ = some a1 ∧ W.cell? ⟨w.heap.size, 2, none⟩ = some a2 ∧ W.cell? ⟨w.heap.size, 3, none⟩ = some a3 ∧ W.cell? ⟨w.heap.size, 4, none⟩ = some a4 := by
  have := h.ha
  refine ⟨?_, ?_, ?_, ?_, ?_⟩ <;> simp [World.cell?, *]
theorem Two.cb {w W : World} {a0 a1 a2 a3 a4 b0 b1 b2 b3 b4 : Value} (h : Two w W a0 a1 a2 a3 a4 b0 b1 b2 b3 b4) : W.cell? ⟨w.heap.size + 1, 0, none⟩ = some b0 ∧ W.cell? ⟨w.heap.size + 1, 1, none⟩ = some b1 ∧ W.cell? ⟨w.heap.size + 1, 2, none⟩ = some b2 ∧ W.cell? ⟨w.heap.size + 1, 3, none⟩ = some b3 ∧ W.cell? ⟨w.heap.size + 1, 4, none⟩ = some b4 := by
  have := h.hb
  refine ⟨?_, ?_, ?_, ?_, ?_⟩ <;> simp [World.cell?, *]
/-- ref03.texts. -/
theorem ref_texts (va vb : Value) (a b : List ByteArray) (w : World) (ha : NameV w va a) (hb : NameV w vb b) :
    Calls Try.prog 87 #[va, vb] w fun e w' => e = .returned (.bool (decide (a = b))) ∧ Dr w w' := by
  have HC := Lib.hid (ref_Exact va vb a b w ha hb)
  clear ha hb
  go_enter Try.func87, Try.ntmps87
  go_wp2_with (go_at_call 55; refine (HC.out).mono ?_; rintro e w1 ⟨rfl, h1⟩)
  go_ret
  exact ⟨rfl, h1⟩
set_option maxRecDepth 100000 in
/-- rdata_Same. -/
theorem rdata_Same (a b : Dat) (a0 a1 a2 a3 a4 b0 b1 b2 b3 b4 : Value) (w : World) (ha : DR w a0 a1 a2 a3 a4 a) (hb : DR w b0 b1 b2 b3 b4 b) (fa : DFit a) (fb : DFit b) :
    Calls Try.prog 28 #[.agg #[a0, a1, a2, a3, a4], .agg #[b0, b1, b2, b3, b4]] w fun e w' => e = .returned (.bool (dsame a b)) ∧ Ext w w' := by
  have HM := Lib.hid (show dsame a b = (decide (a.bytes = b.bytes) && (decide (a.nums = b.nums) && (decide (a.texts = b.texts) && (neq a.host b.host && neq a.mail b.mail)))) from rfl)
  have HA := Lib.hid ha
  have HB := Lib.hid hb
  have FA := Lib.hid fa
  have FB := Lib.hid fb
  have HT := Lib.hid (two_start w a0 a1 a2 a3 a4 b0 b1 b2 b3 b4)
  clear ha hb fa fb
  go_enter Try.func28, Try.ntmps28
  go_wp2_with fail
  refine (slices_EqualB _ _ _ _ _ (HA.out.ext HT.out.ext).by_ (HB.out.ext HT.out.ext).by_).mono ?_
  rintro e w1 ⟨rfl, h1⟩
  have HT1 := Lib.hid (HT.out.step h1.ext)
  generalize decide (a.bytes = b.bytes) = β at *
  cases β
  · clear h1
    go_wp2
    go_ret
    exact ⟨by rw [HM.out]; rfl, HT1.out.ext⟩
  · obtain ⟨c0, c1, c2, c3, c4⟩ := HT1.out.ca
    obtain ⟨d0, d1, d2, d3, d4⟩ := HT1.out.cb
    clear h1
    go_wp2_with fail
    refine (slices_EqualI _ _ _ _ _ (HA.out.ext HT1.out.ext).nu (HB.out.ext HT1.out.ext).nu).mono ?_
    rintro e w2 ⟨rfl, h1⟩
    have HT2 := Lib.hid (HT1.out.step h1.ext)
    generalize decide (a.nums = b.nums) = β at *
    cases β
    · clear h1
      go_wp2
      go_ret
      exact ⟨by rw [HM.out]; rfl, HT2.out.ext⟩
    · obtain ⟨c0, c1, c2, c3, c4⟩ := HT2.out.ca
      obtain ⟨d0, d1, d2, d3, d4⟩ := HT2.out.cb
      clear h1
      go_wp2_with fail
      refine (slices_EqualS _ _ _ _ _ (HA.out.ext HT2.out.ext).tx (HB.out.ext HT2.out.ext).tx).mono ?_
      rintro e w3 ⟨rfl, h1⟩
      have HT3 := Lib.hid (HT2.out.step h1.ext)
      generalize decide (a.texts = b.texts) = β at *
      cases β
      · clear h1
        go_wp2
        go_ret
        exact ⟨by rw [HM.out]; rfl, HT3.out.ext⟩
      · obtain ⟨c0, c1, c2, c3, c4⟩ := HT3.out.ca
        obtain ⟨d0, d1, d2, d3, d4⟩ := HT3.out.cb
        clear h1
        go_wp2_with fail
        refine (name_Equal _ _ _ _ _ (HA.out.ext HT3.out.ext).ho (HB.out.ext HT3.out.ext).ho FA.out.1 FB.out.1).mono ?_
        rintro e w4 ⟨rfl, h1⟩
        have HT4 := Lib.hid (HT3.out.step h1)
        generalize neq a.host b.host = β at *
        cases β
        · clear h1
          go_wp2
          go_ret
          exact ⟨by rw [HM.out]; rfl, HT4.out.ext⟩
        · obtain ⟨c0, c1, c2, c3, c4⟩ := HT4.out.ca
          obtain ⟨d0, d1, d2, d3, d4⟩ := HT4.out.cb
          clear h1
          go_wp2_with fail
          refine (name_Equal _ _ _ _ _ (HA.out.ext HT4.out.ext).ma (HB.out.ext HT4.out.ext).ma FA.out.2 FB.out.2).mono ?_
          rintro e w5 ⟨rfl, h1⟩
          have HT5 := Lib.hid (HT4.out.step h1)
          go_wp2
          go_ret
          exact ⟨by rw [HM.out]; rfl, HT5.out.ext⟩
set_option maxRecDepth 100000 in
/-- rref_Same. -/
theorem rref_Same (a b : Dat) (a0 a1 a2 a3 a4 b0 b1 b2 b3 b4 : Value) (w : World) (ha : DR w a0 a1 a2 a3 a4 a) (hb : DR w b0 b1 b2 b3 b4 b) (fa : DFit a) (fb : DFit b) :
    Calls Try.prog 29 #[.agg #[a0, a1, a2, a3, a4], .agg #[b0, b1, b2, b3, b4]] w fun e w' => e = .returned (.bool (dsame a b)) ∧ Ext w w' := by
  have HM := Lib.hid (show dsame a b = (decide (a.bytes = b.bytes) && (decide (a.nums = b.nums) && (decide (a.texts = b.texts) && (neq a.host b.host && neq a.mail b.mail)))) from rfl)
  have HA := Lib.hid ha
  have HB := Lib.hid hb
  have FA := Lib.hid fa
  have FB := Lib.hid fb
  have HT := Lib.hid (two_start w a0 a1 a2 a3 a4 b0 b1 b2 b3 b4)
  clear ha hb fa fb
  go_enter Try.func29, Try.ntmps29
  go_wp2_with fail
  refine (ref_Same _ _ _ _ _ (HA.out.ext HT.out.ext).by_ (HB.out.ext HT.out.ext).by_).mono ?_
  rintro e w1 ⟨rfl, h1⟩
  have HT1 := Lib.hid (HT.out.step h1.ext)
  generalize decide (a.bytes = b.bytes) = β at *
  cases β
  · clear h1
    go_wp2
    go_ret
    exact ⟨by rw [HM.out]; rfl, HT1.out.ext⟩
  · obtain ⟨c0, c1, c2, c3, c4⟩ := HT1.out.ca
    obtain ⟨d0, d1, d2, d3, d4⟩ := HT1.out.cb
    clear h1
    go_wp2_with fail
    refine (ref_Ints _ _ _ _ _ (HA.out.ext HT1.out.ext).nu (HB.out.ext HT1.out.ext).nu).mono ?_
    rintro e w2 ⟨rfl, h1⟩
    have HT2 := Lib.hid (HT1.out.step h1.ext)
    generalize decide (a.nums = b.nums) = β at *
    cases β
    · clear h1
      go_wp2
      go_ret
      exact ⟨by rw [HM.out]; rfl, HT2.out.ext⟩
    · obtain ⟨c0, c1, c2, c3, c4⟩ := HT2.out.ca
      obtain ⟨d0, d1, d2, d3, d4⟩ := HT2.out.cb
      clear h1
      go_wp2_with fail
      refine (ref_texts _ _ _ _ _ (HA.out.ext HT2.out.ext).tx (HB.out.ext HT2.out.ext).tx).mono ?_
      rintro e w3 ⟨rfl, h1⟩
      have HT3 := Lib.hid (HT2.out.step h1.ext)
      generalize decide (a.texts = b.texts) = β at *
      cases β
      · clear h1
        go_wp2
        go_ret
        exact ⟨by rw [HM.out]; rfl, HT3.out.ext⟩
      · obtain ⟨c0, c1, c2, c3, c4⟩ := HT3.out.ca
        obtain ⟨d0, d1, d2, d3, d4⟩ := HT3.out.cb
        clear h1
        go_wp2_with fail
        refine (ref_Equal _ _ _ _ _ (HA.out.ext HT3.out.ext).ho (HB.out.ext HT3.out.ext).ho FA.out.1 FB.out.1).mono ?_
        rintro e w4 ⟨rfl, h1⟩
        have HT4 := Lib.hid (HT3.out.step h1)
        generalize neq a.host b.host = β at *
        cases β
        · clear h1
          go_wp2
          go_ret
          exact ⟨by rw [HM.out]; rfl, HT4.out.ext⟩
        · obtain ⟨c0, c1, c2, c3, c4⟩ := HT4.out.ca
          obtain ⟨d0, d1, d2, d3, d4⟩ := HT4.out.cb
          clear h1
          go_wp2_with fail
          refine (ref_Equal _ _ _ _ _ (HA.out.ext HT4.out.ext).ma (HB.out.ext HT4.out.ext).ma FA.out.2 FB.out.2).mono ?_
          rintro e w5 ⟨rfl, h1⟩
          have HT5 := Lib.hid (HT4.out.step h1)
          go_wp2
          go_ret
          exact ⟨by rw [HM.out]; rfl, HT5.out.ext⟩
end Go.Proofs.Ytfnelkcllaaebaa
end
section
/- Contract of ref03.OwnData. No condition but that slices read as lists, and room. -/
open Go.RowKit
set_option linter.unusedVariables false
set_option linter.unusedSimpArgs false
namespace Go.Proofs.Ytfnelkcllaaebaa
theorem NewS.mono {α : Type} {V : α → Value} {e : TypeId} {w : World} {base base' : Nat} {v : Value} {l : List α} (h : NewS V e w base v l) (hb : base' ≤ base) : NewS V e w base' v l := ⟨h.1, fun hl => (h.2 hl).mono hb⟩
theorem NewS.slice {α : Type} {V : α → Value} {e : TypeId} {w : World} {base : Nat} {v : Value} {l : List α} (h : NewS V e w base v l) : ∃ A n c, v = .slice A n c := by
  obtain ⟨A, c, h1, _⟩ := h.1.form; exact ⟨A, _, c, h1⟩
theorem NewS.set_other {α : Type} {V : α → Value} {e : TypeId} {w : World} {base : Nat} {v : Value} {l : List α} (h : NewS V e w base v l) {g : Nat} (hg : g < base) (o : Nat) (u : Value) : NewS V e (w.setCell ⟨g, o, none⟩ u) base v l := by
  by_cases hl : l = []
  · subst hl
    obtain ⟨A, c, rfl, h1, h2, _⟩ := h.1
    exact ⟨⟨A, c, rfl, h1, h2, by simp⟩, fun h => absurd rfl h⟩
  · have := (h.2 hl).set_other hg o u
    exact ⟨this.fl, fun _ => this⟩
/-- The five fields' sizes leave room. -/
def DRoom (d : Dat) : Prop := d.bytes.length * 1 ≤ 140737488355328 ∧ d.host.length * 16 ≤ 140737488355328 ∧ d.mail.length * 16 ≤ 140737488355328 ∧ d.nums.length * 8 ≤ 140737488355328 ∧ d.texts.length * 16 ≤ 140737488355328
/-- Two slices lie in different rows. -/
def Sep {α β : Type} (v v' : Value) (l : List α) (l' : List β) : Prop := l ≠ [] → l' ≠ [] → v.ownBlock ≠ v'.ownBlock
theorem sep_new {α β : Type} {V : α → Value} {V' : β → Value} {e e' : TypeId} {w w1 : World} {base : Nat} {v v' : Value} {l : List α} {l' : List β} (h : NewS V e w base v l) (h' : NewS V' e' w1 w.heap.size v' l') : Sep v v' l l' := by
  intro hl hl' he
  obtain h1 := h.2 hl
  obtain h2 := h'.2 hl'
  rcases h1.2 with ⟨rfl, hn⟩ | ⟨g, cap, cur, rfl, _⟩
  · exact hl (List.eq_nil_of_length_eq_zero hn)
  · have h3 := (World.ownsRow.lt h1 g rfl).2
    have h4 := h2.base_le g he.symm
    omega
/-- A Data value that reads as d, its rows the call's own; the host's row is no other's. -/
def OwnV (w : World) (base : Nat) (v : Value) (d : Dat) : Prop := ∃ v0 v1 v2 v3 v4, v = .agg #[v0, v1, v2, v3, v4] ∧
  NewS vByte 5 w base v0 d.bytes ∧ NewS Value.string 9 w base v1 d.host ∧ NewS Value.string 9 w base v2 d.mail ∧ NewS vInt 3 w base v3 d.nums ∧ NewS Value.string 9 w base v4 d.texts ∧ Sep v1 v2 d.host d.mail ∧ Sep v1 v4 d.host d.texts
theorem OwnV.ext {w w' : World} {base : Nat} {v : Value} {d : Dat} (h : OwnV w base v d) (he : Ext w w') : OwnV w' base v d := by
  obtain ⟨v0, v1, v2, v3, v4, h, h0, h1, h2, h3, h4, s⟩ := h
  exact ⟨v0, v1, v2, v3, v4, h, h0.ext he, h1.ext he, h2.ext he, h3.ext he, h4.ext he, s⟩
def OwnGives (d : Dat) (w : World) (e : Ending) (w' : World) : Prop := Ext w w' ∧ ∃ v, e = .returned v ∧ OwnV w' w.heap.size v d
def ownPre (i : Nat) : List Nat := match i with | 11 => [7] | 15 => [11, 7] | 19 => [15, 11, 7] | 20 => [7, 11, 15, 19] | _ => []
def isE (v : Value) : Prop := ∃ A, v = .slice A 0 0
def ownPs (w : World) (d : Dat) (v0 v1 v2 v3 v4 : Value) (i : Nat) (vs : Nat → Value) (W : World) : Prop :=
  match i with
  | 0 => isE (vs 0) | 4 => isE (vs 4) | 8 => isE (vs 8) | 12 => isE (vs 12) | 16 => isE (vs 16)
  | 1 => vs 1 = .pointer (some ⟨w.heap.size, 0, none⟩) | 2 => vs 2 = v0
  | 5 => vs 5 = .pointer (some ⟨w.heap.size, 1, none⟩) | 6 => vs 6 = v1
  | 9 => vs 9 = .pointer (some ⟨w.heap.size, 2, none⟩) | 10 => vs 10 = v2
  | 13 => vs 13 = .pointer (some ⟨w.heap.size, 3, none⟩) | 14 => vs 14 = v3
  | 17 => vs 17 = .pointer (some ⟨w.heap.size, 4, none⟩) | 18 => vs 18 = v4
  | 3 => NewS vByte 5 W (w.heap.size + 2) (vs 3) d.bytes
  | 7 => NewS Value.string 9 W (w.heap.size + 2) (vs 7) d.host
  | 11 => NewS Value.string 9 W (w.heap.size + 2) (vs 11) d.mail ∧ Sep (vs 7) (vs 11) d.host d.mail
  | 15 => NewS vInt 3 W (w.heap.size + 2) (vs 15) d.nums
  | 19 => NewS Value.string 9 W (w.heap.size + 2) (vs 19) d.texts ∧ Sep (vs 7) (vs 19) d.host d.texts
  | 20 => OwnV W (w.heap.size + 2) (vs 20) d
  | _ => True
theorem ownPs_mono (w : World) (d : Dat) (v0 v1 v2 v3 v4 : Value) (i : Nat) (vs : Nat → Value) (W W' : World) (h : ownPs w d v0 v1 v2 v3 v4 i vs W) (hE : Ext W W') : ownPs w d v0 v1 v2 v3 v4 i vs W' := by
  unfold ownPs at *
  split at h <;> first | exact h | exact NewS.ext h hE | exact ⟨NewS.ext h.1 hE, h.2⟩ | exact OwnV.ext h hE
theorem ownPs_same (w : World) (d : Dat) (v0 v1 v2 v3 v4 : Value) (i : Nat) (vs vs' : Nat → Value) (W : World) (hs : ∀ j, j = i ∨ j ∈ ownPre i → vs j = vs' j) (h : ownPs w d v0 v1 v2 v3 v4 i vs W) : ownPs w d v0 v1 v2 v3 v4 i vs' W := by
  unfold ownPs at *
  have h0 := hs i (.inl rfl)
  split at h
  all_goals first
    | (rw [← h0]; exact h)
    | (have h7 := hs 7 (.inr (by decide)); rw [← h0, ← h7]; exact h)
    | trivial
theorem own_ends {d : Dat} {w W : World} {v0 v1 v2 v3 v4 x0 x1 x2 x3 x4 : Value} (hT : Two w W v0 v1 v2 v3 v4 nilS nilS nilS nilS nilS)
    (h0 : NewS vByte 5 W (w.heap.size + 2) x0 d.bytes) (h1 : NewS Value.string 9 W (w.heap.size + 2) x1 d.host) (h2 : NewS Value.string 9 W (w.heap.size + 2) x2 d.mail) (h3 : NewS vInt 3 W (w.heap.size + 2) x3 d.nums) (h4 : NewS Value.string 9 W (w.heap.size + 2) x4 d.texts) (s1 : Sep x1 x2 d.host d.mail) (s2 : Sep x1 x4 d.host d.texts)
    {a : Act} (ht : a.tmps.getD 2 undef = .pointer (some ⟨w.heap.size + 1, 0, none⟩)) (hd : a.defers = []) :
    bodyPost Try.prog Try.f27 (OwnGives d w) .ret a (((((W.setCell ⟨w.heap.size + 1, 0, none⟩ x0).setCell ⟨w.heap.size + 1, 1, none⟩ x1).setCell ⟨w.heap.size + 1, 2, none⟩ x2).setCell ⟨w.heap.size + 1, 3, none⟩ x3).setCell ⟨w.heap.size + 1, 4, none⟩ x4) := by
  have ht' : a.tmps[2]?.getD undef = .pointer (some ⟨w.heap.size + 1, 0, none⟩) := by rw [← ht]; simp
  have hcell : (((((W.setCell ⟨w.heap.size + 1, 0, none⟩ x0).setCell ⟨w.heap.size + 1, 1, none⟩ x1).setCell ⟨w.heap.size + 1, 2, none⟩ x2).setCell ⟨w.heap.size + 1, 3, none⟩ x3).setCell ⟨w.heap.size + 1, 4, none⟩ x4).heap[w.heap.size + 1]? = some (.cells #[x0, x1, x2, x3, x4] 26 (0, 0)) := by
    simp [World.setCell, Array.getElem?_modify, hT.hb]
  refine bodyPost_ret (v := .agg #[x0, x1, x2, x3, x4]) ?_ hd ⟨?_, _, rfl, x0, x1, x2, x3, x4, rfl, ?_, ?_, ?_, ?_, ?_, s1, s2⟩
  · generalize ((((W.setCell ⟨w.heap.size + 1, 0, none⟩ x0).setCell ⟨w.heap.size + 1, 1, none⟩ x1).setCell ⟨w.heap.size + 1, 2, none⟩ x2).setCell ⟨w.heap.size + 1, 3, none⟩ x3).setCell ⟨w.heap.size + 1, 4, none⟩ x4 = W5 at *
    have c0 : W5.cell? ⟨w.heap.size + 1, 0, none⟩ = some x0 := by simp [World.cell?, hcell]
    have c1 : W5.cell? ⟨w.heap.size + 1, 1, none⟩ = some x1 := by simp [World.cell?, hcell]
    have c2 : W5.cell? ⟨w.heap.size + 1, 2, none⟩ = some x2 := by simp [World.cell?, hcell]
    have c3 : W5.cell? ⟨w.heap.size + 1, 3, none⟩ = some x3 := by simp [World.cell?, hcell]
    have c4 : W5.cell? ⟨w.heap.size + 1, 4, none⟩ = some x4 := by simp [World.cell?, hcell]
    simp [results, Try.results27, go_sem, ht', c0, c1, c2, c3, c4]
  · refine ((((hT.ext.setCell ?_ _).setCell ?_ _).setCell ?_ _).setCell ?_ _).setCell ?_ _ <;> exact Nat.le_succ _
  all_goals
    refine NewS.mono (base := w.heap.size + 2) ?_ (by omega)
  · exact ((((h0.set_other (by omega) _ _).set_other (by omega) _ _).set_other (by omega) _ _).set_other (by omega) _ _).set_other (by omega) _ _
  · exact ((((h1.set_other (by omega) _ _).set_other (by omega) _ _).set_other (by omega) _ _).set_other (by omega) _ _).set_other (by omega) _ _
  · exact ((((h2.set_other (by omega) _ _).set_other (by omega) _ _).set_other (by omega) _ _).set_other (by omega) _ _).set_other (by omega) _ _
  · exact ((((h3.set_other (by omega) _ _).set_other (by omega) _ _).set_other (by omega) _ _).set_other (by omega) _ _).set_other (by omega) _ _
  · exact ((((h4.set_other (by omega) _ _).set_other (by omega) _ _).set_other (by omega) _ _).set_other (by omega) _ _).set_other (by omega) _ _
set_option maxRecDepth 100000 in
set_option maxHeartbeats 1000000 in
theorem ref_OwnData (d : Dat) (v0 v1 v2 v3 v4 : Value) (w : World) (hd : DR w v0 v1 v2 v3 v4 d) (hr : DRoom d) :
    Calls Try.prog 27 #[.agg #[v0, v1, v2, v3, v4]] w (OwnGives d w) := by
  have HD := Lib.hid hd
  have HR := Lib.hid hr
  have HT := Lib.hid (two_start w v0 v1 v2 v3 v4 nilS nilS nilS nilS nilS)
  clear hd hr
  go_enter Try.func27, Try.ntmps27
  go_wp2
  generalize hW : (w.alloc (.cells #[v0, v1, v2, v3, v4] 26)).alloc (.cells #[nilS, nilS, nilS, nilS, nilS] 26) = W0 at *
  clear hW
  refine wp_region_posts2 ownPre (E := Ext) Ext.refl (fun _ _ _ => Ext.trans) 21 (ownPs w d v0 v1 v2 v3 v4) (fun _ _ => False) (by kernel_rfl) (ownPs_mono w d v0 v1 v2 v3 v4) (ownPs_same w d v0 v1 v2 v3 v4) (by kernel_rfl) (by kernel_rfl) (fun _ _ _ _ h => h.elim) ?_ ?_
  · simp only [List.take, Obls2, fullA, Act.put, List.setIfInBounds_toArray, List.set_cons_zero, List.set_cons_succ, Nat.zero_add, Nat.reduceAdd]
    refine ⟨?_, ?_, ?_, ?_, ?_, ?_, ?_, ?_, ?_, ?_, ?_, ?_, ?_, ?_, ?_, ?_, ?_, ?_, ?_, ?_, ?_, trivial⟩
    all_goals intro vs W hE hd
    all_goals have hT := HT.out.step (Ext.trans (Ext.drew (Ext.refl W0)) hE)
    all_goals have HT2 := Lib.hid hT
    all_goals have hsz : w.heap.size + 2 ≤ W.heap.size := by have := (Array.getElem?_eq_some_iff.1 hT.hb).1; omega
    all_goals clear hT
    · clear hd
      go_wp2
      exact ⟨rfl, (Ext.refl _).alloc _, _, rfl⟩
    · clear hd
      go_wp2
      exact ⟨rfl, Ext.refl _, rfl⟩
    · have e1 : vs 1 = .pointer (some ⟨w.heap.size, 0, none⟩) := hd 1 (.inl (by decide))
      clear hd
      rw [e1]
      have c0 := HT2.out.ca.1
      go_wp2
      exact ⟨rfl, Ext.refl _, rfl⟩
    · obtain ⟨A, e1⟩ : isE (vs 0) := hd 0 (.inl (by decide))
      have e2 : vs 2 = v0 := hd 2 (.inl (by decide))
      clear hd
      rw [e1, e2]
      have HY := Lib.hid ((HD.out.ext HT2.out.ext).by_)
      go_wp2_with (at_builtin; refine wpList_app0 vByte rfl (.tmp 3) (.tmp 5) 22 5 (.int .u8 0) 1 rfl Try.underlying22 (by kernel_rfl) rfl (by decide) A d.bytes v0 rfl rfl (fun _ => rfl) HY.out HR.out.1 ?_; intro v9 w9 hN hE9)
      exact ⟨rfl, hE9, hN.mono hsz⟩
    · clear hd
      go_wp2
      exact ⟨rfl, (Ext.refl _).alloc _, _, rfl⟩
    · clear hd
      go_wp2
      exact ⟨rfl, Ext.refl _, rfl⟩
    · have e1 : vs 5 = .pointer (some ⟨w.heap.size, 1, none⟩) := hd 5 (.inl (by decide))
      clear hd
      rw [e1]
      have c0 := HT2.out.ca.2.1
      go_wp2
      exact ⟨rfl, Ext.refl _, rfl⟩
    · obtain ⟨A, e1⟩ : isE (vs 4) := hd 4 (.inl (by decide))
      have e2 : vs 6 = v1 := hd 6 (.inl (by decide))
      clear hd
      rw [e1, e2]
      have HY := Lib.hid ((HD.out.ext HT2.out.ext).ho)
      go_wp2_with (at_builtin; refine wpList_app0 Value.string rfl (.tmp 7) (.tmp 9) 23 9 (.string ⟨#[]⟩) 16 rfl Try.underlying23 (by kernel_rfl) rfl (by decide) A d.host v1 rfl rfl (fun _ => rfl) HY.out HR.out.2.1 ?_; intro v9 w9 hN hE9)
      exact ⟨rfl, hE9, hN.mono hsz⟩
    · clear hd
      go_wp2
      exact ⟨rfl, (Ext.refl _).alloc _, _, rfl⟩
    · clear hd
      go_wp2
      exact ⟨rfl, Ext.refl _, rfl⟩
    · have e1 : vs 9 = .pointer (some ⟨w.heap.size, 2, none⟩) := hd 9 (.inl (by decide))
      clear hd
      rw [e1]
      have c0 := HT2.out.ca.2.2.1
      go_wp2
      exact ⟨rfl, Ext.refl _, rfl⟩
    · obtain ⟨A, e1⟩ : isE (vs 8) := hd 8 (.inl (by decide))
      have e2 : vs 10 = v2 := hd 10 (.inl (by decide))
      have h7 : NewS Value.string 9 W (w.heap.size + 2) (vs 7) d.host := hd 7 (.inr (by decide))
      have H7 := Lib.hid h7
      clear h7
      clear hd
      rw [e1, e2]
      have HY := Lib.hid ((HD.out.ext HT2.out.ext).ma)
      go_wp2_with (at_builtin; refine wpList_app0 Value.string rfl (.tmp 11) (.tmp 13) 23 9 (.string ⟨#[]⟩) 16 rfl Try.underlying23 (by kernel_rfl) rfl (by decide) A d.mail v2 rfl rfl (fun _ => rfl) HY.out HR.out.2.2.1 ?_; intro v9 w9 hN hE9)
      exact ⟨rfl, hE9, hN.mono hsz, sep_new H7.out hN⟩
    · clear hd
      go_wp2
      exact ⟨rfl, (Ext.refl _).alloc _, _, rfl⟩
    · clear hd
      go_wp2
      exact ⟨rfl, Ext.refl _, rfl⟩
    · have e1 : vs 13 = .pointer (some ⟨w.heap.size, 3, none⟩) := hd 13 (.inl (by decide))
      clear hd
      rw [e1]
      have c0 := HT2.out.ca.2.2.2.1
      go_wp2
      exact ⟨rfl, Ext.refl _, rfl⟩
    · obtain ⟨A, e1⟩ : isE (vs 12) := hd 12 (.inl (by decide))
      have e2 : vs 14 = v3 := hd 14 (.inl (by decide))
      clear hd
      rw [e1, e2]
      have HY := Lib.hid ((HD.out.ext HT2.out.ext).nu)
      go_wp2_with (at_builtin; refine wpList_app0 vInt rfl (.tmp 15) (.tmp 17) 24 3 (.int .i64 0) 8 rfl Try.underlying24 (by kernel_rfl) rfl (by decide) A d.nums v3 rfl rfl (fun _ => rfl) HY.out HR.out.2.2.2.1 ?_; intro v9 w9 hN hE9)
      exact ⟨rfl, hE9, hN.mono hsz⟩
    · clear hd
      go_wp2
      exact ⟨rfl, (Ext.refl _).alloc _, _, rfl⟩
    · clear hd
      go_wp2
      exact ⟨rfl, Ext.refl _, rfl⟩
    · have e1 : vs 17 = .pointer (some ⟨w.heap.size, 4, none⟩) := hd 17 (.inl (by decide))
      clear hd
      rw [e1]
      have c0 := HT2.out.ca.2.2.2.2
      go_wp2
      exact ⟨rfl, Ext.refl _, rfl⟩
    · obtain ⟨A, e1⟩ : isE (vs 16) := hd 16 (.inl (by decide))
      have e2 : vs 18 = v4 := hd 18 (.inl (by decide))
      have h7 : NewS Value.string 9 W (w.heap.size + 2) (vs 7) d.host := hd 7 (.inr (by decide))
      have H7 := Lib.hid h7
      clear h7
      clear hd
      rw [e1, e2]
      have HY := Lib.hid ((HD.out.ext HT2.out.ext).tx)
      go_wp2_with (at_builtin; refine wpList_app0 Value.string rfl (.tmp 19) (.tmp 21) 23 9 (.string ⟨#[]⟩) 16 rfl Try.underlying23 (by kernel_rfl) rfl (by decide) A d.texts v4 rfl rfl (fun _ => rfl) HY.out HR.out.2.2.2.2 ?_; intro v9 w9 hN hE9)
      exact ⟨rfl, hE9, hN.mono hsz, sep_new H7.out hN⟩
    · have h0 : NewS vByte 5 W (w.heap.size + 2) (vs 3) d.bytes := hd 3 (.inl (by decide))
      have h1 : NewS Value.string 9 W (w.heap.size + 2) (vs 7) d.host := hd 7 (.inl (by decide))
      have h2 : NewS Value.string 9 W (w.heap.size + 2) (vs 11) d.mail := (hd 11 (.inl (by decide))).1
      have h3 : NewS vInt 3 W (w.heap.size + 2) (vs 15) d.nums := hd 15 (.inl (by decide))
      have h4 : NewS Value.string 9 W (w.heap.size + 2) (vs 19) d.texts := (hd 19 (.inl (by decide))).1
      have s1 : Sep (vs 7) (vs 11) d.host d.mail := (hd 11 (.inl (by decide))).2
      have s2 : Sep (vs 7) (vs 19) d.host d.texts := (hd 19 (.inl (by decide))).2
      clear hd
      obtain ⟨A0, n0, c0, e0⟩ := h0.slice
      rw [e0] at h0
      obtain ⟨A1, n1, c1, e1⟩ := h1.slice
      rw [e1] at h1
      obtain ⟨A2, n2, c2, e2⟩ := h2.slice
      rw [e2] at h2
      obtain ⟨A3, n3, c3, e3⟩ := h3.slice
      rw [e3] at h3
      obtain ⟨A4, n4, c4, e4⟩ := h4.slice
      rw [e4] at h4
      rw [e1, e2] at s1
      rw [e1, e4] at s2
      rw [e0, e1, e2, e3, e4]
      have HO : Hid (OwnV W (w.heap.size + 2) (.agg #[.slice A0 n0 c0, .slice A1 n1 c1, .slice A2 n2 c2, .slice A3 n3 c3, .slice A4 n4 c4]) d) := Lib.hid ⟨_, _, _, _, _, rfl, h0, h1, h2, h3, h4, s1, s2⟩
      clear h0 h1 h2 h3 h4 s1 s2
      go_wp2
      exact ⟨rfl, Ext.refl _, HO.out⟩
  · intro vs W hE hP
    have hT := HT.out.step (Ext.trans (Ext.drew (Ext.refl W0)) hE)
    have h20 : OwnV W (w.heap.size + 2) (vs 20) d := hP 20 (by decide)
    clear hP
    simp only [List.drop, List.take, fullA, Act.put, List.setIfInBounds_toArray, List.set_cons_zero, List.set_cons_succ, Nat.zero_add, Nat.reduceAdd]
    obtain ⟨x0, x1, x2, x3, x4, e20, h0, h1, h2, h3, h4, s1, s2⟩ := h20
    have S1 := Lib.hid s1
    have S2 := Lib.hid s2
    clear s1 s2
    rw [e20]
    obtain ⟨A0, n0, c0, rfl⟩ := h0.slice
    have H0 := Lib.hid h0
    obtain ⟨A1, n1, c1, rfl⟩ := h1.slice
    have H1 := Lib.hid h1
    obtain ⟨A2, n2, c2, rfl⟩ := h2.slice
    have H2 := Lib.hid h2
    obtain ⟨A3, n3, c3, rfl⟩ := h3.slice
    have H3 := Lib.hid h3
    obtain ⟨A4, n4, c4, rfl⟩ := h4.slice
    have H4 := Lib.hid h4
    clear h0 h1 h2 h3 h4
    have HT2 := Lib.hid hT
    obtain ⟨d0, d1, d2, d3, d4⟩ := hT.cb
    have hf : ∀ i, W.frozen? ⟨w.heap.size + 1, i, none⟩ = false := by intro i; have := hT.hb; simp [World.frozen?, this]
    clear hT
    go_wp2
    exact own_ends HT2.out H0.out H1.out H2.out H3.out H4.out S1.out S2.out (by rfl) (by rfl)
end Go.Proofs.Ytfnelkcllaaebaa
end
section
/- Contract of law04.light. No condition but that slices read as lists. -/
open Go.RowKit
set_option linter.unusedVariables false
set_option linter.unusedSimpArgs false
namespace Go.Proofs.Ytfnelkcllaaebaa
def shortL (m : Nat) (l : List Str) : Bool := l.all fun x => decide (x.size ≤ m)
def lightD (d : Dat) : Bool := shortL 300 d.host && (shortL 300 d.mail && (shortL 600 d.texts && decide (d.host.length ≤ 300 ∧ d.mail.length ≤ 300 ∧ d.texts.length ≤ 200 ∧ d.nums.length ≤ 200 ∧ d.bytes.length ≤ 70000)))
theorem short_step {m : Nat} {l : List Str} {k : Nat} {x : Str} (hx : l[k]? = some x) (h : x.size ≤ m) (ht : shortL m (l.take k) = true) : shortL m (l.take (k + 1)) = true := by
  unfold shortL at *
  rw [List.take_add_one, hx, List.all_append, ht]
  simp [h]
theorem short_hit {m : Nat} {l : List Str} {k : Nat} {x : Str} (hx : l[k]? = some x) (h : m < x.size) : shortL m l = false := by
  unfold shortL
  rw [List.all_eq_false]
  exact ⟨x, List.mem_of_getElem? hx, by simp; omega⟩
theorem light_len {d : Dat} (h1 : shortL 300 d.host = true) (h2 : shortL 300 d.mail = true) (h3 : shortL 600 d.texts = true) :
    lightD d = decide (d.host.length ≤ 300 ∧ d.mail.length ≤ 300 ∧ d.texts.length ≤ 200 ∧ d.nums.length ≤ 200 ∧ d.bytes.length ≤ 70000) := by
  unfold lightD; rw [h1, h2, h3]; rfl
theorem light_1 {d : Dat} (h : shortL 300 d.host = false) : lightD d = false := by unfold lightD; rw [h]; rfl
theorem light_2 {d : Dat} (h : shortL 300 d.mail = false) : lightD d = false := by unfold lightD; rw [h]; simp
theorem light_3 {d : Dat} (h : shortL 600 d.texts = false) : lightD d = false := by unfold lightD; rw [h]; simp
theorem light_lens {d : Dat} (h : lightD d = true) : d.host.length ≤ 300 ∧ d.mail.length ≤ 300 ∧ d.texts.length ≤ 200 ∧ d.nums.length ≤ 200 ∧ d.bytes.length ≤ 70000 := by
  unfold lightD at h
  simp only [Bool.and_eq_true, decide_eq_true_eq] at h
  exact h.2.2.2
/-- The argument's box. -/
structure One (w W : World) (a0 a1 a2 a3 a4 : Value) : Prop where
  ext : Ext w W
  ha : W.heap[w.heap.size]? = some (.cells #[a0, a1, a2, a3, a4] 26 (0, 0))
theorem one_start (w : World) (a0 a1 a2 a3 a4 : Value) : One w (w.alloc (.cells #[a0, a1, a2, a3, a4] 26)) a0 a1 a2 a3 a4 := ⟨(Ext.refl _).alloc _, heap_alloc_new w _⟩
theorem One.ca {w W : World} {a0 a1 a2 a3 a4 : Value} (h : One w W a0 a1 a2 a3 a4) : W.cell? ⟨w.heap.size, 0, none⟩ = some a0 ∧ W.cell? ⟨w.heap.size, 1, none⟩ = some a1 ∧ W.cell? ⟨w.heap.size, 2, none⟩ = some a2 ∧ W.cell? ⟨w.heap.size, 3, none⟩ = some a3 ∧ W.cell? ⟨w.heap.size, 4, none⟩ = some a4 := by
  have := h.ha
  refine ⟨?_, ?_, ?_, ?_, ?_⟩ <;> simp [World.cell?, *]
set_option maxRecDepth 100000 in
set_option maxHeartbeats 1000000 in
/-- law04.light. -/
theorem law04_light (d : Dat) (v0 v1 v2 v3 v4 : Value) (w : World) (hd : DR w v0 v1 v2 v3 v4 d) :
    Calls Try.prog 26 #[.agg #[v0, v1, v2, v3, v4]] w fun e w' => e = .returned (.bool (lightD d)) ∧ Ext w w' := by
  have HD := Lib.hid hd
  have HO := Lib.hid (one_start w v0 v1 v2 v3 v4)
  obtain ⟨A0, k0, rfl, l0, m0⟩ := hd.by_.form
  obtain ⟨A1, k1, rfl, l1, m1⟩ := hd.ho.form
  obtain ⟨A2, k2, rfl, l2, m2⟩ := hd.ma.form
  obtain ⟨A3, k3, rfl, l3, m3⟩ := hd.nu.form
  obtain ⟨A4, k4, rfl, l4, m4⟩ := hd.tx.form
  unfold maxI at m0 m1 m2 m3 m4
  clear hd
  obtain ⟨c0, c1, c2, c3, c4⟩ := HO.out.ca
  go_enter Try.func26, Try.ntmps26
  go_wp2
  generalize hW : w.alloc (.cells #[.slice A0 d.bytes.length k0, .slice A1 d.host.length k1, .slice A2 d.mail.length k2, .slice A3 d.nums.length k3, .slice A4 d.texts.length k4] 26) = W at *
  clear hW
  go_loopw [3] (fun i wr => ∃ k : Nat, k ≤ d.host.length ∧ i = .int .i64 k ∧ Hid (shortL 300 (d.host.take k) = true) ∧ W = wr) (fun i _ => d.host.length - (intOf i).toNat)
  case atStart => exact ⟨0, by omega, rfl, rfl, rfl⟩
  case round =>
    obtain ⟨k, hk, rfl, hT, rfl⟩ := hrel
    by_cases hlt : k < d.host.length
    · obtain ⟨b, o, c', e1, _, _, hc1⟩ := HD.out.ho.opens (by omega)
      injection e1 with e1 e3 e4
      subst e1
      clear e3 e4
      have hx := List.getElem?_eq_getElem hlt
      have hcx := HO.out.ext.cell (hc1 k _ hx)
      have HX := Lib.hid hx
      clear hx hc1
      generalize d.host[k] = x at *
      go_wp2
      all_goals first
        | (go_roundw
           case rel => exact ⟨k + 1, by omega, by go_num, short_step HX.out (by omega) hT.out, by trivial⟩
           case measure => simp [intOf]; omega)
        | (have HE := Lib.hid (light_1 (short_hit (m := 300) HX.out (by omega)))
           go_ret
           exact ⟨by rw [HE.out]; rfl, HO.out.ext⟩)
    · have hT2 := hT.out
      rw [List.take_of_length_le (by omega)] at hT2
      have H1 := Lib.hid hT2
      clear hT2 hT
      go_wp2
      go_loopw [4] (fun i wr => ∃ k : Nat, k ≤ d.mail.length ∧ i = .int .i64 k ∧ Hid (shortL 300 (d.mail.take k) = true) ∧ W = wr) (fun i _ => d.mail.length - (intOf i).toNat)
      case atStart => exact ⟨0, by omega, rfl, rfl, rfl⟩
      case round =>
        obtain ⟨k, hk, rfl, hT, rfl⟩ := hrel
        by_cases hlt : k < d.mail.length
        · obtain ⟨b, o, c', e1, _, _, hc1⟩ := HD.out.ma.opens (by omega)
          injection e1 with e1 e3 e4
          subst e1
          clear e3 e4
          have hx := List.getElem?_eq_getElem hlt
          have hcx := HO.out.ext.cell (hc1 k _ hx)
          have HX := Lib.hid hx
          clear hx hc1
          generalize d.mail[k] = x at *
          go_wp2
          all_goals first
            | (go_roundw
               case rel => exact ⟨k + 1, by omega, by go_num, short_step HX.out (by omega) hT.out, by trivial⟩
               case measure => simp [intOf]; omega)
            | (have HE := Lib.hid (light_2 (short_hit (m := 300) HX.out (by omega)))
               go_ret
               exact ⟨by rw [HE.out]; rfl, HO.out.ext⟩)
        · have hT2 := hT.out
          rw [List.take_of_length_le (by omega)] at hT2
          have H2 := Lib.hid hT2
          clear hT2 hT
          go_wp2
          go_loopw [5] (fun i wr => ∃ k : Nat, k ≤ d.texts.length ∧ i = .int .i64 k ∧ Hid (shortL 600 (d.texts.take k) = true) ∧ W = wr) (fun i _ => d.texts.length - (intOf i).toNat)
          case atStart => exact ⟨0, by omega, rfl, rfl, rfl⟩
          case round =>
            obtain ⟨k, hk, rfl, hT, rfl⟩ := hrel
            by_cases hlt : k < d.texts.length
            · obtain ⟨b, o, c', e1, _, _, hc1⟩ := HD.out.tx.opens (by omega)
              injection e1 with e1 e3 e4
              subst e1
              clear e3 e4
              have hx := List.getElem?_eq_getElem hlt
              have hcx := HO.out.ext.cell (hc1 k _ hx)
              have HX := Lib.hid hx
              clear hx hc1
              generalize d.texts[k] = x at *
              go_wp2
              all_goals first
                | (go_roundw
                   case rel => exact ⟨k + 1, by omega, by go_num, short_step HX.out (by omega) hT.out, by trivial⟩
                   case measure => simp [intOf]; omega)
                | (have HE := Lib.hid (light_3 (short_hit (m := 600) HX.out (by omega)))
                   go_ret
                   exact ⟨by rw [HE.out]; rfl, HO.out.ext⟩)
            · have hT2 := hT.out
              rw [List.take_of_length_le (by omega)] at hT2
              have H3 := Lib.hid hT2
              clear hT2 hT
              go_wp2
              all_goals
                go_ret
                exact ⟨ret_eq (bool_eq (by rw [light_len H1.out H2.out H3.out]; first | (symm; rw [decide_eq_false_iff_not]; omega) | (rw [decide_eq_decide]; omega))), HO.out.ext⟩
end Go.Proofs.Ytfnelkcllaaebaa
end
section
/- Contract of law04.answers. No condition. -/
open Go.RowKit
set_option linter.unusedVariables false
set_option linter.unusedSimpArgs false
namespace Go.Proofs.Ytfnelkcllaaebaa
theorem getData_ans : getData [1, 2, 3, 4] 0 4 1 = (⟨[1, 2, 3, 4], [], [], [], []⟩, 0) := by
  unfold getData
  rw [if_neg (by decide), if_neg (by decide)]
  rw [show rData [1, 2, 3, 4] ((0 : Int) + 4).toNat (0 : Int).toNat (shapeOf 1) = .ok ⟨[1, 2, 3, 4], [], [], [], []⟩ from by rfl]
theorem ans_blk (w : World) : BytesV (w.alloc (.cells #[.int .u8 1, .int .u8 2, .int .u8 3, .int .u8 4] 5)) (.slice (some ⟨w.heap.size, 0, none⟩) 4 4) [1, 2, 3, 4] := by
  refine Blk.fl (V := vByte) (E := 5) ?_ 4 4 rfl (by decide) (by decide)
  refine ⟨_, 0, 0, heap_alloc_new w _, by simp, ?_⟩
  intro j x hx
  match j, hx with
  | 0, hx => simp at hx; subst hx; rfl
  | 1, hx => simp at hx; subst hx; rfl
  | 2, hx => simp at hx; subst hx; rfl
  | 3, hx => simp at hx; subst hx; rfl
  | j + 4, hx => simp at hx
/-- law04.answers. -/
theorem law04_answers (w : World) : Calls Try.prog 25 #[] w fun e w' => e = .returned (.bool true) ∧ Ext w w' := by
  have HC := Lib.hid (rdata_Get [1, 2, 3, 4] 0 4 1 _ _ (ans_blk w) (by decide))
  have hE0 : Ext w (w.alloc (.cells #[.int .u8 1, .int .u8 2, .int .u8 3, .int .u8 4] 5)) := (Ext.refl w).alloc _
  have HE0 := Lib.hid hE0
  clear hE0
  have hB := Lib.hid (ans_blk w)
  go_enter Try.func25, Try.ntmps25
  go_wp2_with fail
  refine (HC.out).mono ?_
  rintro e w1 ⟨hE, v, he, hD⟩
  rw [getData_ans] at he hD
  subst he
  obtain ⟨x0, x1, x2, x3, x4, rfl, h0, h1, h2, h3, h4⟩ := hD
  obtain ⟨b, o, c, rfl, _, _, hc⟩ := h0.fl.opens (by decide)
  have c3 : w1.cell? ⟨b, o + 3, none⟩ = some (.int .u8 4) := hc 3 4 rfl
  obtain ⟨A1, n1, c1, rfl⟩ := h1.slice
  obtain ⟨A2, n2, c2, rfl⟩ := h2.slice
  obtain ⟨A3, n3, c3', rfl⟩ := h3.slice
  obtain ⟨A4, n4, c4, rfl⟩ := h4.slice
  have HE := Lib.hid (HE0.out.trans hE)
  clear h0 h1 h2 h3 h4 hc hE
  simp only [List.length_cons, List.length_nil, Nat.zero_add, Nat.reduceAdd, vByte] at *
  have c4' := ((Ext.refl w1).alloc (.cells #[.slice (some ⟨b, o, none⟩) 4 c, .slice A1 n1 c1, .slice A2 n2 c2, .slice A3 n3 c3', .slice A4 n4 c4] 26)).cell c3
  go_wp2
  go_ret
  exact ⟨rfl, HE.out.alloc _⟩
end Go.Proofs.Ytfnelkcllaaebaa
end
