/- Contracts: the same data? No condition but that slices read as lists, and the size of each label. -/
import Derived.Test.YtfnelkcllaaebaaRGet
import Derived.Test.YtfnelkcllaaebaaNames
open Go.RowKit
set_option linter.unusedVariables false
set_option linter.unusedSimpArgs false
namespace Go.Proofs.Ytfnelkcllaaebaa
/-- The five fields read as d's. -/
structure DR (w : World) (v0 v1 v2 v3 v4 : Value) (d : Dat) : Prop where
  by_ : BytesV w v0 d.bytes
  ho : NameV w v1 d.host
  ma : NameV w v2 d.mail
  nu : IntsV w v3 d.nums
  tx : NameV w v4 d.texts
theorem DR.ext {w w' : World} {v0 v1 v2 v3 v4 : Value} {d : Dat} (h : DR w v0 v1 v2 v3 v4 d) (hE : Ext w w') : DR w' v0 v1 v2 v3 v4 d := ⟨h.by_.ext hE, h.ho.ext hE, h.ma.ext hE, h.nu.ext hE, h.tx.ext hE⟩
theorem DatV.dr {w : World} {base : Nat} {v : Value} {d : Dat} (h : DatV w base v d) : ∃ v0 v1 v2 v3 v4, v = .agg #[v0, v1, v2, v3, v4] ∧ DR w v0 v1 v2 v3 v4 d := by
  obtain ⟨v0, v1, v2, v3, v4, rfl, h0, h1, h2, h3, h4⟩ := h
  exact ⟨v0, v1, v2, v3, v4, rfl, h0.fl, h1.fl, h2.fl, h3.fl, h4.fl⟩
/-- The labels' sizes fit. -/
def DFit (d : Dat) : Prop := Fits d.host ∧ Fits d.mail
def dsame (a b : Dat) : Bool := decide (a.bytes = b.bytes) && (decide (a.nums = b.nums) && (decide (a.texts = b.texts) && (neq a.host b.host && neq a.mail b.mail)))
/-- The two boxes of the arguments. -/
structure Two (w W : World) (a0 a1 a2 a3 a4 b0 b1 b2 b3 b4 : Value) : Prop where
  ext : Ext w W
  ha : W.heap[w.heap.size]? = some (.cells #[a0, a1, a2, a3, a4] 26 (0, 0))
  hb : W.heap[w.heap.size + 1]? = some (.cells #[b0, b1, b2, b3, b4] 26 (0, 0))
theorem two_start (w : World) (a0 a1 a2 a3 a4 b0 b1 b2 b3 b4 : Value) : Two w ((w.alloc (.cells #[a0, a1, a2, a3, a4] 26)).alloc (.cells #[b0, b1, b2, b3, b4] 26)) a0 a1 a2 a3 a4 b0 b1 b2 b3 b4 := by
  refine ⟨((Ext.refl _).alloc _).alloc _, ?_, ?_⟩
  · exact ((Ext.refl _).alloc _).block (heap_alloc_new w _)
  · have := heap_alloc_new (w.alloc (.cells #[a0, a1, a2, a3, a4] 26)) (.cells #[b0, b1, b2, b3, b4] 26)
    simpa using this
theorem Two.step {w W W' : World} {a0 a1 a2 a3 a4 b0 b1 b2 b3 b4 : Value} (h : Two w W a0 a1 a2 a3 a4 b0 b1 b2 b3 b4) (hE : Ext W W') : Two w W' a0 a1 a2 a3 a4 b0 b1 b2 b3 b4 := ⟨h.ext.trans hE, hE.block h.ha, hE.block h.hb⟩
theorem Two.ca {w W : World} {a0 a1 a2 a3 a4 b0 b1 b2 b3 b4 : Value} (h : Two w W a0 a1 a2 a3 a4 b0 b1 b2 b3 b4) : W.cell? ⟨w.heap.size, 0, none⟩ = some a0 ∧ W.cell? ⟨w.heap.size, 1, none⟩ = some a1 ∧ W.cell? ⟨w.heap.size, 2, none⟩ = some a2 ∧ W.cell? ⟨w.heap.size, 3, none⟩ = some a3 ∧ W.cell? ⟨w.heap.size, 4, none⟩ = some a4 := by
  have := h.ha
  refine ⟨?_, ?_, ?_, ?_, ?_⟩ <;> simp [World.cell?, *]
theorem Two.cb {w W : World} {a0 a1 a2 a3 a4 b0 b1 b2 b3 b4 : Value} (h : Two w W a0 a1 a2 a3 a4 b0 b1 b2 b3 b4) : W.cell? ⟨w.heap.size + 1, 0, none⟩ = some b0 ∧ W.cell? ⟨w.heap.size + 1, 1, none⟩ = some b1 ∧ W.cell? ⟨w.heap.size + 1, 2, none⟩ = some b2 ∧ W.cell? ⟨w.heap.size + 1, 3, none⟩ = some b3 ∧ W.cell? ⟨w.heap.size + 1, 4, none⟩ = some b4 := by
  have := h.hb
  refine ⟨?_, ?_, ?_, ?_, ?_⟩ <;> simp [World.cell?, *]
/-- ref03.texts. -/
theorem ref_texts (va vb : Value) (a b : List ByteArray) (w : World) (ha : NameV w va a) (hb : NameV w vb b) :
    Calls Try.prog 87 #[va, vb] w fun e w' => e = .returned (.bool (decide (a = b))) ∧ Dr w w' := by
  have HC := Lib.hid (ref_Exact va vb a b w ha hb)
  clear ha hb
  go_enter Try.func87, Try.ntmps87
  go_wp2_with (go_at_call 55; refine (HC.out).mono ?_; rintro e w1 ⟨rfl, h1⟩)
  go_ret
  exact ⟨rfl, h1⟩
set_option maxRecDepth 100000 in
/-- rdata_Same. -/
theorem rdata_Same (a b : Dat) (a0 a1 a2 a3 a4 b0 b1 b2 b3 b4 : Value) (w : World) (ha : DR w a0 a1 a2 a3 a4 a) (hb : DR w b0 b1 b2 b3 b4 b) (fa : DFit a) (fb : DFit b) :
    Calls Try.prog 28 #[.agg #[a0, a1, a2, a3, a4], .agg #[b0, b1, b2, b3, b4]] w fun e w' => e = .returned (.bool (dsame a b)) ∧ Ext w w' := by
  have HM := Lib.hid (show dsame a b = (decide (a.bytes = b.bytes) && (decide (a.nums = b.nums) && (decide (a.texts = b.texts) && (neq a.host b.host && neq a.mail b.mail)))) from rfl)
  have HA := Lib.hid ha
  have HB := Lib.hid hb
  have FA := Lib.hid fa
  have FB := Lib.hid fb
  have HT := Lib.hid (two_start w a0 a1 a2 a3 a4 b0 b1 b2 b3 b4)
  clear ha hb fa fb
  go_enter Try.func28, Try.ntmps28
  go_wp2_with fail
  refine (slices_EqualB _ _ _ _ _ (HA.out.ext HT.out.ext).by_ (HB.out.ext HT.out.ext).by_).mono ?_
  rintro e w1 ⟨rfl, h1⟩
  have HT1 := Lib.hid (HT.out.step h1.ext)
  generalize decide (a.bytes = b.bytes) = β at *
  cases β
  · clear h1
    go_wp2
    go_ret
    exact ⟨by rw [HM.out]; rfl, HT1.out.ext⟩
  · obtain ⟨c0, c1, c2, c3, c4⟩ := HT1.out.ca
    obtain ⟨d0, d1, d2, d3, d4⟩ := HT1.out.cb
    clear h1
    go_wp2_with fail
    refine (slices_EqualI _ _ _ _ _ (HA.out.ext HT1.out.ext).nu (HB.out.ext HT1.out.ext).nu).mono ?_
    rintro e w2 ⟨rfl, h1⟩
    have HT2 := Lib.hid (HT1.out.step h1.ext)
    generalize decide (a.nums = b.nums) = β at *
    cases β
    · clear h1
      go_wp2
      go_ret
      exact ⟨by rw [HM.out]; rfl, HT2.out.ext⟩
    · obtain ⟨c0, c1, c2, c3, c4⟩ := HT2.out.ca
      obtain ⟨d0, d1, d2, d3, d4⟩ := HT2.out.cb
      clear h1
      go_wp2_with fail
      refine (slices_EqualS _ _ _ _ _ (HA.out.ext HT2.out.ext).tx (HB.out.ext HT2.out.ext).tx).mono ?_
      rintro e w3 ⟨rfl, h1⟩
      have HT3 := Lib.hid (HT2.out.step h1.ext)
      generalize decide (a.texts = b.texts) = β at *
      cases β
      · clear h1
        go_wp2
        go_ret
        exact ⟨by rw [HM.out]; rfl, HT3.out.ext⟩
      · obtain ⟨c0, c1, c2, c3, c4⟩ := HT3.out.ca
        obtain ⟨d0, d1, d2, d3, d4⟩ := HT3.out.cb
        clear h1
        go_wp2_with fail
        refine (name_Equal _ _ _ _ _ (HA.out.ext HT3.out.ext).ho (HB.out.ext HT3.out.ext).ho FA.out.1 FB.out.1).mono ?_
        rintro e w4 ⟨rfl, h1⟩
        have HT4 := Lib.hid (HT3.out.step h1)
        generalize neq a.host b.host = β at *
        cases β
        · clear h1
          go_wp2
          go_ret
          exact ⟨by rw [HM.out]; rfl, HT4.out.ext⟩
        · obtain ⟨c0, c1, c2, c3, c4⟩ := HT4.out.ca
          obtain ⟨d0, d1, d2, d3, d4⟩ := HT4.out.cb
          clear h1
          go_wp2_with fail
          refine (name_Equal _ _ _ _ _ (HA.out.ext HT4.out.ext).ma (HB.out.ext HT4.out.ext).ma FA.out.2 FB.out.2).mono ?_
          rintro e w5 ⟨rfl, h1⟩
          have HT5 := Lib.hid (HT4.out.step h1)
          go_wp2
          go_ret
          exact ⟨by rw [HM.out]; rfl, HT5.out.ext⟩
set_option maxRecDepth 100000 in
/-- rref_Same. -/
theorem rref_Same (a b : Dat) (a0 a1 a2 a3 a4 b0 b1 b2 b3 b4 : Value) (w : World) (ha : DR w a0 a1 a2 a3 a4 a) (hb : DR w b0 b1 b2 b3 b4 b) (fa : DFit a) (fb : DFit b) :
    Calls Try.prog 29 #[.agg #[a0, a1, a2, a3, a4], .agg #[b0, b1, b2, b3, b4]] w fun e w' => e = .returned (.bool (dsame a b)) ∧ Ext w w' := by
  have HM := Lib.hid (show dsame a b = (decide (a.bytes = b.bytes) && (decide (a.nums = b.nums) && (decide (a.texts = b.texts) && (neq a.host b.host && neq a.mail b.mail)))) from rfl)
  have HA := Lib.hid ha
  have HB := Lib.hid hb
  have FA := Lib.hid fa
  have FB := Lib.hid fb
  have HT := Lib.hid (two_start w a0 a1 a2 a3 a4 b0 b1 b2 b3 b4)
  clear ha hb fa fb
  go_enter Try.func29, Try.ntmps29
  go_wp2_with fail
  refine (ref_Same _ _ _ _ _ (HA.out.ext HT.out.ext).by_ (HB.out.ext HT.out.ext).by_).mono ?_
  rintro e w1 ⟨rfl, h1⟩
  have HT1 := Lib.hid (HT.out.step h1.ext)
  generalize decide (a.bytes = b.bytes) = β at *
  cases β
  · clear h1
    go_wp2
    go_ret
    exact ⟨by rw [HM.out]; rfl, HT1.out.ext⟩
  · obtain ⟨c0, c1, c2, c3, c4⟩ := HT1.out.ca
    obtain ⟨d0, d1, d2, d3, d4⟩ := HT1.out.cb
    clear h1
    go_wp2_with fail
    refine (ref_Ints _ _ _ _ _ (HA.out.ext HT1.out.ext).nu (HB.out.ext HT1.out.ext).nu).mono ?_
    rintro e w2 ⟨rfl, h1⟩
    have HT2 := Lib.hid (HT1.out.step h1.ext)
    generalize decide (a.nums = b.nums) = β at *
    cases β
    · clear h1
      go_wp2
      go_ret
      exact ⟨by rw [HM.out]; rfl, HT2.out.ext⟩
    · obtain ⟨c0, c1, c2, c3, c4⟩ := HT2.out.ca
      obtain ⟨d0, d1, d2, d3, d4⟩ := HT2.out.cb
      clear h1
      go_wp2_with fail
      refine (ref_texts _ _ _ _ _ (HA.out.ext HT2.out.ext).tx (HB.out.ext HT2.out.ext).tx).mono ?_
      rintro e w3 ⟨rfl, h1⟩
      have HT3 := Lib.hid (HT2.out.step h1.ext)
      generalize decide (a.texts = b.texts) = β at *
      cases β
      · clear h1
        go_wp2
        go_ret
        exact ⟨by rw [HM.out]; rfl, HT3.out.ext⟩
      · obtain ⟨c0, c1, c2, c3, c4⟩ := HT3.out.ca
        obtain ⟨d0, d1, d2, d3, d4⟩ := HT3.out.cb
        clear h1
        go_wp2_with fail
        refine (ref_Equal _ _ _ _ _ (HA.out.ext HT3.out.ext).ho (HB.out.ext HT3.out.ext).ho FA.out.1 FB.out.1).mono ?_
        rintro e w4 ⟨rfl, h1⟩
        have HT4 := Lib.hid (HT3.out.step h1)
        generalize neq a.host b.host = β at *
        cases β
        · clear h1
          go_wp2
          go_ret
          exact ⟨by rw [HM.out]; rfl, HT4.out.ext⟩
        · obtain ⟨c0, c1, c2, c3, c4⟩ := HT4.out.ca
          obtain ⟨d0, d1, d2, d3, d4⟩ := HT4.out.cb
          clear h1
          go_wp2_with fail
          refine (ref_Equal _ _ _ _ _ (HA.out.ext HT4.out.ext).ma (HB.out.ext HT4.out.ext).ma FA.out.2 FB.out.2).mono ?_
          rintro e w5 ⟨rfl, h1⟩
          have HT5 := Lib.hid (HT4.out.step h1)
          go_wp2
          go_ret
          exact ⟨by rw [HM.out]; rfl, HT5.out.ext⟩
end Go.Proofs.Ytfnelkcllaaebaa
