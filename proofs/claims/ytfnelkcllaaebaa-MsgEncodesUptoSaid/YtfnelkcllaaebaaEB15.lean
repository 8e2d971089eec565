/- Parts of one proof, joined: Open, Open2. Conditions: those that each theorem states. -/
import Derived.Test.YtfnelkcllaaebaaEB8
import Derived.Test.YtfnelkcllaaebaaEB12
import Derived.ProofKit
import Derived.OpenShut
import Derived.Lib.SmallJoins
import Derived.Deep.Slices
section
/- Arguments opened: slices of bytes, strings and integers, and Data by value. No condition. -/
open Go.RowKit Go.ChangeShapes Go.WideShapes Go.ChangeAt
set_option linter.unusedVariables false
set_option linter.unusedSimpArgs false
namespace Go.Proofs.Ytfnelkcllaaebaa
section
variable {H : Type} {enc : TypeId × Value → H} {w : World} {base : Nat} {spare : Nat → Bool} {held : Bool}
theorem spot_none {w : World} {a : Addr} {v : Value} (h : w.cell? (a.add 0) = some v) : a = ⟨a.block, a.off, none⟩ := by
  have : a.add 0 = a := rfl
  rw [this] at h
  obtain ⟨b, o, s⟩ := a
  cases s with
  | none => rfl
  | some s =>
    unfold World.cell? at h
    split at h <;> simp at h
theorem add_lit (b o j : Nat) : (⟨b, o, none⟩ : Addr).add j = ⟨b, o + j, none⟩ := by unfold Addr.add; split <;> simp_all
theorem open_names {n : Nat} {v : Value} {y : DataW H × List MemPlace} (h : DataW.trod enc Try.prog w base spare held n 23 [v] = some y) : ∃ l, NameV w v l ∧ ∀ x ∈ l, x.size ≤ maxI := by
  rcases Deep.open_strs Try.underlying23 Try.underlying9 (by kernel_rfl) h with ⟨hv, _⟩ | ⟨a, len, cap, m, Sx, hv, _, hl, hm, hmm, _, hc⟩
  · injection hv with hv
    exact ⟨[], by rw [hv]; exact Fl.nil _ _, by simp⟩
  · injection hv with hv
    have hlm : len ≤ m := by rw [hmm]; split <;> omega
    refine ⟨(List.range len).map Sx, ?_, ?_⟩
    · rw [hv]
      refine ⟨some a, cap, by simp, by simpa using hl, by simpa [maxLen] using hm, fun h0 => ?_⟩
      simp only [List.length_map, List.length_range] at h0
      have e := spot_none (hc 0 (by omega)).1
      refine ⟨a.block, a.off, by rw [← e], fun j x hj => ?_⟩
      rw [List.getElem?_map] at hj
      cases hr : (List.range len)[j]? with
      | none => rw [hr] at hj; cases hj
      | some i =>
        rw [hr] at hj
        obtain ⟨hjl, hji⟩ := List.getElem?_eq_some_iff.1 hr
        simp only [List.length_range] at hjl
        rw [List.getElem_range] at hji
        subst hji
        injection hj with hj
        rw [← hj, ← add_lit, ← e]
        exact (hc j (by omega)).1
    · intro x hx
      obtain ⟨i, hi, rfl⟩ := List.mem_map.1 hx
      have := (hc i (by have := List.mem_range.1 hi; omega)).2
      simpa [maxLen] using this
theorem open_ints_any {k : IntKind} {t e : TypeId} (ht : Try.prog.underlying t = some (.slice e)) (he : Try.prog.underlying e = some (.int k)) (hc1 : Try.prog.cellsOf e = 1) {n : Nat} {v : Value} {y : DataW H × List MemPlace} (h : DataW.trod enc Try.prog w base spare held n t [v] = some y) :
    ∃ l : List Int, Fl (fun i => Value.int k i) w v l ∧ ∀ x ∈ l, (Lit.int k x).wf = true := by
  rcases ChangeShapes.open_ints ht he hc1 h with ⟨hv, _⟩ | ⟨a, len, cap, zs, hv, _, hl, hm, hz, _, hc, hw⟩
  · injection hv with hv
    exact ⟨[], by rw [hv]; exact Fl.nil _ _, by simp⟩
  · injection hv with hv
    have hlm : len ≤ zs.length := by rw [hz]; split <;> omega
    refine ⟨zs.take len, ?_, fun x hx => hw x (List.mem_of_mem_take hx)⟩
    rw [hv]
    have hlen : (zs.take len).length = len := by rw [List.length_take]; omega
    refine ⟨some a, cap, by rw [hlen], by rw [hlen]; exact hl, by simpa [maxLen] using hm, fun h0 => ?_⟩
    rw [hlen] at h0
    have e := spot_none (hc 0 (by omega))
    refine ⟨a.block, a.off, by rw [← e], fun j x hj => ?_⟩
    obtain ⟨hjl, hji⟩ := List.getElem?_eq_some_iff.1 hj
    rw [hlen] at hjl
    rw [List.getElem_take] at hji
    rw [← add_lit, ← e, hc j (by omega), List.getD_eq_getElem?_getD, List.getElem?_eq_getElem (by omega), hji]
    rfl
theorem open_intsv {n : Nat} {v : Value} {y : DataW H × List MemPlace} (h : DataW.trod enc Try.prog w base spare held n 24 [v] = some y) : ∃ l, IntsV w v l ∧ ∀ x ∈ l, (Lit.int .i64 x).wf = true :=
  open_ints_any (k := .i64) Try.underlying24 Try.underlying3 (by kernel_rfl) h
theorem open_bytesv {n : Nat} {v : Value} {y : DataW H × List MemPlace} (h : DataW.trod enc Try.prog w base spare held n 22 [v] = some y) : ∃ l, BytesV w v l := by
  obtain ⟨l, ⟨A, c, hv, h1, h2, h3⟩, hw⟩ := open_ints_any (k := .u8) Try.underlying22 Try.underlying5 (by kernel_rfl) h
  refine ⟨l.map fun x => UInt8.ofNat x.toNat, A, c, by simpa using hv, by simpa using h1, h2, fun h0 => ?_⟩
  obtain ⟨b, o, rfl, hc⟩ := h3 (by simpa using h0)
  refine ⟨b, o, rfl, fun j x hj => ?_⟩
  rw [List.getElem?_map] at hj
  cases hr : l[j]? with
  | none => rw [hr] at hj; cases hj
  | some i =>
    rw [hr] at hj
    injection hj with hj
    have hwi := hw i (List.mem_of_getElem? hr)
    simp [Lit.wf, IntKind.min, IntKind.max, IntKind.signed, IntKind.bits] at hwi
    rw [hc j i hr, ← hj, vByte]
    have e9 : (UInt8.ofNat i.toNat).toNat = i.toNat := by simp [UInt8.toNat_ofNat']; omega
    have : ((UInt8.ofNat i.toNat).toNat : Int) = i := by rw [e9]; omega
    rw [this]
theorem trod_struct5 {P : Program} {t : TypeId} {f0 f1 f2 f3 f4 : Field} {fuel : Nat} {cs : List Value} {x : DataW H × List MemPlace} (ht : P.underlying t = some (.struct #[f0, f1, f2, f3, f4])) (h : DataW.trod enc P w base spare held fuel t cs = some x) :
    ∃ y0 y1 y2 y3 y4 n, cs.length = P.cellsOf t ∧ DataW.trod enc P w base spare held n f0.type ((cs.drop f0.offset).take (P.cellsOf f0.type)) = some y0 ∧
      DataW.trod enc P w base spare held n f1.type ((cs.drop f1.offset).take (P.cellsOf f1.type)) = some y1 ∧ DataW.trod enc P w base spare held n f2.type ((cs.drop f2.offset).take (P.cellsOf f2.type)) = some y2 ∧
      DataW.trod enc P w base spare held n f3.type ((cs.drop f3.offset).take (P.cellsOf f3.type)) = some y3 ∧ DataW.trod enc P w base spare held n f4.type ((cs.drop f4.offset).take (P.cellsOf f4.type)) = some y4 := by
  obtain ⟨xs, n, _, rfl, hl, hlen, hf⟩ := DataW.trod_struct ht h
  match xs, hlen with
  | [y0, y1, y2, y3, y4], _ => exact ⟨y0, y1, y2, y3, y4, n, hl, by simpa using hf 0 f0 rfl, by simpa using hf 1 f1 rfl, by simpa using hf 2 f2 rfl, by simpa using hf 3 f3 rfl, by simpa using hf 4 f4 rfl⟩
/-- What an integer list read from an argument holds. -/
def IntsOk (l : List Int) : Prop := ∀ x ∈ l, (Lit.int .i64 x).wf = true
theorem cells22 : Try.prog.cellsOf 22 = 1 := by kernel_rfl
theorem cells23 : Try.prog.cellsOf 23 = 1 := by kernel_rfl
theorem cells24 : Try.prog.cellsOf 24 = 1 := by kernel_rfl
theorem cells26 : Try.prog.cellsOf 26 = 5 := by kernel_rfl

/-- The cells of a Data, wherever they lie. -/
theorem open_data_cells {fuel : Nat} {c0 c1 c2 c3 c4 : Value} {x : DataW H × List MemPlace} (h : DataW.trod enc Try.prog w base spare held fuel 26 [c0, c1, c2, c3, c4] = some x) :
    ∃ d : Dat, DR w c0 c1 c2 c3 c4 d ∧ DFit d ∧ Fits d.texts ∧ IntsOk d.nums := by
  obtain ⟨y0, y1, y2, y3, y4, n, _, h0, h1, h2, h3, h4⟩ := trod_struct5 Try.underlying26 h
  simp only [cells22, cells23, cells24, List.drop, List.take] at h0 h1 h2 h3 h4
  obtain ⟨l0, r0⟩ := open_bytesv h0
  obtain ⟨l1, r1, s1⟩ := open_names h1
  obtain ⟨l2, r2, s2⟩ := open_names h2
  obtain ⟨l3, r3, s3⟩ := open_intsv h3
  obtain ⟨l4, r4, s4⟩ := open_names h4
  exact ⟨⟨l0, l1, l2, l3, l4⟩, ⟨r0, r1, r2, r3, r4⟩, ⟨s1, s2⟩, s4, s3⟩
theorem agg_of_cells {v : Value} {n : Nat} (h : v.cells.toList.length = n) (hn : n ≠ 1) : ∃ cs, v = .agg cs ∧ cs.size = n := by
  cases v
  case agg cs => exact ⟨cs, rfl, by simpa [Value.cells] using h⟩
  all_goals (simp [Value.cells] at h; omega)
end
end Go.Proofs.Ytfnelkcllaaebaa
end
section
/- Arguments opened: slices of Data, of records. No condition. -/
open Go.RowKit Go.ChangeShapes Go.WideShapes Go.ChangeAt
set_option linter.unusedVariables false
set_option linter.unusedSimpArgs false
namespace Go.Proofs.Ytfnelkcllaaebaa
section
variable {H : Type} {enc : TypeId × Value → H} {w : World} {base : Nat} {spare : Nat → Bool} {held : Bool}
/-- What a Data read from an argument holds besides. -/
def DOk (d : Dat) : Prop := DFit d ∧ Fits d.texts ∧ IntsOk d.nums
/-- What a record read from an argument holds besides. -/
def ROk (r : Rec) : Prop := Fits r.name ∧ DOk r.data ∧ (Lit.int .i64 r.type).wf = true ∧ (Lit.int .i64 r.cls).wf = true ∧ (Lit.int .i64 r.ttl).wf = true
theorem ROk.fit {r : Rec} (h : ROk r) : RFit r := ⟨h.1, h.2.1.1⟩
theorem list9 {α : Type} {cs : List α} (h : cs.length = 9) : ∃ c0 c1 c2 c3 c4 c5 c6 c7 c8, cs = [c0, c1, c2, c3, c4, c5, c6, c7, c8] := by
  match cs, h with
  | [c0, c1, c2, c3, c4, c5, c6, c7, c8], _ => exact ⟨c0, c1, c2, c3, c4, c5, c6, c7, c8, rfl⟩
theorem cells3 : Try.prog.cellsOf 3 = 1 := by kernel_rfl
theorem cells49 : Try.prog.cellsOf 49 = 9 := by kernel_rfl
theorem open_rec {n : Nat} {cs : List Value} {y : DataW H × List MemPlace} (hl : cs.length = 9) (h : DataW.trod enc Try.prog w base spare held n 49 cs = some y) : ∃ r, RecR w cs r ∧ ROk r := by
  obtain ⟨c0, c1, c2, c3, c4, c5, c6, c7, c8, rfl⟩ := list9 hl
  obtain ⟨y0, y1, y2, y3, y4, n, _, h0, h1, h2, h3, h4⟩ := trod_struct5 Try.underlying49 h
  simp only [cells23, cells3, cells26, List.drop, List.take] at h0 h1 h2 h3 h4
  obtain ⟨l0, r0, s0⟩ := open_names h0
  obtain ⟨i1, e1, _, w1⟩ := DataW.trod_int Try.underlying3 h1
  obtain ⟨i2, e2, _, w2⟩ := DataW.trod_int Try.underlying3 h2
  obtain ⟨i3, e3, _, w3⟩ := DataW.trod_int Try.underlying3 h3
  injection e1 with e1
  injection e2 with e2
  injection e3 with e3
  subst e1 e2 e3
  obtain ⟨d, hd, k1, k2, k3⟩ := open_data_cells h4
  exact ⟨⟨l0, i1, i2, i3, d⟩, ⟨_, _, _, _, _, _, rfl, r0, hd⟩, s0, ⟨k1, k2, k3⟩, w1, w2, w3⟩
end
end Go.Proofs.Ytfnelkcllaaebaa
end
