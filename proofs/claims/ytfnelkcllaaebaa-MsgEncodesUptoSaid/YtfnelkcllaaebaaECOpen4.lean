/- Parts of one proof, joined: Open4. Conditions: those that each theorem states. -/
import Derived.Test.YtfnelkcllaaebaaECOpen3
import Derived.Test.YtfnelkcllaaebaaEB28
import Derived.Test.YtfnelkcllaaebaaRows
section
/- Arguments opened: messages and what a question goes out by, with the bulk of what came in. No condition. -/
open Go.RowKit Go.ChangeShapes Go.WideShapes Go.ChangeAt
set_option linter.unusedVariables false
set_option linter.unusedSimpArgs false
namespace Go.Proofs.Ytfnelkcllaaebaa
theorem bulk_one {H : Type} (d : DataW H) : 1 ≤ Rows.uptoBulk d := by
  cases d with
  | lit l => cases l <;> simp [Rows.uptoBulk]
  | _ => simp [Rows.uptoBulk]
theorem bulk_part {H : Type} {d : DataW H} {l : List (DataW H)} (h : d ∈ l) : Rows.uptoBulk d ≤ Rows.uptoBulkAll l := by
  induction l with
  | nil => cases h
  | cons x r ih =>
    simp only [Rows.uptoBulkAll]
    rcases List.mem_cons.1 h with rfl | e
    · omega
    · have := ih e; omega
theorem bulk_len {H : Type} (l : List (DataW H)) : l.length ≤ Rows.uptoBulkAll l := by
  induction l with
  | nil => simp [Rows.uptoBulkAll]
  | cons x r ih => have := bulk_one x; simp only [Rows.uptoBulkAll, List.length_cons]; omega
theorem bulk_bound {H : Type} {l : List (DataW H)} (hk : Rows.uptoSmall H l = true) : Rows.uptoBulkAll l ≤ 1048576 := of_decide_eq_true hk
section
variable {H : Type} {enc : TypeId × Value → H} {w : World} {base : Nat} {spare : Nat → Bool} {held : Bool}
theorem bulk_slice {t e : TypeId} (ht : Try.prog.underlying t = some (.slice e)) {n : Nat} {A : Option Addr} {len cap : Nat} {y : DataW H × List MemPlace} (h : DataW.trod enc Try.prog w base spare held n t [.slice A len cap] = some y) : len ≤ Rows.uptoBulk y.1 := by
  rcases Deep.open_slice ht h with ⟨hv, rfl⟩ | ⟨a, len', cap', m, n', D, Pl, hv, _, _, _, _, rfl, _⟩
  · injection hv with hv
    injection hv with _ h1 _
    omega
  · injection hv with hv
    injection hv with _ h1 _
    have := bulk_len ((List.range len').map D)
    rw [List.length_map, List.length_range] at this
    simp only [Rows.uptoBulk]
    omega
theorem open_slb {α : Type} {R : World → List Value → α → Prop} {Ok : α → Prop} {Bk : α → Nat} {t e : TypeId} {sz : Nat} (ht : Try.prog.underlying t = some (.slice e)) (hsz : Try.prog.cellsOf e = sz) (hs0 : 0 < sz)
    (hR : ∀ (n : Nat) (cs : List Value) (y : DataW H × List MemPlace), cs.length = sz → DataW.trod enc Try.prog w base spare held n e cs = some y → ∃ x, R w cs x ∧ Ok x ∧ Bk x ≤ Rows.uptoBulk y.1)
    {n : Nat} {v : Value} {y : DataW H × List MemPlace} (h : DataW.trod enc Try.prog w base spare held n t [v] = some y) : ∃ l, Sl R sz w v l ∧ (∀ x ∈ l, Ok x ∧ Bk x ≤ Rows.uptoBulk y.1) ∧ l.length ≤ Rows.uptoBulk y.1 := by
  have hlen0 : ∀ {l : List α}, Sl R sz w v l → l.length ≤ Rows.uptoBulk y.1 := by
    intro l hl
    obtain ⟨A, c, rfl, _, _⟩ := hl.form
    exact bulk_slice ht h
  have key0 : ∃ l, Sl R sz w v l ∧ (∀ x ∈ l, Ok x ∧ Bk x ≤ Rows.uptoBulk y.1) := by
    rcases Deep.open_slice ht h with ⟨hv, _⟩ | ⟨a, len, cap, m, n', D, Pl, hv, _, hl, hm, hmm, hy, hc⟩
    · injection hv with hv
      exact ⟨[], by rw [hv]; exact Sl.nil _ _ _, by simp⟩
    · injection hv with hv
      subst hv
      have hlm : len ≤ m := by rw [hmm]; split <;> omega
      have hbk : ∀ k, k < len → Rows.uptoBulk (D k) ≤ Rows.uptoBulk y.1 := by
        intro k hk
        subst hy
        have := bulk_part (l := (List.range len).map D) (d := D k) (List.mem_map.2 ⟨k, List.mem_range.2 hk, rfl⟩)
        simp only [Rows.uptoBulk]
        omega
      have key : ∀ k, k ≤ len → ∃ l : List α, l.length = k ∧ ∀ j x, l[j]? = some x → (∃ cs : List Value, cs.length = sz ∧ R w cs x ∧ ∀ i u, cs[i]? = some u → w.cell? (a.add (j * sz) |>.add i) = some u) ∧ Ok x ∧ Bk x ≤ Rows.uptoBulk y.1 := by
        intro k
        induction k with
        | zero => intro _; exact ⟨[], rfl, by simp⟩
        | succ k ih =>
          intro hk
          obtain ⟨l, hlk, hl2⟩ := ih (by omega)
          obtain ⟨cs, hcs, htr⟩ := hc k (by omega)
          rw [hsz] at hcs
          obtain ⟨_, hlen, hcell⟩ := World.cells?_some hcs
          obtain ⟨x, hx, hok, hbx⟩ := hR _ cs _ hlen htr
          refine ⟨l ++ [x], by simp [hlk], fun j y hy => ?_⟩
          rcases Nat.lt_or_ge j k with hj | hj
          · rw [List.getElem?_append_left (by omega)] at hy
            exact hl2 j y hy
          · rw [List.getElem?_append_right (by omega), hlk] at hy
            have hjk : j = k := by
              rcases Nat.lt_or_ge k j with h9 | h9
              · rw [List.getElem?_eq_none (by simp; omega)] at hy; cases hy
              · omega
            subst hjk
            simp at hy
            subst hy
            refine ⟨⟨cs, hlen, hx, fun i u hu => ?_⟩, hok, Nat.le_trans hbx (hbk j (by omega))⟩
            rw [hcell i (by have := (List.getElem?_eq_some_iff.1 hu).1; omega), hu]
      obtain ⟨l, hlen, hl2⟩ := key len (Nat.le_refl _)
      refine ⟨l, ⟨some a, cap, by rw [hlen], by omega, by simpa [maxLen] using hm, fun h0 => ?_⟩, fun x hx => ?_⟩
      · have hx := List.getElem?_eq_getElem h0
        obtain ⟨⟨cs, hcl, _, hcell⟩, _⟩ := hl2 0 _ hx
        have h00 := hcell 0 _ (List.getElem?_eq_getElem (by omega))
        rw [Nat.zero_mul] at h00
        have e0 : a.add 0 = a := rfl
        rw [e0] at h00
        have e := spot_none h00
        refine ⟨a.block, a.off, by rw [← e], fun j x hj => ?_⟩
        obtain ⟨⟨cs', h1, h2, h3⟩, _⟩ := hl2 j x hj
        refine ⟨cs', h1, h2, fun i u hu => ?_⟩
        have := h3 i u hu
        rw [e, add_lit, add_lit] at this
        rw [← Nat.add_assoc]; exact this
      · obtain ⟨j, hj, rfl⟩ := List.mem_iff_getElem.1 hx
        exact (hl2 j _ (List.getElem?_eq_getElem hj)).2
  obtain ⟨l, h1, h2⟩ := key0
  exact ⟨l, h1, h2, hlen0 h1⟩
theorem trod_st5 {P : Program} {t : TypeId} {f0 f1 f2 f3 f4 : Field} {fuel : Nat} {cs : List Value} {x : DataW H × List MemPlace} (ht : P.underlying t = some (.struct #[f0, f1, f2, f3, f4])) (h : DataW.trod enc P w base spare held fuel t cs = some x) :
    ∃ y0 y1 y2 y3 y4 n, x.1 = .agg [y0.1, y1.1, y2.1, y3.1, y4.1] ∧ DataW.trod enc P w base spare held n f0.type ((cs.drop f0.offset).take (P.cellsOf f0.type)) = some y0 ∧ DataW.trod enc P w base spare held n f1.type ((cs.drop f1.offset).take (P.cellsOf f1.type)) = some y1 ∧ DataW.trod enc P w base spare held n f2.type ((cs.drop f2.offset).take (P.cellsOf f2.type)) = some y2 ∧ DataW.trod enc P w base spare held n f3.type ((cs.drop f3.offset).take (P.cellsOf f3.type)) = some y3 ∧ DataW.trod enc P w base spare held n f4.type ((cs.drop f4.offset).take (P.cellsOf f4.type)) = some y4 := by
  obtain ⟨xs, n, _, rfl, hl, hlen, hf⟩ := DataW.trod_struct ht h
  match xs, hlen with
  | [y0, y1, y2, y3, y4], _ => exact ⟨y0, y1, y2, y3, y4, n, rfl, by simpa using hf 0 f0 rfl, by simpa using hf 1 f1 rfl, by simpa using hf 2 f2 rfl, by simpa using hf 3 f3 rfl, by simpa using hf 4 f4 rfl⟩
theorem trod_st14 {P : Program} {t : TypeId} {f0 f1 f2 f3 f4 f5 f6 f7 f8 f9 f10 f11 f12 f13 : Field} {fuel : Nat} {cs : List Value} {x : DataW H × List MemPlace} (ht : P.underlying t = some (.struct #[f0, f1, f2, f3, f4, f5, f6, f7, f8, f9, f10, f11, f12, f13])) (h : DataW.trod enc P w base spare held fuel t cs = some x) :
    ∃ y0 y1 y2 y3 y4 y5 y6 y7 y8 y9 y10 y11 y12 y13 n, x.1 = .agg [y0.1, y1.1, y2.1, y3.1, y4.1, y5.1, y6.1, y7.1, y8.1, y9.1, y10.1, y11.1, y12.1, y13.1] ∧ DataW.trod enc P w base spare held n f0.type ((cs.drop f0.offset).take (P.cellsOf f0.type)) = some y0 ∧ DataW.trod enc P w base spare held n f1.type ((cs.drop f1.offset).take (P.cellsOf f1.type)) = some y1 ∧ DataW.trod enc P w base spare held n f2.type ((cs.drop f2.offset).take (P.cellsOf f2.type)) = some y2 ∧ DataW.trod enc P w base spare held n f3.type ((cs.drop f3.offset).take (P.cellsOf f3.type)) = some y3 ∧ DataW.trod enc P w base spare held n f4.type ((cs.drop f4.offset).take (P.cellsOf f4.type)) = some y4 ∧ DataW.trod enc P w base spare held n f5.type ((cs.drop f5.offset).take (P.cellsOf f5.type)) = some y5 ∧ DataW.trod enc P w base spare held n f6.type ((cs.drop f6.offset).take (P.cellsOf f6.type)) = some y6 ∧ DataW.trod enc P w base spare held n f7.type ((cs.drop f7.offset).take (P.cellsOf f7.type)) = some y7 ∧ DataW.trod enc P w base spare held n f8.type ((cs.drop f8.offset).take (P.cellsOf f8.type)) = some y8 ∧ DataW.trod enc P w base spare held n f9.type ((cs.drop f9.offset).take (P.cellsOf f9.type)) = some y9 ∧ DataW.trod enc P w base spare held n f10.type ((cs.drop f10.offset).take (P.cellsOf f10.type)) = some y10 ∧ DataW.trod enc P w base spare held n f11.type ((cs.drop f11.offset).take (P.cellsOf f11.type)) = some y11 ∧ DataW.trod enc P w base spare held n f12.type ((cs.drop f12.offset).take (P.cellsOf f12.type)) = some y12 ∧ DataW.trod enc P w base spare held n f13.type ((cs.drop f13.offset).take (P.cellsOf f13.type)) = some y13 := by
  obtain ⟨xs, n, _, rfl, hl, hlen, hf⟩ := DataW.trod_struct ht h
  match xs, hlen with
  | [y0, y1, y2, y3, y4, y5, y6, y7, y8, y9, y10, y11, y12, y13], _ => exact ⟨y0, y1, y2, y3, y4, y5, y6, y7, y8, y9, y10, y11, y12, y13, n, rfl, by simpa using hf 0 f0 rfl, by simpa using hf 1 f1 rfl, by simpa using hf 2 f2 rfl, by simpa using hf 3 f3 rfl, by simpa using hf 4 f4 rfl, by simpa using hf 5 f5 rfl, by simpa using hf 6 f6 rfl, by simpa using hf 7 f7 rfl, by simpa using hf 8 f8 rfl, by simpa using hf 9 f9 rfl, by simpa using hf 10 f10 rfl, by simpa using hf 11 f11 rfl, by simpa using hf 12 f12 rfl, by simpa using hf 13 f13 rfl⟩
theorem bulk_agg {d : DataW H} {parts : List (DataW H)} (h : d ∈ parts) : Rows.uptoBulk d ≤ Rows.uptoBulk (DataW.agg parts) := by
  have := bulk_part h
  simp only [Rows.uptoBulk]
  omega
theorem open_recb {n : Nat} {cs : List Value} {y : DataW H × List MemPlace} (hl : cs.length = 9) (h : DataW.trod enc Try.prog w base spare held n 49 cs = some y) : ∃ r, RecR w cs r ∧ ROk r ∧ r.data.bytes.length ≤ Rows.uptoBulk y.1 := by
  obtain ⟨r, ⟨vn, v0, v1, v2, v3, v4, rfl, hn, hd⟩, hok⟩ := open_rec hl h
  refine ⟨r, ⟨_, _, _, _, _, _, rfl, hn, hd⟩, hok, ?_⟩
  obtain ⟨x0, x1, x2, x3, x4, m, e, _, _, _, _, h4⟩ := trod_st5 Try.underlying49 h
  simp only [cells26, List.drop, List.take] at h4
  obtain ⟨z0, z1, z2, z3, z4, m, e4, h0, _⟩ := trod_st5 Try.underlying26 h4
  simp only [cells22, List.drop, List.take] at h0
  obtain ⟨A, c, rfl, _, _⟩ := hd.by_.form
  rw [e]
  refine Nat.le_trans (Nat.le_trans (bulk_slice Try.underlying22 h0) ?_) (bulk_agg (d := x4.1) (by simp))
  rw [e4]
  exact bulk_agg (by simp)
theorem open_recsb {n : Nat} {v : Value} {y : DataW H × List MemPlace} (h : DataW.trod enc Try.prog w base spare held n 37 [v] = some y) : ∃ l, RecsV w v l ∧ (∀ r ∈ l, ROk r ∧ r.data.bytes.length ≤ Rows.uptoBulk y.1) ∧ l.length ≤ Rows.uptoBulk y.1 :=
  open_slb (Bk := fun r : Rec => r.data.bytes.length) Try.underlying37 cells49 (by decide) (fun _ _ _ hl h => open_recb hl h) h
theorem open_qsb {n : Nat} {v : Value} {y : DataW H × List MemPlace} (h : DataW.trod enc Try.prog w base spare held n 36 [v] = some y) : ∃ l, QsV w v l ∧ (∀ q ∈ l, QOk q) ∧ l.length ≤ Rows.uptoBulk y.1 := by
  obtain ⟨l, h1, h2, h3⟩ := open_slb (Bk := fun _ : Qst => 0) Try.underlying36 cells46 (by decide) (fun _ _ _ hl h => by obtain ⟨q, h1, h2⟩ := open_qst hl h; exact ⟨q, h1, h2, Nat.zero_le _⟩) h
  exact ⟨l, h1, fun q hq => (h2 q hq).1, h3⟩
/-- A message's size in memory. -/
structure MBulk (m : Msg) (B : Nat) : Prop where
  lq : m.qs.length ≤ B
  la : m.ans.length ≤ B
  lu : m.auth.length ≤ B
  le : m.extra.length ≤ B
  by_ : ∀ r ∈ m.ans ++ m.auth ++ m.extra, r.data.bytes.length ≤ B
theorem cells4 : Try.prog.cellsOf 4 = 1 := by kernel_rfl
theorem cells36 : Try.prog.cellsOf 36 = 1 := by kernel_rfl
theorem cells37 : Try.prog.cellsOf 37 = 1 := by kernel_rfl
theorem cells39 : Try.prog.cellsOf 39 = 14 := by kernel_rfl
theorem list14 {α : Type} {cs : List α} (h : cs.length = 14) : ∃ c0 c1 c2 c3 c4 c5 c6 c7 c8 c9 c10 c11 c12 c13, cs = [c0, c1, c2, c3, c4, c5, c6, c7, c8, c9, c10, c11, c12, c13] := by
  match cs, h with
  | [c0, c1, c2, c3, c4, c5, c6, c7, c8, c9, c10, c11, c12, c13], _ => exact ⟨c0, c1, c2, c3, c4, c5, c6, c7, c8, c9, c10, c11, c12, c13, rfl⟩
theorem array14 {α : Type} {cs : Array α} (h : cs.size = 14) : ∃ c0 c1 c2 c3 c4 c5 c6 c7 c8 c9 c10 c11 c12 c13, cs = #[c0, c1, c2, c3, c4, c5, c6, c7, c8, c9, c10, c11, c12, c13] := by
  obtain ⟨l⟩ := cs
  obtain ⟨c0, c1, c2, c3, c4, c5, c6, c7, c8, c9, c10, c11, c12, c13, rfl⟩ := list14 (cs := l) h
  exact ⟨c0, c1, c2, c3, c4, c5, c6, c7, c8, c9, c10, c11, c12, c13, rfl⟩
set_option maxRecDepth 100000 in
theorem open_msg_cells {n : Nat} {c0 c1 c2 c3 c4 c5 c6 c7 c8 c9 c10 c11 c12 c13 : Value} {y : DataW H × List MemPlace} (h : DataW.trod enc Try.prog w base spare held n 39 [c0, c1, c2, c3, c4, c5, c6, c7, c8, c9, c10, c11, c12, c13] = some y) :
    ∃ m : Msg, [c0, c1, c2, c3, c4, c5, c6, c7, c8, c9, c10, c11, c12, c13] = [.int .i64 m.id, .bool m.resp, .int .i64 m.op, .bool m.aa, .bool m.tc, .bool m.rd, .bool m.ra, .int .i64 m.rc, c8, c9, c10, c11, .bool m.edns, .int .i64 m.size] ∧ MsgC w c8 c9 c10 c11 m ∧ MOk m ∧ MBulk m (Rows.uptoBulk y.1) := by
  obtain ⟨y0, y1, y2, y3, y4, y5, y6, y7, y8, y9, y10, y11, y12, y13, n, ey, h0, h1, h2, h3, h4, h5, h6, h7, h8, h9, h10, h11, h12, h13⟩ := trod_st14 Try.underlying39 h
  simp only [cells3, List.drop, List.take] at h0
  obtain ⟨i0, e0, _, w0⟩ := DataW.trod_int Try.underlying3 h0
  injection e0 with e0
  subst e0
  simp only [cells4, List.drop, List.take] at h1
  obtain ⟨i1, e1, _⟩ := DataW.trod_bool Try.underlying4 h1
  injection e1 with e1
  subst e1
  simp only [cells3, List.drop, List.take] at h2
  obtain ⟨i2, e2, _, w2⟩ := DataW.trod_int Try.underlying3 h2
  injection e2 with e2
  subst e2
  simp only [cells4, List.drop, List.take] at h3
  obtain ⟨i3, e3, _⟩ := DataW.trod_bool Try.underlying4 h3
  injection e3 with e3
  subst e3
  simp only [cells4, List.drop, List.take] at h4
  obtain ⟨i4, e4, _⟩ := DataW.trod_bool Try.underlying4 h4
  injection e4 with e4
  subst e4
  simp only [cells4, List.drop, List.take] at h5
  obtain ⟨i5, e5, _⟩ := DataW.trod_bool Try.underlying4 h5
  injection e5 with e5
  subst e5
  simp only [cells4, List.drop, List.take] at h6
  obtain ⟨i6, e6, _⟩ := DataW.trod_bool Try.underlying4 h6
  injection e6 with e6
  subst e6
  simp only [cells3, List.drop, List.take] at h7
  obtain ⟨i7, e7, _, w7⟩ := DataW.trod_int Try.underlying3 h7
  injection e7 with e7
  subst e7
  simp only [cells36, List.drop, List.take] at h8
  obtain ⟨l8, r8, k8, b8⟩ := open_qsb (y := y8) h8
  simp only [cells37, List.drop, List.take] at h9
  obtain ⟨l9, r9, k9, b9⟩ := open_recsb (y := y9) h9
  simp only [cells37, List.drop, List.take] at h10
  obtain ⟨l10, r10, k10, b10⟩ := open_recsb (y := y10) h10
  simp only [cells37, List.drop, List.take] at h11
  obtain ⟨l11, r11, k11, b11⟩ := open_recsb (y := y11) h11
  simp only [cells4, List.drop, List.take] at h12
  obtain ⟨i12, e12, _⟩ := DataW.trod_bool Try.underlying4 h12
  injection e12 with e12
  subst e12
  simp only [cells3, List.drop, List.take] at h13
  obtain ⟨i13, e13, _, w13⟩ := DataW.trod_int Try.underlying3 h13
  injection e13 with e13
  subst e13
  have B8 : Rows.uptoBulk y8.1 ≤ Rows.uptoBulk y.1 := by rw [ey]; exact bulk_agg (by simp)
  have B9 : Rows.uptoBulk y9.1 ≤ Rows.uptoBulk y.1 := by rw [ey]; exact bulk_agg (by simp)
  have B10 : Rows.uptoBulk y10.1 ≤ Rows.uptoBulk y.1 := by rw [ey]; exact bulk_agg (by simp)
  have B11 : Rows.uptoBulk y11.1 ≤ Rows.uptoBulk y.1 := by rw [ey]; exact bulk_agg (by simp)
  refine ⟨⟨i0, i1, i2, i3, i4, i5, i6, i7, l8, l9, l10, l11, i12, i13⟩, rfl, ⟨r8, r9, r10, r11⟩, ⟨k8, fun r hr => (k9 r hr).1, fun r hr => (k10 r hr).1, fun r hr => (k11 r hr).1, w0, w2, w7, w13⟩, ⟨Nat.le_trans b8 B8, Nat.le_trans b9 B9, Nat.le_trans b10 B10, Nat.le_trans b11 B11, fun r hr => ?_⟩⟩
  rcases List.mem_append.1 hr with hr | hr
  · rcases List.mem_append.1 hr with hr | hr
    · exact Nat.le_trans (k9 r hr).2 B9
    · exact Nat.le_trans (k10 r hr).2 B10
  · exact Nat.le_trans (k11 r hr).2 B11
theorem MBulk.byt {m : Msg} {B : Nat} (h : MBulk m B) (hB : B ≤ 1048576) : ∀ r ∈ m.ans ++ m.auth ++ m.extra, r.data.bytes.length ≤ 140737488355328 := fun r hr => Nat.le_trans (h.by_ r hr) (by omega)
theorem MBulk.room {m : Msg} {B : Nat} (h : MBulk m B) (hB : B ≤ 1048576) : ∀ l, l = m.ans ++ m.auth ++ m.extra → l.length * 168 ≤ 140737488355328 := by
  rintro l rfl
  have h1 := h.la; have h2 := h.lu; have h3 := h.le
  simp only [List.length_append]
  omega
theorem open_msg {v : Value} {d : DataW H} {p : List MemPlace} (h : DataW.Trod enc Try.prog w base spare held 39 v d p) :
    ∃ (m : Msg) (vq va vu ve : Value), v = .agg #[.int .i64 m.id, .bool m.resp, .int .i64 m.op, .bool m.aa, .bool m.tc, .bool m.rd, .bool m.ra, .int .i64 m.rc, vq, va, vu, ve, .bool m.edns, .int .i64 m.size] ∧ MsgC w vq va vu ve m ∧ MOk m ∧ MBulk m (Rows.uptoBulk d) := by
  obtain ⟨fuel, hf⟩ := h
  have hf0 := hf
  obtain ⟨_, _, _, _, hl, _, _⟩ := DataW.trod_struct Try.underlying39 hf0
  rw [cells39] at hl
  obtain ⟨cs, rfl, hsz⟩ := agg_of_cells hl (by decide)
  obtain ⟨c0, c1, c2, c3, c4, c5, c6, c7, c8, c9, c10, c11, c12, c13, rfl⟩ := array14 hsz
  have e : (Value.agg #[c0, c1, c2, c3, c4, c5, c6, c7, c8, c9, c10, c11, c12, c13]).cells.toList = [c0, c1, c2, c3, c4, c5, c6, c7, c8, c9, c10, c11, c12, c13] := rfl
  rw [e] at hf
  obtain ⟨m, e2, hm, hk, hb⟩ := open_msg_cells hf
  simp only [List.cons.injEq, and_true, true_and] at e2
  obtain ⟨rfl, rfl, rfl, rfl, rfl, rfl, rfl, rfl, rfl, rfl⟩ := e2
  exact ⟨m, c8, c9, c10, c11, rfl, hm, hk, hb⟩
end
end Go.Proofs.Ytfnelkcllaaebaa
end
