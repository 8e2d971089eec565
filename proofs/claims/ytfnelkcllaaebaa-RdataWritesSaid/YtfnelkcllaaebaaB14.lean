/- Parts of one proof, joined: RrGet, Ans5. Conditions: those that each theorem states. -/
import Derived.Test.YtfnelkcllaaebaaB12
import Derived.Test.YtfnelkcllaaebaaB13
import Derived.Test.YtfnelkcllaaebaaB8
section
/- Contract of rr.Get. No condition but that the bytes read as a list, and their number. -/
open Go.RowKit
set_option linter.unusedVariables false
set_option linter.unusedSimpArgs false
namespace Go.Proofs.Ytfnelkcllaaebaa
theorem getNm_le (l : List UInt8) : ∀ (a g s x : Nat) (n : List Str), (getNm l a g s x n).2.2 = 0 → x ≤ l.length → (getNm l a g s x n).2.1 ≤ (l.length : Int) := by
  intro a g s x n
  induction a, g, s, x, n using getNm.induct (b := l) with
  | case1 a g s x n h => intro h0 hx; rw [getNm_end h] at h0; simp at h0
  | case2 a g s x n c h hc => intro h0 hx; rw [getNm_zero h hc] at h0 ⊢; have := (List.getElem?_eq_some_iff.1 h).1; simp only; omega
  | case3 a g s x n c h hc h1 h2 => intro h0 hx; rw [getNm_ptr_end h h1 h2] at h0; simp at h0
  | case4 a g s x n c h hc h1 d h2 hg => intro h0 hx; rw [getNm_ptr_loop h h1 h2 hg] at h0; simp at h0
  | case5 a g s x n c h hc h1 d h2 hg ih =>
    intro h0 hx
    rw [getNm_ptr h h1 h2 (by omega)] at h0 ⊢
    have := (List.getElem?_eq_some_iff.1 h2).1
    exact ih h0 (by omega)
  | case6 a g s x n c h hc h1 h2 => intro h0 hx; rw [getNm_bad h (by omega) h2] at h0; simp at h0
  | case7 a g s x n c h hc h1 h2 h3 => intro h0 hx; rw [getNm_short h hc (by omega) h3] at h0; simp at h0
  | case8 a g s x n c h hc h1 h2 h3 h4 => intro h0 hx; rw [getNm_long h hc (by omega) (by omega) h4] at h0; simp at h0
  | case9 a g s x n c h hc h1 h2 h3 h4 ih => intro h0 hx; rw [getNm_label h hc (by omega) (by omega) (by omega)] at h0 ⊢; exact ih h0 hx
theorem getName_le {l : List UInt8} {a : Int} {n : List Str} {x : Int} (h : getName l a = (n, x, 0)) : 0 ≤ x ∧ x ≤ (l.length : Int) := by
  have h1 := getName_next l a
  unfold getName at h h1
  split at h
  · simp at h
  · rename_i ha
    rw [if_neg ha] at h1
    have := getNm_le l a.toNat a.toNat 1 0 [] (by rw [h]) (Nat.zero_le _)
    rw [h] at this h1
    exact ⟨h1, this⟩
theorem getN_range (l : List UInt8) (a size : Int) : 0 ≤ (getN l a size).1 ∧ (getN l a size).1 < 256 ^ size.toNat := by
  unfold getN
  split
  · exact ⟨Int.le_refl _, pow256_pos _⟩
  split
  · exact ⟨Int.le_refl _, pow256_pos _⟩
  · refine ⟨Int.natCast_nonneg _, ?_⟩
    have h1 := beN_lt ((l.drop a.toNat).take size.toNat)
    have h2 : ((l.drop a.toNat).take size.toNat).length ≤ size.toNat := List.length_take_le _ _
    have h3 := Nat.pow_le_pow_right (n := 256) (by decide) h2
    have h4 : beN ((l.drop a.toNat).take size.toNat) < 256 ^ size.toNat := Nat.lt_of_lt_of_le h1 h3
    have h5 : ((256 ^ size.toNat : Nat) : Int) = (256 : Int) ^ size.toNat := by simp
    rw [← h5]
    exact Int.ofNat_lt.2 h4
theorem getN2 (l : List UInt8) (a : Int) : 0 ≤ (getN l a 2).1 ∧ (getN l a 2).1 ≤ 65535 := by
  have h := getN_range l a 2
  have : (256 : Int) ^ (2 : Int).toNat = 65536 := by decide
  omega
theorem getN4 (l : List UInt8) (a : Int) : 0 ≤ (getN l a 4).1 ∧ (getN l a 4).1 ≤ 4294967295 := by
  have h := getN_range l a 4
  have : (256 : Int) ^ (4 : Int).toNat = 4294967296 := by decide
  omega
section
variable {l : List UInt8} {a : Int} {n : List Str} {x k : Int}
theorem getRR_1 (h : getName l a = (n, x, k)) (hk : k ≠ 0) : getRR l a = (Rec.zero, 0, k) := by unfold getRR; simp only [h]; rw [if_pos hk]
theorem getRR_2 (h : getName l a = (n, x, 0)) (h2 : (l.length : Int) - x < 10) : getRR l a = (Rec.zero, 0, 3) := by unfold getRR; simp only [h]; rw [if_neg (by simp), if_pos h2]
theorem getRR_3 (h : getName l a = (n, x, 0)) (h2 : ¬ (l.length : Int) - x < 10) (h3 : (getN l x 2).1 = 0) : getRR l a = (Rec.zero, 0, 2) := by unfold getRR; simp only [h]; rw [if_neg (by simp), if_neg h2, if_pos h3]
theorem getRR_4 {d : Dat} {e : Int} (h : getName l a = (n, x, 0)) (h2 : ¬ (l.length : Int) - x < 10) (h3 : (getN l x 2).1 ≠ 0) (h4 : getData l (x + 10) (getN l (x + 8) 2).1 (getN l x 2).1 = (d, e)) (he : e ≠ 0) : getRR l a = (Rec.zero, 0, e) := by
  unfold getRR; simp only [h]; rw [if_neg (by simp), if_neg h2, if_neg h3]; simp only [h4]; rw [if_pos he]
theorem getRR_5 {d : Dat} {t : Int} (h : getName l a = (n, x, 0)) (h2 : ¬ (l.length : Int) - x < 10) (h3 : (getN l x 2).1 ≠ 0) (h4 : getData l (x + 10) (getN l (x + 8) 2).1 (getN l x 2).1 = (d, 0))
    (ht : (if 2147483648 ≤ (getN l (x + 4) 4).1 then 0 else (getN l (x + 4) 4).1) = t) :
    getRR l a = (⟨n, (getN l x 2).1, (getN l (x + 2) 2).1, t, d⟩, x + 10 + (getN l (x + 8) 2).1, 0) := by
  unfold getRR; simp only [h]; rw [if_neg (by simp), if_neg h2, if_neg h3]; simp only [h4]; rw [if_neg (by simp), ht]
end
theorem Box9.set1 {w : World} {b : Nat} {c0 c1 c2 c3 c4 c5 c6 c7 c8 : Value} (h : Box9 w b c0 c1 c2 c3 c4 c5 c6 c7 c8) (u : Value) : Box9 (w.setCell ⟨b, 1, none⟩ u) b c0 u c2 c3 c4 c5 c6 c7 c8 := by
  unfold Box9 at *; simp [World.setCell, Array.getElem?_modify, h]
theorem Box9.set2 {w : World} {b : Nat} {c0 c1 c2 c3 c4 c5 c6 c7 c8 : Value} (h : Box9 w b c0 c1 c2 c3 c4 c5 c6 c7 c8) (u : Value) : Box9 (w.setCell ⟨b, 2, none⟩ u) b c0 c1 u c3 c4 c5 c6 c7 c8 := by
  unfold Box9 at *; simp [World.setCell, Array.getElem?_modify, h]
theorem Box9.set3 {w : World} {b : Nat} {c0 c1 c2 c3 c4 c5 c6 c7 c8 : Value} (h : Box9 w b c0 c1 c2 c3 c4 c5 c6 c7 c8) (u : Value) : Box9 (w.setCell ⟨b, 3, none⟩ u) b c0 c1 c2 u c4 c5 c6 c7 c8 := by
  unfold Box9 at *; simp [World.setCell, Array.getElem?_modify, h]
/-- Five cells are written, from the fifth on. -/
def five4 (W : World) (b : Nat) (c4 c5 c6 c7 c8 : Value) : World := ((((W.setCell ⟨b, 4, none⟩ c4).setCell ⟨b, 5, none⟩ c5).setCell ⟨b, 6, none⟩ c6).setCell ⟨b, 7, none⟩ c7).setCell ⟨b, 8, none⟩ c8
theorem Box9.five {w : World} {b : Nat} {c0 c1 c2 c3 c4 c5 c6 c7 c8 : Value} (h : Box9 w b c0 c1 c2 c3 c4 c5 c6 c7 c8) (u4 u5 u6 u7 u8 : Value) : Box9 (five4 w b u4 u5 u6 u7 u8) b c0 c1 c2 c3 u4 u5 u6 u7 u8 := h.set5 _ _ _ _ _
theorem Ext.five {w W : World} (h : Ext w W) {b : Nat} (hb : w.heap.size ≤ b) (u4 u5 u6 u7 u8 : Value) : Ext w (five4 W b u4 u5 u6 u7 u8) := ((((h.setCell hb _).setCell hb _).setCell hb _).setCell hb _).setCell hb _
def RRGives (l : List UInt8) (a : Int) (w : World) (e : Ending) (w' : World) : Prop :=
  Ext w w' ∧ ∃ vn v0 v1 v2 v3 v4, e = .returned (.tuple #[.agg #[vn, .int .i64 (getRR l a).1.type, .int .i64 (getRR l a).1.cls, .int .i64 (getRR l a).1.ttl, v0, v1, v2, v3, v4], .int .i64 (getRR l a).2.1, .int .i64 (getRR l a).2.2]) ∧
    RecN w' w.heap.size [vn, .int .i64 (getRR l a).1.type, .int .i64 (getRR l a).1.cls, .int .i64 (getRR l a).1.ttl, v0, v1, v2, v3, v4] (getRR l a).1
theorem newS_nil {α : Type} (V : α → Value) (e : TypeId) (w : World) (base : Nat) : NewS V e w base nilS [] := ⟨Fl.nil V w, fun h => absurd rfl h⟩
theorem recN_zero (w : World) (base : Nat) : RecN w base [nilS, .int .i64 0, .int .i64 0, .int .i64 0, nilS, nilS, nilS, nilS, nilS] Rec.zero :=
  ⟨_, _, _, _, _, _, rfl, newS_nil _ _ _ _, _, _, _, _, _, rfl, newS_nil _ _ _ _, newS_nil _ _ _ _, newS_nil _ _ _ _, newS_nil _ _ _ _, newS_nil _ _ _ _⟩
theorem rrget_ends {l : List UInt8} {a0 : Int} {w W : World} {r : Rec} {x k : Int} {vn v0 v1 v2 v3 v4 : Value} (hM : getRR l a0 = (r, x, k))
    (hB : Box9 W w.heap.size vn (.int .i64 r.type) (.int .i64 r.cls) (.int .i64 r.ttl) v0 v1 v2 v3 v4) (hE : Ext w W) (hN : RecN W w.heap.size [vn, .int .i64 r.type, .int .i64 r.cls, .int .i64 r.ttl, v0, v1, v2, v3, v4] r)
    {a : Act} (h4 : a.tmps.getD 4 undef = .pointer (some ⟨w.heap.size, 0, none⟩)) (h5 : a.tmps.getD 5 undef = .int .i64 x) (h6 : a.tmps.getD 6 undef = .int .i64 k) (hd : a.defers = []) :
    bodyPost Try.prog Try.f75 (RRGives l a0 w) .ret a W := by
  have h4' : a.tmps[4]?.getD undef = .pointer (some ⟨w.heap.size, 0, none⟩) := by rw [← h4]; simp
  have h5' : a.tmps[5]?.getD undef = .int .i64 x := by rw [← h5]; simp
  have h6' : a.tmps[6]?.getD undef = .int .i64 k := by rw [← h6]; simp
  obtain ⟨c0, c1, c2, c3, c4, c5, c6, c7, c8⟩ := hB.cells
  refine bodyPost_ret (v := .tuple #[.agg #[vn, .int .i64 r.type, .int .i64 r.cls, .int .i64 r.ttl, v0, v1, v2, v3, v4], .int .i64 x, .int .i64 k]) ?_ hd ⟨hE, ?_⟩
  · simp [results, Try.results75, go_sem, h4', h5', h6', c0, c1, c2, c3, c4, c5, c6, c7, c8]
  · rw [hM]
    exact ⟨_, _, _, _, _, _, rfl, hN⟩
theorem datV_N {w : World} {base : Nat} {v : Value} {d : Dat} (h : DatV w base v d) : ∃ v0 v1 v2 v3 v4, v = .agg #[v0, v1, v2, v3, v4] ∧ DatN w base [v0, v1, v2, v3, v4] d := by
  obtain ⟨v0, v1, v2, v3, v4, rfl, h0, h1, h2, h3, h4⟩ := h
  exact ⟨v0, v1, v2, v3, v4, rfl, _, _, _, _, _, rfl, ⟨h0.fl, fun _ => h0⟩, ⟨h1.fl, fun _ => h1⟩, ⟨h2.fl, fun _ => h2⟩, ⟨h3.fl, fun _ => h3⟩, ⟨h4.fl, fun _ => h4⟩⟩
/-- All nine cells are written. -/
def nine (W : World) (b : Nat) (c0 c1 c2 c3 c4 c5 c6 c7 c8 : Value) : World :=
  ((((((((W.setCell ⟨b, 0, none⟩ c0).setCell ⟨b, 1, none⟩ c1).setCell ⟨b, 2, none⟩ c2).setCell ⟨b, 3, none⟩ c3).setCell ⟨b, 4, none⟩ c4).setCell ⟨b, 5, none⟩ c5).setCell ⟨b, 6, none⟩ c6).setCell ⟨b, 7, none⟩ c7).setCell ⟨b, 8, none⟩ c8
theorem Box9.nine {w : World} {b : Nat} {c0 c1 c2 c3 c4 c5 c6 c7 c8 : Value} (h : Box9 w b c0 c1 c2 c3 c4 c5 c6 c7 c8) (u0 u1 u2 u3 u4 u5 u6 u7 u8 : Value) : Box9 (nine w b u0 u1 u2 u3 u4 u5 u6 u7 u8) b u0 u1 u2 u3 u4 u5 u6 u7 u8 := by
  unfold Box9 Ytfnelkcllaaebaa.nine at *; simp [World.setCell, Array.getElem?_modify, h]
theorem Ext.nine {w W : World} (h : Ext w W) {b : Nat} (hb : w.heap.size ≤ b) (u0 u1 u2 u3 u4 u5 u6 u7 u8 : Value) : Ext w (nine W b u0 u1 u2 u3 u4 u5 u6 u7 u8) :=
  ((((((((h.setCell hb _).setCell hb _).setCell hb _).setCell hb _).setCell hb _).setCell hb _).setCell hb _).setCell hb _).setCell hb _
theorem DatN.set_other {w : World} {base : Nat} {cs : List Value} {d : Dat} (h : DatN w base cs d) {g : Nat} (hg : g < base) (o : Nat) (u : Value) : DatN (w.setCell ⟨g, o, none⟩ u) base cs d := by
  obtain ⟨v0, v1, v2, v3, v4, h, h0, h1, h2, h3, h4⟩ := h
  exact ⟨v0, v1, v2, v3, v4, h, h0.set_other hg o u, h1.set_other hg o u, h2.set_other hg o u, h3.set_other hg o u, h4.set_other hg o u⟩
theorem NewS.nine {α : Type} {V : α → Value} {e : TypeId} {W : World} {base : Nat} {v : Value} {l : List α} (h : NewS V e W base v l) {b : Nat} (hb : b < base) (u0 u1 u2 u3 u4 u5 u6 u7 u8 : Value) : NewS V e (Ytfnelkcllaaebaa.nine W b u0 u1 u2 u3 u4 u5 u6 u7 u8) base v l :=
  ((((((((h.set_other hb _ _).set_other hb _ _).set_other hb _ _).set_other hb _ _).set_other hb _ _).set_other hb _ _).set_other hb _ _).set_other hb _ _).set_other hb _ _
theorem NewS.five {α : Type} {V : α → Value} {e : TypeId} {W : World} {base : Nat} {v : Value} {l : List α} (h : NewS V e W base v l) {b : Nat} (hb : b < base) (u4 u5 u6 u7 u8 : Value) : NewS V e (five4 W b u4 u5 u6 u7 u8) base v l :=
  ((((h.set_other hb _ _).set_other hb _ _).set_other hb _ _).set_other hb _ _).set_other hb _ _
theorem DatN.nine {W : World} {base : Nat} {cs : List Value} {d : Dat} (h : DatN W base cs d) {b : Nat} (hb : b < base) (u0 u1 u2 u3 u4 u5 u6 u7 u8 : Value) : DatN (Ytfnelkcllaaebaa.nine W b u0 u1 u2 u3 u4 u5 u6 u7 u8) base cs d :=
  ((((((((h.set_other hb _ _).set_other hb _ _).set_other hb _ _).set_other hb _ _).set_other hb _ _).set_other hb _ _).set_other hb _ _).set_other hb _ _).set_other hb _ _
theorem DatN.five {W : World} {base : Nat} {cs : List Value} {d : Dat} (h : DatN W base cs d) {b : Nat} (hb : b < base) (u4 u5 u6 u7 u8 : Value) : DatN (five4 W b u4 u5 u6 u7 u8) base cs d :=
  ((((h.set_other hb _ _).set_other hb _ _).set_other hb _ _).set_other hb _ _).set_other hb _ _
set_option maxRecDepth 100000 in
set_option maxHeartbeats 4000000 in
/-- rr.Get. -/
theorem rr_Get (l : List UInt8) (a0 : Int) (vb : Value) (w : World) (hv : BytesV w vb l) (hl : l.length ≤ 140737488355328) (ha : a0 ≤ 9223372036854775807) :
    Calls Try.prog 75 #[vb, .int .i64 a0] w (RRGives l a0 w) := by
  have HV := Lib.hid hv
  obtain ⟨A, c, rfl, h1, h2⟩ := hv.form
  clear hv
  have hB0 : Box9 (w.alloc (.cells #[nilS, .int .i64 0, .int .i64 0, .int .i64 0, nilS, nilS, nilS, nilS, nilS] 49)) w.heap.size _ _ _ _ _ _ _ _ _ := heap_alloc_new w _
  have HB0 := Lib.hid hB0
  have HE0 := Lib.hid ((Ext.refl w).alloc (.cells #[nilS, .int .i64 0, .int .i64 0, .int .i64 0, nilS, nilS, nilS, nilS, nilS] 49))
  clear hB0
  go_enter Try.func75, Try.ntmps75
  go_wp2_with fail
  refine (wname_Get _ l a0 _ (HV.out.ext HE0.out) ha).mono ?_
  rintro e w1 ⟨vn, rfl, hO, hE⟩
  have hB1 : Box9 w1 w.heap.size _ _ _ _ _ _ _ _ _ := hE.block HB0.out
  have HB1 := Lib.hid hB1
  obtain ⟨q0, q1, q2, q3, q4, q5, q6, q7, q8⟩ := hB1.cells
  have qf := hB1.free
  have HE1 := Lib.hid (HE0.out.trans hE)
  have HO1 : Hid (NewS Value.string 9 w1 (w.heap.size + 1) vn (getName l a0).1) := Lib.hid ⟨hO.fl, fun _ => by simpa using hO⟩
  obtain ⟨An, kn, cn, rfl⟩ := HO1.out.slice
  clear hO hE hB1
  rcases hgn : getName l a0 with ⟨n, x, k⟩
  rw [hgn] at HO1
  have HG := Lib.hid hgn
  clear hgn
  by_cases hk : k = 0
  · subst hk
    have hx := getName_le HG.out
    by_cases h10 : (l.length : Int) - x < 10
    · have HM := Lib.hid (getRR_2 HG.out h10)
      go_wp2
      exact rrget_ends (r := Rec.zero) HM.out ((HB1.out.set0 _).nine _ _ _ _ _ _ _ _ _) ((HE1.out.setCell (Nat.le_refl _) _).nine (Nat.le_refl _) _ _ _ _ _ _ _ _ _) (recN_zero _ _) rfl rfl rfl rfl
    · have b1 := getN2 l x
      have b2 := getN2 l (x + 2)
      have b3 := getN4 l (x + 4)
      have b4 := getN2 l (x + 8)
      have HEa := Lib.hid (HE1.out.setCell (p := ⟨w.heap.size, 0, none⟩) (Nat.le_refl _) (.slice An kn cn))
      have HEb := Lib.hid (HEa.out.setCell (p := ⟨w.heap.size, 1, none⟩) (Nat.le_refl _) (.int .i64 (getN l x 2).1))
      have HEc := Lib.hid (HEb.out.setCell (p := ⟨w.heap.size, 2, none⟩) (Nat.le_refl _) (.int .i64 (getN l (x + 2) 2).1))
      have HEd := Lib.hid (HEc.out.setCell (p := ⟨w.heap.size, 3, none⟩) (Nat.le_refl _) (.int .i64 (getN l (x + 4) 4).1))
      have G1 := Lib.hid (num_Get _ l x 2 _ (HV.out.ext HEa.out) (by omega))
      have G2 := Lib.hid (num_Get _ l (x + 2) 2 _ (HV.out.ext HEb.out) (by omega))
      have G3 := Lib.hid (num_Get _ l (x + 4) 4 _ (HV.out.ext HEc.out) (by omega))
      have G4 := Lib.hid (num_Get _ l (x + 8) 2 _ (HV.out.ext HEd.out) (by omega))
      generalize (getN l x 2).2 = e1 at *
      generalize (getN l (x + 2) 2).2 = e2 at *
      generalize (getN l (x + 4) 4).2 = e3 at *
      generalize (getN l (x + 8) 2).2 = e4 at *
      have M3 := Lib.hid (getRR_3 HG.out h10)
      have M4 : Hid ((getN l x 2).1 ≠ 0 → ∀ d e, getData l (x + 10) (getN l (x + 8) 2).1 (getN l x 2).1 = (d, e) → e ≠ 0 → getRR l a0 = (Rec.zero, 0, e)) := Lib.hid (fun h3 d e h4 he => getRR_4 HG.out h10 h3 h4 he)
      have M5 : Hid ((getN l x 2).1 ≠ 0 → ∀ d t, (if 2147483648 ≤ (getN l (x + 4) 4).1 then 0 else (getN l (x + 4) 4).1) = t → getData l (x + 10) (getN l (x + 8) 2).1 (getN l x 2).1 = (d, 0) → getRR l a0 = (⟨n, (getN l x 2).1, (getN l (x + 2) 2).1, t, d⟩, x + 10 + (getN l (x + 8) 2).1, 0)) :=
        Lib.hid (fun h3 d t ht h4 => getRR_5 HG.out h10 h3 h4 ht)
      have hs1 : w.heap.size + 1 ≤ w1.heap.size := by have := (Array.getElem?_eq_some_iff.1 HB1.out).1; omega
      have HS1 := Lib.hid hs1
      clear hs1
      generalize (getN l x 2).1 = ty at *
      generalize (getN l (x + 2) 2).1 = cl at *
      generalize (getN l (x + 4) 4).1 = tt at *
      generalize (getN l (x + 8) 2).1 = sz at *
      go_wp2_with fail
      refine (G1.out).mono ?_
      rintro e w' ⟨rfl, rfl⟩
      go_wp2_with fail
      refine (G2.out).mono ?_
      rintro e w' ⟨rfl, rfl⟩
      go_wp2_with fail
      refine (G3.out).mono ?_
      rintro e w' ⟨rfl, rfl⟩
      go_wp2_with fail
      refine (G4.out).mono ?_
      rintro e w' ⟨rfl, rfl⟩
      have HBW := Lib.hid ((((HB1.out.set0 (.slice An kn cn)).set1 (.int .i64 ty)).set2 (.int .i64 cl)).set3 (.int .i64 tt))
      have HNW := Lib.hid ((((HO1.out.set_other (Nat.lt_succ_self _) 0 (.slice An kn cn)).set_other (Nat.lt_succ_self _) 1 (.int .i64 ty)).set_other (Nat.lt_succ_self _) 2 (.int .i64 cl)).set_other (Nat.lt_succ_self _) 3 (.int .i64 tt))
      have HSW : Hid (w.heap.size + 1 ≤ ((((w1.setCell ⟨w.heap.size, 0, none⟩ (.slice An kn cn)).setCell ⟨w.heap.size, 1, none⟩ (.int .i64 ty)).setCell ⟨w.heap.size, 2, none⟩ (.int .i64 cl)).setCell ⟨w.heap.size, 3, none⟩ (.int .i64 tt)).heap.size) := Lib.hid (by have := HS1.out; simpa [World.setCell] using this)
      clear q0 q1 q2 q3 q4 q5 q6 q7 q8 qf G1 G2 G3 G4
      generalize (((w1.setCell ⟨w.heap.size, 0, none⟩ (.slice An kn cn)).setCell ⟨w.heap.size, 1, none⟩ (.int .i64 ty)).setCell ⟨w.heap.size, 2, none⟩ (.int .i64 cl)).setCell ⟨w.heap.size, 3, none⟩ (.int .i64 tt) = W4 at *
      obtain ⟨q0, q1, q2, q3, q4, q5, q6, q7, q8⟩ := HBW.out.cells
      have qf := HBW.out.free
      by_cases hT : 2147483648 ≤ tt
      · have HT0 : Hid ((if 2147483648 ≤ tt then 0 else tt) = 0) := Lib.hid (if_pos hT)
        by_cases hty : ty = 0
        · have HM := Lib.hid (M3.out hty)
          have t8 : (ty == 0) = true := by simp [hty]
          clear hty
          go_wp2
          exact rrget_ends (r := Rec.zero) HM.out ((HBW.out.set3 (.int .i64 0)).nine _ _ _ _ _ _ _ _ _) ((HEd.out.setCell (p := ⟨w.heap.size, 3, none⟩) (Nat.le_refl _) (.int .i64 0)).nine (Nat.le_refl _) _ _ _ _ _ _ _ _ _) (recN_zero _ _) rfl rfl rfl rfl
        · have t8 : (ty == 0) = false := by simp [hty]
          have M4 := Lib.hid (M4.out hty)
          have M5 := Lib.hid (M5.out hty)
          clear hty
          have HB5 := Lib.hid (HBW.out.set3 (.int .i64 0))
          have HE5 := Lib.hid (HEd.out.setCell (p := ⟨w.heap.size, 3, none⟩) (Nat.le_refl _) (.int .i64 0))
          have HN5 := Lib.hid (HNW.out.set_other (Nat.lt_succ_self _) 3 (.int .i64 0))
          have G5 := Lib.hid (rdata_Get l (x + 10) sz ty _ _ (HV.out.ext HE5.out) hl)
          have hs5 : w.heap.size + 1 ≤ (W4.setCell ⟨w.heap.size, 3, none⟩ (.int .i64 0)).heap.size := by
            have := HSW.out
            simpa [World.setCell] using this
          have HS5 := Lib.hid hs5
          clear hs5
          go_wp2_with fail
          refine (G5.out).mono ?_
          rintro e w5 ⟨hE6, v, rfl, hDV⟩
          obtain ⟨v0, v1, v2, v3, v4, rfl, hDN⟩ := datV_N hDV
          obtain ⟨z0, z1, z2, z3, z4, ez, o0, o1, o2, o3, o4⟩ := hDN
          simp only [List.cons.injEq, and_true] at ez
          obtain ⟨rfl, rfl, rfl, rfl, rfl⟩ := ez
          obtain ⟨B0, m0, r0, rfl⟩ := o0.slice
          obtain ⟨B1, m1, r1, rfl⟩ := o1.slice
          obtain ⟨B2, m2, r2, rfl⟩ := o2.slice
          obtain ⟨B3, m3, r3, rfl⟩ := o3.slice
          obtain ⟨B4, m4, r4, rfl⟩ := o4.slice
          have HD6 : Hid (DatN w5 (w.heap.size + 1) [.slice B0 m0 r0, .slice B1 m1 r1, .slice B2 m2 r2, .slice B3 m3 r3, .slice B4 m4 r4] (getData l (x + 10) sz ty).1) := Lib.hid ⟨_, _, _, _, _, rfl, o0.mono HS5.out, o1.mono HS5.out, o2.mono HS5.out, o3.mono HS5.out, o4.mono HS5.out⟩
          have HB6 := Lib.hid (show Box9 w5 w.heap.size _ _ _ _ _ _ _ _ _ from hE6.block HB5.out)
          have HN6 := Lib.hid (HN5.out.ext hE6)
          have HE6 := Lib.hid (HE5.out.trans hE6)
          clear o0 o1 o2 o3 o4 hE6 hDV q0 q1 q2 q3 q4 q5 q6 q7 q8 qf G5
          obtain ⟨q0, q1, q2, q3, q4, q5, q6, q7, q8⟩ := HB6.out.cells
          have qf := HB6.out.free
          rcases hgd : getData l (x + 10) sz ty with ⟨d, de⟩
          rw [hgd] at HD6
          by_cases hde : de = 0
          · subst hde
            have HM := Lib.hid (M5.out d 0 HT0.out hgd)
            go_wp2
            exact rrget_ends (r := ⟨n, ty, cl, 0, d⟩) (x := x + 10 + sz) HM.out ((HB6.out.five _ _ _ _ _).nine _ _ _ _ _ _ _ _ _) ((HE6.out.five (Nat.le_refl _) _ _ _ _ _).nine (Nat.le_refl _) _ _ _ _ _ _ _ _ _)
              ⟨_, _, _, _, _, _, rfl, ((HN6.out.five (Nat.lt_succ_self _) _ _ _ _ _).nine (Nat.lt_succ_self _) _ _ _ _ _ _ _ _ _).mono (Nat.le_succ _), ((HD6.out.five (Nat.lt_succ_self _) _ _ _ _ _).nine (Nat.lt_succ_self _) _ _ _ _ _ _ _ _ _).mono (Nat.le_succ _)⟩ rfl rfl rfl rfl
          · have HM := Lib.hid (M4.out d de hgd hde)
            have t9 : (de != 0) = true := by simp [hde]
            clear hde
            go_wp2
            exact rrget_ends (r := Rec.zero) HM.out ((HB6.out.five _ _ _ _ _).nine _ _ _ _ _ _ _ _ _) ((HE6.out.five (Nat.le_refl _) _ _ _ _ _).nine (Nat.le_refl _) _ _ _ _ _ _ _ _ _) (recN_zero _ _) rfl rfl rfl rfl
      · have HT0 : Hid ((if 2147483648 ≤ tt then 0 else tt) = tt) := Lib.hid (if_neg hT)
        by_cases hty : ty = 0
        · have HM := Lib.hid (M3.out hty)
          have t8 : (ty == 0) = true := by simp [hty]
          clear hty
          go_wp2
          exact rrget_ends (r := Rec.zero) HM.out (HBW.out.nine _ _ _ _ _ _ _ _ _) (HEd.out.nine (Nat.le_refl _) _ _ _ _ _ _ _ _ _) (recN_zero _ _) rfl rfl rfl rfl
        · have t8 : (ty == 0) = false := by simp [hty]
          have M4 := Lib.hid (M4.out hty)
          have M5 := Lib.hid (M5.out hty)
          clear hty
          have HB5 := Lib.hid HBW.out
          have HE5 := Lib.hid (HEd.out)
          have HN5 := Lib.hid HNW.out
          have G5 := Lib.hid (rdata_Get l (x + 10) sz ty _ _ (HV.out.ext HE5.out) hl)
          have hs5 : w.heap.size + 1 ≤ W4.heap.size := by
            have := HSW.out
            simpa [World.setCell] using this
          have HS5 := Lib.hid hs5
          clear hs5
          go_wp2_with fail
          refine (G5.out).mono ?_
          rintro e w5 ⟨hE6, v, rfl, hDV⟩
          obtain ⟨v0, v1, v2, v3, v4, rfl, hDN⟩ := datV_N hDV
          obtain ⟨z0, z1, z2, z3, z4, ez, o0, o1, o2, o3, o4⟩ := hDN
          simp only [List.cons.injEq, and_true] at ez
          obtain ⟨rfl, rfl, rfl, rfl, rfl⟩ := ez
          obtain ⟨B0, m0, r0, rfl⟩ := o0.slice
          obtain ⟨B1, m1, r1, rfl⟩ := o1.slice
          obtain ⟨B2, m2, r2, rfl⟩ := o2.slice
          obtain ⟨B3, m3, r3, rfl⟩ := o3.slice
          obtain ⟨B4, m4, r4, rfl⟩ := o4.slice
          have HD6 : Hid (DatN w5 (w.heap.size + 1) [.slice B0 m0 r0, .slice B1 m1 r1, .slice B2 m2 r2, .slice B3 m3 r3, .slice B4 m4 r4] (getData l (x + 10) sz ty).1) := Lib.hid ⟨_, _, _, _, _, rfl, o0.mono HS5.out, o1.mono HS5.out, o2.mono HS5.out, o3.mono HS5.out, o4.mono HS5.out⟩
          have HB6 := Lib.hid (show Box9 w5 w.heap.size _ _ _ _ _ _ _ _ _ from hE6.block HB5.out)
          have HN6 := Lib.hid (HN5.out.ext hE6)
          have HE6 := Lib.hid (HE5.out.trans hE6)
          clear o0 o1 o2 o3 o4 hE6 hDV q0 q1 q2 q3 q4 q5 q6 q7 q8 qf G5
          obtain ⟨q0, q1, q2, q3, q4, q5, q6, q7, q8⟩ := HB6.out.cells
          have qf := HB6.out.free
          rcases hgd : getData l (x + 10) sz ty with ⟨d, de⟩
          rw [hgd] at HD6
          by_cases hde : de = 0
          · subst hde
            have HM := Lib.hid (M5.out d tt HT0.out hgd)
            go_wp2
            exact rrget_ends (r := ⟨n, ty, cl, tt, d⟩) (x := x + 10 + sz) HM.out ((HB6.out.five _ _ _ _ _).nine _ _ _ _ _ _ _ _ _) ((HE6.out.five (Nat.le_refl _) _ _ _ _ _).nine (Nat.le_refl _) _ _ _ _ _ _ _ _ _)
              ⟨_, _, _, _, _, _, rfl, ((HN6.out.five (Nat.lt_succ_self _) _ _ _ _ _).nine (Nat.lt_succ_self _) _ _ _ _ _ _ _ _ _).mono (Nat.le_succ _), ((HD6.out.five (Nat.lt_succ_self _) _ _ _ _ _).nine (Nat.lt_succ_self _) _ _ _ _ _ _ _ _ _).mono (Nat.le_succ _)⟩ rfl rfl rfl rfl
          · have HM := Lib.hid (M4.out d de hgd hde)
            have t9 : (de != 0) = true := by simp [hde]
            clear hde
            go_wp2
            exact rrget_ends (r := Rec.zero) HM.out ((HB6.out.five _ _ _ _ _).nine _ _ _ _ _ _ _ _ _) ((HE6.out.five (Nat.le_refl _) _ _ _ _ _).nine (Nat.le_refl _) _ _ _ _ _ _ _ _ _) (recN_zero _ _) rfl rfl rfl rfl
  · have HM := Lib.hid (getRR_1 HG.out hk)
    have t0 : (k != 0) = true := by simp [hk]
    clear hk
    go_wp2
    exact rrget_ends (r := Rec.zero) HM.out ((HB1.out.set0 _).nine _ _ _ _ _ _ _ _ _) ((HE1.out.setCell (Nat.le_refl _) _).nine (Nat.le_refl _) _ _ _ _ _ _ _ _ _) (recN_zero _ _) rfl rfl rfl rfl
end Go.Proofs.Ytfnelkcllaaebaa
end
section
/- Contract of law05.answers. No condition. -/
open Go.RowKit
set_option linter.unusedVariables false
set_option linter.unusedSimpArgs false
namespace Go.Proofs.Ytfnelkcllaaebaa
def ansL : List UInt8 := [0, 0, 1, 0, 1, 0, 0, 0, 5, 0, 4, 1, 2, 3, 4]
theorem getName_ansL : getName ansL 0 = ([], 1, 0) := by
  unfold getName
  rw [if_neg (by decide)]
  exact getNm_zero (c := 0) rfl rfl
theorem rData_ansL : getData ansL 11 4 1 = (⟨[1, 2, 3, 4], [], [], [], []⟩, 0) := by
  unfold getData
  rw [if_neg (by decide), if_neg (by decide)]
  have hs : shapeOf 1 = ⟨((4 : Nat) : Int), false, false, false, 0, 0, false, false⟩ := rfl
  rw [hs, rData_bytes _ _ _ _ (by decide)]
  rfl
theorem getRR_ansL : getRR ansL 0 = (⟨[], 1, 1, 5, ⟨[1, 2, 3, 4], [], [], [], []⟩⟩, 15, 0) := by
  have e1 : (getN ansL 1 2).1 = 1 := by decide
  have e2 : (getN ansL (1 + 2) 2).1 = 1 := by decide
  have e3 : (getN ansL (1 + 4) 4).1 = 5 := by decide
  have e4 : (getN ansL (1 + 8) 2).1 = 4 := by decide
  have := getRR_5 (d := ⟨[1, 2, 3, 4], [], [], [], []⟩) (t := 5) getName_ansL (by decide) (by rw [e1]; decide) (by rw [e4, e1]; exact rData_ansL) (by rw [e3]; rfl)
  rw [this, e1, e2, e4]; rfl
theorem ansL_blk (w : World) : BytesV (w.alloc (.cells #[.int .u8 0, .int .u8 0, .int .u8 1, .int .u8 0, .int .u8 1, .int .u8 0, .int .u8 0, .int .u8 0, .int .u8 5, .int .u8 0, .int .u8 4, .int .u8 1, .int .u8 2, .int .u8 3, .int .u8 4] 5)) (.slice (some ⟨w.heap.size, 0, none⟩) 15 15) ansL := by
  refine ⟨_, 15, rfl, by decide, by decide, fun _ => ⟨w.heap.size, 0, rfl, fun j x hx => ?_⟩⟩
  have h := heap_alloc_new w (.cells #[.int .u8 0, .int .u8 0, .int .u8 1, .int .u8 0, .int .u8 1, .int .u8 0, .int .u8 0, .int .u8 0, .int .u8 5, .int .u8 0, .int .u8 4, .int .u8 1, .int .u8 2, .int .u8 3, .int .u8 4] 5)
  have hlt : j < 15 := (List.getElem?_eq_some_iff.1 hx).1
  simp only [World.cell?, h]
  have hh : ∀ j : Fin 15, ∀ x, ansL[j.val]? = some x → (#[Value.int .u8 0, .int .u8 0, .int .u8 1, .int .u8 0, .int .u8 1, .int .u8 0, .int .u8 0, .int .u8 0, .int .u8 5, .int .u8 0, .int .u8 4, .int .u8 1, .int .u8 2, .int .u8 3, .int .u8 4] : Array Value)[0 + j.val]? = some (vByte x) := by
    intro j x hx
    match j with
    | ⟨0, _⟩ | ⟨1, _⟩ | ⟨2, _⟩ | ⟨3, _⟩ | ⟨4, _⟩ | ⟨5, _⟩ | ⟨6, _⟩ | ⟨7, _⟩ | ⟨8, _⟩ | ⟨9, _⟩ | ⟨10, _⟩ | ⟨11, _⟩ | ⟨12, _⟩ | ⟨13, _⟩ | ⟨14, _⟩ => injection hx with hx; subst hx; rfl
  exact hh ⟨j, hlt⟩ x hx
set_option maxRecDepth 100000 in
/-- law05.answers. -/
theorem law05_answers (w : World) : Calls Try.prog 45 #[] w fun e w' => e = .returned (.bool true) ∧ Ext w w' := by
  have HC := Lib.hid (rr_Get ansL 0 _ _ (ansL_blk w) (by decide) (by decide))
  have HE0 := Lib.hid ((Ext.refl w).alloc (.cells #[.int .u8 0, .int .u8 0, .int .u8 1, .int .u8 0, .int .u8 1, .int .u8 0, .int .u8 0, .int .u8 0, .int .u8 5, .int .u8 0, .int .u8 4, .int .u8 1, .int .u8 2, .int .u8 3, .int .u8 4] 5))
  go_enter Try.func45, Try.ntmps45
  go_wp2_with fail
  refine (HC.out).mono ?_
  rintro e w1 ⟨hE, vn, v0, v1, v2, v3, v4, he, hN⟩
  rw [getRR_ansL] at he hN
  subst he
  obtain ⟨yn, y0, y1, y2, y3, y4, e9, hn, hD⟩ := hN
  simp only [List.cons.injEq, and_true, true_and] at e9
  obtain ⟨rfl, rfl, rfl, rfl, rfl, rfl⟩ := e9
  obtain ⟨z0, z1, z2, z3, z4, ez, o0, o1, o2, o3, o4⟩ := hD
  simp only [List.cons.injEq, and_true] at ez
  obtain ⟨rfl, rfl, rfl, rfl, rfl⟩ := ez
  obtain ⟨An, mn, rn, rfl⟩ := hn.slice
  obtain ⟨B0, m0, r0, rfl⟩ := o0.slice
  obtain ⟨B1, m1, r1, rfl⟩ := o1.slice
  obtain ⟨B2, m2, r2, rfl⟩ := o2.slice
  obtain ⟨B3, m3, r3, rfl⟩ := o3.slice
  obtain ⟨B4, m4, r4, rfl⟩ := o4.slice
  have HE := Lib.hid (HE0.out.trans hE)
  clear hn o0 o1 o2 o3 o4 hE
  go_wp2
  go_ret
  exact ⟨rfl, HE.out.alloc _⟩
end Go.Proofs.Ytfnelkcllaaebaa
end
