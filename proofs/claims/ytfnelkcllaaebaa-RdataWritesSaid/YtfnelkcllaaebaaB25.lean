/- Parts of one proof, joined: LBack. Conditions: those that each theorem states. -/
import Derived.Test.YtfnelkcllaaebaaB19
import Derived.Test.YtfnelkcllaaebaaB21
import Derived.Test.YtfnelkcllaaebaaB16
section
/- Contract of law05.RrBack. No condition but that the slice reads as a list, and the strings' and numbers' sizes. -/
open Go.RowKit
set_option linter.unusedVariables false
set_option linter.unusedSimpArgs false
namespace Go.Proofs.Ytfnelkcllaaebaa
theorem OwnL.kpS {α : Type} {V : α → Value} {e : TypeId} {S : Nat → Prop} {w w' : World} {base : Nat} {v : Value} {l : List α} (h : OwnL V e w base v l) (hk : Kp S w w') (hn : ∀ k, v.ownBlock = some k → ¬ S k) : OwnL V e w' base v l := by
  rcases h.2 with ⟨rfl, h2⟩ | ⟨g, cap, cur, rfl, h1, h2, h3⟩
  · exact ⟨h.1, .inl ⟨rfl, h2⟩⟩
  · exact ⟨h.1, .inr ⟨g, cap, cur, rfl, h1, hk.heap h2 (hn g rfl), h3⟩⟩
theorem NewS.kpS {α : Type} {V : α → Value} {e : TypeId} {S : Nat → Prop} {w w' : World} {base : Nat} {v : Value} {l : List α} (h : NewS V e w base v l) (hk : Kp S w w') (hS : ∀ k, S k → k < base) : NewS V e w' base v l := by
  by_cases hl : l = []
  · subst hl
    obtain ⟨A, c, rfl, h1, h2, _⟩ := h.1
    exact ⟨⟨A, c, rfl, h1, h2, by simp⟩, fun h => absurd rfl h⟩
  · have := (h.2 hl).kpS hk (fun k hb hs => by have := (h.2 hl).base_le k hb; have := hS k hs; omega)
    exact ⟨this.fl, fun _ => this⟩
theorem recN_stb {S : Nat → Prop} {w : World} {base : Nat} {vn v0 v1 v2 v3 v4 : Value} {r : Rec} (h : RecN w base [vn, .int .i64 r.type, .int .i64 r.cls, .int .i64 r.ttl, v0, v1, v2, v3, v4] r) (hS : ∀ k, S k → k < base) : Stb S w fun W => RecC W vn v0 v1 v2 v3 v4 r := by
  intro W hk
  obtain ⟨un, u0, u1, u2, u3, u4, e, hn, y0, y1, y2, y3, y4, ey, h0, h1, h2, h3, h4⟩ := h
  simp only [List.cons.injEq, and_true, true_and] at e
  obtain ⟨rfl, rfl, rfl, rfl, rfl, rfl⟩ := e
  simp only [List.cons.injEq, and_true] at ey
  obtain ⟨rfl, rfl, rfl, rfl, rfl⟩ := ey
  exact ⟨(hn.kpS hk hS).1, (h0.kpS hk hS).1, (h1.kpS hk hS).1, (h2.kpS hk hS).1, (h3.kpS hk hS).1, (h4.kpS hk hS).1⟩
theorem ext_kp {S : Nat → Prop} {w0 w w' : World} (hE : Ext w0 w) (hk : Kp S w w') (hS : ∀ k, S k → w0.heap.size ≤ k) : Ext w0 w' :=
  (Kp.trans' (S := fun _ => False) (Kp.of_ext hE) hk (fun k h => .inr (hS k h))).to_ext (fun _ _ h => h)
theorem own_not_sof {w : World} {p mp base : Nat} {v vc : Value} {N : Nat} {b : List UInt8} {f : Rests} {l : List Int} (h : OwnL vInt 3 w base v l) (hW : WrP w p mp vc N b f) (k : Nat) (hk : v.ownBlock = some k) : ¬ Sof p mp vc k := by
  have ht : ∃ cur, w.heap[k]? = some (.cells cur 3 (0, 0)) := by
    rcases h.2 with ⟨rfl, _⟩ | ⟨g, cap, cur, rfl, _, hg, _⟩
    · simp [Value.ownBlock] at hk
    · simp [Value.ownBlock] at hk; subst hk; exact ⟨cur, hg⟩
  obtain ⟨cur, ht⟩ := ht
  rintro (rfl | rfl | h2)
  · have := hW.box
    rw [ht] at this
    injection this with this
    injection this with _ h9 _
    cases h9
  · obtain ⟨D, ⟨es, cl, hb, _⟩, _⟩ := hW.map
    rw [ht] at hb
    injection hb with hb
    cases hb
  · obtain ⟨cur2, hc⟩ := hW.row_type k h2
    rw [ht] at hc
    injection hc with hc
    injection hc with _ h9 _
    cases h9
theorem pos_at {l : List Rec} {n k : Nat} (h : k < n) : ((List.range n).map fun i => (rrPos l i : Int))[k]? = some (rrPos l k : Int) := by
  rw [List.getElem?_map, List.getElem?_range h]; rfl
theorem bytes_grown {w w' : World} {base base' : Nat} {v va : Value} {l : List UInt8} {L : List Int} (h : NewS vByte 5 w base v l) (ha : OwnL vInt 3 w base' va L) (hg : w.grownBy w' va.ownBlock) : BytesV w' v l := by
  refine (h.grown (e' := 3) hg (fun k hk => ?_) (by decide)).1
  rcases ha.2 with ⟨rfl, _⟩ | ⟨g, cap, cur, rfl, _, hx, _⟩
  · simp [Value.ownBlock] at hk
  · simp [Value.ownBlock] at hk; subst hk; exact ⟨cur, hx⟩
/-- What holds while records are written. -/
structure BackInv (w0 : World) (p mp : Nat) (l : List Rec) (k : Nat) (va vc : Value) (N : Nat) (W : World) : Prop where
  wr : WrP W p mp vc N (rrsS (l.take k)).1 (rrsS (l.take k)).2
  nb : N ≤ (rrsS (l.take k)).1.length
  ext : Ext w0 W
  sof : ∀ j, Sof p mp vc j → w0.heap.size ≤ j
  at_ : OwnL vInt 3 W w0.heap.size va ((List.range k).map fun i => (rrPos l i : Int))
  ok : ∀ r ∈ l.take k, rrsound r = true
theorem BackInv.to_ext {w0 : World} {p mp : Nat} {l : List Rec} {k : Nat} {va vc : Value} {N : Nat} {W W' : World} (h : BackInv w0 p mp l k va vc N W) (hE : Ext W W') : BackInv w0 p mp l k va vc N W' :=
  ⟨h.wr.ext hE, h.nb, h.ext.trans hE, h.sof, h.at_.ext hE, h.ok⟩
theorem BackInv.len {w0 : World} {p mp : Nat} {l : List Rec} {k : Nat} {va vc : Value} {N : Nat} {W : World} (h : BackInv w0 p mp l k va vc N W) (hl : l.length ≤ 60) : (rrsS (l.take k)).1.length ≤ 4000000 ∧ Good (rrsS (l.take k)).1 (rrsS (l.take k)).2 := by
  obtain ⟨h1, h2⟩ := rrsS_good (l.take k) h.ok
  refine ⟨?_, h1⟩
  have : (l.take k).length ≤ 60 := Nat.le_trans (List.length_take_le' _ _) hl
  omega
/-- A place is noted. -/
theorem BackInv.note {w0 : World} {p mp : Nat} {l : List Rec} {k : Nat} {va vc v1 : Value} {N : Nat} {W w1 : World} {P : List Int} (h : BackInv w0 p mp l k va vc N W) (hO : OwnL vInt 3 w1 w0.heap.size v1 P) (hg : W.grownBy w1 va.ownBlock) :
    WrP w1 p mp vc N (rrsS (l.take k)).1 (rrsS (l.take k)).2 ∧ Ext w0 w1 :=
  ⟨h.wr.kp (T := fun j => va.ownBlock = some j) ((Kp.refl _ _).grown hg (fun j hj => .inl hj)) (fun j hs hj => own_not_sof h.at_ h.wr j hj hs), h.ext.grown hg (fun j hj => h.at_.base_le j hj)⟩
theorem pos_snoc {l : List Rec} {k : Nat} : ((List.range k).map fun i => (rrPos l i : Int)) ++ [((rrsS (l.take k)).1.length : Int)] = (List.range (k + 1)).map fun i => (rrPos l i : Int) := by
  rw [List.range_succ]; simp [rrPos]
theorem cells_ext {w0 w : World} {b o : Nat} {c0 c1 c2 c3 c4 c5 c6 c7 c8 : Value} (h : w0.cell? ⟨b, o, none⟩ = some c0 ∧ w0.cell? ⟨b, o + 1, none⟩ = some c1 ∧ w0.cell? ⟨b, o + 2, none⟩ = some c2 ∧ w0.cell? ⟨b, o + 3, none⟩ = some c3 ∧ w0.cell? ⟨b, o + 4, none⟩ = some c4 ∧ w0.cell? ⟨b, o + 5, none⟩ = some c5 ∧ w0.cell? ⟨b, o + 6, none⟩ = some c6 ∧ w0.cell? ⟨b, o + 7, none⟩ = some c7 ∧ w0.cell? ⟨b, o + 8, none⟩ = some c8) (hE : Ext w0 w) :
    w.cell? ⟨b, o, none⟩ = some c0 ∧ w.cell? ⟨b, o + 1, none⟩ = some c1 ∧ w.cell? ⟨b, o + 2, none⟩ = some c2 ∧ w.cell? ⟨b, o + 3, none⟩ = some c3 ∧ w.cell? ⟨b, o + 4, none⟩ = some c4 ∧ w.cell? ⟨b, o + 5, none⟩ = some c5 ∧ w.cell? ⟨b, o + 6, none⟩ = some c6 ∧ w.cell? ⟨b, o + 7, none⟩ = some c7 ∧ w.cell? ⟨b, o + 8, none⟩ = some c8 := by
  obtain ⟨h0, h1, h2, h3, h4, h5, h6, h7, h8⟩ := h
  exact ⟨hE.cell h0, hE.cell h1, hE.cell h2, hE.cell h3, hE.cell h4, hE.cell h5, hE.cell h6, hE.cell h7, hE.cell h8⟩
set_option maxRecDepth 100000 in
set_option maxHeartbeats 1000000 in
theorem law05_RrBack (l : List Rec) (v : Value) (w : World) (hv : RecsV w v l) (fr : ∀ r ∈ l, ROk r) :
    Calls Try.prog 15 #[v] w fun e w' => e = .returned (.bool true) ∧ Ext w w' := by
  have hll := hv.len
  have HV := Lib.hid hv
  have FR := Lib.hid fr
  obtain ⟨A, c, rfl, h1, h2⟩ := hv.form
  clear hv fr
  unfold maxI at *
  go_enter Try.func15, Try.ntmps15
  go_wp2_with fail
  refine (wname_New w).mono ?_
  rintro e w1 ⟨rfl, hW1, hE1⟩
  have HW1 := Lib.hid hW1
  have HE1 := Lib.hid hE1
  clear hW1 hE1
  go_wp2_with fail
  refine (law05_answers _).mono ?_
  rintro e w2 ⟨rfl, hE2⟩
  have HW2 := Lib.hid (HW1.out.ext hE2)
  have HE2 := Lib.hid (HE1.out.trans hE2)
  clear hE2
  go_wp2_with fail
  refine (law05_light l _ w2 (HV.out.ext HE2.out)).mono ?_
  rintro e w3 ⟨rfl, hE3⟩
  have HW3 := Lib.hid (HW2.out.ext hE3)
  have HE3 := Lib.hid (HE2.out.trans hE3)
  clear hE3
  cases hL : light5 l with
  | false =>
    clear hL
    go_wp2_with fail
    refine (law05_answers _).mono ?_
    rintro e w4 ⟨rfl, hE4⟩
    go_wp2
    go_ret
    exact ⟨rfl, HE3.out.trans hE4⟩
  | true =>
    obtain ⟨hroom, h60⟩ := light5_room hL
    have HR := Lib.hid hroom
    have hI0 : BackInv w (w.heap.size + 1) w.heap.size l 0 (.slice none 0 0) (.slice none 0 0) 0 w3 :=
      ⟨by simpa [rrsS] using HW3.out, Nat.zero_le _, HE3.out, by rintro j (rfl | rfl | hj); omega; omega; simp [Value.ownBlock] at hj, OwnL.nil _ _ _ _, by simp⟩
    have HI0 := Lib.hid hI0
    clear hroom hL hI0
    generalize w.heap.size + 1 = p at *
    generalize hmp : w.heap.size = mp at *
    have HMP := Lib.hid hmp
    clear hmp
    go_wp2
    go_loopw [4, 5] (fun va i wr => ∃ (k : Nat) (vc : Value) (N : Nat), k ≤ l.length ∧ i = .int .i64 k ∧ BackInv w p mp l k va vc N wr) (fun _ i _ => l.length - (intOf i).toNat)
    case atStart => exact ⟨0, _, _, by omega, rfl, HI0.out⟩
    case round =>
      obtain ⟨k, vc, N, hk, rfl, hI⟩ := hrel
      have HI := Lib.hid hI
      have HLn := Lib.hid (hI.len h60)
      clear hI
      by_cases hlt : k < l.length
      · skip
        obtain ⟨b, o, c1, e1, _, _, _⟩ := HV.out.opens (by omega)
        injection e1 with e1 e3 e4
        subst e1
        clear e3 e4
        have hx := List.getElem?_eq_getElem hlt
        obtain ⟨vn, v0, v1, v2, v3, v4, hn, hd, c0', c1', c2', c3', c4', c5', c6', c7', c8'⟩ := recs_cells HV.out hx
        obtain ⟨An, kn, rfl, _, _⟩ := hn.form
        obtain ⟨A0, k0, rfl, _, _⟩ := hd.by_.form
        obtain ⟨A1, k1, rfl, _, _⟩ := hd.ho.form
        obtain ⟨A2, k2, rfl, _, _⟩ := hd.ma.form
        obtain ⟨A3, k3, rfl, _, _⟩ := hd.nu.form
        obtain ⟨A4, k4, rfl, _, _⟩ := hd.tx.form
        have HCells := Lib.hid (And.intro c0' (And.intro c1' (And.intro c2' (And.intro c3' (And.intro c4' (And.intro c5' (And.intro c6' (And.intro c7' c8'))))))))
        have hmem := List.mem_of_getElem? hx
        have HRec := Lib.hid (show RecC w _ _ _ _ _ _ l[k] from ⟨hn, hd⟩)
        have HOK := Lib.hid (FR.out _ hmem)
        have HRm := Lib.hid (HR.out _ hmem)
        have HX := Lib.hid hx
        clear c0' c1' c2' c3' c4' c5' c6' c7' c8' hn hd hmem hx
        have HPS := Lib.hid (rrsS_take HX.out)
        generalize l[k] = x at *
        have g0 := HI.out.ext.cell HCells.out.1
        have g1 := HI.out.ext.cell HCells.out.2.1
        have g2 := HI.out.ext.cell HCells.out.2.2.1
        have g3 := HI.out.ext.cell HCells.out.2.2.2.1
        have g4 := HI.out.ext.cell HCells.out.2.2.2.2.1
        have g5 := HI.out.ext.cell HCells.out.2.2.2.2.2.1
        have g6 := HI.out.ext.cell HCells.out.2.2.2.2.2.2.1
        have g7 := HI.out.ext.cell HCells.out.2.2.2.2.2.2.2.1
        have g8 := HI.out.ext.cell HCells.out.2.2.2.2.2.2.2.2
        obtain ⟨Aa, na, ca, rfl⟩ := own_sl HI.out.at_
        go_wp2_with fail
        clear g0 g1 g2 g3 g4 g5 g6 g7 g8
        refine (ref_SoundRR x _ _ _ _ _ _ wr (HRec.out.ext HI.out.ext) HOK.out.2.1.2.2 (i64_range HOK.out.2.2.2.1).2).mono ?_
        rintro e w4 ⟨rfl, hE4⟩
        have HI4 := Lib.hid (HI.out.to_ext hE4)
        clear hE4
        cases hs : rrsound x with
        | false =>
          clear hs
          go_wp2
          go_ret
          exact ⟨rfl, HI4.out.ext⟩
        | true =>
          have HSd := Lib.hid hs
          clear hs
          go_wp2_with fail
          refine (wname_Len p mp vc N _ _ w4 HI4.out.wr).mono ?_
          rintro e w' ⟨rfl, rfl⟩
          have HB4 : Hid (w.heap.size ≤ w4.heap.size) := Lib.hid HI4.out.ext.size
          have HL4 : Hid ((((List.range k).map fun i => (rrPos l i : Int)).length + 1) * 8 ≤ 140737488355328) := Lib.hid (by simp; omega)
          have g0 := HI4.out.ext.cell HCells.out.1
          have g1 := HI4.out.ext.cell HCells.out.2.1
          have g2 := HI4.out.ext.cell HCells.out.2.2.1
          have g3 := HI4.out.ext.cell HCells.out.2.2.2.1
          have g4 := HI4.out.ext.cell HCells.out.2.2.2.2.1
          have g5 := HI4.out.ext.cell HCells.out.2.2.2.2.2.1
          have g6 := HI4.out.ext.cell HCells.out.2.2.2.2.2.2.1
          have g7 := HI4.out.ext.cell HCells.out.2.2.2.2.2.2.2.1
          have g8 := HI4.out.ext.cell HCells.out.2.2.2.2.2.2.2.2
          go_wp2_with (at_builtin; go_must (refine wpList_app1 vInt w.heap.size rfl (.tmp 40) (.tmp 43) 24 3 (.int .i64 0) 8 rfl Try.underlying24 (by kernel_rfl) rfl (by decide) (.slice Aa na ca) ((List.range k).map fun i => (rrPos l i : Int)) (((rrsS (l.take k)).1.length : Nat) : Int) rfl rfl rfl HI4.out.at_ HB4.out HL4.out ?_); intro v5 w5 hO5 hg5; have HN5 := Lib.hid (HI4.out.note hO5 hg5); have HO5 := Lib.hid hO5; obtain ⟨A5, n5, c5, rfl⟩ := own_sl hO5; clear g0 g1 g2 g3 g4 g5 g6 g7 g8; obtain ⟨g0, g1, g2, g3, g4, g5, g6, g7, g8⟩ := cells_ext HCells.out HN5.out.2; clear hO5 hg5)
          clear g0 g1 g2 g3 g4 g5 g6 g7 g8
          refine (law05_own x _ _ _ _ _ _ w5 (HRec.out.ext HN5.out.2) HRm.out).mono ?_
          rintro e w6 ⟨hE6, un, u0, u1, u2, u3, u4, rfl, hN6⟩
          have HW6 := Lib.hid (HN5.out.1.ext hE6)
          have HE6 := Lib.hid (HN5.out.2.trans hE6)
          have HO6 := Lib.hid (HO5.out.ext hE6)
          have HST := Lib.hid (recN_stb (S := Sof p mp vc) hN6 (fun j hj => HN5.out.1.lt j hj))
          clear hE6 hN6
          go_wp2_with fail
          refine (rr_Put x p mp vc _ _ _ _ _ _ N _ _ w6 HW6.out HI4.out.nb HLn.out.2 HST.out HOK.out.fit HOK.out.2.1.2.1 HSd.out (by have := HLn.out.1; omega)).mono ?_
          rintro e w7 ⟨rfl, N7, hN7, v7, hW7, hs7⟩
          have hI7 : BackInv w p mp l (k + 1) (.slice A5 n5 c5) v7 N7 w7 := by
            refine ⟨by rw [HPS.out]; exact hW7, by rw [HPS.out]; exact hN7, ext_kp HE6.out hs7.1 HI4.out.sof, fun j hj => ?_, ?_, ?_⟩
            · rcases hs7.2 j hj with h | h
              · exact HI4.out.sof j h
              · exact Nat.le_trans HE6.out.size h
            · rw [← pos_snoc]
              exact HO6.out.kpS hs7.1 (fun j hj hs => own_not_sof HO6.out HW6.out j hj hs)
            · intro r hr
              rw [List.take_add_one, HX.out, List.mem_append] at hr
              rcases hr with hr | hr
              · exact HI4.out.ok r hr
              · simp at hr; subst hr; exact HSd.out
          have HI7 := Lib.hid hI7
          clear hI7 hW7 hs7 hN7
          go_wp2
          go_roundw
          case rel => exact ⟨k + 1, v7, N7, by omega, by go_num, HI7.out⟩
          case measure => simp [intOf]; omega
      · have e0 : l.take k = l := List.take_of_length_le (by omega)
        have hkl : k = l.length := by omega
        have HOKs : Hid (∀ r ∈ l, rrsound r = true) := Lib.hid (fun r hr => HI.out.ok r (by rw [e0]; exact hr))
        have HW := Lib.hid HI.out.wr
        have HPk : Hid ((((List.range k).map fun i => (rrPos l i : Int)) ++ [((rrsS (l.take k)).1.length : Int)]) = (List.range (l.length + 1)).map fun i => (rrPos l i : Int)) := Lib.hid (by rw [← hkl]; exact pos_snoc)
        obtain ⟨Aa, na, ca, rfl⟩ := own_sl HI.out.at_
        have HL4 : Hid ((((List.range k).map fun i => (rrPos l i : Int)).length + 1) * 8 ≤ 140737488355328) := Lib.hid (by simp; omega)
        have HLb := Lib.hid HLn.out.1
        have HTk := Lib.hid e0
        clear e0 hkl
        go_wp2_with fail
        refine (wname_Bytes p mp vc N _ _ wr HW.out (by have := HLb.out; omega)).mono ?_
        rintro e w4 ⟨v4, rfl, hO4, hE4⟩
        have HI4 := Lib.hid (HI.out.to_ext hE4)
        have HBy := Lib.hid hO4.fl
        have HBn : Hid (NewS vByte 5 w4 wr.heap.size v4 (rrsS (List.take k l)).1) := Lib.hid ⟨hO4.fl, fun _ => hO4⟩
        obtain ⟨Ab, cb, rfl, _, _⟩ := hO4.fl.form
        have HB4 : Hid (w.heap.size ≤ w4.heap.size) := Lib.hid HI4.out.ext.size
        clear hO4 hE4
        go_wp2_with (at_builtin; go_must (refine wpList_app1 vInt w.heap.size rfl (.tmp 55) (.tmp 58) 24 3 (.int .i64 0) 8 rfl Try.underlying24 (by kernel_rfl) rfl (by decide) (.slice Aa na ca) ((List.range k).map fun i => (rrPos l i : Int)) (((rrsS (l.take k)).1.length : Nat) : Int) rfl rfl rfl HI4.out.at_ HB4.out HL4.out ?_); intro v5 w5 hO5 hg5; have HE5 := Lib.hid (HI4.out.ext.grown hg5 (fun j hj => HI4.out.at_.base_le j hj)); have HBy5 := Lib.hid (bytes_grown HBn.out HI4.out.at_ hg5); rw [HTk.out] at HBy5; have HAt := Lib.hid hO5.fl; rw [HPk.out] at HAt; obtain ⟨A5, c5, rfl, _, _⟩ := HAt.out.form; clear hO5 hg5)
        have HLb2 : Hid ((rrsS l).1.length ≤ 4000000) := Lib.hid (by have := HLb.out; rwa [HTk.out] at this)
        clear HI4 HB4 HBn HL4 HPk HW HLb HLn HI
        generalize hnb : (rrsS (List.take k l)).1.length = nb at *
        rw [HTk.out] at hnb
        rw [hnb] at HBy5 HLb2
        have HNb := Lib.hid hnb
        clear hnb
        go_wp2
        go_loopw [7, 8, 9, 10] (fun i _ _ _ ww => ∃ k : Nat, k ≤ l.length ∧ i = .int .i64 k ∧ Ext w5 ww) (fun i _ _ _ _ => l.length - (intOf i).toNat)
        case atStart => exact ⟨0, by omega, rfl, Ext.refl _⟩
        case round =>
          obtain ⟨k, hk, rfl, hE6⟩ := hrel
          have HE6 := Lib.hid hE6
          clear hE6
          by_cases hlt : k < l.length
          · skip
            obtain ⟨b, o, c1, e1, _, _, _⟩ := HV.out.opens (by omega)
            injection e1 with e1 e3 e4
            subst e1
            clear e3 e4
            have hx := List.getElem?_eq_getElem hlt
            obtain ⟨vn, v0, v1, v2, v3, v4, hn, hd, c0', c1', c2', c3', c4', c5', c6', c7', c8'⟩ := recs_cells HV.out hx
            obtain ⟨An, kn, rfl, _, _⟩ := hn.form
            obtain ⟨A0, k0, rfl, _, _⟩ := hd.by_.form
            obtain ⟨A1, k1, rfl, _, _⟩ := hd.ho.form
            obtain ⟨A2, k2, rfl, _, _⟩ := hd.ma.form
            obtain ⟨A3, k3, rfl, _, _⟩ := hd.nu.form
            obtain ⟨A4, k4, rfl, _, _⟩ := hd.tx.form
            have HCells := Lib.hid (And.intro c0' (And.intro c1' (And.intro c2' (And.intro c3' (And.intro c4' (And.intro c5' (And.intro c6' (And.intro c7' c8'))))))))
            have hmem := List.mem_of_getElem? hx
            have HRec := Lib.hid (show RecC w _ _ _ _ _ _ l[k] from ⟨hn, hd⟩)
            have HOK := Lib.hid (FR.out _ hmem)
            have HRm := Lib.hid (HR.out _ hmem)
            have HX := Lib.hid hx
            clear c0' c1' c2' c3' c4' c5' c6' c7' c8' hn hd hmem hx
            obtain ⟨ba, oa, ca5, e5, _, _, hat⟩ := HAt.out.opens (by simp)
            injection e5 with e5 e6 e7
            subst e5
            clear e6 e7
            have HA0 := Lib.hid (hat k (rrPos l k : Int) (pos_at (by omega)))
            have HA1 := Lib.hid (hat (k + 1) (rrPos l (k + 1) : Int) (pos_at (by omega)))
            clear hat
            have HRd := Lib.hid (rrs_read HOKs.out HX.out)
            have HPl : Hid ((rrPos l k : Int) ≤ 9223372036854775807) := Lib.hid (by have := rrPos_le (l := l) k; have := HLb2.out; have := HNb.out; omega)
            generalize l[k] = x at *
            generalize rrPos l (k + 1) = P1 at *
            generalize rrPos l k = P0 at *
            have a0 := HE6.out.cell HA0.out
            unfold vInt at a0
            go_wp2_with fail
            clear a0
            refine (rr_Get (rrsS l).1 _ _ wr (HBy5.out.ext HE6.out) (by have := HLb2.out; have := HNb.out; omega) HPl.out).mono ?_
            rintro e w7 hG
            unfold RRGives at hG
            rw [HRd.out] at hG
            obtain ⟨hE7, un, u0, u1, u2, u3, u4, rfl, hN7⟩ := hG
            dsimp only at hN7 ⊢
            have hC7 : RecC w7 un u0 u1 u2 u3 u4 x := recN_stb (S := fun _ => False) hN7 (fun _ h => h.elim) w7 (Kp.refl _ _)
            obtain ⟨Bn, jn, rfl, _, _⟩ := hC7.1.form
            obtain ⟨B0, j0, rfl, _, _⟩ := hC7.2.by_.form
            obtain ⟨B1, j1, rfl, _, _⟩ := hC7.2.ho.form
            obtain ⟨B2, j2, rfl, _, _⟩ := hC7.2.ma.form
            obtain ⟨B3, j3, rfl, _, _⟩ := hC7.2.nu.form
            obtain ⟨B4, j4, rfl, _, _⟩ := hC7.2.tx.form
            have HC7 := Lib.hid hC7
            have HE7 := Lib.hid (HE6.out.trans hE7)
            clear hC7 hE7 hN7
            have HB9 : Hid (Box9 (w7.alloc (.cells #[.slice Bn x.name.length jn, .int .i64 x.type, .int .i64 x.cls, .int .i64 x.ttl, .slice B0 x.data.bytes.length j0, .slice B1 x.data.host.length j1, .slice B2 x.data.mail.length j2, .slice B3 x.data.nums.length j3, .slice B4 x.data.texts.length j4] 49)) w7.heap.size _ _ _ _ _ _ _ _ _) := Lib.hid (heap_alloc_new w7 _)
            have HE9 := Lib.hid ((Ext.refl w7).alloc (.cells #[.slice Bn x.name.length jn, .int .i64 x.type, .int .i64 x.cls, .int .i64 x.ttl, .slice B0 x.data.bytes.length j0, .slice B1 x.data.host.length j1, .slice B2 x.data.mail.length j2, .slice B3 x.data.nums.length j3, .slice B4 x.data.texts.length j4] 49))
            go_wp2
            generalize w7.alloc (.cells #[.slice Bn x.name.length jn, .int .i64 x.type, .int .i64 x.cls, .int .i64 x.ttl, .slice B0 x.data.bytes.length j0, .slice B1 x.data.host.length j1, .slice B2 x.data.mail.length j2, .slice B3 x.data.nums.length j3, .slice B4 x.data.texts.length j4] 49) = W8 at *
            have HE8 := Lib.hid (HE7.out.trans HE9.out)
            have HEw := Lib.hid (HE5.out.trans HE8.out)
            obtain ⟨q0, q1, q2, q3, q4, q5, q6, q7, q8⟩ := HB9.out.cells
            have g0 := HEw.out.cell HCells.out.1
            have g1 := HEw.out.cell HCells.out.2.1
            have g2 := HEw.out.cell HCells.out.2.2.1
            have g3 := HEw.out.cell HCells.out.2.2.2.1
            have g4 := HEw.out.cell HCells.out.2.2.2.2.1
            have g5 := HEw.out.cell HCells.out.2.2.2.2.2.1
            have g6 := HEw.out.cell HCells.out.2.2.2.2.2.2.1
            have g7 := HEw.out.cell HCells.out.2.2.2.2.2.2.2.1
            have g8 := HEw.out.cell HCells.out.2.2.2.2.2.2.2.2
            have a1 := HE8.out.cell HA1.out
            unfold vInt at a1
            have HCall := Lib.hid (ref_SameRR_refl x _ _ _ _ _ _ _ _ _ _ _ _ W8.drew (HC7.out.ext HE9.out.drew) (HRec.out.ext HEw.out.drew) HOK.out.fit)
            have HS0 := Lib.hid (And.intro g0 (And.intro g1 (And.intro g2 (And.intro g3 (And.intro g4 (And.intro g5 (And.intro g6 (And.intro g7 (And.intro g8 (And.intro q0 (And.intro q1 (And.intro q2 (And.intro q3 (And.intro q4 (And.intro q5 (And.intro q6 (And.intro q7 (And.intro q8 a1))))))))))))))))))
            have hwr : IntKind.i64.wrap ((k : Int) + 1) = (k : Int) + 1 := wraps_i64 _ (by omega) (by omega)
            have b1 : (0 : Int) ≤ (k : Int) + 1 := by omega
            have b2 : (k : Int) + 1 < (l.length : Int) + 1 := by omega
            have b3 : ((k : Int) + 1).toNat = k + 1 := by omega
            go_region_held3 (fun W => W.cell? ⟨b, o + k * 9, none⟩ = some (.slice An x.name.length kn) ∧ W.cell? ⟨b, o + k * 9 + 1, none⟩ = some (.int .i64 x.type) ∧ W.cell? ⟨b, o + k * 9 + 2, none⟩ = some (.int .i64 x.cls) ∧ W.cell? ⟨b, o + k * 9 + 3, none⟩ = some (.int .i64 x.ttl) ∧ W.cell? ⟨b, o + k * 9 + 4, none⟩ = some (.slice A0 x.data.bytes.length k0) ∧ W.cell? ⟨b, o + k * 9 + 5, none⟩ = some (.slice A1 x.data.host.length k1) ∧ W.cell? ⟨b, o + k * 9 + 6, none⟩ = some (.slice A2 x.data.mail.length k2) ∧ W.cell? ⟨b, o + k * 9 + 7, none⟩ = some (.slice A3 x.data.nums.length k3) ∧ W.cell? ⟨b, o + k * 9 + 8, none⟩ = some (.slice A4 x.data.texts.length k4) ∧ W.cell? ⟨w7.heap.size, 0, none⟩ = some (.slice Bn x.name.length jn) ∧ W.cell? ⟨w7.heap.size, 1, none⟩ = some (.int .i64 x.type) ∧ W.cell? ⟨w7.heap.size, 2, none⟩ = some (.int .i64 x.cls) ∧ W.cell? ⟨w7.heap.size, 3, none⟩ = some (.int .i64 x.ttl) ∧ W.cell? ⟨w7.heap.size, 4, none⟩ = some (.slice B0 x.data.bytes.length j0) ∧ W.cell? ⟨w7.heap.size, 5, none⟩ = some (.slice B1 x.data.host.length j1) ∧ W.cell? ⟨w7.heap.size, 6, none⟩ = some (.slice B2 x.data.mail.length j2) ∧ W.cell? ⟨w7.heap.size, 7, none⟩ = some (.slice B3 x.data.nums.length j3) ∧ W.cell? ⟨w7.heap.size, 8, none⟩ = some (.slice B4 x.data.texts.length j4) ∧ W.cell? ⟨ba, oa + (k + 1), none⟩ = some (.int .i64 (P1 : Int)))
              (first | go_keep | exact ⟨HX2.out.cell HS0.out.1, HX2.out.cell HS0.out.2.1, HX2.out.cell HS0.out.2.2.1, HX2.out.cell HS0.out.2.2.2.1, HX2.out.cell HS0.out.2.2.2.2.1, HX2.out.cell HS0.out.2.2.2.2.2.1, HX2.out.cell HS0.out.2.2.2.2.2.2.1, HX2.out.cell HS0.out.2.2.2.2.2.2.2.1, HX2.out.cell HS0.out.2.2.2.2.2.2.2.2.1, HX2.out.cell HS0.out.2.2.2.2.2.2.2.2.2.1, HX2.out.cell HS0.out.2.2.2.2.2.2.2.2.2.2.1, HX2.out.cell HS0.out.2.2.2.2.2.2.2.2.2.2.2.1, HX2.out.cell HS0.out.2.2.2.2.2.2.2.2.2.2.2.2.1, HX2.out.cell HS0.out.2.2.2.2.2.2.2.2.2.2.2.2.2.1, HX2.out.cell HS0.out.2.2.2.2.2.2.2.2.2.2.2.2.2.2.1, HX2.out.cell HS0.out.2.2.2.2.2.2.2.2.2.2.2.2.2.2.2.1, HX2.out.cell HS0.out.2.2.2.2.2.2.2.2.2.2.2.2.2.2.2.2.1, HX2.out.cell HS0.out.2.2.2.2.2.2.2.2.2.2.2.2.2.2.2.2.2.1, HX2.out.cell HS0.out.2.2.2.2.2.2.2.2.2.2.2.2.2.2.2.2.2.2⟩)
              ((go_at_call 76; refine (HCall.out).mono ?_; rintro e w9 ⟨rfl, hb⟩; have HX2 := Lib.hid ((Ext.refl W8).drew.trans hb)))
            have HE2' := Lib.hid (HE8.out.trans HX2.out)
            clear hb q0 q1 q2 q3 q4 q5 q6 q7 q8 g0 g1 g2 g3 g4 g5 g6 g7 g8 a1
            go_wp2
            go_roundw
            case rel => exact ⟨k + 1, by omega, by go_num, HE2'.out⟩
            case measure => simp [intOf]; omega
          · go_wp2
            go_ret
            exact ⟨rfl, HE5.out.trans HE6.out⟩
end Go.Proofs.Ytfnelkcllaaebaa
end
