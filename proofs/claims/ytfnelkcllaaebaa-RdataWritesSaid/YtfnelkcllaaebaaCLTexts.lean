/- Parts of one proof, joined: LTexts. Conditions: those that each theorem states. -/
import Derived.Test.YtfnelkcllaaebaaB10
import Derived.Test.YtfnelkcllaaebaaB8
import Derived.Test.YtfnelkcllaaebaaB3
import Derived.Laws.MakeOwn
section
/- Contract of law04.RdataTexts. No condition but that the three numbers are bytes. -/
open Go.RowKit
set_option linter.unusedVariables false
set_option linter.unusedSimpArgs false
namespace Go.Proofs.Ytfnelkcllaaebaa
theorem rTexts_zeros (n : Nat) : ∀ (m a : Nat), n - a = m → a ≤ n → 0 < n → a ≤ 64 → rTexts (List.replicate n (0 : UInt8)) n a (List.replicate a (ofB [])) = if n ≤ 64 then .ok (List.replicate n (ofB []), n) else .error 4
  | 0, a, h1, h2, h3, h4 => by
    have e : a = n := by omega
    subst e
    unfold rTexts
    rw [dif_neg (by omega), if_neg (by intro h; have := congrArg List.length h; simp at this; omega), if_pos h4]
  | m + 1, a, h1, h2, h3, h4 => by
    unfold rTexts
    rw [dif_pos (by omega)]
    by_cases h5 : a = 64
    · rw [if_pos (by simp [h5]), if_neg (by omega)]
    · have hx : (List.replicate n (0 : UInt8))[a]? = some 0 := by rw [List.getElem?_replicate, if_pos (by omega)]
      rw [if_neg (by simp [h5]), hx]
      have e0 : (0 : UInt8).toNat = 0 := rfl
      simp only [e0, Nat.add_zero]
      rw [if_neg (by omega)]
      have e1 : (List.take (a + 1) (List.replicate n (0 : UInt8))).drop (a + 1) = [] := by
        apply List.drop_of_length_le; simp; omega
      rw [e1, show List.replicate a (ofB []) ++ [ofB []] = List.replicate (a + 1) (ofB []) from List.replicate_succ'.symm]
      exact rTexts_zeros n m (a + 1) (by omega) (by omega) h3 (by omega)
theorem get_zeros (n : Nat) (h : 0 < n) : (getData (List.replicate n (0 : UInt8)) 0 n 16).2 = if n ≤ 64 then 0 else 4 := by
  have e := getData_r (l := List.replicate n (0 : UInt8)) (a := 0) (s := n) (k := 16) (by omega) (by simp)
  have e2 := rTexts_zeros n n 0 (by omega) (by omega) h (by omega)
  rw [List.replicate_zero] at e2
  have e3 : shapeOf 16 = ⟨0, false, false, false, 0, 0, true, false⟩ := rfl
  rw [show ((0 : Nat) : Int) = 0 from rfl, e3, Nat.zero_add, rData_texts, e2] at e
  rw [e]
  by_cases h2 : n ≤ 64
  · rw [if_pos h2, if_pos h2]; simp
  · rw [if_neg h2, if_neg h2]
theorem get_none : (getData [] 0 0 16).2 = 2 := by
  have e := getData_r (l := []) (a := 0) (s := 0) (k := 16) (by omega) (by simp)
  have e3 : shapeOf 16 = ⟨0, false, false, false, 0, 0, true, false⟩ := rfl
  have e4 : rTexts [] 0 0 [] = .error 2 := by unfold rTexts; rw [dif_neg (by omega), if_pos rfl]
  rw [show ((0 : Nat) : Int) = 0 from rfl, e3, Nat.zero_add, rData_texts, e4] at e
  rw [e]
def xStr : Str := ⟨#[120]⟩
theorem sound_many (k : Nat) (h : 1 ≤ k) : rsound 16 ⟨[], [], [], [], List.replicate k xStr⟩ = decide (k ≤ 64) := by
  have e3 : shapeOf 16 = ⟨0, false, false, false, 0, 0, true, false⟩ := rfl
  unfold rsound
  rw [e3]
  unfold rsoundS
  have e : (List.replicate k xStr).any longT = false := by
    rw [List.any_eq_false]
    intro x hx
    rw [(List.mem_replicate.1 hx).2]; decide
  simp [e, h]
theorem sound_long (s : Str) : rsound 16 ⟨[], [], [], [], [s]⟩ = decide (s.size ≤ 255) := by
  have e3 : shapeOf 16 = ⟨0, false, false, false, 0, 0, true, false⟩ := rfl
  unfold rsound
  rw [e3]
  unfold rsoundS longT
  simp only [List.any_cons, List.any_nil, List.length_nil, List.length_cons, Bool.or_false]
  by_cases h : s.size ≤ 255
  · rw [decide_eq_true h, decide_eq_false (show ¬ 255 < s.size by omega)]; rfl
  · rw [decide_eq_false h, decide_eq_true (show 255 < s.size by omega)]; rfl
theorem made_get (l j : Nat) (h : j < l) : (madeCells #[Value.int .u8 0] l)[j]? = some (.int .u8 0) := by
  simp [madeCells, h, Nat.mod_one]
theorem made_blk (w : World) (l : Nat) : Blk vByte 5 (w.alloc (.cells (madeCells #[Value.int .u8 0] l) 5)) w.heap.size (List.replicate l 0) := by
  refine ⟨_, 0, 0, heap_alloc_new w _, by simp, ?_⟩
  intro j x hx
  rw [List.getElem?_replicate] at hx
  split at hx
  · injection hx with hx
    subst hx
    exact made_get l j (by assumption)
  · cases hx
theorem made_info : (Try.prog.info? 5).map (fun i => (i.zero, i.size, i.bytes)) = some (some (.int .u8 0), 1, 1) := by kernel_rfl
theorem made_run (l : Nat) (hl : l ≤ 1000) (w : World) : (Instr.makeSlice 22 (.int .i64 (l : Int)) (.int .i64 (l : Int))).run Try.prog w = .ok (.slice (some ⟨w.heap.size, 0, none⟩) l l) (w.alloc (.cells (madeCells #[Value.int .u8 0] l) 5)) := by
  obtain ⟨i0, hi, hzz⟩ := Option.map_eq_some_iff.1 made_info
  simp only [Prod.mk.injEq] at hzz
  obtain ⟨hz0, hz1, hz2⟩ := hzz
  have h := run_make (P := Try.prog) w 22 5 i0 (.int .u8 0) Try.underlying22 hi hz0 .i64 .i64 (l : Int) (l : Int) (by omega) (by omega) (by rw [hz2]; omega) (by omega)
  rw [h, hz1]
  simp [Value.cells]
def fillB (l j : Nat) (c : UInt8) : List UInt8 := List.replicate j c ++ List.replicate (l - j) 0
theorem fillB_len (l j : Nat) (c : UInt8) (h : j ≤ l) : (fillB l j c).length = l := by simp [fillB]; omega
theorem fillB_zero (l : Nat) (c : UInt8) : fillB l 0 c = List.replicate l 0 := by simp [fillB]
theorem fillB_all (l : Nat) (c : UInt8) : fillB l l c = List.replicate l c := by simp [fillB]
theorem fillB_succ (l j : Nat) (c : UInt8) (h : j < l) : (fillB l j c).set j c = fillB l (j + 1) c := by
  unfold fillB
  have e : l - j = (l - (j + 1)) + 1 := by omega
  rw [e, List.replicate_succ, List.set_append_right (s := List.replicate j c) (t := 0 :: List.replicate (l - (j + 1)) 0) j c (by simp)]
  simp only [List.length_replicate, Nat.sub_self, List.set_cons_zero]
  rw [List.replicate_succ' (n := j)]
  simp
theorem texts_world (wr : World) (c : UInt8) (j i : Nat) (hi : i ≤ 1000) :
    Ext wr (((wr.alloc (.cells #[.string (⟨Array.replicate j c⟩ : Str)] 9)).alloc (.cells #[nilS, nilS, nilS, nilS, .slice (some ⟨wr.heap.size, 0, none⟩) 1 1] 26)).alloc (.cells (madeCells #[.int .u8 0] i) 5)) ∧
    (((wr.alloc (.cells #[.string (⟨Array.replicate j c⟩ : Str)] 9)).alloc (.cells #[nilS, nilS, nilS, nilS, .slice (some ⟨wr.heap.size, 0, none⟩) 1 1] 26)).alloc (.cells (madeCells #[.int .u8 0] i) 5)).heap[wr.heap.size + 1]? = some (.cells #[nilS, nilS, nilS, nilS, .slice (some ⟨wr.heap.size, 0, none⟩) 1 1] 26 (0, 0)) ∧
    NameV (((wr.alloc (.cells #[.string (⟨Array.replicate j c⟩ : Str)] 9)).alloc (.cells #[nilS, nilS, nilS, nilS, .slice (some ⟨wr.heap.size, 0, none⟩) 1 1] 26)).alloc (.cells (madeCells #[.int .u8 0] i) 5)) (.slice (some ⟨wr.heap.size, 0, none⟩) 1 1) [(⟨Array.replicate j c⟩ : Str)] ∧
    BytesV (((wr.alloc (.cells #[.string (⟨Array.replicate j c⟩ : Str)] 9)).alloc (.cells #[nilS, nilS, nilS, nilS, .slice (some ⟨wr.heap.size, 0, none⟩) 1 1] 26)).alloc (.cells (madeCells #[.int .u8 0] i) 5)) (.slice (some ⟨wr.heap.size + 1 + 1, 0, none⟩) i i) (List.replicate i 0) := by
  generalize (⟨Array.replicate j c⟩ : Str) = st
  have h1 : Blk Value.string 9 (wr.alloc (.cells #[.string st] 9)) wr.heap.size [st] := by
    refine ⟨_, 0, 0, heap_alloc_new wr _, by simp, ?_⟩
    intro j x hx
    match j, hx with
    | 0, hx => simp at hx; subst hx; rfl
    | j + 1, hx => simp at hx
  have e1 : (wr.alloc (.cells #[.string st] 9)).heap.size = wr.heap.size + 1 := by simp
  refine ⟨(((Ext.refl wr).alloc _).alloc _).alloc _, ?_, ?_, ?_⟩
  · have := heap_alloc_new (wr.alloc (.cells #[.string st] 9)) (.cells #[nilS, nilS, nilS, nilS, .slice (some ⟨wr.heap.size, 0, none⟩) 1 1] 26)
    rw [e1] at this
    exact ((Ext.refl _).alloc _).block this
  · exact ((h1.fl 1 1 rfl (by omega) (by decide)).ext ((Ext.refl _).alloc _)).ext ((Ext.refl _).alloc _)
  · have h2 := made_blk ((wr.alloc (.cells #[.string st] 9)).alloc (.cells #[nilS, nilS, nilS, nilS, .slice (some ⟨wr.heap.size, 0, none⟩) 1 1] 26)) i
    have e2 : ((wr.alloc (.cells #[.string st] 9)).alloc (.cells #[nilS, nilS, nilS, nilS, .slice (some ⟨wr.heap.size, 0, none⟩) 1 1] 26)).heap.size = wr.heap.size + 1 + 1 := by simp
    rw [e2] at h2
    exact h2.fl i i (by simp) (Nat.le_refl _) (by unfold maxI; omega)
set_option maxRecDepth 100000 in
set_option maxHeartbeats 1000000 in
theorem law04_RdataTexts (n m : Int) (c : UInt8) (hn : 0 ≤ n ∧ n ≤ 255) (hm : 0 ≤ m ∧ m ≤ 255) (w : World) :
    Calls Try.prog 4 #[.int .u8 n, .int .u8 m, .int .u8 (c.toNat : Int)] w fun e w' => e = .returned (.bool true) ∧ Ext w w' := by
  obtain ⟨k, hk1, hk2, hk3⟩ : ∃ k : Nat, 60 ≤ k ∧ k ≤ 67 ∧ 60 + n % 8 = (k : Int) := ⟨(60 + n % 8).toNat, by omega, by omega, by omega⟩
  obtain ⟨l, hl1, hl2, hl3⟩ : ∃ k : Nat, 250 ≤ k ∧ k ≤ 259 ∧ 250 + m % 10 = (k : Int) := ⟨(250 + m % 10).toNat, by omega, by omega, by omega⟩
  have hmk := made_run l (by omega)
  have hB0 := Lib.hid (made_blk w l)
  have hE0 := Lib.hid ((Ext.refl w).alloc (.cells (madeCells #[Value.int .u8 0] l) 5))
  go_enter Try.func4, Try.ntmps4
  go_wp2
  generalize hZ : w.alloc (.cells (madeCells #[Value.int .u8 0] l) 5) = W0 at *
  clear hZ hmk
  go_loopw [10] (fun i wr => ∃ j : Nat, j ≤ l ∧ i = .int .i64 j ∧ Blk vByte 5 wr w.heap.size (fillB l j c) ∧ Ext w wr) (fun i _ => l - (intOf i).toNat)
  case atStart => exact ⟨0, by omega, rfl, by rw [fillB_zero]; exact hB0.out, hE0.out⟩
  case round =>
    obtain ⟨j, hj, rfl, hB, hE⟩ := hrel
    rename World => Wt
    by_cases hlt : j < l
    · have hfr := hB.free j (by rw [fillB_len _ _ _ hj]; exact hlt)
      have hx := List.getElem?_eq_getElem (l := fillB l j c) (i := j) (by rw [fillB_len _ _ _ hj]; exact hlt)
      have hcl := hB.cell j _ hx
      clear hx
      go_wp2
      go_roundw
      case rel => exact ⟨j + 1, by omega, by go_num, by rw [← fillB_succ l j c hlt]; exact hB.set j c, hE.setCell (Nat.le_refl _) _⟩
      case measure => simp [intOf]; omega
    · obtain rfl : j = l := by omega
      rw [fillB_all] at hB
      have HBt := Lib.hid hB
      have HEt := Lib.hid hE
      clear hB hE
      go_wp2
      generalize hg : Wt.heap.size = g at *
      have hbx0 : (Wt.alloc (.cells #[nilS, nilS, nilS, nilS, nilS] 26)).heap[g]? = some (.cells #[nilS, nilS, nilS, nilS, nilS] 26 (0, 0)) := by rw [← hg]; exact heap_alloc_new Wt _
      have hex0 : Ext Wt (Wt.alloc (.cells #[nilS, nilS, nilS, nilS, nilS] 26)) := (Ext.refl Wt).alloc _
      have hsz0 : (Wt.alloc (.cells #[nilS, nilS, nilS, nilS, nilS] 26)).heap.size = g + 1 := by rw [← hg]; simp
      generalize hW1 : Wt.alloc (.cells #[nilS, nilS, nilS, nilS, nilS] 26) = W1 at *
      have HBX := Lib.hid hbx0
      have HEX := Lib.hid hex0
      clear hW1 hbx0 hex0
      go_loopw [12] (fun i wi => ∃ (j : Nat) (v4 : Value), j ≤ k ∧ i = .int .i64 j ∧ wi.heap[g]? = some (.cells #[nilS, nilS, nilS, nilS, v4] 26 (0, 0)) ∧ OwnL Value.string 9 wi (g + 1) v4 (List.replicate j xStr) ∧ Ext Wt wi) (fun i _ => k - (intOf i).toNat)
      case atStart => exact ⟨0, nilS, by omega, rfl, HBX.out, OwnL.nil _ _ _ _, HEX.out⟩
      case round =>
        obtain ⟨i, v4, hi, rfl, hbx, hO, hEi⟩ := hrel
        have hsz : g + 1 ≤ wr.heap.size := by have := (Array.getElem?_eq_some_iff.1 hbx).1; omega
        by_cases hlt2 : i < k
        · have c4 : wr.cell? ⟨g, 4, none⟩ = some v4 := by simp [World.cell?, hbx]
          have HBx := Lib.hid hbx
          have HO := Lib.hid hO
          have HEi := Lib.hid hEi
          have hne : ∀ i, v4.ownBlock = some i → g + 1 ≤ i := hO.base_le
          have Hne := Lib.hid hne
          have HL := Lib.hid (show ((List.replicate i xStr).length + 1) * 16 ≤ 140737488355328 by simp; omega)
          obtain ⟨A4, n4, k4, rfl⟩ := hO.slice
          clear hbx hO hEi hne
          go_wp2_with (at_builtin; go_must (refine wpList_app1 Value.string (g + 1) rfl (.tmp 46) (.tmp 47) 23 9 (.string ⟨#[]⟩) 16 rfl Try.underlying23 (by kernel_rfl) rfl (by decide) _ (List.replicate i xStr) xStr rfl rfl rfl HO.out (by omega) HL.out ?_); intro v1 w1 hO1 hg1; obtain ⟨A1, n1, k1, rfl⟩ := hO1.slice; have hb1 := blk_grown HBx.out hg1 (ne_row (by omega) Hne.out); have hc4 : w1.cell? ⟨g, 4, none⟩ = some (.slice A4 n4 k4) := (by simp [World.cell?, hb1]); have hf4 : w1.frozen? ⟨g, 4, none⟩ = false := (by simp [World.frozen?, hb1]); have HB1 := Lib.hid hb1; have HO1 := Lib.hid hO1; have HG1 := Lib.hid hg1; clear hb1 hO1 hg1)
          go_roundw
          case rel =>
            refine ⟨i + 1, .slice A1 n1 k1, by omega, by go_num, ?_, ?_, ?_⟩
            · simp [World.setCell, Array.getElem?_modify, HB1.out]
            · rw [List.replicate_succ']
              exact HO1.out.set_other (by omega) _ _
            · exact (HEi.out.grown HG1.out (fun q hq => by have := Hne.out q hq; omega)).setCell (by show Wt.heap.size ≤ g; omega) _
          case measure => simp [intOf]; omega
        · obtain rfl : i = k := by omega
          have hE2 := HEt.out.trans hEi
          have HBx := Lib.hid hbx
          have HO := Lib.hid hO
          have HE2 := Lib.hid hE2
          have hBt2 := (HBt.out.ext hEi)
          have hcv := conv_string (hBt2.fl j j (by simp) (Nat.le_refl _) (by unfold maxI; omega))
          obtain ⟨A4, n4, k4, rfl⟩ := hO.slice
          clear hbx hO hEi hE2 hBt2
          have hmk := made_run i (by omega)
          go_wp2_with fail
          have hX := texts_world wr c j i (by omega)
          generalize hsw : (⟨Array.replicate j c⟩ : Str) = st at *
          have hst : st.size = j := by rw [← hsw]; simp [ByteArray.size]
          clear hsw
          generalize ((wr.alloc (.cells #[.string st] 9)).alloc (.cells #[nilS, nilS, nilS, nilS, .slice (some ⟨wr.heap.size, 0, none⟩) 1 1] 26)).alloc (.cells (madeCells #[.int .u8 0] i) 5) = W3 at *
          obtain ⟨hx0, hx1, hx2, hx3⟩ := hX
          have HX0 := Lib.hid hx0
          have HX1 := Lib.hid hx1
          have HX2 := Lib.hid hx2
          have HX3 := Lib.hid hx3
          have HST := Lib.hid hst
          generalize wr.heap.size = q at *
          clear hx0 hx1 hx2 hx3 hst hcv hmk
          refine (rdata_Get (List.replicate i 0) 0 i 16 _ W3 HX3.out (by simp; omega)).mono ?_
          rintro e w4 ⟨hE4, v, he, hD⟩
          rw [get_zeros i (by omega)] at he
          obtain ⟨x0, x1, x2, x3, x4, rfl, g0, g1, g2, g3, g4⟩ := hD
          obtain ⟨B0, m0, r0, rfl⟩ := g0.slice
          obtain ⟨B1, m1, r1, rfl⟩ := g1.slice
          obtain ⟨B2, m2, r2, rfl⟩ := g2.slice
          obtain ⟨B3, m3, r3, rfl⟩ := g3.slice
          obtain ⟨B4, m4, r4, rfl⟩ := g4.slice
          clear g0 g1 g2 g3 g4
          subst he
          have HE4 := Lib.hid (HX0.out.trans hE4)
          have HV4 := Lib.hid (HX2.out.ext hE4)
          have HB4 := Lib.hid (hE4.block HX1.out)
          clear hE4
          rcases Nat.lt_or_ge 64 i with K | K
          all_goals rcases Nat.lt_or_ge 255 j with L | L
          all_goals
            first | rw [if_pos K] | rw [if_neg (show ¬ i ≤ 64 by omega)]
            go_wp2_with fail
            refine (rdata_Get [] 0 0 16 _ _ (Fl.nil _ _) (by simp)).mono ?_
            rintro e w5 ⟨hE5, v, he, hD⟩
            rw [get_none] at he
            obtain ⟨y0, y1, y2, y3, y4, rfl, g0, g1, g2, g3, g4⟩ := hD
            obtain ⟨C0, p0, t0, rfl⟩ := g0.slice
            obtain ⟨C1, p1, t1, rfl⟩ := g1.slice
            obtain ⟨C2, p2, t2, rfl⟩ := g2.slice
            obtain ⟨C3, p3, t3, rfl⟩ := g3.slice
            obtain ⟨C4, p4, t4, rfl⟩ := g4.slice
            clear g0 g1 g2 g3 g4
            subst he
            have HE5 := Lib.hid (((Ext.refl w4).alloc (.cells #[.slice B0 m0 r0, .slice B1 m1 r1, .slice B2 m2 r2, .slice B3 m3 r3, .slice B4 m4 r4] 26)).trans hE5)
            clear hE5
            go_wp2_with fail
            refine (law04_answers _).mono ?_
            rintro e w6 ⟨rfl, hE6⟩
            have HE6 := Lib.hid (HE5.out.trans (((Ext.refl w5).alloc _).trans hE6))
            clear hE6
            have hb1 := HE6.out.block (HE4.out.block HBx.out)
            have c0 : w6.cell? ⟨g, 0, none⟩ = some nilS := by simp [World.cell?, hb1]
            have c1 : w6.cell? ⟨g, 1, none⟩ = some nilS := by simp [World.cell?, hb1]
            have c2 : w6.cell? ⟨g, 2, none⟩ = some nilS := by simp [World.cell?, hb1]
            have c3 : w6.cell? ⟨g, 3, none⟩ = some nilS := by simp [World.cell?, hb1]
            have c4 : w6.cell? ⟨g, 4, none⟩ = some (.slice A4 n4 k4) := by simp [World.cell?, hb1]
            clear hb1
            go_wp2_with fail
            refine (rdata_Sound 16 ⟨[], [], [], [], List.replicate i xStr⟩ _ _ _ _ _ w6 ⟨Fl.nil _ _, Fl.nil _ _, Fl.nil _ _, Fl.nil _ _, HO.out.fl.ext (HE4.out.trans HE6.out)⟩ ⟨by simp [Fits], by simp [Fits]⟩ (fun x hx => by rw [(List.mem_replicate.1 hx).2]; decide)).mono ?_
            rintro e w7 ⟨rfl, hE7⟩
            rw [sound_many i (by omega)]
            have HE7 := Lib.hid (HE6.out.trans hE7)
            clear hE7 c0 c1 c2 c3 c4
            have hb1 := HE7.out.block HB4.out
            have c0 : w7.cell? ⟨q + 1, 0, none⟩ = some nilS := by simp [World.cell?, hb1]
            have c1 : w7.cell? ⟨q + 1, 1, none⟩ = some nilS := by simp [World.cell?, hb1]
            have c2 : w7.cell? ⟨q + 1, 2, none⟩ = some nilS := by simp [World.cell?, hb1]
            have c3 : w7.cell? ⟨q + 1, 3, none⟩ = some nilS := by simp [World.cell?, hb1]
            have c4 : w7.cell? ⟨q + 1, 4, none⟩ = some (.slice (some ⟨q, 0, none⟩) 1 1) := by simp [World.cell?, hb1]
            clear hb1
            first | rw [decide_eq_true (show i ≤ 64 from K)] | rw [decide_eq_false (show ¬ i ≤ 64 by omega)]
            go_wp2_with fail
            refine (rdata_Sound 16 ⟨[], [], [], [], [st]⟩ _ _ _ _ _ w7 ⟨Fl.nil _ _, Fl.nil _ _, Fl.nil _ _, Fl.nil _ _, HV4.out.ext HE7.out⟩ ⟨by simp [Fits], by simp [Fits]⟩ (fun x hx => by rw [List.mem_singleton.1 hx, HST.out]; unfold maxI; omega)).mono ?_
            rintro e w8 ⟨rfl, hE8⟩
            rw [sound_long, HST.out]
            have HE8 := Lib.hid ((HE2.out.trans HE4.out).trans (HE7.out.trans hE8))
            clear hE8 c0 c1 c2 c3 c4
            first | rw [decide_eq_true (show j ≤ 255 from L)] | rw [decide_eq_false (show ¬ j ≤ 255 by omega)]
            go_wp2
            go_ret
            exact ⟨ret_eq (bool_eq (by first | rfl | (simp; omega))), HE8.out⟩
end Go.Proofs.Ytfnelkcllaaebaa
end
