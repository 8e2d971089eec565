/- Parts of one proof, joined: LWr. Conditions: those that each theorem states. -/
import Derived.Test.YtfnelkcllaaebaaCBoth
section
/- Contract of law05.RrWrites. No condition but that the slice reads as a list, and the strings' and numbers' sizes. -/
open Go.RowKit
set_option linter.unusedVariables false
set_option linter.unusedSimpArgs false
namespace Go.Proofs.Ytfnelkcllaaebaa
set_option maxRecDepth 100000 in
set_option maxHeartbeats 1000000 in
theorem law05_RrWrites (l : List Rec) (v : Value) (w : World) (hv : RecsV w v l) (fr : ∀ r ∈ l, ROk r) :
    Calls Try.prog 14 #[v] w fun e w' => e = .returned (.bool true) ∧ Ext w w' := by
  have hll := hv.len
  have HV := Lib.hid hv
  have FR := Lib.hid fr
  obtain ⟨A, c, rfl, h1, h2⟩ := hv.form
  clear hv fr
  unfold maxI at *
  go_enter Try.func14, Try.ntmps14
  go_wp2_with fail
  refine (law05_answers _).mono ?_
  rintro e w2 ⟨rfl, hE2⟩
  have HE2 := Lib.hid hE2
  clear hE2
  go_wp2_with fail
  refine (law05_light l _ w2 (HV.out.ext HE2.out)).mono ?_
  rintro e w3 ⟨rfl, hE3⟩
  have HE3 := Lib.hid (HE2.out.trans hE3)
  clear hE3
  cases hL : light5 l with
  | false =>
    clear hL
    go_wp2_with fail
    refine (law05_answers _).mono ?_
    rintro e w4 ⟨rfl, hE4⟩
    go_wp2
    go_ret
    exact ⟨rfl, HE3.out.trans hE4⟩
  | true =>
    obtain ⟨hroom, h60⟩ := light5_room hL
    have HR := Lib.hid hroom
    clear hroom hL
    go_wp2_with fail
    refine (wname_New w3).mono ?_
    rintro e w4 ⟨rfl, hW4, hE4⟩
    have HE4 := Lib.hid (HE3.out.trans hE4)
    have hg3 : w.heap.size ≤ w3.heap.size := HE3.out.size
    have hg4 : w3.heap.size + 2 ≤ w4.heap.size := by have := hW4.lt _ (.inl rfl); omega
    have hI0 : Both w (w3.heap.size + 1) w3.heap.size (.slice none 0 0) 0 [] (fun _ => none) w4.heap.size (.slice none 0 0) (.slice none 0 0) [] (fun _ => none) 0 (w4.alloc (.cells #[.slice none 0 0, .slice none 0 0] 76)) :=
      ⟨hW4.ext ((Ext.refl _).alloc _), mr_new (heap_alloc_new w4 _), HE4.out.alloc _, (by rintro j (rfl | rfl | hj); omega; omega; simp [Value.ownBlock] at hj), (by rintro j (rfl | hj | hj); omega; exact absurd rfl hj.1; simp [Value.ownBlock] at hj),
        (by rintro j (rfl | rfl | hj) <;> rintro (h | h | h) <;> first | omega | (exact absurd rfl h.1) | (simp [Value.ownBlock] at h) | (simp [Value.ownBlock] at hj))⟩
    have HI0 := Lib.hid hI0
    clear hI0 hW4 hE4
    go_wp2
    generalize w4.alloc (.cells #[.slice none 0 0, .slice none 0 0] 76) = w5 at *
    generalize w4.heap.size = q at *
    generalize w3.heap.size + 1 = p at *
    generalize w3.heap.size = mp at *
    clear hg3 hg4
    go_loopw [5] (fun i wr => ∃ (k : Nat) (vc : Value) (Nm : Nat) (u t : Value) (B : List UInt8) (F : Rests), k ≤ l.length ∧ i = .int .i64 k ∧ Both w p mp vc Nm B F q u t B F (900 * k) wr ∧ Nm ≤ B.length ∧ Good B F ∧ B.length ≤ 200000) (fun i _ => l.length - (intOf i).toNat)
    case atStart => exact ⟨0, _, _, _, _, [], _, by omega, rfl, HI0.out, by simp, Good.nil, by simp⟩
    case round =>
      obtain ⟨k, vc, Nm, u, t, B, F, hk, rfl, hI, hNm, hGd, hBl⟩ := hrel
      have HI := Lib.hid hI
      have HNm := Lib.hid hNm
      have HGd := Lib.hid hGd
      have HBl := Lib.hid hBl
      have hB0 := hBl
      obtain ⟨Au, cu, rfl⟩ := hI.mr.slice
      obtain ⟨m0, m1, mf⟩ := hI.mr.cells
      clear hI hNm hGd hBl
      by_cases hgo : k < l.length ∧ B.length < 100000
      · obtain ⟨hlt, h100⟩ := hgo
        have j100 : decide ((B.length : Int) < 100000) = true := by rw [decide_eq_true_eq]; omega
        have H100 := Lib.hid h100
        clear h100 hB0
        obtain ⟨b, o, c1, e1, _, _, _⟩ := HV.out.opens (by omega)
        injection e1 with e1 e3 e4
        subst e1
        clear e3 e4
        have hx := List.getElem?_eq_getElem hlt
        obtain ⟨vn, v0, v1, v2, v3, v4, hn, hd, c0', c1', c2', c3', c4', c5', c6', c7', c8'⟩ := recs_cells HV.out hx
        obtain ⟨An, kn, rfl, _, _⟩ := hn.form
        obtain ⟨A0, k0, rfl, _, _⟩ := hd.by_.form
        obtain ⟨A1, k1, rfl, _, _⟩ := hd.ho.form
        obtain ⟨A2, k2, rfl, _, _⟩ := hd.ma.form
        obtain ⟨A3, k3, rfl, _, _⟩ := hd.nu.form
        obtain ⟨A4, k4, rfl, _, _⟩ := hd.tx.form
        have HCells := Lib.hid (And.intro c0' (And.intro c1' (And.intro c2' (And.intro c3' (And.intro c4' (And.intro c5' (And.intro c6' (And.intro c7' c8'))))))))
        have hmem := List.mem_of_getElem? hx
        have HRec := Lib.hid (show RecC w _ _ _ _ _ _ l[k] from ⟨hn, hd⟩)
        have HOK := Lib.hid (FR.out _ hmem)
        have HRm := Lib.hid (HR.out _ hmem)
        clear c0' c1' c2' c3' c4' c5' c6' c7' c8' hn hd hmem hx
        generalize l[k] = x at *
        have HIE := Lib.hid HI.out.ext
        have g0 := HIE.out.cell HCells.out.1
        have g1 := HIE.out.cell HCells.out.2.1
        have g2 := HIE.out.cell HCells.out.2.2.1
        have g3 := HIE.out.cell HCells.out.2.2.2.1
        have g4 := HIE.out.cell HCells.out.2.2.2.2.1
        have g5 := HIE.out.cell HCells.out.2.2.2.2.2.1
        have g6 := HIE.out.cell HCells.out.2.2.2.2.2.2.1
        have g7 := HIE.out.cell HCells.out.2.2.2.2.2.2.2.1
        have g8 := HIE.out.cell HCells.out.2.2.2.2.2.2.2.2
        go_wp2_with fail
        clear m0 m1 mf
        clear g0 g1 g2 g3 g4 g5 g6 g7 g8
        refine (law05_own x _ _ _ _ _ _ wr (HRec.out.ext HIE.out) HRm.out).mono ?_
        rintro e w6 ⟨hE6, un, u0, u1, u2, u3, u4, rfl, hN6⟩
        have HB6 := Lib.hid (HI.out.to_ext hE6)
        have HB6E := Lib.hid HB6.out.ext
        have HC6 := Lib.hid (recN_stb (S := fun _ => False) hN6 (fun _ h => h.elim) w6 (Kp.refl _ _))
        have HST := Lib.hid (recN_stb (S := Sof p mp vc) hN6 (fun j hj => HI.out.wr.lt j hj))
        clear hE6 hN6
        cases hs : rrsound x with
        | false =>
          have HSd := Lib.hid hs
          clear hs
          go_wp2_with fail
          refine (rr_Put_bad x p _ _ _ _ _ _ w6 HC6.out HOK.out.fit HOK.out.2.1.2.1 HSd.out).mono ?_
          rintro e w7 ⟨rfl, hE7⟩
          have HB7 := Lib.hid (HB6.out.to_ext hE7)
          have HB7E := Lib.hid HB7.out.ext
          clear hE7
          have g0 := HB7E.out.cell HCells.out.1
          have g1 := HB7E.out.cell HCells.out.2.1
          have g2 := HB7E.out.cell HCells.out.2.2.1
          have g3 := HB7E.out.cell HCells.out.2.2.2.1
          have g4 := HB7E.out.cell HCells.out.2.2.2.2.1
          have g5 := HB7E.out.cell HCells.out.2.2.2.2.2.1
          have g6 := HB7E.out.cell HCells.out.2.2.2.2.2.2.1
          have g7 := HB7E.out.cell HCells.out.2.2.2.2.2.2.2.1
          have g8 := HB7E.out.cell HCells.out.2.2.2.2.2.2.2.2
          go_wp2_with fail
          clear g0 g1 g2 g3 g4 g5 g6 g7 g8
          refine (ref_SoundRR x _ _ _ _ _ _ w7 (HRec.out.ext HB7E.out) HOK.out.2.1.2.2 (i64_range HOK.out.2.2.2.1).2).mono ?_
          rintro e w8 ⟨rfl, hE8⟩
          have HB8 := Lib.hid (HB7.out.to_ext hE8)
          have HB8E := Lib.hid HB8.out.ext
          rw [HSd.out]
          clear hE8
          have g0 := HB8E.out.cell HCells.out.1
          have g1 := HB8E.out.cell HCells.out.2.1
          have g2 := HB8E.out.cell HCells.out.2.2.1
          have g3 := HB8E.out.cell HCells.out.2.2.2.1
          have g4 := HB8E.out.cell HCells.out.2.2.2.2.1
          have g5 := HB8E.out.cell HCells.out.2.2.2.2.2.1
          have g6 := HB8E.out.cell HCells.out.2.2.2.2.2.2.1
          have g7 := HB8E.out.cell HCells.out.2.2.2.2.2.2.2.1
          have g8 := HB8E.out.cell HCells.out.2.2.2.2.2.2.2.2
          go_wp2_with fail
          clear g0 g1 g2 g3 g4 g5 g6 g7 g8
          refine (law05_own x _ _ _ _ _ _ w8 (HRec.out.ext HB8E.out) HRm.out).mono ?_
          rintro e w9 ⟨hE9, un, u0, u1, u2, u3, u4, rfl, hN9⟩
          have HB9 := Lib.hid (HB8.out.to_ext hE9)
          have HB9E := Lib.hid HB9.out.ext
          have HC9 := Lib.hid (recN_stb (S := fun _ => False) hN9 (fun _ h => h.elim) w9 (Kp.refl _ _))
          clear hE9 hN9
          go_wp2_with fail
          refine (rr_Sound x _ _ _ _ _ _ w9 HC9.out HOK.out.fit HOK.out.2.1.2.1).mono ?_
          rintro e w10 ⟨rfl, hE10⟩
          have HB10 := Lib.hid (HB9.out.to_ext hE10)
          rw [HSd.out]
          clear hE10
          go_wp2
          go_roundw
          case rel => exact ⟨k + 1, vc, Nm, _, _, B, F, by omega, by go_num, HB10.out.mono (by omega), HNm.out, HGd.out, HBl.out⟩
          case measure => simp [intOf]; omega
        | true =>
          have HSd := Lib.hid hs
          have HBk := Lib.hid (rr_back hs HGd.out)
          clear hs
          go_wp2_with fail
          refine (rr_Put x p mp vc _ _ _ _ _ _ Nm B F w6 HB6.out.wr HNm.out HGd.out HST.out HOK.out.fit HOK.out.2.1.2.1 HSd.out (by have := HBl.out; omega)).mono ?_
          rintro e w7 ⟨rfl, N7, hN7, hw7⟩
          obtain ⟨v7, hB7⟩ := HB6.out.wrote hw7
          have HN7 := Lib.hid hN7
          have HB7 := Lib.hid hB7
          have HB7E := Lib.hid hB7.ext
          clear hw7 hB7 hN7
          have g0 := HB7E.out.cell HCells.out.1
          have g1 := HB7E.out.cell HCells.out.2.1
          have g2 := HB7E.out.cell HCells.out.2.2.1
          have g3 := HB7E.out.cell HCells.out.2.2.2.1
          have g4 := HB7E.out.cell HCells.out.2.2.2.2.1
          have g5 := HB7E.out.cell HCells.out.2.2.2.2.2.1
          have g6 := HB7E.out.cell HCells.out.2.2.2.2.2.2.1
          have g7 := HB7E.out.cell HCells.out.2.2.2.2.2.2.2.1
          have g8 := HB7E.out.cell HCells.out.2.2.2.2.2.2.2.2
          go_wp2_with fail
          clear g0 g1 g2 g3 g4 g5 g6 g7 g8
          refine (ref_SoundRR x _ _ _ _ _ _ w7 (HRec.out.ext HB7E.out) HOK.out.2.1.2.2 (i64_range HOK.out.2.2.2.1).2).mono ?_
          rintro e w8 ⟨rfl, hE8⟩
          have HB8 := Lib.hid (HB7.out.to_ext hE8)
          have HB8E := Lib.hid HB8.out.ext
          rw [HSd.out]
          clear hE8
          have g0 := HB8E.out.cell HCells.out.1
          have g1 := HB8E.out.cell HCells.out.2.1
          have g2 := HB8E.out.cell HCells.out.2.2.1
          have g3 := HB8E.out.cell HCells.out.2.2.2.1
          have g4 := HB8E.out.cell HCells.out.2.2.2.2.1
          have g5 := HB8E.out.cell HCells.out.2.2.2.2.2.1
          have g6 := HB8E.out.cell HCells.out.2.2.2.2.2.2.1
          have g7 := HB8E.out.cell HCells.out.2.2.2.2.2.2.2.1
          have g8 := HB8E.out.cell HCells.out.2.2.2.2.2.2.2.2
          go_wp2_with fail
          clear g0 g1 g2 g3 g4 g5 g6 g7 g8
          refine (law05_own x _ _ _ _ _ _ w8 (HRec.out.ext HB8E.out) HRm.out).mono ?_
          rintro e w9 ⟨hE9, un, u0, u1, u2, u3, u4, rfl, hN9⟩
          have HB9 := Lib.hid (HB8.out.to_ext hE9)
          have HB9E := Lib.hid HB9.out.ext
          have HC9 := Lib.hid (recN_stb (S := fun _ => False) hN9 (fun _ h => h.elim) w9 (Kp.refl _ _))
          clear hE9 hN9
          go_wp2_with fail
          refine (rr_Sound x _ _ _ _ _ _ w9 HC9.out HOK.out.fit HOK.out.2.1.2.1).mono ?_
          rintro e w10 ⟨rfl, hE10⟩
          have HB10 := Lib.hid (HB9.out.to_ext hE10)
          have HB10E := Lib.hid HB10.out.ext
          rw [HSd.out]
          clear hE10
          have g0 := HB10E.out.cell HCells.out.1
          have g1 := HB10E.out.cell HCells.out.2.1
          have g2 := HB10E.out.cell HCells.out.2.2.1
          have g3 := HB10E.out.cell HCells.out.2.2.2.1
          have g4 := HB10E.out.cell HCells.out.2.2.2.2.1
          have g5 := HB10E.out.cell HCells.out.2.2.2.2.2.1
          have g6 := HB10E.out.cell HCells.out.2.2.2.2.2.2.1
          have g7 := HB10E.out.cell HCells.out.2.2.2.2.2.2.2.1
          have g8 := HB10E.out.cell HCells.out.2.2.2.2.2.2.2.2
          go_wp2_with fail
          clear g0 g1 g2 g3 g4 g5 g6 g7 g8
          refine (mx_PutRR x q _ _ _ _ _ _ _ _ B F (900 * k) w10 HB10.out.mr HGd.out (Stb.of_old (fun w' hE => HRec.out.ext hE) HB10E.out HB10.out.smr) HSd.out (by have := HBl.out; omega) (by omega)).mono ?_
          rintro e w11 ⟨rfl, hw11⟩
          obtain ⟨u11, t11, hB11⟩ := HB10.out.wrt hw11
          have HB11 := Lib.hid hB11
          clear hw11 hB11
          go_wp2
          go_roundw
          case rel => exact ⟨k + 1, v7, N7, u11, t11, _, _, by omega, by go_num, HB11.out.mono (by omega), HN7.out, HBk.out.1, by rw [bytes_len]; have := HBk.out.2.2.2; have := H100.out; omega⟩
          case measure => simp [intOf]; omega
      · have hend : k < l.length → 100000 ≤ B.length := fun h => by omega
        clear hgo
        have HEnd : Hid True := Lib.hid trivial
        by_cases hlt : k < l.length
        all_goals
          first | (have h100 := hend hlt; have j100 : decide ((B.length : Int) < 100000) = false := (by rw [decide_eq_false_iff_not]; omega); clear h100) | skip
          clear hend hB0
          go_wp2
          have HBy := fun W (hE : Ext wr W) => wname_Bytes p mp vc Nm B F W (HI.out.wr.ext hE) (by have := HBl.out; omega)
          have HBy := Lib.hid HBy
          have HU := Lib.hid HI.out.mr
          go_region_held3 (fun W => W.cell? ⟨q, 0, none⟩ = some (.slice Au B.length cu))
            (first | go_keep | exact HX6.out | exact HX7.out | exact HX8.out)
            (first | (go_at_call 63; refine (HBy.out wr.drew (Ext.refl wr).drew).mono ?_; rintro e w6 ⟨v6, rfl, hO6, hE6⟩; have HO6 := Lib.hid hO6.fl; have HE6 := Lib.hid ((Ext.refl wr).drew.trans hE6); have HX6 := Lib.hid (HE6.out.cell (HU.out.cells).1); obtain ⟨A6, c6, rfl, _, _⟩ := hO6.fl.form; clear hO6 hE6) | (go_at_call 39; refine (ref_Same _ _ B B w6 HO6.out ((by obtain ⟨rs, h1, _⟩ := HU.out.ext HE6.out; exact h1.row.1.1))).mono ?_; rintro e w7 ⟨rfl, hD7⟩; have HE7 := Lib.hid (HE6.out.trans hD7.ext); have HX7 := Lib.hid (HE7.out.cell (HU.out.cells).1); rw [decide_eq_true rfl]; clear hD7) | (go_at_call 70; refine (rr_Put_nil 99 w7).mono ?_; rintro e w8 ⟨rfl, hE8⟩; have HE8 := Lib.hid (HE7.out.trans hE8); have HX8 := Lib.hid (HE8.out.cell (HU.out.cells).1); clear hE8))
          go_wp2
          trace_state
          go_ret
          exact ⟨rfl, HI.out.ext.trans HE8.out⟩
end Go.Proofs.Ytfnelkcllaaebaa
end
