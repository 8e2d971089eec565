/- Parts of one proof, joined: LDWr. Conditions: those that each theorem states. -/
import Derived.Test.YtfnelkcllaaebaaCBoth
section
/- Contract of law04.RdataWrites. No condition but that the data and the names stand in memory, and the strings' and numbers' sizes. -/
open Go.RowKit
set_option linter.unusedVariables false
set_option linter.unusedSimpArgs false
namespace Go.Proofs.Ytfnelkcllaaebaa
theorem nms_cell {w : World} {b o n c k : Nat} {l : List (List Str)} {x : List Str} (h : NmsV w (.slice (some ⟨b, o, none⟩) n c) l) (hx : l[k]? = some x) : ∃ vn, NameV w vn x ∧ w.cell? ⟨b, o + k, none⟩ = some vn := by
  have hk : 0 < l.length := by have := (List.getElem?_eq_some_iff.1 hx).1; omega
  obtain ⟨A, c', e, _, _, h3⟩ := h
  obtain ⟨b', o', rfl, hc⟩ := h3 hk
  injection e with e _ _
  injection e with e
  injection e with e1 e2 _
  subst e1 e2
  obtain ⟨cs, _, ⟨vn, rfl, hn⟩, hcell⟩ := hc k x hx
  exact ⟨vn, hn, by simpa using hcell 0 vn rfl⟩
theorem both_start {w w3 w4 : World} (hE3 : Ext w w3) (hW4 : WrP w4 (w3.heap.size + 1) w3.heap.size (.slice none 0 0) 0 [] (fun _ => none)) (hE4 : Ext w3 w4) :
    Both w (w3.heap.size + 1) w3.heap.size (.slice none 0 0) 0 [] (fun _ => none) w4.heap.size (.slice none 0 0) (.slice none 0 0) [] (fun _ => none) 0 (w4.alloc (.cells #[.slice none 0 0, .slice none 0 0] 76)) := by
  have hg3 : w.heap.size ≤ w3.heap.size := hE3.size
  have hg4 : w3.heap.size + 2 ≤ w4.heap.size := by have := hW4.lt _ (.inl rfl); omega
  exact ⟨hW4.ext ((Ext.refl _).alloc _), mr_new (heap_alloc_new w4 _), (hE3.trans hE4).alloc _, (by rintro j (rfl | rfl | hj); omega; omega; simp [Value.ownBlock] at hj), (by rintro j (rfl | hj | hj); omega; exact absurd rfl hj.1; simp [Value.ownBlock] at hj),
        (by rintro j (rfl | rfl | hj) <;> rintro (h | h | h) <;> first | omega | (exact absurd rfl h.1) | (simp [Value.ownBlock] at h) | (simp [Value.ownBlock] at hj))⟩
/-- A value that reads as bytes. -/
def isB (w : World) (v : Value) (l : List UInt8) : Prop := ∃ A c, v = .slice A l.length c ∧ BytesV w (.slice A l.length c) l
def rpB (l : List UInt8) : RP Ext := ⟨fun v w => isB w v l, fun _ _ _ h he => by obtain ⟨A, c, e, h⟩ := h; exact ⟨A, c, e, h.ext he⟩⟩
def dwPs (kind : Int) (d : Dat) (p q : Nat) (B1 : List UInt8) (dv uv : Value) (i : Nat) : RP Ext :=
  match i with
  | 0 => RP.eq (.int .i64 kind)
  | 1 => RP.eq (dv)
  | 2 => rpD d
  | 3 => RP.eq (.bool true)
  | 4 => RP.eq (.bool true)
  | 5 => RP.eq (.bool true)
  | 6 => RP.eq (.bool true)
  | 7 => RP.eq (.int .i64 0)
  | 8 => RP.eq (.bool true)
  | 9 => RP.eq (.bool true)
  | 10 => RP.eq (.bool true)
  | 11 => RP.eq (.bool true)
  | 12 => RP.eq (.bool true)
  | 13 => RP.eq (.bool true)
  | 14 => RP.eq (.bool true)
  | 15 => RP.any
  | 16 => RP.any
  | 17 => RP.eq (.bool true)
  | 18 => RP.eq (.bool true)
  | 19 => RP.eq (.bool true)
  | 20 => RP.eq (.pointer (some ⟨p, 0, none⟩))
  | 21 => rpB B1
  | 22 => RP.eq (.pointer (some ⟨q, 0, none⟩))
  | 23 => RP.eq (.pointer (some ⟨q, 0, none⟩))
  | 24 => RP.eq (.pointer (some ⟨q, 0, none⟩))
  | 25 => RP.eq (uv)
  | 26 => RP.eq (.bool true)
  | 27 => RP.eq (.bool true)
  | 28 => RP.eq (.bool true)
  | 29 => RP.eq (.int .i64 kind)
  | 30 => RP.eq (dv)
  | 31 => rpD d
  | 32 => RP.eq (.int .i64 2)
  | 33 => RP.eq (.bool true)
  | 34 => RP.eq (.bool true)
  | _ => RP.any
set_option maxRecDepth 100000 in
set_option maxHeartbeats 2000000 in
theorem law04_RdataWrites (kind : Int) (d : Dat) (l : List (List Str)) (v0 v1 v2 v3 v4 v : Value) (w : World) (hd : DR w v0 v1 v2 v3 v4 d) (hv : NmsV w v l) (fd : DFit d) (ft : Fits d.texts) (hi : IntsOk d.nums) :
    Calls Try.prog 11 #[.int .i64 kind, .agg #[v0, v1, v2, v3, v4], v] w fun e w' => e = .returned (.bool true) ∧ Ext w w' := by
  have hll := hv.len
  have HV := Lib.hid hv
  have HD := Lib.hid hd
  have FD := Lib.hid fd
  have FT := Lib.hid ft
  have HIn := Lib.hid hi
  have HO := Lib.hid (one_start w v0 v1 v2 v3 v4)
  obtain ⟨A0, k0, rfl, _, _⟩ := hd.by_.form
  obtain ⟨A1, k1, rfl, _, _⟩ := hd.ho.form
  obtain ⟨A2, k2, rfl, _, _⟩ := hd.ma.form
  obtain ⟨A3, k3, rfl, _, _⟩ := hd.nu.form
  obtain ⟨A4, k4, rfl, _, _⟩ := hd.tx.form
  obtain ⟨An, cn, rfl, _, _⟩ := hv.form
  clear hd hv fd ft hi
  unfold maxI at *
  go_enter Try.func11, Try.ntmps11
  go_wp2_with fail
  generalize w.alloc (.cells #[.slice A0 d.bytes.length k0, .slice A1 d.host.length k1, .slice A2 d.mail.length k2, .slice A3 d.nums.length k3, .slice A4 d.texts.length k4] 26) = W0 at *
  generalize hbx : w.heap.size = bx at *
  have HBX := Lib.hid hbx
  clear hbx
  refine (law04_answers _).mono ?_
  rintro e w1 ⟨rfl, hE1⟩
  have HE1 := Lib.hid (HO.out.ext.trans hE1)
  have HC1 := Lib.hid (show w1.cell? ⟨bx, 0, none⟩ = some (.slice A0 d.bytes.length k0) ∧ w1.cell? ⟨bx, 1, none⟩ = some (.slice A1 d.host.length k1) ∧ w1.cell? ⟨bx, 2, none⟩ = some (.slice A2 d.mail.length k2) ∧ w1.cell? ⟨bx, 3, none⟩ = some (.slice A3 d.nums.length k3) ∧ w1.cell? ⟨bx, 4, none⟩ = some (.slice A4 d.texts.length k4) from by rw [← HBX.out]; have h := HO.out.ca; exact ⟨hE1.cell h.1, hE1.cell h.2.1, hE1.cell h.2.2.1, hE1.cell h.2.2.2.1, hE1.cell h.2.2.2.2⟩)
  clear hE1
  obtain ⟨c0, c1, c2, c3, c4⟩ := HC1.out
  go_wp2_with fail
  clear c0 c1 c2 c3 c4
  refine (law04_light d _ _ _ _ _ w1 (HD.out.ext HE1.out)).mono ?_
  rintro e w2 ⟨rfl, hE2⟩
  have HX2 := Lib.hid hE2
  have HE2 := Lib.hid (HE1.out.trans hE2)
  clear hE2
  cases hL : lightD d with
  | false =>
    clear hL
    go_wp2_with fail
    refine (law04_answers _).mono ?_
    rintro e w4 ⟨rfl, hE4⟩
    go_wp2
    go_ret
    exact ⟨rfl, HE2.out.trans hE4⟩
  | true =>
    have HR := Lib.hid (light_room hL)
    have HLt := Lib.hid (light_lens hL)
    clear hL
    by_cases h30 : l.length ≤ 30
    · go_wp2_with fail
      refine (wname_New w2).mono ?_
      rintro e w3 ⟨rfl, hW3, hE3⟩
      have HI0 := Lib.hid (both_start (Ext.refl w2) hW3 hE3)
      clear hW3 hE3
      go_wp2
      generalize w3.alloc (.cells #[.slice none 0 0, .slice none 0 0] 76) = w5 at *
      generalize w3.heap.size = q at *
      generalize w2.heap.size + 1 = p at *
      generalize w2.heap.size = mp at *
      go_loopw [9] (fun i wr => ∃ (k : Nat) (vc : Value) (Nm : Nat) (u t : Value) (B : List UInt8) (F : Rests), k ≤ l.length ∧ i = .int .i64 k ∧ Both w2 p mp vc Nm B F q u t B F (300 * k) wr ∧ Nm ≤ B.length ∧ B.length ≤ 300 * k ∧ Good B F) (fun i _ => l.length - (intOf i).toNat)
      case atStart => exact ⟨0, _, _, _, _, [], _, by omega, rfl, HI0.out, by simp, by simp, Good.nil⟩
      case round =>
        obtain ⟨k, vc, Nm, u, t, B, F, hk, rfl, hI, hNm, hBl, hGd⟩ := hrel
        have HI := Lib.hid hI
        have HNm := Lib.hid hNm
        have HX := Lib.hid (HE2.out.trans hI.ext)
        have HGd := Lib.hid hGd
        have HBl := Lib.hid hBl
        clear hI hNm hBl hGd
        by_cases hlt : k < l.length
        · obtain ⟨b, o, c1, e1, _, _, _⟩ := HV.out.opens (by omega)
          injection e1 with e1 e3 e4
          subst e1
          clear e3 e4
          have hx := List.getElem?_eq_getElem hlt
          obtain ⟨vn, hn, hc⟩ := nms_cell HV.out hx
          obtain ⟨Ax, kx, rfl, _, _⟩ := hn.form
          have HNx := Lib.hid hn
          have HCx := Lib.hid hc
          clear hn hc hx
          generalize l[k] = x at *
          have g0 := HX.out.cell HCx.out
          go_wp2_with fail
          refine (ref_Sound _ x wr (HNx.out.ext HX.out)).mono ?_
          rintro e w' ⟨rfl, rfl⟩
          cases hs : nsound x with
          | false =>
            clear hs
            go_wp2
            go_roundw
            case rel => exact ⟨k + 1, vc, Nm, u, t, B, F, by omega, by go_num, HI.out.mono (by omega), HNm.out, by have := HBl.out; omega, HGd.out⟩
            case measure => simp [intOf]; omega
          | true =>
            have HSn := Lib.hid hs
            have HL1 : Hid (x.length * 16 ≤ 140737488355328) := Lib.hid (by unfold nsound at hs; rw [decide_eq_true_eq] at hs; have := nsize_ge x; omega)
            clear hs
            have g0' := ((Ext.refl w').alloc (.cells #[] 9)).cell g0
            go_wp2_with (at_builtin; go_must (refine wpList_app0 Value.string rfl (.tmp 40) (.tmp 44) 23 9 (.string ⟨#[]⟩) 16 rfl Try.underlying23 (by kernel_rfl) rfl (by decide) _ x _ rfl rfl (fun _ => rfl) (HNx.out.ext (HX.out.alloc _)) HL1.out ?_); intro v6 w6 hN6 hE6; have HN6 := Lib.hid hN6; have HI6 := Lib.hid (HI.out.to_ext (((Ext.refl w').alloc _).trans hE6)); have HSv := Lib.hid (fun j (hj : Sof p mp vc j) => show j < (w'.alloc (.cells #[] 9)).heap.size by have := HI.out.wr.lt j hj; simp; omega); obtain ⟨A6, n6, c6, rfl⟩ := hN6.slice; clear hN6 hE6 g0 g0')
            refine (wname_Name p mp vc _ x true Nm B F w6 HI6.out.wr HNm.out (fun W' hk => (HN6.out.kpS hk HSv.out).1) HSn.out (by have := HBl.out; omega)).mono ?_
            rintro e w7 ⟨rfl, N7, hN7, hw7⟩
            obtain ⟨v7, hB7⟩ := HI6.out.wrote hw7
            have HI7 := Lib.hid hB7
            have HN7 := Lib.hid hN7
            have HG2 := Lib.hid (name_good (short := true) HSn.out HGd.out).2
            have HGr := Lib.hid (name_grow (short := true) (b := B) HSn.out HI.out.wr.small)
            clear hw7 hB7 hN7
            have g0 := (HE2.out.trans HI7.out.ext).cell HCx.out
            go_wp2_with fail
            clear g0
            refine (mx_Name q u t _ x true B F (300 * k) w7 HI7.out.mr (by omega) (Stb.of_old (fun w' hE => HNx.out.ext (HE2.out.trans hE)) HI7.out.ext HI7.out.smr) HSn.out (by have := HBl.out; omega)).mono ?_
            rintro e w8 ⟨rfl, hw8⟩
            obtain ⟨u8, t8, hB8⟩ := HI7.out.wrt hw8
            have HI8 := Lib.hid hB8
            clear hw8 hB8
            go_wp2
            go_roundw
            case rel => exact ⟨k + 1, v7, N7, u8, t8, _, _, by omega, by go_num, HI8.out.mono (by omega), HN7.out, by have := HBl.out; have := HGr.out; omega, HG2.out⟩
            case measure => simp [intOf]; omega
        · skip
          have HB0l : Hid (B.length ≤ 9000) := Lib.hid (by have := HBl.out; omega)
          obtain ⟨c0, c1, c2, c3, c4⟩ := HC1.out
          have d0 := (HX2.out.trans HI.out.ext).cell c0
          have d1 := (HX2.out.trans HI.out.ext).cell c1
          have d2 := (HX2.out.trans HI.out.ext).cell c2
          have d3 := (HX2.out.trans HI.out.ext).cell c3
          have d4 := (HX2.out.trans HI.out.ext).cell c4
          clear c0 c1 c2 c3 c4
          go_wp2_with fail
          clear d0 d1 d2 d3 d4
          refine (ref_OwnData d _ _ _ _ _ wr (HD.out.ext HX.out) HR.out).mono ?_
          rintro e w7 ⟨hE7, v7, rfl, hO7⟩
          obtain ⟨u0, u1, u2, u3, u4, rfl, hO7'⟩ := id hO7
          have HI7 := Lib.hid (HI.out.to_ext hE7)
          have HST := Lib.hid (ownV_stb (S := Sof p mp vc) hO7 (fun j hj => HI.out.wr.lt j hj))
          clear hE7 hO7 hO7'
          cases hs : rsound kind d with
          | false =>
            have HSd := Lib.hid hs
            clear hs
            go_wp2_with fail
            refine (rdata_Put_bad kind d p _ _ _ _ _ w7 (HST.out.here) FD.out FT.out HSd.out).mono ?_
            rintro e w8 ⟨rfl, hE8⟩
            have HI8 := Lib.hid (HI7.out.to_ext hE8)
            clear hE8
            obtain ⟨c0, c1, c2, c3, c4⟩ := HC1.out
            have d0 := (HX2.out.trans HI8.out.ext).cell c0
            have d1 := (HX2.out.trans HI8.out.ext).cell c1
            have d2 := (HX2.out.trans HI8.out.ext).cell c2
            have d3 := (HX2.out.trans HI8.out.ext).cell c3
            have d4 := (HX2.out.trans HI8.out.ext).cell c4
            clear c0 c1 c2 c3 c4
            go_wp2_with fail
            clear d0 d1 d2 d3 d4
            refine (ref_Data kind d _ _ _ _ _ w8 (HD.out.ext (HE2.out.trans HI8.out.ext)) HIn.out).mono ?_
            rintro e w9 ⟨rfl, hE9⟩
            have HI9 := Lib.hid (HI8.out.to_ext hE9)
            rw [HSd.out]
            clear hE9
            obtain ⟨Au, cu, rfl⟩ := HI9.out.mr.slice
            have HU := Lib.hid HI9.out.mr
            have HXE := Lib.hid (HX2.out.trans HI9.out.ext)
            have HK : Hid (∀ W, Ext w9 W → W.cell? ⟨bx, 0, none⟩ = some (.slice A0 d.bytes.length k0) ∧ W.cell? ⟨bx, 1, none⟩ = some (.slice A1 d.host.length k1) ∧ W.cell? ⟨bx, 2, none⟩ = some (.slice A2 d.mail.length k2) ∧ W.cell? ⟨bx, 3, none⟩ = some (.slice A3 d.nums.length k3) ∧ W.cell? ⟨bx, 4, none⟩ = some (.slice A4 d.texts.length k4) ∧ W.cell? ⟨q, 0, none⟩ = some (.slice Au B.length cu)) := Lib.hid (fun W hE => ⟨(HXE.out.trans hE).cell HC1.out.1, (HXE.out.trans hE).cell HC1.out.2.1, (HXE.out.trans hE).cell HC1.out.2.2.1, (HXE.out.trans hE).cell HC1.out.2.2.2.1, (HXE.out.trans hE).cell HC1.out.2.2.2.2, hE.cell (HU.out.cells).1⟩)
            have HOwn : Hid (∀ W, Ext w9 W → Calls Try.prog 27 #[.agg #[.slice A0 d.bytes.length k0, .slice A1 d.host.length k1, .slice A2 d.mail.length k2, .slice A3 d.nums.length k3, .slice A4 d.texts.length k4]] W (OwnGives d W)) := Lib.hid (fun W hE => ref_OwnData d _ _ _ _ _ W (HD.out.ext ((HE2.out.trans HI9.out.ext).trans hE)) HR.out)
            have HBy := Lib.hid (fun W (hE : Ext w9 W) => wname_Bytes p mp _ _ B F W (HI9.out.wr.ext hE) (by have := HB0l.out; omega))
            obtain ⟨d0, d1, d2, d3, d4, d5⟩ := HK.out w9 (Ext.refl _)
            go_wp2
            go_region_held3 (fun W => W.cell? ⟨bx, 0, none⟩ = some (.slice A0 d.bytes.length k0) ∧ W.cell? ⟨bx, 1, none⟩ = some (.slice A1 d.host.length k1) ∧ W.cell? ⟨bx, 2, none⟩ = some (.slice A2 d.mail.length k2) ∧ W.cell? ⟨bx, 3, none⟩ = some (.slice A3 d.nums.length k3) ∧ W.cell? ⟨bx, 4, none⟩ = some (.slice A4 d.texts.length k4) ∧ W.cell? ⟨q, 0, none⟩ = some (.slice Au B.length cu))
              (first | go_keep | exact HK.out _ HE6.out | exact HK.out _ HE7.out | exact HK.out _ HE8.out | exact HK.out _ HE9.out | exact HK.out _ HE10.out | exact HK.out _ HE11.out)
              (first | (go_at_call 27; refine (HOwn.out w9.drew (Ext.refl w9).drew).mono ?_; rintro e w6 ⟨hE6, v6, rfl, hO6⟩; obtain ⟨x0, x1, x2, x3, x4, rfl, hO6'⟩ := id hO6; have HE6 := Lib.hid ((Ext.refl w9).drew.trans hE6); have HD6 := Lib.hid ((ownV_stb (S := fun _ => False) hO6 (fun _ h => h.elim)).here); clear hE6 hO6 hO6') | (go_at_call 31; refine (rdata_Sound kind d _ _ _ _ _ w6 HD6.out FD.out FT.out).mono ?_; rintro e w7 ⟨rfl, hE7⟩; have HE7 := Lib.hid (HE6.out.trans hE7); rw [HSd.out]; clear hE7) | (go_at_call 63; refine (HBy.out w7 HE7.out).mono ?_; rintro e w8 ⟨v8, rfl, hO8, hE8⟩; have HO8 := Lib.hid hO8.fl; have HE8 := Lib.hid (HE7.out.trans hE8); obtain ⟨A8, c8, rfl, _, _⟩ := hO8.fl.form; clear hO8 hE8) | (go_at_call 39; refine (ref_Same _ _ B B w8 HO8.out ((by obtain ⟨rs, h1, _⟩ := HU.out.ext HE8.out; exact h1.row.1.1))).mono ?_; rintro e w9 ⟨rfl, hD9⟩; have HE9 := Lib.hid (HE8.out.trans hD9.ext); rw [decide_eq_true rfl]; clear hD9) | (go_at_call 27; refine (HOwn.out w9 HE9.out).mono ?_; rintro e w10 ⟨hE10, v10, rfl, hO10⟩; obtain ⟨y0, y1, y2, y3, y4, rfl, hO10'⟩ := id hO10; have HE10 := Lib.hid (HE9.out.trans hE10); have HD10 := Lib.hid ((ownV_stb (S := fun _ => False) hO10 (fun _ h => h.elim)).here); clear hE10 hO10 hO10') | (go_at_call 60; refine (rdata_Put_nil kind d _ _ _ _ _ w10 HD10.out).mono ?_; rintro e w11 ⟨rfl, hE11⟩; have HE11 := Lib.hid (HE10.out.trans hE11); clear hE11))
            clear d0 d1 d2 d3 d4 d5
            go_wp2
            go_ret
            exact ⟨rfl, (HE2.out.trans HI9.out.ext).trans HE11.out⟩
          | true =>
            have HSd := Lib.hid hs
            have HGr := Lib.hid (data_back hs HGd.out).len
            clear hs
            go_wp2_with fail
            refine (rdata_Put kind d p mp vc _ _ _ _ _ Nm B F w7 HI7.out.wr HNm.out HST.out FD.out FT.out HSd.out (by have := HB0l.out; omega)).mono ?_
            rintro e w8 ⟨rfl, N8, hN8, hw8⟩
            obtain ⟨v8, hB8⟩ := HI7.out.wrote hw8
            have HI8 := Lib.hid hB8
            clear hw8 hB8 hN8
            obtain ⟨c0, c1, c2, c3, c4⟩ := HC1.out
            have d0 := (HX2.out.trans HI8.out.ext).cell c0
            have d1 := (HX2.out.trans HI8.out.ext).cell c1
            have d2 := (HX2.out.trans HI8.out.ext).cell c2
            have d3 := (HX2.out.trans HI8.out.ext).cell c3
            have d4 := (HX2.out.trans HI8.out.ext).cell c4
            clear c0 c1 c2 c3 c4
            go_wp2_with fail
            clear d0 d1 d2 d3 d4
            refine (ref_Data kind d _ _ _ _ _ w8 (HD.out.ext (HE2.out.trans HI8.out.ext)) HIn.out).mono ?_
            rintro e w9 ⟨rfl, hE9⟩
            have HI9 := Lib.hid (HI8.out.to_ext hE9)
            rw [HSd.out]
            clear hE9
            obtain ⟨c0, c1, c2, c3, c4⟩ := HC1.out
            have d0 := (HX2.out.trans HI9.out.ext).cell c0
            have d1 := (HX2.out.trans HI9.out.ext).cell c1
            have d2 := (HX2.out.trans HI9.out.ext).cell c2
            have d3 := (HX2.out.trans HI9.out.ext).cell c3
            have d4 := (HX2.out.trans HI9.out.ext).cell c4
            clear c0 c1 c2 c3 c4
            go_wp2_with fail
            clear d0 d1 d2 d3 d4
            refine (mx_PutData kind d q u t _ _ _ _ _ B F (300 * k) w9 HI9.out.mr (Stb.of_old (fun w' hE => HD.out.ext (HE2.out.trans hE)) HI9.out.ext HI9.out.smr) HSd.out (by have := HB0l.out; omega) (by omega)).mono ?_
            rintro e w10 ⟨rfl, hw10⟩
            obtain ⟨u10, t10, hB10⟩ := HI9.out.wrt hw10
            have HI10 := Lib.hid hB10
            have HB1l : Hid (((Wt.data kind d).bytes B F).length ≤ 200000) := Lib.hid (by rw [bytes_len]; have := HB0l.out; have := HGr.out; omega)
            clear hw10 hB10 HI7 HI8 HI9
            generalize (Wt.data kind d).bytes B F = B1 at *
            generalize (Wt.data kind d).rests B F = F1 at *
            obtain ⟨Au, cu, rfl⟩ := HI10.out.mr.slice
            have HU := Lib.hid HI10.out.mr
            have HXE := Lib.hid (HX2.out.trans HI10.out.ext)
            have HK : Hid (∀ W, Ext w10 W → W.cell? ⟨bx, 0, none⟩ = some (.slice A0 d.bytes.length k0) ∧ W.cell? ⟨bx, 1, none⟩ = some (.slice A1 d.host.length k1) ∧ W.cell? ⟨bx, 2, none⟩ = some (.slice A2 d.mail.length k2) ∧ W.cell? ⟨bx, 3, none⟩ = some (.slice A3 d.nums.length k3) ∧ W.cell? ⟨bx, 4, none⟩ = some (.slice A4 d.texts.length k4) ∧ W.cell? ⟨q, 0, none⟩ = some (.slice Au B1.length cu)) := Lib.hid (fun W hE => ⟨(HXE.out.trans hE).cell HC1.out.1, (HXE.out.trans hE).cell HC1.out.2.1, (HXE.out.trans hE).cell HC1.out.2.2.1, (HXE.out.trans hE).cell HC1.out.2.2.2.1, (HXE.out.trans hE).cell HC1.out.2.2.2.2, hE.cell (HU.out.cells).1⟩)
            have HOwn : Hid (∀ W, Ext w10 W → Calls Try.prog 27 #[.agg #[.slice A0 d.bytes.length k0, .slice A1 d.host.length k1, .slice A2 d.mail.length k2, .slice A3 d.nums.length k3, .slice A4 d.texts.length k4]] W (OwnGives d W)) := Lib.hid (fun W hE => ref_OwnData d _ _ _ _ _ W (HD.out.ext ((HE2.out.trans HI10.out.ext).trans hE)) HR.out)
            have HBy := Lib.hid (fun W (hE : Ext w10 W) => wname_Bytes p mp _ _ B1 F1 W (HI10.out.wr.ext hE) (by have := HB1l.out; omega))
            go_wp2
            refine wp_region_posts (E := Ext) Ext.refl (fun _ _ _ => Ext.trans) 35 (dwPs kind d p q B1 (.agg #[.slice A0 d.bytes.length k0, .slice A1 d.host.length k1, .slice A2 d.mail.length k2, .slice A3 d.nums.length k3, .slice A4 d.texts.length k4]) (.slice Au B1.length cu)) (fun _ _ => False) (by kernel_rfl) (by kernel_rfl) (fun _ _ _ _ h => h.elim) ?_ ?_
            · simp (config := { maxSteps := 10000000 }) only [List.take, Obls, fullA, Act.put, List.setIfInBounds_toArray, List.set_cons_zero, List.set_cons_succ, Nat.zero_add, Nat.reduceAdd]
              refine ⟨?_, ?_, ?_, ?_, ?_, ?_, ?_, ?_, ?_, ?_, ?_, ?_, ?_, ?_, ?_, ?_, ?_, ?_, ?_, ?_, ?_, ?_, ?_, ?_, ?_, ?_, ?_, ?_, ?_, ?_, ?_, ?_, ?_, ?_, ?_, trivial⟩
              all_goals intro vs W hE hd
              all_goals have hW : Ext w10 W := Ext.trans (Ext.drew (Ext.refl w10)) hE
              all_goals have HW := Lib.hid hW
              all_goals clear hE hW
              · clear hd
                go_wp2
                exact ⟨rfl, Ext.refl _, rfl⟩
              · clear hd
                obtain ⟨d0, d1, d2, d3, d4, d5⟩ := HK.out W HW.out
                go_wp2
                exact ⟨rfl, Ext.refl _, rfl⟩
              · have e1 : vs 1 = .agg #[.slice A0 d.bytes.length k0, .slice A1 d.host.length k1, .slice A2 d.mail.length k2, .slice A3 d.nums.length k3, .slice A4 d.texts.length k4] := hd 1 (by decide)
                clear hd
                rw [e1]
                go_wp2_with fail
                refine (HOwn.out W HW.out).mono ?_
                rintro e w6 ⟨hE6, v6, rfl, hO6⟩
                have HE6 := Lib.hid hE6
                have HO6 := Lib.hid hO6
                clear hE6 hO6
                go_wp2
                exact ⟨rfl, HE6.out, HO6.out.drv⟩
              · have e0 : vs 0 = .int .i64 kind := hd 0 (by decide)
                obtain ⟨x0, x1, x2, x3, x4, e2, hx⟩ : isDR W (vs 2) d := hd 2 (by decide)
                have HX0 := Lib.hid hx
                clear hx
                clear hd
                rw [e0, e2]
                go_wp2_with fail
                refine (rdata_Sound kind d _ _ _ _ _ W HX0.out FD.out FT.out).mono ?_
                rintro e w7 ⟨rfl, hE7⟩
                have HE7 := Lib.hid hE7
                rw [HSd.out]
                clear hE7
                go_wp2
                exact ⟨rfl, HE7.out, rfl⟩
              · clear hd
                go_wp2
                exact ⟨rfl, Ext.refl _, rfl⟩
              · have e3 : vs 3 = .bool true := hd 3 (by decide)
                have e4 : vs 4 = .bool true := hd 4 (by decide)
                clear hd
                rw [e3, e4]
                go_wp2
                exact ⟨rfl, Ext.refl _, rfl⟩
              · have e5 : vs 5 = .bool true := hd 5 (by decide)
                clear hd
                rw [e5]
                go_wp2
                exact ⟨rfl, Ext.refl _, rfl⟩
              · have e6 : vs 6 = .bool true := hd 6 (by decide)
                clear hd
                rw [e6]
                go_wp2
                exact ⟨rfl, Ext.refl _, rfl⟩
              · have e6 : vs 6 = .bool true := hd 6 (by decide)
                have e7 : vs 7 = .int .i64 0 := hd 7 (by decide)
                clear hd
                rw [e6, e7]
                go_wp2
                exact ⟨rfl, Ext.refl _, rfl⟩
              · have e6 : vs 6 = .bool true := hd 6 (by decide)
                clear hd
                rw [e6]
                go_wp2
                exact ⟨rfl, Ext.refl _, rfl⟩
              · have e6 : vs 6 = .bool true := hd 6 (by decide)
                have e8 : vs 8 = .bool true := hd 8 (by decide)
                have e9 : vs 9 = .bool true := hd 9 (by decide)
                clear hd
                rw [e6, e8, e9]
                go_wp2
                exact ⟨rfl, Ext.refl _, rfl⟩
              · have e6 : vs 6 = .bool true := hd 6 (by decide)
                have e10 : vs 10 = .bool true := hd 10 (by decide)
                clear hd
                rw [e6, e10]
                go_wp2
                exact ⟨rfl, Ext.refl _, rfl⟩
              · have e11 : vs 11 = .bool true := hd 11 (by decide)
                clear hd
                rw [e11]
                go_wp2
                exact ⟨rfl, Ext.refl _, rfl⟩
              · have e12 : vs 12 = .bool true := hd 12 (by decide)
                clear hd
                rw [e12]
                go_wp2
                exact ⟨rfl, Ext.refl _, rfl⟩
              · have e12 : vs 12 = .bool true := hd 12 (by decide)
                have e13 : vs 13 = .bool true := hd 13 (by decide)
                clear hd
                rw [e12, e13]
                go_wp2
                exact ⟨rfl, Ext.refl _, rfl⟩
              · have e14 : vs 14 = .bool true := hd 14 (by decide)
                clear hd
                rw [e14]
                go_wp2
                exact ⟨rfl, Ext.refl _, trivial⟩
              · have e14 : vs 14 = .bool true := hd 14 (by decide)
                clear hd
                rw [e14]
                go_wp2
                exact ⟨rfl, Ext.refl _, trivial⟩
              · have e12 : vs 12 = .bool true := hd 12 (by decide)
                have e14 : vs 14 = .bool true := hd 14 (by decide)
                clear hd
                rw [e12, e14]
                go_wp2
                exact ⟨rfl, Ext.refl _, rfl⟩
              · have e12 : vs 12 = .bool true := hd 12 (by decide)
                have e17 : vs 17 = .bool true := hd 17 (by decide)
                clear hd
                rw [e12, e17]
                go_wp2
                exact ⟨rfl, Ext.refl _, rfl⟩
              · have e18 : vs 18 = .bool true := hd 18 (by decide)
                clear hd
                rw [e18]
                go_wp2
                exact ⟨rfl, Ext.refl _, rfl⟩
              · have e19 : vs 19 = .bool true := hd 19 (by decide)
                clear hd
                rw [e19]
                go_wp2
                exact ⟨rfl, Ext.refl _, rfl⟩
              · have e19 : vs 19 = .bool true := hd 19 (by decide)
                have e20 : vs 20 = .pointer (some ⟨p, 0, none⟩) := hd 20 (by decide)
                clear hd
                rw [e19, e20]
                go_wp2_with fail
                refine (HBy.out W HW.out).mono ?_
                rintro e w8 ⟨v8, rfl, hO8, hE8⟩
                obtain ⟨A8, c8, rfl, _, _⟩ := hO8.fl.form
                have HO8 := Lib.hid hO8.fl
                have HE8 := Lib.hid hE8
                clear hO8 hE8
                go_wp2
                exact ⟨rfl, HE8.out, _, _, rfl, HO8.out⟩
              · have e19 : vs 19 = .bool true := hd 19 (by decide)
                clear hd
                rw [e19]
                go_wp2
                exact ⟨rfl, Ext.refl _, rfl⟩
              · have e19 : vs 19 = .bool true := hd 19 (by decide)
                have e22 : vs 22 = .pointer (some ⟨q, 0, none⟩) := hd 22 (by decide)
                clear hd
                rw [e19, e22]
                go_wp2
                exact ⟨rfl, Ext.refl _, rfl⟩
              · have e19 : vs 19 = .bool true := hd 19 (by decide)
                have e23 : vs 23 = .pointer (some ⟨q, 0, none⟩) := hd 23 (by decide)
                clear hd
                rw [e19, e23]
                go_wp2
                exact ⟨rfl, Ext.refl _, rfl⟩
              · have e19 : vs 19 = .bool true := hd 19 (by decide)
                have e24 : vs 24 = .pointer (some ⟨q, 0, none⟩) := hd 24 (by decide)
                clear hd
                rw [e19, e24]
                obtain ⟨d0, d1, d2, d3, d4, d5⟩ := HK.out W HW.out
                go_wp2
                exact ⟨rfl, Ext.refl _, rfl⟩
              · have e19 : vs 19 = .bool true := hd 19 (by decide)
                obtain ⟨A8, c8, e21, hb8⟩ : isB W (vs 21) B1 := hd 21 (by decide)
                have HB8 := Lib.hid hb8
                clear hb8
                have e25 : vs 25 = .slice Au B1.length cu := hd 25 (by decide)
                clear hd
                rw [e19, e21, e25]
                have HU2 := Lib.hid (show BytesV W (.slice Au B1.length cu) B1 from by obtain ⟨rs, h1, _⟩ := HU.out.ext HW.out; exact h1.row.1.1)
                go_wp2_with fail
                refine (ref_Same _ _ B1 B1 W HB8.out HU2.out).mono ?_
                rintro e w9 ⟨rfl, hD9⟩
                have HE9 := Lib.hid hD9.ext
                rw [decide_eq_true rfl]
                clear hD9
                go_wp2
                exact ⟨rfl, HE9.out, rfl⟩
              · have e19 : vs 19 = .bool true := hd 19 (by decide)
                have e26 : vs 26 = .bool true := hd 26 (by decide)
                clear hd
                rw [e19, e26]
                go_wp2
                exact ⟨rfl, Ext.refl _, rfl⟩
              · have e27 : vs 27 = .bool true := hd 27 (by decide)
                clear hd
                rw [e27]
                go_wp2
                exact ⟨rfl, Ext.refl _, rfl⟩
              · have e28 : vs 28 = .bool true := hd 28 (by decide)
                clear hd
                rw [e28]
                go_wp2
                exact ⟨rfl, Ext.refl _, rfl⟩
              · have e28 : vs 28 = .bool true := hd 28 (by decide)
                clear hd
                rw [e28]
                obtain ⟨d0, d1, d2, d3, d4, d5⟩ := HK.out W HW.out
                go_wp2
                exact ⟨rfl, Ext.refl _, rfl⟩
              · have e28 : vs 28 = .bool true := hd 28 (by decide)
                have e30 : vs 30 = .agg #[.slice A0 d.bytes.length k0, .slice A1 d.host.length k1, .slice A2 d.mail.length k2, .slice A3 d.nums.length k3, .slice A4 d.texts.length k4] := hd 30 (by decide)
                clear hd
                rw [e28, e30]
                go_wp2_with fail
                refine (HOwn.out W HW.out).mono ?_
                rintro e w6 ⟨hE6, v6, rfl, hO6⟩
                have HE6 := Lib.hid hE6
                have HO6 := Lib.hid hO6
                clear hE6 hO6
                go_wp2
                exact ⟨rfl, HE6.out, HO6.out.drv⟩
              · have e28 : vs 28 = .bool true := hd 28 (by decide)
                have e29 : vs 29 = .int .i64 kind := hd 29 (by decide)
                obtain ⟨x0, x1, x2, x3, x4, e31, hx⟩ : isDR W (vs 31) d := hd 31 (by decide)
                have HX0 := Lib.hid hx
                clear hx
                clear hd
                rw [e28, e29, e31]
                go_wp2_with fail
                refine (rdata_Put_nil kind d _ _ _ _ _ W HX0.out).mono ?_
                rintro e w11 ⟨rfl, hE11⟩
                have HE11 := Lib.hid hE11
                clear hE11
                go_wp2
                exact ⟨rfl, HE11.out, rfl⟩
              · have e28 : vs 28 = .bool true := hd 28 (by decide)
                have e32 : vs 32 = .int .i64 2 := hd 32 (by decide)
                clear hd
                rw [e28, e32]
                go_wp2
                exact ⟨rfl, Ext.refl _, rfl⟩
              · have e28 : vs 28 = .bool true := hd 28 (by decide)
                have e33 : vs 33 = .bool true := hd 33 (by decide)
                clear hd
                rw [e28, e33]
                go_wp2
                exact ⟨rfl, Ext.refl _, rfl⟩
            · intro vs W hE hP
              have hW : Ext w10 W := Ext.trans (Ext.drew (Ext.refl w10)) hE
              have HW := Lib.hid hW
              have e34 : vs 34 = .bool true := hP 34 (by decide)
              clear hP hE hW
              simp (config := { maxSteps := 10000000 }) only [List.drop, List.take, fullA, Act.put, List.setIfInBounds_toArray, List.set_cons_zero, List.set_cons_succ, Nat.zero_add, Nat.reduceAdd]
              rw [e34]
              go_wp2
              go_ret
              exact ⟨rfl, (HE2.out.trans HI10.out.ext).trans HW.out⟩

    · go_wp2_with fail
      refine (law04_answers _).mono ?_
      rintro e w4 ⟨rfl, hE4⟩
      go_wp2
      go_ret
      exact ⟨rfl, HE2.out.trans hE4⟩
end Go.Proofs.Ytfnelkcllaaebaa
end
