/- Parts of one proof, joined: MrX, MrD, MrR. Conditions: those that each theorem states. -/
import Derived.Test.YtfnelkcllaaebaaEB23
import Derived.Test.YtfnelkcllaaebaaEB18
import Derived.Test.YtfnelkcllaaebaaEB19
section
/- The document's writer, its rests packed. No condition but that the writer stands in memory, and room. -/
open Go.RowKit
set_option linter.unusedVariables false
set_option linter.unusedSimpArgs false
namespace Go.Proofs.Ytfnelkcllaaebaa
/-- The writer at block q has these bytes and rests. -/
def MrW (w : World) (q : Nat) (u t : Value) (b : List UInt8) (f : Rests) (N : Nat) : Prop := ∃ rs, MrP w q u t b rs ∧ findR rs = f ∧ SmallR rs ∧ rs.length ≤ N
/-- It goes on to others. -/
def Wrt (q : Nat) (u t : Value) (b b' : List UInt8) (f' : Rests) (N' : Nat) (w w' : World) : Prop := ∃ u' t', MrW w' q u' t' b' f' N' ∧ Stp (Smr q u t b) w (Smr q u' t' b') w'
theorem MrW.ext {w w' : World} {q : Nat} {u t : Value} {b : List UInt8} {f : Rests} {N : Nat} (h : MrW w q u t b f N) (hE : Ext w w') : MrW w' q u t b f N := by
  obtain ⟨rs, h1, h2⟩ := h; exact ⟨rs, h1.ext hE, h2⟩
theorem MrW.lt {w : World} {q : Nat} {u t : Value} {b : List UInt8} {f : Rests} {N : Nat} (h : MrW w q u t b f N) : ∀ k, Smr q u t b k → k < w.heap.size := by
  obtain ⟨rs, h1, h2⟩ := h; exact h1.lt
theorem MrW.slice {w : World} {q : Nat} {u t : Value} {b : List UInt8} {f : Rests} {N : Nat} (h : MrW w q u t b f N) : ∃ A c, u = .slice A b.length c := by
  obtain ⟨rs, h1, h2⟩ := h; exact h1.slice
theorem MrW.cells {w : World} {q : Nat} {u t : Value} {b : List UInt8} {f : Rests} {N : Nat} (h : MrW w q u t b f N) : w.cell? ⟨q, 0, none⟩ = some u ∧ w.cell? ⟨q, 1, none⟩ = some t ∧ ∀ i, w.frozen? ⟨q, i, none⟩ = false := by
  obtain ⟨rs, h1, h2⟩ := h; exact h1.cells
theorem MrW.small {w : World} {q : Nat} {u t : Value} {b : List UInt8} {f : Rests} {N : Nat} (h : MrW w q u t b f N) : ∀ x k, f x = some k → k < 16384 := by
  obtain ⟨rs, h1, rfl, h2, _⟩ := h; exact fun x k hk => findR_small h2 hk
theorem MrW.mono {w : World} {q : Nat} {u t : Value} {b : List UInt8} {f : Rests} {N N' : Nat} (h : MrW w q u t b f N) (hN : N ≤ N') : MrW w q u t b f N' := by
  obtain ⟨rs, h1, h2, h3, h4⟩ := h; exact ⟨rs, h1, h2, h3, Nat.le_trans h4 hN⟩
theorem mx_Num (q : Nat) (u t : Value) (n size : Int) (b : List UInt8) (f : Rests) (N : Nat) (w : World) (hW : MrW w q u t b f N) (hl : b.length ≤ 140737488000000) (hn : n ≤ 9223372036854775807) :
    Calls Try.prog 118 #[.pointer (some ⟨q, 0, none⟩), .int .i64 n, .int .i64 size] w fun e w' => e = .returned (.tuple #[]) ∧ Wrt q u t b (b ++ putN [] n size) f N w w' := by
  obtain ⟨rs, h1, h2⟩ := hW
  refine (mw_Num q u t n size b rs w h1 hl hn).mono ?_
  rintro e w' ⟨rfl, u', t', h3, h4⟩
  rw [putN_app] at h3 h4
  exact ⟨rfl, u', t', ⟨rs, h3, h2⟩, h4⟩
theorem mx_Raw (q : Nat) (u t vy : Value) (b ys : List UInt8) (f : Rests) (N : Nat) (w : World) (hW : MrW w q u t b f N) (hy : BytesV w vy ys) (hl : (b.length + ys.length) * 1 ≤ 140737488355328) :
    Calls Try.prog 119 #[.pointer (some ⟨q, 0, none⟩), vy] w fun e w' => e = .returned (.tuple #[]) ∧ Wrt q u t b (b ++ ys) f N w w' := by
  obtain ⟨rs, h1, h2⟩ := hW
  refine (mw_Raw q u t vy b ys rs w h1 hy hl).mono ?_
  rintro e w' ⟨rfl, u', t', h3, h4⟩
  exact ⟨rfl, u', t', ⟨rs, h3, h2⟩, h4⟩
theorem mx_Name (q : Nat) (u t vn : Value) (n : List Str) (short : Bool) (b : List UInt8) (f : Rests) (N : Nat) (w : World) (hW : MrW w q u t b f N) (hN : N ≤ 1000000) (hn : Stb (Smr q u t b) w fun w' => NameV w' vn n) (hs : nsound n = true) (hb : b.length ≤ 140737480000000) :
    Calls Try.prog 59 #[.pointer (some ⟨q, 0, none⟩), vn, .bool short] w fun e w' => e = .returned (.tuple #[]) ∧ Wrt q u t b ((Wt.name n short).bytes b f) ((Wt.name n short).rests b f) (N + 300) w w' := by
  obtain ⟨rs, h1, rfl, h3, h4⟩ := hW
  have hl : n.length ≤ 300 := by
    unfold nsound at hs; rw [decide_eq_true_eq] at hs; have := nsize_ge n; omega
  refine (mw_Name q u t vn n short b rs w h1 h3 (by omega) hn hs hb).mono ?_
  rintro e w' ⟨rfl, rs', h5, h6, h7, u', t', h8, h9⟩
  exact ⟨rfl, u', t', ⟨rs', h8, h5, h6, by omega⟩, h9⟩
end Go.Proofs.Ytfnelkcllaaebaa
end
section
/- Contract of ref03.Writer.PutData of sound data. No condition but that the writer stands in memory, data that its steps leave alone, and room. -/
open Go.RowKit
set_option linter.unusedVariables false
set_option linter.unusedSimpArgs false
namespace Go.Proofs.Ytfnelkcllaaebaa
theorem rsound_fits {kind : Int} {d : Dat} (hs : rsound kind d = true) : ∀ x ∈ d.nums, fits x (shapeOf kind).size = true := by
  unfold rsound at hs
  rw [Bool.and_eq_true] at hs
  obtain ⟨_, hs⟩ := hs
  simp only [rsoundS, Bool.and_eq_true, Bool.not_eq_true'] at hs
  intro x hx
  have := List.any_eq_false.1 hs.2.2.2.2.2.1 x hx
  simpa using this
set_option maxRecDepth 100000 in
set_option maxHeartbeats 1000000 in
theorem pd2 (kind : Int) (d : Dat) (q : Nat) (u t v0 v1 v2 v3 v4 : Value) (b : List UInt8) (f : Rests) (N : Nat) (w : World) (hW : MrW w q u t b f N) (hd : Stb (Smr q u t b) w fun W => DR W v0 v1 v2 v3 v4 d) (hs : rsound kind d = true) (hb : b.length ≤ 140737470000000) (hN : N ≤ 900000) (hk : kind = 2) :
    Calls Try.prog 62 #[.pointer (some ⟨q, 0, none⟩), .int .i64 kind, .agg #[v0, v1, v2, v3, v4]] w fun e w' => e = .returned (.tuple #[]) ∧ Wrt q u t b ((Wt.data kind d).bytes b f) ((Wt.data kind d).rests b f) (N + 600) w w' := by
  subst hk
  have hsh : shapeOf 2 = ⟨0, true, false, true, 0, 0, false, false⟩ := by simp [shapeOf]
  have hnn : d.nums = [] := List.eq_nil_of_length_eq_zero ((rsound_parts hs hsh).2.2.1)
  have heq : (Wt.name d.host true).bytes (b ++ d.bytes ++ textsB d.texts) f = (Wt.data 2 d).bytes b f ∧ (Wt.name d.host true).rests (b ++ d.bytes ++ textsB d.texts) f = (Wt.data 2 d).rests b f := by
    simp only [Wt.data, hsh, nums_raw, texts_raw, Wt.bytes_seq, Wt.rests_seq, raw_bytes, raw_rests, skip_bytes, skip_rests, if_true, if_false, Bool.false_eq_true]
    simp [hnn, numsB]
  clear hnn
  obtain ⟨_, pb, pn, ph, pm, pt, pl⟩ := rsound_parts hs hsh
  have hfn := rsound_fits hs
  rw [hsh] at hfn
  have hE0 := (Ext.refl w).alloc (.cells #[v0, v1, v2, v3, v4] 26)
  have HD := Lib.hid hd
  have hd0 := hd.here
  obtain ⟨A0, k0, rfl, _, _⟩ := hd0.by_.form
  obtain ⟨A1, k1, rfl, _, _⟩ := hd0.ho.form
  obtain ⟨A2, k2, rfl, _, _⟩ := hd0.ma.form
  obtain ⟨A3, k3, rfl, _, _⟩ := hd0.nu.form
  obtain ⟨A4, k4, rfl, _, _⟩ := hd0.tx.form
  have HBX0 := Lib.hid (heap_alloc_new w (.cells #[.slice A0 d.bytes.length k0, .slice A1 d.host.length k1, .slice A2 d.mail.length k2, .slice A3 d.nums.length k3, .slice A4 d.texts.length k4] 26))
  have HPl := Lib.hid pl
  have HPn : Hid (d.nums.length ≤ 5) := Lib.hid (by simp only at pn; omega)
  have HPb := Lib.hid pb
  have HE0 := Lib.hid hE0
  have HEQ := Lib.hid heq
  clear heq
  obtain ⟨Bf, hBf⟩ : ∃ Bf, (Wt.data 2 d).bytes b f = Bf := ⟨_, rfl⟩
  obtain ⟨Ff, hFf⟩ : ∃ Ff, (Wt.data 2 d).rests b f = Ff := ⟨_, rfl⟩
  rw [hBf, hFf]
  rw [hBf, hFf] at HEQ
  have HS0 : Hid (¬ Smr q u t b w.heap.size) := Lib.hid (fun h => by have := hW.lt _ h; omega)
  have HW0 := Lib.hid (hW.ext hE0)
  have HD0 := Lib.hid (hd.step (Stp.of_ext hE0))
  have HFn : Hid (∀ x ∈ d.nums, x ≤ 9223372036854775807) := Lib.hid (fun x hx => by have := fits_bound _ _ (hfn x hx); omega)
  have HPh : Hid (nsound d.host = true ∨ True) := Lib.hid (.inr trivial)
  have HPhh : Hid (nsound d.host = true) := Lib.hid (ph rfl)
  clear hd hW hE0 hd0 hs pl ph pm hBf hFf hsh pn hfn
  go_enter Try.func62, Try.ntmps62
  go_wp2_with fail
  obtain ⟨w0, hw0⟩ : ∃ w0, w.alloc (.cells #[.slice A0 d.bytes.length k0, .slice A1 d.host.length k1, .slice A2 d.mail.length k2, .slice A3 d.nums.length k3, .slice A4 d.texts.length k4] 26) = w0 := ⟨_, rfl⟩
  rw [hw0]
  rw [hw0] at HBX0 HE0 HW0 HD0
  clear hw0
  refine (mx_Raw q u t _ b d.bytes f N w0 HW0.out HD0.out.here.by_ (by omega)).mono ?_
  rintro e W4 ⟨rfl, u4, t4, hM4, hs4⟩
  have HM4 := Lib.hid hM4
  have HS4 := Lib.hid hs4
  clear hM4 hs4
  have HBX := Lib.hid (stp_heap HS4.out HBX0.out HS0.out)
  have q0 := row_cells HBX.out 0
  have q1 := row_cells HBX.out 1
  have q2 := row_cells HBX.out 2
  have q3 := row_cells HBX.out 3
  have q4 := row_cells HBX.out 4
  simp at q0 q1 q2 q3 q4
  go_wp2
  clear q0 q1 q2 q3 q4 HBX
  go_loopw [6] (fun i wr => ∃ (k : Nat) (uc tc : Value), k ≤ d.texts.length ∧ i = .int .i64 k ∧ MrW wr q uc tc (b ++ d.bytes ++ textsB (d.texts.take k)) f N ∧ Stp (Smr q u t b) w0 (Smr q uc tc (b ++ d.bytes ++ textsB (d.texts.take k))) wr) (fun i _ => d.texts.length - (intOf i).toNat)
  case atStart => exact ⟨0, u4, t4, by omega, rfl, by simpa [textsB] using HM4.out, by simpa [textsB] using HS4.out⟩
  case round =>
    obtain ⟨k, uc, tc, hk, rfl, hM, hS⟩ := hrel
    have HMc := Lib.hid hM
    have HSc := Lib.hid hS
    clear hM hS
    by_cases hlt : k < d.texts.length
    · obtain ⟨b1, o1, c1, e1, _, _, hc1⟩ := ((HD0.out.step HSc.out).here.tx).opens (by omega)
      injection e1 with e1 e3 e4
      subst e1
      clear e3 e4
      have hx := List.getElem?_eq_getElem hlt
      have HB := Lib.hid (textsB_snoc hx)
      have HLx : Hid (d.texts[k].size ≤ 255) := Lib.hid (by
        have := List.any_eq_false.1 HPl.out _ (List.mem_of_getElem? hx)
        unfold longT at this
        rw [decide_eq_true_eq] at this
        omega)
      have HL : Hid ((b ++ d.bytes ++ textsB (d.texts.take k)).length ≤ 140737470100000) := Lib.hid (by have := textsB_take_len d.texts k HPl.out pt; have := HPb.out; rw [List.length_append, List.length_append]; omega)
      have hcx := hc1 k _ hx
      have HX := Lib.hid hx
      clear hc1 hx
      generalize d.texts[k] = x at *
      generalize hBB : b ++ d.bytes ++ textsB (d.texts.take k) = BB at *
      have HBB := Lib.hid hBB
      clear hBB
      have hxs := HLx.out
      have HBX := Lib.hid (stp_heap HSc.out HBX0.out HS0.out)
      have q0 := row_cells HBX.out 0
      have q1 := row_cells HBX.out 1
      have q2 := row_cells HBX.out 2
      have q3 := row_cells HBX.out 3
      have q4 := row_cells HBX.out 4
      simp at q0 q1 q2 q3 q4
      go_wp2_with fail
      clear q0 q1 q2 q3 q4 HBX hcx
      refine (mx_Num q uc tc (x.size : Int) 1 BB f N wr HMc.out (by have := HL.out; omega) (by omega)).mono ?_
      rintro e w5 ⟨rfl, u5, t5, hM5, hs5⟩
      have HM5 := Lib.hid hM5
      have HS5 := Lib.hid (HSc.out.trans hs5)
      clear hM5 hs5
      obtain ⟨_, _, c1, e1, _, _, hc1⟩ := ((HD0.out.step HS5.out).here.tx).opens (by omega)
      injection e1 with e1 e3 e4
      injection e1 with e1
      injection e1 with e1 e3 _
      subst e1 e3
      have hcx := hc1 k _ HX.out
      clear hc1 e4
      have HBX := Lib.hid (stp_heap HS5.out HBX0.out HS0.out)
      have q0 := row_cells HBX.out 0
      have q1 := row_cells HBX.out 1
      have q2 := row_cells HBX.out 2
      have q3 := row_cells HBX.out 3
      have q4 := row_cells HBX.out 4
      simp at q0 q1 q2 q3 q4
      have kb := fun w => Lib.run_convert_string_bytes (P := Try.prog) w 9 22 5 x Try.underlying9 Try.underlying22 Try.underlying5
      have hcm := grownCap_le_maxLen w5 x.size 0 5 (by simp [maxLen]; omega)
      have hcg := grownCap_ge w5 x.size 0 5
      have HY := Lib.hid ((blk_bytes w5 x).fl x.size (grownCap w5 x.size 0 5) (bs_length x) hcg (by simpa [maxLen] using hcm))
      have HE5 := Lib.hid (ext_bytes w5 x)
      have HL5 : Hid ((BB ++ putN [] (x.size : Int) 1).length ≤ 140737470100007) := Lib.hid (by have := HL.out; have := putN_le (x.size : Int) (size := 1) (by omega); simp at this; rw [List.length_append]; omega)
      clear hcm hcg
      go_wp2_with fail
      clear q0 q1 q2 q3 q4 HBX hcx
      generalize Lib.bytesWorld w5 5 x = w6 at *
      generalize grownCap w5 x.size 0 5 = cg at *
      refine (mx_Raw q u5 t5 _ _ (bs x) f N w6 (HM5.out.ext HE5.out) HY.out (by have := HL5.out; have := HLx.out; rw [bs_length]; omega)).mono ?_
      rintro e w7 ⟨rfl, u7, t7, hM7, hs7⟩
      have HM7 := Lib.hid hM7
      have HS7 := Lib.hid ((HS5.out.ext HE5.out).trans hs7)
      clear hM7 hs7
      go_wp2
      go_roundw
      case rel => exact ⟨k + 1, u7, t7, by omega, by go_num, by rw [HB.out, ← List.append_assoc, ← List.append_assoc, HBB.out]; exact HM7.out, by rw [HB.out, ← List.append_assoc, ← List.append_assoc, HBB.out]; exact HS7.out⟩
      case measure => simp [intOf]; omega
    · rw [List.take_of_length_le (by omega)] at HMc HSc
      have HLc : Hid ((b ++ d.bytes ++ textsB d.texts).length ≤ 140737470100000) := Lib.hid (by have := textsB_take_len d.texts d.texts.length HPl.out pt; rw [List.take_length] at this; have := HPb.out; rw [List.length_append, List.length_append]; omega)
      obtain ⟨BT, hBT⟩ : ∃ BT, b ++ d.bytes ++ textsB d.texts = BT := ⟨_, rfl⟩
      rw [hBT] at HMc HSc HLc HEQ
      clear hBT HM4 HS4
      have HBX := Lib.hid (stp_heap HSc.out HBX0.out HS0.out)
      have q0 := row_cells HBX.out 0
      have q1 := row_cells HBX.out 1
      have q2 := row_cells HBX.out 2
      have q3 := row_cells HBX.out 3
      have q4 := row_cells HBX.out 4
      simp at q0 q1 q2 q3 q4
      go_wp2_with fail
      clear q0 q1 q2 q3 q4 HBX
      refine (mx_Name q uc tc _ d.host true BT f N wr HMc.out (by omega) (fun W' hk => (HD0.out.step HSc.out W' hk).ho) HPhh.out (by have := HLc.out; omega)).mono ?_
      rintro e yhost ⟨rfl, uhost, thost, hM, hs⟩
      have HLd : Hid (((Wt.name d.host true).bytes BT f).length ≤ BT.length + 255) := Lib.hid (name_grow HPhh.out HMc.out.small)
      have HSd := Lib.hid (HSc.out.trans hs)
      clear HMc HSc
      have HMc := Lib.hid hM
      have HSc := HSd
      clear hM hs HSd
      have HBX := Lib.hid (stp_heap HSc.out HBX0.out HS0.out)
      have q0 := row_cells HBX.out 0
      have q1 := row_cells HBX.out 1
      have q2 := row_cells HBX.out 2
      have q3 := row_cells HBX.out 3
      have q4 := row_cells HBX.out 4
      simp at q0 q1 q2 q3 q4
      go_wp2
      clear q0 q1 q2 q3 q4 HBX
      refine bodyPost_end (results_none (by kernel_rfl) _ _ _) rfl ?_
      have hM9 := HMc.out
      have hS9 := HSc.out
      rw [HEQ.out.1, HEQ.out.2] at hM9
      rw [HEQ.out.1] at hS9
      exact ⟨rfl, _, _, hM9.mono (by omega), (Stp.of_ext HE0.out).trans hS9⟩

set_option maxRecDepth 100000 in
set_option maxHeartbeats 1000000 in
theorem pd5 (kind : Int) (d : Dat) (q : Nat) (u t v0 v1 v2 v3 v4 : Value) (b : List UInt8) (f : Rests) (N : Nat) (w : World) (hW : MrW w q u t b f N) (hd : Stb (Smr q u t b) w fun W => DR W v0 v1 v2 v3 v4 d) (hs : rsound kind d = true) (hb : b.length ≤ 140737470000000) (hN : N ≤ 900000) (hk : kind = 5) :
    Calls Try.prog 62 #[.pointer (some ⟨q, 0, none⟩), .int .i64 kind, .agg #[v0, v1, v2, v3, v4]] w fun e w' => e = .returned (.tuple #[]) ∧ Wrt q u t b ((Wt.data kind d).bytes b f) ((Wt.data kind d).rests b f) (N + 600) w w' := by
  subst hk
  have hsh : shapeOf 5 = ⟨0, true, false, true, 0, 0, false, false⟩ := by simp [shapeOf]
  have hnn : d.nums = [] := List.eq_nil_of_length_eq_zero ((rsound_parts hs hsh).2.2.1)
  have heq : (Wt.name d.host true).bytes (b ++ d.bytes ++ textsB d.texts) f = (Wt.data 5 d).bytes b f ∧ (Wt.name d.host true).rests (b ++ d.bytes ++ textsB d.texts) f = (Wt.data 5 d).rests b f := by
    simp only [Wt.data, hsh, nums_raw, texts_raw, Wt.bytes_seq, Wt.rests_seq, raw_bytes, raw_rests, skip_bytes, skip_rests, if_true, if_false, Bool.false_eq_true]
    simp [hnn, numsB]
  clear hnn
  obtain ⟨_, pb, pn, ph, pm, pt, pl⟩ := rsound_parts hs hsh
  have hfn := rsound_fits hs
  rw [hsh] at hfn
  have hE0 := (Ext.refl w).alloc (.cells #[v0, v1, v2, v3, v4] 26)
  have HD := Lib.hid hd
  have hd0 := hd.here
  obtain ⟨A0, k0, rfl, _, _⟩ := hd0.by_.form
  obtain ⟨A1, k1, rfl, _, _⟩ := hd0.ho.form
  obtain ⟨A2, k2, rfl, _, _⟩ := hd0.ma.form
  obtain ⟨A3, k3, rfl, _, _⟩ := hd0.nu.form
  obtain ⟨A4, k4, rfl, _, _⟩ := hd0.tx.form
  have HBX0 := Lib.hid (heap_alloc_new w (.cells #[.slice A0 d.bytes.length k0, .slice A1 d.host.length k1, .slice A2 d.mail.length k2, .slice A3 d.nums.length k3, .slice A4 d.texts.length k4] 26))
  have HPl := Lib.hid pl
  have HPn : Hid (d.nums.length ≤ 5) := Lib.hid (by simp only at pn; omega)
  have HPb := Lib.hid pb
  have HE0 := Lib.hid hE0
  have HEQ := Lib.hid heq
  clear heq
  obtain ⟨Bf, hBf⟩ : ∃ Bf, (Wt.data 5 d).bytes b f = Bf := ⟨_, rfl⟩
  obtain ⟨Ff, hFf⟩ : ∃ Ff, (Wt.data 5 d).rests b f = Ff := ⟨_, rfl⟩
  rw [hBf, hFf]
  rw [hBf, hFf] at HEQ
  have HS0 : Hid (¬ Smr q u t b w.heap.size) := Lib.hid (fun h => by have := hW.lt _ h; omega)
  have HW0 := Lib.hid (hW.ext hE0)
  have HD0 := Lib.hid (hd.step (Stp.of_ext hE0))
  have HFn : Hid (∀ x ∈ d.nums, x ≤ 9223372036854775807) := Lib.hid (fun x hx => by have := fits_bound _ _ (hfn x hx); omega)
  have HPh : Hid (nsound d.host = true ∨ True) := Lib.hid (.inr trivial)
  have HPhh : Hid (nsound d.host = true) := Lib.hid (ph rfl)
  clear hd hW hE0 hd0 hs pl ph pm hBf hFf hsh pn hfn
  go_enter Try.func62, Try.ntmps62
  go_wp2_with fail
  obtain ⟨w0, hw0⟩ : ∃ w0, w.alloc (.cells #[.slice A0 d.bytes.length k0, .slice A1 d.host.length k1, .slice A2 d.mail.length k2, .slice A3 d.nums.length k3, .slice A4 d.texts.length k4] 26) = w0 := ⟨_, rfl⟩
  rw [hw0]
  rw [hw0] at HBX0 HE0 HW0 HD0
  clear hw0
  refine (mx_Raw q u t _ b d.bytes f N w0 HW0.out HD0.out.here.by_ (by omega)).mono ?_
  rintro e W4 ⟨rfl, u4, t4, hM4, hs4⟩
  have HM4 := Lib.hid hM4
  have HS4 := Lib.hid hs4
  clear hM4 hs4
  have HBX := Lib.hid (stp_heap HS4.out HBX0.out HS0.out)
  have q0 := row_cells HBX.out 0
  have q1 := row_cells HBX.out 1
  have q2 := row_cells HBX.out 2
  have q3 := row_cells HBX.out 3
  have q4 := row_cells HBX.out 4
  simp at q0 q1 q2 q3 q4
  go_wp2
  clear q0 q1 q2 q3 q4 HBX
  go_loopw [6] (fun i wr => ∃ (k : Nat) (uc tc : Value), k ≤ d.texts.length ∧ i = .int .i64 k ∧ MrW wr q uc tc (b ++ d.bytes ++ textsB (d.texts.take k)) f N ∧ Stp (Smr q u t b) w0 (Smr q uc tc (b ++ d.bytes ++ textsB (d.texts.take k))) wr) (fun i _ => d.texts.length - (intOf i).toNat)
  case atStart => exact ⟨0, u4, t4, by omega, rfl, by simpa [textsB] using HM4.out, by simpa [textsB] using HS4.out⟩
  case round =>
    obtain ⟨k, uc, tc, hk, rfl, hM, hS⟩ := hrel
    have HMc := Lib.hid hM
    have HSc := Lib.hid hS
    clear hM hS
    by_cases hlt : k < d.texts.length
    · obtain ⟨b1, o1, c1, e1, _, _, hc1⟩ := ((HD0.out.step HSc.out).here.tx).opens (by omega)
      injection e1 with e1 e3 e4
      subst e1
      clear e3 e4
      have hx := List.getElem?_eq_getElem hlt
      have HB := Lib.hid (textsB_snoc hx)
      have HLx : Hid (d.texts[k].size ≤ 255) := Lib.hid (by
        have := List.any_eq_false.1 HPl.out _ (List.mem_of_getElem? hx)
        unfold longT at this
        rw [decide_eq_true_eq] at this
        omega)
      have HL : Hid ((b ++ d.bytes ++ textsB (d.texts.take k)).length ≤ 140737470100000) := Lib.hid (by have := textsB_take_len d.texts k HPl.out pt; have := HPb.out; rw [List.length_append, List.length_append]; omega)
      have hcx := hc1 k _ hx
      have HX := Lib.hid hx
      clear hc1 hx
      generalize d.texts[k] = x at *
      generalize hBB : b ++ d.bytes ++ textsB (d.texts.take k) = BB at *
      have HBB := Lib.hid hBB
      clear hBB
      have hxs := HLx.out
      have HBX := Lib.hid (stp_heap HSc.out HBX0.out HS0.out)
      have q0 := row_cells HBX.out 0
      have q1 := row_cells HBX.out 1
      have q2 := row_cells HBX.out 2
      have q3 := row_cells HBX.out 3
      have q4 := row_cells HBX.out 4
      simp at q0 q1 q2 q3 q4
      go_wp2_with fail
      clear q0 q1 q2 q3 q4 HBX hcx
      refine (mx_Num q uc tc (x.size : Int) 1 BB f N wr HMc.out (by have := HL.out; omega) (by omega)).mono ?_
      rintro e w5 ⟨rfl, u5, t5, hM5, hs5⟩
      have HM5 := Lib.hid hM5
      have HS5 := Lib.hid (HSc.out.trans hs5)
      clear hM5 hs5
      obtain ⟨_, _, c1, e1, _, _, hc1⟩ := ((HD0.out.step HS5.out).here.tx).opens (by omega)
      injection e1 with e1 e3 e4
      injection e1 with e1
      injection e1 with e1 e3 _
      subst e1 e3
      have hcx := hc1 k _ HX.out
      clear hc1 e4
      have HBX := Lib.hid (stp_heap HS5.out HBX0.out HS0.out)
      have q0 := row_cells HBX.out 0
      have q1 := row_cells HBX.out 1
      have q2 := row_cells HBX.out 2
      have q3 := row_cells HBX.out 3
      have q4 := row_cells HBX.out 4
      simp at q0 q1 q2 q3 q4
      have kb := fun w => Lib.run_convert_string_bytes (P := Try.prog) w 9 22 5 x Try.underlying9 Try.underlying22 Try.underlying5
      have hcm := grownCap_le_maxLen w5 x.size 0 5 (by simp [maxLen]; omega)
      have hcg := grownCap_ge w5 x.size 0 5
      have HY := Lib.hid ((blk_bytes w5 x).fl x.size (grownCap w5 x.size 0 5) (bs_length x) hcg (by simpa [maxLen] using hcm))
      have HE5 := Lib.hid (ext_bytes w5 x)
      have HL5 : Hid ((BB ++ putN [] (x.size : Int) 1).length ≤ 140737470100007) := Lib.hid (by have := HL.out; have := putN_le (x.size : Int) (size := 1) (by omega); simp at this; rw [List.length_append]; omega)
      clear hcm hcg
      go_wp2_with fail
      clear q0 q1 q2 q3 q4 HBX hcx
      generalize Lib.bytesWorld w5 5 x = w6 at *
      generalize grownCap w5 x.size 0 5 = cg at *
      refine (mx_Raw q u5 t5 _ _ (bs x) f N w6 (HM5.out.ext HE5.out) HY.out (by have := HL5.out; have := HLx.out; rw [bs_length]; omega)).mono ?_
      rintro e w7 ⟨rfl, u7, t7, hM7, hs7⟩
      have HM7 := Lib.hid hM7
      have HS7 := Lib.hid ((HS5.out.ext HE5.out).trans hs7)
      clear hM7 hs7
      go_wp2
      go_roundw
      case rel => exact ⟨k + 1, u7, t7, by omega, by go_num, by rw [HB.out, ← List.append_assoc, ← List.append_assoc, HBB.out]; exact HM7.out, by rw [HB.out, ← List.append_assoc, ← List.append_assoc, HBB.out]; exact HS7.out⟩
      case measure => simp [intOf]; omega
    · rw [List.take_of_length_le (by omega)] at HMc HSc
      have HLc : Hid ((b ++ d.bytes ++ textsB d.texts).length ≤ 140737470100000) := Lib.hid (by have := textsB_take_len d.texts d.texts.length HPl.out pt; rw [List.take_length] at this; have := HPb.out; rw [List.length_append, List.length_append]; omega)
      obtain ⟨BT, hBT⟩ : ∃ BT, b ++ d.bytes ++ textsB d.texts = BT := ⟨_, rfl⟩
      rw [hBT] at HMc HSc HLc HEQ
      clear hBT HM4 HS4
      have HBX := Lib.hid (stp_heap HSc.out HBX0.out HS0.out)
      have q0 := row_cells HBX.out 0
      have q1 := row_cells HBX.out 1
      have q2 := row_cells HBX.out 2
      have q3 := row_cells HBX.out 3
      have q4 := row_cells HBX.out 4
      simp at q0 q1 q2 q3 q4
      go_wp2_with fail
      clear q0 q1 q2 q3 q4 HBX
      refine (mx_Name q uc tc _ d.host true BT f N wr HMc.out (by omega) (fun W' hk => (HD0.out.step HSc.out W' hk).ho) HPhh.out (by have := HLc.out; omega)).mono ?_
      rintro e yhost ⟨rfl, uhost, thost, hM, hs⟩
      have HLd : Hid (((Wt.name d.host true).bytes BT f).length ≤ BT.length + 255) := Lib.hid (name_grow HPhh.out HMc.out.small)
      have HSd := Lib.hid (HSc.out.trans hs)
      clear HMc HSc
      have HMc := Lib.hid hM
      have HSc := HSd
      clear hM hs HSd
      have HBX := Lib.hid (stp_heap HSc.out HBX0.out HS0.out)
      have q0 := row_cells HBX.out 0
      have q1 := row_cells HBX.out 1
      have q2 := row_cells HBX.out 2
      have q3 := row_cells HBX.out 3
      have q4 := row_cells HBX.out 4
      simp at q0 q1 q2 q3 q4
      go_wp2
      clear q0 q1 q2 q3 q4 HBX
      refine bodyPost_end (results_none (by kernel_rfl) _ _ _) rfl ?_
      have hM9 := HMc.out
      have hS9 := HSc.out
      rw [HEQ.out.1, HEQ.out.2] at hM9
      rw [HEQ.out.1] at hS9
      exact ⟨rfl, _, _, hM9.mono (by omega), (Stp.of_ext HE0.out).trans hS9⟩

set_option maxRecDepth 100000 in
set_option maxHeartbeats 1000000 in
theorem pd12 (kind : Int) (d : Dat) (q : Nat) (u t v0 v1 v2 v3 v4 : Value) (b : List UInt8) (f : Rests) (N : Nat) (w : World) (hW : MrW w q u t b f N) (hd : Stb (Smr q u t b) w fun W => DR W v0 v1 v2 v3 v4 d) (hs : rsound kind d = true) (hb : b.length ≤ 140737470000000) (hN : N ≤ 900000) (hk : kind = 12) :
    Calls Try.prog 62 #[.pointer (some ⟨q, 0, none⟩), .int .i64 kind, .agg #[v0, v1, v2, v3, v4]] w fun e w' => e = .returned (.tuple #[]) ∧ Wrt q u t b ((Wt.data kind d).bytes b f) ((Wt.data kind d).rests b f) (N + 600) w w' := by
  subst hk
  have hsh : shapeOf 12 = ⟨0, true, false, true, 0, 0, false, false⟩ := by simp [shapeOf]
  have hnn : d.nums = [] := List.eq_nil_of_length_eq_zero ((rsound_parts hs hsh).2.2.1)
  have heq : (Wt.name d.host true).bytes (b ++ d.bytes ++ textsB d.texts) f = (Wt.data 12 d).bytes b f ∧ (Wt.name d.host true).rests (b ++ d.bytes ++ textsB d.texts) f = (Wt.data 12 d).rests b f := by
    simp only [Wt.data, hsh, nums_raw, texts_raw, Wt.bytes_seq, Wt.rests_seq, raw_bytes, raw_rests, skip_bytes, skip_rests, if_true, if_false, Bool.false_eq_true]
    simp [hnn, numsB]
  clear hnn
  obtain ⟨_, pb, pn, ph, pm, pt, pl⟩ := rsound_parts hs hsh
  have hfn := rsound_fits hs
  rw [hsh] at hfn
  have hE0 := (Ext.refl w).alloc (.cells #[v0, v1, v2, v3, v4] 26)
  have HD := Lib.hid hd
  have hd0 := hd.here
  obtain ⟨A0, k0, rfl, _, _⟩ := hd0.by_.form
  obtain ⟨A1, k1, rfl, _, _⟩ := hd0.ho.form
  obtain ⟨A2, k2, rfl, _, _⟩ := hd0.ma.form
  obtain ⟨A3, k3, rfl, _, _⟩ := hd0.nu.form
  obtain ⟨A4, k4, rfl, _, _⟩ := hd0.tx.form
  have HBX0 := Lib.hid (heap_alloc_new w (.cells #[.slice A0 d.bytes.length k0, .slice A1 d.host.length k1, .slice A2 d.mail.length k2, .slice A3 d.nums.length k3, .slice A4 d.texts.length k4] 26))
  have HPl := Lib.hid pl
  have HPn : Hid (d.nums.length ≤ 5) := Lib.hid (by simp only at pn; omega)
  have HPb := Lib.hid pb
  have HE0 := Lib.hid hE0
  have HEQ := Lib.hid heq
  clear heq
  obtain ⟨Bf, hBf⟩ : ∃ Bf, (Wt.data 12 d).bytes b f = Bf := ⟨_, rfl⟩
  obtain ⟨Ff, hFf⟩ : ∃ Ff, (Wt.data 12 d).rests b f = Ff := ⟨_, rfl⟩
  rw [hBf, hFf]
  rw [hBf, hFf] at HEQ
  have HS0 : Hid (¬ Smr q u t b w.heap.size) := Lib.hid (fun h => by have := hW.lt _ h; omega)
  have HW0 := Lib.hid (hW.ext hE0)
  have HD0 := Lib.hid (hd.step (Stp.of_ext hE0))
  have HFn : Hid (∀ x ∈ d.nums, x ≤ 9223372036854775807) := Lib.hid (fun x hx => by have := fits_bound _ _ (hfn x hx); omega)
  have HPh : Hid (nsound d.host = true ∨ True) := Lib.hid (.inr trivial)
  have HPhh : Hid (nsound d.host = true) := Lib.hid (ph rfl)
  clear hd hW hE0 hd0 hs pl ph pm hBf hFf hsh pn hfn
  go_enter Try.func62, Try.ntmps62
  go_wp2_with fail
  obtain ⟨w0, hw0⟩ : ∃ w0, w.alloc (.cells #[.slice A0 d.bytes.length k0, .slice A1 d.host.length k1, .slice A2 d.mail.length k2, .slice A3 d.nums.length k3, .slice A4 d.texts.length k4] 26) = w0 := ⟨_, rfl⟩
  rw [hw0]
  rw [hw0] at HBX0 HE0 HW0 HD0
  clear hw0
  refine (mx_Raw q u t _ b d.bytes f N w0 HW0.out HD0.out.here.by_ (by omega)).mono ?_
  rintro e W4 ⟨rfl, u4, t4, hM4, hs4⟩
  have HM4 := Lib.hid hM4
  have HS4 := Lib.hid hs4
  clear hM4 hs4
  have HBX := Lib.hid (stp_heap HS4.out HBX0.out HS0.out)
  have q0 := row_cells HBX.out 0
  have q1 := row_cells HBX.out 1
  have q2 := row_cells HBX.out 2
  have q3 := row_cells HBX.out 3
  have q4 := row_cells HBX.out 4
  simp at q0 q1 q2 q3 q4
  go_wp2
  clear q0 q1 q2 q3 q4 HBX
  go_loopw [6] (fun i wr => ∃ (k : Nat) (uc tc : Value), k ≤ d.texts.length ∧ i = .int .i64 k ∧ MrW wr q uc tc (b ++ d.bytes ++ textsB (d.texts.take k)) f N ∧ Stp (Smr q u t b) w0 (Smr q uc tc (b ++ d.bytes ++ textsB (d.texts.take k))) wr) (fun i _ => d.texts.length - (intOf i).toNat)
  case atStart => exact ⟨0, u4, t4, by omega, rfl, by simpa [textsB] using HM4.out, by simpa [textsB] using HS4.out⟩
  case round =>
    obtain ⟨k, uc, tc, hk, rfl, hM, hS⟩ := hrel
    have HMc := Lib.hid hM
    have HSc := Lib.hid hS
    clear hM hS
    by_cases hlt : k < d.texts.length
    · obtain ⟨b1, o1, c1, e1, _, _, hc1⟩ := ((HD0.out.step HSc.out).here.tx).opens (by omega)
      injection e1 with e1 e3 e4
      subst e1
      clear e3 e4
      have hx := List.getElem?_eq_getElem hlt
      have HB := Lib.hid (textsB_snoc hx)
      have HLx : Hid (d.texts[k].size ≤ 255) := Lib.hid (by
        have := List.any_eq_false.1 HPl.out _ (List.mem_of_getElem? hx)
        unfold longT at this
        rw [decide_eq_true_eq] at this
        omega)
      have HL : Hid ((b ++ d.bytes ++ textsB (d.texts.take k)).length ≤ 140737470100000) := Lib.hid (by have := textsB_take_len d.texts k HPl.out pt; have := HPb.out; rw [List.length_append, List.length_append]; omega)
      have hcx := hc1 k _ hx
      have HX := Lib.hid hx
      clear hc1 hx
      generalize d.texts[k] = x at *
      generalize hBB : b ++ d.bytes ++ textsB (d.texts.take k) = BB at *
      have HBB := Lib.hid hBB
      clear hBB
      have hxs := HLx.out
      have HBX := Lib.hid (stp_heap HSc.out HBX0.out HS0.out)
      have q0 := row_cells HBX.out 0
      have q1 := row_cells HBX.out 1
      have q2 := row_cells HBX.out 2
      have q3 := row_cells HBX.out 3
      have q4 := row_cells HBX.out 4
      simp at q0 q1 q2 q3 q4
      go_wp2_with fail
      clear q0 q1 q2 q3 q4 HBX hcx
      refine (mx_Num q uc tc (x.size : Int) 1 BB f N wr HMc.out (by have := HL.out; omega) (by omega)).mono ?_
      rintro e w5 ⟨rfl, u5, t5, hM5, hs5⟩
      have HM5 := Lib.hid hM5
      have HS5 := Lib.hid (HSc.out.trans hs5)
      clear hM5 hs5
      obtain ⟨_, _, c1, e1, _, _, hc1⟩ := ((HD0.out.step HS5.out).here.tx).opens (by omega)
      injection e1 with e1 e3 e4
      injection e1 with e1
      injection e1 with e1 e3 _
      subst e1 e3
      have hcx := hc1 k _ HX.out
      clear hc1 e4
      have HBX := Lib.hid (stp_heap HS5.out HBX0.out HS0.out)
      have q0 := row_cells HBX.out 0
      have q1 := row_cells HBX.out 1
      have q2 := row_cells HBX.out 2
      have q3 := row_cells HBX.out 3
      have q4 := row_cells HBX.out 4
      simp at q0 q1 q2 q3 q4
      have kb := fun w => Lib.run_convert_string_bytes (P := Try.prog) w 9 22 5 x Try.underlying9 Try.underlying22 Try.underlying5
      have hcm := grownCap_le_maxLen w5 x.size 0 5 (by simp [maxLen]; omega)
      have hcg := grownCap_ge w5 x.size 0 5
      have HY := Lib.hid ((blk_bytes w5 x).fl x.size (grownCap w5 x.size 0 5) (bs_length x) hcg (by simpa [maxLen] using hcm))
      have HE5 := Lib.hid (ext_bytes w5 x)
      have HL5 : Hid ((BB ++ putN [] (x.size : Int) 1).length ≤ 140737470100007) := Lib.hid (by have := HL.out; have := putN_le (x.size : Int) (size := 1) (by omega); simp at this; rw [List.length_append]; omega)
      clear hcm hcg
      go_wp2_with fail
      clear q0 q1 q2 q3 q4 HBX hcx
      generalize Lib.bytesWorld w5 5 x = w6 at *
      generalize grownCap w5 x.size 0 5 = cg at *
      refine (mx_Raw q u5 t5 _ _ (bs x) f N w6 (HM5.out.ext HE5.out) HY.out (by have := HL5.out; have := HLx.out; rw [bs_length]; omega)).mono ?_
      rintro e w7 ⟨rfl, u7, t7, hM7, hs7⟩
      have HM7 := Lib.hid hM7
      have HS7 := Lib.hid ((HS5.out.ext HE5.out).trans hs7)
      clear hM7 hs7
      go_wp2
      go_roundw
      case rel => exact ⟨k + 1, u7, t7, by omega, by go_num, by rw [HB.out, ← List.append_assoc, ← List.append_assoc, HBB.out]; exact HM7.out, by rw [HB.out, ← List.append_assoc, ← List.append_assoc, HBB.out]; exact HS7.out⟩
      case measure => simp [intOf]; omega
    · rw [List.take_of_length_le (by omega)] at HMc HSc
      have HLc : Hid ((b ++ d.bytes ++ textsB d.texts).length ≤ 140737470100000) := Lib.hid (by have := textsB_take_len d.texts d.texts.length HPl.out pt; rw [List.take_length] at this; have := HPb.out; rw [List.length_append, List.length_append]; omega)
      obtain ⟨BT, hBT⟩ : ∃ BT, b ++ d.bytes ++ textsB d.texts = BT := ⟨_, rfl⟩
      rw [hBT] at HMc HSc HLc HEQ
      clear hBT HM4 HS4
      have HBX := Lib.hid (stp_heap HSc.out HBX0.out HS0.out)
      have q0 := row_cells HBX.out 0
      have q1 := row_cells HBX.out 1
      have q2 := row_cells HBX.out 2
      have q3 := row_cells HBX.out 3
      have q4 := row_cells HBX.out 4
      simp at q0 q1 q2 q3 q4
      go_wp2_with fail
      clear q0 q1 q2 q3 q4 HBX
      refine (mx_Name q uc tc _ d.host true BT f N wr HMc.out (by omega) (fun W' hk => (HD0.out.step HSc.out W' hk).ho) HPhh.out (by have := HLc.out; omega)).mono ?_
      rintro e yhost ⟨rfl, uhost, thost, hM, hs⟩
      have HLd : Hid (((Wt.name d.host true).bytes BT f).length ≤ BT.length + 255) := Lib.hid (name_grow HPhh.out HMc.out.small)
      have HSd := Lib.hid (HSc.out.trans hs)
      clear HMc HSc
      have HMc := Lib.hid hM
      have HSc := HSd
      clear hM hs HSd
      have HBX := Lib.hid (stp_heap HSc.out HBX0.out HS0.out)
      have q0 := row_cells HBX.out 0
      have q1 := row_cells HBX.out 1
      have q2 := row_cells HBX.out 2
      have q3 := row_cells HBX.out 3
      have q4 := row_cells HBX.out 4
      simp at q0 q1 q2 q3 q4
      go_wp2
      clear q0 q1 q2 q3 q4 HBX
      refine bodyPost_end (results_none (by kernel_rfl) _ _ _) rfl ?_
      have hM9 := HMc.out
      have hS9 := HSc.out
      rw [HEQ.out.1, HEQ.out.2] at hM9
      rw [HEQ.out.1] at hS9
      exact ⟨rfl, _, _, hM9.mono (by omega), (Stp.of_ext HE0.out).trans hS9⟩

set_option maxRecDepth 100000 in
set_option maxHeartbeats 1000000 in
theorem pd15 (kind : Int) (d : Dat) (q : Nat) (u t v0 v1 v2 v3 v4 : Value) (b : List UInt8) (f : Rests) (N : Nat) (w : World) (hW : MrW w q u t b f N) (hd : Stb (Smr q u t b) w fun W => DR W v0 v1 v2 v3 v4 d) (hs : rsound kind d = true) (hb : b.length ≤ 140737470000000) (hN : N ≤ 900000) (hk : kind = 15) :
    Calls Try.prog 62 #[.pointer (some ⟨q, 0, none⟩), .int .i64 kind, .agg #[v0, v1, v2, v3, v4]] w fun e w' => e = .returned (.tuple #[]) ∧ Wrt q u t b ((Wt.data kind d).bytes b f) ((Wt.data kind d).rests b f) (N + 600) w w' := by
  subst hk
  have hsh : shapeOf 15 = ⟨0, true, false, true, 1, 2, false, true⟩ := by simp [shapeOf]
  have heq : (Wt.name d.host true).bytes ((b ++ d.bytes ++ textsB d.texts) ++ numsB 2 d.nums) f = (Wt.data 15 d).bytes b f ∧ (Wt.name d.host true).rests ((b ++ d.bytes ++ textsB d.texts) ++ numsB 2 d.nums) f = (Wt.data 15 d).rests b f := by
    simp only [Wt.data, hsh, nums_raw, texts_raw, Wt.bytes_seq, Wt.rests_seq, raw_bytes, raw_rests, skip_bytes, skip_rests, if_true, if_false, Bool.false_eq_true]
    first | exact ⟨rfl, rfl⟩ | exact ⟨rfl, trivial⟩ | trivial
  obtain ⟨_, pb, pn, ph, pm, pt, pl⟩ := rsound_parts hs hsh
  have hfn := rsound_fits hs
  rw [hsh] at hfn
  have hE0 := (Ext.refl w).alloc (.cells #[v0, v1, v2, v3, v4] 26)
  have HD := Lib.hid hd
  have hd0 := hd.here
  obtain ⟨A0, k0, rfl, _, _⟩ := hd0.by_.form
  obtain ⟨A1, k1, rfl, _, _⟩ := hd0.ho.form
  obtain ⟨A2, k2, rfl, _, _⟩ := hd0.ma.form
  obtain ⟨A3, k3, rfl, _, _⟩ := hd0.nu.form
  obtain ⟨A4, k4, rfl, _, _⟩ := hd0.tx.form
  have HBX0 := Lib.hid (heap_alloc_new w (.cells #[.slice A0 d.bytes.length k0, .slice A1 d.host.length k1, .slice A2 d.mail.length k2, .slice A3 d.nums.length k3, .slice A4 d.texts.length k4] 26))
  have HPl := Lib.hid pl
  have HPn : Hid (d.nums.length ≤ 5) := Lib.hid (by simp only at pn; omega)
  have HPb := Lib.hid pb
  have HE0 := Lib.hid hE0
  have HEQ := Lib.hid heq
  clear heq
  obtain ⟨Bf, hBf⟩ : ∃ Bf, (Wt.data 15 d).bytes b f = Bf := ⟨_, rfl⟩
  obtain ⟨Ff, hFf⟩ : ∃ Ff, (Wt.data 15 d).rests b f = Ff := ⟨_, rfl⟩
  rw [hBf, hFf]
  rw [hBf, hFf] at HEQ
  have HS0 : Hid (¬ Smr q u t b w.heap.size) := Lib.hid (fun h => by have := hW.lt _ h; omega)
  have HW0 := Lib.hid (hW.ext hE0)
  have HD0 := Lib.hid (hd.step (Stp.of_ext hE0))
  have HFn : Hid (∀ x ∈ d.nums, x ≤ 9223372036854775807) := Lib.hid (fun x hx => by have := fits_bound _ _ (hfn x hx); omega)
  have HPh : Hid (nsound d.host = true ∨ True) := Lib.hid (.inr trivial)
  have HPhh : Hid (nsound d.host = true) := Lib.hid (ph rfl)
  clear hd hW hE0 hd0 hs pl ph pm hBf hFf hsh pn hfn
  go_enter Try.func62, Try.ntmps62
  go_wp2_with fail
  obtain ⟨w0, hw0⟩ : ∃ w0, w.alloc (.cells #[.slice A0 d.bytes.length k0, .slice A1 d.host.length k1, .slice A2 d.mail.length k2, .slice A3 d.nums.length k3, .slice A4 d.texts.length k4] 26) = w0 := ⟨_, rfl⟩
  rw [hw0]
  rw [hw0] at HBX0 HE0 HW0 HD0
  clear hw0
  refine (mx_Raw q u t _ b d.bytes f N w0 HW0.out HD0.out.here.by_ (by omega)).mono ?_
  rintro e W4 ⟨rfl, u4, t4, hM4, hs4⟩
  have HM4 := Lib.hid hM4
  have HS4 := Lib.hid hs4
  clear hM4 hs4
  have HBX := Lib.hid (stp_heap HS4.out HBX0.out HS0.out)
  have q0 := row_cells HBX.out 0
  have q1 := row_cells HBX.out 1
  have q2 := row_cells HBX.out 2
  have q3 := row_cells HBX.out 3
  have q4 := row_cells HBX.out 4
  simp at q0 q1 q2 q3 q4
  go_wp2
  clear q0 q1 q2 q3 q4 HBX
  go_loopw [6] (fun i wr => ∃ (k : Nat) (uc tc : Value), k ≤ d.texts.length ∧ i = .int .i64 k ∧ MrW wr q uc tc (b ++ d.bytes ++ textsB (d.texts.take k)) f N ∧ Stp (Smr q u t b) w0 (Smr q uc tc (b ++ d.bytes ++ textsB (d.texts.take k))) wr) (fun i _ => d.texts.length - (intOf i).toNat)
  case atStart => exact ⟨0, u4, t4, by omega, rfl, by simpa [textsB] using HM4.out, by simpa [textsB] using HS4.out⟩
  case round =>
    obtain ⟨k, uc, tc, hk, rfl, hM, hS⟩ := hrel
    have HMc := Lib.hid hM
    have HSc := Lib.hid hS
    clear hM hS
    by_cases hlt : k < d.texts.length
    · obtain ⟨b1, o1, c1, e1, _, _, hc1⟩ := ((HD0.out.step HSc.out).here.tx).opens (by omega)
      injection e1 with e1 e3 e4
      subst e1
      clear e3 e4
      have hx := List.getElem?_eq_getElem hlt
      have HB := Lib.hid (textsB_snoc hx)
      have HLx : Hid (d.texts[k].size ≤ 255) := Lib.hid (by
        have := List.any_eq_false.1 HPl.out _ (List.mem_of_getElem? hx)
        unfold longT at this
        rw [decide_eq_true_eq] at this
        omega)
      have HL : Hid ((b ++ d.bytes ++ textsB (d.texts.take k)).length ≤ 140737470100000) := Lib.hid (by have := textsB_take_len d.texts k HPl.out pt; have := HPb.out; rw [List.length_append, List.length_append]; omega)
      have hcx := hc1 k _ hx
      have HX := Lib.hid hx
      clear hc1 hx
      generalize d.texts[k] = x at *
      generalize hBB : b ++ d.bytes ++ textsB (d.texts.take k) = BB at *
      have HBB := Lib.hid hBB
      clear hBB
      have hxs := HLx.out
      have HBX := Lib.hid (stp_heap HSc.out HBX0.out HS0.out)
      have q0 := row_cells HBX.out 0
      have q1 := row_cells HBX.out 1
      have q2 := row_cells HBX.out 2
      have q3 := row_cells HBX.out 3
      have q4 := row_cells HBX.out 4
      simp at q0 q1 q2 q3 q4
      go_wp2_with fail
      clear q0 q1 q2 q3 q4 HBX hcx
      refine (mx_Num q uc tc (x.size : Int) 1 BB f N wr HMc.out (by have := HL.out; omega) (by omega)).mono ?_
      rintro e w5 ⟨rfl, u5, t5, hM5, hs5⟩
      have HM5 := Lib.hid hM5
      have HS5 := Lib.hid (HSc.out.trans hs5)
      clear hM5 hs5
      obtain ⟨_, _, c1, e1, _, _, hc1⟩ := ((HD0.out.step HS5.out).here.tx).opens (by omega)
      injection e1 with e1 e3 e4
      injection e1 with e1
      injection e1 with e1 e3 _
      subst e1 e3
      have hcx := hc1 k _ HX.out
      clear hc1 e4
      have HBX := Lib.hid (stp_heap HS5.out HBX0.out HS0.out)
      have q0 := row_cells HBX.out 0
      have q1 := row_cells HBX.out 1
      have q2 := row_cells HBX.out 2
      have q3 := row_cells HBX.out 3
      have q4 := row_cells HBX.out 4
      simp at q0 q1 q2 q3 q4
      have kb := fun w => Lib.run_convert_string_bytes (P := Try.prog) w 9 22 5 x Try.underlying9 Try.underlying22 Try.underlying5
      have hcm := grownCap_le_maxLen w5 x.size 0 5 (by simp [maxLen]; omega)
      have hcg := grownCap_ge w5 x.size 0 5
      have HY := Lib.hid ((blk_bytes w5 x).fl x.size (grownCap w5 x.size 0 5) (bs_length x) hcg (by simpa [maxLen] using hcm))
      have HE5 := Lib.hid (ext_bytes w5 x)
      have HL5 : Hid ((BB ++ putN [] (x.size : Int) 1).length ≤ 140737470100007) := Lib.hid (by have := HL.out; have := putN_le (x.size : Int) (size := 1) (by omega); simp at this; rw [List.length_append]; omega)
      clear hcm hcg
      go_wp2_with fail
      clear q0 q1 q2 q3 q4 HBX hcx
      generalize Lib.bytesWorld w5 5 x = w6 at *
      generalize grownCap w5 x.size 0 5 = cg at *
      refine (mx_Raw q u5 t5 _ _ (bs x) f N w6 (HM5.out.ext HE5.out) HY.out (by have := HL5.out; have := HLx.out; rw [bs_length]; omega)).mono ?_
      rintro e w7 ⟨rfl, u7, t7, hM7, hs7⟩
      have HM7 := Lib.hid hM7
      have HS7 := Lib.hid ((HS5.out.ext HE5.out).trans hs7)
      clear hM7 hs7
      go_wp2
      go_roundw
      case rel => exact ⟨k + 1, u7, t7, by omega, by go_num, by rw [HB.out, ← List.append_assoc, ← List.append_assoc, HBB.out]; exact HM7.out, by rw [HB.out, ← List.append_assoc, ← List.append_assoc, HBB.out]; exact HS7.out⟩
      case measure => simp [intOf]; omega
    · rw [List.take_of_length_le (by omega)] at HMc HSc
      have HLc : Hid ((b ++ d.bytes ++ textsB d.texts).length ≤ 140737470100000) := Lib.hid (by have := textsB_take_len d.texts d.texts.length HPl.out pt; rw [List.take_length] at this; have := HPb.out; rw [List.length_append, List.length_append]; omega)
      obtain ⟨BT, hBT⟩ : ∃ BT, b ++ d.bytes ++ textsB d.texts = BT := ⟨_, rfl⟩
      rw [hBT] at HMc HSc HLc HEQ
      clear hBT HM4 HS4
      have HBX := Lib.hid (stp_heap HSc.out HBX0.out HS0.out)
      have q0 := row_cells HBX.out 0
      have q1 := row_cells HBX.out 1
      have q2 := row_cells HBX.out 2
      have q3 := row_cells HBX.out 3
      have q4 := row_cells HBX.out 4
      simp at q0 q1 q2 q3 q4
      go_wp2
      clear q0 q1 q2 q3 q4 HBX
      obtain ⟨BB, hBB⟩ : ∃ BB, BT = BB := ⟨_, rfl⟩
      rw [hBB] at HMc HSc HLc
      have HBB := Lib.hid hBB
      clear hBB
      go_loopw [7] (fun i wr => ∃ (j : Nat) (uc tc : Value), j ≤ d.nums.length ∧ i = .int .i64 j ∧ MrW wr q uc tc (BB ++ numsB 2 (d.nums.take j)) f (N) ∧ Stp (Smr q u t b) w0 (Smr q uc tc (BB ++ numsB 2 (d.nums.take j))) wr) (fun i _ => d.nums.length - (intOf i).toNat)
      case atStart => exact ⟨0, _, _, by omega, rfl, by simpa [numsB] using HMc.out, by simpa [numsB] using HSc.out⟩
      case round =>
        obtain ⟨j, uc, tc, hj, rfl, hM, hS⟩ := hrel
        clear HMc HSc
        have HMc := Lib.hid hM
        have HSc := Lib.hid hS
        clear hM hS
        by_cases hlt : j < d.nums.length
        · have hn5 := HPn.out
          obtain ⟨b3, o3, c3, e3, _, _, hc3⟩ := ((HD0.out.step HSc.out).here.nu).opens (by omega)
          injection e3 with e3 e4 e5
          subst e3
          clear e4 e5
          have hx := List.getElem?_eq_getElem hlt
          have hcx := hc3 j _ hx
          have HBs := Lib.hid (numsB_snoc 2 hx)
          have HXf := Lib.hid (HFn.out _ (List.mem_of_getElem? hx))
          have HLj : Hid ((BB ++ numsB 2 (d.nums.take j)).length ≤ 140737470900000) := Lib.hid (by have := HLc.out; have := numsB_len 2 (d.nums.take j); have := HPn.out; have : (d.nums.take j).length ≤ d.nums.length := List.length_take_le' _ _; rw [List.length_append]; omega)
          clear hc3 hx
          generalize d.nums[j] = x at *
          obtain ⟨Bj, hBj⟩ : ∃ Bj, BB ++ numsB 2 (d.nums.take j) = Bj := ⟨_, rfl⟩
          rw [hBj] at HMc HSc HLj
          have HBj := Lib.hid hBj
          clear hBj
          have HBX := Lib.hid (stp_heap HSc.out HBX0.out HS0.out)
          have q0 := row_cells HBX.out 0
          have q1 := row_cells HBX.out 1
          have q2 := row_cells HBX.out 2
          have q3 := row_cells HBX.out 3
          have q4 := row_cells HBX.out 4
          simp at q0 q1 q2 q3 q4
          unfold vInt at hcx
          go_wp2_with fail
          clear q0 q1 q2 q3 q4 HBX hcx
          refine (mx_Num q uc tc x 2 Bj f (N) wr HMc.out (by have := HLj.out; omega) (by have := HXf.out; omega)).mono ?_
          rintro e w6 ⟨rfl, u6, t6, hM, hs⟩
          have HM6 := Lib.hid hM
          have HS6 := Lib.hid (HSc.out.trans hs)
          clear hM hs
          go_wp2
          go_roundw
          case rel => exact ⟨j + 1, u6, t6, by omega, by go_num, by rw [HBs.out, ← List.append_assoc, HBj.out]; exact HM6.out, by rw [HBs.out, ← List.append_assoc, HBj.out]; exact HS6.out⟩
          case measure => simp [intOf]; omega
        · rw [List.take_of_length_le (by omega)] at HMc HSc
          have HLn : Hid ((BB ++ numsB 2 d.nums).length ≤ BB.length + 35) := Lib.hid (by have := numsB_len 2 d.nums; have := HPn.out; rw [List.length_append]; omega)
          have HLc' := Lib.hid (show (BB ++ numsB 2 d.nums).length ≤ 140737470200000 by have := HLn.out; have := HLc.out; omega)
          clear HLc
          have HLc := HLc'
          clear HLc'
          rw [HBB.out] at HEQ
          have HBX := Lib.hid (stp_heap HSc.out HBX0.out HS0.out)
          have q0 := row_cells HBX.out 0
          have q1 := row_cells HBX.out 1
          have q2 := row_cells HBX.out 2
          have q3 := row_cells HBX.out 3
          have q4 := row_cells HBX.out 4
          simp at q0 q1 q2 q3 q4
          go_wp2_with fail
          clear q0 q1 q2 q3 q4 HBX
          refine (mx_Name q uc tc _ d.host true (BB ++ numsB 2 d.nums) f N wr HMc.out (by omega) (fun W' hk => (HD0.out.step HSc.out W' hk).ho) HPhh.out (by have := HLc.out; omega)).mono ?_
          rintro e yhost ⟨rfl, uhost, thost, hM, hs⟩
          have HLd : Hid (((Wt.name d.host true).bytes (BB ++ numsB 2 d.nums) f).length ≤ (BB ++ numsB 2 d.nums).length + 255) := Lib.hid (name_grow HPhh.out HMc.out.small)
          have HSd := Lib.hid (HSc.out.trans hs)
          clear HMc HSc
          have HMc := Lib.hid hM
          have HSc := HSd
          clear hM hs HSd
          have HBX := Lib.hid (stp_heap HSc.out HBX0.out HS0.out)
          have q0 := row_cells HBX.out 0
          have q1 := row_cells HBX.out 1
          have q2 := row_cells HBX.out 2
          have q3 := row_cells HBX.out 3
          have q4 := row_cells HBX.out 4
          simp at q0 q1 q2 q3 q4
          go_wp2
          clear q0 q1 q2 q3 q4 HBX
          refine bodyPost_end (results_none (by kernel_rfl) _ _ _) rfl ?_
          have hM9 := HMc.out
          have hS9 := HSc.out
          rw [HEQ.out.1, HEQ.out.2] at hM9
          rw [HEQ.out.1] at hS9
          exact ⟨rfl, _, _, hM9.mono (by omega), (Stp.of_ext HE0.out).trans hS9⟩

set_option maxRecDepth 100000 in
set_option maxHeartbeats 1000000 in
theorem pd33 (kind : Int) (d : Dat) (q : Nat) (u t v0 v1 v2 v3 v4 : Value) (b : List UInt8) (f : Rests) (N : Nat) (w : World) (hW : MrW w q u t b f N) (hd : Stb (Smr q u t b) w fun W => DR W v0 v1 v2 v3 v4 d) (hs : rsound kind d = true) (hb : b.length ≤ 140737470000000) (hN : N ≤ 900000) (hk : kind = 33) :
    Calls Try.prog 62 #[.pointer (some ⟨q, 0, none⟩), .int .i64 kind, .agg #[v0, v1, v2, v3, v4]] w fun e w' => e = .returned (.tuple #[]) ∧ Wrt q u t b ((Wt.data kind d).bytes b f) ((Wt.data kind d).rests b f) (N + 600) w w' := by
  subst hk
  have hsh : shapeOf 33 = ⟨0, true, false, false, 3, 2, false, true⟩ := by simp [shapeOf]
  have heq : (Wt.name d.host false).bytes ((b ++ d.bytes ++ textsB d.texts) ++ numsB 2 d.nums) f = (Wt.data 33 d).bytes b f ∧ (Wt.name d.host false).rests ((b ++ d.bytes ++ textsB d.texts) ++ numsB 2 d.nums) f = (Wt.data 33 d).rests b f := by
    simp only [Wt.data, hsh, nums_raw, texts_raw, Wt.bytes_seq, Wt.rests_seq, raw_bytes, raw_rests, skip_bytes, skip_rests, if_true, if_false, Bool.false_eq_true]
    first | exact ⟨rfl, rfl⟩ | exact ⟨rfl, trivial⟩ | trivial
  obtain ⟨_, pb, pn, ph, pm, pt, pl⟩ := rsound_parts hs hsh
  have hfn := rsound_fits hs
  rw [hsh] at hfn
  have hE0 := (Ext.refl w).alloc (.cells #[v0, v1, v2, v3, v4] 26)
  have HD := Lib.hid hd
  have hd0 := hd.here
  obtain ⟨A0, k0, rfl, _, _⟩ := hd0.by_.form
  obtain ⟨A1, k1, rfl, _, _⟩ := hd0.ho.form
  obtain ⟨A2, k2, rfl, _, _⟩ := hd0.ma.form
  obtain ⟨A3, k3, rfl, _, _⟩ := hd0.nu.form
  obtain ⟨A4, k4, rfl, _, _⟩ := hd0.tx.form
  have HBX0 := Lib.hid (heap_alloc_new w (.cells #[.slice A0 d.bytes.length k0, .slice A1 d.host.length k1, .slice A2 d.mail.length k2, .slice A3 d.nums.length k3, .slice A4 d.texts.length k4] 26))
  have HPl := Lib.hid pl
  have HPn : Hid (d.nums.length ≤ 5) := Lib.hid (by simp only at pn; omega)
  have HPb := Lib.hid pb
  have HE0 := Lib.hid hE0
  have HEQ := Lib.hid heq
  clear heq
  obtain ⟨Bf, hBf⟩ : ∃ Bf, (Wt.data 33 d).bytes b f = Bf := ⟨_, rfl⟩
  obtain ⟨Ff, hFf⟩ : ∃ Ff, (Wt.data 33 d).rests b f = Ff := ⟨_, rfl⟩
  rw [hBf, hFf]
  rw [hBf, hFf] at HEQ
  have HS0 : Hid (¬ Smr q u t b w.heap.size) := Lib.hid (fun h => by have := hW.lt _ h; omega)
  have HW0 := Lib.hid (hW.ext hE0)
  have HD0 := Lib.hid (hd.step (Stp.of_ext hE0))
  have HFn : Hid (∀ x ∈ d.nums, x ≤ 9223372036854775807) := Lib.hid (fun x hx => by have := fits_bound _ _ (hfn x hx); omega)
  have HPh : Hid (nsound d.host = true ∨ True) := Lib.hid (.inr trivial)
  have HPhh : Hid (nsound d.host = true) := Lib.hid (ph rfl)
  clear hd hW hE0 hd0 hs pl ph pm hBf hFf hsh pn hfn
  go_enter Try.func62, Try.ntmps62
  go_wp2_with fail
  obtain ⟨w0, hw0⟩ : ∃ w0, w.alloc (.cells #[.slice A0 d.bytes.length k0, .slice A1 d.host.length k1, .slice A2 d.mail.length k2, .slice A3 d.nums.length k3, .slice A4 d.texts.length k4] 26) = w0 := ⟨_, rfl⟩
  rw [hw0]
  rw [hw0] at HBX0 HE0 HW0 HD0
  clear hw0
  refine (mx_Raw q u t _ b d.bytes f N w0 HW0.out HD0.out.here.by_ (by omega)).mono ?_
  rintro e W4 ⟨rfl, u4, t4, hM4, hs4⟩
  have HM4 := Lib.hid hM4
  have HS4 := Lib.hid hs4
  clear hM4 hs4
  have HBX := Lib.hid (stp_heap HS4.out HBX0.out HS0.out)
  have q0 := row_cells HBX.out 0
  have q1 := row_cells HBX.out 1
  have q2 := row_cells HBX.out 2
  have q3 := row_cells HBX.out 3
  have q4 := row_cells HBX.out 4
  simp at q0 q1 q2 q3 q4
  go_wp2
  clear q0 q1 q2 q3 q4 HBX
  go_loopw [6] (fun i wr => ∃ (k : Nat) (uc tc : Value), k ≤ d.texts.length ∧ i = .int .i64 k ∧ MrW wr q uc tc (b ++ d.bytes ++ textsB (d.texts.take k)) f N ∧ Stp (Smr q u t b) w0 (Smr q uc tc (b ++ d.bytes ++ textsB (d.texts.take k))) wr) (fun i _ => d.texts.length - (intOf i).toNat)
  case atStart => exact ⟨0, u4, t4, by omega, rfl, by simpa [textsB] using HM4.out, by simpa [textsB] using HS4.out⟩
  case round =>
    obtain ⟨k, uc, tc, hk, rfl, hM, hS⟩ := hrel
    have HMc := Lib.hid hM
    have HSc := Lib.hid hS
    clear hM hS
    by_cases hlt : k < d.texts.length
    · obtain ⟨b1, o1, c1, e1, _, _, hc1⟩ := ((HD0.out.step HSc.out).here.tx).opens (by omega)
      injection e1 with e1 e3 e4
      subst e1
      clear e3 e4
      have hx := List.getElem?_eq_getElem hlt
      have HB := Lib.hid (textsB_snoc hx)
      have HLx : Hid (d.texts[k].size ≤ 255) := Lib.hid (by
        have := List.any_eq_false.1 HPl.out _ (List.mem_of_getElem? hx)
        unfold longT at this
        rw [decide_eq_true_eq] at this
        omega)
      have HL : Hid ((b ++ d.bytes ++ textsB (d.texts.take k)).length ≤ 140737470100000) := Lib.hid (by have := textsB_take_len d.texts k HPl.out pt; have := HPb.out; rw [List.length_append, List.length_append]; omega)
      have hcx := hc1 k _ hx
      have HX := Lib.hid hx
      clear hc1 hx
      generalize d.texts[k] = x at *
      generalize hBB : b ++ d.bytes ++ textsB (d.texts.take k) = BB at *
      have HBB := Lib.hid hBB
      clear hBB
      have hxs := HLx.out
      have HBX := Lib.hid (stp_heap HSc.out HBX0.out HS0.out)
      have q0 := row_cells HBX.out 0
      have q1 := row_cells HBX.out 1
      have q2 := row_cells HBX.out 2
      have q3 := row_cells HBX.out 3
      have q4 := row_cells HBX.out 4
      simp at q0 q1 q2 q3 q4
      go_wp2_with fail
      clear q0 q1 q2 q3 q4 HBX hcx
      refine (mx_Num q uc tc (x.size : Int) 1 BB f N wr HMc.out (by have := HL.out; omega) (by omega)).mono ?_
      rintro e w5 ⟨rfl, u5, t5, hM5, hs5⟩
      have HM5 := Lib.hid hM5
      have HS5 := Lib.hid (HSc.out.trans hs5)
      clear hM5 hs5
      obtain ⟨_, _, c1, e1, _, _, hc1⟩ := ((HD0.out.step HS5.out).here.tx).opens (by omega)
      injection e1 with e1 e3 e4
      injection e1 with e1
      injection e1 with e1 e3 _
      subst e1 e3
      have hcx := hc1 k _ HX.out
      clear hc1 e4
      have HBX := Lib.hid (stp_heap HS5.out HBX0.out HS0.out)
      have q0 := row_cells HBX.out 0
      have q1 := row_cells HBX.out 1
      have q2 := row_cells HBX.out 2
      have q3 := row_cells HBX.out 3
      have q4 := row_cells HBX.out 4
      simp at q0 q1 q2 q3 q4
      have kb := fun w => Lib.run_convert_string_bytes (P := Try.prog) w 9 22 5 x Try.underlying9 Try.underlying22 Try.underlying5
      have hcm := grownCap_le_maxLen w5 x.size 0 5 (by simp [maxLen]; omega)
      have hcg := grownCap_ge w5 x.size 0 5
      have HY := Lib.hid ((blk_bytes w5 x).fl x.size (grownCap w5 x.size 0 5) (bs_length x) hcg (by simpa [maxLen] using hcm))
      have HE5 := Lib.hid (ext_bytes w5 x)
      have HL5 : Hid ((BB ++ putN [] (x.size : Int) 1).length ≤ 140737470100007) := Lib.hid (by have := HL.out; have := putN_le (x.size : Int) (size := 1) (by omega); simp at this; rw [List.length_append]; omega)
      clear hcm hcg
      go_wp2_with fail
      clear q0 q1 q2 q3 q4 HBX hcx
      generalize Lib.bytesWorld w5 5 x = w6 at *
      generalize grownCap w5 x.size 0 5 = cg at *
      refine (mx_Raw q u5 t5 _ _ (bs x) f N w6 (HM5.out.ext HE5.out) HY.out (by have := HL5.out; have := HLx.out; rw [bs_length]; omega)).mono ?_
      rintro e w7 ⟨rfl, u7, t7, hM7, hs7⟩
      have HM7 := Lib.hid hM7
      have HS7 := Lib.hid ((HS5.out.ext HE5.out).trans hs7)
      clear hM7 hs7
      go_wp2
      go_roundw
      case rel => exact ⟨k + 1, u7, t7, by omega, by go_num, by rw [HB.out, ← List.append_assoc, ← List.append_assoc, HBB.out]; exact HM7.out, by rw [HB.out, ← List.append_assoc, ← List.append_assoc, HBB.out]; exact HS7.out⟩
      case measure => simp [intOf]; omega
    · rw [List.take_of_length_le (by omega)] at HMc HSc
      have HLc : Hid ((b ++ d.bytes ++ textsB d.texts).length ≤ 140737470100000) := Lib.hid (by have := textsB_take_len d.texts d.texts.length HPl.out pt; rw [List.take_length] at this; have := HPb.out; rw [List.length_append, List.length_append]; omega)
      obtain ⟨BT, hBT⟩ : ∃ BT, b ++ d.bytes ++ textsB d.texts = BT := ⟨_, rfl⟩
      rw [hBT] at HMc HSc HLc HEQ
      clear hBT HM4 HS4
      have HBX := Lib.hid (stp_heap HSc.out HBX0.out HS0.out)
      have q0 := row_cells HBX.out 0
      have q1 := row_cells HBX.out 1
      have q2 := row_cells HBX.out 2
      have q3 := row_cells HBX.out 3
      have q4 := row_cells HBX.out 4
      simp at q0 q1 q2 q3 q4
      go_wp2
      clear q0 q1 q2 q3 q4 HBX
      obtain ⟨BB, hBB⟩ : ∃ BB, BT = BB := ⟨_, rfl⟩
      rw [hBB] at HMc HSc HLc
      have HBB := Lib.hid hBB
      clear hBB
      go_loopw [7] (fun i wr => ∃ (j : Nat) (uc tc : Value), j ≤ d.nums.length ∧ i = .int .i64 j ∧ MrW wr q uc tc (BB ++ numsB 2 (d.nums.take j)) f (N) ∧ Stp (Smr q u t b) w0 (Smr q uc tc (BB ++ numsB 2 (d.nums.take j))) wr) (fun i _ => d.nums.length - (intOf i).toNat)
      case atStart => exact ⟨0, _, _, by omega, rfl, by simpa [numsB] using HMc.out, by simpa [numsB] using HSc.out⟩
      case round =>
        obtain ⟨j, uc, tc, hj, rfl, hM, hS⟩ := hrel
        clear HMc HSc
        have HMc := Lib.hid hM
        have HSc := Lib.hid hS
        clear hM hS
        by_cases hlt : j < d.nums.length
        · have hn5 := HPn.out
          obtain ⟨b3, o3, c3, e3, _, _, hc3⟩ := ((HD0.out.step HSc.out).here.nu).opens (by omega)
          injection e3 with e3 e4 e5
          subst e3
          clear e4 e5
          have hx := List.getElem?_eq_getElem hlt
          have hcx := hc3 j _ hx
          have HBs := Lib.hid (numsB_snoc 2 hx)
          have HXf := Lib.hid (HFn.out _ (List.mem_of_getElem? hx))
          have HLj : Hid ((BB ++ numsB 2 (d.nums.take j)).length ≤ 140737470900000) := Lib.hid (by have := HLc.out; have := numsB_len 2 (d.nums.take j); have := HPn.out; have : (d.nums.take j).length ≤ d.nums.length := List.length_take_le' _ _; rw [List.length_append]; omega)
          clear hc3 hx
          generalize d.nums[j] = x at *
          obtain ⟨Bj, hBj⟩ : ∃ Bj, BB ++ numsB 2 (d.nums.take j) = Bj := ⟨_, rfl⟩
          rw [hBj] at HMc HSc HLj
          have HBj := Lib.hid hBj
          clear hBj
          have HBX := Lib.hid (stp_heap HSc.out HBX0.out HS0.out)
          have q0 := row_cells HBX.out 0
          have q1 := row_cells HBX.out 1
          have q2 := row_cells HBX.out 2
          have q3 := row_cells HBX.out 3
          have q4 := row_cells HBX.out 4
          simp at q0 q1 q2 q3 q4
          unfold vInt at hcx
          go_wp2_with fail
          clear q0 q1 q2 q3 q4 HBX hcx
          refine (mx_Num q uc tc x 2 Bj f (N) wr HMc.out (by have := HLj.out; omega) (by have := HXf.out; omega)).mono ?_
          rintro e w6 ⟨rfl, u6, t6, hM, hs⟩
          have HM6 := Lib.hid hM
          have HS6 := Lib.hid (HSc.out.trans hs)
          clear hM hs
          go_wp2
          go_roundw
          case rel => exact ⟨j + 1, u6, t6, by omega, by go_num, by rw [HBs.out, ← List.append_assoc, HBj.out]; exact HM6.out, by rw [HBs.out, ← List.append_assoc, HBj.out]; exact HS6.out⟩
          case measure => simp [intOf]; omega
        · rw [List.take_of_length_le (by omega)] at HMc HSc
          have HLn : Hid ((BB ++ numsB 2 d.nums).length ≤ BB.length + 35) := Lib.hid (by have := numsB_len 2 d.nums; have := HPn.out; rw [List.length_append]; omega)
          have HLc' := Lib.hid (show (BB ++ numsB 2 d.nums).length ≤ 140737470200000 by have := HLn.out; have := HLc.out; omega)
          clear HLc
          have HLc := HLc'
          clear HLc'
          rw [HBB.out] at HEQ
          have HBX := Lib.hid (stp_heap HSc.out HBX0.out HS0.out)
          have q0 := row_cells HBX.out 0
          have q1 := row_cells HBX.out 1
          have q2 := row_cells HBX.out 2
          have q3 := row_cells HBX.out 3
          have q4 := row_cells HBX.out 4
          simp at q0 q1 q2 q3 q4
          go_wp2_with fail
          clear q0 q1 q2 q3 q4 HBX
          refine (mx_Name q uc tc _ d.host false (BB ++ numsB 2 d.nums) f N wr HMc.out (by omega) (fun W' hk => (HD0.out.step HSc.out W' hk).ho) HPhh.out (by have := HLc.out; omega)).mono ?_
          rintro e yhost ⟨rfl, uhost, thost, hM, hs⟩
          have HLd : Hid (((Wt.name d.host false).bytes (BB ++ numsB 2 d.nums) f).length ≤ (BB ++ numsB 2 d.nums).length + 255) := Lib.hid (name_grow HPhh.out HMc.out.small)
          have HSd := Lib.hid (HSc.out.trans hs)
          clear HMc HSc
          have HMc := Lib.hid hM
          have HSc := HSd
          clear hM hs HSd
          have HBX := Lib.hid (stp_heap HSc.out HBX0.out HS0.out)
          have q0 := row_cells HBX.out 0
          have q1 := row_cells HBX.out 1
          have q2 := row_cells HBX.out 2
          have q3 := row_cells HBX.out 3
          have q4 := row_cells HBX.out 4
          simp at q0 q1 q2 q3 q4
          go_wp2
          clear q0 q1 q2 q3 q4 HBX
          refine bodyPost_end (results_none (by kernel_rfl) _ _ _) rfl ?_
          have hM9 := HMc.out
          have hS9 := HSc.out
          rw [HEQ.out.1, HEQ.out.2] at hM9
          rw [HEQ.out.1] at hS9
          exact ⟨rfl, _, _, hM9.mono (by omega), (Stp.of_ext HE0.out).trans hS9⟩

set_option maxRecDepth 100000 in
set_option maxHeartbeats 1000000 in
theorem pd6 (kind : Int) (d : Dat) (q : Nat) (u t v0 v1 v2 v3 v4 : Value) (b : List UInt8) (f : Rests) (N : Nat) (w : World) (hW : MrW w q u t b f N) (hd : Stb (Smr q u t b) w fun W => DR W v0 v1 v2 v3 v4 d) (hs : rsound kind d = true) (hb : b.length ≤ 140737470000000) (hN : N ≤ 900000) (hk : kind = 6) :
    Calls Try.prog 62 #[.pointer (some ⟨q, 0, none⟩), .int .i64 kind, .agg #[v0, v1, v2, v3, v4]] w fun e w' => e = .returned (.tuple #[]) ∧ Wrt q u t b ((Wt.data kind d).bytes b f) ((Wt.data kind d).rests b f) (N + 600) w w' := by
  subst hk
  have hsh : shapeOf 6 = ⟨0, true, true, true, 5, 4, false, false⟩ := by simp [shapeOf]
  have heq : ((Wt.name d.mail true).bytes ((Wt.name d.host true).bytes (b ++ d.bytes ++ textsB d.texts) f) ((Wt.name d.host true).rests (b ++ d.bytes ++ textsB d.texts) f) ++ numsB 4 d.nums) = (Wt.data 6 d).bytes b f ∧ (Wt.name d.mail true).rests ((Wt.name d.host true).bytes (b ++ d.bytes ++ textsB d.texts) f) ((Wt.name d.host true).rests (b ++ d.bytes ++ textsB d.texts) f) = (Wt.data 6 d).rests b f := by
    simp only [Wt.data, hsh, nums_raw, texts_raw, Wt.bytes_seq, Wt.rests_seq, raw_bytes, raw_rests, skip_bytes, skip_rests, if_true, if_false, Bool.false_eq_true]
    first | exact ⟨rfl, rfl⟩ | exact ⟨rfl, trivial⟩ | trivial
  obtain ⟨_, pb, pn, ph, pm, pt, pl⟩ := rsound_parts hs hsh
  have hfn := rsound_fits hs
  rw [hsh] at hfn
  have hE0 := (Ext.refl w).alloc (.cells #[v0, v1, v2, v3, v4] 26)
  have HD := Lib.hid hd
  have hd0 := hd.here
  obtain ⟨A0, k0, rfl, _, _⟩ := hd0.by_.form
  obtain ⟨A1, k1, rfl, _, _⟩ := hd0.ho.form
  obtain ⟨A2, k2, rfl, _, _⟩ := hd0.ma.form
  obtain ⟨A3, k3, rfl, _, _⟩ := hd0.nu.form
  obtain ⟨A4, k4, rfl, _, _⟩ := hd0.tx.form
  have HBX0 := Lib.hid (heap_alloc_new w (.cells #[.slice A0 d.bytes.length k0, .slice A1 d.host.length k1, .slice A2 d.mail.length k2, .slice A3 d.nums.length k3, .slice A4 d.texts.length k4] 26))
  have HPl := Lib.hid pl
  have HPn : Hid (d.nums.length ≤ 5) := Lib.hid (by simp only at pn; omega)
  have HPb := Lib.hid pb
  have HE0 := Lib.hid hE0
  have HEQ := Lib.hid heq
  clear heq
  obtain ⟨Bf, hBf⟩ : ∃ Bf, (Wt.data 6 d).bytes b f = Bf := ⟨_, rfl⟩
  obtain ⟨Ff, hFf⟩ : ∃ Ff, (Wt.data 6 d).rests b f = Ff := ⟨_, rfl⟩
  rw [hBf, hFf]
  rw [hBf, hFf] at HEQ
  have HS0 : Hid (¬ Smr q u t b w.heap.size) := Lib.hid (fun h => by have := hW.lt _ h; omega)
  have HW0 := Lib.hid (hW.ext hE0)
  have HD0 := Lib.hid (hd.step (Stp.of_ext hE0))
  have HFn : Hid (∀ x ∈ d.nums, x ≤ 9223372036854775807) := Lib.hid (fun x hx => by have := fits_bound _ _ (hfn x hx); omega)
  have HPh : Hid (nsound d.host = true ∨ True) := Lib.hid (.inr trivial)
  have HPhh : Hid (nsound d.host = true) := Lib.hid (ph rfl)
  have HPmm : Hid (nsound d.mail = true) := Lib.hid (pm rfl)
  clear hd hW hE0 hd0 hs pl ph pm hBf hFf hsh pn hfn
  go_enter Try.func62, Try.ntmps62
  go_wp2_with fail
  obtain ⟨w0, hw0⟩ : ∃ w0, w.alloc (.cells #[.slice A0 d.bytes.length k0, .slice A1 d.host.length k1, .slice A2 d.mail.length k2, .slice A3 d.nums.length k3, .slice A4 d.texts.length k4] 26) = w0 := ⟨_, rfl⟩
  rw [hw0]
  rw [hw0] at HBX0 HE0 HW0 HD0
  clear hw0
  refine (mx_Raw q u t _ b d.bytes f N w0 HW0.out HD0.out.here.by_ (by omega)).mono ?_
  rintro e W4 ⟨rfl, u4, t4, hM4, hs4⟩
  have HM4 := Lib.hid hM4
  have HS4 := Lib.hid hs4
  clear hM4 hs4
  have HBX := Lib.hid (stp_heap HS4.out HBX0.out HS0.out)
  have q0 := row_cells HBX.out 0
  have q1 := row_cells HBX.out 1
  have q2 := row_cells HBX.out 2
  have q3 := row_cells HBX.out 3
  have q4 := row_cells HBX.out 4
  simp at q0 q1 q2 q3 q4
  go_wp2
  clear q0 q1 q2 q3 q4 HBX
  go_loopw [6] (fun i wr => ∃ (k : Nat) (uc tc : Value), k ≤ d.texts.length ∧ i = .int .i64 k ∧ MrW wr q uc tc (b ++ d.bytes ++ textsB (d.texts.take k)) f N ∧ Stp (Smr q u t b) w0 (Smr q uc tc (b ++ d.bytes ++ textsB (d.texts.take k))) wr) (fun i _ => d.texts.length - (intOf i).toNat)
  case atStart => exact ⟨0, u4, t4, by omega, rfl, by simpa [textsB] using HM4.out, by simpa [textsB] using HS4.out⟩
  case round =>
    obtain ⟨k, uc, tc, hk, rfl, hM, hS⟩ := hrel
    have HMc := Lib.hid hM
    have HSc := Lib.hid hS
    clear hM hS
    by_cases hlt : k < d.texts.length
    · obtain ⟨b1, o1, c1, e1, _, _, hc1⟩ := ((HD0.out.step HSc.out).here.tx).opens (by omega)
      injection e1 with e1 e3 e4
      subst e1
      clear e3 e4
      have hx := List.getElem?_eq_getElem hlt
      have HB := Lib.hid (textsB_snoc hx)
      have HLx : Hid (d.texts[k].size ≤ 255) := Lib.hid (by
        have := List.any_eq_false.1 HPl.out _ (List.mem_of_getElem? hx)
        unfold longT at this
        rw [decide_eq_true_eq] at this
        omega)
      have HL : Hid ((b ++ d.bytes ++ textsB (d.texts.take k)).length ≤ 140737470100000) := Lib.hid (by have := textsB_take_len d.texts k HPl.out pt; have := HPb.out; rw [List.length_append, List.length_append]; omega)
      have hcx := hc1 k _ hx
      have HX := Lib.hid hx
      clear hc1 hx
      generalize d.texts[k] = x at *
      generalize hBB : b ++ d.bytes ++ textsB (d.texts.take k) = BB at *
      have HBB := Lib.hid hBB
      clear hBB
      have hxs := HLx.out
      have HBX := Lib.hid (stp_heap HSc.out HBX0.out HS0.out)
      have q0 := row_cells HBX.out 0
      have q1 := row_cells HBX.out 1
      have q2 := row_cells HBX.out 2
      have q3 := row_cells HBX.out 3
      have q4 := row_cells HBX.out 4
      simp at q0 q1 q2 q3 q4
      go_wp2_with fail
      clear q0 q1 q2 q3 q4 HBX hcx
      refine (mx_Num q uc tc (x.size : Int) 1 BB f N wr HMc.out (by have := HL.out; omega) (by omega)).mono ?_
      rintro e w5 ⟨rfl, u5, t5, hM5, hs5⟩
      have HM5 := Lib.hid hM5
      have HS5 := Lib.hid (HSc.out.trans hs5)
      clear hM5 hs5
      obtain ⟨_, _, c1, e1, _, _, hc1⟩ := ((HD0.out.step HS5.out).here.tx).opens (by omega)
      injection e1 with e1 e3 e4
      injection e1 with e1
      injection e1 with e1 e3 _
      subst e1 e3
      have hcx := hc1 k _ HX.out
      clear hc1 e4
      have HBX := Lib.hid (stp_heap HS5.out HBX0.out HS0.out)
      have q0 := row_cells HBX.out 0
      have q1 := row_cells HBX.out 1
      have q2 := row_cells HBX.out 2
      have q3 := row_cells HBX.out 3
      have q4 := row_cells HBX.out 4
      simp at q0 q1 q2 q3 q4
      have kb := fun w => Lib.run_convert_string_bytes (P := Try.prog) w 9 22 5 x Try.underlying9 Try.underlying22 Try.underlying5
      have hcm := grownCap_le_maxLen w5 x.size 0 5 (by simp [maxLen]; omega)
      have hcg := grownCap_ge w5 x.size 0 5
      have HY := Lib.hid ((blk_bytes w5 x).fl x.size (grownCap w5 x.size 0 5) (bs_length x) hcg (by simpa [maxLen] using hcm))
      have HE5 := Lib.hid (ext_bytes w5 x)
      have HL5 : Hid ((BB ++ putN [] (x.size : Int) 1).length ≤ 140737470100007) := Lib.hid (by have := HL.out; have := putN_le (x.size : Int) (size := 1) (by omega); simp at this; rw [List.length_append]; omega)
      clear hcm hcg
      go_wp2_with fail
      clear q0 q1 q2 q3 q4 HBX hcx
      generalize Lib.bytesWorld w5 5 x = w6 at *
      generalize grownCap w5 x.size 0 5 = cg at *
      refine (mx_Raw q u5 t5 _ _ (bs x) f N w6 (HM5.out.ext HE5.out) HY.out (by have := HL5.out; have := HLx.out; rw [bs_length]; omega)).mono ?_
      rintro e w7 ⟨rfl, u7, t7, hM7, hs7⟩
      have HM7 := Lib.hid hM7
      have HS7 := Lib.hid ((HS5.out.ext HE5.out).trans hs7)
      clear hM7 hs7
      go_wp2
      go_roundw
      case rel => exact ⟨k + 1, u7, t7, by omega, by go_num, by rw [HB.out, ← List.append_assoc, ← List.append_assoc, HBB.out]; exact HM7.out, by rw [HB.out, ← List.append_assoc, ← List.append_assoc, HBB.out]; exact HS7.out⟩
      case measure => simp [intOf]; omega
    · rw [List.take_of_length_le (by omega)] at HMc HSc
      have HLc : Hid ((b ++ d.bytes ++ textsB d.texts).length ≤ 140737470100000) := Lib.hid (by have := textsB_take_len d.texts d.texts.length HPl.out pt; rw [List.take_length] at this; have := HPb.out; rw [List.length_append, List.length_append]; omega)
      obtain ⟨BT, hBT⟩ : ∃ BT, b ++ d.bytes ++ textsB d.texts = BT := ⟨_, rfl⟩
      rw [hBT] at HMc HSc HLc HEQ
      clear hBT HM4 HS4
      have HBX := Lib.hid (stp_heap HSc.out HBX0.out HS0.out)
      have q0 := row_cells HBX.out 0
      have q1 := row_cells HBX.out 1
      have q2 := row_cells HBX.out 2
      have q3 := row_cells HBX.out 3
      have q4 := row_cells HBX.out 4
      simp at q0 q1 q2 q3 q4
      go_wp2_with fail
      clear q0 q1 q2 q3 q4 HBX
      refine (mx_Name q uc tc _ d.host true BT f N wr HMc.out (by omega) (fun W' hk => (HD0.out.step HSc.out W' hk).ho) HPhh.out (by have := HLc.out; omega)).mono ?_
      rintro e yhost ⟨rfl, uhost, thost, hM, hs⟩
      have HLd : Hid (((Wt.name d.host true).bytes BT f).length ≤ BT.length + 255) := Lib.hid (name_grow HPhh.out HMc.out.small)
      have HSd := Lib.hid (HSc.out.trans hs)
      clear HMc HSc
      have HMc := Lib.hid hM
      have HSc := HSd
      clear hM hs HSd
      obtain ⟨B1, hB1⟩ : ∃ B1, (Wt.name d.host true).bytes BT f = B1 := ⟨_, rfl⟩
      obtain ⟨F1, hF1⟩ : ∃ F1, (Wt.name d.host true).rests BT f = F1 := ⟨_, rfl⟩
      rw [hB1, hF1] at HMc HEQ
      rw [hB1] at HSc HLd
      have HLc' := Lib.hid (show B1.length ≤ 140737470200000 by have := HLd.out; have := HLc.out; omega)
      clear HLc HLd hB1 hF1
      have HLc := HLc'
      clear HLc'
      have HBX := Lib.hid (stp_heap HSc.out HBX0.out HS0.out)
      have q0 := row_cells HBX.out 0
      have q1 := row_cells HBX.out 1
      have q2 := row_cells HBX.out 2
      have q3 := row_cells HBX.out 3
      have q4 := row_cells HBX.out 4
      simp at q0 q1 q2 q3 q4
      go_wp2_with fail
      clear q0 q1 q2 q3 q4 HBX
      refine (mx_Name q uhost thost _ d.mail true B1 F1 (N + 300) yhost HMc.out (by omega) (fun W' hk => (HD0.out.step HSc.out W' hk).ma) HPmm.out (by have := HLc.out; omega)).mono ?_
      rintro e ymail ⟨rfl, umail, tmail, hM, hs⟩
      have HLd : Hid (((Wt.name d.mail true).bytes B1 F1).length ≤ B1.length + 255) := Lib.hid (name_grow HPmm.out HMc.out.small)
      have HSd := Lib.hid (HSc.out.trans hs)
      clear HMc HSc
      have HMc := Lib.hid hM
      have HSc := HSd
      clear hM hs HSd
      obtain ⟨B2, hB2⟩ : ∃ B2, (Wt.name d.mail true).bytes B1 F1 = B2 := ⟨_, rfl⟩
      obtain ⟨F2, hF2⟩ : ∃ F2, (Wt.name d.mail true).rests B1 F1 = F2 := ⟨_, rfl⟩
      rw [hB2, hF2] at HMc HEQ
      rw [hB2] at HSc HLd
      have HLc' := Lib.hid (show B2.length ≤ 140737470300000 by have := HLd.out; have := HLc.out; omega)
      clear HLc HLd hB2 hF2
      have HLc := HLc'
      clear HLc'
      have HBX := Lib.hid (stp_heap HSc.out HBX0.out HS0.out)
      have q0 := row_cells HBX.out 0
      have q1 := row_cells HBX.out 1
      have q2 := row_cells HBX.out 2
      have q3 := row_cells HBX.out 3
      have q4 := row_cells HBX.out 4
      simp at q0 q1 q2 q3 q4
      go_wp2
      clear q0 q1 q2 q3 q4 HBX
      obtain ⟨BB, hBB⟩ : ∃ BB, B2 = BB := ⟨_, rfl⟩
      rw [hBB] at HMc HSc HLc
      have HBB := Lib.hid hBB
      clear hBB
      go_loopw [8] (fun i wr => ∃ (j : Nat) (uc tc : Value), j ≤ d.nums.length ∧ i = .int .i64 j ∧ MrW wr q uc tc (BB ++ numsB 4 (d.nums.take j)) F2 (N + 300 + 300) ∧ Stp (Smr q u t b) w0 (Smr q uc tc (BB ++ numsB 4 (d.nums.take j))) wr) (fun i _ => d.nums.length - (intOf i).toNat)
      case atStart => exact ⟨0, _, _, by omega, rfl, by simpa [numsB] using HMc.out, by simpa [numsB] using HSc.out⟩
      case round =>
        obtain ⟨j, uc, tc, hj, rfl, hM, hS⟩ := hrel
        clear HMc HSc
        have HMc := Lib.hid hM
        have HSc := Lib.hid hS
        clear hM hS
        by_cases hlt : j < d.nums.length
        · have hn5 := HPn.out
          obtain ⟨b3, o3, c3, e3, _, _, hc3⟩ := ((HD0.out.step HSc.out).here.nu).opens (by omega)
          injection e3 with e3 e4 e5
          subst e3
          clear e4 e5
          have hx := List.getElem?_eq_getElem hlt
          have hcx := hc3 j _ hx
          have HBs := Lib.hid (numsB_snoc 4 hx)
          have HXf := Lib.hid (HFn.out _ (List.mem_of_getElem? hx))
          have HLj : Hid ((BB ++ numsB 4 (d.nums.take j)).length ≤ 140737470900000) := Lib.hid (by have := HLc.out; have := numsB_len 4 (d.nums.take j); have := HPn.out; have : (d.nums.take j).length ≤ d.nums.length := List.length_take_le' _ _; rw [List.length_append]; omega)
          clear hc3 hx
          generalize d.nums[j] = x at *
          obtain ⟨Bj, hBj⟩ : ∃ Bj, BB ++ numsB 4 (d.nums.take j) = Bj := ⟨_, rfl⟩
          rw [hBj] at HMc HSc HLj
          have HBj := Lib.hid hBj
          clear hBj
          have HBX := Lib.hid (stp_heap HSc.out HBX0.out HS0.out)
          have q0 := row_cells HBX.out 0
          have q1 := row_cells HBX.out 1
          have q2 := row_cells HBX.out 2
          have q3 := row_cells HBX.out 3
          have q4 := row_cells HBX.out 4
          simp at q0 q1 q2 q3 q4
          unfold vInt at hcx
          go_wp2_with fail
          clear q0 q1 q2 q3 q4 HBX hcx
          refine (mx_Num q uc tc x 4 Bj F2 (N + 300 + 300) wr HMc.out (by have := HLj.out; omega) (by have := HXf.out; omega)).mono ?_
          rintro e w6 ⟨rfl, u6, t6, hM, hs⟩
          have HM6 := Lib.hid hM
          have HS6 := Lib.hid (HSc.out.trans hs)
          clear hM hs
          go_wp2
          go_roundw
          case rel => exact ⟨j + 1, u6, t6, by omega, by go_num, by rw [HBs.out, ← List.append_assoc, HBj.out]; exact HM6.out, by rw [HBs.out, ← List.append_assoc, HBj.out]; exact HS6.out⟩
          case measure => simp [intOf]; omega
        · rw [List.take_of_length_le (by omega)] at HMc HSc
          have HLn : Hid ((BB ++ numsB 4 d.nums).length ≤ BB.length + 35) := Lib.hid (by have := numsB_len 4 d.nums; have := HPn.out; rw [List.length_append]; omega)
          rw [HBB.out] at HEQ
          have HBX := Lib.hid (stp_heap HSc.out HBX0.out HS0.out)
          have q0 := row_cells HBX.out 0
          have q1 := row_cells HBX.out 1
          have q2 := row_cells HBX.out 2
          have q3 := row_cells HBX.out 3
          have q4 := row_cells HBX.out 4
          simp at q0 q1 q2 q3 q4
          go_wp2
          clear q0 q1 q2 q3 q4 HBX
          refine bodyPost_end (results_none (by kernel_rfl) _ _ _) rfl ?_
          have hM9 := HMc.out
          have hS9 := HSc.out
          rw [HEQ.out.1, HEQ.out.2] at hM9
          rw [HEQ.out.1] at hS9
          exact ⟨rfl, _, _, hM9.mono (by omega), (Stp.of_ext HE0.out).trans hS9⟩

set_option maxRecDepth 100000 in
set_option maxHeartbeats 1000000 in
theorem pd_rest (kind : Int) (d : Dat) (q : Nat) (u t v0 v1 v2 v3 v4 : Value) (b : List UInt8) (f : Rests) (N : Nat) (w : World) (hW : MrW w q u t b f N) (hd : Stb (Smr q u t b) w fun W => DR W v0 v1 v2 v3 v4 d) (hs : rsound kind d = true) (hb : b.length ≤ 140737470000000) (hN : N ≤ 900000) (hk : ¬ (kind = 2 ∨ kind = 5 ∨ kind = 12 ∨ kind = 15 ∨ kind = 33 ∨ kind = 6)) :
    Calls Try.prog 62 #[.pointer (some ⟨q, 0, none⟩), .int .i64 kind, .agg #[v0, v1, v2, v3, v4]] w fun e w' => e = .returned (.tuple #[]) ∧ Wrt q u t b ((Wt.data kind d).bytes b f) ((Wt.data kind d).rests b f) (N + 600) w w' := by
  have hsn : (shapeOf kind).nums = 0 ∧ (shapeOf kind).host = false ∧ (shapeOf kind).mail = false ∧ (shapeOf kind).first = false := by
    unfold shapeOf; rw [if_neg (show ¬ (kind = 2 ∨ kind = 5 ∨ kind = 12) by omega), if_neg (show ¬ kind = 15 by omega), if_neg (show ¬ kind = 6 by omega), if_neg (show ¬ kind = 33 by omega)]
    split
    · exact ⟨rfl, rfl, rfl, rfl⟩
    split
    · exact ⟨rfl, rfl, rfl, rfl⟩
    split
    · exact ⟨rfl, rfl, rfl, rfl⟩
    · exact ⟨rfl, rfl, rfl, rfl⟩
  obtain ⟨S, hsh⟩ : ∃ S, shapeOf kind = S := ⟨_, rfl⟩
  rw [hsh] at hsn
  have hnn : d.nums = [] := List.eq_nil_of_length_eq_zero ((rsound_parts hs hsh).2.2.1.trans hsn.1)
  have heq : (b ++ d.bytes ++ textsB d.texts) = (Wt.data kind d).bytes b f ∧ f = (Wt.data kind d).rests b f := by
    simp only [Wt.data, hsh, hsn.2.1, hsn.2.2.1, hsn.2.2.2, nums_raw, texts_raw, Wt.bytes_seq, Wt.rests_seq, raw_bytes, raw_rests, skip_bytes, skip_rests, if_true, if_false, Bool.false_eq_true]
    simp [hnn, numsB]
  have j15 : (kind == 15) = false := by rw [beq_eq_false_iff_ne]; omega
  have j33 : (kind == 33) = false := by rw [beq_eq_false_iff_ne]; omega
  have j2 : (kind == 2) = false := by rw [beq_eq_false_iff_ne]; omega
  have j5 : (kind == 5) = false := by rw [beq_eq_false_iff_ne]; omega
  have j12 : (kind == 12) = false := by rw [beq_eq_false_iff_ne]; omega
  have j6 : (kind == 6) = false := by rw [beq_eq_false_iff_ne]; omega
  obtain ⟨_, pb, pn, ph, pm, pt, pl⟩ := rsound_parts hs hsh
  have hfn := rsound_fits hs
  rw [hsh] at hfn
  have hE0 := (Ext.refl w).alloc (.cells #[v0, v1, v2, v3, v4] 26)
  have HD := Lib.hid hd
  have hd0 := hd.here
  obtain ⟨A0, k0, rfl, _, _⟩ := hd0.by_.form
  obtain ⟨A1, k1, rfl, _, _⟩ := hd0.ho.form
  obtain ⟨A2, k2, rfl, _, _⟩ := hd0.ma.form
  obtain ⟨A3, k3, rfl, _, _⟩ := hd0.nu.form
  obtain ⟨A4, k4, rfl, _, _⟩ := hd0.tx.form
  have HBX0 := Lib.hid (heap_alloc_new w (.cells #[.slice A0 d.bytes.length k0, .slice A1 d.host.length k1, .slice A2 d.mail.length k2, .slice A3 d.nums.length k3, .slice A4 d.texts.length k4] 26))
  have HPl := Lib.hid pl
  have HPn : Hid (d.nums.length ≤ 5) := Lib.hid (by rw [hnn]; simp)
  have HPb := Lib.hid pb
  have HE0 := Lib.hid hE0
  have HEQ := Lib.hid heq
  clear heq
  obtain ⟨Bf, hBf⟩ : ∃ Bf, (Wt.data kind d).bytes b f = Bf := ⟨_, rfl⟩
  obtain ⟨Ff, hFf⟩ : ∃ Ff, (Wt.data kind d).rests b f = Ff := ⟨_, rfl⟩
  rw [hBf, hFf]
  rw [hBf, hFf] at HEQ
  have HS0 : Hid (¬ Smr q u t b w.heap.size) := Lib.hid (fun h => by have := hW.lt _ h; omega)
  have HW0 := Lib.hid (hW.ext hE0)
  have HD0 := Lib.hid (hd.step (Stp.of_ext hE0))
  have HFn : Hid (∀ x ∈ d.nums, x ≤ 9223372036854775807) := Lib.hid (fun x hx => by have := fits_bound _ _ (hfn x hx); omega)
  have HPh : Hid (nsound d.host = true ∨ True) := Lib.hid (.inr trivial)
  clear hsn hnn hk hd hW hE0 hd0 hs pl ph pm hBf hFf hsh pn hfn
  go_enter Try.func62, Try.ntmps62
  go_wp2_with fail
  obtain ⟨w0, hw0⟩ : ∃ w0, w.alloc (.cells #[.slice A0 d.bytes.length k0, .slice A1 d.host.length k1, .slice A2 d.mail.length k2, .slice A3 d.nums.length k3, .slice A4 d.texts.length k4] 26) = w0 := ⟨_, rfl⟩
  rw [hw0]
  rw [hw0] at HBX0 HE0 HW0 HD0
  clear hw0
  refine (mx_Raw q u t _ b d.bytes f N w0 HW0.out HD0.out.here.by_ (by omega)).mono ?_
  rintro e W4 ⟨rfl, u4, t4, hM4, hs4⟩
  have HM4 := Lib.hid hM4
  have HS4 := Lib.hid hs4
  clear hM4 hs4
  have HBX := Lib.hid (stp_heap HS4.out HBX0.out HS0.out)
  have q0 := row_cells HBX.out 0
  have q1 := row_cells HBX.out 1
  have q2 := row_cells HBX.out 2
  have q3 := row_cells HBX.out 3
  have q4 := row_cells HBX.out 4
  simp at q0 q1 q2 q3 q4
  go_wp2
  clear q0 q1 q2 q3 q4 HBX
  go_loopw [6] (fun i wr => ∃ (k : Nat) (uc tc : Value), k ≤ d.texts.length ∧ i = .int .i64 k ∧ MrW wr q uc tc (b ++ d.bytes ++ textsB (d.texts.take k)) f N ∧ Stp (Smr q u t b) w0 (Smr q uc tc (b ++ d.bytes ++ textsB (d.texts.take k))) wr) (fun i _ => d.texts.length - (intOf i).toNat)
  case atStart => exact ⟨0, u4, t4, by omega, rfl, by simpa [textsB] using HM4.out, by simpa [textsB] using HS4.out⟩
  case round =>
    obtain ⟨k, uc, tc, hk, rfl, hM, hS⟩ := hrel
    have HMc := Lib.hid hM
    have HSc := Lib.hid hS
    clear hM hS
    by_cases hlt : k < d.texts.length
    · obtain ⟨b1, o1, c1, e1, _, _, hc1⟩ := ((HD0.out.step HSc.out).here.tx).opens (by omega)
      injection e1 with e1 e3 e4
      subst e1
      clear e3 e4
      have hx := List.getElem?_eq_getElem hlt
      have HB := Lib.hid (textsB_snoc hx)
      have HLx : Hid (d.texts[k].size ≤ 255) := Lib.hid (by
        have := List.any_eq_false.1 HPl.out _ (List.mem_of_getElem? hx)
        unfold longT at this
        rw [decide_eq_true_eq] at this
        omega)
      have HL : Hid ((b ++ d.bytes ++ textsB (d.texts.take k)).length ≤ 140737470100000) := Lib.hid (by have := textsB_take_len d.texts k HPl.out pt; have := HPb.out; rw [List.length_append, List.length_append]; omega)
      have hcx := hc1 k _ hx
      have HX := Lib.hid hx
      clear hc1 hx
      generalize d.texts[k] = x at *
      generalize hBB : b ++ d.bytes ++ textsB (d.texts.take k) = BB at *
      have HBB := Lib.hid hBB
      clear hBB
      have hxs := HLx.out
      have HBX := Lib.hid (stp_heap HSc.out HBX0.out HS0.out)
      have q0 := row_cells HBX.out 0
      have q1 := row_cells HBX.out 1
      have q2 := row_cells HBX.out 2
      have q3 := row_cells HBX.out 3
      have q4 := row_cells HBX.out 4
      simp at q0 q1 q2 q3 q4
      go_wp2_with fail
      clear q0 q1 q2 q3 q4 HBX hcx
      refine (mx_Num q uc tc (x.size : Int) 1 BB f N wr HMc.out (by have := HL.out; omega) (by omega)).mono ?_
      rintro e w5 ⟨rfl, u5, t5, hM5, hs5⟩
      have HM5 := Lib.hid hM5
      have HS5 := Lib.hid (HSc.out.trans hs5)
      clear hM5 hs5
      obtain ⟨_, _, c1, e1, _, _, hc1⟩ := ((HD0.out.step HS5.out).here.tx).opens (by omega)
      injection e1 with e1 e3 e4
      injection e1 with e1
      injection e1 with e1 e3 _
      subst e1 e3
      have hcx := hc1 k _ HX.out
      clear hc1 e4
      have HBX := Lib.hid (stp_heap HS5.out HBX0.out HS0.out)
      have q0 := row_cells HBX.out 0
      have q1 := row_cells HBX.out 1
      have q2 := row_cells HBX.out 2
      have q3 := row_cells HBX.out 3
      have q4 := row_cells HBX.out 4
      simp at q0 q1 q2 q3 q4
      have kb := fun w => Lib.run_convert_string_bytes (P := Try.prog) w 9 22 5 x Try.underlying9 Try.underlying22 Try.underlying5
      have hcm := grownCap_le_maxLen w5 x.size 0 5 (by simp [maxLen]; omega)
      have hcg := grownCap_ge w5 x.size 0 5
      have HY := Lib.hid ((blk_bytes w5 x).fl x.size (grownCap w5 x.size 0 5) (bs_length x) hcg (by simpa [maxLen] using hcm))
      have HE5 := Lib.hid (ext_bytes w5 x)
      have HL5 : Hid ((BB ++ putN [] (x.size : Int) 1).length ≤ 140737470100007) := Lib.hid (by have := HL.out; have := putN_le (x.size : Int) (size := 1) (by omega); simp at this; rw [List.length_append]; omega)
      clear hcm hcg
      go_wp2_with fail
      clear q0 q1 q2 q3 q4 HBX hcx
      generalize Lib.bytesWorld w5 5 x = w6 at *
      generalize grownCap w5 x.size 0 5 = cg at *
      refine (mx_Raw q u5 t5 _ _ (bs x) f N w6 (HM5.out.ext HE5.out) HY.out (by have := HL5.out; have := HLx.out; rw [bs_length]; omega)).mono ?_
      rintro e w7 ⟨rfl, u7, t7, hM7, hs7⟩
      have HM7 := Lib.hid hM7
      have HS7 := Lib.hid ((HS5.out.ext HE5.out).trans hs7)
      clear hM7 hs7
      go_wp2
      go_roundw
      case rel => exact ⟨k + 1, u7, t7, by omega, by go_num, by rw [HB.out, ← List.append_assoc, ← List.append_assoc, HBB.out]; exact HM7.out, by rw [HB.out, ← List.append_assoc, ← List.append_assoc, HBB.out]; exact HS7.out⟩
      case measure => simp [intOf]; omega
    · rw [List.take_of_length_le (by omega)] at HMc HSc
      have HLc : Hid ((b ++ d.bytes ++ textsB d.texts).length ≤ 140737470100000) := Lib.hid (by have := textsB_take_len d.texts d.texts.length HPl.out pt; rw [List.take_length] at this; have := HPb.out; rw [List.length_append, List.length_append]; omega)
      obtain ⟨BT, hBT⟩ : ∃ BT, b ++ d.bytes ++ textsB d.texts = BT := ⟨_, rfl⟩
      rw [hBT] at HMc HSc HLc HEQ
      clear hBT HM4 HS4
      have HBX := Lib.hid (stp_heap HSc.out HBX0.out HS0.out)
      have q0 := row_cells HBX.out 0
      have q1 := row_cells HBX.out 1
      have q2 := row_cells HBX.out 2
      have q3 := row_cells HBX.out 3
      have q4 := row_cells HBX.out 4
      simp at q0 q1 q2 q3 q4
      go_wp2
      clear q0 q1 q2 q3 q4 HBX
      refine bodyPost_end (results_none (by kernel_rfl) _ _ _) rfl ?_
      have hM9 := HMc.out
      have hS9 := HSc.out
      rw [HEQ.out.1, HEQ.out.2] at hM9
      rw [HEQ.out.1] at hS9
      exact ⟨rfl, _, _, hM9.mono (by omega), (Stp.of_ext HE0.out).trans hS9⟩

/-- ref03.Writer.PutData of sound data. -/
theorem mx_PutData (kind : Int) (d : Dat) (q : Nat) (u t v0 v1 v2 v3 v4 : Value) (b : List UInt8) (f : Rests) (N : Nat) (w : World) (hW : MrW w q u t b f N) (hd : Stb (Smr q u t b) w fun W => DR W v0 v1 v2 v3 v4 d) (hs : rsound kind d = true) (hb : b.length ≤ 140737470000000) (hN : N ≤ 900000) :
    Calls Try.prog 62 #[.pointer (some ⟨q, 0, none⟩), .int .i64 kind, .agg #[v0, v1, v2, v3, v4]] w fun e w' => e = .returned (.tuple #[]) ∧ Wrt q u t b ((Wt.data kind d).bytes b f) ((Wt.data kind d).rests b f) (N + 600) w w' := by
  by_cases h2 : kind = 2
  · exact pd2 kind d q u t v0 v1 v2 v3 v4 b f N w hW hd hs hb hN h2
  by_cases h5 : kind = 5
  · exact pd5 kind d q u t v0 v1 v2 v3 v4 b f N w hW hd hs hb hN h5
  by_cases h12 : kind = 12
  · exact pd12 kind d q u t v0 v1 v2 v3 v4 b f N w hW hd hs hb hN h12
  by_cases h15 : kind = 15
  · exact pd15 kind d q u t v0 v1 v2 v3 v4 b f N w hW hd hs hb hN h15
  by_cases h33 : kind = 33
  · exact pd33 kind d q u t v0 v1 v2 v3 v4 b f N w hW hd hs hb hN h33
  by_cases h6 : kind = 6
  · exact pd6 kind d q u t v0 v1 v2 v3 v4 b f N w hW hd hs hb hN h6
  exact pd_rest kind d q u t v0 v1 v2 v3 v4 b f N w hW hd hs hb hN (by omega)
end Go.Proofs.Ytfnelkcllaaebaa
end
section
/- Contract of ref03.Writer.PutRR of a sound record. No condition but that the writer stands in memory, a record that its steps leave alone, and room. -/
open Go.RowKit
set_option linter.unusedVariables false
set_option linter.unusedSimpArgs false
namespace Go.Proofs.Ytfnelkcllaaebaa
/-- A byte of the row is written over. -/
theorem mr_set {w : World} {q g c k : Nat} {t : Value} {b : List UInt8} {f : Rests} {N n : Nat} (h : MrW w q (.slice (some ⟨g, 0, none⟩) n c) t b f N) (hk : k < b.length) (x : UInt8) :
    MrW (w.setCell ⟨g, k, none⟩ (vByte x)) q (.slice (some ⟨g, 0, none⟩) n c) t (b.set k x) f N ∧ Stp (Smr q (.slice (some ⟨g, 0, none⟩) n c) t b) w (Smr q (.slice (some ⟨g, 0, none⟩) n c) t (b.set k x)) (w.setCell ⟨g, k, none⟩ (vByte x)) := by
  obtain ⟨rs, h1, h2⟩ := h
  have hb : b ≠ [] := by intro e; rw [e] at hk; simp at hk
  have hg : (Value.slice (some ⟨g, 0, none⟩) n c).ownBlock = some g := rfl
  have hgq : g ≠ q := fun e => h1.ne_row hb (by rw [hg, e])
  have hgt : t.ownBlock ≠ some g := h1.row_rests hb g hg
  have hK : Kp (fun k => k = g) w (w.setCell ⟨g, k, none⟩ (vByte x)) := Kp.setCell (S := fun k => k = g) (p := ⟨g, k, none⟩) (Kp.refl _ _) (.inl rfl) _
  have hNo : NoStr (fun k => k = g) w := fun k hk => by subst hk; exact h1.noStr _ (.inr (.inl ⟨hb, hg⟩))
  have hb2 : b.set k x ≠ [] := by intro e; have := congrArg List.length e; rw [List.length_set] at this; rw [this] at hk; simp at hk
  have hO := h1.row.1.2 hb
  refine ⟨⟨rs, ⟨(hK.block q (h1.lt q (.inl rfl)) (fun e => hgq e.symm)).trans h1.box, ?_, h1.rests.kpS (RestR.kp hK hNo) hK (fun k ht e => by subst e; exact hgt ht)⟩, h2⟩, ?_, ?_⟩
  · have hO2 : OwnL vByte 5 (w.setCell ⟨g, k, none⟩ (vByte x)) 0 (.slice (some ⟨g, 0, none⟩) n c) (b.set k x) := by
      refine ⟨by simp, ?_⟩
      rcases hO.2 with ⟨he, _⟩ | ⟨g', cap, cur, e, k1, k2, k3, k4, k5, k6⟩
      · cases he
      · injection e with e e2 e3
        injection e with e
        injection e with e _ _
        subst e e3
        refine .inr ⟨g, c, cur.setIfInBounds k (vByte x), by rw [List.length_set, e2], k1, by simp [World.setCell, Array.getElem?_modify, k2], by rw [List.length_set]; exact k3, k4, by simpa using k5, ?_⟩
        simp only [Array.toList_setIfInBounds, List.length_map, List.length_set] at k6 ⊢
        rw [List.map_set, ← k6, List.take_set]
    exact ⟨⟨hO2.fl, fun _ => hO2⟩, fun e => absurd e hb2⟩
  · exact hK.mono (fun k hk => by subst hk; exact .inr (.inl ⟨hb, hg⟩))
  · rintro k (rfl | ⟨_, hk⟩ | hk)
    · exact .inl (.inl rfl)
    · exact .inl (.inr (.inl ⟨hb, hk⟩))
    · exact .inl (.inr (.inr hk))
theorem mr_row {w : World} {q g n c k : Nat} {t : Value} {b : List UInt8} {f : Rests} {N : Nat} (h : MrW w q (.slice (some ⟨g, 0, none⟩) n c) t b f N) (hk : k < b.length) : (∃ x, w.cell? ⟨g, k, none⟩ = some (vByte x)) ∧ w.frozen? ⟨g, k, none⟩ = false := by
  obtain ⟨rs, h1, h2⟩ := h
  have hb : b ≠ [] := by intro e; rw [e] at hk; simp at hk
  have hO := h1.row.1.2 hb
  have hc := World.ownsRow.cells hO rfl k (vByte b[k]) (by rw [List.getElem?_map, List.getElem?_eq_getElem hk]; rfl)
  rw [add_flat, Nat.zero_add] at hc
  refine ⟨⟨_, hc⟩, ?_⟩
  obtain ⟨cur, hg⟩ : ∃ cur, w.heap[g]? = some (.cells cur 5 (0, 0)) := (h1.row.type g hb rfl).2
  simp [World.frozen?, hg]
/-- The two bytes of a size laid in place. -/
theorem set_two {Y : List UInt8} {k m : Nat} (hm : m ≤ 65535) (hk : k + 2 ≤ Y.length) : (Y.set k (UInt8.ofNat (m / 256))).set (k + 1) (UInt8.ofNat (m % 256)) = Y.take k ++ putN [] (m : Int) 2 ++ Y.drop (k + 2) := by
  rw [put2 m hm]
  apply List.ext_getElem?
  intro i
  rw [List.getElem?_set, List.getElem?_set, List.append_assoc]
  have hl : (Y.take k).length = k := by rw [List.length_take]; omega
  rcases Nat.lt_trichotomy i k with h | h | h
  · rw [if_neg (by omega), if_neg (by omega), List.getElem?_append_left (by omega), List.getElem?_take_of_lt h]
  · subst h
    rw [if_neg (by omega), if_pos rfl, if_pos (by omega), List.getElem?_append_right (by omega), hl]
    simp
  · rw [List.getElem?_append_right (by omega), hl]
    by_cases h1 : k + 1 = i
    · subst h1
      rw [if_pos rfl, if_pos (by simp; omega)]
      rw [show k + 1 - k = 1 from by omega]; rfl
    · rw [if_neg h1, if_neg (by omega), List.getElem?_append_right (by simp; omega)]
      simp only [List.length_cons, List.length_nil, List.getElem?_drop]
      congr 1; omega
set_option maxRecDepth 100000 in
set_option maxHeartbeats 2000000 in
/-- ref03.Writer.PutRR of a sound record. -/
theorem mx_PutRR (r : Rec) (q : Nat) (u t vn v0 v1 v2 v3 v4 : Value) (b : List UInt8) (f : Rests) (N : Nat) (w : World) (hW : MrW w q u t b f N) (hg : Good b f) (hd : Stb (Smr q u t b) w fun W => RecC W vn v0 v1 v2 v3 v4 r) (hs : rrsound r = true) (hb : b.length ≤ 140737460000000) (hN : N ≤ 800000) :
    Calls Try.prog 74 #[.pointer (some ⟨q, 0, none⟩), .agg #[vn, .int .i64 r.type, .int .i64 r.cls, .int .i64 r.ttl, v0, v1, v2, v3, v4]] w fun e w' => e = .returned (.bool true) ∧ Wrt q u t b ((Wt.rr r).bytes b f) ((Wt.rr r).rests b f) (N + 900) w w' := by
  obtain ⟨hn, hdd, hc, ht⟩ : nsound r.name = true ∧ rsound r.type r.data = true ∧ fits r.cls 2 = true ∧ (0 ≤ r.ttl ∧ r.ttl < 2147483648) := by
    unfold rrsound at hs; simpa only [Bool.and_eq_true, decide_eq_true_eq] using hs
  have hty : 1 ≤ r.type ∧ r.type ≤ 65535 := by unfold rsound at hdd; rw [Bool.and_eq_true, decide_eq_true_eq] at hdd; exact hdd.1
  have hcl := fits_bound _ _ hc
  have hsteps := rr_steps hs hg
  have hE0 := (Ext.refl w).alloc (.cells #[vn, .int .i64 r.type, .int .i64 r.cls, .int .i64 r.ttl, v0, v1, v2, v3, v4] 49)
  have eh : (Wt.head r).bytes b f = (Wt.name r.name true).bytes b f ++ putN [] r.type 2 ++ putN [] r.cls 2 ++ putN [] r.ttl 4 := by
    simp only [Wt.head, Wt.bytes_seq, Wt.num]; simp [Wt.bytes, Wt.raw]
  have eh2 : (Wt.head r).rests b f = (Wt.name r.name true).rests b f := by
    simp only [Wt.head, Wt.rests_seq, Wt.num]; simp [Wt.rests, Wt.raw]
  have HEh := Lib.hid (And.intro eh eh2)
  have HGr := Lib.hid (name_grow (short := true) (b := b) hn hg.small)
  have HST := Lib.hid hsteps
  have HN := Lib.hid hn
  have HDs := Lib.hid hdd
  have HD := Lib.hid hd
  have HW := Lib.hid hW
  have hd0 := hd.here
  obtain ⟨An, kn, rfl, _, _⟩ := hd0.1.form
  obtain ⟨A0, k0, rfl, _, _⟩ := hd0.2.by_.form
  obtain ⟨A1, k1, rfl, _, _⟩ := hd0.2.ho.form
  obtain ⟨A2, k2, rfl, _, _⟩ := hd0.2.ma.form
  obtain ⟨A3, k3, rfl, _, _⟩ := hd0.2.nu.form
  obtain ⟨A4, k4, rfl, _, _⟩ := hd0.2.tx.form
  have HE1 := Lib.hid hE0
  have HB1 := Lib.hid (show Box9 _ w.heap.size _ _ _ _ _ _ _ _ _ from heap_alloc_new w (.cells #[.slice An r.name.length kn, .int .i64 r.type, .int .i64 r.cls, .int .i64 r.ttl, .slice A0 r.data.bytes.length k0, .slice A1 r.data.host.length k1, .slice A2 r.data.mail.length k2, .slice A3 r.data.nums.length k3, .slice A4 r.data.texts.length k4] 49))
  have HS0 : Hid (¬ Smr q u t b w.heap.size) := Lib.hid (fun h => by have := hW.lt _ h; omega)
  clear hd hW hE0 hd0 hs hn hdd hc hsteps eh eh2 hg
  go_enter Try.func74, Try.ntmps74
  go_wp2_with fail
  obtain ⟨w1, hw1⟩ : ∃ w1, w.alloc (.cells #[.slice An r.name.length kn, .int .i64 r.type, .int .i64 r.cls, .int .i64 r.ttl, .slice A0 r.data.bytes.length k0, .slice A1 r.data.host.length k1, .slice A2 r.data.mail.length k2, .slice A3 r.data.nums.length k3, .slice A4 r.data.texts.length k4] 49) = w1 := ⟨_, rfl⟩
  rw [hw1]
  rw [hw1] at HE1 HB1
  have HD1 := Lib.hid (HD.out.step (Stp.of_ext HE1.out))
  clear hw1
  refine (mx_Name q u t _ r.name true b f N w1 (HW.out.ext HE1.out) (by omega) (fun W' hk => (HD1.out W' hk).1) HN.out (by omega)).mono ?_
  rintro e w2 ⟨rfl, u2, t2, hM2, hs2⟩
  have HM2 := Lib.hid hM2
  have HS2 := Lib.hid hs2
  clear hM2 hs2
  have HB2 := Lib.hid (show Box9 w2 w.heap.size _ _ _ _ _ _ _ _ _ from stp_heap HS2.out HB1.out HS0.out)
  obtain ⟨q0, q1, q2, q3, q4, q5, q6, q7, q8⟩ := HB2.out.cells
  go_wp2_with fail
  clear q0 q1 q2 q3 q4 q5 q6 q7 q8
  refine (mx_Num q u2 t2 r.type 2 _ _ (N + 300) w2 HM2.out (by have := HGr.out; omega) (by omega)).mono ?_
  rintro e w3 ⟨rfl, u3, t3, hM3, hs3⟩
  have HM3 := Lib.hid hM3
  have HS3 := Lib.hid (HS2.out.trans hs3)
  clear hM3 hs3
  have HB3 := Lib.hid (show Box9 w3 w.heap.size _ _ _ _ _ _ _ _ _ from stp_heap HS3.out HB1.out HS0.out)
  obtain ⟨q0, q1, q2, q3, q4, q5, q6, q7, q8⟩ := HB3.out.cells
  go_wp2_with fail
  clear q0 q1 q2 q3 q4 q5 q6 q7 q8
  refine (mx_Num q u3 t3 r.cls 2 _ _ (N + 300) w3 HM3.out (by have := HGr.out; have := putN_le r.type (size := 2) (by omega); simp at this; rw [List.length_append]; omega) (by omega)).mono ?_
  rintro e w4 ⟨rfl, u4, t4, hM4, hs4⟩
  have HM4 := Lib.hid hM4
  have HS4 := Lib.hid (HS3.out.trans hs4)
  clear hM4 hs4
  have HB4 := Lib.hid (show Box9 w4 w.heap.size _ _ _ _ _ _ _ _ _ from stp_heap HS4.out HB1.out HS0.out)
  obtain ⟨q0, q1, q2, q3, q4, q5, q6, q7, q8⟩ := HB4.out.cells
  go_wp2_with fail
  clear q0 q1 q2 q3 q4 q5 q6 q7 q8
  refine (mx_Num q u4 t4 r.ttl 4 _ _ (N + 300) w4 HM4.out (by have := HGr.out; have := putN_le r.type (size := 2) (by omega); have := putN_le r.cls (size := 2) (by omega); simp at *; omega) (by omega)).mono ?_
  rintro e w5 ⟨rfl, u5, t5, hM5, hs5⟩
  rw [← HEh.out.1, ← HEh.out.2] at hM5
  rw [← HEh.out.1] at hs5
  have HM5 := Lib.hid hM5
  have HS5 := Lib.hid (HS4.out.trans hs5)
  clear hM5 hs5
  generalize hX : (Wt.head r).bytes b f = X at *
  generalize (Wt.head r).rests b f = FX at *
  clear hX
  have hXl : X.length ≤ b.length + 300 := HST.out.2.2.2.2.1
  obtain ⟨A5, c5, rfl⟩ := HM5.out.slice
  obtain ⟨p0, p1, pf⟩ := HM5.out.cells
  go_wp2_with fail
  clear p0 p1 pf
  refine (mx_Num q _ t5 0 2 X FX (N + 300) w5 HM5.out (by omega) (by omega)).mono ?_
  rintro e w6 ⟨rfl, u6, t6, hM6, hs6⟩
  have HM6 := Lib.hid hM6
  have HS6 := Lib.hid (HS5.out.trans hs6)
  clear hM6 hs6
  have HB6 := Lib.hid (show Box9 w6 w.heap.size _ _ _ _ _ _ _ _ _ from stp_heap HS6.out HB1.out HS0.out)
  obtain ⟨q0, q1, q2, q3, q4, q5, q6, q7, q8⟩ := HB6.out.cells
  go_wp2_with fail
  clear q0 q1 q2 q3 q4 q5 q6 q7 q8
  refine (mx_PutData r.type r.data q u6 t6 _ _ _ _ _ (X ++ putN [] 0 2) FX (N + 300) w6 HM6.out (fun W' hk => (HD1.out.step HS6.out W' hk).2) HDs.out (by rw [putN0]; simp; omega) (by omega)).mono ?_
  rintro e w7 ⟨rfl, u7, t7, hM7, hs7⟩
  have HM7 := Lib.hid hM7
  have HS7 := Lib.hid (HS6.out.trans hs7)
  clear hM7 hs7
  have HYl : Hid (X.length + 2 ≤ ((Wt.data r.type r.data).bytes (X ++ putN [] 0 2) FX).length) := Lib.hid (by rw [bytes_len, putN0]; simp)
  generalize (Wt.data r.type r.data).bytes (X ++ putN [] 0 2) FX = Y at *
  generalize (Wt.data r.type r.data).rests (X ++ putN [] 0 2) FX = FY at *
  obtain ⟨e1, e2, e3, e4, e5, e6⟩ := HST.out
  have HE := Lib.hid (And.intro e1 e2)
  have hf := fits_bound _ _ e3
  rw [fits_iff] at e3
  obtain ⟨_, _, f0, f1⟩ := e3
  simp only [show ((2 : Int)).toNat = 2 from rfl, show (256 : Int) ^ 2 = 65536 from rfl] at f1
  clear e1 e2 e6 HST hf
  obtain ⟨m, hm⟩ : ∃ m, Y.length = X.length + 2 + m := ⟨Y.length - (X.length + 2), by have := HYl.out; omega⟩
  have hm2 : m ≤ 65535 := by omega
  have Hm := Lib.hid hm
  have hsub : (Y.length : Int) - X.length - 2 = (m : Int) := by omega
  have Hsub := Lib.hid hsub
  have hXm : X.length ≤ 140737460000300 := by omega
  have hYm : Y.length ≤ 140737460066300 := by omega
  have hXY : X.length + 2 ≤ Y.length := HYl.out
  clear hm f0 f1
  obtain ⟨A7, c7, rfl⟩ := HM7.out.slice
  obtain ⟨g7, rfl⟩ : ∃ g, A7 = some ⟨g, 0, none⟩ := by
    obtain ⟨rs, h1, _⟩ := HM7.out
    have hne : Y ≠ [] := by intro e; have := Hm.out; rw [e, List.length_nil] at this; omega
    rcases (h1.row.1.2 hne).2 with ⟨e, _⟩ | ⟨g, cap, cur, e, _⟩
    · injection e with e e2 e3; have := Hm.out; omega
    · injection e with e _ _; exact ⟨g, e⟩
  obtain ⟨p0, p1, pf⟩ := HM7.out.cells
  obtain ⟨⟨x0, s0⟩, z0⟩ := mr_row HM7.out (k := X.length) (by have := Hm.out; omega)
  have hs1 := mr_set HM7.out (k := X.length) (by have := Hm.out; omega) (UInt8.ofNat (m / 256))
  have hd1 : (((UInt8.ofNat (m / 256)).toNat : Nat) : Int) = (m : Int) / 256 := by rw [ofNat_toNat _ (by omega)]; omega
  have hd2 : (((UInt8.ofNat (m % 256)).toNat : Nat) : Int) = (m : Int) % 256 := by rw [ofNat_toNat _ (by omega)]; omega
  unfold vByte at hs1
  rw [hd1] at hs1
  have HM8 := Lib.hid hs1.1
  have HS8 := Lib.hid (HS7.out.trans hs1.2)
  have hs2 := mr_set HM8.out (k := X.length + 1) (by rw [List.length_set]; have := Hm.out; omega) (UInt8.ofNat (m % 256))
  unfold vByte at hs2
  rw [hd2] at hs2
  obtain ⟨r0, r1, rf⟩ := HM8.out.cells
  obtain ⟨⟨x1, s1⟩, z1⟩ := mr_row HM8.out (k := X.length + 1) (by rw [List.length_set]; have := Hm.out; omega)
  have h2m := set_two (Y := Y) hm2 (k := X.length) (by omega)
  rw [Hsub.out] at HE
  rw [h2m, ← HE.out.1] at hs2
  have HM9 := Lib.hid hs2.1
  have HS9 := Lib.hid (HS8.out.trans hs2.2)
  have HFY := Lib.hid HE.out.2
  clear hs1 hs2 hd1 hd2 h2m HE
  have m0 : 0 ≤ (m : Int) := by omega
  have m1 : (m : Int) ≤ 65535 := by omega
  go_wp2
  go_ret
  rw [HFY.out]
  exact ⟨rfl, _, _, HM9.out, (Stp.of_ext HE1.out).trans HS9.out⟩
end Go.Proofs.Ytfnelkcllaaebaa
end
