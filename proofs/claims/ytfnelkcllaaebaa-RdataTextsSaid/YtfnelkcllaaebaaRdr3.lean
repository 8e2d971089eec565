/- Contracts of rdata's reader: texts. -/
import Derived.Test.YtfnelkcllaaebaaRdr2
import Derived.Deep.LoopGhost
open Go.RowKit
set_option linter.unusedVariables false
set_option linter.unusedSimpArgs false
namespace Go.Proofs.Ytfnelkcllaaebaa
theorem rTexts_done {l : List UInt8} {e a : Nat} {out : List Str} (h : e ≤ a) (ho : out ≠ []) : rTexts l e a out = .ok (out, a) := by rw [rTexts, dif_neg (by omega), if_neg ho]
theorem rTexts_none {l : List UInt8} {e a : Nat} (h : e ≤ a) : rTexts l e a [] = .error 2 := by rw [rTexts, dif_neg (by omega), if_pos rfl]
theorem rTexts_many {l : List UInt8} {e a : Nat} {out : List Str} (h : a < e) (ho : out.length = 64) : rTexts l e a out = .error 4 := by rw [rTexts, dif_pos h, if_pos ho]
theorem rTexts_short {l : List UInt8} {e a : Nat} {out : List Str} {c : UInt8} (h : a < e) (ho : out.length ≠ 64) (hc : l[a]? = some c) (h2 : e < a + 1 + c.toNat) : rTexts l e a out = .error 3 := by
  rw [rTexts, dif_pos h, if_neg ho]; simp only [hc]; rw [if_pos h2]
theorem rTexts_step {l : List UInt8} {e a : Nat} {out : List Str} {c : UInt8} (h : a < e) (ho : out.length ≠ 64) (hc : l[a]? = some c) (h2 : a + 1 + c.toNat ≤ e) :
    rTexts l e a out = rTexts l e (a + 1 + c.toNat) (out ++ [ofB ((l.take (a + 1 + c.toNat)).drop (a + 1))]) := by
  rw [rTexts, dif_pos h, if_neg ho]; simp only [hc]; rw [if_neg (by omega)]
theorem rNum_one {l : List UInt8} {e a : Nat} {c : UInt8} (h : a < e) (hc : l[a]? = some c) : rNum l e a 1 = .ok ((c.toNat : Int), a + 1) := by
  rw [rNum_ok (by omega)]
  have := take_drop_snoc l a 0 c (by simpa using hc)
  simp at this
  simp [this, beN]
/-- The loop of texts. -/
def TextsRel (w : World) (g : Nat) (vb : Value) (l : List UInt8) (e_ : Nat) (r : Except Int (List Str × Nat)) (gg : Nat) (s3 : Value) (wr : World) : Prop :=
  ∃ a out, OwnL Value.string 9 wr w.heap.size s3 out ∧ out.length ≤ 64 ∧ Kp (· = g) w wr ∧ RdrAt wr g vb (a : Nat) e_ ∧ a ≤ e_ ∧ rTexts l e_ a out = r ∧ e_ - a ≤ gg
set_option maxRecDepth 100000 in
set_option maxHeartbeats 1000000 in
/-- reader.texts. -/
theorem rdr_texts (w0 w : World) (g : Nat) (vb : Value) (l : List UInt8) (e_ a : Nat) (hE : Ext w0 w) (hb : BytesV w0 vb l) (hg : w0.heap.size ≤ g) (hr : RdrAt w g vb a e_) (hae : a ≤ e_) (hel : e_ ≤ l.length) (hl : l.length ≤ 140737488355328) :
    Calls Try.prog 136 #[.pointer (some ⟨g, 0, none⟩)] w (RGives w g vb e_ (NameR w.heap.size) (rTexts l e_ a [])) := by
  have hglt : g < w.heap.size := (Array.getElem?_eq_some_iff.1 hr).1
  have HE := Lib.hid hE
  have HB := Lib.hid hb
  have HR := Lib.hid hr
  generalize hres : rTexts l e_ a [] = r
  have HRES := Lib.hid hres
  clear hE hb hr hres
  go_enter Try.func136, Try.ntmps136
  go_wp2
  go_loopg [3] e_ (fun gg s3 wr => TextsRel w g vb l e_ r gg s3 wr)
  case atStart => exact ⟨a, [], OwnL.nil _ _ _ _, by simp, Kp.refl _ _, HR.out, hae, HRES.out, by omega⟩
  case round =>
    obtain ⟨a, out, HO, hol, hK, hRd, hae, hres, hgg⟩ := hrel
    have HRES := Lib.hid hres
    have d1 := hRd.c1
    have d2 := hRd.c2
    have HK := Lib.hid hK
    have HRd := Lib.hid hRd
    clear hres hK hRd
    obtain ⟨A, c1, hform, ho1, ho2⟩ := HO.fl.form
    by_cases hlt : a < e_
    · by_cases h64 : out.length = 64
      · have HM := Lib.hid (rTexts_many hlt h64 (l := l))
        have hz : ((out.length : Int) == 64) = true := by rw [h64]; rfl
        have hlt' : (a : Int) < (e_ : Int) := by omega
        clear hlt h64
        subst hform
        go_wp2
        go_quiet (fail)
        go_wp2
        rw [← HRES.out, HM.out]
        exact ⟨rfl, HK.out.drewN _, rfl⟩
      · have hz : ((out.length : Int) == 64) = false := by rw [beq_eq_false_iff_ne]; omega
        have hlt' : (a : Int) < (e_ : Int) := by omega
        have hx : l[a]? = some l[a] := List.getElem?_eq_getElem (by omega)
        generalize l[a] = c at hx
        have hc8 := c.toNat_lt
        have hC1 := fun n => rdr_num w0 (wr.drewN n) g vb l e_ a 1 ((HK.out.one HE.out hg).drewN n) HB.out hg HRd.out hae hel (by omega) (by omega)
        rw [rNum_one hlt hx] at hC1
        have HC1 := Lib.hid hC1
        clear hC1
        have hE1 : ∀ w1, Kp (· = g) wr w1 → Ext w0 w1 := fun w1 h => (HK.out.trans h).one HE.out hg
        have HE1 := Lib.hid hE1
        clear hE1
        by_cases hs : e_ < a + 1 + c.toNat
        · have HM := Lib.hid (rTexts_short hlt h64 hx hs)
          have HS := Lib.hid (rBytes_err (l := l) hs)
          clear hlt h64 hx hs
          subst hform
          go_wp2
          go_quiet (fail)
          go_wp2_with (first
            | (go_at_call 158; refine (HC1.out _).mono ?_; rintro e w' ⟨hK1, ⟨v1, rfl, hv1⟩, hRd1, hae1⟩; subst hv1; have hK1' : Kp (· = g) wr w' := (Kp.of_ext ((Ext.refl _).drewN _)).trans hK1; clear hK1)
            | (go_at_call 135; go_must (refine (rdr_bytes w0 _ g vb l e_ (a + 1) c.toNat (HE1.out _ hK1') HB.out hg hRd1 hae1 hel (by unfold maxI; omega) hl).mono ?_); intro e w2 hP; rw [HS.out] at hP; obtain ⟨hK2, rfl⟩ := hP))
          rw [← HRES.out, HM.out]
          exact ⟨rfl, (HK.out.trans hK1').trans hK2, rfl⟩
        · have HM := Lib.hid (rTexts_step hlt h64 hx (by omega))
          have HS := Lib.hid (rBytes_ok (l := l) (show a + 1 + c.toNat ≤ e_ by omega))
          have hsz := HK.out.size
          have HO' := Lib.hid HO
          have hlen : (out.length + 1) * 16 ≤ 140737488355328 := by omega
          have HLn := Lib.hid hlen
          have hown : ∀ w2, Kp (· = g) wr w2 → OwnL Value.string 9 w2 w.heap.size (.slice A out.length c1) out := fun w2 h => hform ▸ (HO.kp h hglt)
          have HOWN := Lib.hid hown
          clear hown
          have hle : a + 1 + c.toNat ≤ e_ := by omega
          have ho63 : out.length < 64 := by omega
          clear hlt h64 hx hs hlen
          subst hform
          go_wp2
          go_quiet (fail)
          go_wp2_with (first
            | (go_at_call 158; refine (HC1.out _).mono ?_; rintro e w' ⟨hK1, ⟨v1, rfl, hv1⟩, hRd1, hae1⟩; subst hv1; have hK1' : Kp (· = g) wr w' := (Kp.of_ext ((Ext.refl _).drewN _)).trans hK1; clear hK1)
            | (go_at_call 135; go_must (refine (rdr_bytes w0 _ g vb l e_ (a + 1) c.toNat (HE1.out _ hK1') HB.out hg hRd1 hae1 hel (by unfold maxI; omega) hl).mono ?_); intro e w2 hP; rw [HS.out] at hP; obtain ⟨hK2, ⟨v2, rfl, hO2⟩, hRd2, hae2⟩ := hP; have hcv := conv_string hO2.fl; have hK3 := hK1'.trans hK2; have hsz3 := hK3.size)
            | (at_builtin; go_must (refine wpList_app1 Value.string w.heap.size rfl (.tmp 17) (.tmp 23) 23 9 (.string ⟨#[]⟩) 16 rfl Try.underlying23 (by kernel_rfl) rfl (by decide) _ out (ofB ((l.take (a + 1 + c.toNat)).drop (a + 1))) rfl rfl rfl (HOWN.out _ hK3) (by omega) HLn.out ?_); intro v3 w3 hO3 hg3))
          go_roundg (e_ - (a + 1 + c.toNat))
          case measure => omega
          case rel =>
            refine ⟨a + 1 + c.toNat, _, hO3, by simp; omega, (HK.out.trans hK3).grown hg3 (fun i hi => .inr ((HOWN.out _ hK3).base_le i hi)), hRd2.grown hg3 (ne_row hglt (HOWN.out _ hK3).base_le), hae2, ?_, Nat.le_refl _⟩
            rw [← HM.out]
            exact HRES.out
    · have hlt' : ¬ (a : Int) < (e_ : Int) := by omega
      by_cases h0 : out = []
      · subst h0
        have HM := Lib.hid (rTexts_none (l := l) (show e_ ≤ a by omega))
        clear hlt
        subst hform
        go_wp2
        go_quiet (fail)
        go_wp2
        rw [← HRES.out, HM.out]
        exact ⟨rfl, HK.out.drewN _, rfl⟩
      · have HM := Lib.hid (rTexts_done (l := l) (show e_ ≤ a by omega) h0)
        have hz : ((out.length : Int) == 0) = false := by rw [beq_eq_false_iff_ne]; intro h; exact h0 (List.eq_nil_of_length_eq_zero (by omega))
        clear hlt h0
        subst hform
        go_wp2
        go_quiet (fail)
        go_wp2
        go_ret
        rw [← HRES.out, HM.out]
        exact ⟨HK.out.drewN _, ⟨_, rfl, HO⟩, HRd.out, hae⟩
end Go.Proofs.Ytfnelkcllaaebaa
