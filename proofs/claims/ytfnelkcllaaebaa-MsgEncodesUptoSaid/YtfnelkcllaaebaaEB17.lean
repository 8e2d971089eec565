/- Parts of one proof, joined: Qs, AppG, RNames, RefNames, LNames. Conditions: those that each theorem states. -/
import Derived.Test.YtfnelkcllaaebaaEB16
import Derived.Deep.RegionHeld3
section
/- Questions: how they read; IndexFunc and ContainsFunc over them. No condition but that slices read as lists. -/
open Go.RowKit
set_option linter.unusedVariables false
set_option linter.unusedSimpArgs false
namespace Go.Proofs.Ytfnelkcllaaebaa
structure Qst where
  name : List Str
  type : Int
  cls : Int
/-- The three cells read as a question. -/
def QR (w : World) (cs : List Value) (q : Qst) : Prop := ∃ vn, cs = [vn, .int .i64 q.type, .int .i64 q.cls] ∧ NameV w vn q.name
theorem QR.ext {w w' : World} {cs : List Value} {q : Qst} (h : QR w cs q) (hE : Ext w w') : QR w' cs q := by
  obtain ⟨vn, h, hn⟩ := h; exact ⟨vn, h, hn.ext hE⟩
abbrev QsV (w : World) (v : Value) (l : List Qst) : Prop := Sl QR 3 w v l
theorem QsV.ext {w w' : World} {v : Value} {l : List Qst} (h : QsV w v l) (hE : Ext w w') : QsV w' v l := Sl.ext (R := QR) (fun h hE => QR.ext h hE) h hE
/-- An element's three cells. -/
theorem qs_cells {w : World} {b o n c : Nat} {l : List Qst} {k : Nat} {x : Qst} (h : QsV w (.slice (some ⟨b, o, none⟩) n c) l) (hx : l[k]? = some x) :
    ∃ vn, NameV w vn x.name ∧ w.cell? ⟨b, o + k * 3, none⟩ = some vn ∧ w.cell? ⟨b, o + k * 3 + 1, none⟩ = some (.int .i64 x.type) ∧ w.cell? ⟨b, o + k * 3 + 2, none⟩ = some (.int .i64 x.cls) := by
  have hk : 0 < l.length := by have := (List.getElem?_eq_some_iff.1 hx).1; omega
  obtain ⟨A, c', e, _, _, h3⟩ := h
  obtain ⟨b', o', rfl, hc⟩ := h3 hk
  injection e with e _ _
  injection e with e
  injection e with e1 e2 _
  subst e1 e2
  obtain ⟨cs, _, ⟨vn, rfl, hn⟩, hcell⟩ := hc k x hx
  exact ⟨vn, hn, by simpa using hcell 0 vn rfl, by simpa [Nat.add_assoc] using hcell 1 _ rfl, by simpa [Nat.add_assoc] using hcell 2 _ rfl⟩
/-- The three cells of a question whose name is the call's own. -/
def QN (w : World) (base : Nat) (cs : List Value) (q : Qst) : Prop := ∃ vn, cs = [vn, .int .i64 q.type, .int .i64 q.cls] ∧ NewS Value.string 9 w base vn q.name
theorem QN.ext {w w' : World} {base : Nat} {cs : List Value} {q : Qst} (h : QN w base cs q) (he : Ext w w') : QN w' base cs q := by
  obtain ⟨vn, h, hn⟩ := h; exact ⟨vn, h, hn.ext he⟩
theorem QN.qr {w : World} {base : Nat} {cs : List Value} {q : Qst} (h : QN w base cs q) : QR w cs q := by
  obtain ⟨vn, h, hn⟩ := h; exact ⟨vn, h, hn.1⟩
theorem qN_keeps (base : Nat) : Keeps (fun w cs q => QN w base cs q) 46 := by
  intro w w' row cs q hg ht h
  obtain ⟨vn, h, hn⟩ := h
  exact ⟨vn, h, hn.grown hg ht (by decide)⟩
theorem q_info : (Try.prog.info? 46).map (fun i => (i.zero, i.size, i.bytes)) = some (some (.agg #[.slice none 0 0, .int .i64 0, .int .i64 0]), 3, 40) := by kernel_rfl
theorem qs_of_own {w : World} {base b : Nat} {v : Value} {l : List Qst} (h : OwnM (fun W cs q => QN W base cs q) 46 3 w b v l) : QsV w v l := h.sl.imp fun _ _ => QN.qr
theorem indexFunc_Q (f : FuncId) (cap : Array Value) (eg : ∀ args w, (callFunc f args).run Try.prog w = .ok (.enter f args) w) (p : Qst → Bool) (v : Value) (l : List Qst) (w : World) (hv : QsV w v l)
    (hf : ∀ x v0 w', x ∈ l → NameV w v0 x.name → Ext w w' → Calls Try.prog f (#[.agg #[v0, .int .i64 x.type, .int .i64 x.cls]] ++ cap) w' fun e w'' => e = .returned (.bool (p x)) ∧ Ext w' w'') :
    Calls Try.prog 146 #[v, .func (.func f) #[] cap] w fun e w' => e = .returned (.int .i64 (idxF p l)) ∧ Ext w w' := by
  have hl := hv.len
  unfold maxI at hl
  have HV := Lib.hid hv
  have HF := Lib.hid hf
  obtain ⟨A, c, rfl, h1, h2⟩ := hv.form
  clear hv hf
  go_enter Try.func146, Try.ntmps146
  go_wp2
  go_loopw [5, 8] (fun u i wr => ∃ k : Nat, k ≤ l.length ∧ i = .int .i64 k ∧ Hid (∀ j x, j < k → l[j]? = some x → p x = false) ∧ Ext w wr) (fun _ i _ => l.length - (intOf i).toNat)
  case atStart => exact ⟨0, by omega, rfl, by intro j x hx; omega, Ext.refl _⟩
  case round =>
    obtain ⟨k, hk, rfl, hT, hE⟩ := hrel
    by_cases hlt : k < l.length
    · obtain ⟨b, o, c1, e1, _, _, _⟩ := HV.out.opens (by omega)
      injection e1 with e1 e3 e4
      subst e1
      clear e3 e4
      have hx := List.getElem?_eq_getElem hlt
      obtain ⟨v0, hd, g0, g1, g2⟩ := qs_cells HV.out hx
      obtain ⟨An, kn, rfl, _, _⟩ := hd.form
      have c0 := hE.cell g0
      have c1' := hE.cell g1
      have c2 := hE.cell g2
      clear g0 g1 g2
      have hcall := HF.out _ _ wr (List.mem_of_getElem? hx) hd hE
      have HX := Lib.hid hx
      clear hx hd
      generalize l[k] = x at *
      cases hq : p x with
      | true =>
        rw [hq] at hcall
        have HQ := Lib.hid hq
        clear hq
        go_wp2_with (go_at_fn f; refine hcall.mono ?_; rintro e w' ⟨rfl, hb'⟩)
        go_ret
        exact ⟨ret_eq (int_eq (idxF_hit p l k x HX.out hT.out HQ.out)), hE.trans hb'⟩
      | false =>
        rw [hq] at hcall
        have HQ := Lib.hid hq
        clear hq
        go_wp2_with (go_at_fn f; refine hcall.mono ?_; rintro e w' ⟨rfl, hb'⟩)
        go_roundw
        case rel => exact ⟨k + 1, by omega, by go_num, idxF_step p l k x HX.out hT.out HQ.out, hE.trans hb'⟩
        case measure => simp [intOf]; omega
    · have HE := Lib.hid (idxF_miss p l k (by omega) hT.out)
      go_wp2
      go_ret
      exact ⟨ret_eq (int_eq HE.out), hE⟩
/-- slices.ContainsFunc at Question. -/
theorem containsFunc_Q (f : FuncId) (cap : Array Value) (eg : ∀ args w, (callFunc f args).run Try.prog w = .ok (.enter f args) w) (p : Qst → Bool) (v : Value) (l : List Qst) (w : World) (hv : QsV w v l)
    (hf : ∀ x v0 w', x ∈ l → NameV w v0 x.name → Ext w w' → Calls Try.prog f (#[.agg #[v0, .int .i64 x.type, .int .i64 x.cls]] ++ cap) w' fun e w'' => e = .returned (.bool (p x)) ∧ Ext w' w'') :
    Calls Try.prog 103 #[v, .func (.func f) #[] cap] w fun e w' => e = .returned (.bool (l.any p)) ∧ Ext w w' := by
  have HI := Lib.hid (indexFunc_Q f cap eg p v l w hv hf)
  have HE := Lib.hid (idxF_any p l)
  clear hv hf
  go_enter Try.func103, Try.ntmps103
  go_wp2_with (go_at_call 146; refine (HI.out).mono ?_; rintro e w' ⟨rfl, hE⟩)
  go_ret
  exact ⟨ret_eq (bool_eq HE.out), hE⟩
end Go.Proofs.Ytfnelkcllaaebaa
end
section
/- append of one struct out of a block that is known whole: at a list of operations, and at a step of a region that draws. No condition. -/
open Go.RowKit
set_option linter.unusedVariables false
set_option linter.unusedSimpArgs false
namespace Go.Proofs.Ytfnelkcllaaebaa
section
variable {P : Program} {ops : Array Oper} {rest : List Oper} {o : Oper} {a : Act} {Q : Exit → Act → World → Prop} {K : Act → World → Prop} {E : Prop}
end
end Go.Proofs.Ytfnelkcllaaebaa
end
section
/- Contract of rr.Names. No condition but that the slice reads as a list, the strings' sizes, and room. -/
open Go.RowKit
set_option linter.unusedVariables false
set_option linter.unusedSimpArgs false
namespace Go.Proofs.Ytfnelkcllaaebaa
end Go.Proofs.Ytfnelkcllaaebaa
end
section
/- Contract of ref03.Names. No condition but that the slice reads as a list, and the strings' sizes. -/
open Go.RowKit
set_option linter.unusedVariables false
set_option linter.unusedSimpArgs false
namespace Go.Proofs.Ytfnelkcllaaebaa
end Go.Proofs.Ytfnelkcllaaebaa
end
section
/- Contract of law05.RrNames. No condition but that the slice reads as a list, and the strings' sizes. -/
open Go.RowKit
set_option linter.unusedVariables false
set_option linter.unusedSimpArgs false
namespace Go.Proofs.Ytfnelkcllaaebaa
end Go.Proofs.Ytfnelkcllaaebaa
end
