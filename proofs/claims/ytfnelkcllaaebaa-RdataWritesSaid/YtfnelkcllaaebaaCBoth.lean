/- Parts of one proof, joined: Both. Conditions: those that each theorem states. -/
import Derived.Test.YtfnelkcllaaebaaB24
import Derived.Test.YtfnelkcllaaebaaB26
section
/- Two writers side by side, the program's and the document's. No condition: laws on worlds; and rr.Put where nothing is put. -/
open Go.RowKit
set_option linter.unusedVariables false
set_option linter.unusedSimpArgs false
namespace Go.Proofs.Ytfnelkcllaaebaa
theorem WrP.noStr {w : World} {p mp : Nat} {v : Value} {N : Nat} {b : List UInt8} {f : Rests} (h : WrP w p mp v N b f) : NoStr (Sof p mp v) w := by
  rintro k (rfl | rfl | hk) cur x hc
  · rw [h.box] at hc; injection hc with hc; injection hc with _ h9 _; cases h9
  · obtain ⟨D, ⟨es, cl, hb, _⟩, _⟩ := h.map
    rw [hb] at hc; injection hc with hc; cases hc
  · obtain ⟨cur2, h2⟩ := h.row_type k hk; rw [h2] at hc; injection hc with hc; injection hc with _ h9 _; cases h9
/-- What holds while both write. -/
structure Both (w0 : World) (p mp : Nat) (vc : Value) (Nm : Nat) (b : List UInt8) (f : Rests) (q : Nat) (u t : Value) (b' : List UInt8) (f' : Rests) (N : Nat) (W : World) : Prop where
  wr : WrP W p mp vc Nm b f
  mr : MrW W q u t b' f' N
  ext : Ext w0 W
  sof : ∀ j, Sof p mp vc j → w0.heap.size ≤ j
  smr : ∀ j, Smr q u t b' j → w0.heap.size ≤ j
  dis : ∀ j, Sof p mp vc j → ¬ Smr q u t b' j
theorem Both.to_ext {w0 : World} {p mp : Nat} {vc : Value} {Nm : Nat} {b : List UInt8} {f : Rests} {q : Nat} {u t : Value} {b' : List UInt8} {f' : Rests} {N : Nat} {W W' : World} (h : Both w0 p mp vc Nm b f q u t b' f' N W) (hE : Ext W W') : Both w0 p mp vc Nm b f q u t b' f' N W' :=
  ⟨h.wr.ext hE, h.mr.ext hE, h.ext.trans hE, h.sof, h.smr, h.dis⟩
theorem Both.mono {w0 : World} {p mp : Nat} {vc : Value} {Nm : Nat} {b : List UInt8} {f : Rests} {q : Nat} {u t : Value} {b' : List UInt8} {f' : Rests} {N N' : Nat} {W : World} (h : Both w0 p mp vc Nm b f q u t b' f' N W) (hN : N ≤ N') : Both w0 p mp vc Nm b f q u t b' f' N' W :=
  ⟨h.wr, h.mr.mono hN, h.ext, h.sof, h.smr, h.dis⟩
theorem Both.wrote {w0 : World} {p mp : Nat} {vc : Value} {Nm : Nat} {b : List UInt8} {f : Rests} {q : Nat} {u t : Value} {b' : List UInt8} {f' : Rests} {N Nm1 : Nat} {b1 : List UInt8} {f1 : Rests} {W W' : World} (h : Both w0 p mp vc Nm b f q u t b' f' N W) (hw : Wrote p mp vc Nm1 b1 f1 W W') : ∃ vc', Both w0 p mp vc' Nm1 b1 f1 q u t b' f' N W' := by
  obtain ⟨v', h1, hs⟩ := hw
  refine ⟨v', h1, h.mr.kp hs.1 (fun k hk hS => h.dis k hS hk) h.wr.noStr, ext_kp h.ext hs.1 h.sof, fun j hj => ?_, h.smr, fun j hj hm => ?_⟩
  · rcases hs.2 j hj with h2 | h2
    · exact h.sof j h2
    · exact Nat.le_trans h.ext.size h2
  · rcases hs.2 j hj with h2 | h2
    · exact h.dis j h2 hm
    · have := h.mr.lt j hm; omega
theorem Both.wrt {w0 : World} {p mp : Nat} {vc : Value} {Nm : Nat} {b : List UInt8} {f : Rests} {q : Nat} {u t : Value} {b' : List UInt8} {f' : Rests} {N N1 : Nat} {b1 : List UInt8} {f1 : Rests} {W W' : World} (h : Both w0 p mp vc Nm b f q u t b' f' N W) (hw : Wrt q u t b' b1 f1 N1 W W') : ∃ u' t', Both w0 p mp vc Nm b f q u' t' b1 f1 N1 W' := by
  obtain ⟨u', t', h1, hs⟩ := hw
  refine ⟨u', t', h.wr.kp hs.1 (fun k hS hk => h.dis k hS hk), h1, ext_kp h.ext hs.1 h.smr, h.sof, fun j hj => ?_, fun j hj hm => ?_⟩
  · rcases hs.2 j hj with h2 | h2
    · exact h.smr j h2
    · exact Nat.le_trans h.ext.size h2
  · rcases hs.2 j hm with h2 | h2
    · exact h.dis j hj h2
    · have := h.wr.lt j hj; omega
/-- A new writer of the document's at a fresh block. -/
theorem mr_new {w : World} {q : Nat} (hb : w.heap[q]? = some (.cells #[.slice none 0 0, .slice none 0 0] 76 (0, 0))) : MrW w q (.slice none 0 0) (.slice none 0 0) [] (fun _ => none) 0 :=
  ⟨[], ⟨hb, ⟨⟨Fl.nil _ _, fun h => absurd rfl h⟩, fun _ => ⟨none, rfl⟩⟩, OwnM.nil _ _ _ _ _⟩, rfl, (by intro r hr; cases hr), Nat.le_refl _⟩
/-- rr.Put of a record that is not sound. -/
theorem rr_Put_bad (r : Rec) (p : Nat) (vn v0 v1 v2 v3 v4 : Value) (w : World) (h : RecC w vn v0 v1 v2 v3 v4 r) (fr : RFit r) (ft : Fits r.data.texts) (hs : rrsound r = false) :
    Calls Try.prog 70 #[.pointer (some ⟨p, 0, none⟩), .agg #[vn, .int .i64 r.type, .int .i64 r.cls, .int .i64 r.ttl, v0, v1, v2, v3, v4]] w fun e w' => e = .returned (.int .i64 2) ∧ Ext w w' := by
  have hE0 := (Ext.refl w).alloc (.cells #[vn, .int .i64 r.type, .int .i64 r.cls, .int .i64 r.ttl, v0, v1, v2, v3, v4] 49)
  have HC := Lib.hid (rr_Sound r vn v0 v1 v2 v3 v4 _ (h.ext hE0) fr ft)
  rw [hs] at HC
  obtain ⟨hn, hd⟩ := h
  obtain ⟨An, kn, rfl, _, _⟩ := hn.form
  obtain ⟨A0, k0, rfl, _, _⟩ := hd.by_.form
  obtain ⟨A1, k1, rfl, _, _⟩ := hd.ho.form
  obtain ⟨A2, k2, rfl, _, _⟩ := hd.ma.form
  obtain ⟨A3, k3, rfl, _, _⟩ := hd.nu.form
  obtain ⟨A4, k4, rfl, _, _⟩ := hd.tx.form
  have HE0 := Lib.hid hE0
  clear hn hd hs hE0 fr ft
  go_enter Try.func70, Try.ntmps70
  go_wp2_with fail
  refine (HC.out).mono ?_
  rintro e w1 ⟨rfl, hE1⟩
  go_wp2
  go_ret
  exact ⟨rfl, HE0.out.trans hE1⟩
/-- rr.Put to no writer. -/
theorem rr_Put_nil (c : Int) (w : World) :
    Calls Try.prog 70 #[.pointer none, .agg #[.slice none 0 0, .int .i64 c, .int .i64 0, .int .i64 0, .slice none 0 0, .slice none 0 0, .slice none 0 0, .slice none 0 0, .slice none 0 0]] w fun e w' => e = .returned (.int .i64 2) ∧ Ext w w' := by
  go_enter Try.func70, Try.ntmps70
  go_wp2
  go_ret
  exact ⟨rfl, (Ext.refl w).alloc _⟩
end Go.Proofs.Ytfnelkcllaaebaa
end
