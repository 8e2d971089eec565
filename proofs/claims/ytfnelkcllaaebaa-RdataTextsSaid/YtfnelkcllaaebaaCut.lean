/- Cuts of slices. No condition. -/
import Derived.Test.YtfnelkcllaaebaaOwn
import Derived.Laws.Slices
open Go.RowKit
set_option linter.unusedVariables false
set_option linter.unusedSimpArgs false
namespace Go.Proofs.Ytfnelkcllaaebaa
theorem add_flat (b o n : Nat) : (⟨b, o, none⟩ : Addr).add n = ⟨b, o + n, none⟩ := by unfold Addr.add; split <;> simp_all
theorem Fl.sliced {α : Type} {V : α → Value} {w : World} {A : Option Addr} {n c lo hi m : Nat} {l : List α} (h : Fl V w (.slice A n c) l) (h1 : lo ≤ hi) (h2 : hi ≤ l.length) (h3 : hi ≤ m) (h4 : m ≤ c) :
    Fl V w (Go.sliced A lo hi m 1) ((l.take hi).drop lo) := by
  obtain ⟨A', c', e, h5, h6, h7⟩ := h
  injection e with e1 e2 e3
  subst e1 e2 e3
  have hlen : ((l.take hi).drop lo).length = hi - lo := by simp; omega
  refine ⟨_, m - lo, by rw [hlen]; rfl, by rw [hlen]; omega, by omega, fun hl => ?_⟩
  rw [hlen] at hl
  obtain ⟨b, o, rfl, hc⟩ := h7 (by omega)
  refine ⟨b, o + lo, ?_, fun j x hx => ?_⟩
  · rw [if_neg (by omega), Option.map_some, Nat.mul_one, add_flat]
  · rw [List.getElem?_drop, List.getElem?_take] at hx
    split at hx
    · have := hc (lo + j) x hx
      rwa [← Nat.add_assoc] at this
    · cases hx
theorem Sl.sliced {α : Type} {R : World → List Value → α → Prop} {sz : Nat} {w : World} {A : Option Addr} {n c lo hi m : Nat} {l : List α} (h : Sl R sz w (.slice A n c) l) (h1 : lo ≤ hi) (h2 : hi ≤ l.length) (h3 : hi ≤ m) (h4 : m ≤ c) :
    Sl R sz w (Go.sliced A lo hi m sz) ((l.take hi).drop lo) := by
  obtain ⟨A', c', e, h5, h6, h7⟩ := h
  injection e with e1 e2 e3
  subst e1 e2 e3
  have hlen : ((l.take hi).drop lo).length = hi - lo := by simp; omega
  refine ⟨_, m - lo, by rw [hlen]; rfl, by rw [hlen]; omega, by omega, fun hl => ?_⟩
  rw [hlen] at hl
  obtain ⟨b, o, rfl, hc⟩ := h7 (by omega)
  refine ⟨b, o + lo * sz, ?_, fun j x hx => ?_⟩
  · rw [if_neg (by omega), Option.map_some, add_flat]
  · rw [List.getElem?_drop, List.getElem?_take] at hx
    split at hx
    · obtain ⟨cs, k1, k2, k3⟩ := hc (lo + j) x hx
      refine ⟨cs, k1, k2, fun i u hu => ?_⟩
      have := k3 i u hu
      rw [Nat.add_mul] at this
      rwa [show o + lo * sz + (j * sz + i) = o + (lo * sz + j * sz + i) from by omega]
    · cases hx
theorem size22 (w : World) : (sizeOf (Try.prog.elem 22)).run Try.prog w = .ok 1 w := by kernel_rfl
theorem size23 (w : World) : (sizeOf (Try.prog.elem 23)).run Try.prog w = .ok 1 w := by kernel_rfl
theorem size24 (w : World) : (sizeOf (Try.prog.elem 24)).run Try.prog w = .ok 1 w := by kernel_rfl
theorem size37 (w : World) : (sizeOf (Try.prog.elem 37)).run Try.prog w = .ok 9 w := by kernel_rfl
theorem elem22 : Try.prog.underlying 22 = some (.slice (Try.prog.elem 22)) := by kernel_rfl
theorem elem23 : Try.prog.underlying 23 = some (.slice (Try.prog.elem 23)) := by kernel_rfl
theorem elem24 : Try.prog.underlying 24 = some (.slice (Try.prog.elem 24)) := by kernel_rfl
theorem elem37 : Try.prog.underlying 37 = some (.slice (Try.prog.elem 37)) := by kernel_rfl
section
variable {α : Type} {V : α → Value} {w : World} {v : Value} {l : List α} {t : TypeId}
theorem cut_lh (ht : Try.prog.underlying t = some (.slice (Try.prog.elem t))) (hs : ∀ w, (sizeOf (Try.prog.elem t)).run Try.prog w = .ok 1 w) (h : Fl V w v l) (lo hi : Int) (h0 : 0 ≤ lo) (h1 : lo ≤ hi) (h2 : hi ≤ (l.length : Int)) :
    ∃ v', (∀ W, (Instr.slice t v (some (.int .i64 lo)) (some (.int .i64 hi)) none).run Try.prog W = .ok v' W) ∧ Fl V w v' ((l.take hi.toNat).drop lo.toNat) := by
  obtain ⟨A, c, rfl, hl, hc⟩ := h.form
  refine ⟨_, fun W => ?_, h.sliced (m := c) (lo := lo.toNat) (hi := hi.toNat) (by omega) (by omega) (by omega) (Nat.le_refl _)⟩
  rw [run_slice_lh W t A l.length c ht .i64 .i64 lo hi h0 h1 (by omega), hs W]
  rfl
theorem cut_l (ht : Try.prog.underlying t = some (.slice (Try.prog.elem t))) (hs : ∀ w, (sizeOf (Try.prog.elem t)).run Try.prog w = .ok 1 w) (h : Fl V w v l) (lo : Int) (h0 : 0 ≤ lo) (h2 : lo ≤ (l.length : Int)) :
    ∃ v', (∀ W, (Instr.slice t v (some (.int .i64 lo)) none none).run Try.prog W = .ok v' W) ∧ Fl V w v' (l.drop lo.toNat) := by
  obtain ⟨A, c, rfl, hl, hc⟩ := h.form
  have := h.sliced (m := c) (lo := lo.toNat) (hi := l.length) (by omega) (by omega) (by omega) (Nat.le_refl _)
  rw [List.take_length] at this
  refine ⟨_, fun W => ?_, this⟩
  rw [run_slice_l W t A l.length c ht .i64 lo h0 h2, hs W]
  rfl
theorem cut_h (ht : Try.prog.underlying t = some (.slice (Try.prog.elem t))) (hs : ∀ w, (sizeOf (Try.prog.elem t)).run Try.prog w = .ok 1 w) (h : Fl V w v l) (hi : Int) (h0 : 0 ≤ hi) (h2 : hi ≤ (l.length : Int)) :
    ∃ v', (∀ W, (Instr.slice t v none (some (.int .i64 hi)) none).run Try.prog W = .ok v' W) ∧ Fl V w v' (l.take hi.toNat) := by
  obtain ⟨A, c, rfl, hl, hc⟩ := h.form
  have := h.sliced (m := c) (lo := 0) (hi := hi.toNat) (by omega) (by omega) (by omega) (Nat.le_refl _)
  rw [List.drop_zero] at this
  refine ⟨_, fun W => ?_, this⟩
  rw [run_slice_h W t A l.length c ht .i64 hi h0 (by omega), hs W]
  rfl
end
end Go.Proofs.Ytfnelkcllaaebaa
