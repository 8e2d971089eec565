/- The row's closed facts on the dump's head, word by word (one evaluation of the whole head outgrows the kernel's memory). No condition. -/
import Derived.Test.YtfnelkcllaaebaaRows
import Derived.ProofKit
open Go.RowKit
namespace Go.Proofs.Ytfnelkcllaaebaa
theorem words_app : ∀ (w r : List Char), (∀ c ∈ w, c ≠ Char.ofNat 32) → wordsSigns (w ++ Char.ofNat 32 :: r) = w :: wordsSigns r
  | [], r, _ => by simp [wordsSigns]
  | c :: w, r, h => by
    have hc : c ≠ Char.ofNat 32 := h c (by simp)
    have ih := words_app w r (fun c hc => h c (by simp [hc]))
    rw [List.cons_append, wordsSigns.eq_def]
    split
    · rename_i e; cases e
    · rename_i e; injection e with e; exact absurd e hc
    · rename_i e
      injection e with e1 e2
      subst e1 e2
      rw [ih]
def headA : List Char := [Char.ofNat 104, Char.ofNat 97, Char.ofNat 114, Char.ofNat 110, Char.ofNat 101, Char.ofNat 115, Char.ofNat 115]
def headSum : List Char := [Char.ofNat 100, Char.ofNat 48, Char.ofNat 55, Char.ofNat 50, Char.ofNat 55, Char.ofNat 53, Char.ofNat 101, Char.ofNat 48, Char.ofNat 49, Char.ofNat 102, Char.ofNat 97, Char.ofNat 54, Char.ofNat 100, Char.ofNat 102, Char.ofNat 55, Char.ofNat 52, Char.ofNat 54, Char.ofNat 55, Char.ofNat 100, Char.ofNat 51, Char.ofNat 100, Char.ofNat 97, Char.ofNat 57, Char.ofNat 100, Char.ofNat 52, Char.ofNat 99, Char.ofNat 55, Char.ofNat 53, Char.ofNat 49, Char.ofNat 102, Char.ofNat 53, Char.ofNat 56, Char.ofNat 100, Char.ofNat 52, Char.ofNat 54, Char.ofNat 56, Char.ofNat 54, Char.ofNat 48, Char.ofNat 101, Char.ofNat 101, Char.ofNat 54, Char.ofNat 52, Char.ofNat 53, Char.ofNat 48, Char.ofNat 99, Char.ofNat 54, Char.ofNat 99, Char.ofNat 99, Char.ofNat 51, Char.ofNat 50, Char.ofNat 54, Char.ofNat 101, Char.ofNat 55, Char.ofNat 48, Char.ofNat 48, Char.ofNat 102, Char.ofNat 100, Char.ofNat 48, Char.ofNat 51, Char.ofNat 102, Char.ofNat 55, Char.ofNat 53, Char.ofNat 98, Char.ofNat 101]
def headC : List Char := [Char.ofNat 99, Char.ofNat 117, Char.ofNat 116]
def headD : List Char := [Char.ofNat 97, Char.ofNat 116]
def headRest : List Char :=
  [Char.ofNat 103, Char.ofNat 97, Char.ofNat 122, Char.ofNat 101, Char.ofNat 116, Char.ofNat 116, Char.ofNat 101, Char.ofNat 101, Char.ofNat 114, Char.ofNat 47, Char.ofNat 103, Char.ofNat 97, Char.ofNat 122, Char.ofNat 101, Char.ofNat 116, Char.ofNat 116, Char.ofNat 101, Char.ofNat 101, Char.ofNat 114, Char.ofNat 108, Char.ofNat 97, Char.ofNat 119, Char.ofNat 48, Char.ofNat 52, Char.ofNat 46, Char.ofNat 82, Char.ofNat 100, Char.ofNat 97, Char.ofNat 116, Char.ofNat 97] ++ (
  [Char.ofNat 83, Char.ofNat 97, Char.ofNat 109, Char.ofNat 101, Char.ofNat 32, Char.ofNat 103, Char.ofNat 97, Char.ofNat 122, Char.ofNat 101, Char.ofNat 116, Char.ofNat 116, Char.ofNat 101, Char.ofNat 101, Char.ofNat 114, Char.ofNat 47, Char.ofNat 103, Char.ofNat 97, Char.ofNat 122, Char.ofNat 101, Char.ofNat 116, Char.ofNat 116, Char.ofNat 101, Char.ofNat 101, Char.ofNat 114, Char.ofNat 108, Char.ofNat 97, Char.ofNat 119, Char.ofNat 48, Char.ofNat 52, Char.ofNat 46] ++ (
  [Char.ofNat 82, Char.ofNat 100, Char.ofNat 97, Char.ofNat 116, Char.ofNat 97, Char.ofNat 84, Char.ofNat 101, Char.ofNat 120, Char.ofNat 116, Char.ofNat 115, Char.ofNat 32, Char.ofNat 103, Char.ofNat 97, Char.ofNat 122, Char.ofNat 101, Char.ofNat 116, Char.ofNat 116, Char.ofNat 101, Char.ofNat 101, Char.ofNat 114, Char.ofNat 47, Char.ofNat 103, Char.ofNat 97, Char.ofNat 122, Char.ofNat 101, Char.ofNat 116, Char.ofNat 116, Char.ofNat 101, Char.ofNat 101, Char.ofNat 114] ++ (
  [Char.ofNat 108, Char.ofNat 97, Char.ofNat 119, Char.ofNat 48, Char.ofNat 54, Char.ofNat 46, Char.ofNat 77, Char.ofNat 115, Char.ofNat 103, Char.ofNat 69, Char.ofNat 110, Char.ofNat 99, Char.ofNat 111, Char.ofNat 100, Char.ofNat 101, Char.ofNat 115, Char.ofNat 32, Char.ofNat 103, Char.ofNat 97, Char.ofNat 122, Char.ofNat 101, Char.ofNat 116, Char.ofNat 116, Char.ofNat 101, Char.ofNat 101, Char.ofNat 114, Char.ofNat 47, Char.ofNat 103, Char.ofNat 97, Char.ofNat 122] ++ (
  [Char.ofNat 101, Char.ofNat 116, Char.ofNat 116, Char.ofNat 101, Char.ofNat 101, Char.ofNat 114, Char.ofNat 108, Char.ofNat 97, Char.ofNat 119, Char.ofNat 48, Char.ofNat 54, Char.ofNat 46, Char.ofNat 77, Char.ofNat 115, Char.ofNat 103, Char.ofNat 83, Char.ofNat 104, Char.ofNat 111, Char.ofNat 114, Char.ofNat 116, Char.ofNat 32, Char.ofNat 103, Char.ofNat 97, Char.ofNat 122, Char.ofNat 101, Char.ofNat 116, Char.ofNat 116, Char.ofNat 101, Char.ofNat 101, Char.ofNat 114] ++ (
  [Char.ofNat 47, Char.ofNat 103, Char.ofNat 97, Char.ofNat 122, Char.ofNat 101, Char.ofNat 116, Char.ofNat 116, Char.ofNat 101, Char.ofNat 101, Char.ofNat 114, Char.ofNat 108, Char.ofNat 97, Char.ofNat 119, Char.ofNat 49, Char.ofNat 56, Char.ofNat 46, Char.ofNat 83, Char.ofNat 99, Char.ofNat 114, Char.ofNat 117, Char.ofNat 98, Char.ofNat 81, Char.ofNat 117, Char.ofNat 101, Char.ofNat 114, Char.ofNat 105, Char.ofNat 101, Char.ofNat 115, Char.ofNat 32, Char.ofNat 103] ++ (
  [Char.ofNat 97, Char.ofNat 122, Char.ofNat 101, Char.ofNat 116, Char.ofNat 116, Char.ofNat 101, Char.ofNat 101, Char.ofNat 114, Char.ofNat 47, Char.ofNat 103, Char.ofNat 97, Char.ofNat 122, Char.ofNat 101, Char.ofNat 116, Char.ofNat 116, Char.ofNat 101, Char.ofNat 101, Char.ofNat 114, Char.ofNat 108, Char.ofNat 97, Char.ofNat 119, Char.ofNat 48, Char.ofNat 53, Char.ofNat 46, Char.ofNat 82, Char.ofNat 114, Char.ofNat 83, Char.ofNat 101, Char.ofNat 116, Char.ofNat 115] ++ (
  [Char.ofNat 32, Char.ofNat 103, Char.ofNat 97, Char.ofNat 122, Char.ofNat 101, Char.ofNat 116, Char.ofNat 116, Char.ofNat 101, Char.ofNat 101, Char.ofNat 114, Char.ofNat 47, Char.ofNat 103, Char.ofNat 97, Char.ofNat 122, Char.ofNat 101, Char.ofNat 116, Char.ofNat 116, Char.ofNat 101, Char.ofNat 101, Char.ofNat 114, Char.ofNat 108, Char.ofNat 97, Char.ofNat 119, Char.ofNat 48, Char.ofNat 53, Char.ofNat 46, Char.ofNat 82, Char.ofNat 114, Char.ofNat 79, Char.ofNat 114] ++ (
  [Char.ofNat 100, Char.ofNat 101, Char.ofNat 114, Char.ofNat 32, Char.ofNat 103, Char.ofNat 97, Char.ofNat 122, Char.ofNat 101, Char.ofNat 116, Char.ofNat 116, Char.ofNat 101, Char.ofNat 101, Char.ofNat 114, Char.ofNat 47, Char.ofNat 103, Char.ofNat 97, Char.ofNat 122, Char.ofNat 101, Char.ofNat 116, Char.ofNat 116, Char.ofNat 101, Char.ofNat 101, Char.ofNat 114, Char.ofNat 108, Char.ofNat 97, Char.ofNat 119, Char.ofNat 48, Char.ofNat 53, Char.ofNat 46, Char.ofNat 82] ++ (
  [Char.ofNat 114, Char.ofNat 78, Char.ofNat 97, Char.ofNat 109, Char.ofNat 101, Char.ofNat 115, Char.ofNat 32, Char.ofNat 103, Char.ofNat 97, Char.ofNat 122, Char.ofNat 101, Char.ofNat 116, Char.ofNat 116, Char.ofNat 101, Char.ofNat 101, Char.ofNat 114, Char.ofNat 47, Char.ofNat 103, Char.ofNat 97, Char.ofNat 122, Char.ofNat 101, Char.ofNat 116, Char.ofNat 116, Char.ofNat 101, Char.ofNat 101, Char.ofNat 114, Char.ofNat 108, Char.ofNat 97, Char.ofNat 119, Char.ofNat 48] ++ (
  [Char.ofNat 52, Char.ofNat 46, Char.ofNat 82, Char.ofNat 100, Char.ofNat 97, Char.ofNat 116, Char.ofNat 97, Char.ofNat 87, Char.ofNat 114, Char.ofNat 105, Char.ofNat 116, Char.ofNat 101, Char.ofNat 115, Char.ofNat 32, Char.ofNat 103, Char.ofNat 97, Char.ofNat 122, Char.ofNat 101, Char.ofNat 116, Char.ofNat 116, Char.ofNat 101, Char.ofNat 101, Char.ofNat 114, Char.ofNat 47, Char.ofNat 103, Char.ofNat 97, Char.ofNat 122, Char.ofNat 101, Char.ofNat 116, Char.ofNat 116] ++ (
  [Char.ofNat 101, Char.ofNat 101, Char.ofNat 114, Char.ofNat 108, Char.ofNat 97, Char.ofNat 119, Char.ofNat 48, Char.ofNat 52, Char.ofNat 46, Char.ofNat 82, Char.ofNat 100, Char.ofNat 97, Char.ofNat 116, Char.ofNat 97, Char.ofNat 66, Char.ofNat 97, Char.ofNat 99, Char.ofNat 107, Char.ofNat 32, Char.ofNat 103, Char.ofNat 97, Char.ofNat 122, Char.ofNat 101, Char.ofNat 116, Char.ofNat 116, Char.ofNat 101, Char.ofNat 101, Char.ofNat 114, Char.ofNat 47, Char.ofNat 103] ++ (
  [Char.ofNat 97, Char.ofNat 122, Char.ofNat 101, Char.ofNat 116, Char.ofNat 116, Char.ofNat 101, Char.ofNat 101, Char.ofNat 114, Char.ofNat 108, Char.ofNat 97, Char.ofNat 119, Char.ofNat 48, Char.ofNat 55, Char.ofNat 46, Char.ofNat 67, Char.ofNat 117, Char.ofNat 116, Char.ofNat 70, Char.ofNat 105, Char.ofNat 116, Char.ofNat 115, Char.ofNat 32, Char.ofNat 103, Char.ofNat 97, Char.ofNat 122, Char.ofNat 101, Char.ofNat 116, Char.ofNat 116, Char.ofNat 101, Char.ofNat 101] ++ (
  [Char.ofNat 114, Char.ofNat 47, Char.ofNat 103, Char.ofNat 97, Char.ofNat 122, Char.ofNat 101, Char.ofNat 116, Char.ofNat 116, Char.ofNat 101, Char.ofNat 101, Char.ofNat 114, Char.ofNat 108, Char.ofNat 97, Char.ofNat 119, Char.ofNat 48, Char.ofNat 53, Char.ofNat 46, Char.ofNat 82, Char.ofNat 114, Char.ofNat 87, Char.ofNat 114, Char.ofNat 105, Char.ofNat 116, Char.ofNat 101, Char.ofNat 115, Char.ofNat 32, Char.ofNat 103, Char.ofNat 97, Char.ofNat 122, Char.ofNat 101] ++ (
  [Char.ofNat 116, Char.ofNat 116, Char.ofNat 101, Char.ofNat 101, Char.ofNat 114, Char.ofNat 47, Char.ofNat 103, Char.ofNat 97, Char.ofNat 122, Char.ofNat 101, Char.ofNat 116, Char.ofNat 116, Char.ofNat 101, Char.ofNat 101, Char.ofNat 114, Char.ofNat 108, Char.ofNat 97, Char.ofNat 119, Char.ofNat 48, Char.ofNat 53, Char.ofNat 46, Char.ofNat 82, Char.ofNat 114, Char.ofNat 66, Char.ofNat 97, Char.ofNat 99, Char.ofNat 107, Char.ofNat 32, Char.ofNat 103, Char.ofNat 97] ++ (
  [Char.ofNat 122, Char.ofNat 101, Char.ofNat 116, Char.ofNat 116, Char.ofNat 101, Char.ofNat 101, Char.ofNat 114, Char.ofNat 47, Char.ofNat 103, Char.ofNat 97, Char.ofNat 122, Char.ofNat 101, Char.ofNat 116, Char.ofNat 116, Char.ofNat 101, Char.ofNat 101, Char.ofNat 114, Char.ofNat 108, Char.ofNat 97, Char.ofNat 119, Char.ofNat 48, Char.ofNat 54, Char.ofNat 46, Char.ofNat 77, Char.ofNat 115, Char.ofNat 103, Char.ofNat 66, Char.ofNat 97, Char.ofNat 99, Char.ofNat 107] ++ (
  [Char.ofNat 32, Char.ofNat 103, Char.ofNat 97, Char.ofNat 122, Char.ofNat 101, Char.ofNat 116, Char.ofNat 116, Char.ofNat 101, Char.ofNat 101, Char.ofNat 114, Char.ofNat 47, Char.ofNat 103, Char.ofNat 97, Char.ofNat 122, Char.ofNat 101, Char.ofNat 116, Char.ofNat 116, Char.ofNat 101, Char.ofNat 101, Char.ofNat 114, Char.ofNat 108, Char.ofNat 97, Char.ofNat 119, Char.ofNat 48, Char.ofNat 54, Char.ofNat 46, Char.ofNat 77, Char.ofNat 115, Char.ofNat 103, Char.ofNat 67] ++ (
  [Char.ofNat 117, Char.ofNat 116, Char.ofNat 115, Char.ofNat 32, Char.ofNat 103, Char.ofNat 97, Char.ofNat 122, Char.ofNat 101, Char.ofNat 116, Char.ofNat 116, Char.ofNat 101, Char.ofNat 101, Char.ofNat 114, Char.ofNat 47, Char.ofNat 103, Char.ofNat 97, Char.ofNat 122, Char.ofNat 101, Char.ofNat 116, Char.ofNat 116, Char.ofNat 101, Char.ofNat 101, Char.ofNat 114, Char.ofNat 108, Char.ofNat 97, Char.ofNat 119, Char.ofNat 48, Char.ofNat 54, Char.ofNat 46, Char.ofNat 77] ++ (
  [Char.ofNat 115, Char.ofNat 103, Char.ofNat 77, Char.ofNat 97, Char.ofNat 110, Char.ofNat 121, Char.ofNat 32, Char.ofNat 103, Char.ofNat 97, Char.ofNat 122, Char.ofNat 101, Char.ofNat 116, Char.ofNat 116, Char.ofNat 101, Char.ofNat 101, Char.ofNat 114, Char.ofNat 47, Char.ofNat 103, Char.ofNat 97, Char.ofNat 122, Char.ofNat 101, Char.ofNat 116, Char.ofNat 116, Char.ofNat 101, Char.ofNat 101, Char.ofNat 114, Char.ofNat 108, Char.ofNat 97, Char.ofNat 119, Char.ofNat 48] ++ (
  [Char.ofNat 54, Char.ofNat 46, Char.ofNat 77, Char.ofNat 115, Char.ofNat 103, Char.ofNat 70, Char.ofNat 108, Char.ofNat 97, Char.ofNat 103, Char.ofNat 115, Char.ofNat 32, Char.ofNat 103, Char.ofNat 97, Char.ofNat 122, Char.ofNat 101, Char.ofNat 116, Char.ofNat 116, Char.ofNat 101, Char.ofNat 101, Char.ofNat 114, Char.ofNat 47, Char.ofNat 103, Char.ofNat 97, Char.ofNat 122, Char.ofNat 101, Char.ofNat 116, Char.ofNat 116, Char.ofNat 101, Char.ofNat 101, Char.ofNat 114] ++ (
  [Char.ofNat 108, Char.ofNat 97, Char.ofNat 119, Char.ofNat 49, Char.ofNat 56, Char.ofNat 46, Char.ofNat 83, Char.ofNat 99, Char.ofNat 114, Char.ofNat 117, Char.ofNat 98, Char.ofNat 71, Char.ofNat 117, Char.ofNat 101, Char.ofNat 115, Char.ofNat 115, Char.ofNat 32, Char.ofNat 103, Char.ofNat 97, Char.ofNat 122, Char.ofNat 101, Char.ofNat 116, Char.ofNat 116, Char.ofNat 101, Char.ofNat 101, Char.ofNat 114, Char.ofNat 47, Char.ofNat 103, Char.ofNat 97, Char.ofNat 122] ++ (
  [Char.ofNat 101, Char.ofNat 116, Char.ofNat 116, Char.ofNat 101, Char.ofNat 101, Char.ofNat 114, Char.ofNat 108, Char.ofNat 97, Char.ofNat 119, Char.ofNat 49, Char.ofNat 56, Char.ofNat 46, Char.ofNat 83, Char.ofNat 99, Char.ofNat 114, Char.ofNat 117, Char.ofNat 98, Char.ofNat 69, Char.ofNat 99, Char.ofNat 104, Char.ofNat 111, Char.ofNat 32, Char.ofNat 103, Char.ofNat 97, Char.ofNat 122, Char.ofNat 101, Char.ofNat 116, Char.ofNat 116, Char.ofNat 101, Char.ofNat 101] ++ (
  [Char.ofNat 114, Char.ofNat 47, Char.ofNat 103, Char.ofNat 97, Char.ofNat 122, Char.ofNat 101, Char.ofNat 116, Char.ofNat 116, Char.ofNat 101, Char.ofNat 101, Char.ofNat 114, Char.ofNat 108, Char.ofNat 97, Char.ofNat 119, Char.ofNat 48, Char.ofNat 55, Char.ofNat 46, Char.ofNat 67, Char.ofNat 117, Char.ofNat 116, Char.ofNat 87, Char.ofNat 104, Char.ofNat 111, Char.ofNat 108, Char.ofNat 101, Char.ofNat 32, Char.ofNat 103, Char.ofNat 97, Char.ofNat 122, Char.ofNat 101] ++ (
  [Char.ofNat 116, Char.ofNat 116, Char.ofNat 101, Char.ofNat 101, Char.ofNat 114, Char.ofNat 47, Char.ofNat 103, Char.ofNat 97, Char.ofNat 122, Char.ofNat 101, Char.ofNat 116, Char.ofNat 116, Char.ofNat 101, Char.ofNat 101, Char.ofNat 114, Char.ofNat 108, Char.ofNat 97, Char.ofNat 119, Char.ofNat 48, Char.ofNat 55, Char.ofNat 46, Char.ofNat 67, Char.ofNat 117, Char.ofNat 116, Char.ofNat 77, Char.ofNat 111, Char.ofNat 114, Char.ofNat 101, Char.ofNat 32, Char.ofNat 103] ++ (
  [Char.ofNat 97, Char.ofNat 122, Char.ofNat 101, Char.ofNat 116, Char.ofNat 116, Char.ofNat 101, Char.ofNat 101, Char.ofNat 114, Char.ofNat 47, Char.ofNat 103, Char.ofNat 97, Char.ofNat 122, Char.ofNat 101, Char.ofNat 116, Char.ofNat 116, Char.ofNat 101, Char.ofNat 101, Char.ofNat 114, Char.ofNat 108, Char.ofNat 97, Char.ofNat 119, Char.ofNat 48, Char.ofNat 55, Char.ofNat 46, Char.ofNat 67, Char.ofNat 117, Char.ofNat 116, Char.ofNat 83, Char.ofNat 101, Char.ofNat 116] ++ (
  [Char.ofNat 115])))))))))))))))))))))))))
theorem head_eq : Try.prog.initOrder = String.ofList (headA ++ Char.ofNat 32 :: (headSum ++ Char.ofNat 32 :: (headC ++ Char.ofNat 32 :: (headD ++ Char.ofNat 32 :: headRest)))) := by kernel_rfl
theorem head_words : ∃ tail, behindMainWord (wordsSigns Try.prog.initOrder.toList) = headC :: headD :: tail := by
  refine ⟨wordsSigns headRest, ?_⟩
  rw [head_eq, String.toList_ofList]
  generalize headRest = r
  rw [words_app _ _ (by decide), words_app _ _ (by decide), words_app _ _ (by decide), words_app _ _ (by decide)]
  generalize wordsSigns r = t
  unfold behindMainWord
  simp only []
  rw [if_pos (by decide)]
theorem strip_cut_any : ∀ (o : List String) (t : List (List Char)), (o.all fun s => !(headC == s.toList)) = true → stripLifts o (headC :: headD :: t) = ([], headC :: headD :: t)
  | [], _, _ => rfl
  | s :: o, t, h => by
    rw [List.all_cons, Bool.and_eq_true] at h
    rw [stripLifts, if_neg (by have := h.1; intro h2; rw [h2] at this; cases this)]
    exact strip_cut_any o t h.2
theorem strip_cut (t : List (List Char)) : stripLifts liftWords (headC :: headD :: t) = ([], headC :: headD :: t) := strip_cut_any _ t (by kernel_rfl)
theorem hc_cut : (headC == "cut".toList) = true := by kernel_rfl
theorem hc_gc : (headC == "gc".toList) = false := by kernel_rfl
theorem hc_spec : (headC == "spec".toList) = false := by kernel_rfl
theorem hc_car : (headC == "carried".toList) = false := by kernel_rfl
theorem hc_car2 : ((some headC : Option (List Char)) == some "carried".toList) = false := by kernel_rfl
theorem hc_cut2 : ((some headC : Option (List Char)) == some "cut".toList) = true := by kernel_rfl
theorem make_of {P : Program} {t : List (List Char)} (h : behindMainWord (wordsSigns P.initOrder.toList) = headC :: headD :: t) : P.make = some .cut := by
  unfold Program.make
  rw [h]
  simp only [hc_gc, hc_spec, hc_cut, Bool.or_self, Bool.false_eq_true, if_false, Bool.true_or, if_true]
theorem lifts_of {P : Program} {t : List (List Char)} (h : behindMainWord (wordsSigns P.initOrder.toList) = headC :: headD :: t) : P.headLifts = [] := by
  unfold Program.headLifts
  rw [h, strip_cut]
  simp
theorem lifted_of {P : Program} {t : List (List Char)} (h : behindMainWord (wordsSigns P.initOrder.toList) = headC :: headD :: t) : P.liftsFinal = false := by
  unfold Program.liftsFinal
  rw [h, lifts_of h]
  simp only [List.head?_cons, hc_car2, Bool.false_and, Bool.false_or]
  rfl
theorem door_of {P : Program} (h : P.doorRows = []) : P.doorFits [] = true := by
  unfold Program.doorFits
  rw [h]
  rfl
theorem enter_of {P : Program} {t : List (List Char)} (h : behindMainWord (wordsSigns P.initOrder.toList) = headC :: headD :: t) (h1 : P.laysLater = false) (h2 : P.bearsReflect = false) (h3 : P.doorRows = []) : P.mayEnter = true := by
  unfold Program.mayEnter
  rw [h]
  simp only []
  rw [strip_cut, h1, h2, door_of h3]
  simp only [List.head?_cons, hc_cut2, hc_gc, hc_spec, hc_car]
  simp
theorem try_make : Try.prog.make = some .cut := head_words.elim fun _ h => make_of h
theorem try_lifted : Try.prog.liftsFinal = false := head_words.elim fun _ h => lifted_of h
theorem try_later : Try.prog.laysLater = false := by kernel_rfl
theorem try_reflect : Try.prog.bearsReflect = false := by kernel_rfl
theorem try_rows : Try.prog.doorRows = [] := by kernel_rfl
theorem try_enter : Try.prog.mayEnter = true := head_words.elim fun _ h => enter_of h try_later try_reflect try_rows
/-- joinedFacts, but for the three facts on the head. -/
def restFacts (P : Program) (f : FuncId) (fn : Func) (s : ChangeSpec) (c : OpenClaim) : Bool :=
  c.wf (OpenSpec.ofChange s) && laidOutB P && mapsRowed P &&
  fn.params.all (P.readableRec ·) && namedTie P c.named s.vars &&
  (c.stops == []) && (P.stops == []) && (c.knobs == []) && (P.stopKnobs == []) &&
  (c.inPlace == P.inPlace f) && (c.unfollowed == P.unfollowed f) && (c.recurses == P.recurses f) && (c.named == P.varsNamed f) &&
  (c.maps == (fn.params.toList ++ s.plain.varTypes P).any (P.mapsRec ·)) && (c.ifaces == (fn.params.toList ++ s.plain.varTypes P).any (P.ifacesRec ·)) && (c.mapsOut == P.mapsAmong fn.resultTypes.toList) &&
  (c.loops == (fn.params.toList ++ s.plain.varTypes P).any (P.loopsFrom ·)) && (c.wideKeys == (fn.params.toList ++ s.plain.varTypes P ++ fn.resultTypes.toList).any (P.wideKeysFrom ·)) &&
  s.vars.all (P.varReadable ·) && fn.resultTypes.all (fun t => P.readableRec t && decide (t < P.types.size)) && (c.ifacesOut == fn.resultTypes.toList.any (P.ifacesRec ·)) && (c.loopsOut == fn.resultTypes.toList.any (P.loopsFrom ·)) && (c.plainKeys == P.plainKeys) && c.shortTexts.isNone && P.stopsHeard && (c.kinds == (if c.domain.isEmpty then [] else fn.params.toList.map fun t => match P.underlying t with | some (.int k) => some k | _ => none)) && (c.pinned == c.pinnedBy) &&
  (c.veiled == (fn.params.toList ++ s.plain.varTypes P ++ fn.resultTypes.toList).any (P.veiledRec ·)) && c.veiledFits P fn.params.toList (fn.params.toList ++ s.plain.varTypes P ++ fn.resultTypes.toList)
theorem joined_of {P : Program} {f : FuncId} {fn : Func} {s : ChangeSpec} {c : OpenClaim} (h : restFacts P f fn s c = true) (he : P.mayEnter = true) (hl : (c.lifted == P.liftsFinal) = true) (hm : (P.make == some c.make) = true) : joinedFacts P f fn s c = true := by
  unfold restFacts at h
  unfold joinedFacts
  simp only [Bool.and_eq_true] at h ⊢
  obtain ⟨⟨⟨⟨⟨⟨⟨⟨⟨⟨⟨⟨⟨⟨⟨⟨⟨⟨⟨⟨⟨⟨⟨⟨⟨⟨⟨⟨k1, k2⟩, k3⟩, k4⟩, k5⟩, k6⟩, k7⟩, k8⟩, k9⟩, k10⟩, k11⟩, k12⟩, k13⟩, k14⟩, k15⟩, k16⟩, k17⟩, k17b⟩, k18⟩, k19⟩, k20⟩, k21⟩, k22⟩, k23⟩, k23b⟩, k25⟩, k26⟩, k27⟩, k28⟩ := h
  exact ⟨⟨⟨⟨⟨⟨⟨⟨⟨⟨⟨⟨⟨⟨⟨⟨⟨⟨⟨⟨⟨⟨⟨⟨⟨⟨⟨⟨⟨⟨⟨k1, k2⟩, k3⟩, k4⟩, k5⟩, k6⟩, k7⟩, k8⟩, k9⟩, k10⟩, k11⟩, k12⟩, k13⟩, k14⟩, k15⟩, k16⟩, k17⟩, k17b⟩, k18⟩, k19⟩, k20⟩, k21⟩, k22⟩, k23⟩, k23b⟩, he⟩, hl⟩, hm⟩, k25⟩, k26⟩, k27⟩, k28⟩
/-- The facts of a row of this seat: lifted false, make cut. -/
theorem joined_try {f : FuncId} {fn : Func} {s : ChangeSpec} {c : OpenClaim} (h : restFacts Try.prog f fn s c = true) (hl : c.lifted = false) (hm : c.make = .cut) : joinedFacts Try.prog f fn s c = true :=
  joined_of h try_enter (by rw [try_lifted, hl]; rfl) (by rw [try_make, hm]; rfl)
end Go.Proofs.Ytfnelkcllaaebaa
