/- Parts of one proof, joined: LBack. Conditions: those that each theorem states. -/
import Derived.Test.YtfnelkcllaaebaaEB19
import Derived.Test.YtfnelkcllaaebaaEB21
import Derived.Test.YtfnelkcllaaebaaEB16
section
/- Contract of law05.RrBack. No condition but that the slice reads as a list, and the strings' and numbers' sizes. -/
open Go.RowKit
set_option linter.unusedVariables false
set_option linter.unusedSimpArgs false
namespace Go.Proofs.Ytfnelkcllaaebaa
theorem OwnL.kpS {α : Type} {V : α → Value} {e : TypeId} {S : Nat → Prop} {w w' : World} {base : Nat} {v : Value} {l : List α} (h : OwnL V e w base v l) (hk : Kp S w w') (hn : ∀ k, v.ownBlock = some k → ¬ S k) : OwnL V e w' base v l := by
  rcases h.2 with ⟨rfl, h2⟩ | ⟨g, cap, cur, rfl, h1, h2, h3⟩
  · exact ⟨h.1, .inl ⟨rfl, h2⟩⟩
  · exact ⟨h.1, .inr ⟨g, cap, cur, rfl, h1, hk.heap h2 (hn g rfl), h3⟩⟩
theorem ext_kp {S : Nat → Prop} {w0 w w' : World} (hE : Ext w0 w) (hk : Kp S w w') (hS : ∀ k, S k → w0.heap.size ≤ k) : Ext w0 w' :=
  (Kp.trans' (S := fun _ => False) (Kp.of_ext hE) hk (fun k h => .inr (hS k h))).to_ext (fun _ _ h => h)
end Go.Proofs.Ytfnelkcllaaebaa
end
