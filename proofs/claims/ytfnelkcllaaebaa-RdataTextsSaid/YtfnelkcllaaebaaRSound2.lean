/- Contract of rdata.Sound, at every kind. No condition but that slices read as lists, and the strings' sizes. -/
import Derived.Test.YtfnelkcllaaebaaRSound
open Go.RowKit
set_option linter.unusedVariables false
namespace Go.Proofs.Ytfnelkcllaaebaa
theorem rdata_Sound (kind : Int) (d : Dat) (v0 v1 v2 v3 v4 : Value) (w : World) (hd : DR w v0 v1 v2 v3 v4 d) (fd : DFit d) (ft : Fits d.texts) :
    Calls Try.prog 31 #[.int .i64 kind, .agg #[v0, v1, v2, v3, v4]] w fun e w' => e = .returned (.bool (rsound kind d)) ∧ Ext w w' := by
  by_cases hk : 1 ≤ kind ∧ kind ≤ 65535
  · obtain ⟨h1, h2⟩ := hk
    have hs : shapeOf kind = shapeOf kind := rfl
    revert hs
    conv => enter [1, 2]; unfold shapeOf
    intro hs
    split at hs
    · exact rsound_bytes 4 (.inl rfl) kind h1 h2 hs d _ _ _ _ _ w hd fd ft
    · split at hs
      · exact rsound_bytes 16 (.inr rfl) kind h1 h2 hs d _ _ _ _ _ w hd fd ft
      · split at hs
        · exact rsound_host true false 0 0 (by omega) (by omega) kind h1 h2 hs d _ _ _ _ _ w hd fd ft
        · split at hs
          · exact rsound_host true true 1 2 (by omega) (by omega) kind h1 h2 hs d _ _ _ _ _ w hd fd ft
          · split at hs
            · exact rsound_soa kind h1 h2 hs d _ _ _ _ _ w hd fd ft
            · split at hs
              · exact rsound_host false true 3 2 (by omega) (by omega) kind h1 h2 hs d _ _ _ _ _ w hd fd ft
              · split at hs
                · exact rsound_texts kind h1 h2 hs d _ _ _ _ _ w hd fd ft
                · exact rsound_rest kind h1 h2 hs d _ _ _ _ _ w hd fd ft
  · exact rsound_bad kind hk d _ _ _ _ _ w hd
end Go.Proofs.Ytfnelkcllaaebaa
