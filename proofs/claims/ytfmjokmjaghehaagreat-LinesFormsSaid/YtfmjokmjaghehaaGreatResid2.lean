
/- Layer 11: residuals, reading. -/
import Derived.Test.YtfmjokmjaghehaaGreatResid
set_option linter.unusedVariables false
set_option linter.unusedSimpArgs false
namespace Go.Proofs.YtfmjokmjaghehaaGreat
open Go.Eng
theorem rE_small {l : List Int} (hl : Sg l) (hn : l.length ≤ 65536) : (rE l).length ≤ 524291 ∧ 0 < (rE l).length ∧ Bt (rE l) := by
  obtain ⟨n, h1, h2⟩ := rE_is l
  rw [h2]
  exact ⟨(rO_small hl hn).1, (rO_small hl hn).2, rO_bt h1 hl⟩
theorem rEe_ok {l : List Int} (hn : l.length ≤ 65536) : rEe l = (rE l, 0) := by unfold rEe; rw [if_neg (by omega)]
end Go.Proofs.YtfmjokmjaghehaaGreat
