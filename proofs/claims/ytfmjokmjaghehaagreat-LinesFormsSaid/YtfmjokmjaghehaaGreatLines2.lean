
/- Lines: what Decode says. -/
import Derived.Test.YtfmjokmjaghehaaGreatLines
set_option linter.unusedVariables false
set_option linter.unusedSimpArgs false
namespace Go.Proofs.YtfmjokmjaghehaaGreat
open Go.Eng
theorem vE_of {l : List Ln} (h1 : l.length ≤ 4096) (h2 : fitsB 4096 (lc l) = true) (h3 : l.any bentB = false) : vE l = 0 := by
  unfold vE
  rw [if_neg (by omega), if_pos h2, h3]
  rfl
end Go.Proofs.YtfmjokmjaghehaaGreat
