
/- Layer 5: varint, the law of the forms. -/
import Derived.Test.YtfmjokmjaghehaaGreatVarint6
import Derived.Test.YtfmjokmjaghehaaGreatEngE
set_option linter.unusedVariables false
set_option linter.unusedSimpArgs false
namespace Go.Proofs.YtfmjokmjaghehaaGreat
open Go.Eng
theorem WOk_of {w : W} (h : wfT (.pair .bool (.pair (.arr 4 (.int .u64)) .unit)) w) : WOk w :=
  ⟨fun x hx => rng_u64 (h.2.1.2 x hx), h.2.1.1⟩
end Go.Proofs.YtfmjokmjaghehaaGreat
