
/- Layer 9: numbers, reading. -/
import Derived.Test.YtfmjokmjaghehaaGreatNine2
set_option linter.unusedVariables false
set_option linter.unusedSimpArgs false
namespace Go.Proofs.YtfmjokmjaghehaaGreat
open Go.Eng
end Go.Proofs.YtfmjokmjaghehaaGreat
