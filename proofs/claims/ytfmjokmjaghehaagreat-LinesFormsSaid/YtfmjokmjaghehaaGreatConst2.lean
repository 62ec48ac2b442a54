
/- Layer 17: constants, reading and the laws. -/
import Derived.Test.YtfmjokmjaghehaaGreatConst
set_option linter.unusedVariables false
set_option linter.unusedSimpArgs false
namespace Go.Proofs.YtfmjokmjaghehaaGreat
open Go.Eng
end Go.Proofs.YtfmjokmjaghehaaGreat
