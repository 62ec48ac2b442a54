
/- Layer 8: bitpack, the laws. -/
import Derived.Test.YtfmjokmjaghehaaGreatBitpack3
set_option linter.unusedVariables false
set_option linter.unusedSimpArgs false
namespace Go.Proofs.YtfmjokmjaghehaaGreat
open Go.Eng
end Go.Proofs.YtfmjokmjaghehaaGreat
