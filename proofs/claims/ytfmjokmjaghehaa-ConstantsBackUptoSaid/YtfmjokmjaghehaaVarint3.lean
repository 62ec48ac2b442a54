
/- Layer 5: varint, wide numbers. -/
import Derived.Test.YtfmjokmjaghehaaWide
set_option linter.unusedVariables false
set_option linter.unusedSimpArgs false
namespace Go.Proofs.Ytfmjokmjaghehaa
open Go.Eng

end Go.Proofs.Ytfmjokmjaghehaa
