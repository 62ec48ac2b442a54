
/- Layer 5: varint, the document's wide encodings; what the makers make. -/
import Derived.Test.YtfmjokmjaghehaaVarint4
set_option linter.unusedVariables false
set_option linter.unusedSimpArgs false
namespace Go.Proofs.Ytfmjokmjaghehaa
open Go.Eng

end Go.Proofs.Ytfmjokmjaghehaa
