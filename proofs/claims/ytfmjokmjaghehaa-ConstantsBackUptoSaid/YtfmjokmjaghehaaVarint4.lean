
/- Layer 5: varint, reading wide numbers; the document's wide encodings. -/
import Derived.Test.YtfmjokmjaghehaaVarint3
set_option linter.unusedVariables false
set_option linter.unusedSimpArgs false
namespace Go.Proofs.Ytfmjokmjaghehaa
open Go.Eng

end Go.Proofs.Ytfmjokmjaghehaa
