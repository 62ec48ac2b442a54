
/- Layer 5: varint, reading wide numbers; the document's wide encodings. -/
import Derived.Test.YtfmjokmjaghehaaGreatVarint3
set_option linter.unusedVariables false
set_option linter.unusedSimpArgs false
namespace Go.Proofs.YtfmjokmjaghehaaGreat
open Go.Eng
end Go.Proofs.YtfmjokmjaghehaaGreat
