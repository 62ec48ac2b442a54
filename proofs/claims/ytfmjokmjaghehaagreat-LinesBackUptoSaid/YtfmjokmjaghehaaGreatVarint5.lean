
/- Layer 5: varint, the document's wide encodings; what the makers make. -/
import Derived.Test.YtfmjokmjaghehaaGreatVarint4
set_option linter.unusedVariables false
set_option linter.unusedSimpArgs false
namespace Go.Proofs.YtfmjokmjaghehaaGreat
open Go.Eng
end Go.Proofs.YtfmjokmjaghehaaGreat
