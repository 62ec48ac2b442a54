
/- Layers 9, 10, 11, 17: what is read by the program and by the document. -/
import Derived.Test.YtfmjokmjaghehaaGreatConst3
set_option linter.unusedVariables false
set_option linter.unusedSimpArgs false
namespace Go.Proofs.YtfmjokmjaghehaaGreat
open Go.Eng
end Go.Proofs.YtfmjokmjaghehaaGreat
