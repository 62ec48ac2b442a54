
/- Numbers of 256 bits with a sign, as the document reckons with them. -/
import Derived.Test.YtfmjokmjaghehaaWords3
set_option linter.unusedVariables false
set_option linter.unusedSimpArgs false
namespace Go.Proofs.Ytfmjokmjaghehaa
open Go.Eng

abbrev W := Bool × (List Int × Unit)

def WOk (w : W) : Prop := Wd w.2.1 ∧ w.2.1.length = 4
end Go.Proofs.Ytfmjokmjaghehaa
