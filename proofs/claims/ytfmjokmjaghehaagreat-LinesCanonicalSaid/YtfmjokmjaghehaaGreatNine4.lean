
/- Layer 9: numbers, the laws. -/
import Derived.Test.YtfmjokmjaghehaaGreatNine3
set_option linter.unusedVariables false
set_option linter.unusedSimpArgs false
namespace Go.Proofs.YtfmjokmjaghehaaGreat
open Go.Eng
theorem cut_zero (l : List Int) (e : Int) : dropL (takeL l e) 0 = takeL l e := by unfold dropL; simp
end Go.Proofs.YtfmjokmjaghehaaGreat
