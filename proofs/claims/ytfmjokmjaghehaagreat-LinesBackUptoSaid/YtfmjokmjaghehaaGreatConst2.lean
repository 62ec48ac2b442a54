
/- Layer 17: constants, reading and the laws. -/
import Derived.Test.YtfmjokmjaghehaaGreatConst
set_option linter.unusedVariables false
set_option linter.unusedSimpArgs false
namespace Go.Proofs.YtfmjokmjaghehaaGreat
open Go.Eng
theorem Placed_eq (F : Nat) (b : List Int) (at_ T : Int) : records_Placed F b at_ T = some (decide (0 ≤ at_ ∧ at_ ≤ b.length ∧ 0 ≤ T ∧ T ≤ 4096), ()) := by
  unfold records_Placed leI lenI
  by_cases c1 : 0 ≤ at_ <;> by_cases c2 : at_ ≤ b.length <;> by_cases c3 : 0 ≤ T <;> by_cases c4 : T ≤ 4096 <;> simp [c1, c2, c3, c4]
end Go.Proofs.YtfmjokmjaghehaaGreat
