
/- Numbers of many words: multiplication, halves, division by one word. -/
import Derived.Test.YtfmjokmjaghehaaWords
set_option linter.unusedVariables false
set_option linter.unusedSimpArgs false
namespace Go.Proofs.Ytfmjokmjaghehaa
open Go.Eng

theorem mul_bd {a c A C : Int} (ha : 0 ≤ a ∧ a ≤ A) (hc : 0 ≤ c ∧ c ≤ C) : 0 ≤ a * c ∧ a * c ≤ A * C :=
  ⟨Int.mul_nonneg ha.1 hc.1, Int.mul_le_mul ha.2 hc.2 hc.1 (by omega)⟩

end Go.Proofs.Ytfmjokmjaghehaa
