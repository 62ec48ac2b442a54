
/- Layer 17: constants, the laws. -/
import Derived.Test.YtfmjokmjaghehaaGreatConst2
import Derived.Test.YtfmjokmjaghehaaGreatRng
set_option linter.unusedVariables false
set_option linter.unusedSimpArgs false
namespace Go.Proofs.YtfmjokmjaghehaaGreat
open Go.Eng
theorem fitsB_of : ∀ {c : List Int} {left : Int}, (∀ x ∈ c, 1 ≤ x) → isum c ≤ left → fitsB left c = true
  | [], _, _, _ => rfl
  | x :: t, left, h, hs => by
    have h1 := h x (by simp)
    simp only [isum] at hs
    have h2 : ∀ y ∈ t, 1 ≤ y := fun y hy => h y (by simp [hy])
    have h3 : ∀ c : List Int, (∀ x ∈ c, 1 ≤ x) → 0 ≤ isum c := by
      intro c
      induction c with
      | nil => intro _; exact Int.le_refl _
      | cons y c ihc =>
        intro h
        have h1 := h y (by simp)
        have h2 := ihc fun z hz => h z (by simp [hz])
        simp only [isum]; omega
    have h4 := h3 t h2
    exact fitsB_cons.2 ⟨by omega, fitsB_of h2 (by omega)⟩
end Go.Proofs.YtfmjokmjaghehaaGreat
