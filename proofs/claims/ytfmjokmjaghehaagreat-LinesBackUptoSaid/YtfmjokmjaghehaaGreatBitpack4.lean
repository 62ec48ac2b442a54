
/- Layer 8: bitpack, the laws. -/
import Derived.Test.YtfmjokmjaghehaaGreatBitpack3
set_option linter.unusedVariables false
set_option linter.unusedSimpArgs false
namespace Go.Proofs.YtfmjokmjaghehaaGreat
open Go.Eng
theorem Packed.back {l b : List Int} {w : Nat} (hl : Wd l) (hf : Fits l (w : Int)) (h : Packed l w b) : Clean b (l.length * w) ∧ ∀ out, Unpacked b l.length w out → out = l := by
  obtain ⟨h1, h2, h3⟩ := h
  refine ⟨fun p hp => by rw [h3]; simp [show ¬ p < l.length * w by omega], fun out ho => ?_⟩
  apply List.ext_getElem ho.2.1
  intro i i1 i2
  have r1 := ho.1 out[i] (List.getElem_mem i1)
  have r2 := hl l[i] (List.getElem_mem i2)
  apply nb_ext r1.1 r2.1
  intro k
  have e := ho.2.2 i k i2
  rw [List.getD_eq_getElem?_getD, List.getElem?_eq_getElem i1] at e
  simp only [Option.getD_some] at e
  rw [e]
  by_cases hk : k < w
  · have hlt : i * w + k < l.length * w := by
      have : (i + 1) * w ≤ l.length * w := Nat.mul_le_mul_right _ i2
      rw [Nat.succ_mul] at this
      omega
    rw [h3, bof_at l w i k hk]
    simp [hk, hlt, List.getD_eq_getElem?_getD, i2]
  · have := hf.2.2.2 l[i] (List.getElem_mem i2)
    rw [nb_lt r2.1 this (by simpa using hk)]
    simp [hk]
end Go.Proofs.YtfmjokmjaghehaaGreat
