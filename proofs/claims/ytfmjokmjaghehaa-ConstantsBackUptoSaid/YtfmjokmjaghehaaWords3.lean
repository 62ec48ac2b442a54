
/- Numbers of many words: division by one word. -/
import Derived.Test.YtfmjokmjaghehaaWords2
set_option linter.unusedVariables false
set_option linter.unusedSimpArgs false
namespace Go.Proofs.Ytfmjokmjaghehaa
open Go.Eng

/-- one step of the search for a digit: what is known -/
structure DigOk (H u y1 y0 q r : Int) : Prop where
  hy1 : 2147483648 ≤ y1 ∧ y1 ≤ 4294967295
  hy0 : 0 ≤ y0 ∧ y0 ≤ 4294967295
  hH : 0 ≤ H ∧ H < y1 * 4294967296 + y0
  hu : 0 ≤ u ∧ u ≤ 4294967295
  hq : 0 ≤ q ∧ q ≤ 8589934592
  hr : 0 ≤ r ∧ r ≤ 4294967295
  he : q * y1 + r = H
  hQ : (H * 4294967296 + u) / (y1 * 4294967296 + y0) ≤ q

theorem dig_split (q y1 y0 : Int) : q * (y1 * 4294967296 + y0) = q * y1 * 4294967296 + q * y0 := by
  rw [Int.mul_add, ← Int.mul_assoc]

theorem DigOk.done {H u y1 y0 q r : Int} (h : DigOk H u y1 y0 q r) (h1 : q < 4294967296) (h2 : q * y0 ≤ 4294967296 * r + u) : (H * 4294967296 + u) / (y1 * 4294967296 + y0) = q := by
  obtain ⟨hy1, hy0, hH, hu, hq, hr, he, hQ⟩ := h
  have hY : 0 < y1 * 4294967296 + y0 := by omega
  have : q ≤ (H * 4294967296 + u) / (y1 * 4294967296 + y0) := by
    rw [Int.le_ediv_iff_mul_le hY, dig_split]
    omega
  omega

theorem DigOk.less {H u y1 y0 q r : Int} (h : DigOk H u y1 y0 q r) (h1 : ¬ (q < 4294967296 ∧ q * y0 ≤ 4294967296 * r + u)) :
    0 < q ∧ ((4294967296 ≤ r + y1 ∧ (H * 4294967296 + u) / (y1 * 4294967296 + y0) = q - 1) ∨ (r + y1 < 4294967296 ∧ DigOk H u y1 y0 (q - 1) (r + y1))) := by
  obtain ⟨hy1, hy0, hH, hu, hq, hr, he, hQ⟩ := h
  have hY : 0 < y1 * 4294967296 + y0 := by omega
  have hlt : (H * 4294967296 + u) / (y1 * 4294967296 + y0) < q := by
    rw [Int.ediv_lt_iff_lt_mul hY]
    by_cases c : q < 4294967296
    · rw [dig_split]
      omega
    · have : 4294967296 * (y1 * 4294967296 + y0) ≤ q * (y1 * 4294967296 + y0) := Int.mul_le_mul_of_nonneg_right (by omega) (by omega)
      omega
  have hQ0 : 0 ≤ (H * 4294967296 + u) / (y1 * 4294967296 + y0) := Int.ediv_nonneg (by omega) (by omega)
  refine ⟨by omega, ?_⟩
  have hs1 : (q - 1) * y1 = q * y1 - y1 := by rw [Int.sub_mul, Int.one_mul]
  by_cases c : r + y1 < 4294967296
  · exact .inr ⟨c, ⟨hy1, hy0, hH, hu, by omega, by omega, by omega, by omega⟩⟩
  · left
    refine ⟨by omega, ?_⟩
    have hq1 : q - 1 < 4294967296 := by
      by_cases c2 : q - 1 < 4294967296
      · exact c2
      · have : 4294967296 * y1 ≤ (q - 1) * y1 := Int.mul_le_mul_of_nonneg_right (by omega) (by omega)
        omega
    have hb := mul_bd (a := q - 1) (c := y0) (A := 4294967295) (C := 4294967295) (by omega) hy0
    have : q - 1 ≤ (H * 4294967296 + u) / (y1 * 4294967296 + y0) := by
      rw [Int.le_ediv_iff_mul_le hY, dig_split]
      omega
    omega

theorem DigOk.start {H u y1 y0 : Int} (hy1 : 2147483648 ≤ y1 ∧ y1 ≤ 4294967295) (hy0 : 0 ≤ y0 ∧ y0 ≤ 4294967295) (hH : 0 ≤ H ∧ H < y1 * 4294967296 + y0) (hu : 0 ≤ u ∧ u ≤ 4294967295) : DigOk H u y1 y0 (H / y1) (H % y1) := by
  have h1 := Int.emod_nonneg H (b := y1) (by omega)
  have h2 := Int.emod_lt_of_pos H (b := y1) (by omega)
  have h3 := Int.mul_ediv_add_emod H y1
  have h4 : 0 ≤ H / y1 := Int.ediv_nonneg hH.1 (by omega)
  have h5 : H / y1 < 8589934592 := by
    rw [Int.ediv_lt_iff_lt_mul (by omega)]
    omega
  refine ⟨hy1, hy0, hH, hu, by omega, by omega, by rw [Int.mul_comm]; exact h3, ?_⟩
  have : (H * 4294967296 + u) / (y1 * 4294967296 + y0) < H / y1 + 1 := by
    have s1 : (H / y1 + 1) * y1 = H / y1 * y1 + y1 := by rw [Int.add_mul, Int.one_mul]
    have s2 : (H / y1 + 1) * y0 = H / y1 * y0 + y0 := by rw [Int.add_mul, Int.one_mul]
    rw [Int.ediv_lt_iff_lt_mul (by omega), dig_split, s1, s2]
    have : 0 ≤ H / y1 * y0 := Int.mul_nonneg h4 hy0.1
    rw [Int.mul_comm] at h3
    omega
  omega

end Go.Proofs.Ytfmjokmjaghehaa
