/- Numbers of many words: multiplication, halves, division by one word. -/
import Derived.Test.YtfmjokmjaghehaaWords
set_option linter.unusedVariables false
set_option linter.unusedSimpArgs false
namespace Go.Proofs.Ytfmjokmjaghehaa
open Go.Eng

theorem and32 {x : Int} (h : 0 ≤ x ∧ x ≤ 18446744073709551615) : andI .u64 x 4294967295 = x % 4294967296 := by
  rw [andI_u64 h (by omega), show (4294967295 : Int).toNat = 2 ^ 32 - 1 from rfl, Nat.and_two_pow_sub_one_eq_mod]
  omega

theorem shr32 {x : Int} (hx : 0 ≤ x) : shrI .u64 x 32 = x / 4294967296 := by
  rw [shrI_nat hx]
  simp only [IntKind.bits]
  rw [show min (32 : Int).toNat 64 = 32 from rfl]
  omega

theorem mul_bd {a c A C : Int} (ha : 0 ≤ a ∧ a ≤ A) (hc : 0 ≤ c ∧ c ≤ C) : 0 ≤ a * c ∧ a * c ≤ A * C :=
  ⟨Int.mul_nonneg ha.1 hc.1, Int.mul_le_mul ha.2 hc.2 hc.1 (by omega)⟩

theorem wv_zero_cons {x : Int} {t : List Int} (hx : 0 ≤ x) (h : wv (x :: t) = 0) : x = 0 ∧ wv t = 0 := by
  simp only [wv] at h; omega

/- halves -/
theorem half_word {x y : Int} (hx : 0 ≤ x ∧ x ≤ 18446744073709551615) (hy : 0 ≤ y ∧ y ≤ 18446744073709551615) : orI .u64 (shrI .u64 x 1) (shlI .u64 y 63) = x / 2 + y % 2 * 9223372036854775808 := by
  rw [shr1 hx.1, shlI_u64 hy.1 (by omega), show min (63 : Int).toNat 64 = 63 from rfl]
  have h : y.toNat * 2 ^ 63 % 2 ^ 64 = 2 ^ 63 * (y % 2).toNat := by omega
  rw [h, orI_u64 (by omega) (by omega), Int.toNat_natCast, Nat.or_comm, ← Nat.two_pow_add_eq_or_of_lt (by omega)]
  omega

theorem set_mid2 (d : List Int) (x y z : Int) (t : List Int) : setL (setL (d ++ x :: t) (d.length : Int) y) (d.length : Int) z = (d ++ [z]) ++ t := by
  simp [setL]
theorem get_set_mid (d : List Int) (x y : Int) (t : List Int) : getL 0 (setL (d ++ x :: t) (d.length : Int) y) (d.length : Int) = y := by
  simp [setL, getL]
theorem get_set_next (d : List Int) (x y w : Int) (t : List Int) : getL 0 (setL (d ++ x :: w :: t) (d.length : Int) y) ((d.length : Int) + 1) = w := by
  rw [set_mid, show (d.length : Int) + 1 = ((d ++ [y]).length : Int) by simp]
  exact get_mid _ _ _

end Go.Proofs.Ytfmjokmjaghehaa
