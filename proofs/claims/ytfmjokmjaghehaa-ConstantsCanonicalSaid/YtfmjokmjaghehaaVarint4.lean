/- Layer 5: varint, reading wide numbers; the document's wide encodings. -/
import Derived.Test.YtfmjokmjaghehaaVarint3
set_option linter.unusedVariables false
set_option linter.unusedSimpArgs false
namespace Go.Proofs.Ytfmjokmjaghehaa
open Go.Eng

/-- words, shifted up by seven bits -/
def shl7s (h : Int) : List Int → List Int
  | [] => []
  | x :: t => (x * 128 % 18446744073709551616 + h) :: shl7s (x / 144115188075855872) t

theorem shl7s_length : ∀ (l : List Int) (h : Int), (shl7s h l).length = l.length
  | [], h => rfl
  | x :: t, h => by simp [shl7s, shl7s_length t]
theorem shl7s_Wd : ∀ {l : List Int} {h : Int}, Wd l → 0 ≤ h ∧ h ≤ 127 → Wd (shl7s h l)
  | [], h, _, hh => Wd.nil
  | x :: t, h, hw, hh => by
    have := Wd.head hw
    exact Wd.cons (by omega) (shl7s_Wd (Wd.tail hw) (by omega))
theorem shl7s_wv : ∀ {l : List Int} {h : Int}, Wd l → 0 ≤ h ∧ h ≤ 127 → wv (shl7s h l) = (128 * wv l + h.toNat) % 18446744073709551616 ^ l.length
  | [], h, _, hh => by simp [shl7s, wv, Nat.mod_one]
  | x :: t, h, hw, hh => by
    have h1 := Wd.head hw
    have e := shl7s_wv (l := t) (h := x / 144115188075855872) (Wd.tail hw) (by omega)
    simp only [shl7s, wv, e, List.length_cons]
    rw [Nat.pow_succ, Nat.mul_comm (18446744073709551616 ^ t.length), Nat.mod_mul]
    have e1 : (128 * (x.toNat + 18446744073709551616 * wv t) + h.toNat) / 18446744073709551616 = 128 * wv t + (x / 144115188075855872).toNat := by omega
    rw [e1]
    congr 1
    omega

theorem shl7_word {x h : Int} (hx : 0 ≤ x ∧ x ≤ 18446744073709551615) (hh : 0 ≤ h ∧ h ≤ 127) : orI .u64 (shlI .u64 x 7) h = x * 128 % 18446744073709551616 + h := by
  rw [shlI_u64 hx.1 (by omega), show min (7 : Int).toNat 64 = 7 from rfl]
  have e : x.toNat * 2 ^ 7 % 2 ^ 64 = 2 ^ 7 * (x % 144115188075855872).toNat := by omega
  rw [e, orI_u64 (by omega) (by omega), Int.toNat_natCast, ← Nat.two_pow_add_eq_or_of_lt (by omega)]
  omega

theorem shr57 {x : Int} (hx : 0 ≤ x) : shrI .u64 x 57 = x / 144115188075855872 := by
  rw [shrI_nat hx]
  simp only [IntKind.bits]
  rw [show min (57 : Int).toNat 64 = 57 from rfl]
  omega

theorem dv_drop_le (c : List Int) (m : Nat) : dv (c.drop m) ≤ dv c := by
  have := dv_append (c.take m) (c.drop m)
  rw [List.take_append_drop] at this
  have h3 : dv (c.drop m) ≤ 128 ^ (c.take m).length * dv (c.drop m) := Nat.le_mul_of_pos_left _ (Nat.pow_pos (by omega))
  omega

/-- words, halved -/
def shr1s : List Int → List Int
  | [] => []
  | [x] => [x / 2]
  | x :: y :: t => (x / 2 + y % 2 * 9223372036854775808) :: shr1s (y :: t)
theorem shr1s_wv : ∀ {l : List Int}, Wd l → wv (shr1s l) = wv l / 2
  | [], _ => rfl
  | [x], h => by have := Wd.head h; simp only [shr1s, wv]; omega
  | x :: y :: t, h => by
    have h1 := Wd.head h
    have h2 := Wd.head (Wd.tail h)
    have e := shr1s_wv (Wd.tail h)
    simp only [shr1s, wv] at e ⊢
    omega

/-- what is read, wide -/
def rdw (b : List Int) (at_ : Int) : Int × Int × Int :=
  if (gp 37 b at_).2 = 0 then
    (if dv (gp 37 b at_).1 < 2 * top256 ∧ dv (gp 37 b at_).1 ≠ 1 then (wu (dv (gp 37 b at_).1), at_ + (gp 37 b at_).1.length, 0) else (0, 0, 5))
  else (0, 0, (gp 37 b at_).2)

theorem rdw_abs (b : List Int) (at_ : Int) : (rdw b at_).1.natAbs < top256 := by
  have h0 : (0 : Int).natAbs < top256 := by decide
  unfold rdw
  split
  · split
    · rename_i h; exact wu_abs h.1
    · exact h0
  · exact h0

end Go.Proofs.Ytfmjokmjaghehaa
