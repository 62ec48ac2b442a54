/- Layer 5: varint, the document's wide encodings; what the makers make. -/
import Derived.Test.YtfmjokmjaghehaaVarint4
set_option linter.unusedVariables false
set_option linter.unusedSimpArgs false
namespace Go.Proofs.Ytfmjokmjaghehaa
open Go.Eng

theorem toW_ok' {z : Int} (h : z.natAbs < top256) : WOk (toW z) := toW_ok h

theorem I64_lt {z : Int} (h : I64 z) : z.natAbs < top256 := by
  unfold I64 at h
  have := top256_big
  omega

theorem dv_cons {c : List Int} (hpos : 0 < c.length) : dv c = (c.getD 0 0 % 128).toNat + 128 * dv (c.drop 1) := by
  have hsplit := split_at (l := c) (i := 0) hpos
  rw [List.drop_zero, Nat.zero_add] at hsplit
  exact congrArg dv hsplit

/-- what a group says -/
def rdv (c : List Int) (at_ : Int) : Int × Int × Int := if dv c < 2 * top256 ∧ dv c ≠ 1 then (wu (dv c), at_ + c.length, 0) else (0, 0, 5)

theorem rdv_one {c : List Int} {at_ : Int} (h : dv c = 1) : rdv c at_ = (0, 0, 5) := by
  unfold rdv
  rw [if_neg (fun h2 => h2.2 h)]

theorem dv_single {c : List Int} (h4 : Grp c) (h6 : Bt c) (hlen : c.length = 1) : dv c = (lst c).toNat := by
  have hpos : 0 < c.length := by omega
  have hlst : lst c = c.getD 0 0 := by rw [← lst_getD c h4.ne, hlen]
  have hlt := h4.lst_lt
  have hr := lst_rng h6
  rw [dv_cons hpos, List.drop_eq_nil_of_le (by omega), ← hlst]
  simp only [dv]
  omega

theorem dv_long {c : List Int} (h4 : Grp c) (h6 : Bt c) (hlen : 1 < c.length) (hx0 : lst c ≠ 0) : dv c ≠ 1 := by
  have h := dv_lst h4 h6
  have hr := lst_rng h6
  have : (1 : Nat) * 128 ^ 1 ≤ (lst c).toNat * 128 ^ (c.length - 1) := Nat.mul_le_mul (by omega) (Nat.pow_le_pow_right (by omega) (by omega))
  omega

end Go.Proofs.Ytfmjokmjaghehaa
