/- Layer 5: varint, wide numbers. -/
import Derived.Test.YtfmjokmjaghehaaWide
set_option linter.unusedVariables false
set_option linter.unusedSimpArgs false
namespace Go.Proofs.Ytfmjokmjaghehaa
open Go.Eng

/-- the number that is written for a wide number -/
def uw (z : Int) : Nat := 2 * z.natAbs + (if z < 0 then 1 else 0)
/-- the wide number that is written as a number -/
def wu (u : Nat) : Int := if u % 2 = 1 then -((u / 2 : Nat) : Int) else ((u / 2 : Nat) : Int)

theorem uw_wu {u : Nat} (h : u ≠ 1) : uw (wu u) = u := by
  unfold uw wu; split <;> split <;> omega
theorem wu_uw (z : Int) : wu (uw z) = z := by
  unfold uw wu; split <;> split <;> omega
theorem uw_ne (z : Int) : uw z ≠ 1 := by
  unfold uw; split <;> omega
theorem uw_lt {z : Int} (h : z.natAbs < top256) : uw z < 2 * top256 := by
  unfold uw; split <;> omega
theorem wu_abs {u : Nat} (h : u < 2 * top256) : (wu u).natAbs < top256 := by
  unfold wu; split <;> omega

theorem enc_length_le : ∀ (m : Nat) {v : Nat}, v < 128 ^ m → 1 ≤ m → (enc v).length ≤ m := by
  intro m
  induction m with
  | zero => intro v _ h; omega
  | succ m ih =>
    intro v hv _
    by_cases h : v < 128
    · rw [enc_small h]; simp
    · rw [enc_big h, List.length_cons]
      cases m with
      | zero => simp at hv; omega
      | succ m =>
        have := ih (v := v / 128) (by rw [Nat.pow_succ] at hv; exact Nat.div_lt_of_lt_mul (by rw [Nat.mul_comm]; exact hv)) (by omega)
        omega

theorem top256_val : 2 * top256 ≤ 128 ^ 37 := by decide
theorem enc_uw_len {z : Int} (h : z.natAbs < top256) : (enc (uw z)).length ≤ 37 := enc_length_le 37 (by have := uw_lt h; have := top256_val; omega) (by omega)

/- what the program appends -/
theorem eqT_words : ∀ (n : Nat) (a b : List Int), eqT (.arr n (.int .u64)) a b = decide (a = b) := by
  intro n a b
  show eqL (fun x y => decide ((x : Int) = y)) a b = _
  induction a generalizing b with
  | nil => cases b <;> simp [eqL]
  | cons x t ih =>
    cases b with
    | nil => simp [eqL]
    | cons y b => simp [eqL, ih]

theorem shl1_word {h x : Int} (hh : 0 ≤ h ∧ h ≤ 1) (hx : 0 ≤ x ∧ x ≤ 18446744073709551615) : orI .u64 h (shlI .u64 x 1) = 2 * x % 18446744073709551616 + h := by
  rw [shlI_u64 hx.1 (by omega), show min (1 : Int).toNat 64 = 1 from rfl]
  have e : x.toNat * 2 ^ 1 % 2 ^ 64 = 2 ^ 1 * (x % 9223372036854775808).toNat := by omega
  rw [e, orI_u64 (by omega) (by omega), Int.toNat_natCast, Nat.or_comm, ← Nat.two_pow_add_eq_or_of_lt (by omega)]
  omega

theorem shr63 {x : Int} (hx : 0 ≤ x) : shrI .u64 x 63 = x / 9223372036854775808 := by
  rw [shrI_nat hx]
  simp only [IntKind.bits]
  rw [show min (63 : Int).toNat 64 = 63 from rfl]
  omega

theorem shr7_word {x y : Int} (hx : 0 ≤ x ∧ x ≤ 18446744073709551615) (hy : 0 ≤ y ∧ y ≤ 18446744073709551615) : orI .u64 (shrI .u64 x 7) (shlI .u64 y 57) = x / 128 + y % 128 * 144115188075855872 := by
  rw [shr7 hx.1, shlI_u64 hy.1 (by omega), show min (57 : Int).toNat 64 = 57 from rfl]
  have h : y.toNat * 2 ^ 57 % 2 ^ 64 = 2 ^ 57 * (y % 128).toNat := by omega
  rw [h, orI_u64 (by omega) (by omega), Int.toNat_natCast, Nat.or_comm, ← Nat.two_pow_add_eq_or_of_lt (by omega)]
  omega

theorem five_words {l : List Int} (h : l.length = 5) : ∃ a b c d e, l = [a, b, c, d, e] := by
  match l, h with
  | [a, b, c, d, e], _ => exact ⟨a, b, c, d, e, rfl⟩
theorem four_words {l : List Int} (h : l.length = 4) : ∃ a b c d, l = [a, b, c, d] := by
  match l, h with
  | [a, b, c, d], _ => exact ⟨a, b, c, d, rfl⟩

/-- words, shifted by seven bits -/
def shr7s : List Int → List Int
  | [] => []
  | [x] => [x / 128]
  | x :: y :: t => (x / 128 + y % 128 * 144115188075855872) :: shr7s (y :: t)

theorem shr7s_length : ∀ l : List Int, (shr7s l).length = l.length
  | [] => rfl
  | [x] => rfl
  | x :: y :: t => by simp [shr7s, shr7s_length (y :: t)]
theorem shr7s_Wd : ∀ {l : List Int}, Wd l → Wd (shr7s l)
  | [], _ => Wd.nil
  | [x], h => Wd.one (by have := Wd.head h; omega)
  | x :: y :: t, h => Wd.cons (by have := Wd.head h; have := Wd.head (Wd.tail h); omega) (shr7s_Wd (Wd.tail h))
theorem shr7s_wv : ∀ {l : List Int}, Wd l → wv (shr7s l) = wv l / 128
  | [], _ => rfl
  | [x], h => by have := Wd.head h; simp only [shr7s, wv]; omega
  | x :: y :: t, h => by
    have h1 := Wd.head h
    have h2 := Wd.head (Wd.tail h)
    have e := shr7s_wv (Wd.tail h)
    simp only [shr7s, wv] at e ⊢
    omega

theorem wv_first {l : List Int} (h : Wd l) (hl : 0 < l.length) : (wv l % 128 : Nat) = getL 0 l 0 % 128 := by
  cases l with
  | nil => simp at hl
  | cons x t =>
    have := Wd.head h
    show ((wv (x :: t) % 128 : Nat) : Int) = x % 128
    simp only [wv]; omega

/-- words, doubled -/
def dbls (h : Int) : List Int → List Int
  | [] => [h]
  | x :: t => (2 * x % 18446744073709551616 + h) :: dbls (x / 9223372036854775808) t

theorem dbls_length : ∀ (l : List Int) (h : Int), (dbls h l).length = l.length + 1
  | [], h => rfl
  | x :: t, h => by simp [dbls, dbls_length t]
theorem dbls_Wd : ∀ {l : List Int} {h : Int}, Wd l → 0 ≤ h ∧ h ≤ 1 → Wd (dbls h l)
  | [], h, _, hh => Wd.one (by omega)
  | x :: t, h, hw, hh => by
    have := Wd.head hw
    exact Wd.cons (by omega) (dbls_Wd (Wd.tail hw) (by omega))
theorem dbls_wv : ∀ {l : List Int} {h : Int}, Wd l → 0 ≤ h ∧ h ≤ 1 → wv (dbls h l) = 2 * wv l + h.toNat
  | [], h, _, hh => by simp [dbls, wv]
  | x :: t, h, hw, hh => by
    have h1 := Wd.head hw
    have e := dbls_wv (l := t) (h := x / 9223372036854775808) (Wd.tail hw) (by omega)
    simp only [dbls, wv, e]
    omega

theorem add_first {l : List Int} (h : Wd l) (hl : 0 < l.length) (he : wv l % 2 = 0) : Wd (setL l 0 (addI .u64 (getL 0 l 0) 1)) ∧ (setL l 0 (addI .u64 (getL 0 l 0) 1)).length = l.length ∧ wv (setL l 0 (addI .u64 (getL 0 l 0) 1)) = wv l + 1 := by
  cases l with
  | nil => simp at hl
  | cons x t =>
    have hx := Wd.head h
    simp only [wv] at he
    show Wd (addI .u64 x 1 :: t) ∧ (addI .u64 x 1 :: t).length = _ ∧ wv (addI .u64 x 1 :: t) = _
    rw [addI_u64 (by omega)]
    refine ⟨Wd.cons (by omega) (Wd.tail h), rfl, ?_⟩
    simp only [wv]; omega

theorem not_Vl {w : W} (hv : ¬ Vl w) : wi w = 0 := by
  unfold Vl at hv
  unfold wi
  simp only [Classical.not_not] at hv
  rw [hv.1, hv.2]; rfl

end Go.Proofs.Ytfmjokmjaghehaa
