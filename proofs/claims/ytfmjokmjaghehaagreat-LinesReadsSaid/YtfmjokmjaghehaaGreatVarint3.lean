
/- Layer 5: varint, wide numbers. -/
import Derived.Test.YtfmjokmjaghehaaGreatWide
set_option linter.unusedVariables false
set_option linter.unusedSimpArgs false
namespace Go.Proofs.YtfmjokmjaghehaaGreat
open Go.Eng
def uw (z : Int) : Nat := 2 * z.natAbs + (if z < 0 then 1 else 0)
def wu (u : Nat) : Int := if u % 2 = 1 then -((u / 2 : Nat) : Int) else ((u / 2 : Nat) : Int)
theorem uw_wu {u : Nat} (h : u ≠ 1) : uw (wu u) = u := by
  unfold uw wu; split <;> split <;> omega
theorem uw_lt {z : Int} (h : z.natAbs < top256) : uw z < 2 * top256 := by
  unfold uw; split <;> omega
theorem wu_abs {u : Nat} (h : u < 2 * top256) : (wu u).natAbs < top256 := by
  unfold wu; split <;> omega
theorem enc_length_le : ∀ (m : Nat) {v : Nat}, v < 128 ^ m → 1 ≤ m → (enc v).length ≤ m := by
  intro m
  induction m with
  | zero => intro v _ h; omega
  | succ m ih =>
    intro v hv _
    by_cases h : v < 128
    · rw [enc_small h]; simp
    · rw [enc_big h, List.length_cons]
      cases m with
      | zero => simp at hv; omega
      | succ m =>
        have := ih (v := v / 128) (by rw [Nat.pow_succ] at hv; exact Nat.div_lt_of_lt_mul (by rw [Nat.mul_comm]; exact hv)) (by omega)
        omega
theorem top256_val : 2 * top256 ≤ 128 ^ 37 := by decide
theorem enc_uw_len {z : Int} (h : z.natAbs < top256) : (enc (uw z)).length ≤ 37 := enc_length_le 37 (by have := uw_lt h; have := top256_val; omega) (by omega)
/- what the program appends -/
theorem eqT_words : ∀ (n : Nat) (a b : List Int), eqT (.arr n (.int .u64)) a b = decide (a = b) := by
  intro n a b
  show eqL (fun x y => decide ((x : Int) = y)) a b = _
  induction a generalizing b with
  | nil => cases b <;> simp [eqL]
  | cons x t ih =>
    cases b with
    | nil => simp [eqL]
    | cons y b => simp [eqL, ih]
theorem wide_Valid_eq (F : Nat) {w : W} (h : WOk w) : wide_Valid F w = some (decide (Vl w), ()) := by
  unfold wide_Valid Vl
  obtain ⟨s, l, u⟩ := w
  have h1 := h.1
  have h2 := h.2
  simp only at h1 h2
  cases s
  · rfl
  · simp only [Bool.not_true, cond_false, Option.some.injEq, Prod.mk.injEq, and_true, true_and]
    rw [eqT_words]
    have : l = [0, 0, 0, 0] ↔ wv l = 0 := by
      constructor
      · intro e; rw [e]; rfl
      · intro e; exact wv_inj h1 (fun x hx => by simp at hx; omega) (by simp [h2]) (by rw [e]; rfl)
    simp [this]
theorem five_words {l : List Int} (h : l.length = 5) : ∃ a b c d e, l = [a, b, c, d, e] := by
  match l, h with
  | [a, b, c, d, e], _ => exact ⟨a, b, c, d, e, rfl⟩
theorem wv_first {l : List Int} (h : Wd l) (hl : 0 < l.length) : (wv l % 128 : Nat) = getL 0 l 0 % 128 := by
  cases l with
  | nil => simp at hl
  | cons x t =>
    have := Wd.head h
    show ((wv (x :: t) % 128 : Nat) : Int) = x % 128
    simp only [wv]; omega
end Go.Proofs.YtfmjokmjaghehaaGreat
