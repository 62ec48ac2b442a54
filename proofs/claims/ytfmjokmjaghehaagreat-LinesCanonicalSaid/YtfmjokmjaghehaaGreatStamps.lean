
/- Layer 10: stamps. -/
import Derived.Test.YtfmjokmjaghehaaGreatNine4
set_option linter.unusedVariables false
set_option linter.unusedSimpArgs false
namespace Go.Proofs.YtfmjokmjaghehaaGreat
open Go.Eng
def incB : List Int → Bool
  | [] => true
  | [_] => true
  | p :: x :: t => decide (p < x) && incB (x :: t)
theorem incB_snoc : ∀ {l : List Int} {a b : Int}, incB (l ++ [a]) = true → a < b → incB (l ++ [a] ++ [b]) = true
  | [], a, b, _, h => by simp [incB, h]
  | [p], a, b, h, hb => by
    simp [incB] at h ⊢
    exact ⟨h, hb⟩
  | p :: x :: t, a, b, h, hb => by
    simp only [List.cons_append, incB, Bool.and_eq_true, decide_eq_true_eq] at h ⊢
    exact ⟨h.1, incB_snoc (l := x :: t) h.2 hb⟩
theorem incB_init : ∀ {l : List Int} {a : Int}, incB (l ++ [a]) = true → incB l = true
  | [], _, _ => rfl
  | [_], _, _ => rfl
  | p :: x :: t, a, h => by
    simp only [List.cons_append, incB, Bool.and_eq_true, decide_eq_true_eq] at h ⊢
    exact ⟨h.1, incB_init (l := x :: t) h.2⟩
theorem i64_of_u64 (z : Int) : IntKind.i64.wrap (IntKind.u64.wrap z) = IntKind.i64.wrap z := by
  obtain ⟨k, hk⟩ := i64_wrap_mod z
  obtain ⟨j, hj⟩ := i64_wrap_mod (IntKind.u64.wrap z)
  refine i64_uniq (rng_wrap_i64 _) (rng_wrap_i64 _) (k := j - k - z / 18446744073709551616) ?_
  rw [hj, hk, wrap_u64_mod]
  omega
theorem apply_eq {t d : Int} (ht : I64 t) (hd : 0 ≤ d ∧ d ≤ 9223372036854775807 - t) : IntKind.i64.wrap (addI .u64 (IntKind.wrap .u64 t) d) = t + d := by
  show IntKind.i64.wrap (IntKind.u64.wrap _) = _
  unfold I64 at ht
  rw [i64_of_u64]
  obtain ⟨k, hk⟩ := i64_wrap_mod (IntKind.u64.wrap t + d)
  refine i64_uniq (rng_wrap_i64 _) (by unfold I64; omega) (k := k - t / 18446744073709551616) ?_
  rw [hk, wrap_u64_mod]
  omega
theorem getL_Sg_split {l : List Int} {j : Nat} (h : j < l.length) : l.drop j = getL 0 l (j : Int) :: l.drop (j + 1) := by
  rw [split_at h, getL_nat]
theorem getL_snoc (l : List Int) (x : Int) : getL 0 (l ++ [x]) (l.length : Int) = x := by
  rw [getL_nat]; simp [List.getD_eq_getElem?_getD]
def ReadS (b : List Int) (at_ first n : Int) (x : List Int) (end_ e : Int) : Prop :=
  Sg x ∧ (e = 0 → 0 ≤ at_ ∧ (x.length : Int) = n ∧ 1 ≤ n ∧ n ≤ 65536 ∧ at_ < end_ ∧ end_ ≤ b.length ∧ incB x = true ∧ getL 0 x 0 = first ∧ nE (dl x) = dropL (takeL b end_) at_) ∧ (e ≠ 0 → x = [] ∧ end_ = 0)
theorem ReadS.err (b : List Int) (at_ first n : Int) {e : Int} (h : e ≠ 0) : ReadS b at_ first n [] 0 e := ⟨Sg.nil, fun h2 => absurd h2 h, fun _ => ⟨rfl, rfl⟩⟩
end Go.Proofs.YtfmjokmjaghehaaGreat
