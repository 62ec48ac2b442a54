
/- Layer 5: varint, the laws. -/
import Derived.Test.YtfmjokmjaghehaaGreatVarint5
set_option linter.unusedVariables false
set_option linter.unusedSimpArgs false
namespace Go.Proofs.YtfmjokmjaghehaaGreat
open Go.Eng
/- what the makers make -/
theorem made_Tape_Bool_ok (F : Nat) {t : List Int × Int × Unit} (h : TapeOk t) {n : Int} (hn : 1 ≤ n ∧ n ≤ 9223372036854775807) :
    ∃ t' v, made_Tape_Bool F t n = some (t', v, ()) ∧ TapeOk t' := by
  obtain ⟨t1, v, e, ht1, h1, h2⟩ := made_Tape_Next_ok F h (n := n) (by omega)
  refine ⟨t1, eqI v (remI 1 n), ?_, ht1⟩
  unfold made_Tape_Bool
  simp (disch := omega) only [bs, ↓if_pos, ↓if_neg, e]
theorem rng_wrap_i64 (x : Int) : I64 (IntKind.i64.wrap x) := by
  unfold I64
  simp only [IntKind.wrap, IntKind.bits, IntKind.signed, Bool.true_and, ge_iff_le, decide_eq_true_eq]
  split <;> omega
theorem made_Tape_Int_ok (F : Nat) (hF : Fuel F) {t : List Int × Int × Unit} (h : TapeOk t) :
    ∃ t' v, made_Tape_Int F t = some (t', v, ()) ∧ TapeOk t' ∧ I64 v := by
  obtain ⟨t1, v, e, ht1, h1, h2⟩ := made_Tape_Next_ok F h (n := 8) (by omega)
  unfold made_Tape_Int
  rw [e]
  simp only [Option.bind_some]
  by_cases c0 : v = 0
  · obtain ⟨t2, w, e2, ht2, hw⟩ := made_Tape_Word_ok F hF ht1
    refine ⟨t2, IntKind.i64.wrap w, ?_, ht2, rng_wrap_i64 w⟩
    simp (disch := omega) only [bs, ↓if_pos, ↓if_neg, e2]
  · by_cases c1 : v = 1
    · obtain ⟨t2, w, e2, ht2, hw0, hw⟩ := made_Tape_Next_ok F ht1 (n := 4) (by omega)
      refine ⟨t2, 9223372036854775807 - w, ?_, ht2, by unfold I64; omega⟩
      simp (disch := omega) only [bs, ↓if_pos, ↓if_neg, e2]
    · by_cases c2 : v = 2
      · obtain ⟨t2, w, e2, ht2, hw0, hw⟩ := made_Tape_Next_ok F ht1 (n := 4) (by omega)
        refine ⟨t2, -9223372036854775808 + w, ?_, ht2, by unfold I64; omega⟩
        simp (disch := omega) only [bs, ↓if_pos, ↓if_neg, e2]
      · by_cases c3 : v = 3
        · obtain ⟨t2, w, e2, ht2, hw⟩ := made_Tape_Word_ok F hF ht1
          obtain ⟨t3, u, e3, ht3, hu0, hu⟩ := made_Tape_Next_ok F ht2 (n := 64) (by omega)
          refine ⟨t3, IntKind.i64.wrap (shrI .u64 w u), ?_, ht3, rng_wrap_i64 _⟩
          simp (disch := omega) only [bs, ↓if_pos, ↓if_neg, e2, e3, wrap_u64]
        · obtain ⟨t2, w, e2, ht2, hw0, hw⟩ := made_Tape_Next_ok F ht1 (n := 2000) (by omega)
          refine ⟨t2, w - 1000, ?_, ht2, by unfold I64; omega⟩
          simp (disch := omega) only [bs, ↓if_pos, ↓if_neg, e2]
end Go.Proofs.YtfmjokmjaghehaaGreat
