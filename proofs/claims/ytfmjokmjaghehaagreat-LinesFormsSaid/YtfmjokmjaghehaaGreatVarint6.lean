
/- Layer 5: varint, the laws. -/
import Derived.Test.YtfmjokmjaghehaaGreatVarint5
set_option linter.unusedVariables false
set_option linter.unusedSimpArgs false
namespace Go.Proofs.YtfmjokmjaghehaaGreat
open Go.Eng
/- what the makers make -/
theorem made_Tape_Bool_ok (F : Nat) {t : List Int × Int × Unit} (h : TapeOk t) {n : Int} (hn : 1 ≤ n ∧ n ≤ 9223372036854775807) :
    ∃ t' v, made_Tape_Bool F t n = some (t', v, ()) ∧ TapeOk t' := by
  obtain ⟨t1, v, e, ht1, h1, h2⟩ := made_Tape_Next_ok F h (n := n) (by omega)
  refine ⟨t1, eqI v (remI 1 n), ?_, ht1⟩
  unfold made_Tape_Bool
  simp (disch := omega) only [bs, ↓if_pos, ↓if_neg, e]
theorem rng_wrap_i64 (x : Int) : I64 (IntKind.i64.wrap x) := by
  unfold I64
  simp only [IntKind.wrap, IntKind.bits, IntKind.signed, Bool.true_and, ge_iff_le, decide_eq_true_eq]
  split <;> omega
theorem made_Tape_Int_ok (F : Nat) (hF : Fuel F) {t : List Int × Int × Unit} (h : TapeOk t) :
    ∃ t' v, made_Tape_Int F t = some (t', v, ()) ∧ TapeOk t' ∧ I64 v := by
  obtain ⟨t1, v, e, ht1, h1, h2⟩ := made_Tape_Next_ok F h (n := 8) (by omega)
  unfold made_Tape_Int
  rw [e]
  simp only [Option.bind_some]
  by_cases c0 : v = 0
  · obtain ⟨t2, w, e2, ht2, hw⟩ := made_Tape_Word_ok F hF ht1
    refine ⟨t2, IntKind.i64.wrap w, ?_, ht2, rng_wrap_i64 w⟩
    simp (disch := omega) only [bs, ↓if_pos, ↓if_neg, e2]
  · by_cases c1 : v = 1
    · obtain ⟨t2, w, e2, ht2, hw0, hw⟩ := made_Tape_Next_ok F ht1 (n := 4) (by omega)
      refine ⟨t2, 9223372036854775807 - w, ?_, ht2, by unfold I64; omega⟩
      simp (disch := omega) only [bs, ↓if_pos, ↓if_neg, e2]
    · by_cases c2 : v = 2
      · obtain ⟨t2, w, e2, ht2, hw0, hw⟩ := made_Tape_Next_ok F ht1 (n := 4) (by omega)
        refine ⟨t2, -9223372036854775808 + w, ?_, ht2, by unfold I64; omega⟩
        simp (disch := omega) only [bs, ↓if_pos, ↓if_neg, e2]
      · by_cases c3 : v = 3
        · obtain ⟨t2, w, e2, ht2, hw⟩ := made_Tape_Word_ok F hF ht1
          obtain ⟨t3, u, e3, ht3, hu0, hu⟩ := made_Tape_Next_ok F ht2 (n := 64) (by omega)
          refine ⟨t3, IntKind.i64.wrap (shrI .u64 w u), ?_, ht3, rng_wrap_i64 _⟩
          simp (disch := omega) only [bs, ↓if_pos, ↓if_neg, e2, e3, wrap_u64]
        · obtain ⟨t2, w, e2, ht2, hw0, hw⟩ := made_Tape_Next_ok F ht1 (n := 2000) (by omega)
          refine ⟨t2, w - 1000, ?_, ht2, by unfold I64; omega⟩
          simp (disch := omega) only [bs, ↓if_pos, ↓if_neg, e2]
theorem made_Tape_Wide_loop (F : Nat) (hF : Fuel F) : ∀ (m : Nat) (t : List Int × Int × Unit) (x2 : W) (s : Bool) (ws : List Int), TapeOk t → Wd ws → ws.length = 4 → m ≤ 4 → ∀ N, m < N →
    ∃ t' ws', TapeOk t' ∧ Wd ws' ∧ ws'.length = 4 ∧ ∀ (R : Type) (k : List Int × Int × Unit → W → W → Option R), made_Tape_Wide_l3 F k N t x2 (s, ws, ()) (m : Int) = k t' x2 (s, ws', ()) := by
  intro m
  induction m with
  | zero =>
    intro t x2 s ws ht hw hl hm N hN
    obtain ⟨N, rfl⟩ : ∃ M, N = M + 1 := ⟨N - 1, by omega⟩
    refine ⟨t, ws, ht, hw, hl, fun R k => ?_⟩
    unfold made_Tape_Wide_l3
    simp (disch := omega) only [bs, ↓if_pos, ↓if_neg]
  | succ m ih =>
    intro t x2 s ws ht hw hl hm N hN
    obtain ⟨N, rfl⟩ : ∃ M, N = M + 1 := ⟨N - 1, by omega⟩
    obtain ⟨t1, v, e1, ht1, hv⟩ := made_Tape_Word_ok F hF ht
    obtain ⟨t2, b, e2, ht2⟩ := made_Tape_Bool_ok F ht1 (n := 4) (by omega)
    have hcast : ((m + 1 : Nat) : Int) = (m : Int) + 1 := by omega
    cases b
    · obtain ⟨t', ws', g1, g2, g3, g4⟩ := ih t2 x2 s (setL ws (m : Int) v) ht2 (hw.set _ hv) (by rw [length_setL]; exact hl) (by omega) N (by omega)
      refine ⟨t', ws', g1, g2, g3, fun R k => ?_⟩
      rw [hcast]
      unfold made_Tape_Wide_l3
      simp (disch := omega) only [bs, ↓if_pos, ↓if_neg, e1, e2]
      rw [show (m : Int) + 1 - 1 = (m : Int) by omega]
      exact g4 R k
    · obtain ⟨t3, u, e3, ht3, hu0, hu⟩ := made_Tape_Next_ok F ht2 (n := 4) (by omega)
      have hget : (0 : Int) ≤ getL (0 : Int) ([0, 1, 9223372036854775808, 18446744073709551615] : List Int) u ∧ getL (0 : Int) ([0, 1, 9223372036854775808, 18446744073709551615] : List Int) u ≤ 18446744073709551615 :=
        Wd.get (l := [0, 1, 9223372036854775808, 18446744073709551615]) (by intro x hx; simp only [List.mem_cons, List.not_mem_nil, or_false] at hx; omega) u
      obtain ⟨t', ws', g1, g2, g3, g4⟩ := ih t3 x2 s (setL (setL ws (m : Int) v) (m : Int) (getL 0 [0, 1, 9223372036854775808, 18446744073709551615] u)) ht3 ((hw.set _ hv).set _ hget) (by rw [length_setL, length_setL]; exact hl) (by omega) N (by omega)
      refine ⟨t', ws', g1, g2, g3, fun R k => ?_⟩
      rw [hcast]
      unfold made_Tape_Wide_l3
      simp (disch := omega) only [bs, ↓if_pos, ↓if_neg, e1, e2, e3]
      rw [show (m : Int) + 1 - 1 = (m : Int) by omega]
      exact g4 R k
theorem made_Tape_Wide_ok (F : Nat) (hF : Fuel F) {t : List Int × Int × Unit} (h : TapeOk t) :
    ∃ t' z, made_Tape_Wide F t = some (t', toW z, ()) ∧ TapeOk t' ∧ z.natAbs < top256 := by
  obtain ⟨t1, n, e1, ht1, hn0, hn⟩ := made_Tape_Next_ok F h (n := 5) (by omega)
  obtain ⟨n, rfl⟩ := Int.eq_ofNat_of_zero_le hn0
  obtain ⟨t2, ws, ht2, hw, hl, el⟩ := made_Tape_Wide_loop F hF n t1 (false, [0, 0, 0, 0], ()) false [0, 0, 0, 0] ht1 (by intro x hx; simp at hx; omega) rfl (by omega) F (by unfold Fuel at hF; omega)
  obtain ⟨t3, b, e3, ht3⟩ := made_Tape_Bool_ok F ht2 (n := 3) (by omega)
  have hWk : WOk (false, ws, ()) := ⟨hw, hl⟩
  have hVl : Vl (false, ws, ()) := by rintro ⟨h, _⟩; cases h
  unfold made_Tape_Wide
  rw [e1]
  simp only [Option.bind_some]
  rw [el]
  have fin : ∀ (t : List Int × Int × Unit) (z : Int), TapeOk t → z.natAbs < top256 → ∃ t' z', made_Tape_Wide_j10 F (fun z19 z20 => some (z19, (z20, ()))) t (false, [0, 0, 0, 0], ()) (toW z) = some (t', toW z', ()) ∧ TapeOk t' ∧ z'.natAbs < top256 := by
    intro t z ht hz
    obtain ⟨t4, b, e4, ht4⟩ := made_Tape_Bool_ok F ht (n := 2) (by omega)
    unfold made_Tape_Wide_j10
    rw [e4]
    simp only [Option.bind_some]
    cases b
    · exact ⟨t4, z, rfl, ht4, hz⟩
    · refine ⟨t4, -z, ?_, ht4, by omega⟩
      rw [cond_true, ref02_Neg_eq F hF (toW_ok hz), wi_toW]
      rfl
  rw [e3]
  simp only [Option.bind_some]
  cases b
  · rw [cond_false, ← toW_wi hWk hVl]
    exact fin t3 _ ht3 hWk.abs
  · obtain ⟨t5, v, e5, ht5, hv⟩ := made_Tape_Int_ok F hF ht3
    rw [cond_true, e5]
    simp only [Option.bind_some]
    rw [ref02_Of_eq F hv]
    exact fin t5 v ht5 (I64_lt hv)
end Go.Proofs.YtfmjokmjaghehaaGreat
