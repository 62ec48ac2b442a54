
/- Layer 10: stamps, the laws. -/
import Derived.Test.YtfmjokmjaghehaaGreatStamps
set_option linter.unusedVariables false
set_option linter.unusedSimpArgs false
namespace Go.Proofs.YtfmjokmjaghehaaGreat
open Go.Eng
theorem Times_j (F : Nat) {R : Type} (kn : List Int × Int × Unit → List Int → Int → Int → Int → Int → Option R) (kr : List Int × Int × Unit → List Int → Option R) (t : List Int × Int × Unit) (l : List Int) (kd : Int) {at_ d : Int} (step i : Int) (ha : I64 at_) (hd : 1 ≤ d) :
    made_Tape_Times_j20 F kn kr t l kd at_ step i d = if 9223372036854775807 - at_ < d then kr t l else kn t l kd (at_ + d) step i := by
  unfold made_Tape_Times_j20
  have h1 : subI .u64 9223372036854775807 (IntKind.wrap .u64 at_) = 9223372036854775807 - at_ := by
    unfold I64 at ha
    show IntKind.u64.wrap _ = _
    rw [wrap_u64_mod, wrap_u64_mod]
    omega
  rw [h1]
  by_cases c : 9223372036854775807 - at_ < d
  · rw [if_pos c]
    simp (disch := omega) only [bs, ↓if_pos, ↓if_neg]
  · rw [if_neg c]
    have h2 := apply_eq ha (d := d) (by omega)
    rw [h2]
    simp (disch := omega) only [bs, ↓if_pos, ↓if_neg]
def TimesOk (l : List Int) (at_ : Int) : Prop := Sg l ∧ I64 at_ ∧ incB (l ++ [at_]) = true
theorem TimesOk.push {l : List Int} {at_ d : Int} (h : TimesOk l at_) (hd : 1 ≤ d) (hm : ¬ 9223372036854775807 - at_ < d) : TimesOk (l ++ [at_]) (at_ + d) := by
  obtain ⟨h1, h2, h3⟩ := h
  refine ⟨h1.append (Sg.cons h2 Sg.nil), by unfold I64 at h2 ⊢; omega, incB_snoc h3 (by omega)⟩
theorem Times_loop (F : Nat) (hF : Fuel F) (kd : Int) {step : Int} (hs : 1 ≤ step ∧ step ≤ 100) : ∀ (m : Nat) (t : List Int × Int × Unit) (l : List Int) (at_ : Int), TapeOk t → TimesOk l at_ → l.length + m ≤ 1000 →
    ∀ N, m < N → ∃ t' l', TapeOk t' ∧ Sg l' ∧ incB l' = true ∧ l'.length ≤ l.length + m ∧ ∀ (R : Type) (k : List Int × Int × Unit → List Int → Option R) , made_Tape_Times_l6 F k k N t l kd at_ step (m : Int) = k t' l' := by
  intro m
  induction m with
  | zero =>
    intro t l at_ ht hl hlen N hN
    obtain ⟨N, rfl⟩ : ∃ M, N = M + 1 := ⟨N - 1, by omega⟩
    refine ⟨t, l, ht, hl.1, incB_init hl.2.2, by omega, fun R k => ?_⟩
    unfold made_Tape_Times_l6
    simp (disch := omega) only [bs, ↓if_pos, ↓if_neg]
  | succ m ih =>
    intro t l at_ ht hl hlen N hN
    obtain ⟨N, rfl⟩ : ∃ M, N = M + 1 := ⟨N - 1, by omega⟩
    have hcast : ((m + 1 : Nat) : Int) = (m : Int) + 1 := by omega
    have hm1 : (m : Int) + 1 - 1 = (m : Int) := by omega
    have hlp : (l ++ [at_]).length = l.length + 1 := by simp
    -- what is common: a distance is put on
    have fin : ∀ (t1 : List Int × Int × Unit) (d : Int), TapeOk t1 → 1 ≤ d → (∀ (R : Type) (k : List Int × Int × Unit → List Int → Option R), made_Tape_Times_l6 F k k (N + 1) t l kd at_ step ((m : Int) + 1) =
        made_Tape_Times_j20 F (fun z20 z21 z22 z23 z24 z25 => made_Tape_Times_l6 F k k N z20 z21 z22 z23 z24 (subI .i64 z25 1)) (fun z27 z28 => k z27 z28) t1 (l ++ [at_]) kd at_ step ((m : Int) + 1) d) →
        ∃ t' l', TapeOk t' ∧ Sg l' ∧ incB l' = true ∧ l'.length ≤ l.length + (m + 1) ∧ ∀ (R : Type) (k : List Int × Int × Unit → List Int → Option R), made_Tape_Times_l6 F k k (N + 1) t l kd at_ step ((m + 1 : Nat) : Int) = k t' l' := by
      intro t1 d ht1 hd e
      by_cases c : 9223372036854775807 - at_ < d
      · refine ⟨t1, l ++ [at_], ht1, hl.1.append (Sg.cons hl.2.1 Sg.nil), hl.2.2, by omega, fun R k => ?_⟩
        rw [hcast, e R k, Times_j F _ _ t1 (l ++ [at_]) kd step _ hl.2.1 hd, if_pos c]
      · obtain ⟨t', l', g1, g2, g3, g4, g5⟩ := ih t1 (l ++ [at_]) (at_ + d) ht1 (hl.push hd c) (by omega) N (by omega)
        refine ⟨t', l', g1, g2, g3, by omega, fun R k => ?_⟩
        rw [hcast, e R k, Times_j F _ _ t1 (l ++ [at_]) kd step _ hl.2.1 hd, if_neg c, subI_i64 (by omega), hm1]
        exact g5 R k
    have hr : roomB (l.length + 1) 8 = true := by rw [roomB_true]; omega
    have h0 : ltI 0 ((m : Int) + 1) = true := by rw [ltI_true]; omega
    by_cases k1 : kd = 1
    · obtain ⟨t1, v, e1, ht1, hv0, hv⟩ := made_Tape_Next_ok F ht (n := 9) (by omega)
      refine fin t1 (IntKind.u64.wrap (addI .i64 1 v)) ht1 ?_ fun R k => ?_
      · rw [addI_i64 (by omega), wrap_u64 (by omega)]; omega
      · conv => lhs; unfold made_Tape_Times_l6
        have q : eqI kd 1 = true := by rw [eqI_true]; exact k1
        simp only [h0, hr, q, cond_true, e1, Option.bind_some]
    · have q1 : eqI kd 1 = false := by rw [← Bool.not_eq_true, eqI_true]; exact k1
      by_cases k2 : kd = 2
      · obtain ⟨t1, v, e1, ht1, hv0, hv⟩ := made_Tape_Next_ok F ht (n := 3) (by omega)
        refine fin t1 (addI .u64 step (IntKind.u64.wrap v)) ht1 ?_ fun R k => ?_
        · rw [wrap_u64 (by omega), addI_u64 (by omega)]; omega
        · conv => lhs; unfold made_Tape_Times_l6
          have q : eqI kd 2 = true := by rw [eqI_true]; exact k2
          simp only [h0, hr, q1, q, cond_true, cond_false, e1, Option.bind_some]
      · have q2 : eqI kd 2 = false := by rw [← Bool.not_eq_true, eqI_true]; exact k2
        by_cases k3 : kd = 3
        · obtain ⟨t1, w, e1, ht1, hw0, hw⟩ := made_Tape_Word_ok F hF ht
          obtain ⟨t2, v, e2, ht2, hv0, hv⟩ := made_Tape_Next_ok F ht1 (n := 56) (by omega)
          have hs2 : IntKind.u64.wrap (addI .i64 4 v) = 4 + v := by rw [addI_i64 (by omega), wrap_u64 (by omega)]
          have hsh : shrI .u64 w (4 + v) ≤ 1152921504606846975 := by
            obtain ⟨n, rfl⟩ := Int.eq_ofNat_of_zero_le hw0
            rw [shrI_nat (by omega)]
            simp only [IntKind.bits]
            have h4 : min (4 + v).toNat 64 = 4 + (min (4 + v).toNat 64 - 4) := by omega
            rw [h4, Nat.pow_add, ← Nat.div_div_eq_div_mul]
            have := Nat.div_le_self ((n : Int).toNat / 2 ^ 4) (2 ^ (min (4 + v).toNat 64 - 4))
            have h5 : (n : Int).toNat / 2 ^ 4 ≤ 1152921504606846975 := by
              have : Int.ofNat n = (n : Int) := rfl
              omega
            exact Int.le_trans (Int.ofNat_le.2 (Nat.le_trans this h5)) (by omega)
          have hsr := rng_shr (kd := .u64) (s := 4 + v) hw0
          refine fin t2 (addI .u64 1 (shrI .u64 w (4 + v))) ht2 ?_ fun R k => ?_
          · rw [addI_u64 (by omega)]; omega
          · conv => lhs; unfold made_Tape_Times_l6
            have q : eqI kd 3 = true := by rw [eqI_true]; exact k3
            have q0 : ltI (4 + v) 0 = false := by rw [← Bool.not_eq_true, ltI_true]; omega
            simp only [h0, hr, q1, q2, q, cond_true, cond_false, e1, e2, Option.bind_some, hs2, q0]
        · have q3 : eqI kd 3 = false := by rw [← Bool.not_eq_true, eqI_true]; exact k3
          by_cases k4 : kd = 4
          · have q : eqI kd 4 = true := by rw [eqI_true]; exact k4
            obtain ⟨t1, bb, e1, ht1⟩ := made_Tape_Bool_ok F ht (n := 4) (by omega)
            cases bb with
            | true =>
              obtain ⟨t2, w, e2, ht2, hw0, hw⟩ := made_Tape_Word_ok F hF ht1
              obtain ⟨t3, v, e3, ht3, hv0, hv⟩ := made_Tape_Next_ok F ht2 (n := 8) (by omega)
              have hs2 : IntKind.u64.wrap (addI .i64 1 v) = 1 + v := by rw [addI_i64 (by omega), wrap_u64 (by omega)]
              have hsh : shrI .u64 w (1 + v) ≤ 9223372036854775807 := by
                obtain ⟨n, rfl⟩ := Int.eq_ofNat_of_zero_le hw0
                rw [shrI_nat (by omega)]
                simp only [IntKind.bits]
                have h4 : min (1 + v).toNat 64 = 1 + (min (1 + v).toNat 64 - 1) := by omega
                rw [h4, Nat.pow_add, ← Nat.div_div_eq_div_mul]
                have := Nat.div_le_self ((n : Int).toNat / 2 ^ 1) (2 ^ (min (1 + v).toNat 64 - 1))
                have h5 : (n : Int).toNat / 2 ^ 1 ≤ 9223372036854775807 := by
                  have : Int.ofNat n = (n : Int) := rfl
                  omega
                exact Int.le_trans (Int.ofNat_le.2 (Nat.le_trans this h5)) (by omega)
              have hsr := rng_shr (kd := .u64) (s := 1 + v) hw0
              refine fin t3 (addI .u64 1 (shrI .u64 w (1 + v))) ht3 ?_ fun R k => ?_
              · rw [addI_u64 (by omega)]; omega
              · conv => lhs; unfold made_Tape_Times_l6
                have q0 : ltI (1 + v) 0 = false := by rw [← Bool.not_eq_true, ltI_true]; omega
                simp only [h0, hr, q1, q2, q3, q, cond_true, cond_false, e1, e2, e3, Option.bind_some, hs2, q0]
            | false =>
              refine fin t1 step ht1 (by omega) fun R k => ?_
              conv => lhs; unfold made_Tape_Times_l6
              simp only [h0, hr, q1, q2, q3, q, cond_true, cond_false, e1, Option.bind_some]
          · have q4 : eqI kd 4 = false := by rw [← Bool.not_eq_true, eqI_true]; exact k4
            refine fin t step ht (by omega) fun R k => ?_
            conv => lhs; unfold made_Tape_Times_l6
            simp only [h0, hr, q1, q2, q3, q4, cond_true, cond_false]
theorem made_Tape_Times_ok (F : Nat) (hF : Fuel F) {t : List Int × Int × Unit} (h : TapeOk t) {n : Int} (hn : 0 ≤ n ∧ n ≤ 100) :
    ∃ t' l, made_Tape_Times F t n = some (t', l, ()) ∧ TapeOk t' ∧ Sg l ∧ incB l = true ∧ (l.length : Int) ≤ n := by
  obtain ⟨t1, kd, e1, h1, _, _⟩ := made_Tape_Next_ok F h (n := 5) (by omega)
  obtain ⟨t2, at_, e2, h2, ha⟩ := made_Tape_Int_ok F hF h1
  obtain ⟨t3, s, e3, h3, hs0, hs⟩ := made_Tape_Next_ok F h2 (n := 50) (by omega)
  obtain ⟨t4, m, e4, h4, hm0, hm⟩ := made_Tape_Next_ok F h3 (n := n + 1) (by omega)
  obtain ⟨m, rfl⟩ := Int.eq_ofNat_of_zero_le hm0
  have hst : IntKind.u64.wrap (addI .i64 1 s) = 1 + s := by rw [addI_i64 (by omega), wrap_u64 (by omega)]
  obtain ⟨t5, l, g1, g2, g3, g4, g5⟩ := Times_loop F hF kd (step := 1 + s) (by omega) m t4 [] at_ h4 ⟨Sg.nil, ha, rfl⟩ (by simp; omega) F (by unfold Fuel at hF; omega)
  refine ⟨t5, l, ?_, g1, g2, g3, by simp at g4; omega⟩
  unfold made_Tape_Times
  have hn1 : addI .i64 n 1 = n + 1 := addI_i64 (by omega)
  simp only [e1, e2, e3, hn1, e4, hst, Option.bind_some]
  exact g5 _ _
end Go.Proofs.YtfmjokmjaghehaaGreat
