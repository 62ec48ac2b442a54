
/- Layer 10: stamps, the laws. -/
import Derived.Test.YtfmjokmjaghehaaStamps
set_option linter.unusedVariables false
set_option linter.unusedSimpArgs false
namespace Go.Proofs.Ytfmjokmjaghehaa
open Go.Eng

theorem Times_j (F : Nat) {R : Type} (kn : List Int × Int × Unit → List Int → Int → Int → Int → Int → Option R) (kr : List Int × Int × Unit → List Int → Option R) (t : List Int × Int × Unit) (l : List Int) (kd : Int) {at_ d : Int} (step i : Int) (ha : I64 at_) (hd : 1 ≤ d) :
    made_Tape_Times_j20 F kn kr t l kd at_ step i d = if 9223372036854775807 - at_ < d then kr t l else kn t l kd (at_ + d) step i := by
  unfold made_Tape_Times_j20
  have h1 : subI .u64 9223372036854775807 (IntKind.wrap .u64 at_) = 9223372036854775807 - at_ := by
    unfold I64 at ha
    show IntKind.u64.wrap _ = _
    rw [wrap_u64_mod, wrap_u64_mod]
    omega
  rw [h1]
  by_cases c : 9223372036854775807 - at_ < d
  · rw [if_pos c]
    simp (disch := omega) only [cond_true, cond_false, iteB, notf_true_iff, not_true_iff, ltI_true, leI_true, eqI_true, inI_true, cutB_true, roomB_true, makeB_true, lenI, ↓if_pos, ↓if_neg, addI_i64, subI_i64, mulI_i64, quoI_i64, remI_nn, minI_eq, maxI_eq, length_setL, length_replI, length_takeL, length_dropL, Option.bind_some, Bool.false_eq_true, if_false, if_true, not_false_eq_true, not_true_eq_false]
  · rw [if_neg c]
    have h2 := apply_eq ha (d := d) (by omega)
    rw [h2]
    simp (disch := omega) only [cond_true, cond_false, iteB, notf_true_iff, not_true_iff, ltI_true, leI_true, eqI_true, inI_true, cutB_true, roomB_true, makeB_true, lenI, ↓if_pos, ↓if_neg, addI_i64, subI_i64, mulI_i64, quoI_i64, remI_nn, minI_eq, maxI_eq, length_setL, length_replI, length_takeL, length_dropL, Option.bind_some, Bool.false_eq_true, if_false, if_true, not_false_eq_true, not_true_eq_false]

/-- the list so far, and what comes next -/
def TimesOk (l : List Int) (at_ : Int) : Prop := Sg l ∧ I64 at_ ∧ incB (l ++ [at_]) = true

theorem TimesOk.push {l : List Int} {at_ d : Int} (h : TimesOk l at_) (hd : 1 ≤ d) (hm : ¬ 9223372036854775807 - at_ < d) : TimesOk (l ++ [at_]) (at_ + d) := by
  obtain ⟨h1, h2, h3⟩ := h
  refine ⟨h1.append (Sg.cons h2 Sg.nil), by unfold I64 at h2 ⊢; omega, incB_snoc h3 (by omega)⟩

theorem Times_loop (F : Nat) (hF : Fuel F) (kd : Int) {step : Int} (hs : 1 ≤ step ∧ step ≤ 100) : ∀ (m : Nat) (t : List Int × Int × Unit) (l : List Int) (at_ : Int), TapeOk t → TimesOk l at_ → l.length + m ≤ 1000 →
    ∀ N, m < N → ∃ t' l', TapeOk t' ∧ Sg l' ∧ incB l' = true ∧ l'.length ≤ l.length + m ∧ ∀ (R : Type) (k : List Int × Int × Unit → List Int → Option R) , made_Tape_Times_l6 F k k N t l kd at_ step (m : Int) = k t' l' := by
  intro m
  induction m with
  | zero =>
    intro t l at_ ht hl hlen N hN
    obtain ⟨N, rfl⟩ : ∃ M, N = M + 1 := ⟨N - 1, by omega⟩
    refine ⟨t, l, ht, hl.1, incB_init hl.2.2, by omega, fun R k => ?_⟩
    unfold made_Tape_Times_l6
    simp (disch := omega) only [cond_true, cond_false, iteB, notf_true_iff, not_true_iff, ltI_true, leI_true, eqI_true, inI_true, cutB_true, roomB_true, makeB_true, lenI, ↓if_pos, ↓if_neg, addI_i64, subI_i64, mulI_i64, quoI_i64, remI_nn, minI_eq, maxI_eq, length_setL, length_replI, length_takeL, length_dropL, Option.bind_some, Bool.false_eq_true, if_false, if_true, not_false_eq_true, not_true_eq_false]
  | succ m ih =>
    intro t l at_ ht hl hlen N hN
    obtain ⟨N, rfl⟩ : ∃ M, N = M + 1 := ⟨N - 1, by omega⟩
    have hcast : ((m + 1 : Nat) : Int) = (m : Int) + 1 := by omega
    have hm1 : (m : Int) + 1 - 1 = (m : Int) := by omega
    have hlp : (l ++ [at_]).length = l.length + 1 := by simp
    -- what is common: a distance is put on
    have fin : ∀ (t1 : List Int × Int × Unit) (d : Int), TapeOk t1 → 1 ≤ d → (∀ (R : Type) (k : List Int × Int × Unit → List Int → Option R), made_Tape_Times_l6 F k k (N + 1) t l kd at_ step ((m : Int) + 1) =
        made_Tape_Times_j20 F (fun z20 z21 z22 z23 z24 z25 => made_Tape_Times_l6 F k k N z20 z21 z22 z23 z24 (subI .i64 z25 1)) (fun z27 z28 => k z27 z28) t1 (l ++ [at_]) kd at_ step ((m : Int) + 1) d) →
        ∃ t' l', TapeOk t' ∧ Sg l' ∧ incB l' = true ∧ l'.length ≤ l.length + (m + 1) ∧ ∀ (R : Type) (k : List Int × Int × Unit → List Int → Option R), made_Tape_Times_l6 F k k (N + 1) t l kd at_ step ((m + 1 : Nat) : Int) = k t' l' := by
      intro t1 d ht1 hd e
      by_cases c : 9223372036854775807 - at_ < d
      · refine ⟨t1, l ++ [at_], ht1, hl.1.append (Sg.cons hl.2.1 Sg.nil), hl.2.2, by omega, fun R k => ?_⟩
        rw [hcast, e R k, Times_j F _ _ t1 (l ++ [at_]) kd step _ hl.2.1 hd, if_pos c]
      · obtain ⟨t', l', g1, g2, g3, g4, g5⟩ := ih t1 (l ++ [at_]) (at_ + d) ht1 (hl.push hd c) (by omega) N (by omega)
        refine ⟨t', l', g1, g2, g3, by omega, fun R k => ?_⟩
        rw [hcast, e R k, Times_j F _ _ t1 (l ++ [at_]) kd step _ hl.2.1 hd, if_neg c, subI_i64 (by omega), hm1]
        exact g5 R k
    have hr : roomB (l.length + 1) 8 = true := by rw [roomB_true]; omega
    have h0 : ltI 0 ((m : Int) + 1) = true := by rw [ltI_true]; omega
    by_cases k1 : kd = 1
    · obtain ⟨t1, v, e1, ht1, hv0, hv⟩ := made_Tape_Next_ok F ht (n := 9) (by omega)
      refine fin t1 (IntKind.u64.wrap (addI .i64 1 v)) ht1 ?_ fun R k => ?_
      · rw [addI_i64 (by omega), wrap_u64 (by omega)]; omega
      · conv => lhs; unfold made_Tape_Times_l6
        have q : eqI kd 1 = true := by rw [eqI_true]; exact k1
        simp only [h0, hr, q, cond_true, e1, Option.bind_some]
    · have q1 : eqI kd 1 = false := by rw [← Bool.not_eq_true, eqI_true]; exact k1
      by_cases k2 : kd = 2
      · obtain ⟨t1, v, e1, ht1, hv0, hv⟩ := made_Tape_Next_ok F ht (n := 3) (by omega)
        refine fin t1 (addI .u64 step (IntKind.u64.wrap v)) ht1 ?_ fun R k => ?_
        · rw [wrap_u64 (by omega), addI_u64 (by omega)]; omega
        · conv => lhs; unfold made_Tape_Times_l6
          have q : eqI kd 2 = true := by rw [eqI_true]; exact k2
          simp only [h0, hr, q1, q, cond_true, cond_false, e1, Option.bind_some]
      · have q2 : eqI kd 2 = false := by rw [← Bool.not_eq_true, eqI_true]; exact k2
        by_cases k3 : kd = 3
        · obtain ⟨t1, w, e1, ht1, hw0, hw⟩ := made_Tape_Word_ok F hF ht
          obtain ⟨t2, v, e2, ht2, hv0, hv⟩ := made_Tape_Next_ok F ht1 (n := 56) (by omega)
          have hs2 : IntKind.u64.wrap (addI .i64 4 v) = 4 + v := by rw [addI_i64 (by omega), wrap_u64 (by omega)]
          have hsh : shrI .u64 w (4 + v) ≤ 1152921504606846975 := by
            obtain ⟨n, rfl⟩ := Int.eq_ofNat_of_zero_le hw0
            rw [shrI_nat (by omega)]
            simp only [IntKind.bits]
            have h4 : min (4 + v).toNat 64 = 4 + (min (4 + v).toNat 64 - 4) := by omega
            rw [h4, Nat.pow_add, ← Nat.div_div_eq_div_mul]
            have := Nat.div_le_self ((n : Int).toNat / 2 ^ 4) (2 ^ (min (4 + v).toNat 64 - 4))
            have h5 : (n : Int).toNat / 2 ^ 4 ≤ 1152921504606846975 := by
              have : Int.ofNat n = (n : Int) := rfl
              omega
            exact Int.le_trans (Int.ofNat_le.2 (Nat.le_trans this h5)) (by omega)
          have hsr := rng_shr (kd := .u64) (s := 4 + v) hw0
          refine fin t2 (addI .u64 1 (shrI .u64 w (4 + v))) ht2 ?_ fun R k => ?_
          · rw [addI_u64 (by omega)]; omega
          · conv => lhs; unfold made_Tape_Times_l6
            have q : eqI kd 3 = true := by rw [eqI_true]; exact k3
            have q0 : ltI (4 + v) 0 = false := by rw [← Bool.not_eq_true, ltI_true]; omega
            simp only [h0, hr, q1, q2, q, cond_true, cond_false, e1, e2, Option.bind_some, hs2, q0]
        · have q3 : eqI kd 3 = false := by rw [← Bool.not_eq_true, eqI_true]; exact k3
          by_cases k4 : kd = 4
          · have q : eqI kd 4 = true := by rw [eqI_true]; exact k4
            obtain ⟨t1, bb, e1, ht1⟩ := made_Tape_Bool_ok F ht (n := 4) (by omega)
            cases bb with
            | true =>
              obtain ⟨t2, w, e2, ht2, hw0, hw⟩ := made_Tape_Word_ok F hF ht1
              obtain ⟨t3, v, e3, ht3, hv0, hv⟩ := made_Tape_Next_ok F ht2 (n := 8) (by omega)
              have hs2 : IntKind.u64.wrap (addI .i64 1 v) = 1 + v := by rw [addI_i64 (by omega), wrap_u64 (by omega)]
              have hsh : shrI .u64 w (1 + v) ≤ 9223372036854775807 := by
                obtain ⟨n, rfl⟩ := Int.eq_ofNat_of_zero_le hw0
                rw [shrI_nat (by omega)]
                simp only [IntKind.bits]
                have h4 : min (1 + v).toNat 64 = 1 + (min (1 + v).toNat 64 - 1) := by omega
                rw [h4, Nat.pow_add, ← Nat.div_div_eq_div_mul]
                have := Nat.div_le_self ((n : Int).toNat / 2 ^ 1) (2 ^ (min (1 + v).toNat 64 - 1))
                have h5 : (n : Int).toNat / 2 ^ 1 ≤ 9223372036854775807 := by
                  have : Int.ofNat n = (n : Int) := rfl
                  omega
                exact Int.le_trans (Int.ofNat_le.2 (Nat.le_trans this h5)) (by omega)
              have hsr := rng_shr (kd := .u64) (s := 1 + v) hw0
              refine fin t3 (addI .u64 1 (shrI .u64 w (1 + v))) ht3 ?_ fun R k => ?_
              · rw [addI_u64 (by omega)]; omega
              · conv => lhs; unfold made_Tape_Times_l6
                have q0 : ltI (1 + v) 0 = false := by rw [← Bool.not_eq_true, ltI_true]; omega
                simp only [h0, hr, q1, q2, q3, q, cond_true, cond_false, e1, e2, e3, Option.bind_some, hs2, q0]
            | false =>
              refine fin t1 step ht1 (by omega) fun R k => ?_
              conv => lhs; unfold made_Tape_Times_l6
              simp only [h0, hr, q1, q2, q3, q, cond_true, cond_false, e1, Option.bind_some]
          · have q4 : eqI kd 4 = false := by rw [← Bool.not_eq_true, eqI_true]; exact k4
            refine fin t step ht (by omega) fun R k => ?_
            conv => lhs; unfold made_Tape_Times_l6
            simp only [h0, hr, q1, q2, q3, q4, cond_true, cond_false]

theorem made_Tape_Times_ok (F : Nat) (hF : Fuel F) {t : List Int × Int × Unit} (h : TapeOk t) {n : Int} (hn : 0 ≤ n ∧ n ≤ 100) :
    ∃ t' l, made_Tape_Times F t n = some (t', l, ()) ∧ TapeOk t' ∧ Sg l ∧ incB l = true ∧ (l.length : Int) ≤ n := by
  obtain ⟨t1, kd, e1, h1, _, _⟩ := made_Tape_Next_ok F h (n := 5) (by omega)
  obtain ⟨t2, at_, e2, h2, ha⟩ := made_Tape_Int_ok F hF h1
  obtain ⟨t3, s, e3, h3, hs0, hs⟩ := made_Tape_Next_ok F h2 (n := 50) (by omega)
  obtain ⟨t4, m, e4, h4, hm0, hm⟩ := made_Tape_Next_ok F h3 (n := n + 1) (by omega)
  obtain ⟨m, rfl⟩ := Int.eq_ofNat_of_zero_le hm0
  have hst : IntKind.u64.wrap (addI .i64 1 s) = 1 + s := by rw [addI_i64 (by omega), wrap_u64 (by omega)]
  obtain ⟨t5, l, g1, g2, g3, g4, g5⟩ := Times_loop F hF kd (step := 1 + s) (by omega) m t4 [] at_ h4 ⟨Sg.nil, ha, rfl⟩ (by simp; omega) F (by unfold Fuel at hF; omega)
  refine ⟨t5, l, ?_, g1, g2, g3, by simp at g4; omega⟩
  unfold made_Tape_Times
  have hn1 : addI .i64 n 1 = n + 1 := addI_i64 (by omega)
  simp only [e1, e2, e3, hn1, e4, hst, Option.bind_some]
  exact g5 _ _

theorem law10_known_true (F : Nat) (hF : Fuel F) : law10_known F = some (true, ()) := by
  unfold Fuel at hF
  obtain ⟨G, rfl⟩ : ∃ G, F = G + 100 := ⟨F - 100, by omega⟩
  kernel_rfl

theorem Same10_loop (F : Nat) {R : Type} (k0 : Option R) (kr : Bool → Option R) {a b : List Int} (hl : a.length = b.length) (hb : (a.length : Int) ≤ 9223372036854775806) : ∀ (m i : Nat), i + m = a.length → ∀ N, m < N →
    ref10_Same_l4 F k0 kr N a b i = if a.drop i = b.drop i then k0 else kr false := by
  intro m
  induction m with
  | zero =>
    intro i hi N hN
    obtain ⟨N, rfl⟩ : ∃ M, N = M + 1 := ⟨N - 1, by omega⟩
    rw [if_pos (by rw [List.drop_eq_nil_of_le (by omega), List.drop_eq_nil_of_le (by omega)])]
    unfold ref10_Same_l4
    simp (disch := omega) only [cond_true, cond_false, iteB, notf_true_iff, not_true_iff, ltI_true, leI_true, eqI_true, inI_true, cutB_true, roomB_true, makeB_true, lenI, ↓if_pos, ↓if_neg, addI_i64, subI_i64, mulI_i64, quoI_i64, remI_nn, minI_eq, maxI_eq, length_setL, length_replI, length_takeL, length_dropL, Option.bind_some, Bool.false_eq_true, if_false, if_true, not_false_eq_true, not_true_eq_false]
  | succ m ih =>
    intro i hi N hN
    obtain ⟨N, rfl⟩ : ∃ M, N = M + 1 := ⟨N - 1, by omega⟩
    have h1 := ih (i + 1) (by omega) N (by omega)
    have ea := getL_Sg_split (l := a) (j := i) (by omega)
    have eb := getL_Sg_split (l := b) (j := i) (by omega)
    unfold ref10_Same_l4
    by_cases hc : getL 0 a (i : Int) = getL 0 b (i : Int)
    · simp (disch := omega) only [cond_true, cond_false, iteB, notf_true_iff, not_true_iff, ltI_true, leI_true, eqI_true, inI_true, cutB_true, roomB_true, makeB_true, lenI, ↓if_pos, ↓if_neg, addI_i64, subI_i64, mulI_i64, quoI_i64, remI_nn, minI_eq, maxI_eq, length_setL, length_replI, length_takeL, length_dropL, Option.bind_some, Bool.false_eq_true, if_false, if_true, not_false_eq_true, not_true_eq_false]
      refine Eq.trans h1 ?_
      rw [ea, eb, hc]
      simp
    · simp (disch := omega) only [cond_true, cond_false, iteB, notf_true_iff, not_true_iff, ltI_true, leI_true, eqI_true, inI_true, cutB_true, roomB_true, makeB_true, lenI, ↓if_pos, ↓if_neg, addI_i64, subI_i64, mulI_i64, quoI_i64, remI_nn, minI_eq, maxI_eq, length_setL, length_replI, length_takeL, length_dropL, Option.bind_some, Bool.false_eq_true, if_false, if_true, not_false_eq_true, not_true_eq_false]
      rw [ea, eb, if_neg]
      intro h
      exact hc (by simpa using (List.cons.inj h).1)

theorem ref10_Same_eq (F : Nat) (hF : Fuel F) {a b : List Int} (hb : (a.length : Int) ≤ 140737488355328) : ref10_Same F a b = some (decide (a = b), ()) := by
  unfold Fuel at hF
  unfold ref10_Same
  by_cases hl : a.length = b.length
  · simp (disch := omega) only [cond_true, cond_false, iteB, notf_true_iff, not_true_iff, ltI_true, leI_true, eqI_true, inI_true, cutB_true, roomB_true, makeB_true, lenI, ↓if_pos, ↓if_neg, addI_i64, subI_i64, mulI_i64, quoI_i64, remI_nn, minI_eq, maxI_eq, length_setL, length_replI, length_takeL, length_dropL, Option.bind_some, Bool.false_eq_true, if_false, if_true, not_false_eq_true, not_true_eq_false]
    refine Eq.trans (Same10_loop F _ _ hl (by omega) a.length 0 (by omega) F (by omega)) ?_
    simp only [List.drop_zero]
    by_cases h : a = b
    · simp [h]
    · simp [h]
  · simp (disch := omega) only [cond_true, cond_false, iteB, notf_true_iff, not_true_iff, ltI_true, leI_true, eqI_true, inI_true, cutB_true, roomB_true, makeB_true, lenI, ↓if_pos, ↓if_neg, addI_i64, subI_i64, mulI_i64, quoI_i64, remI_nn, minI_eq, maxI_eq, length_setL, length_replI, length_takeL, length_dropL, Option.bind_some, Bool.false_eq_true, if_false, if_true, not_false_eq_true, not_true_eq_false]
    have : a ≠ b := fun h => hl (by rw [h])
    simp [this]

theorem sE_small {l : List Int} (hl : Sg l) : (sE l).1.length ≤ 524290 ∧ Bt (sE l).1 := by
  unfold sE
  split
  · exact ⟨by simp, Bt.nil⟩
  · split
    · rename_i h1 h2
      exact ⟨nE_small (dl_Wd hl (incB_Inc h2)) (by rw [dl_length]; omega), nE_bt (dl_Wd hl (incB_Inc h2))⟩
    · exact ⟨by simp, Bt.nil⟩

theorem sE_ok {l : List Int} (hi : incB l = true) (hn : l.length ≤ 65536) : sE l = (nE (dl l), 0) := by
  unfold sE
  rw [if_neg (by omega), if_pos hi]

theorem StampsForms_step (F : Nat) (hF : Fuel F) {R : Type} (k0 : Option R) (kret : Bool → Option R) {l : List Int} (hl : Sg l) (hb : (l.length : Int) ≤ 140737488355328) {ls : List (List Int)} {i : Nat} (hi : i < ls.length) (hi2 : i < 3) (hg : getL [] ls (i : Int) = l) (N : Nat) :
    law10_StampsForms_l8 F k0 kret (N + 1) ls (i : Int) = law10_StampsForms_l8 F k0 kret N ls ((i : Int) + 1) := by
  have h1 := stamps_Encode_eq F hF hl hb
  have h2 := ref10_Encode_eq F hF hl hb
  have hsm := sE_small hl
  have hs := ref06_Same_eq F hF (a := (sE l).1) (b := (sE l).1) (by omega)
  rw [decide_eq_true rfl] at hs
  have i1 := stamps_Increasing_eq F hF hb
  have i2 := ref10_Increasing_eq F hF hb
  generalize hR : law10_StampsForms_l8 F k0 kret N ls ((i : Int) + 1) = RR
  unfold law10_StampsForms_l8
  have he : eqT .bool (incB l) (incB l) = true := by cases incB l <;> rfl
  simp (disch := omega) only [cond_true, cond_false, iteB, notf_true_iff, not_true_iff, ltI_true, leI_true, eqI_true, inI_true, cutB_true, roomB_true, makeB_true, lenI, ↓if_pos, ↓if_neg, addI_i64, subI_i64, mulI_i64, quoI_i64, remI_nn, minI_eq, maxI_eq, length_setL, length_replI, length_takeL, length_dropL, Option.bind_some, Bool.false_eq_true, if_false, if_true, not_false_eq_true, not_true_eq_false, hg, h1, h2, hs, i1, i2, he]
  exact hR

/-- The law StampsForms. -/
theorem StampsForms_true (F : Nat) (hF : Fuel F) {l t : List Int} (hl : Sg l) (hb : (l.length : Int) ≤ 140737488351232) (ht : ∀ x ∈ t, I64 x) (htl : (t.length : Int) ≤ 140737488355328) : law10_StampsForms F l t = some (true, ()) := by
  obtain ⟨t0, e0, h0⟩ := made_New_ok F htl ht
  obtain ⟨t1, m, e1, h1, hm, hmi, hml⟩ := made_Tape_Times_ok F hF h0 (n := 30) (by omega)
  obtain ⟨G, hG⟩ : ∃ G, F = G + 1 + 1 + 1 + 1 := ⟨F - 4, by unfold Fuel at hF; omega⟩
  have fin : ∀ (x : List Int), Sg x → (x.length : Int) ≤ 1000 → ∀ (R : Type) (k0 : Option R) (kret : Bool → Option R), law10_StampsForms_l8 F k0 kret F [l, m, x] 0 = k0 := by
    intro x hx hxl R k0 kret
    have s0 := fun N => StampsForms_step F hF k0 kret hl (by omega) (ls := [l, m, x]) (i := 0) (by simp) (by omega) rfl N
    have s1 := fun N => StampsForms_step F hF k0 kret hm (by omega) (ls := [l, m, x]) (i := 1) (by simp) (by omega) rfl N
    have s2 := fun N => StampsForms_step F hF k0 kret hx (by omega) (ls := [l, m, x]) (i := 2) (by simp) (by omega) rfl N
    have s3 : ∀ N, law10_StampsForms_l8 F k0 kret (N + 1) [l, m, x] 3 = k0 := by
      intro N
      unfold law10_StampsForms_l8
      simp (disch := omega) only [cond_true, cond_false, iteB, notf_true_iff, not_true_iff, ltI_true, leI_true, eqI_true, inI_true, cutB_true, roomB_true, makeB_true, lenI, ↓if_pos, ↓if_neg, addI_i64, subI_i64, mulI_i64, quoI_i64, remI_nn, minI_eq, maxI_eq, length_setL, length_replI, length_takeL, length_dropL, Option.bind_some, Bool.false_eq_true, if_false, if_true, not_false_eq_true, not_true_eq_false]
    have h := ((s0 (G + 1 + 1 + 1)).trans ((s1 (G + 1 + 1)).trans ((s2 (G + 1)).trans (s3 G))))
    rw [← hG] at h
    exact h
  have finj : ∀ (x : List Int), Sg x → (x.length : Int) ≤ 1000 → law10_StampsForms_j6 F (fun z => some (z, ())) l m x = some (true, ()) := by
    intro x hx hxl
    unfold law10_StampsForms_j6
    rw [fin x hx hxl]
    simp only [law10_known_true F hF, Option.bind_some]
  have hA : ([] ++ m : List Int) = m := rfl
  unfold law10_StampsForms
  simp only [e0, e1, Option.bind_some, hA]
  have r1 : roomB (0 + m.length) 8 = true := by rw [roomB_true]; omega
  rw [r1, cond_true]
  by_cases c : 1 < m.length
  · obtain ⟨t2, v, e2, h2, hv0, hv⟩ := made_Tape_Next_ok F h1 (n := lenI m) (by unfold lenI; omega)
    obtain ⟨t3, w, e3, h3, hw0, hw⟩ := made_Tape_Next_ok F h2 (n := 5) (by omega)
    unfold lenI at hv
    have c1 : ltI 1 (lenI m) = true := by rw [ltI_true]; unfold lenI; omega
    have c2 : inI v m.length = true := by rw [inI_true]; omega
    simp only [c1, cond_true, e2, Option.bind_some, c2, e3]
    exact finj _ (by
      intro y hy
      rcases List.mem_or_eq_of_mem_set hy with h5 | h5
      · exact hm y h5
      · rw [h5]; exact rng_wrap_i64 _) (by rw [length_setL]; omega)
  · have c1 : ltI 1 (lenI m) = false := by rw [← Bool.not_eq_true, ltI_true]; unfold lenI; omega
    simp only [c1, cond_false]
    exact finj m hm (by omega)

theorem StampsBack_core (F : Nat) (hF : Fuel F) {b rest : List Int} (hb : Bt b) (hbl : (b.length : Int) ≤ 1048576) (hr : Bt rest) (hrl : (rest.length : Int) ≤ 1048576) {p : Int} {l : List Int} (hl : Sg (p :: l)) (hi : incB (p :: l) = true) (hn : l.length ≤ 1000) :
    law10_StampsBack_j4 F (fun z => some (z, ())) b rest (p :: l) = some (true, ()) := by
  have hlen : (p :: l).length = l.length + 1 := rfl
  have e2 := stamps_Encode_eq F hF hl (by omega)
  rw [sE_ok hi (by omega)] at e2
  have hs := nE_small (dl_Wd hl (incB_Inc hi)) (by rw [dl_length]; omega)
  have hal : (b ++ (nE (dl (p :: l)) ++ rest)).length = b.length + ((nE (dl (p :: l))).length + rest.length) := by simp
  have e3 := sDecode_back F hF hl hi (by omega) hb hr (by omega)
  have e4 := ref10_Same_eq F hF (a := p :: l) (b := p :: l) (by omega)
  rw [decide_eq_true rfl] at e4
  have hA : ([] ++ b : List Int) = b := rfl
  have g0 : getL 0 (p :: l) 0 = p := rfl
  have c0 : inI 0 (p :: l).length = true := by rw [inI_true]; omega
  unfold law10_StampsBack_j4
  simp only [e2, Option.bind_some, hA, List.append_assoc]
  generalize nE (dl (p :: l)) = c at *
  have c1 : roomB (0 + b.length) 1 = true := by rw [roomB_true]; omega
  have c2 : roomB (b.length + c.length) 1 = true := by rw [roomB_true]; omega
  have c3 : roomB ((b ++ c).length + rest.length) 1 = true := by rw [roomB_true]; simp; omega
  have c4 : eqI ((b.length : Int) + c.length) (addI .i64 (b.length : Int) (lenI c)) = true := by
    rw [eqI_true]
    show _ = IntKind.wrap .i64 _
    rw [wrap_i64 (by unfold lenI; omega)]
    rfl
  simp only [c1, c2, c3, c0, g0, cond_true, show lenI b = (b.length : Int) from rfl, show lenI (p :: l) = ((p :: l).length : Int) from rfl, e3, Option.bind_some, law10_known_true F hF, show eqI (0 : Int) 0 = true from rfl, c4, e4]

/-- The law StampsBack. -/
theorem StampsBack_true (F : Nat) (hF : Fuel F) {b rest t : List Int} (hb : Bt b) (hbl : (b.length : Int) ≤ 1048576) (hr : Bt rest) (hrl : (rest.length : Int) ≤ 1048576) (ht : ∀ x ∈ t, I64 x) (htl : (t.length : Int) ≤ 140737488355328) :
    law10_StampsBack F t b rest = some (true, ()) := by
  obtain ⟨t0, e0, h0⟩ := made_New_ok F htl ht
  obtain ⟨t1, l, e1, h1, hl, hi, hll⟩ := made_Tape_Times_ok F hF h0 (n := 30) (by omega)
  unfold law10_StampsBack
  simp only [e0, e1, Option.bind_some]
  match l, hl, hi, hll with
  | [], _, _, _ =>
    have c : eqI (lenI ([] : List Int)) 0 = true := rfl
    simp only [c, cond_true]
    exact StampsBack_core F hF hb hbl hr hrl (p := 7) (l := []) (Sg.cons (by unfold I64; omega) Sg.nil) rfl (by simp)
  | p :: l, hl, hi, hll =>
    have c : eqI (lenI (p :: l)) 0 = false := by rw [← Bool.not_eq_true, eqI_true]; unfold lenI; simp; omega
    simp only [c, cond_false]
    exact StampsBack_core F hF hb hbl hr hrl hl hi (by simp at hll; omega)

theorem StampsCanonical_step (F : Nat) (hF : Fuel F) {R : Type} (k0 : Option R) (kret : Bool → Option R) {b : List Int} (hb : Bt b) (hbl : (b.length : Int) ≤ 140737488355328) {first : Int} (hf : I64 first) {ls : List (List Int)} {ns : List Int} {i : Nat} (hi : i < ls.length) (hi2 : i < ns.length) (hil : (ls.length : Int) ≤ 1000) (hg : getL [] ls (i : Int) = b) (N : Nat) :
    law10_StampsCanonical_l8 F k0 kret (N + 1) first ls ns (i : Int) = law10_StampsCanonical_l8 F k0 kret N first ls ns ((i : Int) + 1) := by
  obtain ⟨x, end_, e, h1, _, hx, h3, h4⟩ := sDecode F hF hb hbl 0 hf (getL 0 ns (i : Int))
  generalize hR : law10_StampsCanonical_l8 F k0 kret N first ls ns ((i : Int) + 1) = RR
  unfold law10_StampsCanonical_l8
  have x1 : ltI (i : Int) (lenI ls) = true := by rw [ltI_true]; unfold lenI; omega
  have x2 : inI (i : Int) ls.length = true := by rw [inI_true]; omega
  have x3 : inI (i : Int) ns.length = true := by rw [inI_true]; omega
  have xa : addI .i64 (i : Int) 1 = (i : Int) + 1 := addI_i64 (by omega)
  by_cases c : e = 0
  · obtain ⟨_, g2, g3, g4, g5, g6, g7, g8, g9⟩ := h3 c
    rw [cut_zero] at g9
    have e2 := stamps_Encode_eq F hF hx (by omega)
    rw [sE_ok g7 (by omega)] at e2
    have hs := nE_small (dl_Wd hx (incB_Inc g7)) (by rw [dl_length]; omega)
    have e3 := ref06_Same_eq F hF (a := nE (dl x)) (b := takeL b end_) (by omega)
    rw [decide_eq_true g9] at e3
    have e4 := stamps_Increasing_eq F hF (l := x) (by omega)
    rw [g7] at e4
    have x4 : eqI e 0 = true := by rw [eqI_true]; exact c
    have x5 : ltI (lenI b) end_ = false := by rw [← Bool.not_eq_true, ltI_true]; unfold lenI; omega
    have x6 : cutB 0 end_ b.length = true := by rw [cutB_true]; omega
    have x7 : eqI (lenI x) (getL 0 ns (i : Int)) = true := by rw [eqI_true]; exact g2
    have x8 : inI 0 x.length = true := by rw [inI_true]; omega
    have x9 : eqI first first = true := by rw [eqI_true]
    simp only [x1, x2, x3, cond_true, hg, h1, Option.bind_some, x4, Bool.not_true, cond_false, e2, show eqI (0 : Int) 0 = true from rfl, x5, x6, e3, x7, x8, g8, x9, e4, xa]
    exact hR
  · have x4 : eqI e 0 = false := by rw [← Bool.not_eq_true, eqI_true]; exact c
    simp only [x1, x2, x3, cond_true, hg, h1, Option.bind_some, x4, Bool.not_false, xa]
    exact hR

/-- The law StampsCanonical. -/
theorem StampsCanonical_true (F : Nat) (hF : Fuel F) {b t : List Int} {first n : Int} (hb : Bt b) (hbl : (b.length : Int) ≤ 140737488351232) (hf : I64 first) (hn : I64 n) (ht : ∀ x ∈ t, I64 x) (htl : (t.length : Int) ≤ 140737488355328) :
    law10_StampsCanonical F b first n t = some (true, ()) := by
  obtain ⟨t0, e0, h0⟩ := made_New_ok F htl ht
  obtain ⟨t1, l, e1, h1, hl, hi, hll⟩ := made_Tape_Times_ok F hF h0 (n := 20) (by omega)
  have e2 := stamps_Encode_eq F hF hl (by omega)
  rw [sE_ok hi (by omega)] at e2
  have hB := nE_bt (dl_Wd hl (incB_Inc hi))
  have hs := nE_small (dl_Wd hl (incB_Inc hi)) (by rw [dl_length]; omega)
  obtain ⟨m, e3, hm0, hm⟩ := made_Mod_any F hn (y := 12) (by omega)
  generalize nE (dl l) = d at *
  obtain ⟨t2, c, e4, h2, hc, hcl⟩ := made_Tape_Spoiled_ok F h1 hB (by omega)
  have b1 : Bt ([0] ++ b) := Bt.append (Bt.one (by omega)) hb
  have l1 : ([0] ++ b : List Int).length = b.length + 1 := by simp
  obtain ⟨x1, hx1⟩ : ∃ x, x = ([0] ++ b : List Int) := ⟨_, rfl⟩
  rw [← hx1] at b1 l1
  obtain ⟨G, hG⟩ : ∃ G, F = G + 1 + 1 + 1 + 1 + 1 := ⟨F - 5, by unfold Fuel at hF; omega⟩
  have fin : ∀ (R : Type) (k0 : Option R) (kret : Bool → Option R) (ns : List Int), ns.length = 4 → law10_StampsCanonical_l8 F k0 kret F first [b, x1, c, d] ns 0 = k0 := by
    intro R k0 kret ns hns
    have s0 := fun N => StampsCanonical_step F hF k0 kret hb (by omega) hf (ls := [b, x1, c, d]) (ns := ns) (i := 0) (by simp) (by omega) (by simp) rfl N
    have s1 := fun N => StampsCanonical_step F hF k0 kret b1 (by omega) hf (ls := [b, x1, c, d]) (ns := ns) (i := 1) (by simp) (by omega) (by simp) rfl N
    have s2 := fun N => StampsCanonical_step F hF k0 kret hc (by omega) hf (ls := [b, x1, c, d]) (ns := ns) (i := 2) (by simp) (by omega) (by simp) rfl N
    have s3 := fun N => StampsCanonical_step F hF k0 kret hB (by omega) hf (ls := [b, x1, c, d]) (ns := ns) (i := 3) (by simp) (by omega) (by simp) rfl N
    have s4 : ∀ N, law10_StampsCanonical_l8 F k0 kret (N + 1) first [b, x1, c, d] ns 4 = k0 := by
      intro N
      unfold law10_StampsCanonical_l8
      have : ([b, x1, c, d] : List (List Int)).length = 4 := rfl
      simp (disch := omega) only [cond_true, cond_false, iteB, notf_true_iff, not_true_iff, ltI_true, leI_true, eqI_true, inI_true, cutB_true, roomB_true, makeB_true, lenI, ↓if_pos, ↓if_neg, addI_i64, subI_i64, mulI_i64, quoI_i64, remI_nn, minI_eq, maxI_eq, length_setL, length_replI, length_takeL, length_dropL, Option.bind_some, Bool.false_eq_true, if_false, if_true, not_false_eq_true, not_true_eq_false, this]
    have h := ((s0 (G + 1 + 1 + 1 + 1)).trans ((s1 (G + 1 + 1 + 1)).trans ((s2 (G + 1 + 1)).trans ((s3 (G + 1)).trans (s4 G)))))
    rw [← hG] at h
    exact h
  have r1 : roomB (1 + b.length) 1 = true := by rw [roomB_true]; omega
  unfold law10_StampsCanonical
  simp only [e0, e1, e2, e3, e4, Option.bind_some, r1, cond_true, law10_known_true F hF, ← hx1]
  exact fin _ _ _ _ rfl

/- times at equal distances -/
def regs (p d : Int) : Nat → List Int
  | 0 => []
  | n + 1 => p :: regs (p + d) d n
theorem regs_length (p d : Int) : ∀ n : Nat, (regs p d n).length = n
  | 0 => rfl
  | n + 1 => by simp [regs, regs_length (p + d) d n]
theorem regs_snoc (d : Int) : ∀ (n : Nat) (p : Int), regs p d n ++ [p + d * n] = regs p d (n + 1)
  | 0, p => by simp [regs]
  | n + 1, p => by
    have := regs_snoc d n (p + d)
    rw [regs, List.cons_append, show p + d * ((n + 1 : Nat) : Int) = p + d + d * (n : Int) by rw [Int.natCast_add, Int.mul_add]; omega, this]
    rfl
theorem regs_get (d : Int) : ∀ (n i : Nat) (p : Int), i < n → getL 0 (regs p d n) (i : Int) = p + d * i
  | 0, i, p, h => by omega
  | n + 1, 0, p, h => by simp [getL, regs]
  | n + 1, i + 1, p, h => by
    have := regs_get d n i (p + d) (by omega)
    rw [getL_nat] at this ⊢
    rw [regs, List.getD_cons_succ, this, Int.natCast_add, Int.mul_add]
    omega
theorem regs_Sg {d : Int} (hd : 0 ≤ d) : ∀ (n : Nat) (p : Int), I64 p → p + d * n ≤ 9223372036854775807 → Sg (regs p d n)
  | 0, _, _, _ => Sg.nil
  | n + 1, p, hp, h => by
    have h1 : d * ((n + 1 : Nat) : Int) = d * n + d := by rw [Int.natCast_add, Int.mul_add]; omega
    have h2 : 0 ≤ d * (n : Int) := Int.mul_nonneg hd (by omega)
    rw [h1] at h
    unfold I64 at hp
    exact Sg.cons hp (regs_Sg hd n (p + d) (by unfold I64; omega) (by omega))
theorem regs_incB {d : Int} (hd : 0 < d) : ∀ (n : Nat) (p : Int), incB (regs p d n) = true
  | 0, _ => rfl
  | 1, _ => rfl
  | n + 2, p => by
    simp only [regs, incB, Bool.and_eq_true, decide_eq_true_eq]
    exact ⟨by omega, regs_incB hd (n + 1) (p + d)⟩
theorem regs_dls {d : Int} : ∀ (n : Nat) (p : Int), dls p d (regs (p + d) d n) = List.replicate n 0
  | 0, _ => rfl
  | n + 1, p => by
    simp only [regs, dls, List.replicate_succ]
    rw [show p + d - p = d by omega, show d - d = 0 by omega, regs_dls n (p + d)]
    rfl
theorem regs_dl {d : Int} (n : Nat) (p : Int) : dl (regs p d (n + 2)) = (d - 1) :: List.replicate n 0 := by
  simp only [regs, dl]
  rw [show p + d - p = d by omega, regs_dls]
theorem encs_zeros : ∀ n : Nat, (encs (List.replicate n 0)).length = n
  | 0 => rfl
  | n + 1 => by
    simp only [List.replicate_succ, encs, List.length_append, encs_zeros n]
    rw [show (0 : Int).toNat = 0 from rfl, enc_small (by omega)]
    simp; omega

theorem Regular_loop (F : Nat) {R : Type} (k : Int → List Int → Option R) {p d : Int} (hd : 0 ≤ d ∧ d ≤ 4294967295) (hp : I64 p) (hpm : p ≤ 4611686018427387904) {n : Nat} (hn : n ≤ 200) : ∀ (m i : Nat), 1 ≤ i → i + m = n → ∀ N, m < N →
    law10_StampsRegular_l6 F k N d (n : Int) (regs p (d + 1) i) (i : Int) = k (n : Int) (regs p (d + 1) n) := by
  intro m
  induction m with
  | zero =>
    intro i h1 hi N hN
    obtain ⟨N, rfl⟩ : ∃ M, N = M + 1 := ⟨N - 1, by omega⟩
    have : i = n := by omega
    subst this
    unfold law10_StampsRegular_l6
    simp (disch := omega) only [cond_true, cond_false, iteB, notf_true_iff, not_true_iff, ltI_true, leI_true, eqI_true, inI_true, cutB_true, roomB_true, makeB_true, lenI, ↓if_pos, ↓if_neg, addI_i64, subI_i64, mulI_i64, quoI_i64, remI_nn, minI_eq, maxI_eq, length_setL, length_replI, length_takeL, length_dropL, Option.bind_some, Bool.false_eq_true, if_false, if_true, not_false_eq_true, not_true_eq_false]
  | succ m ih =>
    intro i h1 hi N hN
    obtain ⟨N, rfl⟩ : ∃ M, N = M + 1 := ⟨N - 1, by omega⟩
    have e := ih (i + 1) (by omega) (by omega) N (by omega)
    obtain ⟨j, rfl⟩ : ∃ j, i = j + 1 := ⟨i - 1, by omega⟩
    have hg := regs_get (d + 1) (j + 1) j p (by omega)
    have hlen := regs_length p (d + 1) (j + 1)
    have hmul : 0 ≤ (d + 1) * (j : Int) ∧ (d + 1) * (j : Int) ≤ 4294967296 * 200 := ⟨Int.mul_nonneg (by omega) (by omega), Int.mul_le_mul (by omega) (by omega) (by omega) (by omega)⟩
    have hsn := regs_snoc (d + 1) (j + 1) p
    rw [show (d + 1) * ((j + 1 : Nat) : Int) = (d + 1) * (j : Int) + (d + 1) by rw [Int.natCast_add, Int.mul_add]; omega] at hsn
    rw [← hsn] at e
    simp only [Int.natCast_add, Int.natCast_one] at e
    have hj1 : (j : Int) + 1 - 1 = (j : Int) := by omega
    unfold I64 at hp
    unfold law10_StampsRegular_l6
    generalize (d + 1) * (j : Int) = z at *
    generalize regs p (d + 1) (j + 1) = l at *
    have hw : IntKind.i64.wrap d = d := wrap_i64 (by omega)
    simp only [Int.natCast_add, Int.natCast_one]
    simp (disch := omega) only [cond_true, cond_false, iteB, notf_true_iff, not_true_iff, ltI_true, leI_true, eqI_true, inI_true, cutB_true, roomB_true, makeB_true, lenI, ↓if_pos, ↓if_neg, addI_i64, subI_i64, mulI_i64, quoI_i64, remI_nn, minI_eq, maxI_eq, length_setL, length_replI, length_takeL, length_dropL, Option.bind_some, Bool.false_eq_true, if_false, if_true, not_false_eq_true, not_true_eq_false, hj1, hg, hw]
    rw [show p + z + d + 1 = p + (z + (d + 1)) by omega]
    exact e

theorem nE_one {d : Int} (hd : 0 ≤ d ∧ d ≤ 4294967295) : (nE [d]).length = 1 + (enc d.toNat).length := by
  have hw : Wd [d] := Wd.one (by omega)
  have hbl := bitLen_lt (v := d.toNat) (k := 32) (by omega) (by omega)
  have hel := enc_length (v := d.toNat) (by omega)
  unfold nE
  rw [if_neg]
  · simp [encs]; omega
  · rw [pk_length]
    simp only [wdN, encs, List.length_append, List.length_nil, List.length_singleton]
    omega

theorem Regular_core (F : Nat) (hF : Fuel F) {p d : Int} (hd : 0 ≤ d ∧ d ≤ 4294967295) (hp : I64 p) (hpm : p ≤ 4611686018427387904) {n : Nat} (hn : n ≤ 100) : law10_StampsRegular_j4 F (fun z => some (z, ())) p d ((n : Int) + 2) = some (true, ()) := by
  have e := fun (R : Type) (k : Int → List Int → Option R) => Regular_loop F k hd hp hpm (n := n + 2) (by omega) (n + 1) 1 (by omega) (by omega) F (by unfold Fuel at hF; omega)
  have hb : (d + 1) * ((n + 2 : Nat) : Int) ≤ 4294967296 * 200 := Int.mul_le_mul (by omega) (by omega) (by omega) (by omega)
  have hS := regs_Sg (d := d + 1) (by omega) (n + 2) p hp (by omega)
  have hI := regs_incB (d := d + 1) (by omega) (n + 2) p
  have hlen := regs_length p (d + 1) (n + 2)
  have hdl := regs_dl (d := d + 1) n p
  have e1 := stamps_Encode_eq F hF hS (by omega)
  rw [sE_ok hI (by omega), hdl] at e1
  have ht : takeL (regs p (d + 1) (n + 2)) 2 = regs p (d + 1) 2 := by simp [takeL, regs]
  have hb2 : (d + 1) * ((2 : Nat) : Int) ≤ 4294967296 * 200 := Int.mul_le_mul (by omega) (by omega) (by omega) (by omega)
  have hS2 := regs_Sg (d := d + 1) (by omega) 2 p hp (by omega)
  have hI2 := regs_incB (d := d + 1) (by omega) 2 p
  have hlen2 := regs_length p (d + 1) 2
  have hdl2 := regs_dl (d := d + 1) 0 p
  have e2 := stamps_Encode_eq F hF hS2 (by omega)
  rw [Nat.zero_add, List.replicate_zero] at hdl2
  rw [sE_ok hI2 (by omega), hdl2] at e2
  rw [show d + 1 - 1 = d by omega] at e1 e2
  have hone := nE_one hd
  have hw : Wd (d :: List.replicate n 0) := Wd.cons (by omega) (fun x hx => by rw [List.eq_of_mem_replicate hx]; omega)
  have hlong := (nE_len hw).1
  have hel : (encs (d :: List.replicate n 0)).length = (enc d.toNat).length + n := by simp only [encs, List.length_append, encs_zeros]
  have h10 := enc_le10 (v := d.toNat) (by omega)
  unfold law10_StampsRegular_j4
  have hr1 : regs p (d + 1) 1 = [p] := rfl
  have e' := e
  simp only [hr1, Int.natCast_add, Int.natCast_one, show ((2 : Nat) : Int) = 2 from rfl] at e'
  have hc : cutB 0 2 (regs p (d + 1) (n + 2)).length = true := by rw [cutB_true]; omega
  rw [e']
  simp only [e1, Option.bind_some, hc, cond_true, ht, e2, law10_known_true F hF, show eqI (0 : Int) 0 = true from rfl, Option.some.injEq, Prod.mk.injEq, and_true]
  rw [leI_true]
  unfold lenI
  rw [addI_i64 (by omega), subI_i64 (by omega)]
  omega

/-- The law StampsRegular. -/
theorem StampsRegular_true (F : Nat) (hF : Fuel F) {p d n : Int} (hp : I64 p) (hd : 0 ≤ d ∧ d ≤ 4294967295) (hn : I64 n) : law10_StampsRegular F p d n = some (true, ()) := by
  obtain ⟨v, e1, hv0, hv⟩ := made_Mod_any F hn (y := 100) (by omega)
  obtain ⟨v, rfl⟩ := Int.eq_ofNat_of_zero_le hv0
  unfold law10_StampsRegular
  have h2 : addI .i64 2 (v : Int) = (v : Int) + 2 := by rw [addI_i64 (by omega)]; omega
  have hv' : v ≤ 100 := by
    have : Int.ofNat v = (v : Int) := rfl
    omega
  simp only [e1, Option.bind_some, show Int.ofNat v = (v : Int) from rfl, h2]
  by_cases c : 4611686018427387904 < p
  · have c1 : ltI 4611686018427387904 p = true := by rw [ltI_true]; exact c
    unfold I64 at hp
    have c2 : subI .i64 p 4611686018427387904 = p - 4611686018427387904 := subI_i64 (by omega)
    rw [c1, cond_true, c2]
    exact Regular_core F hF hd (by unfold I64; omega) (by omega) hv'
  · have c1 : ltI 4611686018427387904 p = false := by rw [← Bool.not_eq_true, ltI_true]; exact c
    rw [c1, cond_false]
    exact Regular_core F hF hd hp (by omega) hv'

end Go.Proofs.Ytfmjokmjaghehaa
