
/- Layers 9, 10, 11, 17: what is read by the program and by the document. -/
import Derived.Test.YtfmjokmjaghehaaConst3
set_option linter.unusedVariables false
set_option linter.unusedSimpArgs false
namespace Go.Proofs.Ytfmjokmjaghehaa
open Go.Eng

/-- Spoiled, of bytes that may be written: they are not written, no more than one more than there were. -/
theorem made_Tape_Spoiledw_ok (F : Nat) {t : List Int × Int × Unit} (h : TapeOk t) {b : List Int} (hb : Bt b) (hl : (b.length : Int) ≤ 140737488355000) :
    ∃ t' c, made_Tape_Spoiledw F t b = some (t', b, c, ()) ∧ TapeOk t' ∧ Bt c ∧ c.length ≤ b.length + 1 := by
  unfold made_Tape_Spoiledw
  obtain ⟨t1, at1, e1, ht1, ha0, ha⟩ := made_Tape_Next_ok F h (n := (b.length : Int)) (by omega)
  obtain ⟨t2, v2, e2, ht2, hv0, hv⟩ := made_Tape_Next_ok F ht1 (n := 6) (by omega)
  simp (disch := omega) only [cond_true, cond_false, iteB, notf_true_iff, not_true_iff, ltI_true, leI_true, eqI_true, inI_true, cutB_true, roomB_true, makeB_true, lenI, ↓if_pos, ↓if_neg, addI_i64, subI_i64, mulI_i64, quoI_i64, remI_nn, minI_eq, maxI_eq, length_setL, length_replI, length_takeL, length_dropL, Option.bind_some, Bool.false_eq_true, if_false, if_true, not_false_eq_true, not_true_eq_false, List.nil_append, e1, e2]
  have hat : 0 < (b.length : Int) → at1 < b.length := fun hp => by omega
  by_cases c0 : v2 = 0
  · obtain ⟨t3, v3, e3, ht3, h30, h3⟩ := made_Tape_Next_ok F ht2 (n := (b.length : Int) + 1) (by omega)
    simp (disch := omega) only [cond_true, cond_false, iteB, notf_true_iff, not_true_iff, ltI_true, leI_true, eqI_true, inI_true, cutB_true, roomB_true, makeB_true, lenI, ↓if_pos, ↓if_neg, addI_i64, subI_i64, mulI_i64, quoI_i64, remI_nn, minI_eq, maxI_eq, length_setL, length_replI, length_takeL, length_dropL, Option.bind_some, Bool.false_eq_true, if_false, if_true, not_false_eq_true, not_true_eq_false, e3]
    refine ⟨t3, _, rfl, ht3, fun x hx => hb x (List.mem_of_mem_take hx), ?_⟩
    simp [takeL]; omega
  · by_cases c1 : v2 = 1
    · obtain ⟨t3, v3, e3, ht3, h30, h3⟩ := made_Tape_Next_ok F ht2 (n := 256) (by omega)
      simp (disch := omega) only [cond_true, cond_false, iteB, notf_true_iff, not_true_iff, ltI_true, leI_true, eqI_true, inI_true, cutB_true, roomB_true, makeB_true, lenI, ↓if_pos, ↓if_neg, addI_i64, subI_i64, mulI_i64, quoI_i64, remI_nn, minI_eq, maxI_eq, length_setL, length_replI, length_takeL, length_dropL, Option.bind_some, Bool.false_eq_true, if_false, if_true, not_false_eq_true, not_true_eq_false, e3]
      exact ⟨t3, _, rfl, ht3, hb.append (Bt.one (rng_wrap_u8 _)), by simp⟩
    · by_cases c2 : v2 = 2
      · by_cases cl : 0 < (b.length : Int)
        · have := hat cl
          simp (disch := omega) only [cond_true, cond_false, iteB, notf_true_iff, not_true_iff, ltI_true, leI_true, eqI_true, inI_true, cutB_true, roomB_true, makeB_true, lenI, ↓if_pos, ↓if_neg, addI_i64, subI_i64, mulI_i64, quoI_i64, remI_nn, minI_eq, maxI_eq, length_setL, length_replI, length_takeL, length_dropL, Option.bind_some, Bool.false_eq_true, if_false, if_true, not_false_eq_true, not_true_eq_false]
          rw [if_pos (by simp; omega)]
          refine ⟨t2, _, rfl, ht2, Bt.append (fun x hx => hb x (List.mem_of_mem_take hx)) (fun x hx => hb x (List.mem_of_mem_take (List.mem_of_mem_drop hx))), ?_⟩
          simp; omega
        · simp (disch := omega) only [cond_true, cond_false, iteB, notf_true_iff, not_true_iff, ltI_true, leI_true, eqI_true, inI_true, cutB_true, roomB_true, makeB_true, lenI, ↓if_pos, ↓if_neg, addI_i64, subI_i64, mulI_i64, quoI_i64, remI_nn, minI_eq, maxI_eq, length_setL, length_replI, length_takeL, length_dropL, Option.bind_some, Bool.false_eq_true, if_false, if_true, not_false_eq_true, not_true_eq_false]
          exact ⟨t2, _, rfl, ht2, hb, by omega⟩
      · by_cases cl : 0 < (b.length : Int)
        · have := hat cl
          obtain ⟨t3, v3, e3, ht3, h30, h3⟩ := made_Tape_Next_ok F ht2 (n := 8) (by omega)
          have hw := rng_wrap_u64 v3
          simp (disch := omega) only [cond_true, cond_false, iteB, notf_true_iff, not_true_iff, ltI_true, leI_true, eqI_true, inI_true, cutB_true, roomB_true, makeB_true, lenI, ↓if_pos, ↓if_neg, addI_i64, subI_i64, mulI_i64, quoI_i64, remI_nn, minI_eq, maxI_eq, length_setL, length_replI, length_takeL, length_dropL, Option.bind_some, Bool.false_eq_true, if_false, if_true, not_false_eq_true, not_true_eq_false, e3]
          refine ⟨t3, _, rfl, ht3, hb.set _ ?_, by simp [setL]⟩
          exact rng_wrap_u8 _
        · simp (disch := omega) only [cond_true, cond_false, iteB, notf_true_iff, not_true_iff, ltI_true, leI_true, eqI_true, inI_true, cutB_true, roomB_true, makeB_true, lenI, ↓if_pos, ↓if_neg, addI_i64, subI_i64, mulI_i64, quoI_i64, remI_nn, minI_eq, maxI_eq, length_setL, length_replI, length_takeL, length_dropL, Option.bind_some, Bool.false_eq_true, if_false, if_true, not_false_eq_true, not_true_eq_false]
          exact ⟨t2, _, rfl, ht2, hb, by omega⟩


theorem law09_reads_true (F : Nat) (hF : Fuel F) {b : List Int} (hb : Bt b) (hbl : (b.length : Int) ≤ 140737488355328) (at_ n : Int) : law09_reads F b at_ n = some (true, ()) := by
  obtain ⟨l, end_, e, h1, h2, hw, h3, h4⟩ := nDecode F hF hb hbl at_ n
  have hl : (l.length : Int) ≤ 140737488355328 := by
    by_cases c : e = 0
    · have := h3 c; omega
    · rw [(h4 c).1]; simp
  have hs := ref08_Same_eq F hF (a := l) (b := l) hl
  rw [decide_eq_true rfl] at hs
  have z1 : eqI e e = true := by rw [eqI_true]
  have z2 : eqI end_ end_ = true := by rw [eqI_true]
  unfold law09_reads
  simp only [h1, h2, Option.bind_some, z1, z2, cond_true, hs]

theorem nE_le {l : List Int} (h : Wd l) : (nE l).length ≤ 1 + 10 * l.length := by
  have h1 := (nE_len h).1
  have h2 := encs_len h
  omega

theorem NumbersReads_loop (F : Nat) (hF : Fuel F) {R : Type} (k : List Int → Int → Int → List Int × Int × Unit → List Int → List Int → List Int → Option R) (x0 : List Int) (x1 x2 : Int) (t : List Int × Int × Unit) {l : List Int} (hl : Wd l) (hb : l.length ≤ 1000) (c : List Int) : ∀ (m i : Nat) (out : List Int), i + m = l.length → out.length ≤ 1 + 10 * i →
    ∀ N, m < N → law09_NumbersReads_l6 F k N x0 x1 x2 t l c out (i : Int) = k x0 x1 x2 t l c (out ++ encs (l.drop i)) := by
  intro m
  induction m with
  | zero =>
    intro i z hi hz N hN
    obtain ⟨N, rfl⟩ : ∃ M, N = M + 1 := ⟨N - 1, by omega⟩
    rw [List.drop_eq_nil_of_le (by omega)]
    unfold law09_NumbersReads_l6
    simp (disch := omega) only [cond_true, cond_false, iteB, notf_true_iff, not_true_iff, ltI_true, leI_true, eqI_true, inI_true, cutB_true, roomB_true, makeB_true, lenI, ↓if_pos, ↓if_neg, addI_i64, subI_i64, mulI_i64, quoI_i64, remI_nn, minI_eq, maxI_eq, length_setL, length_replI, length_takeL, length_dropL, Option.bind_some, Bool.false_eq_true, if_false, if_true, not_false_eq_true, not_true_eq_false]
    simp [encs]
  | succ m ih =>
    intro i z hi hz N hN
    obtain ⟨N, rfl⟩ : ∃ M, N = M + 1 := ⟨N - 1, by omega⟩
    obtain ⟨v, hv, hv64, h10, hd⟩ := encs_step hl (i := i) (by omega)
    have e := ih (i + 1) (z ++ enc v) (by omega) (by simp; omega) N (by omega)
    simp only [Int.natCast_add, Int.natCast_one] at e
    have ea := ref05_Append_eq F hF (b := z) (by unfold Room; omega) hv64
    rw [hd, ← List.append_assoc]
    unfold law09_NumbersReads_l6
    simp (disch := omega) only [cond_true, cond_false, iteB, notf_true_iff, not_true_iff, ltI_true, leI_true, eqI_true, inI_true, cutB_true, roomB_true, makeB_true, lenI, ↓if_pos, ↓if_neg, addI_i64, subI_i64, mulI_i64, quoI_i64, remI_nn, minI_eq, maxI_eq, length_setL, length_replI, length_takeL, length_dropL, Option.bind_some, Bool.false_eq_true, if_false, if_true, not_false_eq_true, not_true_eq_false, hv, ea]
    exact e

/-- The law NumbersReads. -/
theorem NumbersReads_true (F : Nat) (hF : Fuel F) {b t : List Int} {at_ n : Int} (hb : Bt b) (hbl : (b.length : Int) ≤ 140737488351232) (ha : I64 at_) (hn : I64 n) (ht : ∀ x ∈ t, I64 x) (htl : (t.length : Int) ≤ 140737488355328) :
    law09_NumbersReads F b at_ n t = some (true, ()) := by
  obtain ⟨t0, e0, h0⟩ := made_New_ok F htl ht
  obtain ⟨t1, l, e1, h1, hl, hll⟩ := law09_list_ok F hF h0
  have e2 := ref09_Encode_eq F hF hl (by omega)
  have hsm := nE_le hl
  have hB := nE_bt hl
  have hel := encs_len hl
  obtain ⟨W, e3, hW⟩ := ref08_Width_ok F hF hl (by omega)
  obtain ⟨hW0, hW1, _⟩ := hW
  obtain ⟨t2, q, e4, h2, hq0, hq⟩ := made_Tape_Next_ok F h1 (n := 2) (by omega)
  have a1 : addI .i64 W q = W + q := addI_i64 (by omega)
  have a2 : minI 64 (W + q) = min 64 (W + q) := minI_eq
  obtain ⟨p, ok, _, e5, hp, hpl⟩ := Pack_same F hF hl (by omega) (min 64 (W + q))
  obtain ⟨m, e6, hm0, hm⟩ := made_Mod_any F hn (y := 30) (by omega)
  generalize nE l = c at *
  obtain ⟨t3, d, e7, h3, hd, hdl⟩ := made_Tape_Spoiledw_ok F h2 hB (by omega)
  obtain ⟨t4, r, e8, h4, hr0, hr⟩ := made_Tape_Next_ok F h3 (n := 3) (by omega)
  have w1 := rng_wrap_u8 at_
  have w2 := rng_wrap_u8 (min 64 (W + q))
  have L := fun (R : Type) (k : List Int → Int → Int → List Int × Int × Unit → List Int → List Int → List Int → Option R) => NumbersReads_loop F hF k b at_ n t1 hl (by omega) c l.length 0 [0] (by omega) (by simp) F (by unfold Fuel at hF; omega)
  simp only [Int.natCast_zero, List.drop_zero] at L
  have r1 : roomB (2 + p.length) 1 = true := by rw [roomB_true]; omega
  have r2 : roomB (2 + b.length) 1 = true := by rw [roomB_true]; omega
  have r3 : roomB (1 + b.length) 1 = true := by rw [roomB_true]; omega
  have r4 : roomB (c.length + b.length) 1 = true := by rw [roomB_true]; omega
  have q1 := law09_reads_true F hF hb (by omega) at_ n
  have q2 := law09_reads_true F hF hb (by omega) 0 m
  have q3 := law09_reads_true F hF (b := [1, IntKind.wrap .u8 at_] ++ b) (Bt.append (fun x hx => by simp at hx; omega) hb) (by simp; omega) 0 m
  have q4 := law09_reads_true F hF (b := [0] ++ b) (Bt.append (Bt.one (by omega)) hb) (by simp; omega) 0 m
  have q5 := law09_reads_true F hF hB (by omega) 0 (lenI l)
  have q6 := law09_reads_true F hF (b := [0] ++ encs l) (Bt.append (Bt.one (by omega)) (encs_bt l)) (by simp; omega) 0 (lenI l)
  have q7 := law09_reads_true F hF (b := [1, IntKind.wrap .u8 (min 64 (W + q))] ++ p) (Bt.append (fun x hx => by simp at hx; omega) hp) (by simp; omega) 0 (lenI l)
  have q8 := law09_reads_true F hF hd (by omega) 0 (lenI l)
  have q9 := fun n => law09_reads_true F hF (b := c ++ b) (hB.append hb) (by simp; omega) 0 n
  unfold law09_NumbersReads
  simp only [e0, e1, e2, Option.bind_some]
  rw [L]
  simp only [e3, e4, Option.bind_some, a1, a2, e5, r1, cond_true, e6, law09_known_true F hF, q1, q2, r2, q3, r3, q4, q5, q6, q7, e7, q8, r4, e8, q9]

theorem law10_reads_true (F : Nat) (hF : Fuel F) {b : List Int} (hb : Bt b) (hbl : (b.length : Int) ≤ 140737488355328) (at_ : Int) {first : Int} (hf : I64 first) (n : Int) : law10_reads F b at_ first n = some (true, ()) := by
  obtain ⟨x, end_, e, h1, h2, hx, h3, h4⟩ := sDecode F hF hb hbl at_ hf n
  have hl : (x.length : Int) ≤ 140737488355328 := by
    by_cases c : e = 0
    · have := h3 c; omega
    · rw [(h4 c).1]; simp
  have hs := ref10_Same_eq F hF (a := x) (b := x) hl
  rw [decide_eq_true rfl] at hs
  have z1 : eqI e e = true := by rw [eqI_true]
  have z2 : eqI end_ end_ = true := by rw [eqI_true]
  unfold law10_reads
  simp only [h1, h2, Option.bind_some, z1, z2, cond_true, hs]

/-- The law StampsReads. -/
theorem StampsReads_true (F : Nat) (hF : Fuel F) {b t : List Int} {at_ first n : Int} (hb : Bt b) (hbl : (b.length : Int) ≤ 140737488351232) (ha : I64 at_) (hf : I64 first) (hn : I64 n) (ht : ∀ x ∈ t, I64 x) (htl : (t.length : Int) ≤ 140737488355328) :
    law10_StampsReads F b at_ first n t = some (true, ()) := by
  obtain ⟨t0, e0, h0⟩ := made_New_ok F htl ht
  obtain ⟨t1, l, e1, h1, hl, hi, hll⟩ := made_Tape_Times_ok F hF h0 (n := 20) (by omega)
  have e2 := ref10_Encode_eq F hF hl (by omega)
  rw [sE_ok hi (by omega)] at e2
  have hB := nE_bt (dl_Wd hl (incB_Inc hi))
  have hsm := nE_le (dl_Wd hl (incB_Inc hi))
  rw [dl_length] at hsm
  obtain ⟨m, e3, hm0, hm⟩ := made_Mod_any F hn (y := 12) (by omega)
  generalize nE (dl l) = c at *
  obtain ⟨t2, q, e4, h2, hq0, hq⟩ := made_Tape_Next_ok F h1 (n := 200) (by omega)
  obtain ⟨t3, d, e5, h3, hd, hdl⟩ := made_Tape_Spoiledw_ok F h2 hB (by omega)
  obtain ⟨t4, r, e6, h4, hr⟩ := made_Tape_Int_ok F hF h3
  have a1 : subI .i64 9223372036854775807 q = 9223372036854775807 - q := subI_i64 (by omega)
  have r1 : roomB (1 + b.length) 1 = true := by rw [roomB_true]; omega
  have r2 : roomB (c.length + b.length) 1 = true := by rw [roomB_true]; omega
  have q1 := law10_reads_true F hF hb (by omega) at_ hf n
  have q2 := fun n => law10_reads_true F hF hb (by omega) 0 hf n
  have q3 := fun n => law10_reads_true F hF (b := [0] ++ b) (Bt.append (Bt.one (by omega)) hb) (by simp; omega) 0 hf n
  have q4 := fun n => law10_reads_true F hF hB (by omega) 0 hf n
  have q5 := fun n => law10_reads_true F hF hB (by omega) 0 (first := 9223372036854775807 - q) (by unfold I64; omega) n
  have q6 := fun n => law10_reads_true F hF hd (by omega) 0 hr n
  have q7 := fun n => law10_reads_true F hF (b := c ++ b) (hB.append hb) (by simp; omega) 0 hf n
  unfold law10_StampsReads
  simp only [e0, e1, e2, Option.bind_some, e3, law10_known_true F hF, cond_true, q1, q2, r1, q3, q4, e4, a1, q5, e5, e6, q6, r2, q7]

theorem law11_reads_true (F : Nat) (hF : Fuel F) {b : List Int} (hb : Bt b) (hbl : (b.length : Int) ≤ 140737488355328) (at_ n : Int) : law11_reads F b at_ n = some (true, ()) := by
  obtain ⟨x, end_, e, h1, h2, hx, h3, h4⟩ := rDecode F hF hb hbl at_ n
  have hl : (x.length : Int) ≤ 140737488355328 := by
    by_cases c : e = 0
    · have := h3 c; omega
    · rw [(h4 c).1]; simp
  have hs := ref10_Same_eq F hF (a := x) (b := x) hl
  rw [decide_eq_true rfl] at hs
  have z1 : eqI e e = true := by rw [eqI_true]
  have z2 : eqI end_ end_ = true := by rw [eqI_true]
  unfold law11_reads
  simp only [h1, h2, Option.bind_some, z1, z2, cond_true, hs]

theorem rE_le {l : List Int} (h : Sg l) : (rE l).length ≤ 2 + 10 * l.length := by
  have h1 := rE_least l (n := 0) (by omega)
  have h2 : (rO 0 l).length = 1 + (nE (zs (dfn 0 l))).length := by unfold rO; simp; omega
  have h3 := nE_le (zs_Wd (dfn_Sg 0 h))
  rw [zs_length, dfn_length] at h3
  omega

/-- The law ResidualReads. -/
theorem ResidualReads_true (F : Nat) (hF : Fuel F) {b t : List Int} {at_ n : Int} (hb : Bt b) (hbl : (b.length : Int) ≤ 140737488351232) (ha : I64 at_) (hn : I64 n) (ht : ∀ x ∈ t, I64 x) (htl : (t.length : Int) ≤ 140737488355328) :
    law11_ResidualReads F b at_ n t = some (true, ()) := by
  obtain ⟨t0, e0, h0⟩ := made_New_ok F htl ht
  obtain ⟨t1, l, e1, h1, hl, hll⟩ := made_Tape_Values_ok F hF h0 (n := 20) (by omega)
  have e2 := ref11_Encode_eq F hF hl (by omega)
  rw [rEe_ok (by omega)] at e2
  obtain ⟨s1, s2, hB⟩ := rE_small hl (by omega)
  have hsm := rE_le hl
  obtain ⟨m, e3, hm0, hm⟩ := made_Mod_any F hn (y := 15) (by omega)
  have hR := ref11_Residuals_eq F hF hl (by omega)
  generalize rE l = c at *
  obtain ⟨t2, q, e4, h2, hq0, hq⟩ := made_Tape_Next_ok F h1 (n := 4) (by omega)
  obtain ⟨t3, d, e5, h3, hd, hdl⟩ := made_Tape_Spoiledw_ok F h2 hB (by omega)
  obtain ⟨t4, r, e6, h4, hr0, hr⟩ := made_Tape_Next_ok F h3 (n := 2) (by omega)
  have w1 := rng_wrap_u8 q
  have r1 : roomB (2 + b.length) 1 = true := by rw [roomB_true]; omega
  have r2 : roomB (c.length + b.length) 1 = true := by rw [roomB_true]; omega
  have q1 := law11_reads_true F hF hb (by omega) at_ n
  have q2 := fun n => law11_reads_true F hF hb (by omega) 0 n
  have q3 := fun n => law11_reads_true F hF (b := [IntKind.wrap .u8 q, 0] ++ b) (Bt.append (fun x hx => by simp at hx; omega) hb) (by simp; omega) 0 n
  have q4 := fun n => law11_reads_true F hF hB (by omega) 0 n
  have q6 := fun n => law11_reads_true F hF hd (by omega) 0 n
  have q7 := fun n => law11_reads_true F hF (b := c ++ b) (hB.append hb) (by simp; omega) 0 n
  obtain ⟨G, hG⟩ : ∃ G, F = G + 1 + 1 + 1 + 1 := ⟨F - 4, by unfold Fuel at hF; omega⟩
  have step : ∀ (R : Type) (k : List Int → Int → Int → List Int × Int × Unit → List Int → List Int → Option R) (kret : Bool → Option R) (N : Nat) (o : Nat), o ≤ 2 → law11_ResidualReads_l5 F k kret (N + 1) b at_ n t1 l c (o : Int) = law11_ResidualReads_l5 F k kret N b at_ n t1 l c ((o : Int) + 1) := by
    intro R k kret N o ho
    have r := hR (o : Int)
    rw [if_neg (by omega), Int.toNat_natCast] at r
    have hE := ref09_Encode_eq F hF (zs_Wd (dfn_Sg o hl)) (by rw [zs_length, dfn_length]; omega)
    have hs2 := nE_small (zs_Wd (dfn_Sg o hl)) (by rw [zs_length, dfn_length]; omega)
    have w2 := rng_wrap_u8 (o : Int)
    have qq := fun n => law11_reads_true F hF (b := [IntKind.wrap .u8 (o : Int)] ++ nE (zs (dfn o l))) (Bt.append (Bt.one w2) (nE_bt (zs_Wd (dfn_Sg o hl)))) (by simp; omega) 0 n
    have x1 : leI (o : Int) 2 = true := by rw [leI_true]; omega
    have x2 : roomB (1 + (nE (zs (dfn o l))).length) 1 = true := by rw [roomB_true]; omega
    have xa : addI .i64 (o : Int) 1 = (o : Int) + 1 := addI_i64 (by omega)
    conv => lhs; unfold law11_ResidualReads_l5
    simp only [x1, cond_true, r, Option.bind_some, hE, x2, qq, Bool.not_true, cond_false, xa]
  have fin : ∀ (R : Type) (k : List Int → Int → Int → List Int × Int × Unit → List Int → List Int → Option R) (kret : Bool → Option R), law11_ResidualReads_l5 F k kret F b at_ n t1 l c 0 = k b at_ n t1 l c := by
    intro R k kret
    have a0 := step R k kret (G + 1 + 1 + 1) 0 (by omega)
    have a1 := step R k kret (G + 1 + 1) 1 (by omega)
    have a2 := step R k kret (G + 1) 2 (by omega)
    have a3 : law11_ResidualReads_l5 F k kret (G + 1) b at_ n t1 l c 3 = k b at_ n t1 l c := rfl
    have h := a0.trans (a1.trans (a2.trans a3))
    rw [← hG] at h
    exact h
  unfold law11_ResidualReads
  simp only [e0, e1, e2, Option.bind_some]
  rw [fin]
  simp only [e3, Option.bind_some, law11_known_true F hF, cond_true, q1, q2, e4, r1, q3, q4, e5, q6, r2, e6, q7]

theorem law17_reads_true (F : Nat) (hF : Fuel F) {b : List Int} (hb : Bt b) (hbl : (b.length : Int) ≤ 140737488355328) (at_ n : Int) : law17_reads F b at_ n = some (true, ()) := by
  obtain ⟨x, end_, e, h1, h2, hx, h3, h4⟩ := cDecode F hF hb hbl at_ n
  have hl : (x.length : Int) ≤ 140737488355328 := by
    by_cases c : e = 0
    · have := h3 c; omega
    · rw [(h4 c).1]; simp
  have hs := ref15_Same_eq F hF (a := x) (b := x) hl
  rw [decide_eq_true rfl] at hs
  have z1 : eqI e e = true := by rw [eqI_true]
  have z2 : eqI end_ end_ = true := by rw [eqI_true]
  unfold law17_reads
  simp only [h1, h2, Option.bind_some, z1, z2, cond_true, hs]

theorem hd_le {c v : List Int} (hf : fitsB 4096 c = true) (hn : c.length ≤ 4096) (hv : Sg v) : (hd c v).length ≤ 13 + 10 * c.length + 10 * v.length := by
  have h1 := nE_le (lss_Wd hf (by omega))
  rw [lss_length] at h1
  have h2 := rE_le hv
  have h10 := enc_le10 (v := c.length) (by omega)
  unfold hd
  simp only [List.length_append]
  omega

/-- The law ConstantsReads. -/
theorem ConstantsReads_true (F : Nat) (hF : Fuel F) {b t : List Int} {at_ n : Int} (hb : Bt b) (hbl : (b.length : Int) ≤ 140737488351232) (ha : I64 at_) (hn : I64 n) (ht : ∀ x ∈ t, I64 x) (htl : (t.length : Int) ≤ 140737488355328) :
    law17_ConstantsReads F b at_ n t = some (true, ()) := by
  obtain ⟨t0, e0, h0⟩ := made_New_ok F htl ht
  obtain ⟨t1, l, e1, h1, hl, hll, hlf⟩ := law17_list_ok F hF h0
  have e2 := ref17_Encode_eq F hF hl (by omega)
  have hcE : cE l = (hd (cn l) (vl l), 0) := by unfold cE; rw [if_neg (by omega), if_pos hlf]
  rw [hcE] at e2
  obtain ⟨s1, hB⟩ := hd_small hlf (by rw [cn_length]; omega) (vl_Sg hl) (by rw [vl_length]; omega)
  have hsm := hd_le hlf (by rw [cn_length]; omega) (vl_Sg hl)
  rw [cn_length, vl_length] at hsm
  obtain ⟨m, e3, hm0, hm⟩ := made_Mod_any F hn (y := 30) (by omega)
  generalize hd (cn l) (vl l) = c at *
  obtain ⟨t2, q, e4, h2, hq0, hq⟩ := made_Tape_Next_ok F h1 (n := 4) (by omega)
  obtain ⟨t3, r, e5, h3, hr0, hr⟩ := made_Tape_Next_ok F h2 (n := 3) (by omega)
  obtain ⟨t4, d, e6, h4, hd, hdl⟩ := made_Tape_Spoiledw_ok F h3 hB (by omega)
  have w1 := rng_wrap_u8 q
  have r1 : roomB (2 + b.length) 1 = true := by rw [roomB_true]; omega
  have r2 : roomB (c.length + b.length) 1 = true := by rw [roomB_true]; omega
  have q1 := law17_reads_true F hF hb (by omega) at_ n
  have q2 := fun n => law17_reads_true F hF hb (by omega) 0 n
  have q3 := fun n => law17_reads_true F hF (b := [IntKind.wrap .u8 q, 0] ++ b) (Bt.append (fun x hx => by simp at hx; omega) hb) (by simp; omega) 0 n
  have q4 := fun n => law17_reads_true F hF hB (by omega) 0 n
  have q6 := fun n => law17_reads_true F hF hd (by omega) 0 n
  have q7 := fun n => law17_reads_true F hF (b := c ++ b) (hB.append hb) (by simp; omega) 0 n
  unfold law17_ConstantsReads
  simp only [e0, e1, e2, Option.bind_some, e3, law17_known_true F hF, cond_true, q1, q2, e4, r1, q3, q4, e5, e6, q6, r2, q7]

end Go.Proofs.Ytfmjokmjaghehaa
