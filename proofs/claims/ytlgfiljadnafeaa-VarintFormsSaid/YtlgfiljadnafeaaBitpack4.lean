/- Layer 8: bitpack, the laws. -/
import Derived.Test.YtlgfiljadnafeaaBitpack3
set_option linter.unusedVariables false
set_option linter.unusedSimpArgs false
namespace Go.Proofs.Ytlgfiljadnafeaa
open Go.Eng

theorem law08_list_loop (F : Nat) (hF : Fuel F) {R : Type} (k : List Int × Int × Unit → List Int → Option R) {s : Int} (hs : 0 ≤ s) : ∀ (m : Nat) (t : List Int × Int × Unit) (l : List Int), TapeOk t → Wd l → l.length + m ≤ 30 →
    ∀ N, m < N → ∃ t' l', TapeOk t' ∧ Wd l' ∧ l'.length ≤ 30 ∧ law08_list_l4 F k N t l s m = k t' l' := by
  intro m
  induction m with
  | zero =>
    intro t l ht hl hlen N hN
    obtain ⟨N, rfl⟩ : ∃ M, N = M + 1 := ⟨N - 1, by omega⟩
    refine ⟨t, l, ht, hl, by omega, ?_⟩
    unfold law08_list_l4
    simp (disch := omega) only [cond_true, cond_false, iteB, notf_true_iff, not_true_iff, ltI_true, leI_true, eqI_true, inI_true, cutB_true, roomB_true, makeB_true, lenI, ↓if_pos, ↓if_neg, addI_i64, subI_i64, mulI_i64, quoI_i64, remI_nn, minI_eq, maxI_eq, length_setL, length_replI, length_takeL, length_dropL, Option.bind_some, Bool.false_eq_true, if_false, if_true, not_false_eq_true, not_true_eq_false]
  | succ m ih =>
    intro t l ht hl hlen N hN
    obtain ⟨N, rfl⟩ : ∃ M, N = M + 1 := ⟨N - 1, by omega⟩
    obtain ⟨t1, w, e, ht1, hw0, hw⟩ := made_Tape_Word_ok F hF ht
    have hsr := rng_shr (kd := .u64) (s := s) hw0
    obtain ⟨t2, l2, h1, h2, h3, e2⟩ := ih t1 (l ++ [shrI .u64 w s]) ht1 (hl.append (Wd.one (by omega))) (by simp; omega) N (by omega)
    refine ⟨t2, l2, h1, h2, h3, ?_⟩
    unfold law08_list_l4
    simp (disch := omega) only [cond_true, cond_false, iteB, notf_true_iff, not_true_iff, ltI_true, leI_true, eqI_true, inI_true, cutB_true, roomB_true, makeB_true, lenI, ↓if_pos, ↓if_neg, addI_i64, subI_i64, mulI_i64, quoI_i64, remI_nn, minI_eq, maxI_eq, length_setL, length_replI, length_takeL, length_dropL, Option.bind_some, Bool.false_eq_true, if_false, if_true, not_false_eq_true, not_true_eq_false, e]
    rw [← e2]
    congr 1
    omega

theorem law08_list_ok (F : Nat) (hF : Fuel F) {t : List Int × Int × Unit} (h : TapeOk t) : ∃ t' l, law08_list F t = some (t', l, ()) ∧ TapeOk t' ∧ Wd l ∧ l.length ≤ 30 := by
  obtain ⟨t1, s, e1, ht1, hs0, hs⟩ := made_Tape_Next_ok F h (n := 65) (by omega)
  obtain ⟨t2, n, e2, ht2, hn0, hn⟩ := made_Tape_Next_ok F ht1 (n := 30) (by omega)
  obtain ⟨n, rfl⟩ := Int.eq_ofNat_of_zero_le hn0
  obtain ⟨t3, l, h1, h2, h3, e3⟩ := law08_list_loop F hF (fun z9 z10 => some (z9, (z10, ()))) (s := IntKind.wrap .u64 s) (rng_wrap_u64 _).1 n t2 [] ht2 Wd.nil (by simp; omega) F (by unfold Fuel at hF; omega)
  refine ⟨t3, l, ?_, h1, h2, h3⟩
  unfold law08_list
  simp (disch := omega) only [cond_true, cond_false, iteB, notf_true_iff, not_true_iff, ltI_true, leI_true, eqI_true, inI_true, cutB_true, roomB_true, makeB_true, lenI, ↓if_pos, ↓if_neg, addI_i64, subI_i64, mulI_i64, quoI_i64, remI_nn, minI_eq, maxI_eq, length_setL, length_replI, length_takeL, length_dropL, Option.bind_some, Bool.false_eq_true, if_false, if_true, not_false_eq_true, not_true_eq_false, e1, e2]
  exact e3

theorem law08_known_true (F : Nat) (hF : Fuel F) : law08_known F = some (true, ()) := by
  unfold Fuel at hF
  obtain ⟨G, rfl⟩ : ∃ G, F = G + 30 := ⟨F - 30, by omega⟩
  kernel_rfl

theorem law08_packs_true (F : Nat) (hF : Fuel F) {l : List Int} (hl : Wd l) (hb : (l.length : Int) ≤ 140737488355328) (w : Int) : law08_packs F l w = some (true, ()) := by
  obtain ⟨out, ok, e1, e2, h1, h2⟩ := Pack_same F hF hl hb w
  obtain ⟨W, e3, h3⟩ := bitpack_Width_ok F hF hl hb
  obtain ⟨V, e4, h4⟩ := ref08_Width_ok F hF hl hb
  have := h3.eq h4
  subst this
  unfold law08_packs
  simp (disch := omega) only [cond_true, cond_false, iteB, notf_true_iff, not_true_iff, ltI_true, leI_true, eqI_true, inI_true, cutB_true, roomB_true, makeB_true, lenI, ↓if_pos, ↓if_neg, addI_i64, subI_i64, mulI_i64, quoI_i64, remI_nn, minI_eq, maxI_eq, length_setL, length_replI, length_takeL, length_dropL, Option.bind_some, Bool.false_eq_true, if_false, if_true, not_false_eq_true, not_true_eq_false, e1, e2, e3, e4, ref06_Same_eq F hF (a := out) (b := out) (by omega)]
  simp [eqT, eqI]

/-- The law BitpackForms. -/
theorem BitpackForms_true (F : Nat) (hF : Fuel F) {l t : List Int} {w n : Int} (hl : Wd l) (hb : (l.length : Int) ≤ 140737488355328) (hw : I64 w) (hn : I64 n) (ht : ∀ x ∈ t, I64 x) (htl : (t.length : Int) ≤ 140737488355328) : law08_BitpackForms F l w n t = some (true, ()) := by
  obtain ⟨t0, e0, h0⟩ := made_New_ok F htl ht
  obtain ⟨t1, m, e1, h1, hm, hml⟩ := law08_list_ok F hF h0
  obtain ⟨W, e2, h2⟩ := ref08_Width_ok F hF hm (by omega)
  obtain ⟨v, e3, hv0, hv⟩ := made_Mod_any F hn (y := 65539) (by omega)
  obtain ⟨u, e4, hu0, hu⟩ := made_Mod_any F hw (y := 68) (by omega)
  obtain ⟨t2, q, e5, h5, hq0, hq⟩ := made_Tape_Next_ok F h1 (n := 3) (by omega)
  unfold law08_BitpackForms
  simp only [e0, e1, e2, e3, e4, e5, Option.bind_some, law08_known_true F hF, cond_true, law08_packs_true F hF hl hb, law08_packs_true F hF hm (show (m.length : Int) ≤ 140737488355328 by omega), bitpack_Bytes_eq, ref08_Bytes_eq]
  simp [eqI]

theorem law08_unpacks_true (F : Nat) (hF : Fuel F) {b : List Int} (hb : Bt b) (n w : Int) : law08_unpacks F b n w = some (true, ()) := by
  obtain ⟨out, ok, e1, e2, h1, h2⟩ := Unpack_same F hF hb n w
  unfold law08_unpacks
  simp (disch := omega) only [cond_true, cond_false, iteB, notf_true_iff, not_true_iff, ltI_true, leI_true, eqI_true, inI_true, cutB_true, roomB_true, makeB_true, lenI, ↓if_pos, ↓if_neg, addI_i64, subI_i64, mulI_i64, quoI_i64, remI_nn, minI_eq, maxI_eq, length_setL, length_replI, length_takeL, length_dropL, Option.bind_some, Bool.false_eq_true, if_false, if_true, not_false_eq_true, not_true_eq_false, e1, e2, ref08_Same_eq F hF (a := out) (b := out) (by omega)]
  simp [eqT]

/-- The law BitpackReads. -/
theorem BitpackReads_true (F : Nat) (hF : Fuel F) {b t : List Int} {n w : Int} (hb : Bt b) (hw : I64 w) (hn : I64 n) (ht : ∀ x ∈ t, I64 x) (htl : (t.length : Int) ≤ 140737488355328) : law08_BitpackReads F b n w t = some (true, ()) := by
  obtain ⟨t0, e0, h0⟩ := made_New_ok F htl ht
  obtain ⟨t1, m, e1, h1, hm, hml⟩ := law08_list_ok F hF h0
  obtain ⟨W, e2, h2⟩ := ref08_Width_ok F hF hm (by omega)
  obtain ⟨c, ok, _, e3, hc, hcl⟩ := Pack_same F hF hm (by omega) W
  obtain ⟨u, e4, hu0, hu⟩ := made_Mod_any F hw (y := 65) (by omega)
  obtain ⟨v, e5, hv0, hv⟩ := made_Mod_any F hn (y := 50) (by omega)
  obtain ⟨t2, d, e6, h6, hd, hdl⟩ := made_Tape_Spoiled_ok F h1 hc (by omega)
  obtain ⟨t3, q, e7, h7, hq0, hq⟩ := made_Tape_Next_ok F h6 (n := 3) (by omega)
  have key : ∀ x, law08_BitpackReads_j9 F (fun z => some (z, ())) b n w t1 m W c u x = some (true, ()) := by
    intro x
    unfold law08_BitpackReads_j9
    simp only [e5, e6, e7, Option.bind_some, law08_known_true F hF, cond_true, law08_unpacks_true F hF hb, law08_unpacks_true F hF hc, law08_unpacks_true F hF hd]
  unfold law08_BitpackReads
  simp only [e0, e1, e2, e3, e4, Option.bind_some, key]
  by_cases hu1 : 0 < u
  · simp (disch := omega) only [cond_true, cond_false, iteB, notf_true_iff, not_true_iff, ltI_true, leI_true, eqI_true, inI_true, cutB_true, roomB_true, makeB_true, lenI, ↓if_pos, ↓if_neg, addI_i64, subI_i64, mulI_i64, quoI_i64, remI_nn, minI_eq, maxI_eq, length_setL, length_replI, length_takeL, length_dropL, Option.bind_some, Bool.false_eq_true, if_false, if_true, not_false_eq_true, not_true_eq_false]
  · simp (disch := omega) only [cond_true, cond_false, iteB, notf_true_iff, not_true_iff, ltI_true, leI_true, eqI_true, inI_true, cutB_true, roomB_true, makeB_true, lenI, ↓if_pos, ↓if_neg, addI_i64, subI_i64, mulI_i64, quoI_i64, remI_nn, minI_eq, maxI_eq, length_setL, length_replI, length_takeL, length_dropL, Option.bind_some, Bool.false_eq_true, if_false, if_true, not_false_eq_true, not_true_eq_false]

theorem PK.length_le {B : Nat → Bool} {size a : Nat} {out : List Int} (h : PK B size out a) : out.length = size := h.2.1

/-- what was packed is unpacked -/
theorem Packed.back {l b : List Int} {w : Nat} (hl : Wd l) (hf : Fits l (w : Int)) (h : Packed l w b) : Clean b (l.length * w) ∧ ∀ out, Unpacked b l.length w out → out = l := by
  obtain ⟨h1, h2, h3⟩ := h
  refine ⟨fun p hp => by rw [h3]; simp [show ¬ p < l.length * w by omega], fun out ho => ?_⟩
  apply List.ext_getElem ho.2.1
  intro i i1 i2
  have r1 := ho.1 out[i] (List.getElem_mem i1)
  have r2 := hl l[i] (List.getElem_mem i2)
  apply nb_ext r1.1 r2.1
  intro k
  have e := ho.2.2 i k i2
  rw [List.getD_eq_getElem?_getD, List.getElem?_eq_getElem i1] at e
  simp only [Option.getD_some] at e
  rw [e]
  by_cases hk : k < w
  · have hlt : i * w + k < l.length * w := by
      have : (i + 1) * w ≤ l.length * w := Nat.mul_le_mul_right _ i2
      rw [Nat.succ_mul] at this
      omega
    rw [h3, bof_at l w i k hk]
    simp [hk, hlt, List.getD_eq_getElem?_getD, i2]
  · have := hf.2.2.2 l[i] (List.getElem_mem i2)
    rw [nb_lt r2.1 this (by simpa using hk)]
    simp [hk]

/-- The law BitpackBack. -/
theorem BitpackBack_true (F : Nat) (hF : Fuel F) {t : List Int} {n : Int} (hn : I64 n) (ht : ∀ x ∈ t, I64 x) (htl : (t.length : Int) ≤ 140737488355328) : law08_BitpackBack F t n = some (true, ()) := by
  obtain ⟨t0, e0, h0⟩ := made_New_ok F htl ht
  obtain ⟨t1, m, e1, h1, hm, hml⟩ := law08_list_ok F hF h0
  obtain ⟨W, e2, h2⟩ := bitpack_Width_ok F hF hm (by omega)
  obtain ⟨v, e3, hv0, hv⟩ := made_Mod_any F hn (y := 5) (by omega)
  have hW0 := h2.1
  have hW1 := h2.2.1
  obtain ⟨w, hw⟩ : ∃ w : Nat, min 64 (W + v) = (w : Int) := ⟨(min 64 (W + v)).toNat, by omega⟩
  have hf : Fits m (w : Int) := ⟨by omega, by omega, by omega, by
    rw [Int.toNat_natCast]; exact (h2.2.2 w).1 (by omega)⟩
  obtain ⟨b, e4, hb⟩ := bitpack_Pack_ok F hF hm (by omega) hf
  obtain ⟨hcl, hback⟩ := hb.back hm hf
  have hmax : m.length * w ≤ 4194304 := Nat.le_trans (Nat.mul_le_mul hf.1 (show w ≤ 64 by omega)) (by omega)
  obtain ⟨out, ho, e5, _⟩ := bitpack_Unpack_ok F hF hb.1 (n := m.length) (w := w) (by omega) (by omega) hb.2.1
  have hom := hback out ho
  subst hom
  have hnf : ¬ Fits out (W - 1) := fun hf2 => by
    have h3 : (W : Int) ≤ ((W - 1).toNat : Int) := (h2.2.2 (W - 1).toNat).2 hf2.2.2.2
    have := hf2.2.1
    omega
  have e6 := bitpack_Pack_bad F hF hm (by omega) hnf
  have hsz := size8_nat (n := out.length) (w := w) (by omega) (by omega)
  have hbl := hb.2.1
  unfold law08_BitpackBack
  simp (disch := omega) only [cond_true, cond_false, iteB, notf_true_iff, not_true_iff, ltI_true, leI_true, eqI_true, inI_true, cutB_true, roomB_true, makeB_true, lenI, ↓if_pos, ↓if_neg, addI_i64, subI_i64, mulI_i64, quoI_i64, remI_nn, minI_eq, maxI_eq, length_setL, length_replI, length_takeL, length_dropL, Option.bind_some, Bool.false_eq_true, if_false, if_true, not_false_eq_true, not_true_eq_false, e0, e1, e2, e3, hw, e4, e5 hcl, e6, law08_known_true F hF, ref08_Same_eq F hF (a := out) (b := out) (by omega), bitpack_Bytes_eq, hsz]
  simp [eqI, hbl]

/-- The law BitpackCanonical. -/
theorem BitpackCanonical_true (F : Nat) (hF : Fuel F) {b : List Int} {n : Int} (hb : Bt b) (hbl : (b.length : Int) ≤ 140737488355328) (hn : I64 n) : law08_BitpackCanonical F b n = some (true, ()) := by
  obtain ⟨v, e1, hv0, hv⟩ := made_Mod_any F hn (y := 64) (by omega)
  obtain ⟨w, hw⟩ : ∃ w : Nat, 1 + v = (w : Int) := ⟨(1 + v).toNat, by omega⟩
  obtain ⟨k, hk⟩ : ∃ k : Nat, 8 * (b.length : Int) / (1 + v) = (k : Int) := ⟨(8 * (b.length : Int) / (1 + v)).toNat, by rw [Int.toNat_of_nonneg (Int.ediv_nonneg (by omega) (by omega))]⟩
  have hq : quoI .i64 (8 * (b.length : Int)) (1 + v) = (k : Int) := by rw [quoI_i64 (by omega) (by omega) (by omega), hk]
  unfold law08_BitpackCanonical
  by_cases hs : size8 (k : Int) (w : Int) = b.length
  · have h0 : ¬ ((k : Int) < 0 ∨ 65536 < (k : Int) ∨ (w : Int) < 0 ∨ 64 < (w : Int)) := fun h0 => by rw [size8_neg h0] at hs; omega
    have hs' := hs
    rw [size8_nat (by omega) (by omega)] at hs'
    obtain ⟨out, ho, x1, x2⟩ := bitpack_Unpack_ok F hF hb (n := k) (w := w) (by omega) (by omega) (by omega)
    by_cases hc : Clean b (k * w)
    · obtain ⟨c, e3, hcp⟩ := bitpack_Pack_ok F hF ho.1 (by rw [ho.2.1]; omega) (ho.fits (by omega) (by omega))
      have hcb := (ho.packed hb (by omega) hcp).2 hc
      subst hcb
      have hsame := ref06_Same_eq F hF (a := c) (b := c) (by omega)
      rw [decide_eq_true rfl] at hsame
      simp (disch := omega) only [cond_true, cond_false, iteB, notf_true_iff, not_true_iff, ltI_true, leI_true, eqI_true, inI_true, cutB_true, roomB_true, makeB_true, lenI, ↓if_pos, ↓if_neg, addI_i64, subI_i64, mulI_i64, quoI_i64, remI_nn, minI_eq, maxI_eq, length_setL, length_replI, length_takeL, length_dropL, Option.bind_some, Bool.false_eq_true, if_false, if_true, not_false_eq_true, not_true_eq_false, e1, hq]
      simp only [hw]
      simp (disch := omega) only [cond_true, cond_false, iteB, notf_true_iff, not_true_iff, ltI_true, leI_true, eqI_true, inI_true, cutB_true, roomB_true, makeB_true, lenI, ↓if_pos, ↓if_neg, addI_i64, subI_i64, mulI_i64, quoI_i64, remI_nn, minI_eq, maxI_eq, length_setL, length_replI, length_takeL, length_dropL, Option.bind_some, Bool.false_eq_true, if_false, if_true, not_false_eq_true, not_true_eq_false, x1 hc, e3, hsame, law08_known_true F hF]
    · simp (disch := omega) only [cond_true, cond_false, iteB, notf_true_iff, not_true_iff, ltI_true, leI_true, eqI_true, inI_true, cutB_true, roomB_true, makeB_true, lenI, ↓if_pos, ↓if_neg, addI_i64, subI_i64, mulI_i64, quoI_i64, remI_nn, minI_eq, maxI_eq, length_setL, length_replI, length_takeL, length_dropL, Option.bind_some, Bool.false_eq_true, if_false, if_true, not_false_eq_true, not_true_eq_false, e1, hq]
      simp only [hw]
      simp (disch := omega) only [cond_true, cond_false, iteB, notf_true_iff, not_true_iff, ltI_true, leI_true, eqI_true, inI_true, cutB_true, roomB_true, makeB_true, lenI, ↓if_pos, ↓if_neg, addI_i64, subI_i64, mulI_i64, quoI_i64, remI_nn, minI_eq, maxI_eq, length_setL, length_replI, length_takeL, length_dropL, Option.bind_some, Bool.false_eq_true, if_false, if_true, not_false_eq_true, not_true_eq_false, x2 hc, law08_known_true F hF]
  · have hbad := bitpack_Unpack_bad F hs
    simp (disch := omega) only [cond_true, cond_false, iteB, notf_true_iff, not_true_iff, ltI_true, leI_true, eqI_true, inI_true, cutB_true, roomB_true, makeB_true, lenI, ↓if_pos, ↓if_neg, addI_i64, subI_i64, mulI_i64, quoI_i64, remI_nn, minI_eq, maxI_eq, length_setL, length_replI, length_takeL, length_dropL, Option.bind_some, Bool.false_eq_true, if_false, if_true, not_false_eq_true, not_true_eq_false, e1, hq]
    simp only [hw]
    simp (disch := omega) only [cond_true, cond_false, iteB, notf_true_iff, not_true_iff, ltI_true, leI_true, eqI_true, inI_true, cutB_true, roomB_true, makeB_true, lenI, ↓if_pos, ↓if_neg, addI_i64, subI_i64, mulI_i64, quoI_i64, remI_nn, minI_eq, maxI_eq, length_setL, length_replI, length_takeL, length_dropL, Option.bind_some, Bool.false_eq_true, if_false, if_true, not_false_eq_true, not_true_eq_false, hbad, law08_known_true F hF]

end Go.Proofs.Ytlgfiljadnafeaa
