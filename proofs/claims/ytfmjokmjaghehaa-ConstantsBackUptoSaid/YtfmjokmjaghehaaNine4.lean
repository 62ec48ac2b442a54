
/- Layer 9: numbers, the laws. -/
import Derived.Test.YtfmjokmjaghehaaNine3
set_option linter.unusedVariables false
set_option linter.unusedSimpArgs false
namespace Go.Proofs.Ytfmjokmjaghehaa
open Go.Eng

theorem law09_list_loop (F : Nat) (hF : Fuel F) {s : Int} (hs : 0 ≤ s) : ∀ (m : Nat) (t : List Int × Int × Unit) (l : List Int), TapeOk t → Wd l → l.length + m ≤ 30 →
    ∀ N, m < N → ∃ t' l', TapeOk t' ∧ Wd l' ∧ l'.length = l.length + m ∧ ∀ (R : Type) (k : List Int × Int × Unit → List Int → Option R), law09_list_l4 F k N t l s m = k t' l' := by
  intro m
  induction m with
  | zero =>
    intro t l ht hl hlen N hN
    obtain ⟨N, rfl⟩ : ∃ M, N = M + 1 := ⟨N - 1, by omega⟩
    refine ⟨t, l, ht, hl, rfl, fun R k => ?_⟩
    unfold law09_list_l4
    simp (disch := omega) only [cond_true, cond_false, iteB, notf_true_iff, not_true_iff, ltI_true, leI_true, eqI_true, inI_true, cutB_true, roomB_true, makeB_true, lenI, ↓if_pos, ↓if_neg, addI_i64, subI_i64, mulI_i64, quoI_i64, remI_nn, minI_eq, maxI_eq, length_setL, length_replI, length_takeL, length_dropL, Option.bind_some, Bool.false_eq_true, if_false, if_true, not_false_eq_true, not_true_eq_false]
  | succ m ih =>
    intro t l ht hl hlen N hN
    obtain ⟨N, rfl⟩ : ∃ M, N = M + 1 := ⟨N - 1, by omega⟩
    obtain ⟨t1, w, e1, ht1, hw0, hw⟩ := made_Tape_Word_ok F hF ht
    have hsr := rng_shr (kd := .u64) (s := s) hw0
    obtain ⟨t2, q, e2, ht2⟩ := made_Tape_Bool_ok F ht1 (n := 3) (by omega)
    cases q with
    | true =>
      obtain ⟨t3, v, e3, ht3, hv0, hv⟩ := made_Tape_Next_ok F ht2 (n := 64) (by omega)
      have hwv := rng_wrap_u64 v
      have hsr2 := rng_shr (kd := .u64) (s := IntKind.u64.wrap v) hsr.1
      obtain ⟨t4, l4, h1, h2, h3, h4⟩ := ih t3 (l ++ [shrI .u64 (shrI .u64 w s) (IntKind.u64.wrap v)]) ht3 (hl.append (Wd.one (by omega))) (by simp; omega) N (by omega)
      refine ⟨t4, l4, h1, h2, by rw [h3]; simp; omega, fun R k => ?_⟩
      have e4 := h4 R k
      unfold law09_list_l4
      simp (disch := omega) only [cond_true, cond_false, iteB, notf_true_iff, not_true_iff, ltI_true, leI_true, eqI_true, inI_true, cutB_true, roomB_true, makeB_true, lenI, ↓if_pos, ↓if_neg, addI_i64, subI_i64, mulI_i64, quoI_i64, remI_nn, minI_eq, maxI_eq, length_setL, length_replI, length_takeL, length_dropL, Option.bind_some, Bool.false_eq_true, if_false, if_true, not_false_eq_true, not_true_eq_false, e1, e2, e3]
      rw [show ((m + 1 : Nat) : Int) - 1 = (m : Int) by omega]
      exact e4
    | false =>
      obtain ⟨t4, l4, h1, h2, h3, h4⟩ := ih t2 (l ++ [shrI .u64 w s]) ht2 (hl.append (Wd.one (by omega))) (by simp; omega) N (by omega)
      refine ⟨t4, l4, h1, h2, by rw [h3]; simp; omega, fun R k => ?_⟩
      have e4 := h4 R k
      unfold law09_list_l4
      simp (disch := omega) only [cond_true, cond_false, iteB, notf_true_iff, not_true_iff, ltI_true, leI_true, eqI_true, inI_true, cutB_true, roomB_true, makeB_true, lenI, ↓if_pos, ↓if_neg, addI_i64, subI_i64, mulI_i64, quoI_i64, remI_nn, minI_eq, maxI_eq, length_setL, length_replI, length_takeL, length_dropL, Option.bind_some, Bool.false_eq_true, if_false, if_true, not_false_eq_true, not_true_eq_false, e1, e2]
      rw [show ((m + 1 : Nat) : Int) - 1 = (m : Int) by omega]
      exact e4

theorem law09_list_ok (F : Nat) (hF : Fuel F) {t : List Int × Int × Unit} (h : TapeOk t) : ∃ t' l, law09_list F t = some (t', l, ()) ∧ TapeOk t' ∧ Wd l ∧ l.length ≤ 30 := by
  obtain ⟨t1, s, e1, ht1, hs0, hs⟩ := made_Tape_Next_ok F h (n := 65) (by omega)
  obtain ⟨t2, n, e2, ht2, hn0, hn⟩ := made_Tape_Next_ok F ht1 (n := 25) (by omega)
  obtain ⟨n, rfl⟩ := Int.eq_ofNat_of_zero_le hn0
  obtain ⟨t3, l, h1, h2, h3, e3⟩ := law09_list_loop F hF (s := IntKind.wrap .u64 s) (rng_wrap_u64 _).1 n t2 [] ht2 Wd.nil (by simp; omega) F (by unfold Fuel at hF; omega)
  refine ⟨t3, l, ?_, h1, h2, by simp at h3; omega⟩
  unfold law09_list
  simp (disch := omega) only [cond_true, cond_false, iteB, notf_true_iff, not_true_iff, ltI_true, leI_true, eqI_true, inI_true, cutB_true, roomB_true, makeB_true, lenI, ↓if_pos, ↓if_neg, addI_i64, subI_i64, mulI_i64, quoI_i64, remI_nn, minI_eq, maxI_eq, length_setL, length_replI, length_takeL, length_dropL, Option.bind_some, Bool.false_eq_true, if_false, if_true, not_false_eq_true, not_true_eq_false, e1, e2]
  exact e3 _ _

theorem law09_known_true (F : Nat) (hF : Fuel F) : law09_known F = some (true, ()) := by
  unfold Fuel at hF
  obtain ⟨G, rfl⟩ : ∃ G, F = G + 100 := ⟨F - 100, by omega⟩
  kernel_rfl

theorem NumbersForms_step (F : Nat) (hF : Fuel F) {R : Type} (k0 : Option R) (kret : Bool → Option R) {l : List Int} (hl : Wd l) {ls : List (List Int)} {i : Nat} (hi : i < ls.length) (hi2 : i < 2) (hg : getL [] ls (i : Int) = l) (N : Nat) :
    law09_NumbersForms_l3 F k0 kret (N + 1) ls (i : Int) = law09_NumbersForms_l3 F k0 kret N ls ((i : Int) + 1) := by
  obtain ⟨c, e, h1, h2, h3, h4⟩ := nEncode_same F hF hl
  have hs := ref06_Same_eq F hF (a := c) (b := c) (by omega)
  rw [decide_eq_true rfl] at hs
  generalize hR : law09_NumbersForms_l3 F k0 kret N ls ((i : Int) + 1) = RR
  unfold law09_NumbersForms_l3
  simp (disch := omega) only [cond_true, cond_false, iteB, notf_true_iff, not_true_iff, ltI_true, leI_true, eqI_true, inI_true, cutB_true, roomB_true, makeB_true, lenI, ↓if_pos, ↓if_neg, addI_i64, subI_i64, mulI_i64, quoI_i64, remI_nn, minI_eq, maxI_eq, length_setL, length_replI, length_takeL, length_dropL, Option.bind_some, Bool.false_eq_true, if_false, if_true, not_false_eq_true, not_true_eq_false, hg, h1, h2, hs]
  exact hR

/-- The law NumbersForms. -/
theorem NumbersForms_true (F : Nat) (hF : Fuel F) {l t : List Int} (hl : Wd l) (ht : ∀ x ∈ t, I64 x) (htl : (t.length : Int) ≤ 140737488355328) : law09_NumbersForms F l t = some (true, ()) := by
  obtain ⟨t0, e0, h0⟩ := made_New_ok F htl ht
  obtain ⟨t1, m, e1, h1, hm, hml⟩ := law09_list_ok F hF h0
  obtain ⟨G, hG⟩ : ∃ G, F = G + 1 + 1 + 1 := ⟨F - 3, by unfold Fuel at hF; omega⟩
  have fin : ∀ (R : Type) (k0 : Option R) (kret : Bool → Option R), law09_NumbersForms_l3 F k0 kret F [l, m] 0 = k0 := by
    intro R k0 kret
    have s0 := fun N => NumbersForms_step F hF k0 kret hl (ls := [l, m]) (i := 0) (by simp) (by omega) rfl N
    have s1 := fun N => NumbersForms_step F hF k0 kret hm (ls := [l, m]) (i := 1) (by simp) (by omega) rfl N
    have s2 : ∀ N, law09_NumbersForms_l3 F k0 kret (N + 1) [l, m] 2 = k0 := by
      intro N
      unfold law09_NumbersForms_l3
      simp (disch := omega) only [cond_true, cond_false, iteB, notf_true_iff, not_true_iff, ltI_true, leI_true, eqI_true, inI_true, cutB_true, roomB_true, makeB_true, lenI, ↓if_pos, ↓if_neg, addI_i64, subI_i64, mulI_i64, quoI_i64, remI_nn, minI_eq, maxI_eq, length_setL, length_replI, length_takeL, length_dropL, Option.bind_some, Bool.false_eq_true, if_false, if_true, not_false_eq_true, not_true_eq_false]
    have h := ((s0 (G + 1 + 1)).trans ((s1 (G + 1)).trans (s2 G)))
    rw [← hG] at h
    exact h
  unfold law09_NumbersForms
  simp only [e0, e1, Option.bind_some, fin, law09_known_true F hF]

/-- The law NumbersBack. -/
theorem NumbersBack_true (F : Nat) (hF : Fuel F) {b rest t : List Int} (hb : Bt b) (hbl : (b.length : Int) ≤ 1048576) (hr : Bt rest) (hrl : (rest.length : Int) ≤ 1048576) (ht : ∀ x ∈ t, I64 x) (htl : (t.length : Int) ≤ 140737488355328) :
    law09_NumbersBack F t b rest = some (true, ()) := by
  obtain ⟨t0, e0, h0⟩ := made_New_ok F htl ht
  obtain ⟨t1, l, e1, h1, hl, hll⟩ := law09_list_ok F hF h0
  have e2 := numbers_Encode_eq F hF hl (by omega)
  have hs := nE_small hl (by omega)
  have hlen : (b ++ (nE l ++ rest)).length = b.length + ((nE l).length + rest.length) := by simp
  have e3 := nDecode_back F hF hl (by omega) hb hr (by omega)
  have e4 := ref08_Same_eq F hF (a := l) (b := l) (by omega)
  rw [decide_eq_true rfl] at e4
  have hA : ([] ++ b : List Int) = b := rfl
  unfold law09_NumbersBack
  simp only [e0, e1, e2, Option.bind_some, hA, List.append_assoc]
  have c1 : roomB (0 + b.length) 1 = true := by rw [roomB_true]; omega
  have c2 : roomB (b.length + (nE l).length) 1 = true := by rw [roomB_true]; omega
  have c3 : roomB ((b ++ nE l).length + rest.length) 1 = true := by rw [roomB_true]; simp; omega
  have c4 : eqI ((b.length : Int) + (nE l).length) (addI .i64 (lenI b) (lenI (nE l))) = true := by
    rw [eqI_true]
    show _ = IntKind.wrap .i64 _
    rw [wrap_i64 (by unfold lenI; omega)]
    rfl
  simp only [c1, c2, c3, cond_true, show lenI b = (b.length : Int) from rfl, show lenI l = (l.length : Int) from rfl, e3, Option.bind_some, law09_known_true F hF, show eqI (0 : Int) 0 = true from rfl, c4, e4]
  rw [show lenI b = (b.length : Int) from rfl] at c4
  simp only [c4, cond_true, e4, Option.bind_some]

theorem cut_zero (l : List Int) (e : Int) : dropL (takeL l e) 0 = takeL l e := by unfold dropL; simp

theorem NumbersCanonical_step (F : Nat) (hF : Fuel F) {R : Type} (k0 : Option R) (kret : Bool → Option R) {b : List Int} (hb : Bt b) (hbl : (b.length : Int) ≤ 140737488355328) {ls : List (List Int)} {ns : List Int} {i : Nat} (hi : i < ls.length) (hi2 : i < ns.length) (hil : (ls.length : Int) ≤ 1000) (hg : getL [] ls (i : Int) = b) (N : Nat) :
    law09_NumbersCanonical_l8 F k0 kret (N + 1) ls ns (i : Int) = law09_NumbersCanonical_l8 F k0 kret N ls ns ((i : Int) + 1) := by
  obtain ⟨l, end_, e, h1, _, hw, h3, h4⟩ := nDecode F hF hb hbl 0 (getL 0 ns (i : Int))
  generalize hR : law09_NumbersCanonical_l8 F k0 kret N ls ns ((i : Int) + 1) = RR
  unfold law09_NumbersCanonical_l8
  by_cases c : e = 0
  · obtain ⟨_, g2, g3, g4, g5, g6⟩ := h3 c
    rw [cut_zero] at g6
    have e2 := numbers_Encode_eq F hF hw (by omega)
    have hs := nE_small hw (by omega)
    have e3 := ref06_Same_eq F hF (a := nE l) (b := takeL b end_) (by omega)
    rw [decide_eq_true g6] at e3
    simp (disch := omega) only [cond_true, cond_false, iteB, notf_true_iff, not_true_iff, ltI_true, leI_true, eqI_true, inI_true, cutB_true, roomB_true, makeB_true, lenI, ↓if_pos, ↓if_neg, addI_i64, subI_i64, mulI_i64, quoI_i64, remI_nn, minI_eq, maxI_eq, length_setL, length_replI, length_takeL, length_dropL, Option.bind_some, Bool.false_eq_true, if_false, if_true, not_false_eq_true, not_true_eq_false, hg, h1, e2, e3]
    exact hR
  · simp (disch := omega) only [cond_true, cond_false, iteB, notf_true_iff, not_true_iff, ltI_true, leI_true, eqI_true, inI_true, cutB_true, roomB_true, makeB_true, lenI, ↓if_pos, ↓if_neg, addI_i64, subI_i64, mulI_i64, quoI_i64, remI_nn, minI_eq, maxI_eq, length_setL, length_replI, length_takeL, length_dropL, Option.bind_some, Bool.false_eq_true, if_false, if_true, not_false_eq_true, not_true_eq_false, hg, h1]
    exact hR

/-- The law NumbersCanonical. -/
theorem NumbersCanonical_true (F : Nat) (hF : Fuel F) {b t : List Int} {n : Int} (hb : Bt b) (hbl : (b.length : Int) ≤ 140737488351232) (hn : I64 n) (ht : ∀ x ∈ t, I64 x) (htl : (t.length : Int) ≤ 140737488355328) :
    law09_NumbersCanonical F b n t = some (true, ()) := by
  obtain ⟨t0, e0, h0⟩ := made_New_ok F htl ht
  obtain ⟨t1, l, e1, h1, hl, hll⟩ := law09_list_ok F hF h0
  have e2 := numbers_Encode_eq F hF hl (by omega)
  have hs := nE_small hl (by omega)
  obtain ⟨m, e3, hm0, hm⟩ := made_Mod_any F hn (y := 20) (by omega)
  obtain ⟨t2, c, e4, h2, hc, hcl⟩ := made_Tape_Spoiled_ok F h1 (nE_bt hl) (by omega)
  obtain ⟨t3, q, e5, h3, hq0, hq⟩ := made_Tape_Next_ok F h2 (n := 9) (by omega)
  have hw := rng_wrap_u8 q
  have b1 : Bt ([0] ++ b) := Bt.append (Bt.one (by omega)) hb
  have b2 : Bt ([1, IntKind.u8.wrap q] ++ b) := Bt.append (fun x hx => by simp at hx; omega) hb
  have l1 : ([0] ++ b : List Int).length = b.length + 1 := by simp
  have l2 : ([1, IntKind.u8.wrap q] ++ b : List Int).length = b.length + 2 := by simp
  obtain ⟨x1, hx1⟩ : ∃ x, x = ([0] ++ b : List Int) := ⟨_, rfl⟩
  obtain ⟨x2, hx2⟩ : ∃ x, x = ([1, IntKind.u8.wrap q] ++ b : List Int) := ⟨_, rfl⟩
  rw [← hx1] at b1 l1
  rw [← hx2] at b2 l2
  obtain ⟨G, hG⟩ : ∃ G, F = G + 1 + 1 + 1 + 1 + 1 := ⟨F - 5, by unfold Fuel at hF; omega⟩
  have fin : ∀ (R : Type) (k0 : Option R) (kret : Bool → Option R) (ns : List Int), ns.length = 4 → law09_NumbersCanonical_l8 F k0 kret F [b, c, x1, x2] ns 0 = k0 := by
    intro R k0 kret ns hns
    have s0 := fun N => NumbersCanonical_step F hF k0 kret hb (by omega) (ls := [b, c, x1, x2]) (ns := ns) (i := 0) (by simp) (by omega) (by simp) rfl N
    have s1 := fun N => NumbersCanonical_step F hF k0 kret hc (by omega) (ls := [b, c, x1, x2]) (ns := ns) (i := 1) (by simp) (by omega) (by simp) rfl N
    have s2 := fun N => NumbersCanonical_step F hF k0 kret b1 (by omega) (ls := [b, c, x1, x2]) (ns := ns) (i := 2) (by simp) (by omega) (by simp) rfl N
    have s3 := fun N => NumbersCanonical_step F hF k0 kret b2 (by omega) (ls := [b, c, x1, x2]) (ns := ns) (i := 3) (by simp) (by omega) (by simp) rfl N
    have s4 : ∀ N, law09_NumbersCanonical_l8 F k0 kret (N + 1) [b, c, x1, x2] ns 4 = k0 := by
      intro N
      unfold law09_NumbersCanonical_l8
      have : ([b, c, x1, x2] : List (List Int)).length = 4 := rfl
      simp (disch := omega) only [cond_true, cond_false, iteB, notf_true_iff, not_true_iff, ltI_true, leI_true, eqI_true, inI_true, cutB_true, roomB_true, makeB_true, lenI, ↓if_pos, ↓if_neg, addI_i64, subI_i64, mulI_i64, quoI_i64, remI_nn, minI_eq, maxI_eq, length_setL, length_replI, length_takeL, length_dropL, Option.bind_some, Bool.false_eq_true, if_false, if_true, not_false_eq_true, not_true_eq_false, this]
    have h := ((s0 (G + 1 + 1 + 1 + 1)).trans ((s1 (G + 1 + 1 + 1)).trans ((s2 (G + 1 + 1)).trans ((s3 (G + 1)).trans (s4 G)))))
    rw [← hG] at h
    exact h
  have r1 : roomB (1 + b.length) 1 = true := by rw [roomB_true]; omega
  have r2 : roomB (2 + b.length) 1 = true := by rw [roomB_true]; omega
  unfold law09_NumbersCanonical
  simp only [e0, e1, e2, e3, e4, e5, Option.bind_some, r1, r2, cond_true, law09_known_true F hF, ← hx1, ← hx2]
  exact fin _ _ _ _ rfl

theorem NumbersShort_loop (F : Nat) (hF : Fuel F) {R : Type} (k : List Int → List Int → Int → Int → Option R) {l : List Int} (hl : Wd l) (hb : l.length ≤ 65536) (c : List Int) (e0 : Int) : ∀ (m i z : Nat), i + m = l.length → z ≤ 1 + 10 * i →
    ∀ N, m < N → law09_NumbersShort_l5 F k N l c e0 (z : Int) (i : Int) = k l c e0 ((z + (encs (l.drop i)).length : Nat) : Int) := by
  intro m
  induction m with
  | zero =>
    intro i z hi hz N hN
    obtain ⟨N, rfl⟩ : ∃ M, N = M + 1 := ⟨N - 1, by omega⟩
    rw [List.drop_eq_nil_of_le (by omega)]
    unfold law09_NumbersShort_l5
    simp (disch := omega) only [cond_true, cond_false, iteB, notf_true_iff, not_true_iff, ltI_true, leI_true, eqI_true, inI_true, cutB_true, roomB_true, makeB_true, lenI, ↓if_pos, ↓if_neg, addI_i64, subI_i64, mulI_i64, quoI_i64, remI_nn, minI_eq, maxI_eq, length_setL, length_replI, length_takeL, length_dropL, Option.bind_some, Bool.false_eq_true, if_false, if_true, not_false_eq_true, not_true_eq_false]
    rfl
  | succ m ih =>
    intro i z hi hz N hN
    obtain ⟨N, rfl⟩ : ∃ M, N = M + 1 := ⟨N - 1, by omega⟩
    obtain ⟨v, hv, hv64, h10, hd⟩ := encs_step hl (i := i) (by omega)
    have e := ih (i + 1) (z + (enc v).length) (by omega) (by omega) N (by omega)
    simp only [Int.natCast_add, Int.natCast_one] at e
    rw [hd, List.length_append, ← Nat.add_assoc, Int.natCast_add, Int.natCast_add]
    unfold law09_NumbersShort_l5
    simp (disch := omega) only [cond_true, cond_false, iteB, notf_true_iff, not_true_iff, ltI_true, leI_true, eqI_true, inI_true, cutB_true, roomB_true, makeB_true, lenI, ↓if_pos, ↓if_neg, addI_i64, subI_i64, mulI_i64, quoI_i64, remI_nn, minI_eq, maxI_eq, length_setL, length_replI, length_takeL, length_dropL, Option.bind_some, Bool.false_eq_true, if_false, if_true, not_false_eq_true, not_true_eq_false, hv, ref05_Size_eq F hF hv64]
    exact e

/-- The law NumbersShort. -/
theorem NumbersShort_true (F : Nat) (hF : Fuel F) {t : List Int} (ht : ∀ x ∈ t, I64 x) (htl : (t.length : Int) ≤ 140737488355328) : law09_NumbersShort F t = some (true, ()) := by
  obtain ⟨t0, e0, h0⟩ := made_New_ok F htl ht
  obtain ⟨t1, l, e1, h1, hl, hll⟩ := law09_list_ok F hF h0
  have e2 := numbers_Encode_eq F hF hl (by omega)
  have hs := nE_small hl (by omega)
  have hel := encs_len hl
  obtain ⟨a1, a2, a3⟩ := nE_len hl
  obtain ⟨W, eW, hW⟩ := ref08_Width_ok F hF hl (by omega)
  have := hW.eq (wdN_ok hl)
  subst this
  have hs8 := size8_nat (n := l.length) (w := wdN l) (by omega) (wdN_le hl)
  rw [← pk_length] at hs8
  have hps := pk_small hl (by omega)
  have e4 := fun (R : Type) (k : List Int → List Int → Int → Int → Option R) => NumbersShort_loop F hF k hl (by omega) (nE l) 0 l.length 0 1 (by omega) (by omega) F (by unfold Fuel at hF; omega)
  simp only [Int.natCast_zero, Int.natCast_one, List.drop_zero, Int.natCast_add] at e4
  unfold law09_NumbersShort
  generalize nE l = c at *
  generalize pk l (wdN l) = p at *
  simp only [e0, e1, e2, Option.bind_some, e4, law09_known_true F hF, cond_true]
  simp (disch := omega) only [cond_true, cond_false, iteB, notf_true_iff, not_true_iff, ltI_true, leI_true, eqI_true, inI_true, cutB_true, roomB_true, makeB_true, lenI, ↓if_pos, ↓if_neg, addI_i64, subI_i64, mulI_i64, quoI_i64, remI_nn, minI_eq, maxI_eq, length_setL, length_replI, length_takeL, length_dropL, Option.bind_some, Bool.false_eq_true, if_false, if_true, not_false_eq_true, not_true_eq_false, eW, ref08_Bytes_eq, hs8]
  simp [ltI]
  omega

end Go.Proofs.Ytfmjokmjaghehaa
