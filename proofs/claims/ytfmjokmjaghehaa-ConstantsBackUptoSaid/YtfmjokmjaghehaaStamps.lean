
/- Layer 10: stamps. -/
import Derived.Test.YtfmjokmjaghehaaNine4
set_option linter.unusedVariables false
set_option linter.unusedSimpArgs false
namespace Go.Proofs.Ytfmjokmjaghehaa
open Go.Eng

def incB : List Int → Bool
  | [] => true
  | [_] => true
  | p :: x :: t => decide (p < x) && incB (x :: t)

theorem incB_Inc : ∀ {l : List Int}, incB l = true → Inc l
  | [], _ => trivial
  | [_], _ => trivial
  | p :: x :: t, h => by
    simp only [incB, Bool.and_eq_true, decide_eq_true_eq] at h
    exact ⟨h.1, incB_Inc h.2⟩
theorem Inc_incB : ∀ {l : List Int}, Inc l → incB l = true
  | [], _ => rfl
  | [_], _ => rfl
  | p :: x :: t, h => by
    simp only [incB, Bool.and_eq_true, decide_eq_true_eq]
    exact ⟨h.1, Inc_incB h.2⟩

theorem incB_snoc : ∀ {l : List Int} {a b : Int}, incB (l ++ [a]) = true → a < b → incB (l ++ [a] ++ [b]) = true
  | [], a, b, _, h => by simp [incB, h]
  | [p], a, b, h, hb => by
    simp [incB] at h ⊢
    exact ⟨h, hb⟩
  | p :: x :: t, a, b, h, hb => by
    simp only [List.cons_append, incB, Bool.and_eq_true, decide_eq_true_eq] at h ⊢
    exact ⟨h.1, incB_snoc (l := x :: t) h.2 hb⟩
theorem incB_init : ∀ {l : List Int} {a : Int}, incB (l ++ [a]) = true → incB l = true
  | [], _, _ => rfl
  | [_], _, _ => rfl
  | p :: x :: t, a, h => by
    simp only [List.cons_append, incB, Bool.and_eq_true, decide_eq_true_eq] at h ⊢
    exact ⟨h.1, incB_init (l := x :: t) h.2⟩

theorem dist_eq {a b : Int} (ha : I64 a) (hb : I64 b) (h : b ≤ a) : subI .u64 (IntKind.wrap .u64 a) (IntKind.wrap .u64 b) = a - b := by
  unfold I64 at ha hb
  show IntKind.u64.wrap _ = _
  rw [wrap_u64_mod, wrap_u64_mod, wrap_u64_mod]
  omega
theorem i64_of_u64 (z : Int) : IntKind.i64.wrap (IntKind.u64.wrap z) = IntKind.i64.wrap z := by
  obtain ⟨k, hk⟩ := i64_wrap_mod z
  obtain ⟨j, hj⟩ := i64_wrap_mod (IntKind.u64.wrap z)
  refine i64_uniq (rng_wrap_i64 _) (rng_wrap_i64 _) (k := j - k - z / 18446744073709551616) ?_
  rw [hj, hk, wrap_u64_mod]
  omega
theorem apply_eq {t d : Int} (ht : I64 t) (hd : 0 ≤ d ∧ d ≤ 9223372036854775807 - t) : IntKind.i64.wrap (addI .u64 (IntKind.wrap .u64 t) d) = t + d := by
  show IntKind.i64.wrap (IntKind.u64.wrap _) = _
  unfold I64 at ht
  rw [i64_of_u64]
  obtain ⟨k, hk⟩ := i64_wrap_mod (IntKind.u64.wrap t + d)
  refine i64_uniq (rng_wrap_i64 _) (by unfold I64; omega) (k := k - t / 18446744073709551616) ?_
  rw [hk, wrap_u64_mod]
  omega
theorem add_uz (d : Int) (x : Nat) : addI .u64 d (IntKind.wrap .u64 (uz x)) = IntKind.u64.wrap (d + uz x) := by
  show IntKind.u64.wrap _ = _
  rw [wrap_u64_mod, wrap_u64_mod, wrap_u64_mod]
  omega

theorem checked_Distance_eq (F : Nat) {a b : Int} (ha : I64 a) (hb : I64 b) (h : b ≤ a) : checked_Distance F a b = some (a - b, ()) := by
  unfold checked_Distance
  have e1 : maxI a b = a := by rw [maxI_eq]; omega
  have e2 : minI a b = b := by rw [minI_eq]; omega
  rw [e1, e2, dist_eq ha hb h]
theorem ref01_Distance_eq (F : Nat) {a b : Int} (ha : I64 a) (hb : I64 b) (h : b ≤ a) : ref01_Distance F a b = some (a - b, ()) := by
  unfold ref01_Distance
  have e : ltI a b = false := by rw [← Bool.not_eq_true, ltI_true]; omega
  rw [e, cond_false, dist_eq ha hb h]

theorem getL_Sg_split {l : List Int} {j : Nat} (h : j < l.length) : l.drop j = getL 0 l (j : Int) :: l.drop (j + 1) := by
  rw [split_at h, getL_nat]

/-- what Encode says of times -/
def sE (l : List Int) : List Int × Int := if 65536 < l.length then ([], 3) else if incB l = true then (nE (dl l), 0) else ([], 7)

theorem stamps_Increasing_loop (F : Nat) {R : Type} (k0 : Option R) (kr : Bool → Option R) {l : List Int} (hb : (l.length : Int) ≤ 140737488355328) : ∀ (m j : Nat), j + 1 + m = l.length → ∀ N, m < N →
    stamps_Increasing_l2 F k0 kr N l ((j : Int) + 1) = if incB (l.drop j) = true then k0 else kr false := by
  intro m
  induction m with
  | zero =>
    intro j hj N hN
    obtain ⟨N, rfl⟩ : ∃ M, N = M + 1 := ⟨N - 1, by omega⟩
    rw [getL_Sg_split (by omega), List.drop_eq_nil_of_le (by omega), if_pos (by rfl)]
    unfold stamps_Increasing_l2
    simp (disch := omega) only [cond_true, cond_false, iteB, notf_true_iff, not_true_iff, ltI_true, leI_true, eqI_true, inI_true, cutB_true, roomB_true, makeB_true, lenI, ↓if_pos, ↓if_neg, addI_i64, subI_i64, mulI_i64, quoI_i64, remI_nn, minI_eq, maxI_eq, length_setL, length_replI, length_takeL, length_dropL, Option.bind_some, Bool.false_eq_true, if_false, if_true, not_false_eq_true, not_true_eq_false]
  | succ m ih =>
    intro j hj N hN
    obtain ⟨N, rfl⟩ : ∃ M, N = M + 1 := ⟨N - 1, by omega⟩
    have e := ih (j + 1) (by omega) N (by omega)
    have hs : l.drop j = getL 0 l (j : Int) :: getL 0 l ((j : Int) + 1) :: l.drop (j + 2) := by
      rw [getL_Sg_split (by omega), getL_Sg_split (j := j + 1) (by omega)]
      simp
    have hs1 : l.drop (j + 1) = getL 0 l ((j : Int) + 1) :: l.drop (j + 2) := by
      rw [getL_Sg_split (j := j + 1) (by omega)]
      simp
    rw [hs1] at e
    rw [hs]
    simp only [Int.natCast_add, Int.natCast_one] at e
    have hj1 : (j : Int) + 1 - 1 = (j : Int) := by omega
    unfold stamps_Increasing_l2
    by_cases c : getL 0 l ((j : Int) + 1) ≤ getL 0 l (j : Int)
    · have hf : incB (getL 0 l (j : Int) :: getL 0 l ((j : Int) + 1) :: l.drop (j + 2)) = false := by
        have : decide (getL 0 l (j : Int) < getL 0 l ((j : Int) + 1)) = false := decide_eq_false (by omega)
        simp only [incB, this, Bool.false_and]
      rw [hf]
      simp (disch := omega) only [cond_true, cond_false, iteB, notf_true_iff, not_true_iff, ltI_true, leI_true, eqI_true, inI_true, cutB_true, roomB_true, makeB_true, lenI, ↓if_pos, ↓if_neg, addI_i64, subI_i64, mulI_i64, quoI_i64, remI_nn, minI_eq, maxI_eq, length_setL, length_replI, length_takeL, length_dropL, Option.bind_some, Bool.false_eq_true, if_false, if_true, not_false_eq_true, not_true_eq_false, hj1]
    · have ht : incB (getL 0 l (j : Int) :: getL 0 l ((j : Int) + 1) :: l.drop (j + 2)) = incB (getL 0 l ((j : Int) + 1) :: l.drop (j + 2)) := by
        have : decide (getL 0 l (j : Int) < getL 0 l ((j : Int) + 1)) = true := decide_eq_true (by omega)
        simp only [incB, this, Bool.true_and]
      rw [ht, ← e]
      simp (disch := omega) only [cond_true, cond_false, iteB, notf_true_iff, not_true_iff, ltI_true, leI_true, eqI_true, inI_true, cutB_true, roomB_true, makeB_true, lenI, ↓if_pos, ↓if_neg, addI_i64, subI_i64, mulI_i64, quoI_i64, remI_nn, minI_eq, maxI_eq, length_setL, length_replI, length_takeL, length_dropL, Option.bind_some, Bool.false_eq_true, if_false, if_true, not_false_eq_true, not_true_eq_false, hj1]

theorem stamps_Increasing_eq (F : Nat) (hF : Fuel F) {l : List Int} (hb : (l.length : Int) ≤ 140737488355328) : stamps_Increasing F l = some (incB l, ()) := by
  unfold stamps_Increasing
  by_cases h : l.length = 0
  · have : l = [] := List.length_eq_zero_iff.1 h
    subst this
    obtain ⟨G, hG⟩ : ∃ G, F = G + 1 := ⟨F - 1, by unfold Fuel at hF; omega⟩
    rw [hG]
    unfold stamps_Increasing_l2
    simp (disch := omega) only [cond_true, cond_false, iteB, notf_true_iff, not_true_iff, ltI_true, leI_true, eqI_true, inI_true, cutB_true, roomB_true, makeB_true, lenI, ↓if_pos, ↓if_neg, addI_i64, subI_i64, mulI_i64, quoI_i64, remI_nn, minI_eq, maxI_eq, length_setL, length_replI, length_takeL, length_dropL, Option.bind_some, Bool.false_eq_true, if_false, if_true, not_false_eq_true, not_true_eq_false]
    rfl
  · refine (stamps_Increasing_loop F _ _ hb (l.length - 1) 0 (by omega) F (by unfold Fuel at hF; omega)).trans ?_
    rw [List.drop_zero]
    cases incB l <;> rfl

theorem stamps_Encode_loop (F : Nat) {R : Type} (k : List Int → Option R) {l : List Int} (hl : Sg l) (hb : l.length ≤ 65536) : ∀ (m j : Nat) (out : List Int) (d : Int), 1 ≤ j → j + 1 + m = l.length → out.length = j → (0 ≤ d ∧ d ≤ 18446744073709551615) → incB (l.drop j) = true → ∀ N, m < N →
    stamps_Encode_l8 F k N l out d ((j : Int) + 1) = k (out ++ dls (getL 0 l (j : Int)) d (l.drop (j + 1))) := by
  intro m
  induction m with
  | zero =>
    intro j out d h1 hj ho hd hi N hN
    obtain ⟨N, rfl⟩ : ∃ M, N = M + 1 := ⟨N - 1, by omega⟩
    rw [List.drop_eq_nil_of_le (by omega), dls, List.append_nil]
    unfold stamps_Encode_l8
    simp (disch := omega) only [cond_true, cond_false, iteB, notf_true_iff, not_true_iff, ltI_true, leI_true, eqI_true, inI_true, cutB_true, roomB_true, makeB_true, lenI, ↓if_pos, ↓if_neg, addI_i64, subI_i64, mulI_i64, quoI_i64, remI_nn, minI_eq, maxI_eq, length_setL, length_replI, length_takeL, length_dropL, Option.bind_some, Bool.false_eq_true, if_false, if_true, not_false_eq_true, not_true_eq_false]
  | succ m ih =>
    intro j out d h1 hj ho hd hi N hN
    obtain ⟨N, rfl⟩ : ∃ M, N = M + 1 := ⟨N - 1, by omega⟩
    have hs : l.drop j = getL 0 l (j : Int) :: getL 0 l ((j : Int) + 1) :: l.drop (j + 2) := by
      rw [getL_Sg_split (by omega), getL_Sg_split (j := j + 1) (by omega)]
      simp
    have hs1 : l.drop (j + 1) = getL 0 l ((j : Int) + 1) :: l.drop (j + 2) := by
      rw [getL_Sg_split (j := j + 1) (by omega)]
      simp
    rw [hs] at hi
    simp only [incB, Bool.and_eq_true, decide_eq_true_eq] at hi
    have ha := hl.get (j : Int)
    have hx := hl.get ((j : Int) + 1)
    have hD := checked_Distance_eq F hx ha (by omega)
    have hz : IntKind.i64.wrap (subI .u64 (getL 0 l ((j : Int) + 1) - getL 0 l (j : Int)) d) = IntKind.i64.wrap (getL 0 l ((j : Int) + 1) - getL 0 l (j : Int) - d) := i64_of_u64 _
    have hZ := varint_Zigzag_eq F (rng_wrap_i64 (getL 0 l ((j : Int) + 1) - getL 0 l (j : Int) - d))
    have e := ih (j + 1) (out ++ [(zz (IntKind.i64.wrap (getL 0 l ((j : Int) + 1) - getL 0 l (j : Int) - d)) : Int)]) (getL 0 l ((j : Int) + 1) - getL 0 l (j : Int)) (by omega) (by omega) (by simp; omega) (by unfold I64 at ha hx; omega) (by rw [hs1]; exact hi.2) N (by omega)
    simp only [Int.natCast_add, Int.natCast_one] at e
    have hj1 : (j : Int) + 1 - 1 = (j : Int) := by omega
    rw [hs1, dls]
    rw [List.append_assoc, List.singleton_append] at e
    unfold stamps_Encode_l8
    simp (disch := omega) only [cond_true, cond_false, iteB, notf_true_iff, not_true_iff, ltI_true, leI_true, eqI_true, inI_true, cutB_true, roomB_true, makeB_true, lenI, ↓if_pos, ↓if_neg, addI_i64, subI_i64, mulI_i64, quoI_i64, remI_nn, minI_eq, maxI_eq, length_setL, length_replI, length_takeL, length_dropL, Option.bind_some, Bool.false_eq_true, if_false, if_true, not_false_eq_true, not_true_eq_false, hj1, hD, hz, hZ]
    exact e

theorem stamps_Encode_short (F : Nat) (hF : Fuel F) {R : Type} (k : List Int → Option R) {l : List Int} (hl : Sg l) (hb : l.length ≤ 65536) (hi : incB l = true) : stamps_Encode_l8 F k F l [] 0 1 = k (dl l) := by
  obtain ⟨G, hG⟩ : ∃ G, F = G + 1 := ⟨F - 1, by unfold Fuel at hF; omega⟩
  match l, hl, hb, hi with
  | [], _, _, _ =>
    rw [hG]
    unfold stamps_Encode_l8
    simp (disch := omega) only [cond_true, cond_false, iteB, notf_true_iff, not_true_iff, ltI_true, leI_true, eqI_true, inI_true, cutB_true, roomB_true, makeB_true, lenI, ↓if_pos, ↓if_neg, addI_i64, subI_i64, mulI_i64, quoI_i64, remI_nn, minI_eq, maxI_eq, length_setL, length_replI, length_takeL, length_dropL, Option.bind_some, Bool.false_eq_true, if_false, if_true, not_false_eq_true, not_true_eq_false]
    rfl
  | [p], _, _, _ =>
    rw [hG]
    unfold stamps_Encode_l8
    simp (disch := omega) only [cond_true, cond_false, iteB, notf_true_iff, not_true_iff, ltI_true, leI_true, eqI_true, inI_true, cutB_true, roomB_true, makeB_true, lenI, ↓if_pos, ↓if_neg, addI_i64, subI_i64, mulI_i64, quoI_i64, remI_nn, minI_eq, maxI_eq, length_setL, length_replI, length_takeL, length_dropL, Option.bind_some, Bool.false_eq_true, if_false, if_true, not_false_eq_true, not_true_eq_false]
    rfl
  | p :: x :: t, hl, hb, hi =>
    have hp := Sg.head hl
    have hx := Sg.head (Sg.tail hl)
    have hpx : p < x ∧ incB (x :: t) = true := by simpa [incB] using hi
    have hD := checked_Distance_eq F hx hp (by omega)
    have g0 : getL 0 (p :: x :: t) (1 - 1) = p := rfl
    have g1 : getL 0 (p :: x :: t) 1 = x := rfl
    have r1 : roomB (([] : List Int).length + 1) 8 = true := rfl
    have a2 : addI .i64 (1 : Int) 1 = 2 := rfl
    have hll : (p :: x :: t).length = t.length + 2 := rfl
    have e := stamps_Encode_loop F k hl hb t.length 1 [x - p - 1] (x - p) (by omega) (by simp; omega) rfl (by unfold I64 at hp hx; omega) hpx.2 G (by unfold Fuel at hF; simp at hb; omega)
    have e' : stamps_Encode_l8 F k G (p :: x :: t) [x - p - 1] (x - p) 2 = k (dl (p :: x :: t)) := e
    have hsub : subI .u64 (x - p) 1 = x - p - 1 := subI_u64 (by unfold I64 at hp hx; omega)
    conv => lhs; rw [hG]
    unfold stamps_Encode_l8
    generalize p :: x :: t = l at *
    rw [hG] at e'
    rw [hG] at hD
    simp only [r1, a2]
    simp (disch := omega) only [cond_true, cond_false, iteB, notf_true_iff, not_true_iff, ltI_true, leI_true, eqI_true, inI_true, cutB_true, roomB_true, makeB_true, lenI, ↓if_pos, ↓if_neg, addI_i64, subI_i64, mulI_i64, quoI_i64, remI_nn, minI_eq, maxI_eq, length_setL, length_replI, length_takeL, length_dropL, Option.bind_some, Bool.false_eq_true, if_false, if_true, not_false_eq_true, not_true_eq_false, g0, g1, hD, hsub, List.nil_append]
    exact e'

theorem stamps_Encode_eq (F : Nat) (hF : Fuel F) {l : List Int} (hl : Sg l) (hb : (l.length : Int) ≤ 140737488355328) : stamps_Encode F l = some ((sE l).1, (sE l).2, ()) := by
  unfold stamps_Encode sE
  by_cases h : 65536 < l.length
  · rw [if_pos h]
    simp (disch := omega) only [cond_true, cond_false, iteB, notf_true_iff, not_true_iff, ltI_true, leI_true, eqI_true, inI_true, cutB_true, roomB_true, makeB_true, lenI, ↓if_pos, ↓if_neg, addI_i64, subI_i64, mulI_i64, quoI_i64, remI_nn, minI_eq, maxI_eq, length_setL, length_replI, length_takeL, length_dropL, Option.bind_some, Bool.false_eq_true, if_false, if_true, not_false_eq_true, not_true_eq_false]
  · rw [if_neg h]
    have hI := stamps_Increasing_eq F hF hb
    have hlt : ltI 65536 (lenI l) = false := by rw [← Bool.not_eq_true, ltI_true]; unfold lenI; omega
    rw [hlt, hI]
    by_cases hi : incB l = true
    · have hn := numbers_Encode_eq F hF (dl_Wd hl (incB_Inc hi)) (by rw [dl_length]; omega)
      rw [if_pos hi, hi]
      simp only [cond_false, Option.bind_some, Bool.not_true, stamps_Encode_short F hF _ hl (by omega) hi, hn]
    · rw [if_neg hi]
      rw [Bool.not_eq_true] at hi
      rw [hi]
      rfl

theorem ref10_Increasing_loop (F : Nat) {R : Type} (k0 : Option R) (kr : Bool → Option R) {l : List Int} (hb : (l.length : Int) ≤ 140737488355328) : ∀ (m j : Nat), j + 1 + m = l.length → ∀ N, m < N →
    ref10_Increasing_l2 F k0 kr N l ((j : Int) + 1) = if incB (l.drop j) = true then k0 else kr false := by
  intro m
  induction m with
  | zero =>
    intro j hj N hN
    obtain ⟨N, rfl⟩ : ∃ M, N = M + 1 := ⟨N - 1, by omega⟩
    rw [getL_Sg_split (by omega), List.drop_eq_nil_of_le (by omega), if_pos (by rfl)]
    unfold ref10_Increasing_l2
    simp (disch := omega) only [cond_true, cond_false, iteB, notf_true_iff, not_true_iff, ltI_true, leI_true, eqI_true, inI_true, cutB_true, roomB_true, makeB_true, lenI, ↓if_pos, ↓if_neg, addI_i64, subI_i64, mulI_i64, quoI_i64, remI_nn, minI_eq, maxI_eq, length_setL, length_replI, length_takeL, length_dropL, Option.bind_some, Bool.false_eq_true, if_false, if_true, not_false_eq_true, not_true_eq_false]
  | succ m ih =>
    intro j hj N hN
    obtain ⟨N, rfl⟩ : ∃ M, N = M + 1 := ⟨N - 1, by omega⟩
    have e := ih (j + 1) (by omega) N (by omega)
    have hs : l.drop j = getL 0 l (j : Int) :: getL 0 l ((j : Int) + 1) :: l.drop (j + 2) := by
      rw [getL_Sg_split (by omega), getL_Sg_split (j := j + 1) (by omega)]
      simp
    have hs1 : l.drop (j + 1) = getL 0 l ((j : Int) + 1) :: l.drop (j + 2) := by
      rw [getL_Sg_split (j := j + 1) (by omega)]
      simp
    rw [hs1] at e
    rw [hs]
    simp only [Int.natCast_add, Int.natCast_one] at e
    have hj1 : (j : Int) + 1 - 1 = (j : Int) := by omega
    unfold ref10_Increasing_l2
    by_cases c : getL 0 l ((j : Int) + 1) ≤ getL 0 l (j : Int)
    · have hf : incB (getL 0 l (j : Int) :: getL 0 l ((j : Int) + 1) :: l.drop (j + 2)) = false := by
        have : decide (getL 0 l (j : Int) < getL 0 l ((j : Int) + 1)) = false := decide_eq_false (by omega)
        simp only [incB, this, Bool.false_and]
      rw [hf]
      simp (disch := omega) only [cond_true, cond_false, iteB, notf_true_iff, not_true_iff, ltI_true, leI_true, eqI_true, inI_true, cutB_true, roomB_true, makeB_true, lenI, ↓if_pos, ↓if_neg, addI_i64, subI_i64, mulI_i64, quoI_i64, remI_nn, minI_eq, maxI_eq, length_setL, length_replI, length_takeL, length_dropL, Option.bind_some, Bool.false_eq_true, if_false, if_true, not_false_eq_true, not_true_eq_false, hj1]
    · have ht : incB (getL 0 l (j : Int) :: getL 0 l ((j : Int) + 1) :: l.drop (j + 2)) = incB (getL 0 l ((j : Int) + 1) :: l.drop (j + 2)) := by
        have : decide (getL 0 l (j : Int) < getL 0 l ((j : Int) + 1)) = true := decide_eq_true (by omega)
        simp only [incB, this, Bool.true_and]
      rw [ht, ← e]
      simp (disch := omega) only [cond_true, cond_false, iteB, notf_true_iff, not_true_iff, ltI_true, leI_true, eqI_true, inI_true, cutB_true, roomB_true, makeB_true, lenI, ↓if_pos, ↓if_neg, addI_i64, subI_i64, mulI_i64, quoI_i64, remI_nn, minI_eq, maxI_eq, length_setL, length_replI, length_takeL, length_dropL, Option.bind_some, Bool.false_eq_true, if_false, if_true, not_false_eq_true, not_true_eq_false, hj1]

theorem ref10_Increasing_eq (F : Nat) (hF : Fuel F) {l : List Int} (hb : (l.length : Int) ≤ 140737488355328) : ref10_Increasing F l = some (incB l, ()) := by
  unfold ref10_Increasing
  by_cases h : l.length = 0
  · have : l = [] := List.length_eq_zero_iff.1 h
    subst this
    obtain ⟨G, hG⟩ : ∃ G, F = G + 1 := ⟨F - 1, by unfold Fuel at hF; omega⟩
    rw [hG]
    unfold ref10_Increasing_l2
    simp (disch := omega) only [cond_true, cond_false, iteB, notf_true_iff, not_true_iff, ltI_true, leI_true, eqI_true, inI_true, cutB_true, roomB_true, makeB_true, lenI, ↓if_pos, ↓if_neg, addI_i64, subI_i64, mulI_i64, quoI_i64, remI_nn, minI_eq, maxI_eq, length_setL, length_replI, length_takeL, length_dropL, Option.bind_some, Bool.false_eq_true, if_false, if_true, not_false_eq_true, not_true_eq_false]
    rfl
  · refine (ref10_Increasing_loop F _ _ hb (l.length - 1) 0 (by omega) F (by unfold Fuel at hF; omega)).trans ?_
    rw [List.drop_zero]
    cases incB l <;> rfl

theorem ref10_Encode_loop (F : Nat) {R : Type} (k : List Int → Option R) {l : List Int} (hl : Sg l) (hb : l.length ≤ 65536) : ∀ (m j : Nat) (out : List Int) (d : Int), 1 ≤ j → j + 1 + m = l.length → out.length = j → (0 ≤ d ∧ d ≤ 18446744073709551615) → incB (l.drop j) = true → ∀ N, m < N →
    ref10_Encode_l8 F k N l out d ((j : Int) + 1) = k (out ++ dls (getL 0 l (j : Int)) d (l.drop (j + 1))) := by
  intro m
  induction m with
  | zero =>
    intro j out d h1 hj ho hd hi N hN
    obtain ⟨N, rfl⟩ : ∃ M, N = M + 1 := ⟨N - 1, by omega⟩
    rw [List.drop_eq_nil_of_le (by omega), dls, List.append_nil]
    unfold ref10_Encode_l8
    simp (disch := omega) only [cond_true, cond_false, iteB, notf_true_iff, not_true_iff, ltI_true, leI_true, eqI_true, inI_true, cutB_true, roomB_true, makeB_true, lenI, ↓if_pos, ↓if_neg, addI_i64, subI_i64, mulI_i64, quoI_i64, remI_nn, minI_eq, maxI_eq, length_setL, length_replI, length_takeL, length_dropL, Option.bind_some, Bool.false_eq_true, if_false, if_true, not_false_eq_true, not_true_eq_false]
  | succ m ih =>
    intro j out d h1 hj ho hd hi N hN
    obtain ⟨N, rfl⟩ : ∃ M, N = M + 1 := ⟨N - 1, by omega⟩
    have hs : l.drop j = getL 0 l (j : Int) :: getL 0 l ((j : Int) + 1) :: l.drop (j + 2) := by
      rw [getL_Sg_split (by omega), getL_Sg_split (j := j + 1) (by omega)]
      simp
    have hs1 : l.drop (j + 1) = getL 0 l ((j : Int) + 1) :: l.drop (j + 2) := by
      rw [getL_Sg_split (j := j + 1) (by omega)]
      simp
    rw [hs] at hi
    simp only [incB, Bool.and_eq_true, decide_eq_true_eq] at hi
    have ha := hl.get (j : Int)
    have hx := hl.get ((j : Int) + 1)
    have hD := ref01_Distance_eq F hx ha (by omega)
    have hz : IntKind.i64.wrap (subI .u64 (getL 0 l ((j : Int) + 1) - getL 0 l (j : Int)) d) = IntKind.i64.wrap (getL 0 l ((j : Int) + 1) - getL 0 l (j : Int) - d) := i64_of_u64 _
    have hZ := ref05_Zigzag_eq F (rng_wrap_i64 (getL 0 l ((j : Int) + 1) - getL 0 l (j : Int) - d))
    have e := ih (j + 1) (out ++ [(zz (IntKind.i64.wrap (getL 0 l ((j : Int) + 1) - getL 0 l (j : Int) - d)) : Int)]) (getL 0 l ((j : Int) + 1) - getL 0 l (j : Int)) (by omega) (by omega) (by simp; omega) (by unfold I64 at ha hx; omega) (by rw [hs1]; exact hi.2) N (by omega)
    simp only [Int.natCast_add, Int.natCast_one] at e
    have hj1 : (j : Int) + 1 - 1 = (j : Int) := by omega
    rw [hs1, dls]
    rw [List.append_assoc, List.singleton_append] at e
    unfold ref10_Encode_l8
    simp (disch := omega) only [cond_true, cond_false, iteB, notf_true_iff, not_true_iff, ltI_true, leI_true, eqI_true, inI_true, cutB_true, roomB_true, makeB_true, lenI, ↓if_pos, ↓if_neg, addI_i64, subI_i64, mulI_i64, quoI_i64, remI_nn, minI_eq, maxI_eq, length_setL, length_replI, length_takeL, length_dropL, Option.bind_some, Bool.false_eq_true, if_false, if_true, not_false_eq_true, not_true_eq_false, hj1, hD, hz, hZ]
    exact e

theorem ref10_Encode_short (F : Nat) (hF : Fuel F) {R : Type} (k : List Int → Option R) {l : List Int} (hl : Sg l) (hb : l.length ≤ 65536) (hi : incB l = true) : ref10_Encode_l8 F k F l [] 0 1 = k (dl l) := by
  obtain ⟨G, hG⟩ : ∃ G, F = G + 1 := ⟨F - 1, by unfold Fuel at hF; omega⟩
  match l, hl, hb, hi with
  | [], _, _, _ =>
    rw [hG]
    unfold ref10_Encode_l8
    simp (disch := omega) only [cond_true, cond_false, iteB, notf_true_iff, not_true_iff, ltI_true, leI_true, eqI_true, inI_true, cutB_true, roomB_true, makeB_true, lenI, ↓if_pos, ↓if_neg, addI_i64, subI_i64, mulI_i64, quoI_i64, remI_nn, minI_eq, maxI_eq, length_setL, length_replI, length_takeL, length_dropL, Option.bind_some, Bool.false_eq_true, if_false, if_true, not_false_eq_true, not_true_eq_false]
    rfl
  | [p], _, _, _ =>
    rw [hG]
    unfold ref10_Encode_l8
    simp (disch := omega) only [cond_true, cond_false, iteB, notf_true_iff, not_true_iff, ltI_true, leI_true, eqI_true, inI_true, cutB_true, roomB_true, makeB_true, lenI, ↓if_pos, ↓if_neg, addI_i64, subI_i64, mulI_i64, quoI_i64, remI_nn, minI_eq, maxI_eq, length_setL, length_replI, length_takeL, length_dropL, Option.bind_some, Bool.false_eq_true, if_false, if_true, not_false_eq_true, not_true_eq_false]
    rfl
  | p :: x :: t, hl, hb, hi =>
    have hp := Sg.head hl
    have hx := Sg.head (Sg.tail hl)
    have hpx : p < x ∧ incB (x :: t) = true := by simpa [incB] using hi
    have hD := ref01_Distance_eq F hx hp (by omega)
    have g0 : getL 0 (p :: x :: t) (1 - 1) = p := rfl
    have g1 : getL 0 (p :: x :: t) 1 = x := rfl
    have r1 : roomB (([] : List Int).length + 1) 8 = true := rfl
    have a2 : addI .i64 (1 : Int) 1 = 2 := rfl
    have hll : (p :: x :: t).length = t.length + 2 := rfl
    have e := ref10_Encode_loop F k hl hb t.length 1 [x - p - 1] (x - p) (by omega) (by simp; omega) rfl (by unfold I64 at hp hx; omega) hpx.2 G (by unfold Fuel at hF; simp at hb; omega)
    have e' : ref10_Encode_l8 F k G (p :: x :: t) [x - p - 1] (x - p) 2 = k (dl (p :: x :: t)) := e
    have hsub : subI .u64 (x - p) 1 = x - p - 1 := subI_u64 (by unfold I64 at hp hx; omega)
    conv => lhs; rw [hG]
    unfold ref10_Encode_l8
    generalize p :: x :: t = l at *
    rw [hG] at e'
    rw [hG] at hD
    simp only [r1, a2]
    simp (disch := omega) only [cond_true, cond_false, iteB, notf_true_iff, not_true_iff, ltI_true, leI_true, eqI_true, inI_true, cutB_true, roomB_true, makeB_true, lenI, ↓if_pos, ↓if_neg, addI_i64, subI_i64, mulI_i64, quoI_i64, remI_nn, minI_eq, maxI_eq, length_setL, length_replI, length_takeL, length_dropL, Option.bind_some, Bool.false_eq_true, if_false, if_true, not_false_eq_true, not_true_eq_false, g0, g1, hD, hsub, List.nil_append]
    exact e'

theorem ref10_Encode_eq (F : Nat) (hF : Fuel F) {l : List Int} (hl : Sg l) (hb : (l.length : Int) ≤ 140737488355328) : ref10_Encode F l = some ((sE l).1, (sE l).2, ()) := by
  unfold ref10_Encode sE
  by_cases h : 65536 < l.length
  · rw [if_pos h]
    simp (disch := omega) only [cond_true, cond_false, iteB, notf_true_iff, not_true_iff, ltI_true, leI_true, eqI_true, inI_true, cutB_true, roomB_true, makeB_true, lenI, ↓if_pos, ↓if_neg, addI_i64, subI_i64, mulI_i64, quoI_i64, remI_nn, minI_eq, maxI_eq, length_setL, length_replI, length_takeL, length_dropL, Option.bind_some, Bool.false_eq_true, if_false, if_true, not_false_eq_true, not_true_eq_false]
  · rw [if_neg h]
    have hI := ref10_Increasing_eq F hF hb
    have hlt : ltI 65536 (lenI l) = false := by rw [← Bool.not_eq_true, ltI_true]; unfold lenI; omega
    rw [hlt, hI]
    by_cases hi : incB l = true
    · have hn := ref09_Encode_eq F hF (dl_Wd hl (incB_Inc hi)) (by rw [dl_length]; omega)
      rw [if_pos hi, hi]
      simp only [cond_false, Option.bind_some, Bool.not_true, ref10_Encode_short F hF _ hl (by omega) hi, hn]
    · rw [if_neg hi]
      rw [Bool.not_eq_true] at hi
      rw [hi]
      rfl

theorem checked_Apply_eq (F : Nat) {t d : Int} (ht : I64 t) (hd : 0 ≤ d ∧ d ≤ 9223372036854775807 - t) : checked_Apply F t d = some (t + d, ()) := by
  unfold checked_Apply
  rw [apply_eq ht hd]
theorem ref01_Apply_eq (F : Nat) {t d : Int} (ht : I64 t) (hd : 0 ≤ d ∧ d ≤ 9223372036854775807 - t) : ref01_Apply F t d = some (t + d, ()) := by
  unfold ref01_Apply
  rw [apply_eq ht hd]

theorem getL_snoc (l : List Int) (x : Int) : getL 0 (l ++ [x]) (l.length : Int) = x := by
  rw [getL_nat]; simp [List.getD_eq_getElem?_getD]

theorem stDec_j (F : Nat) {R : Type} (kn : Int → List Int → Int → List Int → Int → Int → Option R) (kr : List Int → Int → Int → Option R) (end_ : Int) {out : List Int} {p d i : Int} (nums : List Int) (n : Int) (hout : out.length ≤ 65536) (hi : i = out.length) (hp : I64 p) (hd : 0 ≤ d) :
    stamps_Decode_j14 F kn kr end_ (out ++ [p]) d i nums n i = if d = 0 ∨ 9223372036854775807 - p < d then kr [] 0 7 else kn end_ (out ++ [p] ++ [p + d]) d nums n i := by
  subst hi
  unfold stamps_Decode_j14
  have h0 : inI (out.length : Int) (out ++ [p]).length = true := by rw [inI_true]; simp; omega
  have hD := checked_Distance_eq F (a := 9223372036854775807) (b := p) (by unfold I64; omega) hp (by unfold I64 at hp; omega)
  rw [h0, cond_true, getL_snoc]
  by_cases c0 : d = 0
  · rw [if_pos (.inl c0)]
    simp (disch := omega) only [cond_true, cond_false, iteB, notf_true_iff, not_true_iff, ltI_true, leI_true, eqI_true, inI_true, cutB_true, roomB_true, makeB_true, lenI, ↓if_pos, ↓if_neg, addI_i64, subI_i64, mulI_i64, quoI_i64, remI_nn, minI_eq, maxI_eq, length_setL, length_replI, length_takeL, length_dropL, Option.bind_some, Bool.false_eq_true, if_false, if_true, not_false_eq_true, not_true_eq_false]
  · by_cases c1 : 9223372036854775807 - p < d
    · rw [if_pos (.inr c1)]
      simp (disch := omega) only [cond_true, cond_false, iteB, notf_true_iff, not_true_iff, ltI_true, leI_true, eqI_true, inI_true, cutB_true, roomB_true, makeB_true, lenI, ↓if_pos, ↓if_neg, addI_i64, subI_i64, mulI_i64, quoI_i64, remI_nn, minI_eq, maxI_eq, length_setL, length_replI, length_takeL, length_dropL, Option.bind_some, Bool.false_eq_true, if_false, if_true, not_false_eq_true, not_true_eq_false, hD]
    · rw [if_neg (by omega)]
      have hA := checked_Apply_eq F hp (d := d) (by omega)
      have hr : roomB ((out ++ [p]).length + 1) 8 = true := by rw [roomB_true]; simp; omega
      simp (disch := omega) only [cond_true, cond_false, iteB, notf_true_iff, not_true_iff, ltI_true, leI_true, eqI_true, inI_true, cutB_true, roomB_true, makeB_true, lenI, ↓if_pos, ↓if_neg, addI_i64, subI_i64, mulI_i64, quoI_i64, remI_nn, minI_eq, maxI_eq, length_setL, length_replI, length_takeL, length_dropL, Option.bind_some, Bool.false_eq_true, if_false, if_true, not_false_eq_true, not_true_eq_false, hD, hA, hr]

theorem rfDec_j (F : Nat) {R : Type} (kn : List Int → Int → List Int → Int → Int → Option R) (kr : List Int → Int → Int → Option R) (end_ : Int) {out : List Int} {p d i : Int} (nums : List Int) (hout : out.length ≤ 65536) (hi : i = out.length) (hp : I64 p) (hd : 0 ≤ d) :
    ref10_Decode_j14 F kn kr nums end_ (out ++ [p]) d i = if d = 0 ∨ 9223372036854775807 - p < d then kr [] 0 7 else kn nums end_ (out ++ [p] ++ [p + d]) d i := by
  subst hi
  unfold ref10_Decode_j14
  have h0 : inI (out.length : Int) (out ++ [p]).length = true := by rw [inI_true]; simp; omega
  have hD := ref01_Distance_eq F (a := 9223372036854775807) (b := p) (by unfold I64; omega) hp (by unfold I64 at hp; omega)
  rw [h0, cond_true, getL_snoc]
  by_cases c0 : d = 0
  · rw [if_pos (.inl c0)]
    simp (disch := omega) only [cond_true, cond_false, iteB, notf_true_iff, not_true_iff, ltI_true, leI_true, eqI_true, inI_true, cutB_true, roomB_true, makeB_true, lenI, ↓if_pos, ↓if_neg, addI_i64, subI_i64, mulI_i64, quoI_i64, remI_nn, minI_eq, maxI_eq, length_setL, length_replI, length_takeL, length_dropL, Option.bind_some, Bool.false_eq_true, if_false, if_true, not_false_eq_true, not_true_eq_false]
  · by_cases c1 : 9223372036854775807 - p < d
    · rw [if_pos (.inr c1)]
      simp (disch := omega) only [cond_true, cond_false, iteB, notf_true_iff, not_true_iff, ltI_true, leI_true, eqI_true, inI_true, cutB_true, roomB_true, makeB_true, lenI, ↓if_pos, ↓if_neg, addI_i64, subI_i64, mulI_i64, quoI_i64, remI_nn, minI_eq, maxI_eq, length_setL, length_replI, length_takeL, length_dropL, Option.bind_some, Bool.false_eq_true, if_false, if_true, not_false_eq_true, not_true_eq_false, hD]
    · rw [if_neg (by omega)]
      have hA := ref01_Apply_eq F hp (d := d) (by omega)
      have hr : roomB ((out ++ [p]).length + 1) 8 = true := by rw [roomB_true]; simp; omega
      simp (disch := omega) only [cond_true, cond_false, iteB, notf_true_iff, not_true_iff, ltI_true, leI_true, eqI_true, inI_true, cutB_true, roomB_true, makeB_true, lenI, ↓if_pos, ↓if_neg, addI_i64, subI_i64, mulI_i64, quoI_i64, remI_nn, minI_eq, maxI_eq, length_setL, length_replI, length_takeL, length_dropL, Option.bind_some, Bool.false_eq_true, if_false, if_true, not_false_eq_true, not_true_eq_false, hD, hA, hr]

theorem stDec_loop (F : Nat) {R : Type} (k : Int → List Int → Option R) (kr : List Int → Int → Int → Option R) (end_ : Int) {nums : List Int} (hw : Wd nums) (hb : nums.length ≤ 65536) : ∀ (m i : Nat) (out : List Int) (p d : Int), 1 ≤ i → i + m = nums.length → out.length = i → I64 p → (0 ≤ d ∧ d ≤ 18446744073709551615) → ∀ N, m < N →
    stamps_Decode_l9 F k kr N end_ (out ++ [p]) d nums (nums.length : Int) (i : Int) = (ups p d (nums.drop i)).elim (kr [] 0 7) (fun t => k end_ (out ++ [p] ++ t)) := by
  intro m
  induction m with
  | zero =>
    intro i out p d h1 hi ho hp hd N hN
    obtain ⟨N, rfl⟩ : ∃ M, N = M + 1 := ⟨N - 1, by omega⟩
    rw [List.drop_eq_nil_of_le (by omega)]
    simp only [ups, Option.elim_some, List.append_nil]
    unfold stamps_Decode_l9
    simp (disch := omega) only [cond_true, cond_false, iteB, notf_true_iff, not_true_iff, ltI_true, leI_true, eqI_true, inI_true, cutB_true, roomB_true, makeB_true, lenI, ↓if_pos, ↓if_neg, addI_i64, subI_i64, mulI_i64, quoI_i64, remI_nn, minI_eq, maxI_eq, length_setL, length_replI, length_takeL, length_dropL, Option.bind_some, Bool.false_eq_true, if_false, if_true, not_false_eq_true, not_true_eq_false]
  | succ m ih =>
    intro i out p d h1 hi ho hp hd N hN
    obtain ⟨N, rfl⟩ : ∃ M, N = M + 1 := ⟨N - 1, by omega⟩
    have hx := hw.get (i : Int)
    obtain ⟨v, hv⟩ := Int.eq_ofNat_of_zero_le hx.1
    have hv64 : v < 2 ^ 64 := by omega
    have hU := varint_Unzigzag_eq F hv64
    have hr := rng_wrap_u64 (d + uz v)
    have hdrop : nums.drop i = (v : Int) :: nums.drop (i + 1) := by rw [getL_Sg_split (by omega), hv]
    have hj := fun (kn : Int → List Int → Int → List Int → Int → Int → Option R) => stDec_j F kn kr end_ (out := out) (p := p) (d := IntKind.u64.wrap (d + uz v)) (i := (i : Int)) nums (nums.length : Int) (by omega) (by omega) hp hr.1
    rw [hdrop, ups, Int.toNat_natCast]
    unfold stamps_Decode_l9
    simp (disch := omega) only [cond_true, cond_false, iteB, notf_true_iff, not_true_iff, ltI_true, leI_true, eqI_true, inI_true, cutB_true, roomB_true, makeB_true, lenI, ↓if_pos, ↓if_neg, addI_i64, subI_i64, mulI_i64, quoI_i64, remI_nn, minI_eq, maxI_eq, length_setL, length_replI, length_takeL, length_dropL, Option.bind_some, Bool.false_eq_true, if_false, if_true, not_false_eq_true, not_true_eq_false, hv, hU, add_uz, hj]
    by_cases c : IntKind.u64.wrap (d + uz v) = 0 ∨ 9223372036854775807 - p < IntKind.u64.wrap (d + uz v)
    · rw [if_pos c, if_pos c]
      rfl
    · rw [if_neg c, if_neg c]
      unfold I64 at hp
      have e := ih (i + 1) (out ++ [p]) (p + IntKind.u64.wrap (d + uz v)) (IntKind.u64.wrap (d + uz v)) (by omega) (by omega) (by simp; omega) (by unfold I64; omega) hr N (by omega)
      simp only [Int.natCast_add, Int.natCast_one] at e
      refine e.trans ?_
      cases ups (p + IntKind.u64.wrap (d + uz v)) (IntKind.u64.wrap (d + uz v)) (nums.drop (i + 1)) with
      | none => rfl
      | some t => simp

theorem stDec_first (F : Nat) (hF : Fuel F) {R : Type} (k : Int → List Int → Option R) (kr : List Int → Int → Int → Option R) (end_ : Int) {nums : List Int} (hw : Wd nums) (hb : nums.length ≤ 65536) {p : Int} (hp : I64 p) :
    stamps_Decode_l9 F k kr F end_ [p] 0 nums (nums.length : Int) 0 = (up1 p nums).elim (kr [] 0 7) (fun t => k end_ (p :: t)) := by
  obtain ⟨G, hG⟩ : ∃ G, F = G + 1 := ⟨F - 1, by unfold Fuel at hF; omega⟩
  by_cases h0 : nums.length = 0
  · have := List.length_eq_zero_iff.1 h0
    subst this
    conv => lhs; rw [hG]
    unfold stamps_Decode_l9
    simp (disch := omega) only [cond_true, cond_false, iteB, notf_true_iff, not_true_iff, ltI_true, leI_true, eqI_true, inI_true, cutB_true, roomB_true, makeB_true, lenI, ↓if_pos, ↓if_neg, addI_i64, subI_i64, mulI_i64, quoI_i64, remI_nn, minI_eq, maxI_eq, length_setL, length_replI, length_takeL, length_dropL, Option.bind_some, Bool.false_eq_true, if_false, if_true, not_false_eq_true, not_true_eq_false]
    rfl
  · have hdrop : nums = getL 0 nums 0 :: nums.drop 1 := by
      have := getL_Sg_split (l := nums) (j := 0) (by omega)
      simpa using this
    have hr := rng_wrap_u64 (getL 0 nums 0 + 1)
    have hj := fun (kn : Int → List Int → Int → List Int → Int → Int → Option R) => stDec_j F kn kr end_ (out := []) (p := p) (d := IntKind.u64.wrap (getL 0 nums 0 + 1)) (i := 0) nums (nums.length : Int) (by simp) (by simp) hp hr.1
    have hup : up1 p nums = if IntKind.u64.wrap (getL 0 nums 0 + 1) = 0 ∨ 9223372036854775807 - p < IntKind.u64.wrap (getL 0 nums 0 + 1) then none
      else (ups (p + IntKind.u64.wrap (getL 0 nums 0 + 1)) (IntKind.u64.wrap (getL 0 nums 0 + 1)) (nums.drop 1)).map fun l => (p + IntKind.u64.wrap (getL 0 nums 0 + 1)) :: l := by
      conv => lhs; rw [hdrop]
      rfl
    have hadd : addI .u64 (getL 0 nums 0) 1 = IntKind.u64.wrap (getL 0 nums 0 + 1) := rfl
    have step : stamps_Decode_l9 F k kr (G + 1) end_ [p] 0 nums (nums.length : Int) 0 = if IntKind.u64.wrap (getL 0 nums 0 + 1) = 0 ∨ 9223372036854775807 - p < IntKind.u64.wrap (getL 0 nums 0 + 1) then kr [] 0 7 else stamps_Decode_l9 F k kr G end_ ([p] ++ [p + IntKind.u64.wrap (getL 0 nums 0 + 1)]) (IntKind.u64.wrap (getL 0 nums 0 + 1)) nums (nums.length : Int) 1 := by
      refine Eq.trans ?_ (hj (fun z20 z21 z22 z23 z24 z25 => stamps_Decode_l9 F k kr G z20 z21 z22 z23 z24 (addI .i64 z25 1)))
      show stamps_Decode_l9 F k kr (G + 1) end_ [p] 0 nums (nums.length : Int) 0 = _
      conv => lhs; unfold stamps_Decode_l9
      simp (disch := omega) only [cond_true, cond_false, iteB, notf_true_iff, not_true_iff, ltI_true, leI_true, eqI_true, inI_true, cutB_true, roomB_true, makeB_true, lenI, ↓if_pos, ↓if_neg, addI_i64, subI_i64, mulI_i64, quoI_i64, remI_nn, minI_eq, maxI_eq, length_setL, length_replI, length_takeL, length_dropL, Option.bind_some, Bool.false_eq_true, if_false, if_true, not_false_eq_true, not_true_eq_false, hadd]
      rfl
    have hFG : stamps_Decode_l9 F k kr F end_ [p] 0 nums (nums.length : Int) 0 = stamps_Decode_l9 F k kr (G + 1) end_ [p] 0 nums (nums.length : Int) 0 := by rw [← hG]
    rw [hFG, step, hup]
    by_cases c : IntKind.u64.wrap (getL 0 nums 0 + 1) = 0 ∨ 9223372036854775807 - p < IntKind.u64.wrap (getL 0 nums 0 + 1)
    · rw [if_pos c, if_pos c]
      rfl
    · rw [if_neg c, if_neg c]
      unfold I64 at hp
      have e := stDec_loop F k kr end_ hw hb (nums.length - 1) 1 [p] (p + IntKind.u64.wrap (getL 0 nums 0 + 1)) (IntKind.u64.wrap (getL 0 nums 0 + 1)) (by omega) (by omega) rfl (by unfold I64; omega) hr G (by unfold Fuel at hF; omega)
      refine e.trans ?_
      cases ups (p + IntKind.u64.wrap (getL 0 nums 0 + 1)) (IntKind.u64.wrap (getL 0 nums 0 + 1)) (nums.drop 1) with
      | none => rfl
      | some t => rfl

theorem rfDec_loop (F : Nat) {R : Type} (k : Int → List Int → Option R) (kr : List Int → Int → Int → Option R) (end_ : Int) {nums : List Int} (hw : Wd nums) (hb : nums.length ≤ 65536) : ∀ (m i : Nat) (out : List Int) (p d : Int), 1 ≤ i → i + m = nums.length → out.length = i → I64 p → (0 ≤ d ∧ d ≤ 18446744073709551615) → ∀ N, m < N →
    ref10_Decode_l9 F k kr N nums end_ (out ++ [p]) d (i : Int) = (ups p d (nums.drop i)).elim (kr [] 0 7) (fun t => k end_ (out ++ [p] ++ t)) := by
  intro m
  induction m with
  | zero =>
    intro i out p d h1 hi ho hp hd N hN
    obtain ⟨N, rfl⟩ : ∃ M, N = M + 1 := ⟨N - 1, by omega⟩
    rw [List.drop_eq_nil_of_le (by omega)]
    simp only [ups, Option.elim_some, List.append_nil]
    unfold ref10_Decode_l9
    simp (disch := omega) only [cond_true, cond_false, iteB, notf_true_iff, not_true_iff, ltI_true, leI_true, eqI_true, inI_true, cutB_true, roomB_true, makeB_true, lenI, ↓if_pos, ↓if_neg, addI_i64, subI_i64, mulI_i64, quoI_i64, remI_nn, minI_eq, maxI_eq, length_setL, length_replI, length_takeL, length_dropL, Option.bind_some, Bool.false_eq_true, if_false, if_true, not_false_eq_true, not_true_eq_false]
  | succ m ih =>
    intro i out p d h1 hi ho hp hd N hN
    obtain ⟨N, rfl⟩ : ∃ M, N = M + 1 := ⟨N - 1, by omega⟩
    have hx := hw.get (i : Int)
    obtain ⟨v, hv⟩ := Int.eq_ofNat_of_zero_le hx.1
    have hv64 : v < 2 ^ 64 := by omega
    have hU := ref05_Unzigzag_eq F hv64
    have hr := rng_wrap_u64 (d + uz v)
    have hdrop : nums.drop i = (v : Int) :: nums.drop (i + 1) := by rw [getL_Sg_split (by omega), hv]
    have hj := fun (kn : List Int → Int → List Int → Int → Int → Option R) => rfDec_j F kn kr end_ (out := out) (p := p) (d := IntKind.u64.wrap (d + uz v)) (i := (i : Int)) nums (by omega) (by omega) hp hr.1
    rw [hdrop, ups, Int.toNat_natCast]
    unfold ref10_Decode_l9
    simp (disch := omega) only [cond_true, cond_false, iteB, notf_true_iff, not_true_iff, ltI_true, leI_true, eqI_true, inI_true, cutB_true, roomB_true, makeB_true, lenI, ↓if_pos, ↓if_neg, addI_i64, subI_i64, mulI_i64, quoI_i64, remI_nn, minI_eq, maxI_eq, length_setL, length_replI, length_takeL, length_dropL, Option.bind_some, Bool.false_eq_true, if_false, if_true, not_false_eq_true, not_true_eq_false, hv, hU, add_uz, hj]
    by_cases c : IntKind.u64.wrap (d + uz v) = 0 ∨ 9223372036854775807 - p < IntKind.u64.wrap (d + uz v)
    · rw [if_pos c, if_pos c]
      rfl
    · rw [if_neg c, if_neg c]
      unfold I64 at hp
      have e := ih (i + 1) (out ++ [p]) (p + IntKind.u64.wrap (d + uz v)) (IntKind.u64.wrap (d + uz v)) (by omega) (by omega) (by simp; omega) (by unfold I64; omega) hr N (by omega)
      simp only [Int.natCast_add, Int.natCast_one] at e
      refine e.trans ?_
      cases ups (p + IntKind.u64.wrap (d + uz v)) (IntKind.u64.wrap (d + uz v)) (nums.drop (i + 1)) with
      | none => rfl
      | some t => simp

theorem rfDec_first (F : Nat) (hF : Fuel F) {R : Type} (k : Int → List Int → Option R) (kr : List Int → Int → Int → Option R) (end_ : Int) {nums : List Int} (hw : Wd nums) (hb : nums.length ≤ 65536) {p : Int} (hp : I64 p) :
    ref10_Decode_l9 F k kr F nums end_ [p] 0 0 = (up1 p nums).elim (kr [] 0 7) (fun t => k end_ (p :: t)) := by
  obtain ⟨G, hG⟩ : ∃ G, F = G + 1 := ⟨F - 1, by unfold Fuel at hF; omega⟩
  by_cases h0 : nums.length = 0
  · have := List.length_eq_zero_iff.1 h0
    subst this
    conv => lhs; rw [hG]
    unfold ref10_Decode_l9
    simp (disch := omega) only [cond_true, cond_false, iteB, notf_true_iff, not_true_iff, ltI_true, leI_true, eqI_true, inI_true, cutB_true, roomB_true, makeB_true, lenI, ↓if_pos, ↓if_neg, addI_i64, subI_i64, mulI_i64, quoI_i64, remI_nn, minI_eq, maxI_eq, length_setL, length_replI, length_takeL, length_dropL, Option.bind_some, Bool.false_eq_true, if_false, if_true, not_false_eq_true, not_true_eq_false]
    rfl
  · have hdrop : nums = getL 0 nums 0 :: nums.drop 1 := by
      have := getL_Sg_split (l := nums) (j := 0) (by omega)
      simpa using this
    have hr := rng_wrap_u64 (getL 0 nums 0 + 1)
    have hj := fun (kn : List Int → Int → List Int → Int → Int → Option R) => rfDec_j F kn kr end_ (out := []) (p := p) (d := IntKind.u64.wrap (getL 0 nums 0 + 1)) (i := 0) nums (by simp) (by simp) hp hr.1
    have hup : up1 p nums = if IntKind.u64.wrap (getL 0 nums 0 + 1) = 0 ∨ 9223372036854775807 - p < IntKind.u64.wrap (getL 0 nums 0 + 1) then none
      else (ups (p + IntKind.u64.wrap (getL 0 nums 0 + 1)) (IntKind.u64.wrap (getL 0 nums 0 + 1)) (nums.drop 1)).map fun l => (p + IntKind.u64.wrap (getL 0 nums 0 + 1)) :: l := by
      conv => lhs; rw [hdrop]
      rfl
    have hadd : addI .u64 (getL 0 nums 0) 1 = IntKind.u64.wrap (getL 0 nums 0 + 1) := rfl
    have step : ref10_Decode_l9 F k kr (G + 1) nums end_ [p] 0 0 = if IntKind.u64.wrap (getL 0 nums 0 + 1) = 0 ∨ 9223372036854775807 - p < IntKind.u64.wrap (getL 0 nums 0 + 1) then kr [] 0 7 else ref10_Decode_l9 F k kr G nums end_ ([p] ++ [p + IntKind.u64.wrap (getL 0 nums 0 + 1)]) (IntKind.u64.wrap (getL 0 nums 0 + 1)) 1 := by
      refine Eq.trans ?_ (hj (fun z20 z21 z22 z23 z24 => ref10_Decode_l9 F k kr G z20 z21 z22 z23 (addI .i64 z24 1)))
      show ref10_Decode_l9 F k kr (G + 1) nums end_ [p] 0 0 = _
      conv => lhs; unfold ref10_Decode_l9
      simp (disch := omega) only [cond_true, cond_false, iteB, notf_true_iff, not_true_iff, ltI_true, leI_true, eqI_true, inI_true, cutB_true, roomB_true, makeB_true, lenI, ↓if_pos, ↓if_neg, addI_i64, subI_i64, mulI_i64, quoI_i64, remI_nn, minI_eq, maxI_eq, length_setL, length_replI, length_takeL, length_dropL, Option.bind_some, Bool.false_eq_true, if_false, if_true, not_false_eq_true, not_true_eq_false, hadd]
      rfl
    have hFG : ref10_Decode_l9 F k kr F nums end_ [p] 0 0 = ref10_Decode_l9 F k kr (G + 1) nums end_ [p] 0 0 := by rw [← hG]
    rw [hFG, step, hup]
    by_cases c : IntKind.u64.wrap (getL 0 nums 0 + 1) = 0 ∨ 9223372036854775807 - p < IntKind.u64.wrap (getL 0 nums 0 + 1)
    · rw [if_pos c, if_pos c]
      rfl
    · rw [if_neg c, if_neg c]
      unfold I64 at hp
      have e := rfDec_loop F k kr end_ hw hb (nums.length - 1) 1 [p] (p + IntKind.u64.wrap (getL 0 nums 0 + 1)) (IntKind.u64.wrap (getL 0 nums 0 + 1)) (by omega) (by omega) rfl (by unfold I64; omega) hr G (by unfold Fuel at hF; omega)
      refine e.trans ?_
      cases ups (p + IntKind.u64.wrap (getL 0 nums 0 + 1)) (IntKind.u64.wrap (getL 0 nums 0 + 1)) (nums.drop 1) with
      | none => rfl
      | some t => rfl

/-- what is known of times that were read -/
def ReadS (b : List Int) (at_ first n : Int) (x : List Int) (end_ e : Int) : Prop :=
  Sg x ∧ (e = 0 → 0 ≤ at_ ∧ (x.length : Int) = n ∧ 1 ≤ n ∧ n ≤ 65536 ∧ at_ < end_ ∧ end_ ≤ b.length ∧ incB x = true ∧ getL 0 x 0 = first ∧ nE (dl x) = dropL (takeL b end_) at_) ∧ (e ≠ 0 → x = [] ∧ end_ = 0)

theorem ReadS.err (b : List Int) (at_ first n : Int) {e : Int} (h : e ≠ 0) : ReadS b at_ first n [] 0 e := ⟨Sg.nil, fun h2 => absurd h2 h, fun _ => ⟨rfl, rfl⟩⟩

theorem sDecode (F : Nat) (hF : Fuel F) {b : List Int} (hb : Bt b) (hl : (b.length : Int) ≤ 140737488355328) (at_ : Int) {first : Int} (hf : I64 first) (n : Int) :
    ∃ x end_ e, stamps_Decode F b at_ first n = some (x, end_, e, ()) ∧ ref10_Decode F b at_ first n = some (x, end_, e, ()) ∧ ReadS b at_ first n x end_ e := by
  by_cases c : at_ < 0 ∨ (b.length : Int) < at_ ∨ n < 1 ∨ 65536 < n
  · refine ⟨[], 0, 2, ?_, ?_, ReadS.err _ _ _ _ (by omega)⟩
    · unfold stamps_Decode
      cases h1 : ltI at_ 0 with
      | true => rfl
      | false =>
        cases h2 : ltI (lenI b) at_ with
        | true => rfl
        | false =>
          cases h3 : ltI n 1 with
          | true => rfl
          | false =>
            cases h4 : ltI 65536 n with
            | true => rfl
            | false =>
              rw [← Bool.not_eq_true, ltI_true] at h1 h2 h3 h4
              unfold lenI at h2
              omega
    · unfold ref10_Decode
      cases h1 : ltI at_ 0 with
      | true => rfl
      | false =>
        cases h2 : ltI (lenI b) at_ with
        | true => rfl
        | false =>
          cases h3 : ltI n 1 with
          | true => rfl
          | false =>
            cases h4 : ltI 65536 n with
            | true => rfl
            | false =>
              rw [← Bool.not_eq_true, ltI_true] at h1 h2 h3 h4
              unfold lenI at h2
              omega
  · obtain ⟨l, end_, e, d1, d2, d3, d4, d5⟩ := nDecode F hF hb hl at_ (n - 1)
    have x1 : ltI at_ 0 = false := by rw [← Bool.not_eq_true, ltI_true]; omega
    have x2 : ltI (lenI b) at_ = false := by rw [← Bool.not_eq_true, ltI_true]; unfold lenI; omega
    have x3 : ltI n 1 = false := by rw [← Bool.not_eq_true, ltI_true]; omega
    have x4 : ltI 65536 n = false := by rw [← Bool.not_eq_true, ltI_true]; omega
    have x5 : subI .i64 n 1 = n - 1 := subI_i64 (by omega)
    by_cases c0 : e = 0
    · subst c0
      obtain ⟨g1, g2, g3, g4, g5, g6⟩ := d4 rfl
      have s1 := fun (R : Type) (k : Int → List Int → Option R) (kr : List Int → Int → Int → Option R) => stDec_first F hF k kr end_ d3 (by omega) hf
      have s2 := fun (R : Type) (k : Int → List Int → Option R) (kr : List Int → Int → Int → Option R) => rfDec_first F hF k kr end_ d3 (by omega) hf
      have hl' : lenI l = (l.length : Int) := rfl
      cases hu : up1 first l with
      | none =>
        rw [hu] at s1 s2
        refine ⟨[], 0, 7, ?_, ?_, ReadS.err _ _ _ _ (by omega)⟩
        · unfold stamps_Decode
          simp only [x1, x2, x3, x4, x5, cond_false, d1, Option.bind_some, show eqI (0 : Int) 0 = true from rfl, Bool.not_true, hl', s1, Option.elim_none]
        · unfold ref10_Decode
          simp only [x1, x2, x3, x4, x5, cond_false, d2, Option.bind_some, show eqI (0 : Int) 0 = true from rfl, Bool.not_true, s2, Option.elim_none]
      | some t =>
        rw [hu] at s1 s2
        obtain ⟨u1, u2, u3, u4⟩ := dl_up1 d3 hf hu
        refine ⟨first :: t, end_, 0, ?_, ?_, u1, fun _ => ⟨g1, by simp; omega, by omega, by omega, g4, g5, Inc_incB u2, rfl, by rw [u3]; exact g6⟩, fun h => absurd rfl h⟩
        · unfold stamps_Decode
          simp only [x1, x2, x3, x4, x5, cond_false, d1, Option.bind_some, show eqI (0 : Int) 0 = true from rfl, Bool.not_true, hl', s1, Option.elim_some]
        · unfold ref10_Decode
          simp only [x1, x2, x3, x4, x5, cond_false, d2, Option.bind_some, show eqI (0 : Int) 0 = true from rfl, Bool.not_true, s2, Option.elim_some]
    · have x6 : eqI e 0 = false := by rw [← Bool.not_eq_true, eqI_true]; exact c0
      refine ⟨[], 0, e, ?_, ?_, ReadS.err _ _ _ _ c0⟩
      · unfold stamps_Decode
        simp only [x1, x2, x3, x4, x5, cond_false, d1, Option.bind_some, x6, Bool.not_false, cond_true]
      · unfold ref10_Decode
        simp only [x1, x2, x3, x4, x5, cond_false, d2, Option.bind_some, x6, Bool.not_false, cond_true]

theorem sDecode_back (F : Nat) (hF : Fuel F) {p : Int} {t : List Int} (hw : Sg (p :: t)) (hi : incB (p :: t) = true) (hn : t.length < 65536) {b rest : List Int} (hb : Bt b) (hr : Bt rest) (hl : ((b ++ (nE (dl (p :: t)) ++ rest)).length : Int) ≤ 140737488355328) :
    stamps_Decode F (b ++ (nE (dl (p :: t)) ++ rest)) (b.length : Int) p ((p :: t).length : Int) = some (p :: t, (b.length : Int) + (nE (dl (p :: t))).length, 0, ()) := by
  have hI := incB_Inc hi
  have hdw := dl_Wd hw hI
  have hdl : (dl (p :: t)).length = t.length := by rw [dl_length]; rfl
  have hB := nDecode_back F hF hdw (by omega) hb hr hl
  have hu := up1_dl hw hI
  have s1 := fun (R : Type) (k : Int → List Int → Option R) (kr : List Int → Int → Int → Option R) => stDec_first F hF k kr ((b.length : Int) + (nE (dl (p :: t))).length) hdw (by omega) (Sg.head hw)
  rw [hu] at s1
  have hlen : (b ++ (nE (dl (p :: t)) ++ rest)).length = b.length + ((nE (dl (p :: t))).length + rest.length) := by simp
  have hpt : (p :: t).length = t.length + 1 := rfl
  have x1 : ltI (b.length : Int) 0 = false := by rw [← Bool.not_eq_true, ltI_true]; omega
  have x2 : ltI (lenI (b ++ (nE (dl (p :: t)) ++ rest))) (b.length : Int) = false := by rw [← Bool.not_eq_true, ltI_true]; unfold lenI; omega
  have x3 : ltI ((p :: t).length : Int) 1 = false := by rw [← Bool.not_eq_true, ltI_true]; omega
  have x4 : ltI 65536 ((p :: t).length : Int) = false := by rw [← Bool.not_eq_true, ltI_true]; omega
  have x5 : subI .i64 ((p :: t).length : Int) 1 = ((dl (p :: t)).length : Int) := by rw [subI_i64 (by omega)]; omega
  have hl' : lenI (dl (p :: t)) = ((dl (p :: t)).length : Int) := rfl
  unfold stamps_Decode
  simp only [x1, x2, x3, x4, x5, cond_false, hB, Option.bind_some, show eqI (0 : Int) 0 = true from rfl, Bool.not_true, hl', s1, Option.elim_some]

end Go.Proofs.Ytfmjokmjaghehaa
