/- Layer 24: what the models say, in plain numbers: the laws hold. -/
import Derived.Test.YtlgfiljadnafeaaBuckets
set_option linter.unusedVariables false
set_option linter.unusedSimpArgs false
namespace Go.Proofs.Ytlgfiljadnafeaa
open Go.Eng

theorem tmod_pos {x y : Int} (hy : 0 < y) : (0 ≤ x.tmod y → x.tmod y = x % y) ∧ (x.tmod y < 0 → x.tmod y + y = x % y) ∧ x.tmod y < y ∧ -y < x.tmod y := by
  have h1 : x % y = (x.tmod y) % y := by
    have h := Int.tmod_add_mul_tdiv x y
    have e : x = x.tmod y + y * x.tdiv y := h.symm
    conv => lhs; rw [e]
    exact Int.add_mul_emod_self_left _ _ _
  have h2 : x.tmod y < y := Int.tmod_lt_of_pos x hy
  have h3 : -y < x.tmod y := by
    have := Int.tmod_lt_of_pos (-x) hy
    rw [Int.neg_tmod] at this
    omega
  refine ⟨fun h => ?_, fun h => ?_, h2, h3⟩
  · rw [h1, Int.emod_eq_of_lt h h2]
  · rw [h1, ← Int.add_emod_right, Int.emod_eq_of_lt (by omega) (by omega)]

theorem f15_spec (F : Nat) {x y : Int} (hx : -9223372036854775808 ≤ x ∧ x ≤ 9223372036854775807) (hy : 1 ≤ y ∧ y ≤ 9223372036854775807) : f15 F x y = some (x % y, ()) := by
  unfold f15
  obtain ⟨h1, h2, h3, h4⟩ := tmod_pos (x := x) (y := y) (by omega)
  have e1 : ltI y 1 = false := by simp [ltI]; omega
  have e2 : eqI y 0 = false := by simp [eqI]; omega
  rw [e1, e2]
  simp only [cond_false, remI]
  by_cases h : x.tmod y < 0
  · have e3 : ltI (x.tmod y) 0 = true := by simp [ltI, h]
    rw [e3, cond_true, addI_i64 (by omega), h2 h]
  · have e3 : ltI (x.tmod y) 0 = false := by simp [ltI]; omega
    rw [e3, cond_false, h1 (by omega)]

/-- a bound -/
def bg (n k : Int) (i : Nat) : Int := 1 + (i : Int) * (n - 2) / (k - 2)
def bl (n k : Int) : List Int := (List.range (k - 1).toNat).map (bg n k)

theorem step_eq {n k : Int} {i : Nat} (hk : 3 ≤ k) (hn : k ≤ n) (hm : n ≤ 1073741824) (hi : (i : Int) < k - 1) :
    addI .i64 1 (quoI .i64 (mulI .i64 i (subI .i64 n 2)) (subI .i64 k 2)) = bg n k i ∧ eqI (subI .i64 k 2) 0 = false := by
  have hp0 : 0 ≤ (i : Int) * (n - 2) := Int.mul_nonneg (by omega) (by omega)
  have hp1 : (i : Int) * (n - 2) ≤ 1073741824 * 1073741824 := Int.mul_le_mul (by omega) (by omega) (by omega) (by omega)
  rw [subI_i64 (x := n) (by omega), subI_i64 (x := k) (by omega), mulI_i64 (by omega)]
  have hq0 : 0 ≤ (i : Int) * (n - 2) / (k - 2) := Int.ediv_nonneg hp0 (by omega)
  have hq1 : (i : Int) * (n - 2) / (k - 2) ≤ (i : Int) * (n - 2) := Int.ediv_le_self _ hp0
  have hq : quoI .i64 ((i : Int) * (n - 2)) (k - 2) = (i : Int) * (n - 2) / (k - 2) := by
    unfold quoI
    rw [Int.tdiv_eq_ediv_of_nonneg hp0, wrap_i64 (by omega)]
  rw [hq, addI_i64 (by omega)]
  exact ⟨rfl, by simp [eqI]; omega⟩

theorem f18_loop (F : Nat) {R : Type} (kk : List Int → Option R) {n k : Int} (hk : 3 ≤ k) (hn : k ≤ n) (hm : n ≤ 1073741824) : ∀ (m i : Nat) (xs : List Int), i + m = (k - 1).toNat → xs.length = (k - 1).toNat → (∀ j, j < i → xs[j]? = some (bg n k j)) →
    ∀ N, m < N → f18l5 F kk N n k xs (k - 1) i = kk (bl n k) := by
  intro m
  induction m with
  | zero =>
    intro i xs hi hl hj N hN
    obtain ⟨N, rfl⟩ : ∃ M, N = M + 1 := ⟨N - 1, by omega⟩
    have e : ltI (i : Int) (k - 1) = false := by simp [ltI]; omega
    simp only [f18l5, e, cond_false]
    congr 1
    apply List.ext_getElem?
    intro j
    by_cases h : j < i
    · rw [hj j h, bl, List.getElem?_map, List.getElem?_range (by omega)]; rfl
    · rw [List.getElem?_eq_none (by omega), List.getElem?_eq_none (by simp [bl]; omega)]
  | succ m ih =>
    intro i xs hi hl hj N hN
    obtain ⟨N, rfl⟩ : ∃ M, N = M + 1 := ⟨N - 1, by omega⟩
    have e : ltI (i : Int) (k - 1) = true := by simp [ltI]; omega
    obtain ⟨s1, s2⟩ := step_eq (i := i) hk hn hm (by omega)
    have e2 : inI (i : Int) xs.length = true := by simp [inI]; omega
    simp only [f18l5, e, s2, e2, s1, cond_true, cond_false]
    rw [addI_i64 (by omega)]
    have := ih (i + 1) (setL xs i (bg n k i)) (by omega) (by simp [setL, hl]) (fun j hj' => ?_) N (by omega)
    · rw [← this]; congr 1
    · simp only [setL, Int.toNat_natCast]
      rw [List.getElem?_set]
      by_cases h : i = j
      · subst h; simp; omega
      · simp only [h, if_false]; exact hj j (by omega)

theorem f18_spec (F : Nat) {n k : Int} (hF : (k - 1).toNat < F) (hk : 3 ≤ k) (hn : k ≤ n) (hm : n ≤ 1073741824) : f18 F n k = some (bl n k, true, ()) := by
  unfold f18
  have e1 : ltI k 3 = false := by simp [ltI]; omega
  have e2 : ltI n k = false := by simp [ltI]; omega
  have e3 : ltI 1073741824 n = false := by simp [ltI]; omega
  rw [e1, e2, e3]
  simp only [cond_false]
  rw [subI_i64 (x := k) (by omega)]
  have e4 : makeB (k - 1) (k - 1) 8 = true := by rw [makeB_true]; omega
  rw [e4, cond_true]
  have hl : lenI (replI (k - 1) (0 : Int)) = k - 1 := by simp [lenI, replI]; omega
  rw [hl]
  exact f18_loop F _ hk hn hm (k - 1).toNat 0 _ (by omega) (by simp [replI]) (fun j hj => by omega) F hF

theorem f18_bad (F : Nat) {n k : Int} (h : k < 3 ∨ n < k ∨ 1073741824 < n) : f18 F n k = some ([], false, ()) := by
  unfold f18
  simp only [bif_ite, ltI_true]
  split
  · rfl
  · split
    · rfl
    · rw [if_pos (by omega)]

theorem f56_bad (F : Nat) {n k : Int} (h : k < 3 ∨ n < k ∨ 1073741824 < n) : f56 F n k = some ([], false, ()) := by
  unfold f56
  simp only [bif_ite, ltI_true]
  split
  · rfl
  · split
    · rfl
    · rw [if_pos (by omega)]

theorem f56_loop (F : Nat) {R : Type} (kk : List Int → Option R) {n k : Int} (hk : 3 ≤ k) (hn : k ≤ n) (hm : n ≤ 1073741824) : ∀ (m i : Nat), i + m = (k - 1).toNat →
    ∀ N, m < N → f56l5 F kk N n k ((List.range i).map (bg n k)) i = kk (bl n k) := by
  intro m
  induction m with
  | zero =>
    intro i hi N hN
    obtain ⟨N, rfl⟩ : ∃ M, N = M + 1 := ⟨N - 1, by omega⟩
    have e : leI (i : Int) (subI .i64 k 2) = false := by rw [subI_i64 (by omega)]; simp [leI]; omega
    simp only [f56l5, e, cond_false]
    rw [bl, ← hi]; rfl
  | succ m ih =>
    intro i hi N hN
    obtain ⟨N, rfl⟩ : ∃ M, N = M + 1 := ⟨N - 1, by omega⟩
    have e : leI (i : Int) (subI .i64 k 2) = true := by rw [subI_i64 (by omega)]; simp [leI]; omega
    obtain ⟨s1, s2⟩ := step_eq (i := i) hk hn hm (by omega)
    have e2 : roomB (((List.range i).map (bg n k)).length + 1) 8 = true := by rw [roomB_true]; simp; omega
    simp only [f56l5, e, s2, e2, s1, cond_true, cond_false]
    rw [addI_i64 (by omega)]
    have := ih (i + 1) (by omega) N (by omega)
    rw [List.range_succ, List.map_append] at this
    simpa using this

theorem f56_spec (F : Nat) {n k : Int} (hF : (k - 1).toNat < F) (hk : 3 ≤ k) (hn : k ≤ n) (hm : n ≤ 1073741824) : f56 F n k = some (bl n k, true, ()) := by
  unfold f56
  have e1 : ltI k 3 = false := by simp [ltI]; omega
  have e2 : ltI n k = false := by simp [ltI]; omega
  have e3 : ltI 1073741824 n = false := by simp [ltI]; omega
  rw [e1, e2, e3]
  simp only [cond_false]
  exact f56_loop F _ hk hn hm (k - 1).toNat 0 (by omega) F hF

theorem f16_spec (F : Nat) (hF : 4 < F) : f16 F = some (true, ()) := by
  unfold f16
  rw [f18_spec F (by omega) (by omega) (by omega) (by omega)]
  rfl

theorem f17_loop (F : Nat) {R : Type} (k0 : Option R) (kr : Bool → Option R) (xs : List Int) (hl : (xs.length : Int) ≤ 9223372036854775807) : ∀ (m i : Nat), i + m = xs.length → ∀ N, m < N → f17l6 F k0 kr N xs xs i = k0 := by
  intro m
  induction m with
  | zero =>
    intro i hi N hN
    obtain ⟨N, rfl⟩ : ∃ M, N = M + 1 := ⟨N - 1, by omega⟩
    have e : ltI (i : Int) (lenI xs) = false := by simp [ltI, lenI]; omega
    simp only [f17l6, e, cond_false]
  | succ m ih =>
    intro i hi N hN
    obtain ⟨N, rfl⟩ : ∃ M, N = M + 1 := ⟨N - 1, by omega⟩
    have e : ltI (i : Int) (lenI xs) = true := by simp [ltI, lenI]; omega
    have e2 : inI (i : Int) xs.length = true := by simp [inI]; omega
    have e3 : not (eqI (getL 0 xs i) (getL 0 xs i)) = false := by simp [eqI]
    simp only [f17l6, e, e2, e3, cond_true, cond_false]
    rw [addI_i64 (by omega)]
    exact ih (i + 1) (by omega) N (by omega)

theorem f17_spec (F : Nat) (hF : 1073741826 < F) (n k : Int) : f17 F n k = some (true, ()) := by
  unfold f17
  by_cases h : k < 3 ∨ n < k ∨ 1073741824 < n
  · rw [f18_bad F h, f56_bad F h]
    obtain ⟨N, rfl⟩ : ∃ M, F = M + 1 := ⟨F - 1, by omega⟩
    rfl
  · rw [f18_spec F (by omega) (by omega) (by omega) (by omega), f56_spec F (by omega) (by omega) (by omega) (by omega)]
    simp only [Option.bind_some]
    have e1 : not (eqT .bool true true) = false := rfl
    have e2 : not (eqI (lenI (bl n k)) (lenI (bl n k))) = false := by simp [eqI]
    rw [e1, e2]
    simp only [cond_false]
    have hl : (bl n k).length = (k - 1).toNat := by simp [bl]
    exact f17_loop F _ _ (bl n k) (by omega) (bl n k).length 0 (by omega) F (by omega)

/-- The law BucketsForms. -/
theorem f3_true (F : Nat) (hF : 1073741826 < F) {n k : Int} (hn : -9223372036854775808 ≤ n ∧ n ≤ 9223372036854775807) (hk : -9223372036854775808 ≤ k ∧ k ≤ 9223372036854775807) : f3 F n k = some (true, ()) := by
  unfold f3
  simp only [f15_spec F hn (show (1 : Int) ≤ 400 ∧ (400 : Int) ≤ 9223372036854775807 by omega), f15_spec F hk (show (1 : Int) ≤ 300 ∧ (300 : Int) ≤ 9223372036854775807 by omega), f15_spec F hk (show (1 : Int) ≤ 2 ∧ (2 : Int) ≤ 9223372036854775807 by omega), Option.bind_some, f16_spec F (by omega), f17_spec F hF, cond_true, bif_ite, if_true]
  simp

/-- neighbouring bounds -/
theorem bg_step {n k : Int} {i : Nat} (hk : 3 ≤ k) (hn : k ≤ n) : (n - 2) / (k - 2) ≤ bg n k (i + 1) - bg n k i ∧ bg n k (i + 1) - bg n k i ≤ (n - 2) / (k - 2) + 1 := by
  unfold bg
  generalize hb : k - 2 = b
  generalize ha : n - 2 = a
  have hb0 : 0 < b := by omega
  have e : ((i + 1 : Nat) : Int) * a = (i : Int) * a + a := by push_cast; rw [Int.add_mul]; omega
  rw [e]
  generalize (i : Int) * a = c
  have h1 := Int.mul_ediv_add_emod c b
  have h2 := Int.mul_ediv_add_emod a b
  have h3 := Int.mul_ediv_add_emod (c + a) b
  have r1 := Int.emod_nonneg c (by omega : b ≠ 0)
  have r2 := Int.emod_nonneg a (by omega : b ≠ 0)
  have r3 := Int.emod_nonneg (c + a) (by omega : b ≠ 0)
  have l1 := Int.emod_lt_of_pos c hb0
  have l2 := Int.emod_lt_of_pos a hb0
  have l3 := Int.emod_lt_of_pos (c + a) hb0
  have key : b * ((c + a) / b - c / b - a / b) = c % b + a % b - (c + a) % b := by
    rw [Int.mul_sub, Int.mul_sub]; omega
  have u1 : -1 < (c + a) / b - c / b - a / b := by
    refine Int.lt_of_mul_lt_mul_left (a := b) ?_ (by omega)
    rw [key]; omega
  have u2 : (c + a) / b - c / b - a / b < 2 := by
    refine Int.lt_of_mul_lt_mul_left (a := b) ?_ (by omega)
    rw [key]; omega
  omega

theorem getL_bl {n k : Int} {i : Nat} (h : i < (k - 1).toNat) : getL 0 (bl n k) (i : Int) = bg n k i := by
  unfold getL bl
  rw [Int.toNat_natCast, List.getD_eq_getElem?_getD, List.getElem?_map, List.getElem?_range h]
  rfl

theorem f4_loop (F : Nat) {R : Type} (kk : Int → Int → Option R) {n k : Int} (hk : 3 ≤ k) (hn : k ≤ n) (hm : n ≤ 1073741824) : ∀ (m i : Nat), i + m = (k - 1).toNat → 1 ≤ i → ∀ (least most : Int), (n - 2) / (k - 2) ≤ least → most ≤ (n - 2) / (k - 2) + 1 →
    ∀ N, m < N → ∃ l' m', l' ≤ least ∧ (n - 2) / (k - 2) ≤ l' ∧ m' ≤ (n - 2) / (k - 2) + 1 ∧ f4l8 F kk N (bl n k) least most i = kk l' m' := by
  have hl : (bl n k).length = (k - 1).toNat := by simp [bl]
  have hq0 : 0 ≤ (n - 2) / (k - 2) := Int.ediv_nonneg (by omega) (by omega)
  have hq1 : (n - 2) / (k - 2) ≤ n - 2 := Int.ediv_le_self _ (by omega)
  intro m
  induction m with
  | zero =>
    intro i hi h1 least most hle hmo N hN
    obtain ⟨N, rfl⟩ : ∃ M, N = M + 1 := ⟨N - 1, by omega⟩
    have e : ltI (i : Int) (lenI (bl n k)) = false := by simp [ltI, lenI, hl]; omega
    exact ⟨least, most, Int.le_refl _, hle, hmo, by simp only [f4l8, e, cond_false]⟩
  | succ m ih =>
    intro i hi h1 least most hle hmo N hN
    obtain ⟨N, rfl⟩ : ∃ M, N = M + 1 := ⟨N - 1, by omega⟩
    obtain ⟨j, rfl⟩ : ∃ j, i = j + 1 := ⟨i - 1, by omega⟩
    have e : ltI ((j + 1 : Nat) : Int) (lenI (bl n k)) = true := by simp only [ltI, lenI, hl, decide_eq_true_eq]; omega
    have e2 : inI ((j + 1 : Nat) : Int) (bl n k).length = true := by rw [inI_true, hl]; omega
    have es : subI .i64 ((j + 1 : Nat) : Int) 1 = (j : Int) := by rw [subI_i64 (by omega)]; omega
    have e3 : inI (j : Int) (bl n k).length = true := by rw [inI_true, hl]; omega
    obtain ⟨b1, b2⟩ := bg_step (i := j) hk hn
    simp only [f4l8, e, e2, es, e3, cond_true]
    rw [getL_bl (i := j + 1) (by omega), getL_bl (i := j) (by omega), addI_i64 (by omega)]
    rw [subI_i64 (by omega)]
    generalize bg n k (j + 1) - bg n k j = d at b1 b2 ⊢
    obtain ⟨l', m', h4, h5, h6, h7⟩ := ih (j + 1 + 1) (by omega) (by omega) (minI least d) (maxI most d) (by unfold minI; split <;> omega) (by unfold maxI; split <;> omega) N (by omega)
    exact ⟨l', m', by unfold minI at h4; split at h4 <;> omega, h5, h6, h7⟩

/-- The law BucketsCover. -/
theorem f4_true (F : Nat) (hF : 1073741826 < F) {n k : Int} (hn : -9223372036854775808 ≤ n ∧ n ≤ 9223372036854775807) (hk : -9223372036854775808 ≤ k ∧ k ≤ 9223372036854775807) : f4 F n k = some (true, ()) := by
  unfold f4
  rw [f15_spec F hn (by omega)]
  simp only [Option.bind_some]
  have r0 := Int.emod_nonneg n (show (1000 : Int) ≠ 0 by omega)
  have r1 := Int.emod_lt_of_pos n (show (0 : Int) < 1000 by omega)
  rw [addI_i64 (x := 3) (by omega)]
  generalize hN : 3 + n % 1000 = N at *
  rw [subI_i64 (x := N) (by omega), f15_spec F hk (by omega)]
  simp only [Option.bind_some]
  have s0 := Int.emod_nonneg k (show N - 2 ≠ 0 by omega)
  have s1 := Int.emod_lt_of_pos k (show 0 < N - 2 by omega)
  rw [addI_i64 (x := 3) (by omega)]
  generalize hK : 3 + k % (N - 2) = K at *
  have hl : (bl N K).length = (K - 1).toNat := by simp [bl]
  rw [f18_spec F (by omega) (by omega) (by omega) (by omega)]
  simp only [Option.bind_some]
  have e1 : not true = false := rfl
  have e2 : not (eqI (lenI (bl N K)) (subI .i64 K 1)) = false := by rw [subI_i64 (by omega)]; simp [eqI, lenI, hl]; omega
  have e3 : inI 0 (bl N K).length = true := by rw [inI_true, hl]; omega
  have e4 : not (eqI (getL 0 (bl N K) 0) 1) = false := by
    have := getL_bl (n := N) (k := K) (i := 0) (by omega)
    rw [show getL 0 (bl N K) 0 = bg N K 0 from this]
    simp [bg, eqI]
  have e5 : subI .i64 K 2 = ((K - 2).toNat : Int) := by rw [subI_i64 (by omega)]; omega
  have e6 : inI ((K - 2).toNat : Int) (bl N K).length = true := by rw [inI_true, hl]; omega
  have e7 : not (eqI (getL 0 (bl N K) ((K - 2).toNat : Int)) (subI .i64 N 1)) = false := by
    rw [getL_bl (by omega), subI_i64 (by omega), bg]
    have : (((K - 2).toNat : Nat) : Int) = K - 2 := by omega
    rw [this, Int.mul_ediv_cancel_left _ (by omega)]
    simp [eqI]; omega
  simp only [e1, e2, e3, e4, e5, e6, e7, cond_true, cond_false]
  have hq1 : 1 ≤ (N - 2) / (K - 2) := by rw [Int.le_ediv_iff_mul_le (by omega)]; omega
  have hq2 : (N - 2) / (K - 2) ≤ N - 2 := Int.ediv_le_self _ (by omega)
  obtain ⟨l', m', h4, h5, h6, h7⟩ := f4_loop F (fun z_30 z_31 => (f16 F).bind fun r_32 => bif r_32.1 then bif leI 1 z_30 then some (leI z_31 (addI .i64 z_30 1), ()) else some (false, ()) else some (false, ()))
    (n := N) (k := K) (by omega) (by omega) (by omega) ((K - 1).toNat - 1) 1 (by omega) (by omega) N 0 (by omega) (by omega) F (by omega)
  refine Eq.trans h7 ?_
  rw [f16_spec F (by omega)]
  simp only [Option.bind_some, cond_true]
  have e8 : leI 1 l' = true := by rw [leI_true]; omega
  have e9 : leI m' (addI .i64 l' 1) = true := by rw [addI_i64 (by omega), leI_true]; omega
  rw [e8, e9, cond_true]
end Go.Proofs.Ytlgfiljadnafeaa
