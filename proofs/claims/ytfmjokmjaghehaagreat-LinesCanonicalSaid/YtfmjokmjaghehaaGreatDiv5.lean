
/- Fractions: the greatest common divisor, and which fractions are valid. -/
import Derived.Test.YtfmjokmjaghehaaGreatDiv4
set_option linter.unusedVariables false
set_option linter.unusedSimpArgs false
namespace Go.Proofs.YtfmjokmjaghehaaGreat
open Go.Eng
theorem toW_nat (v : Nat) : toW (v : Int) = (false, pad4 v, ()) := by
  unfold toW
  rw [decide_eq_false (by omega), Int.natAbs_natCast]
theorem natTop {v : Nat} (h : v < top256) : WOk (toW (v : Int)) := toW_ok (by rw [Int.natAbs_natCast]; exact h)
theorem wide_clean_eq (F : Nat) {w : W} (h : WOk w) : wide_clean F w = some (toW (wi w), ()) := by
  unfold wide_clean
  rw [wide_Valid_eq F h]
  by_cases hv : Vl w
  · simp (disch := omega) only [bs, ↓if_pos, ↓if_neg, hv, decide_true, toW_wi h hv]
  · have : wi w = 0 := by
      unfold Vl at hv
      unfold wi
      simp only [Classical.not_not] at hv
      rw [hv.1, hv.2]; rfl
    rw [this, toW_zero]
    simp (disch := omega) only [bs, ↓if_pos, ↓if_neg, hv, decide_false]
theorem pad4_inj {a b : Nat} : pad4 a = pad4 b ↔ a = b := ⟨fun h => by have := congrArg wv h; rw [wv_pad4, wv_pad4] at this; exact this, fun h => by rw [h]⟩
theorem pad4_zero : pad4 0 = [0, 0, 0, 0] := congrArg (·.2.1) toW_zero
theorem wide_Sign_eq (F : Nat) {w : W} (h : WOk w) : wide_Sign F w = some (if wi w = 0 then 0 else if wi w < 0 then -1 else 1, ()) := by
  unfold wide_Sign
  rw [wide_clean_eq F h]
  simp only [Option.bind_some]
  rw [show (toW (wi w)).1 = decide (wi w < 0) from rfl, show (toW (wi w)).2.1 = pad4 (wi w).natAbs from rfl, eqT_words, ← pad4_zero]
  have : decide (pad4 (wi w).natAbs = pad4 0) = decide (wi w = 0) := decide_eq_decide.2 (by rw [pad4_inj]; omega)
  rw [this]
  by_cases h1 : wi w < 0
  · rw [decide_eq_true h1, cond_true, if_neg (by omega), if_pos h1]
  · rw [decide_eq_false h1, cond_false]
    by_cases h2 : wi w = 0
    · rw [decide_eq_true h2, cond_true, if_pos h2]
    · rw [decide_eq_false h2, cond_false, if_neg h2, if_neg h1]
theorem wide_DivMod_nat (F : Nat) (hF : Fuel F) {a b : Nat} (ha : a < top256) (hb : b < top256) (h0 : 0 < b) :
    wide_DivMod F (toW (a : Int)) (toW (b : Int)) = some (toW ((a / b : Nat) : Int), toW ((a % b : Nat) : Int), true, ()) := by
  unfold wide_DivMod
  rw [wide_clean_eq F (natTop ha), wide_clean_eq F (natTop hb), wi_toW, wi_toW]
  simp only [Option.bind_some]
  rw [wide_Sign_eq F (natTop hb), wi_toW, if_neg (by omega), if_neg (by omega)]
  simp only [Option.bind_some]
  rw [toW_nat, toW_nat, toW_nat, toW_nat]
  have e0 : eqI (1 : Int) 0 = false := by rw [← Bool.not_eq_true, eqI_true]; omega
  simp only [e0, cond_false]
  rw [wide_div_eq F hF (pad4_Wd _) (pad4_Wd _) (pad4_length ha) (pad4_length hb) (by rw [wv_pad4]; exact h0), wv_pad4, wv_pad4]
  simp only [Option.bind_some]
  unfold wide_DivMod_j6 wide_DivMod_j8 wide_signed wide_clean wide_Valid
  simp only [Option.bind_some, cond_false, cond_true, show eqT Ty.bool false false = true from rfl, Bool.not_true, Bool.not_false]
theorem ref02_DivMod_nat (F : Nat) (hF : Fuel F) {a b : Nat} (ha : a < top256) (hb : b < top256) (h0 : 0 < b) :
    ref02_DivMod F (toW (a : Int)) (toW (b : Int)) = some (toW ((a / b : Nat) : Int), toW ((a % b : Nat) : Int), true, ()) := by
  have t8 : top256 ≤ top512 := Nat.pow_le_pow_right (by omega) (by omega)
  unfold ref02_DivMod
  rw [ref02_clean_eq F hF (natTop ha), ref02_clean_eq F hF (natTop hb), wi_toW, wi_toW]
  simp only [Option.bind_some]
  rw [ref02_Sign_eq F hF (natTop hb), wi_toW, if_neg (by omega), if_neg (by omega)]
  simp only [Option.bind_some]
  have e0 : eqI (1 : Int) 0 = false := by rw [← Bool.not_eq_true, eqI_true]; omega
  simp only [e0, cond_false]
  rw [ref02_of_eq F hF (natTop ha), ref02_of_eq F hF (natTop hb)]
  simp only [Option.bind_some]
  rw [show (toW (a : Int)).2.1 = pad4 a from by rw [toW_nat], show (toW (b : Int)).2.1 = pad4 b from by rw [toW_nat], wv_pad4, wv_pad4, ref02_divmod_eq F hF h0 (by omega) (by omega)]
  simp only [Option.bind_some]
  have fa : (toW (a : Int)).1 = false := by rw [toW_nat]
  have fb : (toW (b : Int)).1 = false := by rw [toW_nat]
  unfold ref02_DivMod_j6 ref02_DivMod_j7
  have hq : a / b < top256 := Nat.lt_of_le_of_lt (Nat.div_le_self _ _) ha
  have hr : a % b < top256 := Nat.lt_trans (Nat.mod_lt _ h0) hb
  have lq := ofn_length_lt (v := a / b) (n := 4) hq
  have lr := ofn_length_lt (v := a % b) (n := 4) hr
  simp only [fa, fb, cond_false, cond_true, show eqT Ty.bool false false = true from rfl, Bool.not_true, Bool.not_false]
  rw [ref02_wide_eq F hF false (ofn_Wd _) (by omega), ref02_wide_eq F hF false (ofn_Wd _) (by omega), wv_ofn, wv_ofn]
  unfold wres
  simp only [Bool.false_eq_true, if_false, Int.natAbs_natCast, hq, hr, if_true, Option.bind_some, cond_false, Bool.not_true]
theorem halves {b r : Nat} (h0 : 0 < r) (h : r < b) : 2 * (b % r) < b := by
  have h1 := Nat.mod_lt b h0
  have h2 := Nat.div_add_mod b r
  have h3 : 1 ≤ b / r := (Nat.one_le_div_iff h0).2 (by omega)
  have h4 : r * 1 ≤ r * (b / r) := Nat.mul_le_mul_left _ h3
  omega
theorem gcd_step (a b : Nat) : Nat.gcd b (a % b) = Nat.gcd a b := by
  rw [Nat.gcd_comm a b, Nat.gcd_rec b a, Nat.gcd_comm]
theorem gcd_top {a b : Nat} (ha : a < top256) (hb : b < top256) (h : 0 < a ∨ 0 < b) : Nat.gcd a b < top256 := by
  rcases h with h | h
  · exact Nat.lt_of_le_of_lt (Nat.gcd_le_left _ h) ha
  · exact Nat.lt_of_le_of_lt (Nat.gcd_le_right _ h) hb
theorem div_step (F : Nat) (hF : Fuel F) {R : Type} (k0 : W → W → Option R) (z : W) {a b : Nat} (ha : a < top256) (hb : b < top256) (N : Nat) :
    ratio_divisor_l2 F k0 (N + 1) (toW (a : Int)) (toW (b : Int)) z = if b = 0 then k0 (toW (a : Int)) z else ratio_divisor_l2 F k0 N (toW (b : Int)) (toW ((a % b : Nat) : Int)) z := by
  rw [ratio_divisor_l2, wide_Sign_eq F (natTop hb), wi_toW]
  simp only [Option.bind_some]
  by_cases h0 : b = 0
  · rw [if_pos h0, if_pos (by omega)]
    rfl
  · rw [if_neg h0, if_neg (by omega), if_neg (by omega), wide_DivMod_nat F hF ha hb (by omega)]
    have e0 : eqI (1 : Int) 0 = false := by rw [← Bool.not_eq_true, eqI_true]; omega
    simp only [e0, Bool.not_false, cond_true, Option.bind_some]
theorem div_loop (F : Nat) (hF : Fuel F) {R : Type} (k0 : W → W → Option R) (z : W) : ∀ (m : Nat) (a b : Nat), b < 2 ^ m → a < top256 → b < top256 → ∀ N, 2 * m < N →
    ratio_divisor_l2 F k0 N (toW (a : Int)) (toW (b : Int)) z = k0 (toW ((Nat.gcd a b : Nat) : Int)) z := by
  intro m
  induction m with
  | zero =>
    intro a b h ha hb N hN
    obtain ⟨N, rfl⟩ : ∃ M, N = M + 1 := ⟨N - 1, by omega⟩
    have h0 : b = 0 := by simpa using h
    rw [div_step F hF k0 z ha hb, if_pos h0, h0, Nat.gcd_zero_right]
  | succ m ih =>
    intro a b h ha hb N hN
    obtain ⟨N, rfl⟩ : ∃ M, N = M + 2 := ⟨N - 2, by omega⟩
    rw [div_step F hF k0 z ha hb]
    by_cases h0 : b = 0
    · rw [if_pos h0, h0, Nat.gcd_zero_right]
    · have hr : a % b < b := Nat.mod_lt _ (by omega)
      rw [if_neg h0, div_step F hF k0 z hb (by omega)]
      by_cases h1 : a % b = 0
      · rw [if_pos h1, ← gcd_step, h1, Nat.gcd_zero_right]
      · have h2 := halves (by omega) hr
        rw [Nat.pow_succ] at h
        have h3 : b % (a % b) < top256 := Nat.lt_trans (Nat.mod_lt _ (by omega)) (by omega)
        rw [if_neg h1, ih _ _ (by omega) (by omega) h3 N (by omega), gcd_step, gcd_step]
def wgcd (x y : W) : Nat := Nat.gcd (wv x.2.1) (wv y.2.1)
theorem noneg_toW {w : W} (h : WOk w) : (false, w.2) = toW ((wv w.2.1 : Nat) : Int) := by
  rw [toW_nat, pad4_wv h.1 h.2]
theorem ratio_divisor_eq (F : Nat) (hF : Fuel F) {x y : W} (hx : WOk x) (hy : WOk y) : ratio_divisor F x y = some (toW ((wgcd x y : Nat) : Int), ()) := by
  have hF' := hF
  unfold Fuel at hF'
  unfold ratio_divisor
  rw [noneg_toW hx, noneg_toW hy]
  rw [div_loop F hF _ _ 256 _ _ (by have := hy.lt; rw [show top256 = 2 ^ 256 from by decide] at this; exact this) hx.lt hy.lt F (by omega)]
  rfl
theorem gcd5_loop (F : Nat) {R : Type} (k2 : W → Int → Option R) (z : W) : ∀ (m : Nat) (a b : Nat), b < 2 ^ m → ∀ N, 2 * m < N →
    ref03_gcd_l5 F k2 N z (a : Int) (b : Int) = k2 z ((Nat.gcd a b : Nat) : Int) := by
  have st : ∀ (a b N : Nat), ref03_gcd_l5 F k2 (N + 1) z (a : Int) (b : Int) = if b = 0 then k2 z (a : Int) else ref03_gcd_l5 F k2 N z (b : Int) ((a % b : Nat) : Int) := by
    intro a b N
    rw [ref03_gcd_l5, remI_nn (by omega)]
    by_cases h0 : b = 0
    · rw [if_pos h0]; simp (disch := omega) only [bs, ↓if_pos, ↓if_neg]
    · rw [if_neg h0]; simp (disch := omega) only [bs, ↓if_pos, ↓if_neg]
      rfl
  intro m
  induction m with
  | zero =>
    intro a b h N hN
    obtain ⟨N, rfl⟩ : ∃ M, N = M + 1 := ⟨N - 1, by omega⟩
    have h0 : b = 0 := by simpa using h
    rw [st, if_pos h0, h0, Nat.gcd_zero_right]
  | succ m ih =>
    intro a b h N hN
    obtain ⟨N, rfl⟩ : ∃ M, N = M + 2 := ⟨N - 2, by omega⟩
    rw [st]
    by_cases h0 : b = 0
    · rw [if_pos h0, h0, Nat.gcd_zero_right]
    · have hr : a % b < b := Nat.mod_lt _ (by omega)
      rw [if_neg h0, st]
      by_cases h1 : a % b = 0
      · rw [if_pos h1, ← gcd_step, h1, Nat.gcd_zero_right]
      · have h2 := halves (by omega) hr
        rw [Nat.pow_succ] at h
        rw [if_neg h1, ih _ _ (by omega) N (by omega), gcd_step, gcd_step]
def gK (F : Nat) : W → W → Option (W × Unit) := fun z25 z26 => some (z25, ())
def gR (F : Nat) : W → Option (W × Unit) := fun z27 => some (z27, ())
theorem uns_ok (F : Nat) (hF : Fuel F) {a : Nat} (ha : a < top256) : ∃ (va : Int) (pa : Bool), ref02_Unsigned F (toW (a : Int)) = some (va, pa, ()) ∧ (a < 18446744073709551616 → pa = true ∧ va = (a : Int)) ∧ (¬ a < 18446744073709551616 → pa = false) := by
  refine ⟨_, _, ref02_Unsigned_eq F hF (natTop ha), fun h => ?_, fun h => ?_⟩
  · rw [wi_toW]
    exact ⟨decide_eq_true (by omega), if_pos (by omega)⟩
  · rw [wi_toW]
    exact decide_eq_false (by omega)
theorem sgn_ok (F : Nat) (hF : Fuel F) {a : Nat} (ha : a < top256) : ∃ v : Int, ref02_Sign F (toW (a : Int)) = some (v, ()) ∧ (a = 0 → eqI v 0 = true) ∧ (a ≠ 0 → eqI v 0 = false) := by
  refine ⟨_, ref02_Sign_eq F hF (natTop ha), fun h => ?_, fun h => ?_⟩
  · rw [wi_toW, if_pos (by omega)]; rfl
  · rw [wi_toW, if_neg (by omega), if_neg (by omega)]; rfl
theorem rgcd_step (F : Nat) (hF : Fuel F) (z : W) {a b : Nat} (ha : a < top256) (hb : b < top256) (N : Nat) :
    ref03_gcd_l1 F (gK F) (gR F) (N + 1) (toW (a : Int)) (toW (b : Int)) z =
      if b = 0 then some (toW (a : Int), ()) else if a < 18446744073709551616 ∧ b < 18446744073709551616 then some (toW ((Nat.gcd a b : Nat) : Int), ())
        else ref03_gcd_l1 F (gK F) (gR F) N (toW (b : Int)) (toW ((a % b : Nat) : Int)) z := by
  have hF' := hF
  unfold Fuel at hF'
  obtain ⟨v, e1, h1, h2⟩ := sgn_ok F hF hb
  obtain ⟨va, pa, e2, h3, h4⟩ := uns_ok F hF ha
  obtain ⟨vb, pb, e3, h5, h6⟩ := uns_ok F hF hb
  rw [ref03_gcd_l1, e1]
  by_cases h0 : b = 0
  · rw [if_pos h0]
    simp only [Option.bind_some, h1 h0, Bool.not_true, cond_false, gK]
  · rw [if_neg h0]
    unfold ref03_gcd_j5 ref03_gcd_j8
    have hdm := ref02_DivMod_nat F hF ha hb (by omega)
    by_cases ka : a < 18446744073709551616
    · obtain ⟨rfl, rfl⟩ := h3 ka
      by_cases kb : b < 18446744073709551616
      · obtain ⟨rfl, rfl⟩ := h5 kb
        rw [if_pos ⟨ka, kb⟩]
        have hg : Nat.gcd a b ≤ b := Nat.gcd_le_right _ (by omega)
        simp only [e2, e3, Option.bind_some, h2 h0, Bool.not_false, cond_true, gcd5_loop F _ _ 64 a b (by omega) F (by omega), ref02_OfUnsigned_eq F (x := ((Nat.gcd a b : Nat) : Int)) (by omega), gR]
      · have := h6 kb
        subst this
        rw [if_neg (by omega)]
        simp only [e2, e3, Option.bind_some, h2 h0, Bool.not_false, cond_true, cond_false, hdm]
    · have := h4 ka
      subst this
      rw [if_neg (by omega)]
      simp only [e2, e3, Option.bind_some, h2 h0, Bool.not_false, cond_true, cond_false, hdm]
theorem rgcd_loop (F : Nat) (hF : Fuel F) (z : W) : ∀ (m : Nat) (a b : Nat), b < 2 ^ m → a < top256 → b < top256 → ∀ N, 2 * m < N →
    ref03_gcd_l1 F (gK F) (gR F) N (toW (a : Int)) (toW (b : Int)) z = some (toW ((Nat.gcd a b : Nat) : Int), ()) := by
  intro m
  induction m with
  | zero =>
    intro a b h ha hb N hN
    obtain ⟨N, rfl⟩ : ∃ M, N = M + 1 := ⟨N - 1, by omega⟩
    have h0 : b = 0 := by simpa using h
    rw [rgcd_step F hF z ha hb, if_pos h0, h0, Nat.gcd_zero_right]
  | succ m ih =>
    intro a b h ha hb N hN
    obtain ⟨N, rfl⟩ : ∃ M, N = M + 2 := ⟨N - 2, by omega⟩
    rw [rgcd_step F hF z ha hb]
    by_cases h0 : b = 0
    · rw [if_pos h0, h0, Nat.gcd_zero_right]
    · rw [if_neg h0]
      by_cases hs : a < 18446744073709551616 ∧ b < 18446744073709551616
      · rw [if_pos hs]
      · have hr : a % b < b := Nat.mod_lt _ (by omega)
        rw [if_neg hs, rgcd_step F hF z hb (by omega)]
        by_cases h1 : a % b = 0
        · rw [if_pos h1, ← gcd_step, h1, Nat.gcd_zero_right]
        · rw [if_neg h1]
          by_cases hs2 : b < 18446744073709551616 ∧ a % b < 18446744073709551616
          · rw [if_pos hs2, gcd_step]
          · have h2 := halves (by omega) hr
            rw [Nat.pow_succ] at h
            have h3 : b % (a % b) < top256 := Nat.lt_trans (Nat.mod_lt _ (by omega)) (by omega)
            rw [if_neg hs2, ih _ _ (by omega) (by omega) h3 N (by omega), gcd_step, gcd_step]
theorem ref03_gcd_nat (F : Nat) (hF : Fuel F) {a b : Nat} (ha : a < top256) (hb : b < top256) : ref03_gcd F (toW (a : Int)) (toW (b : Int)) = some (toW ((Nat.gcd a b : Nat) : Int), ()) := by
  have hF' := hF
  unfold Fuel at hF'
  unfold ref03_gcd
  exact rgcd_loop F hF _ 256 _ _ (by rw [show top256 = 2 ^ 256 from by decide] at hb; exact hb) ha hb F (by omega)
theorem eqT_toW (g : Nat) : eqT (.pair .bool (.pair (.arr 4 (.int .u64)) .unit)) (toW (g : Int)) (toW 1) = decide (g = 1) := by
  show ((toW (g : Int)).1 == (toW 1).1 && (eqT (.arr 4 (.int .u64)) (toW (g : Int)).2.1 (toW 1).2.1 && true)) = _
  rw [eqT_words, show toW 1 = toW ((1 : Nat) : Int) from rfl, toW_nat, toW_nat]
  simp [pad4_inj]
def Sm (v : Nat) : Prop := v < 170141183460469231731687303715884105728
instance (v : Nat) : Decidable (Sm v) := by unfold Sm; infer_instance
theorem small_iff {a b c d : Int} (ha : 0 ≤ a ∧ a ≤ 18446744073709551615) (hb : 0 ≤ b ∧ b ≤ 18446744073709551615) (hc : 0 ≤ c ∧ c ≤ 18446744073709551615) (hd : 0 ≤ d ∧ d ≤ 18446744073709551615) :
    Sm (wv [a, b, c, d]) ↔ d = 0 ∧ c = 0 ∧ b < 9223372036854775808 := by
  unfold Sm
  rw [wv4]
  omega
theorem ratio_small_eq (F : Nat) {w : W} (h : WOk w) : ratio_small F w = some (decide (Sm (wv w.2.1)), ()) := by
  obtain ⟨s, l, u⟩ := w
  obtain ⟨h1, h2⟩ := h
  simp only at h1 h2
  obtain ⟨a, b, c, d, rfl, ha, hb, hc, hd⟩ := four h1 h2
  unfold ratio_small
  simp only [g1, g2, g3]
  have hi := small_iff ha hb hc hd
  have hsh : shrI .u64 b 63 = b / 9223372036854775808 := by
    rw [shrI_nat hb.1, show min (63 : Int).toNat IntKind.u64.bits = 63 from rfl]
    omega
  rw [hsh]
  by_cases h3 : d = 0
  · by_cases h4 : c = 0
    · simp (disch := omega) only [bs, ↓if_pos, ↓if_neg]
      congr 2
      unfold eqI
      exact decide_eq_decide.2 (by rw [hi]; omega)
    · rw [decide_eq_false (by rw [hi]; omega)]; simp (disch := omega) only [bs, ↓if_pos, ↓if_neg]
  · rw [decide_eq_false (by rw [hi]; omega)]; simp (disch := omega) only [bs, ↓if_pos, ↓if_neg]
theorem ref03_small_eq (F : Nat) {w : W} (h : WOk w) : ref03_small F w = some (decide (Sm (wv w.2.1)), ()) := by
  obtain ⟨s, l, u⟩ := w
  obtain ⟨h1, h2⟩ := h
  simp only at h1 h2
  obtain ⟨a, b, c, d, rfl, ha, hb, hc, hd⟩ := four h1 h2
  unfold ref03_small
  simp only [g1, g2, g3]
  have hi := small_iff ha hb hc hd
  by_cases h3 : d = 0
  · by_cases h4 : c = 0
    · simp (disch := omega) only [bs, ↓if_pos, ↓if_neg]
      congr 2
      unfold ltI
      exact decide_eq_decide.2 (by rw [hi]; omega)
    · rw [decide_eq_false (by rw [hi]; omega)]; simp (disch := omega) only [bs, ↓if_pos, ↓if_neg]
  · rw [decide_eq_false (by rw [hi]; omega)]; simp (disch := omega) only [bs, ↓if_pos, ↓if_neg]
abbrev Rt := W × (W × Unit)
def ROk (q : Rt) : Prop := WOk q.1 ∧ WOk q.2.1
def RV (q : Rt) : Prop := Vl q.1 ∧ Vl q.2.1 ∧ 0 < wi q.2.1 ∧ Sm (wv q.1.2.1) ∧ Sm (wv q.2.1.2.1) ∧ wgcd q.1 q.2.1 = 1
instance (q : Rt) : Decidable (RV q) := by unfold RV; infer_instance
theorem sgn_pos (z : Int) : (0 < (if z = 0 then (0 : Int) else if z < 0 then -1 else 1)) ↔ 0 < z := by split <;> (try split) <;> omega
theorem wide_Of_eq (F : Nat) {x : Int} (h : I64 x) : wide_Of F x = some (toW x, ()) := ref02_Of_eq F h
theorem ratio_Valid_eq (F : Nat) (hF : Fuel F) {q : Rt} (h : ROk q) : ratio_Valid F q = some (decide (RV q), ()) := by
  obtain ⟨n, d, u⟩ := q
  obtain ⟨hn, hd⟩ := h
  simp only at hn hd
  unfold ratio_Valid
  simp only [wide_Valid_eq F hn, wide_Valid_eq F hd, wide_Sign_eq F hd, ratio_small_eq F hn, ratio_small_eq F hd, ratio_divisor_eq F hF hn hd, wide_Of_eq F (x := 1) (by unfold I64; omega), Option.bind_some, eqT_toW]
  have hs : ltI 0 (if wi d = 0 then 0 else if wi d < 0 then -1 else 1) = decide (0 < wi d) := by
    unfold ltI
    exact decide_eq_decide.2 (sgn_pos _)
  rw [hs]
  unfold RV
  by_cases h1 : Vl n <;> by_cases h2 : Vl d <;> by_cases h3 : 0 < wi d <;> by_cases h4 : Sm (wv n.2.1) <;> by_cases h5 : Sm (wv d.2.1) <;> simp [h1, h2, h3, h4, h5]
theorem ref03_Valid_eq (F : Nat) (hF : Fuel F) {q : Rt} (h : ROk q) : ref03_Valid F q = some (decide (RV q), ()) := by
  obtain ⟨n, d, u⟩ := q
  obtain ⟨hn, hd⟩ := h
  simp only at hn hd
  unfold ref03_Valid ref03_one ref03_abs
  simp only [ref02_Valid_eq F hF hn, ref02_Valid_eq F hF hd, ref02_Sign_eq F hF hd, ref03_small_eq F hn, ref03_small_eq F hd, ref02_Of_eq F (x := 1) (by unfold I64; omega), Option.bind_some]
  have hs : leI (if wi d = 0 then 0 else if wi d < 0 then -1 else 1) 0 = !decide (0 < wi d) := by
    unfold leI
    rw [← decide_not]
    exact decide_eq_decide.2 (by rw [← sgn_pos]; omega)
  rw [hs]
  unfold RV
  by_cases h1 : Vl n
  · by_cases h2 : Vl d
    · by_cases h3 : 0 < wi d
      · have ed : d = toW ((wv d.2.1 : Nat) : Int) := by
          have h := toW_wi hd h2
          have hp : wi d = ((wv d.2.1 : Nat) : Int) := by
            have := wi_abs d
            omega
          rw [hp] at h
          exact h.symm
        have hg : ref03_gcd F (false, n.2) d = some (toW ((wgcd n d : Nat) : Int), ()) := by
          rw [noneg_toW hn]
          conv => lhs; rw [ed]
          rw [ref03_gcd_nat F hF hn.lt hd.lt]
          rfl
        by_cases h4 : Sm (wv n.2.1) <;> by_cases h5 : Sm (wv d.2.1) <;> simp [h1, h2, h3, h4, h5, hg, eqT_toW]
      · simp [h1, h2, h3]
    · simp [h1, h2]
  · simp [h1]
end Go.Proofs.YtfmjokmjaghehaaGreat
