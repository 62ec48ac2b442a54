
/- Layer 5: varint, wide numbers. -/
import Derived.Test.YtfmjokmjaghehaaGreatWide
set_option linter.unusedVariables false
set_option linter.unusedSimpArgs false
namespace Go.Proofs.YtfmjokmjaghehaaGreat
open Go.Eng
def uw (z : Int) : Nat := 2 * z.natAbs + (if z < 0 then 1 else 0)
def wu (u : Nat) : Int := if u % 2 = 1 then -((u / 2 : Nat) : Int) else ((u / 2 : Nat) : Int)
theorem uw_wu {u : Nat} (h : u ≠ 1) : uw (wu u) = u := by
  unfold uw wu; split <;> split <;> omega
theorem uw_lt {z : Int} (h : z.natAbs < top256) : uw z < 2 * top256 := by
  unfold uw; split <;> omega
theorem wu_abs {u : Nat} (h : u < 2 * top256) : (wu u).natAbs < top256 := by
  unfold wu; split <;> omega
theorem enc_length_le : ∀ (m : Nat) {v : Nat}, v < 128 ^ m → 1 ≤ m → (enc v).length ≤ m := by
  intro m
  induction m with
  | zero => intro v _ h; omega
  | succ m ih =>
    intro v hv _
    by_cases h : v < 128
    · rw [enc_small h]; simp
    · rw [enc_big h, List.length_cons]
      cases m with
      | zero => simp at hv; omega
      | succ m =>
        have := ih (v := v / 128) (by rw [Nat.pow_succ] at hv; exact Nat.div_lt_of_lt_mul (by rw [Nat.mul_comm]; exact hv)) (by omega)
        omega
theorem top256_val : 2 * top256 ≤ 128 ^ 37 := by decide
theorem enc_uw_len {z : Int} (h : z.natAbs < top256) : (enc (uw z)).length ≤ 37 := enc_length_le 37 (by have := uw_lt h; have := top256_val; omega) (by omega)
/- what the program appends -/
theorem eqT_words : ∀ (n : Nat) (a b : List Int), eqT (.arr n (.int .u64)) a b = decide (a = b) := by
  intro n a b
  show eqL (fun x y => decide ((x : Int) = y)) a b = _
  induction a generalizing b with
  | nil => cases b <;> simp [eqL]
  | cons x t ih =>
    cases b with
    | nil => simp [eqL]
    | cons y b => simp [eqL, ih]
theorem wide_Valid_eq (F : Nat) {w : W} (h : WOk w) : wide_Valid F w = some (decide (Vl w), ()) := by
  unfold wide_Valid Vl
  obtain ⟨s, l, u⟩ := w
  have h1 := h.1
  have h2 := h.2
  simp only at h1 h2
  cases s
  · rfl
  · simp only [Bool.not_true, cond_false, Option.some.injEq, Prod.mk.injEq, and_true, true_and]
    rw [eqT_words]
    have : l = [0, 0, 0, 0] ↔ wv l = 0 := by
      constructor
      · intro e; rw [e]; rfl
      · intro e; exact wv_inj h1 (fun x hx => by simp at hx; omega) (by simp [h2]) (by rw [e]; rfl)
    simp [this]
theorem shl1_word {h x : Int} (hh : 0 ≤ h ∧ h ≤ 1) (hx : 0 ≤ x ∧ x ≤ 18446744073709551615) : orI .u64 h (shlI .u64 x 1) = 2 * x % 18446744073709551616 + h := by
  rw [shlI_u64 hx.1 (by omega), show min (1 : Int).toNat 64 = 1 from rfl]
  have e : x.toNat * 2 ^ 1 % 2 ^ 64 = 2 ^ 1 * (x % 9223372036854775808).toNat := by omega
  rw [e, orI_u64 (by omega) (by omega), Int.toNat_natCast, Nat.or_comm, ← Nat.two_pow_add_eq_or_of_lt (by omega)]
  omega
theorem shr63 {x : Int} (hx : 0 ≤ x) : shrI .u64 x 63 = x / 9223372036854775808 := by
  rw [shrI_nat hx]
  simp only [IntKind.bits]
  rw [show min (63 : Int).toNat 64 = 63 from rfl]
  omega
theorem AppendWide_dbl (F : Nat) {a b c d : Int} (ha : 0 ≤ a ∧ a ≤ 18446744073709551615) (hb : 0 ≤ b ∧ b ≤ 18446744073709551615) (hc : 0 ≤ c ∧ c ≤ 18446744073709551615) (hd : 0 ≤ d ∧ d ≤ 18446744073709551615)
    {R : Type} (k : List Int → W → List Int → Option R) (x0 : List Int) (w : W) (N : Nat) :
    varint_AppendWide_l5 F k (N + 5) x0 w [0, 0, 0, 0, 0] [a, b, c, d] 0 = k x0 w [2 * a % 18446744073709551616, 2 * b % 18446744073709551616 + a / 9223372036854775808, 2 * c % 18446744073709551616 + b / 9223372036854775808, 2 * d % 18446744073709551616 + c / 9223372036854775808, d / 9223372036854775808] := by
  have e : varint_AppendWide_l5 F k (N + 5) x0 w [0, 0, 0, 0, 0] [a, b, c, d] 0 = k x0 w [orI .u64 0 (shlI .u64 a 1), orI .u64 (shrI .u64 a 63) (shlI .u64 b 1), orI .u64 (shrI .u64 b 63) (shlI .u64 c 1), orI .u64 (shrI .u64 c 63) (shlI .u64 d 1), shrI .u64 d 63] := by
    kernel_rfl
  rw [e, shr63 ha.1, shr63 hb.1, shr63 hc.1, shr63 hd.1, shl1_word (by omega) ha, shl1_word (by omega) hb, shl1_word (by omega) hc, shl1_word (by omega) hd]
  simp
theorem shr7_word {x y : Int} (hx : 0 ≤ x ∧ x ≤ 18446744073709551615) (hy : 0 ≤ y ∧ y ≤ 18446744073709551615) : orI .u64 (shrI .u64 x 7) (shlI .u64 y 57) = x / 128 + y % 128 * 144115188075855872 := by
  rw [shr7 hx.1, shlI_u64 hy.1 (by omega), show min (57 : Int).toNat 64 = 57 from rfl]
  have h : y.toNat * 2 ^ 57 % 2 ^ 64 = 2 ^ 57 * (y % 128).toNat := by omega
  rw [h, orI_u64 (by omega) (by omega), Int.toNat_natCast, Nat.or_comm, ← Nat.two_pow_add_eq_or_of_lt (by omega)]
  omega
theorem AppendWide_shr (F : Nat) {a b c d e : Int} (ha : 0 ≤ a ∧ a ≤ 18446744073709551615) (hb : 0 ≤ b ∧ b ≤ 18446744073709551615) (hc : 0 ≤ c ∧ c ≤ 18446744073709551615) (hd : 0 ≤ d ∧ d ≤ 18446744073709551615) (he : 0 ≤ e ∧ e ≤ 18446744073709551615)
    {R : Type} (k : List Int → List Int → Int → Option R) (x8 : List Int) (x9 : Int) (N : Nat) :
    varint_AppendWide_l15 F k (N + 6) [a, b, c, d, e] x8 x9 0 = k [a / 128 + b % 128 * 144115188075855872, b / 128 + c % 128 * 144115188075855872, c / 128 + d % 128 * 144115188075855872, d / 128 + e % 128 * 144115188075855872, e / 128] x8 x9 := by
  have h : varint_AppendWide_l15 F k (N + 6) [a, b, c, d, e] x8 x9 0 = k [orI .u64 (shrI .u64 a 7) (shlI .u64 b 57), orI .u64 (shrI .u64 b 7) (shlI .u64 c 57), orI .u64 (shrI .u64 c 7) (shlI .u64 d 57), orI .u64 (shrI .u64 d 7) (shlI .u64 e 57), shrI .u64 e 7] x8 x9 := by
    kernel_rfl
  rw [h, shr7_word ha hb, shr7_word hb hc, shr7_word hc hd, shr7_word hd he, shr7 he.1]
theorem five_words {l : List Int} (h : l.length = 5) : ∃ a b c d e, l = [a, b, c, d, e] := by
  match l, h with
  | [a, b, c, d, e], _ => exact ⟨a, b, c, d, e, rfl⟩
theorem four_words {l : List Int} (h : l.length = 4) : ∃ a b c d, l = [a, b, c, d] := by
  match l, h with
  | [a, b, c, d], _ => exact ⟨a, b, c, d, rfl⟩
def shr7s : List Int → List Int
  | [] => []
  | [x] => [x / 128]
  | x :: y :: t => (x / 128 + y % 128 * 144115188075855872) :: shr7s (y :: t)
theorem shr7s_length : ∀ l : List Int, (shr7s l).length = l.length
  | [] => rfl
  | [x] => rfl
  | x :: y :: t => by simp [shr7s, shr7s_length (y :: t)]
theorem shr7s_Wd : ∀ {l : List Int}, Wd l → Wd (shr7s l)
  | [], _ => Wd.nil
  | [x], h => Wd.one (by have := Wd.head h; omega)
  | x :: y :: t, h => Wd.cons (by have := Wd.head h; have := Wd.head (Wd.tail h); omega) (shr7s_Wd (Wd.tail h))
theorem shr7s_wv : ∀ {l : List Int}, Wd l → wv (shr7s l) = wv l / 128
  | [], _ => rfl
  | [x], h => by have := Wd.head h; simp only [shr7s, wv]; omega
  | x :: y :: t, h => by
    have h1 := Wd.head h
    have h2 := Wd.head (Wd.tail h)
    have e := shr7s_wv (Wd.tail h)
    simp only [shr7s, wv] at e ⊢
    omega
theorem AppendWide_shrs (F : Nat) {x5 : List Int} (h : Wd x5) (hl : x5.length = 5) {R : Type} (k : List Int → List Int → Int → Option R) (x8 : List Int) (x9 : Int) (N : Nat) :
    varint_AppendWide_l15 F k (N + 6) x5 x8 x9 0 = k (shr7s x5) x8 x9 := by
  obtain ⟨a, b, c, d, e, rfl⟩ := five_words hl
  exact AppendWide_shr F (h a (by simp)) (h b (by simp)) (h c (by simp)) (h d (by simp)) (h e (by simp)) k x8 x9 N
theorem wv_first {l : List Int} (h : Wd l) (hl : 0 < l.length) : (wv l % 128 : Nat) = getL 0 l 0 % 128 := by
  cases l with
  | nil => simp at hl
  | cons x t =>
    have := Wd.head h
    show ((wv (x :: t) % 128 : Nat) : Int) = x % 128
    simp only [wv]; omega
theorem AppendWide_loop (F : Nat) (hF : Fuel F) {R : Type} (k : List Int → Option R) : ∀ (m : Nat) (x5 out : List Int), Wd x5 → x5.length = 5 → wv x5 < 128 ^ (m + 1) → (out.length : Int) + m ≤ 140737488355320 →
    ∀ N, m < N → varint_AppendWide_l13 F k N x5 out = k (out ++ enc (wv x5)) := by
  obtain ⟨G, rfl⟩ : ∃ G, F = G + 6 := ⟨F - 6, by unfold Fuel at hF; omega⟩
  intro m
  induction m with
  | zero =>
    intro x5 out hw hl hv hlen N hN
    obtain ⟨N, rfl⟩ : ∃ M, N = M + 1 := ⟨N - 1, by omega⟩
    have h1 := shr7s_wv hw
    have h2 := shr7s_Wd hw
    have h3 := shr7s_length x5
    have h4 := wv_first hw (by omega)
    have hg := Wd.get hw 0
    have hz : shr7s x5 = [0, 0, 0, 0, 0] := wv_inj h2 (fun x hx => by simp at hx; omega) (by rw [h3, hl]; rfl) (by
      rw [h1]
      have : wv x5 / 128 = 0 := by rw [Nat.pow_one] at hv; omega
      rw [this]; rfl)
    unfold varint_AppendWide_l13
    rw [AppendWide_shrs _ hw hl, hz, eqT_words, decide_eq_true rfl]
    have hwr : IntKind.u8.wrap (remI (getL 0 x5 0) 128) = ((wv x5 : Nat) : Int) := by
      rw [remI_nn hg.1, wrap_u8_mod, ← h4]; omega
    rw [hwr]
    simp (disch := omega) only [bs, ↓if_pos, ↓if_neg]
    rw [enc_small (by omega)]
  | succ m ih =>
    intro x5 out hw hl hv hlen N hN
    obtain ⟨N, rfl⟩ : ∃ M, N = M + 1 := ⟨N - 1, by omega⟩
    have h1 := shr7s_wv hw
    have h2 := shr7s_Wd hw
    have h3 := shr7s_length x5
    have h4 := wv_first hw (by omega)
    have hg := Wd.get hw 0
    have hzero : shr7s x5 = [0, 0, 0, 0, 0] ↔ wv x5 < 128 := by
      rw [← Nat.div_eq_zero_iff_lt (by omega), ← h1]
      exact ⟨fun h => by rw [h]; rfl, fun h => wv_inj h2 (fun x hx => by simp at hx; omega) (by rw [h3, hl]; rfl) (by rw [h]; rfl)⟩
    have hwr : IntKind.u8.wrap (remI (getL 0 x5 0) 128) = ((wv x5 % 128 : Nat) : Int) := by
      rw [remI_nn hg.1, wrap_u8_mod, ← h4]; omega
    unfold varint_AppendWide_l13
    rw [AppendWide_shrs _ hw hl, eqT_words, hwr]
    by_cases hs : wv x5 < 128
    · rw [decide_eq_true (hzero.2 hs)]
      simp (disch := omega) only [bs, ↓if_pos, ↓if_neg]
      rw [enc_small hs]
      congr 3
      omega
    · rw [decide_eq_false (fun h => hs (hzero.1 h))]
      have hor := or128I (x := ((wv x5 % 128 : Nat) : Int)) (by omega)
      rw [wrap_u8 (by omega)] at hor
      have e2 := ih (shr7s x5) (out ++ [orI .u8 ((wv x5 % 128 : Nat) : Int) 128]) h2 (by omega) (by rw [h1]; rw [Nat.pow_succ] at hv; exact Nat.div_lt_of_lt_mul (by rw [Nat.mul_comm]; exact hv)) (by simp; omega) N (by omega)
      simp (disch := omega) only [bs, ↓if_pos, ↓if_neg]
      refine Eq.trans e2 ?_
      rw [h1, enc_big hs, hor]
      simp
def dbls (h : Int) : List Int → List Int
  | [] => [h]
  | x :: t => (2 * x % 18446744073709551616 + h) :: dbls (x / 9223372036854775808) t
theorem dbls_length : ∀ (l : List Int) (h : Int), (dbls h l).length = l.length + 1
  | [], h => rfl
  | x :: t, h => by simp [dbls, dbls_length t]
theorem dbls_Wd : ∀ {l : List Int} {h : Int}, Wd l → 0 ≤ h ∧ h ≤ 1 → Wd (dbls h l)
  | [], h, _, hh => Wd.one (by omega)
  | x :: t, h, hw, hh => by
    have := Wd.head hw
    exact Wd.cons (by omega) (dbls_Wd (Wd.tail hw) (by omega))
theorem dbls_wv : ∀ {l : List Int} {h : Int}, Wd l → 0 ≤ h ∧ h ≤ 1 → wv (dbls h l) = 2 * wv l + h.toNat
  | [], h, _, hh => by simp [dbls, wv]
  | x :: t, h, hw, hh => by
    have h1 := Wd.head hw
    have e := dbls_wv (l := t) (h := x / 9223372036854775808) (Wd.tail hw) (by omega)
    simp only [dbls, wv, e]
    omega
theorem AppendWide_dbls (F : Nat) {ws : List Int} (h : Wd ws) (hl : ws.length = 4) {R : Type} (k : List Int → W → List Int → Option R) (x0 : List Int) (w : W) (N : Nat) :
    varint_AppendWide_l5 F k (N + 5) x0 w [0, 0, 0, 0, 0] ws 0 = k x0 w (dbls 0 ws) := by
  obtain ⟨a, b, c, d, rfl⟩ := four_words hl
  rw [AppendWide_dbl F (h a (by simp)) (h b (by simp)) (h c (by simp)) (h d (by simp)) k x0 w N]
  simp only [dbls, Int.add_zero]
theorem add_first {l : List Int} (h : Wd l) (hl : 0 < l.length) (he : wv l % 2 = 0) : Wd (setL l 0 (addI .u64 (getL 0 l 0) 1)) ∧ (setL l 0 (addI .u64 (getL 0 l 0) 1)).length = l.length ∧ wv (setL l 0 (addI .u64 (getL 0 l 0) 1)) = wv l + 1 := by
  cases l with
  | nil => simp at hl
  | cons x t =>
    have hx := Wd.head h
    simp only [wv] at he
    show Wd (addI .u64 x 1 :: t) ∧ (addI .u64 x 1 :: t).length = _ ∧ wv (addI .u64 x 1 :: t) = _
    rw [addI_u64 (by omega)]
    refine ⟨Wd.cons (by omega) (Wd.tail h), rfl, ?_⟩
    simp only [wv]; omega
theorem AppendWide_core (F : Nat) (hF : Fuel F) {b : List Int} (hb : Room b) {R : Type} (k : List Int → Option R) {z : Int} (hz : z.natAbs < top256) : varint_AppendWide_j3 F k b (toW z) = k (b ++ enc (uw z)) := by
  unfold Room at hb
  have hlt := uw_lt hz
  have htop := top256_val
  have fin : ∀ x5 : List Int, Wd x5 → x5.length = 5 → wv x5 = uw z → varint_AppendWide_j12 F k b x5 = k (b ++ enc (uw z)) := by
    intro x5 h1 h2 h3
    unfold varint_AppendWide_j12
    rw [Clone_eq _ (by omega)]
    simp only [Option.bind_some]
    rw [Grow_eq _ (by omega) (by omega)]
    simp only [Option.bind_some]
    rw [AppendWide_loop F hF _ 36 x5 b h1 h2 (by rw [h3]; omega) (by omega) F (by unfold Fuel at hF; omega), h3]
  have hw := pad4_Wd z.natAbs
  have hl := pad4_length hz
  have hv := wv_pad4 z.natAbs
  have d1 := dbls_Wd (h := 0) hw (by omega)
  have d2 := dbls_length (pad4 z.natAbs) 0
  have d3 := dbls_wv (h := 0) hw (by omega)
  unfold varint_AppendWide_j3
  have e5 := fun (R : Type) (k : List Int → W → List Int → Option R) => AppendWide_dbls F hw hl k b (toW z)
  obtain ⟨G, hG⟩ : ∃ G, F = G + 5 := ⟨F - 5, by unfold Fuel at hF; omega⟩
  have e6 := fun (R : Type) (k : List Int → W → List Int → Option R) => e5 R k G
  rw [← hG] at e6
  refine Eq.trans (e6 R _) ?_
  show (bif decide (z < 0) then _ else _) = _
  generalize dbls 0 (pad4 z.natAbs) = l at *
  have huw : uw z = 2 * z.natAbs + (if z < 0 then 1 else 0) := rfl
  by_cases hz0 : z < 0
  · rw [if_pos hz0] at huw
    obtain ⟨a1, a2, a3⟩ := add_first d1 (by omega) (by rw [d3, hv]; simp)
    rw [decide_eq_true hz0, cond_true]
    exact fin _ a1 (by omega) (by rw [a3, d3, hv, huw]; simp)
  · rw [if_neg hz0] at huw
    rw [decide_eq_false hz0, cond_false]
    exact fin _ d1 (by omega) (by rw [d3, hv, huw]; simp)
theorem not_Vl {w : W} (hv : ¬ Vl w) : wi w = 0 := by
  unfold Vl at hv
  unfold wi
  simp only [Classical.not_not] at hv
  rw [hv.1, hv.2]; rfl
theorem varint_AppendWide_eq (F : Nat) (hF : Fuel F) {b : List Int} (hb : Room b) {w : W} (h : WOk w) : varint_AppendWide F b w = some (b ++ enc (uw (wi w)), ()) := by
  unfold varint_AppendWide
  rw [wide_Valid_eq F h]
  by_cases hv : Vl w
  · have := AppendWide_core F hF hb (fun z48 => some (z48, ())) h.abs
    rw [toW_wi h hv] at this
    simp (disch := omega) only [bs, ↓if_pos, ↓if_neg, hv, decide_true]
    exact this
  · have := AppendWide_core F hF hb (fun z48 => some (z48, ())) (z := 0) (by decide)
    rw [toW_zero] at this
    simp (disch := omega) only [bs, ↓if_pos, ↓if_neg, hv, decide_false]
    rw [not_Vl hv]
    exact this
end Go.Proofs.YtfmjokmjaghehaaGreat
