
/- Numbers of many words: division by one word. -/
import Derived.Test.YtfmjokmjaghehaaGreatWords2
set_option linter.unusedVariables false
set_option linter.unusedSimpArgs false
namespace Go.Proofs.YtfmjokmjaghehaaGreat
open Go.Eng
structure DigOk (H u y1 y0 q r : Int) : Prop where
  hy1 : 2147483648 ≤ y1 ∧ y1 ≤ 4294967295
  hy0 : 0 ≤ y0 ∧ y0 ≤ 4294967295
  hH : 0 ≤ H ∧ H < y1 * 4294967296 + y0
  hu : 0 ≤ u ∧ u ≤ 4294967295
  hq : 0 ≤ q ∧ q ≤ 8589934592
  hr : 0 ≤ r ∧ r ≤ 4294967295
  he : q * y1 + r = H
  hQ : (H * 4294967296 + u) / (y1 * 4294967296 + y0) ≤ q
theorem dig_split (q y1 y0 : Int) : q * (y1 * 4294967296 + y0) = q * y1 * 4294967296 + q * y0 := by
  rw [Int.mul_add, ← Int.mul_assoc]
theorem DigOk.done {H u y1 y0 q r : Int} (h : DigOk H u y1 y0 q r) (h1 : q < 4294967296) (h2 : q * y0 ≤ 4294967296 * r + u) : (H * 4294967296 + u) / (y1 * 4294967296 + y0) = q := by
  obtain ⟨hy1, hy0, hH, hu, hq, hr, he, hQ⟩ := h
  have hY : 0 < y1 * 4294967296 + y0 := by omega
  have : q ≤ (H * 4294967296 + u) / (y1 * 4294967296 + y0) := by
    rw [Int.le_ediv_iff_mul_le hY, dig_split]
    omega
  omega
theorem DigOk.less {H u y1 y0 q r : Int} (h : DigOk H u y1 y0 q r) (h1 : ¬ (q < 4294967296 ∧ q * y0 ≤ 4294967296 * r + u)) :
    0 < q ∧ ((4294967296 ≤ r + y1 ∧ (H * 4294967296 + u) / (y1 * 4294967296 + y0) = q - 1) ∨ (r + y1 < 4294967296 ∧ DigOk H u y1 y0 (q - 1) (r + y1))) := by
  obtain ⟨hy1, hy0, hH, hu, hq, hr, he, hQ⟩ := h
  have hY : 0 < y1 * 4294967296 + y0 := by omega
  have hlt : (H * 4294967296 + u) / (y1 * 4294967296 + y0) < q := by
    rw [Int.ediv_lt_iff_lt_mul hY]
    by_cases c : q < 4294967296
    · rw [dig_split]
      omega
    · have : 4294967296 * (y1 * 4294967296 + y0) ≤ q * (y1 * 4294967296 + y0) := Int.mul_le_mul_of_nonneg_right (by omega) (by omega)
      omega
  have hQ0 : 0 ≤ (H * 4294967296 + u) / (y1 * 4294967296 + y0) := Int.ediv_nonneg (by omega) (by omega)
  refine ⟨by omega, ?_⟩
  have hs1 : (q - 1) * y1 = q * y1 - y1 := by rw [Int.sub_mul, Int.one_mul]
  by_cases c : r + y1 < 4294967296
  · exact .inr ⟨c, ⟨hy1, hy0, hH, hu, by omega, by omega, by omega, by omega⟩⟩
  · left
    refine ⟨by omega, ?_⟩
    have hq1 : q - 1 < 4294967296 := by
      by_cases c2 : q - 1 < 4294967296
      · exact c2
      · have : 4294967296 * y1 ≤ (q - 1) * y1 := Int.mul_le_mul_of_nonneg_right (by omega) (by omega)
        omega
    have hb := mul_bd (a := q - 1) (c := y0) (A := 4294967295) (C := 4294967295) (by omega) hy0
    have : q - 1 ≤ (H * 4294967296 + u) / (y1 * 4294967296 + y0) := by
      rw [Int.le_ediv_iff_mul_le hY, dig_split]
      omega
    omega
theorem DigOk.start {H u y1 y0 : Int} (hy1 : 2147483648 ≤ y1 ∧ y1 ≤ 4294967295) (hy0 : 0 ≤ y0 ∧ y0 ≤ 4294967295) (hH : 0 ≤ H ∧ H < y1 * 4294967296 + y0) (hu : 0 ≤ u ∧ u ≤ 4294967295) : DigOk H u y1 y0 (H / y1) (H % y1) := by
  have h1 := Int.emod_nonneg H (b := y1) (by omega)
  have h2 := Int.emod_lt_of_pos H (b := y1) (by omega)
  have h3 := Int.mul_ediv_add_emod H y1
  have h4 : 0 ≤ H / y1 := Int.ediv_nonneg hH.1 (by omega)
  have h5 : H / y1 < 8589934592 := by
    rw [Int.ediv_lt_iff_lt_mul (by omega)]
    omega
  refine ⟨hy1, hy0, hH, hu, by omega, by omega, by rw [Int.mul_comm]; exact h3, ?_⟩
  have : (H * 4294967296 + u) / (y1 * 4294967296 + y0) < H / y1 + 1 := by
    have s1 : (H / y1 + 1) * y1 = H / y1 * y1 + y1 := by rw [Int.add_mul, Int.one_mul]
    have s2 : (H / y1 + 1) * y0 = H / y1 * y0 + y0 := by rw [Int.add_mul, Int.one_mul]
    rw [Int.ediv_lt_iff_lt_mul (by omega), dig_split, s1, s2]
    have : 0 ≤ H / y1 * y0 := Int.mul_nonneg h4 hy0.1
    rw [Int.mul_comm] at h3
    omega
  omega
theorem Div_loop1 (F : Nat) {R : Type} (k : Int → Int → Int → Int → Int → Int → Int → Int → Option R) {Y s H u y1 y0 w : Int} : ∀ (m : Nat) (q r : Int), DigOk H u y1 y0 q r → 4294967296 ≤ r + m * 2147483648 →
    ∀ N, m < N → bits_Div64_l17 F k N Y s y1 y0 H u w q r = k Y s y1 y0 H u w ((H * 4294967296 + u) / (y1 * 4294967296 + y0)) := by
  intro m
  induction m with
  | zero => intro q r h hm N hN; have := h.hr; omega
  | succ m ih =>
    intro q r h hm N hN
    obtain ⟨N, rfl⟩ : ∃ M, N = M + 1 := ⟨N - 1, by omega⟩
    have hy1 := h.hy1
    have hr := h.hr
    have hq := h.hq
    have hu := h.hu
    have hy0 := h.hy0
    unfold bits_Div64_l17
    have key : ¬ (q < 4294967296 ∧ q * y0 ≤ 4294967296 * r + u) → (bif leI 4294967296 (addI .u64 r y1) then k Y s y1 y0 H u w (subI .u64 q 1) else bits_Div64_l17 F k N Y s y1 y0 H u w (subI .u64 q 1) (addI .u64 r y1)) = k Y s y1 y0 H u w ((H * 4294967296 + u) / (y1 * 4294967296 + y0)) := by
      intro hn
      obtain ⟨h0, ⟨h1, h2⟩ | ⟨h1, h2⟩⟩ := h.less hn
      · simp (disch := omega) only [bs, ↓if_pos, ↓if_neg, addI_u64, subI_u64, h2]
      · have e := ih (q - 1) (r + y1) h2 (by omega) N (by omega)
        simp (disch := omega) only [bs, ↓if_pos, ↓if_neg, addI_u64, subI_u64]
        exact e
    by_cases c1 : 4294967296 ≤ q
    · rw [leI_true.2 c1, cond_true]
      exact key (by omega)
    · have hb := mul_bd (a := q) (c := y0) (A := 4294967295) (C := 4294967295) (by omega) hy0
      have e1 : leI 4294967296 q = false := by rw [← Bool.not_eq_true, leI_true]; exact c1
      rw [e1, cond_false, mulI_u64 (x := q) (by omega), mulI_u64 (x := 4294967296) (by omega), addI_u64 (x := 4294967296 * r) (by omega)]
      by_cases c2 : 4294967296 * r + u < q * y0
      · rw [ltI_true.2 c2, cond_true]
        exact key (by omega)
      · have e2 : ltI (4294967296 * r + u) (q * y0) = false := by rw [← Bool.not_eq_true, ltI_true]; exact c2
        rw [e2, cond_false, h.done (by omega) (by omega)]
theorem Div_loop2 (F : Nat) {R : Type} (k : Int → Int → Int → Int → Int → Int → Option R) {Y s H u y1 y0 w : Int} : ∀ (m : Nat) (q r : Int), DigOk H u y1 y0 q r → 4294967296 ≤ r + m * 2147483648 →
    ∀ N, m < N → bits_Div64_l24 F k N Y s y1 y0 u w r H q = k Y s u w H ((H * 4294967296 + u) / (y1 * 4294967296 + y0)) := by
  intro m
  induction m with
  | zero => intro q r h hm N hN; have := h.hr; omega
  | succ m ih =>
    intro q r h hm N hN
    obtain ⟨N, rfl⟩ : ∃ M, N = M + 1 := ⟨N - 1, by omega⟩
    have hy1 := h.hy1
    have hr := h.hr
    have hq := h.hq
    have hu := h.hu
    have hy0 := h.hy0
    unfold bits_Div64_l24
    have key : ¬ (q < 4294967296 ∧ q * y0 ≤ 4294967296 * r + u) → (bif leI 4294967296 (addI .u64 r y1) then k Y s u w H (subI .u64 q 1) else bits_Div64_l24 F k N Y s y1 y0 u w (addI .u64 r y1) H (subI .u64 q 1)) = k Y s u w H ((H * 4294967296 + u) / (y1 * 4294967296 + y0)) := by
      intro hn
      obtain ⟨h0, ⟨h1, h2⟩ | ⟨h1, h2⟩⟩ := h.less hn
      · simp (disch := omega) only [bs, ↓if_pos, ↓if_neg, addI_u64, subI_u64, h2]
      · have e := ih (q - 1) (r + y1) h2 (by omega) N (by omega)
        simp (disch := omega) only [bs, ↓if_pos, ↓if_neg, addI_u64, subI_u64]
        exact e
    by_cases c1 : 4294967296 ≤ q
    · rw [leI_true.2 c1, cond_true]
      exact key (by omega)
    · have hb := mul_bd (a := q) (c := y0) (A := 4294967295) (C := 4294967295) (by omega) hy0
      have e1 : leI 4294967296 q = false := by rw [← Bool.not_eq_true, leI_true]; exact c1
      rw [e1, cond_false, mulI_u64 (x := q) (by omega), mulI_u64 (x := 4294967296) (by omega), addI_u64 (x := 4294967296 * r) (by omega)]
      by_cases c2 : 4294967296 * r + u < q * y0
      · rw [ltI_true.2 c2, cond_true]
        exact key (by omega)
      · have e2 : ltI (4294967296 * r + u) (q * y0) = false := by rw [← Bool.not_eq_true, ltI_true]; exact c2
        rw [e2, cond_false, h.done (by omega) (by omega)]
theorem dig_rest {H u Y Q : Int} (hY : 0 < Y ∧ Y ≤ 18446744073709551615) (hQ : Q = (H * 4294967296 + u) / Y) :
    subI .u64 (addI .u64 (mulI .u64 H 4294967296) u) (mulI .u64 Q Y) = (H * 4294967296 + u) % Y := by
  have h1 := Int.mul_ediv_add_emod (H * 4294967296 + u) Y
  have h2 := Int.emod_nonneg (H * 4294967296 + u) (b := Y) (by omega)
  have h3 := Int.emod_lt_of_pos (H * 4294967296 + u) (b := Y) (by omega)
  rw [← hQ, Int.mul_comm] at h1
  show IntKind.u64.wrap (IntKind.u64.wrap (IntKind.u64.wrap (H * 4294967296) + u) - IntKind.u64.wrap (Q * Y)) = _
  simp only [wrap_u64_mod]
  generalize Q * Y = QY at *
  omega
theorem mod_word {H y : Int} (hH : 0 ≤ H ∧ H ≤ 18446744073709551615) (hy : 0 < y) : subI .u64 H (mulI .u64 (quoI .u64 H y) y) = H % y := by
  have h1 := Int.mul_ediv_add_emod H y
  have h2 := Int.emod_nonneg H (b := y) (by omega)
  have h4 : 0 ≤ H / y := Int.ediv_nonneg hH.1 (by omega)
  rw [Int.mul_comm] at h1
  have h5 : 0 ≤ H / y * y := Int.mul_nonneg h4 (by omega)
  rw [quoI_u64 hH.1 hH.2 hy, mulI_u64 (by omega), subI_u64 (by omega)]
  omega
theorem bitLen_bounds {x : Nat} (h0 : x ≠ 0) (h : x < 2 ^ 64) : 1 ≤ Lib.bitLen x ∧ Lib.bitLen x ≤ 64 ∧ 2 ^ (Lib.bitLen x - 1) ≤ x ∧ x < 2 ^ Lib.bitLen x := by
  have h1 := Lib.bitLenAux_bounds 64 x h h0
  exact ⟨h1.1, Lib.bitLen_le x 64 (by omega) h, h1.2.1, h1.2.2⟩
theorem join_div {H a b Y : Int} (hY : 0 < Y) :
    ((H * 4294967296 + a) / Y * 4294967296 + ((H * 4294967296 + a) % Y * 4294967296 + b) / Y = (H * 18446744073709551616 + (a * 4294967296 + b)) / Y) ∧
    ((H * 4294967296 + a) % Y * 4294967296 + b) % Y = (H * 18446744073709551616 + (a * 4294967296 + b)) % Y := by
  have h1 := Int.mul_ediv_add_emod (H * 4294967296 + a) Y
  generalize hq : (H * 4294967296 + a) / Y = q1 at *
  generalize hr : (H * 4294967296 + a) % Y = r1 at *
  have e : H * 18446744073709551616 + (a * 4294967296 + b) = (r1 * 4294967296 + b) + Y * (q1 * 4294967296) := by
    rw [← Int.mul_assoc]; omega
  rw [e, Int.add_mul_ediv_left _ _ (by omega), Int.add_mul_emod_self_left]
  exact ⟨by omega, rfl⟩
theorem Div64_eq (F : Nat) (hF : Fuel F) {x0 x1 y : Int} (h0 : 0 ≤ x0 ∧ x0 < y) (h1 : 0 ≤ x1 ∧ x1 ≤ 18446744073709551615) (hy : y ≤ 18446744073709551615) :
    bits_Div64 F x0 x1 y = some ((x0 * 18446744073709551616 + x1) / y, (x0 * 18446744073709551616 + x1) % y, ()) := by
  by_cases hz : x0 = 0
  · subst hz
    unfold bits_Div64
    simp (disch := omega) only [bs, ↓if_pos, ↓if_neg, quoI_u64, Int.zero_mul, Int.zero_add]
  · have hbl := bitLen_bounds (x := y.toNat) (by omega) (by omega)
    obtain ⟨s, hs⟩ : ∃ s : Nat, Lib.bitLen y.toNat + s = 64 := ⟨64 - Lib.bitLen y.toNat, by omega⟩
    have hpow : 2 ^ Lib.bitLen y.toNat * 2 ^ s = 18446744073709551616 := by rw [← Nat.pow_add, hs]
    have hpow1 : 2 ^ (Lib.bitLen y.toNat - 1) * 2 ^ s = 9223372036854775808 := by rw [← Nat.pow_add, show Lib.bitLen y.toNat - 1 + s = 63 by omega]
    have hP0 : 0 < 2 ^ s := Nat.pow_pos (by omega)
    have hlz : bits_LeadingZeros64 F y = some ((s : Int), ()) := by
      unfold bits_LeadingZeros64 bits_Len64
      have : (leI 0 y && leI y 18446744073709551615) = true := by simp only [Bool.and_eq_true, leI_true]; omega
      rw [this]
      simp (disch := omega) only [bs, ↓if_pos, ↓if_neg]
      simp only [Option.some.injEq, Prod.mk.injEq, and_true]
      omega
    have hw : IntKind.wrap .u64 ((s : Nat) : Int) = (s : Int) := wrap_u64 (by omega)
    have hq2 : subI .u64 64 (s : Int) = ((Lib.bitLen y.toNat : Nat) : Int) := by rw [subI_u64 (by omega)]; omega
    have hYb1 : y.toNat * 2 ^ s < 18446744073709551616 := by rw [← hpow]; exact Nat.mul_lt_mul_of_pos_right hbl.2.2.2 hP0
    have hYb0 : 9223372036854775808 ≤ y.toNat * 2 ^ s := by rw [← hpow1]; exact Nat.mul_le_mul_right _ hbl.2.2.1
    have hms : min ((s : Nat) : Int).toNat 64 = s := by omega
    have hshY : shlI .u64 y (s : Int) = ((y.toNat * 2 ^ s : Nat) : Int) := by
      rw [shlI_u64 (by omega) (by omega), hms, Nat.mod_eq_of_lt hYb1]
    have hx0b : x0.toNat * 2 ^ s + 2 ^ s ≤ y.toNat * 2 ^ s := by
      have : (x0.toNat + 1) * 2 ^ s ≤ y.toNat * 2 ^ s := Nat.mul_le_mul_right _ (by omega)
      rw [Nat.add_mul, Nat.one_mul] at this
      exact this
    have hsh0 : shlI .u64 x0 (s : Int) = ((2 ^ s * x0.toNat : Nat) : Int) := by
      rw [shlI_u64 (by omega) (by omega), hms, Nat.mod_eq_of_lt (by omega), Nat.mul_comm]
    have hshr : shrI .u64 x1 ((Lib.bitLen y.toNat : Nat) : Int) = ((x1.toNat / 2 ^ Lib.bitLen y.toNat : Nat) : Int) := by
      rw [shrI_nat (by omega)]
      simp only [IntKind.bits]
      rw [show min (((Lib.bitLen y.toNat : Nat) : Int)).toNat 64 = Lib.bitLen y.toNat by omega]
    have hd1 : x1.toNat / 2 ^ Lib.bitLen y.toNat < 2 ^ s := by
      apply Nat.div_lt_of_lt_mul
      rw [hpow]; omega
    have hor : orI .u64 ((2 ^ s * x0.toNat : Nat) : Int) ((x1.toNat / 2 ^ Lib.bitLen y.toNat : Nat) : Int) = ((2 ^ s * x0.toNat + x1.toNat / 2 ^ Lib.bitLen y.toNat : Nat) : Int) := by
      have : 2 ^ s * x0.toNat = x0.toNat * 2 ^ s := Nat.mul_comm _ _
      generalize x1.toNat / 2 ^ Lib.bitLen y.toNat = D at hd1 ⊢
      rw [orI_u64 (by omega) (by omega), Int.toNat_natCast, Int.toNat_natCast, Nat.two_pow_add_eq_or_of_lt hd1]
    have hsh1 : shlI .u64 x1 (s : Int) = ((x1.toNat * 2 ^ s % 18446744073709551616 : Nat) : Int) := by
      rw [shlI_u64 (by omega) (by omega), hms]
    have hT : (2 ^ s * x0.toNat + x1.toNat / 2 ^ Lib.bitLen y.toNat) * 18446744073709551616 + x1.toNat * 2 ^ s % 18446744073709551616 = (x0.toNat * 18446744073709551616 + x1.toNat) * 2 ^ s := by
      have e1 : x1.toNat / 2 ^ Lib.bitLen y.toNat = x1.toNat * 2 ^ s / 18446744073709551616 := by
        rw [← hpow, Nat.mul_div_mul_right _ _ hP0]
      rw [e1, Nat.add_mul, Nat.add_mul, Nat.mul_comm (2 ^ s) x0.toNat, Nat.mul_right_comm]
      omega
    have hHlt : 2 ^ s * x0.toNat + x1.toNat / 2 ^ Lib.bitLen y.toNat < y.toNat * 2 ^ s := by rw [Nat.mul_comm (2 ^ s)]; omega
    have hLlt : x1.toNat * 2 ^ s % 18446744073709551616 < 18446744073709551616 := Nat.mod_lt _ (by omega)
    have hfin : (x0.toNat * 18446744073709551616 + x1.toNat) * 2 ^ s / (y.toNat * 2 ^ s) = (x0.toNat * 18446744073709551616 + x1.toNat) / y.toNat := Nat.mul_div_mul_right _ _ hP0
    have hfin2 : (x0.toNat * 18446744073709551616 + x1.toNat) * 2 ^ s % (y.toNat * 2 ^ s) = (x0.toNat * 18446744073709551616 + x1.toNat) % y.toNat * 2 ^ s := Nat.mul_mod_mul_right _ _ _
    have hres : ((x0.toNat * 18446744073709551616 + x1.toNat : Nat) : Int) = x0 * 18446744073709551616 + x1 := by omega
    have hres1 : (((x0.toNat * 18446744073709551616 + x1.toNat) / y.toNat : Nat) : Int) = (x0 * 18446744073709551616 + x1) / y := by
      rw [Int.natCast_ediv, hres, Int.toNat_of_nonneg (by omega)]
    have hres2 : (((x0.toNat * 18446744073709551616 + x1.toNat) % y.toNat : Nat) : Int) = (x0 * 18446744073709551616 + x1) % y := by
      rw [Int.natCast_emod, hres, Int.toNat_of_nonneg (by omega)]
    unfold bits_Div64
    have c2 : eqI y 0 = false := by rw [← Bool.not_eq_true, eqI_true]; omega
    have c3 : leI y x0 = false := by rw [← Bool.not_eq_true, leI_true]; omega
    have c4 : eqI x0 0 = false := by rw [← Bool.not_eq_true, eqI_true]; omega
    have c5 : ltI (s : Int) 0 = false := by rw [← Bool.not_eq_true, ltI_true]; omega
    have c6 : ltI ((Lib.bitLen y.toNat : Nat) : Int) 0 = false := by rw [← Bool.not_eq_true, ltI_true]; omega
    simp only [c2, c3, c4, cond_false, hlz, Option.bind_some, hw, c5, hq2, c6, hshY, hsh0, hshr, hor, hsh1]
    rw [← hT] at hfin hfin2
    generalize hY' : y.toNat * 2 ^ s = Y at *
    generalize hH' : 2 ^ s * x0.toNat + x1.toNat / 2 ^ Lib.bitLen y.toNat = H at *
    generalize hL' : x1.toNat * 2 ^ s % 18446744073709551616 = L at *
    have hYI : (0 : Int) < (Y : Int) := by omega
    rw [shr32 (x := (Y : Int)) (by omega), and32 (x := (Y : Int)) (by omega), shr32 (x := (L : Int)) (by omega), and32 (x := (L : Int)) (by omega)]
    have hYsp : (Y : Int) / 4294967296 * 4294967296 + (Y : Int) % 4294967296 = (Y : Int) := by omega
    have c7 : eqI ((Y : Int) / 4294967296) 0 = false := by rw [← Bool.not_eq_true, eqI_true]; omega
    rw [c7, cond_false, mod_word (H := (H : Int)) (y := (Y : Int) / 4294967296) (by omega) (by omega), quoI_u64 (x := (H : Int)) (by omega) (by omega) (by omega)]
    have dg1 := DigOk.start (H := (H : Int)) (u := (L : Int) / 4294967296) (y1 := (Y : Int) / 4294967296) (y0 := (Y : Int) % 4294967296) (by omega) (by omega) (by omega) (by omega)
    have hr1 := dg1.hr
    rw [Div_loop1 F _ 2 _ _ dg1 (by omega) F (by unfold Fuel at hF; omega)]
    simp only [c7, cond_false, hYsp]
    rw [dig_rest (H := (H : Int)) (u := (L : Int) / 4294967296) (Y := (Y : Int)) (by omega) rfl]
    have hR0 := Int.emod_nonneg ((H : Int) * 4294967296 + (L : Int) / 4294967296) (b := (Y : Int)) (by omega)
    have hR1 := Int.emod_lt_of_pos ((H : Int) * 4294967296 + (L : Int) / 4294967296) (b := (Y : Int)) (by omega)
    have hQ0 : 0 ≤ ((H : Int) * 4294967296 + (L : Int) / 4294967296) / (Y : Int) := Int.ediv_nonneg (by omega) (by omega)
    have hQ1 : ((H : Int) * 4294967296 + (L : Int) / 4294967296) / (Y : Int) < 4294967296 := by rw [Int.ediv_lt_iff_lt_mul hYI]; omega
    obtain ⟨j1, j2⟩ := join_div (H := (H : Int)) (a := (L : Int) / 4294967296) (b := (L : Int) % 4294967296) hYI
    have hLsp : (L : Int) / 4294967296 * 4294967296 + (L : Int) % 4294967296 = (L : Int) := by omega
    rw [hLsp] at j1 j2
    generalize ((H : Int) * 4294967296 + (L : Int) / 4294967296) % (Y : Int) = R1 at *
    generalize ((H : Int) * 4294967296 + (L : Int) / 4294967296) / (Y : Int) = Q1 at *
    rw [mod_word (H := R1) (y := (Y : Int) / 4294967296) (by omega) (by omega), quoI_u64 (x := R1) (by omega) (by omega) (by omega)]
    have dg2 := DigOk.start (H := R1) (u := (L : Int) % 4294967296) (y1 := (Y : Int) / 4294967296) (y0 := (Y : Int) % 4294967296) (by omega) (by omega) (by omega) (by omega)
    have hr2 := dg2.hr
    rw [Div_loop2 F _ 2 _ _ dg2 (by omega) F (by unfold Fuel at hF; omega)]
    simp only [c5, cond_false, hYsp]
    rw [dig_rest (H := R1) (u := (L : Int) % 4294967296) (Y := (Y : Int)) (by omega) rfl]
    have hS0 : 0 ≤ (R1 * 4294967296 + (L : Int) % 4294967296) / (Y : Int) := Int.ediv_nonneg (by omega) (by omega)
    have hS1 : (R1 * 4294967296 + (L : Int) % 4294967296) / (Y : Int) < 4294967296 := by rw [Int.ediv_lt_iff_lt_mul hYI]; omega
    rw [mulI_u64 (by omega), addI_u64 (by omega), j1, j2]
    have k1 : ((H : Int) * 18446744073709551616 + (L : Int)) / (Y : Int) = (x0 * 18446744073709551616 + x1) / y := by
      rw [← hres1, ← hfin, Int.natCast_ediv, Int.natCast_add, Int.natCast_mul]; rfl
    have k2 : ((H : Int) * 18446744073709551616 + (L : Int)) % (Y : Int) = (((x0.toNat * 18446744073709551616 + x1.toNat) % y.toNat * 2 ^ s : Nat) : Int) := by
      rw [← hfin2, Int.natCast_emod, Int.natCast_add, Int.natCast_mul]; rfl
    rw [k1, k2, shrI_nat (by omega), Int.toNat_natCast]
    simp only [IntKind.bits]
    rw [hms, Nat.mul_div_cancel _ hP0, hres2]
/- division by one word -/
theorem divmod_loop (F : Nat) (hF : Fuel F) {R : Type} (k : List Int → Int → Option R) {x0 : List Int} {y : Int} (hw : Wd x0) (hy : 0 < y ∧ y ≤ 18446744073709551615) (hl : (x0.length : Int) ≤ 1000000000) :
    ∀ (m : Nat) (q : List Int) (r : Int), m ≤ x0.length → Wd q → q.length = x0.length → 0 ≤ r ∧ r < y → ∀ N, m < N → ∃ (q' : List Int), Wd q' ∧ q'.length = m ∧
      wv q' = (r.toNat * 18446744073709551616 ^ m + wv (x0.take m)) / y.toNat ∧
      ref02_divmod_l5 F k N x0 [y] q r ((m : Int) - 1) = k (q' ++ q.drop m) (((r.toNat * 18446744073709551616 ^ m + wv (x0.take m)) % y.toNat : Nat) : Int) := by
  intro m
  induction m with
  | zero =>
    intro q r hm hq hql hr N hN
    obtain ⟨N, rfl⟩ : ∃ M, N = M + 1 := ⟨N - 1, by omega⟩
    have hlt : r.toNat < y.toNat := by omega
    refine ⟨[], Wd.nil, rfl, ?_, ?_⟩
    · simp only [List.take_zero, wv, Nat.pow_zero, Nat.mul_one, Nat.add_zero]
      rw [Nat.div_eq_of_lt hlt]
    · unfold ref02_divmod_l5
      simp (disch := omega) only [bs, ↓if_pos, ↓if_neg]
      simp only [List.take_zero, wv, Nat.pow_zero, Nat.mul_one, Nat.add_zero]
      rw [Nat.mod_eq_of_lt hlt]
      simp
      congr 1
      omega
  | succ m ih =>
    intro q r hm hq hql hr N hN
    obtain ⟨N, rfl⟩ : ∃ M, N = M + 1 := ⟨N - 1, by omega⟩
    have hx := getD_all (P := fun x => 0 ≤ x ∧ x ≤ 18446744073709551615) hw (by omega) (d := 0) m
    have hgx : getL 0 x0 ((m : Int) + 1 - 1) = x0.getD m 0 := by rw [show (m : Int) + 1 - 1 = (m : Int) by omega, getL_nat]
    have htk := take_snoc (l := x0) (m := m) (by omega)
    have htl : (x0.take m).length = m := by simp; omega
    generalize x0.getD m 0 = x at *
    have hd := Div64_eq F hF hr hx hy.2
    have hr1 := Int.emod_nonneg (r * 18446744073709551616 + x) (b := y) (by omega)
    have hr2 := Int.emod_lt_of_pos (r * 18446744073709551616 + x) (b := y) (by omega)
    have hq1 : 0 ≤ (r * 18446744073709551616 + x) / y := Int.ediv_nonneg (by omega) (by omega)
    have hq2 : (r * 18446744073709551616 + x) / y < 18446744073709551616 := by rw [Int.ediv_lt_iff_lt_mul (by omega)]; omega
    have hdm := Int.mul_ediv_add_emod (r * 18446744073709551616 + x) y
    generalize (r * 18446744073709551616 + x) / y = d at *
    generalize (r * 18446744073709551616 + x) % y = e at *
    obtain ⟨q', f1, f2, f3, f4⟩ := ih (setL q ((m : Int) + 1 - 1) d) e (by omega) (hq.set _ (by omega)) (by rw [length_setL]; exact hql) (by omega) N (by omega)
    -- the number that is divided
    have hnum : r.toNat * 18446744073709551616 ^ (m + 1) + wv (x0.take (m + 1)) = (e.toNat * 18446744073709551616 ^ m + wv (x0.take m)) + y.toNat * (d.toNat * 18446744073709551616 ^ m) := by
      rw [htk, wv_append, htl, Nat.pow_succ]
      simp only [wv, Nat.mul_zero, Nat.add_zero]
      have hdm' : r.toNat * 18446744073709551616 + x.toNat = y.toNat * d.toNat + e.toNat := by
        have : ((y.toNat * d.toNat : Nat) : Int) = y * d := by rw [Int.natCast_mul, Int.toNat_of_nonneg (by omega), Int.toNat_of_nonneg (by omega)]
        omega
      have h1 : r.toNat * (18446744073709551616 ^ m * 18446744073709551616) + 18446744073709551616 ^ m * x.toNat = (r.toNat * 18446744073709551616 + x.toNat) * 18446744073709551616 ^ m := by
        rw [Nat.add_mul, Nat.mul_comm (18446744073709551616 ^ m) x.toNat]
        congr 1
        rw [Nat.mul_assoc, Nat.mul_comm 18446744073709551616]
      have h2 : y.toNat * (d.toNat * 18446744073709551616 ^ m) = y.toNat * d.toNat * 18446744073709551616 ^ m := by rw [Nat.mul_assoc]
      rw [h2]
      rw [hdm', Nat.add_mul] at h1
      omega
    have hy0 : 0 < y.toNat := by omega
    rw [hnum, Nat.add_mul_div_left _ _ hy0, Nat.add_mul_mod_self_left]
    refine ⟨q' ++ [d], Wd.append f1 (Wd.one (by omega)), by simp [f2], ?_, ?_⟩
    · rw [wv_append, f2, f3]
      simp only [wv, Nat.mul_zero, Nat.add_zero]
      rw [Nat.mul_comm d.toNat]
    · have hcast : ((m + 1 : Nat) : Int) = (m : Int) + 1 := by omega
      rw [hcast]
      have hl1 : ([y] : List Int).length = 1 := rfl
      have hg0 : getL 0 [y] 0 = y := rfl
      unfold ref02_divmod_l5
      simp (disch := omega) only [bs, ↓if_pos, ↓if_neg, hgx, hg0, hd, hl1]
      rw [show (m : Int) + 1 - 1 - 1 = (m : Int) - 1 by omega]
      refine Eq.trans f4 ?_
      congr 1
      rw [show (m : Int) + 1 - 1 = (m : Int) by omega]
      have : (setL q (m : Int) d).drop m = d :: q.drop (m + 1) := by
        rw [split_at (l := setL q (m : Int) d) (by rw [length_setL]; omega)]
        simp only [setL, Int.toNat_natCast]
        rw [getD_set _ _ _ _ _ (by omega), if_pos rfl, List.drop_set_of_lt (by omega)]
      rw [this]
      simp
theorem divmod_one (F : Nat) (hF : Fuel F) {a : List Int} {y : Int} (ha : Wd a) (hl : (a.length : Int) ≤ 1000000000) (hy : 0 < y ∧ y ≤ 18446744073709551615) :
    ref02_divmod F a [y] = some (ofn (wv a / y.toNat), ofn (wv a % y.toNat), ()) := by
  unfold ref02_divmod
  obtain ⟨q', f1, f2, f3, f4⟩ := divmod_loop F hF (fun z13 z14 =>
          (ref02_trim F z13).bind fun r15 =>
          (ref02_trim F [z14]).bind fun r16 =>
          some (r15.1, (r16.1, ()))) ha hy hl a.length (replI (a.length : Int) 0) 0 (by omega) (Wd.repl _) (by simp [replI]) (by omega) F (by unfold Fuel at hF; omega)
  have hl1 : ([y] : List Int).length = 1 := rfl
  have hmod : wv a % y.toNat < y.toNat := Nat.mod_lt _ (by omega)
  have hd : (replI (a.length : Int) (0 : Int)).drop a.length = [] := by simp [replI]
  rw [hd, List.append_nil] at f4
  simp only [Int.toNat_zero, Nat.zero_mul, Nat.zero_add, List.take_length] at f3 f4
  simp (disch := omega) only [bs, ↓if_pos, ↓if_neg, hl1]
  refine Eq.trans f4 ?_
  simp (disch := omega) only [bs, ↓if_pos, ↓if_neg, trim_eq F hF f1 (by omega), trim_eq F hF (Wd.one (x := ((wv a % y.toNat : Nat) : Int)) (by omega)) (by simp)]
  rw [f3]
  simp only [wv, Nat.mul_zero, Nat.add_zero, Int.toNat_natCast]
end Go.Proofs.YtfmjokmjaghehaaGreat
