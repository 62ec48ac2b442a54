
/- Division of wide numbers that are not negative. -/
import Derived.Test.YtfmjokmjaghehaaGreatDiv3
set_option linter.unusedVariables false
set_option linter.unusedSimpArgs false
namespace Go.Proofs.YtfmjokmjaghehaaGreat
open Go.Eng
def shLo (r : Nat) (x : Int) : Nat := x.toNat * 2 ^ r % 18446744073709551616
def shHi (r : Nat) (x : Int) : Nat := x.toNat * 2 ^ r / 18446744073709551616
theorem sh_sum (r : Nat) (x : Int) : x.toNat * 2 ^ r = shLo r x + 18446744073709551616 * shHi r x := (Nat.mod_add_div _ _).symm
theorem orI_comm {x y : Int} (hx : 0 ≤ x ∧ x ≤ 18446744073709551615) (hy : 0 ≤ y ∧ y ≤ 18446744073709551615) : orI .u64 x y = orI .u64 y x := by
  rw [orI_u64 hx hy, orI_u64 hy hx, Nat.or_comm]
theorem left_step (F : Nat) {R : Type} (k : List Int → Option R) (l o : List Int) {w r : Nat} {i : Int} (hw : (w : Int) ≤ i) (hi : i < 4) (hr : r < 64) (hl : Wd l) (ho : o.length = 4) (N : Nat) :
    wide_left_l3 F k (N + 1) l o (w : Int) (r : Int) i = wide_left_l3 F k N l (setL o i ((if (w : Int) < i then shLo r (getL 0 l (i - w)) + shHi r (getL 0 l (i - w - 1)) else shLo r (getL 0 l (i - w)) : Nat) : Int)) (w : Int) (r : Int) (i + 1) := by
  have h1 := hl.get (i - w)
  have h2 := hl.get (i - w - 1)
  have hs : ∀ x y : Int, setL (setL o i x) i y = setL o i y := fun x y => by simp [setL]
  have hg : ∀ x : Int, getL 0 (setL o i x) i = x := by
    intro x
    have : i.toNat < o.length := by omega
    simp [setL, getL, this]
  obtain ⟨v1, v2⟩ := shr_over h2 hr
  have hsh : shlI .u64 (getL 0 l (i - w)) (r : Int) = ((shLo r (getL 0 l (i - w)) : Nat) : Int) := by
    rw [shlI_u64 h1.1 (by omega), Int.toNat_natCast, Nat.min_eq_left (by omega)]
    rfl
  have hb : shLo r (getL 0 l (i - w)) < 18446744073709551616 := Nat.mod_lt _ (by omega)
  rw [wide_left_l3]
  unfold wide_left_j7
  by_cases h0 : 0 < r
  · have hc : (64 : Int) - (r : Int) = ((64 - r : Nat) : Int) := by omega
    have v3 := v2 h0
    by_cases h3 : (w : Int) < i
    · rw [if_pos h3]
      obtain ⟨o1, o2⟩ := or_shl h1 hr v1
      have hb2 : shHi r (getL 0 l (i - w - 1)) < 2 ^ r := v1
      have h2r : 2 ^ r < 2 ^ 64 := Nat.pow_lt_pow_right (by omega) hr
      have ho' : orI .u64 ((shLo r (getL 0 l (i - w)) : Nat) : Int) ((shHi r (getL 0 l (i - w - 1)) : Nat) : Int) = ((shLo r (getL 0 l (i - w)) + shHi r (getL 0 l (i - w - 1)) : Nat) : Int) := by
        rw [orI_comm (by omega) (by omega), ← hsh]
        refine Eq.trans o1 ?_
        unfold shLo shHi
        omega
      have v4 : shrI .u64 (getL 0 l (i - w - 1)) ((64 - r : Nat) : Int) = ((shHi r (getL 0 l (i - w - 1)) : Nat) : Int) := v3
      simp (disch := omega) only [bs, ↓if_pos, ↓if_neg, hs, hg, hsh, hc, v4, ho']
    · rw [if_neg h3]
      simp (disch := omega) only [bs, ↓if_pos, ↓if_neg, hs, hg, hsh]
  · have hr0 : r = 0 := by omega
    subst hr0
    have hh : shHi 0 (getL 0 l (i - w - 1)) = 0 := by
      unfold shHi
      rw [Nat.pow_zero, Nat.mul_one]
      omega
    rw [hh]
    by_cases h3 : (w : Int) < i
    · rw [if_pos h3]
      simp (disch := omega) only [bs, ↓if_pos, ↓if_neg, hs, hg, hsh]
      rfl
    · rw [if_neg h3]
      simp (disch := omega) only [bs, ↓if_pos, ↓if_neg, hs, hg, hsh]
theorem lin4 (a b c d R : Nat) : (a + 18446744073709551616 * (b + 18446744073709551616 * (c + 18446744073709551616 * d))) * R = a * R + 18446744073709551616 * (b * R + 18446744073709551616 * (c * R + 18446744073709551616 * (d * R))) := by
  simp only [Nat.add_mul, Nat.mul_add, Nat.mul_assoc]
theorem sh_lo_lt (r : Nat) (x : Int) : shLo r x < 18446744073709551616 := Nat.mod_lt _ (by omega)
theorem sh_both_lt {r : Nat} {x y : Int} (hx : 0 ≤ x ∧ x ≤ 18446744073709551615) (hy : 0 ≤ y ∧ y ≤ 18446744073709551615) (hr : r < 64) : shLo r x + shHi r y < 18446744073709551616 := by
  have := (or_shl hx hr (shr_over hy hr).1).2
  unfold shLo shHi
  omega
set_option maxHeartbeats 1000000 in
theorem wide_left_eq (F : Nat) (hF : Fuel F) {l : List Int} (hl : Wd l) (h4 : l.length = 4) {n : Nat} (hn : n < 256) (h : wv l * 2 ^ n < top256) : wide_left F l (n : Int) = some (pad4 (wv l * 2 ^ n), ()) := by
  have hq : quoI .i64 (n : Int) 64 = ((n / 64 : Nat) : Int) := by rw [quoI_i64 (by omega) (by omega) (by omega)]; omega
  have hm : remI (n : Int) 64 = ((n % 64 : Nat) : Int) := by rw [remI_nn (by omega)]; omega
  obtain ⟨a, b, c, d, rfl, ha, hb, hc, hd⟩ := four hl h4
  unfold Fuel at hF
  obtain ⟨N, hN⟩ : ∃ N, F = N + 1 + 1 + 1 + 1 + 1 := ⟨F - 5, by omega⟩
  unfold wide_left
  rw [hq, hm]
  have hnn : n = 64 * (n / 64) + n % 64 := by omega
  have hr : n % 64 < 64 := by omega
  have hw : n / 64 = 0 ∨ n / 64 = 1 ∨ n / 64 = 2 ∨ n / 64 = 3 := by omega
  generalize n % 64 = r at *
  generalize n / 64 = w at *
  have hval : wv [a, b, c, d] * 2 ^ n = (a.toNat * 2 ^ r + 18446744073709551616 * (b.toNat * 2 ^ r + 18446744073709551616 * (c.toNat * 2 ^ r + 18446744073709551616 * (d.toNat * 2 ^ r)))) * 2 ^ (64 * w) := by
    rw [hnn, Nat.add_comm (64 * w), Nat.pow_add, ← Nat.mul_assoc, wv4, lin4]
  rw [sh_sum r a, sh_sum r b, sh_sum r c, sh_sum r d] at hval
  have p0 := sh_lo_lt r a
  have p1 := sh_both_lt hb ha hr
  have p2 := sh_both_lt hc hb hr
  have p3 := sh_both_lt hd hc hr
  have fin : ∀ o : List Int, Wd o → o.length = 4 → wv o = wv [a, b, c, d] * 2 ^ n → some (o, ()) = some (pad4 (wv [a, b, c, d] * 2 ^ n), ()) := by
    intro o h1 h2 h3
    rw [← h3, pad4_wv h1 h2]
  have htop : top256 = 18446744073709551616 * 18446744073709551616 * 18446744073709551616 * 18446744073709551616 := by decide
  have key : ∀ M, M = N + 1 + 1 + 1 + 1 + 1 → wide_left_l3 F (fun z30 => some (z30, ())) M [a, b, c, d] [0, 0, 0, 0] (w : Int) (r : Int) (w : Int) = some (pad4 (wv [a, b, c, d] * 2 ^ n), ()) := by
    intro M hM
    subst hM
    rcases hw with rfl | rfl | rfl | rfl
    · rw [left_step F _ _ _ (by omega) (by omega) hr hl rfl, show ((0 : Nat) : Int) = 0 from rfl, if_neg (by omega), show (0 : Int) - 0 = 0 from rfl, g0, w4s0, show (0 : Int) + 1 = 1 from rfl]
      have st := fun N o ho (i : Int) h1 h2 => left_step F (fun z30 : List Int => some (z30, ())) [a, b, c, d] o (w := 0) (r := r) (i := i) h1 h2 hr hl ho N
      rw [show (0 : Int) = ((0 : Nat) : Int) from rfl, st _ _ rfl _ (by omega) (by omega), if_pos (by omega)]
      simp only [show ((0 : Nat) : Int) = 0 from rfl, show (1 : Int) - 0 = 1 from rfl, show (1 : Int) - 1 = 0 from rfl, g0, g1, w4s1, show (1 : Int) + 1 = 2 from rfl]
      rw [show (0 : Int) = ((0 : Nat) : Int) from rfl, st _ _ rfl _ (by omega) (by omega), if_pos (by omega)]
      simp only [show ((0 : Nat) : Int) = 0 from rfl, show (2 : Int) - 0 = 2 from rfl, show (2 : Int) - 1 = 1 from rfl, g1, g2, w4s2, show (2 : Int) + 1 = 3 from rfl]
      rw [show (0 : Int) = ((0 : Nat) : Int) from rfl, st _ _ rfl _ (by omega) (by omega), if_pos (by omega)]
      simp only [show ((0 : Nat) : Int) = 0 from rfl, show (3 : Int) - 0 = 3 from rfl, show (3 : Int) - 1 = 2 from rfl, g2, g3, w4s3, show (3 : Int) + 1 = 4 from rfl]
      rw [wide_left_l3]
      simp (disch := omega) only [bs, ↓if_pos, ↓if_neg]
      refine fin _ (wd4 (by omega) (by omega) (by omega) (by omega)) rfl ?_
      rw [hval, htop] at h
      rw [hval, wv4]
      clear hval fin st hq hm hnn
      simp only [Nat.mul_zero, Nat.pow_zero, Nat.mul_one, Int.toNat_natCast] at h ⊢
      omega
    · have st := fun N o ho (i : Int) h1 h2 => left_step F (fun z30 : List Int => some (z30, ())) [a, b, c, d] o (w := 1) (r := r) (i := i) h1 h2 hr hl ho N
      rw [st _ _ rfl _ (by omega) (by omega), if_neg (by omega)]
      simp only [show ((1 : Nat) : Int) = 1 from rfl, show (1 : Int) - 1 = 0 from rfl, g0, w4s1, show (1 : Int) + 1 = 2 from rfl]
      rw [show (1 : Int) = ((1 : Nat) : Int) from rfl, st _ _ rfl _ (by omega) (by omega), if_pos (by omega)]
      simp only [show ((1 : Nat) : Int) = 1 from rfl, show (2 : Int) - 1 = 1 from rfl, show (1 : Int) - 1 = 0 from rfl, g0, g1, w4s2, show (2 : Int) + 1 = 3 from rfl]
      rw [show (1 : Int) = ((1 : Nat) : Int) from rfl, st _ _ rfl _ (by omega) (by omega), if_pos (by omega)]
      simp only [show ((1 : Nat) : Int) = 1 from rfl, show (3 : Int) - 1 = 2 from rfl, show (2 : Int) - 1 = 1 from rfl, g1, g2, w4s3, show (3 : Int) + 1 = 4 from rfl]
      rw [wide_left_l3]
      simp (disch := omega) only [bs, ↓if_pos, ↓if_neg]
      refine fin _ (wd4 (by omega) (by omega) (by omega) (by omega)) rfl ?_
      rw [hval, htop] at h
      rw [hval, wv4]
      clear hval fin st hq hm hnn
      simp only [show (2 : Nat) ^ (64 * 1) = 18446744073709551616 from rfl, Int.toNat_natCast, show (0 : Int).toNat = 0 from rfl] at h ⊢
      omega
    · have st := fun N o ho (i : Int) h1 h2 => left_step F (fun z30 : List Int => some (z30, ())) [a, b, c, d] o (w := 2) (r := r) (i := i) h1 h2 hr hl ho N
      rw [st _ _ rfl _ (by omega) (by omega), if_neg (by omega)]
      simp only [show ((2 : Nat) : Int) = 2 from rfl, show (2 : Int) - 2 = 0 from rfl, g0, w4s2, show (2 : Int) + 1 = 3 from rfl]
      rw [show (2 : Int) = ((2 : Nat) : Int) from rfl, st _ _ rfl _ (by omega) (by omega), if_pos (by omega)]
      simp only [show ((2 : Nat) : Int) = 2 from rfl, show (3 : Int) - 2 = 1 from rfl, show (1 : Int) - 1 = 0 from rfl, g0, g1, w4s3, show (3 : Int) + 1 = 4 from rfl]
      rw [wide_left_l3]
      simp (disch := omega) only [bs, ↓if_pos, ↓if_neg]
      refine fin _ (wd4 (by omega) (by omega) (by omega) (by omega)) rfl ?_
      rw [hval, htop] at h
      rw [hval, wv4]
      clear hval fin st hq hm hnn
      simp only [show (2 : Nat) ^ (64 * 2) = 340282366920938463463374607431768211456 from rfl, Int.toNat_natCast, show (0 : Int).toNat = 0 from rfl] at h ⊢
      omega
    · have st := fun N o ho (i : Int) h1 h2 => left_step F (fun z30 : List Int => some (z30, ())) [a, b, c, d] o (w := 3) (r := r) (i := i) h1 h2 hr hl ho N
      rw [st _ _ rfl _ (by omega) (by omega), if_neg (by omega)]
      simp only [show ((3 : Nat) : Int) = 3 from rfl, show (3 : Int) - 3 = 0 from rfl, g0, w4s3, show (3 : Int) + 1 = 4 from rfl]
      rw [wide_left_l3]
      simp (disch := omega) only [bs, ↓if_pos, ↓if_neg]
      refine fin _ (wd4 (by omega) (by omega) (by omega) (by omega)) rfl ?_
      rw [hval, htop] at h
      rw [hval, wv4]
      clear hval fin st hq hm hnn
      simp only [show (2 : Nat) ^ (64 * 3) = 6277101735386680763835789423207666416102355444464034512896 from rfl, Int.toNat_natCast, show (0 : Int).toNat = 0 from rfl] at h ⊢
      omega
  exact key F hN
theorem wdiv_loop (F : Nat) (hF : Fuel F) {R : Type} (k : List Int → List Int → List Int → Option R) {a b : Nat} (z : List Int) :
    ∀ (m r d Q : Nat) (x4 : List Int), Dv a b m r d Q → Wd x4 → x4.length = 4 → wv x4 = Q → m ≤ 256 → r < top256 → d < top256 →
      ∀ N, m < N → ∃ o : List Int, Wd o ∧ o.length = 4 ∧ wv o = a / b ∧ wide_div_l5 F k N (pad4 r) x4 z ((m : Int) - 1) (pad4 d) = k (pad4 (a % b)) o z := by
  intro m
  induction m with
  | zero =>
    intro r d Q x4 h hw h4 he hm h1 h2 N hN
    obtain ⟨N, rfl⟩ : ∃ M, N = M + 1 := ⟨N - 1, by omega⟩
    obtain ⟨e1, e2⟩ := h.done
    refine ⟨x4, hw, h4, by rw [he, e1], ?_⟩
    unfold wide_div_l5
    simp (disch := omega) only [bs, ↓if_pos, ↓if_neg, e2]
  | succ m ih =>
    intro r d Q x4 h hw h4 he hm h1 h2 N hN
    obtain ⟨N, rfl⟩ : ∃ M, N = M + 1 := ⟨N - 1, by omega⟩
    have hs := h.step
    have hd2 : d / 2 < top256 := by omega
    have ei : ((m + 1 : Nat) : Int) - 1 = (m : Int) := by omega
    rw [ei]
    have hq : quoI .i64 (m : Int) 64 = ((m / 64 : Nat) : Int) := by rw [quoI_i64 (by omega) (by omega) (by omega)]; omega
    have hmm : remI (m : Int) 64 = ((m % 64 : Nat) : Int) := by rw [remI_nn (by omega)]; omega
    have hl0 : ltI ((m % 64 : Nat) : Int) 0 = false := by rw [← Bool.not_eq_true, ltI_true]; omega
    have hin : inI ((m / 64 : Nat) : Int) 4 = true := by rw [inI_true]; omega
    unfold wide_div_l5
    rw [hq, hmm, wide_compare_eq F hF (pad4_Wd _) (pad4_Wd _) (pad4_length h1) (pad4_length h2), wv_pad4, wv_pad4]
    have hc : leI 0 (cmpN r d) = decide (d ≤ r) := by
      unfold leI cmpN
      apply decide_eq_decide.2
      split <;> (try split) <;> omega
    simp only [Option.bind_some, hc]
    by_cases hdr : d ≤ r
    · rw [if_pos hdr] at hs
      obtain ⟨b1, b2, b3⟩ := setB_eq hw (i := m) (by omega) (by rw [he]; exact h.hQ)
      obtain ⟨o, g1, g2, g3, g4⟩ := ih (r - d) (d / 2) (Q + 2 ^ m) (setB x4 m) hs b1 (by omega) (by rw [b3, he]) (by omega) (by omega) hd2 N (by omega)
      refine ⟨o, g1, g2, g3, ?_⟩
      refine Eq.trans ?_ g4
      rw [decide_eq_true hdr, wide_sub_eq F hF (pad4_Wd _) (pad4_Wd _) (pad4_length h1) (pad4_length h2) (by rw [wv_pad4, wv_pad4]; exact hdr), wv_pad4, wv_pad4, hl0, hin]
      simp (disch := omega) only [bs, ↓if_pos, ↓if_neg, wide_halved_eq F hF (pad4_Wd d) (pad4_length h2), wv_pad4]
      rfl
    · rw [if_neg hdr] at hs
      obtain ⟨o, g1, g2, g3, g4⟩ := ih r (d / 2) Q x4 hs hw h4 he (by omega) h1 hd2 N (by omega)
      refine ⟨o, g1, g2, g3, ?_⟩
      refine Eq.trans ?_ g4
      rw [decide_eq_false hdr]
      simp (disch := omega) only [bs, ↓if_pos, ↓if_neg, wide_halved_eq F hF (pad4_Wd d) (pad4_length h2), wv_pad4]
theorem wide_div_eq (F : Nat) (hF : Fuel F) {l m : List Int} (hl : Wd l) (hm : Wd m) (h4 : l.length = 4) (h5 : m.length = 4) (hb : 0 < wv m) :
    wide_div F l m = some (pad4 (wv l / wv m), pad4 (wv l % wv m), ()) := by
  have hF' := hF
  unfold Fuel at hF'
  obtain ⟨s, hs, hsl, es⟩ := wide_length_eq F hF hl h4
  obtain ⟨t, ht, htl, et⟩ := wide_length_eq F hF hm h5
  have ht1 := (ht.2.2 hb).1
  have hlt : wv l < top256 := by have := wv_lt hl; rw [h4] at this; exact this
  unfold wide_div
  by_cases hst : s < t
  · have hl2 := Sz_less hs ht hst
    simp (disch := omega) only [bs, ↓if_pos, ↓if_neg, es, et]
    rw [Nat.div_eq_of_lt hl2, Nat.mod_eq_of_lt hl2, pad4_wv hl h4, show pad4 0 = [0, 0, 0, 0] from congrArg (·.2.1) toW_zero]
  · obtain ⟨c1, c2⟩ := Sz_sub hs ht hb (by omega)
    have hst2 : (s : Int) - (t : Int) = ((s - t : Nat) : Int) := by omega
    have h8 : wv m * 2 ^ (s - t) < top256 := by
      exact Nat.lt_of_lt_of_le c2 (pow64_le (k := 4) (by omega))
    obtain ⟨o, g1, g2, g3, g4⟩ := wdiv_loop F hF (fun z20 z21 z22 => some (z21, (z20, ()))) [0, 0, 0, 0] (s - t + 1) (wv l) (wv m * 2 ^ (s - t)) 0 [0, 0, 0, 0] (Dv.start c1) (wd4 (by omega) (by omega) (by omega) (by omega)) rfl rfl (by omega) hlt h8 F (by omega)
    have e1 : ((s - t + 1 : Nat) : Int) - 1 = ((s - t : Nat) : Int) := by omega
    rw [e1, pad4_wv hl h4] at g4
    simp (disch := omega) only [bs, ↓if_pos, ↓if_neg, es, et, hst2, wide_left_eq F hF hm h5 (n := s - t) (by omega) h8]
    refine Eq.trans g4 ?_
    rw [← g3, pad4_wv g1 g2]
end Go.Proofs.YtfmjokmjaghehaaGreat
