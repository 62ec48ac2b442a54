
/- Long division, bit by bit: of words. -/
import Derived.Test.YtfmjokmjaghehaaGreatDiv
set_option linter.unusedVariables false
set_option linter.unusedSimpArgs false
namespace Go.Proofs.YtfmjokmjaghehaaGreat
open Go.Eng
theorem or_shl {x : Int} (hx : 0 ≤ x ∧ x ≤ 18446744073709551615) {r c : Nat} (hr : r < 64) (hc : c < 2 ^ r) :
    orI .u64 (c : Int) (shlI .u64 x (r : Int)) = ((c + x.toNat * 2 ^ r % 18446744073709551616 : Nat) : Int) ∧ c + x.toNat * 2 ^ r % 18446744073709551616 < 18446744073709551616 := by
  have h64 : (18446744073709551616 : Nat) = 2 ^ r * 2 ^ (64 - r) := by rw [← Nat.pow_add, show r + (64 - r) = 64 by omega]
  have hm : x.toNat * 2 ^ r % 18446744073709551616 = 2 ^ r * (x.toNat % 2 ^ (64 - r)) := by
    rw [h64, Nat.mul_comm x.toNat, Nat.mul_mod_mul_left]
  have hp : 2 ^ r < 2 ^ 64 := Nat.pow_lt_pow_right (by omega) hr
  have hlt : x.toNat % 2 ^ (64 - r) < 2 ^ (64 - r) := Nat.mod_lt _ (Nat.pow_pos (by omega))
  have hsum : c + x.toNat * 2 ^ r % 18446744073709551616 < 18446744073709551616 := by
    rw [hm]
    have : 2 ^ r * (x.toNat % 2 ^ (64 - r) + 1) ≤ 2 ^ r * 2 ^ (64 - r) := Nat.mul_le_mul_left _ hlt
    rw [← h64, Nat.mul_add] at this
    omega
  refine ⟨?_, hsum⟩
  rw [shlI_u64 hx.1 (by omega), Int.toNat_natCast, Nat.min_eq_left (by omega), show (2 : Nat) ^ 64 = 18446744073709551616 from rfl]
  rw [orI_u64 (by omega) (by omega), Int.toNat_natCast, Int.toNat_natCast, hm, Nat.or_comm, ← Nat.two_pow_add_eq_or_of_lt hc]
  omega
theorem shr_over {x : Int} (hx : 0 ≤ x ∧ x ≤ 18446744073709551615) {r : Nat} (hr : r < 64) :
    x.toNat * 2 ^ r / 18446744073709551616 < 2 ^ r ∧ (0 < r → shrI .u64 x ((64 - r : Nat) : Int) = ((x.toNat * 2 ^ r / 18446744073709551616 : Nat) : Int)) := by
  have h64 : (18446744073709551616 : Nat) = 2 ^ (64 - r) * 2 ^ r := by rw [← Nat.pow_add, show 64 - r + r = 64 by omega]
  have e : x.toNat * 2 ^ r / 18446744073709551616 = x.toNat / 2 ^ (64 - r) := by
    rw [h64, Nat.mul_div_mul_right _ _ (Nat.pow_pos (by omega))]
  rw [e]
  constructor
  · rw [Nat.div_lt_iff_lt_mul (Nat.pow_pos (by omega)), Nat.mul_comm, ← h64]
    omega
  · intro h0
    rw [shrI_nat hx.1, Int.toNat_natCast, Nat.min_eq_left (by show 64 - r ≤ 64; omega)]
theorem set_next2 (d : List Int) (x y z w : Int) (t : List Int) : setL (setL (d ++ x :: y :: t) (d.length : Int) z) ((d.length : Int) + 1) w = (d ++ [z]) ++ w :: t := by
  rw [set_mid, show (d.length : Int) + 1 = ((d ++ [z]).length : Int) by simp, set_mid]
  simp
theorem up_alg {wp P c lo hi B X A x W R : Nat} (hinv : wp + P * c = X * (W * R)) (hP : P = A * W) (hx : x * R = lo + B * hi) :
    wp + P * (c + lo) + P * B * hi = (X + A * x) * (W * R) := by
  rw [Nat.add_mul, Nat.mul_mul_mul_comm A x W R, ← hP, hx, ← hinv, Nat.mul_add, Nat.mul_add, Nat.mul_assoc]
  omega
theorem or_zero {x : Int} (hx : 0 ≤ x ∧ x ≤ 18446744073709551615) : orI .u64 0 x = x := by
  rw [orI_u64 (by omega) hx]
  simp only [show (0 : Int).toNat = 0 from rfl, Nat.zero_or]
  omega
set_option maxHeartbeats 4000000 in
theorem up_loop (F : Nat) {R : Type} (k : List Int → Option R) {a : List Int} (ha : Wd a) {w r : Nat} (hr : r < 64) (hsz : (a.length : Int) + w ≤ 100000) (x1 : Int)
    (hq : quoI .i64 x1 64 = (w : Int)) (hm : remI x1 64 = (r : Int)) :
    ∀ (xb xa p : List Int) (c : Nat), a = xa ++ xb → p.length = xa.length + w → c < 2 ^ r → Wd p → wv p + 18446744073709551616 ^ p.length * c = wv xa * (2 ^ (64 * w) * 2 ^ r) →
      ∀ N, xb.length < N → ∃ o : List Int, Wd o ∧ o.length = a.length + w + 1 ∧ wv o = wv a * (2 ^ (64 * w) * 2 ^ r) ∧
        ref02_up_l3 F k N a x1 (p ++ (c : Int) :: List.replicate xb.length 0) (xa.length : Int) = k o := by
  have h2r : 2 ^ r < 2 ^ 64 := Nat.pow_lt_pow_right (by omega) hr
  intro xb
  induction xb with
  | nil =>
    intro xa p c he hp hc hw hi N hN
    obtain ⟨N, rfl⟩ : ∃ M, N = M + 1 := ⟨N - 1, by omega⟩
    rw [List.append_nil] at he
    subst he
    refine ⟨p ++ [(c : Int)], Wd.append hw (Wd.one (by omega)), by simp [hp], by rw [wv_append]; simp only [wv, Int.toNat_natCast, Nat.mul_zero, Nat.add_zero]; exact hi, ?_⟩
    unfold ref02_up_l3
    simp (disch := omega) only [bs, ↓if_pos, ↓if_neg]
    rfl
  | cons x t ih =>
    intro xa p c he hp hc hw hi N hN
    obtain ⟨N, rfl⟩ : ∃ M, N = M + 1 := ⟨N - 1, by omega⟩
    have hx : 0 ≤ x ∧ x ≤ 18446744073709551615 := ha x (by rw [he]; simp)
    have hal : a.length = xa.length + (t.length + 1) := by rw [he]; simp
    obtain ⟨o1, o2⟩ := or_shl hx hr hc
    obtain ⟨s1, s2⟩ := shr_over hx hr
    have hdm := Nat.mod_add_div (x.toNat * 2 ^ r) 18446744073709551616
    have hdiv := Nat.div_add_mod (x.toNat * 2 ^ r) 18446744073709551616
    generalize x.toNat * 2 ^ r % 18446744073709551616 = lo at *
    generalize x.toNat * 2 ^ r / 18446744073709551616 = hi' at *
    obtain ⟨o, h1, h2, h3, h4⟩ := ih (xa ++ [x]) (p ++ [((c + lo : Nat) : Int)]) hi' (by rw [he]; simp) (by simp; omega) s1 (Wd.append hw (Wd.one (by omega))) (by
      rw [wv_append, wv_append]
      simp only [wv, Int.toNat_natCast, Nat.mul_zero, Nat.add_zero, List.length_append, List.length_singleton, Nat.pow_succ]
      refine up_alg hi ?_ hdm.symm
      rw [hp, Nat.pow_add, p64 w]) N (by simp at hN; omega)
    refine ⟨o, h1, h2, h3, ?_⟩
    have hcast : ((xa ++ [x]).length : Int) = (xa.length : Int) + 1 := by simp
    rw [hcast] at h4
    have hg : getL 0 a (xa.length : Int) = x := by rw [he]; exact get_mid _ _ _
    have hpw : (xa.length : Int) + (w : Int) = (p.length : Int) := by omega
    have hwr : IntKind.u64.wrap (r : Int) = (r : Int) := wrap_u64 (by omega)
    have hlen : (p ++ (c : Int) :: List.replicate (t.length + 1) (0 : Int)).length = p.length + (t.length + 2) := by simp
    rw [List.length_cons]
    unfold ref02_up_l3
    rw [hq, hm]
    by_cases h0 : 0 < r
    · have hwr2 : IntKind.u64.wrap (64 - (r : Int)) = ((64 - r : Nat) : Int) := by rw [wrap_u64 (by omega)]; omega
      have s3 := s2 h0
      simp (disch := omega) only [bs, ↓if_pos, ↓if_neg, hg, hpw, hwr, hwr2]
      rw [List.replicate_succ]
      rw [get_mid, o1, get_set_next, s3, or_zero (by omega), set_next2]
      exact h4
    · have hr0 : r = 0 := by omega
      subst hr0
      have hh : hi' = 0 := by omega
      subst hh
      simp (disch := omega) only [bs, ↓if_pos, ↓if_neg, hg, hpw, hwr]
      rw [List.replicate_succ]
      rw [get_mid, o1, set_mid]
      exact h4
theorem up_eq (F : Nat) (hF : Fuel F) {v n : Nat} (hv : (ofn v).length ≤ 1000) (hn : n ≤ 10000) : ref02_up F (ofn v) (n : Int) = some (ofn (v * 2 ^ n), ()) := by
  have hF' := hF
  unfold Fuel at hF'
  have hq : quoI .i64 (n : Int) 64 = ((n / 64 : Nat) : Int) := by rw [quoI_i64 (by omega) (by omega) (by omega)]; omega
  have hm : remI (n : Int) 64 = ((n % 64 : Nat) : Int) := by rw [remI_nn (by omega)]; omega
  obtain ⟨o, h1, h2, h3, h4⟩ := up_loop F (fun z32 => (ref02_trimc F z32).bind fun r33 => some (r33.1, ())) (ofn_Wd v) (w := n / 64) (r := n % 64) (by omega) (by omega) (n : Int) hq hm
    (ofn v) [] (List.replicate (n / 64) 0) 0 rfl (by simp) (Nat.pow_pos (by omega)) (fun x hx => by rw [List.eq_of_mem_replicate hx]; omega) (by rw [wv_zeros]; simp [wv]) F (by omega)
  unfold ref02_up
  rw [hq]
  simp (disch := omega) only [bs, ↓if_pos, ↓if_neg]
  have er : replI (((ofn v).length : Int) + ((n / 64 : Nat) : Int) + 1) (0 : Int) = List.replicate (n / 64) 0 ++ ((0 : Nat) : Int) :: List.replicate (ofn v).length 0 := by
    rw [show ((0 : Nat) : Int) :: List.replicate (ofn v).length (0 : Int) = List.replicate ((ofn v).length + 1) 0 by rw [List.replicate_succ]; rfl, List.replicate_append_replicate]
    unfold replI
    congr 1
    omega
  rw [er]
  refine Eq.trans h4 ?_
  simp (disch := omega) only [bs, ↓if_pos, ↓if_neg, trimc_eq F hF h1 (by omega)]
  rw [h3, wv_ofn, ← Nat.pow_add, show 64 * (n / 64) + n % 64 = n by omega]
def top512 : Nat := 18446744073709551616 ^ 8
theorem pow64_le {s k : Nat} (h : s ≤ 64 * k) : 2 ^ s ≤ 18446744073709551616 ^ k := by
  rw [p64]
  exact Nat.pow_le_pow_right (by omega) h
theorem len8 {v : Nat} (h : v < top512) : (ofn v).length ≤ 8 := ofn_length_lt h
theorem divbit_loop (F : Nat) (hF : Fuel F) {R : Type} (k2 : List Int → List Int → Option R) {a b : Nat} :
    ∀ (m r d Q : Nat) (x6 : List Int), Dv a b m r d Q → Wd x6 → wv x6 = Q → m ≤ 64 * x6.length → x6.length ≤ 1000 → r < top512 → d < top512 →
      ∀ N, m < N → ∃ o : List Int, Wd o ∧ o.length = x6.length ∧ wv o = a / b ∧ ref02_divmod_l15 F k2 N x6 (ofn r) (ofn d) ((m : Int) - 1) = k2 o (ofn (a % b)) := by
  intro m
  induction m with
  | zero =>
    intro r d Q x6 h hw he hm hl h1 h2 N hN
    obtain ⟨N, rfl⟩ : ∃ M, N = M + 1 := ⟨N - 1, by omega⟩
    obtain ⟨e1, e2⟩ := h.done
    refine ⟨x6, hw, rfl, by rw [he, e1], ?_⟩
    unfold ref02_divmod_l15
    simp (disch := omega) only [bs, ↓if_pos, ↓if_neg, e2]
  | succ m ih =>
    intro r d Q x6 h hw he hm hl h1 h2 N hN
    obtain ⟨N, rfl⟩ : ∃ M, N = M + 1 := ⟨N - 1, by omega⟩
    have hs := h.step
    have l1 := len8 h1
    have l2 := len8 h2
    have hd2 : d / 2 < top512 := by omega
    have ei : ((m + 1 : Nat) : Int) - 1 = (m : Int) := by omega
    rw [ei]
    have hq : quoI .i64 (m : Int) 64 = ((m / 64 : Nat) : Int) := by rw [quoI_i64 (by omega) (by omega) (by omega)]; omega
    have hmm : remI (m : Int) 64 = ((m % 64 : Nat) : Int) := by rw [remI_nn (by omega)]; omega
    have hwr : IntKind.u64.wrap ((m % 64 : Nat) : Int) = ((m % 64 : Nat) : Int) := wrap_u64 (by omega)
    unfold ref02_divmod_l15
    rw [hq, hmm, hwr, compare_eq F hF (by omega) (by omega)]
    have hc : leI 0 (cmpN r d) = decide (d ≤ r) := by
      unfold leI cmpN
      apply decide_eq_decide.2
      split <;> (try split) <;> omega
    simp only [Option.bind_some, hc]
    by_cases hdr : d ≤ r
    · rw [if_pos hdr] at hs
      have hle : (ofn d).length ≤ (ofn r).length := ofn_len_iff.2 (Nat.lt_of_le_of_lt hdr (ofn_len_iff.1 (Nat.le_refl _)))
      obtain ⟨b1, b2, b3⟩ := setB_eq hw (i := m) (by omega) (by rw [he]; exact h.hQ)
      obtain ⟨o, g1, g2, g3, g4⟩ := ih (r - d) (d / 2) (Q + 2 ^ m) (setB x6 m) hs b1 (by rw [b3, he]) (by omega) (by omega) (by omega) hd2 N (by omega)
      refine ⟨o, g1, by omega, g3, ?_⟩
      refine Eq.trans ?_ g4
      rw [decide_eq_true hdr, subw_eq F hF (ofn_Wd r) (ofn_Wd d) hle (by omega) (by rw [wv_ofn, wv_ofn]; exact hdr), wv_ofn, wv_ofn]
      simp (disch := omega) only [bs, ↓if_pos, ↓if_neg, half_eq F hF (ofn_Wd d) (by omega), wv_ofn]
      rfl
    · rw [if_neg hdr] at hs
      obtain ⟨o, g1, g2, g3, g4⟩ := ih r (d / 2) Q x6 hs hw he (by omega) hl h1 hd2 N (by omega)
      refine ⟨o, g1, g2, g3, ?_⟩
      refine Eq.trans ?_ g4
      rw [decide_eq_false hdr]
      simp (disch := omega) only [bs, ↓if_pos, ↓if_neg, half_eq F hF (ofn_Wd d) (by omega), wv_ofn]
theorem ref02_divmod_eq (F : Nat) (hF : Fuel F) {a b : Nat} (hb : 0 < b) (ha : a < top512) (hbl : b < top512) :
    ref02_divmod F (ofn a) (ofn b) = some (ofn (a / b), ofn (a % b), ()) := by
  have l1 := len8 ha
  have l2 := len8 hbl
  have hF' := hF
  unfold Fuel at hF'
  by_cases h1 : (ofn b).length = 1
  · have hlt : b < 18446744073709551616 := by have := ofn_ge (v := b) (n := 1) (by omega); rw [Nat.pow_one] at this; exact this
    have ob : ofn b = [(b : Int)] := by
      rw [ofn_pos (by omega), Nat.div_eq_of_lt hlt, ofn_zero, Nat.mod_eq_of_lt hlt]
    rw [ob, divmod_one F hF (ofn_Wd _) (by omega) (by omega), wv_ofn, Int.toNat_natCast]
  · unfold ref02_divmod
    obtain ⟨s, hs, hsl, es⟩ := ref02_size_eq F (v := a) (by omega)
    obtain ⟨t, ht, htl, et⟩ := ref02_size_eq F (v := b) (by omega)
    have ht1 := (ht.2.2 hb).1
    have etr : ref02_trim F ([] ++ ofn a) = some (ofn a, ()) := by
      rw [List.nil_append, trim_eq F hF (ofn_Wd a) (by omega), wv_ofn]
    have hne : ¬ (((ofn b).length : Int) = 1) := by omega
    by_cases hst : s < t
    · have hlt := Sz_less hs ht hst
      simp (disch := omega) only [bs, ↓if_pos, ↓if_neg, etr, es, et]
      rw [Nat.div_eq_of_lt hlt, Nat.mod_eq_of_lt hlt, ofn_zero]
    · obtain ⟨c1, c2⟩ := Sz_sub hs ht hb (by omega)
      have hst2 : (s : Int) - (t : Int) = ((s - t : Nat) : Int) := by omega
      have h8 : b * 2 ^ (s - t) < top512 := by
        exact Nat.lt_of_lt_of_le c2 (pow64_le (k := 8) (by omega))
      obtain ⟨o, g1, g2, g3, g4⟩ := divbit_loop F hF (fun z39 z40 => (ref02_trim F z39).bind fun r41 => some (r41.1, (z40, ()))) (s - t + 1) a (b * 2 ^ (s - t)) 0 (replI ((ofn a).length : Int) (0 : Int)) (Dv.start c1) (Wd.repl _) (by unfold replI; exact wv_zeros _) (by simp [replI]; omega) (by simp [replI]; omega) ha h8 F (by omega)
      have e1 : ((s - t + 1 : Nat) : Int) - 1 = ((s - t : Nat) : Int) := by omega
      rw [e1] at g4
      simp (disch := omega) only [bs, ↓if_pos, ↓if_neg, etr, es, et, hst2, up_eq F hF (v := b) (n := s - t) (by omega) (by omega)]
      refine Eq.trans g4 ?_
      have : (replI ((ofn a).length : Int) (0 : Int)).length = (ofn a).length := by simp [replI]
      simp (disch := omega) only [bs, ↓if_pos, ↓if_neg, trim_eq F hF g1 (by omega)]
      rw [g3]
end Go.Proofs.YtfmjokmjaghehaaGreat
