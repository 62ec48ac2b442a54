
/- Layer 11: residuals. -/
import Derived.Test.YtfmjokmjaghehaaGreatStamps2
set_option linter.unusedVariables false
set_option linter.unusedSimpArgs false
namespace Go.Proofs.YtfmjokmjaghehaaGreat
open Go.Eng
theorem dfs_snoc : ∀ (l : List Int) (q p x : Int), dfs q (l ++ [p] ++ [x]) = dfs q (l ++ [p]) ++ [IntKind.i64.wrap (x - p)]
  | [], q, p, x => rfl
  | y :: l, q, p, x => by
    have := dfs_snoc l y p x
    simp only [List.cons_append, dfs]
    rw [this]
theorem df_snoc (l : List Int) (p x : Int) : df (l ++ [p] ++ [x]) = df (l ++ [p]) ++ [IntKind.i64.wrap (x - p)] := by
  cases l with
  | nil => rfl
  | cons y l => simp only [List.cons_append, df, dfs_snoc l y p x]
theorem diff_wrap (x p : Int) : IntKind.i64.wrap (subI .u64 (IntKind.wrap .u64 x) (IntKind.wrap .u64 p)) = IntKind.i64.wrap (x - p) := by
  show IntKind.i64.wrap (IntKind.u64.wrap _) = _
  rw [i64_of_u64]
  obtain ⟨k, hk⟩ := i64_wrap_mod (IntKind.u64.wrap x - IntKind.u64.wrap p)
  obtain ⟨j, hj⟩ := i64_wrap_mod (x - p)
  refine i64_uniq (rng_wrap_i64 _) (rng_wrap_i64 _) (k := k - j - x / 18446744073709551616 + p / 18446744073709551616) ?_
  rw [hk, hj, wrap_u64_mod, wrap_u64_mod]
  omega
theorem apply_wrap (x p : Int) : IntKind.i64.wrap (addI .u64 (IntKind.wrap .u64 x) (IntKind.wrap .u64 p)) = IntKind.i64.wrap (x + p) := by
  show IntKind.i64.wrap (IntKind.u64.wrap _) = _
  rw [i64_of_u64]
  obtain ⟨k, hk⟩ := i64_wrap_mod (IntKind.u64.wrap x + IntKind.u64.wrap p)
  obtain ⟨j, hj⟩ := i64_wrap_mod (x + p)
  refine i64_uniq (rng_wrap_i64 _) (rng_wrap_i64 _) (k := k - j - x / 18446744073709551616 - p / 18446744073709551616) ?_
  rw [hk, hj, wrap_u64_mod, wrap_u64_mod]
  omega
theorem differences_loop (F : Nat) {R : Type} (k : List Int → Option R) : ∀ (n : Nat) (c : List Int) (p : Int) (b : List Int), c.length = n → ((c ++ [p] ++ b).length : Int) ≤ 140737488355328 → ∀ N, n < N →
    residual_differences_l1 F k N (c ++ [p] ++ b) (c.length : Int) = k (df (c ++ [p]) ++ b) := by
  intro n
  induction n with
  | zero =>
    intro c p b hc hb N hN
    obtain ⟨N, rfl⟩ : ∃ M, N = M + 1 := ⟨N - 1, by omega⟩
    have : c = [] := List.length_eq_zero_iff.1 hc
    subst this
    unfold residual_differences_l1
    simp (disch := omega) only [bs, ↓if_pos, ↓if_neg]
    rfl
  | succ n ih =>
    intro c p b hc hb N hN
    obtain ⟨N, rfl⟩ : ∃ M, N = M + 1 := ⟨N - 1, by omega⟩
    obtain ⟨c', q, rfl⟩ : ∃ c' q, c = c' ++ [q] := ⟨c.dropLast, c.getLast (by intro h; simp [h] at hc), (List.dropLast_concat_getLast _).symm⟩
    simp only [List.length_append, List.length_singleton] at hc
    have hc' : c'.length = n := by omega
    have g1 : getL 0 (c' ++ [q] ++ [p] ++ b) (((c' ++ [q]).length : Nat) : Int) = p := by
      rw [List.append_assoc (c' ++ [q])]
      exact get_mid (c' ++ [q]) p b
    have g0 : getL 0 (c' ++ [q] ++ [p] ++ b) (c'.length : Int) = q := by
      rw [List.append_assoc, List.append_assoc]
      exact get_mid c' q _
    have s1 : setL (c' ++ [q] ++ [p] ++ b) (((c' ++ [q]).length : Nat) : Int) (IntKind.i64.wrap (p - q)) = c' ++ [q] ++ (IntKind.i64.wrap (p - q) :: b) := by
      rw [List.append_assoc (c' ++ [q])]
      refine (set_mid (c' ++ [q]) p _ b).trans ?_
      simp
    have hll : (c' ++ [q] ++ [p] ++ b).length = n + 2 + b.length := by simp; omega
    have e := ih c' q (IntKind.i64.wrap (p - q) :: b) hc' (by simp at hb ⊢; omega) N (by omega)
    have hfin : df (c' ++ [q] ++ [p]) ++ b = df (c' ++ [q]) ++ (IntKind.i64.wrap (p - q) :: b) := by rw [df_snoc]; simp
    rw [hfin, ← e]
    have hlen : (((c' ++ [q]).length : Nat) : Int) = (n : Int) + 1 := by simp; omega
    rw [hlen] at g1 s1 ⊢
    rw [hc'] at g0 ⊢
    have hn1 : (n : Int) + 1 - 1 = (n : Int) := by omega
    rw [← s1]
    generalize c' ++ [q] ++ [p] ++ b = l at *
    conv => lhs; unfold residual_differences_l1
    unfold checked_Diff
    have hw := diff_wrap p q
    simp (disch := omega) only [bs, ↓if_pos, ↓if_neg, hn1, g1, g0, hw]
theorem residual_differences_eq (F : Nat) (hF : Fuel F) {l : List Int} (hb : (l.length : Int) ≤ 140737488355328) : residual_differences F l = some (df l, ()) := by
  unfold residual_differences
  rcases List.eq_nil_or_concat l with h | ⟨c, p, h⟩
  · subst h
    obtain ⟨G, hG⟩ : ∃ G, F = G + 1 := ⟨F - 1, by unfold Fuel at hF; omega⟩
    rw [hG]
    unfold residual_differences_l1
    simp (disch := omega) only [bs, ↓if_pos, ↓if_neg]
    rfl
  · rw [List.concat_eq_append] at h
    subst h
    have e := differences_loop F (fun z11 => some (z11, ())) c.length c p [] rfl (by simpa using hb) F (by unfold Fuel at hF; simp at hb; omega)
    simp only [List.append_nil] at e
    have : subI .i64 (lenI (c ++ [p])) 1 = (c.length : Int) := by
      show IntKind.wrap .i64 _ = _
      unfold lenI
      simp at hb ⊢
      rw [wrap_i64 (by omega)] <;> omega
    rw [this]
    exact e
theorem sums_loop (F : Nat) {R : Type} (k : List Int → Option R) : ∀ (rest done : List Int) (p : Int), ((done ++ [p] ++ rest).length : Int) ≤ 140737488355328 → ∀ N, rest.length < N →
    residual_sums_l1 F k N (done ++ [p] ++ rest) ((done.length : Int) + 1) = k (done ++ [p] ++ sms p rest) := by
  intro rest
  induction rest with
  | nil =>
    intro done p hb N hN
    obtain ⟨N, rfl⟩ : ∃ M, N = M + 1 := ⟨N - 1, by omega⟩
    have hll : (done ++ [p] ++ []).length = done.length + 1 := by simp
    unfold residual_sums_l1
    simp (disch := omega) only [bs, ↓if_pos, ↓if_neg]
    rfl
  | cons x rest ih =>
    intro done p hb N hN
    obtain ⟨N, rfl⟩ : ∃ M, N = M + 1 := ⟨N - 1, by omega⟩
    simp only [List.length_cons] at hN
    have hlen : (((done ++ [p]).length : Nat) : Int) = (done.length : Int) + 1 := by simp
    have g1 : getL 0 (done ++ [p] ++ x :: rest) ((done.length : Int) + 1) = x := by rw [← hlen]; exact get_mid (done ++ [p]) x rest
    have g0 : getL 0 (done ++ [p] ++ x :: rest) (done.length : Int) = p := by rw [List.append_assoc]; exact get_mid done p _
    have s1 : setL (done ++ [p] ++ x :: rest) ((done.length : Int) + 1) (IntKind.i64.wrap (p + x)) = done ++ [p] ++ [IntKind.i64.wrap (p + x)] ++ rest := by rw [← hlen]; exact set_mid (done ++ [p]) x _ rest
    have e := ih (done ++ [p]) (IntKind.i64.wrap (p + x)) (by simp at hb ⊢; omega) N (by omega)
    rw [hlen] at e
    have hll : (done ++ [p] ++ x :: rest).length = done.length + 2 + rest.length := by simp; omega
    have hw := apply_wrap x p
    rw [Int.add_comm x p] at hw
    have hd1 : (done.length : Int) + 1 - 1 = (done.length : Int) := by omega
    have hfin : done ++ [p] ++ sms p (x :: rest) = done ++ [p] ++ [IntKind.i64.wrap (p + x)] ++ sms (IntKind.i64.wrap (p + x)) rest := by simp [sms]
    rw [hfin, ← e, ← s1]
    generalize done ++ [p] ++ x :: rest = l at *
    conv => lhs; unfold residual_sums_l1
    unfold checked_Apply
    simp (disch := omega) only [bs, ↓if_pos, ↓if_neg, hd1, g1, g0, hw]
theorem residual_sums_eq (F : Nat) (hF : Fuel F) {l : List Int} (hb : (l.length : Int) ≤ 140737488355328) : residual_sums F l = some (sm l, ()) := by
  unfold residual_sums
  cases l with
  | nil =>
    obtain ⟨G, hG⟩ : ∃ G, F = G + 1 := ⟨F - 1, by unfold Fuel at hF; omega⟩
    rw [hG]
    unfold residual_sums_l1
    simp (disch := omega) only [bs, ↓if_pos, ↓if_neg]
    rfl
  | cons x t => exact sums_loop F _ t [] x (by simpa using hb) F (by unfold Fuel at hF; simp at hb; omega)
theorem repeatd_loop (F : Nat) (hF : Fuel F) {R : Type} (k : List Int → Option R) {o : Nat} (ho : o ≤ 2) : ∀ (m i : Nat) (l : List Int), i + m = o → (l.length : Int) ≤ 140737488355328 → ∀ N, m < N →
    residual_repeatd_l1 F k N l (o : Int) (i : Int) = k (dfn m l) := by
  intro m
  induction m with
  | zero =>
    intro i l hi hb N hN
    obtain ⟨N, rfl⟩ : ∃ M, N = M + 1 := ⟨N - 1, by omega⟩
    unfold residual_repeatd_l1
    simp (disch := omega) only [bs, ↓if_pos, ↓if_neg]
    rfl
  | succ m ih =>
    intro i l hi hb N hN
    obtain ⟨N, rfl⟩ : ∃ M, N = M + 1 := ⟨N - 1, by omega⟩
    have e := ih (i + 1) (df l) (by omega) (by rw [df_length]; exact hb) N (by omega)
    simp only [Int.natCast_add, Int.natCast_one] at e
    unfold residual_repeatd_l1
    simp (disch := omega) only [bs, ↓if_pos, ↓if_neg, residual_differences_eq F hF hb]
    exact e
theorem repeats_loop (F : Nat) (hF : Fuel F) {R : Type} (k : List Int → Option R) {o : Nat} (ho : o ≤ 2) : ∀ (m i : Nat) (l : List Int), i + m = o → (l.length : Int) ≤ 140737488355328 → ∀ N, m < N →
    residual_repeats_l1 F k N l (o : Int) (i : Int) = k (smn m l) := by
  intro m
  induction m with
  | zero =>
    intro i l hi hb N hN
    obtain ⟨N, rfl⟩ : ∃ M, N = M + 1 := ⟨N - 1, by omega⟩
    unfold residual_repeats_l1
    simp (disch := omega) only [bs, ↓if_pos, ↓if_neg]
    rfl
  | succ m ih =>
    intro i l hi hb N hN
    obtain ⟨N, rfl⟩ : ∃ M, N = M + 1 := ⟨N - 1, by omega⟩
    have e := ih (i + 1) (sm l) (by omega) (by rw [sm_length]; exact hb) N (by omega)
    simp only [Int.natCast_add, Int.natCast_one] at e
    unfold residual_repeats_l1
    simp (disch := omega) only [bs, ↓if_pos, ↓if_neg, residual_sums_eq F hF hb]
    exact e
theorem Residuals_loop (F : Nat) {R : Type} (k : List Int → Option R) {src : List Int} (hs : Sg src) (hb : (src.length : Int) ≤ 140737488355328) : ∀ (rest pre out z : List Int), src = pre ++ rest → out.length = pre.length → z.length = rest.length → ∀ N, rest.length < N →
    residual_Residuals_l7 F k N (out ++ z) src (src.length : Int) (pre.length : Int) = k (out ++ zs rest) := by
  intro rest
  induction rest with
  | nil =>
    intro pre out z he ho hz N hN
    obtain ⟨N, rfl⟩ : ∃ M, N = M + 1 := ⟨N - 1, by omega⟩
    have : z = [] := List.length_eq_zero_iff.1 hz
    subst this
    have hlen : src.length = pre.length := by rw [he]; simp
    unfold residual_Residuals_l7
    simp (disch := omega) only [bs, ↓if_pos, ↓if_neg]
    rfl
  | cons x rest ih =>
    intro pre out z he ho hz N hN
    obtain ⟨N, rfl⟩ : ∃ M, N = M + 1 := ⟨N - 1, by omega⟩
    obtain ⟨y, z', rfl⟩ : ∃ y z', z = y :: z' := by
      cases z with
      | nil => simp at hz
      | cons y z' => exact ⟨y, z', rfl⟩
    simp only [List.length_cons] at hN hz
    have hlen : src.length = pre.length + 1 + rest.length := by rw [he]; simp; omega
    have g : getL 0 src (pre.length : Int) = x := by rw [he]; exact get_mid pre x rest
    have hx : I64 x := hs x (by rw [he]; simp)
    have st : setL (out ++ y :: z') (pre.length : Int) (zz x : Int) = (out ++ [(zz x : Int)]) ++ z' := by rw [← ho]; exact set_mid out y _ z'
    have hol : (out ++ y :: z').length = pre.length + 1 + z'.length := by simp; omega
    have e := ih (pre ++ [x]) (out ++ [(zz x : Int)]) z' (by rw [he]; simp) (by simp [ho]) (by omega) N (by omega)
    have hpl : (((pre ++ [x]).length : Nat) : Int) = (pre.length : Int) + 1 := by simp
    rw [hpl] at e
    have hz2 : out ++ [(zz x : Int)] ++ zs rest = out ++ zs (x :: rest) := by simp [zs]
    rw [hz2] at e
    unfold residual_Residuals_l7
    simp (disch := omega) only [bs, ↓if_pos, ↓if_neg, g, varint_Zigzag_eq F hx, st]
    exact e
theorem rResiduals_loop (F : Nat) {R : Type} (k : List Int → Option R) {src : List Int} (hs : Sg src) (hb : (src.length : Int) ≤ 140737488355328) : ∀ (rest pre out z : List Int), src = pre ++ rest → out.length = pre.length → z.length = rest.length → ∀ N, rest.length < N →
    ref11_Residuals_l9 F k N src (out ++ z) (pre.length : Int) = k (out ++ zs rest) := by
  intro rest
  induction rest with
  | nil =>
    intro pre out z he ho hz N hN
    obtain ⟨N, rfl⟩ : ∃ M, N = M + 1 := ⟨N - 1, by omega⟩
    have : z = [] := List.length_eq_zero_iff.1 hz
    subst this
    have hlen : src.length = pre.length := by rw [he]; simp
    unfold ref11_Residuals_l9
    simp (disch := omega) only [bs, ↓if_pos, ↓if_neg]
    rfl
  | cons x rest ih =>
    intro pre out z he ho hz N hN
    obtain ⟨N, rfl⟩ : ∃ M, N = M + 1 := ⟨N - 1, by omega⟩
    obtain ⟨y, z', rfl⟩ : ∃ y z', z = y :: z' := by
      cases z with
      | nil => simp at hz
      | cons y z' => exact ⟨y, z', rfl⟩
    simp only [List.length_cons] at hN hz
    have hlen : src.length = pre.length + 1 + rest.length := by rw [he]; simp; omega
    have g : getL 0 src (pre.length : Int) = x := by rw [he]; exact get_mid pre x rest
    have hx : I64 x := hs x (by rw [he]; simp)
    have st : setL (out ++ y :: z') (pre.length : Int) (zz x : Int) = (out ++ [(zz x : Int)]) ++ z' := by rw [← ho]; exact set_mid out y _ z'
    have hol : (out ++ y :: z').length = pre.length + 1 + z'.length := by simp; omega
    have e := ih (pre ++ [x]) (out ++ [(zz x : Int)]) z' (by rw [he]; simp) (by simp [ho]) (by omega) N (by omega)
    have hpl : (((pre ++ [x]).length : Nat) : Int) = (pre.length : Int) + 1 := by simp
    rw [hpl] at e
    have hz2 : out ++ [(zz x : Int)] ++ zs rest = out ++ zs (x :: rest) := by simp [zs]
    rw [hz2] at e
    unfold ref11_Residuals_l9
    simp (disch := omega) only [bs, ↓if_pos, ↓if_neg, g, ref05_Zigzag_eq F hx, st]
    exact e
theorem replI_length (n : Nat) : (replI (n : Int) (0 : Int)).length = n := by simp [replI]
theorem residual_Residuals_eq (F : Nat) (hF : Fuel F) {l : List Int} (hl : Sg l) (hb : (l.length : Int) ≤ 17592186043904) (o : Int) :
    residual_Residuals F l o = if o < 0 ∨ 2 < o then some ([], false, ()) else some (zs (dfn o.toNat l), true, ()) := by
  unfold residual_Residuals
  by_cases c0 : o < 0
  · rw [if_pos (.inl c0)]
    simp (disch := omega) only [bs, ↓if_pos, ↓if_neg]
  · by_cases c1 : 2 < o
    · rw [if_pos (.inr c1)]
      simp (disch := omega) only [bs, ↓if_pos, ↓if_neg]
    · rw [if_neg (by omega)]
      obtain ⟨n, rfl⟩ := Int.eq_ofNat_of_zero_le (show 0 ≤ o by omega)
      have hn : n ≤ 2 := by
        have : Int.ofNat n = (n : Int) := rfl
        omega
      have e1 : slices_Clone_int64 F l = some (l, ()) := by
        unfold slices_Clone_int64
        simp (disch := omega) only [bs, ↓if_pos, ↓if_neg]
      have e2 : residual_repeatd F l (n : Int) = some (dfn n l, ()) := repeatd_loop F hF _ hn n 0 l (by omega) (by omega) F (by unfold Fuel at hF; omega)
      have hdl := dfn_length n l
      have hds := dfn_Sg n hl
      rw [Int.toNat_natCast]
      have x0 : ltI (n : Int) 0 = false := by rw [← Bool.not_eq_true, ltI_true]; omega
      have x1 : ltI 2 (n : Int) = false := by rw [← Bool.not_eq_true, ltI_true]; omega
      simp only [x0, x1, cond_false, e1, e2, Option.bind_some]
      generalize dfn n l = d at *
      have x2 : makeB (lenI d) (lenI d) 8 = true := by rw [makeB_true]; unfold lenI; omega
      rw [x2, cond_true]
      exact Residuals_loop F _ hds (by omega) d [] [] (replI (lenI d) 0) rfl rfl (by unfold lenI; rw [replI_length]) F (by unfold Fuel at hF; omega)
theorem rdiff_loop (F : Nat) {R : Type} (k : List Int → Option R) {src : List Int} (hb : (src.length : Int) ≤ 17592186043904) : ∀ (rest pre : List Int) (p : Int) (out : List Int), src = pre ++ p :: rest → out.length = pre.length + 1 → ∀ N, rest.length < N →
    ref11_differences_l3 F k N src out ((pre.length : Int) + 1) = k (out ++ dfs p rest) := by
  intro rest
  induction rest with
  | nil =>
    intro pre p out he ho N hN
    obtain ⟨N, rfl⟩ : ∃ M, N = M + 1 := ⟨N - 1, by omega⟩
    have hlen : src.length = pre.length + 1 := by rw [he]; simp
    unfold ref11_differences_l3
    simp (disch := omega) only [bs, ↓if_pos, ↓if_neg]
    simp [dfs]
  | cons x rest ih =>
    intro pre p out he ho N hN
    obtain ⟨N, rfl⟩ : ∃ M, N = M + 1 := ⟨N - 1, by omega⟩
    simp only [List.length_cons] at hN
    have hlen : src.length = pre.length + 2 + rest.length := by rw [he]; simp; omega
    have g0 : getL 0 src (pre.length : Int) = p := by rw [he]; exact get_mid pre p _
    have g1 : getL 0 src ((pre.length : Int) + 1) = x := by
      rw [he, show pre ++ p :: x :: rest = (pre ++ [p]) ++ x :: rest by simp, show (pre.length : Int) + 1 = (((pre ++ [p]).length : Nat) : Int) by simp]
      exact get_mid (pre ++ [p]) x rest
    have e := ih (pre ++ [p]) x (out ++ [IntKind.i64.wrap (x - p)]) (by rw [he]; simp) (by simp [ho]) N (by omega)
    rw [show (((pre ++ [p]).length : Nat) : Int) = (pre.length : Int) + 1 by simp, List.append_assoc, List.singleton_append] at e
    have hw := diff_wrap x p
    have hp1 : (pre.length : Int) + 1 - 1 = (pre.length : Int) := by omega
    unfold ref11_differences_l3 ref01_Diff
    simp (disch := omega) only [bs, ↓if_pos, ↓if_neg, hp1, g0, g1, hw]
    exact e
theorem ref11_differences_eq (F : Nat) (hF : Fuel F) {l : List Int} (hb : (l.length : Int) ≤ 17592186043904) : ref11_differences F l = some (df l, ()) := by
  unfold ref11_differences
  obtain ⟨G, hG⟩ : ∃ G, F = G + 1 := ⟨F - 1, by unfold Fuel at hF; omega⟩
  cases l with
  | nil =>
    rw [hG]
    unfold ref11_differences_l3
    simp (disch := omega) only [bs, ↓if_pos, ↓if_neg]
    rfl
  | cons x t =>
    have e := rdiff_loop F (fun z => some (z, ())) hb t [] x [x] rfl rfl G (by unfold Fuel at hF; simp at hb; omega)
    have hll : (x :: t).length = t.length + 1 := rfl
    have g : getL 0 (x :: t) 0 = x := rfl
    have step : ref11_differences_l3 F (fun z => some (z, ())) (G + 1) (x :: t) [] 0 = ref11_differences_l3 F (fun z => some (z, ())) G (x :: t) [x] 1 := by
      have r1 : roomB (([] : List Int).length + 1) 8 = true := rfl
      conv => lhs; unfold ref11_differences_l3
      generalize x :: t = l at *
      simp only [r1, cond_true]
      simp (disch := omega) only [bs, ↓if_pos, ↓if_neg, g, List.nil_append]
      rfl
    have hFG : ref11_differences_l3 F (fun z => some (z, ())) F (x :: t) [] 0 = ref11_differences_l3 F (fun z => some (z, ())) (G + 1) (x :: t) [] 0 := by rw [← hG]
    rw [hFG, step]
    exact e
theorem rRep_loop (F : Nat) (hF : Fuel F) {R : Type} (k : List Int → Option R) {o : Nat} (ho : o ≤ 2) : ∀ (m i : Nat) (l : List Int), i + m = o → (l.length : Int) ≤ 17592186043904 → ∀ N, m < N →
    ref11_Residuals_l4 F k N l (o : Int) (i : Int) = k (dfn m l) := by
  intro m
  induction m with
  | zero =>
    intro i l hi hb N hN
    obtain ⟨N, rfl⟩ : ∃ M, N = M + 1 := ⟨N - 1, by omega⟩
    unfold ref11_Residuals_l4
    simp (disch := omega) only [bs, ↓if_pos, ↓if_neg]
    rfl
  | succ m ih =>
    intro i l hi hb N hN
    obtain ⟨N, rfl⟩ : ∃ M, N = M + 1 := ⟨N - 1, by omega⟩
    have e := ih (i + 1) (df l) (by omega) (by rw [df_length]; exact hb) N (by omega)
    simp only [Int.natCast_add, Int.natCast_one] at e
    unfold ref11_Residuals_l4
    simp (disch := omega) only [bs, ↓if_pos, ↓if_neg, ref11_differences_eq F hF hb]
    exact e
theorem ref11_Residuals_eq (F : Nat) (hF : Fuel F) {l : List Int} (hl : Sg l) (hb : (l.length : Int) ≤ 17592186043904) (o : Int) :
    ref11_Residuals F l o = if o < 0 ∨ 2 < o then some ([], false, ()) else some (zs (dfn o.toNat l), true, ()) := by
  unfold ref11_Residuals
  by_cases c0 : o < 0
  · rw [if_pos (.inl c0)]
    simp (disch := omega) only [bs, ↓if_pos, ↓if_neg]
  · by_cases c1 : 2 < o
    · rw [if_pos (.inr c1)]
      simp (disch := omega) only [bs, ↓if_pos, ↓if_neg]
    · rw [if_neg (by omega)]
      obtain ⟨n, rfl⟩ := Int.eq_ofNat_of_zero_le (show 0 ≤ o by omega)
      have hn : n ≤ 2 := by
        have : Int.ofNat n = (n : Int) := rfl
        omega
      have hdl := dfn_length n l
      have hds := dfn_Sg n hl
      rw [Int.toNat_natCast]
      have x0 : ltI (n : Int) 0 = false := by rw [← Bool.not_eq_true, ltI_true]; omega
      have x1 : ltI 2 (n : Int) = false := by rw [← Bool.not_eq_true, ltI_true]; omega
      simp only [x0, x1, cond_false]
      refine (rRep_loop F hF _ hn n 0 l (by omega) (by omega) F (by unfold Fuel at hF; omega)).trans ?_
      generalize dfn n l = d at *
      have x2 : makeB (lenI d) (lenI d) 8 = true := by rw [makeB_true]; unfold lenI; omega
      simp only [x2, cond_true]
      exact rResiduals_loop F _ hds (by omega) d [] [] (replI (lenI d) 0) rfl rfl (by unfold lenI; rw [replI_length]) F (by unfold Fuel at hF; omega)
def rEe (l : List Int) : List Int × Int := if 65536 < l.length then ([], 3) else (rE l, 0)
theorem residual_Encode_eq (F : Nat) (hF : Fuel F) {l : List Int} (hl : Sg l) (hb : (l.length : Int) ≤ 17592186043904) : residual_Encode F l = some ((rEe l).1, (rEe l).2, ()) := by
  have hR := residual_Residuals_eq F hF hl hb
  unfold residual_Encode residual_Encode_p3 rEe
  have r0 := hR 0
  have r1 := hR 1
  have r2 := hR 2
  rw [if_neg (by omega)] at r0 r1 r2
  rw [show (0 : Int).toNat = 0 from rfl] at r0
  rw [show (1 : Int).toNat = 1 from rfl] at r1
  rw [show (2 : Int).toNat = 2 from rfl] at r2
  have x0 : ltI (0 : Int) 3 = true := rfl
  rw [x0, cond_true, r0]
  simp only [Option.bind_some]
  by_cases h : 65536 < l.length
  · rw [if_pos h, numbers_Encode_big F (by rw [zs_length, dfn_length]; exact h)]
    rfl
  · rw [if_neg h]
    have n0 := numbers_Encode_eq F hF (zs_Wd (dfn_Sg 0 hl)) (by rw [zs_length, dfn_length]; omega)
    have n1 := numbers_Encode_eq F hF (zs_Wd (dfn_Sg 1 hl)) (by rw [zs_length, dfn_length]; omega)
    have n2 := numbers_Encode_eq F hF (zs_Wd (dfn_Sg 2 hl)) (by rw [zs_length, dfn_length]; omega)
    have s0 := nE_small (zs_Wd (dfn_Sg 0 hl)) (by rw [zs_length, dfn_length]; omega)
    have s1 := nE_small (zs_Wd (dfn_Sg 1 hl)) (by rw [zs_length, dfn_length]; omega)
    have s2 := nE_small (zs_Wd (dfn_Sg 2 hl)) (by rw [zs_length, dfn_length]; omega)
    have q0 : rO 0 l = 0 :: nE (zs (dfn 0 l)) := rfl
    have q1 : rO 1 l = 1 :: nE (zs (dfn 1 l)) := rfl
    have q2 : rO 2 l = 2 :: nE (zs (dfn 2 l)) := rfl
    obtain ⟨G, hG⟩ : ∃ G, F = G + 3 := ⟨F - 3, by unfold Fuel at hF; omega⟩
    have z : eqI (0 : Int) 0 = true := rfl
    have w0 : IntKind.wrap .u8 (0 : Int) = 0 := rfl
    have w1 : IntKind.wrap .u8 (1 : Int) = 1 := rfl
    have w2 : IntKind.wrap .u8 (2 : Int) = 2 := rfl
    have a1 : addI .i64 (0 : Int) 1 = 1 := rfl
    have a2 : addI .i64 (1 : Int) 1 = 2 := rfl
    have a3 : addI .i64 (2 : Int) 1 = 3 := rfl
    have rm : ∀ c : List Int, c.length ≤ 524290 → roomB (1 + c.length) 1 = true := fun c hc => by rw [roomB_true]; omega
    -- one more order
    have step : ∀ (N : Nat) (best : List Int) (o : Nat) (c : List Int), best ≠ [] → best.length ≤ 524291 → c.length ≤ 524290 → ltI (o : Int) 3 = true → residual_Residuals F l (o : Int) = some (zs (dfn o l), true, ()) → numbers_Encode F (zs (dfn o l)) = some (c, 0, ()) → IntKind.wrap .u8 (o : Int) = (o : Int) →
        residual_Encode_l3 F (fun z => some (z, (0, ()))) (fun z28 z29 => some (z28, (z29, ()))) (N + 1) l best (o : Int) = residual_Encode_l3 F (fun z => some (z, (0, ()))) (fun z28 z29 => some (z28, (z29, ()))) N l (shorter ((o : Int) :: c) best) (addI .i64 (o : Int) 1) := by
      intro N best o c hne hbl hcl ho hr hc hw
      conv => lhs; unfold residual_Encode_l3
      have he : List.isEmpty best = false := by cases best with | nil => exact absurd rfl hne | cons _ _ => rfl
      simp only [ho, cond_true, hr, Option.bind_some, hc, z, Bool.not_true, cond_false, he]
      by_cases cc : c.length + 1 < best.length
      · have x : ltI (addI .i64 (lenI c) 1) (lenI best) = true := by rw [addI_i64 (by unfold lenI; omega), ltI_true]; unfold lenI; omega
        rw [x, cond_true, rm c hcl, cond_true, hw]
        unfold shorter
        rw [if_pos (by simpa using cc)]
        rfl
      · have x : ltI (addI .i64 (lenI c) 1) (lenI best) = false := by rw [← Bool.not_eq_true, addI_i64 (by unfold lenI; omega), ltI_true]; unfold lenI; omega
        rw [x, cond_false]
        unfold shorter
        rw [if_neg (by simpa using cc)]
    have last : ∀ (N : Nat) (best : List Int), residual_Encode_l3 F (fun z => some (z, (0, ()))) (fun z28 z29 => some (z28, (z29, ()))) (N + 1) l best 3 = some (best, (0, ())) := fun N best => rfl
    have e1 := step (G + 2) (rO 0 l) 1 (nE (zs (dfn 1 l))) (by rw [q0]; simp) (by rw [q0]; simp; omega) s1 rfl r1 n1 rfl
    have hs1 : (shorter (rO 1 l) (rO 0 l)).length ≤ 524291 := by
      have := (shorter_cases (rO 1 l) (rO 0 l)).2.2
      rw [q0] at this ⊢; simp at this; omega
    have hne1 : shorter (rO 1 l) (rO 0 l) ≠ [] := by
      rcases (shorter_cases (rO 1 l) (rO 0 l)).1 with h | h <;> rw [h]
      · rw [q1]; simp
      · rw [q0]; simp
    have e2 := step (G + 1) (shorter (rO 1 l) (rO 0 l)) 2 (nE (zs (dfn 2 l))) hne1 hs1 s2 rfl r2 n2 rfl
    have e3 := last G (shorter (rO 2 l) (shorter (rO 1 l) (rO 0 l)))
    simp only [n0, Option.bind_some, z, Bool.not_true, cond_false, rm _ s0, cond_true, w0, a1]
    have hF3 : residual_Encode_l3 F (fun z => some (z, (0, ()))) (fun z28 z29 => some (z28, (z29, ()))) F l ([0] ++ nE (zs (dfn 0 l))) 1 = residual_Encode_l3 F (fun z => some (z, (0, ()))) (fun z28 z29 => some (z28, (z29, ()))) (G + 2 + 1) l (rO 0 l) 1 := by
      rw [q0, show G + 2 + 1 = F by omega]
      rfl
    refine hF3.trans (e1.trans ?_)
    refine Eq.trans ?_ (e2.trans ?_)
    · rfl
    · exact e3
theorem ref11_Encode_eq (F : Nat) (hF : Fuel F) {l : List Int} (hl : Sg l) (hb : (l.length : Int) ≤ 17592186043904) : ref11_Encode F l = some ((rEe l).1, (rEe l).2, ()) := by
  unfold ref11_Encode rEe
  by_cases h : 65536 < l.length
  · rw [if_pos h]
    simp (disch := omega) only [bs, ↓if_pos, ↓if_neg]
  · rw [if_neg h]
    have hlt : ltI 65536 (lenI l) = false := by rw [← Bool.not_eq_true, ltI_true]; unfold lenI; omega
    rw [hlt, cond_false]
    have hR := ref11_Residuals_eq F hF hl hb
    have r0 := hR 0
    have r1 := hR 1
    have r2 := hR 2
    rw [if_neg (by omega)] at r0 r1 r2
    rw [show (0 : Int).toNat = 0 from rfl] at r0
    rw [show (1 : Int).toNat = 1 from rfl] at r1
    rw [show (2 : Int).toNat = 2 from rfl] at r2
    have n0 := ref09_Encode_eq F hF (zs_Wd (dfn_Sg 0 hl)) (by rw [zs_length, dfn_length]; omega)
    have n1 := ref09_Encode_eq F hF (zs_Wd (dfn_Sg 1 hl)) (by rw [zs_length, dfn_length]; omega)
    have n2 := ref09_Encode_eq F hF (zs_Wd (dfn_Sg 2 hl)) (by rw [zs_length, dfn_length]; omega)
    have s0 := nE_small (zs_Wd (dfn_Sg 0 hl)) (by rw [zs_length, dfn_length]; omega)
    have s1 := nE_small (zs_Wd (dfn_Sg 1 hl)) (by rw [zs_length, dfn_length]; omega)
    have s2 := nE_small (zs_Wd (dfn_Sg 2 hl)) (by rw [zs_length, dfn_length]; omega)
    have q0 : rO 0 l = 0 :: nE (zs (dfn 0 l)) := rfl
    have q1 : rO 1 l = 1 :: nE (zs (dfn 1 l)) := rfl
    obtain ⟨G, hG⟩ : ∃ G, F = G + 4 := ⟨F - 4, by unfold Fuel at hF; omega⟩
    have rm : ∀ c : List Int, c.length ≤ 524290 → roomB (1 + c.length) 1 = true := fun c hc => by rw [roomB_true]; omega
    have first : ∀ N : Nat, ref11_Encode_l5 F (fun z => some (z, ((0 : Int), ()))) (N + 1) l [] 0 = ref11_Encode_l5 F (fun z => some (z, ((0 : Int), ()))) N l (rO 0 l) 1 := by
      intro N
      conv => lhs; unfold ref11_Encode_l5
      simp only [show leI (0 : Int) 2 = true from rfl, cond_true, r0, Option.bind_some, n0, show eqI (0 : Int) 0 = true from rfl, rm _ s0]
      rfl
    have step : ∀ (N : Nat) (best : List Int) (o : Nat) (c : List Int), best.length ≤ 524291 → c.length ≤ 524290 → leI (o : Int) 2 = true → eqI (o : Int) 0 = false → ref11_Residuals F l (o : Int) = some (zs (dfn o l), true, ()) → ref09_Encode F (zs (dfn o l)) = some (c, 0, ()) → IntKind.wrap .u8 (o : Int) = (o : Int) →
        ref11_Encode_l5 F (fun z => some (z, ((0 : Int), ()))) (N + 1) l best (o : Int) = ref11_Encode_l5 F (fun z => some (z, ((0 : Int), ()))) N l (shorter ((o : Int) :: c) best) (addI .i64 (o : Int) 1) := by
      intro N best o c hbl hcl ho ho0 hr hc hw
      conv => lhs; unfold ref11_Encode_l5
      simp only [ho, cond_true, hr, Option.bind_some, hc, ho0, cond_false]
      by_cases cc : c.length + 1 < best.length
      · have x : ltI (addI .i64 1 (lenI c)) (lenI best) = true := by rw [addI_i64 (by unfold lenI; omega), ltI_true]; unfold lenI; omega
        rw [x, cond_true, rm c hcl, cond_true, hw]
        unfold shorter
        rw [if_pos (by simpa using cc)]
        rfl
      · have x : ltI (addI .i64 1 (lenI c)) (lenI best) = false := by rw [← Bool.not_eq_true, addI_i64 (by unfold lenI; omega), ltI_true]; unfold lenI; omega
        rw [x, cond_false]
        unfold shorter
        rw [if_neg (by simpa using cc)]
    have last : ∀ (N : Nat) (best : List Int), ref11_Encode_l5 F (fun z => some (z, ((0 : Int), ()))) (N + 1) l best 3 = some (best, (0, ())) := fun N best => rfl
    have e0 := first (G + 3)
    have e1 := step (G + 2) (rO 0 l) 1 (nE (zs (dfn 1 l))) (by rw [q0]; simp; omega) s1 rfl rfl r1 n1 rfl
    have hs1 : (shorter (rO 1 l) (rO 0 l)).length ≤ 524291 := by
      have := (shorter_cases (rO 1 l) (rO 0 l)).2.2
      rw [q0] at this ⊢; simp at this; omega
    have e2 := step (G + 1) (shorter (rO 1 l) (rO 0 l)) 2 (nE (zs (dfn 2 l))) hs1 s2 rfl rfl r2 n2 rfl
    have e3 := last G (shorter (rO 2 l) (shorter (rO 1 l) (rO 0 l)))
    have hF4 : ref11_Encode_l5 F (fun z => some (z, ((0 : Int), ()))) F l [] 0 = ref11_Encode_l5 F (fun z => some (z, ((0 : Int), ()))) (G + 3 + 1) l [] 0 := by rw [show G + 3 + 1 = F by omega]
    exact hF4.trans (e0.trans (e1.trans (e2.trans e3)))
end Go.Proofs.YtfmjokmjaghehaaGreat
