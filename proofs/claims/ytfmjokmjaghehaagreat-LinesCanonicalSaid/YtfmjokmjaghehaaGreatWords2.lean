
/- Numbers of many words: multiplication, halves, division by one word. -/
import Derived.Test.YtfmjokmjaghehaaGreatWords
set_option linter.unusedVariables false
set_option linter.unusedSimpArgs false
namespace Go.Proofs.YtfmjokmjaghehaaGreat
open Go.Eng
theorem and32 {x : Int} (h : 0 ≤ x ∧ x ≤ 18446744073709551615) : andI .u64 x 4294967295 = x % 4294967296 := by
  rw [andI_u64 h (by omega), show (4294967295 : Int).toNat = 2 ^ 32 - 1 from rfl, Nat.and_two_pow_sub_one_eq_mod]
  omega
theorem shr32 {x : Int} (hx : 0 ≤ x) : shrI .u64 x 32 = x / 4294967296 := by
  rw [shrI_nat hx]
  simp only [IntKind.bits]
  rw [show min (32 : Int).toNat 64 = 32 from rfl]
  omega
theorem mul_bd {a c A C : Int} (ha : 0 ≤ a ∧ a ≤ A) (hc : 0 ≤ c ∧ c ≤ C) : 0 ≤ a * c ∧ a * c ≤ A * C :=
  ⟨Int.mul_nonneg ha.1 hc.1, Int.mul_le_mul ha.2 hc.2 hc.1 (by omega)⟩
theorem Mul64_eq (F : Nat) {x y : Int} (hx : 0 ≤ x ∧ x ≤ 18446744073709551615) (hy : 0 ≤ y ∧ y ≤ 18446744073709551615) :
    bits_Mul64 F x y = some (x * y / 18446744073709551616, x * y % 18446744073709551616, ()) := by
  unfold bits_Mul64
  rw [and32 hx, and32 hy, shr32 hx.1, shr32 hy.1]
  have e : x * y = (x / 4294967296) * (y / 4294967296) * 18446744073709551616 + ((x / 4294967296) * (y % 4294967296) + (x % 4294967296) * (y / 4294967296)) * 4294967296 + (x % 4294967296) * (y % 4294967296) := by
    have e1 := Int.mul_ediv_add_emod x 4294967296
    have e2 := Int.mul_ediv_add_emod y 4294967296
    generalize x / 4294967296 = a at *
    generalize y / 4294967296 = c at *
    generalize x % 4294967296 = b at *
    generalize y % 4294967296 = d at *
    rw [← e1, ← e2, Int.add_mul, Int.mul_add, Int.mul_add]
    have h1 : 4294967296 * a * (4294967296 * c) = a * c * 18446744073709551616 := by
      rw [show 4294967296 * a * (4294967296 * c) = (4294967296 * 4294967296) * (a * c) by ac_rfl]; omega
    have h2 : 4294967296 * a * d = a * d * 4294967296 := by ac_rfl
    have h3 : b * (4294967296 * c) = b * c * 4294967296 := by ac_rfl
    rw [h1, h2, h3]
    omega
  have r1 := mul_bd (a := x / 4294967296) (c := y / 4294967296) (A := 4294967295) (C := 4294967295) (by omega) (by omega)
  have r2 := mul_bd (a := x / 4294967296) (c := y % 4294967296) (A := 4294967295) (C := 4294967295) (by omega) (by omega)
  have r3 := mul_bd (a := x % 4294967296) (c := y / 4294967296) (A := 4294967295) (C := 4294967295) (by omega) (by omega)
  have r4 := mul_bd (a := x % 4294967296) (c := y % 4294967296) (A := 4294967295) (C := 4294967295) (by omega) (by omega)
  have hlo : mulI .u64 x y = x * y % 18446744073709551616 := wrap_u64_mod _
  rw [hlo, e]
  generalize hac : (x / 4294967296) * (y / 4294967296) = ac at *
  generalize had : (x / 4294967296) * (y % 4294967296) = ad at *
  generalize hbc : (x % 4294967296) * (y / 4294967296) = bc at *
  generalize hbd : (x % 4294967296) * (y % 4294967296) = bd at *
  have m1 : mulI .u64 (x / 4294967296) (y / 4294967296) = ac := by rw [mulI_u64 (by omega), hac]
  have m2 : mulI .u64 (x / 4294967296) (y % 4294967296) = ad := by rw [mulI_u64 (by omega), had]
  have m3 : mulI .u64 (x % 4294967296) (y / 4294967296) = bc := by rw [mulI_u64 (by omega), hbc]
  have m4 : mulI .u64 (x % 4294967296) (y % 4294967296) = bd := by rw [mulI_u64 (by omega), hbd]
  rw [m1, m2, m3, m4, shr32 (by omega : 0 ≤ bd), addI_u64 (x := ad) (by omega), shr32 (by omega : 0 ≤ ad + bd / 4294967296), and32 (by omega), addI_u64 (x := ac) (by omega),
    addI_u64 (x := (ad + bd / 4294967296) % 4294967296) (by omega), shr32 (by omega), addI_u64 (by omega)]
  simp only [Option.some.injEq, Prod.mk.injEq, and_true]
  omega
/- multiplication -/
theorem mul_inner (F : Nat) {x0 x1 : List Int} (h1 : Wd x1) {i : Nat} {x : Int} (hx : 0 ≤ x ∧ x ≤ 18446744073709551615) (hgi : getL 0 x0 (i : Int) = x) (hil : i < x0.length) (hi0 : (x0.length : Int) ≤ 1000000000) (hi1 : (x1.length : Int) ≤ 1000000000) :
    ∀ (yb ya p q : List Int) (c : Int), x1 = ya ++ yb → p.length = i + ya.length → yb.length ≤ q.length → Wd q → 0 ≤ c ∧ c ≤ 18446744073709551615 → ((p ++ q).length : Int) ≤ 3000000000 →
    ∀ N, yb.length < N → ∃ (r : List Int) (c' : Int), Wd r ∧ r.length = yb.length ∧ (0 ≤ c' ∧ c' ≤ 18446744073709551615) ∧
      wv r + c'.toNat * 18446744073709551616 ^ yb.length = wv (q.take yb.length) + x.toNat * wv yb + c.toNat ∧
      ∀ (R : Type) (k : List Int → List Int → List Int → Int → Int → Option R), ref02_mul_l7 F k N x0 x1 (p ++ q) (i : Int) c (ya.length : Int) = k x0 x1 (p ++ (r ++ q.drop yb.length)) (i : Int) c' := by
  intro yb
  induction yb with
  | nil =>
    intro ya p q c hy hp hq hw hc hl N hN
    obtain ⟨N, rfl⟩ : ∃ M, N = M + 1 := ⟨N - 1, by omega⟩
    refine ⟨[], c, Wd.nil, rfl, hc, ?_, ?_⟩
    · simp [wv]
    · intro R k
      have : x1.length = ya.length := by rw [hy]; simp
      unfold ref02_mul_l7
      simp (disch := omega) only [bs, ↓if_pos, ↓if_neg]
      simp
  | cons y t ih =>
    intro ya p q c hy hp hq hw hc hl N hN
    obtain ⟨N, rfl⟩ : ∃ M, N = M + 1 := ⟨N - 1, by omega⟩
    cases q with
    | nil => simp at hq
    | cons w q =>
      have hlen1 : x1.length = ya.length + (t.length + 1) := by rw [hy]; simp
      have hpq : (p ++ w :: q).length = p.length + (q.length + 1) := by simp
      have hyr : 0 ≤ y ∧ y ≤ 18446744073709551615 := h1 y (by rw [hy]; simp)
      have hwr := Wd.head hw
      have hgy : getL 0 x1 (ya.length : Int) = y := by rw [hy]; exact get_mid _ _ _
      have hprod := mul_bd hx hyr
      generalize hxy : x * y = xy at *
      have hgw : getL 0 (p ++ w :: q) ((i : Int) + (ya.length : Int)) = w := by
        rw [show (i : Int) + (ya.length : Int) = (p.length : Int) by omega]; exact get_mid _ _ _
      have hsw : ∀ v, setL (p ++ w :: q) ((i : Int) + (ya.length : Int)) v = (p ++ [v]) ++ q := by
        intro v
        rw [show (i : Int) + (ya.length : Int) = (p.length : Int) by omega]; exact set_mid _ _ _ _
      obtain ⟨r, c', e1, e2, e3, e4, e5⟩ := ih (ya ++ [y]) (p ++ [(xy % 18446744073709551616 + w + c) % 18446744073709551616]) q
        (xy / 18446744073709551616 + (xy % 18446744073709551616 + w) / 18446744073709551616 + ((xy % 18446744073709551616 + w) % 18446744073709551616 + c) / 18446744073709551616)
        (by rw [hy]; simp) (by simp; omega) (by simp at hq; omega) (Wd.tail hw) (by omega) (by simp at hl ⊢; omega) N (by simp at hN; omega)
      refine ⟨(xy % 18446744073709551616 + w + c) % 18446744073709551616 :: r, c', Wd.cons (by omega) e1, by simp [e2], e3, ?_, ?_⟩
      · have hm : x.toNat * wv (y :: t) = x.toNat * y.toNat + 18446744073709551616 * (x.toNat * wv t) := by
          rw [wv, Nat.mul_add, Nat.mul_left_comm]
        have hxyn : x.toNat * y.toNat = xy.toNat := by
          rw [← hxy]
          have : ((x.toNat * y.toNat : Nat) : Int) = x * y := by rw [Int.natCast_mul, Int.toNat_of_nonneg hx.1, Int.toNat_of_nonneg hyr.1]
          omega
        rw [hm, hxyn]
        simp only [List.length_cons, List.take_succ_cons, wv, Nat.pow_succ]
        rw [← Nat.mul_assoc]
        generalize c'.toNat * 18446744073709551616 ^ t.length = T at *
        generalize x.toNat * wv t = Z at *
        omega
      · intro R k
        have e5 := e5 R k
        have hcast : ((ya ++ [y]).length : Int) = (ya.length : Int) + 1 := by simp
        rw [hcast] at e5
        unfold ref02_mul_l7 bits_Add64
        have c1 : (leI 0 (xy % 18446744073709551616) && leI 0 w && leI 0 0 && leI 0 1) = true := by simp only [Bool.and_eq_true, leI_true]; omega
        have c2 : (leI 0 ((xy % 18446744073709551616 + w + 0) % 18446744073709551616) && leI 0 c && leI 0 0 && leI 0 1) = true := by simp only [Bool.and_eq_true, leI_true]; omega
        simp (disch := omega) only [bs, ↓if_pos, ↓if_neg, hgi, hgy, Mul64_eq F hx hyr, hxy, hgw, hsw, c1, c2, addI_u64]
        rw [show ((xy % 18446744073709551616 + w + 0) % 18446744073709551616 + c + 0) % 18446744073709551616 = (xy % 18446744073709551616 + w + c) % 18446744073709551616 by omega,
          show xy / 18446744073709551616 + (xy % 18446744073709551616 + w + 0) / 18446744073709551616 + ((xy % 18446744073709551616 + w + 0) % 18446744073709551616 + c + 0) / 18446744073709551616
            = xy / 18446744073709551616 + (xy % 18446744073709551616 + w) / 18446744073709551616 + ((xy % 18446744073709551616 + w) % 18446744073709551616 + c) / 18446744073709551616 by omega]
        refine Eq.trans e5 ?_
        simp
theorem wv_zero_cons {x : Int} {t : List Int} (hx : 0 ≤ x) (h : wv (x :: t) = 0) : x = 0 ∧ wv t = 0 := by
  simp only [wv] at h; omega
theorem mul_outer (F : Nat) (hF : Fuel F) {R : Type} (k : List Int → Option R) {x0 x1 : List Int} (h0 : Wd x0) (h1 : Wd x1) (hi0 : (x0.length : Int) ≤ 1000000000) (hi1 : (x1.length : Int) ≤ 1000000000) :
    ∀ (xb xa x5 : List Int), x0 = xa ++ xb → Wd x5 → x5.length = x0.length + x1.length + 1 → wv x5 = wv xa * wv x1 →
    ∀ N, xb.length < N → ∃ o : List Int, Wd o ∧ o.length = x0.length + x1.length + 1 ∧ wv o = wv x0 * wv x1 ∧ ref02_mul_l3 F k N x0 x1 x5 (xa.length : Int) = k o := by
  intro xb
  induction xb with
  | nil =>
    intro xa x5 hx hw hl hv N hN
    obtain ⟨N, rfl⟩ : ∃ M, N = M + 1 := ⟨N - 1, by omega⟩
    have hxa : x0 = xa := by rw [hx]; simp
    refine ⟨x5, hw, hl, by rw [hv, hxa], ?_⟩
    have : x0.length = xa.length := by rw [hxa]
    unfold ref02_mul_l3
    simp (disch := omega) only [bs, ↓if_pos, ↓if_neg]
  | cons x t ih =>
    intro xa x5 hx hw hl hv N hN
    obtain ⟨N, rfl⟩ : ∃ M, N = M + 1 := ⟨N - 1, by omega⟩
    have hlen0 : x0.length = xa.length + (t.length + 1) := by rw [hx]; simp
    have hxr : 0 ≤ x ∧ x ≤ 18446744073709551615 := h0 x (by rw [hx]; simp)
    have hgi : getL 0 x0 (xa.length : Int) = x := by rw [hx]; exact get_mid _ _ _
    have hxa : Wd xa := by rw [hx] at h0; exact Wd.left h0
    have hsp := List.take_append_drop xa.length x5
    have hpl : (x5.take xa.length).length = xa.length := by simp; omega
    have hql : (x5.drop xa.length).length = t.length + x1.length + 2 := by simp; omega
    have hqw := Wd.drop hw xa.length
    have hpw := Wd.take hw xa.length
    generalize x5.take xa.length = p at *
    generalize x5.drop xa.length = q at *
    subst hsp
    obtain ⟨r, c', e1, e2, e3, e4, e5⟩ := mul_inner F h1 hxr hgi (by omega) hi0 hi1 x1 [] p q 0 (by simp) (by simp [hpl]) (by omega) hqw (by omega) (by simp; omega) F (by unfold Fuel at hF; omega)
    have hd : (q.drop x1.length).length = t.length + 2 := by simp; omega
    have hqs := List.take_append_drop x1.length q
    have htl : (q.take x1.length).length = x1.length := by simp; omega
    have hvq : wv q = wv (q.take x1.length) + 18446744073709551616 ^ x1.length * wv (q.drop x1.length) := by
      conv => lhs; rw [← hqs]
      rw [wv_append, htl]
    have hdw := Wd.drop hqw x1.length
    generalize q.take x1.length = q1 at *
    generalize q.drop x1.length = q2 at *
    cases q2 with
    | nil => simp at hd
    | cons h rest =>
      have hz : wv (h :: rest) = 0 := by
        have b1 := wv_lt hxa
        have b2 := wv_lt h1
        have b3 : wv xa * wv x1 < 18446744073709551616 ^ xa.length * 18446744073709551616 ^ x1.length := Nat.mul_lt_mul'' b1 b2
        rw [wv_append, hpl, hvq, Nat.mul_add, ← Nat.mul_assoc] at hv
        rcases Nat.eq_zero_or_pos (wv (h :: rest)) with h0 | h0
        · exact h0
        · have : 18446744073709551616 ^ xa.length * 18446744073709551616 ^ x1.length * 1 ≤ 18446744073709551616 ^ xa.length * 18446744073709551616 ^ x1.length * wv (h :: rest) := Nat.mul_le_mul_left _ h0
          omega
      obtain ⟨hh, hr⟩ := wv_zero_cons (Wd.head hdw).1 hz
      have hnew : p ++ (r ++ h :: rest) = (p ++ r) ++ h :: rest := by simp
      have hset : setL (p ++ (r ++ h :: rest)) ((xa.length : Int) + (x1.length : Int)) c' = (p ++ r ++ [c']) ++ rest := by
        rw [hnew, show (xa.length : Int) + (x1.length : Int) = ((p ++ r).length : Int) by simp; omega]
        exact set_mid _ _ _ _
      obtain ⟨o, f1, f2, f3, f4⟩ := ih (xa ++ [x]) ((p ++ r ++ [c']) ++ rest) (by rw [hx]; simp)
        (Wd.append (Wd.append (Wd.append hpw e1) (Wd.one e3)) (Wd.tail hdw)) (by simp at hd ⊢; omega) (by
          rw [List.append_assoc, List.append_assoc, wv_append, wv_append, wv_append, hpl, e2, hr]
          have e4 : wv r + c'.toNat * 18446744073709551616 ^ x1.length = wv q1 + x.toNat * wv x1 := by simpa using e4
          rw [wv_append, hpl, hvq, hz] at hv
          rw [wv_append, Nat.add_mul, ← hv]
          simp only [wv, Nat.mul_zero, Nat.add_zero]
          rw [Nat.mul_comm (18446744073709551616 ^ x1.length) c'.toNat, e4, Nat.mul_add, Nat.mul_assoc, Nat.add_assoc]) N (by simp at hN; omega)
      refine ⟨o, f1, f2, f3, ?_⟩
      have hcast : ((xa ++ [x]).length : Int) = (xa.length : Int) + 1 := by simp
      rw [hcast] at f4
      have e5 : ∀ (R : Type) (k : List Int → List Int → List Int → Int → Int → Option R), ref02_mul_l7 F k F x0 x1 (p ++ q) (xa.length : Int) 0 0 = k x0 x1 (p ++ (r ++ h :: rest)) (xa.length : Int) c' := e5
      have hlf : (p ++ (r ++ h :: rest)).length = x0.length + x1.length + 1 := by simp at hd ⊢; omega
      unfold ref02_mul_l3
      simp (disch := omega) only [bs, ↓if_pos, ↓if_neg]
      rw [e5]
      simp (disch := omega) only [bs, ↓if_pos, ↓if_neg, hset]
      exact f4
theorem mul_eq (F : Nat) (hF : Fuel F) {a b : List Int} (ha : Wd a) (hb : Wd b) (hla : (a.length : Int) ≤ 1000000000) (hlb : (b.length : Int) ≤ 1000000000) : ref02_mul F a b = some (ofn (wv a * wv b), ()) := by
  unfold ref02_mul
  have hz : ∀ n, wv (List.replicate n (0 : Int)) = 0 := by
    intro n
    induction n with
    | zero => rfl
    | succ n ih => simp [List.replicate_succ, wv, ih]
  obtain ⟨o, h1, h2, h3, h4⟩ := mul_outer F hF (fun z31 => (ref02_trim F z31).bind fun r32 => some (r32.1, ())) ha hb hla hlb a [] (replI ((a.length : Int) + (b.length : Int) + 1) 0) (by simp) (Wd.repl _) (by simp [replI]; omega) (by simp [replI, hz, wv]) F (by unfold Fuel at hF; omega)
  simp (disch := omega) only [bs, ↓if_pos, ↓if_neg]
  refine Eq.trans h4 ?_
  simp (disch := omega) only [bs, ↓if_pos, ↓if_neg, trim_eq F hF h1 (by omega)]
  rw [h3]
/- halves -/
theorem half_word {x y : Int} (hx : 0 ≤ x ∧ x ≤ 18446744073709551615) (hy : 0 ≤ y ∧ y ≤ 18446744073709551615) : orI .u64 (shrI .u64 x 1) (shlI .u64 y 63) = x / 2 + y % 2 * 9223372036854775808 := by
  rw [shr1 hx.1, shlI_u64 hy.1 (by omega), show min (63 : Int).toNat 64 = 63 from rfl]
  have h : y.toNat * 2 ^ 63 % 2 ^ 64 = 2 ^ 63 * (y % 2).toNat := by omega
  rw [h, orI_u64 (by omega) (by omega), Int.toNat_natCast, Nat.or_comm, ← Nat.two_pow_add_eq_or_of_lt (by omega)]
  omega
theorem set_mid2 (d : List Int) (x y z : Int) (t : List Int) : setL (setL (d ++ x :: t) (d.length : Int) y) (d.length : Int) z = (d ++ [z]) ++ t := by
  simp [setL]
theorem get_set_mid (d : List Int) (x y : Int) (t : List Int) : getL 0 (setL (d ++ x :: t) (d.length : Int) y) (d.length : Int) = y := by
  simp [setL, getL]
theorem get_set_next (d : List Int) (x y w : Int) (t : List Int) : getL 0 (setL (d ++ x :: w :: t) (d.length : Int) y) ((d.length : Int) + 1) = w := by
  rw [set_mid, show (d.length : Int) + 1 = ((d ++ [y]).length : Int) by simp]
  exact get_mid _ _ _
theorem half_loop (F : Nat) {R : Type} (k : List Int → Option R) : ∀ (ra d : List Int), Wd ra → ((d ++ ra).length : Int) ≤ 140737488355328 →
    ∀ N, ra.length < N → ∃ r : List Int, Wd r ∧ r.length = ra.length ∧ wv r = wv ra / 2 ∧ ref02_half_l2 F k N (d ++ ra) (d.length : Int) = k (d ++ r) := by
  intro ra
  induction ra with
  | nil =>
    intro d _ hl N hN
    obtain ⟨N, rfl⟩ : ∃ M, N = M + 1 := ⟨N - 1, by omega⟩
    refine ⟨[], Wd.nil, rfl, rfl, ?_⟩
    have : (d ++ ([] : List Int)).length = d.length := by simp
    unfold ref02_half_l2
    simp (disch := omega) only [bs, ↓if_pos, ↓if_neg]
  | cons x t ih =>
    intro d hw hl N hN
    obtain ⟨N, rfl⟩ : ∃ M, N = M + 1 := ⟨N - 1, by omega⟩
    have hx := Wd.head hw
    have hlen : (d ++ x :: t).length = d.length + (t.length + 1) := by simp
    cases t with
    | nil =>
      obtain ⟨r, h1, h2, h3, h4⟩ := ih (d ++ [x / 2]) Wd.nil (by simp at hl ⊢; omega) N (by simp at hN ⊢; omega)
      have hr : r = [] := by simpa using h2
      subst hr
      refine ⟨[x / 2], Wd.one (by omega), rfl, by simp only [wv]; omega, ?_⟩
      have hcast : ((d ++ [x / 2]).length : Int) = (d.length : Int) + 1 := by simp
      rw [hcast] at h4
      unfold ref02_half_l2
      simp only [List.length_nil] at hlen
      simp (disch := omega) only [bs, ↓if_pos, ↓if_neg, get_mid, set_mid, shr1]
      simpa using h4
    | cons y t =>
      have hy := Wd.head (Wd.tail hw)
      obtain ⟨r, h1, h2, h3, h4⟩ := ih (d ++ [x / 2 + y % 2 * 9223372036854775808]) (Wd.tail hw) (by simp at hl ⊢; omega) N (by simp at hN ⊢; omega)
      refine ⟨(x / 2 + y % 2 * 9223372036854775808) :: r, Wd.cons (by omega) h1, by simp [h2], by simp only [wv] at h3 ⊢; omega, ?_⟩
      have hcast : ((d ++ [x / 2 + y % 2 * 9223372036854775808]).length : Int) = (d.length : Int) + 1 := by simp
      rw [hcast] at h4
      unfold ref02_half_l2
      simp only [List.length_cons] at hlen
      simp (disch := omega) only [bs, ↓if_pos, ↓if_neg, get_mid, get_set_mid, get_set_next, set_mid2, half_word]
      simpa using h4
theorem half_eq (F : Nat) (hF : Fuel F) {a : List Int} (ha : Wd a) (hl : (a.length : Int) ≤ 140737488355328) : ref02_half F a = some (ofn (wv a / 2), ()) := by
  unfold ref02_half
  obtain ⟨r, h1, h2, h3, h4⟩ := half_loop F (fun z17 => (ref02_trimc F z17).bind fun r18 => some (r18.1, ())) a [] ha (by simpa using hl) F (by unfold Fuel at hF; omega)
  refine Eq.trans h4 ?_
  simp (disch := omega) only [bs, ↓if_pos, ↓if_neg, List.nil_append, trimc_eq F hF h1 (by omega)]
  rw [h3]
end Go.Proofs.YtfmjokmjaghehaaGreat
