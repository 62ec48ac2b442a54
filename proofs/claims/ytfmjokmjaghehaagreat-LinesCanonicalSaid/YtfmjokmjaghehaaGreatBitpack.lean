
/- Layer 8: bitpack. What the models of the program and of the reference say. -/
import Derived.Test.YtfmjokmjaghehaaGreatMade
import Derived.Lib.ItoaNum
set_option linter.unusedVariables false
set_option linter.unusedSimpArgs false
namespace Go.Proofs.YtfmjokmjaghehaaGreat
open Go.Eng
theorem p2 (n : Nat) : (2 : Int) ^ n = ((2 ^ n : Nat) : Int) := by simp
theorem lt_p2 {x : Int} (hx : 0 ≤ x) (n : Nat) : x < 2 ^ n ↔ x.toNat < 2 ^ n := by
  rw [p2]; omega
theorem bitLen_le_iff {x w : Nat} (hx : x < 2 ^ 64) : Lib.bitLen x ≤ w ↔ x < 2 ^ w := by
  constructor
  · intro h
    by_cases h0 : x = 0
    · rw [h0]; exact Nat.pow_pos (by omega)
    · have := (Lib.bitLenAux_bounds 64 x hx h0).2.2
      exact Nat.lt_of_lt_of_le this (Nat.pow_le_pow_right (by omega) h)
  · intro h
    by_cases hw : w ≤ 64
    · exact Lib.bitLen_le x w hw h
    · exact Nat.le_trans (Lib.bitLen_le x 64 (Nat.le_refl _) hx) (by omega)
def IsWidth (l : List Int) (W : Int) : Prop := 0 ≤ W ∧ W ≤ 64 ∧ ∀ w : Nat, W ≤ w ↔ ∀ x ∈ l, x < 2 ^ w
theorem IsWidth.eq {l : List Int} {W V : Int} (h : IsWidth l W) (k : IsWidth l V) : W = V := by
  obtain ⟨h1, h2, h3⟩ := h
  obtain ⟨k1, k2, k3⟩ := k
  have a := (h3 V.toNat).2 ((k3 V.toNat).1 (by omega))
  have b := (k3 W.toNat).2 ((h3 W.toNat).1 (by omega))
  omega
theorem Width_loop (F : Nat) {R : Type} (k : Int → Option R) {l : List Int} (hl : Wd l) (hb : (l.length : Int) ≤ 9223372036854775806) : ∀ (m i : Nat) (z : Int), i + m = l.length → (0 ≤ z ∧ z ≤ 18446744073709551615) →
    ∀ N, m < N → ∃ y, (0 ≤ y ∧ y ≤ 18446744073709551615) ∧ (∀ b, nb y b = (nb z b || (l.drop i).any (nb · b))) ∧ bitpack_Width_l3 F k N z l (l.length : Int) i = k y := by
  intro m
  induction m with
  | zero =>
    intro i z hi hz N hN
    obtain ⟨N, rfl⟩ : ∃ M, N = M + 1 := ⟨N - 1, by omega⟩
    refine ⟨z, hz, fun b => ?_, ?_⟩
    · rw [List.drop_eq_nil_of_le (by omega)]; simp
    · unfold bitpack_Width_l3
      simp (disch := omega) only [bs, ↓if_pos, ↓if_neg]
  | succ m ih =>
    intro i z hi hz N hN
    obtain ⟨N, rfl⟩ : ∃ M, N = M + 1 := ⟨N - 1, by omega⟩
    have hx := hl.get (i : Int)
    obtain ⟨y, hy, hby, e⟩ := ih (i + 1) (orI .u64 z (getL 0 l i)) (by omega) (rng_or_u64 hz hx) N (by omega)
    refine ⟨y, hy, fun b => ?_, ?_⟩
    · have hd : l.drop i = getL 0 l (i : Int) :: l.drop (i + 1) := by
        rw [List.drop_eq_getElem_cons (by omega)]
        simp [getL, List.getD_eq_getElem?_getD, show i < l.length by omega]
      rw [hby, nb_or_u64 hz hx, hd, List.any_cons, Bool.or_assoc]
    · unfold bitpack_Width_l3
      simp (disch := omega) only [bs, ↓if_pos, ↓if_neg]
      exact e
theorem bitpack_Width_ok (F : Nat) (hF : Fuel F) {l : List Int} (hl : Wd l) (hb : (l.length : Int) ≤ 140737488355328) : ∃ W, bitpack_Width F l = some (W, ()) ∧ IsWidth l W := by
  unfold Fuel at hF
  obtain ⟨y, hy, hby, e⟩ := Width_loop F (fun z6 => (bits_Len64 F z6).bind fun r7 => some (r7.1, ())) hl (by omega) l.length 0 0 (by omega) (by omega) F (by omega)
  refine ⟨(Lib.bitLen y.toNat : Int), ?_, by omega, ?_, fun w => ?_⟩
  · refine Eq.trans e ?_
    have : (leI 0 y && leI y 18446744073709551615) = true := by simp only [Bool.and_eq_true, leI_true]; omega
    simp only [bits_Len64, this, cond_true, Option.bind_some]
  · have := (bitLen_le_iff (x := y.toNat) (w := 64) (by omega)).2 (by omega)
    omega
  · have h1 : ((Lib.bitLen y.toNat : Nat) : Int) ≤ (w : Int) ↔ y < 2 ^ w := by
      rw [lt_p2 hy.1, ← bitLen_le_iff (by omega)]; omega
    rw [h1]
    constructor
    · intro h x hx
      refine lt_of_nb (hl x hx).1 fun k hk => ?_
      have := hby k
      rw [nb_lt hy.1 h hk] at this
      simp only [nb_zero, Bool.false_or, List.drop_zero] at this
      have h2 := List.any_eq_false.1 this.symm x hx
      simpa using h2
    · intro h
      refine lt_of_nb hy.1 fun k hk => ?_
      rw [hby k, nb_zero, Bool.false_or, List.drop_zero]
      rw [List.any_eq_false]
      intro x hx
      rw [nb_lt (hl x hx).1 (h x hx) hk]; simp
theorem shr_ne_zero {x : Int} (hx : 0 ≤ x) {w : Nat} (hw : w < 64) : shrI .u64 x (IntKind.u64.wrap (w : Int)) = 0 ↔ x < 2 ^ w := by
  rw [wrap_u64 (by omega), shrI_nat hx, lt_p2 hx]
  simp only [Int.toNat_natCast, IntKind.bits]
  rw [Nat.min_eq_left (by omega)]
  have h := Nat.div_eq_zero_iff (a := x.toNat) (b := 2 ^ w)
  have hp : 0 < 2 ^ w := Nat.pow_pos (by omega)
  omega
theorem refWidth_inner (F : Nat) {R : Type} (k : List Int → Int → Int → Option R) {l : List Int} (hl : Wd l) {i : Nat} (hi : i < l.length) : ∀ (m w : Nat), w + m = 64 →
    ∀ N, m < N → ∃ v : Nat, v ≤ 64 ∧ (∀ u : Nat, v ≤ u ↔ w ≤ u ∧ getL 0 l (i : Int) < 2 ^ u) ∧ ref08_Width_l5 F k N l w i = k l v i := by
  have hx := hl.get (i : Int)
  have top : ∀ u : Nat, 64 ≤ u → getL 0 l (i : Int) < 2 ^ u := fun u hu => by
    have : (2 : Int) ^ 64 ≤ 2 ^ u := by
      rw [p2, p2]; exact Int.ofNat_le.2 (Nat.pow_le_pow_right (by omega) hu)
    omega
  intro m
  induction m with
  | zero =>
    intro w hw N hN
    obtain ⟨N, rfl⟩ : ∃ M, N = M + 1 := ⟨N - 1, by omega⟩
    refine ⟨w, by omega, fun u => ⟨fun h => ⟨h, top u (by omega)⟩, fun h => h.1⟩, ?_⟩
    unfold ref08_Width_l5
    simp (disch := omega) only [bs, ↓if_pos, ↓if_neg]
  | succ m ih =>
    intro w hw N hN
    obtain ⟨N, rfl⟩ : ∃ M, N = M + 1 := ⟨N - 1, by omega⟩
    have hwr := rng_wrap_u64 (w : Int)
    by_cases hc : getL 0 l (i : Int) < 2 ^ w
    · refine ⟨w, by omega, fun u => ⟨fun h => ⟨h, ?_⟩, fun h => h.1⟩, ?_⟩
      · have : (2 : Int) ^ w ≤ 2 ^ u := by
          rw [p2, p2]; exact Int.ofNat_le.2 (Nat.pow_le_pow_right (by omega) h)
        omega
      · unfold ref08_Width_l5
        simp (disch := omega) only [bs, ↓if_pos, ↓if_neg, (shr_ne_zero hx.1 (w := w) (by omega)).2 hc]
    · obtain ⟨v, hv, hv2, e⟩ := ih (w + 1) (by omega) N (by omega)
      refine ⟨v, hv, fun u => ?_, ?_⟩
      · rw [hv2]
        constructor
        · rintro ⟨h1, h2⟩; exact ⟨by omega, h2⟩
        · rintro ⟨h1, h2⟩
          refine ⟨?_, h2⟩
          have hne : u ≠ w := fun e => hc (e ▸ h2)
          omega
      · have hne : ¬ shrI .u64 (getL 0 l (i : Int)) (IntKind.u64.wrap (w : Int)) = 0 := fun h => hc ((shr_ne_zero hx.1 (by omega)).1 h)
        unfold ref08_Width_l5
        simp (disch := omega) only [bs, ↓if_pos, ↓if_neg]
        exact e
theorem refWidth_loop (F : Nat) (hF : Fuel F) {R : Type} (k : Int → Option R) {l : List Int} (hl : Wd l) (hb : (l.length : Int) ≤ 9223372036854775806) : ∀ (m i w : Nat), i + m = l.length → w ≤ 64 → (∀ u : Nat, w ≤ u ↔ ∀ x ∈ l.take i, x < 2 ^ u) →
    ∀ N, m < N → ∃ v : Nat, v ≤ 64 ∧ (∀ u : Nat, v ≤ u ↔ ∀ x ∈ l, x < 2 ^ u) ∧ ref08_Width_l3 F k N l w i = k v := by
  unfold Fuel at hF
  intro m
  induction m with
  | zero =>
    intro i w hi hw hu N hN
    obtain ⟨N, rfl⟩ : ∃ M, N = M + 1 := ⟨N - 1, by omega⟩
    refine ⟨w, hw, fun u => ?_, ?_⟩
    · rw [hu, List.take_of_length_le (by omega)]
    · unfold ref08_Width_l3
      simp (disch := omega) only [bs, ↓if_pos, ↓if_neg]
  | succ m ih =>
    intro i w hi hw hu N hN
    obtain ⟨N, rfl⟩ : ∃ M, N = M + 1 := ⟨N - 1, by omega⟩
    obtain ⟨v, hv, hv2, e⟩ := refWidth_inner F (fun z9 z10 z11 => ref08_Width_l3 F k N z9 z10 (addI .i64 z11 1)) hl (i := i) (by omega) (64 - w) w (by omega) F (by omega)
    obtain ⟨v', hv', hv2', e'⟩ := ih (i + 1) v (by omega) hv (fun u => by
      rw [hv2, hu, List.take_succ_eq_append_getElem (by omega)]
      have hg : getL 0 l (i : Int) = l[i] := by simp [getL, List.getD_eq_getElem?_getD, show i < l.length by omega]
      rw [hg]
      simp only [List.mem_append, List.mem_singleton]
      constructor
      · rintro ⟨h1, h2⟩ x (hx | rfl)
        · exact h1 x hx
        · exact h2
      · intro h
        exact ⟨fun x hx => h x (.inl hx), h _ (.inr rfl)⟩) N (by omega)
    refine ⟨v', hv', hv2', ?_⟩
    unfold ref08_Width_l3
    simp (disch := omega) only [bs, ↓if_pos, ↓if_neg]
    refine Eq.trans e ?_
    simp (disch := omega) only [bs, ↓if_pos, ↓if_neg]
    exact e'
theorem ref08_Width_ok (F : Nat) (hF : Fuel F) {l : List Int} (hl : Wd l) (hb : (l.length : Int) ≤ 140737488355328) : ∃ W, ref08_Width F l = some (W, ()) ∧ IsWidth l W := by
  have hF' := hF
  unfold Fuel at hF'
  obtain ⟨v, hv, hv2, e⟩ := refWidth_loop F hF (fun z13 => some (z13, ())) hl (by omega) l.length 0 0 (by omega) (by omega) (fun u => by simp) F (by omega)
  refine ⟨v, e, by omega, by omega, fun w => ?_⟩
  rw [← hv2]; omega
def size8 (n w : Int) : Int := if n < 0 ∨ 65536 < n ∨ w < 0 ∨ 64 < w then -1 else (n * w + 7) / 8
theorem mul_rng {n w : Int} (h0 : 0 ≤ n) (h1 : n ≤ 65536) (h2 : 0 ≤ w) (h3 : w ≤ 64) : 0 ≤ n * w ∧ n * w ≤ 4194304 :=
  ⟨Int.mul_nonneg h0 h2, Int.mul_le_mul h1 h3 h2 (by omega)⟩
theorem bitpack_Bytes_eq (F : Nat) (n w : Int) : bitpack_Bytes F n w = some (size8 n w, ()) := by
  unfold bitpack_Bytes size8
  by_cases h0 : n < 0
  · simp (disch := omega) only [bs, ↓if_pos, ↓if_neg]
  by_cases h1 : 65536 < n
  · simp (disch := omega) only [bs, ↓if_pos, ↓if_neg]
  by_cases h2 : w < 0
  · simp (disch := omega) only [bs, ↓if_pos, ↓if_neg]
  by_cases h3 : 64 < w
  · simp (disch := omega) only [bs, ↓if_pos, ↓if_neg]
  have := mul_rng (n := n) (w := w) (by omega) (by omega) (by omega) (by omega)
  simp (disch := omega) only [bs, ↓if_pos, ↓if_neg]
theorem ref08_Bytes_eq (F : Nat) (n w : Int) : ref08_Bytes F n w = some (size8 n w, ()) := bitpack_Bytes_eq F n w
def PK (B : Nat → Bool) (size : Nat) (out : List Int) (at_ : Nat) : Prop := Bt out ∧ out.length = size ∧ ∀ p, bitAt out p = (decide (p < at_) && B p)
theorem PK.eq {B : Nat → Bool} {size at_ : Nat} {a b : List Int} (h : PK B size a at_) (k : PK B size b at_) : a = b :=
  bytes_ext h.1 k.1 (h.2.1.trans k.2.1.symm) fun p _ => by rw [h.2.2, k.2.2]
theorem bitAt_set {out : List Int} {j : Nat} (hj : j < out.length) (x : Int) (p : Nat) : bitAt (out.set j x) p = if p / 8 = j then nb x (p % 8) else bitAt out p := by
  unfold bitAt
  rw [getD_set _ _ _ _ _ hj]
  split <;> rfl
theorem PK.step {B : Nat → Bool} {size : Nat} {out : List Int} {a n : Nat} (h : PK B size out a) (hs : a / 8 < size) {v : Int} (hv : 0 ≤ v) (hn : n ≤ 8 - a % 8)
    (hb : ∀ q, q < n → nb v q = B (a + q)) (hz : n = 8 - a % 8 ∨ ∀ q, n ≤ q → nb v q = false) :
    PK B size (setL out ((a : Int) / 8) (orI .u8 (getL 0 out ((a : Int) / 8)) (shlI .u8 (IntKind.wrap .u8 v) ((a : Int) % 8)))) (a + n) := by
  obtain ⟨h1, h2, h3⟩ := h
  have hg := h1.get ((a : Int) / 8)
  have hw := rng_wrap_u8 v
  have hsh := rng_shl_u8 hw.1 (s := (a : Int) % 8) (by omega)
  have hor := rng_or_u8 hg hsh
  refine ⟨h1.set _ hor, by rw [length_setL, h2], fun p => ?_⟩
  unfold setL
  rw [show ((a : Int) / 8).toNat = a / 8 by omega, bitAt_set (by omega)]
  by_cases hp : p / 8 = a / 8
  · rw [if_pos hp, nb_or_u8 hg hsh, nb_shl_u8 hw.1 (by omega), nb_wrap_u8 hv]
    have e1 : nb (getL 0 out ((a : Int) / 8)) (p % 8) = bitAt out p := by
      unfold getL bitAt
      rw [show ((a : Int) / 8).toNat = p / 8 by omega]
    rw [e1, h3, show ((a : Int) % 8).toNat = a % 8 by omega]
    by_cases hpa : p < a
    · have : ¬ a % 8 ≤ p % 8 := by omega
      simp [hpa, this, show p < a + n by omega]
    · have hle : a % 8 ≤ p % 8 := by omega
      have hq : p % 8 - a % 8 = p - a := by omega
      simp only [hpa, decide_false, Bool.false_and, Bool.false_or, hle, decide_true, Bool.true_and, hq, show p % 8 < 8 by omega, show p - a < 8 by omega]
      by_cases hpn : p < a + n
      · rw [hb (p - a) (by omega), show a + (p - a) = p by omega]; simp [hpn]
      · rcases hz with hz | hz
        · omega
        · rw [hz (p - a) (by omega)]; simp [hpn]
  · rw [if_neg hp, h3]
    by_cases hpa : p < a
    · simp [hpa, show p < a + n by omega]
    · simp [hpa, show ¬ p < a + n by omega]
theorem Pack_inner (F : Nat) {R : Type} (k2 : Int → List Int → Int → List Int → Int → Int → Option R) {B : Nat → Bool} {w iw N size : Nat} {x : Int} (hx : 0 ≤ x ∧ x ≤ 18446744073709551615) (hxw : ∀ k, w ≤ k → nb x k = false) (hB : ∀ k, k < w → B (iw + k) = nb x k)
    (hN : iw + w ≤ N) (hs : size = (N + 7) / 8) (hNb : N ≤ 4194304) (hw : w ≤ 64) (l : List Int) (y z : Int) : ∀ (M m d : Nat) (out : List Int) (v : Int), m ≤ M → d + m = w → PK B size out (iw + d) → (0 ≤ v ∧ v ≤ 18446744073709551615) → (∀ q, nb v q = nb x (d + q)) →
    ∀ Nf, M < Nf → ∃ out', PK B size out' (iw + w) ∧ bitpack_Pack_l10 F k2 Nf w out ((iw + d : Nat) : Int) v m l y z = k2 w out' ((iw + w : Nat) : Int) l y z := by
  intro M
  induction M with
  | zero =>
    intro m d out v hm hd hP hv hq Nf hNf
    obtain ⟨Nf, rfl⟩ : ∃ K, Nf = K + 1 := ⟨Nf - 1, by omega⟩
    have hd' : d = w := by omega
    subst hd'
    refine ⟨out, hP, ?_⟩
    unfold bitpack_Pack_l10
    simp (disch := omega) only [bs, ↓if_pos, ↓if_neg]
  | succ M ih =>
    intro m d out v hm hd hP hv hq Nf hNf
    obtain ⟨Nf, rfl⟩ : ∃ K, Nf = K + 1 := ⟨Nf - 1, by omega⟩
    by_cases hm0 : m = 0
    · have hd' : d = w := by omega
      subst hd'
      refine ⟨out, hP, ?_⟩
      unfold bitpack_Pack_l10
      simp (disch := omega) only [bs, ↓if_pos, ↓if_neg]
    · have hlen := hP.2.1
      obtain ⟨n, hn⟩ : ∃ n, n = min (8 - (iw + d) % 8) m := ⟨_, rfl⟩
      have hshr := rng_shr (kd := .u64) (s := (n : Int)) hv.1
      have hstep := hP.step (n := n) (by omega) hv.1 (by omega) (fun q hq' => by rw [hq, ← hB (d + q) (by omega), Nat.add_assoc]) (by
        by_cases h8 : n = 8 - (iw + d) % 8
        · exact .inl h8
        · exact .inr fun q hq' => by rw [hq]; exact hxw _ (by omega))
      obtain ⟨out', hP', e⟩ := ih (m - n) (d + n) _ (shrI .u64 v n) (by omega) (by omega) (by rw [← Nat.add_assoc]; exact hstep) (by omega) (fun q => by
        rw [nb_shr hv.1, hq]
        congr 1
        simp only [Int.toNat_natCast, IntKind.bits]
        omega) Nf (by omega)
      refine ⟨out', hP', ?_⟩
      unfold bitpack_Pack_l10
      have hmin : min (8 - ((iw + d : Nat) : Int) % 8) (m : Int) = (n : Int) := by omega
      simp (disch := omega) only [bs, ↓if_pos, ↓if_neg, hmin]
      rw [← e]
      congr 1 <;> omega
theorem Pack_loop (F : Nat) (hF : Fuel F) {R : Type} (k0 : List Int → Option R) {B : Nat → Bool} {l : List Int} (hl : Wd l) {w size : Nat} (hlw : ∀ x ∈ l, x < 2 ^ w) (hw : w ≤ 64) (hn : l.length ≤ 65536)
    (hB : ∀ i k, i < l.length → k < w → B (i * w + k) = nb (l.getD i 0) k) (hs : size = (l.length * w + 7) / 8) : ∀ (m i : Nat) (out : List Int), i + m = l.length → PK B size out (i * w) →
    ∀ Nf, m < Nf → ∃ out', PK B size out' (l.length * w) ∧ bitpack_Pack_l7 F k0 Nf w out ((i * w : Nat) : Int) l l.length i = k0 out' := by
  unfold Fuel at hF
  have hmax : l.length * w ≤ 4194304 := Nat.le_trans (Nat.mul_le_mul hn hw) (by omega)
  intro m
  induction m with
  | zero =>
    intro i out hi hP Nf hNf
    obtain ⟨Nf, rfl⟩ : ∃ K, Nf = K + 1 := ⟨Nf - 1, by omega⟩
    have hi' : i = l.length := by omega
    subst hi'
    refine ⟨out, hP, ?_⟩
    unfold bitpack_Pack_l7
    simp (disch := omega) only [bs, ↓if_pos, ↓if_neg]
  | succ m ih =>
    intro i out hi hP Nf hNf
    obtain ⟨Nf, rfl⟩ : ∃ K, Nf = K + 1 := ⟨Nf - 1, by omega⟩
    have hgl : l.getD i 0 ∈ l := by
      rw [List.getD_eq_getElem?_getD, List.getElem?_eq_getElem (by omega)]
      exact List.getElem_mem _
    have hr := hl _ hgl
    have hiw : i * w + w ≤ l.length * w := by
      rw [← Nat.succ_mul]; exact Nat.mul_le_mul_right _ (by omega)
    obtain ⟨out1, hP1, e1⟩ := Pack_inner F (fun z24 z25 z26 z27 z28 z29 => bitpack_Pack_l7 F k0 Nf z24 z25 z26 z27 z28 (addI .i64 z29 1)) (x := l.getD i 0) hr (fun k hk => nb_lt hr.1 (hlw _ hgl) hk) (fun k hk => hB i k (by omega) hk) hiw hs hmax hw l l.length i w w 0 out (l.getD i 0)
      (Nat.le_refl _) (by omega) hP hr (fun q => by rw [Nat.zero_add]) F (by omega)
    obtain ⟨out2, hP2, e2⟩ := ih (i + 1) out1 (by omega) (by rw [Nat.succ_mul]; exact hP1) Nf (by omega)
    refine ⟨out2, hP2, ?_⟩
    unfold bitpack_Pack_l7
    simp (disch := omega) only [bs, ↓if_pos, ↓if_neg, getL_nat]
    refine Eq.trans e1 ?_
    simp (disch := omega) only [bs, ↓if_pos, ↓if_neg]
    rw [← e2, Nat.succ_mul]
    rfl
end Go.Proofs.YtfmjokmjaghehaaGreat
