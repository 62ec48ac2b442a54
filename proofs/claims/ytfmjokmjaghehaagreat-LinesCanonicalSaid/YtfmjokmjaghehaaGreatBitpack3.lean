
/- Layer 8: bitpack, Unpack, and the laws. -/
import Derived.Test.YtfmjokmjaghehaaGreatBitpack2
set_option linter.unusedVariables false
set_option linter.unusedSimpArgs false
namespace Go.Proofs.YtfmjokmjaghehaaGreat
open Go.Eng
def UK (G : Nat → Bool) (n w : Nat) (out : List Int) (a : Nat) : Prop := Wd out ∧ out.length = n ∧ ∀ j k, j < n → nb (out.getD j 0) k = (decide (k < w ∧ j * w + k < a) && G (j * w + k))
theorem UK.eq {G : Nat → Bool} {n w a : Nat} {x y : List Int} (h : UK G n w x a) (k : UK G n w y a) : x = y := by
  apply List.ext_getElem (h.2.1.trans k.2.1.symm)
  intro i h1 h2
  have r1 := h.1 x[i] (List.getElem_mem h1)
  have r2 := k.1 y[i] (List.getElem_mem h2)
  apply nb_ext r1.1 r2.1
  intro q
  have e1 := h.2.2 i q (by rw [← h.2.1]; exact h1)
  have e2 := k.2.2 i q (by rw [← h.2.1]; exact h1)
  rw [← e2] at e1
  simpa [List.getD_eq_getElem?_getD, h1, h2] using e1
theorem UK.start (G : Nat → Bool) (n w : Nat) : UK G n w (replI (n : Int) 0) 0 :=
  ⟨Wd.repl _, by simp [replI], fun j k hj => by
    have : (replI (n : Int) (0 : Int)).getD j 0 = 0 := by
      simp only [replI, List.getD_eq_getElem?_getD, List.getElem?_replicate]
      split <;> rfl
    rw [this, nb_zero]; simp⟩
theorem lin_lt {i j w : Nat} {k d : Nat} (hk : k < w) (hd : d ≤ w) : j * w + k < i * w + d ↔ j < i ∨ (j = i ∧ k < d) := by
  constructor
  · intro h
    by_cases h1 : j < i
    · exact .inl h1
    · right
      by_cases h2 : j = i
      · subst h2; exact ⟨rfl, by omega⟩
      · exfalso
        have : (i + 1) * w ≤ j * w := Nat.mul_le_mul_right _ (by omega)
        rw [Nat.succ_mul] at this
        omega
  · rintro (h | ⟨rfl, h⟩)
    · have : (j + 1) * w ≤ i * w := Nat.mul_le_mul_right _ (by omega)
      rw [Nat.succ_mul] at this
      omega
    · omega
theorem UK.step {G : Nat → Bool} {n w : Nat} {out : List Int} {i d e : Nat} (h : UK G n w out (i * w + d)) (hi : i < n) (hde : d + e ≤ w) (hw : w ≤ 64) {y : Int} (hy : 0 ≤ y ∧ y ≤ 18446744073709551615) (hb : ∀ r, nb y r = (decide (d ≤ r ∧ r < d + e) && G (i * w + r))) :
    UK G n w (setL out (i : Int) (orI .u64 (getL 0 out (i : Int)) y)) (i * w + (d + e)) := by
  obtain ⟨h1, h2, h3⟩ := h
  have hg := h1.get (i : Int)
  refine ⟨h1.set _ (rng_or_u64 hg hy), by rw [length_setL, h2], fun j k hj => ?_⟩
  unfold setL
  rw [Int.toNat_natCast, getD_set _ _ _ _ _ (by omega)]
  by_cases hji : j = i
  · subst hji
    rw [if_pos rfl, nb_or_u64 hg hy, hb, getL_nat, h3 j k hj]
    by_cases hk : k < w
    · by_cases h4 : k < d
      · simp [hk, h4, show ¬ d ≤ k by omega, show k < d + e by omega]
      · by_cases h5 : k < d + e
        · simp [hk, h4, h5, show d ≤ k by omega]
        · simp [hk, h4, h5]
    · simp [hk, show ¬ k < d + e by omega]
  · rw [if_neg hji, h3 j k hj]
    by_cases hk : k < w
    · have e1 := lin_lt (i := i) (j := j) hk (show d ≤ w by omega)
      have e2 := lin_lt (i := i) (j := j) hk (show d + e ≤ w by omega)
      have : (j * w + k < i * w + d) ↔ (j * w + k < i * w + (d + e)) := by rw [e1, e2]; omega
      simp only [this]
    · simp [hk]
theorem Unpack_inner (F : Nat) {R : Type} (k2 : List Int → Int → List Int → Int → Int → Int → Option R) {b : List Int} (hb : Bt b) {n w i N : Nat} (hi : i < n) (hn : n ≤ 65536) (hN : i * w + w ≤ N) (hs : b.length = (N + 7) / 8) (hNb : N ≤ 4194304) (hw : w ≤ 64) (y : Int) :
    ∀ (M m d : Nat) (out : List Int), m ≤ M → d + m = w → UK (bitAt b) n w out (i * w + d) →
    ∀ Nf, M < Nf → ∃ out', UK (bitAt b) n w out' (i * w + w) ∧ bitpack_Unpack_l9 F k2 Nf b w out ((i * w + d : Nat) : Int) i d y i = k2 b w out' ((i * w + w : Nat) : Int) y i := by
  intro M
  induction M with
  | zero =>
    intro m d out hm hd hP Nf hNf
    obtain ⟨Nf, rfl⟩ : ∃ K, Nf = K + 1 := ⟨Nf - 1, by omega⟩
    have hd' : d = w := by omega
    subst hd'
    refine ⟨out, hP, ?_⟩
    unfold bitpack_Unpack_l9
    simp (disch := omega) only [bs, ↓if_pos, ↓if_neg]
  | succ M ih =>
    intro m d out hm hd hP Nf hNf
    obtain ⟨Nf, rfl⟩ : ∃ K, Nf = K + 1 := ⟨Nf - 1, by omega⟩
    by_cases hm0 : m = 0
    · have hd' : d = w := by omega
      subst hd'
      refine ⟨out, hP, ?_⟩
      unfold bitpack_Unpack_l9
      simp (disch := omega) only [bs, ↓if_pos, ↓if_neg]
    · have hlen := hP.2.1
      obtain ⟨e, he⟩ : ∃ e, e = min (8 - (i * w + d) % 8) m := ⟨_, rfl⟩
      have hg := hb.get (((i * w + d : Nat) : Int) / 8)
      have hsr := rng_shr (kd := .u8) (s := (((i * w + d : Nat) : Int) % 8)) hg.1
      have hmk := rng_mask (n := (e : Int)) (by omega)
      have hpart := rng_and_u64 (x := shrI .u8 (getL 0 b (((i * w + d : Nat) : Int) / 8)) (((i * w + d : Nat) : Int) % 8)) (y := subI .u64 (shlI .u64 1 (e : Int)) 1) (by omega) hmk
      have hsh := rng_shl_u64 (s := (d : Int)) hpart.1 (by omega)
      have hstep := hP.step (e := e) hi (by omega) hw hsh (fun r => by
        rw [nb_shl_u64 hpart.1 (by omega), nb_and_u64 (by omega) hmk, nb_mask (by omega), nb_shr hg.1]
        simp only [Int.toNat_natCast, IntKind.bits]
        by_cases h1 : d ≤ r ∧ r < d + e
        · have e1 : nb (getL 0 b (((i * w + d : Nat) : Int) / 8)) (min (((i * w + d : Nat) : Int) % 8).toNat 8 + (r - d)) = bitAt b (i * w + r) := by
            unfold getL bitAt
            rw [show ((((i * w + d : Nat) : Int) / 8).toNat) = (i * w + r) / 8 by omega, show min (((i * w + d : Nat) : Int) % 8).toNat 8 + (r - d) = (i * w + r) % 8 by omega]
          rw [e1]
          simp [h1, show r < 64 by omega, show r - d < e by omega]
        · by_cases h2 : d ≤ r
          · simp [h2, show ¬ r - d < e by omega, show ¬ r < d + e by omega]
          · simp [h1, h2])
      obtain ⟨out', hP', e1⟩ := ih (m - e) (d + e) _ (by omega) (by omega) hstep Nf (by omega)
      refine ⟨out', hP', ?_⟩
      unfold bitpack_Unpack_l9
      have hmin : min (8 - ((i * w + d : Nat) : Int) % 8) ((w : Int) - (d : Int)) = (e : Int) := by omega
      simp (disch := omega) only [bs, ↓if_pos, ↓if_neg, hmin, wrap_u64]
      rw [← e1]
      congr 1 <;> omega
theorem Unpack_loop (F : Nat) (hF : Fuel F) {R : Type} (k0 : List Int → List Int → Int → Option R) {b : List Int} (hb : Bt b) {n w : Nat} (hn : n ≤ 65536) (hw : w ≤ 64) (hs : b.length = (n * w + 7) / 8) : ∀ (m i : Nat) (out : List Int), i + m = n → UK (bitAt b) n w out (i * w) →
    ∀ Nf, m < Nf → ∃ out', UK (bitAt b) n w out' (n * w) ∧ bitpack_Unpack_l6 F k0 Nf b w out ((i * w : Nat) : Int) n i = k0 b out' ((n * w : Nat) : Int) := by
  unfold Fuel at hF
  have hmax : n * w ≤ 4194304 := Nat.le_trans (Nat.mul_le_mul hn hw) (by omega)
  intro m
  induction m with
  | zero =>
    intro i out hi hP Nf hNf
    obtain ⟨Nf, rfl⟩ : ∃ K, Nf = K + 1 := ⟨Nf - 1, by omega⟩
    have hi' : i = n := by omega
    subst hi'
    refine ⟨out, hP, ?_⟩
    unfold bitpack_Unpack_l6
    simp (disch := omega) only [bs, ↓if_pos, ↓if_neg]
  | succ m ih =>
    intro i out hi hP Nf hNf
    obtain ⟨Nf, rfl⟩ : ∃ K, Nf = K + 1 := ⟨Nf - 1, by omega⟩
    have hiw : i * w + w ≤ n * w := by
      rw [← Nat.succ_mul]; exact Nat.mul_le_mul_right _ (by omega)
    obtain ⟨out1, hP1, e1⟩ := Unpack_inner F (fun z26 z27 z28 z29 z30 z31 => bitpack_Unpack_l6 F k0 Nf z26 z27 z28 z29 z30 (addI .i64 z31 1)) hb (n := n) (by omega) hn hiw hs hmax hw n w w 0 out (Nat.le_refl _) (by omega) hP F (by omega)
    obtain ⟨out2, hP2, e2⟩ := ih (i + 1) out1 (by omega) (by rw [Nat.succ_mul]; exact hP1) Nf (by omega)
    refine ⟨out2, hP2, ?_⟩
    unfold bitpack_Unpack_l6
    simp (disch := omega) only [bs, ↓if_pos, ↓if_neg]
    refine Eq.trans e1 ?_
    simp (disch := omega) only [bs, ↓if_pos, ↓if_neg]
    rw [← e2, Nat.succ_mul]
    rfl
def Clean (b : List Int) (N : Nat) : Prop := ∀ p, N ≤ p → bitAt b p = false
theorem clean_last {b : List Int} (hb : Bt b) {N : Nat} (hs : b.length = (N + 7) / 8) (h8 : 0 < N % 8) : shrI .u8 (getL 0 b ((N : Int) / 8)) ((N : Int) % 8) = 0 ↔ Clean b N := by
  have hg := hb.get ((N : Int) / 8)
  have hsr := rng_shr (kd := .u8) (s := (N : Int) % 8) hg.1
  constructor
  · intro h p hp
    by_cases hq : p / 8 = N / 8
    · have := nb_shr (kd := .u8) (s := (N : Int) % 8) hg.1 (p % 8 - N % 8)
      rw [h, nb_zero] at this
      simp only [IntKind.bits] at this
      unfold bitAt
      unfold getL at this
      rw [show min ((N : Int) % 8).toNat 8 + (p % 8 - N % 8) = p % 8 by omega, show ((N : Int) / 8).toNat = p / 8 by omega] at this
      exact this.symm
    · exact bitAt_out (by omega)
  · intro h
    apply nb_ext hsr.1 (by omega)
    intro k
    rw [nb_shr hg.1, nb_zero]
    simp only [IntKind.bits]
    by_cases hk : N % 8 + k < 8
    · have := h (N + k) (by omega)
      unfold bitAt at this
      unfold getL
      rw [show min ((N : Int) % 8).toNat 8 + k = (N + k) % 8 by omega, show ((N : Int) / 8).toNat = (N + k) / 8 by omega]
      exact this
    · exact nb_lt (w := 8) hg.1 (by omega) (by omega)
theorem clean_full {b : List Int} {N : Nat} (hs : b.length = (N + 7) / 8) (h8 : ¬ 0 < N % 8) : Clean b N := fun p hp => bitAt_out (by omega)
def Unpacked (b : List Int) (n w : Nat) (out : List Int) : Prop := UK (bitAt b) n w out (n * w)
theorem bitpack_Unpack_ok (F : Nat) (hF : Fuel F) {b : List Int} (hb : Bt b) {n w : Nat} (hn : n ≤ 65536) (hw : w ≤ 64) (hs : b.length = (n * w + 7) / 8) :
    ∃ out, Unpacked b n w out ∧ (Clean b (n * w) → bitpack_Unpack F b n w = some (out, true, ())) ∧ (¬ Clean b (n * w) → bitpack_Unpack F b n w = some ([], false, ())) := by
  have hmax : n * w ≤ 4194304 := Nat.le_trans (Nat.mul_le_mul hn hw) (by omega)
  obtain ⟨out, hP, e⟩ := Unpack_loop F hF (fun z33 z34 z35 =>
          bif ltI 0 (remI z35 8) then
            bif inI (quoI .i64 z35 8) (List.length z33) then
              bif ltI (remI z35 8) 0 then
                none
              else
                bif not (eqI (shrI .u8 (getL 0 z33 (quoI .i64 z35 8)) (remI z35 8)) 0) then
                  some (([] : List Int), (false, ()))
                else
                  some (z34, (true, ()))
            else
              none
          else
            some (z34, (true, ()))) hb hn hw hs n 0 _ (by omega) (by rw [Nat.zero_mul]; exact UK.start _ _ _) F (by unfold Fuel at hF; omega)
  rw [Nat.zero_mul] at e
  refine ⟨out, hP, fun hc => ?_, fun hc => ?_⟩
  · unfold bitpack_Unpack
    by_cases h8 : 0 < (n * w) % 8
    · have := (clean_last hb hs h8).2 hc
      simp (disch := omega) only [bs, ↓if_pos, ↓if_neg] at e
      simp (disch := omega) only [bs, ↓if_pos, ↓if_neg, bitpack_Bytes_eq, size8_nat, hs]
      exact e
    · simp (disch := omega) only [bs, ↓if_pos, ↓if_neg] at e
      simp (disch := omega) only [bs, ↓if_pos, ↓if_neg, bitpack_Bytes_eq, size8_nat, hs]
      exact e
  · unfold bitpack_Unpack
    by_cases h8 : 0 < (n * w) % 8
    · have := fun h => hc ((clean_last hb hs h8).1 h)
      simp (disch := omega) only [bs, ↓if_pos, ↓if_neg] at e
      simp (disch := omega) only [bs, ↓if_pos, ↓if_neg, bitpack_Bytes_eq, size8_nat, hs]
      exact e
    · exact absurd (clean_full hs h8) hc
theorem bitpack_Unpack_bad (F : Nat) {b : List Int} {n w : Int} (h : size8 n w ≠ b.length) : bitpack_Unpack F b n w = some ([], false, ()) := by
  unfold bitpack_Unpack
  simp (disch := omega) only [bs, ↓if_pos, ↓if_neg, bitpack_Bytes_eq]
theorem refUnpack_loop (F : Nat) {R : Type} (k0 : List Int → Int → List Int → Option R) {b : List Int} (hb : Bt b) {n w : Nat} (hn : n ≤ 65536) (hw : w ≤ 64) (hs : b.length = (n * w + 7) / 8) : ∀ (m a : Nat) (out : List Int), a + m = n * w → UK (bitAt b) n w out a →
    ∀ Nf, m < Nf → ∃ out', UK (bitAt b) n w out' (n * w) ∧ ref08_Unpack_l6 F k0 Nf b n w out a = k0 b w out' := by
  have hmax : n * w ≤ 4194304 := Nat.le_trans (Nat.mul_le_mul hn hw) (by omega)
  have hmul : mulI .i64 (n : Int) (w : Int) = ((n * w : Nat) : Int) := by
    rw [mulI_i64 (by rw [← Int.natCast_mul]; omega), ← Int.natCast_mul]
  intro m
  induction m with
  | zero =>
    intro a out ha hP Nf hNf
    obtain ⟨Nf, rfl⟩ : ∃ K, Nf = K + 1 := ⟨Nf - 1, by omega⟩
    have ha' : a = n * w := by omega
    subst ha'
    refine ⟨out, hP, ?_⟩
    unfold ref08_Unpack_l6
    simp (disch := omega) only [bs, ↓if_pos, ↓if_neg, hmul]
  | succ m ih =>
    intro a out ha hP Nf hNf
    obtain ⟨Nf, rfl⟩ : ∃ K, Nf = K + 1 := ⟨Nf - 1, by omega⟩
    have hlen := hP.2.1
    have hw0 : 0 < w := by
      rcases Nat.eq_zero_or_pos w with h | h
      · subst h; simp at ha
      · exact h
    obtain ⟨q, r, hq1, hq2, hq3, hqI, hrI⟩ : ∃ q r : Nat, q < n ∧ r < w ∧ q * w + r = a ∧ quoI .i64 (a : Int) (w : Int) = (q : Int) ∧ remI (a : Int) (w : Int) = (r : Int) :=
      ⟨a / w, a % w, (Nat.div_lt_iff_lt_mul hw0).2 (by omega), Nat.mod_lt _ hw0, Nat.div_add_mod' a w, by rw [quoI_i64 (by omega) (by omega) (by omega), Int.natCast_ediv], by rw [remI_nn (by omega), Int.natCast_emod]⟩
    have hg := hb.get ((a : Int) / 8)
    have hsr := rng_shr (kd := .u8) (s := (a : Int) % 8) hg.1
    have hand := rng_and_u8 (x := shrI .u8 (getL 0 b ((a : Int) / 8)) ((a : Int) % 8)) (y := 1) (by omega) (by omega)
    have hsh := rng_shl_u64 (s := (r : Int)) hand.1 (by omega)
    have hbit : nb (andI .u8 (shrI .u8 (getL 0 b ((a : Int) / 8)) ((a : Int) % 8)) 1) 0 = bitAt b a := by
      rw [nb_and_u8 (by omega) (by omega), nb_shr hg.1]
      simp only [IntKind.bits]
      unfold getL bitAt
      rw [show min ((a : Int) % 8).toNat 8 + 0 = a % 8 by omega, show ((a : Int) / 8).toNat = a / 8 by omega]
      simp [nb]
    have hstep := UK.step (i := q) (d := r) (e := 1) (by rw [hq3]; exact hP) hq1 (by omega) hw hsh (fun k => by
      rw [nb_shl_u64 hand.1 (by omega), Int.toNat_natCast]
      by_cases h1 : k = r
      · subst h1
        rw [Nat.sub_self, hbit, hq3]
        simp [show k < 64 by omega]
      · by_cases h2 : r ≤ k
        · rw [nb_lt (w := 1) hand.1 (by omega) (by omega)]
          simp [h2, show ¬ k < r + 1 by omega]
        · simp [h2])
    obtain ⟨out', hP', e1⟩ := ih (a + 1) _ (by omega) (by rw [← Nat.add_assoc, hq3] at hstep; exact hstep) Nf (by omega)
    refine ⟨out', hP', ?_⟩
    unfold ref08_Unpack_l6
    simp only [hqI, hrI]
    simp (disch := omega) only [bs, ↓if_pos, ↓if_neg, hmul, wrap_u64]
    rw [← e1]
    rfl
theorem Unpacked.fits {b : List Int} {n w : Nat} {out : List Int} (h : Unpacked b n w out) (hn : n ≤ 65536) (hw : w ≤ 64) : Fits out (w : Int) := by
  refine ⟨by rw [h.2.1]; exact hn, by omega, by omega, fun x hx => ?_⟩
  refine lt_of_nb (h.1 x hx).1 fun k hk => ?_
  obtain ⟨i, hi, rfl⟩ := List.getElem_of_mem hx
  have := h.2.2 i k (by rw [← h.2.1]; exact hi)
  rw [List.getD_eq_getElem?_getD, List.getElem?_eq_getElem hi] at this
  simp only [Int.toNat_natCast] at hk
  simpa [show ¬ k < w by omega] using this
theorem Unpacked.packed {b : List Int} (hb : Bt b) {n w : Nat} {out c : List Int} (h : Unpacked b n w out) (hs : b.length = (n * w + 7) / 8) (hc : Packed out w c) : c = b ↔ Clean b (n * w) := by
  have hlen := h.2.1
  obtain ⟨c1, c2, c3⟩ := hc
  rw [hlen] at c2 c3
  have key : ∀ p, bitAt c p = (decide (p < n * w) && bitAt b p) := by
    intro p
    rw [c3]
    by_cases hp : p < n * w
    · have hw0 : 0 < w := by
        rcases Nat.eq_zero_or_pos w with h | h
        · subst h; simp at hp
        · exact h
      have hq1 : p / w < n := (Nat.div_lt_iff_lt_mul hw0).2 hp
      have hq2 : p % w < w := Nat.mod_lt _ hw0
      have hq3 : (p / w) * w + p % w = p := Nat.div_add_mod' p w
      unfold bof
      rw [h.2.2 _ _ hq1, hq3]
      simp [hp, hq2]
    · simp [hp]
  constructor
  · rintro rfl p hp
    rw [key]; simp [show ¬ p < n * w by omega]
  · intro hcl
    refine bytes_ext c1 hb (c2.trans hs.symm) fun p _ => ?_
    rw [key]
    by_cases hp : p < n * w
    · simp [hp]
    · rw [hcl p (by omega)]; simp
theorem ref08_Unpack_ok (F : Nat) (hF : Fuel F) {b : List Int} (hb : Bt b) {n w : Nat} (hn : n ≤ 65536) (hw : w ≤ 64) (hs : b.length = (n * w + 7) / 8) :
    ∃ out, Unpacked b n w out ∧ (Clean b (n * w) → ref08_Unpack F b n w = some (out, true, ())) ∧ (¬ Clean b (n * w) → ref08_Unpack F b n w = some ([], false, ())) := by
  have hmax : n * w ≤ 4194304 := Nat.le_trans (Nat.mul_le_mul hn hw) (by omega)
  obtain ⟨out, hP, e⟩ := refUnpack_loop F (fun z23 z24 z25 =>
            (ref08_Pack F z25 z24).bind fun r26 =>
            bif not r26.2.1 then
              some (([] : List Int), (false, ()))
            else
              (ref06_Same F z23 r26.1).bind fun r28 =>
              bif not r28.1 then
                some ([], (false, ()))
              else
                some (z25, (true, ()))) hb hn hw hs (n * w) 0 _ (by omega) (UK.start _ _ _) F (by unfold Fuel at hF; omega)
  have hU : Unpacked b n w out := hP
  obtain ⟨c, ec, hc⟩ := ref08_Pack_ok F hF hP.1 (by rw [hP.2.1]; omega) (hU.fits hn hw)
  have hcb := hU.packed hb hs hc
  refine ⟨out, hU, fun hcl => ?_, fun hcl => ?_⟩
  · have := hcb.2 hcl
    subst this
    have hsame := ref06_Same_eq F hF (a := c) (b := c) (by omega)
    rw [decide_eq_true rfl] at hsame
    unfold ref08_Unpack
    simp (disch := omega) only [bs, ↓if_pos, ↓if_neg, ec, hsame] at e
    simp (disch := omega) only [bs, ↓if_pos, ↓if_neg, ref08_Bytes_eq, size8_nat, hs]
    exact e
  · have hne : b ≠ c := fun h => hcl (hcb.1 h.symm)
    have hsame := ref06_Same_eq F hF (a := b) (b := c) (by omega)
    rw [decide_eq_false hne] at hsame
    unfold ref08_Unpack
    simp (disch := omega) only [bs, ↓if_pos, ↓if_neg, ec, hsame] at e
    simp (disch := omega) only [bs, ↓if_pos, ↓if_neg, ref08_Bytes_eq, size8_nat, hs]
    exact e
theorem ref08_Unpack_bad (F : Nat) {b : List Int} {n w : Int} (h : size8 n w ≠ b.length) : ref08_Unpack F b n w = some ([], false, ()) := by
  unfold ref08_Unpack
  by_cases h0 : size8 n w < 0
  · simp (disch := omega) only [bs, ↓if_pos, ↓if_neg, ref08_Bytes_eq]
  · simp (disch := omega) only [bs, ↓if_pos, ↓if_neg, ref08_Bytes_eq]
end Go.Proofs.YtfmjokmjaghehaaGreat
