
/- Layer 8: bitpack, Unpack, and the laws. -/
import Derived.Test.YtfmjokmjaghehaaGreatBitpack2
set_option linter.unusedVariables false
set_option linter.unusedSimpArgs false
namespace Go.Proofs.YtfmjokmjaghehaaGreat
open Go.Eng
def UK (G : Nat → Bool) (n w : Nat) (out : List Int) (a : Nat) : Prop := Wd out ∧ out.length = n ∧ ∀ j k, j < n → nb (out.getD j 0) k = (decide (k < w ∧ j * w + k < a) && G (j * w + k))
theorem UK.eq {G : Nat → Bool} {n w a : Nat} {x y : List Int} (h : UK G n w x a) (k : UK G n w y a) : x = y := by
  apply List.ext_getElem (h.2.1.trans k.2.1.symm)
  intro i h1 h2
  have r1 := h.1 x[i] (List.getElem_mem h1)
  have r2 := k.1 y[i] (List.getElem_mem h2)
  apply nb_ext r1.1 r2.1
  intro q
  have e1 := h.2.2 i q (by rw [← h.2.1]; exact h1)
  have e2 := k.2.2 i q (by rw [← h.2.1]; exact h1)
  rw [← e2] at e1
  simpa [List.getD_eq_getElem?_getD, h1, h2] using e1
theorem UK.start (G : Nat → Bool) (n w : Nat) : UK G n w (replI (n : Int) 0) 0 :=
  ⟨Wd.repl _, by simp [replI], fun j k hj => by
    have : (replI (n : Int) (0 : Int)).getD j 0 = 0 := by
      simp only [replI, List.getD_eq_getElem?_getD, List.getElem?_replicate]
      split <;> rfl
    rw [this, nb_zero]; simp⟩
theorem lin_lt {i j w : Nat} {k d : Nat} (hk : k < w) (hd : d ≤ w) : j * w + k < i * w + d ↔ j < i ∨ (j = i ∧ k < d) := by
  constructor
  · intro h
    by_cases h1 : j < i
    · exact .inl h1
    · right
      by_cases h2 : j = i
      · subst h2; exact ⟨rfl, by omega⟩
      · exfalso
        have : (i + 1) * w ≤ j * w := Nat.mul_le_mul_right _ (by omega)
        rw [Nat.succ_mul] at this
        omega
  · rintro (h | ⟨rfl, h⟩)
    · have : (j + 1) * w ≤ i * w := Nat.mul_le_mul_right _ (by omega)
      rw [Nat.succ_mul] at this
      omega
    · omega
theorem UK.step {G : Nat → Bool} {n w : Nat} {out : List Int} {i d e : Nat} (h : UK G n w out (i * w + d)) (hi : i < n) (hde : d + e ≤ w) (hw : w ≤ 64) {y : Int} (hy : 0 ≤ y ∧ y ≤ 18446744073709551615) (hb : ∀ r, nb y r = (decide (d ≤ r ∧ r < d + e) && G (i * w + r))) :
    UK G n w (setL out (i : Int) (orI .u64 (getL 0 out (i : Int)) y)) (i * w + (d + e)) := by
  obtain ⟨h1, h2, h3⟩ := h
  have hg := h1.get (i : Int)
  refine ⟨h1.set _ (rng_or_u64 hg hy), by rw [length_setL, h2], fun j k hj => ?_⟩
  unfold setL
  rw [Int.toNat_natCast, getD_set _ _ _ _ _ (by omega)]
  by_cases hji : j = i
  · subst hji
    rw [if_pos rfl, nb_or_u64 hg hy, hb, getL_nat, h3 j k hj]
    by_cases hk : k < w
    · by_cases h4 : k < d
      · simp [hk, h4, show ¬ d ≤ k by omega, show k < d + e by omega]
      · by_cases h5 : k < d + e
        · simp [hk, h4, h5, show d ≤ k by omega]
        · simp [hk, h4, h5]
    · simp [hk, show ¬ k < d + e by omega]
  · rw [if_neg hji, h3 j k hj]
    by_cases hk : k < w
    · have e1 := lin_lt (i := i) (j := j) hk (show d ≤ w by omega)
      have e2 := lin_lt (i := i) (j := j) hk (show d + e ≤ w by omega)
      have : (j * w + k < i * w + d) ↔ (j * w + k < i * w + (d + e)) := by rw [e1, e2]; omega
      simp only [this]
    · simp [hk]
def Clean (b : List Int) (N : Nat) : Prop := ∀ p, N ≤ p → bitAt b p = false
def Unpacked (b : List Int) (n w : Nat) (out : List Int) : Prop := UK (bitAt b) n w out (n * w)
theorem Unpacked.packed {b : List Int} (hb : Bt b) {n w : Nat} {out c : List Int} (h : Unpacked b n w out) (hs : b.length = (n * w + 7) / 8) (hc : Packed out w c) : c = b ↔ Clean b (n * w) := by
  have hlen := h.2.1
  obtain ⟨c1, c2, c3⟩ := hc
  rw [hlen] at c2 c3
  have key : ∀ p, bitAt c p = (decide (p < n * w) && bitAt b p) := by
    intro p
    rw [c3]
    by_cases hp : p < n * w
    · have hw0 : 0 < w := by
        rcases Nat.eq_zero_or_pos w with h | h
        · subst h; simp at hp
        · exact h
      have hq1 : p / w < n := (Nat.div_lt_iff_lt_mul hw0).2 hp
      have hq2 : p % w < w := Nat.mod_lt _ hw0
      have hq3 : (p / w) * w + p % w = p := Nat.div_add_mod' p w
      unfold bof
      rw [h.2.2 _ _ hq1, hq3]
      simp [hp, hq2]
    · simp [hp]
  constructor
  · rintro rfl p hp
    rw [key]; simp [show ¬ p < n * w by omega]
  · intro hcl
    refine bytes_ext c1 hb (c2.trans hs.symm) fun p _ => ?_
    rw [key]
    by_cases hp : p < n * w
    · simp [hp]
    · rw [hcl p (by omega)]; simp
end Go.Proofs.YtfmjokmjaghehaaGreat
