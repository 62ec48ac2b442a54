
/- Long division, bit by bit: the numbers. -/
import Derived.Test.YtfmjokmjaghehaaGreatWide
set_option linter.unusedVariables false
set_option linter.unusedSimpArgs false
namespace Go.Proofs.YtfmjokmjaghehaaGreat
open Go.Eng
def Sz (v s : Nat) : Prop := v < 2 ^ s ∧ (v = 0 → s = 0) ∧ (0 < v → 1 ≤ s ∧ 2 ^ (s - 1) ≤ v)
theorem p64 (k : Nat) : (18446744073709551616 : Nat) ^ k = 2 ^ (64 * k) := by rw [show (18446744073709551616 : Nat) = 2 ^ 64 from rfl, ← Nat.pow_mul]
theorem Sz_zero : Sz 0 0 := ⟨by omega, fun _ => rfl, fun h => by omega⟩
theorem Sz_top {lo t s k : Nat} (hlo : lo < 2 ^ k) (ht : 0 < t) (h : Sz t s) : Sz (lo + 2 ^ k * t) (k + s) := by
  obtain ⟨h1, _, h3⟩ := h
  obtain ⟨h4, h5⟩ := h3 ht
  have hk : 0 < 2 ^ k := Nat.pow_pos (by omega)
  refine ⟨?_, fun h => ?_, fun _ => ⟨by omega, ?_⟩⟩
  · rw [Nat.pow_add]
    have : 2 ^ k * (t + 1) ≤ 2 ^ k * 2 ^ s := Nat.mul_le_mul_left _ h1
    rw [Nat.mul_add] at this
    omega
  · have : 0 < 2 ^ k * t := Nat.mul_pos hk ht
    omega
  · rw [show k + s - 1 = k + (s - 1) by omega, Nat.pow_add]
    have : 2 ^ k * 2 ^ (s - 1) ≤ 2 ^ k * t := Nat.mul_le_mul_left _ h5
    omega
theorem Sz_word {x : Int} (hx : 0 ≤ x ∧ x ≤ 18446744073709551615) : Sz x.toNat (Lib.bitLen x.toNat) ∧ Lib.bitLen x.toNat ≤ 64 := by
  refine ⟨?_, Lib.bitLen_le _ 64 (by omega) (by omega)⟩
  unfold Lib.bitLen
  by_cases h : x.toNat = 0
  · rw [h, Lib.bitLenAux_zero]; exact Sz_zero
  · have := Lib.bitLenAux_bounds 64 x.toNat (by omega) h
    exact ⟨this.2.2, fun h0 => absurd h0 h, fun _ => ⟨this.1, this.2.1⟩⟩
theorem Len64_eq (F : Nat) {x : Int} (hx : 0 ≤ x ∧ x ≤ 18446744073709551615) : bits_Len64 F x = some ((Lib.bitLen x.toNat : Int), ()) := by
  have : (leI 0 x && leI x 18446744073709551615) = true := by simp only [Bool.and_eq_true, leI_true]; omega
  simp only [bits_Len64, this, cond_true]
theorem Sz_sub {a b s t : Nat} (ha : Sz a s) (hb : Sz b t) (h0 : 0 < b) (h : t ≤ s) : a < b * 2 ^ (s - t + 1) ∧ b * 2 ^ (s - t) < 2 ^ s := by
  obtain ⟨h1, _, _⟩ := ha
  obtain ⟨h2, _, h3⟩ := hb
  obtain ⟨h4, h5⟩ := h3 h0
  constructor
  · have : 2 ^ (t - 1) * 2 ^ (s - t + 1) ≤ b * 2 ^ (s - t + 1) := Nat.mul_le_mul_right _ h5
    rw [← Nat.pow_add, show t - 1 + (s - t + 1) = s by omega] at this
    omega
  · have : b * 2 ^ (s - t) < 2 ^ t * 2 ^ (s - t) := Nat.mul_lt_mul_of_pos_right h2 (Nat.pow_pos (by omega))
    rw [← Nat.pow_add, show t + (s - t) = s by omega] at this
    exact this
theorem Sz_less {a b s t : Nat} (ha : Sz a s) (hb : Sz b t) (h : s < t) : a < b := by
  obtain ⟨h1, _, _⟩ := ha
  obtain ⟨h2, h3, h4⟩ := hb
  have h0 : 0 < b := by
    rcases Nat.eq_zero_or_pos b with h | h
    · have := h3 h; omega
    · exact h
  obtain ⟨h5, h6⟩ := h4 h0
  have : 2 ^ s ≤ 2 ^ (t - 1) := Nat.pow_le_pow_right (by omega) (by omega)
  omega
structure Dv (a b m r d Q : Nat) : Prop where
  hd : d = b * 2 ^ m / 2
  hr : r < b * 2 ^ m
  he : Q * b + r = a
  hQ : Q % 2 ^ m = 0
theorem Dv.start {a b n : Nat} (h : a < b * 2 ^ (n + 1)) : Dv a b (n + 1) a (b * 2 ^ n) 0 :=
  ⟨by rw [Nat.pow_succ, ← Nat.mul_assoc]; omega, h, by omega, by simp⟩
theorem Dv.done {a b r d Q : Nat} (h : Dv a b 0 r d Q) : Q = a / b ∧ r = a % b := by
  obtain ⟨_, hr, he, _⟩ := h
  rw [Nat.pow_zero, Nat.mul_one] at hr
  have hb : 0 < b := by omega
  rw [← he]
  constructor
  · rw [Nat.mul_comm, Nat.mul_add_div hb, Nat.div_eq_of_lt hr]; rfl
  · rw [Nat.mul_comm, Nat.mul_add_mod, Nat.mod_eq_of_lt hr]
theorem Dv.step {a b m r d Q : Nat} (h : Dv a b (m + 1) r d Q) : if d ≤ r then Dv a b m (r - d) (d / 2) (Q + 2 ^ m) else Dv a b m r (d / 2) Q := by
  obtain ⟨hd, hr, he, hQ⟩ := h
  have e1 : b * 2 ^ (m + 1) = 2 * (b * 2 ^ m) := by rw [Nat.pow_succ, ← Nat.mul_assoc, Nat.mul_comm]
  rw [e1] at hd hr
  have hd : d = b * 2 ^ m := by omega
  have e2 : Q % 2 ^ m = 0 := by
    rw [Nat.pow_succ] at hQ
    have := Nat.mod_mul_right_mod Q (2 ^ m) 2
    rw [hQ, Nat.zero_mod] at this
    exact this.symm
  split
  · refine ⟨by rw [hd], by omega, ?_, ?_⟩
    · rw [Nat.add_mul, Nat.mul_comm (2 ^ m) b, ← hd]; omega
    · rw [Nat.add_mod_right]; exact e2
  · exact ⟨by rw [hd], by omega, he, e2⟩
theorem or_bit {w : Int} (hw : 0 ≤ w ∧ w ≤ 18446744073709551615) {i : Nat} (hi : i < 64) (h : w.toNat % 2 ^ (i + 1) = 0) :
    orI .u64 w (shlI .u64 1 (i : Int)) = w + ((2 ^ i : Nat) : Int) ∧ w + ((2 ^ i : Nat) : Int) ≤ 18446744073709551615 := by
  have hp : 2 ^ i < 2 ^ 64 := Nat.pow_lt_pow_right (by omega) hi
  have hp0 : 0 < 2 ^ i := Nat.pow_pos (by omega)
  rw [shlI_u64 (by omega) (by omega), Int.toNat_natCast, Nat.min_eq_left (by omega)]
  rw [show (1 : Int).toNat * 2 ^ i % 2 ^ 64 = 2 ^ i by rw [show (1 : Int).toNat = 1 from rfl, Nat.one_mul, Nat.mod_eq_of_lt hp]]
  rw [orI_u64 hw (by omega), Int.toNat_natCast]
  obtain ⟨c, hc⟩ := Nat.dvd_of_mod_eq_zero h
  have hlt : 2 ^ i < 2 ^ (i + 1) := by rw [Nat.pow_succ]; omega
  have e := Nat.two_pow_add_eq_or_of_lt hlt c
  rw [← hc] at e
  rw [← e]
  refine ⟨by omega, ?_⟩
  have h64 : (2 : Nat) ^ 64 = 2 ^ (i + 1) * 2 ^ (64 - (i + 1)) := by rw [← Nat.pow_add]; congr 1; omega
  have hw2 : w.toNat < 2 ^ 64 := by omega
  rw [hc, h64] at hw2
  have hc2 : c < 2 ^ (64 - (i + 1)) := Nat.lt_of_mul_lt_mul_left hw2
  have : 2 ^ (i + 1) * (c + 1) ≤ 2 ^ (i + 1) * 2 ^ (64 - (i + 1)) := Nat.mul_le_mul_left _ hc2
  rw [← h64, Nat.mul_add] at this
  omega
def setB (l : List Int) (i : Nat) : List Int := setL l ((i / 64 : Nat) : Int) (orI .u64 (getL 0 l ((i / 64 : Nat) : Int)) (shlI .u64 1 ((i % 64 : Nat) : Int)))
theorem setB_eq : ∀ {l : List Int} {i : Nat}, Wd l → i / 64 < l.length → wv l % 2 ^ (i + 1) = 0 → Wd (setB l i) ∧ (setB l i).length = l.length ∧ wv (setB l i) = wv l + 2 ^ i
  | [], i, _, h, _ => by simp at h
  | x :: t, i, hw, hl, hm => by
    have hx := Wd.head hw
    by_cases hi : i < 64
    · have e0 : i / 64 = 0 := by omega
      have e1 : i % 64 = i := by omega
      have hp : 2 ^ (i + 1) ∣ 18446744073709551616 := by
        rw [show (18446744073709551616 : Nat) = 2 ^ 64 from rfl]; exact Nat.pow_dvd_pow 2 (by omega)
      have hxm : x.toNat % 2 ^ (i + 1) = 0 := by
        simp only [wv] at hm
        obtain ⟨c, hc⟩ := hp
        rw [hc, Nat.mul_assoc, Nat.add_mul_mod_self_left] at hm
        exact hm
      obtain ⟨h1, h2⟩ := or_bit hx hi hxm
      have hp0 : 0 < 2 ^ i := Nat.pow_pos (by omega)
      have es : setB (x :: t) i = (x + ((2 ^ i : Nat) : Int)) :: t := by
        unfold setB
        rw [e0, e1, show getL 0 (x :: t) ((0 : Nat) : Int) = x from rfl, h1]
        rfl
      rw [es]
      refine ⟨Wd.cons (by omega) (Wd.tail hw), rfl, ?_⟩
      simp only [wv]
      omega
    · obtain ⟨j, rfl⟩ : ∃ j, i = j + 64 := ⟨i - 64, by omega⟩
      have e0 : (j + 64) / 64 = j / 64 + 1 := by omega
      have e1 : (j + 64) % 64 = j % 64 := by omega
      have e2 : (2 : Nat) ^ (j + 64 + 1) = 18446744073709551616 * 2 ^ (j + 1) := by
        rw [show j + 64 + 1 = 64 + (j + 1) by omega, Nat.pow_add]
      have e3 : (2 : Nat) ^ (j + 64) = 18446744073709551616 * 2 ^ j := by
        rw [Nat.add_comm, Nat.pow_add]
      simp only [wv] at hm
      rw [e2, Nat.mod_mul] at hm
      have hb : (x.toNat + 18446744073709551616 * wv t) / 18446744073709551616 = wv t := by omega
      rw [hb] at hm
      have hm : wv t % 2 ^ (j + 1) = 0 := by omega
      obtain ⟨h1, h2, h3⟩ := setB_eq (l := t) (i := j) (Wd.tail hw) (by simp at hl; omega) hm
      have es : setB (x :: t) (j + 64) = x :: setB t j := by
        unfold setB
        rw [e0, e1]
        simp only [setL, getL, Int.toNat_natCast, List.set_cons_succ, List.getD_cons_succ]
      rw [es]
      refine ⟨Wd.cons hx h1, by simp [h2], ?_⟩
      simp only [wv, h3, e3]
      omega
theorem low_zero {v n : Nat} {l : List Int} (h : l = ofn v) (hn : l.length = n + 1) : 0 < getL 0 l (n : Int) := by
  subst h
  have hw := ofn_Wd v
  have hg := Wd.get hw (n : Int)
  rcases Int.lt_or_le 0 (getL 0 (ofn v) (n : Int)) with h | h
  · exact h
  · exfalso
    have h0 : (ofn v).getD n 0 = 0 := by have := getL_nat 0 (ofn v) n; omega
    have e1 : (ofn v) = (ofn v).take n ++ [(ofn v).getD n 0] := by
      rw [← take_snoc (by omega), List.take_of_length_le (by omega)]
    have e2 := congrArg wv e1
    rw [wv_ofn, wv_append, h0] at e2
    have e3 := wv_lt (Wd.take hw n)
    rw [List.length_take, Nat.min_eq_left (by omega)] at e3
    simp [wv] at e2
    have e4 := (ofn_len_iff (v := v) (n := n)).2 (by omega)
    omega
theorem ref02_size_eq (F : Nat) {v : Nat} (hl : (ofn v).length ≤ 1000) : ∃ s : Nat, Sz v s ∧ s ≤ 64 * (ofn v).length ∧ ref02_size F (ofn v) = some ((s : Int), ()) := by
  by_cases h0 : (ofn v).length = 0
  · have := ofn_nil.1 h0
    subst this
    refine ⟨0, Sz_zero, by omega, ?_⟩
    unfold ref02_size
    simp (disch := omega) only [bs, ↓if_pos, ↓if_neg]
    rfl
  · obtain ⟨n, hn⟩ : ∃ n, (ofn v).length = n + 1 := ⟨_, (Nat.succ_pred_eq_of_pos (by omega)).symm⟩
    have hw := ofn_Wd v
    have hg := Wd.get hw (n : Int)
    have hpos := low_zero rfl hn
    obtain ⟨h1, h2⟩ := Sz_word hg
    have e1 : (ofn v) = (ofn v).take n ++ [getL 0 (ofn v) (n : Int)] := by
      rw [getL_nat, ← take_snoc (by omega), List.take_of_length_le (by omega)]
    have e2 := congrArg wv e1
    have e3 := wv_lt (Wd.take hw n)
    rw [List.length_take, Nat.min_eq_left (by omega)] at e3
    rw [wv_ofn, wv_append, List.length_take, Nat.min_eq_left (by omega)] at e2
    simp only [wv, Nat.mul_zero, Nat.add_zero] at e2
    rw [p64] at e2 e3
    refine ⟨64 * n + Lib.bitLen (getL 0 (ofn v) (n : Int)).toNat, ?_, by omega, ?_⟩
    · have := Sz_top e3 (by omega) h1
      rw [← e2] at this
      exact this
    · unfold ref02_size
      have hc : ((ofn v).length : Int) - 1 = (n : Int) := by omega
      simp (disch := omega) only [bs, ↓if_pos, ↓if_neg, hc, Len64_eq F hg]
      simp only [Int.natCast_add, Int.natCast_mul]
      rfl
end Go.Proofs.YtfmjokmjaghehaaGreat
