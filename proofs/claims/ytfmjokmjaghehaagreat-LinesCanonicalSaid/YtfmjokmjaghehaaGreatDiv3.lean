
/- Four words, as the program computes with them. -/
import Derived.Test.YtfmjokmjaghehaaGreatDiv2
import Derived.Test.YtfmjokmjaghehaaGreatVarint7
set_option linter.unusedVariables false
set_option linter.unusedSimpArgs false
namespace Go.Proofs.YtfmjokmjaghehaaGreat
open Go.Eng
theorem four {l : List Int} (hw : Wd l) (h : l.length = 4) : ∃ a b c d : Int, l = [a, b, c, d] ∧ (0 ≤ a ∧ a ≤ 18446744073709551615) ∧ (0 ≤ b ∧ b ≤ 18446744073709551615) ∧ (0 ≤ c ∧ c ≤ 18446744073709551615) ∧ (0 ≤ d ∧ d ≤ 18446744073709551615) := by
  match l, h with
  | [a, b, c, d], _ => exact ⟨a, b, c, d, rfl, hw a (by simp), hw b (by simp), hw c (by simp), hw d (by simp)⟩
theorem wd4 {a b c d : Int} (h0 : 0 ≤ a ∧ a ≤ 18446744073709551615) (h1 : 0 ≤ b ∧ b ≤ 18446744073709551615) (h2 : 0 ≤ c ∧ c ≤ 18446744073709551615) (h3 : 0 ≤ d ∧ d ≤ 18446744073709551615) : Wd [a, b, c, d] :=
  Wd.cons h0 (Wd.cons h1 (Wd.cons h2 (Wd.one h3)))
theorem wv4 (a b c d : Int) : wv [a, b, c, d] = a.toNat + 18446744073709551616 * (b.toNat + 18446744073709551616 * (c.toNat + 18446744073709551616 * d.toNat)) := by
  simp only [wv]
  omega
theorem g0 (a b c d : Int) : getL 0 [a, b, c, d] 0 = a := rfl
theorem g1 (a b c d : Int) : getL 0 [a, b, c, d] 1 = b := rfl
theorem g2 (a b c d : Int) : getL 0 [a, b, c, d] 2 = c := rfl
theorem g3 (a b c d : Int) : getL 0 [a, b, c, d] 3 = d := rfl
theorem w4s0 (a b c d x : Int) : setL [a, b, c, d] 0 x = [x, b, c, d] := rfl
theorem w4s1 (a b c d x : Int) : setL [a, b, c, d] 1 x = [a, x, c, d] := rfl
theorem w4s2 (a b c d x : Int) : setL [a, b, c, d] 2 x = [a, b, x, d] := rfl
theorem w4s3 (a b c d x : Int) : setL [a, b, c, d] 3 x = [a, b, c, x] := rfl
theorem l4 (a b c d : Int) : (([a, b, c, d] : List Int).length : Int) = 4 := rfl
def cmpZ (x y : Int) : Int := if x < y then -1 else if y < x then 1 else 0
theorem cmp64_eq (F : Nat) (x y : Int) : cmp_Compare_uint64 F x y = some (cmpZ x y, ()) := by
  unfold cmp_Compare_uint64 cmp_isNaN_uint64 cmpZ
  simp (disch := omega) only [bs, ↓if_pos, ↓if_neg]
  split <;> (try split) <;> rfl
theorem or_loop (F : Nat) {R : Type} (k0 kr : Int → Option R) (l : List Int) {i : Int} (hi : 0 ≤ i) (h : i < (l.length : Int)) (hm : (l.length : Int) ≤ 1000) (N : Nat) :
    cmp_Or_int_l3 F k0 kr (N + 1) 0 l (l.length : Int) i = if getL 0 l i = 0 then cmp_Or_int_l3 F k0 kr N 0 l (l.length : Int) (i + 1) else kr (getL 0 l i) := by
  rw [cmp_Or_int_l3]
  simp (disch := omega) only [bs, ↓if_pos, ↓if_neg]
  by_cases hz : getL 0 l i = 0
  · rw [if_pos hz]; simp (disch := omega) only [bs, ↓if_pos, ↓if_neg]
  · rw [if_neg hz]; simp (disch := omega) only [bs, ↓if_pos, ↓if_neg]
theorem or_eq (F : Nat) (hF : Fuel F) (p q r s : Int) : cmp_Or_int F [p, q, r, s] = some (if p = 0 then (if q = 0 then (if r = 0 then s else r) else q) else p, ()) := by
  unfold Fuel at hF
  obtain ⟨N, hN⟩ : ∃ N, F = N + 1 + 1 + 1 + 1 + 1 := ⟨F - 5, by omega⟩
  unfold cmp_Or_int
  have key : ∀ M, M = N + 1 + 1 + 1 + 1 + 1 → cmp_Or_int_l3 F (fun z6 => some (z6, ())) (fun z7 => some (z7, ())) M 0 [p, q, r, s] (([p, q, r, s] : List Int).length : Int) 0 = some (if p = 0 then (if q = 0 then (if r = 0 then s else r) else q) else p, ()) := by
    intro M hM
    subst hM
    rw [or_loop F _ _ _ (by omega) (by rw [l4]; omega) (by rw [l4]; omega), g0]
    split
    · rw [show (0 : Int) + 1 = 1 from rfl, or_loop F _ _ _ (by omega) (by rw [l4]; omega) (by rw [l4]; omega), g1]
      split
      · rw [show (1 : Int) + 1 = 2 from rfl, or_loop F _ _ _ (by omega) (by rw [l4]; omega) (by rw [l4]; omega), g2]
        split
        · rw [show (2 : Int) + 1 = 3 from rfl, or_loop F _ _ _ (by omega) (by rw [l4]; omega) (by rw [l4]; omega), g3]
          split
          · rename_i h
            rw [show (3 : Int) + 1 = 4 from rfl, cmp_Or_int_l3, l4, h]
            simp (disch := omega) only [bs, ↓if_pos, ↓if_neg]
          · rfl
        · rfl
      · rfl
    · rfl
  exact key F hN
theorem wide_compare_eq (F : Nat) (hF : Fuel F) {l m : List Int} (hl : Wd l) (hm : Wd m) (h4 : l.length = 4) (h5 : m.length = 4) : wide_compare F l m = some (cmpN (wv l) (wv m), ()) := by
  obtain ⟨a, b, c, d, rfl, ha, hb, hc, hd⟩ := four hl h4
  obtain ⟨a', b', c', d', rfl, ha', hb', hc', hd'⟩ := four hm h5
  unfold wide_compare
  simp only [g0, g1, g2, g3, cmp64_eq, Option.bind_some, or_eq F hF, wv4]
  congr 2
  unfold cmpZ cmpN
  rcases Int.lt_trichotomy d d' with h | h | h
  · rw [if_neg (by rw [if_pos h]; omega), if_pos h, if_pos (by omega)]
  · rw [if_pos (by rw [if_neg (by omega), if_neg (by omega)])]
    subst h
    rcases Int.lt_trichotomy c c' with h | h | h
    · rw [if_neg (by rw [if_pos h]; omega), if_pos h, if_pos (by omega)]
    · rw [if_pos (by rw [if_neg (by omega), if_neg (by omega)])]
      subst h
      rcases Int.lt_trichotomy b b' with h | h | h
      · rw [if_neg (by rw [if_pos h]; omega), if_pos h, if_pos (by omega)]
      · rw [if_pos (by rw [if_neg (by omega), if_neg (by omega)])]
        subst h
        split <;> (try split) <;> (try split) <;> (try split) <;> omega
      · rw [if_neg (by rw [if_neg (by omega), if_pos h]; omega), if_neg (by omega), if_pos h, if_neg (by omega), if_pos (by omega)]
    · rw [if_neg (by rw [if_neg (by omega), if_pos h]; omega), if_neg (by omega), if_pos h, if_neg (by omega), if_pos (by omega)]
  · rw [if_neg (by rw [if_neg (by omega), if_pos h]; omega), if_neg (by omega), if_pos h, if_neg (by omega), if_pos (by omega)]
theorem Sub64_eq (F : Nat) {x y c : Int} (hx : 0 ≤ x) (hy : 0 ≤ y ∧ y ≤ 18446744073709551615) (hc : 0 ≤ c ∧ c ≤ 1) :
    bits_Sub64 F x y c = some ((x - y - c) % 18446744073709551616, if x < y + c then 1 else 0, ()) := by
  unfold bits_Sub64
  have hcond : (leI 0 x && leI 0 y && leI y 18446744073709551615 && leI 0 c && leI c 1) = true := by simp only [Bool.and_eq_true, leI_true]; omega
  rw [hcond, cond_true]
theorem sub_step (F : Nat) {R : Type} (k : List Int → Option R) (l m o : List Int) {i c : Int} (hi : 0 ≤ i ∧ i < 4) (hx : 0 ≤ getL 0 l i) (hy : 0 ≤ getL 0 m i ∧ getL 0 m i ≤ 18446744073709551615) (hc : 0 ≤ c ∧ c ≤ 1) (N : Nat) :
    wide_sub_l3 F k (N + 1) l m o c i = wide_sub_l3 F k N l m (setL o i ((getL 0 l i - getL 0 m i - c) % 18446744073709551616)) (if getL 0 l i < getL 0 m i + c then 1 else 0) (i + 1) := by
  rw [wide_sub_l3]
  simp (disch := omega) only [bs, ↓if_pos, ↓if_neg, Sub64_eq F hx hy hc]
theorem emod_B (x : Int) : 0 ≤ x % 18446744073709551616 ∧ x % 18446744073709551616 ≤ 18446744073709551615 := by omega
theorem wv4i {a b c d : Int} (h0 : 0 ≤ a ∧ a ≤ 18446744073709551615) (h1 : 0 ≤ b ∧ b ≤ 18446744073709551615) (h2 : 0 ≤ c ∧ c ≤ 18446744073709551615) (h3 : 0 ≤ d ∧ d ≤ 18446744073709551615) :
    ((wv [a, b, c, d] : Nat) : Int) = a + 18446744073709551616 * b + 340282366920938463463374607431768211456 * c + 6277101735386680763835789423207666416102355444464034512896 * d := by
  rw [wv4]; omega
theorem sub_alg {a b c d a' b' c' d' r1 r2 r3 r4 c1 c2 c3 c4 : Int} (k1 : r1 = a - a' + 18446744073709551616 * c1) (k2 : r2 = b - b' - c1 + 18446744073709551616 * c2) (k3 : r3 = c - c' - c2 + 18446744073709551616 * c3) (k4 : r4 = d - d' - c3 + 18446744073709551616 * c4)
    (h1 : 0 ≤ r1 ∧ r1 ≤ 18446744073709551615) (h2 : 0 ≤ r2 ∧ r2 ≤ 18446744073709551615) (h3 : 0 ≤ r3 ∧ r3 ≤ 18446744073709551615) (h4 : 0 ≤ r4 ∧ r4 ≤ 18446744073709551615) (b4 : 0 ≤ c4 ∧ c4 ≤ 1)
    (hV : a' + 18446744073709551616 * b' + 340282366920938463463374607431768211456 * c' + 6277101735386680763835789423207666416102355444464034512896 * d' ≤ a + 18446744073709551616 * b + 340282366920938463463374607431768211456 * c + 6277101735386680763835789423207666416102355444464034512896 * d) :
    r1 + 18446744073709551616 * r2 + 340282366920938463463374607431768211456 * r3 + 6277101735386680763835789423207666416102355444464034512896 * r4 = (a + 18446744073709551616 * b + 340282366920938463463374607431768211456 * c + 6277101735386680763835789423207666416102355444464034512896 * d) - (a' + 18446744073709551616 * b' + 340282366920938463463374607431768211456 * c' + 6277101735386680763835789423207666416102355444464034512896 * d') := by
  have hs : r1 + 18446744073709551616 * r2 + 340282366920938463463374607431768211456 * r3 + 6277101735386680763835789423207666416102355444464034512896 * r4 = (a + 18446744073709551616 * b + 340282366920938463463374607431768211456 * c + 6277101735386680763835789423207666416102355444464034512896 * d) - (a' + 18446744073709551616 * b' + 340282366920938463463374607431768211456 * c' + 6277101735386680763835789423207666416102355444464034512896 * d') + 115792089237316195423570985008687907853269984665640564039457584007913129639936 * c4 := by
    clear h1 h2 h3 h4 b4 hV
    omega
  have hb : r1 + 18446744073709551616 * r2 + 340282366920938463463374607431768211456 * r3 + 6277101735386680763835789423207666416102355444464034512896 * r4 < 115792089237316195423570985008687907853269984665640564039457584007913129639936 := by
    clear k1 k2 k3 k4 hV hs
    omega
  clear k1 k2 k3 k4 h1 h2 h3 h4
  generalize a + 18446744073709551616 * b + 340282366920938463463374607431768211456 * c + 6277101735386680763835789423207666416102355444464034512896 * d = V at *
  generalize a' + 18446744073709551616 * b' + 340282366920938463463374607431768211456 * c' + 6277101735386680763835789423207666416102355444464034512896 * d' = V' at *
  generalize r1 + 18446744073709551616 * r2 + 340282366920938463463374607431768211456 * r3 + 6277101735386680763835789423207666416102355444464034512896 * r4 = R at *
  omega
theorem bit01 (p : Prop) [Decidable p] : 0 ≤ (if p then (1 : Int) else 0) ∧ (if p then (1 : Int) else 0) ≤ 1 := by split <;> omega
theorem wide_sub_eq (F : Nat) (hF : Fuel F) {l m : List Int} (hl : Wd l) (hm : Wd m) (h4 : l.length = 4) (h5 : m.length = 4) (h : wv m ≤ wv l) : wide_sub F l m = some (pad4 (wv l - wv m), ()) := by
  obtain ⟨a, b, c, d, rfl, ha, hb, hc, hd⟩ := four hl h4
  obtain ⟨a', b', c', d', rfl, ha', hb', hc', hd'⟩ := four hm h5
  unfold Fuel at hF
  obtain ⟨N, hN⟩ : ∃ N, F = N + 1 + 1 + 1 + 1 + 1 := ⟨F - 5, by omega⟩
  unfold wide_sub
  have key : ∀ M, M = N + 1 + 1 + 1 + 1 + 1 → wide_sub_l3 F (fun z7 => some (z7, ())) M [a, b, c, d] [a', b', c', d'] [0, 0, 0, 0] 0 0 = some (pad4 (wv [a, b, c, d] - wv [a', b', c', d']), ()) := by
    intro M hM
    subst hM
    rw [sub_step F _ _ _ _ (by omega) (by rw [g0]; omega) (by rw [g0]; omega) (by omega)]
    rw [g0, g0, w4s0, show (0 : Int) + 1 = 1 from rfl]
    rw [sub_step F _ _ _ _ (by omega) (by rw [g1]; omega) (by rw [g1]; omega) (bit01 _)]
    rw [g1, g1, w4s1, show (1 : Int) + 1 = 2 from rfl]
    generalize hc1 : (if a < a' + 0 then (1 : Int) else 0) = c1
    rw [sub_step F _ _ _ _ (by omega) (by rw [g2]; omega) (by rw [g2]; omega) (bit01 _)]
    rw [g2, g2, w4s2, show (2 : Int) + 1 = 3 from rfl]
    generalize hc2 : (if b < b' + c1 then (1 : Int) else 0) = c2
    rw [sub_step F _ _ _ _ (by omega) (by rw [g3]; omega) (by rw [g3]; omega) (bit01 _)]
    rw [g3, g3, w4s3, show (3 : Int) + 1 = 4 from rfl]
    generalize hc3 : (if c < c' + c2 then (1 : Int) else 0) = c3
    generalize hc4 : (if d < d' + c3 then (1 : Int) else 0) = c4
    rw [wide_sub_l3]
    simp (disch := omega) only [bs, ↓if_pos, ↓if_neg]
    have b1 : 0 ≤ c1 ∧ c1 ≤ 1 := by rw [← hc1]; exact bit01 _
    have b2 : 0 ≤ c2 ∧ c2 ≤ 1 := by rw [← hc2]; exact bit01 _
    have b3 : 0 ≤ c3 ∧ c3 ≤ 1 := by rw [← hc3]; exact bit01 _
    have b4 : 0 ≤ c4 ∧ c4 ≤ 1 := by rw [← hc4]; exact bit01 _
    congr 2
    refine wv_inj ?_ (pad4_Wd _) ?_ ?_
    · exact wd4 (by omega) (by omega) (by omega) (by omega)
    · rw [pad4_length]
      · rfl
      · have := wv_lt hl
        rw [h4] at this
        show _ < 18446744073709551616 ^ 4
        omega
    · rw [wv_pad4]
      have k1 : (a - a' - 0) % 18446744073709551616 = a - a' + 18446744073709551616 * c1 := by rw [← hc1]; clear hc1 hc2 hc3 hc4 h; split <;> omega
      have k2 : (b - b' - c1) % 18446744073709551616 = b - b' - c1 + 18446744073709551616 * c2 := by rw [← hc2]; clear hc1 hc2 hc3 hc4 h; split <;> omega
      have k3 : (c - c' - c2) % 18446744073709551616 = c - c' - c2 + 18446744073709551616 * c3 := by rw [← hc3]; clear hc1 hc2 hc3 hc4 h; split <;> omega
      have k4 : (d - d' - c3) % 18446744073709551616 = d - d' - c3 + 18446744073709551616 * c4 := by rw [← hc4]; clear hc1 hc2 hc3 hc4 h; split <;> omega
      have hV : (wv [a', b', c', d'] : Int) ≤ (wv [a, b, c, d] : Int) := by omega
      have e := sub_alg k1 k2 k3 k4 (emod_B _) (emod_B _) (emod_B _) (emod_B _) b4 (by rw [← wv4i ha hb hc hd, ← wv4i ha' hb' hc' hd']; exact hV)
      rw [← wv4i ha hb hc hd, ← wv4i ha' hb' hc' hd', ← wv4i (emod_B _) (emod_B _) (emod_B _) (emod_B _)] at e
      omega
  exact key F hN
theorem half_step (F : Nat) {R : Type} (k : List Int → Option R) (l o : List Int) {i : Int} (hi : 0 ≤ i ∧ i < 4) (hx : Wd l) (N : Nat) (ho : o.length = 4) :
    wide_halved_l2 F k (N + 1) l o i = wide_halved_l2 F k N l (setL o i (if i < 3 then getL 0 l i / 2 + getL 0 l (i + 1) % 2 * 9223372036854775808 else getL 0 l i / 2)) (i + 1) := by
  rw [wide_halved_l2]
  have h1 := hx.get i
  have h2 := hx.get (i + 1)
  have hs : ∀ x y : Int, setL (setL o i x) i y = setL o i y := fun x y => by simp [setL]
  have hg : ∀ x : Int, getL 0 (setL o i x) i = x := by
    intro x
    have : i.toNat < o.length := by omega
    simp [setL, getL, this]
  by_cases h3 : i < 3
  · rw [if_pos h3]
    simp (disch := omega) only [bs, ↓if_pos, ↓if_neg, hs, hg, half_word]
  · rw [if_neg h3]
    simp (disch := omega) only [bs, ↓if_pos, ↓if_neg, shr1]
theorem wide_halved_eq (F : Nat) (hF : Fuel F) {l : List Int} (hl : Wd l) (h4 : l.length = 4) : wide_halved F l = some (pad4 (wv l / 2), ()) := by
  have hlt := wv_lt hl
  rw [h4] at hlt
  obtain ⟨a, b, c, d, rfl, ha, hb, hc, hd⟩ := four hl h4
  unfold Fuel at hF
  obtain ⟨N, hN⟩ : ∃ N, F = N + 1 + 1 + 1 + 1 + 1 := ⟨F - 5, by omega⟩
  unfold wide_halved
  have key : ∀ M, M = N + 1 + 1 + 1 + 1 + 1 → wide_halved_l2 F (fun z14 => some (z14, ())) M [a, b, c, d] [0, 0, 0, 0] 0 = some (pad4 (wv [a, b, c, d] / 2), ()) := by
    intro M hM
    subst hM
    rw [half_step F _ _ _ (by omega) hl _ rfl, show (0 : Int) + 1 = 1 from rfl, if_pos (by omega), g0, g1, w4s0]
    rw [half_step F _ _ _ (by omega) hl _ rfl, show (1 : Int) + 1 = 2 from rfl, if_pos (by omega), g1, g2, w4s1]
    rw [half_step F _ _ _ (by omega) hl _ rfl, show (2 : Int) + 1 = 3 from rfl, if_pos (by omega), g2, g3, w4s2]
    rw [half_step F _ _ _ (by omega) hl _ rfl, show (3 : Int) + 1 = 4 from rfl, if_neg (by omega), g3, w4s3]
    rw [wide_halved_l2]
    simp (disch := omega) only [bs, ↓if_pos, ↓if_neg]
    congr 2
    refine wv_inj ?_ (pad4_Wd _) ?_ ?_
    · exact wd4 (by omega) (by omega) (by omega) (by omega)
    · rw [pad4_length]
      · rfl
      · show _ < 18446744073709551616 ^ 4
        omega
    · rw [wv_pad4, wv4, wv4]
      omega
  exact key F hN
theorem length_step (F : Nat) {R : Type} (k0 : Option R) (kr : Int → Option R) (l : List Int) {i : Int} (hi : 0 ≤ i ∧ i < 4) (hx : Wd l) (N : Nat) :
    wide_length_l2 F k0 kr (N + 1) l i = if getL 0 l i = 0 then wide_length_l2 F k0 kr N l (i - 1) else kr (64 * i + (Lib.bitLen (getL 0 l i).toNat : Int)) := by
  rw [wide_length_l2]
  have h1 := hx.get i
  have h2 := (Sz_word h1).2
  by_cases hz : getL 0 l i = 0
  · rw [if_pos hz]; simp (disch := omega) only [bs, ↓if_pos, ↓if_neg]
  · rw [if_neg hz]; simp (disch := omega) only [bs, ↓if_pos, ↓if_neg, Len64_eq F h1]
theorem wide_length_eq (F : Nat) (hF : Fuel F) {l : List Int} (hl : Wd l) (h4 : l.length = 4) : ∃ s : Nat, Sz (wv l) s ∧ s ≤ 256 ∧ wide_length F l = some ((s : Int), ()) := by
  obtain ⟨a, b, c, d, rfl, ha, hb, hc, hd⟩ := four hl h4
  unfold Fuel at hF
  obtain ⟨N, hN⟩ : ∃ N, F = N + 1 + 1 + 1 + 1 + 1 := ⟨F - 5, by omega⟩
  unfold wide_length
  have key : ∀ M, M = N + 1 + 1 + 1 + 1 + 1 → ∃ s : Nat, Sz (wv [a, b, c, d]) s ∧ s ≤ 256 ∧ wide_length_l2 F (some (0, ())) (fun z9 => some (z9, ())) M [a, b, c, d] 3 = some ((s : Int), ()) := by
    intro M hM
    subst hM
    rw [length_step F _ _ _ (by omega) hl, g3, show (3 : Int) - 1 = 2 from rfl]
    by_cases h3 : d = 0
    · rw [if_pos h3, length_step F _ _ _ (by omega) hl, g2, show (2 : Int) - 1 = 1 from rfl]
      by_cases h2 : c = 0
      · rw [if_pos h2, length_step F _ _ _ (by omega) hl, g1, show (1 : Int) - 1 = 0 from rfl]
        by_cases h1 : b = 0
        · rw [if_pos h1, length_step F _ _ _ (by omega) hl, g0, show (0 : Int) - 1 = -1 from rfl]
          by_cases h0 : a = 0
          · refine ⟨0, ?_, by omega, ?_⟩
            · rw [wv4, h0, h1, h2, h3]; exact Sz_zero
            · rw [if_pos h0, wide_length_l2]; simp (disch := omega) only [bs, ↓if_pos, ↓if_neg]; rfl
          · obtain ⟨z1, z2⟩ := Sz_word ha
            refine ⟨Lib.bitLen a.toNat, ?_, by omega, ?_⟩
            · rw [wv4, h1, h2, h3]; simpa using z1
            · rw [if_neg h0]; congr 2; omega
        · obtain ⟨z1, z2⟩ := Sz_word hb
          refine ⟨64 + Lib.bitLen b.toNat, ?_, by omega, ?_⟩
          · rw [wv4, h2, h3]
            have := Sz_top (lo := a.toNat) (k := 64) (t := b.toNat) (by omega) (by omega) z1
            simpa using this
          · rw [if_neg h1]; congr 2
      · obtain ⟨z1, z2⟩ := Sz_word hc
        refine ⟨128 + Lib.bitLen c.toNat, ?_, by omega, ?_⟩
        · rw [wv4, h3]
          have := Sz_top (lo := a.toNat + 18446744073709551616 * b.toNat) (k := 128) (t := c.toNat) (by omega) (by omega) z1
          have e : a.toNat + 18446744073709551616 * (b.toNat + 18446744073709551616 * (c.toNat + 18446744073709551616 * (0 : Int).toNat)) = a.toNat + 18446744073709551616 * b.toNat + 2 ^ 128 * c.toNat := by
            rw [show (0 : Int).toNat = 0 from rfl]; omega
          rw [e]; exact this
        · rw [if_neg h2]; congr 2
    · obtain ⟨z1, z2⟩ := Sz_word hd
      refine ⟨192 + Lib.bitLen d.toNat, ?_, by omega, ?_⟩
      · rw [wv4]
        have := Sz_top (lo := a.toNat + 18446744073709551616 * (b.toNat + 18446744073709551616 * c.toNat)) (k := 192) (t := d.toNat) (by omega) (by omega) z1
        have e : a.toNat + 18446744073709551616 * (b.toNat + 18446744073709551616 * (c.toNat + 18446744073709551616 * d.toNat)) = a.toNat + 18446744073709551616 * (b.toNat + 18446744073709551616 * c.toNat) + 2 ^ 192 * d.toNat := by
          omega
        rw [e]; exact this
      · rw [if_neg h3]; congr 2
  exact key F hN
end Go.Proofs.YtfmjokmjaghehaaGreat
