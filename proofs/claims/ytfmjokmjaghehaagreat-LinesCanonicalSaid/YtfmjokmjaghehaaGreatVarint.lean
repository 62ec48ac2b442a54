
/- Layer 5: varint, numbers of 64 bits. -/
import Derived.Test.YtfmjokmjaghehaaGreatBitpack4
set_option linter.unusedVariables false
set_option linter.unusedSimpArgs false
namespace Go.Proofs.YtfmjokmjaghehaaGreat
open Go.Eng
def enc (v : Nat) : List Int := if v < 128 then [(v : Int)] else ((v % 128 + 128 : Nat) : Int) :: enc (v / 128)
termination_by v
decreasing_by omega
theorem enc_small {v : Nat} (h : v < 128) : enc v = [(v : Int)] := by rw [enc, if_pos h]
theorem enc_big {v : Nat} (h : ¬ v < 128) : enc v = ((v % 128 + 128 : Nat) : Int) :: enc (v / 128) := by rw [enc, if_neg h]
theorem enc_bt (v : Nat) : Bt (enc v) := by
  induction v using Nat.strongRecOn with
  | _ v ih =>
    by_cases h : v < 128
    · rw [enc_small h]; exact Bt.one (by omega)
    · rw [enc_big h]
      intro x hx
      rcases List.mem_cons.1 hx with h1 | h1
      · omega
      · exact ih (v / 128) (by omega) x h1
theorem enc_ne (v : Nat) : enc v ≠ [] := by
  by_cases h : v < 128
  · rw [enc_small h]; simp
  · rw [enc_big h]; simp
theorem bitLen_lt {v k : Nat} (hk : k ≤ 64) (h : v < 2 ^ k) : Lib.bitLen v ≤ k := Lib.bitLen_le v k hk h
theorem enc_length {v : Nat} (hv : v < 2 ^ 64) : (enc v).length = max ((Lib.bitLen v + 6) / 7) 1 := by
  induction v using Nat.strongRecOn with
  | _ v ih =>
    by_cases h : v < 128
    · rw [enc_small h]
      have := bitLen_lt (v := v) (k := 7) (by omega) (by omega)
      simp only [List.length_singleton]
      omega
    · rw [enc_big h]
      have h1 := ih (v / 128) (by omega) (by omega)
      have h2 := Lib.bitLen_shift 7 v (by omega) (by omega)
      have h3 : ¬ Lib.bitLen (v / 128) ≤ 0 := fun h0 => by
        have := (bitLen_le_iff (x := v / 128) (w := 0) (by omega)).1 h0
        omega
      simp only [List.length_cons]
      rw [show (2 : Nat) ^ 7 = 128 from rfl] at h2
      omega
theorem enc_le10 {v : Nat} (hv : v < 2 ^ 64) : (enc v).length ≤ 10 := by
  rw [enc_length hv]
  have := bitLen_lt (v := v) (k := 64) (by omega) hv
  omega
theorem or128 : ∀ b : Fin 256, (b.val ||| 128) = b.val % 128 + 128 := by decide +kernel
theorem or128I {x : Int} (hx : 0 ≤ x) : orI .u8 (IntKind.wrap .u8 x) 128 = x % 128 + 128 := by
  have hw := rng_wrap_u8 x
  rw [orI_u8 hw (by omega), wrap_u8_mod]
  have := or128 ⟨(x % 256).toNat, by omega⟩
  simp only at this
  rw [show (128 : Int).toNat = 128 from rfl, this]
  omega
theorem shr7 {x : Int} (hx : 0 ≤ x) : shrI .u64 x 7 = x / 128 := by
  rw [shrI_nat hx]
  simp only [IntKind.bits]
  rw [show min (7 : Int).toNat 64 = 7 from rfl]
  omega
theorem Append_loop (F : Nat) {R : Type} (k : Int → List Int → Option R) {K : List Int → Option R} {v0 : Nat} {out0 : List Int} (hk : ∀ (v : Nat) (out : List Int), v < 128 → out.length ≤ 140737488355320 → k v out = K (out ++ [(v : Int)])) :
    ∀ (m v : Nat) (out : List Int), v < 128 ^ (m + 1) → (out.length : Int) + m ≤ 140737488355320 → ∀ N, m < N → varint_Append_l2 F k N v out = K (out ++ enc v) := by
  intro m
  induction m with
  | zero =>
    intro v out hv hl N hN
    obtain ⟨N, rfl⟩ : ∃ M, N = M + 1 := ⟨N - 1, by omega⟩
    unfold varint_Append_l2
    simp (disch := omega) only [bs, ↓if_pos, ↓if_neg]
    rw [hk v out (by simpa using hv) (by omega), enc_small (by simpa using hv)]
  | succ m ih =>
    intro v out hv hl N hN
    obtain ⟨N, rfl⟩ : ∃ M, N = M + 1 := ⟨N - 1, by omega⟩
    unfold varint_Append_l2
    by_cases h : v < 128
    · simp (disch := omega) only [bs, ↓if_pos, ↓if_neg]
      rw [hk v out h (by omega), enc_small h]
    · have h2 := ih (v / 128) (out ++ [((v % 128 + 128 : Nat) : Int)]) (by rw [Nat.pow_succ] at hv; exact Nat.div_lt_of_lt_mul (by rw [Nat.mul_comm]; exact hv)) (by simp; omega) N (by omega)
      simp (disch := omega) only [bs, ↓if_pos, ↓if_neg, or128I, shr7]
      refine Eq.trans h2 ?_
      rw [enc_big h]
      simp
theorem Clone_eq (F : Nat) {b : List Int} (hb : (b.length : Int) ≤ 140737488355300) : slices_Clone_byte F b = some (b, ()) := by
  unfold slices_Clone_byte
  simp (disch := omega) only [bs, ↓if_pos, ↓if_neg]
theorem Grow_eq (F : Nat) {b : List Int} {n : Int} (hn : 0 ≤ n ∧ n ≤ 100) (hb : (b.length : Int) ≤ 140737488355200) : slices_Grow_byte F b n = some (b, ()) := by
  unfold slices_Grow_byte slices_Grow
  have : (leI 0 n && roomB (List.length b + n.toNat) 1) = true := by
    simp only [Bool.and_eq_true, leI_true, roomB_true]; omega
  rw [this, cond_true]
def Room (b : List Int) : Prop := (b.length : Int) ≤ 140737488355200
theorem varint_Append_eq (F : Nat) (hF : Fuel F) {b : List Int} (hb : Room b) {v : Nat} (hv : v < 2 ^ 64) : varint_Append F b v = some (b ++ enc v, ()) := by
  unfold Room at hb
  unfold varint_Append
  simp (disch := omega) only [bs, ↓if_pos, ↓if_neg, Clone_eq, Grow_eq]
  refine Append_loop F _ (K := fun l => some (l, ())) (v0 := 0) (out0 := []) (fun v out h1 h2 => ?_) 9 v b (by omega) (by omega) F (by unfold Fuel at hF; omega)
  simp (disch := omega) only [bs, ↓if_pos, ↓if_neg, wrap_u8]
theorem refAppend_loop (F : Nat) {R : Type} (k : Int → List Int → Option R) {K : List Int → Option R} (hk : ∀ (v : Nat) (out : List Int), v < 128 → out.length ≤ 140737488355320 → k v out = K (out ++ [(v : Int)])) :
    ∀ (m v : Nat) (out : List Int), v < 2 ^ 64 → v < 128 ^ (m + 1) → (out.length : Int) + m ≤ 140737488355320 → ∀ N, m < N → ref05_Append_l2 F k N v out = K (out ++ enc v) := by
  intro m
  induction m with
  | zero =>
    intro v out hv0 hv hl N hN
    obtain ⟨N, rfl⟩ : ∃ M, N = M + 1 := ⟨N - 1, by omega⟩
    unfold ref05_Append_l2
    simp (disch := omega) only [bs, ↓if_pos, ↓if_neg]
    rw [hk v out (by simpa using hv) (by omega), enc_small (by simpa using hv)]
  | succ m ih =>
    intro v out hv0 hv hl N hN
    obtain ⟨N, rfl⟩ : ∃ M, N = M + 1 := ⟨N - 1, by omega⟩
    unfold ref05_Append_l2
    by_cases h : v < 128
    · simp (disch := omega) only [bs, ↓if_pos, ↓if_neg]
      rw [hk v out h (by omega), enc_small h]
    · have h2 := ih (v / 128) (out ++ [((v % 128 + 128 : Nat) : Int)]) (by omega) (by rw [Nat.pow_succ] at hv; exact Nat.div_lt_of_lt_mul (by rw [Nat.mul_comm]; exact hv)) (by simp; omega) N (by omega)
      simp (disch := omega) only [bs, ↓if_pos, ↓if_neg, quoI_u64, wrap_u8, addI_u8]
      refine Eq.trans h2 ?_
      rw [enc_big h]
      simp
theorem ref05_Append_eq (F : Nat) (hF : Fuel F) {b : List Int} (hb : Room b) {v : Nat} (hv : v < 2 ^ 64) : ref05_Append F b v = some (b ++ enc v, ()) := by
  unfold Room at hb
  unfold ref05_Append
  simp (disch := omega) only [bs, ↓if_pos, ↓if_neg, List.nil_append]
  refine refAppend_loop F _ (K := fun l => some (l, ())) (fun v out h1 h2 => ?_) 9 v b hv (by omega) (by omega) F (by unfold Fuel at hF; omega)
  simp (disch := omega) only [bs, ↓if_pos, ↓if_neg, wrap_u8]
theorem varint_Size_eq (F : Nat) {v : Nat} (hv : v < 2 ^ 64) : varint_Size F v = some (((enc v).length : Int), ()) := by
  unfold varint_Size bits_Len64
  have hb := bitLen_lt (v := v) (k := 64) (by omega) hv
  have : (leI 0 (v : Int) && leI (v : Int) 18446744073709551615) = true := by simp only [Bool.and_eq_true, leI_true]; omega
  rw [this]
  simp (disch := omega) only [bs, ↓if_pos, ↓if_neg, Int.toNat_natCast]
  rw [enc_length hv]
  simp only [Option.some.injEq, Prod.mk.injEq, and_true]
  omega
theorem ref05_Size_eq (F : Nat) (hF : Fuel F) {v : Nat} (hv : v < 2 ^ 64) : ref05_Size F v = some (((enc v).length : Int), ()) := by
  unfold ref05_Size
  rw [ref05_Append_eq F hF (by simp [Room]) hv]
  rfl
/- zigzag -/
def zz (v : Int) : Nat := if 0 ≤ v then (2 * v).toNat else (-2 * v - 1).toNat
def uz (n : Nat) : Int := if n % 2 = 0 then ((n / 2 : Nat) : Int) else -((n / 2 : Nat) : Int) - 1
theorem zz_lt {v : Int} (h : I64 v) : zz v < 2 ^ 64 := by
  unfold I64 at h; unfold zz; split <;> omega
theorem uz_rng {n : Nat} (h : n < 2 ^ 64) : I64 (uz n) := by
  unfold I64 uz; split <;> omega
theorem xor_zero_u64 {x : Int} (h : 0 ≤ x ∧ x ≤ 18446744073709551615) : xorI .u64 x 0 = x := by
  rw [xorI_u64 h (by omega)]; simp; omega
theorem xor_ones_u64 {x : Int} (h : 0 ≤ x ∧ x ≤ 18446744073709551615) : xorI .u64 x 18446744073709551615 = 18446744073709551615 - x := by
  apply nb_ext
  · rw [xorI_u64 h (by omega)]; omega
  · omega
  · intro k
    rw [xorI_u64 h (by omega), nb_nat, Nat.testBit_xor, show (18446744073709551615 : Int).toNat = 2 ^ 64 - 1 from rfl, Nat.testBit_two_pow_sub_one]
    unfold nb
    rw [show (18446744073709551615 - x).toNat = 2 ^ 64 - (x.toNat + 1) by omega, Nat.testBit_two_pow_sub_succ (by omega)]
    by_cases hk : k < 64
    · simp [hk]
    · have := nb_lt (w := 64) h.1 (by omega) (k := k) (by omega)
      unfold nb at this
      simp [hk, this]
theorem wrap_i64_of {x : Int} (h : 0 ≤ x ∧ x ≤ 18446744073709551615) : IntKind.i64.wrap x = if x ≤ 9223372036854775807 then x else x - 18446744073709551616 := by
  simp only [IntKind.wrap, IntKind.bits, IntKind.signed, Bool.true_and, ge_iff_le, decide_eq_true_eq]
  split <;> split <;> omega
theorem varint_Zigzag_eq (F : Nat) {v : Int} (h : I64 v) : varint_Zigzag F v = some ((zz v : Int), ()) := by
  unfold I64 at h
  unfold varint_Zigzag
  simp only [Option.some.injEq, Prod.mk.injEq, and_true]
  have hw : IntKind.u64.wrap v = if 0 ≤ v then v else v + 18446744073709551616 := by rw [wrap_u64_mod]; split <;> omega
  have hs : shrI .i64 v 63 = if 0 ≤ v then 0 else -1 := by
    unfold shrI
    rw [Int.fdiv_eq_ediv_of_nonneg _ (by decide)]
    rw [show ((2 : Int) ^ min (63 : Int).toNat IntKind.i64.bits) = 9223372036854775808 from rfl]
    split <;> omega
  have hsh : shlI .u64 (IntKind.wrap .u64 v) 1 = if 0 ≤ v then 2 * v else 2 * v + 18446744073709551616 := by
    unfold shlI
    rw [show ((2 : Int) ^ min (1 : Int).toNat IntKind.u64.bits) = 2 from rfl, hw, wrap_u64_mod]
    split <;> omega
  rw [hsh, hs]
  unfold zz
  by_cases h0 : 0 ≤ v
  · simp only [if_pos h0]
    rw [wrap_u64 (by omega), xor_zero_u64 (by omega)]
    omega
  · simp only [if_neg h0]
    rw [show IntKind.u64.wrap (-1) = 18446744073709551615 by rw [wrap_u64_mod]; rfl, xor_ones_u64 (by omega)]
    omega
theorem ref05_Zigzag_eq (F : Nat) {v : Int} (h : I64 v) : ref05_Zigzag F v = some ((zz v : Int), ()) := by
  unfold I64 at h
  unfold ref05_Zigzag zz
  by_cases h0 : 0 ≤ v
  · simp (disch := omega) only [bs, ↓if_pos, ↓if_neg, wrap_u64, mulI_u64]
    simp only [Option.some.injEq, Prod.mk.injEq, and_true]
    omega
  · simp (disch := omega) only [bs, ↓if_pos, ↓if_neg, wrap_u64, mulI_u64, addI_u64]
    simp only [Option.some.injEq, Prod.mk.injEq, and_true]
    omega
theorem and_one {x : Int} (h : 0 ≤ x ∧ x ≤ 18446744073709551615) : andI .u64 x 1 = x % 2 := by
  rw [andI_u64 h (by omega), show (1 : Int).toNat = 1 from rfl, Nat.and_one_is_mod]
  omega
theorem shr1 {x : Int} (hx : 0 ≤ x) : shrI .u64 x 1 = x / 2 := by
  rw [shrI_nat hx]
  simp only [IntKind.bits]
  rw [show min (1 : Int).toNat 64 = 1 from rfl]
  omega
theorem xor_i64_zero {x : Int} (h : I64 x) : xorI .i64 x 0 = x := by
  unfold I64 at h
  unfold xorI
  show IntKind.i64.wrap (((BitVec.ofInt 64 x ^^^ BitVec.ofInt 64 0).toNat : Nat) : Int) = _
  rw [show BitVec.ofInt 64 0 = 0#64 from rfl, BitVec.xor_zero, BitVec.toNat_ofInt]
  rw [wrap_i64_of (by omega)]
  split <;> omega
theorem xor_i64_ones {x : Int} (h : I64 x) : xorI .i64 x (-1) = -1 - x := by
  unfold I64 at h
  unfold xorI
  show IntKind.i64.wrap (((BitVec.ofInt 64 x ^^^ BitVec.ofInt 64 (-1)).toNat : Nat) : Int) = _
  rw [show BitVec.ofInt 64 (-1) = BitVec.allOnes 64 by decide, BitVec.xor_allOnes, BitVec.toNat_not, BitVec.toNat_ofInt]
  rw [wrap_i64_of (by omega)]
  split <;> omega
theorem varint_Unzigzag_eq (F : Nat) {n : Nat} (h : n < 2 ^ 64) : varint_Unzigzag F n = some (uz n, ()) := by
  unfold varint_Unzigzag
  simp only [Option.some.injEq, Prod.mk.injEq, and_true]
  rw [shr1 (by omega), and_one (by omega), wrap_i64 (by omega), wrap_i64 (by omega)]
  unfold uz
  by_cases h0 : n % 2 = 0
  · rw [show (n : Int) % 2 = 0 by omega, show subI .i64 0 0 = 0 from rfl, xor_i64_zero (by unfold I64; omega), if_pos h0]
    omega
  · rw [show (n : Int) % 2 = 1 by omega, show subI .i64 0 1 = -1 from rfl, xor_i64_ones (by unfold I64; omega), if_neg h0]
    omega
theorem ref05_Unzigzag_eq (F : Nat) {n : Nat} (h : n < 2 ^ 64) : ref05_Unzigzag F n = some (uz n, ()) := by
  unfold ref05_Unzigzag uz
  by_cases h0 : n % 2 = 0
  · simp (disch := omega) only [bs, ↓if_pos, ↓if_neg, quoI_u64, wrap_i64]
    simp only [Option.some.injEq, Prod.mk.injEq, and_true]
    omega
  · simp (disch := omega) only [bs, ↓if_pos, ↓if_neg, quoI_u64, wrap_i64]
    simp only [Option.some.injEq, Prod.mk.injEq, and_true]
    omega
end Go.Proofs.YtfmjokmjaghehaaGreat
