
/- Layer 5: varint, the document's wide encodings; what the makers make. -/
import Derived.Test.YtfmjokmjaghehaaGreatVarint4
set_option linter.unusedVariables false
set_option linter.unusedSimpArgs false
namespace Go.Proofs.YtfmjokmjaghehaaGreat
open Go.Eng
theorem I64_lt {z : Int} (h : I64 z) : z.natAbs < top256 := by
  unfold I64 at h
  have := top256_big
  omega
theorem refAppendWide_loop (F : Nat) (hF : Fuel F) {R : Type} (k : List Int → Int → Option R) {K : List Int → Option R} (hk : ∀ (y : Int) (out : List Int), 0 ≤ y ∧ y < 128 → out.length ≤ 140737488355320 → k out y = K (out ++ [y])) :
    ∀ (m q : Nat) (out : List Int) (y : Int) (w8 : W), q < 128 ^ m → q < top256 → 0 ≤ y ∧ y < 128 → (out.length : Int) + m ≤ 140737488355320 → ∀ N, m < N →
      ref05_AppendWide_l9 F k N out (toW (q : Int)) w8 y = K (out ++ enc (y.toNat + 128 * q)) := by
  intro m
  induction m with
  | zero =>
    intro q out y w8 hq ht hy hl N hN
    obtain ⟨N, rfl⟩ : ∃ M, N = M + 1 := ⟨N - 1, by omega⟩
    have : q = 0 := by simpa using hq
    subst this
    unfold ref05_AppendWide_l9
    rw [ref02_Sign_eq F hF (toW_ok (by omega)), wi_toW]
    simp (disch := omega) only [bs, ↓if_pos, ↓if_neg]
    rw [hk y out hy (by omega), enc_small (by omega)]
    congr 3
    omega
  | succ m ih =>
    intro q out y w8 hq ht hy hl N hN
    obtain ⟨N, rfl⟩ : ∃ M, N = M + 1 := ⟨N - 1, by omega⟩
    unfold ref05_AppendWide_l9
    have hok := toW_ok (z := (q : Int)) (by omega)
    rw [ref02_Sign_eq F hF hok, wi_toW]
    by_cases h0 : q = 0
    · subst h0
      simp (disch := omega) only [bs, ↓if_pos, ↓if_neg]
      rw [hk y out hy (by omega), enc_small (by omega)]
      congr 3
      omega
    · have h128 : (128 : Int).natAbs < top256 := by have := top256_big; omega
      have hok2 := toW_ok h128
      have e1 := ref02_DivMod_eq F hF hok hok2 (by rw [wi_toW]; omega) (by rw [wi_toW]; omega)
      rw [wi_toW, wi_toW] at e1
      have hm : ((q : Int) % 128).natAbs < top256 := by omega
      have e2 := ref02_Unsigned_eq F hF (toW_ok hm)
      rw [wi_toW, if_pos (by omega)] at e2
      have e3 := ih (q / 128) (out ++ [y + 128]) ((q : Int) % 128) (toW ((q : Int) % 128)) (by rw [Nat.pow_succ] at hq; exact Nat.div_lt_of_lt_mul (by rw [Nat.mul_comm]; exact hq)) (by omega) (by omega) (by simp; omega) N (by omega)
      have hw : IntKind.u8.wrap ((q : Int) % 128) = (q : Int) % 128 := wrap_u8 (by omega)
      simp (disch := omega) only [bs, ↓if_pos, ↓if_neg, ref02_Of_eq F (x := 128) (by unfold I64; omega), e1, e2, hw, addI_u8]
      rw [show ((q : Int) / 128) = ((q / 128 : Nat) : Int) by omega]
      refine Eq.trans e3 ?_
      have hb1 : (((y.toNat + 128 * q) % 128 + 128 : Nat) : Int) = y + 128 := by omega
      rw [enc_big (v := y.toNat + 128 * q) (by omega), show (y.toNat + 128 * q) / 128 = q by omega, show ((q : Int) % 128).toNat + 128 * (q / 128) = q by omega, hb1]
      simp
theorem ref05_AppendWide_eq (F : Nat) (hF : Fuel F) {b : List Int} (hb : Room b) {w : W} (h : WOk w) : ref05_AppendWide F b w = some (b ++ enc (uw (wi w)), ()) := by
  unfold Room at hb
  unfold ref05_AppendWide
  have hpos : WOk (false, w.2) := h
  have hwp : wi (false, w.2) = ((wi w).natAbs : Int) := by rw [wi_abs]; rfl
  have habs := h.abs
  have h64 : (64 : Int).natAbs < top256 := by have := top256_big; omega
  have e1 := ref02_DivMod_eq F hF hpos (toW_ok h64) (by rw [wi_toW]; omega) (by rw [wi_toW]; omega)
  rw [wi_toW, hwp] at e1
  have hm : (((wi w).natAbs : Int) % 64).natAbs < top256 := by omega
  have e2 := ref02_Unsigned_eq F hF (toW_ok hm)
  rw [wi_toW, if_pos (by omega)] at e2
  have hlt : (wi w).natAbs / 64 < 128 ^ 37 := by
    have := top256_val; omega
  have core : ∀ y : Int, 0 ≤ y ∧ y < 128 → ref05_AppendWide_j9 F (fun z21 => some (z21, ())) b (toW (((wi w).natAbs : Int) / 64)) (toW (((wi w).natAbs : Int) % 64)) y = some (b ++ enc (y.toNat + 128 * ((wi w).natAbs / 64)), ()) := by
    intro y hy
    unfold ref05_AppendWide_j9
    rw [show (((wi w).natAbs : Int) / 64) = (((wi w).natAbs / 64 : Nat) : Int) by omega]
    exact refAppendWide_loop F hF _ (K := fun l => some (l, ())) (fun y out h1 h2 => by simp (disch := omega) only [bs, ↓if_pos, ↓if_neg]) 37 _ b y _ hlt (by omega) hy (by omega) F (by unfold Fuel at hF; omega)
  have huw : uw (wi w) = 2 * (wi w).natAbs + (if wi w < 0 then 1 else 0) := rfl
  simp (disch := omega) only [bs, ↓if_pos, ↓if_neg, List.nil_append, ref02_Of_eq F (x := 64) (by unfold I64; omega), e1, e2, ref02_Sign_eq F hF h, mulI_u64, wrap_u8, addI_u8]
  by_cases hn : wi w < 0
  · rw [if_pos hn] at huw
    have hs : (if wi w = 0 then (0 : Int) else if wi w < 0 then -1 else 1) < 0 := by rw [if_neg (by omega), if_pos hn]; omega
    rw [if_pos hs, core _ (by omega), huw]
    congr 4
    omega
  · rw [if_neg hn] at huw
    have hs : ¬ (if wi w = 0 then (0 : Int) else if wi w < 0 then -1 else 1) < 0 := by
      rw [if_neg hn]
      split <;> omega
    rw [if_neg hs, core _ (by omega), huw]
    congr 4
    omega
end Go.Proofs.YtfmjokmjaghehaaGreat
