
/- Layer 5: varint, the document's wide encodings; what the makers make. -/
import Derived.Test.YtfmjokmjaghehaaGreatVarint4
set_option linter.unusedVariables false
set_option linter.unusedSimpArgs false
namespace Go.Proofs.YtfmjokmjaghehaaGreat
open Go.Eng
/- the document's reading -/
theorem ref05_shifted_eq (F : Nat) (hF : Fuel F) {v : Nat} (hv : v < top256) {n : Int} (hn : 0 ≤ n ∧ n ≤ 128) {y : Int} (hy : 0 ≤ y ∧ y ≤ 127) (hyn : y < n) :
    ref05_shifted F (toW (v : Int)) n y = some (if v * n.toNat + y.toNat < top256 then (toW ((v * n.toNat + y.toNat : Nat) : Int), true, ()) else (toW 0, false, ())) := by
  unfold ref05_shifted
  have hok := toW_ok (z := (v : Int)) (by omega)
  have hbig := top256_big
  have hnok := toW_ok (z := n) (by omega)
  have e : ((v : Int) * n) = ((v * n.toNat : Nat) : Int) := by rw [Int.natCast_mul, Int.toNat_of_nonneg hn.1]
  rw [ref02_Of_eq F (by unfold I64; omega)]
  simp only [Option.bind_some]
  rw [ref02_Mul_eq F hF hok hnok, wi_toW, wi_toW, e]
  generalize hm : v * n.toNat = m at *
  unfold wres
  rw [Int.natAbs_natCast]
  by_cases c : m < top256
  · rw [if_pos c]
    have hmok := toW_ok (z := (m : Int)) (by omega)
    have hyok := toW_ok (z := y) (by omega)
    simp only [Option.bind_some, Bool.not_true, cond_false, ref02_OfUnsigned_eq F (x := y) (by omega), ref02_Add_eq F hF hmok hyok, wi_toW]
    have e2 : (m : Int) + y = ((m + y.toNat : Nat) : Int) := by omega
    rw [e2]
    unfold wres
    rw [Int.natAbs_natCast]
    by_cases c2 : m + y.toNat < top256
    · simp only [if_pos c2]
    · simp only [if_neg c2]
  · rw [if_neg c, if_neg (by omega)]
    simp only [Option.bind_some, Bool.not_false, cond_true, toW_zero]
theorem refReadWide_loop (F : Nat) (hF : Fuel F) {x1 : Int} {x4 : W} {c : List Int} (hb : Bt c) (hl : c.length ≤ 37) :
    ∀ (m : Nat), m + 1 ≤ c.length → ∀ (x10 : W) (ok : Bool), (if dv (c.drop (m + 1)) < top256 then x10 = toW (dv (c.drop (m + 1)) : Int) ∧ ok = true else ok = false) → ∀ N, m + 1 < N →
      ∃ (y : W) (ok' : Bool), (if dv (c.drop 1) < top256 then y = toW (dv (c.drop 1) : Int) ∧ ok' = true else ok' = false) ∧
        ∀ (R : Type) (k : Int → W → List Int → W → Bool → Option R), ref05_ReadWide_l10 F k N x1 x4 c x10 ok (m : Int) = k x1 x4 c y ok' := by
  intro m
  induction m with
  | zero =>
    intro hm x10 ok hx N hN
    obtain ⟨N, rfl⟩ : ∃ M, N = M + 1 := ⟨N - 1, by omega⟩
    refine ⟨x10, ok, hx, fun R k => ?_⟩
    unfold ref05_ReadWide_l10
    simp (disch := omega) only [bs, ↓if_pos, ↓if_neg]
  | succ m ih =>
    intro hm x10 ok hx N hN
    obtain ⟨N, rfl⟩ : ∃ M, N = M + 1 := ⟨N - 1, by omega⟩
    have hsplit := split_at (l := c) (i := m + 1) (by omega)
    have hg := getD_all (P := fun x => 0 ≤ x ∧ x ≤ 255) hb (by omega) (d := 0) (m + 1)
    have e1 : dv (c.drop (m + 1)) = (c.getD (m + 1) 0 % 128).toNat + 128 * dv (c.drop (m + 1 + 1)) := by rw [hsplit]; rfl
    have hgl : getL 0 c ((m : Int) + 1) = c.getD (m + 1) 0 := by rw [show (m : Int) + 1 = ((m + 1 : Nat) : Int) by omega, getL_nat]
    have hcast : ((m + 1 : Nat) : Int) = (m : Int) + 1 := by omega
    have mono : dv (c.drop (m + 1)) ≤ dv (c.drop 1) := by
      have := dv_drop_le (c.drop 1) m
      rw [List.drop_drop, Nat.add_comm] at this
      exact this
    by_cases c1 : dv (c.drop (m + 1 + 1)) < top256
    · rw [if_pos c1] at hx
      obtain ⟨hx1, hx2⟩ := hx
      subst hx1 hx2
      have es := ref05_shifted_eq F hF c1 (n := 128) (by omega) (y := c.getD (m + 1) 0 % 128) (by omega) (by omega)
      have e3 : dv (c.drop (m + 1 + 1)) * (128 : Int).toNat + (c.getD (m + 1) 0 % 128).toNat = dv (c.drop (m + 1)) := by rw [e1, show (128 : Int).toNat = 128 from rfl]; omega
      rw [e3] at es
      by_cases c2 : dv (c.drop (m + 1)) < top256
      · rw [if_pos c2] at es
        obtain ⟨y, ok', g1, g2⟩ := ih (by omega) (toW (dv (c.drop (m + 1)) : Int)) true (by rw [if_pos c2]; exact ⟨rfl, rfl⟩) N (by omega)
        refine ⟨y, ok', g1, fun R k => ?_⟩
        rw [hcast]
        unfold ref05_ReadWide_l10
        simp (disch := omega) only [bs, ↓if_pos, ↓if_neg, hgl, wrap_u64, es]
        rw [show (m : Int) + 1 - 1 = (m : Int) by omega]
        exact g2 R k
      · rw [if_neg c2] at es
        obtain ⟨y, ok', g1, g2⟩ := ih (by omega) (toW 0) false (by rw [if_neg c2]) N (by omega)
        refine ⟨y, ok', g1, fun R k => ?_⟩
        rw [hcast]
        unfold ref05_ReadWide_l10
        simp (disch := omega) only [bs, ↓if_pos, ↓if_neg, hgl, wrap_u64, es]
        rw [show (m : Int) + 1 - 1 = (m : Int) by omega]
        exact g2 R k
    · rw [if_neg c1] at hx
      subst hx
      refine ⟨x10, false, ?_, fun R k => ?_⟩
      · rw [if_neg (by omega)]
      · rw [hcast]
        unfold ref05_ReadWide_l10
        simp (disch := omega) only [bs, ↓if_pos, ↓if_neg]
theorem dv_cons {c : List Int} (hpos : 0 < c.length) : dv c = (c.getD 0 0 % 128).toNat + 128 * dv (c.drop 1) := by
  have hsplit := split_at (l := c) (i := 0) hpos
  rw [List.drop_zero, Nat.zero_add] at hsplit
  exact congrArg dv hsplit
theorem refReadWide_core (F : Nat) (hF : Fuel F) {c : List Int} (h6 : Bt c) (h3 : c.length ≤ 37) (hpos : 0 < c.length) {at_ : Int} (ha0 : 0 ≤ at_ ∧ at_ ≤ 140737488355328) (hne : dv c ≠ 1) :
    ref05_ReadWide_j7 F (fun z45 z46 z47 => some (z45, (z46, (z47, ())))) at_ (false, ([0, 0, 0, 0], ())) c = some (if dv c < 2 * top256 then (toW (wu (dv c)), at_ + c.length, 0, ()) else (toW 0, 0, 5, ())) := by
  have h3' : (c.length : Int) ≤ 37 := by omega
  have hg0 := getD_all (P := fun x => 0 ≤ x ∧ x ≤ 255) h6 (by omega) (d := 0) 0
  have hgl : getL 0 c 0 = c.getD 0 0 := by rw [show (0 : Int) = ((0 : Nat) : Int) from rfl, getL_nat]
  have e1 := dv_cons hpos
  unfold ref05_ReadWide_j7
  have hz : (0 : Nat) < top256 := by decide
  obtain ⟨y, ok', g1, g2⟩ := refReadWide_loop F hF (x1 := at_) (x4 := (false, ([0, 0, 0, 0], ()))) h6 h3 (c.length - 1) (by omega) (false, ([0, 0, 0, 0], ())) true (by
    rw [show c.length - 1 + 1 = c.length by omega, List.drop_length]
    rw [if_pos (show dv [] < top256 from hz)]
    exact ⟨by rw [show dv [] = 0 from rfl]; exact toW_zero.symm, rfl⟩) F (by unfold Fuel at hF; omega)
  rw [show subI .i64 (lenI c) 1 = ((c.length - 1 : Nat) : Int) by show IntKind.wrap .i64 _ = _; rw [wrap_i64 (by unfold lenI; omega)]; unfold lenI; omega, g2]
  unfold ref05_ReadWide_j15
  by_cases c1 : dv (c.drop 1) < top256
  · rw [if_pos c1] at g1
    obtain ⟨g3, g4⟩ := g1
    subst g3 g4
    have es := ref05_shifted_eq F hF c1 (n := 64) (by omega) (y := (c.getD 0 0 % 128) / 2) (by omega) (by omega)
    have e3 : dv (c.drop 1) * (64 : Int).toNat + ((c.getD 0 0 % 128) / 2).toNat = dv c / 2 := by rw [e1, show (64 : Int).toNat = 64 from rfl]; omega
    rw [e3] at es
    have hq8 : quoI .u8 (c.getD 0 0 % 128) 2 = (c.getD 0 0 % 128) / 2 := by
      show IntKind.u8.wrap ((c.getD 0 0 % 128).tdiv 2) = _
      rw [Int.tdiv_eq_ediv_of_nonneg (by omega), wrap_u8 (by omega)]
    by_cases c2 : dv c < 2 * top256
    · rw [if_pos (by omega)] at es
      have hok := toW_ok (z := ((dv c / 2 : Nat) : Int)) (by omega)
      rw [if_pos c2]
      by_cases c3 : dv c % 2 = 1
      · simp (disch := omega) only [bs, ↓if_pos, ↓if_neg, hgl, hq8, wrap_u64, es, ref02_Neg_eq F hF hok, wi_toW]
        unfold wu
        rw [if_pos c3]
      · simp (disch := omega) only [bs, ↓if_pos, ↓if_neg, hgl, hq8, wrap_u64, es]
        unfold wu
        rw [if_neg c3]
    · rw [if_neg (by omega)] at es
      simp (disch := omega) only [bs, ↓if_pos, ↓if_neg, hgl, hq8, wrap_u64, es, toW_zero]
  · rw [if_neg c1] at g1
    subst g1
    simp (disch := omega) only [bs, ↓if_pos, ↓if_neg, toW_zero]
def rdv (c : List Int) (at_ : Int) : Int × Int × Int := if dv c < 2 * top256 ∧ dv c ≠ 1 then (wu (dv c), at_ + c.length, 0) else (0, 0, 5)
theorem refReadWide_core' (F : Nat) (hF : Fuel F) {c : List Int} (h6 : Bt c) (h3 : c.length ≤ 37) (hpos : 0 < c.length) {at_ : Int} (ha0 : 0 ≤ at_ ∧ at_ ≤ 140737488355328) (hne : dv c ≠ 1) :
    ref05_ReadWide_j7 F (fun z45 z46 z47 => some (z45, (z46, (z47, ())))) at_ (false, ([0, 0, 0, 0], ())) c = some (toW (rdv c at_).1, (rdv c at_).2.1, (rdv c at_).2.2, ()) := by
  rw [refReadWide_core F hF h6 h3 hpos ha0 hne]
  unfold rdv
  by_cases c2 : dv c < 2 * top256
  · rw [if_pos c2, if_pos ⟨c2, hne⟩]
  · rw [if_neg c2, if_neg (fun h => c2 h.1)]
theorem rdv_one {c : List Int} {at_ : Int} (h : dv c = 1) : rdv c at_ = (0, 0, 5) := by
  unfold rdv
  rw [if_neg (fun h2 => h2.2 h)]
theorem dv_single {c : List Int} (h4 : Grp c) (h6 : Bt c) (hlen : c.length = 1) : dv c = (lst c).toNat := by
  have hpos : 0 < c.length := by omega
  have hlst : lst c = c.getD 0 0 := by rw [← lst_getD c h4.ne, hlen]
  have hlt := h4.lst_lt
  have hr := lst_rng h6
  rw [dv_cons hpos, List.drop_eq_nil_of_le (by omega), ← hlst]
  simp only [dv]
  omega
theorem dv_long {c : List Int} (h4 : Grp c) (h6 : Bt c) (hlen : 1 < c.length) (hx0 : lst c ≠ 0) : dv c ≠ 1 := by
  have h := dv_lst h4 h6
  have hr := lst_rng h6
  have : (1 : Nat) * 128 ^ 1 ≤ (lst c).toNat * 128 ^ (c.length - 1) := Nat.mul_le_mul (by omega) (Nat.pow_le_pow_right (by omega) (by omega))
  omega
theorem ref05_ReadWide_ok (F : Nat) (hF : Fuel F) {b : List Int} (hb : Bt b) (hl : (b.length : Int) ≤ 140737488355328) (at_ : Int) (h0 : (gr 37 b at_).2 = 0) :
    ref05_ReadWide F b at_ = some (if lst (gr 37 b at_).1 = 0 ∧ 1 < (gr 37 b at_).1.length then (toW 0, 0, 5, ()) else (toW (rdv (gr 37 b at_).1 at_).1, (rdv (gr 37 b at_).1 at_).2.1, (rdv (gr 37 b at_).1 at_).2.2, ())) := by
  unfold ref05_ReadWide
  rw [show (37 : Int) = ((37 : Nat) : Int) from rfl, ref05_groups_eq F hF hl at_ (n := 37) (by omega)]
  obtain ⟨ha0, ha1, c, rest, h1, h2, h3, h4, h6⟩ := gr_ok hb h0
  rw [h1]
  have hpos : 0 < c.length := List.length_pos_iff.2 h4.ne
  have hlast : getL 0 c ((c.length : Int) - 1) = lst c := by rw [show (c.length : Int) - 1 = ((c.length - 1 : Nat) : Int) by omega, getL_nat, lst_getD c h4.ne]
  have h3' : (c.length : Int) ≤ 37 := by omega
  have core := fun h => refReadWide_core' F hF h6 h3 hpos (at_ := at_) (by omega) h
  clear h0 h1 h2 hb
  by_cases hx0 : lst c = 0
  · by_cases hc1 : 1 < c.length
    · rw [if_pos (show lst (c, (0 : Int)).1 = 0 ∧ 1 < (c, (0 : Int)).1.length from ⟨hx0, hc1⟩)]
      simp (disch := omega) only [bs, ↓if_pos, ↓if_neg, hlast]
      rw [toW_zero]
    · have hcore := core (by rw [dv_single h4 h6 (by omega), hx0]; simp)
      rw [if_neg (show ¬ (lst (c, (0 : Int)).1 = 0 ∧ 1 < (c, (0 : Int)).1.length) from fun h => hc1 h.2)]
      simp (disch := omega) only [bs, ↓if_pos, ↓if_neg, hlast]
      exact hcore
  · rw [if_neg (show ¬ (lst (c, (0 : Int)).1 = 0 ∧ 1 < (c, (0 : Int)).1.length) from fun h => hx0 h.1)]
    by_cases hlen : c.length = 1
    · by_cases h1 : lst c = 1
      · rw [rdv_one (by rw [dv_single h4 h6 hlen, h1]; rfl)]
        simp (disch := omega) only [bs, ↓if_pos, ↓if_neg, hlast]
        rw [toW_zero]
      · have hlt := lst_rng h6
        have hcore := core (by rw [dv_single h4 h6 hlen]; omega)
        simp (disch := omega) only [bs, ↓if_pos, ↓if_neg, hlast]
        exact hcore
    · have hcore := core (dv_long h4 h6 (by omega) hx0)
      simp (disch := omega) only [bs, ↓if_pos, ↓if_neg, hlast]
      exact hcore
theorem ref05_ReadWide_eq (F : Nat) (hF : Fuel F) {b : List Int} (hb : Bt b) (hl : (b.length : Int) ≤ 140737488355328) (at_ : Int) :
    ref05_ReadWide F b at_ = some (toW (rdw b at_).1, (rdw b at_).2.1, (rdw b at_).2.2, ()) := by
  unfold rdw
  rw [gp_gr hb]
  by_cases h0 : (gr 37 b at_).2 = 0
  · rw [ref05_ReadWide_ok F hF hb hl at_ h0]
    by_cases hc : lst (gr 37 b at_).1 = 0 ∧ 1 < (gr 37 b at_).1.length
    · rw [if_pos hc, if_pos (show (gr 37 b at_).2 = 0 ∧ lst (gr 37 b at_).1 = 0 ∧ 1 < (gr 37 b at_).1.length from ⟨h0, hc⟩), if_neg (by simp)]
    · rw [if_neg hc, if_neg (show ¬ ((gr 37 b at_).2 = 0 ∧ lst (gr 37 b at_).1 = 0 ∧ 1 < (gr 37 b at_).1.length) from fun h => hc h.2), if_pos h0]
      rfl
  · rw [if_neg (show ¬ ((gr 37 b at_).2 = 0 ∧ lst (gr 37 b at_).1 = 0 ∧ 1 < (gr 37 b at_).1.length) from fun h => h0 h.1), if_neg h0]
    unfold ref05_ReadWide
    rw [show (37 : Int) = ((37 : Nat) : Int) from rfl, ref05_groups_eq F hF hl at_ (n := 37) (by omega)]
    have : eqI (gr ((37 : Nat)) b at_).2 0 = false := by rw [← Bool.not_eq_true, eqI_true]; exact h0
    simp only [Option.bind_some, this, Bool.not_false, cond_true, toW_zero]
end Go.Proofs.YtfmjokmjaghehaaGreat
