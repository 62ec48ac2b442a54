
/- Layer 11: residuals, reading. -/
import Derived.Test.YtfmjokmjaghehaaGreatResid
set_option linter.unusedVariables false
set_option linter.unusedSimpArgs false
namespace Go.Proofs.YtfmjokmjaghehaaGreat
open Go.Eng
theorem Dec_fill (F : Nat) {R : Type} (k : List Int → Int → Int → List Int → Option R) (b : List Int) (at_ end_ : Int) {src : List Int} (hs : Wd src) (hb : (src.length : Int) ≤ 140737488355328) : ∀ (rest pre out z : List Int), src = pre ++ rest → out.length = pre.length → z.length = rest.length → ∀ N, rest.length < N →
    residual_Decode_l12 F k N b at_ end_ (out ++ z) src (src.length : Int) (pre.length : Int) = k b at_ end_ (out ++ us rest) := by
  intro rest
  induction rest with
  | nil =>
    intro pre out z he ho hz N hN
    obtain ⟨N, rfl⟩ : ∃ M, N = M + 1 := ⟨N - 1, by omega⟩
    have : z = [] := List.length_eq_zero_iff.1 hz
    subst this
    have hlen : src.length = pre.length := by rw [he]; simp
    unfold residual_Decode_l12
    simp (disch := omega) only [bs, ↓if_pos, ↓if_neg]
    rfl
  | cons x rest ih =>
    intro pre out z he ho hz N hN
    obtain ⟨N, rfl⟩ : ∃ M, N = M + 1 := ⟨N - 1, by omega⟩
    obtain ⟨y, z', rfl⟩ : ∃ y z', z = y :: z' := by
      cases z with
      | nil => simp at hz
      | cons y z' => exact ⟨y, z', rfl⟩
    simp only [List.length_cons] at hN hz
    have hlen : src.length = pre.length + 1 + rest.length := by rw [he]; simp; omega
    have g : getL 0 src (pre.length : Int) = x := by rw [he]; exact get_mid pre x rest
    have hx : 0 ≤ x ∧ x ≤ 18446744073709551615 := hs x (by rw [he]; simp)
    obtain ⟨v, rfl⟩ := Int.eq_ofNat_of_zero_le hx.1
    have hU := varint_Unzigzag_eq F (n := v) (by have : Int.ofNat v = (v : Int) := rfl; omega)
    have st : setL (out ++ y :: z') (pre.length : Int) (uz v) = (out ++ [uz v]) ++ z' := by rw [← ho]; exact set_mid out y _ z'
    have hol : (out ++ y :: z').length = pre.length + 1 + z'.length := by simp; omega
    have e := ih (pre ++ [(v : Int)]) (out ++ [uz v]) z' (by rw [he]; simp) (by simp [ho]) (by omega) N (by omega)
    have hpl : (((pre ++ [(v : Int)]).length : Nat) : Int) = (pre.length : Int) + 1 := by simp
    rw [hpl] at e
    have hz2 : out ++ [uz v] ++ us rest = out ++ us ((v : Int) :: rest) := by simp [us]
    rw [hz2] at e
    unfold residual_Decode_l12
    simp (disch := omega) only [bs, ↓if_pos, ↓if_neg, g, hU, st]
    exact e
theorem rE_small {l : List Int} (hl : Sg l) (hn : l.length ≤ 65536) : (rE l).length ≤ 524291 ∧ 0 < (rE l).length ∧ Bt (rE l) := by
  obtain ⟨n, h1, h2⟩ := rE_is l
  rw [h2]
  exact ⟨(rO_small hl hn).1, (rO_small hl hn).2, rO_bt h1 hl⟩
theorem rEe_ok {l : List Int} (hn : l.length ≤ 65536) : rEe l = (rE l, 0) := by unfold rEe; rw [if_neg (by omega)]
theorem rDecode_back (F : Nat) (hF : Fuel F) {l : List Int} (hS : Sg l) (hn : l.length ≤ 65536) {b rest : List Int} (hb : Bt b) (hr : Bt rest) (hl : ((b ++ (rE l ++ rest)).length : Int) ≤ 140737488355328) :
    residual_Decode F (b ++ (rE l ++ rest)) (b.length : Int) (l.length : Int) = some (l, (b.length : Int) + (rE l).length, 0, ()) := by
  obtain ⟨s1, s2, s3⟩ := rE_small hS hn
  have hcut : dropL (takeL (b ++ (rE l ++ rest)) ((b.length : Int) + ((rE l).length : Int))) (b.length : Int) = rE l := by
    unfold dropL takeL
    rw [show ((b.length : Int) + ((rE l).length : Int)).toNat = b.length + (rE l).length by omega, Int.toNat_natCast, ← List.append_assoc, List.take_left' (by simp), List.drop_left' rfl]
  obtain ⟨o, ho, hE⟩ := rE_is l
  have hzw := zs_Wd (dfn_Sg o hS)
  have hzl : (zs (dfn o l)).length = l.length := by rw [zs_length, dfn_length]
  have hcons : rE l = (o : Int) :: nE (zs (dfn o l)) := hE
  have hall : b ++ (rE l ++ rest) = (b ++ [(o : Int)]) ++ (nE (zs (dfn o l)) ++ rest) := by rw [hcons]; simp
  have hlen : (b ++ (rE l ++ rest)).length = b.length + ((rE l).length + rest.length) := by simp
  have hrl : (rE l).length = 1 + (nE (zs (dfn o l))).length := by rw [hcons]; simp; omega
  have hB := nDecode_back F hF hzw (by omega) (b := b ++ [(o : Int)]) (rest := rest) (hb.append (Bt.one (by omega))) hr (by rw [← hall]; exact hl)
  rw [← hall, hzl, show (((b ++ [(o : Int)]).length : Nat) : Int) = (b.length : Int) + 1 by simp, show (b.length : Int) + 1 + ((nE (zs (dfn o l))).length : Int) = (b.length : Int) + (rE l).length by omega] at hB
  have hg : getL 0 (b ++ (rE l ++ rest)) (b.length : Int) = (o : Int) := by rw [hcons]; exact get_mid b _ _
  have x1 : ltI (b.length : Int) 0 = false := by rw [← Bool.not_eq_true, ltI_true]; omega
  have x2 : ltI (lenI (b ++ (rE l ++ rest))) (b.length : Int) = false := by rw [← Bool.not_eq_true, ltI_true]; unfold lenI; omega
  have x3 : ltI (l.length : Int) 0 = false := by rw [← Bool.not_eq_true, ltI_true]; omega
  have x4 : ltI 65536 (l.length : Int) = false := by rw [← Bool.not_eq_true, ltI_true]; omega
  have x5 : eqI (b.length : Int) (lenI (b ++ (rE l ++ rest))) = false := by rw [← Bool.not_eq_true, eqI_true]; unfold lenI; omega
  have x6 : inI (b.length : Int) (b ++ (rE l ++ rest)).length = true := by rw [inI_true]; omega
  have x7 : ltI 2 (o : Int) = false := by rw [← Bool.not_eq_true, ltI_true]; omega
  have x8 : addI .i64 (b.length : Int) 1 = (b.length : Int) + 1 := addI_i64 (by omega)
  have f1 := fun (R : Type) (k : List Int → Int → Int → List Int → Option R) => Dec_fill F k (b ++ (rE l ++ rest)) (b.length : Int) ((b.length : Int) + (rE l).length) hzw (by omega) (zs (dfn o l)) [] [] (replI (l.length : Int) 0) rfl rfl (by rw [replI_length, hzl]) F (by unfold Fuel at hF; omega)
  rw [us_zs, hzl] at f1
  simp only [List.nil_append, List.length_nil, Int.natCast_zero] at f1
  have p1 : residual_repeats F (dfn o l) (IntKind.wrap .i64 (o : Int)) = some (l, ()) := by
    rw [wrap_i64 (by omega)]
    have := repeats_loop F hF (fun z => some (z, ())) ho o 0 (dfn o l) (by omega) (by rw [dfn_length]; omega) F (by unfold Fuel at hF; omega)
    rw [smn_dfn o hS] at this
    exact this
  have E1 := residual_Encode_eq F hF hS (by omega)
  rw [rEe_ok hn] at E1
  have y1 : makeB (l.length : Int) (l.length : Int) 8 = true := by rw [makeB_true]; omega
  have y2 : cutB (b.length : Int) ((b.length : Int) + (rE l).length) (b ++ (rE l ++ rest)).length = true := by rw [cutB_true]; omega
  have Q1 := slices_Equal_eq F hF (a := rE l) (b := rE l) (by omega)
  rw [decide_eq_true rfl] at Q1
  have z0 : eqI (0 : Int) 0 = true := rfl
  have hll : lenI (zs (dfn o l)) = (l.length : Int) := by unfold lenI; omega
  unfold residual_Decode residual_Decode_j2 residual_Decode_j12
  simp only [x1, x2, x3, x4, x5, x6, hg, x7, x8, cond_true, cond_false, hB, Option.bind_some, z0, Bool.not_true, y1, hll, f1, p1, E1, y2, hcut, Q1]
end Go.Proofs.YtfmjokmjaghehaaGreat
