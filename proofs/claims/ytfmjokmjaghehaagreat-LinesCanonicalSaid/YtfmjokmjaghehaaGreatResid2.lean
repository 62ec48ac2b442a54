
/- Layer 11: residuals, reading. -/
import Derived.Test.YtfmjokmjaghehaaGreatResid
set_option linter.unusedVariables false
set_option linter.unusedSimpArgs false
namespace Go.Proofs.YtfmjokmjaghehaaGreat
open Go.Eng
theorem Dec_fill (F : Nat) {R : Type} (k : List Int → Int → Int → List Int → Option R) (b : List Int) (at_ end_ : Int) {src : List Int} (hs : Wd src) (hb : (src.length : Int) ≤ 140737488355328) : ∀ (rest pre out z : List Int), src = pre ++ rest → out.length = pre.length → z.length = rest.length → ∀ N, rest.length < N →
    residual_Decode_l12 F k N b at_ end_ (out ++ z) src (src.length : Int) (pre.length : Int) = k b at_ end_ (out ++ us rest) := by
  intro rest
  induction rest with
  | nil =>
    intro pre out z he ho hz N hN
    obtain ⟨N, rfl⟩ : ∃ M, N = M + 1 := ⟨N - 1, by omega⟩
    have : z = [] := List.length_eq_zero_iff.1 hz
    subst this
    have hlen : src.length = pre.length := by rw [he]; simp
    unfold residual_Decode_l12
    simp (disch := omega) only [bs, ↓if_pos, ↓if_neg]
    rfl
  | cons x rest ih =>
    intro pre out z he ho hz N hN
    obtain ⟨N, rfl⟩ : ∃ M, N = M + 1 := ⟨N - 1, by omega⟩
    obtain ⟨y, z', rfl⟩ : ∃ y z', z = y :: z' := by
      cases z with
      | nil => simp at hz
      | cons y z' => exact ⟨y, z', rfl⟩
    simp only [List.length_cons] at hN hz
    have hlen : src.length = pre.length + 1 + rest.length := by rw [he]; simp; omega
    have g : getL 0 src (pre.length : Int) = x := by rw [he]; exact get_mid pre x rest
    have hx : 0 ≤ x ∧ x ≤ 18446744073709551615 := hs x (by rw [he]; simp)
    obtain ⟨v, rfl⟩ := Int.eq_ofNat_of_zero_le hx.1
    have hU := varint_Unzigzag_eq F (n := v) (by have : Int.ofNat v = (v : Int) := rfl; omega)
    have st : setL (out ++ y :: z') (pre.length : Int) (uz v) = (out ++ [uz v]) ++ z' := by rw [← ho]; exact set_mid out y _ z'
    have hol : (out ++ y :: z').length = pre.length + 1 + z'.length := by simp; omega
    have e := ih (pre ++ [(v : Int)]) (out ++ [uz v]) z' (by rw [he]; simp) (by simp [ho]) (by omega) N (by omega)
    have hpl : (((pre ++ [(v : Int)]).length : Nat) : Int) = (pre.length : Int) + 1 := by simp
    rw [hpl] at e
    have hz2 : out ++ [uz v] ++ us rest = out ++ us ((v : Int) :: rest) := by simp [us]
    rw [hz2] at e
    unfold residual_Decode_l12
    simp (disch := omega) only [bs, ↓if_pos, ↓if_neg, g, hU, st]
    exact e
theorem rDec_fill (F : Nat) {R : Type} (k : List Int → Int → Int → List Int → Option R) (b : List Int) (at_ end_ : Int) {src : List Int} (hs : Wd src) (hb : (src.length : Int) ≤ 140737488355328) : ∀ (rest pre out z : List Int), src = pre ++ rest → out.length = pre.length → z.length = rest.length → ∀ N, rest.length < N →
    ref11_Decode_l12 F k N b at_ (src.length : Int) src end_ (out ++ z) (pre.length : Int) = k b at_ end_ (out ++ us rest) := by
  intro rest
  induction rest with
  | nil =>
    intro pre out z he ho hz N hN
    obtain ⟨N, rfl⟩ : ∃ M, N = M + 1 := ⟨N - 1, by omega⟩
    have : z = [] := List.length_eq_zero_iff.1 hz
    subst this
    have hlen : src.length = pre.length := by rw [he]; simp
    unfold ref11_Decode_l12
    simp (disch := omega) only [bs, ↓if_pos, ↓if_neg]
    rfl
  | cons x rest ih =>
    intro pre out z he ho hz N hN
    obtain ⟨N, rfl⟩ : ∃ M, N = M + 1 := ⟨N - 1, by omega⟩
    obtain ⟨y, z', rfl⟩ : ∃ y z', z = y :: z' := by
      cases z with
      | nil => simp at hz
      | cons y z' => exact ⟨y, z', rfl⟩
    simp only [List.length_cons] at hN hz
    have hlen : src.length = pre.length + 1 + rest.length := by rw [he]; simp; omega
    have g : getL 0 src (pre.length : Int) = x := by rw [he]; exact get_mid pre x rest
    have hx : 0 ≤ x ∧ x ≤ 18446744073709551615 := hs x (by rw [he]; simp)
    obtain ⟨v, rfl⟩ := Int.eq_ofNat_of_zero_le hx.1
    have hU := ref05_Unzigzag_eq F (n := v) (by have : Int.ofNat v = (v : Int) := rfl; omega)
    have st : setL (out ++ y :: z') (pre.length : Int) (uz v) = (out ++ [uz v]) ++ z' := by rw [← ho]; exact set_mid out y _ z'
    have hol : (out ++ y :: z').length = pre.length + 1 + z'.length := by simp; omega
    have e := ih (pre ++ [(v : Int)]) (out ++ [uz v]) z' (by rw [he]; simp) (by simp [ho]) (by omega) N (by omega)
    have hpl : (((pre ++ [(v : Int)]).length : Nat) : Int) = (pre.length : Int) + 1 := by simp
    rw [hpl] at e
    have hz2 : out ++ [uz v] ++ us rest = out ++ us ((v : Int) :: rest) := by simp [us]
    rw [hz2] at e
    unfold ref11_Decode_l12
    simp (disch := omega) only [bs, ↓if_pos, ↓if_neg, g, hU, st]
    exact e
theorem rsum_loop (F : Nat) {R : Type} (k : List Int → Option R) {src : List Int} (hb : (src.length : Int) ≤ 17592186043904) : ∀ (rest pre out : List Int) (p : Int), src = pre ++ rest → out.length + 1 = pre.length → ∀ N, rest.length < N →
    ref11_sums_l3 F k N src (out ++ [p]) (pre.length : Int) = k (out ++ [p] ++ sms p rest) := by
  intro rest
  induction rest with
  | nil =>
    intro pre out p he ho N hN
    obtain ⟨N, rfl⟩ : ∃ M, N = M + 1 := ⟨N - 1, by omega⟩
    have hlen : src.length = pre.length := by rw [he]; simp
    unfold ref11_sums_l3
    simp (disch := omega) only [bs, ↓if_pos, ↓if_neg]
    simp [sms]
  | cons x rest ih =>
    intro pre out p he ho N hN
    obtain ⟨N, rfl⟩ : ∃ M, N = M + 1 := ⟨N - 1, by omega⟩
    simp only [List.length_cons] at hN
    have hlen : src.length = pre.length + 1 + rest.length := by rw [he]; simp; omega
    have g1 : getL 0 src (pre.length : Int) = x := by rw [he]; exact get_mid pre x rest
    have g0 : getL 0 (out ++ [p]) ((pre.length : Int) - 1) = p := by
      rw [show (pre.length : Int) - 1 = (out.length : Int) by omega]
      exact getL_snoc out p
    have e := ih (pre ++ [x]) (out ++ [p]) (IntKind.i64.wrap (p + x)) (by rw [he]; simp) (by simp; omega) N (by omega)
    rw [show (((pre ++ [x]).length : Nat) : Int) = (pre.length : Int) + 1 by simp] at e
    have hfin : out ++ [p] ++ [IntKind.i64.wrap (p + x)] ++ sms (IntKind.i64.wrap (p + x)) rest = out ++ [p] ++ sms p (x :: rest) := by simp [sms]
    rw [hfin] at e
    have hol : (out ++ [p]).length = pre.length := by simp; omega
    have hw := apply_wrap p x
    unfold ref11_sums_l3 ref01_Apply
    simp (disch := omega) only [bs, ↓if_pos, ↓if_neg, g0, g1, hw]
    exact e
theorem ref11_sums_eq (F : Nat) (hF : Fuel F) {l : List Int} (hb : (l.length : Int) ≤ 17592186043904) : ref11_sums F l = some (sm l, ()) := by
  unfold ref11_sums
  obtain ⟨G, hG⟩ : ∃ G, F = G + 1 := ⟨F - 1, by unfold Fuel at hF; omega⟩
  cases l with
  | nil =>
    rw [hG]
    unfold ref11_sums_l3
    simp (disch := omega) only [bs, ↓if_pos, ↓if_neg]
    rfl
  | cons x t =>
    have e := rsum_loop F (fun z => some (z, ())) hb t [x] [] x rfl rfl G (by unfold Fuel at hF; simp at hb; omega)
    have hll : (x :: t).length = t.length + 1 := rfl
    have g : getL 0 (x :: t) 0 = x := rfl
    have step : ref11_sums_l3 F (fun z => some (z, ())) (G + 1) (x :: t) [] 0 = ref11_sums_l3 F (fun z => some (z, ())) G (x :: t) [x] 1 := by
      have r1 : roomB (([] : List Int).length + 1) 8 = true := rfl
      conv => lhs; unfold ref11_sums_l3
      generalize x :: t = l at *
      simp only [r1, cond_true]
      simp (disch := omega) only [bs, ↓if_pos, ↓if_neg, g, List.nil_append]
      rfl
    have hFG : ref11_sums_l3 F (fun z => some (z, ())) F (x :: t) [] 0 = ref11_sums_l3 F (fun z => some (z, ())) (G + 1) (x :: t) [] 0 := by rw [← hG]
    rw [hFG, step]
    exact e
theorem rSum_rep (F : Nat) (hF : Fuel F) {R : Type} (k : List Int → Int → Int → List Int → Option R) {b : List Int} {at_ : Int} (end_ : Int) (hat : inI at_ b.length = true) {o : Nat} (ho : o ≤ 2) (hg : getL 0 b at_ = (o : Int)) : ∀ (m i : Nat) (l : List Int), i + m = o → (l.length : Int) ≤ 17592186043904 → ∀ N, m < N →
    ref11_Decode_l16 F k N b at_ end_ l (i : Int) = k b at_ end_ (smn m l) := by
  have hw : IntKind.wrap .i64 (o : Int) = (o : Int) := wrap_i64 (by omega)
  intro m
  induction m with
  | zero =>
    intro i l hi hb N hN
    obtain ⟨N, rfl⟩ : ∃ M, N = M + 1 := ⟨N - 1, by omega⟩
    unfold ref11_Decode_l16
    rw [hat, cond_true, hg, hw]
    simp (disch := omega) only [bs, ↓if_pos, ↓if_neg]
    rfl
  | succ m ih =>
    intro i l hi hb N hN
    obtain ⟨N, rfl⟩ : ∃ M, N = M + 1 := ⟨N - 1, by omega⟩
    have e := ih (i + 1) (sm l) (by omega) (by rw [sm_length]; exact hb) N (by omega)
    simp only [Int.natCast_add, Int.natCast_one] at e
    unfold ref11_Decode_l16
    rw [hat, cond_true, hg, hw]
    simp (disch := omega) only [bs, ↓if_pos, ↓if_neg, ref11_sums_eq F hF hb]
    exact e
def ReadR (b : List Int) (at_ n : Int) (x : List Int) (end_ e : Int) : Prop :=
  Sg x ∧ (e = 0 → 0 ≤ at_ ∧ (x.length : Int) = n ∧ n ≤ 65536 ∧ at_ < end_ ∧ end_ ≤ b.length ∧ rE x = dropL (takeL b end_) at_) ∧ (e ≠ 0 → x = [] ∧ end_ = 0)
theorem ReadR.err (b : List Int) (at_ n : Int) {e : Int} (h : e ≠ 0) : ReadR b at_ n [] 0 e := ⟨Sg.nil, fun h2 => absurd h2 h, fun _ => ⟨rfl, rfl⟩⟩
theorem rE_small {l : List Int} (hl : Sg l) (hn : l.length ≤ 65536) : (rE l).length ≤ 524291 ∧ 0 < (rE l).length ∧ Bt (rE l) := by
  obtain ⟨n, h1, h2⟩ := rE_is l
  rw [h2]
  exact ⟨(rO_small hl hn).1, (rO_small hl hn).2, rO_bt h1 hl⟩
theorem rEe_ok {l : List Int} (hn : l.length ≤ 65536) : rEe l = (rE l, 0) := by unfold rEe; rw [if_neg (by omega)]
theorem rDecode (F : Nat) (hF : Fuel F) {b : List Int} (hb : Bt b) (hl : (b.length : Int) ≤ 140737488355328) (at_ n : Int) :
    ∃ x end_ e, residual_Decode F b at_ n = some (x, end_, e, ()) ∧ ref11_Decode F b at_ n = some (x, end_, e, ()) ∧ ReadR b at_ n x end_ e := by
  by_cases c : at_ < 0 ∨ (b.length : Int) < at_ ∨ n < 0 ∨ 65536 < n
  · refine ⟨[], 0, 2, ?_, ?_, ReadR.err _ _ _ (by omega)⟩
    · unfold residual_Decode
      cases h1 : ltI at_ 0 with
      | true => rfl
      | false =>
        cases h2 : ltI (lenI b) at_ with
        | true => rfl
        | false =>
          cases h3 : ltI n 0 with
          | true => rfl
          | false =>
            cases h4 : ltI 65536 n with
            | true => rfl
            | false =>
              rw [← Bool.not_eq_true, ltI_true] at h1 h2 h3 h4
              unfold lenI at h2
              omega
    · unfold ref11_Decode
      cases h1 : ltI at_ 0 with
      | true => rfl
      | false =>
        cases h2 : ltI (lenI b) at_ with
        | true => rfl
        | false =>
          cases h3 : ltI n 0 with
          | true => rfl
          | false =>
            cases h4 : ltI 65536 n with
            | true => rfl
            | false =>
              rw [← Bool.not_eq_true, ltI_true] at h1 h2 h3 h4
              unfold lenI at h2
              omega
  · obtain ⟨m, rfl⟩ := Int.eq_ofNat_of_zero_le (show 0 ≤ n by omega)
    have hm : m ≤ 65536 := by
      have : Int.ofNat m = (m : Int) := rfl
      omega
    have x1 : ltI at_ 0 = false := by rw [← Bool.not_eq_true, ltI_true]; omega
    have x2 : ltI (lenI b) at_ = false := by rw [← Bool.not_eq_true, ltI_true]; unfold lenI; omega
    have x3 : ltI (m : Int) 0 = false := by rw [← Bool.not_eq_true, ltI_true]; omega
    have x4 : ltI 65536 (m : Int) = false := by rw [← Bool.not_eq_true, ltI_true]; omega
    by_cases c0 : at_ = b.length
    · have x5 : eqI at_ (lenI b) = true := by rw [eqI_true]; unfold lenI; omega
      refine ⟨[], 0, 4, ?_, ?_, ReadR.err _ _ _ (by omega)⟩
      · unfold residual_Decode residual_Decode_j2
        simp only [x1, x2, x3, x4, x5, cond_true, cond_false]
      · unfold ref11_Decode
        simp only [x1, x2, x3, x4, x5, cond_true, cond_false]
    · have x5 : eqI at_ (lenI b) = false := by rw [← Bool.not_eq_true, eqI_true]; unfold lenI; omega
      have x6 : inI at_ b.length = true := by rw [inI_true]; omega
      have hw := hb.get at_
      obtain ⟨o, hg⟩ := Int.eq_ofNat_of_zero_le hw.1
      have hg : getL 0 b at_ = (o : Int) := hg
      by_cases c1 : 2 < o
      · have x7 : ltI 2 (o : Int) = true := by rw [ltI_true]; omega
        refine ⟨[], 0, 5, ?_, ?_, ReadR.err _ _ _ (by omega)⟩
        · unfold residual_Decode residual_Decode_j2
          simp only [x1, x2, x3, x4, x5, x6, hg, x7, cond_true, cond_false]
        · unfold ref11_Decode
          simp only [x1, x2, x3, x4, x5, x6, hg, x7, cond_true, cond_false]
      · have x7 : ltI 2 (o : Int) = false := by rw [← Bool.not_eq_true, ltI_true]; omega
        have x8 : addI .i64 at_ 1 = at_ + 1 := addI_i64 (by omega)
        obtain ⟨l, end_, e, d1, d2, d3, d4, d5⟩ := nDecode F hF hb hl (at_ + 1) (m : Int)
        by_cases ce : e = 0
        · subst ce
          obtain ⟨g1, g2, g3, g4, g5, g6⟩ := d4 rfl
          have hlm : l.length = m := by omega
          have hS : Sg (smn o (us l)) := smn_Sg o (us_Sg d3)
          have hLen : (smn o (us l)).length = m := by rw [smn_length, us_length, hlm]
          have f1 := fun (R : Type) (k : List Int → Int → Int → List Int → Option R) => Dec_fill F k b at_ end_ d3 (by omega) l [] [] (replI (m : Int) 0) rfl rfl (by rw [replI_length, hlm]) F (by unfold Fuel at hF; omega)
          have f2 := fun (R : Type) (k : List Int → Int → Int → List Int → Option R) => rDec_fill F k b at_ end_ d3 (by omega) l [] [] (replI (m : Int) 0) rfl rfl (by rw [replI_length, hlm]) F (by unfold Fuel at hF; omega)
          have p1 : residual_repeats F (us l) (IntKind.wrap .i64 (o : Int)) = some (smn o (us l), ()) := by
            rw [wrap_i64 (by omega)]
            exact repeats_loop F hF _ (by omega) o 0 (us l) (by omega) (by rw [us_length]; omega) F (by unfold Fuel at hF; omega)
          have p2 := fun (R : Type) (k : List Int → Int → Int → List Int → Option R) => rSum_rep F hF k end_ x6 (o := o) (by omega) hg o 0 (us l) (by omega) (by rw [us_length]; omega) F (by unfold Fuel at hF; omega)
          have E1 := residual_Encode_eq F hF hS (by omega)
          have E2 := ref11_Encode_eq F hF hS (by omega)
          rw [rEe_ok (by omega)] at E1 E2
          obtain ⟨s1, s2, s3⟩ := rE_small hS (by omega)
          have y1 : makeB (m : Int) (m : Int) 8 = true := by rw [makeB_true]; omega
          have y2 : cutB at_ end_ b.length = true := by rw [cutB_true]; omega
          have Q1 := slices_Equal_eq F hF (a := rE (smn o (us l))) (b := dropL (takeL b end_) at_) (by omega)
          have Q2 := ref06_Same_eq F hF (a := rE (smn o (us l))) (b := dropL (takeL b end_) at_) (by omega)
          have z0 : eqI (0 : Int) 0 = true := rfl
          rw [hlm] at f1 f2
          simp only [List.nil_append, List.length_nil, Int.natCast_zero] at f1 f2
          simp only [Int.natCast_zero] at p2
          by_cases cd : rE (smn o (us l)) = dropL (takeL b end_) at_
          · rw [decide_eq_true cd] at Q1 Q2
            refine ⟨smn o (us l), end_, 0, ?_, ?_, hS, fun _ => ⟨by omega, by omega, by omega, by omega, by omega, cd⟩, fun h => absurd rfl h⟩
            · unfold residual_Decode residual_Decode_j2 residual_Decode_j12
              simp only [x1, x2, x3, x4, x5, x6, hg, x7, x8, cond_true, cond_false, d1, Option.bind_some, z0, Bool.not_true, y1, show lenI l = (m : Int) by unfold lenI; omega, f1, p1, E1, y2, Q1]
            · unfold ref11_Decode
              simp only [x1, x2, x3, x4, x5, x6, hg, x7, x8, cond_true, cond_false, d2, Option.bind_some, z0, Bool.not_true, y1, f2, p2, E2, y2, Q2]
          · rw [decide_eq_false cd] at Q1 Q2
            refine ⟨[], 0, 5, ?_, ?_, ReadR.err _ _ _ (by omega)⟩
            · unfold residual_Decode residual_Decode_j2 residual_Decode_j12
              simp only [x1, x2, x3, x4, x5, x6, hg, x7, x8, cond_true, cond_false, d1, Option.bind_some, z0, Bool.not_true, Bool.not_false, y1, show lenI l = (m : Int) by unfold lenI; omega, f1, p1, E1, y2, Q1]
            · unfold ref11_Decode
              simp only [x1, x2, x3, x4, x5, x6, hg, x7, x8, cond_true, cond_false, d2, Option.bind_some, z0, Bool.not_true, Bool.not_false, y1, f2, p2, E2, y2, Q2]
        · have y0 : eqI e 0 = false := by rw [← Bool.not_eq_true, eqI_true]; exact ce
          refine ⟨[], 0, e, ?_, ?_, ReadR.err _ _ _ ce⟩
          · unfold residual_Decode residual_Decode_j2
            simp only [x1, x2, x3, x4, x5, x6, hg, x7, x8, cond_true, cond_false, d1, Option.bind_some, y0, Bool.not_false]
          · unfold ref11_Decode
            simp only [x1, x2, x3, x4, x5, x6, hg, x7, x8, cond_true, cond_false, d2, Option.bind_some, y0, Bool.not_false]
end Go.Proofs.YtfmjokmjaghehaaGreat
