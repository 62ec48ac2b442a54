
/- Layer 9: numbers, reading. -/
import Derived.Test.YtfmjokmjaghehaaGreatNine2
set_option linter.unusedVariables false
set_option linter.unusedSimpArgs false
namespace Go.Proofs.YtfmjokmjaghehaaGreat
open Go.Eng
theorem Equal_loop (F : Nat) {R : Type} (k0 : Option R) (kr : Bool → Option R) {a b : List Int} (hl : a.length = b.length) (hb : (a.length : Int) ≤ 9223372036854775806) : ∀ (m i : Nat), i + m = a.length → ∀ N, m < N →
    slices_Equal_byte_l4 F k0 kr N a b (a.length : Int) i = if a.drop i = b.drop i then k0 else kr false := by
  intro m
  induction m with
  | zero =>
    intro i hi N hN
    obtain ⟨N, rfl⟩ : ∃ M, N = M + 1 := ⟨N - 1, by omega⟩
    rw [if_pos (by rw [List.drop_eq_nil_of_le (by omega), List.drop_eq_nil_of_le (by omega)])]
    unfold slices_Equal_byte_l4
    simp (disch := omega) only [bs, ↓if_pos, ↓if_neg]
  | succ m ih =>
    intro i hi N hN
    obtain ⟨N, rfl⟩ : ∃ M, N = M + 1 := ⟨N - 1, by omega⟩
    have h1 := ih (i + 1) (by omega) N (by omega)
    have ea : a.drop i = getL 0 a (i : Int) :: a.drop (i + 1) := by
      rw [List.drop_eq_getElem_cons (by omega)]; simp [getL, List.getD_eq_getElem?_getD, show i < a.length by omega]
    have eb : b.drop i = getL 0 b (i : Int) :: b.drop (i + 1) := by
      rw [List.drop_eq_getElem_cons (by omega)]; simp [getL, List.getD_eq_getElem?_getD, show i < b.length by omega]
    unfold slices_Equal_byte_l4
    by_cases hc : getL 0 a (i : Int) = getL 0 b (i : Int)
    · simp (disch := omega) only [bs, ↓if_pos, ↓if_neg]
      refine Eq.trans h1 ?_
      rw [ea, eb, hc]
      simp
    · simp (disch := omega) only [bs, ↓if_pos, ↓if_neg]
      rw [ea, eb, if_neg]
      intro h
      exact hc (by simpa using (List.cons.inj h).1)
theorem slices_Equal_eq (F : Nat) (hF : Fuel F) {a b : List Int} (hb : (a.length : Int) ≤ 140737488355328) : slices_Equal_byte F a b = some (decide (a = b), ()) := by
  unfold Fuel at hF
  unfold slices_Equal_byte
  by_cases hl : a.length = b.length
  · simp (disch := omega) only [bs, ↓if_pos, ↓if_neg]
    refine Eq.trans (Equal_loop F _ _ hl (by omega) a.length 0 (by omega) F (by omega)) ?_
    simp only [List.drop_zero]
    by_cases h : a = b
    · simp [h]
    · simp [h]
  · simp (disch := omega) only [bs, ↓if_pos, ↓if_neg]
    have : a ≠ b := fun h => hl (by rw [h])
    simp [this]
theorem Unpack_same2 (F : Nat) (hF : Fuel F) {b : List Int} (hb : Bt b) (n w : Int) : ∃ out ok, bitpack_Unpack F b n w = some (out, ok, ()) ∧ ref08_Unpack F b n w = some (out, ok, ()) ∧ Wd out ∧ (ok = true → (out.length : Int) = n) ∧ (ok = false → out = []) := by
  by_cases h : size8 n w = b.length
  · have h0 : ¬ (n < 0 ∨ 65536 < n ∨ w < 0 ∨ 64 < w) := fun h0 => by rw [size8_neg h0] at h; omega
    obtain ⟨n, rfl⟩ : ∃ k : Nat, n = (k : Int) := ⟨n.toNat, by omega⟩
    obtain ⟨w, rfl⟩ : ∃ k : Nat, w = (k : Int) := ⟨w.toNat, by omega⟩
    rw [size8_nat (by omega) (by omega)] at h
    obtain ⟨x, hx, x1, x2⟩ := bitpack_Unpack_ok F hF hb (n := n) (w := w) (by omega) (by omega) (by omega)
    obtain ⟨y, hy, y1, y2⟩ := ref08_Unpack_ok F hF hb (n := n) (w := w) (by omega) (by omega) (by omega)
    have := hx.eq hy
    subst this
    by_cases hc : Clean b (n * w)
    · exact ⟨x, true, x1 hc, y1 hc, hx.1, fun _ => by rw [hx.2.1], (fun h => by cases h)⟩
    · exact ⟨[], false, x2 hc, y2 hc, Wd.nil, (fun h => by cases h), fun _ => rfl⟩
  · exact ⟨[], false, bitpack_Unpack_bad F h, ref08_Unpack_bad F h, Wd.nil, (fun h => by cases h), fun _ => rfl⟩
theorem packed_same (F : Nat) (hF : Fuel F) {b : List Int} (hb : Bt b) (hl : (b.length : Int) ≤ 140737488355328) {n at_ : Int} (hn : 0 ≤ n ∧ n ≤ 65536) (ha : 0 ≤ at_ ∧ at_ ≤ b.length) :
    ∃ l end_ e, numbers_packed F b at_ n = some (l, end_, e, ()) ∧ ref09_packed F b at_ n = some (l, end_, e, ()) ∧ Wd l ∧ (e = 0 → (l.length : Int) = n ∧ at_ < end_ ∧ end_ ≤ b.length) ∧ (e ≠ 0 → l = [] ∧ end_ = 0) := by
  unfold numbers_packed ref09_packed
  by_cases c0 : at_ = b.length
  · refine ⟨[], 0, 4, ?_, ?_, Wd.nil, fun h => by simp at h, fun _ => ⟨rfl, rfl⟩⟩
    · simp (disch := omega) only [bs, ↓if_pos, ↓if_neg]
    · simp (disch := omega) only [bs, ↓if_pos, ↓if_neg]
  · have hw := hb.get at_
    generalize getL 0 b at_ = w at *
    by_cases c1 : 64 < w
    · refine ⟨[], 0, 5, ?_, ?_, Wd.nil, fun h => by simp at h, fun _ => ⟨rfl, rfl⟩⟩
      · simp (disch := omega) only [bs, ↓if_pos, ↓if_neg]
      · simp (disch := omega) only [bs, ↓if_pos, ↓if_neg, wrap_i64]
    · have hs : 0 ≤ size8 n w ∧ size8 n w ≤ 524288 := by
        unfold size8
        rw [if_neg (by omega)]
        have := mul_rng (n := n) (w := w) (by omega) (by omega) (by omega) (by omega)
        omega
      have hS1 := bitpack_Bytes_eq F n w
      have hS2 := ref08_Bytes_eq F n w
      generalize size8 n w = s at *
      by_cases c2 : (b.length : Int) - (at_ + 1) < s
      · refine ⟨[], 0, 4, ?_, ?_, Wd.nil, fun h => by simp at h, fun _ => ⟨rfl, rfl⟩⟩
        · simp (disch := omega) only [bs, ↓if_pos, ↓if_neg, wrap_i64, hS1]
        · simp (disch := omega) only [bs, ↓if_pos, ↓if_neg, wrap_i64, hS2]
      · obtain ⟨out, ok, u1, u2, u3, u4, u5⟩ := Unpack_same2 F hF (b := dropL (takeL b (at_ + 1 + s)) (at_ + 1)) (Bt.drop (Bt.take hb _) _) n w
        cases ok with
        | true =>
          refine ⟨out, at_ + 1 + s, 0, ?_, ?_, u3, fun _ => ⟨u4 rfl, by omega, by omega⟩, fun h => absurd rfl h⟩
          · simp (disch := omega) only [bs, ↓if_pos, ↓if_neg, wrap_i64, hS1, u1]
          · simp (disch := omega) only [bs, ↓if_pos, ↓if_neg, wrap_i64, hS2, u2]
        | false =>
          refine ⟨[], 0, 5, ?_, ?_, Wd.nil, fun h => by simp at h, fun _ => ⟨rfl, rfl⟩⟩
          · simp (disch := omega) only [bs, ↓if_pos, ↓if_neg, wrap_i64, hS1, u1]
          · simp (disch := omega) only [bs, ↓if_pos, ↓if_neg, wrap_i64, hS2, u2]
def fit9 (b : List Int) (at_ : Int) (l : List Int) (end_ e : Int) : List Int × Int × Int := if e = 0 then (if nE l = dropL (takeL b end_) at_ then (l, end_, 0) else ([], 0, 5)) else ([], 0, e)
theorem fit9_prog (F : Nat) (hF : Fuel F) {b : List Int} {at_ : Int} {l : List Int} {end_ e : Int} (ha : 0 ≤ at_) (hw : Wd l) (h : e = 0 → l.length ≤ 65536 ∧ at_ ≤ end_ ∧ end_ ≤ b.length) :
    (bif not (eqI e 0) then some (([] : List Int), ((0 : Int), (e, ()))) else
      (numbers_Encode F l).bind fun r14 => bif not (eqI r14.2.1 0) then some ([], (0, (5, ()))) else
        bif cutB at_ end_ (List.length b) then (slices_Equal_byte F r14.1 (dropL (takeL b end_) at_)).bind fun r17 => bif not r17.1 then some ([], (0, (5, ()))) else some (l, (end_, (0, ()))) else none)
      = some ((fit9 b at_ l end_ e).1, (fit9 b at_ l end_ e).2.1, (fit9 b at_ l end_ e).2.2, ()) := by
  unfold fit9
  by_cases c : e = 0
  · obtain ⟨h1, h2, h3⟩ := h c
    have hs := nE_small hw h1
    have hq := slices_Equal_eq F hF (a := nE l) (b := dropL (takeL b end_) at_) (by omega)
    rw [if_pos c]
    by_cases d : nE l = dropL (takeL b end_) at_
    · rw [decide_eq_true d] at hq
      rw [if_pos d]
      simp (disch := omega) only [bs, ↓if_pos, ↓if_neg, numbers_Encode_eq F hF hw h1, hq]
    · rw [decide_eq_false d] at hq
      rw [if_neg d]
      simp (disch := omega) only [bs, ↓if_pos, ↓if_neg, numbers_Encode_eq F hF hw h1, hq]
  · rw [if_neg c]
    simp (disch := omega) only [bs, ↓if_pos, ↓if_neg]
theorem fit9_ref (F : Nat) (hF : Fuel F) {b : List Int} {at_ : Int} {l : List Int} {end_ e : Int} (ha : 0 ≤ at_) (hw : Wd l) (h : e = 0 → l.length ≤ 65536 ∧ at_ ≤ end_ ∧ end_ ≤ b.length) :
    (bif not (eqI e 0) then some (([] : List Int), ((0 : Int), (e, ()))) else
      (ref09_Encode F l).bind fun r14 =>
        bif cutB at_ end_ (List.length b) then (ref06_Same F r14.1 (dropL (takeL b end_) at_)).bind fun r17 => bif not r17.1 then some ([], (0, (5, ()))) else some (l, (end_, (0, ()))) else none)
      = some ((fit9 b at_ l end_ e).1, (fit9 b at_ l end_ e).2.1, (fit9 b at_ l end_ e).2.2, ()) := by
  unfold fit9
  by_cases c : e = 0
  · obtain ⟨h1, h2, h3⟩ := h c
    have hs := nE_small hw h1
    have hq := ref06_Same_eq F hF (a := nE l) (b := dropL (takeL b end_) at_) (by omega)
    rw [if_pos c]
    by_cases d : nE l = dropL (takeL b end_) at_
    · rw [decide_eq_true d] at hq
      rw [if_pos d]
      simp (disch := omega) only [bs, ↓if_pos, ↓if_neg, ref09_Encode_eq F hF hw h1, hq]
    · rw [decide_eq_false d] at hq
      rw [if_neg d]
      simp (disch := omega) only [bs, ↓if_pos, ↓if_neg, ref09_Encode_eq F hF hw h1, hq]
  · rw [if_neg c]
    simp (disch := omega) only [bs, ↓if_pos, ↓if_neg]
def Read9 (b : List Int) (at_ n : Int) (l : List Int) (end_ e : Int) : Prop :=
  Wd l ∧ (e = 0 → 0 ≤ at_ ∧ (l.length : Int) = n ∧ n ≤ 65536 ∧ at_ < end_ ∧ end_ ≤ b.length ∧ nE l = dropL (takeL b end_) at_) ∧ (e ≠ 0 → l = [] ∧ end_ = 0)
theorem plR_ok {b : List Int} (hb : Bt b) {n : Nat} {at_ : Int} (ha : 0 ≤ at_ ∧ at_ ≤ b.length) : Wd (plR n b at_).1 ∧ ((plR n b at_).2.2 = 0 → (plR n b at_).1.length = n ∧ at_ ≤ (plR n b at_).2.1 ∧ (plR n b at_).2.1 ≤ b.length) := by
  unfold plR
  by_cases c : (rdn n b at_).2.2 = 0
  · rw [if_pos c]
    obtain ⟨h1, h2, h3, h4, _⟩ := rdn_ok hb ha.1 ha.2 c
    exact ⟨h4, fun _ => ⟨h3, h1, h2⟩⟩
  · rw [if_neg c]
    exact ⟨Wd.nil, fun h => absurd h c⟩
theorem fit9_read {b : List Int} {at_ n : Int} {l : List Int} {end_ e : Int} (ha : 0 ≤ at_) (hn : n ≤ 65536) (hw : Wd l) (h : e = 0 → (l.length : Int) = n ∧ at_ < end_ ∧ end_ ≤ b.length) :
    Read9 b at_ n (fit9 b at_ l end_ e).1 (fit9 b at_ l end_ e).2.1 (fit9 b at_ l end_ e).2.2 := by
  unfold fit9 Read9
  by_cases c : e = 0
  · rw [if_pos c]
    by_cases d : nE l = dropL (takeL b end_) at_
    · rw [if_pos d]
      have := h c
      exact ⟨hw, fun _ => ⟨ha, this.1, hn, this.2.1, this.2.2, d⟩, fun h => absurd rfl h⟩
    · rw [if_neg d]
      exact ⟨Wd.nil, fun h => by simp at h, fun _ => ⟨rfl, rfl⟩⟩
  · rw [if_neg c]
    exact ⟨Wd.nil, fun h => absurd h c, fun _ => ⟨rfl, rfl⟩⟩
theorem Read9.err (b : List Int) (at_ n : Int) {e : Int} (h : e ≠ 0) : Read9 b at_ n [] 0 e := ⟨Wd.nil, fun h2 => absurd h2 h, fun _ => ⟨rfl, rfl⟩⟩
theorem nDecode (F : Nat) (hF : Fuel F) {b : List Int} (hb : Bt b) (hl : (b.length : Int) ≤ 140737488355328) (at_ n : Int) :
    ∃ l end_ e, numbers_Decode F b at_ n = some (l, end_, e, ()) ∧ ref09_Decode F b at_ n = some (l, end_, e, ()) ∧ Read9 b at_ n l end_ e := by
  by_cases c : at_ < 0 ∨ (b.length : Int) < at_ ∨ n < 0 ∨ 65536 < n
  · refine ⟨[], 0, 2, ?_, ?_, Read9.err _ _ _ (by omega)⟩
    · unfold numbers_Decode
      cases h1 : ltI at_ 0 with
      | true => rfl
      | false =>
        cases h2 : ltI (lenI b) at_ with
        | true => rfl
        | false =>
          cases h3 : ltI n 0 with
          | true => rfl
          | false =>
            cases h4 : ltI 65536 n with
            | true => rfl
            | false =>
              rw [← Bool.not_eq_true, ltI_true] at h1 h2 h3 h4
              unfold lenI at h2
              omega
    · unfold ref09_Decode
      cases h1 : ltI at_ 0 with
      | true => rfl
      | false =>
        cases h2 : ltI (lenI b) at_ with
        | true => rfl
        | false =>
          cases h3 : ltI n 0 with
          | true => rfl
          | false =>
            cases h4 : ltI 65536 n with
            | true => rfl
            | false =>
              rw [← Bool.not_eq_true, ltI_true] at h1 h2 h3 h4
              unfold lenI at h2
              omega
  · obtain ⟨m, rfl⟩ := Int.eq_ofNat_of_zero_le (show 0 ≤ n by omega)
    have hm : m ≤ 65536 := by omega
    by_cases c0 : at_ = b.length
    · refine ⟨[], 0, 4, ?_, ?_, Read9.err _ _ _ (by omega)⟩
      · unfold numbers_Decode numbers_Decode_j2
        have x1 : ltI at_ 0 = false := by rw [← Bool.not_eq_true, ltI_true]; omega
        have x2 : ltI (lenI b) at_ = false := by rw [← Bool.not_eq_true, ltI_true]; unfold lenI; omega
        have x3 : ltI (m : Int) 0 = false := by rw [← Bool.not_eq_true, ltI_true]; omega
        have x4 : eqI at_ (lenI b) = true := by rw [eqI_true]; unfold lenI; omega
        have x5 : ltI 65536 (m : Int) = false := by rw [← Bool.not_eq_true, ltI_true]; omega
        simp only [x1, x2, x3, x4, x5, cond_true, cond_false]
      · unfold ref09_Decode
        have x1 : ltI at_ 0 = false := by rw [← Bool.not_eq_true, ltI_true]; omega
        have x2 : ltI (lenI b) at_ = false := by rw [← Bool.not_eq_true, ltI_true]; unfold lenI; omega
        have x3 : ltI (m : Int) 0 = false := by rw [← Bool.not_eq_true, ltI_true]; omega
        have x4 : eqI at_ (lenI b) = true := by rw [eqI_true]; unfold lenI; omega
        have x5 : ltI 65536 (m : Int) = false := by rw [← Bool.not_eq_true, ltI_true]; omega
        simp only [x1, x2, x3, x4, x5, cond_true, cond_false]
    · have hw := hb.get at_
      generalize hg : getL 0 b at_ = w at *
      have ha1 : 0 ≤ at_ + 1 ∧ at_ + 1 ≤ b.length := by omega
      have hlt : ltI 65536 (m : Int) = false := by rw [← Bool.not_eq_true, ltI_true]; omega
      by_cases c1 : 1 < w
      · refine ⟨[], 0, 5, ?_, ?_, Read9.err _ _ _ (by omega)⟩
        · unfold numbers_Decode numbers_Decode_j2
          have x1 : ltI at_ 0 = false := by rw [← Bool.not_eq_true, ltI_true]; omega
          have x2 : ltI (lenI b) at_ = false := by rw [← Bool.not_eq_true, ltI_true]; unfold lenI; omega
          have x3 : ltI (m : Int) 0 = false := by rw [← Bool.not_eq_true, ltI_true]; omega
          have x4 : eqI at_ (lenI b) = false := by rw [← Bool.not_eq_true, eqI_true]; unfold lenI; omega
          have x5 : inI at_ b.length = true := by rw [inI_true]; omega
          have x6 : ltI 1 w = true := by rw [ltI_true]; omega
          simp only [x1, x2, x3, x4, x5, x6, hlt, hg, cond_true, cond_false]
        · unfold ref09_Decode
          have x1 : ltI at_ 0 = false := by rw [← Bool.not_eq_true, ltI_true]; omega
          have x2 : ltI (lenI b) at_ = false := by rw [← Bool.not_eq_true, ltI_true]; unfold lenI; omega
          have x3 : ltI (m : Int) 0 = false := by rw [← Bool.not_eq_true, ltI_true]; omega
          have x4 : eqI at_ (lenI b) = false := by rw [← Bool.not_eq_true, eqI_true]; unfold lenI; omega
          have x5 : inI at_ b.length = true := by rw [inI_true]; omega
          have x6 : eqI w 0 = false := by rw [← Bool.not_eq_true, eqI_true]; omega
          have x7 : eqI w 1 = false := by rw [← Bool.not_eq_true, eqI_true]; omega
          simp only [x1, x2, x3, x4, x5, x6, x7, hlt, hg, cond_true, cond_false]
      · by_cases c2 : w = 1
        · obtain ⟨l, end_, e, p1, p2, p3, p4, p5⟩ := packed_same F hF hb hl (n := (m : Int)) (at_ := at_ + 1) (by omega) ha1
          have f1 := fit9_prog F hF (b := b) (at_ := at_) (l := l) (end_ := end_) (e := e) (by omega) p3 (fun h => by have := p4 h; omega)
          have f2 := fit9_ref F hF (b := b) (at_ := at_) (l := l) (end_ := end_) (e := e) (by omega) p3 (fun h => by have := p4 h; omega)
          have f3 := fit9_read (b := b) (at_ := at_) (n := (m : Int)) (l := l) (end_ := end_) (e := e) (by omega) (by omega) p3 (fun h => by have := p4 h; omega)
          refine ⟨_, _, _, ?_, ?_, f3⟩
          · refine Eq.trans ?_ f1
            unfold numbers_Decode numbers_Decode_j2
            have x1 : ltI at_ 0 = false := by rw [← Bool.not_eq_true, ltI_true]; omega
            have x2 : ltI (lenI b) at_ = false := by rw [← Bool.not_eq_true, ltI_true]; unfold lenI; omega
            have x3 : ltI (m : Int) 0 = false := by rw [← Bool.not_eq_true, ltI_true]; omega
            have x4 : eqI at_ (lenI b) = false := by rw [← Bool.not_eq_true, eqI_true]; unfold lenI; omega
            have x5 : inI at_ b.length = true := by rw [inI_true]; omega
            have x6 : ltI 1 w = false := by rw [← Bool.not_eq_true, ltI_true]; omega
            have x7 : eqI w 1 = true := by rw [eqI_true]; exact c2
            have x8 : addI .i64 at_ 1 = at_ + 1 := addI_i64 (by omega)
            simp only [x1, x2, x3, x4, x5, x6, x7, x8, hlt, hg, p1, cond_true, cond_false, Option.bind_some]
          · refine Eq.trans ?_ f2
            unfold ref09_Decode
            have x1 : ltI at_ 0 = false := by rw [← Bool.not_eq_true, ltI_true]; omega
            have x2 : ltI (lenI b) at_ = false := by rw [← Bool.not_eq_true, ltI_true]; unfold lenI; omega
            have x3 : ltI (m : Int) 0 = false := by rw [← Bool.not_eq_true, ltI_true]; omega
            have x4 : eqI at_ (lenI b) = false := by rw [← Bool.not_eq_true, eqI_true]; unfold lenI; omega
            have x5 : inI at_ b.length = true := by rw [inI_true]; omega
            have x6 : eqI w 0 = false := by rw [← Bool.not_eq_true, eqI_true]; omega
            have x7 : eqI w 1 = true := by rw [eqI_true]; exact c2
            have x8 : addI .i64 at_ 1 = at_ + 1 := addI_i64 (by omega)
            simp only [x1, x2, x3, x4, x5, x6, x7, x8, hlt, hg, p2, cond_true, cond_false, Option.bind_some]
        · have q1 := numbers_plain_eq F hF hb hl hm ha1
          have q2 := ref09_plain_eq F hF hb hl hm ha1
          obtain ⟨p3, p4⟩ := plR_ok hb (n := m) ha1
          generalize plR m b (at_ + 1) = r at *
          obtain ⟨l, end_, e⟩ := r
          simp only at q1 q2 p3 p4
          have f1 := fit9_prog F hF (b := b) (at_ := at_) (l := l) (end_ := end_) (e := e) (by omega) p3 (fun h => by have := p4 h; omega)
          have f2 := fit9_ref F hF (b := b) (at_ := at_) (l := l) (end_ := end_) (e := e) (by omega) p3 (fun h => by have := p4 h; omega)
          have f3 := fit9_read (b := b) (at_ := at_) (n := (m : Int)) (l := l) (end_ := end_) (e := e) (by omega) (by omega) p3 (fun h => by have := p4 h; omega)
          refine ⟨_, _, _, ?_, ?_, f3⟩
          · refine Eq.trans ?_ f1
            unfold numbers_Decode numbers_Decode_j2
            have x1 : ltI at_ 0 = false := by rw [← Bool.not_eq_true, ltI_true]; omega
            have x2 : ltI (lenI b) at_ = false := by rw [← Bool.not_eq_true, ltI_true]; unfold lenI; omega
            have x3 : ltI (m : Int) 0 = false := by rw [← Bool.not_eq_true, ltI_true]; omega
            have x4 : eqI at_ (lenI b) = false := by rw [← Bool.not_eq_true, eqI_true]; unfold lenI; omega
            have x5 : inI at_ b.length = true := by rw [inI_true]; omega
            have x6 : ltI 1 w = false := by rw [← Bool.not_eq_true, ltI_true]; omega
            have x7 : eqI w 1 = false := by rw [← Bool.not_eq_true, eqI_true]; exact c2
            have x8 : addI .i64 at_ 1 = at_ + 1 := addI_i64 (by omega)
            simp only [x1, x2, x3, x4, x5, x6, x7, x8, hlt, hg, q1, cond_true, cond_false, Option.bind_some]
          · refine Eq.trans ?_ f2
            unfold ref09_Decode
            have x1 : ltI at_ 0 = false := by rw [← Bool.not_eq_true, ltI_true]; omega
            have x2 : ltI (lenI b) at_ = false := by rw [← Bool.not_eq_true, ltI_true]; unfold lenI; omega
            have x3 : ltI (m : Int) 0 = false := by rw [← Bool.not_eq_true, ltI_true]; omega
            have x4 : eqI at_ (lenI b) = false := by rw [← Bool.not_eq_true, eqI_true]; unfold lenI; omega
            have x5 : inI at_ b.length = true := by rw [inI_true]; omega
            have x6 : eqI w 0 = true := by rw [eqI_true]; omega
            have x8 : addI .i64 at_ 1 = at_ + 1 := addI_i64 (by omega)
            simp only [x1, x2, x3, x4, x5, x6, x8, hlt, hg, q2, cond_true, cond_false, Option.bind_some]
end Go.Proofs.YtfmjokmjaghehaaGreat
