
/- Layer 9: numbers, reading. -/
import Derived.Test.YtfmjokmjaghehaaGreatNine2
set_option linter.unusedVariables false
set_option linter.unusedSimpArgs false
namespace Go.Proofs.YtfmjokmjaghehaaGreat
open Go.Eng
theorem Equal_loop (F : Nat) {R : Type} (k0 : Option R) (kr : Bool → Option R) {a b : List Int} (hl : a.length = b.length) (hb : (a.length : Int) ≤ 9223372036854775806) : ∀ (m i : Nat), i + m = a.length → ∀ N, m < N →
    slices_Equal_byte_l4 F k0 kr N a b (a.length : Int) i = if a.drop i = b.drop i then k0 else kr false := by
  intro m
  induction m with
  | zero =>
    intro i hi N hN
    obtain ⟨N, rfl⟩ : ∃ M, N = M + 1 := ⟨N - 1, by omega⟩
    rw [if_pos (by rw [List.drop_eq_nil_of_le (by omega), List.drop_eq_nil_of_le (by omega)])]
    unfold slices_Equal_byte_l4
    simp (disch := omega) only [bs, ↓if_pos, ↓if_neg]
  | succ m ih =>
    intro i hi N hN
    obtain ⟨N, rfl⟩ : ∃ M, N = M + 1 := ⟨N - 1, by omega⟩
    have h1 := ih (i + 1) (by omega) N (by omega)
    have ea : a.drop i = getL 0 a (i : Int) :: a.drop (i + 1) := by
      rw [List.drop_eq_getElem_cons (by omega)]; simp [getL, List.getD_eq_getElem?_getD, show i < a.length by omega]
    have eb : b.drop i = getL 0 b (i : Int) :: b.drop (i + 1) := by
      rw [List.drop_eq_getElem_cons (by omega)]; simp [getL, List.getD_eq_getElem?_getD, show i < b.length by omega]
    unfold slices_Equal_byte_l4
    by_cases hc : getL 0 a (i : Int) = getL 0 b (i : Int)
    · simp (disch := omega) only [bs, ↓if_pos, ↓if_neg]
      refine Eq.trans h1 ?_
      rw [ea, eb, hc]
      simp
    · simp (disch := omega) only [bs, ↓if_pos, ↓if_neg]
      rw [ea, eb, if_neg]
      intro h
      exact hc (by simpa using (List.cons.inj h).1)
theorem slices_Equal_eq (F : Nat) (hF : Fuel F) {a b : List Int} (hb : (a.length : Int) ≤ 140737488355328) : slices_Equal_byte F a b = some (decide (a = b), ()) := by
  unfold Fuel at hF
  unfold slices_Equal_byte
  by_cases hl : a.length = b.length
  · simp (disch := omega) only [bs, ↓if_pos, ↓if_neg]
    refine Eq.trans (Equal_loop F _ _ hl (by omega) a.length 0 (by omega) F (by omega)) ?_
    simp only [List.drop_zero]
    by_cases h : a = b
    · simp [h]
    · simp [h]
  · simp (disch := omega) only [bs, ↓if_pos, ↓if_neg]
    have : a ≠ b := fun h => hl (by rw [h])
    simp [this]
def fit9 (b : List Int) (at_ : Int) (l : List Int) (end_ e : Int) : List Int × Int × Int := if e = 0 then (if nE l = dropL (takeL b end_) at_ then (l, end_, 0) else ([], 0, 5)) else ([], 0, e)
theorem fit9_prog (F : Nat) (hF : Fuel F) {b : List Int} {at_ : Int} {l : List Int} {end_ e : Int} (ha : 0 ≤ at_) (hw : Wd l) (h : e = 0 → l.length ≤ 65536 ∧ at_ ≤ end_ ∧ end_ ≤ b.length) :
    (bif not (eqI e 0) then some (([] : List Int), ((0 : Int), (e, ()))) else
      (numbers_Encode F l).bind fun r14 => bif not (eqI r14.2.1 0) then some ([], (0, (5, ()))) else
        bif cutB at_ end_ (List.length b) then (slices_Equal_byte F r14.1 (dropL (takeL b end_) at_)).bind fun r17 => bif not r17.1 then some ([], (0, (5, ()))) else some (l, (end_, (0, ()))) else none)
      = some ((fit9 b at_ l end_ e).1, (fit9 b at_ l end_ e).2.1, (fit9 b at_ l end_ e).2.2, ()) := by
  unfold fit9
  by_cases c : e = 0
  · obtain ⟨h1, h2, h3⟩ := h c
    have hs := nE_small hw h1
    have hq := slices_Equal_eq F hF (a := nE l) (b := dropL (takeL b end_) at_) (by omega)
    rw [if_pos c]
    by_cases d : nE l = dropL (takeL b end_) at_
    · rw [decide_eq_true d] at hq
      rw [if_pos d]
      simp (disch := omega) only [bs, ↓if_pos, ↓if_neg, numbers_Encode_eq F hF hw h1, hq]
    · rw [decide_eq_false d] at hq
      rw [if_neg d]
      simp (disch := omega) only [bs, ↓if_pos, ↓if_neg, numbers_Encode_eq F hF hw h1, hq]
  · rw [if_neg c]
    simp (disch := omega) only [bs, ↓if_pos, ↓if_neg]
theorem nDecode_back (F : Nat) (hF : Fuel F) {l : List Int} (hw : Wd l) (hn : l.length ≤ 65536) {b rest : List Int} (hb : Bt b) (hr : Bt rest) (hl : ((b ++ (nE l ++ rest)).length : Int) ≤ 140737488355328) :
    numbers_Decode F (b ++ (nE l ++ rest)) (b.length : Int) (l.length : Int) = some (l, (b.length : Int) + (nE l).length, 0, ()) := by
  have hcut : ∀ s : List Int, dropL (takeL (b ++ (s ++ rest)) ((b.length : Int) + (s.length : Int))) (b.length : Int) = s := by
    intro s
    unfold dropL takeL
    rw [show ((b.length : Int) + (s.length : Int)).toNat = b.length + s.length by omega, Int.toNat_natCast, ← List.append_assoc, List.take_left' (by simp), List.drop_left' rfl]
  have hall : Bt (b ++ (nE l ++ rest)) := hb.append ((nE_bt hw).append hr)
  have hpos := (nE_len hw).2.2
  have hlen : (b ++ (nE l ++ rest)).length = b.length + ((nE l).length + rest.length) := by simp
  have x1 : ltI (b.length : Int) 0 = false := by rw [← Bool.not_eq_true, ltI_true]; omega
  have x2 : ltI (lenI (b ++ (nE l ++ rest))) (b.length : Int) = false := by rw [← Bool.not_eq_true, ltI_true]; unfold lenI; omega
  have x3 : ltI (l.length : Int) 0 = false := by rw [← Bool.not_eq_true, ltI_true]; omega
  have x4 : eqI (b.length : Int) (lenI (b ++ (nE l ++ rest))) = false := by rw [← Bool.not_eq_true, eqI_true]; unfold lenI; omega
  have x5 : inI (b.length : Int) (b ++ (nE l ++ rest)).length = true := by rw [inI_true]; omega
  have x8 : addI .i64 (b.length : Int) 1 = (b.length : Int) + 1 := addI_i64 (by omega)
  have x9 : ltI 65536 (l.length : Int) = false := by rw [← Bool.not_eq_true, ltI_true]; omega
  have ha1 : 0 ≤ (b.length : Int) + 1 ∧ (b.length : Int) + 1 ≤ (b ++ (nE l ++ rest)).length := by omega
  by_cases c : 2 + (pk l (wdN l)).length < 1 + (encs l).length
  · have hnE : nE l = 1 :: (wdN l : Int) :: pk l (wdN l) := by unfold nE; rw [if_pos c]
    have hwd := wdN_le hw
    have hpl := pk_small hw hn
    have hg : getL 0 (b ++ (nE l ++ rest)) (b.length : Int) = 1 := by rw [getL_nat, hnE]; simp [List.getD_eq_getElem?_getD]
    have hg1 : getL 0 (b ++ (nE l ++ rest)) ((b.length : Int) + 1) = (wdN l : Int) := by
      rw [show (b.length : Int) + 1 = ((b.length + 1 : Nat) : Int) by omega, getL_nat, hnE, List.getD_eq_getElem?_getD, List.getElem?_append_right (by omega)]
      simp
    have hfit := Fits_wdN hw hn
    obtain ⟨hcl, hback⟩ := (pk_Packed l (wdN l)).back hw hfit
    obtain ⟨out, ho, e5, _⟩ := bitpack_Unpack_ok F hF (pk_Packed l (wdN l)).1 (n := l.length) (w := wdN l) hn hwd (pk_length l (wdN l))
    have hom := hback out ho
    subst hom
    have hu := e5 hcl
    have hs8 := size8_nat (n := out.length) (w := wdN out) hn hwd
    rw [← pk_length] at hs8
    have hcut2 : dropL (takeL (b ++ (nE out ++ rest)) ((b.length : Int) + 1 + 1 + ((pk out (wdN out)).length : Int))) ((b.length : Int) + 1 + 1) = pk out (wdN out) := by
      unfold dropL takeL
      rw [show ((b.length : Int) + 1 + 1 + ((pk out (wdN out)).length : Int)).toNat = (b ++ [1, (wdN out : Int)]).length + (pk out (wdN out)).length by simp; omega, show ((b.length : Int) + 1 + 1).toNat = (b ++ [1, (wdN out : Int)]).length by simp; omega]
      rw [hnE, show b ++ ((1 :: (wdN out : Int) :: pk out (wdN out)) ++ rest) = (b ++ [1, (wdN out : Int)]) ++ pk out (wdN out) ++ rest by simp]
      rw [List.take_left' (by simp; omega), List.drop_left' rfl]
    have hlenE : (nE out).length = 2 + (pk out (wdN out)).length := by rw [hnE]; simp; omega
    have hpk : numbers_packed F (b ++ (nE out ++ rest)) ((b.length : Int) + 1) (out.length : Int) = some (out, (b.length : Int) + (nE out).length, 0, ()) := by
      unfold numbers_packed
      generalize hB : b ++ (nE out ++ rest) = B at *
      simp (disch := omega) only [bs, ↓if_pos, ↓if_neg, hg1, wrap_i64, bitpack_Bytes_eq, hs8, hcut2, hu]
      simp only [Option.some.injEq, Prod.mk.injEq, and_true, true_and]
      omega
    have f1 := fit9_prog F hF (b := b ++ (nE out ++ rest)) (at_ := (b.length : Int)) (l := out) (end_ := (b.length : Int) + (nE out).length) (e := 0) (by omega) hw (fun _ => by omega)
    have hf : fit9 (b ++ (nE out ++ rest)) (b.length : Int) out ((b.length : Int) + (nE out).length) 0 = (out, (b.length : Int) + (nE out).length, 0) := by
      unfold fit9; rw [if_pos rfl, hcut, if_pos rfl]
    rw [hf] at f1
    refine Eq.trans ?_ f1
    unfold numbers_Decode numbers_Decode_j2
    have x6 : ltI 1 (1 : Int) = false := rfl
    have x7 : eqI (1 : Int) 1 = true := rfl
    simp only [x1, x2, x3, x4, x5, x6, x7, x8, x9, hg, hpk, cond_true, cond_false, Option.bind_some]
  · have hnE : nE l = 0 :: encs l := by unfold nE; rw [if_neg c]
    have hg : getL 0 (b ++ (nE l ++ rest)) (b.length : Int) = 0 := by rw [getL_nat, hnE]; simp [List.getD_eq_getElem?_getD]
    have hrd := rdn_enc hw (b ++ [0]) rest
    have hsh : (b ++ [0]) ++ (encs l ++ rest) = b ++ (nE l ++ rest) := by rw [hnE]; simp
    have hlE : (nE l).length = 1 + (encs l).length := by rw [hnE]; simp; omega
    rw [hsh, show (((b ++ [0] : List Int)).length : Int) = (b.length : Int) + 1 by simp] at hrd
    have q1 := numbers_plain_eq F hF hall hl hn ha1
    have hpr : plR l.length (b ++ (nE l ++ rest)) ((b.length : Int) + 1) = (l, (b.length : Int) + (nE l).length, 0) := by
      unfold plR
      rw [hrd]
      simp only [if_true]
      rw [hlE]
      refine Prod.ext rfl (Prod.ext ?_ rfl)
      simp only
      omega
    rw [hpr] at q1
    have f1 := fit9_prog F hF (b := b ++ (nE l ++ rest)) (at_ := (b.length : Int)) (l := l) (end_ := (b.length : Int) + (nE l).length) (e := 0) (by omega) hw (fun _ => by omega)
    have hf : fit9 (b ++ (nE l ++ rest)) (b.length : Int) l ((b.length : Int) + (nE l).length) 0 = (l, (b.length : Int) + (nE l).length, 0) := by
      unfold fit9; rw [if_pos rfl, hcut, if_pos rfl]
    rw [hf] at f1
    refine Eq.trans ?_ f1
    unfold numbers_Decode numbers_Decode_j2
    have x6 : ltI 1 (0 : Int) = false := rfl
    have x7 : eqI (0 : Int) 1 = false := rfl
    simp only [x1, x2, x3, x4, x5, x6, x7, x8, x9, hg, q1, cond_true, cond_false, Option.bind_some]
end Go.Proofs.YtfmjokmjaghehaaGreat
