
/- Layer 9: numbers, what the models say. -/
import Derived.Test.YtfmjokmjaghehaaGreatTen
set_option linter.unusedVariables false
set_option linter.unusedSimpArgs false
namespace Go.Proofs.YtfmjokmjaghehaaGreat
open Go.Eng
theorem encs_step {l : List Int} (hl : Wd l) {i : Nat} (hi : i < l.length) : ∃ v : Nat, getL 0 l (i : Int) = (v : Int) ∧ v < 2 ^ 64 ∧ (enc v).length ≤ 10 ∧ encs (l.drop i) = enc v ++ encs (l.drop (i + 1)) := by
  have hx := hl.get (i : Int)
  obtain ⟨v, hv⟩ := Int.eq_ofNat_of_zero_le hx.1
  have hv64 : v < 2 ^ 64 := by omega
  refine ⟨v, hv, hv64, enc_le10 hv64, ?_⟩
  rw [split_at hi, encs]
  have : l.getD i 0 = (v : Int) := by rw [← getL_nat]; exact hv
  rw [this]; rfl
theorem nSize_loop (F : Nat) {R : Type} (k : List Int → Int → Option R) (x0 : List Int) {l : List Int} (hl : Wd l) (hb : l.length ≤ 65536) : ∀ (m i z : Nat), i + m = l.length → z ≤ 1 + 10 * i →
    ∀ N, m < N → numbers_Encode_l5 F k N x0 (z : Int) l (l.length : Int) (i : Int) = k x0 ((z + (encs (l.drop i)).length : Nat) : Int) := by
  intro m
  induction m with
  | zero =>
    intro i z hi hz N hN
    obtain ⟨N, rfl⟩ : ∃ M, N = M + 1 := ⟨N - 1, by omega⟩
    rw [List.drop_eq_nil_of_le (by omega)]
    unfold numbers_Encode_l5
    simp (disch := omega) only [bs, ↓if_pos, ↓if_neg]
    rfl
  | succ m ih =>
    intro i z hi hz N hN
    obtain ⟨N, rfl⟩ : ∃ M, N = M + 1 := ⟨N - 1, by omega⟩
    obtain ⟨v, hv, hv64, h10, hd⟩ := encs_step hl (i := i) (by omega)
    have e := ih (i + 1) (z + (enc v).length) (by omega) (by omega) N (by omega)
    simp only [Int.natCast_add, Int.natCast_one] at e
    rw [hd, List.length_append, ← Nat.add_assoc, Int.natCast_add, Int.natCast_add]
    unfold numbers_Encode_l5
    simp (disch := omega) only [bs, ↓if_pos, ↓if_neg, hv, varint_Size_eq F hv64]
    exact e
theorem nApp_loop (F : Nat) (hF : Fuel F) {R : Type} (k : List Int → Option R) {l : List Int} (hl : Wd l) (hb : l.length ≤ 65536) : ∀ (m i : Nat) (out : List Int), i + m = l.length → out.length ≤ 1 + 10 * i →
    ∀ N, m < N → numbers_Encode_l15 F k N out l (l.length : Int) (i : Int) = k (out ++ encs (l.drop i)) := by
  intro m
  induction m with
  | zero =>
    intro i z hi hz N hN
    obtain ⟨N, rfl⟩ : ∃ M, N = M + 1 := ⟨N - 1, by omega⟩
    rw [List.drop_eq_nil_of_le (by omega)]
    unfold numbers_Encode_l15
    simp (disch := omega) only [bs, ↓if_pos, ↓if_neg]
    simp [encs]
  | succ m ih =>
    intro i z hi hz N hN
    obtain ⟨N, rfl⟩ : ∃ M, N = M + 1 := ⟨N - 1, by omega⟩
    obtain ⟨v, hv, hv64, h10, hd⟩ := encs_step hl (i := i) (by omega)
    have e := ih (i + 1) (z ++ enc v) (by omega) (by simp; omega) N (by omega)
    simp only [Int.natCast_add, Int.natCast_one] at e
    rw [hd, ← List.append_assoc]
    unfold numbers_Encode_l15
    simp (disch := omega) only [bs, ↓if_pos, ↓if_neg, hv, varint_Append_eq F hF (b := []) (by simp [Room]) hv64, List.nil_append]
    exact e
theorem rSize_loop (F : Nat) (hF : Fuel F) {R : Type} (k : List Int → Int → Option R) {l : List Int} (hl : Wd l) (hb : l.length ≤ 65536) : ∀ (m i z : Nat), i + m = l.length → z ≤ 1 + 10 * i →
    ∀ N, m < N → ref09_Encode_l5 F k N l (z : Int) (i : Int) = k l ((z + (encs (l.drop i)).length : Nat) : Int) := by
  intro m
  induction m with
  | zero =>
    intro i z hi hz N hN
    obtain ⟨N, rfl⟩ : ∃ M, N = M + 1 := ⟨N - 1, by omega⟩
    rw [List.drop_eq_nil_of_le (by omega)]
    unfold ref09_Encode_l5
    simp (disch := omega) only [bs, ↓if_pos, ↓if_neg]
    rfl
  | succ m ih =>
    intro i z hi hz N hN
    obtain ⟨N, rfl⟩ : ∃ M, N = M + 1 := ⟨N - 1, by omega⟩
    obtain ⟨v, hv, hv64, h10, hd⟩ := encs_step hl (i := i) (by omega)
    have e := ih (i + 1) (z + (enc v).length) (by omega) (by omega) N (by omega)
    simp only [Int.natCast_add, Int.natCast_one] at e
    rw [hd, List.length_append, ← Nat.add_assoc, Int.natCast_add, Int.natCast_add]
    unfold ref09_Encode_l5
    simp (disch := omega) only [bs, ↓if_pos, ↓if_neg, hv, ref05_Size_eq F hF hv64]
    exact e
theorem rApp_loop (F : Nat) (hF : Fuel F) {R : Type} (k : List Int → Option R) {l : List Int} (hl : Wd l) (hb : l.length ≤ 65536) : ∀ (m i : Nat) (out : List Int), i + m = l.length → out.length ≤ 1 + 10 * i →
    ∀ N, m < N → ref09_Encode_l14 F k N l out (i : Int) = k (out ++ encs (l.drop i)) := by
  intro m
  induction m with
  | zero =>
    intro i z hi hz N hN
    obtain ⟨N, rfl⟩ : ∃ M, N = M + 1 := ⟨N - 1, by omega⟩
    rw [List.drop_eq_nil_of_le (by omega)]
    unfold ref09_Encode_l14
    simp (disch := omega) only [bs, ↓if_pos, ↓if_neg]
    simp [encs]
  | succ m ih =>
    intro i z hi hz N hN
    obtain ⟨N, rfl⟩ : ∃ M, N = M + 1 := ⟨N - 1, by omega⟩
    obtain ⟨v, hv, hv64, h10, hd⟩ := encs_step hl (i := i) (by omega)
    have e := ih (i + 1) (z ++ enc v) (by omega) (by simp; omega) N (by omega)
    simp only [Int.natCast_add, Int.natCast_one] at e
    rw [hd, ← List.append_assoc]
    unfold ref09_Encode_l14
    simp (disch := omega) only [bs, ↓if_pos, ↓if_neg, hv, ref05_Append_eq F hF (b := []) (by simp [Room]) hv64, List.nil_append]
    exact e
theorem Fits_wdN {l : List Int} (hl : Wd l) (hn : l.length ≤ 65536) : Fits l (wdN l : Int) := by
  have h := wdN_ok hl
  exact ⟨hn, h.1, h.2.1, by rw [Int.toNat_natCast]; exact (h.2.2 _).1 (Int.le_refl _)⟩
theorem numbers_Encode_eq (F : Nat) (hF : Fuel F) {l : List Int} (hl : Wd l) (hn : l.length ≤ 65536) : numbers_Encode F l = some (nE l, 0, ()) := by
  obtain ⟨W, eW, hW⟩ := bitpack_Width_ok F hF hl (by omega)
  have := hW.eq (wdN_ok hl)
  subst this
  obtain ⟨out, eP, hP⟩ := bitpack_Pack_ok F hF hl (by omega) (Fits_wdN hl hn)
  have := hP.eq (pk_Packed l (wdN l))
  subst this
  have hs := pk_small hl hn
  have hel := encs_len hl
  have hw := wdN_le hl
  have e1 := fun (R : Type) (k : List Int → Int → Option R) => nSize_loop F k l hl hn l.length 0 1 (by omega) (by omega) F (by unfold Fuel at hF; omega)
  have e2 := fun (R : Type) (k : List Int → Option R) => nApp_loop F hF k hl hn l.length 0 [0] (by omega) (by simp) F (by unfold Fuel at hF; omega)
  simp only [Int.natCast_zero, Int.natCast_one, List.drop_zero, Int.natCast_add] at e1 e2
  unfold numbers_Encode nE
  generalize pk l (wdN l) = p at *
  generalize encs l = q at *
  by_cases h : 2 + p.length < 1 + q.length
  · rw [if_pos h]
    simp (disch := omega) only [bs, ↓if_pos, ↓if_neg, e1, eW, eP, wrap_u8]
    rfl
  · rw [if_neg h]
    simp (disch := omega) only [bs, ↓if_pos, ↓if_neg, e1, eW, eP, show replI 1 (0 : Int) = [0] from rfl, e2]
    rfl
theorem numbers_Encode_big (F : Nat) {l : List Int} (hn : 65536 < l.length) : numbers_Encode F l = some ([], 3, ()) := by
  unfold numbers_Encode
  simp (disch := omega) only [bs, ↓if_pos, ↓if_neg]
theorem ref09_Encode_eq (F : Nat) (hF : Fuel F) {l : List Int} (hl : Wd l) (hn : l.length ≤ 65536) : ref09_Encode F l = some (nE l, 0, ()) := by
  obtain ⟨W, eW, hW⟩ := ref08_Width_ok F hF hl (by omega)
  have := hW.eq (wdN_ok hl)
  subst this
  obtain ⟨out, eP, hP⟩ := ref08_Pack_ok F hF hl (by omega) (Fits_wdN hl hn)
  have := hP.eq (pk_Packed l (wdN l))
  subst this
  have hs := pk_small hl hn
  have hel := encs_len hl
  have hw := wdN_le hl
  have e1 := fun (R : Type) (k : List Int → Int → Option R) => rSize_loop F hF k hl hn l.length 0 1 (by omega) (by omega) F (by unfold Fuel at hF; omega)
  have e2 := fun (R : Type) (k : List Int → Option R) => rApp_loop F hF k hl hn l.length 0 [0] (by omega) (by simp) F (by unfold Fuel at hF; omega)
  simp only [Int.natCast_zero, Int.natCast_one, List.drop_zero, Int.natCast_add] at e1 e2
  unfold ref09_Encode nE
  generalize pk l (wdN l) = p at *
  generalize encs l = q at *
  by_cases h : 2 + p.length < 1 + q.length
  · rw [if_pos h]
    simp (disch := omega) only [bs, ↓if_pos, ↓if_neg, e1, eW, eP, wrap_u8]
    rfl
  · rw [if_neg h]
    simp (disch := omega) only [bs, ↓if_pos, ↓if_neg, e1, eW, eP, show replI 1 (0 : Int) = [0] from rfl, e2]
    rfl
/- reading: the plain form -/
theorem plain_loop (F : Nat) (hF : Fuel F) {R : Type} (k : Int → List Int → Option R) (kr : List Int → Int → Int → Option R) {b : List Int} (hb : Bt b) (hl : (b.length : Int) ≤ 140737488355328) {n : Nat} (hn : n ≤ 65536) : ∀ (m i : Nat) (at_ : Int) (out : List Int), i + m = n → out.length = i → 0 ≤ at_ ∧ at_ ≤ b.length →
    ∀ N, m < N → numbers_plain_l3 F k kr N b at_ out (n : Int) (i : Int) = if (rdn m b at_).2.2 = 0 then k (rdn m b at_).2.1 (out ++ (rdn m b at_).1) else kr [] 0 (rdn m b at_).2.2 := by
  intro m
  induction m with
  | zero =>
    intro i at_ out hi ho ha N hN
    obtain ⟨N, rfl⟩ : ∃ M, N = M + 1 := ⟨N - 1, by omega⟩
    unfold numbers_plain_l3
    simp only [rdn, if_true, List.append_nil]
    simp (disch := omega) only [bs, ↓if_pos, ↓if_neg]
  | succ m ih =>
    intro i at_ out hi ho ha N hN
    obtain ⟨N, rfl⟩ : ∃ M, N = M + 1 := ⟨N - 1, by omega⟩
    have er := varint_Read_eq F hF hb hl at_
    unfold numbers_plain_l3
    by_cases c : (rd b at_).2.2 = 0
    · obtain ⟨r1, r2, r3, _⟩ := rd_ok hb c
      have e := ih (i + 1) (rd b at_).2.1 (out ++ [((rd b at_).1 : Int)]) (by omega) (by simp; omega) (by omega) N (by omega)
      have e2 : rdn (m + 1) b at_ = if (rdn m b (rd b at_).2.1).2.2 = 0 then (((rd b at_).1 : Int) :: (rdn m b (rd b at_).2.1).1, (rdn m b (rd b at_).2.1).2.1, 0) else ([], 0, (rdn m b (rd b at_).2.1).2.2) := by rw [rdn, if_pos c]
      rw [e2]
      simp (disch := omega) only [bs, ↓if_pos, ↓if_neg, er, c]
      rw [show (i : Int) + 1 = ((i + 1 : Nat) : Int) by omega, e]
      by_cases d : (rdn m b (rd b at_).2.1).2.2 = 0
      · simp only [if_pos d, if_true, List.append_assoc, List.singleton_append]
      · simp only [if_neg d]
    · have e2 : rdn (m + 1) b at_ = ([], 0, (rd b at_).2.2) := by rw [rdn, if_neg c]
      rw [e2]
      simp (disch := omega) only [bs, ↓if_pos, ↓if_neg, er, c]
theorem rplain_loop (F : Nat) (hF : Fuel F) {R : Type} (k : Int → List Int → Option R) (kr : List Int → Int → Int → Option R) {b : List Int} (hb : Bt b) (hl : (b.length : Int) ≤ 140737488355328) {n : Nat} (hn : n ≤ 65536) : ∀ (m i : Nat) (at_ : Int) (out : List Int), i + m = n → out.length = i → 0 ≤ at_ ∧ at_ ≤ b.length →
    ∀ N, m < N → ref09_plain_l3 F k kr N b at_ (n : Int) out (i : Int) = if (rdn m b at_).2.2 = 0 then k (rdn m b at_).2.1 (out ++ (rdn m b at_).1) else kr [] 0 (rdn m b at_).2.2 := by
  intro m
  induction m with
  | zero =>
    intro i at_ out hi ho ha N hN
    obtain ⟨N, rfl⟩ : ∃ M, N = M + 1 := ⟨N - 1, by omega⟩
    unfold ref09_plain_l3
    simp only [rdn, if_true, List.append_nil]
    simp (disch := omega) only [bs, ↓if_pos, ↓if_neg]
  | succ m ih =>
    intro i at_ out hi ho ha N hN
    obtain ⟨N, rfl⟩ : ∃ M, N = M + 1 := ⟨N - 1, by omega⟩
    have er := ref05_Read_eq F hF hb hl at_
    unfold ref09_plain_l3
    by_cases c : (rd b at_).2.2 = 0
    · obtain ⟨r1, r2, r3, _⟩ := rd_ok hb c
      have e := ih (i + 1) (rd b at_).2.1 (out ++ [((rd b at_).1 : Int)]) (by omega) (by simp; omega) (by omega) N (by omega)
      have e2 : rdn (m + 1) b at_ = if (rdn m b (rd b at_).2.1).2.2 = 0 then (((rd b at_).1 : Int) :: (rdn m b (rd b at_).2.1).1, (rdn m b (rd b at_).2.1).2.1, 0) else ([], 0, (rdn m b (rd b at_).2.1).2.2) := by rw [rdn, if_pos c]
      rw [e2]
      simp (disch := omega) only [bs, ↓if_pos, ↓if_neg, er, c]
      rw [show (i : Int) + 1 = ((i + 1 : Nat) : Int) by omega, e]
      by_cases d : (rdn m b (rd b at_).2.1).2.2 = 0
      · simp only [if_pos d, if_true, List.append_assoc, List.singleton_append]
      · simp only [if_neg d]
    · have e2 : rdn (m + 1) b at_ = ([], 0, (rd b at_).2.2) := by rw [rdn, if_neg c]
      rw [e2]
      simp (disch := omega) only [bs, ↓if_pos, ↓if_neg, er, c]
def plR (n : Nat) (b : List Int) (at_ : Int) : List Int × Int × Int := if (rdn n b at_).2.2 = 0 then rdn n b at_ else ([], 0, (rdn n b at_).2.2)
theorem numbers_plain_eq (F : Nat) (hF : Fuel F) {b : List Int} (hb : Bt b) (hl : (b.length : Int) ≤ 140737488355328) {n : Nat} (hn : n ≤ 65536) {at_ : Int} (ha : 0 ≤ at_ ∧ at_ ≤ b.length) :
    numbers_plain F b at_ n = some ((plR n b at_).1, (plR n b at_).2.1, (plR n b at_).2.2, ()) := by
  have e := fun (R : Type) (k : Int → List Int → Option R) (kr : List Int → Int → Int → Option R) => plain_loop F hF k kr hb hl hn n 0 at_ [] (by omega) rfl ha F (by unfold Fuel at hF; omega)
  have h0 : makeB 0 (min (n : Int) ((b.length : Int) - at_)) 8 = true := by rw [makeB_true]; omega
  unfold numbers_plain plR
  simp (disch := omega) only [bs, ↓if_pos, ↓if_neg, h0, show replI 0 (0 : Int) = [] from rfl]
  refine (e _ _ _).trans ?_
  by_cases c : (rdn n b at_).2.2 = 0
  · rw [if_pos c, if_pos c, List.nil_append, c]
  · rw [if_neg c, if_neg c]
theorem ref09_plain_eq (F : Nat) (hF : Fuel F) {b : List Int} (hb : Bt b) (hl : (b.length : Int) ≤ 140737488355328) {n : Nat} (hn : n ≤ 65536) {at_ : Int} (ha : 0 ≤ at_ ∧ at_ ≤ b.length) :
    ref09_plain F b at_ n = some ((plR n b at_).1, (plR n b at_).2.1, (plR n b at_).2.2, ()) := by
  unfold ref09_plain plR
  refine (rplain_loop F hF _ _ hb hl hn n 0 at_ [] (by omega) rfl ha F (by unfold Fuel at hF; omega)).trans ?_
  by_cases c : (rdn n b at_).2.2 = 0
  · rw [if_pos c, if_pos c, List.nil_append, c]
  · rw [if_neg c, if_neg c]
end Go.Proofs.YtfmjokmjaghehaaGreat
