
/- Numbers of many words, as the document reckons with them (chapter 02). -/
import Derived.Test.YtfmjokmjaghehaaGreatVarint2
set_option linter.unusedVariables false
set_option linter.unusedSimpArgs false
namespace Go.Proofs.YtfmjokmjaghehaaGreat
open Go.Eng
def wv : List Int → Nat
  | [] => 0
  | x :: t => x.toNat + 18446744073709551616 * wv t
def ofn (v : Nat) : List Int := if v = 0 then [] else ((v % 18446744073709551616 : Nat) : Int) :: ofn (v / 18446744073709551616)
termination_by v
decreasing_by omega
theorem ofn_zero : ofn 0 = [] := by rw [ofn]; rfl
theorem ofn_pos {v : Nat} (h : v ≠ 0) : ofn v = ((v % 18446744073709551616 : Nat) : Int) :: ofn (v / 18446744073709551616) := by rw [ofn, if_neg h]
theorem wv_ofn (v : Nat) : wv (ofn v) = v := by
  induction v using Nat.strongRecOn with
  | _ v ih =>
    by_cases h : v = 0
    · subst h; rw [ofn_zero]; rfl
    · rw [ofn_pos h, wv, ih _ (by omega)]; omega
theorem ofn_Wd (v : Nat) : Wd (ofn v) := by
  induction v using Nat.strongRecOn with
  | _ v ih =>
    by_cases h : v = 0
    · subst h; rw [ofn_zero]; exact Wd.nil
    · rw [ofn_pos h]
      intro x hx
      rcases List.mem_cons.1 hx with h1 | h1
      · omega
      · exact ih (v / 18446744073709551616) (by omega) x h1
theorem wv_append (a b : List Int) : wv (a ++ b) = wv a + 18446744073709551616 ^ a.length * wv b := by
  induction a with
  | nil => simp [wv]
  | cons x t ih =>
    simp only [List.cons_append, wv, ih, List.length_cons, Nat.pow_succ]
    rw [Nat.mul_add, Nat.mul_comm (18446744073709551616 ^ t.length) 18446744073709551616, Nat.mul_assoc, Nat.add_assoc]
theorem Wd.tail {x : Int} {t : List Int} (h : Wd (x :: t)) : Wd t := fun y hy => h y (List.mem_cons_of_mem _ hy)
theorem Wd.head {x : Int} {t : List Int} (h : Wd (x :: t)) : 0 ≤ x ∧ x ≤ 18446744073709551615 := h x (by simp)
theorem Wd.left {a b : List Int} (h : Wd (a ++ b)) : Wd a := fun y hy => h y (List.mem_append_left _ hy)
theorem Wd.right {a b : List Int} (h : Wd (a ++ b)) : Wd b := fun y hy => h y (List.mem_append_right _ hy)
theorem Wd.take {a : List Int} (h : Wd a) (n : Nat) : Wd (a.take n) := fun y hy => h y (List.mem_of_mem_take hy)
theorem Wd.drop {a : List Int} (h : Wd a) (n : Nat) : Wd (a.drop n) := fun y hy => h y (List.mem_of_mem_drop hy)
theorem Wd.cons {x : Int} {t : List Int} (h : 0 ≤ x ∧ x ≤ 18446744073709551615) (ht : Wd t) : Wd (x :: t) := by
  intro y hy
  rcases List.mem_cons.1 hy with h1 | h1
  · rw [h1]; exact h
  · exact ht y h1
theorem wv_lt {a : List Int} (h : Wd a) : wv a < 18446744073709551616 ^ a.length := by
  induction a with
  | nil => simp [wv]
  | cons x t ih =>
    have := ih (Wd.tail h)
    have := Wd.head h
    simp only [wv, List.length_cons, Nat.pow_succ]
    omega
theorem ofn_wv : ∀ {l : List Int}, Wd l → (l = [] ∨ lst l ≠ 0) → ofn (wv l) = l
  | [], _, _ => by rw [wv, ofn_zero]
  | [x], hb, h => by
    have hx := Wd.head hb
    have h : x ≠ 0 := h.elim (fun h => by simp at h) id
    simp only [wv]
    rw [ofn_pos (by omega), show (x.toNat + 18446744073709551616 * 0) / 18446744073709551616 = 0 by omega, ofn_zero]
    simp; omega
  | x :: y :: t, hb, h => by
    have hx := Wd.head hb
    have h : lst (y :: t) ≠ 0 := h.elim (fun h => by simp at h) (fun h => by rwa [lst_cons (by simp)] at h)
    have e := ofn_wv (Wd.tail hb) (.inr h)
    have hp : wv (y :: t) ≠ 0 := fun h0 => by
      rw [h0, ofn_zero] at e
      simp at e
    rw [wv, ofn_pos (by omega), show (x.toNat + 18446744073709551616 * wv (y :: t)) / 18446744073709551616 = wv (y :: t) by omega, e]
    congr 1
    omega
theorem ofn_length_lt {v n : Nat} (h : v < 18446744073709551616 ^ n) : (ofn v).length ≤ n := by
  induction n generalizing v with
  | zero => simp at h; subst h; rw [ofn_zero]; simp
  | succ n ih =>
    by_cases hv : v = 0
    · subst hv; rw [ofn_zero]; simp
    · rw [ofn_pos hv, List.length_cons]
      have := ih (v := v / 18446744073709551616) (by rw [Nat.pow_succ] at h; exact Nat.div_lt_of_lt_mul (by rw [Nat.mul_comm]; exact h))
      omega
theorem ofn_ge {v n : Nat} (h : (ofn v).length ≤ n) : v < 18446744073709551616 ^ n := by
  have h1 := wv_lt (ofn_Wd v)
  rw [wv_ofn] at h1
  exact Nat.lt_of_lt_of_le h1 (Nat.pow_le_pow_right (by omega) h)
theorem ofn_len_iff {v n : Nat} : (ofn v).length ≤ n ↔ v < 18446744073709551616 ^ n := ⟨ofn_ge, ofn_length_lt⟩
theorem ofn_nil {v : Nat} : (ofn v).length = 0 ↔ v = 0 := by
  have := ofn_len_iff (v := v) (n := 0)
  simp only [Nat.pow_zero] at this
  omega
/- trim -/
theorem trim_loop (F : Nat) {R : Type} (k : List Int → Option R) : ∀ (m : Nat) (l : List Int), l.length = m → Wd l → (l.length : Int) ≤ 140737488355328 → ∀ N, m < N → ref02_trim_l1 F k N l = k (ofn (wv l)) := by
  intro m
  induction m with
  | zero =>
    intro l hl _ _ N hN
    obtain ⟨N, rfl⟩ : ∃ M, N = M + 1 := ⟨N - 1, by omega⟩
    have : l = [] := by simpa using hl
    subst this
    unfold ref02_trim_l1
    simp (disch := omega) only [bs, ↓if_pos, ↓if_neg]
    rw [wv, ofn_zero]
  | succ m ih =>
    intro l hl hb hlen N hN
    obtain ⟨N, rfl⟩ : ∃ M, N = M + 1 := ⟨N - 1, by omega⟩
    obtain ⟨i, x, rfl⟩ : ∃ i x, l = i ++ [x] := by
      rcases List.eq_nil_or_concat l with h | ⟨i, x, h⟩
      · subst h; simp at hl
      · exact ⟨i, x, by simpa using h⟩
    have hil : i.length = m := by simp at hl; omega
    have hle : (i ++ [x]).length = i.length + 1 := by simp
    have hg : getL 0 (i ++ [x]) (((i ++ [x]).length : Int) - 1) = x := by
      rw [show (((i ++ [x]).length : Int) - 1) = (i.length : Int) by omega, getL_nat]; simp
    have ht : takeL (i ++ [x]) (((i ++ [x]).length : Int) - 1) = i := by
      rw [show (((i ++ [x]).length : Int) - 1) = (i.length : Int) by omega, takeL]; simp
    unfold ref02_trim_l1
    by_cases hx : x = 0
    · have e := ih i hil (Wd.left hb) (by omega) N (by omega)
      simp (disch := omega) only [bs, ↓if_pos, ↓if_neg, hg, ht]
      refine Eq.trans e ?_
      subst hx
      rw [wv_append]
      simp [wv]
    · simp (disch := omega) only [bs, ↓if_pos, ↓if_neg, hg]
      rw [ofn_wv hb]
      right
      rw [← lst_getD _ (by simp)]
      simpa using hx
theorem trim_eq (F : Nat) (hF : Fuel F) {l : List Int} (hb : Wd l) (hl : (l.length : Int) ≤ 140737488355328) : ref02_trim F l = some (ofn (wv l), ()) := by
  unfold ref02_trim
  rw [trim_loop F _ l.length l rfl hb hl F (by unfold Fuel at hF; omega)]
theorem trimc_l1_eq (F : Nat) {R : Type} (k : List Int → Option R) : ∀ N l, ref02_trimc_l1 F k N l = ref02_trim_l1 F k N l := by
  intro N
  induction N with
  | zero => intro l; rfl
  | succ N ih => intro l; unfold ref02_trimc_l1 ref02_trim_l1; simp only [ih]
theorem trimc_eq (F : Nat) (hF : Fuel F) {l : List Int} (hb : Wd l) (hl : (l.length : Int) ≤ 140737488355328) : ref02_trimc F l = some (ofn (wv l), ()) := by
  unfold ref02_trimc
  rw [trimc_l1_eq]
  exact trim_eq F hF hb hl
/- compare -/
def cmpN (a b : Nat) : Int := if a < b then -1 else if b < a then 1 else 0
theorem take_snoc {l : List Int} {m : Nat} (h : m < l.length) : l.take (m + 1) = l.take m ++ [l.getD m 0] := by
  rw [List.take_succ_eq_append_getElem h, List.getD_eq_getElem?_getD, List.getElem?_eq_getElem h]; rfl
theorem compare_loop (F : Nat) {R : Type} (k0 : Option R) (kr : Int → Option R) {a b : List Int} (ha : Wd a) (hb : Wd b) (hl : a.length = b.length) (hla : (a.length : Int) ≤ 140737488355328) :
    ∀ m, m ≤ a.length → ∀ N, m < N → ref02_compare_l6 F k0 kr N a b ((m : Int) - 1) = if wv (a.take m) < wv (b.take m) then kr (-1) else if wv (b.take m) < wv (a.take m) then kr 1 else k0 := by
  intro m
  induction m with
  | zero =>
    intro hm N hN
    obtain ⟨N, rfl⟩ : ∃ M, N = M + 1 := ⟨N - 1, by omega⟩
    unfold ref02_compare_l6
    simp (disch := omega) only [bs, ↓if_pos, ↓if_neg]
    simp [wv]
  | succ m ih =>
    intro hm N hN
    obtain ⟨N, rfl⟩ : ∃ M, N = M + 1 := ⟨N - 1, by omega⟩
    have e := ih (by omega) N (by omega)
    rw [take_snoc (l := a) (by omega), take_snoc (l := b) (by omega), wv_append, wv_append]
    have h1 := wv_lt (Wd.take ha m)
    have h2 := wv_lt (Wd.take hb m)
    have hta : (a.take m).length = m := by simp; omega
    have htb : (b.take m).length = m := by simp; omega
    rw [hta] at h1 ⊢
    rw [htb] at h2 ⊢
    have hx := getD_all (P := fun x => 0 ≤ x ∧ x ≤ 18446744073709551615) ha (by omega) (d := 0) m
    have hy := getD_all (P := fun x => 0 ≤ x ∧ x ≤ 18446744073709551615) hb (by omega) (d := 0) m
    have hg1 : getL 0 a ((m : Int) + 1 - 1) = a.getD m 0 := by rw [show (m : Int) + 1 - 1 = (m : Int) by omega, getL_nat]
    have hg2 : getL 0 b ((m : Int) + 1 - 1) = b.getD m 0 := by rw [show (m : Int) + 1 - 1 = (m : Int) by omega, getL_nat]
    have hcast : ((m + 1 : Nat) : Int) = (m : Int) + 1 := by omega
    rw [hcast]
    unfold ref02_compare_l6
    rw [show wv [a.getD m 0] = (a.getD m 0).toNat by simp [wv], show wv [b.getD m 0] = (b.getD m 0).toNat by simp [wv]]
    generalize a.getD m 0 = x at *
    generalize b.getD m 0 = y at *
    generalize 18446744073709551616 ^ m = P at *
    by_cases c1 : x < y
    · have : P * (x.toNat + 1) ≤ P * y.toNat := Nat.mul_le_mul_left _ (by omega)
      rw [Nat.mul_add] at this
      simp (disch := omega) only [bs, ↓if_pos, ↓if_neg, hg1, hg2]
    · by_cases c2 : y < x
      · have : P * (y.toNat + 1) ≤ P * x.toNat := Nat.mul_le_mul_left _ (by omega)
        rw [Nat.mul_add] at this
        simp (disch := omega) only [bs, ↓if_pos, ↓if_neg, hg1, hg2]
      · have hxy : x = y := by omega
        subst hxy
        simp (disch := omega) only [bs, ↓if_pos, ↓if_neg, hg1, hg2]
        rw [show (m : Int) + 1 - 1 - 1 = (m : Int) - 1 by omega]
        refine Eq.trans e ?_
        simp only [Nat.add_lt_add_iff_right]
theorem compare_eq (F : Nat) (hF : Fuel F) {a b : Nat} (ha : ((ofn a).length : Int) ≤ 140737488355328) (hb : ((ofn b).length : Int) ≤ 140737488355328) : ref02_compare F (ofn a) (ofn b) = some (cmpN a b, ()) := by
  unfold ref02_compare cmpN
  have h1 := ofn_len_iff (v := a) (n := (ofn b).length - 1)
  have h2 := ofn_len_iff (v := b) (n := (ofn a).length - 1)
  have h3 := (ofn_len_iff (v := a) (n := (ofn a).length)).1 (by omega)
  have h4 := (ofn_len_iff (v := b) (n := (ofn b).length)).1 (by omega)
  have h5 := ofn_len_iff (v := b) (n := (ofn b).length - 1)
  have h6 := ofn_len_iff (v := a) (n := (ofn a).length - 1)
  by_cases c1 : (ofn a).length = (ofn b).length
  · have e := compare_loop F (some ((0 : Int), ())) (fun z => some (z, ())) (ofn_Wd a) (ofn_Wd b) c1 ha (ofn a).length (by omega) F (by unfold Fuel at hF; omega)
    rw [List.take_of_length_le (by omega), List.take_of_length_le (by omega), wv_ofn, wv_ofn] at e
    simp (disch := omega) only [bs, ↓if_pos, ↓if_neg]
    refine Eq.trans e ?_
    split
    · rfl
    · split <;> rfl
  · by_cases c2 : (ofn a).length < (ofn b).length
    · simp (disch := omega) only [bs, ↓if_pos, ↓if_neg]
    · simp (disch := omega) only [bs, ↓if_pos, ↓if_neg]
/- add -/
theorem split_at {l : List Int} {i : Nat} (h : i < l.length) : l.drop i = l.getD i 0 :: l.drop (i + 1) := by
  rw [List.getD_eq_getElem?_getD, List.getElem?_eq_getElem h, List.drop_eq_getElem_cons h]; rfl
theorem set_mid (d : List Int) (x y : Int) (t : List Int) : setL (d ++ x :: t) (d.length : Int) y = (d ++ [y]) ++ t := by
  simp [setL]
theorem get_mid (d : List Int) (x : Int) (t : List Int) : getL 0 (d ++ x :: t) (d.length : Int) = x := by
  simp [getL]
theorem add_loop (F : Nat) {b : List Int} (hb : Wd b) : ∀ (ra d : List Int) (c : Int), Wd ra → b.length ≤ d.length + ra.length → ((d ++ ra).length : Int) ≤ 140737488355328 → 0 ≤ c ∧ c ≤ 1 →
    ∀ N, ra.length < N → ∃ (r : List Int) (c' : Int), Wd r ∧ r.length = ra.length ∧ (0 ≤ c' ∧ c' ≤ 1) ∧ wv r + c'.toNat * 18446744073709551616 ^ ra.length = wv ra + wv (b.drop d.length) + c.toNat ∧
      ∀ (R : Type) (k : List Int → Int → Option R), ref02_add_l6 F k N b (d ++ ra) c (d.length : Int) = k (d ++ r) c' := by
  intro ra
  induction ra with
  | nil =>
    intro d c _ hbl hl hc N hN
    obtain ⟨N, rfl⟩ : ∃ M, N = M + 1 := ⟨N - 1, by omega⟩
    refine ⟨[], c, Wd.nil, rfl, hc, ?_, ?_⟩
    · rw [List.drop_eq_nil_of_le (by simpa using hbl)]; simp [wv]
    · intro R k
      unfold ref02_add_l6
      have : (d ++ ([] : List Int)).length = d.length := by simp
      simp (disch := omega) only [bs, ↓if_pos, ↓if_neg]
  | cons x t ih =>
    intro d c hra hbl hl hc N hN
    obtain ⟨N, rfl⟩ : ∃ M, N = M + 1 := ⟨N - 1, by omega⟩
    have hx := Wd.head hra
    have hlen : (d ++ x :: t).length = d.length + (t.length + 1) := by simp
    have fin : ∀ y : Int, 0 ≤ y ∧ y ≤ 18446744073709551615 → wv (b.drop d.length) = y.toNat + 18446744073709551616 * wv (b.drop (d.length + 1)) →
        ∃ (r : List Int) (c' : Int), Wd r ∧ r.length = (x :: t).length ∧ (0 ≤ c' ∧ c' ≤ 1) ∧ wv r + c'.toNat * 18446744073709551616 ^ (x :: t).length = wv (x :: t) + wv (b.drop d.length) + c.toNat ∧
          ∀ (R : Type) (k : List Int → Int → Option R), ref02_add_j11 F (fun z18 z19 z20 z21 => ref02_add_l6 F k N z18 z19 z20 (addI .i64 z21 1)) b (d ++ x :: t) c (d.length : Int) y = k (d ++ r) c' := by
      intro y hy hw
      obtain ⟨r, c', h1, h2, h3, h4, h5⟩ := ih (d ++ [(x + y + c) % 18446744073709551616]) ((x + y + c) / 18446744073709551616) (Wd.tail hra) (by simp at hbl ⊢; omega) (by simp at hl ⊢; omega) (by omega) N (by simp at hN; omega)
      refine ⟨(x + y + c) % 18446744073709551616 :: r, c', Wd.cons (by omega) h1, by simp [h2], h3, ?_, ?_⟩
      · simp only [List.length_append, List.length_singleton] at h4
        simp only [wv, List.length_cons, Nat.pow_succ, hw]
        rw [← Nat.mul_assoc]
        generalize c'.toNat * 18446744073709551616 ^ t.length = T at *
        omega
      · intro R k
        unfold ref02_add_j11 bits_Add64
        have hcond : (leI 0 x && leI 0 y && leI 0 c && leI c 1) = true := by simp only [Bool.and_eq_true, leI_true]; omega
        simp (disch := omega) only [bs, ↓if_pos, ↓if_neg, get_mid, set_mid, hcond]
        simp only [List.length_append, List.length_singleton] at h5
        have h5 := h5 R k
        simpa using h5
    by_cases hy : d.length < b.length
    · obtain ⟨r, c', h1, h2, h3, h4, h5⟩ := fin (b.getD d.length 0) (getD_all (P := fun x => 0 ≤ x ∧ x ≤ 18446744073709551615) hb (by omega) _) (by rw [split_at hy]; rfl)
      refine ⟨r, c', h1, h2, h3, h4, fun R k => ?_⟩
      unfold ref02_add_l6
      simp (disch := omega) only [bs, ↓if_pos, ↓if_neg, getL_nat]
      exact h5 R k
    · obtain ⟨r, c', h1, h2, h3, h4, h5⟩ := fin 0 (by omega) (by rw [List.drop_eq_nil_of_le (by omega), List.drop_eq_nil_of_le (by omega)]; rfl)
      refine ⟨r, c', h1, h2, h3, h4, fun R k => ?_⟩
      unfold ref02_add_l6
      simp (disch := omega) only [bs, ↓if_pos, ↓if_neg]
      exact h5 R k
theorem add_j3_eq (F : Nat) (hF : Fuel F) {R : Type} (k : List Int → Option R) {a b : List Int} (ha : Wd a) (hb : Wd b) (hl : b.length ≤ a.length) (hla : (a.length : Int) ≤ 1000000000) : ref02_add_j3 F k a b = k (ofn (wv a + wv b)) := by
  unfold ref02_add_j3
  obtain ⟨r, c', h1, h2, h3, h4, h5⟩ := add_loop F hb a [] 0 ha (by simpa using hl) (by simp; omega) (by omega) F (by unfold Fuel at hF; omega)
  simp only [List.nil_append, List.drop_zero, List.length_nil] at h4
  have h5 : ∀ (R : Type) (k : List Int → Int → Option R), ref02_add_l6 F k F b a 0 0 = k r c' := h5
  have hw : Wd (r ++ [c']) := Wd.append h1 (Wd.one (by omega))
  simp (disch := omega) only [bs, ↓if_pos, ↓if_neg, List.nil_append]
  refine Eq.trans (h5 _ _) ?_
  simp (disch := omega) only [bs, ↓if_pos, ↓if_neg, trim_eq F hF hw (by simp; omega)]
  rw [wv_append, h2]
  simp only [wv, Nat.mul_zero, Nat.add_zero]
  rw [Nat.mul_comm, h4]
  simp
theorem add_eq (F : Nat) (hF : Fuel F) {a b : List Int} (ha : Wd a) (hb : Wd b) (hla : (a.length : Int) ≤ 1000000000) (hlb : (b.length : Int) ≤ 1000000000) : ref02_add F a b = some (ofn (wv a + wv b), ()) := by
  unfold ref02_add
  by_cases h : a.length < b.length
  · simp (disch := omega) only [bs, ↓if_pos, ↓if_neg, add_j3_eq F hF _ hb ha (by omega) hlb]
    rw [Nat.add_comm]
  · simp (disch := omega) only [bs, ↓if_pos, ↓if_neg, add_j3_eq F hF _ ha hb (by omega) hla]
/- sub -/
theorem sub_loop (F : Nat) {b : List Int} (hb : Wd b) : ∀ (ra d : List Int) (c : Int), Wd ra → b.length ≤ d.length + ra.length → ((d ++ ra).length : Int) ≤ 140737488355328 → 0 ≤ c ∧ c ≤ 1 →
    ∀ N, ra.length < N → ∃ (r : List Int) (c' : Int), Wd r ∧ r.length = ra.length ∧ (0 ≤ c' ∧ c' ≤ 1) ∧ wv r + wv (b.drop d.length) + c.toNat = wv ra + c'.toNat * 18446744073709551616 ^ ra.length ∧
      ∀ (R : Type) (k : List Int → Option R), ref02_sub_l4 F k N b (d ++ ra) c (d.length : Int) = k (d ++ r) := by
  intro ra
  induction ra with
  | nil =>
    intro d c _ hbl hl hc N hN
    obtain ⟨N, rfl⟩ : ∃ M, N = M + 1 := ⟨N - 1, by omega⟩
    refine ⟨[], c, Wd.nil, rfl, hc, ?_, ?_⟩
    · rw [List.drop_eq_nil_of_le (by simpa using hbl)]; simp [wv]
    · intro R k
      unfold ref02_sub_l4
      have : (d ++ ([] : List Int)).length = d.length := by simp
      simp (disch := omega) only [bs, ↓if_pos, ↓if_neg]
  | cons x t ih =>
    intro d c hra hbl hl hc N hN
    obtain ⟨N, rfl⟩ : ∃ M, N = M + 1 := ⟨N - 1, by omega⟩
    have hx := Wd.head hra
    have hlen : (d ++ x :: t).length = d.length + (t.length + 1) := by simp
    have fin : ∀ y : Int, 0 ≤ y ∧ y ≤ 18446744073709551615 → wv (b.drop d.length) = y.toNat + 18446744073709551616 * wv (b.drop (d.length + 1)) →
        ∃ (r : List Int) (c' : Int), Wd r ∧ r.length = (x :: t).length ∧ (0 ≤ c' ∧ c' ≤ 1) ∧ wv r + wv (b.drop d.length) + c.toNat = wv (x :: t) + c'.toNat * 18446744073709551616 ^ (x :: t).length ∧
          ∀ (R : Type) (k : List Int → Option R), ref02_sub_j9 F (fun z18 z19 z20 z21 => ref02_sub_l4 F k N z18 z19 z20 (addI .i64 z21 1)) b (d ++ x :: t) c (d.length : Int) y = k (d ++ r) := by
      intro y hy hw
      obtain ⟨r, c', h1, h2, h3, h4, h5⟩ := ih (d ++ [(x - y - c) % 18446744073709551616]) (if x < y + c then 1 else 0) (Wd.tail hra) (by simp at hbl ⊢; omega) (by simp at hl ⊢; omega) (by split <;> omega) N (by simp at hN; omega)
      refine ⟨(x - y - c) % 18446744073709551616 :: r, c', Wd.cons (by omega) h1, by simp [h2], h3, ?_, ?_⟩
      · simp only [List.length_append, List.length_singleton] at h4
        simp only [wv, List.length_cons, Nat.pow_succ, hw]
        rw [← Nat.mul_assoc]
        generalize c'.toNat * 18446744073709551616 ^ t.length = T at *
        split at h4 <;> omega
      · intro R k
        unfold ref02_sub_j9 bits_Sub64
        have hcond : (leI 0 x && leI 0 y && leI y 18446744073709551615 && leI 0 c && leI c 1) = true := by simp only [Bool.and_eq_true, leI_true]; omega
        simp (disch := omega) only [bs, ↓if_pos, ↓if_neg, get_mid, set_mid, hcond]
        simp only [List.length_append, List.length_singleton] at h5
        have h5 := h5 R k
        simpa using h5
    by_cases hy : d.length < b.length
    · obtain ⟨r, c', h1, h2, h3, h4, h5⟩ := fin (b.getD d.length 0) (getD_all (P := fun x => 0 ≤ x ∧ x ≤ 18446744073709551615) hb (by omega) _) (by rw [split_at hy]; rfl)
      refine ⟨r, c', h1, h2, h3, h4, fun R k => ?_⟩
      unfold ref02_sub_l4
      simp (disch := omega) only [bs, ↓if_pos, ↓if_neg, getL_nat]
      exact h5 R k
    · obtain ⟨r, c', h1, h2, h3, h4, h5⟩ := fin 0 (by omega) (by rw [List.drop_eq_nil_of_le (by omega), List.drop_eq_nil_of_le (by omega)]; rfl)
      refine ⟨r, c', h1, h2, h3, h4, fun R k => ?_⟩
      unfold ref02_sub_l4
      simp (disch := omega) only [bs, ↓if_pos, ↓if_neg]
      exact h5 R k
theorem borrow_none {a b r c : Nat} {P : Nat} (h : r + b = a + c * P) (hr : r < P) (hba : b ≤ a) : c = 0 := by
  rcases Nat.eq_zero_or_pos c with h0 | h0
  · exact h0
  · have : 1 * P ≤ c * P := Nat.mul_le_mul_right _ h0
    omega
theorem sub_eq (F : Nat) (hF : Fuel F) {a b : List Int} (ha : Wd a) (hb : Wd b) (hl : b.length ≤ a.length) (hla : (a.length : Int) ≤ 1000000000) (hba : wv b ≤ wv a) : ref02_sub F a b = some (ofn (wv a - wv b), ()) := by
  unfold ref02_sub
  obtain ⟨r, c', h1, h2, h3, h4, h5⟩ := sub_loop F hb a [] 0 ha (by simpa using hl) (by simp; omega) (by omega) F (by unfold Fuel at hF; omega)
  simp only [List.nil_append, List.drop_zero, List.length_nil, Int.toNat_zero, Nat.add_zero] at h4
  have h5 : ∀ (R : Type) (k : List Int → Option R), ref02_sub_l4 F k F b a 0 0 = k r := h5
  have h6 := wv_lt h1
  rw [h2] at h6
  have h7 := borrow_none h4 h6 hba
  rw [h7] at h4
  simp (disch := omega) only [bs, ↓if_pos, ↓if_neg, List.nil_append]
  refine Eq.trans (h5 _ _) ?_
  simp (disch := omega) only [bs, ↓if_pos, ↓if_neg, trim_eq F hF h1 (by omega)]
  rw [show wv r = wv a - wv b by omega]
theorem subw_l4_eq (F : Nat) {R : Type} (k : List Int → List Int → Option R) : ∀ N b x c i, ref02_subw_l4 F k N b x c i = ref02_sub_l4 F (k b) N b x c i := by
  intro N
  induction N with
  | zero => intro b x c i; rfl
  | succ N ih => intro b x c i; unfold ref02_subw_l4 ref02_sub_l4 ref02_subw_j9 ref02_sub_j9; simp only [ih]
theorem subw_eq (F : Nat) (hF : Fuel F) {a b : List Int} (ha : Wd a) (hb : Wd b) (hl : b.length ≤ a.length) (hla : (a.length : Int) ≤ 1000000000) (hba : wv b ≤ wv a) : ref02_subw F a b = some (b, ofn (wv a - wv b), ()) := by
  have h := sub_eq F hF ha hb hl hla hba
  unfold ref02_sub at h
  unfold ref02_subw
  rw [subw_l4_eq]
  obtain ⟨r, c', h1, h2, h3, h4, h5⟩ := sub_loop F hb a [] 0 ha (by simpa using hl) (by simp; omega) (by omega) F (by unfold Fuel at hF; omega)
  simp only [List.nil_append, List.drop_zero, List.length_nil, Int.toNat_zero, Nat.add_zero] at h4
  have h5 : ∀ (R : Type) (k : List Int → Option R), ref02_sub_l4 F k F b a 0 0 = k r := h5
  have h6 := wv_lt h1
  rw [h2] at h6
  have h7 := borrow_none h4 h6 hba
  rw [h7] at h4
  simp (disch := omega) only [bs, ↓if_pos, ↓if_neg, List.nil_append]
  refine Eq.trans (h5 _ _) ?_
  simp (disch := omega) only [bs, ↓if_pos, ↓if_neg, trim_eq F hF h1 (by omega)]
  rw [show wv r = wv a - wv b by omega]
end Go.Proofs.YtfmjokmjaghehaaGreat
