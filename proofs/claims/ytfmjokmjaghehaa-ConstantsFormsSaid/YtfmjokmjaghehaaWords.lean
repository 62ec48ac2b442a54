/- Numbers of many words, as the document reckons with them (chapter 02). -/
import Derived.Test.YtfmjokmjaghehaaVarint2
set_option linter.unusedVariables false
set_option linter.unusedSimpArgs false
namespace Go.Proofs.Ytfmjokmjaghehaa
open Go.Eng

/-- the number of words -/
def wv : List Int → Nat
  | [] => 0
  | x :: t => x.toNat + 18446744073709551616 * wv t

/-- the words of a number, without zeros at the top -/
def ofn (v : Nat) : List Int := if v = 0 then [] else ((v % 18446744073709551616 : Nat) : Int) :: ofn (v / 18446744073709551616)
termination_by v
decreasing_by omega

theorem ofn_zero : ofn 0 = [] := by rw [ofn]; rfl
theorem ofn_pos {v : Nat} (h : v ≠ 0) : ofn v = ((v % 18446744073709551616 : Nat) : Int) :: ofn (v / 18446744073709551616) := by rw [ofn, if_neg h]

theorem wv_ofn (v : Nat) : wv (ofn v) = v := by
  induction v using Nat.strongRecOn with
  | _ v ih =>
    by_cases h : v = 0
    · subst h; rw [ofn_zero]; rfl
    · rw [ofn_pos h, wv, ih _ (by omega)]; omega

theorem ofn_Wd (v : Nat) : Wd (ofn v) := by
  induction v using Nat.strongRecOn with
  | _ v ih =>
    by_cases h : v = 0
    · subst h; rw [ofn_zero]; exact Wd.nil
    · rw [ofn_pos h]
      intro x hx
      rcases List.mem_cons.1 hx with h1 | h1
      · omega
      · exact ih (v / 18446744073709551616) (by omega) x h1

theorem wv_append (a b : List Int) : wv (a ++ b) = wv a + 18446744073709551616 ^ a.length * wv b := by
  induction a with
  | nil => simp [wv]
  | cons x t ih =>
    simp only [List.cons_append, wv, ih, List.length_cons, Nat.pow_succ]
    rw [Nat.mul_add, Nat.mul_comm (18446744073709551616 ^ t.length) 18446744073709551616, Nat.mul_assoc, Nat.add_assoc]

theorem Wd.tail {x : Int} {t : List Int} (h : Wd (x :: t)) : Wd t := fun y hy => h y (List.mem_cons_of_mem _ hy)
theorem Wd.head {x : Int} {t : List Int} (h : Wd (x :: t)) : 0 ≤ x ∧ x ≤ 18446744073709551615 := h x (by simp)
theorem Wd.left {a b : List Int} (h : Wd (a ++ b)) : Wd a := fun y hy => h y (List.mem_append_left _ hy)
theorem Wd.right {a b : List Int} (h : Wd (a ++ b)) : Wd b := fun y hy => h y (List.mem_append_right _ hy)
theorem Wd.take {a : List Int} (h : Wd a) (n : Nat) : Wd (a.take n) := fun y hy => h y (List.mem_of_mem_take hy)
theorem Wd.drop {a : List Int} (h : Wd a) (n : Nat) : Wd (a.drop n) := fun y hy => h y (List.mem_of_mem_drop hy)
theorem Wd.cons {x : Int} {t : List Int} (h : 0 ≤ x ∧ x ≤ 18446744073709551615) (ht : Wd t) : Wd (x :: t) := by
  intro y hy
  rcases List.mem_cons.1 hy with h1 | h1
  · rw [h1]; exact h
  · exact ht y h1

theorem wv_lt {a : List Int} (h : Wd a) : wv a < 18446744073709551616 ^ a.length := by
  induction a with
  | nil => simp [wv]
  | cons x t ih =>
    have := ih (Wd.tail h)
    have := Wd.head h
    simp only [wv, List.length_cons, Nat.pow_succ]
    omega

theorem ofn_wv : ∀ {l : List Int}, Wd l → (l = [] ∨ lst l ≠ 0) → ofn (wv l) = l
  | [], _, _ => by rw [wv, ofn_zero]
  | [x], hb, h => by
    have hx := Wd.head hb
    have h : x ≠ 0 := h.elim (fun h => by simp at h) id
    simp only [wv]
    rw [ofn_pos (by omega), show (x.toNat + 18446744073709551616 * 0) / 18446744073709551616 = 0 by omega, ofn_zero]
    simp; omega
  | x :: y :: t, hb, h => by
    have hx := Wd.head hb
    have h : lst (y :: t) ≠ 0 := h.elim (fun h => by simp at h) (fun h => by rwa [lst_cons (by simp)] at h)
    have e := ofn_wv (Wd.tail hb) (.inr h)
    have hp : wv (y :: t) ≠ 0 := fun h0 => by
      rw [h0, ofn_zero] at e
      simp at e
    rw [wv, ofn_pos (by omega), show (x.toNat + 18446744073709551616 * wv (y :: t)) / 18446744073709551616 = wv (y :: t) by omega, e]
    congr 1
    omega

theorem ofn_length_lt {v n : Nat} (h : v < 18446744073709551616 ^ n) : (ofn v).length ≤ n := by
  induction n generalizing v with
  | zero => simp at h; subst h; rw [ofn_zero]; simp
  | succ n ih =>
    by_cases hv : v = 0
    · subst hv; rw [ofn_zero]; simp
    · rw [ofn_pos hv, List.length_cons]
      have := ih (v := v / 18446744073709551616) (by rw [Nat.pow_succ] at h; exact Nat.div_lt_of_lt_mul (by rw [Nat.mul_comm]; exact h))
      omega

theorem ofn_ge {v n : Nat} (h : (ofn v).length ≤ n) : v < 18446744073709551616 ^ n := by
  have h1 := wv_lt (ofn_Wd v)
  rw [wv_ofn] at h1
  exact Nat.lt_of_lt_of_le h1 (Nat.pow_le_pow_right (by omega) h)

theorem ofn_len_iff {v n : Nat} : (ofn v).length ≤ n ↔ v < 18446744073709551616 ^ n := ⟨ofn_ge, ofn_length_lt⟩

theorem ofn_nil {v : Nat} : (ofn v).length = 0 ↔ v = 0 := by
  have := ofn_len_iff (v := v) (n := 0)
  simp only [Nat.pow_zero] at this
  omega

/- compare -/
def cmpN (a b : Nat) : Int := if a < b then -1 else if b < a then 1 else 0

theorem take_snoc {l : List Int} {m : Nat} (h : m < l.length) : l.take (m + 1) = l.take m ++ [l.getD m 0] := by
  rw [List.take_succ_eq_append_getElem h, List.getD_eq_getElem?_getD, List.getElem?_eq_getElem h]; rfl

/- add -/
theorem split_at {l : List Int} {i : Nat} (h : i < l.length) : l.drop i = l.getD i 0 :: l.drop (i + 1) := by
  rw [List.getD_eq_getElem?_getD, List.getElem?_eq_getElem h, List.drop_eq_getElem_cons h]; rfl

theorem set_mid (d : List Int) (x y : Int) (t : List Int) : setL (d ++ x :: t) (d.length : Int) y = (d ++ [y]) ++ t := by
  simp [setL]
theorem get_mid (d : List Int) (x : Int) (t : List Int) : getL 0 (d ++ x :: t) (d.length : Int) = x := by
  simp [getL]

theorem borrow_none {a b r c : Nat} {P : Nat} (h : r + b = a + c * P) (hr : r < P) (hba : b ≤ a) : c = 0 := by
  rcases Nat.eq_zero_or_pos c with h0 | h0
  · exact h0
  · have : 1 * P ≤ c * P := Nat.mul_le_mul_right _ h0
    omega

end Go.Proofs.Ytfmjokmjaghehaa
