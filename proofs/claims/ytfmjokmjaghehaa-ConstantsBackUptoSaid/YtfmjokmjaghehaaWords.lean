
/- Numbers of many words, as the document reckons with them (chapter 02). -/
import Derived.Test.YtfmjokmjaghehaaVarint2
set_option linter.unusedVariables false
set_option linter.unusedSimpArgs false
namespace Go.Proofs.Ytfmjokmjaghehaa
open Go.Eng

theorem Wd.tail {x : Int} {t : List Int} (h : Wd (x :: t)) : Wd t := fun y hy => h y (List.mem_cons_of_mem _ hy)
theorem Wd.head {x : Int} {t : List Int} (h : Wd (x :: t)) : 0 ≤ x ∧ x ≤ 18446744073709551615 := h x (by simp)
theorem Wd.left {a b : List Int} (h : Wd (a ++ b)) : Wd a := fun y hy => h y (List.mem_append_left _ hy)
theorem Wd.right {a b : List Int} (h : Wd (a ++ b)) : Wd b := fun y hy => h y (List.mem_append_right _ hy)
theorem Wd.take {a : List Int} (h : Wd a) (n : Nat) : Wd (a.take n) := fun y hy => h y (List.mem_of_mem_take hy)
theorem Wd.drop {a : List Int} (h : Wd a) (n : Nat) : Wd (a.drop n) := fun y hy => h y (List.mem_of_mem_drop hy)
theorem Wd.cons {x : Int} {t : List Int} (h : 0 ≤ x ∧ x ≤ 18446744073709551615) (ht : Wd t) : Wd (x :: t) := by
  intro y hy
  rcases List.mem_cons.1 hy with h1 | h1
  · rw [h1]; exact h
  · exact ht y h1

/- add -/
theorem split_at {l : List Int} {i : Nat} (h : i < l.length) : l.drop i = l.getD i 0 :: l.drop (i + 1) := by
  rw [List.getD_eq_getElem?_getD, List.getElem?_eq_getElem h, List.drop_eq_getElem_cons h]; rfl

theorem set_mid (d : List Int) (x y : Int) (t : List Int) : setL (d ++ x :: t) (d.length : Int) y = (d ++ [y]) ++ t := by
  simp [setL]
theorem get_mid (d : List Int) (x : Int) (t : List Int) : getL 0 (d ++ x :: t) (d.length : Int) = x := by
  simp [getL]

end Go.Proofs.Ytfmjokmjaghehaa
