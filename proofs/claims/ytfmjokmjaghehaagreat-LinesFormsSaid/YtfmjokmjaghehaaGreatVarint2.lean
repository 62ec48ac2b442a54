
/- Layer 5: varint, reading numbers of 64 bits. -/
import Derived.Test.YtfmjokmjaghehaaGreatVarint
set_option linter.unusedVariables false
set_option linter.unusedSimpArgs false
namespace Go.Proofs.YtfmjokmjaghehaaGreat
open Go.Eng
def Grp : List Int → Prop
  | [] => False
  | [x] => x < 128
  | x :: t => 128 ≤ x ∧ Grp t
theorem Grp.cons {x : Int} {t : List Int} (hx : 128 ≤ x) (h : Grp t) : Grp (x :: t) := by
  cases t with
  | nil => exact h.elim
  | cons y t => exact ⟨hx, h⟩
def dv : List Int → Nat
  | [] => 0
  | x :: t => (x % 128).toNat + 128 * dv t
def lst : List Int → Int
  | [] => 0
  | [x] => x
  | _ :: t => lst t
theorem lst_cons {x : Int} {t : List Int} (h : t ≠ []) : lst (x :: t) = lst t := by
  cases t with
  | nil => exact absurd rfl h
  | cons y t => rfl
theorem lst_getD : ∀ (c : List Int), c ≠ [] → c.getD (c.length - 1) 0 = lst c
  | [], h => absurd rfl h
  | [x], _ => rfl
  | x :: y :: t, _ => by
    rw [lst_cons (by simp), ← lst_getD (y :: t) (by simp)]
    simp
theorem Bt.tail {x : Int} {t : List Int} (h : Bt (x :: t)) : Bt t := fun y hy => h y (List.mem_cons_of_mem _ hy)
theorem Bt.left {a b : List Int} (h : Bt (a ++ b)) : Bt a := fun y hy => h y (List.mem_append_left _ hy)
theorem Bt.right {a b : List Int} (h : Bt (a ++ b)) : Bt b := fun y hy => h y (List.mem_append_right _ hy)
theorem Bt.take {a : List Int} (h : Bt a) (n : Nat) : Bt (a.take n) := fun y hy => h y (List.mem_of_mem_take hy)
theorem Bt.drop {a : List Int} (h : Bt a) (n : Nat) : Bt (a.drop n) := fun y hy => h y (List.mem_of_mem_drop hy)
end Go.Proofs.YtfmjokmjaghehaaGreat
