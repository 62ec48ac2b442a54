/- Numbers of 256 bits with a sign, as the document reckons with them. -/
import Derived.Test.YtfmjokmjaghehaaWords3
set_option linter.unusedVariables false
set_option linter.unusedSimpArgs false
namespace Go.Proofs.Ytfmjokmjaghehaa
open Go.Eng

abbrev W := Bool × (List Int × Unit)

/-- what is less than this has a place in four words -/
def top256 : Nat := 18446744073709551616 ^ 4

def WOk (w : W) : Prop := Wd w.2.1 ∧ w.2.1.length = 4
/-- the integer of a wide number -/
def wi (w : W) : Int := if w.1 then -(wv w.2.1 : Int) else (wv w.2.1 : Int)
/-- four words -/
def pad4 (v : Nat) : List Int := ofn v ++ List.replicate (4 - (ofn v).length) 0
/-- the wide number of an integer -/
def toW (z : Int) : W := (decide (z < 0), pad4 z.natAbs, ())

theorem wv_zeros (n : Nat) : wv (List.replicate n (0 : Int)) = 0 := by
  induction n with
  | zero => rfl
  | succ n ih => simp [List.replicate_succ, wv, ih]

theorem wv_pad4 (v : Nat) : wv (pad4 v) = v := by
  unfold pad4
  rw [wv_append, wv_zeros, wv_ofn]; simp

theorem pad4_Wd (v : Nat) : Wd (pad4 v) := Wd.append (ofn_Wd v) (fun x hx => by rw [List.eq_of_mem_replicate hx]; omega)
theorem pad4_length {v : Nat} (h : v < top256) : (pad4 v).length = 4 := by
  have := ofn_length_lt (n := 4) h
  simp [pad4]; omega

theorem wv_inj : ∀ {a b : List Int}, Wd a → Wd b → a.length = b.length → wv a = wv b → a = b
  | [], [], _, _, _, _ => rfl
  | [], y :: b, _, _, h, _ => by simp at h
  | x :: a, [], _, _, h, _ => by simp at h
  | x :: a, y :: b, ha, hb, h, e => by
    have hx := Wd.head ha
    have hy := Wd.head hb
    simp only [wv] at e
    rw [wv_inj (Wd.tail ha) (Wd.tail hb) (by simpa using h) (by omega), show x = y by omega]

theorem WOk.lt {w : W} (h : WOk w) : wv w.2.1 < top256 := by
  have := wv_lt h.1
  rw [h.2] at this
  exact this

theorem pad4_wv {l : List Int} (h : Wd l) (hl : l.length = 4) : pad4 (wv l) = l := by
  have := wv_lt h
  rw [hl] at this
  exact wv_inj (pad4_Wd _) h (by rw [pad4_length this, hl]) (wv_pad4 _)

theorem toW_ok {z : Int} (h : z.natAbs < top256) : WOk (toW z) := ⟨pad4_Wd _, pad4_length h⟩
theorem wi_toW (z : Int) : wi (toW z) = z := by
  unfold wi toW
  simp only [wv_pad4, decide_eq_true_eq]
  split <;> omega
theorem wi_abs (w : W) : (wi w).natAbs = wv w.2.1 := by
  unfold wi; split <;> omega
theorem WOk.abs {w : W} (h : WOk w) : (wi w).natAbs < top256 := by rw [wi_abs]; exact h.lt

/-- a number that stands for itself -/
def Vl (w : W) : Prop := ¬ (w.1 = true ∧ wv w.2.1 = 0)
instance (w : W) : Decidable (Vl w) := by unfold Vl; infer_instance
theorem toW_Vl (z : Int) : Vl (toW z) := by
  unfold Vl toW
  simp only [wv_pad4, decide_eq_true_eq]
  omega
theorem toW_wi {w : W} (h : WOk w) (hv : Vl w) : toW (wi w) = w := by
  obtain ⟨s, l, u⟩ := w
  unfold toW
  rw [wi_abs]
  simp only
  rw [pad4_wv h.1 h.2]
  congr 1
  unfold Vl at hv
  simp only at hv
  unfold wi
  cases s
  · simp only [if_neg, Bool.false_eq_true, if_false]
    simp
    try omega
  · simp only [if_true, true_and] at hv ⊢
    simp
    omega

theorem toW_zero : toW 0 = (false, [0, 0, 0, 0], ()) := by
  unfold toW pad4
  rw [show (0 : Int).natAbs = 0 from rfl, ofn_zero]
  rfl

theorem pad4_short (l : List Int) : (ofn (wv l)).length ≤ 4 ↔ wv l < top256 := ofn_len_iff

/-- the result of a reckoning, if it has a place -/
def wres (z : Int) : W × Bool := if z.natAbs < top256 then (toW z, true) else (toW 0, false)

theorem top256_big : 18446744073709551616 ≤ top256 := by
  show 18446744073709551616 ≤ 18446744073709551616 ^ 4
  exact Nat.le_self_pow (by omega) _

theorem toW_word {v : Nat} (h : v < 18446744073709551616) (s : Bool) (hs : s = true → 0 < v) : toW (if s then -(v : Int) else v) = (s, [(v : Int), 0, 0, 0], ()) := by
  refine (toW_wi (w := (s, [(v : Int), 0, 0, 0], ())) ?_ ?_).symm.trans ?_ |>.symm
  · refine ⟨fun x hx => ?_, rfl⟩
    simp only [List.mem_cons, List.not_mem_nil, or_false] at hx
    rcases hx with h | h | h | h <;> omega
  · rintro ⟨h1, h2⟩
    simp only [wv] at h1 h2
    have := hs h1
    omega
  · unfold wi
    simp only [wv]
    congr 1

/-- the first word -/
theorem toW_first {z : Int} (h : 0 ≤ z ∧ z < 18446744073709551616) : getL 0 (toW z).2.1 0 = z := by
  have := toW_word (v := z.toNat) (by omega) false (by simp)
  simp only [Bool.false_eq_true, if_false] at this
  rw [show ((z.toNat : Nat) : Int) = z by omega] at this
  rw [this]; rfl

theorem wres_abs (s : Bool) (v : Nat) : (if s then -(v : Int) else (v : Int)).natAbs = v := by split <;> omega

end Go.Proofs.Ytfmjokmjaghehaa
