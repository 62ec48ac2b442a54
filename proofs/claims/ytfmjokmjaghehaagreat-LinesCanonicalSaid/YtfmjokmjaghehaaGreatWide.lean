
/- Numbers of 256 bits with a sign, as the document reckons with them. -/
import Derived.Test.YtfmjokmjaghehaaGreatWords3
set_option linter.unusedVariables false
set_option linter.unusedSimpArgs false
namespace Go.Proofs.YtfmjokmjaghehaaGreat
open Go.Eng
abbrev W := Bool × (List Int × Unit)
def top256 : Nat := 18446744073709551616 ^ 4
def WOk (w : W) : Prop := Wd w.2.1 ∧ w.2.1.length = 4
def wi (w : W) : Int := if w.1 then -(wv w.2.1 : Int) else (wv w.2.1 : Int)
def pad4 (v : Nat) : List Int := ofn v ++ List.replicate (4 - (ofn v).length) 0
def toW (z : Int) : W := (decide (z < 0), pad4 z.natAbs, ())
theorem wv_zeros (n : Nat) : wv (List.replicate n (0 : Int)) = 0 := by
  induction n with
  | zero => rfl
  | succ n ih => simp [List.replicate_succ, wv, ih]
theorem wv_pad4 (v : Nat) : wv (pad4 v) = v := by
  unfold pad4
  rw [wv_append, wv_zeros, wv_ofn]; simp
theorem pad4_Wd (v : Nat) : Wd (pad4 v) := Wd.append (ofn_Wd v) (fun x hx => by rw [List.eq_of_mem_replicate hx]; omega)
theorem pad4_length {v : Nat} (h : v < top256) : (pad4 v).length = 4 := by
  have := ofn_length_lt (n := 4) h
  simp [pad4]; omega
theorem wv_inj : ∀ {a b : List Int}, Wd a → Wd b → a.length = b.length → wv a = wv b → a = b
  | [], [], _, _, _, _ => rfl
  | [], y :: b, _, _, h, _ => by simp at h
  | x :: a, [], _, _, h, _ => by simp at h
  | x :: a, y :: b, ha, hb, h, e => by
    have hx := Wd.head ha
    have hy := Wd.head hb
    simp only [wv] at e
    rw [wv_inj (Wd.tail ha) (Wd.tail hb) (by simpa using h) (by omega), show x = y by omega]
theorem WOk.lt {w : W} (h : WOk w) : wv w.2.1 < top256 := by
  have := wv_lt h.1
  rw [h.2] at this
  exact this
theorem pad4_wv {l : List Int} (h : Wd l) (hl : l.length = 4) : pad4 (wv l) = l := by
  have := wv_lt h
  rw [hl] at this
  exact wv_inj (pad4_Wd _) h (by rw [pad4_length this, hl]) (wv_pad4 _)
theorem toW_ok {z : Int} (h : z.natAbs < top256) : WOk (toW z) := ⟨pad4_Wd _, pad4_length h⟩
theorem wi_toW (z : Int) : wi (toW z) = z := by
  unfold wi toW
  simp only [wv_pad4, decide_eq_true_eq]
  split <;> omega
theorem wi_abs (w : W) : (wi w).natAbs = wv w.2.1 := by
  unfold wi; split <;> omega
theorem WOk.abs {w : W} (h : WOk w) : (wi w).natAbs < top256 := by rw [wi_abs]; exact h.lt
def Vl (w : W) : Prop := ¬ (w.1 = true ∧ wv w.2.1 = 0)
instance (w : W) : Decidable (Vl w) := by unfold Vl; infer_instance
theorem toW_Vl (z : Int) : Vl (toW z) := by
  unfold Vl toW
  simp only [wv_pad4, decide_eq_true_eq]
  omega
theorem toW_wi {w : W} (h : WOk w) (hv : Vl w) : toW (wi w) = w := by
  obtain ⟨s, l, u⟩ := w
  unfold toW
  rw [wi_abs]
  simp only
  rw [pad4_wv h.1 h.2]
  congr 1
  unfold Vl at hv
  simp only at hv
  unfold wi
  cases s
  · simp only [if_neg, Bool.false_eq_true, if_false]
    simp
    try omega
  · simp only [if_true, true_and] at hv ⊢
    simp
    omega
theorem toW_zero : toW 0 = (false, [0, 0, 0, 0], ()) := by
  unfold toW pad4
  rw [show (0 : Int).natAbs = 0 from rfl, ofn_zero]
  rfl
theorem pad4_short (l : List Int) : (ofn (wv l)).length ≤ 4 ↔ wv l < top256 := ofn_len_iff
theorem ref02_of_eq (F : Nat) (hF : Fuel F) {w : W} (h : WOk w) : ref02_of F w = some (ofn (wv w.2.1), ()) := by
  obtain ⟨s, l, u⟩ := w
  have h1 := h.1
  have h2 := h.2
  simp only at h1 h2 ⊢
  unfold ref02_of
  simp (disch := omega) only [bs, ↓if_pos, ↓if_neg, List.nil_append, trim_eq F hF h1 (by omega)]
def wres (z : Int) : W × Bool := if z.natAbs < top256 then (toW z, true) else (toW 0, false)
theorem wide_loop (F : Nat) {R : Type} (k : W → W → Option R) (x4 : W) (s : Bool) {l : List Int} (hl4 : l.length ≤ 4) : ∀ (lb la : List Int), l = la ++ lb → ∀ N, lb.length < N →
    ref02_wide_l6 F k N l x4 (s, la ++ List.replicate (4 - la.length) 0, ()) (la.length : Int) = k x4 (s, l ++ List.replicate (4 - l.length) 0, ()) := by
  intro lb
  induction lb with
  | nil =>
    intro la h N hN
    obtain ⟨N, rfl⟩ : ∃ M, N = M + 1 := ⟨N - 1, by omega⟩
    have hla : l = la := by rw [h]; simp
    subst hla
    unfold ref02_wide_l6
    simp (disch := omega) only [bs, ↓if_pos, ↓if_neg]
  | cons x t ih =>
    intro la h N hN
    obtain ⟨N, rfl⟩ : ∃ M, N = M + 1 := ⟨N - 1, by omega⟩
    have e := ih (la ++ [x]) (by rw [h]; simp) N (by simp at hN; omega)
    have hlen : l.length = la.length + (t.length + 1) := by rw [h]; simp
    have hg : getL 0 l (la.length : Int) = x := by rw [h]; exact get_mid _ _ _
    have hcast : ((la ++ [x]).length : Int) = (la.length : Int) + 1 := by simp
    have hset : setL (la ++ List.replicate (4 - la.length) 0) (la.length : Int) x = (la ++ [x]) ++ List.replicate (4 - (la ++ [x]).length) 0 := by
      rw [show 4 - la.length = (4 - (la ++ [x]).length) + 1 by simp; omega, List.replicate_succ]
      exact set_mid _ _ _ _
    rw [hcast] at e
    unfold ref02_wide_l6
    simp (disch := omega) only [bs, ↓if_pos, ↓if_neg, hg, hset]
    exact e
theorem ref02_wide_eq (F : Nat) (hF : Fuel F) (s : Bool) {l : List Int} (h : Wd l) (hl : (l.length : Int) ≤ 140737488355328) :
    ref02_wide F s l = some ((wres (if s then -(wv l : Int) else (wv l : Int))).1, (wres (if s then -(wv l : Int) else (wv l : Int))).2, ()) := by
  unfold ref02_wide
  rw [trim_eq F hF h hl]
  have hab : (if s then -(wv l : Int) else (wv l : Int)).natAbs = wv l := by split <;> omega
  unfold wres
  rw [hab]
  by_cases c : wv l < top256
  · have h4 := (pad4_short l).2 c
    have e := fun (R : Type) (k : W → W → Option R) (s : Bool) => wide_loop F k (false, [0, 0, 0, 0], ()) s h4 (ofn (wv l)) [] rfl F (by unfold Fuel at hF; omega)
    have e' : ∀ (R : Type) (k : W → W → Option R) (s : Bool), ref02_wide_l6 F k F (ofn (wv l)) (false, [0, 0, 0, 0], ()) (s, [0, 0, 0, 0], ()) 0 = k (false, [0, 0, 0, 0], ()) (s, pad4 (wv l), ()) := e
    have hpos : ltI 0 ((ofn (wv l)).length : Int) = decide (0 < wv l) := by
      have := ofn_nil (v := wv l)
      unfold ltI
      apply decide_eq_decide.2
      omega
    unfold ref02_wide_j5
    cases s
    · simp (disch := omega) only [bs, ↓if_pos, ↓if_neg, e']
      unfold toW
      have : (wv l : Int).natAbs = wv l := by omega
      rw [this, show decide ((wv l : Int) < 0) = false by simp]
    · simp only [Option.bind_some, lenI, cond_true, e', hpos]
      simp (disch := omega) only [bs, ↓if_pos, ↓if_neg]
      unfold toW
      have : (-(wv l : Int)).natAbs = wv l := by omega
      rw [this]
      congr 3
      apply decide_eq_decide.2
      omega
  · have h4 : ¬ (ofn (wv l)).length ≤ 4 := fun hh => c ((pad4_short l).1 hh)
    simp (disch := omega) only [bs, ↓if_pos, ↓if_neg, toW_zero]
theorem ref02_Valid_eq (F : Nat) (hF : Fuel F) {w : W} (h : WOk w) : ref02_Valid F w = some (decide (Vl w), ()) := by
  unfold ref02_Valid Vl
  rw [ref02_of_eq F hF h]
  obtain ⟨s, l, u⟩ := w
  cases s
  · rfl
  · have := ofn_nil (v := wv l)
    simp only [Option.bind_some, lenI, Bool.not_true, cond_false, Option.some.injEq, Prod.mk.injEq, and_true, ltI, true_and]
    apply decide_eq_decide.2
    omega
theorem ref02_clean_eq (F : Nat) (hF : Fuel F) {w : W} (h : WOk w) : ref02_clean F w = some (toW (wi w), ()) := by
  unfold ref02_clean
  rw [ref02_Valid_eq F hF h]
  by_cases hv : Vl w
  · simp (disch := omega) only [bs, ↓if_pos, ↓if_neg, hv, decide_true, toW_wi h hv]
  · have : wi w = 0 := by
      unfold Vl at hv
      unfold wi
      simp only [Classical.not_not] at hv
      rw [hv.1, hv.2]; rfl
    rw [this, toW_zero]
    simp (disch := omega) only [bs, ↓if_pos, ↓if_neg, hv, decide_false]
theorem ref02_Sign_eq (F : Nat) (hF : Fuel F) {w : W} (h : WOk w) : ref02_Sign F w = some (if wi w = 0 then 0 else if wi w < 0 then -1 else 1, ()) := by
  unfold ref02_Sign
  rw [ref02_of_eq F hF h]
  have h0 := ofn_nil (v := wv w.2.1)
  obtain ⟨s, l, u⟩ := w
  unfold wi
  simp only at h0 ⊢
  by_cases c : wv l = 0
  · simp (disch := omega) only [bs, ↓if_pos, ↓if_neg]
  · cases s
    · simp (disch := omega) only [bs, ↓if_pos, ↓if_neg]
    · simp (disch := omega) only [bs, ↓if_pos, ↓if_neg]
theorem ref02_Neg_eq (F : Nat) (hF : Fuel F) {w : W} (h : WOk w) : ref02_Neg F w = some (toW (-(wi w)), ()) := by
  unfold ref02_Neg
  have hlt := h.lt
  have hl := ofn_length_lt (v := wv w.2.1) (n := 4) hlt
  rw [ref02_of_eq F hF h]
  simp only [Option.bind_some]
  rw [ref02_wide_eq F hF (!w.1) (ofn_Wd (wv w.2.1)) (by omega), wv_ofn]
  have e : (if (!w.1) = true then -(wv w.2.1 : Int) else (wv w.2.1 : Int)) = -(wi w) := by
    unfold wi; cases w.1 <;> simp
  rw [e]
  unfold wres
  rw [if_pos (by rw [Int.natAbs_neg, wi_abs]; exact hlt)]
  rfl
theorem top256_big : 18446744073709551616 ≤ top256 := by
  show 18446744073709551616 ≤ 18446744073709551616 ^ 4
  exact Nat.le_self_pow (by omega) _
theorem toW_word {v : Nat} (h : v < 18446744073709551616) (s : Bool) (hs : s = true → 0 < v) : toW (if s then -(v : Int) else v) = (s, [(v : Int), 0, 0, 0], ()) := by
  refine (toW_wi (w := (s, [(v : Int), 0, 0, 0], ())) ?_ ?_).symm.trans ?_ |>.symm
  · refine ⟨fun x hx => ?_, rfl⟩
    simp only [List.mem_cons, List.not_mem_nil, or_false] at hx
    rcases hx with h | h | h | h <;> omega
  · rintro ⟨h1, h2⟩
    simp only [wv] at h1 h2
    have := hs h1
    omega
  · unfold wi
    simp only [wv]
    congr 1
theorem ref02_Of_eq (F : Nat) {x : Int} (h : I64 x) : ref02_Of F x = some (toW x, ()) := by
  unfold I64 at h
  unfold ref02_Of
  have hw : IntKind.u64.wrap x = if 0 ≤ x then x else x + 18446744073709551616 := by rw [wrap_u64_mod]; split <;> omega
  by_cases c : x < 0
  · have hs : subI .u64 0 (IntKind.u64.wrap x) = ((-x).toNat : Int) := by
      show IntKind.u64.wrap (0 - IntKind.u64.wrap x) = _
      rw [hw, wrap_u64_mod]
      split <;> omega
    have := toW_word (v := (-x).toNat) (by omega) true (by intro; omega)
    simp (disch := omega) only [bs, ↓if_pos, ↓if_neg, hs]
    rw [← this]
    simp only [if_true]
    rw [show -(((-x).toNat : Nat) : Int) = x by omega]
  · have := toW_word (v := x.toNat) (by omega) false (by simp)
    have hw' : IntKind.u64.wrap x = (x.toNat : Int) := by rw [hw]; split <;> omega
    simp (disch := omega) only [bs, ↓if_pos, ↓if_neg, hw']
    rw [← this]
    simp only [Bool.false_eq_true, if_false]
    rw [show ((x.toNat : Nat) : Int) = x by omega]
theorem ref02_OfUnsigned_eq (F : Nat) {x : Int} (h : 0 ≤ x ∧ x ≤ 18446744073709551615) : ref02_OfUnsigned F x = some (toW x, ()) := by
  unfold ref02_OfUnsigned
  have := toW_word (v := x.toNat) (by omega) false (by simp)
  simp only [Bool.false_eq_true, if_false] at this
  rw [show ((x.toNat : Nat) : Int) = x by omega] at this
  rw [this]
theorem toW_first {z : Int} (h : 0 ≤ z ∧ z < 18446744073709551616) : getL 0 (toW z).2.1 0 = z := by
  have := toW_word (v := z.toNat) (by omega) false (by simp)
  simp only [Bool.false_eq_true, if_false] at this
  rw [show ((z.toNat : Nat) : Int) = z by omega] at this
  rw [this]; rfl
theorem ref02_Unsigned_eq (F : Nat) (hF : Fuel F) {w : W} (h : WOk w) : ref02_Unsigned F w = some (if 0 ≤ wi w ∧ wi w < 18446744073709551616 then wi w else 0, decide (0 ≤ wi w ∧ wi w < 18446744073709551616), ()) := by
  unfold ref02_Unsigned
  rw [ref02_clean_eq F hF h]
  have hok := toW_ok h.abs
  simp (disch := omega) only [bs, ↓if_pos, ↓if_neg, ref02_of_eq F hF hok]
  rw [show (toW (wi w)).1 = decide (wi w < 0) from rfl, show wv (toW (wi w)).2.1 = (wi w).natAbs from wv_pad4 _]
  have hlen := ofn_len_iff (v := (wi w).natAbs) (n := 1)
  rw [Nat.pow_one] at hlen
  by_cases c : wi w < 0
  · simp only [c, decide_true, if_true]
    rw [if_neg (by omega), decide_eq_false (by omega)]
  · simp only [c, decide_false, Bool.false_eq_true, if_false]
    by_cases c2 : wi w < 18446744073709551616
    · rw [if_neg (by omega), if_pos (by omega), decide_eq_true (by omega), toW_first (by omega)]
    · rw [if_pos (by omega), if_neg (by omega), decide_eq_false (by omega)]
theorem ref02_Mul_eq (F : Nat) (hF : Fuel F) {x y : W} (hx : WOk x) (hy : WOk y) : ref02_Mul F x y = some ((wres (wi x * wi y)).1, (wres (wi x * wi y)).2, ()) := by
  unfold ref02_Mul
  have hxo := toW_ok hx.abs
  have hyo := toW_ok hy.abs
  rw [ref02_clean_eq F hF hx, ref02_clean_eq F hF hy]
  have l1 := ofn_length_lt (v := (wi x).natAbs) (n := 4) hx.abs
  have l2 := ofn_length_lt (v := (wi y).natAbs) (n := 4) hy.abs
  have v1 : wv (toW (wi x)).2.1 = (wi x).natAbs := wv_pad4 _
  have v2 : wv (toW (wi y)).2.1 = (wi y).natAbs := wv_pad4 _
  simp (disch := omega) only [bs, ↓if_pos, ↓if_neg, ref02_of_eq F hF hxo, ref02_of_eq F hF hyo, v1, v2]
  rw [mul_eq F hF (ofn_Wd _) (ofn_Wd _) (by omega) (by omega), wv_ofn, wv_ofn]
  have l3 := ofn_length_lt (v := (wi x).natAbs * (wi y).natAbs) (n := 8) (by
    have := Nat.mul_lt_mul'' hx.abs hy.abs
    exact Nat.lt_of_lt_of_eq this (by rw [top256, ← Nat.pow_add]))
  simp (disch := omega) only [bs, ↓if_pos, ↓if_neg]
  rw [ref02_wide_eq F hF _ (ofn_Wd _) (by omega), wv_ofn]
  have e : (if (!eqT Ty.bool (toW (wi x)).1 (toW (wi y)).1) = true then -(((wi x).natAbs * (wi y).natAbs : Nat) : Int) else (((wi x).natAbs * (wi y).natAbs : Nat) : Int)) = wi x * wi y := by
    rw [show (toW (wi x)).1 = decide (wi x < 0) from rfl, show (toW (wi y)).1 = decide (wi y < 0) from rfl]
    generalize wi x = a
    generalize wi y = b
    show (if (!(decide (a < 0) == decide (b < 0))) = true then _ else _) = _
    by_cases ha : a < 0 <;> by_cases hb : b < 0
    · simp only [ha, hb, decide_true, beq_self_eq_true, Bool.not_true, Bool.false_eq_true, if_false]
      rw [Int.natCast_mul, show ((a.natAbs : Nat) : Int) = -a by omega, show ((b.natAbs : Nat) : Int) = -b by omega, Int.neg_mul_neg]
    · simp [ha, hb]
      rw [show ((b.natAbs : Nat) : Int) = b by omega, show ((a.natAbs : Nat) : Int) = -a by omega, Int.neg_mul, Int.neg_neg]
    · simp [ha, hb]
      rw [show ((b.natAbs : Nat) : Int) = -b by omega, show ((a.natAbs : Nat) : Int) = a by omega, Int.mul_neg, Int.neg_neg]
    · simp only [ha, hb, decide_false, beq_self_eq_true, Bool.not_true, Bool.false_eq_true, if_false]
      rw [Int.natCast_mul, show ((a.natAbs : Nat) : Int) = a by omega, show ((b.natAbs : Nat) : Int) = b by omega]
  rw [e]
  simp (disch := omega) only [bs, ↓if_pos, ↓if_neg]
theorem ref02_Add_eq (F : Nat) (hF : Fuel F) {x y : W} (hx : WOk x) (hy : WOk y) : ref02_Add F x y = some ((wres (wi x + wi y)).1, (wres (wi x + wi y)).2, ()) := by
  unfold ref02_Add
  have hxo := toW_ok hx.abs
  have hyo := toW_ok hy.abs
  rw [ref02_clean_eq F hF hx, ref02_clean_eq F hF hy]
  have ax := hx.abs
  have ay := hy.abs
  have l1 := ofn_length_lt (v := (wi x).natAbs) (n := 4) hx.abs
  have l2 := ofn_length_lt (v := (wi y).natAbs) (n := 4) hy.abs
  have v1 : wv (toW (wi x)).2.1 = (wi x).natAbs := wv_pad4 _
  have v2 : wv (toW (wi y)).2.1 = (wi y).natAbs := wv_pad4 _
  simp only [Option.bind_some, ref02_of_eq F hF hxo, ref02_of_eq F hF hyo, v1, v2]
  rw [show (toW (wi x)).1 = decide (wi x < 0) from rfl, show (toW (wi y)).1 = decide (wi y < 0) from rfl]
  generalize wi x = a at *
  generalize wi y = b at *
  rw [add_eq F hF (ofn_Wd _) (ofn_Wd _) (by omega) (by omega), wv_ofn, wv_ofn, compare_eq F hF (by omega) (by omega)]
  have l3 := ofn_length_lt (v := a.natAbs + b.natAbs) (n := 5) (by
    have : top256 + top256 ≤ 18446744073709551616 ^ 5 := by decide
    omega)
  have fin : ∀ (s : Bool) (v : Nat), v < top256 + top256 → (if s then -(v : Int) else (v : Int)) = a + b → ((ref02_wide F s (ofn v)).bind fun r7 => some (r7.1, r7.2.1, ())) = some ((wres (a + b)).1, (wres (a + b)).2, ()) := by
    intro s v hv he
    have lv := ofn_length_lt (v := v) (n := 5) (by
      have : top256 + top256 ≤ 18446744073709551616 ^ 5 := by decide
      omega)
    rw [ref02_wide_eq F hF s (ofn_Wd v) (by omega), wv_ofn, he]
    rfl
  have hlenle : ∀ m n : Nat, m ≤ n → (ofn m).length ≤ (ofn n).length := fun m n hmn =>
    ofn_len_iff.2 (Nat.lt_of_le_of_lt hmn (ofn_len_iff.1 (Nat.le_refl _)))
  by_cases hs : decide (a < 0) = decide (b < 0)
  · have : eqT Ty.bool (decide (a < 0)) (decide (b < 0)) = true := by rw [hs]; show (decide (b < 0) == decide (b < 0)) = true; simp
    rw [this, cond_true]
    simp only [Option.bind_some]
    refine fin _ _ (by omega) ?_
    have hs := decide_eq_decide.1 hs
    by_cases ha : a < 0
    · simp only [ha, decide_true, if_true]; omega
    · simp only [ha, decide_false, Bool.false_eq_true, if_false]; omega
  · have : eqT Ty.bool (decide (a < 0)) (decide (b < 0)) = false := by show (decide (a < 0) == decide (b < 0)) = false; simpa using hs
    rw [this, cond_false]
    simp only [Option.bind_some]
    have hs : ¬ (a < 0 ↔ b < 0) := fun h => hs (decide_eq_decide.2 h)
    unfold cmpN
    by_cases hc : b.natAbs ≤ a.natAbs
    · have : leI 0 (if a.natAbs < b.natAbs then (-1 : Int) else if b.natAbs < a.natAbs then 1 else 0) = true := by
        rw [leI_true]; split
        · omega
        · split <;> omega
      rw [this, cond_true, sub_eq F hF (ofn_Wd _) (ofn_Wd _) (hlenle _ _ hc) (by omega) (by rw [wv_ofn, wv_ofn]; exact hc), wv_ofn, wv_ofn]
      simp only [Option.bind_some]
      refine fin _ _ (by omega) ?_
      by_cases ha : a < 0
      · simp only [ha, decide_true, if_true]; omega
      · simp only [ha, decide_false, Bool.false_eq_true, if_false]; omega
    · have : leI 0 (if a.natAbs < b.natAbs then (-1 : Int) else if b.natAbs < a.natAbs then 1 else 0) = false := by
        rw [← Bool.not_eq_true, leI_true, if_pos (by omega)]; omega
      rw [this, cond_false, sub_eq F hF (ofn_Wd _) (ofn_Wd _) (hlenle _ _ (by omega)) (by omega) (by rw [wv_ofn, wv_ofn]; omega), wv_ofn, wv_ofn]
      simp only [Option.bind_some]
      refine fin _ _ (by omega) ?_
      by_cases hb : b < 0
      · simp only [hb, decide_true, if_true]; omega
      · simp only [hb, decide_false, Bool.false_eq_true, if_false]; omega
end Go.Proofs.YtfmjokmjaghehaaGreat
