
/- Lines: what Valid and Encode say. -/
import Derived.Test.YtfmjokmjaghehaaGreatConst3
import Derived.Test.YtfmjokmjaghehaaGreatDiv5
set_option linter.unusedVariables false
set_option linter.unusedSimpArgs false
namespace Go.Proofs.YtfmjokmjaghehaaGreat
open Go.Eng
abbrev Ln := Int × (Int × (Rt × Unit))
abbrev zR : Rt := ((false, [0, 0, 0, 0], ()), ((false, [0, 0, 0, 0], ()), ()))
abbrev zL : Ln := (0, (0, (zR, ())))
def LnOk (l : List Ln) : Prop := ∀ s ∈ l, I64 s.1 ∧ I64 s.2.1 ∧ ROk s.2.2.1
def lc (l : List Ln) : List Int := l.map (·.1)
def lv (l : List Ln) : List Int := l.map (·.2.1)
theorem lc_length (l : List Ln) : (lc l).length = l.length := by simp [lc]
theorem lv_length (l : List Ln) : (lv l).length = l.length := by simp [lv]
theorem lc_Sg {l : List Ln} (h : LnOk l) : Sg (lc l) := fun x hx => by
  obtain ⟨s, hs, rfl⟩ := List.mem_map.1 hx
  exact (h s hs).1
theorem lv_Sg {l : List Ln} (h : LnOk l) : Sg (lv l) := fun x hx => by
  obtain ⟨s, hs, rfl⟩ := List.mem_map.1 hx
  exact (h s hs).2.1
def of0 : Rt := (toW 0, (toW 1, ()))
theorem ratio_Of0 (F : Nat) : ratio_Of F 0 = some (of0, ()) := by
  unfold ratio_Of
  rw [wide_Of_eq F (x := 0) (by unfold I64; omega), wide_Of_eq F (x := 1) (by unfold I64; omega)]
  rfl
theorem ref03_Of_eq (F : Nat) {x : Int} (h : I64 x) : ref03_Of F x = some ((toW x, (toW 1, ())), ()) := by
  unfold ref03_Of ref03_one
  rw [ref02_Of_eq F h, ref02_Of_eq F (x := 1) (by unfold I64; omega)]
  rfl
theorem of0_ok : ROk of0 := ⟨toW_ok (by decide), toW_ok (by decide)⟩
theorem of0_RV : RV of0 := by
  have h0 : wv (toW 0).2.1 = 0 := wv_pad4 _
  have h1 : wv (toW 1).2.1 = 1 := wv_pad4 _
  refine ⟨toW_Vl _, toW_Vl _, ?_, ?_, ?_, ?_⟩
  · show 0 < wi (toW 1); rw [wi_toW]; omega
  · show Sm (wv (toW 0).2.1); rw [h0]; decide
  · show Sm (wv (toW 1).2.1); rw [h1]; decide
  · show wgcd (toW 0) (toW 1) = 1
    unfold wgcd
    rw [h0, h1]
    rfl
abbrev tyW : Ty := .pair .bool (.pair (.arr 4 (.int .u64)) .unit)
theorem eqWt (a b : W) : eqT tyW a b = decide (a = b) := by
  obtain ⟨a1, a2, _⟩ := a
  obtain ⟨b1, b2, _⟩ := b
  show (a1 == b1 && (eqT (.arr 4 (.int .u64)) a2 b2 && true)) = _
  rw [eqT_words]
  by_cases h1 : a1 = b1 <;> by_cases h2 : a2 = b2 <;> simp [h1, h2]
theorem eqRt (a b : Rt) : eqT (.pair tyW (.pair tyW .unit)) a b = decide (a = b) := by
  obtain ⟨a1, a2, _⟩ := a
  obtain ⟨b1, b2, _⟩ := b
  show (eqT tyW a1 b1 && (eqT tyW a2 b2 && true)) = _
  rw [eqWt, eqWt]
  by_cases h1 : a1 = b1 <;> by_cases h2 : a2 = b2 <;> simp [h1, h2]
instance decRt : DecidableEq Rt := inferInstance
instance decLn0 : DecidableEq (Rt × Unit) := instDecidableEqProd
instance decLn1 : DecidableEq (Int × (Rt × Unit)) := instDecidableEqProd
instance decLn : DecidableEq Ln := instDecidableEqProd
theorem eqLn (a b : Ln) : eqT (.pair (.int .i64) (.pair (.int .i64) (.pair (.pair tyW (.pair tyW .unit)) .unit))) a b = decide (a = b) := by
  obtain ⟨a1, a2, a3, _⟩ := a
  obtain ⟨b1, b2, b3, _⟩ := b
  show (decide (a1 = b1) && (decide (a2 = b2) && (eqT (.pair tyW (.pair tyW .unit)) a3 b3 && true))) = _
  rw [eqRt]
  by_cases h1 : a1 = b1 <;> by_cases h2 : a2 = b2 <;> by_cases h3 : a3 = b3 <;> simp [h1, h2, h3]
def bentB (x : Ln) : Bool := !decide (RV x.2.2.1) || (decide (x.1 = 1) && !decide (wi x.2.2.1.1 = 0))
theorem getN_mid (d : List Ln) (x : Ln) (t : List Ln) : getL zL (d ++ x :: t) (d.length : Int) = x := by
  simp [getL, List.getD_eq_getElem?_getD]
theorem rlcounts_loop (F : Nat) {R : Type} (k : List Int → Option R) {src : List Ln} (hb : (src.length : Int) ≤ 8796093022208) : ∀ (rest pre : List Ln) (c : List Int), src = pre ++ rest → c.length = pre.length → ∀ N, rest.length < N →
    ref18_counts_l3 F k N src c (pre.length : Int) = k (c ++ lc rest) := by
  intro rest
  induction rest with
  | nil =>
    intro pre c he hc N hN
    obtain ⟨N, rfl⟩ : ∃ M, N = M + 1 := ⟨N - 1, by omega⟩
    have hlen : src.length = pre.length := by rw [he]; simp
    unfold ref18_counts_l3
    simp (disch := omega) only [bs, ↓if_pos, ↓if_neg]
    simp [lc]
  | cons x rest ih =>
    intro pre c he hc N hN
    obtain ⟨N, rfl⟩ : ∃ M, N = M + 1 := ⟨N - 1, by omega⟩
    simp only [List.length_cons] at hN
    have hlen : src.length = pre.length + 1 + rest.length := by rw [he]; simp; omega
    have g : getL zL src (pre.length : Int) = x := by rw [he]; exact getN_mid pre x rest
    have e := ih (pre ++ [x]) (c ++ [x.1]) (by rw [he]; simp) (by simp [hc]) N (by omega)
    have hpl : (((pre ++ [x]).length : Nat) : Int) = (pre.length : Int) + 1 := by simp
    rw [hpl] at e
    have hz1 : c ++ [x.1] ++ lc rest = c ++ lc (x :: rest) := by simp [lc]
    rw [hz1] at e
    unfold ref18_counts_l3
    simp (disch := omega) only [bs, ↓if_pos, ↓if_neg, g]
    exact e
theorem ref18_counts_eq (F : Nat) (hF : Fuel F) {l : List Ln} (hb : (l.length : Int) ≤ 8796093022208) : ref18_counts F l = some (lc l, ()) := by
  unfold ref18_counts
  exact rlcounts_loop F _ hb l [] [] rfl rfl F (by unfold Fuel at hF; omega)
def vE (l : List Ln) : Int := if 4096 < l.length then 3 else if fitsB 4096 (lc l) = true then (if l.any bentB = true then 1 else 0) else 10
theorem rValid_loop (F : Nat) (hF : Fuel F) {R : Type} (k0 : Option R) (kr : Int → Option R) {src : List Ln} (hs : LnOk src) (hb : (src.length : Int) ≤ 140737488355328) : ∀ (rest pre : List Ln), src = pre ++ rest → ∀ N, rest.length < N →
    ref18_Valid_l5 F k0 kr N src (pre.length : Int) = if rest.any bentB = true then kr 1 else k0 := by
  intro rest
  induction rest with
  | nil =>
    intro pre he N hN
    obtain ⟨N, rfl⟩ : ∃ M, N = M + 1 := ⟨N - 1, by omega⟩
    have hlen : src.length = pre.length := by rw [he]; simp
    unfold ref18_Valid_l5
    rw [List.any_nil]
    simp (disch := omega) only [bs, ↓if_pos, ↓if_neg]
  | cons x rest ih =>
    intro pre he N hN
    obtain ⟨N, rfl⟩ : ∃ M, N = M + 1 := ⟨N - 1, by omega⟩
    simp only [List.length_cons] at hN
    have hlen : src.length = pre.length + 1 + rest.length := by rw [he]; simp; omega
    have g : getL zL src (pre.length : Int) = x := by rw [he]; exact getN_mid pre x rest
    have hx := (hs x (by rw [he]; simp)).2.2
    have ev := ref03_Valid_eq F hF hx
    have es := ref02_Sign_eq F hF hx.1
    have e := ih (pre ++ [x]) (by rw [he]; simp) N (by omega)
    have hpl : (((pre ++ [x]).length : Nat) : Int) = (pre.length : Int) + 1 := by simp
    rw [hpl] at e
    unfold ref18_Valid_l5
    rw [List.any_cons]
    by_cases hv : RV x.2.2.1
    · have dv : decide (RV x.2.2.1) = true := decide_eq_true hv
      by_cases h1 : x.1 = 1
      · by_cases h0 : wi x.2.2.1.1 = 0
        · have hbt : bentB x = false := by simp [bentB, hv, h0]
          rw [if_pos h0] at es
          rw [hbt, Bool.false_or]
          simp (disch := omega) only [bs, ↓if_pos, ↓if_neg, g, ev, dv, es, h1]
          exact e
        · have hbt : bentB x = true := by simp [bentB, h0, h1]
          rw [if_neg h0] at es
          have hz : ¬ ((if wi x.2.2.1.1 < 0 then (-1 : Int) else 1) = 0) := by split <;> omega
          rw [hbt, Bool.true_or]
          simp (disch := omega) only [bs, ↓if_pos, ↓if_neg, g, ev, dv, es, h1]
      · have hbt : bentB x = false := by simp [bentB, hv, h1]
        rw [hbt, Bool.false_or]
        simp (disch := omega) only [bs, ↓if_pos, ↓if_neg, g, ev, dv]
        exact e
    · have dv : decide (RV x.2.2.1) = false := decide_eq_false hv
      have hbt : bentB x = true := by simp [bentB, hv]
      rw [hbt, Bool.true_or]
      simp (disch := omega) only [bs, ↓if_pos, ↓if_neg, g, ev, dv]
theorem ref18_Valid_eq (F : Nat) (hF : Fuel F) {l : List Ln} (h : LnOk l) (hb : (l.length : Int) ≤ 8796093022208) : ref18_Valid F l = some (vE l, ()) := by
  unfold ref18_Valid vE
  have e2 := ref17_Counts_eq F hF (lc_Sg h) (by rw [lc_length]; omega)
  rw [lc_length] at e2
  simp only [ref18_counts_eq F hF hb, e2, Option.bind_some]
  by_cases c0 : 4096 < l.length
  · rw [if_pos c0, if_pos c0]
    rfl
  · rw [if_neg c0, if_neg c0]
    by_cases c1 : fitsB 4096 (lc l) = true
    · rw [if_pos c1, if_pos c1]
      simp only [show eqI (0 : Int) 0 = true from rfl, Bool.not_true, cond_false]
      refine (rValid_loop F hF _ _ h (by omega) l [] rfl F (by unfold Fuel at hF; omega)).trans ?_
      split <;> rfl
    · rw [if_neg c1, if_neg c1]
      rfl
def sp (q : Rt) : List Int := enc (uw (wi q.1)) ++ enc (uw (wi q.2.1))
def slp : List Ln → List Int
  | [] => []
  | x :: t => if 1 < x.1 then sp x.2.2.1 ++ slp t else slp t
theorem sp_len {q : Rt} (h : ROk q) : (sp q).length ≤ 74 := by
  have h1 := enc_uw_len h.1.abs
  have h2 := enc_uw_len h.2.abs
  unfold sp
  rw [List.length_append]
  omega
theorem sp_Bt (q : Rt) : Bt (sp q) := Bt.append (enc_bt _) (enc_bt _)
theorem slp_small : ∀ {l : List Ln}, LnOk l → (slp l).length ≤ 74 * l.length ∧ Bt (slp l)
  | [], _ => ⟨by simp [slp], Bt.nil⟩
  | x :: t, h => by
    obtain ⟨h1, h2⟩ := slp_small (l := t) (fun s hs => h s (List.mem_cons_of_mem _ hs))
    have h3 := sp_len (h x (by simp)).2.2
    unfold slp
    split
    · refine ⟨by simp only [List.length_append, List.length_cons]; omega, Bt.append (sp_Bt _) h2⟩
    · refine ⟨by simp only [List.length_cons]; omega, h2⟩
theorem rAppendSlope_eq (F : Nat) (hF : Fuel F) {b : List Int} (hb : (b.length : Int) ≤ 140737488355000) {q : Rt} (h : ROk q) : ref18_AppendSlope F b q = some (b ++ sp q, ()) := by
  have h1 := enc_uw_len h.1.abs
  unfold ref18_AppendSlope sp
  rw [ref05_AppendWide_eq F hF (by unfold Room; omega) h.1]
  simp only [Option.bind_some]
  rw [ref05_AppendWide_eq F hF (by unfold Room; rw [List.length_append]; omega) h.2]
  simp only [Option.bind_some, List.append_assoc]
theorem rlEnc_loop (F : Nat) {R : Type} (k : List Ln → List Int → Option R) {src : List Ln} (hb : src.length ≤ 100000) : ∀ (rest pre : List Ln) (v : List Int), src = pre ++ rest → v.length = pre.length → ∀ N, rest.length < N →
    ref18_Encode_l6 F k N src v (pre.length : Int) = k src (v ++ lv rest) := by
  intro rest
  induction rest with
  | nil =>
    intro pre v he hv N hN
    obtain ⟨N, rfl⟩ : ∃ M, N = M + 1 := ⟨N - 1, by omega⟩
    have hlen : src.length = pre.length := by rw [he]; simp
    unfold ref18_Encode_l6
    simp (disch := omega) only [bs, ↓if_pos, ↓if_neg]
    simp [lv]
  | cons x rest ih =>
    intro pre v he hv N hN
    obtain ⟨N, rfl⟩ : ∃ M, N = M + 1 := ⟨N - 1, by omega⟩
    simp only [List.length_cons] at hN
    have hlen : src.length = pre.length + 1 + rest.length := by rw [he]; simp; omega
    have g : getL zL src (pre.length : Int) = x := by rw [he]; exact getN_mid pre x rest
    have e := ih (pre ++ [x]) (v ++ [x.2.1]) (by rw [he]; simp) (by simp [hv]) N (by omega)
    have hpl : (((pre ++ [x]).length : Nat) : Int) = (pre.length : Int) + 1 := by simp
    rw [hpl] at e
    have hz2 : v ++ [x.2.1] ++ lv rest = v ++ lv (x :: rest) := by simp [lv]
    rw [hz2] at e
    unfold ref18_Encode_l6
    simp (disch := omega) only [bs, ↓if_pos, ↓if_neg, g]
    exact e
theorem rlSlope_loop (F : Nat) (hF : Fuel F) {R : Type} (k : List Int → Option R) {src : List Ln} (hs : LnOk src) (hb : src.length ≤ 100000) : ∀ (rest pre : List Ln) (b : List Int), src = pre ++ rest → (b.length : Int) + 74 * rest.length ≤ 140737488355000 → ∀ N, rest.length < N →
    ref18_Encode_l11 F k N src b (pre.length : Int) = k (b ++ slp rest) := by
  intro rest
  induction rest with
  | nil =>
    intro pre b he hc N hN
    obtain ⟨N, rfl⟩ : ∃ M, N = M + 1 := ⟨N - 1, by omega⟩
    have hlen : src.length = pre.length := by rw [he]; simp
    unfold ref18_Encode_l11
    simp (disch := omega) only [bs, ↓if_pos, ↓if_neg]
    simp [slp]
  | cons x rest ih =>
    intro pre b he hc N hN
    obtain ⟨N, rfl⟩ : ∃ M, N = M + 1 := ⟨N - 1, by omega⟩
    simp only [List.length_cons] at hN hc
    have hlen : src.length = pre.length + 1 + rest.length := by rw [he]; simp; omega
    have g : getL zL src (pre.length : Int) = x := by rw [he]; exact getN_mid pre x rest
    have hx := hs x (by rw [he]; simp)
    have hsl := sp_len hx.2.2
    have hpl : (((pre ++ [x]).length : Nat) : Int) = (pre.length : Int) + 1 := by simp
    unfold ref18_Encode_l11
    by_cases h1 : 1 < x.1
    · have e := ih (pre ++ [x]) (b ++ sp x.2.2.1) (by rw [he]; simp) (by rw [List.length_append]; omega) N (by omega)
      rw [hpl] at e
      simp (disch := omega) only [bs, ↓if_pos, ↓if_neg, g, rAppendSlope_eq F hF (b := b) (by omega) hx.2.2]
      rw [slp, if_pos h1, ← List.append_assoc]
      exact e
    · have e := ih (pre ++ [x]) b (by rw [he]; simp) (by omega) N (by omega)
      rw [hpl] at e
      simp (disch := omega) only [bs, ↓if_pos, ↓if_neg, g]
      rw [slp, if_neg h1]
      exact e
def lE (l : List Ln) : List Int × Int := if vE l = 0 then (hd (lc l) (lv l) ++ slp l, 0) else ([], vE l)
theorem vE_zero {l : List Ln} (h : vE l = 0) : l.length ≤ 4096 ∧ fitsB 4096 (lc l) = true ∧ l.any bentB = false := by
  unfold vE at h
  by_cases c0 : 4096 < l.length
  · rw [if_pos c0] at h; omega
  · rw [if_neg c0] at h
    by_cases c1 : fitsB 4096 (lc l) = true
    · rw [if_pos c1] at h
      by_cases c2 : l.any bentB = true
      · rw [if_pos c2] at h; omega
      · exact ⟨by omega, c1, by rwa [Bool.not_eq_true] at c2⟩
    · rw [if_neg c1] at h; omega
theorem ref18_Encode_eq (F : Nat) (hF : Fuel F) {l : List Ln} (h : LnOk l) (hb : (l.length : Int) ≤ 8796093022208) : ref18_Encode F l = some ((lE l).1, (lE l).2, ()) := by
  unfold ref18_Encode lE
  rw [ref18_Valid_eq F hF h hb]
  simp only [Option.bind_some]
  by_cases c0 : vE l = 0
  · obtain ⟨v1, c1, v3⟩ := vE_zero c0
    obtain ⟨s1, s2⟩ := hd_small c1 (by rw [lc_length]; omega) (lv_Sg h) (by rw [lv_length]; omega)
    rw [if_pos c0, c0]
    simp only [show eqI (0 : Int) 0 = true from rfl, Bool.not_true, cond_false]
    refine (rlEnc_loop F _ (src := l) (by omega) l [] [] rfl rfl F (by unfold Fuel at hF; omega)).trans ?_
    simp only [List.nil_append, ref18_counts_eq F hF hb, Option.bind_some, ref17_Head_eq F hF c1 (by rw [lc_length]; omega) (lv_Sg h) (by rw [lv_length]; omega)]
    exact rlSlope_loop F hF _ (src := l) h (by omega) l [] _ rfl (by omega) F (by unfold Fuel at hF; omega)
  · rw [if_neg c0]
    have : eqI (vE l) 0 = false := by rw [← Bool.not_eq_true, eqI_true]; exact c0
    rw [this]
    rfl
theorem lE_small {l : List Ln} (h : LnOk l) : (lE l).1.length ≤ 1400000 ∧ Bt (lE l).1 := by
  unfold lE
  by_cases c0 : vE l = 0
  · obtain ⟨v1, c1, v3⟩ := vE_zero c0
    obtain ⟨s1, s2⟩ := hd_small c1 (by rw [lc_length]; omega) (lv_Sg h) (by rw [lv_length]; omega)
    obtain ⟨s3, s4⟩ := slp_small h
    rw [if_pos c0]
    exact ⟨by simp only [List.length_append]; omega, Bt.append s2 s4⟩
  · rw [if_neg c0]
    exact ⟨by simp, Bt.nil⟩
end Go.Proofs.YtfmjokmjaghehaaGreat
