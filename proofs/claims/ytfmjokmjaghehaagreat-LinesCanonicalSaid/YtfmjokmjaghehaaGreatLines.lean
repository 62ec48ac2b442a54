
/- Lines: what Valid and Encode say. -/
import Derived.Test.YtfmjokmjaghehaaGreatConst3
import Derived.Test.YtfmjokmjaghehaaGreatDiv5
set_option linter.unusedVariables false
set_option linter.unusedSimpArgs false
namespace Go.Proofs.YtfmjokmjaghehaaGreat
open Go.Eng
abbrev Ln := Int × (Int × (Rt × Unit))
abbrev zR : Rt := ((false, [0, 0, 0, 0], ()), ((false, [0, 0, 0, 0], ()), ()))
abbrev zL : Ln := (0, (0, (zR, ())))
def LnOk (l : List Ln) : Prop := ∀ s ∈ l, I64 s.1 ∧ I64 s.2.1 ∧ ROk s.2.2.1
def lc (l : List Ln) : List Int := l.map (·.1)
def lv (l : List Ln) : List Int := l.map (·.2.1)
theorem lc_length (l : List Ln) : (lc l).length = l.length := by simp [lc]
theorem lv_length (l : List Ln) : (lv l).length = l.length := by simp [lv]
theorem lc_Sg {l : List Ln} (h : LnOk l) : Sg (lc l) := fun x hx => by
  obtain ⟨s, hs, rfl⟩ := List.mem_map.1 hx
  exact (h s hs).1
theorem lv_Sg {l : List Ln} (h : LnOk l) : Sg (lv l) := fun x hx => by
  obtain ⟨s, hs, rfl⟩ := List.mem_map.1 hx
  exact (h s hs).2.1
def of0 : Rt := (toW 0, (toW 1, ()))
theorem ratio_Of0 (F : Nat) : ratio_Of F 0 = some (of0, ()) := by
  unfold ratio_Of
  rw [wide_Of_eq F (x := 0) (by unfold I64; omega), wide_Of_eq F (x := 1) (by unfold I64; omega)]
  rfl
theorem ref03_Of_eq (F : Nat) {x : Int} (h : I64 x) : ref03_Of F x = some ((toW x, (toW 1, ())), ()) := by
  unfold ref03_Of ref03_one
  rw [ref02_Of_eq F h, ref02_Of_eq F (x := 1) (by unfold I64; omega)]
  rfl
theorem of0_ok : ROk of0 := ⟨toW_ok (by decide), toW_ok (by decide)⟩
theorem of0_RV : RV of0 := by
  have h0 : wv (toW 0).2.1 = 0 := wv_pad4 _
  have h1 : wv (toW 1).2.1 = 1 := wv_pad4 _
  refine ⟨toW_Vl _, toW_Vl _, ?_, ?_, ?_, ?_⟩
  · show 0 < wi (toW 1); rw [wi_toW]; omega
  · show Sm (wv (toW 0).2.1); rw [h0]; decide
  · show Sm (wv (toW 1).2.1); rw [h1]; decide
  · show wgcd (toW 0) (toW 1) = 1
    unfold wgcd
    rw [h0, h1]
    rfl
abbrev tyW : Ty := .pair .bool (.pair (.arr 4 (.int .u64)) .unit)
theorem eqWt (a b : W) : eqT tyW a b = decide (a = b) := by
  obtain ⟨a1, a2, _⟩ := a
  obtain ⟨b1, b2, _⟩ := b
  show (a1 == b1 && (eqT (.arr 4 (.int .u64)) a2 b2 && true)) = _
  rw [eqT_words]
  by_cases h1 : a1 = b1 <;> by_cases h2 : a2 = b2 <;> simp [h1, h2]
theorem eqRt (a b : Rt) : eqT (.pair tyW (.pair tyW .unit)) a b = decide (a = b) := by
  obtain ⟨a1, a2, _⟩ := a
  obtain ⟨b1, b2, _⟩ := b
  show (eqT tyW a1 b1 && (eqT tyW a2 b2 && true)) = _
  rw [eqWt, eqWt]
  by_cases h1 : a1 = b1 <;> by_cases h2 : a2 = b2 <;> simp [h1, h2]
instance decRt : DecidableEq Rt := inferInstance
instance decLn0 : DecidableEq (Rt × Unit) := instDecidableEqProd
instance decLn1 : DecidableEq (Int × (Rt × Unit)) := instDecidableEqProd
instance decLn : DecidableEq Ln := instDecidableEqProd
theorem RV_zero {q : Rt} (h : ROk q) (hv : RV q) : q = of0 ↔ wi q.1 = 0 := by
  obtain ⟨n, d, _⟩ := q
  obtain ⟨hn, hd⟩ := h
  obtain ⟨v1, v2, v3, v4, v5, v6⟩ := hv
  simp only at hn hd v1 v2 v3 v4 v5 v6 ⊢
  constructor
  · intro h
    have : n = toW 0 := congrArg (·.1) h
    rw [this, wi_toW]
  · intro h
    have h1 : wv n.2.1 = 0 := by have := wi_abs n; omega
    have h2 : wv d.2.1 = 1 := by unfold wgcd at v6; rw [h1, Nat.gcd_zero_left] at v6; exact v6
    have h3 : wi d = 1 := by have := wi_abs d; omega
    have e1 := toW_wi hn v1
    have e2 := toW_wi hd v2
    rw [h] at e1
    rw [h3] at e2
    unfold of0
    rw [e1, e2]
def bentB (x : Ln) : Bool := !decide (RV x.2.2.1) || (decide (x.1 = 1) && !decide (wi x.2.2.1.1 = 0))
theorem lines_bent_eq (F : Nat) (hF : Fuel F) {x : Ln} (h : ROk x.2.2.1) : lines_bent F x = some (bentB x, ()) := by
  unfold lines_bent bentB
  rw [ratio_Valid_eq F hF h, ratio_Of0]
  by_cases hv : RV x.2.2.1
  · have e : decide (x.2.2.1 = of0) = decide (wi x.2.2.1.1 = 0) := decide_eq_decide.2 (RV_zero h hv)
    by_cases h1 : x.1 = 1
    · have : eqI x.1 1 = true := eqI_true.2 h1
      simp only [Option.bind_some, hv, decide_true, Bool.not_true, cond_false, h1, show eqI (1 : Int) 1 = true from rfl, cond_true, Bool.false_or, Bool.true_and]
      rw [eqRt, e]
    · have : eqI x.1 1 = false := by rw [← Bool.not_eq_true, eqI_true]; exact h1
      simp only [Option.bind_some, hv, decide_true, Bool.not_true, cond_false, this, Bool.false_or, h1, decide_false, Bool.false_and]
  · simp only [Option.bind_some, hv, decide_false, Bool.not_false, cond_true, Bool.true_or]
theorem getN_mid (d : List Ln) (x : Ln) (t : List Ln) : getL zL (d ++ x :: t) (d.length : Int) = x := by
  simp [getL, List.getD_eq_getElem?_getD]
theorem Index_loop (F : Nat) (hF : Fuel F) {src : List Ln} (hs : LnOk src) (hb : (src.length : Int) ≤ 140737488355328) : ∀ (rest pre : List Ln), src = pre ++ rest → ∀ N, rest.length < N →
    ∃ r : Int, slices_IndexFunc_apiLine_l2 F (some ((-1), ())) (fun z6 => some (z6, ())) N src (src.length : Int) (pre.length : Int) = some (r, ()) ∧ leI 0 r = rest.any bentB := by
  intro rest
  induction rest with
  | nil =>
    intro pre he N hN
    obtain ⟨N, rfl⟩ : ∃ M, N = M + 1 := ⟨N - 1, by omega⟩
    have hlen : src.length = pre.length := by rw [he]; simp
    refine ⟨-1, ?_, rfl⟩
    unfold slices_IndexFunc_apiLine_l2
    simp (disch := omega) only [bs, ↓if_pos, ↓if_neg]
  | cons x rest ih =>
    intro pre he N hN
    obtain ⟨N, rfl⟩ : ∃ M, N = M + 1 := ⟨N - 1, by omega⟩
    simp only [List.length_cons] at hN
    have hlen : src.length = pre.length + 1 + rest.length := by rw [he]; simp; omega
    have g : getL zL src (pre.length : Int) = x := by rw [he]; exact getN_mid pre x rest
    have hx := (hs x (by rw [he]; simp)).2.2
    have eb := lines_bent_eq F hF hx
    by_cases hbt : bentB x = true
    · refine ⟨(pre.length : Int), ?_, ?_⟩
      · unfold slices_IndexFunc_apiLine_l2
        simp (disch := omega) only [bs, ↓if_pos, ↓if_neg, g, eb, hbt]
      · rw [List.any_cons, hbt, Bool.true_or, leI_true]; omega
    · obtain ⟨r, e, h2⟩ := ih (pre ++ [x]) (by rw [he]; simp) N (by omega)
      have hpl : (((pre ++ [x]).length : Nat) : Int) = (pre.length : Int) + 1 := by simp
      rw [hpl] at e
      rw [Bool.not_eq_true] at hbt
      refine ⟨r, ?_, by rw [List.any_cons, hbt, Bool.false_or]; exact h2⟩
      unfold slices_IndexFunc_apiLine_l2
      simp (disch := omega) only [bs, ↓if_pos, ↓if_neg, g, eb, hbt]
      exact e
theorem Contains_eq (F : Nat) (hF : Fuel F) {l : List Ln} (h : LnOk l) (hb : (l.length : Int) ≤ 140737488355328) : slices_ContainsFunc_apiLine F l = some (l.any bentB, ()) := by
  obtain ⟨r, e1, e2⟩ := Index_loop F hF h hb l [] rfl F (by unfold Fuel at hF; omega)
  unfold slices_ContainsFunc_apiLine slices_IndexFunc_apiLine
  have e1 : slices_IndexFunc_apiLine_l2 F (some ((-1), ())) (fun z6 => some (z6, ())) F l (lenI l) 0 = some (r, ()) := e1
  rw [e1]
  simp only [Option.bind_some, e2]
theorem lcounts_loop (F : Nat) {R : Type} (k : List Int → Option R) {src : List Ln} (hb : src.length ≤ 100000) : ∀ (rest pre : List Ln) (out z : List Int), src = pre ++ rest → out.length = pre.length → z.length = rest.length → ∀ N, rest.length < N →
    lines_counts_l3 F k N (out ++ z) src (src.length : Int) (pre.length : Int) = k (out ++ lc rest) := by
  intro rest
  induction rest with
  | nil =>
    intro pre out z he hc hz N hN
    obtain ⟨N, rfl⟩ : ∃ M, N = M + 1 := ⟨N - 1, by omega⟩
    have hlen : src.length = pre.length := by rw [he]; simp
    have : z = [] := by simpa using hz
    subst this
    unfold lines_counts_l3
    simp (disch := omega) only [bs, ↓if_pos, ↓if_neg]
    simp [lc]
  | cons x rest ih =>
    intro pre out z he hc hz N hN
    obtain ⟨N, rfl⟩ : ∃ M, N = M + 1 := ⟨N - 1, by omega⟩
    cases z with
    | nil => simp at hz
    | cons y z =>
    simp only [List.length_cons] at hN hz
    have hlen : src.length = pre.length + 1 + rest.length := by rw [he]; simp; omega
    have g : getL zL src (pre.length : Int) = x := by rw [he]; exact getN_mid pre x rest
    have e := ih (pre ++ [x]) (out ++ [x.1]) z (by rw [he]; simp) (by simp [hc]) (by omega) N (by omega)
    have hpl : (((pre ++ [x]).length : Nat) : Int) = (pre.length : Int) + 1 := by simp
    rw [hpl] at e
    have hz1 : out ++ [x.1] ++ lc rest = out ++ lc (x :: rest) := by simp [lc]
    rw [hz1] at e
    have hset : setL (out ++ y :: z) (pre.length : Int) x.1 = (out ++ [x.1]) ++ z := by rw [← hc]; exact set_mid _ _ _ _
    have hl2 : (out ++ y :: z).length = out.length + (z.length + 1) := by simp
    unfold lines_counts_l3
    simp (disch := omega) only [bs, ↓if_pos, ↓if_neg, g, hset]
    exact e
theorem lines_counts_eq (F : Nat) (hF : Fuel F) {l : List Ln} (hb : l.length ≤ 100000) : lines_counts F l = some (lc l, ()) := by
  unfold lines_counts
  have x1 : makeB (lenI l) (lenI l) 8 = true := by rw [makeB_true]; unfold lenI; omega
  rw [x1, cond_true]
  exact lcounts_loop F _ hb l [] [] (replI (lenI l) 0) rfl rfl (by simp [replI, lenI]) F (by unfold Fuel at hF; omega)
def vE (l : List Ln) : Int := if 4096 < l.length then 3 else if fitsB 4096 (lc l) = true then (if l.any bentB = true then 1 else 0) else 10
theorem lines_Valid_eq (F : Nat) (hF : Fuel F) {l : List Ln} (h : LnOk l) (hb : (l.length : Int) ≤ 140737488355328) : lines_Valid F l = some (vE l, ()) := by
  unfold lines_Valid vE
  by_cases c0 : 4096 < l.length
  · rw [if_pos c0]
    simp (disch := omega) only [bs, ↓if_pos, ↓if_neg]
  · rw [if_neg c0]
    obtain ⟨r, e1, e2⟩ := records_Sum_eq F hF (lc_Sg h) (by rw [lc_length]; omega)
    have x1 : ltI 4096 (lenI l) = false := by rw [← Bool.not_eq_true, ltI_true]; unfold lenI; omega
    rw [x1, cond_false, lines_counts_eq F hF (by omega), Contains_eq F hF h hb]
    simp only [Option.bind_some, e1, e2]
    by_cases c1 : fitsB 4096 (lc l) = true
    · rw [if_pos c1, c1, Bool.not_true, cond_false]
      cases l.any bentB <;> rfl
    · rw [if_neg c1]
      rw [Bool.not_eq_true] at c1
      rw [c1]
      rfl
def sp (q : Rt) : List Int := enc (uw (wi q.1)) ++ enc (uw (wi q.2.1))
def slp : List Ln → List Int
  | [] => []
  | x :: t => if 1 < x.1 then sp x.2.2.1 ++ slp t else slp t
theorem sp_len {q : Rt} (h : ROk q) : (sp q).length ≤ 74 := by
  have h1 := enc_uw_len h.1.abs
  have h2 := enc_uw_len h.2.abs
  unfold sp
  rw [List.length_append]
  omega
theorem sp_Bt (q : Rt) : Bt (sp q) := Bt.append (enc_bt _) (enc_bt _)
theorem slp_small : ∀ {l : List Ln}, LnOk l → (slp l).length ≤ 74 * l.length ∧ Bt (slp l)
  | [], _ => ⟨by simp [slp], Bt.nil⟩
  | x :: t, h => by
    obtain ⟨h1, h2⟩ := slp_small (l := t) (fun s hs => h s (List.mem_cons_of_mem _ hs))
    have h3 := sp_len (h x (by simp)).2.2
    unfold slp
    split
    · refine ⟨by simp only [List.length_append, List.length_cons]; omega, Bt.append (sp_Bt _) h2⟩
    · refine ⟨by simp only [List.length_cons]; omega, h2⟩
theorem AppendSlope_eq (F : Nat) (hF : Fuel F) {b : List Int} (hb : (b.length : Int) ≤ 140737488355000) {q : Rt} (h : ROk q) : records_AppendSlope F b q = some (b ++ sp q, ()) := by
  have h1 := enc_uw_len h.1.abs
  unfold records_AppendSlope sp
  rw [varint_AppendWide_eq F hF (by unfold Room; omega) h.1]
  simp only [Option.bind_some]
  rw [varint_AppendWide_eq F hF (by unfold Room; rw [List.length_append]; omega) h.2]
  simp only [Option.bind_some, List.append_assoc]
theorem lEnc_loop (F : Nat) {R : Type} (k : List Ln → List Int → List Int → Option R) (x0 : List Ln) (b : List Int) {src : List Ln} (hb : src.length ≤ 100000) : ∀ (rest pre : List Ln) (out z : List Int), src = pre ++ rest → out.length = pre.length → z.length = rest.length → ∀ N, rest.length < N →
    lines_Encode_l9 F k N x0 b (out ++ z) src (src.length : Int) (pre.length : Int) = k x0 b (out ++ lv rest) := by
  intro rest
  induction rest with
  | nil =>
    intro pre out z he hc hz N hN
    obtain ⟨N, rfl⟩ : ∃ M, N = M + 1 := ⟨N - 1, by omega⟩
    have hlen : src.length = pre.length := by rw [he]; simp
    have : z = [] := by simpa using hz
    subst this
    unfold lines_Encode_l9
    simp (disch := omega) only [bs, ↓if_pos, ↓if_neg]
    simp [lv]
  | cons x rest ih =>
    intro pre out z he hc hz N hN
    obtain ⟨N, rfl⟩ : ∃ M, N = M + 1 := ⟨N - 1, by omega⟩
    cases z with
    | nil => simp at hz
    | cons y z =>
    simp only [List.length_cons] at hN hz
    have hlen : src.length = pre.length + 1 + rest.length := by rw [he]; simp; omega
    have g : getL zL src (pre.length : Int) = x := by rw [he]; exact getN_mid pre x rest
    have e := ih (pre ++ [x]) (out ++ [x.2.1]) z (by rw [he]; simp) (by simp [hc]) (by omega) N (by omega)
    have hpl : (((pre ++ [x]).length : Nat) : Int) = (pre.length : Int) + 1 := by simp
    rw [hpl] at e
    have hz1 : out ++ [x.2.1] ++ lv rest = out ++ lv (x :: rest) := by simp [lv]
    rw [hz1] at e
    have hset : setL (out ++ y :: z) (pre.length : Int) x.2.1 = (out ++ [x.2.1]) ++ z := by rw [← hc]; exact set_mid _ _ _ _
    have hl2 : (out ++ y :: z).length = out.length + (z.length + 1) := by simp
    unfold lines_Encode_l9
    simp (disch := omega) only [bs, ↓if_pos, ↓if_neg, g, hset]
    exact e
theorem lSlope_loop (F : Nat) (hF : Fuel F) {R : Type} (k : List Int → Option R) {src : List Ln} (hs : LnOk src) (hb : src.length ≤ 100000) : ∀ (rest pre : List Ln) (b : List Int), src = pre ++ rest → (b.length : Int) + 74 * rest.length ≤ 140737488355000 → ∀ N, rest.length < N →
    lines_Encode_l18 F k N b src (src.length : Int) (pre.length : Int) = k (b ++ slp rest) := by
  intro rest
  induction rest with
  | nil =>
    intro pre b he hc N hN
    obtain ⟨N, rfl⟩ : ∃ M, N = M + 1 := ⟨N - 1, by omega⟩
    have hlen : src.length = pre.length := by rw [he]; simp
    unfold lines_Encode_l18
    simp (disch := omega) only [bs, ↓if_pos, ↓if_neg]
    simp [slp]
  | cons x rest ih =>
    intro pre b he hc N hN
    obtain ⟨N, rfl⟩ : ∃ M, N = M + 1 := ⟨N - 1, by omega⟩
    simp only [List.length_cons] at hN hc
    have hlen : src.length = pre.length + 1 + rest.length := by rw [he]; simp; omega
    have g : getL zL src (pre.length : Int) = x := by rw [he]; exact getN_mid pre x rest
    have hx := hs x (by rw [he]; simp)
    have hsl := sp_len hx.2.2
    have hpl : (((pre ++ [x]).length : Nat) : Int) = (pre.length : Int) + 1 := by simp
    unfold lines_Encode_l18
    by_cases h1 : 1 < x.1
    · have e := ih (pre ++ [x]) (b ++ sp x.2.2.1) (by rw [he]; simp) (by rw [List.length_append]; omega) N (by omega)
      rw [hpl] at e
      simp (disch := omega) only [bs, ↓if_pos, ↓if_neg, g, AppendSlope_eq F hF (b := b) (by omega) hx.2.2]
      rw [slp, if_pos h1, ← List.append_assoc]
      exact e
    · have e := ih (pre ++ [x]) b (by rw [he]; simp) (by omega) N (by omega)
      rw [hpl] at e
      simp (disch := omega) only [bs, ↓if_pos, ↓if_neg, g]
      rw [slp, if_neg h1]
      exact e
def lE (l : List Ln) : List Int × Int := if vE l = 0 then (hd (lc l) (lv l) ++ slp l, 0) else ([], vE l)
theorem vE_zero {l : List Ln} (h : vE l = 0) : l.length ≤ 4096 ∧ fitsB 4096 (lc l) = true ∧ l.any bentB = false := by
  unfold vE at h
  by_cases c0 : 4096 < l.length
  · rw [if_pos c0] at h; omega
  · rw [if_neg c0] at h
    by_cases c1 : fitsB 4096 (lc l) = true
    · rw [if_pos c1] at h
      by_cases c2 : l.any bentB = true
      · rw [if_pos c2] at h; omega
      · exact ⟨by omega, c1, by rwa [Bool.not_eq_true] at c2⟩
    · rw [if_neg c1] at h; omega
theorem lines_Encode_eq (F : Nat) (hF : Fuel F) {l : List Ln} (h : LnOk l) (hb : (l.length : Int) ≤ 140737488355328) : lines_Encode F l = some ((lE l).1, (lE l).2, ()) := by
  unfold lines_Encode lE
  rw [lines_Valid_eq F hF h hb]
  simp only [Option.bind_some]
  by_cases c0 : vE l = 0
  · obtain ⟨v1, c1, v3⟩ := vE_zero c0
    rw [if_pos c0, c0]
    have hw2 : IntKind.u64.wrap (lenI l) = (l.length : Int) := by unfold lenI; exact wrap_u64 (by omega)
    have e4 := varint_Append_eq F hF (b := []) (by simp [Room]) (v := l.length) (by omega)
    rw [List.nil_append] at e4
    have h10 := enc_le10 (v := l.length) (by omega)
    have e5 := AppendCounts_eq F hF (b := enc l.length) (by omega) c1 (by rw [lc_length]; omega)
    have e6 := residual_Encode_eq F hF (lv_Sg h) (by rw [lv_length]; omega)
    rw [rEe_ok (by rw [lv_length]; omega)] at e6
    obtain ⟨s1, s2, s3⟩ := rE_small (lv_Sg h) (by rw [lv_length]; omega)
    have hs := nE_small (lss_Wd c1 (by omega)) (by rw [lss_length, lc_length]; omega)
    have r2 : roomB ((enc l.length ++ nE (lss (lc l))).length + (rE (lv l)).length) 1 = true := by rw [roomB_true, List.length_append]; omega
    have x1 : makeB (lenI l) (lenI l) 8 = true := by rw [makeB_true]; unfold lenI; omega
    simp only [hw2, e4, lines_counts_eq F hF (show l.length ≤ 100000 by omega), e5, Option.bind_some, show eqI (0 : Int) 0 = true from rfl, Bool.not_true, cond_false, x1, cond_true]
    refine (lEnc_loop F _ l (enc l.length ++ nE (lss (lc l))) (src := l) (by omega) l [] [] (replI (lenI l) 0) rfl rfl (by simp [replI, lenI]) F (by unfold Fuel at hF; omega)).trans ?_
    simp only [List.nil_append, e6, Option.bind_some, show eqI (0 : Int) 0 = true from rfl, Bool.not_true, cond_false, r2, cond_true]
    refine (lSlope_loop F hF _ (src := l) h (by omega) l [] _ rfl (by simp only [List.length_append]; omega) F (by unfold Fuel at hF; omega)).trans ?_
    unfold hd
    rw [lc_length]
  · rw [if_neg c0]
    have : eqI (vE l) 0 = false := by rw [← Bool.not_eq_true, eqI_true]; exact c0
    rw [this]
    rfl
theorem lE_small {l : List Ln} (h : LnOk l) : (lE l).1.length ≤ 1400000 ∧ Bt (lE l).1 := by
  unfold lE
  by_cases c0 : vE l = 0
  · obtain ⟨v1, c1, v3⟩ := vE_zero c0
    obtain ⟨s1, s2⟩ := hd_small c1 (by rw [lc_length]; omega) (lv_Sg h) (by rw [lv_length]; omega)
    obtain ⟨s3, s4⟩ := slp_small h
    rw [if_pos c0]
    exact ⟨by simp only [List.length_append]; omega, Bt.append s2 s4⟩
  · rw [if_neg c0]
    exact ⟨by simp, Bt.nil⟩
end Go.Proofs.YtfmjokmjaghehaaGreat
