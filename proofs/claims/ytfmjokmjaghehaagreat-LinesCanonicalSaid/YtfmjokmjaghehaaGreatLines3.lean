
/- Lines: the laws. -/
import Derived.Test.YtfmjokmjaghehaaGreatLines2
import Derived.Test.YtfmjokmjaghehaaGreatReads
set_option linter.unusedVariables false
set_option linter.unusedSimpArgs false
namespace Go.Proofs.YtfmjokmjaghehaaGreat
open Go.Eng
theorem LnOk_of {l : List Ln} (h : wfT (.slice (.pair (.int .i64) (.pair (.int .i64) (.pair (.pair tyW (.pair tyW .unit)) .unit)))) l) : LnOk l :=
  fun s hs => ⟨rng_i64 (h.2 s hs).1, rng_i64 (h.2 s hs).2.1, WOk_of (h.2 s hs).2.2.1.1, WOk_of (h.2 s hs).2.2.1.2.1⟩
theorem zR_ok : ROk zR := by
  have h : WOk ((false, [0, 0, 0, 0], ()) : W) := ⟨wd4 (by omega) (by omega) (by omega) (by omega), rfl⟩
  exact ⟨h, h⟩
theorem Make_ok (F : Nat) (hF : Fuel F) {x y : W} (hx : WOk x) (hy : WOk y) : ∃ q ok, ref03_Make F x y = some (q, ok, ()) ∧ ROk q ∧ (ok = true → RV q) := by
  unfold ref03_Make
  rw [ref02_Valid_eq F hF hx, ref02_Valid_eq F hF hy, ref02_Sign_eq F hF hy]
  simp only [Option.bind_some]
  by_cases v1 : Vl x
  rotate_left
  · rw [decide_eq_false v1]
    exact ⟨zR, false, rfl, zR_ok, fun h => by cases h⟩
  by_cases v2 : Vl y
  rotate_left
  · rw [decide_eq_true v1, decide_eq_false v2]
    exact ⟨zR, false, rfl, zR_ok, fun h => by cases h⟩
  rw [decide_eq_true v1, decide_eq_true v2]
  simp only [Bool.not_true, cond_false]
  by_cases h0 : wi y = 0
  · rw [if_pos h0]
    exact ⟨zR, false, rfl, zR_ok, fun h => by cases h⟩
  · have hz : eqI (if wi y = 0 then 0 else if wi y < 0 then -1 else 1) 0 = false := by
      rw [if_neg h0, ← Bool.not_eq_true, eqI_true]
      split <;> omega
    have hp : 0 < wv y.2.1 := by have := wi_abs y; omega
    have hg0 : 0 < Nat.gcd (wv x.2.1) (wv y.2.1) := Nat.gcd_pos_of_pos_right _ hp
    have hgt := gcd_top hx.lt hy.lt (.inr hp)
    rw [hz]
    unfold ref03_abs
    simp only [cond_false, Option.bind_some]
    rw [noneg_toW hx, noneg_toW hy, ref03_gcd_nat F hF hx.lt hy.lt]
    simp only [Option.bind_some]
    generalize Nat.gcd (wv x.2.1) (wv y.2.1) = g at *
    rw [ref02_DivMod_nat F hF hx.lt hgt hg0, ref02_DivMod_nat F hF hy.lt hgt hg0]
    simp only [Option.bind_some]
    have t1 : wv x.2.1 / g < top256 := Nat.lt_of_le_of_lt (Nat.div_le_self _ _) hx.lt
    have t2 : wv y.2.1 / g < top256 := Nat.lt_of_le_of_lt (Nat.div_le_self _ _) hy.lt
    have fin : ∀ a : W, WOk a → ∃ q ok, ref03_Make_j8 F (fun z18 z19 => some (z18, (z19, ()))) zR a (toW ((wv y.2.1 / g : Nat) : Int)) = some (q, ok, ()) ∧ ROk q ∧ (ok = true → RV q) := by
      intro a ha
      have hk : ROk (a, (toW ((wv y.2.1 / g : Nat) : Int), ())) := ⟨ha, natTop t2⟩
      unfold ref03_Make_j8
      rw [ref03_Valid_eq F hF hk]
      simp only [Option.bind_some]
      by_cases hv : RV (a, (toW ((wv y.2.1 / g : Nat) : Int), ()))
      · rw [decide_eq_true hv]
        exact ⟨_, true, rfl, hk, fun _ => hv⟩
      · rw [decide_eq_false hv]
        exact ⟨zR, false, rfl, zR_ok, fun h => by cases h⟩
    cases eqT Ty.bool x.1 y.1
    · simp only [Bool.not_false, cond_true]
      rw [ref02_Neg_eq F hF (natTop t1)]
      simp only [Option.bind_some]
      exact fin _ (toW_ok (by rw [Int.natAbs_neg]; exact (natTop t1).abs))
    · simp only [Bool.not_true, cond_false]
      exact fin _ (natTop t1)
theorem Ratio6_ok (F : Nat) (hF : Fuel F) {t : List Int × Int × Unit} (h : TapeOk t) (z : Rt) {x y : W} (hx : WOk x) (hy : WOk y) :
    ∃ q, ROk q ∧ RV q ∧ ∀ (R : Type) (k : List Int × Int × Unit → Rt → Option R), made_Tape_Ratio_j6 F k t z x y = k t q := by
  obtain ⟨q, ok, e, h1, h2⟩ := Make_ok F hF hx hy
  cases ok
  · refine ⟨(toW 1, (toW 1, ())), ⟨toW_ok (by decide), toW_ok (by decide)⟩, ?_, fun R k => ?_⟩
    · have h1 : wv (toW 1).2.1 = 1 := wv_pad4 _
      refine ⟨toW_Vl _, toW_Vl _, ?_, ?_, ?_, ?_⟩
      · show 0 < wi (toW 1); rw [wi_toW]; omega
      · show Sm (wv (toW 1).2.1); rw [h1]; decide
      · show Sm (wv (toW 1).2.1); rw [h1]; decide
      · show wgcd (toW 1) (toW 1) = 1
        unfold wgcd
        rw [h1]
        rfl
    · unfold made_Tape_Ratio_j6
      simp only [e, Option.bind_some, Bool.not_false, cond_true, ref03_Of_eq F (x := 1) (by unfold I64; omega)]
  · refine ⟨q, h1, h2 rfl, fun R k => ?_⟩
    unfold made_Tape_Ratio_j6
    simp only [e, Option.bind_some, Bool.not_true, cond_false]
theorem wres_ok (z : Int) : WOk (wres z).1 := by
  unfold wres
  split
  · rename_i h; exact toW_ok h
  · exact toW_ok (by decide)
theorem Ratio4_ok (F : Nat) (hF : Fuel F) {t : List Int × Int × Unit} (h : TapeOk t) (z : Rt) {x y : W} (hx : WOk x) (hy : WOk y) :
    ∃ t' q, TapeOk t' ∧ ROk q ∧ RV q ∧ ∀ (R : Type) (k : List Int × Int × Unit → Rt → Option R), made_Tape_Ratio_j4 F k t z x y = k t' q := by
  obtain ⟨t1, b, e1, h1⟩ := made_Tape_Bool_ok F h (n := 8) (by omega)
  have ho := ref02_Of_eq F (x := 4611686018427387904) (by unfold I64; omega)
  have hok : WOk (toW 4611686018427387904) := toW_ok (by decide)
  cases b
  · obtain ⟨q, q1, q2, q3⟩ := Ratio6_ok F hF h1 z hx hy
    refine ⟨t1, q, h1, q1, q2, fun R k => ?_⟩
    unfold made_Tape_Ratio_j4
    simp only [e1, Option.bind_some, cond_false]
    exact q3 R k
  · have hm := ref02_Mul_eq F hF hx hok
    obtain ⟨q, q1, q2, q3⟩ := Ratio6_ok F hF h1 z (wres_ok (wi x * wi (toW 4611686018427387904))) hy
    refine ⟨t1, q, h1, q1, q2, fun R k => ?_⟩
    unfold made_Tape_Ratio_j4
    simp only [e1, Option.bind_some, cond_true, ho, hm]
    exact q3 R k
theorem i64_abs {x : Int} (h : I64 x) : x.natAbs < top256 := by
  have := top256_big
  unfold I64 at h
  omega
theorem made_Tape_Ratio_ok (F : Nat) (hF : Fuel F) {t : List Int × Int × Unit} (h : TapeOk t) : ∃ t' q, made_Tape_Ratio F t = some (t', q, ()) ∧ TapeOk t' ∧ ROk q ∧ RV q := by
  obtain ⟨t1, a, e1, h1, ha0, ha⟩ := made_Tape_Next_ok F h (n := 200) (by omega)
  obtain ⟨t2, c, e2, h2, hc0, hc⟩ := made_Tape_Next_ok F h1 (n := 60) (by omega)
  obtain ⟨t3, b, e3, h3⟩ := made_Tape_Bool_ok F h2 (n := 4) (by omega)
  have xa : subI .i64 a 100 = a - 100 := subI_i64 (by omega)
  have xb : addI .i64 1 c = 1 + c := addI_i64 (by omega)
  have i1 : I64 (a - 100) := by unfold I64; omega
  have i2 : I64 (1 + c) := by unfold I64; omega
  unfold made_Tape_Ratio
  simp only [e1, e2, e3, Option.bind_some, xa, xb, ref02_Of_eq F i1, ref02_Of_eq F i2]
  cases b
  · obtain ⟨t', q, q1, q2, q3, q4⟩ := Ratio4_ok F hF h3 zR (x := toW (a - 100)) (y := toW (1 + c)) (toW_ok (i64_abs i1)) (toW_ok (i64_abs i2))
    refine ⟨t', q, ?_, q1, q2, q3⟩
    simp only [cond_false]
    exact q4 _ _
  · obtain ⟨t4, d, e4, h4, hd⟩ := made_Tape_Int_ok F hF h3
    obtain ⟨t5, w, e5, h5, hw⟩ := made_Tape_Word_ok F hF h4
    have hwo := rng_or_u64 hw (y := 1) (by omega)
    have htop := top256_big
    obtain ⟨t', q, q1, q2, q3, q4⟩ := Ratio4_ok F hF h5 zR (x := toW d) (y := toW (orI .u64 w 1)) (toW_ok (i64_abs hd)) (toW_ok (by omega))
    refine ⟨t', q, ?_, q1, q2, q3⟩
    simp only [cond_true, e4, e5, Option.bind_some, ref02_Of_eq F hd, ref02_OfUnsigned_eq F hwo]
    exact q4 _ _
theorem isum_pos : ∀ {c : List Int}, (∀ x ∈ c, 1 ≤ x) → 0 ≤ isum c
  | [], _ => Int.le_refl _
  | y :: c, h => by
    have h1 := h y (by simp)
    have h2 := isum_pos (c := c) fun z hz => h z (by simp [hz])
    simp only [isum]; omega
theorem LnOk.push {l : List Ln} (h : LnOk l) {x : Ln} (h1 : I64 x.1) (h2 : I64 x.2.1) (h3 : ROk x.2.2.1) : LnOk (l ++ [x]) := by
  intro s hs
  rcases List.mem_append.1 hs with hs | hs
  · exact h s hs
  · simp at hs
    subst hs
    exact ⟨h1, h2, h3⟩
theorem list18_loop (F : Nat) (hF : Fuel F) {vs : List Int} (hv : Sg vs) (hl : vs.length ≤ 100) : ∀ (m i : Nat) (t : List Int × Int × Unit) (l : List Ln) (T : Int), i + m = vs.length → TapeOk t → LnOk l → l.length = i → isum (lc l) = T → T ≤ 20 * i → (∀ x ∈ lc l, 1 ≤ x) → l.any bentB = false →
    ∀ N, m < N → ∃ t' l', TapeOk t' ∧ LnOk l' ∧ l'.length = vs.length ∧ isum (lc l') ≤ 20 * vs.length ∧ (∀ x ∈ lc l', 1 ≤ x) ∧ l'.any bentB = false ∧ ∀ (R : Type) (k : List Int × Int × Unit → List Ln → Int → Option R), law18_list_l5 F k N t l T vs (i : Int) = k t' l' (isum (lc l')) := by
  intro m
  induction m with
  | zero =>
    intro i t l T hi ht hl' hli hT hT2 hc hbt N hN
    obtain ⟨N, rfl⟩ : ∃ M, N = M + 1 := ⟨N - 1, by omega⟩
    refine ⟨t, l, ht, hl', by omega, by omega, hc, hbt, fun R k => ?_⟩
    rw [hT]
    unfold law18_list_l5
    simp (disch := omega) only [bs, ↓if_pos, ↓if_neg]
  | succ m ih =>
    intro i t l T hi ht hl' hli hT hT2 hc hbt N hN
    obtain ⟨N, rfl⟩ : ∃ M, N = M + 1 := ⟨N - 1, by omega⟩
    obtain ⟨t1, q, e1, ht1, hq0, hq⟩ := made_Tape_Next_ok F ht (n := 9) (by omega)
    obtain ⟨t2, s, e2, ht2, hs1, hs2⟩ := made_Tape_Ratio_ok F hF ht1
    have hx := hv.get (i : Int)
    have hT0 := isum_pos hc
    have step : ∀ sl : Rt, ROk sl → bentB (1 + q, (getL 0 vs (i : Int), (sl, ()))) = false → ∃ t' l', TapeOk t' ∧ LnOk l' ∧ l'.length = vs.length ∧ isum (lc l') ≤ 20 * vs.length ∧ (∀ x ∈ lc l', 1 ≤ x) ∧ l'.any bentB = false ∧
        ∀ (R : Type) (k : List Int × Int × Unit → List Ln → Int → Option R), law18_list_l5 F k N t2 (l ++ [(1 + q, (getL 0 vs (i : Int), (sl, ())))]) (T + (1 + q)) vs ((i : Int) + 1) = k t' l' (isum (lc l')) := by
      intro sl hsl hnb
      have hcn : lc (l ++ [(1 + q, (getL 0 vs (i : Int), (sl, ())))]) = lc l ++ [1 + q] := by simp [lc]
      have hs : isum (lc (l ++ [(1 + q, (getL 0 vs (i : Int), (sl, ())))])) = T + (1 + q) := by rw [hcn, isum_append]; simp only [isum]; omega
      obtain ⟨t', l', g1, g2, g3, g4, g5, g6, g7⟩ := ih (i + 1) t2 (l ++ [(1 + q, (getL 0 vs (i : Int), (sl, ())))]) (T + (1 + q)) (by omega) ht2 (hl'.push (by unfold I64; simp only; omega) hx hsl) (by simp; omega) hs (by omega) (by
        rw [hcn]
        intro x hx
        rcases List.mem_append.1 hx with h | h
        · exact hc x h
        · simp at h; omega) (by rw [List.any_append, hbt]; simp [hnb]) N (by omega)
      refine ⟨t', l', g1, g2, g3, g4, g5, g6, fun R k => ?_⟩
      have e := g7 R k
      simp only [Int.natCast_add, Int.natCast_one] at e
      exact e
    have x1 : ltI (i : Int) (lenI vs) = true := by rw [ltI_true]; unfold lenI; omega
    have x2 : inI (i : Int) vs.length = true := by rw [inI_true]; omega
    have x3 : roomB (l.length + 1) 96 = true := by rw [roomB_true]; omega
    have xa : addI .i64 (i : Int) 1 = (i : Int) + 1 := addI_i64 (by omega)
    have xb : addI .i64 1 q = 1 + q := addI_i64 (by omega)
    have xc : addI .i64 T (1 + q) = T + (1 + q) := addI_i64 (by omega)
    have h0 : ref03_Of F 0 = some (of0, ()) := ref03_Of_eq F (by unfold I64; omega)
    by_cases c1 : 1 + q = 1
    · have y : eqI (1 + q) 1 = true := eqI_true.2 c1
      have hw : wi of0.1 = 0 := wi_toW 0
      obtain ⟨t', l', g1, g2, g3, g4, g5, g6, g7⟩ := step of0 of0_ok (by simp [bentB, of0_RV, hw])
      refine ⟨t', l', g1, g2, g3, g4, g5, g6, fun R k => ?_⟩
      unfold law18_list_l5
      simp only [x1, x2, x3, cond_true, e1, e2, h0, Option.bind_some, xa, xb, xc, y]
      exact g7 R k
    · have y : eqI (1 + q) 1 = false := by rw [← Bool.not_eq_true, eqI_true]; exact c1
      obtain ⟨t', l', g1, g2, g3, g4, g5, g6, g7⟩ := step s hs1 (by simp [bentB, hs2, c1])
      refine ⟨t', l', g1, g2, g3, g4, g5, g6, fun R k => ?_⟩
      unfold law18_list_l5
      simp only [x1, x2, x3, cond_true, cond_false, e1, e2, Option.bind_some, xa, xb, xc, y]
      exact g7 R k
theorem law18_list_ok (F : Nat) (hF : Fuel F) {t : List Int × Int × Unit} (h : TapeOk t) :
    ∃ t' l, law18_list F t = some (t', l, isum (lc l), ()) ∧ TapeOk t' ∧ LnOk l ∧ l.length ≤ 10 ∧ vE l = 0 := by
  obtain ⟨t1, vs, e1, h1, hs, hl⟩ := made_Tape_Values_ok F hF h (n := 10) (by omega)
  obtain ⟨t2, l, g1, g2, g3, g4, g5, g6, g7⟩ := list18_loop F hF hs (by omega) vs.length 0 t1 [] 0 (by omega) h1 (fun s hs => by cases hs) rfl rfl (by simp) (fun x hx => by cases hx) rfl F (by unfold Fuel at hF; omega)
  refine ⟨t2, l, ?_, g1, g2, by omega, vE_of (by omega) (fitsB_of g5 (by omega)) g6⟩
  unfold law18_list
  simp only [e1, Option.bind_some]
  exact g7 _ _
theorem law18_known_true (F : Nat) (hF : Fuel F) : law18_known F = some (true, ()) := by
  unfold Fuel at hF
  obtain ⟨G, rfl⟩ : ∃ G, F = G + 200 := ⟨F - 200, by omega⟩
  kernel_rfl
def lB (l : List Ln) : List Int := hd (lc l) (lv l) ++ slp l
theorem lE_of {l : List Ln} (h : vE l = 0) : lE l = (lB l, 0) := by unfold lE lB; rw [if_pos h]
theorem lB_small {l : List Ln} (hl : LnOk l) (h : vE l = 0) (hn : l.length ≤ 10) : (lB l).length ≤ 1000 ∧ Bt (lB l) := by
  obtain ⟨v1, v2, v3⟩ := vE_zero h
  have h1 := hd_le v2 (by rw [lc_length]; omega) (lv_Sg hl)
  rw [lc_length, lv_length] at h1
  have h2 := (slp_small hl).1
  have h3 := lE_small hl
  rw [lE_of h] at h3
  refine ⟨?_, h3.2⟩
  unfold lB
  rw [List.length_append]
  omega
theorem LSum_loop (F : Nat) {R : Type} (k : List (List Int) → List Int → Int → List Ln → Int → Int → Option R) (ls : List (List Int)) (ns : List Int) (i0 : Int) (end_ : Int) {x : List Ln} (hf : fitsB 4096 (lc x) = true) (hx : x.length ≤ 4096) : ∀ (rest pre : List Ln), x = pre ++ rest → ∀ N, rest.length < N →
    law18_LinesCanonical_l14 F k N ls ns i0 x end_ (isum (lc pre)) (pre.length : Int) = k ls ns i0 x end_ (isum (lc x)) := by
  intro rest
  induction rest with
  | nil =>
    intro pre he N hN
    obtain ⟨N, rfl⟩ : ∃ M, N = M + 1 := ⟨N - 1, by omega⟩
    rw [List.append_nil] at he
    subst he
    unfold law18_LinesCanonical_l14
    simp (disch := omega) only [bs, ↓if_pos, ↓if_neg]
  | cons s rest ih =>
    intro pre he N hN
    obtain ⟨N, rfl⟩ : ∃ M, N = M + 1 := ⟨N - 1, by omega⟩
    simp only [List.length_cons] at hN
    have hlen : x.length = pre.length + 1 + rest.length := by rw [he]; simp; omega
    have g : getL zL x (pre.length : Int) = s := by rw [he]; exact getN_mid pre s rest
    have e := ih (pre ++ [s]) (by rw [he]; simp) N (by omega)
    have hpl : (((pre ++ [s]).length : Nat) : Int) = (pre.length : Int) + 1 := by simp
    have hcp : lc (pre ++ [s]) = lc pre ++ [s.1] := by simp [lc]
    have hsm : isum (lc (pre ++ [s])) = isum (lc pre) + s.1 := by rw [hcp, isum_append]; simp only [isum]; omega
    have hall := fitsB_le hf
    have hbd : 0 ≤ isum (lc pre) ∧ isum (lc pre) ≤ 4096 ∧ 1 ≤ s.1 ∧ s.1 ≤ 4096 := by
      have h1 := (fitsB_sum hf (by omega)).2
      have h2 : lc x = lc pre ++ (s.1 :: lc rest) := by rw [he]; simp [lc]
      have h4 := isum_pos (c := lc pre) fun y hy => (hall y (by rw [h2]; simp [hy])).1
      have h5 := isum_pos (c := lc rest) fun y hy => (hall y (by rw [h2]; simp [hy])).1
      have h6 := hall s.1 (by rw [h2]; simp)
      rw [h2, isum_append] at h1
      simp only [isum] at h1
      omega
    rw [hpl, hsm] at e
    have x1 : ltI (pre.length : Int) (lenI x) = true := by rw [ltI_true]; unfold lenI; omega
    have x2 : inI (pre.length : Int) x.length = true := by rw [inI_true]; omega
    have xa : addI .i64 (pre.length : Int) 1 = (pre.length : Int) + 1 := addI_i64 (by omega)
    have xb : addI .i64 (isum (lc pre)) s.1 = isum (lc pre) + s.1 := addI_i64 (by omega)
    unfold law18_LinesCanonical_l14
    simp only [x1, x2, cond_true, g, xa, xb]
    exact e
theorem LinesCanonical_step (F : Nat) (hF : Fuel F) {R : Type} (k0 : Option R) (kret : Bool → Option R) {b : List Int} (hb : Bt b) (hbl : (b.length : Int) ≤ 140737488355328) {ls : List (List Int)} {ns : List Int} {i : Nat} (hi : i < ls.length) (hi2 : i < ns.length) (hil : (ls.length : Int) ≤ 1000) (hg : getL [] ls (i : Int) = b) (N : Nat) :
    law18_LinesCanonical_l8 F k0 kret (N + 1) ls ns (i : Int) = law18_LinesCanonical_l8 F k0 kret N ls ns ((i : Int) + 1) := by
  obtain ⟨x, end_, e, h1, _, hx, h3, h4⟩ := lDecode F hF hb hbl 0 (getL 0 ns (i : Int))
  have x1 : ltI (i : Int) (lenI ls) = true := by rw [ltI_true]; unfold lenI; omega
  have x2 : inI (i : Int) ls.length = true := by rw [inI_true]; omega
  have x3 : inI (i : Int) ns.length = true := by rw [inI_true]; omega
  have xa : addI .i64 (i : Int) 1 = (i : Int) + 1 := addI_i64 (by omega)
  conv => lhs; unfold law18_LinesCanonical_l8
  by_cases c : e = 0
  · obtain ⟨_, g2, g3, g4, g5, g6, g7⟩ := h3 c
    rw [cut_zero] at g7
    have g7 : lB x = takeL b end_ := g7
    have e2 := lines_Encode_eq F hF hx (by omega)
    have e2v := lines_Valid_eq F hF hx (by omega)
    have hs := (lE_small hx).1
    rw [lE_of g6] at e2 hs
    have hs : (lB x).length ≤ 1400000 := hs
    rw [g6] at e2v
    have e3 := ref06_Same_eq F hF (a := lB x) (b := takeL b end_) (by omega)
    rw [decide_eq_true g7] at e3
    have x4 : eqI e 0 = true := by rw [eqI_true]; exact c
    have x5 : ltI (lenI b) end_ = false := by rw [← Bool.not_eq_true, ltI_true]; unfold lenI; omega
    have x6 : cutB 0 end_ b.length = true := by rw [cutB_true]; omega
    have x7 : eqI (getL 0 ns (i : Int)) (getL 0 ns (i : Int)) = true := by rw [eqI_true]
    simp only [x1, x2, x3, cond_true, hg, h1, Option.bind_some, x4, Bool.not_true, cond_false]
    refine (LSum_loop F _ ls ns (i : Int) end_ (vE_zero g6).2.1 g2 x [] rfl F (by unfold Fuel at hF; omega)).trans ?_
    rw [g3, e2]
    simp only
    generalize lB x = d at *
    have z0 : eqI (0 : Int) 0 = true := rfl
    simp only [Option.bind_some, z0, Bool.not_true, cond_false, e2v, x3, cond_true, x7, x2]
    rw [hg]
    simp only [x5, x6, cond_true, cond_false, e3, Option.bind_some, Bool.not_true, xa]
  · have x4 : eqI e 0 = false := by rw [← Bool.not_eq_true, eqI_true]; exact c
    simp only [x1, x2, x3, cond_true, hg, h1, Option.bind_some, x4, Bool.not_false, xa]
theorem LinesCanonical_true (F : Nat) (hF : Fuel F) {b t : List Int} {n : Int} (hb : Bt b) (hbl : (b.length : Int) ≤ 140737488351232) (hn : I64 n) (ht : ∀ x ∈ t, I64 x) (htl : (t.length : Int) ≤ 140737488355328) :
    law18_LinesCanonical F b n t = some (true, ()) := by
  obtain ⟨t0, e0, h0⟩ := made_New_ok F htl ht
  obtain ⟨t1, l, e1, h1, hl, hll, hlv⟩ := law18_list_ok F hF h0
  have e2 := lines_Encode_eq F hF hl (by omega)
  rw [lE_of hlv] at e2
  obtain ⟨s1, s3⟩ := lB_small hl hlv hll
  obtain ⟨m, e3, hm0, hm⟩ := made_Mod_any F hn (y := 30) (by omega)
  generalize lB l = d at *
  obtain ⟨t3, c, e5, h3, hc, hcl⟩ := made_Tape_Spoiled_ok F h1 s3 (by omega)
  have hw := rng_wrap_u8 n
  have b1 : Bt ([1, 0, 1, 0, 0, IntKind.u8.wrap n] ++ b) := Bt.append (fun x hx => by simp at hx; omega) hb
  have l1 : ([1, 0, 1, 0, 0, IntKind.u8.wrap n] ++ b : List Int).length = b.length + 6 := by simp
  obtain ⟨x1, hx1⟩ : ∃ x, x = ([1, 0, 1, 0, 0, IntKind.u8.wrap n] ++ b : List Int) := ⟨_, rfl⟩
  rw [← hx1] at b1 l1
  obtain ⟨G, hG⟩ : ∃ G, F = G + 1 + 1 + 1 + 1 + 1 := ⟨F - 5, by unfold Fuel at hF; omega⟩
  have fin : ∀ (R : Type) (k0 : Option R) (kret : Bool → Option R) (ns : List Int), ns.length = 4 → law18_LinesCanonical_l8 F k0 kret F [b, x1, c, d] ns 0 = k0 := by
    intro R k0 kret ns hns
    have s0 := fun N => LinesCanonical_step F hF k0 kret hb (by omega) (ls := [b, x1, c, d]) (ns := ns) (i := 0) (by simp) (by omega) (by simp) rfl N
    have s1 := fun N => LinesCanonical_step F hF k0 kret b1 (by omega) (ls := [b, x1, c, d]) (ns := ns) (i := 1) (by simp) (by omega) (by simp) rfl N
    have s2 := fun N => LinesCanonical_step F hF k0 kret hc (by omega) (ls := [b, x1, c, d]) (ns := ns) (i := 2) (by simp) (by omega) (by simp) rfl N
    have s3 := fun N => LinesCanonical_step F hF k0 kret s3 (by omega) (ls := [b, x1, c, d]) (ns := ns) (i := 3) (by simp) (by omega) (by simp) rfl N
    have s4 : ∀ N, law18_LinesCanonical_l8 F k0 kret (N + 1) [b, x1, c, d] ns 4 = k0 := by
      intro N
      unfold law18_LinesCanonical_l8
      have hx : ltI (4 : Int) (lenI [b, x1, c, d]) = false := rfl
      rw [hx, cond_false]
    have h := ((s0 (G + 1 + 1 + 1 + 1)).trans ((s1 (G + 1 + 1 + 1)).trans ((s2 (G + 1 + 1)).trans ((s3 (G + 1)).trans (s4 G)))))
    rw [← hG] at h
    exact h
  have r1 : roomB (6 + b.length) 1 = true := by rw [roomB_true]; omega
  unfold law18_LinesCanonical
  simp only [e0, e1, e2, e3, e5, Option.bind_some, r1, cond_true, law18_known_true F hF, ← hx1]
  exact fin _ _ _ _ rfl
end Go.Proofs.YtfmjokmjaghehaaGreat
