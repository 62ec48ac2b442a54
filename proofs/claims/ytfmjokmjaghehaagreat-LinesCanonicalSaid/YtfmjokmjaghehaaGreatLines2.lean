
/- Lines: what Decode says. -/
import Derived.Test.YtfmjokmjaghehaaGreatLines
set_option linter.unusedVariables false
set_option linter.unusedSimpArgs false
namespace Go.Proofs.YtfmjokmjaghehaaGreat
open Go.Eng
theorem rdw_ok {b : List Int} (hb : Bt b) {at_ : Int} (h : (rdw b at_).2.2 = 0) : 0 ≤ at_ ∧ at_ < (rdw b at_).2.1 ∧ (rdw b at_).2.1 ≤ b.length ∧ dropL (takeL b (rdw b at_).2.1) at_ = enc (uw (rdw b at_).1) := by
  unfold rdw at h ⊢
  by_cases h0 : (gp 37 b at_).2 = 0
  · obtain ⟨i1, i2, c, rest, h1, h2, h3, h4, h5, h6⟩ := gp_ok hb h0
    rw [h1] at h ⊢
    simp only [if_true] at h ⊢
    by_cases h7 : dv c < 2 * top256 ∧ dv c ≠ 1
    · simp only [if_pos h7]
      have hp := List.length_pos_iff.2 h4.ne
      have hlen : (b.drop at_.toNat).length = c.length + rest.length := by rw [h2]; simp
      simp only [List.length_drop] at hlen
      refine ⟨i1, by omega, by omega, ?_⟩
      rw [uw_wu h7.2, h5]
      unfold dropL takeL
      rw [List.drop_take, h2, List.take_left' (by omega)]
    · rw [if_neg h7] at h; simp at h
  · rw [if_neg h0] at h; exact absurd h h0
def rsp (b : List Int) (at_ : Int) : Rt × Int × Int :=
  if (rdw b at_).2.2 = 0 then
    if (rdw b (rdw b at_).2.1).2.2 = 0 then
      if RV (toW (rdw b at_).1, (toW (rdw b (rdw b at_).2.1).1, ())) then ((toW (rdw b at_).1, (toW (rdw b (rdw b at_).2.1).1, ())), (rdw b (rdw b at_).2.1).2.1, 0) else (zR, 0, 5)
    else (zR, 0, (rdw b (rdw b at_).2.1).2.2)
  else (zR, 0, (rdw b at_).2.2)
theorem rRt_ok (b : List Int) (a c : Int) : ROk (toW (rdw b a).1, (toW (rdw b c).1, ())) := ⟨toW_ok (rdw_abs b a), toW_ok (rdw_abs b c)⟩
theorem ref18_ReadSlope_eq (F : Nat) (hF : Fuel F) {b : List Int} (hb : Bt b) (hl : (b.length : Int) ≤ 140737488355328) (at_ : Int) : ref18_ReadSlope F b at_ = some ((rsp b at_).1, (rsp b at_).2.1, (rsp b at_).2.2, ()) := by
  unfold ref18_ReadSlope rsp
  rw [ref05_ReadWide_eq F hF hb hl at_]
  simp only [Option.bind_some]
  by_cases c1 : (rdw b at_).2.2 = 0
  · have y1 : eqI (rdw b at_).2.2 0 = true := eqI_true.2 c1
    rw [if_pos c1, y1]
    simp only [Bool.not_true, cond_false, ref05_ReadWide_eq F hF hb hl, Option.bind_some]
    by_cases c2 : (rdw b (rdw b at_).2.1).2.2 = 0
    · have y2 : eqI (rdw b (rdw b at_).2.1).2.2 0 = true := eqI_true.2 c2
      rw [if_pos c2, y2]
      simp only [Bool.not_true, cond_false, ref03_Valid_eq F hF (rRt_ok b _ _), Option.bind_some]
      by_cases c3 : RV (toW (rdw b at_).1, (toW (rdw b (rdw b at_).2.1).1, ()))
      · rw [if_pos c3, decide_eq_true c3]; rfl
      · rw [if_neg c3, decide_eq_false c3]; rfl
    · have y2 : eqI (rdw b (rdw b at_).2.1).2.2 0 = false := by rw [← Bool.not_eq_true, eqI_true]; exact c2
      rw [if_neg c2, y2]; rfl
  · have y1 : eqI (rdw b at_).2.2 0 = false := by rw [← Bool.not_eq_true, eqI_true]; exact c1
    rw [if_neg c1, y1]; rfl
theorem records_Slope_eq (F : Nat) (hF : Fuel F) {b : List Int} (hb : Bt b) (hl : (b.length : Int) ≤ 140737488355328) (at_ : Int) : records_Slope F b at_ = some ((rsp b at_).1, (rsp b at_).2.1, (rsp b at_).2.2, ()) := by
  have hF' := hF
  unfold Fuel at hF'
  obtain ⟨N, hN⟩ : ∃ N, F = N + 1 + 1 + 1 := ⟨F - 3, by omega⟩
  have st1 : ∀ {R : Type} (k0 : Int → Rt → List W → Option R) (kr : Rt → Int → Int → Option R) (M : Nat) (q : Rt) (x y : W) (a : Int), records_Slope_l3 F k0 kr (M + 1) b a q [x, y] 0 =
      if (rdw b a).2.2 = 0 then records_Slope_l3 F k0 kr M b (rdw b a).2.1 q [toW (rdw b a).1, y] 1 else kr zR 0 (rdw b a).2.2 := by
    intro R k0 kr M q x y a
    rw [records_Slope_l3, varint_ReadWide_eq F hF hb hl]
    by_cases c1 : (rdw b a).2.2 = 0
    · rw [if_pos c1]; simp (disch := omega) only [bs, ↓if_pos, ↓if_neg]
      rfl
    · rw [if_neg c1]; simp (disch := omega) only [bs, ↓if_pos, ↓if_neg]
  have st2 : ∀ {R : Type} (k0 : Int → Rt → List W → Option R) (kr : Rt → Int → Int → Option R) (M : Nat) (q : Rt) (x y : W) (a : Int), records_Slope_l3 F k0 kr (M + 1) b a q [x, y] 1 =
      if (rdw b a).2.2 = 0 then records_Slope_l3 F k0 kr M b (rdw b a).2.1 q [x, toW (rdw b a).1] 2 else kr zR 0 (rdw b a).2.2 := by
    intro R k0 kr M q x y a
    rw [records_Slope_l3, varint_ReadWide_eq F hF hb hl]
    by_cases c1 : (rdw b a).2.2 = 0
    · rw [if_pos c1]; simp (disch := omega) only [bs, ↓if_pos, ↓if_neg]
      rfl
    · rw [if_neg c1]; simp (disch := omega) only [bs, ↓if_pos, ↓if_neg]
  have st3 : ∀ {R : Type} (k0 : Int → Rt → List W → Option R) (kr : Rt → Int → Int → Option R) (M : Nat) (q : Rt) (z : List W) (a : Int), records_Slope_l3 F k0 kr (M + 1) b a q z 2 = k0 a q z := by
    intro R k0 kr M q z a
    rw [records_Slope_l3]
    simp (disch := omega) only [bs, ↓if_pos, ↓if_neg]
  unfold records_Slope
  have key : ∀ M, M = N + 1 + 1 + 1 → records_Slope_l3 F
    (fun z6 z7 z8 =>
      let x33v9 := getL (false, ([0, 0, 0, 0], ())) z8 0
      let x35v10 := getL (false, ([0, 0, 0, 0], ())) z8 1
      (wide_Sign F x35v10).bind fun r11 =>
      bif leI r11.1 0 then
        some (((false, ([0, 0, 0, 0], ())), ((false, ([0, 0, 0, 0], ())), ())), ((0 : Int), ((5 : Int), ())))
      else
        (ratio_Valid F (x33v9, (x35v10, ()))).bind fun r13 =>
        bif not r13.1 then
          some (((false, ([0, 0, 0, 0], ())), ((false, ([0, 0, 0, 0], ())), ())), (0, (5, ())))
        else
          some ((x33v9, (x35v10, ())), (z6, (0, ()))))
    (fun z15 z16 z17 =>
      some (z15, (z16, (z17, ()))))
    M b at_ ((false, ([0, 0, 0, 0], ())), ((false, ([0, 0, 0, 0], ())), ())) [(false, ([0, 0, 0, 0], ())), (false, ([0, 0, 0, 0], ()))] 0 = some ((rsp b at_).1, (rsp b at_).2.1, (rsp b at_).2.2, ()) := by
    intro M hM
    subst hM
    unfold rsp
    rw [st1]
    by_cases c1 : (rdw b at_).2.2 = 0
    · rw [if_pos c1, if_pos c1, st2]
      by_cases c2 : (rdw b (rdw b at_).2.1).2.2 = 0
      · rw [if_pos c2, if_pos c2, st3]
        show ((wide_Sign F (toW (rdw b (rdw b at_).2.1).1)).bind fun r11 =>
          bif leI r11.1 0 then some (zR, ((0 : Int), ((5 : Int), ())))
          else (ratio_Valid F (toW (rdw b at_).1, (toW (rdw b (rdw b at_).2.1).1, ()))).bind fun r13 =>
            bif not r13.1 then some (zR, (0, (5, ()))) else some ((toW (rdw b at_).1, (toW (rdw b (rdw b at_).2.1).1, ())), ((rdw b (rdw b at_).2.1).2.1, (0, ())))) = _
        have hok := rRt_ok b at_ (rdw b at_).2.1
        rw [wide_Sign_eq F hok.2, ratio_Valid_eq F hF hok]
        simp only [Option.bind_some]
        by_cases c3 : RV (toW (rdw b at_).1, (toW (rdw b (rdw b at_).2.1).1, ()))
        · have hp := c3.2.2.1
          simp only at hp
          rw [if_pos c3, decide_eq_true c3, if_neg (by omega), if_neg (by omega)]
          rfl
        · rw [if_neg c3, decide_eq_false c3]
          cases leI (if wi (toW (rdw b (rdw b at_).2.1).1) = 0 then (0 : Int) else if wi (toW (rdw b (rdw b at_).2.1).1) < 0 then -1 else 1) 0 <;> rfl
      · rw [if_neg c2, if_neg c2]
    · rw [if_neg c1, if_neg c1]
  exact key F hN
theorem rsp_ok {b : List Int} (hb : Bt b) {at_ : Int} (h : (rsp b at_).2.2 = 0) : ROk (rsp b at_).1 ∧ RV (rsp b at_).1 ∧ 0 ≤ at_ ∧ at_ < (rsp b at_).2.1 ∧ (rsp b at_).2.1 ≤ b.length ∧ dropL (takeL b (rsp b at_).2.1) at_ = sp (rsp b at_).1 := by
  unfold rsp at h ⊢
  by_cases c1 : (rdw b at_).2.2 = 0
  · rw [if_pos c1] at h ⊢
    by_cases c2 : (rdw b (rdw b at_).2.1).2.2 = 0
    · rw [if_pos c2] at h ⊢
      by_cases c3 : RV (toW (rdw b at_).1, (toW (rdw b (rdw b at_).2.1).1, ()))
      · rw [if_pos c3] at h ⊢
        obtain ⟨i1, i2, i3, i4⟩ := rdw_ok hb c1
        obtain ⟨j1, j2, j3, j4⟩ := rdw_ok hb c2
        refine ⟨rRt_ok b _ _, c3, i1, by show at_ < (rdw b (rdw b at_).2.1).2.1; omega, j3, ?_⟩
        show dropL (takeL b (rdw b (rdw b at_).2.1).2.1) at_ = _
        unfold sp
        rw [← cut_join i1 (Int.le_of_lt i2) (Int.le_of_lt j2) j3, i4, j4]
        simp only [wi_toW]
      · rw [if_neg c3] at h; simp at h
    · rw [if_neg c2] at h; exact absurd h c2
  · rw [if_neg c1] at h; exact absurd h c1
def rln (b : List Int) : Int → List Int → List Int → List Ln × Int × Int
  | at_, c :: cs, v :: vs =>
    if 1 < c then
      if (rsp b at_).2.2 = 0 then
        if (rln b (rsp b at_).2.1 cs vs).2.2 = 0 then ((c, (v, ((rsp b at_).1, ()))) :: (rln b (rsp b at_).2.1 cs vs).1, (rln b (rsp b at_).2.1 cs vs).2.1, 0)
        else ([], 0, (rln b (rsp b at_).2.1 cs vs).2.2)
      else ([], 0, (rsp b at_).2.2)
    else
      if (rln b at_ cs vs).2.2 = 0 then ((c, (v, (of0, ()))) :: (rln b at_ cs vs).1, (rln b at_ cs vs).2.1, 0)
      else ([], 0, (rln b at_ cs vs).2.2)
  | at_, _, _ => ([], at_, 0)
theorem setN_mid (d : List Ln) (x y : Ln) (t : List Ln) : setL (d ++ x :: t) (d.length : Int) y = (d ++ [y]) ++ t := by
  simp [setL]
theorem setN_mid2 (d : List Ln) (x y : Ln) (t : List Ln) : setL ((d ++ [x]) ++ t) (d.length : Int) y = (d ++ [y]) ++ t := by
  simp [setL]
theorem getN_mid2 (d : List Ln) (x : Ln) (t : List Ln) : getL zL ((d ++ [x]) ++ t) (d.length : Int) = x := by
  simp [getL, List.getD_eq_getElem?_getD]
theorem lDec_loop (F : Nat) (hF : Fuel F) {R : Type} (k : Int → List Ln → Option R) (kr : List Ln → Int → Int → Option R) {b : List Int} (hbt : Bt b) (hbl : (b.length : Int) ≤ 140737488355328) {cs vs : List Int} (h1 : ∀ x ∈ cs, 1 ≤ x) (hb : cs.length ≤ 100000) (hl : cs.length = vs.length) :
    ∀ (rc rv pc pv : List Int) (at_ : Int) (out z : List Ln), cs = pc ++ rc → vs = pv ++ rv → pc.length = pv.length → out.length = pc.length → z.length = rc.length → ∀ N, rc.length < N →
    lines_Decode_l16 F k kr N b at_ cs vs (out ++ z) (cs.length : Int) (pc.length : Int) = if (rln b at_ rc rv).2.2 = 0 then k (rln b at_ rc rv).2.1 (out ++ (rln b at_ rc rv).1) else kr [] 0 (rln b at_ rc rv).2.2 := by
  intro rc
  induction rc with
  | nil =>
    intro rv pc pv at_ out z hc hv hpl ho hz N hN
    obtain ⟨N, rfl⟩ : ∃ M, N = M + 1 := ⟨N - 1, by omega⟩
    have : z = [] := List.length_eq_zero_iff.1 hz
    subst this
    have hlen : cs.length = pc.length := by rw [hc]; simp
    have hr : rln b at_ [] rv = ([], at_, 0) := by unfold rln; rfl
    unfold lines_Decode_l16
    rw [hr]
    simp (disch := omega) only [bs, ↓if_pos, ↓if_neg]
  | cons x rc ih =>
    intro rv pc pv at_ out z hc hv hpl ho hz N hN
    obtain ⟨N, rfl⟩ : ∃ M, N = M + 1 := ⟨N - 1, by omega⟩
    obtain ⟨y, z', rfl⟩ : ∃ y z', z = y :: z' := by
      cases z with
      | nil => simp at hz
      | cons y z' => exact ⟨y, z', rfl⟩
    have hl1 : cs.length = pc.length + 1 + rc.length := by rw [hc]; simp; omega
    have hl2 : vs.length = pv.length + rv.length := by rw [hv]; simp
    obtain ⟨u, rv', rfl⟩ : ∃ u rv', rv = u :: rv' := by
      cases rv with
      | nil => simp at hl2; omega
      | cons u rv' => exact ⟨u, rv', rfl⟩
    simp only [List.length_cons] at hN hz hl2
    have hx1 : 1 ≤ x := h1 x (by rw [hc]; simp)
    have g1 : getL 0 cs (pc.length : Int) = x := by rw [hc]; exact get_mid pc x rc
    have g2 : getL 0 vs (pc.length : Int) = u := by rw [hv, hpl]; exact get_mid pv u rv'
    have st : setL (out ++ y :: z') (pc.length : Int) (x, (u, (of0, ()))) = (out ++ [(x, (u, (of0, ())))]) ++ z' := by rw [← ho]; exact setN_mid out y _ z'
    have st2 : ∀ w : Ln, setL ((out ++ [(x, (u, (of0, ())))]) ++ z') (pc.length : Int) w = (out ++ [w]) ++ z' := fun w => by rw [← ho]; exact setN_mid2 out _ _ z'
    have gt2 : getL zL ((out ++ [(x, (u, (of0, ())))]) ++ z') (pc.length : Int) = (x, (u, (of0, ()))) := by rw [← ho]; exact getN_mid2 out _ z'
    have hol : (out ++ y :: z').length = pc.length + 1 + z'.length := by simp; omega
    have hol2 : ((out ++ [(x, (u, (of0, ())))]) ++ z').length = pc.length + 1 + z'.length := by simp; omega
    have e := fun a (w : Ln) => ih rv' (pc ++ [x]) (pv ++ [u]) a (out ++ [w]) z' (by rw [hc]; simp) (by rw [hv]; simp) (by simp [hpl]) (by simp [ho]) (by omega) N (by omega)
    have hpc : (((pc ++ [x]).length : Nat) : Int) = (pc.length : Int) + 1 := by simp
    simp only [hpc] at e
    have x1 : ltI (pc.length : Int) (cs.length : Int) = true := by rw [ltI_true]; omega
    have x2 : inI (pc.length : Int) cs.length = true := by rw [inI_true]; omega
    have x3 : inI (pc.length : Int) vs.length = true := by rw [inI_true]; omega
    have x4 : inI (pc.length : Int) (out ++ y :: z').length = true := by rw [inI_true]; omega
    have x5 : inI (pc.length : Int) ((out ++ [(x, (u, (of0, ())))]) ++ z').length = true := by rw [inI_true]; omega
    have xa : addI .i64 (pc.length : Int) 1 = (pc.length : Int) + 1 := addI_i64 (by omega)
    unfold lines_Decode_l16
    rw [rln]
    simp only [x1, x2, x3, x4, cond_true, g1, g2, ratio_Of0, Option.bind_some, st, xa, records_Slope_eq F hF hbt hbl, x5, st2, gt2]
    by_cases c1 : 1 < x
    · have y1 : eqI x 1 = false := by rw [← Bool.not_eq_true, eqI_true]; omega
      rw [if_pos c1, y1, cond_false]
      by_cases c2 : (rsp b at_).2.2 = 0
      · have y2 : eqI (rsp b at_).2.2 0 = true := eqI_true.2 c2
        rw [if_pos c2, y2, Bool.not_true, cond_false, e]
        by_cases c3 : (rln b (rsp b at_).2.1 rc rv').2.2 = 0
        · rw [if_pos c3, if_pos c3, if_pos rfl, List.append_assoc]
          rfl
        · rw [if_neg c3, if_neg c3, if_neg c3]
      · have y2 : eqI (rsp b at_).2.2 0 = false := by rw [← Bool.not_eq_true, eqI_true]; exact c2
        rw [if_neg c2, y2, Bool.not_false, cond_true, if_neg c2]
    · have y1 : eqI x 1 = true := by rw [eqI_true]; omega
      rw [if_neg c1, y1, cond_true, e]
      by_cases c3 : (rln b at_ rc rv').2.2 = 0
      · rw [if_pos c3, if_pos c3, if_pos rfl, List.append_assoc]
        rfl
      · rw [if_neg c3, if_neg c3, if_neg c3]
theorem rlDec_loop (F : Nat) (hF : Fuel F) {R : Type} (k : Int → List Ln → Option R) (kr : List Ln → Int → Int → Option R) {b : List Int} (hbt : Bt b) (hbl : (b.length : Int) ≤ 140737488355328) {cs vs : List Int} (hb : cs.length ≤ 100000) (hl : cs.length = vs.length) :
    ∀ (rc rv pc pv : List Int) (at_ : Int) (out : List Ln), cs = pc ++ rc → vs = pv ++ rv → pc.length = pv.length → out.length = pc.length → ∀ N, rc.length < N →
    ref18_Decode_l6 F k kr N b at_ cs vs out (pc.length : Int) = if (rln b at_ rc rv).2.2 = 0 then k (rln b at_ rc rv).2.1 (out ++ (rln b at_ rc rv).1) else kr [] 0 (rln b at_ rc rv).2.2 := by
  intro rc
  induction rc with
  | nil =>
    intro rv pc pv at_ out hc hv hpl ho N hN
    obtain ⟨N, rfl⟩ : ∃ M, N = M + 1 := ⟨N - 1, by omega⟩
    have hlen : cs.length = pc.length := by rw [hc]; simp
    have hr : rln b at_ [] rv = ([], at_, 0) := by unfold rln; rfl
    unfold ref18_Decode_l6
    rw [hr]
    simp (disch := omega) only [bs, ↓if_pos, ↓if_neg]
    rw [List.append_nil]
  | cons x rc ih =>
    intro rv pc pv at_ out hc hv hpl ho N hN
    obtain ⟨N, rfl⟩ : ∃ M, N = M + 1 := ⟨N - 1, by omega⟩
    have hl1 : cs.length = pc.length + 1 + rc.length := by rw [hc]; simp; omega
    have hl2 : vs.length = pv.length + rv.length := by rw [hv]; simp
    obtain ⟨u, rv', rfl⟩ : ∃ u rv', rv = u :: rv' := by
      cases rv with
      | nil => simp at hl2; omega
      | cons u rv' => exact ⟨u, rv', rfl⟩
    simp only [List.length_cons] at hN hl2
    have g1 : getL 0 cs (pc.length : Int) = x := by rw [hc]; exact get_mid pc x rc
    have g2 : getL 0 vs (pc.length : Int) = u := by rw [hv, hpl]; exact get_mid pv u rv'
    have e := fun a (w : Ln) => ih rv' (pc ++ [x]) (pv ++ [u]) a (out ++ [w]) (by rw [hc]; simp) (by rw [hv]; simp) (by simp [hpl]) (by simp [ho]) N (by omega)
    have hpc : (((pc ++ [x]).length : Nat) : Int) = (pc.length : Int) + 1 := by simp
    simp only [hpc] at e
    have x1 : ltI (pc.length : Int) (lenI cs) = true := by rw [ltI_true]; unfold lenI; omega
    have x2 : inI (pc.length : Int) cs.length = true := by rw [inI_true]; omega
    have x3 : inI (pc.length : Int) vs.length = true := by rw [inI_true]; omega
    have x4 : roomB (out.length + 1) 96 = true := by rw [roomB_true]; omega
    have xa : addI .i64 (pc.length : Int) 1 = (pc.length : Int) + 1 := addI_i64 (by omega)
    have h0 : ref03_Of F 0 = some (of0, ()) := ref03_Of_eq F (by unfold I64; omega)
    unfold ref18_Decode_l6
    rw [rln]
    simp only [x1, x2, x3, x4, cond_true, g1, g2, h0, Option.bind_some, xa, ref18_ReadSlope_eq F hF hbt hbl]
    by_cases c1 : 1 < x
    · have y1 : ltI 1 x = true := ltI_true.2 c1
      rw [if_pos c1, y1, cond_true]
      by_cases c2 : (rsp b at_).2.2 = 0
      · have y2 : eqI (rsp b at_).2.2 0 = true := eqI_true.2 c2
        rw [if_pos c2, y2, Bool.not_true, cond_false, e]
        by_cases c3 : (rln b (rsp b at_).2.1 rc rv').2.2 = 0
        · rw [if_pos c3, if_pos c3, if_pos rfl, List.append_assoc]
          rfl
        · rw [if_neg c3, if_neg c3, if_neg c3]
      · have y2 : eqI (rsp b at_).2.2 0 = false := by rw [← Bool.not_eq_true, eqI_true]; exact c2
        rw [if_neg c2, y2, Bool.not_false, cond_true, if_neg c2]
    · have y1 : ltI 1 x = false := by rw [← Bool.not_eq_true, ltI_true]; exact c1
      rw [if_neg c1, y1, cond_false, e]
      by_cases c3 : (rln b at_ rc rv').2.2 = 0
      · rw [if_pos c3, if_pos c3, if_pos rfl, List.append_assoc]
        rfl
      · rw [if_neg c3, if_neg c3, if_neg c3]
theorem lc_cons (x : Ln) (l : List Ln) : lc (x :: l) = x.1 :: lc l := rfl
theorem lv_cons (x : Ln) (l : List Ln) : lv (x :: l) = x.2.1 :: lv l := rfl
theorem rln_ok {b : List Int} (hb : Bt b) : ∀ {cs vs : List Int} {at_ : Int}, (∀ x ∈ cs, 1 ≤ x) → Sg cs → Sg vs → cs.length = vs.length → 0 ≤ at_ → at_ ≤ b.length → (rln b at_ cs vs).2.2 = 0 →
    LnOk (rln b at_ cs vs).1 ∧ lc (rln b at_ cs vs).1 = cs ∧ lv (rln b at_ cs vs).1 = vs ∧ (rln b at_ cs vs).1.any bentB = false ∧ at_ ≤ (rln b at_ cs vs).2.1 ∧ (rln b at_ cs vs).2.1 ≤ b.length ∧
      dropL (takeL b (rln b at_ cs vs).2.1) at_ = slp (rln b at_ cs vs).1
  | [], vs, at_, _, _, _, hl, h0, h1, h => by
    have hr : rln b at_ [] vs = ([], at_, 0) := by unfold rln; rfl
    have hv : vs = [] := List.length_eq_zero_iff.1 hl.symm
    rw [hr]
    refine ⟨fun s hs => (by cases hs), rfl, hv.symm, rfl, Int.le_refl _, h1, ?_⟩
    show dropL (takeL b at_) at_ = []
    unfold dropL takeL
    exact List.drop_eq_nil_of_le (by simp; omega)
  | x :: cs, [], at_, _, _, _, hl, _, _, _ => by simp at hl
  | x :: cs, u :: vs, at_, hx, hc, hv, hl, h0, h1, h => by
    have hx1 := hx x (by simp)
    have hcx := hc x (by simp)
    have hvu := hv u (by simp)
    have hx' : ∀ y ∈ cs, 1 ≤ y := fun y hy => hx y (List.mem_cons_of_mem _ hy)
    have hc' : Sg cs := fun y hy => hc y (List.mem_cons_of_mem _ hy)
    have hv' : Sg vs := fun y hy => hv y (List.mem_cons_of_mem _ hy)
    have hl' : cs.length = vs.length := by simpa using hl
    rw [rln] at h ⊢
    by_cases c1 : 1 < x
    · rw [if_pos c1] at h ⊢
      by_cases c2 : (rsp b at_).2.2 = 0
      · rw [if_pos c2] at h ⊢
        obtain ⟨i1, i2, i3, i4, i5, i6⟩ := rsp_ok hb c2
        by_cases c3 : (rln b (rsp b at_).2.1 cs vs).2.2 = 0
        · obtain ⟨j1, j2, j3, j4, j5, j6, j7⟩ := rln_ok hb hx' hc' hv' hl' (by omega) i5 c3
          rw [if_pos c3]
          refine ⟨?_, by rw [lc_cons, j2], by rw [lv_cons, j3], ?_, by show at_ ≤ (rln b (rsp b at_).2.1 cs vs).2.1; omega, j6, ?_⟩
          · intro s hs
            rcases List.mem_cons.1 hs with rfl | hs
            · exact ⟨hcx, hvu, i1⟩
            · exact j1 s hs
          · rw [List.any_cons, j4]
            have : x ≠ 1 := by omega
            simp [bentB, i2, this]
          · show dropL (takeL b (rln b (rsp b at_).2.1 cs vs).2.1) at_ = _
            rw [slp, if_pos c1, ← cut_join i3 (Int.le_of_lt i4) j5 j6, i6, j7]
        · rw [if_neg c3] at h; exact absurd h c3
      · rw [if_neg c2] at h; exact absurd h c2
    · rw [if_neg c1] at h ⊢
      by_cases c3 : (rln b at_ cs vs).2.2 = 0
      · obtain ⟨j1, j2, j3, j4, j5, j6, j7⟩ := rln_ok hb hx' hc' hv' hl' h0 h1 c3
        rw [if_pos c3]
        refine ⟨?_, by rw [lc_cons, j2], by rw [lv_cons, j3], ?_, j5, j6, ?_⟩
        · intro s hs
          rcases List.mem_cons.1 hs with rfl | hs
          · exact ⟨hcx, hvu, of0_ok⟩
          · exact j1 s hs
        · rw [List.any_cons, j4]
          have h0 : wi of0.1 = 0 := wi_toW 0
          simp [bentB, of0_RV, h0]
        · rw [slp, if_neg c1]
          exact j7
      · rw [if_neg c3] at h; exact absurd h c3
def ReadL (b : List Int) (at_ T : Int) (x : List Ln) (end_ e : Int) : Prop :=
  LnOk x ∧ (e = 0 → 0 ≤ at_ ∧ x.length ≤ 4096 ∧ isum (lc x) = T ∧ at_ < end_ ∧ end_ ≤ b.length ∧ vE x = 0 ∧ hd (lc x) (lv x) ++ slp x = dropL (takeL b end_) at_) ∧ (e ≠ 0 → x = [] ∧ end_ = 0)
theorem ReadL.err (b : List Int) (at_ T : Int) {e : Int} (h : e ≠ 0) : ReadL b at_ T [] 0 e := ⟨(fun s hs => by cases hs), fun h2 => absurd h2 h, fun _ => ⟨rfl, rfl⟩⟩
theorem replN_length (n : Nat) : (replI (n : Int) (zL : Ln)).length = n := by simp [replI]
theorem vE_of {l : List Ln} (h1 : l.length ≤ 4096) (h2 : fitsB 4096 (lc l) = true) (h3 : l.any bentB = false) : vE l = 0 := by
  unfold vE
  rw [if_neg (by omega), if_pos h2, h3]
  rfl
theorem lDecode (F : Nat) (hF : Fuel F) {b : List Int} (hb : Bt b) (hl : (b.length : Int) ≤ 140737488355328) (at_ T : Int) :
    ∃ x end_ e, lines_Decode F b at_ T = some (x, end_, e, ()) ∧ ref18_Decode F b at_ T = some (x, end_, e, ()) ∧ ReadL b at_ T x end_ e := by
  obtain ⟨cs, vs, end_, e, h1, h2, h3, h4, h5, h6⟩ := rHead F hF hb hl at_ T
  have hD : lines_Decode F b at_ T = if e = 0 then (bif makeB (lenI cs) (lenI cs) 96 then lines_Decode_l16 F (fun z24 z25 => some (z25, (z24, (0, ())))) (fun z26 z27 z28 => some (z26, (z27, (z28, ())))) F b end_ cs vs (replI (lenI cs) (zL : Ln)) (lenI (replI (lenI cs) (zL : Ln))) 0 else none) else some ([], (0, (e, ()))) :=
    h6 Ln (fun n c v a => bif makeB n n 96 then lines_Decode_l16 F (fun z24 z25 => some (z25, (z24, (0, ())))) (fun z26 z27 z28 => some (z26, (z27, (z28, ())))) F b a c v (replI n (zL : Ln)) (lenI (replI n (zL : Ln))) 0 else none)
  by_cases c : e = 0
  · subst c
    obtain ⟨g1, g2, g3, g4, g5, g6, g7, g8, g9, g10⟩ := h4 rfl
    have x1 : makeB (lenI cs) (lenI cs) 96 = true := by rw [makeB_true]; unfold lenI; omega
    have hrl : lenI (replI (lenI cs) (zL : Ln)) = (cs.length : Int) := by unfold lenI; rw [replN_length]
    have hpos : ∀ x ∈ cs, 1 ≤ x := fun x hx => (fitsB_le g9 x hx).1
    have hP : lines_Decode F b at_ T = if (rln b end_ cs vs).2.2 = 0 then some ((rln b end_ cs vs).1, (rln b end_ cs vs).2.1, 0, ()) else some ([], 0, (rln b end_ cs vs).2.2, ()) := by
      rw [hD, if_pos rfl, x1, cond_true, hrl]
      exact lDec_loop F hF _ _ hb hl hpos (by omega) g4 cs vs [] [] end_ [] (replI (lenI cs) (zL : Ln)) rfl rfl rfl rfl (by unfold lenI; rw [replN_length]) F (by unfold Fuel at hF; omega)
    have hR : ref18_Decode F b at_ T = if (rln b end_ cs vs).2.2 = 0 then some ((rln b end_ cs vs).1, (rln b end_ cs vs).2.1, 0, ()) else some ([], 0, (rln b end_ cs vs).2.2, ()) := by
      unfold ref18_Decode
      simp only [h1, Option.bind_some, show eqI (0 : Int) 0 = true from rfl, Bool.not_true, cond_false]
      exact rlDec_loop F hF _ _ hb hl (by omega) g4 cs vs [] [] end_ [] rfl rfl rfl rfl F (by unfold Fuel at hF; omega)
    by_cases c2 : (rln b end_ cs vs).2.2 = 0
    · obtain ⟨j1, j2, j3, j4, j5, j6, j7⟩ := rln_ok hb hpos h2 h3 g4 (by omega) g8 c2
      rw [if_pos c2] at hP hR
      have hxl : (rln b end_ cs vs).1.length = cs.length := by rw [← lc_length, j2]
      refine ⟨_, _, _, hP, hR, j1, fun _ => ⟨g1, by omega, by rw [j2]; exact g6, by omega, j6, vE_of (by omega) (by rw [j2]; exact g9) j4, ?_⟩, fun h => absurd rfl h⟩
      rw [j2, j3, ← cut_join g1 (Int.le_of_lt g7) j5 j6, g10, j7]
    · rw [if_neg c2] at hP hR
      exact ⟨_, _, _, hP, hR, ReadL.err _ _ _ c2⟩
  · have y : eqI e 0 = false := by rw [← Bool.not_eq_true, eqI_true]; exact c
    refine ⟨[], 0, e, ?_, ?_, ReadL.err _ _ _ c⟩
    · rw [hD, if_neg c]
    · unfold ref18_Decode
      simp only [h1, Option.bind_some, y, Bool.not_false, cond_true]
end Go.Proofs.YtfmjokmjaghehaaGreat
