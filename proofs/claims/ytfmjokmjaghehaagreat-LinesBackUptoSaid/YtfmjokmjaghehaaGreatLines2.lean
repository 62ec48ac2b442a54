
/- Lines: what Decode says. -/
import Derived.Test.YtfmjokmjaghehaaGreatLines
set_option linter.unusedVariables false
set_option linter.unusedSimpArgs false
namespace Go.Proofs.YtfmjokmjaghehaaGreat
open Go.Eng
def rsp (b : List Int) (at_ : Int) : Rt × Int × Int :=
  if (rdw b at_).2.2 = 0 then
    if (rdw b (rdw b at_).2.1).2.2 = 0 then
      if RV (toW (rdw b at_).1, (toW (rdw b (rdw b at_).2.1).1, ())) then ((toW (rdw b at_).1, (toW (rdw b (rdw b at_).2.1).1, ())), (rdw b (rdw b at_).2.1).2.1, 0) else (zR, 0, 5)
    else (zR, 0, (rdw b (rdw b at_).2.1).2.2)
  else (zR, 0, (rdw b at_).2.2)
theorem rRt_ok (b : List Int) (a c : Int) : ROk (toW (rdw b a).1, (toW (rdw b c).1, ())) := ⟨toW_ok (rdw_abs b a), toW_ok (rdw_abs b c)⟩
theorem records_Slope_eq (F : Nat) (hF : Fuel F) {b : List Int} (hb : Bt b) (hl : (b.length : Int) ≤ 140737488355328) (at_ : Int) : records_Slope F b at_ = some ((rsp b at_).1, (rsp b at_).2.1, (rsp b at_).2.2, ()) := by
  have hF' := hF
  unfold Fuel at hF'
  obtain ⟨N, hN⟩ : ∃ N, F = N + 1 + 1 + 1 := ⟨F - 3, by omega⟩
  have st1 : ∀ {R : Type} (k0 : Int → Rt → List W → Option R) (kr : Rt → Int → Int → Option R) (M : Nat) (q : Rt) (x y : W) (a : Int), records_Slope_l3 F k0 kr (M + 1) b a q [x, y] 0 =
      if (rdw b a).2.2 = 0 then records_Slope_l3 F k0 kr M b (rdw b a).2.1 q [toW (rdw b a).1, y] 1 else kr zR 0 (rdw b a).2.2 := by
    intro R k0 kr M q x y a
    rw [records_Slope_l3, varint_ReadWide_eq F hF hb hl]
    by_cases c1 : (rdw b a).2.2 = 0
    · rw [if_pos c1]; simp (disch := omega) only [bs, ↓if_pos, ↓if_neg]
      rfl
    · rw [if_neg c1]; simp (disch := omega) only [bs, ↓if_pos, ↓if_neg]
  have st2 : ∀ {R : Type} (k0 : Int → Rt → List W → Option R) (kr : Rt → Int → Int → Option R) (M : Nat) (q : Rt) (x y : W) (a : Int), records_Slope_l3 F k0 kr (M + 1) b a q [x, y] 1 =
      if (rdw b a).2.2 = 0 then records_Slope_l3 F k0 kr M b (rdw b a).2.1 q [x, toW (rdw b a).1] 2 else kr zR 0 (rdw b a).2.2 := by
    intro R k0 kr M q x y a
    rw [records_Slope_l3, varint_ReadWide_eq F hF hb hl]
    by_cases c1 : (rdw b a).2.2 = 0
    · rw [if_pos c1]; simp (disch := omega) only [bs, ↓if_pos, ↓if_neg]
      rfl
    · rw [if_neg c1]; simp (disch := omega) only [bs, ↓if_pos, ↓if_neg]
  have st3 : ∀ {R : Type} (k0 : Int → Rt → List W → Option R) (kr : Rt → Int → Int → Option R) (M : Nat) (q : Rt) (z : List W) (a : Int), records_Slope_l3 F k0 kr (M + 1) b a q z 2 = k0 a q z := by
    intro R k0 kr M q z a
    rw [records_Slope_l3]
    simp (disch := omega) only [bs, ↓if_pos, ↓if_neg]
  unfold records_Slope
  have key : ∀ M, M = N + 1 + 1 + 1 → records_Slope_l3 F
    (fun z6 z7 z8 =>
      let x33v9 := getL (false, ([0, 0, 0, 0], ())) z8 0
      let x35v10 := getL (false, ([0, 0, 0, 0], ())) z8 1
      (wide_Sign F x35v10).bind fun r11 =>
      bif leI r11.1 0 then
        some (((false, ([0, 0, 0, 0], ())), ((false, ([0, 0, 0, 0], ())), ())), ((0 : Int), ((5 : Int), ())))
      else
        (ratio_Valid F (x33v9, (x35v10, ()))).bind fun r13 =>
        bif not r13.1 then
          some (((false, ([0, 0, 0, 0], ())), ((false, ([0, 0, 0, 0], ())), ())), (0, (5, ())))
        else
          some ((x33v9, (x35v10, ())), (z6, (0, ()))))
    (fun z15 z16 z17 =>
      some (z15, (z16, (z17, ()))))
    M b at_ ((false, ([0, 0, 0, 0], ())), ((false, ([0, 0, 0, 0], ())), ())) [(false, ([0, 0, 0, 0], ())), (false, ([0, 0, 0, 0], ()))] 0 = some ((rsp b at_).1, (rsp b at_).2.1, (rsp b at_).2.2, ()) := by
    intro M hM
    subst hM
    unfold rsp
    rw [st1]
    by_cases c1 : (rdw b at_).2.2 = 0
    · rw [if_pos c1, if_pos c1, st2]
      by_cases c2 : (rdw b (rdw b at_).2.1).2.2 = 0
      · rw [if_pos c2, if_pos c2, st3]
        show ((wide_Sign F (toW (rdw b (rdw b at_).2.1).1)).bind fun r11 =>
          bif leI r11.1 0 then some (zR, ((0 : Int), ((5 : Int), ())))
          else (ratio_Valid F (toW (rdw b at_).1, (toW (rdw b (rdw b at_).2.1).1, ()))).bind fun r13 =>
            bif not r13.1 then some (zR, (0, (5, ()))) else some ((toW (rdw b at_).1, (toW (rdw b (rdw b at_).2.1).1, ())), ((rdw b (rdw b at_).2.1).2.1, (0, ())))) = _
        have hok := rRt_ok b at_ (rdw b at_).2.1
        rw [wide_Sign_eq F hok.2, ratio_Valid_eq F hF hok]
        simp only [Option.bind_some]
        by_cases c3 : RV (toW (rdw b at_).1, (toW (rdw b (rdw b at_).2.1).1, ()))
        · have hp := c3.2.2.1
          simp only at hp
          rw [if_pos c3, decide_eq_true c3, if_neg (by omega), if_neg (by omega)]
          rfl
        · rw [if_neg c3, decide_eq_false c3]
          cases leI (if wi (toW (rdw b (rdw b at_).2.1).1) = 0 then (0 : Int) else if wi (toW (rdw b (rdw b at_).2.1).1) < 0 then -1 else 1) 0 <;> rfl
      · rw [if_neg c2, if_neg c2]
    · rw [if_neg c1, if_neg c1]
  exact key F hN
theorem RV_toW {q : Rt} (h : ROk q) (hv : RV q) : q = (toW (wi q.1), (toW (wi q.2.1), ())) := by
  obtain ⟨n, d, _⟩ := q
  have e1 := toW_wi h.1 hv.1
  have e2 := toW_wi h.2 hv.2.1
  simp only at e1 e2 ⊢
  rw [e1, e2]
theorem rsp_back {q : Rt} (h : ROk q) (hv : RV q) (b rest : List Int) : rsp (b ++ (sp q ++ rest)) (b.length : Int) = (q, (b.length : Int) + (sp q).length, 0) := by
  have e1 := rdw_enc h.1.abs b (enc (uw (wi q.2.1)) ++ rest)
  have e2 := rdw_enc h.2.abs (b ++ enc (uw (wi q.1))) rest
  have hb : b ++ (sp q ++ rest) = b ++ (enc (uw (wi q.1)) ++ (enc (uw (wi q.2.1)) ++ rest)) := by unfold sp; simp only [List.append_assoc]
  have hb2 : b ++ (sp q ++ rest) = (b ++ enc (uw (wi q.1))) ++ (enc (uw (wi q.2.1)) ++ rest) := by unfold sp; simp only [List.append_assoc]
  rw [← hb] at e1
  rw [← hb2, List.length_append, Int.natCast_add] at e2
  have hq := RV_toW h hv
  unfold rsp
  rw [e1]
  simp only [if_true]
  rw [e2]
  simp only [if_true]
  rw [← hq, if_pos hv]
  have : (sp q).length = (enc (uw (wi q.1))).length + (enc (uw (wi q.2.1))).length := by unfold sp; rw [List.length_append]
  simp only [Prod.mk.injEq, true_and, and_true]
  omega
def rln (b : List Int) : Int → List Int → List Int → List Ln × Int × Int
  | at_, c :: cs, v :: vs =>
    if 1 < c then
      if (rsp b at_).2.2 = 0 then
        if (rln b (rsp b at_).2.1 cs vs).2.2 = 0 then ((c, (v, ((rsp b at_).1, ()))) :: (rln b (rsp b at_).2.1 cs vs).1, (rln b (rsp b at_).2.1 cs vs).2.1, 0)
        else ([], 0, (rln b (rsp b at_).2.1 cs vs).2.2)
      else ([], 0, (rsp b at_).2.2)
    else
      if (rln b at_ cs vs).2.2 = 0 then ((c, (v, (of0, ()))) :: (rln b at_ cs vs).1, (rln b at_ cs vs).2.1, 0)
      else ([], 0, (rln b at_ cs vs).2.2)
  | at_, _, _ => ([], at_, 0)
theorem setN_mid (d : List Ln) (x y : Ln) (t : List Ln) : setL (d ++ x :: t) (d.length : Int) y = (d ++ [y]) ++ t := by
  simp [setL]
theorem setN_mid2 (d : List Ln) (x y : Ln) (t : List Ln) : setL ((d ++ [x]) ++ t) (d.length : Int) y = (d ++ [y]) ++ t := by
  simp [setL]
theorem getN_mid2 (d : List Ln) (x : Ln) (t : List Ln) : getL zL ((d ++ [x]) ++ t) (d.length : Int) = x := by
  simp [getL, List.getD_eq_getElem?_getD]
theorem lDec_loop (F : Nat) (hF : Fuel F) {R : Type} (k : Int → List Ln → Option R) (kr : List Ln → Int → Int → Option R) {b : List Int} (hbt : Bt b) (hbl : (b.length : Int) ≤ 140737488355328) {cs vs : List Int} (h1 : ∀ x ∈ cs, 1 ≤ x) (hb : cs.length ≤ 100000) (hl : cs.length = vs.length) :
    ∀ (rc rv pc pv : List Int) (at_ : Int) (out z : List Ln), cs = pc ++ rc → vs = pv ++ rv → pc.length = pv.length → out.length = pc.length → z.length = rc.length → ∀ N, rc.length < N →
    lines_Decode_l16 F k kr N b at_ cs vs (out ++ z) (cs.length : Int) (pc.length : Int) = if (rln b at_ rc rv).2.2 = 0 then k (rln b at_ rc rv).2.1 (out ++ (rln b at_ rc rv).1) else kr [] 0 (rln b at_ rc rv).2.2 := by
  intro rc
  induction rc with
  | nil =>
    intro rv pc pv at_ out z hc hv hpl ho hz N hN
    obtain ⟨N, rfl⟩ : ∃ M, N = M + 1 := ⟨N - 1, by omega⟩
    have : z = [] := List.length_eq_zero_iff.1 hz
    subst this
    have hlen : cs.length = pc.length := by rw [hc]; simp
    have hr : rln b at_ [] rv = ([], at_, 0) := by unfold rln; rfl
    unfold lines_Decode_l16
    rw [hr]
    simp (disch := omega) only [bs, ↓if_pos, ↓if_neg]
  | cons x rc ih =>
    intro rv pc pv at_ out z hc hv hpl ho hz N hN
    obtain ⟨N, rfl⟩ : ∃ M, N = M + 1 := ⟨N - 1, by omega⟩
    obtain ⟨y, z', rfl⟩ : ∃ y z', z = y :: z' := by
      cases z with
      | nil => simp at hz
      | cons y z' => exact ⟨y, z', rfl⟩
    have hl1 : cs.length = pc.length + 1 + rc.length := by rw [hc]; simp; omega
    have hl2 : vs.length = pv.length + rv.length := by rw [hv]; simp
    obtain ⟨u, rv', rfl⟩ : ∃ u rv', rv = u :: rv' := by
      cases rv with
      | nil => simp at hl2; omega
      | cons u rv' => exact ⟨u, rv', rfl⟩
    simp only [List.length_cons] at hN hz hl2
    have hx1 : 1 ≤ x := h1 x (by rw [hc]; simp)
    have g1 : getL 0 cs (pc.length : Int) = x := by rw [hc]; exact get_mid pc x rc
    have g2 : getL 0 vs (pc.length : Int) = u := by rw [hv, hpl]; exact get_mid pv u rv'
    have st : setL (out ++ y :: z') (pc.length : Int) (x, (u, (of0, ()))) = (out ++ [(x, (u, (of0, ())))]) ++ z' := by rw [← ho]; exact setN_mid out y _ z'
    have st2 : ∀ w : Ln, setL ((out ++ [(x, (u, (of0, ())))]) ++ z') (pc.length : Int) w = (out ++ [w]) ++ z' := fun w => by rw [← ho]; exact setN_mid2 out _ _ z'
    have gt2 : getL zL ((out ++ [(x, (u, (of0, ())))]) ++ z') (pc.length : Int) = (x, (u, (of0, ()))) := by rw [← ho]; exact getN_mid2 out _ z'
    have hol : (out ++ y :: z').length = pc.length + 1 + z'.length := by simp; omega
    have hol2 : ((out ++ [(x, (u, (of0, ())))]) ++ z').length = pc.length + 1 + z'.length := by simp; omega
    have e := fun a (w : Ln) => ih rv' (pc ++ [x]) (pv ++ [u]) a (out ++ [w]) z' (by rw [hc]; simp) (by rw [hv]; simp) (by simp [hpl]) (by simp [ho]) (by omega) N (by omega)
    have hpc : (((pc ++ [x]).length : Nat) : Int) = (pc.length : Int) + 1 := by simp
    simp only [hpc] at e
    have x1 : ltI (pc.length : Int) (cs.length : Int) = true := by rw [ltI_true]; omega
    have x2 : inI (pc.length : Int) cs.length = true := by rw [inI_true]; omega
    have x3 : inI (pc.length : Int) vs.length = true := by rw [inI_true]; omega
    have x4 : inI (pc.length : Int) (out ++ y :: z').length = true := by rw [inI_true]; omega
    have x5 : inI (pc.length : Int) ((out ++ [(x, (u, (of0, ())))]) ++ z').length = true := by rw [inI_true]; omega
    have xa : addI .i64 (pc.length : Int) 1 = (pc.length : Int) + 1 := addI_i64 (by omega)
    unfold lines_Decode_l16
    rw [rln]
    simp only [x1, x2, x3, x4, cond_true, g1, g2, ratio_Of0, Option.bind_some, st, xa, records_Slope_eq F hF hbt hbl, x5, st2, gt2]
    by_cases c1 : 1 < x
    · have y1 : eqI x 1 = false := by rw [← Bool.not_eq_true, eqI_true]; omega
      rw [if_pos c1, y1, cond_false]
      by_cases c2 : (rsp b at_).2.2 = 0
      · have y2 : eqI (rsp b at_).2.2 0 = true := eqI_true.2 c2
        rw [if_pos c2, y2, Bool.not_true, cond_false, e]
        by_cases c3 : (rln b (rsp b at_).2.1 rc rv').2.2 = 0
        · rw [if_pos c3, if_pos c3, if_pos rfl, List.append_assoc]
          rfl
        · rw [if_neg c3, if_neg c3, if_neg c3]
      · have y2 : eqI (rsp b at_).2.2 0 = false := by rw [← Bool.not_eq_true, eqI_true]; exact c2
        rw [if_neg c2, y2, Bool.not_false, cond_true, if_neg c2]
    · have y1 : eqI x 1 = true := by rw [eqI_true]; omega
      rw [if_neg c1, y1, cond_true, e]
      by_cases c3 : (rln b at_ rc rv').2.2 = 0
      · rw [if_pos c3, if_pos c3, if_pos rfl, List.append_assoc]
        rfl
      · rw [if_neg c3, if_neg c3, if_neg c3]
theorem lc_cons (x : Ln) (l : List Ln) : lc (x :: l) = x.1 :: lc l := rfl
theorem lv_cons (x : Ln) (l : List Ln) : lv (x :: l) = x.2.1 :: lv l := rfl
theorem rln_back {rest : List Int} : ∀ {l : List Ln} {b : List Int}, LnOk l → l.any bentB = false → (∀ x ∈ lc l, 1 ≤ x) →
    rln (b ++ (slp l ++ rest)) (b.length : Int) (lc l) (lv l) = (l, (b.length : Int) + (slp l).length, 0)
  | [], b, _, _, _ => by
    show rln _ _ [] [] = _
    unfold rln
    simp [slp]
  | x :: l, b, h, hn, h1 => by
    obtain ⟨xc, xv, xs, _⟩ := x
    have hx := h _ (List.mem_cons_self ..)
    simp only at hx
    rw [List.any_cons, Bool.or_eq_false_iff] at hn
    obtain ⟨n1, n2⟩ := hn
    have hx1 : 1 ≤ xc := h1 xc (by rw [lc_cons]; simp)
    have h1' : ∀ y ∈ lc l, 1 ≤ y := fun y hy => h1 y (by rw [lc_cons]; exact List.mem_cons_of_mem _ hy)
    have h' : LnOk l := fun s hs => h s (List.mem_cons_of_mem _ hs)
    unfold bentB at n1
    simp only [Bool.or_eq_false_iff, Bool.not_eq_false', decide_eq_true_eq, Bool.and_eq_false_iff, decide_eq_false_iff_not] at n1
    obtain ⟨m1, m2⟩ := n1
    rw [lc_cons, lv_cons, rln, slp]
    by_cases c1 : 1 < xc
    · simp only [if_pos c1]
      have e1 := rsp_back hx.2.2 m1 b (slp l ++ rest)
      have e2 := rln_back (rest := rest) (b := b ++ sp xs) h' n2 h1'
      have hb1 : b ++ (sp xs ++ slp l ++ rest) = b ++ (sp xs ++ (slp l ++ rest)) := by simp only [List.append_assoc]
      have hb2 : b ++ (sp xs ++ slp l ++ rest) = (b ++ sp xs) ++ (slp l ++ rest) := by simp only [List.append_assoc]
      rw [← hb1] at e1
      rw [← hb2, List.length_append, Int.natCast_add] at e2
      rw [e1]
      simp only [if_true]
      rw [e2]
      simp only [if_true, List.length_append, Prod.mk.injEq, and_true, true_and]
      omega
    · have hxc : xc = 1 := by omega
      have hw : wi xs.1 = 0 := by
        rcases m2 with m | m
        · exact absurd hxc m
        · exact m
      have hs : xs = of0 := (RV_zero hx.2.2 m1).2 hw
      simp only [if_neg c1]
      have e2 := rln_back (rest := rest) (b := b) h' n2 h1'
      rw [e2, hs]
      simp only [if_true]
theorem replN_length (n : Nat) : (replI (n : Int) (zL : Ln)).length = n := by simp [replI]
theorem vE_of {l : List Ln} (h1 : l.length ≤ 4096) (h2 : fitsB 4096 (lc l) = true) (h3 : l.any bentB = false) : vE l = 0 := by
  unfold vE
  rw [if_neg (by omega), if_pos h2, h3]
  rfl
theorem lDecode_back (F : Nat) (hF : Fuel F) {l : List Ln} (h : LnOk l) (hv : vE l = 0) {b rest : List Int} (hb : Bt b) (hr : Bt rest) (hl : ((b ++ ((hd (lc l) (lv l) ++ slp l) ++ rest)).length : Int) ≤ 140737488355328) :
    lines_Decode F (b ++ ((hd (lc l) (lv l) ++ slp l) ++ rest)) (b.length : Int) (isum (lc l)) = some (l, (b.length : Int) + (hd (lc l) (lv l) ++ slp l).length, 0, ()) := by
  obtain ⟨v1, v2, v3⟩ := vE_zero hv
  have hcv : (lc l).length = (lv l).length := by rw [lc_length, lv_length]
  obtain ⟨s3, s4⟩ := slp_small h
  have s2 := (hd_small v2 (by rw [lc_length]; omega) (lv_Sg h) (by rw [lv_length]; omega)).2
  have hasc : b ++ ((hd (lc l) (lv l) ++ slp l) ++ rest) = b ++ (hd (lc l) (lv l) ++ (slp l ++ rest)) := by simp only [List.append_assoc]
  have hasc2 : b ++ ((hd (lc l) (lv l) ++ slp l) ++ rest) = (b ++ hd (lc l) (lv l)) ++ (slp l ++ rest) := by simp only [List.append_assoc]
  have hall : Bt (b ++ ((hd (lc l) (lv l) ++ slp l) ++ rest)) := hb.append ((s2.append s4).append hr)
  obtain ⟨p1, a, a2, p2, p3, p4⟩ := head_back F hF v2 (by rw [lc_length]; exact v1) (lv_Sg h) hcv hb (s4.append hr) (by rw [← hasc]; exact hl)
  rw [← hasc] at p1 p2 p3 p4
  have y1 : eqI (isum (lc l)) (isum (lc l)) = true := by rw [eqI_true]
  have hcl := lc_length l
  have x1 : makeB ((lc l).length : Int) ((lc l).length : Int) 96 = true := by rw [makeB_true]; omega
  have hrl : lenI (replI ((lc l).length : Int) (zL : Ln)) = ((lc l).length : Int) := by unfold lenI; rw [replN_length]
  have hpos : ∀ x ∈ lc l, 1 ≤ x := fun x hx => (fitsB_le v2 x hx).1
  unfold lines_Decode
  simp only [p1, p2, p3, p4, Option.bind_some, Bool.not_true, cond_false, show eqI (0 : Int) 0 = true from rfl, y1, x1, cond_true, hrl]
  have L := lDec_loop F hF (fun z24 z25 => some (z25, (z24, ((0 : Int), ())))) (fun z26 z27 z28 => some (z26, (z27, (z28, ())))) hall hl hpos (by omega) hcv (lc l) (lv l) [] [] ((b.length : Int) + (hd (lc l) (lv l)).length) [] (replI ((lc l).length : Int) (zL : Ln)) rfl rfl rfl rfl (by rw [replN_length]) F (by unfold Fuel at hF; omega)
  have B := rln_back (rest := rest) (b := b ++ hd (lc l) (lv l)) h v3 hpos
  rw [← hasc2, List.length_append, Int.natCast_add] at B
  rw [B] at L
  refine L.trans ?_
  simp only [if_true, List.nil_append, List.length_append, Option.some.injEq, Prod.mk.injEq, and_true, true_and]
  omega
end Go.Proofs.YtfmjokmjaghehaaGreat
