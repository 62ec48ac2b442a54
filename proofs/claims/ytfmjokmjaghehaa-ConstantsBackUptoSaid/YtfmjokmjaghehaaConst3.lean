
/- Layer 17: constants, the laws. -/
import Derived.Test.YtfmjokmjaghehaaConst2
import Derived.Test.YtfmjokmjaghehaaRng
set_option linter.unusedVariables false
set_option linter.unusedSimpArgs false
namespace Go.Proofs.Ytfmjokmjaghehaa
open Go.Eng

theorem cDecode (F : Nat) (hF : Fuel F) {b : List Int} (hb : Bt b) (hl : (b.length : Int) ≤ 140737488355328) (at_ T : Int) :
    ∃ x end_ e, constants_Decode F b at_ T = some (x, end_, e, ()) ∧ ref17_Decode F b at_ T = some (x, end_, e, ()) ∧ ReadC b at_ T x end_ e := by
  obtain ⟨cs, vs, end_, e, h1, h2, h3, h4, h5, h6⟩ := rHead F hF hb hl at_ T
  have hD : constants_Decode F b at_ T = if e = 0 then (bif makeB (lenI cs) (lenI cs) 16 then constants_Decode_l16 F (fun z17 z18 => some (z18, (z17, (0, ())))) F end_ cs vs (replI (lenI cs) ((0, (0, ())) : Smp)) (lenI (replI (lenI cs) ((0, (0, ())) : Smp))) 0 else none) else some ([], (0, (e, ()))) :=
    h6 Smp (fun n c v a => bif makeB n n 16 then constants_Decode_l16 F (fun z17 z18 => some (z18, (z17, (0, ())))) F a c v (replI n ((0, (0, ())) : Smp)) (lenI (replI n ((0, (0, ())) : Smp))) 0 else none)
  by_cases c : e = 0
  · subst c
    obtain ⟨g1, g2, g3, g4, g5, g6, g7, g8, g9, g10⟩ := h4 rfl
    have x1 : makeB (lenI cs) (lenI cs) 16 = true := by rw [makeB_true]; unfold lenI; omega
    have hrl : lenI (replI (lenI cs) ((0, (0, ())) : Smp)) = (cs.length : Int) := by unfold lenI; rw [replS_length]
    refine ⟨zp cs vs, end_, 0, ?_, ?_, zp_ok h2 h3, fun _ => ⟨g1, by rw [zp_length g4]; exact g5, by rw [cn_zp g4]; exact g6, g7, g8, by rw [cn_zp g4]; exact g9, by rw [cn_zp g4, vl_zp g4]; exact g10⟩, fun h => absurd rfl h⟩
    · rw [hD, if_pos rfl, x1, cond_true, hrl]
      exact cDec_loop F _ end_ (by omega) g4 cs vs [] [] [] (replI (lenI cs) ((0, (0, ())) : Smp)) rfl rfl rfl rfl (by unfold lenI; rw [replS_length]) F (by unfold Fuel at hF; omega)
    · unfold ref17_Decode
      simp only [h1, Option.bind_some, show eqI (0 : Int) 0 = true from rfl, Bool.not_true, cond_false]
      exact rcDec_loop F _ end_ (by omega) g4 cs vs [] [] [] rfl rfl rfl rfl F (by unfold Fuel at hF; omega)
  · have y : eqI e 0 = false := by rw [← Bool.not_eq_true, eqI_true]; exact c
    refine ⟨[], 0, e, ?_, ?_, ReadC.err _ _ _ c⟩
    · rw [hD, if_neg c]
    · unfold ref17_Decode
      simp only [h1, Option.bind_some, y, Bool.not_false, cond_true]

/-- the program's head, read back: what the codecs have in common -/
theorem head_back (F : Nat) (hF : Fuel F) {c v : List Int} (hf : fitsB 4096 c = true) (hn : c.length ≤ 4096) (hv : Sg v) (hcv : c.length = v.length) {b rest : List Int} (hb : Bt b) (hr : Bt rest) (hl : ((b ++ (hd c v ++ rest)).length : Int) ≤ 140737488355328) :
    records_Placed F (b ++ (hd c v ++ rest)) (b.length : Int) (isum c) = some (true, ()) ∧
    (∃ a a2, records_Number F (b ++ (hd c v ++ rest)) (b.length : Int) (isum c) = some ((c.length : Int), a, 0, ()) ∧
      records_Counts F (b ++ (hd c v ++ rest)) a (c.length : Int) (isum c) = some (c, isum c, a2, 0, ()) ∧
      residual_Decode F (b ++ (hd c v ++ rest)) a2 (c.length : Int) = some (v, (b.length : Int) + (hd c v).length, 0, ())) := by
  obtain ⟨s1, s2⟩ := fitsB_sum hf (by omega)
  have hw := lss_Wd hf (by omega)
  have hsN := nE_small hw (by rw [lss_length]; omega)
  obtain ⟨q1, q2, q3⟩ := rE_small hv (by omega)
  have hlen : (b ++ (hd c v ++ rest)).length = b.length + ((hd c v).length + rest.length) := by simp
  have hhd : (hd c v).length = (enc c.length).length + (nE (lss c)).length + (rE v).length := by unfold hd; simp only [List.length_append]
  have h10 := enc_le10 (v := c.length) (by omega)
  refine ⟨?_, (b.length : Int) + (enc c.length).length, (b.length : Int) + (enc c.length).length + (nE (lss c)).length, ?_, ?_, ?_⟩
  · rw [Placed_eq, decide_eq_true (by omega)]
  · have e1 : b ++ (hd c v ++ rest) = b ++ (enc c.length ++ (nE (lss c) ++ rE v ++ rest)) := by unfold hd; simp only [List.append_assoc]
    have hr1 := rd_enc (v := c.length) (by omega) b (nE (lss c) ++ rE v ++ rest)
    have v1 := varint_Read_eq F hF (b := b ++ (hd c v ++ rest)) (hb.append (Bt.append (hd_small hf hn hv (by omega)).2 hr)) hl (b.length : Int)
    rw [e1] at v1 ⊢
    rw [hr1] at v1
    have hwT : IntKind.u64.wrap (isum c) = isum c := wrap_u64 (by omega)
    have y1 : ltI (isum c) (c.length : Int) = false := by rw [← Bool.not_eq_true, ltI_true]; omega
    have hwn : IntKind.i64.wrap (c.length : Int) = (c.length : Int) := wrap_i64 (by omega)
    unfold records_Number
    simp only [v1, Option.bind_some, show eqI (0 : Int) 0 = true from rfl, Bool.not_true, cond_false, hwT, y1, hwn]
  · have e2 : b ++ (hd c v ++ rest) = (b ++ enc c.length) ++ (nE (lss c) ++ (rE v ++ rest)) := by unfold hd; simp only [List.append_assoc]
    have hB := nDecode_back F hF hw (by rw [lss_length]; omega) (b := b ++ enc c.length) (rest := rE v ++ rest) (hb.append (enc_bt _)) (q3.append hr) (by rw [← e2]; exact hl)
    rw [← e2, lss_length, show (((b ++ enc c.length).length : Nat) : Int) = (b.length : Int) + (enc c.length).length by simp] at hB
    have hmk : makeB (c.length : Int) (c.length : Int) 8 = true := by rw [makeB_true]; omega
    have hrun := runB_lss hf
    have hm := mrm_run (T := isum c) hw hrun (by omega)
    have hst := (sat_run (T := isum c) (by omega) (lss c) 0 hw (by omega) (by omega)).2 (by rw [Int.sub_zero]; exact hrun)
    unfold records_Counts
    simp only [hB, Option.bind_some, show eqI (0 : Int) 0 = true from rfl, Bool.not_true, cond_false, hmk, cond_true]
    have L := Counts_loop F (fun z17 z18 z19 => some (z18, (z19, (z17, ((0 : Int), ()))))) (T := isum c) (by omega) ((b.length : Int) + (enc c.length).length + (nE (lss c)).length) hw (by rw [lss_length]; omega) (lss c) [] [] (replI (c.length : Int) 0) 0 rfl rfl (by rw [replI_length, lss_length]) (by omega) F (by unfold Fuel at hF; rw [lss_length]; omega)
    rw [lss_length, hm, hst, mre_lss] at L
    rw [show lenI (lss c) = (c.length : Int) by unfold lenI; rw [lss_length]]
    exact L
  · have e3 : b ++ (hd c v ++ rest) = (b ++ enc c.length ++ nE (lss c)) ++ (rE v ++ rest) := by unfold hd; simp only [List.append_assoc]
    have hB := rDecode_back F hF hv (by omega) (b := b ++ enc c.length ++ nE (lss c)) (rest := rest) ((hb.append (enc_bt _)).append (nE_bt hw)) hr (by rw [← e3]; exact hl)
    rw [← e3, ← hcv, show (((b ++ enc c.length ++ nE (lss c)).length : Nat) : Int) = (b.length : Int) + (enc c.length).length + (nE (lss c)).length by simp only [List.length_append]; omega] at hB
    rw [hB, hhd]
    simp only [Option.some.injEq, Prod.mk.injEq, and_true, true_and]
    omega

theorem cDecode_back (F : Nat) (hF : Fuel F) {l : List Smp} (h : SmpOk l) (hf : fitsB 4096 (cn l) = true) (hn : l.length ≤ 4096) {b rest : List Int} (hb : Bt b) (hr : Bt rest) (hl : ((b ++ (hd (cn l) (vl l) ++ rest)).length : Int) ≤ 140737488355328) :
    constants_Decode F (b ++ (hd (cn l) (vl l) ++ rest)) (b.length : Int) (isum (cn l)) = some (l, (b.length : Int) + (hd (cn l) (vl l)).length, 0, ()) := by
  have hcv : (cn l).length = (vl l).length := by rw [cn_length, vl_length]
  obtain ⟨p1, a, a2, p2, p3, p4⟩ := head_back F hF hf (by rw [cn_length]; exact hn) (vl_Sg h) hcv hb hr hl
  have y1 : eqI (isum (cn l)) (isum (cn l)) = true := by rw [eqI_true]
  have hcl := cn_length l
  have x1 : makeB ((cn l).length : Int) ((cn l).length : Int) 16 = true := by rw [makeB_true]; omega
  have hrl : lenI (replI ((cn l).length : Int) ((0, (0, ())) : Smp)) = ((cn l).length : Int) := by unfold lenI; rw [replS_length]
  unfold constants_Decode
  simp only [p1, p2, p3, p4, Option.bind_some, Bool.not_true, cond_false, show eqI (0 : Int) 0 = true from rfl, y1, x1, cond_true, hrl]
  have L := cDec_loop F (fun z17 z18 => some (z18, (z17, ((0 : Int), ())))) ((b.length : Int) + (hd (cn l) (vl l)).length) (by omega) hcv (cn l) (vl l) [] [] [] (replI ((cn l).length : Int) ((0, (0, ())) : Smp)) rfl rfl rfl rfl (by rw [replS_length]) F (by unfold Fuel at hF; omega)
  rw [zp_self] at L
  exact L

theorem getS_split {l : List Smp} {i : Nat} (h : i < l.length) : l.drop i = getL (0, (0, ())) l (i : Int) :: l.drop (i + 1) := by
  rw [List.drop_eq_getElem_cons h]
  simp [getL, List.getD_eq_getElem?_getD, h]
theorem eqS {a b : Smp} : eqT (.pair (.int .i64) (.pair (.int .i64) .unit)) a b = decide (a = b) := by
  obtain ⟨a1, a2, _⟩ := a
  obtain ⟨b1, b2, _⟩ := b
  by_cases h1 : a1 = b1 <;> by_cases h2 : a2 = b2 <;> simp [eqT, h1, h2]

theorem Same15_loop (F : Nat) {R : Type} (k0 : Option R) (kr : Bool → Option R) {a b : List Smp} (hl : a.length = b.length) (hb : (a.length : Int) ≤ 9223372036854775806) : ∀ (m i : Nat), i + m = a.length → ∀ N, m < N →
    ref15_Same_l4 F k0 kr N a b i = if a.drop i = b.drop i then k0 else kr false := by
  intro m
  induction m with
  | zero =>
    intro i hi N hN
    obtain ⟨N, rfl⟩ : ∃ M, N = M + 1 := ⟨N - 1, by omega⟩
    rw [if_pos (by rw [List.drop_eq_nil_of_le (by omega), List.drop_eq_nil_of_le (by omega)])]
    unfold ref15_Same_l4
    simp (disch := omega) only [cond_true, cond_false, iteB, notf_true_iff, not_true_iff, ltI_true, leI_true, eqI_true, inI_true, cutB_true, roomB_true, makeB_true, lenI, ↓if_pos, ↓if_neg, addI_i64, subI_i64, mulI_i64, quoI_i64, remI_nn, minI_eq, maxI_eq, length_setL, length_replI, length_takeL, length_dropL, Option.bind_some, Bool.false_eq_true, if_false, if_true, not_false_eq_true, not_true_eq_false]
  | succ m ih =>
    intro i hi N hN
    obtain ⟨N, rfl⟩ : ∃ M, N = M + 1 := ⟨N - 1, by omega⟩
    have h1 := ih (i + 1) (by omega) N (by omega)
    simp only [Int.natCast_add, Int.natCast_one] at h1
    have ea := getS_split (l := a) (i := i) (by omega)
    have eb := getS_split (l := b) (i := i) (by omega)
    have x1 : ltI (i : Int) (lenI a) = true := by rw [ltI_true]; unfold lenI; omega
    have x2 : inI (i : Int) a.length = true := by rw [inI_true]; omega
    have x3 : inI (i : Int) b.length = true := by rw [inI_true]; omega
    have xa : addI .i64 (i : Int) 1 = (i : Int) + 1 := addI_i64 (by omega)
    unfold ref15_Same_l4
    simp only [x1, x2, x3, cond_true, eqS, xa]
    by_cases hc : getL (0, (0, ())) a (i : Int) = getL (0, (0, ())) b (i : Int)
    · rw [decide_eq_true hc, Bool.not_true, cond_false]
      refine Eq.trans h1 ?_
      rw [ea, eb, hc]
      simp
    · rw [decide_eq_false hc, Bool.not_false, cond_true, ea, eb, if_neg]
      intro h
      exact hc (List.cons.inj h).1

theorem ref15_Same_eq (F : Nat) (hF : Fuel F) {a b : List Smp} (hb : (a.length : Int) ≤ 140737488355328) : ref15_Same F a b = some (decide (a = b), ()) := by
  unfold Fuel at hF
  unfold ref15_Same
  by_cases hl : a.length = b.length
  · have x : eqI (lenI a) (lenI b) = true := by rw [eqI_true]; unfold lenI; omega
    rw [x, Bool.not_true, cond_false]
    refine Eq.trans (Same15_loop F _ _ hl (by omega) a.length 0 (by omega) F (by omega)) ?_
    simp only [List.drop_zero]
    by_cases h : a = b
    · simp [h]
    · simp [h]
  · have x : eqI (lenI a) (lenI b) = false := by rw [← Bool.not_eq_true, eqI_true]; unfold lenI; omega
    rw [x, Bool.not_false, cond_true]
    have : a ≠ b := fun h => hl (by rw [h])
    simp [this]

theorem list17_loop (F : Nat) {vs : List Int} (hv : Sg vs) (hl : vs.length ≤ 100) : ∀ (m i : Nat) (t : List Int × Int × Unit) (l : List Smp) (T : Int), i + m = vs.length → TapeOk t → SmpOk l → l.length = i → isum (cn l) = T → T ≤ 20 * i → (∀ x ∈ cn l, 1 ≤ x) →
    ∀ N, m < N → ∃ t' l', TapeOk t' ∧ SmpOk l' ∧ l'.length = vs.length ∧ isum (cn l') ≤ 20 * vs.length ∧ (∀ x ∈ cn l', 1 ≤ x) ∧ ∀ (R : Type) (k : List Int × Int × Unit → List Smp → Int → Option R), law17_list_l5 F k N t l T vs (i : Int) = k t' l' (isum (cn l')) := by
  intro m
  induction m with
  | zero =>
    intro i t l T hi ht hl' hli hT hT2 hc N hN
    obtain ⟨N, rfl⟩ : ∃ M, N = M + 1 := ⟨N - 1, by omega⟩
    refine ⟨t, l, ht, hl', by omega, by omega, hc, fun R k => ?_⟩
    rw [hT]
    unfold law17_list_l5
    simp (disch := omega) only [cond_true, cond_false, iteB, notf_true_iff, not_true_iff, ltI_true, leI_true, eqI_true, inI_true, cutB_true, roomB_true, makeB_true, lenI, ↓if_pos, ↓if_neg, addI_i64, subI_i64, mulI_i64, quoI_i64, remI_nn, minI_eq, maxI_eq, length_setL, length_replI, length_takeL, length_dropL, Option.bind_some, Bool.false_eq_true, if_false, if_true, not_false_eq_true, not_true_eq_false]
  | succ m ih =>
    intro i t l T hi ht hl' hli hT hT2 hc N hN
    obtain ⟨N, rfl⟩ : ∃ M, N = M + 1 := ⟨N - 1, by omega⟩
    obtain ⟨t1, q, e1, ht1, hq0, hq⟩ := made_Tape_Next_ok F ht (n := 20) (by omega)
    have hx := hv.get (i : Int)
    have hpos : ∀ c : List Int, (∀ x ∈ c, 1 ≤ x) → 0 ≤ isum c := by
      intro c
      induction c with
      | nil => intro _; exact Int.le_refl _
      | cons y c ihc =>
        intro h
        have h1 := h y (by simp)
        have h2 := ihc fun z hz => h z (by simp [hz])
        simp only [isum]; omega
    have hT0 := hpos _ hc
    have hcn : cn (l ++ [(1 + q, (getL 0 vs (i : Int), ()))]) = cn l ++ [1 + q] := by simp [cn]
    have hs : isum (cn (l ++ [(1 + q, (getL 0 vs (i : Int), ()))])) = T + (1 + q) := by rw [hcn, isum_append]; simp only [isum]; omega
    obtain ⟨t', l', g1, g2, g3, g4, g5, g6⟩ := ih (i + 1) t1 (l ++ [(1 + q, (getL 0 vs (i : Int), ()))]) (T + (1 + q)) (by omega) ht1 (hl'.push (by unfold I64; omega) hx) (by simp; omega) hs (by omega) (by
      rw [hcn]
      intro x hx
      rcases List.mem_append.1 hx with h | h
      · exact hc x h
      · simp at h; omega) N (by omega)
    refine ⟨t', l', g1, g2, g3, g4, g5, fun R k => ?_⟩
    have e := g6 R k
    simp only [Int.natCast_add, Int.natCast_one] at e
    have x1 : ltI (i : Int) (lenI vs) = true := by rw [ltI_true]; unfold lenI; omega
    have x2 : inI (i : Int) vs.length = true := by rw [inI_true]; omega
    have x3 : roomB (l.length + 1) 16 = true := by rw [roomB_true]; omega
    have xa : addI .i64 (i : Int) 1 = (i : Int) + 1 := addI_i64 (by omega)
    have xb : addI .i64 1 q = 1 + q := addI_i64 (by omega)
    have xc : addI .i64 T (1 + q) = T + (1 + q) := addI_i64 (by omega)
    unfold law17_list_l5
    simp only [x1, x2, x3, cond_true, e1, Option.bind_some, xa, xb, xc]
    exact e

theorem fitsB_of : ∀ {c : List Int} {left : Int}, (∀ x ∈ c, 1 ≤ x) → isum c ≤ left → fitsB left c = true
  | [], _, _, _ => rfl
  | x :: t, left, h, hs => by
    have h1 := h x (by simp)
    simp only [isum] at hs
    have h2 : ∀ y ∈ t, 1 ≤ y := fun y hy => h y (by simp [hy])
    have h3 : ∀ c : List Int, (∀ x ∈ c, 1 ≤ x) → 0 ≤ isum c := by
      intro c
      induction c with
      | nil => intro _; exact Int.le_refl _
      | cons y c ihc =>
        intro h
        have h1 := h y (by simp)
        have h2 := ihc fun z hz => h z (by simp [hz])
        simp only [isum]; omega
    have h4 := h3 t h2
    exact fitsB_cons.2 ⟨by omega, fitsB_of h2 (by omega)⟩

theorem law17_list_ok (F : Nat) (hF : Fuel F) {t : List Int × Int × Unit} (h : TapeOk t) :
    ∃ t' l, law17_list F t = some (t', l, isum (cn l), ()) ∧ TapeOk t' ∧ SmpOk l ∧ l.length ≤ 12 ∧ fitsB 4096 (cn l) = true := by
  obtain ⟨t1, vs, e1, h1, hs, hl⟩ := made_Tape_Values_ok F hF h (n := 12) (by omega)
  obtain ⟨t2, l, g1, g2, g3, g4, g5, g6⟩ := list17_loop F hs (by omega) vs.length 0 t1 [] 0 (by omega) h1 (fun s hs => by cases hs) rfl rfl (by simp) (fun x hx => by cases hx) F (by unfold Fuel at hF; omega)
  refine ⟨t2, l, ?_, g1, g2, by omega, fitsB_of g5 (by omega)⟩
  unfold law17_list
  simp only [e1, Option.bind_some]
  exact g6 _ _

theorem law17_known_true (F : Nat) (hF : Fuel F) : law17_known F = some (true, ()) := by
  unfold Fuel at hF
  obtain ⟨G, rfl⟩ : ∃ G, F = G + 200 := ⟨F - 200, by omega⟩
  kernel_rfl

theorem cE_small {l : List Smp} (h : SmpOk l) : (cE l).1.length ≤ 1048700 := by
  unfold cE
  split
  · simp
  · split
    · rename_i h1 h2
      exact (hd_small h2 (by rw [cn_length]; omega) (vl_Sg h) (by rw [vl_length]; omega)).1
    · simp

theorem ConstantsForms_step (F : Nat) (hF : Fuel F) {R : Type} (k0 : Option R) (kret : Bool → Option R) {l : List Smp} (hl : SmpOk l) (hb : (l.length : Int) ≤ 8796093022208) {ls : List (List Smp)} {i : Nat} (hi : i < ls.length) (hi2 : i < 3) (hg : getL [] ls (i : Int) = l) (N : Nat) :
    law17_ConstantsForms_l8 F k0 kret (N + 1) ls (i : Int) = law17_ConstantsForms_l8 F k0 kret N ls ((i : Int) + 1) := by
  have h1 := constants_Encode_eq F hF hl
  have h2 := ref17_Encode_eq F hF hl hb
  have hsm := cE_small hl
  have hs := ref06_Same_eq F hF (a := (cE l).1) (b := (cE l).1) (by omega)
  rw [decide_eq_true rfl] at hs
  have x1 : ltI (i : Int) 3 = true := by rw [ltI_true]; omega
  have x2 : inI (i : Int) ls.length = true := by rw [inI_true]; omega
  have xa : addI .i64 (i : Int) 1 = (i : Int) + 1 := addI_i64 (by omega)
  have z : eqI (cE l).2 (cE l).2 = true := by rw [eqI_true]
  conv => lhs; unfold law17_ConstantsForms_l8
  simp only [x1, x2, hg, cond_true, h1, h2, Option.bind_some, z, hs, Bool.not_true, cond_false, xa]

/-- The law ConstantsForms. -/
theorem ConstantsForms_true (F : Nat) (hF : Fuel F) {l : List Smp} {t : List Int} {n : Int} (hl : SmpOk l) (hb : (l.length : Int) ≤ 8796093022208) (ht : ∀ x ∈ t, I64 x) (htl : (t.length : Int) ≤ 140737488355328) (hn : I64 n) : law17_ConstantsForms F l t n = some (true, ()) := by
  obtain ⟨t0, e0, h0⟩ := made_New_ok F htl ht
  obtain ⟨t1, m, e1, h1, hm, hml, hmf⟩ := law17_list_ok F hF h0
  obtain ⟨G, hG⟩ : ∃ G, F = G + 1 + 1 + 1 + 1 := ⟨F - 4, by unfold Fuel at hF; omega⟩
  have finj : ∀ (x : List Smp), SmpOk x → x.length ≤ 1000 → law17_ConstantsForms_j6 F (fun z => some (z, ())) l m x = some (true, ()) := by
    intro x hx hxl
    have fin : ∀ (R : Type) (k0 : Option R) (kret : Bool → Option R), law17_ConstantsForms_l8 F k0 kret F [l, m, x] 0 = k0 := by
      intro R k0 kret
      have s0 := fun N => ConstantsForms_step F hF k0 kret hl hb (ls := [l, m, x]) (i := 0) (by simp) (by omega) rfl N
      have s1 := fun N => ConstantsForms_step F hF k0 kret hm (by omega) (ls := [l, m, x]) (i := 1) (by simp) (by omega) rfl N
      have s2 := fun N => ConstantsForms_step F hF k0 kret hx (by omega) (ls := [l, m, x]) (i := 2) (by simp) (by omega) rfl N
      have s3 : ∀ N, law17_ConstantsForms_l8 F k0 kret (N + 1) [l, m, x] 3 = k0 := by
        intro N
        unfold law17_ConstantsForms_l8
        simp (disch := omega) only [cond_true, cond_false, iteB, notf_true_iff, not_true_iff, ltI_true, leI_true, eqI_true, inI_true, cutB_true, roomB_true, makeB_true, lenI, ↓if_pos, ↓if_neg, addI_i64, subI_i64, mulI_i64, quoI_i64, remI_nn, minI_eq, maxI_eq, length_setL, length_replI, length_takeL, length_dropL, Option.bind_some, Bool.false_eq_true, if_false, if_true, not_false_eq_true, not_true_eq_false]
      have h := ((s0 (G + 1 + 1 + 1)).trans ((s1 (G + 1 + 1)).trans ((s2 (G + 1)).trans (s3 G))))
      rw [← hG] at h
      exact h
    unfold law17_ConstantsForms_j6
    rw [fin]
    simp only [law17_known_true F hF, Option.bind_some]
  have hA : ([] ++ m : List Smp) = m := rfl
  have r1 : roomB (0 + m.length) 16 = true := by rw [roomB_true]; omega
  unfold law17_ConstantsForms
  simp only [e0, e1, Option.bind_some, hA, r1, cond_true]
  by_cases c : 0 < m.length
  · obtain ⟨t2, v, e2, h2, hv0, hv⟩ := made_Tape_Next_ok F h1 (n := lenI m) (by unfold lenI; omega)
    obtain ⟨q, e3, hq0, hq⟩ := made_Mod_any F hn (y := 40) (by omega)
    unfold lenI at hv
    have c1 : ltI 0 (lenI m) = true := by rw [ltI_true]; unfold lenI; omega
    have c2 : inI v m.length = true := by rw [inI_true]; omega
    have c3 : subI .i64 4096 q = 4096 - q := subI_i64 (by omega)
    simp only [c1, cond_true, e2, e3, Option.bind_some, c2, c3]
    refine finj _ (fun s hs => ?_) (by rw [length_setL]; omega)
    rcases List.mem_or_eq_of_mem_set hs with h5 | h5
    · exact hm s h5
    · rw [h5]
      refine ⟨by unfold I64; simp only; omega, ?_⟩
      exact (getD_all (P := fun s : Smp => I64 s.1 ∧ I64 s.2.1) hm (by unfold I64; simp) _).2
  · have c1 : ltI 0 (lenI m) = false := by rw [← Bool.not_eq_true, ltI_true]; unfold lenI; omega
    simp only [c1, cond_false]
    exact finj m hm (by omega)

/-- The law ConstantsBack. -/
theorem ConstantsBack_true (F : Nat) (hF : Fuel F) {b rest t : List Int} (hb : Bt b) (hbl : (b.length : Int) ≤ 1048576) (hr : Bt rest) (hrl : (rest.length : Int) ≤ 1048576) (ht : ∀ x ∈ t, I64 x) (htl : (t.length : Int) ≤ 140737488355328) :
    law17_ConstantsBack F t b rest = some (true, ()) := by
  obtain ⟨t0, e0, h0⟩ := made_New_ok F htl ht
  obtain ⟨t1, l, e1, h1, hl, hll, hlf⟩ := law17_list_ok F hF h0
  have e2 := constants_Encode_eq F hF hl
  have hcE : cE l = (hd (cn l) (vl l), 0) := by unfold cE; rw [if_neg (by omega), if_pos hlf]
  rw [hcE] at e2
  have hs := (hd_small hlf (by rw [cn_length]; omega) (vl_Sg hl) (by rw [vl_length]; omega)).1
  have hlen : (b ++ (hd (cn l) (vl l) ++ rest)).length = b.length + ((hd (cn l) (vl l)).length + rest.length) := by simp
  have e3 := cDecode_back F hF hl hlf (by omega) hb hr (by omega)
  have e4 := ref15_Same_eq F hF (a := l) (b := l) (by omega)
  rw [decide_eq_true rfl] at e4
  have hA : ([] ++ b : List Int) = b := rfl
  unfold law17_ConstantsBack
  simp only [e0, e1, e2, Option.bind_some, hA, List.append_assoc]
  generalize hd (cn l) (vl l) = c at *
  have c1 : roomB (0 + b.length) 1 = true := by rw [roomB_true]; omega
  have c2 : roomB (b.length + c.length) 1 = true := by rw [roomB_true]; omega
  have c3 : roomB ((b ++ c).length + rest.length) 1 = true := by rw [roomB_true]; simp; omega
  have c4 : eqI ((b.length : Int) + c.length) (addI .i64 (b.length : Int) (lenI c)) = true := by
    rw [eqI_true]
    show _ = IntKind.wrap .i64 _
    rw [wrap_i64 (by unfold lenI; omega)]
    rfl
  simp only [c1, c2, c3, cond_true, show lenI b = (b.length : Int) from rfl, e3, Option.bind_some, law17_known_true F hF, show eqI (0 : Int) 0 = true from rfl, c4, e4]

theorem CSum_loop (F : Nat) {R : Type} (k : List (List Int) → List Int → Int → List Smp → Int → Int → Option R) (ls : List (List Int)) (ns : List Int) (i0 : Int) (end_ : Int) {x : List Smp} (hf : fitsB 4096 (cn x) = true) (hx : x.length ≤ 4096) : ∀ (rest pre : List Smp), x = pre ++ rest → ∀ N, rest.length < N →
    law17_ConstantsCanonical_l14 F k N ls ns i0 x end_ (isum (cn pre)) (pre.length : Int) = k ls ns i0 x end_ (isum (cn x)) := by
  intro rest
  induction rest with
  | nil =>
    intro pre he N hN
    obtain ⟨N, rfl⟩ : ∃ M, N = M + 1 := ⟨N - 1, by omega⟩
    rw [List.append_nil] at he
    subst he
    unfold law17_ConstantsCanonical_l14
    simp (disch := omega) only [cond_true, cond_false, iteB, notf_true_iff, not_true_iff, ltI_true, leI_true, eqI_true, inI_true, cutB_true, roomB_true, makeB_true, lenI, ↓if_pos, ↓if_neg, addI_i64, subI_i64, mulI_i64, quoI_i64, remI_nn, minI_eq, maxI_eq, length_setL, length_replI, length_takeL, length_dropL, Option.bind_some, Bool.false_eq_true, if_false, if_true, not_false_eq_true, not_true_eq_false]
  | cons s rest ih =>
    intro pre he N hN
    obtain ⟨N, rfl⟩ : ∃ M, N = M + 1 := ⟨N - 1, by omega⟩
    simp only [List.length_cons] at hN
    have hlen : x.length = pre.length + 1 + rest.length := by rw [he]; simp; omega
    have g : getL (0, (0, ())) x (pre.length : Int) = s := by rw [he]; exact getS_mid pre s rest
    have e := ih (pre ++ [s]) (by rw [he]; simp) N (by omega)
    have hpl : (((pre ++ [s]).length : Nat) : Int) = (pre.length : Int) + 1 := by simp
    have hcp : cn (pre ++ [s]) = cn pre ++ [s.1] := by simp [cn]
    have hsm : isum (cn (pre ++ [s])) = isum (cn pre) + s.1 := by rw [hcp, isum_append]; simp only [isum]; omega
    have hall := fitsB_le hf
    have hps : fitsB 4096 (cn x) = true := hf
    have hbd : 0 ≤ isum (cn pre) ∧ isum (cn pre) ≤ 4096 ∧ 1 ≤ s.1 ∧ s.1 ≤ 4096 := by
      have h1 := (fitsB_sum hf (by omega)).2
      have h2 : cn x = cn pre ++ (s.1 :: cn rest) := by rw [he]; simp [cn]
      have h3 : ∀ c : List Int, (∀ x ∈ c, 1 ≤ x) → 0 ≤ isum c := by
        intro c
        induction c with
        | nil => intro _; exact Int.le_refl _
        | cons y c ihc =>
          intro h
          have h1 := h y (by simp)
          have h2 := ihc fun z hz => h z (by simp [hz])
          simp only [isum]; omega
      have h4 := h3 (cn pre) fun y hy => (hall y (by rw [h2]; simp [hy])).1
      have h5 := h3 (cn rest) fun y hy => (hall y (by rw [h2]; simp [hy])).1
      have h6 := hall s.1 (by rw [h2]; simp)
      rw [h2, isum_append] at h1
      simp only [isum] at h1
      omega
    rw [hpl, hsm] at e
    have x1 : ltI (pre.length : Int) (lenI x) = true := by rw [ltI_true]; unfold lenI; omega
    have x2 : inI (pre.length : Int) x.length = true := by rw [inI_true]; omega
    have xa : addI .i64 (pre.length : Int) 1 = (pre.length : Int) + 1 := addI_i64 (by omega)
    have xb : addI .i64 (isum (cn pre)) s.1 = isum (cn pre) + s.1 := addI_i64 (by omega)
    unfold law17_ConstantsCanonical_l14
    simp only [x1, x2, cond_true, g, xa, xb]
    exact e

theorem ConstantsCanonical_step (F : Nat) (hF : Fuel F) {R : Type} (k0 : Option R) (kret : Bool → Option R) {b : List Int} (hb : Bt b) (hbl : (b.length : Int) ≤ 140737488355328) {ls : List (List Int)} {ns : List Int} {i : Nat} (hi : i < ls.length) (hi2 : i < ns.length) (hil : (ls.length : Int) ≤ 1000) (hg : getL [] ls (i : Int) = b) (N : Nat) :
    law17_ConstantsCanonical_l8 F k0 kret (N + 1) ls ns (i : Int) = law17_ConstantsCanonical_l8 F k0 kret N ls ns ((i : Int) + 1) := by
  obtain ⟨x, end_, e, h1, _, hx, h3, h4⟩ := cDecode F hF hb hbl 0 (getL 0 ns (i : Int))
  have x1 : ltI (i : Int) (lenI ls) = true := by rw [ltI_true]; unfold lenI; omega
  have x2 : inI (i : Int) ls.length = true := by rw [inI_true]; omega
  have x3 : inI (i : Int) ns.length = true := by rw [inI_true]; omega
  have xa : addI .i64 (i : Int) 1 = (i : Int) + 1 := addI_i64 (by omega)
  conv => lhs; unfold law17_ConstantsCanonical_l8
  by_cases c : e = 0
  · obtain ⟨_, g2, g3, g4, g5, g6, g7⟩ := h3 c
    rw [cut_zero] at g7
    have e2 := constants_Encode_eq F hF hx
    have hcE : cE x = (hd (cn x) (vl x), 0) := by unfold cE; rw [if_neg (by omega), if_pos g6]
    rw [hcE] at e2
    have hs := (hd_small g6 (by rw [cn_length]; omega) (vl_Sg hx) (by rw [vl_length]; omega)).1
    have e3 := ref06_Same_eq F hF (a := hd (cn x) (vl x)) (b := takeL b end_) (by omega)
    rw [decide_eq_true g7] at e3
    have x4 : eqI e 0 = true := by rw [eqI_true]; exact c
    have x5 : ltI (lenI b) end_ = false := by rw [← Bool.not_eq_true, ltI_true]; unfold lenI; omega
    have x6 : cutB 0 end_ b.length = true := by rw [cutB_true]; omega
    have x7 : eqI (getL 0 ns (i : Int)) (getL 0 ns (i : Int)) = true := by rw [eqI_true]
    simp only [x1, x2, x3, cond_true, hg, h1, Option.bind_some, x4, Bool.not_true, cond_false]
    refine (CSum_loop F _ ls ns (i : Int) end_ g6 g2 x [] rfl F (by unfold Fuel at hF; omega)).trans ?_
    rw [g3, e2]
    generalize hd (cn x) (vl x) = d at *
    have z0 : eqI (0 : Int) 0 = true := rfl
    simp only [Option.bind_some, z0, Bool.not_true, cond_false, x3, cond_true, x7, x2]
    rw [hg]
    simp only [x5, x6, cond_true, cond_false, e3, Option.bind_some, Bool.not_true, xa]
  · have x4 : eqI e 0 = false := by rw [← Bool.not_eq_true, eqI_true]; exact c
    simp only [x1, x2, x3, cond_true, hg, h1, Option.bind_some, x4, Bool.not_false, xa]

/-- The law ConstantsCanonical. -/
theorem ConstantsCanonical_true (F : Nat) (hF : Fuel F) {b t : List Int} {n : Int} (hb : Bt b) (hbl : (b.length : Int) ≤ 140737488351232) (hn : I64 n) (ht : ∀ x ∈ t, I64 x) (htl : (t.length : Int) ≤ 140737488355328) :
    law17_ConstantsCanonical F b n t = some (true, ()) := by
  obtain ⟨t0, e0, h0⟩ := made_New_ok F htl ht
  obtain ⟨t1, l, e1, h1, hl, hll, hlf⟩ := law17_list_ok F hF h0
  have e2 := constants_Encode_eq F hF hl
  have hcE : cE l = (hd (cn l) (vl l), 0) := by unfold cE; rw [if_neg (by omega), if_pos hlf]
  rw [hcE] at e2
  obtain ⟨s1, s3⟩ := hd_small hlf (by rw [cn_length]; omega) (vl_Sg hl) (by rw [vl_length]; omega)
  obtain ⟨m, e3, hm0, hm⟩ := made_Mod_any F hn (y := 30) (by omega)
  obtain ⟨t2, q, e4, h2, hq0, hq⟩ := made_Tape_Next_ok F h1 (n := 4) (by omega)
  generalize hd (cn l) (vl l) = d at *
  obtain ⟨t3, c, e5, h3, hc, hcl⟩ := made_Tape_Spoiled_ok F h2 s3 (by omega)
  have hw := rng_wrap_u8 q
  have b1 : Bt ([IntKind.u8.wrap q, 0] ++ b) := Bt.append (fun x hx => by simp at hx; omega) hb
  have l1 : ([IntKind.u8.wrap q, 0] ++ b : List Int).length = b.length + 2 := by simp
  obtain ⟨x1, hx1⟩ : ∃ x, x = ([IntKind.u8.wrap q, 0] ++ b : List Int) := ⟨_, rfl⟩
  rw [← hx1] at b1 l1
  obtain ⟨G, hG⟩ : ∃ G, F = G + 1 + 1 + 1 + 1 + 1 := ⟨F - 5, by unfold Fuel at hF; omega⟩
  have fin : ∀ (R : Type) (k0 : Option R) (kret : Bool → Option R) (ns : List Int), ns.length = 4 → law17_ConstantsCanonical_l8 F k0 kret F [b, x1, c, d] ns 0 = k0 := by
    intro R k0 kret ns hns
    have s0 := fun N => ConstantsCanonical_step F hF k0 kret hb (by omega) (ls := [b, x1, c, d]) (ns := ns) (i := 0) (by simp) (by omega) (by simp) rfl N
    have s1 := fun N => ConstantsCanonical_step F hF k0 kret b1 (by omega) (ls := [b, x1, c, d]) (ns := ns) (i := 1) (by simp) (by omega) (by simp) rfl N
    have s2 := fun N => ConstantsCanonical_step F hF k0 kret hc (by omega) (ls := [b, x1, c, d]) (ns := ns) (i := 2) (by simp) (by omega) (by simp) rfl N
    have s3 := fun N => ConstantsCanonical_step F hF k0 kret s3 (by omega) (ls := [b, x1, c, d]) (ns := ns) (i := 3) (by simp) (by omega) (by simp) rfl N
    have s4 : ∀ N, law17_ConstantsCanonical_l8 F k0 kret (N + 1) [b, x1, c, d] ns 4 = k0 := by
      intro N
      unfold law17_ConstantsCanonical_l8
      have hx : ltI (4 : Int) (lenI [b, x1, c, d]) = false := rfl
      rw [hx, cond_false]
    have h := ((s0 (G + 1 + 1 + 1 + 1)).trans ((s1 (G + 1 + 1 + 1)).trans ((s2 (G + 1 + 1)).trans ((s3 (G + 1)).trans (s4 G)))))
    rw [← hG] at h
    exact h
  have r1 : roomB (2 + b.length) 1 = true := by rw [roomB_true]; omega
  unfold law17_ConstantsCanonical
  simp only [e0, e1, e2, e3, e4, e5, Option.bind_some, r1, cond_true, law17_known_true F hF, ← hx1]
  exact fin _ _ _ _ rfl

end Go.Proofs.Ytfmjokmjaghehaa
