
/- Layer 11: residuals, the laws. -/
import Derived.Test.YtfmjokmjaghehaaResid2
set_option linter.unusedVariables false
set_option linter.unusedSimpArgs false
namespace Go.Proofs.Ytfmjokmjaghehaa
open Go.Eng

abbrev Smp := Int × Int × Unit
def SmpOk (l : List Smp) : Prop := ∀ s ∈ l, I64 s.1 ∧ I64 s.2.1
theorem SmpOk.push {l : List Smp} (h : SmpOk l) {a b : Int} (ha : I64 a) (hb : I64 b) : SmpOk (l ++ [(a, (b, ()))]) := by
  intro s hs
  rcases List.mem_append.1 hs with h1 | h1
  · exact h s h1
  · simp at h1; subst h1; exact ⟨ha, hb⟩

theorem Samples_loop (F : Nat) (hF : Fuel F) (kd slope : Int) {times : List Int} (hT : Sg times) (hTl : times.length ≤ 1000) : ∀ (m i : Nat) (t : List Int × Int × Unit) (l : List Smp) (v : Int), i + m = times.length → TapeOk t → SmpOk l → I64 v → l.length = i →
    ∀ N, m < N → ∃ t' l', TapeOk t' ∧ SmpOk l' ∧ l'.length = times.length ∧ ∀ (R : Type) (k : List Int × Int × Unit → List Smp → Option R), made_Tape_Samples_l6 F k N t times l kd v slope (i : Int) = k t' l' := by
  intro m
  induction m with
  | zero =>
    intro i t l v hi ht hl hv hli N hN
    obtain ⟨N, rfl⟩ : ∃ M, N = M + 1 := ⟨N - 1, by omega⟩
    refine ⟨t, l, ht, hl, by omega, fun R k => ?_⟩
    unfold made_Tape_Samples_l6
    simp (disch := omega) only [cond_true, cond_false, iteB, notf_true_iff, not_true_iff, ltI_true, leI_true, eqI_true, inI_true, cutB_true, roomB_true, makeB_true, lenI, ↓if_pos, ↓if_neg, addI_i64, subI_i64, mulI_i64, quoI_i64, remI_nn, minI_eq, maxI_eq, length_setL, length_replI, length_takeL, length_dropL, Option.bind_some, Bool.false_eq_true, if_false, if_true, not_false_eq_true, not_true_eq_false]
  | succ m ih =>
    intro i t l v hi ht hl hv hli N hN
    obtain ⟨N, rfl⟩ : ∃ M, N = M + 1 := ⟨N - 1, by omega⟩
    have fin : ∀ (t1 : List Int × Int × Unit) (x v1 : Int), TapeOk t1 → I64 x → I64 v1 → (∀ (R : Type) (k : List Int × Int × Unit → List Smp → Option R), made_Tape_Samples_l6 F k (N + 1) t times l kd v slope (i : Int) =
        made_Tape_Samples_l6 F k N t1 times (l ++ [(getL 0 times (i : Int), (x, ()))]) kd v1 slope (addI .i64 (i : Int) 1)) →
        ∃ t' l', TapeOk t' ∧ SmpOk l' ∧ l'.length = times.length ∧ ∀ (R : Type) (k : List Int × Int × Unit → List Smp → Option R), made_Tape_Samples_l6 F k (N + 1) t times l kd v slope (i : Int) = k t' l' := by
      intro t1 x v1 ht1 hx hv1 e
      obtain ⟨t', l', g1, g2, g3, g4⟩ := ih (i + 1) t1 (l ++ [(getL 0 times (i : Int), (x, ()))]) v1 (by omega) ht1 (hl.push (hT.get _) hx) hv1 (by simp; omega) N (by omega)
      refine ⟨t', l', g1, g2, g3, fun R k => ?_⟩
      rw [e R k, addI_i64 (by omega)]
      have := g4 R k
      simp only [Int.natCast_add, Int.natCast_one] at this
      exact this
    have h0 : ltI (i : Int) (lenI times) = true := by rw [ltI_true]; unfold lenI; omega
    have h1 : inI (i : Int) times.length = true := by rw [inI_true]; omega
    have hr : roomB (l.length + 1) 16 = true := by rw [roomB_true]; omega
    by_cases k1 : kd = 1
    · refine fin t (addI .i64 v (mulI .i64 (i : Int) slope)) v ht (rng_wrap_i64 _) hv fun R k => ?_
      conv => lhs; unfold made_Tape_Samples_l6
      have q : eqI kd 1 = true := by rw [eqI_true]; exact k1
      simp only [h0, h1, hr, q, cond_true]
    · have q1 : eqI kd 1 = false := by rw [← Bool.not_eq_true, eqI_true]; exact k1
      by_cases k2 : kd = 2
      · obtain ⟨t1, w, e1, ht1, _, _⟩ := made_Tape_Next_ok F ht (n := 7) (by omega)
        refine fin t1 (addI .i64 (addI .i64 v (mulI .i64 (i : Int) slope)) (subI .i64 w 3)) v ht1 (rng_wrap_i64 _) hv fun R k => ?_
        conv => lhs; unfold made_Tape_Samples_l6
        have q : eqI kd 2 = true := by rw [eqI_true]; exact k2
        simp only [h0, h1, hr, q1, q, cond_true, cond_false, e1, Option.bind_some]
      · have q2 : eqI kd 2 = false := by rw [← Bool.not_eq_true, eqI_true]; exact k2
        by_cases k3 : kd = 3
        · obtain ⟨t1, w, e1, ht1, _, _⟩ := made_Tape_Next_ok F ht (n := 9) (by omega)
          refine fin t1 (addI .i64 v (subI .i64 w 4)) v ht1 (rng_wrap_i64 _) hv fun R k => ?_
          conv => lhs; unfold made_Tape_Samples_l6
          have q : eqI kd 3 = true := by rw [eqI_true]; exact k3
          simp only [h0, h1, hr, q1, q2, q, cond_true, cond_false, e1, Option.bind_some]
        · have q3 : eqI kd 3 = false := by rw [← Bool.not_eq_true, eqI_true]; exact k3
          by_cases k4 : kd = 4
          · obtain ⟨t1, w, e1, ht1, hw⟩ := made_Tape_Int_ok F hF ht
            refine fin t1 w v ht1 hw hv fun R k => ?_
            conv => lhs; unfold made_Tape_Samples_l6
            have q : eqI kd 4 = true := by rw [eqI_true]; exact k4
            simp only [h0, h1, hr, q1, q2, q3, q, cond_true, cond_false, e1, Option.bind_some]
          · have q4 : eqI kd 4 = false := by rw [← Bool.not_eq_true, eqI_true]; exact k4
            by_cases k5 : kd = 5
            · have q : eqI kd 5 = true := by rw [eqI_true]; exact k5
              obtain ⟨t1, bb, e1, ht1⟩ := made_Tape_Bool_ok F ht (n := 5) (by omega)
              cases bb with
              | true =>
                obtain ⟨t2, w, e2, ht2, _, _⟩ := made_Tape_Next_ok F ht1 (n := 400) (by omega)
                obtain ⟨t3, u, e3, ht3, _, _⟩ := made_Tape_Next_ok F ht2 (n := 3) (by omega)
                refine fin t3 (addI .i64 (addI .i64 v (subI .i64 w 200)) u) (addI .i64 v (subI .i64 w 200)) ht3 (rng_wrap_i64 _) (rng_wrap_i64 _) fun R k => ?_
                conv => lhs; unfold made_Tape_Samples_l6
                simp only [h0, h1, hr, q1, q2, q3, q4, q, cond_true, cond_false, e1, e2, e3, Option.bind_some]
              | false =>
                obtain ⟨t3, u, e3, ht3, _, _⟩ := made_Tape_Next_ok F ht1 (n := 3) (by omega)
                refine fin t3 (addI .i64 v u) v ht3 (rng_wrap_i64 _) hv fun R k => ?_
                conv => lhs; unfold made_Tape_Samples_l6
                simp only [h0, h1, hr, q1, q2, q3, q4, q, cond_true, cond_false, e1, e3, Option.bind_some]
            · have q5 : eqI kd 5 = false := by rw [← Bool.not_eq_true, eqI_true]; exact k5
              by_cases k6 : kd = 6
              · have q : eqI kd 6 = true := by rw [eqI_true]; exact k6
                obtain ⟨t2, w, e2, ht2, _, _⟩ := made_Tape_Next_ok F ht (n := 50) (by omega)
                obtain ⟨t3, u, e3, ht3, _, _⟩ := made_Tape_Next_ok F ht2 (n := 50) (by omega)
                refine fin t3 (mulI .i64 (mulI .i64 w u) slope) v ht3 (rng_wrap_i64 _) hv fun R k => ?_
                conv => lhs; unfold made_Tape_Samples_l6
                simp only [h0, h1, hr, q1, q2, q3, q4, q5, q, cond_true, cond_false, e2, e3, Option.bind_some]
              · have q6 : eqI kd 6 = false := by rw [← Bool.not_eq_true, eqI_true]; exact k6
                refine fin t v v ht hv hv fun R k => ?_
                conv => lhs; unfold made_Tape_Samples_l6
                simp only [h0, h1, hr, q1, q2, q3, q4, q5, q6, cond_true, cond_false]

theorem made_Tape_Samples_ok (F : Nat) (hF : Fuel F) {t : List Int × Int × Unit} (h : TapeOk t) {n : Int} (hn : 0 ≤ n ∧ n ≤ 100) :
    ∃ t' l, made_Tape_Samples F t n = some (t', l, ()) ∧ TapeOk t' ∧ SmpOk l ∧ (l.length : Int) ≤ n := by
  obtain ⟨t1, ts, e1, h1, hs, hi, hl⟩ := made_Tape_Times_ok F hF h hn
  obtain ⟨t2, kd, e2, h2, _, _⟩ := made_Tape_Next_ok F h1 (n := 7) (by omega)
  obtain ⟨t3, v, e3, h3, hv⟩ := made_Tape_Int_ok F hF h2
  obtain ⟨t4, s, e4, h4, _, _⟩ := made_Tape_Next_ok F h3 (n := 41) (by omega)
  obtain ⟨t5, l, g1, g2, g3, g4⟩ := Samples_loop F hF kd (subI .i64 s 20) hs (by omega) ts.length 0 t4 [] v (by omega) h4 (fun x hx => by cases hx) hv rfl F (by unfold Fuel at hF; omega)
  refine ⟨t5, l, ?_, g1, g2, by omega⟩
  unfold made_Tape_Samples
  simp only [e1, e2, e3, e4, Option.bind_some]
  exact g4 _ _

theorem Values_loop (F : Nat) {t : List Int × Int × Unit} {s : List Smp} (hs : SmpOk s) (hl : s.length ≤ 1000) : ∀ (m i : Nat) (out : List Int), i + m = s.length → Sg out → out.length = i →
    ∀ N, m < N → ∃ l', Sg l' ∧ l'.length = s.length ∧ ∀ (R : Type) (k : List Int × Int × Unit → List Int → Option R), made_Tape_Values_l4 F k N t s out (i : Int) = k t l' := by
  intro m
  induction m with
  | zero =>
    intro i out hi ho hol N hN
    obtain ⟨N, rfl⟩ : ∃ M, N = M + 1 := ⟨N - 1, by omega⟩
    refine ⟨out, ho, by omega, fun R k => ?_⟩
    unfold made_Tape_Values_l4
    simp (disch := omega) only [cond_true, cond_false, iteB, notf_true_iff, not_true_iff, ltI_true, leI_true, eqI_true, inI_true, cutB_true, roomB_true, makeB_true, lenI, ↓if_pos, ↓if_neg, addI_i64, subI_i64, mulI_i64, quoI_i64, remI_nn, minI_eq, maxI_eq, length_setL, length_replI, length_takeL, length_dropL, Option.bind_some, Bool.false_eq_true, if_false, if_true, not_false_eq_true, not_true_eq_false]
  | succ m ih =>
    intro i out hi ho hol N hN
    obtain ⟨N, rfl⟩ : ∃ M, N = M + 1 := ⟨N - 1, by omega⟩
    have hx : I64 (getL (0, (0, ())) s (i : Int)).2.1 := (getD_all (P := fun s : Smp => I64 s.1 ∧ I64 s.2.1) hs (by unfold I64; simp) _).2
    obtain ⟨l', g1, g2, g3⟩ := ih (i + 1) (out ++ [(getL (0, (0, ())) s (i : Int)).2.1]) (by omega) (ho.append (Sg.cons hx Sg.nil)) (by simp; omega) N (by omega)
    refine ⟨l', g1, g2, fun R k => ?_⟩
    have e := g3 R k
    simp only [Int.natCast_add, Int.natCast_one] at e
    unfold made_Tape_Values_l4
    simp (disch := omega) only [cond_true, cond_false, iteB, notf_true_iff, not_true_iff, ltI_true, leI_true, eqI_true, inI_true, cutB_true, roomB_true, makeB_true, lenI, ↓if_pos, ↓if_neg, addI_i64, subI_i64, mulI_i64, quoI_i64, remI_nn, minI_eq, maxI_eq, length_setL, length_replI, length_takeL, length_dropL, Option.bind_some, Bool.false_eq_true, if_false, if_true, not_false_eq_true, not_true_eq_false]
    exact e

theorem made_Tape_Values_ok (F : Nat) (hF : Fuel F) {t : List Int × Int × Unit} (h : TapeOk t) {n : Int} (hn : 0 ≤ n ∧ n ≤ 100) :
    ∃ t' l, made_Tape_Values F t n = some (t', l, ()) ∧ TapeOk t' ∧ Sg l ∧ (l.length : Int) ≤ n := by
  obtain ⟨t1, s, e1, h1, hs, hl⟩ := made_Tape_Samples_ok F hF h hn
  obtain ⟨l, g1, g2, g3⟩ := Values_loop F (t := t1) hs (by omega) s.length 0 [] (by omega) Sg.nil rfl F (by unfold Fuel at hF; omega)
  refine ⟨t1, l, ?_, h1, g1, by omega⟩
  unfold made_Tape_Values
  simp only [e1, Option.bind_some]
  exact g3 _ _

theorem law11_known_true (F : Nat) (hF : Fuel F) : law11_known F = some (true, ()) := by
  unfold Fuel at hF
  obtain ⟨G, rfl⟩ : ∃ G, F = G + 200 := ⟨F - 200, by omega⟩
  kernel_rfl

theorem Residuals_same (F : Nat) (hF : Fuel F) {l : List Int} (hl : Sg l) (hb : (l.length : Int) ≤ 17592186043904) (o : Int) : ∃ c ok, residual_Residuals F l o = some (c, ok, ()) ∧ ref11_Residuals F l o = some (c, ok, ()) ∧ (c.length : Int) ≤ 17592186043904 := by
  have h1 := residual_Residuals_eq F hF hl hb o
  have h2 := ref11_Residuals_eq F hF hl hb o
  by_cases c : o < 0 ∨ 2 < o
  · rw [if_pos c] at h1 h2
    exact ⟨_, _, h1, h2, by simp⟩
  · rw [if_neg c] at h1 h2
    exact ⟨_, _, h1, h2, by rw [zs_length, dfn_length]; exact hb⟩

theorem ResidualForms_inner (F : Nat) (hF : Fuel F) {R : Type} (k : List (List Int) → List Int → Int → Option R) (kret : Bool → Option R) {l : List Int} (hl : Sg l) (hb : (l.length : Int) ≤ 17592186043904) {ls : List (List Int)} {os : List Int} (ho : os.length ≤ 1000) {i : Int} (hi : inI i ls.length = true) (hg : getL [] ls i = l) : ∀ (m j : Nat), j + m = os.length → ∀ N, m < N →
    law11_ResidualForms_l12 F k kret N ls os i (j : Int) = k ls os i := by
  intro m
  induction m with
  | zero =>
    intro j hj N hN
    obtain ⟨N, rfl⟩ : ∃ M, N = M + 1 := ⟨N - 1, by omega⟩
    unfold law11_ResidualForms_l12
    simp (disch := omega) only [cond_true, cond_false, iteB, notf_true_iff, not_true_iff, ltI_true, leI_true, eqI_true, inI_true, cutB_true, roomB_true, makeB_true, lenI, ↓if_pos, ↓if_neg, addI_i64, subI_i64, mulI_i64, quoI_i64, remI_nn, minI_eq, maxI_eq, length_setL, length_replI, length_takeL, length_dropL, Option.bind_some, Bool.false_eq_true, if_false, if_true, not_false_eq_true, not_true_eq_false]
  | succ m ih =>
    intro j hj N hN
    obtain ⟨N, rfl⟩ : ∃ M, N = M + 1 := ⟨N - 1, by omega⟩
    have e := ih (j + 1) (by omega) N (by omega)
    simp only [Int.natCast_add, Int.natCast_one] at e
    obtain ⟨c, ok, r1, r2, hc⟩ := Residuals_same F hF hl hb (getL 0 os (j : Int))
    have hs := ref08_Same_eq F hF (a := c) (b := c) (by omega)
    rw [decide_eq_true rfl] at hs
    have he : eqT .bool ok ok = true := by cases ok <;> rfl
    have x1 : ltI (j : Int) (lenI os) = true := by rw [ltI_true]; unfold lenI; omega
    have x2 : inI (j : Int) os.length = true := by rw [inI_true]; omega
    have xa : addI .i64 (j : Int) 1 = (j : Int) + 1 := addI_i64 (by omega)
    unfold law11_ResidualForms_l12
    simp only [x1, x2, hi, hg, cond_true, r1, r2, Option.bind_some, he, hs, Bool.not_true, cond_false, xa]
    exact e

theorem ResidualForms_step (F : Nat) (hF : Fuel F) {R : Type} (k0 : Option R) (kret : Bool → Option R) {l : List Int} (hl : Sg l) (hb : (l.length : Int) ≤ 17592186043904) {ls : List (List Int)} {os : List Int} (ho : os.length ≤ 1000) {i : Nat} (hi : i < ls.length) (hi2 : i < 2) (hg : getL [] ls (i : Int) = l) (N : Nat) :
    law11_ResidualForms_l5 F k0 kret (N + 1) ls os (i : Int) = law11_ResidualForms_l5 F k0 kret N ls os ((i : Int) + 1) := by
  have h1 := residual_Encode_eq F hF hl hb
  have h2 := ref11_Encode_eq F hF hl hb
  have hsm : (rEe l).1.length ≤ 524291 := by
    unfold rEe
    split
    · simp
    · exact (rE_small hl (by omega)).1
  have hs := ref06_Same_eq F hF (a := (rEe l).1) (b := (rEe l).1) (by omega)
  rw [decide_eq_true rfl] at hs
  have x1 : ltI (i : Int) 2 = true := by rw [ltI_true]; omega
  have x2 : inI (i : Int) ls.length = true := by rw [inI_true]; omega
  have z : eqI (rEe l).2 (rEe l).2 = true := by rw [eqI_true]
  conv => lhs; unfold law11_ResidualForms_l5
  simp only [x1, x2, hg, cond_true, h1, h2, Option.bind_some, z, hs, Bool.not_true, cond_false]
  refine (ResidualForms_inner F hF _ _ hl hb ho x2 hg os.length 0 (by omega) F (by unfold Fuel at hF; omega)).trans ?_
  rw [addI_i64 (by omega)]

/-- The law ResidualForms. -/
theorem ResidualForms_true (F : Nat) (hF : Fuel F) {l t : List Int} {o : Int} (hl : Sg l) (hb : (l.length : Int) ≤ 17592186043904) (ho : I64 o) (ht : ∀ x ∈ t, I64 x) (htl : (t.length : Int) ≤ 140737488355328) : law11_ResidualForms F l o t = some (true, ()) := by
  obtain ⟨t0, e0, h0⟩ := made_New_ok F htl ht
  obtain ⟨t1, m, e1, h1, hm, hml⟩ := made_Tape_Values_ok F hF h0 (n := 25) (by omega)
  obtain ⟨G, hG⟩ : ∃ G, F = G + 1 + 1 + 1 := ⟨F - 3, by unfold Fuel at hF; omega⟩
  have fin : ∀ (R : Type) (k0 : Option R) (kret : Bool → Option R) (os : List Int), os.length ≤ 1000 → law11_ResidualForms_l5 F k0 kret F [l, m] os 0 = k0 := by
    intro R k0 kret os hos
    have s0 := fun N => ResidualForms_step F hF k0 kret hl hb (ls := [l, m]) hos (i := 0) (by simp) (by omega) rfl N
    have s1 := fun N => ResidualForms_step F hF k0 kret hm (by omega) (ls := [l, m]) hos (i := 1) (by simp) (by omega) rfl N
    have s2 : ∀ N, law11_ResidualForms_l5 F k0 kret (N + 1) [l, m] os 2 = k0 := by
      intro N
      unfold law11_ResidualForms_l5
      simp (disch := omega) only [cond_true, cond_false, iteB, notf_true_iff, not_true_iff, ltI_true, leI_true, eqI_true, inI_true, cutB_true, roomB_true, makeB_true, lenI, ↓if_pos, ↓if_neg, addI_i64, subI_i64, mulI_i64, quoI_i64, remI_nn, minI_eq, maxI_eq, length_setL, length_replI, length_takeL, length_dropL, Option.bind_some, Bool.false_eq_true, if_false, if_true, not_false_eq_true, not_true_eq_false]
    have h := ((s0 (G + 1 + 1)).trans ((s1 (G + 1)).trans (s2 G)))
    rw [← hG] at h
    exact h
  unfold law11_ResidualForms
  simp only [e0, e1, Option.bind_some, law11_known_true F hF]
  exact fin _ _ _ _ (by simp)

theorem ResidualBack_step (F : Nat) (hF : Fuel F) {R : Type} (k0 : Option R) (kret : Bool → Option R) {b rest : List Int} (hb : Bt b) (hbl : (b.length : Int) ≤ 1048576) (hr : Bt rest) (hrl : (rest.length : Int) ≤ 1048576) {l : List Int} (hl : Sg l) (hn : l.length ≤ 65536) {ls : List (List Int)} {i : Nat} (hi : i < ls.length) (hi2 : i < 2) (hg : getL [] ls (i : Int) = l) (N : Nat) :
    law11_ResidualBack_l5 F k0 kret (N + 1) b rest ls (i : Int) = law11_ResidualBack_l5 F k0 kret N b rest ls ((i : Int) + 1) := by
  have e2 := residual_Encode_eq F hF hl (by omega)
  rw [rEe_ok hn] at e2
  obtain ⟨s1, s2, s3⟩ := rE_small hl hn
  have hal : (b ++ (rE l ++ rest)).length = b.length + ((rE l).length + rest.length) := by simp
  have e3 := rDecode_back F hF hl hn hb hr (by omega)
  have e4 := ref10_Same_eq F hF (a := l) (b := l) (by omega)
  rw [decide_eq_true rfl] at e4
  have hA : ([] ++ b : List Int) = b := rfl
  have x1 : ltI (i : Int) 2 = true := by rw [ltI_true]; omega
  have x2 : inI (i : Int) ls.length = true := by rw [inI_true]; omega
  have xa : addI .i64 (i : Int) 1 = (i : Int) + 1 := addI_i64 (by omega)
  generalize hR : law11_ResidualBack_l5 F k0 kret N b rest ls ((i : Int) + 1) = RR
  unfold law11_ResidualBack_l5
  simp only [x1, x2, hg, cond_true, e2, Option.bind_some, hA, List.append_assoc]
  generalize rE l = c at *
  have c1 : roomB (0 + b.length) 1 = true := by rw [roomB_true]; omega
  have c2 : roomB (b.length + c.length) 1 = true := by rw [roomB_true]; omega
  have c3 : roomB ((b ++ c).length + rest.length) 1 = true := by rw [roomB_true]; simp; omega
  have c4 : eqI ((b.length : Int) + c.length) (addI .i64 (b.length : Int) (lenI c)) = true := by
    rw [eqI_true]
    show _ = IntKind.wrap .i64 _
    rw [wrap_i64 (by unfold lenI; omega)]
    rfl
  simp only [c1, c2, c3, cond_true, show lenI b = (b.length : Int) from rfl, show lenI l = (l.length : Int) from rfl, e3, Option.bind_some, show eqI (0 : Int) 0 = true from rfl, c4, e4, Bool.not_true, cond_false, xa]
  exact hR

theorem ResidualBack_core (F : Nat) (hF : Fuel F) {b rest t l : List Int} (hl : Sg l) (hn : l.length ≤ 65536) (hb : Bt b) (hbl : (b.length : Int) ≤ 1048576) (hr : Bt rest) (hrl : (rest.length : Int) ≤ 1048576) (ht : ∀ x ∈ t, I64 x) (htl : (t.length : Int) ≤ 140737488355328) :
    law11_ResidualBack_j3 F (fun z => some (z, ())) l t b rest = some (true, ()) := by
  obtain ⟨t0, e0, h0⟩ := made_New_ok F htl ht
  obtain ⟨t1, m, e1, h1, hm, hml⟩ := made_Tape_Values_ok F hF h0 (n := 25) (by omega)
  obtain ⟨G, hG⟩ : ∃ G, F = G + 1 + 1 + 1 := ⟨F - 3, by unfold Fuel at hF; omega⟩
  have fin : ∀ (R : Type) (k0 : Option R) (kret : Bool → Option R), law11_ResidualBack_l5 F k0 kret F b rest [l, m] 0 = k0 := by
    intro R k0 kret
    have s0 := fun N => ResidualBack_step F hF k0 kret hb hbl hr hrl hl hn (ls := [l, m]) (i := 0) (by simp) (by omega) rfl N
    have s1 := fun N => ResidualBack_step F hF k0 kret hb hbl hr hrl hm (by omega) (ls := [l, m]) (i := 1) (by simp) (by omega) rfl N
    have s2 : ∀ N, law11_ResidualBack_l5 F k0 kret (N + 1) b rest [l, m] 2 = k0 := by
      intro N
      unfold law11_ResidualBack_l5
      simp (disch := omega) only [cond_true, cond_false, iteB, notf_true_iff, not_true_iff, ltI_true, leI_true, eqI_true, inI_true, cutB_true, roomB_true, makeB_true, lenI, ↓if_pos, ↓if_neg, addI_i64, subI_i64, mulI_i64, quoI_i64, remI_nn, minI_eq, maxI_eq, length_setL, length_replI, length_takeL, length_dropL, Option.bind_some, Bool.false_eq_true, if_false, if_true, not_false_eq_true, not_true_eq_false]
    have h := ((s0 (G + 1 + 1)).trans ((s1 (G + 1)).trans (s2 G)))
    rw [← hG] at h
    exact h
  unfold law11_ResidualBack_j3
  simp only [e0, e1, Option.bind_some, law11_known_true F hF, fin]

/-- The law ResidualBack. -/
theorem ResidualBack_true (F : Nat) (hF : Fuel F) {b rest t l : List Int} (hl : Sg l) (hll : (l.length : Int) ≤ 1048576) (hb : Bt b) (hbl : (b.length : Int) ≤ 1048576) (hr : Bt rest) (hrl : (rest.length : Int) ≤ 1048576) (ht : ∀ x ∈ t, I64 x) (htl : (t.length : Int) ≤ 140737488355328) :
    law11_ResidualBack F l t b rest = some (true, ()) := by
  unfold law11_ResidualBack
  by_cases c : 2000 < l.length
  · have x1 : ltI 2000 (lenI l) = true := by rw [ltI_true]; unfold lenI; omega
    have x2 : cutB 0 2000 l.length = true := by rw [cutB_true]; omega
    rw [x1, cond_true, x2, cond_true]
    exact ResidualBack_core F hF (fun x hx => hl x (List.mem_of_mem_take hx)) (by rw [length_takeL]; omega) hb hbl hr hrl ht htl
  · have x1 : ltI 2000 (lenI l) = false := by rw [← Bool.not_eq_true, ltI_true]; unfold lenI; omega
    rw [x1, cond_false]
    exact ResidualBack_core F hF hl (by omega) hb hbl hr hrl ht htl

theorem ResidualCanonical_step (F : Nat) (hF : Fuel F) {R : Type} (k0 : Option R) (kret : Bool → Option R) {b : List Int} (hb : Bt b) (hbl : (b.length : Int) ≤ 140737488355328) {ls : List (List Int)} {ns : List Int} {i : Nat} (hi : i < ls.length) (hi2 : i < ns.length) (hil : (ls.length : Int) ≤ 1000) (hg : getL [] ls (i : Int) = b) (N : Nat) :
    law11_ResidualCanonical_l8 F k0 kret (N + 1) ls ns (i : Int) = law11_ResidualCanonical_l8 F k0 kret N ls ns ((i : Int) + 1) := by
  obtain ⟨x, end_, e, h1, _, hx, h3, h4⟩ := rDecode F hF hb hbl 0 (getL 0 ns (i : Int))
  generalize hR : law11_ResidualCanonical_l8 F k0 kret N ls ns ((i : Int) + 1) = RR
  have x1 : ltI (i : Int) (lenI ls) = true := by rw [ltI_true]; unfold lenI; omega
  have x2 : inI (i : Int) ls.length = true := by rw [inI_true]; omega
  have x3 : inI (i : Int) ns.length = true := by rw [inI_true]; omega
  have xa : addI .i64 (i : Int) 1 = (i : Int) + 1 := addI_i64 (by omega)
  unfold law11_ResidualCanonical_l8
  by_cases c : e = 0
  · obtain ⟨_, g2, g3, g4, g5, g6⟩ := h3 c
    rw [cut_zero] at g6
    have e2 := residual_Encode_eq F hF hx (by omega)
    rw [rEe_ok (by omega)] at e2
    obtain ⟨s1, s2, s3⟩ := rE_small hx (by omega)
    have e3 := ref06_Same_eq F hF (a := rE x) (b := takeL b end_) (by omega)
    rw [decide_eq_true g6] at e3
    have x4 : eqI e 0 = true := by rw [eqI_true]; exact c
    have x5 : ltI (lenI b) end_ = false := by rw [← Bool.not_eq_true, ltI_true]; unfold lenI; omega
    have x6 : cutB 0 end_ b.length = true := by rw [cutB_true]; omega
    simp only [x1, x2, x3, cond_true, hg, h1, Option.bind_some, x4, Bool.not_true, cond_false, e2, show eqI (0 : Int) 0 = true from rfl, x5, x6, e3, xa]
    exact hR
  · have x4 : eqI e 0 = false := by rw [← Bool.not_eq_true, eqI_true]; exact c
    simp only [x1, x2, x3, cond_true, hg, h1, Option.bind_some, x4, Bool.not_false, xa]
    exact hR

/-- The law ResidualCanonical. -/
theorem ResidualCanonical_true (F : Nat) (hF : Fuel F) {b t : List Int} {n : Int} (hb : Bt b) (hbl : (b.length : Int) ≤ 140737488351232) (hn : I64 n) (ht : ∀ x ∈ t, I64 x) (htl : (t.length : Int) ≤ 140737488355328) :
    law11_ResidualCanonical F b n t = some (true, ()) := by
  obtain ⟨t0, e0, h0⟩ := made_New_ok F htl ht
  obtain ⟨t1, l, e1, h1, hl, hll⟩ := made_Tape_Values_ok F hF h0 (n := 20) (by omega)
  have e2 := residual_Encode_eq F hF hl (by omega)
  rw [rEe_ok (by omega)] at e2
  obtain ⟨s1, s2, s3⟩ := rE_small hl (by omega)
  obtain ⟨m, e3, hm0, hm⟩ := made_Mod_any F hn (y := 15) (by omega)
  obtain ⟨t2, q, e4, h2, hq0, hq⟩ := made_Tape_Next_ok F h1 (n := 3) (by omega)
  generalize rE l = d at *
  obtain ⟨t3, c, e5, h3, hc, hcl⟩ := made_Tape_Spoiled_ok F h2 s3 (by omega)
  have hw := rng_wrap_u8 q
  have b1 : Bt ([IntKind.u8.wrap q, 0] ++ b) := Bt.append (fun x hx => by simp at hx; omega) hb
  have l1 : ([IntKind.u8.wrap q, 0] ++ b : List Int).length = b.length + 2 := by simp
  obtain ⟨x1, hx1⟩ : ∃ x, x = ([IntKind.u8.wrap q, 0] ++ b : List Int) := ⟨_, rfl⟩
  rw [← hx1] at b1 l1
  obtain ⟨G, hG⟩ : ∃ G, F = G + 1 + 1 + 1 + 1 + 1 := ⟨F - 5, by unfold Fuel at hF; omega⟩
  have fin : ∀ (R : Type) (k0 : Option R) (kret : Bool → Option R) (ns : List Int), ns.length = 4 → law11_ResidualCanonical_l8 F k0 kret F [b, x1, c, d] ns 0 = k0 := by
    intro R k0 kret ns hns
    have s0 := fun N => ResidualCanonical_step F hF k0 kret hb (by omega) (ls := [b, x1, c, d]) (ns := ns) (i := 0) (by simp) (by omega) (by simp) rfl N
    have s1 := fun N => ResidualCanonical_step F hF k0 kret b1 (by omega) (ls := [b, x1, c, d]) (ns := ns) (i := 1) (by simp) (by omega) (by simp) rfl N
    have s2 := fun N => ResidualCanonical_step F hF k0 kret hc (by omega) (ls := [b, x1, c, d]) (ns := ns) (i := 2) (by simp) (by omega) (by simp) rfl N
    have s3 := fun N => ResidualCanonical_step F hF k0 kret s3 (by omega) (ls := [b, x1, c, d]) (ns := ns) (i := 3) (by simp) (by omega) (by simp) rfl N
    have s4 : ∀ N, law11_ResidualCanonical_l8 F k0 kret (N + 1) [b, x1, c, d] ns 4 = k0 := by
      intro N
      unfold law11_ResidualCanonical_l8
      have : ([b, x1, c, d] : List (List Int)).length = 4 := rfl
      simp (disch := omega) only [cond_true, cond_false, iteB, notf_true_iff, not_true_iff, ltI_true, leI_true, eqI_true, inI_true, cutB_true, roomB_true, makeB_true, lenI, ↓if_pos, ↓if_neg, addI_i64, subI_i64, mulI_i64, quoI_i64, remI_nn, minI_eq, maxI_eq, length_setL, length_replI, length_takeL, length_dropL, Option.bind_some, Bool.false_eq_true, if_false, if_true, not_false_eq_true, not_true_eq_false, this]
    have h := ((s0 (G + 1 + 1 + 1 + 1)).trans ((s1 (G + 1 + 1 + 1)).trans ((s2 (G + 1 + 1)).trans ((s3 (G + 1)).trans (s4 G)))))
    rw [← hG] at h
    exact h
  have r1 : roomB (2 + b.length) 1 = true := by rw [roomB_true]; omega
  unfold law11_ResidualCanonical
  simp only [e0, e1, e2, e3, e4, e5, Option.bind_some, r1, cond_true, law11_known_true F hF, ← hx1]
  exact fin _ _ _ _ rfl

/- values on a line -/
def lns (v s : Int) : Nat → Nat → List Int
  | _, 0 => []
  | i, n + 1 => IntKind.i64.wrap (v + IntKind.i64.wrap ((i : Int) * s)) :: lns v s (i + 1) n
theorem lns_length (v s : Int) : ∀ (n i : Nat), (lns v s i n).length = n
  | 0, _ => rfl
  | n + 1, i => by simp [lns, lns_length v s n]
theorem lns_Sg (v s : Int) : ∀ (n i : Nat), Sg (lns v s i n)
  | 0, _ => Sg.nil
  | n + 1, i => Sg.cons (rng_wrap_i64 _) (lns_Sg v s n (i + 1))
theorem lns_snoc (v s : Int) : ∀ (n i : Nat), lns v s i n ++ [IntKind.i64.wrap (v + IntKind.i64.wrap (((i + n : Nat) : Int) * s))] = lns v s i (n + 1)
  | 0, i => rfl
  | n + 1, i => by
    have := lns_snoc v s n (i + 1)
    rw [show i + 1 + n = i + (n + 1) by omega] at this
    rw [lns, List.cons_append, this]
    rfl
theorem lns_dfs {v s : Int} (hs : I64 s) : ∀ (n i : Nat), dfs (IntKind.i64.wrap (v + IntKind.i64.wrap ((i : Int) * s))) (lns v s (i + 1) n) = List.replicate n s
  | 0, i => rfl
  | n + 1, i => by
    rw [lns, dfs, lns_dfs hs n (i + 1), List.replicate_succ]
    congr 1
    have hm : ((i + 1 : Nat) : Int) * s = (i : Int) * s + s := by rw [Int.natCast_add, Int.add_mul]; omega
    rw [hm]
    generalize (i : Int) * s = z
    obtain ⟨k1, h1⟩ := i64_wrap_mod z
    obtain ⟨k2, h2⟩ := i64_wrap_mod (z + s)
    obtain ⟨k3, h3⟩ := i64_wrap_mod (v + IntKind.i64.wrap z)
    obtain ⟨k4, h4⟩ := i64_wrap_mod (v + IntKind.i64.wrap (z + s))
    obtain ⟨k5, h5⟩ := i64_wrap_mod (IntKind.i64.wrap (v + IntKind.i64.wrap (z + s)) - IntKind.i64.wrap (v + IntKind.i64.wrap z))
    refine i64_uniq (rng_wrap_i64 _) hs (k := k5 + k4 + k2 - k3 - k1) ?_
    rw [h5, h4, h3, h2, h1]
    omega
theorem dfs_same {s : Int} : ∀ n : Nat, dfs s (List.replicate n s) = List.replicate n 0
  | 0 => rfl
  | n + 1 => by
    rw [List.replicate_succ, dfs, dfs_same n, Int.sub_self, List.replicate_succ]
    rfl
theorem lns_df {v s : Int} (hs : I64 s) (n : Nat) : ∃ p q : Int, I64 p ∧ I64 q ∧ dfn 2 (lns v s 0 (n + 2)) = p :: q :: List.replicate n 0 := by
  refine ⟨IntKind.i64.wrap (v + IntKind.i64.wrap (((0 : Nat) : Int) * s)), IntKind.i64.wrap (s - IntKind.i64.wrap (v + IntKind.i64.wrap (((0 : Nat) : Int) * s))), rng_wrap_i64 _, rng_wrap_i64 _, ?_⟩
  have h := lns_dfs (v := v) hs (n + 1) 0
  show df (df (IntKind.i64.wrap (v + IntKind.i64.wrap (((0 : Nat) : Int) * s)) :: lns v s (0 + 1) (n + 1))) = _
  rw [df, h, df, List.replicate_succ, dfs, dfs_same]
theorem zs_zeros : ∀ n : Nat, zs (List.replicate n 0) = List.replicate n 0
  | 0 => rfl
  | n + 1 => by
    rw [List.replicate_succ, zs, zs_zeros n]
    rfl

theorem line_short {v s : Int} (hs : I64 s) (n : Nat) : (rE (lns v s 0 (n + 2))).length ≤ 22 + n := by
  have h1 := rE_least (lns v s 0 (n + 2)) (n := 2) (by omega)
  obtain ⟨p, q, hp, hq, hd⟩ := lns_df (v := v) hs n
  have hS := lns_Sg v s (n + 2) 0
  have h2 : (rO 2 (lns v s 0 (n + 2))).length = 1 + (nE (zs (dfn 2 (lns v s 0 (n + 2))))).length := by unfold rO; simp; omega
  have h3 := (nE_len (zs_Wd (dfn_Sg 2 hS))).1
  rw [hd] at h3
  simp only [zs, encs, List.length_append, zs_zeros, encs_zeros, Int.toNat_natCast] at h3
  have h4 := enc_le10 (zz_lt hp)
  have h5 := enc_le10 (zz_lt hq)
  rw [hd] at h2
  simp only [zs, zs_zeros] at h2
  omega

theorem Shortest_loop (F : Nat) {R : Type} (k : Int → Int → List Int → Option R) {v s sl : Int} (hw : IntKind.wrap .i64 sl = s) (e0 : Int) {n : Nat} (hn : n ≤ 200) : ∀ (m i : Nat), i + m = n → ∀ N, m < N →
    law11_ResidualShortest_l13 F k N v sl (n : Int) e0 (lns v s 0 i) (i : Int) = k (n : Int) e0 (lns v s 0 n) := by
  intro m
  induction m with
  | zero =>
    intro i hi N hN
    obtain ⟨N, rfl⟩ : ∃ M, N = M + 1 := ⟨N - 1, by omega⟩
    have : i = n := by omega
    subst this
    unfold law11_ResidualShortest_l13
    simp (disch := omega) only [cond_true, cond_false, iteB, notf_true_iff, not_true_iff, ltI_true, leI_true, eqI_true, inI_true, cutB_true, roomB_true, makeB_true, lenI, ↓if_pos, ↓if_neg, addI_i64, subI_i64, mulI_i64, quoI_i64, remI_nn, minI_eq, maxI_eq, length_setL, length_replI, length_takeL, length_dropL, Option.bind_some, Bool.false_eq_true, if_false, if_true, not_false_eq_true, not_true_eq_false]
  | succ m ih =>
    intro i hi N hN
    obtain ⟨N, rfl⟩ : ∃ M, N = M + 1 := ⟨N - 1, by omega⟩
    have e := ih (i + 1) (by omega) N (by omega)
    have hsn := lns_snoc v s i 0
    rw [Nat.zero_add] at hsn
    rw [← hsn] at e
    simp only [Int.natCast_add, Int.natCast_one] at e
    have hlen := lns_length v s i 0
    have x1 : ltI (i : Int) (n : Int) = true := by rw [ltI_true]; omega
    have x2 : roomB ((lns v s 0 i).length + 1) 8 = true := by rw [roomB_true]; omega
    have xa : addI .i64 (i : Int) 1 = (i : Int) + 1 := addI_i64 (by omega)
    unfold law11_ResidualShortest_l13
    simp only [x1, x2, cond_true, xa, hw]
    exact e

/-- The law ResidualShortest. -/
theorem ResidualShortest_true (F : Nat) (hF : Fuel F) {t : List Int} {v sl n : Int} (ht : ∀ x ∈ t, I64 x) (htl : (t.length : Int) ≤ 140737488355328) (hv : I64 v) (hs : -2147483648 ≤ sl ∧ sl ≤ 2147483647) (hn : I64 n) :
    law11_ResidualShortest F t v sl n = some (true, ()) := by
  obtain ⟨t0, e0, h0⟩ := made_New_ok F htl ht
  obtain ⟨t1, l, e1, h1, hl, hll⟩ := made_Tape_Values_ok F hF h0 (n := 25) (by omega)
  have e2 := residual_Encode_eq F hF hl (by omega)
  rw [rEe_ok (by omega)] at e2
  obtain ⟨s1, s2, s3⟩ := rE_small hl (by omega)
  obtain ⟨q, e3, hq0, hq⟩ := made_Mod_any F hn (y := 60) (by omega)
  obtain ⟨q, rfl⟩ := Int.eq_ofNat_of_zero_le hq0
  have hq' : q ≤ 60 := by
    have : Int.ofNat q = (q : Int) := rfl
    omega
  have e3 : made_Mod F n 60 = some ((q : Int), ()) := e3
  have hR := residual_Residuals_eq F hF hl (by omega)
  obtain ⟨G, hG⟩ : ∃ G, F = G + 1 + 1 + 1 + 1 := ⟨F - 4, by unfold Fuel at hF; omega⟩
  have step : ∀ (R : Type) (k : Int → Int → Int → Int → Option R) (kret : Bool → Option R) (N : Nat) (o : Nat), o ≤ 2 → law11_ResidualShortest_l4 F k kret (N + 1) v sl n l (rE l) 0 (o : Int) = law11_ResidualShortest_l4 F k kret N v sl n l (rE l) 0 ((o : Int) + 1) := by
    intro R k kret N o ho
    have r := hR (o : Int)
    rw [if_neg (by omega), Int.toNat_natCast] at r
    have hE := ref09_Encode_eq F hF (zs_Wd (dfn_Sg o hl)) (by rw [zs_length, dfn_length]; omega)
    have hL := rE_least l ho
    have hO : (rO o l).length = 1 + (nE (zs (dfn o l))).length := by unfold rO; simp; omega
    have hsm := nE_small (zs_Wd (dfn_Sg o hl)) (by rw [zs_length, dfn_length]; omega)
    have x1 : leI (o : Int) 2 = true := by rw [leI_true]; omega
    have x2 : ltI (addI .i64 1 (lenI (nE (zs (dfn o l))))) (lenI (rE l)) = false := by
      rw [← Bool.not_eq_true, addI_i64 (by unfold lenI; omega), ltI_true]; unfold lenI; omega
    have xa : addI .i64 (o : Int) 1 = (o : Int) + 1 := addI_i64 (by omega)
    conv => lhs; unfold law11_ResidualShortest_l4
    simp only [x1, cond_true, r, Option.bind_some, hE, Bool.not_true, cond_false, x2, xa]
  have fin : ∀ (R : Type) (k : Int → Int → Int → Int → Option R) (kret : Bool → Option R), law11_ResidualShortest_l4 F k kret F v sl n l (rE l) 0 0 = k v sl n 0 := by
    intro R k kret
    have a0 := step R k kret (G + 1 + 1 + 1) 0 (by omega)
    have a1 := step R k kret (G + 1 + 1) 1 (by omega)
    have a2 := step R k kret (G + 1) 2 (by omega)
    have a3 : law11_ResidualShortest_l4 F k kret (G + 1) v sl n l (rE l) 0 3 = k v sl n 0 := rfl
    have h := a0.trans (a1.trans (a2.trans a3))
    rw [← hG] at h
    exact h
  have hsw : IntKind.wrap .i64 sl = sl := wrap_i64 (by omega)
  have hsI : I64 sl := by unfold I64; omega
  have hn2 : addI .i64 2 (q : Int) = ((q + 2 : Nat) : Int) := by rw [addI_i64 (by omega)]; omega
  have L := fun (R : Type) (k : Int → Int → List Int → Option R) => Shortest_loop F k (v := v) hsw 0 (n := q + 2) (by omega) (q + 2) 0 (by omega) F (by unfold Fuel at hF; omega)
  have hLS := lns_Sg v sl (q + 2) 0
  have hLl := lns_length v sl (q + 2) 0
  have e4 := residual_Encode_eq F hF hLS (by omega)
  rw [rEe_ok (by omega)] at e4
  have hshort := line_short (v := v) hsI q
  simp only [lns, Int.natCast_zero] at L
  unfold law11_ResidualShortest
  simp only [e0, e1, e2, Option.bind_some, fin, e3, hn2]
  have hl0 : ([] : List Int) = lns v sl 0 0 := rfl
  rw [L]
  simp only [show lns v sl 0 (q + 2) = lns v sl 0 (q + 2) from rfl] at *
  have e4' := e4
  simp only [lns, Int.natCast_zero] at e4'
  simp only [e4', Option.bind_some, law11_known_true F hF, cond_true, show eqI (0 : Int) 0 = true from rfl, Option.some.injEq, Prod.mk.injEq, and_true]
  have hshort' := hshort
  simp only [lns, Int.natCast_zero] at hshort'
  rw [leI_true, addI_i64 (by omega), subI_i64 (by omega)]
  unfold lenI
  omega

end Go.Proofs.Ytfmjokmjaghehaa
