
/- Layer 11: residuals, the laws. -/
import Derived.Test.YtfmjokmjaghehaaGreatResid2
set_option linter.unusedVariables false
set_option linter.unusedSimpArgs false
namespace Go.Proofs.YtfmjokmjaghehaaGreat
open Go.Eng
abbrev Smp := Int × Int × Unit
def SmpOk (l : List Smp) : Prop := ∀ s ∈ l, I64 s.1 ∧ I64 s.2.1
theorem SmpOk.push {l : List Smp} (h : SmpOk l) {a b : Int} (ha : I64 a) (hb : I64 b) : SmpOk (l ++ [(a, (b, ()))]) := by
  intro s hs
  rcases List.mem_append.1 hs with h1 | h1
  · exact h s h1
  · simp at h1; subst h1; exact ⟨ha, hb⟩
theorem Samples_loop (F : Nat) (hF : Fuel F) (kd slope : Int) {times : List Int} (hT : Sg times) (hTl : times.length ≤ 1000) : ∀ (m i : Nat) (t : List Int × Int × Unit) (l : List Smp) (v : Int), i + m = times.length → TapeOk t → SmpOk l → I64 v → l.length = i →
    ∀ N, m < N → ∃ t' l', TapeOk t' ∧ SmpOk l' ∧ l'.length = times.length ∧ ∀ (R : Type) (k : List Int × Int × Unit → List Smp → Option R), made_Tape_Samples_l6 F k N t times l kd v slope (i : Int) = k t' l' := by
  intro m
  induction m with
  | zero =>
    intro i t l v hi ht hl hv hli N hN
    obtain ⟨N, rfl⟩ : ∃ M, N = M + 1 := ⟨N - 1, by omega⟩
    refine ⟨t, l, ht, hl, by omega, fun R k => ?_⟩
    unfold made_Tape_Samples_l6
    simp (disch := omega) only [bs, ↓if_pos, ↓if_neg]
  | succ m ih =>
    intro i t l v hi ht hl hv hli N hN
    obtain ⟨N, rfl⟩ : ∃ M, N = M + 1 := ⟨N - 1, by omega⟩
    have fin : ∀ (t1 : List Int × Int × Unit) (x v1 : Int), TapeOk t1 → I64 x → I64 v1 → (∀ (R : Type) (k : List Int × Int × Unit → List Smp → Option R), made_Tape_Samples_l6 F k (N + 1) t times l kd v slope (i : Int) =
        made_Tape_Samples_l6 F k N t1 times (l ++ [(getL 0 times (i : Int), (x, ()))]) kd v1 slope (addI .i64 (i : Int) 1)) →
        ∃ t' l', TapeOk t' ∧ SmpOk l' ∧ l'.length = times.length ∧ ∀ (R : Type) (k : List Int × Int × Unit → List Smp → Option R), made_Tape_Samples_l6 F k (N + 1) t times l kd v slope (i : Int) = k t' l' := by
      intro t1 x v1 ht1 hx hv1 e
      obtain ⟨t', l', g1, g2, g3, g4⟩ := ih (i + 1) t1 (l ++ [(getL 0 times (i : Int), (x, ()))]) v1 (by omega) ht1 (hl.push (hT.get _) hx) hv1 (by simp; omega) N (by omega)
      refine ⟨t', l', g1, g2, g3, fun R k => ?_⟩
      rw [e R k, addI_i64 (by omega)]
      have := g4 R k
      simp only [Int.natCast_add, Int.natCast_one] at this
      exact this
    have h0 : ltI (i : Int) (lenI times) = true := by rw [ltI_true]; unfold lenI; omega
    have h1 : inI (i : Int) times.length = true := by rw [inI_true]; omega
    have hr : roomB (l.length + 1) 16 = true := by rw [roomB_true]; omega
    by_cases k1 : kd = 1
    · refine fin t (addI .i64 v (mulI .i64 (i : Int) slope)) v ht (rng_wrap_i64 _) hv fun R k => ?_
      conv => lhs; unfold made_Tape_Samples_l6
      have q : eqI kd 1 = true := by rw [eqI_true]; exact k1
      simp only [h0, h1, hr, q, cond_true]
    · have q1 : eqI kd 1 = false := by rw [← Bool.not_eq_true, eqI_true]; exact k1
      by_cases k2 : kd = 2
      · obtain ⟨t1, w, e1, ht1, _, _⟩ := made_Tape_Next_ok F ht (n := 7) (by omega)
        refine fin t1 (addI .i64 (addI .i64 v (mulI .i64 (i : Int) slope)) (subI .i64 w 3)) v ht1 (rng_wrap_i64 _) hv fun R k => ?_
        conv => lhs; unfold made_Tape_Samples_l6
        have q : eqI kd 2 = true := by rw [eqI_true]; exact k2
        simp only [h0, h1, hr, q1, q, cond_true, cond_false, e1, Option.bind_some]
      · have q2 : eqI kd 2 = false := by rw [← Bool.not_eq_true, eqI_true]; exact k2
        by_cases k3 : kd = 3
        · obtain ⟨t1, w, e1, ht1, _, _⟩ := made_Tape_Next_ok F ht (n := 9) (by omega)
          refine fin t1 (addI .i64 v (subI .i64 w 4)) v ht1 (rng_wrap_i64 _) hv fun R k => ?_
          conv => lhs; unfold made_Tape_Samples_l6
          have q : eqI kd 3 = true := by rw [eqI_true]; exact k3
          simp only [h0, h1, hr, q1, q2, q, cond_true, cond_false, e1, Option.bind_some]
        · have q3 : eqI kd 3 = false := by rw [← Bool.not_eq_true, eqI_true]; exact k3
          by_cases k4 : kd = 4
          · obtain ⟨t1, w, e1, ht1, hw⟩ := made_Tape_Int_ok F hF ht
            refine fin t1 w v ht1 hw hv fun R k => ?_
            conv => lhs; unfold made_Tape_Samples_l6
            have q : eqI kd 4 = true := by rw [eqI_true]; exact k4
            simp only [h0, h1, hr, q1, q2, q3, q, cond_true, cond_false, e1, Option.bind_some]
          · have q4 : eqI kd 4 = false := by rw [← Bool.not_eq_true, eqI_true]; exact k4
            by_cases k5 : kd = 5
            · have q : eqI kd 5 = true := by rw [eqI_true]; exact k5
              obtain ⟨t1, bb, e1, ht1⟩ := made_Tape_Bool_ok F ht (n := 5) (by omega)
              cases bb with
              | true =>
                obtain ⟨t2, w, e2, ht2, _, _⟩ := made_Tape_Next_ok F ht1 (n := 400) (by omega)
                obtain ⟨t3, u, e3, ht3, _, _⟩ := made_Tape_Next_ok F ht2 (n := 3) (by omega)
                refine fin t3 (addI .i64 (addI .i64 v (subI .i64 w 200)) u) (addI .i64 v (subI .i64 w 200)) ht3 (rng_wrap_i64 _) (rng_wrap_i64 _) fun R k => ?_
                conv => lhs; unfold made_Tape_Samples_l6
                simp only [h0, h1, hr, q1, q2, q3, q4, q, cond_true, cond_false, e1, e2, e3, Option.bind_some]
              | false =>
                obtain ⟨t3, u, e3, ht3, _, _⟩ := made_Tape_Next_ok F ht1 (n := 3) (by omega)
                refine fin t3 (addI .i64 v u) v ht3 (rng_wrap_i64 _) hv fun R k => ?_
                conv => lhs; unfold made_Tape_Samples_l6
                simp only [h0, h1, hr, q1, q2, q3, q4, q, cond_true, cond_false, e1, e3, Option.bind_some]
            · have q5 : eqI kd 5 = false := by rw [← Bool.not_eq_true, eqI_true]; exact k5
              by_cases k6 : kd = 6
              · have q : eqI kd 6 = true := by rw [eqI_true]; exact k6
                obtain ⟨t2, w, e2, ht2, _, _⟩ := made_Tape_Next_ok F ht (n := 50) (by omega)
                obtain ⟨t3, u, e3, ht3, _, _⟩ := made_Tape_Next_ok F ht2 (n := 50) (by omega)
                refine fin t3 (mulI .i64 (mulI .i64 w u) slope) v ht3 (rng_wrap_i64 _) hv fun R k => ?_
                conv => lhs; unfold made_Tape_Samples_l6
                simp only [h0, h1, hr, q1, q2, q3, q4, q5, q, cond_true, cond_false, e2, e3, Option.bind_some]
              · have q6 : eqI kd 6 = false := by rw [← Bool.not_eq_true, eqI_true]; exact k6
                refine fin t v v ht hv hv fun R k => ?_
                conv => lhs; unfold made_Tape_Samples_l6
                simp only [h0, h1, hr, q1, q2, q3, q4, q5, q6, cond_true, cond_false]
theorem made_Tape_Samples_ok (F : Nat) (hF : Fuel F) {t : List Int × Int × Unit} (h : TapeOk t) {n : Int} (hn : 0 ≤ n ∧ n ≤ 100) :
    ∃ t' l, made_Tape_Samples F t n = some (t', l, ()) ∧ TapeOk t' ∧ SmpOk l ∧ (l.length : Int) ≤ n := by
  obtain ⟨t1, ts, e1, h1, hs, hi, hl⟩ := made_Tape_Times_ok F hF h hn
  obtain ⟨t2, kd, e2, h2, _, _⟩ := made_Tape_Next_ok F h1 (n := 7) (by omega)
  obtain ⟨t3, v, e3, h3, hv⟩ := made_Tape_Int_ok F hF h2
  obtain ⟨t4, s, e4, h4, _, _⟩ := made_Tape_Next_ok F h3 (n := 41) (by omega)
  obtain ⟨t5, l, g1, g2, g3, g4⟩ := Samples_loop F hF kd (subI .i64 s 20) hs (by omega) ts.length 0 t4 [] v (by omega) h4 (fun x hx => by cases hx) hv rfl F (by unfold Fuel at hF; omega)
  refine ⟨t5, l, ?_, g1, g2, by omega⟩
  unfold made_Tape_Samples
  simp only [e1, e2, e3, e4, Option.bind_some]
  exact g4 _ _
theorem Values_loop (F : Nat) {t : List Int × Int × Unit} {s : List Smp} (hs : SmpOk s) (hl : s.length ≤ 1000) : ∀ (m i : Nat) (out : List Int), i + m = s.length → Sg out → out.length = i →
    ∀ N, m < N → ∃ l', Sg l' ∧ l'.length = s.length ∧ ∀ (R : Type) (k : List Int × Int × Unit → List Int → Option R), made_Tape_Values_l4 F k N t s out (i : Int) = k t l' := by
  intro m
  induction m with
  | zero =>
    intro i out hi ho hol N hN
    obtain ⟨N, rfl⟩ : ∃ M, N = M + 1 := ⟨N - 1, by omega⟩
    refine ⟨out, ho, by omega, fun R k => ?_⟩
    unfold made_Tape_Values_l4
    simp (disch := omega) only [bs, ↓if_pos, ↓if_neg]
  | succ m ih =>
    intro i out hi ho hol N hN
    obtain ⟨N, rfl⟩ : ∃ M, N = M + 1 := ⟨N - 1, by omega⟩
    have hx : I64 (getL (0, (0, ())) s (i : Int)).2.1 := (getD_all (P := fun s : Smp => I64 s.1 ∧ I64 s.2.1) hs (by unfold I64; simp) _).2
    obtain ⟨l', g1, g2, g3⟩ := ih (i + 1) (out ++ [(getL (0, (0, ())) s (i : Int)).2.1]) (by omega) (ho.append (Sg.cons hx Sg.nil)) (by simp; omega) N (by omega)
    refine ⟨l', g1, g2, fun R k => ?_⟩
    have e := g3 R k
    simp only [Int.natCast_add, Int.natCast_one] at e
    unfold made_Tape_Values_l4
    simp (disch := omega) only [bs, ↓if_pos, ↓if_neg]
    exact e
theorem made_Tape_Values_ok (F : Nat) (hF : Fuel F) {t : List Int × Int × Unit} (h : TapeOk t) {n : Int} (hn : 0 ≤ n ∧ n ≤ 100) :
    ∃ t' l, made_Tape_Values F t n = some (t', l, ()) ∧ TapeOk t' ∧ Sg l ∧ (l.length : Int) ≤ n := by
  obtain ⟨t1, s, e1, h1, hs, hl⟩ := made_Tape_Samples_ok F hF h hn
  obtain ⟨l, g1, g2, g3⟩ := Values_loop F (t := t1) hs (by omega) s.length 0 [] (by omega) Sg.nil rfl F (by unfold Fuel at hF; omega)
  refine ⟨t1, l, ?_, h1, g1, by omega⟩
  unfold made_Tape_Values
  simp only [e1, Option.bind_some]
  exact g3 _ _
end Go.Proofs.YtfmjokmjaghehaaGreat
