
/- What the makers of the statements' inputs make, as far as it matters. -/
import Derived.Test.YtfmjokmjaghehaaGreatModels
set_option linter.unusedVariables false
set_option linter.unusedSimpArgs false
namespace Go.Proofs.YtfmjokmjaghehaaGreat
open Go.Eng
def Fuel (F : Nat) : Prop := 1152921504606846976 < F
theorem tmod_pos {x y : Int} (hy : 0 < y) : (0 ≤ x.tmod y → x.tmod y = x % y) ∧ (x.tmod y < 0 → x.tmod y + y = x % y) ∧ x.tmod y < y ∧ -y < x.tmod y := by
  have h1 : x % y = (x.tmod y) % y := by
    have h := Int.tmod_add_mul_tdiv x y
    have e : x = x.tmod y + y * x.tdiv y := h.symm
    conv => lhs; rw [e]
    exact Int.add_mul_emod_self_left _ _ _
  have h2 : x.tmod y < y := Int.tmod_lt_of_pos x hy
  have h3 : -y < x.tmod y := by
    have := Int.tmod_lt_of_pos (-x) hy
    rw [Int.neg_tmod] at this
    omega
  refine ⟨fun h => ?_, fun h => ?_, h2, h3⟩
  · rw [h1, Int.emod_eq_of_lt h h2]
  · rw [h1, ← Int.add_emod_right, Int.emod_eq_of_lt (by omega) (by omega)]
def I64 (x : Int) : Prop := -9223372036854775808 ≤ x ∧ x ≤ 9223372036854775807
theorem made_Mod_pos (F : Nat) {x y : Int} (hx : I64 x) (hy : 1 ≤ y ∧ y ≤ 9223372036854775807) : made_Mod F x y = some (x % y, ()) := by
  unfold I64 at hx
  unfold made_Mod
  obtain ⟨h1, h2, h3, h4⟩ := tmod_pos (x := x) (y := y) (by omega)
  simp (disch := omega) only [bs, ↓if_pos, ↓if_neg]
  unfold remI
  by_cases h : x.tmod y < 0
  · simp (disch := omega) only [bs, ↓if_pos, ↓if_neg]
    rw [h2 h]
  · simp (disch := omega) only [bs, ↓if_pos, ↓if_neg]
    rw [h1 (by omega)]
theorem made_Mod_any (F : Nat) {x y : Int} (hx : I64 x) (hy : y ≤ 9223372036854775807) : ∃ v, made_Mod F x y = some (v, ()) ∧ 0 ≤ v ∧ (v < y ∨ v = 0) := by
  by_cases h : 1 ≤ y
  · exact ⟨_, made_Mod_pos F hx ⟨h, hy⟩, Int.emod_nonneg _ (by omega), .inl (Int.emod_lt_of_pos _ (by omega))⟩
  · refine ⟨0, ?_, by omega, .inr rfl⟩
    unfold made_Mod
    simp (disch := omega) only [bs, ↓if_pos, ↓if_neg]
def TapeOk (t : List Int × Int × Unit) : Prop := (t.1.length : Int) ≤ 140737488355328 ∧ 0 ≤ t.2.1 ∧ t.2.1 ≤ t.1.length ∧ ∀ x ∈ t.1, I64 x
theorem made_New_ok (F : Nat) {l : List Int} (hl : (l.length : Int) ≤ 140737488355328) (hr : ∀ x ∈ l, I64 x) : ∃ t, made_New F l = some (t, ()) ∧ TapeOk t :=
  ⟨_, rfl, hl, by simp, by simp, hr⟩
theorem made_Tape_Next_ok (F : Nat) {t : List Int × Int × Unit} (h : TapeOk t) {n : Int} (hn : n ≤ 9223372036854775807) :
    ∃ t' v, made_Tape_Next F t n = some (t', v, ()) ∧ TapeOk t' ∧ 0 ≤ v ∧ (v < n ∨ v = 0) := by
  obtain ⟨l, a, u⟩ := t
  obtain ⟨h1, h2, h3, h4⟩ := h
  simp only at h1 h2 h3 h4
  unfold made_Tape_Next
  by_cases hc : (l.length : Int) ≤ a
  · refine ⟨(l, a, u), 0, ?_, ⟨h1, h2, h3, h4⟩, by omega, .inr rfl⟩
    simp (disch := omega) only [bs, ↓if_pos, ↓if_neg]
  · obtain ⟨v, e, hv0, hv⟩ := made_Mod_any F (x := getL 0 l a) (y := n) (getD_all (P := I64) h4 (by unfold I64; omega) _) hn
    refine ⟨(l, a + 1, u), v, ?_, ⟨h1, by simp only; omega, by simp only; omega, h4⟩, hv0, hv⟩
    simp (disch := omega) only [bs, ↓if_pos, ↓if_neg]
    rw [show a + 1 - 1 = a by omega, e]
    rfl
theorem made_Tape_Word_loop (F : Nat) {R : Type} (k : List Int × Int × Unit → Int → Option R) : ∀ (m : Nat) (t : List Int × Int × Unit) (w : Int), TapeOk t → 0 ≤ w ∧ w ≤ 18446744073709551615 → m ≤ 4 →
    ∀ N, m < N → ∃ t' w', TapeOk t' ∧ (0 ≤ w' ∧ w' ≤ 18446744073709551615) ∧ made_Tape_Word_l3 F k N t w (4 - (m : Int)) = k t' w' := by
  intro m
  induction m with
  | zero =>
    intro t w ht hw _ N hN
    obtain ⟨N, rfl⟩ : ∃ M, N = M + 1 := ⟨N - 1, by omega⟩
    refine ⟨t, w, ht, hw, ?_⟩
    unfold made_Tape_Word_l3
    simp (disch := omega) only [bs, ↓if_pos, ↓if_neg]
  | succ m ih =>
    intro t w ht hw hm N hN
    obtain ⟨N, rfl⟩ : ∃ M, N = M + 1 := ⟨N - 1, by omega⟩
    obtain ⟨t1, v, e, ht1, hv0, hv⟩ := made_Tape_Next_ok F ht (n := 65536) (by omega)
    obtain ⟨t2, w2, ht2, hw2, e2⟩ := ih t1 (addI .u64 (shlI .u64 w 16) (IntKind.wrap .u64 v)) ht1 (rng_wrap_u64 _) (by omega) N (by omega)
    refine ⟨t2, w2, ht2, hw2, ?_⟩
    unfold made_Tape_Word_l3
    simp (disch := omega) only [bs, ↓if_pos, ↓if_neg, e]
    rw [show (4 : Int) - ((m + 1 : Nat) : Int) + 1 = 4 - (m : Int) by omega]
    exact e2
theorem made_Tape_Word_ok (F : Nat) (hF : Fuel F) {t : List Int × Int × Unit} (h : TapeOk t) : ∃ t' w, made_Tape_Word F t = some (t', w, ()) ∧ TapeOk t' ∧ 0 ≤ w ∧ w ≤ 18446744073709551615 := by
  obtain ⟨t', w', h1, h2, e⟩ := made_Tape_Word_loop F (fun z7 z8 => some (z7, (z8, ()))) 4 t 0 h (by omega) (by omega) F (by unfold Fuel at hF; omega)
  exact ⟨t', w', e, h1, h2⟩
theorem made_Tape_Spoiled_ok (F : Nat) {t : List Int × Int × Unit} (h : TapeOk t) {b : List Int} (hb : Bt b) (hl : (b.length : Int) ≤ 140737488355000) :
    ∃ t' c, made_Tape_Spoiled F t b = some (t', c, ()) ∧ TapeOk t' ∧ Bt c ∧ c.length ≤ b.length + 1 := by
  unfold made_Tape_Spoiled
  obtain ⟨t1, at1, e1, ht1, ha0, ha⟩ := made_Tape_Next_ok F h (n := (b.length : Int)) (by omega)
  obtain ⟨t2, v2, e2, ht2, hv0, hv⟩ := made_Tape_Next_ok F ht1 (n := 6) (by omega)
  simp (disch := omega) only [bs, ↓if_pos, ↓if_neg, List.nil_append, e1, e2]
  have hat : 0 < (b.length : Int) → at1 < b.length := fun hp => by omega
  by_cases c0 : v2 = 0
  · obtain ⟨t3, v3, e3, ht3, h30, h3⟩ := made_Tape_Next_ok F ht2 (n := (b.length : Int) + 1) (by omega)
    simp (disch := omega) only [bs, ↓if_pos, ↓if_neg, e3]
    refine ⟨t3, _, rfl, ht3, fun x hx => hb x (List.mem_of_mem_take hx), ?_⟩
    simp [takeL]; omega
  · by_cases c1 : v2 = 1
    · obtain ⟨t3, v3, e3, ht3, h30, h3⟩ := made_Tape_Next_ok F ht2 (n := 256) (by omega)
      simp (disch := omega) only [bs, ↓if_pos, ↓if_neg, e3]
      exact ⟨t3, _, rfl, ht3, hb.append (Bt.one (rng_wrap_u8 _)), by simp⟩
    · by_cases c2 : v2 = 2
      · by_cases cl : 0 < (b.length : Int)
        · have := hat cl
          simp (disch := omega) only [bs, ↓if_pos, ↓if_neg]
          rw [if_pos (by simp; omega)]
          refine ⟨t2, _, rfl, ht2, Bt.append (fun x hx => hb x (List.mem_of_mem_take hx)) (fun x hx => hb x (List.mem_of_mem_take (List.mem_of_mem_drop hx))), ?_⟩
          simp; omega
        · simp (disch := omega) only [bs, ↓if_pos, ↓if_neg]
          exact ⟨t2, _, rfl, ht2, hb, by omega⟩
      · by_cases cl : 0 < (b.length : Int)
        · have := hat cl
          obtain ⟨t3, v3, e3, ht3, h30, h3⟩ := made_Tape_Next_ok F ht2 (n := 8) (by omega)
          have hw := rng_wrap_u64 v3
          simp (disch := omega) only [bs, ↓if_pos, ↓if_neg, e3]
          refine ⟨t3, _, rfl, ht3, hb.set _ ?_, by simp [setL]⟩
          exact rng_wrap_u8 _
        · simp (disch := omega) only [bs, ↓if_pos, ↓if_neg]
          exact ⟨t2, _, rfl, ht2, hb, by omega⟩
end Go.Proofs.YtfmjokmjaghehaaGreat
