
/- Layer 5: varint, reading wide numbers; the document's wide encodings. -/
import Derived.Test.YtfmjokmjaghehaaGreatVarint3
set_option linter.unusedVariables false
set_option linter.unusedSimpArgs false
namespace Go.Proofs.YtfmjokmjaghehaaGreat
open Go.Eng
def shl7s (h : Int) : List Int → List Int
  | [] => []
  | x :: t => (x * 128 % 18446744073709551616 + h) :: shl7s (x / 144115188075855872) t
theorem shl7s_length : ∀ (l : List Int) (h : Int), (shl7s h l).length = l.length
  | [], h => rfl
  | x :: t, h => by simp [shl7s, shl7s_length t]
theorem shl7s_Wd : ∀ {l : List Int} {h : Int}, Wd l → 0 ≤ h ∧ h ≤ 127 → Wd (shl7s h l)
  | [], h, _, hh => Wd.nil
  | x :: t, h, hw, hh => by
    have := Wd.head hw
    exact Wd.cons (by omega) (shl7s_Wd (Wd.tail hw) (by omega))
theorem shl7s_wv : ∀ {l : List Int} {h : Int}, Wd l → 0 ≤ h ∧ h ≤ 127 → wv (shl7s h l) = (128 * wv l + h.toNat) % 18446744073709551616 ^ l.length
  | [], h, _, hh => by simp [shl7s, wv, Nat.mod_one]
  | x :: t, h, hw, hh => by
    have h1 := Wd.head hw
    have e := shl7s_wv (l := t) (h := x / 144115188075855872) (Wd.tail hw) (by omega)
    simp only [shl7s, wv, e, List.length_cons]
    rw [Nat.pow_succ, Nat.mul_comm (18446744073709551616 ^ t.length), Nat.mod_mul]
    have e1 : (128 * (x.toNat + 18446744073709551616 * wv t) + h.toNat) / 18446744073709551616 = 128 * wv t + (x / 144115188075855872).toNat := by omega
    rw [e1]
    congr 1
    omega
theorem shl7_word {x h : Int} (hx : 0 ≤ x ∧ x ≤ 18446744073709551615) (hh : 0 ≤ h ∧ h ≤ 127) : orI .u64 (shlI .u64 x 7) h = x * 128 % 18446744073709551616 + h := by
  rw [shlI_u64 hx.1 (by omega), show min (7 : Int).toNat 64 = 7 from rfl]
  have e : x.toNat * 2 ^ 7 % 2 ^ 64 = 2 ^ 7 * (x % 144115188075855872).toNat := by omega
  rw [e, orI_u64 (by omega) (by omega), Int.toNat_natCast, ← Nat.two_pow_add_eq_or_of_lt (by omega)]
  omega
theorem shr57 {x : Int} (hx : 0 ≤ x) : shrI .u64 x 57 = x / 144115188075855872 := by
  rw [shrI_nat hx]
  simp only [IntKind.bits]
  rw [show min (57 : Int).toNat 64 = 57 from rfl]
  omega
theorem ReadWide_shl (F : Nat) {x9 : List Int} (hw : Wd x9) (hl : x9.length = 5) :
    ∃ y : List Int, (∀ (R : Type) (k : Int → W → List Int → List Int → Int → Option R) (x1 : Int) (x4 : W) (x7 : List Int) (i : Int) (N : Nat), varint_ReadWide_l9 F k (N + 5) x1 x4 x7 x9 i 4 = k x1 x4 x7 y i) ∧ ∀ h : Int, 0 ≤ h ∧ h ≤ 127 → setL y 0 (orI .u64 (shlI .u64 (getL 0 y 0) 7) h) = shl7s h x9 := by
  obtain ⟨a, b, c, d, e, rfl⟩ := five_words hl
  have ha := hw a (by simp)
  have hb := hw b (by simp)
  have hc := hw c (by simp)
  have hd := hw d (by simp)
  have he := hw e (by simp)
  refine ⟨[a, orI .u64 (shlI .u64 b 7) (shrI .u64 a 57), orI .u64 (shlI .u64 c 7) (shrI .u64 b 57), orI .u64 (shlI .u64 d 7) (shrI .u64 c 57), orI .u64 (shlI .u64 e 7) (shrI .u64 d 57)], fun R k x1 x4 x7 i N => by kernel_rfl, ?_⟩
  intro h hh
  rw [shr57 ha.1, shr57 hb.1, shr57 hc.1, shr57 hd.1, shl7_word hb (by omega), shl7_word hc (by omega), shl7_word hd (by omega), shl7_word he (by omega)]
  simp only [getL, setL, Int.toNat_zero, List.getD_cons_zero, List.set_cons_zero, shl7s]
  rw [shl7_word ha hh]
theorem dv_drop_le (c : List Int) (m : Nat) : dv (c.drop m) ≤ dv c := by
  have := dv_append (c.take m) (c.drop m)
  rw [List.take_append_drop] at this
  have h3 : dv (c.drop m) ≤ 128 ^ (c.take m).length * dv (c.drop m) := Nat.le_mul_of_pos_left _ (Nat.pow_pos (by omega))
  omega
theorem ReadWide_loop (F : Nat) (hF : Fuel F) {x1 : Int} {x4 : W} {c : List Int} (hb : Bt c) (hl : c.length ≤ 37) :
    ∀ (m : Nat) (x9 : List Int), m ≤ c.length → Wd x9 → x9.length = 5 → wv x9 = dv (c.drop m) → ∀ N, m < N →
      ∃ y : List Int, Wd y ∧ y.length = 5 ∧ wv y = dv c ∧ ∀ (R : Type) (k : Int → W → List Int → List Int → Option R), varint_ReadWide_l6 F k N x1 x4 c x9 ((m : Int) - 1) = k x1 x4 c y := by
  have hdc : dv c < 18446744073709551616 ^ 5 := by
    have := dv_lt c
    have h2 := Nat.pow_le_pow_right (n := 128) (by omega) hl
    have : (128 : Nat) ^ 37 ≤ 18446744073709551616 ^ 5 := by decide
    omega
  intro m
  induction m with
  | zero =>
    intro x9 hm h1 h2 h3 N hN
    obtain ⟨N, rfl⟩ : ∃ M, N = M + 1 := ⟨N - 1, by omega⟩
    refine ⟨x9, h1, h2, by simpa using h3, fun R k => ?_⟩
    unfold varint_ReadWide_l6
    simp (disch := omega) only [bs, ↓if_pos, ↓if_neg]
  | succ m ih =>
    intro x9 hm h1 h2 h3 N hN
    obtain ⟨N, rfl⟩ : ∃ M, N = M + 1 := ⟨N - 1, by omega⟩
    have hsplit := split_at (l := c) (i := m) (by omega)
    have hg := getD_all (P := fun x => 0 ≤ x ∧ x ≤ 255) hb (by omega) (d := 0) m
    have e1 : dv (c.drop m) = (c.getD m 0 % 128).toNat + 128 * dv (c.drop (m + 1)) := by rw [hsplit]; rfl
    have e2 := dv_drop_le c m
    have hgl : getL 0 c ((m : Int) + 1 - 1) = c.getD m 0 := by rw [show (m : Int) + 1 - 1 = (m : Int) by omega, getL_nat]
    have hw7 := shl7s_wv (l := x9) (h := c.getD m 0 % 128) h1 (by omega)
    rw [h2, Nat.mod_eq_of_lt (by rw [h3]; omega)] at hw7
    obtain ⟨y, f1, f2, f3, f4⟩ := ih (shl7s (c.getD m 0 % 128) x9) (by omega) (shl7s_Wd h1 (by omega)) (by rw [shl7s_length, h2]) (by rw [hw7, h3, e1]; omega) N (by omega)
    refine ⟨y, f1, f2, f3, fun R k => ?_⟩
    obtain ⟨G, hG⟩ : ∃ G, F = G + 5 := ⟨F - 5, by unfold Fuel at hF; omega⟩
    unfold varint_ReadWide_l6
    have hcast : ((m + 1 : Nat) : Int) = (m : Int) + 1 := by omega
    rw [hcast]
    obtain ⟨z, g1, g2⟩ := ReadWide_shl F h1 h2
    have hle : leI 0 ((m : Int) + 1 - 1) = true := by rw [leI_true]; omega
    rw [hle, cond_true]
    have g1' := fun (k : Int → W → List Int → List Int → Int → Option R) => g1 R k x1 x4 c ((m : Int) + 1 - 1) G
    rw [← hG] at g1'
    rw [g1']
    simp (disch := omega) only [bs, ↓if_pos, ↓if_neg, hgl, wrap_u64, g2]
    rw [show (m : Int) + 1 - 1 - 1 = (m : Int) - 1 by omega]
    exact f4 R k
def shr1s : List Int → List Int
  | [] => []
  | [x] => [x / 2]
  | x :: y :: t => (x / 2 + y % 2 * 9223372036854775808) :: shr1s (y :: t)
theorem shr1s_wv : ∀ {l : List Int}, Wd l → wv (shr1s l) = wv l / 2
  | [], _ => rfl
  | [x], h => by have := Wd.head h; simp only [shr1s, wv]; omega
  | x :: y :: t, h => by
    have h1 := Wd.head h
    have h2 := Wd.head (Wd.tail h)
    have e := shr1s_wv (Wd.tail h)
    simp only [shr1s, wv] at e ⊢
    omega
theorem ReadWide_half (F : Nat) {x9 : List Int} (hw : Wd x9) (hl : x9.length = 5) :
    ∃ (ws : List Int) (e : Int), Wd ws ∧ ws.length = 4 ∧ 0 ≤ e ∧ getL 0 x9 4 = e ∧ (e ≤ 1 ↔ wv x9 < 2 * top256) ∧ (e ≤ 1 → wv ws = wv x9 / 2) ∧
      ∀ (R : Type) (k : Int → W → List Int → List Int → W → Option R) (x1 : Int) (x4 : W) (x7 : List Int) (s : Bool) (N : Nat), varint_ReadWide_l15 F k (N + 5) x1 x4 x7 x9 (s, [0, 0, 0, 0], ()) 0 = k x1 x4 x7 x9 (s, ws, ()) := by
  obtain ⟨a, b, c, d, e, rfl⟩ := five_words hl
  have ha := hw a (by simp)
  have hb := hw b (by simp)
  have hc := hw c (by simp)
  have hd := hw d (by simp)
  have he := hw e (by simp)
  refine ⟨[orI .u64 (shrI .u64 a 1) (shlI .u64 b 63), orI .u64 (shrI .u64 b 1) (shlI .u64 c 63), orI .u64 (shrI .u64 c 1) (shlI .u64 d 63), orI .u64 (shrI .u64 d 1) (shlI .u64 e 63)], e, ?_, rfl, he.1, rfl, ?_, ?_, fun R k x1 x4 x7 s N => by kernel_rfl⟩
  · rw [half_word ha hb, half_word hb hc, half_word hc hd, half_word hd he]
    intro x hx
    simp only [List.mem_cons, List.not_mem_nil, or_false] at hx
    rcases hx with h | h | h | h <;> omega
  · have : top256 = 18446744073709551616 * (18446744073709551616 * (18446744073709551616 * 18446744073709551616)) := by decide
    rw [this]
    simp only [wv]
    omega
  · intro h1
    rw [half_word ha hb, half_word hb hc, half_word hc hd, half_word hd he, ← shr1s_wv hw]
    have h0 : e / 2 = 0 := by omega
    simp only [shr1s, wv, h0]
    rfl
def rdw (b : List Int) (at_ : Int) : Int × Int × Int :=
  if (gp 37 b at_).2 = 0 then
    (if dv (gp 37 b at_).1 < 2 * top256 ∧ dv (gp 37 b at_).1 ≠ 1 then (wu (dv (gp 37 b at_).1), at_ + (gp 37 b at_).1.length, 0) else (0, 0, 5))
  else (0, 0, (gp 37 b at_).2)
theorem rdw_abs (b : List Int) (at_ : Int) : (rdw b at_).1.natAbs < top256 := by
  have h0 : (0 : Int).natAbs < top256 := by decide
  unfold rdw
  split
  · split
    · rename_i h; exact wu_abs h.1
    · exact h0
  · exact h0
theorem varint_ReadWide_eq (F : Nat) (hF : Fuel F) {b : List Int} (hb : Bt b) (hl : (b.length : Int) ≤ 140737488355328) (at_ : Int) :
    varint_ReadWide F b at_ = some (toW (rdw b at_).1, (rdw b at_).2.1, (rdw b at_).2.2, ()) := by
  unfold varint_ReadWide rdw
  rw [show (37 : Int) = ((37 : Nat) : Int) from rfl, varint_groups_eq F hF hb hl at_ (n := 37) (by omega)]
  by_cases h0 : (gp 37 b at_).2 = 0
  · obtain ⟨ha0, ha1, c, rest, h1, h2, h3, h4, h5, h6⟩ := gp_ok hb h0
    rw [h1]
    have hpos : 0 < c.length := List.length_pos_iff.2 h4.ne
    obtain ⟨G, hG⟩ : ∃ G, F = G + 5 := ⟨F - 5, by unfold Fuel at hF; omega⟩
    simp only [Option.bind_some, if_true]
    have hc0 : eqI (0 : Int) 0 = true := by rw [eqI_true]
    rw [hc0, Bool.not_true, cond_false, show subI .i64 (lenI c) 1 = (c.length : Int) - 1 by show IntKind.wrap .i64 _ = _; rw [wrap_i64 (by unfold lenI; omega)]; rfl]
    obtain ⟨y, f1, f2, f3, f4⟩ := ReadWide_loop F hF (x1 := at_) (x4 := (false, [0, 0, 0, 0], ())) h6 h3 c.length [0, 0, 0, 0, 0] (by omega) (by intro x hx; simp at hx; omega) rfl (by simp [wv, dv]) F (by unfold Fuel at hF; omega)
    rw [f4]
    obtain ⟨ws, e, g1, g2, g3, g4, g5, g6, g7⟩ := ReadWide_half F f1 f2
    have g7' := fun (R : Type) (k : Int → W → List Int → List Int → W → Option R) (x1 : Int) (x4 : W) (x7 : List Int) (s : Bool) => g7 R k x1 x4 x7 s G
    rw [← hG] at g7'
    rw [g7']
    rw [f3] at g5 g6
    have hpar : eqI (remI (getL 0 y 0) 2) 1 = decide (dv c % 2 = 1) := by
      have hy := Wd.get f1 0
      have := wv_first f1 (by omega)
      rw [f3] at this
      rw [remI_nn hy.1]
      unfold eqI
      apply decide_eq_decide.2
      omega
    rw [hpar]
    by_cases he : e ≤ 1
    · have hlt := g5.1 he
      have hwv := g6 he
      have hWk : WOk (decide (dv c % 2 = 1), ws, ()) := ⟨g1, g2⟩
      have hwi : wi (decide (dv c % 2 = 1), ws, ()) = wu (dv c) := by
        unfold wi wu
        simp only [decide_eq_true_eq, hwv]
      simp (disch := omega) only [bs, ↓if_pos, ↓if_neg, g4, wide_Valid_eq F hWk]
      have hVl : Vl (decide (dv c % 2 = 1), ws, ()) ↔ dv c ≠ 1 := by
        unfold Vl
        simp only [decide_eq_true_eq, hwv]
        omega
      by_cases h1 : dv c = 1
      · have : ¬ Vl (decide (dv c % 2 = 1), ws, ()) := fun h => hVl.1 h h1
        rw [decide_eq_false this, if_neg (show ¬ (dv c < 2 * top256 ∧ dv c ≠ 1) from fun h => h.2 h1)]
        simp (disch := omega) only [bs, ↓if_pos, ↓if_neg, toW_zero]
      · have hv : Vl (decide (dv c % 2 = 1), ws, ()) := hVl.2 h1
        rw [decide_eq_true hv, if_pos (show dv c < 2 * top256 ∧ dv c ≠ 1 from ⟨hlt, h1⟩), ← hwi, toW_wi hWk hv]
        simp (disch := omega) only [bs, ↓if_pos, ↓if_neg]
    · have hge : ¬ dv c < 2 * top256 := fun h => he (g5.2 h)
      simp (disch := omega) only [bs, ↓if_pos, ↓if_neg, g4]
      rw [toW_zero]
  · simp (disch := omega) only [bs, ↓if_pos, ↓if_neg, toW_zero]
end Go.Proofs.YtfmjokmjaghehaaGreat
