
/- Layer 17: constants; what the records of all codecs have in common. -/
import Derived.Test.YtfmjokmjaghehaaGreatResid3
import Derived.Test.YtfmjokmjaghehaaGreatEngE
set_option linter.unusedVariables false
set_option linter.unusedSimpArgs false
namespace Go.Proofs.YtfmjokmjaghehaaGreat
open Go.Eng
theorem SmpOk_of {l : List Smp} (h : wfT (.slice (.pair (.int .i64) (.pair (.int .i64) .unit))) l) : SmpOk l :=
  fun s hs => ⟨rng_i64 (h.2 s hs).1, rng_i64 (h.2 s hs).2.1⟩
def isum : List Int → Int
  | [] => 0
  | x :: t => x + isum t
def fitsB : Int → List Int → Bool
  | _, [] => true
  | left, x :: t => decide (1 ≤ x ∧ x ≤ left) && fitsB (left - x) t
theorem fitsB_cons {left x : Int} {t : List Int} : fitsB left (x :: t) = true ↔ (1 ≤ x ∧ x ≤ left) ∧ fitsB (left - x) t = true := by
  simp only [fitsB, Bool.and_eq_true, decide_eq_true_eq]
theorem fitsB_sum : ∀ {l : List Int} {left : Int}, fitsB left l = true → 0 ≤ left → (l.length : Int) ≤ isum l ∧ isum l ≤ left
  | [], left, _, h => by simp [isum]; exact h
  | x :: t, left, h, h0 => by
    obtain ⟨h1, h2⟩ := fitsB_cons.1 h
    have := fitsB_sum h2 (by omega)
    simp only [isum, List.length_cons]
    omega
def lss : List Int → List Int
  | [] => []
  | x :: t => (x - 1) :: lss t
theorem lss_length : ∀ l : List Int, (lss l).length = l.length
  | [] => rfl
  | x :: t => by simp [lss, lss_length t]
theorem fitsB_le : ∀ {l : List Int} {left : Int}, fitsB left l = true → ∀ x ∈ l, 1 ≤ x ∧ x ≤ left
  | [], _, _, _, hx => by cases hx
  | y :: t, left, h, x, hx => by
    obtain ⟨h1, h2⟩ := fitsB_cons.1 h
    rcases List.mem_cons.1 hx with e | e
    · subst e; exact h1
    · have := fitsB_le h2 x e
      omega
theorem lss_mem : ∀ {l : List Int} {x : Int}, x ∈ lss l → x + 1 ∈ l
  | [], _, h => by cases h
  | y :: t, x, h => by
    rcases List.mem_cons.1 h with e | e
    · subst e; simp
    · exact List.mem_cons_of_mem _ (lss_mem e)
theorem lss_Wd {l : List Int} {left : Int} (h : fitsB left l = true) (hl : left ≤ 4096) : Wd (lss l) := fun x hx => by
  have := fitsB_le h _ (lss_mem hx)
  omega
theorem isum_append : ∀ a b : List Int, isum (a ++ b) = isum a + isum b
  | [], b => by simp [isum]
  | x :: t, b => by simp only [List.cons_append, isum, isum_append t b]; omega
theorem Sum_loop (F : Nat) {R : Type} (k kr : Int → Option R) {c : List Int} (hc : Sg c) (hb : (c.length : Int) ≤ 140737488355328) : ∀ (m i : Nat) (s : Int), i + m = c.length → 0 ≤ s ∧ s ≤ 4096 → ∀ N, m < N →
    records_Sum_l3 F k kr N 4096 s c (c.length : Int) (i : Int) = if fitsB (4096 - s) (c.drop i) = true then k (s + isum (c.drop i)) else kr 4097 := by
  intro m
  induction m with
  | zero =>
    intro i s hi hs N hN
    obtain ⟨N, rfl⟩ : ∃ M, N = M + 1 := ⟨N - 1, by omega⟩
    rw [List.drop_eq_nil_of_le (by omega), if_pos (show fitsB _ [] = true from rfl)]
    unfold records_Sum_l3
    simp (disch := omega) only [bs, ↓if_pos, ↓if_neg]
    simp [isum]
  | succ m ih =>
    intro i s hi hs N hN
    obtain ⟨N, rfl⟩ : ∃ M, N = M + 1 := ⟨N - 1, by omega⟩
    rw [getL_Sg_split (show i < c.length by omega)]
    have hx := hc.get (i : Int)
    generalize hg : getL 0 c (i : Int) = x at *
    unfold I64 at hx
    unfold records_Sum_l3
    by_cases c1 : x < 1
    · rw [if_neg (by rw [fitsB_cons]; omega)]
      simp (disch := omega) only [bs, ↓if_pos, ↓if_neg, hg]
      rfl
    · by_cases c2 : 4096 - s < x
      · rw [if_neg (by rw [fitsB_cons]; omega)]
        simp (disch := omega) only [bs, ↓if_pos, ↓if_neg, hg]
        rfl
      · have e := ih (i + 1) (s + x) (by omega) (by omega) N (by omega)
        simp only [Int.natCast_add, Int.natCast_one] at e
        rw [show 4096 - (s + x) = 4096 - s - x by omega] at e
        have hf : fitsB (4096 - s) (x :: c.drop (i + 1)) = fitsB (4096 - s - x) (c.drop (i + 1)) := by
          have : decide (1 ≤ x ∧ x ≤ 4096 - s) = true := decide_eq_true (by omega)
          simp only [fitsB, this, Bool.true_and]
        rw [hf, isum, ← Int.add_assoc, ← e]
        simp (disch := omega) only [bs, ↓if_pos, ↓if_neg, hg]
theorem records_Sum_eq (F : Nat) (hF : Fuel F) {c : List Int} (hc : Sg c) (hb : (c.length : Int) ≤ 140737488355328) : ∃ r, records_Sum F c 4096 = some (r, ()) ∧ (ltI 4096 r = !fitsB 4096 c) := by
  have e := Sum_loop F (fun z11 => some (z11, ())) (fun z12 => some (z12, ())) hc hb c.length 0 0 (by omega) (by omega) F (by unfold Fuel at hF; omega)
  rw [List.drop_zero, Int.zero_add, Int.sub_zero] at e
  by_cases h : fitsB 4096 c = true
  · rw [if_pos h] at e
    refine ⟨_, e, ?_⟩
    have := fitsB_sum h (by omega)
    rw [h, Bool.not_true, ← Bool.not_eq_true, ltI_true]
    omega
  · rw [if_neg h] at e
    refine ⟨_, e, ?_⟩
    rw [Bool.not_eq_true] at h
    rw [h]
    rfl
theorem rCounts_loop (F : Nat) {R : Type} (k : Option R) (kr : Int → Option R) {c : List Int} (hc : Sg c) (hb : (c.length : Int) ≤ 140737488355328) : ∀ (m i : Nat) (left : Int), i + m = c.length → 0 ≤ left ∧ left ≤ 4096 → ∀ N, m < N →
    ref17_Counts_l5 F k kr N c left (i : Int) = if fitsB left (c.drop i) = true then k else kr 10 := by
  intro m
  induction m with
  | zero =>
    intro i s hi hs N hN
    obtain ⟨N, rfl⟩ : ∃ M, N = M + 1 := ⟨N - 1, by omega⟩
    rw [List.drop_eq_nil_of_le (by omega), if_pos (show fitsB _ [] = true from rfl)]
    unfold ref17_Counts_l5
    simp (disch := omega) only [bs, ↓if_pos, ↓if_neg]
  | succ m ih =>
    intro i s hi hs N hN
    obtain ⟨N, rfl⟩ : ∃ M, N = M + 1 := ⟨N - 1, by omega⟩
    rw [getL_Sg_split (show i < c.length by omega)]
    have hx := hc.get (i : Int)
    generalize hg : getL 0 c (i : Int) = x at *
    unfold I64 at hx
    unfold ref17_Counts_l5
    by_cases c1 : x < 1
    · rw [if_neg (by rw [fitsB_cons]; omega)]
      simp (disch := omega) only [bs, ↓if_pos, ↓if_neg, hg]
    · by_cases c2 : s < x
      · rw [if_neg (by rw [fitsB_cons]; omega)]
        simp (disch := omega) only [bs, ↓if_pos, ↓if_neg, hg]
      · have e := ih (i + 1) (s - x) (by omega) (by omega) N (by omega)
        simp only [Int.natCast_add, Int.natCast_one] at e
        have hf : fitsB s (x :: c.drop (i + 1)) = fitsB (s - x) (c.drop (i + 1)) := by
          have : decide (1 ≤ x ∧ x ≤ s) = true := decide_eq_true (by omega)
          simp only [fitsB, this, Bool.true_and]
        rw [hf, ← e]
        simp (disch := omega) only [bs, ↓if_pos, ↓if_neg, hg]
theorem ref17_Counts_eq (F : Nat) (hF : Fuel F) {c : List Int} (hc : Sg c) (hb : (c.length : Int) ≤ 140737488355328) : ref17_Counts F c = some (if 4096 < c.length then 3 else if fitsB 4096 c = true then 0 else 10, ()) := by
  unfold ref17_Counts
  by_cases h : 4096 < c.length
  · rw [if_pos h]
    simp (disch := omega) only [bs, ↓if_pos, ↓if_neg]
  · rw [if_neg h]
    have x1 : ltI 4096 (lenI c) = false := by rw [← Bool.not_eq_true, ltI_true]; unfold lenI; omega
    rw [x1, cond_false]
    refine (rCounts_loop F _ _ hc hb c.length 0 4096 (by omega) (by omega) F (by unfold Fuel at hF; omega)).trans ?_
    rw [List.drop_zero]
    split <;> rfl
theorem AppendCounts_loop (F : Nat) {R : Type} (k : List Int → List Int → Option R) (b : List Int) {src : List Int} (hs : ∀ x ∈ src, 1 ≤ x ∧ x ≤ 4096) (hb : (src.length : Int) ≤ 140737488355328) : ∀ (rest pre out z : List Int), src = pre ++ rest → out.length = pre.length → z.length = rest.length → ∀ N, rest.length < N →
    records_AppendCounts_l3 F k N b (out ++ z) src (src.length : Int) (pre.length : Int) = k b (out ++ lss rest) := by
  intro rest
  induction rest with
  | nil =>
    intro pre out z he ho hz N hN
    obtain ⟨N, rfl⟩ : ∃ M, N = M + 1 := ⟨N - 1, by omega⟩
    have : z = [] := List.length_eq_zero_iff.1 hz
    subst this
    have hlen : src.length = pre.length := by rw [he]; simp
    unfold records_AppendCounts_l3
    simp (disch := omega) only [bs, ↓if_pos, ↓if_neg]
    rfl
  | cons x rest ih =>
    intro pre out z he ho hz N hN
    obtain ⟨N, rfl⟩ : ∃ M, N = M + 1 := ⟨N - 1, by omega⟩
    obtain ⟨y, z', rfl⟩ : ∃ y z', z = y :: z' := by
      cases z with
      | nil => simp at hz
      | cons y z' => exact ⟨y, z', rfl⟩
    simp only [List.length_cons] at hN hz
    have hlen : src.length = pre.length + 1 + rest.length := by rw [he]; simp; omega
    have g : getL 0 src (pre.length : Int) = x := by rw [he]; exact get_mid pre x rest
    have hx := hs x (by rw [he]; simp)
    have hw : IntKind.u64.wrap (x - 1) = x - 1 := wrap_u64 (by omega)
    have st : setL (out ++ y :: z') (pre.length : Int) (x - 1) = (out ++ [x - 1]) ++ z' := by rw [← ho]; exact set_mid out y _ z'
    have hol : (out ++ y :: z').length = pre.length + 1 + z'.length := by simp; omega
    have e := ih (pre ++ [x]) (out ++ [x - 1]) z' (by rw [he]; simp) (by simp [ho]) (by omega) N (by omega)
    have hpl : (((pre ++ [x]).length : Nat) : Int) = (pre.length : Int) + 1 := by simp
    rw [hpl] at e
    have hz2 : out ++ [x - 1] ++ lss rest = out ++ lss (x :: rest) := by simp [lss]
    rw [hz2] at e
    unfold records_AppendCounts_l3
    simp (disch := omega) only [bs, ↓if_pos, ↓if_neg, g, hw, st]
    exact e
theorem AppendCounts_eq (F : Nat) (hF : Fuel F) {b c : List Int} (hbl : b.length ≤ 1000000) (hf : fitsB 4096 c = true) (hn : c.length ≤ 4096) : records_AppendCounts F b c = some (b ++ nE (lss c), 0, ()) := by
  unfold records_AppendCounts
  have x1 : makeB (lenI c) (lenI c) 8 = true := by rw [makeB_true]; unfold lenI; omega
  have hw := lss_Wd hf (by omega)
  have e1 := numbers_Encode_eq F hF hw (by rw [lss_length]; omega)
  have hs := nE_small hw (by rw [lss_length]; omega)
  have r : roomB (b.length + (nE (lss c)).length) 1 = true := by rw [roomB_true]; omega
  rw [x1, cond_true]
  refine (AppendCounts_loop F _ b (fitsB_le hf) (by omega) c [] [] (replI (lenI c) 0) rfl rfl (by unfold lenI; rw [replI_length]) F (by unfold Fuel at hF; omega)).trans ?_
  simp only [List.nil_append, e1, Option.bind_some, show eqI (0 : Int) 0 = true from rfl, Bool.not_true, cond_false, r, cond_true]
theorem Less_loop (F : Nat) {R : Type} (k : List Int → Option R) {src : List Int} (hs : ∀ x ∈ src, 1 ≤ x ∧ x ≤ 4096) (hb : src.length ≤ 100000) : ∀ (rest pre out : List Int), src = pre ++ rest → out.length = pre.length → ∀ N, rest.length < N →
    ref17_Less_l3 F k N src out (pre.length : Int) = k (out ++ lss rest) := by
  intro rest
  induction rest with
  | nil =>
    intro pre out he ho N hN
    obtain ⟨N, rfl⟩ : ∃ M, N = M + 1 := ⟨N - 1, by omega⟩
    have hlen : src.length = pre.length := by rw [he]; simp
    unfold ref17_Less_l3
    simp (disch := omega) only [bs, ↓if_pos, ↓if_neg]
    simp [lss]
  | cons x rest ih =>
    intro pre out he ho N hN
    obtain ⟨N, rfl⟩ : ∃ M, N = M + 1 := ⟨N - 1, by omega⟩
    simp only [List.length_cons] at hN
    have hlen : src.length = pre.length + 1 + rest.length := by rw [he]; simp; omega
    have g : getL 0 src (pre.length : Int) = x := by rw [he]; exact get_mid pre x rest
    have hx := hs x (by rw [he]; simp)
    have hw : IntKind.u64.wrap (x - 1) = x - 1 := wrap_u64 (by omega)
    have e := ih (pre ++ [x]) (out ++ [x - 1]) (by rw [he]; simp) (by simp [ho]) N (by omega)
    have hpl : (((pre ++ [x]).length : Nat) : Int) = (pre.length : Int) + 1 := by simp
    rw [hpl] at e
    have hz2 : out ++ [x - 1] ++ lss rest = out ++ lss (x :: rest) := by simp [lss]
    rw [hz2] at e
    unfold ref17_Less_l3
    simp (disch := omega) only [bs, ↓if_pos, ↓if_neg, g, hw]
    exact e
def hd (c v : List Int) : List Int := enc c.length ++ nE (lss c) ++ rE v
theorem ref17_Head_eq (F : Nat) (hF : Fuel F) {c v : List Int} (hf : fitsB 4096 c = true) (hn : c.length ≤ 4096) (hv : Sg v) (hvl : v.length ≤ 65536) : ref17_Head F c v = some (hd c v, ()) := by
  have hw := lss_Wd hf (by omega)
  have e1 : ref17_Less F c = some (lss c, ()) := by
    unfold ref17_Less
    exact Less_loop F _ (fitsB_le hf) (by omega) c [] [] rfl rfl F (by unfold Fuel at hF; omega)
  have e2 := ref09_Encode_eq F hF hw (by rw [lss_length]; omega)
  have e3 := ref11_Encode_eq F hF hv (by omega)
  rw [rEe_ok hvl] at e3
  have hs := nE_small hw (by rw [lss_length]; omega)
  obtain ⟨s1, s2, s3⟩ := rE_small hv hvl
  have hw2 : IntKind.u64.wrap (lenI c) = (c.length : Int) := by unfold lenI; exact wrap_u64 (by omega)
  have e4 := ref05_Append_eq F hF (b := []) (by simp [Room]) (v := c.length) (by omega)
  rw [List.nil_append] at e4
  have h10 := enc_le10 (v := c.length) (by omega)
  unfold ref17_Head hd
  simp only [e1, e2, e3, hw2, e4, Option.bind_some]
  have r1 : roomB ((enc c.length).length + (nE (lss c)).length) 1 = true := by rw [roomB_true]; omega
  have r2 : roomB ((enc c.length ++ nE (lss c)).length + (rE v).length) 1 = true := by rw [roomB_true, List.length_append]; omega
  simp only [r1, r2, cond_true]
theorem hd_small {c v : List Int} (hf : fitsB 4096 c = true) (hn : c.length ≤ 4096) (hv : Sg v) (hvl : v.length ≤ 65536) : (hd c v).length ≤ 1048700 ∧ Bt (hd c v) := by
  have hw := lss_Wd hf (by omega)
  have hs := nE_small hw (by rw [lss_length]; omega)
  obtain ⟨s1, s2, s3⟩ := rE_small hv hvl
  have h10 := enc_le10 (v := c.length) (by omega)
  unfold hd
  refine ⟨by simp only [List.length_append]; omega, Bt.append (Bt.append (enc_bt _) (nE_bt hw)) s3⟩
/- reading -/
end Go.Proofs.YtfmjokmjaghehaaGreat
