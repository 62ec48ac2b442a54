
/- Layer 17: constants; what the records of all codecs have in common. -/
import Derived.Test.YtfmjokmjaghehaaGreatResid3
import Derived.Test.YtfmjokmjaghehaaGreatEngE
set_option linter.unusedVariables false
set_option linter.unusedSimpArgs false
namespace Go.Proofs.YtfmjokmjaghehaaGreat
open Go.Eng
theorem SmpOk_of {l : List Smp} (h : wfT (.slice (.pair (.int .i64) (.pair (.int .i64) .unit))) l) : SmpOk l :=
  fun s hs => ⟨rng_i64 (h.2 s hs).1, rng_i64 (h.2 s hs).2.1⟩
def isum : List Int → Int
  | [] => 0
  | x :: t => x + isum t
def fitsB : Int → List Int → Bool
  | _, [] => true
  | left, x :: t => decide (1 ≤ x ∧ x ≤ left) && fitsB (left - x) t
theorem fitsB_cons {left x : Int} {t : List Int} : fitsB left (x :: t) = true ↔ (1 ≤ x ∧ x ≤ left) ∧ fitsB (left - x) t = true := by
  simp only [fitsB, Bool.and_eq_true, decide_eq_true_eq]
theorem fitsB_sum : ∀ {l : List Int} {left : Int}, fitsB left l = true → 0 ≤ left → (l.length : Int) ≤ isum l ∧ isum l ≤ left
  | [], left, _, h => by simp [isum]; exact h
  | x :: t, left, h, h0 => by
    obtain ⟨h1, h2⟩ := fitsB_cons.1 h
    have := fitsB_sum h2 (by omega)
    simp only [isum, List.length_cons]
    omega
theorem fitsB_mono : ∀ {l : List Int} {a b : Int}, fitsB a l = true → a ≤ b → fitsB b l = true
  | [], _, _, _, _ => rfl
  | x :: t, a, b, h, hab => by
    obtain ⟨h1, h2⟩ := fitsB_cons.1 h
    exact fitsB_cons.2 ⟨by omega, fitsB_mono h2 (by omega)⟩
def lss : List Int → List Int
  | [] => []
  | x :: t => (x - 1) :: lss t
def mre : List Int → List Int
  | [] => []
  | x :: t => (x + 1) :: mre t
theorem lss_length : ∀ l : List Int, (lss l).length = l.length
  | [] => rfl
  | x :: t => by simp [lss, lss_length t]
theorem mre_length : ∀ l : List Int, (mre l).length = l.length
  | [] => rfl
  | x :: t => by simp [mre, mre_length t]
theorem lss_mre : ∀ l : List Int, lss (mre l) = l
  | [] => rfl
  | x :: t => by simp only [lss, mre, lss_mre t]; congr 1; omega
theorem fitsB_le : ∀ {l : List Int} {left : Int}, fitsB left l = true → ∀ x ∈ l, 1 ≤ x ∧ x ≤ left
  | [], _, _, _, hx => by cases hx
  | y :: t, left, h, x, hx => by
    obtain ⟨h1, h2⟩ := fitsB_cons.1 h
    rcases List.mem_cons.1 hx with e | e
    · subst e; exact h1
    · have := fitsB_le h2 x e
      omega
theorem lss_mem : ∀ {l : List Int} {x : Int}, x ∈ lss l → x + 1 ∈ l
  | [], _, h => by cases h
  | y :: t, x, h => by
    rcases List.mem_cons.1 h with e | e
    · subst e; simp
    · exact List.mem_cons_of_mem _ (lss_mem e)
theorem lss_Wd {l : List Int} {left : Int} (h : fitsB left l = true) (hl : left ≤ 4096) : Wd (lss l) := fun x hx => by
  have := fitsB_le h _ (lss_mem hx)
  omega
theorem isum_append : ∀ a b : List Int, isum (a ++ b) = isum a + isum b
  | [], b => by simp [isum]
  | x :: t, b => by simp only [List.cons_append, isum, isum_append t b]; omega
theorem Sum_loop (F : Nat) {R : Type} (k kr : Int → Option R) {c : List Int} (hc : Sg c) (hb : (c.length : Int) ≤ 140737488355328) : ∀ (m i : Nat) (s : Int), i + m = c.length → 0 ≤ s ∧ s ≤ 4096 → ∀ N, m < N →
    records_Sum_l3 F k kr N 4096 s c (c.length : Int) (i : Int) = if fitsB (4096 - s) (c.drop i) = true then k (s + isum (c.drop i)) else kr 4097 := by
  intro m
  induction m with
  | zero =>
    intro i s hi hs N hN
    obtain ⟨N, rfl⟩ : ∃ M, N = M + 1 := ⟨N - 1, by omega⟩
    rw [List.drop_eq_nil_of_le (by omega), if_pos (show fitsB _ [] = true from rfl)]
    unfold records_Sum_l3
    simp (disch := omega) only [bs, ↓if_pos, ↓if_neg]
    simp [isum]
  | succ m ih =>
    intro i s hi hs N hN
    obtain ⟨N, rfl⟩ : ∃ M, N = M + 1 := ⟨N - 1, by omega⟩
    rw [getL_Sg_split (show i < c.length by omega)]
    have hx := hc.get (i : Int)
    generalize hg : getL 0 c (i : Int) = x at *
    unfold I64 at hx
    unfold records_Sum_l3
    by_cases c1 : x < 1
    · rw [if_neg (by rw [fitsB_cons]; omega)]
      simp (disch := omega) only [bs, ↓if_pos, ↓if_neg, hg]
      rfl
    · by_cases c2 : 4096 - s < x
      · rw [if_neg (by rw [fitsB_cons]; omega)]
        simp (disch := omega) only [bs, ↓if_pos, ↓if_neg, hg]
        rfl
      · have e := ih (i + 1) (s + x) (by omega) (by omega) N (by omega)
        simp only [Int.natCast_add, Int.natCast_one] at e
        rw [show 4096 - (s + x) = 4096 - s - x by omega] at e
        have hf : fitsB (4096 - s) (x :: c.drop (i + 1)) = fitsB (4096 - s - x) (c.drop (i + 1)) := by
          have : decide (1 ≤ x ∧ x ≤ 4096 - s) = true := decide_eq_true (by omega)
          simp only [fitsB, this, Bool.true_and]
        rw [hf, isum, ← Int.add_assoc, ← e]
        simp (disch := omega) only [bs, ↓if_pos, ↓if_neg, hg]
theorem records_Sum_eq (F : Nat) (hF : Fuel F) {c : List Int} (hc : Sg c) (hb : (c.length : Int) ≤ 140737488355328) : ∃ r, records_Sum F c 4096 = some (r, ()) ∧ (ltI 4096 r = !fitsB 4096 c) := by
  have e := Sum_loop F (fun z11 => some (z11, ())) (fun z12 => some (z12, ())) hc hb c.length 0 0 (by omega) (by omega) F (by unfold Fuel at hF; omega)
  rw [List.drop_zero, Int.zero_add, Int.sub_zero] at e
  by_cases h : fitsB 4096 c = true
  · rw [if_pos h] at e
    refine ⟨_, e, ?_⟩
    have := fitsB_sum h (by omega)
    rw [h, Bool.not_true, ← Bool.not_eq_true, ltI_true]
    omega
  · rw [if_neg h] at e
    refine ⟨_, e, ?_⟩
    rw [Bool.not_eq_true] at h
    rw [h]
    rfl
theorem AppendCounts_loop (F : Nat) {R : Type} (k : List Int → List Int → Option R) (b : List Int) {src : List Int} (hs : ∀ x ∈ src, 1 ≤ x ∧ x ≤ 4096) (hb : (src.length : Int) ≤ 140737488355328) : ∀ (rest pre out z : List Int), src = pre ++ rest → out.length = pre.length → z.length = rest.length → ∀ N, rest.length < N →
    records_AppendCounts_l3 F k N b (out ++ z) src (src.length : Int) (pre.length : Int) = k b (out ++ lss rest) := by
  intro rest
  induction rest with
  | nil =>
    intro pre out z he ho hz N hN
    obtain ⟨N, rfl⟩ : ∃ M, N = M + 1 := ⟨N - 1, by omega⟩
    have : z = [] := List.length_eq_zero_iff.1 hz
    subst this
    have hlen : src.length = pre.length := by rw [he]; simp
    unfold records_AppendCounts_l3
    simp (disch := omega) only [bs, ↓if_pos, ↓if_neg]
    rfl
  | cons x rest ih =>
    intro pre out z he ho hz N hN
    obtain ⟨N, rfl⟩ : ∃ M, N = M + 1 := ⟨N - 1, by omega⟩
    obtain ⟨y, z', rfl⟩ : ∃ y z', z = y :: z' := by
      cases z with
      | nil => simp at hz
      | cons y z' => exact ⟨y, z', rfl⟩
    simp only [List.length_cons] at hN hz
    have hlen : src.length = pre.length + 1 + rest.length := by rw [he]; simp; omega
    have g : getL 0 src (pre.length : Int) = x := by rw [he]; exact get_mid pre x rest
    have hx := hs x (by rw [he]; simp)
    have hw : IntKind.u64.wrap (x - 1) = x - 1 := wrap_u64 (by omega)
    have st : setL (out ++ y :: z') (pre.length : Int) (x - 1) = (out ++ [x - 1]) ++ z' := by rw [← ho]; exact set_mid out y _ z'
    have hol : (out ++ y :: z').length = pre.length + 1 + z'.length := by simp; omega
    have e := ih (pre ++ [x]) (out ++ [x - 1]) z' (by rw [he]; simp) (by simp [ho]) (by omega) N (by omega)
    have hpl : (((pre ++ [x]).length : Nat) : Int) = (pre.length : Int) + 1 := by simp
    rw [hpl] at e
    have hz2 : out ++ [x - 1] ++ lss rest = out ++ lss (x :: rest) := by simp [lss]
    rw [hz2] at e
    unfold records_AppendCounts_l3
    simp (disch := omega) only [bs, ↓if_pos, ↓if_neg, g, hw, st]
    exact e
theorem AppendCounts_eq (F : Nat) (hF : Fuel F) {b c : List Int} (hbl : b.length ≤ 1000000) (hf : fitsB 4096 c = true) (hn : c.length ≤ 4096) : records_AppendCounts F b c = some (b ++ nE (lss c), 0, ()) := by
  unfold records_AppendCounts
  have x1 : makeB (lenI c) (lenI c) 8 = true := by rw [makeB_true]; unfold lenI; omega
  have hw := lss_Wd hf (by omega)
  have e1 := numbers_Encode_eq F hF hw (by rw [lss_length]; omega)
  have hs := nE_small hw (by rw [lss_length]; omega)
  have r : roomB (b.length + (nE (lss c)).length) 1 = true := by rw [roomB_true]; omega
  rw [x1, cond_true]
  refine (AppendCounts_loop F _ b (fitsB_le hf) (by omega) c [] [] (replI (lenI c) 0) rfl rfl (by unfold lenI; rw [replI_length]) F (by unfold Fuel at hF; omega)).trans ?_
  simp only [List.nil_append, e1, Option.bind_some, show eqI (0 : Int) 0 = true from rfl, Bool.not_true, cond_false, r, cond_true]
def hd (c v : List Int) : List Int := enc c.length ++ nE (lss c) ++ rE v
/- segments -/
def cn (l : List Smp) : List Int := l.map (·.1)
def vl (l : List Smp) : List Int := l.map (·.2.1)
theorem hd_small {c v : List Int} (hf : fitsB 4096 c = true) (hn : c.length ≤ 4096) (hv : Sg v) (hvl : v.length ≤ 65536) : (hd c v).length ≤ 1048700 ∧ Bt (hd c v) := by
  have hw := lss_Wd hf (by omega)
  have hs := nE_small hw (by rw [lss_length]; omega)
  obtain ⟨s1, s2, s3⟩ := rE_small hv hvl
  have h10 := enc_le10 (v := c.length) (by omega)
  unfold hd
  refine ⟨by simp only [List.length_append]; omega, Bt.append (Bt.append (enc_bt _) (nE_bt hw)) s3⟩
/- reading -/
def runB : Int → List Int → Bool
  | left, [] => decide (left = 0)
  | left, x :: t => decide (x < left) && runB (left - (x + 1)) t
theorem runB_cons {left x : Int} {t : List Int} : runB left (x :: t) = true ↔ x < left ∧ runB (left - (x + 1)) t = true := by
  simp only [runB, Bool.and_eq_true, decide_eq_true_eq]
theorem runB_fits : ∀ {l : List Int} {left : Int}, Wd l → runB left l = true → 0 ≤ left → fitsB left (mre l) = true ∧ isum (mre l) = left ∧ (l.length : Int) ≤ left
  | [], left, _, h, h0 => by
    simp only [runB, decide_eq_true_eq] at h
    subst h
    exact ⟨rfl, rfl, by simp⟩
  | x :: t, left, hw, h, h0 => by
    obtain ⟨h1, h2⟩ := runB_cons.1 h
    have hx := Wd.head hw
    obtain ⟨i1, i2, i3⟩ := runB_fits (Wd.tail hw) h2 (by omega)
    refine ⟨fitsB_cons.2 ⟨by omega, i1⟩, ?_, ?_⟩
    · simp only [mre, isum]; omega
    · simp only [List.length_cons]; omega
def sat (T : Int) : Int → List Int → Int
  | s, [] => s
  | s, x :: t => sat T (min (s + (min x T + 1)) (T + 1)) t
theorem sat_top {T : Int} (hT : 0 ≤ T) : ∀ (l : List Int), Wd l → sat T (T + 1) l = T + 1
  | [], _ => rfl
  | x :: t, hw => by
    have hx := Wd.head hw
    rw [sat, show min (T + 1 + (min x T + 1)) (T + 1) = T + 1 by omega]
    exact sat_top hT t (Wd.tail hw)
theorem sat_run {T : Int} (hT : 0 ≤ T) : ∀ (l : List Int) (s : Int), Wd l → 0 ≤ s → s ≤ T → (sat T s l = T ↔ runB (T - s) l = true)
  | [], s, _, h0, h1 => by
    simp only [sat, runB, decide_eq_true_eq]
    omega
  | x :: t, s, hw, h0, h1 => by
    have hx := Wd.head hw
    rw [sat, runB_cons]
    by_cases c : x < T - s
    · rw [show min (s + (min x T + 1)) (T + 1) = s + (x + 1) by omega, sat_run hT t (s + (x + 1)) (Wd.tail hw) (by omega) (by omega), show T - (s + (x + 1)) = T - s - (x + 1) by omega]
      simp [c]
    · rw [show min (s + (min x T + 1)) (T + 1) = T + 1 by omega, sat_top hT t (Wd.tail hw)]
      constructor
      · intro h; omega
      · intro h; exact absurd h.1 c
def mrm (T : Int) : List Int → List Int
  | [] => []
  | x :: t => (min x T + 1) :: mrm T t
theorem mrm_run {T : Int} : ∀ {l : List Int} {left : Int}, Wd l → runB left l = true → left ≤ T → mrm T l = mre l
  | [], _, _, _, _ => rfl
  | x :: t, left, hw, h, hl => by
    obtain ⟨h1, h2⟩ := runB_cons.1 h
    have hx := Wd.head hw
    rw [mrm, mre, mrm_run (Wd.tail hw) h2 (by omega), show min x T = x by omega]
theorem Counts_loop (F : Nat) {R : Type} (k : Int → List Int → Int → Option R) {T : Int} (hT : 0 ≤ T ∧ T ≤ 4096) (end_ : Int) {src : List Int} (hs : Wd src) (hb : src.length ≤ 100000) : ∀ (rest pre out z : List Int) (s : Int), src = pre ++ rest → out.length = pre.length → z.length = rest.length → 0 ≤ s ∧ s ≤ T + 1 → ∀ N, rest.length < N →
    records_Counts_l7 F k N T end_ (out ++ z) s src (src.length : Int) (pre.length : Int) = k end_ (out ++ mrm T rest) (sat T s rest) := by
  have hwT : IntKind.u64.wrap T = T := wrap_u64 (by omega)
  intro rest
  induction rest with
  | nil =>
    intro pre out z s he ho hz hs N hN
    obtain ⟨N, rfl⟩ : ∃ M, N = M + 1 := ⟨N - 1, by omega⟩
    have : z = [] := List.length_eq_zero_iff.1 hz
    subst this
    have hlen : src.length = pre.length := by rw [he]; simp
    unfold records_Counts_l7
    simp (disch := omega) only [bs, ↓if_pos, ↓if_neg]
    rfl
  | cons x rest ih =>
    intro pre out z s he ho hz hss N hN
    obtain ⟨N, rfl⟩ : ∃ M, N = M + 1 := ⟨N - 1, by omega⟩
    obtain ⟨y, z', rfl⟩ : ∃ y z', z = y :: z' := by
      cases z with
      | nil => simp at hz
      | cons y z' => exact ⟨y, z', rfl⟩
    simp only [List.length_cons] at hN hz
    have hlen : src.length = pre.length + 1 + rest.length := by rw [he]; simp; omega
    have g : getL 0 src (pre.length : Int) = x := by rw [he]; exact get_mid pre x rest
    have hx : 0 ≤ x ∧ x ≤ 18446744073709551615 := hs x (by rw [he]; simp)
    have st : setL (out ++ y :: z') (pre.length : Int) (min x T + 1) = (out ++ [min x T + 1]) ++ z' := by rw [← ho]; exact set_mid out y _ z'
    have gs : getL 0 ((out ++ [min x T + 1]) ++ z') (pre.length : Int) = min x T + 1 := by rw [← ho, List.append_assoc]; exact get_mid out _ z'
    have hol : (out ++ y :: z').length = pre.length + 1 + z'.length := by simp; omega
    have hol2 : (out ++ [min x T + 1] ++ z').length = pre.length + 1 + z'.length := by simp; omega
    have e := ih (pre ++ [x]) (out ++ [min x T + 1]) z' (min (s + (min x T + 1)) (T + 1)) (by rw [he]; simp) (by simp [ho]) (by omega) (by omega) N (by omega)
    have hpl : (((pre ++ [x]).length : Nat) : Int) = (pre.length : Int) + 1 := by simp
    rw [hpl] at e
    have hz2 : out ++ [min x T + 1] ++ mrm T rest = out ++ mrm T (x :: rest) := by simp [mrm]
    rw [hz2] at e
    have hwm : IntKind.i64.wrap (min x T) = min x T := wrap_i64 (by omega)
    have y1 : addI .i64 (IntKind.wrap .i64 (minI x (IntKind.wrap .u64 T))) 1 = min x T + 1 := by rw [hwT, minI_eq, hwm, addI_i64 (by omega)]
    have y2 : minI (addI .i64 s (min x T + 1)) (addI .i64 T 1) = min (s + (min x T + 1)) (T + 1) := by rw [minI_eq, addI_i64 (by omega), addI_i64 (by omega)]
    have x1 : ltI (pre.length : Int) (src.length : Int) = true := by rw [ltI_true]; omega
    have x2 : inI (pre.length : Int) src.length = true := by rw [inI_true]; omega
    have x3 : inI (pre.length : Int) (out ++ y :: z').length = true := by rw [inI_true]; omega
    have x4 : inI (pre.length : Int) (out ++ [min x T + 1] ++ z').length = true := by rw [inI_true]; omega
    have xa : addI .i64 (pre.length : Int) 1 = (pre.length : Int) + 1 := addI_i64 (by omega)
    unfold records_Counts_l7
    simp only [x1, x2, x3, cond_true, g, y1, st, x4, gs, y2, xa]
    exact e
theorem rHead_loop (F : Nat) {R : Type} (k : Int → List Int → List Int → Int → Option R) (kr : List Int → List Int → Int → Int → Option R) (end_ : Int) (v : List Int) {src : List Int} (hs : Wd src) (hb : src.length ≤ 100000) : ∀ (rest pre out : List Int) (left : Int), src = pre ++ rest → out.length = pre.length → 0 ≤ left ∧ left ≤ 4096 → ∀ N, rest.length < N →
    (runB left rest = true → ref17_ReadHead_l17 F k kr N end_ src v out left (pre.length : Int) = k end_ v (out ++ mre rest) 0) ∧
    (runB left rest = false → (∃ out' left', left' ≠ 0 ∧ ref17_ReadHead_l17 F k kr N end_ src v out left (pre.length : Int) = k end_ v out' left') ∨ ref17_ReadHead_l17 F k kr N end_ src v out left (pre.length : Int) = kr [] [] 0 10) := by
  intro rest
  induction rest with
  | nil =>
    intro pre out left he ho hl N hN
    obtain ⟨N, rfl⟩ : ∃ M, N = M + 1 := ⟨N - 1, by omega⟩
    have hlen : src.length = pre.length := by rw [he]; simp
    have e : ref17_ReadHead_l17 F k kr (N + 1) end_ src v out left (pre.length : Int) = k end_ v out left := by
      unfold ref17_ReadHead_l17
      simp (disch := omega) only [bs, ↓if_pos, ↓if_neg]
    rw [e]
    refine ⟨fun h => ?_, fun h => ?_⟩
    · simp only [runB, decide_eq_true_eq] at h
      rw [h]; simp [mre]
    · simp only [runB, decide_eq_false_iff_not] at h
      exact .inl ⟨out, left, h, rfl⟩
  | cons x rest ih =>
    intro pre out left he ho hl N hN
    obtain ⟨N, rfl⟩ : ∃ M, N = M + 1 := ⟨N - 1, by omega⟩
    simp only [List.length_cons] at hN
    have hlen : src.length = pre.length + 1 + rest.length := by rw [he]; simp; omega
    have g : getL 0 src (pre.length : Int) = x := by rw [he]; exact get_mid pre x rest
    have hx : 0 ≤ x ∧ x ≤ 18446744073709551615 := hs x (by rw [he]; simp)
    by_cases c : x < left
    · have hwx : IntKind.i64.wrap x = x := wrap_i64 (by omega)
      have i := ih (pre ++ [x]) (out ++ [x + 1]) (left - (x + 1)) (by rw [he]; simp) (by simp [ho]) (by omega) N (by omega)
      have hpl : (((pre ++ [x]).length : Nat) : Int) = (pre.length : Int) + 1 := by simp
      rw [hpl] at i
      have e : ref17_ReadHead_l17 F k kr (N + 1) end_ src v out left (pre.length : Int) = ref17_ReadHead_l17 F k kr N end_ src v (out ++ [x + 1]) (left - (x + 1)) ((pre.length : Int) + 1) := by
        conv => lhs; unfold ref17_ReadHead_l17
        have x1 : ltI (pre.length : Int) (lenI src) = true := by rw [ltI_true]; unfold lenI; omega
        have x2 : inI (pre.length : Int) src.length = true := by rw [inI_true]; omega
        have x3 : leI left x = false := by rw [← Bool.not_eq_true, leI_true]; omega
        have x4 : roomB (out.length + 1) 8 = true := by rw [roomB_true]; omega
        have xa : addI .i64 (pre.length : Int) 1 = (pre.length : Int) + 1 := addI_i64 (by omega)
        have xb : addI .u64 x 1 = x + 1 := addI_u64 (by omega)
        have xc : subI .u64 left (x + 1) = left - (x + 1) := subI_u64 (by omega)
        have xd : addI .i64 x 1 = x + 1 := addI_i64 (by omega)
        simp only [x1, x2, g, x3, x4, cond_true, cond_false, xa, hwx, xb, xc, xd]
      have hz2 : out ++ [x + 1] ++ mre rest = out ++ mre (x :: rest) := by simp [mre]
      have hr : runB left (x :: rest) = runB (left - (x + 1)) rest := by
        have : decide (x < left) = true := decide_eq_true c
        simp only [runB, this, Bool.true_and]
      rw [hz2] at i
      rw [e, hr]
      exact i
    · have e : ref17_ReadHead_l17 F k kr (N + 1) end_ src v out left (pre.length : Int) = kr [] [] 0 10 := by
        have x1 : ltI (pre.length : Int) (lenI src) = true := by rw [ltI_true]; unfold lenI; omega
        have x2 : inI (pre.length : Int) src.length = true := by rw [inI_true]; omega
        have x3 : leI left x = true := by rw [leI_true]; omega
        unfold ref17_ReadHead_l17
        simp only [x1, x2, g, x3, cond_true]
      refine ⟨fun h => absurd (runB_cons.1 h).1 c, fun _ => .inr e⟩
end Go.Proofs.YtfmjokmjaghehaaGreat
