
/- Layer 5: varint, reading numbers of 64 bits. -/
import Derived.Test.YtfmjokmjaghehaaGreatVarint
set_option linter.unusedVariables false
set_option linter.unusedSimpArgs false
namespace Go.Proofs.YtfmjokmjaghehaaGreat
open Go.Eng
def grp : Nat → List Int → List Int × Int
  | 0, _ => ([], 5)
  | _ + 1, [] => ([], 4)
  | n + 1, x :: t => if x < 128 then ([x], 0) else if (grp n t).2 = 0 then (x :: (grp n t).1, 0) else grp n t
def Grp : List Int → Prop
  | [] => False
  | [x] => x < 128
  | x :: t => 128 ≤ x ∧ Grp t
theorem Grp.cons {x : Int} {t : List Int} (hx : 128 ≤ x) (h : Grp t) : Grp (x :: t) := by
  cases t with
  | nil => exact h.elim
  | cons y t => exact ⟨hx, h⟩
theorem Grp.ne {c : List Int} (h : Grp c) : c ≠ [] := by
  intro e; subst e; exact h
theorem grp_cases : ∀ (n : Nat) (l : List Int), (∃ c rest, grp n l = (c, 0) ∧ l = c ++ rest ∧ c.length ≤ n ∧ Grp c) ∨ (grp n l = ([], 4) ∧ l.length < n) ∨ (grp n l = ([], 5) ∧ n ≤ l.length) := by
  intro n
  induction n with
  | zero => intro l; exact .inr (.inr ⟨rfl, by omega⟩)
  | succ n ih =>
    intro l
    cases l with
    | nil => exact .inr (.inl ⟨rfl, by simp⟩)
    | cons x t =>
      by_cases hx : x < 128
      · refine .inl ⟨[x], t, ?_, rfl, by simp, hx⟩
        simp [grp, hx]
      · rcases ih t with ⟨c, rest, h1, h2, h3, h4⟩ | ⟨h1, h2⟩ | ⟨h1, h2⟩
        · refine .inl ⟨x :: c, rest, ?_, by simp [h2], by simp; omega, Grp.cons (by omega) h4⟩
          simp [grp, hx, h1]
        · refine .inr (.inl ⟨?_, by simp; omega⟩)
          simp [grp, hx, h1]
        · refine .inr (.inr ⟨?_, by simp; omega⟩)
          simp [grp, hx, h1]
def dv : List Int → Nat
  | [] => 0
  | x :: t => (x % 128).toNat + 128 * dv t
theorem dv_append (a b : List Int) : dv (a ++ b) = dv a + 128 ^ a.length * dv b := by
  induction a with
  | nil => simp [dv]
  | cons x t ih =>
    simp only [List.cons_append, dv, ih, List.length_cons, Nat.pow_succ]
    rw [Nat.mul_add, Nat.mul_comm (128 ^ t.length) 128, Nat.mul_assoc, Nat.add_assoc]
theorem dv_lt (a : List Int) : dv a < 128 ^ a.length := by
  induction a with
  | nil => simp [dv]
  | cons x t ih => simp only [dv, List.length_cons, Nat.pow_succ]; omega
def lst : List Int → Int
  | [] => 0
  | [x] => x
  | _ :: t => lst t
theorem lst_cons {x : Int} {t : List Int} (h : t ≠ []) : lst (x :: t) = lst t := by
  cases t with
  | nil => exact absurd rfl h
  | cons y t => rfl
theorem lst_getD : ∀ (c : List Int), c ≠ [] → c.getD (c.length - 1) 0 = lst c
  | [], h => absurd rfl h
  | [x], _ => rfl
  | x :: y :: t, _ => by
    rw [lst_cons (by simp), ← lst_getD (y :: t) (by simp)]
    simp
theorem Grp.lst_lt : ∀ {c : List Int}, Grp c → lst c < 128
  | [], h => h.elim
  | [x], h => h
  | x :: y :: t, h => by rw [lst_cons (by simp)]; exact Grp.lst_lt h.2
theorem lst_rng : ∀ {c : List Int}, Bt c → 0 ≤ lst c ∧ lst c ≤ 255
  | [], _ => by simp [lst]
  | [x], h => h x (by simp)
  | x :: y :: t, h => by rw [lst_cons (by simp)]; exact lst_rng (fun z hz => h z (List.mem_cons_of_mem _ hz))
theorem Bt.tail {x : Int} {t : List Int} (h : Bt (x :: t)) : Bt t := fun y hy => h y (List.mem_cons_of_mem _ hy)
theorem Bt.left {a b : List Int} (h : Bt (a ++ b)) : Bt a := fun y hy => h y (List.mem_append_left _ hy)
theorem Bt.right {a b : List Int} (h : Bt (a ++ b)) : Bt b := fun y hy => h y (List.mem_append_right _ hy)
theorem Bt.take {a : List Int} (h : Bt a) (n : Nat) : Bt (a.take n) := fun y hy => h y (List.mem_of_mem_take hy)
theorem Bt.drop {a : List Int} (h : Bt a) (n : Nat) : Bt (a.drop n) := fun y hy => h y (List.mem_of_mem_drop hy)
theorem dv_lst : ∀ {c : List Int}, Grp c → Bt c → (lst c).toNat * 128 ^ (c.length - 1) ≤ dv c ∧ dv c < ((lst c).toNat + 1) * 128 ^ (c.length - 1)
  | [], h, _ => h.elim
  | [x], h, hb => by
    have h : x < 128 := h
    have := hb x (by simp)
    simp only [lst, dv, List.length_singleton, Nat.sub_self, Nat.pow_zero]
    omega
  | x :: y :: t, h, hb => by
    have hx := hb x (by simp)
    have e := dv_lst h.2 (Bt.tail hb)
    rw [lst_cons (by simp)]
    simp only [List.length_cons, Nat.add_sub_cancel] at e ⊢
    rw [dv, Nat.pow_succ, ← Nat.mul_assoc, ← Nat.mul_assoc]
    generalize (lst (y :: t)).toNat * 128 ^ t.length = A at *
    generalize ((lst (y :: t)).toNat + 1) * 128 ^ t.length = B at *
    omega
theorem enc_dv : ∀ {c : List Int}, Grp c → Bt c → (lst c ≠ 0 ∨ c.length = 1) → enc (dv c) = c
  | [], h, _, _ => h.elim
  | [x], h, hb, _ => by
    have h : x < 128 := h
    have hx := hb x (by simp)
    simp only [dv]
    rw [enc_small (by omega)]
    simp; omega
  | x :: y :: t, h, hb, hl => by
    have hx := hb x (by simp)
    have h1 := h.1
    rw [lst_cons (by simp)] at hl
    have hl : lst (y :: t) ≠ 0 := hl.elim id (fun h => by simp at h)
    have e := enc_dv h.2 (Bt.tail hb) (.inl hl)
    have hp : dv (y :: t) ≠ 0 := fun h0 => by
      rw [h0, enc_small (by omega)] at e
      rw [← e] at hl
      exact hl rfl
    rw [dv, enc_big (by omega), show ((x % 128).toNat + 128 * dv (y :: t)) / 128 = dv (y :: t) by omega, e]
    congr 1
    omega
theorem enc_lst (v : Nat) : lst (enc v) ≠ 0 ∨ (enc v).length = 1 := by
  induction v using Nat.strongRecOn with
  | _ v ih =>
    by_cases h : v < 128
    · rw [enc_small h]; exact .inr rfl
    · left
      rw [enc_big h, lst_cons (enc_ne _)]
      rcases ih (v / 128) (by omega) with h1 | h1
      · exact h1
      · by_cases h2 : v / 128 < 128
        · rw [enc_small h2]; show ((v / 128 : Nat) : Int) ≠ 0; omega
        · rw [enc_big h2] at h1
          have := enc_ne (v / 128 / 128)
          simp at h1
          exact absurd h1 this
theorem enc_iff {c : List Int} (h : Grp c) (hb : Bt c) : enc (dv c) = c ↔ (lst c ≠ 0 ∨ c.length = 1) :=
  ⟨fun e => by rw [← e]; exact enc_lst _, enc_dv h hb⟩
/- groups, as the program reads them -/
theorem IndexFunc_loop (F : Nat) {R : Type} (k0 : Option R) (kret : Int → Option R) {y : List Int} (hy : (y.length : Int) ≤ 140737488355328) : ∀ (n : Nat) (l : List Int) (i : Nat), i ≤ y.length → y.drop i = l.take n →
    ∀ N, y.length < N + i → slices_IndexFunc_byte_l2 F k0 kret N y (y.length : Int) (i : Int) = if (grp n l).2 = 0 then kret ((i : Int) + (grp n l).1.length - 1) else k0 := by
  have done : ∀ i, i ≤ y.length → y.drop i = [] → ∀ N, y.length < N + i → slices_IndexFunc_byte_l2 F k0 kret N y (y.length : Int) (i : Int) = k0 := by
    intro i hi h N hN
    obtain ⟨N, rfl⟩ : ∃ M, N = M + 1 := ⟨N - 1, by omega⟩
    have : y.length ≤ i := by simpa using h
    unfold slices_IndexFunc_byte_l2
    simp (disch := omega) only [bs, ↓if_pos, ↓if_neg]
  intro n
  induction n with
  | zero => intro l i hi h N hN; exact done i hi (by simpa using h) N hN
  | succ n ih =>
    intro l i hi h N hN
    cases l with
    | nil => exact done i hi (by simpa using h) N hN
    | cons x t =>
      obtain ⟨N, rfl⟩ : ∃ M, N = M + 1 := ⟨N - 1, by omega⟩
      have hl : i < y.length := by
        have := congrArg List.length h
        simp at this; omega
      have hx : getL 0 y (i : Int) = x := by
        rw [getL_nat]
        have := congrArg (fun l => l.getD 0 0) h
        simpa [List.getD_eq_getElem?_getD, List.getElem?_drop] using this
      have ht : y.drop (i + 1) = t.take n := by
        have := congrArg List.tail h
        simpa using this
      have e := ih t (i + 1) (by omega) ht N (by omega)
      unfold slices_IndexFunc_byte_l2 varint_groups_1
      by_cases hc : x < 128
      · simp (disch := omega) only [bs, ↓if_pos, ↓if_neg, hx, grp]
        congr 1
        simp
      · simp (disch := omega) only [bs, ↓if_pos, ↓if_neg, hx]
        refine Eq.trans e ?_
        by_cases h0 : (grp n t).2 = 0
        · simp only [grp, if_neg hc, if_pos h0, List.length_cons]
          congr 1
          omega
        · simp only [grp, if_neg hc, if_neg h0]
theorem IndexFunc_eq (F : Nat) (hF : Fuel F) {l : List Int} (hl : (l.length : Int) ≤ 140737488355328) (n : Nat) : slices_IndexFunc_byte F (l.take n) = some (if (grp n l).2 = 0 then ((grp n l).1.length : Int) - 1 else -1, ()) := by
  unfold slices_IndexFunc_byte
  have hy : ((l.take n).length : Int) ≤ 140737488355328 := by simp; omega
  have := IndexFunc_loop F (some ((-1 : Int), ())) (fun z6 => some (z6, ())) hy n l 0 (by omega) (by simp) F (by unfold Fuel at hF; omega)
  refine Eq.trans this ?_
  split <;> simp
def gp (n : Nat) (b : List Int) (at_ : Int) : List Int × Int :=
  if at_ < 0 ∨ (b.length : Int) < at_ then ([], 2)
  else if (grp n (b.drop at_.toNat)).2 = 0 ∧ ¬ (enc (dv (grp n (b.drop at_.toNat)).1) = (grp n (b.drop at_.toNat)).1) then ([], 5)
  else grp n (b.drop at_.toNat)
theorem varint_groups_eq (F : Nat) (hF : Fuel F) {b : List Int} (hb : Bt b) (hl : (b.length : Int) ≤ 140737488355328) (at_ : Int) {n : Nat} (hn : 1 ≤ n ∧ n ≤ 64) :
    varint_groups F b at_ (n : Int) = some ((gp n b at_).1, (gp n b at_).2, ()) := by
  unfold varint_groups gp
  by_cases h0 : at_ < 0
  · simp (disch := omega) only [bs, ↓if_pos, ↓if_neg]
  · by_cases h1 : (b.length : Int) < at_
    · simp (disch := omega) only [bs, ↓if_pos, ↓if_neg]
    · rw [if_neg (by omega)]
      obtain ⟨a, rfl⟩ : ∃ a : Nat, at_ = (a : Int) := ⟨at_.toNat, by omega⟩
      have hd : dropL b (a : Int) = b.drop a := by simp [dropL]
      have hlb : ((b.drop a).length : Int) ≤ 140737488355328 := by simp; omega
      have hdl : (b.drop a).length = b.length - a := by simp
      have hbd := Bt.drop hb a
      rw [Int.toNat_natCast]
      rw [hd]
      generalize b.drop a = l at *
      have ht : takeL l (minI (lenI l) (n : Int)) = l.take n := by
        simp only [takeL, minI_eq, lenI]
        rw [show (min (l.length : Int) (n : Int)).toNat = min l.length n by omega]
        rw [List.take_eq_take_iff]
        omega
      rw [ht, IndexFunc_eq F hF hlb n]
      rcases grp_cases n l with ⟨c, rest, h1, h2, h3, h4⟩ | ⟨h1, h2⟩ | ⟨h1, h2⟩
      · have hcl : 0 < c.length := List.length_pos_iff.2 h4.ne
        have hle : c.length ≤ l.length := by rw [h2]; simp
        have hg : getL 0 l ((c.length : Int) - 1) = lst c := by
          rw [show (c.length : Int) - 1 = ((c.length - 1 : Nat) : Int) by omega, getL_nat, ← lst_getD c h4.ne, h2, List.getD_eq_getElem?_getD, List.getElem?_append_left (by omega), List.getD_eq_getElem?_getD]
        have htk : takeL l ((c.length : Int) - 1 + 1) = c := by
          rw [show (c.length : Int) - 1 + 1 = ((c.length : Nat) : Int) by omega, takeL, Int.toNat_natCast, h2]; simp
        simp only [h1, if_pos, true_and]
        have hbc : Bt c := by rw [h2] at hbd; exact Bt.left hbd
        simp only [enc_iff h4 hbc]
        unfold varint_groups_j6
        by_cases hc1 : c.length = 1
        · have htk1 : takeL l 1 = c := by rw [hc1] at htk; exact htk
          simp (disch := omega) only [bs, ↓if_pos, ↓if_neg, hg, htk, htk1, hc1]
          exact congrArg (fun l => some (l, (0 : Int), ())) htk1
        · by_cases hc0 : lst c = 0
          · simp (disch := omega) only [bs, ↓if_pos, ↓if_neg, hg, htk, hc0]
          · simp (disch := omega) only [bs, ↓if_pos, ↓if_neg, hg, htk, hc0]
      · simp only [h1]
        unfold varint_groups_j6
        simp (disch := omega) only [bs, ↓if_pos, ↓if_neg]
      · simp only [h1]
        unfold varint_groups_j6
        simp (disch := omega) only [bs, ↓if_pos, ↓if_neg]
/- groups, as the document reads them -/
theorem refgroups_loop (F : Nat) {R : Type} (k0 : Int → Int → Option R) (kret : List Int → Int → Option R) {b : List Int} (hl : (b.length : Int) ≤ 140737488355328) {a n : Nat} (ha : a ≤ b.length) (hn : n ≤ 64) :
    ∀ (m i : Nat) (l : List Int), i + m = n → a + i ≤ b.length → b.drop (a + i) = l → ∀ N, m < N → ref05_groups_l4 F k0 kret N b (a : Int) (n : Int) (i : Int) =
      if (grp m l).2 = 0 then kret ((b.drop a).take (i + (grp m l).1.length)) 0 else k0 (n : Int) (if (grp m l).2 = 5 then (n : Int) else ((b.length - a : Nat) : Int)) := by
  intro m
  induction m with
  | zero =>
    intro i l hi hai h N hN
    obtain ⟨N, rfl⟩ : ∃ M, N = M + 1 := ⟨N - 1, by omega⟩
    unfold ref05_groups_l4
    have : i = n := by omega
    subst this
    by_cases hc : a + i < b.length
    · simp (disch := omega) only [bs, ↓if_pos, ↓if_neg, grp]
    · simp (disch := omega) only [bs, ↓if_pos, ↓if_neg, grp]
  | succ m ih =>
    intro i l hi hai h N hN
    obtain ⟨N, rfl⟩ : ∃ M, N = M + 1 := ⟨N - 1, by omega⟩
    unfold ref05_groups_l4
    cases l with
    | nil =>
      have : b.length ≤ a + i := by simpa using h
      simp (disch := omega) only [bs, ↓if_pos, ↓if_neg, grp]
      congr 1
      omega
    | cons x t =>
      have hlt : a + i < b.length := by
        have := congrArg List.length h
        simp at this; omega
      have hx : getL 0 b ((a : Int) + ((i : Int) + 1) - 1) = x := by
        rw [show (a : Int) + ((i : Int) + 1) - 1 = ((a + i : Nat) : Int) by omega, getL_nat]
        have := congrArg (fun l => l.getD 0 0) h
        simpa [List.getD_eq_getElem?_getD, List.getElem?_drop] using this
      have ht : b.drop (a + (i + 1)) = t := by
        have := congrArg List.tail h
        simpa [Nat.add_assoc] using this
      have e := ih (i + 1) t (by omega) (by omega) ht N (by omega)
      by_cases hc : x < 128
      · simp (disch := omega) only [bs, ↓if_pos, ↓if_neg, hx, grp]
        congr 1
        simp only [dropL, takeL]
        rw [List.drop_take]
        congr 1
        simp
        omega
      · simp (disch := omega) only [bs, ↓if_pos, ↓if_neg, hx]
        refine Eq.trans e ?_
        by_cases h0 : (grp m t).2 = 0
        · simp only [grp, if_neg hc, if_pos h0, List.length_cons]
          congr 2
          omega
        · simp only [grp, if_neg hc, if_neg h0]
def gr (n : Nat) (b : List Int) (at_ : Int) : List Int × Int :=
  if at_ < 0 ∨ (b.length : Int) < at_ then ([], 2)
  else grp n (b.drop at_.toNat)
theorem ref05_groups_eq (F : Nat) (hF : Fuel F) {b : List Int} (hl : (b.length : Int) ≤ 140737488355328) (at_ : Int) {n : Nat} (hn : n ≤ 64) :
    ref05_groups F b at_ (n : Int) = some ((gr n b at_).1, (gr n b at_).2, ()) := by
  unfold ref05_groups gr
  by_cases h0 : at_ < 0
  · simp (disch := omega) only [bs, ↓if_pos, ↓if_neg]
  · by_cases h1 : (b.length : Int) < at_
    · simp (disch := omega) only [bs, ↓if_pos, ↓if_neg]
    · rw [if_neg (by omega)]
      obtain ⟨a, rfl⟩ : ∃ a : Nat, at_ = (a : Int) := ⟨at_.toNat, by omega⟩
      rw [Int.toNat_natCast]
      simp (disch := omega) only [bs, ↓if_pos, ↓if_neg]
      refine Eq.trans (refgroups_loop F _ _ hl (a := a) (n := n) (by omega) hn n 0 (b.drop a) (by omega) (by omega) (by simp) F (by unfold Fuel at hF; omega)) ?_
      have hdl : (b.drop a).length = b.length - a := by simp
      rcases grp_cases n (b.drop a) with ⟨c, rest, h1, h2, h3, h4⟩ | ⟨h1, h2⟩ | ⟨h1, h2⟩
      · simp only [h1, if_pos]
        rw [h2]
        simp
      · simp only [h1]
        simp (disch := omega) only [bs, ↓if_pos, ↓if_neg]
      · simp only [h1]
        simp (disch := omega) only [bs, ↓if_pos, ↓if_neg]
def rd (b : List Int) (at_ : Int) : Nat × Int × Int :=
  if (gp 10 b at_).2 = 0 then
    (if dv (gp 10 b at_).1 < 2 ^ 64 then (dv (gp 10 b at_).1, at_ + (gp 10 b at_).1.length, 0) else (0, 0, 5))
  else (0, 0, (gp 10 b at_).2)
theorem gp_ok {n : Nat} {b : List Int} (hb : Bt b) {at_ : Int} (h : (gp n b at_).2 = 0) : 0 ≤ at_ ∧ at_ ≤ b.length ∧
    ∃ c rest, gp n b at_ = (c, 0) ∧ b.drop at_.toNat = c ++ rest ∧ c.length ≤ n ∧ Grp c ∧ enc (dv c) = c ∧ Bt c := by
  unfold gp at h ⊢
  by_cases h0 : at_ < 0 ∨ (b.length : Int) < at_
  · rw [if_pos h0] at h; simp at h
  · rw [if_neg h0] at h ⊢
    refine ⟨by omega, by omega, ?_⟩
    rcases grp_cases n (b.drop at_.toNat) with ⟨c, rest, h1, h2, h3, h4⟩ | ⟨h1, h2⟩ | ⟨h1, h2⟩
    · have hbc : Bt c := by have := Bt.drop hb at_.toNat; rw [h2] at this; exact Bt.left this
      simp only [h1, true_and] at h ⊢
      by_cases he : enc (dv c) = c
      · refine ⟨c, rest, ?_, h2, h3, h4, he, hbc⟩
        simp [he]
      · simp [he] at h
    · simp [h1] at h
    · simp [h1] at h
theorem gp_gr {n : Nat} {b : List Int} (hb : Bt b) (at_ : Int) : gp n b at_ = if (gr n b at_).2 = 0 ∧ lst (gr n b at_).1 = 0 ∧ 1 < (gr n b at_).1.length then ([], 5) else gr n b at_ := by
  unfold gp gr
  by_cases h0 : at_ < 0 ∨ (b.length : Int) < at_
  · simp only [if_pos h0]
    simp
  · simp only [if_neg h0]
    rcases grp_cases n (b.drop at_.toNat) with ⟨c, rest, h1, h2, h3, h4⟩ | ⟨h1, h2⟩ | ⟨h1, h2⟩
    · have hbc : Bt c := by have := Bt.drop hb at_.toNat; rw [h2] at this; exact Bt.left this
      simp only [h1, true_and]
      simp only [enc_iff h4 hbc]
      have : 0 < c.length := List.length_pos_iff.2 h4.ne
      by_cases hl : lst c = 0 ∧ 1 < c.length
      · rw [if_pos hl, if_pos]
        omega
      · rw [if_neg hl, if_neg]
        omega
    · simp [h1]
    · simp [h1]
theorem gr_ok {n : Nat} {b : List Int} (hb : Bt b) {at_ : Int} (h : (gr n b at_).2 = 0) : 0 ≤ at_ ∧ at_ ≤ b.length ∧
    ∃ c rest, gr n b at_ = (c, 0) ∧ b.drop at_.toNat = c ++ rest ∧ c.length ≤ n ∧ Grp c ∧ Bt c := by
  unfold gr at h ⊢
  by_cases h0 : at_ < 0 ∨ (b.length : Int) < at_
  · rw [if_pos h0] at h; simp at h
  · rw [if_neg h0] at h ⊢
    refine ⟨by omega, by omega, ?_⟩
    rcases grp_cases n (b.drop at_.toNat) with ⟨c, rest, h1, h2, h3, h4⟩ | ⟨h1, h2⟩ | ⟨h1, h2⟩
    · have hbc : Bt c := by have := Bt.drop hb at_.toNat; rw [h2] at this; exact Bt.left this
      exact ⟨c, rest, h1, h2, h3, h4, hbc⟩
    · simp [h1] at h
    · simp [h1] at h
theorem dv_big {c : List Int} (h : Grp c) (hb : Bt c) (hl : c.length ≤ 10) : dv c < 2 ^ 64 ↔ ¬ (c.length = 10 ∧ 1 < lst c) := by
  have h1 := dv_lst h hb
  have h2 := dv_lt c
  have h3 := lst_rng hb
  by_cases hc : c.length = 10
  · rw [hc] at h1
    simp only [hc, true_and]
    constructor
    · intro h; omega
    · intro h
      have : (lst c).toNat + 1 ≤ 2 := by omega
      have := Nat.mul_le_mul_right (128 ^ (10 - 1)) this
      omega
  · simp only [hc, false_and, not_false_eq_true, iff_true]
    have := Nat.pow_le_pow_right (n := 128) (by omega) (show c.length ≤ 9 by omega)
    omega
theorem Read_loop (F : Nat) {R : Type} (k : Int → List Int → Int → Option R) {x1 : Int} {c0 : List Int} {c : List Int} (hb : Bt c) (hl : c.length ≤ 10) (hd : dv c < 2 ^ 64) :
    ∀ (b a : List Int), c = a ++ b → ∀ N, b.length < N → varint_Read_l8 F k N x1 c0 (dv a : Int) c (c.length : Int) (a.length : Int) = k x1 c0 (dv c : Int) := by
  intro b
  induction b with
  | nil =>
    intro a h N hN
    obtain ⟨N, rfl⟩ : ∃ M, N = M + 1 := ⟨N - 1, by omega⟩
    have : c.length = a.length := by rw [h]; simp
    unfold varint_Read_l8
    rw [show dv c = dv a by rw [h]; simp]
    simp (disch := omega) only [bs, ↓if_pos, ↓if_neg]
  | cons x t ih =>
    intro a h N hN
    obtain ⟨N, rfl⟩ : ∃ M, N = M + 1 := ⟨N - 1, by omega⟩
    have hlen : c.length = a.length + (t.length + 1) := by rw [h]; simp
    have hg : getL 0 c (a.length : Int) = x := by rw [getL_nat, h]; simp
    have hx := hb x (by rw [h]; simp)
    have h2 : c = (a ++ [x]) ++ t := by rw [h]; simp
    have h3 : dv (a ++ [x]) = dv a + 128 ^ a.length * (x % 128).toNat := by rw [dv_append]; simp [dv]
    have h4 : dv (a ++ [x]) ≤ dv c := by rw [h2, dv_append (a ++ [x]) t]; omega
    have h5 := dv_lt a
    have e := ih (a ++ [x]) h2 N (by simp at hN ⊢; omega)
    have h7 : (128 : Nat) ^ a.length = 2 ^ (7 * a.length) := by rw [Nat.pow_mul]
    have hor : orI .u64 (dv a : Int) (shlI .u64 (IntKind.u64.wrap (x % 128)) (7 * (a.length : Int))) = (dv (a ++ [x]) : Int) := by
      rw [wrap_u64 (by omega)]
      have hs : shlI .u64 (x % 128) (7 * (a.length : Int)) = ((128 ^ a.length * (x % 128).toNat : Nat) : Int) := by
        rw [shlI_u64 (by omega) (by omega)]
        by_cases ha : a.length = 9 ∨ a.length < 9
        · rw [show min (7 * (a.length : Int)).toNat 64 = 7 * a.length by omega, ← h7, Nat.mul_comm, Nat.mod_eq_of_lt (by omega)]
        · omega
      rw [hs, orI_u64 (by omega) (by omega), h3, Int.toNat_natCast, Int.toNat_natCast, h7, Nat.or_comm, ← Nat.two_pow_add_eq_or_of_lt (by omega), Nat.add_comm]
    unfold varint_Read_l8
    simp (disch := omega) only [bs, ↓if_pos, ↓if_neg, hg, hor]
    refine Eq.trans ?_ e
    simp
theorem varint_Read_eq (F : Nat) (hF : Fuel F) {b : List Int} (hb : Bt b) (hl : (b.length : Int) ≤ 140737488355328) (at_ : Int) :
    varint_Read F b at_ = some (((rd b at_).1 : Int), (rd b at_).2.1, (rd b at_).2.2, ()) := by
  unfold varint_Read rd
  rw [show (10 : Int) = ((10 : Nat) : Int) from rfl, varint_groups_eq F hF hb hl at_ (n := 10) (by omega)]
  by_cases h0 : (gp 10 b at_).2 = 0
  · obtain ⟨ha0, ha1, c, rest, h1, h2, h3, h4, h5, h6⟩ := gp_ok hb h0
    rw [h1]
    have hd := dv_big h4 h6 h3
    have hlast := lst_getD c h4.ne
    have hpos : 0 < c.length := List.length_pos_iff.2 h4.ne
    have e := fun h => fun R k => Read_loop F (R := R) k (x1 := at_) (c0 := c) h6 h3 h c [] rfl F (by unfold Fuel at hF; omega)
    unfold varint_Read_j6
    by_cases hc : c.length = 10
    · have hg : getL 0 c 9 = lst c := by rw [show (9 : Int) = ((9 : Nat) : Int) from rfl, getL_nat, ← hlast, hc]
      by_cases hx : 1 < lst c
      · simp (disch := omega) only [bs, ↓if_pos, ↓if_neg, hg]
        rfl
      · have hd := hd.2 (by omega)
        simp (disch := omega) only [bs, ↓if_pos, ↓if_neg, hg]
        refine Eq.trans (e hd _ _) ?_
        simp (disch := omega) only [bs, ↓if_pos, ↓if_neg]
    · have hd := hd.2 (by omega)
      simp (disch := omega) only [bs, ↓if_pos, ↓if_neg]
      refine Eq.trans (e hd _ _) ?_
      simp (disch := omega) only [bs, ↓if_pos, ↓if_neg]
  · simp (disch := omega) only [bs, ↓if_pos, ↓if_neg]
    rfl
theorem refRead_loop (F : Nat) {R : Type} (k : Int → List Int → Int → Option R) {x1 : Int} {c : List Int} (hb : Bt c) (hl : c.length ≤ 10) (hd : dv c < 2 ^ 64) :
    ∀ (m : Nat), m ≤ c.length → ∀ N, m < N → ref05_Read_l9 F k N x1 c (dv (c.drop m) : Int) ((m : Int) - 1) = k x1 c (dv c : Int) := by
  intro m
  induction m with
  | zero =>
    intro hm N hN
    obtain ⟨N, rfl⟩ : ∃ M, N = M + 1 := ⟨N - 1, by omega⟩
    unfold ref05_Read_l9
    rw [List.drop_zero]
    simp (disch := omega) only [bs, ↓if_pos, ↓if_neg]
  | succ m ih =>
    intro hm N hN
    obtain ⟨N, rfl⟩ : ∃ M, N = M + 1 := ⟨N - 1, by omega⟩
    have e := ih (by omega) N (by omega)
    have hsplit : c.drop m = c.getD m 0 :: c.drop (m + 1) := by
      rw [List.getD_eq_getElem?_getD, List.getElem?_eq_getElem (by omega), List.drop_eq_getElem_cons (by omega)]
      rfl
    have hg := getD_all (P := fun x => 0 ≤ x ∧ x ≤ 255) hb (by omega) (d := 0) m
    have h1 : dv (c.drop m) = (c.getD m 0 % 128).toNat + 128 * dv (c.drop (m + 1)) := by rw [hsplit]; rfl
    have h2 : dv (c.drop m) ≤ dv c := by
      have := dv_append (c.take m) (c.drop m)
      rw [List.take_append_drop] at this
      have h3 : dv (c.drop m) ≤ 128 ^ (c.take m).length * dv (c.drop m) := Nat.le_mul_of_pos_left _ (Nat.pow_pos (by omega))
      omega
    have hgl : getL 0 c ((m : Int) + 1 - 1) = c.getD m 0 := by rw [show (m : Int) + 1 - 1 = (m : Int) by omega, getL_nat]
    unfold ref05_Read_l9
    have hcast : ((m + 1 : Nat) : Int) = (m : Int) + 1 := by omega
    rw [hcast]
    simp (disch := omega) only [bs, ↓if_pos, ↓if_neg, hgl, wrap_u64, mulI_u64, addI_u64]
    rw [show (dv (List.drop (m + 1) c) : Int) * 128 + c.getD m 0 % 128 = (dv (c.drop m) : Int) by omega, show (m : Int) + 1 - 1 - 1 = (m : Int) - 1 by omega]
    exact e
theorem ref05_Read_eq (F : Nat) (hF : Fuel F) {b : List Int} (hb : Bt b) (hl : (b.length : Int) ≤ 140737488355328) (at_ : Int) :
    ref05_Read F b at_ = some (((rd b at_).1 : Int), (rd b at_).2.1, (rd b at_).2.2, ()) := by
  unfold ref05_Read rd
  rw [show (10 : Int) = ((10 : Nat) : Int) from rfl, ref05_groups_eq F hF hl at_ (n := 10) (by omega), gp_gr hb]
  by_cases h0 : (gr 10 b at_).2 = 0
  · obtain ⟨ha0, ha1, c, rest, h1, h2, h3, h4, h6⟩ := gr_ok hb h0
    rw [h1]
    have hd := dv_big h4 h6 h3
    have hpos : 0 < c.length := List.length_pos_iff.2 h4.ne
    have hlast : getL 0 c ((c.length : Int) - 1) = lst c := by rw [show (c.length : Int) - 1 = ((c.length - 1 : Nat) : Int) by omega, getL_nat, lst_getD c h4.ne]
    have e := fun h => fun R k => refRead_loop F (R := R) k (x1 := at_) h6 h3 h c.length (by omega) F (by unfold Fuel at hF; omega)
    simp only [List.drop_length, dv] at e
    unfold ref05_Read_j7
    have h3' : (c.length : Int) ≤ 10 := by omega
    by_cases hx0 : lst c = 0
    · by_cases hc1 : 1 < c.length
      · simp only [hx0, hc1, true_and, if_true]
        simp (disch := omega) only [bs, ↓if_pos, ↓if_neg, hlast, hx0]
        rfl
      · have hd := hd.2 (by omega)
        simp (disch := omega) only [bs, ↓if_pos, ↓if_neg, hlast, hx0]
        refine Eq.trans (e hd _ _) ?_
        simp (disch := omega) only [bs, ↓if_pos, ↓if_neg]
    · by_cases hc : c.length = 10 ∧ 1 < lst c
      · obtain ⟨hc, hx1⟩ := hc
        simp (disch := omega) only [bs, ↓if_pos, ↓if_neg, hlast]
        rfl
      · have hd := hd.2 hc
        have key : (if (c, (0:Int)).2 = 0 ∧ lst (c, (0:Int)).1 = 0 ∧ 1 < (c, (0:Int)).1.length then (([] : List Int), (5:Int)) else (c, 0)) = (c, 0) := by
          rw [if_neg]; simp [hx0]
        rw [key]
        by_cases hc : c.length = 10
        · simp (disch := omega) only [bs, ↓if_pos, ↓if_neg, hlast]
          refine Eq.trans (e hd _ _) ?_
          simp (disch := omega) only [bs, ↓if_pos, ↓if_neg]
        · simp (disch := omega) only [bs, ↓if_pos, ↓if_neg, hlast]
          refine Eq.trans (e hd _ _) ?_
          simp (disch := omega) only [bs, ↓if_pos, ↓if_neg]
  · simp (disch := omega) only [bs, ↓if_pos, ↓if_neg]
    simp [h0]
theorem rd_lt (b : List Int) (at_ : Int) : (rd b at_).1 < 2 ^ 64 := by
  unfold rd
  split
  · split
    · assumption
    · simp
  · simp
end Go.Proofs.YtfmjokmjaghehaaGreat
