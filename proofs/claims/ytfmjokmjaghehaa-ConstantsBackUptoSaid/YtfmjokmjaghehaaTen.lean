
/- Layers 10 and 11: stamps and residuals, the plain sums. -/
import Derived.Test.YtfmjokmjaghehaaNine
set_option linter.unusedVariables false
set_option linter.unusedSimpArgs false
namespace Go.Proofs.Ytfmjokmjaghehaa
open Go.Eng

/-- numbers of 64 bits with a sign -/
def Sg (l : List Int) : Prop := ∀ x ∈ l, I64 x
theorem Sg.nil : Sg [] := fun x hx => by cases hx
theorem Sg.head {x : Int} {t : List Int} (h : Sg (x :: t)) : I64 x := h x (by simp)
theorem Sg.tail {x : Int} {t : List Int} (h : Sg (x :: t)) : Sg t := fun y hy => h y (List.mem_cons_of_mem _ hy)
theorem Sg.cons {x : Int} {t : List Int} (h : I64 x) (ht : Sg t) : Sg (x :: t) := by
  intro y hy
  rcases List.mem_cons.1 hy with e | e
  · exact e ▸ h
  · exact ht y e
theorem Sg.append {l m : List Int} (h : Sg l) (k : Sg m) : Sg (l ++ m) := fun x hx => (List.mem_append.1 hx).elim (h x) (k x)
theorem Sg.get {l : List Int} (h : Sg l) (i : Int) : I64 (getL 0 l i) := getD_all (P := I64) h (by unfold I64; omega) _

theorem zz_uz_eq {x : Nat} {y : Int} : x = zz y ↔ uz x = y := ⟨fun h => by rw [h, uz_zz], fun h => by rw [← h, zz_uz]⟩

theorem i64_wrap_mod (x : Int) : ∃ k : Int, IntKind.i64.wrap x = x + k * 18446744073709551616 := by
  simp only [IntKind.wrap, IntKind.bits, IntKind.signed, Bool.true_and, ge_iff_le, decide_eq_true_eq]
  split
  · exact ⟨-(x / 18446744073709551616) - 1, by omega⟩
  · exact ⟨-(x / 18446744073709551616), by omega⟩

theorem i64_uniq {x y : Int} (hx : I64 x) (hy : I64 y) {k : Int} (h : x = y + k * 18446744073709551616) : x = y := by
  unfold I64 at hx hy
  omega

/-- the next difference and its number -/
theorem delta_iff {x : Nat} (hx : x < 2 ^ 64) {b d : Int} (hb : 0 ≤ b ∧ b ≤ 18446744073709551615) (hd : 0 ≤ d ∧ d ≤ 18446744073709551615) :
    IntKind.u64.wrap (b + uz x) = d ↔ (x : Int) = zz (IntKind.i64.wrap (d - b)) := by
  have hu := uz_rng hx
  have hr := rng_wrap_i64 (d - b)
  obtain ⟨k, hk⟩ := i64_wrap_mod (d - b)
  rw [Int.ofNat_inj, zz_uz_eq, wrap_u64_mod]
  constructor
  · intro h
    refine i64_uniq hu hr (k := (b + uz x) / 18446744073709551616 - k) ?_
    rw [hk]
    omega
  · intro h
    rw [h, hk]
    omega

/-- differences of differences, behind the first one -/
def dls : Int → Int → List Int → List Int
  | _, _, [] => []
  | p, b, x :: t => (zz (IntKind.i64.wrap (x - p - b)) : Int) :: dls x (x - p) t

/-- what a list of times is made into -/
def dl : List Int → List Int
  | [] => []
  | [_] => []
  | p :: x :: t => (x - p - 1) :: dls x (x - p) t

/-- each number is greater than the one before it -/
def Inc : List Int → Prop
  | [] => True
  | [_] => True
  | p :: x :: t => p < x ∧ Inc (x :: t)

theorem dls_Wd : ∀ (t : List Int) (p b : Int), Wd (dls p b t)
  | [], _, _ => Wd.nil
  | x :: t, p, b => Wd.cons (by have := zz_lt (rng_wrap_i64 (x - p - b)); omega) (dls_Wd t _ _)
theorem dls_length : ∀ (t : List Int) (p b : Int), (dls p b t).length = t.length
  | [], _, _ => rfl
  | x :: t, p, b => by simp [dls, dls_length t]

theorem dl_Wd {l : List Int} (h : Sg l) (hi : Inc l) : Wd (dl l) := by
  match l, h, hi with
  | [], _, _ => exact Wd.nil
  | [_], _, _ => exact Wd.nil
  | p :: x :: t, h, hi =>
    have h1 := Sg.head h
    have h2 := Sg.head (Sg.tail h)
    unfold I64 at h1 h2
    exact Wd.cons (by have := hi.1; omega) (dls_Wd t _ _)
theorem dl_length (l : List Int) : (dl l).length = l.length - 1 := by
  match l with
  | [] => rfl
  | [_] => rfl
  | p :: x :: t => simp [dl, dls_length]

/-- times from their numbers, behind the first difference; none, if one is not greater than the one before it -/
def ups : Int → Int → List Int → Option (List Int)
  | _, _, [] => some []
  | p, b, x :: t =>
    if IntKind.u64.wrap (b + uz x.toNat) = 0 ∨ 9223372036854775807 - p < IntKind.u64.wrap (b + uz x.toNat) then none
    else (ups (p + IntKind.u64.wrap (b + uz x.toNat)) (IntKind.u64.wrap (b + uz x.toNat)) t).map fun l => (p + IntKind.u64.wrap (b + uz x.toNat)) :: l

/-- times from their numbers -/
def up1 (p : Int) : List Int → Option (List Int)
  | [] => some []
  | x :: t =>
    if IntKind.u64.wrap (x + 1) = 0 ∨ 9223372036854775807 - p < IntKind.u64.wrap (x + 1) then none
    else (ups (p + IntKind.u64.wrap (x + 1)) (IntKind.u64.wrap (x + 1)) t).map fun l => (p + IntKind.u64.wrap (x + 1)) :: l

theorem ups_dls : ∀ (t : List Int) (p b : Int), Sg (p :: t) → Inc (p :: t) → 0 ≤ b ∧ b ≤ 18446744073709551615 → ups p b (dls p b t) = some t
  | [], _, _, _, _, _ => rfl
  | x :: t, p, b, h, hi, hb => by
    have h1 := Sg.head h
    have h2 := Sg.head (Sg.tail h)
    unfold I64 at h1 h2
    have h3 := hi.1
    have hz := zz_lt (rng_wrap_i64 (x - p - b))
    have e : IntKind.u64.wrap (b + uz (zz (IntKind.i64.wrap (x - p - b)))) = x - p := (delta_iff hz hb (by omega)).2 rfl
    have ih := ups_dls t x (x - p) (Sg.tail h) hi.2 (by omega)
    simp only [dls, ups, Int.toNat_natCast, e]
    rw [if_neg (by omega), show p + (x - p) = x by omega, ih]
    rfl

theorem up1_dl {p : Int} {t : List Int} (h : Sg (p :: t)) (hi : Inc (p :: t)) : up1 p (dl (p :: t)) = some t := by
  match t, h, hi with
  | [], _, _ => rfl
  | x :: t, h, hi =>
    have h1 := Sg.head h
    have h2 := Sg.head (Sg.tail h)
    unfold I64 at h1 h2
    have h3 := hi.1
    have ih := ups_dls t x (x - p) (Sg.tail h) hi.2 (by omega)
    have e : IntKind.u64.wrap (x - p - 1 + 1) = x - p := by rw [wrap_u64 (by omega)]; omega
    simp only [dl, up1, e]
    rw [if_neg (by omega), show p + (x - p) = x by omega, ih]
    rfl

theorem dls_ups : ∀ {t : List Int} {p b : Int} {l : List Int}, Wd t → I64 p → 0 ≤ b ∧ b ≤ 18446744073709551615 → ups p b t = some l → Sg l ∧ Inc (p :: l) ∧ dls p b l = t ∧ l.length = t.length
  | [], p, b, l, _, _, _, h => by
    simp only [ups, Option.some.injEq] at h
    subst h
    exact ⟨Sg.nil, trivial, rfl, rfl⟩
  | x :: t, p, b, l, hw, hp, hb, h => by
    have hx := Wd.head hw
    have hr := rng_wrap_u64 (b + uz x.toNat)
    have hd := delta_iff (x := x.toNat) (by omega) hb hr
    unfold ups at h
    generalize IntKind.u64.wrap (b + uz x.toNat) = d at *
    by_cases c : d = 0 ∨ 9223372036854775807 - p < d
    · rw [if_pos c] at h; cases h
    · rw [if_neg c] at h
      rw [Option.map_eq_some_iff] at h
      obtain ⟨m, hm, rfl⟩ := h
      unfold I64 at hp
      have hq : I64 (p + d) := by unfold I64; omega
      obtain ⟨i1, i2, i3, i4⟩ := dls_ups (Wd.tail hw) hq hr hm
      refine ⟨Sg.cons hq i1, ⟨by omega, i2⟩, ?_, by simp [i4]⟩
      simp only [dls]
      rw [show p + d - p = d by omega, i3, ← hd.1 rfl]
      rw [Int.toNat_of_nonneg hx.1]

theorem dl_up1 {t : List Int} {p : Int} {l : List Int} (hw : Wd t) (hp : I64 p) (h : up1 p t = some l) : Sg (p :: l) ∧ Inc (p :: l) ∧ dl (p :: l) = t ∧ l.length = t.length := by
  match t, hw, h with
  | [], _, h =>
    simp only [up1, Option.some.injEq] at h
    subst h
    exact ⟨Sg.cons hp Sg.nil, trivial, rfl, rfl⟩
  | x :: t, hw, h =>
    have hx := Wd.head hw
    have hr := rng_wrap_u64 (x + 1)
    have hm : IntKind.u64.wrap (x + 1) = 0 ∨ IntKind.u64.wrap (x + 1) = x + 1 := by rw [wrap_u64_mod]; omega
    simp only [up1] at h
    generalize IntKind.u64.wrap (x + 1) = d at *
    by_cases c : d = 0 ∨ 9223372036854775807 - p < d
    · rw [if_pos c] at h; cases h
    · rw [if_neg c] at h
      rw [Option.map_eq_some_iff] at h
      obtain ⟨m, hm2, rfl⟩ := h
      have hp' := hp
      unfold I64 at hp'
      have hq : I64 (p + d) := by unfold I64; omega
      obtain ⟨i1, i2, i3, i4⟩ := dls_ups (Wd.tail hw) hq hr hm2
      refine ⟨Sg.cons hp (Sg.cons hq i1), ⟨by omega, i2⟩, ?_, by simp [i4]⟩
      simp only [dl]
      rw [show p + d - p = d by omega, i3]
      congr 1
      omega

/- residuals -/
def dfs : Int → List Int → List Int
  | _, [] => []
  | p, x :: t => IntKind.i64.wrap (x - p) :: dfs x t
def df : List Int → List Int
  | [] => []
  | x :: t => x :: dfs x t
def sms : Int → List Int → List Int
  | _, [] => []
  | p, x :: t => IntKind.i64.wrap (p + x) :: sms (IntKind.i64.wrap (p + x)) t
def sm : List Int → List Int
  | [] => []
  | x :: t => x :: sms x t

theorem dfs_length : ∀ (t : List Int) (p : Int), (dfs p t).length = t.length
  | [], _ => rfl
  | x :: t, p => by simp [dfs, dfs_length t]
theorem df_length (l : List Int) : (df l).length = l.length := by cases l <;> simp [df, dfs_length]
theorem sms_length : ∀ (t : List Int) (p : Int), (sms p t).length = t.length
  | [], _ => rfl
  | x :: t, p => by simp [sms, sms_length t]
theorem sm_length (l : List Int) : (sm l).length = l.length := by cases l <;> simp [sm, sms_length]
theorem dfs_Sg : ∀ (t : List Int) (p : Int), Sg (dfs p t)
  | [], _ => Sg.nil
  | x :: t, p => Sg.cons (rng_wrap_i64 _) (dfs_Sg t x)
theorem df_Sg {l : List Int} (h : Sg l) : Sg (df l) := by
  cases l with
  | nil => exact Sg.nil
  | cons x t => exact Sg.cons (Sg.head h) (dfs_Sg t x)
theorem sms_Sg : ∀ (t : List Int) (p : Int), Sg (sms p t)
  | [], _ => Sg.nil
  | x :: t, p => Sg.cons (rng_wrap_i64 _) (sms_Sg t _)
theorem sm_Sg {l : List Int} (h : Sg l) : Sg (sm l) := by
  cases l with
  | nil => exact Sg.nil
  | cons x t => exact Sg.cons (Sg.head h) (sms_Sg t x)

theorem wrap_back {x p : Int} (hx : I64 x) : IntKind.i64.wrap (p + IntKind.i64.wrap (x - p)) = x := by
  obtain ⟨k, hk⟩ := i64_wrap_mod (x - p)
  obtain ⟨j, hj⟩ := i64_wrap_mod (p + IntKind.i64.wrap (x - p))
  refine i64_uniq (rng_wrap_i64 _) hx (k := k + j) ?_
  rw [hj, hk]
  omega

theorem sms_dfs : ∀ (t : List Int) (p : Int), Sg t → sms p (dfs p t) = t
  | [], _, _ => rfl
  | x :: t, p, h => by
    simp only [dfs, sms, wrap_back (Sg.head h)]
    rw [sms_dfs t x (Sg.tail h)]
theorem sm_df {l : List Int} (h : Sg l) : sm (df l) = l := by
  cases l with
  | nil => rfl
  | cons x t => simp only [df, sm, sms_dfs t x (Sg.tail h)]

/-- the residuals of an order -/
def dfn : Nat → List Int → List Int
  | 0, l => l
  | n + 1, l => dfn n (df l)
def smn : Nat → List Int → List Int
  | 0, l => l
  | n + 1, l => smn n (sm l)
theorem dfn_length : ∀ (n : Nat) (l : List Int), (dfn n l).length = l.length
  | 0, _ => rfl
  | n + 1, l => by rw [dfn, dfn_length n, df_length]
theorem smn_length : ∀ (n : Nat) (l : List Int), (smn n l).length = l.length
  | 0, _ => rfl
  | n + 1, l => by rw [smn, smn_length n, sm_length]
theorem dfn_Sg : ∀ (n : Nat) {l : List Int}, Sg l → Sg (dfn n l)
  | 0, _, h => h
  | n + 1, l, h => dfn_Sg n (df_Sg h)
theorem smn_Sg : ∀ (n : Nat) {l : List Int}, Sg l → Sg (smn n l)
  | 0, _, h => h
  | n + 1, l, h => smn_Sg n (sm_Sg h)
theorem dfn_succ : ∀ (n : Nat) (l : List Int), dfn (n + 1) l = df (dfn n l)
  | 0, _ => rfl
  | n + 1, l => by rw [dfn, dfn_succ n]; rfl
theorem smn_dfn : ∀ (n : Nat) {l : List Int}, Sg l → smn n (dfn n l) = l
  | 0, _, _ => rfl
  | n + 1, l, h => by rw [dfn_succ, smn, sm_df (dfn_Sg n h), smn_dfn n h]

/-- numbers with a sign as numbers without -/
def zs : List Int → List Int
  | [] => []
  | x :: t => (zz x : Int) :: zs t
def us : List Int → List Int
  | [] => []
  | x :: t => uz x.toNat :: us t
theorem zs_length : ∀ l : List Int, (zs l).length = l.length
  | [] => rfl
  | x :: t => by simp [zs, zs_length t]
theorem us_length : ∀ l : List Int, (us l).length = l.length
  | [] => rfl
  | x :: t => by simp [us, us_length t]
theorem zs_Wd : ∀ {l : List Int}, Sg l → Wd (zs l)
  | [], _ => Wd.nil
  | x :: t, h => Wd.cons (by have := zz_lt (Sg.head h); omega) (zs_Wd (Sg.tail h))
theorem us_Sg : ∀ {l : List Int}, Wd l → Sg (us l)
  | [], _ => Sg.nil
  | x :: t, h => Sg.cons (uz_rng (by have := Wd.head h; omega)) (us_Sg (Wd.tail h))
theorem us_zs : ∀ l : List Int, us (zs l) = l
  | [] => rfl
  | x :: t => by simp only [zs, us, Int.toNat_natCast, uz_zz, us_zs t]
/-- the encoding with an order -/
def rO (n : Nat) (l : List Int) : List Int := (n : Int) :: nE (zs (dfn n l))
def shorter (a b : List Int) : List Int := if a.length < b.length then a else b
/-- the shortest encoding -/
def rE (l : List Int) : List Int := shorter (rO 2 l) (shorter (rO 1 l) (rO 0 l))

theorem rO_bt {n : Nat} (hn : n ≤ 2) {l : List Int} (h : Sg l) : Bt (rO n l) := Bt.append (Bt.one (by omega)) (nE_bt (zs_Wd (dfn_Sg n h)))
theorem rO_small {n : Nat} {l : List Int} (h : Sg l) (hl : l.length ≤ 65536) : (rO n l).length ≤ 524291 ∧ 0 < (rO n l).length := by
  have := nE_small (zs_Wd (dfn_Sg n h)) (by rw [zs_length, dfn_length]; exact hl)
  unfold rO
  simp only [List.length_cons]
  omega
theorem shorter_cases (a b : List Int) : (shorter a b = a ∨ shorter a b = b) ∧ (shorter a b).length ≤ a.length ∧ (shorter a b).length ≤ b.length := by
  unfold shorter; split <;> simp <;> omega
theorem rE_is (l : List Int) : ∃ n : Nat, n ≤ 2 ∧ rE l = rO n l := by
  unfold rE
  rcases (shorter_cases (rO 2 l) (shorter (rO 1 l) (rO 0 l))).1 with h | h
  · exact ⟨2, by omega, h⟩
  · rcases (shorter_cases (rO 1 l) (rO 0 l)).1 with k | k
    · exact ⟨1, by omega, h.trans k⟩
    · exact ⟨0, by omega, h.trans k⟩
theorem rE_least (l : List Int) {n : Nat} (hn : n ≤ 2) : (rE l).length ≤ (rO n l).length := by
  unfold rE
  have h1 := (shorter_cases (rO 2 l) (shorter (rO 1 l) (rO 0 l))).2
  have h2 := (shorter_cases (rO 1 l) (rO 0 l)).2
  match n, hn with
  | 0, _ => omega
  | 1, _ => omega
  | 2, _ => omega

end Go.Proofs.Ytfmjokmjaghehaa
