
/- Layers 10 and 11: stamps and residuals, the plain sums. -/
import Derived.Test.YtfmjokmjaghehaaGreatNine
set_option linter.unusedVariables false
set_option linter.unusedSimpArgs false
namespace Go.Proofs.YtfmjokmjaghehaaGreat
open Go.Eng
def Sg (l : List Int) : Prop := ∀ x ∈ l, I64 x
theorem Sg.nil : Sg [] := fun x hx => by cases hx
theorem Sg.head {x : Int} {t : List Int} (h : Sg (x :: t)) : I64 x := h x (by simp)
theorem Sg.tail {x : Int} {t : List Int} (h : Sg (x :: t)) : Sg t := fun y hy => h y (List.mem_cons_of_mem _ hy)
theorem Sg.cons {x : Int} {t : List Int} (h : I64 x) (ht : Sg t) : Sg (x :: t) := by
  intro y hy
  rcases List.mem_cons.1 hy with e | e
  · exact e ▸ h
  · exact ht y e
theorem Sg.append {l m : List Int} (h : Sg l) (k : Sg m) : Sg (l ++ m) := fun x hx => (List.mem_append.1 hx).elim (h x) (k x)
theorem Sg.get {l : List Int} (h : Sg l) (i : Int) : I64 (getL 0 l i) := getD_all (P := I64) h (by unfold I64; omega) _
theorem i64_wrap_mod (x : Int) : ∃ k : Int, IntKind.i64.wrap x = x + k * 18446744073709551616 := by
  simp only [IntKind.wrap, IntKind.bits, IntKind.signed, Bool.true_and, ge_iff_le, decide_eq_true_eq]
  split
  · exact ⟨-(x / 18446744073709551616) - 1, by omega⟩
  · exact ⟨-(x / 18446744073709551616), by omega⟩
theorem i64_uniq {x y : Int} (hx : I64 x) (hy : I64 y) {k : Int} (h : x = y + k * 18446744073709551616) : x = y := by
  unfold I64 at hx hy
  omega
def dls : Int → Int → List Int → List Int
  | _, _, [] => []
  | p, b, x :: t => (zz (IntKind.i64.wrap (x - p - b)) : Int) :: dls x (x - p) t
def dl : List Int → List Int
  | [] => []
  | [_] => []
  | p :: x :: t => (x - p - 1) :: dls x (x - p) t
/- residuals -/
def dfs : Int → List Int → List Int
  | _, [] => []
  | p, x :: t => IntKind.i64.wrap (x - p) :: dfs x t
def df : List Int → List Int
  | [] => []
  | x :: t => x :: dfs x t
def sms : Int → List Int → List Int
  | _, [] => []
  | p, x :: t => IntKind.i64.wrap (p + x) :: sms (IntKind.i64.wrap (p + x)) t
def sm : List Int → List Int
  | [] => []
  | x :: t => x :: sms x t
theorem dfs_length : ∀ (t : List Int) (p : Int), (dfs p t).length = t.length
  | [], _ => rfl
  | x :: t, p => by simp [dfs, dfs_length t]
theorem df_length (l : List Int) : (df l).length = l.length := by cases l <;> simp [df, dfs_length]
theorem sms_length : ∀ (t : List Int) (p : Int), (sms p t).length = t.length
  | [], _ => rfl
  | x :: t, p => by simp [sms, sms_length t]
theorem sm_length (l : List Int) : (sm l).length = l.length := by cases l <;> simp [sm, sms_length]
theorem dfs_Sg : ∀ (t : List Int) (p : Int), Sg (dfs p t)
  | [], _ => Sg.nil
  | x :: t, p => Sg.cons (rng_wrap_i64 _) (dfs_Sg t x)
theorem df_Sg {l : List Int} (h : Sg l) : Sg (df l) := by
  cases l with
  | nil => exact Sg.nil
  | cons x t => exact Sg.cons (Sg.head h) (dfs_Sg t x)
theorem sms_Sg : ∀ (t : List Int) (p : Int), Sg (sms p t)
  | [], _ => Sg.nil
  | x :: t, p => Sg.cons (rng_wrap_i64 _) (sms_Sg t _)
theorem sm_Sg {l : List Int} (h : Sg l) : Sg (sm l) := by
  cases l with
  | nil => exact Sg.nil
  | cons x t => exact Sg.cons (Sg.head h) (sms_Sg t x)
def dfn : Nat → List Int → List Int
  | 0, l => l
  | n + 1, l => dfn n (df l)
def smn : Nat → List Int → List Int
  | 0, l => l
  | n + 1, l => smn n (sm l)
theorem dfn_length : ∀ (n : Nat) (l : List Int), (dfn n l).length = l.length
  | 0, _ => rfl
  | n + 1, l => by rw [dfn, dfn_length n, df_length]
theorem smn_length : ∀ (n : Nat) (l : List Int), (smn n l).length = l.length
  | 0, _ => rfl
  | n + 1, l => by rw [smn, smn_length n, sm_length]
theorem dfn_Sg : ∀ (n : Nat) {l : List Int}, Sg l → Sg (dfn n l)
  | 0, _, h => h
  | n + 1, l, h => dfn_Sg n (df_Sg h)
theorem smn_Sg : ∀ (n : Nat) {l : List Int}, Sg l → Sg (smn n l)
  | 0, _, h => h
  | n + 1, l, h => smn_Sg n (sm_Sg h)
def zs : List Int → List Int
  | [] => []
  | x :: t => (zz x : Int) :: zs t
def us : List Int → List Int
  | [] => []
  | x :: t => uz x.toNat :: us t
theorem zs_length : ∀ l : List Int, (zs l).length = l.length
  | [] => rfl
  | x :: t => by simp [zs, zs_length t]
theorem us_length : ∀ l : List Int, (us l).length = l.length
  | [] => rfl
  | x :: t => by simp [us, us_length t]
theorem zs_Wd : ∀ {l : List Int}, Sg l → Wd (zs l)
  | [], _ => Wd.nil
  | x :: t, h => Wd.cons (by have := zz_lt (Sg.head h); omega) (zs_Wd (Sg.tail h))
theorem us_Sg : ∀ {l : List Int}, Wd l → Sg (us l)
  | [], _ => Sg.nil
  | x :: t, h => Sg.cons (uz_rng (by have := Wd.head h; omega)) (us_Sg (Wd.tail h))
def rO (n : Nat) (l : List Int) : List Int := (n : Int) :: nE (zs (dfn n l))
def shorter (a b : List Int) : List Int := if a.length < b.length then a else b
def rE (l : List Int) : List Int := shorter (rO 2 l) (shorter (rO 1 l) (rO 0 l))
theorem rO_bt {n : Nat} (hn : n ≤ 2) {l : List Int} (h : Sg l) : Bt (rO n l) := Bt.append (Bt.one (by omega)) (nE_bt (zs_Wd (dfn_Sg n h)))
theorem rO_small {n : Nat} {l : List Int} (h : Sg l) (hl : l.length ≤ 65536) : (rO n l).length ≤ 524291 ∧ 0 < (rO n l).length := by
  have := nE_small (zs_Wd (dfn_Sg n h)) (by rw [zs_length, dfn_length]; exact hl)
  unfold rO
  simp only [List.length_cons]
  omega
theorem shorter_cases (a b : List Int) : (shorter a b = a ∨ shorter a b = b) ∧ (shorter a b).length ≤ a.length ∧ (shorter a b).length ≤ b.length := by
  unfold shorter; split <;> simp <;> omega
theorem rE_is (l : List Int) : ∃ n : Nat, n ≤ 2 ∧ rE l = rO n l := by
  unfold rE
  rcases (shorter_cases (rO 2 l) (shorter (rO 1 l) (rO 0 l))).1 with h | h
  · exact ⟨2, by omega, h⟩
  · rcases (shorter_cases (rO 1 l) (rO 0 l)).1 with k | k
    · exact ⟨1, by omega, h.trans k⟩
    · exact ⟨0, by omega, h.trans k⟩
theorem rE_least (l : List Int) {n : Nat} (hn : n ≤ 2) : (rE l).length ≤ (rO n l).length := by
  unfold rE
  have h1 := (shorter_cases (rO 2 l) (shorter (rO 1 l) (rO 0 l))).2
  have h2 := (shorter_cases (rO 1 l) (rO 0 l)).2
  match n, hn with
  | 0, _ => omega
  | 1, _ => omega
  | 2, _ => omega
end Go.Proofs.YtfmjokmjaghehaaGreat
