
/- Layer 17: constants, reading and the laws. -/
import Derived.Test.YtfmjokmjaghehaaGreatConst
set_option linter.unusedVariables false
set_option linter.unusedSimpArgs false
namespace Go.Proofs.YtfmjokmjaghehaaGreat
open Go.Eng
theorem Placed_eq (F : Nat) (b : List Int) (at_ T : Int) : records_Placed F b at_ T = some (decide (0 ≤ at_ ∧ at_ ≤ b.length ∧ 0 ≤ T ∧ T ≤ 4096), ()) := by
  unfold records_Placed leI lenI
  by_cases c1 : 0 ≤ at_ <;> by_cases c2 : at_ ≤ b.length <;> by_cases c3 : 0 ≤ T <;> by_cases c4 : T ≤ 4096 <;> simp [c1, c2, c3, c4]
theorem cut_join {b : List Int} {a m e : Int} (h0 : 0 ≤ a) (h1 : a ≤ m) (h2 : m ≤ e) (h3 : e ≤ b.length) : dropL (takeL b m) a ++ dropL (takeL b e) m = dropL (takeL b e) a := by
  unfold dropL takeL
  obtain ⟨a, rfl⟩ := Int.eq_ofNat_of_zero_le h0
  obtain ⟨m, rfl⟩ := Int.eq_ofNat_of_zero_le (show 0 ≤ m by omega)
  obtain ⟨e, rfl⟩ := Int.eq_ofNat_of_zero_le (show 0 ≤ e by omega)
  have h1' : a ≤ m := by
    have : Int.ofNat a = (a : Int) := rfl
    have : Int.ofNat m = (m : Int) := rfl
    omega
  have h2' : m ≤ e := by
    have : Int.ofNat e = (e : Int) := rfl
    have : Int.ofNat m = (m : Int) := rfl
    omega
  have k1 : (Int.ofNat a).toNat = a := rfl
  have k2 : (Int.ofNat m).toNat = m := rfl
  have k3 : (Int.ofNat e).toNat = e := rfl
  simp only [Int.ofNat_eq_natCast, Int.toNat_natCast]
  rw [show b.take m = (b.take e).take m by rw [List.take_take, Nat.min_eq_left h2']]
  generalize b.take e = c
  rw [List.drop_take, show List.drop m c = List.drop (m - a) (List.drop a c) by rw [List.drop_drop]; congr 1; omega, List.take_append_drop]
theorem rd_cut {b : List Int} (hb : Bt b) {at_ : Int} (h : (rd b at_).2.2 = 0) : dropL (takeL b (rd b at_).2.1) at_ = enc (rd b at_).1 := by
  obtain ⟨h1, h2, h3, h4⟩ := rd_ok hb h
  unfold dropL takeL
  have hlen : (b.drop at_.toNat).length = (enc (rd b at_).1).length + (b.drop (rd b at_).2.1.toNat).length := by rw [h4]; simp
  simp only [List.length_drop] at hlen
  rw [List.drop_take, h4, List.take_left' (by omega)]
def ReadC (b : List Int) (at_ T : Int) (x : List Smp) (end_ e : Int) : Prop :=
  SmpOk x ∧ (e = 0 → 0 ≤ at_ ∧ x.length ≤ 4096 ∧ isum (cn x) = T ∧ at_ < end_ ∧ end_ ≤ b.length ∧ fitsB 4096 (cn x) = true ∧ hd (cn x) (vl x) = dropL (takeL b end_) at_) ∧ (e ≠ 0 → x = [] ∧ end_ = 0)
theorem ReadC.err (b : List Int) (at_ T : Int) {e : Int} (h : e ≠ 0) : ReadC b at_ T [] 0 e := ⟨(fun s hs => by cases hs), fun h2 => absurd h2 h, fun _ => ⟨rfl, rfl⟩⟩
theorem rHead (F : Nat) (hF : Fuel F) {b : List Int} (hb : Bt b) (hl : (b.length : Int) ≤ 140737488355328) (at_ T : Int) :
    ∃ cs vs end_ e, ref17_ReadHead F b at_ T = some (cs, vs, end_, e, ()) ∧ Sg cs ∧ Sg vs ∧
      (e = 0 → 0 ≤ at_ ∧ 0 ≤ T ∧ T ≤ 4096 ∧ cs.length = vs.length ∧ cs.length ≤ 4096 ∧ isum cs = T ∧ at_ < end_ ∧ end_ ≤ b.length ∧ fitsB 4096 cs = true ∧ hd cs vs = dropL (takeL b end_) at_) ∧ (e ≠ 0 → cs = [] ∧ vs = [] ∧ end_ = 0) ∧
      (∀ (α : Type) (K : Int → List Int → List Int → Int → Option (List α × Int × Int × Unit)),
        ((records_Placed F b at_ T).bind fun r1 => bif not r1.1 then some (([] : List α), ((0 : Int), ((2 : Int), ()))) else
          (records_Number F b at_ T).bind fun r3 => bif not (eqI r3.2.2.1 0) then some ([], (0, (r3.2.2.1, ()))) else
            (records_Counts F b r3.2.1 r3.1 T).bind fun r5 => bif not (eqI r5.2.2.2.1 0) then some ([], (0, (r5.2.2.2.1, ()))) else
              (residual_Decode F b r5.2.2.1 r3.1).bind fun r7 => bif not (eqI r7.2.2.1 0) then some ([], (0, (r7.2.2.1, ()))) else
                bif not (eqI r5.2.1 T) then some ([], (0, (10, ()))) else K r3.1 r5.1 r7.1 r7.2.1)
          = if e = 0 then K (lenI cs) cs vs end_ else some ([], (0, (e, ())))) := by
  by_cases c : 0 ≤ at_ ∧ at_ ≤ b.length ∧ 0 ≤ T ∧ T ≤ 4096
  rotate_left
  · refine ⟨[], [], 0, 2, ?_, Sg.nil, Sg.nil, fun h => by simp at h, fun _ => ⟨rfl, rfl, rfl⟩, fun α K => ?_⟩
    · unfold ref17_ReadHead
      cases h1 : ltI at_ 0 with
      | true => rfl
      | false =>
        cases h2 : ltI (lenI b) at_ with
        | true => rfl
        | false =>
          cases h3 : ltI T 0 with
          | true => rfl
          | false =>
            cases h4 : ltI 4096 T with
            | true => rfl
            | false =>
              rw [← Bool.not_eq_true, ltI_true] at h1 h2 h3 h4
              unfold lenI at h2
              omega
    · rw [Placed_eq, decide_eq_false c]
      rfl
  · have hP := Placed_eq F b at_ T
    rw [decide_eq_true c] at hP
    have x1 : ltI at_ 0 = false := by rw [← Bool.not_eq_true, ltI_true]; omega
    have x2 : ltI (lenI b) at_ = false := by rw [← Bool.not_eq_true, ltI_true]; unfold lenI; omega
    have x3 : ltI T 0 = false := by rw [← Bool.not_eq_true, ltI_true]; omega
    have x4 : ltI 4096 T = false := by rw [← Bool.not_eq_true, ltI_true]; omega
    have v1 := varint_Read_eq F hF hb hl at_
    have v2 := ref05_Read_eq F hF hb hl at_
    have hwT : IntKind.u64.wrap T = T := wrap_u64 (by omega)
    have z0 : eqI (0 : Int) 0 = true := rfl
    by_cases c0 : (rd b at_).2.2 = 0
    rotate_left
    · have y0 : eqI (rd b at_).2.2 0 = false := by rw [← Bool.not_eq_true, eqI_true]; exact c0
      refine ⟨[], [], 0, (rd b at_).2.2, ?_, Sg.nil, Sg.nil, fun h => absurd h c0, fun _ => ⟨rfl, rfl, rfl⟩, fun α K => ?_⟩
      · unfold ref17_ReadHead
        simp only [x1, x2, x3, x4, cond_false, v2, Option.bind_some, y0, Bool.not_false, cond_true]
      · rw [hP, if_neg c0]
        unfold records_Number
        simp only [v1, Option.bind_some, y0, Bool.not_false, Bool.not_true, cond_false, cond_true]
    · have y0 : eqI (rd b at_).2.2 0 = true := by rw [eqI_true]; exact c0
      obtain ⟨r1, r2, r3, r4⟩ := rd_ok hb c0
      have rc := rd_cut hb c0
      generalize hn : (rd b at_).1 = n at *
      generalize ha : (rd b at_).2.1 = a at *
      by_cases c1 : T < n
      · have y1 : ltI T (n : Int) = true := by rw [ltI_true]; exact c1
        refine ⟨[], [], 0, 10, ?_, Sg.nil, Sg.nil, fun h => by simp at h, fun _ => ⟨rfl, rfl, rfl⟩, fun α K => ?_⟩
        · unfold ref17_ReadHead
          simp only [x1, x2, x3, x4, cond_false, v2, Option.bind_some, y0, Bool.not_true, hwT, y1, cond_true]
        · rw [hP, if_neg (by omega)]
          unfold records_Number
          simp only [v1, Option.bind_some, y0, Bool.not_true, cond_false, hwT, y1, cond_true, show eqI (10 : Int) 0 = false from rfl, Bool.not_false]
      · have y1 : ltI T (n : Int) = false := by rw [← Bool.not_eq_true, ltI_true]; exact c1
        have hwn : IntKind.i64.wrap (n : Int) = (n : Int) := wrap_i64 (by omega)
        obtain ⟨xs, a2, e2, d1, d2, d3, d4, d5⟩ := nDecode F hF hb hl a (n : Int)
        by_cases c2 : e2 = 0
        rotate_left
        · have y2 : eqI e2 0 = false := by rw [← Bool.not_eq_true, eqI_true]; exact c2
          refine ⟨[], [], 0, e2, ?_, Sg.nil, Sg.nil, fun h => absurd h c2, fun _ => ⟨rfl, rfl, rfl⟩, fun α K => ?_⟩
          · unfold ref17_ReadHead
            simp only [x1, x2, x3, x4, cond_false, v2, Option.bind_some, y0, Bool.not_true, hwT, y1, hwn, d2, y2, Bool.not_false, cond_true]
          · rw [hP, if_neg c2]
            unfold records_Number records_Counts
            simp only [v1, Option.bind_some, y0, Bool.not_true, cond_false, hwT, y1, hwn, z0, d1, y2, Bool.not_false, cond_true]
        · subst c2
          obtain ⟨g1, g2, g3, g4, g5, g6⟩ := d4 rfl
          have hxl : xs.length = n := by omega
          have hmk : makeB (n : Int) (n : Int) 8 = true := by rw [makeB_true]; omega
          have hmk2 : makeB (n : Int) (n : Int) 16 = true := by rw [makeB_true]; omega
          have hC : records_Counts F b a (n : Int) T = some (mrm T xs, sat T 0 xs, a2, 0, ()) := by
            unfold records_Counts
            simp only [d1, Option.bind_some, z0, Bool.not_true, cond_false, hmk, cond_true]
            exact Counts_loop F _ (T := T) (by omega) a2 d3 (by omega) xs [] [] (replI (n : Int) 0) 0 rfl rfl (by rw [replI_length, hxl]) (by omega) F (by unfold Fuel at hF; omega)
          obtain ⟨vs, a3, e3, f1, f2, f3, f4, f5⟩ := rDecode F hF hb hl a2 (n : Int)
          by_cases c3 : e3 = 0
          rotate_left
          · have y3 : eqI e3 0 = false := by rw [← Bool.not_eq_true, eqI_true]; exact c3
            refine ⟨[], [], 0, e3, ?_, Sg.nil, Sg.nil, fun h => absurd h c3, fun _ => ⟨rfl, rfl, rfl⟩, fun α K => ?_⟩
            · unfold ref17_ReadHead
              simp only [x1, x2, x3, x4, cond_false, v2, Option.bind_some, y0, Bool.not_true, hwT, y1, hwn, d2, z0, f2, y3, Bool.not_false, cond_true]
            · rw [hP, if_neg c3]
              unfold records_Number
              simp only [v1, Option.bind_some, y0, Bool.not_true, cond_false, hwT, y1, hwn, z0, hC, f1, y3, Bool.not_false, cond_true]
          · subst c3
            obtain ⟨k1, k2, k3, k4, k5, k6⟩ := f4 rfl
            have hrun := sat_run (T := T) (by omega) xs 0 d3 (by omega) (by omega)
            rw [Int.sub_zero] at hrun
            have L := fun (R : Type) (k : Int → List Int → List Int → Int → Option R) (kr : List Int → List Int → Int → Int → Option R) => rHead_loop F k kr a3 vs d3 (by omega) xs [] [] T rfl rfl (by omega) F (by unfold Fuel at hF; omega)
            by_cases c4 : runB T xs = true
            · obtain ⟨p1, p2, p3⟩ := runB_fits d3 c4 (by omega)
              have hm := mrm_run (T := T) d3 c4 (by omega)
              have y4 : eqI (sat T 0 xs) T = true := by rw [eqI_true]; exact hrun.2 c4
              have hle : lenI (mre xs) = (n : Int) := by unfold lenI; rw [mre_length, hxl]
              have y5 : eqI (n : Int) (lenI (mre xs)) = true := by rw [eqI_true, hle]
              refine ⟨mre xs, vs, a3, 0, ?_, fun y hy => ?_, f3, fun _ => ⟨by omega, by omega, by omega, by rw [mre_length]; omega, by rw [mre_length]; omega, p2, by omega, by omega, fitsB_mono p1 (by omega), ?_⟩, fun h => absurd rfl h, fun α K => ?_⟩
              · unfold ref17_ReadHead
                simp only [x1, x2, x3, x4, cond_false, v2, Option.bind_some, y0, Bool.not_true, hwT, y1, hwn, d2, z0, f2]
                refine ((L _ _ _).1 c4).trans ?_
                simp only [List.nil_append, z0, Bool.not_true, cond_false]
              · have := fitsB_le p1 y hy
                unfold I64; omega
              · unfold hd
                rw [lss_mre, mre_length, hxl, g6, k6, ← rc, cut_join (by omega) (by omega) (by omega) (by omega), cut_join (by omega) (by omega) (by omega) (by omega)]
              · rw [hP, if_pos rfl]
                unfold records_Number
                simp only [v1, Option.bind_some, y0, Bool.not_true, cond_false, hwT, y1, hwn, z0, hC, f1, y4, hm, hle]
            · have y4 : eqI (sat T 0 xs) T = false := by rw [← Bool.not_eq_true, eqI_true]; exact fun h => c4 (hrun.1 h)
              rw [Bool.not_eq_true] at c4
              refine ⟨[], [], 0, 10, ?_, Sg.nil, Sg.nil, fun h => by simp at h, fun _ => ⟨rfl, rfl, rfl⟩, fun α K => ?_⟩
              · unfold ref17_ReadHead
                simp only [x1, x2, x3, x4, cond_false, v2, Option.bind_some, y0, Bool.not_true, hwT, y1, hwn, d2, z0, f2]
                rcases (L _ _ _).2 c4 with ⟨out', left', h1, h2⟩ | h2
                · refine h2.trans ?_
                  have : eqI left' 0 = false := by rw [← Bool.not_eq_true, eqI_true]; exact h1
                  simp only [this, Bool.not_false, cond_true]
                · exact h2
              · rw [hP, if_neg (by omega)]
                unfold records_Number
                simp only [v1, Option.bind_some, y0, Bool.not_true, cond_false, hwT, y1, hwn, z0, hC, f1, y4, Bool.not_false, cond_true]
end Go.Proofs.YtfmjokmjaghehaaGreat
