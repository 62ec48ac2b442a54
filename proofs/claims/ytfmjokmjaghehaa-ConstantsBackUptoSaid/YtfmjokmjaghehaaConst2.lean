
/- Layer 17: constants, reading and the laws. -/
import Derived.Test.YtfmjokmjaghehaaConst
set_option linter.unusedVariables false
set_option linter.unusedSimpArgs false
namespace Go.Proofs.Ytfmjokmjaghehaa
open Go.Eng

/-- segments of counts and values -/
def zp : List Int → List Int → List Smp
  | c :: cs, v :: vs => (c, (v, ())) :: zp cs vs
  | _, _ => []
theorem zp_length : ∀ {c v : List Int}, c.length = v.length → (zp c v).length = c.length
  | [], [], _ => rfl
  | x :: c, y :: v, h => by simp only [zp, List.length_cons, zp_length (show c.length = v.length by simpa using h)]
  | [], y :: v, h => by simp at h
  | x :: c, [], h => by simp at h
theorem cn_zp : ∀ {c v : List Int}, c.length = v.length → cn (zp c v) = c
  | [], [], _ => rfl
  | x :: c, y :: v, h => by
    have := cn_zp (show c.length = v.length by simpa using h)
    simp only [zp, cn, List.map_cons] at this ⊢
    rw [this]
  | [], y :: v, h => by simp at h
  | x :: c, [], h => by simp at h
theorem vl_zp : ∀ {c v : List Int}, c.length = v.length → vl (zp c v) = v
  | [], [], _ => rfl
  | x :: c, y :: v, h => by
    have := vl_zp (show c.length = v.length by simpa using h)
    simp only [zp, vl, List.map_cons] at this ⊢
    rw [this]
  | [], y :: v, h => by simp at h
  | x :: c, [], h => by simp at h
theorem zp_self : ∀ l : List Smp, zp (cn l) (vl l) = l
  | [] => rfl
  | (a, (b, ())) :: t => by
    have := zp_self t
    simp only [cn, vl, List.map_cons, zp] at this ⊢
    rw [this]
theorem zp_ok {c v : List Int} (hc : Sg c) (hv : Sg v) : SmpOk (zp c v) := by
  induction c generalizing v with
  | nil => intro s hs; cases v <;> cases hs
  | cons x c ih =>
    cases v with
    | nil => intro s hs; cases hs
    | cons y v =>
      intro s hs
      rcases List.mem_cons.1 hs with e | e
      · subst e; exact ⟨Sg.head hc, Sg.head hv⟩
      · exact ih (Sg.tail hc) (Sg.tail hv) s e

theorem setS_mid (d : List Smp) (x y : Smp) (t : List Smp) : setL (d ++ x :: t) (d.length : Int) y = (d ++ [y]) ++ t := by
  simp [setL]

theorem cDec_loop (F : Nat) {R : Type} (k : Int → List Smp → Option R) (end_ : Int) {cs vs : List Int} (hb : cs.length ≤ 100000) (hl : cs.length = vs.length) : ∀ (rc rv pc pv : List Int) (out z : List Smp), cs = pc ++ rc → vs = pv ++ rv → pc.length = pv.length → out.length = pc.length → z.length = rc.length → ∀ N, rc.length < N →
    constants_Decode_l16 F k N end_ cs vs (out ++ z) (cs.length : Int) (pc.length : Int) = k end_ (out ++ zp rc rv) := by
  intro rc
  induction rc with
  | nil =>
    intro rv pc pv out z hc hv hpl ho hz N hN
    obtain ⟨N, rfl⟩ : ∃ M, N = M + 1 := ⟨N - 1, by omega⟩
    have : z = [] := List.length_eq_zero_iff.1 hz
    subst this
    have hlen : cs.length = pc.length := by rw [hc]; simp
    unfold constants_Decode_l16
    simp (disch := omega) only [cond_true, cond_false, iteB, notf_true_iff, not_true_iff, ltI_true, leI_true, eqI_true, inI_true, cutB_true, roomB_true, makeB_true, lenI, ↓if_pos, ↓if_neg, addI_i64, subI_i64, mulI_i64, quoI_i64, remI_nn, minI_eq, maxI_eq, length_setL, length_replI, length_takeL, length_dropL, Option.bind_some, Bool.false_eq_true, if_false, if_true, not_false_eq_true, not_true_eq_false]
    rfl
  | cons x rc ih =>
    intro rv pc pv out z hc hv hpl ho hz N hN
    obtain ⟨N, rfl⟩ : ∃ M, N = M + 1 := ⟨N - 1, by omega⟩
    obtain ⟨y, z', rfl⟩ : ∃ y z', z = y :: z' := by
      cases z with
      | nil => simp at hz
      | cons y z' => exact ⟨y, z', rfl⟩
    have hl1 : cs.length = pc.length + 1 + rc.length := by rw [hc]; simp; omega
    have hl2 : vs.length = pv.length + rv.length := by rw [hv]; simp
    obtain ⟨u, rv', rfl⟩ : ∃ u rv', rv = u :: rv' := by
      cases rv with
      | nil => simp at hl2; omega
      | cons u rv' => exact ⟨u, rv', rfl⟩
    simp only [List.length_cons] at hN hz hl2
    have g1 : getL 0 cs (pc.length : Int) = x := by rw [hc]; exact get_mid pc x rc
    have g2 : getL 0 vs (pc.length : Int) = u := by rw [hv, hpl]; exact get_mid pv u rv'
    have st : setL (out ++ y :: z') (pc.length : Int) (x, (u, ())) = (out ++ [(x, (u, ()))]) ++ z' := by rw [← ho]; exact setS_mid out y _ z'
    have hol : (out ++ y :: z').length = pc.length + 1 + z'.length := by simp; omega
    have e := ih rv' (pc ++ [x]) (pv ++ [u]) (out ++ [(x, (u, ()))]) z' (by rw [hc]; simp) (by rw [hv]; simp) (by simp [hpl]) (by simp [ho]) (by omega) N (by omega)
    have hpc : (((pc ++ [x]).length : Nat) : Int) = (pc.length : Int) + 1 := by simp
    rw [hpc] at e
    have hz2 : out ++ [(x, (u, ()))] ++ zp rc rv' = out ++ zp (x :: rc) (u :: rv') := by simp [zp]
    rw [hz2] at e
    have x1 : ltI (pc.length : Int) (cs.length : Int) = true := by rw [ltI_true]; omega
    have x2 : inI (pc.length : Int) cs.length = true := by rw [inI_true]; omega
    have x3 : inI (pc.length : Int) vs.length = true := by rw [inI_true]; omega
    have x4 : inI (pc.length : Int) (out ++ y :: z').length = true := by rw [inI_true]; omega
    have xa : addI .i64 (pc.length : Int) 1 = (pc.length : Int) + 1 := addI_i64 (by omega)
    unfold constants_Decode_l16
    simp only [x1, x2, x3, x4, cond_true, g1, g2, st, xa]
    exact e

theorem rcDec_loop (F : Nat) {R : Type} (k : Int → List Smp → Option R) (end_ : Int) {cs vs : List Int} (hb : cs.length ≤ 100000) (hl : cs.length = vs.length) : ∀ (rc rv pc pv : List Int) (out : List Smp), cs = pc ++ rc → vs = pv ++ rv → pc.length = pv.length → out.length = pc.length → ∀ N, rc.length < N →
    ref17_Decode_l6 F k N cs vs end_ out (pc.length : Int) = k end_ (out ++ zp rc rv) := by
  intro rc
  induction rc with
  | nil =>
    intro rv pc pv out hc hv hpl ho N hN
    obtain ⟨N, rfl⟩ : ∃ M, N = M + 1 := ⟨N - 1, by omega⟩
    have hlen : cs.length = pc.length := by rw [hc]; simp
    unfold ref17_Decode_l6
    simp (disch := omega) only [cond_true, cond_false, iteB, notf_true_iff, not_true_iff, ltI_true, leI_true, eqI_true, inI_true, cutB_true, roomB_true, makeB_true, lenI, ↓if_pos, ↓if_neg, addI_i64, subI_i64, mulI_i64, quoI_i64, remI_nn, minI_eq, maxI_eq, length_setL, length_replI, length_takeL, length_dropL, Option.bind_some, Bool.false_eq_true, if_false, if_true, not_false_eq_true, not_true_eq_false]
    simp [zp]
  | cons x rc ih =>
    intro rv pc pv out hc hv hpl ho N hN
    obtain ⟨N, rfl⟩ : ∃ M, N = M + 1 := ⟨N - 1, by omega⟩
    have hl1 : cs.length = pc.length + 1 + rc.length := by rw [hc]; simp; omega
    have hl2 : vs.length = pv.length + rv.length := by rw [hv]; simp
    obtain ⟨u, rv', rfl⟩ : ∃ u rv', rv = u :: rv' := by
      cases rv with
      | nil => simp at hl2; omega
      | cons u rv' => exact ⟨u, rv', rfl⟩
    simp only [List.length_cons] at hN hl2
    have g1 : getL 0 cs (pc.length : Int) = x := by rw [hc]; exact get_mid pc x rc
    have g2 : getL 0 vs (pc.length : Int) = u := by rw [hv, hpl]; exact get_mid pv u rv'
    have e := ih rv' (pc ++ [x]) (pv ++ [u]) (out ++ [(x, (u, ()))]) (by rw [hc]; simp) (by rw [hv]; simp) (by simp [hpl]) (by simp [ho]) N (by omega)
    have hpc : (((pc ++ [x]).length : Nat) : Int) = (pc.length : Int) + 1 := by simp
    rw [hpc] at e
    have hz2 : out ++ [(x, (u, ()))] ++ zp rc rv' = out ++ zp (x :: rc) (u :: rv') := by simp [zp]
    rw [hz2] at e
    have x1 : ltI (pc.length : Int) (lenI cs) = true := by rw [ltI_true]; unfold lenI; omega
    have x2 : inI (pc.length : Int) cs.length = true := by rw [inI_true]; omega
    have x3 : inI (pc.length : Int) vs.length = true := by rw [inI_true]; omega
    have x4 : roomB (out.length + 1) 16 = true := by rw [roomB_true]; omega
    have xa : addI .i64 (pc.length : Int) 1 = (pc.length : Int) + 1 := addI_i64 (by omega)
    unfold ref17_Decode_l6
    simp only [x1, x2, x3, x4, cond_true, g1, g2, xa]
    exact e

theorem Placed_eq (F : Nat) (b : List Int) (at_ T : Int) : records_Placed F b at_ T = some (decide (0 ≤ at_ ∧ at_ ≤ b.length ∧ 0 ≤ T ∧ T ≤ 4096), ()) := by
  unfold records_Placed leI lenI
  by_cases c1 : 0 ≤ at_ <;> by_cases c2 : at_ ≤ b.length <;> by_cases c3 : 0 ≤ T <;> by_cases c4 : T ≤ 4096 <;> simp [c1, c2, c3, c4]

theorem cut_join {b : List Int} {a m e : Int} (h0 : 0 ≤ a) (h1 : a ≤ m) (h2 : m ≤ e) (h3 : e ≤ b.length) : dropL (takeL b m) a ++ dropL (takeL b e) m = dropL (takeL b e) a := by
  unfold dropL takeL
  obtain ⟨a, rfl⟩ := Int.eq_ofNat_of_zero_le h0
  obtain ⟨m, rfl⟩ := Int.eq_ofNat_of_zero_le (show 0 ≤ m by omega)
  obtain ⟨e, rfl⟩ := Int.eq_ofNat_of_zero_le (show 0 ≤ e by omega)
  have h1' : a ≤ m := by
    have : Int.ofNat a = (a : Int) := rfl
    have : Int.ofNat m = (m : Int) := rfl
    omega
  have h2' : m ≤ e := by
    have : Int.ofNat e = (e : Int) := rfl
    have : Int.ofNat m = (m : Int) := rfl
    omega
  have k1 : (Int.ofNat a).toNat = a := rfl
  have k2 : (Int.ofNat m).toNat = m := rfl
  have k3 : (Int.ofNat e).toNat = e := rfl
  simp only [Int.ofNat_eq_natCast, Int.toNat_natCast]
  rw [show b.take m = (b.take e).take m by rw [List.take_take, Nat.min_eq_left h2']]
  generalize b.take e = c
  rw [List.drop_take, show List.drop m c = List.drop (m - a) (List.drop a c) by rw [List.drop_drop]; congr 1; omega, List.take_append_drop]

theorem rd_cut {b : List Int} (hb : Bt b) {at_ : Int} (h : (rd b at_).2.2 = 0) : dropL (takeL b (rd b at_).2.1) at_ = enc (rd b at_).1 := by
  obtain ⟨h1, h2, h3, h4⟩ := rd_ok hb h
  unfold dropL takeL
  have hlen : (b.drop at_.toNat).length = (enc (rd b at_).1).length + (b.drop (rd b at_).2.1.toNat).length := by rw [h4]; simp
  simp only [List.length_drop] at hlen
  rw [List.drop_take, h4, List.take_left' (by omega)]

/-- what is known of segments that were read -/
def ReadC (b : List Int) (at_ T : Int) (x : List Smp) (end_ e : Int) : Prop :=
  SmpOk x ∧ (e = 0 → 0 ≤ at_ ∧ x.length ≤ 4096 ∧ isum (cn x) = T ∧ at_ < end_ ∧ end_ ≤ b.length ∧ fitsB 4096 (cn x) = true ∧ hd (cn x) (vl x) = dropL (takeL b end_) at_) ∧ (e ≠ 0 → x = [] ∧ end_ = 0)

theorem ReadC.err (b : List Int) (at_ T : Int) {e : Int} (h : e ≠ 0) : ReadC b at_ T [] 0 e := ⟨(fun s hs => by cases hs), fun h2 => absurd h2 h, fun _ => ⟨rfl, rfl⟩⟩

theorem replS_length (n : Nat) : (replI (n : Int) ((0, (0, ())) : Smp)).length = n := by simp [replI]

/-- the head as the document reads it -/
theorem rHead (F : Nat) (hF : Fuel F) {b : List Int} (hb : Bt b) (hl : (b.length : Int) ≤ 140737488355328) (at_ T : Int) :
    ∃ cs vs end_ e, ref17_ReadHead F b at_ T = some (cs, vs, end_, e, ()) ∧ Sg cs ∧ Sg vs ∧
      (e = 0 → 0 ≤ at_ ∧ 0 ≤ T ∧ T ≤ 4096 ∧ cs.length = vs.length ∧ cs.length ≤ 4096 ∧ isum cs = T ∧ at_ < end_ ∧ end_ ≤ b.length ∧ fitsB 4096 cs = true ∧ hd cs vs = dropL (takeL b end_) at_) ∧ (e ≠ 0 → cs = [] ∧ vs = [] ∧ end_ = 0) ∧
      (∀ (α : Type) (K : Int → List Int → List Int → Int → Option (List α × Int × Int × Unit)),
        ((records_Placed F b at_ T).bind fun r1 => bif not r1.1 then some (([] : List α), ((0 : Int), ((2 : Int), ()))) else
          (records_Number F b at_ T).bind fun r3 => bif not (eqI r3.2.2.1 0) then some ([], (0, (r3.2.2.1, ()))) else
            (records_Counts F b r3.2.1 r3.1 T).bind fun r5 => bif not (eqI r5.2.2.2.1 0) then some ([], (0, (r5.2.2.2.1, ()))) else
              (residual_Decode F b r5.2.2.1 r3.1).bind fun r7 => bif not (eqI r7.2.2.1 0) then some ([], (0, (r7.2.2.1, ()))) else
                bif not (eqI r5.2.1 T) then some ([], (0, (10, ()))) else K r3.1 r5.1 r7.1 r7.2.1)
          = if e = 0 then K (lenI cs) cs vs end_ else some ([], (0, (e, ())))) := by
  by_cases c : 0 ≤ at_ ∧ at_ ≤ b.length ∧ 0 ≤ T ∧ T ≤ 4096
  rotate_left
  · refine ⟨[], [], 0, 2, ?_, Sg.nil, Sg.nil, fun h => by simp at h, fun _ => ⟨rfl, rfl, rfl⟩, fun α K => ?_⟩
    · unfold ref17_ReadHead
      cases h1 : ltI at_ 0 with
      | true => rfl
      | false =>
        cases h2 : ltI (lenI b) at_ with
        | true => rfl
        | false =>
          cases h3 : ltI T 0 with
          | true => rfl
          | false =>
            cases h4 : ltI 4096 T with
            | true => rfl
            | false =>
              rw [← Bool.not_eq_true, ltI_true] at h1 h2 h3 h4
              unfold lenI at h2
              omega
    · rw [Placed_eq, decide_eq_false c]
      rfl
  · have hP := Placed_eq F b at_ T
    rw [decide_eq_true c] at hP
    have x1 : ltI at_ 0 = false := by rw [← Bool.not_eq_true, ltI_true]; omega
    have x2 : ltI (lenI b) at_ = false := by rw [← Bool.not_eq_true, ltI_true]; unfold lenI; omega
    have x3 : ltI T 0 = false := by rw [← Bool.not_eq_true, ltI_true]; omega
    have x4 : ltI 4096 T = false := by rw [← Bool.not_eq_true, ltI_true]; omega
    have v1 := varint_Read_eq F hF hb hl at_
    have v2 := ref05_Read_eq F hF hb hl at_
    have hwT : IntKind.u64.wrap T = T := wrap_u64 (by omega)
    have z0 : eqI (0 : Int) 0 = true := rfl
    by_cases c0 : (rd b at_).2.2 = 0
    rotate_left
    · have y0 : eqI (rd b at_).2.2 0 = false := by rw [← Bool.not_eq_true, eqI_true]; exact c0
      refine ⟨[], [], 0, (rd b at_).2.2, ?_, Sg.nil, Sg.nil, fun h => absurd h c0, fun _ => ⟨rfl, rfl, rfl⟩, fun α K => ?_⟩
      · unfold ref17_ReadHead
        simp only [x1, x2, x3, x4, cond_false, v2, Option.bind_some, y0, Bool.not_false, cond_true]
      · rw [hP, if_neg c0]
        unfold records_Number
        simp only [v1, Option.bind_some, y0, Bool.not_false, Bool.not_true, cond_false, cond_true]
    · have y0 : eqI (rd b at_).2.2 0 = true := by rw [eqI_true]; exact c0
      obtain ⟨r1, r2, r3, r4⟩ := rd_ok hb c0
      have rc := rd_cut hb c0
      generalize hn : (rd b at_).1 = n at *
      generalize ha : (rd b at_).2.1 = a at *
      by_cases c1 : T < n
      · have y1 : ltI T (n : Int) = true := by rw [ltI_true]; exact c1
        refine ⟨[], [], 0, 10, ?_, Sg.nil, Sg.nil, fun h => by simp at h, fun _ => ⟨rfl, rfl, rfl⟩, fun α K => ?_⟩
        · unfold ref17_ReadHead
          simp only [x1, x2, x3, x4, cond_false, v2, Option.bind_some, y0, Bool.not_true, hwT, y1, cond_true]
        · rw [hP, if_neg (by omega)]
          unfold records_Number
          simp only [v1, Option.bind_some, y0, Bool.not_true, cond_false, hwT, y1, cond_true, show eqI (10 : Int) 0 = false from rfl, Bool.not_false]
      · have y1 : ltI T (n : Int) = false := by rw [← Bool.not_eq_true, ltI_true]; exact c1
        have hwn : IntKind.i64.wrap (n : Int) = (n : Int) := wrap_i64 (by omega)
        obtain ⟨xs, a2, e2, d1, d2, d3, d4, d5⟩ := nDecode F hF hb hl a (n : Int)
        by_cases c2 : e2 = 0
        rotate_left
        · have y2 : eqI e2 0 = false := by rw [← Bool.not_eq_true, eqI_true]; exact c2
          refine ⟨[], [], 0, e2, ?_, Sg.nil, Sg.nil, fun h => absurd h c2, fun _ => ⟨rfl, rfl, rfl⟩, fun α K => ?_⟩
          · unfold ref17_ReadHead
            simp only [x1, x2, x3, x4, cond_false, v2, Option.bind_some, y0, Bool.not_true, hwT, y1, hwn, d2, y2, Bool.not_false, cond_true]
          · rw [hP, if_neg c2]
            unfold records_Number records_Counts
            simp only [v1, Option.bind_some, y0, Bool.not_true, cond_false, hwT, y1, hwn, z0, d1, y2, Bool.not_false, cond_true]
        · subst c2
          obtain ⟨g1, g2, g3, g4, g5, g6⟩ := d4 rfl
          have hxl : xs.length = n := by omega
          have hmk : makeB (n : Int) (n : Int) 8 = true := by rw [makeB_true]; omega
          have hmk2 : makeB (n : Int) (n : Int) 16 = true := by rw [makeB_true]; omega
          have hC : records_Counts F b a (n : Int) T = some (mrm T xs, sat T 0 xs, a2, 0, ()) := by
            unfold records_Counts
            simp only [d1, Option.bind_some, z0, Bool.not_true, cond_false, hmk, cond_true]
            exact Counts_loop F _ (T := T) (by omega) a2 d3 (by omega) xs [] [] (replI (n : Int) 0) 0 rfl rfl (by rw [replI_length, hxl]) (by omega) F (by unfold Fuel at hF; omega)
          obtain ⟨vs, a3, e3, f1, f2, f3, f4, f5⟩ := rDecode F hF hb hl a2 (n : Int)
          by_cases c3 : e3 = 0
          rotate_left
          · have y3 : eqI e3 0 = false := by rw [← Bool.not_eq_true, eqI_true]; exact c3
            refine ⟨[], [], 0, e3, ?_, Sg.nil, Sg.nil, fun h => absurd h c3, fun _ => ⟨rfl, rfl, rfl⟩, fun α K => ?_⟩
            · unfold ref17_ReadHead
              simp only [x1, x2, x3, x4, cond_false, v2, Option.bind_some, y0, Bool.not_true, hwT, y1, hwn, d2, z0, f2, y3, Bool.not_false, cond_true]
            · rw [hP, if_neg c3]
              unfold records_Number
              simp only [v1, Option.bind_some, y0, Bool.not_true, cond_false, hwT, y1, hwn, z0, hC, f1, y3, Bool.not_false, cond_true]
          · subst c3
            obtain ⟨k1, k2, k3, k4, k5, k6⟩ := f4 rfl
            have hrun := sat_run (T := T) (by omega) xs 0 d3 (by omega) (by omega)
            rw [Int.sub_zero] at hrun
            have L := fun (R : Type) (k : Int → List Int → List Int → Int → Option R) (kr : List Int → List Int → Int → Int → Option R) => rHead_loop F k kr a3 vs d3 (by omega) xs [] [] T rfl rfl (by omega) F (by unfold Fuel at hF; omega)
            by_cases c4 : runB T xs = true
            · obtain ⟨p1, p2, p3⟩ := runB_fits d3 c4 (by omega)
              have hm := mrm_run (T := T) d3 c4 (by omega)
              have y4 : eqI (sat T 0 xs) T = true := by rw [eqI_true]; exact hrun.2 c4
              have hle : lenI (mre xs) = (n : Int) := by unfold lenI; rw [mre_length, hxl]
              have y5 : eqI (n : Int) (lenI (mre xs)) = true := by rw [eqI_true, hle]
              refine ⟨mre xs, vs, a3, 0, ?_, fun y hy => ?_, f3, fun _ => ⟨by omega, by omega, by omega, by rw [mre_length]; omega, by rw [mre_length]; omega, p2, by omega, by omega, fitsB_mono p1 (by omega), ?_⟩, fun h => absurd rfl h, fun α K => ?_⟩
              · unfold ref17_ReadHead
                simp only [x1, x2, x3, x4, cond_false, v2, Option.bind_some, y0, Bool.not_true, hwT, y1, hwn, d2, z0, f2]
                refine ((L _ _ _).1 c4).trans ?_
                simp only [List.nil_append, z0, Bool.not_true, cond_false]
              · have := fitsB_le p1 y hy
                unfold I64; omega
              · unfold hd
                rw [lss_mre, mre_length, hxl, g6, k6, ← rc, cut_join (by omega) (by omega) (by omega) (by omega), cut_join (by omega) (by omega) (by omega) (by omega)]
              · rw [hP, if_pos rfl]
                unfold records_Number
                simp only [v1, Option.bind_some, y0, Bool.not_true, cond_false, hwT, y1, hwn, z0, hC, f1, y4, hm, hle]
            · have y4 : eqI (sat T 0 xs) T = false := by rw [← Bool.not_eq_true, eqI_true]; exact fun h => c4 (hrun.1 h)
              rw [Bool.not_eq_true] at c4
              refine ⟨[], [], 0, 10, ?_, Sg.nil, Sg.nil, fun h => by simp at h, fun _ => ⟨rfl, rfl, rfl⟩, fun α K => ?_⟩
              · unfold ref17_ReadHead
                simp only [x1, x2, x3, x4, cond_false, v2, Option.bind_some, y0, Bool.not_true, hwT, y1, hwn, d2, z0, f2]
                rcases (L _ _ _).2 c4 with ⟨out', left', h1, h2⟩ | h2
                · refine h2.trans ?_
                  have : eqI left' 0 = false := by rw [← Bool.not_eq_true, eqI_true]; exact h1
                  simp only [this, Bool.not_false, cond_true]
                · exact h2
              · rw [hP, if_neg (by omega)]
                unfold records_Number
                simp only [v1, Option.bind_some, y0, Bool.not_true, cond_false, hwT, y1, hwn, z0, hC, f1, y4, Bool.not_false, cond_true]

end Go.Proofs.Ytfmjokmjaghehaa
