/- Layer 5: varint, the laws. -/
import Derived.Test.YtlgfiljadnafeaaVarint5
set_option linter.unusedVariables false
set_option linter.unusedSimpArgs false
namespace Go.Proofs.Ytlgfiljadnafeaa
open Go.Eng

/- what the makers make -/
theorem made_Tape_Bool_ok (F : Nat) {t : List Int × Int × Unit} (h : TapeOk t) {n : Int} (hn : 1 ≤ n ∧ n ≤ 9223372036854775807) :
    ∃ t' v, made_Tape_Bool F t n = some (t', v, ()) ∧ TapeOk t' := by
  obtain ⟨t1, v, e, ht1, h1, h2⟩ := made_Tape_Next_ok F h (n := n) (by omega)
  refine ⟨t1, eqI v (remI 1 n), ?_, ht1⟩
  unfold made_Tape_Bool
  simp (disch := omega) only [cond_true, cond_false, iteB, notf_true_iff, not_true_iff, ltI_true, leI_true, eqI_true, inI_true, cutB_true, roomB_true, makeB_true, lenI, ↓if_pos, ↓if_neg, addI_i64, subI_i64, mulI_i64, quoI_i64, remI_nn, minI_eq, maxI_eq, length_setL, length_replI, length_takeL, length_dropL, Option.bind_some, Bool.false_eq_true, if_false, if_true, not_false_eq_true, not_true_eq_false, e]

theorem rng_wrap_i64 (x : Int) : I64 (IntKind.i64.wrap x) := by
  unfold I64
  simp only [IntKind.wrap, IntKind.bits, IntKind.signed, Bool.true_and, ge_iff_le, decide_eq_true_eq]
  split <;> omega

theorem made_Tape_Int_ok (F : Nat) (hF : Fuel F) {t : List Int × Int × Unit} (h : TapeOk t) :
    ∃ t' v, made_Tape_Int F t = some (t', v, ()) ∧ TapeOk t' ∧ I64 v := by
  obtain ⟨t1, v, e, ht1, h1, h2⟩ := made_Tape_Next_ok F h (n := 8) (by omega)
  unfold made_Tape_Int
  rw [e]
  simp only [Option.bind_some]
  by_cases c0 : v = 0
  · obtain ⟨t2, w, e2, ht2, hw⟩ := made_Tape_Word_ok F hF ht1
    refine ⟨t2, IntKind.i64.wrap w, ?_, ht2, rng_wrap_i64 w⟩
    simp (disch := omega) only [cond_true, cond_false, iteB, notf_true_iff, not_true_iff, ltI_true, leI_true, eqI_true, inI_true, cutB_true, roomB_true, makeB_true, lenI, ↓if_pos, ↓if_neg, addI_i64, subI_i64, mulI_i64, quoI_i64, remI_nn, minI_eq, maxI_eq, length_setL, length_replI, length_takeL, length_dropL, Option.bind_some, Bool.false_eq_true, if_false, if_true, not_false_eq_true, not_true_eq_false, e2]
  · by_cases c1 : v = 1
    · obtain ⟨t2, w, e2, ht2, hw0, hw⟩ := made_Tape_Next_ok F ht1 (n := 4) (by omega)
      refine ⟨t2, 9223372036854775807 - w, ?_, ht2, by unfold I64; omega⟩
      simp (disch := omega) only [cond_true, cond_false, iteB, notf_true_iff, not_true_iff, ltI_true, leI_true, eqI_true, inI_true, cutB_true, roomB_true, makeB_true, lenI, ↓if_pos, ↓if_neg, addI_i64, subI_i64, mulI_i64, quoI_i64, remI_nn, minI_eq, maxI_eq, length_setL, length_replI, length_takeL, length_dropL, Option.bind_some, Bool.false_eq_true, if_false, if_true, not_false_eq_true, not_true_eq_false, e2]
    · by_cases c2 : v = 2
      · obtain ⟨t2, w, e2, ht2, hw0, hw⟩ := made_Tape_Next_ok F ht1 (n := 4) (by omega)
        refine ⟨t2, -9223372036854775808 + w, ?_, ht2, by unfold I64; omega⟩
        simp (disch := omega) only [cond_true, cond_false, iteB, notf_true_iff, not_true_iff, ltI_true, leI_true, eqI_true, inI_true, cutB_true, roomB_true, makeB_true, lenI, ↓if_pos, ↓if_neg, addI_i64, subI_i64, mulI_i64, quoI_i64, remI_nn, minI_eq, maxI_eq, length_setL, length_replI, length_takeL, length_dropL, Option.bind_some, Bool.false_eq_true, if_false, if_true, not_false_eq_true, not_true_eq_false, e2]
      · by_cases c3 : v = 3
        · obtain ⟨t2, w, e2, ht2, hw⟩ := made_Tape_Word_ok F hF ht1
          obtain ⟨t3, u, e3, ht3, hu0, hu⟩ := made_Tape_Next_ok F ht2 (n := 64) (by omega)
          refine ⟨t3, IntKind.i64.wrap (shrI .u64 w u), ?_, ht3, rng_wrap_i64 _⟩
          simp (disch := omega) only [cond_true, cond_false, iteB, notf_true_iff, not_true_iff, ltI_true, leI_true, eqI_true, inI_true, cutB_true, roomB_true, makeB_true, lenI, ↓if_pos, ↓if_neg, addI_i64, subI_i64, mulI_i64, quoI_i64, remI_nn, minI_eq, maxI_eq, length_setL, length_replI, length_takeL, length_dropL, Option.bind_some, Bool.false_eq_true, if_false, if_true, not_false_eq_true, not_true_eq_false, e2, e3, wrap_u64]
        · obtain ⟨t2, w, e2, ht2, hw0, hw⟩ := made_Tape_Next_ok F ht1 (n := 2000) (by omega)
          refine ⟨t2, w - 1000, ?_, ht2, by unfold I64; omega⟩
          simp (disch := omega) only [cond_true, cond_false, iteB, notf_true_iff, not_true_iff, ltI_true, leI_true, eqI_true, inI_true, cutB_true, roomB_true, makeB_true, lenI, ↓if_pos, ↓if_neg, addI_i64, subI_i64, mulI_i64, quoI_i64, remI_nn, minI_eq, maxI_eq, length_setL, length_replI, length_takeL, length_dropL, Option.bind_some, Bool.false_eq_true, if_false, if_true, not_false_eq_true, not_true_eq_false, e2]

theorem made_Tape_Wide_loop (F : Nat) (hF : Fuel F) : ∀ (m : Nat) (t : List Int × Int × Unit) (x2 : W) (s : Bool) (ws : List Int), TapeOk t → Wd ws → ws.length = 4 → m ≤ 4 → ∀ N, m < N →
    ∃ t' ws', TapeOk t' ∧ Wd ws' ∧ ws'.length = 4 ∧ ∀ (R : Type) (k : List Int × Int × Unit → W → W → Option R), made_Tape_Wide_l3 F k N t x2 (s, ws, ()) (m : Int) = k t' x2 (s, ws', ()) := by
  intro m
  induction m with
  | zero =>
    intro t x2 s ws ht hw hl hm N hN
    obtain ⟨N, rfl⟩ : ∃ M, N = M + 1 := ⟨N - 1, by omega⟩
    refine ⟨t, ws, ht, hw, hl, fun R k => ?_⟩
    unfold made_Tape_Wide_l3
    simp (disch := omega) only [cond_true, cond_false, iteB, notf_true_iff, not_true_iff, ltI_true, leI_true, eqI_true, inI_true, cutB_true, roomB_true, makeB_true, lenI, ↓if_pos, ↓if_neg, addI_i64, subI_i64, mulI_i64, quoI_i64, remI_nn, minI_eq, maxI_eq, length_setL, length_replI, length_takeL, length_dropL, Option.bind_some, Bool.false_eq_true, if_false, if_true, not_false_eq_true, not_true_eq_false]
  | succ m ih =>
    intro t x2 s ws ht hw hl hm N hN
    obtain ⟨N, rfl⟩ : ∃ M, N = M + 1 := ⟨N - 1, by omega⟩
    obtain ⟨t1, v, e1, ht1, hv⟩ := made_Tape_Word_ok F hF ht
    obtain ⟨t2, b, e2, ht2⟩ := made_Tape_Bool_ok F ht1 (n := 4) (by omega)
    have hcast : ((m + 1 : Nat) : Int) = (m : Int) + 1 := by omega
    cases b
    · obtain ⟨t', ws', g1, g2, g3, g4⟩ := ih t2 x2 s (setL ws (m : Int) v) ht2 (hw.set _ hv) (by rw [length_setL]; exact hl) (by omega) N (by omega)
      refine ⟨t', ws', g1, g2, g3, fun R k => ?_⟩
      rw [hcast]
      unfold made_Tape_Wide_l3
      simp (disch := omega) only [cond_true, cond_false, iteB, notf_true_iff, not_true_iff, ltI_true, leI_true, eqI_true, inI_true, cutB_true, roomB_true, makeB_true, lenI, ↓if_pos, ↓if_neg, addI_i64, subI_i64, mulI_i64, quoI_i64, remI_nn, minI_eq, maxI_eq, length_setL, length_replI, length_takeL, length_dropL, Option.bind_some, Bool.false_eq_true, if_false, if_true, not_false_eq_true, not_true_eq_false, e1, e2]
      rw [show (m : Int) + 1 - 1 = (m : Int) by omega]
      exact g4 R k
    · obtain ⟨t3, u, e3, ht3, hu0, hu⟩ := made_Tape_Next_ok F ht2 (n := 4) (by omega)
      have hget : (0 : Int) ≤ getL (0 : Int) ([0, 1, 9223372036854775808, 18446744073709551615] : List Int) u ∧ getL (0 : Int) ([0, 1, 9223372036854775808, 18446744073709551615] : List Int) u ≤ 18446744073709551615 :=
        Wd.get (l := [0, 1, 9223372036854775808, 18446744073709551615]) (by intro x hx; simp only [List.mem_cons, List.not_mem_nil, or_false] at hx; omega) u
      obtain ⟨t', ws', g1, g2, g3, g4⟩ := ih t3 x2 s (setL (setL ws (m : Int) v) (m : Int) (getL 0 [0, 1, 9223372036854775808, 18446744073709551615] u)) ht3 ((hw.set _ hv).set _ hget) (by rw [length_setL, length_setL]; exact hl) (by omega) N (by omega)
      refine ⟨t', ws', g1, g2, g3, fun R k => ?_⟩
      rw [hcast]
      unfold made_Tape_Wide_l3
      simp (disch := omega) only [cond_true, cond_false, iteB, notf_true_iff, not_true_iff, ltI_true, leI_true, eqI_true, inI_true, cutB_true, roomB_true, makeB_true, lenI, ↓if_pos, ↓if_neg, addI_i64, subI_i64, mulI_i64, quoI_i64, remI_nn, minI_eq, maxI_eq, length_setL, length_replI, length_takeL, length_dropL, Option.bind_some, Bool.false_eq_true, if_false, if_true, not_false_eq_true, not_true_eq_false, e1, e2, e3]
      rw [show (m : Int) + 1 - 1 = (m : Int) by omega]
      exact g4 R k

theorem made_Tape_Wide_ok (F : Nat) (hF : Fuel F) {t : List Int × Int × Unit} (h : TapeOk t) :
    ∃ t' z, made_Tape_Wide F t = some (t', toW z, ()) ∧ TapeOk t' ∧ z.natAbs < top256 := by
  obtain ⟨t1, n, e1, ht1, hn0, hn⟩ := made_Tape_Next_ok F h (n := 5) (by omega)
  obtain ⟨n, rfl⟩ := Int.eq_ofNat_of_zero_le hn0
  obtain ⟨t2, ws, ht2, hw, hl, el⟩ := made_Tape_Wide_loop F hF n t1 (false, [0, 0, 0, 0], ()) false [0, 0, 0, 0] ht1 (by intro x hx; simp at hx; omega) rfl (by omega) F (by unfold Fuel at hF; omega)
  obtain ⟨t3, b, e3, ht3⟩ := made_Tape_Bool_ok F ht2 (n := 3) (by omega)
  have hWk : WOk (false, ws, ()) := ⟨hw, hl⟩
  have hVl : Vl (false, ws, ()) := by rintro ⟨h, _⟩; cases h
  unfold made_Tape_Wide
  rw [e1]
  simp only [Option.bind_some]
  rw [el]
  have fin : ∀ (t : List Int × Int × Unit) (z : Int), TapeOk t → z.natAbs < top256 → ∃ t' z', made_Tape_Wide_j10 F (fun z19 z20 => some (z19, (z20, ()))) t (false, [0, 0, 0, 0], ()) (toW z) = some (t', toW z', ()) ∧ TapeOk t' ∧ z'.natAbs < top256 := by
    intro t z ht hz
    obtain ⟨t4, b, e4, ht4⟩ := made_Tape_Bool_ok F ht (n := 2) (by omega)
    unfold made_Tape_Wide_j10
    rw [e4]
    simp only [Option.bind_some]
    cases b
    · exact ⟨t4, z, rfl, ht4, hz⟩
    · refine ⟨t4, -z, ?_, ht4, by omega⟩
      rw [cond_true, ref02_Neg_eq F hF (toW_ok hz), wi_toW]
      rfl
  rw [e3]
  simp only [Option.bind_some]
  cases b
  · rw [cond_false, ← toW_wi hWk hVl]
    exact fin t3 _ ht3 hWk.abs
  · obtain ⟨t5, v, e5, ht5, hv⟩ := made_Tape_Int_ok F hF ht3
    rw [cond_true, e5]
    simp only [Option.bind_some]
    rw [ref02_Of_eq F hv]
    exact fin t5 v ht5 (I64_lt hv)

theorem law05_known_true (F : Nat) (hF : Fuel F) : law05_known F = some (true, ()) := by
  unfold Fuel at hF
  obtain ⟨G, rfl⟩ : ∃ G, F = G + 30 := ⟨F - 30, by omega⟩
  kernel_rfl

/- a group that is an encoding -/
theorem gp_enc {n v : Nat} (hn : (enc v).length ≤ n) (b rest : List Int) : gp n (b ++ (enc v ++ rest)) (b.length : Int) = (enc v, 0) := by
  unfold gp
  have hd : (b ++ (enc v ++ rest)).drop (b.length : Int).toNat = enc v ++ rest := by simp
  have hlen : (b ++ (enc v ++ rest)).length = b.length + (enc v ++ rest).length := by simp
  rw [hd, grp_of _ n rest (enc_Grp v) hn, if_neg (by omega), if_neg]
  rw [dv_enc]
  simp

theorem gp_cut {n v m : Nat} (hn : (enc v).length ≤ n) (hm : m < (enc v).length) : gp n ((enc v).take m) 0 = ([], 4) := by
  unfold gp
  rw [show ((enc v).take m).drop (0 : Int).toNat = (enc v).take m from rfl, grp_cut _ n m (enc_Grp v) hn hm]
  rw [if_neg (by omega), if_neg]
  simp

theorem rd_enc {v : Nat} (hv : v < 2 ^ 64) (b rest : List Int) : rd (b ++ (enc v ++ rest)) (b.length : Int) = (v, (b.length : Int) + (enc v).length, 0) := by
  unfold rd
  rw [gp_enc (enc_le10 hv) b rest]
  simp only [dv_enc, if_true, if_pos hv]

theorem rdw_enc {z : Int} (hz : z.natAbs < top256) (b rest : List Int) : rdw (b ++ (enc (uw z) ++ rest)) (b.length : Int) = (z, (b.length : Int) + (enc (uw z)).length, 0) := by
  unfold rdw
  rw [gp_enc (enc_uw_len hz) b rest]
  simp only [dv_enc, if_true, wu_uw]
  rw [if_pos ⟨uw_lt hz, uw_ne z⟩]

theorem enc_mono {a b : Nat} (hb : b < 2 ^ 64) (h : a ≤ b) : (enc a).length ≤ (enc b).length := by
  rw [enc_length (by omega), enc_length hb]
  have h1 := (bitLen_le_iff (x := b) (w := Lib.bitLen b) hb).1 (Nat.le_refl _)
  have h2 := (bitLen_le_iff (x := a) (w := Lib.bitLen b) (by omega)).2 (by omega)
  omega

theorem eqT_W (w : W) : eqT (.pair .bool (.pair (.arr 4 (.int .u64)) .unit)) w w = true := by
  show (w.1 == w.1 && (eqT (.arr 4 (.int .u64)) w.2.1 w.2.1 && true)) = true
  rw [eqT_words]
  simp

theorem wi_word (z : Int) : WOk (toW z) → wi (false, (toW z).2) = (z.natAbs : Int) := by
  intro h
  unfold wi
  simp only [Bool.false_eq_true, if_false]
  rw [show wv (toW z).2.1 = z.natAbs from wv_pad4 _]

/-- The law VarintZigzag. -/
theorem VarintZigzag_true (F : Nat) (hF : Fuel F) {x0 x1 x2 : Int} (h0 : I64 x0) (h1 : I64 x1) (h2 : 0 ≤ x2 ∧ x2 ≤ 18446744073709551615) : law05_VarintZigzag F x0 x1 x2 = some (true, ()) := by
  unfold law05_VarintZigzag
  have k0 := toW_ok (I64_lt h0)
  have k1 := toW_ok (I64_lt h1)
  rw [ref02_Of_eq F h0, ref02_Of_eq F h1]
  simp only [Option.bind_some]
  rw [ref02_Compare_eq F hF (x := (false, (toW x0).2)) (y := (false, (toW x1).2)) k0 k1, wi_word x0 k0, wi_word x1 k1, law05_known_true F hF, varint_Zigzag_eq F h0]
  simp only [Option.bind_some, cond_true]
  rw [varint_Unzigzag_eq F (zz_lt h0), uz_zz]
  obtain ⟨n, rfl⟩ := Int.eq_ofNat_of_zero_le h2.1
  simp only [Option.bind_some]
  rw [varint_Unzigzag_eq F (n := n) (by omega)]
  simp only [Option.bind_some]
  rw [varint_Zigzag_eq F (uz_rng (by omega)), zz_uz]
  have e1 : eqI x0 x0 = true := eqI_true.2 rfl
  have e2 : eqI (n : Int) (n : Int) = true := eqI_true.2 rfl
  simp only [Option.bind_some, e1, e2, cond_true]
  by_cases c : x0.natAbs < x1.natAbs
  · have hz : zz x0 ≤ zz x1 := by unfold zz; split <;> split <;> omega
    have hm := enc_mono (zz_lt h1) hz
    have hlt : ltI (if (x0.natAbs : Int) < x1.natAbs then -1 else if (x1.natAbs : Int) < x0.natAbs then 1 else 0) 0 = true := by
      rw [ltI_true, if_pos (by omega)]; omega
    have hle : leI ((enc (zz x0)).length : Int) ((enc (zz x1)).length : Int) = true := by rw [leI_true]; omega
    rw [hlt, varint_Size_eq F (zz_lt h0)]
    simp only [Bool.not_true, cond_false, Option.bind_some]
    rw [varint_Zigzag_eq F h1]
    simp only [Option.bind_some]
    rw [varint_Size_eq F (zz_lt h1)]
    simp only [Option.bind_some, hle]
  · have hlt : ltI (if (x0.natAbs : Int) < x1.natAbs then -1 else if (x1.natAbs : Int) < x0.natAbs then 1 else 0) 0 = false := by
      rw [← Bool.not_eq_true, ltI_true, if_neg (by omega)]; split <;> omega
    rw [hlt]
    rfl

/-- The law VarintCut. -/
theorem VarintCut_true (F : Nat) (hF : Fuel F) {x0 x2 : Int} {t : List Int} (h0 : 0 ≤ x0 ∧ x0 ≤ 18446744073709551615) (ht : ∀ x ∈ t, I64 x) (htl : (t.length : Int) ≤ 140737488355328) (h2 : I64 x2) : law05_VarintCut F x0 t x2 = some (true, ()) := by
  obtain ⟨t0, e0, ht0⟩ := made_New_ok F htl ht
  obtain ⟨t1, z, e1, ht1, hz⟩ := made_Tape_Wide_ok F hF ht0
  obtain ⟨v, rfl⟩ := Int.eq_ofNat_of_zero_le h0.1
  have hv : v < 2 ^ 64 := by omega
  have hroom : Room [] := by simp [Room]
  have hW := toW_ok hz
  have e2 := varint_Append_eq F hF hroom hv
  have e3 := varint_AppendWide_eq F hF hroom hW
  rw [wi_toW] at e3
  have hl1 := enc_le10 hv
  have hl2 := enc_uw_len hz
  have hp1 : 0 < (enc v).length := List.length_pos_iff.2 (enc_ne v)
  have hp2 : 0 < (enc (uw z)).length := List.length_pos_iff.2 (enc_ne (uw z))
  have m1 := made_Mod_pos F h2 (y := ((enc v).length : Int)) (by omega)
  have m2 := made_Mod_pos F h2 (y := ((enc (uw z)).length : Int)) (by omega)
  have a0 := Int.emod_nonneg x2 (b := ((enc v).length : Int)) (by omega)
  have a1 := Int.emod_lt_of_pos x2 (b := ((enc v).length : Int)) (by omega)
  have b0 := Int.emod_nonneg x2 (b := ((enc (uw z)).length : Int)) (by omega)
  have b1 := Int.emod_lt_of_pos x2 (b := ((enc (uw z)).length : Int)) (by omega)
  generalize x2 % ((enc v).length : Int) = p at *
  generalize x2 % ((enc (uw z)).length : Int) = q at *
  have r1 := varint_Read_eq F hF (b := takeL (enc v) p) (Bt.take (enc_bt v) _) (by simp [takeL]; omega) 0
  have r2 := varint_ReadWide_eq F hF (b := takeL (enc (uw z)) q) (Bt.take (enc_bt _) _) (by simp [takeL]; omega) 0
  have g1 : rd (takeL (enc v) p) 0 = (0, 0, 4) := by
    unfold rd takeL
    rw [gp_cut hl1 (by omega), if_neg (by simp)]
  have g2 : rdw (takeL (enc (uw z)) q) 0 = (0, 0, 4) := by
    unfold rdw takeL
    rw [gp_cut hl2 (by omega), if_neg (by simp)]
  rw [g1] at r1
  rw [g2] at r2
  unfold law05_VarintCut
  simp (disch := omega) only [cond_true, cond_false, iteB, notf_true_iff, not_true_iff, ltI_true, leI_true, eqI_true, inI_true, cutB_true, roomB_true, makeB_true, lenI, ↓if_pos, ↓if_neg, addI_i64, subI_i64, mulI_i64, quoI_i64, remI_nn, minI_eq, maxI_eq, length_setL, length_replI, length_takeL, length_dropL, Option.bind_some, Bool.false_eq_true, if_false, if_true, not_false_eq_true, not_true_eq_false, e0, e1, e2, e3, List.nil_append, m1, m2, r1, r2, law05_known_true F hF]
  simp [eqI]

/-- The law VarintBack, where its arguments are of bounded size. -/
theorem VarintBack_true (F : Nat) (hF : Fuel F) {b rest t : List Int} {x2 x3 : Int} (hb : Bt b) (hbl : (b.length : Int) ≤ 1048576) (hr : Bt rest) (hrl : (rest.length : Int) ≤ 1048576) (h2 : 0 ≤ x2 ∧ x2 ≤ 18446744073709551615) (h3 : I64 x3)
    (ht : ∀ x ∈ t, I64 x) (htl : (t.length : Int) ≤ 140737488355328) : law05_VarintBack F b rest x2 x3 t = some (true, ()) := by
  obtain ⟨t0, e0, ht0⟩ := made_New_ok F htl ht
  obtain ⟨t1, z, e1, ht1, hz⟩ := made_Tape_Wide_ok F hF ht0
  obtain ⟨v, rfl⟩ := Int.eq_ofNat_of_zero_le h2.1
  have hv : v < 2 ^ 64 := by omega
  have hroom : Room b := by simp [Room]; omega
  have hW := toW_ok hz
  have hzz := zz_lt h3
  have e2 := varint_Append_eq F hF hroom hv
  have e3 := varint_AppendSigned_eq F hF hroom h3
  have e4 := varint_AppendWide_eq F hF hroom hW
  rw [wi_toW] at e4
  have hl1 := enc_le10 hv
  have hl2 := enc_le10 hzz
  have hl3 := enc_uw_len hz
  have hb1 : Bt (b ++ (enc v ++ rest)) := Bt.append hb (Bt.append (enc_bt v) hr)
  have hb2 : Bt (b ++ (enc (zz x3) ++ rest)) := Bt.append hb (Bt.append (enc_bt _) hr)
  have hb3 : Bt (b ++ (enc (uw z) ++ rest)) := Bt.append hb (Bt.append (enc_bt _) hr)
  have n1 : (b ++ (enc v ++ rest)).length = b.length + (enc v).length + rest.length := by simp; omega
  have n2 : (b ++ (enc (zz x3) ++ rest)).length = b.length + (enc (zz x3)).length + rest.length := by simp; omega
  have n3 : (b ++ (enc (uw z) ++ rest)).length = b.length + (enc (uw z)).length + rest.length := by simp; omega
  have r1 := varint_Read_eq F hF hb1 (by omega) (b.length : Int)
  have r2 := varint_ReadSigned_eq F hF hb2 (by omega) (b.length : Int)
  have r3 := varint_ReadWide_eq F hF hb3 (by omega) (b.length : Int)
  rw [rd_enc hv] at r1
  unfold rds at r2
  rw [rd_enc hzz, if_pos rfl, uz_zz] at r2
  rw [rdw_enc hz] at r3
  have a1 : (b ++ enc v).length = b.length + (enc v).length := by simp
  have a2 : (b ++ enc (zz x3)).length = b.length + (enc (zz x3)).length := by simp
  have a3 : (b ++ enc (uw z)).length = b.length + (enc (uw z)).length := by simp
  have k1 : roomB ((b ++ enc v).length + rest.length) 1 = true := by rw [roomB_true]; omega
  have k2 : roomB ((b ++ enc (zz x3)).length + rest.length) 1 = true := by rw [roomB_true]; omega
  have k3 : roomB ((b ++ enc (uw z)).length + rest.length) 1 = true := by rw [roomB_true]; omega
  have q1 : eqI ((b.length : Int) + (enc v).length) (subI .i64 (lenI (b ++ (enc v ++ rest))) (lenI rest)) = true := by
    unfold lenI; rw [eqI_true, subI_i64 (by omega)]; omega
  have q2 : eqI ((b.length : Int) + (enc (zz x3)).length) (subI .i64 (lenI (b ++ (enc (zz x3) ++ rest))) (lenI rest)) = true := by
    unfold lenI; rw [eqI_true, subI_i64 (by omega)]; omega
  have q3 : eqI ((b.length : Int) + (enc (uw z)).length) (subI .i64 (lenI (b ++ (enc (uw z) ++ rest))) (lenI rest)) = true := by
    unfold lenI; rw [eqI_true, subI_i64 (by omega)]; omega
  have q4 : eqI ((b.length : Int) + (enc v).length) (addI .i64 (lenI b) ((enc v).length : Int)) = true := by
    unfold lenI; rw [eqI_true, addI_i64 (by omega)]
  have z0 : eqI (0 : Int) 0 = true := eqI_true.2 rfl
  have z1 : eqI (v : Int) (v : Int) = true := eqI_true.2 rfl
  have z2 : eqI x3 x3 = true := eqI_true.2 rfl
  unfold law05_VarintBack
  rw [e0]
  simp only [Option.bind_some]
  rw [e1]
  simp only [Option.bind_some]
  rw [e2]
  simp only [Option.bind_some]
  rw [k1, cond_true, e3]
  simp only [Option.bind_some]
  rw [k2, cond_true, e4]
  simp only [Option.bind_some]
  rw [k3, cond_true, List.append_assoc, List.append_assoc, List.append_assoc]
  unfold lenI at q1 q2 q3 q4 ⊢
  rw [r1]
  simp only [Option.bind_some]
  rw [r2]
  simp only [Option.bind_some]
  rw [r3]
  simp only [Option.bind_some]
  rw [law05_known_true F hF, varint_Size_eq F hv]
  simp only [Option.bind_some, cond_true, z0, z1, z2, eqT_W, q1, q2, q3, q4]

/-- what is read by the program and by the document -/
theorem law05_reads_true (F : Nat) (hF : Fuel F) {b : List Int} (hb : Bt b) (hbl : (b.length : Int) ≤ 140737488355328) (at_ : Int) : law05_reads F b at_ = some (true, ()) := by
  unfold law05_reads
  rw [varint_Read_eq F hF hb hbl, ref05_Read_eq F hF hb hbl, varint_ReadSigned_eq F hF hb hbl, ref05_ReadSigned_eq F hF hb hbl, varint_ReadWide_eq F hF hb hbl, ref05_ReadWide_eq F hF hb hbl]
  simp only [Option.bind_some, eqT_W]
  simp [eqI]

theorem VarintReads_loop (F : Nat) {b : List Int} {x1 x3 : Int} {t : List Int × Int × Unit} {s : List Int} (h3 : 0 ≤ x3 ∧ x3 ≤ 255) : ∀ (m : Nat) (l : List Int), Bt l → (l.length : Int) + m ≤ 140737488355320 → ∀ N, m < N →
    ∃ l' : List Int, Bt l' ∧ l'.length = l.length + m ∧ ∀ (R : Type) (k : List Int → Int → Int → List Int × Int × Unit → List Int → List Int → Option R), law05_VarintReads_l5 F k N b x1 x3 t s l (m : Int) = k b x1 x3 t s l' := by
  intro m
  induction m with
  | zero =>
    intro l hl hlen N hN
    obtain ⟨N, rfl⟩ : ∃ M, N = M + 1 := ⟨N - 1, by omega⟩
    refine ⟨l, hl, rfl, fun R k => ?_⟩
    unfold law05_VarintReads_l5
    simp (disch := omega) only [cond_true, cond_false, iteB, notf_true_iff, not_true_iff, ltI_true, leI_true, eqI_true, inI_true, cutB_true, roomB_true, makeB_true, lenI, ↓if_pos, ↓if_neg, addI_i64, subI_i64, mulI_i64, quoI_i64, remI_nn, minI_eq, maxI_eq, length_setL, length_replI, length_takeL, length_dropL, Option.bind_some, Bool.false_eq_true, if_false, if_true, not_false_eq_true, not_true_eq_false]
  | succ m ih =>
    intro l hl hlen N hN
    obtain ⟨N, rfl⟩ : ∃ M, N = M + 1 := ⟨N - 1, by omega⟩
    obtain ⟨l', g1, g2, g3⟩ := ih (l ++ [128 + x3 % 128]) (hl.append (Bt.one (by omega))) (by simp; omega) N (by omega)
    refine ⟨l', g1, by rw [g2]; simp; omega, fun R k => ?_⟩
    have hcast : ((m + 1 : Nat) : Int) = (m : Int) + 1 := by omega
    rw [hcast]
    unfold law05_VarintReads_l5
    simp (disch := omega) only [cond_true, cond_false, iteB, notf_true_iff, not_true_iff, ltI_true, leI_true, eqI_true, inI_true, cutB_true, roomB_true, makeB_true, lenI, ↓if_pos, ↓if_neg, addI_i64, subI_i64, mulI_i64, quoI_i64, remI_nn, minI_eq, maxI_eq, length_setL, length_replI, length_takeL, length_dropL, Option.bind_some, Bool.false_eq_true, if_false, if_true, not_false_eq_true, not_true_eq_false, addI_u8]
    rw [show (m : Int) + 1 - 1 = (m : Int) by omega]
    exact g3 R k

/-- The law VarintReads. -/
theorem VarintReads_true (F : Nat) (hF : Fuel F) {b t : List Int} {x1 x3 x4 : Int} (hb : Bt b) (hbl : (b.length : Int) ≤ 140737488351232) (h1 : I64 x1) (ht : ∀ x ∈ t, I64 x) (htl : (t.length : Int) ≤ 140737488355328) (h3 : 0 ≤ x3 ∧ x3 ≤ 255) (h4 : I64 x4) :
    law05_VarintReads F b x1 t x3 x4 = some (true, ()) := by
  obtain ⟨t0, e0, ht0⟩ := made_New_ok F htl ht
  obtain ⟨t1, w, e1, ht1, hw⟩ := made_Tape_Word_ok F hF ht0
  obtain ⟨v, rfl⟩ := Int.eq_ofNat_of_zero_le hw.1
  have hv : v < 2 ^ 64 := by omega
  have hroom : Room [] := by simp [Room]
  have e2 := ref05_Append_eq F hF hroom hv
  obtain ⟨t2, z, e3, ht2, hz⟩ := made_Tape_Wide_ok F hF ht1
  have hl1 := enc_le10 hv
  have hl3 := enc_uw_len hz
  have e4 := ref05_AppendWide_eq F hF (b := [] ++ enc v) (by simp [Room]; omega) (toW_ok hz)
  rw [wi_toW] at e4
  have e5 := made_Mod_pos F h4 (y := 40) (by omega)
  have hm0 := Int.emod_nonneg x4 (b := 40) (by omega)
  have hm1 := Int.emod_lt_of_pos x4 (b := 40) (by omega)
  obtain ⟨m, hm⟩ := Int.eq_ofNat_of_zero_le hm0
  have hsB : Bt ([] ++ enc v ++ enc (uw z)) := Bt.append (Bt.append Bt.nil (enc_bt v)) (enc_bt _)
  have hsl : ([] ++ enc v ++ enc (uw z)).length = (enc v).length + (enc (uw z)).length := by simp
  rw [hm] at e5
  generalize [] ++ enc v ++ enc (uw z) = s at *
  obtain ⟨l', g1, g2, g3⟩ := VarintReads_loop F (b := b) (x1 := x1) (x3 := x3) (t := t2) (s := s) h3 m (replI 0 0 ++ b) (Bt.append (Bt.repl 0) hb) (by simp [replI]; omega) F (by unfold Fuel at hF; omega)
  have g2' : l'.length = b.length + m := by rw [g2]; simp [replI]
  obtain ⟨t3, c, e6, ht3, hcB, hcl⟩ := made_Tape_Spoiled_ok F ht2 hsB (by omega)
  obtain ⟨t4, a4, e7, ht4, ha0, ha⟩ := made_Tape_Next_ok F ht3 (n := (s.length : Int) + 1) (by omega)
  obtain ⟨t5, a5, e8, ht5, hb0, hb5⟩ := made_Tape_Next_ok F ht4 (n := (c.length : Int) + 2) (by omega)
  have hq : quoI .u8 x3 16 = x3 / 16 := by
    show IntKind.u8.wrap (x3.tdiv 16) = _
    rw [Int.tdiv_eq_ediv_of_nonneg (by omega), wrap_u8 (by omega)]
  have hLB : Bt (l' ++ [x3 / 16]) := g1.append (Bt.one (by omega))
  have hLl : (l' ++ [x3 / 16]).length = l'.length + 1 := by simp
  unfold law05_VarintReads
  have hr0 : ((replI 0 (0 : Int)).length : Int) = 0 := rfl
  rw [e0]
  simp only [Option.bind_some]
  rw [e1]
  simp only [Option.bind_some]
  rw [e2]
  simp only [Option.bind_some]
  rw [e3]
  simp only [Option.bind_some]
  rw [e4]
  simp only [Option.bind_some]
  have c1 : makeB 0 60 1 = true := by rw [makeB_true]; omega
  have c2 : roomB ((replI 0 (0 : Int)).length + b.length) 1 = true := by rw [roomB_true]; simp [replI]; omega
  rw [c1, cond_true, c2, cond_true, e5]
  simp only [Option.bind_some]
  rw [g3]
  simp (disch := omega) only [cond_true, cond_false, iteB, notf_true_iff, not_true_iff, ltI_true, leI_true, eqI_true, inI_true, cutB_true, roomB_true, makeB_true, lenI, ↓if_pos, ↓if_neg, addI_i64, subI_i64, mulI_i64, quoI_i64, remI_nn, minI_eq, maxI_eq, length_setL, length_replI, length_takeL, length_dropL, Option.bind_some, Bool.false_eq_true, if_false, if_true, not_false_eq_true, not_true_eq_false, e6, law05_known_true F hF, law05_reads_true F hF hb (by omega), law05_reads_true F hF hsB (by omega), e7, law05_reads_true F hF hcB (by omega), e8, hq, law05_reads_true F hF hLB (by omega)]

theorem gp_ok0 {n : Nat} {l : List Int} (hb : Bt l) (h : (gp n l 0).2 = 0) : ∃ c rest, gp n l 0 = (c, 0) ∧ l = c ++ rest ∧ c.length ≤ n ∧ 0 < c.length ∧ enc (dv c) = c := by
  obtain ⟨_, _, c, rest, h1, h2, h3, h4, h5, h6⟩ := gp_ok hb h
  exact ⟨c, rest, h1, h2, h3, List.length_pos_iff.2 h4.ne, h5⟩

theorem VarintCanonical_step (F : Nat) (hF : Fuel F) {l : List Int} (hb : Bt l) (hl : (l.length : Int) ≤ 140737488355328) {R : Type} (k0 : Option R) (kret : Bool → Option R) {ls : List (List Int)} {i : Nat} (hi : i < ls.length) (hil : (ls.length : Int) ≤ 1000) (hg : getL [] ls (i : Int) = l) (N : Nat) :
    law05_VarintCanonical_l4 F k0 kret (N + 1) ls (i : Int) = law05_VarintCanonical_l4 F k0 kret N ls ((i : Int) + 1) := by
  have hroom : Room [] := by simp [Room]
  have hwide : law05_VarintCanonical_j9 F (fun z37 z38 => law05_VarintCanonical_l4 F k0 kret N z37 (addI .i64 z38 1)) (fun z40 => kret z40) ls (i : Int) = law05_VarintCanonical_l4 F k0 kret N ls ((i : Int) + 1) := by
    unfold law05_VarintCanonical_j9
    have hr := varint_ReadWide_eq F hF hb hl 0
    by_cases c : (rdw l 0).2.2 = 0
    · have hx : ∃ c rest, l = c ++ rest ∧ 0 < c.length ∧ c.length ≤ 37 ∧ (rdw l 0).2.1 = c.length ∧ enc (uw (rdw l 0).1) = c := by
        unfold rdw at c ⊢
        by_cases h0 : (gp 37 l 0).2 = 0
        · obtain ⟨p, rest, h1, h2, h3, h4, h5⟩ := gp_ok0 hb h0
          rw [h1] at c ⊢
          simp only [if_true] at c ⊢
          by_cases h6 : dv p < 2 * top256 ∧ dv p ≠ 1
          · simp only [if_pos h6]
            exact ⟨p, rest, h2, h4, h3, by omega, by rw [uw_wu h6.2, h5]⟩
          · rw [if_neg h6] at c; simp at c
        · rw [if_neg h0] at c; exact absurd c h0
      obtain ⟨p, rest, h2, h4, h3, h5, h6⟩ := hx
      have hp : p.length ≤ l.length := by rw [h2]; simp
      have htk : takeL l (p.length : Int) = p := by rw [h2, takeL]; simp
      have hap := varint_AppendWide_eq F hF hroom (toW_ok (rdw_abs l 0))
      rw [wi_toW, h6, List.nil_append] at hap
      rw [h5] at hr
      simp (disch := omega) only [cond_true, cond_false, iteB, notf_true_iff, not_true_iff, ltI_true, leI_true, eqI_true, inI_true, cutB_true, roomB_true, makeB_true, lenI, ↓if_pos, ↓if_neg, addI_i64, subI_i64, mulI_i64, quoI_i64, remI_nn, minI_eq, maxI_eq, length_setL, length_replI, length_takeL, length_dropL, Option.bind_some, Bool.false_eq_true, if_false, if_true, not_false_eq_true, not_true_eq_false, hg, hr, c, hap, htk, ref06_Same_eq F hF (a := p) (b := p) (by omega), decide_true]
    · simp (disch := omega) only [cond_true, cond_false, iteB, notf_true_iff, not_true_iff, ltI_true, leI_true, eqI_true, inI_true, cutB_true, roomB_true, makeB_true, lenI, ↓if_pos, ↓if_neg, addI_i64, subI_i64, mulI_i64, quoI_i64, remI_nn, minI_eq, maxI_eq, length_setL, length_replI, length_takeL, length_dropL, Option.bind_some, Bool.false_eq_true, if_false, if_true, not_false_eq_true, not_true_eq_false, hg, hr]
  have hr := varint_Read_eq F hF hb hl 0
  generalize law05_VarintCanonical_l4 F k0 kret N ls ((i : Int) + 1) = RR at hwide ⊢
  unfold law05_VarintCanonical_l4
  by_cases c : (rd l 0).2.2 = 0
  · have hx : ∃ c rest, l = c ++ rest ∧ 0 < c.length ∧ c.length ≤ 10 ∧ (rd l 0).2.1 = c.length ∧ enc (rd l 0).1 = c := by
      unfold rd at c ⊢
      by_cases h0 : (gp 10 l 0).2 = 0
      · obtain ⟨p, rest, h1, h2, h3, h4, h5⟩ := gp_ok0 hb h0
        rw [h1] at c ⊢
        simp only [if_true] at c ⊢
        by_cases h6 : dv p < 2 ^ 64
        · simp only [if_pos h6]
          exact ⟨p, rest, h2, h4, h3, by omega, h5⟩
        · rw [if_neg h6] at c; simp at c
      · rw [if_neg h0] at c; exact absurd c h0
    obtain ⟨p, rest, h2, h4, h3, h5, h6⟩ := hx
    have hp : p.length ≤ l.length := by rw [h2]; simp
    have htk : takeL l (p.length : Int) = p := by rw [h2, takeL]; simp
    have hap := varint_Append_eq F hF hroom (rd_lt l 0)
    rw [h6, List.nil_append] at hap
    rw [h5] at hr
    simp (disch := omega) only [cond_true, cond_false, iteB, notf_true_iff, not_true_iff, ltI_true, leI_true, eqI_true, inI_true, cutB_true, roomB_true, makeB_true, lenI, ↓if_pos, ↓if_neg, addI_i64, subI_i64, mulI_i64, quoI_i64, remI_nn, minI_eq, maxI_eq, length_setL, length_replI, length_takeL, length_dropL, Option.bind_some, Bool.false_eq_true, if_false, if_true, not_false_eq_true, not_true_eq_false, hg, hr, c, hap, htk, ref06_Same_eq F hF (a := p) (b := p) (by omega), decide_true]
    exact hwide
  · simp (disch := omega) only [cond_true, cond_false, iteB, notf_true_iff, not_true_iff, ltI_true, leI_true, eqI_true, inI_true, cutB_true, roomB_true, makeB_true, lenI, ↓if_pos, ↓if_neg, addI_i64, subI_i64, mulI_i64, quoI_i64, remI_nn, minI_eq, maxI_eq, length_setL, length_replI, length_takeL, length_dropL, Option.bind_some, Bool.false_eq_true, if_false, if_true, not_false_eq_true, not_true_eq_false, hg, hr]
    exact hwide

/-- The law VarintCanonical. -/
theorem VarintCanonical_true (F : Nat) (hF : Fuel F) {b t : List Int} (hb : Bt b) (hbl : (b.length : Int) ≤ 140737488351232) (ht : ∀ x ∈ t, I64 x) (htl : (t.length : Int) ≤ 140737488355328) : law05_VarintCanonical F b t = some (true, ()) := by
  obtain ⟨t0, e0, ht0⟩ := made_New_ok F htl ht
  obtain ⟨t1, w, e1, ht1, hw⟩ := made_Tape_Word_ok F hF ht0
  obtain ⟨t2, s, e2, ht2, hs0, hs⟩ := made_Tape_Next_ok F ht1 (n := 60) (by omega)
  have hsr := rng_shr (kd := .u64) (s := s) hw.1
  obtain ⟨v, hv⟩ := Int.eq_ofNat_of_zero_le hsr.1
  have hroom : Room [] := by simp [Room]
  have hv64 : v < 2 ^ 64 := by
    have : Int.ofNat v = (v : Int) := rfl
    omega
  have e3 := ref05_Append_eq F hF hroom hv64
  have hl1 := enc_le10 hv64
  rw [List.nil_append] at e3
  obtain ⟨t3, c1, e4, ht3, hc1, hcl1⟩ := made_Tape_Spoiled_ok F ht2 (enc_bt v) (by omega)
  obtain ⟨t4, z, e5, ht4, hz⟩ := made_Tape_Wide_ok F hF ht3
  have hl2 := enc_uw_len hz
  have e6 := ref05_AppendWide_eq F hF hroom (toW_ok hz)
  rw [wi_toW, List.nil_append] at e6
  obtain ⟨t5, c2, e7, ht5, hc2, hcl2⟩ := made_Tape_Spoiled_ok F ht4 (enc_bt (uw z)) (by omega)
  have fin : ∀ (R : Type) (k0 : Option R) (kret : Bool → Option R), law05_VarintCanonical_l4 F k0 kret F [b, c1, c2] 0 = k0 := by
    intro R k0 kret
    obtain ⟨G, hG⟩ : ∃ G, F = G + 1 + 1 + 1 + 1 := ⟨F - 4, by unfold Fuel at hF; omega⟩
    have s0 := fun N => VarintCanonical_step F hF hb (by omega) k0 kret (ls := [b, c1, c2]) (i := 0) (by simp) (by simp) rfl N
    have s1 := fun N => VarintCanonical_step F hF hc1 (by omega) k0 kret (ls := [b, c1, c2]) (i := 1) (by simp) (by simp) rfl N
    have s2 := fun N => VarintCanonical_step F hF hc2 (by omega) k0 kret (ls := [b, c1, c2]) (i := 2) (by simp) (by simp) rfl N
    have s3 : ∀ N, law05_VarintCanonical_l4 F k0 kret (N + 1) [b, c1, c2] 3 = k0 := by
      intro N
      unfold law05_VarintCanonical_l4
      have : ([b, c1, c2] : List (List Int)).length = 3 := rfl
      simp (disch := omega) only [cond_true, cond_false, iteB, notf_true_iff, not_true_iff, ltI_true, leI_true, eqI_true, inI_true, cutB_true, roomB_true, makeB_true, lenI, ↓if_pos, ↓if_neg, addI_i64, subI_i64, mulI_i64, quoI_i64, remI_nn, minI_eq, maxI_eq, length_setL, length_replI, length_takeL, length_dropL, Option.bind_some, Bool.false_eq_true, if_false, if_true, not_false_eq_true, not_true_eq_false, this]
    have h := ((s0 (G + 1 + 1 + 1)).trans ((s1 (G + 1 + 1)).trans ((s2 (G + 1)).trans (s3 G))))
    rw [← hG] at h
    exact h
  unfold law05_VarintCanonical
  have hws : IntKind.u64.wrap s = s := wrap_u64 (by omega)
  rw [e0]
  simp only [Option.bind_some]
  rw [e1]
  simp only [Option.bind_some]
  rw [e2]
  simp only [Option.bind_some]
  have hlt : ltI s 0 = false := by rw [← Bool.not_eq_true, ltI_true]; omega
  rw [hws, hlt, cond_false, hv, e3]
  simp only [Option.bind_some]
  rw [e4]
  simp only [Option.bind_some]
  rw [e5]
  simp only [Option.bind_some]
  rw [e6]
  simp only [Option.bind_some]
  rw [e7]
  simp only [Option.bind_some]
  rw [fin, law05_known_true F hF]
  rfl

end Go.Proofs.Ytlgfiljadnafeaa
