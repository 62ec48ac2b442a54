/- Layer 5: varint, the law of the forms. -/
import Derived.Test.YtlgfiljadnafeaaVarint6
import Derived.Test.YtlgfiljadnafeaaEngE
set_option linter.unusedVariables false
set_option linter.unusedSimpArgs false
namespace Go.Proofs.Ytlgfiljadnafeaa
open Go.Eng

theorem WOk_of {w : W} (h : wfT (.pair .bool (.pair (.arr 4 (.int .u64)) .unit)) w) : WOk w :=
  ⟨fun x hx => rng_u64 (h.2.1.2 x hx), h.2.1.1⟩

theorem VarintForms_step (F : Nat) (hF : Fuel F) {R : Type} (k0 : List Int → Int → W → List Int × Int × Unit → Option R) (kret : Bool → Option R) {b : List Int} (hbl : (b.length : Int) ≤ 140737488351232) {x2 : Int} {x8 : W} {t : List Int × Int × Unit}
    {ls : List Int} (hw : Wd ls) {i : Nat} (hi : i < ls.length) (hil : (ls.length : Int) ≤ 1000) (N : Nat) :
    law05_VarintForms_l4 F k0 kret (N + 1) b x2 x8 t ls (i : Int) = law05_VarintForms_l4 F k0 kret N b x2 x8 t ls ((i : Int) + 1) := by
  have hroom : Room b := by unfold Room; omega
  have hg := Wd.get hw (i : Int)
  obtain ⟨v, hv⟩ := Int.eq_ofNat_of_zero_le hg.1
  have hv' : getL 0 ls (i : Int) = (v : Int) := hv
  have hv64 : v < 2 ^ 64 := by omega
  have e1 := varint_Append_eq F hF hroom hv64
  have e2 := ref05_Append_eq F hF hroom hv64
  have hl := enc_le10 hv64
  have e3 := ref06_Same_eq F hF (a := b ++ enc v) (b := b ++ enc v) (by simp; omega)
  have c1 : ltI (i : Int) (lenI ls) = true := by unfold lenI; rw [ltI_true]; omega
  have c2 : inI (i : Int) ls.length = true := by rw [inI_true]; omega
  have c3 : addI .i64 (i : Int) 1 = (i : Int) + 1 := addI_i64 (by omega)
  have z1 : ∀ z : Int, eqI z z = true := fun z => eqI_true.2 rfl
  conv => lhs; unfold law05_VarintForms_l4
  simp only [c1, c2, c3, cond_true, hv', e1, e2, Option.bind_some, e3, decide_true, Bool.not_true, cond_false, varint_Size_eq F hv64, ref05_Size_eq F hF hv64, varint_Unzigzag_eq F hv64, ref05_Unzigzag_eq F hv64, z1]

/-- The law VarintForms. -/
theorem VarintForms_true (F : Nat) (hF : Fuel F) {b t : List Int} {x1 x2 : Int} {x3 : W} (hbl : (b.length : Int) ≤ 140737488351232) (h1 : 0 ≤ x1 ∧ x1 ≤ 18446744073709551615) (h2 : I64 x2) (h3 : WOk x3) (ht : ∀ x ∈ t, I64 x) (htl : (t.length : Int) ≤ 140737488355328) :
    law05_VarintForms F b x1 x2 x3 t = some (true, ()) := by
  obtain ⟨t0, e0, ht0⟩ := made_New_ok F htl ht
  obtain ⟨t1, w, e1, ht1, hw⟩ := made_Tape_Word_ok F hF ht0
  obtain ⟨t2, s, e2, ht2, hs0, hs⟩ := made_Tape_Next_ok F ht1 (n := 64) (by omega)
  obtain ⟨t3, z, e3, ht3, hz⟩ := made_Tape_Wide_ok F hF ht2
  have hroom : Room b := by unfold Room; omega
  have hs1 := rng_shr (kd := .u64) (s := 40) h1.1
  have hs2 := rng_shr (kd := .u64) (s := s) hw.1
  have hwd : Wd [x1, shrI .u64 x1 40, shrI .u64 w s] := by
    intro x hx
    simp only [List.mem_cons, List.not_mem_nil, or_false] at hx
    rcases hx with h | h | h <;> omega
  have fin : ∀ (R : Type) (k0 : List Int → Int → W → List Int × Int × Unit → Option R) (kret : Bool → Option R), law05_VarintForms_l4 F k0 kret F b x2 x3 t2 [x1, shrI .u64 x1 40, shrI .u64 w s] 0 = k0 b x2 x3 t2 := by
    intro R k0 kret
    obtain ⟨G, hG⟩ : ∃ G, F = G + 1 + 1 + 1 + 1 := ⟨F - 4, by unfold Fuel at hF; omega⟩
    have s0 := fun N => VarintForms_step F hF k0 kret hbl (x2 := x2) (x8 := x3) (t := t2) hwd (i := 0) (by simp) (by simp) N
    have s1 := fun N => VarintForms_step F hF k0 kret hbl (x2 := x2) (x8 := x3) (t := t2) hwd (i := 1) (by simp) (by simp) N
    have s2 := fun N => VarintForms_step F hF k0 kret hbl (x2 := x2) (x8 := x3) (t := t2) hwd (i := 2) (by simp) (by simp) N
    have s3 : ∀ N, law05_VarintForms_l4 F k0 kret (N + 1) b x2 x3 t2 [x1, shrI .u64 x1 40, shrI .u64 w s] 3 = k0 b x2 x3 t2 := by
      intro N
      unfold law05_VarintForms_l4
      have : ([x1, shrI .u64 x1 40, shrI .u64 w s] : List Int).length = 3 := rfl
      simp (disch := omega) only [cond_true, cond_false, iteB, notf_true_iff, not_true_iff, ltI_true, leI_true, eqI_true, inI_true, cutB_true, roomB_true, makeB_true, lenI, ↓if_pos, ↓if_neg, addI_i64, subI_i64, mulI_i64, quoI_i64, remI_nn, minI_eq, maxI_eq, length_setL, length_replI, length_takeL, length_dropL, Option.bind_some, Bool.false_eq_true, if_false, if_true, not_false_eq_true, not_true_eq_false, this]
    have h := ((s0 (G + 1 + 1 + 1)).trans ((s1 (G + 1 + 1)).trans ((s2 (G + 1)).trans (s3 G))))
    rw [← hG] at h
    exact h
  have hws : IntKind.u64.wrap s = s := wrap_u64 (by omega)
  have hlt : ltI s 0 = false := by rw [← Bool.not_eq_true, ltI_true]; omega
  have a1 := varint_AppendSigned_eq F hF hroom h2
  have a2 := ref05_AppendSigned_eq F hF hroom h2
  have a3 := varint_AppendWide_eq F hF hroom h3
  have a4 := ref05_AppendWide_eq F hF hroom h3
  have a5 := varint_AppendWide_eq F hF hroom (toW_ok hz)
  have a6 := ref05_AppendWide_eq F hF hroom (toW_ok hz)
  have l1 := enc_le10 (zz_lt h2)
  have l2 := enc_uw_len h3.abs
  have l3 := enc_uw_len hz
  rw [wi_toW] at a5 a6
  have q1 := ref06_Same_eq F hF (a := b ++ enc (zz x2)) (b := b ++ enc (zz x2)) (by simp; omega)
  have q2 := ref06_Same_eq F hF (a := b ++ enc (uw (wi x3))) (b := b ++ enc (uw (wi x3))) (by simp; omega)
  have q3 := ref06_Same_eq F hF (a := b ++ enc (uw z)) (b := b ++ enc (uw z)) (by simp; omega)
  have z1 : ∀ z : Int, eqI z z = true := fun z => eqI_true.2 rfl
  unfold law05_VarintForms
  rw [e0]
  simp only [Option.bind_some]
  rw [e1]
  simp only [Option.bind_some]
  rw [e2]
  simp only [Option.bind_some]
  rw [hws, hlt, cond_false, fin, e3, law05_known_true F hF]
  simp only [Option.bind_some, cond_true]
  rw [varint_Zigzag_eq F h2, ref05_Zigzag_eq F h2, a1, a2]
  simp only [Option.bind_some, z1, cond_true, q1, decide_true, a3, a4, q2, a5, a6, q3]

end Go.Proofs.Ytlgfiljadnafeaa
