
/- Layer 17: constants, the laws. -/
import Derived.Test.YtfmjokmjaghehaaGreatConst2
import Derived.Test.YtfmjokmjaghehaaGreatRng
set_option linter.unusedVariables false
set_option linter.unusedSimpArgs false
namespace Go.Proofs.YtfmjokmjaghehaaGreat
open Go.Eng
theorem head_back (F : Nat) (hF : Fuel F) {c v : List Int} (hf : fitsB 4096 c = true) (hn : c.length ≤ 4096) (hv : Sg v) (hcv : c.length = v.length) {b rest : List Int} (hb : Bt b) (hr : Bt rest) (hl : ((b ++ (hd c v ++ rest)).length : Int) ≤ 140737488355328) :
    records_Placed F (b ++ (hd c v ++ rest)) (b.length : Int) (isum c) = some (true, ()) ∧
    (∃ a a2, records_Number F (b ++ (hd c v ++ rest)) (b.length : Int) (isum c) = some ((c.length : Int), a, 0, ()) ∧
      records_Counts F (b ++ (hd c v ++ rest)) a (c.length : Int) (isum c) = some (c, isum c, a2, 0, ()) ∧
      residual_Decode F (b ++ (hd c v ++ rest)) a2 (c.length : Int) = some (v, (b.length : Int) + (hd c v).length, 0, ())) := by
  obtain ⟨s1, s2⟩ := fitsB_sum hf (by omega)
  have hw := lss_Wd hf (by omega)
  have hsN := nE_small hw (by rw [lss_length]; omega)
  obtain ⟨q1, q2, q3⟩ := rE_small hv (by omega)
  have hlen : (b ++ (hd c v ++ rest)).length = b.length + ((hd c v).length + rest.length) := by simp
  have hhd : (hd c v).length = (enc c.length).length + (nE (lss c)).length + (rE v).length := by unfold hd; simp only [List.length_append]
  have h10 := enc_le10 (v := c.length) (by omega)
  refine ⟨?_, (b.length : Int) + (enc c.length).length, (b.length : Int) + (enc c.length).length + (nE (lss c)).length, ?_, ?_, ?_⟩
  · rw [Placed_eq, decide_eq_true (by omega)]
  · have e1 : b ++ (hd c v ++ rest) = b ++ (enc c.length ++ (nE (lss c) ++ rE v ++ rest)) := by unfold hd; simp only [List.append_assoc]
    have hr1 := rd_enc (v := c.length) (by omega) b (nE (lss c) ++ rE v ++ rest)
    have v1 := varint_Read_eq F hF (b := b ++ (hd c v ++ rest)) (hb.append (Bt.append (hd_small hf hn hv (by omega)).2 hr)) hl (b.length : Int)
    rw [e1] at v1 ⊢
    rw [hr1] at v1
    have hwT : IntKind.u64.wrap (isum c) = isum c := wrap_u64 (by omega)
    have y1 : ltI (isum c) (c.length : Int) = false := by rw [← Bool.not_eq_true, ltI_true]; omega
    have hwn : IntKind.i64.wrap (c.length : Int) = (c.length : Int) := wrap_i64 (by omega)
    unfold records_Number
    simp only [v1, Option.bind_some, show eqI (0 : Int) 0 = true from rfl, Bool.not_true, cond_false, hwT, y1, hwn]
  · have e2 : b ++ (hd c v ++ rest) = (b ++ enc c.length) ++ (nE (lss c) ++ (rE v ++ rest)) := by unfold hd; simp only [List.append_assoc]
    have hB := nDecode_back F hF hw (by rw [lss_length]; omega) (b := b ++ enc c.length) (rest := rE v ++ rest) (hb.append (enc_bt _)) (q3.append hr) (by rw [← e2]; exact hl)
    rw [← e2, lss_length, show (((b ++ enc c.length).length : Nat) : Int) = (b.length : Int) + (enc c.length).length by simp] at hB
    have hmk : makeB (c.length : Int) (c.length : Int) 8 = true := by rw [makeB_true]; omega
    have hrun := runB_lss hf
    have hm := mrm_run (T := isum c) hw hrun (by omega)
    have hst := (sat_run (T := isum c) (by omega) (lss c) 0 hw (by omega) (by omega)).2 (by rw [Int.sub_zero]; exact hrun)
    unfold records_Counts
    simp only [hB, Option.bind_some, show eqI (0 : Int) 0 = true from rfl, Bool.not_true, cond_false, hmk, cond_true]
    have L := Counts_loop F (fun z17 z18 z19 => some (z18, (z19, (z17, ((0 : Int), ()))))) (T := isum c) (by omega) ((b.length : Int) + (enc c.length).length + (nE (lss c)).length) hw (by rw [lss_length]; omega) (lss c) [] [] (replI (c.length : Int) 0) 0 rfl rfl (by rw [replI_length, lss_length]) (by omega) F (by unfold Fuel at hF; rw [lss_length]; omega)
    rw [lss_length, hm, hst, mre_lss] at L
    rw [show lenI (lss c) = (c.length : Int) by unfold lenI; rw [lss_length]]
    exact L
  · have e3 : b ++ (hd c v ++ rest) = (b ++ enc c.length ++ nE (lss c)) ++ (rE v ++ rest) := by unfold hd; simp only [List.append_assoc]
    have hB := rDecode_back F hF hv (by omega) (b := b ++ enc c.length ++ nE (lss c)) (rest := rest) ((hb.append (enc_bt _)).append (nE_bt hw)) hr (by rw [← e3]; exact hl)
    rw [← e3, ← hcv, show (((b ++ enc c.length ++ nE (lss c)).length : Nat) : Int) = (b.length : Int) + (enc c.length).length + (nE (lss c)).length by simp only [List.length_append]; omega] at hB
    rw [hB, hhd]
    simp only [Option.some.injEq, Prod.mk.injEq, and_true, true_and]
    omega
theorem fitsB_of : ∀ {c : List Int} {left : Int}, (∀ x ∈ c, 1 ≤ x) → isum c ≤ left → fitsB left c = true
  | [], _, _, _ => rfl
  | x :: t, left, h, hs => by
    have h1 := h x (by simp)
    simp only [isum] at hs
    have h2 : ∀ y ∈ t, 1 ≤ y := fun y hy => h y (by simp [hy])
    have h3 : ∀ c : List Int, (∀ x ∈ c, 1 ≤ x) → 0 ≤ isum c := by
      intro c
      induction c with
      | nil => intro _; exact Int.le_refl _
      | cons y c ihc =>
        intro h
        have h1 := h y (by simp)
        have h2 := ihc fun z hz => h z (by simp [hz])
        simp only [isum]; omega
    have h4 := h3 t h2
    exact fitsB_cons.2 ⟨by omega, fitsB_of h2 (by omega)⟩
end Go.Proofs.YtfmjokmjaghehaaGreat
