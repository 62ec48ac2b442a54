
/- Layers 9, 10, 11, 17: what is read by the program and by the document. -/
import Derived.Test.YtfmjokmjaghehaaGreatConst3
set_option linter.unusedVariables false
set_option linter.unusedSimpArgs false
namespace Go.Proofs.YtfmjokmjaghehaaGreat
open Go.Eng
theorem made_Tape_Spoiledw_ok (F : Nat) {t : List Int × Int × Unit} (h : TapeOk t) {b : List Int} (hb : Bt b) (hl : (b.length : Int) ≤ 140737488355000) :
    ∃ t' c, made_Tape_Spoiledw F t b = some (t', b, c, ()) ∧ TapeOk t' ∧ Bt c ∧ c.length ≤ b.length + 1 := by
  unfold made_Tape_Spoiledw
  obtain ⟨t1, at1, e1, ht1, ha0, ha⟩ := made_Tape_Next_ok F h (n := (b.length : Int)) (by omega)
  obtain ⟨t2, v2, e2, ht2, hv0, hv⟩ := made_Tape_Next_ok F ht1 (n := 6) (by omega)
  simp (disch := omega) only [bs, ↓if_pos, ↓if_neg, List.nil_append, e1, e2]
  have hat : 0 < (b.length : Int) → at1 < b.length := fun hp => by omega
  by_cases c0 : v2 = 0
  · obtain ⟨t3, v3, e3, ht3, h30, h3⟩ := made_Tape_Next_ok F ht2 (n := (b.length : Int) + 1) (by omega)
    simp (disch := omega) only [bs, ↓if_pos, ↓if_neg, e3]
    refine ⟨t3, _, rfl, ht3, fun x hx => hb x (List.mem_of_mem_take hx), ?_⟩
    simp [takeL]; omega
  · by_cases c1 : v2 = 1
    · obtain ⟨t3, v3, e3, ht3, h30, h3⟩ := made_Tape_Next_ok F ht2 (n := 256) (by omega)
      simp (disch := omega) only [bs, ↓if_pos, ↓if_neg, e3]
      exact ⟨t3, _, rfl, ht3, hb.append (Bt.one (rng_wrap_u8 _)), by simp⟩
    · by_cases c2 : v2 = 2
      · by_cases cl : 0 < (b.length : Int)
        · have := hat cl
          simp (disch := omega) only [bs, ↓if_pos, ↓if_neg]
          rw [if_pos (by simp; omega)]
          refine ⟨t2, _, rfl, ht2, Bt.append (fun x hx => hb x (List.mem_of_mem_take hx)) (fun x hx => hb x (List.mem_of_mem_take (List.mem_of_mem_drop hx))), ?_⟩
          simp; omega
        · simp (disch := omega) only [bs, ↓if_pos, ↓if_neg]
          exact ⟨t2, _, rfl, ht2, hb, by omega⟩
      · by_cases cl : 0 < (b.length : Int)
        · have := hat cl
          obtain ⟨t3, v3, e3, ht3, h30, h3⟩ := made_Tape_Next_ok F ht2 (n := 8) (by omega)
          have hw := rng_wrap_u64 v3
          simp (disch := omega) only [bs, ↓if_pos, ↓if_neg, e3]
          refine ⟨t3, _, rfl, ht3, hb.set _ ?_, by simp [setL]⟩
          exact rng_wrap_u8 _
        · simp (disch := omega) only [bs, ↓if_pos, ↓if_neg]
          exact ⟨t2, _, rfl, ht2, hb, by omega⟩
theorem nE_le {l : List Int} (h : Wd l) : (nE l).length ≤ 1 + 10 * l.length := by
  have h1 := (nE_len h).1
  have h2 := encs_len h
  omega
theorem rE_le {l : List Int} (h : Sg l) : (rE l).length ≤ 2 + 10 * l.length := by
  have h1 := rE_least l (n := 0) (by omega)
  have h2 : (rO 0 l).length = 1 + (nE (zs (dfn 0 l))).length := by unfold rO; simp; omega
  have h3 := nE_le (zs_Wd (dfn_Sg 0 h))
  rw [zs_length, dfn_length] at h3
  omega
theorem hd_le {c v : List Int} (hf : fitsB 4096 c = true) (hn : c.length ≤ 4096) (hv : Sg v) : (hd c v).length ≤ 13 + 10 * c.length + 10 * v.length := by
  have h1 := nE_le (lss_Wd hf (by omega))
  rw [lss_length] at h1
  have h2 := rE_le hv
  have h10 := enc_le10 (v := c.length) (by omega)
  unfold hd
  simp only [List.length_append]
  omega
end Go.Proofs.YtfmjokmjaghehaaGreat
