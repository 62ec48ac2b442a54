
/- Layers 9, 10, 11, 17: what is read by the program and by the document. -/
import Derived.Test.YtfmjokmjaghehaaGreatConst3
set_option linter.unusedVariables false
set_option linter.unusedSimpArgs false
namespace Go.Proofs.YtfmjokmjaghehaaGreat
open Go.Eng
theorem nE_le {l : List Int} (h : Wd l) : (nE l).length ≤ 1 + 10 * l.length := by
  have h1 := (nE_len h).1
  have h2 := encs_len h
  omega
theorem rE_le {l : List Int} (h : Sg l) : (rE l).length ≤ 2 + 10 * l.length := by
  have h1 := rE_least l (n := 0) (by omega)
  have h2 : (rO 0 l).length = 1 + (nE (zs (dfn 0 l))).length := by unfold rO; simp; omega
  have h3 := nE_le (zs_Wd (dfn_Sg 0 h))
  rw [zs_length, dfn_length] at h3
  omega
theorem hd_le {c v : List Int} (hf : fitsB 4096 c = true) (hn : c.length ≤ 4096) (hv : Sg v) : (hd c v).length ≤ 13 + 10 * c.length + 10 * v.length := by
  have h1 := nE_le (lss_Wd hf (by omega))
  rw [lss_length] at h1
  have h2 := rE_le hv
  have h10 := enc_le10 (v := c.length) (by omega)
  unfold hd
  simp only [List.length_append]
  omega
end Go.Proofs.YtfmjokmjaghehaaGreat
