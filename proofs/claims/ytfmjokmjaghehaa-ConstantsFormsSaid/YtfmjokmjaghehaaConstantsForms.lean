/-
  The law ConstantsForms returns true for every input, and its arguments read afterwards as they read before. The frame was written by program.
-/
import Derived.Test.YtfmjokmjaghehaaRows
import Derived.Test.YtfmjokmjaghehaaFacts
import Derived.WalkKit
import Derived.ProofKit
import Derived.OpenShut
import Derived.ShutString
import Derived.ChangeOld
import Derived.Below
import Derived.SizedLaws
import Derived.Test.YtfmjokmjaghehaaEngE
import Derived.Test.YtfmjokmjaghehaaTiesA
import Derived.Test.YtfmjokmjaghehaaConst3
namespace Go.Proofs.Ytfmjokmjaghehaa.constantsForms
open Go.ChangeShapes Go.WideShapes Go.ChangeAt Go.RowKit Go.Eng
open Go.ChangeMaps (open_string shut_string)
set_option linter.unusedVariables false

theorem own : ownKnob Try.prog.godebug = none := by kernel_rfl
theorem laidOut : laidOutB Try.prog = true := by kernel_rfl

def IsRow (k : IntKind) (w : World) (a : Option Addr) (len cap : Nat) (zs : List Int) : Prop :=
  (a = none ∧ len = 0 ∧ cap = 0 ∧ zs = []) ∨
  ∃ x, a = some x ∧ len ≤ cap ∧ cap ≤ maxLen ∧ zs.length = cap ∧ (∀ i, i < zs.length → w.cell? (x.add i) = some (.int k (zs.getD i 0))) ∧ ∀ n ∈ zs, (Lit.int k n).wf = true

theorem row_take {k : IntKind} {w : World} {a : Option Addr} {len cap : Nat} {zs : List Int} (h : IsRow k w a len cap zs) : (zs.take len).length = len ∧ len ≤ maxLen ∧ ∀ n ∈ zs.take len, (Lit.int k n).wf = true := by
  rcases h with ⟨_, rfl, _, rfl⟩ | ⟨_, _, h1, h2, h3, _, h4⟩
  · exact ⟨rfl, Nat.zero_le _, fun n hn => by simp at hn⟩
  · exact ⟨by rw [List.length_take]; omega, by omega, fun n hn => h4 n (List.mem_of_mem_take hn)⟩

theorem walk (v0 : Value) (y0 : Ty.den (.slice (.pair (.int .i64) (.pair (.int .i64) .unit)))) (a1 : Option Addr) (len1 cap1 : Nat) (z1 : List Int) (a2 : Int) (w : World) (f0 : Plain (heapM w) v0 (.d (.slice (.pair (.int .i64) (.pair (.int .i64) .unit))) y0)) (g0 : wfT (.slice (.pair (.int .i64) (.pair (.int .i64) .unit))) y0) (n0 : List.length y0 * 16 ≤ 140737488351232) (w1 : IsRow .i64 w a1 len1 cap1 z1) (n1 : len1 * 8 ≤ 140737488351232) (w2 : (Lit.int .i64 a2).wf = true) :
    Calls Try.prog 18 #[v0, .slice a1 len1 cap1, .int .i64 a2] w fun e w' => e = .returned (.bool true) ∧ Below w.heap.size w w' := by
  obtain ⟨F, hF⟩ : ∃ F : Nat, Fuel F := ⟨1152921504606846977, by unfold Fuel; omega⟩
  have r1 := row_take w1
  have hm : (con18 F).cm [.d (.slice (.pair (.int .i64) (.pair (.int .i64) .unit))) y0, .d (.slice (.int .i64)) (z1.take len1), .d (.int .i64) a2] some = some [.d .bool true] := by
    refine Eq.trans (congrArg (fun q => Option.bind q fun r => some (giveAll [.bool] r)) (ConstantsForms_true F hF (SmpOk_of g0) (by show ((List.length y0 : Nat) : Int) ≤ 8796093022208; omega) (fun x hx => rng_i64 (r1.2.2 x hx)) (by rw [r1.1]; omega) (rng_i64 w2))) ?_
    rfl
  exact law_walk (c := con18 F) (s18 F) rfl rfl (vs := [v0, .slice a1 len1 cap1, .int .i64 a2]) (ms := [.d (.slice (.pair (.int .i64) (.pair (.int .i64) .unit))) y0, .d (.slice (.int .i64)) (z1.take len1), .d (.int .i64) a2]) rfl (.cons f0 (.cons (plain_row w1) (.cons (plain_int _ _ _) .nil))) hm

set_option maxRecDepth 100000 in
theorem lifted (os : Os) (started : os.Started) (H : Type) (enc : TypeId × Value → H) :
    ReturnsInHanded {} Try.checked os 18 .any (Rows.constantsFormsSpec.pre6 enc Try.prog Try.f18 Rows.constantsFormsRow.domain false) (Rows.constantsFormsSpec.post enc Try.prog Try.f18 false true false false) := by
  refine returnsInHanded_of_change_sized (C := Try.checked) own started (by kernel_rfl) Try.func18
    (ChangeSpec.witness6 (enc := enc) (C := Try.checked) false ⟨#[], #[.slice none 0 0, .slice none 0 0, .int .i64 0], []⟩ 8 (by kernel_rfl) (by kernel_rfl) (by kernel_rfl) (by kernel_rfl)) ?_
  intro W base args ds gs before hval0 hW hcnd hsz0 _
  have hsz : (DataW.weightsEach Try.prog (Try.f18.params.toList ++ Rows.constantsFormsSpec.plain.varTypes Try.prog) (ds ++ gs)).all (· ≤ reachBytes) = true := hsz0
  clear hsz0
  have hval : ∀ (j : Nat) t v, Try.f18.params[j]? = some t → args[j]? = some v → Value.okWide Try.prog W .any base t v := hval0
  have hW' := hW
  obtain ⟨p, q, hA0, hV, rfl, hfz, hnd⟩ := hW
  have hA : DataW.TrodAll enc Try.prog W 0 (fun _ => true) true Try.f18.params.toList args.toList ds p := hA0
  rw [Try.params18] at hA hval hsz
  obtain ⟨v0, vs0, d0, ds0, p0, q0, hargs, rfl, rfl, h0, r0⟩ := trodAll_cons hA
  obtain ⟨v1, vs1, d1, ds1, p1, q1, rfl, rfl, rfl, h1, r1⟩ := trodAll_cons r0
  obtain ⟨v2, vs2, d2, ds2, p2, q2, rfl, rfl, rfl, h2, r2⟩ := trodAll_cons r1
  obtain ⟨rfl, rfl, rfl⟩ := trodAll_nil r2
  obtain rfl : args = #[v0, v1, v2] := by cases args; simp_all
  obtain ⟨rfl, rfl⟩ := trodVars_none hV
  have k0 := h0
  have lt0 : ∀ x ∈ p0, x.block < W.heap.size := by obtain ⟨m, hm⟩ := k0; exact DataW.trod_lt m _ _ _ hm
  obtain ⟨y0, f0, g0, e0⟩ := open_slice (T := (.pair (.int .i64) (.pair (.int .i64) .unit))) (by kernel_rfl) (hval 0 74 v0 rfl rfl) h0
  have n0 : List.length y0 * 16 ≤ 140737488351232 := by
    rcases e0 with e | ⟨el, sp, hd, hl⟩
    · rw [e]; omega
    · have hs := sized_slice hsz (j := 0) (t := 74) (e := 78) rfl (congrArg some hd) Try.underlying74
      rw [(by kernel_rfl : Try.prog.bytesOf 78 = 16)] at hs
      simp only [reachBytes] at hs
      rw [← hl]
      omega
  obtain ⟨a1, len1, cap1, rfl⟩ := okWide_slice Try.underlying23 (hval 1 23 v1 rfl rfl)
  have k1 := h1
  have lt1 : ∀ x ∈ p1, x.block < W.heap.size := by obtain ⟨m, hm⟩ := k1; exact DataW.trod_lt m _ _ _ hm
  obtain ⟨z1, w1, n1⟩ : ∃ zs, IsRow .i64 W a1 len1 cap1 zs ∧ len1 * 8 ≤ 140737488351232 := by
    obtain ⟨fuel, hf⟩ := h1
    rcases open_ints Try.underlying23 Try.underlying3 (by kernel_rfl) hf with ⟨hcs, _⟩ | ⟨x, l, c, zs, hcs, _, hl, hm, hz, hx, hcell, hwz⟩
    · simp [Value.cells] at hcs
      obtain ⟨rfl, rfl, rfl⟩ := hcs
      exact ⟨[], .inl ⟨rfl, rfl, rfl, rfl⟩, by omega⟩
    · simp [Value.cells] at hcs
      obtain ⟨rfl, rfl, rfl⟩ := hcs
      obtain ⟨hd, _⟩ := Prod.mk.inj hx
      have hs := sized_slice hsz (j := 1) (t := 23) (e := 3) rfl (congrArg some hd) Try.underlying23
      rw [(by kernel_rfl : Try.prog.bytesOf 3 = 8)] at hs
      simp only [lits, List.length_map, List.length_take, List.length_drop, reachBytes] at hs
      have hz2 : zs.length = cap1 := by simpa using hz
      exact ⟨zs, .inr ⟨_, rfl, hl, hm, by simpa using hz, hcell, hwz⟩, by omega⟩
  obtain ⟨a2, rfl, rfl, rfl, w2⟩ := open_int Try.underlying3 (hval 2 3 v2 rfl rfl) h2
  clear hA0 hval0
  refine (walk v0 y0 a1 len1 cap1 z1 a2 W f0 g0 n0 w1 n1 w2).mono fun e W' ⟨he, bel⟩ => ?_
  subst he
  exact ⟨_, rfl, _, _, _, [], _, [], hW', trodAll_mk1 (shut_bool Try.underlying4 _), (trodAll_cons_mk (Below.trod laidOut (by kernel_rfl) (of_decide_eq_true (by kernel_rfl)) k0 bel lt0) (trodAll_cons_mk (Below.trod laidOut (by kernel_rfl) (of_decide_eq_true (by kernel_rfl)) k1 bel lt1) (trodAll_cons_mk (shut_int Try.underlying3 w2) trodAll_mk0))), rfl, bel.frame _, fun h => by cases h⟩

theorem closed : joinedFacts Try.prog 18 Try.f18 Rows.constantsFormsSpec Rows.constantsFormsRow = true := by
  unfold joinedFacts
  rw [factMay, factLift, factMake]
  kernel_rfl

theorem over : Rows.constantsFormsRow.holds Try.pinned (OpenSpec.ofChange Rows.constantsFormsSpec) :=
  OpenClaim.holds_of_wide 18 Try.f18 rfl rfl rfl rfl rfl rfl rfl ⟨rfl, rfl, rfl, rfl, rfl⟩ rfl rfl rfl rfl rfl (by kernel_rfl) Try.func18 closed
    (of_decide_eq_true (by kernel_rfl)) (by unfold Func.isWrapper; first | (rw [if_pos (by decide +kernel)]; kernel_rfl) | (rw [if_neg (by decide +kernel)]; exact ⟨rfl, rfl⟩))
    (fun os started H enc _ => lifted os started H enc)

/-- ████ THE STATEMENT ████ -/
theorem proved : Rows.ConstantsFormsSaid := over
#print axioms proved
end Go.Proofs.Ytfmjokmjaghehaa.constantsForms
