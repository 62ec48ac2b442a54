/-
 The law SimpieceForms returns true for every input,and its arguments read afterwards as they read before. The frame was written by program.
-/
import Derived.Test.YtdhfajmcakneiaaGreatRows
import Derived.Test.YtdhfajmcakneiaaGreatFacts
import Derived.WalkKit
import Derived.ProofKit
import Derived.OpenShut
import Derived.ShutString
import Derived.ChangeOld
import Derived.Below
import Derived.SizedLaws
import Derived.Test.YtdhfajmcakneiaaGreatEngE
import Derived.Test.YtdhfajmcakneiaaGreatTiesB
import Derived.Test.YtdhfajmcakneiaaGreatLawsC
namespace Go.Proofs.YtdhfajmcakneiaaGreat.simpieceForms
open Go.ChangeShapes Go.WideShapes Go.ChangeAt Go.RowKit Go.Eng
open Go.ChangeMaps (open_string shut_string)
set_option linter.unusedVariables false

theorem own:ownKnob Tryz.prog.godebug=none:=by kernel_rfl
theorem C7w:laidOutB Tryz.prog=true:=by kernel_rfl

def D5X(k:IntKind)(w:World)(a:Option Addr)(len cap:Nat)(zs:List Int):Prop :=
 (a=none∧len=0∧cap=0∧zs=[]) ∨
 ∃ x,a=some x∧len≤cap∧cap≤maxLen∧zs.length=cap∧(∀ i,i < zs.length→w.cell? (x.add i)=some (.int k (zs.getD i 0)))∧∀ n∈zs,(Lit.int k n).wf=true

theorem D0y{k:IntKind}{w:World}{a:Option Addr}{len cap:Nat}{zs:List Int}(h:D5X k w a len cap zs):(zs.take len).length=len∧len≤maxLen∧∀ n∈zs.take len,(Lit.int k n).wf=true:=by
 rcases h with ⟨_,rfl,_,rfl⟩ | ⟨_,_,h1,h2,h3,_,h4⟩
 ·exact ⟨rfl,Nat.zero_le _,fun n hn=>by simp at hn⟩
 ·exact ⟨by rw [List.length_take]; omega,by omega,fun n hn=>h4 n (List.mem_of_mem_take hn)⟩

theorem E9N(v0:Value)(y0:Ty.den (.slice (.pair (.int .i64) (.pair (.pair (.pair .bool (.pair (.arr 4 (.int .u64)) .unit)) (.pair (.pair .bool (.pair (.arr 4 (.int .u64)) .unit)) .unit)) (.pair (.slice (.int .i64)) .unit)))))(a1:Option Addr)(len1 cap1:Nat)(z1:List Int)(w:World)(f0:A0g (A7W w) v0 (.d (.slice (.pair (.int .i64) (.pair (.pair (.pair .bool (.pair (.arr 4 (.int .u64)) .unit)) (.pair (.pair .bool (.pair (.arr 4 (.int .u64)) .unit)) .unit)) (.pair (.slice (.int .i64)) .unit)))) y0))(g0:wfT (.slice (.pair (.int .i64) (.pair (.pair (.pair .bool (.pair (.arr 4 (.int .u64)) .unit)) (.pair (.pair .bool (.pair (.arr 4 (.int .u64)) .unit)) .unit)) (.pair (.slice (.int .i64)) .unit)))) y0)(n0:List.length y0*112≤140737488351232)(s0:szT (.slice (.pair (.int .i64) (.pair (.pair (.pair .bool (.pair (.arr 4 (.int .u64)) .unit)) (.pair (.pair .bool (.pair (.arr 4 (.int .u64)) .unit)) .unit)) (.pair (.slice (.int .i64)) .unit)))) y0)(w1:D5X .i64 w a1 len1 cap1 z1)(n1:len1*8≤140737488351232) :
  Calls Tryz.prog 3 #[v0,.slice a1 len1 cap1] w fun e w'=>e=.returned (.bool true)∧Below w.heap.size w w':=by
 obtain ⟨F,hF⟩:∃ F:Nat,D9 F:=⟨1152921504606846977,by unfold D9; omega⟩
 have r1:=D0y w1
 have hm:(E4z F).cm [.d (.slice (.pair (.int .i64) (.pair (.pair (.pair .bool (.pair (.arr 4 (.int .u64)) .unit)) (.pair (.pair .bool (.pair (.arr 4 (.int .u64)) .unit)) .unit)) (.pair (.slice (.int .i64)) .unit)))) y0,.d (.slice (.int .i64)) (z1.take len1)] some=some [.d .bool true]:=by
  refine Eq.trans (congrArg (fun q=>Option.bind q fun r=>some (A2N [.bool] r)) (A7J F hF (E0f g0 s0) (by show((List.length y0:Nat):Int)≤140737488355328; omega) (fun x hx=>A6A (r1.2.2 x hx)) (by rw [r1.1]; omega))) ?_
  rfl
 exact C7W (c:=E4z F) (s3 F) rfl rfl (vs:=[v0,.slice a1 len1 cap1]) (ms:=[.d (.slice (.pair (.int .i64) (.pair (.pair (.pair .bool (.pair (.arr 4 (.int .u64)) .unit)) (.pair (.pair .bool (.pair (.arr 4 (.int .u64)) .unit)) .unit)) (.pair (.slice (.int .i64)) .unit)))) y0,.d (.slice (.int .i64)) (z1.take len1)]) rfl (.cons f0 (.cons (C3W w1) .nil)) hm

set_option maxRecDepth 100000 in
theorem E0g(os:Os)(started:os.Started)(H:Type)(enc:TypeId×Value→H) :
  ReturnsInHanded {} Tryz.checked os 3 .any (Rows.simpieceFormsSpec.pre6 enc Tryz.prog Tryz.f3 Rows.simpieceFormsRow.domain false) (Rows.simpieceFormsSpec.post enc Tryz.prog Tryz.f3 false true false false):=by
 refine returnsInHanded_of_change_sized (C:=Tryz.checked) own started (by kernel_rfl) Tryz.func3
  (ChangeSpec.witness6 (enc:=enc) (C:=Tryz.checked) false ⟨#[],#[.slice none 0 0,.slice none 0 0],[]⟩ 8 (by kernel_rfl) (by kernel_rfl) (by kernel_rfl) (by kernel_rfl)) ?_
 intro W base args ds gs before hval0 hW hcnd hsz0 _
 have hsz:(DataW.weightsEach Tryz.prog (Tryz.f3.params.toList++Rows.simpieceFormsSpec.plain.varTypes Tryz.prog) (ds++gs)).all (·≤reachBytes)=true:=hsz0
 clear hsz0
 have hval:∀ (j:Nat) t v,Tryz.f3.params[j]?=some t→args[j]?=some v→Value.okWide Tryz.prog W .any base t v:=hval0
 have hW':=hW
 obtain ⟨p,q,hA0,hV,rfl,hfz,hnd⟩:=hW
 have hA:DataW.TrodAll enc Tryz.prog W 0 (fun _=>true) true Tryz.f3.params.toList args.toList ds p:=hA0
 rw [Tryz.params3] at hA hval hsz
 obtain ⟨v0,vs0,d0,ds0,p0,q0,hargs,rfl,rfl,h0,r0⟩:=trodAll_cons hA
 obtain ⟨v1,vs1,d1,ds1,p1,q1,rfl,rfl,rfl,h1,r1⟩:=trodAll_cons r0
 obtain ⟨rfl,rfl,rfl⟩:=trodAll_nil r1
 obtain rfl:args=#[v0,v1]:=by cases args; simp_all
 obtain ⟨rfl,rfl⟩:=trodVars_none hV
 have k0:=h0
 have lt0:∀ x∈p0,x.block < W.heap.size:=by obtain ⟨m,hm⟩:=k0; exact DataW.trod_lt m _ _ _ hm
 obtain ⟨y0,f0,g0,e0,l0⟩:=C2A (T:=(.pair (.int .i64) (.pair (.pair (.pair .bool (.pair (.arr 4 (.int .u64)) .unit)) (.pair (.pair .bool (.pair (.arr 4 (.int .u64)) .unit)) .unit)) (.pair (.slice (.int .i64)) .unit)))) (by kernel_rfl) (hval 0 22 v0 rfl rfl) h0
 have s0:=l0 fun k hk=>by simpa using List.all_eq_true.1 hsz k (DataW.weights_mem_each (j:=0) (t:=22) rfl rfl k hk)
 have n0:List.length y0*112≤140737488351232:=by
  rcases e0 with e | ⟨el,sp,hd,hl⟩
  ·rw [e]; omega
  ·have hs:=sized_slice hsz (j:=0) (t:=22) (e:=56) rfl (congrArg some hd) Tryz.underlying22
   rw [(by kernel_rfl:Tryz.prog.bytesOf 56=112)] at hs
   simp only [reachBytes] at hs
   rw [← hl]
   omega
 obtain ⟨a1,len1,cap1,rfl⟩:=okWide_slice Tryz.underlying23 (hval 1 23 v1 rfl rfl)
 have k1:=h1
 have lt1:∀ x∈p1,x.block < W.heap.size:=by obtain ⟨m,hm⟩:=k1; exact DataW.trod_lt m _ _ _ hm
 obtain ⟨z1,w1,n1⟩:∃ zs,D5X .i64 W a1 len1 cap1 zs∧len1*8≤140737488351232:=by
  obtain ⟨fuel,hf⟩:=h1
  rcases open_ints Tryz.underlying23 Tryz.underlying3 (by kernel_rfl) hf with ⟨hcs,_⟩ | ⟨x,l,c,zs,hcs,_,hl,hm,hz,hx,hcell,hwz⟩
  ·simp [Value.cells] at hcs
   obtain ⟨rfl,rfl,rfl⟩:=hcs
   exact ⟨[],.inl ⟨rfl,rfl,rfl,rfl⟩,by omega⟩
  ·simp [Value.cells] at hcs
   obtain ⟨rfl,rfl,rfl⟩:=hcs
   obtain ⟨hd,_⟩:=Prod.mk.inj hx
   have hs:=sized_slice hsz (j:=1) (t:=23) (e:=3) rfl (congrArg some hd) Tryz.underlying23
   rw [(by kernel_rfl:Tryz.prog.bytesOf 3=8)] at hs
   simp only [lits,List.length_map,List.length_take,List.length_drop,reachBytes] at hs
   have hz2:zs.length=cap1:=by simpa using hz
   exact ⟨zs,.inr ⟨_,rfl,hl,hm,by simpa using hz,hcell,hwz⟩,by omega⟩
 clear hA0 hval0
 refine(E9N v0 y0 a1 len1 cap1 z1 W f0 g0 n0 s0 w1 n1).mono fun e W' ⟨he,bel⟩=>?_
 subst he
 exact ⟨_,rfl,_,_,_,[],_,[],hW',trodAll_mk1 (shut_bool Tryz.underlying4 _),(trodAll_cons_mk (Below.trod C7w (by kernel_rfl) (of_decide_eq_true (by kernel_rfl)) k0 bel lt0) (trodAll_cons_mk (Below.trod C7w (by kernel_rfl) (of_decide_eq_true (by kernel_rfl)) k1 bel lt1) trodAll_mk0)),rfl,bel.frame _,fun h=>by cases h⟩

theorem E0h:joinedFacts Tryz.prog 3 Tryz.f3 Rows.simpieceFormsSpec Rows.simpieceFormsRow=true:=by
 unfold joinedFacts
 rw [factMay,factLift,factMake]
 kernel_rfl

theorem over:Rows.simpieceFormsRow.holds Tryz.pinned (OpenSpec.ofChange Rows.simpieceFormsSpec) :=
 OpenClaim.holds_of_wide 3 Tryz.f3 rfl rfl rfl rfl rfl rfl rfl ⟨rfl,rfl,rfl,rfl,rfl⟩ rfl rfl rfl rfl rfl (by kernel_rfl) Tryz.func3 E0h
  (of_decide_eq_true (by kernel_rfl)) (by unfold Func.isWrapper; first | (rw [if_pos (by decide +kernel)]; kernel_rfl) | (rw [if_neg (by decide +kernel)]; exact ⟨rfl,rfl⟩))
  (fun os started H enc _=>E0g os started H enc)

/-- ████ THE STATEMENT ████ -/
theorem proved:Rows.SimpieceFormsSaid:=over
#print axioms proved
end Go.Proofs.YtdhfajmcakneiaaGreat.simpieceForms
