/-
 The law TopLeast returns true for every input,and its arguments read afterwards as they read before. The frame was written by program.
-/
import Derived.Test.YtppoifpabafdlaaGreatRows
import Derived.Test.YtppoifpabafdlaaGreatFacts
import Derived.WalkKit
import Derived.ProofKit
import Derived.OpenShut
import Derived.ShutString
import Derived.ChangeOld
import Derived.Below
import Derived.SizedLaws
import Derived.Test.YtppoifpabafdlaaGreatTiesZ
import Derived.Test.YtppoifpabafdlaaGreatLawsB
namespace Go.Proofs.YtppoifpabafdlaaGreat.topLeast
open Go.ChangeShapes Go.WideShapes Go.ChangeAt Go.RowKit Go.Eng
open Go.ChangeMaps (open_string shut_string)
set_option linter.unusedVariables false

theorem own:ownKnob Tryz.prog.godebug=none:=by kernel_rfl
theorem D0s:laidOutB Tryz.prog=true:=by kernel_rfl

def D0t(k:IntKind)(w:World)(a:Option Addr)(len cap:Nat)(zs:List Int):Prop :=
 (a=none∧len=0∧cap=0∧zs=[]) ∨
 ∃ x,a=some x∧len≤cap∧cap≤maxLen∧zs.length=cap∧(∀ i,i < zs.length→w.cell? (x.add i)=some (.int k (zs.getD i 0)))∧∀ n∈zs,(Lit.int k n).wf=true

theorem C5x{k:IntKind}{w:World}{a:Option Addr}{len cap:Nat}{zs:List Int}(h:D0t k w a len cap zs):(zs.take len).length=len∧len≤maxLen∧∀ n∈zs.take len,(Lit.int k n).wf=true:=by
 rcases h with ⟨_,rfl,_,rfl⟩ | ⟨_,_,h1,h2,h3,_,h4⟩
 ·exact ⟨rfl,Nat.zero_le _,fun n hn=>by simp at hn⟩
 ·exact ⟨by rw [List.length_take]; omega,by omega,fun n hn=>h4 n (List.mem_of_mem_take hn)⟩

theorem E1T(a0:Option Addr)(len0 cap0:Nat)(z0:List Int)(w:World)(w0:D0t .i64 w a0 len0 cap0 z0)(n0:len0*8≤140737488351232) :
  Calls Tryz.prog 3 #[.slice a0 len0 cap0] w fun e w'=>e=.returned (.bool true)∧Below w.heap.size w w':=by
 obtain ⟨F,hF⟩:∃ F:Nat,H8 F:=⟨1152921504606846977,by unfold H8; omega⟩
 have r0:=C5x w0
 have hm:(D86 F).cm [.d (.slice (.int .i64)) (z0.take len0)] some=some [.d .bool true]:=by
  refine Eq.trans (congrArg (fun q=>Option.bind q fun r=>some (Y9 [.bool] r)) (B2a F hF (by rw [r0.1]; omega) (fun x hx=>C7z (r0.2.2 x hx)))) ?_
  rfl
 exact C42 (c:=D86 F) (s3 F) rfl rfl (vs:=[.slice a0 len0 cap0]) (ms:=[.d (.slice (.int .i64)) (z0.take len0)]) rfl (.cons (C0l w0) .nil) hm

set_option maxRecDepth 100000 in
theorem D49(os:Os)(started:os.Started)(H:Type)(enc:TypeId×Value→H) :
  ReturnsInHanded {} Tryz.checked os 3 .any (Rows.topLeastSpec.pre6 enc Tryz.prog Tryz.f3 Rows.topLeastRow.domain false) (Rows.topLeastSpec.post enc Tryz.prog Tryz.f3 false true false false):=by
 refine returnsInHanded_of_change_sized (C:=Tryz.checked) own started (by kernel_rfl) Tryz.func3
  (ChangeSpec.witness6 (enc:=enc) (C:=Tryz.checked) false ⟨#[],#[.slice none 0 0],[]⟩ 8 (by kernel_rfl) (by kernel_rfl) (by kernel_rfl) (by kernel_rfl)) ?_
 intro W base args ds gs before hval0 hW hcnd hsz0 _
 have hsz:(DataW.weightsEach Tryz.prog (Tryz.f3.params.toList++Rows.topLeastSpec.plain.varTypes Tryz.prog) (ds++gs)).all (·≤reachBytes)=true:=hsz0
 clear hsz0
 have hval:∀ (j:Nat) t v,Tryz.f3.params[j]?=some t→args[j]?=some v→Value.okWide Tryz.prog W .any base t v:=hval0
 have hW':=hW
 obtain ⟨p,q,hA0,hV,rfl,hfz,hnd⟩:=hW
 have hA:DataW.TrodAll enc Tryz.prog W 0 (fun _=>true) true Tryz.f3.params.toList args.toList ds p:=hA0
 rw [Tryz.params3] at hA hval hsz
 obtain ⟨v0,vs0,d0,ds0,p0,q0,hargs,rfl,rfl,h0,r0⟩:=trodAll_cons hA
 obtain ⟨rfl,rfl,rfl⟩:=trodAll_nil r0
 obtain rfl:args=#[v0]:=by cases args; simp_all
 obtain ⟨rfl,rfl⟩:=trodVars_none hV
 obtain ⟨a0,len0,cap0,rfl⟩:=okWide_slice Tryz.underlying22 (hval 0 22 v0 rfl rfl)
 have k0:=h0
 have lt0:∀ x∈p0,x.block < W.heap.size:=by obtain ⟨m,hm⟩:=k0; exact DataW.trod_lt m _ _ _ hm
 obtain ⟨z0,w0,n0⟩:∃ zs,D0t .i64 W a0 len0 cap0 zs∧len0*8≤140737488351232:=by
  obtain ⟨fuel,hf⟩:=h0
  rcases open_ints Tryz.underlying22 Tryz.underlying3 (by kernel_rfl) hf with ⟨hcs,_⟩ | ⟨x,l,c,zs,hcs,_,hl,hm,hz,hx,hcell,hwz⟩
  ·simp [Value.cells] at hcs
   obtain ⟨rfl,rfl,rfl⟩:=hcs
   exact ⟨[],.inl ⟨rfl,rfl,rfl,rfl⟩,by omega⟩
  ·simp [Value.cells] at hcs
   obtain ⟨rfl,rfl,rfl⟩:=hcs
   obtain ⟨hd,_⟩:=Prod.mk.inj hx
   have hs:=sized_slice hsz (j:=0) (t:=22) (e:=3) rfl (congrArg some hd) Tryz.underlying22
   rw [(by kernel_rfl:Tryz.prog.bytesOf 3=8)] at hs
   simp only [lits,List.length_map,List.length_take,List.length_drop,reachBytes] at hs
   have hz2:zs.length=cap0:=by simpa using hz
   exact ⟨zs,.inr ⟨_,rfl,hl,hm,by simpa using hz,hcell,hwz⟩,by omega⟩
 clear hA0 hval0
 refine(E1T a0 len0 cap0 z0 W w0 n0).mono fun e W' ⟨he,bel⟩=>?_
 subst he
 exact ⟨_,rfl,_,_,_,[],_,[],hW',trodAll_mk1 (shut_bool Tryz.underlying4 _),(trodAll_cons_mk (Below.trod D0s (by kernel_rfl) (of_decide_eq_true (by kernel_rfl)) k0 bel lt0) trodAll_mk0),rfl,bel.frame _,fun h=>by cases h⟩

theorem A48:joinedFacts Tryz.prog 3 Tryz.f3 Rows.topLeastSpec Rows.topLeastRow=true:=by
 unfold joinedFacts
 rw [factMay,factLift,factMake]
 kernel_rfl

theorem over:Rows.topLeastRow.holds Tryz.pinned (OpenSpec.ofChange Rows.topLeastSpec) :=
 OpenClaim.holds_of_wide 3 Tryz.f3 rfl rfl rfl rfl rfl rfl rfl ⟨rfl,rfl,rfl,rfl,rfl⟩ rfl rfl rfl rfl rfl (by kernel_rfl) Tryz.func3 A48
  (of_decide_eq_true (by kernel_rfl)) (by unfold Func.isWrapper; first | (rw [if_pos (by decide +kernel)]; kernel_rfl) | (rw [if_neg (by decide +kernel)]; exact ⟨rfl,rfl⟩))
  (fun os started H enc _=>D49 os started H enc)

/-- ████ THE STATEMENT ████ -/
theorem proved:Rows.TopLeastSaid:=over
#print axioms proved
end Go.Proofs.YtppoifpabafdlaaGreat.topLeast
