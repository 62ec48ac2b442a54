/-
 The law SimpieceCanonical returns true for every input,and its arguments read afterwards as they read before. The frame was written by program.
-/
import Derived.Test.YtdhfajmcakneiaaGreatRows
import Derived.Test.YtdhfajmcakneiaaGreatFacts
import Derived.WalkKit
import Derived.ProofKit
import Derived.OpenShut
import Derived.ShutString
import Derived.ChangeOld
import Derived.Below
import Derived.SizedLaws
import Derived.Test.YtdhfajmcakneiaaGreatTiesB
import Derived.Test.YtdhfajmcakneiaaGreatLawsE
namespace Go.Proofs.YtdhfajmcakneiaaGreat.simpieceCanonical
open Go.ChangeShapes Go.WideShapes Go.ChangeAt Go.RowKit Go.Eng
open Go.ChangeMaps (open_string shut_string)
set_option linter.unusedVariables false

theorem own:ownKnob Tryz.prog.godebug=none:=by kernel_rfl
theorem Ash:laidOutB Tryz.prog=true:=by kernel_rfl

def Asi(k:IntKind)(w:World)(a:Option Addr)(len cap:Nat)(zs:List Int):Prop :=
 (a=none∧len=0∧cap=0∧zs=[]) ∨
 ∃ x,a=some x∧len≤cap∧cap≤maxLen∧zs.length=cap∧(∀ i,i < zs.length→w.cell? (x.add i)=some (.int k (zs.getD i 0)))∧∀ n∈zs,(Lit.int k n).wf=true

theorem AmI{k:IntKind}{w:World}{a:Option Addr}{len cap:Nat}{zs:List Int}(h:Asi k w a len cap zs):(zs.take len).length=len∧len≤maxLen∧∀ n∈zs.take len,(Lit.int k n).wf=true:=by
 rcases h with ⟨_,rfl,_,rfl⟩ | ⟨_,_,h1,h2,h3,_,h4⟩
 ·exact ⟨rfl,Nat.zero_le _,fun n hn=>by simp at hn⟩
 ·exact ⟨by rw [List.length_take]; omega,by omega,fun n hn=>h4 n (List.mem_of_mem_take hn)⟩

theorem Bcg(a0:Option Addr)(len0 cap0:Nat)(z0:List Int)(a1:Int)(a2:Option Addr)(len2 cap2:Nat)(z2:List Int)(w:World)(w0:Asi .u8 w a0 len0 cap0 z0)(n0:len0*1≤140737488351232)(w1:(Lit.int .i64 a1).wf=true)(w2:Asi .i64 w a2 len2 cap2 z2)(n2:len2*8≤140737488351232) :
  Calls Tryz.prog 6 #[.slice a0 len0 cap0,.int .i64 a1,.slice a2 len2 cap2] w fun e w'=>e=.returned (.bool true)∧Below w.heap.size w w':=by
 obtain ⟨F,hF⟩:∃ F:Nat,A4 F:=⟨1152921504606846977,by unfold A4; omega⟩
 have r0:=AmI w0
 have r2:=AmI w2
 have hm:(A7p F).cm [.d (.slice (.int .u8)) (z0.take len0),.d (.int .i64) a1,.d (.slice (.int .i64)) (z2.take len2)] some=some [.d .bool true]:=by
  refine Eq.trans (congrArg (fun q=>Option.bind q fun r=>some (Oa [.bool] r)) (Te F hF (fun x hx=>A0r (r0.2.2 x hx)) (by rw [r0.1]; omega) (X0 w1) (fun x hx=>X0 (r2.2.2 x hx)) (by rw [r2.1]; omega))) ?_
  rfl
 exact AsH (c:=A7p F) (s6 F) rfl rfl (vs:=[.slice a0 len0 cap0,.int .i64 a1,.slice a2 len2 cap2]) (ms:=[.d (.slice (.int .u8)) (z0.take len0),.d (.int .i64) a1,.d (.slice (.int .i64)) (z2.take len2)]) rfl (.cons (Agv w0) (.cons (Wj _ _ _) (.cons (Agv w2) .nil))) hm

set_option maxRecDepth 100000 in
theorem A3W(os:Os)(started:os.Started)(H:Type)(enc:TypeId×Value→H) :
  ReturnsInHanded {} Tryz.checked os 6 .any (Rows.simpieceCanonicalSpec.pre6 enc Tryz.prog Tryz.f6 Rows.simpieceCanonicalRow.domain false) (Rows.simpieceCanonicalSpec.post enc Tryz.prog Tryz.f6 false true false false):=by
 refine returnsInHanded_of_change_sized (C:=Tryz.checked) own started (by kernel_rfl) Tryz.func6
  (ChangeSpec.witness6 (enc:=enc) (C:=Tryz.checked) false ⟨#[],#[.slice none 0 0,.int .i64 0,.slice none 0 0],[]⟩ 8 (by kernel_rfl) (by kernel_rfl) (by kernel_rfl) (by kernel_rfl)) ?_
 intro W base args ds gs before hval0 hW hcnd hsz0 _
 have hsz:(DataW.weightsEach Tryz.prog (Tryz.f6.params.toList++Rows.simpieceCanonicalSpec.plain.varTypes Tryz.prog) (ds++gs)).all (·≤reachBytes)=true:=hsz0
 clear hsz0
 have hval:∀ (j:Nat) t v,Tryz.f6.params[j]?=some t→args[j]?=some v→Value.okWide Tryz.prog W .any base t v:=hval0
 have hW':=hW
 obtain ⟨p,q,hA0,hV,rfl,hfz,hnd⟩:=hW
 have hA:DataW.TrodAll enc Tryz.prog W 0 (fun _=>true) true Tryz.f6.params.toList args.toList ds p:=hA0
 rw [Tryz.params6] at hA hval hsz
 obtain ⟨v0,vs0,d0,ds0,p0,q0,hargs,rfl,rfl,h0,r0⟩:=trodAll_cons hA
 obtain ⟨v1,vs1,d1,ds1,p1,q1,rfl,rfl,rfl,h1,r1⟩:=trodAll_cons r0
 obtain ⟨v2,vs2,d2,ds2,p2,q2,rfl,rfl,rfl,h2,r2⟩:=trodAll_cons r1
 obtain ⟨rfl,rfl,rfl⟩:=trodAll_nil r2
 obtain rfl:args=#[v0,v1,v2]:=by cases args; simp_all
 obtain ⟨rfl,rfl⟩:=trodVars_none hV
 obtain ⟨a0,len0,cap0,rfl⟩:=okWide_slice Tryz.underlying30 (hval 0 30 v0 rfl rfl)
 have k0:=h0
 have lt0:∀ x∈p0,x.block < W.heap.size:=by obtain ⟨m,hm⟩:=k0; exact DataW.trod_lt m _ _ _ hm
 obtain ⟨z0,w0,n0⟩:∃ zs,Asi .u8 W a0 len0 cap0 zs∧len0*1≤140737488351232:=by
  obtain ⟨fuel,hf⟩:=h0
  rcases open_ints Tryz.underlying30 Tryz.underlying5 (by kernel_rfl) hf with ⟨hcs,_⟩ | ⟨x,l,c,zs,hcs,_,hl,hm,hz,hx,hcell,hwz⟩
  ·simp [Value.cells] at hcs
   obtain ⟨rfl,rfl,rfl⟩:=hcs
   exact ⟨[],.inl ⟨rfl,rfl,rfl,rfl⟩,by omega⟩
  ·simp [Value.cells] at hcs
   obtain ⟨rfl,rfl,rfl⟩:=hcs
   obtain ⟨hd,_⟩:=Prod.mk.inj hx
   have hs:=sized_slice hsz (j:=0) (t:=30) (e:=5) rfl (congrArg some hd) Tryz.underlying30
   rw [(by kernel_rfl:Tryz.prog.bytesOf 5=1)] at hs
   simp only [lits,List.length_map,List.length_take,List.length_drop,reachBytes] at hs
   have hz2:zs.length=cap0:=by simpa using hz
   exact ⟨zs,.inr ⟨_,rfl,hl,hm,by simpa using hz,hcell,hwz⟩,by omega⟩
 obtain ⟨a1,rfl,rfl,rfl,w1⟩:=open_int Tryz.underlying3 (hval 1 3 v1 rfl rfl) h1
 obtain ⟨a2,len2,cap2,rfl⟩:=okWide_slice Tryz.underlying23 (hval 2 23 v2 rfl rfl)
 have k2:=h2
 have lt2:∀ x∈p2,x.block < W.heap.size:=by obtain ⟨m,hm⟩:=k2; exact DataW.trod_lt m _ _ _ hm
 obtain ⟨z2,w2,n2⟩:∃ zs,Asi .i64 W a2 len2 cap2 zs∧len2*8≤140737488351232:=by
  obtain ⟨fuel,hf⟩:=h2
  rcases open_ints Tryz.underlying23 Tryz.underlying3 (by kernel_rfl) hf with ⟨hcs,_⟩ | ⟨x,l,c,zs,hcs,_,hl,hm,hz,hx,hcell,hwz⟩
  ·simp [Value.cells] at hcs
   obtain ⟨rfl,rfl,rfl⟩:=hcs
   exact ⟨[],.inl ⟨rfl,rfl,rfl,rfl⟩,by omega⟩
  ·simp [Value.cells] at hcs
   obtain ⟨rfl,rfl,rfl⟩:=hcs
   obtain ⟨hd,_⟩:=Prod.mk.inj hx
   have hs:=sized_slice hsz (j:=2) (t:=23) (e:=3) rfl (congrArg some hd) Tryz.underlying23
   rw [(by kernel_rfl:Tryz.prog.bytesOf 3=8)] at hs
   simp only [lits,List.length_map,List.length_take,List.length_drop,reachBytes] at hs
   have hz2:zs.length=cap2:=by simpa using hz
   exact ⟨zs,.inr ⟨_,rfl,hl,hm,by simpa using hz,hcell,hwz⟩,by omega⟩
 clear hA0 hval0
 refine(Bcg a0 len0 cap0 z0 a1 a2 len2 cap2 z2 W w0 n0 w1 w2 n2).mono fun e W' ⟨he,bel⟩=>?_
 subst he
 exact ⟨_,rfl,_,_,_,[],_,[],hW',trodAll_mk1 (shut_bool Tryz.underlying4 _),(trodAll_cons_mk (Below.trod Ash (by kernel_rfl) (of_decide_eq_true (by kernel_rfl)) k0 bel lt0) (trodAll_cons_mk (shut_int Tryz.underlying3 w1) (trodAll_cons_mk (Below.trod Ash (by kernel_rfl) (of_decide_eq_true (by kernel_rfl)) k2 bel lt2) trodAll_mk0))),rfl,bel.frame _,fun h=>by cases h⟩

theorem A3X:joinedFacts Tryz.prog 6 Tryz.f6 Rows.simpieceCanonicalSpec Rows.simpieceCanonicalRow=true:=by
 unfold joinedFacts
 rw [factMay,factLift,factMake]
 kernel_rfl

theorem over:Rows.simpieceCanonicalRow.holds Tryz.pinned (OpenSpec.ofChange Rows.simpieceCanonicalSpec) :=
 OpenClaim.holds_of_wide 6 Tryz.f6 rfl rfl rfl rfl rfl rfl rfl ⟨rfl,rfl,rfl,rfl,rfl⟩ rfl rfl rfl rfl rfl (by kernel_rfl) Tryz.func6 A3X
  (of_decide_eq_true (by kernel_rfl)) (by unfold Func.isWrapper; first | (rw [if_pos (by decide +kernel)]; kernel_rfl) | (rw [if_neg (by decide +kernel)]; exact ⟨rfl,rfl⟩))
  (fun os started H enc _=>A3W os started H enc)

/-- ████ THE STATEMENT ████ -/
theorem proved:Rows.SimpieceCanonicalSaid:=over
#print axioms proved
end Go.Proofs.YtdhfajmcakneiaaGreat.simpieceCanonical
