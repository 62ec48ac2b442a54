/-
 The law SimpieceReads returns true for every input,and its arguments read afterwards as they read before. The frame was written by program.
-/
import Derived.Test.YtdhfajmcakneiaaGreatRows
import Derived.Test.YtdhfajmcakneiaaGreatFacts
import Derived.WalkKit
import Derived.ProofKit
import Derived.OpenShut
import Derived.ShutString
import Derived.ChangeOld
import Derived.Below
import Derived.SizedLaws
import Derived.Test.YtdhfajmcakneiaaGreatTiesB
import Derived.Test.YtdhfajmcakneiaaGreatLawsD
namespace Go.Proofs.YtdhfajmcakneiaaGreat.simpieceReads
open Go.ChangeShapes Go.WideShapes Go.ChangeAt Go.RowKit Go.Eng
open Go.ChangeMaps (open_string shut_string)
set_option linter.unusedVariables false

theorem own:ownKnob Tryz.prog.godebug=none:=by kernel_rfl
theorem Aul:laidOutB Tryz.prog=true:=by kernel_rfl

def Aum(k:IntKind)(w:World)(a:Option Addr)(len cap:Nat)(zs:List Int):Prop :=
 (a=none∧len=0∧cap=0∧zs=[]) ∨
 ∃ x,a=some x∧len≤cap∧cap≤maxLen∧zs.length=cap∧(∀ i,i < zs.length→w.cell? (x.add i)=some (.int k (zs.getD i 0)))∧∀ n∈zs,(Lit.int k n).wf=true

theorem Aow{k:IntKind}{w:World}{a:Option Addr}{len cap:Nat}{zs:List Int}(h:Aum k w a len cap zs):(zs.take len).length=len∧len≤maxLen∧∀ n∈zs.take len,(Lit.int k n).wf=true:=by
 rcases h with ⟨_,rfl,_,rfl⟩ | ⟨_,_,h1,h2,h3,_,h4⟩
 ·exact ⟨rfl,Nat.zero_le _,fun n hn=>by simp at hn⟩
 ·exact ⟨by rw [List.length_take]; omega,by omega,fun n hn=>h4 n (List.mem_of_mem_take hn)⟩

theorem Biy(a0:Option Addr)(len0 cap0:Nat)(z0:List Int)(a1:Int)(a2:Int)(a3:Option Addr)(len3 cap3:Nat)(z3:List Int)(w:World)(w0:Aum .u8 w a0 len0 cap0 z0)(n0:len0*1≤140737488351232)(w1:(Lit.int .i64 a1).wf=true)(w2:(Lit.int .i64 a2).wf=true)(w3:Aum .i64 w a3 len3 cap3 z3)(n3:len3*8≤140737488351232) :
  Calls Tryz.prog 4 #[.slice a0 len0 cap0,.int .i64 a1,.int .i64 a2,.slice a3 len3 cap3] w fun e w'=>e=.returned (.bool true)∧Below w.heap.size w w':=by
 obtain ⟨F,hF⟩:∃ F:Nat,A9 F:=⟨1152921504606846977,by unfold A9; omega⟩
 have r0:=Aow w0
 have r3:=Aow w3
 have hm:(Bd4 F).cm [.d (.slice (.int .u8)) (z0.take len0),.d (.int .i64) a1,.d (.int .i64) a2,.d (.slice (.int .i64)) (z3.take len3)] some=some [.d .bool true]:=by
  refine Eq.trans (congrArg (fun q=>Option.bind q fun r=>some (Ok [.bool] r)) (X3 F hF (fun x hx=>A3S (r0.2.2 x hx)) (by rw [r0.1]; omega) (Wa w1) (Wa w2) (fun x hx=>Wa (r3.2.2 x hx)) (by rw [r3.1]; omega))) ?_
  rfl
 exact AuK (c:=Bd4 F) (s4 F) rfl rfl (vs:=[.slice a0 len0 cap0,.int .i64 a1,.int .i64 a2,.slice a3 len3 cap3]) (ms:=[.d (.slice (.int .u8)) (z0.take len0),.d (.int .i64) a1,.d (.int .i64) a2,.d (.slice (.int .i64)) (z3.take len3)]) rfl (.cons (Ahc w0) (.cons (Ts _ _ _) (.cons (Ts _ _ _) (.cons (Ahc w3) .nil)))) hm

set_option maxRecDepth 100000 in
theorem A8e(os:Os)(started:os.Started)(H:Type)(enc:TypeId×Value→H) :
  ReturnsInHanded {} Tryz.checked os 4 .any (Rows.simpieceReadsSpec.pre6 enc Tryz.prog Tryz.f4 Rows.simpieceReadsRow.domain false) (Rows.simpieceReadsSpec.post enc Tryz.prog Tryz.f4 false true false false):=by
 refine returnsInHanded_of_change_sized (C:=Tryz.checked) own started (by kernel_rfl) Tryz.func4
  (ChangeSpec.witness6 (enc:=enc) (C:=Tryz.checked) false ⟨#[],#[.slice none 0 0,.int .i64 0,.int .i64 0,.slice none 0 0],[]⟩ 8 (by kernel_rfl) (by kernel_rfl) (by kernel_rfl) (by kernel_rfl)) ?_
 intro W base args ds gs before hval0 hW hcnd hsz0 _
 have hsz:(DataW.weightsEach Tryz.prog (Tryz.f4.params.toList++Rows.simpieceReadsSpec.plain.varTypes Tryz.prog) (ds++gs)).all (·≤reachBytes)=true:=hsz0
 clear hsz0
 have hval:∀ (j:Nat) t v,Tryz.f4.params[j]?=some t→args[j]?=some v→Value.okWide Tryz.prog W .any base t v:=hval0
 have hW':=hW
 obtain ⟨p,q,hA0,hV,rfl,hfz,hnd⟩:=hW
 have hA:DataW.TrodAll enc Tryz.prog W 0 (fun _=>true) true Tryz.f4.params.toList args.toList ds p:=hA0
 rw [Tryz.params4] at hA hval hsz
 obtain ⟨v0,vs0,d0,ds0,p0,q0,hargs,rfl,rfl,h0,r0⟩:=trodAll_cons hA
 obtain ⟨v1,vs1,d1,ds1,p1,q1,rfl,rfl,rfl,h1,r1⟩:=trodAll_cons r0
 obtain ⟨v2,vs2,d2,ds2,p2,q2,rfl,rfl,rfl,h2,r2⟩:=trodAll_cons r1
 obtain ⟨v3,vs3,d3,ds3,p3,q3,rfl,rfl,rfl,h3,r3⟩:=trodAll_cons r2
 obtain ⟨rfl,rfl,rfl⟩:=trodAll_nil r3
 obtain rfl:args=#[v0,v1,v2,v3]:=by cases args; simp_all
 obtain ⟨rfl,rfl⟩:=trodVars_none hV
 obtain ⟨a0,len0,cap0,rfl⟩:=okWide_slice Tryz.underlying30 (hval 0 30 v0 rfl rfl)
 have k0:=h0
 have lt0:∀ x∈p0,x.block < W.heap.size:=by obtain ⟨m,hm⟩:=k0; exact DataW.trod_lt m _ _ _ hm
 obtain ⟨z0,w0,n0⟩:∃ zs,Aum .u8 W a0 len0 cap0 zs∧len0*1≤140737488351232:=by
  obtain ⟨fuel,hf⟩:=h0
  rcases open_ints Tryz.underlying30 Tryz.underlying5 (by kernel_rfl) hf with ⟨hcs,_⟩ | ⟨x,l,c,zs,hcs,_,hl,hm,hz,hx,hcell,hwz⟩
  ·simp [Value.cells] at hcs
   obtain ⟨rfl,rfl,rfl⟩:=hcs
   exact ⟨[],.inl ⟨rfl,rfl,rfl,rfl⟩,by omega⟩
  ·simp [Value.cells] at hcs
   obtain ⟨rfl,rfl,rfl⟩:=hcs
   obtain ⟨hd,_⟩:=Prod.mk.inj hx
   have hs:=sized_slice hsz (j:=0) (t:=30) (e:=5) rfl (congrArg some hd) Tryz.underlying30
   rw [(by kernel_rfl:Tryz.prog.bytesOf 5=1)] at hs
   simp only [lits,List.length_map,List.length_take,List.length_drop,reachBytes] at hs
   have hz2:zs.length=cap0:=by simpa using hz
   exact ⟨zs,.inr ⟨_,rfl,hl,hm,by simpa using hz,hcell,hwz⟩,by omega⟩
 obtain ⟨a1,rfl,rfl,rfl,w1⟩:=open_int Tryz.underlying3 (hval 1 3 v1 rfl rfl) h1
 obtain ⟨a2,rfl,rfl,rfl,w2⟩:=open_int Tryz.underlying3 (hval 2 3 v2 rfl rfl) h2
 obtain ⟨a3,len3,cap3,rfl⟩:=okWide_slice Tryz.underlying23 (hval 3 23 v3 rfl rfl)
 have k3:=h3
 have lt3:∀ x∈p3,x.block < W.heap.size:=by obtain ⟨m,hm⟩:=k3; exact DataW.trod_lt m _ _ _ hm
 obtain ⟨z3,w3,n3⟩:∃ zs,Aum .i64 W a3 len3 cap3 zs∧len3*8≤140737488351232:=by
  obtain ⟨fuel,hf⟩:=h3
  rcases open_ints Tryz.underlying23 Tryz.underlying3 (by kernel_rfl) hf with ⟨hcs,_⟩ | ⟨x,l,c,zs,hcs,_,hl,hm,hz,hx,hcell,hwz⟩
  ·simp [Value.cells] at hcs
   obtain ⟨rfl,rfl,rfl⟩:=hcs
   exact ⟨[],.inl ⟨rfl,rfl,rfl,rfl⟩,by omega⟩
  ·simp [Value.cells] at hcs
   obtain ⟨rfl,rfl,rfl⟩:=hcs
   obtain ⟨hd,_⟩:=Prod.mk.inj hx
   have hs:=sized_slice hsz (j:=3) (t:=23) (e:=3) rfl (congrArg some hd) Tryz.underlying23
   rw [(by kernel_rfl:Tryz.prog.bytesOf 3=8)] at hs
   simp only [lits,List.length_map,List.length_take,List.length_drop,reachBytes] at hs
   have hz2:zs.length=cap3:=by simpa using hz
   exact ⟨zs,.inr ⟨_,rfl,hl,hm,by simpa using hz,hcell,hwz⟩,by omega⟩
 clear hA0 hval0
 refine(Biy a0 len0 cap0 z0 a1 a2 a3 len3 cap3 z3 W w0 n0 w1 w2 w3 n3).mono fun e W' ⟨he,bel⟩=>?_
 subst he
 exact ⟨_,rfl,_,_,_,[],_,[],hW',trodAll_mk1 (shut_bool Tryz.underlying4 _),(trodAll_cons_mk (Below.trod Aul (by kernel_rfl) (of_decide_eq_true (by kernel_rfl)) k0 bel lt0) (trodAll_cons_mk (shut_int Tryz.underlying3 w1) (trodAll_cons_mk (shut_int Tryz.underlying3 w2) (trodAll_cons_mk (Below.trod Aul (by kernel_rfl) (of_decide_eq_true (by kernel_rfl)) k3 bel lt3) trodAll_mk0)))),rfl,bel.frame _,fun h=>by cases h⟩

theorem A8f:joinedFacts Tryz.prog 4 Tryz.f4 Rows.simpieceReadsSpec Rows.simpieceReadsRow=true:=by
 unfold joinedFacts
 rw [factMay,factLift,factMake]
 kernel_rfl

theorem over:Rows.simpieceReadsRow.holds Tryz.pinned (OpenSpec.ofChange Rows.simpieceReadsSpec) :=
 OpenClaim.holds_of_wide 4 Tryz.f4 rfl rfl rfl rfl rfl rfl rfl ⟨rfl,rfl,rfl,rfl,rfl⟩ rfl rfl rfl rfl rfl (by kernel_rfl) Tryz.func4 A8f
  (of_decide_eq_true (by kernel_rfl)) (by unfold Func.isWrapper; first | (rw [if_pos (by decide +kernel)]; kernel_rfl) | (rw [if_neg (by decide +kernel)]; exact ⟨rfl,rfl⟩))
  (fun os started H enc _=>A8e os started H enc)

/-- ████ THE STATEMENT ████ -/
theorem proved:Rows.SimpieceReadsSaid:=over
#print axioms proved
end Go.Proofs.YtdhfajmcakneiaaGreat.simpieceReads
