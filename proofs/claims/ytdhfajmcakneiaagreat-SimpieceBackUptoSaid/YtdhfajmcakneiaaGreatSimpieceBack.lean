/-
 The law SimpieceBack returns true for every input,and its arguments read afterwards as they read before. The frame was written by program.
-/
import Derived.Test.YtdhfajmcakneiaaGreatRows
import Derived.Test.YtdhfajmcakneiaaGreatFacts
import Derived.WalkKit
import Derived.ProofKit
import Derived.OpenShut
import Derived.ShutString
import Derived.ChangeOld
import Derived.Below
import Derived.SizedLaws
import Derived.Deep.CondSized
import Derived.Test.YtdhfajmcakneiaaGreatBulk
import Derived.Test.YtdhfajmcakneiaaGreatTiesB
import Derived.Test.YtdhfajmcakneiaaGreatLawsE
namespace Go.Proofs.YtdhfajmcakneiaaGreat.simpieceBack
open Go.ChangeShapes Go.WideShapes Go.ChangeAt Go.RowKit Go.Eng
open Go.ChangeMaps (open_string shut_string)
set_option linter.unusedVariables false

theorem own:ownKnob Tryz.prog.godebug=none:=by kernel_rfl
theorem laidOut:laidOutB Tryz.prog=true:=by kernel_rfl

def IsRow(k:IntKind)(w:World)(a:Option Addr)(len cap:Nat)(zs:List Int):Prop :=
 (a=none∧len=0∧cap=0∧zs=[]) ∨
 ∃ x,a=some x∧len≤cap∧cap≤maxLen∧zs.length=cap∧(∀ i,i < zs.length→w.cell? (x.add i)=some (.int k (zs.getD i 0)))∧∀ n∈zs,(Lit.int k n).wf=true

theorem row_take{k:IntKind}{w:World}{a:Option Addr}{len cap:Nat}{zs:List Int}(h:IsRow k w a len cap zs):(zs.take len).length=len∧len≤maxLen∧∀ n∈zs.take len,(Lit.int k n).wf=true:=by
 rcases h with ⟨_,rfl,_,rfl⟩ | ⟨_,_,h1,h2,h3,_,h4⟩
 ·exact ⟨rfl,Nat.zero_le _,fun n hn=>by simp at hn⟩
 ·exact ⟨by rw [List.length_take]; omega,by omega,fun n hn=>h4 n (List.mem_of_mem_take hn)⟩

theorem walk(a0:Option Addr)(len0 cap0:Nat)(z0:List Int)(a1:Option Addr)(len1 cap1:Nat)(z1:List Int)(a2:Option Addr)(len2 cap2:Nat)(z2:List Int)(w:World)(w0:IsRow .i64 w a0 len0 cap0 z0)(n0:len0*8≤140737488351232∧len0≤1048576)(w1:IsRow .u8 w a1 len1 cap1 z1)(n1:len1*1≤140737488351232∧len1≤1048576)(w2:IsRow .u8 w a2 len2 cap2 z2)(n2:len2*1≤140737488351232∧len2≤1048576) :
  Calls Tryz.prog 5 #[.slice a0 len0 cap0,.slice a1 len1 cap1,.slice a2 len2 cap2] w fun e w'=>e=.returned (.bool true)∧Below w.heap.size w w':=by
 obtain ⟨F,hF⟩:∃ F:Nat,Fuel F:=⟨1152921504606846977,by unfold Fuel; omega⟩
 have r0:=row_take w0
 have r1:=row_take w1
 have r2:=row_take w2
 have hm:(con5 F).cm [.d (.slice (.int .i64)) (z0.take len0),.d (.slice (.int .u8)) (z1.take len1),.d (.slice (.int .u8)) (z2.take len2)] some=some [.d .bool true]:=by
  refine Eq.trans (congrArg (fun q=>Option.bind q fun r=>some (giveAll [.bool] r)) (SimpieceBack_true F hF (fun x hx=>rng_u8 (r1.2.2 x hx)) (by rw [r1.1]; omega) (fun x hx=>rng_u8 (r2.2.2 x hx)) (by rw [r2.1]; omega) (fun x hx=>rng_i64 (r0.2.2 x hx)) (by rw [r0.1]; omega))) ?_
  rfl
 exact law_walk (c:=con5 F) (s5 F) rfl rfl (vs:=[.slice a0 len0 cap0,.slice a1 len1 cap1,.slice a2 len2 cap2]) (ms:=[.d (.slice (.int .i64)) (z0.take len0),.d (.slice (.int .u8)) (z1.take len1),.d (.slice (.int .u8)) (z2.take len2)]) rfl (.cons (plain_row w0) (.cons (plain_row w1) (.cons (plain_row w2) .nil))) hm

set_option maxRecDepth 100000 in
theorem lifted(os:Os)(started:os.Started)(H:Type)(enc:TypeId×Value→H)(F:Stop.Interp) :
  ReturnsInHanded {} Tryz.checked os 5 .any ((Rows.OpenSpec.upto Rows.simpieceBackSpec).pre6 enc Tryz.prog Tryz.f5 Rows.simpieceBackUptoRow.domain false) (((Rows.OpenSpec.upto Rows.simpieceBackSpec).at F).post enc Tryz.prog Tryz.f5 false true false false):=by
 refine returnsInHanded_of_cond_sized (C:=Tryz.checked) (s:=(Rows.OpenSpec.upto Rows.simpieceBackSpec)) (k:=Rows.uptoSmall) rfl own started (by kernel_rfl) Tryz.func5
  (OpenSpec.witness (enc:=enc) (C:=Tryz.checked) (s:=(Rows.OpenSpec.upto Rows.simpieceBackSpec)) (k:=Rows.uptoSmall) rfl false ⟨#[],#[.slice none 0 0,.slice none 0 0,.slice none 0 0],[]⟩ 8 (by kernel_rfl) (by kernel_rfl) (by kernel_rfl)
   (x:=([.nil,.nil,.nil],[],[])) (by kernel_rfl) rfl (by kernel_rfl)) ?_
 intro W base args ds gs before hval0 hW hcnd hk0 hsz0 _
 have hsz:(DataW.weightsEach Tryz.prog (Tryz.f5.params.toList++Rows.simpieceBackSpec.plain.varTypes Tryz.prog) (ds++gs)).all (·≤reachBytes)=true:=hsz0
 clear hsz0
 have hval:∀ (j:Nat) t v,Tryz.f5.params[j]?=some t→args[j]?=some v→Value.okWide Tryz.prog W .any base t v:=hval0
 have hW':=hW
 obtain ⟨p,q,hA0,hV,rfl,hfz,hnd⟩:=hW
 have hA:DataW.TrodAll enc Tryz.prog W 0 (fun _=>true) true Tryz.f5.params.toList args.toList ds p:=hA0
 rw [Tryz.params5] at hA hval hsz
 obtain ⟨v0,vs0,d0,ds0,p0,q0,hargs,rfl,rfl,h0,r0⟩:=trodAll_cons hA
 obtain ⟨v1,vs1,d1,ds1,p1,q1,rfl,rfl,rfl,h1,r1⟩:=trodAll_cons r0
 obtain ⟨v2,vs2,d2,ds2,p2,q2,rfl,rfl,rfl,h2,r2⟩:=trodAll_cons r1
 obtain ⟨rfl,rfl,rfl⟩:=trodAll_nil r2
 obtain rfl:args=#[v0,v1,v2]:=by cases args; simp_all
 obtain ⟨rfl,rfl⟩:=trodVars_none hV
 have hk:Rows.uptoBulkAll ([d0,d1,d2]++[])≤1048576:=of_decide_eq_true hk0
 obtain ⟨a0,len0,cap0,rfl⟩:=okWide_slice Tryz.underlying23 (hval 0 23 v0 rfl rfl)
 have k0:=h0
 have lt0:∀ x∈p0,x.block < W.heap.size:=by obtain ⟨m,hm⟩:=k0; exact DataW.trod_lt m _ _ _ hm
 obtain ⟨z0,w0,n0⟩:∃ zs,IsRow .i64 W a0 len0 cap0 zs∧len0*8≤140737488351232∧len0≤1048576:=by
  obtain ⟨fuel,hf⟩:=h0
  rcases open_ints Tryz.underlying23 Tryz.underlying3 (by kernel_rfl) hf with ⟨hcs,_⟩ | ⟨x,l,c,zs,hcs,_,hl,hm,hz,hx,hcell,hwz⟩
  ·simp [Value.cells] at hcs
   obtain ⟨rfl,rfl,rfl⟩:=hcs
   exact ⟨[],.inl ⟨rfl,rfl,rfl,rfl⟩,by omega⟩
  ·simp [Value.cells] at hcs
   obtain ⟨rfl,rfl,rfl⟩:=hcs
   obtain ⟨hd,_⟩:=Prod.mk.inj hx
   have hs:=sized_slice hsz (j:=0) (t:=23) (e:=3) rfl (congrArg some hd) Tryz.underlying23
   rw [(by kernel_rfl:Tryz.prog.bytesOf 3=8)] at hs
   simp only [lits,List.length_map,List.length_take,List.length_drop,reachBytes] at hs
   have hz2:zs.length=cap0:=by simpa using hz
   have hb1:Rows.uptoBulk d0≤1048576:=Nat.le_trans (bulks.part_le (by simp)) hk
   rw [hd] at hb1
   have hb2:=Nat.le_trans (bulks.slice_le _ _) hb1
   simp only [lits,List.length_map,List.length_take] at hb2
   exact ⟨zs,.inr ⟨_,rfl,hl,hm,by simpa using hz,hcell,hwz⟩,by omega⟩
 obtain ⟨a1,len1,cap1,rfl⟩:=okWide_slice Tryz.underlying30 (hval 1 30 v1 rfl rfl)
 have k1:=h1
 have lt1:∀ x∈p1,x.block < W.heap.size:=by obtain ⟨m,hm⟩:=k1; exact DataW.trod_lt m _ _ _ hm
 obtain ⟨z1,w1,n1⟩:∃ zs,IsRow .u8 W a1 len1 cap1 zs∧len1*1≤140737488351232∧len1≤1048576:=by
  obtain ⟨fuel,hf⟩:=h1
  rcases open_ints Tryz.underlying30 Tryz.underlying5 (by kernel_rfl) hf with ⟨hcs,_⟩ | ⟨x,l,c,zs,hcs,_,hl,hm,hz,hx,hcell,hwz⟩
  ·simp [Value.cells] at hcs
   obtain ⟨rfl,rfl,rfl⟩:=hcs
   exact ⟨[],.inl ⟨rfl,rfl,rfl,rfl⟩,by omega⟩
  ·simp [Value.cells] at hcs
   obtain ⟨rfl,rfl,rfl⟩:=hcs
   obtain ⟨hd,_⟩:=Prod.mk.inj hx
   have hs:=sized_slice hsz (j:=1) (t:=30) (e:=5) rfl (congrArg some hd) Tryz.underlying30
   rw [(by kernel_rfl:Tryz.prog.bytesOf 5=1)] at hs
   simp only [lits,List.length_map,List.length_take,List.length_drop,reachBytes] at hs
   have hz2:zs.length=cap1:=by simpa using hz
   have hb1:Rows.uptoBulk d1≤1048576:=Nat.le_trans (bulks.part_le (by simp)) hk
   rw [hd] at hb1
   have hb2:=Nat.le_trans (bulks.slice_le _ _) hb1
   simp only [lits,List.length_map,List.length_take] at hb2
   exact ⟨zs,.inr ⟨_,rfl,hl,hm,by simpa using hz,hcell,hwz⟩,by omega⟩
 obtain ⟨a2,len2,cap2,rfl⟩:=okWide_slice Tryz.underlying30 (hval 2 30 v2 rfl rfl)
 have k2:=h2
 have lt2:∀ x∈p2,x.block < W.heap.size:=by obtain ⟨m,hm⟩:=k2; exact DataW.trod_lt m _ _ _ hm
 obtain ⟨z2,w2,n2⟩:∃ zs,IsRow .u8 W a2 len2 cap2 zs∧len2*1≤140737488351232∧len2≤1048576:=by
  obtain ⟨fuel,hf⟩:=h2
  rcases open_ints Tryz.underlying30 Tryz.underlying5 (by kernel_rfl) hf with ⟨hcs,_⟩ | ⟨x,l,c,zs,hcs,_,hl,hm,hz,hx,hcell,hwz⟩
  ·simp [Value.cells] at hcs
   obtain ⟨rfl,rfl,rfl⟩:=hcs
   exact ⟨[],.inl ⟨rfl,rfl,rfl,rfl⟩,by omega⟩
  ·simp [Value.cells] at hcs
   obtain ⟨rfl,rfl,rfl⟩:=hcs
   obtain ⟨hd,_⟩:=Prod.mk.inj hx
   have hs:=sized_slice hsz (j:=2) (t:=30) (e:=5) rfl (congrArg some hd) Tryz.underlying30
   rw [(by kernel_rfl:Tryz.prog.bytesOf 5=1)] at hs
   simp only [lits,List.length_map,List.length_take,List.length_drop,reachBytes] at hs
   have hz2:zs.length=cap2:=by simpa using hz
   have hb1:Rows.uptoBulk d2≤1048576:=Nat.le_trans (bulks.part_le (by simp)) hk
   rw [hd] at hb1
   have hb2:=Nat.le_trans (bulks.slice_le _ _) hb1
   simp only [lits,List.length_map,List.length_take] at hb2
   exact ⟨zs,.inr ⟨_,rfl,hl,hm,by simpa using hz,hcell,hwz⟩,by omega⟩
 clear hA0 hval0
 refine(walk a0 len0 cap0 z0 a1 len1 cap1 z1 a2 len2 cap2 z2 W w0 n0 w1 n1 w2 n2).mono fun e W' ⟨he,bel⟩=>?_
 subst he
 exact ⟨_,rfl,_,_,_,[],_,[],hW',trodAll_mk1 (shut_bool Tryz.underlying4 _),(trodAll_cons_mk (Below.trod laidOut (by kernel_rfl) (of_decide_eq_true (by kernel_rfl)) k0 bel lt0) (trodAll_cons_mk (Below.trod laidOut (by kernel_rfl) (of_decide_eq_true (by kernel_rfl)) k1 bel lt1) (trodAll_cons_mk (Below.trod laidOut (by kernel_rfl) (of_decide_eq_true (by kernel_rfl)) k2 bel lt2) trodAll_mk0))),rfl,bel.frame _,fun h=>by cases h⟩

theorem closed:joinedFacts Tryz.prog 5 Tryz.f5 (Rows.OpenSpec.upto Rows.simpieceBackSpec).bare Rows.simpieceBackUptoRow=true:=by
 unfold joinedFacts
 rw [factMay,factLift,factMake]
 kernel_rfl

theorem over:Rows.simpieceBackUptoRow.holds Tryz.pinned (Rows.OpenSpec.upto Rows.simpieceBackSpec) :=
 OpenClaim.holds_of_cond 5 Tryz.f5 rfl rfl rfl rfl rfl rfl rfl ⟨rfl,rfl,rfl,rfl,rfl⟩ rfl rfl rfl rfl rfl (by kernel_rfl) Tryz.func5 closed
  (of_decide_eq_true (by kernel_rfl)) (by unfold Func.isWrapper; first | (rw [if_pos (by decide +kernel)]; kernel_rfl) | (rw [if_neg (by decide +kernel)]; exact ⟨rfl,rfl⟩))
  (fun os started H enc _ F=>lifted os started H enc F)

/-- ████ THE STATEMENT ████ -/
theorem proved:Rows.SimpieceBackUptoSaid:=over
#print axioms proved
end Go.Proofs.YtdhfajmcakneiaaGreat.simpieceBack
