/- The walks of slices.Values, slices.Repeat and segment.Divider.All. -/
import Derived.Test.YtppoifpabafdlaaGreatEngD
import Derived.RangeFuncBox
import Derived.RangeFuncLeaves
import Derived.Shelf.Abstract
import Derived.WalkKit
import Derived.OwnWalkIn
import Derived.TacticsInMore
import Derived.LoopNIn
import Derived.LoopIn
import Derived.Maps.AppendAt
import Derived.Test.YtppoifpabafdlaaGreatProg
import Derived.OrdersIn
import Derived.Laws.CopyOwn
import Derived.Laws.CopyRow
import Derived.Shelf.RegionOpen
import Derived.RangeFuncCalls
import Derived.Deep.WholeRow
import Derived.Laws.MakeOwn
import Derived.Laws.OwnMore
set_option linter.unusedVariables false
set_option linter.unusedSimpArgs false
namespace Go.Proofs.YtppoifpabafdlaaGreat
open Go.RowKit Go.Shelf
attribute [local go_sem] Oper.semAt_some
def upto{α:Type}(f:Nat→α)(k:Nat):List α:=(List.range k).map f
theorem B3W{α:Type}(f:Nat→α)(k:Nat):upto f (k+1)=upto f k++[f k]:=by simp [upto,List.range_succ]
theorem B5A{α:Type}(f:Nat→α)(k:Nat):(upto f k).length=k:=by simp [upto]
theorem C5a{α:Type}(d:α)(zs:List α):upto (fun j=>zs[j]?.getD d) zs.length=zs:=by
 apply List.ext_getElem
 ·simp [upto]
 ·intro i h1 h2
  simp [upto,h2]
theorem C2I{α:Type}(d:α)(zs:List α){k:Nat}(hk:k≤zs.length):upto (fun j=>zs[j]?.getD d) k=zs.take k:=by
 apply List.ext_getElem
 ·simp [upto,hk]
 ·intro i h1 h2
  have:i < zs.length:=by simp [upto] at h1; omega
  simp [upto,this]
set_option maxRecDepth 100000 in
set_option maxHeartbeats 2000000 in
theorem B9h{α:Type}(ec:α→Int)(d0:α)(F:Fence)(n:Nat)(h7:F.fn 119)(hro:F.round=none)(hn:1≤n)(l Bs n₀ b off len cap:Nat)(zs:List α)(hreach:len*8≤140737488351232)(hb:b < n₀)(J Jx:List α→World→Prop)
  (hY:∀ pre x W,J pre W→pre.length < len→YieldAt F (n - 1) Tryz.prog l #[.int .i64 (ec x)] W fun e W' =>
   (e=.returned (.bool true)∧J (pre++[x]) W'∧Below n₀ W W')∨(e=.returned (.bool false)∧Jx (pre++[x]) W'))
  (W:World) (hBs:W.cell? ⟨Bs,0,none⟩=some (.slice (some ⟨b,off,none⟩) len cap)) (hc:∀ j,j < len→W.cell? ⟨b,off+j,none⟩=some (.int .i64 (ec (zs[j]?.getD d0)))) (h0:J [] W) :
  CallsIn F n Tryz.prog 119 #[.func (.yield l) #[] #[],.pointer (some ⟨Bs,0,none⟩)] W fun e W'=>(∃ v,e=.returned v) ∧
   ((∃ ys,ys=upto (fun j=>zs[j]?.getD d0) len∧J ys W')∨(∃ pre,(∃ k,k≤len∧pre=upto (fun j=>zs[j]?.getD d0) k)∧Jx pre W')):=by
 refine callsIn_of_wp Tryz.func119 rfl h7 ?_ hro
 simp only [Tryz.ntmps119,List.size_toArray,List.length_cons,List.length_nil,Nat.reduceAdd,Nat.reduceSub,Array.replicate_succ,Array.replicate_zero,List.push_toArray,List.append_toArray,List.nil_append,List.cons_append]
 gi_wp2
 gi_loopw [7] (fun i wr=>∃ k:Nat,k≤len∧i=.int .i64 k∧J (upto (fun j=>zs[j]?.getD d0) k) wr∧Below n₀ W wr)
  (fun i _=>len - (intOf i).toNat)
 case atStart=>exact ⟨0,Nat.zero_le _,rfl,h0,Below.refl _ _⟩
 case round =>
  obtain ⟨k,hk,rfl,hJs,hnx⟩:=hrel
  have hcx:k < len→wr.cell? ⟨b,off+k,none⟩=some (.int .i64 (ec (zs[k]?.getD d0))):=fun h=>(hnx.cell (p:=⟨b,off+k,none⟩) hb).trans (hc k h)
  by_cases hlt:k < len
  ·obtain ⟨fn,tmps,assign,body,hy,hR⟩:=hY _ (zs[k]?.getD d0) wr hJs (by rw [B5A]; exact hlt)
   have hcx':=hcx hlt
   gi_wp2
   refine hR.mono ?_
   rintro e W3 (⟨rfl,hJ3,hk3⟩ | ⟨rfl,hJx3⟩)
   ·gi_wp2
    go_roundw
    case rel=>exact ⟨k+1,by omega,by simp,by rw [B3W]; exact hJ3,hnx.trans hk3⟩
    case measure=>simp [intOf]; omega
   ·gi_wp2
    refine bodyPost_ret (results_none rfl _ _ _) rfl ?_
    exact ⟨⟨_,rfl⟩,.inr ⟨_,⟨k+1,by omega,(B3W _ _).symm⟩,hJx3⟩⟩
  ·obtain rfl:k=len:=by omega
   gi_wp2
   go_end0
   exact ⟨⟨_,rfl⟩,.inl ⟨_,rfl,hJs⟩⟩
def D09{α:Type}(ec:α→Int)(d0:α)(n₀:Nat)(W:World)(sv:Value)(zs:List α):Prop :=
 (∃ ao cap,sv=.slice ao 0 cap∧zs=[])∨∃ b off cap,sv=.slice (some ⟨b,off,none⟩) zs.length cap∧b < n₀∧∀ j,j < zs.length→W.cell? ⟨b,off+j,none⟩=some (.int .i64 (ec (zs[j]?.getD d0)))
theorem D09.below{α:Type}{ec:α→Int}{d0:α}{n₀:Nat}{A B:World}(h:Below n₀ A B){sv:Value}{zs:List α}:D09 ec d0 n₀ A sv zs→D09 ec d0 n₀ B sv zs
 | .inl e=>.inl e
 | .inr ⟨b,off,cap,e,hb,hc⟩=>.inr ⟨b,off,cap,e,hb,fun j hj=>(h.cell (p:=⟨b,off+j,none⟩) hb).trans (hc j hj)⟩
set_option maxRecDepth 100000 in
set_option maxHeartbeats 1000000 in
theorem A8T{α:Type}(F:Fence)(n:Nat)(h7:F.fn 119)(hro:F.round=none)(l Bs:Nat)(ao:Option Addr)(cap:Nat)(J:List α→World→Prop)(W:World)(hBs:W.cell? ⟨Bs,0,none⟩=some (.slice ao 0 cap))(h0:J [] W) :
  CallsIn F n Tryz.prog 119 #[.func (.yield l) #[] #[],.pointer (some ⟨Bs,0,none⟩)] W fun e W'=>(∃ v,e=.returned v)∧J [] W':=by
 refine callsIn_of_wp Tryz.func119 rfl h7 ?_ hro
 simp only [Tryz.ntmps119,List.size_toArray,List.length_cons,List.length_nil,Nat.reduceAdd,Nat.reduceSub,Array.replicate_succ,Array.replicate_zero,List.push_toArray,List.append_toArray,List.nil_append,List.cons_append]
 gi_wp2
 gi_loopw [7] (fun i wr=>i=.int .i64 0∧J [] wr) (fun _ _=>0)
 case atStart=>exact ⟨rfl,h0⟩
 case round =>
  obtain ⟨rfl,hJs⟩:=hrel
  gi_wp2
  go_end0
  exact ⟨⟨_,rfl⟩,hJs⟩
set_option maxHeartbeats 1000000 in
theorem C2J(F:Fence)(n:Nat)(h5:F.fn 59)(hro:F.round=none)(a:Option Addr)(len cap:Nat)(w:World) :
  CallsIn F n Tryz.prog 59 #[.slice a len cap] w fun e w'=>e=.returned (.func (.func 119) #[] #[.pointer (some ⟨w.heap.size,0,none⟩)])∧w'=w.alloc (.cells #[.slice a len cap] 43):=by
 refine callsIn_of_wp Tryz.func59 rfl h5 ?_ hro
 simp only [Tryz.ntmps59,List.size_toArray,List.length_cons,List.length_nil,Nat.reduceAdd,Nat.reduceSub,Array.replicate_succ,Array.replicate_zero,List.push_toArray,List.append_toArray,List.nil_append,List.cons_append]
 gi_wp2
 go_ret
 exact ⟨rfl,rfl⟩
theorem A6D{α:Type}(ec:α→Int)(d0:α)(F:Fence)(n:Nat)(h7:F.fn 119)(hro:F.round=none)(hn:1≤n)(Bs n₀:Nat)(sv:Value)(zs:List α)(hreach:zs.length*8≤140737488351232)(w:World)(hBs:Bs < w.heap.size)(hn₀:n₀≤w.heap.size)
  (hc:w.cell? ⟨Bs,0,none⟩=some sv) (hI:D09 ec d0 n₀ w sv zs) :
  SeqStopsK F n Tryz.prog 119 #[.pointer (some ⟨Bs,0,none⟩)] (fun x:α=>#[Value.int .i64 (ec x)]) (Below n₀) (fun ys=>ys=zs) (fun pre=>pre <+: zs) zs.length w:=fun l J Jx W hW _ _ hY h0=>by
 have hc':=(hW.cell (p:=⟨Bs,0,none⟩) hBs).trans hc
 rcases hI.below (hW.mono hn₀) with ⟨ao,cap,rfl,rfl⟩ | ⟨b,off,cap,rfl,hb,hcs⟩
 ·exact(A8T F n h7 hro l Bs ao cap J W hc' h0).mono fun e W' ⟨he,hj⟩=>⟨he,.inl ⟨_,rfl,hj⟩⟩
 ·refine(B9h ec d0 F n h7 hro hn l Bs n₀ b off zs.length cap zs hreach hb J Jx hY W hc' hcs h0).mono ?_
  rintro e W' ⟨he,⟨ys,rfl,hj⟩ | ⟨pre,⟨k,hk,rfl⟩,hj⟩⟩
  ·exact ⟨he,.inl ⟨_,C5a d0 zs,hj⟩⟩
  ·exact ⟨he,.inr ⟨_,by rw [C2I d0 zs hk]; exact List.take_prefix _ _,hj⟩⟩
end Go.Proofs.YtppoifpabafdlaaGreat
namespace Go.Eng
theorem B9i{F:Fence}{n:Nat}{P:Program}{ops:Array Oper}{Q:Exit→Act→World→Prop}(he:A0Q 0 ops.toList=true)(J:(Nat→Bool)→Act→World→Prop)
  (hstep:∀ (L:Nat→Bool) (i:Nat) (o:Oper) (a:Act) (w:World),ops[i]?=some o→L i=false→(∀ e∈o.after,Region.binds .any e=true→L e.on=true)→J L a w→wpOpIn F n P ops Q i (J fun k=>if k=i then true else L k) a w)
  (hend:∀ (L:Nat→Bool) (a:Act) (w:World),(∀ k,k < ops.size→L k=true)→J L a w→Q .normal a w) :
  ∀ (fuel:Nat) (listed:Array Bool) (a:Act) (w:World),listed.size=ops.size→listed.toList.count false≤fuel→J (fun k=>listed.getD k false) a w→wpAnyIn F n P .any ops Q fuel listed a w:=by
 intro fuel
 induction fuel with
 | zero =>
  intro listed a w hsz hc hJ
  have hall:∀ k,k < ops.size→listed.getD k false=true:=by
   intro k hk
   cases hb:listed.getD k false with
   | true=>rfl
   | false =>
    have hm:false∈listed.toList:=by
     rw [Array.getD_eq_getD_getElem?] at hb
     simp only [hsz,hk,Array.getElem?_eq_getElem,Option.getD_some] at hb
     rw [← hb]
     simp
    have:=List.count_pos_iff.2 hm
    omega
  refine ⟨?_,hend _ a w hall hJ⟩
  cases hr:Region.ready .any ops listed with
  | nil=>rfl
  | cons x xs =>
   have hx:x∈Region.ready .any ops listed:=by rw [hr]; simp
   obtain ⟨h1,o,ho,_⟩:=mem_ready.1 hx
   have hxs:=(Array.getElem?_eq_some_iff.1 ho).1
   have:=hall x hxs
   rw [Array.getD_eq_getD_getElem?] at h1 this
   simp only [hsz,hxs,Array.getElem?_eq_getElem,Option.getD_some] at h1 this
   rw [h1] at this; cases this
 | succ fuel ih =>
  intro listed a w hsz hc hJ
  refine ⟨fun hr=>hend _ a w (A9e hsz he hr) hJ,fun i hi=>?_⟩
  obtain ⟨h1,o,ho,hall2⟩:=mem_ready.1 hi
  have his:=(Array.getElem?_eq_some_iff.1 ho).1
  have hil:listed[i]?=some false:=by
   rw [Array.getD_eq_getD_getElem?] at h1
   simp only [hsz,his,Array.getElem?_eq_getElem,Option.getD_some] at h1
   simp [hsz,his,h1]
  have hi0:listed.getD i false=false:=by rw [Array.getD_eq_getD_getElem?,hil]; rfl
  refine wpOpIn_mono (fun a' w' hJ'=>?_) (hstep (fun k=>listed.getD k false) i o a w ho hi0 hall2 hJ)
  refine ih _ a' w' (by simpa using hsz) ?_ ?_
  ·have hlt:i < listed.size:=by omega
   have e1:(listed.setIfInBounds i true).toList=listed.toList.set i true:=by simp
   rw [e1,List.count_set (by simpa using hlt)]
   have e2:listed.toList[i]=false:=by
    have:=(Array.getElem?_eq_some_iff.1 hil).2
    simpa using this
   rw [e2]
   have hm:false∈listed.toList:=by rw [← e2]; exact List.getElem_mem _
   have:=List.count_pos_iff.2 hm
   simp at hc this ⊢
   omega
  ·have:(fun k=>(listed.setIfInBounds i true).getD k false)=fun k=>if k=i then true else listed.getD k false:=by
    funext j
    rw [Array.getD_eq_getD_getElem?,Array.getElem?_setIfInBounds]
    by_cases e:i=j
    ·subst e; simp [hsz,his]
    ·rw [if_neg e,if_neg (fun h=>e h.symm)]
     rw [Array.getD_eq_getD_getElem?]
   show J _ a' w'
   rw [this]
   exact hJ'
theorem region_rule{F:Fence}{n:Nat}{P:Program}{id:Nat}{ops:Array Oper}{Q:Exit→Act→World→Prop}{a:Act}{w:World}(hm:P.follows .mixedOrders=true)(he:A0Q 0 ops.toList=true)(J:(Nat→Bool)→Act→World→Prop)
  (hstart:J (fun _=>false) a { w with drawn:=w.drawn+1 })
  (hstep:∀ (L:Nat→Bool) (i:Nat) (o:Oper) (a:Act) (w:World),ops[i]?=some o→L i=false→(∀ e∈o.after,Region.binds .any e=true→L e.on=true)→J L a w→wpOpIn F n P ops Q i (J fun k=>if k=i then true else L k) a w)
  (hend:∀ (L:Nat→Bool) (a:Act) (w:World),(∀ k,k < ops.size→L k=true)→J L a w→Q .normal a w):(Code.region id ops true).wpIn F n P Q a w:=by
 refine wpIn_region_any hm (B9i he J hstep hend _ _ _ _ (by simp) (by simp) ?_)
 have:(fun k=>(Array.replicate ops.size false).getD k false)=fun _=>false:=by
  funext k
  rw [Array.getD_eq_getD_getElem?,Array.getElem?_replicate]
  split <;> rfl
 rw [this]; exact hstart
theorem opIn_val{F:Fence}(hF:∀ f,F.fn f){n:Nat}{P:Program}{ops:Array Oper}{Q:Exit→Act→World→Prop}{i:Nat}{o:Oper}{a:Act}{w w':World}{K:Act→World→Prop}{v:Value}(hi:ops[i]?=some o)(hg:o.guard=none)
  (hd:∀ c,o.op≠.defer c) (hr:(execOp a.eval o).run P w=.ok (.value v) w') (hk:K (a.put o.dst v) w'):wpOpIn F n P ops Q i K a w:=by
 unfold wpOpIn
 simp only [hi,Region.wanted,hg,if_true]
 refine ⟨fun f _=>hF f,?_⟩
 rw [Oper.semAt_eq _ _ _ hd,hr]
 exact hk
theorem opIn_skip{F:Fence}(hF:∀ f,F.fn f){n:Nat}{P:Program}{ops:Array Oper}{Q:Exit→Act→World→Prop}{i:Nat}{o:Oper}{a:Act}{w w':World}{K:Act→World→Prop}(hi:ops[i]?=some o)(hg:o.guard=none)
  (hd:∀ c,o.op≠.defer c) (hr:(execOp a.eval o).run P w=.ok .skip w') (hk:K (a.put o.dst undef) w'):wpOpIn F n P ops Q i K a w:=by
 unfold wpOpIn
 simp only [hi,Region.wanted,hg,if_true]
 refine ⟨fun f _=>hF f,?_⟩
 rw [Oper.semAt_eq _ _ _ hd,hr]
 exact hk
theorem opIn_enter{F:Fence}(hF:∀ f,F.fn f)(hD:F.depth=none){n:Nat}{P:Program}{ops:Array Oper}{Q:Exit→Act→World→Prop}{i:Nat}{o:Oper}{a:Act}{w w':World}{K:Act→World→Prop}{f:FuncId}{args:Array Value}(hi:ops[i]?=some o)(hg:o.guard=none)
  (hd:∀ c,o.op≠.defer c) (hr:(execOp a.eval o).run P w=.ok (.enter f args) w') (hc:CallsIn F (n - 1) P f args w' fun e w''=>∃ v,e=.returned v∧K (a.put o.dst v) w''):wpOpIn F n P ops Q i K a w:=by
 unfold wpOpIn
 simp only [hi,Region.wanted,hg,if_true]
 refine ⟨fun f _=>hF f,?_⟩
 rw [Oper.semAt_eq _ _ _ hd,hr,Oper.uponIn_enter]
 refine ⟨fun h=>(by rw [hD] at h; cases h),CallsIn.mono hc fun e w'' h=>?_⟩
 obtain ⟨v,rfl,hk⟩:=h
 exact hk
end Go.Eng
namespace Go.Proofs.YtppoifpabafdlaaGreat
open Go.RowKit Go.Shelf Go.Eng
attribute [local go_sem] Oper.semAt_some
abbrev Ct:=Int×Int×Unit
def ctC(c:Ct):List Value:=[.int .i64 c.1,.int .i64 c.2.1]
def A8U(W:World)(l:List Ct)(u:Value):Prop :=
 (l=[]∧∃ ao cap,u=.slice ao 0 cap)∨∃ c b off cap,l=[c]∧u=.slice (some ⟨b,off,none⟩) 1 cap∧W.cell? ⟨b,off,none⟩=some (.int .i64 c.1)∧W.cell? ⟨b,off+1,none⟩=some (.int .i64 c.2.1)
abbrev X64:={ x:Int // -9223372036854775808≤x∧x≤9223372036854775807 }
theorem C2K:(Tryz.prog.info? 126).map (fun i=>(i.zero,i.size,i.bytes))=some (some (.agg #[.int .i64 0,.int .i64 0]),2,16):=by kernel_rfl
theorem E1K{a:Array Value}(h:a.size=4):∃ y0 y1 y2 y3,a=#[y0,y1,y2,y3]:=by
 match a,h with
 | ⟨[_,_,_,_]⟩,_=>exact ⟨_,_,_,_,rfl⟩
theorem E1L{a:Array Value}(h:a.size=9):∃ y0 y1 y2 y3 y4 y5 y6 y7 y8,a=#[y0,y1,y2,y3,y4,y5,y6,y7,y8]:=by
 match a,h with
 | ⟨[_,_,_,_,_,_,_,_,_]⟩,_=>exact ⟨_,_,_,_,_,_,_,_,_,rfl⟩
def A9(W:World)(b:Nat)(t:TypeId)(cs:Array Value):Prop:=W.heap[b]?=some (.cells cs t (0,0))
theorem A9.cell{W:World}{b:Nat}{t:TypeId}{cs:Array Value}(h:A9 W b t cs)(j:Nat):W.cell? ⟨b,j,none⟩=cs[j]?:=by simp [World.cell?,show W.heap[b]?=_ from h]
theorem A9.frozen{W:World}{b:Nat}{t:TypeId}{cs:Array Value}(h:A9 W b t cs)(j:Nat):W.frozen? ⟨b,j,none⟩=false:=by simp [World.frozen?,show W.heap[b]?=_ from h]
theorem A9.below{W W':World}{n b:Nat}{t:TypeId}{cs:Array Value}(h:A9 W b t cs)(hb:Below n W W')(hn:b < n):A9 W' b t cs:=(hb.block b hn).trans h
theorem A9.lt{W:World}{b:Nat}{t:TypeId}{cs:Array Value}(h:A9 W b t cs):b < W.heap.size:=(Array.getElem?_eq_some_iff.1 h).1
theorem A9.new(W:World)(t:TypeId)(cs:Array Value){b:Nat}(hb:b=W.heap.size):A9 (W.alloc (.cells cs t)) b t cs:=by subst hb; exact World.alloc_heap_new W _
theorem A9.alloc{W:World}{b:Nat}{t:TypeId}{cs:Array Value}(h:A9 W b t cs)(o:Obj):A9 (W.alloc o) b t cs:=(Below.heap_alloc W o b h.lt).trans h
theorem A9.load{P:Program}{W:World}{b:Nat}{t:TypeId}{cs:Array Value}(h:A9 W b t cs){n:Nat}(hn:cs.size=n):(loadCellsFrom ⟨b,0,none⟩ 0 n #[]).run P W=.ok cs W:=by
 subst hn
 have:=run_loadCells_list (P:=P) W ⟨b,0,none⟩ cs.toList (fun j v hv=>by
  have hadd:(⟨b,0,none⟩:Addr).add j=⟨b,j,none⟩:=by unfold Addr.add; split <;> simp_all
  rw [hadd,h.cell]
  simpa using hv)
 simpa [loadCells] using this
theorem A9.store{P:Program}{W:World}{b:Nat}{t:TypeId}{cs vs:Array Value}(h:A9 W b t cs)(hn:vs.size=cs.size)(h1:vs.all (·.oneCell')=true):(storeCells ⟨b,0,none⟩ vs.toList 0).run P W=.ok () (W.setRow b vs):=by
 have hl:vs.toList.length=cs.toList.length:=by simpa using hn
 have:=run_storeCells_at P b 0 t vs.toList 0 cs W h (by simp; omega) (fun v hv=>by
  have:=Array.all_eq_true.1 h1
  obtain ⟨i,hi,rfl⟩:=List.getElem_of_mem hv
  simpa using this i (by simpa using hi))
 have e:List.drop cs.size cs.toList=[]:=List.drop_eq_nil_of_le (by simp)
 simpa [hn,e] using this
theorem A4t{P:Program}{W:World}{b:Nat}{t T:TypeId}{cs:Array Value}{n:Nat}(h:A9 W b t cs)(hn:cs.size=n)(ha:(isAgg T).run P W=.ok true W)(hz:(sizeOf T).run P W=.ok n W){ρ:Operand→Value}{x:Operand}(h1:ρ x=.pointer (some ⟨b,0,none⟩)){o:Oper}(ho:o.op=.load T x):(execOp ρ o).run P W=.ok (.value (.agg cs)) W:=by
 simp only [execOp,ho,h1,Instr.loadAt,Instr.sureAddr,Sem.run_bind,Sem.run_pure,Result.andThen_ok,loadVar,ha,if_true,hz,loadCells,h.load hn]
theorem B3X{P:Program}{W:World}{b:Nat}{t T:TypeId}{cs vs:Array Value}{n:Nat}(h:A9 W b t cs)(hc:cs.size=n)(hn:vs.size=n)(h1:vs.all (·.oneCell')=true)(hz:(sizeOf T).run P W=.ok n W){ρ:Operand→Value}{x y:Operand}(hx:ρ x=.pointer (some ⟨b,0,none⟩))(hy:ρ y=.agg vs){o:Oper}(ho:o.op=.store T x y):(execOp ρ o).run P W=.ok .skip (W.setRow b vs):=by
 simp only [execOp,ho,hx,hy,Instr.storeAt,Instr.sureAddr,Sem.run_bind,Sem.run_pure,Result.andThen_ok,storeVar,Value.cells,hz,hn,ne_eq,_root_.not_true,if_false,h.store (hn.trans hc.symm) h1]
theorem A9.row{W:World}{b:Nat}{t:TypeId}{cs vs:Array Value}(h:A9 W b t cs):A9 (W.setRow b vs) b t vs:=setRow_heap W b cs vs t (0,0) h
theorem A9.rowOther{W:World}{b b':Nat}{t:TypeId}{cs vs:Array Value}(h:A9 W b t cs)(hn:b≠b'):A9 (W.setRow b' vs) b t cs:=(setRow_other W b' b vs hn).trans h
theorem A6E{W:World}{b:Nat}{t:TypeId}{cs vs:Array Value}(h:A9 W b t cs):KeepsOthers W (W.setRow b vs) :=
 KeepsOthers.of_grownBy (row:=some b) ⟨rfl,rfl,rfl,by simp,fun k hk hne=>setRow_other W b k vs (fun e=>hne (by rw [e]))⟩ fun j o e ho=>by
  cases e
  have:=(show W.heap[b]?=_ from h).symm.trans ho
  cases this; rfl
theorem A9.set{W:World}{b:Nat}{t:TypeId}{cs:Array Value}(h:A9 W b t cs)(j:Nat)(x:Value):A9 (W.setCell ⟨b,j,none⟩ x) b t (cs.setIfInBounds j x):=by
 obtain ⟨hlt,hk⟩:=Array.getElem?_eq_some_iff.1 h
 show(W.heap.modify b _)[b]?=_
 rw [Array.getElem?_eq_getElem (by rw [Array.size_modify]; exact hlt),Array.getElem_modify_self,hk]
 rfl
theorem A9.other{W:World}{b b':Nat}{t:TypeId}{cs:Array Value}(h:A9 W b t cs)(hn:b≠b')(j:Nat)(x:Value):A9 (W.setCell ⟨b',j,none⟩ x) b t cs:=(Below.heap_setCell W ⟨b',j,none⟩ x b hn).trans h
theorem A9.grown{W W':World}{b:Nat}{t e:TypeId}{cs:Array Value}{base size k:Nat}{v:Value}{xs:List Value}(h:A9 W b t cs)(hg:W.grownBy W' v.ownBlock)(hr:W.ownsRow base e size v k xs)(hte:t≠e):A9 W' b t cs:=by
 refine(hg.block b h.lt ?_).trans h
 rcases hr.2 with ⟨rfl,_⟩ | ⟨g,cap,cur,rfl,_,hgb,_⟩
 ·simp [Value.ownBlock]
 ·intro e'
  obtain rfl:b=g:=by simpa [Value.ownBlock] using e'
  have:=(show W.heap[b]?=_ from h).symm.trans hgb
  simp at this
  exact hte this.2
theorem B1T{P:Program}{t ty e:TypeId}{i:TypeInfo}{z:Value}(ht:P.underlying t=some (.slice e))(hi:P.info? e=some i)(hz:i.zero=some z)(hs:i.size=2)(hb:i.bytes=16)(hzs:z.cells.size=2)
  {w:World} {base n:Nat} {v u:Value} {xs:List Value} {l:List Ct} (hown:w.ownsRow base e 2 v n xs) (hu:A8U w l u) (hn:n≤1073741824) (hbase:base≤w.heap.size) :
  ∃ v' w3,(Builtin.append_ #[t,t] ty #[v,u]).run P w=.ok v' w3∧w3.ownsRow base e 2 v' (n+l.length) (xs++l.flatMap ctC)∧w.grownBy w3 v.ownBlock:=by
 rcases hu with ⟨rfl,ao,cap,rfl⟩ | ⟨c,b,off,cap,rfl,rfl,h1,h2⟩
 ·rcases hown.2 with ⟨rfl,rfl⟩ | ⟨g,cap',cur,rfl,hg,hh,hc,r⟩
  ·exact ⟨_,w,Eng.run_append_zero ht hi ty none 0 0 (Nat.le_refl _) ao cap,by simpa using hown,World.grownBy.refl _ _⟩
  ·exact ⟨_,w,Eng.run_append_zero ht hi ty (some ⟨g,0,none⟩) n cap' hc ao cap,by simpa using hown,World.grownBy.refl _ _⟩
 ·obtain ⟨v',w3,h3,h4,h5,_⟩:=run_append_own (P:=P) w base t ty e i z 2 16 ht hi hz hs hb hzs (by decide) v n xs hown ⟨b,off,none⟩ 1 cap (ctC c) rfl
   (fun j u hj=>by
    match j,hj with
    | 0,hj=>cases hj; exact h1
    | 1,hj=>cases hj; exact h2) (by simp [ctC,Value.oneCell']) (by unfold maxLen; omega) (by omega) hbase
  exact ⟨v',w3,h3,by simpa using h4,h5⟩
theorem Z9{W:World}{a:Addr}{v:Value}{o:Obj}(h:W.cell? a=some v):(W.alloc o).cell? a=some v:=by
 have hlt:a.block < W.heap.size:=by
  unfold World.cell? at h
  cases hb:W.heap[a.block]? with
  | none=>rw [hb] at h; simp at h
  | some ob=>exact(Array.getElem?_eq_some_iff.1 hb).1
 exact(World.cell?_of_block (w:=W) (Below.heap_alloc W o a.block hlt)).trans h
theorem Y7{a:Act}{d t:Nat}{v:Value}(hd:d < a.tmps.size):(a.put (some d) v).eval (.tmp t)=if t=d then v else a.eval (.tmp t):=by
 simp only [Act.put,Act.eval,Array.getD_eq_getD_getElem?,Array.getElem?_setIfInBounds]
 by_cases h:d=t
 ·subst h; simp [hd]
 ·rw [if_neg h,if_neg (fun e=>h e.symm)]
theorem T5(a:Act)(d:Option Nat)(v:Value):(a.put d v).tmps.size=a.tmps.size:=by cases d <;> simp [Act.put]
theorem C2L{W:World}{base:Nat}{e t:TypeId}{size k:Nat}{v:Value}{xs:List Value}{b:Nat}{cs:Array Value}(h:W.ownsRow base e size v k xs)(hb:A9 W b t cs)(hte:t≠e)(j:Nat)(x:Value):(W.setCell ⟨b,j,none⟩ x).ownsRow base e size v k xs:=by
 refine ⟨h.1,?_⟩
 rcases h.2 with h2 | ⟨g,cap,cur,e1,e2,e3,e4⟩
 ·exact .inl h2
 ·refine .inr ⟨g,cap,cur,e1,e2,(Below.heap_setCell W ⟨b,j,none⟩ x g ?_).trans e3,e4⟩
  intro e5
  have e5:g=b:=e5
  subst e5
  have:=(show W.heap[g]?=_ from hb).symm.trans e3
  simp at this
  exact hte this.2
theorem A9S{W:World}{base:Nat}{e t:TypeId}{size k:Nat}{v:Value}{xs:List Value}{b:Nat}{cs vs:Array Value}(h:W.ownsRow base e size v k xs)(hb:A9 W b t cs)(hte:t≠e):(W.setRow b vs).ownsRow base e size v k xs:=by
 refine ⟨h.1,?_⟩
 rcases h.2 with h2 | ⟨g,cap,cur,e1,e2,e3,e4⟩
 ·exact .inl h2
 ·refine .inr ⟨g,cap,cur,e1,e2,(setRow_other W b g vs ?_).trans e3,e4⟩
  intro e5
  subst e5
  have:=(show W.heap[g]?=_ from hb).symm.trans e3
  simp at this
  exact hte this.2
theorem A3U{W:World}{base:Nat}{e:TypeId}{size k:Nat}{v:Value}{xs:List Value}(h:W.ownsRow base e size v k xs):∀ g,v.ownBlock=some g→base≤g∧∃ o:Obj,W.heap[g]?=some o∧o.isCells=true:=by
 intro g hg
 rcases h.2 with ⟨rfl,_⟩ | ⟨g',cap,cur,rfl,e2,e3,_⟩
 ·simp [Value.ownBlock] at hg
 ·obtain rfl:g'=g:=by simpa [Value.ownBlock] using hg
  exact ⟨e2,_,e3,rfl⟩
end Go.Proofs.YtppoifpabafdlaaGreat
namespace Go.Proofs.YtppoifpabafdlaaGreat
open Go.RowKit Go.Shelf Go.Eng
attribute [local go_sem] Oper.semAt_some
def A9T{S:Type}(C:S→Array Value)(ok:S→Prop)(step:S→Int→Option (S×List Ct×Unit)):Prop:=∀ s v r (W:World),ok s→step s v=some r→r.2.1.length≤1 →
 Calls Tryz.prog 56 #[.agg (C s),.int .i64 v] W fun e W'=>∃ u,e=.returned (.tuple #[.agg (C r.1),u])∧Below W.heap.size W W'∧A8U W' r.2.1 u
def A9U{S:Type}(C:S→Array Value)(ok:S→Prop)(rest:S→Option (List Ct×Unit)):Prop:=∀ s r (W:World),ok s→rest s=some r→r.1.length≤1 →
 Calls Tryz.prog 57 #[.agg (C s)] W fun e W'=>∃ u,e=.returned u∧Below W.heap.size W W'∧A8U W' r.1 u
def A3d:Array Value:=#[.func (.func 56) #[] #[],.func (.func 57) #[] #[]]
def C70{S:Type}(C:S→Array Value)(step:S→Int→Option (S×List Ct×Unit))(Inv:Nat→S→Prop)(s0:S)(w:World)(pre:List X64)(W:World):Prop :=
 ∃ s out v,B0t step (pre.map (·.1)) s0 []=some (s,out)∧Inv pre.length s∧out.length≤pre.length∧A9 W w.heap.size 123 A3d∧A9 W (w.heap.size+1) 117 (C s)∧A9 W (w.heap.size+2) 40 #[v] ∧
  W.ownsRow w.heap.size 126 2 v out.length (out.flatMap ctC)∧Below w.heap.size w W
theorem B9j{S:Type}(C:S→Array Value)(step:S→Int→Option (S×List Ct×Unit))(Inv:Nat→S→Prop)(s0:S)(w:World):OwnFrom (w.heap.size+3) (C70 C step Inv s0 w):=by
 rintro pre X Y row ⟨s,out,v,h1,h2,h3,h4,h5,h6,h7,h8⟩ hg hr
 have keep:∀ b,b < w.heap.size+3→b < X.heap.size→Y.heap[b]?=X.heap[b]?:=fun b hb hx=>hg.block b hx (fun e=>by have:=(hr b e.symm).1; omega)
 refine ⟨s,out,v,h1,h2,h3,(keep _ (by omega) h4.lt).trans h4,(keep _ (by omega) h5.lt).trans h5,(keep _ (by omega) h6.lt).trans h6,h7.kept hg ?_,h8.grown hg h8.size (fun k e=>by have:=(hr k e).1; omega)⟩
 rcases h7.2 with ⟨rfl,_⟩ | ⟨g,cap,cur,rfl,_,hgb,_⟩
 ·exact .inl rfl
 ·refine .inr fun e'=>?_
  obtain ⟨_,o,ho,hc⟩:=hr g (by simpa [Value.ownBlock] using e'.symm)
  rw [hgb] at ho; cases ho; cases hc
set_option maxRecDepth 100000 in
set_option maxHeartbeats 2000000 in
theorem D0a{S:Type}(C:S→Array Value)(ok:S→Prop)(hCs:∀ s,(C s).size=4)(hC1:∀ s,(C s).all (·.oneCell')=true)(step:S→Int→Option (S×List Ct×Unit))(rest:S→Option (List Ct×Unit))(hstep:A9T C ok step)(hrest:A9U C ok rest)(s0:S)(bq:Nat)(w:World)(zs:List X64)(sv:Value)
  (hz:zs.length≤1073741824) (hB:bq < w.heap.size) (hc:w.cell? ⟨bq,0,none⟩=some sv) (hI:D09 (fun x:X64=>x.1) ⟨0,by decide,by decide⟩ w.heap.size w sv zs) (hok:C0p ok step zs.length s0)
  (s:S) (out:List Ct) (r:List Ct×Unit) (hd:B0t step (zs.map (·.1)) s0 []=some (s,out)) (hr:rest s=some r) (hr1:r.1.length≤1) :
  Calls Tryz.prog 58 #[.agg A3d,.agg (C s0),.func (.func 119) #[] #[.pointer (some ⟨bq,0,none⟩)]] w fun e W' =>
   ∃ v,e=.returned v∧W'.ownsRow w.heap.size 126 2 v (out.length+r.1.length) (out.flatMap ctC++r.1.flatMap ctC)∧Below w.heap.size w W':=by
 obtain ⟨Inv,hI0,hIok,hInv⟩:=hok
 obtain ⟨i0,hi0,hz0,hz1,hz2⟩:=info_parts C2K
 refine(callsIn_wide (n:=5)).1 ?_
 refine callsIn_of_wp_marks Tryz.func58 rfl trivial ?_ rfl
 simp only [Tryz.ntmps58,List.size_toArray,List.length_cons,List.length_nil,Nat.reduceAdd,Nat.reduceSub,Array.replicate_succ,Array.replicate_zero,List.push_toArray,List.append_toArray,List.nil_append,List.cons_append,A3d]
 gi_wp2
 have hB0:Below w.heap.size w (((w.alloc (.cells #[.func (.func 56) #[] #[],.func (.func 57) #[] #[]] 123)).alloc (.cells (C s0) 117)).alloc (.cells #[.slice none 0 0] 40)) :=
  (((Below.refl _ w).alloc (Nat.le_refl _) _).alloc (by simp) _).alloc (by simp; omega) _
 obtain ⟨W0,hW0⟩:∃ W0,(((w.alloc (.cells #[.func (.func 56) #[] #[],.func (.func 57) #[] #[]] 123)).alloc (.cells (C s0) 117)).alloc (.cells #[.slice none 0 0] 40))=W0:=⟨_,rfl⟩
 have hsz:W0.heap.size=w.heap.size+3:=by rw [← hW0]; simp
 rw [hW0] at hB0 ⊢
 refine wpIn_rangeFunc_ownG rfl (by decide) (gf:=119) (lb:=#[.pointer (some ⟨bq,0,none⟩)]) rfl trivial (enters_of Tryz.func119 (by kernel_rfl) rfl)
  (A6D (fun x:X64=>x.1) ⟨0,by decide,by decide⟩ Fence.wide 4 trivial rfl (by decide) bq w.heap.size sv zs (by omega) W0 (by omega) (by omega) ((hB0.cell (p:=⟨bq,0,none⟩) hB).trans hc) (hI.below hB0)) belowK_t (belowK_b (by omega)) (Below.refl _ _) (fun _=>rfl)
  (C70 C step Inv s0 w) (fun _ _ _=>False) (by rw [hsz]; exact B9j C step Inv s0 w) (fun _ _ _ _ _ hs _ _=>hs) ?start
  (fun x=>{ tmps:=#[.agg A3d,.agg (C s0),.func (.func 119) #[] #[.pointer (some ⟨bq,0,none⟩)],.pointer (some ⟨w.heap.size,0,none⟩),.pointer (some ⟨w.heap.size+1,0,none⟩),undef,.slice none 0 0,.pointer (some ⟨w.heap.size+2,0,none⟩),.int .i64 x.1,undef,undef,.func (.func 119) #[] #[.pointer (some ⟨bq,0,none⟩)],.int .i64 x.1,undef,undef,undef,undef,undef,undef,undef,undef,undef,undef,undef,undef,undef,undef,undef,undef,undef,undef],defers:=[] }) ?assign ?body ?done ?stop
 case start =>
  refine ⟨s0,[],.slice none 0 0,rfl,hI0,Nat.le_refl _,?_,?_,?_,World.ownsRow_nil _ _ _ _,hB0⟩
  ·rw [← hW0]; exact((A9.new w 123 _ rfl).alloc _).alloc _
  ·rw [← hW0]; exact(A9.new _ 117 _ (by simp)).alloc _
  ·rw [← hW0]; exact A9.new _ 40 _ (by simp)
 case assign =>
  intro l x W K hK
  gi_wp2
  exact hK
 case body =>
  rintro l pre x W ⟨s1,out1,v,h1,h2,h3,h4,h5,h6,h7,h8⟩ hlt
  obtain ⟨r1,hst,hInv',hle⟩:=hInv pre.length s1 x.1 hlt h2 x.2.1 x.2.2
  have c30:=h4.cell 0
  have c31:=h4.cell 1
  obtain ⟨y0,y1,y2,y3,hy⟩:=E1K (hCs s1)
  have h5y:=h5
  rw [hy] at h5y
  have c40:=h5y.cell 0
  have c41:=h5y.cell 1
  have c42:=h5y.cell 2
  have c43:=h5y.cell 3
  simp [A3d] at c30 c31 c40 c41 c42 c43
  gi_wp2
  rw [← hy]
  refine ⟨trivial,?_⟩
  refine(CallsIn.inRound l (callsIn_wide.2 (hstep s1 x.1 r1 W (hIok _ _ h2) hst hle))).mono ?_
  rintro e W1 ⟨u,rfl,hk1,hu⟩
  have k3:=h4.below hk1 h4.lt
  have k4:=h5.below hk1 h5.lt
  have k7:=h6.below hk1 h6.lt
  have hlt3:=k3.lt
  have hlt4:=k4.lt
  have hlt7:=k7.lt
  have d7:=k7.cell 0
  simp at d7
  have hst0:(storeCells ⟨W1.heap.size,0,none⟩ (C r1.1).toList 0).run Tryz.prog (W1.alloc (.cells #[.int .i64 0,.int .i64 0,.int .i64 0,.int .i64 0] 117))=.ok () (W1.alloc (.cells (C r1.1) 117)) :=
   run_storeCells_new W1 117 _ (C r1.1) (by rw [hCs]; kernel_rfl) (hCs _).symm (hC1 _)
  gi_wp2
  have hsz1:w.heap.size+3≤W1.heap.size:=by have:=k7.lt; omega
  have hown1:W1.ownsRow w.heap.size 126 2 v out1.length (out1.flatMap ctC):=by
   rcases h7 with ⟨e1,h7⟩
   refine ⟨e1,?_⟩
   rcases h7 with h7 | ⟨g,cap,cur,e2,e3,e4,e5⟩
   ·exact .inl h7
   ·exact .inr ⟨g,cap,cur,e2,e3,(hk1.block g (Array.getElem?_eq_some_iff.1 e4).1).trans e4,e5⟩
  obtain ⟨W2,hW2⟩:∃ W2,(W1.alloc (.cells (C r1.1) 117))=W2:=⟨_,rfl⟩
  have m9:A9 W2 W1.heap.size 117 (C r1.1):=by rw [← hW2]; exact A9.new _ _ _ rfl
  have m3:A9 W2 w.heap.size 123 A3d:=by rw [← hW2]; exact k3.alloc _
  have m4:A9 W2 (w.heap.size+1) 117 (C s1):=by rw [← hW2]; exact k4.alloc _
  have m7:A9 W2 (w.heap.size+2) 40 #[v]:=by rw [← hW2]; exact k7.alloc _
  have hown2:W2.ownsRow w.heap.size 126 2 v out1.length (out1.flatMap ctC):=by rw [← hW2]; exact hown1.alloc _
  have hu2:A8U W2 r1.2.1 u:=by
   rw [← hW2]
   rcases hu with h | ⟨c,b,off,cap,e1,e2,e3,e4⟩
   ·exact .inl h
   ·refine .inr ⟨c,b,off,cap,e1,e2,?_,?_⟩
    ·exact(Z9 e3)
    ·exact(Z9 e4)
  have hBW:Below w.heap.size W W2:=by rw [← hW2]; exact(hk1.mono h8.size).alloc (by omega) _
  have hKW:KeepsOthers W W2:=by
   rw [← hW2]
   exact KeepsOthers.trans ⟨hk1.size,fun k o hk _=>(hk1.block k (Array.getElem?_eq_some_iff.1 hk).1).trans hk⟩ (KeepsOthers.alloc _ _)
  rw [hW2]
  clear hW2
  obtain ⟨v',w3,hrun,hown3,hgr⟩:=B1T (ty:=40) Tryz.underlying40 hi0 hz0 hz1 hz2 rfl (w:=W2.drew) hown2 hu2 (by have:=hlt; omega) (by have:=hBW.size; have:=h8.size; show _≤W2.heap.size; omega)
  have d7:=m7.cell 0
  have n4:A9 w3 (w.heap.size+1) 117 (C s1):=A9.grown (W:=W2.drew) m4 hgr hown2 (by decide)
  have n7:A9 w3 (w.heap.size+2) 40 #[v]:=A9.grown (W:=W2.drew) m7 hgr hown2 (by decide)
  have n3:A9 w3 w.heap.size 123 A3d:=A9.grown (W:=W2.drew) m3 hgr hown2 (by decide)
  have e70:=n7.cell 0
  have f70:=n7.frozen 0
  simp at d7 e70
  have hmx:Tryz.prog.follows .mixedOrders=true:=by kernel_rfl
  have n9:A9 w3 W1.heap.size 117 (C r1.1):=A9.grown (W:=W2.drew) m9 hgr hown2 (by decide)
  have q7:W2.drew.cell? ⟨w.heap.size+2,0,none⟩=_:=d7
  have hld2:∀ ρ:Operand→Value,ρ (.tmp 9)=.pointer (some ⟨W1.heap.size,0,none⟩)→∀ o:Oper,o.op=.load 117 (.tmp 9)→(execOp ρ o).run Tryz.prog W2.drew=.ok (.value (.agg (C r1.1))) W2.drew:=fun ρ h1 o ho=>A4t (show A9 W2.drew W1.heap.size 117 (C r1.1) from m9) (hCs _) (Tryz.isAgg117 _) (Tryz.sizeOf117 _) h1 ho
  have hld3:∀ ρ:Operand→Value,ρ (.tmp 9)=.pointer (some ⟨W1.heap.size,0,none⟩)→∀ o:Oper,o.op=.load 117 (.tmp 9)→(execOp ρ o).run Tryz.prog w3=.ok (.value (.agg (C r1.1))) w3:=fun ρ h1 o ho=>A4t (show A9 w3 W1.heap.size 117 (C r1.1) from n9) (hCs _) (Tryz.isAgg117 _) (Tryz.sizeOf117 _) h1 ho
  have hld7:∀ ρ:Operand→Value,ρ (.tmp 7)=.pointer (some ⟨w.heap.size+2,0,none⟩)→∀ o:Oper,o.op=.load 40 (.tmp 7)→(execOp ρ o).run Tryz.prog W2.drew=.ok (.value v) W2.drew:=by
   intro ρ h1 o ho
   simp only [execOp,ho,h1]
   go_simp
  have happ:∀ ρ:Operand→Value,ρ (.tmp 22)=v→ρ (.tmp 23)=u→∀ o:Oper,o.op=.call { callee:=.builtin .append,args:=#[.tmp 22,.tmp 23],argTypes:=#[40,40] }→o.type=40→(execOp ρ o).run Tryz.prog W2.drew=.ok (.value v') w3:=by
   intro ρ h1 h2 o ho ht
   simp [execOp,ho,ht,resolve,invoke,builtin,h1,h2,hrun]
  obtain ⟨W4,hW4⟩:∃ W4,w3.setRow (w.heap.size+1) (C r1.1)=W4:=⟨_,rfl⟩
  have hst4:∀ ρ:Operand→Value,ρ (.tmp 4)=.pointer (some ⟨w.heap.size+1,0,none⟩)→ρ (.tmp 21)=.agg (C r1.1)→∀ o:Oper,o.op=.store 117 (.tmp 4) (.tmp 21) →
    (execOp ρ o).run Tryz.prog w3=.ok .skip W4:=by
   intro ρ h1 h2 o ho
   rw [← hW4]
   exact B3X n4 (hCs _) (hCs _) (hC1 _) (Tryz.sizeOf117 _) h1 h2 ho
  have p4:A9 W4 (w.heap.size+1) 117 (C r1.1):=by rw [← hW4]; exact n4.row
  have p7:A9 W4 (w.heap.size+2) 40 #[v]:=by rw [← hW4]; exact n7.rowOther (by omega)
  have p3:A9 W4 w.heap.size 123 A3d:=by rw [← hW4]; exact n3.rowOther (by omega)
  have g70:=p7.cell 0
  have g71:=p7.frozen 0
  simp at g70
  obtain ⟨W5,hW5⟩:∃ W5,W4.setCell ⟨w.heap.size+2,0,none⟩ v'=W5:=⟨_,rfl⟩
  have hcl':v'.cells=#[v']:=by rcases hown3.2 with ⟨rfl,_⟩ | ⟨_,_,_,rfl,_⟩ <;> rfl
  have hst7:∀ ρ:Operand→Value,ρ (.tmp 7)=.pointer (some ⟨w.heap.size+2,0,none⟩)→ρ (.tmp 24)=v'→∀ o:Oper,o.op=.store 40 (.tmp 7) (.tmp 24)→(execOp ρ o).run Tryz.prog W4=.ok .skip W5:=by
   intro ρ h1 h2 o ho
   simp only [execOp,ho,h1,h2]
   rw [← hW5]
   rcases hown3.2 with ⟨e1,_⟩ | ⟨_,_,_,e1,_⟩
   ·rw [e1]; go_simp
   ·rw [e1]; go_simp
  refine Eng.region_rule hmx (by kernel_rfl) (fun L a W'=>a.defers=[]∧a.tmps.size=31∧a.eval (.tmp 9)=.pointer (some ⟨W1.heap.size,0,none⟩)∧a.eval (.tmp 7)=.pointer (some ⟨w.heap.size+2,0,none⟩)∧a.eval (.tmp 4)=.pointer (some ⟨w.heap.size+1,0,none⟩)∧a.eval (.tmp 10)=u ∧
   (L 0=true→a.eval (.tmp 21)=.agg (C r1.1))∧(L 1=true→a.eval (.tmp 22)=v)∧(L 2=true→a.eval (.tmp 23)=u)∧(L 3=true→a.eval (.tmp 24)=v') ∧
   (L 3=true→L 1=true∧L 2=true)∧(L 4=true→L 0=true∧L 3=true)∧(L 5=true→L 4=true)∧W'=if L 5 then W5 else if L 4 then W4 else if L 3 then w3 else W2.drew) ?_ ?_ ?_
  ·refine ⟨rfl,rfl,rfl,rfl,rfl,rfl,?_⟩
   simp
  ·intro L i o a W' ho hi hall ⟨j1,j2,j9,j7,j4,j10,j21,j22,j23,j24,i3,i4,i5,hw⟩
   have hF:∀ f,(Fence.wide.inRound l).fn f:=fun _=>trivial
   match i,ho with
   | 0,ho =>
    cases ho
    have h4:L 4=false:=by cases h:L 4 with | false=>rfl | true=>have:=(i4 h).1; rw [hi] at this; cases this
    have h5:L 5=false:=by cases h:L 5 with | false=>rfl | true=>have:=i5 h; rw [h4] at this; cases this
    simp only [h4,h5] at hw
    refine Eng.opIn_val (w':=W') hF rfl rfl (fun c h=>by cases h) (v:=.agg (C r1.1)) ?_ ?_
    ·cases h3:L 3 with
     | true=>rw [h3] at hw; simp at hw; subst hw; exact hld3 _ j9 _ rfl
     | false=>rw [h3] at hw; simp at hw; subst hw; exact hld2 _ j9 _ rfl
    ·refine ⟨j1,by rw [T5]; exact j2,?_⟩
     simp [Y7 (a:=a) (d:=21) (by omega),j9,j7,j4,j10]
     refine ⟨j22,j23,j24,i3,fun h=>(i4 h).2,i5,?_⟩
     simpa [h4,h5] using hw
   | 1,ho =>
    cases ho
    have h3:L 3=false:=by cases h:L 3 with | false=>rfl | true=>have:=(i3 h).1; rw [hi] at this; cases this
    have h4:L 4=false:=by cases h:L 4 with | false=>rfl | true=>have:=(i4 h).2; rw [h3] at this; cases this
    have h5:L 5=false:=by cases h:L 5 with | false=>rfl | true=>have:=i5 h; rw [h4] at this; cases this
    simp [h3,h4,h5] at hw
    subst hw
    refine Eng.opIn_val hF rfl rfl (fun c h=>by cases h) (hld7 _ j7 _ rfl) ?_
    refine ⟨j1,by rw [T5]; exact j2,?_⟩
    simp [Y7 (a:=a) (d:=22) (by omega),j9,j7,j4,j10,h3,h4,h5]
    exact ⟨j21,j23⟩
   | 2,ho =>
    cases ho
    have h3:L 3=false:=by cases h:L 3 with | false=>rfl | true=>have:=(i3 h).2; rw [hi] at this; cases this
    have h4:L 4=false:=by cases h:L 4 with | false=>rfl | true=>have:=(i4 h).2; rw [h3] at this; cases this
    have h5:L 5=false:=by cases h:L 5 with | false=>rfl | true=>have:=i5 h; rw [h4] at this; cases this
    simp [h3,h4,h5] at hw
    subst hw
    refine Eng.opIn_val (v:=u) (w':=W2.drew) hF rfl rfl (fun c h=>by cases h) (by simp [execOp,j10]) ?_
    refine ⟨j1,by rw [T5]; exact j2,?_⟩
    simp [Y7 (a:=a) (d:=23) (by omega),j9,j7,j4,j10,h3,h4,h5]
    exact ⟨j21,j22⟩
   | 3,ho =>
    cases ho
    have h4:L 4=false:=by cases h:L 4 with | false=>rfl | true=>have:=(i4 h).2; rw [hi] at this; cases this
    have h5:L 5=false:=by cases h:L 5 with | false=>rfl | true=>have:=i5 h; rw [h4] at this; cases this
    have h1:L 1=true:=hall ⟨1,.data⟩ (by simp) rfl
    have h2:L 2=true:=hall ⟨2,.data⟩ (by simp) rfl
    simp [hi,h4,h5] at hw
    subst hw
    refine Eng.opIn_val hF rfl rfl (fun c h=>by cases h) (happ _ (j22 h1) (j23 h2) _ rfl rfl) ?_
    refine ⟨j1,by rw [T5]; exact j2,?_⟩
    simp [Y7 (a:=a) (d:=24) (by omega),j9,j7,j4,j10,h1,h2,h4,h5]
    exact ⟨j21,j22 h1,j23 h2⟩
   | 4,ho =>
    cases ho
    have h5:L 5=false:=by cases h:L 5 with | false=>rfl | true=>have:=i5 h; rw [hi] at this; cases this
    have h0:L 0=true:=hall ⟨0,.data⟩ (by simp) rfl
    have h3:L 3=true:=hall ⟨3,.chain⟩ (by simp) rfl
    simp [hi,h3,h5] at hw
    subst hw
    refine Eng.opIn_skip hF rfl rfl (fun c h=>by cases h) (hst4 _ j4 (j21 h0) _ rfl) ?_
    refine ⟨j1,by rw [T5]; exact j2,?_⟩
    simp [Act.put,h0,h3,h5,hi]
    exact ⟨j9,j7,j4,j10,j21 h0,j22,j23,j24 h3,i3 h3⟩
   | 5,ho =>
    cases ho
    have h3:L 3=true:=hall ⟨3,.data⟩ (by simp) rfl
    have h4:L 4=true:=hall ⟨4,.chain⟩ (by simp) rfl
    simp [hi,h3,h4] at hw
    subst hw
    refine Eng.opIn_skip hF rfl rfl (fun c h=>by cases h) (hst7 _ j7 (j24 h3) _ rfl) ?_
    refine ⟨j1,by rw [T5]; exact j2,?_⟩
    simp [Act.put,h3,h4]
    exact ⟨j9,j7,j4,j10,j21,j22,j23,j24 h3,i3 h3,(i4 h4).1⟩
   | k+6,ho=>simp at ho
  ·intro L a W' hL ⟨_,_,_,_,_,_,_,_,_,_,_,_,_,hw⟩
   have h5:L 5=true:=hL 5 (by decide)
   rw [h5] at hw
   simp only [if_true] at hw
   subst hw
   have hn2:w.heap.size≤W2.heap.size:=by have:=m3.lt; omega
   have hB5:Below w.heap.size W W':=by
    have hb3:Below w.heap.size W w3:=hBW.drew.grown hgr hn2 (fun k e=>(A3U hown2 k e).1)
    rw [← hW5,← hW4]
    exact(below_setRow hb3 (by omega) (C r1.1)).setCell (p:=⟨w.heap.size+2,0,none⟩) (by simp) _
   have hK5:KeepsOthers W W':=by
    have hk3:KeepsOthers W2.drew w3:=KeepsOthers.of_grownBy hgr fun j o ej hj=>by
     obtain ⟨_,o',ho',hc'⟩:=A3U hown2 j ej
     have:W2.heap[j]?=some o:=hj
     rw [this] at ho'; cases ho'; exact hc'
    rw [← hW5,← hW4]
    exact(hKW.trans ((KeepsOthers.drew W2).trans hk3)).trans ((A6E n4).trans (KeepsOthers.setCell _ _ _))
   refine ⟨hK5.from _,hB5,r1.1,out1++r1.2.1,v',?_,?_,?_,?_,?_,?_,?_,h8.trans hB5⟩
   ·rw [List.map_append,List.map_cons,List.map_nil,A7T,h1]
    simp [hst]
   ·simpa using hInv'
   ·simp; omega
   ·rw [← hW5]; exact p3.other (by omega) 0 _
   ·rw [← hW5]; exact p4.other (by omega) 0 _
   ·rw [← hW5]; exact p7.set 0 _
   ·rw [← hW5,List.length_append,List.flatMap_append]
    refine C2L ?_ p7 (by decide) 0 _
    rw [← hW4]
    exact A9S hown3 n4 (by decide)
 case done =>
  rintro D ys W hD rfl ⟨s1,out1,v,h1,h2,h3,h4,h5,h6,h7,h8⟩ hK
  rw [hd] at h1
  cases h1
  have c31:=h4.cell 1
  have c70:=h6.cell 0
  simp [A3d] at c31 c70
  have hmx:Tryz.prog.follows .mixedOrders=true:=by kernel_rfl
  gi_wp2
  have q7:W.drew.cell? ⟨w.heap.size+2,0,none⟩=_:=c70
  have q31:W.drew.cell? ⟨w.heap.size,1,none⟩=_:=c31
  have hl0:∀ (W':World),W'.cell? ⟨w.heap.size+2,0,none⟩=some v→∀ ρ:Operand→Value,ρ (.tmp 7)=.pointer (some ⟨w.heap.size+2,0,none⟩)→∀ o:Oper,o.op=.load 40 (.tmp 7)→(execOp ρ o).run Tryz.prog W'=.ok (.value v) W':=by
   intro W' hc ρ h1 o ho
   simp only [execOp,ho,h1]
   go_simp
  have hl1:∀ ρ:Operand→Value,ρ (.tmp 3)=.pointer (some ⟨w.heap.size,0,none⟩)→∀ o:Oper,o.op=.fieldAddr 123 (.tmp 3) 1→(execOp ρ o).run Tryz.prog W.drew=.ok (.value (.pointer (some ⟨w.heap.size,1,none⟩))) W.drew:=by
   intro ρ h1 o ho
   simp only [execOp,ho,h1]
   go_simp
  have hl2:∀ ρ:Operand→Value,ρ (.tmp 26)=.pointer (some ⟨w.heap.size,1,none⟩)→∀ o:Oper,o.op=.load 121 (.tmp 26)→(execOp ρ o).run Tryz.prog W.drew=.ok (.value (.func (.func 57) #[] #[])) W.drew:=by
   intro ρ h1 o ho
   simp only [execOp,ho,h1]
   go_simp
  have hl3:∀ ρ:Operand→Value,ρ (.tmp 4)=.pointer (some ⟨w.heap.size+1,0,none⟩)→∀ o:Oper,o.op=.load 117 (.tmp 4)→(execOp ρ o).run Tryz.prog W.drew=.ok (.value (.agg (C s))) W.drew:=fun ρ h1 o ho=>A4t (show A9 W.drew (w.heap.size+1) 117 (C s) from h5) (hCs _) (Tryz.isAgg117 _) (Tryz.sizeOf117 _) h1 ho
  refine Eng.region_rule hmx (by kernel_rfl) (fun L a W'=>a.defers=[{ target:=.collected D,args:=#[] }]∧a.tmps.size=31∧a.eval (.tmp 3)=.pointer (some ⟨w.heap.size,0,none⟩)∧a.eval (.tmp 7)=.pointer (some ⟨w.heap.size+2,0,none⟩)∧a.eval (.tmp 4)=.pointer (some ⟨w.heap.size+1,0,none⟩) ∧
   (L 0=true→a.eval (.tmp 25)=v)∧(L 1=true→a.eval (.tmp 26)=.pointer (some ⟨w.heap.size,1,none⟩))∧(L 2=true→a.eval (.tmp 27)=.func (.func 57) #[] #[])∧(L 3=true→a.eval (.tmp 28)=.agg (C s)) ∧
   (L 2=true→L 1=true)∧(L 4=true→L 2=true∧L 3=true)∧(L 5=true→L 4=true∧L 0=true)∧(L 6=true→L 5=true)∧(L 4=false→W'=W.drew) ∧
   (L 4=true→L 5=false→Below W.heap.size W W'∧A8U W' r.1 (a.eval (.tmp 29))) ∧
   (L 5=true→(L 6=true→a.eval (.tmp 6)=a.eval (.tmp 30))∧W'.ownsRow w.heap.size 126 2 (a.eval (.tmp 30)) (out.length+r.1.length) (out.flatMap ctC++r.1.flatMap ctC)∧Below w.heap.size w W'∧W'.heap[D]?=some (.deferred (some [])))) ?_ ?_ ?_
  ·refine ⟨rfl,rfl,rfl,rfl,rfl,?_⟩
   simp
  ·intro L i o a W' ho hi hall ⟨j1,j2,j3,j7,j4,j25,j26,j27,j28,i2,i4,i5,i6,hw0,hw4,hw5⟩
   have hF:∀ f,Fence.wide.fn f:=fun _=>trivial
   match i,ho with
   | 0,ho =>
    cases ho
    have h5':L 5=false:=by cases h:L 5 with | false=>rfl | true=>have:=(i5 h).2; rw [hi] at this; cases this
    have h6':L 6=false:=by cases h:L 6 with | false=>rfl | true=>have:=i6 h; rw [h5'] at this; cases this
    refine Eng.opIn_val (w':=W') (v:=v) hF rfl rfl (fun c h=>by cases h) (hl0 W' ?_ _ j7 _ rfl) ?_
    ·cases h4':L 4 with
     | false=>rw [hw0 h4']; exact q7
     | true =>
      obtain ⟨hb,_⟩:=hw4 h4' h5'
      exact(hb.cell (p:=⟨w.heap.size+2,0,none⟩) h6.lt).trans c70
    ·refine ⟨j1,by rw [T5]; exact j2,?_⟩
     simp [Y7 (a:=a) (d:=25) (by omega),j3,j7,j4,h5',h6']
     exact ⟨j26,j27,j28,i2,i4,hw0,fun h=>hw4 h h5'⟩
   | 1,ho =>
    cases ho
    have g2:L 2=false:=by cases h:L 2 with | false=>rfl | true=>have:=i2 h; rw [hi] at this; cases this
    have g4:L 4=false:=by cases h:L 4 with | false=>rfl | true=>have:=(i4 h).1; rw [g2] at this; cases this
    have g5:L 5=false:=by cases h:L 5 with | false=>rfl | true=>have:=(i5 h).1; rw [g4] at this; cases this
    have g6:L 6=false:=by cases h:L 6 with | false=>rfl | true=>have:=i6 h; rw [g5] at this; cases this
    have hw:=hw0 g4
    subst hw
    refine Eng.opIn_val hF rfl rfl (fun c h=>by cases h) (hl1 _ j3 _ rfl) ?_
    refine ⟨j1,by rw [T5]; exact j2,?_⟩
    simp [Y7 (a:=a) (d:=26) (by omega),j3,j7,j4,g2,g4,g5,g6]
    exact ⟨j25,j28⟩
   | 2,ho =>
    cases ho
    have g4:L 4=false:=by cases h:L 4 with | false=>rfl | true=>have:=(i4 h).1; rw [hi] at this; cases this
    have g5:L 5=false:=by cases h:L 5 with | false=>rfl | true=>have:=(i5 h).1; rw [g4] at this; cases this
    have g6:L 6=false:=by cases h:L 6 with | false=>rfl | true=>have:=i6 h; rw [g5] at this; cases this
    have hw:=hw0 g4
    subst hw
    have l1:L 1=true:=hall ⟨1,.data⟩ (by simp) rfl
    refine Eng.opIn_val hF rfl rfl (fun c h=>by cases h) (hl2 _ (j26 l1) _ rfl) ?_
    refine ⟨j1,by rw [T5]; exact j2,?_⟩
    simp [Y7 (a:=a) (d:=27) (by omega),j3,j7,j4,l1,g4,g5,g6]
    exact ⟨j25,j26 l1,j28⟩
   | 3,ho =>
    cases ho
    have g4:L 4=false:=by cases h:L 4 with | false=>rfl | true=>have:=(i4 h).2; rw [hi] at this; cases this
    have g5:L 5=false:=by cases h:L 5 with | false=>rfl | true=>have:=(i5 h).1; rw [g4] at this; cases this
    have g6:L 6=false:=by cases h:L 6 with | false=>rfl | true=>have:=i6 h; rw [g5] at this; cases this
    have hw:=hw0 g4
    subst hw
    refine Eng.opIn_val hF rfl rfl (fun c h=>by cases h) (hl3 _ j4 _ rfl) ?_
    refine ⟨j1,by rw [T5]; exact j2,?_⟩
    simp [Y7 (a:=a) (d:=28) (by omega),j3,j7,j4,g4,g5,g6]
    exact ⟨j25,j26,j27,i2⟩
   | 4,ho =>
    cases ho
    have g5:L 5=false:=by cases h:L 5 with | false=>rfl | true=>have:=(i5 h).1; rw [hi] at this; cases this
    have g6:L 6=false:=by cases h:L 6 with | false=>rfl | true=>have:=i6 h; rw [g5] at this; cases this
    have l2:L 2=true:=hall ⟨2,.data⟩ (by simp) rfl
    have l3:L 3=true:=hall ⟨3,.data⟩ (by simp) rfl
    have hw:=hw0 hi
    subst hw
    have hent : (execOp a.eval { dst := some 29, op := Op.call { callee := Callee.value (Operand.tmp 27), args := #[Operand.tmp 28], argTypes := #[117] }, type := 40, pos := "segment.go:19", after := #[{ on := 2, ground := Ground.data }, { on := 3, ground := Ground.data }], guard := none }).run Tryz.prog W.drew = .ok (.enter 57 #[.agg (C s)]) W.drew := by
     have e1:=j27 l2
     have e2:=j28 l3
     simp [execOp,resolve,e1,e2,Deferred.ofValue,invoke,callFunc,Tryz.func57,Tryz.f57]
    refine Eng.opIn_enter hF rfl rfl rfl (fun c h=>by cases h) hent ((callsIn_wide.2 (hrest s r W.drew (hIok _ _ h2) hr hr1)).mono ?_)
    rintro e W1 ⟨u,rfl,hk,hu⟩
    refine ⟨u,rfl,j1,by rw [T5]; exact j2,?_⟩
    have hk':Below W.heap.size W W1:=⟨hk.os,hk.tape,hk.output,hk.size,hk.block⟩
    simp [Y7 (a:=a) (d:=29) (by omega),j3,j7,j4,l2,l3,g5,g6]
    exact ⟨j25,j26,j27 l2,j28 l3,i2 l2,hk',hu⟩
   | 5,ho =>
    cases ho
    have g6:L 6=false:=by cases h:L 6 with | false=>rfl | true=>have:=i6 h; rw [hi] at this; cases this
    have l4:L 4=true:=hall ⟨4,.data⟩ (by simp) rfl
    have l0:L 0=true:=hall ⟨0,.data⟩ (by simp) rfl
    obtain ⟨hk,hu⟩:=hw4 l4 hi
    have hownw:W'.ownsRow w.heap.size 126 2 v out.length (out.flatMap ctC):=by
     rcases h7 with ⟨e1,h7⟩
     refine ⟨e1,?_⟩
     rcases h7 with h7 | ⟨g,cap,cur,e2,e3,e4,e5⟩
     ·exact .inl h7
     ·exact .inr ⟨g,cap,cur,e2,e3,(hk.block g (Array.getElem?_eq_some_iff.1 e4).1).trans e4,e5⟩
    obtain ⟨v',w3,hrun,hown3,hgr⟩:=B1T (ty:=40) Tryz.underlying40 hi0 hz0 hz1 hz2 rfl (w:=W') hownw hu (by omega) (by have:=hk.size; have:=h8.size; omega)
    refine Eng.opIn_val (v:=v') (w':=w3) hF rfl rfl (fun c h=>by cases h) (by simp [execOp,resolve,invoke,builtin,j25 l0,hrun]) ?_
    refine ⟨j1,by rw [T5]; exact j2,?_⟩
    have hDK:w3.heap[D]?=some (.deferred (some [])):=by
     have e1:W'.heap[D]?=some (.deferred (some [])):=(hk.block D (Array.getElem?_eq_some_iff.1 hK).1).trans hK
     refine(hgr.block D (Array.getElem?_eq_some_iff.1 e1).1 fun e=>?_).trans e1
     obtain ⟨_,o',ho',hc'⟩:=A3U hownw D e.symm
     rw [e1] at ho'; cases ho'; cases hc'
    have hB3:Below w.heap.size w w3:=(h8.trans (hk.mono h8.size)).grown hgr (by have:=hk.size; have:=h8.size; omega) (fun k e=>(A3U hownw k e).1)
    simp [Y7 (a:=a) (d:=30) (by omega),j3,j7,j4,l0,l4,g6]
    exact ⟨j25 l0,j26,j27,j28,i2,i4 l4,hown3,hB3,hDK⟩
   | 6,ho =>
    cases ho
    have l5:L 5=true:=hall ⟨5,.data⟩ (by simp) rfl
    obtain ⟨_,k2,k3,k4⟩:=hw5 l5
    refine Eng.opIn_val (v:=a.eval (.tmp 30)) (w':=W') hF rfl rfl (fun c h=>by cases h) (by simp [execOp]) ?_
    refine ⟨j1,by rw [T5]; exact j2,?_⟩
    simp [Y7 (a:=a) (d:=6) (by omega),j3,j7,j4,l5]
    exact ⟨j25,j26,j27,j28,i2,i4,i5 l5,hw0,k2,k3,k4⟩
   | k+7,ho=>simp at ho
  ·intro L a W' hL ⟨j1,j2,_,_,_,_,_,_,_,_,_,_,_,_,_,hw5⟩
   have hL5:L 5=true:=hL 5 (by decide)
   have hL6:L 6=true:=hL 6 (by decide)
   obtain ⟨hv6,hown,hB',hD'⟩:=hw5 hL5
   have hv6:=hv6 hL6
   obtain ⟨tmps,defers⟩:=a
   simp only at j1
   subst j1
   refine(‹∀ (a:Act) (w:World),Code.ret.wpIn Fence.wide 5 Tryz.prog _ a w→_› _ _ ?_)
   gi_wp2
   refine ⟨by simp,.inl ⟨_,_,rfl,run_takeDeferred hD',?_⟩⟩
   have hv6':tmps.getD 6 undef=_:=hv6
   refine ⟨_,results_tmp rfl _ _ _,_,rfl,?_,?_⟩
   ·rw [hv6']; exact ownsRow_putObj hown _ hD' rfl
   ·exact hB'.trans (belowK_b (w:=w) (Nat.le_refl _) W' D _ _ (by omega) hD' rfl rfl)
 case stop =>
  rintro D c pre W _ _ h _
  exact h.elim
end Go.Proofs.YtppoifpabafdlaaGreat
namespace Go.Proofs.YtppoifpabafdlaaGreat
open Go.RowKit Go.Shelf Go.Eng
attribute [local go_sem] Oper.semAt_some
def A8m{S:Type}(C:S→Array Value)(ok:S→Prop)(step:S→Int→Option (S×List Ct×Unit)):Prop:=∀ s v r (W:World),ok s→step s v=some r→r.2.1.length≤1 →
 Calls Tryz.prog 424 #[.agg (C s),.int .i64 v] W fun e W'=>∃ u,e=.returned (.tuple #[.agg (C r.1),u])∧Below W.heap.size W W'∧A8U W' r.2.1 u
def A8n{S:Type}(C:S→Array Value)(ok:S→Prop)(rest:S→Option (List Ct×Unit)):Prop:=∀ s r (W:World),ok s→rest s=some r→r.1.length≤1 →
 Calls Tryz.prog 425 #[.agg (C s)] W fun e W'=>∃ u,e=.returned u∧Below W.heap.size W W'∧A8U W' r.1 u
def A1I:Array Value:=#[.func (.func 424) #[] #[],.func (.func 425) #[] #[]]
def C2N{S:Type}(C:S→Array Value)(step:S→Int→Option (S×List Ct×Unit))(Inv:Nat→S→Prop)(s0:S)(w:World)(pre:List X64)(W:World):Prop :=
 ∃ s out v,B0t step (pre.map (·.1)) s0 []=some (s,out)∧Inv pre.length s∧out.length≤pre.length∧A9 W w.heap.size 441 A1I∧A9 W (w.heap.size+1) 355 (C s)∧A9 W (w.heap.size+2) 40 #[v] ∧
  W.ownsRow w.heap.size 126 2 v out.length (out.flatMap ctC)∧Below w.heap.size w W
theorem B5B{S:Type}(C:S→Array Value)(step:S→Int→Option (S×List Ct×Unit))(Inv:Nat→S→Prop)(s0:S)(w:World):OwnFrom (w.heap.size+3) (C2N C step Inv s0 w):=by
 rintro pre X Y row ⟨s,out,v,h1,h2,h3,h4,h5,h6,h7,h8⟩ hg hr
 have keep:∀ b,b < w.heap.size+3→b < X.heap.size→Y.heap[b]?=X.heap[b]?:=fun b hb hx=>hg.block b hx (fun e=>by have:=(hr b e.symm).1; omega)
 refine ⟨s,out,v,h1,h2,h3,(keep _ (by omega) h4.lt).trans h4,(keep _ (by omega) h5.lt).trans h5,(keep _ (by omega) h6.lt).trans h6,h7.kept hg ?_,h8.grown hg h8.size (fun k e=>by have:=(hr k e).1; omega)⟩
 rcases h7.2 with ⟨rfl,_⟩ | ⟨g,cap,cur,rfl,_,hgb,_⟩
 ·exact .inl rfl
 ·refine .inr fun e'=>?_
  obtain ⟨_,o,ho,hc⟩:=hr g (by simpa [Value.ownBlock] using e'.symm)
  rw [hgb] at ho; cases ho; cases hc
set_option maxRecDepth 100000 in
set_option maxHeartbeats 2000000 in
theorem C5b{S:Type}(C:S→Array Value)(ok:S→Prop)(hCs:∀ s,(C s).size=9)(hC1:∀ s,(C s).all (·.oneCell')=true)(step:S→Int→Option (S×List Ct×Unit))(rest:S→Option (List Ct×Unit))(hstep:A8m C ok step)(hrest:A8n C ok rest)(s0:S)(bq:Nat)(w:World)(zs:List X64)(sv:Value)
  (hz:zs.length≤1073741824) (hB:bq < w.heap.size) (hc:w.cell? ⟨bq,0,none⟩=some sv) (hI:D09 (fun x:X64=>x.1) ⟨0,by decide,by decide⟩ w.heap.size w sv zs) (hok:C0p ok step zs.length s0)
  (s:S) (out:List Ct) (r:List Ct×Unit) (hd:B0t step (zs.map (·.1)) s0 []=some (s,out)) (hr:rest s=some r) (hr1:r.1.length≤1) :
  Calls Tryz.prog 426 #[.agg A1I,.agg (C s0),.func (.func 119) #[] #[.pointer (some ⟨bq,0,none⟩)]] w fun e W' =>
   ∃ v,e=.returned v∧W'.ownsRow w.heap.size 126 2 v (out.length+r.1.length) (out.flatMap ctC++r.1.flatMap ctC)∧Below w.heap.size w W':=by
 obtain ⟨Inv,hI0,hIok,hInv⟩:=hok
 obtain ⟨i0,hi0,hz0,hz1,hz2⟩:=info_parts C2K
 refine(callsIn_wide (n:=5)).1 ?_
 refine callsIn_of_wp_marks Tryz.func426 rfl trivial ?_ rfl
 simp only [Tryz.ntmps426,List.size_toArray,List.length_cons,List.length_nil,Nat.reduceAdd,Nat.reduceSub,Array.replicate_succ,Array.replicate_zero,List.push_toArray,List.append_toArray,List.nil_append,List.cons_append,A1I]
 gi_wp2
 have hB0:Below w.heap.size w (((w.alloc (.cells #[.func (.func 424) #[] #[],.func (.func 425) #[] #[]] 441)).alloc (.cells (C s0) 355)).alloc (.cells #[.slice none 0 0] 40)) :=
  (((Below.refl _ w).alloc (Nat.le_refl _) _).alloc (by simp) _).alloc (by simp; omega) _
 obtain ⟨W0,hW0⟩:∃ W0,(((w.alloc (.cells #[.func (.func 424) #[] #[],.func (.func 425) #[] #[]] 441)).alloc (.cells (C s0) 355)).alloc (.cells #[.slice none 0 0] 40))=W0:=⟨_,rfl⟩
 have hsz:W0.heap.size=w.heap.size+3:=by rw [← hW0]; simp
 rw [hW0] at hB0 ⊢
 refine wpIn_rangeFunc_ownG rfl (by decide) (gf:=119) (lb:=#[.pointer (some ⟨bq,0,none⟩)]) rfl trivial (enters_of Tryz.func119 (by kernel_rfl) rfl)
  (A6D (fun x:X64=>x.1) ⟨0,by decide,by decide⟩ Fence.wide 4 trivial rfl (by decide) bq w.heap.size sv zs (by omega) W0 (by omega) (by omega) ((hB0.cell (p:=⟨bq,0,none⟩) hB).trans hc) (hI.below hB0)) belowK_t (belowK_b (by omega)) (Below.refl _ _) (fun _=>rfl)
  (C2N C step Inv s0 w) (fun _ _ _=>False) (by rw [hsz]; exact B5B C step Inv s0 w) (fun _ _ _ _ _ hs _ _=>hs) ?start
  (fun x=>{ tmps:=#[.agg A1I,.agg (C s0),.func (.func 119) #[] #[.pointer (some ⟨bq,0,none⟩)],.pointer (some ⟨w.heap.size,0,none⟩),.pointer (some ⟨w.heap.size+1,0,none⟩),undef,.slice none 0 0,.pointer (some ⟨w.heap.size+2,0,none⟩),.int .i64 x.1,undef,undef,.func (.func 119) #[] #[.pointer (some ⟨bq,0,none⟩)],.int .i64 x.1,undef,undef,undef,undef,undef,undef,undef,undef,undef,undef,undef,undef,undef,undef,undef,undef,undef,undef],defers:=[] }) ?assign ?body ?done ?stop
 case start =>
  refine ⟨s0,[],.slice none 0 0,rfl,hI0,Nat.le_refl _,?_,?_,?_,World.ownsRow_nil _ _ _ _,hB0⟩
  ·rw [← hW0]; exact((A9.new w 441 _ rfl).alloc _).alloc _
  ·rw [← hW0]; exact(A9.new _ 355 _ (by simp)).alloc _
  ·rw [← hW0]; exact A9.new _ 40 _ (by simp)
 case assign =>
  intro l x W K hK
  gi_wp2
  exact hK
 case body =>
  rintro l pre x W ⟨s1,out1,v,h1,h2,h3,h4,h5,h6,h7,h8⟩ hlt
  obtain ⟨r1,hst,hInv',hle⟩:=hInv pre.length s1 x.1 hlt h2 x.2.1 x.2.2
  have c30:=h4.cell 0
  have c31:=h4.cell 1
  obtain ⟨y0,y1,y2,y3,y4,y5,y6,y7,y8,hy⟩:=E1L (hCs s1)
  have h5y:=h5
  rw [hy] at h5y
  have c40:=h5y.cell 0
  have c41:=h5y.cell 1
  have c42:=h5y.cell 2
  have c43:=h5y.cell 3
  have c44:=h5y.cell 4
  have c45:=h5y.cell 5
  have c46:=h5y.cell 6
  have c47:=h5y.cell 7
  have c48:=h5y.cell 8
  simp [A1I] at c30 c31 c40 c41 c42 c43 c44 c45 c46 c47 c48
  gi_wp2
  rw [← hy]
  refine ⟨trivial,?_⟩
  refine(CallsIn.inRound l (callsIn_wide.2 (hstep s1 x.1 r1 W (hIok _ _ h2) hst hle))).mono ?_
  rintro e W1 ⟨u,rfl,hk1,hu⟩
  have k3:=h4.below hk1 h4.lt
  have k4:=h5.below hk1 h5.lt
  have k7:=h6.below hk1 h6.lt
  have hlt3:=k3.lt
  have hlt4:=k4.lt
  have hlt7:=k7.lt
  have d7:=k7.cell 0
  simp at d7
  have hst0:(storeCells ⟨W1.heap.size,0,none⟩ (C r1.1).toList 0).run Tryz.prog (W1.alloc (.cells #[.int .i64 0,.int .i64 0,.int .i64 0,.int .i64 0,.bool false,.int .u64 0,.int .u64 0,.int .u64 0,.int .u64 0] 355))=.ok () (W1.alloc (.cells (C r1.1) 355)) :=
   run_storeCells_new W1 355 _ (C r1.1) (by rw [hCs]; kernel_rfl) (hCs _).symm (hC1 _)
  gi_wp2
  have hsz1:w.heap.size+3≤W1.heap.size:=by have:=k7.lt; omega
  have hown1:W1.ownsRow w.heap.size 126 2 v out1.length (out1.flatMap ctC):=by
   rcases h7 with ⟨e1,h7⟩
   refine ⟨e1,?_⟩
   rcases h7 with h7 | ⟨g,cap,cur,e2,e3,e4,e5⟩
   ·exact .inl h7
   ·exact .inr ⟨g,cap,cur,e2,e3,(hk1.block g (Array.getElem?_eq_some_iff.1 e4).1).trans e4,e5⟩
  obtain ⟨W2,hW2⟩:∃ W2,(W1.alloc (.cells (C r1.1) 355))=W2:=⟨_,rfl⟩
  have m9:A9 W2 W1.heap.size 355 (C r1.1):=by rw [← hW2]; exact A9.new _ _ _ rfl
  have m3:A9 W2 w.heap.size 441 A1I:=by rw [← hW2]; exact k3.alloc _
  have m4:A9 W2 (w.heap.size+1) 355 (C s1):=by rw [← hW2]; exact k4.alloc _
  have m7:A9 W2 (w.heap.size+2) 40 #[v]:=by rw [← hW2]; exact k7.alloc _
  have hown2:W2.ownsRow w.heap.size 126 2 v out1.length (out1.flatMap ctC):=by rw [← hW2]; exact hown1.alloc _
  have hu2:A8U W2 r1.2.1 u:=by
   rw [← hW2]
   rcases hu with h | ⟨c,b,off,cap,e1,e2,e3,e4⟩
   ·exact .inl h
   ·refine .inr ⟨c,b,off,cap,e1,e2,?_,?_⟩
    ·exact(Z9 e3)
    ·exact(Z9 e4)
  have hBW:Below w.heap.size W W2:=by rw [← hW2]; exact(hk1.mono h8.size).alloc (by omega) _
  have hKW:KeepsOthers W W2:=by
   rw [← hW2]
   exact KeepsOthers.trans ⟨hk1.size,fun k o hk _=>(hk1.block k (Array.getElem?_eq_some_iff.1 hk).1).trans hk⟩ (KeepsOthers.alloc _ _)
  rw [hW2]
  clear hW2
  obtain ⟨v',w3,hrun,hown3,hgr⟩:=B1T (ty:=40) Tryz.underlying40 hi0 hz0 hz1 hz2 rfl (w:=W2.drew) hown2 hu2 (by have:=hlt; omega) (by have:=hBW.size; have:=h8.size; show _≤W2.heap.size; omega)
  have d7:=m7.cell 0
  have n4:A9 w3 (w.heap.size+1) 355 (C s1):=A9.grown (W:=W2.drew) m4 hgr hown2 (by decide)
  have n7:A9 w3 (w.heap.size+2) 40 #[v]:=A9.grown (W:=W2.drew) m7 hgr hown2 (by decide)
  have n3:A9 w3 w.heap.size 441 A1I:=A9.grown (W:=W2.drew) m3 hgr hown2 (by decide)
  have e70:=n7.cell 0
  have f70:=n7.frozen 0
  simp at d7 e70
  have hmx:Tryz.prog.follows .mixedOrders=true:=by kernel_rfl
  have n9:A9 w3 W1.heap.size 355 (C r1.1):=A9.grown (W:=W2.drew) m9 hgr hown2 (by decide)
  have q7:W2.drew.cell? ⟨w.heap.size+2,0,none⟩=_:=d7
  have hld2:∀ ρ:Operand→Value,ρ (.tmp 9)=.pointer (some ⟨W1.heap.size,0,none⟩)→∀ o:Oper,o.op=.load 355 (.tmp 9)→(execOp ρ o).run Tryz.prog W2.drew=.ok (.value (.agg (C r1.1))) W2.drew:=fun ρ h1 o ho=>A4t (show A9 W2.drew W1.heap.size 355 (C r1.1) from m9) (hCs _) (Tryz.isAgg355 _) (Tryz.sizeOf355 _) h1 ho
  have hld3:∀ ρ:Operand→Value,ρ (.tmp 9)=.pointer (some ⟨W1.heap.size,0,none⟩)→∀ o:Oper,o.op=.load 355 (.tmp 9)→(execOp ρ o).run Tryz.prog w3=.ok (.value (.agg (C r1.1))) w3:=fun ρ h1 o ho=>A4t (show A9 w3 W1.heap.size 355 (C r1.1) from n9) (hCs _) (Tryz.isAgg355 _) (Tryz.sizeOf355 _) h1 ho
  have hld7:∀ ρ:Operand→Value,ρ (.tmp 7)=.pointer (some ⟨w.heap.size+2,0,none⟩)→∀ o:Oper,o.op=.load 40 (.tmp 7)→(execOp ρ o).run Tryz.prog W2.drew=.ok (.value v) W2.drew:=by
   intro ρ h1 o ho
   simp only [execOp,ho,h1]
   go_simp
  have happ:∀ ρ:Operand→Value,ρ (.tmp 22)=v→ρ (.tmp 23)=u→∀ o:Oper,o.op=.call { callee:=.builtin .append,args:=#[.tmp 22,.tmp 23],argTypes:=#[40,40] }→o.type=40→(execOp ρ o).run Tryz.prog W2.drew=.ok (.value v') w3:=by
   intro ρ h1 h2 o ho ht
   simp [execOp,ho,ht,resolve,invoke,builtin,h1,h2,hrun]
  obtain ⟨W4,hW4⟩:∃ W4,w3.setRow (w.heap.size+1) (C r1.1)=W4:=⟨_,rfl⟩
  have hst4:∀ ρ:Operand→Value,ρ (.tmp 4)=.pointer (some ⟨w.heap.size+1,0,none⟩)→ρ (.tmp 21)=.agg (C r1.1)→∀ o:Oper,o.op=.store 355 (.tmp 4) (.tmp 21) →
    (execOp ρ o).run Tryz.prog w3=.ok .skip W4:=by
   intro ρ h1 h2 o ho
   rw [← hW4]
   exact B3X n4 (hCs _) (hCs _) (hC1 _) (Tryz.sizeOf355 _) h1 h2 ho
  have p4:A9 W4 (w.heap.size+1) 355 (C r1.1):=by rw [← hW4]; exact n4.row
  have p7:A9 W4 (w.heap.size+2) 40 #[v]:=by rw [← hW4]; exact n7.rowOther (by omega)
  have p3:A9 W4 w.heap.size 441 A1I:=by rw [← hW4]; exact n3.rowOther (by omega)
  have g70:=p7.cell 0
  have g71:=p7.frozen 0
  simp at g70
  obtain ⟨W5,hW5⟩:∃ W5,W4.setCell ⟨w.heap.size+2,0,none⟩ v'=W5:=⟨_,rfl⟩
  have hcl':v'.cells=#[v']:=by rcases hown3.2 with ⟨rfl,_⟩ | ⟨_,_,_,rfl,_⟩ <;> rfl
  have hst7:∀ ρ:Operand→Value,ρ (.tmp 7)=.pointer (some ⟨w.heap.size+2,0,none⟩)→ρ (.tmp 24)=v'→∀ o:Oper,o.op=.store 40 (.tmp 7) (.tmp 24)→(execOp ρ o).run Tryz.prog W4=.ok .skip W5:=by
   intro ρ h1 h2 o ho
   simp only [execOp,ho,h1,h2]
   rw [← hW5]
   rcases hown3.2 with ⟨e1,_⟩ | ⟨_,_,_,e1,_⟩
   ·rw [e1]; go_simp
   ·rw [e1]; go_simp
  refine Eng.region_rule hmx (by kernel_rfl) (fun L a W'=>a.defers=[]∧a.tmps.size=31∧a.eval (.tmp 9)=.pointer (some ⟨W1.heap.size,0,none⟩)∧a.eval (.tmp 7)=.pointer (some ⟨w.heap.size+2,0,none⟩)∧a.eval (.tmp 4)=.pointer (some ⟨w.heap.size+1,0,none⟩)∧a.eval (.tmp 10)=u ∧
   (L 0=true→a.eval (.tmp 21)=.agg (C r1.1))∧(L 1=true→a.eval (.tmp 22)=v)∧(L 2=true→a.eval (.tmp 23)=u)∧(L 3=true→a.eval (.tmp 24)=v') ∧
   (L 3=true→L 1=true∧L 2=true)∧(L 4=true→L 0=true∧L 3=true)∧(L 5=true→L 4=true)∧W'=if L 5 then W5 else if L 4 then W4 else if L 3 then w3 else W2.drew) ?_ ?_ ?_
  ·refine ⟨rfl,rfl,rfl,rfl,rfl,rfl,?_⟩
   simp
  ·intro L i o a W' ho hi hall ⟨j1,j2,j9,j7,j4,j10,j21,j22,j23,j24,i3,i4,i5,hw⟩
   have hF:∀ f,(Fence.wide.inRound l).fn f:=fun _=>trivial
   match i,ho with
   | 0,ho =>
    cases ho
    have h4:L 4=false:=by cases h:L 4 with | false=>rfl | true=>have:=(i4 h).1; rw [hi] at this; cases this
    have h5:L 5=false:=by cases h:L 5 with | false=>rfl | true=>have:=i5 h; rw [h4] at this; cases this
    simp only [h4,h5] at hw
    refine Eng.opIn_val (w':=W') hF rfl rfl (fun c h=>by cases h) (v:=.agg (C r1.1)) ?_ ?_
    ·cases h3:L 3 with
     | true=>rw [h3] at hw; simp at hw; subst hw; exact hld3 _ j9 _ rfl
     | false=>rw [h3] at hw; simp at hw; subst hw; exact hld2 _ j9 _ rfl
    ·refine ⟨j1,by rw [T5]; exact j2,?_⟩
     simp [Y7 (a:=a) (d:=21) (by omega),j9,j7,j4,j10]
     refine ⟨j22,j23,j24,i3,fun h=>(i4 h).2,i5,?_⟩
     simpa [h4,h5] using hw
   | 1,ho =>
    cases ho
    have h3:L 3=false:=by cases h:L 3 with | false=>rfl | true=>have:=(i3 h).1; rw [hi] at this; cases this
    have h4:L 4=false:=by cases h:L 4 with | false=>rfl | true=>have:=(i4 h).2; rw [h3] at this; cases this
    have h5:L 5=false:=by cases h:L 5 with | false=>rfl | true=>have:=i5 h; rw [h4] at this; cases this
    simp [h3,h4,h5] at hw
    subst hw
    refine Eng.opIn_val hF rfl rfl (fun c h=>by cases h) (hld7 _ j7 _ rfl) ?_
    refine ⟨j1,by rw [T5]; exact j2,?_⟩
    simp [Y7 (a:=a) (d:=22) (by omega),j9,j7,j4,j10,h3,h4,h5]
    exact ⟨j21,j23⟩
   | 2,ho =>
    cases ho
    have h3:L 3=false:=by cases h:L 3 with | false=>rfl | true=>have:=(i3 h).2; rw [hi] at this; cases this
    have h4:L 4=false:=by cases h:L 4 with | false=>rfl | true=>have:=(i4 h).2; rw [h3] at this; cases this
    have h5:L 5=false:=by cases h:L 5 with | false=>rfl | true=>have:=i5 h; rw [h4] at this; cases this
    simp [h3,h4,h5] at hw
    subst hw
    refine Eng.opIn_val (v:=u) (w':=W2.drew) hF rfl rfl (fun c h=>by cases h) (by simp [execOp,j10]) ?_
    refine ⟨j1,by rw [T5]; exact j2,?_⟩
    simp [Y7 (a:=a) (d:=23) (by omega),j9,j7,j4,j10,h3,h4,h5]
    exact ⟨j21,j22⟩
   | 3,ho =>
    cases ho
    have h4:L 4=false:=by cases h:L 4 with | false=>rfl | true=>have:=(i4 h).2; rw [hi] at this; cases this
    have h5:L 5=false:=by cases h:L 5 with | false=>rfl | true=>have:=i5 h; rw [h4] at this; cases this
    have h1:L 1=true:=hall ⟨1,.data⟩ (by simp) rfl
    have h2:L 2=true:=hall ⟨2,.data⟩ (by simp) rfl
    simp [hi,h4,h5] at hw
    subst hw
    refine Eng.opIn_val hF rfl rfl (fun c h=>by cases h) (happ _ (j22 h1) (j23 h2) _ rfl rfl) ?_
    refine ⟨j1,by rw [T5]; exact j2,?_⟩
    simp [Y7 (a:=a) (d:=24) (by omega),j9,j7,j4,j10,h1,h2,h4,h5]
    exact ⟨j21,j22 h1,j23 h2⟩
   | 4,ho =>
    cases ho
    have h5:L 5=false:=by cases h:L 5 with | false=>rfl | true=>have:=i5 h; rw [hi] at this; cases this
    have h0:L 0=true:=hall ⟨0,.data⟩ (by simp) rfl
    have h3:L 3=true:=hall ⟨3,.chain⟩ (by simp) rfl
    simp [hi,h3,h5] at hw
    subst hw
    refine Eng.opIn_skip hF rfl rfl (fun c h=>by cases h) (hst4 _ j4 (j21 h0) _ rfl) ?_
    refine ⟨j1,by rw [T5]; exact j2,?_⟩
    simp [Act.put,h0,h3,h5,hi]
    exact ⟨j9,j7,j4,j10,j21 h0,j22,j23,j24 h3,i3 h3⟩
   | 5,ho =>
    cases ho
    have h3:L 3=true:=hall ⟨3,.data⟩ (by simp) rfl
    have h4:L 4=true:=hall ⟨4,.chain⟩ (by simp) rfl
    simp [hi,h3,h4] at hw
    subst hw
    refine Eng.opIn_skip hF rfl rfl (fun c h=>by cases h) (hst7 _ j7 (j24 h3) _ rfl) ?_
    refine ⟨j1,by rw [T5]; exact j2,?_⟩
    simp [Act.put,h3,h4]
    exact ⟨j9,j7,j4,j10,j21,j22,j23,j24 h3,i3 h3,(i4 h4).1⟩
   | k+6,ho=>simp at ho
  ·intro L a W' hL ⟨_,_,_,_,_,_,_,_,_,_,_,_,_,hw⟩
   have h5:L 5=true:=hL 5 (by decide)
   rw [h5] at hw
   simp only [if_true] at hw
   subst hw
   have hn2:w.heap.size≤W2.heap.size:=by have:=m3.lt; omega
   have hB5:Below w.heap.size W W':=by
    have hb3:Below w.heap.size W w3:=hBW.drew.grown hgr hn2 (fun k e=>(A3U hown2 k e).1)
    rw [← hW5,← hW4]
    exact(below_setRow hb3 (by omega) (C r1.1)).setCell (p:=⟨w.heap.size+2,0,none⟩) (by simp) _
   have hK5:KeepsOthers W W':=by
    have hk3:KeepsOthers W2.drew w3:=KeepsOthers.of_grownBy hgr fun j o ej hj=>by
     obtain ⟨_,o',ho',hc'⟩:=A3U hown2 j ej
     have:W2.heap[j]?=some o:=hj
     rw [this] at ho'; cases ho'; exact hc'
    rw [← hW5,← hW4]
    exact(hKW.trans ((KeepsOthers.drew W2).trans hk3)).trans ((A6E n4).trans (KeepsOthers.setCell _ _ _))
   refine ⟨hK5.from _,hB5,r1.1,out1++r1.2.1,v',?_,?_,?_,?_,?_,?_,?_,h8.trans hB5⟩
   ·rw [List.map_append,List.map_cons,List.map_nil,A7T,h1]
    simp [hst]
   ·simpa using hInv'
   ·simp; omega
   ·rw [← hW5]; exact p3.other (by omega) 0 _
   ·rw [← hW5]; exact p4.other (by omega) 0 _
   ·rw [← hW5]; exact p7.set 0 _
   ·rw [← hW5,List.length_append,List.flatMap_append]
    refine C2L ?_ p7 (by decide) 0 _
    rw [← hW4]
    exact A9S hown3 n4 (by decide)
 case done =>
  rintro D ys W hD rfl ⟨s1,out1,v,h1,h2,h3,h4,h5,h6,h7,h8⟩ hK
  rw [hd] at h1
  cases h1
  have c31:=h4.cell 1
  have c70:=h6.cell 0
  simp [A1I] at c31 c70
  have hmx:Tryz.prog.follows .mixedOrders=true:=by kernel_rfl
  gi_wp2
  have q7:W.drew.cell? ⟨w.heap.size+2,0,none⟩=_:=c70
  have q31:W.drew.cell? ⟨w.heap.size,1,none⟩=_:=c31
  have hl0:∀ (W':World),W'.cell? ⟨w.heap.size+2,0,none⟩=some v→∀ ρ:Operand→Value,ρ (.tmp 7)=.pointer (some ⟨w.heap.size+2,0,none⟩)→∀ o:Oper,o.op=.load 40 (.tmp 7)→(execOp ρ o).run Tryz.prog W'=.ok (.value v) W':=by
   intro W' hc ρ h1 o ho
   simp only [execOp,ho,h1]
   go_simp
  have hl1:∀ ρ:Operand→Value,ρ (.tmp 3)=.pointer (some ⟨w.heap.size,0,none⟩)→∀ o:Oper,o.op=.fieldAddr 441 (.tmp 3) 1→(execOp ρ o).run Tryz.prog W.drew=.ok (.value (.pointer (some ⟨w.heap.size,1,none⟩))) W.drew:=by
   intro ρ h1 o ho
   simp only [execOp,ho,h1]
   go_simp
  have hl2:∀ ρ:Operand→Value,ρ (.tmp 26)=.pointer (some ⟨w.heap.size,1,none⟩)→∀ o:Oper,o.op=.load 439 (.tmp 26)→(execOp ρ o).run Tryz.prog W.drew=.ok (.value (.func (.func 425) #[] #[])) W.drew:=by
   intro ρ h1 o ho
   simp only [execOp,ho,h1]
   go_simp
  have hl3:∀ ρ:Operand→Value,ρ (.tmp 4)=.pointer (some ⟨w.heap.size+1,0,none⟩)→∀ o:Oper,o.op=.load 355 (.tmp 4)→(execOp ρ o).run Tryz.prog W.drew=.ok (.value (.agg (C s))) W.drew:=fun ρ h1 o ho=>A4t (show A9 W.drew (w.heap.size+1) 355 (C s) from h5) (hCs _) (Tryz.isAgg355 _) (Tryz.sizeOf355 _) h1 ho
  refine Eng.region_rule hmx (by kernel_rfl) (fun L a W'=>a.defers=[{ target:=.collected D,args:=#[] }]∧a.tmps.size=31∧a.eval (.tmp 3)=.pointer (some ⟨w.heap.size,0,none⟩)∧a.eval (.tmp 7)=.pointer (some ⟨w.heap.size+2,0,none⟩)∧a.eval (.tmp 4)=.pointer (some ⟨w.heap.size+1,0,none⟩) ∧
   (L 0=true→a.eval (.tmp 25)=v)∧(L 1=true→a.eval (.tmp 26)=.pointer (some ⟨w.heap.size,1,none⟩))∧(L 2=true→a.eval (.tmp 27)=.func (.func 425) #[] #[])∧(L 3=true→a.eval (.tmp 28)=.agg (C s)) ∧
   (L 2=true→L 1=true)∧(L 4=true→L 2=true∧L 3=true)∧(L 5=true→L 4=true∧L 0=true)∧(L 6=true→L 5=true)∧(L 4=false→W'=W.drew) ∧
   (L 4=true→L 5=false→Below W.heap.size W W'∧A8U W' r.1 (a.eval (.tmp 29))) ∧
   (L 5=true→(L 6=true→a.eval (.tmp 6)=a.eval (.tmp 30))∧W'.ownsRow w.heap.size 126 2 (a.eval (.tmp 30)) (out.length+r.1.length) (out.flatMap ctC++r.1.flatMap ctC)∧Below w.heap.size w W'∧W'.heap[D]?=some (.deferred (some [])))) ?_ ?_ ?_
  ·refine ⟨rfl,rfl,rfl,rfl,rfl,?_⟩
   simp
  ·intro L i o a W' ho hi hall ⟨j1,j2,j3,j7,j4,j25,j26,j27,j28,i2,i4,i5,i6,hw0,hw4,hw5⟩
   have hF:∀ f,Fence.wide.fn f:=fun _=>trivial
   match i,ho with
   | 0,ho =>
    cases ho
    have h5':L 5=false:=by cases h:L 5 with | false=>rfl | true=>have:=(i5 h).2; rw [hi] at this; cases this
    have h6':L 6=false:=by cases h:L 6 with | false=>rfl | true=>have:=i6 h; rw [h5'] at this; cases this
    refine Eng.opIn_val (w':=W') (v:=v) hF rfl rfl (fun c h=>by cases h) (hl0 W' ?_ _ j7 _ rfl) ?_
    ·cases h4':L 4 with
     | false=>rw [hw0 h4']; exact q7
     | true =>
      obtain ⟨hb,_⟩:=hw4 h4' h5'
      exact(hb.cell (p:=⟨w.heap.size+2,0,none⟩) h6.lt).trans c70
    ·refine ⟨j1,by rw [T5]; exact j2,?_⟩
     simp [Y7 (a:=a) (d:=25) (by omega),j3,j7,j4,h5',h6']
     exact ⟨j26,j27,j28,i2,i4,hw0,fun h=>hw4 h h5'⟩
   | 1,ho =>
    cases ho
    have g2:L 2=false:=by cases h:L 2 with | false=>rfl | true=>have:=i2 h; rw [hi] at this; cases this
    have g4:L 4=false:=by cases h:L 4 with | false=>rfl | true=>have:=(i4 h).1; rw [g2] at this; cases this
    have g5:L 5=false:=by cases h:L 5 with | false=>rfl | true=>have:=(i5 h).1; rw [g4] at this; cases this
    have g6:L 6=false:=by cases h:L 6 with | false=>rfl | true=>have:=i6 h; rw [g5] at this; cases this
    have hw:=hw0 g4
    subst hw
    refine Eng.opIn_val hF rfl rfl (fun c h=>by cases h) (hl1 _ j3 _ rfl) ?_
    refine ⟨j1,by rw [T5]; exact j2,?_⟩
    simp [Y7 (a:=a) (d:=26) (by omega),j3,j7,j4,g2,g4,g5,g6]
    exact ⟨j25,j28⟩
   | 2,ho =>
    cases ho
    have g4:L 4=false:=by cases h:L 4 with | false=>rfl | true=>have:=(i4 h).1; rw [hi] at this; cases this
    have g5:L 5=false:=by cases h:L 5 with | false=>rfl | true=>have:=(i5 h).1; rw [g4] at this; cases this
    have g6:L 6=false:=by cases h:L 6 with | false=>rfl | true=>have:=i6 h; rw [g5] at this; cases this
    have hw:=hw0 g4
    subst hw
    have l1:L 1=true:=hall ⟨1,.data⟩ (by simp) rfl
    refine Eng.opIn_val hF rfl rfl (fun c h=>by cases h) (hl2 _ (j26 l1) _ rfl) ?_
    refine ⟨j1,by rw [T5]; exact j2,?_⟩
    simp [Y7 (a:=a) (d:=27) (by omega),j3,j7,j4,l1,g4,g5,g6]
    exact ⟨j25,j26 l1,j28⟩
   | 3,ho =>
    cases ho
    have g4:L 4=false:=by cases h:L 4 with | false=>rfl | true=>have:=(i4 h).2; rw [hi] at this; cases this
    have g5:L 5=false:=by cases h:L 5 with | false=>rfl | true=>have:=(i5 h).1; rw [g4] at this; cases this
    have g6:L 6=false:=by cases h:L 6 with | false=>rfl | true=>have:=i6 h; rw [g5] at this; cases this
    have hw:=hw0 g4
    subst hw
    refine Eng.opIn_val hF rfl rfl (fun c h=>by cases h) (hl3 _ j4 _ rfl) ?_
    refine ⟨j1,by rw [T5]; exact j2,?_⟩
    simp [Y7 (a:=a) (d:=28) (by omega),j3,j7,j4,g4,g5,g6]
    exact ⟨j25,j26,j27,i2⟩
   | 4,ho =>
    cases ho
    have g5:L 5=false:=by cases h:L 5 with | false=>rfl | true=>have:=(i5 h).1; rw [hi] at this; cases this
    have g6:L 6=false:=by cases h:L 6 with | false=>rfl | true=>have:=i6 h; rw [g5] at this; cases this
    have l2:L 2=true:=hall ⟨2,.data⟩ (by simp) rfl
    have l3:L 3=true:=hall ⟨3,.data⟩ (by simp) rfl
    have hw:=hw0 hi
    subst hw
    have hent : (execOp a.eval { dst := some 29, op := Op.call { callee := Callee.value (Operand.tmp 27), args := #[Operand.tmp 28], argTypes := #[355] }, type := 40, pos := "segment.go:19", after := #[{ on := 2, ground := Ground.data }, { on := 3, ground := Ground.data }], guard := none }).run Tryz.prog W.drew = .ok (.enter 425 #[.agg (C s)]) W.drew := by
     have e1:=j27 l2
     have e2:=j28 l3
     simp [execOp,resolve,e1,e2,Deferred.ofValue,invoke,callFunc,Tryz.func425,Tryz.f425]
    refine Eng.opIn_enter hF rfl rfl rfl (fun c h=>by cases h) hent ((callsIn_wide.2 (hrest s r W.drew (hIok _ _ h2) hr hr1)).mono ?_)
    rintro e W1 ⟨u,rfl,hk,hu⟩
    refine ⟨u,rfl,j1,by rw [T5]; exact j2,?_⟩
    have hk':Below W.heap.size W W1:=⟨hk.os,hk.tape,hk.output,hk.size,hk.block⟩
    simp [Y7 (a:=a) (d:=29) (by omega),j3,j7,j4,l2,l3,g5,g6]
    exact ⟨j25,j26,j27 l2,j28 l3,i2 l2,hk',hu⟩
   | 5,ho =>
    cases ho
    have g6:L 6=false:=by cases h:L 6 with | false=>rfl | true=>have:=i6 h; rw [hi] at this; cases this
    have l4:L 4=true:=hall ⟨4,.data⟩ (by simp) rfl
    have l0:L 0=true:=hall ⟨0,.data⟩ (by simp) rfl
    obtain ⟨hk,hu⟩:=hw4 l4 hi
    have hownw:W'.ownsRow w.heap.size 126 2 v out.length (out.flatMap ctC):=by
     rcases h7 with ⟨e1,h7⟩
     refine ⟨e1,?_⟩
     rcases h7 with h7 | ⟨g,cap,cur,e2,e3,e4,e5⟩
     ·exact .inl h7
     ·exact .inr ⟨g,cap,cur,e2,e3,(hk.block g (Array.getElem?_eq_some_iff.1 e4).1).trans e4,e5⟩
    obtain ⟨v',w3,hrun,hown3,hgr⟩:=B1T (ty:=40) Tryz.underlying40 hi0 hz0 hz1 hz2 rfl (w:=W') hownw hu (by omega) (by have:=hk.size; have:=h8.size; omega)
    refine Eng.opIn_val (v:=v') (w':=w3) hF rfl rfl (fun c h=>by cases h) (by simp [execOp,resolve,invoke,builtin,j25 l0,hrun]) ?_
    refine ⟨j1,by rw [T5]; exact j2,?_⟩
    have hDK:w3.heap[D]?=some (.deferred (some [])):=by
     have e1:W'.heap[D]?=some (.deferred (some [])):=(hk.block D (Array.getElem?_eq_some_iff.1 hK).1).trans hK
     refine(hgr.block D (Array.getElem?_eq_some_iff.1 e1).1 fun e=>?_).trans e1
     obtain ⟨_,o',ho',hc'⟩:=A3U hownw D e.symm
     rw [e1] at ho'; cases ho'; cases hc'
    have hB3:Below w.heap.size w w3:=(h8.trans (hk.mono h8.size)).grown hgr (by have:=hk.size; have:=h8.size; omega) (fun k e=>(A3U hownw k e).1)
    simp [Y7 (a:=a) (d:=30) (by omega),j3,j7,j4,l0,l4,g6]
    exact ⟨j25 l0,j26,j27,j28,i2,i4 l4,hown3,hB3,hDK⟩
   | 6,ho =>
    cases ho
    have l5:L 5=true:=hall ⟨5,.data⟩ (by simp) rfl
    obtain ⟨_,k2,k3,k4⟩:=hw5 l5
    refine Eng.opIn_val (v:=a.eval (.tmp 30)) (w':=W') hF rfl rfl (fun c h=>by cases h) (by simp [execOp]) ?_
    refine ⟨j1,by rw [T5]; exact j2,?_⟩
    simp [Y7 (a:=a) (d:=6) (by omega),j3,j7,j4,l5]
    exact ⟨j25,j26,j27,j28,i2,i4,i5 l5,hw0,k2,k3,k4⟩
   | k+7,ho=>simp at ho
  ·intro L a W' hL ⟨j1,j2,_,_,_,_,_,_,_,_,_,_,_,_,_,hw5⟩
   have hL5:L 5=true:=hL 5 (by decide)
   have hL6:L 6=true:=hL 6 (by decide)
   obtain ⟨hv6,hown,hB',hD'⟩:=hw5 hL5
   have hv6:=hv6 hL6
   obtain ⟨tmps,defers⟩:=a
   simp only at j1
   subst j1
   refine(‹∀ (a:Act) (w:World),Code.ret.wpIn Fence.wide 5 Tryz.prog _ a w→_› _ _ ?_)
   gi_wp2
   refine ⟨by simp,.inl ⟨_,_,rfl,run_takeDeferred hD',?_⟩⟩
   have hv6':tmps.getD 6 undef=_:=hv6
   refine ⟨_,results_tmp rfl _ _ _,_,rfl,?_,?_⟩
   ·rw [hv6']; exact ownsRow_putObj hown _ hD' rfl
   ·exact hB'.trans (belowK_b (w:=w) (Nat.le_refl _) W' D _ _ (by omega) hD' rfl rfl)
 case stop =>
  rintro D c pre W _ _ h _
  exact h.elim
end Go.Proofs.YtppoifpabafdlaaGreat
namespace Go.Proofs.YtppoifpabafdlaaGreat
open Go.RowKit Go.Shelf Go.Eng
attribute [local go_sem] Oper.semAt_some
def A0O(v:Int)(n k:Nat):Array Value:=(List.replicate k (Value.int .i64 v)++List.replicate (n - k) (Value.int .i64 0)).toArray
theorem A8o{v:Int}{n k:Nat}(h:k≤n):(A0O v n k).size=n:=by simp [A0O]; omega
theorem D87:(Tryz.prog.info? 2).map (fun i=>(i.zero,i.size,i.bytes))=some (some (.int .i64 0),1,8):=by kernel_rfl
set_option maxRecDepth 100000 in
set_option maxHeartbeats 2000000 in
theorem B3Y(hmul:∀ (n:Nat) (W:World),n≤65536→Calls Tryz.prog 418 #[.int .u64 1,.int .u64 (n:Int)] W fun e W'=>e=.returned (.tuple #[.int .u64 0,.int .u64 (n:Int)])∧Below W.heap.size W W')
  (b off cap n:Nat) (v:Int) (w:World) (hb:b < w.heap.size) (hc:w.cell? ⟨b,off,none⟩=some (.int .i64 v)) (hn:n≤65536) :
  Calls Tryz.prog 417 #[.slice (some ⟨b,off,none⟩) 1 cap,.int .i64 (n:Int)] w fun e w'=>∃ g,e=.returned (.slice (some ⟨g,0,none⟩) n n)∧w.heap.size≤g∧Below w.heap.size w w'∧w'.heap[g]?=some (.cells (Array.replicate n (.int .i64 v)) 2 (0,0)):=by
 refine(callsIn_wide (n:=5)).1 ?_
 refine callsIn_of_wp Tryz.func417 rfl trivial ?_ rfl
 simp only [Tryz.ntmps417,List.size_toArray,List.length_cons,List.length_nil,Nat.reduceAdd,Nat.reduceSub,Array.replicate_succ,Array.replicate_zero,List.push_toArray,List.append_toArray,List.nil_append,List.cons_append]
 have h0:¬ ((n:Int) < 0):=by omega
 have hw:((n:Int) % 18446744073709551616)=n:=by omega
 gi_wp2
 refine ⟨trivial,?_⟩
 refine(callsIn_wide.2 (hmul n w hn)).mono ?_
 rintro e W1 ⟨rfl,hk⟩
 have h1:¬ ((n:Int) > 9223372036854775807):=by omega
 obtain ⟨g,hg⟩:∃ g,W1.heap.size=g:=⟨_,rfl⟩
 have hmk:(Instr.makeSlice 43 (.int .i64 (n:Int)) (.int .i64 (n:Int))).run Tryz.prog W1=.ok (.slice (some ⟨g,0,none⟩) n n) (W1.alloc (.cells (A0O v n 0) 2)):=by
  obtain ⟨i0,hi0,hz0,hz1,hz2⟩:=info_parts D87
  have:=run_makeSlice (P:=Tryz.prog) W1 43 2 i0 (.int .i64 0) Tryz.underlying43 hi0 hz0 .i64 .i64 (n:Int) (n:Int) (by omega) (by omega) (by rw [hz1]; simp; omega) (by rw [hz2]; omega) (by omega)
  rw [hg] at this
  have e:madeCells #[.int .i64 0] n=A0O v n 0:=by
   apply Array.toList_inj.1
   rw [toList_madeCells_one]
   simp [A0O]
  simpa [hz1,Value.cells,e] using this
 have hgb:b < g:=by have:=hk.size; omega
 obtain ⟨W2,hW2⟩:∃ W2,W1.alloc (.cells (A0O v n 0) 2)=W2:=⟨_,rfl⟩
 have k2:A9 W2 g 2 (A0O v n 0):=by rw [← hW2]; exact A9.new _ _ _ hg.symm
 have hc2:W2.cell? ⟨b,off,none⟩=some (.int .i64 v):=by
  rw [← hW2]; exact Z9 ((hk.cell (p:=⟨b,off,none⟩) hb).trans hc)
 have hB2:Below w.heap.size w W2:=by rw [← hW2]; exact hk.alloc hk.size _
 obtain ⟨m0,hm0⟩:∃ m0,Nat.min 1 n=m0:=⟨_,rfl⟩
 obtain ⟨W3,hW3⟩:∃ W3,W2.setRow g (A0O v n m0)=W3:=⟨_,rfl⟩
 have hcp:(Builtin.copy_ #[43,43] 3 #[.slice (some ⟨g,0,none⟩) n n,.slice (some ⟨b,off,none⟩) 1 cap]).run Tryz.prog W2=.ok (.int .i64 (m0:Int)) W3:=by
  have:=run_copy_row (P:=Tryz.prog) W2 43 43 3 2 g 0 n n ⟨b,off,none⟩ 1 cap (A0O v n 0) 2 (List.replicate m0 (.int .i64 v)) Tryz.underlying43 (by kernel_rfl) k2 (by simp [← hm0]) (fun j u hj=>by
   have hj':=List.getElem?_eq_some_iff.1 hj
   obtain ⟨h1,h2⟩:=hj'
   simp at h1 h2
   have hm1:m0≤1:=by rw [← hm0]; exact Nat.min_le_left _ _
   have:j=0:=by omega
   subst this
   subst h2
   exact hc2) (by rw [A8o (Nat.zero_le _)]; simp [← hm0]; exact Nat.min_le_right _ _) (by intro u hu; rw [List.eq_of_mem_replicate hu]; rfl)
  rw [this,← hW3]
  congr 1
  ·simp [goInt]
  ·congr 1
   apply Array.toList_inj.1
   have hle:m0≤n:=by rw [← hm0]; exact Nat.min_le_right _ _
   simp [A0O,List.drop_replicate]
 have k3:A9 W3 g 2 (A0O v n m0):=by rw [← hW3]; exact k2.row
 have hB3:Below w.heap.size w W3:=by rw [← hW3]; exact below_setRow hB2 (by have:=hk.size; omega) _
 gi_wp2
 gi_loopw [8] (fun i wr=>∃ k:Nat,k≤n∧(0 < n→0 < k)∧i=.int .i64 (k:Int)∧A9 wr g 2 (A0O v n k)∧Below w.heap.size w wr)
  (fun i _=>n - (intOf i).toNat)
 case atStart =>
  refine ⟨m0,?_,?_,rfl,k3,hB3⟩
  ·rw [← hm0]; exact Nat.min_le_right _ _
  ·intro h; rw [← hm0]; exact Nat.lt_min.2 ⟨by omega,h⟩
 case round =>
  obtain ⟨k,hkn,hk0,rfl,hcr,hBr⟩:=hrel
  by_cases hlt:k < n
  ·obtain ⟨m,hm⟩:∃ m,Nat.min k (n - k)=m:=⟨_,rfl⟩
   have hmk1:m≤k:=by rw [← hm]; exact Nat.min_le_left _ _
   have hmk2:m≤n - k:=by rw [← hm]; exact Nat.min_le_right _ _
   have hm1:0 < m:=by rw [← hm]; exact Nat.lt_min.2 ⟨hk0 (by omega),by omega⟩
   obtain ⟨W5,hW5⟩:∃ W5,wr.drew.setRow g (A0O v n (k+m))=W5:=⟨_,rfl⟩
   have hcr':A9 wr.drew g 2 (A0O v n k):=hcr
   have hcp2:(Builtin.copy_ #[43,43] 3 #[.slice (some ⟨g,k,none⟩) (n - k) (n - k),.slice (some ⟨g,0,none⟩) k n]).run Tryz.prog wr.drew=.ok (.int .i64 (m:Int)) W5:=by
    have:=run_copy_row (P:=Tryz.prog) wr.drew 43 43 3 2 g k (n - k) (n - k) ⟨g,0,none⟩ k n (A0O v n k) 2 (List.replicate m (.int .i64 v)) Tryz.underlying43 (by kernel_rfl) hcr' (by simp [← hm]) (fun j u hj=>by
     obtain ⟨h1,h2⟩:=List.getElem?_eq_some_iff.1 hj
     simp at h1 h2
     subst h2
     have hadd:(⟨g,0,none⟩:Addr).add j=⟨g,j,none⟩:=by unfold Addr.add; split <;> simp_all
     rw [hadd,hcr'.cell]
     simp [A0O,List.getElem?_append,show j < k by omega]) (by rw [A8o hkn]; simp; omega) (by intro u hu; rw [List.eq_of_mem_replicate hu]; rfl)
    rw [this,← hW5]
    congr 1
    ·simp [goInt]
    ·congr 1
     apply Array.toList_inj.1
     simp only [A0O,List.toList_toArray,List.length_replicate]
     rw [List.take_left' (by simp),← List.replicate_append_replicate,List.append_assoc,List.append_assoc]
     congr 2
     rw [List.drop_append,List.drop_eq_nil_of_le (by simp),List.nil_append,List.drop_replicate]
     congr 1
     simp
     omega
   have hs41:∀ (W:World) (ρ:Operand→Value),ρ (.tmp 39)=.slice (some ⟨g,0,none⟩) n n→ρ (.tmp 40)=.int .i64 (k:Int)→∀ o:Oper,o.op=.slice 43 (.tmp 39) (some (.tmp 40)) none none→(execOp ρ o).run Tryz.prog W=.ok (.value (.slice (some ⟨g,k,none⟩) (n - k) (n - k))) W:=by
    intro W ρ h1 h2 o ho
    simp only [execOp,ho,h1,h2]
    go_simp
    omega
   have hs44:∀ (W:World) (ρ:Operand→Value),ρ (.tmp 42)=.slice (some ⟨g,0,none⟩) n n→ρ (.tmp 43)=.int .i64 (k:Int)→∀ o:Oper,o.op=.slice 43 (.tmp 42) none (some (.tmp 43)) none→(execOp ρ o).run Tryz.prog W=.ok (.value (.slice (some ⟨g,0,none⟩) k n)) W:=by
    intro W ρ h1 h2 o ho
    simp only [execOp,ho,h1,h2]
    go_simp
   have hs46:∀ (W:World) (ρ:Operand→Value),ρ (.tmp 38)=.int .i64 (k:Int)→ρ (.tmp 45)=.int .i64 (m:Int)→∀ o:Oper,o.op=.binOp .add 3 (.tmp 38) (.tmp 45) 3→(execOp ρ o).run Tryz.prog W=.ok (.value (.int .i64 ((k:Int)+(m:Int)))) W:=by
    intro W ρ h1 h2 o ho
    simp only [execOp,ho,h1,h2]
    go_simp
    exact Q6 (by omega)
   gi_wp2
   have hmx:Tryz.prog.follows .mixedOrders=true:=by kernel_rfl
   refine Eng.region_rule hmx (by kernel_rfl) (fun L a W'=>∃ u8 u38 u39 u40 u41 u42 u43 u44 u45 u46,a={ tmps:=List.toArray ((.slice (some ⟨b,off,none⟩) 1 cap:Value)::.int .i64 (n:Int)::undef::undef::.slice none 0 0::.int .u64 0::.int .u64 (n:Int)::.slice (some ⟨g,0,none⟩) n n::u8::.int .i64 (n:Int)::.bool false::undef::.tuple #[.int .u64 0,.int .u64 (n:Int)]::.slice (some ⟨b,off,none⟩) 1 cap::.int .i64 1::.int .u64 1::.int .i64 (n:Int)::.int .u64 (n:Int)::.tuple #[.int .u64 0,.int .u64 (n:Int)]::.int .u64 0::.int .u64 (n:Int)::.int .u64 0::.bool false::.bool false::.int .u64 (n:Int)::.bool (decide ((9223372036854775807:Int) < (n:Int)))::.bool (decide ((9223372036854775807:Int) < (n:Int)))::undef::.int .u64 (n:Int)::.int .i64 (n:Int)::.slice (some ⟨g,0,none⟩) n n::.slice (some ⟨g,0,none⟩) n n::.slice (some ⟨b,off,none⟩) 1 cap::.int .i64 (m0:Int)::.int .i64 (k:Int)::.slice (some ⟨g,0,none⟩) n n::.int .i64 (n:Int)::.bool true::u38::u39::u40::u41::u42::u43::u44::u45::u46::undef::[]),defers:=[] }∧(L 9=false→u8=.int .i64 (k:Int))∧(L 9=true→u8=.int .i64 ((k:Int)+(m:Int)))∧(L 0=true→u38=.int .i64 (k:Int))∧(L 1=true→u39=.slice (some ⟨g,0,none⟩) n n)∧(L 2=true→u40=.int .i64 (k:Int))∧(L 3=true→u41=.slice (some ⟨g,k,none⟩) (n - k) (n - k))∧(L 4=true→u42=.slice (some ⟨g,0,none⟩) n n)∧(L 5=true→u43=.int .i64 (k:Int))∧(L 6=true→u44=.slice (some ⟨g,0,none⟩) k n)∧(L 7=true→u45=.int .i64 (m:Int))∧(L 8=true→u46=.int .i64 ((k:Int)+(m:Int)))∧(L 3=true→L 1=true∧L 2=true)∧(L 6=true→L 4=true∧L 5=true)∧(L 7=true→L 3=true∧L 6=true)∧(L 8=true→L 0=true∧L 7=true)∧(L 9=true→L 8=true)∧W'=if L 7 then W5 else wr.drew) ?_ ?_ ?_
   ·exact ⟨_,_,_,_,_,_,_,_,_,_,rfl,by simp⟩
   ·rintro L i o a W' ho hi hall ⟨u8,u38,u39,u40,u41,u42,u43,u44,u45,u46,rfl,j8,j8b,j38,j39,j40,j41,j42,j43,j44,j45,j46,i3,i6,i7,i8,i9,hw⟩
    have hF:∀ f,Fence.wide.fn f:=fun _=>trivial
    match i,ho with
    | 0,ho =>
     cases ho
     have g8:L 8=false:=by cases h:L 8 with | false=>rfl | true=>have:=(i8 h).1; rw [hi] at this; cases this
     have g9:L 9=false:=by cases h:L 9 with | false=>rfl | true=>have:=i9 h; rw [g8] at this; cases this
     have e8:=j8 g9
     subst e8
     refine Eng.opIn_val (v:=.int .i64 (k:Int)) (w':=W') hF rfl rfl (fun c h=>by cases h) rfl ?_
     refine ⟨.int .i64 (k:Int),.int .i64 (k:Int),u39,u40,u41,u42,u43,u44,u45,u46,rfl,?_⟩
     simp [g8,g9]
     grind
    | 1,ho =>
     cases ho
     have g3:L 3=false:=by cases h:L 3 with | false=>rfl | true=>have:=(i3 h).1; rw [hi] at this; cases this
     have g7:L 7=false:=by cases h:L 7 with | false=>rfl | true=>have:=(i7 h).1; rw [g3] at this; cases this
     have g8:L 8=false:=by cases h:L 8 with | false=>rfl | true=>have:=(i8 h).2; rw [g7] at this; cases this
     have g9:L 9=false:=by cases h:L 9 with | false=>rfl | true=>have:=i9 h; rw [g8] at this; cases this
     refine Eng.opIn_val (v:=.slice (some ⟨g,0,none⟩) n n) (w':=W') hF rfl rfl (fun c h=>by cases h) rfl ?_
     refine ⟨u8,u38,.slice (some ⟨g,0,none⟩) n n,u40,u41,u42,u43,u44,u45,u46,rfl,?_⟩
     simp [g3,g7,g8,g9]
     grind
    | 2,ho =>
     cases ho
     have g3:L 3=false:=by cases h:L 3 with | false=>rfl | true=>have:=(i3 h).2; rw [hi] at this; cases this
     have g7:L 7=false:=by cases h:L 7 with | false=>rfl | true=>have:=(i7 h).1; rw [g3] at this; cases this
     have g8:L 8=false:=by cases h:L 8 with | false=>rfl | true=>have:=(i8 h).2; rw [g7] at this; cases this
     have g9:L 9=false:=by cases h:L 9 with | false=>rfl | true=>have:=i9 h; rw [g8] at this; cases this
     have e8:=j8 g9
     subst e8
     refine Eng.opIn_val (v:=.int .i64 (k:Int)) (w':=W') hF rfl rfl (fun c h=>by cases h) rfl ?_
     refine ⟨.int .i64 (k:Int),u38,u39,.int .i64 (k:Int),u41,u42,u43,u44,u45,u46,rfl,?_⟩
     simp [g3,g7,g8,g9]
     grind
    | 3,ho =>
     cases ho
     have g7:L 7=false:=by cases h:L 7 with | false=>rfl | true=>have:=(i7 h).1; rw [hi] at this; cases this
     have g8:L 8=false:=by cases h:L 8 with | false=>rfl | true=>have:=(i8 h).2; rw [g7] at this; cases this
     have g9:L 9=false:=by cases h:L 9 with | false=>rfl | true=>have:=i9 h; rw [g8] at this; cases this
     have l1:L 1=true:=hall ⟨1,.data⟩ (by simp) rfl
     have l2:L 2=true:=hall ⟨2,.data⟩ (by simp) rfl
     have e39:=j39 l1
     subst e39
     have e40:=j40 l2
     subst e40
     refine Eng.opIn_val (v:=.slice (some ⟨g,k,none⟩) (n - k) (n - k)) (w':=W') hF rfl rfl (fun c h=>by cases h) (hs41 W' _ rfl rfl _ rfl) ?_
     refine ⟨u8,u38,.slice (some ⟨g,0,none⟩) n n,.int .i64 (k:Int),.slice (some ⟨g,k,none⟩) (n - k) (n - k),u42,u43,u44,u45,u46,rfl,?_⟩
     simp [g7,g8,g9,l1,l2]
     grind
    | 4,ho =>
     cases ho
     have g6:L 6=false:=by cases h:L 6 with | false=>rfl | true=>have:=(i6 h).1; rw [hi] at this; cases this
     have g7:L 7=false:=by cases h:L 7 with | false=>rfl | true=>have:=(i7 h).2; rw [g6] at this; cases this
     have g8:L 8=false:=by cases h:L 8 with | false=>rfl | true=>have:=(i8 h).2; rw [g7] at this; cases this
     have g9:L 9=false:=by cases h:L 9 with | false=>rfl | true=>have:=i9 h; rw [g8] at this; cases this
     refine Eng.opIn_val (v:=.slice (some ⟨g,0,none⟩) n n) (w':=W') hF rfl rfl (fun c h=>by cases h) rfl ?_
     refine ⟨u8,u38,u39,u40,u41,.slice (some ⟨g,0,none⟩) n n,u43,u44,u45,u46,rfl,?_⟩
     simp [g6,g7,g8,g9]
     grind
    | 5,ho =>
     cases ho
     have g6:L 6=false:=by cases h:L 6 with | false=>rfl | true=>have:=(i6 h).2; rw [hi] at this; cases this
     have g7:L 7=false:=by cases h:L 7 with | false=>rfl | true=>have:=(i7 h).2; rw [g6] at this; cases this
     have g8:L 8=false:=by cases h:L 8 with | false=>rfl | true=>have:=(i8 h).2; rw [g7] at this; cases this
     have g9:L 9=false:=by cases h:L 9 with | false=>rfl | true=>have:=i9 h; rw [g8] at this; cases this
     have e8:=j8 g9
     subst e8
     refine Eng.opIn_val (v:=.int .i64 (k:Int)) (w':=W') hF rfl rfl (fun c h=>by cases h) rfl ?_
     refine ⟨.int .i64 (k:Int),u38,u39,u40,u41,u42,.int .i64 (k:Int),u44,u45,u46,rfl,?_⟩
     simp [g6,g7,g8,g9]
     grind
    | 6,ho =>
     cases ho
     have g7:L 7=false:=by cases h:L 7 with | false=>rfl | true=>have:=(i7 h).2; rw [hi] at this; cases this
     have g8:L 8=false:=by cases h:L 8 with | false=>rfl | true=>have:=(i8 h).2; rw [g7] at this; cases this
     have g9:L 9=false:=by cases h:L 9 with | false=>rfl | true=>have:=i9 h; rw [g8] at this; cases this
     have l4:L 4=true:=hall ⟨4,.data⟩ (by simp) rfl
     have l5:L 5=true:=hall ⟨5,.data⟩ (by simp) rfl
     have e42:=j42 l4
     subst e42
     have e43:=j43 l5
     subst e43
     refine Eng.opIn_val (v:=.slice (some ⟨g,0,none⟩) k n) (w':=W') hF rfl rfl (fun c h=>by cases h) (hs44 W' _ rfl rfl _ rfl) ?_
     refine ⟨u8,u38,u39,u40,u41,.slice (some ⟨g,0,none⟩) n n,.int .i64 (k:Int),.slice (some ⟨g,0,none⟩) k n,u45,u46,rfl,?_⟩
     simp [g7,g8,g9,l4,l5]
     grind
    | 7,ho =>
     cases ho
     have g8:L 8=false:=by cases h:L 8 with | false=>rfl | true=>have:=(i8 h).2; rw [hi] at this; cases this
     have g9:L 9=false:=by cases h:L 9 with | false=>rfl | true=>have:=i9 h; rw [g8] at this; cases this
     have l3:L 3=true:=hall ⟨3,.data⟩ (by simp) rfl
     have l6:L 6=true:=hall ⟨6,.data⟩ (by simp) rfl
     have e41:=j41 l3
     subst e41
     have e44:=j44 l6
     subst e44
     have hw':W'=wr.drew:=by rw [hw,hi]; rfl
     subst hw'
     refine Eng.opIn_val (v:=.int .i64 (m:Int)) (w':=W5) hF rfl rfl (fun c h=>by cases h) (by simp [execOp,resolve,invoke,builtin,Act.eval,hcp2]) ?_
     refine ⟨u8,u38,u39,u40,.slice (some ⟨g,k,none⟩) (n - k) (n - k),u42,u43,.slice (some ⟨g,0,none⟩) k n,.int .i64 (m:Int),u46,rfl,?_⟩
     simp [g8,g9,l3,l6]
     grind
    | 8,ho =>
     cases ho
     have g9:L 9=false:=by cases h:L 9 with | false=>rfl | true=>have:=i9 h; rw [hi] at this; cases this
     have l0:L 0=true:=hall ⟨0,.data⟩ (by simp) rfl
     have l7:L 7=true:=hall ⟨7,.data⟩ (by simp) rfl
     have e38:=j38 l0
     subst e38
     have e45:=j45 l7
     subst e45
     refine Eng.opIn_val (v:=.int .i64 ((k:Int)+(m:Int))) (w':=W') hF rfl rfl (fun c h=>by cases h) (hs46 W' _ rfl rfl _ rfl) ?_
     refine ⟨u8,.int .i64 (k:Int),u39,u40,u41,u42,u43,u44,.int .i64 (m:Int),.int .i64 ((k:Int)+(m:Int)),rfl,?_⟩
     simp [g9,l0,l7]
     grind
    | 9,ho =>
     cases ho
     have l8:L 8=true:=hall ⟨8,.data⟩ (by simp) rfl
     have e46:=j46 l8
     subst e46
     refine Eng.opIn_val (v:=.int .i64 ((k:Int)+(m:Int))) (w':=W') hF rfl rfl (fun c h=>by cases h) rfl ?_
     refine ⟨.int .i64 ((k:Int)+(m:Int)),u38,u39,u40,u41,u42,u43,u44,u45,.int .i64 ((k:Int)+(m:Int)),rfl,?_⟩
     simp [l8]
     grind
    | k+10,ho=>simp at ho
   ·rintro L a W' hL ⟨u8,u38,u39,u40,u41,u42,u43,u44,u45,u46,rfl,j8,j8b,j38,j39,j40,j41,j42,j43,j44,j45,j46,i3,i6,i7,i8,i9,hw⟩
    have h9:L 9=true:=hL 9 (by decide)
    have h7:L 7=true:=hL 7 (by decide)
    have e8:=j8b h9
    subst e8
    rw [h7] at hw
    simp only [if_true] at hw
    subst hw
    go_roundw
    case rel=>exact ⟨_,_,_,_,_,_,_,_,_,_,_,_,_,_,⟨k+m,by omega,fun _=>by omega,by simp,by rw [← hW5]; exact hcr'.row,by rw [← hW5]; exact below_setRow hBr.drew (by have:=hk.size; omega) _⟩,rfl⟩
    case measure =>
     show n - (intOf (.int .i64 ((k:Int)+(m:Int)))).toNat < n - (intOf (.int .i64 (k:Int))).toNat
     simp only [intOf]
     omega
  ·obtain rfl:k=n:=by omega
   gi_wp2
   refine bodyPost_ret (results_tmp rfl _ _ _) rfl ?_
   refine ⟨g,rfl,by have:=hk.size; omega,hBr,?_⟩
   have:=hcr
   unfold A9 at this
   rw [this]
   simp [A0O]
end Go.Proofs.YtppoifpabafdlaaGreat
namespace Go.Proofs.YtppoifpabafdlaaGreat
open Go.RowKit Go.Eng
theorem B5C{M:Mem}{w w':World}(h:A2O M w)(hb:Below w.heap.size w w'):A2O M w':=fun b o hm=>(hb.block b (Array.getElem?_eq_some_iff.1 (h b o hm)).1).trans (h b o hm)
theorem A8p{w w':World}(hb:Below w.heap.size w w')(bor:Nat→Prop):Since bor w w':=⟨hb.os,hb.tape,hb.output,hb.size,fun b h _=>hb.block b h⟩
theorem A8q {P : Program} {f : FuncId} {modes : List Eng.Mode} {sh : A5} {e : Ty} {tid : Nat} {model : A5.den sh → Option (List e.den × Unit)} (hb : (do let fn ← P.funcs[f]?; pure (fn.body.isSome && fn.name != "runtime.NumGoroutine")) = some true) (hro : A1d modes = true)
  (h:∀ M w vs ms r,A2O M w→All2 (S3 M) vs ms→G5 sh ms model=some r→Calls P f vs.toArray w fun e' w'=>∃ v,e'=.returned v∧Below w.heap.size w w'∧∃ xs,w'.ownsRow w.heap.size tid e.sz v r.1.length xs∧E3 (E8 M e) r.1 xs) :
  CSound P f (B7 { modes:=modes,sh:=sh,keeps:=false,fresh:=some (0,tid),rtys:=[.slice e] } model):=by
 refine ⟨fun ms K=>A1f { modes:=modes,sh:=sh,keeps:=false,fresh:=some (0,tid),rtys:=[.slice e] } model ms K,hb,?_⟩
 intro ms outs hcm M w vs hs hM hargs _ _
 obtain ⟨hpl,rfl⟩:=A2A hro hargs
 have hcm':(G5 sh ms model).bind (fun r=>some (Y9 [.slice e] r))=some outs:=by
  rw [A0d]; exact hcm
 obtain ⟨r,hr,he⟩:=Option.bind_eq_some_iff.1 hcm'
 cases he
 refine(h M w vs ms r hM hpl hr).mono ?_
 rintro e' w' ⟨v,rfl,hk,xs,⟨hx,hown⟩,hf⟩
 have key:∀ pl:Eng.Place,v=pl.slice r.1.length→P9 M w' pl (.sl e tid r.1)→(∀ b,pl.blk=some b→w.heap.size≤b∧b < w'.heap.size)→D0w M w (B7 { modes:=modes,sh:=sh,keeps:=false,fresh:=some (0,tid),rtys:=[.slice e] } model) [] (Y9 [.slice e] r) (.returned v) w':=by
  intro pl hv ho hblk
  refine ⟨M,_,[v],pl,rfl,.refl M,B5C hM hk,A8p hk _,fun _ _ _=>rfl,B5e _ hro,?_,fun b hb=>?_⟩
  ·exact .fresh (o:=.sl e tid r.1) rfl rfl hv rfl ho .nil
  ·obtain ⟨h1,h2⟩:=hblk b hb
   refine ⟨?_,h2,.inl h1⟩
   cases hm:M b with
   | none=>rfl
   | some o=>have:=(Array.getElem?_eq_some_iff.1 (hM b o hm)).1; omega
 rcases hown with ⟨rfl,hn⟩ | ⟨g,cap,cur,rfl,hg,hgb,hc,hcm,hsz,ht⟩
 ·have hn:r.1=[]:=List.length_eq_zero_iff.1 hn
  exact key .no (by rw [hn]; rfl) hn (fun b hb=>by cases hb)
 ·refine key (.at g cap) rfl ⟨hc,hcm,cur,hgb,hsz,xs,hf,?_⟩ (fun b hb=>by cases hb; exact ⟨hg,(Array.getElem?_eq_some_iff.1 hgb).1⟩)
  rw [hx]; exact ht
theorem A9V{R:Type}{t:Ty}(hn:∀ K:t.den→Option R,C7x t K=none){l:A5}{n:Nat}{ms:List MV}{K:A5.den ((n,.d t)::l)→Option R}{r:R}(h:G5 ((n,.d t)::l) ms K=some r) :
  ∃ (x:t.den) (ms':List MV),ms=.d t x::ms'∧G5 l ms' (fun y=>K (x,y))=some r:=by
 cases ms with
 | nil=>cases h
 | cons m ms =>
  simp only [G5] at h
  cases m <;> simp only [A3C,hn] at h <;> try (cases h; done)
  ·rename_i t x
   unfold A2K at h
   split at h
   ·rename_i ht
    subst ht
    exact ⟨x,ms,rfl,h⟩
   ·cases h
theorem C2O{R:Type}{t:Ty}{l:A5}{n:Nat}{ms:List MV}{K:A5.den ((n,.d (.slice t))::l)→Option R}{r:R}(h:G5 ((n,.d (.slice t))::l) ms K=some r) :
  ∃ (m:MV) (x:List t.den) (ms':List MV),ms=m::ms'∧(∀ M v,S3 M v m→B4I M (E8 M t) x v)∧G5 l ms' (fun y=>K (x,y))=some r:=by
 cases ms with
 | nil=>cases h
 | cons m ms =>
  simp only [G5] at h
  cases m <;> simp only [A3C,C7x] at h <;> try (cases h; done)
  ·rename_i t' x
   unfold A2K at h
   split at h
   ·rename_i ht
    subst ht
    refine ⟨_,x,ms,rfl,?_,h⟩
    rintro M v ⟨cs,⟨u,hu,hs⟩,rfl⟩
    subst hu
    exact hs
   ·cases h
  ·refine ⟨_,[],ms,rfl,?_,h⟩
   intro M v hp
   exact ⟨none,0,hp,Nat.le_refl _,fun _=>rfl,fun h=>absurd rfl h⟩
theorem A1L:∀ {l:List Int} {cs:List Value},E3 (fun x cs=>cs=[Value.int .i64 x]) l cs→cs=l.map (.int .i64)
 | [],_,h=>h
 | _::_,_,⟨_,_,e,h1,h2⟩=>by rw [e,h1,A1L h2]; rfl
theorem B3Z:CSound Tryz.prog 59 (B7 { modes:=[.ro],sh:=[(0,.d (.slice (.int .i64)))],keeps:=false,fresh:=none,rtys:=[.fnc] } fun x=>some (Fv.itr 119 x.1,())):=by
 refine ⟨fun ms K=>A1f _ _ ms K,by kernel_rfl,?_⟩
 intro ms outs hcm M w vs hs hM hargs _ _
 obtain ⟨hpl,rfl⟩:=A2A rfl hargs
 have hcm':(G5 [(0,.d (.slice (.int .i64)))] ms fun x=>some ((Fv.itr 119 x.1,()):A8H [.fnc])).bind (fun r=>some (Y9 [.fnc] r))=some outs:=by
  rw [A0d]; exact hcm
 obtain ⟨r,hr,he⟩:=Option.bind_eq_some_iff.1 hcm'
 cases he
 obtain ⟨m,l,ms',rfl,hm,hr⟩:=C2O hr
 obtain ⟨rfl,hr⟩:=A32 hr
 cases hr
 cases hpl with
 | @cons v _ _ _ hp hn =>
  cases hn
  have hs:=hm M v hp
  have hs':=hs
  obtain ⟨ao,cap,rfl,h1,h2,h3⟩:=hs
  refine(callsIn_wide.1 (C2J Fence.wide 4 trivial rfl ao l.length cap w)).mono ?_
  rintro e w' ⟨rfl,rfl⟩
  have hM0:M w.heap.size=none:=by
   cases hmm:M w.heap.size with
   | none=>rfl
   | some ob=>have:=(Array.getElem?_eq_some_iff.1 (hM _ _ hmm)).1; omega
  have hle:M.le fun b=>if b=w.heap.size then some (.cells #[.slice ao l.length cap] 43 (0,0)) else M b:=by
   intro b o hb
   by_cases hbe:b=w.heap.size
   ·rw [hbe,hM0] at hb; cases hb
   ·simp only [if_neg hbe]; exact hb
  refine ⟨fun b=>if b=w.heap.size then some (.cells #[.slice ao l.length cap] 43 (0,0)) else M b,[.d .fnc (.itr 119 l)],[.func (.func 119) #[] #[.pointer (some ⟨w.heap.size,0,none⟩)]],.no,rfl,hle,?_,A8p ((Below.refl _ w).alloc (Nat.le_refl _) _) _,?_,.ro .nil,.plain (fun h=>by cases h) ⟨_,⟨w.heap.size,#[.slice ao l.length cap],43,(0,0),.slice ao l.length cap,rfl,by simp,rfl,hs'.mono hle fun _ _ k=>k⟩,rfl⟩ .nil,fun b hb=>by cases hb⟩
  ·intro b o hb
   by_cases hbe:b=w.heap.size
   ·subst hbe
    simp only [if_true] at hb
    cases hb
    exact World.alloc_heap_new w _
   ·simp only [if_neg hbe] at hb
    have:=hM b o hb
    exact(Below.heap_alloc w _ b (Array.getElem?_eq_some_iff.1 this).1).trans this
  ·intro b hb _
   simp only [if_neg (show ¬ b=w.heap.size by omega)]
theorem B40{mul:Int→Int→Option (Int×Int×Unit)}{kp:Bool}(hm:∀ n:Nat,n≤65536→mul 1 (n:Int)=some (0,(n:Int),()))(hc:CSound Tryz.prog 418 (B7 { modes:=[.ro,.ro],sh:=[(0,.d (.int .u64)),(1,.d (.int .u64))],keeps:=kp,fresh:=none,rtys:=[(.int .u64),(.int .u64)] } fun x=>mul x.1 x.2.1)) :
  CSound Tryz.prog 417 (B7 { modes:=[.ro,.ro],sh:=[(0,.d (.slice (.int .i64))),(1,.d (.int .i64))],keeps:=false,fresh:=some (0,2),rtys:=[(.slice (.int .i64))] }
   fun x=>bif Nat.beq x.1.length 1 && leI 0 x.2.1 && leI x.2.1 65536 then some (List.replicate x.2.1.toNat (x.1.headD 0),()) else none):=by
 refine A8q (by kernel_rfl) rfl ?_
 intro M w vs ms r hM hpl hr
 obtain ⟨m,l,ms',rfl,hs,hr⟩:=C2O hr
 obtain ⟨n,ms2,rfl,hr⟩:=A4f hr
 obtain ⟨rfl,hr⟩:=A32 hr
 replace hr:(bif Nat.beq l.length 1 && leI 0 n && leI n 65536 then some (List.replicate n.toNat (l.headD 0),()) else none)=some r:=hr
 cases hcd:(Nat.beq l.length 1 && leI 0 n && leI n 65536) <;> simp only [hcd,cond_true,cond_false,reduceCtorEq] at hr
 cases hr
 simp only [Bool.and_eq_true,H7] at hcd
 obtain ⟨⟨c1,c2⟩,c3⟩:=hcd
 have c1:=Nat.eq_of_beq_eq_true c1
 obtain ⟨x,rfl⟩:∃ x,l=[x]:=by
  match l,c1 with
  | [x],_=>exact ⟨x,rfl⟩
 obtain ⟨n,rfl⟩:=Int.eq_ofNat_of_zero_le c2
 cases hpl with
 | @cons v _ _ _ hp hn =>
  cases hn with
  | @cons u _ _ _ hq hn =>
   cases hn
   have hu:=P1 hq
   subst hu
   obtain ⟨ao,cap,rfl,h1,h2,h3⟩:=hs M v hp
   obtain ⟨b,off,cur,el,fz,rfl,hmb,cs,hf,ht⟩:=h3 (by simp)
   have hcs:=A1L hf
   subst hcs
   have hwb:=hM _ _ hmb
   have hmul:∀ (k:Nat) (W:World),k≤65536→Calls Tryz.prog 418 #[.int .u64 1,.int .u64 (k:Int)] W fun e W'=>e=.returned (.tuple #[.int .u64 0,.int .u64 (k:Int)])∧Below W.heap.size W W':=by
    intro k W hk
    have hcm:(B7 { modes:=[.ro,.ro],sh:=[(0,.d (.int .u64)),(1,.d (.int .u64))],keeps:=kp,fresh:=none,rtys:=[(.int .u64),(.int .u64)] } fun x=>mul x.1 x.2.1).cm [.d (.int .u64) (1:Int),.d (.int .u64) (k:Int)] some=some [.d (.int .u64) (0:Int),.d (.int .u64) (k:Int)]:=by
     simp only [B7,G5,A3C,A2K,dite_true,hm k hk,Option.bind_some]
     rfl
    refine(hc.runs _ _ hcm (fun _=>none) W [.int .u64 1,.int .u64 (k:Int)] [] (fun b o h=>by cases h) (.ro (A2z _ _ _) (.ro (A2z _ _ _) .nil)) (by simp [D6]) (fun _ _=>rfl)).mono ?_
    ·rintro e W' ⟨M',rs,us,pl,rfl,h1,h2,h3,h4,h5,h6,h7⟩
     cases h5 with
     | ro h5 =>
      cases h5 with
      | ro h5 =>
       cases h5
       cases h6 with
       | fresh h=>cases h
       | plain _ p1 h6 =>
        cases h6 with
        | fresh h=>cases h
        | plain _ p2 h6 =>
         cases h6
         rw [P1 p1,P1 p2]
         exact ⟨rfl,⟨h3.os,h3.tape,h3.output,h3.size,fun b hb=>h3.block b hb (by simp [D6])⟩⟩
   refine(B3Y hmul b off cap n x w (Array.getElem?_eq_some_iff.1 hwb).1 ?_ (by omega)).mono ?_
   ·rw [cell_of_row w b off cur el fz hwb]
    have:=congrArg (fun t=>t[0]?) ht
    simpa using this
   ·rintro e w' ⟨g,rfl,hg,hk,hgb⟩
    refine ⟨_,rfl,hk,List.replicate n (.int .i64 x),⟨?_,.inr ⟨g,n,_,?_,hg,hgb,?_,?_,?_,?_⟩⟩,?_⟩
    ·simp [Ty.sz]
    ·simp
    ·simp
    ·unfold maxLen; omega
    ·simp [Ty.sz]
    ·simp [Ty.sz]
    ·have:=E3.replicate (P:=E8 M (.int .i64)) (x:=x) (c:=[.int .i64 x]) rfl n
     simpa using this
end Go.Proofs.YtppoifpabafdlaaGreat
namespace Go.Proofs.YtppoifpabafdlaaGreat
open Go.RowKit Go.Eng
theorem A9W{P:Program}{f:FuncId}{st e:Ty}{tid:Nat}{kp:Bool}{step:st.den→Int→Option (st.den×List e.den×Unit)}
  (hs:CSound P f (B7 { modes:=[.ro,.ro],sh:=[(0,.d st),(1,.d (.int .i64))],keeps:=kp,fresh:=some (1,tid),rtys:=[st,.slice e] } fun x=>step x.1 x.2.1))
  {s:st.den} {v:Int} {r:st.den×List e.den×Unit} {cs:List Value} (W:World) (hf:E8 (fun _=>none) st s cs) (h:step s v=some r) :
  Calls P f #[C8 st cs,.int .i64 v] W fun e' W'=>∃ (M:Mem) (cs':List Value) (u:Value) (pl:Eng.Place),e'=.returned (.tuple #[C8 st cs',u])∧E8 M st r.1 cs'∧Below W.heap.size W W'∧u=pl.slice r.2.1.length∧P9 M W' pl (.sl e tid r.2.1):=by
 have hcm:(B7 { modes:=[.ro,.ro],sh:=[(0,.d st),(1,.d (.int .i64))],keeps:=kp,fresh:=some (1,tid),rtys:=[st,.slice e] } fun x=>step x.1 x.2.1).cm [.d st s,.d (.int .i64) v] some=some [.d st r.1,.d (.slice e) r.2.1]:=by
  simp only [B7,G5,A3C,A2K,dite_true,h,Option.bind_some]
  rfl
 refine(hs.runs _ _ hcm (fun _=>none) W [C8 st cs,.int .i64 v] [] (fun b o h=>by cases h) (.ro ⟨cs,hf,rfl⟩ (.ro (A2z _ _ _) .nil)) (by simp [D6]) (fun _ _=>rfl)).mono ?_
 rintro e' W' ⟨M',rs,us,pl,rfl,h1,h2,h3,h4,h5,h6,h7⟩
 cases h5 with
 | ro h5 =>
  cases h5 with
  | ro h5 =>
   cases h5
   cases h6 with
   | fresh h=>cases h
   | plain _ p1 h6 =>
    cases h6 with
    | plain h=>exact absurd rfl h
    | fresh hk ho hv hm hob h6 =>
     cases h6
     rename_i tid' o v2
     cases hk
     obtain ⟨cs',hf',hv1⟩:=p1
     subst hv1
     cases o with
     | sl e2 t2 l2 =>
      simp only [MObj.asMV,MV.d.injEq] at hm
      obtain ⟨he,hl⟩:=hm
      cases he
      cases hl
      cases ho
      exact ⟨M',cs',_,pl,rfl,hf',⟨h3.os,h3.tape,h3.output,h3.size,fun b hb=>h3.block b hb (by simp [D6])⟩,hv,hob⟩
     | bx t x =>
      simp only [MObj.asMV,MV.d.injEq] at hm
      obtain ⟨he,_⟩:=hm
      subst he
      cases ho
     | gone=>cases ho
theorem A9X{P:Program}{f:FuncId}{st e:Ty}{tid:Nat}{kp:Bool}{rest:st.den→Option (List e.den×Unit)}
  (hs:CSound P f (B7 { modes:=[.ro],sh:=[(0,.d st)],keeps:=kp,fresh:=some (0,tid),rtys:=[.slice e] } fun x=>rest x.1))
  {s:st.den} {r:List e.den×Unit} {cs:List Value} (W:World) (hf:E8 (fun _=>none) st s cs) (h:rest s=some r) :
  Calls P f #[C8 st cs] W fun e' W'=>∃ (M:Mem) (u:Value) (pl:Eng.Place),e'=.returned u∧Below W.heap.size W W'∧u=pl.slice r.1.length∧P9 M W' pl (.sl e tid r.1):=by
 have hcm:(B7 { modes:=[.ro],sh:=[(0,.d st)],keeps:=kp,fresh:=some (0,tid),rtys:=[.slice e] } fun x=>rest x.1).cm [.d st s] some=some [.d (.slice e) r.1]:=by
  simp only [B7,G5,A3C,A2K,dite_true,h,Option.bind_some]
  rfl
 refine(hs.runs _ _ hcm (fun _=>none) W [C8 st cs] [] (fun b o h=>by cases h) (.ro ⟨cs,hf,rfl⟩ .nil) (by simp [D6]) (fun _ _=>rfl)).mono ?_
 rintro e' W' ⟨M',rs,us,pl,rfl,h1,h2,h3,h4,h5,h6,h7⟩
 cases h5 with
 | ro h5 =>
  cases h5
  cases h6 with
  | plain h=>exact absurd rfl h
  | fresh hk ho hv hm hob h6 =>
   cases h6
   rename_i tid' o v2
   cases hk
   cases o with
   | sl e2 t2 l2 =>
    simp only [MObj.asMV,MV.d.injEq] at hm
    obtain ⟨he,hl⟩:=hm
    cases he
    cases hl
    cases ho
    exact ⟨M',_,pl,rfl,⟨h3.os,h3.tape,h3.output,h3.size,fun b hb=>h3.block b hb (by simp [D6])⟩,hv,hob⟩
   | bx t x =>
    simp only [MObj.asMV,MV.d.injEq] at hm
    obtain ⟨he,_⟩:=hm
    subst he
    cases ho
   | gone=>cases ho
abbrev ctT:Ty:=.pair (.int .i64) (.pair (.int .i64) .unit)
theorem D0b{M:Mem}{c:Ct}{cs:List Value}(h:E8 M ctT c cs):cs=ctC c:=by
 obtain ⟨c1,c2,rfl,h1,c3,c4,rfl,h2,h3⟩:=h
 cases h1; cases h2; cases h3; rfl
theorem C5c(M:Mem)(c:Ct):E8 M ctT c (ctC c):=⟨[.int .i64 c.1],[.int .i64 c.2.1],rfl,rfl,[.int .i64 c.2.1],[],rfl,rfl,rfl⟩
theorem B1U(M:Mem):∀ l:List Ct,E3 (E8 M ctT) l (l.flatMap ctC)
 | []=>rfl
 | c::l=>⟨ctC c,_,rfl,C5c M c,B1U M l⟩
theorem A7f{M:Mem}{W:World}{pl:Eng.Place}{l:List Ct}(h:P9 M W pl (.sl ctT 126 l))(h1:l.length≤1):A8U W l (pl.slice l.length):=by
 match l,h1 with
 | [],_ =>
  cases pl with
  | no=>exact .inl ⟨rfl,none,0,rfl⟩
  | «at» b cap=>exact .inl ⟨rfl,some ⟨b,0,none⟩,cap,rfl⟩
 | [c],_ =>
  cases pl with
  | no=>cases h
  | «at» b cap =>
   obtain ⟨_,_,cur,hb,hsz,cs,hf,ht⟩:=h
   obtain ⟨c1,c2,rfl,h1,h2⟩:=hf
   cases h2
   have:=D0b h1
   subst this
   refine .inr ⟨c,b,0,cap,rfl,rfl,?_,?_⟩
   ·rw [cell_of_row W b 0 cur 126 (0,0) hb]
    have:=congrArg (fun t=>t[0]?) ht
    simpa [ctC,List.getElem?_take] using this
   ·rw [cell_of_row W b 1 cur 126 (0,0) hb]
    have:=congrArg (fun t=>t[1]?) ht
    simpa [ctC,List.getElem?_take] using this
theorem B7X{M:Mem}{w:World}{g:Nat}{l:List Int}{v:Value}(hM:A2O M w)(hl:∀ x∈l,-9223372036854775808≤x∧x≤9223372036854775807)(h:S3 M v (.d .fnc (.itr g l))) :
  ∃ (bq:Nat) (zs:List X64) (sv:Value),v=.func (.func g) #[] #[.pointer (some ⟨bq,0,none⟩)]∧zs.map (·.1)=l∧bq < w.heap.size∧w.cell? ⟨bq,0,none⟩=some sv∧D09 (fun x:X64=>x.1) ⟨0,by decide,by decide⟩ w.heap.size w sv zs:=by
 obtain ⟨cs,⟨b,cur,e,fz,sv,rfl,hmb,hc0,hs⟩,hv⟩:=h
 have hwb:=hM _ _ hmb
 obtain ⟨zs,hzs⟩:∃ zs:List X64,zs.map (·.1)=l:=⟨l.pmap (fun x h=>⟨x,h⟩) hl,by simp [List.map_pmap]⟩
 have hlen:zs.length=l.length:=by rw [← hzs]; simp
 refine ⟨b,zs,sv,by simpa [C8,Ty.isAgg] using hv,hzs,(Array.getElem?_eq_some_iff.1 hwb).1,?_,?_⟩
 ·rw [cell_of_row w b 0 cur e fz hwb]; exact hc0
 ·obtain ⟨ao,cap,rfl,h1,h2,h3⟩:=hs
  cases hl0:l with
  | nil =>
   subst hl0
   exact .inl ⟨ao,cap,rfl,List.length_eq_zero_iff.1 hlen⟩
  | cons y l' =>
   obtain ⟨b',off,cur',el,fz',rfl,hmb',cs,hf,ht⟩:=h3 (by rw [hl0]; simp)
   have hcs:=A1L hf
   have hwb':=hM _ _ hmb'
   rw [← hl0]
   refine .inr ⟨b',off,cap,by rw [hlen],(Array.getElem?_eq_some_iff.1 hwb').1,fun j hj=>?_⟩
   rw [cell_of_row w b' _ cur' el fz' hwb']
   have:=congrArg (fun t=>t[j]?) ht
   rw [hcs,← hzs] at this
   simp only [List.getElem?_take,List.length_map,if_pos hj,List.getElem?_drop,List.map_map,List.getElem?_map] at this
   rw [← Array.getElem?_toList,this,List.getElem?_eq_getElem hj]
   rfl
abbrev D0B:=Int×Int×Int×Int×Unit
abbrev D0C:Ty:=.pair (.int .i64) (.pair (.int .i64) (.pair (.int .i64) (.pair (.int .i64) .unit)))
def D0D(s:D0B):Array Value:=#[.int .i64 s.1,.int .i64 s.2.1,.int .i64 s.2.2.1,.int .i64 s.2.2.2.1]
theorem B7Y{M:Mem}{s:D0B}{cs:List Value}(h:E8 M D0C s cs):cs=(D0D s).toList:=by
 obtain ⟨c1,_,rfl,h1,c2,_,rfl,h2,c3,_,rfl,h3,c4,_,rfl,h4,h5⟩:=h
 cases h1; cases h2; cases h3; cases h4; cases h5; rfl
theorem B41(M:Mem)(s:D0B):E8 M D0C s (D0D s).toList:=⟨[_],_,rfl,rfl,[_],_,rfl,rfl,[_],_,rfl,rfl,[_],_,rfl,rfl,rfl⟩
abbrev B9k:=Int×Int×Int×Int×(Bool×List Int×Unit)×Unit
abbrev B9l:Ty:=.pair (.int .i64) (.pair (.int .i64) (.pair (.int .i64) (.pair (.int .i64) (.pair (.pair .bool (.pair (.arr 4 (.int .u64)) .unit)) .unit))))
def B9m(s:B9k):Array Value:=#[.int .i64 s.1,.int .i64 s.2.1,.int .i64 s.2.2.1,.int .i64 s.2.2.2.1,.bool s.2.2.2.2.1.1,.int .u64 (s.2.2.2.2.1.2.1.getD 0 0),.int .u64 (s.2.2.2.2.1.2.1.getD 1 0),.int .u64 (s.2.2.2.2.1.2.1.getD 2 0),.int .u64 (s.2.2.2.2.1.2.1.getD 3 0)]
theorem B42{M:Mem}{s:B9k}{cs:List Value}(h:E8 M B9l s cs):cs=(B9m s).toList:=by
 obtain ⟨c1,_,rfl,h1,c2,_,rfl,h2,c3,_,rfl,h3,c4,_,rfl,h4,c5,_,rfl,⟨d1,_,rfl,g1,d2,_,rfl,⟨hl,g2⟩,g3⟩,h6⟩:=h
 cases h1; cases h2; cases h3; cases h4; cases g1; cases g3; cases h6
 obtain ⟨a,b,c,d,⟨n,l,_⟩,_⟩:=s
 match l,hl with
 | [p,q,r,t],_ =>
  obtain ⟨e1,_,rfl,k1,e2,_,rfl,k2,e3,_,rfl,k3,e4,_,rfl,k4,k5⟩:=g2
  cases k1; cases k2; cases k3; cases k4; cases k5
  rfl
theorem A9Y(M:Mem){s:B9k}(hl:C5B s):E8 M B9l s (B9m s).toList:=by
 obtain ⟨a,b,c,d,⟨n,l,_⟩,_⟩:=s
 match l,hl with
 | [p,q,r,t],hl =>
  refine ⟨[_],_,rfl,rfl,[_],_,rfl,rfl,[_],_,rfl,rfl,[_],_,rfl,rfl,[_,_,_,_,_],[],rfl,⟨[_],[_,_,_,_],rfl,rfl,[_,_,_,_],[],rfl,⟨rfl,?_⟩,rfl⟩,rfl⟩
  exact ⟨[_],_,rfl,rfl,[_],_,rfl,rfl,[_],_,rfl,rfl,[_],_,rfl,rfl,rfl⟩
theorem A1p{t:Ty}(ha:t.isAgg=true)(a:Array Value):C8 t a.toList=.agg a:=by simp [C8,ha]
theorem B43{M:Mem}{v:Value}{f g:Nat}(h:S3 M v (.d (.pair .fnc (.pair .fnc .unit)) (.fn f,.fn g,()))):v=.agg #[.func (.func f) #[] #[],.func (.func g) #[] #[]]:=by
 obtain ⟨cs,⟨c1,_,rfl,h1,c2,_,rfl,h2,h3⟩,rfl⟩:=h
 cases h1; cases h2; cases h3
 rfl
theorem B1V{k1 k2:Bool}{step:D0B→Int→Option (D0B×List Ct×Unit)}{rest:D0B→Option (List Ct×Unit)}
  (h1:CSound Tryz.prog 56 (B7 { modes:=[.ro,.ro],sh:=[(0,.d D0C),(1,.d (.int .i64))],keeps:=k1,fresh:=some (1,126),rtys:=[D0C,.slice ctT] } fun x=>step x.1 x.2.1))
  (h2:CSound Tryz.prog 57 (B7 { modes:=[.ro],sh:=[(0,.d D0C)],keeps:=k2,fresh:=some (0,126),rtys:=[.slice ctT] } fun x=>rest x.1)) :
  CSound Tryz.prog 58 (B7 { modes:=[.ro,.ro,.ro],sh:=[(0,.d (.pair .fnc (.pair .fnc .unit))),(1,.d D0C),(2,.d .fnc)],keeps:=false,fresh:=some (0,126),rtys:=[.slice ctT] } fun x=>A5p 56 57 119 (fun _=>True) step rest x.1 x.2.1 x.2.2.1):=by
 refine A8q (by kernel_rfl) rfl ?_
 intro M w vs ms r hM hpl hr
 obtain ⟨x0,ms1,hm0,hr0⟩:=A9V (fun _=>rfl) hr
 obtain ⟨x1,ms2,hm1,hr1⟩:=A9V (fun _=>rfl) hr0
 obtain ⟨x2,ms3,hm2,hr2⟩:=A9V (fun _=>rfl) hr1
 obtain ⟨hm3,hr3⟩:=A32 hr2
 subst hm3 hm2 hm1 hm0
 obtain ⟨rfl,l,rfl,hl1,hl2,hok,s,out,q,hd,hq,hq1,rfl⟩:=B2P hr3
 cases hpl with
 | @cons v0 _ _ _ p0 hpl =>
  cases hpl with
  | @cons v1 _ _ _ p1 hpl =>
   cases hpl with
   | @cons v2 _ _ _ p2 hpl =>
    cases hpl
    have e0:=B43 p0
    subst e0
    obtain ⟨cs,hf,rfl⟩:=p1
    have e1:=B7Y hf
    subst e1
    obtain ⟨bq,zs,sv,rfl,hzs,hB,hc,hI⟩:=B7X hM hl2 p2
    have hlen:zs.length=l.length:=by rw [← hzs]; simp
    rw [A1p rfl]
    have hstep:A9T D0D (fun _=>True) step:=by
     intro s v r W _ hs hle
     have:=A9W h1 W (B41 _ s) hs
     rw [A1p rfl] at this
     refine this.mono ?_
     rintro e W' ⟨M',cs',u,pl,rfl,hf',hk,rfl,ho⟩
     rw [B7Y hf',A1p rfl]
     exact ⟨_,rfl,hk,A7f ho hle⟩
    have hrest:A9U D0D (fun _=>True) rest:=by
     intro s r W _ hs hle
     have:=A9X h2 W (B41 _ s) hs
     rw [A1p rfl] at this
     refine this.mono ?_
     rintro e W' ⟨M',u,pl,rfl,hk,rfl,ho⟩
     exact ⟨_,rfl,hk,A7f ho hle⟩
    refine(D0a D0D (fun _=>True) (fun _=>rfl) (fun _=>by simp [D0D,Value.oneCell']) step rest hstep hrest x1 bq w zs sv (by rw [hlen]; exact hl1) hB hc hI (by rw [hlen]; exact hok) s out q (by rw [hzs]; exact hd) hq hq1).mono ?_
    rintro e' w' ⟨v,rfl,hown,hk⟩
    refine ⟨v,rfl,hk,_,?_,B1U M _⟩
    rw [List.length_append,List.flatMap_append]
    exact hown
theorem A8V{k1 k2:Bool}{step:B9k→Int→Option (B9k×List Ct×Unit)}{rest:B9k→Option (List Ct×Unit)}
  (h1:CSound Tryz.prog 424 (B7 { modes:=[.ro,.ro],sh:=[(0,.d B9l),(1,.d (.int .i64))],keeps:=k1,fresh:=some (1,126),rtys:=[B9l,.slice ctT] } fun x=>step x.1 x.2.1))
  (h2:CSound Tryz.prog 425 (B7 { modes:=[.ro],sh:=[(0,.d B9l)],keeps:=k2,fresh:=some (0,126),rtys:=[.slice ctT] } fun x=>rest x.1)) :
  CSound Tryz.prog 426 (B7 { modes:=[.ro,.ro,.ro],sh:=[(0,.d (.pair .fnc (.pair .fnc .unit))),(1,.d B9l),(2,.d .fnc)],keeps:=false,fresh:=some (0,126),rtys:=[.slice ctT] } fun x=>A5p 424 425 119 C5B step rest x.1 x.2.1 x.2.2.1):=by
 refine A8q (by kernel_rfl) rfl ?_
 intro M w vs ms r hM hpl hr
 obtain ⟨x0,ms1,hm0,hr0⟩:=A9V (fun _=>rfl) hr
 obtain ⟨x1,ms2,hm1,hr1⟩:=A9V (fun _=>rfl) hr0
 obtain ⟨x2,ms3,hm2,hr2⟩:=A9V (fun _=>rfl) hr1
 obtain ⟨hm3,hr3⟩:=A32 hr2
 subst hm3 hm2 hm1 hm0
 obtain ⟨rfl,l,rfl,hl1,hl2,hok,s,out,q,hd,hq,hq1,rfl⟩:=B2P hr3
 cases hpl with
 | @cons v0 _ _ _ p0 hpl =>
  cases hpl with
  | @cons v1 _ _ _ p1 hpl =>
   cases hpl with
   | @cons v2 _ _ _ p2 hpl =>
    cases hpl
    have e0:=B43 p0
    subst e0
    obtain ⟨cs,hf,rfl⟩:=p1
    have e1:=B42 hf
    subst e1
    obtain ⟨bq,zs,sv,rfl,hzs,hB,hc,hI⟩:=B7X hM hl2 p2
    have hlen:zs.length=l.length:=by rw [← hzs]; simp
    rw [A1p rfl]
    have hstep:A8m B9m C5B step:=by
     intro s v r W hw hs hle
     have:=A9W h1 W (A9Y _ hw) hs
     rw [A1p rfl] at this
     refine this.mono ?_
     rintro e W' ⟨M',cs',u,pl,rfl,hf',hk,rfl,ho⟩
     rw [B42 hf',A1p rfl]
     exact ⟨_,rfl,hk,A7f ho hle⟩
    have hrest:A8n B9m C5B rest:=by
     intro s r W hw hs hle
     have:=A9X h2 W (A9Y _ hw) hs
     rw [A1p rfl] at this
     refine this.mono ?_
     rintro e W' ⟨M',u,pl,rfl,hk,rfl,ho⟩
     exact ⟨_,rfl,hk,A7f ho hle⟩
    refine(C5b B9m C5B (fun _=>rfl) (fun _=>by simp [B9m,Value.oneCell']) step rest hstep hrest x1 bq w zs sv (by rw [hlen]; exact hl1) hB hc hI (by rw [hlen]; exact hok) s out q (by rw [hzs]; exact hd) hq hq1).mono ?_
    rintro e' w' ⟨v,rfl,hown,hk⟩
    refine ⟨v,rfl,hk,_,?_,B1U M _⟩
    rw [List.length_append,List.flatMap_append]
    exact hown
end Go.Proofs.YtppoifpabafdlaaGreat
