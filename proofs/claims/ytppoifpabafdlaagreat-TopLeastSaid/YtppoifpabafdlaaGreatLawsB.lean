/- The laws of the models, part B. -/
import Derived.Test.YtppoifpabafdlaaGreatLawsA
import Derived.Test.YtppoifpabafdlaaGreatEngE
import Derived.Test.YtppoifpabafdlaaGreatEngD
set_option linter.unusedVariables false
set_option linter.unusedSimpArgs false
namespace Go.Proofs.YtppoifpabafdlaaGreat
open Go.Eng
def A2a:List Int→Int
 | []=>0
 | x::t=>x+A2a t
def A27:Int→List Int→Bool
 | _,[]=>true
 | left,x::t=>decide (1≤x∧x≤left) && A27 (left - x) t
theorem A1P{left x:Int}{t:List Int}:A27 left (x::t)=true↔(1≤x∧x≤left)∧A27 (left - x) t=true:=by
 simp only [A27,Bool.and_eq_true,decide_eq_true_eq]
theorem A5I:∀ {l:List Int} {left:Int},A27 left l=true→0≤left→(l.length:Int)≤A2a l∧A2a l≤left
 | [],left,_,h=>by simp [A2a]; exact h
 | x::t,left,h,h0=>by
  obtain ⟨h1,h2⟩:=A1P.1 h
  have:=A5I h2 (by omega)
  simp only [A2a,List.length_cons]
  omega
def lss:List Int→List Int
 | []=>[]
 | x::t=>(x - 1)::lss t
def mre:List Int→List Int
 | []=>[]
 | x::t=>(x+1)::mre t
theorem N0:∀ l:List Int,(lss l).length=l.length
 | []=>rfl
 | x::t=>by simp [lss,N0 t]
theorem C3e:∀ l:List Int,mre (lss l)=l
 | []=>rfl
 | x::t=>by simp only [lss,mre,C3e t]; congr 1; omega
theorem B23:∀ {l:List Int} {left:Int},A27 left l=true→∀ x∈l,1≤x∧x≤left
 | [],_,_,_,hx=>by cases hx
 | y::t,left,h,x,hx=>by
  obtain ⟨h1,h2⟩:=A1P.1 h
  rcases List.mem_cons.1 hx with e | e
  ·subst e; exact h1
  ·have:=B23 h2 x e
   omega
theorem C3f:∀ {l:List Int} {x:Int},x∈lss l→x+1∈l
 | [],_,h=>by cases h
 | y::t,x,h=>by
  rcases List.mem_cons.1 h with e | e
  ·subst e; simp
  ·exact List.mem_cons_of_mem _ (C3f e)
theorem B89{l:List Int}{left:Int}(h:A27 left l=true)(hl:left≤4096):Wd (lss l):=fun x hx=>by
 have:=B23 h _ (C3f hx)
 omega
theorem C5m(F:Nat){R:Type}(k kr:Int→Option R){c:List Int}(hc:Sg c)(hb:(c.length:Int)≤140737488355328):∀ (m i:Nat) (s:Int),i+m=c.length→0≤s∧s≤4096→∀ N,m < N →
  V9 F k kr N 4096 s c (c.length:Int) (i:Int)=if A27 (4096 - s) (c.drop i)=true then k (s+A2a (c.drop i)) else kr 4097:=by
 intro m
 induction m with
 | zero =>
  intro i s hi hs N hN
  obtain ⟨N,rfl⟩:∃ M,N=M+1:=⟨N - 1,by omega⟩
  rw [List.drop_eq_nil_of_le (by omega),iP (show A27 _ []=true from rfl)]
  unfold V9
  simp (disch:=omega) only [bs,↓iP,↓iN]
  simp [A2a]
 | succ m ih =>
  intro i s hi hs N hN
  obtain ⟨N,rfl⟩:∃ M,N=M+1:=⟨N - 1,by omega⟩
  rw [I2 (show i < c.length by omega)]
  have hx:=hc.get (i:Int)
  generalize hg:B9 0 c (i:Int)=x at *
  unfold I64 at hx
  unfold V9
  by_cases c1:x < 1
  ·rw [iN (by rw [A1P]; omega)]
   simp (disch:=omega) only [bs,↓iP,↓iN,hg]
   rfl
  ·by_cases c2:4096 - s < x
   ·rw [iN (by rw [A1P]; omega)]
    simp (disch:=omega) only [bs,↓iP,↓iN,hg]
    rfl
   ·have e:=ih (i+1) (s+x) (by omega) (by omega) N (by omega)
    simp only [Int.natCast_add,Int.natCast_one] at e
    rw [show 4096 - (s+x)=4096 - s - x by omega] at e
    have hf:A27 (4096 - s) (x::c.drop (i+1))=A27 (4096 - s - x) (c.drop (i+1)):=by
     have:decide (1≤x∧x≤4096 - s)=true:=decide_eq_true (by omega)
     simp only [A27,this,Bool.true_and]
    rw [hf,A2a,← Int.add_assoc,← e]
    simp (disch:=omega) only [bs,↓iP,↓iN,hg]
theorem A91(F:Nat)(hF:H8 F){c:List Int}(hc:Sg c)(hb:(c.length:Int)≤140737488355328):∃ r,A59 F c 4096=some (r,())∧(ltI 4096 r=!A27 4096 c):=by
 have e:=C5m F (fun z11=>some (z11,())) (fun z12=>some (z12,())) hc hb c.length 0 0 (by omega) (by omega) F (by unfold H8 at hF; omega)
 rw [List.drop_zero,Int.zero_add,Int.sub_zero] at e
 by_cases h:A27 4096 c=true
 ·rw [iP h] at e
  refine ⟨_,e,?_⟩
  have:=A5I h (by omega)
  rw [h,Bool.not_true,← Bool.not_eq_true,B8]
  omega
 ·rw [iN h] at e
  refine ⟨_,e,?_⟩
  rw [Bool.not_eq_true] at h
  rw [h]
  rfl
theorem A6f(F:Nat){R:Type}(k:List Int→List Int→Option R)(b:List Int){src:List Int}(hs:∀ x∈src,1≤x∧x≤4096)(hb:(src.length:Int)≤140737488355328):∀ (rest pre out z:List Int),src=pre++rest→out.length=pre.length→z.length=rest.length→∀ N,rest.length < N →
  H0 F k N b (out++z) src (src.length:Int) (pre.length:Int)=k b (out++lss rest):=by
 intro rest
 induction rest with
 | nil =>
  intro pre out z he ho hz N hN
  obtain ⟨N,rfl⟩:∃ M,N=M+1:=⟨N - 1,by omega⟩
  have:z=[]:=List.length_eq_zero_iff.1 hz
  subst this
  have hlen:src.length=pre.length:=by rw [he]; simp
  unfold H0
  simp (disch:=omega) only [bs,↓iP,↓iN]
  rfl
 | cons x rest ih =>
  intro pre out z he ho hz N hN
  obtain ⟨N,rfl⟩:∃ M,N=M+1:=⟨N - 1,by omega⟩
  obtain ⟨y,z',rfl⟩:∃ y z',z=y::z':=by
   cases z with
   | nil=>simp at hz
   | cons y z'=>exact ⟨y,z',rfl⟩
  simp only [List.length_cons] at hN hz
  have hlen:src.length=pre.length+1+rest.length:=by rw [he]; simp; omega
  have g:B9 0 src (pre.length:Int)=x:=by rw [he]; exact A1y pre x rest
  have hx:=hs x (by rw [he]; simp)
  have hw:IntKind.u64.wrap (x - 1)=x - 1:=F5 (by omega)
  have st:T2 (out++y::z') (pre.length:Int) (x - 1)=(out++[x - 1])++z':=by rw [← ho]; exact A6d out y _ z'
  have hol:(out++y::z').length=pre.length+1+z'.length:=by simp; omega
  have e:=ih (pre++[x]) (out++[x - 1]) z' (by rw [he]; simp) (by simp [ho]) (by omega) N (by omega)
  have hpl:(((pre++[x]).length:Nat):Int)=(pre.length:Int)+1:=by simp
  rw [hpl] at e
  have hz2:out++[x - 1]++lss rest=out++lss (x::rest):=by simp [lss]
  rw [hz2] at e
  unfold H0
  simp (disch:=omega) only [bs,↓iP,↓iN,g,hw,st]
  exact e
theorem A8x(F:Nat)(hF:H8 F){b c:List Int}(hbl:b.length≤1000000)(hf:A27 4096 c=true)(hn:c.length≤4096):Q9 F b c=some (b++nE (lss c),0,()):=by
 unfold Q9
 have x1:Y8 (C7 c) (C7 c) 8=true:=by rw [V4]; unfold C7; omega
 have hw:=B89 hf (by omega)
 have e1:=K0 F hF hw (by rw [N0]; omega)
 have hs:=A1b hw (by rw [N0]; omega)
 have r:K3 (b.length+(nE (lss c)).length) 1=true:=by rw [K7]; omega
 rw [x1,cT]
 refine(A6f F _ b (B23 hf) (by omega) c [] [] (I7 (C7 c) 0) rfl rfl (by unfold C7; rw [A0p]) F (by unfold H8 at hF; omega)).trans ?_
 simp only [List.nil_append,e1,bS,show eqI (0:Int) 0=true from rfl,Bool.not_true,cF,r,cT]
def hd(c v:List Int):List Int:=enc c.length++nE (lss c)++rE v
def cn(l:List Smp):List Int:=l.map (·.1)
def vl(l:List Smp):List Int:=l.map (·.2.1)
theorem P8(l:List Smp):(cn l).length=l.length:=by simp [cn]
theorem A02(l:List Smp):(vl l).length=l.length:=by simp [vl]
theorem C3g{l:List Smp}(h:A01 l):Sg (cn l):=fun x hx=>by
 obtain ⟨s,hs,rfl⟩:=List.mem_map.1 hx
 exact(h s hs).1
theorem B9A{l:List Smp}(h:A01 l):Sg (vl l):=fun x hx=>by
 obtain ⟨s,hs,rfl⟩:=List.mem_map.1 hx
 exact(h s hs).2
theorem A4x(d:List Smp)(x:Smp)(t:List Smp):B9 (0,(0,())) (d++x::t) (d.length:Int)=x:=by
 simp [B9,List.getD_eq_getElem?_getD]
theorem C3h(F:Nat){R:Type}(k:List Smp→List Int→List Int→Option R)(x0:List Smp){src:List Smp}(hb:src.length≤100000):∀ (rest pre:List Smp) (c v:List Int),src=pre++rest→c.length=pre.length→v.length=pre.length→∀ N,rest.length < N →
  J9 F k N x0 c v src (src.length:Int) (pre.length:Int)=k x0 (c++cn rest) (v++vl rest):=by
 intro rest
 induction rest with
 | nil =>
  intro pre c v he hc hv N hN
  obtain ⟨N,rfl⟩:∃ M,N=M+1:=⟨N - 1,by omega⟩
  have hlen:src.length=pre.length:=by rw [he]; simp
  unfold J9
  simp (disch:=omega) only [bs,↓iP,↓iN]
  simp [cn,vl]
 | cons x rest ih =>
  intro pre c v he hc hv N hN
  obtain ⟨N,rfl⟩:∃ M,N=M+1:=⟨N - 1,by omega⟩
  simp only [List.length_cons] at hN
  have hlen:src.length=pre.length+1+rest.length:=by rw [he]; simp; omega
  have g:B9 (0,(0,())) src (pre.length:Int)=x:=by rw [he]; exact A4x pre x rest
  have e:=ih (pre++[x]) (c++[x.1]) (v++[x.2.1]) (by rw [he]; simp) (by simp [hc]) (by simp [hv]) N (by omega)
  have hpl:(((pre++[x]).length:Nat):Int)=(pre.length:Int)+1:=by simp
  rw [hpl] at e
  have hz1:c++[x.1]++cn rest=c++cn (x::rest):=by simp [cn]
  have hz2:v++[x.2.1]++vl rest=v++vl (x::rest):=by simp [vl]
  rw [hz1,hz2] at e
  unfold J9
  simp (disch:=omega) only [bs,↓iP,↓iN,g]
  exact e
def cE(l:List Smp):List Int×Int:=if 4096 < l.length then([],3) else if A27 4096 (cn l)=true then(hd (cn l) (vl l),0) else([],10)
theorem B24{c v:List Int}(hf:A27 4096 c=true)(hn:c.length≤4096)(hv:Sg v)(hvl:v.length≤65536):(hd c v).length≤1048700∧Bt (hd c v):=by
 have hw:=B89 hf (by omega)
 have hs:=A1b hw (by rw [N0]; omega)
 obtain ⟨s1,s2,s3⟩:=A7g hv hvl
 have h10:=X0 (v:=c.length) (by omega)
 unfold hd
 refine ⟨by simp only [List.length_append]; omega,Bt.append (Bt.append (A6F _) (B9t hw)) s3⟩
theorem A28(F:Nat)(hF:H8 F){l:List Smp}(h:A01 l):U9 F l=some ((cE l).1,(cE l).2,()):=by
 unfold U9 cE
 by_cases c0:4096 < l.length
 ·rw [iP c0]
  simp (disch:=omega) only [bs,↓iP,↓iN]
 ·rw [iN c0]
  have x1:ltI 4096 (C7 l)=false:=by rw [← Bool.not_eq_true,B8]; unfold C7; omega
  rw [x1,cF]
  refine(C3h F _ l (src:=l) (by omega) l [] [] [] rfl rfl rfl F (by unfold H8 at hF; omega)).trans ?_
  simp only [List.nil_append]
  obtain ⟨r,e1,e2⟩:=A91 F hF (C3g h) (by rw [P8]; omega)
  rw [e1]
  simp only [bS,e2]
  by_cases c1:A27 4096 (cn l)=true
  ·rw [iP c1,c1,Bool.not_true,cF]
   have hw2:IntKind.u64.wrap (C7 l)=(l.length:Int):=by unfold C7; exact F5 (by omega)
   have e4:=V2 F hF (b:=[]) (by simp [C5h]) (v:=l.length) (by omega)
   rw [List.nil_append] at e4
   have h10:=X0 (v:=l.length) (by omega)
   have e5:=A8x F hF (b:=enc l.length) (by omega) c1 (by rw [P8]; omega)
   have e6:=A2k F hF (B9A h) (by rw [A02]; omega)
   rw [C7f (by rw [A02]; omega)] at e6
   obtain ⟨s1,s2,s3⟩:=A7g (B9A h) (by rw [A02]; omega)
   have hs:=A1b (B89 c1 (by omega)) (by rw [N0,P8]; omega)
   have r2:K3 ((enc l.length++nE (lss (cn l))).length+(rE (vl l)).length) 1=true:=by rw [K7,List.length_append]; omega
   simp only [hw2,e4,e5,e6,bS,show eqI (0:Int) 0=true from rfl,Bool.not_true,cF,r2,cT]
   unfold hd
   rw [P8]
  ·rw [iN c1]
   rw [Bool.not_eq_true] at c1
   rw [c1]
   rfl
def C7g:Int→List Int→Bool
 | left,[]=>decide (left=0)
 | left,x::t=>decide (x < left) && C7g (left - (x+1)) t
theorem A8y{left x:Int}{t:List Int}:C7g left (x::t)=true↔x < left∧C7g (left - (x+1)) t=true:=by
 simp only [C7g,Bool.and_eq_true,decide_eq_true_eq]
theorem B8a:∀ {l:List Int} {left:Int},A27 left l=true→C7g (A2a l) (lss l)=true
 | [],_,_=>rfl
 | x::t,left,h=>by
  obtain ⟨h1,h2⟩:=A1P.1 h
  have h3:=A5I h2 (by omega)
  simp only [lss,A2a]
  refine A8y.2 ⟨by omega,?_⟩
  rw [show x+A2a t - (x - 1+1)=A2a t by omega]
  exact B8a h2
def sat(T:Int):Int→List Int→Int
 | s,[]=>s
 | s,x::t=>sat T (min (s+(min x T+1)) (T+1)) t
theorem C3i{T:Int}(hT:0≤T):∀ (l:List Int),Wd l→sat T (T+1) l=T+1
 | [],_=>rfl
 | x::t,hw=>by
  have hx:=Wd.head hw
  rw [sat,show min (T+1+(min x T+1)) (T+1)=T+1 by omega]
  exact C3i hT t (Wd.tail hw)
theorem C3j{T:Int}(hT:0≤T):∀ (l:List Int) (s:Int),Wd l→0≤s→s≤T→(sat T s l=T↔C7g (T - s) l=true)
 | [],s,_,h0,h1=>by
  simp only [sat,C7g,decide_eq_true_eq]
  omega
 | x::t,s,hw,h0,h1=>by
  have hx:=Wd.head hw
  rw [sat,A8y]
  by_cases c:x < T - s
  ·rw [show min (s+(min x T+1)) (T+1)=s+(x+1) by omega,C3j hT t (s+(x+1)) (Wd.tail hw) (by omega) (by omega),show T - (s+(x+1))=T - s - (x+1) by omega]
   simp [c]
  ·rw [show min (s+(min x T+1)) (T+1)=T+1 by omega,C3i hT t (Wd.tail hw)]
   constructor
   ·intro h; omega
   ·intro h; exact absurd h.1 c
def mrm(T:Int):List Int→List Int
 | []=>[]
 | x::t=>(min x T+1)::mrm T t
theorem C3k{T:Int}:∀ {l:List Int} {left:Int},Wd l→C7g left l=true→left≤T→mrm T l=mre l
 | [],_,_,_,_=>rfl
 | x::t,left,hw,h,hl=>by
  obtain ⟨h1,h2⟩:=A8y.1 h
  have hx:=Wd.head hw
  rw [mrm,mre,C3k (Wd.tail hw) h2 (by omega),show min x T=x by omega]
theorem B5I(F:Nat){R:Type}(k:Int→List Int→Int→Option R){T:Int}(hT:0≤T∧T≤4096)(end_:Int){src:List Int}(hs:Wd src)(hb:src.length≤100000):∀ (rest pre out z:List Int) (s:Int),src=pre++rest→out.length=pre.length→z.length=rest.length→0≤s∧s≤T+1→∀ N,rest.length < N →
  L9 F k N T end_ (out++z) s src (src.length:Int) (pre.length:Int)=k end_ (out++mrm T rest) (sat T s rest):=by
 have hwT:IntKind.u64.wrap T=T:=F5 (by omega)
 intro rest
 induction rest with
 | nil =>
  intro pre out z s he ho hz hs N hN
  obtain ⟨N,rfl⟩:∃ M,N=M+1:=⟨N - 1,by omega⟩
  have:z=[]:=List.length_eq_zero_iff.1 hz
  subst this
  have hlen:src.length=pre.length:=by rw [he]; simp
  unfold L9
  simp (disch:=omega) only [bs,↓iP,↓iN]
  rfl
 | cons x rest ih =>
  intro pre out z s he ho hz hss N hN
  obtain ⟨N,rfl⟩:∃ M,N=M+1:=⟨N - 1,by omega⟩
  obtain ⟨y,z',rfl⟩:∃ y z',z=y::z':=by
   cases z with
   | nil=>simp at hz
   | cons y z'=>exact ⟨y,z',rfl⟩
  simp only [List.length_cons] at hN hz
  have hlen:src.length=pre.length+1+rest.length:=by rw [he]; simp; omega
  have g:B9 0 src (pre.length:Int)=x:=by rw [he]; exact A1y pre x rest
  have hx:0≤x∧x≤18446744073709551615:=hs x (by rw [he]; simp)
  have st:T2 (out++y::z') (pre.length:Int) (min x T+1)=(out++[min x T+1])++z':=by rw [← ho]; exact A6d out y _ z'
  have gs:B9 0 ((out++[min x T+1])++z') (pre.length:Int)=min x T+1:=by rw [← ho,List.append_assoc]; exact A1y out _ z'
  have hol:(out++y::z').length=pre.length+1+z'.length:=by simp; omega
  have hol2:(out++[min x T+1]++z').length=pre.length+1+z'.length:=by simp; omega
  have e:=ih (pre++[x]) (out++[min x T+1]) z' (min (s+(min x T+1)) (T+1)) (by rw [he]; simp) (by simp [ho]) (by omega) (by omega) N (by omega)
  have hpl:(((pre++[x]).length:Nat):Int)=(pre.length:Int)+1:=by simp
  rw [hpl] at e
  have hz2:out++[min x T+1]++mrm T rest=out++mrm T (x::rest):=by simp [mrm]
  rw [hz2] at e
  have hwm:IntKind.i64.wrap (min x T)=min x T:=Q6 (by omega)
  have y1:D5 .i64 (IntKind.wrap .i64 (A3u x (IntKind.wrap .u64 T))) 1=min x T+1:=by rw [hwT,A1V,hwm,H4 (by omega)]
  have y2:A3u (D5 .i64 s (min x T+1)) (D5 .i64 T 1)=min (s+(min x T+1)) (T+1):=by rw [A1V,H4 (by omega),H4 (by omega)]
  have x1:ltI (pre.length:Int) (src.length:Int)=true:=by rw [B8]; omega
  have x2:inI (pre.length:Int) src.length=true:=by rw [G9]; omega
  have x3:inI (pre.length:Int) (out++y::z').length=true:=by rw [G9]; omega
  have x4:inI (pre.length:Int) (out++[min x T+1]++z').length=true:=by rw [G9]; omega
  have xa:D5 .i64 (pre.length:Int) 1=(pre.length:Int)+1:=H4 (by omega)
  unfold L9
  simp only [x1,x2,x3,cT,g,y1,st,x4,gs,y2,xa]
  exact e
theorem D8v{x:Int}(h:(Lit.int .u32 x).wf=true):0≤x∧x≤4294967295:=by
 simpa [Lit.wf,IntKind.min,IntKind.max,IntKind.signed,IntKind.bits] using h
theorem D8w{x:Int}(h:(Lit.int .i32 x).wf=true):-2147483648≤x∧x≤2147483647:=by
 simpa [Lit.wf,IntKind.min,IntKind.max,IntKind.signed,IntKind.bits] using h
def zp:List Int→List Int→List Smp
 | c::cs,v::vs=>(c,(v,()))::zp cs vs
 | _,_=>[]
theorem C3l:∀ l:List Smp,zp (cn l) (vl l)=l
 | []=>rfl
 | (a,(b,()))::t=>by
  have:=C3l t
  simp only [cn,vl,List.map_cons,zp] at this ⊢
  rw [this]
theorem B8b(d:List Smp)(x y:Smp)(t:List Smp):T2 (d++x::t) (d.length:Int) y=(d++[y])++t:=by
 simp [T2]
theorem C3m(F:Nat){R:Type}(k:Int→List Smp→Option R)(end_:Int){cs vs:List Int}(hb:cs.length≤100000)(hl:cs.length=vs.length):∀ (rc rv pc pv:List Int) (out z:List Smp),cs=pc++rc→vs=pv++rv→pc.length=pv.length→out.length=pc.length→z.length=rc.length→∀ N,rc.length < N →
  I4 F k N end_ cs vs (out++z) (cs.length:Int) (pc.length:Int)=k end_ (out++zp rc rv):=by
 intro rc
 induction rc with
 | nil =>
  intro rv pc pv out z hc hv hpl ho hz N hN
  obtain ⟨N,rfl⟩:∃ M,N=M+1:=⟨N - 1,by omega⟩
  have:z=[]:=List.length_eq_zero_iff.1 hz
  subst this
  have hlen:cs.length=pc.length:=by rw [hc]; simp
  unfold I4
  simp (disch:=omega) only [bs,↓iP,↓iN]
  rfl
 | cons x rc ih =>
  intro rv pc pv out z hc hv hpl ho hz N hN
  obtain ⟨N,rfl⟩:∃ M,N=M+1:=⟨N - 1,by omega⟩
  obtain ⟨y,z',rfl⟩:∃ y z',z=y::z':=by
   cases z with
   | nil=>simp at hz
   | cons y z'=>exact ⟨y,z',rfl⟩
  have hl1:cs.length=pc.length+1+rc.length:=by rw [hc]; simp; omega
  have hl2:vs.length=pv.length+rv.length:=by rw [hv]; simp
  obtain ⟨u,rv',rfl⟩:∃ u rv',rv=u::rv':=by
   cases rv with
   | nil=>simp at hl2; omega
   | cons u rv'=>exact ⟨u,rv',rfl⟩
  simp only [List.length_cons] at hN hz hl2
  have g1:B9 0 cs (pc.length:Int)=x:=by rw [hc]; exact A1y pc x rc
  have g2:B9 0 vs (pc.length:Int)=u:=by rw [hv,hpl]; exact A1y pv u rv'
  have st:T2 (out++y::z') (pc.length:Int) (x,(u,()))=(out++[(x,(u,()))])++z':=by rw [← ho]; exact B8b out y _ z'
  have hol:(out++y::z').length=pc.length+1+z'.length:=by simp; omega
  have e:=ih rv' (pc++[x]) (pv++[u]) (out++[(x,(u,()))]) z' (by rw [hc]; simp) (by rw [hv]; simp) (by simp [hpl]) (by simp [ho]) (by omega) N (by omega)
  have hpc:(((pc++[x]).length:Nat):Int)=(pc.length:Int)+1:=by simp
  rw [hpc] at e
  have hz2:out++[(x,(u,()))]++zp rc rv'=out++zp (x::rc) (u::rv'):=by simp [zp]
  rw [hz2] at e
  have x1:ltI (pc.length:Int) (cs.length:Int)=true:=by rw [B8]; omega
  have x2:inI (pc.length:Int) cs.length=true:=by rw [G9]; omega
  have x3:inI (pc.length:Int) vs.length=true:=by rw [G9]; omega
  have x4:inI (pc.length:Int) (out++y::z').length=true:=by rw [G9]; omega
  have xa:D5 .i64 (pc.length:Int) 1=(pc.length:Int)+1:=H4 (by omega)
  unfold I4
  simp only [x1,x2,x3,x4,cT,g1,g2,st,xa]
  exact e
theorem C3n(F:Nat)(b:List Int)(at_ T:Int):Z5 F b at_ T=some (decide (0≤at_∧at_≤b.length∧0≤T∧T≤4096),()):=by
 unfold Z5 leI C7
 by_cases c1:0≤at_ <;> by_cases c2:at_≤b.length <;> by_cases c3:0≤T <;> by_cases c4:T≤4096 <;> simp [c1,c2,c3,c4]
theorem A2l(n:Nat):(I7 (n:Int) ((0,(0,())):Smp)).length=n:=by simp [I7]
theorem C3o(F:Nat)(hF:H8 F){c v:List Int}(hf:A27 4096 c=true)(hn:c.length≤4096)(hv:Sg v)(hcv:c.length=v.length){b rest:List Int}(hb:Bt b)(hr:Bt rest)(hl:((b++(hd c v++rest)).length:Int)≤140737488355328) :
  Z5 F (b++(hd c v++rest)) (b.length:Int) (A2a c)=some (true,()) ∧
  (∃ a a2,A17 F (b++(hd c v++rest)) (b.length:Int) (A2a c)=some ((c.length:Int),a,0,()) ∧
   A18 F (b++(hd c v++rest)) a (c.length:Int) (A2a c)=some (c,A2a c,a2,0,()) ∧
   X7 F (b++(hd c v++rest)) a2 (c.length:Int)=some (v,(b.length:Int)+(hd c v).length,0,())):=by
 obtain ⟨s1,s2⟩:=A5I hf (by omega)
 have hw:=B89 hf (by omega)
 have hsN:=A1b hw (by rw [N0]; omega)
 obtain ⟨q1,q2,q3⟩:=A7g hv (by omega)
 have hlen:(b++(hd c v++rest)).length=b.length+((hd c v).length+rest.length):=by simp
 have hhd:(hd c v).length=(enc c.length).length+(nE (lss c)).length+(rE v).length:=by unfold hd; simp only [List.length_append]
 have h10:=X0 (v:=c.length) (by omega)
 refine ⟨?_,(b.length:Int)+(enc c.length).length,(b.length:Int)+(enc c.length).length+(nE (lss c)).length,?_,?_,?_⟩
 ·rw [C3n,decide_eq_true (by omega)]
 ·have e1:b++(hd c v++rest)=b++(enc c.length++(nE (lss c)++rE v++rest)):=by unfold hd; simp only [List.append_assoc]
  have hr1:=C2X (v:=c.length) (by omega) b (nE (lss c)++rE v++rest)
  have v1:=A2t F hF (b:=b++(hd c v++rest)) (hb.append (Bt.append (B24 hf hn hv (by omega)).2 hr)) hl (b.length:Int)
  rw [e1] at v1 ⊢
  rw [hr1] at v1
  have hwT:IntKind.u64.wrap (A2a c)=A2a c:=F5 (by omega)
  have y1:ltI (A2a c) (c.length:Int)=false:=by rw [← Bool.not_eq_true,B8]; omega
  have hwn:IntKind.i64.wrap (c.length:Int)=(c.length:Int):=Q6 (by omega)
  unfold A17
  simp only [v1,bS,show eqI (0:Int) 0=true from rfl,Bool.not_true,cF,hwT,y1,hwn]
 ·have e2:b++(hd c v++rest)=(b++enc c.length)++(nE (lss c)++(rE v++rest)):=by unfold hd; simp only [List.append_assoc]
  have hB:=A3Y F hF hw (by rw [N0]; omega) (b:=b++enc c.length) (rest:=rE v++rest) (hb.append (A6F _)) (q3.append hr) (by rw [← e2]; exact hl)
  rw [← e2,N0,show(((b++enc c.length).length:Nat):Int)=(b.length:Int)+(enc c.length).length by simp] at hB
  have hmk:Y8 (c.length:Int) (c.length:Int) 8=true:=by rw [V4]; omega
  have hrun:=B8a hf
  have hm:=C3k (T:=A2a c) hw hrun (by omega)
  have hst:=(C3j (T:=A2a c) (by omega) (lss c) 0 hw (by omega) (by omega)).2 (by rw [Int.sub_zero]; exact hrun)
  unfold A18
  simp only [hB,bS,show eqI (0:Int) 0=true from rfl,Bool.not_true,cF,hmk,cT]
  have L:=B5I F (fun z17 z18 z19=>some (z18,(z19,(z17,((0:Int),()))))) (T:=A2a c) (by omega) ((b.length:Int)+(enc c.length).length+(nE (lss c)).length) hw (by rw [N0]; omega) (lss c) [] [] (I7 (c.length:Int) 0) 0 rfl rfl (by rw [A0p,N0]) (by omega) F (by unfold H8 at hF; rw [N0]; omega)
  rw [N0,hm,hst,C3e] at L
  rw [show C7 (lss c)=(c.length:Int) by unfold C7; rw [N0]]
  exact L
 ·have e3:b++(hd c v++rest)=(b++enc c.length++nE (lss c))++(rE v++rest):=by unfold hd; simp only [List.append_assoc]
  have hB:=B4o F hF hv (by omega) (b:=b++enc c.length++nE (lss c)) (rest:=rest) ((hb.append (A6F _)).append (B9t hw)) hr (by rw [← e3]; exact hl)
  rw [← e3,← hcv,show(((b++enc c.length++nE (lss c)).length:Nat):Int)=(b.length:Int)+(enc c.length).length+(nE (lss c)).length by simp only [List.length_append]; omega] at hB
  rw [hB,hhd]
  simp only [Option.some.injEq,Prod.mk.injEq,and_true,true_and]
  omega
theorem B4q(F:Nat)(hF:H8 F){l:List Smp}(h:A01 l)(hf:A27 4096 (cn l)=true)(hn:l.length≤4096){b rest:List Int}(hb:Bt b)(hr:Bt rest)(hl:((b++(hd (cn l) (vl l)++rest)).length:Int)≤140737488355328) :
  A08 F (b++(hd (cn l) (vl l)++rest)) (b.length:Int) (A2a (cn l))=some (l,(b.length:Int)+(hd (cn l) (vl l)).length,0,()):=by
 have hcv:(cn l).length=(vl l).length:=by rw [P8,A02]
 obtain ⟨p1,a,a2,p2,p3,p4⟩:=C3o F hF hf (by rw [P8]; exact hn) (B9A h) hcv hb hr hl
 have y1:eqI (A2a (cn l)) (A2a (cn l))=true:=by rw [D1]
 have hcl:=P8 l
 have x1:Y8 ((cn l).length:Int) ((cn l).length:Int) 16=true:=by rw [V4]; omega
 have hrl:C7 (I7 ((cn l).length:Int) ((0,(0,())):Smp))=((cn l).length:Int):=by unfold C7; rw [A2l]
 unfold A08
 simp only [p1,p2,p3,p4,bS,Bool.not_true,cF,show eqI (0:Int) 0=true from rfl,y1,x1,cT,hrl]
 have L:=C3m F (fun z17 z18=>some (z18,(z17,((0:Int),())))) ((b.length:Int)+(hd (cn l) (vl l)).length) (by omega) hcv (cn l) (vl l) [] [] [] (I7 ((cn l).length:Int) ((0,(0,())):Smp)) rfl rfl rfl rfl (by rw [A2l]) F (by unfold H8 at hF; omega)
 rw [C3l] at L
 exact L
def Sz(v s:Nat):Prop:=v < 2 ^ s∧(v=0→s=0)∧(0 < v→1≤s∧2 ^ (s - 1)≤v)
theorem p64(k:Nat):(18446744073709551616:Nat) ^ k=2 ^ (64*k):=by rw [show(18446744073709551616:Nat)=2 ^ 64 from rfl,← Nat.pow_mul]
theorem C3p:Sz 0 0:=⟨by omega,fun _=>rfl,fun h=>by omega⟩
theorem C3q{lo t s k:Nat}(hlo:lo < 2 ^ k)(ht:0 < t)(h:Sz t s):Sz (lo+2 ^ k*t) (k+s):=by
 obtain ⟨h1,_,h3⟩:=h
 obtain ⟨h4,h5⟩:=h3 ht
 have hk:0 < 2 ^ k:=Nat.pow_pos (by omega)
 refine ⟨?_,fun h=>?_,fun _=>⟨by omega,?_⟩⟩
 ·rw [Nat.pow_add]
  have:2 ^ k*(t+1)≤2 ^ k*2 ^ s:=Nat.mul_le_mul_left _ h1
  rw [Nat.mul_add] at this
  omega
 ·have:0 < 2 ^ k*t:=Nat.mul_pos hk ht
  omega
 ·rw [show k+s - 1=k+(s - 1) by omega,Nat.pow_add]
  have:2 ^ k*2 ^ (s - 1)≤2 ^ k*t:=Nat.mul_le_mul_left _ h5
  omega
theorem A8z{x:Int}(hx:0≤x∧x≤18446744073709551615):Sz x.toNat (Lib.bitLen x.toNat)∧Lib.bitLen x.toNat≤64:=by
 refine ⟨?_,Lib.bitLen_le _ 64 (by omega) (by omega)⟩
 unfold Lib.bitLen
 by_cases h:x.toNat=0
 ·rw [h,Lib.bitLenAux_zero]; exact C3p
 ·have:=Lib.bitLenAux_bounds 64 x.toNat (by omega) h
  exact ⟨this.2.2,fun h0=>absurd h0 h,fun _=>⟨this.1,this.2.1⟩⟩
theorem C5n(F:Nat){x:Int}(hx:0≤x∧x≤18446744073709551615):O4 F x=some ((Lib.bitLen x.toNat:Int),()):=by
 have:(leI 0 x && leI x 18446744073709551615)=true:=by simp only [Bool.and_eq_true,H7]; omega
 simp only [O4,this,cT]
theorem D44{a b s t:Nat}(ha:Sz a s)(hb:Sz b t)(h0:0 < b)(h:t≤s):a < b*2 ^ (s - t+1)∧b*2 ^ (s - t) < 2 ^ s:=by
 obtain ⟨h1,_,_⟩:=ha
 obtain ⟨h2,_,h3⟩:=hb
 obtain ⟨h4,h5⟩:=h3 h0
 constructor
 ·have:2 ^ (t - 1)*2 ^ (s - t+1)≤b*2 ^ (s - t+1):=Nat.mul_le_mul_right _ h5
  rw [← Nat.pow_add,show t - 1+(s - t+1)=s by omega] at this
  omega
 ·have:b*2 ^ (s - t) < 2 ^ t*2 ^ (s - t):=Nat.mul_lt_mul_of_pos_right h2 (Nat.pow_pos (by omega))
  rw [← Nat.pow_add,show t+(s - t)=s by omega] at this
  exact this
theorem D0o{a b s t:Nat}(ha:Sz a s)(hb:Sz b t)(h:s < t):a < b:=by
 obtain ⟨h1,_,_⟩:=ha
 obtain ⟨h2,h3,h4⟩:=hb
 have h0:0 < b:=by
  rcases Nat.eq_zero_or_pos b with h | h
  ·have:=h3 h; omega
  ·exact h
 obtain ⟨h5,h6⟩:=h4 h0
 have:2 ^ s≤2 ^ (t - 1):=Nat.pow_le_pow_right (by omega) (by omega)
 omega
structure Dv (a b m r d Q:Nat):Prop where
 hd:d=b*2 ^ m / 2
 hr:r < b*2 ^ m
 he:Q*b+r=a
 hQ:Q % 2 ^ m=0
theorem Dv.start{a b n:Nat}(h:a < b*2 ^ (n+1)):Dv a b (n+1) a (b*2 ^ n) 0 :=
 ⟨by rw [Nat.pow_succ,← Nat.mul_assoc]; omega,h,by omega,by simp⟩
theorem Dv.done{a b r d Q:Nat}(h:Dv a b 0 r d Q):Q=a / b∧r=a % b:=by
 obtain ⟨_,hr,he,_⟩:=h
 rw [Nat.pow_zero,Nat.mul_one] at hr
 have hb:0 < b:=by omega
 rw [← he]
 constructor
 ·rw [Nat.mul_comm,Nat.mul_add_div hb,Nat.div_eq_of_lt hr]; rfl
 ·rw [Nat.mul_comm,Nat.mul_add_mod,Nat.mod_eq_of_lt hr]
theorem Dv.step{a b m r d Q:Nat}(h:Dv a b (m+1) r d Q):if d≤r then Dv a b m (r - d) (d / 2) (Q+2 ^ m) else Dv a b m r (d / 2) Q:=by
 obtain ⟨hd,hr,he,hQ⟩:=h
 have e1:b*2 ^ (m+1)=2*(b*2 ^ m):=by rw [Nat.pow_succ,← Nat.mul_assoc,Nat.mul_comm]
 rw [e1] at hd hr
 have hd:d=b*2 ^ m:=by omega
 have e2:Q % 2 ^ m=0:=by
  rw [Nat.pow_succ] at hQ
  have:=Nat.mod_mul_right_mod Q (2 ^ m) 2
  rw [hQ,Nat.zero_mod] at this
  exact this.symm
 split
 ·refine ⟨by rw [hd],by omega,?_,?_⟩
  ·rw [Nat.add_mul,Nat.mul_comm (2 ^ m) b,← hd]; omega
  ·rw [Nat.add_mod_right]; exact e2
 ·exact ⟨by rw [hd],by omega,he,e2⟩
theorem D45{w:Int}(hw:0≤w∧w≤18446744073709551615){i:Nat}(hi:i < 64)(h:w.toNat % 2 ^ (i+1)=0) :
  orI .u64 w (A2v .u64 1 (i:Int))=w+((2 ^ i:Nat):Int)∧w+((2 ^ i:Nat):Int)≤18446744073709551615:=by
 have hp:2 ^ i < 2 ^ 64:=Nat.pow_lt_pow_right (by omega) hi
 have hp0:0 < 2 ^ i:=Nat.pow_pos (by omega)
 rw [A2c (by omega) (by omega),Int.toNat_natCast,Nat.min_eq_left (by omega)]
 rw [show(1:Int).toNat*2 ^ i % 2 ^ 64=2 ^ i by rw [show(1:Int).toNat=1 from rfl,Nat.one_mul,Nat.mod_eq_of_lt hp]]
 rw [A3G hw (by omega),Int.toNat_natCast]
 obtain ⟨c,hc⟩:=Nat.dvd_of_mod_eq_zero h
 have hlt:2 ^ i < 2 ^ (i+1):=by rw [Nat.pow_succ]; omega
 have e:=Nat.two_pow_add_eq_or_of_lt hlt c
 rw [← hc] at e
 rw [← e]
 refine ⟨by omega,?_⟩
 have h64:(2:Nat) ^ 64=2 ^ (i+1)*2 ^ (64 - (i+1)):=by rw [← Nat.pow_add]; congr 1; omega
 have hw2:w.toNat < 2 ^ 64:=by omega
 rw [hc,h64] at hw2
 have hc2:c < 2 ^ (64 - (i+1)):=Nat.lt_of_mul_lt_mul_left hw2
 have:2 ^ (i+1)*(c+1)≤2 ^ (i+1)*2 ^ (64 - (i+1)):=Nat.mul_le_mul_left _ hc2
 rw [← h64,Nat.mul_add] at this
 omega
def C5o(l:List Int)(i:Nat):List Int:=T2 l ((i / 64:Nat):Int) (orI .u64 (B9 0 l ((i / 64:Nat):Int)) (A2v .u64 1 ((i % 64:Nat):Int)))
theorem C3r:∀ {l:List Int} {i:Nat},Wd l→i / 64 < l.length→wv l % 2 ^ (i+1)=0→Wd (C5o l i)∧(C5o l i).length=l.length∧wv (C5o l i)=wv l+2 ^ i
 | [],i,_,h,_=>by simp at h
 | x::t,i,hw,hl,hm=>by
  have hx:=Wd.head hw
  by_cases hi:i < 64
  ·have e0:i / 64=0:=by omega
   have e1:i % 64=i:=by omega
   have hp:2 ^ (i+1) ∣ 18446744073709551616:=by
    rw [show(18446744073709551616:Nat)=2 ^ 64 from rfl]; exact Nat.pow_dvd_pow 2 (by omega)
   have hxm:x.toNat % 2 ^ (i+1)=0:=by
    simp only [wv] at hm
    obtain ⟨c,hc⟩:=hp
    rw [hc,Nat.mul_assoc,Nat.add_mul_mod_self_left] at hm
    exact hm
   obtain ⟨h1,h2⟩:=D45 hx hi hxm
   have hp0:0 < 2 ^ i:=Nat.pow_pos (by omega)
   have es:C5o (x::t) i=(x+((2 ^ i:Nat):Int))::t:=by
    unfold C5o
    rw [e0,e1,show B9 0 (x::t) ((0:Nat):Int)=x from rfl,h1]
    rfl
   rw [es]
   refine ⟨Wd.cons (by omega) (Wd.tail hw),rfl,?_⟩
   simp only [wv]
   omega
  ·obtain ⟨j,rfl⟩:∃ j,i=j+64:=⟨i - 64,by omega⟩
   have e0:(j+64) / 64=j / 64+1:=by omega
   have e1:(j+64) % 64=j % 64:=by omega
   have e2:(2:Nat) ^ (j+64+1)=18446744073709551616*2 ^ (j+1):=by
    rw [show j+64+1=64+(j+1) by omega,Nat.pow_add]
   have e3:(2:Nat) ^ (j+64)=18446744073709551616*2 ^ j:=by
    rw [Nat.add_comm,Nat.pow_add]
   simp only [wv] at hm
   rw [e2,Nat.mod_mul] at hm
   have hb:(x.toNat+18446744073709551616*wv t) / 18446744073709551616=wv t:=by omega
   rw [hb] at hm
   have hm:wv t % 2 ^ (j+1)=0:=by omega
   obtain ⟨h1,h2,h3⟩:=C3r (l:=t) (i:=j) (Wd.tail hw) (by simp at hl; omega) hm
   have es:C5o (x::t) (j+64)=x::C5o t j:=by
    unfold C5o
    rw [e0,e1]
    simp only [T2,B9,Int.toNat_natCast,List.set_cons_succ,List.getD_cons_succ]
   rw [es]
   refine ⟨Wd.cons hx h1,by simp [h2],?_⟩
   simp only [wv,h3,e3]
   omega
theorem C7h{x:Int}(hx:0≤x∧x≤18446744073709551615){r c:Nat}(hr:r < 64)(hc:c < 2 ^ r) :
  orI .u64 (c:Int) (A2v .u64 x (r:Int))=((c+x.toNat*2 ^ r % 18446744073709551616:Nat):Int)∧c+x.toNat*2 ^ r % 18446744073709551616 < 18446744073709551616:=by
 have h64:(18446744073709551616:Nat)=2 ^ r*2 ^ (64 - r):=by rw [← Nat.pow_add,show r+(64 - r)=64 by omega]
 have hm:x.toNat*2 ^ r % 18446744073709551616=2 ^ r*(x.toNat % 2 ^ (64 - r)):=by
  rw [h64,Nat.mul_comm x.toNat,Nat.mul_mod_mul_left]
 have hp:2 ^ r < 2 ^ 64:=Nat.pow_lt_pow_right (by omega) hr
 have hlt:x.toNat % 2 ^ (64 - r) < 2 ^ (64 - r):=Nat.mod_lt _ (Nat.pow_pos (by omega))
 have hsum:c+x.toNat*2 ^ r % 18446744073709551616 < 18446744073709551616:=by
  rw [hm]
  have:2 ^ r*(x.toNat % 2 ^ (64 - r)+1)≤2 ^ r*2 ^ (64 - r):=Nat.mul_le_mul_left _ hlt
  rw [← h64,Nat.mul_add] at this
  omega
 refine ⟨?_,hsum⟩
 rw [A2c hx.1 (by omega),Int.toNat_natCast,Nat.min_eq_left (by omega),show(2:Nat) ^ 64=18446744073709551616 from rfl]
 rw [A3G (by omega) (by omega),Int.toNat_natCast,Int.toNat_natCast,hm,Nat.or_comm,← Nat.two_pow_add_eq_or_of_lt hc]
 omega
theorem B8c{x:Int}(hx:0≤x∧x≤18446744073709551615){r:Nat}(hr:r < 64) :
  x.toNat*2 ^ r / 18446744073709551616 < 2 ^ r∧(0 < r→A0q .u64 x ((64 - r:Nat):Int)=((x.toNat*2 ^ r / 18446744073709551616:Nat):Int)):=by
 have h64:(18446744073709551616:Nat)=2 ^ (64 - r)*2 ^ r:=by rw [← Nat.pow_add,show 64 - r+r=64 by omega]
 have e:x.toNat*2 ^ r / 18446744073709551616=x.toNat / 2 ^ (64 - r):=by
  rw [h64,Nat.mul_div_mul_right _ _ (Nat.pow_pos (by omega))]
 rw [e]
 constructor
 ·rw [Nat.div_lt_iff_lt_mul (Nat.pow_pos (by omega)),Nat.mul_comm,← h64]
  omega
 ·intro h0
  rw [A2d hx.1,Int.toNat_natCast,Nat.min_eq_left (by show 64 - r≤64; omega)]
set_option maxHeartbeats 4000000 in
theorem C5p{s k:Nat}(h:s≤64*k):2 ^ s≤18446744073709551616 ^ k:=by
 rw [p64]
 exact Nat.pow_le_pow_right (by omega) h
theorem four{l:List Int}(hw:Wd l)(h:l.length=4):∃ a b c d:Int,l=[a,b,c,d]∧(0≤a∧a≤18446744073709551615)∧(0≤b∧b≤18446744073709551615)∧(0≤c∧c≤18446744073709551615)∧(0≤d∧d≤18446744073709551615):=by
 match l,h with
 | [a,b,c,d],_=>exact ⟨a,b,c,d,rfl,hw a (by simp),hw b (by simp),hw c (by simp),hw d (by simp)⟩
theorem wd4{a b c d:Int}(h0:0≤a∧a≤18446744073709551615)(h1:0≤b∧b≤18446744073709551615)(h2:0≤c∧c≤18446744073709551615)(h3:0≤d∧d≤18446744073709551615):Wd [a,b,c,d] :=
 Wd.cons h0 (Wd.cons h1 (Wd.cons h2 (Wd.one h3)))
theorem wv4(a b c d:Int):wv [a,b,c,d]=a.toNat+18446744073709551616*(b.toNat+18446744073709551616*(c.toNat+18446744073709551616*d.toNat)):=by
 simp only [wv]
 omega
theorem g0(a b c d:Int):B9 0 [a,b,c,d] 0=a:=rfl
theorem g1(a b c d:Int):B9 0 [a,b,c,d] 1=b:=rfl
theorem g2(a b c d:Int):B9 0 [a,b,c,d] 2=c:=rfl
theorem g3(a b c d:Int):B9 0 [a,b,c,d] 3=d:=rfl
theorem D8x(a b c d x:Int):T2 [a,b,c,d] 0 x=[x,b,c,d]:=rfl
theorem D4A(a b c d x:Int):T2 [a,b,c,d] 1 x=[a,x,c,d]:=rfl
theorem D46(a b c d x:Int):T2 [a,b,c,d] 2 x=[a,b,x,d]:=rfl
theorem D0F(a b c d x:Int):T2 [a,b,c,d] 3 x=[a,b,c,x]:=rfl
theorem l4(a b c d:Int):(([a,b,c,d]:List Int).length:Int)=4:=rfl
def D8y(x y:Int):Int:=if x < y then -1 else if y < x then 1 else 0
theorem C5q(F:Nat)(x y:Int):I1 F x y=some (D8y x y,()):=by
 unfold I1 A07 D8y
 simp (disch:=omega) only [bs,↓iP,↓iN]
 split <;> (try split) <;> rfl
theorem B25(F:Nat){R:Type}(k0 kr:Int→Option R)(l:List Int){i:Int}(hi:0≤i)(h:i < (l.length:Int))(hm:(l.length:Int)≤1000)(N:Nat) :
  P2 F k0 kr (N+1) 0 l (l.length:Int) i=if B9 0 l i=0 then P2 F k0 kr N 0 l (l.length:Int) (i+1) else kr (B9 0 l i):=by
 rw [P2]
 simp (disch:=omega) only [bs,↓iP,↓iN]
 by_cases hz:B9 0 l i=0
 ·rw [iP hz]; simp (disch:=omega) only [bs,↓iP,↓iN]
 ·rw [iN hz]; simp (disch:=omega) only [bs,↓iP,↓iN]
theorem D8z(F:Nat)(hF:H8 F)(p q r s:Int):A4o F [p,q,r,s]=some (if p=0 then(if q=0 then(if r=0 then s else r) else q) else p,()):=by
 unfold H8 at hF
 obtain ⟨N,hN⟩:∃ N,F=N+1+1+1+1+1:=⟨F - 5,by omega⟩
 unfold A4o
 have key:∀ M,M=N+1+1+1+1+1→P2 F (fun z6=>some (z6,())) (fun z7=>some (z7,())) M 0 [p,q,r,s] (([p,q,r,s]:List Int).length:Int) 0=some (if p=0 then(if q=0 then(if r=0 then s else r) else q) else p,()):=by
  intro M hM
  subst hM
  rw [B25 F _ _ _ (by omega) (by rw [l4]; omega) (by rw [l4]; omega),g0]
  split
  ·rw [show(0:Int)+1=1 from rfl,B25 F _ _ _ (by omega) (by rw [l4]; omega) (by rw [l4]; omega),g1]
   split
   ·rw [show(1:Int)+1=2 from rfl,B25 F _ _ _ (by omega) (by rw [l4]; omega) (by rw [l4]; omega),g2]
    split
    ·rw [show(2:Int)+1=3 from rfl,B25 F _ _ _ (by omega) (by rw [l4]; omega) (by rw [l4]; omega),g3]
     split
     ·rename_i h
      rw [show(3:Int)+1=4 from rfl,P2,l4,h]
      simp (disch:=omega) only [bs,↓iP,↓iN]
     ·rfl
    ·rfl
   ·rfl
  ·rfl
 exact key F hN
theorem A41(F:Nat)(hF:H8 F){l m:List Int}(hl:Wd l)(hm:Wd m)(h4:l.length=4)(h5:m.length=4):X5 F l m=some (D0E (wv l) (wv m),()):=by
 obtain ⟨a,b,c,d,rfl,ha,hb,hc,hd⟩:=four hl h4
 obtain ⟨a',b',c',d',rfl,ha',hb',hc',hd'⟩:=four hm h5
 unfold X5
 simp only [g0,g1,g2,g3,C5q,bS,D8z F hF,wv4]
 congr 2
 unfold D8y D0E
 rcases Int.lt_trichotomy d d' with h | h | h
 ·rw [iN (by rw [iP h]; omega),iP h,iP (by omega)]
 ·rw [iP (by rw [iN (by omega),iN (by omega)])]
  subst h
  rcases Int.lt_trichotomy c c' with h | h | h
  ·rw [iN (by rw [iP h]; omega),iP h,iP (by omega)]
  ·rw [iP (by rw [iN (by omega),iN (by omega)])]
   subst h
   rcases Int.lt_trichotomy b b' with h | h | h
   ·rw [iN (by rw [iP h]; omega),iP h,iP (by omega)]
   ·rw [iP (by rw [iN (by omega),iN (by omega)])]
    subst h
    split <;> (try split) <;> (try split) <;> (try split) <;> omega
   ·rw [iN (by rw [iN (by omega),iP h]; omega),iN (by omega),iP h,iN (by omega),iP (by omega)]
  ·rw [iN (by rw [iN (by omega),iP h]; omega),iN (by omega),iP h,iN (by omega),iP (by omega)]
 ·rw [iN (by rw [iN (by omega),iP h]; omega),iN (by omega),iP h,iN (by omega),iP (by omega)]
theorem C5r(F:Nat){x y c:Int}(hx:0≤x)(hy:0≤y∧y≤18446744073709551615)(hc:0≤c∧c≤1) :
  A1N F x y c=some ((x - y - c) % 18446744073709551616,if x < y+c then 1 else 0,()):=by
 unfold A1N
 have hcond:(leI 0 x && leI 0 y && leI y 18446744073709551615 && leI 0 c && leI c 1)=true:=by simp only [Bool.and_eq_true,H7]; omega
 rw [hcond,cT]
theorem A7h(F:Nat){R:Type}(k:List Int→Option R)(l m o:List Int){i c:Int}(hi:0≤i∧i < 4)(hx:0≤B9 0 l i)(hy:0≤B9 0 m i∧B9 0 m i≤18446744073709551615)(hc:0≤c∧c≤1)(N:Nat) :
  X6 F k (N+1) l m o c i=X6 F k N l m (T2 o i ((B9 0 l i - B9 0 m i - c) % 18446744073709551616)) (if B9 0 l i < B9 0 m i+c then 1 else 0) (i+1):=by
 rw [X6]
 simp (disch:=omega) only [bs,↓iP,↓iN,C5r F hx hy hc]
theorem A6G(x:Int):0≤x % 18446744073709551616∧x % 18446744073709551616≤18446744073709551615:=by omega
theorem D47{a b c d:Int}(h0:0≤a∧a≤18446744073709551615)(h1:0≤b∧b≤18446744073709551615)(h2:0≤c∧c≤18446744073709551615)(h3:0≤d∧d≤18446744073709551615) :
  ((wv [a,b,c,d]:Nat):Int)=a+18446744073709551616*b+340282366920938463463374607431768211456*c+6277101735386680763835789423207666416102355444464034512896*d:=by
 rw [wv4]; omega
theorem D0p{a b c d a' b' c' d' r1 r2 r3 r4 c1 c2 c3 c4:Int}(k1:r1=a - a'+18446744073709551616*c1)(k2:r2=b - b' - c1+18446744073709551616*c2)(k3:r3=c - c' - c2+18446744073709551616*c3)(k4:r4=d - d' - c3+18446744073709551616*c4)
  (h1:0≤r1∧r1≤18446744073709551615) (h2:0≤r2∧r2≤18446744073709551615) (h3:0≤r3∧r3≤18446744073709551615) (h4:0≤r4∧r4≤18446744073709551615) (b4:0≤c4∧c4≤1)
  (hV:a'+18446744073709551616*b'+340282366920938463463374607431768211456*c'+6277101735386680763835789423207666416102355444464034512896*d'≤a+18446744073709551616*b+340282366920938463463374607431768211456*c+6277101735386680763835789423207666416102355444464034512896*d) :
  r1+18446744073709551616*r2+340282366920938463463374607431768211456*r3+6277101735386680763835789423207666416102355444464034512896*r4=(a+18446744073709551616*b+340282366920938463463374607431768211456*c+6277101735386680763835789423207666416102355444464034512896*d) - (a'+18446744073709551616*b'+340282366920938463463374607431768211456*c'+6277101735386680763835789423207666416102355444464034512896*d'):=by
 have hs:r1+18446744073709551616*r2+340282366920938463463374607431768211456*r3+6277101735386680763835789423207666416102355444464034512896*r4=(a+18446744073709551616*b+340282366920938463463374607431768211456*c+6277101735386680763835789423207666416102355444464034512896*d) - (a'+18446744073709551616*b'+340282366920938463463374607431768211456*c'+6277101735386680763835789423207666416102355444464034512896*d')+115792089237316195423570985008687907853269984665640564039457584007913129639936*c4:=by
  clear h1 h2 h3 h4 b4 hV
  omega
 have hb:r1+18446744073709551616*r2+340282366920938463463374607431768211456*r3+6277101735386680763835789423207666416102355444464034512896*r4 < 115792089237316195423570985008687907853269984665640564039457584007913129639936:=by
  clear k1 k2 k3 k4 hV hs
  omega
 clear k1 k2 k3 k4 h1 h2 h3 h4
 generalize a+18446744073709551616*b+340282366920938463463374607431768211456*c+6277101735386680763835789423207666416102355444464034512896*d=V at *
 generalize a'+18446744073709551616*b'+340282366920938463463374607431768211456*c'+6277101735386680763835789423207666416102355444464034512896*d'=V' at *
 generalize r1+18446744073709551616*r2+340282366920938463463374607431768211456*r3+6277101735386680763835789423207666416102355444464034512896*r4=R at *
 omega
theorem B5J(p:Prop)[Decidable p]:0≤(if p then(1:Int) else 0)∧(if p then(1:Int) else 0)≤1:=by split <;> omega
theorem A3g(F:Nat)(hF:H8 F){l m:List Int}(hl:Wd l)(hm:Wd m)(h4:l.length=4)(h5:m.length=4)(h:wv m≤wv l):A38 F l m=some (A4I (wv l - wv m),()):=by
 obtain ⟨a,b,c,d,rfl,ha,hb,hc,hd⟩:=four hl h4
 obtain ⟨a',b',c',d',rfl,ha',hb',hc',hd'⟩:=four hm h5
 unfold H8 at hF
 obtain ⟨N,hN⟩:∃ N,F=N+1+1+1+1+1:=⟨F - 5,by omega⟩
 unfold A38
 have key:∀ M,M=N+1+1+1+1+1→X6 F (fun z7=>some (z7,())) M [a,b,c,d] [a',b',c',d'] [0,0,0,0] 0 0=some (A4I (wv [a,b,c,d] - wv [a',b',c',d']),()):=by
  intro M hM
  subst hM
  rw [A7h F _ _ _ _ (by omega) (by rw [g0]; omega) (by rw [g0]; omega) (by omega)]
  rw [g0,g0,D8x,show(0:Int)+1=1 from rfl]
  rw [A7h F _ _ _ _ (by omega) (by rw [g1]; omega) (by rw [g1]; omega) (B5J _)]
  rw [g1,g1,D4A,show(1:Int)+1=2 from rfl]
  generalize hc1:(if a < a'+0 then(1:Int) else 0)=c1
  rw [A7h F _ _ _ _ (by omega) (by rw [g2]; omega) (by rw [g2]; omega) (B5J _)]
  rw [g2,g2,D46,show(2:Int)+1=3 from rfl]
  generalize hc2:(if b < b'+c1 then(1:Int) else 0)=c2
  rw [A7h F _ _ _ _ (by omega) (by rw [g3]; omega) (by rw [g3]; omega) (B5J _)]
  rw [g3,g3,D0F,show(3:Int)+1=4 from rfl]
  generalize hc3:(if c < c'+c2 then(1:Int) else 0)=c3
  generalize hc4:(if d < d'+c3 then(1:Int) else 0)=c4
  rw [X6]
  simp (disch:=omega) only [bs,↓iP,↓iN]
  have b1:0≤c1∧c1≤1:=by rw [← hc1]; exact B5J _
  have b2:0≤c2∧c2≤1:=by rw [← hc2]; exact B5J _
  have b3:0≤c3∧c3≤1:=by rw [← hc3]; exact B5J _
  have b4:0≤c4∧c4≤1:=by rw [← hc4]; exact B5J _
  congr 2
  refine B01 ?_ (T1 _) ?_ ?_
  ·exact wd4 (by omega) (by omega) (by omega) (by omega)
  ·rw [F3]
   ·rfl
   ·have:=C2V hl
    rw [h4] at this
    show _ < 18446744073709551616 ^ 4
    omega
  ·rw [Q3]
   have k1:(a - a' - 0) % 18446744073709551616=a - a'+18446744073709551616*c1:=by rw [← hc1]; clear hc1 hc2 hc3 hc4 h; split <;> omega
   have k2:(b - b' - c1) % 18446744073709551616=b - b' - c1+18446744073709551616*c2:=by rw [← hc2]; clear hc1 hc2 hc3 hc4 h; split <;> omega
   have k3:(c - c' - c2) % 18446744073709551616=c - c' - c2+18446744073709551616*c3:=by rw [← hc3]; clear hc1 hc2 hc3 hc4 h; split <;> omega
   have k4:(d - d' - c3) % 18446744073709551616=d - d' - c3+18446744073709551616*c4:=by rw [← hc4]; clear hc1 hc2 hc3 hc4 h; split <;> omega
   have hV:(wv [a',b',c',d']:Int)≤(wv [a,b,c,d]:Int):=by omega
   have e:=D0p k1 k2 k3 k4 (A6G _) (A6G _) (A6G _) (A6G _) b4 (by rw [← D47 ha hb hc hd,← D47 ha' hb' hc' hd']; exact hV)
   rw [← D47 ha hb hc hd,← D47 ha' hb' hc' hd',← D47 (A6G _) (A6G _) (A6G _) (A6G _)] at e
   omega
 exact key F hN
theorem A5J(F:Nat){R:Type}(k:List Int→Option R)(l o:List Int){i:Int}(hi:0≤i∧i < 4)(hx:Wd l)(N:Nat)(ho:o.length=4) :
  K1 F k (N+1) l o i=K1 F k N l (T2 o i (if i < 3 then B9 0 l i / 2+B9 0 l (i+1) % 2*9223372036854775808 else B9 0 l i / 2)) (i+1):=by
 rw [K1]
 have h1:=hx.get i
 have h2:=hx.get (i+1)
 have hs:∀ x y:Int,T2 (T2 o i x) i y=T2 o i y:=fun x y=>by simp [T2]
 have hg:∀ x:Int,B9 0 (T2 o i x) i=x:=by
  intro x
  have:i.toNat < o.length:=by omega
  simp [T2,B9,this]
 by_cases h3:i < 3
 ·rw [iP h3]
  simp (disch:=omega) only [bs,↓iP,↓iN,hs,hg,C2W]
 ·rw [iN h3]
  simp (disch:=omega) only [bs,↓iP,↓iN,D8p]
theorem A4J(F:Nat)(hF:H8 F){l:List Int}(hl:Wd l)(h4:l.length=4):A1X F l=some (A4I (wv l / 2),()):=by
 have hlt:=C2V hl
 rw [h4] at hlt
 obtain ⟨a,b,c,d,rfl,ha,hb,hc,hd⟩:=four hl h4
 unfold H8 at hF
 obtain ⟨N,hN⟩:∃ N,F=N+1+1+1+1+1:=⟨F - 5,by omega⟩
 unfold A1X
 have key:∀ M,M=N+1+1+1+1+1→K1 F (fun z14=>some (z14,())) M [a,b,c,d] [0,0,0,0] 0=some (A4I (wv [a,b,c,d] / 2),()):=by
  intro M hM
  subst hM
  rw [A5J F _ _ _ (by omega) hl _ rfl,show(0:Int)+1=1 from rfl,iP (by omega),g0,g1,D8x]
  rw [A5J F _ _ _ (by omega) hl _ rfl,show(1:Int)+1=2 from rfl,iP (by omega),g1,g2,D4A]
  rw [A5J F _ _ _ (by omega) hl _ rfl,show(2:Int)+1=3 from rfl,iP (by omega),g2,g3,D46]
  rw [A5J F _ _ _ (by omega) hl _ rfl,show(3:Int)+1=4 from rfl,iN (by omega),g3,D0F]
  rw [K1]
  simp (disch:=omega) only [bs,↓iP,↓iN]
  congr 2
  refine B01 ?_ (T1 _) ?_ ?_
  ·exact wd4 (by omega) (by omega) (by omega) (by omega)
  ·rw [F3]
   ·rfl
   ·show _ < 18446744073709551616 ^ 4
    omega
  ·rw [Q3,wv4,wv4]
   omega
 exact key F hN
theorem A3h(F:Nat){R:Type}(k0:Option R)(kr:Int→Option R)(l:List Int){i:Int}(hi:0≤i∧i < 4)(hx:Wd l)(N:Nat) :
  L5 F k0 kr (N+1) l i=if B9 0 l i=0 then L5 F k0 kr N l (i - 1) else kr (64*i+(Lib.bitLen (B9 0 l i).toNat:Int)):=by
 rw [L5]
 have h1:=hx.get i
 have h2:=(A8z h1).2
 by_cases hz:B9 0 l i=0
 ·rw [iP hz]; simp (disch:=omega) only [bs,↓iP,↓iN]
 ·rw [iN hz]; simp (disch:=omega) only [bs,↓iP,↓iN,C5n F h1]
theorem A4K(F:Nat)(hF:H8 F){l:List Int}(hl:Wd l)(h4:l.length=4):∃ s:Nat,Sz (wv l) s∧s≤256∧A1W F l=some ((s:Int),()):=by
 obtain ⟨a,b,c,d,rfl,ha,hb,hc,hd⟩:=four hl h4
 unfold H8 at hF
 obtain ⟨N,hN⟩:∃ N,F=N+1+1+1+1+1:=⟨F - 5,by omega⟩
 unfold A1W
 have key:∀ M,M=N+1+1+1+1+1→∃ s:Nat,Sz (wv [a,b,c,d]) s∧s≤256∧L5 F (some (0,())) (fun z9=>some (z9,())) M [a,b,c,d] 3=some ((s:Int),()):=by
  intro M hM
  subst hM
  rw [A3h F _ _ _ (by omega) hl,g3,show(3:Int) - 1=2 from rfl]
  by_cases h3:d=0
  ·rw [iP h3,A3h F _ _ _ (by omega) hl,g2,show(2:Int) - 1=1 from rfl]
   by_cases h2:c=0
   ·rw [iP h2,A3h F _ _ _ (by omega) hl,g1,show(1:Int) - 1=0 from rfl]
    by_cases h1:b=0
    ·rw [iP h1,A3h F _ _ _ (by omega) hl,g0,show(0:Int) - 1=-1 from rfl]
     by_cases h0:a=0
     ·refine ⟨0,?_,by omega,?_⟩
      ·rw [wv4,h0,h1,h2,h3]; exact C3p
      ·rw [iP h0,L5]; simp (disch:=omega) only [bs,↓iP,↓iN]; rfl
     ·obtain ⟨z1,z2⟩:=A8z ha
      refine ⟨Lib.bitLen a.toNat,?_,by omega,?_⟩
      ·rw [wv4,h1,h2,h3]; simpa using z1
      ·rw [iN h0]; congr 2; omega
    ·obtain ⟨z1,z2⟩:=A8z hb
     refine ⟨64+Lib.bitLen b.toNat,?_,by omega,?_⟩
     ·rw [wv4,h2,h3]
      have:=C3q (lo:=a.toNat) (k:=64) (t:=b.toNat) (by omega) (by omega) z1
      simpa using this
     ·rw [iN h1]; congr 2
   ·obtain ⟨z1,z2⟩:=A8z hc
    refine ⟨128+Lib.bitLen c.toNat,?_,by omega,?_⟩
    ·rw [wv4,h3]
     have:=C3q (lo:=a.toNat+18446744073709551616*b.toNat) (k:=128) (t:=c.toNat) (by omega) (by omega) z1
     have e:a.toNat+18446744073709551616*(b.toNat+18446744073709551616*(c.toNat+18446744073709551616*(0:Int).toNat))=a.toNat+18446744073709551616*b.toNat+2 ^ 128*c.toNat:=by
      rw [show(0:Int).toNat=0 from rfl]; omega
     rw [e]; exact this
    ·rw [iN h2]; congr 2
  ·obtain ⟨z1,z2⟩:=A8z hd
   refine ⟨192+Lib.bitLen d.toNat,?_,by omega,?_⟩
   ·rw [wv4]
    have:=C3q (lo:=a.toNat+18446744073709551616*(b.toNat+18446744073709551616*c.toNat)) (k:=192) (t:=d.toNat) (by omega) (by omega) z1
    have e:a.toNat+18446744073709551616*(b.toNat+18446744073709551616*(c.toNat+18446744073709551616*d.toNat))=a.toNat+18446744073709551616*(b.toNat+18446744073709551616*c.toNat)+2 ^ 192*d.toNat:=by
     omega
    rw [e]; exact this
   ·rw [iN h3]; congr 2
 exact key F hN
def C3s(r:Nat)(x:Int):Nat:=x.toNat*2 ^ r % 18446744073709551616
def C3t(r:Nat)(x:Int):Nat:=x.toNat*2 ^ r / 18446744073709551616
theorem B8d(r:Nat)(x:Int):x.toNat*2 ^ r=C3s r x+18446744073709551616*C3t r x:=(Nat.mod_add_div _ _).symm
theorem C5s{x y:Int}(hx:0≤x∧x≤18446744073709551615)(hy:0≤y∧y≤18446744073709551615):orI .u64 x y=orI .u64 y x:=by
 rw [A3G hx hy,A3G hy hx,Nat.or_comm]
theorem A42(F:Nat){R:Type}(k:List Int→Option R)(l o:List Int){w r:Nat}{i:Int}(hw:(w:Int)≤i)(hi:i < 4)(hr:r < 64)(hl:Wd l)(ho:o.length=4)(N:Nat) :
  I6 F k (N+1) l o (w:Int) (r:Int) i=I6 F k N l (T2 o i ((if(w:Int) < i then C3s r (B9 0 l (i - w))+C3t r (B9 0 l (i - w - 1)) else C3s r (B9 0 l (i - w)):Nat):Int)) (w:Int) (r:Int) (i+1):=by
 have h1:=hl.get (i - w)
 have h2:=hl.get (i - w - 1)
 have hs:∀ x y:Int,T2 (T2 o i x) i y=T2 o i y:=fun x y=>by simp [T2]
 have hg:∀ x:Int,B9 0 (T2 o i x) i=x:=by
  intro x
  have:i.toNat < o.length:=by omega
  simp [T2,B9,this]
 obtain ⟨v1,v2⟩:=B8c h2 hr
 have hsh:A2v .u64 (B9 0 l (i - w)) (r:Int)=((C3s r (B9 0 l (i - w)):Nat):Int):=by
  rw [A2c h1.1 (by omega),Int.toNat_natCast,Nat.min_eq_left (by omega)]
  rfl
 have hb:C3s r (B9 0 l (i - w)) < 18446744073709551616:=Nat.mod_lt _ (by omega)
 rw [I6]
 unfold A2h
 by_cases h0:0 < r
 ·have hc:(64:Int) - (r:Int)=((64 - r:Nat):Int):=by omega
  have v3:=v2 h0
  by_cases h3:(w:Int) < i
  ·rw [iP h3]
   obtain ⟨o1,o2⟩:=C7h h1 hr v1
   have hb2:C3t r (B9 0 l (i - w - 1)) < 2 ^ r:=v1
   have h2r:2 ^ r < 2 ^ 64:=Nat.pow_lt_pow_right (by omega) hr
   have ho':orI .u64 ((C3s r (B9 0 l (i - w)):Nat):Int) ((C3t r (B9 0 l (i - w - 1)):Nat):Int)=((C3s r (B9 0 l (i - w))+C3t r (B9 0 l (i - w - 1)):Nat):Int):=by
    rw [C5s (by omega) (by omega),← hsh]
    refine Eq.trans o1 ?_
    unfold C3s C3t
    omega
   have v4:A0q .u64 (B9 0 l (i - w - 1)) ((64 - r:Nat):Int)=((C3t r (B9 0 l (i - w - 1)):Nat):Int):=v3
   simp (disch:=omega) only [bs,↓iP,↓iN,hs,hg,hsh,hc,v4,ho']
  ·rw [iN h3]
   simp (disch:=omega) only [bs,↓iP,↓iN,hs,hg,hsh]
 ·have hr0:r=0:=by omega
  subst hr0
  have hh:C3t 0 (B9 0 l (i - w - 1))=0:=by
   unfold C3t
   rw [Nat.pow_zero,Nat.mul_one]
   omega
  rw [hh]
  by_cases h3:(w:Int) < i
  ·rw [iP h3]
   simp (disch:=omega) only [bs,↓iP,↓iN,hs,hg,hsh]
   rfl
  ·rw [iN h3]
   simp (disch:=omega) only [bs,↓iP,↓iN,hs,hg,hsh]
theorem E1S(a b c d R:Nat):(a+18446744073709551616*(b+18446744073709551616*(c+18446744073709551616*d)))*R=a*R+18446744073709551616*(b*R+18446744073709551616*(c*R+18446744073709551616*(d*R))):=by
 simp only [Nat.add_mul,Nat.mul_add,Nat.mul_assoc]
theorem C5t(r:Nat)(x:Int):C3s r x < 18446744073709551616:=Nat.mod_lt _ (by omega)
theorem A6g{r:Nat}{x y:Int}(hx:0≤x∧x≤18446744073709551615)(hy:0≤y∧y≤18446744073709551615)(hr:r < 64):C3s r x+C3t r y < 18446744073709551616:=by
 have:=(C7h hx hr (B8c hy hr).1).2
 unfold C3s C3t
 omega
set_option maxHeartbeats 1000000 in
theorem B4r(F:Nat)(hF:H8 F){l:List Int}(hl:Wd l)(h4:l.length=4){n:Nat}(hn:n < 256)(h:wv l*2 ^ n < A1q):A5w F l (n:Int)=some (A4I (wv l*2 ^ n),()):=by
 have hq:A4L .i64 (n:Int) 64=((n / 64:Nat):Int):=by rw [B0v (by omega) (by omega) (by omega)]; omega
 have hm:A3j (n:Int) 64=((n % 64:Nat):Int):=by rw [B5i (by omega)]; omega
 obtain ⟨a,b,c,d,rfl,ha,hb,hc,hd⟩:=four hl h4
 unfold H8 at hF
 obtain ⟨N,hN⟩:∃ N,F=N+1+1+1+1+1:=⟨F - 5,by omega⟩
 unfold A5w
 rw [hq,hm]
 have hnn:n=64*(n / 64)+n % 64:=by omega
 have hr:n % 64 < 64:=by omega
 have hw:n / 64=0∨n / 64=1∨n / 64=2∨n / 64=3:=by omega
 generalize n % 64=r at *
 generalize n / 64=w at *
 have hval:wv [a,b,c,d]*2 ^ n=(a.toNat*2 ^ r+18446744073709551616*(b.toNat*2 ^ r+18446744073709551616*(c.toNat*2 ^ r+18446744073709551616*(d.toNat*2 ^ r))))*2 ^ (64*w):=by
  rw [hnn,Nat.add_comm (64*w),Nat.pow_add,← Nat.mul_assoc,wv4,E1S]
 rw [B8d r a,B8d r b,B8d r c,B8d r d] at hval
 have p0:=C5t r a
 have p1:=A6g hb ha hr
 have p2:=A6g hc hb hr
 have p3:=A6g hd hc hr
 have fin:∀ o:List Int,Wd o→o.length=4→wv o=wv [a,b,c,d]*2 ^ n→some (o,())=some (A4I (wv [a,b,c,d]*2 ^ n),()):=by
  intro o h1 h2 h3
  rw [← h3,A8v h1 h2]
 have htop:A1q=18446744073709551616*18446744073709551616*18446744073709551616*18446744073709551616:=by decide
 have key:∀ M,M=N+1+1+1+1+1→I6 F (fun z30=>some (z30,())) M [a,b,c,d] [0,0,0,0] (w:Int) (r:Int) (w:Int)=some (A4I (wv [a,b,c,d]*2 ^ n),()):=by
  intro M hM
  subst hM
  rcases hw with rfl | rfl | rfl | rfl
  ·rw [A42 F _ _ _ (by omega) (by omega) hr hl rfl,show((0:Nat):Int)=0 from rfl,iN (by omega),show(0:Int) - 0=0 from rfl,g0,D8x,show(0:Int)+1=1 from rfl]
   have st:=fun N o ho (i:Int) h1 h2=>A42 F (fun z30:List Int=>some (z30,())) [a,b,c,d] o (w:=0) (r:=r) (i:=i) h1 h2 hr hl ho N
   rw [show(0:Int)=((0:Nat):Int) from rfl,st _ _ rfl _ (by omega) (by omega),iP (by omega)]
   simp only [show((0:Nat):Int)=0 from rfl,show(1:Int) - 0=1 from rfl,show(1:Int) - 1=0 from rfl,g0,g1,D4A,show(1:Int)+1=2 from rfl]
   rw [show(0:Int)=((0:Nat):Int) from rfl,st _ _ rfl _ (by omega) (by omega),iP (by omega)]
   simp only [show((0:Nat):Int)=0 from rfl,show(2:Int) - 0=2 from rfl,show(2:Int) - 1=1 from rfl,g1,g2,D46,show(2:Int)+1=3 from rfl]
   rw [show(0:Int)=((0:Nat):Int) from rfl,st _ _ rfl _ (by omega) (by omega),iP (by omega)]
   simp only [show((0:Nat):Int)=0 from rfl,show(3:Int) - 0=3 from rfl,show(3:Int) - 1=2 from rfl,g2,g3,D0F,show(3:Int)+1=4 from rfl]
   rw [I6]
   simp (disch:=omega) only [bs,↓iP,↓iN]
   refine fin _ (wd4 (by omega) (by omega) (by omega) (by omega)) rfl ?_
   rw [hval,htop] at h
   rw [hval,wv4]
   clear hval fin st hq hm hnn
   simp only [Nat.mul_zero,Nat.pow_zero,Nat.mul_one,Int.toNat_natCast] at h ⊢
   omega
  ·have st:=fun N o ho (i:Int) h1 h2=>A42 F (fun z30:List Int=>some (z30,())) [a,b,c,d] o (w:=1) (r:=r) (i:=i) h1 h2 hr hl ho N
   rw [st _ _ rfl _ (by omega) (by omega),iN (by omega)]
   simp only [show((1:Nat):Int)=1 from rfl,show(1:Int) - 1=0 from rfl,g0,D4A,show(1:Int)+1=2 from rfl]
   rw [show(1:Int)=((1:Nat):Int) from rfl,st _ _ rfl _ (by omega) (by omega),iP (by omega)]
   simp only [show((1:Nat):Int)=1 from rfl,show(2:Int) - 1=1 from rfl,show(1:Int) - 1=0 from rfl,g0,g1,D46,show(2:Int)+1=3 from rfl]
   rw [show(1:Int)=((1:Nat):Int) from rfl,st _ _ rfl _ (by omega) (by omega),iP (by omega)]
   simp only [show((1:Nat):Int)=1 from rfl,show(3:Int) - 1=2 from rfl,show(2:Int) - 1=1 from rfl,g1,g2,D0F,show(3:Int)+1=4 from rfl]
   rw [I6]
   simp (disch:=omega) only [bs,↓iP,↓iN]
   refine fin _ (wd4 (by omega) (by omega) (by omega) (by omega)) rfl ?_
   rw [hval,htop] at h
   rw [hval,wv4]
   clear hval fin st hq hm hnn
   simp only [show(2:Nat) ^ (64*1)=18446744073709551616 from rfl,Int.toNat_natCast,show(0:Int).toNat=0 from rfl] at h ⊢
   omega
  ·have st:=fun N o ho (i:Int) h1 h2=>A42 F (fun z30:List Int=>some (z30,())) [a,b,c,d] o (w:=2) (r:=r) (i:=i) h1 h2 hr hl ho N
   rw [st _ _ rfl _ (by omega) (by omega),iN (by omega)]
   simp only [show((2:Nat):Int)=2 from rfl,show(2:Int) - 2=0 from rfl,g0,D46,show(2:Int)+1=3 from rfl]
   rw [show(2:Int)=((2:Nat):Int) from rfl,st _ _ rfl _ (by omega) (by omega),iP (by omega)]
   simp only [show((2:Nat):Int)=2 from rfl,show(3:Int) - 2=1 from rfl,show(1:Int) - 1=0 from rfl,g0,g1,D0F,show(3:Int)+1=4 from rfl]
   rw [I6]
   simp (disch:=omega) only [bs,↓iP,↓iN]
   refine fin _ (wd4 (by omega) (by omega) (by omega) (by omega)) rfl ?_
   rw [hval,htop] at h
   rw [hval,wv4]
   clear hval fin st hq hm hnn
   simp only [show(2:Nat) ^ (64*2)=340282366920938463463374607431768211456 from rfl,Int.toNat_natCast,show(0:Int).toNat=0 from rfl] at h ⊢
   omega
  ·have st:=fun N o ho (i:Int) h1 h2=>A42 F (fun z30:List Int=>some (z30,())) [a,b,c,d] o (w:=3) (r:=r) (i:=i) h1 h2 hr hl ho N
   rw [st _ _ rfl _ (by omega) (by omega),iN (by omega)]
   simp only [show((3:Nat):Int)=3 from rfl,show(3:Int) - 3=0 from rfl,g0,D0F,show(3:Int)+1=4 from rfl]
   rw [I6]
   simp (disch:=omega) only [bs,↓iP,↓iN]
   refine fin _ (wd4 (by omega) (by omega) (by omega) (by omega)) rfl ?_
   rw [hval,htop] at h
   rw [hval,wv4]
   clear hval fin st hq hm hnn
   simp only [show(2:Nat) ^ (64*3)=6277101735386680763835789423207666416102355444464034512896 from rfl,Int.toNat_natCast,show(0:Int).toNat=0 from rfl] at h ⊢
   omega
 exact key F hN
theorem C3u(F:Nat)(hF:H8 F){R:Type}(k:List Int→List Int→List Int→Option R){a b:Nat}(z:List Int) :
  ∀ (m r d Q:Nat) (x4:List Int),Dv a b m r d Q→Wd x4→x4.length=4→wv x4=Q→m≤256→r < A1q→d < A1q →
   ∀ N,m < N→∃ o:List Int,Wd o∧o.length=4∧wv o=a / b∧A0f F k N (A4I r) x4 z ((m:Int) - 1) (A4I d)=k (A4I (a % b)) o z:=by
 intro m
 induction m with
 | zero =>
  intro r d Q x4 h hw h4 he hm h1 h2 N hN
  obtain ⟨N,rfl⟩:∃ M,N=M+1:=⟨N - 1,by omega⟩
  obtain ⟨e1,e2⟩:=h.done
  refine ⟨x4,hw,h4,by rw [he,e1],?_⟩
  unfold A0f
  simp (disch:=omega) only [bs,↓iP,↓iN,e2]
 | succ m ih =>
  intro r d Q x4 h hw h4 he hm h1 h2 N hN
  obtain ⟨N,rfl⟩:∃ M,N=M+1:=⟨N - 1,by omega⟩
  have hs:=h.step
  have hd2:d / 2 < A1q:=by omega
  have ei:((m+1:Nat):Int) - 1=(m:Int):=by omega
  rw [ei]
  have hq:A4L .i64 (m:Int) 64=((m / 64:Nat):Int):=by rw [B0v (by omega) (by omega) (by omega)]; omega
  have hmm:A3j (m:Int) 64=((m % 64:Nat):Int):=by rw [B5i (by omega)]; omega
  have hl0:ltI ((m % 64:Nat):Int) 0=false:=by rw [← Bool.not_eq_true,B8]; omega
  have hin:inI ((m / 64:Nat):Int) 4=true:=by rw [G9]; omega
  unfold A0f
  rw [hq,hmm,A41 F hF (T1 _) (T1 _) (F3 h1) (F3 h2),Q3,Q3]
  have hc:leI 0 (D0E r d)=decide (d≤r):=by
   unfold leI D0E
   apply decide_eq_decide.2
   split <;> (try split) <;> omega
  simp only [bS,hc]
  by_cases hdr:d≤r
  ·rw [iP hdr] at hs
   obtain ⟨b1,b2,b3⟩:=C3r hw (i:=m) (by omega) (by rw [he]; exact h.hQ)
   obtain ⟨o,g1,g2,g3,g4⟩:=ih (r - d) (d / 2) (Q+2 ^ m) (C5o x4 m) hs b1 (by omega) (by rw [b3,he]) (by omega) (by omega) hd2 N (by omega)
   refine ⟨o,g1,g2,g3,?_⟩
   refine Eq.trans ?_ g4
   rw [decide_eq_true hdr,A3g F hF (T1 _) (T1 _) (F3 h1) (F3 h2) (by rw [Q3,Q3]; exact hdr),Q3,Q3,hl0,hin]
   simp (disch:=omega) only [bs,↓iP,↓iN,A4J F hF (T1 d) (F3 h2),Q3]
   rfl
  ·rw [iN hdr] at hs
   obtain ⟨o,g1,g2,g3,g4⟩:=ih r (d / 2) Q x4 hs hw h4 he (by omega) h1 hd2 N (by omega)
   refine ⟨o,g1,g2,g3,?_⟩
   refine Eq.trans ?_ g4
   rw [decide_eq_false hdr]
   simp (disch:=omega) only [bs,↓iP,↓iN,A4J F hF (T1 d) (F3 h2),Q3]
theorem B5K(F:Nat)(hF:H8 F){l m:List Int}(hl:Wd l)(hm:Wd m)(h4:l.length=4)(h5:m.length=4)(hb:0 < wv m) :
  A75 F l m=some (A4I (wv l / wv m),A4I (wv l % wv m),()):=by
 have hF':=hF
 unfold H8 at hF'
 obtain ⟨s,hs,hsl,es⟩:=A4K F hF hl h4
 obtain ⟨t,ht,htl,et⟩:=A4K F hF hm h5
 have ht1:=(ht.2.2 hb).1
 have hlt:wv l < A1q:=by have:=C2V hl; rw [h4] at this; exact this
 unfold A75
 by_cases hst:s < t
 ·have hl2:=D0o hs ht hst
  simp (disch:=omega) only [bs,↓iP,↓iN,es,et]
  rw [Nat.div_eq_of_lt hl2,Nat.mod_eq_of_lt hl2,A8v hl h4,show A4I 0=[0,0,0,0] from congrArg (·.2.1) B1Z]
 ·obtain ⟨c1,c2⟩:=D44 hs ht hb (by omega)
  have hst2:(s:Int) - (t:Int)=((s - t:Nat):Int):=by omega
  have h8:wv m*2 ^ (s - t) < A1q:=by
   exact Nat.lt_of_lt_of_le c2 (C5p (k:=4) (by omega))
  obtain ⟨o,g1,g2,g3,g4⟩:=C3u F hF (fun z20 z21 z22=>some (z21,(z20,()))) [0,0,0,0] (s - t+1) (wv l) (wv m*2 ^ (s - t)) 0 [0,0,0,0] (Dv.start c1) (wd4 (by omega) (by omega) (by omega) (by omega)) rfl rfl (by omega) hlt h8 F (by omega)
  have e1:((s - t+1:Nat):Int) - 1=((s - t:Nat):Int):=by omega
  rw [e1,A8v hl h4] at g4
  simp (disch:=omega) only [bs,↓iP,↓iN,es,et,hst2,B4r F hF hm h5 (n:=s - t) (by omega) h8]
  refine Eq.trans g4 ?_
  rw [← g3,A8v g1 g2]
theorem C3v(v:Nat):toW (v:Int)=(false,A4I v,()):=by
 unfold toW
 rw [decide_eq_false (by omega),Int.natAbs_natCast]
theorem C7i{v:Nat}(h:v < A1q):WOk (toW (v:Int)):=C78 (by rw [Int.natAbs_natCast]; exact h)
theorem A3i(F:Nat){w:W}(h:WOk w):J1 F w=some (toW (wi w),()):=by
 unfold J1
 rw [B20 F h]
 by_cases hv:Vl w
 ·simp (disch:=omega) only [bs,↓iP,↓iN,hv,decide_true,D3Y h hv]
 ·have:wi w=0:=by
   unfold Vl at hv
   unfold wi
   simp only [Classical.not_not] at hv
   rw [hv.1,hv.2]; rfl
  rw [this,B1Z]
  simp (disch:=omega) only [bs,↓iP,↓iN,hv,decide_false]
theorem C5u{a b:Nat}:A4I a=A4I b↔a=b:=⟨fun h=>by have:=congrArg wv h; rw [Q3,Q3] at this; exact this,fun h=>by rw [h]⟩
theorem C3w:A4I 0=[0,0,0,0]:=congrArg (·.2.1) B1Z
theorem B4s(F:Nat){w:W}(h:WOk w):A2E F w=some (if wi w=0 then 0 else if wi w < 0 then -1 else 1,()):=by
 unfold A2E
 rw [A3i F h]
 simp only [bS]
 rw [show(toW (wi w)).1=decide (wi w < 0) from rfl,show(toW (wi w)).2.1=A4I (wi w).natAbs from rfl,B4f,← C3w]
 have:decide (A4I (wi w).natAbs=A4I 0)=decide (wi w=0):=decide_eq_decide.2 (by rw [C5u]; omega)
 rw [this]
 by_cases h1:wi w < 0
 ·rw [decide_eq_true h1,cT,iN (by omega),iP h1]
 ·rw [decide_eq_false h1,cF]
  by_cases h2:wi w=0
  ·rw [decide_eq_true h2,cT,iP h2]
  ·rw [decide_eq_false h2,cF,iN h2,iN h1]
theorem D9x{b r:Nat}(h0:0 < r)(h:r < b):2*(b % r) < b:=by
 have h1:=Nat.mod_lt b h0
 have h2:=Nat.div_add_mod b r
 have h3:1≤b / r:=(Nat.one_le_div_iff h0).2 (by omega)
 have h4:r*1≤r*(b / r):=Nat.mul_le_mul_left _ h3
 omega
abbrev Rt:=W×(W×Unit)
def ROk(q:Rt):Prop:=WOk q.1∧WOk q.2.1
abbrev Ln:=Int×(Int×(Rt×Unit))
def D8A(l:List Ln):Prop:=∀ s∈l,I64 s.1∧I64 s.2.1∧ROk s.2.2.1
def lc(l:List Ln):List Int:=l.map (·.1)
def lv(l:List Ln):List Int:=l.map (·.2.1)
def sp(q:Rt):List Int:=enc (uw (wi q.1))++enc (uw (wi q.2.1))
def slp:List Ln→List Int
 | []=>[]
 | x::t=>if 1 < x.1 then sp x.2.2.1++slp t else slp t
theorem D8A.push{l:List Ln}(h:D8A l){x:Ln}(h1:I64 x.1)(h2:I64 x.2.1)(h3:ROk x.2.2.1):D8A (l++[x]):=by
 intro s hs
 rcases List.mem_append.1 hs with hs | hs
 ·exact h s hs
 ·simp at hs
  subst hs
  exact ⟨h1,h2,h3⟩
def lB(l:List Ln):List Int:=hd (lc l) (lv l)++slp l
def Acc(l:List Smp)(m:Int):Prop:=A01 l∧(∀ c∈cn l,1≤c)∧A2a (cn l)=m
theorem A7i:∀ (a b:List Int),A2a (a++b)=A2a a+A2a b
 | [],b=>by simp [A2a]
 | x::a,b=>by simp only [List.cons_append,A2a,A7i a b]; omega
theorem A8A:∀ {l:List Int},(∀ c∈l,1≤c)→0≤A2a l∧(l.length:Int)≤A2a l
 | [],_=>by simp [A2a]
 | x::l,h=>by
  have:=A8A (l:=l) (fun c hc=>h c (by simp [hc]))
  have:=h x (by simp)
  simp only [A2a,List.length_cons]
  omega
theorem B4t:∀ {l:List Int} {t:Int},(∀ c∈l,1≤c)→A2a l≤t→A27 t l=true
 | [],_,_,_=>rfl
 | x::l,t,h,hs=>by
  have h1:=h x (by simp)
  have h2:∀ c∈l,1≤c:=fun c hc=>h c (by simp [hc])
  have:=(A8A h2).1
  simp only [A2a] at hs
  exact A1P.2 ⟨by omega,B4t h2 (by omega)⟩
theorem Acc.nil:Acc [] 0:=⟨fun s h=>by(cases h),fun c h=>by(cases h),rfl⟩
theorem Acc.push{l:List Smp}{m:Int}(h:Acc l m){c v:Int}(hc:1≤c)(hc2:c≤9223372036854775807)(hv:I64 v):Acc (l++[(c,(v,()))]) (m+c):=by
 obtain ⟨h1,h2,h3⟩:=h
 refine ⟨fun s hs=>?_,fun x hx=>?_,?_⟩
 ·rcases List.mem_append.1 hs with e | e
  ·exact h1 s e
  ·have e:=List.mem_singleton.1 e
   subst e
   exact ⟨⟨by omega,hc2⟩,hv⟩
 ·unfold cn at hx
  rw [List.map_append] at hx
  rcases List.mem_append.1 hx with e | e
  ·exact h2 x e
  ·have e:=List.mem_singleton.1 e
   subst e
   exact hc
 ·unfold cn at h3 ⊢
  rw [List.map_append,A7i,h3]
  simp [A2a]
def B8e{S:Type}(f:S→Int→Option (S×List Smp×Unit))(g:S→Option (List Smp×Unit))(c:S→Int)(Inv:Nat→S→Prop)(N:Nat):Prop :=
 (∀ k s x,k < N→Inv k s→I64 x→∃ r,f s x=some r∧Inv (k+1) r.1∧((r.2.1=[]∧c r.1=c s+1)∨(c r.1=1∧g s=some (r.2.1,())))) ∧
 (∀ k s,Inv k s→(0≤c s∧c s≤k)∧∃ v,I64 v∧g s=some (if c s=0 then [] else [(c s,(v,()))],()))
theorem C5v{S:Type}{f:S→Int→Option (S×List Smp×Unit)}{g:S→Option (List Smp×Unit)}{c:S→Int}{Inv:Nat→S→Prop}{N:Nat}(h:B8e f g c Inv N)(hN:N≤1000000) :
  ∀ (l:List Int) (k:Nat) (s:S) (out:List Smp),k+l.length≤N→(∀ x∈l,I64 x)→Inv k s→Acc out (k - c s)→∃ s' out',B0t f l s out=some (s',out')∧Inv (k+l.length) s'∧Acc out' ((k+l.length:Nat) - c s'):=by
 intro l
 induction l with
 | nil=>intro k s out _ _ hi ha; exact ⟨s,out,rfl,hi,by simpa using ha⟩
 | cons x l ih =>
  intro k s out hk hl hi ha
  simp only [List.length_cons] at hk
  obtain ⟨r,h1,h2,h3⟩:=h.1 k s x (by omega) hi (hl x (by simp))
  obtain ⟨⟨p1,p2⟩,v,p3,p4⟩:=h.2 k s hi
  have ha':Acc (out++r.2.1) (((k+1:Nat):Int) - c r.1):=by
   rcases h3 with ⟨e1,e2⟩ | ⟨e1,e2⟩
   ·rw [e1,List.append_nil,e2,show((k+1:Nat):Int) - (c s+1)=k - c s by omega]
    exact ha
   ·rw [p4] at e2
    have e2:=(Prod.mk.inj (Option.some.inj e2)).1
    by_cases c0:c s=0
    ·rw [iP c0] at e2
     rw [← e2,List.append_nil,e1,show((k+1:Nat):Int) - 1=k - c s by omega]
     exact ha
    ·rw [iN c0] at e2
     rw [← e2,e1,show((k+1:Nat):Int) - 1=k - c s+c s by omega]
     exact ha.push (by omega) (by omega) p3
  obtain ⟨s',out',q1,q2,q3⟩:=ih (k+1) r.1 (out++r.2.1) (by omega) (fun y hy=>hl y (by simp [hy])) h2 ha'
  refine ⟨s',out',?_,?_,?_⟩
  ·simp only [B0t,h1,bS]; exact q1
  ·simp only [List.length_cons]; rw [show k+(l.length+1)=k+1+l.length by omega]; exact q2
  ·simp only [List.length_cons]; rw [show k+(l.length+1)=k+1+l.length by omega]; exact q3
theorem B8f{S:Type}{f:S→Int→Option (S×List Smp×Unit)}{g:S→Option (List Smp×Unit)}{c:S→Int}{Inv:Nat→S→Prop}{N:Nat}(h:B8e f g c Inv N)(hN:N≤1000000){ok:S→Prop}(hok:∀ k s,Inv k s→ok s)
  {l:List Int} (hl:l.length≤N) (hr:∀ x∈l,I64 x) {s0:S} (hi:Inv 0 s0) (h0:c s0=0) (fs fr fi:Nat) :
  ∃ s out q,B0t f l s0 []=some (s,out)∧g s=some q∧q.1.length=(if c s=0 then 0 else 1)∧A5p fs fr fi ok f g (.fn fs,.fn fr,()) s0 (.itr fi l)=some (out++q.1,())∧Acc (out++q.1) l.length∧Inv l.length s:=by
 obtain ⟨s,out,h1,h2,h3⟩:=C5v h hN l 0 s0 [] (by omega) hr hi (by rw [h0]; exact Acc.nil)
 rw [Nat.zero_add] at h2 h3
 obtain ⟨⟨p1,p2⟩,v,p3,p4⟩:=h.2 _ s h2
 have hlen:(if c s=0 then([]:List Smp) else [(c s,(v,()))]).length=if c s=0 then 0 else 1:=by split <;> rfl
 have hle:(if c s=0 then 0 else 1)≤1:=by split <;> omega
 refine ⟨s,out,_,h1,p4,hlen,?_,?_,h2⟩
 ·refine B5h (by omega) hr ⟨Inv,hi,hok,fun k s x hk hs x1 x2=>?_⟩ h1 p4 (by rw [hlen]; exact hle)
  obtain ⟨r,r1,r2,r3⟩:=h.1 k s x (by omega) hs ⟨x1,x2⟩
  refine ⟨r,r1,r2,?_⟩
  rcases r3 with ⟨e,_⟩ | ⟨_,e⟩
  ·rw [e]; simp
  ·obtain ⟨_,v',_,p4'⟩:=h.2 k s hs
   rw [p4'] at e
   rw [← (Prod.mk.inj (Option.some.inj e)).1]
   split <;> simp
 ·by_cases c0:c s=0
  ·rw [iP c0,List.append_nil]; rw [c0,Int.sub_zero] at h3; exact h3
  ·rw [iN c0]
   have:=h3.push (c:=c s) (v:=v) (by omega) (by omega) p3
   rwa [show(l.length:Int) - c s+c s=l.length by omega] at this
abbrev MdS:=Int×(Int×(Int×(Int×Unit)))
theorem B5L(F:Nat){a b:Int}(ha:I64 a)(hb:I64 b)(h:b≤a):G7 F a b=some (a - b,()):=U4 F ha hb h
theorem A7j(x:Int):I64 (IntKind.i64.wrap x):=by
 simp only [IntKind.wrap,IntKind.bits,IntKind.signed,Bool.true_and,ge_iff_le,decide_eq_true_eq]
 unfold I64
 split <;> omega
theorem D48(F:Nat)(a b:Int):∃ v,A57 F a b=some (v,())∧I64 v:=⟨_,rfl,A7j _⟩
def rgM(s:MdS):Option (Int×Int):=if s.2.1=0 then none else some (s.2.2.1,s.2.2.2.1)
def B9B(e:Int)(k:Nat)(s:MdS):Prop:=s.1=e∧(0≤s.2.1∧s.2.1≤k)∧I64 s.2.2.1∧I64 s.2.2.2.1∧(0 < s.2.1→s.2.2.1≤s.2.2.2.1)
theorem A1z(F:Nat){e:Int}{k:Nat}{s:MdS}(h:B9B e k s):∃ v,I64 v∧P7 F s=some (if s.2.1=0 then [] else [(s.2.1,(v,()))],()):=by
 obtain ⟨v,hv,hv2⟩:=D48 F s.2.2.1 s.2.2.2.1
 refine ⟨v,hv2,?_⟩
 unfold P7
 by_cases c:s.2.1=0
 ·rw [iP c,show eqI s.2.1 0=true by rw [D1]; exact c]; rfl
 ·rw [iN c,show eqI s.2.1 0=false by rw [← Bool.not_eq_true,D1]; exact c,cF,hv]; rfl
theorem A1V(a b:Int):A3u a b=min a b:=by unfold A3u; omega
theorem A3F(a b:Int):B2b a b=max a b:=by unfold B2b; omega
theorem C3x(F:Nat){e a b c:Int}(he:0≤e∧e≤4611686018427387904)(ha:I64 a)(hb:I64 b)(h:a≤b):A0D F (e,(c,(a,(b,()))))=some (decide (b - a≤2*e),()):=by
 unfold A0D
 have h1:A2H .u64 2 (IntKind.wrap .u64 e)=2*e:=by rw [F5 (by omega),C45 (by omega)]
 simp only [B5L F hb ha h,bS,h1]
 rfl
theorem A0b(F:Nat){e:Int}(he:0≤e∧e≤4611686018427387904){k:Nat}(hk:k≤1000000){s:MdS}(h:B9B e k s){x:Int}(hx:I64 x) :
  ∃ r,K2 F s x=some r∧B9B e (k+1) r.1∧((0 < s.2.1∧max s.2.2.2.1 x - min s.2.2.1 x≤2*e∧r=((e,(s.2.1+1,(min s.2.2.1 x,(max s.2.2.2.1 x,())))),([],()))) ∨
   ((0 < s.2.1→2*e < max s.2.2.2.1 x - min s.2.2.1 x)∧r.1=(e,(1,(x,(x,()))))∧P7 F s=some (r.2.1,()))):=by
 obtain ⟨v,hv,hrest⟩:=A1z F h
 obtain ⟨t,n,a,b,u⟩:=s
 obtain ⟨h1,h2,h3,h4,h5⟩:=h
 simp only at h1 h2 h3 h4 h5 hrest ⊢
 subst h1
 have new:∀ y:MdS,U8 F (fun z7 z8=>some (z7,(z8,()))) x (t,(n,(a,(b,u)))) y=some ((t,(1,(x,(x,())))),((if n=0 then [] else [(n,(v,()))]),())):=by
  intro y
  unfold U8
  simp only [hrest,bS]
 have hnew:B9B t (k+1) (t,(1,(x,(x,())))):=⟨rfl,by simp only; omega,hx,hx,fun _=>Int.le_refl _⟩
 by_cases c:0 < n
 ·have y1:ltI 0 n=true:=by rw [B8]; exact c
  have y2:D5 .i64 n 1=n+1:=H4 (by omega)
  have ab:=h5 c
  unfold I64 at h3 h4 hx
  have hmn:I64 (min a x):=by unfold I64; omega
  have hmx:I64 (max b x):=by unfold I64; omega
  have y3:=C3x F (c:=n+1) he hmn hmx (by omega)
  by_cases d:max b x - min a x≤2*t
  ·refine ⟨_,?_,?_,.inl ⟨c,d,rfl⟩⟩
   ·unfold K2
    simp only [y1,cT,y2,A1V,A3F,y3,bS,decide_eq_true d]
   ·exact ⟨rfl,by simp only; omega,hmn,hmx,fun _=>by simp only; omega⟩
  ·refine ⟨((t,(1,(x,(x,())))),((if n=0 then [] else [(n,(v,()))]),())),?_,hnew,.inr ⟨fun _=>by omega,rfl,hrest⟩⟩
   unfold K2
   simp only [y1,cT,y2,A1V,A3F,y3,bS,decide_eq_false d,cF,new]
 ·have y1:ltI 0 n=false:=by rw [← Bool.not_eq_true,B8]; exact c
  refine ⟨((t,(1,(x,(x,())))),((if n=0 then [] else [(n,(v,()))]),())),?_,hnew,.inr ⟨fun h=>absurd h c,rfl,hrest⟩⟩
  unfold K2
  simp only [y1,cF,new]
theorem A8B(F:Nat){e:Int}(he:0≤e∧e≤4611686018427387904){N:Nat}(hN:N≤1000000):B8e (K2 F) (P7 F) (fun s=>s.2.1) (B9B e) N:=by
 refine ⟨fun k s x hk hs hx=>?_,fun k s hs=>⟨hs.2.1,A1z F hs⟩⟩
 obtain ⟨r,h1,h2,h3⟩:=A0b F he (by omega) hs hx
 refine ⟨r,h1,h2,?_⟩
 rcases h3 with ⟨_,_,h5⟩ | ⟨_,h5,h6⟩
 ·left; rw [h5]; exact ⟨rfl,rfl⟩
 ·right; rw [h5]; exact ⟨rfl,h6⟩
theorem A5K(F:Nat){e:Int}(he:0≤e∧e≤4611686018427387904){k:Nat}(hk:k≤1000000){s:MdS}{x:Int}{r:MdS×List Smp×Unit}(h:B9B e k s)(hx:I64 x)(hr:K2 F s x=some r) :
  (Ext rgM s r.1 x (2*e)∧r.2.1.length=0)∨(New rgM s r.1 x r.2.1.length∧∀ a b,rgM s=some (a,b)→2*e < max b x - min a x):=by
 obtain ⟨r',h1,h2,h3⟩:=A0b F he hk h hx
 rw [hr] at h1
 cases h1
 obtain ⟨v,hv,hrest⟩:=A1z F h
 rcases h3 with ⟨c,d,e1⟩ | ⟨c,d,e1⟩
 ·left
  subst e1
  refine ⟨⟨s.2.2.1,s.2.2.2.1,?_,?_,d⟩,rfl⟩
  ·unfold rgM; rw [iN (by omega)]
  ·unfold rgM; rw [iN (by simp only; omega)]
 ·right
  rw [hrest] at e1
  have e1:=(Prod.mk.inj (Option.some.inj e1)).1
  refine ⟨⟨?_,?_⟩,fun a b hab=>?_⟩
  ·rw [d]; rfl
  ·rw [← e1]
   unfold rgM
   by_cases c0:s.2.1=0
   ·left; simp only [iP c0]; exact ⟨trivial,rfl⟩
   ·right; simp only [iN c0]; exact ⟨(fun h=>by cases h),rfl⟩
  ·unfold rgM at hab
   have hc:=h.2.1
   split at hab
   ·cases hab
   ·cases hab
    exact c (by omega)
theorem A43(F:Nat){e:Int}(he:0≤e∧e≤4611686018427387904){l:List Int}(hl:l.length≤1000000)(hr:∀ x∈l,I64 x) :
  ∃ s out q,B0t (K2 F) l (e,(0,(0,(0,())))) []=some (s,out)∧P7 F s=some q∧q.1.length=(if rgM s=none then 0 else 1)∧A0o F l e=some (out++q.1,0,())∧Acc (out++q.1) l.length:=by
 have hi:B9B e 0 (e,(0,(0,(0,())))):=⟨rfl,by simp,by unfold I64; simp,by unfold I64; simp,fun _=>Int.le_refl _⟩
 obtain ⟨s,out,q,h1,h2,h3,h4,h5,h6⟩:=B8f (A8B F he hl) hl (ok:=fun _=>True) (fun _ _ _=>trivial) (l:=l) (Nat.le_refl _) hr hi rfl 56 57 119
 refine ⟨s,out,q,h1,h2,?_,?_,h5⟩
 ·rw [h3]; unfold rgM; split <;> rfl
 ·have y1:leI 0 e=true:=by rw [H7]; exact he.1
  have y2:leI e 4611686018427387904=true:=by rw [H7]; exact he.2
  have y3:ltI 1073741824 (C7 l)=false:=by rw [← Bool.not_eq_true,B8]; unfold C7; omega
  unfold A0o A2r A0C N5 A58
  simp only [y1,y2,cT,bS,Bool.not_true,cF,show eqI (0:Int) 0=true from rfl,y3,h4]
theorem D0q{l:List Int}(h:Wd l)(i:Int){v:Int}(hv:0≤v∧v≤18446744073709551615):Wd (T2 l i v):=by
 intro x hx
 unfold T2 at hx
 rcases List.mem_or_eq_of_mem_set hx with e | e
 ·exact h x e
 ·subst e; exact hv
theorem C3y{l:List Int}(h:Wd l)(i:Int):0≤B9 0 l i∧B9 0 l i≤18446744073709551615:=by
 unfold B9
 rw [List.getD_eq_getElem?_getD]
 cases hq:l[i.toNat]? with
 | none=>simp
 | some x=>exact h x (List.mem_of_getElem? hq)
theorem C5w(l:List Int)(i v:Int):(T2 l i v).length=l.length:=by simp [T2]
theorem B26(F:Nat){R:Type}(k:List Int→Int→Option R){x y:List Int}(hx:Wd x)(hy:Wd y):∀ (m i:Nat) (o:List Int) (c:Int),i+m=4→Wd o→o.length=4→(0≤c∧c≤1)→∀ N,m < N →
  ∃ o' c',A0W F k N x y o c (i:Int)=k o' c'∧Wd o'∧o'.length=4:=by
 intro m
 induction m with
 | zero =>
  intro i o c hi ho hl hc N hN
  obtain ⟨N,rfl⟩:∃ M,N=M+1:=⟨N - 1,by omega⟩
  refine ⟨o,c,?_,ho,hl⟩
  unfold A0W
  rw [show ltI (i:Int) 4=false by rw [← Bool.not_eq_true,B8]; omega,cF]
 | succ m ih =>
  intro i o c hi ho hl hc N hN
  obtain ⟨N,rfl⟩:∃ M,N=M+1:=⟨N - 1,by omega⟩
  have gx:=C3y hx (i:Int)
  have gy:=C3y hy (i:Int)
  have y1:ltI (i:Int) 4=true:=by rw [B8]; omega
  have y2:inI (i:Int) 4=true:=by rw [G9]; omega
  have y3:D5 .i64 (i:Int) 1=((i+1:Nat):Int):=by rw [H4 (by omega)]; omega
  have ya:A0m F (B9 0 x (i:Int)) (B9 0 y (i:Int)) c=some ((B9 0 x (i:Int)+B9 0 y (i:Int)+c) % 18446744073709551616,(B9 0 x (i:Int)+B9 0 y (i:Int)+c) / 18446744073709551616,()):=by
   unfold A0m
   rw [show(leI 0 (B9 0 x (i:Int)) && leI 0 (B9 0 y (i:Int)) && leI 0 c && leI c 1)=true by simp only [Bool.and_eq_true,H7]; omega]
   rfl
  obtain ⟨o',c',h1,h2,h3⟩:=ih (i+1) (T2 o (i:Int) ((B9 0 x (i:Int)+B9 0 y (i:Int)+c) % 18446744073709551616)) ((B9 0 x (i:Int)+B9 0 y (i:Int)+c) / 18446744073709551616) (by omega) (D0q ho _ (by omega)) (by rw [C5w]; exact hl) (by omega) N (by omega)
  refine ⟨o',c',?_,h2,h3⟩
  unfold A0W
  simp only [y1,y2,cT,ya,bS,y3]
  exact h1
theorem A8C(F:Nat)(hF:H8 F){x y:List Int}(hx:Wd x)(hy:Wd y):∃ o c,A73 F x y=some (o,c,())∧Wd o∧o.length=4:=by
 unfold H8 at hF
 exact B26 F (fun z7 z8=>some (z7,(z8,()))) hx hy 4 0 [0,0,0,0] 0 rfl (by intro x hx; simp at hx; omega) rfl (by omega) F (by omega)
theorem A0L(F:Nat){w:W}(h:WOk w):∃ z,J1 F w=some (z,())∧WOk z:=⟨_,A3i F h,C78 h.abs⟩
theorem A03(F:Nat)(s:Bool){l:List Int}(hl:Wd l)(h4:l.length=4):∃ z,T8 F s l=some (z,())∧WOk z:=by
 obtain ⟨z,h1,h2⟩:=A0L F (w:=(s,l,())) ⟨hl,h4⟩
 refine ⟨z,?_,h2⟩
 unfold T8
 simp only [h1,bS]
theorem D0r:WOk (false,[0,0,0,0],()):=⟨(by intro x hx; simp at hx; omega),rfl⟩
theorem B5N(F:Nat)(hF:H8 F){x y:W}(hx:WOk x)(hy:WOk y):∃ z b,A74 F x y=some (z,b,())∧WOk z:=by
 obtain ⟨p,h1,hp⟩:=A0L F hx
 obtain ⟨q,h2,hq⟩:=A0L F hy
 unfold A74
 simp only [h1,h2,bS]
 cases eqT .bool p.1 q.1 with
 | true =>
  obtain ⟨o,c,h3,ho,hl⟩:=A8C F hF hp.1 hq.1
  obtain ⟨z,h4,hz⟩:=A03 F p.1 ho hl
  simp only [cT,h3,bS]
  cases hc:not (eqI c 0) with
  | true=>exact ⟨_,_,rfl,D0r⟩
  | false=>simp only [cF,h4,bS]; exact ⟨_,_,rfl,hz⟩
 | false =>
  have h3:=A41 F hF hp.1 hq.1 hp.2 hq.2
  simp only [cF,h3,bS]
  have e:leI 0 (D0E (wv p.2.1) (wv q.2.1))=decide (wv q.2.1≤wv p.2.1):=by
   unfold D0E leI
   refine decide_eq_decide.2 ?_
   split
   ·omega
   ·split <;> omega
  rw [e]
  by_cases hle:wv q.2.1≤wv p.2.1
  ·have h5:=A3g F hF hp.1 hq.1 hp.2 hq.2 hle
   have hlt:=hp.lt
   obtain ⟨z,h6,hz⟩:=A03 F p.1 (T1 (wv p.2.1 - wv q.2.1)) (F3 (by omega))
   simp only [decide_eq_true hle,cT,h5,h6,bS]
   exact ⟨_,_,rfl,hz⟩
  ·have h5:=A3g F hF hq.1 hp.1 hq.2 hp.2 (by omega)
   have hlt:=hq.lt
   obtain ⟨z,h6,hz⟩:=A03 F q.1 (T1 (wv q.2.1 - wv p.2.1)) (F3 (by omega))
   simp only [decide_eq_false hle,cF,h5,h6,bS]
   exact ⟨_,_,rfl,hz⟩
theorem A92(F:Nat)(hF:H8 F){x:W}{n:Nat}(hx:WOk x)(hn:0 < n)(hn2:n < A1q):∃ q r b,A1Y F x (toW (n:Int))=some (q,r,b,())∧WOk q:=by
 obtain ⟨p,h1,hp⟩:=A0L F hx
 have h2:=A3i F (C7i hn2)
 rw [C79] at h2
 have h3:=B4s F (C7i hn2)
 rw [C79,iN (by omega),iN (by omega)] at h3
 have e0:eqI (1:Int) 0=false:=by rw [← Bool.not_eq_true,D1]; omega
 have h4:=B5K F hF hp.1 (T1 n) hp.2 (F3 hn2) (by rw [Q3]; exact hn)
 rw [Q3] at h4
 rw [C3v] at h2 h3 ⊢
 have hlt:=hp.lt
 have q1:wv p.2.1 / n < A1q:=Nat.lt_of_le_of_lt (Nat.div_le_self _ _) hlt
 have q2:wv p.2.1 % n < n:=Nat.mod_lt _ hn
 unfold A1Y
 simp only [h1,h2,h3,e0,cF,bS,h4]
 have last:∀ (a b:W) (x4 x5:W) (u v:List Int),Wd u→u.length=4→Wd v→v.length=4→∃ q r c,V6 F (fun z18 z19 z20=>some (z18,(z19,(z20,())))) a b x4 x5 u v=some (q,r,c,())∧WOk q:=by
  intro a b x4 x5 u v hu hu4 hv hv4
  obtain ⟨z,k1,hz⟩:=A03 F (not (eqT .bool a.1 b.1)) hu hu4
  obtain ⟨y,k2,hy⟩:=A03 F false hv hv4
  unfold V6
  simp only [k1,k2,bS]
  exact ⟨_,_,_,rfl,hz⟩
 have mid:∀ (c:Bool),∃ q r b,Z3 F (fun z9 z10 z11 z12 z13 z14=>V6 F (fun z18 z19 z20=>some (z18,(z19,(z20,())))) z9 z10 z11 z12 z13 z14) p (false,A4I n,()) (false,([0,0,0,0],())) (false,([0,0,0,0],())) (A4I (wv p.2.1 / n)) (A4I (wv p.2.1 % n)) c=some (q,r,b,())∧WOk q:=by
  intro c
  unfold Z3
  cases c with
  | true =>
   obtain ⟨o,d,k1,ho,hl⟩:=A8C F hF (T1 (wv p.2.1 / n)) (y:=[1,0,0,0]) (by intro x hx; simp at hx; omega)
   have k2:=A3g F hF (T1 n) (T1 (wv p.2.1 % n)) (F3 hn2) (F3 (by omega)) (by rw [Q3,Q3]; omega)
   rw [Q3,Q3] at k2
   simp only [cT,k1,k2,bS]
   exact last _ _ _ _ _ _ ho hl (T1 _) (F3 (by omega))
  | false =>
   simp only [cF]
   exact last _ _ _ _ _ _ (T1 _) (F3 q1) (T1 _) (F3 (by omega))
 cases p.1 with
 | true=>simp only [cT]; exact mid _
 | false=>simp only [cF]; exact mid _
theorem B27(F:Nat){w:W}(h:WOk w):∃ v b,A4p F w=some (v,b,())∧I64 v:=by
 obtain ⟨p,h1,hp⟩:=A0L F h
 have key:∀ (a:Int) (c:Bool),∃ v b,T9 F (fun z6=>some (IntKind.wrap .i64 z6,(true,()))) (fun z8 z9=>some (z8,(z9,()))) p a c=some (v,b,())∧I64 v:=by
  intro a c
  unfold T9
  cases c with
  | true=>exact ⟨_,_,rfl,by unfold I64; omega⟩
  | false =>
   simp only [cF]
   cases p.1 with
   | true=>exact ⟨_,_,rfl,A7j _⟩
   | false=>exact ⟨_,_,rfl,A7j _⟩
 unfold A4p
 simp only [h1,bS]
 cases not (eqT (.arr 4 (.int .u64)) p.2.1 [B9 0 p.2.1 0,0,0,0]) with
 | true=>simp only [cT]; exact key _ _
 | false =>
  simp only [cF]
  cases ltI 9223372036854775808 (B9 0 p.2.1 0) with
  | true=>simp only [cT]; exact key _ _
  | false =>
   simp only [cF]
   cases eqI (B9 0 p.2.1 0) 9223372036854775808 with
   | true=>simp only [cT]; exact key _ _
   | false=>simp only [cF]; exact key _ _
theorem B9C(F:Nat){x:Int}(h:I64 x):∃ w,A21 F x=some (w,())∧WOk w:=by
 unfold A21
 cases ltI x 0 with
 | true =>
  refine ⟨_,rfl,?_,rfl⟩
  intro y hy
  have:=A1g (0 - IntKind.wrap .u64 x)
  have e:I5 .u64 0 (IntKind.wrap .u64 x)=IntKind.wrap .u64 (0 - IntKind.wrap .u64 x):=rfl
  simp only [List.mem_cons,List.not_mem_nil,or_false] at hy
  rcases hy with rfl | rfl | rfl | rfl
  ·rw [e]; exact this
  ·omega
  ·omega
  ·omega
 | false =>
  refine ⟨_,rfl,?_,rfl⟩
  intro y hy
  have:=A1g x
  simp only [List.mem_cons,List.not_mem_nil,or_false] at hy
  rcases hy with rfl | rfl | rfl | rfl
  ·exact this
  ·omega
  ·omega
  ·omega
theorem B5O(F:Nat){n:Nat}(h0:0 < n)(h:n≤1000001):A21 F (n:Int)=some (toW (n:Int),())∧n < A1q:=by
 have ht:n < A1q:=by unfold A1q; omega
 refine ⟨?_,ht⟩
 unfold A21
 rw [show ltI (n:Int) 0=false by rw [← Bool.not_eq_true,B8]; omega,cF,F5 (by omega),C3v]
 have e:A4I n=[(n:Int),0,0,0]:=by
  refine B01 (T1 _) (by intro y hy; simp at hy; omega) (by rw [F3 ht]; rfl) ?_
  rw [Q3]
  simp [wv]
 rw [e]
abbrev MnS:=Int×(Int×(Int×(Int×((Bool×((List Int)×Unit))×Unit))))
def rgN(s:MnS):Option (Int×Int):=if s.2.1=0 then none else some (s.2.2.1,s.2.2.2.1)
def C3H(e:Int)(k:Nat)(s:MnS):Prop:=s.1=e∧(0≤s.2.1∧s.2.1≤k)∧I64 s.2.2.1∧I64 s.2.2.2.1∧WOk s.2.2.2.2.1
theorem C3H.four{e:Int}{k:Nat}{s:MnS}(h:C3H e k s):C5B s:=h.2.2.2.2.2
theorem A6H(F:Nat)(hF:H8 F){s:MnS}(h:WOk s.2.2.2.2.1)(h0:0 < s.2.1)(h1:s.2.1≤1000001):∃ v b,A3O F s=some (v,b,())∧I64 v:=by
 obtain ⟨n,hn⟩:=Int.eq_ofNat_of_zero_le (show 0≤s.2.1 by omega)
 rw [hn] at h0 h1
 obtain ⟨e1,e2⟩:=B5O F (n:=n) (by omega) (by omega)
 obtain ⟨q,r,b,e3,hq⟩:=A92 F hF h (n:=n) (by omega) e2
 obtain ⟨v,c,e4,hv⟩:=B27 F hq
 refine ⟨v,c,?_,hv⟩
 unfold A3O
 rw [hn]
 simp only [e1,e3,e4,bS]
theorem A44(F:Nat)(hF:H8 F){e:Int}{k:Nat}(hk:k≤1000001){s:MnS}(h:C3H e k s):∃ v,I64 v∧A0E F s=some (if s.2.1=0 then [] else [(s.2.1,(v,()))],()):=by
 have hc:=h.2.1
 by_cases c:s.2.1=0
 ·refine ⟨0,by unfold I64; omega,?_⟩
  unfold A0E
  rw [iP c,show eqI s.2.1 0=true by rw [D1]; exact c]; rfl
 ·obtain ⟨v,b,e1,hv⟩:=A6H F hF h.2.2.2.2 (by omega) (by omega)
  refine ⟨v,hv,?_⟩
  unfold A0E
  rw [iN c,show eqI s.2.1 0=false by rw [← Bool.not_eq_true,D1]; exact c,cF]
  simp only [e1,bS]
theorem A45(F:Nat){a b e:Int}(ha:I64 a)(hb:I64 b)(he:0≤e∧e≤4611686018427387904):∃ r,A1j F a b e=some (r,())∧(r=true→a - b≤e∧b - a≤e):=by
 unfold A1j
 have hd:G7 F a b=some (max a b - min a b,()):=by
  unfold G7
  unfold I64 at ha hb
  have e1:I5 .u64 (IntKind.wrap .u64 (B2b a b)) (IntKind.wrap .u64 (A3u a b))=max a b - min a b:=by
   rw [A3F,A1V]
   show IntKind.u64.wrap _=_
   rw [C4,C4,C4]
   omega
  rw [e1]
 rw [show leI 0 e=true by rw [H7]; exact he.1,cT,hd,F5 (by omega)]
 refine ⟨_,rfl,fun h=>?_⟩
 rw [H7] at h
 omega
theorem B4u(F:Nat)(hF:H8 F){s:MnS}(he:0≤s.1∧s.1≤4611686018427387904)(h:WOk s.2.2.2.2.1)(h0:0 < s.2.1)(h1:s.2.1≤1000001)(ha:I64 s.2.2.1)(hb:I64 s.2.2.2.1):∃ r,A5y F s=some (r,())∧(r=true→s.2.2.2.1 - s.2.2.1≤2*s.1):=by
 obtain ⟨v,b,e1,hv⟩:=A6H F hF h h0 h1
 obtain ⟨r2,e2,p2⟩:=A45 F hv ha he
 obtain ⟨r3,e3,p3⟩:=A45 F hv hb he
 unfold A5y
 simp only [e1,bS]
 cases b with
 | false=>exact ⟨false,rfl,fun h=>by cases h⟩
 | true =>
  simp only [cT,e2,bS]
  cases r2 with
  | false=>exact ⟨false,rfl,fun h=>by cases h⟩
  | true =>
   simp only [cT,e3,bS]
   refine ⟨r3,rfl,fun h=>?_⟩
   have:=p2 rfl
   have:=p3 h
   omega
theorem A46(F:Nat)(hF:H8 F){e:Int}(he:0≤e∧e≤4611686018427387904){k:Nat}(hk:k≤1000000){s:MnS}(h:C3H e k s){x:Int}(hx:I64 x) :
  ∃ r,A0F F s x=some r∧C3H e (k+1) r.1∧((0 < s.2.1∧max s.2.2.2.1 x - min s.2.2.1 x≤2*e∧r.2.1=[]∧r.1.2.1=s.2.1+1∧r.1.2.2.1=min s.2.2.1 x∧r.1.2.2.2.1=max s.2.2.2.1 x) ∨
   (r.1.2.1=1∧r.1.2.2.1=x∧r.1.2.2.2.1=x∧A0E F s=some (r.2.1,()))):=by
 obtain ⟨v,hv,hrest⟩:=A44 F hF (by omega) h
 obtain ⟨t,n,a,b,w,u⟩:=s
 obtain ⟨h1,h2,h3,h4,h5⟩:=h
 simp only at h1 h2 h3 h4 h5 hrest ⊢
 subst h1
 obtain ⟨wx,ex,hwx⟩:=B9C F hx
 have new:∀ y:MnS,A1k F (fun z7 z8=>some (z7,(z8,()))) x (t,(n,(a,(b,(w,u))))) y=some ((t,(1,(x,(x,(wx,()))))),((if n=0 then [] else [(n,(v,()))]),())):=by
  intro y
  unfold A1k
  simp only [ex,hrest,bS]
 have hnew:C3H t (k+1) (t,(1,(x,(x,(wx,()))))):=⟨rfl,by simp only; omega,hx,hx,hwx⟩
 by_cases c:0 < n
 ·have y1:ltI 0 n=true:=by rw [B8]; exact c
  have y2:D5 .i64 n 1=n+1:=H4 (by omega)
  obtain ⟨sw,sb,es,hsw⟩:=B5N F hF h5 hwx
  have hmn:I64 (min a x):=by unfold I64 at *; omega
  have hmx:I64 (max b x):=by unfold I64 at *; omega
  obtain ⟨q,eq,hq⟩:=B4u F hF (s:=(t,(n+1,(min a x,(max b x,(sw,())))))) he hsw (by simp only; omega) (by simp only; omega) hmn hmx
  cases q with
  | true =>
   refine ⟨((t,(n+1,(min a x,(max b x,(sw,()))))),([],())),?_,?_,.inl ⟨c,hq rfl,rfl,rfl,rfl,rfl⟩⟩
   ·unfold A0F
    simp only [y1,cT,ex,es,y2,A1V,A3F,bS,eq]
   ·exact ⟨rfl,by simp only; omega,hmn,hmx,hsw⟩
  | false =>
   refine ⟨((t,(1,(x,(x,(wx,()))))),((if n=0 then [] else [(n,(v,()))]),())),?_,hnew,.inr ⟨rfl,rfl,rfl,hrest⟩⟩
   unfold A0F
   simp only [y1,cT,ex,es,y2,A1V,A3F,bS,eq,cF,new]
 ·have y1:ltI 0 n=false:=by rw [← Bool.not_eq_true,B8]; exact c
  refine ⟨((t,(1,(x,(x,(wx,()))))),((if n=0 then [] else [(n,(v,()))]),())),?_,hnew,.inr ⟨rfl,rfl,rfl,hrest⟩⟩
  unfold A0F
  simp only [y1,cF,new]
theorem B5P(F:Nat)(hF:H8 F){e:Int}(he:0≤e∧e≤4611686018427387904){N:Nat}(hN:N≤1000000):B8e (A0F F) (A0E F) (fun s=>s.2.1) (fun k s=>C3H e k s∧k≤N) N:=by
 refine ⟨fun k s x hk hs hx=>?_,fun k s hs=>⟨hs.1.2.1,A44 F hF (by omega) hs.1⟩⟩
 obtain ⟨r,h1,h2,h3⟩:=A46 F hF he (by omega) hs.1 hx
 refine ⟨r,h1,⟨h2,by omega⟩,?_⟩
 rcases h3 with ⟨_,_,h5,h6,_⟩ | ⟨h5,_,_,h6⟩
 ·exact .inl ⟨h5,h6⟩
 ·exact .inr ⟨h5,h6⟩
theorem C3z(F:Nat)(hF:H8 F){e:Int}(he:0≤e∧e≤4611686018427387904){k:Nat}(hk:k≤1000000){s:MnS}{x:Int}{r:MnS×List Smp×Unit}(h:C3H e k s)(hx:I64 x)(hr:A0F F s x=some r) :
  (Ext rgN s r.1 x (2*e)∧r.2.1.length=0)∨New rgN s r.1 x r.2.1.length:=by
 obtain ⟨r',h1,h2,h3⟩:=A46 F hF he hk h hx
 rw [hr] at h1
 cases h1
 obtain ⟨v,hv,hrest⟩:=A44 F hF (by omega) h
 rcases h3 with ⟨c,d,e1,e2,e3,e4⟩ | ⟨c,d,d2,e1⟩
 ·left
  refine ⟨⟨s.2.2.1,s.2.2.2.1,?_,?_,d⟩,by rw [e1]; rfl⟩
  ·unfold rgN; rw [iN (by omega)]
  ·unfold rgN; rw [iN (by omega),e3,e4]
 ·right
  rw [hrest] at e1
  have e1:=(Prod.mk.inj (Option.some.inj e1)).1
  refine ⟨?_,?_⟩
  ·unfold rgN; rw [iN (by omega),d,d2]
  ·rw [← e1]
   unfold rgN
   by_cases c0:s.2.1=0
   ·left; simp only [iP c0]; exact ⟨trivial,rfl⟩
   ·right; simp only [iN c0]; exact ⟨(fun h=>by cases h),rfl⟩
theorem B5Q(F:Nat)(hF:H8 F){e:Int}(he:0≤e∧e≤4611686018427387904){l:List Int}(hl:l.length≤1000000)(hr:∀ x∈l,I64 x) :
  ∃ s out q,B0t (A0F F) l (e,(0,(0,(0,((false,([0,0,0,0],())),()))))) []=some (s,out)∧A0E F s=some q∧q.1.length=(if rgN s=none then 0 else 1)∧A76 F l e=some (out++q.1,0,())∧Acc (out++q.1) l.length:=by
 have hi:C3H e 0 (e,(0,(0,(0,((false,([0,0,0,0],())),()))))):=⟨rfl,by simp,by unfold I64; simp,by unfold I64; simp,D0r⟩
 obtain ⟨s,out,q,h1,h2,h3,h4,h5,h6⟩:=B8f (B5P F hF he hl) hl (ok:=C5B) (fun _ _ h=>h.1.four) (l:=l) (Nat.le_refl _) hr ⟨hi,Nat.zero_le _⟩ rfl 424 425 119
 refine ⟨s,out,q,h1,h2,?_,?_,h5⟩
 ·rw [h3]; unfold rgN; split <;> rfl
 ·have y1:leI 0 e=true:=by rw [H7]; exact he.1
  have y2:leI e 4611686018427387904=true:=by rw [H7]; exact he.2
  have y3:ltI 1073741824 (C7 l)=false:=by rw [← Bool.not_eq_true,B8]; unfold C7; omega
  unfold A76 A6a A2s N5 A3P
  simp only [y1,y2,cT,bS,Bool.not_true,cF,show eqI (0:Int) 0=true from rfl,y3,h4]
theorem B8g(d:List Int)(x y:Int)(t:List Int):T2 (d++x::t) (d.length:Int) y=(d++[y])++t:=by simp [T2]
theorem B8h(a b:List Smp):cn (a++b)=cn a++cn b:=by simp [cn]
theorem C7j(a b:List Smp):vl (a++b)=vl a++vl b:=by simp [vl]
theorem B5S(F:Nat){R:Type}(k:List Int→Option R){l:List Smp}(hb:l.length≤1000000):∀ (rest pre:List Smp) (z:List Int),l=pre++rest→z.length=rest.length→∀ N,rest.length < N →
  F8 F k N (vl pre++z) l (C7 l) (pre.length:Int)=k (vl l):=by
 intro rest
 induction rest with
 | nil =>
  intro pre z hl hz N hN
  obtain ⟨N,rfl⟩:∃ M,N=M+1:=⟨N - 1,by omega⟩
  have:z=[]:=List.length_eq_zero_iff.1 hz
  subst this
  have e:l=pre:=by simpa using hl
  subst e
  unfold F8
  rw [show ltI (l.length:Int) (C7 l)=false by rw [← Bool.not_eq_true,B8]; unfold C7; omega,cF,List.append_nil]
 | cons x rest ih =>
  intro pre z hl hz N hN
  obtain ⟨N,rfl⟩:∃ M,N=M+1:=⟨N - 1,by omega⟩
  obtain ⟨y,z',rfl⟩:∃ y z',z=y::z':=by
   cases z with
   | nil=>simp at hz
   | cons y z'=>exact ⟨y,z',rfl⟩
  simp only [List.length_cons] at hz hN
  have hlen:l.length=pre.length+(rest.length+1):=by rw [hl]; simp
  have g:B9 (0,(0,())) l (pre.length:Int)=x:=by rw [hl]; exact A4x pre x rest
  have hpl:(vl pre).length=pre.length:=A02 pre
  have st:T2 (vl pre++y::z') (pre.length:Int) x.2.1=vl (pre++[x])++z':=by
   rw [← hpl,B8g,C7j]; rfl
  have e:=ih (pre++[x]) z' (by rw [hl]; simp) (by omega) N (by omega)
  rw [show(((pre++[x]).length:Nat):Int)=(pre.length:Int)+1 by simp] at e
  have y1:ltI (pre.length:Int) (C7 l)=true:=by rw [B8]; unfold C7; omega
  have y2:inI (pre.length:Int) l.length=true:=by rw [G9]; omega
  have y3:inI (pre.length:Int) (vl pre++y::z').length=true:=by rw [G9,List.length_append,hpl]; simp; omega
  have y4:D5 .i64 (pre.length:Int) 1=(pre.length:Int)+1:=H4 (by omega)
  unfold F8 A25
  simp only [y1,y2,y3,cT,g,bS,st,y4]
  exact e
theorem B5T(F:Nat){R:Type}(k:List Int→Option R){l:List Smp}(hb:l.length≤1000000):∀ (rest pre:List Smp) (z:List Int),l=pre++rest→z.length=rest.length→∀ N,rest.length < N →
  F7 F k N (cn pre++z) l (C7 l) (pre.length:Int)=k (cn l):=by
 intro rest
 induction rest with
 | nil =>
  intro pre z hl hz N hN
  obtain ⟨N,rfl⟩:∃ M,N=M+1:=⟨N - 1,by omega⟩
  have:z=[]:=List.length_eq_zero_iff.1 hz
  subst this
  have e:l=pre:=by simpa using hl
  subst e
  unfold F7
  rw [show ltI (l.length:Int) (C7 l)=false by rw [← Bool.not_eq_true,B8]; unfold C7; omega,cF,List.append_nil]
 | cons x rest ih =>
  intro pre z hl hz N hN
  obtain ⟨N,rfl⟩:∃ M,N=M+1:=⟨N - 1,by omega⟩
  obtain ⟨y,z',rfl⟩:∃ y z',z=y::z':=by
   cases z with
   | nil=>simp at hz
   | cons y z'=>exact ⟨y,z',rfl⟩
  simp only [List.length_cons] at hz hN
  have hlen:l.length=pre.length+(rest.length+1):=by rw [hl]; simp
  have g:B9 (0,(0,())) l (pre.length:Int)=x:=by rw [hl]; exact A4x pre x rest
  have hpl:(cn pre).length=pre.length:=P8 pre
  have st:T2 (cn pre++y::z') (pre.length:Int) x.1=cn (pre++[x])++z':=by
   rw [← hpl,B8g,B8h]; rfl
  have e:=ih (pre++[x]) z' (by rw [hl]; simp) (by omega) N (by omega)
  rw [show(((pre++[x]).length:Nat):Int)=(pre.length:Int)+1 by simp] at e
  have y1:ltI (pre.length:Int) (C7 l)=true:=by rw [B8]; unfold C7; omega
  have y2:inI (pre.length:Int) l.length=true:=by rw [G9]; omega
  have y3:inI (pre.length:Int) (cn pre++y::z').length=true:=by rw [G9,List.length_append,hpl]; simp; omega
  have y4:D5 .i64 (pre.length:Int) 1=(pre.length:Int)+1:=H4 (by omega)
  unfold F7 A2q
  simp only [y1,y2,y3,cT,g,bS,st,y4]
  exact e
theorem A3q(F:Nat)(hF:H8 F){l:List Smp}(hb:l.length≤1000000):A0B F l=some (vl l,()):=by
 unfold H8 at hF
 have m:Y8 (C7 l) (C7 l) 8=true:=by rw [V4]; unfold C7; omega
 have e:=B5S F (fun z9=>some (z9,())) hb l [] (I7 (C7 l) 0) rfl (by unfold C7; rw [A0p]) F (by omega)
 unfold A0B A0h
 rw [m,cT]
 have e':F8 F (fun z9=>some (z9,())) F (I7 (C7 l) 0) l (C7 l) 0=some (vl l,()):=e
 rw [e']; rfl
theorem A8D(F:Nat)(hF:H8 F){l:List Smp}(hb:l.length≤1000000):A1l F l=some (cn l,()):=by
 unfold H8 at hF
 have m:Y8 (C7 l) (C7 l) 8=true:=by rw [V4]; unfold C7; omega
 have e:=B5T F (fun z9=>some (z9,())) hb l [] (I7 (C7 l) 0) rfl (by unfold C7; rw [A0p]) F (by omega)
 unfold A1l A0g
 rw [m,cT]
 have e':F7 F (fun z9=>some (z9,())) F (I7 (C7 l) 0) l (C7 l) 0=some (cn l,()):=e
 rw [e']; rfl
theorem B4v(F:Nat){R:Type}(k:List Int→Option R){l:List Smp}(hb:l.length≤1000000):∀ (rest pre:List Smp),l=pre++rest→∀ N,rest.length < N→S9 F k N l (vl pre) (pre.length:Int)=k (vl l):=by
 intro rest
 induction rest with
 | nil =>
  intro pre hl N hN
  obtain ⟨N,rfl⟩:∃ M,N=M+1:=⟨N - 1,by omega⟩
  have e:l=pre:=by simpa using hl
  subst e
  unfold S9
  rw [show ltI (l.length:Int) (C7 l)=false by rw [← Bool.not_eq_true,B8]; unfold C7; omega,cF]
 | cons x rest ih =>
  intro pre hl N hN
  obtain ⟨N,rfl⟩:∃ M,N=M+1:=⟨N - 1,by omega⟩
  simp only [List.length_cons] at hN
  have hlen:l.length=pre.length+(rest.length+1):=by rw [hl]; simp
  have g:B9 (0,(0,())) l (pre.length:Int)=x:=by rw [hl]; exact A4x pre x rest
  have e:=ih (pre++[x]) (by rw [hl]; simp) N (by omega)
  rw [show(((pre++[x]).length:Nat):Int)=(pre.length:Int)+1 by simp,C7j] at e
  have y1:ltI (pre.length:Int) (C7 l)=true:=by rw [B8]; unfold C7; omega
  have y2:inI (pre.length:Int) l.length=true:=by rw [G9]; omega
  have y3:K3 ((vl pre).length+1) 8=true:=by rw [K7,A02]; omega
  have y4:D5 .i64 (pre.length:Int) 1=(pre.length:Int)+1:=H4 (by omega)
  unfold S9
  simp only [y1,y2,y3,cT,g,y4]
  exact e
theorem A8E(F:Nat)(hF:H8 F){l:List Smp}(hb:l.length≤1000000):A2j F l=some (vl l,()):=by
 unfold H8 at hF
 exact B4v F (fun z6=>some (z6,())) hb l [] rfl F (by omega)
theorem rdU(F:Nat)(hF:H8 F){v:Nat}(hv:v < 2 ^ 64){b rest:List Int}(hb:Bt (b++(enc v++rest)))(hl:((b++(enc v++rest)).length:Int)≤140737488355328) :
  U1 F (b++(enc v++rest)) (b.length:Int)=some ((v:Int),(b.length:Int)+(enc v).length,0,()):=by
 rw [A2t F hF hb hl,C2X hv]
theorem rdS(F:Nat)(hF:H8 F){v:Int}(hv:I64 v){b rest:List Int}(hb:Bt (b++(enc (zz v)++rest)))(hl:((b++(enc (zz v)++rest)).length:Int)≤140737488355328) :
  S7 F (b++(enc (zz v)++rest)) (b.length:Int)=some (v,(b.length:Int)+(enc (zz v)).length,0,()):=by
 unfold S7
 rw [rdU F hF (A8X hv) hb hl]
 simp only [bS,show eqI (0:Int) 0=true from rfl,Bool.not_true,cF,A0K F (A8X hv),D0h]
def tF(l:List Smp):Int:=(B9 (0,(0,())) l 0).1
def tL(l:List Smp):Int:=(B9 (0,(0,())) l (C7 l - 1)).1
def X1(c:Int)(e:Nat)(l:List Smp):List Int:=[c]++enc e++enc l.length++enc (zz (tF l))++enc (zz (tL l))
def T6(c:Int)(e:Nat)(l x:List Smp):List Int:=X1 c e l++nE (dl (cn l))++hd (cn x) (vl x)
theorem A6h{l:List Smp}(h:A01 l){i:Int}(h0:0≤i)(h1:i < l.length):I64 (B9 (0,(0,())) l i).1∧I64 (B9 (0,(0,())) l i).2.1:=by
 obtain ⟨i,rfl⟩:=Int.eq_ofNat_of_zero_le h0
 have hi:i < l.length:=by omega
 have e:B9 (0,(0,())) l (i:Int)=l[i]:=by simp [B9,List.getD_eq_getElem?_getD,hi]
 rw [e]
 exact h _ (List.getElem_mem hi)
theorem Acc.len{x:List Smp}{m:Int}(h:Acc x m):(x.length:Int)≤m:=by
 have:=(A8A h.2.1).2
 rw [P8,h.2.2] at this
 exact this
theorem Acc.fits{x:List Smp}{m:Int}(h:Acc x m)(hm:m≤4096):A27 4096 (cn x)=true:=B4t h.2.1 (by rw [h.2.2]; exact hm)
theorem B4w(F:Nat)(hF:H8 F){l:List Smp}(hl:A01 l)(h0:0 < l.length)(h1:l.length≤4096){e:Nat}(he:e≤4611686018427387904){c:Int}(hc:c=2∨c=3):Bt (X1 c e l)∧(X1 c e l).length≤41:=by
 have a1:=X0 (v:=e) (by omega)
 have a2:=X0 (v:=l.length) (by omega)
 have a3:=X0 (A8X (A6h hl (i:=0) (by omega) (by omega)).1)
 have a4:=X0 (A8X (A6h hl (i:=C7 l - 1) (by unfold C7; omega) (by unfold C7; omega)).1)
 have b0:Bt [c]:=by intro y hy; simp at hy; omega
 refine ⟨(((b0.append (A6F _)).append (A6F _)).append (A6F _)).append (A6F _),?_⟩
 unfold X1 tF tL
 simp only [List.length_append,List.length_cons,List.length_nil]
 omega
theorem A8F(F:Nat)(hF:H8 F){l x:List Smp}(hl:A01 l)(hi:A3p (cn l)=true)(h0:0 < l.length)(h1:l.length≤4096)(hx:Acc x l.length){e:Nat}(he:e≤4611686018427387904){c:Int}(hc:c=2∨c=3):Bt (T6 c e l x)∧(T6 c e l x).length≤2000000:=by
 have b1:=B4w F hF hl h0 h1 he hc
 have hcl:=P8 l
 have hw:=C5k (C3g hl) (A5F hi)
 have b2:=A1b hw (by rw [A8w]; omega)
 have hxl:=hx.len
 have b3:=B24 (hx.fits (by omega)) (by rw [P8]; omega) (B9A hx.1) (by rw [A02]; omega)
 refine ⟨(b1.1.append (B9t hw)).append b3.2,?_⟩
 unfold T6
 simp only [List.length_append]
 omega
theorem A47(F:Nat)(hF:H8 F){l x:List Smp}(hl:A01 l)(hi:A3p (cn l)=true)(h0:0 < l.length)(h1:l.length≤4096)(hx:Acc x l.length){e:Nat}(he:e≤4611686018427387904){c:Int}(hc:c=2∨c=3)(hm:c=2→N6 F ((),()) l e=some ((cE x).1,(cE x).2,()))(hn:c=3→L4 F ((),()) l e=some ((cE x).1,(cE x).2,())) :
  A1m F l c e=some (T6 c e l x,0,()):=by
 have hxl:=hx.len
 have hcE:cE x=(hd (cn x) (vl x),0):=by unfold cE; rw [iN (by omega),iP (hx.fits (by omega))]
 have hcl:=P8 l
 have g0:=A6h hl (i:=0) (by omega) (by omega)
 have g1:=A6h hl (i:=C7 l - 1) (by unfold C7; omega) (by unfold C7; omega)
 have a1:=X0 (v:=e) (by omega)
 have a2:=X0 (v:=l.length) (by omega)
 have a3:=X0 (A8X g0.1)
 have a4:=X0 (A8X g1.1)
 have hB:=A8F F hF hl hi h0 h1 hx he hc
 have eT:=A8D F hF (l:=l) (by omega)
 have eI:=A1D F hF (l:=cn l) (by omega)
 have eS:=A6Q F hF (C3g hl) (by omega)
 rw [D8u hi (by omega)] at eS
 have k1:IntKind.wrap .u64 (e:Int)=(e:Int):=F5 (by omega)
 have k2:IntKind.wrap .u64 (C7 l)=(l.length:Int):=by unfold C7; exact F5 (by omega)
 have k3:IntKind.wrap .u8 c=c:=by rcases hc with rfl | rfl <;> rfl
 have k4:I5 .i64 (C7 l) 1=C7 l - 1:=A31 (by unfold C7; omega)
 have v1:=V2 F hF (b:=[c]) (by simp [C5h]) (v:=e) (by omega)
 have v2:=V2 F hF (b:=[c]++enc e) (by unfold C5h; simp; omega) (v:=l.length) (by omega)
 have v3:=A0P F hF (b:=[c]++enc e++enc l.length) (by unfold C5h; simp; omega) g0.1
 have v4:=A0P F hF (b:=[c]++enc e++enc l.length++enc (zz (tF l))) (by unfold C5h tF; simp; omega) g1.1
 have n0:inI 0 l.length=true:=by rw [G9]; omega
 have n1:inI (C7 l - 1) l.length=true:=by rw [G9]; unfold C7; omega
 have z0:ltI (e:Int) 0=false:=by rw [← Bool.not_eq_true,B8]; omega
 have z1:ltI 4611686018427387904 (e:Int)=false:=by rw [← Bool.not_eq_true,B8]; omega
 have z2:ltI (C7 l) 1=false:=by rw [← Bool.not_eq_true,B8]; unfold C7; omega
 have z3:ltI 4096 (C7 l)=false:=by rw [← Bool.not_eq_true,B8]; unfold C7; omega
 have hlenB:(T6 c e l x).length=(X1 c e l).length+(nE (dl (cn l))).length+(hd (cn x) (vl x)).length:=by unfold T6; simp only [List.length_append]
 have r1:K3 ((X1 c e l).length+(nE (dl (cn l))).length) 1=true:=by rw [K7]; have:=hB.2; omega
 have r2:K3 ((X1 c e l++nE (dl (cn l))).length+(hd (cn x) (vl x)).length) 1=true:=by rw [K7,List.length_append]; have:=hB.2; omega
 have q0:eqI (0:Int) 0=true:=rfl
 unfold tF at v4
 have hH:[c]++enc e++enc l.length++enc (zz (B9 (0,(0,())) l 0).1)++enc (zz (B9 (0,(0,())) l (C7 l - 1)).1)=X1 c e l:=rfl
 rw [hH] at v4
 unfold A1m A0Y A0G A0H A3Q A09
 rcases hc with rfl | rfl
 ·have em:=hm rfl
  rw [hcE] at em
  simp only [show eqI (2:Int) 0=false from rfl,show eqI (2:Int) 1=false from rfl,show eqI (2:Int) 2=true from rfl,cT,cF,bS,Bool.not_true,z0,z1,z2,z3,eT,eI,hi,q0,k1,k2,k3,k4,v1,v2,v3,v4,n0,n1,eS,show B8j (some 186) 186=true from rfl,em,r1,r2]
  rfl
 ·have em:=hn rfl
  rw [hcE] at em
  simp only [show eqI (3:Int) 0=false from rfl,show eqI (3:Int) 1=false from rfl,show eqI (3:Int) 2=false from rfl,show eqI (3:Int) 3=true from rfl,cT,cF,bS,Bool.not_true,z0,z1,z2,z3,eT,eI,hi,q0,k1,k2,k3,k4,v1,v2,v3,v4,n0,n1,eS,show B8j (some 187) 186=false from rfl,show B8j (some 187) 187=true from rfl,em,r1,r2]
  rfl
theorem B28(F:Nat)(hF:H8 F){l x:List Smp}(hl:A01 l)(hi:A3p (cn l)=true)(h0:0 < l.length)(h1:l.length≤4096)(hx:Acc x l.length){e:Nat}(he:e≤4611686018427387904){c:Int}(hc:c=2∨c=3):A4r F (T6 c e l x)=some ((c,((e:Int),((l.length:Int),(tF l,(tL l,()))))),((X1 c e l).length:Int),(0:Int),()):=by
 have g0:=A6h hl (i:=0) (by omega) (by omega)
 have g1:=A6h hl (i:=C7 l - 1) (by unfold C7; omega) (by unfold C7; omega)
 have hB:=A8F F hF hl hi h0 h1 hx he hc
 have h2:=hB.2
 obtain ⟨T,hT⟩:∃ T,nE (dl (cn l))++hd (cn x) (vl x)=T:=⟨_,rfl⟩
 have b1:T6 c e l x=[c]++(enc e++(enc l.length++(enc (zz (tF l))++(enc (zz (tL l))++T)))):=by unfold T6 X1; rw [← hT]; simp only [List.append_assoc]
 have b2:T6 c e l x=([c]++enc e)++(enc l.length++(enc (zz (tF l))++(enc (zz (tL l))++T))):=by rw [b1]; simp only [List.append_assoc]
 have b3:T6 c e l x=([c]++enc e++enc l.length)++(enc (zz (tF l))++(enc (zz (tL l))++T)):=by rw [b1]; simp only [List.append_assoc]
 have b4:T6 c e l x=([c]++enc e++enc l.length++enc (zz (tF l)))++(enc (zz (tL l))++T):=by rw [b1]; simp only [List.append_assoc]
 have r1:=rdU F hF (v:=e) (by omega) (b:=[c]) (rest:=enc l.length++(enc (zz (tF l))++(enc (zz (tL l))++T))) (by rw [← b1]; exact hB.1) (by rw [← b1]; omega)
 have r2:=rdU F hF (v:=l.length) (by omega) (b:=[c]++enc e) (rest:=enc (zz (tF l))++(enc (zz (tL l))++T)) (by rw [← b2]; exact hB.1) (by rw [← b2]; omega)
 have r3:=rdS F hF (v:=tF l) g0.1 (b:=[c]++enc e++enc l.length) (rest:=enc (zz (tL l))++T) (by rw [← b3]; exact hB.1) (by rw [← b3]; omega)
 have r4:=rdS F hF (v:=tL l) g1.1 (b:=[c]++enc e++enc l.length++enc (zz (tF l))) (rest:=T) (by rw [← b4]; exact hB.1) (by rw [← b4]; omega)
 rw [← b1] at r1
 rw [← b2] at r2
 rw [← b3] at r3
 rw [← b4] at r4
 have p1:(([c]:List Int).length:Int)=1:=rfl
 have p2:(([c]++enc e).length:Int)=1+(enc e).length:=by simp; omega
 have p3:(([c]++enc e++enc l.length).length:Int)=1+(enc e).length+(enc l.length).length:=by simp; omega
 have p4:(([c]++enc e++enc l.length++enc (zz (tF l))).length:Int)=1+(enc e).length+(enc l.length).length+(enc (zz (tF l))).length:=by simp; omega
 have p5:((X1 c e l).length:Int)=1+(enc e).length+(enc l.length).length+(enc (zz (tF l))).length+(enc (zz (tL l))).length:=by unfold X1; simp; omega
 rw [p1] at r1
 rw [p2] at r2
 rw [p3] at r3
 rw [p4] at r4
 obtain ⟨B,hBB⟩:∃ B,T6 c e l x=B:=⟨_,rfl⟩
 have gB:B9 0 (T6 c e l x) 0=c:=by rw [b1]; rfl
 have lB:0 < (T6 c e l x).length:=by rw [b1]; simp
 rw [hBB] at r1 r2 r3 r4 gB lB ⊢
 have y1:eqI (C7 B) 0=false:=by rw [← Bool.not_eq_true,D1]; unfold C7; omega
 have y2:inI 0 B.length=true:=by rw [G9]; omega
 have y3:ltI 4 c=false:=by rw [← Bool.not_eq_true,B8]; omega
 have y4:IntKind.wrap .i64 c=c:=Q6 (by omega)
 have y5:eqI c 0=false:=by rw [← Bool.not_eq_true,D1]; omega
 have y6:ltI 4611686018427387904 (e:Int)=false:=by rw [← Bool.not_eq_true,B8]; omega
 have y7:ltI (l.length:Int) 1=false:=by rw [← Bool.not_eq_true,B8]; omega
 have y8:ltI 4096 (l.length:Int)=false:=by rw [← Bool.not_eq_true,B8]; omega
 have y9:IntKind.wrap .i64 (e:Int)=e:=Q6 (by omega)
 have ya:IntKind.wrap .i64 (l.length:Int)=l.length:=Q6 (by omega)
 have q0:eqI (0:Int) 0=true:=rfl
 unfold A4r A19
 simp only [y1,y2,gB,y3,y4,y5,cT,cF,r1,r2,r3,r4,bS,q0,Bool.not_true,y6,y7,y8,y9,ya]
 rw [p5]
theorem B4x(F:Nat){x:List Smp}(hx:A01 x)(h1:∀ c∈cn x,1≤c)(hs:A2a (cn x)≤4096)(hb:x.length≤4096):∀ (rest pre:List Smp) (o:List Int),x=pre++rest→(o.length:Int)=A2a (cn pre)→∀ N,rest.length < N →
  ∃ o':List Int,(o'.length:Int)=A2a (cn x)∧∀ {R:Type} (k:List Int→Option R),H2 F k N o x (C7 x) (pre.length:Int)=k o':=by
 intro rest
 induction rest with
 | nil =>
  intro pre o hl ho N hN
  obtain ⟨N,rfl⟩:∃ M,N=M+1:=⟨N - 1,by omega⟩
  have e:x=pre:=by simpa using hl
  subst e
  refine ⟨o,ho,fun k=>?_⟩
  unfold H2
  rw [show ltI (x.length:Int) (C7 x)=false by rw [← Bool.not_eq_true,B8]; unfold C7; omega,cF]
 | cons y rest ih =>
  intro pre o hl ho N hN
  obtain ⟨N,rfl⟩:∃ M,N=M+1:=⟨N - 1,by omega⟩
  simp only [List.length_cons] at hN
  have hlen:x.length=pre.length+(rest.length+1):=by rw [hl]; simp
  have g:B9 (0,(0,())) x (pre.length:Int)=y:=by rw [hl]; exact A4x pre y rest
  have hall:=h1
  rw [hl,B8h] at hall
  have hy:1≤y.1:=hall y.1 (by simp [cn])
  have hr:∀ c∈cn rest,1≤c:=fun c hc=>hall c (by simp [cn] at hc ⊢; exact .inr (.inr hc))
  have hp:∀ c∈cn pre,1≤c:=fun c hc=>hall c (by simp [cn] at hc ⊢; exact .inl hc)
  have e1:A2a (cn x)=A2a (cn pre)+(y.1+A2a (cn rest)):=by rw [hl,B8h,A7i]; rfl
  have n1:=(A8A hr).1
  have n2:=(A8A hp).1
  have hrep:U3 F [y.2.1] y.1=some (List.replicate y.1.toNat y.2.1,()):=by
   unfold U3
   rw [show(Nat.beq [y.2.1].length 1 && leI 0 y.1 && leI y.1 65536)=true by simp only [Bool.and_eq_true,H7]; exact ⟨⟨rfl,by omega⟩,by omega⟩]
   rfl
  obtain ⟨o',q1,q2⟩:=ih (pre++[y]) (o++List.replicate y.1.toNat y.2.1) (by rw [hl]; simp) (by rw [List.length_append,List.length_replicate,B8h,A7i,show A2a (cn [y])=y.1 by simp [cn,A2a]]; omega) N (by omega)
  rw [show(((pre++[y]).length:Nat):Int)=(pre.length:Int)+1 by simp] at q2
  have y1:ltI (pre.length:Int) (C7 x)=true:=by rw [B8]; unfold C7; omega
  have y2:inI (pre.length:Int) x.length=true:=by rw [G9]; omega
  have y3:leI 1 y.1=true:=by rw [H7]; exact hy
  have y4:leI y.1 1073741824=true:=by rw [H7]; omega
  have y5:D5 .i64 (pre.length:Int) 1=(pre.length:Int)+1:=H4 (by omega)
  have y6:K3 (o.length+(List.replicate y.1.toNat y.2.1).length) 8=true:=by rw [K7,List.length_replicate]; omega
  refine ⟨o',q1,fun k=>?_⟩
  unfold H2 Q8
  simp only [y1,y2,y3,y4,y6,cT,g,hrep,bS,y5]
  exact q2 k
theorem C3A(F:Nat){R:Type}(k:List Smp→Option R){a b:List Int}(hab:a.length=b.length)(hb:a.length≤1000000):∀ (m i:Nat) (o:List Smp),i+m=a.length→o.length=a.length→∀ N,m < N→∃ o',W6 F k N a b o (a.length:Int) (i:Int)=k o':=by
 intro m
 induction m with
 | zero =>
  intro i o hi ho N hN
  obtain ⟨N,rfl⟩:∃ M,N=M+1:=⟨N - 1,by omega⟩
  refine ⟨o,?_⟩
  unfold W6
  rw [show ltI (i:Int) (a.length:Int)=false by rw [← Bool.not_eq_true,B8]; omega,cF]
 | succ m ih =>
  intro i o hi ho N hN
  obtain ⟨N,rfl⟩:∃ M,N=M+1:=⟨N - 1,by omega⟩
  obtain ⟨o',h⟩:=ih (i+1) (T2 o (i:Int) (B9 0 a (i:Int),(B9 0 b (i:Int),()))) (by omega) (by simp [T2]; exact ho) N (by omega)
  refine ⟨o',?_⟩
  unfold W6
  simp only [show ltI (i:Int) (a.length:Int)=true by rw [B8]; omega,show inI (i:Int) a.length=true by rw [G9]; omega,show inI (i:Int) b.length=true by rw [G9]; omega,show inI (i:Int) o.length=true by rw [G9]; omega,cT,show D5 .i64 (i:Int) 1=((i+1:Nat):Int) by rw [H4 (by omega)]; omega]
  exact h
theorem A93(F:Nat)(hF:H8 F){a b:List Int}(hb:a.length≤1000000):∃ o c,A3b F a b=some (o,c,()):=by
 unfold H8 at hF
 unfold A3b
 by_cases h:a.length=b.length
 ·have e:eqI (C7 a) (C7 b)=true:=by rw [D1]; unfold C7; omega
  have m:Y8 (C7 a) (C7 a) 16=true:=by rw [V4]; unfold C7; omega
  have hr:C7 (I7 (C7 a) ((0,(0,())):Smp))=(a.length:Int):=by unfold C7; rw [A2l]
  obtain ⟨o',q⟩:=C3A F (fun z12=>some (z12,(true,()))) h hb a.length 0 (I7 (C7 a) ((0,(0,())):Smp)) (by omega) (by unfold C7; rw [A2l]) F (by omega)
  rw [e,Bool.not_true,cF,m,cT,hr]
  exact ⟨o',true,q⟩
 ·have e:eqI (C7 a) (C7 b)=false:=by rw [← Bool.not_eq_true,D1]; unfold C7; omega
  rw [e]
  exact ⟨_,_,rfl⟩
theorem C3B(l:List Smp){i:Int}(h0:0≤i)(h1:i < l.length):B9 0 (cn l) i=(B9 (0,(0,())) l i).1:=by
 obtain ⟨i,rfl⟩:=Int.eq_ofNat_of_zero_le h0
 have hi:i < l.length:=by omega
 simp [B9,cn,List.getD_eq_getElem?_getD,hi]
theorem A2G(F:Nat)(hF:H8 F){l x:List Smp}(hl:A01 l)(hi:A3p (cn l)=true)(h0:0 < l.length)(h1:l.length≤4096)(hx:Acc x l.length){e:Nat}(he:e≤4611686018427387904){c:Int}(hc:c=2∨c=3) :
  Z6 F (T6 c e l x)=some ((x.length:Int),0,()):=by
 have eH:=B28 F hF hl hi h0 h1 hx he hc
 have hB:=A8F F hF hl hi h0 h1 hx he hc
 have hH:=B4w F hF hl h0 h1 he hc
 have hcl:=P8 l
 have hxl:=hx.len
 have hf:=hx.fits (by omega)
 have hw:=C5k (C3g hl) (A5F hi)
 have b3:=B24 hf (by rw [P8]; omega) (B9A hx.1) (by rw [A02]; omega)
 -- the times
 have eS:A0I F (T6 c e l x) ((X1 c e l).length:Int) (tF l) (l.length:Int)=some (cn l,((X1 c e l).length:Int)+(nE (dl (cn l))).length,0,()):=by
  obtain ⟨p,t,hpt⟩:∃ p t,cn l=p::t:=by
   cases h:cn l with
   | nil=>rw [h] at hcl; simp at hcl; omega
   | cons p t=>exact ⟨p,t,rfl⟩
  have hp:tF l=p:=by
   have:=C3B l (i:=0) (by omega) (by omega)
   unfold tF
   rw [← this,hpt]; rfl
  have hn:(l.length:Int)=((p::t).length:Int):=by rw [← hpt,hcl]
  have hbs:T6 c e l x=X1 c e l++(nE (dl (p::t))++hd (cn x) (vl x)):=by unfold T6; rw [hpt,List.append_assoc]
  have htl:t.length < 65536:=by
   have:(p::t).length=l.length:=by rw [← hpt,hcl]
   simp only [List.length_cons] at this
   omega
  have:=B4l F hF (p:=p) (t:=t) (by rw [← hpt]; exact C3g hl) (by rw [← hpt]; exact hi) htl (b:=X1 c e l) (rest:=hd (cn x) (vl x)) hH.1 b3.2 (by rw [← hbs]; have:=hB.2; omega)
  rw [← hbs,← hn,← hpt,← hp] at this
  exact this
 -- the segments
 have hbc:T6 c e l x=(X1 c e l++nE (dl (cn l)))++(hd (cn x) (vl x)++[]):=by unfold T6; simp only [List.append_nil]
 have hP:(((X1 c e l++nE (dl (cn l))).length:Nat):Int)=((X1 c e l).length:Int)+(nE (dl (cn l))).length:=by simp
 have eC:=B4q F hF hx.1 hf (by omega) (b:=X1 c e l++nE (dl (cn l))) (rest:=[]) (hH.1.append (B9t hw)) (by intro y hy; cases hy) (by rw [← hbc]; have:=hB.2; omega)
 rw [← hbc,hP,hx.2.2] at eC
 obtain ⟨o,q1,q2⟩:=B4x F hx.1 hx.2.1 (by rw [hx.2.2]; omega) (by omega) x [] [] rfl rfl F (by unfold H8 at hF; omega)
 have eR:A0X F x=some (o,()):=q2 (fun z18=>some (z18,()))
 obtain ⟨j,jc,eJ⟩:=A93 F hF (a:=cn l) (b:=o) (by omega)
 have y1:I5 .i64 (C7 (cn l)) 1=C7 l - 1:=by unfold C7; rw [hcl]; exact A31 (by omega)
 have y2:inI (C7 l - 1) (cn l).length=true:=by rw [G9]; unfold C7; omega
 have y3:eqI (B9 0 (cn l) (C7 l - 1)) (tL l)=true:=by
  rw [D1,C3B l (by unfold C7; omega) (by unfold C7; omega)]; rfl
 have y4:C7 (cn l)=(l.length:Int):=by unfold C7; omega
 have y5:ltI (((X1 c e l).length:Int)+(nE (dl (cn l))).length+(hd (cn x) (vl x)).length) (C7 (T6 c e l x))=false:=by
  rw [← Bool.not_eq_true,B8]
  have:(T6 c e l x).length=(X1 c e l).length+(nE (dl (cn l))).length+(hd (cn x) (vl x)).length:=by unfold T6; simp only [List.length_append]
  unfold C7; omega
 have q0:eqI (0:Int) 0=true:=rfl
 have hst:P6 F () (T6 c e l x) (((X1 c e l).length:Int)+(nE (dl (cn l))).length) (cn l) e=some (o,(x.length:Int),((X1 c e l).length:Int)+(nE (dl (cn l))).length+(hd (cn x) (vl x)).length,0,()):=by
  unfold P6
  simp only [y4,eC,bS,q0,Bool.not_true,cF,eR]
  rfl
 obtain ⟨B,hBB⟩:∃ B,T6 c e l x=B:=⟨_,rfl⟩
 rw [hBB] at eH eS hst y5 ⊢
 unfold Z6 A3S
 rcases hc with rfl | rfl
 ·simp only [eH,bS,q0,Bool.not_true,cF,eS,y1,y2,cT,y3]
  unfold A0Y V0
  simp only [show eqI (2:Int) 0=false from rfl,show eqI (2:Int) 1=false from rfl,show eqI (2:Int) 2=true from rfl,cT,cF,bS,show B8j (some 186) 186=true from rfl,hst,q0,Bool.not_true,y5,eJ]
 ·simp only [eH,bS,q0,Bool.not_true,cF,eS,y1,y2,cT,y3]
  unfold A0Y V0
  simp only [show eqI (3:Int) 0=false from rfl,show eqI (3:Int) 1=false from rfl,show eqI (3:Int) 2=false from rfl,show eqI (3:Int) 3=true from rfl,cT,cF,bS,show B8j (some 187) 186=false from rfl,show B8j (some 187) 187=true from rfl,hst,q0,Bool.not_true,y5,eJ]
theorem A01.snoc{o:List Smp}(h:A01 o){a b:Int}(ha:I64 a)(hb:I64 b):A01 (o++[(a,(b,()))]):=fun s hs=>by
 rcases List.mem_append.1 hs with e | e
 ·exact h s e
 ·have e:=List.mem_singleton.1 e
  subst e
  exact ⟨ha,hb⟩
theorem A6i(F:Nat)(hF:H8 F){t:List Int×Int×Unit}(h:Q4 t) :
  ∃ t' l,A15 F t 40=some (t',l,())∧Q4 t'∧A01 l∧A3p (cn l)=true∧0 < l.length∧l.length≤40:=by
 obtain ⟨t5,l,eS,q1,q2,q3,q4⟩:=A40 F hF h (n:=40) (by omega)
 unfold A15
 simp only [eS,bS]
 by_cases c:l.length=0
 ·obtain ⟨t6,a,e6,h6,ha⟩:=V3 F hF q1
  obtain ⟨t7,v,e7,h7,hv⟩:=V3 F hF h6
  refine ⟨t7,[(a,(v,()))],?_,h7,?_,rfl,by simp,by simp⟩
  ·simp only [show eqI (C7 l) 0=true by rw [D1]; unfold C7; omega,cT,e6,e7,bS]
  ·intro s hs
   have e:=List.mem_singleton.1 hs
   subst e
   exact ⟨ha,hv⟩
 ·refine ⟨t5,l,?_,q1,q2,q4,by omega,by omega⟩
  simp only [show eqI (C7 l) 0=false by rw [← Bool.not_eq_true,D1]; unfold C7; omega,cF]
theorem A3t(F:Nat)(hF:H8 F){t:List Int×Int×Unit}(h:Q4 t):∃ (t':List Int×Int×Unit) (e:Nat),U0 F t=some (t',(e:Int),())∧Q4 t'∧e≤4611686018427387904:=by
 obtain ⟨t1,k,e1,h1,k0,k1⟩:=A8 F h (n:=8) (by omega)
 unfold U0
 simp only [e1,bS]
 by_cases c0:k=0
 ·refine ⟨t1,0,?_,h1,by omega⟩
  simp only [show eqI k 0=true by rw [D1]; exact c0,cT]
  rfl
 ·by_cases c1:k=1
  ·obtain ⟨t2,v,e2,h2,v0,v1⟩:=A8 F h1 (n:=2) (by omega)
   refine ⟨t2,(4611686018427387904 - v).toNat,?_,h2,by omega⟩
   simp only [show eqI k 0=false by rw [← Bool.not_eq_true,D1]; exact c0,show eqI k 1=true by rw [D1]; exact c1,cT,cF,e2,bS,A31 (show -9223372036854775808≤4611686018427387904 - v∧4611686018427387904 - v≤9223372036854775807 by omega)]
   rw [Int.toNat_of_nonneg (by omega)]
  ·by_cases c2:k=2
   ·obtain ⟨t2,w,e2,h2,w0,w1⟩:=T0 F hF h1
    obtain ⟨t3,v,e3,h3,v0,v1⟩:=A8 F h2 (n:=60) (by omega)
    have a1:D5 .i64 2 v=2+v:=H4 (by omega)
    have a2:IntKind.wrap .u64 (2+v)=2+v:=F5 (by omega)
    have hsh:A0q .u64 w (2+v)≤4611686018427387903:=by
     obtain ⟨n,rfl⟩:=Int.eq_ofNat_of_zero_le w0
     rw [A2d (by omega)]
     simp only [IntKind.bits]
     have h4:min (2+v).toNat 64=2+(min (2+v).toNat 64 - 2):=by omega
     rw [h4,Nat.pow_add,← Nat.div_div_eq_div_mul]
     have:=Nat.div_le_self ((n:Int).toNat / 2 ^ 2) (2 ^ (min (2+v).toNat 64 - 2))
     have h5:(n:Int).toNat / 2 ^ 2≤4611686018427387903:=by
      have:Int.ofNat n=(n:Int):=rfl
      omega
     exact Int.le_trans (Int.ofNat_le.2 (Nat.le_trans this h5)) (by omega)
    have hs0:=(A60 (kd:=.u64) (s:=2+v) w0).1
    have a3:IntKind.wrap .i64 (A0q .u64 w (2+v))=A0q .u64 w (2+v):=Q6 (by omega)
    refine ⟨t3,(A0q .u64 w (2+v)).toNat,?_,h3,by omega⟩
    simp only [show eqI k 0=false by rw [← Bool.not_eq_true,D1]; exact c0,show eqI k 1=false by rw [← Bool.not_eq_true,D1]; exact c1,show eqI k 2=true by rw [D1]; exact c2,cT,cF,e2,e3,bS,a1,a2,show ltI (2+v) 0=false by rw [← Bool.not_eq_true,B8]; omega,a3]
    rw [Int.toNat_of_nonneg hs0]
   ·obtain ⟨t2,v,e2,h2,v0,v1⟩:=A8 F h1 (n:=30) (by omega)
    refine ⟨t2,v.toNat,?_,h2,by omega⟩
    simp only [show eqI k 0=false by rw [← Bool.not_eq_true,D1]; exact c0,show eqI k 1=false by rw [← Bool.not_eq_true,D1]; exact c1,show eqI k 2=false by rw [← Bool.not_eq_true,D1]; exact c2,cF,e2,bS]
    rw [Int.toNat_of_nonneg v0]
theorem B4y(F:Nat)(a b:Int):∃ v c,A5z F a b=some (v,c,())∧I64 v:=by
 have key:I64 (D5 .i64 a b):=A7j _
 have z:I64 0:=by unfold I64; omega
 unfold A5z
 generalize D5 .i64 a b=s at *
 cases ltI 0 a <;> cases ltI 0 b <;> cases leI s 0 <;> cases ltI a 0 <;> cases ltI b 0 <;> cases leI 0 s <;> first | exact ⟨_,_,rfl,key⟩ | exact ⟨_,_,rfl,z⟩
theorem B29(F:Nat){a b e:Int}(ha:I64 a)(hb:I64 b)(he:0≤e∧e≤4611686018427387904):∃ r,A4s F a b e=some (r,())∧(r=true→b - e≤a∧a≤b+e):=by
 have hd:A1a F a b=some (max a b - min a b,()):=by
  unfold A1a
  unfold I64 at ha hb
  cases c:ltI a b with
  | true =>
   rw [B8] at c
   have:I5 .u64 (IntKind.wrap .u64 b) (IntKind.wrap .u64 a)=max a b - min a b:=by
    show IntKind.u64.wrap _=_
    rw [C4,C4,C4]; omega
   rw [cT,this]
  | false =>
   rw [← Bool.not_eq_true,B8] at c
   have:I5 .u64 (IntKind.wrap .u64 a) (IntKind.wrap .u64 b)=max a b - min a b:=by
    show IntKind.u64.wrap _=_
    rw [C4,C4,C4]; omega
   rw [cF,this]
 unfold A4s
 rw [show leI 0 e=true by rw [H7]; exact he.1,cT,hd,F5 (by omega)]
 refine ⟨_,rfl,fun h=>?_⟩
 rw [H7] at h
 omega
def A2u(d:Int):List Smp→List Smp→Prop
 | [],[]=>True
 | x::a,y::b=>(x.2.1 - d≤y.2.1∧y.2.1≤x.2.1+d)∧A2u d a b
 | _,_=>False
theorem A2u.snoc{d:Int}:∀ {a b:List Smp} {x y:Smp},A2u d a b→x.2.1 - d≤y.2.1→y.2.1≤x.2.1+d→A2u d (a++[x]) (b++[y])
 | [],[],_,_,_,h1,h2=>⟨⟨h1,h2⟩,trivial⟩
 | _::_,_::_,_,_,h,h1,h2=>⟨h.1,A2u.snoc h.2 h1 h2⟩
 | [],_::_,_,_,h,_,_=>h.elim
 | _::_,[],_,_,h,_,_=>h.elim
theorem A2u.len{d:Int}:∀ {a b:List Smp},A2u d a b→a.length=b.length
 | [],[],_=>rfl
 | _::_,_::_,h=>congrArg (·+1) (A2u.len h.2)
 | [],_::_,h=>h.elim
 | _::_,[],h=>h.elim
theorem A2u.pairs{d:Int}:∀ {a b:List Smp},A01 a→A01 b→A2u d a b→∃ zs:List (Int×Int),zs.map (·.1)=vl a∧zs.map (·.2)=vl b∧∀ p∈zs,I64 p.1∧I64 p.2∧p.1 - d≤p.2∧p.2≤p.1+d
 | [],[],_,_,_=>⟨[],rfl,rfl,fun p hp=>by cases hp⟩
 | x::a,y::b,ha,hb,h=>by
  obtain ⟨zs,h1,h2,h3⟩:=A2u.pairs (fun s hs=>ha s (by simp [hs])) (fun s hs=>hb s (by simp [hs])) h.2
  refine ⟨(x.2.1,y.2.1)::zs,by simp only [List.map_cons,h1]; rfl,by simp only [List.map_cons,h2]; rfl,fun p hp=>?_⟩
  rcases List.mem_cons.1 hp with e | e
  ·subst e; exact ⟨(ha x (by simp)).2,(hb y (by simp)).2,h.1.1,h.1.2⟩
  ·exact h3 p e
 | [],_::_,_,_,h=>h.elim
 | _::_,[],_,_,h=>h.elim
theorem A2u.refl{d:Int}(hd:0≤d):∀ a:List Smp,A2u d a a
 | []=>trivial
 | x::a=>⟨by omega,A2u.refl hd a⟩
theorem C3C(F:Nat)(hF:H8 F){l:List Smp}(hl:A01 l)(hb:l.length≤1000000){d:Int}(hd:0≤d∧d≤4611686018427387904)(x5 x10:Int):∀ (rest pre pre':List Smp) (t:List Int×Int×Unit),l=pre++rest→A2u d pre pre'→A01 pre'→Q4 t→∀ N,rest.length < N →
  ∃ o,A01 o∧A2u d l o∧∀ (R:Type) (k:Int→Int→Int→List Smp→Option R),D3 F k N t x5 x10 d (pre'++rest) (pre.length:Int)=k x5 x10 d o:=by
 intro rest
 induction rest with
 | nil =>
  intro pre pre' t he hc hp ht N hN
  obtain ⟨N,rfl⟩:∃ M,N=M+1:=⟨N - 1,by omega⟩
  have e:l=pre:=by simpa using he
  subst e
  have hlen:=hc.len
  refine ⟨pre',hp,hc,fun R k=>?_⟩
  unfold D3
  rw [List.append_nil,show ltI (l.length:Int) (C7 pre')=false by rw [← Bool.not_eq_true,B8]; unfold C7; omega,cF]
 | cons x rest ih =>
  intro pre pre' t he hc hp ht N hN
  obtain ⟨N,rfl⟩:∃ M,N=M+1:=⟨N - 1,by omega⟩
  simp only [List.length_cons] at hN
  have hlen:=hc.len
  have hll:l.length=pre.length+(rest.length+1):=by rw [he]; simp
  have hx:=hl x (by rw [he]; simp)
  have g:B9 (0,(0,())) (pre'++x::rest) (pre.length:Int)=x:=by rw [hlen]; exact A4x pre' x rest
  have y1:ltI (pre.length:Int) (C7 (pre'++x::rest))=true:=by rw [B8]; unfold C7; simp; omega
  have y2:inI (pre.length:Int) (pre'++x::rest).length=true:=by rw [G9]; simp; omega
  have y4:D5 .i64 (pre.length:Int) 1=(pre.length:Int)+1:=H4 (by omega)
  obtain ⟨t1,v,e1,ht1,_,_⟩:=A8 F ht (n:=9) (by omega)
  obtain ⟨s,c,e2,hs⟩:=B4y F x.2.1 (I5 .i64 v 4)
  have fin:∀ (y:Smp),A01 (pre'++[y])→x.2.1 - d≤y.2.1→y.2.1≤x.2.1+d→(∀ (R:Type) (k:Int→Int→Int→List Smp→Option R),D3 F k (N+1) t x5 x10 d (pre'++x::rest) (pre.length:Int)=D3 F k N t1 x5 x10 d (pre'++[y]++rest) ((pre.length:Int)+1)) →
    ∃ o,A01 o∧A2u d l o∧∀ (R:Type) (k:Int→Int→Int→List Smp→Option R),D3 F k (N+1) t x5 x10 d (pre'++x::rest) (pre.length:Int)=k x5 x10 d o:=by
   intro y hy c1 c2 e
   obtain ⟨o,q1,q2,q3⟩:=ih (pre++[x]) (pre'++[y]) t1 (by rw [he]; simp) (hc.snoc c1 c2) hy ht1 N (by omega)
   refine ⟨o,q1,q2,fun R k=>?_⟩
   rw [e R k]
   have:=q3 R k
   rwa [show(((pre++[x]).length:Nat):Int)=(pre.length:Int)+1 by simp] at this
  have stay:(∀ (R:Type) (k:Int→Int→Int→List Smp→Option R),D3 F k (N+1) t x5 x10 d (pre'++x::rest) (pre.length:Int)=D3 F k N t1 x5 x10 d (pre'++x::rest) ((pre.length:Int)+1)) →
    ∃ o,A01 o∧A2u d l o∧∀ (R:Type) (k:Int→Int→Int→List Smp→Option R),D3 F k (N+1) t x5 x10 d (pre'++x::rest) (pre.length:Int)=k x5 x10 d o:=by
   intro e
   refine fin x ?_ (by omega) (by omega) fun R k=>?_
   ·intro q hq
    rcases List.mem_append.1 hq with h | h
    ·exact hp q h
    ·have h:=List.mem_singleton.1 h
     subst h
     exact hx
   ·rw [e R k,List.append_assoc]; rfl
  cases c with
  | false =>
   refine stay fun R k=>?_
   conv=>lhs; unfold D3
   simp only [y1,y2,cT,e1,bS,g,e2,cF,y4]
  | true =>
   obtain ⟨r,e3,hr⟩:=B29 F hs hx.2 hd
   cases r with
   | false =>
    refine stay fun R k=>?_
    conv=>lhs; unfold D3
    simp only [y1,y2,cT,e1,bS,g,e2,e3,cF,y4]
   | true =>
    have hr:=hr rfl
    refine fin (x.1,(s,x.2.2)) (hp.snoc hx.1 hs) hr.1 hr.2 fun R k=>?_
    have st:T2 (pre'++x::rest) (pre.length:Int) (x.1,(s,x.2.2))=pre'++[(x.1,(s,x.2.2))]++rest:=by
     rw [hlen]; exact B8b pre' x _ rest
    conv=>lhs; unfold D3
    simp only [y1,y2,cT,e1,bS,g,e2,e3,y4,st]
theorem C3D{l:List Smp}(h:A01 l):∀ x∈vl l,I64 x:=B9A h
theorem B8i{d:Int}{S T:Type}{rA:S→Option (Int×Int)}{rB:T→Option (Int×Int)}{sA:S}{sB:T}{oA oB qA qB:List Smp}(h:D4G d (rA sA) (rB sB) oA.length oB.length)(hA:qA.length=if rA sA=none then 0 else 1)(hB:qB.length=if rB sB=none then 0 else 1):(oA++qA).length≤(oB++qB).length:=by
 rw [List.length_append,List.length_append,hA,hB]
 rcases h with ⟨a,b,e⟩ | ⟨p,q,a,b,e⟩
 ·rw [iP a,iP b]; omega
 ·rw [iN (by rw [a]; simp),iN (by rw [b]; simp)]; omega
theorem B2a(F:Nat)(hF:H8 F){t:List Int}(htl:(t.length:Int)≤140737488355328)(ht:∀ x∈t,I64 x):A3T F t=some (true,()):=by
 obtain ⟨t1,e1,h1⟩:=B5D F htl ht
 obtain ⟨t2,l,e2,h2,hl,hi,l0,l1⟩:=A6i F hF h1
 obtain ⟨t3,e,e3,h3,he⟩:=A3t F hF h2
 have he':0≤(e:Int)∧(e:Int)≤4611686018427387904:=by omega
 have hvl:=A02 l
 -- midrange and mean
 obtain ⟨sA,oA,⟨qA,_⟩,a1,a2,a3,a4,a5⟩:=A43 F he' (l:=vl l) (by omega) (C3D hl)
 obtain ⟨sB,oB,⟨qB,_⟩,b1,b2,b3,b4,b5⟩:=B5Q F hF he' (l:=vl l) (by omega) (C3D hl)
 rw [hvl] at a5 b5
 have q0:eqI (0:Int) 0=true:=rfl
 have cA:N6 F ((),()) l e=some ((cE (oA++qA)).1,(cE (oA++qA)).2,()):=by
  unfold N6
  simp only [A3q F hF (l:=l) (by omega),bS,a4,q0,Bool.not_true,cF,A28 F hF a5.1]
 have cB:L4 F ((),()) l e=some ((cE (oB++qB)).1,(cE (oB++qB)).2,()):=by
  unfold L4
  simp only [A3q F hF (l:=l) (by omega),bS,b4,q0,Bool.not_true,cF,A28 F hF b5.1]
 have encA:=A47 F hF hl hi l0 (by omega) a5 he (.inl rfl) (fun _=>cA) (fun h=>absurd h (by decide))
 have encB:=A47 F hF hl hi l0 (by omega) b5 he (.inr rfl) (fun h=>absurd h (by decide)) (fun _=>cB)
 have segA:=A2G F hF hl hi l0 (by omega) a5 he (.inl rfl)
 have segB:=A2G F hF hl hi l0 (by omega) b5 he (.inr rfl)
 have hA:∀ k s v r,k < 1000000→I64 v→B9B (e:Int) k s→K2 F s v=some r→B9B (e:Int) (k+1) r.1∧((Ext rgM s r.1 v (2*(e:Int))∧r.2.1.length=0)∨(New rgM s r.1 v r.2.1.length∧∀ a b,rgM s=some (a,b)→2*(e:Int) < max b v - min a v)):=by
  intro k s v r hk hv hs hr
  refine ⟨?_,A5K F he' (by omega) hs hv hr⟩
  obtain ⟨r',p1,p2,_⟩:=A0b F he' (by omega) hs hv
  rw [hr] at p1; cases p1; exact p2
 have iA:B9B (e:Int) 0 ((e:Int),(0,(0,(0,())))):=⟨rfl,by simp,by unfold I64; simp,by unfold I64; simp,fun _=>Int.le_refl _⟩
 have le1:(oA++qA).length≤(oB++qB).length:=by
  obtain ⟨zs,z1,z2,z3⟩:=A2u.pairs hl hl (A2u.refl (d:=0) (Int.le_refl _) l)
  have hz:zs.length=l.length:=by rw [← hvl,← z1]; simp
  rw [← z1] at a1
  rw [← z2] at b1
  refine B8i (d:=0) (rA:=rgM) (rB:=rgN) (D8C (IA:=B9B (e:Int)) (IB:=C3H (e:Int)) (P:=I64) (N:=1000000) (wA:=2*(e:Int)) (wB:=2*(e:Int)) (d:=0) hA (fun k s v r hk hv hs hr=>?_) (Int.le_refl _) (by omega) zs z3 0 (by omega) _ _ [] [] _ _ _ _ iA ⟨rfl,by simp,by unfold I64; simp,by unfold I64; simp,D0r⟩ a1 b1 (.inl ⟨rfl,rfl,rfl⟩)) a3 b3
  refine ⟨?_,C3z F hF he' (by omega) hs hv hr⟩
  obtain ⟨r',p1,p2,_⟩:=A46 F hF he' (by omega) hs hv
  rw [hr] at p1; cases p1; exact p2
 -- values that differ a little
 have hq:A4L .i64 (e:Int) 2=(e:Int) / 2:=C0q (by omega) (.inl rfl) (by omega) (by omega)
 have hd:0≤(e:Int) / 2∧(e:Int) / 2≤4611686018427387904:=by omega
 obtain ⟨o,w1,w2,w3⟩:=C3C F hF hl (by omega) hd (e:Int) ((oA++qA).length:Int) l [] [] t3 rfl trivial (fun s hs=>by cases hs) h3 F (by unfold H8 at hF; omega)
 have hol:=w2.len
 have hvo:=A02 o
 have he2:0≤(e:Int) - (e:Int) / 2∧(e:Int) - (e:Int) / 2≤4611686018427387904:=by omega
 obtain ⟨sC,oC,⟨qC,_⟩,c1,c2,c3,c4,c5⟩:=A43 F he2 (l:=vl o) (by omega) (C3D w1)
 have le2:(oA++qA).length≤(oC++qC).length:=by
  obtain ⟨zs,z1,z2,z3⟩:=A2u.pairs hl w1 w2
  have hz:zs.length=l.length:=by rw [← hvl,← z1]; simp
  rw [← z1] at a1
  rw [← z2] at c1
  refine B8i (d:=(e:Int) / 2) (rA:=rgM) (rB:=rgM) (D8C (IA:=B9B (e:Int)) (IB:=B9B ((e:Int) - (e:Int) / 2)) (P:=I64) (N:=1000000) (wA:=2*(e:Int)) (wB:=2*((e:Int) - (e:Int) / 2)) (d:=(e:Int) / 2) hA (fun k s v r hk hv hs hr=>?_) hd.1 (by omega) zs z3 0 (by omega) _ _ [] [] _ _ _ _ iA ⟨rfl,by simp,by unfold I64; simp,by unfold I64; simp,fun _=>Int.le_refl _⟩ a1 c1 (.inl ⟨rfl,rfl,rfl⟩)) a3 c3
  refine ⟨?_,(A5K F he2 (by omega) hs hv hr).imp id fun h=>h.1⟩
  obtain ⟨r',p1,p2,_⟩:=A0b F he2 (by omega) hs hv
  rw [hr] at p1; cases p1; exact p2
 have f1:ltI ((oB++qB).length:Int) ((oA++qA).length:Int)=false:=by rw [← Bool.not_eq_true,B8]; omega
 have f2:K3 (0+l.length) 16=true:=by rw [K7]; omega
 have f3:I5 .i64 (e:Int) ((e:Int) / 2)=(e:Int) - (e:Int) / 2:=A31 (by omega)
 have f4:leI ((oA++qA).length:Int) (C7 (oC++qC))=true:=by rw [H7]; unfold C7; omega
 unfold A3T
 simp only [e1,e2,e3,encA,encB,segA,segB,bS,q0,Bool.not_true,cF,f1,f2,cT,hq]
 have:=w3 (Bool×Unit) (fun z27 z28 z29 z30=>(A2j F z30).bind fun r31=>(A0o F r31.1 (I5 .i64 z27 z29)).bind fun r33=>(B0W F).bind fun r34=>bif r34.1 then bif eqI r33.2.1 0 then some (leI z28 (C7 r33.1),()) else some (false,()) else some (false,()))
 refine Eq.trans this ?_
 simp only [A8E F hF (l:=o) (by omega),bS,f3,c4,q0,cT,f4,B0W]
end Go.Proofs.YtppoifpabafdlaaGreat
