/- The laws of the models, part C. -/
import Derived.Test.YtdhfajmcakneiaaGreatLawsB
import Derived.Test.YtdhfajmcakneiaaGreatEngE
set_option linter.unusedVariables false
set_option linter.unusedSimpArgs false
namespace Go.Proofs.YtdhfajmcakneiaaGreat
open Go.Eng
abbrev Smp:=Int×Int×Unit
def Z3(l:List Smp):Prop:=∀ s∈l,I64 s.1∧I64 s.2.1
theorem Z3.push{l:List Smp}(h:Z3 l){a b:Int}(ha:I64 a)(hb:I64 b):Z3 (l++[(a,(b,()))]):=by
 intro s hs
 rcases List.mem_append.1 hs with h1 | h1
 ·exact h s h1
 ·simp at h1; subst h1; exact ⟨ha,hb⟩
theorem Aj6(F:Nat)(hF:A9 F)(kd slope:Int){times:List Int}(hT:Sg times)(hTl:times.length≤1000):∀ (m i:Nat) (t:List Int×Int×Unit) (l:List Smp) (v:Int),i+m=times.length→Em t→Z3 l→I64 v→l.length=i →
  ∀ N,m < N→∃ t' l',Em t'∧Z3 l'∧l'.length=times.length∧(l'.map fun s=>s.1)=(l.map fun s=>s.1)++times.drop i∧∀ (R:Type) (k:List Int×Int×Unit→List Smp→Option R),Ay F k N t times l kd v slope (i:Int)=k t' l':=by
 intro m
 induction m with
 | zero =>
  intro i t l v hi ht hl hv hli N hN
  obtain ⟨N,rfl⟩:∃ M,N=M+1:=⟨N - 1,by omega⟩
  refine ⟨t,l,ht,hl,by omega,by rw [List.drop_eq_nil_of_le (by omega),List.append_nil],fun R k=>?_⟩
  unfold Ay
  simp (disch:=omega) only [bs,↓iP,↓iN]
 | succ m ih =>
  intro i t l v hi ht hl hv hli N hN
  obtain ⟨N,rfl⟩:∃ M,N=M+1:=⟨N - 1,by omega⟩
  have fin:∀ (t1:List Int×Int×Unit) (x v1:Int),Em t1→I64 x→I64 v1→(∀ (R:Type) (k:List Int×Int×Unit→List Smp→Option R),Ay F k (N+1) t times l kd v slope (i:Int) =
    Ay F k N t1 times (l++[(An 0 times (i:Int),(x,()))]) kd v1 slope (Av .i64 (i:Int) 1)) →
    ∃ t' l',Em t'∧Z3 l'∧l'.length=times.length∧(l'.map fun s=>s.1)=(l.map fun s=>s.1)++times.drop i∧∀ (R:Type) (k:List Int×Int×Unit→List Smp→Option R),Ay F k (N+1) t times l kd v slope (i:Int)=k t' l':=by
   intro t1 x v1 ht1 hx hv1 e
   obtain ⟨t',l',g1,g2,g3,g5,g4⟩:=ih (i+1) t1 (l++[(An 0 times (i:Int),(x,()))]) v1 (by omega) ht1 (hl.push (hT.get _) hx) hv1 (by simp; omega) N (by omega)
   refine ⟨t',l',g1,g2,g3,by rw [g5,L8 (l:=times) (j:=i) (by omega)]; simp,fun R k=>?_⟩
   rw [e R k,Bc (by omega)]
   have:=g4 R k
   simp only [Int.natCast_add,Int.natCast_one] at this
   exact this
  have h0:ltI (i:Int) (Az times)=true:=by rw [Aj]; unfold Az; omega
  have h1:inI (i:Int) times.length=true:=by rw [Bo]; omega
  have hr:Bf (l.length+1) 16=true:=by rw [Bq]; omega
  by_cases k1:kd=1
  ·refine fin t (Av .i64 v (I6 .i64 (i:Int) slope)) v ht (Bp _) hv fun R k=>?_
   conv=>lhs; unfold Ay
   have q:eqI kd 1=true:=by rw [As]; exact k1
   simp only [h0,h1,hr,q,cT]
  ·have q1:eqI kd 1=false:=by rw [← Bool.not_eq_true,As]; exact k1
   by_cases k2:kd=2
   ·obtain ⟨t1,w,e1,ht1,_,_⟩:=Am F ht (n:=7) (by omega)
    refine fin t1 (Av .i64 (Av .i64 v (I6 .i64 (i:Int) slope)) (Bj .i64 w 3)) v ht1 (Bp _) hv fun R k=>?_
    conv=>lhs; unfold Ay
    have q:eqI kd 2=true:=by rw [As]; exact k2
    simp only [h0,h1,hr,q1,q,cT,cF,e1,bS]
   ·have q2:eqI kd 2=false:=by rw [← Bool.not_eq_true,As]; exact k2
    by_cases k3:kd=3
    ·obtain ⟨t1,w,e1,ht1,_,_⟩:=Am F ht (n:=9) (by omega)
     refine fin t1 (Av .i64 v (Bj .i64 w 4)) v ht1 (Bp _) hv fun R k=>?_
     conv=>lhs; unfold Ay
     have q:eqI kd 3=true:=by rw [As]; exact k3
     simp only [h0,h1,hr,q1,q2,q,cT,cF,e1,bS]
    ·have q3:eqI kd 3=false:=by rw [← Bool.not_eq_true,As]; exact k3
     by_cases k4:kd=4
     ·obtain ⟨t1,w,e1,ht1,hw⟩:=Ih F hF ht
      refine fin t1 w v ht1 hw hv fun R k=>?_
      conv=>lhs; unfold Ay
      have q:eqI kd 4=true:=by rw [As]; exact k4
      simp only [h0,h1,hr,q1,q2,q3,q,cT,cF,e1,bS]
     ·have q4:eqI kd 4=false:=by rw [← Bool.not_eq_true,As]; exact k4
      by_cases k5:kd=5
      ·have q:eqI kd 5=true:=by rw [As]; exact k5
       obtain ⟨t1,bb,e1,ht1⟩:=Se F ht (n:=5) (by omega)
       cases bb with
       | true =>
        obtain ⟨t2,w,e2,ht2,_,_⟩:=Am F ht1 (n:=400) (by omega)
        obtain ⟨t3,u,e3,ht3,_,_⟩:=Am F ht2 (n:=3) (by omega)
        refine fin t3 (Av .i64 (Av .i64 v (Bj .i64 w 200)) u) (Av .i64 v (Bj .i64 w 200)) ht3 (Bp _) (Bp _) fun R k=>?_
        conv=>lhs; unfold Ay
        simp only [h0,h1,hr,q1,q2,q3,q4,q,cT,cF,e1,e2,e3,bS]
       | false =>
        obtain ⟨t3,u,e3,ht3,_,_⟩:=Am F ht1 (n:=3) (by omega)
        refine fin t3 (Av .i64 v u) v ht3 (Bp _) hv fun R k=>?_
        conv=>lhs; unfold Ay
        simp only [h0,h1,hr,q1,q2,q3,q4,q,cT,cF,e1,e3,bS]
      ·have q5:eqI kd 5=false:=by rw [← Bool.not_eq_true,As]; exact k5
       by_cases k6:kd=6
       ·have q:eqI kd 6=true:=by rw [As]; exact k6
        obtain ⟨t2,w,e2,ht2,_,_⟩:=Am F ht (n:=50) (by omega)
        obtain ⟨t3,u,e3,ht3,_,_⟩:=Am F ht2 (n:=50) (by omega)
        refine fin t3 (I6 .i64 (I6 .i64 w u) slope) v ht3 (Bp _) hv fun R k=>?_
        conv=>lhs; unfold Ay
        simp only [h0,h1,hr,q1,q2,q3,q4,q5,q,cT,cF,e2,e3,bS]
       ·have q6:eqI kd 6=false:=by rw [← Bool.not_eq_true,As]; exact k6
        refine fin t v v ht hv hv fun R k=>?_
        conv=>lhs; unfold Ay
        simp only [h0,h1,hr,q1,q2,q3,q4,q5,q6,cT,cF]
theorem Uh(F:Nat)(hF:A9 F){t:List Int×Int×Unit}(h:Em t){n:Int}(hn:0≤n∧n≤100) :
  ∃ t' l,Jw F t n=some (t',l,())∧Em t'∧Z3 l∧(l.length:Int)≤n∧Wm (l.map fun s=>s.1)=true:=by
 obtain ⟨t1,ts,e1,h1,hs,hi,hl⟩:=Xp F hF h hn
 obtain ⟨t2,kd,e2,h2,_,_⟩:=Am F h1 (n:=7) (by omega)
 obtain ⟨t3,v,e3,h3,hv⟩:=Ih F hF h2
 obtain ⟨t4,s,e4,h4,_,_⟩:=Am F h3 (n:=41) (by omega)
 obtain ⟨t5,l,g1,g2,g3,g5,g4⟩:=Aj6 F hF kd (Bj .i64 s 20) hs (by omega) ts.length 0 t4 [] v (by omega) h4 (fun x hx=>by cases hx) hv rfl F (by unfold A9 at hF; omega)
 refine ⟨t5,l,?_,g1,g2,by omega,by rw [g5,List.drop_zero,List.map_nil,List.nil_append]; exact hi⟩
 unfold Jw
 simp only [e1,e2,e3,e4,bS]
 exact g4 _ _
theorem Bde{x:Int}(h:(Lit.int .u32 x).wf=true):0≤x∧x≤4294967295:=by
 simpa [Lit.wf,IntKind.min,IntKind.max,IntKind.signed,IntKind.bits] using h
theorem Bdf{x:Int}(h:(Lit.int .i32 x).wf=true):-2147483648≤x∧x≤2147483647:=by
 simpa [Lit.wf,IntKind.min,IntKind.max,IntKind.signed,IntKind.bits] using h
theorem A8G{l:List Smp}(h:wfT (.slice (.pair (.int .i64) (.pair (.int .i64) .unit))) l):Z3 l :=
 fun s hs=>⟨Wa (h.2 s hs).1,Wa (h.2 s hs).2.1⟩
def Ac0:List Int→Int
 | []=>0
 | x::t=>x+Ac0 t
def A3q:Int→List Int→Bool
 | _,[]=>true
 | left,x::t=>decide (1≤x∧x≤left) && A3q (left - x) t
def lss:List Int→List Int
 | []=>[]
 | x::t=>(x - 1)::lss t
def mre:List Int→List Int
 | []=>[]
 | x::t=>(x+1)::mre t
theorem U8:∀ l:List Int,(mre l).length=l.length
 | []=>rfl
 | x::t=>by simp [mre,U8 t]
theorem AtG:∀ l:List Int,lss (mre l)=l
 | []=>rfl
 | x::t=>by simp only [lss,mre,AtG t]; congr 1; omega
theorem AtH(F:Nat){R:Type}(k:List Int→Option R){src:List Int}(hs:∀ x∈src,1≤x∧x≤4096)(hb:src.length≤100000):∀ (rest pre out:List Int),src=pre++rest→out.length=pre.length→∀ N,rest.length < N →
  J3 F k N src out (pre.length:Int)=k (out++lss rest):=by
 intro rest
 induction rest with
 | nil =>
  intro pre out he ho N hN
  obtain ⟨N,rfl⟩:∃ M,N=M+1:=⟨N - 1,by omega⟩
  have hlen:src.length=pre.length:=by rw [he]; simp
  unfold J3
  simp (disch:=omega) only [bs,↓iP,↓iN]
  simp [lss]
 | cons x rest ih =>
  intro pre out he ho N hN
  obtain ⟨N,rfl⟩:∃ M,N=M+1:=⟨N - 1,by omega⟩
  simp only [List.length_cons] at hN
  have hlen:src.length=pre.length+1+rest.length:=by rw [he]; simp; omega
  have g:An 0 src (pre.length:Int)=x:=by rw [he]; exact B8 pre x rest
  have hx:=hs x (by rw [he]; simp)
  have hw:IntKind.u64.wrap (x - 1)=x - 1:=Bi (by omega)
  have e:=ih (pre++[x]) (out++[x - 1]) (by rw [he]; simp) (by simp [ho]) N (by omega)
  have hpl:(((pre++[x]).length:Nat):Int)=(pre.length:Int)+1:=by simp
  rw [hpl] at e
  have hz2:out++[x - 1]++lss rest=out++lss (x::rest):=by simp [lss]
  rw [hz2] at e
  unfold J3
  simp (disch:=omega) only [bs,↓iP,↓iN,g,hw]
  exact e
def hd(c v:List Int):List Int:=enc c.length++nE (lss c)++rE v
def cn(l:List Smp):List Int:=l.map (·.1)
def vl(l:List Smp):List Int:=l.map (·.2.1)
def sat(T:Int):Int→List Int→Int
 | s,[]=>s
 | s,x::t=>sat T (min (s+(min x T+1)) (T+1)) t
theorem AtI{T:Int}(hT:0≤T):∀ (l:List Int),Wd l→sat T (T+1) l=T+1
 | [],_=>rfl
 | x::t,hw=>by
  have hx:=Wd.head hw
  rw [sat,show min (T+1+(min x T+1)) (T+1)=T+1 by omega]
  exact AtI hT t (Wd.tail hw)
def mrm(T:Int):List Int→List Int
 | []=>[]
 | x::t=>(min x T+1)::mrm T t
theorem Aku(F:Nat){R:Type}(k:Int→List Int→Int→Option R){T:Int}(hT:0≤T∧T≤4096)(end_:Int){src:List Int}(hs:Wd src)(hb:src.length≤100000):∀ (rest pre out z:List Int) (s:Int),src=pre++rest→out.length=pre.length→z.length=rest.length→0≤s∧s≤T+1→∀ N,rest.length < N →
  Fr F k N T end_ (out++z) s src (src.length:Int) (pre.length:Int)=k end_ (out++mrm T rest) (sat T s rest):=by
 have hwT:IntKind.u64.wrap T=T:=Bi (by omega)
 intro rest
 induction rest with
 | nil =>
  intro pre out z s he ho hz hs N hN
  obtain ⟨N,rfl⟩:∃ M,N=M+1:=⟨N - 1,by omega⟩
  have:z=[]:=List.length_eq_zero_iff.1 hz
  subst this
  have hlen:src.length=pre.length:=by rw [he]; simp
  unfold Fr
  simp (disch:=omega) only [bs,↓iP,↓iN]
  rfl
 | cons x rest ih =>
  intro pre out z s he ho hz hss N hN
  obtain ⟨N,rfl⟩:∃ M,N=M+1:=⟨N - 1,by omega⟩
  obtain ⟨y,z',rfl⟩:∃ y z',z=y::z':=by
   cases z with
   | nil=>simp at hz
   | cons y z'=>exact ⟨y,z',rfl⟩
  simp only [List.length_cons] at hN hz
  have hlen:src.length=pre.length+1+rest.length:=by rw [he]; simp; omega
  have g:An 0 src (pre.length:Int)=x:=by rw [he]; exact B8 pre x rest
  have hx:0≤x∧x≤18446744073709551615:=hs x (by rw [he]; simp)
  have st:Cd (out++y::z') (pre.length:Int) (min x T+1)=(out++[min x T+1])++z':=by rw [← ho]; exact H7 out y _ z'
  have gs:An 0 ((out++[min x T+1])++z') (pre.length:Int)=min x T+1:=by rw [← ho,List.append_assoc]; exact B8 out _ z'
  have hol:(out++y::z').length=pre.length+1+z'.length:=by simp; omega
  have hol2:(out++[min x T+1]++z').length=pre.length+1+z'.length:=by simp; omega
  have e:=ih (pre++[x]) (out++[min x T+1]) z' (min (s+(min x T+1)) (T+1)) (by rw [he]; simp) (by simp [ho]) (by omega) (by omega) N (by omega)
  have hpl:(((pre++[x]).length:Nat):Int)=(pre.length:Int)+1:=by simp
  rw [hpl] at e
  have hz2:out++[min x T+1]++mrm T rest=out++mrm T (x::rest):=by simp [mrm]
  rw [hz2] at e
  have hwm:IntKind.i64.wrap (min x T)=min x T:=Cz (by omega)
  have y1:Av .i64 (IntKind.wrap .i64 (Zo x (IntKind.wrap .u64 T))) 1=min x T+1:=by rw [hwT,Aep,hwm,Bc (by omega)]
  have y2:Zo (Av .i64 s (min x T+1)) (Av .i64 T 1)=min (s+(min x T+1)) (T+1):=by rw [Aep,Bc (by omega),Bc (by omega)]
  have x1:ltI (pre.length:Int) (src.length:Int)=true:=by rw [Aj]; omega
  have x2:inI (pre.length:Int) src.length=true:=by rw [Bo]; omega
  have x3:inI (pre.length:Int) (out++y::z').length=true:=by rw [Bo]; omega
  have x4:inI (pre.length:Int) (out++[min x T+1]++z').length=true:=by rw [Bo]; omega
  have xa:Av .i64 (pre.length:Int) 1=(pre.length:Int)+1:=Bc (by omega)
  unfold Fr
  simp only [x1,x2,x3,cT,g,y1,st,x4,gs,y2,xa]
  exact e
theorem Aj7(F:Nat)(b:List Int)(at_ T:Int):Nx F b at_ T=some (decide (0≤at_∧at_≤b.length∧0≤T∧T≤4096),()):=by
 unfold Nx leI Az
 by_cases c1:0≤at_ <;> by_cases c2:at_≤b.length <;> by_cases c3:0≤T <;> by_cases c4:T≤4096 <;> simp [c1,c2,c3,c4]
theorem U9{b:List Int}{a m e:Int}(h0:0≤a)(h1:a≤m)(h2:m≤e)(h3:e≤b.length):Cu (Ce b m) a++Cu (Ce b e) m=Cu (Ce b e) a:=by
 unfold Cu Ce
 obtain ⟨a,rfl⟩:=Int.eq_ofNat_of_zero_le h0
 obtain ⟨m,rfl⟩:=Int.eq_ofNat_of_zero_le (show 0≤m by omega)
 obtain ⟨e,rfl⟩:=Int.eq_ofNat_of_zero_le (show 0≤e by omega)
 have h1':a≤m:=by
  have:Int.ofNat a=(a:Int):=rfl
  have:Int.ofNat m=(m:Int):=rfl
  omega
 have h2':m≤e:=by
  have:Int.ofNat e=(e:Int):=rfl
  have:Int.ofNat m=(m:Int):=rfl
  omega
 have k1:(Int.ofNat a).toNat=a:=rfl
 have k2:(Int.ofNat m).toNat=m:=rfl
 have k3:(Int.ofNat e).toNat=e:=rfl
 simp only [Int.ofNat_eq_natCast,Int.toNat_natCast]
 rw [show b.take m=(b.take e).take m by rw [List.take_take,Nat.min_eq_left h2']]
 generalize b.take e=c
 rw [List.drop_take,show List.drop m c=List.drop (m - a) (List.drop a c) by rw [List.drop_drop]; congr 1; omega,List.take_append_drop]
theorem A80{b:List Int}(hb:Bt b){at_:Int}(h:(rd b at_).2.2=0):Cu (Ce b (rd b at_).2.1) at_=enc (rd b at_).1:=by
 obtain ⟨h1,h2,h3,h4⟩:=Atx hb h
 unfold Cu Ce
 have hlen:(b.drop at_.toNat).length=(enc (rd b at_).1).length+(b.drop (rd b at_).2.1.toNat).length:=by rw [h4]; simp
 simp only [List.length_drop] at hlen
 rw [List.drop_take,h4,List.take_left' (by omega)]
def A81(b:List Int)(at_ T:Int)(x:List Smp)(end_ e:Int):Prop :=
 Z3 x∧(e=0→0≤at_∧x.length≤4096∧Ac0 (cn x)=T∧at_ < end_∧end_≤b.length∧A3q 4096 (cn x)=true∧hd (cn x) (vl x)=Cu (Ce b end_) at_)∧(e≠0→x=[]∧end_=0)
theorem A81.err(b:List Int)(at_ T:Int){e:Int}(h:e≠0):A81 b at_ T [] 0 e:=⟨(fun s hs=>by cases hs),fun h2=>absurd h2 h,fun _=>⟨rfl,rfl⟩⟩
theorem Ui(F:Nat){t:List Int×Int×Unit}(h:Em t){b:List Int}(hb:Bt b)(hl:(b.length:Int)≤140737488355000) :
  ∃ t' c,I5 F t b=some (t',b,c,())∧Em t'∧Bt c∧c.length≤b.length+1:=by
 unfold I5
 obtain ⟨t1,at1,e1,ht1,ha0,ha⟩:=Am F h (n:=(b.length:Int)) (by omega)
 obtain ⟨t2,v2,e2,ht2,hv0,hv⟩:=Am F ht1 (n:=6) (by omega)
 simp (disch:=omega) only [bs,↓iP,↓iN,List.nil_append,e1,e2]
 have hat:0 < (b.length:Int)→at1 < b.length:=fun hp=>by omega
 by_cases c0:v2=0
 ·obtain ⟨t3,v3,e3,ht3,h30,h3⟩:=Am F ht2 (n:=(b.length:Int)+1) (by omega)
  simp (disch:=omega) only [bs,↓iP,↓iN,e3]
  refine ⟨t3,_,rfl,ht3,fun x hx=>hb x (List.mem_of_mem_take hx),?_⟩
  simp [Ce]; omega
 ·by_cases c1:v2=1
  ·obtain ⟨t3,v3,e3,ht3,h30,h3⟩:=Am F ht2 (n:=256) (by omega)
   simp (disch:=omega) only [bs,↓iP,↓iN,e3]
   exact ⟨t3,_,rfl,ht3,hb.append (Bt.one (Gv _)),by simp⟩
  ·by_cases c2:v2=2
   ·by_cases cl:0 < (b.length:Int)
    ·have:=hat cl
     simp (disch:=omega) only [bs,↓iP,↓iN]
     rw [iP (by simp; omega)]
     refine ⟨t2,_,rfl,ht2,Bt.append (fun x hx=>hb x (List.mem_of_mem_take hx)) (fun x hx=>hb x (List.mem_of_mem_take (List.mem_of_mem_drop hx))),?_⟩
     simp; omega
    ·simp (disch:=omega) only [bs,↓iP,↓iN]
     exact ⟨t2,_,rfl,ht2,hb,by omega⟩
   ·by_cases cl:0 < (b.length:Int)
    ·have:=hat cl
     obtain ⟨t3,v3,e3,ht3,h30,h3⟩:=Am F ht2 (n:=8) (by omega)
     have hw:=T0 v3
     simp (disch:=omega) only [bs,↓iP,↓iN,e3]
     refine ⟨t3,_,rfl,ht3,hb.set _ ?_,by simp [Cd]⟩
     exact Gv _
    ·simp (disch:=omega) only [bs,↓iP,↓iN]
     exact ⟨t2,_,rfl,ht2,hb,by omega⟩
theorem A3r{l:List Int}(h:Wd l):(nE l).length≤1+10*l.length:=by
 have h1:=(Azi h).1
 have h2:=Aas h
 omega
theorem Bdg{l:List Int}(h:Sg l):(rE l).length≤2+10*l.length:=by
 have h1:=Axh l (n:=0) (by omega)
 have h2:(rO 0 l).length=1+(nE (zs (dfn 0 l))).length:=by unfold rO; simp; omega
 have h3:=A3r (Vd (Na 0 h))
 rw [Fd,C8] at h3
 omega
def Sz(v s:Nat):Prop:=v < 2 ^ s∧(v=0→s=0)∧(0 < v→1≤s∧2 ^ (s - 1)≤v)
theorem p64(k:Nat):(18446744073709551616:Nat) ^ k=2 ^ (64*k):=by rw [show(18446744073709551616:Nat)=2 ^ 64 from rfl,← Nat.pow_mul]
theorem Akv:Sz 0 0:=⟨by omega,fun _=>rfl,fun h=>by omega⟩
theorem Aof{lo t s k:Nat}(hlo:lo < 2 ^ k)(ht:0 < t)(h:Sz t s):Sz (lo+2 ^ k*t) (k+s):=by
 obtain ⟨h1,_,h3⟩:=h
 obtain ⟨h4,h5⟩:=h3 ht
 have hk:0 < 2 ^ k:=Nat.pow_pos (by omega)
 refine ⟨?_,fun h=>?_,fun _=>⟨by omega,?_⟩⟩
 ·rw [Nat.pow_add]
  have:2 ^ k*(t+1)≤2 ^ k*2 ^ s:=Nat.mul_le_mul_left _ h1
  rw [Nat.mul_add] at this
  omega
 ·have:0 < 2 ^ k*t:=Nat.mul_pos hk ht
  omega
 ·rw [show k+s - 1=k+(s - 1) by omega,Nat.pow_add]
  have:2 ^ k*2 ^ (s - 1)≤2 ^ k*t:=Nat.mul_le_mul_left _ h5
  omega
theorem Yt{x:Int}(hx:0≤x∧x≤18446744073709551615):Sz x.toNat (Lib.bitLen x.toNat)∧Lib.bitLen x.toNat≤64:=by
 refine ⟨?_,Lib.bitLen_le _ 64 (by omega) (by omega)⟩
 unfold Lib.bitLen
 by_cases h:x.toNat=0
 ·rw [h,Lib.bitLenAux_zero]; exact Akv
 ·have:=Lib.bitLenAux_bounds 64 x.toNat (by omega) h
  exact ⟨this.2.2,fun h0=>absurd h0 h,fun _=>⟨this.1,this.2.1⟩⟩
theorem Aog(F:Nat){x:Int}(hx:0≤x∧x≤18446744073709551615):D3 F x=some ((Lib.bitLen x.toNat:Int),()):=by
 have:(leI 0 x && leI x 18446744073709551615)=true:=by simp only [Bool.and_eq_true,Bw]; omega
 simp only [D3,this,cT]
theorem Azo{a b s t:Nat}(ha:Sz a s)(hb:Sz b t)(h0:0 < b)(h:t≤s):a < b*2 ^ (s - t+1)∧b*2 ^ (s - t) < 2 ^ s:=by
 obtain ⟨h1,_,_⟩:=ha
 obtain ⟨h2,_,h3⟩:=hb
 obtain ⟨h4,h5⟩:=h3 h0
 constructor
 ·have:2 ^ (t - 1)*2 ^ (s - t+1)≤b*2 ^ (s - t+1):=Nat.mul_le_mul_right _ h5
  rw [← Nat.pow_add,show t - 1+(s - t+1)=s by omega] at this
  omega
 ·have:b*2 ^ (s - t) < 2 ^ t*2 ^ (s - t):=Nat.mul_lt_mul_of_pos_right h2 (Nat.pow_pos (by omega))
  rw [← Nat.pow_add,show t+(s - t)=s by omega] at this
  exact this
theorem AtJ{a b s t:Nat}(ha:Sz a s)(hb:Sz b t)(h:s < t):a < b:=by
 obtain ⟨h1,_,_⟩:=ha
 obtain ⟨h2,h3,h4⟩:=hb
 have h0:0 < b:=by
  rcases Nat.eq_zero_or_pos b with h | h
  ·have:=h3 h; omega
  ·exact h
 obtain ⟨h5,h6⟩:=h4 h0
 have:2 ^ s≤2 ^ (t - 1):=Nat.pow_le_pow_right (by omega) (by omega)
 omega
structure Dv (a b m r d Q:Nat):Prop where
 hd:d=b*2 ^ m / 2
 hr:r < b*2 ^ m
 he:Q*b+r=a
 hQ:Q % 2 ^ m=0
theorem Dv.start{a b n:Nat}(h:a < b*2 ^ (n+1)):Dv a b (n+1) a (b*2 ^ n) 0 :=
 ⟨by rw [Nat.pow_succ,← Nat.mul_assoc]; omega,h,by omega,by simp⟩
theorem Dv.done{a b r d Q:Nat}(h:Dv a b 0 r d Q):Q=a / b∧r=a % b:=by
 obtain ⟨_,hr,he,_⟩:=h
 rw [Nat.pow_zero,Nat.mul_one] at hr
 have hb:0 < b:=by omega
 rw [← he]
 constructor
 ·rw [Nat.mul_comm,Nat.mul_add_div hb,Nat.div_eq_of_lt hr]; rfl
 ·rw [Nat.mul_comm,Nat.mul_add_mod,Nat.mod_eq_of_lt hr]
theorem Dv.step{a b m r d Q:Nat}(h:Dv a b (m+1) r d Q):if d≤r then Dv a b m (r - d) (d / 2) (Q+2 ^ m) else Dv a b m r (d / 2) Q:=by
 obtain ⟨hd,hr,he,hQ⟩:=h
 have e1:b*2 ^ (m+1)=2*(b*2 ^ m):=by rw [Nat.pow_succ,← Nat.mul_assoc,Nat.mul_comm]
 rw [e1] at hd hr
 have hd:d=b*2 ^ m:=by omega
 have e2:Q % 2 ^ m=0:=by
  rw [Nat.pow_succ] at hQ
  have:=Nat.mod_mul_right_mod Q (2 ^ m) 2
  rw [hQ,Nat.zero_mod] at this
  exact this.symm
 split
 ·refine ⟨by rw [hd],by omega,?_,?_⟩
  ·rw [Nat.add_mul,Nat.mul_comm (2 ^ m) b,← hd]; omega
  ·rw [Nat.add_mod_right]; exact e2
 ·exact ⟨by rw [hd],by omega,he,e2⟩
theorem A82{w:Int}(hw:0≤w∧w≤18446744073709551615){i:Nat}(hi:i < 64)(h:w.toNat % 2 ^ (i+1)=0) :
  orI .u64 w (Hv .u64 1 (i:Int))=w+((2 ^ i:Nat):Int)∧w+((2 ^ i:Nat):Int)≤18446744073709551615:=by
 have hp:2 ^ i < 2 ^ 64:=Nat.pow_lt_pow_right (by omega) hi
 have hp0:0 < 2 ^ i:=Nat.pow_pos (by omega)
 rw [Kn (by omega) (by omega),Int.toNat_natCast,Nat.min_eq_left (by omega)]
 rw [show(1:Int).toNat*2 ^ i % 2 ^ 64=2 ^ i by rw [show(1:Int).toNat=1 from rfl,Nat.one_mul,Nat.mod_eq_of_lt hp]]
 rw [Pp hw (by omega),Int.toNat_natCast]
 obtain ⟨c,hc⟩:=Nat.dvd_of_mod_eq_zero h
 have hlt:2 ^ i < 2 ^ (i+1):=by rw [Nat.pow_succ]; omega
 have e:=Nat.two_pow_add_eq_or_of_lt hlt c
 rw [← hc] at e
 rw [← e]
 refine ⟨by omega,?_⟩
 have h64:(2:Nat) ^ 64=2 ^ (i+1)*2 ^ (64 - (i+1)):=by rw [← Nat.pow_add]; congr 1; omega
 have hw2:w.toNat < 2 ^ 64:=by omega
 rw [hc,h64] at hw2
 have hc2:c < 2 ^ (64 - (i+1)):=Nat.lt_of_mul_lt_mul_left hw2
 have:2 ^ (i+1)*(c+1)≤2 ^ (i+1)*2 ^ (64 - (i+1)):=Nat.mul_le_mul_left _ hc2
 rw [← h64,Nat.mul_add] at this
 omega
def Aup(l:List Int)(i:Nat):List Int:=Cd l ((i / 64:Nat):Int) (orI .u64 (An 0 l ((i / 64:Nat):Int)) (Hv .u64 1 ((i % 64:Nat):Int)))
theorem Akw:∀ {l:List Int} {i:Nat},Wd l→i / 64 < l.length→wv l % 2 ^ (i+1)=0→Wd (Aup l i)∧(Aup l i).length=l.length∧wv (Aup l i)=wv l+2 ^ i
 | [],i,_,h,_=>by simp at h
 | x::t,i,hw,hl,hm=>by
  have hx:=Wd.head hw
  by_cases hi:i < 64
  ·have e0:i / 64=0:=by omega
   have e1:i % 64=i:=by omega
   have hp:2 ^ (i+1) ∣ 18446744073709551616:=by
    rw [show(18446744073709551616:Nat)=2 ^ 64 from rfl]; exact Nat.pow_dvd_pow 2 (by omega)
   have hxm:x.toNat % 2 ^ (i+1)=0:=by
    simp only [wv] at hm
    obtain ⟨c,hc⟩:=hp
    rw [hc,Nat.mul_assoc,Nat.add_mul_mod_self_left] at hm
    exact hm
   obtain ⟨h1,h2⟩:=A82 hx hi hxm
   have hp0:0 < 2 ^ i:=Nat.pow_pos (by omega)
   have es:Aup (x::t) i=(x+((2 ^ i:Nat):Int))::t:=by
    unfold Aup
    rw [e0,e1,show An 0 (x::t) ((0:Nat):Int)=x from rfl,h1]
    rfl
   rw [es]
   refine ⟨Wd.cons (by omega) (Wd.tail hw),rfl,?_⟩
   simp only [wv]
   omega
  ·obtain ⟨j,rfl⟩:∃ j,i=j+64:=⟨i - 64,by omega⟩
   have e0:(j+64) / 64=j / 64+1:=by omega
   have e1:(j+64) % 64=j % 64:=by omega
   have e2:(2:Nat) ^ (j+64+1)=18446744073709551616*2 ^ (j+1):=by
    rw [show j+64+1=64+(j+1) by omega,Nat.pow_add]
   have e3:(2:Nat) ^ (j+64)=18446744073709551616*2 ^ j:=by
    rw [Nat.add_comm,Nat.pow_add]
   simp only [wv] at hm
   rw [e2,Nat.mod_mul] at hm
   have hb:(x.toNat+18446744073709551616*wv t) / 18446744073709551616=wv t:=by omega
   rw [hb] at hm
   have hm:wv t % 2 ^ (j+1)=0:=by omega
   obtain ⟨h1,h2,h3⟩:=Akw (l:=t) (i:=j) (Wd.tail hw) (by simp at hl; omega) hm
   have es:Aup (x::t) (j+64)=x::Aup t j:=by
    unfold Aup
    rw [e0,e1]
    simp only [Cd,An,Int.toNat_natCast,List.set_cons_succ,List.getD_cons_succ]
   rw [es]
   refine ⟨Wd.cons hx h1,by simp [h2],?_⟩
   simp only [wv,h3,e3]
   omega
theorem Axl{v n:Nat}{l:List Int}(h:l=ofn v)(hn:l.length=n+1):0 < An 0 l (n:Int):=by
 subst h
 have hw:=Fx v
 have hg:=Wd.get hw (n:Int)
 rcases Int.lt_or_le 0 (An 0 (ofn v) (n:Int)) with h | h
 ·exact h
 ·exfalso
  have h0:(ofn v).getD n 0=0:=by have:=Da 0 (ofn v) n; omega
  have e1:(ofn v)=(ofn v).take n++[(ofn v).getD n 0]:=by
   rw [← T9 (by omega),List.take_of_length_le (by omega)]
  have e2:=congrArg wv e1
  rw [Dx,B7,h0] at e2
  have e3:=T8 (Wd.take hw n)
  rw [List.length_take,Nat.min_eq_left (by omega)] at e3
  simp [wv] at e2
  have e4:=(C4 (v:=v) (n:=n)).2 (by omega)
  omega
theorem Xs(F:Nat){v:Nat}(hl:(ofn v).length≤1000):∃ s:Nat,Sz v s∧s≤64*(ofn v).length∧Pa F (ofn v)=some ((s:Int),()):=by
 by_cases h0:(ofn v).length=0
 ·have:=AbS.1 h0
  subst this
  refine ⟨0,Akv,by omega,?_⟩
  unfold Pa
  simp (disch:=omega) only [bs,↓iP,↓iN]
  rfl
 ·obtain ⟨n,hn⟩:∃ n,(ofn v).length=n+1:=⟨_,(Nat.succ_pred_eq_of_pos (by omega)).symm⟩
  have hw:=Fx v
  have hg:=Wd.get hw (n:Int)
  have hpos:=Axl rfl hn
  obtain ⟨h1,h2⟩:=Yt hg
  have e1:(ofn v)=(ofn v).take n++[An 0 (ofn v) (n:Int)]:=by
   rw [Da,← T9 (by omega),List.take_of_length_le (by omega)]
  have e2:=congrArg wv e1
  have e3:=T8 (Wd.take hw n)
  rw [List.length_take,Nat.min_eq_left (by omega)] at e3
  rw [Dx,B7,List.length_take,Nat.min_eq_left (by omega)] at e2
  simp only [wv,Nat.mul_zero,Nat.add_zero] at e2
  rw [p64] at e2 e3
  refine ⟨64*n+Lib.bitLen (An 0 (ofn v) (n:Int)).toNat,?_,by omega,?_⟩
  ·have:=Aof e3 (by omega) h1
   rw [← e2] at this
   exact this
  ·unfold Pa
   have hc:((ofn v).length:Int) - 1=(n:Int):=by omega
   simp (disch:=omega) only [bs,↓iP,↓iN,hc,Aog F hg]
   simp only [Int.natCast_add,Int.natCast_mul]
   rfl
theorem AtK{x:Int}(hx:0≤x∧x≤18446744073709551615){r c:Nat}(hr:r < 64)(hc:c < 2 ^ r) :
  orI .u64 (c:Int) (Hv .u64 x (r:Int))=((c+x.toNat*2 ^ r % 18446744073709551616:Nat):Int)∧c+x.toNat*2 ^ r % 18446744073709551616 < 18446744073709551616:=by
 have h64:(18446744073709551616:Nat)=2 ^ r*2 ^ (64 - r):=by rw [← Nat.pow_add,show r+(64 - r)=64 by omega]
 have hm:x.toNat*2 ^ r % 18446744073709551616=2 ^ r*(x.toNat % 2 ^ (64 - r)):=by
  rw [h64,Nat.mul_comm x.toNat,Nat.mul_mod_mul_left]
 have hp:2 ^ r < 2 ^ 64:=Nat.pow_lt_pow_right (by omega) hr
 have hlt:x.toNat % 2 ^ (64 - r) < 2 ^ (64 - r):=Nat.mod_lt _ (Nat.pow_pos (by omega))
 have hsum:c+x.toNat*2 ^ r % 18446744073709551616 < 18446744073709551616:=by
  rw [hm]
  have:2 ^ r*(x.toNat % 2 ^ (64 - r)+1)≤2 ^ r*2 ^ (64 - r):=Nat.mul_le_mul_left _ hlt
  rw [← h64,Nat.mul_add] at this
  omega
 refine ⟨?_,hsum⟩
 rw [Kn hx.1 (by omega),Int.toNat_natCast,Nat.min_eq_left (by omega),show(2:Nat) ^ 64=18446744073709551616 from rfl]
 rw [Pp (by omega) (by omega),Int.toNat_natCast,Int.toNat_natCast,hm,Nat.or_comm,← Nat.two_pow_add_eq_or_of_lt hc]
 omega
theorem Agi{x:Int}(hx:0≤x∧x≤18446744073709551615){r:Nat}(hr:r < 64) :
  x.toNat*2 ^ r / 18446744073709551616 < 2 ^ r∧(0 < r→Fg .u64 x ((64 - r:Nat):Int)=((x.toNat*2 ^ r / 18446744073709551616:Nat):Int)):=by
 have h64:(18446744073709551616:Nat)=2 ^ (64 - r)*2 ^ r:=by rw [← Nat.pow_add,show 64 - r+r=64 by omega]
 have e:x.toNat*2 ^ r / 18446744073709551616=x.toNat / 2 ^ (64 - r):=by
  rw [h64,Nat.mul_div_mul_right _ _ (Nat.pow_pos (by omega))]
 rw [e]
 constructor
 ·rw [Nat.div_lt_iff_lt_mul (Nat.pow_pos (by omega)),Nat.mul_comm,← h64]
  omega
 ·intro h0
  rw [I1 hx.1,Int.toNat_natCast,Nat.min_eq_left (by show 64 - r≤64; omega)]
theorem AtL(d:List Int)(x y z w:Int)(t:List Int):Cd (Cd (d++x::y::t) (d.length:Int) z) ((d.length:Int)+1) w=(d++[z])++w::t:=by
 rw [H7,show(d.length:Int)+1=((d++[z]).length:Int) by simp,H7]
 simp
theorem A83{wp P c lo hi B X A x W R:Nat}(hinv:wp+P*c=X*(W*R))(hP:P=A*W)(hx:x*R=lo+B*hi) :
  wp+P*(c+lo)+P*B*hi=(X+A*x)*(W*R):=by
 rw [Nat.add_mul,Nat.mul_mul_mul_comm A x W R,← hP,hx,← hinv,Nat.mul_add,Nat.mul_add,Nat.mul_assoc]
 omega
theorem A3s{x:Int}(hx:0≤x∧x≤18446744073709551615):orI .u64 0 x=x:=by
 rw [Pp (by omega) hx]
 simp only [show(0:Int).toNat=0 from rfl,Nat.zero_or]
 omega
set_option maxHeartbeats 4000000 in
theorem A3t(F:Nat){R:Type}(k:List Int→Option R){a:List Int}(ha:Wd a){w r:Nat}(hr:r < 64)(hsz:(a.length:Int)+w≤100000)(x1:Int)
  (hq:Ht .i64 x1 64=(w:Int)) (hm:I9 x1 64=(r:Int)) :
  ∀ (xb xa p:List Int) (c:Nat),a=xa++xb→p.length=xa.length+w→c < 2 ^ r→Wd p→wv p+18446744073709551616 ^ p.length*c=wv xa*(2 ^ (64*w)*2 ^ r) →
   ∀ N,xb.length < N→∃ o:List Int,Wd o∧o.length=a.length+w+1∧wv o=wv a*(2 ^ (64*w)*2 ^ r) ∧
    Kx F k N a x1 (p++(c:Int)::List.replicate xb.length 0) (xa.length:Int)=k o:=by
 have h2r:2 ^ r < 2 ^ 64:=Nat.pow_lt_pow_right (by omega) hr
 intro xb
 induction xb with
 | nil =>
  intro xa p c he hp hc hw hi N hN
  obtain ⟨N,rfl⟩:∃ M,N=M+1:=⟨N - 1,by omega⟩
  rw [List.append_nil] at he
  subst he
  refine ⟨p++[(c:Int)],Wd.append hw (Wd.one (by omega)),by simp [hp],by rw [B7]; simp only [wv,Int.toNat_natCast,Nat.mul_zero,Nat.add_zero]; exact hi,?_⟩
  unfold Kx
  simp (disch:=omega) only [bs,↓iP,↓iN]
  rfl
 | cons x t ih =>
  intro xa p c he hp hc hw hi N hN
  obtain ⟨N,rfl⟩:∃ M,N=M+1:=⟨N - 1,by omega⟩
  have hx:0≤x∧x≤18446744073709551615:=ha x (by rw [he]; simp)
  have hal:a.length=xa.length+(t.length+1):=by rw [he]; simp
  obtain ⟨o1,o2⟩:=AtK hx hr hc
  obtain ⟨s1,s2⟩:=Agi hx hr
  have hdm:=Nat.mod_add_div (x.toNat*2 ^ r) 18446744073709551616
  have hdiv:=Nat.div_add_mod (x.toNat*2 ^ r) 18446744073709551616
  generalize x.toNat*2 ^ r % 18446744073709551616=lo at *
  generalize x.toNat*2 ^ r / 18446744073709551616=hi' at *
  obtain ⟨o,h1,h2,h3,h4⟩:=ih (xa++[x]) (p++[((c+lo:Nat):Int)]) hi' (by rw [he]; simp) (by simp; omega) s1 (Wd.append hw (Wd.one (by omega))) (by
   rw [B7,B7]
   simp only [wv,Int.toNat_natCast,Nat.mul_zero,Nat.add_zero,List.length_append,List.length_singleton,Nat.pow_succ]
   refine A83 hi ?_ hdm.symm
   rw [hp,Nat.pow_add,p64 w]) N (by simp at hN; omega)
  refine ⟨o,h1,h2,h3,?_⟩
  have hcast:((xa++[x]).length:Int)=(xa.length:Int)+1:=by simp
  rw [hcast] at h4
  have hg:An 0 a (xa.length:Int)=x:=by rw [he]; exact B8 _ _ _
  have hpw:(xa.length:Int)+(w:Int)=(p.length:Int):=by omega
  have hwr:IntKind.u64.wrap (r:Int)=(r:Int):=Bi (by omega)
  have hlen:(p++(c:Int)::List.replicate (t.length+1) (0:Int)).length=p.length+(t.length+2):=by simp
  rw [List.length_cons]
  unfold Kx
  rw [hq,hm]
  by_cases h0:0 < r
  ·have hwr2:IntKind.u64.wrap (64 - (r:Int))=((64 - r:Nat):Int):=by rw [Bi (by omega)]; omega
   have s3:=s2 h0
   simp (disch:=omega) only [bs,↓iP,↓iN,hg,hpw,hwr,hwr2]
   rw [List.replicate_succ]
   rw [B8,o1,Zi,s3,A3s (by omega),AtL]
   exact h4
  ·have hr0:r=0:=by omega
   subst hr0
   have hh:hi'=0:=by omega
   subst hh
   simp (disch:=omega) only [bs,↓iP,↓iN,hg,hpw,hwr]
   rw [List.replicate_succ]
   rw [B8,o1,H7]
   exact h4
theorem Bdh(F:Nat)(hF:A9 F){v n:Nat}(hv:(ofn v).length≤1000)(hn:n≤10000):Aa7 F (ofn v) (n:Int)=some (ofn (v*2 ^ n),()):=by
 have hF':=hF
 unfold A9 at hF'
 have hq:Ht .i64 (n:Int) 64=((n / 64:Nat):Int):=by rw [Uw (by omega) (by omega) (by omega)]; omega
 have hm:I9 (n:Int) 64=((n % 64:Nat):Int):=by rw [Tw (by omega)]; omega
 obtain ⟨o,h1,h2,h3,h4⟩:=A3t F (fun z32=>(Kw F z32).bind fun r33=>some (r33.1,())) (Fx v) (w:=n / 64) (r:=n % 64) (by omega) (by omega) (n:Int) hq hm
  (ofn v) [] (List.replicate (n / 64) 0) 0 rfl (by simp) (Nat.pow_pos (by omega)) (fun x hx=>by rw [List.eq_of_mem_replicate hx]; omega) (by rw [Aga]; simp [wv]) F (by omega)
 unfold Aa7
 rw [hq]
 simp (disch:=omega) only [bs,↓iP,↓iN]
 have er:Cl (((ofn v).length:Int)+((n / 64:Nat):Int)+1) (0:Int)=List.replicate (n / 64) 0++((0:Nat):Int)::List.replicate (ofn v).length 0:=by
  rw [show((0:Nat):Int)::List.replicate (ofn v).length (0:Int)=List.replicate ((ofn v).length+1) 0 by rw [List.replicate_succ]; rfl,List.replicate_append_replicate]
  unfold Cl
  congr 1
  omega
 rw [er]
 refine Eq.trans h4 ?_
 simp (disch:=omega) only [bs,↓iP,↓iN,AnX F hF h1 (by omega)]
 rw [h3,Dx,← Nat.pow_add,show 64*(n / 64)+n % 64=n by omega]
def Zk:Nat:=18446744073709551616 ^ 8
theorem Aoh{s k:Nat}(h:s≤64*k):2 ^ s≤18446744073709551616 ^ k:=by
 rw [p64]
 exact Nat.pow_le_pow_right (by omega) h
theorem A8H{v:Nat}(h:v < Zk):(ofn v).length≤8:=Bl h
theorem Akx(F:Nat)(hF:A9 F){R:Type}(k2:List Int→List Int→Option R){a b:Nat} :
  ∀ (m r d Q:Nat) (x6:List Int),Dv a b m r d Q→Wd x6→wv x6=Q→m≤64*x6.length→x6.length≤1000→r < Zk→d < Zk →
   ∀ N,m < N→∃ o:List Int,Wd o∧o.length=x6.length∧wv o=a / b∧Ez F k2 N x6 (ofn r) (ofn d) ((m:Int) - 1)=k2 o (ofn (a % b)):=by
 intro m
 induction m with
 | zero =>
  intro r d Q x6 h hw he hm hl h1 h2 N hN
  obtain ⟨N,rfl⟩:∃ M,N=M+1:=⟨N - 1,by omega⟩
  obtain ⟨e1,e2⟩:=h.done
  refine ⟨x6,hw,rfl,by rw [he,e1],?_⟩
  unfold Ez
  simp (disch:=omega) only [bs,↓iP,↓iN,e2]
 | succ m ih =>
  intro r d Q x6 h hw he hm hl h1 h2 N hN
  obtain ⟨N,rfl⟩:∃ M,N=M+1:=⟨N - 1,by omega⟩
  have hs:=h.step
  have l1:=A8H h1
  have l2:=A8H h2
  have hd2:d / 2 < Zk:=by omega
  have ei:((m+1:Nat):Int) - 1=(m:Int):=by omega
  rw [ei]
  have hq:Ht .i64 (m:Int) 64=((m / 64:Nat):Int):=by rw [Uw (by omega) (by omega) (by omega)]; omega
  have hmm:I9 (m:Int) 64=((m % 64:Nat):Int):=by rw [Tw (by omega)]; omega
  have hwr:IntKind.u64.wrap ((m % 64:Nat):Int)=((m % 64:Nat):Int):=Bi (by omega)
  unfold Ez
  rw [hq,hmm,hwr,Yn F hF (by omega) (by omega)]
  have hc:leI 0 (AnY r d)=decide (d≤r):=by
   unfold leI AnY
   apply decide_eq_decide.2
   split <;> (try split) <;> omega
  simp only [bS,hc]
  by_cases hdr:d≤r
  ·rw [iP hdr] at hs
   have hle:(ofn d).length≤(ofn r).length:=C4.2 (Nat.lt_of_le_of_lt hdr (C4.1 (Nat.le_refl _)))
   obtain ⟨b1,b2,b3⟩:=Akw hw (i:=m) (by omega) (by rw [he]; exact h.hQ)
   obtain ⟨o,g1,g2,g3,g4⟩:=ih (r - d) (d / 2) (Q+2 ^ m) (Aup x6 m) hs b1 (by rw [b3,he]) (by omega) (by omega) (by omega) hd2 N (by omega)
   refine ⟨o,g1,by omega,g3,?_⟩
   refine Eq.trans ?_ g4
   rw [decide_eq_true hdr,A3j F hF (Fx r) (Fx d) hle (by omega) (by rw [Dx,Dx]; exact hdr),Dx,Dx]
   simp (disch:=omega) only [bs,↓iP,↓iN,Atm F hF (Fx d) (by omega),Dx]
   rfl
  ·rw [iN hdr] at hs
   obtain ⟨o,g1,g2,g3,g4⟩:=ih r (d / 2) Q x6 hs hw he (by omega) hl h1 hd2 N (by omega)
   refine ⟨o,g1,g2,g3,?_⟩
   refine Eq.trans ?_ g4
   rw [decide_eq_false hdr]
   simp (disch:=omega) only [bs,↓iP,↓iN,Atm F hF (Fx d) (by omega),Dx]
theorem Ac1(F:Nat)(hF:A9 F){a b:Nat}(hb:0 < b)(ha:a < Zk)(hbl:b < Zk) :
  K8 F (ofn a) (ofn b)=some (ofn (a / b),ofn (a % b),()):=by
 have l1:=A8H ha
 have l2:=A8H hbl
 have hF':=hF
 unfold A9 at hF'
 by_cases h1:(ofn b).length=1
 ·have hlt:b < 18446744073709551616:=by have:=Azf (v:=b) (n:=1) (by omega); rw [Nat.pow_one] at this; exact this
  have ob:ofn b=[(b:Int)]:=by
   rw [Wk (by omega),Nat.div_eq_of_lt hlt,Kr,Nat.mod_eq_of_lt hlt]
  rw [ob,AdL F hF (Fx _) (by omega) (by omega),Dx,Int.toNat_natCast]
 ·unfold K8
  obtain ⟨s,hs,hsl,es⟩:=Xs F (v:=a) (by omega)
  obtain ⟨t,ht,htl,et⟩:=Xs F (v:=b) (by omega)
  have ht1:=(ht.2.2 hb).1
  have etr:C7 F ([]++ofn a)=some (ofn a,()):=by
   rw [List.nil_append,P3 F hF (Fx a) (by omega),Dx]
  have hne:¬ (((ofn b).length:Int)=1):=by omega
  by_cases hst:s < t
  ·have hlt:=AtJ hs ht hst
   simp (disch:=omega) only [bs,↓iP,↓iN,etr,es,et]
   rw [Nat.div_eq_of_lt hlt,Nat.mod_eq_of_lt hlt,Kr]
  ·obtain ⟨c1,c2⟩:=Azo hs ht hb (by omega)
   have hst2:(s:Int) - (t:Int)=((s - t:Nat):Int):=by omega
   have h8:b*2 ^ (s - t) < Zk:=by
    exact Nat.lt_of_lt_of_le c2 (Aoh (k:=8) (by omega))
   obtain ⟨o,g1,g2,g3,g4⟩:=Akx F hF (fun z39 z40=>(C7 F z39).bind fun r41=>some (r41.1,(z40,()))) (s - t+1) a (b*2 ^ (s - t)) 0 (Cl ((ofn a).length:Int) (0:Int)) (Dv.start c1) (Wd.repl _) (by unfold Cl; exact Aga _) (by simp [Cl]; omega) (by simp [Cl]; omega) ha h8 F (by omega)
   have e1:((s - t+1:Nat):Int) - 1=((s - t:Nat):Int):=by omega
   rw [e1] at g4
   simp (disch:=omega) only [bs,↓iP,↓iN,etr,es,et,hst2,Bdh F hF (v:=b) (n:=s - t) (by omega) (by omega)]
   refine Eq.trans g4 ?_
   have:(Cl ((ofn a).length:Int) (0:Int)).length=(ofn a).length:=by simp [Cl]
   simp (disch:=omega) only [bs,↓iP,↓iN,P3 F hF g1 (by omega)]
   rw [g3]
theorem Axm{l:List Int}(hw:Wd l)(h:l.length=4):∃ a b c d:Int,l=[a,b,c,d]∧(0≤a∧a≤18446744073709551615)∧(0≤b∧b≤18446744073709551615)∧(0≤c∧c≤18446744073709551615)∧(0≤d∧d≤18446744073709551615):=by
 match l,h with
 | [a,b,c,d],_=>exact ⟨a,b,c,d,rfl,hw a (by simp),hw b (by simp),hw c (by simp),hw d (by simp)⟩
theorem wd4{a b c d:Int}(h0:0≤a∧a≤18446744073709551615)(h1:0≤b∧b≤18446744073709551615)(h2:0≤c∧c≤18446744073709551615)(h3:0≤d∧d≤18446744073709551615):Wd [a,b,c,d] :=
 Wd.cons h0 (Wd.cons h1 (Wd.cons h2 (Wd.one h3)))
theorem wv4(a b c d:Int):wv [a,b,c,d]=a.toNat+18446744073709551616*(b.toNat+18446744073709551616*(c.toNat+18446744073709551616*d.toNat)):=by
 simp only [wv]
 omega
theorem g0(a b c d:Int):An 0 [a,b,c,d] 0=a:=rfl
theorem g1(a b c d:Int):An 0 [a,b,c,d] 1=b:=rfl
theorem g2(a b c d:Int):An 0 [a,b,c,d] 2=c:=rfl
theorem g3(a b c d:Int):An 0 [a,b,c,d] 3=d:=rfl
theorem Bdi(a b c d x:Int):Cd [a,b,c,d] 0 x=[x,b,c,d]:=rfl
theorem A8I(a b c d x:Int):Cd [a,b,c,d] 1 x=[a,x,c,d]:=rfl
theorem A84(a b c d x:Int):Cd [a,b,c,d] 2 x=[a,b,x,d]:=rfl
theorem A3F(a b c d x:Int):Cd [a,b,c,d] 3 x=[a,b,c,x]:=rfl
theorem l4(a b c d:Int):(([a,b,c,d]:List Int).length:Int)=4:=rfl
def Bdj(x y:Int):Int:=if x < y then -1 else if y < x then 1 else 0
theorem Axn(F:Nat)(x y:Int):Do F x y=some (Bdj x y,()):=by
 unfold Do Kp Bdj
 simp (disch:=omega) only [bs,↓iP,↓iN]
 split <;> (try split) <;> rfl
theorem Yu(F:Nat){R:Type}(k0 kr:Int→Option R)(l:List Int){i:Int}(hi:0≤i)(h:i < (l.length:Int))(hm:(l.length:Int)≤1000)(N:Nat) :
  Ec F k0 kr (N+1) 0 l (l.length:Int) i=if An 0 l i=0 then Ec F k0 kr N 0 l (l.length:Int) (i+1) else kr (An 0 l i):=by
 rw [Ec]
 simp (disch:=omega) only [bs,↓iP,↓iN]
 by_cases hz:An 0 l i=0
 ·rw [iP hz]; simp (disch:=omega) only [bs,↓iP,↓iN]
 ·rw [iN hz]; simp (disch:=omega) only [bs,↓iP,↓iN]
theorem Bdk(F:Nat)(hF:A9 F)(p q r s:Int):Ni F [p,q,r,s]=some (if p=0 then(if q=0 then(if r=0 then s else r) else q) else p,()):=by
 unfold A9 at hF
 obtain ⟨N,hN⟩:∃ N,F=N+1+1+1+1+1:=⟨F - 5,by omega⟩
 unfold Ni
 have key:∀ M,M=N+1+1+1+1+1→Ec F (fun z6=>some (z6,())) (fun z7=>some (z7,())) M 0 [p,q,r,s] (([p,q,r,s]:List Int).length:Int) 0=some (if p=0 then(if q=0 then(if r=0 then s else r) else q) else p,()):=by
  intro M hM
  subst hM
  rw [Yu F _ _ _ (by omega) (by rw [l4]; omega) (by rw [l4]; omega),g0]
  split
  ·rw [show(0:Int)+1=1 from rfl,Yu F _ _ _ (by omega) (by rw [l4]; omega) (by rw [l4]; omega),g1]
   split
   ·rw [show(1:Int)+1=2 from rfl,Yu F _ _ _ (by omega) (by rw [l4]; omega) (by rw [l4]; omega),g2]
    split
    ·rw [show(2:Int)+1=3 from rfl,Yu F _ _ _ (by omega) (by rw [l4]; omega) (by rw [l4]; omega),g3]
     split
     ·rename_i h
      rw [show(3:Int)+1=4 from rfl,Ec,l4,h]
      simp (disch:=omega) only [bs,↓iP,↓iN]
     ·rfl
    ·rfl
   ·rfl
  ·rfl
 exact key F hN
theorem P5(F:Nat)(hF:A9 F){l m:List Int}(hl:Wd l)(hm:Wd m)(h4:l.length=4)(h5:m.length=4):Lb F l m=some (AnY (wv l) (wv m),()):=by
 obtain ⟨a,b,c,d,rfl,ha,hb,hc,hd⟩:=Axm hl h4
 obtain ⟨a',b',c',d',rfl,ha',hb',hc',hd'⟩:=Axm hm h5
 unfold Lb
 simp only [g0,g1,g2,g3,Axn,bS,Bdk F hF,wv4]
 congr 2
 unfold Bdj AnY
 rcases Int.lt_trichotomy d d' with h | h | h
 ·rw [iN (by rw [iP h]; omega),iP h,iP (by omega)]
 ·rw [iP (by rw [iN (by omega),iN (by omega)])]
  subst h
  rcases Int.lt_trichotomy c c' with h | h | h
  ·rw [iN (by rw [iP h]; omega),iP h,iP (by omega)]
  ·rw [iP (by rw [iN (by omega),iN (by omega)])]
   subst h
   rcases Int.lt_trichotomy b b' with h | h | h
   ·rw [iN (by rw [iP h]; omega),iP h,iP (by omega)]
   ·rw [iP (by rw [iN (by omega),iN (by omega)])]
    subst h
    split <;> (try split) <;> (try split) <;> (try split) <;> omega
   ·rw [iN (by rw [iN (by omega),iP h]; omega),iN (by omega),iP h,iN (by omega),iP (by omega)]
  ·rw [iN (by rw [iN (by omega),iP h]; omega),iN (by omega),iP h,iN (by omega),iP (by omega)]
 ·rw [iN (by rw [iN (by omega),iP h]; omega),iN (by omega),iP h,iN (by omega),iP (by omega)]
theorem Axo(F:Nat){x y c:Int}(hx:0≤x)(hy:0≤y∧y≤18446744073709551615)(hc:0≤c∧c≤1) :
  Ju F x y c=some ((x - y - c) % 18446744073709551616,if x < y+c then 1 else 0,()):=by
 unfold Ju
 have hcond:(leI 0 x && leI 0 y && leI y 18446744073709551615 && leI 0 c && leI c 1)=true:=by simp only [Bool.and_eq_true,Bw]; omega
 rw [hcond,cT]
theorem Aau(F:Nat){R:Type}(k:List Int→Option R)(l m o:List Int){i c:Int}(hi:0≤i∧i < 4)(hx:0≤An 0 l i)(hy:0≤An 0 m i∧An 0 m i≤18446744073709551615)(hc:0≤c∧c≤1)(N:Nat) :
  Jn F k (N+1) l m o c i=Jn F k N l m (Cd o i ((An 0 l i - An 0 m i - c) % 18446744073709551616)) (if An 0 l i < An 0 m i+c then 1 else 0) (i+1):=by
 rw [Jn]
 simp (disch:=omega) only [bs,↓iP,↓iN,Axo F hx hy hc]
theorem Zl(x:Int):0≤x % 18446744073709551616∧x % 18446744073709551616≤18446744073709551615:=by omega
theorem A85{a b c d:Int}(h0:0≤a∧a≤18446744073709551615)(h1:0≤b∧b≤18446744073709551615)(h2:0≤c∧c≤18446744073709551615)(h3:0≤d∧d≤18446744073709551615) :
  ((wv [a,b,c,d]:Nat):Int)=a+18446744073709551616*b+340282366920938463463374607431768211456*c+6277101735386680763835789423207666416102355444464034512896*d:=by
 rw [wv4]; omega
theorem A3u{a b c d a' b' c' d' r1 r2 r3 r4 c1 c2 c3 c4:Int}(k1:r1=a - a'+18446744073709551616*c1)(k2:r2=b - b' - c1+18446744073709551616*c2)(k3:r3=c - c' - c2+18446744073709551616*c3)(k4:r4=d - d' - c3+18446744073709551616*c4)
  (h1:0≤r1∧r1≤18446744073709551615) (h2:0≤r2∧r2≤18446744073709551615) (h3:0≤r3∧r3≤18446744073709551615) (h4:0≤r4∧r4≤18446744073709551615) (b4:0≤c4∧c4≤1)
  (hV:a'+18446744073709551616*b'+340282366920938463463374607431768211456*c'+6277101735386680763835789423207666416102355444464034512896*d'≤a+18446744073709551616*b+340282366920938463463374607431768211456*c+6277101735386680763835789423207666416102355444464034512896*d) :
  r1+18446744073709551616*r2+340282366920938463463374607431768211456*r3+6277101735386680763835789423207666416102355444464034512896*r4=(a+18446744073709551616*b+340282366920938463463374607431768211456*c+6277101735386680763835789423207666416102355444464034512896*d) - (a'+18446744073709551616*b'+340282366920938463463374607431768211456*c'+6277101735386680763835789423207666416102355444464034512896*d'):=by
 have hs:r1+18446744073709551616*r2+340282366920938463463374607431768211456*r3+6277101735386680763835789423207666416102355444464034512896*r4=(a+18446744073709551616*b+340282366920938463463374607431768211456*c+6277101735386680763835789423207666416102355444464034512896*d) - (a'+18446744073709551616*b'+340282366920938463463374607431768211456*c'+6277101735386680763835789423207666416102355444464034512896*d')+115792089237316195423570985008687907853269984665640564039457584007913129639936*c4:=by
  clear h1 h2 h3 h4 b4 hV
  omega
 have hb:r1+18446744073709551616*r2+340282366920938463463374607431768211456*r3+6277101735386680763835789423207666416102355444464034512896*r4 < 115792089237316195423570985008687907853269984665640564039457584007913129639936:=by
  clear k1 k2 k3 k4 hV hs
  omega
 clear k1 k2 k3 k4 h1 h2 h3 h4
 generalize a+18446744073709551616*b+340282366920938463463374607431768211456*c+6277101735386680763835789423207666416102355444464034512896*d=V at *
 generalize a'+18446744073709551616*b'+340282366920938463463374607431768211456*c'+6277101735386680763835789423207666416102355444464034512896*d'=V' at *
 generalize r1+18446744073709551616*r2+340282366920938463463374607431768211456*r3+6277101735386680763835789423207666416102355444464034512896*r4=R at *
 omega
theorem Aky(p:Prop)[Decidable p]:0≤(if p then(1:Int) else 0)∧(if p then(1:Int) else 0)≤1:=by split <;> omega
theorem Akz(F:Nat)(hF:A9 F){l m:List Int}(hl:Wd l)(hm:Wd m)(h4:l.length=4)(h5:m.length=4)(h:wv m≤wv l):Xb F l m=some (U7 (wv l - wv m),()):=by
 obtain ⟨a,b,c,d,rfl,ha,hb,hc,hd⟩:=Axm hl h4
 obtain ⟨a',b',c',d',rfl,ha',hb',hc',hd'⟩:=Axm hm h5
 unfold A9 at hF
 obtain ⟨N,hN⟩:∃ N,F=N+1+1+1+1+1:=⟨F - 5,by omega⟩
 unfold Xb
 have key:∀ M,M=N+1+1+1+1+1→Jn F (fun z7=>some (z7,())) M [a,b,c,d] [a',b',c',d'] [0,0,0,0] 0 0=some (U7 (wv [a,b,c,d] - wv [a',b',c',d']),()):=by
  intro M hM
  subst hM
  rw [Aau F _ _ _ _ (by omega) (by rw [g0]; omega) (by rw [g0]; omega) (by omega)]
  rw [g0,g0,Bdi,show(0:Int)+1=1 from rfl]
  rw [Aau F _ _ _ _ (by omega) (by rw [g1]; omega) (by rw [g1]; omega) (Aky _)]
  rw [g1,g1,A8I,show(1:Int)+1=2 from rfl]
  generalize hc1:(if a < a'+0 then(1:Int) else 0)=c1
  rw [Aau F _ _ _ _ (by omega) (by rw [g2]; omega) (by rw [g2]; omega) (Aky _)]
  rw [g2,g2,A84,show(2:Int)+1=3 from rfl]
  generalize hc2:(if b < b'+c1 then(1:Int) else 0)=c2
  rw [Aau F _ _ _ _ (by omega) (by rw [g3]; omega) (by rw [g3]; omega) (Aky _)]
  rw [g3,g3,A3F,show(3:Int)+1=4 from rfl]
  generalize hc3:(if c < c'+c2 then(1:Int) else 0)=c3
  generalize hc4:(if d < d'+c3 then(1:Int) else 0)=c4
  rw [Jn]
  simp (disch:=omega) only [bs,↓iP,↓iN]
  have b1:0≤c1∧c1≤1:=by rw [← hc1]; exact Aky _
  have b2:0≤c2∧c2≤1:=by rw [← hc2]; exact Aky _
  have b3:0≤c3∧c3≤1:=by rw [← hc3]; exact Aky _
  have b4:0≤c4∧c4≤1:=by rw [← hc4]; exact Aky _
  congr 2
  refine AdN ?_ (Nm _) ?_ ?_
  ·exact wd4 (by omega) (by omega) (by omega) (by omega)
  ·rw [Eb]
   ·rfl
   ·have:=T8 hl
    rw [h4] at this
    show _ < 18446744073709551616 ^ 4
    omega
  ·rw [C2]
   have k1:(a - a' - 0) % 18446744073709551616=a - a'+18446744073709551616*c1:=by rw [← hc1]; clear hc1 hc2 hc3 hc4 h; split <;> omega
   have k2:(b - b' - c1) % 18446744073709551616=b - b' - c1+18446744073709551616*c2:=by rw [← hc2]; clear hc1 hc2 hc3 hc4 h; split <;> omega
   have k3:(c - c' - c2) % 18446744073709551616=c - c' - c2+18446744073709551616*c3:=by rw [← hc3]; clear hc1 hc2 hc3 hc4 h; split <;> omega
   have k4:(d - d' - c3) % 18446744073709551616=d - d' - c3+18446744073709551616*c4:=by rw [← hc4]; clear hc1 hc2 hc3 hc4 h; split <;> omega
   have hV:(wv [a',b',c',d']:Int)≤(wv [a,b,c,d]:Int):=by omega
   have e:=A3u k1 k2 k3 k4 (Zl _) (Zl _) (Zl _) (Zl _) b4 (by rw [← A85 ha hb hc hd,← A85 ha' hb' hc' hd']; exact hV)
   rw [← A85 ha hb hc hd,← A85 ha' hb' hc' hd',← A85 (Zl _) (Zl _) (Zl _) (Zl _)] at e
   omega
 exact key F hN
theorem Xt(F:Nat){R:Type}(k:List Int→Option R)(l o:List Int){i:Int}(hi:0≤i∧i < 4)(hx:Wd l)(N:Nat)(ho:o.length=4) :
  Ed F k (N+1) l o i=Ed F k N l (Cd o i (if i < 3 then An 0 l i / 2+An 0 l (i+1) % 2*9223372036854775808 else An 0 l i / 2)) (i+1):=by
 rw [Ed]
 have h1:=hx.get i
 have h2:=hx.get (i+1)
 have hs:∀ x y:Int,Cd (Cd o i x) i y=Cd o i y:=fun x y=>by simp [Cd]
 have hg:∀ x:Int,An 0 (Cd o i x) i=x:=by
  intro x
  have:i.toNat < o.length:=by omega
  simp [Cd,An,this]
 by_cases h3:i < 3
 ·rw [iP h3]
  simp (disch:=omega) only [bs,↓iP,↓iN,hs,hg,Kk]
 ·rw [iN h3]
  simp (disch:=omega) only [bs,↓iP,↓iN,A8F]
theorem Vt(F:Nat)(hF:A9 F){l:List Int}(hl:Wd l)(h4:l.length=4):Pw F l=some (U7 (wv l / 2),()):=by
 have hlt:=T8 hl
 rw [h4] at hlt
 obtain ⟨a,b,c,d,rfl,ha,hb,hc,hd⟩:=Axm hl h4
 unfold A9 at hF
 obtain ⟨N,hN⟩:∃ N,F=N+1+1+1+1+1:=⟨F - 5,by omega⟩
 unfold Pw
 have key:∀ M,M=N+1+1+1+1+1→Ed F (fun z14=>some (z14,())) M [a,b,c,d] [0,0,0,0] 0=some (U7 (wv [a,b,c,d] / 2),()):=by
  intro M hM
  subst hM
  rw [Xt F _ _ _ (by omega) hl _ rfl,show(0:Int)+1=1 from rfl,iP (by omega),g0,g1,Bdi]
  rw [Xt F _ _ _ (by omega) hl _ rfl,show(1:Int)+1=2 from rfl,iP (by omega),g1,g2,A8I]
  rw [Xt F _ _ _ (by omega) hl _ rfl,show(2:Int)+1=3 from rfl,iP (by omega),g2,g3,A84]
  rw [Xt F _ _ _ (by omega) hl _ rfl,show(3:Int)+1=4 from rfl,iN (by omega),g3,A3F]
  rw [Ed]
  simp (disch:=omega) only [bs,↓iP,↓iN]
  congr 2
  refine AdN ?_ (Nm _) ?_ ?_
  ·exact wd4 (by omega) (by omega) (by omega) (by omega)
  ·rw [Eb]
   ·rfl
   ·show _ < 18446744073709551616 ^ 4
    omega
  ·rw [C2,wv4,wv4]
   omega
 exact key F hN
theorem Tc(F:Nat){R:Type}(k0:Option R)(kr:Int→Option R)(l:List Int){i:Int}(hi:0≤i∧i < 4)(hx:Wd l)(N:Nat) :
  Fm F k0 kr (N+1) l i=if An 0 l i=0 then Fm F k0 kr N l (i - 1) else kr (64*i+(Lib.bitLen (An 0 l i).toNat:Int)):=by
 rw [Fm]
 have h1:=hx.get i
 have h2:=(Yt h1).2
 by_cases hz:An 0 l i=0
 ·rw [iP hz]; simp (disch:=omega) only [bs,↓iP,↓iN]
 ·rw [iN hz]; simp (disch:=omega) only [bs,↓iP,↓iN,Aog F h1]
theorem Vu(F:Nat)(hF:A9 F){l:List Int}(hl:Wd l)(h4:l.length=4):∃ s:Nat,Sz (wv l) s∧s≤256∧Pv F l=some ((s:Int),()):=by
 obtain ⟨a,b,c,d,rfl,ha,hb,hc,hd⟩:=Axm hl h4
 unfold A9 at hF
 obtain ⟨N,hN⟩:∃ N,F=N+1+1+1+1+1:=⟨F - 5,by omega⟩
 unfold Pv
 have key:∀ M,M=N+1+1+1+1+1→∃ s:Nat,Sz (wv [a,b,c,d]) s∧s≤256∧Fm F (some (0,())) (fun z9=>some (z9,())) M [a,b,c,d] 3=some ((s:Int),()):=by
  intro M hM
  subst hM
  rw [Tc F _ _ _ (by omega) hl,g3,show(3:Int) - 1=2 from rfl]
  by_cases h3:d=0
  ·rw [iP h3,Tc F _ _ _ (by omega) hl,g2,show(2:Int) - 1=1 from rfl]
   by_cases h2:c=0
   ·rw [iP h2,Tc F _ _ _ (by omega) hl,g1,show(1:Int) - 1=0 from rfl]
    by_cases h1:b=0
    ·rw [iP h1,Tc F _ _ _ (by omega) hl,g0,show(0:Int) - 1=-1 from rfl]
     by_cases h0:a=0
     ·refine ⟨0,?_,by omega,?_⟩
      ·rw [wv4,h0,h1,h2,h3]; exact Akv
      ·rw [iP h0,Fm]; simp (disch:=omega) only [bs,↓iP,↓iN]; rfl
     ·obtain ⟨z1,z2⟩:=Yt ha
      refine ⟨Lib.bitLen a.toNat,?_,by omega,?_⟩
      ·rw [wv4,h1,h2,h3]; simpa using z1
      ·rw [iN h0]; congr 2; omega
    ·obtain ⟨z1,z2⟩:=Yt hb
     refine ⟨64+Lib.bitLen b.toNat,?_,by omega,?_⟩
     ·rw [wv4,h2,h3]
      have:=Aof (lo:=a.toNat) (k:=64) (t:=b.toNat) (by omega) (by omega) z1
      simpa using this
     ·rw [iN h1]; congr 2
   ·obtain ⟨z1,z2⟩:=Yt hc
    refine ⟨128+Lib.bitLen c.toNat,?_,by omega,?_⟩
    ·rw [wv4,h3]
     have:=Aof (lo:=a.toNat+18446744073709551616*b.toNat) (k:=128) (t:=c.toNat) (by omega) (by omega) z1
     have e:a.toNat+18446744073709551616*(b.toNat+18446744073709551616*(c.toNat+18446744073709551616*(0:Int).toNat))=a.toNat+18446744073709551616*b.toNat+2 ^ 128*c.toNat:=by
      rw [show(0:Int).toNat=0 from rfl]; omega
     rw [e]; exact this
    ·rw [iN h2]; congr 2
  ·obtain ⟨z1,z2⟩:=Yt hd
   refine ⟨192+Lib.bitLen d.toNat,?_,by omega,?_⟩
   ·rw [wv4]
    have:=Aof (lo:=a.toNat+18446744073709551616*(b.toNat+18446744073709551616*c.toNat)) (k:=192) (t:=d.toNat) (by omega) (by omega) z1
    have e:a.toNat+18446744073709551616*(b.toNat+18446744073709551616*(c.toNat+18446744073709551616*d.toNat))=a.toNat+18446744073709551616*(b.toNat+18446744073709551616*c.toNat)+2 ^ 192*d.toNat:=by
     omega
    rw [e]; exact this
   ·rw [iN h3]; congr 2
 exact key F hN
def AtN(r:Nat)(x:Int):Nat:=x.toNat*2 ^ r % 18446744073709551616
def AtO(r:Nat)(x:Int):Nat:=x.toNat*2 ^ r / 18446744073709551616
theorem Aoi(r:Nat)(x:Int):x.toNat*2 ^ r=AtN r x+18446744073709551616*AtO r x:=(Nat.mod_add_div _ _).symm
theorem Axp{x y:Int}(hx:0≤x∧x≤18446744073709551615)(hy:0≤y∧y≤18446744073709551615):orI .u64 x y=orI .u64 y x:=by
 rw [Pp hx hy,Pp hy hx,Nat.or_comm]
theorem Uj(F:Nat){R:Type}(k:List Int→Option R)(l o:List Int){w r:Nat}{i:Int}(hw:(w:Int)≤i)(hi:i < 4)(hr:r < 64)(hl:Wd l)(ho:o.length=4)(N:Nat) :
  Du F k (N+1) l o (w:Int) (r:Int) i=Du F k N l (Cd o i ((if(w:Int) < i then AtN r (An 0 l (i - w))+AtO r (An 0 l (i - w - 1)) else AtN r (An 0 l (i - w)):Nat):Int)) (w:Int) (r:Int) (i+1):=by
 have h1:=hl.get (i - w)
 have h2:=hl.get (i - w - 1)
 have hs:∀ x y:Int,Cd (Cd o i x) i y=Cd o i y:=fun x y=>by simp [Cd]
 have hg:∀ x:Int,An 0 (Cd o i x) i=x:=by
  intro x
  have:i.toNat < o.length:=by omega
  simp [Cd,An,this]
 obtain ⟨v1,v2⟩:=Agi h2 hr
 have hsh:Hv .u64 (An 0 l (i - w)) (r:Int)=((AtN r (An 0 l (i - w)):Nat):Int):=by
  rw [Kn h1.1 (by omega),Int.toNat_natCast,Nat.min_eq_left (by omega)]
  rfl
 have hb:AtN r (An 0 l (i - w)) < 18446744073709551616:=Nat.mod_lt _ (by omega)
 rw [Du]
 unfold Qi
 by_cases h0:0 < r
 ·have hc:(64:Int) - (r:Int)=((64 - r:Nat):Int):=by omega
  have v3:=v2 h0
  by_cases h3:(w:Int) < i
  ·rw [iP h3]
   obtain ⟨o1,o2⟩:=AtK h1 hr v1
   have hb2:AtO r (An 0 l (i - w - 1)) < 2 ^ r:=v1
   have h2r:2 ^ r < 2 ^ 64:=Nat.pow_lt_pow_right (by omega) hr
   have ho':orI .u64 ((AtN r (An 0 l (i - w)):Nat):Int) ((AtO r (An 0 l (i - w - 1)):Nat):Int)=((AtN r (An 0 l (i - w))+AtO r (An 0 l (i - w - 1)):Nat):Int):=by
    rw [Axp (by omega) (by omega),← hsh]
    refine Eq.trans o1 ?_
    unfold AtN AtO
    omega
   have v4:Fg .u64 (An 0 l (i - w - 1)) ((64 - r:Nat):Int)=((AtO r (An 0 l (i - w - 1)):Nat):Int):=v3
   simp (disch:=omega) only [bs,↓iP,↓iN,hs,hg,hsh,hc,v4,ho']
  ·rw [iN h3]
   simp (disch:=omega) only [bs,↓iP,↓iN,hs,hg,hsh]
 ·have hr0:r=0:=by omega
  subst hr0
  have hh:AtO 0 (An 0 l (i - w - 1))=0:=by
   unfold AtO
   rw [Nat.pow_zero,Nat.mul_one]
   omega
  rw [hh]
  by_cases h3:(w:Int) < i
  ·rw [iP h3]
   simp (disch:=omega) only [bs,↓iP,↓iN,hs,hg,hsh]
   rfl
  ·rw [iN h3]
   simp (disch:=omega) only [bs,↓iP,↓iN,hs,hg,hsh]
theorem Biw(a b c d R:Nat):(a+18446744073709551616*(b+18446744073709551616*(c+18446744073709551616*d)))*R=a*R+18446744073709551616*(b*R+18446744073709551616*(c*R+18446744073709551616*(d*R))):=by
 simp only [Nat.add_mul,Nat.mul_add,Nat.mul_assoc]
theorem Axq(r:Nat)(x:Int):AtN r x < 18446744073709551616:=Nat.mod_lt _ (by omega)
theorem Yv{r:Nat}{x y:Int}(hx:0≤x∧x≤18446744073709551615)(hy:0≤y∧y≤18446744073709551615)(hr:r < 64):AtN r x+AtO r y < 18446744073709551616:=by
 have:=(AtK hx hr (Agi hy hr).1).2
 unfold AtN AtO
 omega
set_option maxHeartbeats 1000000 in
theorem Aj8(F:Nat)(hF:A9 F){l:List Int}(hl:Wd l)(h4:l.length=4){n:Nat}(hn:n < 256)(h:wv l*2 ^ n < A1):Xa F l (n:Int)=some (U7 (wv l*2 ^ n),()):=by
 have hq:Ht .i64 (n:Int) 64=((n / 64:Nat):Int):=by rw [Uw (by omega) (by omega) (by omega)]; omega
 have hm:I9 (n:Int) 64=((n % 64:Nat):Int):=by rw [Tw (by omega)]; omega
 obtain ⟨a,b,c,d,rfl,ha,hb,hc,hd⟩:=Axm hl h4
 unfold A9 at hF
 obtain ⟨N,hN⟩:∃ N,F=N+1+1+1+1+1:=⟨F - 5,by omega⟩
 unfold Xa
 rw [hq,hm]
 have hnn:n=64*(n / 64)+n % 64:=by omega
 have hr:n % 64 < 64:=by omega
 have hw:n / 64=0∨n / 64=1∨n / 64=2∨n / 64=3:=by omega
 generalize n % 64=r at *
 generalize n / 64=w at *
 have hval:wv [a,b,c,d]*2 ^ n=(a.toNat*2 ^ r+18446744073709551616*(b.toNat*2 ^ r+18446744073709551616*(c.toNat*2 ^ r+18446744073709551616*(d.toNat*2 ^ r))))*2 ^ (64*w):=by
  rw [hnn,Nat.add_comm (64*w),Nat.pow_add,← Nat.mul_assoc,wv4,Biw]
 rw [Aoi r a,Aoi r b,Aoi r c,Aoi r d] at hval
 have p0:=Axq r a
 have p1:=Yv hb ha hr
 have p2:=Yv hc hb hr
 have p3:=Yv hd hc hr
 have fin:∀ o:List Int,Wd o→o.length=4→wv o=wv [a,b,c,d]*2 ^ n→some (o,())=some (U7 (wv [a,b,c,d]*2 ^ n),()):=by
  intro o h1 h2 h3
  rw [← h3,Wl h1 h2]
 have htop:A1=18446744073709551616*18446744073709551616*18446744073709551616*18446744073709551616:=by decide
 have key:∀ M,M=N+1+1+1+1+1→Du F (fun z30=>some (z30,())) M [a,b,c,d] [0,0,0,0] (w:Int) (r:Int) (w:Int)=some (U7 (wv [a,b,c,d]*2 ^ n),()):=by
  intro M hM
  subst hM
  rcases hw with rfl | rfl | rfl | rfl
  ·rw [Uj F _ _ _ (by omega) (by omega) hr hl rfl,show((0:Nat):Int)=0 from rfl,iN (by omega),show(0:Int) - 0=0 from rfl,g0,Bdi,show(0:Int)+1=1 from rfl]
   have st:=fun N o ho (i:Int) h1 h2=>Uj F (fun z30:List Int=>some (z30,())) [a,b,c,d] o (w:=0) (r:=r) (i:=i) h1 h2 hr hl ho N
   rw [show(0:Int)=((0:Nat):Int) from rfl,st _ _ rfl _ (by omega) (by omega),iP (by omega)]
   simp only [show((0:Nat):Int)=0 from rfl,show(1:Int) - 0=1 from rfl,show(1:Int) - 1=0 from rfl,g0,g1,A8I,show(1:Int)+1=2 from rfl]
   rw [show(0:Int)=((0:Nat):Int) from rfl,st _ _ rfl _ (by omega) (by omega),iP (by omega)]
   simp only [show((0:Nat):Int)=0 from rfl,show(2:Int) - 0=2 from rfl,show(2:Int) - 1=1 from rfl,g1,g2,A84,show(2:Int)+1=3 from rfl]
   rw [show(0:Int)=((0:Nat):Int) from rfl,st _ _ rfl _ (by omega) (by omega),iP (by omega)]
   simp only [show((0:Nat):Int)=0 from rfl,show(3:Int) - 0=3 from rfl,show(3:Int) - 1=2 from rfl,g2,g3,A3F,show(3:Int)+1=4 from rfl]
   rw [Du]
   simp (disch:=omega) only [bs,↓iP,↓iN]
   refine fin _ (wd4 (by omega) (by omega) (by omega) (by omega)) rfl ?_
   rw [hval,htop] at h
   rw [hval,wv4]
   clear hval fin st hq hm hnn
   simp only [Nat.mul_zero,Nat.pow_zero,Nat.mul_one,Int.toNat_natCast] at h ⊢
   omega
  ·have st:=fun N o ho (i:Int) h1 h2=>Uj F (fun z30:List Int=>some (z30,())) [a,b,c,d] o (w:=1) (r:=r) (i:=i) h1 h2 hr hl ho N
   rw [st _ _ rfl _ (by omega) (by omega),iN (by omega)]
   simp only [show((1:Nat):Int)=1 from rfl,show(1:Int) - 1=0 from rfl,g0,A8I,show(1:Int)+1=2 from rfl]
   rw [show(1:Int)=((1:Nat):Int) from rfl,st _ _ rfl _ (by omega) (by omega),iP (by omega)]
   simp only [show((1:Nat):Int)=1 from rfl,show(2:Int) - 1=1 from rfl,show(1:Int) - 1=0 from rfl,g0,g1,A84,show(2:Int)+1=3 from rfl]
   rw [show(1:Int)=((1:Nat):Int) from rfl,st _ _ rfl _ (by omega) (by omega),iP (by omega)]
   simp only [show((1:Nat):Int)=1 from rfl,show(3:Int) - 1=2 from rfl,show(2:Int) - 1=1 from rfl,g1,g2,A3F,show(3:Int)+1=4 from rfl]
   rw [Du]
   simp (disch:=omega) only [bs,↓iP,↓iN]
   refine fin _ (wd4 (by omega) (by omega) (by omega) (by omega)) rfl ?_
   rw [hval,htop] at h
   rw [hval,wv4]
   clear hval fin st hq hm hnn
   simp only [show(2:Nat) ^ (64*1)=18446744073709551616 from rfl,Int.toNat_natCast,show(0:Int).toNat=0 from rfl] at h ⊢
   omega
  ·have st:=fun N o ho (i:Int) h1 h2=>Uj F (fun z30:List Int=>some (z30,())) [a,b,c,d] o (w:=2) (r:=r) (i:=i) h1 h2 hr hl ho N
   rw [st _ _ rfl _ (by omega) (by omega),iN (by omega)]
   simp only [show((2:Nat):Int)=2 from rfl,show(2:Int) - 2=0 from rfl,g0,A84,show(2:Int)+1=3 from rfl]
   rw [show(2:Int)=((2:Nat):Int) from rfl,st _ _ rfl _ (by omega) (by omega),iP (by omega)]
   simp only [show((2:Nat):Int)=2 from rfl,show(3:Int) - 2=1 from rfl,show(1:Int) - 1=0 from rfl,g0,g1,A3F,show(3:Int)+1=4 from rfl]
   rw [Du]
   simp (disch:=omega) only [bs,↓iP,↓iN]
   refine fin _ (wd4 (by omega) (by omega) (by omega) (by omega)) rfl ?_
   rw [hval,htop] at h
   rw [hval,wv4]
   clear hval fin st hq hm hnn
   simp only [show(2:Nat) ^ (64*2)=340282366920938463463374607431768211456 from rfl,Int.toNat_natCast,show(0:Int).toNat=0 from rfl] at h ⊢
   omega
  ·have st:=fun N o ho (i:Int) h1 h2=>Uj F (fun z30:List Int=>some (z30,())) [a,b,c,d] o (w:=3) (r:=r) (i:=i) h1 h2 hr hl ho N
   rw [st _ _ rfl _ (by omega) (by omega),iN (by omega)]
   simp only [show((3:Nat):Int)=3 from rfl,show(3:Int) - 3=0 from rfl,g0,A3F,show(3:Int)+1=4 from rfl]
   rw [Du]
   simp (disch:=omega) only [bs,↓iP,↓iN]
   refine fin _ (wd4 (by omega) (by omega) (by omega) (by omega)) rfl ?_
   rw [hval,htop] at h
   rw [hval,wv4]
   clear hval fin st hq hm hnn
   simp only [show(2:Nat) ^ (64*3)=6277101735386680763835789423207666416102355444464034512896 from rfl,Int.toNat_natCast,show(0:Int).toNat=0 from rfl] at h ⊢
   omega
 exact key F hN
theorem AtP(F:Nat)(hF:A9 F){R:Type}(k:List Int→List Int→List Int→Option R){a b:Nat}(z:List Int) :
  ∀ (m r d Q:Nat) (x4:List Int),Dv a b m r d Q→Wd x4→x4.length=4→wv x4=Q→m≤256→r < A1→d < A1 →
   ∀ N,m < N→∃ o:List Int,Wd o∧o.length=4∧wv o=a / b∧Ky F k N (U7 r) x4 z ((m:Int) - 1) (U7 d)=k (U7 (a % b)) o z:=by
 intro m
 induction m with
 | zero =>
  intro r d Q x4 h hw h4 he hm h1 h2 N hN
  obtain ⟨N,rfl⟩:∃ M,N=M+1:=⟨N - 1,by omega⟩
  obtain ⟨e1,e2⟩:=h.done
  refine ⟨x4,hw,h4,by rw [he,e1],?_⟩
  unfold Ky
  simp (disch:=omega) only [bs,↓iP,↓iN,e2]
 | succ m ih =>
  intro r d Q x4 h hw h4 he hm h1 h2 N hN
  obtain ⟨N,rfl⟩:∃ M,N=M+1:=⟨N - 1,by omega⟩
  have hs:=h.step
  have hd2:d / 2 < A1:=by omega
  have ei:((m+1:Nat):Int) - 1=(m:Int):=by omega
  rw [ei]
  have hq:Ht .i64 (m:Int) 64=((m / 64:Nat):Int):=by rw [Uw (by omega) (by omega) (by omega)]; omega
  have hmm:I9 (m:Int) 64=((m % 64:Nat):Int):=by rw [Tw (by omega)]; omega
  have hl0:ltI ((m % 64:Nat):Int) 0=false:=by rw [← Bool.not_eq_true,Aj]; omega
  have hin:inI ((m / 64:Nat):Int) 4=true:=by rw [Bo]; omega
  unfold Ky
  rw [hq,hmm,P5 F hF (Nm _) (Nm _) (Eb h1) (Eb h2),C2,C2]
  have hc:leI 0 (AnY r d)=decide (d≤r):=by
   unfold leI AnY
   apply decide_eq_decide.2
   split <;> (try split) <;> omega
  simp only [bS,hc]
  by_cases hdr:d≤r
  ·rw [iP hdr] at hs
   obtain ⟨b1,b2,b3⟩:=Akw hw (i:=m) (by omega) (by rw [he]; exact h.hQ)
   obtain ⟨o,g1,g2,g3,g4⟩:=ih (r - d) (d / 2) (Q+2 ^ m) (Aup x4 m) hs b1 (by omega) (by rw [b3,he]) (by omega) (by omega) hd2 N (by omega)
   refine ⟨o,g1,g2,g3,?_⟩
   refine Eq.trans ?_ g4
   rw [decide_eq_true hdr,Akz F hF (Nm _) (Nm _) (Eb h1) (Eb h2) (by rw [C2,C2]; exact hdr),C2,C2,hl0,hin]
   simp (disch:=omega) only [bs,↓iP,↓iN,Vt F hF (Nm d) (Eb h2),C2]
   rfl
  ·rw [iN hdr] at hs
   obtain ⟨o,g1,g2,g3,g4⟩:=ih r (d / 2) Q x4 hs hw h4 he (by omega) h1 hd2 N (by omega)
   refine ⟨o,g1,g2,g3,?_⟩
   refine Eq.trans ?_ g4
   rw [decide_eq_false hdr]
   simp (disch:=omega) only [bs,↓iP,↓iN,Vt F hF (Nm d) (Eb h2),C2]
theorem AkA(F:Nat)(hF:A9 F){l m:List Int}(hl:Wd l)(hm:Wd m)(h4:l.length=4)(h5:m.length=4)(hb:0 < wv m) :
  Aa8 F l m=some (U7 (wv l / wv m),U7 (wv l % wv m),()):=by
 have hF':=hF
 unfold A9 at hF'
 obtain ⟨s,hs,hsl,es⟩:=Vu F hF hl h4
 obtain ⟨t,ht,htl,et⟩:=Vu F hF hm h5
 have ht1:=(ht.2.2 hb).1
 have hlt:wv l < A1:=by have:=T8 hl; rw [h4] at this; exact this
 unfold Aa8
 by_cases hst:s < t
 ·have hl2:=AtJ hs ht hst
  simp (disch:=omega) only [bs,↓iP,↓iN,es,et]
  rw [Nat.div_eq_of_lt hl2,Nat.mod_eq_of_lt hl2,Wl hl h4,show U7 0=[0,0,0,0] from congrArg (·.2.1) Hc]
 ·obtain ⟨c1,c2⟩:=Azo hs ht hb (by omega)
  have hst2:(s:Int) - (t:Int)=((s - t:Nat):Int):=by omega
  have h8:wv m*2 ^ (s - t) < A1:=by
   exact Nat.lt_of_lt_of_le c2 (Aoh (k:=4) (by omega))
  obtain ⟨o,g1,g2,g3,g4⟩:=AtP F hF (fun z20 z21 z22=>some (z21,(z20,()))) [0,0,0,0] (s - t+1) (wv l) (wv m*2 ^ (s - t)) 0 [0,0,0,0] (Dv.start c1) (wd4 (by omega) (by omega) (by omega) (by omega)) rfl rfl (by omega) hlt h8 F (by omega)
  have e1:((s - t+1:Nat):Int) - 1=((s - t:Nat):Int):=by omega
  rw [e1,Wl hl h4] at g4
  simp (disch:=omega) only [bs,↓iP,↓iN,es,et,hst2,Aj8 F hF hm h5 (n:=s - t) (by omega) h8]
  refine Eq.trans g4 ?_
  rw [← g3,Wl g1 g2]
theorem P6(v:Nat):toW (v:Int)=(false,U7 v,()):=by
 unfold toW
 rw [decide_eq_false (by omega),Int.natAbs_natCast]
theorem Hs{v:Nat}(h:v < A1):WOk (toW (v:Int)):=C6 (by rw [Int.natAbs_natCast]; exact h)
theorem Gq(F:Nat){w:W}(h:WOk w):F3 F w=some (toW (wi w),()):=by
 unfold F3
 rw [O7 F h]
 by_cases hv:Vl w
 ·simp (disch:=omega) only [bs,↓iP,↓iN,hv,decide_true,AdO h hv]
 ·have:wi w=0:=by
   unfold Vl at hv
   unfold wi
   simp only [Classical.not_not] at hv
   rw [hv.1,hv.2]; rfl
  rw [this,Hc]
  simp (disch:=omega) only [bs,↓iP,↓iN,hv,decide_false]
theorem Aoj{a b:Nat}:U7 a=U7 b↔a=b:=⟨fun h=>by have:=congrArg wv h; rw [C2,C2] at this; exact this,fun h=>by rw [h]⟩
theorem AtQ:U7 0=[0,0,0,0]:=congrArg (·.2.1) Hc
theorem Qp(F:Nat){w:W}(h:WOk w):Ls F w=some (if wi w=0 then 0 else if wi w < 0 then -1 else 1,()):=by
 unfold Ls
 rw [Gq F h]
 simp only [bS]
 rw [show(toW (wi w)).1=decide (wi w < 0) from rfl,show(toW (wi w)).2.1=U7 (wi w).natAbs from rfl,Ub,← AtQ]
 have:decide (U7 (wi w).natAbs=U7 0)=decide (wi w=0):=decide_eq_decide.2 (by rw [Aoj]; omega)
 rw [this]
 by_cases h1:wi w < 0
 ·rw [decide_eq_true h1,cT,iN (by omega),iP h1]
 ·rw [decide_eq_false h1,cF]
  by_cases h2:wi w=0
  ·rw [decide_eq_true h2,cT,iP h2]
  ·rw [decide_eq_false h2,cF,iN h2,iN h1]
theorem Ac2(F:Nat)(hF:A9 F){a b:Nat}(ha:a < A1)(hb:b < A1)(h0:0 < b) :
  S2 F (toW (a:Int)) (toW (b:Int))=some (toW ((a / b:Nat):Int),toW ((a % b:Nat):Int),true,()):=by
 unfold S2
 rw [Gq F (Hs ha),Gq F (Hs hb),B0,B0]
 simp only [bS]
 rw [Qp F (Hs hb),B0,iN (by omega),iN (by omega)]
 simp only [bS]
 rw [P6,P6,P6,P6]
 have e0:eqI (1:Int) 0=false:=by rw [← Bool.not_eq_true,As]; omega
 simp only [e0,cF]
 rw [AkA F hF (Nm _) (Nm _) (Eb ha) (Eb hb) (by rw [C2]; exact h0),C2,C2]
 simp only [bS]
 unfold Nv Nw Nj F3 J4
 simp only [bS,cF,cT,show eqT Ty.bool false false=true from rfl,Bool.not_true,Bool.not_false]
theorem Kt(F:Nat)(hF:A9 F){a b:Nat}(ha:a < A1)(hb:b < A1)(h0:0 < b) :
  Dh F (toW (a:Int)) (toW (b:Int))=some (toW ((a / b:Nat):Int),toW ((a % b:Nat):Int),true,()):=by
 have t8:A1≤Zk:=Nat.pow_le_pow_right (by omega) (by omega)
 unfold Dh
 rw [Ef F hF (Hs ha),Ef F hF (Hs hb),B0,B0]
 simp only [bS]
 rw [Cg F hF (Hs hb),B0,iN (by omega),iN (by omega)]
 simp only [bS]
 have e0:eqI (1:Int) 0=false:=by rw [← Bool.not_eq_true,As]; omega
 simp only [e0,cF]
 rw [Dr F hF (Hs ha),Dr F hF (Hs hb)]
 simp only [bS]
 rw [show(toW (a:Int)).2.1=U7 a from by rw [P6],show(toW (b:Int)).2.1=U7 b from by rw [P6],C2,C2,Ac1 F hF h0 (by omega) (by omega)]
 simp only [bS]
 have fa:(toW (a:Int)).1=false:=by rw [P6]
 have fb:(toW (b:Int)).1=false:=by rw [P6]
 unfold Jf Jg
 have hq:a / b < A1:=Nat.lt_of_le_of_lt (Nat.div_le_self _ _) ha
 have hr:a % b < A1:=Nat.lt_trans (Nat.mod_lt _ h0) hb
 have lq:=Bl (v:=a / b) (n:=4) hq
 have lr:=Bl (v:=a % b) (n:=4) hr
 simp only [fa,fb,cF,cT,show eqT Ty.bool false false=true from rfl,Bool.not_true,Bool.not_false]
 rw [H8 F hF false (Fx _) (by omega),H8 F hF false (Fx _) (by omega),Dx,Dx]
 unfold Acw
 simp only [Bool.false_eq_true,if_false,Int.natAbs_natCast,hq,hr,if_true,bS,cF,Bool.not_true]
theorem AtS{b r:Nat}(h0:0 < r)(h:r < b):2*(b % r) < b:=by
 have h1:=Nat.mod_lt b h0
 have h2:=Nat.div_add_mod b r
 have h3:1≤b / r:=(Nat.one_le_div_iff h0).2 (by omega)
 have h4:r*1≤r*(b / r):=Nat.mul_le_mul_left _ h3
 omega
theorem N1(a b:Nat):Nat.gcd b (a % b)=Nat.gcd a b:=by
 rw [Nat.gcd_comm a b,Nat.gcd_rec b a,Nat.gcd_comm]
theorem A3v{a b:Nat}(ha:a < A1)(hb:b < A1)(h:0 < a∨0 < b):Nat.gcd a b < A1:=by
 rcases h with h | h
 ·exact Nat.lt_of_le_of_lt (Nat.gcd_le_left _ h) ha
 ·exact Nat.lt_of_le_of_lt (Nat.gcd_le_right _ h) hb
theorem Agj(F:Nat)(hF:A9 F){R:Type}(k0:W→W→Option R)(z:W){a b:Nat}(ha:a < A1)(hb:b < A1)(N:Nat) :
  E0 F k0 (N+1) (toW (a:Int)) (toW (b:Int)) z=if b=0 then k0 (toW (a:Int)) z else E0 F k0 N (toW (b:Int)) (toW ((a % b:Nat):Int)) z:=by
 rw [E0,Qp F (Hs hb),B0]
 simp only [bS]
 by_cases h0:b=0
 ·rw [iP h0,iP (by omega)]
  rfl
 ·rw [iN h0,iN (by omega),iN (by omega),Ac2 F hF ha hb (by omega)]
  have e0:eqI (1:Int) 0=false:=by rw [← Bool.not_eq_true,As]; omega
  simp only [e0,Bool.not_false,cT,bS]
theorem Axr(F:Nat)(hF:A9 F){R:Type}(k0:W→W→Option R)(z:W):∀ (m:Nat) (a b:Nat),b < 2 ^ m→a < A1→b < A1→∀ N,2*m < N →
  E0 F k0 N (toW (a:Int)) (toW (b:Int)) z=k0 (toW ((Nat.gcd a b:Nat):Int)) z:=by
 intro m
 induction m with
 | zero =>
  intro a b h ha hb N hN
  obtain ⟨N,rfl⟩:∃ M,N=M+1:=⟨N - 1,by omega⟩
  have h0:b=0:=by simpa using h
  rw [Agj F hF k0 z ha hb,iP h0,h0,Nat.gcd_zero_right]
 | succ m ih =>
  intro a b h ha hb N hN
  obtain ⟨N,rfl⟩:∃ M,N=M+2:=⟨N - 2,by omega⟩
  rw [Agj F hF k0 z ha hb]
  by_cases h0:b=0
  ·rw [iP h0,h0,Nat.gcd_zero_right]
  ·have hr:a % b < b:=Nat.mod_lt _ (by omega)
   rw [iN h0,Agj F hF k0 z hb (by omega)]
   by_cases h1:a % b=0
   ·rw [iP h1,← N1,h1,Nat.gcd_zero_right]
   ·have h2:=AtS (by omega) hr
    rw [Nat.pow_succ] at h
    have h3:b % (a % b) < A1:=Nat.lt_trans (Nat.mod_lt _ (by omega)) (by omega)
    rw [iN h1,ih _ _ (by omega) (by omega) h3 N (by omega),N1,N1]
def A3G(x y:W):Nat:=Nat.gcd (wv x.2.1) (wv y.2.1)
theorem Uk{w:W}(h:WOk w):(false,w.2)=toW ((wv w.2.1:Nat):Int):=by
 rw [P6,Wl h.1 h.2]
theorem Z4(F:Nat)(hF:A9 F){x y:W}(hx:WOk x)(hy:WOk y):Oz F x y=some (toW ((A3G x y:Nat):Int),()):=by
 have hF':=hF
 unfold A9 at hF'
 unfold Oz
 rw [Uk hx,Uk hy]
 rw [Axr F hF _ _ 256 _ _ (by have:=hy.lt; rw [show A1=2 ^ 256 from by decide] at this; exact this) hx.lt hy.lt F (by omega)]
 rfl
theorem AtT(F:Nat){R:Type}(k2:W→Int→Option R)(z:W):∀ (m:Nat) (a b:Nat),b < 2 ^ m→∀ N,2*m < N →
  Jh F k2 N z (a:Int) (b:Int)=k2 z ((Nat.gcd a b:Nat):Int):=by
 have st:∀ (a b N:Nat),Jh F k2 (N+1) z (a:Int) (b:Int)=if b=0 then k2 z (a:Int) else Jh F k2 N z (b:Int) ((a % b:Nat):Int):=by
  intro a b N
  rw [Jh,Tw (by omega)]
  by_cases h0:b=0
  ·rw [iP h0]; simp (disch:=omega) only [bs,↓iP,↓iN]
  ·rw [iN h0]; simp (disch:=omega) only [bs,↓iP,↓iN]
   rfl
 intro m
 induction m with
 | zero =>
  intro a b h N hN
  obtain ⟨N,rfl⟩:∃ M,N=M+1:=⟨N - 1,by omega⟩
  have h0:b=0:=by simpa using h
  rw [st,iP h0,h0,Nat.gcd_zero_right]
 | succ m ih =>
  intro a b h N hN
  obtain ⟨N,rfl⟩:∃ M,N=M+2:=⟨N - 2,by omega⟩
  rw [st]
  by_cases h0:b=0
  ·rw [iP h0,h0,Nat.gcd_zero_right]
  ·have hr:a % b < b:=Nat.mod_lt _ (by omega)
   rw [iN h0,st]
   by_cases h1:a % b=0
   ·rw [iP h1,← N1,h1,Nat.gcd_zero_right]
   ·have h2:=AtS (by omega) hr
    rw [Nat.pow_succ] at h
    rw [iN h1,ih _ _ (by omega) N (by omega),N1,N1]
def gK(F:Nat):W→W→Option (W×Unit):=fun z25 z26=>some (z25,())
def gR(F:Nat):W→Option (W×Unit):=fun z27=>some (z27,())
theorem Azp(F:Nat)(hF:A9 F){a:Nat}(ha:a < A1):∃ (va:Int) (pa:Bool),Fh F (toW (a:Int))=some (va,pa,())∧(a < 18446744073709551616→pa=true∧va=(a:Int))∧(¬ a < 18446744073709551616→pa=false):=by
 refine ⟨_,_,Nn F hF (Hs ha),fun h=>?_,fun h=>?_⟩
 ·rw [B0]
  exact ⟨decide_eq_true (by omega),iP (by omega)⟩
 ·rw [B0]
  exact decide_eq_false (by omega)
theorem A86(F:Nat)(hF:A9 F){a:Nat}(ha:a < A1):∃ v:Int,Df F (toW (a:Int))=some (v,())∧(a=0→eqI v 0=true)∧(a≠0→eqI v 0=false):=by
 refine ⟨_,Cg F hF (Hs ha),fun h=>?_,fun h=>?_⟩
 ·rw [B0,iP (by omega)]; rfl
 ·rw [B0,iN (by omega),iN (by omega)]; rfl
theorem Ac3(F:Nat)(hF:A9 F)(z:W){a b:Nat}(ha:a < A1)(hb:b < A1)(N:Nat) :
  Hw F (gK F) (gR F) (N+1) (toW (a:Int)) (toW (b:Int)) z =
   if b=0 then some (toW (a:Int),()) else if a < 18446744073709551616∧b < 18446744073709551616 then some (toW ((Nat.gcd a b:Nat):Int),())
    else Hw F (gK F) (gR F) N (toW (b:Int)) (toW ((a % b:Nat):Int)) z:=by
 have hF':=hF
 unfold A9 at hF'
 obtain ⟨v,e1,h1,h2⟩:=A86 F hF hb
 obtain ⟨va,pa,e2,h3,h4⟩:=Azp F hF ha
 obtain ⟨vb,pb,e3,h5,h6⟩:=Azp F hF hb
 rw [Hw,e1]
 by_cases h0:b=0
 ·rw [iP h0]
  simp only [bS,h1 h0,Bool.not_true,cF,gK]
 ·rw [iN h0]
  unfold Qc Qd
  have hdm:=Kt F hF ha hb (by omega)
  by_cases ka:a < 18446744073709551616
  ·obtain ⟨rfl,rfl⟩:=h3 ka
   by_cases kb:b < 18446744073709551616
   ·obtain ⟨rfl,rfl⟩:=h5 kb
    rw [iP ⟨ka,kb⟩]
    have hg:Nat.gcd a b≤b:=Nat.gcd_le_right _ (by omega)
    simp only [e2,e3,bS,h2 h0,Bool.not_false,cT,AtT F _ _ 64 a b (by omega) F (by omega),K3 F (x:=((Nat.gcd a b:Nat):Int)) (by omega),gR]
   ·have:=h6 kb
    subst this
    rw [iN (by omega)]
    simp only [e2,e3,bS,h2 h0,Bool.not_false,cT,cF,hdm]
  ·have:=h4 ka
   subst this
   rw [iN (by omega)]
   simp only [e2,e3,bS,h2 h0,Bool.not_false,cT,cF,hdm]
theorem AtU(F:Nat)(hF:A9 F)(z:W):∀ (m:Nat) (a b:Nat),b < 2 ^ m→a < A1→b < A1→∀ N,2*m < N →
  Hw F (gK F) (gR F) N (toW (a:Int)) (toW (b:Int)) z=some (toW ((Nat.gcd a b:Nat):Int),()):=by
 intro m
 induction m with
 | zero =>
  intro a b h ha hb N hN
  obtain ⟨N,rfl⟩:∃ M,N=M+1:=⟨N - 1,by omega⟩
  have h0:b=0:=by simpa using h
  rw [Ac3 F hF z ha hb,iP h0,h0,Nat.gcd_zero_right]
 | succ m ih =>
  intro a b h ha hb N hN
  obtain ⟨N,rfl⟩:∃ M,N=M+2:=⟨N - 2,by omega⟩
  rw [Ac3 F hF z ha hb]
  by_cases h0:b=0
  ·rw [iP h0,h0,Nat.gcd_zero_right]
  ·rw [iN h0]
   by_cases hs:a < 18446744073709551616∧b < 18446744073709551616
   ·rw [iP hs]
   ·have hr:a % b < b:=Nat.mod_lt _ (by omega)
    rw [iN hs,Ac3 F hF z hb (by omega)]
    by_cases h1:a % b=0
    ·rw [iP h1,← N1,h1,Nat.gcd_zero_right]
    ·rw [iN h1]
     by_cases hs2:b < 18446744073709551616∧a % b < 18446744073709551616
     ·rw [iP hs2,N1]
     ·have h2:=AtS (by omega) hr
      rw [Nat.pow_succ] at h
      have h3:b % (a % b) < A1:=Nat.lt_trans (Nat.mod_lt _ (by omega)) (by omega)
      rw [iN hs2,ih _ _ (by omega) (by omega) h3 N (by omega),N1,N1]
theorem Xu(F:Nat)(hF:A9 F){a b:Nat}(ha:a < A1)(hb:b < A1):Q6 F (toW (a:Int)) (toW (b:Int))=some (toW ((Nat.gcd a b:Nat):Int),()):=by
 have hF':=hF
 unfold A9 at hF'
 unfold Q6
 exact AtU F hF _ 256 _ _ (by rw [show A1=2 ^ 256 from by decide] at hb; exact hb) ha hb F (by omega)
theorem AtV(g:Nat):eqT (.pair .bool (.pair (.arr 4 (.int .u64)) .unit)) (toW (g:Int)) (toW 1)=decide (g=1):=by
 show((toW (g:Int)).1 == (toW 1).1 && (eqT (.arr 4 (.int .u64)) (toW (g:Int)).2.1 (toW 1).2.1 && true))=_
 rw [Ub,show toW 1=toW ((1:Nat):Int) from rfl,P6,P6]
 simp [Aoj]
def Sm(v:Nat):Prop:=v < 170141183460469231731687303715884105728
instance (v:Nat):Decidable (Sm v):=by unfold Sm; infer_instance
theorem Aj9{a b c d:Int}(ha:0≤a∧a≤18446744073709551615)(hb:0≤b∧b≤18446744073709551615)(hc:0≤c∧c≤18446744073709551615)(hd:0≤d∧d≤18446744073709551615) :
  Sm (wv [a,b,c,d])↔d=0∧c=0∧b < 9223372036854775808:=by
 unfold Sm
 rw [wv4]
 omega
theorem Vv(F:Nat){w:W}(h:WOk w):Pu F w=some (decide (Sm (wv w.2.1)),()):=by
 obtain ⟨s,l,u⟩:=w
 obtain ⟨h1,h2⟩:=h
 simp only at h1 h2
 obtain ⟨a,b,c,d,rfl,ha,hb,hc,hd⟩:=Axm h1 h2
 unfold Pu
 simp only [g1,g2,g3]
 have hi:=Aj9 ha hb hc hd
 have hsh:Fg .u64 b 63=b / 9223372036854775808:=by
  rw [I1 hb.1,show min (63:Int).toNat IntKind.u64.bits=63 from rfl]
  omega
 rw [hsh]
 by_cases h3:d=0
 ·by_cases h4:c=0
  ·simp (disch:=omega) only [bs,↓iP,↓iN]
   congr 2
   unfold eqI
   exact decide_eq_decide.2 (by rw [hi]; omega)
  ·rw [decide_eq_false (by rw [hi]; omega)]; simp (disch:=omega) only [bs,↓iP,↓iN]
 ·rw [decide_eq_false (by rw [hi]; omega)]; simp (disch:=omega) only [bs,↓iP,↓iN]
theorem Vw(F:Nat){w:W}(h:WOk w):Pq F w=some (decide (Sm (wv w.2.1)),()):=by
 obtain ⟨s,l,u⟩:=w
 obtain ⟨h1,h2⟩:=h
 simp only at h1 h2
 obtain ⟨a,b,c,d,rfl,ha,hb,hc,hd⟩:=Axm h1 h2
 unfold Pq
 simp only [g1,g2,g3]
 have hi:=Aj9 ha hb hc hd
 by_cases h3:d=0
 ·by_cases h4:c=0
  ·simp (disch:=omega) only [bs,↓iP,↓iN]
   congr 2
   unfold ltI
   exact decide_eq_decide.2 (by rw [hi]; omega)
  ·rw [decide_eq_false (by rw [hi]; omega)]; simp (disch:=omega) only [bs,↓iP,↓iN]
 ·rw [decide_eq_false (by rw [hi]; omega)]; simp (disch:=omega) only [bs,↓iP,↓iN]
abbrev Rt:=W×(W×Unit)
def ROk(q:Rt):Prop:=WOk q.1∧WOk q.2.1
def RV(q:Rt):Prop:=Vl q.1∧Vl q.2.1∧0 < wi q.2.1∧Sm (wv q.1.2.1)∧Sm (wv q.2.1.2.1)∧A3G q.1 q.2.1=1
instance (q:Rt):Decidable (RV q):=by unfold RV; infer_instance
theorem AtW(z:Int):(0 < (if z=0 then(0:Int) else if z < 0 then -1 else 1))↔0 < z:=by split <;> (try split) <;> omega
theorem ApE(F:Nat){x:Int}(h:I64 x):Ab9 F x=some (toW x,()):=Fa F h
theorem N2(F:Nat)(hF:A9 F){q:Rt}(h:ROk q):Jo F q=some (decide (RV q),()):=by
 obtain ⟨n,d,u⟩:=q
 obtain ⟨hn,hd⟩:=h
 simp only at hn hd
 unfold Jo
 simp only [O7 F hn,O7 F hd,Qp F hd,Vv F hn,Vv F hd,Z4 F hF hn hd,ApE F (x:=1) (by unfold I64; omega),bS,AtV]
 have hs:ltI 0 (if wi d=0 then 0 else if wi d < 0 then -1 else 1)=decide (0 < wi d):=by
  unfold ltI
  exact decide_eq_decide.2 (AtW _)
 rw [hs]
 unfold RV
 by_cases h1:Vl n <;> by_cases h2:Vl d <;> by_cases h3:0 < wi d <;> by_cases h4:Sm (wv n.2.1) <;> by_cases h5:Sm (wv d.2.1) <;> simp [h1,h2,h3,h4,h5]
theorem Eg(F:Nat)(hF:A9 F){q:Rt}(h:ROk q):Fu F q=some (decide (RV q),()):=by
 obtain ⟨n,d,u⟩:=q
 obtain ⟨hn,hd⟩:=h
 simp only at hn hd
 unfold Fu Q7 N7
 simp only [Ix F hF hn,Ix F hF hd,Cg F hF hd,Vw F hn,Vw F hd,Fa F (x:=1) (by unfold I64; omega),bS]
 have hs:leI (if wi d=0 then 0 else if wi d < 0 then -1 else 1) 0=!decide (0 < wi d):=by
  unfold leI
  rw [← decide_not]
  exact decide_eq_decide.2 (by rw [← AtW]; omega)
 rw [hs]
 unfold RV
 by_cases h1:Vl n
 ·by_cases h2:Vl d
  ·by_cases h3:0 < wi d
   ·have ed:d=toW ((wv d.2.1:Nat):Int):=by
     have h:=AdO hd h2
     have hp:wi d=((wv d.2.1:Nat):Int):=by
      have:=Of d
      omega
     rw [hp] at h
     exact h.symm
    have hg:Q6 F (false,n.2) d=some (toW ((A3G n d:Nat):Int),()):=by
     rw [Uk hn]
     conv=>lhs; rw [ed]
     rw [Xu F hF hn.lt hd.lt]
     rfl
    by_cases h4:Sm (wv n.2.1) <;> by_cases h5:Sm (wv d.2.1) <;> simp [h1,h2,h3,h4,h5,hg,AtV]
   ·simp [h1,h2,h3]
  ·simp [h1,h2]
 ·simp [h1]
abbrev Ln:=Int×(Int×(Rt×Unit))
abbrev zR:Rt:=((false,[0,0,0,0],()),((false,[0,0,0,0],()),()))
def A87(l:List Ln):Prop:=∀ s∈l,I64 s.1∧I64 s.2.1∧ROk s.2.2.1
def lc(l:List Ln):List Int:=l.map (·.1)
def lv(l:List Ln):List Int:=l.map (·.2.1)
def of0:Rt:=(toW 0,(toW 1,()))
theorem Ac4(F:Nat){x:Int}(h:I64 x):Sy F x=some ((toW x,(toW 1,())),()):=by
 unfold Sy Q7
 rw [Fa F h,Fa F (x:=1) (by unfold I64; omega)]
 rfl
theorem Azq:ROk of0:=⟨C6 (by decide),C6 (by decide)⟩
theorem Azr:RV of0:=by
 have h0:wv (toW 0).2.1=0:=C2 _
 have h1:wv (toW 1).2.1=1:=C2 _
 refine ⟨Ao4 _,Ao4 _,?_,?_,?_,?_⟩
 ·show 0 < wi (toW 1); rw [B0]; omega
 ·show Sm (wv (toW 0).2.1); rw [h0]; decide
 ·show Sm (wv (toW 1).2.1); rw [h1]; decide
 ·show A3G (toW 0) (toW 1)=1
  unfold A3G
  rw [h0,h1]
  rfl
abbrev tyW:Ty:=.pair .bool (.pair (.arr 4 (.int .u64)) .unit)
theorem BeP(a b:W):eqT tyW a b=decide (a=b):=by
 obtain ⟨a1,a2,_⟩:=a
 obtain ⟨b1,b2,_⟩:=b
 show(a1 == b1 && (eqT (.arr 4 (.int .u64)) a2 b2 && true))=_
 rw [Ub]
 by_cases h1:a1=b1 <;> by_cases h2:a2=b2 <;> simp [h1,h2]
theorem Bix(a b:Rt):eqT (.pair tyW (.pair tyW .unit)) a b=decide (a=b):=by
 obtain ⟨a1,a2,_⟩:=a
 obtain ⟨b1,b2,_⟩:=b
 show(eqT tyW a1 b1 && (eqT tyW a2 b2 && true))=_
 rw [BeP,BeP]
 by_cases h1:a1=b1 <;> by_cases h2:a2=b2 <;> simp [h1,h2]
instance decRt:DecidableEq Rt:=inferInstance
instance decLn0:DecidableEq (Rt×Unit):=instDecidableEqProd
instance decLn1:DecidableEq (Int×(Rt×Unit)):=instDecidableEqProd
instance decLn:DecidableEq Ln:=instDecidableEqProd
def Bdl(x:Ln):Bool:=!decide (RV x.2.2.1) || (decide (x.1=1) && !decide (wi x.2.2.1.1=0))
def vE(l:List Ln):Int:=if 4096 < l.length then 3 else if A3q 4096 (lc l)=true then(if l.any Bdl=true then 1 else 0) else 10
def sp(q:Rt):List Int:=enc (uw (wi q.1))++enc (uw (wi q.2.1))
def slp:List Ln→List Int
 | []=>[]
 | x::t=>if 1 < x.1 then sp x.2.2.1++slp t else slp t
theorem Azs{q:Rt}(h:ROk q):(sp q).length≤74:=by
 have h1:=Yo h.1.abs
 have h2:=Yo h.2.abs
 unfold sp
 rw [List.length_append]
 omega
theorem Bdm(q:Rt):Bt (sp q):=Bt.append (AnW _) (AnW _)
theorem Ac5(F:Nat)(hF:A9 F){b:List Int}(hb:(b.length:Int)≤140737488355000){q:Rt}(h:ROk q):J0 F b q=some (b++sp q,()):=by
 have h1:=Yo h.1.abs
 unfold J0 sp
 rw [P4 F hF (by unfold ApK; omega) h.1]
 simp only [bS]
 rw [P4 F hF (by unfold ApK; rw [List.length_append]; omega) h.2]
 simp only [bS,List.append_assoc]
theorem Azt{b:List Int}(hb:Bt b){at_:Int}(h:(rdw b at_).2.2=0):0≤at_∧at_ < (rdw b at_).2.1∧(rdw b at_).2.1≤b.length∧Cu (Ce b (rdw b at_).2.1) at_=enc (uw (rdw b at_).1):=by
 unfold rdw at h ⊢
 by_cases h0:(gp 37 b at_).2=0
 ·obtain ⟨i1,i2,c,rest,h1,h2,h3,h4,h5,h6⟩:=Axa hb h0
  rw [h1] at h ⊢
  simp only [if_true] at h ⊢
  by_cases h7:dv c < 2*A1∧dv c≠1
  ·simp only [iP h7]
   have hp:=List.length_pos_iff.2 h4.ne
   have hlen:(b.drop at_.toNat).length=c.length+rest.length:=by rw [h2]; simp
   simp only [List.length_drop] at hlen
   refine ⟨i1,by omega,by omega,?_⟩
   rw [Bd8 h7.2,h5]
   unfold Cu Ce
   rw [List.drop_take,h2,List.take_left' (by omega)]
  ·rw [iN h7] at h; simp at h
 ·rw [iN h0] at h; exact absurd h h0
def rsp(b:List Int)(at_:Int):Rt×Int×Int :=
 if(rdw b at_).2.2=0 then
  if(rdw b (rdw b at_).2.1).2.2=0 then
   if RV (toW (rdw b at_).1,(toW (rdw b (rdw b at_).2.1).1,())) then((toW (rdw b at_).1,(toW (rdw b (rdw b at_).2.1).1,())),(rdw b (rdw b at_).2.1).2.1,0) else(zR,0,5)
  else(zR,0,(rdw b (rdw b at_).2.1).2.2)
 else(zR,0,(rdw b at_).2.2)
theorem AtX(b:List Int)(a c:Int):ROk (toW (rdw b a).1,(toW (rdw b c).1,())):=⟨C6 (Ats b a),C6 (Ats b c)⟩
theorem Xv(F:Nat)(hF:A9 F){b:List Int}(hb:Bt b)(hl:(b.length:Int)≤140737488355328)(at_:Int):L4 F b at_=some ((rsp b at_).1,(rsp b at_).2.1,(rsp b at_).2.2,()):=by
 unfold L4 rsp
 rw [Sd F hF hb hl at_]
 simp only [bS]
 by_cases c1:(rdw b at_).2.2=0
 ·have y1:eqI (rdw b at_).2.2 0=true:=As.2 c1
  rw [iP c1,y1]
  simp only [Bool.not_true,cF,Sd F hF hb hl,bS]
  by_cases c2:(rdw b (rdw b at_).2.1).2.2=0
  ·have y2:eqI (rdw b (rdw b at_).2.1).2.2 0=true:=As.2 c2
   rw [iP c2,y2]
   simp only [Bool.not_true,cF,Eg F hF (AtX b _ _),bS]
   by_cases c3:RV (toW (rdw b at_).1,(toW (rdw b (rdw b at_).2.1).1,()))
   ·rw [iP c3,decide_eq_true c3]; rfl
   ·rw [iN c3,decide_eq_false c3]; rfl
  ·have y2:eqI (rdw b (rdw b at_).2.1).2.2 0=false:=by rw [← Bool.not_eq_true,As]; exact c2
   rw [iN c2,y2]; rfl
 ·have y1:eqI (rdw b at_).2.2 0=false:=by rw [← Bool.not_eq_true,As]; exact c1
  rw [iN c1,y1]; rfl
theorem Z5(F:Nat)(hF:A9 F){b:List Int}(hb:Bt b)(hl:(b.length:Int)≤140737488355328)(at_:Int):O5 F b at_=some ((rsp b at_).1,(rsp b at_).2.1,(rsp b at_).2.2,()):=by
 have hF':=hF
 unfold A9 at hF'
 obtain ⟨N,hN⟩:∃ N,F=N+1+1+1:=⟨F - 3,by omega⟩
 have st1:∀ {R:Type} (k0:Int→Rt→List W→Option R) (kr:Rt→Int→Int→Option R) (M:Nat) (q:Rt) (x y:W) (a:Int),B5 F k0 kr (M+1) b a q [x,y] 0 =
   if(rdw b a).2.2=0 then B5 F k0 kr M b (rdw b a).2.1 q [toW (rdw b a).1,y] 1 else kr zR 0 (rdw b a).2.2:=by
  intro R k0 kr M q x y a
  rw [B5,Qo F hF hb hl]
  by_cases c1:(rdw b a).2.2=0
  ·rw [iP c1]; simp (disch:=omega) only [bs,↓iP,↓iN]
   rfl
  ·rw [iN c1]; simp (disch:=omega) only [bs,↓iP,↓iN]
 have st2:∀ {R:Type} (k0:Int→Rt→List W→Option R) (kr:Rt→Int→Int→Option R) (M:Nat) (q:Rt) (x y:W) (a:Int),B5 F k0 kr (M+1) b a q [x,y] 1 =
   if(rdw b a).2.2=0 then B5 F k0 kr M b (rdw b a).2.1 q [x,toW (rdw b a).1] 2 else kr zR 0 (rdw b a).2.2:=by
  intro R k0 kr M q x y a
  rw [B5,Qo F hF hb hl]
  by_cases c1:(rdw b a).2.2=0
  ·rw [iP c1]; simp (disch:=omega) only [bs,↓iP,↓iN]
   rfl
  ·rw [iN c1]; simp (disch:=omega) only [bs,↓iP,↓iN]
 have st3:∀ {R:Type} (k0:Int→Rt→List W→Option R) (kr:Rt→Int→Int→Option R) (M:Nat) (q:Rt) (z:List W) (a:Int),B5 F k0 kr (M+1) b a q z 2=k0 a q z:=by
  intro R k0 kr M q z a
  rw [B5]
  simp (disch:=omega) only [bs,↓iP,↓iN]
 unfold O5
 have key:∀ M,M=N+1+1+1→B5 F
  (fun z6 z7 z8 =>
   let x33v9:=An (false,([0,0,0,0],())) z8 0
   let x35v10:=An (false,([0,0,0,0],())) z8 1
   (Ls F x35v10).bind fun r11 =>
   bif leI r11.1 0 then
    some (((false,([0,0,0,0],())),((false,([0,0,0,0],())),())),((0:Int),((5:Int),())))
   else
    (Jo F (x33v9,(x35v10,()))).bind fun r13 =>
    bif not r13.1 then
     some (((false,([0,0,0,0],())),((false,([0,0,0,0],())),())),(0,(5,())))
    else
     some ((x33v9,(x35v10,())),(z6,(0,()))))
  (fun z15 z16 z17 =>
   some (z15,(z16,(z17,()))))
  M b at_ ((false,([0,0,0,0],())),((false,([0,0,0,0],())),())) [(false,([0,0,0,0],())),(false,([0,0,0,0],()))] 0=some ((rsp b at_).1,(rsp b at_).2.1,(rsp b at_).2.2,()):=by
  intro M hM
  subst hM
  unfold rsp
  rw [st1]
  by_cases c1:(rdw b at_).2.2=0
  ·rw [iP c1,iP c1,st2]
   by_cases c2:(rdw b (rdw b at_).2.1).2.2=0
   ·rw [iP c2,iP c2,st3]
    show((Ls F (toW (rdw b (rdw b at_).2.1).1)).bind fun r11 =>
     bif leI r11.1 0 then some (zR,((0:Int),((5:Int),())))
     else(Jo F (toW (rdw b at_).1,(toW (rdw b (rdw b at_).2.1).1,()))).bind fun r13 =>
      bif not r13.1 then some (zR,(0,(5,()))) else some ((toW (rdw b at_).1,(toW (rdw b (rdw b at_).2.1).1,())),((rdw b (rdw b at_).2.1).2.1,(0,()))))=_
    have hok:=AtX b at_ (rdw b at_).2.1
    rw [Qp F hok.2,N2 F hF hok]
    simp only [bS]
    by_cases c3:RV (toW (rdw b at_).1,(toW (rdw b (rdw b at_).2.1).1,()))
    ·have hp:=c3.2.2.1
     simp only at hp
     rw [iP c3,decide_eq_true c3,iN (by omega),iN (by omega)]
     rfl
    ·rw [iN c3,decide_eq_false c3]
     cases leI (if wi (toW (rdw b (rdw b at_).2.1).1)=0 then(0:Int) else if wi (toW (rdw b (rdw b at_).2.1).1) < 0 then -1 else 1) 0 <;> rfl
   ·rw [iN c2,iN c2]
  ·rw [iN c1,iN c1]
 exact key F hN
theorem A88{b:List Int}(hb:Bt b){at_:Int}(h:(rsp b at_).2.2=0):ROk (rsp b at_).1∧RV (rsp b at_).1∧0≤at_∧at_ < (rsp b at_).2.1∧(rsp b at_).2.1≤b.length∧Cu (Ce b (rsp b at_).2.1) at_=sp (rsp b at_).1:=by
 unfold rsp at h ⊢
 by_cases c1:(rdw b at_).2.2=0
 ·rw [iP c1] at h ⊢
  by_cases c2:(rdw b (rdw b at_).2.1).2.2=0
  ·rw [iP c2] at h ⊢
   by_cases c3:RV (toW (rdw b at_).1,(toW (rdw b (rdw b at_).2.1).1,()))
   ·rw [iP c3] at h ⊢
    obtain ⟨i1,i2,i3,i4⟩:=Azt hb c1
    obtain ⟨j1,j2,j3,j4⟩:=Azt hb c2
    refine ⟨AtX b _ _,c3,i1,by show at_ < (rdw b (rdw b at_).2.1).2.1; omega,j3,?_⟩
    show Cu (Ce b (rdw b (rdw b at_).2.1).2.1) at_=_
    unfold sp
    rw [← U9 i1 (Int.le_of_lt i2) (Int.le_of_lt j2) j3,i4,j4]
    simp only [B0]
   ·rw [iN c3] at h; simp at h
  ·rw [iN c2] at h; exact absurd h c2
 ·rw [iN c1] at h; exact absurd h c1
def A89(b:List Int)(at_ T:Int)(x:List Ln)(end_ e:Int):Prop :=
 A87 x∧(e=0→0≤at_∧x.length≤4096∧Ac0 (lc x)=T∧at_ < end_∧end_≤b.length∧vE x=0∧hd (lc x) (lv x)++slp x=Cu (Ce b end_) at_)∧(e≠0→x=[]∧end_=0)
theorem A89.err(b:List Int)(at_ T:Int){e:Int}(h:e≠0):A89 b at_ T [] 0 e:=⟨(fun s hs=>by cases hs),fun h2=>absurd h2 h,fun _=>⟨rfl,rfl⟩⟩
theorem Bdn{l:List Ln}(h:wfT (.slice (.pair (.int .i64) (.pair (.int .i64) (.pair (.pair tyW (.pair tyW .unit)) .unit)))) l):A87 l :=
 fun s hs=>⟨Wa (h.2 s hs).1,Wa (h.2 s hs).2.1,Azh (h.2 s hs).2.2.1.1,Azh (h.2 s hs).2.2.1.2.1⟩
theorem Tk:ROk zR:=by
 have h:WOk ((false,[0,0,0,0],()):W):=⟨wd4 (by omega) (by omega) (by omega) (by omega),rfl⟩
 exact ⟨h,h⟩
theorem AtY(F:Nat)(hF:A9 F){x y:W}(hx:WOk x)(hy:WOk y):∃ q ok,Q9 F x y=some (q,ok,())∧ROk q∧(ok=true→RV q):=by
 unfold Q9
 rw [Ix F hF hx,Ix F hF hy,Cg F hF hy]
 simp only [bS]
 by_cases v1:Vl x
 rotate_left
 ·rw [decide_eq_false v1]
  exact ⟨zR,false,rfl,Tk,fun h=>by cases h⟩
 by_cases v2:Vl y
 rotate_left
 ·rw [decide_eq_true v1,decide_eq_false v2]
  exact ⟨zR,false,rfl,Tk,fun h=>by cases h⟩
 rw [decide_eq_true v1,decide_eq_true v2]
 simp only [Bool.not_true,cF]
 by_cases h0:wi y=0
 ·rw [iP h0]
  exact ⟨zR,false,rfl,Tk,fun h=>by cases h⟩
 ·have hz:eqI (if wi y=0 then 0 else if wi y < 0 then -1 else 1) 0=false:=by
   rw [iN h0,← Bool.not_eq_true,As]
   split <;> omega
  have hp:0 < wv y.2.1:=by have:=Of y; omega
  have hg0:0 < Nat.gcd (wv x.2.1) (wv y.2.1):=Nat.gcd_pos_of_pos_right _ hp
  have hgt:=A3v hx.lt hy.lt (.inr hp)
  rw [hz]
  unfold N7
  simp only [cF,bS]
  rw [Uk hx,Uk hy,Xu F hF hx.lt hy.lt]
  simp only [bS]
  generalize Nat.gcd (wv x.2.1) (wv y.2.1)=g at *
  rw [Kt F hF hx.lt hgt hg0,Kt F hF hy.lt hgt hg0]
  simp only [bS]
  have t1:wv x.2.1 / g < A1:=Nat.lt_of_le_of_lt (Nat.div_le_self _ _) hx.lt
  have t2:wv y.2.1 / g < A1:=Nat.lt_of_le_of_lt (Nat.div_le_self _ _) hy.lt
  have fin:∀ a:W,WOk a→∃ q ok,Lp F (fun z18 z19=>some (z18,(z19,()))) zR a (toW ((wv y.2.1 / g:Nat):Int))=some (q,ok,())∧ROk q∧(ok=true→RV q):=by
   intro a ha
   have hk:ROk (a,(toW ((wv y.2.1 / g:Nat):Int),())):=⟨ha,Hs t2⟩
   unfold Lp
   rw [Eg F hF hk]
   simp only [bS]
   by_cases hv:RV (a,(toW ((wv y.2.1 / g:Nat):Int),()))
   ·rw [decide_eq_true hv]
    exact ⟨_,true,rfl,hk,fun _=>hv⟩
   ·rw [decide_eq_false hv]
    exact ⟨zR,false,rfl,Tk,fun h=>by cases h⟩
  cases eqT Ty.bool x.1 y.1
  ·simp only [Bool.not_false,cT]
   rw [Js F hF (Hs t1)]
   simp only [bS]
   exact fin _ (C6 (by rw [Int.natAbs_neg]; exact(Hs t1).abs))
  ·simp only [Bool.not_true,cF]
   exact fin _ (Hs t1)
theorem AkB(z:Int):WOk (Acw z).1:=by
 unfold Acw
 split
 ·rename_i h; exact C6 h
 ·exact C6 (by decide)
theorem Ac6{x:Int}(h:I64 x):x.natAbs < A1:=by
 have:=Pc
 unfold I64 at h
 omega
theorem A87.push{l:List Ln}(h:A87 l){x:Ln}(h1:I64 x.1)(h2:I64 x.2.1)(h3:ROk x.2.2.1):A87 (l++[x]):=by
 intro s hs
 rcases List.mem_append.1 hs with hs | hs
 ·exact h s hs
 ·simp at hs
  subst hs
  exact ⟨h1,h2,h3⟩
theorem ApF(F:Nat)(x4 x16:List Int)(x17:Int){x1:List Int}(h1:Wd x1)(h14:x1.length=4){i:Nat}(hi4:i < 4){x:Int}(hx:0≤x∧x≤18446744073709551615) :
  ∀ (yb ya p q:List Int) (c:Int),x1=ya++yb→p.length=i+ya.length→yb.length≤q.length→Wd q→0≤c∧c≤18446744073709551615→(p++q).length=8 →
  ∀ N,yb.length < N→∃ (r:List Int) (c':Int),Wd r∧r.length=yb.length∧(0≤c'∧c'≤18446744073709551615) ∧
   wv r+c'.toNat*18446744073709551616 ^ yb.length=wv (q.take yb.length)+x.toNat*wv yb+c.toNat ∧
   ∀ (R:Type) (k:List Int→List Int→List Int→Int→Int→List Int→Int→Option R),Kz F k N x1 x4 (p++q) (i:Int) x c x16 x17 x1 (ya.length:Int)=k x1 x4 (p++(r++q.drop yb.length)) (i:Int) c' x16 x17:=by
 intro yb
 induction yb with
 | nil =>
  intro ya p q c hy hp hq hw hc hl N hN
  obtain ⟨N,rfl⟩:∃ M,N=M+1:=⟨N - 1,by omega⟩
  refine ⟨[],c,Wd.nil,rfl,hc,?_,?_⟩
  ·simp [wv]
  ·intro R k
   have:x1.length=ya.length:=by rw [hy]; simp
   unfold Kz
   simp (disch:=omega) only [bs,↓iP,↓iN]
   simp
 | cons y t ih =>
  intro ya p q c hy hp hq hw hc hl N hN
  obtain ⟨N,rfl⟩:∃ M,N=M+1:=⟨N - 1,by omega⟩
  cases q with
  | nil=>simp at hq
  | cons w q =>
   have hlen1:x1.length=ya.length+(t.length+1):=by rw [hy]; simp
   have hpq:(p++w::q).length=p.length+(q.length+1):=by simp
   have hyr:0≤y∧y≤18446744073709551615:=h1 y (by rw [hy]; simp)
   have hwr:=Wd.head hw
   have hgy:An 0 x1 (ya.length:Int)=y:=by rw [hy]; exact B8 _ _ _
   have hprod:=Xj hx hyr
   generalize hxy:x*y=xy at *
   have hgw:An 0 (p++w::q) ((i:Int)+(ya.length:Int))=w:=by
    rw [show(i:Int)+(ya.length:Int)=(p.length:Int) by omega]; exact B8 _ _ _
   have hsw:∀ v,Cd (p++w::q) ((i:Int)+(ya.length:Int)) v=(p++[v])++q:=by
    intro v
    rw [show(i:Int)+(ya.length:Int)=(p.length:Int) by omega]; exact H7 _ _ _ _
   obtain ⟨r,c',e1,e2,e3,e4,e5⟩:=ih (ya++[y]) (p++[(xy % 18446744073709551616+w+c) % 18446744073709551616]) q
    (xy / 18446744073709551616+(xy % 18446744073709551616+w) / 18446744073709551616+((xy % 18446744073709551616+w) % 18446744073709551616+c) / 18446744073709551616)
    (by rw [hy]; simp) (by simp; omega) (by simp at hq; omega) (Wd.tail hw) (by omega) (by simp at hl ⊢; omega) N (by simp at hN; omega)
   refine ⟨(xy % 18446744073709551616+w+c) % 18446744073709551616::r,c',Wd.cons (by omega) e1,by simp [e2],e3,?_,?_⟩
   ·have hm:x.toNat*wv (y::t)=x.toNat*y.toNat+18446744073709551616*(x.toNat*wv t):=by
     rw [wv,Nat.mul_add,Nat.mul_left_comm]
    have hxyn:x.toNat*y.toNat=xy.toNat:=by
     rw [← hxy]
     have:((x.toNat*y.toNat:Nat):Int)=x*y:=by rw [Int.natCast_mul,Int.toNat_of_nonneg hx.1,Int.toNat_of_nonneg hyr.1]
     omega
    rw [hm,hxyn]
    simp only [List.length_cons,List.take_succ_cons,wv,Nat.pow_succ]
    rw [← Nat.mul_assoc]
    generalize c'.toNat*18446744073709551616 ^ t.length=T at *
    generalize x.toNat*wv t=Z at *
    omega
   ·intro R k
    have e5:=e5 R k
    have hcast:((ya++[y]).length:Int)=(ya.length:Int)+1:=by simp
    rw [hcast] at e5
    unfold Kz F0
    have c1:(leI 0 w && leI 0 (xy % 18446744073709551616) && leI 0 0 && leI 0 1)=true:=by simp only [Bool.and_eq_true,Bw]; omega
    have c2:(leI 0 ((w+xy % 18446744073709551616+0) % 18446744073709551616) && leI 0 c && leI 0 0 && leI 0 1)=true:=by simp only [Bool.and_eq_true,Bw]; omega
    have hyl:(ya.length:Int) < 4:=by omega
    simp (disch:=omega) only [bs,↓iP,↓iN,hgy,Ao1 F hx hyr,hxy,hgw,hsw,c1,c2,Dm]
    rw [show((w+xy % 18446744073709551616+0) % 18446744073709551616+c+0) % 18446744073709551616=(xy % 18446744073709551616+w+c) % 18446744073709551616 by omega,
     show xy / 18446744073709551616+(w+xy % 18446744073709551616+0) / 18446744073709551616+((w+xy % 18446744073709551616+0) % 18446744073709551616+c+0) / 18446744073709551616
      = xy / 18446744073709551616+(xy % 18446744073709551616+w) / 18446744073709551616+((xy % 18446744073709551616+w) % 18446744073709551616+c) / 18446744073709551616 by omega]
    refine Eq.trans e5 ?_
    simp
theorem ApG(F:Nat)(hF:A9 F){R:Type}(k:List Int→List Int→Option R)(x4:List Int){x0 x1:List Int}(h0:Wd x0)(h1:Wd x1)(h04:x0.length=4)(h14:x1.length=4) :
  ∀ (xb xa x5:List Int),x0=xa++xb→Wd x5→x5.length=8→wv x5=wv xa*wv x1 →
  ∀ N,xb.length < N→∃ o:List Int,Wd o∧o.length=8∧wv o=wv x0*wv x1∧Nk F k N x1 x4 x5 x0 (xa.length:Int)=k x4 o:=by
 intro xb
 induction xb with
 | nil =>
  intro xa x5 hx hw hl hv N hN
  obtain ⟨N,rfl⟩:∃ M,N=M+1:=⟨N - 1,by omega⟩
  have hxa:x0=xa:=by rw [hx]; simp
  refine ⟨x5,hw,hl,by rw [hv,hxa],?_⟩
  have:x0.length=xa.length:=by rw [hxa]
  unfold Nk
  simp (disch:=omega) only [bs,↓iP,↓iN]
 | cons x t ih =>
  intro xa x5 hx hw hl hv N hN
  obtain ⟨N,rfl⟩:∃ M,N=M+1:=⟨N - 1,by omega⟩
  have hlen0:x0.length=xa.length+(t.length+1):=by rw [hx]; simp
  have hxr:0≤x∧x≤18446744073709551615:=h0 x (by rw [hx]; simp)
  have hgi:An 0 x0 (xa.length:Int)=x:=by rw [hx]; exact B8 _ _ _
  have hxa:Wd xa:=by rw [hx] at h0; exact Wd.left h0
  have hsp:=List.take_append_drop xa.length x5
  have hpl:(x5.take xa.length).length=xa.length:=by simp; omega
  have hql:(x5.drop xa.length).length=t.length+x1.length+1:=by simp; omega
  have hqw:=Wd.drop hw xa.length
  have hpw:=Wd.take hw xa.length
  generalize x5.take xa.length=p at *
  generalize x5.drop xa.length=q at *
  subst hsp
  obtain ⟨r,c',e1,e2,e3,e4,e5⟩:=ApF F x4 x0 (xa.length:Int) h1 h14 (i:=xa.length) (by omega) hxr x1 [] p q 0 (by simp) (by simp [hpl]) (by omega) hqw (by omega) (by simp; omega) F (by unfold A9 at hF; omega)
  have hd:(q.drop x1.length).length=t.length+1:=by simp; omega
  have hqs:=List.take_append_drop x1.length q
  have htl:(q.take x1.length).length=x1.length:=by simp; omega
  have hvq:wv q=wv (q.take x1.length)+18446744073709551616 ^ x1.length*wv (q.drop x1.length):=by
   conv=>lhs; rw [← hqs]
   rw [B7,htl]
  have hdw:=Wd.drop hqw x1.length
  generalize q.take x1.length=q1 at *
  generalize q.drop x1.length=q2 at *
  cases q2 with
  | nil=>simp at hd
  | cons h rest =>
   have hz:wv (h::rest)=0:=by
    have b1:=T8 hxa
    have b2:=T8 h1
    have b3:wv xa*wv x1 < 18446744073709551616 ^ xa.length*18446744073709551616 ^ x1.length:=Nat.mul_lt_mul'' b1 b2
    rw [B7,hpl,hvq,Nat.mul_add,← Nat.mul_assoc] at hv
    rcases Nat.eq_zero_or_pos (wv (h::rest)) with h0 | h0
    ·exact h0
    ·have:18446744073709551616 ^ xa.length*18446744073709551616 ^ x1.length*1≤18446744073709551616 ^ xa.length*18446744073709551616 ^ x1.length*wv (h::rest):=Nat.mul_le_mul_left _ h0
     omega
   obtain ⟨hh,hr⟩:=Zh (Wd.head hdw).1 hz
   have hnew:p++(r++h::rest)=(p++r)++h::rest:=by simp
   have hset:Cd (p++(r++h::rest)) ((xa.length:Int)+4) c'=(p++r++[c'])++rest:=by
    rw [hnew,show(xa.length:Int)+4=((p++r).length:Int) by simp; omega]
    exact H7 _ _ _ _
   obtain ⟨o,f1,f2,f3,f4⟩:=ih (xa++[x]) ((p++r++[c'])++rest) (by rw [hx]; simp)
    (Wd.append (Wd.append (Wd.append hpw e1) (Wd.one e3)) (Wd.tail hdw)) (by simp at hd ⊢; omega) (by
     rw [List.append_assoc,List.append_assoc,B7,B7,B7,hpl,e2,hr]
     have e4:wv r+c'.toNat*18446744073709551616 ^ x1.length=wv q1+x.toNat*wv x1:=by simpa using e4
     rw [B7,hpl,hvq,hz] at hv
     rw [B7,Nat.add_mul,← hv]
     simp only [wv,Nat.mul_zero,Nat.add_zero]
     rw [Nat.mul_comm (18446744073709551616 ^ x1.length) c'.toNat,e4,Nat.mul_add,Nat.mul_assoc,Nat.add_assoc]) N (by simp at hN; omega)
   refine ⟨o,f1,f2,f3,?_⟩
   have hcast:((xa++[x]).length:Int)=(xa.length:Int)+1:=by simp
   rw [hcast] at f4
   have e5:∀ (R:Type) (k:List Int→List Int→List Int→Int→Int→List Int→Int→Option R),Kz F k F x1 x4 (p++q) (xa.length:Int) x 0 x0 (xa.length:Int) x1 0=k x1 x4 (p++(r++h::rest)) (xa.length:Int) c' x0 (xa.length:Int):=e5
   have hlf:(p++(r++h::rest)).length=8:=by simp at hd ⊢; omega
   unfold Nk
   simp (disch:=omega) only [bs,↓iP,↓iN,hgi]
   rw [e5]
   simp (disch:=omega) only [bs,↓iP,↓iN,hset]
   exact f4
theorem AkC(F:Nat)(hF:A9 F){a b:List Int}(ha:Wd a)(hb:Wd b)(h4:a.length=4)(h5:b.length=4) :
  ∃ l,Aa9 F a b=some (l,decide (wv a*wv b < A1),())∧(wv a*wv b < A1→l=U7 (wv a*wv b)):=by
 obtain ⟨o,h1,h2,h3,e⟩:=ApG F hF (fun z25 z26=>some ((((List.take 0 z25)++(List.take 4 (List.drop 0 z26)))++(List.drop 4 z25)),(eqT (.arr 4 (.int .u64)) (List.take 4 (List.drop 4 z26)) [0,0,0,0],()))) [0,0,0,0] ha hb h4 h5 a [] [0,0,0,0,0,0,0,0] (by simp) (fun x hx=>by simp at hx; omega) rfl (by simp [wv]) F (by unfold A9 at hF; omega)
 have hs:=List.take_append_drop 4 o
 have hlo:(o.take 4).length=4:=by simp; omega
 have hhi:(o.drop 4).length=4:=by simp; omega
 have hv:wv o=wv (o.take 4)+18446744073709551616 ^ 4*wv (o.drop 4):=by
  conv=>lhs; rw [← hs]
  rw [B7,hlo]
 have wlo:=Wd.take h1 4
 have whi:=Wd.drop h1 4
 have blo:wv (o.take 4) < A1:=by have:=T8 wlo; rw [hlo] at this; exact this
 have hz:(o.drop 4=[0,0,0,0])↔wv a*wv b < A1:=by
  rw [← h3,hv]
  constructor
  ·intro h
   rw [h]
   simpa [wv] using blo
  ·intro h
   have h0:wv (o.drop 4)=0:=by
    rcases Nat.eq_zero_or_pos (wv (o.drop 4)) with h0 | h0
    ·exact h0
    ·have:18446744073709551616 ^ 4*1≤18446744073709551616 ^ 4*wv (o.drop 4):=Nat.mul_le_mul_left _ h0
     unfold A1 at h
     omega
   exact AdN whi (fun x hx=>by simp at hx; omega) hhi (by rw [h0]; simp [wv])
 refine ⟨o.take 4,?_,fun h=>?_⟩
 ·unfold Aa9
  refine e.trans ?_
  rw [Ub,List.take_of_length_le (l:=o.drop 4) (by omega)]
  simp only [List.take_zero,List.drop_zero,List.nil_append,show List.drop 4 ([0,0,0,0]:List Int)=[] from rfl,List.append_nil,decide_eq_decide.2 hz]
 ·have h0:=hz.2 h
  rw [h0] at hv
  have hv:wv o=wv (o.take 4):=by rw [hv]; simp [wv]
  rw [← h3,hv]
  exact(Wl wlo hlo).symm
theorem A3w(a b:Int):(if(!eqT Ty.bool (toW a).1 (toW b).1)=true then -((a.natAbs*b.natAbs:Nat):Int) else((a.natAbs*b.natAbs:Nat):Int))=a*b:=by
 rw [show(toW a).1=decide (a < 0) from rfl,show(toW b).1=decide (b < 0) from rfl]
 show(if(!(decide (a < 0) == decide (b < 0)))=true then _ else _)=_
 by_cases ha:a < 0 <;> by_cases hb:b < 0
 ·simp only [ha,hb,decide_true,beq_self_eq_true,Bool.not_true,Bool.false_eq_true,if_false]
  rw [Int.natCast_mul,show((a.natAbs:Nat):Int)=-a by omega,show((b.natAbs:Nat):Int)=-b by omega,Int.neg_mul_neg]
 ·simp [ha,hb]
  rw [show((b.natAbs:Nat):Int)=b by omega,show((a.natAbs:Nat):Int)=-a by omega,Int.neg_mul,Int.neg_neg]
 ·simp [ha,hb]
  rw [show((b.natAbs:Nat):Int)=-b by omega,show((a.natAbs:Nat):Int)=a by omega,Int.mul_neg,Int.neg_neg]
 ·simp only [ha,hb,decide_false,beq_self_eq_true,Bool.not_true,Bool.false_eq_true,if_false]
  rw [Int.natCast_mul,show((a.natAbs:Nat):Int)=a by omega,show((b.natAbs:Nat):Int)=b by omega]
theorem Ac7(F:Nat)(hF:A9 F){x y:W}(hx:WOk x)(hy:WOk y):Aaa F x y=some ((Acw (wi x*wi y)).1,(Acw (wi x*wi y)).2,()):=by
 unfold Aaa
 have hxo:=C6 hx.abs
 have hyo:=C6 hy.abs
 rw [Gq F hx,Gq F hy]
 have v1:wv (toW (wi x)).2.1=(wi x).natAbs:=C2 _
 have v2:wv (toW (wi y)).2.1=(wi y).natAbs:=C2 _
 obtain ⟨l,e,hl⟩:=AkC F hF hxo.1 hyo.1 hxo.2 hyo.2
 rw [v1,v2] at e hl
 simp only [bS,e]
 have hn:(wi x*wi y).natAbs=(wi x).natAbs*(wi y).natAbs:=Int.natAbs_mul _ _
 unfold Acw
 rw [hn]
 by_cases h:(wi x).natAbs*(wi y).natAbs < A1
 ·rw [iP h,decide_eq_true h,hl h]
  simp only [Bool.not_true,cF]
  unfold Nj
  have ho:WOk ((!eqT Ty.bool (toW (wi x)).1 (toW (wi y)).1),(U7 ((wi x).natAbs*(wi y).natAbs),())):=⟨Nm _,Eb h⟩
  rw [Gq F ho]
  simp only [bS]
  have hw:wi ((!eqT Ty.bool (toW (wi x)).1 (toW (wi y)).1),(U7 ((wi x).natAbs*(wi y).natAbs),()))=wi x*wi y:=by
   unfold wi
   simp only [C2]
   exact A3w _ _
  rw [hw]
 ·rw [iN h,decide_eq_false h,Hc]
  rfl
def Axs(a b:Int):Int:=if a < b then -1 else if b < a then 1 else 0
theorem Ac8(F:Nat)(hF:A9 F){x y:W}(hx:WOk x)(hy:WOk y):Qj F x y=some (Axs (wi x) (wi y),()):=by
 unfold Qj
 have hxo:=C6 hx.abs
 have hyo:=C6 hy.abs
 rw [Gq F hx,Gq F hy]
 simp only [bS]
 unfold Lv Lw
 have c1:(toW (wi x)).1=decide (wi x < 0):=rfl
 have c2:(toW (wi y)).1=decide (wi y < 0):=rfl
 have w1:wv (toW (wi x)).2.1=(wi x).natAbs:=C2 _
 have w2:wv (toW (wi y)).2.1=(wi y).natAbs:=C2 _
 rw [c1,c2]
 simp only [P5 F hF hxo.1 hyo.1 hxo.2 hyo.2,P5 F hF hyo.1 hxo.1 hyo.2 hxo.2,bS,w1,w2]
 generalize wi x=a
 generalize wi y=b
 unfold Axs AnY
 by_cases ha:a < 0 <;> by_cases hb:b < 0 <;> simp only [ha,hb,decide_true,decide_false,cT,cF,Option.some.injEq,Prod.mk.injEq,and_true] <;> (try split) <;> (try split) <;> (try split) <;> (try split) <;> omega
def rc(p q:Rt):Int:=Axs (wi p.1*wi q.2.1) (wi q.1*wi p.2.1)
theorem A8a{a b:Nat}(ha:Sm a)(hb:Sm b):a*b < A1:=by
 unfold Sm at ha hb
 have:=Nat.mul_lt_mul'' ha hb
 refine Nat.lt_of_lt_of_le this ?_
 unfold A1; decide
theorem Td{z:Int}(h:z.natAbs < A1):Acw z=(toW z,true):=by unfold Acw; rw [iP h]
theorem Agk{p q:Rt}(hp:RV p)(hq:RV q):(wi p.1*wi q.2.1).natAbs < A1:=by
 rw [Int.natAbs_mul,Of,Of]
 exact A8a hp.2.2.2.1 hq.2.2.2.2.1
theorem Z6(F:Nat)(hF:A9 F){p q:Rt}(hp:ROk p)(hq:ROk q)(vp:RV p)(vq:RV q):O1 F p q=some (rc p q,()):=by
 unfold O1 S3 O0
 rw [N2 F hF hp,N2 F hF hq,decide_eq_true vp,decide_eq_true vq]
 have h1:=Agk vp vq
 have h2:=Agk vq vp
 simp only [bS,Bool.not_true,cF,Ac7 F hF hp.1 hq.2,Ac7 F hF hq.1 hp.2,Td h1,Td h2,Ac8 F hF (C6 h1) (C6 h2),B0]
 rfl
theorem Dy(F:Nat)(hF:A9 F){p q:Rt}(hp:ROk p)(hq:ROk q)(vp:RV p)(vq:RV q):Dn F p q=some (rc p q,()):=by
 unfold Dn Sx
 rw [Eg F hF hp,Eg F hF hq,decide_eq_true vp,decide_eq_true vq]
 have h1:=Agk vp vq
 have h2:=Agk vq vp
 simp only [bS,Bool.not_true,cF,Og F hF hp.1 hq.2,Og F hF hq.1 hp.2,Td h1,Td h2,Ks F hF (C6 h1) (C6 h2),B0]
 rfl
theorem A8b(F:Nat)(hF:A9 F)(p q:Int):Ni F [p,q]=some (if p=0 then q else p,()):=by
 unfold A9 at hF
 obtain ⟨N,hN⟩:∃ N,F=N+1+1+1:=⟨F - 3,by omega⟩
 unfold Ni
 have l2:(([p,q]:List Int).length:Int)=2:=rfl
 have key:∀ M,M=N+1+1+1→Ec F (fun z6=>some (z6,())) (fun z7=>some (z7,())) M 0 [p,q] (([p,q]:List Int).length:Int) 0=some (if p=0 then q else p,()):=by
  intro M hM
  subst hM
  rw [Yu F _ _ _ (by omega) (by rw [l2]; omega) (by rw [l2]; omega),show An 0 [p,q] 0=p from rfl]
  split
  ·rw [show(0:Int)+1=1 from rfl,Yu F _ _ _ (by omega) (by rw [l2]; omega) (by rw [l2]; omega),show An 0 [p,q] 1=q from rfl]
   split
   ·rename_i h
    rw [show(1:Int)+1=2 from rfl,Ec,l2,h]
    simp (disch:=omega) only [bs,↓iP,↓iN]
   ·rfl
  ·rfl
 exact key F hN
theorem AtZ(F:Nat)(x y:Int):J5 F x y=some (Axs x y,()):=by
 unfold J5 Lu Axs
 have h1:eqI x x=true:=As.2 rfl
 have h2:eqI y y=true:=As.2 rfl
 simp only [h1,h2,bS,Bool.not_true,A8Q,Aj,Bool.false_eq_true,if_false]
 split
 ·rfl
 ·split <;> rfl
abbrev Gr:=Int×(Rt×(List Int×Unit))
abbrev zG:Gr:=(0,(zR,([],())))
def GOk(l:List Gr):Prop:=∀ g∈l,I64 g.1∧ROk g.2.1∧Sg g.2.2.1∧(g.2.2.1.length:Int)≤140737488355328
theorem Qq(d:List Gr)(x:Gr)(t:List Gr):An zG (d++x::t) (d.length:Int)=x:=by
 simp [An,List.getD_eq_getElem?_getD]
theorem Aja(d:List Gr)(x:Gr)(t:List Gr):An zG ((d++[x])++t) (d.length:Int)=x:=by
 rw [List.append_assoc]; exact Qq d x t
theorem Ac9(d:List Int)(x:Int)(t:List Int):An 0 ((d++[x])++t) (d.length:Int)=x:=by
 rw [List.append_assoc]; exact B8 d x t
def tot:List Gr→Nat
 | []=>0
 | g::t=>g.2.2.1.length+tot t
theorem Azu:∀ {l:List Gr},GOk l→(tot l:Int)≤140737488355328*l.length
 | [],_=>by simp [tot]
 | g::t,h=>by
  have h1:=Azu (l:=t) (fun x hx=>h x (List.mem_cons_of_mem _ hx))
  have h2:=(h g (by simp)).2.2.2
  simp only [tot,List.length_cons]
  push_cast
  omega
theorem AkD(F:Nat){R:Type}(k:Int→Option R){src:List Gr}(hs:GOk src)(hb:src.length≤4096):∀ (rest pre:List Gr),src=pre++rest→∀ N,rest.length < N →
  Er F k N (tot pre:Int) src (src.length:Int) (pre.length:Int)=k (tot src:Int):=by
 intro rest
 induction rest with
 | nil =>
  intro pre he N hN
  obtain ⟨N,rfl⟩:∃ M,N=M+1:=⟨N - 1,by omega⟩
  have hlen:src.length=pre.length:=by rw [he]; simp
  have hp:src=pre:=by rw [he]; simp
  unfold Er
  simp (disch:=omega) only [bs,↓iP,↓iN]
  rw [hp]
 | cons x rest ih =>
  intro pre he N hN
  obtain ⟨N,rfl⟩:∃ M,N=M+1:=⟨N - 1,by omega⟩
  simp only [List.length_cons] at hN
  have hlen:src.length=pre.length+1+rest.length:=by rw [he]; simp; omega
  have g:An zG src (pre.length:Int)=x:=by rw [he]; exact Qq pre x rest
  have e:=ih (pre++[x]) (by rw [he]; simp) N (by omega)
  have hpl:(((pre++[x]).length:Nat):Int)=(pre.length:Int)+1:=by simp
  have htp:∀ a:List Gr,tot (a++[x])=tot a+x.2.2.1.length:=by
   intro a
   induction a with
   | nil=>simp [tot]
   | cons y a iha=>simp only [List.cons_append,tot,iha]; omega
  rw [hpl,htp] at e
  have b1:=Azu (l:=pre) (fun y hy=>hs y (by rw [he]; simp [hy]))
  have b2:=(hs x (by rw [he]; simp)).2.2.2
  push_cast at e
  unfold Er
  simp (disch:=omega) only [bs,↓iP,↓iN,g]
  exact e
theorem Xw(F:Nat)(hF:A9 F){l:List Gr}(h:GOk l)(hb:l.length≤4096):Jm F l=some ((tot l:Int),()):=by
 unfold Jm
 exact AkD F _ h hb l [] rfl F (by unfold A9 at hF; omega)
def okS:List Bool→Int→List Int→Option (List Bool)
 | seen,_,[]=>some seen
 | seen,p,s::t=>if 0≤s∧s < 4096∧An false seen s=false∧p < s then okS (Cd seen s true) s t else none
def Agl(p:Int)(pre:List Int):Prop:=(pre=[]∧p=-1)∨∃ d,pre=d++[p]
theorem Agl.push(pre:List Int)(s:Int):Agl s (pre++[s]):=.inr ⟨pre,rfl⟩
theorem Ajb(F:Nat){R:Type}(k2:List Gr→List Bool→List Gr→Int→Int→Option R)(kr:Int→Option R)(x0 x16:List Gr)(x17 x18:Int){g:Gr}(hb:(g.2.2.1.length:Int)≤140737488355328):∀ (rest pre:List Int) (seen:List Bool) (p:Int),g.2.2.1=pre++rest→Agl p pre→∀ N,rest.length < N →
  Dp F k2 kr N x0 seen g x16 x17 x18 g.2.2.1 (g.2.2.1.length:Int) (pre.length:Int)=match okS seen p rest with | some s=>k2 x0 s x16 x17 x18 | none=>kr 1:=by
 intro rest
 induction rest with
 | nil =>
  intro pre seen p he hp N hN
  obtain ⟨N,rfl⟩:∃ M,N=M+1:=⟨N - 1,by omega⟩
  have hlen:g.2.2.1.length=pre.length:=by rw [he]; simp
  unfold Dp okS
  simp (disch:=omega) only [bs,↓iP,↓iN]
 | cons s rest ih =>
  intro pre seen p he hp N hN
  obtain ⟨N,rfl⟩:∃ M,N=M+1:=⟨N - 1,by omega⟩
  simp only [List.length_cons] at hN
  have hlen:g.2.2.1.length=pre.length+1+rest.length:=by rw [he]; simp; omega
  have hg:An 0 g.2.2.1 (pre.length:Int)=s:=by rw [he]; exact B8 pre s rest
  have hpl:(((pre++[s]).length:Nat):Int)=(pre.length:Int)+1:=by simp
  unfold Dp
  by_cases c1:s < 0
  ·rw [okS,iN (by omega)]
   simp (disch:=omega) only [bs,↓iP,↓iN,hg]
  by_cases c2:4096≤s
  ·rw [okS,iN (by omega)]
   simp (disch:=omega) only [bs,↓iP,↓iN,hg]
  by_cases c3:An false seen s=true
  ·rw [okS,iN (by rw [c3]; simp)]
   simp (disch:=omega) only [bs,↓iP,↓iN,hg,c3]
  rw [Bool.not_eq_true] at c3
  rcases hp with ⟨hp,rfl⟩ | ⟨d,hp⟩
  ·have e:=ih (pre++[s]) (Cd seen s true) s (by rw [he]; simp) (Agl.push pre s) N (by omega)
   rw [hpl] at e
   rw [okS,iP ⟨by omega,by omega,c3,by omega⟩]
   have h0:pre.length=0:=by rw [hp]; rfl
   simp (disch:=omega) only [bs,↓iP,↓iN,hg,c3]
   exact e
  ·have hd:(pre.length:Int)=(d.length:Int)+1:=by rw [hp]; simp
   have hl:An 0 g.2.2.1 ((pre.length:Int) - 1)=p:=by
    rw [hd,show(d.length:Int)+1 - 1=(d.length:Int) by omega,he,hp]
    exact Ac9 d p (s::rest)
   by_cases c4:p < s
   ·have e:=ih (pre++[s]) (Cd seen s true) s (by rw [he]; simp) (Agl.push pre s) N (by omega)
    rw [hpl] at e
    rw [okS,iP ⟨by omega,by omega,c3,c4⟩]
    simp (disch:=omega) only [bs,↓iP,↓iN,hg,c3,hl]
    exact e
   ·rw [okS,iN (by omega)]
    simp (disch:=omega) only [bs,↓iP,↓iN,hg,c3,hl]
def Aca(a b:Gr):Bool:=decide (a.1 < b.1) || (decide (a.1=b.1) && decide (rc a.2.1 b.2.1 < 0))
def okG:List Bool→Option Gr→List Gr→Bool
 | _,_,[]=>true
 | seen,p,g::t=>decide (RV g.2.1) && (!g.2.2.1.isEmpty && ((match p with | none=>true | some q=>Aca q g) && (match okS seen (-1) g.2.2.1 with | some s=>okG s (some g) t | none=>false)))
theorem Wo(F:Nat)(hF:A9 F){a b:Gr}(ha:ROk a.2.1)(hb:ROk b.2.1)(va:RV a.2.1)(vb:RV b.2.1):∃ r,Kq F a b=some (r,())∧(0≤r↔Aca a b=false):=by
 unfold Kq
 rw [AtZ,Z6 F hF ha hb va vb]
 simp only [bS,A8b F hF]
 refine ⟨_,rfl,?_⟩
 unfold Aca
 generalize rc a.2.1 b.2.1=r
 unfold Axs
 simp only [Bool.or_eq_false_iff,Bool.and_eq_false_iff,decide_eq_false_iff_not]
 split <;> (try split) <;> (try split) <;> omega
def Azv(p:Option Gr)(pre:List Gr):Prop:=(pre=[]∧p=none)∨∃ d q,pre=d++[q]∧p=some q∧RV q.2.1
theorem Ajc(F:Nat)(hF:A9 F){R:Type}(k0:Option R)(kr:Int→Option R){src:List Gr}(hs:GOk src)(hb:src.length≤4096):∀ (rest pre:List Gr) (seen:List Bool) (p:Option Gr),src=pre++rest→Azv p pre→∀ N,rest.length < N →
  Cm F k0 kr N src seen src (src.length:Int) (pre.length:Int)=bif okG seen p rest then k0 else kr 1:=by
 intro rest
 induction rest with
 | nil =>
  intro pre seen p he hp N hN
  obtain ⟨N,rfl⟩:∃ M,N=M+1:=⟨N - 1,by omega⟩
  have hlen:src.length=pre.length:=by rw [he]; simp
  unfold Cm okG
  simp (disch:=omega) only [bs,↓iP,↓iN]
 | cons x rest ih =>
  intro pre seen p he hp N hN
  obtain ⟨N,rfl⟩:∃ M,N=M+1:=⟨N - 1,by omega⟩
  simp only [List.length_cons] at hN
  have hlen:src.length=pre.length+1+rest.length:=by rw [he]; simp; omega
  have g:An zG src (pre.length:Int)=x:=by rw [he]; exact Qq pre x rest
  obtain ⟨x1,x2,x3,x4⟩:=hs x (by rw [he]; simp)
  have ev:=N2 F hF x2
  have hpl:(((pre++[x]).length:Nat):Int)=(pre.length:Int)+1:=by simp
  unfold Cm okG
  by_cases hv:RV x.2.1
  rotate_left
  ·have dv:decide (RV x.2.1)=false:=decide_eq_false hv
   rw [dv,Bool.false_and,cF]
   simp (disch:=omega) only [bs,↓iP,↓iN,g,ev,dv]
  have dv:decide (RV x.2.1)=true:=decide_eq_true hv
  by_cases hne:x.2.2.1=[]
  ·have hie:x.2.2.1.isEmpty=true:=by rw [hne]; rfl
   rw [dv,hie,Bool.not_true,Bool.false_and,Bool.and_false,cF]
   have hl0:x.2.2.1.length=0:=by rw [hne]; rfl
   simp (disch:=omega) only [bs,↓iP,↓iN,g,ev,dv]
  have hie:x.2.2.1.isEmpty=false:=by cases h:x.2.2.1 with
   | nil=>exact absurd h hne
   | cons a b=>rfl
  have hl0:x.2.2.1.length≠0:=fun h=>hne (List.length_eq_zero_iff.1 h)
  rw [dv,hie,Bool.not_false,Bool.true_and,Bool.true_and]
  have tail:Hl F (fun z37 z38 z39 z40 z41=>Cm F k0 kr N z37 z38 z39 z40 (Av .i64 z41 1)) (fun z43=>kr z43) src seen x src (src.length:Int) (pre.length:Int)=bif(match okS seen (-1) x.2.2.1 with | some s=>okG s (some x) rest | none=>false) then k0 else kr 1:=by
   unfold Hl
   have e0:=Ajb F (fun z31 z32 z33 z34 z35=>Cm F k0 kr N z31 z32 z33 z34 (Av .i64 z35 1)) (fun z36=>kr z36) src src (src.length:Int) (pre.length:Int) x4 x.2.2.1 [] seen (-1) rfl (.inl ⟨rfl,rfl⟩) F (by unfold A9 at hF; omega)
   refine e0.trans ?_
   cases hS:okS seen (-1) x.2.2.1 with
   | none=>simp
   | some s =>
    have e:=ih (pre++[x]) s (some x) (by rw [he]; simp) (.inr ⟨pre,x,rfl,rfl,hv⟩) N (by omega)
    rw [hpl] at e
    simp only
    refine Eq.trans ?_ e
    simp (disch:=omega) only [bs,↓iP,↓iN]
  rcases hp with ⟨hp,rfl⟩ | ⟨d,q,hp,rfl,hq⟩
  ·have h0:pre.length=0:=by rw [hp]; rfl
   simp only [Bool.true_and]
   rw [← tail]
   simp (disch:=omega) only [bs,↓iP,↓iN,g,ev,dv]
  ·have hd:(pre.length:Int)=(d.length:Int)+1:=by rw [hp]; simp
   have hl:An zG src ((pre.length:Int) - 1)=q:=by
    rw [hd,show(d.length:Int)+1 - 1=(d.length:Int) by omega,he,hp]
    exact Aja d q (x::rest)
   have q2:=(hs q (by rw [he,hp]; simp)).2.1
   obtain ⟨r,er,hr⟩:=Wo F hF q2 x2 hq hv
   simp only
   by_cases hlt:Aca q x=true
   ·rw [hlt,Bool.true_and,← tail]
    have hr0:r < 0:=by
     rcases Int.lt_or_le r 0 with h | h
     ·exact h
     ·rw [hr.1 h] at hlt; cases hlt
    simp (disch:=omega) only [bs,↓iP,↓iN,g,ev,dv,hl,er]
   ·rw [Bool.not_eq_true] at hlt
    rw [hlt,Bool.false_and,cF]
    have hr0:0≤r:=hr.2 hlt
    simp (disch:=omega) only [bs,↓iP,↓iN,g,ev,dv,hl,er]
def gvE(l:List Gr):Int:=if 4096 < l.length then 3 else if 4096 < tot l then 3 else if okG (List.replicate 4096 false) none l=true then 0 else 1
theorem Qr(F:Nat)(l:List Gr):Iq F l=bif ltI 4096 (Az l) then some (3,()) else(Jm F l).bind fun r3=>bif ltI 4096 r3.1 then some (3,()) else Cm F (some (0,())) (fun z51=>some (z51,())) F l (List.replicate 4096 false) l (Az l) 0:=by kernel_rfl
theorem Yw(F:Nat)(hF:A9 F){l:List Gr}(h:GOk l)(hb:(l.length:Int)≤140737488355328):Iq F l=some (gvE l,()):=by
 unfold gvE
 by_cases c0:4096 < l.length
 ·rw [iP c0]
  rw [Qr]
  have x1:ltI 4096 (Az l)=true:=by rw [Aj]; unfold Az; omega
  rw [x1,cT]
 rw [iN c0]
 have x1:ltI 4096 (Az l)=false:=by rw [← Bool.not_eq_true,Aj]; unfold Az; omega
 rw [Qr,x1,cF,Xw F hF h (by omega)]
 simp only [bS]
 by_cases c1:4096 < tot l
 ·have x2:ltI 4096 (tot l:Int)=true:=by rw [Aj]; omega
  rw [iP c1,x2,cT]
 have x2:ltI 4096 (tot l:Int)=false:=by rw [← Bool.not_eq_true,Aj]; omega
 rw [iN c1,x2,cF]
 refine(Ajc F hF _ _ h (by omega) l [] (List.replicate 4096 false) none rfl (.inl ⟨rfl,rfl⟩) F (by unfold A9 at hF; omega)).trans ?_
 generalize okG (List.replicate 4096 false) none l=o
 cases o <;> rfl
def Asc:Int→List Int→Prop
 | _,[]=>True
 | p,s::t=>(0≤s∧s < 4096∧p < s)∧Asc s t
theorem Au0:∀ {t:List Int} {seen:List Bool} {p:Int} {s:List Bool},okS seen p t=some s→Asc p t
 | [],_,_,_,_=>trivial
 | x::t,seen,p,s,h=>by
  rw [okS] at h
  split at h
  ·rename_i c
   exact ⟨⟨c.1,c.2.1,c.2.2.2⟩,Au0 h⟩
  ·cases h
theorem Acb:∀ {l:List Gr} {seen:List Bool} {p:Option Gr},okG seen p l=true→∀ g∈l,RV g.2.1∧g.2.2.1≠[]∧Asc (-1) g.2.2.1
 | [],_,_,_=>fun g hg=>by cases hg
 | x::t,seen,p,h=>by
  unfold okG at h
  simp only [Bool.and_eq_true,decide_eq_true_eq,Bool.not_eq_true'] at h
  obtain ⟨h1,h2,h3,h4⟩:=h
  cases hS:okS seen (-1) x.2.2.1 with
  | none=>rw [hS] at h4; cases h4
  | some s =>
   rw [hS] at h4
   intro g hg
   rcases List.mem_cons.1 hg with rfl | hg
   ·refine ⟨h1,fun h0=>?_,Au0 hS⟩
    rw [h0] at h2
    cases h2
   ·exact Acb h4 g hg
def gk(l:List Gr):List Int:=l.map (·.1)
def gsz(l:List Gr):List Int:=l.map fun g=>(g.2.2.1.length:Int) - 1
def stp:Int→List Int→List Int
 | _,[]=>[]
 | p,s::t=>(s - (p+1))::stp s t
def gst:List Gr→List Int
 | []=>[]
 | g::t=>stp (-1) g.2.2.1++gst t
def gsl:List Gr→List Int
 | []=>[]
 | g::t=>sp g.2.1++gsl t
def gB(l:List Gr):List Int:=enc l.length++rE (gk l)++gsl l++nE (gsz l)++nE (gst l)
def gE(l:List Gr):List Int×Int:=if gvE l=0 then(gB l,0) else([],gvE l)
theorem Ul(l:List Gr):(gk l).length=l.length:=by simp [gk]
theorem Va(l:List Gr):(gsz l).length=l.length:=by simp [gsz]
theorem Pd:∀ (t:List Int) (p:Int),(stp p t).length=t.length
 | [],_=>rfl
 | s::t,p=>by simp [stp,Pd t]
theorem Pe:∀ l:List Gr,(gst l).length=tot l
 | []=>rfl
 | g::t=>by simp [gst,tot,Pd,Pe t]
theorem Axt{l:List Gr}(h:GOk l):Sg (gk l):=fun x hx=>by
 obtain ⟨g,hg,rfl⟩:=List.mem_map.1 hx
 exact(h g hg).1
theorem Azw:∀ {t:List Int} {p:Int},-1≤p→Asc p t→∀ x∈stp p t,0≤x∧x≤4096
 | [],_,_,_=>fun x hx=>by cases hx
 | s::t,p,hp,⟨h1,h2⟩=>fun x hx=>by
  rw [stp] at hx
  rcases List.mem_cons.1 hx with rfl | hx
  ·omega
  ·exact Azw (by omega) h2 x hx
theorem Aok:∀ {l:List Gr},(∀ g∈l,Asc (-1) g.2.2.1)→Wd (gst l)
 | [],_=>Wd.nil
 | g::t,h=>by
  rw [gst]
  refine Wd.append (fun x hx=>?_) (Aok fun y hy=>h y (List.mem_cons_of_mem _ hy))
  have:=Azw (by omega) (h g (by simp)) x hx
  omega
theorem Yx:∀ {l:List Gr} {g:Gr},g∈l→g.2.2.1.length≤tot l
 | x::t,g,h=>by
  rcases List.mem_cons.1 h with rfl | h
  ·simp [tot]
  ·have:=Yx h; simp only [tot]; omega
theorem Au1{l:List Gr}(h:tot l≤4096)(hne:∀ g∈l,g.2.2.1≠[]):Wd (gsz l):=fun x hx=>by
 obtain ⟨g,hg,rfl⟩:=List.mem_map.1 hx
 have h1:=Yx hg
 have h2:g.2.2.1.length≠0:=fun h0=>hne g hg (List.length_eq_zero_iff.1 h0)
 omega
theorem Xx:∀ {l:List Gr},GOk l→(gsl l).length≤74*l.length∧Bt (gsl l)
 | [],_=>⟨by simp [gsl],Bt.nil⟩
 | x::t,h=>by
  obtain ⟨h1,h2⟩:=Xx (l:=t) (fun s hs=>h s (List.mem_cons_of_mem _ hs))
  have h3:=Azs (h x (by simp)).2.1
  unfold gsl
  exact ⟨by simp only [List.length_append,List.length_cons]; omega,Bt.append (Bdm _) h2⟩
theorem Acc{l:List Gr}(h:gvE l=0):l.length≤4096∧tot l≤4096∧okG (List.replicate 4096 false) none l=true:=by
 unfold gvE at h
 by_cases c0:4096 < l.length
 ·rw [iP c0] at h; omega
 rw [iN c0] at h
 by_cases c1:4096 < tot l
 ·rw [iP c1] at h; omega
 rw [iN c1] at h
 refine ⟨by omega,by omega,?_⟩
 by_cases c2:okG (List.replicate 4096 false) none l=true
 ·exact c2
 ·rw [iN c2] at h; omega
abbrev Gn:=Int×(Rt×(Unit×Unit))
abbrev zGn:Gn:=(0,(zR,((),())))
def rgs(b:List Int):Int→List Int→List Gn×Int×Int
 | at_,k::ks =>
  if(rsp b at_).2.2=0 then
   if(rgs b (rsp b at_).2.1 ks).2.2=0 then((k,((rsp b at_).1,((),())))::(rgs b (rsp b at_).2.1 ks).1,(rgs b (rsp b at_).2.1 ks).2.1,0)
   else([],0,(rgs b (rsp b at_).2.1 ks).2.2)
  else([],0,(rsp b at_).2.2)
 | at_,[]=>([],at_,0)
theorem Agm(d:List Gn)(x y:Gn)(t:List Gn):Cd (d++x::t) (d.length:Int) y=(d++[y])++t:=by
 simp [Cd]
theorem Au2(d:List Gn)(x y:Gn)(t:List Gn):Cd ((d++[x])++t) (d.length:Int) y=(d++[y])++t:=by
 rw [List.append_assoc]; exact Agm d x y t
theorem Aol(d:List Gn)(x:Gn)(t:List Gn):An zGn (d++x::t) (d.length:Int)=x:=by
 simp [An,List.getD_eq_getElem?_getD]
theorem Au3(d:List Gn)(x:Gn)(t:List Gn):An zGn ((d++[x])++t) (d.length:Int)=x:=by
 rw [List.append_assoc]; exact Aol d x t
theorem AkE(F:Nat)(hF:A9 F){R:Type}(k:Int→List Gn→Option R)(kr:List Gn→Int→Int→Option R){b:List Int}(hbt:Bt b)(hbl:(b.length:Int)≤140737488355328){ks:List Int}(hb:ks.length≤100000) :
  ∀ (rk pk:List Int) (at_:Int) (out z:List Gn),ks=pk++rk→out.length=pk.length→z.length=rk.length→∀ N,rk.length < N →
  Ev F k kr N b at_ (out++z) ks (ks.length:Int) (pk.length:Int)=if(rgs b at_ rk).2.2=0 then k (rgs b at_ rk).2.1 (out++(rgs b at_ rk).1) else kr [] 0 (rgs b at_ rk).2.2:=by
 intro rk
 induction rk with
 | nil =>
  intro pk at_ out z hc ho hz N hN
  obtain ⟨N,rfl⟩:∃ M,N=M+1:=⟨N - 1,by omega⟩
  have:z=[]:=List.length_eq_zero_iff.1 hz
  subst this
  have hlen:ks.length=pk.length:=by rw [hc]; simp
  have hr:rgs b at_ []=([],at_,0):=by unfold rgs; rfl
  unfold Ev
  rw [hr]
  simp (disch:=omega) only [bs,↓iP,↓iN]
 | cons x rk ih =>
  intro pk at_ out z hc ho hz N hN
  obtain ⟨N,rfl⟩:∃ M,N=M+1:=⟨N - 1,by omega⟩
  obtain ⟨y,z',rfl⟩:∃ y z',z=y::z':=by
   cases z with
   | nil=>simp at hz
   | cons y z'=>exact ⟨y,z',rfl⟩
  have hl1:ks.length=pk.length+1+rk.length:=by rw [hc]; simp; omega
  simp only [List.length_cons] at hN hz
  have g1:An 0 ks (pk.length:Int)=x:=by rw [hc]; exact B8 pk x rk
  have st:∀ w,Cd (out++y::z') (pk.length:Int) w=(out++[w])++z':=fun w=>by rw [← ho]; exact Agm out y w z'
  have hol:(out++y::z').length=pk.length+1+z'.length:=by simp; omega
  have e:=fun a (w:Gn)=>ih (pk++[x]) a (out++[w]) z' (by rw [hc]; simp) (by simp [ho]) (by omega) N (by omega)
  have hpc:(((pk++[x]).length:Nat):Int)=(pk.length:Int)+1:=by simp
  simp only [hpc] at e
  have x1:ltI (pk.length:Int) (ks.length:Int)=true:=by rw [Aj]; omega
  have x2:inI (pk.length:Int) ks.length=true:=by rw [Bo]; omega
  have x4:inI (pk.length:Int) (out++y::z').length=true:=by rw [Bo]; omega
  have xa:Av .i64 (pk.length:Int) 1=(pk.length:Int)+1:=Bc (by omega)
  unfold Ev
  rw [rgs]
  simp only [x1,x2,x4,cT,g1,bS,st,xa,Z5 F hF hbt hbl]
  by_cases c2:(rsp b at_).2.2=0
  ·have y2:eqI (rsp b at_).2.2 0=true:=As.2 c2
   rw [iP c2,y2,Bool.not_true,cF,e]
   by_cases c3:(rgs b (rsp b at_).2.1 rk).2.2=0
   ·rw [iP c3,iP c3,iP rfl,List.append_assoc]
    rfl
   ·rw [iN c3,iN c3,iN c3]
  ·have y2:eqI (rsp b at_).2.2 0=false:=by rw [← Bool.not_eq_true,As]; exact c2
   rw [iN c2,y2,Bool.not_false,cT,iN c2]
theorem Ajd(F:Nat)(hF:A9 F){R:Type}(k:List Int→Int→Int→Int→List Gn→Option R)(kr:Int→Int→Option R)(T n:Int){b:List Int}(hbt:Bt b)(hbl:(b.length:Int)≤140737488355328){ks:List Int}(hb:ks.length≤100000) :
  ∀ (rk pk:List Int) (at_:Int) (out z:List Gn),ks=pk++rk→out.length=pk.length→z.length=rk.length→(∀ w∈z,w=zGn)→∀ N,rk.length < N →
  E5 F k kr N b at_ T n ks (out++z) (pk.length:Int)=if(rgs b at_ rk).2.2=0 then k b (rgs b at_ rk).2.1 T n (out++(rgs b at_ rk).1) else kr 0 (rgs b at_ rk).2.2:=by
 intro rk
 induction rk with
 | nil =>
  intro pk at_ out z hc ho hz hzz N hN
  obtain ⟨N,rfl⟩:∃ M,N=M+1:=⟨N - 1,by omega⟩
  have:z=[]:=List.length_eq_zero_iff.1 hz
  subst this
  have hlen:ks.length=pk.length:=by rw [hc]; simp
  have hr:rgs b at_ []=([],at_,0):=by unfold rgs; rfl
  have hol:(out++([]:List Gn)).length=pk.length:=by simp [ho]
  unfold E5
  rw [hr]
  simp (disch:=omega) only [bs,↓iP,↓iN,hol]
 | cons x rk ih =>
  intro pk at_ out z hc ho hz hzz N hN
  obtain ⟨N,rfl⟩:∃ M,N=M+1:=⟨N - 1,by omega⟩
  obtain ⟨y,z',rfl⟩:∃ y z',z=y::z':=by
   cases z with
   | nil=>simp at hz
   | cons y z'=>exact ⟨y,z',rfl⟩
  have hy:y=zGn:=hzz y (by simp)
  subst hy
  have hl1:ks.length=pk.length+1+rk.length:=by rw [hc]; simp; omega
  simp only [List.length_cons] at hN hz
  have g1:An 0 ks (pk.length:Int)=x:=by rw [hc]; exact B8 pk x rk
  have g2:An zGn (out++zGn::z') (pk.length:Int)=zGn:=by rw [← ho]; exact Aol out _ z'
  have st:∀ w,Cd (out++zGn::z') (pk.length:Int) w=(out++[w])++z':=fun w=>by rw [← ho]; exact Agm out _ w z'
  have st2:∀ u w,Cd ((out++[u])++z') (pk.length:Int) w=(out++[w])++z':=fun u w=>by rw [← ho]; exact Au2 out u w z'
  have gt2:∀ u,An zGn ((out++[u])++z') (pk.length:Int)=u:=fun u=>by rw [← ho]; exact Au3 out u z'
  have hol:(out++zGn::z').length=pk.length+1+z'.length:=by simp; omega
  have hol2:∀ u:Gn,((out++[u])++z').length=pk.length+1+z'.length:=fun u=>by simp; omega
  have e:=fun a (w:Gn)=>ih (pk++[x]) a (out++[w]) z' (by rw [hc]; simp) (by simp [ho]) (by omega) (fun w hw=>hzz w (List.mem_cons_of_mem _ hw)) N (by omega)
  have hpc:(((pk++[x]).length:Nat):Int)=(pk.length:Int)+1:=by simp
  simp only [hpc] at e
  have x1:ltI (pk.length:Int) (Az (out++zGn::z'))=true:=by rw [Aj]; unfold Az; omega
  have x2:inI (pk.length:Int) ks.length=true:=by rw [Bo]; omega
  have x4:inI (pk.length:Int) (out++zGn::z').length=true:=by rw [Bo]; omega
  have x5:∀ u:Gn,inI (pk.length:Int) ((out++[u])++z').length=true:=fun u=>by rw [Bo,hol2]; omega
  have xa:Av .i64 (pk.length:Int) 1=(pk.length:Int)+1:=Bc (by omega)
  unfold E5
  rw [rgs]
  simp only [x1,x2,x4,cT,g1,g2,bS,st,x5,st2,gt2,xa,Xv F hF hbt hbl]
  by_cases c2:(rsp b at_).2.2=0
  ·have y2:eqI (rsp b at_).2.2 0=true:=As.2 c2
   rw [iP c2,y2,Bool.not_true,cF,e]
   by_cases c3:(rgs b (rsp b at_).2.1 rk).2.2=0
   ·rw [iP c3,iP c3,iP rfl,List.append_assoc]
    rfl
   ·rw [iN c3,iN c3,iN c3]
  ·have y2:eqI (rsp b at_).2.2 0=false:=by rw [← Bool.not_eq_true,As]; exact c2
   rw [iN c2,y2,Bool.not_false,cT,iN c2]
def nsl:List Gn→List Int
 | []=>[]
 | g::t=>sp g.2.1++nsl t
theorem Azx{b:List Int}(hb:Bt b):∀ {ks:List Int} {at_:Int},0≤at_→at_≤b.length→(rgs b at_ ks).2.2=0 →
  (∀ g∈(rgs b at_ ks).1,ROk g.2.1∧RV g.2.1)∧(rgs b at_ ks).1.map (·.1)=ks∧at_≤(rgs b at_ ks).2.1∧(rgs b at_ ks).2.1≤b.length∧Cu (Ce b (rgs b at_ ks).2.1) at_=nsl (rgs b at_ ks).1
 | [],at_,h0,h1,h=>by
  have hr:rgs b at_ []=([],at_,0):=by unfold rgs; rfl
  rw [hr]
  refine ⟨fun s hs=>(by cases hs),rfl,Int.le_refl _,h1,?_⟩
  show Cu (Ce b at_) at_=[]
  unfold Cu Ce
  exact List.drop_eq_nil_of_le (by simp; omega)
 | x::ks,at_,h0,h1,h=>by
  rw [rgs] at h ⊢
  by_cases c2:(rsp b at_).2.2=0
  ·rw [iP c2] at h ⊢
   obtain ⟨i1,i2,i3,i4,i5,i6⟩:=A88 hb c2
   by_cases c3:(rgs b (rsp b at_).2.1 ks).2.2=0
   ·obtain ⟨j1,j2,j5,j6,j7⟩:=Azx hb (by omega) i5 c3
    rw [iP c3]
    refine ⟨?_,by rw [List.map_cons,j2],by show at_≤(rgs b (rsp b at_).2.1 ks).2.1; omega,j6,?_⟩
    ·intro s hs
     rcases List.mem_cons.1 hs with rfl | hs
     ·exact ⟨i1,i2⟩
     ·exact j1 s hs
    ·show Cu (Ce b (rgs b (rsp b at_).2.1 ks).2.1) at_=_
     rw [nsl,← U9 i3 (Int.le_of_lt i4) j5 j6,i6,j7]
   ·rw [iN c3] at h; exact absurd h c3
  ·rw [iN c2] at h; exact absurd h c2
def ApN:Int→List Int→Option Int
 | left,[]=>some left
 | left,x::t=>if x < left then ApN (left - (x+1)) t else none
theorem Au4{T:Int}(hT:0≤T):∀ (l:List Int) (s:Int),Wd l→0≤s→s≤T→sat T s l=match ApN (T - s) l with | some left=>T - left | none=>T+1
 | [],s,_,_,_=>by
  show s=T - (T - s)
  omega
 | x::t,s,hw,h0,h1=>by
  have hx:=Wd.head hw
  rw [sat,ApN]
  by_cases c:x < T - s
  ·rw [iP c,show min (s+(min x T+1)) (T+1)=s+x+1 by omega,Au4 hT t _ (Wd.tail hw) (by omega) (by omega),show T - (s+x+1)=T - s - (x+1) by omega]
  ·rw [iN c,show min (s+(min x T+1)) (T+1)=T+1 by omega]
   exact AtI hT t (Wd.tail hw)
theorem Au5:∀ {l:List Int} {left r:Int},Wd l→0≤left→ApN left l=some r→0≤r∧r≤left∧Ac0 (mre l)=left - r∧(∀ x∈l,x < left)∧(l.length:Int)≤left
 | [],left,r,_,h0,h=>by
  simp only [ApN,Option.some.injEq] at h
  subst h
  refine ⟨h0,Int.le_refl _,?_,fun x hx=>by simp at hx,h0⟩
  show Ac0 []=_
  simp [Ac0]
 | x::t,left,r,hw,h0,h=>by
  have hx:=Wd.head hw
  rw [ApN] at h
  split at h
  ·rename_i c
   obtain ⟨h1,h2,h3,h4,h5⟩:=Au5 (Wd.tail hw) (by omega) h
   refine ⟨h1,by omega,?_,fun y hy=>?_,by simp only [List.length_cons]; push_cast; omega⟩
   ·show Ac0 ((x+1)::mre t)=_
    simp only [Ac0,h3]
    omega
   ·rcases List.mem_cons.1 hy with rfl | hy
    ·exact c
    ·have:=h4 y hy; omega
  ·cases h
theorem Au6{T:Int}:∀ {l:List Int},(∀ x∈l,x < T)→mrm T l=mre l
 | [],_=>rfl
 | x::t,h=>by
  have:=h x (by simp)
  rw [mrm,mre,Au6 fun y hy=>h y (List.mem_cons_of_mem _ hy),show min x T=x by omega]
theorem Au7(F:Nat){R:Type}(k:List Int→Int→Int→List Gn→List Int→Int→Option R)(kr:Int→Int→Option R)(b:List Int)(a T:Int)(L:List Gn){src:List Int}(hs:Wd src)(hb:src.length≤100000):∀ (rest pre:List Int) (left:Int),src=pre++rest→0≤left∧left≤4096→∀ N,rest.length < N →
  E6 F k kr N b a T L src left (pre.length:Int)=match ApN left rest with | some r=>k b a T L src r | none=>kr 0 10:=by
 intro rest
 induction rest with
 | nil =>
  intro pre left he hl N hN
  obtain ⟨N,rfl⟩:∃ M,N=M+1:=⟨N - 1,by omega⟩
  have hlen:src.length=pre.length:=by rw [he]; simp
  unfold E6 ApN
  simp (disch:=omega) only [bs,↓iP,↓iN]
 | cons x rest ih =>
  intro pre left he hl N hN
  obtain ⟨N,rfl⟩:∃ M,N=M+1:=⟨N - 1,by omega⟩
  simp only [List.length_cons] at hN
  have hlen:src.length=pre.length+1+rest.length:=by rw [he]; simp; omega
  have g:An 0 src (pre.length:Int)=x:=by rw [he]; exact B8 pre x rest
  have hx:0≤x∧x≤18446744073709551615:=hs x (by rw [he]; simp)
  have hpl:(((pre++[x]).length:Nat):Int)=(pre.length:Int)+1:=by simp
  unfold E6
  rw [ApN]
  by_cases c:x < left
  ·have e:=ih (pre++[x]) (left - (x+1)) (by rw [he]; simp) (by omega) N (by omega)
   rw [hpl] at e
   have a1:Av .u64 x 1=x+1:=Dm (by omega)
   have a2:Bj .u64 left (x+1)=left - (x+1):=Qb (by omega)
   rw [iP c]
   simp (disch:=omega) only [bs,↓iP,↓iN,g,a1,a2]
   exact e
  ·rw [iN c]
   simp (disch:=omega) only [bs,↓iP,↓iN,g]
def shI(T:Int):Nat→Int→List Int→Option (List Int×List Int)
 | 0,_,steps=>some ([],steps)
 | _+1,_,[]=>none
 | m+1,next,s::steps=>if s < T - next then(match shI T m (next+s+1) steps with | some r=>some ((next+s)::r.1,r.2) | none=>none) else none
def shA(T:Int):List Int→List Int→Option (List (List Int))
 | [],_=>some []
 | c::cs,steps=>match shI T c.toNat 0 steps with
  | some r=>(match shA T cs r.2 with | some D=>some (r.1::D) | none=>none)
  | none=>none
theorem Aom{T:Int}:∀ {m:Nat} {next:Int} {steps:List Int} {r:List Int×List Int},0≤next→Wd steps→shI T m next steps=some r→steps=stp (next - 1) r.1++r.2∧r.1.length=m∧(∀ x∈r.1,next≤x∧x < T)
 | 0,next,steps,r,_,_,h=>by
  simp only [shI,Option.some.injEq] at h
  subst h
  exact ⟨rfl,rfl,fun x hx=>by simp at hx⟩
 | m+1,next,[],r,_,_,h=>by simp [shI] at h
 | m+1,next,s::steps,r,h0,hw,h=>by
  have hs:=Wd.head hw
  rw [shI] at h
  split at h
  ·rename_i c
   cases h2:shI T m (next+s+1) steps with
   | none=>rw [h2] at h; cases h
   | some q =>
    rw [h2] at h
    simp only [Option.some.injEq] at h
    subst h
    obtain ⟨a1,a2,a3⟩:=Aom (by omega) (Wd.tail hw) h2
    refine ⟨?_,by simp [a2],fun x hx=>?_⟩
    ·show s::steps=(next+s - (next - 1+1))::stp (next+s) q.1++q.2
     rw [show next+s - (next - 1+1)=s by omega,List.cons_append]
     rw [show next+s+1 - 1=next+s by omega] at a1
     rw [← a1]
    ·rcases List.mem_cons.1 hx with rfl | hx
     ·omega
     ·have:=a3 x hx; omega
  ·cases h
theorem Au8(F:Nat){T:Int}(hT:0≤T∧T≤4096):∀ (m:Nat) (j next size:Int) (steps xs:List Int),size=j+m→0≤j→size≤4096→0≤next→next≤T→m≤steps.length→Wd steps→steps.length≤100000→xs.length+m≤100000→∀ N,m < N →
  ∃ a c,Dj F true T size N j next steps xs=(match shI T m next steps with | some r=>some (true,r.2,xs++r.1) | none=>some (false,a,c)):=by
 intro m
 induction m with
 | zero =>
  intro j next size steps xs h1 h2 h3 h4 h5 h6 h7 h8 h9 N hN
  obtain ⟨N,rfl⟩:∃ M,N=M+1:=⟨N - 1,by omega⟩
  refine ⟨[],[],?_⟩
  unfold Dj shI
  have:ltI j size=false:=by rw [← Bool.not_eq_true,Aj]; omega
  rw [this,cF]
  simp
 | succ m ih =>
  intro j next size steps xs h1 h2 h3 h4 h5 h6 h7 h8 h9 N hN
  obtain ⟨N,rfl⟩:∃ M,N=M+1:=⟨N - 1,by omega⟩
  cases steps with
  | nil=>simp at h6
  | cons s steps =>
   have hs:=Wd.head h7
   simp only [List.length_cons] at h6 h8
   have x1:ltI j size=true:=by rw [Aj]; omega
   have x2:inI 0 (s::steps).length=true:=by rw [Bo]; simp only [List.length_cons]; omega
   have hw:IntKind.u64.wrap (Bj .i64 T next)=T - next:=by rw [Ou (by omega),Bi (by omega)]
   have g0:An 0 (s::steps) 0=s:=rfl
   unfold Dj
   rw [x1,cT,x2,cT,hw,g0,shI]
   by_cases c:s < T - next
   ·have y1:leI (T - next) s=false:=by rw [← Bool.not_eq_true,Bw]; omega
    have r1:Bf (xs.length+1) 8=true:=by rw [Bq]; omega
    have c1:Km 1 (Az (s::steps)) (s::steps).length=true:=by rw [Ab3]; unfold Az; simp only [List.length_cons]; omega
    have hws:IntKind.i64.wrap s=s:=Cz (by omega)
    have a1:Av .i64 next s=next+s:=Bc (by omega)
    have a2:Av .i64 (next+s) 1=next+s+1:=Bc (by omega)
    have a3:Av .i64 j 1=j+1:=Bc (by omega)
    have d1:Cu (s::steps) 1=steps:=rfl
    obtain ⟨a,d,e⟩:=ih (j+1) (next+s+1) size steps (xs++[next+s]) (by omega) (by omega) h3 (by omega) (by omega) (by omega) (Wd.tail h7) (by omega) (by simp only [List.length_append,List.length_singleton]; omega) N (by omega)
    refine ⟨a,d,?_⟩
    rw [iP c,y1,cF,cT,r1,cT,c1,cT,hws,a1,a2,a3,d1,e]
    cases shI T m (next+s+1) steps with
    | none=>rfl
    | some r=>simp
   ·have y1:leI (T - next) s=true:=by rw [Bw]; omega
    refine ⟨s::steps,xs,?_⟩
    rw [iN c,y1,cT]
theorem ApH(F:Nat)(hF:A9 F){T:Int}(hT:0≤T∧T≤4096){src:List Int}(hs:∀ x∈src,1≤x∧x≤4096)(hb:src.length≤100000):∀ (rest pre:List Int) (steps:List Int) (D:List (List Int)),src=pre++rest→D.length=pre.length→Ac0 rest≤steps.length→Wd steps→steps.length≤50000→∀ N,rest.length < N →
  ∃ D',Cq F src.length T src (src.length:Int) N (pre.length:Int) steps D=(match shA T rest steps with | some D2=>some (true,D++D2) | none=>some (false,D')):=by
 intro rest
 induction rest with
 | nil =>
  intro pre steps D he hD h1 h2 h3 N hN
  obtain ⟨N,rfl⟩:∃ M,N=M+1:=⟨N - 1,by omega⟩
  have hlen:src.length=pre.length:=by rw [he]; simp
  refine ⟨[],?_⟩
  unfold Cq shA
  have:ltI (pre.length:Int) (src.length:Int)=false:=by rw [← Bool.not_eq_true,Aj]; omega
  rw [this,cF]
  show some (true,D)=some (true,D++[])
  rw [List.append_nil]
 | cons x rest ih =>
  intro pre steps D he hD h1 h2 h3 N hN
  obtain ⟨N,rfl⟩:∃ M,N=M+1:=⟨N - 1,by omega⟩
  simp only [List.length_cons] at hN
  have hlen:src.length=pre.length+1+rest.length:=by rw [he]; simp; omega
  have g:An 0 src (pre.length:Int)=x:=by rw [he]; exact B8 pre x rest
  have hx:=hs x (by rw [he]; simp)
  have hpl:(((pre++[x]).length:Nat):Int)=(pre.length:Int)+1:=by simp
  have hpos:0≤Ac0 rest:=by
   have:∀ l:List Int,(∀ y∈l,1≤y)→0≤Ac0 l:=by
    intro l
    induction l with
    | nil=>intro _; simp [Ac0]
    | cons y t iht=>intro h; have:=iht (fun z hz=>h z (List.mem_cons_of_mem _ hz)); have:=h y (by simp); simp only [Ac0]; omega
   exact this rest fun y hy=>(hs y (by rw [he]; simp [hy])).1
  simp only [Ac0] at h1
  obtain ⟨a,c,e⟩:=Au8 F hT x.toNat 0 0 x steps [] (by omega) (by omega) (by omega) (by omega) (by omega) (by omega) h2 (by omega) (by simp; omega) F (by unfold A9 at hF; omega)
  have x1:ltI (pre.length:Int) (src.length:Int)=true:=by rw [Aj]; omega
  have x2:inI (pre.length:Int) src.length=true:=by rw [Bo]; omega
  unfold Cq
  rw [x1,cT,x2,cT,g,e,shA]
  cases hq:shI T x.toNat 0 steps with
  | none=>exact ⟨D++[c],rfl⟩
  | some r =>
   obtain ⟨b1,b2,b3⟩:=Aom (by omega) h2 hq
   have hl:=congrArg List.length b1
   rw [List.length_append,Pd,b2] at hl
   obtain ⟨D',e2⟩:=ih (pre++[x]) r.2 (D++[r.1]) (by rw [he]; simp) (by simp [hD]) (by omega) (by rw [b1] at h2; exact Wd.right h2) (by omega) N (by omega)
   rw [hpl] at e2
   have y1:eqI ((pre.length:Int)+1) (Az D+1)=true:=by rw [As]; unfold Az; omega
   have a1:Av .i64 (pre.length:Int) 1=(pre.length:Int)+1:=Bc (by omega)
   refine ⟨D',?_⟩
   simp only [bS,cT,List.nil_append,y1,a1,e2]
   cases shA T rest r.2 with
   | none=>rfl
   | some D2=>simp
theorem Yy(F:Nat)(hF:A9 F){T:Int}(hT:0≤T∧T≤4096){L:List Gn}{cs steps:List Int}(hs:∀ x∈cs,1≤x∧x≤4096)(hl:L.length=cs.length)(hb:cs.length≤100000)(h1:Ac0 cs≤steps.length)(h2:Wd steps)(h3:steps.length≤50000) :
  ∃ L',Nz F L cs steps T=(match shA T cs steps with | some D=>some (D4 L D,true,()) | none=>some (L',false,())):=by
 obtain ⟨D',e⟩:=ApH F hF hT hs hb cs [] steps [] rfl rfl h1 h2 h3 F (by unfold A9 at hF; omega)
 refine ⟨D4 L D',?_⟩
 unfold Nz Hn
 have z:eqI (0:Int) 0=true:=rfl
 have e:Cq F L.length T cs (Az cs) F 0 steps []=(match shA T cs steps with | some D2=>some (true,[]++D2) | none=>some (false,D')):=by rw [hl]; exact e
 simp only [z,cT,e]
 cases shA T cs steps with
 | none=>rfl
 | some D=>simp
end Go.Proofs.YtdhfajmcakneiaaGreat
