/- The laws of the models, part C. -/
import Derived.Test.YtdhfajmcakneiaaGreatLawsB
import Derived.Test.YtdhfajmcakneiaaGreatEngE
set_option linter.unusedVariables false
set_option linter.unusedSimpArgs false
namespace Go.Proofs.YtdhfajmcakneiaaGreat
open Go.Eng
abbrev Smp:=Int×Int×Unit
def Zs(l:List Smp):Prop:=∀ s∈l,I64 s.1∧I64 s.2.1
theorem Zs.push{l:List Smp}(h:Zs l){a b:Int}(ha:I64 a)(hb:I64 b):Zs (l++[(a,(b,()))]):=by
 intro s hs
 rcases List.mem_append.1 hs with h1 | h1
 ·exact h s h1
 ·simp at h1; subst h1; exact ⟨ha,hb⟩
theorem Aia(F:Nat)(hF:A4 F)(kd slope:Int){times:List Int}(hT:Sg times)(hTl:times.length≤1000):∀ (m i:Nat) (t:List Int×Int×Unit) (l:List Smp) (v:Int),i+m=times.length→Eh t→Zs l→I64 v→l.length=i →
  ∀ N,m < N→∃ t' l',Eh t'∧Zs l'∧l'.length=times.length∧(l'.map fun s=>s.1)=(l.map fun s=>s.1)++times.drop i∧∀ (R:Type) (k:List Int×Int×Unit→List Smp→Option R),At F k N t times l kd v slope (i:Int)=k t' l':=by
 intro m
 induction m with
 | zero =>
  intro i t l v hi ht hl hv hli N hN
  obtain ⟨N,rfl⟩:∃ M,N=M+1:=⟨N - 1,by omega⟩
  refine ⟨t,l,ht,hl,by omega,by rw [List.drop_eq_nil_of_le (by omega),List.append_nil],fun R k=>?_⟩
  unfold At
  simp (disch:=omega) only [bs,↓iP,↓iN]
 | succ m ih =>
  intro i t l v hi ht hl hv hli N hN
  obtain ⟨N,rfl⟩:∃ M,N=M+1:=⟨N - 1,by omega⟩
  have fin:∀ (t1:List Int×Int×Unit) (x v1:Int),Eh t1→I64 x→I64 v1→(∀ (R:Type) (k:List Int×Int×Unit→List Smp→Option R),At F k (N+1) t times l kd v slope (i:Int) =
    At F k N t1 times (l++[(Ak 0 times (i:Int),(x,()))]) kd v1 slope (As .i64 (i:Int) 1)) →
    ∃ t' l',Eh t'∧Zs l'∧l'.length=times.length∧(l'.map fun s=>s.1)=(l.map fun s=>s.1)++times.drop i∧∀ (R:Type) (k:List Int×Int×Unit→List Smp→Option R),At F k (N+1) t times l kd v slope (i:Int)=k t' l':=by
   intro t1 x v1 ht1 hx hv1 e
   obtain ⟨t',l',g1,g2,g3,g5,g4⟩:=ih (i+1) t1 (l++[(Ak 0 times (i:Int),(x,()))]) v1 (by omega) ht1 (hl.push (hT.get _) hx) hv1 (by simp; omega) N (by omega)
   refine ⟨t',l',g1,g2,g3,by rw [g5,Lz (l:=times) (j:=i) (by omega)]; simp,fun R k=>?_⟩
   rw [e R k,Bd (by omega)]
   have:=g4 R k
   simp only [Int.natCast_add,Int.natCast_one] at this
   exact this
  have h0:ltI (i:Int) (Au times)=true:=by rw [Ah]; unfold Au; omega
  have h1:inI (i:Int) times.length=true:=by rw [Bo]; omega
  have hr:Bh (l.length+1) 16=true:=by rw [Cn]; omega
  by_cases k1:kd=1
  ·refine fin t (As .i64 v (Iv .i64 (i:Int) slope)) v ht (Bp _) hv fun R k=>?_
   conv=>lhs; unfold At
   have q:eqI kd 1=true:=by rw [Ao]; exact k1
   simp only [h0,h1,hr,q,cT]
  ·have q1:eqI kd 1=false:=by rw [← Bool.not_eq_true,Ao]; exact k1
   by_cases k2:kd=2
   ·obtain ⟨t1,w,e1,ht1,_,_⟩:=Am F ht (n:=7) (by omega)
    refine fin t1 (As .i64 (As .i64 v (Iv .i64 (i:Int) slope)) (Bl .i64 w 3)) v ht1 (Bp _) hv fun R k=>?_
    conv=>lhs; unfold At
    have q:eqI kd 2=true:=by rw [Ao]; exact k2
    simp only [h0,h1,hr,q1,q,cT,cF,e1,bS]
   ·have q2:eqI kd 2=false:=by rw [← Bool.not_eq_true,Ao]; exact k2
    by_cases k3:kd=3
    ·obtain ⟨t1,w,e1,ht1,_,_⟩:=Am F ht (n:=9) (by omega)
     refine fin t1 (As .i64 v (Bl .i64 w 4)) v ht1 (Bp _) hv fun R k=>?_
     conv=>lhs; unfold At
     have q:eqI kd 3=true:=by rw [Ao]; exact k3
     simp only [h0,h1,hr,q1,q2,q,cT,cF,e1,bS]
    ·have q3:eqI kd 3=false:=by rw [← Bool.not_eq_true,Ao]; exact k3
     by_cases k4:kd=4
     ·obtain ⟨t1,w,e1,ht1,hw⟩:=H8 F hF ht
      refine fin t1 w v ht1 hw hv fun R k=>?_
      conv=>lhs; unfold At
      have q:eqI kd 4=true:=by rw [Ao]; exact k4
      simp only [h0,h1,hr,q1,q2,q3,q,cT,cF,e1,bS]
     ·have q4:eqI kd 4=false:=by rw [← Bool.not_eq_true,Ao]; exact k4
      by_cases k5:kd=5
      ·have q:eqI kd 5=true:=by rw [Ao]; exact k5
       obtain ⟨t1,bb,e1,ht1⟩:=Q5 F ht (n:=5) (by omega)
       cases bb with
       | true =>
        obtain ⟨t2,w,e2,ht2,_,_⟩:=Am F ht1 (n:=400) (by omega)
        obtain ⟨t3,u,e3,ht3,_,_⟩:=Am F ht2 (n:=3) (by omega)
        refine fin t3 (As .i64 (As .i64 v (Bl .i64 w 200)) u) (As .i64 v (Bl .i64 w 200)) ht3 (Bp _) (Bp _) fun R k=>?_
        conv=>lhs; unfold At
        simp only [h0,h1,hr,q1,q2,q3,q4,q,cT,cF,e1,e2,e3,bS]
       | false =>
        obtain ⟨t3,u,e3,ht3,_,_⟩:=Am F ht1 (n:=3) (by omega)
        refine fin t3 (As .i64 v u) v ht3 (Bp _) hv fun R k=>?_
        conv=>lhs; unfold At
        simp only [h0,h1,hr,q1,q2,q3,q4,q,cT,cF,e1,e3,bS]
      ·have q5:eqI kd 5=false:=by rw [← Bool.not_eq_true,Ao]; exact k5
       by_cases k6:kd=6
       ·have q:eqI kd 6=true:=by rw [Ao]; exact k6
        obtain ⟨t2,w,e2,ht2,_,_⟩:=Am F ht (n:=50) (by omega)
        obtain ⟨t3,u,e3,ht3,_,_⟩:=Am F ht2 (n:=50) (by omega)
        refine fin t3 (Iv .i64 (Iv .i64 w u) slope) v ht3 (Bp _) hv fun R k=>?_
        conv=>lhs; unfold At
        simp only [h0,h1,hr,q1,q2,q3,q4,q5,q,cT,cF,e2,e3,bS]
       ·have q6:eqI kd 6=false:=by rw [← Bool.not_eq_true,Ao]; exact k6
        refine fin t v v ht hv hv fun R k=>?_
        conv=>lhs; unfold At
        simp only [h0,h1,hr,q1,q2,q3,q4,q5,q6,cT,cF]
theorem T8(F:Nat)(hF:A4 F){t:List Int×Int×Unit}(h:Eh t){n:Int}(hn:0≤n∧n≤100) :
  ∃ t' l,Jo F t n=some (t',l,())∧Eh t'∧Zs l∧(l.length:Int)≤n∧V1 (l.map fun s=>s.1)=true:=by
 obtain ⟨t1,ts,e1,h1,hs,hi,hl⟩:=Xb F hF h hn
 obtain ⟨t2,kd,e2,h2,_,_⟩:=Am F h1 (n:=7) (by omega)
 obtain ⟨t3,v,e3,h3,hv⟩:=H8 F hF h2
 obtain ⟨t4,s,e4,h4,_,_⟩:=Am F h3 (n:=41) (by omega)
 obtain ⟨t5,l,g1,g2,g3,g5,g4⟩:=Aia F hF kd (Bl .i64 s 20) hs (by omega) ts.length 0 t4 [] v (by omega) h4 (fun x hx=>by cases hx) hv rfl F (by unfold A4 at hF; omega)
 refine ⟨t5,l,?_,g1,g2,by omega,by rw [g5,List.drop_zero,List.map_nil,List.nil_append]; exact hi⟩
 unfold Jo
 simp only [e1,e2,e3,e4,bS]
 exact g4 _ _
theorem A7A{x:Int}(h:(Lit.int .u32 x).wf=true):0≤x∧x≤4294967295:=by
 simpa [Lit.wf,IntKind.min,IntKind.max,IntKind.signed,IntKind.bits] using h
theorem A7B{x:Int}(h:(Lit.int .i32 x).wf=true):-2147483648≤x∧x≤2147483647:=by
 simpa [Lit.wf,IntKind.min,IntKind.max,IntKind.signed,IntKind.bits] using h
theorem A4g{l:List Smp}(h:wfT (.slice (.pair (.int .i64) (.pair (.int .i64) .unit))) l):Zs l :=
 fun s hs=>⟨X0 (h.2 s hs).1,X0 (h.2 s hs).2.1⟩
def AbH:List Int→Int
 | []=>0
 | x::t=>x+AbH t
def A01:Int→List Int→Bool
 | _,[]=>true
 | left,x::t=>decide (1≤x∧x≤left) && A01 (left - x) t
def lss:List Int→List Int
 | []=>[]
 | x::t=>(x - 1)::lss t
def mre:List Int→List Int
 | []=>[]
 | x::t=>(x+1)::mre t
theorem Ur:∀ l:List Int,(mre l).length=l.length
 | []=>rfl
 | x::t=>by simp [mre,Ur t]
theorem ArC:∀ l:List Int,lss (mre l)=l
 | []=>rfl
 | x::t=>by simp only [lss,mre,ArC t]; congr 1; omega
def hd(c v:List Int):List Int:=enc c.length++nE (lss c)++rE v
def cn(l:List Smp):List Int:=l.map (·.1)
def vl(l:List Smp):List Int:=l.map (·.2.1)
def sat(T:Int):Int→List Int→Int
 | s,[]=>s
 | s,x::t=>sat T (min (s+(min x T+1)) (T+1)) t
theorem ArD{T:Int}(hT:0≤T):∀ (l:List Int),Wd l→sat T (T+1) l=T+1
 | [],_=>rfl
 | x::t,hw=>by
  have hx:=Wd.head hw
  rw [sat,show min (T+1+(min x T+1)) (T+1)=T+1 by omega]
  exact ArD hT t (Wd.tail hw)
def mrm(T:Int):List Int→List Int
 | []=>[]
 | x::t=>(min x T+1)::mrm T t
theorem Ajt(F:Nat){R:Type}(k:Int→List Int→Int→Option R){T:Int}(hT:0≤T∧T≤4096)(end_:Int){src:List Int}(hs:Wd src)(hb:src.length≤100000):∀ (rest pre out z:List Int) (s:Int),src=pre++rest→out.length=pre.length→z.length=rest.length→0≤s∧s≤T+1→∀ N,rest.length < N →
  Fg F k N T end_ (out++z) s src (src.length:Int) (pre.length:Int)=k end_ (out++mrm T rest) (sat T s rest):=by
 have hwT:IntKind.u64.wrap T=T:=Bk (by omega)
 intro rest
 induction rest with
 | nil =>
  intro pre out z s he ho hz hs N hN
  obtain ⟨N,rfl⟩:∃ M,N=M+1:=⟨N - 1,by omega⟩
  have:z=[]:=List.length_eq_zero_iff.1 hz
  subst this
  have hlen:src.length=pre.length:=by rw [he]; simp
  unfold Fg
  simp (disch:=omega) only [bs,↓iP,↓iN]
  rfl
 | cons x rest ih =>
  intro pre out z s he ho hz hss N hN
  obtain ⟨N,rfl⟩:∃ M,N=M+1:=⟨N - 1,by omega⟩
  obtain ⟨y,z',rfl⟩:∃ y z',z=y::z':=by
   cases z with
   | nil=>simp at hz
   | cons y z'=>exact ⟨y,z',rfl⟩
  simp only [List.length_cons] at hN hz
  have hlen:src.length=pre.length+1+rest.length:=by rw [he]; simp; omega
  have g:Ak 0 src (pre.length:Int)=x:=by rw [he]; exact Cb pre x rest
  have hx:0≤x∧x≤18446744073709551615:=hs x (by rw [he]; simp)
  have st:B6 (out++y::z') (pre.length:Int) (min x T+1)=(out++[min x T+1])++z':=by rw [← ho]; exact Gw out y _ z'
  have gs:Ak 0 ((out++[min x T+1])++z') (pre.length:Int)=min x T+1:=by rw [← ho,List.append_assoc]; exact Cb out _ z'
  have hol:(out++y::z').length=pre.length+1+z'.length:=by simp; omega
  have hol2:(out++[min x T+1]++z').length=pre.length+1+z'.length:=by simp; omega
  have e:=ih (pre++[x]) (out++[min x T+1]) z' (min (s+(min x T+1)) (T+1)) (by rw [he]; simp) (by simp [ho]) (by omega) (by omega) N (by omega)
  have hpl:(((pre++[x]).length:Nat):Int)=(pre.length:Int)+1:=by simp
  rw [hpl] at e
  have hz2:out++[min x T+1]++mrm T rest=out++mrm T (x::rest):=by simp [mrm]
  rw [hz2] at e
  have hwm:IntKind.i64.wrap (min x T)=min x T:=Cv (by omega)
  have y1:As .i64 (IntKind.wrap .i64 (Ze x (IntKind.wrap .u64 T))) 1=min x T+1:=by rw [hwT,Ae1,hwm,Bd (by omega)]
  have y2:Ze (As .i64 s (min x T+1)) (As .i64 T 1)=min (s+(min x T+1)) (T+1):=by rw [Ae1,Bd (by omega),Bd (by omega)]
  have x1:ltI (pre.length:Int) (src.length:Int)=true:=by rw [Ah]; omega
  have x2:inI (pre.length:Int) src.length=true:=by rw [Bo]; omega
  have x3:inI (pre.length:Int) (out++y::z').length=true:=by rw [Bo]; omega
  have x4:inI (pre.length:Int) (out++[min x T+1]++z').length=true:=by rw [Bo]; omega
  have xa:As .i64 (pre.length:Int) 1=(pre.length:Int)+1:=Bd (by omega)
  unfold Fg
  simp only [x1,x2,x3,cT,g,y1,st,x4,gs,y2,xa]
  exact e
theorem Aib(F:Nat)(b:List Int)(at_ T:Int):Nr F b at_ T=some (decide (0≤at_∧at_≤b.length∧0≤T∧T≤4096),()):=by
 unfold Nr leI Au
 by_cases c1:0≤at_ <;> by_cases c2:at_≤b.length <;> by_cases c3:0≤T <;> by_cases c4:T≤4096 <;> simp [c1,c2,c3,c4]
theorem Us{b:List Int}{a m e:Int}(h0:0≤a)(h1:a≤m)(h2:m≤e)(h3:e≤b.length):Cj (B0 b m) a++Cj (B0 b e) m=Cj (B0 b e) a:=by
 unfold Cj B0
 obtain ⟨a,rfl⟩:=Int.eq_ofNat_of_zero_le h0
 obtain ⟨m,rfl⟩:=Int.eq_ofNat_of_zero_le (show 0≤m by omega)
 obtain ⟨e,rfl⟩:=Int.eq_ofNat_of_zero_le (show 0≤e by omega)
 have h1':a≤m:=by
  have:Int.ofNat a=(a:Int):=rfl
  have:Int.ofNat m=(m:Int):=rfl
  omega
 have h2':m≤e:=by
  have:Int.ofNat e=(e:Int):=rfl
  have:Int.ofNat m=(m:Int):=rfl
  omega
 have k1:(Int.ofNat a).toNat=a:=rfl
 have k2:(Int.ofNat m).toNat=m:=rfl
 have k3:(Int.ofNat e).toNat=e:=rfl
 simp only [Int.ofNat_eq_natCast,Int.toNat_natCast]
 rw [show b.take m=(b.take e).take m by rw [List.take_take,Nat.min_eq_left h2']]
 generalize b.take e=c
 rw [List.drop_take,show List.drop m c=List.drop (m - a) (List.drop a c) by rw [List.drop_drop]; congr 1; omega,List.take_append_drop]
theorem A3F{b:List Int}(hb:Bt b){at_:Int}(h:(rd b at_).2.2=0):Cj (B0 b (rd b at_).2.1) at_=enc (rd b at_).1:=by
 obtain ⟨h1,h2,h3,h4⟩:=Art hb h
 unfold Cj B0
 have hlen:(b.drop at_.toNat).length=(enc (rd b at_).1).length+(b.drop (rd b at_).2.1.toNat).length:=by rw [h4]; simp
 simp only [List.length_drop] at hlen
 rw [List.drop_take,h4,List.take_left' (by omega)]
def A3G(b:List Int)(at_ T:Int)(x:List Smp)(end_ e:Int):Prop :=
 Zs x∧(e=0→0≤at_∧x.length≤4096∧AbH (cn x)=T∧at_ < end_∧end_≤b.length∧A01 4096 (cn x)=true∧hd (cn x) (vl x)=Cj (B0 b end_) at_)∧(e≠0→x=[]∧end_=0)
theorem A3G.err(b:List Int)(at_ T:Int){e:Int}(h:e≠0):A3G b at_ T [] 0 e:=⟨(fun s hs=>by cases hs),fun h2=>absurd h2 h,fun _=>⟨rfl,rfl⟩⟩
theorem A02{l:List Int}(h:Wd l):(nE l).length≤1+10*l.length:=by
 have h1:=(Awm h).1
 have h2:=Aae h
 omega
theorem A7C{l:List Int}(h:Sg l):(rE l).length≤2+10*l.length:=by
 have h1:=AuB l (n:=0) (by omega)
 have h2:(rO 0 l).length=1+(nE (zs (dfn 0 l))).length:=by unfold rO; simp; omega
 have h3:=A02 (Ux (L1 0 h))
 rw [E0,C3] at h3
 omega
def Sz(v s:Nat):Prop:=v < 2 ^ s∧(v=0→s=0)∧(0 < v→1≤s∧2 ^ (s - 1)≤v)
theorem p64(k:Nat):(18446744073709551616:Nat) ^ k=2 ^ (64*k):=by rw [show(18446744073709551616:Nat)=2 ^ 64 from rfl,← Nat.pow_mul]
theorem Aju:Sz 0 0:=⟨by omega,fun _=>rfl,fun h=>by omega⟩
theorem Amq{lo t s k:Nat}(hlo:lo < 2 ^ k)(ht:0 < t)(h:Sz t s):Sz (lo+2 ^ k*t) (k+s):=by
 obtain ⟨h1,_,h3⟩:=h
 obtain ⟨h4,h5⟩:=h3 ht
 have hk:0 < 2 ^ k:=Nat.pow_pos (by omega)
 refine ⟨?_,fun h=>?_,fun _=>⟨by omega,?_⟩⟩
 ·rw [Nat.pow_add]
  have:2 ^ k*(t+1)≤2 ^ k*2 ^ s:=Nat.mul_le_mul_left _ h1
  rw [Nat.mul_add] at this
  omega
 ·have:0 < 2 ^ k*t:=Nat.mul_pos hk ht
  omega
 ·rw [show k+s - 1=k+(s - 1) by omega,Nat.pow_add]
  have:2 ^ k*2 ^ (s - 1)≤2 ^ k*t:=Nat.mul_le_mul_left _ h5
  omega
theorem Yj{x:Int}(hx:0≤x∧x≤18446744073709551615):Sz x.toNat (Lib.bitLen x.toNat)∧Lib.bitLen x.toNat≤64:=by
 refine ⟨?_,Lib.bitLen_le _ 64 (by omega) (by omega)⟩
 unfold Lib.bitLen
 by_cases h:x.toNat=0
 ·rw [h,Lib.bitLenAux_zero]; exact Aju
 ·have:=Lib.bitLenAux_bounds 64 x.toNat (by omega) h
  exact ⟨this.2.2,fun h0=>absurd h0 h,fun _=>⟨this.1,this.2.1⟩⟩
theorem Amr(F:Nat){x:Int}(hx:0≤x∧x≤18446744073709551615):Dw F x=some ((Lib.bitLen x.toNat:Int),()):=by
 have:(leI 0 x && leI x 18446744073709551615)=true:=by simp only [Bool.and_eq_true,Bu]; omega
 simp only [Dw,this,cT]
theorem Aws{a b s t:Nat}(ha:Sz a s)(hb:Sz b t)(h0:0 < b)(h:t≤s):a < b*2 ^ (s - t+1)∧b*2 ^ (s - t) < 2 ^ s:=by
 obtain ⟨h1,_,_⟩:=ha
 obtain ⟨h2,_,h3⟩:=hb
 obtain ⟨h4,h5⟩:=h3 h0
 constructor
 ·have:2 ^ (t - 1)*2 ^ (s - t+1)≤b*2 ^ (s - t+1):=Nat.mul_le_mul_right _ h5
  rw [← Nat.pow_add,show t - 1+(s - t+1)=s by omega] at this
  omega
 ·have:b*2 ^ (s - t) < 2 ^ t*2 ^ (s - t):=Nat.mul_lt_mul_of_pos_right h2 (Nat.pow_pos (by omega))
  rw [← Nat.pow_add,show t+(s - t)=s by omega] at this
  exact this
theorem ArE{a b s t:Nat}(ha:Sz a s)(hb:Sz b t)(h:s < t):a < b:=by
 obtain ⟨h1,_,_⟩:=ha
 obtain ⟨h2,h3,h4⟩:=hb
 have h0:0 < b:=by
  rcases Nat.eq_zero_or_pos b with h | h
  ·have:=h3 h; omega
  ·exact h
 obtain ⟨h5,h6⟩:=h4 h0
 have:2 ^ s≤2 ^ (t - 1):=Nat.pow_le_pow_right (by omega) (by omega)
 omega
structure Dv (a b m r d Q:Nat):Prop where
 hd:d=b*2 ^ m / 2
 hr:r < b*2 ^ m
 he:Q*b+r=a
 hQ:Q % 2 ^ m=0
theorem Dv.start{a b n:Nat}(h:a < b*2 ^ (n+1)):Dv a b (n+1) a (b*2 ^ n) 0 :=
 ⟨by rw [Nat.pow_succ,← Nat.mul_assoc]; omega,h,by omega,by simp⟩
theorem Dv.done{a b r d Q:Nat}(h:Dv a b 0 r d Q):Q=a / b∧r=a % b:=by
 obtain ⟨_,hr,he,_⟩:=h
 rw [Nat.pow_zero,Nat.mul_one] at hr
 have hb:0 < b:=by omega
 rw [← he]
 constructor
 ·rw [Nat.mul_comm,Nat.mul_add_div hb,Nat.div_eq_of_lt hr]; rfl
 ·rw [Nat.mul_comm,Nat.mul_add_mod,Nat.mod_eq_of_lt hr]
theorem Dv.step{a b m r d Q:Nat}(h:Dv a b (m+1) r d Q):if d≤r then Dv a b m (r - d) (d / 2) (Q+2 ^ m) else Dv a b m r (d / 2) Q:=by
 obtain ⟨hd,hr,he,hQ⟩:=h
 have e1:b*2 ^ (m+1)=2*(b*2 ^ m):=by rw [Nat.pow_succ,← Nat.mul_assoc,Nat.mul_comm]
 rw [e1] at hd hr
 have hd:d=b*2 ^ m:=by omega
 have e2:Q % 2 ^ m=0:=by
  rw [Nat.pow_succ] at hQ
  have:=Nat.mod_mul_right_mod Q (2 ^ m) 2
  rw [hQ,Nat.zero_mod] at this
  exact this.symm
 split
 ·refine ⟨by rw [hd],by omega,?_,?_⟩
  ·rw [Nat.add_mul,Nat.mul_comm (2 ^ m) b,← hd]; omega
  ·rw [Nat.add_mod_right]; exact e2
 ·exact ⟨by rw [hd],by omega,he,e2⟩
theorem A3H{w:Int}(hw:0≤w∧w≤18446744073709551615){i:Nat}(hi:i < 64)(h:w.toNat % 2 ^ (i+1)=0) :
  orI .u64 w (Fs .u64 1 (i:Int))=w+((2 ^ i:Nat):Int)∧w+((2 ^ i:Nat):Int)≤18446744073709551615:=by
 have hp:2 ^ i < 2 ^ 64:=Nat.pow_lt_pow_right (by omega) hi
 have hp0:0 < 2 ^ i:=Nat.pow_pos (by omega)
 rw [Ir (by omega) (by omega),Int.toNat_natCast,Nat.min_eq_left (by omega)]
 rw [show(1:Int).toNat*2 ^ i % 2 ^ 64=2 ^ i by rw [show(1:Int).toNat=1 from rfl,Nat.one_mul,Nat.mod_eq_of_lt hp]]
 rw [Na hw (by omega),Int.toNat_natCast]
 obtain ⟨c,hc⟩:=Nat.dvd_of_mod_eq_zero h
 have hlt:2 ^ i < 2 ^ (i+1):=by rw [Nat.pow_succ]; omega
 have e:=Nat.two_pow_add_eq_or_of_lt hlt c
 rw [← hc] at e
 rw [← e]
 refine ⟨by omega,?_⟩
 have h64:(2:Nat) ^ 64=2 ^ (i+1)*2 ^ (64 - (i+1)):=by rw [← Nat.pow_add]; congr 1; omega
 have hw2:w.toNat < 2 ^ 64:=by omega
 rw [hc,h64] at hw2
 have hc2:c < 2 ^ (64 - (i+1)):=Nat.lt_of_mul_lt_mul_left hw2
 have:2 ^ (i+1)*(c+1)≤2 ^ (i+1)*2 ^ (64 - (i+1)):=Nat.mul_le_mul_left _ hc2
 rw [← h64,Nat.mul_add] at this
 omega
def Asm(l:List Int)(i:Nat):List Int:=B6 l ((i / 64:Nat):Int) (orI .u64 (Ak 0 l ((i / 64:Nat):Int)) (Fs .u64 1 ((i % 64:Nat):Int)))
theorem Ajv:∀ {l:List Int} {i:Nat},Wd l→i / 64 < l.length→wv l % 2 ^ (i+1)=0→Wd (Asm l i)∧(Asm l i).length=l.length∧wv (Asm l i)=wv l+2 ^ i
 | [],i,_,h,_=>by simp at h
 | x::t,i,hw,hl,hm=>by
  have hx:=Wd.head hw
  by_cases hi:i < 64
  ·have e0:i / 64=0:=by omega
   have e1:i % 64=i:=by omega
   have hp:2 ^ (i+1) ∣ 18446744073709551616:=by
    rw [show(18446744073709551616:Nat)=2 ^ 64 from rfl]; exact Nat.pow_dvd_pow 2 (by omega)
   have hxm:x.toNat % 2 ^ (i+1)=0:=by
    simp only [wv] at hm
    obtain ⟨c,hc⟩:=hp
    rw [hc,Nat.mul_assoc,Nat.add_mul_mod_self_left] at hm
    exact hm
   obtain ⟨h1,h2⟩:=A3H hx hi hxm
   have hp0:0 < 2 ^ i:=Nat.pow_pos (by omega)
   have es:Asm (x::t) i=(x+((2 ^ i:Nat):Int))::t:=by
    unfold Asm
    rw [e0,e1,show Ak 0 (x::t) ((0:Nat):Int)=x from rfl,h1]
    rfl
   rw [es]
   refine ⟨Wd.cons (by omega) (Wd.tail hw),rfl,?_⟩
   simp only [wv]
   omega
  ·obtain ⟨j,rfl⟩:∃ j,i=j+64:=⟨i - 64,by omega⟩
   have e0:(j+64) / 64=j / 64+1:=by omega
   have e1:(j+64) % 64=j % 64:=by omega
   have e2:(2:Nat) ^ (j+64+1)=18446744073709551616*2 ^ (j+1):=by
    rw [show j+64+1=64+(j+1) by omega,Nat.pow_add]
   have e3:(2:Nat) ^ (j+64)=18446744073709551616*2 ^ j:=by
    rw [Nat.add_comm,Nat.pow_add]
   simp only [wv] at hm
   rw [e2,Nat.mod_mul] at hm
   have hb:(x.toNat+18446744073709551616*wv t) / 18446744073709551616=wv t:=by omega
   rw [hb] at hm
   have hm:wv t % 2 ^ (j+1)=0:=by omega
   obtain ⟨h1,h2,h3⟩:=Ajv (l:=t) (i:=j) (Wd.tail hw) (by simp at hl; omega) hm
   have es:Asm (x::t) (j+64)=x::Asm t j:=by
    unfold Asm
    rw [e0,e1]
    simp only [B6,Ak,Int.toNat_natCast,List.set_cons_succ,List.getD_cons_succ]
   rw [es]
   refine ⟨Wd.cons hx h1,by simp [h2],?_⟩
   simp only [wv,h3,e3]
   omega
theorem AuG{v n:Nat}{l:List Int}(h:l=ofn v)(hn:l.length=n+1):0 < Ak 0 l (n:Int):=by
 subst h
 have hw:=Hn v
 have hg:=Wd.get hw (n:Int)
 rcases Int.lt_or_le 0 (Ak 0 (ofn v) (n:Int)) with h | h
 ·exact h
 ·exfalso
  have h0:(ofn v).getD n 0=0:=by have:=C4 0 (ofn v) n; omega
  have e1:(ofn v)=(ofn v).take n++[(ofn v).getD n 0]:=by
   rw [← T0 (by omega),List.take_of_length_le (by omega)]
  have e2:=congrArg wv e1
  rw [Fd,B5,h0] at e2
  have e3:=Tz (Wd.take hw n)
  rw [List.length_take,Nat.min_eq_left (by omega)] at e3
  simp [wv] at e2
  have e4:=(Dn (v:=v) (n:=n)).2 (by omega)
  omega
theorem Xd(F:Nat){v:Nat}(hl:(ofn v).length≤1000):∃ s:Nat,Sz v s∧s≤64*(ofn v).length∧O1 F (ofn v)=some ((s:Int),()):=by
 by_cases h0:(ofn v).length=0
 ·have:=Afq.1 h0
  subst this
  refine ⟨0,Aju,by omega,?_⟩
  unfold O1
  simp (disch:=omega) only [bs,↓iP,↓iN]
  rfl
 ·obtain ⟨n,hn⟩:∃ n,(ofn v).length=n+1:=⟨_,(Nat.succ_pred_eq_of_pos (by omega)).symm⟩
  have hw:=Hn v
  have hg:=Wd.get hw (n:Int)
  have hpos:=AuG rfl hn
  obtain ⟨h1,h2⟩:=Yj hg
  have e1:(ofn v)=(ofn v).take n++[Ak 0 (ofn v) (n:Int)]:=by
   rw [C4,← T0 (by omega),List.take_of_length_le (by omega)]
  have e2:=congrArg wv e1
  have e3:=Tz (Wd.take hw n)
  rw [List.length_take,Nat.min_eq_left (by omega)] at e3
  rw [Fd,B5,List.length_take,Nat.min_eq_left (by omega)] at e2
  simp only [wv,Nat.mul_zero,Nat.add_zero] at e2
  rw [p64] at e2 e3
  refine ⟨64*n+Lib.bitLen (Ak 0 (ofn v) (n:Int)).toNat,?_,by omega,?_⟩
  ·have:=Amq e3 (by omega) h1
   rw [← e2] at this
   exact this
  ·unfold O1
   have hc:((ofn v).length:Int) - 1=(n:Int):=by omega
   simp (disch:=omega) only [bs,↓iP,↓iN,hc,Amr F hg]
   simp only [Int.natCast_add,Int.natCast_mul]
   rfl
theorem ArF{x:Int}(hx:0≤x∧x≤18446744073709551615){r c:Nat}(hr:r < 64)(hc:c < 2 ^ r) :
  orI .u64 (c:Int) (Fs .u64 x (r:Int))=((c+x.toNat*2 ^ r % 18446744073709551616:Nat):Int)∧c+x.toNat*2 ^ r % 18446744073709551616 < 18446744073709551616:=by
 have h64:(18446744073709551616:Nat)=2 ^ r*2 ^ (64 - r):=by rw [← Nat.pow_add,show r+(64 - r)=64 by omega]
 have hm:x.toNat*2 ^ r % 18446744073709551616=2 ^ r*(x.toNat % 2 ^ (64 - r)):=by
  rw [h64,Nat.mul_comm x.toNat,Nat.mul_mod_mul_left]
 have hp:2 ^ r < 2 ^ 64:=Nat.pow_lt_pow_right (by omega) hr
 have hlt:x.toNat % 2 ^ (64 - r) < 2 ^ (64 - r):=Nat.mod_lt _ (Nat.pow_pos (by omega))
 have hsum:c+x.toNat*2 ^ r % 18446744073709551616 < 18446744073709551616:=by
  rw [hm]
  have:2 ^ r*(x.toNat % 2 ^ (64 - r)+1)≤2 ^ r*2 ^ (64 - r):=Nat.mul_le_mul_left _ hlt
  rw [← h64,Nat.mul_add] at this
  omega
 refine ⟨?_,hsum⟩
 rw [Ir hx.1 (by omega),Int.toNat_natCast,Nat.min_eq_left (by omega),show(2:Nat) ^ 64=18446744073709551616 from rfl]
 rw [Na (by omega) (by omega),Int.toNat_natCast,Int.toNat_natCast,hm,Nat.or_comm,← Nat.two_pow_add_eq_or_of_lt hc]
 omega
theorem AfD{x:Int}(hx:0≤x∧x≤18446744073709551615){r:Nat}(hr:r < 64) :
  x.toNat*2 ^ r / 18446744073709551616 < 2 ^ r∧(0 < r→D6 .u64 x ((64 - r:Nat):Int)=((x.toNat*2 ^ r / 18446744073709551616:Nat):Int)):=by
 have h64:(18446744073709551616:Nat)=2 ^ (64 - r)*2 ^ r:=by rw [← Nat.pow_add,show 64 - r+r=64 by omega]
 have e:x.toNat*2 ^ r / 18446744073709551616=x.toNat / 2 ^ (64 - r):=by
  rw [h64,Nat.mul_div_mul_right _ _ (Nat.pow_pos (by omega))]
 rw [e]
 constructor
 ·rw [Nat.div_lt_iff_lt_mul (Nat.pow_pos (by omega)),Nat.mul_comm,← h64]
  omega
 ·intro h0
  rw [Ho hx.1,Int.toNat_natCast,Nat.min_eq_left (by show 64 - r≤64; omega)]
theorem ArG(d:List Int)(x y z w:Int)(t:List Int):B6 (B6 (d++x::y::t) (d.length:Int) z) ((d.length:Int)+1) w=(d++[z])++w::t:=by
 rw [Gw,show(d.length:Int)+1=((d++[z]).length:Int) by simp,Gw]
 simp
theorem A3I{wp P c lo hi B X A x W R:Nat}(hinv:wp+P*c=X*(W*R))(hP:P=A*W)(hx:x*R=lo+B*hi) :
  wp+P*(c+lo)+P*B*hi=(X+A*x)*(W*R):=by
 rw [Nat.add_mul,Nat.mul_mul_mul_comm A x W R,← hP,hx,← hinv,Nat.mul_add,Nat.mul_add,Nat.mul_assoc]
 omega
theorem A03{x:Int}(hx:0≤x∧x≤18446744073709551615):orI .u64 0 x=x:=by
 rw [Na (by omega) hx]
 simp only [show(0:Int).toNat=0 from rfl,Nat.zero_or]
 omega
set_option maxHeartbeats 4000000 in
theorem A04(F:Nat){R:Type}(k:List Int→Option R){a:List Int}(ha:Wd a){w r:Nat}(hr:r < 64)(hsz:(a.length:Int)+w≤100000)(x1:Int)
  (hq:Hi .i64 x1 64=(w:Int)) (hm:Iw x1 64=(r:Int)) :
  ∀ (xb xa p:List Int) (c:Nat),a=xa++xb→p.length=xa.length+w→c < 2 ^ r→Wd p→wv p+18446744073709551616 ^ p.length*c=wv xa*(2 ^ (64*w)*2 ^ r) →
   ∀ N,xb.length < N→∃ o:List Int,Wd o∧o.length=a.length+w+1∧wv o=wv a*(2 ^ (64*w)*2 ^ r) ∧
    Kk F k N a x1 (p++(c:Int)::List.replicate xb.length 0) (xa.length:Int)=k o:=by
 have h2r:2 ^ r < 2 ^ 64:=Nat.pow_lt_pow_right (by omega) hr
 intro xb
 induction xb with
 | nil =>
  intro xa p c he hp hc hw hi N hN
  obtain ⟨N,rfl⟩:∃ M,N=M+1:=⟨N - 1,by omega⟩
  rw [List.append_nil] at he
  subst he
  refine ⟨p++[(c:Int)],Wd.append hw (Wd.one (by omega)),by simp [hp],by rw [B5]; simp only [wv,Int.toNat_natCast,Nat.mul_zero,Nat.add_zero]; exact hi,?_⟩
  unfold Kk
  simp (disch:=omega) only [bs,↓iP,↓iN]
  rfl
 | cons x t ih =>
  intro xa p c he hp hc hw hi N hN
  obtain ⟨N,rfl⟩:∃ M,N=M+1:=⟨N - 1,by omega⟩
  have hx:0≤x∧x≤18446744073709551615:=ha x (by rw [he]; simp)
  have hal:a.length=xa.length+(t.length+1):=by rw [he]; simp
  obtain ⟨o1,o2⟩:=ArF hx hr hc
  obtain ⟨s1,s2⟩:=AfD hx hr
  have hdm:=Nat.mod_add_div (x.toNat*2 ^ r) 18446744073709551616
  have hdiv:=Nat.div_add_mod (x.toNat*2 ^ r) 18446744073709551616
  generalize x.toNat*2 ^ r % 18446744073709551616=lo at *
  generalize x.toNat*2 ^ r / 18446744073709551616=hi' at *
  obtain ⟨o,h1,h2,h3,h4⟩:=ih (xa++[x]) (p++[((c+lo:Nat):Int)]) hi' (by rw [he]; simp) (by simp; omega) s1 (Wd.append hw (Wd.one (by omega))) (by
   rw [B5,B5]
   simp only [wv,Int.toNat_natCast,Nat.mul_zero,Nat.add_zero,List.length_append,List.length_singleton,Nat.pow_succ]
   refine A3I hi ?_ hdm.symm
   rw [hp,Nat.pow_add,p64 w]) N (by simp at hN; omega)
  refine ⟨o,h1,h2,h3,?_⟩
  have hcast:((xa++[x]).length:Int)=(xa.length:Int)+1:=by simp
  rw [hcast] at h4
  have hg:Ak 0 a (xa.length:Int)=x:=by rw [he]; exact Cb _ _ _
  have hpw:(xa.length:Int)+(w:Int)=(p.length:Int):=by omega
  have hwr:IntKind.u64.wrap (r:Int)=(r:Int):=Bk (by omega)
  have hlen:(p++(c:Int)::List.replicate (t.length+1) (0:Int)).length=p.length+(t.length+2):=by simp
  rw [List.length_cons]
  unfold Kk
  rw [hq,hm]
  by_cases h0:0 < r
  ·have hwr2:IntKind.u64.wrap (64 - (r:Int))=((64 - r:Nat):Int):=by rw [Bk (by omega)]; omega
   have s3:=s2 h0
   simp (disch:=omega) only [bs,↓iP,↓iN,hg,hpw,hwr,hwr2]
   rw [List.replicate_succ]
   rw [Cb,o1,Y7,s3,A03 (by omega),ArG]
   exact h4
  ·have hr0:r=0:=by omega
   subst hr0
   have hh:hi'=0:=by omega
   subst hh
   simp (disch:=omega) only [bs,↓iP,↓iN,hg,hpw,hwr]
   rw [List.replicate_succ]
   rw [Cb,o1,Gw]
   exact h4
theorem A7D(F:Nat)(hF:A4 F){v n:Nat}(hv:(ofn v).length≤1000)(hn:n≤10000):Z5 F (ofn v) (n:Int)=some (ofn (v*2 ^ n),()):=by
 have hF':=hF
 unfold A4 at hF'
 have hq:Hi .i64 (n:Int) 64=((n / 64:Nat):Int):=by rw [Uk (by omega) (by omega) (by omega)]; omega
 have hm:Iw (n:Int) 64=((n % 64:Nat):Int):=by rw [Qi (by omega)]; omega
 obtain ⟨o,h1,h2,h3,h4⟩:=A04 F (fun z32=>(Kj F z32).bind fun r33=>some (r33.1,())) (Hn v) (w:=n / 64) (r:=n % 64) (by omega) (by omega) (n:Int) hq hm
  (ofn v) [] (List.replicate (n / 64) 0) 0 rfl (by simp) (Nat.pow_pos (by omega)) (fun x hx=>by rw [List.eq_of_mem_replicate hx]; omega) (by rw [Afs]; simp [wv]) F (by omega)
 unfold Z5
 rw [hq]
 simp (disch:=omega) only [bs,↓iP,↓iN]
 have er:Cc (((ofn v).length:Int)+((n / 64:Nat):Int)+1) (0:Int)=List.replicate (n / 64) 0++((0:Nat):Int)::List.replicate (ofn v).length 0:=by
  rw [show((0:Nat):Int)::List.replicate (ofn v).length (0:Int)=List.replicate ((ofn v).length+1) 0 by rw [List.replicate_succ]; rfl,List.replicate_append_replicate]
  unfold Cc
  congr 1
  omega
 rw [er]
 refine Eq.trans h4 ?_
 simp (disch:=omega) only [bs,↓iP,↓iN,Ama F hF h1 (by omega)]
 rw [h3,Fd,← Nat.pow_add,show 64*(n / 64)+n % 64=n by omega]
def Za:Nat:=18446744073709551616 ^ 8
theorem Ams{s k:Nat}(h:s≤64*k):2 ^ s≤18446744073709551616 ^ k:=by
 rw [p64]
 exact Nat.pow_le_pow_right (by omega) h
theorem A4h{v:Nat}(h:v < Za):(ofn v).length≤8:=Ce h
theorem Ajw(F:Nat)(hF:A4 F){R:Type}(k2:List Int→List Int→Option R){a b:Nat} :
  ∀ (m r d Q:Nat) (x6:List Int),Dv a b m r d Q→Wd x6→wv x6=Q→m≤64*x6.length→x6.length≤1000→r < Za→d < Za →
   ∀ N,m < N→∃ o:List Int,Wd o∧o.length=x6.length∧wv o=a / b∧Er F k2 N x6 (ofn r) (ofn d) ((m:Int) - 1)=k2 o (ofn (a % b)):=by
 intro m
 induction m with
 | zero =>
  intro r d Q x6 h hw he hm hl h1 h2 N hN
  obtain ⟨N,rfl⟩:∃ M,N=M+1:=⟨N - 1,by omega⟩
  obtain ⟨e1,e2⟩:=h.done
  refine ⟨x6,hw,rfl,by rw [he,e1],?_⟩
  unfold Er
  simp (disch:=omega) only [bs,↓iP,↓iN,e2]
 | succ m ih =>
  intro r d Q x6 h hw he hm hl h1 h2 N hN
  obtain ⟨N,rfl⟩:∃ M,N=M+1:=⟨N - 1,by omega⟩
  have hs:=h.step
  have l1:=A4h h1
  have l2:=A4h h2
  have hd2:d / 2 < Za:=by omega
  have ei:((m+1:Nat):Int) - 1=(m:Int):=by omega
  rw [ei]
  have hq:Hi .i64 (m:Int) 64=((m / 64:Nat):Int):=by rw [Uk (by omega) (by omega) (by omega)]; omega
  have hmm:Iw (m:Int) 64=((m % 64:Nat):Int):=by rw [Qi (by omega)]; omega
  have hwr:IntKind.u64.wrap ((m % 64:Nat):Int)=((m % 64:Nat):Int):=Bk (by omega)
  unfold Er
  rw [hq,hmm,hwr,Ya F hF (by omega) (by omega)]
  have hc:leI 0 (Amb r d)=decide (d≤r):=by
   unfold leI Amb
   apply decide_eq_decide.2
   split <;> (try split) <;> omega
  simp only [bS,hc]
  by_cases hdr:d≤r
  ·rw [iP hdr] at hs
   have hle:(ofn d).length≤(ofn r).length:=Dn.2 (Nat.lt_of_le_of_lt hdr (Dn.1 (Nat.le_refl _)))
   obtain ⟨b1,b2,b3⟩:=Ajv hw (i:=m) (by omega) (by rw [he]; exact h.hQ)
   obtain ⟨o,g1,g2,g3,g4⟩:=ih (r - d) (d / 2) (Q+2 ^ m) (Asm x6 m) hs b1 (by rw [b3,he]) (by omega) (by omega) (by omega) hd2 N (by omega)
   refine ⟨o,g1,by omega,g3,?_⟩
   refine Eq.trans ?_ g4
   rw [decide_eq_true hdr,AzU F hF (Hn r) (Hn d) hle (by omega) (by rw [Fd,Fd]; exact hdr),Fd,Fd]
   simp (disch:=omega) only [bs,↓iP,↓iN,Are F hF (Hn d) (by omega),Fd]
   rfl
  ·rw [iN hdr] at hs
   obtain ⟨o,g1,g2,g3,g4⟩:=ih r (d / 2) Q x6 hs hw he (by omega) hl h1 hd2 N (by omega)
   refine ⟨o,g1,g2,g3,?_⟩
   refine Eq.trans ?_ g4
   rw [decide_eq_false hdr]
   simp (disch:=omega) only [bs,↓iP,↓iN,Are F hF (Hn d) (by omega),Fd]
theorem AbI(F:Nat)(hF:A4 F){a b:Nat}(hb:0 < b)(ha:a < Za)(hbl:b < Za) :
  Ks F (ofn a) (ofn b)=some (ofn (a / b),ofn (a % b),()):=by
 have l1:=A4h ha
 have l2:=A4h hbl
 have hF':=hF
 unfold A4 at hF'
 by_cases h1:(ofn b).length=1
 ·have hlt:b < 18446744073709551616:=by have:=Awk (v:=b) (n:=1) (by omega); rw [Nat.pow_one] at this; exact this
  have ob:ofn b=[(b:Int)]:=by
   rw [X9 (by omega),Nat.div_eq_of_lt hlt,Lv,Nat.mod_eq_of_lt hlt]
  rw [ob,AnJ F hF (Hn _) (by omega) (by omega),Fd,Int.toNat_natCast]
 ·unfold Ks
  obtain ⟨s,hs,hsl,es⟩:=Xd F (v:=a) (by omega)
  obtain ⟨t,ht,htl,et⟩:=Xd F (v:=b) (by omega)
  have ht1:=(ht.2.2 hb).1
  have etr:C2 F ([]++ofn a)=some (ofn a,()):=by
   rw [List.nil_append,Ps F hF (Hn a) (by omega),Fd]
  have hne:¬ (((ofn b).length:Int)=1):=by omega
  by_cases hst:s < t
  ·have hlt:=ArE hs ht hst
   simp (disch:=omega) only [bs,↓iP,↓iN,etr,es,et]
   rw [Nat.div_eq_of_lt hlt,Nat.mod_eq_of_lt hlt,Lv]
  ·obtain ⟨c1,c2⟩:=Aws hs ht hb (by omega)
   have hst2:(s:Int) - (t:Int)=((s - t:Nat):Int):=by omega
   have h8:b*2 ^ (s - t) < Za:=by
    exact Nat.lt_of_lt_of_le c2 (Ams (k:=8) (by omega))
   obtain ⟨o,g1,g2,g3,g4⟩:=Ajw F hF (fun z39 z40=>(C2 F z39).bind fun r41=>some (r41.1,(z40,()))) (s - t+1) a (b*2 ^ (s - t)) 0 (Cc ((ofn a).length:Int) (0:Int)) (Dv.start c1) (Wd.repl _) (by unfold Cc; exact Afs _) (by simp [Cc]; omega) (by simp [Cc]; omega) ha h8 F (by omega)
   have e1:((s - t+1:Nat):Int) - 1=((s - t:Nat):Int):=by omega
   rw [e1] at g4
   simp (disch:=omega) only [bs,↓iP,↓iN,etr,es,et,hst2,A7D F hF (v:=b) (n:=s - t) (by omega) (by omega)]
   refine Eq.trans g4 ?_
   have:(Cc ((ofn a).length:Int) (0:Int)).length=(ofn a).length:=by simp [Cc]
   simp (disch:=omega) only [bs,↓iP,↓iN,Ps F hF g1 (by omega)]
   rw [g3]
theorem AuH{l:List Int}(hw:Wd l)(h:l.length=4):∃ a b c d:Int,l=[a,b,c,d]∧(0≤a∧a≤18446744073709551615)∧(0≤b∧b≤18446744073709551615)∧(0≤c∧c≤18446744073709551615)∧(0≤d∧d≤18446744073709551615):=by
 match l,h with
 | [a,b,c,d],_=>exact ⟨a,b,c,d,rfl,hw a (by simp),hw b (by simp),hw c (by simp),hw d (by simp)⟩
theorem wd4{a b c d:Int}(h0:0≤a∧a≤18446744073709551615)(h1:0≤b∧b≤18446744073709551615)(h2:0≤c∧c≤18446744073709551615)(h3:0≤d∧d≤18446744073709551615):Wd [a,b,c,d] :=
 Wd.cons h0 (Wd.cons h1 (Wd.cons h2 (Wd.one h3)))
theorem wv4(a b c d:Int):wv [a,b,c,d]=a.toNat+18446744073709551616*(b.toNat+18446744073709551616*(c.toNat+18446744073709551616*d.toNat)):=by
 simp only [wv]
 omega
theorem g0(a b c d:Int):Ak 0 [a,b,c,d] 0=a:=rfl
theorem g1(a b c d:Int):Ak 0 [a,b,c,d] 1=b:=rfl
theorem g2(a b c d:Int):Ak 0 [a,b,c,d] 2=c:=rfl
theorem g3(a b c d:Int):Ak 0 [a,b,c,d] 3=d:=rfl
theorem A7E(a b c d x:Int):B6 [a,b,c,d] 0 x=[x,b,c,d]:=rfl
theorem A4i(a b c d x:Int):B6 [a,b,c,d] 1 x=[a,x,c,d]:=rfl
theorem A3J(a b c d x:Int):B6 [a,b,c,d] 2 x=[a,b,x,d]:=rfl
theorem A0g(a b c d x:Int):B6 [a,b,c,d] 3 x=[a,b,c,x]:=rfl
theorem l4(a b c d:Int):(([a,b,c,d]:List Int).length:Int)=4:=rfl
def A7F(x y:Int):Int:=if x < y then -1 else if y < x then 1 else 0
theorem AuI(F:Nat)(x y:Int):Di F x y=some (A7F x y,()):=by
 unfold Di Kc A7F
 simp (disch:=omega) only [bs,↓iP,↓iN]
 split <;> (try split) <;> rfl
theorem Yk(F:Nat){R:Type}(k0 kr:Int→Option R)(l:List Int){i:Int}(hi:0≤i)(h:i < (l.length:Int))(hm:(l.length:Int)≤1000)(N:Nat) :
  D7 F k0 kr (N+1) 0 l (l.length:Int) i=if Ak 0 l i=0 then D7 F k0 kr N 0 l (l.length:Int) (i+1) else kr (Ak 0 l i):=by
 rw [D7]
 simp (disch:=omega) only [bs,↓iP,↓iN]
 by_cases hz:Ak 0 l i=0
 ·rw [iP hz]; simp (disch:=omega) only [bs,↓iP,↓iN]
 ·rw [iN hz]; simp (disch:=omega) only [bs,↓iP,↓iN]
theorem A7G(F:Nat)(hF:A4 F)(p q r s:Int):Nb F [p,q,r,s]=some (if p=0 then(if q=0 then(if r=0 then s else r) else q) else p,()):=by
 unfold A4 at hF
 obtain ⟨N,hN⟩:∃ N,F=N+1+1+1+1+1:=⟨F - 5,by omega⟩
 unfold Nb
 have key:∀ M,M=N+1+1+1+1+1→D7 F (fun z6=>some (z6,())) (fun z7=>some (z7,())) M 0 [p,q,r,s] (([p,q,r,s]:List Int).length:Int) 0=some (if p=0 then(if q=0 then(if r=0 then s else r) else q) else p,()):=by
  intro M hM
  subst hM
  rw [Yk F _ _ _ (by omega) (by rw [l4]; omega) (by rw [l4]; omega),g0]
  split
  ·rw [show(0:Int)+1=1 from rfl,Yk F _ _ _ (by omega) (by rw [l4]; omega) (by rw [l4]; omega),g1]
   split
   ·rw [show(1:Int)+1=2 from rfl,Yk F _ _ _ (by omega) (by rw [l4]; omega) (by rw [l4]; omega),g2]
    split
    ·rw [show(2:Int)+1=3 from rfl,Yk F _ _ _ (by omega) (by rw [l4]; omega) (by rw [l4]; omega),g3]
     split
     ·rename_i h
      rw [show(3:Int)+1=4 from rfl,D7,l4,h]
      simp (disch:=omega) only [bs,↓iP,↓iN]
     ·rfl
    ·rfl
   ·rfl
  ·rfl
 exact key F hN
theorem Pt(F:Nat)(hF:A4 F){l m:List Int}(hl:Wd l)(hm:Wd m)(h4:l.length=4)(h5:m.length=4):Ku F l m=some (Amb (wv l) (wv m),()):=by
 obtain ⟨a,b,c,d,rfl,ha,hb,hc,hd⟩:=AuH hl h4
 obtain ⟨a',b',c',d',rfl,ha',hb',hc',hd'⟩:=AuH hm h5
 unfold Ku
 simp only [g0,g1,g2,g3,AuI,bS,A7G F hF,wv4]
 congr 2
 unfold A7F Amb
 rcases Int.lt_trichotomy d d' with h | h | h
 ·rw [iN (by rw [iP h]; omega),iP h,iP (by omega)]
 ·rw [iP (by rw [iN (by omega),iN (by omega)])]
  subst h
  rcases Int.lt_trichotomy c c' with h | h | h
  ·rw [iN (by rw [iP h]; omega),iP h,iP (by omega)]
  ·rw [iP (by rw [iN (by omega),iN (by omega)])]
   subst h
   rcases Int.lt_trichotomy b b' with h | h | h
   ·rw [iN (by rw [iP h]; omega),iP h,iP (by omega)]
   ·rw [iP (by rw [iN (by omega),iN (by omega)])]
    subst h
    split <;> (try split) <;> (try split) <;> (try split) <;> omega
   ·rw [iN (by rw [iN (by omega),iP h]; omega),iN (by omega),iP h,iN (by omega),iP (by omega)]
  ·rw [iN (by rw [iN (by omega),iP h]; omega),iN (by omega),iP h,iN (by omega),iP (by omega)]
 ·rw [iN (by rw [iN (by omega),iP h]; omega),iN (by omega),iP h,iN (by omega),iP (by omega)]
theorem AuJ(F:Nat){x y c:Int}(hx:0≤x)(hy:0≤y∧y≤18446744073709551615)(hc:0≤c∧c≤1) :
  Jl F x y c=some ((x - y - c) % 18446744073709551616,if x < y+c then 1 else 0,()):=by
 unfold Jl
 have hcond:(leI 0 x && leI 0 y && leI y 18446744073709551615 && leI 0 c && leI c 1)=true:=by simp only [Bool.and_eq_true,Bu]; omega
 rw [hcond,cT]
theorem Aag(F:Nat){R:Type}(k:List Int→Option R)(l m o:List Int){i c:Int}(hi:0≤i∧i < 4)(hx:0≤Ak 0 l i)(hy:0≤Ak 0 m i∧Ak 0 m i≤18446744073709551615)(hc:0≤c∧c≤1)(N:Nat) :
  I7 F k (N+1) l m o c i=I7 F k N l m (B6 o i ((Ak 0 l i - Ak 0 m i - c) % 18446744073709551616)) (if Ak 0 l i < Ak 0 m i+c then 1 else 0) (i+1):=by
 rw [I7]
 simp (disch:=omega) only [bs,↓iP,↓iN,AuJ F hx hy hc]
theorem Zb(x:Int):0≤x % 18446744073709551616∧x % 18446744073709551616≤18446744073709551615:=by omega
theorem A3K{a b c d:Int}(h0:0≤a∧a≤18446744073709551615)(h1:0≤b∧b≤18446744073709551615)(h2:0≤c∧c≤18446744073709551615)(h3:0≤d∧d≤18446744073709551615) :
  ((wv [a,b,c,d]:Nat):Int)=a+18446744073709551616*b+340282366920938463463374607431768211456*c+6277101735386680763835789423207666416102355444464034512896*d:=by
 rw [wv4]; omega
theorem A05{a b c d a' b' c' d' r1 r2 r3 r4 c1 c2 c3 c4:Int}(k1:r1=a - a'+18446744073709551616*c1)(k2:r2=b - b' - c1+18446744073709551616*c2)(k3:r3=c - c' - c2+18446744073709551616*c3)(k4:r4=d - d' - c3+18446744073709551616*c4)
  (h1:0≤r1∧r1≤18446744073709551615) (h2:0≤r2∧r2≤18446744073709551615) (h3:0≤r3∧r3≤18446744073709551615) (h4:0≤r4∧r4≤18446744073709551615) (b4:0≤c4∧c4≤1)
  (hV:a'+18446744073709551616*b'+340282366920938463463374607431768211456*c'+6277101735386680763835789423207666416102355444464034512896*d'≤a+18446744073709551616*b+340282366920938463463374607431768211456*c+6277101735386680763835789423207666416102355444464034512896*d) :
  r1+18446744073709551616*r2+340282366920938463463374607431768211456*r3+6277101735386680763835789423207666416102355444464034512896*r4=(a+18446744073709551616*b+340282366920938463463374607431768211456*c+6277101735386680763835789423207666416102355444464034512896*d) - (a'+18446744073709551616*b'+340282366920938463463374607431768211456*c'+6277101735386680763835789423207666416102355444464034512896*d'):=by
 have hs:r1+18446744073709551616*r2+340282366920938463463374607431768211456*r3+6277101735386680763835789423207666416102355444464034512896*r4=(a+18446744073709551616*b+340282366920938463463374607431768211456*c+6277101735386680763835789423207666416102355444464034512896*d) - (a'+18446744073709551616*b'+340282366920938463463374607431768211456*c'+6277101735386680763835789423207666416102355444464034512896*d')+115792089237316195423570985008687907853269984665640564039457584007913129639936*c4:=by
  clear h1 h2 h3 h4 b4 hV
  omega
 have hb:r1+18446744073709551616*r2+340282366920938463463374607431768211456*r3+6277101735386680763835789423207666416102355444464034512896*r4 < 115792089237316195423570985008687907853269984665640564039457584007913129639936:=by
  clear k1 k2 k3 k4 hV hs
  omega
 clear k1 k2 k3 k4 h1 h2 h3 h4
 generalize a+18446744073709551616*b+340282366920938463463374607431768211456*c+6277101735386680763835789423207666416102355444464034512896*d=V at *
 generalize a'+18446744073709551616*b'+340282366920938463463374607431768211456*c'+6277101735386680763835789423207666416102355444464034512896*d'=V' at *
 generalize r1+18446744073709551616*r2+340282366920938463463374607431768211456*r3+6277101735386680763835789423207666416102355444464034512896*r4=R at *
 omega
theorem Ajx(p:Prop)[Decidable p]:0≤(if p then(1:Int) else 0)∧(if p then(1:Int) else 0)≤1:=by split <;> omega
theorem Ajy(F:Nat)(hF:A4 F){l m:List Int}(hl:Wd l)(hm:Wd m)(h4:l.length=4)(h5:m.length=4)(h:wv m≤wv l):Wt F l m=some (Tf (wv l - wv m),()):=by
 obtain ⟨a,b,c,d,rfl,ha,hb,hc,hd⟩:=AuH hl h4
 obtain ⟨a',b',c',d',rfl,ha',hb',hc',hd'⟩:=AuH hm h5
 unfold A4 at hF
 obtain ⟨N,hN⟩:∃ N,F=N+1+1+1+1+1:=⟨F - 5,by omega⟩
 unfold Wt
 have key:∀ M,M=N+1+1+1+1+1→I7 F (fun z7=>some (z7,())) M [a,b,c,d] [a',b',c',d'] [0,0,0,0] 0 0=some (Tf (wv [a,b,c,d] - wv [a',b',c',d']),()):=by
  intro M hM
  subst hM
  rw [Aag F _ _ _ _ (by omega) (by rw [g0]; omega) (by rw [g0]; omega) (by omega)]
  rw [g0,g0,A7E,show(0:Int)+1=1 from rfl]
  rw [Aag F _ _ _ _ (by omega) (by rw [g1]; omega) (by rw [g1]; omega) (Ajx _)]
  rw [g1,g1,A4i,show(1:Int)+1=2 from rfl]
  generalize hc1:(if a < a'+0 then(1:Int) else 0)=c1
  rw [Aag F _ _ _ _ (by omega) (by rw [g2]; omega) (by rw [g2]; omega) (Ajx _)]
  rw [g2,g2,A3J,show(2:Int)+1=3 from rfl]
  generalize hc2:(if b < b'+c1 then(1:Int) else 0)=c2
  rw [Aag F _ _ _ _ (by omega) (by rw [g3]; omega) (by rw [g3]; omega) (Ajx _)]
  rw [g3,g3,A0g,show(3:Int)+1=4 from rfl]
  generalize hc3:(if c < c'+c2 then(1:Int) else 0)=c3
  generalize hc4:(if d < d'+c3 then(1:Int) else 0)=c4
  rw [I7]
  simp (disch:=omega) only [bs,↓iP,↓iN]
  have b1:0≤c1∧c1≤1:=by rw [← hc1]; exact Ajx _
  have b2:0≤c2∧c2≤1:=by rw [← hc2]; exact Ajx _
  have b3:0≤c3∧c3≤1:=by rw [← hc3]; exact Ajx _
  have b4:0≤c4∧c4≤1:=by rw [← hc4]; exact Ajx _
  congr 2
  refine Y8 ?_ (Lw _) ?_ ?_
  ·exact wd4 (by omega) (by omega) (by omega) (by omega)
  ·rw [Do]
   ·rfl
   ·have:=Tz hl
    rw [h4] at this
    show _ < 18446744073709551616 ^ 4
    omega
  ·rw [C0]
   have k1:(a - a' - 0) % 18446744073709551616=a - a'+18446744073709551616*c1:=by rw [← hc1]; clear hc1 hc2 hc3 hc4 h; split <;> omega
   have k2:(b - b' - c1) % 18446744073709551616=b - b' - c1+18446744073709551616*c2:=by rw [← hc2]; clear hc1 hc2 hc3 hc4 h; split <;> omega
   have k3:(c - c' - c2) % 18446744073709551616=c - c' - c2+18446744073709551616*c3:=by rw [← hc3]; clear hc1 hc2 hc3 hc4 h; split <;> omega
   have k4:(d - d' - c3) % 18446744073709551616=d - d' - c3+18446744073709551616*c4:=by rw [← hc4]; clear hc1 hc2 hc3 hc4 h; split <;> omega
   have hV:(wv [a',b',c',d']:Int)≤(wv [a,b,c,d]:Int):=by omega
   have e:=A05 k1 k2 k3 k4 (Zb _) (Zb _) (Zb _) (Zb _) b4 (by rw [← A3K ha hb hc hd,← A3K ha' hb' hc' hd']; exact hV)
   rw [← A3K ha hb hc hd,← A3K ha' hb' hc' hd',← A3K (Zb _) (Zb _) (Zb _) (Zb _)] at e
   omega
 exact key F hN
theorem Xe(F:Nat){R:Type}(k:List Int→Option R)(l o:List Int){i:Int}(hi:0≤i∧i < 4)(hx:Wd l)(N:Nat)(ho:o.length=4) :
  D8 F k (N+1) l o i=D8 F k N l (B6 o i (if i < 3 then Ak 0 l i / 2+Ak 0 l (i+1) % 2*9223372036854775808 else Ak 0 l i / 2)) (i+1):=by
 rw [D8]
 have h1:=hx.get i
 have h2:=hx.get (i+1)
 have hs:∀ x y:Int,B6 (B6 o i x) i y=B6 o i y:=fun x y=>by simp [B6]
 have hg:∀ x:Int,Ak 0 (B6 o i x) i=x:=by
  intro x
  have:i.toNat < o.length:=by omega
  simp [B6,Ak,this]
 by_cases h3:i < 3
 ·rw [iP h3]
  simp (disch:=omega) only [bs,↓iP,↓iN,hs,hg,J9]
 ·rw [iN h3]
  simp (disch:=omega) only [bs,↓iP,↓iN,A4f]
theorem Vd(F:Nat)(hF:A4 F){l:List Int}(hl:Wd l)(h4:l.length=4):Pj F l=some (Tf (wv l / 2),()):=by
 have hlt:=Tz hl
 rw [h4] at hlt
 obtain ⟨a,b,c,d,rfl,ha,hb,hc,hd⟩:=AuH hl h4
 unfold A4 at hF
 obtain ⟨N,hN⟩:∃ N,F=N+1+1+1+1+1:=⟨F - 5,by omega⟩
 unfold Pj
 have key:∀ M,M=N+1+1+1+1+1→D8 F (fun z14=>some (z14,())) M [a,b,c,d] [0,0,0,0] 0=some (Tf (wv [a,b,c,d] / 2),()):=by
  intro M hM
  subst hM
  rw [Xe F _ _ _ (by omega) hl _ rfl,show(0:Int)+1=1 from rfl,iP (by omega),g0,g1,A7E]
  rw [Xe F _ _ _ (by omega) hl _ rfl,show(1:Int)+1=2 from rfl,iP (by omega),g1,g2,A4i]
  rw [Xe F _ _ _ (by omega) hl _ rfl,show(2:Int)+1=3 from rfl,iP (by omega),g2,g3,A3J]
  rw [Xe F _ _ _ (by omega) hl _ rfl,show(3:Int)+1=4 from rfl,iN (by omega),g3,A0g]
  rw [D8]
  simp (disch:=omega) only [bs,↓iP,↓iN]
  congr 2
  refine Y8 ?_ (Lw _) ?_ ?_
  ·exact wd4 (by omega) (by omega) (by omega) (by omega)
  ·rw [Do]
   ·rfl
   ·show _ < 18446744073709551616 ^ 4
    omega
  ·rw [C0,wv4,wv4]
   omega
 exact key F hN
theorem S0(F:Nat){R:Type}(k0:Option R)(kr:Int→Option R)(l:List Int){i:Int}(hi:0≤i∧i < 4)(hx:Wd l)(N:Nat) :
  E9 F k0 kr (N+1) l i=if Ak 0 l i=0 then E9 F k0 kr N l (i - 1) else kr (64*i+(Lib.bitLen (Ak 0 l i).toNat:Int)):=by
 rw [E9]
 have h1:=hx.get i
 have h2:=(Yj h1).2
 by_cases hz:Ak 0 l i=0
 ·rw [iP hz]; simp (disch:=omega) only [bs,↓iP,↓iN]
 ·rw [iN hz]; simp (disch:=omega) only [bs,↓iP,↓iN,Amr F h1]
theorem Ve(F:Nat)(hF:A4 F){l:List Int}(hl:Wd l)(h4:l.length=4):∃ s:Nat,Sz (wv l) s∧s≤256∧Ph F l=some ((s:Int),()):=by
 obtain ⟨a,b,c,d,rfl,ha,hb,hc,hd⟩:=AuH hl h4
 unfold A4 at hF
 obtain ⟨N,hN⟩:∃ N,F=N+1+1+1+1+1:=⟨F - 5,by omega⟩
 unfold Ph
 have key:∀ M,M=N+1+1+1+1+1→∃ s:Nat,Sz (wv [a,b,c,d]) s∧s≤256∧E9 F (some (0,())) (fun z9=>some (z9,())) M [a,b,c,d] 3=some ((s:Int),()):=by
  intro M hM
  subst hM
  rw [S0 F _ _ _ (by omega) hl,g3,show(3:Int) - 1=2 from rfl]
  by_cases h3:d=0
  ·rw [iP h3,S0 F _ _ _ (by omega) hl,g2,show(2:Int) - 1=1 from rfl]
   by_cases h2:c=0
   ·rw [iP h2,S0 F _ _ _ (by omega) hl,g1,show(1:Int) - 1=0 from rfl]
    by_cases h1:b=0
    ·rw [iP h1,S0 F _ _ _ (by omega) hl,g0,show(0:Int) - 1=-1 from rfl]
     by_cases h0:a=0
     ·refine ⟨0,?_,by omega,?_⟩
      ·rw [wv4,h0,h1,h2,h3]; exact Aju
      ·rw [iP h0,E9]; simp (disch:=omega) only [bs,↓iP,↓iN]; rfl
     ·obtain ⟨z1,z2⟩:=Yj ha
      refine ⟨Lib.bitLen a.toNat,?_,by omega,?_⟩
      ·rw [wv4,h1,h2,h3]; simpa using z1
      ·rw [iN h0]; congr 2; omega
    ·obtain ⟨z1,z2⟩:=Yj hb
     refine ⟨64+Lib.bitLen b.toNat,?_,by omega,?_⟩
     ·rw [wv4,h2,h3]
      have:=Amq (lo:=a.toNat) (k:=64) (t:=b.toNat) (by omega) (by omega) z1
      simpa using this
     ·rw [iN h1]; congr 2
   ·obtain ⟨z1,z2⟩:=Yj hc
    refine ⟨128+Lib.bitLen c.toNat,?_,by omega,?_⟩
    ·rw [wv4,h3]
     have:=Amq (lo:=a.toNat+18446744073709551616*b.toNat) (k:=128) (t:=c.toNat) (by omega) (by omega) z1
     have e:a.toNat+18446744073709551616*(b.toNat+18446744073709551616*(c.toNat+18446744073709551616*(0:Int).toNat))=a.toNat+18446744073709551616*b.toNat+2 ^ 128*c.toNat:=by
      rw [show(0:Int).toNat=0 from rfl]; omega
     rw [e]; exact this
    ·rw [iN h2]; congr 2
  ·obtain ⟨z1,z2⟩:=Yj hd
   refine ⟨192+Lib.bitLen d.toNat,?_,by omega,?_⟩
   ·rw [wv4]
    have:=Amq (lo:=a.toNat+18446744073709551616*(b.toNat+18446744073709551616*c.toNat)) (k:=192) (t:=d.toNat) (by omega) (by omega) z1
    have e:a.toNat+18446744073709551616*(b.toNat+18446744073709551616*(c.toNat+18446744073709551616*d.toNat))=a.toNat+18446744073709551616*(b.toNat+18446744073709551616*c.toNat)+2 ^ 192*d.toNat:=by
     omega
    rw [e]; exact this
   ·rw [iN h3]; congr 2
 exact key F hN
def ArH(r:Nat)(x:Int):Nat:=x.toNat*2 ^ r % 18446744073709551616
def ArI(r:Nat)(x:Int):Nat:=x.toNat*2 ^ r / 18446744073709551616
theorem Amt(r:Nat)(x:Int):x.toNat*2 ^ r=ArH r x+18446744073709551616*ArI r x:=(Nat.mod_add_div _ _).symm
theorem AuK{x y:Int}(hx:0≤x∧x≤18446744073709551615)(hy:0≤y∧y≤18446744073709551615):orI .u64 x y=orI .u64 y x:=by
 rw [Na hx hy,Na hy hx,Nat.or_comm]
theorem T9(F:Nat){R:Type}(k:List Int→Option R)(l o:List Int){w r:Nat}{i:Int}(hw:(w:Int)≤i)(hi:i < 4)(hr:r < 64)(hl:Wd l)(ho:o.length=4)(N:Nat) :
  Ds F k (N+1) l o (w:Int) (r:Int) i=Ds F k N l (B6 o i ((if(w:Int) < i then ArH r (Ak 0 l (i - w))+ArI r (Ak 0 l (i - w - 1)) else ArH r (Ak 0 l (i - w)):Nat):Int)) (w:Int) (r:Int) (i+1):=by
 have h1:=hl.get (i - w)
 have h2:=hl.get (i - w - 1)
 have hs:∀ x y:Int,B6 (B6 o i x) i y=B6 o i y:=fun x y=>by simp [B6]
 have hg:∀ x:Int,Ak 0 (B6 o i x) i=x:=by
  intro x
  have:i.toNat < o.length:=by omega
  simp [B6,Ak,this]
 obtain ⟨v1,v2⟩:=AfD h2 hr
 have hsh:Fs .u64 (Ak 0 l (i - w)) (r:Int)=((ArH r (Ak 0 l (i - w)):Nat):Int):=by
  rw [Ir h1.1 (by omega),Int.toNat_natCast,Nat.min_eq_left (by omega)]
  rfl
 have hb:ArH r (Ak 0 l (i - w)) < 18446744073709551616:=Nat.mod_lt _ (by omega)
 rw [Ds]
 unfold P4
 by_cases h0:0 < r
 ·have hc:(64:Int) - (r:Int)=((64 - r:Nat):Int):=by omega
  have v3:=v2 h0
  by_cases h3:(w:Int) < i
  ·rw [iP h3]
   obtain ⟨o1,o2⟩:=ArF h1 hr v1
   have hb2:ArI r (Ak 0 l (i - w - 1)) < 2 ^ r:=v1
   have h2r:2 ^ r < 2 ^ 64:=Nat.pow_lt_pow_right (by omega) hr
   have ho':orI .u64 ((ArH r (Ak 0 l (i - w)):Nat):Int) ((ArI r (Ak 0 l (i - w - 1)):Nat):Int)=((ArH r (Ak 0 l (i - w))+ArI r (Ak 0 l (i - w - 1)):Nat):Int):=by
    rw [AuK (by omega) (by omega),← hsh]
    refine Eq.trans o1 ?_
    unfold ArH ArI
    omega
   have v4:D6 .u64 (Ak 0 l (i - w - 1)) ((64 - r:Nat):Int)=((ArI r (Ak 0 l (i - w - 1)):Nat):Int):=v3
   simp (disch:=omega) only [bs,↓iP,↓iN,hs,hg,hsh,hc,v4,ho']
  ·rw [iN h3]
   simp (disch:=omega) only [bs,↓iP,↓iN,hs,hg,hsh]
 ·have hr0:r=0:=by omega
  subst hr0
  have hh:ArI 0 (Ak 0 l (i - w - 1))=0:=by
   unfold ArI
   rw [Nat.pow_zero,Nat.mul_one]
   omega
  rw [hh]
  by_cases h3:(w:Int) < i
  ·rw [iP h3]
   simp (disch:=omega) only [bs,↓iP,↓iN,hs,hg,hsh]
   rfl
  ·rw [iN h3]
   simp (disch:=omega) only [bs,↓iP,↓iN,hs,hg,hsh]
theorem Bcf(a b c d R:Nat):(a+18446744073709551616*(b+18446744073709551616*(c+18446744073709551616*d)))*R=a*R+18446744073709551616*(b*R+18446744073709551616*(c*R+18446744073709551616*(d*R))):=by
 simp only [Nat.add_mul,Nat.mul_add,Nat.mul_assoc]
theorem AuL(r:Nat)(x:Int):ArH r x < 18446744073709551616:=Nat.mod_lt _ (by omega)
theorem Yl{r:Nat}{x y:Int}(hx:0≤x∧x≤18446744073709551615)(hy:0≤y∧y≤18446744073709551615)(hr:r < 64):ArH r x+ArI r y < 18446744073709551616:=by
 have:=(ArF hx hr (AfD hy hr).1).2
 unfold ArH ArI
 omega
set_option maxHeartbeats 1000000 in
theorem Aic(F:Nat)(hF:A4 F){l:List Int}(hl:Wd l)(h4:l.length=4){n:Nat}(hn:n < 256)(h:wv l*2 ^ n < Ax):Ws F l (n:Int)=some (Tf (wv l*2 ^ n),()):=by
 have hq:Hi .i64 (n:Int) 64=((n / 64:Nat):Int):=by rw [Uk (by omega) (by omega) (by omega)]; omega
 have hm:Iw (n:Int) 64=((n % 64:Nat):Int):=by rw [Qi (by omega)]; omega
 obtain ⟨a,b,c,d,rfl,ha,hb,hc,hd⟩:=AuH hl h4
 unfold A4 at hF
 obtain ⟨N,hN⟩:∃ N,F=N+1+1+1+1+1:=⟨F - 5,by omega⟩
 unfold Ws
 rw [hq,hm]
 have hnn:n=64*(n / 64)+n % 64:=by omega
 have hr:n % 64 < 64:=by omega
 have hw:n / 64=0∨n / 64=1∨n / 64=2∨n / 64=3:=by omega
 generalize n % 64=r at *
 generalize n / 64=w at *
 have hval:wv [a,b,c,d]*2 ^ n=(a.toNat*2 ^ r+18446744073709551616*(b.toNat*2 ^ r+18446744073709551616*(c.toNat*2 ^ r+18446744073709551616*(d.toNat*2 ^ r))))*2 ^ (64*w):=by
  rw [hnn,Nat.add_comm (64*w),Nat.pow_add,← Nat.mul_assoc,wv4,Bcf]
 rw [Amt r a,Amt r b,Amt r c,Amt r d] at hval
 have p0:=AuL r a
 have p1:=Yl hb ha hr
 have p2:=Yl hc hb hr
 have p3:=Yl hd hc hr
 have fin:∀ o:List Int,Wd o→o.length=4→wv o=wv [a,b,c,d]*2 ^ n→some (o,())=some (Tf (wv [a,b,c,d]*2 ^ n),()):=by
  intro o h1 h2 h3
  rw [← h3,V0 h1 h2]
 have htop:Ax=18446744073709551616*18446744073709551616*18446744073709551616*18446744073709551616:=by decide
 have key:∀ M,M=N+1+1+1+1+1→Ds F (fun z30=>some (z30,())) M [a,b,c,d] [0,0,0,0] (w:Int) (r:Int) (w:Int)=some (Tf (wv [a,b,c,d]*2 ^ n),()):=by
  intro M hM
  subst hM
  rcases hw with rfl | rfl | rfl | rfl
  ·rw [T9 F _ _ _ (by omega) (by omega) hr hl rfl,show((0:Nat):Int)=0 from rfl,iN (by omega),show(0:Int) - 0=0 from rfl,g0,A7E,show(0:Int)+1=1 from rfl]
   have st:=fun N o ho (i:Int) h1 h2=>T9 F (fun z30:List Int=>some (z30,())) [a,b,c,d] o (w:=0) (r:=r) (i:=i) h1 h2 hr hl ho N
   rw [show(0:Int)=((0:Nat):Int) from rfl,st _ _ rfl _ (by omega) (by omega),iP (by omega)]
   simp only [show((0:Nat):Int)=0 from rfl,show(1:Int) - 0=1 from rfl,show(1:Int) - 1=0 from rfl,g0,g1,A4i,show(1:Int)+1=2 from rfl]
   rw [show(0:Int)=((0:Nat):Int) from rfl,st _ _ rfl _ (by omega) (by omega),iP (by omega)]
   simp only [show((0:Nat):Int)=0 from rfl,show(2:Int) - 0=2 from rfl,show(2:Int) - 1=1 from rfl,g1,g2,A3J,show(2:Int)+1=3 from rfl]
   rw [show(0:Int)=((0:Nat):Int) from rfl,st _ _ rfl _ (by omega) (by omega),iP (by omega)]
   simp only [show((0:Nat):Int)=0 from rfl,show(3:Int) - 0=3 from rfl,show(3:Int) - 1=2 from rfl,g2,g3,A0g,show(3:Int)+1=4 from rfl]
   rw [Ds]
   simp (disch:=omega) only [bs,↓iP,↓iN]
   refine fin _ (wd4 (by omega) (by omega) (by omega) (by omega)) rfl ?_
   rw [hval,htop] at h
   rw [hval,wv4]
   clear hval fin st hq hm hnn
   simp only [Nat.mul_zero,Nat.pow_zero,Nat.mul_one,Int.toNat_natCast] at h ⊢
   omega
  ·have st:=fun N o ho (i:Int) h1 h2=>T9 F (fun z30:List Int=>some (z30,())) [a,b,c,d] o (w:=1) (r:=r) (i:=i) h1 h2 hr hl ho N
   rw [st _ _ rfl _ (by omega) (by omega),iN (by omega)]
   simp only [show((1:Nat):Int)=1 from rfl,show(1:Int) - 1=0 from rfl,g0,A4i,show(1:Int)+1=2 from rfl]
   rw [show(1:Int)=((1:Nat):Int) from rfl,st _ _ rfl _ (by omega) (by omega),iP (by omega)]
   simp only [show((1:Nat):Int)=1 from rfl,show(2:Int) - 1=1 from rfl,show(1:Int) - 1=0 from rfl,g0,g1,A3J,show(2:Int)+1=3 from rfl]
   rw [show(1:Int)=((1:Nat):Int) from rfl,st _ _ rfl _ (by omega) (by omega),iP (by omega)]
   simp only [show((1:Nat):Int)=1 from rfl,show(3:Int) - 1=2 from rfl,show(2:Int) - 1=1 from rfl,g1,g2,A0g,show(3:Int)+1=4 from rfl]
   rw [Ds]
   simp (disch:=omega) only [bs,↓iP,↓iN]
   refine fin _ (wd4 (by omega) (by omega) (by omega) (by omega)) rfl ?_
   rw [hval,htop] at h
   rw [hval,wv4]
   clear hval fin st hq hm hnn
   simp only [show(2:Nat) ^ (64*1)=18446744073709551616 from rfl,Int.toNat_natCast,show(0:Int).toNat=0 from rfl] at h ⊢
   omega
  ·have st:=fun N o ho (i:Int) h1 h2=>T9 F (fun z30:List Int=>some (z30,())) [a,b,c,d] o (w:=2) (r:=r) (i:=i) h1 h2 hr hl ho N
   rw [st _ _ rfl _ (by omega) (by omega),iN (by omega)]
   simp only [show((2:Nat):Int)=2 from rfl,show(2:Int) - 2=0 from rfl,g0,A3J,show(2:Int)+1=3 from rfl]
   rw [show(2:Int)=((2:Nat):Int) from rfl,st _ _ rfl _ (by omega) (by omega),iP (by omega)]
   simp only [show((2:Nat):Int)=2 from rfl,show(3:Int) - 2=1 from rfl,show(1:Int) - 1=0 from rfl,g0,g1,A0g,show(3:Int)+1=4 from rfl]
   rw [Ds]
   simp (disch:=omega) only [bs,↓iP,↓iN]
   refine fin _ (wd4 (by omega) (by omega) (by omega) (by omega)) rfl ?_
   rw [hval,htop] at h
   rw [hval,wv4]
   clear hval fin st hq hm hnn
   simp only [show(2:Nat) ^ (64*2)=340282366920938463463374607431768211456 from rfl,Int.toNat_natCast,show(0:Int).toNat=0 from rfl] at h ⊢
   omega
  ·have st:=fun N o ho (i:Int) h1 h2=>T9 F (fun z30:List Int=>some (z30,())) [a,b,c,d] o (w:=3) (r:=r) (i:=i) h1 h2 hr hl ho N
   rw [st _ _ rfl _ (by omega) (by omega),iN (by omega)]
   simp only [show((3:Nat):Int)=3 from rfl,show(3:Int) - 3=0 from rfl,g0,A0g,show(3:Int)+1=4 from rfl]
   rw [Ds]
   simp (disch:=omega) only [bs,↓iP,↓iN]
   refine fin _ (wd4 (by omega) (by omega) (by omega) (by omega)) rfl ?_
   rw [hval,htop] at h
   rw [hval,wv4]
   clear hval fin st hq hm hnn
   simp only [show(2:Nat) ^ (64*3)=6277101735386680763835789423207666416102355444464034512896 from rfl,Int.toNat_natCast,show(0:Int).toNat=0 from rfl] at h ⊢
   omega
 exact key F hN
theorem ArJ(F:Nat)(hF:A4 F){R:Type}(k:List Int→List Int→List Int→Option R){a b:Nat}(z:List Int) :
  ∀ (m r d Q:Nat) (x4:List Int),Dv a b m r d Q→Wd x4→x4.length=4→wv x4=Q→m≤256→r < Ax→d < Ax →
   ∀ N,m < N→∃ o:List Int,Wd o∧o.length=4∧wv o=a / b∧Kl F k N (Tf r) x4 z ((m:Int) - 1) (Tf d)=k (Tf (a % b)) o z:=by
 intro m
 induction m with
 | zero =>
  intro r d Q x4 h hw h4 he hm h1 h2 N hN
  obtain ⟨N,rfl⟩:∃ M,N=M+1:=⟨N - 1,by omega⟩
  obtain ⟨e1,e2⟩:=h.done
  refine ⟨x4,hw,h4,by rw [he,e1],?_⟩
  unfold Kl
  simp (disch:=omega) only [bs,↓iP,↓iN,e2]
 | succ m ih =>
  intro r d Q x4 h hw h4 he hm h1 h2 N hN
  obtain ⟨N,rfl⟩:∃ M,N=M+1:=⟨N - 1,by omega⟩
  have hs:=h.step
  have hd2:d / 2 < Ax:=by omega
  have ei:((m+1:Nat):Int) - 1=(m:Int):=by omega
  rw [ei]
  have hq:Hi .i64 (m:Int) 64=((m / 64:Nat):Int):=by rw [Uk (by omega) (by omega) (by omega)]; omega
  have hmm:Iw (m:Int) 64=((m % 64:Nat):Int):=by rw [Qi (by omega)]; omega
  have hl0:ltI ((m % 64:Nat):Int) 0=false:=by rw [← Bool.not_eq_true,Ah]; omega
  have hin:inI ((m / 64:Nat):Int) 4=true:=by rw [Bo]; omega
  unfold Kl
  rw [hq,hmm,Pt F hF (Lw _) (Lw _) (Do h1) (Do h2),C0,C0]
  have hc:leI 0 (Amb r d)=decide (d≤r):=by
   unfold leI Amb
   apply decide_eq_decide.2
   split <;> (try split) <;> omega
  simp only [bS,hc]
  by_cases hdr:d≤r
  ·rw [iP hdr] at hs
   obtain ⟨b1,b2,b3⟩:=Ajv hw (i:=m) (by omega) (by rw [he]; exact h.hQ)
   obtain ⟨o,g1,g2,g3,g4⟩:=ih (r - d) (d / 2) (Q+2 ^ m) (Asm x4 m) hs b1 (by omega) (by rw [b3,he]) (by omega) (by omega) hd2 N (by omega)
   refine ⟨o,g1,g2,g3,?_⟩
   refine Eq.trans ?_ g4
   rw [decide_eq_true hdr,Ajy F hF (Lw _) (Lw _) (Do h1) (Do h2) (by rw [C0,C0]; exact hdr),C0,C0,hl0,hin]
   simp (disch:=omega) only [bs,↓iP,↓iN,Vd F hF (Lw d) (Do h2),C0]
   rfl
  ·rw [iN hdr] at hs
   obtain ⟨o,g1,g2,g3,g4⟩:=ih r (d / 2) Q x4 hs hw h4 he (by omega) h1 hd2 N (by omega)
   refine ⟨o,g1,g2,g3,?_⟩
   refine Eq.trans ?_ g4
   rw [decide_eq_false hdr]
   simp (disch:=omega) only [bs,↓iP,↓iN,Vd F hF (Lw d) (Do h2),C0]
theorem Ajz(F:Nat)(hF:A4 F){l m:List Int}(hl:Wd l)(hm:Wd m)(h4:l.length=4)(h5:m.length=4)(hb:0 < wv m) :
  Z6 F l m=some (Tf (wv l / wv m),Tf (wv l % wv m),()):=by
 have hF':=hF
 unfold A4 at hF'
 obtain ⟨s,hs,hsl,es⟩:=Ve F hF hl h4
 obtain ⟨t,ht,htl,et⟩:=Ve F hF hm h5
 have ht1:=(ht.2.2 hb).1
 have hlt:wv l < Ax:=by have:=Tz hl; rw [h4] at this; exact this
 unfold Z6
 by_cases hst:s < t
 ·have hl2:=ArE hs ht hst
  simp (disch:=omega) only [bs,↓iP,↓iN,es,et]
  rw [Nat.div_eq_of_lt hl2,Nat.mod_eq_of_lt hl2,V0 hl h4,show Tf 0=[0,0,0,0] from congrArg (·.2.1) Gg]
 ·obtain ⟨c1,c2⟩:=Aws hs ht hb (by omega)
  have hst2:(s:Int) - (t:Int)=((s - t:Nat):Int):=by omega
  have h8:wv m*2 ^ (s - t) < Ax:=by
   exact Nat.lt_of_lt_of_le c2 (Ams (k:=4) (by omega))
  obtain ⟨o,g1,g2,g3,g4⟩:=ArJ F hF (fun z20 z21 z22=>some (z21,(z20,()))) [0,0,0,0] (s - t+1) (wv l) (wv m*2 ^ (s - t)) 0 [0,0,0,0] (Dv.start c1) (wd4 (by omega) (by omega) (by omega) (by omega)) rfl rfl (by omega) hlt h8 F (by omega)
  have e1:((s - t+1:Nat):Int) - 1=((s - t:Nat):Int):=by omega
  rw [e1,V0 hl h4] at g4
  simp (disch:=omega) only [bs,↓iP,↓iN,es,et,hst2,Aic F hF hm h5 (n:=s - t) (by omega) h8]
  refine Eq.trans g4 ?_
  rw [← g3,V0 g1 g2]
theorem Pu(v:Nat):toW (v:Int)=(false,Tf v,()):=by
 unfold toW
 rw [decide_eq_false (by omega),Int.natAbs_natCast]
theorem Hh{v:Nat}(h:v < Ax):WOk (toW (v:Int)):=D5 (by rw [Int.natAbs_natCast]; exact h)
theorem Gh(F:Nat){w:W}(h:WOk w):Fv F w=some (toW (wi w),()):=by
 unfold Fv
 rw [Ly F h]
 by_cases hv:Vl w
 ·simp (disch:=omega) only [bs,↓iP,↓iN,hv,decide_true,Abv h hv]
 ·have:wi w=0:=by
   unfold Vl at hv
   unfold wi
   simp only [Classical.not_not] at hv
   rw [hv.1,hv.2]; rfl
  rw [this,Gg]
  simp (disch:=omega) only [bs,↓iP,↓iN,hv,decide_false]
theorem Amu{a b:Nat}:Tf a=Tf b↔a=b:=⟨fun h=>by have:=congrArg wv h; rw [C0,C0] at this; exact this,fun h=>by rw [h]⟩
theorem ArK:Tf 0=[0,0,0,0]:=congrArg (·.2.1) Gg
theorem Qd(F:Nat){w:W}(h:WOk w):Lb F w=some (if wi w=0 then 0 else if wi w < 0 then -1 else 1,()):=by
 unfold Lb
 rw [Gh F h]
 simp only [bS]
 rw [show(toW (wi w)).1=decide (wi w < 0) from rfl,show(toW (wi w)).2.1=Tf (wi w).natAbs from rfl,Q3,← ArK]
 have:decide (Tf (wi w).natAbs=Tf 0)=decide (wi w=0):=decide_eq_decide.2 (by rw [Amu]; omega)
 rw [this]
 by_cases h1:wi w < 0
 ·rw [decide_eq_true h1,cT,iN (by omega),iP h1]
 ·rw [decide_eq_false h1,cF]
  by_cases h2:wi w=0
  ·rw [decide_eq_true h2,cT,iP h2]
  ·rw [decide_eq_false h2,cF,iN h2,iN h1]
theorem AbJ(F:Nat)(hF:A4 F){a b:Nat}(ha:a < Ax)(hb:b < Ax)(h0:0 < b) :
  So F (toW (a:Int)) (toW (b:Int))=some (toW ((a / b:Nat):Int),toW ((a % b:Nat):Int),true,()):=by
 unfold So
 rw [Gh F (Hh ha),Gh F (Hh hb),Ct,Ct]
 simp only [bS]
 rw [Qd F (Hh hb),Ct,iN (by omega),iN (by omega)]
 simp only [bS]
 rw [Pu,Pu,Pu,Pu]
 have e0:eqI (1:Int) 0=false:=by rw [← Bool.not_eq_true,Ao]; omega
 simp only [e0,cF]
 rw [Ajz F hF (Lw _) (Lw _) (Do ha) (Do hb) (by rw [C0]; exact h0),C0,C0]
 simp only [bS]
 unfold Np Nq Nc Fv Js
 simp only [bS,cF,cT,show eqT Ty.bool false false=true from rfl,Bool.not_true,Bool.not_false]
theorem Kg(F:Nat)(hF:A4 F){a b:Nat}(ha:a < Ax)(hb:b < Ax)(h0:0 < b) :
  Ed F (toW (a:Int)) (toW (b:Int))=some (toW ((a / b:Nat):Int),toW ((a % b:Nat):Int),true,()):=by
 have t8:Ax≤Za:=Nat.pow_le_pow_right (by omega) (by omega)
 unfold Ed
 rw [Gx F hF (Hh ha),Gx F hF (Hh hb),Ct,Ct]
 simp only [bS]
 rw [Dp F hF (Hh hb),Ct,iN (by omega),iN (by omega)]
 simp only [bS]
 have e0:eqI (1:Int) 0=false:=by rw [← Bool.not_eq_true,Ao]; omega
 simp only [e0,cF]
 rw [Ew F hF (Hh ha),Ew F hF (Hh hb)]
 simp only [bS]
 rw [show(toW (a:Int)).2.1=Tf a from by rw [Pu],show(toW (b:Int)).2.1=Tf b from by rw [Pu],C0,C0,AbI F hF h0 (by omega) (by omega)]
 simp only [bS]
 have fa:(toW (a:Int)).1=false:=by rw [Pu]
 have fb:(toW (b:Int)).1=false:=by rw [Pu]
 unfold K4 K5
 have hq:a / b < Ax:=Nat.lt_of_le_of_lt (Nat.div_le_self _ _) ha
 have hr:a % b < Ax:=Nat.lt_trans (Nat.mod_lt _ h0) hb
 have lq:=Ce (v:=a / b) (n:=4) hq
 have lr:=Ce (v:=a % b) (n:=4) hr
 simp only [fa,fb,cF,cT,show eqT Ty.bool false false=true from rfl,Bool.not_true,Bool.not_false]
 rw [Lx F hF false (Hn _) (by omega),Lx F hF false (Hn _) (by omega),Fd,Fd]
 unfold Adq
 simp only [Bool.false_eq_true,if_false,Int.natAbs_natCast,hq,hr,if_true,bS,cF,Bool.not_true]
theorem ArL{b r:Nat}(h0:0 < r)(h:r < b):2*(b % r) < b:=by
 have h1:=Nat.mod_lt b h0
 have h2:=Nat.div_add_mod b r
 have h3:1≤b / r:=(Nat.one_le_div_iff h0).2 (by omega)
 have h4:r*1≤r*(b / r):=Nat.mul_le_mul_left _ h3
 omega
theorem Nu(a b:Nat):Nat.gcd b (a % b)=Nat.gcd a b:=by
 rw [Nat.gcd_comm a b,Nat.gcd_rec b a,Nat.gcd_comm]
theorem A06{a b:Nat}(ha:a < Ax)(hb:b < Ax)(h:0 < a∨0 < b):Nat.gcd a b < Ax:=by
 rcases h with h | h
 ·exact Nat.lt_of_le_of_lt (Nat.gcd_le_left _ h) ha
 ·exact Nat.lt_of_le_of_lt (Nat.gcd_le_right _ h) hb
theorem AfE(F:Nat)(hF:A4 F){R:Type}(k0:W→W→Option R)(z:W){a b:Nat}(ha:a < Ax)(hb:b < Ax)(N:Nat) :
  Es F k0 (N+1) (toW (a:Int)) (toW (b:Int)) z=if b=0 then k0 (toW (a:Int)) z else Es F k0 N (toW (b:Int)) (toW ((a % b:Nat):Int)) z:=by
 rw [Es,Qd F (Hh hb),Ct]
 simp only [bS]
 by_cases h0:b=0
 ·rw [iP h0,iP (by omega)]
  rfl
 ·rw [iN h0,iN (by omega),iN (by omega),AbJ F hF ha hb (by omega)]
  have e0:eqI (1:Int) 0=false:=by rw [← Bool.not_eq_true,Ao]; omega
  simp only [e0,Bool.not_false,cT,bS]
theorem AuN(F:Nat)(hF:A4 F){R:Type}(k0:W→W→Option R)(z:W):∀ (m:Nat) (a b:Nat),b < 2 ^ m→a < Ax→b < Ax→∀ N,2*m < N →
  Es F k0 N (toW (a:Int)) (toW (b:Int)) z=k0 (toW ((Nat.gcd a b:Nat):Int)) z:=by
 intro m
 induction m with
 | zero =>
  intro a b h ha hb N hN
  obtain ⟨N,rfl⟩:∃ M,N=M+1:=⟨N - 1,by omega⟩
  have h0:b=0:=by simpa using h
  rw [AfE F hF k0 z ha hb,iP h0,h0,Nat.gcd_zero_right]
 | succ m ih =>
  intro a b h ha hb N hN
  obtain ⟨N,rfl⟩:∃ M,N=M+2:=⟨N - 2,by omega⟩
  rw [AfE F hF k0 z ha hb]
  by_cases h0:b=0
  ·rw [iP h0,h0,Nat.gcd_zero_right]
  ·have hr:a % b < b:=Nat.mod_lt _ (by omega)
   rw [iN h0,AfE F hF k0 z hb (by omega)]
   by_cases h1:a % b=0
   ·rw [iP h1,← Nu,h1,Nat.gcd_zero_right]
   ·have h2:=ArL (by omega) hr
    rw [Nat.pow_succ] at h
    have h3:b % (a % b) < Ax:=Nat.lt_trans (Nat.mod_lt _ (by omega)) (by omega)
    rw [iN h1,ih _ _ (by omega) (by omega) h3 N (by omega),Nu,Nu]
def A0h(x y:W):Nat:=Nat.gcd (wv x.2.1) (wv y.2.1)
theorem Ua{w:W}(h:WOk w):(false,w.2)=toW ((wv w.2.1:Nat):Int):=by
 rw [Pu,V0 h.1 h.2]
theorem Zt(F:Nat)(hF:A4 F){x y:W}(hx:WOk x)(hy:WOk y):On F x y=some (toW ((A0h x y:Nat):Int),()):=by
 have hF':=hF
 unfold A4 at hF'
 unfold On
 rw [Ua hx,Ua hy]
 rw [AuN F hF _ _ 256 _ _ (by have:=hy.lt; rw [show Ax=2 ^ 256 from by decide] at this; exact this) hx.lt hy.lt F (by omega)]
 rfl
theorem ArN(F:Nat){R:Type}(k2:W→Int→Option R)(z:W):∀ (m:Nat) (a b:Nat),b < 2 ^ m→∀ N,2*m < N →
  I3 F k2 N z (a:Int) (b:Int)=k2 z ((Nat.gcd a b:Nat):Int):=by
 have st:∀ (a b N:Nat),I3 F k2 (N+1) z (a:Int) (b:Int)=if b=0 then k2 z (a:Int) else I3 F k2 N z (b:Int) ((a % b:Nat):Int):=by
  intro a b N
  rw [I3,Qi (by omega)]
  by_cases h0:b=0
  ·rw [iP h0]; simp (disch:=omega) only [bs,↓iP,↓iN]
  ·rw [iN h0]; simp (disch:=omega) only [bs,↓iP,↓iN]
   rfl
 intro m
 induction m with
 | zero =>
  intro a b h N hN
  obtain ⟨N,rfl⟩:∃ M,N=M+1:=⟨N - 1,by omega⟩
  have h0:b=0:=by simpa using h
  rw [st,iP h0,h0,Nat.gcd_zero_right]
 | succ m ih =>
  intro a b h N hN
  obtain ⟨N,rfl⟩:∃ M,N=M+2:=⟨N - 2,by omega⟩
  rw [st]
  by_cases h0:b=0
  ·rw [iP h0,h0,Nat.gcd_zero_right]
  ·have hr:a % b < b:=Nat.mod_lt _ (by omega)
   rw [iN h0,st]
   by_cases h1:a % b=0
   ·rw [iP h1,← Nu,h1,Nat.gcd_zero_right]
   ·have h2:=ArL (by omega) hr
    rw [Nat.pow_succ] at h
    rw [iN h1,ih _ _ (by omega) N (by omega),Nu,Nu]
def gK(F:Nat):W→W→Option (W×Unit):=fun z25 z26=>some (z25,())
def gR(F:Nat):W→Option (W×Unit):=fun z27=>some (z27,())
theorem Awt(F:Nat)(hF:A4 F){a:Nat}(ha:a < Ax):∃ (va:Int) (pa:Bool),E5 F (toW (a:Int))=some (va,pa,())∧(a < 18446744073709551616→pa=true∧va=(a:Int))∧(¬ a < 18446744073709551616→pa=false):=by
 refine ⟨_,_,Yc F hF (Hh ha),fun h=>?_,fun h=>?_⟩
 ·rw [Ct]
  exact ⟨decide_eq_true (by omega),iP (by omega)⟩
 ·rw [Ct]
  exact decide_eq_false (by omega)
theorem A3L(F:Nat)(hF:A4 F){a:Nat}(ha:a < Ax):∃ v:Int,C9 F (toW (a:Int))=some (v,())∧(a=0→eqI v 0=true)∧(a≠0→eqI v 0=false):=by
 refine ⟨_,Dp F hF (Hh ha),fun h=>?_,fun h=>?_⟩
 ·rw [Ct,iP (by omega)]; rfl
 ·rw [Ct,iN (by omega),iN (by omega)]; rfl
theorem AbK(F:Nat)(hF:A4 F)(z:W){a b:Nat}(ha:a < Ax)(hb:b < Ax)(N:Nat) :
  Hk F (gK F) (gR F) (N+1) (toW (a:Int)) (toW (b:Int)) z =
   if b=0 then some (toW (a:Int),()) else if a < 18446744073709551616∧b < 18446744073709551616 then some (toW ((Nat.gcd a b:Nat):Int),())
    else Hk F (gK F) (gR F) N (toW (b:Int)) (toW ((a % b:Nat):Int)) z:=by
 have hF':=hF
 unfold A4 at hF'
 obtain ⟨v,e1,h1,h2⟩:=A3L F hF hb
 obtain ⟨va,pa,e2,h3,h4⟩:=Awt F hF ha
 obtain ⟨vb,pb,e3,h5,h6⟩:=Awt F hF hb
 rw [Hk,e1]
 by_cases h0:b=0
 ·rw [iP h0]
  simp only [bS,h1 h0,Bool.not_true,cF,gK]
 ·rw [iN h0]
  unfold P0 P1
  have hdm:=Kg F hF ha hb (by omega)
  by_cases ka:a < 18446744073709551616
  ·obtain ⟨rfl,rfl⟩:=h3 ka
   by_cases kb:b < 18446744073709551616
   ·obtain ⟨rfl,rfl⟩:=h5 kb
    rw [iP ⟨ka,kb⟩]
    have hg:Nat.gcd a b≤b:=Nat.gcd_le_right _ (by omega)
    simp only [e2,e3,bS,h2 h0,Bool.not_false,cT,ArN F _ _ 64 a b (by omega) F (by omega),Ko F (x:=((Nat.gcd a b:Nat):Int)) (by omega),gR]
   ·have:=h6 kb
    subst this
    rw [iN (by omega)]
    simp only [e2,e3,bS,h2 h0,Bool.not_false,cT,cF,hdm]
  ·have:=h4 ka
   subst this
   rw [iN (by omega)]
   simp only [e2,e3,bS,h2 h0,Bool.not_false,cT,cF,hdm]
theorem ArO(F:Nat)(hF:A4 F)(z:W):∀ (m:Nat) (a b:Nat),b < 2 ^ m→a < Ax→b < Ax→∀ N,2*m < N →
  Hk F (gK F) (gR F) N (toW (a:Int)) (toW (b:Int)) z=some (toW ((Nat.gcd a b:Nat):Int),()):=by
 intro m
 induction m with
 | zero =>
  intro a b h ha hb N hN
  obtain ⟨N,rfl⟩:∃ M,N=M+1:=⟨N - 1,by omega⟩
  have h0:b=0:=by simpa using h
  rw [AbK F hF z ha hb,iP h0,h0,Nat.gcd_zero_right]
 | succ m ih =>
  intro a b h ha hb N hN
  obtain ⟨N,rfl⟩:∃ M,N=M+2:=⟨N - 2,by omega⟩
  rw [AbK F hF z ha hb]
  by_cases h0:b=0
  ·rw [iP h0,h0,Nat.gcd_zero_right]
  ·rw [iN h0]
   by_cases hs:a < 18446744073709551616∧b < 18446744073709551616
   ·rw [iP hs]
   ·have hr:a % b < b:=Nat.mod_lt _ (by omega)
    rw [iN hs,AbK F hF z hb (by omega)]
    by_cases h1:a % b=0
    ·rw [iP h1,← Nu,h1,Nat.gcd_zero_right]
    ·rw [iN h1]
     by_cases hs2:b < 18446744073709551616∧a % b < 18446744073709551616
     ·rw [iP hs2,Nu]
     ·have h2:=ArL (by omega) hr
      rw [Nat.pow_succ] at h
      have h3:b % (a % b) < Ax:=Nat.lt_trans (Nat.mod_lt _ (by omega)) (by omega)
      rw [iN hs2,ih _ _ (by omega) (by omega) h3 N (by omega),Nu,Nu]
theorem Xf(F:Nat)(hF:A4 F){a b:Nat}(ha:a < Ax)(hb:b < Ax):Qv F (toW (a:Int)) (toW (b:Int))=some (toW ((Nat.gcd a b:Nat):Int),()):=by
 have hF':=hF
 unfold A4 at hF'
 unfold Qv
 exact ArO F hF _ 256 _ _ (by rw [show Ax=2 ^ 256 from by decide] at hb; exact hb) ha hb F (by omega)
theorem ArP(g:Nat):eqT (.pair .bool (.pair (.arr 4 (.int .u64)) .unit)) (toW (g:Int)) (toW 1)=decide (g=1):=by
 show((toW (g:Int)).1 == (toW 1).1 && (eqT (.arr 4 (.int .u64)) (toW (g:Int)).2.1 (toW 1).2.1 && true))=_
 rw [Q3,show toW 1=toW ((1:Nat):Int) from rfl,Pu,Pu]
 simp [Amu]
def Sm(v:Nat):Prop:=v < 170141183460469231731687303715884105728
instance (v:Nat):Decidable (Sm v):=by unfold Sm; infer_instance
theorem Aid{a b c d:Int}(ha:0≤a∧a≤18446744073709551615)(hb:0≤b∧b≤18446744073709551615)(hc:0≤c∧c≤18446744073709551615)(hd:0≤d∧d≤18446744073709551615) :
  Sm (wv [a,b,c,d])↔d=0∧c=0∧b < 9223372036854775808:=by
 unfold Sm
 rw [wv4]
 omega
theorem Vf(F:Nat){w:W}(h:WOk w):Pg F w=some (decide (Sm (wv w.2.1)),()):=by
 obtain ⟨s,l,u⟩:=w
 obtain ⟨h1,h2⟩:=h
 simp only at h1 h2
 obtain ⟨a,b,c,d,rfl,ha,hb,hc,hd⟩:=AuH h1 h2
 unfold Pg
 simp only [g1,g2,g3]
 have hi:=Aid ha hb hc hd
 have hsh:D6 .u64 b 63=b / 9223372036854775808:=by
  rw [Ho hb.1,show min (63:Int).toNat IntKind.u64.bits=63 from rfl]
  omega
 rw [hsh]
 by_cases h3:d=0
 ·by_cases h4:c=0
  ·simp (disch:=omega) only [bs,↓iP,↓iN]
   congr 2
   unfold eqI
   exact decide_eq_decide.2 (by rw [hi]; omega)
  ·rw [decide_eq_false (by rw [hi]; omega)]; simp (disch:=omega) only [bs,↓iP,↓iN]
 ·rw [decide_eq_false (by rw [hi]; omega)]; simp (disch:=omega) only [bs,↓iP,↓iN]
theorem Vg(F:Nat){w:W}(h:WOk w):Pc F w=some (decide (Sm (wv w.2.1)),()):=by
 obtain ⟨s,l,u⟩:=w
 obtain ⟨h1,h2⟩:=h
 simp only at h1 h2
 obtain ⟨a,b,c,d,rfl,ha,hb,hc,hd⟩:=AuH h1 h2
 unfold Pc
 simp only [g1,g2,g3]
 have hi:=Aid ha hb hc hd
 by_cases h3:d=0
 ·by_cases h4:c=0
  ·simp (disch:=omega) only [bs,↓iP,↓iN]
   congr 2
   unfold ltI
   exact decide_eq_decide.2 (by rw [hi]; omega)
  ·rw [decide_eq_false (by rw [hi]; omega)]; simp (disch:=omega) only [bs,↓iP,↓iN]
 ·rw [decide_eq_false (by rw [hi]; omega)]; simp (disch:=omega) only [bs,↓iP,↓iN]
abbrev Rt:=W×(W×Unit)
def ROk(q:Rt):Prop:=WOk q.1∧WOk q.2.1
def RV(q:Rt):Prop:=Vl q.1∧Vl q.2.1∧0 < wi q.2.1∧Sm (wv q.1.2.1)∧Sm (wv q.2.1.2.1)∧A0h q.1 q.2.1=1
instance (q:Rt):Decidable (RV q):=by unfold RV; infer_instance
theorem ArQ(z:Int):(0 < (if z=0 then(0:Int) else if z < 0 then -1 else 1))↔0 < z:=by split <;> (try split) <;> omega
theorem AnU(F:Nat){x:Int}(h:I64 x):AaU F x=some (toW x,()):=Gy F h
theorem Nv(F:Nat)(hF:A4 F){q:Rt}(h:ROk q):I8 F q=some (decide (RV q),()):=by
 obtain ⟨n,d,u⟩:=q
 obtain ⟨hn,hd⟩:=h
 simp only at hn hd
 unfold I8
 simp only [Ly F hn,Ly F hd,Qd F hd,Vf F hn,Vf F hd,Zt F hF hn hd,AnU F (x:=1) (by unfold I64; omega),bS,ArP]
 have hs:ltI 0 (if wi d=0 then 0 else if wi d < 0 then -1 else 1)=decide (0 < wi d):=by
  unfold ltI
  exact decide_eq_decide.2 (ArQ _)
 rw [hs]
 unfold RV
 by_cases h1:Vl n <;> by_cases h2:Vl d <;> by_cases h3:0 < wi d <;> by_cases h4:Sm (wv n.2.1) <;> by_cases h5:Sm (wv d.2.1) <;> simp [h1,h2,h3,h4,h5]
theorem Ea(F:Nat)(hF:A4 F){q:Rt}(h:ROk q):Fk F q=some (decide (RV q),()):=by
 obtain ⟨n,d,u⟩:=q
 obtain ⟨hn,hd⟩:=h
 simp only at hn hd
 unfold Fk Qw N0
 simp only [Il F hF hn,Il F hF hd,Dp F hF hd,Vg F hn,Vg F hd,Gy F (x:=1) (by unfold I64; omega),bS]
 have hs:leI (if wi d=0 then 0 else if wi d < 0 then -1 else 1) 0=!decide (0 < wi d):=by
  unfold leI
  rw [← decide_not]
  exact decide_eq_decide.2 (by rw [← ArQ]; omega)
 rw [hs]
 unfold RV
 by_cases h1:Vl n
 ·by_cases h2:Vl d
  ·by_cases h3:0 < wi d
   ·have ed:d=toW ((wv d.2.1:Nat):Int):=by
     have h:=Abv hd h2
     have hp:wi d=((wv d.2.1:Nat):Int):=by
      have:=Oh d
      omega
     rw [hp] at h
     exact h.symm
    have hg:Qv F (false,n.2) d=some (toW ((A0h n d:Nat):Int),()):=by
     rw [Ua hn]
     conv=>lhs; rw [ed]
     rw [Xf F hF hn.lt hd.lt]
     rfl
    by_cases h4:Sm (wv n.2.1) <;> by_cases h5:Sm (wv d.2.1) <;> simp [h1,h2,h3,h4,h5,hg,ArP]
   ·simp [h1,h2,h3]
  ·simp [h1,h2]
 ·simp [h1]
abbrev Ln:=Int×(Int×(Rt×Unit))
abbrev zR:Rt:=((false,[0,0,0,0],()),((false,[0,0,0,0],()),()))
def A3N(l:List Ln):Prop:=∀ s∈l,I64 s.1∧I64 s.2.1∧ROk s.2.2.1
def lc(l:List Ln):List Int:=l.map (·.1)
def lv(l:List Ln):List Int:=l.map (·.2.1)
def of0:Rt:=(toW 0,(toW 1,()))
theorem AbL(F:Nat){x:Int}(h:I64 x):Sn F x=some ((toW x,(toW 1,())),()):=by
 unfold Sn Qw
 rw [Gy F h,Gy F (x:=1) (by unfold I64; omega)]
 rfl
theorem Awu:ROk of0:=⟨D5 (by decide),D5 (by decide)⟩
theorem Awv:RV of0:=by
 have h0:wv (toW 0).2.1=0:=C0 _
 have h1:wv (toW 1).2.1=1:=C0 _
 refine ⟨Amg _,Amg _,?_,?_,?_,?_⟩
 ·show 0 < wi (toW 1); rw [Ct]; omega
 ·show Sm (wv (toW 0).2.1); rw [h0]; decide
 ·show Sm (wv (toW 1).2.1); rw [h1]; decide
 ·show A0h (toW 0) (toW 1)=1
  unfold A0h
  rw [h0,h1]
  rfl
abbrev tyW:Ty:=.pair .bool (.pair (.arr 4 (.int .u64)) .unit)
def A7H(x:Ln):Bool:=!decide (RV x.2.2.1) || (decide (x.1=1) && !decide (wi x.2.2.1.1=0))
def vE(l:List Ln):Int:=if 4096 < l.length then 3 else if A01 4096 (lc l)=true then(if l.any A7H=true then 1 else 0) else 10
def sp(q:Rt):List Int:=enc (uw (wi q.1))++enc (uw (wi q.2.1))
def slp:List Ln→List Int
 | []=>[]
 | x::t=>if 1 < x.1 then sp x.2.2.1++slp t else slp t
theorem Aww{q:Rt}(h:ROk q):(sp q).length≤74:=by
 have h1:=Yd h.1.abs
 have h2:=Yd h.2.abs
 unfold sp
 rw [List.length_append]
 omega
theorem A7I(q:Rt):Bt (sp q):=Bt.append (Am8 _) (Am8 _)
theorem Aci(F:Nat)(hF:A4 F){b:List Int}(hb:(b.length:Int)≤140737488355000){q:Rt}(h:ROk q):Hv F b q=some (b++sp q,()):=by
 have h1:=Yd h.1.abs
 unfold Hv sp
 rw [Oi F hF (by unfold AnH; omega) h.1]
 simp only [bS]
 rw [Oi F hF (by unfold AnH; rw [List.length_append]; omega) h.2]
 simp only [bS,List.append_assoc]
theorem Awx{b:List Int}(hb:Bt b){at_:Int}(h:(rdw b at_).2.2=0):0≤at_∧at_ < (rdw b at_).2.1∧(rdw b at_).2.1≤b.length∧Cj (B0 b (rdw b at_).2.1) at_=enc (uw (rdw b at_).1):=by
 unfold rdw at h ⊢
 by_cases h0:(gp 37 b at_).2=0
 ·obtain ⟨i1,i2,c,rest,h1,h2,h3,h4,h5,h6⟩:=Auu hb h0
  rw [h1] at h ⊢
  simp only [if_true] at h ⊢
  by_cases h7:dv c < 2*Ax∧dv c≠1
  ·simp only [iP h7]
   have hp:=List.length_pos_iff.2 h4.ne
   have hlen:(b.drop at_.toNat).length=c.length+rest.length:=by rw [h2]; simp
   simp only [List.length_drop] at hlen
   refine ⟨i1,by omega,by omega,?_⟩
   rw [A7v h7.2,h5]
   unfold Cj B0
   rw [List.drop_take,h2,List.take_left' (by omega)]
  ·rw [iN h7] at h; simp at h
 ·rw [iN h0] at h; exact absurd h h0
def rsp(b:List Int)(at_:Int):Rt×Int×Int :=
 if(rdw b at_).2.2=0 then
  if(rdw b (rdw b at_).2.1).2.2=0 then
   if RV (toW (rdw b at_).1,(toW (rdw b (rdw b at_).2.1).1,())) then((toW (rdw b at_).1,(toW (rdw b (rdw b at_).2.1).1,())),(rdw b (rdw b at_).2.1).2.1,0) else(zR,0,5)
  else(zR,0,(rdw b (rdw b at_).2.1).2.2)
 else(zR,0,(rdw b at_).2.2)
theorem ArS(b:List Int)(a c:Int):ROk (toW (rdw b a).1,(toW (rdw b c).1,())):=⟨D5 (Aro b a),D5 (Aro b c)⟩
theorem Xg(F:Nat)(hF:A4 F){b:List Int}(hb:Bt b)(hl:(b.length:Int)≤140737488355328)(at_:Int):Pq F b at_=some ((rsp b at_).1,(rsp b at_).2.1,(rsp b at_).2.2,()):=by
 unfold Pq rsp
 rw [Q4 F hF hb hl at_]
 simp only [bS]
 by_cases c1:(rdw b at_).2.2=0
 ·have y1:eqI (rdw b at_).2.2 0=true:=Ao.2 c1
  rw [iP c1,y1]
  simp only [Bool.not_true,cF,Q4 F hF hb hl,bS]
  by_cases c2:(rdw b (rdw b at_).2.1).2.2=0
  ·have y2:eqI (rdw b (rdw b at_).2.1).2.2 0=true:=Ao.2 c2
   rw [iP c2,y2]
   simp only [Bool.not_true,cF,Ea F hF (ArS b _ _),bS]
   by_cases c3:RV (toW (rdw b at_).1,(toW (rdw b (rdw b at_).2.1).1,()))
   ·rw [iP c3,decide_eq_true c3]; rfl
   ·rw [iN c3,decide_eq_false c3]; rfl
  ·have y2:eqI (rdw b (rdw b at_).2.1).2.2 0=false:=by rw [← Bool.not_eq_true,Ao]; exact c2
   rw [iN c2,y2]; rfl
 ·have y1:eqI (rdw b at_).2.2 0=false:=by rw [← Bool.not_eq_true,Ao]; exact c1
  rw [iN c1,y1]; rfl
theorem Zu(F:Nat)(hF:A4 F){b:List Int}(hb:Bt b)(hl:(b.length:Int)≤140737488355328)(at_:Int):Ow F b at_=some ((rsp b at_).1,(rsp b at_).2.1,(rsp b at_).2.2,()):=by
 have hF':=hF
 unfold A4 at hF'
 obtain ⟨N,hN⟩:∃ N,F=N+1+1+1:=⟨F - 3,by omega⟩
 have st1:∀ {R:Type} (k0:Int→Rt→List W→Option R) (kr:Rt→Int→Int→Option R) (M:Nat) (q:Rt) (x y:W) (a:Int),B2 F k0 kr (M+1) b a q [x,y] 0 =
   if(rdw b a).2.2=0 then B2 F k0 kr M b (rdw b a).2.1 q [toW (rdw b a).1,y] 1 else kr zR 0 (rdw b a).2.2:=by
  intro R k0 kr M q x y a
  rw [B2,Qb F hF hb hl]
  by_cases c1:(rdw b a).2.2=0
  ·rw [iP c1]; simp (disch:=omega) only [bs,↓iP,↓iN]
   rfl
  ·rw [iN c1]; simp (disch:=omega) only [bs,↓iP,↓iN]
 have st2:∀ {R:Type} (k0:Int→Rt→List W→Option R) (kr:Rt→Int→Int→Option R) (M:Nat) (q:Rt) (x y:W) (a:Int),B2 F k0 kr (M+1) b a q [x,y] 1 =
   if(rdw b a).2.2=0 then B2 F k0 kr M b (rdw b a).2.1 q [x,toW (rdw b a).1] 2 else kr zR 0 (rdw b a).2.2:=by
  intro R k0 kr M q x y a
  rw [B2,Qb F hF hb hl]
  by_cases c1:(rdw b a).2.2=0
  ·rw [iP c1]; simp (disch:=omega) only [bs,↓iP,↓iN]
   rfl
  ·rw [iN c1]; simp (disch:=omega) only [bs,↓iP,↓iN]
 have st3:∀ {R:Type} (k0:Int→Rt→List W→Option R) (kr:Rt→Int→Int→Option R) (M:Nat) (q:Rt) (z:List W) (a:Int),B2 F k0 kr (M+1) b a q z 2=k0 a q z:=by
  intro R k0 kr M q z a
  rw [B2]
  simp (disch:=omega) only [bs,↓iP,↓iN]
 unfold Ow
 have key:∀ M,M=N+1+1+1→B2 F
  (fun z6 z7 z8 =>
   let x33v9:=Ak (false,([0,0,0,0],())) z8 0
   let x35v10:=Ak (false,([0,0,0,0],())) z8 1
   (Lb F x35v10).bind fun r11 =>
   bif leI r11.1 0 then
    some (((false,([0,0,0,0],())),((false,([0,0,0,0],())),())),((0:Int),((5:Int),())))
   else
    (I8 F (x33v9,(x35v10,()))).bind fun r13 =>
    bif not r13.1 then
     some (((false,([0,0,0,0],())),((false,([0,0,0,0],())),())),(0,(5,())))
    else
     some ((x33v9,(x35v10,())),(z6,(0,()))))
  (fun z15 z16 z17 =>
   some (z15,(z16,(z17,()))))
  M b at_ ((false,([0,0,0,0],())),((false,([0,0,0,0],())),())) [(false,([0,0,0,0],())),(false,([0,0,0,0],()))] 0=some ((rsp b at_).1,(rsp b at_).2.1,(rsp b at_).2.2,()):=by
  intro M hM
  subst hM
  unfold rsp
  rw [st1]
  by_cases c1:(rdw b at_).2.2=0
  ·rw [iP c1,iP c1,st2]
   by_cases c2:(rdw b (rdw b at_).2.1).2.2=0
   ·rw [iP c2,iP c2,st3]
    show((Lb F (toW (rdw b (rdw b at_).2.1).1)).bind fun r11 =>
     bif leI r11.1 0 then some (zR,((0:Int),((5:Int),())))
     else(I8 F (toW (rdw b at_).1,(toW (rdw b (rdw b at_).2.1).1,()))).bind fun r13 =>
      bif not r13.1 then some (zR,(0,(5,()))) else some ((toW (rdw b at_).1,(toW (rdw b (rdw b at_).2.1).1,())),((rdw b (rdw b at_).2.1).2.1,(0,()))))=_
    have hok:=ArS b at_ (rdw b at_).2.1
    rw [Qd F hok.2,Nv F hF hok]
    simp only [bS]
    by_cases c3:RV (toW (rdw b at_).1,(toW (rdw b (rdw b at_).2.1).1,()))
    ·have hp:=c3.2.2.1
     simp only at hp
     rw [iP c3,decide_eq_true c3,iN (by omega),iN (by omega)]
     rfl
    ·rw [iN c3,decide_eq_false c3]
     cases leI (if wi (toW (rdw b (rdw b at_).2.1).1)=0 then(0:Int) else if wi (toW (rdw b (rdw b at_).2.1).1) < 0 then -1 else 1) 0 <;> rfl
   ·rw [iN c2,iN c2]
  ·rw [iN c1,iN c1]
 exact key F hN
theorem A3O{b:List Int}(hb:Bt b){at_:Int}(h:(rsp b at_).2.2=0):ROk (rsp b at_).1∧RV (rsp b at_).1∧0≤at_∧at_ < (rsp b at_).2.1∧(rsp b at_).2.1≤b.length∧Cj (B0 b (rsp b at_).2.1) at_=sp (rsp b at_).1:=by
 unfold rsp at h ⊢
 by_cases c1:(rdw b at_).2.2=0
 ·rw [iP c1] at h ⊢
  by_cases c2:(rdw b (rdw b at_).2.1).2.2=0
  ·rw [iP c2] at h ⊢
   by_cases c3:RV (toW (rdw b at_).1,(toW (rdw b (rdw b at_).2.1).1,()))
   ·rw [iP c3] at h ⊢
    obtain ⟨i1,i2,i3,i4⟩:=Awx hb c1
    obtain ⟨j1,j2,j3,j4⟩:=Awx hb c2
    refine ⟨ArS b _ _,c3,i1,by show at_ < (rdw b (rdw b at_).2.1).2.1; omega,j3,?_⟩
    show Cj (B0 b (rdw b (rdw b at_).2.1).2.1) at_=_
    unfold sp
    rw [← Us i1 (Int.le_of_lt i2) (Int.le_of_lt j2) j3,i4,j4]
    simp only [Ct]
   ·rw [iN c3] at h; simp at h
  ·rw [iN c2] at h; exact absurd h c2
 ·rw [iN c1] at h; exact absurd h c1
def A3P(b:List Int)(at_ T:Int)(x:List Ln)(end_ e:Int):Prop :=
 A3N x∧(e=0→0≤at_∧x.length≤4096∧AbH (lc x)=T∧at_ < end_∧end_≤b.length∧vE x=0∧hd (lc x) (lv x)++slp x=Cj (B0 b end_) at_)∧(e≠0→x=[]∧end_=0)
theorem A3P.err(b:List Int)(at_ T:Int){e:Int}(h:e≠0):A3P b at_ T [] 0 e:=⟨(fun s hs=>by cases hs),fun h2=>absurd h2 h,fun _=>⟨rfl,rfl⟩⟩
theorem A7J{l:List Ln}(h:wfT (.slice (.pair (.int .i64) (.pair (.int .i64) (.pair (.pair tyW (.pair tyW .unit)) .unit)))) l):A3N l :=
 fun s hs=>⟨X0 (h.2 s hs).1,X0 (h.2 s hs).2.1,Awl (h.2 s hs).2.2.1.1,Awl (h.2 s hs).2.2.1.2.1⟩
theorem Tc:ROk zR:=by
 have h:WOk ((false,[0,0,0,0],()):W):=⟨wd4 (by omega) (by omega) (by omega) (by omega),rfl⟩
 exact ⟨h,h⟩
theorem ArT(F:Nat)(hF:A4 F){x y:W}(hx:WOk x)(hy:WOk y):∃ q ok,Qy F x y=some (q,ok,())∧ROk q∧(ok=true→RV q):=by
 unfold Qy
 rw [Il F hF hx,Il F hF hy,Dp F hF hy]
 simp only [bS]
 by_cases v1:Vl x
 rotate_left
 ·rw [decide_eq_false v1]
  exact ⟨zR,false,rfl,Tc,fun h=>by cases h⟩
 by_cases v2:Vl y
 rotate_left
 ·rw [decide_eq_true v1,decide_eq_false v2]
  exact ⟨zR,false,rfl,Tc,fun h=>by cases h⟩
 rw [decide_eq_true v1,decide_eq_true v2]
 simp only [Bool.not_true,cF]
 by_cases h0:wi y=0
 ·rw [iP h0]
  exact ⟨zR,false,rfl,Tc,fun h=>by cases h⟩
 ·have hz:eqI (if wi y=0 then 0 else if wi y < 0 then -1 else 1) 0=false:=by
   rw [iN h0,← Bool.not_eq_true,Ao]
   split <;> omega
  have hp:0 < wv y.2.1:=by have:=Oh y; omega
  have hg0:0 < Nat.gcd (wv x.2.1) (wv y.2.1):=Nat.gcd_pos_of_pos_right _ hp
  have hgt:=A06 hx.lt hy.lt (.inr hp)
  rw [hz]
  unfold N0
  simp only [cF,bS]
  rw [Ua hx,Ua hy,Xf F hF hx.lt hy.lt]
  simp only [bS]
  generalize Nat.gcd (wv x.2.1) (wv y.2.1)=g at *
  rw [Kg F hF hx.lt hgt hg0,Kg F hF hy.lt hgt hg0]
  simp only [bS]
  have t1:wv x.2.1 / g < Ax:=Nat.lt_of_le_of_lt (Nat.div_le_self _ _) hx.lt
  have t2:wv y.2.1 / g < Ax:=Nat.lt_of_le_of_lt (Nat.div_le_self _ _) hy.lt
  have fin:∀ a:W,WOk a→∃ q ok,K8 F (fun z18 z19=>some (z18,(z19,()))) zR a (toW ((wv y.2.1 / g:Nat):Int))=some (q,ok,())∧ROk q∧(ok=true→RV q):=by
   intro a ha
   have hk:ROk (a,(toW ((wv y.2.1 / g:Nat):Int),())):=⟨ha,Hh t2⟩
   unfold K8
   rw [Ea F hF hk]
   simp only [bS]
   by_cases hv:RV (a,(toW ((wv y.2.1 / g:Nat):Int),()))
   ·rw [decide_eq_true hv]
    exact ⟨_,true,rfl,hk,fun _=>hv⟩
   ·rw [decide_eq_false hv]
    exact ⟨zR,false,rfl,Tc,fun h=>by cases h⟩
  cases eqT Ty.bool x.1 y.1
  ·simp only [Bool.not_false,cT]
   rw [Jg F hF (Hh t1)]
   simp only [bS]
   exact fin _ (D5 (by rw [Int.natAbs_neg]; exact(Hh t1).abs))
  ·simp only [Bool.not_true,cF]
   exact fin _ (Hh t1)
theorem AjA(z:Int):WOk (Adq z).1:=by
 unfold Adq
 split
 ·rename_i h; exact D5 h
 ·exact D5 (by decide)
theorem AbN{x:Int}(h:I64 x):x.natAbs < Ax:=by
 have:=Yb
 unfold I64 at h
 omega
theorem A3N.push{l:List Ln}(h:A3N l){x:Ln}(h1:I64 x.1)(h2:I64 x.2.1)(h3:ROk x.2.2.1):A3N (l++[x]):=by
 intro s hs
 rcases List.mem_append.1 hs with hs | hs
 ·exact h s hs
 ·simp at hs
  subst hs
  exact ⟨h1,h2,h3⟩
theorem AnV(F:Nat)(x4 x16:List Int)(x17:Int){x1:List Int}(h1:Wd x1)(h14:x1.length=4){i:Nat}(hi4:i < 4){x:Int}(hx:0≤x∧x≤18446744073709551615) :
  ∀ (yb ya p q:List Int) (c:Int),x1=ya++yb→p.length=i+ya.length→yb.length≤q.length→Wd q→0≤c∧c≤18446744073709551615→(p++q).length=8 →
  ∀ N,yb.length < N→∃ (r:List Int) (c':Int),Wd r∧r.length=yb.length∧(0≤c'∧c'≤18446744073709551615) ∧
   wv r+c'.toNat*18446744073709551616 ^ yb.length=wv (q.take yb.length)+x.toNat*wv yb+c.toNat ∧
   ∀ (R:Type) (k:List Int→List Int→List Int→Int→Int→List Int→Int→Option R),Km F k N x1 x4 (p++q) (i:Int) x c x16 x17 x1 (ya.length:Int)=k x1 x4 (p++(r++q.drop yb.length)) (i:Int) c' x16 x17:=by
 intro yb
 induction yb with
 | nil =>
  intro ya p q c hy hp hq hw hc hl N hN
  obtain ⟨N,rfl⟩:∃ M,N=M+1:=⟨N - 1,by omega⟩
  refine ⟨[],c,Wd.nil,rfl,hc,?_,?_⟩
  ·simp [wv]
  ·intro R k
   have:x1.length=ya.length:=by rw [hy]; simp
   unfold Km
   simp (disch:=omega) only [bs,↓iP,↓iN]
   simp
 | cons y t ih =>
  intro ya p q c hy hp hq hw hc hl N hN
  obtain ⟨N,rfl⟩:∃ M,N=M+1:=⟨N - 1,by omega⟩
  cases q with
  | nil=>simp at hq
  | cons w q =>
   have hlen1:x1.length=ya.length+(t.length+1):=by rw [hy]; simp
   have hpq:(p++w::q).length=p.length+(q.length+1):=by simp
   have hyr:0≤y∧y≤18446744073709551615:=h1 y (by rw [hy]; simp)
   have hwr:=Wd.head hw
   have hgy:Ak 0 x1 (ya.length:Int)=y:=by rw [hy]; exact Cb _ _ _
   have hprod:=W4 hx hyr
   generalize hxy:x*y=xy at *
   have hgw:Ak 0 (p++w::q) ((i:Int)+(ya.length:Int))=w:=by
    rw [show(i:Int)+(ya.length:Int)=(p.length:Int) by omega]; exact Cb _ _ _
   have hsw:∀ v,B6 (p++w::q) ((i:Int)+(ya.length:Int)) v=(p++[v])++q:=by
    intro v
    rw [show(i:Int)+(ya.length:Int)=(p.length:Int) by omega]; exact Gw _ _ _ _
   obtain ⟨r,c',e1,e2,e3,e4,e5⟩:=ih (ya++[y]) (p++[(xy % 18446744073709551616+w+c) % 18446744073709551616]) q
    (xy / 18446744073709551616+(xy % 18446744073709551616+w) / 18446744073709551616+((xy % 18446744073709551616+w) % 18446744073709551616+c) / 18446744073709551616)
    (by rw [hy]; simp) (by simp; omega) (by simp at hq; omega) (Wd.tail hw) (by omega) (by simp at hl ⊢; omega) N (by simp at hN; omega)
   refine ⟨(xy % 18446744073709551616+w+c) % 18446744073709551616::r,c',Wd.cons (by omega) e1,by simp [e2],e3,?_,?_⟩
   ·have hm:x.toNat*wv (y::t)=x.toNat*y.toNat+18446744073709551616*(x.toNat*wv t):=by
     rw [wv,Nat.mul_add,Nat.mul_left_comm]
    have hxyn:x.toNat*y.toNat=xy.toNat:=by
     rw [← hxy]
     have:((x.toNat*y.toNat:Nat):Int)=x*y:=by rw [Int.natCast_mul,Int.toNat_of_nonneg hx.1,Int.toNat_of_nonneg hyr.1]
     omega
    rw [hm,hxyn]
    simp only [List.length_cons,List.take_succ_cons,wv,Nat.pow_succ]
    rw [← Nat.mul_assoc]
    generalize c'.toNat*18446744073709551616 ^ t.length=T at *
    generalize x.toNat*wv t=Z at *
    omega
   ·intro R k
    have e5:=e5 R k
    have hcast:((ya++[y]).length:Int)=(ya.length:Int)+1:=by simp
    rw [hcast] at e5
    unfold Km Ft
    have c1:(leI 0 w && leI 0 (xy % 18446744073709551616) && leI 0 0 && leI 0 1)=true:=by simp only [Bool.and_eq_true,Bu]; omega
    have c2:(leI 0 ((w+xy % 18446744073709551616+0) % 18446744073709551616) && leI 0 c && leI 0 0 && leI 0 1)=true:=by simp only [Bool.and_eq_true,Bu]; omega
    have hyl:(ya.length:Int) < 4:=by omega
    simp (disch:=omega) only [bs,↓iP,↓iN,hgy,Amd F hx hyr,hxy,hgw,hsw,c1,c2,De]
    rw [show((w+xy % 18446744073709551616+0) % 18446744073709551616+c+0) % 18446744073709551616=(xy % 18446744073709551616+w+c) % 18446744073709551616 by omega,
     show xy / 18446744073709551616+(w+xy % 18446744073709551616+0) / 18446744073709551616+((w+xy % 18446744073709551616+0) % 18446744073709551616+c+0) / 18446744073709551616
      = xy / 18446744073709551616+(xy % 18446744073709551616+w) / 18446744073709551616+((xy % 18446744073709551616+w) % 18446744073709551616+c) / 18446744073709551616 by omega]
    refine Eq.trans e5 ?_
    simp
theorem AnW(F:Nat)(hF:A4 F){R:Type}(k:List Int→List Int→Option R)(x4:List Int){x0 x1:List Int}(h0:Wd x0)(h1:Wd x1)(h04:x0.length=4)(h14:x1.length=4) :
  ∀ (xb xa x5:List Int),x0=xa++xb→Wd x5→x5.length=8→wv x5=wv xa*wv x1 →
  ∀ N,xb.length < N→∃ o:List Int,Wd o∧o.length=8∧wv o=wv x0*wv x1∧Nd F k N x1 x4 x5 x0 (xa.length:Int)=k x4 o:=by
 intro xb
 induction xb with
 | nil =>
  intro xa x5 hx hw hl hv N hN
  obtain ⟨N,rfl⟩:∃ M,N=M+1:=⟨N - 1,by omega⟩
  have hxa:x0=xa:=by rw [hx]; simp
  refine ⟨x5,hw,hl,by rw [hv,hxa],?_⟩
  have:x0.length=xa.length:=by rw [hxa]
  unfold Nd
  simp (disch:=omega) only [bs,↓iP,↓iN]
 | cons x t ih =>
  intro xa x5 hx hw hl hv N hN
  obtain ⟨N,rfl⟩:∃ M,N=M+1:=⟨N - 1,by omega⟩
  have hlen0:x0.length=xa.length+(t.length+1):=by rw [hx]; simp
  have hxr:0≤x∧x≤18446744073709551615:=h0 x (by rw [hx]; simp)
  have hgi:Ak 0 x0 (xa.length:Int)=x:=by rw [hx]; exact Cb _ _ _
  have hxa:Wd xa:=by rw [hx] at h0; exact Wd.left h0
  have hsp:=List.take_append_drop xa.length x5
  have hpl:(x5.take xa.length).length=xa.length:=by simp; omega
  have hql:(x5.drop xa.length).length=t.length+x1.length+1:=by simp; omega
  have hqw:=Wd.drop hw xa.length
  have hpw:=Wd.take hw xa.length
  generalize x5.take xa.length=p at *
  generalize x5.drop xa.length=q at *
  subst hsp
  obtain ⟨r,c',e1,e2,e3,e4,e5⟩:=AnV F x4 x0 (xa.length:Int) h1 h14 (i:=xa.length) (by omega) hxr x1 [] p q 0 (by simp) (by simp [hpl]) (by omega) hqw (by omega) (by simp; omega) F (by unfold A4 at hF; omega)
  have hd:(q.drop x1.length).length=t.length+1:=by simp; omega
  have hqs:=List.take_append_drop x1.length q
  have htl:(q.take x1.length).length=x1.length:=by simp; omega
  have hvq:wv q=wv (q.take x1.length)+18446744073709551616 ^ x1.length*wv (q.drop x1.length):=by
   conv=>lhs; rw [← hqs]
   rw [B5,htl]
  have hdw:=Wd.drop hqw x1.length
  generalize q.take x1.length=q1 at *
  generalize q.drop x1.length=q2 at *
  cases q2 with
  | nil=>simp at hd
  | cons h rest =>
   have hz:wv (h::rest)=0:=by
    have b1:=Tz hxa
    have b2:=Tz h1
    have b3:wv xa*wv x1 < 18446744073709551616 ^ xa.length*18446744073709551616 ^ x1.length:=Nat.mul_lt_mul'' b1 b2
    rw [B5,hpl,hvq,Nat.mul_add,← Nat.mul_assoc] at hv
    rcases Nat.eq_zero_or_pos (wv (h::rest)) with h0 | h0
    ·exact h0
    ·have:18446744073709551616 ^ xa.length*18446744073709551616 ^ x1.length*1≤18446744073709551616 ^ xa.length*18446744073709551616 ^ x1.length*wv (h::rest):=Nat.mul_le_mul_left _ h0
     omega
   obtain ⟨hh,hr⟩:=Y6 (Wd.head hdw).1 hz
   have hnew:p++(r++h::rest)=(p++r)++h::rest:=by simp
   have hset:B6 (p++(r++h::rest)) ((xa.length:Int)+4) c'=(p++r++[c'])++rest:=by
    rw [hnew,show(xa.length:Int)+4=((p++r).length:Int) by simp; omega]
    exact Gw _ _ _ _
   obtain ⟨o,f1,f2,f3,f4⟩:=ih (xa++[x]) ((p++r++[c'])++rest) (by rw [hx]; simp)
    (Wd.append (Wd.append (Wd.append hpw e1) (Wd.one e3)) (Wd.tail hdw)) (by simp at hd ⊢; omega) (by
     rw [List.append_assoc,List.append_assoc,B5,B5,B5,hpl,e2,hr]
     have e4:wv r+c'.toNat*18446744073709551616 ^ x1.length=wv q1+x.toNat*wv x1:=by simpa using e4
     rw [B5,hpl,hvq,hz] at hv
     rw [B5,Nat.add_mul,← hv]
     simp only [wv,Nat.mul_zero,Nat.add_zero]
     rw [Nat.mul_comm (18446744073709551616 ^ x1.length) c'.toNat,e4,Nat.mul_add,Nat.mul_assoc,Nat.add_assoc]) N (by simp at hN; omega)
   refine ⟨o,f1,f2,f3,?_⟩
   have hcast:((xa++[x]).length:Int)=(xa.length:Int)+1:=by simp
   rw [hcast] at f4
   have e5:∀ (R:Type) (k:List Int→List Int→List Int→Int→Int→List Int→Int→Option R),Km F k F x1 x4 (p++q) (xa.length:Int) x 0 x0 (xa.length:Int) x1 0=k x1 x4 (p++(r++h::rest)) (xa.length:Int) c' x0 (xa.length:Int):=e5
   have hlf:(p++(r++h::rest)).length=8:=by simp at hd ⊢; omega
   unfold Nd
   simp (disch:=omega) only [bs,↓iP,↓iN,hgi]
   rw [e5]
   simp (disch:=omega) only [bs,↓iP,↓iN,hset]
   exact f4
theorem AjB(F:Nat)(hF:A4 F){a b:List Int}(ha:Wd a)(hb:Wd b)(h4:a.length=4)(h5:b.length=4) :
  ∃ l,Z7 F a b=some (l,decide (wv a*wv b < Ax),())∧(wv a*wv b < Ax→l=Tf (wv a*wv b)):=by
 obtain ⟨o,h1,h2,h3,e⟩:=AnW F hF (fun z25 z26=>some ((((List.take 0 z25)++(List.take 4 (List.drop 0 z26)))++(List.drop 4 z25)),(eqT (.arr 4 (.int .u64)) (List.take 4 (List.drop 4 z26)) [0,0,0,0],()))) [0,0,0,0] ha hb h4 h5 a [] [0,0,0,0,0,0,0,0] (by simp) (fun x hx=>by simp at hx; omega) rfl (by simp [wv]) F (by unfold A4 at hF; omega)
 have hs:=List.take_append_drop 4 o
 have hlo:(o.take 4).length=4:=by simp; omega
 have hhi:(o.drop 4).length=4:=by simp; omega
 have hv:wv o=wv (o.take 4)+18446744073709551616 ^ 4*wv (o.drop 4):=by
  conv=>lhs; rw [← hs]
  rw [B5,hlo]
 have wlo:=Wd.take h1 4
 have whi:=Wd.drop h1 4
 have blo:wv (o.take 4) < Ax:=by have:=Tz wlo; rw [hlo] at this; exact this
 have hz:(o.drop 4=[0,0,0,0])↔wv a*wv b < Ax:=by
  rw [← h3,hv]
  constructor
  ·intro h
   rw [h]
   simpa [wv] using blo
  ·intro h
   have h0:wv (o.drop 4)=0:=by
    rcases Nat.eq_zero_or_pos (wv (o.drop 4)) with h0 | h0
    ·exact h0
    ·have:18446744073709551616 ^ 4*1≤18446744073709551616 ^ 4*wv (o.drop 4):=Nat.mul_le_mul_left _ h0
     unfold Ax at h
     omega
   exact Y8 whi (fun x hx=>by simp at hx; omega) hhi (by rw [h0]; simp [wv])
 refine ⟨o.take 4,?_,fun h=>?_⟩
 ·unfold Z7
  refine e.trans ?_
  rw [Q3,List.take_of_length_le (l:=o.drop 4) (by omega)]
  simp only [List.take_zero,List.drop_zero,List.nil_append,show List.drop 4 ([0,0,0,0]:List Int)=[] from rfl,List.append_nil,decide_eq_decide.2 hz]
 ·have h0:=hz.2 h
  rw [h0] at hv
  have hv:wv o=wv (o.take 4):=by rw [hv]; simp [wv]
  rw [← h3,hv]
  exact(V0 wlo hlo).symm
theorem A07(a b:Int):(if(!eqT Ty.bool (toW a).1 (toW b).1)=true then -((a.natAbs*b.natAbs:Nat):Int) else((a.natAbs*b.natAbs:Nat):Int))=a*b:=by
 rw [show(toW a).1=decide (a < 0) from rfl,show(toW b).1=decide (b < 0) from rfl]
 show(if(!(decide (a < 0) == decide (b < 0)))=true then _ else _)=_
 by_cases ha:a < 0 <;> by_cases hb:b < 0
 ·simp only [ha,hb,decide_true,beq_self_eq_true,Bool.not_true,Bool.false_eq_true,if_false]
  rw [Int.natCast_mul,show((a.natAbs:Nat):Int)=-a by omega,show((b.natAbs:Nat):Int)=-b by omega,Int.neg_mul_neg]
 ·simp [ha,hb]
  rw [show((b.natAbs:Nat):Int)=b by omega,show((a.natAbs:Nat):Int)=-a by omega,Int.neg_mul,Int.neg_neg]
 ·simp [ha,hb]
  rw [show((b.natAbs:Nat):Int)=-b by omega,show((a.natAbs:Nat):Int)=a by omega,Int.mul_neg,Int.neg_neg]
 ·simp only [ha,hb,decide_false,beq_self_eq_true,Bool.not_true,Bool.false_eq_true,if_false]
  rw [Int.natCast_mul,show((a.natAbs:Nat):Int)=a by omega,show((b.natAbs:Nat):Int)=b by omega]
theorem AbO(F:Nat)(hF:A4 F){x y:W}(hx:WOk x)(hy:WOk y):Z8 F x y=some ((Adq (wi x*wi y)).1,(Adq (wi x*wi y)).2,()):=by
 unfold Z8
 have hxo:=D5 hx.abs
 have hyo:=D5 hy.abs
 rw [Gh F hx,Gh F hy]
 have v1:wv (toW (wi x)).2.1=(wi x).natAbs:=C0 _
 have v2:wv (toW (wi y)).2.1=(wi y).natAbs:=C0 _
 obtain ⟨l,e,hl⟩:=AjB F hF hxo.1 hyo.1 hxo.2 hyo.2
 rw [v1,v2] at e hl
 simp only [bS,e]
 have hn:(wi x*wi y).natAbs=(wi x).natAbs*(wi y).natAbs:=Int.natAbs_mul _ _
 unfold Adq
 rw [hn]
 by_cases h:(wi x).natAbs*(wi y).natAbs < Ax
 ·rw [iP h,decide_eq_true h,hl h]
  simp only [Bool.not_true,cF]
  unfold Nc
  have ho:WOk ((!eqT Ty.bool (toW (wi x)).1 (toW (wi y)).1),(Tf ((wi x).natAbs*(wi y).natAbs),())):=⟨Lw _,Do h⟩
  rw [Gh F ho]
  simp only [bS]
  have hw:wi ((!eqT Ty.bool (toW (wi x)).1 (toW (wi y)).1),(Tf ((wi x).natAbs*(wi y).natAbs),()))=wi x*wi y:=by
   unfold wi
   simp only [C0]
   exact A07 _ _
  rw [hw]
 ·rw [iN h,decide_eq_false h,Gg]
  rfl
def AuO(a b:Int):Int:=if a < b then -1 else if b < a then 1 else 0
theorem AbP(F:Nat)(hF:A4 F){x y:W}(hx:WOk x)(hy:WOk y):P5 F x y=some (AuO (wi x) (wi y),()):=by
 unfold P5
 have hxo:=D5 hx.abs
 have hyo:=D5 hy.abs
 rw [Gh F hx,Gh F hy]
 simp only [bS]
 unfold Ld Lf
 have c1:(toW (wi x)).1=decide (wi x < 0):=rfl
 have c2:(toW (wi y)).1=decide (wi y < 0):=rfl
 have w1:wv (toW (wi x)).2.1=(wi x).natAbs:=C0 _
 have w2:wv (toW (wi y)).2.1=(wi y).natAbs:=C0 _
 rw [c1,c2]
 simp only [Pt F hF hxo.1 hyo.1 hxo.2 hyo.2,Pt F hF hyo.1 hxo.1 hyo.2 hxo.2,bS,w1,w2]
 generalize wi x=a
 generalize wi y=b
 unfold AuO Amb
 by_cases ha:a < 0 <;> by_cases hb:b < 0 <;> simp only [ha,hb,decide_true,decide_false,cT,cF,Option.some.injEq,Prod.mk.injEq,and_true] <;> (try split) <;> (try split) <;> (try split) <;> (try split) <;> omega
def rc(p q:Rt):Int:=AuO (wi p.1*wi q.2.1) (wi q.1*wi p.2.1)
theorem A3Q{a b:Nat}(ha:Sm a)(hb:Sm b):a*b < Ax:=by
 unfold Sm at ha hb
 have:=Nat.mul_lt_mul'' ha hb
 refine Nat.lt_of_lt_of_le this ?_
 unfold Ax; decide
theorem S1{z:Int}(h:z.natAbs < Ax):Adq z=(toW z,true):=by unfold Adq; rw [iP h]
theorem AfF{p q:Rt}(hp:RV p)(hq:RV q):(wi p.1*wi q.2.1).natAbs < Ax:=by
 rw [Int.natAbs_mul,Oh,Oh]
 exact A3Q hp.2.2.2.1 hq.2.2.2.2.1
theorem Zv(F:Nat)(hF:A4 F){p q:Rt}(hp:ROk p)(hq:ROk q)(vp:RV p)(vq:RV q):Oq F p q=some (rc p q,()):=by
 unfold Oq Sp Oo
 rw [Nv F hF hp,Nv F hF hq,decide_eq_true vp,decide_eq_true vq]
 have h1:=AfF vp vq
 have h2:=AfF vq vp
 simp only [bS,Bool.not_true,cF,AbO F hF hp.1 hq.2,AbO F hF hq.1 hp.2,S1 h1,S1 h2,AbP F hF (D5 h1) (D5 h2),Ct]
 rfl
theorem Dt(F:Nat)(hF:A4 F){p q:Rt}(hp:ROk p)(hq:ROk q)(vp:RV p)(vq:RV q):Dh F p q=some (rc p q,()):=by
 unfold Dh Sl
 rw [Ea F hF hp,Ea F hF hq,decide_eq_true vp,decide_eq_true vq]
 have h1:=AfF vp vq
 have h2:=AfF vq vp
 simp only [bS,Bool.not_true,cF,N6 F hF hp.1 hq.2,N6 F hF hq.1 hp.2,S1 h1,S1 h2,Kf F hF (D5 h1) (D5 h2),Ct]
 rfl
theorem A3S(F:Nat)(hF:A4 F)(p q:Int):Nb F [p,q]=some (if p=0 then q else p,()):=by
 unfold A4 at hF
 obtain ⟨N,hN⟩:∃ N,F=N+1+1+1:=⟨F - 3,by omega⟩
 unfold Nb
 have l2:(([p,q]:List Int).length:Int)=2:=rfl
 have key:∀ M,M=N+1+1+1→D7 F (fun z6=>some (z6,())) (fun z7=>some (z7,())) M 0 [p,q] (([p,q]:List Int).length:Int) 0=some (if p=0 then q else p,()):=by
  intro M hM
  subst hM
  rw [Yk F _ _ _ (by omega) (by rw [l2]; omega) (by rw [l2]; omega),show Ak 0 [p,q] 0=p from rfl]
  split
  ·rw [show(0:Int)+1=1 from rfl,Yk F _ _ _ (by omega) (by rw [l2]; omega) (by rw [l2]; omega),show Ak 0 [p,q] 1=q from rfl]
   split
   ·rename_i h
    rw [show(1:Int)+1=2 from rfl,D7,l2,h]
    simp (disch:=omega) only [bs,↓iP,↓iN]
   ·rfl
  ·rfl
 exact key F hN
theorem ArU(F:Nat)(x y:Int):Jt F x y=some (AuO x y,()):=by
 unfold Jt Lc AuO
 have h1:eqI x x=true:=Ao.2 rfl
 have h2:eqI y y=true:=Ao.2 rfl
 simp only [h1,h2,bS,Bool.not_true,A4p,Ah,Bool.false_eq_true,if_false]
 split
 ·rfl
 ·split <;> rfl
abbrev Gr:=Int×(Rt×(List Int×Unit))
abbrev zG:Gr:=(0,(zR,([],())))
def GOk(l:List Gr):Prop:=∀ g∈l,I64 g.1∧ROk g.2.1∧Sg g.2.2.1∧(g.2.2.1.length:Int)≤140737488355328
theorem Oy(d:List Gr)(x:Gr)(t:List Gr):Ak zG (d++x::t) (d.length:Int)=x:=by
 simp [Ak,List.getD_eq_getElem?_getD]
theorem Aie(d:List Gr)(x:Gr)(t:List Gr):Ak zG ((d++[x])++t) (d.length:Int)=x:=by
 rw [List.append_assoc]; exact Oy d x t
theorem AbQ(d:List Int)(x:Int)(t:List Int):Ak 0 ((d++[x])++t) (d.length:Int)=x:=by
 rw [List.append_assoc]; exact Cb d x t
def tot:List Gr→Nat
 | []=>0
 | g::t=>g.2.2.1.length+tot t
theorem Awy:∀ {l:List Gr},GOk l→(tot l:Int)≤140737488355328*l.length
 | [],_=>by simp [tot]
 | g::t,h=>by
  have h1:=Awy (l:=t) (fun x hx=>h x (List.mem_cons_of_mem _ hx))
  have h2:=(h g (by simp)).2.2.2
  simp only [tot,List.length_cons]
  push_cast
  omega
theorem AjC(F:Nat){R:Type}(k:Int→Option R){src:List Gr}(hs:GOk src)(hb:src.length≤4096):∀ (rest pre:List Gr),src=pre++rest→∀ N,rest.length < N →
  Ei F k N (tot pre:Int) src (src.length:Int) (pre.length:Int)=k (tot src:Int):=by
 intro rest
 induction rest with
 | nil =>
  intro pre he N hN
  obtain ⟨N,rfl⟩:∃ M,N=M+1:=⟨N - 1,by omega⟩
  have hlen:src.length=pre.length:=by rw [he]; simp
  have hp:src=pre:=by rw [he]; simp
  unfold Ei
  simp (disch:=omega) only [bs,↓iP,↓iN]
  rw [hp]
 | cons x rest ih =>
  intro pre he N hN
  obtain ⟨N,rfl⟩:∃ M,N=M+1:=⟨N - 1,by omega⟩
  simp only [List.length_cons] at hN
  have hlen:src.length=pre.length+1+rest.length:=by rw [he]; simp; omega
  have g:Ak zG src (pre.length:Int)=x:=by rw [he]; exact Oy pre x rest
  have e:=ih (pre++[x]) (by rw [he]; simp) N (by omega)
  have hpl:(((pre++[x]).length:Nat):Int)=(pre.length:Int)+1:=by simp
  have htp:∀ a:List Gr,tot (a++[x])=tot a+x.2.2.1.length:=by
   intro a
   induction a with
   | nil=>simp [tot]
   | cons y a iha=>simp only [List.cons_append,tot,iha]; omega
  rw [hpl,htp] at e
  have b1:=Awy (l:=pre) (fun y hy=>hs y (by rw [he]; simp [hy]))
  have b2:=(hs x (by rw [he]; simp)).2.2.2
  push_cast at e
  unfold Ei
  simp (disch:=omega) only [bs,↓iP,↓iN,g]
  exact e
theorem Xh(F:Nat)(hF:A4 F){l:List Gr}(h:GOk l)(hb:l.length≤4096):I6 F l=some ((tot l:Int),()):=by
 unfold I6
 exact AjC F _ h hb l [] rfl F (by unfold A4 at hF; omega)
def okS:List Bool→Int→List Int→Option (List Bool)
 | seen,_,[]=>some seen
 | seen,p,s::t=>if 0≤s∧s < 4096∧Ak false seen s=false∧p < s then okS (B6 seen s true) s t else none
def AfG(p:Int)(pre:List Int):Prop:=(pre=[]∧p=-1)∨∃ d,pre=d++[p]
theorem AfG.push(pre:List Int)(s:Int):AfG s (pre++[s]):=.inr ⟨pre,rfl⟩
theorem Aif(F:Nat){R:Type}(k2:List Gr→List Bool→List Gr→Int→Int→Option R)(kr:Int→Option R)(x0 x16:List Gr)(x17 x18:Int){g:Gr}(hb:(g.2.2.1.length:Int)≤140737488355328):∀ (rest pre:List Int) (seen:List Bool) (p:Int),g.2.2.1=pre++rest→AfG p pre→∀ N,rest.length < N →
  Dj F k2 kr N x0 seen g x16 x17 x18 g.2.2.1 (g.2.2.1.length:Int) (pre.length:Int)=match okS seen p rest with | some s=>k2 x0 s x16 x17 x18 | none=>kr 1:=by
 intro rest
 induction rest with
 | nil =>
  intro pre seen p he hp N hN
  obtain ⟨N,rfl⟩:∃ M,N=M+1:=⟨N - 1,by omega⟩
  have hlen:g.2.2.1.length=pre.length:=by rw [he]; simp
  unfold Dj okS
  simp (disch:=omega) only [bs,↓iP,↓iN]
 | cons s rest ih =>
  intro pre seen p he hp N hN
  obtain ⟨N,rfl⟩:∃ M,N=M+1:=⟨N - 1,by omega⟩
  simp only [List.length_cons] at hN
  have hlen:g.2.2.1.length=pre.length+1+rest.length:=by rw [he]; simp; omega
  have hg:Ak 0 g.2.2.1 (pre.length:Int)=s:=by rw [he]; exact Cb pre s rest
  have hpl:(((pre++[s]).length:Nat):Int)=(pre.length:Int)+1:=by simp
  unfold Dj
  by_cases c1:s < 0
  ·rw [okS,iN (by omega)]
   simp (disch:=omega) only [bs,↓iP,↓iN,hg]
  by_cases c2:4096≤s
  ·rw [okS,iN (by omega)]
   simp (disch:=omega) only [bs,↓iP,↓iN,hg]
  by_cases c3:Ak false seen s=true
  ·rw [okS,iN (by rw [c3]; simp)]
   simp (disch:=omega) only [bs,↓iP,↓iN,hg,c3]
  rw [Bool.not_eq_true] at c3
  rcases hp with ⟨hp,rfl⟩ | ⟨d,hp⟩
  ·have e:=ih (pre++[s]) (B6 seen s true) s (by rw [he]; simp) (AfG.push pre s) N (by omega)
   rw [hpl] at e
   rw [okS,iP ⟨by omega,by omega,c3,by omega⟩]
   have h0:pre.length=0:=by rw [hp]; rfl
   simp (disch:=omega) only [bs,↓iP,↓iN,hg,c3]
   exact e
  ·have hd:(pre.length:Int)=(d.length:Int)+1:=by rw [hp]; simp
   have hl:Ak 0 g.2.2.1 ((pre.length:Int) - 1)=p:=by
    rw [hd,show(d.length:Int)+1 - 1=(d.length:Int) by omega,he,hp]
    exact AbQ d p (s::rest)
   by_cases c4:p < s
   ·have e:=ih (pre++[s]) (B6 seen s true) s (by rw [he]; simp) (AfG.push pre s) N (by omega)
    rw [hpl] at e
    rw [okS,iP ⟨by omega,by omega,c3,c4⟩]
    simp (disch:=omega) only [bs,↓iP,↓iN,hg,c3,hl]
    exact e
   ·rw [okS,iN (by omega)]
    simp (disch:=omega) only [bs,↓iP,↓iN,hg,c3,hl]
def AbS(a b:Gr):Bool:=decide (a.1 < b.1) || (decide (a.1=b.1) && decide (rc a.2.1 b.2.1 < 0))
def okG:List Bool→Option Gr→List Gr→Bool
 | _,_,[]=>true
 | seen,p,g::t=>decide (RV g.2.1) && (!g.2.2.1.isEmpty && ((match p with | none=>true | some q=>AbS q g) && (match okS seen (-1) g.2.2.1 with | some s=>okG s (some g) t | none=>false)))
theorem V3(F:Nat)(hF:A4 F){a b:Gr}(ha:ROk a.2.1)(hb:ROk b.2.1)(va:RV a.2.1)(vb:RV b.2.1):∃ r,Kd F a b=some (r,())∧(0≤r↔AbS a b=false):=by
 unfold Kd
 rw [ArU,Zv F hF ha hb va vb]
 simp only [bS,A3S F hF]
 refine ⟨_,rfl,?_⟩
 unfold AbS
 generalize rc a.2.1 b.2.1=r
 unfold AuO
 simp only [Bool.or_eq_false_iff,Bool.and_eq_false_iff,decide_eq_false_iff_not]
 split <;> (try split) <;> (try split) <;> omega
def Awz(p:Option Gr)(pre:List Gr):Prop:=(pre=[]∧p=none)∨∃ d q,pre=d++[q]∧p=some q∧RV q.2.1
theorem Aig(F:Nat)(hF:A4 F){R:Type}(k0:Option R)(kr:Int→Option R){src:List Gr}(hs:GOk src)(hb:src.length≤4096):∀ (rest pre:List Gr) (seen:List Bool) (p:Option Gr),src=pre++rest→Awz p pre→∀ N,rest.length < N →
  Cg F k0 kr N src seen src (src.length:Int) (pre.length:Int)=bif okG seen p rest then k0 else kr 1:=by
 intro rest
 induction rest with
 | nil =>
  intro pre seen p he hp N hN
  obtain ⟨N,rfl⟩:∃ M,N=M+1:=⟨N - 1,by omega⟩
  have hlen:src.length=pre.length:=by rw [he]; simp
  unfold Cg okG
  simp (disch:=omega) only [bs,↓iP,↓iN]
 | cons x rest ih =>
  intro pre seen p he hp N hN
  obtain ⟨N,rfl⟩:∃ M,N=M+1:=⟨N - 1,by omega⟩
  simp only [List.length_cons] at hN
  have hlen:src.length=pre.length+1+rest.length:=by rw [he]; simp; omega
  have g:Ak zG src (pre.length:Int)=x:=by rw [he]; exact Oy pre x rest
  obtain ⟨x1,x2,x3,x4⟩:=hs x (by rw [he]; simp)
  have ev:=Nv F hF x2
  have hpl:(((pre++[x]).length:Nat):Int)=(pre.length:Int)+1:=by simp
  unfold Cg okG
  by_cases hv:RV x.2.1
  rotate_left
  ·have dv:decide (RV x.2.1)=false:=decide_eq_false hv
   rw [dv,Bool.false_and,cF]
   simp (disch:=omega) only [bs,↓iP,↓iN,g,ev,dv]
  have dv:decide (RV x.2.1)=true:=decide_eq_true hv
  by_cases hne:x.2.2.1=[]
  ·have hie:x.2.2.1.isEmpty=true:=by rw [hne]; rfl
   rw [dv,hie,Bool.not_true,Bool.false_and,Bool.and_false,cF]
   have hl0:x.2.2.1.length=0:=by rw [hne]; rfl
   simp (disch:=omega) only [bs,↓iP,↓iN,g,ev,dv]
  have hie:x.2.2.1.isEmpty=false:=by cases h:x.2.2.1 with
   | nil=>exact absurd h hne
   | cons a b=>rfl
  have hl0:x.2.2.1.length≠0:=fun h=>hne (List.length_eq_zero_iff.1 h)
  rw [dv,hie,Bool.not_false,Bool.true_and,Bool.true_and]
  have tail:Hb F (fun z37 z38 z39 z40 z41=>Cg F k0 kr N z37 z38 z39 z40 (As .i64 z41 1)) (fun z43=>kr z43) src seen x src (src.length:Int) (pre.length:Int)=bif(match okS seen (-1) x.2.2.1 with | some s=>okG s (some x) rest | none=>false) then k0 else kr 1:=by
   unfold Hb
   have e0:=Aif F (fun z31 z32 z33 z34 z35=>Cg F k0 kr N z31 z32 z33 z34 (As .i64 z35 1)) (fun z36=>kr z36) src src (src.length:Int) (pre.length:Int) x4 x.2.2.1 [] seen (-1) rfl (.inl ⟨rfl,rfl⟩) F (by unfold A4 at hF; omega)
   refine e0.trans ?_
   cases hS:okS seen (-1) x.2.2.1 with
   | none=>simp
   | some s =>
    have e:=ih (pre++[x]) s (some x) (by rw [he]; simp) (.inr ⟨pre,x,rfl,rfl,hv⟩) N (by omega)
    rw [hpl] at e
    simp only
    refine Eq.trans ?_ e
    simp (disch:=omega) only [bs,↓iP,↓iN]
  rcases hp with ⟨hp,rfl⟩ | ⟨d,q,hp,rfl,hq⟩
  ·have h0:pre.length=0:=by rw [hp]; rfl
   simp only [Bool.true_and]
   rw [← tail]
   simp (disch:=omega) only [bs,↓iP,↓iN,g,ev,dv]
  ·have hd:(pre.length:Int)=(d.length:Int)+1:=by rw [hp]; simp
   have hl:Ak zG src ((pre.length:Int) - 1)=q:=by
    rw [hd,show(d.length:Int)+1 - 1=(d.length:Int) by omega,he,hp]
    exact Aie d q (x::rest)
   have q2:=(hs q (by rw [he,hp]; simp)).2.1
   obtain ⟨r,er,hr⟩:=V3 F hF q2 x2 hq hv
   simp only
   by_cases hlt:AbS q x=true
   ·rw [hlt,Bool.true_and,← tail]
    have hr0:r < 0:=by
     rcases Int.lt_or_le r 0 with h | h
     ·exact h
     ·rw [hr.1 h] at hlt; cases hlt
    simp (disch:=omega) only [bs,↓iP,↓iN,g,ev,dv,hl,er]
   ·rw [Bool.not_eq_true] at hlt
    rw [hlt,Bool.false_and,cF]
    have hr0:0≤r:=hr.2 hlt
    simp (disch:=omega) only [bs,↓iP,↓iN,g,ev,dv,hl,er]
def gvE(l:List Gr):Int:=if 4096 < l.length then 3 else if 4096 < tot l then 3 else if okG (List.replicate 4096 false) none l=true then 0 else 1
theorem Qe(F:Nat)(l:List Gr):Gs F l=bif ltI 4096 (Au l) then some (3,()) else(I6 F l).bind fun r3=>bif ltI 4096 r3.1 then some (3,()) else Cg F (some (0,())) (fun z51=>some (z51,())) F l (List.replicate 4096 false) l (Au l) 0:=by kernel_rfl
theorem Nh(F:Nat)(hF:A4 F){l:List Gr}(h:GOk l)(hb:(l.length:Int)≤140737488355328):Gs F l=some (gvE l,()):=by
 unfold gvE
 by_cases c0:4096 < l.length
 ·rw [iP c0]
  rw [Qe]
  have x1:ltI 4096 (Au l)=true:=by rw [Ah]; unfold Au; omega
  rw [x1,cT]
 rw [iN c0]
 have x1:ltI 4096 (Au l)=false:=by rw [← Bool.not_eq_true,Ah]; unfold Au; omega
 rw [Qe,x1,cF,Xh F hF h (by omega)]
 simp only [bS]
 by_cases c1:4096 < tot l
 ·have x2:ltI 4096 (tot l:Int)=true:=by rw [Ah]; omega
  rw [iP c1,x2,cT]
 have x2:ltI 4096 (tot l:Int)=false:=by rw [← Bool.not_eq_true,Ah]; omega
 rw [iN c1,x2,cF]
 refine(Aig F hF _ _ h (by omega) l [] (List.replicate 4096 false) none rfl (.inl ⟨rfl,rfl⟩) F (by unfold A4 at hF; omega)).trans ?_
 generalize okG (List.replicate 4096 false) none l=o
 cases o <;> rfl
def Asc:Int→List Int→Prop
 | _,[]=>True
 | p,s::t=>(0≤s∧s < 4096∧p < s)∧Asc s t
theorem ArV:∀ {t:List Int} {seen:List Bool} {p:Int} {s:List Bool},okS seen p t=some s→Asc p t
 | [],_,_,_,_=>trivial
 | x::t,seen,p,s,h=>by
  rw [okS] at h
  split at h
  ·rename_i c
   exact ⟨⟨c.1,c.2.1,c.2.2.2⟩,ArV h⟩
  ·cases h
theorem AbT:∀ {l:List Gr} {seen:List Bool} {p:Option Gr},okG seen p l=true→∀ g∈l,RV g.2.1∧g.2.2.1≠[]∧Asc (-1) g.2.2.1
 | [],_,_,_=>fun g hg=>by cases hg
 | x::t,seen,p,h=>by
  unfold okG at h
  simp only [Bool.and_eq_true,decide_eq_true_eq,Bool.not_eq_true'] at h
  obtain ⟨h1,h2,h3,h4⟩:=h
  cases hS:okS seen (-1) x.2.2.1 with
  | none=>rw [hS] at h4; cases h4
  | some s =>
   rw [hS] at h4
   intro g hg
   rcases List.mem_cons.1 hg with rfl | hg
   ·refine ⟨h1,fun h0=>?_,ArV hS⟩
    rw [h0] at h2
    cases h2
   ·exact AbT h4 g hg
def gk(l:List Gr):List Int:=l.map (·.1)
def gsz(l:List Gr):List Int:=l.map fun g=>(g.2.2.1.length:Int) - 1
def stp:Int→List Int→List Int
 | _,[]=>[]
 | p,s::t=>(s - (p+1))::stp s t
def gst:List Gr→List Int
 | []=>[]
 | g::t=>stp (-1) g.2.2.1++gst t
def gsl:List Gr→List Int
 | []=>[]
 | g::t=>sp g.2.1++gsl t
def gB(l:List Gr):List Int:=enc l.length++rE (gk l)++gsl l++nE (gsz l)++nE (gst l)
def gE(l:List Gr):List Int×Int:=if gvE l=0 then(gB l,0) else([],gvE l)
theorem Ub(l:List Gr):(gk l).length=l.length:=by simp [gk]
theorem Ut(l:List Gr):(gsz l).length=l.length:=by simp [gsz]
theorem O3:∀ (t:List Int) (p:Int),(stp p t).length=t.length
 | [],_=>rfl
 | s::t,p=>by simp [stp,O3 t]
theorem Q6:∀ l:List Gr,(gst l).length=tot l
 | []=>rfl
 | g::t=>by simp [gst,tot,O3,Q6 t]
theorem AuP{l:List Gr}(h:GOk l):Sg (gk l):=fun x hx=>by
 obtain ⟨g,hg,rfl⟩:=List.mem_map.1 hx
 exact(h g hg).1
theorem AwA:∀ {t:List Int} {p:Int},-1≤p→Asc p t→∀ x∈stp p t,0≤x∧x≤4096
 | [],_,_,_=>fun x hx=>by cases hx
 | s::t,p,hp,⟨h1,h2⟩=>fun x hx=>by
  rw [stp] at hx
  rcases List.mem_cons.1 hx with rfl | hx
  ·omega
  ·exact AwA (by omega) h2 x hx
theorem Amv:∀ {l:List Gr},(∀ g∈l,Asc (-1) g.2.2.1)→Wd (gst l)
 | [],_=>Wd.nil
 | g::t,h=>by
  rw [gst]
  refine Wd.append (fun x hx=>?_) (Amv fun y hy=>h y (List.mem_cons_of_mem _ hy))
  have:=AwA (by omega) (h g (by simp)) x hx
  omega
theorem AbU:∀ {l:List Gr} {g:Gr},g∈l→g.2.2.1.length≤tot l
 | x::t,g,h=>by
  rcases List.mem_cons.1 h with rfl | h
  ·simp [tot]
  ·have:=AbU h; simp only [tot]; omega
theorem ArW{l:List Gr}(h:tot l≤4096)(hne:∀ g∈l,g.2.2.1≠[]):Wd (gsz l):=fun x hx=>by
 obtain ⟨g,hg,rfl⟩:=List.mem_map.1 hx
 have h1:=AbU hg
 have h2:g.2.2.1.length≠0:=fun h0=>hne g hg (List.length_eq_zero_iff.1 h0)
 omega
theorem Xi:∀ {l:List Gr},GOk l→(gsl l).length≤74*l.length∧Bt (gsl l)
 | [],_=>⟨by simp [gsl],Bt.nil⟩
 | x::t,h=>by
  obtain ⟨h1,h2⟩:=Xi (l:=t) (fun s hs=>h s (List.mem_cons_of_mem _ hs))
  have h3:=Aww (h x (by simp)).2.1
  unfold gsl
  exact ⟨by simp only [List.length_append,List.length_cons]; omega,Bt.append (A7I _) h2⟩
theorem AbV{l:List Gr}(h:gvE l=0):l.length≤4096∧tot l≤4096∧okG (List.replicate 4096 false) none l=true:=by
 unfold gvE at h
 by_cases c0:4096 < l.length
 ·rw [iP c0] at h; omega
 rw [iN c0] at h
 by_cases c1:4096 < tot l
 ·rw [iP c1] at h; omega
 rw [iN c1] at h
 refine ⟨by omega,by omega,?_⟩
 by_cases c2:okG (List.replicate 4096 false) none l=true
 ·exact c2
 ·rw [iN c2] at h; omega
theorem AjD(F:Nat){R:Type}(k2:List Gr→List Int→List Int→List Int→List Gr→Int→Int→Option R)(x0:List Gr)(x5 x6:List Int)(x28:List Gr)(x29 x30:Int){g:Gr}(hb:g.2.2.1.length≤100000):∀ (rest pre:List Int) (p:Int) (out:List Int),g.2.2.1=pre++rest→AfG p pre→-1≤p→Asc p rest→out.length+rest.length≤100000→∀ N,rest.length < N →
  Cs F k2 N x0 x5 x6 out g x28 x29 x30 g.2.2.1 (g.2.2.1.length:Int) (pre.length:Int)=k2 x0 x5 x6 (out++stp p rest) x28 x29 x30:=by
 intro rest
 induction rest with
 | nil =>
  intro pre p out he hp hp1 ha ho N hN
  obtain ⟨N,rfl⟩:∃ M,N=M+1:=⟨N - 1,by omega⟩
  have hlen:g.2.2.1.length=pre.length:=by rw [he]; simp
  unfold Cs
  simp (disch:=omega) only [bs,↓iP,↓iN]
  simp [stp]
 | cons s rest ih =>
  intro pre p out he hp hp1 ha ho N hN
  obtain ⟨N,rfl⟩:∃ M,N=M+1:=⟨N - 1,by omega⟩
  simp only [List.length_cons] at hN ho
  have hlen:g.2.2.1.length=pre.length+1+rest.length:=by rw [he]; simp; omega
  have hg:Ak 0 g.2.2.1 (pre.length:Int)=s:=by rw [he]; exact Cb pre s rest
  have hpl:(((pre++[s]).length:Nat):Int)=(pre.length:Int)+1:=by simp
  obtain ⟨⟨a1,a2,a3⟩,a4⟩:=ha
  have e:=ih (pre++[s]) s (out++[s - (p+1)]) (by rw [he]; simp) (AfG.push pre s) (by omega) a4 (by simp only [List.length_append,List.length_singleton]; omega) N (by omega)
  rw [hpl] at e
  have hz:out++[s - (p+1)]++stp s rest=out++stp p (s::rest):=by simp [stp]
  rw [hz] at e
  unfold Cs
  rcases hp with ⟨hp,rfl⟩ | ⟨d,hp⟩
  ·have h0:pre.length=0:=by rw [hp]; rfl
   have hw:IntKind.u64.wrap s=s - (-1+1):=by rw [Bk (by omega)]; omega
   simp (disch:=omega) only [bs,↓iP,↓iN,hg,hw]
   exact e
  ·have hd:(pre.length:Int)=(d.length:Int)+1:=by rw [hp]; simp
   have hl:Ak 0 g.2.2.1 ((pre.length:Int) - 1)=p:=by
    rw [hd,show(d.length:Int)+1 - 1=(d.length:Int) by omega,he,hp]
    exact AbQ d p (s::rest)
   have hw:IntKind.u64.wrap (s - (p+1))=s - (p+1):=Bk (by omega)
   simp (disch:=omega) only [bs,↓iP,↓iN,hg,hl,hw]
   exact e
theorem Aih(F:Nat)(hF:A4 F){R:Type}(k0:List Gr→List Int→List Int→List Int→Option R)(x0:List Gr){src:List Gr}(hb:src.length≤100000)(hs:∀ g∈src,g.2.2.1≠[]∧Asc (-1) g.2.2.1∧g.2.2.1.length≤4096) :
  ∀ (rest pre:List Gr) (ok zk os zs st:List Int),src=pre++rest→ok.length=pre.length→zk.length=rest.length→os.length=pre.length→zs.length=rest.length→st.length+tot rest≤100000→∀ N,rest.length < N →
  C1 F k0 N x0 (ok++zk) (os++zs) st src (src.length:Int) (pre.length:Int)=k0 x0 (ok++gk rest) (os++gsz rest) (st++gst rest):=by
 intro rest
 induction rest with
 | nil =>
  intro pre ok zk os zs st he h1 h2 h3 h4 h5 N hN
  obtain ⟨N,rfl⟩:∃ M,N=M+1:=⟨N - 1,by omega⟩
  have hlen:src.length=pre.length:=by rw [he]; simp
  have z1:zk=[]:=by simpa using h2
  have z2:zs=[]:=by simpa using h4
  subst z1; subst z2
  unfold C1
  simp (disch:=omega) only [bs,↓iP,↓iN]
  simp [gk,gsz,gst]
 | cons x rest ih =>
  intro pre ok zk os zs st he h1 h2 h3 h4 h5 N hN
  obtain ⟨N,rfl⟩:∃ M,N=M+1:=⟨N - 1,by omega⟩
  cases zk with
  | nil=>simp at h2
  | cons y zk =>
  cases zs with
  | nil=>simp at h4
  | cons y2 zs =>
  simp only [List.length_cons] at hN h2 h4
  simp only [tot] at h5
  have hlen:src.length=pre.length+1+rest.length:=by rw [he]; simp; omega
  have g:Ak zG src (pre.length:Int)=x:=by rw [he]; exact Oy pre x rest
  obtain ⟨a1,a2,a3⟩:=hs x (by rw [he]; simp)
  have hl0:x.2.2.1.length≠0:=fun h=>a1 (List.length_eq_zero_iff.1 h)
  have hpl:(((pre++[x]).length:Nat):Int)=(pre.length:Int)+1:=by simp
  have hw:IntKind.u64.wrap ((x.2.2.1.length:Int) - 1)=(x.2.2.1.length:Int) - 1:=Bk (by omega)
  have e:=ih (pre++[x]) (ok++[x.1]) zk (os++[(x.2.2.1.length:Int) - 1]) zs (st++stp (-1) x.2.2.1) (by rw [he]; simp) (by simp [h1]) (by omega) (by simp [h3]) (by omega) (by rw [List.length_append,O3]; omega) N (by omega)
  rw [hpl] at e
  have hz1:ok++[x.1]++gk rest=ok++gk (x::rest):=by simp [gk]
  have hz2:os++[(x.2.2.1.length:Int) - 1]++gsz rest=os++gsz (x::rest):=by simp [gsz]
  have hz3:st++stp (-1) x.2.2.1++gst rest=st++gst (x::rest):=by simp [gst]
  rw [hz1,hz2,hz3] at e
  have s1:B6 (ok++y::zk) (pre.length:Int) x.1=(ok++[x.1])++zk:=by rw [← h1]; exact Gw _ _ _ _
  have s2:B6 (os++y2::zs) (pre.length:Int) ((x.2.2.1.length:Int) - 1)=(os++[(x.2.2.1.length:Int) - 1])++zs:=by rw [← h3]; exact Gw _ _ _ _
  have l1:(ok++y::zk).length=ok.length+(zk.length+1):=by simp
  have l2:(os++y2::zs).length=os.length+(zs.length+1):=by simp
  have e0:=AjD F (fun z29 z30 z31 z32 z33 z34 z35=>C1 F k0 N z29 z30 z31 z32 z33 z34 (As .i64 z35 1)) x0 ((ok++[x.1])++zk) ((os++[(x.2.2.1.length:Int) - 1])++zs) src (src.length:Int) (pre.length:Int) (g:=x) (by omega) x.2.2.1 [] (-1) st rfl (.inl ⟨rfl,rfl⟩) (by omega) a2 (by omega) F (by unfold A4 at hF; omega)
  have e0:Cs F (fun z29 z30 z31 z32 z33 z34 z35=>C1 F k0 N z29 z30 z31 z32 z33 z34 (As .i64 z35 1)) F x0 ((ok++[x.1])++zk) ((os++[(x.2.2.1.length:Int) - 1])++zs) st x src (src.length:Int) (pre.length:Int) x.2.2.1 (x.2.2.1.length:Int) 0=_:=e0
  unfold C1
  simp (disch:=omega) only [bs,↓iP,↓iN,g,s1,s2,hw]
  rw [e0]
  refine Eq.trans ?_ e
  simp (disch:=omega) only [bs,↓iP,↓iN]
theorem AjE(F:Nat)(hF:A4 F){R:Type}(k:List Int→List Int→List Int→Option R)(x6 x7:List Int){src:List Gr}(hs:GOk src)(hb:src.length≤100000):∀ (rest pre:List Gr) (b:List Int),src=pre++rest→(b.length:Int)+74*rest.length≤140737488355000→∀ N,rest.length < N →
  Dz F k N x6 x7 b src (src.length:Int) (pre.length:Int)=k x6 x7 (b++gsl rest):=by
 intro rest
 induction rest with
 | nil =>
  intro pre b he hc N hN
  obtain ⟨N,rfl⟩:∃ M,N=M+1:=⟨N - 1,by omega⟩
  have hlen:src.length=pre.length:=by rw [he]; simp
  unfold Dz
  simp (disch:=omega) only [bs,↓iP,↓iN]
  simp [gsl]
 | cons x rest ih =>
  intro pre b he hc N hN
  obtain ⟨N,rfl⟩:∃ M,N=M+1:=⟨N - 1,by omega⟩
  simp only [List.length_cons] at hN hc
  have hlen:src.length=pre.length+1+rest.length:=by rw [he]; simp; omega
  have g:Ak zG src (pre.length:Int)=x:=by rw [he]; exact Oy pre x rest
  have hx:=hs x (by rw [he]; simp)
  have hsl:=Aww hx.2.1
  have hpl:(((pre++[x]).length:Nat):Int)=(pre.length:Int)+1:=by simp
  have e:=ih (pre++[x]) (b++sp x.2.1) (by rw [he]; simp) (by rw [List.length_append]; omega) N (by omega)
  rw [hpl,List.append_assoc] at e
  unfold Dz
  simp (disch:=omega) only [bs,↓iP,↓iN,g,Aci F hF (b:=b) (by omega) hx.2.1]
  exact e
theorem Ta(F:Nat)(hF:A4 F){b l:List Int}(hl:Wd l)(hn:l.length≤65536)(hb:b.length≤10000000):Li F b l=some (b++nE l,()):=by
 unfold Li
 rw [Fh F hF hl hn]
 have hs:=Jz hl hn
 have r:Bh (b.length+(nE l).length) 1=true:=by rw [Cn]; omega
 simp only [bS,r,cT]
theorem Qf(F:Nat)(hF:A4 F){l:List Gr}(h:GOk l)(hb:(l.length:Int)≤140737488355328):Fm F l=some ((gE l).1,(gE l).2,()):=by
 unfold Fm gE
 rw [Nh F hF h hb]
 simp only [bS]
 by_cases c0:gvE l=0
 ·obtain ⟨v1,v2,v3⟩:=AbV c0
  have hall:=AbT v3
  rw [iP c0,c0]
  have x1:Im (Au l) (Au l) 8=true:=by rw [Jk]; unfold Au; omega
  simp only [show eqI (0:Int) 0=true from rfl,Bool.not_true,cF,x1,cT]
  refine(Aih F hF _ l (src:=l) (by omega) (fun g hg=>⟨(hall g hg).2.1,(hall g hg).2.2,by have:=AbU hg; omega⟩) l [] [] (Cc (Au l) 0) [] (Cc (Au l) 0) [] rfl rfl (by simp [Cc,Au]) rfl (by simp [Cc,Au]) (by simp; omega) F (by unfold A4 at hF; omega)).trans ?_
  have hw2:IntKind.u64.wrap (Au l)=(l.length:Int):=by unfold Au; exact Bk (by omega)
  have e4:=S7 F hF (b:=[]) (by simp [AnH]) (v:=l.length) (by omega)
  rw [List.nil_append] at e4
  have h10:=W0 (v:=l.length) (by omega)
  have e6:=Qc F hF (AuP h) (by rw [Ub]; omega)
  rw [Awr (by rw [Ub]; omega)] at e6
  obtain ⟨s1,s2,s3⟩:=AfC (AuP h) (by rw [Ub]; omega)
  have hg:=(Xi h).1
  have wz:=ArW v2 (fun g hg=>(hall g hg).2.1)
  have ws:=Amv (l:=l) (fun g hg=>(hall g hg).2.2)
  have hz:=Jz wz (by rw [Ut]; omega)
  have r2:Bh ((enc l.length).length+(rE (gk l)).length) 1=true:=by rw [Cn]; omega
  simp only [List.nil_append,e6,bS,show eqI (0:Int) 0=true from rfl,Bool.not_true,cF,hw2,e4,r2,cT]
  refine(AjE F hF _ _ _ (src:=l) h (by omega) l [] _ rfl (by simp only [List.length_append]; omega) F (by unfold A4 at hF; omega)).trans ?_
  simp only [Ta F hF wz (by rw [Ut]; omega) (show(enc l.length++rE (gk l)++gsl l).length≤10000000 by simp only [List.length_append]; omega),bS,
   Ta F hF ws (by rw [Q6]; omega) (show(enc l.length++rE (gk l)++gsl l++nE (gsz l)).length≤10000000 by simp only [List.length_append]; omega)]
  rfl
 ·rw [iN c0]
  have:eqI (gvE l) 0=false:=by rw [← Bool.not_eq_true,Ao]; exact c0
  rw [this]
  rfl
end Go.Proofs.YtdhfajmcakneiaaGreat
