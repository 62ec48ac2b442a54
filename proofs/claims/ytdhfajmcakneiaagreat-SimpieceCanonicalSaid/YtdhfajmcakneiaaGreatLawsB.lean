/- The laws of the models, part B. -/
import Derived.Test.YtdhfajmcakneiaaGreatLawsA
import Derived.Test.YtdhfajmcakneiaaGreatEngE
set_option linter.unusedVariables false
set_option linter.unusedSimpArgs false
namespace Go.Proofs.YtdhfajmcakneiaaGreat
open Go.Eng
abbrev W:=Bool×(List Int×Unit)
def Ax:Nat:=18446744073709551616 ^ 4
def WOk(w:W):Prop:=Wd w.2.1∧w.2.1.length=4
def wi(w:W):Int:=if w.1 then -(wv w.2.1:Int) else(wv w.2.1:Int)
def Tf(v:Nat):List Int:=ofn v++List.replicate (4 - (ofn v).length) 0
def toW(z:Int):W:=(decide (z < 0),Tf z.natAbs,())
theorem Afs(n:Nat):wv (List.replicate n (0:Int))=0:=by
 induction n with
 | zero=>rfl
 | succ n ih=>simp [List.replicate_succ,wv,ih]
theorem C0(v:Nat):wv (Tf v)=v:=by
 unfold Tf
 rw [B5,Afs,Fd]; simp
theorem Lw(v:Nat):Wd (Tf v):=Wd.append (Hn v) (fun x hx=>by rw [List.eq_of_mem_replicate hx]; omega)
theorem Do{v:Nat}(h:v < Ax):(Tf v).length=4:=by
 have:=Ce (n:=4) h
 simp [Tf]; omega
theorem Y8:∀ {a b:List Int},Wd a→Wd b→a.length=b.length→wv a=wv b→a=b
 | [],[],_,_,_,_=>rfl
 | [],y::b,_,_,h,_=>by simp at h
 | x::a,[],_,_,h,_=>by simp at h
 | x::a,y::b,ha,hb,h,e=>by
  have hx:=Wd.head ha
  have hy:=Wd.head hb
  simp only [wv] at e
  rw [Y8 (Wd.tail ha) (Wd.tail hb) (by simpa using h) (by omega),show x=y by omega]
theorem WOk.lt{w:W}(h:WOk w):wv w.2.1 < Ax:=by
 have:=Tz h.1
 rw [h.2] at this
 exact this
theorem V0{l:List Int}(h:Wd l)(hl:l.length=4):Tf (wv l)=l:=by
 have:=Tz h
 rw [hl] at this
 exact Y8 (Lw _) h (by rw [Do this,hl]) (C0 _)
theorem D5{z:Int}(h:z.natAbs < Ax):WOk (toW z):=⟨Lw _,Do h⟩
theorem Ct(z:Int):wi (toW z)=z:=by
 unfold wi toW
 simp only [C0,decide_eq_true_eq]
 split <;> omega
theorem Oh(w:W):(wi w).natAbs=wv w.2.1:=by
 unfold wi; split <;> omega
theorem WOk.abs{w:W}(h:WOk w):(wi w).natAbs < Ax:=by rw [Oh]; exact h.lt
def Vl(w:W):Prop:=¬ (w.1=true∧wv w.2.1=0)
instance (w:W):Decidable (Vl w):=by unfold Vl; infer_instance
theorem Amg(z:Int):Vl (toW z):=by
 unfold Vl toW
 simp only [C0,decide_eq_true_eq]
 omega
theorem Abv{w:W}(h:WOk w)(hv:Vl w):toW (wi w)=w:=by
 obtain ⟨s,l,u⟩:=w
 unfold toW
 rw [Oh]
 simp only
 rw [V0 h.1 h.2]
 congr 1
 unfold Vl at hv
 simp only at hv
 unfold wi
 cases s
 ·simp only [iN,Bool.false_eq_true,if_false]
  simp
  try omega
 ·simp only [if_true,true_and] at hv ⊢
  simp
  omega
theorem Gg:toW 0=(false,[0,0,0,0],()):=by
 unfold toW Tf
 rw [show(0:Int).natAbs=0 from rfl,Lv]
 rfl
theorem Adp(l:List Int):(ofn (wv l)).length≤4↔wv l < Ax:=Dn
theorem Ew(F:Nat)(hF:A4 F){w:W}(h:WOk w):G1 F w=some (ofn (wv w.2.1),()):=by
 obtain ⟨s,l,u⟩:=w
 have h1:=h.1
 have h2:=h.2
 simp only at h1 h2 ⊢
 unfold G1
 simp (disch:=omega) only [bs,↓iP,↓iN,List.nil_append,Ps F hF h1 (by omega)]
def Adq(z:Int):W×Bool:=if z.natAbs < Ax then(toW z,true) else(toW 0,false)
theorem Ari(F:Nat){R:Type}(k:W→W→Option R)(x4:W)(s:Bool){l:List Int}(hl4:l.length≤4):∀ (lb la:List Int),l=la++lb→∀ N,lb.length < N →
  Ht F k N l x4 (s,la++List.replicate (4 - la.length) 0,()) (la.length:Int)=k x4 (s,l++List.replicate (4 - l.length) 0,()):=by
 intro lb
 induction lb with
 | nil =>
  intro la h N hN
  obtain ⟨N,rfl⟩:∃ M,N=M+1:=⟨N - 1,by omega⟩
  have hla:l=la:=by rw [h]; simp
  subst hla
  unfold Ht
  simp (disch:=omega) only [bs,↓iP,↓iN]
 | cons x t ih =>
  intro la h N hN
  obtain ⟨N,rfl⟩:∃ M,N=M+1:=⟨N - 1,by omega⟩
  have e:=ih (la++[x]) (by rw [h]; simp) N (by simp at hN; omega)
  have hlen:l.length=la.length+(t.length+1):=by rw [h]; simp
  have hg:Ak 0 l (la.length:Int)=x:=by rw [h]; exact Cb _ _ _
  have hcast:((la++[x]).length:Int)=(la.length:Int)+1:=by simp
  have hset:B6 (la++List.replicate (4 - la.length) 0) (la.length:Int) x=(la++[x])++List.replicate (4 - (la++[x]).length) 0:=by
   rw [show 4 - la.length=(4 - (la++[x]).length)+1 by simp; omega,List.replicate_succ]
   exact Gw _ _ _ _
  rw [hcast] at e
  unfold Ht
  simp (disch:=omega) only [bs,↓iP,↓iN,hg,hset]
  exact e
theorem Lx(F:Nat)(hF:A4 F)(s:Bool){l:List Int}(h:Wd l)(hl:(l.length:Int)≤140737488355328) :
  G9 F s l=some ((Adq (if s then -(wv l:Int) else(wv l:Int))).1,(Adq (if s then -(wv l:Int) else(wv l:Int))).2,()):=by
 unfold G9
 rw [Ps F hF h hl]
 have hab:(if s then -(wv l:Int) else(wv l:Int)).natAbs=wv l:=by split <;> omega
 unfold Adq
 rw [hab]
 by_cases c:wv l < Ax
 ·have h4:=(Adp l).2 c
  have e:=fun (R:Type) (k:W→W→Option R) (s:Bool)=>Ari F k (false,[0,0,0,0],()) s h4 (ofn (wv l)) [] rfl F (by unfold A4 at hF; omega)
  have e':∀ (R:Type) (k:W→W→Option R) (s:Bool),Ht F k F (ofn (wv l)) (false,[0,0,0,0],()) (s,[0,0,0,0],()) 0=k (false,[0,0,0,0],()) (s,Tf (wv l),()):=e
  have hpos:ltI 0 ((ofn (wv l)).length:Int)=decide (0 < wv l):=by
   have:=Afq (v:=wv l)
   unfold ltI
   apply decide_eq_decide.2
   omega
  unfold Ok
  cases s
  ·simp (disch:=omega) only [bs,↓iP,↓iN,e']
   unfold toW
   have:(wv l:Int).natAbs=wv l:=by omega
   rw [this,show decide ((wv l:Int) < 0)=false by simp]
  ·simp only [bS,Au,cT,e',hpos]
   simp (disch:=omega) only [bs,↓iP,↓iN]
   unfold toW
   have:(-(wv l:Int)).natAbs=wv l:=by omega
   rw [this]
   congr 3
   apply decide_eq_decide.2
   omega
 ·have h4:¬ (ofn (wv l)).length≤4:=fun hh=>c ((Adp l).1 hh)
  simp (disch:=omega) only [bs,↓iP,↓iN,Gg]
theorem Il(F:Nat)(hF:A4 F){w:W}(h:WOk w):Hr F w=some (decide (Vl w),()):=by
 unfold Hr Vl
 rw [Ew F hF h]
 obtain ⟨s,l,u⟩:=w
 cases s
 ·rfl
 ·have:=Afq (v:=wv l)
  simp only [bS,Au,Bool.not_true,cF,Option.some.injEq,Prod.mk.injEq,and_true,ltI,true_and]
  apply decide_eq_decide.2
  omega
theorem Gx(F:Nat)(hF:A4 F){w:W}(h:WOk w):Gl F w=some (toW (wi w),()):=by
 unfold Gl
 rw [Il F hF h]
 by_cases hv:Vl w
 ·simp (disch:=omega) only [bs,↓iP,↓iN,hv,decide_true,Abv h hv]
 ·have:wi w=0:=by
   unfold Vl at hv
   unfold wi
   simp only [Classical.not_not] at hv
   rw [hv.1,hv.2]; rfl
  rw [this,Gg]
  simp (disch:=omega) only [bs,↓iP,↓iN,hv,decide_false]
theorem Dp(F:Nat)(hF:A4 F){w:W}(h:WOk w):C9 F w=some (if wi w=0 then 0 else if wi w < 0 then -1 else 1,()):=by
 unfold C9
 rw [Ew F hF h]
 have h0:=Afq (v:=wv w.2.1)
 obtain ⟨s,l,u⟩:=w
 unfold wi
 simp only at h0 ⊢
 by_cases c:wv l=0
 ·simp (disch:=omega) only [bs,↓iP,↓iN]
 ·cases s
  ·simp (disch:=omega) only [bs,↓iP,↓iN]
  ·simp (disch:=omega) only [bs,↓iP,↓iN]
theorem Jg(F:Nat)(hF:A4 F){w:W}(h:WOk w):K6 F w=some (toW (-(wi w)),()):=by
 unfold K6
 have hlt:=h.lt
 have hl:=Ce (v:=wv w.2.1) (n:=4) hlt
 rw [Ew F hF h]
 simp only [bS]
 rw [Lx F hF (!w.1) (Hn (wv w.2.1)) (by omega),Fd]
 have e:(if(!w.1)=true then -(wv w.2.1:Int) else(wv w.2.1:Int))=-(wi w):=by
  unfold wi; cases w.1 <;> simp
 rw [e]
 unfold Adq
 rw [iP (by rw [Int.natAbs_neg,Oh]; exact hlt)]
 rfl
theorem Yb:18446744073709551616≤Ax:=by
 show 18446744073709551616≤18446744073709551616 ^ 4
 exact Nat.le_self_pow (by omega) _
theorem Aad{v:Nat}(h:v < 18446744073709551616)(s:Bool)(hs:s=true→0 < v):toW (if s then -(v:Int) else v)=(s,[(v:Int),0,0,0],()):=by
 refine(Abv (w:=(s,[(v:Int),0,0,0],())) ?_ ?_).symm.trans ?_ |>.symm
 ·refine ⟨fun x hx=>?_,rfl⟩
  simp only [List.mem_cons,List.not_mem_nil,or_false] at hx
  rcases hx with h | h | h | h <;> omega
 ·rintro ⟨h1,h2⟩
  simp only [wv] at h1 h2
  have:=hs h1
  omega
 ·unfold wi
  simp only [wv]
  congr 1
theorem Gy(F:Nat){x:Int}(h:I64 x):F7 F x=some (toW x,()):=by
 unfold I64 at h
 unfold F7
 have hw:IntKind.u64.wrap x=if 0≤x then x else x+18446744073709551616:=by rw [Bs]; split <;> omega
 by_cases c:x < 0
 ·have hs:Bl .u64 0 (IntKind.u64.wrap x)=((-x).toNat:Int):=by
   show IntKind.u64.wrap (0 - IntKind.u64.wrap x)=_
   rw [hw,Bs]
   split <;> omega
  have:=Aad (v:=(-x).toNat) (by omega) true (by intro; omega)
  simp (disch:=omega) only [bs,↓iP,↓iN,hs]
  rw [← this]
  simp only [if_true]
  rw [show -(((-x).toNat:Nat):Int)=x by omega]
 ·have:=Aad (v:=x.toNat) (by omega) false (by simp)
  have hw':IntKind.u64.wrap x=(x.toNat:Int):=by rw [hw]; split <;> omega
  simp (disch:=omega) only [bs,↓iP,↓iN,hw']
  rw [← this]
  simp only [Bool.false_eq_true,if_false]
  rw [show((x.toNat:Nat):Int)=x by omega]
theorem Ko(F:Nat){x:Int}(h:0≤x∧x≤18446744073709551615):Ep F x=some (toW x,()):=by
 unfold Ep
 have:=Aad (v:=x.toNat) (by omega) false (by simp)
 simp only [Bool.false_eq_true,if_false] at this
 rw [show((x.toNat:Nat):Int)=x by omega] at this
 rw [this]
theorem Arj{z:Int}(h:0≤z∧z < 18446744073709551616):Ak 0 (toW z).2.1 0=z:=by
 have:=Aad (v:=z.toNat) (by omega) false (by simp)
 simp only [Bool.false_eq_true,if_false] at this
 rw [show((z.toNat:Nat):Int)=z by omega] at this
 rw [this]; rfl
theorem Yc(F:Nat)(hF:A4 F){w:W}(h:WOk w):E5 F w=some (if 0≤wi w∧wi w < 18446744073709551616 then wi w else 0,decide (0≤wi w∧wi w < 18446744073709551616),()):=by
 unfold E5
 rw [Gx F hF h]
 have hok:=D5 h.abs
 simp (disch:=omega) only [bs,↓iP,↓iN,Ew F hF hok]
 rw [show(toW (wi w)).1=decide (wi w < 0) from rfl,show wv (toW (wi w)).2.1=(wi w).natAbs from C0 _]
 have hlen:=Dn (v:=(wi w).natAbs) (n:=1)
 rw [Nat.pow_one] at hlen
 by_cases c:wi w < 0
 ·simp only [c,decide_true,if_true]
  rw [iN (by omega),decide_eq_false (by omega)]
 ·simp only [c,decide_false,Bool.false_eq_true,if_false]
  by_cases c2:wi w < 18446744073709551616
  ·rw [iN (by omega),iP (by omega),decide_eq_true (by omega),Arj (by omega)]
  ·rw [iP (by omega),iN (by omega),decide_eq_false (by omega)]
theorem N6(F:Nat)(hF:A4 F){x y:W}(hx:WOk x)(hy:WOk y):Ey F x y=some ((Adq (wi x*wi y)).1,(Adq (wi x*wi y)).2,()):=by
 unfold Ey
 have hxo:=D5 hx.abs
 have hyo:=D5 hy.abs
 rw [Gx F hF hx,Gx F hF hy]
 have l1:=Ce (v:=(wi x).natAbs) (n:=4) hx.abs
 have l2:=Ce (v:=(wi y).natAbs) (n:=4) hy.abs
 have v1:wv (toW (wi x)).2.1=(wi x).natAbs:=C0 _
 have v2:wv (toW (wi y)).2.1=(wi y).natAbs:=C0 _
 simp (disch:=omega) only [bs,↓iP,↓iN,Ew F hF hxo,Ew F hF hyo,v1,v2]
 rw [A3y F hF (Hn _) (Hn _) (by omega) (by omega),Fd,Fd]
 have l3:=Ce (v:=(wi x).natAbs*(wi y).natAbs) (n:=8) (by
  have:=Nat.mul_lt_mul'' hx.abs hy.abs
  exact Nat.lt_of_lt_of_eq this (by rw [Ax,← Nat.pow_add]))
 simp (disch:=omega) only [bs,↓iP,↓iN]
 rw [Lx F hF _ (Hn _) (by omega),Fd]
 have e:(if(!eqT Ty.bool (toW (wi x)).1 (toW (wi y)).1)=true then -(((wi x).natAbs*(wi y).natAbs:Nat):Int) else(((wi x).natAbs*(wi y).natAbs:Nat):Int))=wi x*wi y:=by
  rw [show(toW (wi x)).1=decide (wi x < 0) from rfl,show(toW (wi y)).1=decide (wi y < 0) from rfl]
  generalize wi x=a
  generalize wi y=b
  show(if(!(decide (a < 0) == decide (b < 0)))=true then _ else _)=_
  by_cases ha:a < 0 <;> by_cases hb:b < 0
  ·simp only [ha,hb,decide_true,beq_self_eq_true,Bool.not_true,Bool.false_eq_true,if_false]
   rw [Int.natCast_mul,show((a.natAbs:Nat):Int)=-a by omega,show((b.natAbs:Nat):Int)=-b by omega,Int.neg_mul_neg]
  ·simp [ha,hb]
   rw [show((b.natAbs:Nat):Int)=b by omega,show((a.natAbs:Nat):Int)=-a by omega,Int.neg_mul,Int.neg_neg]
  ·simp [ha,hb]
   rw [show((b.natAbs:Nat):Int)=-b by omega,show((a.natAbs:Nat):Int)=a by omega,Int.mul_neg,Int.neg_neg]
  ·simp only [ha,hb,decide_false,beq_self_eq_true,Bool.not_true,Bool.false_eq_true,if_false]
   rw [Int.natCast_mul,show((a.natAbs:Nat):Int)=a by omega,show((b.natAbs:Nat):Int)=b by omega]
 rw [e]
 simp (disch:=omega) only [bs,↓iP,↓iN]
theorem N7(F:Nat)(hF:A4 F){x y:W}(hx:WOk x)(hy:WOk y):Ha F x y=some ((Adq (wi x+wi y)).1,(Adq (wi x+wi y)).2,()):=by
 unfold Ha
 have hxo:=D5 hx.abs
 have hyo:=D5 hy.abs
 rw [Gx F hF hx,Gx F hF hy]
 have ax:=hx.abs
 have ay:=hy.abs
 have l1:=Ce (v:=(wi x).natAbs) (n:=4) hx.abs
 have l2:=Ce (v:=(wi y).natAbs) (n:=4) hy.abs
 have v1:wv (toW (wi x)).2.1=(wi x).natAbs:=C0 _
 have v2:wv (toW (wi y)).2.1=(wi y).natAbs:=C0 _
 simp only [bS,Ew F hF hxo,Ew F hF hyo,v1,v2]
 rw [show(toW (wi x)).1=decide (wi x < 0) from rfl,show(toW (wi y)).1=decide (wi y < 0) from rfl]
 generalize wi x=a at *
 generalize wi y=b at *
 rw [A3x F hF (Hn _) (Hn _) (by omega) (by omega),Fd,Fd,Ya F hF (by omega) (by omega)]
 have l3:=Ce (v:=a.natAbs+b.natAbs) (n:=5) (by
  have:Ax+Ax≤18446744073709551616 ^ 5:=by decide
  omega)
 have fin:∀ (s:Bool) (v:Nat),v < Ax+Ax→(if s then -(v:Int) else(v:Int))=a+b→((G9 F s (ofn v)).bind fun r7=>some (r7.1,r7.2.1,()))=some ((Adq (a+b)).1,(Adq (a+b)).2,()):=by
  intro s v hv he
  have lv:=Ce (v:=v) (n:=5) (by
   have:Ax+Ax≤18446744073709551616 ^ 5:=by decide
   omega)
  rw [Lx F hF s (Hn v) (by omega),Fd,he]
  rfl
 have hlenle:∀ m n:Nat,m≤n→(ofn m).length≤(ofn n).length:=fun m n hmn =>
  Dn.2 (Nat.lt_of_le_of_lt hmn (Dn.1 (Nat.le_refl _)))
 by_cases hs:decide (a < 0)=decide (b < 0)
 ·have:eqT Ty.bool (decide (a < 0)) (decide (b < 0))=true:=by rw [hs]; show(decide (b < 0) == decide (b < 0))=true; simp
  rw [this,cT]
  simp only [bS]
  refine fin _ _ (by omega) ?_
  have hs:=decide_eq_decide.1 hs
  by_cases ha:a < 0
  ·simp only [ha,decide_true,if_true]; omega
  ·simp only [ha,decide_false,Bool.false_eq_true,if_false]; omega
 ·have:eqT Ty.bool (decide (a < 0)) (decide (b < 0))=false:=by show(decide (a < 0) == decide (b < 0))=false; simpa using hs
  rw [this,cF]
  simp only [bS]
  have hs:¬ (a < 0↔b < 0):=fun h=>hs (decide_eq_decide.2 h)
  unfold Amb
  by_cases hc:b.natAbs≤a.natAbs
  ·have:leI 0 (if a.natAbs < b.natAbs then(-1:Int) else if b.natAbs < a.natAbs then 1 else 0)=true:=by
    rw [Bu]; split
    ·omega
    ·split <;> omega
   rw [this,cT,Ar9 F hF (Hn _) (Hn _) (hlenle _ _ hc) (by omega) (by rw [Fd,Fd]; exact hc),Fd,Fd]
   simp only [bS]
   refine fin _ _ (by omega) ?_
   by_cases ha:a < 0
   ·simp only [ha,decide_true,if_true]; omega
   ·simp only [ha,decide_false,Bool.false_eq_true,if_false]; omega
  ·have:leI 0 (if a.natAbs < b.natAbs then(-1:Int) else if b.natAbs < a.natAbs then 1 else 0)=false:=by
    rw [← Bool.not_eq_true,Bu,iP (by omega)]; omega
   rw [this,cF,Ar9 F hF (Hn _) (Hn _) (hlenle _ _ (by omega)) (by omega) (by rw [Fd,Fd]; omega),Fd,Fd]
   simp only [bS]
   refine fin _ _ (by omega) ?_
   by_cases hb:b < 0
   ·simp only [hb,decide_true,if_true]; omega
   ·simp only [hb,decide_false,Bool.false_eq_true,if_false]; omega
theorem Kf(F:Nat)(hF:A4 F){x y:W}(hx:WOk x)(hy:WOk y):F8 F x y=some (if wi x < wi y then -1 else if wi y < wi x then 1 else 0,()):=by
 unfold F8
 have l1:=Ce (v:=wv x.2.1) (n:=4) hx.lt
 have l2:=Ce (v:=wv y.2.1) (n:=4) hy.lt
 rw [Dp F hF hx,Dp F hF hy,Ew F hF hx,Ew F hF hy]
 simp only [bS]
 rw [Ya F hF (by omega) (by omega)]
 rw [← Oh x,← Oh y]
 generalize wi x=a
 generalize wi y=b
 have sg:∀ z:Int,(z=0∧(if z=0 then(0:Int) else if z < 0 then -1 else 1)=0)∨(z < 0∧(if z=0 then(0:Int) else if z < 0 then -1 else 1)=-1)∨(0 < z∧(if z=0 then(0:Int) else if z < 0 then -1 else 1)=1):=by
  intro z
  split
  ·omega
  ·split <;> omega
 have m1:∀ c:Int,(-1≤c∧c≤1)→Iv .i64 (-1) c=-c:=fun c hc=>by rw [Uj (by omega)]; omega
 have m2:∀ c:Int,(-1≤c∧c≤1)→Iv .i64 1 c=c:=fun c hc=>by rw [Uj (by omega)]; omega
 have m3:∀ c:Int,(-1≤c∧c≤1)→Iv .i64 0 c=0:=fun c hc=>by rw [Uj (by omega)]; omega
 have hc:-1≤Amb a.natAbs b.natAbs∧Amb a.natAbs b.natAbs≤1:=by unfold Amb; split <;> (try split) <;> omega
 rcases sg a with ⟨h,e⟩ | ⟨h,e⟩ | ⟨h,e⟩ <;> rcases sg b with ⟨k,f⟩ | ⟨k,f⟩ | ⟨k,f⟩ <;> rw [e,f] <;> simp (disch:=omega) only [bS,A4p,Wo,Ao,Ah,↓iP,↓iN,m1 _ hc,m2 _ hc,m3 _ hc,not_true_eq_false,if_false] <;>
  simp only [Option.some.injEq,Prod.mk.injEq,and_true,Amb] <;> (try split) <;> (try split) <;> (try split) <;> (try split) <;> omega
def uw(z:Int):Nat:=2*z.natAbs+(if z < 0 then 1 else 0)
def wu(u:Nat):Int:=if u % 2=1 then -((u / 2:Nat):Int) else((u / 2:Nat):Int)
theorem A7v{u:Nat}(h:u≠1):uw (wu u)=u:=by
 unfold uw wu; split <;> split <;> omega
theorem A3z{z:Int}(h:z.natAbs < Ax):uw z < 2*Ax:=by
 unfold uw; split <;> omega
theorem A3A{u:Nat}(h:u < 2*Ax):(wu u).natAbs < Ax:=by
 unfold wu; split <;> omega
theorem Aft:∀ (m:Nat) {v:Nat},v < 128 ^ m→1≤m→(enc v).length≤m:=by
 intro m
 induction m with
 | zero=>intro v _ h; omega
 | succ m ih =>
  intro v hv _
  by_cases h:v < 128
  ·rw [Gf h]; simp
  ·rw [Ql h,List.length_cons]
   cases m with
   | zero=>simp at hv; omega
   | succ m =>
    have:=ih (v:=v / 128) (by rw [Nat.pow_succ] at hv; exact Nat.div_lt_of_lt_mul (by rw [Nat.mul_comm]; exact hv)) (by omega)
    omega
theorem Adr:2*Ax≤128 ^ 37:=by decide
theorem Yd{z:Int}(h:z.natAbs < Ax):(enc (uw z)).length≤37:=Aft 37 (by have:=A3z h; have:=Adr; omega) (by omega)
theorem Q3:∀ (n:Nat) (a b:List Int),eqT (.arr n (.int .u64)) a b=decide (a=b):=by
 intro n a b
 show eqL (fun x y=>decide ((x:Int)=y)) a b=_
 induction a generalizing b with
 | nil=>cases b <;> simp [eqL]
 | cons x t ih =>
  cases b with
  | nil=>simp [eqL]
  | cons y b=>simp [eqL,ih]
theorem Ly(F:Nat){w:W}(h:WOk w):Js F w=some (decide (Vl w),()):=by
 unfold Js Vl
 obtain ⟨s,l,u⟩:=w
 have h1:=h.1
 have h2:=h.2
 simp only at h1 h2
 cases s
 ·rfl
 ·simp only [Bool.not_true,cF,Option.some.injEq,Prod.mk.injEq,and_true,true_and]
  rw [Q3]
  have:l=[0,0,0,0]↔wv l=0:=by
   constructor
   ·intro e; rw [e]; rfl
   ·intro e; exact Y8 h1 (fun x hx=>by simp at hx; omega) (by simp [h2]) (by rw [e]; rfl)
  simp [this]
theorem W6{h x:Int}(hh:0≤h∧h≤1)(hx:0≤x∧x≤18446744073709551615):orI .u64 h (Fs .u64 x 1)=2*x % 18446744073709551616+h:=by
 rw [Ir hx.1 (by omega),show min (1:Int).toNat 64=1 from rfl]
 have e:x.toNat*2 ^ 1 % 2 ^ 64=2 ^ 1*(x % 9223372036854775808).toNat:=by omega
 rw [e,Na (by omega) (by omega),Int.toNat_natCast,Nat.or_comm,← Nat.two_pow_add_eq_or_of_lt (by omega)]
 omega
theorem Auz{x:Int}(hx:0≤x):D6 .u64 x 63=x / 9223372036854775808:=by
 rw [Ho hx]
 simp only [IntKind.bits]
 rw [show min (63:Int).toNat 64=63 from rfl]
 omega
theorem Acc(F:Nat){a b c d:Int}(ha:0≤a∧a≤18446744073709551615)(hb:0≤b∧b≤18446744073709551615)(hc:0≤c∧c≤18446744073709551615)(hd:0≤d∧d≤18446744073709551615)
  {R:Type} (k:List Int→W→List Int→Option R) (x0:List Int) (w:W) (N:Nat) :
  Dq F k (N+5) x0 w [0,0,0,0,0] [a,b,c,d] 0=k x0 w [2*a % 18446744073709551616,2*b % 18446744073709551616+a / 9223372036854775808,2*c % 18446744073709551616+b / 9223372036854775808,2*d % 18446744073709551616+c / 9223372036854775808,d / 9223372036854775808]:=by
 have e:Dq F k (N+5) x0 w [0,0,0,0,0] [a,b,c,d] 0=k x0 w [orI .u64 0 (Fs .u64 a 1),orI .u64 (D6 .u64 a 63) (Fs .u64 b 1),orI .u64 (D6 .u64 b 63) (Fs .u64 c 1),orI .u64 (D6 .u64 c 63) (Fs .u64 d 1),D6 .u64 d 63]:=by
  kernel_rfl
 rw [e,Auz ha.1,Auz hb.1,Auz hc.1,Auz hd.1,W6 (by omega) ha,W6 (by omega) hb,W6 (by omega) hc,W6 (by omega) hd]
 simp
theorem W7{x y:Int}(hx:0≤x∧x≤18446744073709551615)(hy:0≤y∧y≤18446744073709551615):orI .u64 (D6 .u64 x 7) (Fs .u64 y 57)=x / 128+y % 128*144115188075855872:=by
 rw [A7s hx.1,Ir hy.1 (by omega),show min (57:Int).toNat 64=57 from rfl]
 have h:y.toNat*2 ^ 57 % 2 ^ 64=2 ^ 57*(y % 128).toNat:=by omega
 rw [h,Na (by omega) (by omega),Int.toNat_natCast,Nat.or_comm,← Nat.two_pow_add_eq_or_of_lt (by omega)]
 omega
theorem Acd(F:Nat){a b c d e:Int}(ha:0≤a∧a≤18446744073709551615)(hb:0≤b∧b≤18446744073709551615)(hc:0≤c∧c≤18446744073709551615)(hd:0≤d∧d≤18446744073709551615)(he:0≤e∧e≤18446744073709551615)
  {R:Type} (k:List Int→List Int→Int→Option R) (x8:List Int) (x9:Int) (N:Nat) :
  Cr F k (N+6) [a,b,c,d,e] x8 x9 0=k [a / 128+b % 128*144115188075855872,b / 128+c % 128*144115188075855872,c / 128+d % 128*144115188075855872,d / 128+e % 128*144115188075855872,e / 128] x8 x9:=by
 have h:Cr F k (N+6) [a,b,c,d,e] x8 x9 0=k [orI .u64 (D6 .u64 a 7) (Fs .u64 b 57),orI .u64 (D6 .u64 b 7) (Fs .u64 c 57),orI .u64 (D6 .u64 c 7) (Fs .u64 d 57),orI .u64 (D6 .u64 d 7) (Fs .u64 e 57),D6 .u64 e 7] x8 x9:=by
  kernel_rfl
 rw [h,W7 ha hb,W7 hb hc,W7 hc hd,W7 hd he,A7s he.1]
theorem Ye{l:List Int}(h:l.length=5):∃ a b c d e,l=[a,b,c,d,e]:=by
 match l,h with
 | [a,b,c,d,e],_=>exact ⟨a,b,c,d,e,rfl⟩
theorem AnK{l:List Int}(h:l.length=4):∃ a b c d,l=[a,b,c,d]:=by
 match l,h with
 | [a,b,c,d],_=>exact ⟨a,b,c,d,rfl⟩
def Abw:List Int→List Int
 | []=>[]
 | [x]=>[x / 128]
 | x::y::t=>(x / 128+y % 128*144115188075855872)::Abw (y::t)
theorem T1:∀ l:List Int,(Abw l).length=l.length
 | []=>rfl
 | [x]=>rfl
 | x::y::t=>by simp [Abw,T1 (y::t)]
theorem Afu:∀ {l:List Int},Wd l→Wd (Abw l)
 | [],_=>Wd.nil
 | [x],h=>Wd.one (by have:=Wd.head h; omega)
 | x::y::t,h=>Wd.cons (by have:=Wd.head h; have:=Wd.head (Wd.tail h); omega) (Afu (Wd.tail h))
theorem Afv:∀ {l:List Int},Wd l→wv (Abw l)=wv l / 128
 | [],_=>rfl
 | [x],h=>by have:=Wd.head h; simp only [Abw,wv]; omega
 | x::y::t,h=>by
  have h1:=Wd.head h
  have h2:=Wd.head (Wd.tail h)
  have e:=Afv (Wd.tail h)
  simp only [Abw,wv] at e ⊢
  omega
theorem T2(F:Nat){x5:List Int}(h:Wd x5)(hl:x5.length=5){R:Type}(k:List Int→List Int→Int→Option R)(x8:List Int)(x9:Int)(N:Nat) :
  Cr F k (N+6) x5 x8 x9 0=k (Abw x5) x8 x9:=by
 obtain ⟨a,b,c,d,e,rfl⟩:=Ye hl
 exact Acd F (h a (by simp)) (h b (by simp)) (h c (by simp)) (h d (by simp)) (h e (by simp)) k x8 x9 N
theorem Afw{l:List Int}(h:Wd l)(hl:0 < l.length):(wv l % 128:Nat)=Ak 0 l 0 % 128:=by
 cases l with
 | nil=>simp at hl
 | cons x t =>
  have:=Wd.head h
  show((wv (x::t) % 128:Nat):Int)=x % 128
  simp only [wv]; omega
theorem Abx(F:Nat)(hF:A4 F){R:Type}(k:List Int→Option R):∀ (m:Nat) (x5 out:List Int),Wd x5→x5.length=5→wv x5 < 128 ^ (m+1)→(out.length:Int)+m≤140737488355320 →
  ∀ N,m < N→Dc F k N x5 out=k (out++enc (wv x5)):=by
 obtain ⟨G,rfl⟩:∃ G,F=G+6:=⟨F - 6,by unfold A4 at hF; omega⟩
 intro m
 induction m with
 | zero =>
  intro x5 out hw hl hv hlen N hN
  obtain ⟨N,rfl⟩:∃ M,N=M+1:=⟨N - 1,by omega⟩
  have h1:=Afv hw
  have h2:=Afu hw
  have h3:=T1 x5
  have h4:=Afw hw (by omega)
  have hg:=Wd.get hw 0
  have hz:Abw x5=[0,0,0,0,0]:=Y8 h2 (fun x hx=>by simp at hx; omega) (by rw [h3,hl]; rfl) (by
   rw [h1]
   have:wv x5 / 128=0:=by rw [Nat.pow_one] at hv; omega
   rw [this]; rfl)
  unfold Dc
  rw [T2 _ hw hl,hz,Q3,decide_eq_true rfl]
  have hwr:IntKind.u8.wrap (Iw (Ak 0 x5 0) 128)=((wv x5:Nat):Int):=by
   rw [Qi hg.1,L9,← h4]; omega
  rw [hwr]
  simp (disch:=omega) only [bs,↓iP,↓iN]
  rw [Gf (by omega)]
 | succ m ih =>
  intro x5 out hw hl hv hlen N hN
  obtain ⟨N,rfl⟩:∃ M,N=M+1:=⟨N - 1,by omega⟩
  have h1:=Afv hw
  have h2:=Afu hw
  have h3:=T1 x5
  have h4:=Afw hw (by omega)
  have hg:=Wd.get hw 0
  have hzero:Abw x5=[0,0,0,0,0]↔wv x5 < 128:=by
   rw [← Nat.div_eq_zero_iff_lt (by omega),← h1]
   exact ⟨fun h=>by rw [h]; rfl,fun h=>Y8 h2 (fun x hx=>by simp at hx; omega) (by rw [h3,hl]; rfl) (by rw [h]; rfl)⟩
  have hwr:IntKind.u8.wrap (Iw (Ak 0 x5 0) 128)=((wv x5 % 128:Nat):Int):=by
   rw [Qi hg.1,L9,← h4]; omega
  unfold Dc
  rw [T2 _ hw hl,Q3,hwr]
  by_cases hs:wv x5 < 128
  ·rw [decide_eq_true (hzero.2 hs)]
   simp (disch:=omega) only [bs,↓iP,↓iN]
   rw [Gf hs]
   congr 3
   omega
  ·rw [decide_eq_false (fun h=>hs (hzero.1 h))]
   have hor:=Awg (x:=((wv x5 % 128:Nat):Int)) (by omega)
   rw [Qh (by omega)] at hor
   have e2:=ih (Abw x5) (out++[orI .u8 ((wv x5 % 128:Nat):Int) 128]) h2 (by omega) (by rw [h1]; rw [Nat.pow_succ] at hv; exact Nat.div_lt_of_lt_mul (by rw [Nat.mul_comm]; exact hv)) (by simp; omega) N (by omega)
   simp (disch:=omega) only [bs,↓iP,↓iN]
   refine Eq.trans e2 ?_
   rw [h1,Ql hs,hor]
   simp
def Asl(h:Int):List Int→List Int
 | []=>[h]
 | x::t=>(2*x % 18446744073709551616+h)::Asl (x / 9223372036854775808) t
theorem Aby:∀ (l:List Int) (h:Int),(Asl h l).length=l.length+1
 | [],h=>rfl
 | x::t,h=>by simp [Asl,Aby t]
theorem Ark:∀ {l:List Int} {h:Int},Wd l→0≤h∧h≤1→Wd (Asl h l)
 | [],h,_,hh=>Wd.one (by omega)
 | x::t,h,hw,hh=>by
  have:=Wd.head hw
  exact Wd.cons (by omega) (Ark (Wd.tail hw) (by omega))
theorem Arl:∀ {l:List Int} {h:Int},Wd l→0≤h∧h≤1→wv (Asl h l)=2*wv l+h.toNat
 | [],h,_,hh=>by simp [Asl,wv]
 | x::t,h,hw,hh=>by
  have h1:=Wd.head hw
  have e:=Arl (l:=t) (h:=x / 9223372036854775808) (Wd.tail hw) (by omega)
  simp only [Asl,wv,e]
  omega
theorem Abz(F:Nat){ws:List Int}(h:Wd ws)(hl:ws.length=4){R:Type}(k:List Int→W→List Int→Option R)(x0:List Int)(w:W)(N:Nat) :
  Dq F k (N+5) x0 w [0,0,0,0,0] ws 0=k x0 w (Asl 0 ws):=by
 obtain ⟨a,b,c,d,rfl⟩:=AnK hl
 rw [Acc F (h a (by simp)) (h b (by simp)) (h c (by simp)) (h d (by simp)) k x0 w N]
 simp only [Asl,Int.add_zero]
theorem Arm{l:List Int}(h:Wd l)(hl:0 < l.length)(he:wv l % 2=0):Wd (B6 l 0 (As .u64 (Ak 0 l 0) 1))∧(B6 l 0 (As .u64 (Ak 0 l 0) 1)).length=l.length∧wv (B6 l 0 (As .u64 (Ak 0 l 0) 1))=wv l+1:=by
 cases l with
 | nil=>simp at hl
 | cons x t =>
  have hx:=Wd.head h
  simp only [wv] at he
  show Wd (As .u64 x 1::t)∧(As .u64 x 1::t).length=_∧wv (As .u64 x 1::t)=_
  rw [De (by omega)]
  refine ⟨Wd.cons (by omega) (Wd.tail h),rfl,?_⟩
  simp only [wv]; omega
theorem T3(F:Nat)(hF:A4 F){b:List Int}(hb:AnH b){R:Type}(k:List Int→Option R){z:Int}(hz:z.natAbs < Ax):Ez F k b (toW z)=k (b++enc (uw z)):=by
 unfold AnH at hb
 have hlt:=A3z hz
 have htop:=Adr
 have fin:∀ x5:List Int,Wd x5→x5.length=5→wv x5=uw z→Ef F k b x5=k (b++enc (uw z)):=by
  intro x5 h1 h2 h3
  unfold Ef
  rw [Am9 _ (by omega)]
  simp only [bS]
  rw [Ar4 _ (by omega) (by omega)]
  simp only [bS]
  rw [Abx F hF _ 36 x5 b h1 h2 (by rw [h3]; omega) (by omega) F (by unfold A4 at hF; omega),h3]
 have hw:=Lw z.natAbs
 have hl:=Do hz
 have hv:=C0 z.natAbs
 have d1:=Ark (h:=0) hw (by omega)
 have d2:=Aby (Tf z.natAbs) 0
 have d3:=Arl (h:=0) hw (by omega)
 unfold Ez
 have e5:=fun (R:Type) (k:List Int→W→List Int→Option R)=>Abz F hw hl k b (toW z)
 obtain ⟨G,hG⟩:∃ G,F=G+5:=⟨F - 5,by unfold A4 at hF; omega⟩
 have e6:=fun (R:Type) (k:List Int→W→List Int→Option R)=>e5 R k G
 rw [← hG] at e6
 refine Eq.trans (e6 R _) ?_
 show(bif decide (z < 0) then _ else _)=_
 generalize Asl 0 (Tf z.natAbs)=l at *
 have huw:uw z=2*z.natAbs+(if z < 0 then 1 else 0):=rfl
 by_cases hz0:z < 0
 ·rw [iP hz0] at huw
  obtain ⟨a1,a2,a3⟩:=Arm d1 (by omega) (by rw [d3,hv]; simp)
  rw [decide_eq_true hz0,cT]
  exact fin _ a1 (by omega) (by rw [a3,d3,hv,huw]; simp)
 ·rw [iN hz0] at huw
  rw [decide_eq_false hz0,cF]
  exact fin _ d1 (by omega) (by rw [d3,hv,huw]; simp)
theorem A3B{w:W}(hv:¬ Vl w):wi w=0:=by
 unfold Vl at hv
 unfold wi
 simp only [Classical.not_not] at hv
 rw [hv.1,hv.2]; rfl
theorem Oi(F:Nat)(hF:A4 F){b:List Int}(hb:AnH b){w:W}(h:WOk w):Hd F b w=some (b++enc (uw (wi w)),()):=by
 unfold Hd
 rw [Ly F h]
 by_cases hv:Vl w
 ·have:=T3 F hF hb (fun z48=>some (z48,())) h.abs
  rw [Abv h hv] at this
  simp (disch:=omega) only [bs,↓iP,↓iN,hv,decide_true]
  exact this
 ·have:=T3 F hF hb (fun z48=>some (z48,())) (z:=0) (by decide)
  rw [Gg] at this
  simp (disch:=omega) only [bs,↓iP,↓iN,hv,decide_false]
  rw [A3B hv]
  exact this
def Ace(h:Int):List Int→List Int
 | []=>[]
 | x::t=>(x*128 % 18446744073709551616+h)::Ace (x / 144115188075855872) t
theorem Y9:∀ (l:List Int) (h:Int),(Ace h l).length=l.length
 | [],h=>rfl
 | x::t,h=>by simp [Ace,Y9 t]
theorem Amh:∀ {l:List Int} {h:Int},Wd l→0≤h∧h≤127→Wd (Ace h l)
 | [],h,_,hh=>Wd.nil
 | x::t,h,hw,hh=>by
  have:=Wd.head hw
  exact Wd.cons (by omega) (Amh (Wd.tail hw) (by omega))
theorem Ami:∀ {l:List Int} {h:Int},Wd l→0≤h∧h≤127→wv (Ace h l)=(128*wv l+h.toNat) % 18446744073709551616 ^ l.length
 | [],h,_,hh=>by simp [Ace,wv,Nat.mod_one]
 | x::t,h,hw,hh=>by
  have h1:=Wd.head hw
  have e:=Ami (l:=t) (h:=x / 144115188075855872) (Wd.tail hw) (by omega)
  simp only [Ace,wv,e,List.length_cons]
  rw [Nat.pow_succ,Nat.mul_comm (18446744073709551616 ^ t.length),Nat.mod_mul]
  have e1:(128*(x.toNat+18446744073709551616*wv t)+h.toNat) / 18446744073709551616=128*wv t+(x / 144115188075855872).toNat:=by omega
  rw [e1]
  congr 1
  omega
theorem T4{x h:Int}(hx:0≤x∧x≤18446744073709551615)(hh:0≤h∧h≤127):orI .u64 (Fs .u64 x 7) h=x*128 % 18446744073709551616+h:=by
 rw [Ir hx.1 (by omega),show min (7:Int).toNat 64=7 from rfl]
 have e:x.toNat*2 ^ 7 % 2 ^ 64=2 ^ 7*(x % 144115188075855872).toNat:=by omega
 rw [e,Na (by omega) (by omega),Int.toNat_natCast,← Nat.two_pow_add_eq_or_of_lt (by omega)]
 omega
theorem AuA{x:Int}(hx:0≤x):D6 .u64 x 57=x / 144115188075855872:=by
 rw [Ho hx]
 simp only [IntKind.bits]
 rw [show min (57:Int).toNat 64=57 from rfl]
 omega
theorem AhY(F:Nat){x9:List Int}(hw:Wd x9)(hl:x9.length=5) :
  ∃ y:List Int,(∀ (R:Type) (k:Int→W→List Int→List Int→Int→Option R) (x1:Int) (x4:W) (x7:List Int) (i:Int) (N:Nat),Iu F k (N+5) x1 x4 x7 x9 i 4=k x1 x4 x7 y i)∧∀ h:Int,0≤h∧h≤127→B6 y 0 (orI .u64 (Fs .u64 (Ak 0 y 0) 7) h)=Ace h x9:=by
 obtain ⟨a,b,c,d,e,rfl⟩:=Ye hl
 have ha:=hw a (by simp)
 have hb:=hw b (by simp)
 have hc:=hw c (by simp)
 have hd:=hw d (by simp)
 have he:=hw e (by simp)
 refine ⟨[a,orI .u64 (Fs .u64 b 7) (D6 .u64 a 57),orI .u64 (Fs .u64 c 7) (D6 .u64 b 57),orI .u64 (Fs .u64 d 7) (D6 .u64 c 57),orI .u64 (Fs .u64 e 7) (D6 .u64 d 57)],fun R k x1 x4 x7 i N=>by kernel_rfl,?_⟩
 intro h hh
 rw [AuA ha.1,AuA hb.1,AuA hc.1,AuA hd.1,T4 hb (by omega),T4 hc (by omega),T4 hd (by omega),T4 he (by omega)]
 simp only [Ak,B6,Int.toNat_zero,List.getD_cons_zero,List.set_cons_zero,Ace]
 rw [T4 ha hh]
theorem Ads(c:List Int)(m:Nat):dv (c.drop m)≤dv c:=by
 have:=W2 (c.take m) (c.drop m)
 rw [List.take_append_drop] at this
 have h3:dv (c.drop m)≤128 ^ (c.take m).length*dv (c.drop m):=Nat.le_mul_of_pos_left _ (Nat.pow_pos (by omega))
 omega
theorem Afx(F:Nat)(hF:A4 F){x1:Int}{x4:W}{c:List Int}(hb:Bt c)(hl:c.length≤37) :
  ∀ (m:Nat) (x9:List Int),m≤c.length→Wd x9→x9.length=5→wv x9=dv (c.drop m)→∀ N,m < N →
   ∃ y:List Int,Wd y∧y.length=5∧wv y=dv c∧∀ (R:Type) (k:Int→W→List Int→List Int→Option R),El F k N x1 x4 c x9 ((m:Int) - 1)=k x1 x4 c y:=by
 have hdc:dv c < 18446744073709551616 ^ 5:=by
  have:=AzS c
  have h2:=Nat.pow_le_pow_right (n:=128) (by omega) hl
  have:(128:Nat) ^ 37≤18446744073709551616 ^ 5:=by decide
  omega
 intro m
 induction m with
 | zero =>
  intro x9 hm h1 h2 h3 N hN
  obtain ⟨N,rfl⟩:∃ M,N=M+1:=⟨N - 1,by omega⟩
  refine ⟨x9,h1,h2,by simpa using h3,fun R k=>?_⟩
  unfold El
  simp (disch:=omega) only [bs,↓iP,↓iN]
 | succ m ih =>
  intro x9 hm h1 h2 h3 N hN
  obtain ⟨N,rfl⟩:∃ M,N=M+1:=⟨N - 1,by omega⟩
  have hsplit:=Qa (l:=c) (i:=m) (by omega)
  have hg:=Jn (P:=fun x=>0≤x∧x≤255) hb (by omega) (d:=0) m
  have e1:dv (c.drop m)=(c.getD m 0 % 128).toNat+128*dv (c.drop (m+1)):=by rw [hsplit]; rfl
  have e2:=Ads c m
  have hgl:Ak 0 c ((m:Int)+1 - 1)=c.getD m 0:=by rw [show(m:Int)+1 - 1=(m:Int) by omega,C4]
  have hw7:=Ami (l:=x9) (h:=c.getD m 0 % 128) h1 (by omega)
  rw [h2,Nat.mod_eq_of_lt (by rw [h3]; omega)] at hw7
  obtain ⟨y,f1,f2,f3,f4⟩:=ih (Ace (c.getD m 0 % 128) x9) (by omega) (Amh h1 (by omega)) (by rw [Y9,h2]) (by rw [hw7,h3,e1]; omega) N (by omega)
  refine ⟨y,f1,f2,f3,fun R k=>?_⟩
  obtain ⟨G,hG⟩:∃ G,F=G+5:=⟨F - 5,by unfold A4 at hF; omega⟩
  unfold El
  have hcast:((m+1:Nat):Int)=(m:Int)+1:=by omega
  rw [hcast]
  obtain ⟨z,g1,g2⟩:=AhY F h1 h2
  have hle:leI 0 ((m:Int)+1 - 1)=true:=by rw [Bu]; omega
  rw [hle,cT]
  have g1':=fun (k:Int→W→List Int→List Int→Int→Option R)=>g1 R k x1 x4 c ((m:Int)+1 - 1) G
  rw [← hG] at g1'
  rw [g1']
  simp (disch:=omega) only [bs,↓iP,↓iN,hgl,Bk,g2]
  rw [show(m:Int)+1 - 1 - 1=(m:Int) - 1 by omega]
  exact f4 R k
def Arn:List Int→List Int
 | []=>[]
 | [x]=>[x / 2]
 | x::y::t=>(x / 2+y % 2*9223372036854775808)::Arn (y::t)
theorem Amj:∀ {l:List Int},Wd l→wv (Arn l)=wv l / 2
 | [],_=>rfl
 | [x],h=>by have:=Wd.head h; simp only [Arn,wv]; omega
 | x::y::t,h=>by
  have h1:=Wd.head h
  have h2:=Wd.head (Wd.tail h)
  have e:=Amj (Wd.tail h)
  simp only [Arn,wv] at e ⊢
  omega
theorem Afy(F:Nat){x9:List Int}(hw:Wd x9)(hl:x9.length=5) :
  ∃ (ws:List Int) (e:Int),Wd ws∧ws.length=4∧0≤e∧Ak 0 x9 4=e∧(e≤1↔wv x9 < 2*Ax)∧(e≤1→wv ws=wv x9 / 2) ∧
   ∀ (R:Type) (k:Int→W→List Int→List Int→W→Option R) (x1:Int) (x4:W) (x7:List Int) (s:Bool) (N:Nat),Hx F k (N+5) x1 x4 x7 x9 (s,[0,0,0,0],()) 0=k x1 x4 x7 x9 (s,ws,()):=by
 obtain ⟨a,b,c,d,e,rfl⟩:=Ye hl
 have ha:=hw a (by simp)
 have hb:=hw b (by simp)
 have hc:=hw c (by simp)
 have hd:=hw d (by simp)
 have he:=hw e (by simp)
 refine ⟨[orI .u64 (D6 .u64 a 1) (Fs .u64 b 63),orI .u64 (D6 .u64 b 1) (Fs .u64 c 63),orI .u64 (D6 .u64 c 1) (Fs .u64 d 63),orI .u64 (D6 .u64 d 1) (Fs .u64 e 63)],e,?_,rfl,he.1,rfl,?_,?_,fun R k x1 x4 x7 s N=>by kernel_rfl⟩
 ·rw [J9 ha hb,J9 hb hc,J9 hc hd,J9 hd he]
  intro x hx
  simp only [List.mem_cons,List.not_mem_nil,or_false] at hx
  rcases hx with h | h | h | h <;> omega
 ·have:Ax=18446744073709551616*(18446744073709551616*(18446744073709551616*18446744073709551616)):=by decide
  rw [this]
  simp only [wv]
  omega
 ·intro h1
  rw [J9 ha hb,J9 hb hc,J9 hc hd,J9 hd he,← Amj hw]
  have h0:e / 2=0:=by omega
  simp only [Arn,wv,h0]
  rfl
def rdw(b:List Int)(at_:Int):Int×Int×Int :=
 if(gp 37 b at_).2=0 then
  (if dv (gp 37 b at_).1 < 2*Ax∧dv (gp 37 b at_).1≠1 then(wu (dv (gp 37 b at_).1),at_+(gp 37 b at_).1.length,0) else(0,0,5))
 else(0,0,(gp 37 b at_).2)
theorem Aro(b:List Int)(at_:Int):(rdw b at_).1.natAbs < Ax:=by
 have h0:(0:Int).natAbs < Ax:=by decide
 unfold rdw
 split
 ·split
  ·rename_i h; exact A3A h.1
  ·exact h0
 ·exact h0
theorem Qb(F:Nat)(hF:A4 F){b:List Int}(hb:Bt b)(hl:(b.length:Int)≤140737488355328)(at_:Int) :
  Ll F b at_=some (toW (rdw b at_).1,(rdw b at_).2.1,(rdw b at_).2.2,()):=by
 unfold Ll rdw
 rw [show(37:Int)=((37:Nat):Int) from rfl,S8 F hF hb hl at_ (n:=37) (by omega)]
 by_cases h0:(gp 37 b at_).2=0
 ·obtain ⟨ha0,ha1,c,rest,h1,h2,h3,h4,h5,h6⟩:=Auu hb h0
  rw [h1]
  have hpos:0 < c.length:=List.length_pos_iff.2 h4.ne
  obtain ⟨G,hG⟩:∃ G,F=G+5:=⟨F - 5,by unfold A4 at hF; omega⟩
  simp only [bS,if_true]
  have hc0:eqI (0:Int) 0=true:=by rw [Ao]
  rw [hc0,Bool.not_true,cF,show Bl .i64 (Au c) 1=(c.length:Int) - 1 by show IntKind.wrap .i64 _=_; rw [Cv (by unfold Au; omega)]; rfl]
  obtain ⟨y,f1,f2,f3,f4⟩:=Afx F hF (x1:=at_) (x4:=(false,[0,0,0,0],())) h6 h3 c.length [0,0,0,0,0] (by omega) (by intro x hx; simp at hx; omega) rfl (by simp [wv,dv]) F (by unfold A4 at hF; omega)
  rw [f4]
  obtain ⟨ws,e,g1,g2,g3,g4,g5,g6,g7⟩:=Afy F f1 f2
  have g7':=fun (R:Type) (k:Int→W→List Int→List Int→W→Option R) (x1:Int) (x4:W) (x7:List Int) (s:Bool)=>g7 R k x1 x4 x7 s G
  rw [← hG] at g7'
  rw [g7']
  rw [f3] at g5 g6
  have hpar:eqI (Iw (Ak 0 y 0) 2) 1=decide (dv c % 2=1):=by
   have hy:=Wd.get f1 0
   have:=Afw f1 (by omega)
   rw [f3] at this
   rw [Qi hy.1]
   unfold eqI
   apply decide_eq_decide.2
   omega
  rw [hpar]
  by_cases he:e≤1
  ·have hlt:=g5.1 he
   have hwv:=g6 he
   have hWk:WOk (decide (dv c % 2=1),ws,()):=⟨g1,g2⟩
   have hwi:wi (decide (dv c % 2=1),ws,())=wu (dv c):=by
    unfold wi wu
    simp only [decide_eq_true_eq,hwv]
   simp (disch:=omega) only [bs,↓iP,↓iN,g4,Ly F hWk]
   have hVl:Vl (decide (dv c % 2=1),ws,())↔dv c≠1:=by
    unfold Vl
    simp only [decide_eq_true_eq,hwv]
    omega
   by_cases h1:dv c=1
   ·have:¬ Vl (decide (dv c % 2=1),ws,()):=fun h=>hVl.1 h h1
    rw [decide_eq_false this,iN (show ¬ (dv c < 2*Ax∧dv c≠1) from fun h=>h.2 h1)]
    simp (disch:=omega) only [bs,↓iP,↓iN,Gg]
   ·have hv:Vl (decide (dv c % 2=1),ws,()):=hVl.2 h1
    rw [decide_eq_true hv,iP (show dv c < 2*Ax∧dv c≠1 from ⟨hlt,h1⟩),← hwi,Abv hWk hv]
    simp (disch:=omega) only [bs,↓iP,↓iN]
  ·have hge:¬ dv c < 2*Ax:=fun h=>he (g5.2 h)
   simp (disch:=omega) only [bs,↓iP,↓iN,g4]
   rw [Gg]
 ·simp (disch:=omega) only [bs,↓iP,↓iN,Gg]
theorem S9(F:Nat)(hF:A4 F){v:Nat}(hv:v < Ax){n:Int}(hn:0≤n∧n≤128){y:Int}(hy:0≤y∧y≤127)(hyn:y < n) :
  Ox F (toW (v:Int)) n y=some (if v*n.toNat+y.toNat < Ax then(toW ((v*n.toNat+y.toNat:Nat):Int),true,()) else(toW 0,false,())):=by
 unfold Ox
 have hok:=D5 (z:=(v:Int)) (by omega)
 have hbig:=Yb
 have hnok:=D5 (z:=n) (by omega)
 have e:((v:Int)*n)=((v*n.toNat:Nat):Int):=by rw [Int.natCast_mul,Int.toNat_of_nonneg hn.1]
 rw [Gy F (by unfold I64; omega)]
 simp only [bS]
 rw [N6 F hF hok hnok,Ct,Ct,e]
 generalize hm:v*n.toNat=m at *
 unfold Adq
 rw [Int.natAbs_natCast]
 by_cases c:m < Ax
 ·rw [iP c]
  have hmok:=D5 (z:=(m:Int)) (by omega)
  have hyok:=D5 (z:=y) (by omega)
  simp only [bS,Bool.not_true,cF,Ko F (x:=y) (by omega),N7 F hF hmok hyok,Ct]
  have e2:(m:Int)+y=((m+y.toNat:Nat):Int):=by omega
  rw [e2]
  unfold Adq
  rw [Int.natAbs_natCast]
  by_cases c2:m+y.toNat < Ax
  ·simp only [iP c2]
  ·simp only [iN c2]
 ·rw [iN c,iN (by omega)]
  simp only [bS,Bool.not_false,cT,Gg]
theorem Zn(F:Nat)(hF:A4 F){x1:Int}{x4:W}{c:List Int}(hb:Bt c)(hl:c.length≤37) :
  ∀ (m:Nat),m+1≤c.length→∀ (x10:W) (ok:Bool),(if dv (c.drop (m+1)) < Ax then x10=toW (dv (c.drop (m+1)):Int)∧ok=true else ok=false)→∀ N,m+1 < N →
   ∃ (y:W) (ok':Bool),(if dv (c.drop 1) < Ax then y=toW (dv (c.drop 1):Int)∧ok'=true else ok'=false) ∧
    ∀ (R:Type) (k:Int→W→List Int→W→Bool→Option R),Dm F k N x1 x4 c x10 ok (m:Int)=k x1 x4 c y ok':=by
 intro m
 induction m with
 | zero =>
  intro hm x10 ok hx N hN
  obtain ⟨N,rfl⟩:∃ M,N=M+1:=⟨N - 1,by omega⟩
  refine ⟨x10,ok,hx,fun R k=>?_⟩
  unfold Dm
  simp (disch:=omega) only [bs,↓iP,↓iN]
 | succ m ih =>
  intro hm x10 ok hx N hN
  obtain ⟨N,rfl⟩:∃ M,N=M+1:=⟨N - 1,by omega⟩
  have hsplit:=Qa (l:=c) (i:=m+1) (by omega)
  have hg:=Jn (P:=fun x=>0≤x∧x≤255) hb (by omega) (d:=0) (m+1)
  have e1:dv (c.drop (m+1))=(c.getD (m+1) 0 % 128).toNat+128*dv (c.drop (m+1+1)):=by rw [hsplit]; rfl
  have hgl:Ak 0 c ((m:Int)+1)=c.getD (m+1) 0:=by rw [show(m:Int)+1=((m+1:Nat):Int) by omega,C4]
  have hcast:((m+1:Nat):Int)=(m:Int)+1:=by omega
  have mono:dv (c.drop (m+1))≤dv (c.drop 1):=by
   have:=Ads (c.drop 1) m
   rw [List.drop_drop,Nat.add_comm] at this
   exact this
  by_cases c1:dv (c.drop (m+1+1)) < Ax
  ·rw [iP c1] at hx
   obtain ⟨hx1,hx2⟩:=hx
   subst hx1 hx2
   have es:=S9 F hF c1 (n:=128) (by omega) (y:=c.getD (m+1) 0 % 128) (by omega) (by omega)
   have e3:dv (c.drop (m+1+1))*(128:Int).toNat+(c.getD (m+1) 0 % 128).toNat=dv (c.drop (m+1)):=by rw [e1,show(128:Int).toNat=128 from rfl]; omega
   rw [e3] at es
   by_cases c2:dv (c.drop (m+1)) < Ax
   ·rw [iP c2] at es
    obtain ⟨y,ok',g1,g2⟩:=ih (by omega) (toW (dv (c.drop (m+1)):Int)) true (by rw [iP c2]; exact ⟨rfl,rfl⟩) N (by omega)
    refine ⟨y,ok',g1,fun R k=>?_⟩
    rw [hcast]
    unfold Dm
    simp (disch:=omega) only [bs,↓iP,↓iN,hgl,Bk,es]
    rw [show(m:Int)+1 - 1=(m:Int) by omega]
    exact g2 R k
   ·rw [iN c2] at es
    obtain ⟨y,ok',g1,g2⟩:=ih (by omega) (toW 0) false (by rw [iN c2]) N (by omega)
    refine ⟨y,ok',g1,fun R k=>?_⟩
    rw [hcast]
    unfold Dm
    simp (disch:=omega) only [bs,↓iP,↓iN,hgl,Bk,es]
    rw [show(m:Int)+1 - 1=(m:Int) by omega]
    exact g2 R k
  ·rw [iN c1] at hx
   subst hx
   refine ⟨x10,false,?_,fun R k=>?_⟩
   ·rw [iN (by omega)]
   ·rw [hcast]
    unfold Dm
    simp (disch:=omega) only [bs,↓iP,↓iN]
theorem Arp{c:List Int}(hpos:0 < c.length):dv c=(c.getD 0 0 % 128).toNat+128*dv (c.drop 1):=by
 have hsplit:=Qa (l:=c) (i:=0) hpos
 rw [List.drop_zero,Nat.zero_add] at hsplit
 exact congrArg dv hsplit
theorem Zo(F:Nat)(hF:A4 F){c:List Int}(h6:Bt c)(h3:c.length≤37)(hpos:0 < c.length){at_:Int}(ha0:0≤at_∧at_≤140737488355328)(hne:dv c≠1) :
  D4 F (fun z45 z46 z47=>some (z45,(z46,(z47,())))) at_ (false,([0,0,0,0],())) c=some (if dv c < 2*Ax then(toW (wu (dv c)),at_+c.length,0,()) else(toW 0,0,5,())):=by
 have h3':(c.length:Int)≤37:=by omega
 have hg0:=Jn (P:=fun x=>0≤x∧x≤255) h6 (by omega) (d:=0) 0
 have hgl:Ak 0 c 0=c.getD 0 0:=by rw [show(0:Int)=((0:Nat):Int) from rfl,C4]
 have e1:=Arp hpos
 unfold D4
 have hz:(0:Nat) < Ax:=by decide
 obtain ⟨y,ok',g1,g2⟩:=Zn F hF (x1:=at_) (x4:=(false,([0,0,0,0],()))) h6 h3 (c.length - 1) (by omega) (false,([0,0,0,0],())) true (by
  rw [show c.length - 1+1=c.length by omega,List.drop_length]
  rw [iP (show dv [] < Ax from hz)]
  exact ⟨by rw [show dv []=0 from rfl]; exact Gg.symm,rfl⟩) F (by unfold A4 at hF; omega)
 rw [show Bl .i64 (Au c) 1=((c.length - 1:Nat):Int) by show IntKind.wrap .i64 _=_; rw [Cv (by unfold Au; omega)]; unfold Au; omega,g2]
 unfold Lr
 by_cases c1:dv (c.drop 1) < Ax
 ·rw [iP c1] at g1
  obtain ⟨g3,g4⟩:=g1
  subst g3 g4
  have es:=S9 F hF c1 (n:=64) (by omega) (y:=(c.getD 0 0 % 128) / 2) (by omega) (by omega)
  have e3:dv (c.drop 1)*(64:Int).toNat+((c.getD 0 0 % 128) / 2).toNat=dv c / 2:=by rw [e1,show(64:Int).toNat=64 from rfl]; omega
  rw [e3] at es
  have hq8:Hi .u8 (c.getD 0 0 % 128) 2=(c.getD 0 0 % 128) / 2:=by
   show IntKind.u8.wrap ((c.getD 0 0 % 128).tdiv 2)=_
   rw [Int.tdiv_eq_ediv_of_nonneg (by omega),Qh (by omega)]
  by_cases c2:dv c < 2*Ax
  ·rw [iP (by omega)] at es
   have hok:=D5 (z:=((dv c / 2:Nat):Int)) (by omega)
   rw [iP c2]
   by_cases c3:dv c % 2=1
   ·simp (disch:=omega) only [bs,↓iP,↓iN,hgl,hq8,Bk,es,Jg F hF hok,Ct]
    unfold wu
    rw [iP c3]
   ·simp (disch:=omega) only [bs,↓iP,↓iN,hgl,hq8,Bk,es]
    unfold wu
    rw [iN c3]
  ·rw [iN (by omega)] at es
   simp (disch:=omega) only [bs,↓iP,↓iN,hgl,hq8,Bk,es,Gg]
 ·rw [iN c1] at g1
  subst g1
  simp (disch:=omega) only [bs,↓iP,↓iN,Gg]
def rdv(c:List Int)(at_:Int):Int×Int×Int:=if dv c < 2*Ax∧dv c≠1 then(wu (dv c),at_+c.length,0) else(0,0,5)
theorem Yf(F:Nat)(hF:A4 F){c:List Int}(h6:Bt c)(h3:c.length≤37)(hpos:0 < c.length){at_:Int}(ha0:0≤at_∧at_≤140737488355328)(hne:dv c≠1) :
  D4 F (fun z45 z46 z47=>some (z45,(z46,(z47,())))) at_ (false,([0,0,0,0],())) c=some (toW (rdv c at_).1,(rdv c at_).2.1,(rdv c at_).2.2,()):=by
 rw [Zo F hF h6 h3 hpos ha0 hne]
 unfold rdv
 by_cases c2:dv c < 2*Ax
 ·rw [iP c2,iP ⟨c2,hne⟩]
 ·rw [iN c2,iN (fun h=>c2 h.1)]
theorem AzV{c:List Int}{at_:Int}(h:dv c=1):rdv c at_=(0,0,5):=by
 unfold rdv
 rw [iN (fun h2=>h2.2 h)]
theorem AbA{c:List Int}(h4:Grp c)(h6:Bt c)(hlen:c.length=1):dv c=(lst c).toNat:=by
 have hpos:0 < c.length:=by omega
 have hlst:lst c=c.getD 0 0:=by rw [← Sx c h4.ne,hlen]
 have hlt:=h4.lst_lt
 have hr:=Abt h6
 rw [Arp hpos,List.drop_eq_nil_of_le (by omega),← hlst]
 simp only [dv]
 omega
theorem AzW{c:List Int}(h4:Grp c)(h6:Bt c)(hlen:1 < c.length)(hx0:lst c≠0):dv c≠1:=by
 have h:=Ar5 h4 h6
 have hr:=Abt h6
 have:(1:Nat)*128 ^ 1≤(lst c).toNat*128 ^ (c.length - 1):=Nat.mul_le_mul (by omega) (Nat.pow_le_pow_right (by omega) (by omega))
 omega
theorem Yg(F:Nat)(hF:A4 F){b:List Int}(hb:Bt b)(hl:(b.length:Int)≤140737488355328)(at_:Int)(h0:(gr 37 b at_).2=0) :
  Ij F b at_=some (if lst (gr 37 b at_).1=0∧1 < (gr 37 b at_).1.length then(toW 0,0,5,()) else(toW (rdv (gr 37 b at_).1 at_).1,(rdv (gr 37 b at_).1 at_).2.1,(rdv (gr 37 b at_).1 at_).2.2,())):=by
 unfold Ij
 rw [show(37:Int)=((37:Nat):Int) from rfl,Pr F hF hl at_ (n:=37) (by omega)]
 obtain ⟨ha0,ha1,c,rest,h1,h2,h3,h4,h6⟩:=A3w hb h0
 rw [h1]
 have hpos:0 < c.length:=List.length_pos_iff.2 h4.ne
 have hlast:Ak 0 c ((c.length:Int) - 1)=lst c:=by rw [show(c.length:Int) - 1=((c.length - 1:Nat):Int) by omega,C4,Sx c h4.ne]
 have h3':(c.length:Int)≤37:=by omega
 have core:=fun h=>Yf F hF h6 h3 hpos (at_:=at_) (by omega) h
 clear h0 h1 h2 hb
 by_cases hx0:lst c=0
 ·by_cases hc1:1 < c.length
  ·rw [iP (show lst (c,(0:Int)).1=0∧1 < (c,(0:Int)).1.length from ⟨hx0,hc1⟩)]
   simp (disch:=omega) only [bs,↓iP,↓iN,hlast]
   rw [Gg]
  ·have hcore:=core (by rw [AbA h4 h6 (by omega),hx0]; simp)
   rw [iN (show ¬ (lst (c,(0:Int)).1=0∧1 < (c,(0:Int)).1.length) from fun h=>hc1 h.2)]
   simp (disch:=omega) only [bs,↓iP,↓iN,hlast]
   exact hcore
 ·rw [iN (show ¬ (lst (c,(0:Int)).1=0∧1 < (c,(0:Int)).1.length) from fun h=>hx0 h.1)]
  by_cases hlen:c.length=1
  ·by_cases h1:lst c=1
   ·rw [AzV (by rw [AbA h4 h6 hlen,h1]; rfl)]
    simp (disch:=omega) only [bs,↓iP,↓iN,hlast]
    rw [Gg]
   ·have hlt:=Abt h6
    have hcore:=core (by rw [AbA h4 h6 hlen]; omega)
    simp (disch:=omega) only [bs,↓iP,↓iN,hlast]
    exact hcore
  ·have hcore:=core (AzW h4 h6 (by omega) hx0)
   simp (disch:=omega) only [bs,↓iP,↓iN,hlast]
   exact hcore
theorem Q4(F:Nat)(hF:A4 F){b:List Int}(hb:Bt b)(hl:(b.length:Int)≤140737488355328)(at_:Int) :
  Ij F b at_=some (toW (rdw b at_).1,(rdw b at_).2.1,(rdw b at_).2.2,()):=by
 unfold rdw
 rw [A3v hb]
 by_cases h0:(gr 37 b at_).2=0
 ·rw [Yg F hF hb hl at_ h0]
  by_cases hc:lst (gr 37 b at_).1=0∧1 < (gr 37 b at_).1.length
  ·rw [iP hc,iP (show(gr 37 b at_).2=0∧lst (gr 37 b at_).1=0∧1 < (gr 37 b at_).1.length from ⟨h0,hc⟩),iN (by simp)]
  ·rw [iN hc,iN (show ¬ ((gr 37 b at_).2=0∧lst (gr 37 b at_).1=0∧1 < (gr 37 b at_).1.length) from fun h=>hc h.2),iP h0]
   rfl
 ·rw [iN (show ¬ ((gr 37 b at_).2=0∧lst (gr 37 b at_).1=0∧1 < (gr 37 b at_).1.length) from fun h=>h0 h.1),iN h0]
  unfold Ij
  rw [show(37:Int)=((37:Nat):Int) from rfl,Pr F hF hl at_ (n:=37) (by omega)]
  have:eqI (gr ((37:Nat)) b at_).2 0=false:=by rw [← Bool.not_eq_true,Ao]; exact h0
  simp only [bS,this,Bool.not_false,cT,Gg]
theorem Q5(F:Nat){t:List Int×Int×Unit}(h:Eh t){n:Int}(hn:1≤n∧n≤9223372036854775807) :
  ∃ t' v,J2 F t n=some (t',v,())∧Eh t':=by
 obtain ⟨t1,v,e,ht1,h1,h2⟩:=Am F h (n:=n) (by omega)
 refine ⟨t1,eqI v (Iw 1 n),?_,ht1⟩
 unfold J2
 simp (disch:=omega) only [bs,↓iP,↓iN,e]
theorem Bp(x:Int):I64 (IntKind.i64.wrap x):=by
 unfold I64
 simp only [IntKind.wrap,IntKind.bits,IntKind.signed,Bool.true_and,ge_iff_le,decide_eq_true_eq]
 split <;> omega
theorem H8(F:Nat)(hF:A4 F){t:List Int×Int×Unit}(h:Eh t) :
  ∃ t' v,F4 F t=some (t',v,())∧Eh t'∧I64 v:=by
 obtain ⟨t1,v,e,ht1,h1,h2⟩:=Am F h (n:=8) (by omega)
 unfold F4
 rw [e]
 simp only [bS]
 by_cases c0:v=0
 ·obtain ⟨t2,w,e2,ht2,hw⟩:=Hg F hF ht1
  refine ⟨t2,IntKind.i64.wrap w,?_,ht2,Bp w⟩
  simp (disch:=omega) only [bs,↓iP,↓iN,e2]
 ·by_cases c1:v=1
  ·obtain ⟨t2,w,e2,ht2,hw0,hw⟩:=Am F ht1 (n:=4) (by omega)
   refine ⟨t2,9223372036854775807 - w,?_,ht2,by unfold I64; omega⟩
   simp (disch:=omega) only [bs,↓iP,↓iN,e2]
  ·by_cases c2:v=2
   ·obtain ⟨t2,w,e2,ht2,hw0,hw⟩:=Am F ht1 (n:=4) (by omega)
    refine ⟨t2,-9223372036854775808+w,?_,ht2,by unfold I64; omega⟩
    simp (disch:=omega) only [bs,↓iP,↓iN,e2]
   ·by_cases c3:v=3
    ·obtain ⟨t2,w,e2,ht2,hw⟩:=Hg F hF ht1
     obtain ⟨t3,u,e3,ht3,hu0,hu⟩:=Am F ht2 (n:=64) (by omega)
     refine ⟨t3,IntKind.i64.wrap (D6 .u64 w u),?_,ht3,Bp _⟩
     simp (disch:=omega) only [bs,↓iP,↓iN,e2,e3,Bk]
    ·obtain ⟨t2,w,e2,ht2,hw0,hw⟩:=Am F ht1 (n:=2000) (by omega)
     refine ⟨t2,w - 1000,?_,ht2,by unfold I64; omega⟩
     simp (disch:=omega) only [bs,↓iP,↓iN,e2]
theorem Awl{w:W}(h:wfT (.pair .bool (.pair (.arr 4 (.int .u64)) .unit)) w):WOk w :=
 ⟨fun x hx=>AwV (h.2.1.2 x hx),h.2.1.1⟩
def wdN:List Int→Nat
  | []=>0
  | x::t=>max (Lib.bitLen x.toNat) (wdN t)
theorem AhZ:∀ {l:List Int},Wd l→X6 l (wdN l:Int)
  | [],_=>⟨by simp [wdN],by simp [wdN],fun w=>by simp [wdN]⟩
  | x::t,hl=>by
    have hx:=Wd.head hl
    obtain ⟨h1,h2,h3⟩:=AhZ (Wd.tail hl)
    have hb:=(Ls (x:=x.toNat) (w:=64) (by omega)).2 (by omega)
    refine ⟨by omega,by simp only [wdN]; omega,fun w=>?_⟩
    have h4:=h3 w
    have h5:=Ls (x:=x.toNat) (w:=w) (by omega)
    rw [← AzP hx.1] at h5
    rw [List.forall_mem_cons,← h4,← h5]
    simp only [wdN]
    omega
theorem Amk{l:List Int}(hl:Wd l):wdN l≤64:=by have:=(AhZ hl).2.1; omega
def Aml(f:Nat→Bool):Nat:=(f 0).toNat+2*(f 1).toNat+4*(f 2).toNat+8*(f 3).toNat+16*(f 4).toNat+32*(f 5).toNat+64*(f 6).toNat+128*(f 7).toNat
theorem Arq(f:Nat→Bool):Aml f < 256:=by
  unfold Aml
  have h:=fun i=>Bool.toNat_le (f i)
  have h0:=h 0
  have h1:=h 1
  have h2:=h 2
  have h3:=h 3
  have h4:=h 4
  have h5:=h 5
  have h6:=h 6
  have h7:=h 7
  omega
theorem Arr:∀ (a b c d e g h i:Bool) (k:Fin 8),(a.toNat+2*b.toNat+4*c.toNat+8*d.toNat+16*e.toNat+32*g.toNat+64*h.toNat+128*i.toNat).testBit k.val=([a,b,c,d,e,g,h,i].getD k.val false):=by decide +kernel
theorem AnL(f:Nat→Bool){k:Nat}(hk:k < 8):(Aml f).testBit k=f k:=by
  refine(Arr (f 0) (f 1) (f 2) (f 3) (f 4) (f 5) (f 6) (f 7) ⟨k,hk⟩).trans ?_
  match k,hk with
  | 0,_=>rfl
  | 1,_=>rfl
  | 2,_=>rfl
  | 3,_=>rfl
  | 4,_=>rfl
  | 5,_=>rfl
  | 6,_=>rfl
  | 7,_=>rfl
def pk(l:List Int)(w:Nat):List Int:=(List.range ((l.length*w+7) / 8)).map fun i=>(Aml (fun k=>decide (8*i+k < l.length*w) && bof l w (8*i+k)):Int)
theorem AbB(l:List Int)(w:Nat):(pk l w).length=(l.length*w+7) / 8:=by simp [pk]
theorem AbC(l:List Int)(w:Nat):Am7 l w (pk l w):=by
  refine ⟨?_,AbB l w,fun p=>?_⟩
  · intro x hx
    obtain ⟨i,_,rfl⟩:=List.mem_map.1 hx
    have:=Arq (fun k=>decide (8*i+k < l.length*w) && bof l w (8*i+k))
    omega
  · by_cases h:p / 8 < (l.length*w+7) / 8
    · unfold Kv pk
      rw [List.getD_eq_getElem?_getD,List.getElem?_map,List.getElem?_range h]
      simp only [Option.map_some,Option.getD_some]
      rw [Tm,AnL _ (Nat.mod_lt _ (by omega)),Nat.div_add_mod]
    · rw [AaT (by rw [AbB]; omega)]
      simp [show ¬ p < l.length*w by omega]
def Acf:List Int→List Int
  | []=>[]
  | x::t=>enc x.toNat++Acf t
theorem Ars:∀ l:List Int,Bt (Acf l)
  | []=>Bt.nil
  | x::t=>Bt.append (Am8 _) (Ars t)
theorem Aae:∀ {l:List Int},Wd l→(Acf l).length≤10*l.length
  | [],_=>by simp [Acf]
  | x::t,h=>by
    have hx:=Wd.head h
    have h1:=W0 (v:=x.toNat) (by omega)
    have h2:=Aae (Wd.tail h)
    simp only [Acf,List.length_append,List.length_cons]
    omega
def nE(l:List Int):List Int:=if 2+(pk l (wdN l)).length < 1+(Acf l).length then 1::(wdN l:Int)::pk l (wdN l) else 0::Acf l
theorem AzX{l:List Int}(h:Wd l):Bt (nE l):=by
  have:=Amk h
  unfold nE
  split
  · exact Bt.append (Bt.one (by omega)) (Bt.append (Bt.one (by omega)) (AbC l (wdN l)).1)
  · exact Bt.append (Bt.one (by omega)) (Ars l)
theorem Afz{l:List Int}(h:Wd l)(hn:l.length≤65536):(pk l (wdN l)).length≤524288:=by
  have:=Nat.mul_le_mul hn (Amk h)
  rw [AbB]
  omega
theorem Awm{l:List Int}(h:Wd l):(nE l).length≤1+(Acf l).length∧(nE l).length≤2+(pk l (wdN l)).length∧0 < (nE l).length:=by
  unfold nE
  split
  · simp only [List.length_cons]; omega
  · simp only [List.length_cons]; omega
theorem Jz{l:List Int}(h:Wd l)(hn:l.length≤65536):(nE l).length≤524290:=by
  have h1:=(Awm h).2.1
  have h2:=Afz h hn
  omega
def rdn:Nat→List Int→Int→List Int×Int×Int
  | 0,_,at_=>([],at_,0)
  | n+1,b,at_ =>
    if(rd b at_).2.2=0 then
      (if(rdn n b (rd b at_).2.1).2.2=0 then(((rd b at_).1:Int)::(rdn n b (rd b at_).2.1).1,(rdn n b (rd b at_).2.1).2.1,0)
       else([],0,(rdn n b (rd b at_).2.1).2.2))
    else([],0,(rd b at_).2.2)
theorem Art{b:List Int}(hb:Bt b){at_:Int}(h:(rd b at_).2.2=0):0≤at_∧at_ < (rd b at_).2.1∧(rd b at_).2.1≤b.length∧b.drop at_.toNat=enc (rd b at_).1++b.drop (rd b at_).2.1.toNat:=by
  unfold rd at h ⊢
  by_cases h0:(gp 10 b at_).2=0
  · obtain ⟨a0,a1,c,rest,h1,h2,h3,h4,h5,h6⟩:=Auu hb h0
    rw [h1] at h ⊢
    simp only [if_true] at h ⊢
    by_cases h7:dv c < 2 ^ 64
    · simp only [iP h7] at h ⊢
      have hpos:0 < c.length:=List.length_pos_iff.2 h4.ne
      have hlen:(b.drop at_.toNat).length=(c++rest).length:=by rw [h2]
      simp only [List.length_drop,List.length_append] at hlen
      refine ⟨a0,by omega,by omega,?_⟩
      rw [h5,h2]
      congr 1
      rw [show(at_+(c.length:Int)).toNat=at_.toNat+c.length by omega,← List.drop_drop,h2]
      simp
    · rw [iN h7] at h; simp at h
  · rw [iN h0] at h; exact absurd h h0
theorem Awn:∀ {n:Nat} {b:List Int},Bt b→∀ {at_:Int},0≤at_→at_≤b.length→(rdn n b at_).2.2=0 →
    at_≤(rdn n b at_).2.1∧(rdn n b at_).2.1≤b.length∧(rdn n b at_).1.length=n∧Wd (rdn n b at_).1∧b.drop at_.toNat=Acf (rdn n b at_).1++b.drop (rdn n b at_).2.1.toNat
  | 0,b,_,at_,h0,h1,_=>⟨Int.le_refl _,h1,rfl,Wd.nil,rfl⟩
  | n+1,b,hb,at_,h0,h1,h=>by
    unfold rdn at h ⊢
    by_cases c:(rd b at_).2.2=0
    · rw [iP c] at h ⊢
      obtain ⟨r1,r2,r3,r4⟩:=Art hb c
      have rl:=A7u b at_
      by_cases d:(rdn n b (rd b at_).2.1).2.2=0
      · rw [iP d]
        obtain ⟨i1,i2,i3,i4,i5⟩:=Awn (n:=n) hb (at_:=(rd b at_).2.1) (by omega) r3 d
        refine ⟨by simp only; omega,i2,by simp [i3],Wd.cons (by omega) i4,?_⟩
        simp only [Acf,Int.toNat_natCast]
        rw [r4,i5,List.append_assoc]
      · rw [iN d] at h; exact absurd h d
    · rw [iN c] at h; exact absurd h c
def Sg(l:List Int):Prop:=∀ x∈l,I64 x
theorem Sg.nil:Sg []:=fun x hx=>by cases hx
theorem Sg.head{x:Int}{t:List Int}(h:Sg (x::t)):I64 x:=h x (by simp)
theorem Sg.tail{x:Int}{t:List Int}(h:Sg (x::t)):Sg t:=fun y hy=>h y (List.mem_cons_of_mem _ hy)
theorem Sg.cons{x:Int}{t:List Int}(h:I64 x)(ht:Sg t):Sg (x::t):=by
 intro y hy
 rcases List.mem_cons.1 hy with e | e
 ·exact e ▸ h
 ·exact ht y e
theorem Sg.append{l m:List Int}(h:Sg l)(k:Sg m):Sg (l++m):=fun x hx=>(List.mem_append.1 hx).elim (h x) (k x)
theorem Sg.get{l:List Int}(h:Sg l)(i:Int):I64 (Ak 0 l i):=Jn (P:=I64) h (by unfold I64; omega) _
theorem Jh(x:Int):∃ k:Int,IntKind.i64.wrap x=x+k*18446744073709551616:=by
 simp only [IntKind.wrap,IntKind.bits,IntKind.signed,Bool.true_and,ge_iff_le,decide_eq_true_eq]
 split
 ·exact ⟨-(x / 18446744073709551616) - 1,by omega⟩
 ·exact ⟨-(x / 18446744073709551616),by omega⟩
theorem Aaf{x y:Int}(hx:I64 x)(hy:I64 y){k:Int}(h:x=y+k*18446744073709551616):x=y:=by
 unfold I64 at hx hy
 omega
def dls:Int→Int→List Int→List Int
 | _,_,[]=>[]
 | p,b,x::t=>(zz (IntKind.i64.wrap (x - p - b)):Int)::dls x (x - p) t
def dl:List Int→List Int
 | []=>[]
 | [_]=>[]
 | p::x::t=>(x - p - 1)::dls x (x - p) t
def dfs:Int→List Int→List Int
 | _,[]=>[]
 | p,x::t=>IntKind.i64.wrap (x - p)::dfs x t
def df:List Int→List Int
 | []=>[]
 | x::t=>x::dfs x t
def sms:Int→List Int→List Int
 | _,[]=>[]
 | p,x::t=>IntKind.i64.wrap (p+x)::sms (IntKind.i64.wrap (p+x)) t
def sm:List Int→List Int
 | []=>[]
 | x::t=>x::sms x t
theorem Adt:∀ (t:List Int) (p:Int),(dfs p t).length=t.length
 | [],_=>rfl
 | x::t,p=>by simp [dfs,Adt t]
theorem AbD(l:List Int):(df l).length=l.length:=by cases l <;> simp [df,Adt]
theorem Adu:∀ (t:List Int) (p:Int),(sms p t).length=t.length
 | [],_=>rfl
 | x::t,p=>by simp [sms,Adu t]
theorem AbE(l:List Int):(sm l).length=l.length:=by cases l <;> simp [sm,Adu]
theorem Awo:∀ (t:List Int) (p:Int),Sg (dfs p t)
 | [],_=>Sg.nil
 | x::t,p=>Sg.cons (Bp _) (Awo t x)
theorem A7w{l:List Int}(h:Sg l):Sg (df l):=by
 cases l with
 | nil=>exact Sg.nil
 | cons x t=>exact Sg.cons (Sg.head h) (Awo t x)
theorem Awp:∀ (t:List Int) (p:Int),Sg (sms p t)
 | [],_=>Sg.nil
 | x::t,p=>Sg.cons (Bp _) (Awp t _)
theorem A7x{l:List Int}(h:Sg l):Sg (sm l):=by
 cases l with
 | nil=>exact Sg.nil
 | cons x t=>exact Sg.cons (Sg.head h) (Awp t x)
def dfn:Nat→List Int→List Int
 | 0,l=>l
 | n+1,l=>dfn n (df l)
def smn:Nat→List Int→List Int
 | 0,l=>l
 | n+1,l=>smn n (sm l)
theorem C3:∀ (n:Nat) (l:List Int),(dfn n l).length=l.length
 | 0,_=>rfl
 | n+1,l=>by rw [dfn,C3 n,AbD]
theorem Adv:∀ (n:Nat) (l:List Int),(smn n l).length=l.length
 | 0,_=>rfl
 | n+1,l=>by rw [smn,Adv n,AbE]
theorem L1:∀ (n:Nat) {l:List Int},Sg l→Sg (dfn n l)
 | 0,_,h=>h
 | n+1,l,h=>L1 n (A7w h)
theorem Awq:∀ (n:Nat) {l:List Int},Sg l→Sg (smn n l)
 | 0,_,h=>h
 | n+1,l,h=>Awq n (A7x h)
def zs:List Int→List Int
 | []=>[]
 | x::t=>(zz x:Int)::zs t
def us:List Int→List Int
 | []=>[]
 | x::t=>uz x.toNat::us t
theorem E0:∀ l:List Int,(zs l).length=l.length
 | []=>rfl
 | x::t=>by simp [zs,E0 t]
theorem W8:∀ l:List Int,(us l).length=l.length
 | []=>rfl
 | x::t=>by simp [us,W8 t]
theorem Ux:∀ {l:List Int},Sg l→Wd (zs l)
 | [],_=>Wd.nil
 | x::t,h=>Wd.cons (by have:=A7t (Sg.head h); omega) (Ux (Sg.tail h))
theorem A3C:∀ {l:List Int},Wd l→Sg (us l)
 | [],_=>Sg.nil
 | x::t,h=>Sg.cons (A3u (by have:=Wd.head h; omega)) (A3C (Wd.tail h))
def rO(n:Nat)(l:List Int):List Int:=(n:Int)::nE (zs (dfn n l))
def E4(a b:List Int):List Int:=if a.length < b.length then a else b
def rE(l:List Int):List Int:=E4 (rO 2 l) (E4 (rO 1 l) (rO 0 l))
theorem A7y{n:Nat}(hn:n≤2){l:List Int}(h:Sg l):Bt (rO n l):=Bt.append (Bt.one (by omega)) (AzX (Ux (L1 n h)))
theorem Amm{n:Nat}{l:List Int}(h:Sg l)(hl:l.length≤65536):(rO n l).length≤524291∧0 < (rO n l).length:=by
 have:=Jz (Ux (L1 n h)) (by rw [E0,C3]; exact hl)
 unfold rO
 simp only [List.length_cons]
 omega
theorem H0(a b:List Int):(E4 a b=a∨E4 a b=b)∧(E4 a b).length≤a.length∧(E4 a b).length≤b.length:=by
 unfold E4; split <;> simp <;> omega
theorem A7z(l:List Int):∃ n:Nat,n≤2∧rE l=rO n l:=by
 unfold rE
 rcases (H0 (rO 2 l) (E4 (rO 1 l) (rO 0 l))).1 with h | h
 ·exact ⟨2,by omega,h⟩
 ·rcases (H0 (rO 1 l) (rO 0 l)).1 with k | k
  ·exact ⟨1,by omega,h.trans k⟩
  ·exact ⟨0,by omega,h.trans k⟩
theorem AuB(l:List Int){n:Nat}(hn:n≤2):(rE l).length≤(rO n l).length:=by
 unfold rE
 have h1:=(H0 (rO 2 l) (E4 (rO 1 l) (rO 0 l))).2
 have h2:=(H0 (rO 1 l) (rO 0 l)).2
 match n,hn with
 | 0,_=>omega
 | 1,_=>omega
 | 2,_=>omega
theorem W9{l:List Int}(hl:Wd l){i:Nat}(hi:i < l.length):∃ v:Nat,Ak 0 l (i:Int)=(v:Int)∧v < 2 ^ 64∧(enc v).length≤10∧Acf (l.drop i)=enc v++Acf (l.drop (i+1)):=by
 have hx:=hl.get (i:Int)
 obtain ⟨v,hv⟩:=Int.eq_ofNat_of_zero_le hx.1
 have hv64:v < 2 ^ 64:=by omega
 refine ⟨v,hv,hv64,W0 hv64,?_⟩
 rw [Qa hi,Acf]
 have:l.getD i 0=(v:Int):=by rw [← C4]; exact hv
 rw [this]; rfl
theorem AnN(F:Nat){R:Type}(k:List Int→Int→Option R)(x0:List Int){l:List Int}(hl:Wd l)(hb:l.length≤65536):∀ (m i z:Nat),i+m=l.length→z≤1+10*i →
  ∀ N,m < N→Ff F k N x0 (z:Int) l (l.length:Int) (i:Int)=k x0 ((z+(Acf (l.drop i)).length:Nat):Int):=by
 intro m
 induction m with
 | zero =>
  intro i z hi hz N hN
  obtain ⟨N,rfl⟩:∃ M,N=M+1:=⟨N - 1,by omega⟩
  rw [List.drop_eq_nil_of_le (by omega)]
  unfold Ff
  simp (disch:=omega) only [bs,↓iP,↓iN]
  rfl
 | succ m ih =>
  intro i z hi hz N hN
  obtain ⟨N,rfl⟩:∃ M,N=M+1:=⟨N - 1,by omega⟩
  obtain ⟨v,hv,hv64,h10,hd⟩:=W9 hl (i:=i) (by omega)
  have e:=ih (i+1) (z+(enc v).length) (by omega) (by omega) N (by omega)
  simp only [Int.natCast_add,Int.natCast_one] at e
  rw [hd,List.length_append,← Nat.add_assoc,Int.natCast_add,Int.natCast_add]
  unfold Ff
  simp (disch:=omega) only [bs,↓iP,↓iN,hv,Ac9 F hv64]
  exact e
theorem Aru(F:Nat)(hF:A4 F){R:Type}(k:List Int→Option R){l:List Int}(hl:Wd l)(hb:l.length≤65536):∀ (m i:Nat) (out:List Int),i+m=l.length→out.length≤1+10*i →
  ∀ N,m < N→Ek F k N out l (l.length:Int) (i:Int)=k (out++Acf (l.drop i)):=by
 intro m
 induction m with
 | zero =>
  intro i z hi hz N hN
  obtain ⟨N,rfl⟩:∃ M,N=M+1:=⟨N - 1,by omega⟩
  rw [List.drop_eq_nil_of_le (by omega)]
  unfold Ek
  simp (disch:=omega) only [bs,↓iP,↓iN]
  simp [Acf]
 | succ m ih =>
  intro i z hi hz N hN
  obtain ⟨N,rfl⟩:∃ M,N=M+1:=⟨N - 1,by omega⟩
  obtain ⟨v,hv,hv64,h10,hd⟩:=W9 hl (i:=i) (by omega)
  have e:=ih (i+1) (z++enc v) (by omega) (by simp; omega) N (by omega)
  simp only [Int.natCast_add,Int.natCast_one] at e
  rw [hd,← List.append_assoc]
  unfold Ek
  simp (disch:=omega) only [bs,↓iP,↓iN,hv,S7 F hF (b:=[]) (by simp [AnH]) hv64,List.nil_append]
  exact e
theorem AnO(F:Nat)(hF:A4 F){R:Type}(k:List Int→Int→Option R){l:List Int}(hl:Wd l)(hb:l.length≤65536):∀ (m i z:Nat),i+m=l.length→z≤1+10*i →
  ∀ N,m < N→Jc F k N l (z:Int) (i:Int)=k l ((z+(Acf (l.drop i)).length:Nat):Int):=by
 intro m
 induction m with
 | zero =>
  intro i z hi hz N hN
  obtain ⟨N,rfl⟩:∃ M,N=M+1:=⟨N - 1,by omega⟩
  rw [List.drop_eq_nil_of_le (by omega)]
  unfold Jc
  simp (disch:=omega) only [bs,↓iP,↓iN]
  rfl
 | succ m ih =>
  intro i z hi hz N hN
  obtain ⟨N,rfl⟩:∃ M,N=M+1:=⟨N - 1,by omega⟩
  obtain ⟨v,hv,hv64,h10,hd⟩:=W9 hl (i:=i) (by omega)
  have e:=ih (i+1) (z+(enc v).length) (by omega) (by omega) N (by omega)
  simp only [Int.natCast_add,Int.natCast_one] at e
  rw [hd,List.length_append,← Nat.add_assoc,Int.natCast_add,Int.natCast_add]
  unfold Jc
  simp (disch:=omega) only [bs,↓iP,↓iN,hv,Afp F hF hv64]
  exact e
theorem Arv(F:Nat)(hF:A4 F){R:Type}(k:List Int→Option R){l:List Int}(hl:Wd l)(hb:l.length≤65536):∀ (m i:Nat) (out:List Int),i+m=l.length→out.length≤1+10*i →
  ∀ N,m < N→H5 F k N l out (i:Int)=k (out++Acf (l.drop i)):=by
 intro m
 induction m with
 | zero =>
  intro i z hi hz N hN
  obtain ⟨N,rfl⟩:∃ M,N=M+1:=⟨N - 1,by omega⟩
  rw [List.drop_eq_nil_of_le (by omega)]
  unfold H5
  simp (disch:=omega) only [bs,↓iP,↓iN]
  simp [Acf]
 | succ m ih =>
  intro i z hi hz N hN
  obtain ⟨N,rfl⟩:∃ M,N=M+1:=⟨N - 1,by omega⟩
  obtain ⟨v,hv,hv64,h10,hd⟩:=W9 hl (i:=i) (by omega)
  have e:=ih (i+1) (z++enc v) (by omega) (by simp; omega) N (by omega)
  simp only [Int.natCast_add,Int.natCast_one] at e
  rw [hd,← List.append_assoc]
  unfold H5
  simp (disch:=omega) only [bs,↓iP,↓iN,hv,Tw F hF (b:=[]) (by simp [AnH]) hv64,List.nil_append]
  exact e
theorem Amn{l:List Int}(hl:Wd l)(hn:l.length≤65536):A4e l (wdN l:Int):=by
 have h:=AhZ hl
 exact ⟨hn,h.1,h.2.1,by rw [Int.toNat_natCast]; exact(h.2.2 _).1 (Int.le_refl _)⟩
theorem Fh(F:Nat)(hF:A4 F){l:List Int}(hl:Wd l)(hn:l.length≤65536):Bn F l=some (nE l,0,()):=by
 obtain ⟨W,eW,hW⟩:=S6 F hF hl (by omega)
 have:=hW.eq (AhZ hl)
 subst this
 obtain ⟨out,eP,hP⟩:=Abo F hF hl (by omega) (Amn hl hn)
 have:=hP.eq (AbC l (wdN l))
 subst this
 have hs:=Afz hl hn
 have hel:=Aae hl
 have hw:=Amk hl
 have e1:=fun (R:Type) (k:List Int→Int→Option R)=>AnN F k l hl hn l.length 0 1 (by omega) (by omega) F (by unfold A4 at hF; omega)
 have e2:=fun (R:Type) (k:List Int→Option R)=>Aru F hF k hl hn l.length 0 [0] (by omega) (by simp) F (by unfold A4 at hF; omega)
 simp only [Int.natCast_zero,Int.natCast_one,List.drop_zero,Int.natCast_add] at e1 e2
 unfold Bn nE
 generalize pk l (wdN l)=p at *
 generalize Acf l=q at *
 by_cases h:2+p.length < 1+q.length
 ·rw [iP h]
  simp (disch:=omega) only [bs,↓iP,↓iN,e1,eW,eP,Qh]
  rfl
 ·rw [iN h]
  simp (disch:=omega) only [bs,↓iP,↓iN,e1,eW,eP,show Cc 1 (0:Int)=[0] from rfl,e2]
  rfl
theorem Xa(F:Nat){l:List Int}(hn:65536 < l.length):Bn F l=some ([],3,()):=by
 unfold Bn
 simp (disch:=omega) only [bs,↓iP,↓iN]
theorem Ji(F:Nat)(hF:A4 F){l:List Int}(hl:Wd l)(hn:l.length≤65536):Gd F l=some (nE l,0,()):=by
 obtain ⟨W,eW,hW⟩:=Vb F hF hl (by omega)
 have:=hW.eq (AhZ hl)
 subst this
 obtain ⟨out,eP,hP⟩:=Wy F hF hl (by omega) (Amn hl hn)
 have:=hP.eq (AbC l (wdN l))
 subst this
 have hs:=Afz hl hn
 have hel:=Aae hl
 have hw:=Amk hl
 have e1:=fun (R:Type) (k:List Int→Int→Option R)=>AnO F hF k hl hn l.length 0 1 (by omega) (by omega) F (by unfold A4 at hF; omega)
 have e2:=fun (R:Type) (k:List Int→Option R)=>Arv F hF k hl hn l.length 0 [0] (by omega) (by simp) F (by unfold A4 at hF; omega)
 simp only [Int.natCast_zero,Int.natCast_one,List.drop_zero,Int.natCast_add] at e1 e2
 unfold Gd nE
 generalize pk l (wdN l)=p at *
 generalize Acf l=q at *
 by_cases h:2+p.length < 1+q.length
 ·rw [iP h]
  simp (disch:=omega) only [bs,↓iP,↓iN,e1,eW,eP,Qh]
  rfl
 ·rw [iN h]
  simp (disch:=omega) only [bs,↓iP,↓iN,e1,eW,eP,show Cc 1 (0:Int)=[0] from rfl,e2]
  rfl
theorem AnP(F:Nat)(hF:A4 F){R:Type}(k:Int→List Int→Option R)(kr:List Int→Int→Int→Option R){b:List Int}(hb:Bt b)(hl:(b.length:Int)≤140737488355328){n:Nat}(hn:n≤65536):∀ (m i:Nat) (at_:Int) (out:List Int),i+m=n→out.length=i→0≤at_∧at_≤b.length →
  ∀ N,m < N→F0 F k kr N b at_ out (n:Int) (i:Int)=if(rdn m b at_).2.2=0 then k (rdn m b at_).2.1 (out++(rdn m b at_).1) else kr [] 0 (rdn m b at_).2.2:=by
 intro m
 induction m with
 | zero =>
  intro i at_ out hi ho ha N hN
  obtain ⟨N,rfl⟩:∃ M,N=M+1:=⟨N - 1,by omega⟩
  unfold F0
  simp only [rdn,if_true,List.append_nil]
  simp (disch:=omega) only [bs,↓iP,↓iN]
 | succ m ih =>
  intro i at_ out hi ho ha N hN
  obtain ⟨N,rfl⟩:∃ M,N=M+1:=⟨N - 1,by omega⟩
  have er:=Vc F hF hb hl at_
  unfold F0
  by_cases c:(rd b at_).2.2=0
  ·obtain ⟨r1,r2,r3,_⟩:=Art hb c
   have e:=ih (i+1) (rd b at_).2.1 (out++[((rd b at_).1:Int)]) (by omega) (by simp; omega) (by omega) N (by omega)
   have e2:rdn (m+1) b at_=if(rdn m b (rd b at_).2.1).2.2=0 then(((rd b at_).1:Int)::(rdn m b (rd b at_).2.1).1,(rdn m b (rd b at_).2.1).2.1,0) else([],0,(rdn m b (rd b at_).2.1).2.2):=by rw [rdn,iP c]
   rw [e2]
   simp (disch:=omega) only [bs,↓iP,↓iN,er,c]
   rw [show(i:Int)+1=((i+1:Nat):Int) by omega,e]
   by_cases d:(rdn m b (rd b at_).2.1).2.2=0
   ·simp only [iP d,if_true,List.append_assoc,List.singleton_append]
   ·simp only [iN d]
  ·have e2:rdn (m+1) b at_=([],0,(rd b at_).2.2):=by rw [rdn,iN c]
   rw [e2]
   simp (disch:=omega) only [bs,↓iP,↓iN,er,c]
theorem Ajq(F:Nat)(hF:A4 F){R:Type}(k:Int→List Int→Option R)(kr:List Int→Int→Int→Option R){b:List Int}(hb:Bt b)(hl:(b.length:Int)≤140737488355328){n:Nat}(hn:n≤65536):∀ (m i:Nat) (at_:Int) (out:List Int),i+m=n→out.length=i→0≤at_∧at_≤b.length →
  ∀ N,m < N→J8 F k kr N b at_ (n:Int) out (i:Int)=if(rdn m b at_).2.2=0 then k (rdn m b at_).2.1 (out++(rdn m b at_).1) else kr [] 0 (rdn m b at_).2.2:=by
 intro m
 induction m with
 | zero =>
  intro i at_ out hi ho ha N hN
  obtain ⟨N,rfl⟩:∃ M,N=M+1:=⟨N - 1,by omega⟩
  unfold J8
  simp only [rdn,if_true,List.append_nil]
  simp (disch:=omega) only [bs,↓iP,↓iN]
 | succ m ih =>
  intro i at_ out hi ho ha N hN
  obtain ⟨N,rfl⟩:∃ M,N=M+1:=⟨N - 1,by omega⟩
  have er:=W3 F hF hb hl at_
  unfold J8
  by_cases c:(rd b at_).2.2=0
  ·obtain ⟨r1,r2,r3,_⟩:=Art hb c
   have e:=ih (i+1) (rd b at_).2.1 (out++[((rd b at_).1:Int)]) (by omega) (by simp; omega) (by omega) N (by omega)
   have e2:rdn (m+1) b at_=if(rdn m b (rd b at_).2.1).2.2=0 then(((rd b at_).1:Int)::(rdn m b (rd b at_).2.1).1,(rdn m b (rd b at_).2.1).2.1,0) else([],0,(rdn m b (rd b at_).2.1).2.2):=by rw [rdn,iP c]
   rw [e2]
   simp (disch:=omega) only [bs,↓iP,↓iN,er,c]
   rw [show(i:Int)+1=((i+1:Nat):Int) by omega,e]
   by_cases d:(rdn m b (rd b at_).2.1).2.2=0
   ·simp only [iP d,if_true,List.append_assoc,List.singleton_append]
   ·simp only [iN d]
  ·have e2:rdn (m+1) b at_=([],0,(rd b at_).2.2):=by rw [rdn,iN c]
   rw [e2]
   simp (disch:=omega) only [bs,↓iP,↓iN,er,c]
def plR(n:Nat)(b:List Int)(at_:Int):List Int×Int×Int:=if(rdn n b at_).2.2=0 then rdn n b at_ else([],0,(rdn n b at_).2.2)
theorem Zp(F:Nat)(hF:A4 F){b:List Int}(hb:Bt b)(hl:(b.length:Int)≤140737488355328){n:Nat}(hn:n≤65536){at_:Int}(ha:0≤at_∧at_≤b.length) :
  Hw F b at_ n=some ((plR n b at_).1,(plR n b at_).2.1,(plR n b at_).2.2,()):=by
 have e:=fun (R:Type) (k:Int→List Int→Option R) (kr:List Int→Int→Int→Option R)=>AnP F hF k kr hb hl hn n 0 at_ [] (by omega) rfl ha F (by unfold A4 at hF; omega)
 have h0:Im 0 (min (n:Int) ((b.length:Int) - at_)) 8=true:=by rw [Jk]; omega
 unfold Hw plR
 simp (disch:=omega) only [bs,↓iP,↓iN,h0,show Cc 0 (0:Int)=[] from rfl]
 refine(e _ _ _).trans ?_
 by_cases c:(rdn n b at_).2.2=0
 ·rw [iP c,iP c,List.nil_append,c]
 ·rw [iN c,iN c]
theorem Acg(F:Nat)(hF:A4 F){b:List Int}(hb:Bt b)(hl:(b.length:Int)≤140737488355328){n:Nat}(hn:n≤65536){at_:Int}(ha:0≤at_∧at_≤b.length) :
  Vx F b at_ n=some ((plR n b at_).1,(plR n b at_).2.1,(plR n b at_).2.2,()):=by
 unfold Vx plR
 refine(Ajq F hF _ _ hb hl hn n 0 at_ [] (by omega) rfl ha F (by unfold A4 at hF; omega)).trans ?_
 by_cases c:(rdn n b at_).2.2=0
 ·rw [iP c,iP c,List.nil_append,c]
 ·rw [iN c,iN c]
theorem AnQ(F:Nat){R:Type}(k0:Option R)(kr:Bool→Option R){a b:List Int}(hl:a.length=b.length)(hb:(a.length:Int)≤9223372036854775806):∀ (m i:Nat),i+m=a.length→∀ N,m < N →
  Dr F k0 kr N a b (a.length:Int) i=if a.drop i=b.drop i then k0 else kr false:=by
 intro m
 induction m with
 | zero =>
  intro i hi N hN
  obtain ⟨N,rfl⟩:∃ M,N=M+1:=⟨N - 1,by omega⟩
  rw [iP (by rw [List.drop_eq_nil_of_le (by omega),List.drop_eq_nil_of_le (by omega)])]
  unfold Dr
  simp (disch:=omega) only [bs,↓iP,↓iN]
 | succ m ih =>
  intro i hi N hN
  obtain ⟨N,rfl⟩:∃ M,N=M+1:=⟨N - 1,by omega⟩
  have h1:=ih (i+1) (by omega) N (by omega)
  have ea:a.drop i=Ak 0 a (i:Int)::a.drop (i+1):=by
   rw [List.drop_eq_getElem_cons (by omega)]; simp [Ak,List.getD_eq_getElem?_getD,show i < a.length by omega]
  have eb:b.drop i=Ak 0 b (i:Int)::b.drop (i+1):=by
   rw [List.drop_eq_getElem_cons (by omega)]; simp [Ak,List.getD_eq_getElem?_getD,show i < b.length by omega]
  unfold Dr
  by_cases hc:Ak 0 a (i:Int)=Ak 0 b (i:Int)
  ·simp (disch:=omega) only [bs,↓iP,↓iN]
   refine Eq.trans h1 ?_
   rw [ea,eb,hc]
   simp
  ·simp (disch:=omega) only [bs,↓iP,↓iN]
   rw [ea,eb,iN]
   intro h
   exact hc (by simpa using (List.cons.inj h).1)
theorem T5(F:Nat)(hF:A4 F){a b:List Int}(hb:(a.length:Int)≤140737488355328):Bb F a b=some (decide (a=b),()):=by
 unfold A4 at hF
 unfold Bb
 by_cases hl:a.length=b.length
 ·simp (disch:=omega) only [bs,↓iP,↓iN]
  refine Eq.trans (AnQ F _ _ hl (by omega) a.length 0 (by omega) F (by omega)) ?_
  simp only [List.drop_zero]
  by_cases h:a=b
  ·simp [h]
  ·simp [h]
 ·simp (disch:=omega) only [bs,↓iP,↓iN]
  have:a≠b:=fun h=>hl (by rw [h])
  simp [this]
theorem Ai0(F:Nat)(hF:A4 F){b:List Int}(hb:Bt b)(n w:Int):∃ out ok,D9 F b n w=some (out,ok,())∧Hl F b n w=some (out,ok,())∧Wd out∧(ok=true→(out.length:Int)=n)∧(ok=false→out=[]):=by
 by_cases h:Vz n w=b.length
 ·have h0:¬ (n < 0∨65536 < n∨w < 0∨64 < w):=fun h0=>by rw [Ar3 h0] at h; omega
  obtain ⟨n,rfl⟩:∃ k:Nat,n=(k:Int):=⟨n.toNat,by omega⟩
  obtain ⟨w,rfl⟩:∃ k:Nat,w=(k:Int):=⟨w.toNat,by omega⟩
  rw [N5 (by omega) (by omega)] at h
  obtain ⟨x,hx,x1,x2⟩:=X7 F hF hb (n:=n) (w:=w) (by omega) (by omega) (by omega)
  obtain ⟨y,hy,y1,y2⟩:=Abp F hF hb (n:=n) (w:=w) (by omega) (by omega) (by omega)
  have:=hx.eq hy
  subst this
  by_cases hc:AhO b (n*w)
  ·exact ⟨x,true,x1 hc,y1 hc,hx.1,fun _=>by rw [hx.2.1],(fun h=>by cases h)⟩
  ·exact ⟨[],false,x2 hc,y2 hc,Wd.nil,(fun h=>by cases h),fun _=>rfl⟩
 ·exact ⟨[],false,Wz F h,Zl F h,Wd.nil,(fun h=>by cases h),fun _=>rfl⟩
theorem Ajr(F:Nat)(hF:A4 F){b:List Int}(hb:Bt b)(hl:(b.length:Int)≤140737488355328){n at_:Int}(hn:0≤n∧n≤65536)(ha:0≤at_∧at_≤b.length) :
  ∃ l end_ e,Gu F b at_ n=some (l,end_,e,())∧Tt F b at_ n=some (l,end_,e,())∧Wd l∧(e=0→(l.length:Int)=n∧at_ < end_∧end_≤b.length)∧(e≠0→l=[]∧end_=0):=by
 unfold Gu Tt
 by_cases c0:at_=b.length
 ·refine ⟨[],0,4,?_,?_,Wd.nil,fun h=>by simp at h,fun _=>⟨rfl,rfl⟩⟩
  ·simp (disch:=omega) only [bs,↓iP,↓iN]
  ·simp (disch:=omega) only [bs,↓iP,↓iN]
 ·have hw:=hb.get at_
  generalize Ak 0 b at_=w at *
  by_cases c1:64 < w
  ·refine ⟨[],0,5,?_,?_,Wd.nil,fun h=>by simp at h,fun _=>⟨rfl,rfl⟩⟩
   ·simp (disch:=omega) only [bs,↓iP,↓iN]
   ·simp (disch:=omega) only [bs,↓iP,↓iN,Cv]
  ·have hs:0≤Vz n w∧Vz n w≤524288:=by
    unfold Vz
    rw [iN (by omega)]
    have:=Ar0 (n:=n) (w:=w) (by omega) (by omega) (by omega) (by omega)
    omega
   have hS1:=Ev F n w
   have hS2:=Ik F n w
   generalize Vz n w=s at *
   by_cases c2:(b.length:Int) - (at_+1) < s
   ·refine ⟨[],0,4,?_,?_,Wd.nil,fun h=>by simp at h,fun _=>⟨rfl,rfl⟩⟩
    ·simp (disch:=omega) only [bs,↓iP,↓iN,Cv,hS1]
    ·simp (disch:=omega) only [bs,↓iP,↓iN,Cv,hS2]
   ·obtain ⟨out,ok,u1,u2,u3,u4,u5⟩:=Ai0 F hF (b:=Cj (B0 b (at_+1+s)) (at_+1)) (Bt.drop (Bt.take hb _) _) n w
    cases ok with
    | true =>
     refine ⟨out,at_+1+s,0,?_,?_,u3,fun _=>⟨u4 rfl,by omega,by omega⟩,fun h=>absurd rfl h⟩
     ·simp (disch:=omega) only [bs,↓iP,↓iN,Cv,hS1,u1]
     ·simp (disch:=omega) only [bs,↓iP,↓iN,Cv,hS2,u2]
    | false =>
     refine ⟨[],0,5,?_,?_,Wd.nil,fun h=>by simp at h,fun _=>⟨rfl,rfl⟩⟩
     ·simp (disch:=omega) only [bs,↓iP,↓iN,Cv,hS1,u1]
     ·simp (disch:=omega) only [bs,↓iP,↓iN,Cv,hS2,u2]
def Ao2(b:List Int)(at_:Int)(l:List Int)(end_ e:Int):List Int×Int×Int:=if e=0 then(if nE l=Cj (B0 b end_) at_ then(l,end_,0) else([],0,5)) else([],0,e)
theorem Ai1(F:Nat)(hF:A4 F){b:List Int}{at_:Int}{l:List Int}{end_ e:Int}(ha:0≤at_)(hw:Wd l)(h:e=0→l.length≤65536∧at_≤end_∧end_≤b.length) :
  (bif not (eqI e 0) then some (([]:List Int),((0:Int),(e,()))) else
   (Bn F l).bind fun r14=>bif not (eqI r14.2.1 0) then some ([],(0,(5,()))) else
    bif J1 at_ end_ (List.length b) then(Bb F r14.1 (Cj (B0 b end_) at_)).bind fun r17=>bif not r17.1 then some ([],(0,(5,()))) else some (l,(end_,(0,()))) else none)
   = some ((Ao2 b at_ l end_ e).1,(Ao2 b at_ l end_ e).2.1,(Ao2 b at_ l end_ e).2.2,()):=by
 unfold Ao2
 by_cases c:e=0
 ·obtain ⟨h1,h2,h3⟩:=h c
  have hs:=Jz hw h1
  have hq:=T5 F hF (a:=nE l) (b:=Cj (B0 b end_) at_) (by omega)
  rw [iP c]
  by_cases d:nE l=Cj (B0 b end_) at_
  ·rw [decide_eq_true d] at hq
   rw [iP d]
   simp (disch:=omega) only [bs,↓iP,↓iN,Fh F hF hw h1,hq]
  ·rw [decide_eq_false d] at hq
   rw [iN d]
   simp (disch:=omega) only [bs,↓iP,↓iN,Fh F hF hw h1,hq]
 ·rw [iN c]
  simp (disch:=omega) only [bs,↓iP,↓iN]
theorem Amo(F:Nat)(hF:A4 F){b:List Int}{at_:Int}{l:List Int}{end_ e:Int}(ha:0≤at_)(hw:Wd l)(h:e=0→l.length≤65536∧at_≤end_∧end_≤b.length) :
  (bif not (eqI e 0) then some (([]:List Int),((0:Int),(e,()))) else
   (Gd F l).bind fun r14 =>
    bif J1 at_ end_ (List.length b) then(Hf F r14.1 (Cj (B0 b end_) at_)).bind fun r17=>bif not r17.1 then some ([],(0,(5,()))) else some (l,(end_,(0,()))) else none)
   = some ((Ao2 b at_ l end_ e).1,(Ao2 b at_ l end_ e).2.1,(Ao2 b at_ l end_ e).2.2,()):=by
 unfold Ao2
 by_cases c:e=0
 ·obtain ⟨h1,h2,h3⟩:=h c
  have hs:=Jz hw h1
  have hq:=Lu F hF (a:=nE l) (b:=Cj (B0 b end_) at_) (by omega)
  rw [iP c]
  by_cases d:nE l=Cj (B0 b end_) at_
  ·rw [decide_eq_true d] at hq
   rw [iP d]
   simp (disch:=omega) only [bs,↓iP,↓iN,Ji F hF hw h1,hq]
  ·rw [decide_eq_false d] at hq
   rw [iN d]
   simp (disch:=omega) only [bs,↓iP,↓iN,Ji F hF hw h1,hq]
 ·rw [iN c]
  simp (disch:=omega) only [bs,↓iP,↓iN]
def Ai2(b:List Int)(at_ n:Int)(l:List Int)(end_ e:Int):Prop :=
 Wd l∧(e=0→0≤at_∧(l.length:Int)=n∧n≤65536∧at_ < end_∧end_≤b.length∧nE l=Cj (B0 b end_) at_)∧(e≠0→l=[]∧end_=0)
theorem A3D{b:List Int}(hb:Bt b){n:Nat}{at_:Int}(ha:0≤at_∧at_≤b.length):Wd (plR n b at_).1∧((plR n b at_).2.2=0→(plR n b at_).1.length=n∧at_≤(plR n b at_).2.1∧(plR n b at_).2.1≤b.length):=by
 unfold plR
 by_cases c:(rdn n b at_).2.2=0
 ·rw [iP c]
  obtain ⟨h1,h2,h3,h4,_⟩:=Awn hb ha.1 ha.2 c
  exact ⟨h4,fun _=>⟨h3,h1,h2⟩⟩
 ·rw [iN c]
  exact ⟨Wd.nil,fun h=>absurd h c⟩
theorem Ai3{b:List Int}{at_ n:Int}{l:List Int}{end_ e:Int}(ha:0≤at_)(hn:n≤65536)(hw:Wd l)(h:e=0→(l.length:Int)=n∧at_ < end_∧end_≤b.length) :
  Ai2 b at_ n (Ao2 b at_ l end_ e).1 (Ao2 b at_ l end_ e).2.1 (Ao2 b at_ l end_ e).2.2:=by
 unfold Ao2 Ai2
 by_cases c:e=0
 ·rw [iP c]
  by_cases d:nE l=Cj (B0 b end_) at_
  ·rw [iP d]
   have:=h c
   exact ⟨hw,fun _=>⟨ha,this.1,hn,this.2.1,this.2.2,d⟩,fun h=>absurd rfl h⟩
  ·rw [iN d]
   exact ⟨Wd.nil,fun h=>by simp at h,fun _=>⟨rfl,rfl⟩⟩
 ·rw [iN c]
  exact ⟨Wd.nil,fun h=>absurd h c,fun _=>⟨rfl,rfl⟩⟩
theorem Ai2.err(b:List Int)(at_ n:Int){e:Int}(h:e≠0):Ai2 b at_ n [] 0 e:=⟨Wd.nil,fun h2=>absurd h2 h,fun _=>⟨rfl,rfl⟩⟩
theorem Ajs(F:Nat)(hF:A4 F){b:List Int}(hb:Bt b)(hl:(b.length:Int)≤140737488355328)(at_ n:Int) :
  ∃ l end_ e,Ch F b at_ n=some (l,end_,e,())∧Fa F b at_ n=some (l,end_,e,())∧Ai2 b at_ n l end_ e:=by
 by_cases c:at_ < 0∨(b.length:Int) < at_∨n < 0∨65536 < n
 ·refine ⟨[],0,2,?_,?_,Ai2.err _ _ _ (by omega)⟩
  ·unfold Ch
   cases h1:ltI at_ 0 with
   | true=>rfl
   | false =>
    cases h2:ltI (Au b) at_ with
    | true=>rfl
    | false =>
     cases h3:ltI n 0 with
     | true=>rfl
     | false =>
      cases h4:ltI 65536 n with
      | true=>rfl
      | false =>
       rw [← Bool.not_eq_true,Ah] at h1 h2 h3 h4
       unfold Au at h2
       omega
  ·unfold Fa
   cases h1:ltI at_ 0 with
   | true=>rfl
   | false =>
    cases h2:ltI (Au b) at_ with
    | true=>rfl
    | false =>
     cases h3:ltI n 0 with
     | true=>rfl
     | false =>
      cases h4:ltI 65536 n with
      | true=>rfl
      | false =>
       rw [← Bool.not_eq_true,Ah] at h1 h2 h3 h4
       unfold Au at h2
       omega
 ·obtain ⟨m,rfl⟩:=Int.eq_ofNat_of_zero_le (show 0≤n by omega)
  have hm:m≤65536:=by omega
  by_cases c0:at_=b.length
  ·refine ⟨[],0,4,?_,?_,Ai2.err _ _ _ (by omega)⟩
   ·unfold Ch Cw
    have x1:ltI at_ 0=false:=by rw [← Bool.not_eq_true,Ah]; omega
    have x2:ltI (Au b) at_=false:=by rw [← Bool.not_eq_true,Ah]; unfold Au; omega
    have x3:ltI (m:Int) 0=false:=by rw [← Bool.not_eq_true,Ah]; omega
    have x4:eqI at_ (Au b)=true:=by rw [Ao]; unfold Au; omega
    have x5:ltI 65536 (m:Int)=false:=by rw [← Bool.not_eq_true,Ah]; omega
    simp only [x1,x2,x3,x4,x5,cT,cF]
   ·unfold Fa
    have x1:ltI at_ 0=false:=by rw [← Bool.not_eq_true,Ah]; omega
    have x2:ltI (Au b) at_=false:=by rw [← Bool.not_eq_true,Ah]; unfold Au; omega
    have x3:ltI (m:Int) 0=false:=by rw [← Bool.not_eq_true,Ah]; omega
    have x4:eqI at_ (Au b)=true:=by rw [Ao]; unfold Au; omega
    have x5:ltI 65536 (m:Int)=false:=by rw [← Bool.not_eq_true,Ah]; omega
    simp only [x1,x2,x3,x4,x5,cT,cF]
  ·have hw:=hb.get at_
   generalize hg:Ak 0 b at_=w at *
   have ha1:0≤at_+1∧at_+1≤b.length:=by omega
   have hlt:ltI 65536 (m:Int)=false:=by rw [← Bool.not_eq_true,Ah]; omega
   by_cases c1:1 < w
   ·refine ⟨[],0,5,?_,?_,Ai2.err _ _ _ (by omega)⟩
    ·unfold Ch Cw
     have x1:ltI at_ 0=false:=by rw [← Bool.not_eq_true,Ah]; omega
     have x2:ltI (Au b) at_=false:=by rw [← Bool.not_eq_true,Ah]; unfold Au; omega
     have x3:ltI (m:Int) 0=false:=by rw [← Bool.not_eq_true,Ah]; omega
     have x4:eqI at_ (Au b)=false:=by rw [← Bool.not_eq_true,Ao]; unfold Au; omega
     have x5:inI at_ b.length=true:=by rw [Bo]; omega
     have x6:ltI 1 w=true:=by rw [Ah]; omega
     simp only [x1,x2,x3,x4,x5,x6,hlt,hg,cT,cF]
    ·unfold Fa
     have x1:ltI at_ 0=false:=by rw [← Bool.not_eq_true,Ah]; omega
     have x2:ltI (Au b) at_=false:=by rw [← Bool.not_eq_true,Ah]; unfold Au; omega
     have x3:ltI (m:Int) 0=false:=by rw [← Bool.not_eq_true,Ah]; omega
     have x4:eqI at_ (Au b)=false:=by rw [← Bool.not_eq_true,Ao]; unfold Au; omega
     have x5:inI at_ b.length=true:=by rw [Bo]; omega
     have x6:eqI w 0=false:=by rw [← Bool.not_eq_true,Ao]; omega
     have x7:eqI w 1=false:=by rw [← Bool.not_eq_true,Ao]; omega
     simp only [x1,x2,x3,x4,x5,x6,x7,hlt,hg,cT,cF]
   ·by_cases c2:w=1
    ·obtain ⟨l,end_,e,p1,p2,p3,p4,p5⟩:=Ajr F hF hb hl (n:=(m:Int)) (at_:=at_+1) (by omega) ha1
     have f1:=Ai1 F hF (b:=b) (at_:=at_) (l:=l) (end_:=end_) (e:=e) (by omega) p3 (fun h=>by have:=p4 h; omega)
     have f2:=Amo F hF (b:=b) (at_:=at_) (l:=l) (end_:=end_) (e:=e) (by omega) p3 (fun h=>by have:=p4 h; omega)
     have f3:=Ai3 (b:=b) (at_:=at_) (n:=(m:Int)) (l:=l) (end_:=end_) (e:=e) (by omega) (by omega) p3 (fun h=>by have:=p4 h; omega)
     refine ⟨_,_,_,?_,?_,f3⟩
     ·refine Eq.trans ?_ f1
      unfold Ch Cw
      have x1:ltI at_ 0=false:=by rw [← Bool.not_eq_true,Ah]; omega
      have x2:ltI (Au b) at_=false:=by rw [← Bool.not_eq_true,Ah]; unfold Au; omega
      have x3:ltI (m:Int) 0=false:=by rw [← Bool.not_eq_true,Ah]; omega
      have x4:eqI at_ (Au b)=false:=by rw [← Bool.not_eq_true,Ao]; unfold Au; omega
      have x5:inI at_ b.length=true:=by rw [Bo]; omega
      have x6:ltI 1 w=false:=by rw [← Bool.not_eq_true,Ah]; omega
      have x7:eqI w 1=true:=by rw [Ao]; exact c2
      have x8:As .i64 at_ 1=at_+1:=Bd (by omega)
      simp only [x1,x2,x3,x4,x5,x6,x7,x8,hlt,hg,p1,cT,cF,bS]
     ·refine Eq.trans ?_ f2
      unfold Fa
      have x1:ltI at_ 0=false:=by rw [← Bool.not_eq_true,Ah]; omega
      have x2:ltI (Au b) at_=false:=by rw [← Bool.not_eq_true,Ah]; unfold Au; omega
      have x3:ltI (m:Int) 0=false:=by rw [← Bool.not_eq_true,Ah]; omega
      have x4:eqI at_ (Au b)=false:=by rw [← Bool.not_eq_true,Ao]; unfold Au; omega
      have x5:inI at_ b.length=true:=by rw [Bo]; omega
      have x6:eqI w 0=false:=by rw [← Bool.not_eq_true,Ao]; omega
      have x7:eqI w 1=true:=by rw [Ao]; exact c2
      have x8:As .i64 at_ 1=at_+1:=Bd (by omega)
      simp only [x1,x2,x3,x4,x5,x6,x7,x8,hlt,hg,p2,cT,cF,bS]
    ·have q1:=Zp F hF hb hl hm ha1
     have q2:=Acg F hF hb hl hm ha1
     obtain ⟨p3,p4⟩:=A3D hb (n:=m) ha1
     generalize plR m b (at_+1)=r at *
     obtain ⟨l,end_,e⟩:=r
     simp only at q1 q2 p3 p4
     have f1:=Ai1 F hF (b:=b) (at_:=at_) (l:=l) (end_:=end_) (e:=e) (by omega) p3 (fun h=>by have:=p4 h; omega)
     have f2:=Amo F hF (b:=b) (at_:=at_) (l:=l) (end_:=end_) (e:=e) (by omega) p3 (fun h=>by have:=p4 h; omega)
     have f3:=Ai3 (b:=b) (at_:=at_) (n:=(m:Int)) (l:=l) (end_:=end_) (e:=e) (by omega) (by omega) p3 (fun h=>by have:=p4 h; omega)
     refine ⟨_,_,_,?_,?_,f3⟩
     ·refine Eq.trans ?_ f1
      unfold Ch Cw
      have x1:ltI at_ 0=false:=by rw [← Bool.not_eq_true,Ah]; omega
      have x2:ltI (Au b) at_=false:=by rw [← Bool.not_eq_true,Ah]; unfold Au; omega
      have x3:ltI (m:Int) 0=false:=by rw [← Bool.not_eq_true,Ah]; omega
      have x4:eqI at_ (Au b)=false:=by rw [← Bool.not_eq_true,Ao]; unfold Au; omega
      have x5:inI at_ b.length=true:=by rw [Bo]; omega
      have x6:ltI 1 w=false:=by rw [← Bool.not_eq_true,Ah]; omega
      have x7:eqI w 1=false:=by rw [← Bool.not_eq_true,Ao]; exact c2
      have x8:As .i64 at_ 1=at_+1:=Bd (by omega)
      simp only [x1,x2,x3,x4,x5,x6,x7,x8,hlt,hg,q1,cT,cF,bS]
     ·refine Eq.trans ?_ f2
      unfold Fa
      have x1:ltI at_ 0=false:=by rw [← Bool.not_eq_true,Ah]; omega
      have x2:ltI (Au b) at_=false:=by rw [← Bool.not_eq_true,Ah]; unfold Au; omega
      have x3:ltI (m:Int) 0=false:=by rw [← Bool.not_eq_true,Ah]; omega
      have x4:eqI at_ (Au b)=false:=by rw [← Bool.not_eq_true,Ao]; unfold Au; omega
      have x5:inI at_ b.length=true:=by rw [Bo]; omega
      have x6:eqI w 0=true:=by rw [Ao]; omega
      have x8:As .i64 at_ 1=at_+1:=Bd (by omega)
      simp only [x1,x2,x3,x4,x5,x6,x8,hlt,hg,q2,cT,cF,bS]
theorem AuC(l:List Int)(e:Int):Cj (B0 l e) 0=B0 l e:=by unfold Cj; simp
def V1:List Int→Bool
 | []=>true
 | [_]=>true
 | p::x::t=>decide (p < x) && V1 (x::t)
theorem Ai4:∀ {l:List Int} {a b:Int},V1 (l++[a])=true→a < b→V1 (l++[a]++[b])=true
 | [],a,b,_,h=>by simp [V1,h]
 | [p],a,b,h,hb=>by
  simp [V1] at h ⊢
  exact ⟨h,hb⟩
 | p::x::t,a,b,h,hb=>by
  simp only [List.cons_append,V1,Bool.and_eq_true,decide_eq_true_eq] at h ⊢
  exact ⟨h.1,Ai4 (l:=x::t) h.2 hb⟩
theorem Ai5:∀ {l:List Int} {a:Int},V1 (l++[a])=true→V1 l=true
 | [],_,_=>rfl
 | [_],_,_=>rfl
 | p::x::t,a,h=>by
  simp only [List.cons_append,V1,Bool.and_eq_true,decide_eq_true_eq] at h ⊢
  exact ⟨h.1,Ai5 (l:=x::t) h.2⟩
theorem AzY{a b:Int}(ha:I64 a)(hb:I64 b)(h:b≤a):Bl .u64 (IntKind.wrap .u64 a) (IntKind.wrap .u64 b)=a - b:=by
 unfold I64 at ha hb
 show IntKind.u64.wrap _=_
 rw [Bs,Bs,Bs]
 omega
theorem Yh(z:Int):IntKind.i64.wrap (IntKind.u64.wrap z)=IntKind.i64.wrap z:=by
 obtain ⟨k,hk⟩:=Jh z
 obtain ⟨j,hj⟩:=Jh (IntKind.u64.wrap z)
 refine Aaf (Bp _) (Bp _) (k:=j - k - z / 18446744073709551616) ?_
 rw [hj,hk,Bs]
 omega
theorem AuD{t d:Int}(ht:I64 t)(hd:0≤d∧d≤9223372036854775807 - t):IntKind.i64.wrap (As .u64 (IntKind.wrap .u64 t) d)=t+d:=by
 show IntKind.i64.wrap (IntKind.u64.wrap _)=_
 unfold I64 at ht
 rw [Yh]
 obtain ⟨k,hk⟩:=Jh (IntKind.u64.wrap t+d)
 refine Aaf (Bp _) (by unfold I64; omega) (k:=k - t / 18446744073709551616) ?_
 rw [hk,Bs]
 omega
theorem Yi(F:Nat){a b:Int}(ha:I64 a)(hb:I64 b)(h:b≤a):Nn F a b=some (a - b,()):=by
 unfold Nn
 have e:ltI a b=false:=by rw [← Bool.not_eq_true,Ah]; omega
 rw [e,cF,AzY ha hb h]
theorem Lz{l:List Int}{j:Nat}(h:j < l.length):l.drop j=Ak 0 l (j:Int)::l.drop (j+1):=by
 rw [Qa h,C4]
theorem T6(F:Nat){R:Type}(k0:Option R)(kr:Bool→Option R){l:List Int}(hb:(l.length:Int)≤140737488355328):∀ (m j:Nat),j+1+m=l.length→∀ N,m < N →
  C6 F k0 kr N l ((j:Int)+1)=if V1 (l.drop j)=true then k0 else kr false:=by
 intro m
 induction m with
 | zero =>
  intro j hj N hN
  obtain ⟨N,rfl⟩:∃ M,N=M+1:=⟨N - 1,by omega⟩
  rw [Lz (by omega),List.drop_eq_nil_of_le (by omega),iP (by rfl)]
  unfold C6
  simp (disch:=omega) only [bs,↓iP,↓iN]
 | succ m ih =>
  intro j hj N hN
  obtain ⟨N,rfl⟩:∃ M,N=M+1:=⟨N - 1,by omega⟩
  have e:=ih (j+1) (by omega) N (by omega)
  have hs:l.drop j=Ak 0 l (j:Int)::Ak 0 l ((j:Int)+1)::l.drop (j+2):=by
   rw [Lz (by omega),Lz (j:=j+1) (by omega)]
   simp
  have hs1:l.drop (j+1)=Ak 0 l ((j:Int)+1)::l.drop (j+2):=by
   rw [Lz (j:=j+1) (by omega)]
   simp
  rw [hs1] at e
  rw [hs]
  simp only [Int.natCast_add,Int.natCast_one] at e
  have hj1:(j:Int)+1 - 1=(j:Int):=by omega
  unfold C6
  by_cases c:Ak 0 l ((j:Int)+1)≤Ak 0 l (j:Int)
  ·have hf:V1 (Ak 0 l (j:Int)::Ak 0 l ((j:Int)+1)::l.drop (j+2))=false:=by
    have:decide (Ak 0 l (j:Int) < Ak 0 l ((j:Int)+1))=false:=decide_eq_false (by omega)
    simp only [V1,this,Bool.false_and]
   rw [hf]
   simp (disch:=omega) only [bs,↓iP,↓iN,hj1]
  ·have ht:V1 (Ak 0 l (j:Int)::Ak 0 l ((j:Int)+1)::l.drop (j+2))=V1 (Ak 0 l ((j:Int)+1)::l.drop (j+2)):=by
    have:decide (Ak 0 l (j:Int) < Ak 0 l ((j:Int)+1))=true:=decide_eq_true (by omega)
    simp only [V1,this,Bool.true_and]
   rw [ht,← e]
   simp (disch:=omega) only [bs,↓iP,↓iN,hj1]
theorem V2(F:Nat)(hF:A4 F){l:List Int}(hb:(l.length:Int)≤140737488355328):Kb F l=some (V1 l,()):=by
 unfold Kb
 by_cases h:l.length=0
 ·have:l=[]:=List.length_eq_zero_iff.1 h
  subst this
  obtain ⟨G,hG⟩:∃ G,F=G+1:=⟨F - 1,by unfold A4 at hF; omega⟩
  rw [hG]
  unfold C6
  simp (disch:=omega) only [bs,↓iP,↓iN]
  rfl
 ·refine(T6 F _ _ hb (l.length - 1) 0 (by omega) F (by unfold A4 at hF; omega)).trans ?_
  rw [List.drop_zero]
  cases V1 l <;> rfl
theorem Arw(l:List Int)(x:Int):Ak 0 (l++[x]) (l.length:Int)=x:=by
 rw [C4]; simp [List.getD_eq_getElem?_getD]
def A3E(b:List Int)(at_ first n:Int)(x:List Int)(end_ e:Int):Prop :=
 Sg x∧(e=0→0≤at_∧(x.length:Int)=n∧1≤n∧n≤65536∧at_ < end_∧end_≤b.length∧V1 x=true∧Ak 0 x 0=first∧nE (dl x)=Cj (B0 b end_) at_)∧(e≠0→x=[]∧end_=0)
theorem A3E.err(b:List Int)(at_ first n:Int){e:Int}(h:e≠0):A3E b at_ first n [] 0 e:=⟨Sg.nil,fun h2=>absurd h2 h,fun _=>⟨rfl,rfl⟩⟩
theorem Arx(F:Nat){R:Type}(kn:List Int×Int×Unit→List Int→Int→Int→Int→Int→Option R)(kr:List Int×Int×Unit→List Int→Option R)(t:List Int×Int×Unit)(l:List Int)(kd:Int){at_ d:Int}(step i:Int)(ha:I64 at_)(hd:1≤d) :
  Bw F kn kr t l kd at_ step i d=if 9223372036854775807 - at_ < d then kr t l else kn t l kd (at_+d) step i:=by
 unfold Bw
 have h1:Bl .u64 9223372036854775807 (IntKind.wrap .u64 at_)=9223372036854775807 - at_:=by
  unfold I64 at ha
  show IntKind.u64.wrap _=_
  rw [Bs,Bs]
  omega
 rw [h1]
 by_cases c:9223372036854775807 - at_ < d
 ·rw [iP c]
  simp (disch:=omega) only [bs,↓iP,↓iN]
 ·rw [iN c]
  have h2:=AuD ha (d:=d) (by omega)
  rw [h2]
  simp (disch:=omega) only [bs,↓iP,↓iN]
def AfA(l:List Int)(at_:Int):Prop:=Sg l∧I64 at_∧V1 (l++[at_])=true
theorem AfA.push{l:List Int}{at_ d:Int}(h:AfA l at_)(hd:1≤d)(hm:¬ 9223372036854775807 - at_ < d):AfA (l++[at_]) (at_+d):=by
 obtain ⟨h1,h2,h3⟩:=h
 refine ⟨h1.append (Sg.cons h2 Sg.nil),by unfold I64 at h2 ⊢; omega,Ai4 h3 (by omega)⟩
theorem AnS(F:Nat)(hF:A4 F)(kd:Int){step:Int}(hs:1≤step∧step≤100):∀ (m:Nat) (t:List Int×Int×Unit) (l:List Int) (at_:Int),Eh t→AfA l at_→l.length+m≤1000 →
  ∀ N,m < N→∃ t' l',Eh t'∧Sg l'∧V1 l'=true∧l'.length≤l.length+m∧∀ (R:Type) (k:List Int×Int×Unit→List Int→Option R) ,A2 F k k N t l kd at_ step (m:Int)=k t' l':=by
 intro m
 induction m with
 | zero =>
  intro t l at_ ht hl hlen N hN
  obtain ⟨N,rfl⟩:∃ M,N=M+1:=⟨N - 1,by omega⟩
  refine ⟨t,l,ht,hl.1,Ai5 hl.2.2,by omega,fun R k=>?_⟩
  unfold A2
  simp (disch:=omega) only [bs,↓iP,↓iN]
 | succ m ih =>
  intro t l at_ ht hl hlen N hN
  obtain ⟨N,rfl⟩:∃ M,N=M+1:=⟨N - 1,by omega⟩
  have hcast:((m+1:Nat):Int)=(m:Int)+1:=by omega
  have hm1:(m:Int)+1 - 1=(m:Int):=by omega
  have hlp:(l++[at_]).length=l.length+1:=by simp
  -- what is common: a distance is put on
  have fin:∀ (t1:List Int×Int×Unit) (d:Int),Eh t1→1≤d→(∀ (R:Type) (k:List Int×Int×Unit→List Int→Option R),A2 F k k (N+1) t l kd at_ step ((m:Int)+1) =
    Bw F (fun z20 z21 z22 z23 z24 z25=>A2 F k k N z20 z21 z22 z23 z24 (Bl .i64 z25 1)) (fun z27 z28=>k z27 z28) t1 (l++[at_]) kd at_ step ((m:Int)+1) d) →
    ∃ t' l',Eh t'∧Sg l'∧V1 l'=true∧l'.length≤l.length+(m+1)∧∀ (R:Type) (k:List Int×Int×Unit→List Int→Option R),A2 F k k (N+1) t l kd at_ step ((m+1:Nat):Int)=k t' l':=by
   intro t1 d ht1 hd e
   by_cases c:9223372036854775807 - at_ < d
   ·refine ⟨t1,l++[at_],ht1,hl.1.append (Sg.cons hl.2.1 Sg.nil),hl.2.2,by omega,fun R k=>?_⟩
    rw [hcast,e R k,Arx F _ _ t1 (l++[at_]) kd step _ hl.2.1 hd,iP c]
   ·obtain ⟨t',l',g1,g2,g3,g4,g5⟩:=ih t1 (l++[at_]) (at_+d) ht1 (hl.push hd c) (by omega) N (by omega)
    refine ⟨t',l',g1,g2,g3,by omega,fun R k=>?_⟩
    rw [hcast,e R k,Arx F _ _ t1 (l++[at_]) kd step _ hl.2.1 hd,iN c,Sf (by omega),hm1]
    exact g5 R k
  have hr:Bh (l.length+1) 8=true:=by rw [Cn]; omega
  have h0:ltI 0 ((m:Int)+1)=true:=by rw [Ah]; omega
  by_cases k1:kd=1
  ·obtain ⟨t1,v,e1,ht1,hv0,hv⟩:=Am F ht (n:=9) (by omega)
   refine fin t1 (IntKind.u64.wrap (As .i64 1 v)) ht1 ?_ fun R k=>?_
   ·rw [Bd (by omega),Bk (by omega)]; omega
   ·conv=>lhs; unfold A2
    have q:eqI kd 1=true:=by rw [Ao]; exact k1
    simp only [h0,hr,q,cT,e1,bS]
  ·have q1:eqI kd 1=false:=by rw [← Bool.not_eq_true,Ao]; exact k1
   by_cases k2:kd=2
   ·obtain ⟨t1,v,e1,ht1,hv0,hv⟩:=Am F ht (n:=3) (by omega)
    refine fin t1 (As .u64 step (IntKind.u64.wrap v)) ht1 ?_ fun R k=>?_
    ·rw [Bk (by omega),De (by omega)]; omega
    ·conv=>lhs; unfold A2
     have q:eqI kd 2=true:=by rw [Ao]; exact k2
     simp only [h0,hr,q1,q,cT,cF,e1,bS]
   ·have q2:eqI kd 2=false:=by rw [← Bool.not_eq_true,Ao]; exact k2
    by_cases k3:kd=3
    ·obtain ⟨t1,w,e1,ht1,hw0,hw⟩:=Hg F hF ht
     obtain ⟨t2,v,e2,ht2,hv0,hv⟩:=Am F ht1 (n:=56) (by omega)
     have hs2:IntKind.u64.wrap (As .i64 4 v)=4+v:=by rw [Bd (by omega),Bk (by omega)]
     have hsh:D6 .u64 w (4+v)≤1152921504606846975:=by
      obtain ⟨n,rfl⟩:=Int.eq_ofNat_of_zero_le hw0
      rw [Ho (by omega)]
      simp only [IntKind.bits]
      have h4:min (4+v).toNat 64=4+(min (4+v).toNat 64 - 4):=by omega
      rw [h4,Nat.pow_add,← Nat.div_div_eq_div_mul]
      have:=Nat.div_le_self ((n:Int).toNat / 2 ^ 4) (2 ^ (min (4+v).toNat 64 - 4))
      have h5:(n:Int).toNat / 2 ^ 4≤1152921504606846975:=by
       have:Int.ofNat n=(n:Int):=rfl
       omega
      exact Int.le_trans (Int.ofNat_le.2 (Nat.le_trans this h5)) (by omega)
     have hsr:=Tn (kd:=.u64) (s:=4+v) hw0
     refine fin t2 (As .u64 1 (D6 .u64 w (4+v))) ht2 ?_ fun R k=>?_
     ·rw [De (by omega)]; omega
     ·conv=>lhs; unfold A2
      have q:eqI kd 3=true:=by rw [Ao]; exact k3
      have q0:ltI (4+v) 0=false:=by rw [← Bool.not_eq_true,Ah]; omega
      simp only [h0,hr,q1,q2,q,cT,cF,e1,e2,bS,hs2,q0]
    ·have q3:eqI kd 3=false:=by rw [← Bool.not_eq_true,Ao]; exact k3
     by_cases k4:kd=4
     ·have q:eqI kd 4=true:=by rw [Ao]; exact k4
      obtain ⟨t1,bb,e1,ht1⟩:=Q5 F ht (n:=4) (by omega)
      cases bb with
      | true =>
       obtain ⟨t2,w,e2,ht2,hw0,hw⟩:=Hg F hF ht1
       obtain ⟨t3,v,e3,ht3,hv0,hv⟩:=Am F ht2 (n:=8) (by omega)
       have hs2:IntKind.u64.wrap (As .i64 1 v)=1+v:=by rw [Bd (by omega),Bk (by omega)]
       have hsh:D6 .u64 w (1+v)≤9223372036854775807:=by
        obtain ⟨n,rfl⟩:=Int.eq_ofNat_of_zero_le hw0
        rw [Ho (by omega)]
        simp only [IntKind.bits]
        have h4:min (1+v).toNat 64=1+(min (1+v).toNat 64 - 1):=by omega
        rw [h4,Nat.pow_add,← Nat.div_div_eq_div_mul]
        have:=Nat.div_le_self ((n:Int).toNat / 2 ^ 1) (2 ^ (min (1+v).toNat 64 - 1))
        have h5:(n:Int).toNat / 2 ^ 1≤9223372036854775807:=by
         have:Int.ofNat n=(n:Int):=rfl
         omega
        exact Int.le_trans (Int.ofNat_le.2 (Nat.le_trans this h5)) (by omega)
       have hsr:=Tn (kd:=.u64) (s:=1+v) hw0
       refine fin t3 (As .u64 1 (D6 .u64 w (1+v))) ht3 ?_ fun R k=>?_
       ·rw [De (by omega)]; omega
       ·conv=>lhs; unfold A2
        have q0:ltI (1+v) 0=false:=by rw [← Bool.not_eq_true,Ah]; omega
        simp only [h0,hr,q1,q2,q3,q,cT,cF,e1,e2,e3,bS,hs2,q0]
      | false =>
       refine fin t1 step ht1 (by omega) fun R k=>?_
       conv=>lhs; unfold A2
       simp only [h0,hr,q1,q2,q3,q,cT,cF,e1,bS]
     ·have q4:eqI kd 4=false:=by rw [← Bool.not_eq_true,Ao]; exact k4
      refine fin t step ht (by omega) fun R k=>?_
      conv=>lhs; unfold A2
      simp only [h0,hr,q1,q2,q3,q4,cT,cF]
theorem Xb(F:Nat)(hF:A4 F){t:List Int×Int×Unit}(h:Eh t){n:Int}(hn:0≤n∧n≤100) :
  ∃ t' l,K2 F t n=some (t',l,())∧Eh t'∧Sg l∧V1 l=true∧(l.length:Int)≤n:=by
 obtain ⟨t1,kd,e1,h1,_,_⟩:=Am F h (n:=5) (by omega)
 obtain ⟨t2,at_,e2,h2,ha⟩:=H8 F hF h1
 obtain ⟨t3,s,e3,h3,hs0,hs⟩:=Am F h2 (n:=50) (by omega)
 obtain ⟨t4,m,e4,h4,hm0,hm⟩:=Am F h3 (n:=n+1) (by omega)
 obtain ⟨m,rfl⟩:=Int.eq_ofNat_of_zero_le hm0
 have hst:IntKind.u64.wrap (As .i64 1 s)=1+s:=by rw [Bd (by omega),Bk (by omega)]
 obtain ⟨t5,l,g1,g2,g3,g4,g5⟩:=AnS F hF kd (step:=1+s) (by omega) m t4 [] at_ h4 ⟨Sg.nil,ha,rfl⟩ (by simp; omega) F (by unfold A4 at hF; omega)
 refine ⟨t5,l,?_,g1,g2,g3,by simp at g4; omega⟩
 unfold K2
 have hn1:As .i64 n 1=n+1:=Bd (by omega)
 simp only [e1,e2,e3,hn1,e4,hst,bS]
 exact g5 _ _
theorem Amp:∀ (l:List Int) (q p x:Int),dfs q (l++[p]++[x])=dfs q (l++[p])++[IntKind.i64.wrap (x - p)]
 | [],q,p,x=>rfl
 | y::l,q,p,x=>by
  have:=Amp l y p x
  simp only [List.cons_append,dfs]
  rw [this]
theorem AzZ(l:List Int)(p x:Int):df (l++[p]++[x])=df (l++[p])++[IntKind.i64.wrap (x - p)]:=by
 cases l with
 | nil=>rfl
 | cons y l=>simp only [List.cons_append,df,Amp l y p x]
theorem Ai6(x p:Int):IntKind.i64.wrap (Bl .u64 (IntKind.wrap .u64 x) (IntKind.wrap .u64 p))=IntKind.i64.wrap (x - p):=by
 show IntKind.i64.wrap (IntKind.u64.wrap _)=_
 rw [Yh]
 obtain ⟨k,hk⟩:=Jh (IntKind.u64.wrap x - IntKind.u64.wrap p)
 obtain ⟨j,hj⟩:=Jh (x - p)
 refine Aaf (Bp _) (Bp _) (k:=k - j - x / 18446744073709551616+p / 18446744073709551616) ?_
 rw [hk,hj,Bs,Bs]
 omega
theorem Adw(x p:Int):IntKind.i64.wrap (As .u64 (IntKind.wrap .u64 x) (IntKind.wrap .u64 p))=IntKind.i64.wrap (x+p):=by
 show IntKind.i64.wrap (IntKind.u64.wrap _)=_
 rw [Yh]
 obtain ⟨k,hk⟩:=Jh (IntKind.u64.wrap x+IntKind.u64.wrap p)
 obtain ⟨j,hj⟩:=Jh (x+p)
 refine Aaf (Bp _) (Bp _) (k:=k - j - x / 18446744073709551616 - p / 18446744073709551616) ?_
 rw [hk,hj,Bs,Bs]
 omega
theorem Zq(F:Nat){R:Type}(k:List Int→Option R):∀ (n:Nat) (c:List Int) (p:Int) (b:List Int),c.length=n→((c++[p]++b).length:Int)≤140737488355328→∀ N,n < N →
  Cd F k N (c++[p]++b) (c.length:Int)=k (df (c++[p])++b):=by
 intro n
 induction n with
 | zero =>
  intro c p b hc hb N hN
  obtain ⟨N,rfl⟩:∃ M,N=M+1:=⟨N - 1,by omega⟩
  have:c=[]:=List.length_eq_zero_iff.1 hc
  subst this
  unfold Cd
  simp (disch:=omega) only [bs,↓iP,↓iN]
  rfl
 | succ n ih =>
  intro c p b hc hb N hN
  obtain ⟨N,rfl⟩:∃ M,N=M+1:=⟨N - 1,by omega⟩
  obtain ⟨c',q,rfl⟩:∃ c' q,c=c'++[q]:=⟨c.dropLast,c.getLast (by intro h; simp [h] at hc),(List.dropLast_concat_getLast _).symm⟩
  simp only [List.length_append,List.length_singleton] at hc
  have hc':c'.length=n:=by omega
  have g1:Ak 0 (c'++[q]++[p]++b) (((c'++[q]).length:Nat):Int)=p:=by
   rw [List.append_assoc (c'++[q])]
   exact Cb (c'++[q]) p b
  have g0:Ak 0 (c'++[q]++[p]++b) (c'.length:Int)=q:=by
   rw [List.append_assoc,List.append_assoc]
   exact Cb c' q _
  have s1:B6 (c'++[q]++[p]++b) (((c'++[q]).length:Nat):Int) (IntKind.i64.wrap (p - q))=c'++[q]++(IntKind.i64.wrap (p - q)::b):=by
   rw [List.append_assoc (c'++[q])]
   refine(Gw (c'++[q]) p _ b).trans ?_
   simp
  have hll:(c'++[q]++[p]++b).length=n+2+b.length:=by simp; omega
  have e:=ih c' q (IntKind.i64.wrap (p - q)::b) hc' (by simp at hb ⊢; omega) N (by omega)
  have hfin:df (c'++[q]++[p])++b=df (c'++[q])++(IntKind.i64.wrap (p - q)::b):=by rw [AzZ]; simp
  rw [hfin,← e]
  have hlen:(((c'++[q]).length:Nat):Int)=(n:Int)+1:=by simp; omega
  rw [hlen] at g1 s1 ⊢
  rw [hc'] at g0 ⊢
  have hn1:(n:Int)+1 - 1=(n:Int):=by omega
  rw [← s1]
  generalize c'++[q]++[p]++b=l at *
  conv=>lhs; unfold Cd
  unfold Tq
  have hw:=Ai6 p q
  simp (disch:=omega) only [bs,↓iP,↓iN,hn1,g1,g0,hw]
theorem Sy(F:Nat)(hF:A4 F){l:List Int}(hb:(l.length:Int)≤140737488355328):G4 F l=some (df l,()):=by
 unfold G4
 rcases List.eq_nil_or_concat l with h | ⟨c,p,h⟩
 ·subst h
  obtain ⟨G,hG⟩:∃ G,F=G+1:=⟨F - 1,by unfold A4 at hF; omega⟩
  rw [hG]
  unfold Cd
  simp (disch:=omega) only [bs,↓iP,↓iN]
  rfl
 ·rw [List.concat_eq_append] at h
  subst h
  have e:=Zq F (fun z11=>some (z11,())) c.length c p [] rfl (by simpa using hb) F (by unfold A4 at hF; simp at hb; omega)
  simp only [List.append_nil] at e
  have:Bl .i64 (Au (c++[p])) 1=(c.length:Int):=by
   show IntKind.wrap .i64 _=_
   unfold Au
   simp at hb ⊢
   rw [Cv (by omega)] <;> omega
  rw [this]
  exact e
theorem Ary(F:Nat){R:Type}(k:List Int→Option R):∀ (rest done:List Int) (p:Int),((done++[p]++rest).length:Int)≤140737488355328→∀ N,rest.length < N →
  Et F k N (done++[p]++rest) ((done.length:Int)+1)=k (done++[p]++sms p rest):=by
 intro rest
 induction rest with
 | nil =>
  intro done p hb N hN
  obtain ⟨N,rfl⟩:∃ M,N=M+1:=⟨N - 1,by omega⟩
  have hll:(done++[p]++[]).length=done.length+1:=by simp
  unfold Et
  simp (disch:=omega) only [bs,↓iP,↓iN]
  rfl
 | cons x rest ih =>
  intro done p hb N hN
  obtain ⟨N,rfl⟩:∃ M,N=M+1:=⟨N - 1,by omega⟩
  simp only [List.length_cons] at hN
  have hlen:(((done++[p]).length:Nat):Int)=(done.length:Int)+1:=by simp
  have g1:Ak 0 (done++[p]++x::rest) ((done.length:Int)+1)=x:=by rw [← hlen]; exact Cb (done++[p]) x rest
  have g0:Ak 0 (done++[p]++x::rest) (done.length:Int)=p:=by rw [List.append_assoc]; exact Cb done p _
  have s1:B6 (done++[p]++x::rest) ((done.length:Int)+1) (IntKind.i64.wrap (p+x))=done++[p]++[IntKind.i64.wrap (p+x)]++rest:=by rw [← hlen]; exact Gw (done++[p]) x _ rest
  have e:=ih (done++[p]) (IntKind.i64.wrap (p+x)) (by simp at hb ⊢; omega) N (by omega)
  rw [hlen] at e
  have hll:(done++[p]++x::rest).length=done.length+2+rest.length:=by simp; omega
  have hw:=Adw x p
  rw [Int.add_comm x p] at hw
  have hd1:(done.length:Int)+1 - 1=(done.length:Int):=by omega
  have hfin:done++[p]++sms p (x::rest)=done++[p]++[IntKind.i64.wrap (p+x)]++sms (IntKind.i64.wrap (p+x)) rest:=by simp [sms]
  rw [hfin,← e,← s1]
  generalize done++[p]++x::rest=l at *
  conv=>lhs; unfold Et
  unfold Sq
  simp (disch:=omega) only [bs,↓iP,↓iN,hd1,g1,g0,hw]
theorem Zr(F:Nat)(hF:A4 F){l:List Int}(hb:(l.length:Int)≤140737488355328):Ot F l=some (sm l,()):=by
 unfold Ot
 cases l with
 | nil =>
  obtain ⟨G,hG⟩:∃ G,F=G+1:=⟨F - 1,by unfold A4 at hF; omega⟩
  rw [hG]
  unfold Et
  simp (disch:=omega) only [bs,↓iP,↓iN]
  rfl
 | cons x t=>exact Ary F _ t [] x (by simpa using hb) F (by unfold A4 at hF; simp at hb; omega)
theorem Ai7(F:Nat)(hF:A4 F){R:Type}(k:List Int→Option R){o:Nat}(ho:o≤2):∀ (m i:Nat) (l:List Int),i+m=o→(l.length:Int)≤140737488355328→∀ N,m < N →
  Dx F k N l (o:Int) (i:Int)=k (dfn m l):=by
 intro m
 induction m with
 | zero =>
  intro i l hi hb N hN
  obtain ⟨N,rfl⟩:∃ M,N=M+1:=⟨N - 1,by omega⟩
  unfold Dx
  simp (disch:=omega) only [bs,↓iP,↓iN]
  rfl
 | succ m ih =>
  intro i l hi hb N hN
  obtain ⟨N,rfl⟩:∃ M,N=M+1:=⟨N - 1,by omega⟩
  have e:=ih (i+1) (df l) (by omega) (by rw [AbD]; exact hb) N (by omega)
  simp only [Int.natCast_add,Int.natCast_one] at e
  unfold Dx
  simp (disch:=omega) only [bs,↓iP,↓iN,Sy F hF hb]
  exact e
theorem Ai8(F:Nat)(hF:A4 F){R:Type}(k:List Int→Option R){o:Nat}(ho:o≤2):∀ (m i:Nat) (l:List Int),i+m=o→(l.length:Int)≤140737488355328→∀ N,m < N →
  Dy F k N l (o:Int) (i:Int)=k (smn m l):=by
 intro m
 induction m with
 | zero =>
  intro i l hi hb N hN
  obtain ⟨N,rfl⟩:∃ M,N=M+1:=⟨N - 1,by omega⟩
  unfold Dy
  simp (disch:=omega) only [bs,↓iP,↓iN]
  rfl
 | succ m ih =>
  intro i l hi hb N hN
  obtain ⟨N,rfl⟩:∃ M,N=M+1:=⟨N - 1,by omega⟩
  have e:=ih (i+1) (sm l) (by omega) (by rw [AbE]; exact hb) N (by omega)
  simp only [Int.natCast_add,Int.natCast_one] at e
  unfold Dy
  simp (disch:=omega) only [bs,↓iP,↓iN,Zr F hF hb]
  exact e
theorem Ach(F:Nat){R:Type}(k:List Int→Option R){src:List Int}(hs:Sg src)(hb:(src.length:Int)≤140737488355328):∀ (rest pre out z:List Int),src=pre++rest→out.length=pre.length→z.length=rest.length→∀ N,rest.length < N →
  Db F k N (out++z) src (src.length:Int) (pre.length:Int)=k (out++zs rest):=by
 intro rest
 induction rest with
 | nil =>
  intro pre out z he ho hz N hN
  obtain ⟨N,rfl⟩:∃ M,N=M+1:=⟨N - 1,by omega⟩
  have:z=[]:=List.length_eq_zero_iff.1 hz
  subst this
  have hlen:src.length=pre.length:=by rw [he]; simp
  unfold Db
  simp (disch:=omega) only [bs,↓iP,↓iN]
  rfl
 | cons x rest ih =>
  intro pre out z he ho hz N hN
  obtain ⟨N,rfl⟩:∃ M,N=M+1:=⟨N - 1,by omega⟩
  obtain ⟨y,z',rfl⟩:∃ y z',z=y::z':=by
   cases z with
   | nil=>simp at hz
   | cons y z'=>exact ⟨y,z',rfl⟩
  simp only [List.length_cons] at hN hz
  have hlen:src.length=pre.length+1+rest.length:=by rw [he]; simp; omega
  have g:Ak 0 src (pre.length:Int)=x:=by rw [he]; exact Cb pre x rest
  have hx:I64 x:=hs x (by rw [he]; simp)
  have st:B6 (out++y::z') (pre.length:Int) (zz x:Int)=(out++[(zz x:Int)])++z':=by rw [← ho]; exact Gw out y _ z'
  have hol:(out++y::z').length=pre.length+1+z'.length:=by simp; omega
  have e:=ih (pre++[x]) (out++[(zz x:Int)]) z' (by rw [he]; simp) (by simp [ho]) (by omega) N (by omega)
  have hpl:(((pre++[x]).length:Nat):Int)=(pre.length:Int)+1:=by simp
  rw [hpl] at e
  have hz2:out++[(zz x:Int)]++zs rest=out++zs (x::rest):=by simp [zs]
  rw [hz2] at e
  unfold Db
  simp (disch:=omega) only [bs,↓iP,↓iN,g,Zm F hx,st]
  exact e
theorem AbF(F:Nat){R:Type}(k:List Int→Option R){src:List Int}(hs:Sg src)(hb:(src.length:Int)≤140737488355328):∀ (rest pre out z:List Int),src=pre++rest→out.length=pre.length→z.length=rest.length→∀ N,rest.length < N →
  Gc F k N src (out++z) (pre.length:Int)=k (out++zs rest):=by
 intro rest
 induction rest with
 | nil =>
  intro pre out z he ho hz N hN
  obtain ⟨N,rfl⟩:∃ M,N=M+1:=⟨N - 1,by omega⟩
  have:z=[]:=List.length_eq_zero_iff.1 hz
  subst this
  have hlen:src.length=pre.length:=by rw [he]; simp
  unfold Gc
  simp (disch:=omega) only [bs,↓iP,↓iN]
  rfl
 | cons x rest ih =>
  intro pre out z he ho hz N hN
  obtain ⟨N,rfl⟩:∃ M,N=M+1:=⟨N - 1,by omega⟩
  obtain ⟨y,z',rfl⟩:∃ y z',z=y::z':=by
   cases z with
   | nil=>simp at hz
   | cons y z'=>exact ⟨y,z',rfl⟩
  simp only [List.length_cons] at hN hz
  have hlen:src.length=pre.length+1+rest.length:=by rw [he]; simp; omega
  have g:Ak 0 src (pre.length:Int)=x:=by rw [he]; exact Cb pre x rest
  have hx:I64 x:=hs x (by rw [he]; simp)
  have st:B6 (out++y::z') (pre.length:Int) (zz x:Int)=(out++[(zz x:Int)])++z':=by rw [← ho]; exact Gw out y _ z'
  have hol:(out++y::z').length=pre.length+1+z'.length:=by simp; omega
  have e:=ih (pre++[x]) (out++[(zz x:Int)]) z' (by rw [he]; simp) (by simp [ho]) (by omega) N (by omega)
  have hpl:(((pre++[x]).length:Nat):Int)=(pre.length:Int)+1:=by simp
  rw [hpl] at e
  have hz2:out++[(zz x:Int)]++zs rest=out++zs (x::rest):=by simp [zs]
  rw [hz2] at e
  unfold Gc
  simp (disch:=omega) only [bs,↓iP,↓iN,g,Abs F hx,st]
  exact e
theorem N8(n:Nat):(Cc (n:Int) (0:Int)).length=n:=by simp [Cc]
theorem T7(F:Nat)(hF:A4 F){l:List Int}(hl:Sg l)(hb:(l.length:Int)≤17592186043904)(o:Int) :
  Ej F l o=if o < 0∨2 < o then some ([],false,()) else some (zs (dfn o.toNat l),true,()):=by
 unfold Ej
 by_cases c0:o < 0
 ·rw [iP (.inl c0)]
  simp (disch:=omega) only [bs,↓iP,↓iN]
 ·by_cases c1:2 < o
  ·rw [iP (.inr c1)]
   simp (disch:=omega) only [bs,↓iP,↓iN]
  ·rw [iN (by omega)]
   obtain ⟨n,rfl⟩:=Int.eq_ofNat_of_zero_le (show 0≤o by omega)
   have hn:n≤2:=by
    have:Int.ofNat n=(n:Int):=rfl
    omega
   have e1:It F l=some (l,()):=by
    unfold It
    simp (disch:=omega) only [bs,↓iP,↓iN]
   have e2:Ob F l (n:Int)=some (dfn n l,()):=Ai7 F hF _ hn n 0 l (by omega) (by omega) F (by unfold A4 at hF; omega)
   have hdl:=C3 n l
   have hds:=L1 n hl
   rw [Int.toNat_natCast]
   have x0:ltI (n:Int) 0=false:=by rw [← Bool.not_eq_true,Ah]; omega
   have x1:ltI 2 (n:Int)=false:=by rw [← Bool.not_eq_true,Ah]; omega
   simp only [x0,x1,cF,e1,e2,bS]
   generalize dfn n l=d at *
   have x2:Im (Au d) (Au d) 8=true:=by rw [Jk]; unfold Au; omega
   rw [x2,cT]
   exact Ach F _ hds (by omega) d [] [] (Cc (Au d) 0) rfl rfl (by unfold Au; rw [N8]) F (by unfold A4 at hF; omega)
theorem AnT(F:Nat){R:Type}(k:List Int→Option R){src:List Int}(hb:(src.length:Int)≤17592186043904):∀ (rest pre:List Int) (p:Int) (out:List Int),src=pre++p::rest→out.length=pre.length+1→∀ N,rest.length < N →
  Bg F k N src out ((pre.length:Int)+1)=k (out++dfs p rest):=by
 intro rest
 induction rest with
 | nil =>
  intro pre p out he ho N hN
  obtain ⟨N,rfl⟩:∃ M,N=M+1:=⟨N - 1,by omega⟩
  have hlen:src.length=pre.length+1:=by rw [he]; simp
  unfold Bg
  simp (disch:=omega) only [bs,↓iP,↓iN]
  simp [dfs]
 | cons x rest ih =>
  intro pre p out he ho N hN
  obtain ⟨N,rfl⟩:∃ M,N=M+1:=⟨N - 1,by omega⟩
  simp only [List.length_cons] at hN
  have hlen:src.length=pre.length+2+rest.length:=by rw [he]; simp; omega
  have g0:Ak 0 src (pre.length:Int)=p:=by rw [he]; exact Cb pre p _
  have g1:Ak 0 src ((pre.length:Int)+1)=x:=by
   rw [he,show pre++p::x::rest=(pre++[p])++x::rest by simp,show(pre.length:Int)+1=(((pre++[p]).length:Nat):Int) by simp]
   exact Cb (pre++[p]) x rest
  have e:=ih (pre++[p]) x (out++[IntKind.i64.wrap (x - p)]) (by rw [he]; simp) (by simp [ho]) N (by omega)
  rw [show(((pre++[p]).length:Nat):Int)=(pre.length:Int)+1 by simp,List.append_assoc,List.singleton_append] at e
  have hw:=Ai6 x p
  have hp1:(pre.length:Int)+1 - 1=(pre.length:Int):=by omega
  unfold Bg AcN
  simp (disch:=omega) only [bs,↓iP,↓iN,hp1,g0,g1,hw]
  exact e
theorem Uy(F:Nat)(hF:A4 F){l:List Int}(hb:(l.length:Int)≤17592186043904):Ng F l=some (df l,()):=by
 unfold Ng
 obtain ⟨G,hG⟩:∃ G,F=G+1:=⟨F - 1,by unfold A4 at hF; omega⟩
 cases l with
 | nil =>
  rw [hG]
  unfold Bg
  simp (disch:=omega) only [bs,↓iP,↓iN]
  rfl
 | cons x t =>
  have e:=AnT F (fun z=>some (z,())) hb t [] x [x] rfl rfl G (by unfold A4 at hF; simp at hb; omega)
  have hll:(x::t).length=t.length+1:=rfl
  have g:Ak 0 (x::t) 0=x:=rfl
  have step:Bg F (fun z=>some (z,())) (G+1) (x::t) [] 0=Bg F (fun z=>some (z,())) G (x::t) [x] 1:=by
   have r1:Bh (([]:List Int).length+1) 8=true:=rfl
   conv=>lhs; unfold Bg
   generalize x::t=l at *
   simp only [r1,cT]
   simp (disch:=omega) only [bs,↓iP,↓iN,g,List.nil_append]
   rfl
  have hFG:Bg F (fun z=>some (z,())) F (x::t) [] 0=Bg F (fun z=>some (z,())) (G+1) (x::t) [] 0:=by rw [← hG]
  rw [hFG,step]
  exact e
theorem Arz(F:Nat)(hF:A4 F){R:Type}(k:List Int→Option R){o:Nat}(ho:o≤2):∀ (m i:Nat) (l:List Int),i+m=o→(l.length:Int)≤17592186043904→∀ N,m < N →
  Gb F k N l (o:Int) (i:Int)=k (dfn m l):=by
 intro m
 induction m with
 | zero =>
  intro i l hi hb N hN
  obtain ⟨N,rfl⟩:∃ M,N=M+1:=⟨N - 1,by omega⟩
  unfold Gb
  simp (disch:=omega) only [bs,↓iP,↓iN]
  rfl
 | succ m ih =>
  intro i l hi hb N hN
  obtain ⟨N,rfl⟩:∃ M,N=M+1:=⟨N - 1,by omega⟩
  have e:=ih (i+1) (df l) (by omega) (by rw [AbD]; exact hb) N (by omega)
  simp only [Int.natCast_add,Int.natCast_one] at e
  unfold Gb
  simp (disch:=omega) only [bs,↓iP,↓iN,Uy F hF hb]
  exact e
theorem Xc(F:Nat)(hF:A4 F){l:List Int}(hl:Sg l)(hb:(l.length:Int)≤17592186043904)(o:Int) :
  Lm F l o=if o < 0∨2 < o then some ([],false,()) else some (zs (dfn o.toNat l),true,()):=by
 unfold Lm
 by_cases c0:o < 0
 ·rw [iP (.inl c0)]
  simp (disch:=omega) only [bs,↓iP,↓iN]
 ·by_cases c1:2 < o
  ·rw [iP (.inr c1)]
   simp (disch:=omega) only [bs,↓iP,↓iN]
  ·rw [iN (by omega)]
   obtain ⟨n,rfl⟩:=Int.eq_ofNat_of_zero_le (show 0≤o by omega)
   have hn:n≤2:=by
    have:Int.ofNat n=(n:Int):=rfl
    omega
   have hdl:=C3 n l
   have hds:=L1 n hl
   rw [Int.toNat_natCast]
   have x0:ltI (n:Int) 0=false:=by rw [← Bool.not_eq_true,Ah]; omega
   have x1:ltI 2 (n:Int)=false:=by rw [← Bool.not_eq_true,Ah]; omega
   simp only [x0,x1,cF]
   refine(Arz F hF _ hn n 0 l (by omega) (by omega) F (by unfold A4 at hF; omega)).trans ?_
   generalize dfn n l=d at *
   have x2:Im (Au d) (Au d) 8=true:=by rw [Jk]; unfold Au; omega
   simp only [x2,cT]
   exact AbF F _ hds (by omega) d [] [] (Cc (Au d) 0) rfl rfl (by unfold Au; rw [N8]) F (by unfold A4 at hF; omega)
def rEe(l:List Int):List Int×Int:=if 65536 < l.length then([],3) else(rE l,0)
theorem Qc(F:Nat)(hF:A4 F){l:List Int}(hl:Sg l)(hb:(l.length:Int)≤17592186043904):Ee F l=some ((rEe l).1,(rEe l).2,()):=by
 have hR:=T7 F hF hl hb
 unfold Ee Lh rEe
 have r0:=hR 0
 have r1:=hR 1
 have r2:=hR 2
 rw [iN (by omega)] at r0 r1 r2
 rw [show(0:Int).toNat=0 from rfl] at r0
 rw [show(1:Int).toNat=1 from rfl] at r1
 rw [show(2:Int).toNat=2 from rfl] at r2
 have x0:ltI (0:Int) 3=true:=rfl
 rw [x0,cT,r0]
 simp only [bS]
 by_cases h:65536 < l.length
 ·rw [iP h,Xa F (by rw [E0,C3]; exact h)]
  rfl
 ·rw [iN h]
  have n0:=Fh F hF (Ux (L1 0 hl)) (by rw [E0,C3]; omega)
  have n1:=Fh F hF (Ux (L1 1 hl)) (by rw [E0,C3]; omega)
  have n2:=Fh F hF (Ux (L1 2 hl)) (by rw [E0,C3]; omega)
  have s0:=Jz (Ux (L1 0 hl)) (by rw [E0,C3]; omega)
  have s1:=Jz (Ux (L1 1 hl)) (by rw [E0,C3]; omega)
  have s2:=Jz (Ux (L1 2 hl)) (by rw [E0,C3]; omega)
  have q0:rO 0 l=0::nE (zs (dfn 0 l)):=rfl
  have q1:rO 1 l=1::nE (zs (dfn 1 l)):=rfl
  have q2:rO 2 l=2::nE (zs (dfn 2 l)):=rfl
  obtain ⟨G,hG⟩:∃ G,F=G+3:=⟨F - 3,by unfold A4 at hF; omega⟩
  have z:eqI (0:Int) 0=true:=rfl
  have w0:IntKind.wrap .u8 (0:Int)=0:=rfl
  have w1:IntKind.wrap .u8 (1:Int)=1:=rfl
  have w2:IntKind.wrap .u8 (2:Int)=2:=rfl
  have a1:As .i64 (0:Int) 1=1:=rfl
  have a2:As .i64 (1:Int) 1=2:=rfl
  have a3:As .i64 (2:Int) 1=3:=rfl
  have rm:∀ c:List Int,c.length≤524290→Bh (1+c.length) 1=true:=fun c hc=>by rw [Cn]; omega
  -- one more order
  have step:∀ (N:Nat) (best:List Int) (o:Nat) (c:List Int),best≠[]→best.length≤524291→c.length≤524290→ltI (o:Int) 3=true→Ej F l (o:Int)=some (zs (dfn o l),true,())→Bn F (zs (dfn o l))=some (c,0,())→IntKind.wrap .u8 (o:Int)=(o:Int) →
    B9 F (fun z=>some (z,(0,()))) (fun z28 z29=>some (z28,(z29,()))) (N+1) l best (o:Int)=B9 F (fun z=>some (z,(0,()))) (fun z28 z29=>some (z28,(z29,()))) N l (E4 ((o:Int)::c) best) (As .i64 (o:Int) 1):=by
   intro N best o c hne hbl hcl ho hr hc hw
   conv=>lhs; unfold B9
   have he:List.isEmpty best=false:=by cases best with | nil=>exact absurd rfl hne | cons _ _=>rfl
   simp only [ho,cT,hr,bS,hc,z,Bool.not_true,cF,he]
   by_cases cc:c.length+1 < best.length
   ·have x:ltI (As .i64 (Au c) 1) (Au best)=true:=by rw [Bd (by unfold Au; omega),Ah]; unfold Au; omega
    rw [x,cT,rm c hcl,cT,hw]
    unfold E4
    rw [iP (by simpa using cc)]
    rfl
   ·have x:ltI (As .i64 (Au c) 1) (Au best)=false:=by rw [← Bool.not_eq_true,Bd (by unfold Au; omega),Ah]; unfold Au; omega
    rw [x,cF]
    unfold E4
    rw [iN (by simpa using cc)]
  have last:∀ (N:Nat) (best:List Int),B9 F (fun z=>some (z,(0,()))) (fun z28 z29=>some (z28,(z29,()))) (N+1) l best 3=some (best,(0,())):=fun N best=>rfl
  have e1:=step (G+2) (rO 0 l) 1 (nE (zs (dfn 1 l))) (by rw [q0]; simp) (by rw [q0]; simp; omega) s1 rfl r1 n1 rfl
  have hs1:(E4 (rO 1 l) (rO 0 l)).length≤524291:=by
   have:=(H0 (rO 1 l) (rO 0 l)).2.2
   rw [q0] at this ⊢; simp at this; omega
  have hne1:E4 (rO 1 l) (rO 0 l)≠[]:=by
   rcases (H0 (rO 1 l) (rO 0 l)).1 with h | h <;> rw [h]
   ·rw [q1]; simp
   ·rw [q0]; simp
  have e2:=step (G+1) (E4 (rO 1 l) (rO 0 l)) 2 (nE (zs (dfn 2 l))) hne1 hs1 s2 rfl r2 n2 rfl
  have e3:=last G (E4 (rO 2 l) (E4 (rO 1 l) (rO 0 l)))
  simp only [n0,bS,z,Bool.not_true,cF,rm _ s0,cT,w0,a1]
  have hF3:B9 F (fun z=>some (z,(0,()))) (fun z28 z29=>some (z28,(z29,()))) F l ([0]++nE (zs (dfn 0 l))) 1=B9 F (fun z=>some (z,(0,()))) (fun z28 z29=>some (z28,(z29,()))) (G+2+1) l (rO 0 l) 1:=by
   rw [q0,show G+2+1=F by omega]
   rfl
  refine hF3.trans (e1.trans ?_)
  refine Eq.trans ?_ (e2.trans ?_)
  ·rfl
  ·exact e3
theorem AbG(F:Nat)(hF:A4 F){l:List Int}(hl:Sg l)(hb:(l.length:Int)≤17592186043904):P8 F l=some ((rEe l).1,(rEe l).2,()):=by
 unfold P8 rEe
 by_cases h:65536 < l.length
 ·rw [iP h]
  simp (disch:=omega) only [bs,↓iP,↓iN]
 ·rw [iN h]
  have hlt:ltI 65536 (Au l)=false:=by rw [← Bool.not_eq_true,Ah]; unfold Au; omega
  rw [hlt,cF]
  have hR:=Xc F hF hl hb
  have r0:=hR 0
  have r1:=hR 1
  have r2:=hR 2
  rw [iN (by omega)] at r0 r1 r2
  rw [show(0:Int).toNat=0 from rfl] at r0
  rw [show(1:Int).toNat=1 from rfl] at r1
  rw [show(2:Int).toNat=2 from rfl] at r2
  have n0:=Ji F hF (Ux (L1 0 hl)) (by rw [E0,C3]; omega)
  have n1:=Ji F hF (Ux (L1 1 hl)) (by rw [E0,C3]; omega)
  have n2:=Ji F hF (Ux (L1 2 hl)) (by rw [E0,C3]; omega)
  have s0:=Jz (Ux (L1 0 hl)) (by rw [E0,C3]; omega)
  have s1:=Jz (Ux (L1 1 hl)) (by rw [E0,C3]; omega)
  have s2:=Jz (Ux (L1 2 hl)) (by rw [E0,C3]; omega)
  have q0:rO 0 l=0::nE (zs (dfn 0 l)):=rfl
  have q1:rO 1 l=1::nE (zs (dfn 1 l)):=rfl
  obtain ⟨G,hG⟩:∃ G,F=G+4:=⟨F - 4,by unfold A4 at hF; omega⟩
  have rm:∀ c:List Int,c.length≤524290→Bh (1+c.length) 1=true:=fun c hc=>by rw [Cn]; omega
  have first:∀ N:Nat,B4 F (fun z=>some (z,((0:Int),()))) (N+1) l [] 0=B4 F (fun z=>some (z,((0:Int),()))) N l (rO 0 l) 1:=by
   intro N
   conv=>lhs; unfold B4
   simp only [show leI (0:Int) 2=true from rfl,cT,r0,bS,n0,show eqI (0:Int) 0=true from rfl,rm _ s0]
   rfl
  have step:∀ (N:Nat) (best:List Int) (o:Nat) (c:List Int),best.length≤524291→c.length≤524290→leI (o:Int) 2=true→eqI (o:Int) 0=false→Lm F l (o:Int)=some (zs (dfn o l),true,())→Gd F (zs (dfn o l))=some (c,0,())→IntKind.wrap .u8 (o:Int)=(o:Int) →
    B4 F (fun z=>some (z,((0:Int),()))) (N+1) l best (o:Int)=B4 F (fun z=>some (z,((0:Int),()))) N l (E4 ((o:Int)::c) best) (As .i64 (o:Int) 1):=by
   intro N best o c hbl hcl ho ho0 hr hc hw
   conv=>lhs; unfold B4
   simp only [ho,cT,hr,bS,hc,ho0,cF]
   by_cases cc:c.length+1 < best.length
   ·have x:ltI (As .i64 1 (Au c)) (Au best)=true:=by rw [Bd (by unfold Au; omega),Ah]; unfold Au; omega
    rw [x,cT,rm c hcl,cT,hw]
    unfold E4
    rw [iP (by simpa using cc)]
    rfl
   ·have x:ltI (As .i64 1 (Au c)) (Au best)=false:=by rw [← Bool.not_eq_true,Bd (by unfold Au; omega),Ah]; unfold Au; omega
    rw [x,cF]
    unfold E4
    rw [iN (by simpa using cc)]
  have last:∀ (N:Nat) (best:List Int),B4 F (fun z=>some (z,((0:Int),()))) (N+1) l best 3=some (best,(0,())):=fun N best=>rfl
  have e0:=first (G+3)
  have e1:=step (G+2) (rO 0 l) 1 (nE (zs (dfn 1 l))) (by rw [q0]; simp; omega) s1 rfl rfl r1 n1 rfl
  have hs1:(E4 (rO 1 l) (rO 0 l)).length≤524291:=by
   have:=(H0 (rO 1 l) (rO 0 l)).2.2
   rw [q0] at this ⊢; simp at this; omega
  have e2:=step (G+1) (E4 (rO 1 l) (rO 0 l)) 2 (nE (zs (dfn 2 l))) hs1 s2 rfl rfl r2 n2 rfl
  have e3:=last G (E4 (rO 2 l) (E4 (rO 1 l) (rO 0 l)))
  have hF4:B4 F (fun z=>some (z,((0:Int),()))) F l [] 0=B4 F (fun z=>some (z,((0:Int),()))) (G+3+1) l [] 0:=by rw [show G+3+1=F by omega]
  exact hF4.trans (e0.trans (e1.trans (e2.trans e3)))
theorem AuE(F:Nat){R:Type}(k:List Int→Int→Int→List Int→Option R)(b:List Int)(at_ end_:Int){src:List Int}(hs:Wd src)(hb:(src.length:Int)≤140737488355328):∀ (rest pre out z:List Int),src=pre++rest→out.length=pre.length→z.length=rest.length→∀ N,rest.length < N →
  D3 F k N b at_ end_ (out++z) src (src.length:Int) (pre.length:Int)=k b at_ end_ (out++us rest):=by
 intro rest
 induction rest with
 | nil =>
  intro pre out z he ho hz N hN
  obtain ⟨N,rfl⟩:∃ M,N=M+1:=⟨N - 1,by omega⟩
  have:z=[]:=List.length_eq_zero_iff.1 hz
  subst this
  have hlen:src.length=pre.length:=by rw [he]; simp
  unfold D3
  simp (disch:=omega) only [bs,↓iP,↓iN]
  rfl
 | cons x rest ih =>
  intro pre out z he ho hz N hN
  obtain ⟨N,rfl⟩:∃ M,N=M+1:=⟨N - 1,by omega⟩
  obtain ⟨y,z',rfl⟩:∃ y z',z=y::z':=by
   cases z with
   | nil=>simp at hz
   | cons y z'=>exact ⟨y,z',rfl⟩
  simp only [List.length_cons] at hN hz
  have hlen:src.length=pre.length+1+rest.length:=by rw [he]; simp; omega
  have g:Ak 0 src (pre.length:Int)=x:=by rw [he]; exact Cb pre x rest
  have hx:0≤x∧x≤18446744073709551615:=hs x (by rw [he]; simp)
  obtain ⟨v,rfl⟩:=Int.eq_ofNat_of_zero_le hx.1
  have hU:=W1 F (n:=v) (by have:Int.ofNat v=(v:Int):=rfl; omega)
  have st:B6 (out++y::z') (pre.length:Int) (uz v)=(out++[uz v])++z':=by rw [← ho]; exact Gw out y _ z'
  have hol:(out++y::z').length=pre.length+1+z'.length:=by simp; omega
  have e:=ih (pre++[(v:Int)]) (out++[uz v]) z' (by rw [he]; simp) (by simp [ho]) (by omega) N (by omega)
  have hpl:(((pre++[(v:Int)]).length:Nat):Int)=(pre.length:Int)+1:=by simp
  rw [hpl] at e
  have hz2:out++[uz v]++us rest=out++us ((v:Int)::rest):=by simp [us]
  rw [hz2] at e
  unfold D3
  simp (disch:=omega) only [bs,↓iP,↓iN,g,hU,st]
  exact e
theorem ArA(F:Nat){R:Type}(k:List Int→Int→Int→List Int→Option R)(b:List Int)(at_ end_:Int){src:List Int}(hs:Wd src)(hb:(src.length:Int)≤140737488355328):∀ (rest pre out z:List Int),src=pre++rest→out.length=pre.length→z.length=rest.length→∀ N,rest.length < N →
  H6 F k N b at_ (src.length:Int) src end_ (out++z) (pre.length:Int)=k b at_ end_ (out++us rest):=by
 intro rest
 induction rest with
 | nil =>
  intro pre out z he ho hz N hN
  obtain ⟨N,rfl⟩:∃ M,N=M+1:=⟨N - 1,by omega⟩
  have:z=[]:=List.length_eq_zero_iff.1 hz
  subst this
  have hlen:src.length=pre.length:=by rw [he]; simp
  unfold H6
  simp (disch:=omega) only [bs,↓iP,↓iN]
  rfl
 | cons x rest ih =>
  intro pre out z he ho hz N hN
  obtain ⟨N,rfl⟩:∃ M,N=M+1:=⟨N - 1,by omega⟩
  obtain ⟨y,z',rfl⟩:∃ y z',z=y::z':=by
   cases z with
   | nil=>simp at hz
   | cons y z'=>exact ⟨y,z',rfl⟩
  simp only [List.length_cons] at hN hz
  have hlen:src.length=pre.length+1+rest.length:=by rw [he]; simp; omega
  have g:Ak 0 src (pre.length:Int)=x:=by rw [he]; exact Cb pre x rest
  have hx:0≤x∧x≤18446744073709551615:=hs x (by rw [he]; simp)
  obtain ⟨v,rfl⟩:=Int.eq_ofNat_of_zero_le hx.1
  have hU:=X8 F (n:=v) (by have:Int.ofNat v=(v:Int):=rfl; omega)
  have st:B6 (out++y::z') (pre.length:Int) (uz v)=(out++[uz v])++z':=by rw [← ho]; exact Gw out y _ z'
  have hol:(out++y::z').length=pre.length+1+z'.length:=by simp; omega
  have e:=ih (pre++[(v:Int)]) (out++[uz v]) z' (by rw [he]; simp) (by simp [ho]) (by omega) N (by omega)
  have hpl:(((pre++[(v:Int)]).length:Nat):Int)=(pre.length:Int)+1:=by simp
  rw [hpl] at e
  have hz2:out++[uz v]++us rest=out++us ((v:Int)::rest):=by simp [us]
  rw [hz2] at e
  unfold H6
  simp (disch:=omega) only [bs,↓iP,↓iN,g,hU,st]
  exact e
theorem ArB(F:Nat){R:Type}(k:List Int→Option R){src:List Int}(hb:(src.length:Int)≤17592186043904):∀ (rest pre out:List Int) (p:Int),src=pre++rest→out.length+1=pre.length→∀ N,rest.length < N →
  C5 F k N src (out++[p]) (pre.length:Int)=k (out++[p]++sms p rest):=by
 intro rest
 induction rest with
 | nil =>
  intro pre out p he ho N hN
  obtain ⟨N,rfl⟩:∃ M,N=M+1:=⟨N - 1,by omega⟩
  have hlen:src.length=pre.length:=by rw [he]; simp
  unfold C5
  simp (disch:=omega) only [bs,↓iP,↓iN]
  simp [sms]
 | cons x rest ih =>
  intro pre out p he ho N hN
  obtain ⟨N,rfl⟩:∃ M,N=M+1:=⟨N - 1,by omega⟩
  simp only [List.length_cons] at hN
  have hlen:src.length=pre.length+1+rest.length:=by rw [he]; simp; omega
  have g1:Ak 0 src (pre.length:Int)=x:=by rw [he]; exact Cb pre x rest
  have g0:Ak 0 (out++[p]) ((pre.length:Int) - 1)=p:=by
   rw [show(pre.length:Int) - 1=(out.length:Int) by omega]
   exact Arw out p
  have e:=ih (pre++[x]) (out++[p]) (IntKind.i64.wrap (p+x)) (by rw [he]; simp) (by simp; omega) N (by omega)
  rw [show(((pre++[x]).length:Nat):Int)=(pre.length:Int)+1 by simp] at e
  have hfin:out++[p]++[IntKind.i64.wrap (p+x)]++sms (IntKind.i64.wrap (p+x)) rest=out++[p]++sms p (x::rest):=by simp [sms]
  rw [hfin] at e
  have hol:(out++[p]).length=pre.length:=by simp; omega
  have hw:=Adw p x
  unfold C5 AaV
  simp (disch:=omega) only [bs,↓iP,↓iN,g0,g1,hw]
  exact e
theorem AfB(F:Nat)(hF:A4 F){l:List Int}(hb:(l.length:Int)≤17592186043904):X4 F l=some (sm l,()):=by
 unfold X4
 obtain ⟨G,hG⟩:∃ G,F=G+1:=⟨F - 1,by unfold A4 at hF; omega⟩
 cases l with
 | nil =>
  rw [hG]
  unfold C5
  simp (disch:=omega) only [bs,↓iP,↓iN]
  rfl
 | cons x t =>
  have e:=ArB F (fun z=>some (z,())) hb t [x] [] x rfl rfl G (by unfold A4 at hF; simp at hb; omega)
  have hll:(x::t).length=t.length+1:=rfl
  have g:Ak 0 (x::t) 0=x:=rfl
  have step:C5 F (fun z=>some (z,())) (G+1) (x::t) [] 0=C5 F (fun z=>some (z,())) G (x::t) [x] 1:=by
   have r1:Bh (([]:List Int).length+1) 8=true:=rfl
   conv=>lhs; unfold C5
   generalize x::t=l at *
   simp only [r1,cT]
   simp (disch:=omega) only [bs,↓iP,↓iN,g,List.nil_append]
   rfl
  have hFG:C5 F (fun z=>some (z,())) F (x::t) [] 0=C5 F (fun z=>some (z,())) (G+1) (x::t) [] 0:=by rw [← hG]
  rw [hFG,step]
  exact e
theorem AuF(F:Nat)(hF:A4 F){R:Type}(k:List Int→Int→Int→List Int→Option R){b:List Int}{at_:Int}(end_:Int)(hat:inI at_ b.length=true){o:Nat}(ho:o≤2)(hg:Ak 0 b at_=(o:Int)):∀ (m i:Nat) (l:List Int),i+m=o→(l.length:Int)≤17592186043904→∀ N,m < N →
  H7 F k N b at_ end_ l (i:Int)=k b at_ end_ (smn m l):=by
 have hw:IntKind.wrap .i64 (o:Int)=(o:Int):=Cv (by omega)
 intro m
 induction m with
 | zero =>
  intro i l hi hb N hN
  obtain ⟨N,rfl⟩:∃ M,N=M+1:=⟨N - 1,by omega⟩
  unfold H7
  rw [hat,cT,hg,hw]
  simp (disch:=omega) only [bs,↓iP,↓iN]
  rfl
 | succ m ih =>
  intro i l hi hb N hN
  obtain ⟨N,rfl⟩:∃ M,N=M+1:=⟨N - 1,by omega⟩
  have e:=ih (i+1) (sm l) (by omega) (by rw [AbE]; exact hb) N (by omega)
  simp only [Int.natCast_add,Int.natCast_one] at e
  unfold H7
  rw [hat,cT,hg,hw]
  simp (disch:=omega) only [bs,↓iP,↓iN,AfB F hF hb]
  exact e
def Ai9(b:List Int)(at_ n:Int)(x:List Int)(end_ e:Int):Prop :=
 Sg x∧(e=0→0≤at_∧(x.length:Int)=n∧n≤65536∧at_ < end_∧end_≤b.length∧rE x=Cj (B0 b end_) at_)∧(e≠0→x=[]∧end_=0)
theorem Ai9.err(b:List Int)(at_ n:Int){e:Int}(h:e≠0):Ai9 b at_ n [] 0 e:=⟨Sg.nil,fun h2=>absurd h2 h,fun _=>⟨rfl,rfl⟩⟩
theorem AfC{l:List Int}(hl:Sg l)(hn:l.length≤65536):(rE l).length≤524291∧0 < (rE l).length∧Bt (rE l):=by
 obtain ⟨n,h1,h2⟩:=A7z l
 rw [h2]
 exact ⟨(Amm hl hn).1,(Amm hl hn).2,A7y h1 hl⟩
theorem Awr{l:List Int}(hn:l.length≤65536):rEe l=(rE l,0):=by unfold rEe; rw [iN (by omega)]
theorem A00(F:Nat)(hF:A4 F){b:List Int}(hb:Bt b)(hl:(b.length:Int)≤140737488355328)(at_ n:Int) :
  ∃ x end_ e,Dk F b at_ n=some (x,end_,e,())∧Hm F b at_ n=some (x,end_,e,())∧Ai9 b at_ n x end_ e:=by
 by_cases c:at_ < 0∨(b.length:Int) < at_∨n < 0∨65536 < n
 ·refine ⟨[],0,2,?_,?_,Ai9.err _ _ _ (by omega)⟩
  ·unfold Dk
   cases h1:ltI at_ 0 with
   | true=>rfl
   | false =>
    cases h2:ltI (Au b) at_ with
    | true=>rfl
    | false =>
     cases h3:ltI n 0 with
     | true=>rfl
     | false =>
      cases h4:ltI 65536 n with
      | true=>rfl
      | false =>
       rw [← Bool.not_eq_true,Ah] at h1 h2 h3 h4
       unfold Au at h2
       omega
  ·unfold Hm
   cases h1:ltI at_ 0 with
   | true=>rfl
   | false =>
    cases h2:ltI (Au b) at_ with
    | true=>rfl
    | false =>
     cases h3:ltI n 0 with
     | true=>rfl
     | false =>
      cases h4:ltI 65536 n with
      | true=>rfl
      | false =>
       rw [← Bool.not_eq_true,Ah] at h1 h2 h3 h4
       unfold Au at h2
       omega
 ·obtain ⟨m,rfl⟩:=Int.eq_ofNat_of_zero_le (show 0≤n by omega)
  have hm:m≤65536:=by
   have:Int.ofNat m=(m:Int):=rfl
   omega
  have x1:ltI at_ 0=false:=by rw [← Bool.not_eq_true,Ah]; omega
  have x2:ltI (Au b) at_=false:=by rw [← Bool.not_eq_true,Ah]; unfold Au; omega
  have x3:ltI (m:Int) 0=false:=by rw [← Bool.not_eq_true,Ah]; omega
  have x4:ltI 65536 (m:Int)=false:=by rw [← Bool.not_eq_true,Ah]; omega
  by_cases c0:at_=b.length
  ·have x5:eqI at_ (Au b)=true:=by rw [Ao]; unfold Au; omega
   refine ⟨[],0,4,?_,?_,Ai9.err _ _ _ (by omega)⟩
   ·unfold Dk Ca
    simp only [x1,x2,x3,x4,x5,cT,cF]
   ·unfold Hm
    simp only [x1,x2,x3,x4,x5,cT,cF]
  ·have x5:eqI at_ (Au b)=false:=by rw [← Bool.not_eq_true,Ao]; unfold Au; omega
   have x6:inI at_ b.length=true:=by rw [Bo]; omega
   have hw:=hb.get at_
   obtain ⟨o,hg⟩:=Int.eq_ofNat_of_zero_le hw.1
   have hg:Ak 0 b at_=(o:Int):=hg
   by_cases c1:2 < o
   ·have x7:ltI 2 (o:Int)=true:=by rw [Ah]; omega
    refine ⟨[],0,5,?_,?_,Ai9.err _ _ _ (by omega)⟩
    ·unfold Dk Ca
     simp only [x1,x2,x3,x4,x5,x6,hg,x7,cT,cF]
    ·unfold Hm
     simp only [x1,x2,x3,x4,x5,x6,hg,x7,cT,cF]
   ·have x7:ltI 2 (o:Int)=false:=by rw [← Bool.not_eq_true,Ah]; omega
    have x8:As .i64 at_ 1=at_+1:=Bd (by omega)
    obtain ⟨l,end_,e,d1,d2,d3,d4,d5⟩:=Ajs F hF hb hl (at_+1) (m:Int)
    by_cases ce:e=0
    ·subst ce
     obtain ⟨g1,g2,g3,g4,g5,g6⟩:=d4 rfl
     have hlm:l.length=m:=by omega
     have hS:Sg (smn o (us l)):=Awq o (A3C d3)
     have hLen:(smn o (us l)).length=m:=by rw [Adv,W8,hlm]
     have f1:=fun (R:Type) (k:List Int→Int→Int→List Int→Option R)=>AuE F k b at_ end_ d3 (by omega) l [] [] (Cc (m:Int) 0) rfl rfl (by rw [N8,hlm]) F (by unfold A4 at hF; omega)
     have f2:=fun (R:Type) (k:List Int→Int→Int→List Int→Option R)=>ArA F k b at_ end_ d3 (by omega) l [] [] (Cc (m:Int) 0) rfl rfl (by rw [N8,hlm]) F (by unfold A4 at hF; omega)
     have p1:Fw F (us l) (IntKind.wrap .i64 (o:Int))=some (smn o (us l),()):=by
      rw [Cv (by omega)]
      exact Ai8 F hF _ (by omega) o 0 (us l) (by omega) (by rw [W8]; omega) F (by unfold A4 at hF; omega)
     have p2:=fun (R:Type) (k:List Int→Int→Int→List Int→Option R)=>AuF F hF k end_ x6 (o:=o) (by omega) hg o 0 (us l) (by omega) (by rw [W8]; omega) F (by unfold A4 at hF; omega)
     have E1:=Qc F hF hS (by omega)
     have E2:=AbG F hF hS (by omega)
     rw [Awr (by omega)] at E1 E2
     obtain ⟨s1,s2,s3⟩:=AfC hS (by omega)
     have y1:Im (m:Int) (m:Int) 8=true:=by rw [Jk]; omega
     have y2:J1 at_ end_ b.length=true:=by rw [Wk]; omega
     have Q1:=T5 F hF (a:=rE (smn o (us l))) (b:=Cj (B0 b end_) at_) (by omega)
     have Q2:=Lu F hF (a:=rE (smn o (us l))) (b:=Cj (B0 b end_) at_) (by omega)
     have z0:eqI (0:Int) 0=true:=rfl
     rw [hlm] at f1 f2
     simp only [List.nil_append,List.length_nil,Int.natCast_zero] at f1 f2
     simp only [Int.natCast_zero] at p2
     by_cases cd:rE (smn o (us l))=Cj (B0 b end_) at_
     ·rw [decide_eq_true cd] at Q1 Q2
      refine ⟨smn o (us l),end_,0,?_,?_,hS,fun _=>⟨by omega,by omega,by omega,by omega,by omega,cd⟩,fun h=>absurd rfl h⟩
      ·unfold Dk Ca C7
       simp only [x1,x2,x3,x4,x5,x6,hg,x7,x8,cT,cF,d1,bS,z0,Bool.not_true,y1,show Au l=(m:Int) by unfold Au; omega,f1,p1,E1,y2,Q1]
      ·unfold Hm
       simp only [x1,x2,x3,x4,x5,x6,hg,x7,x8,cT,cF,d2,bS,z0,Bool.not_true,y1,f2,p2,E2,y2,Q2]
     ·rw [decide_eq_false cd] at Q1 Q2
      refine ⟨[],0,5,?_,?_,Ai9.err _ _ _ (by omega)⟩
      ·unfold Dk Ca C7
       simp only [x1,x2,x3,x4,x5,x6,hg,x7,x8,cT,cF,d1,bS,z0,Bool.not_true,Bool.not_false,y1,show Au l=(m:Int) by unfold Au; omega,f1,p1,E1,y2,Q1]
      ·unfold Hm
       simp only [x1,x2,x3,x4,x5,x6,hg,x7,x8,cT,cF,d2,bS,z0,Bool.not_true,Bool.not_false,y1,f2,p2,E2,y2,Q2]
    ·have y0:eqI e 0=false:=by rw [← Bool.not_eq_true,Ao]; exact ce
     refine ⟨[],0,e,?_,?_,Ai9.err _ _ _ ce⟩
     ·unfold Dk Ca
      simp only [x1,x2,x3,x4,x5,x6,hg,x7,x8,cT,cF,d1,bS,y0,Bool.not_false]
     ·unfold Hm
      simp only [x1,x2,x3,x4,x5,x6,hg,x7,x8,cT,cF,d2,bS,y0,Bool.not_false]
end Go.Proofs.YtdhfajmcakneiaaGreat
