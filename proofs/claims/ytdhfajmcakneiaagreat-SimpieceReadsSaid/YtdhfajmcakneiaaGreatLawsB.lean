/- The laws of the models, part B. -/
import Derived.Test.YtdhfajmcakneiaaGreatLawsA
import Derived.Test.YtdhfajmcakneiaaGreatEngE
set_option linter.unusedVariables false
set_option linter.unusedSimpArgs false
namespace Go.Proofs.YtdhfajmcakneiaaGreat
open Go.Eng
abbrev W:=Bool×(List Int×Unit)
def A1:Nat:=18446744073709551616 ^ 4
def WOk(w:W):Prop:=Wd w.2.1∧w.2.1.length=4
def wi(w:W):Int:=if w.1 then -(wv w.2.1:Int) else(wv w.2.1:Int)
def U7(v:Nat):List Int:=ofn v++List.replicate (4 - (ofn v).length) 0
def toW(z:Int):W:=(decide (z < 0),U7 z.natAbs,())
theorem Aga(n:Nat):wv (List.replicate n (0:Int))=0:=by
 induction n with
 | zero=>rfl
 | succ n ih=>simp [List.replicate_succ,wv,ih]
theorem C2(v:Nat):wv (U7 v)=v:=by
 unfold U7
 rw [B7,Aga,Dx]; simp
theorem Nm(v:Nat):Wd (U7 v):=Wd.append (Fx v) (fun x hx=>by rw [List.eq_of_mem_replicate hx]; omega)
theorem Eb{v:Nat}(h:v < A1):(U7 v).length=4:=by
 have:=Bl (n:=4) h
 simp [U7]; omega
theorem AdN:∀ {a b:List Int},Wd a→Wd b→a.length=b.length→wv a=wv b→a=b
 | [],[],_,_,_,_=>rfl
 | [],y::b,_,_,h,_=>by simp at h
 | x::a,[],_,_,h,_=>by simp at h
 | x::a,y::b,ha,hb,h,e=>by
  have hx:=Wd.head ha
  have hy:=Wd.head hb
  simp only [wv] at e
  rw [AdN (Wd.tail ha) (Wd.tail hb) (by simpa using h) (by omega),show x=y by omega]
theorem WOk.lt{w:W}(h:WOk w):wv w.2.1 < A1:=by
 have:=T8 h.1
 rw [h.2] at this
 exact this
theorem Wl{l:List Int}(h:Wd l)(hl:l.length=4):U7 (wv l)=l:=by
 have:=T8 h
 rw [hl] at this
 exact AdN (Nm _) h (by rw [Eb this,hl]) (C2 _)
theorem C6{z:Int}(h:z.natAbs < A1):WOk (toW z):=⟨Nm _,Eb h⟩
theorem B0(z:Int):wi (toW z)=z:=by
 unfold wi toW
 simp only [C2,decide_eq_true_eq]
 split <;> omega
theorem Of(w:W):(wi w).natAbs=wv w.2.1:=by
 unfold wi; split <;> omega
theorem WOk.abs{w:W}(h:WOk w):(wi w).natAbs < A1:=by rw [Of]; exact h.lt
def Vl(w:W):Prop:=¬ (w.1=true∧wv w.2.1=0)
instance (w:W):Decidable (Vl w):=by unfold Vl; infer_instance
theorem Ao4(z:Int):Vl (toW z):=by
 unfold Vl toW
 simp only [C2,decide_eq_true_eq]
 omega
theorem AdO{w:W}(h:WOk w)(hv:Vl w):toW (wi w)=w:=by
 obtain ⟨s,l,u⟩:=w
 unfold toW
 rw [Of]
 simp only
 rw [Wl h.1 h.2]
 congr 1
 unfold Vl at hv
 simp only at hv
 unfold wi
 cases s
 ·simp only [iN,Bool.false_eq_true,if_false]
  simp
  try omega
 ·simp only [if_true,true_and] at hv ⊢
  simp
  omega
theorem Hc:toW 0=(false,[0,0,0,0],()):=by
 unfold toW U7
 rw [show(0:Int).natAbs=0 from rfl,Kr]
 rfl
theorem AdP(l:List Int):(ofn (wv l)).length≤4↔wv l < A1:=C4
theorem Dr(F:Nat)(hF:A9 F){w:W}(h:WOk w):Ha F w=some (ofn (wv w.2.1),()):=by
 obtain ⟨s,l,u⟩:=w
 have h1:=h.1
 have h2:=h.2
 simp only at h1 h2 ⊢
 unfold Ha
 simp (disch:=omega) only [bs,↓iP,↓iN,List.nil_append,P3 F hF h1 (by omega)]
def Acw(z:Int):W×Bool:=if z.natAbs < A1 then(toW z,true) else(toW 0,false)
theorem Atp(F:Nat){R:Type}(k:W→W→Option R)(x4:W)(s:Bool){l:List Int}(hl4:l.length≤4):∀ (lb la:List Int),l=la++lb→∀ N,lb.length < N →
  H0 F k N l x4 (s,la++List.replicate (4 - la.length) 0,()) (la.length:Int)=k x4 (s,l++List.replicate (4 - l.length) 0,()):=by
 intro lb
 induction lb with
 | nil =>
  intro la h N hN
  obtain ⟨N,rfl⟩:∃ M,N=M+1:=⟨N - 1,by omega⟩
  have hla:l=la:=by rw [h]; simp
  subst hla
  unfold H0
  simp (disch:=omega) only [bs,↓iP,↓iN]
 | cons x t ih =>
  intro la h N hN
  obtain ⟨N,rfl⟩:∃ M,N=M+1:=⟨N - 1,by omega⟩
  have e:=ih (la++[x]) (by rw [h]; simp) N (by simp at hN; omega)
  have hlen:l.length=la.length+(t.length+1):=by rw [h]; simp
  have hg:An 0 l (la.length:Int)=x:=by rw [h]; exact B8 _ _ _
  have hcast:((la++[x]).length:Int)=(la.length:Int)+1:=by simp
  have hset:Cd (la++List.replicate (4 - la.length) 0) (la.length:Int) x=(la++[x])++List.replicate (4 - (la++[x]).length) 0:=by
   rw [show 4 - la.length=(4 - (la++[x]).length)+1 by simp; omega,List.replicate_succ]
   exact H7 _ _ _ _
  rw [hcast] at e
  unfold H0
  simp (disch:=omega) only [bs,↓iP,↓iN,hg,hset]
  exact e
theorem H8(F:Nat)(hF:A9 F)(s:Bool){l:List Int}(h:Wd l)(hl:(l.length:Int)≤140737488355328) :
  Fp F s l=some ((Acw (if s then -(wv l:Int) else(wv l:Int))).1,(Acw (if s then -(wv l:Int) else(wv l:Int))).2,()):=by
 unfold Fp
 rw [P3 F hF h hl]
 have hab:(if s then -(wv l:Int) else(wv l:Int)).natAbs=wv l:=by split <;> omega
 unfold Acw
 rw [hab]
 by_cases c:wv l < A1
 ·have h4:=(AdP l).2 c
  have e:=fun (R:Type) (k:W→W→Option R) (s:Bool)=>Atp F k (false,[0,0,0,0],()) s h4 (ofn (wv l)) [] rfl F (by unfold A9 at hF; omega)
  have e':∀ (R:Type) (k:W→W→Option R) (s:Bool),H0 F k F (ofn (wv l)) (false,[0,0,0,0],()) (s,[0,0,0,0],()) 0=k (false,[0,0,0,0],()) (s,U7 (wv l),()):=e
  have hpos:ltI 0 ((ofn (wv l)).length:Int)=decide (0 < wv l):=by
   have:=AbS (v:=wv l)
   unfold ltI
   apply decide_eq_decide.2
   omega
  unfold Ow
  cases s
  ·simp (disch:=omega) only [bs,↓iP,↓iN,e']
   unfold toW
   have:(wv l:Int).natAbs=wv l:=by omega
   rw [this,show decide ((wv l:Int) < 0)=false by simp]
  ·simp only [bS,Az,cT,e',hpos]
   simp (disch:=omega) only [bs,↓iP,↓iN]
   unfold toW
   have:(-(wv l:Int)).natAbs=wv l:=by omega
   rw [this]
   congr 3
   apply decide_eq_decide.2
   omega
 ·have h4:¬ (ofn (wv l)).length≤4:=fun hh=>c ((AdP l).1 hh)
  simp (disch:=omega) only [bs,↓iP,↓iN,Hc]
theorem Ix(F:Nat)(hF:A9 F){w:W}(h:WOk w):Hy F w=some (decide (Vl w),()):=by
 unfold Hy Vl
 rw [Dr F hF h]
 obtain ⟨s,l,u⟩:=w
 cases s
 ·rfl
 ·have:=AbS (v:=wv l)
  simp only [bS,Az,Bool.not_true,cF,Option.some.injEq,Prod.mk.injEq,and_true,ltI,true_and]
  apply decide_eq_decide.2
  omega
theorem Ef(F:Nat)(hF:A9 F){w:W}(h:WOk w):Gx F w=some (toW (wi w),()):=by
 unfold Gx
 rw [Ix F hF h]
 by_cases hv:Vl w
 ·simp (disch:=omega) only [bs,↓iP,↓iN,hv,decide_true,AdO h hv]
 ·have:wi w=0:=by
   unfold Vl at hv
   unfold wi
   simp only [Classical.not_not] at hv
   rw [hv.1,hv.2]; rfl
  rw [this,Hc]
  simp (disch:=omega) only [bs,↓iP,↓iN,hv,decide_false]
theorem Cg(F:Nat)(hF:A9 F){w:W}(h:WOk w):Df F w=some (if wi w=0 then 0 else if wi w < 0 then -1 else 1,()):=by
 unfold Df
 rw [Dr F hF h]
 have h0:=AbS (v:=wv w.2.1)
 obtain ⟨s,l,u⟩:=w
 unfold wi
 simp only at h0 ⊢
 by_cases c:wv l=0
 ·simp (disch:=omega) only [bs,↓iP,↓iN]
 ·cases s
  ·simp (disch:=omega) only [bs,↓iP,↓iN]
  ·simp (disch:=omega) only [bs,↓iP,↓iN]
theorem Js(F:Nat)(hF:A9 F){w:W}(h:WOk w):Lm F w=some (toW (-(wi w)),()):=by
 unfold Lm
 have hlt:=h.lt
 have hl:=Bl (v:=wv w.2.1) (n:=4) hlt
 rw [Dr F hF h]
 simp only [bS]
 rw [H8 F hF (!w.1) (Fx (wv w.2.1)) (by omega),Dx]
 have e:(if(!w.1)=true then -(wv w.2.1:Int) else(wv w.2.1:Int))=-(wi w):=by
  unfold wi; cases w.1 <;> simp
 rw [e]
 unfold Acw
 rw [iP (by rw [Int.natAbs_neg,Of]; exact hlt)]
 rfl
theorem Pc:18446744073709551616≤A1:=by
 show 18446744073709551616≤18446744073709551616 ^ 4
 exact Nat.le_self_pow (by omega) _
theorem Aar{v:Nat}(h:v < 18446744073709551616)(s:Bool)(hs:s=true→0 < v):toW (if s then -(v:Int) else v)=(s,[(v:Int),0,0,0],()):=by
 refine(AdO (w:=(s,[(v:Int),0,0,0],())) ?_ ?_).symm.trans ?_ |>.symm
 ·refine ⟨fun x hx=>?_,rfl⟩
  simp only [List.mem_cons,List.not_mem_nil,or_false] at hx
  rcases hx with h | h | h | h <;> omega
 ·rintro ⟨h1,h2⟩
  simp only [wv] at h1 h2
  have:=hs h1
  omega
 ·unfold wi
  simp only [wv]
  congr 1
theorem Fa(F:Nat){x:Int}(h:I64 x):Gf F x=some (toW x,()):=by
 unfold I64 at h
 unfold Gf
 have hw:IntKind.u64.wrap x=if 0≤x then x else x+18446744073709551616:=by rw [Bu]; split <;> omega
 by_cases c:x < 0
 ·have hs:Bj .u64 0 (IntKind.u64.wrap x)=((-x).toNat:Int):=by
   show IntKind.u64.wrap (0 - IntKind.u64.wrap x)=_
   rw [hw,Bu]
   split <;> omega
  have:=Aar (v:=(-x).toNat) (by omega) true (by intro; omega)
  simp (disch:=omega) only [bs,↓iP,↓iN,hs]
  rw [← this]
  simp only [if_true]
  rw [show -(((-x).toNat:Nat):Int)=x by omega]
 ·have:=Aar (v:=x.toNat) (by omega) false (by simp)
  have hw':IntKind.u64.wrap x=(x.toNat:Int):=by rw [hw]; split <;> omega
  simp (disch:=omega) only [bs,↓iP,↓iN,hw']
  rw [← this]
  simp only [Bool.false_eq_true,if_false]
  rw [show((x.toNat:Nat):Int)=x by omega]
theorem K3(F:Nat){x:Int}(h:0≤x∧x≤18446744073709551615):Ey F x=some (toW x,()):=by
 unfold Ey
 have:=Aar (v:=x.toNat) (by omega) false (by simp)
 simp only [Bool.false_eq_true,if_false] at this
 rw [show((x.toNat:Nat):Int)=x by omega] at this
 rw [this]
theorem Atq{z:Int}(h:0≤z∧z < 18446744073709551616):An 0 (toW z).2.1 0=z:=by
 have:=Aar (v:=z.toNat) (by omega) false (by simp)
 simp only [Bool.false_eq_true,if_false] at this
 rw [show((z.toNat:Nat):Int)=z by omega] at this
 rw [this]; rfl
theorem Nn(F:Nat)(hF:A9 F){w:W}(h:WOk w):Fh F w=some (if 0≤wi w∧wi w < 18446744073709551616 then wi w else 0,decide (0≤wi w∧wi w < 18446744073709551616),()):=by
 unfold Fh
 rw [Ef F hF h]
 have hok:=C6 h.abs
 simp (disch:=omega) only [bs,↓iP,↓iN,Dr F hF hok]
 rw [show(toW (wi w)).1=decide (wi w < 0) from rfl,show wv (toW (wi w)).2.1=(wi w).natAbs from C2 _]
 have hlen:=C4 (v:=(wi w).natAbs) (n:=1)
 rw [Nat.pow_one] at hlen
 by_cases c:wi w < 0
 ·simp only [c,decide_true,if_true]
  rw [iN (by omega),decide_eq_false (by omega)]
 ·simp only [c,decide_false,Bool.false_eq_true,if_false]
  by_cases c2:wi w < 18446744073709551616
  ·rw [iN (by omega),iP (by omega),decide_eq_true (by omega),Atq (by omega)]
  ·rw [iP (by omega),iN (by omega),decide_eq_false (by omega)]
theorem Ao5(s:Bool)(v:Nat):(if s then -(v:Int) else(v:Int)).natAbs=v:=by split <;> omega
theorem Og(F:Nat)(hF:A9 F){x y:W}(hx:WOk x)(hy:WOk y):Fc F x y=some ((Acw (wi x*wi y)).1,(Acw (wi x*wi y)).2,()):=by
 unfold Fc
 have hxo:=C6 hx.abs
 have hyo:=C6 hy.abs
 rw [Ef F hF hx,Ef F hF hy]
 have l1:=Bl (v:=(wi x).natAbs) (n:=4) hx.abs
 have l2:=Bl (v:=(wi y).natAbs) (n:=4) hy.abs
 have v1:wv (toW (wi x)).2.1=(wi x).natAbs:=C2 _
 have v2:wv (toW (wi y)).2.1=(wi y).natAbs:=C2 _
 simp (disch:=omega) only [bs,↓iP,↓iN,Dr F hF hxo,Dr F hF hyo,v1,v2]
 rw [A7V F hF (Fx _) (Fx _) (by omega) (by omega),Dx,Dx]
 have l3:=Bl (v:=(wi x).natAbs*(wi y).natAbs) (n:=8) (by
  have:=Nat.mul_lt_mul'' hx.abs hy.abs
  exact Nat.lt_of_lt_of_eq this (by rw [A1,← Nat.pow_add]))
 simp (disch:=omega) only [bs,↓iP,↓iN]
 rw [H8 F hF _ (Fx _) (by omega),Dx]
 have e:(if(!eqT Ty.bool (toW (wi x)).1 (toW (wi y)).1)=true then -(((wi x).natAbs*(wi y).natAbs:Nat):Int) else(((wi x).natAbs*(wi y).natAbs:Nat):Int))=wi x*wi y:=by
  rw [show(toW (wi x)).1=decide (wi x < 0) from rfl,show(toW (wi y)).1=decide (wi y < 0) from rfl]
  generalize wi x=a
  generalize wi y=b
  show(if(!(decide (a < 0) == decide (b < 0)))=true then _ else _)=_
  by_cases ha:a < 0 <;> by_cases hb:b < 0
  ·simp only [ha,hb,decide_true,beq_self_eq_true,Bool.not_true,Bool.false_eq_true,if_false]
   rw [Int.natCast_mul,show((a.natAbs:Nat):Int)=-a by omega,show((b.natAbs:Nat):Int)=-b by omega,Int.neg_mul_neg]
  ·simp [ha,hb]
   rw [show((b.natAbs:Nat):Int)=b by omega,show((a.natAbs:Nat):Int)=-a by omega,Int.neg_mul,Int.neg_neg]
  ·simp [ha,hb]
   rw [show((b.natAbs:Nat):Int)=-b by omega,show((a.natAbs:Nat):Int)=a by omega,Int.mul_neg,Int.neg_neg]
  ·simp only [ha,hb,decide_false,beq_self_eq_true,Bool.not_true,Bool.false_eq_true,if_false]
   rw [Int.natCast_mul,show((a.natAbs:Nat):Int)=a by omega,show((b.natAbs:Nat):Int)=b by omega]
 rw [e]
 simp (disch:=omega) only [bs,↓iP,↓iN]
theorem Oh(F:Nat)(hF:A9 F){x y:W}(hx:WOk x)(hy:WOk y):Hh F x y=some ((Acw (wi x+wi y)).1,(Acw (wi x+wi y)).2,()):=by
 unfold Hh
 have hxo:=C6 hx.abs
 have hyo:=C6 hy.abs
 rw [Ef F hF hx,Ef F hF hy]
 have ax:=hx.abs
 have ay:=hy.abs
 have l1:=Bl (v:=(wi x).natAbs) (n:=4) hx.abs
 have l2:=Bl (v:=(wi y).natAbs) (n:=4) hy.abs
 have v1:wv (toW (wi x)).2.1=(wi x).natAbs:=C2 _
 have v2:wv (toW (wi y)).2.1=(wi y).natAbs:=C2 _
 simp only [bS,Dr F hF hxo,Dr F hF hyo,v1,v2]
 rw [show(toW (wi x)).1=decide (wi x < 0) from rfl,show(toW (wi y)).1=decide (wi y < 0) from rfl]
 generalize wi x=a at *
 generalize wi y=b at *
 rw [Azg F hF (Fx _) (Fx _) (by omega) (by omega),Dx,Dx,Yn F hF (by omega) (by omega)]
 have l3:=Bl (v:=a.natAbs+b.natAbs) (n:=5) (by
  have:A1+A1≤18446744073709551616 ^ 5:=by decide
  omega)
 have fin:∀ (s:Bool) (v:Nat),v < A1+A1→(if s then -(v:Int) else(v:Int))=a+b→((Fp F s (ofn v)).bind fun r7=>some (r7.1,r7.2.1,()))=some ((Acw (a+b)).1,(Acw (a+b)).2,()):=by
  intro s v hv he
  have lv:=Bl (v:=v) (n:=5) (by
   have:A1+A1≤18446744073709551616 ^ 5:=by decide
   omega)
  rw [H8 F hF s (Fx v) (by omega),Dx,he]
  rfl
 have hlenle:∀ m n:Nat,m≤n→(ofn m).length≤(ofn n).length:=fun m n hmn =>
  C4.2 (Nat.lt_of_le_of_lt hmn (C4.1 (Nat.le_refl _)))
 by_cases hs:decide (a < 0)=decide (b < 0)
 ·have:eqT Ty.bool (decide (a < 0)) (decide (b < 0))=true:=by rw [hs]; show(decide (b < 0) == decide (b < 0))=true; simp
  rw [this,cT]
  simp only [bS]
  refine fin _ _ (by omega) ?_
  have hs:=decide_eq_decide.1 hs
  by_cases ha:a < 0
  ·simp only [ha,decide_true,if_true]; omega
  ·simp only [ha,decide_false,Bool.false_eq_true,if_false]; omega
 ·have:eqT Ty.bool (decide (a < 0)) (decide (b < 0))=false:=by show(decide (a < 0) == decide (b < 0))=false; simpa using hs
  rw [this,cF]
  simp only [bS]
  have hs:¬ (a < 0↔b < 0):=fun h=>hs (decide_eq_decide.2 h)
  unfold AnY
  by_cases hc:b.natAbs≤a.natAbs
  ·have:leI 0 (if a.natAbs < b.natAbs then(-1:Int) else if b.natAbs < a.natAbs then 1 else 0)=true:=by
    rw [Bw]; split
    ·omega
    ·split <;> omega
   rw [this,cT,Ao0 F hF (Fx _) (Fx _) (hlenle _ _ hc) (by omega) (by rw [Dx,Dx]; exact hc),Dx,Dx]
   simp only [bS]
   refine fin _ _ (by omega) ?_
   by_cases ha:a < 0
   ·simp only [ha,decide_true,if_true]; omega
   ·simp only [ha,decide_false,Bool.false_eq_true,if_false]; omega
  ·have:leI 0 (if a.natAbs < b.natAbs then(-1:Int) else if b.natAbs < a.natAbs then 1 else 0)=false:=by
    rw [← Bool.not_eq_true,Bw,iP (by omega)]; omega
   rw [this,cF,Ao0 F hF (Fx _) (Fx _) (hlenle _ _ (by omega)) (by omega) (by rw [Dx,Dx]; omega),Dx,Dx]
   simp only [bS]
   refine fin _ _ (by omega) ?_
   by_cases hb:b < 0
   ·simp only [hb,decide_true,if_true]; omega
   ·simp only [hb,decide_false,Bool.false_eq_true,if_false]; omega
theorem Ks(F:Nat)(hF:A9 F){x y:W}(hx:WOk x)(hy:WOk y):Gg F x y=some (if wi x < wi y then -1 else if wi y < wi x then 1 else 0,()):=by
 unfold Gg
 have l1:=Bl (v:=wv x.2.1) (n:=4) hx.lt
 have l2:=Bl (v:=wv y.2.1) (n:=4) hy.lt
 rw [Cg F hF hx,Cg F hF hy,Dr F hF hx,Dr F hF hy]
 simp only [bS]
 rw [Yn F hF (by omega) (by omega)]
 rw [← Of x,← Of y]
 generalize wi x=a
 generalize wi y=b
 have sg:∀ z:Int,(z=0∧(if z=0 then(0:Int) else if z < 0 then -1 else 1)=0)∨(z < 0∧(if z=0 then(0:Int) else if z < 0 then -1 else 1)=-1)∨(0 < z∧(if z=0 then(0:Int) else if z < 0 then -1 else 1)=1):=by
  intro z
  split
  ·omega
  ·split <;> omega
 have m1:∀ c:Int,(-1≤c∧c≤1)→I6 .i64 (-1) c=-c:=fun c hc=>by rw [Uu (by omega)]; omega
 have m2:∀ c:Int,(-1≤c∧c≤1)→I6 .i64 1 c=c:=fun c hc=>by rw [Uu (by omega)]; omega
 have m3:∀ c:Int,(-1≤c∧c≤1)→I6 .i64 0 c=0:=fun c hc=>by rw [Uu (by omega)]; omega
 have hc:-1≤AnY a.natAbs b.natAbs∧AnY a.natAbs b.natAbs≤1:=by unfold AnY; split <;> (try split) <;> omega
 rcases sg a with ⟨h,e⟩ | ⟨h,e⟩ | ⟨h,e⟩ <;> rcases sg b with ⟨k,f⟩ | ⟨k,f⟩ | ⟨k,f⟩ <;> rw [e,f] <;> simp (disch:=omega) only [bS,A8Q,W7,As,Aj,↓iP,↓iN,m1 _ hc,m2 _ hc,m3 _ hc,not_true_eq_false,if_false] <;>
  simp only [Option.some.injEq,Prod.mk.injEq,and_true,AnY] <;> (try split) <;> (try split) <;> (try split) <;> (try split) <;> omega
theorem Ua(F:Nat)(hF:A9 F){x y:W}(hx:WOk x)(hy:WOk y)(h1:0 < wi y)(h2:wi y < 18446744073709551616) :
  Dh F x y=some (toW (wi x / wi y),toW (wi x % wi y),true,()):=by
 unfold Dh
 have hxo:=C6 hx.abs
 have hyo:=C6 hy.abs
 have ax:=hx.abs
 have ay:=hy.abs
 have htop:=Pc
 rw [Ef F hF hx,Ef F hF hy]
 simp only [bS]
 rw [Cg F hF hyo,B0]
 rw [iN (by omega),iN (by omega)]
 have v1:wv (toW (wi x)).2.1=(wi x).natAbs:=C2 _
 have v2:wv (toW (wi y)).2.1=(wi y).natAbs:=C2 _
 have l1:=Bl (v:=(wi x).natAbs) (n:=4) hx.abs
 have oy:ofn (wi y).natAbs=[wi y]:=by
  rw [Wk (by omega),show(wi y).natAbs / 18446744073709551616=0 by omega,Kr]
  congr 1
  omega
 unfold Jf Jg
 simp only [bS,Dr F hF hxo,Dr F hF hyo,v1,v2,oy]
 rw [show(toW (wi x)).1=decide (wi x < 0) from rfl,show(toW (wi y)).1=decide (wi y < 0) from rfl]
 rw [AdL F hF (Fx _) (by omega) (by omega),Dx]
 generalize wi x=a at *
 generalize hb:wi y=b at *
 have e0:eqI (1:Int) 0=false:=by rw [← Bool.not_eq_true,As]; omega
 simp only [e0,cF,bS]
 have hbn:decide (b < 0)=false:=by simp; omega
 rw [hbn]
 have hq1:a.natAbs / b.toNat≤a.natAbs:=Nat.div_le_self _ _
 have hr1:a.natAbs % b.toNat < b.toNat:=Nat.mod_lt _ (by omega)
 have hdm:=Nat.div_add_mod a.natAbs b.toNat
 have lq:=Bl (v:=a.natAbs / b.toNat) (n:=4) (by show _ < A1; omega)
 have lr:=Bl (v:=a.natAbs % b.toNat) (n:=4) (by show _ < A1; omega)
 have hcast:((a.natAbs / b.toNat:Nat):Int)=(a.natAbs:Int) / b:=by rw [Int.natCast_ediv,Int.toNat_of_nonneg (by omega)]
 have hcastm:((a.natAbs % b.toNat:Nat):Int)=(a.natAbs:Int) % b:=by rw [Int.natCast_emod,Int.toNat_of_nonneg (by omega)]
 have fin:∀ (s:Bool) (q r:Nat),q < A1→r < A1→(if s then -(q:Int) else(q:Int))=a / b→(r:Int)=a % b →
   ((Fp F s (ofn q)).bind fun r20=>bif !r20.2.1 then some ((false,[0,0,0,0],()),(false,[0,0,0,0],()),false,()) else(Fp F false (ofn r)).bind fun r22=>some (r20.1,r22.1,true,()))
    = some (toW (a / b),toW (a % b),true,()):=by
  intro s q r hq hr e1 e2
  have lq:=Bl (v:=q) (n:=4) hq
  have lr:=Bl (v:=r) (n:=4) hr
  rw [H8 F hF s (Fx q) (by omega),H8 F hF false (Fx r) (by omega),Dx,Dx]
  unfold Acw
  rw [Ao5,Ao5,iP hq,iP hr,e1]
  simp only [Bool.false_eq_true,if_false,e2,bS,Bool.not_true,cF]
 generalize a.natAbs / b.toNat=q at *
 generalize a.natAbs % b.toNat=r at *
 have hsg:∀ s:Bool,(!eqT Ty.bool s false)=s:=by intro s; cases s <;> rfl
 simp only [hsg]
 by_cases ha:a < 0
 ·simp only [ha,decide_true,cT]
  have hpos:ltI 0 (Az (ofn (r)))=decide (0 < r):=by
   have:=AbS (v:=r)
   unfold ltI Az
   apply decide_eq_decide.2
   omega
  rw [hpos]
  by_cases hr:0 < r
  ·rw [decide_eq_true hr,cT,Azg F hF (Fx _) (Wd.one (by omega)) (by omega) (by simp),Dx]
   simp only [bS]
   have hb1:ofn b.natAbs=[b]:=oy
   have hsub:N8 F [b] (ofn (r))=some (ofn (b.toNat - r),()):=by
    rw [Ao0 F hF (Wd.one (by omega)) (Fx _) (by
     rw [← hb1]
     exact C4.2 (Nat.lt_of_le_of_lt (by omega) (C4.1 (Nat.le_refl _)))) (by simp) (by rw [Dx]; simp only [wv]; omega),Dx]
    simp [wv]
   rw [hsub]
   simp only [bS,show wv [1]=1 from rfl]
   have hq2:q+1≤a.natAbs:=by
    rcases Nat.eq_or_lt_of_le (show 1≤b.toNat by omega) with h | h
    ·omega
    ·have:2*(q)≤b.toNat*(q):=Nat.mul_le_mul_right _ (by omega)
     have:a.natAbs≠0:=by omega
     by_cases h0:q=0
     ·omega
     ·omega
   have key:a=-(((q:Nat):Int)+1)*b+((b.toNat - r:Nat):Int):=by
    have:((b.toNat*(q):Nat):Int)=((q:Nat):Int)*b:=by
     rw [Int.natCast_mul,Int.toNat_of_nonneg (by omega),Int.mul_comm]
    rw [Int.neg_mul,Int.add_mul,Int.one_mul]
    omega
   refine fin true _ _ (by omega) (by omega) ?_ ?_
   ·simp only [if_true]
    symm
    rw [key,Int.add_comm,Int.add_mul_ediv_right _ _ (by omega),Int.ediv_eq_zero_of_lt (by omega) (by omega)]
    omega
   ·symm
    rw [key,Int.add_comm,Int.add_mul_emod_self_right,Int.emod_eq_of_lt (by omega) (by omega)]
  ·rw [decide_eq_false hr,cF]
   have key:a=-(((q:Nat):Int))*b:=by
    have:((b.toNat*(q):Nat):Int)=((q:Nat):Int)*b:=by
     rw [Int.natCast_mul,Int.toNat_of_nonneg (by omega),Int.mul_comm]
    rw [Int.neg_mul]
    omega
   refine fin true _ _ (by omega) (by omega) ?_ ?_
   ·simp only [if_true]
    conv=>rhs; rw [key]
    rw [Int.mul_ediv_cancel _ (by omega)]
   ·conv=>rhs; rw [key]
    rw [Int.mul_emod_left]
    omega
 ·simp only [ha,decide_false,cF]
  have ea:(a.natAbs:Int)=a:=by omega
  rw [ea] at hcast hcastm
  exact fin false _ _ (by omega) (by omega) (by simp only [Bool.false_eq_true,if_false]; exact hcast) hcastm
def uw(z:Int):Nat:=2*z.natAbs+(if z < 0 then 1 else 0)
def wu(u:Nat):Int:=if u % 2=1 then -((u / 2:Nat):Int) else((u / 2:Nat):Int)
theorem Bd8{u:Nat}(h:u≠1):uw (wu u)=u:=by
 unfold uw wu; split <;> split <;> omega
theorem Bd9{z:Int}(h:z.natAbs < A1):uw z < 2*A1:=by
 unfold uw; split <;> omega
theorem A7W{u:Nat}(h:u < 2*A1):(wu u).natAbs < A1:=by
 unfold wu; split <;> omega
theorem Agb:∀ (m:Nat) {v:Nat},v < 128 ^ m→1≤m→(enc v).length≤m:=by
 intro m
 induction m with
 | zero=>intro v _ h; omega
 | succ m ih =>
  intro v hv _
  by_cases h:v < 128
  ·rw [Gp h]; simp
  ·rw [Qu h,List.length_cons]
   cases m with
   | zero=>simp at hv; omega
   | succ m =>
    have:=ih (v:=v / 128) (by rw [Nat.pow_succ] at hv; exact Nat.div_lt_of_lt_mul (by rw [Nat.mul_comm]; exact hv)) (by omega)
    omega
theorem AdQ:2*A1≤128 ^ 37:=by decide
theorem Yo{z:Int}(h:z.natAbs < A1):(enc (uw z)).length≤37:=Agb 37 (by have:=Bd9 h; have:=AdQ; omega) (by omega)
theorem Ub:∀ (n:Nat) (a b:List Int),eqT (.arr n (.int .u64)) a b=decide (a=b):=by
 intro n a b
 show eqL (fun x y=>decide ((x:Int)=y)) a b=_
 induction a generalizing b with
 | nil=>cases b <;> simp [eqL]
 | cons x t ih =>
  cases b with
  | nil=>simp [eqL]
  | cons y b=>simp [eqL,ih]
theorem O7(F:Nat){w:W}(h:WOk w):J4 F w=some (decide (Vl w),()):=by
 unfold J4 Vl
 obtain ⟨s,l,u⟩:=w
 have h1:=h.1
 have h2:=h.2
 simp only at h1 h2
 cases s
 ·rfl
 ·simp only [Bool.not_true,cF,Option.some.injEq,Prod.mk.injEq,and_true,true_and]
  rw [Ub]
  have:l=[0,0,0,0]↔wv l=0:=by
   constructor
   ·intro e; rw [e]; rfl
   ·intro e; exact AdN h1 (fun x hx=>by simp at hx; omega) (by simp [h2]) (by rw [e]; rfl)
  simp [this]
theorem AdS{l:List Int}(h:l.length=5):∃ a b c d e,l=[a,b,c,d,e]:=by
 match l,h with
 | [a,b,c,d,e],_=>exact ⟨a,b,c,d,e,rfl⟩
theorem Axf{l:List Int}(h:Wd l)(hl:0 < l.length):(wv l % 128:Nat)=An 0 l 0 % 128:=by
 cases l with
 | nil=>simp at hl
 | cons x t =>
  have:=Wd.head h
  show((wv (x::t) % 128:Nat):Int)=x % 128
  simp only [wv]; omega
def Acx(h:Int):List Int→List Int
 | []=>[]
 | x::t=>(x*128 % 18446744073709551616+h)::Acx (x / 144115188075855872) t
theorem Zj:∀ (l:List Int) (h:Int),(Acx h l).length=l.length
 | [],h=>rfl
 | x::t,h=>by simp [Acx,Zj t]
theorem Ao6:∀ {l:List Int} {h:Int},Wd l→0≤h∧h≤127→Wd (Acx h l)
 | [],h,_,hh=>Wd.nil
 | x::t,h,hw,hh=>by
  have:=Wd.head hw
  exact Wd.cons (by omega) (Ao6 (Wd.tail hw) (by omega))
theorem Ao7:∀ {l:List Int} {h:Int},Wd l→0≤h∧h≤127→wv (Acx h l)=(128*wv l+h.toNat) % 18446744073709551616 ^ l.length
 | [],h,_,hh=>by simp [Acx,wv,Nat.mod_one]
 | x::t,h,hw,hh=>by
  have h1:=Wd.head hw
  have e:=Ao7 (l:=t) (h:=x / 144115188075855872) (Wd.tail hw) (by omega)
  simp only [Acx,wv,e,List.length_cons]
  rw [Nat.pow_succ,Nat.mul_comm (18446744073709551616 ^ t.length),Nat.mod_mul]
  have e1:(128*(x.toNat+18446744073709551616*wv t)+h.toNat) / 18446744073709551616=128*wv t+(x / 144115188075855872).toNat:=by omega
  rw [e1]
  congr 1
  omega
theorem Uc{x h:Int}(hx:0≤x∧x≤18446744073709551615)(hh:0≤h∧h≤127):orI .u64 (Hv .u64 x 7) h=x*128 % 18446744073709551616+h:=by
 rw [Kn hx.1 (by omega),show min (7:Int).toNat 64=7 from rfl]
 have e:x.toNat*2 ^ 7 % 2 ^ 64=2 ^ 7*(x % 144115188075855872).toNat:=by omega
 rw [e,Pp (by omega) (by omega),Int.toNat_natCast,← Nat.two_pow_add_eq_or_of_lt (by omega)]
 omega
theorem Axg{x:Int}(hx:0≤x):Fg .u64 x 57=x / 144115188075855872:=by
 rw [I1 hx]
 simp only [IntKind.bits]
 rw [show min (57:Int).toNat 64=57 from rfl]
 omega
theorem AiU(F:Nat){x9:List Int}(hw:Wd x9)(hl:x9.length=5) :
  ∃ y:List Int,(∀ (R:Type) (k:Int→W→List Int→List Int→Int→Option R) (x1:Int) (x4:W) (x7:List Int) (i:Int) (N:Nat),I3 F k (N+5) x1 x4 x7 x9 i 4=k x1 x4 x7 y i)∧∀ h:Int,0≤h∧h≤127→Cd y 0 (orI .u64 (Hv .u64 (An 0 y 0) 7) h)=Acx h x9:=by
 obtain ⟨a,b,c,d,e,rfl⟩:=AdS hl
 have ha:=hw a (by simp)
 have hb:=hw b (by simp)
 have hc:=hw c (by simp)
 have hd:=hw d (by simp)
 have he:=hw e (by simp)
 refine ⟨[a,orI .u64 (Hv .u64 b 7) (Fg .u64 a 57),orI .u64 (Hv .u64 c 7) (Fg .u64 b 57),orI .u64 (Hv .u64 d 7) (Fg .u64 c 57),orI .u64 (Hv .u64 e 7) (Fg .u64 d 57)],fun R k x1 x4 x7 i N=>by kernel_rfl,?_⟩
 intro h hh
 rw [Axg ha.1,Axg hb.1,Axg hc.1,Axg hd.1,Uc hb (by omega),Uc hc (by omega),Uc hd (by omega),Uc he (by omega)]
 simp only [An,Cd,Int.toNat_zero,List.getD_cons_zero,List.set_cons_zero,Acx]
 rw [Uc ha hh]
theorem AdT(c:List Int)(m:Nat):dv (c.drop m)≤dv c:=by
 have:=Xh (c.take m) (c.drop m)
 rw [List.take_append_drop] at this
 have h3:dv (c.drop m)≤128 ^ (c.take m).length*dv (c.drop m):=Nat.le_mul_of_pos_left _ (Nat.pow_pos (by omega))
 omega
theorem Agc(F:Nat)(hF:A9 F){x1:Int}{x4:W}{c:List Int}(hb:Bt c)(hl:c.length≤37) :
  ∀ (m:Nat) (x9:List Int),m≤c.length→Wd x9→x9.length=5→wv x9=dv (c.drop m)→∀ N,m < N →
   ∃ y:List Int,Wd y∧y.length=5∧wv y=dv c∧∀ (R:Type) (k:Int→W→List Int→List Int→Option R),Eu F k N x1 x4 c x9 ((m:Int) - 1)=k x1 x4 c y:=by
 have hdc:dv c < 18446744073709551616 ^ 5:=by
  have:=A3h c
  have h2:=Nat.pow_le_pow_right (n:=128) (by omega) hl
  have:(128:Nat) ^ 37≤18446744073709551616 ^ 5:=by decide
  omega
 intro m
 induction m with
 | zero =>
  intro x9 hm h1 h2 h3 N hN
  obtain ⟨N,rfl⟩:∃ M,N=M+1:=⟨N - 1,by omega⟩
  refine ⟨x9,h1,h2,by simpa using h3,fun R k=>?_⟩
  unfold Eu
  simp (disch:=omega) only [bs,↓iP,↓iN]
 | succ m ih =>
  intro x9 hm h1 h2 h3 N hN
  obtain ⟨N,rfl⟩:∃ M,N=M+1:=⟨N - 1,by omega⟩
  have hsplit:=Qn (l:=c) (i:=m) (by omega)
  have hg:=Jv (P:=fun x=>0≤x∧x≤255) hb (by omega) (d:=0) m
  have e1:dv (c.drop m)=(c.getD m 0 % 128).toNat+128*dv (c.drop (m+1)):=by rw [hsplit]; rfl
  have e2:=AdT c m
  have hgl:An 0 c ((m:Int)+1 - 1)=c.getD m 0:=by rw [show(m:Int)+1 - 1=(m:Int) by omega,Da]
  have hw7:=Ao7 (l:=x9) (h:=c.getD m 0 % 128) h1 (by omega)
  rw [h2,Nat.mod_eq_of_lt (by rw [h3]; omega)] at hw7
  obtain ⟨y,f1,f2,f3,f4⟩:=ih (Acx (c.getD m 0 % 128) x9) (by omega) (Ao6 h1 (by omega)) (by rw [Zj,h2]) (by rw [hw7,h3,e1]; omega) N (by omega)
  refine ⟨y,f1,f2,f3,fun R k=>?_⟩
  obtain ⟨G,hG⟩:∃ G,F=G+5:=⟨F - 5,by unfold A9 at hF; omega⟩
  unfold Eu
  have hcast:((m+1:Nat):Int)=(m:Int)+1:=by omega
  rw [hcast]
  obtain ⟨z,g1,g2⟩:=AiU F h1 h2
  have hle:leI 0 ((m:Int)+1 - 1)=true:=by rw [Bw]; omega
  rw [hle,cT]
  have g1':=fun (k:Int→W→List Int→List Int→Int→Option R)=>g1 R k x1 x4 c ((m:Int)+1 - 1) G
  rw [← hG] at g1'
  rw [g1']
  simp (disch:=omega) only [bs,↓iP,↓iN,hgl,Bi,g2]
  rw [show(m:Int)+1 - 1 - 1=(m:Int) - 1 by omega]
  exact f4 R k
def Atr:List Int→List Int
 | []=>[]
 | [x]=>[x / 2]
 | x::y::t=>(x / 2+y % 2*9223372036854775808)::Atr (y::t)
theorem Ao8:∀ {l:List Int},Wd l→wv (Atr l)=wv l / 2
 | [],_=>rfl
 | [x],h=>by have:=Wd.head h; simp only [Atr,wv]; omega
 | x::y::t,h=>by
  have h1:=Wd.head h
  have h2:=Wd.head (Wd.tail h)
  have e:=Ao8 (Wd.tail h)
  simp only [Atr,wv] at e ⊢
  omega
theorem Agd(F:Nat){x9:List Int}(hw:Wd x9)(hl:x9.length=5) :
  ∃ (ws:List Int) (e:Int),Wd ws∧ws.length=4∧0≤e∧An 0 x9 4=e∧(e≤1↔wv x9 < 2*A1)∧(e≤1→wv ws=wv x9 / 2) ∧
   ∀ (R:Type) (k:Int→W→List Int→List Int→W→Option R) (x1:Int) (x4:W) (x7:List Int) (s:Bool) (N:Nat),H5 F k (N+5) x1 x4 x7 x9 (s,[0,0,0,0],()) 0=k x1 x4 x7 x9 (s,ws,()):=by
 obtain ⟨a,b,c,d,e,rfl⟩:=AdS hl
 have ha:=hw a (by simp)
 have hb:=hw b (by simp)
 have hc:=hw c (by simp)
 have hd:=hw d (by simp)
 have he:=hw e (by simp)
 refine ⟨[orI .u64 (Fg .u64 a 1) (Hv .u64 b 63),orI .u64 (Fg .u64 b 1) (Hv .u64 c 63),orI .u64 (Fg .u64 c 1) (Hv .u64 d 63),orI .u64 (Fg .u64 d 1) (Hv .u64 e 63)],e,?_,rfl,he.1,rfl,?_,?_,fun R k x1 x4 x7 s N=>by kernel_rfl⟩
 ·rw [Kk ha hb,Kk hb hc,Kk hc hd,Kk hd he]
  intro x hx
  simp only [List.mem_cons,List.not_mem_nil,or_false] at hx
  rcases hx with h | h | h | h <;> omega
 ·have:A1=18446744073709551616*(18446744073709551616*(18446744073709551616*18446744073709551616)):=by decide
  rw [this]
  simp only [wv]
  omega
 ·intro h1
  rw [Kk ha hb,Kk hb hc,Kk hc hd,Kk hd he,← Ao8 hw]
  have h0:e / 2=0:=by omega
  simp only [Atr,wv,h0]
  rfl
def rdw(b:List Int)(at_:Int):Int×Int×Int :=
 if(gp 37 b at_).2=0 then
  (if dv (gp 37 b at_).1 < 2*A1∧dv (gp 37 b at_).1≠1 then(wu (dv (gp 37 b at_).1),at_+(gp 37 b at_).1.length,0) else(0,0,5))
 else(0,0,(gp 37 b at_).2)
theorem Ats(b:List Int)(at_:Int):(rdw b at_).1.natAbs < A1:=by
 have h0:(0:Int).natAbs < A1:=by decide
 unfold rdw
 split
 ·split
  ·rename_i h; exact A7W h.1
  ·exact h0
 ·exact h0
theorem Qo(F:Nat)(hF:A9 F){b:List Int}(hb:Bt b)(hl:(b.length:Int)≤140737488355328)(at_:Int) :
  L2 F b at_=some (toW (rdw b at_).1,(rdw b at_).2.1,(rdw b at_).2.2,()):=by
 unfold L2 rdw
 rw [show(37:Int)=((37:Nat):Int) from rfl,Tg F hF hb hl at_ (n:=37) (by omega)]
 by_cases h0:(gp 37 b at_).2=0
 ·obtain ⟨ha0,ha1,c,rest,h1,h2,h3,h4,h5,h6⟩:=Axa hb h0
  rw [h1]
  have hpos:0 < c.length:=List.length_pos_iff.2 h4.ne
  obtain ⟨G,hG⟩:∃ G,F=G+5:=⟨F - 5,by unfold A9 at hF; omega⟩
  simp only [bS,if_true]
  have hc0:eqI (0:Int) 0=true:=by rw [As]
  rw [hc0,Bool.not_true,cF,show Bj .i64 (Az c) 1=(c.length:Int) - 1 by show IntKind.wrap .i64 _=_; rw [Cz (by unfold Az; omega)]; rfl]
  obtain ⟨y,f1,f2,f3,f4⟩:=Agc F hF (x1:=at_) (x4:=(false,[0,0,0,0],())) h6 h3 c.length [0,0,0,0,0] (by omega) (by intro x hx; simp at hx; omega) rfl (by simp [wv,dv]) F (by unfold A9 at hF; omega)
  rw [f4]
  obtain ⟨ws,e,g1,g2,g3,g4,g5,g6,g7⟩:=Agd F f1 f2
  have g7':=fun (R:Type) (k:Int→W→List Int→List Int→W→Option R) (x1:Int) (x4:W) (x7:List Int) (s:Bool)=>g7 R k x1 x4 x7 s G
  rw [← hG] at g7'
  rw [g7']
  rw [f3] at g5 g6
  have hpar:eqI (I9 (An 0 y 0) 2) 1=decide (dv c % 2=1):=by
   have hy:=Wd.get f1 0
   have:=Axf f1 (by omega)
   rw [f3] at this
   rw [Tw hy.1]
   unfold eqI
   apply decide_eq_decide.2
   omega
  rw [hpar]
  by_cases he:e≤1
  ·have hlt:=g5.1 he
   have hwv:=g6 he
   have hWk:WOk (decide (dv c % 2=1),ws,()):=⟨g1,g2⟩
   have hwi:wi (decide (dv c % 2=1),ws,())=wu (dv c):=by
    unfold wi wu
    simp only [decide_eq_true_eq,hwv]
   simp (disch:=omega) only [bs,↓iP,↓iN,g4,O7 F hWk]
   have hVl:Vl (decide (dv c % 2=1),ws,())↔dv c≠1:=by
    unfold Vl
    simp only [decide_eq_true_eq,hwv]
    omega
   by_cases h1:dv c=1
   ·have:¬ Vl (decide (dv c % 2=1),ws,()):=fun h=>hVl.1 h h1
    rw [decide_eq_false this,iN (show ¬ (dv c < 2*A1∧dv c≠1) from fun h=>h.2 h1)]
    simp (disch:=omega) only [bs,↓iP,↓iN,Hc]
   ·have hv:Vl (decide (dv c % 2=1),ws,()):=hVl.2 h1
    rw [decide_eq_true hv,iP (show dv c < 2*A1∧dv c≠1 from ⟨hlt,h1⟩),← hwi,AdO hWk hv]
    simp (disch:=omega) only [bs,↓iP,↓iN]
  ·have hge:¬ dv c < 2*A1:=fun h=>he (g5.2 h)
   simp (disch:=omega) only [bs,↓iP,↓iN,g4]
   rw [Hc]
 ·simp (disch:=omega) only [bs,↓iP,↓iN,Hc]
theorem Xl(F:Nat)(hF:A9 F){R:Type}(k:List Int→Int→Option R){K:List Int→Option R}(hk:∀ (y:Int) (out:List Int),0≤y∧y < 128→out.length≤140737488355320→k out y=K (out++[y])) :
  ∀ (m q:Nat) (out:List Int) (y:Int) (w8:W),q < 128 ^ m→q < A1→0≤y∧y < 128→(out.length:Int)+m≤140737488355320→∀ N,m < N →
   D5 F k N out (toW (q:Int)) w8 y=K (out++enc (y.toNat+128*q)):=by
 intro m
 induction m with
 | zero =>
  intro q out y w8 hq ht hy hl N hN
  obtain ⟨N,rfl⟩:∃ M,N=M+1:=⟨N - 1,by omega⟩
  have:q=0:=by simpa using hq
  subst this
  unfold D5
  rw [Cg F hF (C6 (by omega)),B0]
  simp (disch:=omega) only [bs,↓iP,↓iN]
  rw [hk y out hy (by omega),Gp (by omega)]
  congr 3
  omega
 | succ m ih =>
  intro q out y w8 hq ht hy hl N hN
  obtain ⟨N,rfl⟩:∃ M,N=M+1:=⟨N - 1,by omega⟩
  unfold D5
  have hok:=C6 (z:=(q:Int)) (by omega)
  rw [Cg F hF hok,B0]
  by_cases h0:q=0
  ·subst h0
   simp (disch:=omega) only [bs,↓iP,↓iN]
   rw [hk y out hy (by omega),Gp (by omega)]
   congr 3
   omega
  ·have h128:(128:Int).natAbs < A1:=by have:=Pc; omega
   have hok2:=C6 h128
   have e1:=Ua F hF hok hok2 (by rw [B0]; omega) (by rw [B0]; omega)
   rw [B0,B0] at e1
   have hm:((q:Int) % 128).natAbs < A1:=by omega
   have e2:=Nn F hF (C6 hm)
   rw [B0,iP (by omega)] at e2
   have e3:=ih (q / 128) (out++[y+128]) ((q:Int) % 128) (toW ((q:Int) % 128)) (by rw [Nat.pow_succ] at hq; exact Nat.div_lt_of_lt_mul (by rw [Nat.mul_comm]; exact hq)) (by omega) (by omega) (by simp; omega) N (by omega)
   have hw:IntKind.u8.wrap ((q:Int) % 128)=(q:Int) % 128:=Pm (by omega)
   simp (disch:=omega) only [bs,↓iP,↓iN,Fa F (x:=128) (by unfold I64; omega),e1,e2,hw,Ak2]
   rw [show((q:Int) / 128)=((q / 128:Nat):Int) by omega]
   refine Eq.trans e3 ?_
   have hb1:(((y.toNat+128*q) % 128+128:Nat):Int)=y+128:=by omega
   rw [Qu (v:=y.toNat+128*q) (by omega),show(y.toNat+128*q) / 128=q by omega,show((q:Int) % 128).toNat+128*(q / 128)=q by omega,hb1]
   simp
theorem P4(F:Nat)(hF:A9 F){b:List Int}(hb:ApK b){w:W}(h:WOk w):Ig F b w=some (b++enc (uw (wi w)),()):=by
 unfold ApK at hb
 unfold Ig
 have hpos:WOk (false,w.2):=h
 have hwp:wi (false,w.2)=((wi w).natAbs:Int):=by rw [Of]; rfl
 have habs:=h.abs
 have h64:(64:Int).natAbs < A1:=by have:=Pc; omega
 have e1:=Ua F hF hpos (C6 h64) (by rw [B0]; omega) (by rw [B0]; omega)
 rw [B0,hwp] at e1
 have hm:(((wi w).natAbs:Int) % 64).natAbs < A1:=by omega
 have e2:=Nn F hF (C6 hm)
 rw [B0,iP (by omega)] at e2
 have hlt:(wi w).natAbs / 64 < 128 ^ 37:=by
  have:=AdQ; omega
 have core:∀ y:Int,0≤y∧y < 128→Fv F (fun z21=>some (z21,())) b (toW (((wi w).natAbs:Int) / 64)) (toW (((wi w).natAbs:Int) % 64)) y=some (b++enc (y.toNat+128*((wi w).natAbs / 64)),()):=by
  intro y hy
  unfold Fv
  rw [show(((wi w).natAbs:Int) / 64)=(((wi w).natAbs / 64:Nat):Int) by omega]
  exact Xl F hF _ (K:=fun l=>some (l,())) (fun y out h1 h2=>by simp (disch:=omega) only [bs,↓iP,↓iN]) 37 _ b y _ hlt (by omega) hy (by omega) F (by unfold A9 at hF; omega)
 have huw:uw (wi w)=2*(wi w).natAbs+(if wi w < 0 then 1 else 0):=rfl
 simp (disch:=omega) only [bs,↓iP,↓iN,List.nil_append,Fa F (x:=64) (by unfold I64; omega),e1,e2,Cg F hF h,I0,Pm,Ak2]
 by_cases hn:wi w < 0
 ·rw [iP hn] at huw
  have hs:(if wi w=0 then(0:Int) else if wi w < 0 then -1 else 1) < 0:=by rw [iN (by omega),iP hn]; omega
  rw [iP hs,core _ (by omega),huw]
  congr 4
  omega
 ·rw [iN hn] at huw
  have hs:¬ (if wi w=0 then(0:Int) else if wi w < 0 then -1 else 1) < 0:=by
   rw [iN hn]
   split <;> omega
  rw [iN hs,core _ (by omega),huw]
  congr 4
  omega
theorem Th(F:Nat)(hF:A9 F){v:Nat}(hv:v < A1){n:Int}(hn:0≤n∧n≤128){y:Int}(hy:0≤y∧y≤127)(hyn:y < n) :
  L3 F (toW (v:Int)) n y=some (if v*n.toNat+y.toNat < A1 then(toW ((v*n.toNat+y.toNat:Nat):Int),true,()) else(toW 0,false,())):=by
 unfold L3
 have hok:=C6 (z:=(v:Int)) (by omega)
 have hbig:=Pc
 have hnok:=C6 (z:=n) (by omega)
 have e:((v:Int)*n)=((v*n.toNat:Nat):Int):=by rw [Int.natCast_mul,Int.toNat_of_nonneg hn.1]
 rw [Fa F (by unfold I64; omega)]
 simp only [bS]
 rw [Og F hF hok hnok,B0,B0,e]
 generalize hm:v*n.toNat=m at *
 unfold Acw
 rw [Int.natAbs_natCast]
 by_cases c:m < A1
 ·rw [iP c]
  have hmok:=C6 (z:=(m:Int)) (by omega)
  have hyok:=C6 (z:=y) (by omega)
  simp only [bS,Bool.not_true,cF,K3 F (x:=y) (by omega),Oh F hF hmok hyok,B0]
  have e2:(m:Int)+y=((m+y.toNat:Nat):Int):=by omega
  rw [e2]
  unfold Acw
  rw [Int.natAbs_natCast]
  by_cases c2:m+y.toNat < A1
  ·simp only [iP c2]
  ·simp only [iN c2]
 ·rw [iN c,iN (by omega)]
  simp only [bS,Bool.not_false,cT,Hc]
theorem Zy(F:Nat)(hF:A9 F){x1:Int}{x4:W}{c:List Int}(hb:Bt c)(hl:c.length≤37) :
  ∀ (m:Nat),m+1≤c.length→∀ (x10:W) (ok:Bool),(if dv (c.drop (m+1)) < A1 then x10=toW (dv (c.drop (m+1)):Int)∧ok=true else ok=false)→∀ N,m+1 < N →
   ∃ (y:W) (ok':Bool),(if dv (c.drop 1) < A1 then y=toW (dv (c.drop 1):Int)∧ok'=true else ok'=false) ∧
    ∀ (R:Type) (k:Int→W→List Int→W→Bool→Option R),C5 F k N x1 x4 c x10 ok (m:Int)=k x1 x4 c y ok':=by
 intro m
 induction m with
 | zero =>
  intro hm x10 ok hx N hN
  obtain ⟨N,rfl⟩:∃ M,N=M+1:=⟨N - 1,by omega⟩
  refine ⟨x10,ok,hx,fun R k=>?_⟩
  unfold C5
  simp (disch:=omega) only [bs,↓iP,↓iN]
 | succ m ih =>
  intro hm x10 ok hx N hN
  obtain ⟨N,rfl⟩:∃ M,N=M+1:=⟨N - 1,by omega⟩
  have hsplit:=Qn (l:=c) (i:=m+1) (by omega)
  have hg:=Jv (P:=fun x=>0≤x∧x≤255) hb (by omega) (d:=0) (m+1)
  have e1:dv (c.drop (m+1))=(c.getD (m+1) 0 % 128).toNat+128*dv (c.drop (m+1+1)):=by rw [hsplit]; rfl
  have hgl:An 0 c ((m:Int)+1)=c.getD (m+1) 0:=by rw [show(m:Int)+1=((m+1:Nat):Int) by omega,Da]
  have hcast:((m+1:Nat):Int)=(m:Int)+1:=by omega
  have mono:dv (c.drop (m+1))≤dv (c.drop 1):=by
   have:=AdT (c.drop 1) m
   rw [List.drop_drop,Nat.add_comm] at this
   exact this
  by_cases c1:dv (c.drop (m+1+1)) < A1
  ·rw [iP c1] at hx
   obtain ⟨hx1,hx2⟩:=hx
   subst hx1 hx2
   have es:=Th F hF c1 (n:=128) (by omega) (y:=c.getD (m+1) 0 % 128) (by omega) (by omega)
   have e3:dv (c.drop (m+1+1))*(128:Int).toNat+(c.getD (m+1) 0 % 128).toNat=dv (c.drop (m+1)):=by rw [e1,show(128:Int).toNat=128 from rfl]; omega
   rw [e3] at es
   by_cases c2:dv (c.drop (m+1)) < A1
   ·rw [iP c2] at es
    obtain ⟨y,ok',g1,g2⟩:=ih (by omega) (toW (dv (c.drop (m+1)):Int)) true (by rw [iP c2]; exact ⟨rfl,rfl⟩) N (by omega)
    refine ⟨y,ok',g1,fun R k=>?_⟩
    rw [hcast]
    unfold C5
    simp (disch:=omega) only [bs,↓iP,↓iN,hgl,Bi,es]
    rw [show(m:Int)+1 - 1=(m:Int) by omega]
    exact g2 R k
   ·rw [iN c2] at es
    obtain ⟨y,ok',g1,g2⟩:=ih (by omega) (toW 0) false (by rw [iN c2]) N (by omega)
    refine ⟨y,ok',g1,fun R k=>?_⟩
    rw [hcast]
    unfold C5
    simp (disch:=omega) only [bs,↓iP,↓iN,hgl,Bi,es]
    rw [show(m:Int)+1 - 1=(m:Int) by omega]
    exact g2 R k
  ·rw [iN c1] at hx
   subst hx
   refine ⟨x10,false,?_,fun R k=>?_⟩
   ·rw [iN (by omega)]
   ·rw [hcast]
    unfold C5
    simp (disch:=omega) only [bs,↓iP,↓iN]
theorem Att{c:List Int}(hpos:0 < c.length):dv c=(c.getD 0 0 % 128).toNat+128*dv (c.drop 1):=by
 have hsplit:=Qn (l:=c) (i:=0) hpos
 rw [List.drop_zero,Nat.zero_add] at hsplit
 exact congrArg dv hsplit
theorem Zz(F:Nat)(hF:A9 F){c:List Int}(h6:Bt c)(h3:c.length≤37)(hpos:0 < c.length){at_:Int}(ha0:0≤at_∧at_≤140737488355328)(hne:dv c≠1) :
  Dk F (fun z45 z46 z47=>some (z45,(z46,(z47,())))) at_ (false,([0,0,0,0],())) c=some (if dv c < 2*A1 then(toW (wu (dv c)),at_+c.length,0,()) else(toW 0,0,5,())):=by
 have h3':(c.length:Int)≤37:=by omega
 have hg0:=Jv (P:=fun x=>0≤x∧x≤255) h6 (by omega) (d:=0) 0
 have hgl:An 0 c 0=c.getD 0 0:=by rw [show(0:Int)=((0:Nat):Int) from rfl,Da]
 have e1:=Att hpos
 unfold Dk
 have hz:(0:Nat) < A1:=by decide
 obtain ⟨y,ok',g1,g2⟩:=Zy F hF (x1:=at_) (x4:=(false,([0,0,0,0],()))) h6 h3 (c.length - 1) (by omega) (false,([0,0,0,0],())) true (by
  rw [show c.length - 1+1=c.length by omega,List.drop_length]
  rw [iP (show dv [] < A1 from hz)]
  exact ⟨by rw [show dv []=0 from rfl]; exact Hc.symm,rfl⟩) F (by unfold A9 at hF; omega)
 rw [show Bj .i64 (Az c) 1=((c.length - 1:Nat):Int) by show IntKind.wrap .i64 _=_; rw [Cz (by unfold Az; omega)]; unfold Az; omega,g2]
 unfold I4
 by_cases c1:dv (c.drop 1) < A1
 ·rw [iP c1] at g1
  obtain ⟨g3,g4⟩:=g1
  subst g3 g4
  have es:=Th F hF c1 (n:=64) (by omega) (y:=(c.getD 0 0 % 128) / 2) (by omega) (by omega)
  have e3:dv (c.drop 1)*(64:Int).toNat+((c.getD 0 0 % 128) / 2).toNat=dv c / 2:=by rw [e1,show(64:Int).toNat=64 from rfl]; omega
  rw [e3] at es
  have hq8:Ht .u8 (c.getD 0 0 % 128) 2=(c.getD 0 0 % 128) / 2:=by
   show IntKind.u8.wrap ((c.getD 0 0 % 128).tdiv 2)=_
   rw [Int.tdiv_eq_ediv_of_nonneg (by omega),Pm (by omega)]
  by_cases c2:dv c < 2*A1
  ·rw [iP (by omega)] at es
   have hok:=C6 (z:=((dv c / 2:Nat):Int)) (by omega)
   rw [iP c2]
   by_cases c3:dv c % 2=1
   ·simp (disch:=omega) only [bs,↓iP,↓iN,hgl,hq8,Bi,es,Js F hF hok,B0]
    unfold wu
    rw [iP c3]
   ·simp (disch:=omega) only [bs,↓iP,↓iN,hgl,hq8,Bi,es]
    unfold wu
    rw [iN c3]
  ·rw [iN (by omega)] at es
   simp (disch:=omega) only [bs,↓iP,↓iN,hgl,hq8,Bi,es,Hc]
 ·rw [iN c1] at g1
  subst g1
  simp (disch:=omega) only [bs,↓iP,↓iN,Hc]
def rdv(c:List Int)(at_:Int):Int×Int×Int:=if dv c < 2*A1∧dv c≠1 then(wu (dv c),at_+c.length,0) else(0,0,5)
theorem Yp(F:Nat)(hF:A9 F){c:List Int}(h6:Bt c)(h3:c.length≤37)(hpos:0 < c.length){at_:Int}(ha0:0≤at_∧at_≤140737488355328)(hne:dv c≠1) :
  Dk F (fun z45 z46 z47=>some (z45,(z46,(z47,())))) at_ (false,([0,0,0,0],())) c=some (toW (rdv c at_).1,(rdv c at_).2.1,(rdv c at_).2.2,()):=by
 rw [Zz F hF h6 h3 hpos ha0 hne]
 unfold rdv
 by_cases c2:dv c < 2*A1
 ·rw [iP c2,iP ⟨c2,hne⟩]
 ·rw [iN c2,iN (fun h=>c2 h.1)]
theorem A3k{c:List Int}{at_:Int}(h:dv c=1):rdv c at_=(0,0,5):=by
 unfold rdv
 rw [iN (fun h2=>h2.2 h)]
theorem AbU{c:List Int}(h4:Grp c)(h6:Bt c)(hlen:c.length=1):dv c=(lst c).toNat:=by
 have hpos:0 < c.length:=by omega
 have hlst:lst c=c.getD 0 0:=by rw [← Ta c h4.ne,hlen]
 have hlt:=h4.lst_lt
 have hr:=AbQ h6
 rw [Att hpos,List.drop_eq_nil_of_le (by omega),← hlst]
 simp only [dv]
 omega
theorem A3l{c:List Int}(h4:Grp c)(h6:Bt c)(hlen:1 < c.length)(hx0:lst c≠0):dv c≠1:=by
 have h:=Ate h4 h6
 have hr:=AbQ h6
 have:(1:Nat)*128 ^ 1≤(lst c).toNat*128 ^ (c.length - 1):=Nat.mul_le_mul (by omega) (Nat.pow_le_pow_right (by omega) (by omega))
 omega
theorem Yq(F:Nat)(hF:A9 F){b:List Int}(hb:Bt b)(hl:(b.length:Int)≤140737488355328)(at_:Int)(h0:(gr 37 b at_).2=0) :
  G7 F b at_=some (if lst (gr 37 b at_).1=0∧1 < (gr 37 b at_).1.length then(toW 0,0,5,()) else(toW (rdv (gr 37 b at_).1 at_).1,(rdv (gr 37 b at_).1 at_).2.1,(rdv (gr 37 b at_).1 at_).2.2,())):=by
 unfold G7
 rw [show(37:Int)=((37:Nat):Int) from rfl,P2 F hF hl at_ (n:=37) (by omega)]
 obtain ⟨ha0,ha1,c,rest,h1,h2,h3,h4,h6⟩:=A7U hb h0
 rw [h1]
 have hpos:0 < c.length:=List.length_pos_iff.2 h4.ne
 have hlast:An 0 c ((c.length:Int) - 1)=lst c:=by rw [show(c.length:Int) - 1=((c.length - 1:Nat):Int) by omega,Da,Ta c h4.ne]
 have h3':(c.length:Int)≤37:=by omega
 have core:=fun h=>Yp F hF h6 h3 hpos (at_:=at_) (by omega) h
 clear h0 h1 h2 hb
 by_cases hx0:lst c=0
 ·by_cases hc1:1 < c.length
  ·rw [iP (show lst (c,(0:Int)).1=0∧1 < (c,(0:Int)).1.length from ⟨hx0,hc1⟩)]
   simp (disch:=omega) only [bs,↓iP,↓iN,hlast]
   rw [Hc]
  ·have hcore:=core (by rw [AbU h4 h6 (by omega),hx0]; simp)
   rw [iN (show ¬ (lst (c,(0:Int)).1=0∧1 < (c,(0:Int)).1.length) from fun h=>hc1 h.2)]
   simp (disch:=omega) only [bs,↓iP,↓iN,hlast]
   exact hcore
 ·rw [iN (show ¬ (lst (c,(0:Int)).1=0∧1 < (c,(0:Int)).1.length) from fun h=>hx0 h.1)]
  by_cases hlen:c.length=1
  ·by_cases h1:lst c=1
   ·rw [A3k (by rw [AbU h4 h6 hlen,h1]; rfl)]
    simp (disch:=omega) only [bs,↓iP,↓iN,hlast]
    rw [Hc]
   ·have hlt:=AbQ h6
    have hcore:=core (by rw [AbU h4 h6 hlen]; omega)
    simp (disch:=omega) only [bs,↓iP,↓iN,hlast]
    exact hcore
  ·have hcore:=core (A3l h4 h6 (by omega) hx0)
   simp (disch:=omega) only [bs,↓iP,↓iN,hlast]
   exact hcore
theorem Sd(F:Nat)(hF:A9 F){b:List Int}(hb:Bt b)(hl:(b.length:Int)≤140737488355328)(at_:Int) :
  G7 F b at_=some (toW (rdw b at_).1,(rdw b at_).2.1,(rdw b at_).2.2,()):=by
 unfold rdw
 rw [A7T hb]
 by_cases h0:(gr 37 b at_).2=0
 ·rw [Yq F hF hb hl at_ h0]
  by_cases hc:lst (gr 37 b at_).1=0∧1 < (gr 37 b at_).1.length
  ·rw [iP hc,iP (show(gr 37 b at_).2=0∧lst (gr 37 b at_).1=0∧1 < (gr 37 b at_).1.length from ⟨h0,hc⟩),iN (by simp)]
  ·rw [iN hc,iN (show ¬ ((gr 37 b at_).2=0∧lst (gr 37 b at_).1=0∧1 < (gr 37 b at_).1.length) from fun h=>hc h.2),iP h0]
   rfl
 ·rw [iN (show ¬ ((gr 37 b at_).2=0∧lst (gr 37 b at_).1=0∧1 < (gr 37 b at_).1.length) from fun h=>h0 h.1),iN h0]
  unfold G7
  rw [show(37:Int)=((37:Nat):Int) from rfl,P2 F hF hl at_ (n:=37) (by omega)]
  have:eqI (gr ((37:Nat)) b at_).2 0=false:=by rw [← Bool.not_eq_true,As]; exact h0
  simp only [bS,this,Bool.not_false,cT,Hc]
theorem Se(F:Nat){t:List Int×Int×Unit}(h:Em t){n:Int}(hn:1≤n∧n≤9223372036854775807) :
  ∃ t' v,Kf F t n=some (t',v,())∧Em t':=by
 obtain ⟨t1,v,e,ht1,h1,h2⟩:=Am F h (n:=n) (by omega)
 refine ⟨t1,eqI v (I9 1 n),?_,ht1⟩
 unfold Kf
 simp (disch:=omega) only [bs,↓iP,↓iN,e]
theorem Bp(x:Int):I64 (IntKind.i64.wrap x):=by
 unfold I64
 simp only [IntKind.wrap,IntKind.bits,IntKind.signed,Bool.true_and,ge_iff_le,decide_eq_true_eq]
 split <;> omega
theorem Ih(F:Nat)(hF:A9 F){t:List Int×Int×Unit}(h:Em t) :
  ∃ t' v,Gb F t=some (t',v,())∧Em t'∧I64 v:=by
 obtain ⟨t1,v,e,ht1,h1,h2⟩:=Am F h (n:=8) (by omega)
 unfold Gb
 rw [e]
 simp only [bS]
 by_cases c0:v=0
 ·obtain ⟨t2,w,e2,ht2,hw⟩:=Hq F hF ht1
  refine ⟨t2,IntKind.i64.wrap w,?_,ht2,Bp w⟩
  simp (disch:=omega) only [bs,↓iP,↓iN,e2]
 ·by_cases c1:v=1
  ·obtain ⟨t2,w,e2,ht2,hw0,hw⟩:=Am F ht1 (n:=4) (by omega)
   refine ⟨t2,9223372036854775807 - w,?_,ht2,by unfold I64; omega⟩
   simp (disch:=omega) only [bs,↓iP,↓iN,e2]
  ·by_cases c2:v=2
   ·obtain ⟨t2,w,e2,ht2,hw0,hw⟩:=Am F ht1 (n:=4) (by omega)
    refine ⟨t2,-9223372036854775808+w,?_,ht2,by unfold I64; omega⟩
    simp (disch:=omega) only [bs,↓iP,↓iN,e2]
   ·by_cases c3:v=3
    ·obtain ⟨t2,w,e2,ht2,hw⟩:=Hq F hF ht1
     obtain ⟨t3,u,e3,ht3,hu0,hu⟩:=Am F ht2 (n:=64) (by omega)
     refine ⟨t3,IntKind.i64.wrap (Fg .u64 w u),?_,ht3,Bp _⟩
     simp (disch:=omega) only [bs,↓iP,↓iN,e2,e3,Bi]
    ·obtain ⟨t2,w,e2,ht2,hw0,hw⟩:=Am F ht1 (n:=2000) (by omega)
     refine ⟨t2,w - 1000,?_,ht2,by unfold I64; omega⟩
     simp (disch:=omega) only [bs,↓iP,↓iN,e2]
theorem Azh{w:W}(h:wfT (.pair .bool (.pair (.arr 4 (.int .u64)) .unit)) w):WOk w :=
 ⟨fun x hx=>AzQ (h.2.1.2 x hx),h.2.1.1⟩
def wdN:List Int→Nat
  | []=>0
  | x::t=>max (Lib.bitLen x.toNat) (wdN t)
theorem AiV:∀ {l:List Int},Wd l→Yk l (wdN l:Int)
  | [],_=>⟨by simp [wdN],by simp [wdN],fun w=>by simp [wdN]⟩
  | x::t,hl=>by
    have hx:=Wd.head hl
    obtain ⟨h1,h2,h3⟩:=AiV (Wd.tail hl)
    have hb:=(L5 (x:=x.toNat) (w:=64) (by omega)).2 (by omega)
    refine ⟨by omega,by simp only [wdN]; omega,fun w=>?_⟩
    have h4:=h3 w
    have h5:=L5 (x:=x.toNat) (w:=w) (by omega)
    rw [← A3e hx.1] at h5
    rw [List.forall_mem_cons,← h4,← h5]
    simp only [wdN]
    omega
theorem Ao9{l:List Int}(hl:Wd l):wdN l≤64:=by have:=(AiV hl).2.1; omega
def Aoa(f:Nat→Bool):Nat:=(f 0).toNat+2*(f 1).toNat+4*(f 2).toNat+8*(f 3).toNat+16*(f 4).toNat+32*(f 5).toNat+64*(f 6).toNat+128*(f 7).toNat
theorem Atu(f:Nat→Bool):Aoa f < 256:=by
  unfold Aoa
  have h:=fun i=>Bool.toNat_le (f i)
  have h0:=h 0
  have h1:=h 1
  have h2:=h 2
  have h3:=h 3
  have h4:=h 4
  have h5:=h 5
  have h6:=h 6
  have h7:=h 7
  omega
theorem Atv:∀ (a b c d e g h i:Bool) (k:Fin 8),(a.toNat+2*b.toNat+4*c.toNat+8*d.toNat+16*e.toNat+32*g.toNat+64*h.toNat+128*i.toNat).testBit k.val=([a,b,c,d,e,g,h,i].getD k.val false):=by decide +kernel
theorem Apx(f:Nat→Bool){k:Nat}(hk:k < 8):(Aoa f).testBit k=f k:=by
  refine(Atv (f 0) (f 1) (f 2) (f 3) (f 4) (f 5) (f 6) (f 7) ⟨k,hk⟩).trans ?_
  match k,hk with
  | 0,_=>rfl
  | 1,_=>rfl
  | 2,_=>rfl
  | 3,_=>rfl
  | 4,_=>rfl
  | 5,_=>rfl
  | 6,_=>rfl
  | 7,_=>rfl
def pk(l:List Int)(w:Nat):List Int:=(List.range ((l.length*w+7) / 8)).map fun i=>(Aoa (fun k=>decide (8*i+k < l.length*w) && bof l w (8*i+k)):Int)
theorem AbV(l:List Int)(w:Nat):(pk l w).length=(l.length*w+7) / 8:=by simp [pk]
theorem AbW(l:List Int)(w:Nat):AnV l w (pk l w):=by
  refine ⟨?_,AbV l w,fun p=>?_⟩
  · intro x hx
    obtain ⟨i,_,rfl⟩:=List.mem_map.1 hx
    have:=Atu (fun k=>decide (8*i+k < l.length*w) && bof l w (8*i+k))
    omega
  · by_cases h:p / 8 < (l.length*w+7) / 8
    · unfold Lc pk
      rw [List.getD_eq_getElem?_getD,List.getElem?_map,List.getElem?_range h]
      simp only [Option.map_some,Option.getD_some]
      rw [Tx,Apx _ (Nat.mod_lt _ (by omega)),Nat.div_add_mod]
    · rw [Ab8 (by rw [AbV]; omega)]
      simp [show ¬ p < l.length*w by omega]
def Acy:List Int→List Int
  | []=>[]
  | x::t=>enc x.toNat++Acy t
theorem Atw:∀ l:List Int,Bt (Acy l)
  | []=>Bt.nil
  | x::t=>Bt.append (AnW _) (Atw t)
theorem Aas:∀ {l:List Int},Wd l→(Acy l).length≤10*l.length
  | [],_=>by simp [Acy]
  | x::t,h=>by
    have hx:=Wd.head h
    have h1:=Xf (v:=x.toNat) (by omega)
    have h2:=Aas (Wd.tail h)
    simp only [Acy,List.length_append,List.length_cons]
    omega
def nE(l:List Int):List Int:=if 2+(pk l (wdN l)).length < 1+(Acy l).length then 1::(wdN l:Int)::pk l (wdN l) else 0::Acy l
theorem A3m{l:List Int}(h:Wd l):Bt (nE l):=by
  have:=Ao9 h
  unfold nE
  split
  · exact Bt.append (Bt.one (by omega)) (Bt.append (Bt.one (by omega)) (AbW l (wdN l)).1)
  · exact Bt.append (Bt.one (by omega)) (Atw l)
theorem Age{l:List Int}(h:Wd l)(hn:l.length≤65536):(pk l (wdN l)).length≤524288:=by
  have:=Nat.mul_le_mul hn (Ao9 h)
  rw [AbV]
  omega
theorem Azi{l:List Int}(h:Wd l):(nE l).length≤1+(Acy l).length∧(nE l).length≤2+(pk l (wdN l)).length∧0 < (nE l).length:=by
  unfold nE
  split
  · simp only [List.length_cons]; omega
  · simp only [List.length_cons]; omega
theorem Kb{l:List Int}(h:Wd l)(hn:l.length≤65536):(nE l).length≤524290:=by
  have h1:=(Azi h).2.1
  have h2:=Age h hn
  omega
def rdn:Nat→List Int→Int→List Int×Int×Int
  | 0,_,at_=>([],at_,0)
  | n+1,b,at_ =>
    if(rd b at_).2.2=0 then
      (if(rdn n b (rd b at_).2.1).2.2=0 then(((rd b at_).1:Int)::(rdn n b (rd b at_).2.1).1,(rdn n b (rd b at_).2.1).2.1,0)
       else([],0,(rdn n b (rd b at_).2.1).2.2))
    else([],0,(rd b at_).2.2)
theorem Atx{b:List Int}(hb:Bt b){at_:Int}(h:(rd b at_).2.2=0):0≤at_∧at_ < (rd b at_).2.1∧(rd b at_).2.1≤b.length∧b.drop at_.toNat=enc (rd b at_).1++b.drop (rd b at_).2.1.toNat:=by
  unfold rd at h ⊢
  by_cases h0:(gp 10 b at_).2=0
  · obtain ⟨a0,a1,c,rest,h1,h2,h3,h4,h5,h6⟩:=Axa hb h0
    rw [h1] at h ⊢
    simp only [if_true] at h ⊢
    by_cases h7:dv c < 2 ^ 64
    · simp only [iP h7] at h ⊢
      have hpos:0 < c.length:=List.length_pos_iff.2 h4.ne
      have hlen:(b.drop at_.toNat).length=(c++rest).length:=by rw [h2]
      simp only [List.length_drop,List.length_append] at hlen
      refine ⟨a0,by omega,by omega,?_⟩
      rw [h5,h2]
      congr 1
      rw [show(at_+(c.length:Int)).toNat=at_.toNat+c.length by omega,← List.drop_drop,h2]
      simp
    · rw [iN h7] at h; simp at h
  · rw [iN h0] at h; exact absurd h h0
theorem Azj:∀ {n:Nat} {b:List Int},Bt b→∀ {at_:Int},0≤at_→at_≤b.length→(rdn n b at_).2.2=0 →
    at_≤(rdn n b at_).2.1∧(rdn n b at_).2.1≤b.length∧(rdn n b at_).1.length=n∧Wd (rdn n b at_).1∧b.drop at_.toNat=Acy (rdn n b at_).1++b.drop (rdn n b at_).2.1.toNat
  | 0,b,_,at_,h0,h1,_=>⟨Int.le_refl _,h1,rfl,Wd.nil,rfl⟩
  | n+1,b,hb,at_,h0,h1,h=>by
    unfold rdn at h ⊢
    by_cases c:(rd b at_).2.2=0
    · rw [iP c] at h ⊢
      obtain ⟨r1,r2,r3,r4⟩:=Atx hb c
      have rl:=Bd7 b at_
      by_cases d:(rdn n b (rd b at_).2.1).2.2=0
      · rw [iP d]
        obtain ⟨i1,i2,i3,i4,i5⟩:=Azj (n:=n) hb (at_:=(rd b at_).2.1) (by omega) r3 d
        refine ⟨by simp only; omega,i2,by simp [i3],Wd.cons (by omega) i4,?_⟩
        simp only [Acy,Int.toNat_natCast]
        rw [r4,i5,List.append_assoc]
      · rw [iN d] at h; exact absurd h d
    · rw [iN c] at h; exact absurd h c
def Sg(l:List Int):Prop:=∀ x∈l,I64 x
theorem Sg.nil:Sg []:=fun x hx=>by cases hx
theorem Sg.head{x:Int}{t:List Int}(h:Sg (x::t)):I64 x:=h x (by simp)
theorem Sg.tail{x:Int}{t:List Int}(h:Sg (x::t)):Sg t:=fun y hy=>h y (List.mem_cons_of_mem _ hy)
theorem Sg.cons{x:Int}{t:List Int}(h:I64 x)(ht:Sg t):Sg (x::t):=by
 intro y hy
 rcases List.mem_cons.1 hy with e | e
 ·exact e ▸ h
 ·exact ht y e
theorem Sg.append{l m:List Int}(h:Sg l)(k:Sg m):Sg (l++m):=fun x hx=>(List.mem_append.1 hx).elim (h x) (k x)
theorem Sg.get{l:List Int}(h:Sg l)(i:Int):I64 (An 0 l i):=Jv (P:=I64) h (by unfold I64; omega) _
theorem Jt(x:Int):∃ k:Int,IntKind.i64.wrap x=x+k*18446744073709551616:=by
 simp only [IntKind.wrap,IntKind.bits,IntKind.signed,Bool.true_and,ge_iff_le,decide_eq_true_eq]
 split
 ·exact ⟨-(x / 18446744073709551616) - 1,by omega⟩
 ·exact ⟨-(x / 18446744073709551616),by omega⟩
theorem Aat{x y:Int}(hx:I64 x)(hy:I64 y){k:Int}(h:x=y+k*18446744073709551616):x=y:=by
 unfold I64 at hx hy
 omega
def dls:Int→Int→List Int→List Int
 | _,_,[]=>[]
 | p,b,x::t=>(zz (IntKind.i64.wrap (x - p - b)):Int)::dls x (x - p) t
def dl:List Int→List Int
 | []=>[]
 | [_]=>[]
 | p::x::t=>(x - p - 1)::dls x (x - p) t
def dfs:Int→List Int→List Int
 | _,[]=>[]
 | p,x::t=>IntKind.i64.wrap (x - p)::dfs x t
def df:List Int→List Int
 | []=>[]
 | x::t=>x::dfs x t
def sms:Int→List Int→List Int
 | _,[]=>[]
 | p,x::t=>IntKind.i64.wrap (p+x)::sms (IntKind.i64.wrap (p+x)) t
def sm:List Int→List Int
 | []=>[]
 | x::t=>x::sms x t
theorem AdU:∀ (t:List Int) (p:Int),(dfs p t).length=t.length
 | [],_=>rfl
 | x::t,p=>by simp [dfs,AdU t]
theorem AbX(l:List Int):(df l).length=l.length:=by cases l <;> simp [df,AdU]
theorem AdV:∀ (t:List Int) (p:Int),(sms p t).length=t.length
 | [],_=>rfl
 | x::t,p=>by simp [sms,AdV t]
theorem AbY(l:List Int):(sm l).length=l.length:=by cases l <;> simp [sm,AdV]
theorem Azk:∀ (t:List Int) (p:Int),Sg (dfs p t)
 | [],_=>Sg.nil
 | x::t,p=>Sg.cons (Bp _) (Azk t x)
theorem Bda{l:List Int}(h:Sg l):Sg (df l):=by
 cases l with
 | nil=>exact Sg.nil
 | cons x t=>exact Sg.cons (Sg.head h) (Azk t x)
theorem Azl:∀ (t:List Int) (p:Int),Sg (sms p t)
 | [],_=>Sg.nil
 | x::t,p=>Sg.cons (Bp _) (Azl t _)
theorem Bdb{l:List Int}(h:Sg l):Sg (sm l):=by
 cases l with
 | nil=>exact Sg.nil
 | cons x t=>exact Sg.cons (Sg.head h) (Azl t x)
def dfn:Nat→List Int→List Int
 | 0,l=>l
 | n+1,l=>dfn n (df l)
def smn:Nat→List Int→List Int
 | 0,l=>l
 | n+1,l=>smn n (sm l)
theorem C8:∀ (n:Nat) (l:List Int),(dfn n l).length=l.length
 | 0,_=>rfl
 | n+1,l=>by rw [dfn,C8 n,AbX]
theorem AdW:∀ (n:Nat) (l:List Int),(smn n l).length=l.length
 | 0,_=>rfl
 | n+1,l=>by rw [smn,AdW n,AbY]
theorem Na:∀ (n:Nat) {l:List Int},Sg l→Sg (dfn n l)
 | 0,_,h=>h
 | n+1,l,h=>Na n (Bda h)
theorem Azm:∀ (n:Nat) {l:List Int},Sg l→Sg (smn n l)
 | 0,_,h=>h
 | n+1,l,h=>Azm n (Bdb h)
def zs:List Int→List Int
 | []=>[]
 | x::t=>(zz x:Int)::zs t
def us:List Int→List Int
 | []=>[]
 | x::t=>uz x.toNat::us t
theorem Fd:∀ l:List Int,(zs l).length=l.length
 | []=>rfl
 | x::t=>by simp [zs,Fd t]
theorem Xm:∀ l:List Int,(us l).length=l.length
 | []=>rfl
 | x::t=>by simp [us,Xm t]
theorem Vd:∀ {l:List Int},Sg l→Wd (zs l)
 | [],_=>Wd.nil
 | x::t,h=>Wd.cons (by have:=Bd6 (Sg.head h); omega) (Vd (Sg.tail h))
theorem A7X:∀ {l:List Int},Wd l→Sg (us l)
 | [],_=>Sg.nil
 | x::t,h=>Sg.cons (A7S (by have:=Wd.head h; omega)) (A7X (Wd.tail h))
def rO(n:Nat)(l:List Int):List Int:=(n:Int)::nE (zs (dfn n l))
def Ff(a b:List Int):List Int:=if a.length < b.length then a else b
def rE(l:List Int):List Int:=Ff (rO 2 l) (Ff (rO 1 l) (rO 0 l))
theorem Bdc{n:Nat}(hn:n≤2){l:List Int}(h:Sg l):Bt (rO n l):=Bt.append (Bt.one (by omega)) (A3m (Vd (Na n h)))
theorem Aob{n:Nat}{l:List Int}(h:Sg l)(hl:l.length≤65536):(rO n l).length≤524291∧0 < (rO n l).length:=by
 have:=Kb (Vd (Na n h)) (by rw [Fd,C8]; exact hl)
 unfold rO
 simp only [List.length_cons]
 omega
theorem H9(a b:List Int):(Ff a b=a∨Ff a b=b)∧(Ff a b).length≤a.length∧(Ff a b).length≤b.length:=by
 unfold Ff; split <;> simp <;> omega
theorem Bdd(l:List Int):∃ n:Nat,n≤2∧rE l=rO n l:=by
 unfold rE
 rcases (H9 (rO 2 l) (Ff (rO 1 l) (rO 0 l))).1 with h | h
 ·exact ⟨2,by omega,h⟩
 ·rcases (H9 (rO 1 l) (rO 0 l)).1 with k | k
  ·exact ⟨1,by omega,h.trans k⟩
  ·exact ⟨0,by omega,h.trans k⟩
theorem Axh(l:List Int){n:Nat}(hn:n≤2):(rE l).length≤(rO n l).length:=by
 unfold rE
 have h1:=(H9 (rO 2 l) (Ff (rO 1 l) (rO 0 l))).2
 have h2:=(H9 (rO 1 l) (rO 0 l)).2
 match n,hn with
 | 0,_=>omega
 | 1,_=>omega
 | 2,_=>omega
theorem Xn{l:List Int}(hl:Wd l){i:Nat}(hi:i < l.length):∃ v:Nat,An 0 l (i:Int)=(v:Int)∧v < 2 ^ 64∧(enc v).length≤10∧Acy (l.drop i)=enc v++Acy (l.drop (i+1)):=by
 have hx:=hl.get (i:Int)
 obtain ⟨v,hv⟩:=Int.eq_ofNat_of_zero_le hx.1
 have hv64:v < 2 ^ 64:=by omega
 refine ⟨v,hv,hv64,Xf hv64,?_⟩
 rw [Qn hi,Acy]
 have:l.getD i 0=(v:Int):=by rw [← Da]; exact hv
 rw [this]; rfl
theorem Apy(F:Nat){R:Type}(k:List Int→Int→Option R)(x0:List Int){l:List Int}(hl:Wd l)(hb:l.length≤65536):∀ (m i z:Nat),i+m=l.length→z≤1+10*i →
  ∀ N,m < N→Fq F k N x0 (z:Int) l (l.length:Int) (i:Int)=k x0 ((z+(Acy (l.drop i)).length:Nat):Int):=by
 intro m
 induction m with
 | zero =>
  intro i z hi hz N hN
  obtain ⟨N,rfl⟩:∃ M,N=M+1:=⟨N - 1,by omega⟩
  rw [List.drop_eq_nil_of_le (by omega)]
  unfold Fq
  simp (disch:=omega) only [bs,↓iP,↓iN]
  rfl
 | succ m ih =>
  intro i z hi hz N hN
  obtain ⟨N,rfl⟩:∃ M,N=M+1:=⟨N - 1,by omega⟩
  obtain ⟨v,hv,hv64,h10,hd⟩:=Xn hl (i:=i) (by omega)
  have e:=ih (i+1) (z+(enc v).length) (by omega) (by omega) N (by omega)
  simp only [Int.natCast_add,Int.natCast_one] at e
  rw [hd,List.length_append,← Nat.add_assoc,Int.natCast_add,Int.natCast_add]
  unfold Fq
  simp (disch:=omega) only [bs,↓iP,↓iN,hv,Acs F hv64]
  exact e
theorem Aty(F:Nat)(hF:A9 F){R:Type}(k:List Int→Option R){l:List Int}(hl:Wd l)(hb:l.length≤65536):∀ (m i:Nat) (out:List Int),i+m=l.length→out.length≤1+10*i →
  ∀ N,m < N→Et F k N out l (l.length:Int) (i:Int)=k (out++Acy (l.drop i)):=by
 intro m
 induction m with
 | zero =>
  intro i z hi hz N hN
  obtain ⟨N,rfl⟩:∃ M,N=M+1:=⟨N - 1,by omega⟩
  rw [List.drop_eq_nil_of_le (by omega)]
  unfold Et
  simp (disch:=omega) only [bs,↓iP,↓iN]
  simp [Acy]
 | succ m ih =>
  intro i z hi hz N hN
  obtain ⟨N,rfl⟩:∃ M,N=M+1:=⟨N - 1,by omega⟩
  obtain ⟨v,hv,hv64,h10,hd⟩:=Xn hl (i:=i) (by omega)
  have e:=ih (i+1) (z++enc v) (by omega) (by simp; omega) N (by omega)
  simp only [Int.natCast_add,Int.natCast_one] at e
  rw [hd,← List.append_assoc]
  unfold Et
  simp (disch:=omega) only [bs,↓iP,↓iN,hv,Zw F hF (b:=[]) (by simp [ApK]) hv64,List.nil_append]
  exact e
theorem Apz(F:Nat)(hF:A9 F){R:Type}(k:List Int→Int→Option R){l:List Int}(hl:Wd l)(hb:l.length≤65536):∀ (m i z:Nat),i+m=l.length→z≤1+10*i →
  ∀ N,m < N→Hk F k N l (z:Int) (i:Int)=k l ((z+(Acy (l.drop i)).length:Nat):Int):=by
 intro m
 induction m with
 | zero =>
  intro i z hi hz N hN
  obtain ⟨N,rfl⟩:∃ M,N=M+1:=⟨N - 1,by omega⟩
  rw [List.drop_eq_nil_of_le (by omega)]
  unfold Hk
  simp (disch:=omega) only [bs,↓iP,↓iN]
  rfl
 | succ m ih =>
  intro i z hi hz N hN
  obtain ⟨N,rfl⟩:∃ M,N=M+1:=⟨N - 1,by omega⟩
  obtain ⟨v,hv,hv64,h10,hd⟩:=Xn hl (i:=i) (by omega)
  have e:=ih (i+1) (z+(enc v).length) (by omega) (by omega) N (by omega)
  simp only [Int.natCast_add,Int.natCast_one] at e
  rw [hd,List.length_append,← Nat.add_assoc,Int.natCast_add,Int.natCast_add]
  unfold Hk
  simp (disch:=omega) only [bs,↓iP,↓iN,hv,Ag8 F hF hv64]
  exact e
theorem Atz(F:Nat)(hF:A9 F){R:Type}(k:List Int→Option R){l:List Int}(hl:Wd l)(hb:l.length≤65536):∀ (m i:Nat) (out:List Int),i+m=l.length→out.length≤1+10*i →
  ∀ N,m < N→F2 F k N l out (i:Int)=k (out++Acy (l.drop i)):=by
 intro m
 induction m with
 | zero =>
  intro i z hi hz N hN
  obtain ⟨N,rfl⟩:∃ M,N=M+1:=⟨N - 1,by omega⟩
  rw [List.drop_eq_nil_of_le (by omega)]
  unfold F2
  simp (disch:=omega) only [bs,↓iP,↓iN]
  simp [Acy]
 | succ m ih =>
  intro i z hi hz N hN
  obtain ⟨N,rfl⟩:∃ M,N=M+1:=⟨N - 1,by omega⟩
  obtain ⟨v,hv,hv64,h10,hd⟩:=Xn hl (i:=i) (by omega)
  have e:=ih (i+1) (z++enc v) (by omega) (by simp; omega) N (by omega)
  simp only [Int.natCast_add,Int.natCast_one] at e
  rw [hd,← List.append_assoc]
  unfold F2
  simp (disch:=omega) only [bs,↓iP,↓iN,hv,P1 F hF (b:=[]) (by simp [ApK]) hv64,List.nil_append]
  exact e
theorem Aoc{l:List Int}(hl:Wd l)(hn:l.length≤65536):A8E l (wdN l:Int):=by
 have h:=AiV hl
 exact ⟨hn,h.1,h.2.1,by rw [Int.toNat_natCast]; exact(h.2.2 _).1 (Int.le_refl _)⟩
theorem Hr(F:Nat)(hF:A9 F){l:List Int}(hl:Wd l)(hn:l.length≤65536):Bm F l=some (nE l,0,()):=by
 obtain ⟨W,eW,hW⟩:=Tf F hF hl (by omega)
 have:=hW.eq (AiV hl)
 subst this
 obtain ⟨out,eP,hP⟩:=AbK F hF hl (by omega) (Aoc hl hn)
 have:=hP.eq (AbW l (wdN l))
 subst this
 have hs:=Age hl hn
 have hel:=Aas hl
 have hw:=Ao9 hl
 have e1:=fun (R:Type) (k:List Int→Int→Option R)=>Apy F k l hl hn l.length 0 1 (by omega) (by omega) F (by unfold A9 at hF; omega)
 have e2:=fun (R:Type) (k:List Int→Option R)=>Aty F hF k hl hn l.length 0 [0] (by omega) (by simp) F (by unfold A9 at hF; omega)
 simp only [Int.natCast_zero,Int.natCast_one,List.drop_zero,Int.natCast_add] at e1 e2
 unfold Bm nE
 generalize pk l (wdN l)=p at *
 generalize Acy l=q at *
 by_cases h:2+p.length < 1+q.length
 ·rw [iP h]
  simp (disch:=omega) only [bs,↓iP,↓iN,e1,eW,eP,Pm]
  rfl
 ·rw [iN h]
  simp (disch:=omega) only [bs,↓iP,↓iN,e1,eW,eP,show Cl 1 (0:Int)=[0] from rfl,e2]
  rfl
theorem Xo(F:Nat){l:List Int}(hn:65536 < l.length):Bm F l=some ([],3,()):=by
 unfold Bm
 simp (disch:=omega) only [bs,↓iP,↓iN]
theorem Fy(F:Nat)(hF:A9 F){l:List Int}(hl:Wd l)(hn:l.length≤65536):Fl F l=some (nE l,0,()):=by
 obtain ⟨W,eW,hW⟩:=Vr F hF hl (by omega)
 have:=hW.eq (AiV hl)
 subst this
 obtain ⟨out,eP,hP⟩:=Xd F hF hl (by omega) (Aoc hl hn)
 have:=hP.eq (AbW l (wdN l))
 subst this
 have hs:=Age hl hn
 have hel:=Aas hl
 have hw:=Ao9 hl
 have e1:=fun (R:Type) (k:List Int→Int→Option R)=>Apz F hF k hl hn l.length 0 1 (by omega) (by omega) F (by unfold A9 at hF; omega)
 have e2:=fun (R:Type) (k:List Int→Option R)=>Atz F hF k hl hn l.length 0 [0] (by omega) (by simp) F (by unfold A9 at hF; omega)
 simp only [Int.natCast_zero,Int.natCast_one,List.drop_zero,Int.natCast_add] at e1 e2
 unfold Fl nE
 generalize pk l (wdN l)=p at *
 generalize Acy l=q at *
 by_cases h:2+p.length < 1+q.length
 ·rw [iP h]
  simp (disch:=omega) only [bs,↓iP,↓iN,e1,eW,eP,Pm]
  rfl
 ·rw [iN h]
  simp (disch:=omega) only [bs,↓iP,↓iN,e1,eW,eP,show Cl 1 (0:Int)=[0] from rfl,e2]
  rfl
theorem ApA(F:Nat)(hF:A9 F){R:Type}(k:Int→List Int→Option R)(kr:List Int→Int→Int→Option R){b:List Int}(hb:Bt b)(hl:(b.length:Int)≤140737488355328){n:Nat}(hn:n≤65536):∀ (m i:Nat) (at_:Int) (out:List Int),i+m=n→out.length=i→0≤at_∧at_≤b.length →
  ∀ N,m < N→F8 F k kr N b at_ out (n:Int) (i:Int)=if(rdn m b at_).2.2=0 then k (rdn m b at_).2.1 (out++(rdn m b at_).1) else kr [] 0 (rdn m b at_).2.2:=by
 intro m
 induction m with
 | zero =>
  intro i at_ out hi ho ha N hN
  obtain ⟨N,rfl⟩:∃ M,N=M+1:=⟨N - 1,by omega⟩
  unfold F8
  simp only [rdn,if_true,List.append_nil]
  simp (disch:=omega) only [bs,↓iP,↓iN]
 | succ m ih =>
  intro i at_ out hi ho ha N hN
  obtain ⟨N,rfl⟩:∃ M,N=M+1:=⟨N - 1,by omega⟩
  have er:=Vs F hF hb hl at_
  unfold F8
  by_cases c:(rd b at_).2.2=0
  ·obtain ⟨r1,r2,r3,_⟩:=Atx hb c
   have e:=ih (i+1) (rd b at_).2.1 (out++[((rd b at_).1:Int)]) (by omega) (by simp; omega) (by omega) N (by omega)
   have e2:rdn (m+1) b at_=if(rdn m b (rd b at_).2.1).2.2=0 then(((rd b at_).1:Int)::(rdn m b (rd b at_).2.1).1,(rdn m b (rd b at_).2.1).2.1,0) else([],0,(rdn m b (rd b at_).2.1).2.2):=by rw [rdn,iP c]
   rw [e2]
   simp (disch:=omega) only [bs,↓iP,↓iN,er,c]
   rw [show(i:Int)+1=((i+1:Nat):Int) by omega,e]
   by_cases d:(rdn m b (rd b at_).2.1).2.2=0
   ·simp only [iP d,if_true,List.append_assoc,List.singleton_append]
   ·simp only [iN d]
  ·have e2:rdn (m+1) b at_=([],0,(rd b at_).2.2):=by rw [rdn,iN c]
   rw [e2]
   simp (disch:=omega) only [bs,↓iP,↓iN,er,c]
theorem Akr(F:Nat)(hF:A9 F){R:Type}(k:Int→List Int→Option R)(kr:List Int→Int→Int→Option R){b:List Int}(hb:Bt b)(hl:(b.length:Int)≤140737488355328){n:Nat}(hn:n≤65536):∀ (m i:Nat) (at_:Int) (out:List Int),i+m=n→out.length=i→0≤at_∧at_≤b.length →
  ∀ N,m < N→Iv F k kr N b at_ (n:Int) out (i:Int)=if(rdn m b at_).2.2=0 then k (rdn m b at_).2.1 (out++(rdn m b at_).1) else kr [] 0 (rdn m b at_).2.2:=by
 intro m
 induction m with
 | zero =>
  intro i at_ out hi ho ha N hN
  obtain ⟨N,rfl⟩:∃ M,N=M+1:=⟨N - 1,by omega⟩
  unfold Iv
  simp only [rdn,if_true,List.append_nil]
  simp (disch:=omega) only [bs,↓iP,↓iN]
 | succ m ih =>
  intro i at_ out hi ho ha N hN
  obtain ⟨N,rfl⟩:∃ M,N=M+1:=⟨N - 1,by omega⟩
  have er:=Xi F hF hb hl at_
  unfold Iv
  by_cases c:(rd b at_).2.2=0
  ·obtain ⟨r1,r2,r3,_⟩:=Atx hb c
   have e:=ih (i+1) (rd b at_).2.1 (out++[((rd b at_).1:Int)]) (by omega) (by simp; omega) (by omega) N (by omega)
   have e2:rdn (m+1) b at_=if(rdn m b (rd b at_).2.1).2.2=0 then(((rd b at_).1:Int)::(rdn m b (rd b at_).2.1).1,(rdn m b (rd b at_).2.1).2.1,0) else([],0,(rdn m b (rd b at_).2.1).2.2):=by rw [rdn,iP c]
   rw [e2]
   simp (disch:=omega) only [bs,↓iP,↓iN,er,c]
   rw [show(i:Int)+1=((i+1:Nat):Int) by omega,e]
   by_cases d:(rdn m b (rd b at_).2.1).2.2=0
   ·simp only [iP d,if_true,List.append_assoc,List.singleton_append]
   ·simp only [iN d]
  ·have e2:rdn (m+1) b at_=([],0,(rd b at_).2.2):=by rw [rdn,iN c]
   rw [e2]
   simp (disch:=omega) only [bs,↓iP,↓iN,er,c]
def plR(n:Nat)(b:List Int)(at_:Int):List Int×Int×Int:=if(rdn n b at_).2.2=0 then rdn n b at_ else([],0,(rdn n b at_).2.2)
theorem Z0(F:Nat)(hF:A9 F){b:List Int}(hb:Bt b)(hl:(b.length:Int)≤140737488355328){n:Nat}(hn:n≤65536){at_:Int}(ha:0≤at_∧at_≤b.length) :
  H4 F b at_ n=some ((plR n b at_).1,(plR n b at_).2.1,(plR n b at_).2.2,()):=by
 have e:=fun (R:Type) (k:Int→List Int→Option R) (kr:List Int→Int→Int→Option R)=>ApA F hF k kr hb hl hn n 0 at_ [] (by omega) rfl ha F (by unfold A9 at hF; omega)
 have h0:I7 0 (min (n:Int) ((b.length:Int) - at_)) 8=true:=by rw [K6]; omega
 unfold H4 plR
 simp (disch:=omega) only [bs,↓iP,↓iN,h0,show Cl 0 (0:Int)=[] from rfl]
 refine(e _ _ _).trans ?_
 by_cases c:(rdn n b at_).2.2=0
 ·rw [iP c,iP c,List.nil_append,c]
 ·rw [iN c,iN c]
theorem Acz(F:Nat)(hF:A9 F){b:List Int}(hb:Bt b)(hl:(b.length:Int)≤140737488355328){n:Nat}(hn:n≤65536){at_:Int}(ha:0≤at_∧at_≤b.length) :
  S7 F b at_ n=some ((plR n b at_).1,(plR n b at_).2.1,(plR n b at_).2.2,()):=by
 unfold S7 plR
 refine(Akr F hF _ _ hb hl hn n 0 at_ [] (by omega) rfl ha F (by unfold A9 at hF; omega)).trans ?_
 by_cases c:(rdn n b at_).2.2=0
 ·rw [iP c,iP c,List.nil_append,c]
 ·rw [iN c,iN c]
theorem ApB(F:Nat){R:Type}(k0:Option R)(kr:Bool→Option R){a b:List Int}(hl:a.length=b.length)(hb:(a.length:Int)≤9223372036854775806):∀ (m i:Nat),i+m=a.length→∀ N,m < N →
  Ds F k0 kr N a b (a.length:Int) i=if a.drop i=b.drop i then k0 else kr false:=by
 intro m
 induction m with
 | zero =>
  intro i hi N hN
  obtain ⟨N,rfl⟩:∃ M,N=M+1:=⟨N - 1,by omega⟩
  rw [iP (by rw [List.drop_eq_nil_of_le (by omega),List.drop_eq_nil_of_le (by omega)])]
  unfold Ds
  simp (disch:=omega) only [bs,↓iP,↓iN]
 | succ m ih =>
  intro i hi N hN
  obtain ⟨N,rfl⟩:∃ M,N=M+1:=⟨N - 1,by omega⟩
  have h1:=ih (i+1) (by omega) N (by omega)
  have ea:a.drop i=An 0 a (i:Int)::a.drop (i+1):=by
   rw [List.drop_eq_getElem_cons (by omega)]; simp [An,List.getD_eq_getElem?_getD,show i < a.length by omega]
  have eb:b.drop i=An 0 b (i:Int)::b.drop (i+1):=by
   rw [List.drop_eq_getElem_cons (by omega)]; simp [An,List.getD_eq_getElem?_getD,show i < b.length by omega]
  unfold Ds
  by_cases hc:An 0 a (i:Int)=An 0 b (i:Int)
  ·simp (disch:=omega) only [bs,↓iP,↓iN]
   refine Eq.trans h1 ?_
   rw [ea,eb,hc]
   simp
  ·simp (disch:=omega) only [bs,↓iP,↓iN]
   rw [ea,eb,iN]
   intro h
   exact hc (by simpa using (List.cons.inj h).1)
theorem Ud(F:Nat)(hF:A9 F){a b:List Int}(hb:(a.length:Int)≤140737488355328):Be F a b=some (decide (a=b),()):=by
 unfold A9 at hF
 unfold Be
 by_cases hl:a.length=b.length
 ·simp (disch:=omega) only [bs,↓iP,↓iN]
  refine Eq.trans (ApB F _ _ hl (by omega) a.length 0 (by omega) F (by omega)) ?_
  simp only [List.drop_zero]
  by_cases h:a=b
  ·simp [h]
  ·simp [h]
 ·simp (disch:=omega) only [bs,↓iP,↓iN]
  have:a≠b:=fun h=>hl (by rw [h])
  simp [this]
theorem AiW(F:Nat)(hF:A9 F){b:List Int}(hb:Bt b)(n w:Int):∃ out ok,Ee F b n w=some (out,ok,())∧Gk F b n w=some (out,ok,())∧Wd out∧(ok=true→(out.length:Int)=n)∧(ok=false→out=[]):=by
 by_cases h:Wj n w=b.length
 ·have h0:¬ (n < 0∨65536 < n∨w < 0∨64 < w):=fun h0=>by rw [Atd h0] at h; omega
  obtain ⟨n,rfl⟩:∃ k:Nat,n=(k:Int):=⟨n.toNat,by omega⟩
  obtain ⟨w,rfl⟩:∃ k:Nat,w=(k:Int):=⟨w.toNat,by omega⟩
  rw [Oe (by omega) (by omega)] at h
  obtain ⟨x,hx,x1,x2⟩:=Yl F hF hb (n:=n) (w:=w) (by omega) (by omega) (by omega)
  obtain ⟨y,hy,y1,y2⟩:=AbL F hF hb (n:=n) (w:=w) (by omega) (by omega) (by omega)
  have:=hx.eq hy
  subst this
  by_cases hc:AiJ b (n*w)
  ·exact ⟨x,true,x1 hc,y1 hc,hx.1,fun _=>by rw [hx.2.1],(fun h=>by cases h)⟩
  ·exact ⟨[],false,x2 hc,y2 hc,Wd.nil,(fun h=>by cases h),fun _=>rfl⟩
 ·exact ⟨[],false,Xe F h,Zv F h,Wd.nil,(fun h=>by cases h),fun _=>rfl⟩
theorem Aks(F:Nat)(hF:A9 F){b:List Int}(hb:Bt b)(hl:(b.length:Int)≤140737488355328){n at_:Int}(hn:0≤n∧n≤65536)(ha:0≤at_∧at_≤b.length) :
  ∃ l end_ e,G5 F b at_ n=some (l,end_,e,())∧Ql F b at_ n=some (l,end_,e,())∧Wd l∧(e=0→(l.length:Int)=n∧at_ < end_∧end_≤b.length)∧(e≠0→l=[]∧end_=0):=by
 unfold G5 Ql
 by_cases c0:at_=b.length
 ·refine ⟨[],0,4,?_,?_,Wd.nil,fun h=>by simp at h,fun _=>⟨rfl,rfl⟩⟩
  ·simp (disch:=omega) only [bs,↓iP,↓iN]
  ·simp (disch:=omega) only [bs,↓iP,↓iN]
 ·have hw:=hb.get at_
  generalize An 0 b at_=w at *
  by_cases c1:64 < w
  ·refine ⟨[],0,5,?_,?_,Wd.nil,fun h=>by simp at h,fun _=>⟨rfl,rfl⟩⟩
   ·simp (disch:=omega) only [bs,↓iP,↓iN]
   ·simp (disch:=omega) only [bs,↓iP,↓iN,Cz]
  ·have hs:0≤Wj n w∧Wj n w≤524288:=by
    unfold Wj
    rw [iN (by omega)]
    have:=Ata (n:=n) (w:=w) (by omega) (by omega) (by omega) (by omega)
    omega
   have hS1:=E9 F n w
   have hS2:=Iw F n w
   generalize Wj n w=s at *
   by_cases c2:(b.length:Int) - (at_+1) < s
   ·refine ⟨[],0,4,?_,?_,Wd.nil,fun h=>by simp at h,fun _=>⟨rfl,rfl⟩⟩
    ·simp (disch:=omega) only [bs,↓iP,↓iN,Cz,hS1]
    ·simp (disch:=omega) only [bs,↓iP,↓iN,Cz,hS2]
   ·obtain ⟨out,ok,u1,u2,u3,u4,u5⟩:=AiW F hF (b:=Cu (Ce b (at_+1+s)) (at_+1)) (Bt.drop (Bt.take hb _) _) n w
    cases ok with
    | true =>
     refine ⟨out,at_+1+s,0,?_,?_,u3,fun _=>⟨u4 rfl,by omega,by omega⟩,fun h=>absurd rfl h⟩
     ·simp (disch:=omega) only [bs,↓iP,↓iN,Cz,hS1,u1]
     ·simp (disch:=omega) only [bs,↓iP,↓iN,Cz,hS2,u2]
    | false =>
     refine ⟨[],0,5,?_,?_,Wd.nil,fun h=>by simp at h,fun _=>⟨rfl,rfl⟩⟩
     ·simp (disch:=omega) only [bs,↓iP,↓iN,Cz,hS1,u1]
     ·simp (disch:=omega) only [bs,↓iP,↓iN,Cz,hS2,u2]
def ApL(b:List Int)(at_:Int)(l:List Int)(end_ e:Int):List Int×Int×Int:=if e=0 then(if nE l=Cu (Ce b end_) at_ then(l,end_,0) else([],0,5)) else([],0,e)
theorem AiX(F:Nat)(hF:A9 F){b:List Int}{at_:Int}{l:List Int}{end_ e:Int}(ha:0≤at_)(hw:Wd l)(h:e=0→l.length≤65536∧at_≤end_∧end_≤b.length) :
  (bif not (eqI e 0) then some (([]:List Int),((0:Int),(e,()))) else
   (Bm F l).bind fun r14=>bif not (eqI r14.2.1 0) then some ([],(0,(5,()))) else
    bif Km at_ end_ (List.length b) then(Be F r14.1 (Cu (Ce b end_) at_)).bind fun r17=>bif not r17.1 then some ([],(0,(5,()))) else some (l,(end_,(0,()))) else none)
   = some ((ApL b at_ l end_ e).1,(ApL b at_ l end_ e).2.1,(ApL b at_ l end_ e).2.2,()):=by
 unfold ApL
 by_cases c:e=0
 ·obtain ⟨h1,h2,h3⟩:=h c
  have hs:=Kb hw h1
  have hq:=Ud F hF (a:=nE l) (b:=Cu (Ce b end_) at_) (by omega)
  rw [iP c]
  by_cases d:nE l=Cu (Ce b end_) at_
  ·rw [decide_eq_true d] at hq
   rw [iP d]
   simp (disch:=omega) only [bs,↓iP,↓iN,Hr F hF hw h1,hq]
  ·rw [decide_eq_false d] at hq
   rw [iN d]
   simp (disch:=omega) only [bs,↓iP,↓iN,Hr F hF hw h1,hq]
 ·rw [iN c]
  simp (disch:=omega) only [bs,↓iP,↓iN]
theorem Aod(F:Nat)(hF:A9 F){b:List Int}{at_:Int}{l:List Int}{end_ e:Int}(ha:0≤at_)(hw:Wd l)(h:e=0→l.length≤65536∧at_≤end_∧end_≤b.length) :
  (bif not (eqI e 0) then some (([]:List Int),((0:Int),(e,()))) else
   (Fl F l).bind fun r14 =>
    bif Km at_ end_ (List.length b) then(Iu F r14.1 (Cu (Ce b end_) at_)).bind fun r17=>bif not r17.1 then some ([],(0,(5,()))) else some (l,(end_,(0,()))) else none)
   = some ((ApL b at_ l end_ e).1,(ApL b at_ l end_ e).2.1,(ApL b at_ l end_ e).2.2,()):=by
 unfold ApL
 by_cases c:e=0
 ·obtain ⟨h1,h2,h3⟩:=h c
  have hs:=Kb hw h1
  have hq:=O6 F hF (a:=nE l) (b:=Cu (Ce b end_) at_) (by omega)
  rw [iP c]
  by_cases d:nE l=Cu (Ce b end_) at_
  ·rw [decide_eq_true d] at hq
   rw [iP d]
   simp (disch:=omega) only [bs,↓iP,↓iN,Fy F hF hw h1,hq]
  ·rw [decide_eq_false d] at hq
   rw [iN d]
   simp (disch:=omega) only [bs,↓iP,↓iN,Fy F hF hw h1,hq]
 ·rw [iN c]
  simp (disch:=omega) only [bs,↓iP,↓iN]
def AiY(b:List Int)(at_ n:Int)(l:List Int)(end_ e:Int):Prop :=
 Wd l∧(e=0→0≤at_∧(l.length:Int)=n∧n≤65536∧at_ < end_∧end_≤b.length∧nE l=Cu (Ce b end_) at_)∧(e≠0→l=[]∧end_=0)
theorem A7Y{b:List Int}(hb:Bt b){n:Nat}{at_:Int}(ha:0≤at_∧at_≤b.length):Wd (plR n b at_).1∧((plR n b at_).2.2=0→(plR n b at_).1.length=n∧at_≤(plR n b at_).2.1∧(plR n b at_).2.1≤b.length):=by
 unfold plR
 by_cases c:(rdn n b at_).2.2=0
 ·rw [iP c]
  obtain ⟨h1,h2,h3,h4,_⟩:=Azj hb ha.1 ha.2 c
  exact ⟨h4,fun _=>⟨h3,h1,h2⟩⟩
 ·rw [iN c]
  exact ⟨Wd.nil,fun h=>absurd h c⟩
theorem AiZ{b:List Int}{at_ n:Int}{l:List Int}{end_ e:Int}(ha:0≤at_)(hn:n≤65536)(hw:Wd l)(h:e=0→(l.length:Int)=n∧at_ < end_∧end_≤b.length) :
  AiY b at_ n (ApL b at_ l end_ e).1 (ApL b at_ l end_ e).2.1 (ApL b at_ l end_ e).2.2:=by
 unfold ApL AiY
 by_cases c:e=0
 ·rw [iP c]
  by_cases d:nE l=Cu (Ce b end_) at_
  ·rw [iP d]
   have:=h c
   exact ⟨hw,fun _=>⟨ha,this.1,hn,this.2.1,this.2.2,d⟩,fun h=>absurd rfl h⟩
  ·rw [iN d]
   exact ⟨Wd.nil,fun h=>by simp at h,fun _=>⟨rfl,rfl⟩⟩
 ·rw [iN c]
  exact ⟨Wd.nil,fun h=>absurd h c,fun _=>⟨rfl,rfl⟩⟩
theorem AiY.err(b:List Int)(at_ n:Int){e:Int}(h:e≠0):AiY b at_ n [] 0 e:=⟨Wd.nil,fun h2=>absurd h2 h,fun _=>⟨rfl,rfl⟩⟩
theorem Akt(F:Nat)(hF:A9 F){b:List Int}(hb:Bt b)(hl:(b.length:Int)≤140737488355328)(at_ n:Int) :
  ∃ l end_ e,Cn F b at_ n=some (l,end_,e,())∧El F b at_ n=some (l,end_,e,())∧AiY b at_ n l end_ e:=by
 by_cases c:at_ < 0∨(b.length:Int) < at_∨n < 0∨65536 < n
 ·refine ⟨[],0,2,?_,?_,AiY.err _ _ _ (by omega)⟩
  ·unfold Cn
   cases h1:ltI at_ 0 with
   | true=>rfl
   | false =>
    cases h2:ltI (Az b) at_ with
    | true=>rfl
    | false =>
     cases h3:ltI n 0 with
     | true=>rfl
     | false =>
      cases h4:ltI 65536 n with
      | true=>rfl
      | false =>
       rw [← Bool.not_eq_true,Aj] at h1 h2 h3 h4
       unfold Az at h2
       omega
  ·unfold El
   cases h1:ltI at_ 0 with
   | true=>rfl
   | false =>
    cases h2:ltI (Az b) at_ with
    | true=>rfl
    | false =>
     cases h3:ltI n 0 with
     | true=>rfl
     | false =>
      cases h4:ltI 65536 n with
      | true=>rfl
      | false =>
       rw [← Bool.not_eq_true,Aj] at h1 h2 h3 h4
       unfold Az at h2
       omega
 ·obtain ⟨m,rfl⟩:=Int.eq_ofNat_of_zero_le (show 0≤n by omega)
  have hm:m≤65536:=by omega
  by_cases c0:at_=b.length
  ·refine ⟨[],0,4,?_,?_,AiY.err _ _ _ (by omega)⟩
   ·unfold Cn C0
    have x1:ltI at_ 0=false:=by rw [← Bool.not_eq_true,Aj]; omega
    have x2:ltI (Az b) at_=false:=by rw [← Bool.not_eq_true,Aj]; unfold Az; omega
    have x3:ltI (m:Int) 0=false:=by rw [← Bool.not_eq_true,Aj]; omega
    have x4:eqI at_ (Az b)=true:=by rw [As]; unfold Az; omega
    have x5:ltI 65536 (m:Int)=false:=by rw [← Bool.not_eq_true,Aj]; omega
    simp only [x1,x2,x3,x4,x5,cT,cF]
   ·unfold El
    have x1:ltI at_ 0=false:=by rw [← Bool.not_eq_true,Aj]; omega
    have x2:ltI (Az b) at_=false:=by rw [← Bool.not_eq_true,Aj]; unfold Az; omega
    have x3:ltI (m:Int) 0=false:=by rw [← Bool.not_eq_true,Aj]; omega
    have x4:eqI at_ (Az b)=true:=by rw [As]; unfold Az; omega
    have x5:ltI 65536 (m:Int)=false:=by rw [← Bool.not_eq_true,Aj]; omega
    simp only [x1,x2,x3,x4,x5,cT,cF]
  ·have hw:=hb.get at_
   generalize hg:An 0 b at_=w at *
   have ha1:0≤at_+1∧at_+1≤b.length:=by omega
   have hlt:ltI 65536 (m:Int)=false:=by rw [← Bool.not_eq_true,Aj]; omega
   by_cases c1:1 < w
   ·refine ⟨[],0,5,?_,?_,AiY.err _ _ _ (by omega)⟩
    ·unfold Cn C0
     have x1:ltI at_ 0=false:=by rw [← Bool.not_eq_true,Aj]; omega
     have x2:ltI (Az b) at_=false:=by rw [← Bool.not_eq_true,Aj]; unfold Az; omega
     have x3:ltI (m:Int) 0=false:=by rw [← Bool.not_eq_true,Aj]; omega
     have x4:eqI at_ (Az b)=false:=by rw [← Bool.not_eq_true,As]; unfold Az; omega
     have x5:inI at_ b.length=true:=by rw [Bo]; omega
     have x6:ltI 1 w=true:=by rw [Aj]; omega
     simp only [x1,x2,x3,x4,x5,x6,hlt,hg,cT,cF]
    ·unfold El
     have x1:ltI at_ 0=false:=by rw [← Bool.not_eq_true,Aj]; omega
     have x2:ltI (Az b) at_=false:=by rw [← Bool.not_eq_true,Aj]; unfold Az; omega
     have x3:ltI (m:Int) 0=false:=by rw [← Bool.not_eq_true,Aj]; omega
     have x4:eqI at_ (Az b)=false:=by rw [← Bool.not_eq_true,As]; unfold Az; omega
     have x5:inI at_ b.length=true:=by rw [Bo]; omega
     have x6:eqI w 0=false:=by rw [← Bool.not_eq_true,As]; omega
     have x7:eqI w 1=false:=by rw [← Bool.not_eq_true,As]; omega
     simp only [x1,x2,x3,x4,x5,x6,x7,hlt,hg,cT,cF]
   ·by_cases c2:w=1
    ·obtain ⟨l,end_,e,p1,p2,p3,p4,p5⟩:=Aks F hF hb hl (n:=(m:Int)) (at_:=at_+1) (by omega) ha1
     have f1:=AiX F hF (b:=b) (at_:=at_) (l:=l) (end_:=end_) (e:=e) (by omega) p3 (fun h=>by have:=p4 h; omega)
     have f2:=Aod F hF (b:=b) (at_:=at_) (l:=l) (end_:=end_) (e:=e) (by omega) p3 (fun h=>by have:=p4 h; omega)
     have f3:=AiZ (b:=b) (at_:=at_) (n:=(m:Int)) (l:=l) (end_:=end_) (e:=e) (by omega) (by omega) p3 (fun h=>by have:=p4 h; omega)
     refine ⟨_,_,_,?_,?_,f3⟩
     ·refine Eq.trans ?_ f1
      unfold Cn C0
      have x1:ltI at_ 0=false:=by rw [← Bool.not_eq_true,Aj]; omega
      have x2:ltI (Az b) at_=false:=by rw [← Bool.not_eq_true,Aj]; unfold Az; omega
      have x3:ltI (m:Int) 0=false:=by rw [← Bool.not_eq_true,Aj]; omega
      have x4:eqI at_ (Az b)=false:=by rw [← Bool.not_eq_true,As]; unfold Az; omega
      have x5:inI at_ b.length=true:=by rw [Bo]; omega
      have x6:ltI 1 w=false:=by rw [← Bool.not_eq_true,Aj]; omega
      have x7:eqI w 1=true:=by rw [As]; exact c2
      have x8:Av .i64 at_ 1=at_+1:=Bc (by omega)
      simp only [x1,x2,x3,x4,x5,x6,x7,x8,hlt,hg,p1,cT,cF,bS]
     ·refine Eq.trans ?_ f2
      unfold El
      have x1:ltI at_ 0=false:=by rw [← Bool.not_eq_true,Aj]; omega
      have x2:ltI (Az b) at_=false:=by rw [← Bool.not_eq_true,Aj]; unfold Az; omega
      have x3:ltI (m:Int) 0=false:=by rw [← Bool.not_eq_true,Aj]; omega
      have x4:eqI at_ (Az b)=false:=by rw [← Bool.not_eq_true,As]; unfold Az; omega
      have x5:inI at_ b.length=true:=by rw [Bo]; omega
      have x6:eqI w 0=false:=by rw [← Bool.not_eq_true,As]; omega
      have x7:eqI w 1=true:=by rw [As]; exact c2
      have x8:Av .i64 at_ 1=at_+1:=Bc (by omega)
      simp only [x1,x2,x3,x4,x5,x6,x7,x8,hlt,hg,p2,cT,cF,bS]
    ·have q1:=Z0 F hF hb hl hm ha1
     have q2:=Acz F hF hb hl hm ha1
     obtain ⟨p3,p4⟩:=A7Y hb (n:=m) ha1
     generalize plR m b (at_+1)=r at *
     obtain ⟨l,end_,e⟩:=r
     simp only at q1 q2 p3 p4
     have f1:=AiX F hF (b:=b) (at_:=at_) (l:=l) (end_:=end_) (e:=e) (by omega) p3 (fun h=>by have:=p4 h; omega)
     have f2:=Aod F hF (b:=b) (at_:=at_) (l:=l) (end_:=end_) (e:=e) (by omega) p3 (fun h=>by have:=p4 h; omega)
     have f3:=AiZ (b:=b) (at_:=at_) (n:=(m:Int)) (l:=l) (end_:=end_) (e:=e) (by omega) (by omega) p3 (fun h=>by have:=p4 h; omega)
     refine ⟨_,_,_,?_,?_,f3⟩
     ·refine Eq.trans ?_ f1
      unfold Cn C0
      have x1:ltI at_ 0=false:=by rw [← Bool.not_eq_true,Aj]; omega
      have x2:ltI (Az b) at_=false:=by rw [← Bool.not_eq_true,Aj]; unfold Az; omega
      have x3:ltI (m:Int) 0=false:=by rw [← Bool.not_eq_true,Aj]; omega
      have x4:eqI at_ (Az b)=false:=by rw [← Bool.not_eq_true,As]; unfold Az; omega
      have x5:inI at_ b.length=true:=by rw [Bo]; omega
      have x6:ltI 1 w=false:=by rw [← Bool.not_eq_true,Aj]; omega
      have x7:eqI w 1=false:=by rw [← Bool.not_eq_true,As]; exact c2
      have x8:Av .i64 at_ 1=at_+1:=Bc (by omega)
      simp only [x1,x2,x3,x4,x5,x6,x7,x8,hlt,hg,q1,cT,cF,bS]
     ·refine Eq.trans ?_ f2
      unfold El
      have x1:ltI at_ 0=false:=by rw [← Bool.not_eq_true,Aj]; omega
      have x2:ltI (Az b) at_=false:=by rw [← Bool.not_eq_true,Aj]; unfold Az; omega
      have x3:ltI (m:Int) 0=false:=by rw [← Bool.not_eq_true,Aj]; omega
      have x4:eqI at_ (Az b)=false:=by rw [← Bool.not_eq_true,As]; unfold Az; omega
      have x5:inI at_ b.length=true:=by rw [Bo]; omega
      have x6:eqI w 0=true:=by rw [As]; omega
      have x8:Av .i64 at_ 1=at_+1:=Bc (by omega)
      simp only [x1,x2,x3,x4,x5,x6,x8,hlt,hg,q2,cT,cF,bS]
def Wm:List Int→Bool
 | []=>true
 | [_]=>true
 | p::x::t=>decide (p < x) && Wm (x::t)
theorem Aj0:∀ {l:List Int} {a b:Int},Wm (l++[a])=true→a < b→Wm (l++[a]++[b])=true
 | [],a,b,_,h=>by simp [Wm,h]
 | [p],a,b,h,hb=>by
  simp [Wm] at h ⊢
  exact ⟨h,hb⟩
 | p::x::t,a,b,h,hb=>by
  simp only [List.cons_append,Wm,Bool.and_eq_true,decide_eq_true_eq] at h ⊢
  exact ⟨h.1,Aj0 (l:=x::t) h.2 hb⟩
theorem Aj1:∀ {l:List Int} {a:Int},Wm (l++[a])=true→Wm l=true
 | [],_,_=>rfl
 | [_],_,_=>rfl
 | p::x::t,a,h=>by
  simp only [List.cons_append,Wm,Bool.and_eq_true,decide_eq_true_eq] at h ⊢
  exact ⟨h.1,Aj1 (l:=x::t) h.2⟩
theorem A3n{a b:Int}(ha:I64 a)(hb:I64 b)(h:b≤a):Bj .u64 (IntKind.wrap .u64 a) (IntKind.wrap .u64 b)=a - b:=by
 unfold I64 at ha hb
 show IntKind.u64.wrap _=_
 rw [Bu,Bu,Bu]
 omega
theorem Yr(z:Int):IntKind.i64.wrap (IntKind.u64.wrap z)=IntKind.i64.wrap z:=by
 obtain ⟨k,hk⟩:=Jt z
 obtain ⟨j,hj⟩:=Jt (IntKind.u64.wrap z)
 refine Aat (Bp _) (Bp _) (k:=j - k - z / 18446744073709551616) ?_
 rw [hj,hk,Bu]
 omega
theorem Axi{t d:Int}(ht:I64 t)(hd:0≤d∧d≤9223372036854775807 - t):IntKind.i64.wrap (Av .u64 (IntKind.wrap .u64 t) d)=t+d:=by
 show IntKind.i64.wrap (IntKind.u64.wrap _)=_
 unfold I64 at ht
 rw [Yr]
 obtain ⟨k,hk⟩:=Jt (IntKind.u64.wrap t+d)
 refine Aat (Bp _) (by unfold I64; omega) (k:=k - t / 18446744073709551616) ?_
 rw [hk,Bu]
 omega
theorem Ys(F:Nat){a b:Int}(ha:I64 a)(hb:I64 b)(h:b≤a):Nu F a b=some (a - b,()):=by
 unfold Nu
 have e:ltI a b=false:=by rw [← Bool.not_eq_true,Aj]; omega
 rw [e,cF,A3n ha hb h]
theorem L8{l:List Int}{j:Nat}(h:j < l.length):l.drop j=An 0 l (j:Int)::l.drop (j+1):=by
 rw [Qn h,Da]
theorem Ue(F:Nat){R:Type}(k0:Option R)(kr:Bool→Option R){l:List Int}(hb:(l.length:Int)≤140737488355328):∀ (m j:Nat),j+1+m=l.length→∀ N,m < N →
  Dc F k0 kr N l ((j:Int)+1)=if Wm (l.drop j)=true then k0 else kr false:=by
 intro m
 induction m with
 | zero =>
  intro j hj N hN
  obtain ⟨N,rfl⟩:∃ M,N=M+1:=⟨N - 1,by omega⟩
  rw [L8 (by omega),List.drop_eq_nil_of_le (by omega),iP (by rfl)]
  unfold Dc
  simp (disch:=omega) only [bs,↓iP,↓iN]
 | succ m ih =>
  intro j hj N hN
  obtain ⟨N,rfl⟩:∃ M,N=M+1:=⟨N - 1,by omega⟩
  have e:=ih (j+1) (by omega) N (by omega)
  have hs:l.drop j=An 0 l (j:Int)::An 0 l ((j:Int)+1)::l.drop (j+2):=by
   rw [L8 (by omega),L8 (j:=j+1) (by omega)]
   simp
  have hs1:l.drop (j+1)=An 0 l ((j:Int)+1)::l.drop (j+2):=by
   rw [L8 (j:=j+1) (by omega)]
   simp
  rw [hs1] at e
  rw [hs]
  simp only [Int.natCast_add,Int.natCast_one] at e
  have hj1:(j:Int)+1 - 1=(j:Int):=by omega
  unfold Dc
  by_cases c:An 0 l ((j:Int)+1)≤An 0 l (j:Int)
  ·have hf:Wm (An 0 l (j:Int)::An 0 l ((j:Int)+1)::l.drop (j+2))=false:=by
    have:decide (An 0 l (j:Int) < An 0 l ((j:Int)+1))=false:=decide_eq_false (by omega)
    simp only [Wm,this,Bool.false_and]
   rw [hf]
   simp (disch:=omega) only [bs,↓iP,↓iN,hj1]
  ·have ht:Wm (An 0 l (j:Int)::An 0 l ((j:Int)+1)::l.drop (j+2))=Wm (An 0 l ((j:Int)+1)::l.drop (j+2)):=by
    have:decide (An 0 l (j:Int) < An 0 l ((j:Int)+1))=true:=decide_eq_true (by omega)
    simp only [Wm,this,Bool.true_and]
   rw [ht,← e]
   simp (disch:=omega) only [bs,↓iP,↓iN,hj1]
theorem Wn(F:Nat)(hF:A9 F){l:List Int}(hb:(l.length:Int)≤140737488355328):Ko F l=some (Wm l,()):=by
 unfold Ko
 by_cases h:l.length=0
 ·have:l=[]:=List.length_eq_zero_iff.1 h
  subst this
  obtain ⟨G,hG⟩:∃ G,F=G+1:=⟨F - 1,by unfold A9 at hF; omega⟩
  rw [hG]
  unfold Dc
  simp (disch:=omega) only [bs,↓iP,↓iN]
  rfl
 ·refine(Ue F _ _ hb (l.length - 1) 0 (by omega) F (by unfold A9 at hF; omega)).trans ?_
  rw [List.drop_zero]
  cases Wm l <;> rfl
theorem AtA(l:List Int)(x:Int):An 0 (l++[x]) (l.length:Int)=x:=by
 rw [Da]; simp [List.getD_eq_getElem?_getD]
def A7Z(b:List Int)(at_ first n:Int)(x:List Int)(end_ e:Int):Prop :=
 Sg x∧(e=0→0≤at_∧(x.length:Int)=n∧1≤n∧n≤65536∧at_ < end_∧end_≤b.length∧Wm x=true∧An 0 x 0=first∧nE (dl x)=Cu (Ce b end_) at_)∧(e≠0→x=[]∧end_=0)
theorem A7Z.err(b:List Int)(at_ first n:Int){e:Int}(h:e≠0):A7Z b at_ first n [] 0 e:=⟨Sg.nil,fun h2=>absurd h2 h,fun _=>⟨rfl,rfl⟩⟩
theorem AtB(F:Nat){R:Type}(kn:List Int×Int×Unit→List Int→Int→Int→Int→Int→Option R)(kr:List Int×Int×Unit→List Int→Option R)(t:List Int×Int×Unit)(l:List Int)(kd:Int){at_ d:Int}(step i:Int)(ha:I64 at_)(hd:1≤d) :
  B1 F kn kr t l kd at_ step i d=if 9223372036854775807 - at_ < d then kr t l else kn t l kd (at_+d) step i:=by
 unfold B1
 have h1:Bj .u64 9223372036854775807 (IntKind.wrap .u64 at_)=9223372036854775807 - at_:=by
  unfold I64 at ha
  show IntKind.u64.wrap _=_
  rw [Bu,Bu]
  omega
 rw [h1]
 by_cases c:9223372036854775807 - at_ < d
 ·rw [iP c]
  simp (disch:=omega) only [bs,↓iP,↓iN]
 ·rw [iN c]
  have h2:=Axi ha (d:=d) (by omega)
  rw [h2]
  simp (disch:=omega) only [bs,↓iP,↓iN]
def Agf(l:List Int)(at_:Int):Prop:=Sg l∧I64 at_∧Wm (l++[at_])=true
theorem Agf.push{l:List Int}{at_ d:Int}(h:Agf l at_)(hd:1≤d)(hm:¬ 9223372036854775807 - at_ < d):Agf (l++[at_]) (at_+d):=by
 obtain ⟨h1,h2,h3⟩:=h
 refine ⟨h1.append (Sg.cons h2 Sg.nil),by unfold I64 at h2 ⊢; omega,Aj0 h3 (by omega)⟩
theorem ApC(F:Nat)(hF:A9 F)(kd:Int){step:Int}(hs:1≤step∧step≤100):∀ (m:Nat) (t:List Int×Int×Unit) (l:List Int) (at_:Int),Em t→Agf l at_→l.length+m≤1000 →
  ∀ N,m < N→∃ t' l',Em t'∧Sg l'∧Wm l'=true∧l'.length≤l.length+m∧∀ (R:Type) (k:List Int×Int×Unit→List Int→Option R) ,A6 F k k N t l kd at_ step (m:Int)=k t' l':=by
 intro m
 induction m with
 | zero =>
  intro t l at_ ht hl hlen N hN
  obtain ⟨N,rfl⟩:∃ M,N=M+1:=⟨N - 1,by omega⟩
  refine ⟨t,l,ht,hl.1,Aj1 hl.2.2,by omega,fun R k=>?_⟩
  unfold A6
  simp (disch:=omega) only [bs,↓iP,↓iN]
 | succ m ih =>
  intro t l at_ ht hl hlen N hN
  obtain ⟨N,rfl⟩:∃ M,N=M+1:=⟨N - 1,by omega⟩
  have hcast:((m+1:Nat):Int)=(m:Int)+1:=by omega
  have hm1:(m:Int)+1 - 1=(m:Int):=by omega
  have hlp:(l++[at_]).length=l.length+1:=by simp
  -- what is common: a distance is put on
  have fin:∀ (t1:List Int×Int×Unit) (d:Int),Em t1→1≤d→(∀ (R:Type) (k:List Int×Int×Unit→List Int→Option R),A6 F k k (N+1) t l kd at_ step ((m:Int)+1) =
    B1 F (fun z20 z21 z22 z23 z24 z25=>A6 F k k N z20 z21 z22 z23 z24 (Bj .i64 z25 1)) (fun z27 z28=>k z27 z28) t1 (l++[at_]) kd at_ step ((m:Int)+1) d) →
    ∃ t' l',Em t'∧Sg l'∧Wm l'=true∧l'.length≤l.length+(m+1)∧∀ (R:Type) (k:List Int×Int×Unit→List Int→Option R),A6 F k k (N+1) t l kd at_ step ((m+1:Nat):Int)=k t' l':=by
   intro t1 d ht1 hd e
   by_cases c:9223372036854775807 - at_ < d
   ·refine ⟨t1,l++[at_],ht1,hl.1.append (Sg.cons hl.2.1 Sg.nil),hl.2.2,by omega,fun R k=>?_⟩
    rw [hcast,e R k,AtB F _ _ t1 (l++[at_]) kd step _ hl.2.1 hd,iP c]
   ·obtain ⟨t',l',g1,g2,g3,g4,g5⟩:=ih t1 (l++[at_]) (at_+d) ht1 (hl.push hd c) (by omega) N (by omega)
    refine ⟨t',l',g1,g2,g3,by omega,fun R k=>?_⟩
    rw [hcast,e R k,AtB F _ _ t1 (l++[at_]) kd step _ hl.2.1 hd,iN c,Ou (by omega),hm1]
    exact g5 R k
  have hr:Bf (l.length+1) 8=true:=by rw [Bq]; omega
  have h0:ltI 0 ((m:Int)+1)=true:=by rw [Aj]; omega
  by_cases k1:kd=1
  ·obtain ⟨t1,v,e1,ht1,hv0,hv⟩:=Am F ht (n:=9) (by omega)
   refine fin t1 (IntKind.u64.wrap (Av .i64 1 v)) ht1 ?_ fun R k=>?_
   ·rw [Bc (by omega),Bi (by omega)]; omega
   ·conv=>lhs; unfold A6
    have q:eqI kd 1=true:=by rw [As]; exact k1
    simp only [h0,hr,q,cT,e1,bS]
  ·have q1:eqI kd 1=false:=by rw [← Bool.not_eq_true,As]; exact k1
   by_cases k2:kd=2
   ·obtain ⟨t1,v,e1,ht1,hv0,hv⟩:=Am F ht (n:=3) (by omega)
    refine fin t1 (Av .u64 step (IntKind.u64.wrap v)) ht1 ?_ fun R k=>?_
    ·rw [Bi (by omega),Dm (by omega)]; omega
    ·conv=>lhs; unfold A6
     have q:eqI kd 2=true:=by rw [As]; exact k2
     simp only [h0,hr,q1,q,cT,cF,e1,bS]
   ·have q2:eqI kd 2=false:=by rw [← Bool.not_eq_true,As]; exact k2
    by_cases k3:kd=3
    ·obtain ⟨t1,w,e1,ht1,hw0,hw⟩:=Hq F hF ht
     obtain ⟨t2,v,e2,ht2,hv0,hv⟩:=Am F ht1 (n:=56) (by omega)
     have hs2:IntKind.u64.wrap (Av .i64 4 v)=4+v:=by rw [Bc (by omega),Bi (by omega)]
     have hsh:Fg .u64 w (4+v)≤1152921504606846975:=by
      obtain ⟨n,rfl⟩:=Int.eq_ofNat_of_zero_le hw0
      rw [I1 (by omega)]
      simp only [IntKind.bits]
      have h4:min (4+v).toNat 64=4+(min (4+v).toNat 64 - 4):=by omega
      rw [h4,Nat.pow_add,← Nat.div_div_eq_div_mul]
      have:=Nat.div_le_self ((n:Int).toNat / 2 ^ 4) (2 ^ (min (4+v).toNat 64 - 4))
      have h5:(n:Int).toNat / 2 ^ 4≤1152921504606846975:=by
       have:Int.ofNat n=(n:Int):=rfl
       omega
      exact Int.le_trans (Int.ofNat_le.2 (Nat.le_trans this h5)) (by omega)
     have hsr:=Tz (kd:=.u64) (s:=4+v) hw0
     refine fin t2 (Av .u64 1 (Fg .u64 w (4+v))) ht2 ?_ fun R k=>?_
     ·rw [Dm (by omega)]; omega
     ·conv=>lhs; unfold A6
      have q:eqI kd 3=true:=by rw [As]; exact k3
      have q0:ltI (4+v) 0=false:=by rw [← Bool.not_eq_true,Aj]; omega
      simp only [h0,hr,q1,q2,q,cT,cF,e1,e2,bS,hs2,q0]
    ·have q3:eqI kd 3=false:=by rw [← Bool.not_eq_true,As]; exact k3
     by_cases k4:kd=4
     ·have q:eqI kd 4=true:=by rw [As]; exact k4
      obtain ⟨t1,bb,e1,ht1⟩:=Se F ht (n:=4) (by omega)
      cases bb with
      | true =>
       obtain ⟨t2,w,e2,ht2,hw0,hw⟩:=Hq F hF ht1
       obtain ⟨t3,v,e3,ht3,hv0,hv⟩:=Am F ht2 (n:=8) (by omega)
       have hs2:IntKind.u64.wrap (Av .i64 1 v)=1+v:=by rw [Bc (by omega),Bi (by omega)]
       have hsh:Fg .u64 w (1+v)≤9223372036854775807:=by
        obtain ⟨n,rfl⟩:=Int.eq_ofNat_of_zero_le hw0
        rw [I1 (by omega)]
        simp only [IntKind.bits]
        have h4:min (1+v).toNat 64=1+(min (1+v).toNat 64 - 1):=by omega
        rw [h4,Nat.pow_add,← Nat.div_div_eq_div_mul]
        have:=Nat.div_le_self ((n:Int).toNat / 2 ^ 1) (2 ^ (min (1+v).toNat 64 - 1))
        have h5:(n:Int).toNat / 2 ^ 1≤9223372036854775807:=by
         have:Int.ofNat n=(n:Int):=rfl
         omega
        exact Int.le_trans (Int.ofNat_le.2 (Nat.le_trans this h5)) (by omega)
       have hsr:=Tz (kd:=.u64) (s:=1+v) hw0
       refine fin t3 (Av .u64 1 (Fg .u64 w (1+v))) ht3 ?_ fun R k=>?_
       ·rw [Dm (by omega)]; omega
       ·conv=>lhs; unfold A6
        have q0:ltI (1+v) 0=false:=by rw [← Bool.not_eq_true,Aj]; omega
        simp only [h0,hr,q1,q2,q3,q,cT,cF,e1,e2,e3,bS,hs2,q0]
      | false =>
       refine fin t1 step ht1 (by omega) fun R k=>?_
       conv=>lhs; unfold A6
       simp only [h0,hr,q1,q2,q3,q,cT,cF,e1,bS]
     ·have q4:eqI kd 4=false:=by rw [← Bool.not_eq_true,As]; exact k4
      refine fin t step ht (by omega) fun R k=>?_
      conv=>lhs; unfold A6
      simp only [h0,hr,q1,q2,q3,q4,cT,cF]
theorem Xp(F:Nat)(hF:A9 F){t:List Int×Int×Unit}(h:Em t){n:Int}(hn:0≤n∧n≤100) :
  ∃ t' l,Lk F t n=some (t',l,())∧Em t'∧Sg l∧Wm l=true∧(l.length:Int)≤n:=by
 obtain ⟨t1,kd,e1,h1,_,_⟩:=Am F h (n:=5) (by omega)
 obtain ⟨t2,at_,e2,h2,ha⟩:=Ih F hF h1
 obtain ⟨t3,s,e3,h3,hs0,hs⟩:=Am F h2 (n:=50) (by omega)
 obtain ⟨t4,m,e4,h4,hm0,hm⟩:=Am F h3 (n:=n+1) (by omega)
 obtain ⟨m,rfl⟩:=Int.eq_ofNat_of_zero_le hm0
 have hst:IntKind.u64.wrap (Av .i64 1 s)=1+s:=by rw [Bc (by omega),Bi (by omega)]
 obtain ⟨t5,l,g1,g2,g3,g4,g5⟩:=ApC F hF kd (step:=1+s) (by omega) m t4 [] at_ h4 ⟨Sg.nil,ha,rfl⟩ (by simp; omega) F (by unfold A9 at hF; omega)
 refine ⟨t5,l,?_,g1,g2,g3,by simp at g4; omega⟩
 unfold Lk
 have hn1:Av .i64 n 1=n+1:=Bc (by omega)
 simp only [e1,e2,e3,hn1,e4,hst,bS]
 exact g5 _ _
theorem Aoe:∀ (l:List Int) (q p x:Int),dfs q (l++[p]++[x])=dfs q (l++[p])++[IntKind.i64.wrap (x - p)]
 | [],q,p,x=>rfl
 | y::l,q,p,x=>by
  have:=Aoe l y p x
  simp only [List.cons_append,dfs]
  rw [this]
theorem A3o(l:List Int)(p x:Int):df (l++[p]++[x])=df (l++[p])++[IntKind.i64.wrap (x - p)]:=by
 cases l with
 | nil=>rfl
 | cons y l=>simp only [List.cons_append,df,Aoe l y p x]
theorem Aj2(x p:Int):IntKind.i64.wrap (Bj .u64 (IntKind.wrap .u64 x) (IntKind.wrap .u64 p))=IntKind.i64.wrap (x - p):=by
 show IntKind.i64.wrap (IntKind.u64.wrap _)=_
 rw [Yr]
 obtain ⟨k,hk⟩:=Jt (IntKind.u64.wrap x - IntKind.u64.wrap p)
 obtain ⟨j,hj⟩:=Jt (x - p)
 refine Aat (Bp _) (Bp _) (k:=k - j - x / 18446744073709551616+p / 18446744073709551616) ?_
 rw [hk,hj,Bu,Bu]
 omega
theorem AdX(x p:Int):IntKind.i64.wrap (Av .u64 (IntKind.wrap .u64 x) (IntKind.wrap .u64 p))=IntKind.i64.wrap (x+p):=by
 show IntKind.i64.wrap (IntKind.u64.wrap _)=_
 rw [Yr]
 obtain ⟨k,hk⟩:=Jt (IntKind.u64.wrap x+IntKind.u64.wrap p)
 obtain ⟨j,hj⟩:=Jt (x+p)
 refine Aat (Bp _) (Bp _) (k:=k - j - x / 18446744073709551616 - p / 18446744073709551616) ?_
 rw [hk,hj,Bu,Bu]
 omega
theorem Z1(F:Nat){R:Type}(k:List Int→Option R):∀ (n:Nat) (c:List Int) (p:Int) (b:List Int),c.length=n→((c++[p]++b).length:Int)≤140737488355328→∀ N,n < N →
  Cf F k N (c++[p]++b) (c.length:Int)=k (df (c++[p])++b):=by
 intro n
 induction n with
 | zero =>
  intro c p b hc hb N hN
  obtain ⟨N,rfl⟩:∃ M,N=M+1:=⟨N - 1,by omega⟩
  have:c=[]:=List.length_eq_zero_iff.1 hc
  subst this
  unfold Cf
  simp (disch:=omega) only [bs,↓iP,↓iN]
  rfl
 | succ n ih =>
  intro c p b hc hb N hN
  obtain ⟨N,rfl⟩:∃ M,N=M+1:=⟨N - 1,by omega⟩
  obtain ⟨c',q,rfl⟩:∃ c' q,c=c'++[q]:=⟨c.dropLast,c.getLast (by intro h; simp [h] at hc),(List.dropLast_concat_getLast _).symm⟩
  simp only [List.length_append,List.length_singleton] at hc
  have hc':c'.length=n:=by omega
  have g1:An 0 (c'++[q]++[p]++b) (((c'++[q]).length:Nat):Int)=p:=by
   rw [List.append_assoc (c'++[q])]
   exact B8 (c'++[q]) p b
  have g0:An 0 (c'++[q]++[p]++b) (c'.length:Int)=q:=by
   rw [List.append_assoc,List.append_assoc]
   exact B8 c' q _
  have s1:Cd (c'++[q]++[p]++b) (((c'++[q]).length:Nat):Int) (IntKind.i64.wrap (p - q))=c'++[q]++(IntKind.i64.wrap (p - q)::b):=by
   rw [List.append_assoc (c'++[q])]
   refine(H7 (c'++[q]) p _ b).trans ?_
   simp
  have hll:(c'++[q]++[p]++b).length=n+2+b.length:=by simp; omega
  have e:=ih c' q (IntKind.i64.wrap (p - q)::b) hc' (by simp at hb ⊢; omega) N (by omega)
  have hfin:df (c'++[q]++[p])++b=df (c'++[q])++(IntKind.i64.wrap (p - q)::b):=by rw [A3o]; simp
  rw [hfin,← e]
  have hlen:(((c'++[q]).length:Nat):Int)=(n:Int)+1:=by simp; omega
  rw [hlen] at g1 s1 ⊢
  rw [hc'] at g0 ⊢
  have hn1:(n:Int)+1 - 1=(n:Int):=by omega
  rw [← s1]
  generalize c'++[q]++[p]++b=l at *
  conv=>lhs; unfold Cf
  unfold T2
  have hw:=Aj2 p q
  simp (disch:=omega) only [bs,↓iP,↓iN,hn1,g1,g0,hw]
theorem Tb(F:Nat)(hF:A9 F){l:List Int}(hb:(l.length:Int)≤140737488355328):Hb F l=some (df l,()):=by
 unfold Hb
 rcases List.eq_nil_or_concat l with h | ⟨c,p,h⟩
 ·subst h
  obtain ⟨G,hG⟩:∃ G,F=G+1:=⟨F - 1,by unfold A9 at hF; omega⟩
  rw [hG]
  unfold Cf
  simp (disch:=omega) only [bs,↓iP,↓iN]
  rfl
 ·rw [List.concat_eq_append] at h
  subst h
  have e:=Z1 F (fun z11=>some (z11,())) c.length c p [] rfl (by simpa using hb) F (by unfold A9 at hF; simp at hb; omega)
  simp only [List.append_nil] at e
  have:Bj .i64 (Az (c++[p])) 1=(c.length:Int):=by
   show IntKind.wrap .i64 _=_
   unfold Az
   simp at hb ⊢
   rw [Cz (by omega)] <;> omega
  rw [this]
  exact e
theorem AtC(F:Nat){R:Type}(k:List Int→Option R):∀ (rest done:List Int) (p:Int),((done++[p]++rest).length:Int)≤140737488355328→∀ N,rest.length < N →
  E3 F k N (done++[p]++rest) ((done.length:Int)+1)=k (done++[p]++sms p rest):=by
 intro rest
 induction rest with
 | nil =>
  intro done p hb N hN
  obtain ⟨N,rfl⟩:∃ M,N=M+1:=⟨N - 1,by omega⟩
  have hll:(done++[p]++[]).length=done.length+1:=by simp
  unfold E3
  simp (disch:=omega) only [bs,↓iP,↓iN]
  rfl
 | cons x rest ih =>
  intro done p hb N hN
  obtain ⟨N,rfl⟩:∃ M,N=M+1:=⟨N - 1,by omega⟩
  simp only [List.length_cons] at hN
  have hlen:(((done++[p]).length:Nat):Int)=(done.length:Int)+1:=by simp
  have g1:An 0 (done++[p]++x::rest) ((done.length:Int)+1)=x:=by rw [← hlen]; exact B8 (done++[p]) x rest
  have g0:An 0 (done++[p]++x::rest) (done.length:Int)=p:=by rw [List.append_assoc]; exact B8 done p _
  have s1:Cd (done++[p]++x::rest) ((done.length:Int)+1) (IntKind.i64.wrap (p+x))=done++[p]++[IntKind.i64.wrap (p+x)]++rest:=by rw [← hlen]; exact H7 (done++[p]) x _ rest
  have e:=ih (done++[p]) (IntKind.i64.wrap (p+x)) (by simp at hb ⊢; omega) N (by omega)
  rw [hlen] at e
  have hll:(done++[p]++x::rest).length=done.length+2+rest.length:=by simp; omega
  have hw:=AdX x p
  rw [Int.add_comm x p] at hw
  have hd1:(done.length:Int)+1 - 1=(done.length:Int):=by omega
  have hfin:done++[p]++sms p (x::rest)=done++[p]++[IntKind.i64.wrap (p+x)]++sms (IntKind.i64.wrap (p+x)) rest:=by simp [sms]
  rw [hfin,← e,← s1]
  generalize done++[p]++x::rest=l at *
  conv=>lhs; unfold E3
  unfold S4
  simp (disch:=omega) only [bs,↓iP,↓iN,hd1,g1,g0,hw]
theorem Z2(F:Nat)(hF:A9 F){l:List Int}(hb:(l.length:Int)≤140737488355328):O2 F l=some (sm l,()):=by
 unfold O2
 cases l with
 | nil =>
  obtain ⟨G,hG⟩:∃ G,F=G+1:=⟨F - 1,by unfold A9 at hF; omega⟩
  rw [hG]
  unfold E3
  simp (disch:=omega) only [bs,↓iP,↓iN]
  rfl
 | cons x t=>exact AtC F _ t [] x (by simpa using hb) F (by unfold A9 at hF; simp at hb; omega)
theorem Aj3(F:Nat)(hF:A9 F){R:Type}(k:List Int→Option R){o:Nat}(ho:o≤2):∀ (m i:Nat) (l:List Int),i+m=o→(l.length:Int)≤140737488355328→∀ N,m < N →
  D6 F k N l (o:Int) (i:Int)=k (dfn m l):=by
 intro m
 induction m with
 | zero =>
  intro i l hi hb N hN
  obtain ⟨N,rfl⟩:∃ M,N=M+1:=⟨N - 1,by omega⟩
  unfold D6
  simp (disch:=omega) only [bs,↓iP,↓iN]
  rfl
 | succ m ih =>
  intro i l hi hb N hN
  obtain ⟨N,rfl⟩:∃ M,N=M+1:=⟨N - 1,by omega⟩
  have e:=ih (i+1) (df l) (by omega) (by rw [AbX]; exact hb) N (by omega)
  simp only [Int.natCast_add,Int.natCast_one] at e
  unfold D6
  simp (disch:=omega) only [bs,↓iP,↓iN,Tb F hF hb]
  exact e
theorem Aj4(F:Nat)(hF:A9 F){R:Type}(k:List Int→Option R){o:Nat}(ho:o≤2):∀ (m i:Nat) (l:List Int),i+m=o→(l.length:Int)≤140737488355328→∀ N,m < N →
  D7 F k N l (o:Int) (i:Int)=k (smn m l):=by
 intro m
 induction m with
 | zero =>
  intro i l hi hb N hN
  obtain ⟨N,rfl⟩:∃ M,N=M+1:=⟨N - 1,by omega⟩
  unfold D7
  simp (disch:=omega) only [bs,↓iP,↓iN]
  rfl
 | succ m ih =>
  intro i l hi hb N hN
  obtain ⟨N,rfl⟩:∃ M,N=M+1:=⟨N - 1,by omega⟩
  have e:=ih (i+1) (sm l) (by omega) (by rw [AbY]; exact hb) N (by omega)
  simp only [Int.natCast_add,Int.natCast_one] at e
  unfold D7
  simp (disch:=omega) only [bs,↓iP,↓iN,Z2 F hF hb]
  exact e
theorem AcA(F:Nat){R:Type}(k:List Int→Option R){src:List Int}(hs:Sg src)(hb:(src.length:Int)≤140737488355328):∀ (rest pre out z:List Int),src=pre++rest→out.length=pre.length→z.length=rest.length→∀ N,rest.length < N →
  Di F k N (out++z) src (src.length:Int) (pre.length:Int)=k (out++zs rest):=by
 intro rest
 induction rest with
 | nil =>
  intro pre out z he ho hz N hN
  obtain ⟨N,rfl⟩:∃ M,N=M+1:=⟨N - 1,by omega⟩
  have:z=[]:=List.length_eq_zero_iff.1 hz
  subst this
  have hlen:src.length=pre.length:=by rw [he]; simp
  unfold Di
  simp (disch:=omega) only [bs,↓iP,↓iN]
  rfl
 | cons x rest ih =>
  intro pre out z he ho hz N hN
  obtain ⟨N,rfl⟩:∃ M,N=M+1:=⟨N - 1,by omega⟩
  obtain ⟨y,z',rfl⟩:∃ y z',z=y::z':=by
   cases z with
   | nil=>simp at hz
   | cons y z'=>exact ⟨y,z',rfl⟩
  simp only [List.length_cons] at hN hz
  have hlen:src.length=pre.length+1+rest.length:=by rw [he]; simp; omega
  have g:An 0 src (pre.length:Int)=x:=by rw [he]; exact B8 pre x rest
  have hx:I64 x:=hs x (by rw [he]; simp)
  have st:Cd (out++y::z') (pre.length:Int) (zz x:Int)=(out++[(zz x:Int)])++z':=by rw [← ho]; exact H7 out y _ z'
  have hol:(out++y::z').length=pre.length+1+z'.length:=by simp; omega
  have e:=ih (pre++[x]) (out++[(zz x:Int)]) z' (by rw [he]; simp) (by simp [ho]) (by omega) N (by omega)
  have hpl:(((pre++[x]).length:Nat):Int)=(pre.length:Int)+1:=by simp
  rw [hpl] at e
  have hz2:out++[(zz x:Int)]++zs rest=out++zs (x::rest):=by simp [zs]
  rw [hz2] at e
  unfold Di
  simp (disch:=omega) only [bs,↓iP,↓iN,g,Zx F hx,st]
  exact e
theorem AbZ(F:Nat){R:Type}(k:List Int→Option R){src:List Int}(hs:Sg src)(hb:(src.length:Int)≤140737488355328):∀ (rest pre out z:List Int),src=pre++rest→out.length=pre.length→z.length=rest.length→∀ N,rest.length < N →
  Ep F k N src (out++z) (pre.length:Int)=k (out++zs rest):=by
 intro rest
 induction rest with
 | nil =>
  intro pre out z he ho hz N hN
  obtain ⟨N,rfl⟩:∃ M,N=M+1:=⟨N - 1,by omega⟩
  have:z=[]:=List.length_eq_zero_iff.1 hz
  subst this
  have hlen:src.length=pre.length:=by rw [he]; simp
  unfold Ep
  simp (disch:=omega) only [bs,↓iP,↓iN]
  rfl
 | cons x rest ih =>
  intro pre out z he ho hz N hN
  obtain ⟨N,rfl⟩:∃ M,N=M+1:=⟨N - 1,by omega⟩
  obtain ⟨y,z',rfl⟩:∃ y z',z=y::z':=by
   cases z with
   | nil=>simp at hz
   | cons y z'=>exact ⟨y,z',rfl⟩
  simp only [List.length_cons] at hN hz
  have hlen:src.length=pre.length+1+rest.length:=by rw [he]; simp; omega
  have g:An 0 src (pre.length:Int)=x:=by rw [he]; exact B8 pre x rest
  have hx:I64 x:=hs x (by rw [he]; simp)
  have st:Cd (out++y::z') (pre.length:Int) (zz x:Int)=(out++[(zz x:Int)])++z':=by rw [← ho]; exact H7 out y _ z'
  have hol:(out++y::z').length=pre.length+1+z'.length:=by simp; omega
  have e:=ih (pre++[x]) (out++[(zz x:Int)]) z' (by rw [he]; simp) (by simp [ho]) (by omega) N (by omega)
  have hpl:(((pre++[x]).length:Nat):Int)=(pre.length:Int)+1:=by simp
  rw [hpl] at e
  have hz2:out++[(zz x:Int)]++zs rest=out++zs (x::rest):=by simp [zs]
  rw [hz2] at e
  unfold Ep
  simp (disch:=omega) only [bs,↓iP,↓iN,g,AbP F hx,st]
  exact e
theorem Oi(n:Nat):(Cl (n:Int) (0:Int)).length=n:=by simp [Cl]
theorem Uf(F:Nat)(hF:A9 F){l:List Int}(hl:Sg l)(hb:(l.length:Int)≤17592186043904)(o:Int) :
  Es F l o=if o < 0∨2 < o then some ([],false,()) else some (zs (dfn o.toNat l),true,()):=by
 unfold Es
 by_cases c0:o < 0
 ·rw [iP (.inl c0)]
  simp (disch:=omega) only [bs,↓iP,↓iN]
 ·by_cases c1:2 < o
  ·rw [iP (.inr c1)]
   simp (disch:=omega) only [bs,↓iP,↓iN]
  ·rw [iN (by omega)]
   obtain ⟨n,rfl⟩:=Int.eq_ofNat_of_zero_le (show 0≤o by omega)
   have hn:n≤2:=by
    have:Int.ofNat n=(n:Int):=rfl
    omega
   have e1:I2 F l=some (l,()):=by
    unfold I2
    simp (disch:=omega) only [bs,↓iP,↓iN]
   have e2:Ol F l (n:Int)=some (dfn n l,()):=Aj3 F hF _ hn n 0 l (by omega) (by omega) F (by unfold A9 at hF; omega)
   have hdl:=C8 n l
   have hds:=Na n hl
   rw [Int.toNat_natCast]
   have x0:ltI (n:Int) 0=false:=by rw [← Bool.not_eq_true,Aj]; omega
   have x1:ltI 2 (n:Int)=false:=by rw [← Bool.not_eq_true,Aj]; omega
   simp only [x0,x1,cF,e1,e2,bS]
   generalize dfn n l=d at *
   have x2:I7 (Az d) (Az d) 8=true:=by rw [K6]; unfold Az; omega
   rw [x2,cT]
   exact AcA F _ hds (by omega) d [] [] (Cl (Az d) 0) rfl rfl (by unfold Az; rw [Oi]) F (by unfold A9 at hF; omega)
theorem ApD(F:Nat){R:Type}(k:List Int→Option R){src:List Int}(hb:(src.length:Int)≤17592186043904):∀ (rest pre:List Int) (p:Int) (out:List Int),src=pre++p::rest→out.length=pre.length+1→∀ N,rest.length < N →
  Bd F k N src out ((pre.length:Int)+1)=k (out++dfs p rest):=by
 intro rest
 induction rest with
 | nil =>
  intro pre p out he ho N hN
  obtain ⟨N,rfl⟩:∃ M,N=M+1:=⟨N - 1,by omega⟩
  have hlen:src.length=pre.length+1:=by rw [he]; simp
  unfold Bd
  simp (disch:=omega) only [bs,↓iP,↓iN]
  simp [dfs]
 | cons x rest ih =>
  intro pre p out he ho N hN
  obtain ⟨N,rfl⟩:∃ M,N=M+1:=⟨N - 1,by omega⟩
  simp only [List.length_cons] at hN
  have hlen:src.length=pre.length+2+rest.length:=by rw [he]; simp; omega
  have g0:An 0 src (pre.length:Int)=p:=by rw [he]; exact B8 pre p _
  have g1:An 0 src ((pre.length:Int)+1)=x:=by
   rw [he,show pre++p::x::rest=(pre++[p])++x::rest by simp,show(pre.length:Int)+1=(((pre++[p]).length:Nat):Int) by simp]
   exact B8 (pre++[p]) x rest
  have e:=ih (pre++[p]) x (out++[IntKind.i64.wrap (x - p)]) (by rw [he]; simp) (by simp [ho]) N (by omega)
  rw [show(((pre++[p]).length:Nat):Int)=(pre.length:Int)+1 by simp,List.append_assoc,List.singleton_append] at e
  have hw:=Aj2 x p
  have hp1:(pre.length:Int)+1 - 1=(pre.length:Int):=by omega
  unfold Bd Yf
  simp (disch:=omega) only [bs,↓iP,↓iN,hp1,g0,g1,hw]
  exact e
theorem Ve(F:Nat)(hF:A9 F){l:List Int}(hb:(l.length:Int)≤17592186043904):J1 F l=some (df l,()):=by
 unfold J1
 obtain ⟨G,hG⟩:∃ G,F=G+1:=⟨F - 1,by unfold A9 at hF; omega⟩
 cases l with
 | nil =>
  rw [hG]
  unfold Bd
  simp (disch:=omega) only [bs,↓iP,↓iN]
  rfl
 | cons x t =>
  have e:=ApD F (fun z=>some (z,())) hb t [] x [x] rfl rfl G (by unfold A9 at hF; simp at hb; omega)
  have hll:(x::t).length=t.length+1:=rfl
  have g:An 0 (x::t) 0=x:=rfl
  have step:Bd F (fun z=>some (z,())) (G+1) (x::t) [] 0=Bd F (fun z=>some (z,())) G (x::t) [x] 1:=by
   have r1:Bf (([]:List Int).length+1) 8=true:=rfl
   conv=>lhs; unfold Bd
   generalize x::t=l at *
   simp only [r1,cT]
   simp (disch:=omega) only [bs,↓iP,↓iN,g,List.nil_append]
   rfl
  have hFG:Bd F (fun z=>some (z,())) F (x::t) [] 0=Bd F (fun z=>some (z,())) (G+1) (x::t) [] 0:=by rw [← hG]
  rw [hFG,step]
  exact e
theorem AtD(F:Nat)(hF:A9 F){R:Type}(k:List Int→Option R){o:Nat}(ho:o≤2):∀ (m i:Nat) (l:List Int),i+m=o→(l.length:Int)≤17592186043904→∀ N,m < N →
  Eo F k N l (o:Int) (i:Int)=k (dfn m l):=by
 intro m
 induction m with
 | zero =>
  intro i l hi hb N hN
  obtain ⟨N,rfl⟩:∃ M,N=M+1:=⟨N - 1,by omega⟩
  unfold Eo
  simp (disch:=omega) only [bs,↓iP,↓iN]
  rfl
 | succ m ih =>
  intro i l hi hb N hN
  obtain ⟨N,rfl⟩:∃ M,N=M+1:=⟨N - 1,by omega⟩
  have e:=ih (i+1) (df l) (by omega) (by rw [AbX]; exact hb) N (by omega)
  simp only [Int.natCast_add,Int.natCast_one] at e
  unfold Eo
  simp (disch:=omega) only [bs,↓iP,↓iN,Ve F hF hb]
  exact e
theorem Xq(F:Nat)(hF:A9 F){l:List Int}(hl:Sg l)(hb:(l.length:Int)≤17592186043904)(o:Int) :
  Jl F l o=if o < 0∨2 < o then some ([],false,()) else some (zs (dfn o.toNat l),true,()):=by
 unfold Jl
 by_cases c0:o < 0
 ·rw [iP (.inl c0)]
  simp (disch:=omega) only [bs,↓iP,↓iN]
 ·by_cases c1:2 < o
  ·rw [iP (.inr c1)]
   simp (disch:=omega) only [bs,↓iP,↓iN]
  ·rw [iN (by omega)]
   obtain ⟨n,rfl⟩:=Int.eq_ofNat_of_zero_le (show 0≤o by omega)
   have hn:n≤2:=by
    have:Int.ofNat n=(n:Int):=rfl
    omega
   have hdl:=C8 n l
   have hds:=Na n hl
   rw [Int.toNat_natCast]
   have x0:ltI (n:Int) 0=false:=by rw [← Bool.not_eq_true,Aj]; omega
   have x1:ltI 2 (n:Int)=false:=by rw [← Bool.not_eq_true,Aj]; omega
   simp only [x0,x1,cF]
   refine(AtD F hF _ hn n 0 l (by omega) (by omega) F (by unfold A9 at hF; omega)).trans ?_
   generalize dfn n l=d at *
   have x2:I7 (Az d) (Az d) 8=true:=by rw [K6]; unfold Az; omega
   simp only [x2,cT]
   exact AbZ F _ hds (by omega) d [] [] (Cl (Az d) 0) rfl rfl (by unfold Az; rw [Oi]) F (by unfold A9 at hF; omega)
def rEe(l:List Int):List Int×Int:=if 65536 < l.length then([],3) else(rE l,0)
theorem Xr(F:Nat)(hF:A9 F){l:List Int}(hl:Sg l)(hb:(l.length:Int)≤17592186043904):Ek F l=some ((rEe l).1,(rEe l).2,()):=by
 have hR:=Uf F hF hl hb
 unfold Ek Ly rEe
 have r0:=hR 0
 have r1:=hR 1
 have r2:=hR 2
 rw [iN (by omega)] at r0 r1 r2
 rw [show(0:Int).toNat=0 from rfl] at r0
 rw [show(1:Int).toNat=1 from rfl] at r1
 rw [show(2:Int).toNat=2 from rfl] at r2
 have x0:ltI (0:Int) 3=true:=rfl
 rw [x0,cT,r0]
 simp only [bS]
 by_cases h:65536 < l.length
 ·rw [iP h,Xo F (by rw [Fd,C8]; exact h)]
  rfl
 ·rw [iN h]
  have n0:=Hr F hF (Vd (Na 0 hl)) (by rw [Fd,C8]; omega)
  have n1:=Hr F hF (Vd (Na 1 hl)) (by rw [Fd,C8]; omega)
  have n2:=Hr F hF (Vd (Na 2 hl)) (by rw [Fd,C8]; omega)
  have s0:=Kb (Vd (Na 0 hl)) (by rw [Fd,C8]; omega)
  have s1:=Kb (Vd (Na 1 hl)) (by rw [Fd,C8]; omega)
  have s2:=Kb (Vd (Na 2 hl)) (by rw [Fd,C8]; omega)
  have q0:rO 0 l=0::nE (zs (dfn 0 l)):=rfl
  have q1:rO 1 l=1::nE (zs (dfn 1 l)):=rfl
  have q2:rO 2 l=2::nE (zs (dfn 2 l)):=rfl
  obtain ⟨G,hG⟩:∃ G,F=G+3:=⟨F - 3,by unfold A9 at hF; omega⟩
  have z:eqI (0:Int) 0=true:=rfl
  have w0:IntKind.wrap .u8 (0:Int)=0:=rfl
  have w1:IntKind.wrap .u8 (1:Int)=1:=rfl
  have w2:IntKind.wrap .u8 (2:Int)=2:=rfl
  have a1:Av .i64 (0:Int) 1=1:=rfl
  have a2:Av .i64 (1:Int) 1=2:=rfl
  have a3:Av .i64 (2:Int) 1=3:=rfl
  have rm:∀ c:List Int,c.length≤524290→Bf (1+c.length) 1=true:=fun c hc=>by rw [Bq]; omega
  -- one more order
  have step:∀ (N:Nat) (best:List Int) (o:Nat) (c:List Int),best≠[]→best.length≤524291→c.length≤524290→ltI (o:Int) 3=true→Es F l (o:Int)=some (zs (dfn o l),true,())→Bm F (zs (dfn o l))=some (c,0,())→IntKind.wrap .u8 (o:Int)=(o:Int) →
    Cb F (fun z=>some (z,(0,()))) (fun z28 z29=>some (z28,(z29,()))) (N+1) l best (o:Int)=Cb F (fun z=>some (z,(0,()))) (fun z28 z29=>some (z28,(z29,()))) N l (Ff ((o:Int)::c) best) (Av .i64 (o:Int) 1):=by
   intro N best o c hne hbl hcl ho hr hc hw
   conv=>lhs; unfold Cb
   have he:List.isEmpty best=false:=by cases best with | nil=>exact absurd rfl hne | cons _ _=>rfl
   simp only [ho,cT,hr,bS,hc,z,Bool.not_true,cF,he]
   by_cases cc:c.length+1 < best.length
   ·have x:ltI (Av .i64 (Az c) 1) (Az best)=true:=by rw [Bc (by unfold Az; omega),Aj]; unfold Az; omega
    rw [x,cT,rm c hcl,cT,hw]
    unfold Ff
    rw [iP (by simpa using cc)]
    rfl
   ·have x:ltI (Av .i64 (Az c) 1) (Az best)=false:=by rw [← Bool.not_eq_true,Bc (by unfold Az; omega),Aj]; unfold Az; omega
    rw [x,cF]
    unfold Ff
    rw [iN (by simpa using cc)]
  have last:∀ (N:Nat) (best:List Int),Cb F (fun z=>some (z,(0,()))) (fun z28 z29=>some (z28,(z29,()))) (N+1) l best 3=some (best,(0,())):=fun N best=>rfl
  have e1:=step (G+2) (rO 0 l) 1 (nE (zs (dfn 1 l))) (by rw [q0]; simp) (by rw [q0]; simp; omega) s1 rfl r1 n1 rfl
  have hs1:(Ff (rO 1 l) (rO 0 l)).length≤524291:=by
   have:=(H9 (rO 1 l) (rO 0 l)).2.2
   rw [q0] at this ⊢; simp at this; omega
  have hne1:Ff (rO 1 l) (rO 0 l)≠[]:=by
   rcases (H9 (rO 1 l) (rO 0 l)).1 with h | h <;> rw [h]
   ·rw [q1]; simp
   ·rw [q0]; simp
  have e2:=step (G+1) (Ff (rO 1 l) (rO 0 l)) 2 (nE (zs (dfn 2 l))) hne1 hs1 s2 rfl r2 n2 rfl
  have e3:=last G (Ff (rO 2 l) (Ff (rO 1 l) (rO 0 l)))
  simp only [n0,bS,z,Bool.not_true,cF,rm _ s0,cT,w0,a1]
  have hF3:Cb F (fun z=>some (z,(0,()))) (fun z28 z29=>some (z28,(z29,()))) F l ([0]++nE (zs (dfn 0 l))) 1=Cb F (fun z=>some (z,(0,()))) (fun z28 z29=>some (z28,(z29,()))) (G+2+1) l (rO 0 l) 1:=by
   rw [q0,show G+2+1=F by omega]
   rfl
  refine hF3.trans (e1.trans ?_)
  refine Eq.trans ?_ (e2.trans ?_)
  ·rfl
  ·exact e3
theorem Ug(F:Nat)(hF:A9 F){l:List Int}(hl:Sg l)(hb:(l.length:Int)≤17592186043904):Oc F l=some ((rEe l).1,(rEe l).2,()):=by
 unfold Oc rEe
 by_cases h:65536 < l.length
 ·rw [iP h]
  simp (disch:=omega) only [bs,↓iP,↓iN]
 ·rw [iN h]
  have hlt:ltI 65536 (Az l)=false:=by rw [← Bool.not_eq_true,Aj]; unfold Az; omega
  rw [hlt,cF]
  have hR:=Xq F hF hl hb
  have r0:=hR 0
  have r1:=hR 1
  have r2:=hR 2
  rw [iN (by omega)] at r0 r1 r2
  rw [show(0:Int).toNat=0 from rfl] at r0
  rw [show(1:Int).toNat=1 from rfl] at r1
  rw [show(2:Int).toNat=2 from rfl] at r2
  have n0:=Fy F hF (Vd (Na 0 hl)) (by rw [Fd,C8]; omega)
  have n1:=Fy F hF (Vd (Na 1 hl)) (by rw [Fd,C8]; omega)
  have n2:=Fy F hF (Vd (Na 2 hl)) (by rw [Fd,C8]; omega)
  have s0:=Kb (Vd (Na 0 hl)) (by rw [Fd,C8]; omega)
  have s1:=Kb (Vd (Na 1 hl)) (by rw [Fd,C8]; omega)
  have s2:=Kb (Vd (Na 2 hl)) (by rw [Fd,C8]; omega)
  have q0:rO 0 l=0::nE (zs (dfn 0 l)):=rfl
  have q1:rO 1 l=1::nE (zs (dfn 1 l)):=rfl
  obtain ⟨G,hG⟩:∃ G,F=G+4:=⟨F - 4,by unfold A9 at hF; omega⟩
  have rm:∀ c:List Int,c.length≤524290→Bf (1+c.length) 1=true:=fun c hc=>by rw [Bq]; omega
  have first:∀ N:Nat,Bx F (fun z=>some (z,((0:Int),()))) (N+1) l [] 0=Bx F (fun z=>some (z,((0:Int),()))) N l (rO 0 l) 1:=by
   intro N
   conv=>lhs; unfold Bx
   simp only [show leI (0:Int) 2=true from rfl,cT,r0,bS,n0,show eqI (0:Int) 0=true from rfl,rm _ s0]
   rfl
  have step:∀ (N:Nat) (best:List Int) (o:Nat) (c:List Int),best.length≤524291→c.length≤524290→leI (o:Int) 2=true→eqI (o:Int) 0=false→Jl F l (o:Int)=some (zs (dfn o l),true,())→Fl F (zs (dfn o l))=some (c,0,())→IntKind.wrap .u8 (o:Int)=(o:Int) →
    Bx F (fun z=>some (z,((0:Int),()))) (N+1) l best (o:Int)=Bx F (fun z=>some (z,((0:Int),()))) N l (Ff ((o:Int)::c) best) (Av .i64 (o:Int) 1):=by
   intro N best o c hbl hcl ho ho0 hr hc hw
   conv=>lhs; unfold Bx
   simp only [ho,cT,hr,bS,hc,ho0,cF]
   by_cases cc:c.length+1 < best.length
   ·have x:ltI (Av .i64 1 (Az c)) (Az best)=true:=by rw [Bc (by unfold Az; omega),Aj]; unfold Az; omega
    rw [x,cT,rm c hcl,cT,hw]
    unfold Ff
    rw [iP (by simpa using cc)]
    rfl
   ·have x:ltI (Av .i64 1 (Az c)) (Az best)=false:=by rw [← Bool.not_eq_true,Bc (by unfold Az; omega),Aj]; unfold Az; omega
    rw [x,cF]
    unfold Ff
    rw [iN (by simpa using cc)]
  have last:∀ (N:Nat) (best:List Int),Bx F (fun z=>some (z,((0:Int),()))) (N+1) l best 3=some (best,(0,())):=fun N best=>rfl
  have e0:=first (G+3)
  have e1:=step (G+2) (rO 0 l) 1 (nE (zs (dfn 1 l))) (by rw [q0]; simp; omega) s1 rfl rfl r1 n1 rfl
  have hs1:(Ff (rO 1 l) (rO 0 l)).length≤524291:=by
   have:=(H9 (rO 1 l) (rO 0 l)).2.2
   rw [q0] at this ⊢; simp at this; omega
  have e2:=step (G+1) (Ff (rO 1 l) (rO 0 l)) 2 (nE (zs (dfn 2 l))) hs1 s2 rfl rfl r2 n2 rfl
  have e3:=last G (Ff (rO 2 l) (Ff (rO 1 l) (rO 0 l)))
  have hF4:Bx F (fun z=>some (z,((0:Int),()))) F l [] 0=Bx F (fun z=>some (z,((0:Int),()))) (G+3+1) l [] 0:=by rw [show G+3+1=F by omega]
  exact hF4.trans (e0.trans (e1.trans (e2.trans e3)))
theorem Axj(F:Nat){R:Type}(k:List Int→Int→Int→List Int→Option R)(b:List Int)(at_ end_:Int){src:List Int}(hs:Wd src)(hb:(src.length:Int)≤140737488355328):∀ (rest pre out z:List Int),src=pre++rest→out.length=pre.length→z.length=rest.length→∀ N,rest.length < N →
  Ea F k N b at_ end_ (out++z) src (src.length:Int) (pre.length:Int)=k b at_ end_ (out++us rest):=by
 intro rest
 induction rest with
 | nil =>
  intro pre out z he ho hz N hN
  obtain ⟨N,rfl⟩:∃ M,N=M+1:=⟨N - 1,by omega⟩
  have:z=[]:=List.length_eq_zero_iff.1 hz
  subst this
  have hlen:src.length=pre.length:=by rw [he]; simp
  unfold Ea
  simp (disch:=omega) only [bs,↓iP,↓iN]
  rfl
 | cons x rest ih =>
  intro pre out z he ho hz N hN
  obtain ⟨N,rfl⟩:∃ M,N=M+1:=⟨N - 1,by omega⟩
  obtain ⟨y,z',rfl⟩:∃ y z',z=y::z':=by
   cases z with
   | nil=>simp at hz
   | cons y z'=>exact ⟨y,z',rfl⟩
  simp only [List.length_cons] at hN hz
  have hlen:src.length=pre.length+1+rest.length:=by rw [he]; simp; omega
  have g:An 0 src (pre.length:Int)=x:=by rw [he]; exact B8 pre x rest
  have hx:0≤x∧x≤18446744073709551615:=hs x (by rw [he]; simp)
  obtain ⟨v,rfl⟩:=Int.eq_ofNat_of_zero_le hx.1
  have hU:=Xg F (n:=v) (by have:Int.ofNat v=(v:Int):=rfl; omega)
  have st:Cd (out++y::z') (pre.length:Int) (uz v)=(out++[uz v])++z':=by rw [← ho]; exact H7 out y _ z'
  have hol:(out++y::z').length=pre.length+1+z'.length:=by simp; omega
  have e:=ih (pre++[(v:Int)]) (out++[uz v]) z' (by rw [he]; simp) (by simp [ho]) (by omega) N (by omega)
  have hpl:(((pre++[(v:Int)]).length:Nat):Int)=(pre.length:Int)+1:=by simp
  rw [hpl] at e
  have hz2:out++[uz v]++us rest=out++us ((v:Int)::rest):=by simp [us]
  rw [hz2] at e
  unfold Ea
  simp (disch:=omega) only [bs,↓iP,↓iN,g,hU,st]
  exact e
theorem AtE(F:Nat){R:Type}(k:List Int→Int→Int→List Int→Option R)(b:List Int)(at_ end_:Int){src:List Int}(hs:Wd src)(hb:(src.length:Int)≤140737488355328):∀ (rest pre out z:List Int),src=pre++rest→out.length=pre.length→z.length=rest.length→∀ N,rest.length < N →
  F9 F k N b at_ (src.length:Int) src end_ (out++z) (pre.length:Int)=k b at_ end_ (out++us rest):=by
 intro rest
 induction rest with
 | nil =>
  intro pre out z he ho hz N hN
  obtain ⟨N,rfl⟩:∃ M,N=M+1:=⟨N - 1,by omega⟩
  have:z=[]:=List.length_eq_zero_iff.1 hz
  subst this
  have hlen:src.length=pre.length:=by rw [he]; simp
  unfold F9
  simp (disch:=omega) only [bs,↓iP,↓iN]
  rfl
 | cons x rest ih =>
  intro pre out z he ho hz N hN
  obtain ⟨N,rfl⟩:∃ M,N=M+1:=⟨N - 1,by omega⟩
  obtain ⟨y,z',rfl⟩:∃ y z',z=y::z':=by
   cases z with
   | nil=>simp at hz
   | cons y z'=>exact ⟨y,z',rfl⟩
  simp only [List.length_cons] at hN hz
  have hlen:src.length=pre.length+1+rest.length:=by rw [he]; simp; omega
  have g:An 0 src (pre.length:Int)=x:=by rw [he]; exact B8 pre x rest
  have hx:0≤x∧x≤18446744073709551615:=hs x (by rw [he]; simp)
  obtain ⟨v,rfl⟩:=Int.eq_ofNat_of_zero_le hx.1
  have hU:=Ym F (n:=v) (by have:Int.ofNat v=(v:Int):=rfl; omega)
  have st:Cd (out++y::z') (pre.length:Int) (uz v)=(out++[uz v])++z':=by rw [← ho]; exact H7 out y _ z'
  have hol:(out++y::z').length=pre.length+1+z'.length:=by simp; omega
  have e:=ih (pre++[(v:Int)]) (out++[uz v]) z' (by rw [he]; simp) (by simp [ho]) (by omega) N (by omega)
  have hpl:(((pre++[(v:Int)]).length:Nat):Int)=(pre.length:Int)+1:=by simp
  rw [hpl] at e
  have hz2:out++[uz v]++us rest=out++us ((v:Int)::rest):=by simp [us]
  rw [hz2] at e
  unfold F9
  simp (disch:=omega) only [bs,↓iP,↓iN,g,hU,st]
  exact e
theorem AtF(F:Nat){R:Type}(k:List Int→Option R){src:List Int}(hb:(src.length:Int)≤17592186043904):∀ (rest pre out:List Int) (p:Int),src=pre++rest→out.length+1=pre.length→∀ N,rest.length < N →
  C1 F k N src (out++[p]) (pre.length:Int)=k (out++[p]++sms p rest):=by
 intro rest
 induction rest with
 | nil =>
  intro pre out p he ho N hN
  obtain ⟨N,rfl⟩:∃ M,N=M+1:=⟨N - 1,by omega⟩
  have hlen:src.length=pre.length:=by rw [he]; simp
  unfold C1
  simp (disch:=omega) only [bs,↓iP,↓iN]
  simp [sms]
 | cons x rest ih =>
  intro pre out p he ho N hN
  obtain ⟨N,rfl⟩:∃ M,N=M+1:=⟨N - 1,by omega⟩
  simp only [List.length_cons] at hN
  have hlen:src.length=pre.length+1+rest.length:=by rw [he]; simp; omega
  have g1:An 0 src (pre.length:Int)=x:=by rw [he]; exact B8 pre x rest
  have g0:An 0 (out++[p]) ((pre.length:Int) - 1)=p:=by
   rw [show(pre.length:Int) - 1=(out.length:Int) by omega]
   exact AtA out p
  have e:=ih (pre++[x]) (out++[p]) (IntKind.i64.wrap (p+x)) (by rw [he]; simp) (by simp; omega) N (by omega)
  rw [show(((pre++[x]).length:Nat):Int)=(pre.length:Int)+1 by simp] at e
  have hfin:out++[p]++[IntKind.i64.wrap (p+x)]++sms (IntKind.i64.wrap (p+x)) rest=out++[p]++sms p (x::rest):=by simp [sms]
  rw [hfin] at e
  have hol:(out++[p]).length=pre.length:=by simp; omega
  have hw:=AdX p x
  unfold C1 Wf
  simp (disch:=omega) only [bs,↓iP,↓iN,g0,g1,hw]
  exact e
theorem Agg(F:Nat)(hF:A9 F){l:List Int}(hb:(l.length:Int)≤17592186043904):U5 F l=some (sm l,()):=by
 unfold U5
 obtain ⟨G,hG⟩:∃ G,F=G+1:=⟨F - 1,by unfold A9 at hF; omega⟩
 cases l with
 | nil =>
  rw [hG]
  unfold C1
  simp (disch:=omega) only [bs,↓iP,↓iN]
  rfl
 | cons x t =>
  have e:=AtF F (fun z=>some (z,())) hb t [x] [] x rfl rfl G (by unfold A9 at hF; simp at hb; omega)
  have hll:(x::t).length=t.length+1:=rfl
  have g:An 0 (x::t) 0=x:=rfl
  have step:C1 F (fun z=>some (z,())) (G+1) (x::t) [] 0=C1 F (fun z=>some (z,())) G (x::t) [x] 1:=by
   have r1:Bf (([]:List Int).length+1) 8=true:=rfl
   conv=>lhs; unfold C1
   generalize x::t=l at *
   simp only [r1,cT]
   simp (disch:=omega) only [bs,↓iP,↓iN,g,List.nil_append]
   rfl
  have hFG:C1 F (fun z=>some (z,())) F (x::t) [] 0=C1 F (fun z=>some (z,())) (G+1) (x::t) [] 0:=by rw [← hG]
  rw [hFG,step]
  exact e
theorem Axk(F:Nat)(hF:A9 F){R:Type}(k:List Int→Int→Int→List Int→Option R){b:List Int}{at_:Int}(end_:Int)(hat:inI at_ b.length=true){o:Nat}(ho:o≤2)(hg:An 0 b at_=(o:Int)):∀ (m i:Nat) (l:List Int),i+m=o→(l.length:Int)≤17592186043904→∀ N,m < N →
  Ga F k N b at_ end_ l (i:Int)=k b at_ end_ (smn m l):=by
 have hw:IntKind.wrap .i64 (o:Int)=(o:Int):=Cz (by omega)
 intro m
 induction m with
 | zero =>
  intro i l hi hb N hN
  obtain ⟨N,rfl⟩:∃ M,N=M+1:=⟨N - 1,by omega⟩
  unfold Ga
  rw [hat,cT,hg,hw]
  simp (disch:=omega) only [bs,↓iP,↓iN]
  rfl
 | succ m ih =>
  intro i l hi hb N hN
  obtain ⟨N,rfl⟩:∃ M,N=M+1:=⟨N - 1,by omega⟩
  have e:=ih (i+1) (sm l) (by omega) (by rw [AbY]; exact hb) N (by omega)
  simp only [Int.natCast_add,Int.natCast_one] at e
  unfold Ga
  rw [hat,cT,hg,hw]
  simp (disch:=omega) only [bs,↓iP,↓iN,Agg F hF hb]
  exact e
def Aj5(b:List Int)(at_ n:Int)(x:List Int)(end_ e:Int):Prop :=
 Sg x∧(e=0→0≤at_∧(x.length:Int)=n∧n≤65536∧at_ < end_∧end_≤b.length∧rE x=Cu (Ce b end_) at_)∧(e≠0→x=[]∧end_=0)
theorem Aj5.err(b:List Int)(at_ n:Int){e:Int}(h:e≠0):Aj5 b at_ n [] 0 e:=⟨Sg.nil,fun h2=>absurd h2 h,fun _=>⟨rfl,rfl⟩⟩
theorem Agh{l:List Int}(hl:Sg l)(hn:l.length≤65536):(rE l).length≤524291∧0 < (rE l).length∧Bt (rE l):=by
 obtain ⟨n,h1,h2⟩:=Bdd l
 rw [h2]
 exact ⟨(Aob hl hn).1,(Aob hl hn).2,Bdc h1 hl⟩
theorem Azn{l:List Int}(hn:l.length≤65536):rEe l=(rE l,0):=by unfold rEe; rw [iN (by omega)]
theorem A3p(F:Nat)(hF:A9 F){b:List Int}(hb:Bt b)(hl:(b.length:Int)≤140737488355328)(at_ n:Int) :
  ∃ x end_ e,Dq F b at_ n=some (x,end_,e,())∧Gl F b at_ n=some (x,end_,e,())∧Aj5 b at_ n x end_ e:=by
 by_cases c:at_ < 0∨(b.length:Int) < at_∨n < 0∨65536 < n
 ·refine ⟨[],0,2,?_,?_,Aj5.err _ _ _ (by omega)⟩
  ·unfold Dq
   cases h1:ltI at_ 0 with
   | true=>rfl
   | false =>
    cases h2:ltI (Az b) at_ with
    | true=>rfl
    | false =>
     cases h3:ltI n 0 with
     | true=>rfl
     | false =>
      cases h4:ltI 65536 n with
      | true=>rfl
      | false =>
       rw [← Bool.not_eq_true,Aj] at h1 h2 h3 h4
       unfold Az at h2
       omega
  ·unfold Gl
   cases h1:ltI at_ 0 with
   | true=>rfl
   | false =>
    cases h2:ltI (Az b) at_ with
    | true=>rfl
    | false =>
     cases h3:ltI n 0 with
     | true=>rfl
     | false =>
      cases h4:ltI 65536 n with
      | true=>rfl
      | false =>
       rw [← Bool.not_eq_true,Aj] at h1 h2 h3 h4
       unfold Az at h2
       omega
 ·obtain ⟨m,rfl⟩:=Int.eq_ofNat_of_zero_le (show 0≤n by omega)
  have hm:m≤65536:=by
   have:Int.ofNat m=(m:Int):=rfl
   omega
  have x1:ltI at_ 0=false:=by rw [← Bool.not_eq_true,Aj]; omega
  have x2:ltI (Az b) at_=false:=by rw [← Bool.not_eq_true,Aj]; unfold Az; omega
  have x3:ltI (m:Int) 0=false:=by rw [← Bool.not_eq_true,Aj]; omega
  have x4:ltI 65536 (m:Int)=false:=by rw [← Bool.not_eq_true,Aj]; omega
  by_cases c0:at_=b.length
  ·have x5:eqI at_ (Az b)=true:=by rw [As]; unfold Az; omega
   refine ⟨[],0,4,?_,?_,Aj5.err _ _ _ (by omega)⟩
   ·unfold Dq Cc
    simp only [x1,x2,x3,x4,x5,cT,cF]
   ·unfold Gl
    simp only [x1,x2,x3,x4,x5,cT,cF]
  ·have x5:eqI at_ (Az b)=false:=by rw [← Bool.not_eq_true,As]; unfold Az; omega
   have x6:inI at_ b.length=true:=by rw [Bo]; omega
   have hw:=hb.get at_
   obtain ⟨o,hg⟩:=Int.eq_ofNat_of_zero_le hw.1
   have hg:An 0 b at_=(o:Int):=hg
   by_cases c1:2 < o
   ·have x7:ltI 2 (o:Int)=true:=by rw [Aj]; omega
    refine ⟨[],0,5,?_,?_,Aj5.err _ _ _ (by omega)⟩
    ·unfold Dq Cc
     simp only [x1,x2,x3,x4,x5,x6,hg,x7,cT,cF]
    ·unfold Gl
     simp only [x1,x2,x3,x4,x5,x6,hg,x7,cT,cF]
   ·have x7:ltI 2 (o:Int)=false:=by rw [← Bool.not_eq_true,Aj]; omega
    have x8:Av .i64 at_ 1=at_+1:=Bc (by omega)
    obtain ⟨l,end_,e,d1,d2,d3,d4,d5⟩:=Akt F hF hb hl (at_+1) (m:Int)
    by_cases ce:e=0
    ·subst ce
     obtain ⟨g1,g2,g3,g4,g5,g6⟩:=d4 rfl
     have hlm:l.length=m:=by omega
     have hS:Sg (smn o (us l)):=Azm o (A7X d3)
     have hLen:(smn o (us l)).length=m:=by rw [AdW,Xm,hlm]
     have f1:=fun (R:Type) (k:List Int→Int→Int→List Int→Option R)=>Axj F k b at_ end_ d3 (by omega) l [] [] (Cl (m:Int) 0) rfl rfl (by rw [Oi,hlm]) F (by unfold A9 at hF; omega)
     have f2:=fun (R:Type) (k:List Int→Int→Int→List Int→Option R)=>AtE F k b at_ end_ d3 (by omega) l [] [] (Cl (m:Int) 0) rfl rfl (by rw [Oi,hlm]) F (by unfold A9 at hF; omega)
     have p1:F4 F (us l) (IntKind.wrap .i64 (o:Int))=some (smn o (us l),()):=by
      rw [Cz (by omega)]
      exact Aj4 F hF _ (by omega) o 0 (us l) (by omega) (by rw [Xm]; omega) F (by unfold A9 at hF; omega)
     have p2:=fun (R:Type) (k:List Int→Int→Int→List Int→Option R)=>Axk F hF k end_ x6 (o:=o) (by omega) hg o 0 (us l) (by omega) (by rw [Xm]; omega) F (by unfold A9 at hF; omega)
     have E1:=Xr F hF hS (by omega)
     have E2:=Ug F hF hS (by omega)
     rw [Azn (by omega)] at E1 E2
     obtain ⟨s1,s2,s3⟩:=Agh hS (by omega)
     have y1:I7 (m:Int) (m:Int) 8=true:=by rw [K6]; omega
     have y2:Km at_ end_ b.length=true:=by rw [Ab3]; omega
     have Q1:=Ud F hF (a:=rE (smn o (us l))) (b:=Cu (Ce b end_) at_) (by omega)
     have Q2:=O6 F hF (a:=rE (smn o (us l))) (b:=Cu (Ce b end_) at_) (by omega)
     have z0:eqI (0:Int) 0=true:=rfl
     rw [hlm] at f1 f2
     simp only [List.nil_append,List.length_nil,Int.natCast_zero] at f1 f2
     simp only [Int.natCast_zero] at p2
     by_cases cd:rE (smn o (us l))=Cu (Ce b end_) at_
     ·rw [decide_eq_true cd] at Q1 Q2
      refine ⟨smn o (us l),end_,0,?_,?_,hS,fun _=>⟨by omega,by omega,by omega,by omega,by omega,cd⟩,fun h=>absurd rfl h⟩
      ·unfold Dq Cc Dd
       simp only [x1,x2,x3,x4,x5,x6,hg,x7,x8,cT,cF,d1,bS,z0,Bool.not_true,y1,show Az l=(m:Int) by unfold Az; omega,f1,p1,E1,y2,Q1]
      ·unfold Gl
       simp only [x1,x2,x3,x4,x5,x6,hg,x7,x8,cT,cF,d2,bS,z0,Bool.not_true,y1,f2,p2,E2,y2,Q2]
     ·rw [decide_eq_false cd] at Q1 Q2
      refine ⟨[],0,5,?_,?_,Aj5.err _ _ _ (by omega)⟩
      ·unfold Dq Cc Dd
       simp only [x1,x2,x3,x4,x5,x6,hg,x7,x8,cT,cF,d1,bS,z0,Bool.not_true,Bool.not_false,y1,show Az l=(m:Int) by unfold Az; omega,f1,p1,E1,y2,Q1]
      ·unfold Gl
       simp only [x1,x2,x3,x4,x5,x6,hg,x7,x8,cT,cF,d2,bS,z0,Bool.not_true,Bool.not_false,y1,f2,p2,E2,y2,Q2]
    ·have y0:eqI e 0=false:=by rw [← Bool.not_eq_true,As]; exact ce
     refine ⟨[],0,e,?_,?_,Aj5.err _ _ _ ce⟩
     ·unfold Dq Cc
      simp only [x1,x2,x3,x4,x5,x6,hg,x7,x8,cT,cF,d1,bS,y0,Bool.not_false]
     ·unfold Gl
      simp only [x1,x2,x3,x4,x5,x6,hg,x7,x8,cT,cF,d2,bS,y0,Bool.not_false]
end Go.Proofs.YtdhfajmcakneiaaGreat
