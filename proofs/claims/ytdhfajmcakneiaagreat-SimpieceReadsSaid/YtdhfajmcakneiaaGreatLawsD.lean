/- The laws of the models, part D. -/
import Derived.Test.YtdhfajmcakneiaaGreatLawsC
set_option linter.unusedVariables false
set_option linter.unusedSimpArgs false
namespace Go.Proofs.YtdhfajmcakneiaaGreat
open Go.Eng
def AgE(l:List Int):Bool:=l.any fun v=>eqI v 0
theorem ApI(F:Nat){T:Int}(hT:0≤T∧T≤4096){sizes starts:List Int}{i x:Int}(hi:inI i sizes.length=true)(hx:An 0 sizes i=x)(hx2:0≤x∧x≤4096)(hsl:starts.length≤100000):∀ (m:Nat) (j last next k:Int) (zero:Bool) (pre steps xs:List Int),j+m=x+1→(j=0∧next=0∨0 < j∧next=last+1)→0≤next→next≤T→starts=pre++steps→k=pre.length→m≤steps.length→Wd steps→xs.length+m≤100000→∀ N,m < N →
  ∃ a c d,Cj F true T sizes starts i N j last k zero xs=(match shI T m next steps with | some r=>some (true,k+m,(zero || AgE r.1),xs++r.1) | none=>some (false,a,c,d)):=by
 have hwT:IntKind.u64.wrap T=T:=Bi (by omega)
 have hwx:IntKind.i64.wrap x=x:=Cz (by omega)
 intro m
 induction m with
 | zero =>
  intro j last next k zero pre steps xs h1 h2 h3 h4 h5 h6 h7 h8 h9 N hN
  obtain ⟨N,rfl⟩:∃ M,N=M+1:=⟨N - 1,by omega⟩
  refine ⟨0,false,[],?_⟩
  unfold Cj shI
  have:leI j x=false:=by rw [← Bool.not_eq_true,Bw]; omega
  rw [hi,cT,hx,hwx,this,cF]
  show some (true,k,zero,xs)=some (true,k+((0:Nat):Int),(zero || AgE []),xs++[])
  simp [AgE]
 | succ m ih =>
  intro j last next k zero pre steps xs h1 h2 h3 h4 h5 h6 h7 h8 h9 N hN
  obtain ⟨N,rfl⟩:∃ M,N=M+1:=⟨N - 1,by omega⟩
  cases steps with
  | nil=>simp at h7
  | cons s steps =>
   have hs:=Wd.head h8
   simp only [List.length_cons] at h7
   have hsl2:starts.length=pre.length+1+steps.length:=by rw [h5]; simp; omega
   have x1:leI j x=true:=by rw [Bw]; omega
   have x2:inI k starts.length=true:=by rw [Bo]; omega
   have g0:An 0 starts k=s:=by rw [h5,h6]; exact B8 pre s steps
   unfold Cj
   rw [hi,cT,hx,hwx,x1,cT,x2,cT,hwT,g0,shI]
   by_cases c:s < T - next
   ·have y1:leI T s=false:=by rw [← Bool.not_eq_true,Bw]; omega
    have hv:(bif ltI 0 j then Av .u64 s (Av .u64 last 1) else s)=next+s:=by
     rcases h2 with ⟨h2,h2'⟩ | ⟨h2,h2'⟩
     ·have:ltI 0 j=false:=by rw [← Bool.not_eq_true,Aj]; omega
      rw [this,cF]; omega
     ·have:ltI 0 j=true:=by rw [Aj]; omega
      rw [this,cT,Dm (x:=last) (by omega),Dm (by omega)]; omega
    have y2:leI T (next+s)=false:=by rw [← Bool.not_eq_true,Bw]; omega
    have r1:Bf (xs.length+1) 8=true:=by rw [Bq]; omega
    have hw:IntKind.i64.wrap (next+s)=next+s:=Cz (by omega)
    have a1:Av .i64 j 1=j+1:=Bc (by omega)
    have a2:Av .i64 k 1=k+1:=Bc (by omega)
    obtain ⟨a,c',d,e⟩:=ih (j+1) (next+s) (next+s+1) (k+1) (bif zero then true else eqI (next+s) 0) (pre++[s]) steps (xs++[next+s]) (by omega) (.inr ⟨by omega,rfl⟩) (by omega) (by omega) (by rw [h5]; simp) (by rw [h6]; simp) (by omega) (Wd.tail h8) (by simp only [List.length_append,List.length_singleton]; omega) N (by omega)
    refine ⟨a,c',d,?_⟩
    rw [iP c,y1,cF]
    simp only [hv]
    rw [y2,cF,cT,r1,cT,hw,a1,a2,e]
    cases shI T m (next+s+1) steps with
    | none=>rfl
    | some r =>
     have hz:((bif zero then true else eqI (next+s) 0) || AgE r.1)=(zero || AgE ((next+s)::r.1)):=by
      unfold AgE
      rw [List.any_cons]
      cases zero <;> rfl
     have hk:k+1+(m:Int)=k+((m+1:Nat):Int):=by push_cast; omega
     simp only [hz,hk,List.append_assoc,List.cons_append,List.nil_append]
   ·rw [iN c]
    by_cases c1:T≤s
    ·have y1:leI T s=true:=by rw [Bw]; exact c1
     exact ⟨k,zero,xs,by rw [y1,cT]⟩
    ·have y1:leI T s=false:=by rw [← Bool.not_eq_true,Bw]; exact c1
     have hv:(bif ltI 0 j then Av .u64 s (Av .u64 last 1) else s)=next+s:=by
      rcases h2 with ⟨h2,h2'⟩ | ⟨h2,h2'⟩
      ·have:ltI 0 j=false:=by rw [← Bool.not_eq_true,Aj]; omega
       rw [this,cF]; omega
      ·have:ltI 0 j=true:=by rw [Aj]; omega
       rw [this,cT,Dm (x:=last) (by omega),Dm (by omega)]; omega
     have y2:leI T (next+s)=true:=by rw [Bw]; omega
     refine ⟨k,zero,xs,?_⟩
     rw [y1,cF]
     simp only [hv]
     rw [y2,cT]
theorem AkF(F:Nat)(hF:A9 F){T:Int}(hT:0≤T∧T≤4096){src starts:List Int}(hs:∀ x∈src,0≤x∧x < 4096)(hb:src.length≤100000)(hsl:starts.length≤50000):∀ (rest pre:List Int) (pst steps:List Int) (zero:Bool) (D:List (List Int)),src=pre++rest→D.length=pre.length→starts=pst++steps→Ac0 (mre rest)≤steps.length→Wd steps→∀ N,rest.length < N →
  ∃ z' D',Db F src.length T src starts N (pre.length:Int) (pst.length:Int) zero D=(match shA T (mre rest) steps with | some D2=>some (true,(zero || D2.any AgE),D++D2) | none=>some (false,z',D')):=by
 intro rest
 induction rest with
 | nil =>
  intro pre pst steps zero D he hD hst h1 h2 N hN
  obtain ⟨N,rfl⟩:∃ M,N=M+1:=⟨N - 1,by omega⟩
  have hlen:src.length=pre.length:=by rw [he]; simp
  refine ⟨false,[],?_⟩
  unfold Db
  have:ltI (pre.length:Int) (src.length:Int)=false:=by rw [← Bool.not_eq_true,Aj]; omega
  rw [this,cF]
  show some (true,zero,D)=some (true,(zero || ([]:List (List Int)).any AgE),D++[])
  simp
 | cons x rest ih =>
  intro pre pst steps zero D he hD hst h1 h2 N hN
  obtain ⟨N,rfl⟩:∃ M,N=M+1:=⟨N - 1,by omega⟩
  simp only [List.length_cons] at hN
  have hlen:src.length=pre.length+1+rest.length:=by rw [he]; simp; omega
  have g:An 0 src (pre.length:Int)=x:=by rw [he]; exact B8 pre x rest
  have hx:=hs x (by rw [he]; simp)
  have hpl:(((pre++[x]).length:Nat):Int)=(pre.length:Int)+1:=by simp
  have hpos:0≤Ac0 (mre rest):=by
   have:∀ l:List Int,(∀ y∈l,0≤y)→0≤Ac0 (mre l):=by
    intro l
    induction l with
    | nil=>intro _; simp [mre,Ac0]
    | cons y t iht=>intro h; have:=iht (fun z hz=>h z (List.mem_cons_of_mem _ hz)); have:=h y (by simp); simp only [mre,Ac0]; omega
   exact this rest fun y hy=>(hs y (by rw [he]; simp [hy])).1
  simp only [mre,Ac0] at h1
  have hstl:starts.length=pst.length+steps.length:=by rw [hst]; simp
  have x1:ltI (pre.length:Int) (src.length:Int)=true:=by rw [Aj]; omega
  have x2:inI (pre.length:Int) src.length=true:=by rw [Bo]; omega
  obtain ⟨a,c,d,e⟩:=ApI F hT x2 g (by omega) (by omega) (x+1).toNat 0 0 0 (pst.length:Int) zero pst steps [] (by omega) (.inl ⟨rfl,rfl⟩) (by omega) (by omega) hst rfl (by omega) h2 (by simp; omega) F (by unfold A9 at hF; omega)
  unfold Db
  rw [x1,cT,x2,e,mre,shA]
  cases hq:shI T (x+1).toNat 0 steps with
  | none=>exact ⟨zero,D,rfl⟩
  | some r =>
   obtain ⟨b1,b2,b3⟩:=Aom (by omega) h2 hq
   have hl:=congrArg List.length b1
   rw [List.length_append,Pd,b2] at hl
   obtain ⟨z',D',e2⟩:=ih (pre++[x]) (pst++stp (0 - 1) r.1) r.2 (zero || AgE r.1) (D++[r.1]) (by rw [he]; simp) (by simp [hD]) (by rw [hst,List.append_assoc,← b1]) (by omega) (by rw [b1] at h2; exact Wd.right h2) N (by omega)
   have hk:(((pst++stp (0 - 1) r.1).length:Nat):Int)=(pst.length:Int)+((x+1).toNat:Int):=by rw [List.length_append,Pd,b2]; push_cast; rfl
   rw [hpl,hk] at e2
   have y1:eqI ((pre.length:Int)+1) (Az D+1)=true:=by rw [As]; unfold Az; omega
   have a1:Av .i64 (pre.length:Int) 1=(pre.length:Int)+1:=Bc (by omega)
   refine ⟨z',D',?_⟩
   simp only [bS,cT,List.nil_append,y1,a1,e2]
   cases shA T (mre rest) r.2 with
   | none=>rfl
   | some D2=>simp [Bool.or_assoc]
theorem Azy{T:Int}:∀ {cs steps:List Int} {D:List (List Int)},(∀ c∈cs,1≤c)→Wd steps→shA T cs steps=some D→∃ more,steps=(D.map (stp (-1))).flatten++more∧D.length=cs.length∧(∀ d∈D,∀ x∈d,0≤x∧x < T)∧(D.map fun d=>(d.length:Int))=cs
 | [],steps,D,_,_,h=>by
  simp only [shA,Option.some.injEq] at h
  subst h
  exact ⟨steps,rfl,rfl,fun d hd=>by simp at hd,rfl⟩
 | c::cs,steps,D,hc,hw,h=>by
  rw [shA] at h
  cases hq:shI T c.toNat 0 steps with
  | none=>rw [hq] at h; cases h
  | some r =>
   rw [hq] at h
   simp only at h
   obtain ⟨b1,b2,b3⟩:=Aom (by omega) hw hq
   cases h2:shA T cs r.2 with
   | none=>rw [h2] at h; cases h
   | some D2 =>
    rw [h2] at h
    simp only [Option.some.injEq] at h
    subst h
    obtain ⟨more,d1,d2,d3,d4⟩:=Azy (fun y hy=>hc y (List.mem_cons_of_mem _ hy)) (by rw [b1] at hw; exact Wd.right hw) h2
    have hc1:=hc c (by simp)
    refine ⟨more,?_,by simp [d2],fun d hd=>?_,?_⟩
    ·rw [List.map_cons,List.flatten_cons,List.append_assoc,← d1]
     exact b1
    ·rcases List.mem_cons.1 hd with rfl | hd
     ·exact b3
     ·exact d3 d hd
    ·rw [List.map_cons,d4]
     congr 1
     omega
def hdz:List Int→Bool
 | []=>false
 | s::_=>eqI s 0
def hz(l:List Gr):Bool:=l.any fun g=>hdz g.2.2.1
theorem Axu{d:List Int}{p:Int}(h:Asc p d):AgE d=hdz d:=by
 cases d with
 | nil=>rfl
 | cons s t =>
  have:∀ {t:List Int} {s:Int},0≤s→Asc s t→AgE t=false:=by
   intro t
   induction t with
   | nil=>intro s _ _; rfl
   | cons x t ih =>
    intro s h0 h
    have e:eqI x 0=false:=by rw [← Bool.not_eq_true,As]; have:=h.1; omega
    show(eqI x 0 || AgE t)=false
    rw [e,ih h.1.1 h.2]
    rfl
  show(eqI s 0 || AgE t)=eqI s 0
  rw [this h.1.1 h.2,Bool.or_false]
theorem AkG(F:Nat){src:List Gr}(hs:∀ g∈src,g.2.2.1≠[])(hb:src.length≤100000):∀ (rest pre:List Gr),src=pre++rest→∀ N,rest.length < N →
  ∃ r:Int,Bh F (some ((-1),())) (fun z6=>some (z6,())) N src (src.length:Int) (pre.length:Int)=some (r,())∧leI 0 r=hz rest:=by
 intro rest
 induction rest with
 | nil =>
  intro pre he N hN
  obtain ⟨N,rfl⟩:∃ M,N=M+1:=⟨N - 1,by omega⟩
  have hlen:src.length=pre.length:=by rw [he]; simp
  refine ⟨-1,?_,rfl⟩
  unfold Bh
  simp (disch:=omega) only [bs,↓iP,↓iN]
 | cons x rest ih =>
  intro pre he N hN
  obtain ⟨N,rfl⟩:∃ M,N=M+1:=⟨N - 1,by omega⟩
  simp only [List.length_cons] at hN
  have hlen:src.length=pre.length+1+rest.length:=by rw [he]; simp; omega
  have g:An zG src (pre.length:Int)=x:=by rw [he]; exact Qq pre x rest
  have hx:=hs x (by rw [he]; simp)
  have eb:J7 F x=some (hdz x.2.2.1,()):=by
   unfold J7
   cases h:x.2.2.1 with
   | nil=>exact absurd h hx
   | cons s t =>
    have:inI 0 (s::t).length=true:=by rw [Bo]; simp only [List.length_cons]; omega
    rw [this,cT]
    rfl
  by_cases hbt:hdz x.2.2.1=true
  ·refine ⟨(pre.length:Int),?_,?_⟩
   ·unfold Bh
    simp (disch:=omega) only [bs,↓iP,↓iN,g,eb,hbt]
   ·unfold hz
    rw [List.any_cons,hbt,Bool.true_or,Bw]; omega
  ·obtain ⟨r,e,h2⟩:=ih (pre++[x]) (by rw [he]; simp) N (by omega)
   have hpl:(((pre++[x]).length:Nat):Int)=(pre.length:Int)+1:=by simp
   rw [hpl] at e
   rw [Bool.not_eq_true] at hbt
   refine ⟨r,?_,by unfold hz; rw [List.any_cons,hbt,Bool.false_or]; exact h2⟩
   unfold Bh
   simp (disch:=omega) only [bs,↓iP,↓iN,g,eb,hbt]
   exact e
theorem Aje(F:Nat)(hF:A9 F){l:List Gr}(h:∀ g∈l,g.2.2.1≠[])(hb:l.length≤100000):Cr F l=some (hz l,()):=by
 obtain ⟨r,e1,e2⟩:=AkG F h hb l [] rfl F (by unfold A9 at hF; omega)
 unfold Cr G6
 have e1:Bh F (some ((-1),())) (fun z6=>some (z6,())) F l (Az l) 0=some (r,()):=e1
 rw [e1]
 simp only [bS,e2]
def Xy(b:List Int)(at_ T:Int)(x:List Gr)(end_ e:Int):Prop :=
 GOk x∧(e=0→0≤at_∧0≤T∧T≤4096∧at_ < end_∧end_≤b.length∧gvE x=0∧gB x=Cu (Ce b end_) at_∧(T=0∨hz x=true))∧(e≠0→x=[]∧end_=0)
theorem Xy.err(b:List Int)(at_ T:Int){e:Int}(h:e≠0):Xy b at_ T [] 0 e:=⟨(fun s hs=>by cases hs),fun h2=>absurd h2 h,fun _=>⟨rfl,rfl⟩⟩
theorem Zm(n:Nat):(Cl (n:Int) (zGn:Gn)).length=n:=by simp [Cl]
theorem AkH:∀ {L:List Gn} {D:List (List Int)},gk (D4 L D)=L.map (·.1)
 | [],_=>rfl
 | x::l,[]=>by show x.1::gk (D4 l [])=_; rw [AkH]; rfl
 | x::l,d::D=>by show x.1::gk (D4 l D)=_; rw [AkH]; rfl
theorem Agn:∀ {L:List Gn} {D:List (List Int)},gsl (D4 L D)=nsl L
 | [],_=>rfl
 | x::l,[]=>by show sp x.2.1++gsl (D4 l [])=_; rw [Agn]; rfl
 | x::l,d::D=>by show sp x.2.1++gsl (D4 l D)=_; rw [Agn]; rfl
theorem Ago:∀ {L:List Gn} {D:List (List Int)},L.length=D.length→gst (D4 L D)=(D.map (stp (-1))).flatten
 | [],[],_=>rfl
 | [],_::_,h=>by simp at h
 | _::_,[],h=>by simp at h
 | x::l,d::D,h=>by
  show stp (-1) d++gst (D4 l D)=_
  rw [Ago (by simpa using h)]
  rfl
theorem Aon:∀ {L:List Gn} {D:List (List Int)},L.length=D.length→gsz (D4 L D)=lss (D.map fun d=>(d.length:Int))
 | [],[],_=>rfl
 | [],_::_,h=>by simp at h
 | _::_,[],h=>by simp at h
 | x::l,d::D,h=>by
  show((d.length:Int) - 1)::gsz (D4 l D)=_
  rw [Aon (by simpa using h)]
  rfl
theorem Au9:∀ {L:List Gn} {D:List (List Int)},L.length=D.length→hz (D4 L D)=D.any hdz
 | [],[],_=>rfl
 | [],_::_,h=>by simp at h
 | _::_,[],h=>by simp at h
 | x::l,d::D,h=>by
  show(hdz d || hz (D4 l D))=_
  rw [Au9 (by simpa using h)]
  rfl
theorem Aoo:∀ {L:List Gn} {D:List (List Int)} {g:Gr},L.length=D.length→g∈D4 L D→(∃ q∈L,q.1=g.1∧q.2.1=g.2.1)∧g.2.2.1∈D
 | [],[],g,_,h=>by cases h
 | [],_::_,_,h,_=>by simp at h
 | _::_,[],_,h,_=>by simp at h
 | x::l,d::D,g,h,hg=>by
  rcases List.mem_cons.1 (show g∈(x.1,(x.2.1,(d,())))::D4 l D from hg) with rfl | hg
  ·exact ⟨⟨x,by simp,rfl,rfl⟩,by simp⟩
  ·obtain ⟨⟨q,q1,q2⟩,q3⟩:=Aoo (by simpa using h) hg
   exact ⟨⟨q,List.mem_cons_of_mem _ q1,q2⟩,List.mem_cons_of_mem _ q3⟩
theorem Aop:∀ {L:List Gn} {D:List (List Int)},L.length=D.length→(tot (D4 L D):Int)=Ac0 (D.map fun d=>(d.length:Int))
 | [],[],_=>rfl
 | [],_::_,h=>by simp at h
 | _::_,[],h=>by simp at h
 | x::l,d::D,h=>by
  have:=Aop (L:=l) (D:=D) (by simpa using h)
  show((d.length+tot (D4 l D):Nat):Int)=(d.length:Int)+Ac0 (D.map fun d=>(d.length:Int))
  rw [← this]
  push_cast
  rfl
theorem A8c{D:List (List Int)}(h:∀ d∈D,Asc (-1) d):D.any AgE=D.any hdz:=by
 induction D with
 | nil=>rfl
 | cons d D ih =>
  rw [List.any_cons,List.any_cons,Axu (h d (by simp)),ih fun x hx=>h x (List.mem_cons_of_mem _ hx)]
theorem A3x(F:Nat)(hF:A9 F){b:List Int}(hb:Bt b)(hl:(b.length:Int)≤140737488355328)(rV:∀ {l:List Gr},GOk l→(l.length:Int)≤4096→Jk F l=some (gvE l,()))(at_ T:Int) :
  ∃ x end_ e,Br F b at_ T=some (x,end_,e,())∧Dw F b at_ T=some (x,end_,e,())∧Xy b at_ T x end_ e:=by
 by_cases c:0≤at_∧at_≤b.length∧0≤T∧T≤4096
 rotate_left
 ·refine ⟨[],0,2,?_,?_,Xy.err _ _ _ (by omega)⟩
  ·unfold Br
   rw [Aj7,decide_eq_false c]
   rfl
  ·unfold Dw
   cases h1:ltI at_ 0 with
   | true=>rfl
   | false =>
    cases h2:ltI (Az b) at_ with
    | true=>rfl
    | false =>
     cases h3:ltI T 0 with
     | true=>rfl
     | false =>
      cases h4:ltI 4096 T with
      | true=>rfl
      | false =>
       rw [← Bool.not_eq_true,Aj] at h1 h2 h3 h4
       unfold Az at h2
       omega
 have hP:=Aj7 F b at_ T
 rw [decide_eq_true c] at hP
 have x1:ltI at_ 0=false:=by rw [← Bool.not_eq_true,Aj]; omega
 have x2:ltI (Az b) at_=false:=by rw [← Bool.not_eq_true,Aj]; unfold Az; omega
 have x3:ltI T 0=false:=by rw [← Bool.not_eq_true,Aj]; omega
 have x4:ltI 4096 T=false:=by rw [← Bool.not_eq_true,Aj]; omega
 have v1:=Vs F hF hb hl at_
 have v2:=Xi F hF hb hl at_
 have hwT:IntKind.u64.wrap T=T:=Bi (by omega)
 have z0:eqI (0:Int) 0=true:=rfl
 have z10:eqI (10:Int) 0=false:=rfl
 by_cases c0:(rd b at_).2.2=0
 rotate_left
 ·have y0:eqI (rd b at_).2.2 0=false:=by rw [← Bool.not_eq_true,As]; exact c0
  refine ⟨[],0,(rd b at_).2.2,?_,?_,Xy.err _ _ _ c0⟩
  ·unfold Br It
   simp only [hP,v1,bS,y0,Bool.not_false,Bool.not_true,cF,cT]
  ·unfold Dw
   simp only [x1,x2,x3,x4,cF,v2,bS,y0,Bool.not_false,cT]
 have y0:eqI (rd b at_).2.2 0=true:=by rw [As]; exact c0
 obtain ⟨r1,r2,r3,r4⟩:=Atx hb c0
 have rcut:=A80 hb c0
 generalize hn:(rd b at_).1=n at *
 generalize ha:(rd b at_).2.1=a at *
 by_cases c1:T < n
 ·have y1:ltI T (n:Int)=true:=by rw [Aj]; exact c1
  refine ⟨[],0,10,?_,?_,Xy.err _ _ _ (by omega)⟩
  ·unfold Br It
   simp only [hP,v1,bS,y0,Bool.not_true,cF,hwT,y1,cT,z10,Bool.not_false]
  ·unfold Dw
   simp only [x1,x2,x3,x4,cF,v2,bS,y0,Bool.not_true,hwT,y1,cT]
 have y1:ltI T (n:Int)=false:=by rw [← Bool.not_eq_true,Aj]; exact c1
 have hwn:IntKind.i64.wrap (n:Int)=(n:Int):=Cz (by omega)
 have hNum:It F b at_ T=some ((n:Int),a,0,()):=by
  unfold It
  simp only [v1,bS,y0,Bool.not_true,cF,hwT,y1,hwn]
 obtain ⟨ks,a2,e2,d1,d2,d3,d4,d5⟩:=A3p F hF hb hl a (n:Int)
 by_cases c2:e2=0
 rotate_left
 ·have y2:eqI e2 0=false:=by rw [← Bool.not_eq_true,As]; exact c2
  refine ⟨[],0,e2,?_,?_,Xy.err _ _ _ c2⟩
  ·unfold Br Jr
   simp only [hP,hNum,bS,z0,Bool.not_true,cF,d1,y2,Bool.not_false,cT]
  ·unfold Dw
   simp only [x1,x2,x3,x4,cF,v2,bS,y0,Bool.not_true,hwT,y1,hwn,d2,y2,Bool.not_false,cT]
 subst c2
 obtain ⟨g1,g2,g3,g4,g5,g6⟩:=d4 rfl
 have hkl:ks.length=n:=by omega
 have hmk:I7 (n:Int) (n:Int) 112=true:=by rw [K6]; omega
 have hmk8:I7 (n:Int) (n:Int) 8=true:=by rw [K6]; omega
 have hGr:Jr F b a (n:Int)=if(rgs b a2 ks).2.2=0 then some ((rgs b a2 ks).1,(rgs b a2 ks).2.1,0,()) else some ([],0,(rgs b a2 ks).2.2,()):=by
  unfold Jr
  simp only [d1,bS,z0,Bool.not_true,cF,hmk,cT]
  exact AkE F hF _ _ hb hl (ks:=ks) (by omega) ks [] a2 [] (Cl (n:Int) (zGn:Gn)) rfl rfl (by rw [Zm,hkl]) F (by unfold A9 at hF; omega)
 have hRS:=fun (R:Type) (k:List Int→Int→Int→Int→List Gn→Option R) (kr:Int→Int→Option R)=>Ajd F hF k kr T (n:Int) hb hl (ks:=ks) (by omega) ks [] a2 [] (Cl (n:Int) (zGn:Gn)) rfl rfl (by rw [Zm,hkl]) (fun w hw=>List.eq_of_mem_replicate hw) F (by unfold A9 at hF; omega)
 have hRS:∀ (R:Type) (k:List Int→Int→Int→Int→List Gn→Option R) (kr:Int→Int→Option R),E5 F k kr F b a2 T (n:Int) ks (Cl (n:Int) (zGn:Gn)) 0=if(rgs b a2 ks).2.2=0 then k b (rgs b a2 ks).2.1 T (n:Int) (rgs b a2 ks).1 else kr 0 (rgs b a2 ks).2.2:=hRS
 by_cases c3:(rgs b a2 ks).2.2=0
 rotate_left
 ·have y3:eqI (rgs b a2 ks).2.2 0=false:=by rw [← Bool.not_eq_true,As]; exact c3
  rw [iN c3] at hGr
  refine ⟨[],0,(rgs b a2 ks).2.2,?_,?_,Xy.err _ _ _ c3⟩
  ·unfold Br
   simp only [hP,hNum,bS,z0,Bool.not_true,cF,hGr,y3,Bool.not_false,cT]
  ·unfold Dw
   simp only [x1,x2,x3,x4,cF,v2,bS,y0,Bool.not_true,hwT,y1,hwn,d2,z0,hmk,cT,hRS]
   rw [iN c3]
 rw [iP c3] at hGr
 obtain ⟨j1,j2,j3,j4,j5⟩:=Azx hb (by omega) (by omega) c3
 have hLl:(rgs b a2 ks).1.length=n:=by have:=congrArg List.length j2; rw [List.length_map] at this; omega
 generalize hL:(rgs b a2 ks).1=L at *
 generalize ha3:(rgs b a2 ks).2.1=a3 at *
 obtain ⟨xs,a4,e4,f1,f2,f3,f4,f5⟩:=Akt F hF hb hl a3 (n:Int)
 by_cases c4:e4=0
 rotate_left
 ·have y4:eqI e4 0=false:=by rw [← Bool.not_eq_true,As]; exact c4
  refine ⟨[],0,e4,?_,?_,Xy.err _ _ _ c4⟩
  ·unfold Br Kj
   simp only [hP,hNum,bS,z0,Bool.not_true,cF,hGr,f1,y4,Bool.not_false,cT]
  ·unfold Dw
   simp only [x1,x2,x3,x4,cF,v2,bS,y0,Bool.not_true,hwT,y1,hwn,d2,z0,hmk,cT,hRS]
   rw [iP c3]
   simp only [hwn,f2,bS,y4,Bool.not_false,cT]
 subst c4
 obtain ⟨k1,k2,k3,k4,k5,k6⟩:=f4 rfl
 have hxl:xs.length=n:=by omega
 have hC:Kj F b a3 (n:Int) T=some (mrm T xs,sat T 0 xs,a4,0,()):=by
  unfold Kj
  simp only [f1,bS,z0,Bool.not_true,cF,hmk8,cT]
  exact Aku F _ (T:=T) (by omega) a4 f3 (by omega) xs [] [] (Cl (n:Int) 0) 0 rfl rfl (by rw [Oi,hxl]) (by omega) F (by unfold A9 at hF; omega)
 have hsat:=Au4 (T:=T) (by omega) xs 0 f3 (by omega) (by omega)
 rw [Int.sub_zero] at hsat
 have hRF:=fun (R:Type) (k:List Int→Int→Int→List Gn→List Int→Int→Option R) (kr:Int→Int→Option R)=>Au7 F k kr b a4 T L f3 (by omega) xs [] T rfl (by omega) F (by unfold A9 at hF; omega)
 have hRF:∀ (R:Type) (k:List Int→Int→Int→List Gn→List Int→Int→Option R) (kr:Int→Int→Option R),E6 F k kr F b a4 T L xs T 0=match ApN T xs with | some r=>k b a4 T L xs r | none=>kr 0 10:=hRF
 have refTo:∀ res,(match ApN T xs with | some r=>((El F b a4 (Bj .i64 T (IntKind.wrap .i64 r))).bind fun r47=>bif not (eqI r47.2.2.1 0) then some (([]:List Gr),((0:Int),(r47.2.2.1,()))) else
   E7 F (fun z50 z51 z52=>(Jk F z51).bind fun r53=>bif not (eqI r53.1 0) then some ([],(0,(5,()))) else bif not z52 then some ([],(0,(10,()))) else some (z51,(z50,(0,())))) (fun z56 z57 z58=>some (z56,(z57,(z58,())))) F r47.2.1 T L xs r47.1 (eqI T 0) 0 0) | none=>some ([],(0,(10,()))))=res→Dw F b at_ T=res:=by
  intro res hres
  unfold Dw
  simp only [x1,x2,x3,x4,cF,v2,bS,y0,Bool.not_true,hwT,y1,hwn,d2,z0,hmk,cT,hRS]
  rw [iP c3]
  simp only [hwn,f2,bS,z0,Bool.not_true,cF,hwT,hRF]
  rw [← hres]
 cases hfit:ApN T xs with
 | none =>
  rw [hfit] at hsat
  simp only at hsat
  have y5:ltI T (sat T 0 xs)=true:=by rw [Aj,hsat]; omega
  refine ⟨[],0,10,?_,?_,Xy.err _ _ _ (by omega)⟩
  ·unfold Br
   simp only [hP,hNum,bS,z0,Bool.not_true,cF,hGr,hC,y5,cT]
  ·refine refTo _ ?_
   rw [hfit]
 | some left =>
  rw [hfit] at hsat
  simp only at hsat
  obtain ⟨p1,p2,p3,p4,p5⟩:=Au5 f3 (by omega) hfit
  have hmr:mrm T xs=mre xs:=Au6 p4
  have y5:ltI T (sat T 0 xs)=false:=by rw [← Bool.not_eq_true,Aj,hsat]; omega
  have hwl:IntKind.i64.wrap left=left:=Cz (by omega)
  have hsub:Bj .i64 T left=T - left:=Ou (by omega)
  obtain ⟨st,a5,e5,s1,s2,s3,s4,s5⟩:=Akt F hF hb hl a4 (T - left)
  by_cases c5:e5=0
  rotate_left
  ·have y6:eqI e5 0=false:=by rw [← Bool.not_eq_true,As]; exact c5
   refine ⟨[],0,e5,?_,?_,Xy.err _ _ _ c5⟩
   ·unfold Br
    simp only [hP,hNum,bS,z0,Bool.not_true,cF,hGr,hC,y5]
    rw [hsat]
    simp only [s1,bS,y6,Bool.not_false,cT]
   ·refine refTo _ ?_
    rw [hfit]
    simp only [hwl,hsub,s2,bS,y6,Bool.not_false,cT]
  subst c5
  obtain ⟨t1,t2,t3,t4,t5,t6⟩:=s4 rfl
  have hcs:∀ y∈mre xs,1≤y∧y≤4096:=by
   have:∀ (l:List Int),Wd l→(∀ x∈l,x < T)→∀ y∈mre l,1≤y∧y≤4096:=by
    intro l
    induction l with
    | nil=>intro _ _ y hy; cases hy
    | cons x l ih =>
     intro hw h y hy
     have h1:=Wd.head hw
     have h2:=h x (by simp)
     rcases List.mem_cons.1 (show y∈(x+1)::mre l from hy) with rfl | hy
     ·omega
     ·exact ih (Wd.tail hw) (fun z hz=>h z (List.mem_cons_of_mem _ hz)) y hy
   exact this xs f3 p4
  obtain ⟨L',hsh⟩:=Yy F hF (T:=T) (by omega) (L:=L) (cs:=mre xs) (steps:=st) hcs (by rw [U8]; omega) (by rw [U8]; omega) (by omega) s3 (by omega)
  obtain ⟨z',D',hro⟩:=AkF F hF (T:=T) (by omega) (src:=xs) (starts:=st) (fun x hx=>⟨(f3 x hx).1,by have:=p4 x hx; omega⟩) (by omega) (by omega) xs [] [] st (eqI T 0) [] rfl rfl rfl (by omega) s3 F (by unfold A9 at hF; omega)
  have hro:Db F L.length T xs st F 0 0 (eqI T 0) []=(match shA T (mre xs) st with | some D2=>some (true,(eqI T 0 || D2.any AgE),[]++D2) | none=>some (false,z',D')):=by rw [hLl,← hxl]; exact hro
  cases hA:shA T (mre xs) st with
  | none =>
   rw [hA] at hsh hro
   refine ⟨[],0,10,?_,?_,Xy.err _ _ _ (by omega)⟩
   ·unfold Br
    simp only [hP,hNum,bS,z0,Bool.not_true,cF,hGr,hC,y5]
    rw [hsat,hmr]
    simp only [s1,bS,z0,Bool.not_true,cF,hsh,Bool.not_false,cT]
   ·refine refTo _ ?_
    rw [hfit]
    simp only [hwl,hsub,s2,bS,z0,Bool.not_true,cF]
    unfold E7
    simp only [z0,cT,hro,bS,cF]
  | some D =>
   rw [hA] at hsh hro
   obtain ⟨more,q1,q2,q3,q4⟩:=Azy (fun y hy=>(hcs y hy).1) s3 hA
   have hLD:L.length=D.length:=by rw [q2,U8]; omega
   have htot:=Aop hLD
   rw [q4,p3] at htot
   have hmore:more=[]:=by
    have h1:=congrArg List.length q1
    rw [← Ago hLD,List.length_append,Pe] at h1
    exact List.length_eq_zero_iff.1 (by omega)
   rw [hmore,List.append_nil] at q1
   have hOk:GOk (D4 L D):=fun g hg=>by
    obtain ⟨⟨q,m1,m2,m3⟩,m4⟩:=Aoo hLD hg
    have h1:=(j1 q m1).1
    have h2:=Yx hg
    refine ⟨?_,by rw [← m3]; exact h1,fun x hx=>?_,by omega⟩
    ·rw [← m2]
     exact d3 _ (by rw [← j2]; exact List.mem_map_of_mem m1)
    ·have:=q3 _ m4 x hx
     unfold I64; omega
   have hxlen:(D4 L D).length=n:=by rw [Po,hLl]
   have hV:=Yw F hF hOk (by rw [hxlen]; omega)
   have hrV:=rV hOk (by rw [hxlen]; omega)
   have hPr:∀ res,((Iq F (D4 L D)).bind fun r14=>bif not (eqI r14.1 0) then some (([]:List Gr),((0:Int),((5:Int),()))) else bif ltI 0 T then(Cr F (D4 L D)).bind fun r17=>bif not r17.1 then some ([],(0,(10,()))) else some (D4 L D,(a5,(0,()))) else some (D4 L D,(a5,(0,()))))=res→Br F b at_ T=res:=by
    intro res hres
    unfold Br
    simp only [hP,hNum,bS,z0,Bool.not_true,cF,hGr,hC,y5]
    rw [hsat,hmr]
    simp only [s1,bS,z0,Bool.not_true,cF,hsh]
    rw [← hres]
   have hRr:∀ res,((Jk F (D4 L D)).bind fun r53=>bif not (eqI r53.1 0) then some (([]:List Gr),((0:Int),((5:Int),()))) else bif not (eqI T 0 || D.any AgE) then some ([],(0,(10,()))) else some (D4 L D,(a5,(0,()))))=res→Dw F b at_ T=res:=by
    intro res hres
    refine refTo _ ?_
    rw [hfit]
    simp only [hwl,hsub,s2,bS,z0,Bool.not_true,cF]
    unfold E7
    simp only [z0,cT,hro,bS,List.nil_append]
    exact hres
   by_cases c6:gvE (D4 L D)=0
   rotate_left
   ·have y6:eqI (gvE (D4 L D)) 0=false:=by rw [← Bool.not_eq_true,As]; exact c6
    refine ⟨[],0,5,hPr _ ?_,hRr _ ?_,Xy.err _ _ _ (by omega)⟩
    ·rw [hV]
     simp only [bS,y6,Bool.not_false,cT]
    ·rw [hrV]
     simp only [bS,y6,Bool.not_false,cT]
   have hall:=Acb (Acc c6).2.2
   have hascD:∀ d∈D,Asc (-1) d:=by
    have:∀ (L:List Gn) (D:List (List Int)),L.length=D.length→(∀ g∈D4 L D,Asc (-1) g.2.2.1)→∀ d∈D,Asc (-1) d:=by
     intro L
     induction L with
     | nil=>intro D h _ d hd; cases D with
      | nil=>cases hd
      | cons y D=>simp at h
     | cons x L ih=>intro D h h2 d hd; cases D with
      | nil=>cases hd
      | cons y D =>
       rcases List.mem_cons.1 hd with rfl | hd
       ·exact h2 (x.1,(x.2.1,(d,()))) (by show _∈_::_; simp)
       ·exact ih D (by simpa using h) (fun g hg=>h2 g (by show g∈_::_; exact List.mem_cons_of_mem _ hg)) d hd
    exact this L D hLD fun g hg=>(hall g hg).2.2
   have hzz:D.any AgE=hz (D4 L D):=by rw [Au9 hLD,A8c hascD]
   have hne:∀ g∈D4 L D,g.2.2.1≠[]:=fun g hg=>(hall g hg).2.1
   have hCt:=Aje F hF hne (by rw [hxlen]; omega)
   rw [hV,c6] at hPr
   rw [hrV,c6] at hRr
   simp only [bS,z0,Bool.not_true,cF] at hPr hRr
   by_cases c7:T=0∨hz (D4 L D)=true
   ·refine ⟨D4 L D,a5,0,hPr _ ?_,hRr _ ?_,hOk,fun _=>⟨by omega,by omega,by omega,by omega,by omega,c6,?_,c7⟩,fun h=>absurd rfl h⟩
    ·rcases c7 with c7 | c7
     ·have:ltI 0 T=false:=by rw [← Bool.not_eq_true,Aj]; omega
      rw [this,cF]
     ·cases h0:ltI 0 T
      ·rfl
      ·rw [cT,hCt,c7]
       rfl
    ·have:(eqI T 0 || D.any AgE)=true:=by
      rw [hzz]
      rcases c7 with c7 | c7
      ·rw [As.2 c7]; rfl
      ·rw [c7,Bool.or_true]
     rw [this]
     rfl
    ·unfold gB
     rw [hxlen,AkH,j2,Agn,Aon hLD,q4,AtG,Ago hLD,← q1,← rcut,g6,← j5,k6,t6,
      U9 (by omega) (by omega) (by omega) (by omega),U9 (by omega) (by omega) (by omega) (by omega),U9 (by omega) (by omega) (by omega) (by omega),U9 (by omega) (by omega) (by omega) (by omega)]
   ·have hT0:T≠0:=fun h=>c7 (.inl h)
    have hz0:hz (D4 L D)=false:=by rw [← Bool.not_eq_true]; exact fun h=>c7 (.inr h)
    have y7:ltI 0 T=true:=by rw [Aj]; omega
    have y8:eqI T 0=false:=by rw [← Bool.not_eq_true,As]; exact hT0
    refine ⟨[],0,10,hPr _ ?_,hRr _ ?_,Xy.err _ _ _ (by omega)⟩
    ·rw [y7,cT,hCt,hz0]
     rfl
    ·rw [y8,hzz,hz0]
     rfl
theorem Aua(F:Nat){R:Type}(k0:List Gr→Option R)(kr:Int→Option R){src:List Gr}(hs:GOk src)(hb:src.length≤4096):∀ (rest pre:List Gr) (left:Int),src=pre++rest→0≤left∧left≤4096→∀ N,rest.length < N →
  Im F k0 kr N src left (pre.length:Int)=if left < tot rest then kr 3 else k0 src:=by
 intro rest
 induction rest with
 | nil =>
  intro pre left he hl N hN
  obtain ⟨N,rfl⟩:∃ M,N=M+1:=⟨N - 1,by omega⟩
  have hlen:src.length=pre.length:=by rw [he]; simp
  unfold Im
  rw [iN (by simp only [tot]; omega)]
  simp (disch:=omega) only [bs,↓iP,↓iN]
 | cons x rest ih =>
  intro pre left he hl N hN
  obtain ⟨N,rfl⟩:∃ M,N=M+1:=⟨N - 1,by omega⟩
  simp only [List.length_cons] at hN
  have hlen:src.length=pre.length+1+rest.length:=by rw [he]; simp; omega
  have g:An zG src (pre.length:Int)=x:=by rw [he]; exact Qq pre x rest
  have hx:=(hs x (by rw [he]; simp)).2.2.2
  have hpl:(((pre++[x]).length:Nat):Int)=(pre.length:Int)+1:=by simp
  have ht:tot (x::rest)=x.2.2.1.length+tot rest:=rfl
  unfold Im
  by_cases c:left < x.2.2.1.length
  ·rw [iP (by rw [ht]; omega)]
   simp (disch:=omega) only [bs,↓iP,↓iN,g]
  ·have e:=ih (pre++[x]) (left - x.2.2.1.length) (by rw [he]; simp) (by omega) N (by omega)
   rw [hpl] at e
   by_cases c2:left < (tot (x::rest):Int)
   ·rw [iP c2]
    rw [ht] at c2
    rw [iP (by omega)] at e
    simp (disch:=omega) only [bs,↓iP,↓iN,g]
    exact e
   ·rw [iN c2]
    rw [ht] at c2
    rw [iN (by omega)] at e
    simp (disch:=omega) only [bs,↓iP,↓iN,g]
    exact e
theorem Agp(F:Nat){R:Type}(k4:List Gr→List Bool→Int→Option R)(kr:Int→Option R)(x0:List Gr)(x6:Int){g:Gr}(hb:(g.2.2.1.length:Int)≤140737488355328):∀ (rest pre:List Int) (seen:List Bool) (p:Int),seen.length=4096→g.2.2.1=pre++rest→Agl p pre→∀ N,rest.length < N →
  Ei F k4 kr N x0 seen x6 g (pre.length:Int)=match okS seen p rest with | some s=>k4 x0 s x6 | none=>kr 1:=by
 intro rest
 induction rest with
 | nil =>
  intro pre seen p hsl he hp N hN
  obtain ⟨N,rfl⟩:∃ M,N=M+1:=⟨N - 1,by omega⟩
  have hlen:g.2.2.1.length=pre.length:=by rw [he]; simp
  unfold Ei okS
  simp (disch:=omega) only [bs,↓iP,↓iN]
 | cons s rest ih =>
  intro pre seen p hsl he hp N hN
  obtain ⟨N,rfl⟩:∃ M,N=M+1:=⟨N - 1,by omega⟩
  simp only [List.length_cons] at hN
  have hlen:g.2.2.1.length=pre.length+1+rest.length:=by rw [he]; simp; omega
  have hg:An 0 g.2.2.1 (pre.length:Int)=s:=by rw [he]; exact B8 pre s rest
  have hpl:(((pre++[s]).length:Nat):Int)=(pre.length:Int)+1:=by simp
  unfold Ei
  by_cases c1:s < 0
  ·rw [okS,iN (by omega)]
   simp (disch:=omega) only [bs,↓iP,↓iN,hg]
  by_cases c2:4096≤s
  ·rw [okS,iN (by omega)]
   simp (disch:=omega) only [bs,↓iP,↓iN,hg]
  have fin:∀ (q:Int),q=p→p < s→(pre=[]∧True∨True)→(if An false seen s=true then kr 1 else Ei F k4 kr N x0 (Cd seen s true) x6 g ((pre.length:Int)+1))=match okS seen p (s::rest) with | some s=>k4 x0 s x6 | none=>kr 1:=by
   intro q hq hps _
   rw [okS]
   by_cases c3:An false seen s=true
   ·rw [iP c3,iN (by rw [c3]; simp)]
   ·rw [Bool.not_eq_true] at c3
    have e:=ih (pre++[s]) (Cd seen s true) s (by rw [Je]; exact hsl) (by rw [he]; simp) (Agl.push pre s) N (by omega)
    rw [hpl] at e
    rw [iN (by rw [c3]; simp),iP ⟨by omega,by omega,c3,hps⟩]
    exact e
  rcases hp with ⟨hp,rfl⟩ | ⟨d,hp⟩
  ·have h0:pre.length=0:=by rw [hp]; rfl
   refine Eq.trans ?_ (fin (-1) rfl (by omega) (.inr trivial))
   simp (disch:=omega) only [bs,↓iP,↓iN,hg]
  ·have hd:(pre.length:Int)=(d.length:Int)+1:=by rw [hp]; simp
   have hl:An 0 g.2.2.1 ((pre.length:Int) - 1)=p:=by
    rw [hd,show(d.length:Int)+1 - 1=(d.length:Int) by omega,he,hp]
    exact Ac9 d p (s::rest)
   by_cases c4:p < s
   ·refine Eq.trans ?_ (fin p rfl c4 (.inr trivial))
    simp (disch:=omega) only [bs,↓iP,↓iN,hg,hl]
   ·rw [okS,iN (by omega)]
    simp (disch:=omega) only [bs,↓iP,↓iN,hg,hl]
theorem Aub:∀ {t:List Int} {seen:List Bool} {p:Int} {s:List Bool},okS seen p t=some s→s.length=seen.length
 | [],_,_,_,h=>by simp only [okS,Option.some.injEq] at h; rw [h]
 | x::t,seen,p,s,h=>by
  rw [okS] at h
  split at h
  ·rw [Aub h,Je]
  ·cases h
theorem Agq(F:Nat)(hF:A9 F){R:Type}(k0:Option R)(kr:Int→Option R){src:List Gr}(hs:GOk src)(hb:src.length≤4096):∀ (rest pre:List Gr) (seen:List Bool) (p:Option Gr),seen.length=4096→src=pre++rest→Azv p pre→∀ N,rest.length < N →
  C9 F k0 kr N src seen (pre.length:Int)=bif okG seen p rest then k0 else kr 1:=by
 intro rest
 induction rest with
 | nil =>
  intro pre seen p hsl he hp N hN
  obtain ⟨N,rfl⟩:∃ M,N=M+1:=⟨N - 1,by omega⟩
  have hlen:src.length=pre.length:=by rw [he]; simp
  unfold C9 okG
  simp (disch:=omega) only [bs,↓iP,↓iN]
 | cons x rest ih =>
  intro pre seen p hsl he hp N hN
  obtain ⟨N,rfl⟩:∃ M,N=M+1:=⟨N - 1,by omega⟩
  simp only [List.length_cons] at hN
  have hlen:src.length=pre.length+1+rest.length:=by rw [he]; simp; omega
  have g:An zG src (pre.length:Int)=x:=by rw [he]; exact Qq pre x rest
  obtain ⟨x1,x2,x3,x4⟩:=hs x (by rw [he]; simp)
  have ev:=Eg F hF x2
  have hpl:(((pre++[x]).length:Nat):Int)=(pre.length:Int)+1:=by simp
  unfold C9 okG
  by_cases hv:RV x.2.1
  rotate_left
  ·have dv:decide (RV x.2.1)=false:=decide_eq_false hv
   rw [dv,Bool.false_and,cF]
   simp (disch:=omega) only [bs,↓iP,↓iN,g,ev,dv]
  have dv:decide (RV x.2.1)=true:=decide_eq_true hv
  by_cases hne:x.2.2.1=[]
  ·have hie:x.2.2.1.isEmpty=true:=by rw [hne]; rfl
   rw [dv,hie,Bool.not_true,Bool.false_and,Bool.and_false,cF]
   have hl0:x.2.2.1.length=0:=by rw [hne]; rfl
   simp (disch:=omega) only [bs,↓iP,↓iN,g,ev,dv]
  have hie:x.2.2.1.isEmpty=false:=by cases h:x.2.2.1 with
   | nil=>exact absurd h hne
   | cons a b=>rfl
  have hl0:x.2.2.1.length≠0:=fun h=>hne (List.length_eq_zero_iff.1 h)
  rw [dv,hie,Bool.not_false,Bool.true_and,Bool.true_and]
  have tail:Hi F (fun z51 z52 z53=>C9 F k0 kr N z51 z52 (Av .i64 z53 1)) (fun z55=>kr z55) src seen (pre.length:Int) x=bif(match okS seen (-1) x.2.2.1 with | some s=>okG s (some x) rest | none=>false) then k0 else kr 1:=by
   unfold Hi
   have e0:=Agp F (fun z47 z48 z49=>C9 F k0 kr N z47 z48 (Av .i64 z49 1)) (fun z50=>kr z50) src (pre.length:Int) x4 x.2.2.1 [] seen (-1) hsl rfl (.inl ⟨rfl,rfl⟩) F (by unfold A9 at hF; omega)
   refine e0.trans ?_
   cases hS:okS seen (-1) x.2.2.1 with
   | none=>simp
   | some s =>
    have e:=ih (pre++[x]) s (some x) (by rw [Aub hS]; exact hsl) (by rw [he]; simp) (.inr ⟨pre,x,rfl,rfl,hv⟩) N (by omega)
    rw [hpl] at e
    simp only
    refine Eq.trans ?_ e
    simp (disch:=omega) only [bs,↓iP,↓iN]
  rcases hp with ⟨hp,rfl⟩ | ⟨d,q,hp,rfl,hq⟩
  ·have h0:pre.length=0:=by rw [hp]; rfl
   refine Eq.trans ?_ tail
   simp (disch:=omega) only [bs,↓iP,↓iN,g,ev,dv]
  ·have hd:(pre.length:Int)=(d.length:Int)+1:=by rw [hp]; simp
   have hl:An zG src ((pre.length:Int) - 1)=q:=by
    rw [hd,show(d.length:Int)+1 - 1=(d.length:Int) by omega,he,hp]
    exact Aja d q (x::rest)
   have q2:=(hs q (by rw [he,hp]; simp)).2.1
   have er:=Dy F hF q2 x2 hq hv
   simp only
   have hlg:Aca q x=(decide (q.1 < x.1) || (decide (q.1=x.1) && decide (rc q.2.1 x.2.1 < 0))):=rfl
   by_cases k1:x.1 < q.1
   ·have hlt:Aca q x=false:=by rw [hlg,decide_eq_false (by omega),decide_eq_false (by omega)]; rfl
    rw [hlt,Bool.false_and,cF]
    simp (disch:=omega) only [bs,↓iP,↓iN,g,ev,dv,hl]
   ·by_cases k2:q.1=x.1
    ·by_cases k3:rc q.2.1 x.2.1 < 0
     ·have hlt:Aca q x=true:=by rw [hlg,decide_eq_true k2,decide_eq_true k3]; simp
      rw [hlt]
      refine Eq.trans ?_ tail
      simp (disch:=omega) only [bs,↓iP,↓iN,g,ev,dv,hl,er]
     ·have hlt:Aca q x=false:=by rw [hlg,decide_eq_false (by omega),decide_eq_false k3,Bool.and_false]; rfl
      rw [hlt,Bool.false_and,cF]
      simp (disch:=omega) only [bs,↓iP,↓iN,g,ev,dv,hl,er]
    ·have hlt:Aca q x=true:=by rw [hlg,decide_eq_true (by omega)]; rfl
     rw [hlt]
     refine Eq.trans ?_ tail
     simp (disch:=omega) only [bs,↓iP,↓iN,g,ev,dv,hl]
theorem Vx(F:Nat)(hF:A9 F){l:List Gr}(h:GOk l)(hb:(l.length:Int)≤140737488355328):Jk F l=some (gvE l,()):=by
 unfold gvE Jk
 by_cases c0:4096 < l.length
 ·have x1:ltI 4096 (Az l)=true:=by rw [Aj]; unfold Az; omega
  rw [iP c0,x1,cT]
 have x1:ltI 4096 (Az l)=false:=by rw [← Bool.not_eq_true,Aj]; unfold Az; omega
 rw [iN c0,x1,cF]
 refine(Aua F _ _ h (by omega) l [] 4096 rfl (by omega) F (by unfold A9 at hF; omega)).trans ?_
 by_cases c1:4096 < tot l
 ·rw [iP (by omega),iP c1]
 rw [iN (by omega),iN c1]
 have x2:I7 4096 4096 1=true:=by rw [K6]; omega
 rw [x2,cT]
 refine(Agq F hF _ _ h (by omega) l [] (List.replicate 4096 false) none (List.length_replicate ..) rfl (.inl ⟨rfl,rfl⟩) F (by unfold A9 at hF; omega)).trans ?_
 generalize okG (List.replicate 4096 false) none l=o
 cases o <;> rfl
theorem Ajf(F:Nat){R:Type}(k2:List Gr→List Int→List Int→List Int→List Int→Int→Option R)(x5 x6 x8:List Int){src:List Gr}(hb0:src.length≤100000){i:Int}(hi:inI i src.length=true){g:Gr}(hgi:An zG src i=g)(hb:g.2.2.1.length≤100000):∀ (rest pre:List Int) (p:Int) (out:List Int),g.2.2.1=pre++rest→Agl p pre→-1≤p→Asc p rest→out.length+rest.length≤100000→∀ N,rest.length < N →
  Dt F k2 N src x5 x6 out x8 i (pre.length:Int)=k2 src x5 x6 (out++stp p rest) x8 i:=by
 intro rest
 induction rest with
 | nil =>
  intro pre p out he hp hp1 ha ho N hN
  obtain ⟨N,rfl⟩:∃ M,N=M+1:=⟨N - 1,by omega⟩
  have hlen:g.2.2.1.length=pre.length:=by rw [he]; simp
  have x1:ltI (pre.length:Int) (Az g.2.2.1)=false:=by rw [← Bool.not_eq_true,Aj]; unfold Az; omega
  unfold Dt
  rw [hi,cT,hgi,x1,cF]
  simp [stp]
 | cons s rest ih =>
  intro pre p out he hp hp1 ha ho N hN
  obtain ⟨N,rfl⟩:∃ M,N=M+1:=⟨N - 1,by omega⟩
  simp only [List.length_cons] at hN ho
  have hlen:g.2.2.1.length=pre.length+1+rest.length:=by rw [he]; simp; omega
  have hg:An 0 g.2.2.1 (pre.length:Int)=s:=by rw [he]; exact B8 pre s rest
  have hpl:(((pre++[s]).length:Nat):Int)=(pre.length:Int)+1:=by simp
  obtain ⟨⟨a1,a2,a3⟩,a4⟩:=ha
  have e:=ih (pre++[s]) s (out++[s - (p+1)]) (by rw [he]; simp) (Agl.push pre s) (by omega) a4 (by simp only [List.length_append,List.length_singleton]; omega) N (by omega)
  rw [hpl] at e
  have hz:out++[s - (p+1)]++stp s rest=out++stp p (s::rest):=by simp [stp]
  rw [hz] at e
  have x1:ltI (pre.length:Int) (Az g.2.2.1)=true:=by rw [Aj]; unfold Az; omega
  have x2:inI (pre.length:Int) g.2.2.1.length=true:=by rw [Bo]; omega
  have r1:Bf (out.length+1) 8=true:=by rw [Bq]; omega
  have xa:Av .i64 (pre.length:Int) 1=(pre.length:Int)+1:=Bc (by omega)
  unfold Dt
  simp only [hi,cT,hgi,x1,x2,hg]
  rcases hp with ⟨hp,rfl⟩ | ⟨d,hp⟩
  ·have h0:pre.length=0:=by rw [hp]; rfl
   have hw:IntKind.u64.wrap s=s - (-1+1):=by rw [Bi (by omega)]; omega
   have y:ltI 0 (pre.length:Int)=false:=by rw [← Bool.not_eq_true,Aj]; omega
   rw [y,cF,r1,cT,hw,xa]
   exact e
  ·have hd:(pre.length:Int)=(d.length:Int)+1:=by rw [hp]; simp
   have hl:An 0 g.2.2.1 ((pre.length:Int) - 1)=p:=by
    rw [hd,show(d.length:Int)+1 - 1=(d.length:Int) by omega,he,hp]
    exact Ac9 d p (s::rest)
   have hw:IntKind.u64.wrap (Bj .i64 s (Av .i64 p 1))=s - (p+1):=by rw [Bc (by omega),Ou (by omega),Bi (by omega)]
   have y:ltI 0 (pre.length:Int)=true:=by rw [Aj]; omega
   have s1:Bj .i64 (pre.length:Int) 1=(pre.length:Int) - 1:=Ou (by omega)
   have y2:inI ((pre.length:Int) - 1) g.2.2.1.length=true:=by rw [Bo]; omega
   rw [y,cT,s1,y2,cT,r1,cT,hl,hw,xa]
   exact e
theorem Axv(l:List Gr):gsz l=lss (l.map fun g=>(g.2.2.1.length:Int)):=by
 induction l with
 | nil=>rfl
 | cons x t ih=>show((x.2.2.1.length:Int) - 1)::gsz t=_; rw [ih]; rfl
theorem Agr(F:Nat)(hF:A9 F){R:Type}(k0:List Gr→List Int→List Int→List Int→List Int→Option R){src:List Gr}(hok:GOk src)(hb:src.length≤100000)(hs:∀ g∈src,g.2.2.1≠[]∧Asc (-1) g.2.2.1∧g.2.2.1.length≤4096) :
  ∀ (rest pre:List Gr) (ok os st sl:List Int),src=pre++rest→ok.length=pre.length→os.length=pre.length→st.length+tot rest≤100000→sl.length+74*rest.length≤10000000→∀ N,rest.length < N →
  Ej F k0 N src ok os st sl (pre.length:Int)=k0 src (ok++gk rest) (os++rest.map fun g=>(g.2.2.1.length:Int)) (st++gst rest) (sl++gsl rest):=by
 intro rest
 induction rest with
 | nil =>
  intro pre ok os st sl he h1 h3 h5 h6 N hN
  obtain ⟨N,rfl⟩:∃ M,N=M+1:=⟨N - 1,by omega⟩
  have hlen:src.length=pre.length:=by rw [he]; simp
  unfold Ej
  simp (disch:=omega) only [bs,↓iP,↓iN]
  simp [gk,gst,gsl]
 | cons x rest ih =>
  intro pre ok os st sl he h1 h3 h5 h6 N hN
  obtain ⟨N,rfl⟩:∃ M,N=M+1:=⟨N - 1,by omega⟩
  simp only [List.length_cons] at hN h6
  simp only [tot] at h5
  have hlen:src.length=pre.length+1+rest.length:=by rw [he]; simp; omega
  have g:An zG src (pre.length:Int)=x:=by rw [he]; exact Qq pre x rest
  obtain ⟨a1,a2,a3⟩:=hs x (by rw [he]; simp)
  have hx:=hok x (by rw [he]; simp)
  have hsl:=Azs hx.2.1
  have hpl:(((pre++[x]).length:Nat):Int)=(pre.length:Int)+1:=by simp
  have e:=ih (pre++[x]) (ok++[x.1]) (os++[(x.2.2.1.length:Int)]) (st++stp (-1) x.2.2.1) (sl++sp x.2.1) (by rw [he]; simp) (by simp [h1]) (by simp [h3]) (by rw [List.length_append,Pd]; omega) (by rw [List.length_append]; omega) N (by omega)
  rw [hpl] at e
  have hz1:ok++[x.1]++gk rest=ok++gk (x::rest):=by simp [gk]
  have hz2:os++[(x.2.2.1.length:Int)]++rest.map (fun g=>(g.2.2.1.length:Int))=os++(x::rest).map (fun g=>(g.2.2.1.length:Int)):=by simp
  have hz3:st++stp (-1) x.2.2.1++gst rest=st++gst (x::rest):=by simp [gst]
  have hz4:sl++sp x.2.1++gsl rest=sl++gsl (x::rest):=by simp [gsl]
  rw [hz1,hz2,hz3,hz4] at e
  have x1:ltI (pre.length:Int) (Az src)=true:=by rw [Aj]; unfold Az; omega
  have x2:inI (pre.length:Int) src.length=true:=by rw [Bo]; omega
  have r1:Bf (ok.length+1) 8=true:=by rw [Bq]; omega
  have r2:Bf (os.length+1) 8=true:=by rw [Bq]; omega
  have xa:Av .i64 (pre.length:Int) 1=(pre.length:Int)+1:=Bc (by omega)
  have e0:=Ajf F (fun z29 z30 z31 z32 z33 z34=>Ej F k0 N z29 z30 z31 z32 z33 (Av .i64 z34 1)) (ok++[x.1]) (os++[Az x.2.2.1]) (sl++sp x.2.1) (src:=src) hb x2 g (by omega) x.2.2.1 [] (-1) st rfl (.inl ⟨rfl,rfl⟩) (by omega) a2 (by omega) F (by unfold A9 at hF; omega)
  have e0:Dt F (fun z29 z30 z31 z32 z33 z34=>Ej F k0 N z29 z30 z31 z32 z33 (Av .i64 z34 1)) F src (ok++[x.1]) (os++[Az x.2.2.1]) st (sl++sp x.2.1) (pre.length:Int) 0=_:=e0
  unfold Ej
  simp only [x1,x2,cT,r1,r2,g,Ac5 F hF (b:=sl) (by omega) hx.2.1,bS]
  rw [e0,xa]
  exact e
theorem Acd(F:Nat)(hF:A9 F){l:List Gr}(h:GOk l)(hb:(l.length:Int)≤140737488355328):Qh F l=some ((gE l).1,(gE l).2,()):=by
 unfold Qh gE
 rw [Vx F hF h hb]
 simp only [bS]
 by_cases c0:gvE l=0
 ·obtain ⟨v1,v2,v3⟩:=Acc c0
  have hall:=Acb v3
  rw [iP c0,c0]
  simp only [show eqI (0:Int) 0=true from rfl,Bool.not_true,cF]
  refine(Agr F hF _ (src:=l) h (by omega) (fun g hg=>⟨(hall g hg).2.1,(hall g hg).2.2,by have:=Yx hg; omega⟩) l [] [] [] [] [] rfl rfl rfl (by simp; omega) (by simp; omega) F (by unfold A9 at hF; omega)).trans ?_
  have hw2:IntKind.u64.wrap (Az l)=(l.length:Int):=by unfold Az; exact Bi (by omega)
  have e4:=P1 F hF (b:=[]) (by simp [ApK]) (v:=l.length) (by omega)
  rw [List.nil_append] at e4
  have h10:=Xf (v:=l.length) (by omega)
  have e6:=Ug F hF (Axt h) (by rw [Ul]; omega)
  rw [Azn (by rw [Ul]; omega)] at e6
  obtain ⟨s1,s2,s3⟩:=Agh (Axt h) (by rw [Ul]; omega)
  have hg:=(Xx h).1
  have wz:=Au1 v2 (fun g hg=>(hall g hg).2.1)
  have ws:=Aok (l:=l) (fun g hg=>(hall g hg).2.2)
  have hz:=Kb wz (by rw [Va]; omega)
  have hst:=Kb ws (by rw [Pe]; omega)
  have hpos:∀ y∈l.map (fun g=>(g.2.2.1.length:Int)),1≤y∧y≤4096:=fun y hy=>by
   obtain ⟨g,hg,rfl⟩:=List.mem_map.1 hy
   have h1:=Yx hg
   have h2:g.2.2.1.length≠0:=fun h0=>(hall g hg).2.1 (List.length_eq_zero_iff.1 h0)
   omega
  have eL:U4 F (l.map fun g=>(g.2.2.1.length:Int))=some (gsz l,()):=by
   unfold U4
   refine(AtH F _ hpos (by simp; omega) (l.map fun g=>(g.2.2.1.length:Int)) [] [] rfl rfl F (by rw [List.length_map]; unfold A9 at hF; omega)).trans ?_
   rw [List.nil_append,← Axv]
  have e7:=Fy F hF wz (by rw [Va]; omega)
  have e8:=Fy F hF ws (by rw [Pe]; omega)
  have r1:Bf ((enc l.length).length+(rE (gk l)).length) 1=true:=by rw [Bq]; omega
  have r2:Bf ((enc l.length++rE (gk l)).length+(gsl l).length) 1=true:=by rw [Bq]; simp only [List.length_append]; omega
  have r3:Bf ((enc l.length++rE (gk l)++gsl l).length+(nE (gsz l)).length) 1=true:=by rw [Bq]; simp only [List.length_append]; omega
  have r4:Bf ((enc l.length++rE (gk l)++gsl l++nE (gsz l)).length+(nE (gst l)).length) 1=true:=by rw [Bq]; simp only [List.length_append]; omega
  simp only [List.nil_append,hw2,e4,e6,eL,e7,e8,bS,r1,r2,r3,r4,cT]
  rfl
 ·rw [iN c0]
  have:eqI (gvE l) 0=false:=by rw [← Bool.not_eq_true,As]; exact c0
  rw [this]
  rfl
theorem Auc(F:Nat)(hF:A9 F){a b:Nat}(ha:a < A1)(hb:b < A1)(h:a*b < A1):Fc F (toW (a:Int)) (toW (b:Int))=some (toW ((a*b:Nat):Int),true,()):=by
 rw [Og F hF (Hs ha) (Hs hb),B0,B0]
 have e:(a:Int)*(b:Int)=((a*b:Nat):Int):=by push_cast; rfl
 rw [e,Td (by rw [Int.natAbs_natCast]; exact h)]
theorem Azz(F:Nat)(hF:A9 F){a b:Nat}(ha:a < A1)(hb:b < A1)(h:a+b < A1):Hh F (toW (a:Int)) (toW (b:Int))=some (toW ((a+b:Nat):Int),true,()):=by
 rw [Oh F hF (Hs ha) (Hs hb),B0,B0]
 have e:(a:Int)+(b:Int)=((a+b:Nat):Int):=by push_cast; rfl
 rw [e,Td (by rw [Int.natAbs_natCast]; exact h)]
theorem A8d(F:Nat)(hF:A9 F){a b:Nat}(ha:a < A1)(hb:b < A1)(h:b≤a):Lo F (toW (a:Int)) (toW (b:Int))=some (toW ((a - b:Nat):Int),true,()):=by
 unfold Lo
 rw [Js F hF (Hs hb),B0]
 simp only [bS]
 rw [Oh F hF (Hs ha) (C6 (by omega)),B0,B0]
 have e:(a:Int)+-(b:Int)=((a - b:Nat):Int):=by omega
 rw [e,Td (by rw [Int.natAbs_natCast]; omega)]
 rfl
abbrev Z7:Nat:=340282366920938463463374607431768211456
theorem Axw{a b:Nat}(ha:a≤Z7)(hb:b < Z7):a*b < A1:=by
 have:Z7*Z7=A1:=by unfold A1; decide
 rw [← this]
 rcases Nat.lt_or_ge a Z7 with h | h
 ·exact Nat.mul_lt_mul'' h hb
 ·have:a=Z7:=by omega
  rw [this]
  exact Nat.mul_lt_mul_of_pos_left hb (by decide)
theorem Aoq:Z7 < A1:=by unfold A1; decide
def Xz(a b c d n m:Nat):Prop:=(n≤c∧m≤d∨n≤a∧m≤b)∧1≤m∧a*m≤n*b∧n*d≤c*m∧Nat.gcd n m=1
theorem Xz.whole{a b c d n:Nat}(hd:1≤d)(h1:a≤n*b)(h2:n*d≤c):Xz a b c d n 1:=by
 refine ⟨.inl ⟨?_,hd⟩,by omega,by rw [Nat.mul_one]; exact h1,by rw [Nat.mul_one]; exact h2,Nat.gcd_one_right n⟩
 exact Nat.le_trans (Nat.le_mul_of_pos_right n hd) h2
theorem Xz.deep{a b c d q r x y:Nat}(ha:a=q*b+r)(hc:q*d≤c)(hd:0 < d)(h:Xz d (c - q*d) b r x y):Xz a b c d (q*x+y) x:=by
 obtain ⟨h1,h2,h3,h4,h5⟩:=h
 have hx:1≤x:=by
  rcases Nat.eq_zero_or_pos x with h0 | h0
  ·rw [h0,Nat.zero_mul] at h3
   have:=Nat.mul_pos hd h2
   omega
  ·exact h0
 generalize hu:c - q*d=u at *
 have hc2:c=q*d+u:=by omega
 refine ⟨?_,hx,?_,?_,?_⟩
 ·rcases h1 with ⟨k1,k2⟩ | ⟨k1,k2⟩
  ·refine .inr ⟨?_,k1⟩
   rw [ha]
   exact Nat.add_le_add (Nat.mul_le_mul_left q k1) k2
  ·refine .inl ⟨?_,k1⟩
   rw [hc2]
   exact Nat.add_le_add (Nat.mul_le_mul_left q k1) k2
 ·rw [ha,Nat.add_mul,Nat.add_mul]
  have e1:q*b*x=q*x*b:=by rw [Nat.mul_right_comm]
  have e2:r*x=x*r:=Nat.mul_comm _ _
  have e3:y*b=b*y:=Nat.mul_comm _ _
  rw [e1,e2,e3]
  exact Nat.add_le_add_left h4 _
 ·rw [hc2,Nat.add_mul,Nat.add_mul]
  have e1:q*x*d=q*d*x:=by rw [Nat.mul_right_comm]
  have e2:y*d=d*y:=Nat.mul_comm _ _
  have e3:u*x=x*u:=Nat.mul_comm _ _
  rw [e1,e2,e3]
  exact Nat.add_le_add_left h3 _
 ·rw [Nat.gcd_comm,Nat.add_comm,Nat.gcd_add_mul_right_right]
  exact h5
theorem Aor(F:Nat)(hF:A9 F)(N:Nat){a b c d:Nat}(ha:a < Z7)(hb:0 < b∧b < Z7)(hc:c < Z7)(hd:0 < d∧d < Z7)(hle:a*d≤c*b) :
  (∃ n,Xz a b c d n 1∧B4 (N+1) F (toW (a:Int)) (toW (b:Int)) (toW (c:Int)) (toW (d:Int))=some (toW (n:Int),(toW 1,()))) ∨
  (0 < a % b∧a / b*d < c∧c - a / b*d < d∧d*(a % b)≤b*(c - a / b*d) ∧
   B4 (N+1) F (toW (a:Int)) (toW (b:Int)) (toW (c:Int)) (toW (d:Int)) =
    (B4 N F (toW (d:Int)) (toW ((c - a / b*d:Nat):Int)) (toW (b:Int)) (toW ((a % b:Nat):Int))).bind fun r13 =>
     (Fc F (toW ((a / b:Nat):Int)) r13.1).bind fun r14=>(Hh F r14.1 r13.2.1).bind fun r15=>some (r15.1,(r13.1,()))):=by
 have ht:=Aoq
 have hqa:a / b≤a:=Nat.div_le_self a b
 have hdm:=Nat.div_add_mod a b
 have hml:=Nat.mod_lt a hb.1
 have hone:Gf F 1=some (toW ((1:Nat):Int),()):=Fa F (by unfold I64; omega)
 have e1:=Kt F hF (a:=a) (b:=b) (by omega) (by omega) hb.1
 have e2:Df F (toW ((a % b:Nat):Int))=some (if a % b=0 then 0 else 1,()):=by
  rw [Cg F hF (Hs (by omega)),B0]
  congr 2
  split
  ·rw [iP (by omega)]
  ·rw [iN (by omega),iN (by omega)]
 generalize hq:a / b=q at *
 generalize hr:a % b=r at *
 have haq:a=q*b+r:=by rw [Nat.mul_comm q b]; omega
 have mq:q*d < A1:=Axw (by omega) hd.2
 have mq1:(q+1)*d < A1:=Axw (by omega) hd.2
 have hqc:q*d≤c:=by
  refine Nat.le_of_mul_le_mul_right ?_ hb.1
  refine Nat.le_trans ?_ hle
  rw [haq,Nat.add_mul,Nat.mul_right_comm]
  exact Nat.le_add_right _ _
 have e5:=Auc F hF (a:=q) (b:=d) (by omega) (by omega) mq
 by_cases c0:r=0
 ·left
  refine ⟨q,Xz.whole hd.1 (by omega) hqc,?_⟩
  have c3:=Ks F hF (Hs mq) (Hs (v:=c) (by omega))
  rw [B0,B0] at c3
  have c4:leI (if((q*d:Nat):Int) < (c:Int) then -1 else if(c:Int) < ((q*d:Nat):Int) then 1 else 0) 0=true:=by
   unfold leI
   refine decide_eq_true ?_
   split
   ·omega
   ·rw [iN (by omega)]; omega
  rw [iP c0] at e2
  unfold B4
  simp only [e1,e2,bS,show eqI (0:Int) 0=true from rfl,Bool.not_true,cF,e5,c3,c4,cT,hone]
  rfl
 ·have e3:=Azz F hF (a:=q) (b:=1) (by omega) (by omega) (by omega)
  have e4:=Auc F hF (a:=q+1) (b:=d) (by omega) (by omega) mq1
  have c3:=Ks F hF (Hs mq1) (Hs (v:=c) (by omega))
  rw [B0,B0] at c3
  have hmul:(q+1)*d=q*d+d:=Nat.succ_mul q d
  have z1:eqI (1:Int) 0=false:=rfl
  by_cases c1:(q+1)*d≤c
  ·left
   refine ⟨q+1,Xz.whole hd.1 (by rw [Nat.succ_mul]; omega) c1,?_⟩
   have c4:leI (if(((q+1)*d:Nat):Int) < (c:Int) then -1 else if(c:Int) < (((q+1)*d:Nat):Int) then 1 else 0) 0=true:=by
    unfold leI
    refine decide_eq_true ?_
    split
    ·omega
    ·rw [iN (by omega)]; omega
   unfold B4
   simp only [e1,e2,bS,iN c0,z1,Bool.not_false,cT,hone,e3,e4,c3,c4]
   rfl
  ·right
   have c4:leI (if(((q+1)*d:Nat):Int) < (c:Int) then -1 else if(c:Int) < (((q+1)*d:Nat):Int) then 1 else 0) 0=false:=by
    unfold leI
    refine decide_eq_false ?_
    rw [iN (by omega),iP (by omega)]
    omega
   have e6:=A8d F hF (a:=c) (b:=q*d) (by omega) mq hqc
   have hlt:q*d < c:=by
    rcases Nat.lt_or_ge (q*d) c with h | h
    ·exact h
    ·exfalso
     have:c=q*d:=by omega
     rw [this,haq,Nat.add_mul,Nat.mul_right_comm] at hle
     have:=Nat.mul_pos (Nat.pos_of_ne_zero c0) hd.1
     omega
   refine ⟨by omega,hlt,by omega,?_,?_⟩
   ·have h1:q*d*b+r*d≤q*d*b+b*(c - q*d):=by
     have k1:q*d*b+r*d=a*d:=by rw [haq,Nat.add_mul,Nat.mul_right_comm]
     have k2:q*d*b+b*(c - q*d)=c*b:=by
      rw [Nat.mul_comm b,← Nat.add_mul]
      congr 1
      omega
     rw [k1,k2]
     exact hle
    rw [Nat.mul_comm d r]
    omega
   ·conv=>lhs; unfold B4
    simp only [e1,e2,bS,iN c0,z1,Bool.not_false,cT,hone,e3,e4,c3,c4,cF,e5,e6]
theorem Aos(F:Nat)(hF:A9 F){a b c d x y:Nat}(ha:a < Z7)(hb:b < Z7)(hc:c < Z7)(hd:0 < d∧d < Z7)(hqc:a / b*d≤c)(h:Xz d (c - a / b*d) b (a % b) x y) :
  ((Fc F (toW ((a / b:Nat):Int)) (toW (x:Int))).bind fun r14=>(Hh F r14.1 (toW (y:Int))).bind fun r15=>some (r15.1,(toW (x:Int),())))=some (toW ((a / b*x+y:Nat):Int),(toW (x:Int),()))∧Xz a b c d (a / b*x+y) x:=by
 have hdm:=Nat.div_add_mod a b
 have hf:=Xz.deep (a:=a) (b:=b) (by rw [Nat.mul_comm (a / b) b]; omega) hqc hd.1 h
 have ht:=Aoq
 have hqa:a / b≤a:=Nat.div_le_self a b
 have hs:a / b*x+y < Z7:=by rcases hf.1 with h1 | h1 <;> omega
 have hx:x < Z7:=by rcases hf.1 with h1 | h1 <;> omega
 refine ⟨?_,hf⟩
 rw [Auc F hF (by omega) (by omega) (Axw (by omega) hx)]
 simp only [bS]
 rw [Azz F hF (Axw (by omega) hx) (by omega) (by omega)]
 rfl
theorem Ace(F:Nat)(hF:A9 F):∀ (k N:Nat) {a b c d:Nat},a < Z7→0 < b∧b < Z7→c < Z7→0 < d∧d < Z7→d < 2 ^ k→a*d≤c*b→2*k < N →
  ∃ n m:Nat,Xz a b c d n m∧B4 N F (toW (a:Int)) (toW (b:Int)) (toW (c:Int)) (toW (d:Int))=some (toW (n:Int),(toW (m:Int),())):=by
 intro k
 induction k with
 | zero=>intro N a b c d ha hb hc hd hk _ _; omega
 | succ k ih =>
  intro N a b c d ha hb hc hd hk hle hN
  obtain ⟨N,rfl⟩:∃ M,N=M+1+1:=⟨N - 2,by omega⟩
  rcases Aor F hF (N+1) ha hb hc hd hle with ⟨n,h1,h2⟩ | ⟨h1,h2,h3,h4,h5⟩
  ·exact ⟨n,1,h1,h2⟩
  have hml:=Nat.mod_lt a hb.1
  have key:∃ x y:Nat,Xz d (c - a / b*d) b (a % b) x y∧B4 (N+1) F (toW (d:Int)) (toW ((c - a / b*d:Nat):Int)) (toW (b:Int)) (toW ((a % b:Nat):Int))=some (toW (x:Int),(toW (y:Int),())):=by
   generalize hu:c - a / b*d=u at *
   generalize hv:a % b=v at *
   rcases Aor F hF N (a:=d) (b:=u) (c:=b) (d:=v) hd.2 ⟨by omega,by omega⟩ hb.2 ⟨h1,by omega⟩ h4 with ⟨n,k1,k2⟩ | ⟨k1,k2,k3,k4,k5⟩
   ·exact ⟨n,1,k1,k2⟩
   have hml2:=Nat.mod_lt d (show 0 < u by omega)
   have hdm2:=Nat.div_add_mod d u
   have hhalf:2*(d % u) < d:=by
    have:u*1≤u*(d / u):=Nat.mul_le_mul_left u (Nat.div_pos (by omega) (by omega))
    omega
   obtain ⟨x,y,f1,f2⟩:=ih N (a:=v) (b:=b - d / u*v) (c:=u) (d:=d % u) (by omega) ⟨by omega,by omega⟩ (by omega) ⟨k1,by omega⟩ (by rw [Nat.pow_succ] at hk; omega) (by rw [Nat.mul_comm v]; rw [Nat.mul_comm] at k4; exact k4) (by omega)
   rw [f2] at k5
   simp only [bS] at k5
   have g:=Aos F hF (a:=d) (b:=u) (c:=b) (d:=v) hd.2 (by omega) hb.2 ⟨h1,by omega⟩ (by omega) f1
   exact ⟨_,_,g.2,k5.trans g.1⟩
  obtain ⟨x,y,f1,f2⟩:=key
  rw [f2] at h5
  simp only [bS] at h5
  have g:=Aos F hF ha hb.2 hc hd (by omega) f1
  exact ⟨_,_,g.2,h5.trans g.1⟩
abbrev Co:=Bool×(Rt×(Rt×Unit))
abbrev oC:Co:=(true,(zR,(zR,())))
def COk(c:Co):Prop:=ROk c.2.1∧ROk c.2.2.1
theorem Bdo:COk oC:=⟨Tk,Tk⟩
theorem Ags{p q:Rt}:rc p q≤0↔wi p.1*wi q.2.1≤wi q.1*wi p.2.1:=by
 unfold rc Axs; split
 ·omega
 ·split <;> omega
theorem Bdp{p q:Rt}:0 < rc p q↔wi q.1*wi p.2.1 < wi p.1*wi q.2.1:=by
 unfold rc Axs; split
 ·omega
 ·split <;> omega
theorem Bdq{p q:Rt}:rc p q < 0↔wi p.1*wi q.2.1 < wi q.1*wi p.2.1:=by
 unfold rc Axs; split
 ·omega
 ·split <;> omega
theorem Agt{p q:Rt}:rc p q < 0↔0 < rc q p:=by rw [Bdq,Bdp]
theorem O8{p q r:Rt}(hp:RV p)(hq:RV q)(hr:RV r)(h1:rc p q≤0)(h2:rc q r≤0):rc p r≤0:=by
 rw [Ags] at *
 have p0:=hp.2.2.1
 have q0:=hq.2.2.1
 have r0:=hr.2.2.1
 generalize wi p.1=a at *
 generalize wi p.2.1=b at *
 generalize wi q.1=c at *
 generalize wi q.2.1=d at *
 generalize wi r.1=e at *
 generalize wi r.2.1=f at *
 refine Int.le_of_mul_le_mul_right ?_ q0
 have k1:a*d*f≤c*b*f:=Int.mul_le_mul_of_nonneg_right h1 (by omega)
 have k2:c*f*b≤e*d*b:=Int.mul_le_mul_of_nonneg_right h2 (by omega)
 have e1:a*f*d=a*d*f:=by rw [Int.mul_right_comm]
 have e2:c*f*b=c*b*f:=by rw [Int.mul_right_comm]
 have e3:e*b*d=e*d*b:=by rw [Int.mul_right_comm]
 rw [e1,e3]
 omega
theorem Agu{w:W}(h:WOk w)(hv:Vl w)(h0:0≤wi w):w=toW ((wv w.2.1:Nat):Int):=by
 have h1:=AdO h hv
 have h2:=Of w
 rw [show wi w=((wv w.2.1:Nat):Int) by omega] at h1
 exact h1.symm
theorem Aot{a b c d n m:Nat}(ha:Sm a)(hb:Sm b)(hc:Sm c)(hd:Sm d)(h:Xz a b c d n m)(s:Int)(hs:s=(n:Int)∨s=-(n:Int)):ROk (toW s,(toW (m:Int),()))∧RV (toW s,(toW (m:Int),())):=by
 obtain ⟨h1,h2,h3,h4,h5⟩:=h
 have ht:170141183460469231731687303715884105728 < A1:=by unfold A1; decide
 have hn:Sm n:=by unfold Sm at *; omega
 have hm:Sm m:=by unfold Sm at *; omega
 have habs:s.natAbs=n:=by omega
 have e1:wv (toW s).2.1=n:=by
  have:=Of (toW s)
  rw [B0,habs] at this
  exact this.symm
 have e2:wv (toW (m:Int)).2.1=m:=by
  have:=Of (toW (m:Int))
  rw [B0,Int.natAbs_natCast] at this
  exact this.symm
 refine ⟨⟨C6 (by unfold Sm at hn; omega),C6 (by unfold Sm at hm; omega)⟩,Ao4 _,Ao4 _,?_,?_,?_,?_⟩
 ·rw [B0]; omega
 ·rw [e1]; exact hn
 ·rw [e2]; exact hm
 ·unfold A3G
  rw [e1,e2]
  exact h5
def Btw(p q s:Rt):Prop:=RV s∧rc p s≤0∧rc s q≤0
theorem Z8(F:Nat)(hF:A9 F){p q:Rt}(hp:ROk p)(hq:ROk q):∃ s ok,Oy F p q=some (s,ok,())∧ROk s∧(RV p→RV q→rc p q≤0→Btw p q s):=by
 unfold Oy
 rw [Eg F hF hp,Eg F hF hq]
 simp only [bS]
 by_cases vp:RV p
 rotate_left
 ·rw [decide_eq_false vp]
  exact ⟨zR,false,rfl,Tk,fun h=>absurd h vp⟩
 by_cases vq:RV q
 rotate_left
 ·rw [decide_eq_false vq,decide_eq_true vp]
  exact ⟨zR,false,rfl,Tk,fun _ h=>absurd h vq⟩
 rw [decide_eq_true vp,decide_eq_true vq,Dy F hF hp hq vp vq]
 simp only [bS,Bool.not_true,cF]
 by_cases c0:0 < rc p q
 ·rw [Aj.2 c0]
  exact ⟨zR,false,rfl,Tk,fun _ _ h=>by omega⟩
 have x0:ltI 0 (rc p q)=false:=by rw [← Bool.not_eq_true,Aj]; exact c0
 rw [x0,cF,Cg F hF hp.1,Cg F hF hq.1]
 simp only [bS]
 have hle:wi p.1*wi q.2.1≤wi q.1*wi p.2.1:=Ags.1 (by omega)
 have pd:=Agu hp.2 vp.2.1 (by have:=vp.2.2.1; omega)
 have qd:=Agu hq.2 vq.2.1 (by have:=vq.2.2.1; omega)
 have pd0:=vp.2.2.1
 have qd0:=vq.2.2.1
 have apn:=Of p.1
 have aqn:=Of q.1
 have apd:=Of p.2.1
 have aqd:=Of q.2.1
 obtain ⟨_,_,_,sp1,sp2,_⟩:=vp
 obtain ⟨_,_,_,sq1,sq2,_⟩:=vq
 have hP:∀ v:Nat,Sm v→v < Z7:=fun v hv=>by unfold Sm at hv; unfold Z7; omega
 by_cases c1:0 < wi p.1
 ·
  have y1:leI (if wi p.1=0 then 0 else if wi p.1 < 0 then -1 else 1) 0=false:=by
   unfold leI; refine decide_eq_false ?_
   rw [iN (by omega),iN (by omega)]; omega
  rw [y1,cF]
  unfold Ic Ie
  have c2:0≤wi q.1:=by
   rcases Int.lt_or_le (wi q.1) 0 with h | h
   ·have h1:=Int.mul_pos c1 qd0
    have h2:=Int.mul_neg_of_neg_of_pos h pd0
    omega
   ·exact h
  have y2:ltI (if wi q.1=0 then 0 else if wi q.1 < 0 then -1 else 1) 0=false:=by
   rw [← Bool.not_eq_true,Aj]
   split
   ·omega
   ·rw [iN (by omega)]; omega
  have pn:=Agu hp.1 (by assumption) (by omega)
  have qn:=Agu hq.1 (by assumption) (by omega)
  simp only [cF,Cg F hF hq.1,bS,y2]
  rw [show wi p.1=((wv p.1.2.1:Nat):Int) by omega,show wi q.1=((wv q.1.2.1:Nat):Int) by omega,show wi p.2.1=((wv p.2.1.2.1:Nat):Int) by omega,show wi q.2.1=((wv q.2.1.2.1:Nat):Int) by omega] at hle
  obtain ⟨n,m,f1,f2⟩:=Ace F hF 128 F (a:=wv p.1.2.1) (b:=wv p.2.1.2.1) (c:=wv q.1.2.1) (d:=wv q.2.1.2.1) (hP _ sp1) ⟨by omega,hP _ sp2⟩ (hP _ sq1) ⟨by omega,hP _ sq2⟩ (by have:=hP _ sq2; unfold Z7 at this; exact this) (by exact_mod_cast hle) (by unfold A9 at hF; omega)
  rw [← pn,← pd,← qn,← qd] at f2
  unfold Ki
  rw [f2]
  obtain ⟨r1,r2⟩:=Aot sp1 sp2 sq1 sq2 f1 _ (.inl rfl)
  refine ⟨_,_,rfl,r1,fun _ _ _=>⟨r2,?_,?_⟩⟩
  ·rw [Ags,B0,B0]
   have:=f1.2.2.1
   rw [show wi p.1=((wv p.1.2.1:Nat):Int) by omega,show wi p.2.1=((wv p.2.1.2.1:Nat):Int) by omega]
   exact_mod_cast this
  ·rw [Ags,B0,B0]
   have:=f1.2.2.2.1
   rw [show wi q.1=((wv q.1.2.1:Nat):Int) by omega,show wi q.2.1=((wv q.2.1.2.1:Nat):Int) by omega]
   exact_mod_cast this
 ·have y1:leI (if wi p.1=0 then 0 else if wi p.1 < 0 then -1 else 1) 0=true:=by
   unfold leI; refine decide_eq_true ?_
   split
   ·omega
   ·rw [iP (by omega)]; omega
  rw [y1,cT]
  unfold Ic Ie
  by_cases c2:0≤wi q.1
  ·have y2:leI 0 (if wi q.1=0 then 0 else if wi q.1 < 0 then -1 else 1)=true:=by
    unfold leI; refine decide_eq_true ?_
    split
    ·omega
    ·rw [iN (by omega)]; omega
   rw [y2,cT,Ac4 F (by unfold I64; omega)]
   refine ⟨of0,true,rfl,Azq,fun _ _ _=>⟨Azr,?_,?_⟩⟩
   ·rw [Ags]
    show wi p.1*wi (toW 1)≤wi (toW 0)*wi p.2.1
    rw [B0,B0]
    omega
   ·rw [Ags]
    show wi (toW 0)*wi q.2.1≤wi q.1*wi (toW 1)
    rw [B0,B0]
    omega
  ·have y2:leI 0 (if wi q.1=0 then 0 else if wi q.1 < 0 then -1 else 1)=false:=by
    unfold leI; refine decide_eq_false ?_
    rw [iN (by omega),iP (by omega)]; omega
   have y3:ltI (if wi q.1=0 then 0 else if wi q.1 < 0 then -1 else 1) 0=true:=by
    rw [Aj,iN (by omega),iP (by omega)]; omega
   have c3:wi p.1 < 0:=by
    rcases Int.lt_or_le (wi p.1) 0 with h | h
    ·exact h
    ·have h0:wi p.1=0:=by omega
     have h2:=Int.mul_neg_of_neg_of_pos (show wi q.1 < 0 by omega) pd0
     rw [h0,Int.zero_mul] at hle
     omega
   simp only [y2,cF,Cg F hF hq.1,bS,y3,cT,Js F hF hq.1,Js F hF hp.1]
   have hneg:-wi q.1*wi p.2.1≤-wi p.1*wi q.2.1:=by rw [Int.neg_mul,Int.neg_mul]; omega
   rw [show -wi p.1=((wv p.1.2.1:Nat):Int) by omega,show -wi q.1=((wv q.1.2.1:Nat):Int) by omega,show wi p.2.1=((wv p.2.1.2.1:Nat):Int) by omega,show wi q.2.1=((wv q.2.1.2.1:Nat):Int) by omega] at hneg
   obtain ⟨n,m,f1,f2⟩:=Ace F hF 128 F (a:=wv q.1.2.1) (b:=wv q.2.1.2.1) (c:=wv p.1.2.1) (d:=wv p.2.1.2.1) (hP _ sq1) ⟨by omega,hP _ sq2⟩ (hP _ sp1) ⟨by omega,hP _ sp2⟩ (by have:=hP _ sp2; unfold Z7 at this; exact this) (by exact_mod_cast hneg) (by unfold A9 at hF; omega)
   rw [← pd,← qd] at f2
   obtain ⟨r1,r2⟩:=Aot sq1 sq2 sp1 sp2 f1 (-(n:Int)) (.inr rfl)
   have hnb:n < A1:=by
    have ht:170141183460469231731687303715884105728 < A1:=by unfold A1; decide
    have:=f1.1
    unfold Sm at *
    omega
   unfold Ki
   rw [show -wi p.1=((wv p.1.2.1:Nat):Int) by omega,show -wi q.1=((wv q.1.2.1:Nat):Int) by omega,f2]
   simp only [bS]
   rw [Js F hF (Hs hnb),B0]
   refine ⟨_,_,rfl,r1,fun _ _ _=>⟨r2,?_,?_⟩⟩
   ·rw [Ags,B0,B0]
    have h1:=f1.2.2.2.1
    have h2:(n:Int)*wi p.2.1≤-wi p.1*(m:Int):=by
     rw [show -wi p.1=((wv p.1.2.1:Nat):Int) by omega,show wi p.2.1=((wv p.2.1.2.1:Nat):Int) by omega]
     exact_mod_cast h1
    rw [Int.neg_mul] at h2
    rw [Int.neg_mul]
    omega
   ·rw [Ags,B0,B0]
    have h1:=f1.2.2.1
    have h2:-wi q.1*(m:Int)≤(n:Int)*wi q.2.1:=by
     rw [show -wi q.1=((wv q.1.2.1:Nat):Int) by omega,show wi q.2.1=((wv q.2.1.2.1:Nat):Int) by omega]
     exact_mod_cast h1
    rw [Int.neg_mul] at h2
    rw [Int.neg_mul]
    omega
def cvB(c:Co):Bool:=bif c.1 then eqT (.pair .bool (.pair (.pair (.pair .bool (.pair (.arr 4 (.int .u64)) .unit)) (.pair (.pair .bool (.pair (.arr 4 (.int .u64)) .unit)) .unit)) (.pair (.pair (.pair .bool (.pair (.arr 4 (.int .u64)) .unit)) (.pair (.pair .bool (.pair (.arr 4 (.int .u64)) .unit)) .unit)) .unit))) c oC else decide (RV c.2.1∧RV c.2.2.1∧rc c.2.1 c.2.2.1≤0)
theorem N3{c:Co}(h:c.1=false):cvB c=true↔RV c.2.1∧RV c.2.2.1∧rc c.2.1 c.2.2.1≤0:=by
 unfold cvB
 rw [h,cF,decide_eq_true_iff]
theorem Kl(F:Nat)(hF:A9 F){c:Co}(h:COk c):Jj F c=some (cvB c,()):=by
 unfold Jj cvB Kv
 cases c.1
 rotate_left
 ·rfl
 simp only [cF,Eg F hF h.1,Eg F hF h.2,bS]
 by_cases v1:RV c.2.1
 rotate_left
 ·have d1:decide (RV c.2.1∧RV c.2.2.1∧rc c.2.1 c.2.2.1≤0)=false:=decide_eq_false fun h=>v1 h.1
  rw [d1,decide_eq_false v1]
  rfl
 by_cases v2:RV c.2.2.1
 rotate_left
 ·have d1:decide (RV c.2.1∧RV c.2.2.1∧rc c.2.1 c.2.2.1≤0)=false:=decide_eq_false fun h=>v2 h.2.1
  rw [d1,decide_eq_true v1,decide_eq_false v2]
  rfl
 rw [decide_eq_true v1,decide_eq_true v2,Dy F hF h.1 h.2 v1 v2]
 simp only [bS,cT]
 unfold leI
 refine congrArg (fun b=>some (b,())) (decide_eq_decide.2 ?_)
 exact ⟨fun h=>⟨v1,v2,h⟩,fun h=>h.2.2⟩
theorem Um(F:Nat)(hF:A9 F){c:Co}(h:COk c):∃ s,Ob F c=some (s,())∧ROk s∧(cvB c=true→RV s∧(c.1=false→Btw c.2.1 c.2.2.1 s)):=by
 unfold Ob
 rw [Kl F hF h]
 simp only [bS]
 by_cases v:cvB c=true
 rotate_left
 ·rw [Bool.not_eq_true] at v
  rw [v]
  exact ⟨zR,rfl,Tk,fun h=>by cases h⟩
 rw [v]
 simp only [Bool.not_true,cF]
 cases hc:c.1
 ·obtain ⟨s,ok,e,r1,r2⟩:=Z8 F hF h.1 h.2
  rw [e]
  obtain ⟨v1,v2,v3⟩:=(N3 hc).1 v
  have hb:=r2 v1 v2 v3
  exact ⟨s,rfl,r1,fun _=>⟨hb.1,fun _=>hb⟩⟩
 ·rw [Ac4 F (by unfold I64; omega)]
  exact ⟨of0,rfl,Azq,fun _=>⟨Azr,fun h=>by cases h⟩⟩
def Met(a b c:Co):Prop:=cvB c=true∧((a.1=true∧c=b)∨(b.1=true∧c=a)∨(a.1=false∧b.1=false∧c.1=false∧(c.2.1=a.2.1∨c.2.1=b.2.1)))
def Aud(a b:Co):Prop:=cvB a=true→cvB b=true→a.1=false∧b.1=false∧(rc a.2.1 b.2.1≤0→0 < rc b.2.1 a.2.2.1)
theorem X0(F:Nat)(hF:A9 F){a b:Co}(ha:COk a)(hb:COk b):∃ c ok,Sa F a b=some (c,ok,())∧COk c∧(ok=true→Met a b c)∧(ok=false→Aud a b):=by
 unfold Sa
 rw [Kl F hF ha,Kl F hF hb]
 simp only [bS]
 have zc:COk (false,(zR,(zR,()))):=⟨Tk,Tk⟩
 by_cases va:cvB a=true
 rotate_left
 ·have va':=va
  rw [Bool.not_eq_true] at va'
  rw [va']
  exact ⟨_,_,rfl,zc,(fun h=>by cases h),fun _ h=>absurd h va⟩
 by_cases vb:cvB b=true
 rotate_left
 ·have vb':=vb
  rw [Bool.not_eq_true] at vb'
  rw [va,vb']
  exact ⟨_,_,rfl,zc,(fun h=>by cases h),fun _ _ h=>absurd h vb⟩
 rw [va,vb]
 simp only [Bool.not_true,cF]
 cases oa:a.1
 rotate_left
 ·exact ⟨_,_,rfl,hb,fun _=>⟨vb,.inl ⟨oa,rfl⟩⟩,fun h=>by cases h⟩
 cases ob:b.1
 rotate_left
 ·exact ⟨_,_,rfl,ha,fun _=>⟨va,.inr (.inl ⟨ob,rfl⟩)⟩,fun h=>by cases h⟩
 obtain ⟨a1,a2,a3⟩:=(N3 oa).1 va
 obtain ⟨b1,b2,b3⟩:=(N3 ob).1 vb
 have fin:∀ (c:Co),COk c→c.1=false→RV c.2.1→RV c.2.2.1→(c.2.1=a.2.1∨c.2.1=b.2.1)→(0 < rc c.2.1 c.2.2.1→rc a.2.1 b.2.1≤0→0 < rc b.2.1 a.2.2.1) →
   ∃ d ok,Kh F (fun z15 z16=>some (z15,(z16,()))) c (false,(zR,(zR,())))=some (d,ok,())∧COk d∧(ok=true→Met a b d)∧(ok=false→Aud a b):=by
  intro c hc oc c1 c2 hl hap
  unfold Kh
  rw [Dy F hF hc.1 hc.2 c1 c2]
  simp only [bS]
  by_cases k:0 < rc c.2.1 c.2.2.1
  ·rw [Aj.2 k]
   exact ⟨_,_,rfl,zc,(fun h=>by cases h),fun _ _ _=>⟨oa,ob,hap k⟩⟩
  ·have:ltI 0 (rc c.2.1 c.2.2.1)=false:=by rw [← Bool.not_eq_true,Aj]; exact k
   rw [this]
   exact ⟨c,true,rfl,hc,fun _=>⟨(N3 oc).2 ⟨c1,c2,by omega⟩,.inr (.inr ⟨oa,ob,oc,hl⟩)⟩,fun h=>by cases h⟩
 have fin2:∀ (c:Co),COk c→c.1=false→RV c.2.1→c.2.2.1=a.2.2.1→((c.2.1=a.2.1∧rc b.2.1 a.2.1≤0)∨(c.2.1=b.2.1)) →
   ∃ d ok,Lq F (fun z15 z16=>some (z15,(z16,()))) c b (false,(zR,(zR,())))=some (d,ok,())∧COk d∧(ok=true→Met a b d)∧(ok=false→Aud a b):=by
  intro c hc oc c1 ch hl
  unfold Lq
  have c2:RV c.2.2.1:=by rw [ch]; exact a2
  rw [Dy F hF hb.2 hc.2 b2 c2]
  simp only [bS]
  by_cases k:rc b.2.2.1 c.2.2.1 < 0
  ·rw [Aj.2 k,cT]
   refine fin (c.1,(c.2.1,(b.2.2.1,c.2.2.2))) ⟨hc.1,hb.2⟩ oc c1 b2 (hl.imp (fun h=>h.1) id) ?_
   intro h h2
   exfalso
   rcases hl with ⟨h3,h4⟩ | h3
   ·have h:0 < rc c.2.1 b.2.2.1:=h
    rw [h3] at h
    have:=O8 a1 b1 b2 h2 b3
    omega
   ·have h:0 < rc c.2.1 b.2.2.1:=h
    rw [h3] at h
    omega
  ·have:ltI (rc b.2.2.1 c.2.2.1) 0=false:=by rw [← Bool.not_eq_true,Aj]; exact k
   rw [this,cF]
   refine fin c hc oc c1 c2 (hl.imp (fun h=>h.1) id) ?_
   intro h h2
   rcases hl with ⟨h3,h4⟩ | h3
   ·rw [h3,ch] at h
    omega
   ·rw [h3,ch] at h
    exact h
 rw [Dy F hF hb.1 ha.1 b1 a1]
 simp only [bS,cF]
 by_cases k:0 < rc b.2.1 a.2.1
 ·rw [Aj.2 k,cT]
  exact fin2 (false,(b.2.1,a.2.2)) ⟨hb.1,ha.2⟩ rfl b1 rfl (.inr rfl)
 ·have:ltI 0 (rc b.2.1 a.2.1)=false:=by rw [← Bool.not_eq_true,Aj]; exact k
  rw [this,cF]
  exact fin2 a ha oa a1 rfl (.inl ⟨rfl,by omega⟩)
abbrev Pi:=Int×(Int×(Int×(Co×Unit)))
abbrev nC:Co:=(false,(zR,(zR,())))
def Ajg:Ty→Bool
  | .int _=>true
  | .bool=>true
  | .unit=>true
  | .pair a b=>Ajg a && Ajg b
  | .arr _ t=>Ajg t
  | _=>false
theorem Aou{α:Type}(f:α→α→Bool)(h:∀ x,f x x=true):∀ l:List α,eqL f l l=true
  | []=>rfl
  | x::l=>by show(f x x && eqL f l l)=true; rw [h,Aou f h l]; rfl
theorem Vb:∀ (t:Ty),Ajg t=true→∀ x:t.den,eqT t x x=true
  | .int _,_,x=>decide_eq_true rfl
  | .bool,_,x=>by show((x:Bool) == x)=true; exact beq_self_eq_true _
  | .unit,_,_=>rfl
  | .pair a b,h,x=>by
    simp only [Ajg,Bool.and_eq_true] at h
    show(eqT a x.1 x.1 && eqT b x.2 x.2)=true
    rw [Vb a h.1,Vb b h.2]; rfl
  | .arr _ t,h,x=>Aou _ (Vb t h) x
  | .str,h,_=>by cases h
  | .slice _,h,_=>by cases h
  | .nil,h,_=>by cases h
  | .val,h,_=>by cases h
def Z9(t:Int):Prop:=0≤t∧t≤4611686018427387904
theorem Agv(F:Nat){t:Int}(h:Z9 t):He F t=some (true,()):=by
  obtain ⟨h1,h2⟩:=h
  have e1:leI 0 t=true:=decide_eq_true h1
  have e2:leI t 4611686018427387904=true:=decide_eq_true h2
  unfold He
  rw [e1,e2]
  rfl
theorem X1(F:Nat){t:Int}(h:Z9 t):∃ u,Ux F t=some (u,())∧1≤u∧u≤4611686018427387904:=by
  obtain ⟨h1,h2⟩:=h
  refine ⟨_,rfl,?_⟩
  unfold Aun
  split <;> omega
theorem Ajh(F:Nat){v t:Int}(ht:Z9 t):∃ k,Q3 F v t=some (k,())∧I64 k:=by
  obtain ⟨u,e,h1,h2⟩:=X1 F ht
  have z1:eqI u 0=false:=by rw [← Bool.not_eq_true,As]; omega
  have z2:eqI u (-1)=false:=by rw [← Bool.not_eq_true,As]; omega
  have j:∃ k b,Hf F (fun z11 z12=>some (z11,(z12,()))) v u=some (k,(b,()))∧I64 k:=by
    unfold Hf
    rw [z1,cF,cF]
    cases (!eqI (I9 v u) 0) with
    | false=>exact ⟨_,_,rfl,Bp _⟩
    | true=>cases (!eqT .bool (ltI v 0) (ltI u 0)) with
      | false=>exact ⟨_,_,rfl,Bp _⟩
      | true=>exact ⟨_,_,rfl,Bp _⟩
  obtain ⟨k,b,j1,j2⟩:=j
  refine ⟨k,?_,j2⟩
  unfold Q3 Qt
  rw [e]
  simp only [bS,z1,z2,cF,j1]
  cases eqI v (-9223372036854775808) <;> rfl
theorem Zn(F:Nat)(hF:A9 F){x y:W}(hx:WOk x)(hy:WOk y):∃ z b,Lo F x y=some (z,b,())∧WOk z:=by
  unfold Lo
  rw [Js F hF hy]
  simp only [bS]
  rw [Oh F hF hx (C6 (by rw [Int.natAbs_neg]; exact hy.abs))]
  exact ⟨_,_,rfl,AkB _⟩
theorem Aji(F:Nat)(hF:A9 F){x y:W}(hx:WOk x)(hy:WOk y):∃ z b,Hh F x y=some (z,b,())∧WOk z:=by
  rw [Oh F hF hx hy]
  exact ⟨_,_,rfl,AkB _⟩
theorem Agw(F:Nat)(hF:A9 F){k t:Int}(hk:I64 k)(ht:Z9 t):∃ w,Uz F k t=some (w,())∧WOk w:=by
  obtain ⟨u,e,h1,h2⟩:=X1 F ht
  have hu:I64 u:=by unfold I64; omega
  unfold Uz
  rw [Fa F hk,e]
  simp only [bS]
  rw [Fa F hu]
  simp only [bS]
  rw [Og F hF (C6 (Ac6 hk)) (C6 (Ac6 hu))]
  exact ⟨_,rfl,AkB _⟩
theorem Aa0(F:Nat)(hF:A9 F){w:W}(hw:WOk w){v t d:Int}(hv:I64 v)(ht:Z9 t)(hd:0≤d∧d≤18446744073709551615):∃ c ok,Ox F w v t d=some (c,ok,())∧COk c∧c.1=false:=by
  have zc:COk nC∧nC.1=false:=⟨⟨Tk,Tk⟩,rfl⟩
  have hwa:WOk (false,w.2):=hw
  have hc:WOk ((false,([0,4,0,0],())):W):=⟨wd4 (by omega) (by omega) (by omega) (by omega),rfl⟩
  have htI:I64 t:=by obtain ⟨h1,h2⟩:=ht; unfold I64; omega
  unfold Ox
  rw [Ix F hF hw]
  simp only [bS]
  cases decide (Vl w) with
  | false=>exact ⟨_,_,rfl,zc⟩
  | true =>
    obtain ⟨v0,hv0⟩:∃ v0,Gg F (false,w.2) (false,([0,4,0,0],()))=some (v0,()):=⟨_,Ks F hF hwa hc⟩
    rw [hv0]
    simp only [bS,Bool.not_true,cF]
    cases leI 0 v0 with
    | true=>exact ⟨_,_,rfl,zc⟩
    | false =>
      rw [Agv F ht]
      simp only [bS,Bool.not_true,cF]
      cases eqI d 0 with
      | true=>exact ⟨_,_,rfl,zc⟩
      | false =>
        obtain ⟨s1,b1,e1,h1⟩:=Zn F hF (C6 (Ac6 hv)) hw
        obtain ⟨s2,b2,e2,h2⟩:=Zn F hF h1 (C6 (Ac6 htI))
        obtain ⟨s3,b3,e3,h3⟩:=Aji F hF h1 (C6 (Ac6 htI))
        have hdo:WOk (toW d):=C6 (by have:=Pc; omega)
        obtain ⟨q1,o1,e4,r1,_⟩:=AtY F hF h2 hdo
        obtain ⟨q2,o2,e5,r2,_⟩:=AtY F hF h3 hdo
        refine ⟨(false,(q1,(q2,()))),true,?_,⟨r1,r2⟩,rfl⟩
        simp only [Fa F hv,Fa F htI,K3 F hd,e1,e2,e3,e4,e5,bS,cF]
def SV(F:Nat)(tol idx cnt:Int)(f:Smp)(last key:Int)(c:Co):Prop :=
  Z9 tol∧0≤idx∧idx+cnt≤1000∧COk c ∧
  ((cnt=0∧idx=0∧f=(0,(0,()))∧last=0∧key=0∧c=nC) ∨
   (1≤cnt∧(I64 last∧I64 f.1)∧I64 key∧Q3 F f.2.1 tol=some (key,())∧((cnt=1∧last=f.1∧c=oC)∨(1 < cnt∧f.1 < last∧cvB c=true∧c.1=false))))
theorem Axx:cvB oC=true:=by
  unfold cvB
  rw [show oC.1=true from rfl,cT]
  exact Vb _ rfl _
theorem SV.cv{F:Nat}{tol idx cnt:Int}{f:Smp}{last key:Int}{c:Co}(h:SV F tol idx cnt f last key c)(h1:1≤cnt):cvB c=true:=by
  obtain ⟨_,_,_,_,h2 | ⟨_,_,_,_,h2 | h2⟩⟩:=h
  · omega
  · rw [h2.2.2]; exact Axx
  · exact h2.2.2.1
theorem Ti(F:Nat)(hF:A9 F){tol idx cnt:Int}{f:Smp}{last key:Int}{c:Co}(h:SV F tol idx cnt f last key c) :
    Pr F (tol,(idx,(cnt,(f,(last,(key,(c,())))))))=some (true,()):=by
  obtain ⟨h1,h2,h3,h4,h5⟩:=h
  unfold Pr
  rw [Agv F h1]
  have x1:ltI idx 0=false:=by rw [← Bool.not_eq_true,Aj]; omega
  have x2:ltI 1073741824 idx=false:=by rw [← Bool.not_eq_true,Aj]; omega
  simp only [bS,Bool.not_true,cF,x1,x2]
  rcases h5 with ⟨c1,c2,c3,c4,c5,c6⟩ | ⟨c1,cI,cK,c2,c3⟩
  · subst c1; subst c3; subst c4; subst c5; subst c6
    rw [show eqI (0:Int) 0=true from rfl,cT]
    exact congrArg (fun b=>some (b,())) (Vb _ rfl _)
  · have x3:eqI cnt 0=false:=by rw [← Bool.not_eq_true,As]; omega
    have x4:eqI key key=true:=As.2 rfl
    simp only [x3,cF,c2,bS,x4,Bool.not_true]
    rcases c3 with ⟨k1,k2,k3⟩ | ⟨k1,k2,k3,k4⟩
    · subst k1; subst k2; subst k3
      have x5:eqI f.1 f.1=true:=As.2 rfl
      rw [show eqI (1:Int) 1=true from rfl,cT,x5,cT]
      unfold Kv
      exact congrArg (fun b=>some (b,())) (Vb _ rfl _)
    · have x5:eqI cnt 1=false:=by rw [← Bool.not_eq_true,As]; omega
      have x6:ltI 1 cnt=true:=Aj.2 k1
      have x7:leI cnt 1073741824=true:=decide_eq_true (by omega)
      have x8:ltI f.1 last=true:=Aj.2 k2
      simp only [x5,x6,x7,x8,cT,cF,Kl F hF h4,bS,k3,k4,Bool.not_false]
theorem AcB(F:Nat){tol idx cnt:Int}{f:Smp}{last key:Int}{c:Co}(h:SV F tol idx cnt f last key c)(hl:idx+cnt+1≤1000)(hc:0≤cnt){s:Smp}(hs:I64 s.1) :
    ∃ key',Ps F (tol,(idx,(cnt,(f,(last,(key,(c,()))))))) s=some ((tol,(idx+cnt,(1,(s,(s.1,(key',(oC,()))))))),())∧SV F tol (idx+cnt) 1 s s.1 key' oC:=by
  obtain ⟨h1,h2,h3,h4,h5⟩:=h
  obtain ⟨k,e,hk⟩:=Ajh F (v:=s.2.1) h1
  refine ⟨k,?_,h1,by omega,by omega,Bdo,.inr ⟨by omega,⟨hs,hs⟩,hk,e,.inl ⟨rfl,rfl,rfl⟩⟩⟩
  unfold Ps Kv
  simp only [e,bS]
  rw [Bc (by omega)]
theorem Un(F:Nat)(hF:A9 F){tol idx cnt:Int}{f:Smp}{last key:Int}{c:Co}(h:SV F tol idx cnt f last key c)(h1:1≤cnt) :
    Oa F (tol,(idx,(cnt,(f,(last,(key,(c,())))))))=some ([(idx,(cnt,(key,(c,()))))],0,()):=by
  unfold Oa
  rw [Ti F hF h]
  have x3:eqI cnt 0=false:=by rw [← Bool.not_eq_true,As]; omega
  simp only [bS,Bool.not_true,cF,x3]
theorem Agx(F:Nat)(hF:A9 F){tol idx cnt:Int}{f:Smp}{last key:Int}{c:Co}(h:SV F tol idx cnt f last key c)(hl:idx+cnt+1≤1000)(hc:0≤cnt){s:Smp}(hs:I64 s.1∧I64 s.2.1)(hlast:1≤cnt→last < s.1) :
    ∃ idx' cnt' f' key' c' ps,U0 F (tol,(idx,(cnt,(f,(last,(key,(c,()))))))) s=some ((tol,(idx',(cnt',(f',(s.1,(key',(c',()))))))),(ps,(0,())))∧SV F tol idx' cnt' f' s.1 key' c'∧idx'+cnt'=idx+cnt+1∧1≤cnt' ∧
      ((ps=[]∧idx'=idx)∨(ps=[(idx,(cnt,(key,(c,()))))]∧1≤cnt∧idx'=idx+cnt)):=by
  have key5:∃ idx' cnt' f' key' c' ps,Lr F (fun z17 z18 z19=>some (z17,(z18,(z19,())))) (tol,(idx,(cnt,(f,(last,(key,(c,()))))))) s (0,(0,(0,((0,(0,())),(0,(0,(nC,())))))))=some ((tol,(idx',(cnt',(f',(s.1,(key',(c',()))))))),(ps,(0,())))∧SV F tol idx' cnt' f' s.1 key' c'∧idx'+cnt'=idx+cnt+1∧1≤cnt' ∧
      ((ps=[]∧idx'=idx)∨(ps=[(idx,(cnt,(key,(c,()))))]∧1≤cnt∧idx'=idx+cnt)):=by
    have h':=h
    obtain ⟨h1,h2,h3,h4,h5⟩:=h'
    have x1:leI 1073741824 (Av .i64 idx cnt)=false:=by
      rw [Bc (by omega)]
      exact decide_eq_false (by omega)
    unfold Lr
    simp only [x1,cF]
    obtain ⟨k1,e1,s1⟩:=AcB F h hl hc hs.1
    rcases h5 with ⟨c1,c2,c3,c4,c5,c6⟩ | ⟨c1,cI,cK,c2,c3⟩
    · have x2:eqI cnt 0=true:=As.2 c1
      rw [x2,cT,e1]
      exact ⟨idx+cnt,1,s,k1,oC,[],rfl,s1,by omega,by omega,.inl ⟨rfl,by omega⟩⟩
    · have x2:eqI cnt 0=false:=by rw [← Bool.not_eq_true,As]; omega
      obtain ⟨w,e2,hw⟩:=Agw F hF cK h1
      have hls:=hlast c1
      have hd:0≤s.1 - f.1∧0 < s.1 - f.1:=by rcases c3 with k | k <;> omega
      have hf:=Ys F hs.1 cI.2 (by omega)
      obtain ⟨c2',ok2,e3,hco,hcf⟩:=Aa0 F hF hw hs.2 h1 (d:=s.1 - f.1) (by have h1:=hs.1; have h2:=cI.2; unfold I64 at h1 h2; omega)
      obtain ⟨m,ok3,e4,hm,hm1,hm2⟩:=X0 F hF h4 hco
      rw [x2,cF]
      simp only [e2,hf,e3,e4,bS]
      cases ok3 with
      | false =>
        simp only [Bool.not_false,cT,Un F hF h c1,bS,e1]
        exact ⟨idx+cnt,1,s,k1,oC,_,rfl,s1,by omega,by omega,.inr ⟨rfl,c1,rfl⟩⟩
      | true =>
        simp only [Bool.not_true,cF]
        have hmet:=hm1 rfl
        rw [Bc (by omega)]
        refine ⟨idx,cnt+1,f,key,m,[],rfl,⟨h1,h2,by omega,hm,.inr ⟨by omega,⟨hs.1,cI.2⟩,cK,c2,.inr ⟨by omega,by omega,hmet.1,?_⟩⟩⟩,by omega,by omega,.inl ⟨rfl,rfl⟩⟩
        rcases hmet.2 with ⟨_,rfl⟩ | ⟨k,_⟩ | ⟨_,_,k,_⟩
        · exact hcf
        · rw [hcf] at k; cases k
        · exact k
  unfold U0
  rw [Ti F hF h]
  simp only [bS,Bool.not_true,cF]
  by_cases k:0 < cnt
  · have x1:ltI 0 cnt=true:=Aj.2 k
    have x2:leI s.1 last=false:=decide_eq_false (by have:=hlast (by omega); omega)
    rw [x1,cT,x2,cF]
    exact key5
  · have x1:ltI 0 cnt=false:=by rw [← Bool.not_eq_true,Aj]; exact k
    rw [x1,cF]
    exact key5
theorem AdY(d:List Smp)(x:Smp)(t:List Smp):An (0,(0,())) (d++x::t) (d.length:Int)=x:=by
 simp [An,List.getD_eq_getElem?_getD]
theorem AkI(F:Nat){R:Type}(k:List Int→Option R){src:List Smp}(hb:src.length≤1000):∀ (rest pre:List Smp) (out:List Int),src=pre++rest→out.length=pre.length→∀ N,rest.length < N →
  Ik F k N src out (pre.length:Int)=k (out++rest.map fun s=>s.1):=by
 intro rest
 induction rest with
 | nil =>
  intro pre out he ho N hN
  obtain ⟨N,rfl⟩:∃ M,N=M+1:=⟨N - 1,by omega⟩
  have hlen:src.length=pre.length:=by rw [he]; simp
  unfold Ik
  simp (disch:=omega) only [bs,↓iP,↓iN]
  simp
 | cons x rest ih =>
  intro pre out he ho N hN
  obtain ⟨N,rfl⟩:∃ M,N=M+1:=⟨N - 1,by omega⟩
  simp only [List.length_cons] at hN
  have hlen:src.length=pre.length+1+rest.length:=by rw [he]; simp; omega
  have g:An (0,(0,())) src (pre.length:Int)=x:=by rw [he]; exact AdY pre x rest
  have e:=ih (pre++[x]) (out++[x.1]) (by rw [he]; simp) (by simp [ho]) N (by omega)
  have hpl:(((pre++[x]).length:Nat):Int)=(pre.length:Int)+1:=by simp
  rw [hpl] at e
  have hz:out++[x.1]++(rest.map fun s=>s.1)=out++((x::rest).map fun s=>s.1):=by simp
  rw [hz] at e
  unfold Ik
  simp (disch:=omega) only [bs,↓iP,↓iN,g]
  exact e
theorem Aa1(F:Nat)(hF:A9 F){l:List Smp}(hb:l.length≤1000)(h:Wm (l.map fun s=>s.1)=true):Sw F l=some (0,()):=by
 have e:Su F l=some (l.map fun s=>s.1,()):=by
  unfold Su
  exact AkI F _ hb l [] [] rfl rfl F (by unfold A9 at hF; omega)
 unfold Sw
 rw [e]
 simp only [bS]
 rw [Wn F hF (by simp; omega),h]
 rfl
theorem Ajj:∀ {l:List Int} {a b:Int} {t:List Int},Wm (l++a::b::t)=true→a < b
 | [],a,b,t,h=>by simp only [List.nil_append,Wm,Bool.and_eq_true,decide_eq_true_eq] at h; exact h.1
 | [x],a,b,t,h=>by
  simp only [List.cons_append,List.nil_append,Wm,Bool.and_eq_true,decide_eq_true_eq] at h; exact h.2.1
 | x::y::l,a,b,t,h=>by
  simp only [List.cons_append,Wm,Bool.and_eq_true] at h
  exact Ajj (l:=y::l) h.2
def PA(l:List Pi)(idx:Int):Prop :=
 (l.length:Int)≤idx∧(∀ p∈l,0≤p.1∧p.1 < idx∧I64 p.2.2.1∧COk p.2.2.2.1∧cvB p.2.2.2.1=true)∧l.Pairwise (fun a b=>a.1 < b.1)∧(0 < idx→∃ p∈l,p.1=0)
theorem PA.push{l:List Pi}{F:Nat}{tol idx cnt:Int}{f:Smp}{last key:Int}{c:Co}(h:PA l idx)(hs:SV F tol idx cnt f last key c)(h1:1≤cnt):PA (l++[(idx,(cnt,(key,(c,()))))]) (idx+cnt):=by
 obtain ⟨a1,a2,a3,a4⟩:=h
 have hcv:=hs.cv h1
 obtain ⟨b1,b2,b3,b4,b5⟩:=hs
 have hk:I64 key:=by
  rcases b5 with k | k
  ·omega
  ·exact k.2.2.1
 refine ⟨by simp only [List.length_append,List.length_singleton]; omega,?_,?_,?_⟩
 ·intro p hp
  rcases List.mem_append.1 hp with h | h
  ·obtain ⟨k1,k2,k3⟩:=a2 p h
   exact ⟨k1,by omega,k3⟩
  ·rw [List.mem_singleton] at h
   subst h
   exact ⟨b2,by show idx < idx+cnt; omega,hk,b4,hcv⟩
 ·rw [List.pairwise_append]
  refine ⟨a3,List.pairwise_singleton _ _,fun a ha b hb=>?_⟩
  rw [List.mem_singleton] at hb
  subst hb
  exact(a2 a ha).2.1
 ·intro _
  by_cases k:0 < idx
  ·obtain ⟨p,h1,h2⟩:=a4 k
   exact ⟨p,List.mem_append_left _ h1,h2⟩
  ·exact ⟨_,List.mem_append_right _ (List.mem_singleton.2 rfl),by show idx=0; omega⟩
theorem Axy(F:Nat)(hF:A9 F){src:List Smp}(hs:Z3 src)(hi:Wm (src.map fun s=>s.1)=true)(hb:src.length≤100)(tol:Int) :
  ∀ (rest pre:List Smp) (acc:List Pi) (idx cnt:Int) (f:Smp) (last key:Int) (c:Co),src=pre++rest→PA acc idx→SV F tol idx cnt f last key c→idx+cnt=pre.length→0≤cnt→(pre≠[]→1≤cnt)→(∀ d x,pre=d++[x]→last=x.1)→∀ N,rest.length < N →
  ∃ acc' idx' cnt' f' last' key' c',PA acc' idx'∧SV F tol idx' cnt' f' last' key' c'∧idx'+cnt'=src.length∧0≤cnt'∧(src≠[]→1≤cnt')∧∀ (R:Type) (k:Int×(Int×(Int×(Smp×(Int×(Int×(Co×Unit))))))→List Pi→Option R),
   Jz F k N src (tol,(idx,(cnt,(f,(last,(key,(c,()))))))) acc (pre.length:Int)=k (tol,(idx',(cnt',(f',(last',(key',(c',()))))))) acc':=by
 intro rest
 induction rest with
 | nil =>
  intro pre acc idx cnt f last key c he ha hv h1 h2 h3 h4 N hN
  obtain ⟨N,rfl⟩:∃ M,N=M+1:=⟨N - 1,by omega⟩
  have hp:src=pre:=by rw [he]; simp
  refine ⟨acc,idx,cnt,f,last,key,c,ha,hv,by rw [hp]; exact h1,h2,by rw [hp]; exact h3,fun R k=>?_⟩
  have x1:ltI (pre.length:Int) (Az src)=false:=by rw [← Bool.not_eq_true,Aj]; unfold Az; rw [hp]; omega
  unfold Jz
  rw [x1,cF]
 | cons x rest ih =>
  intro pre acc idx cnt f last key c he ha hv h1 h2 h3 h4 N hN
  obtain ⟨N,rfl⟩:∃ M,N=M+1:=⟨N - 1,by omega⟩
  simp only [List.length_cons] at hN
  have hlen:src.length=pre.length+1+rest.length:=by rw [he]; simp; omega
  have g:An (0,(0,())) src (pre.length:Int)=x:=by rw [he]; exact AdY pre x rest
  have hx:=hs x (by rw [he]; simp)
  have hlt:1≤cnt→last < x.1:=by
   intro hc
   have hne:pre≠[]:=by
    intro h0
    obtain ⟨_,b2,_,_,b5⟩:=hv
    rw [h0] at h1
    simp at h1
    omega
   obtain ⟨d,y,hd⟩:∃ d y,pre=d++[y]:=⟨pre.dropLast,pre.getLast hne,(List.dropLast_concat_getLast hne).symm⟩
   rw [h4 d y hd]
   refine Ajj (l:=d.map fun s=>s.1) (t:=rest.map fun s=>s.1) ?_
   rw [he,hd] at hi
   simpa using hi
  obtain ⟨idx',cnt',f',key',c',ps,e,s1,s2,s3,s4⟩:=Agx F hF hv (by omega) h2 hx hlt
  have ha':PA (acc++ps) idx':=by
   rcases s4 with ⟨k1,k2⟩ | ⟨k1,k2,k3⟩
   ·rw [k1,k2,List.append_nil]; exact ha
   ·rw [k1,k3]; exact ha.push hv k2
  have hpl:(((pre++[x]).length:Nat):Int)=(pre.length:Int)+1:=by simp
  obtain ⟨acc2,i2,n2,f2,l2,k2,c2,g1,g2,g3,g4,g5,g6⟩:=ih (pre++[x]) (acc++ps) idx' cnt' f' x.1 key' c' (by rw [he]; simp) ha' s1 (by rw [hpl]; omega) (by omega) (fun _=>s3) (fun d y hd=>by
   have:=List.append_inj_right' hd rfl
   simp at this
   rw [this]) N (by omega)
  refine ⟨acc2,i2,n2,f2,l2,k2,c2,g1,g2,g3,g4,g5,fun R k=>?_⟩
  have e2:=g6 R k
  rw [hpl] at e2
  have hpsl:ps.length≤1:=by rcases s4 with ⟨k1,_⟩ | ⟨k1,_⟩ <;> simp [k1]
  have x1:ltI (pre.length:Int) (Az src)=true:=by rw [Aj]; unfold Az; omega
  have x2:inI (pre.length:Int) src.length=true:=by rw [Bo]; omega
  have x3:Bf (acc.length+ps.length) 192=true:=by
   rw [Bq]
   have:=ha.1
   obtain ⟨_,_,_,_,_⟩:=hv
   omega
  unfold Jz
  simp only [x1,x2,cT,g,e,bS,x3]
  rw [Bc (by omega)]
  exact e2
theorem Ajk(F:Nat)(hF:A9 F){l:List Smp}(hs:Z3 l)(hi:Wm (l.map fun s=>s.1)=true)(hb:l.length≤100)(hne:l≠[]){tol:Int}(ht:Z9 tol) :
  ∃ ps,W9 F l tol=some (ps,0,())∧PA ps l.length:=by
 have hv:SV F tol 0 0 (0,(0,())) 0 0 nC:=⟨ht,by omega,by omega,⟨Tk,Tk⟩,.inl ⟨rfl,rfl,rfl,rfl,rfl,rfl⟩⟩
 have ha:PA [] 0:=⟨by simp,fun p hp=>(by cases hp),List.Pairwise.nil,fun h=>by omega⟩
 obtain ⟨acc,idx,cnt,f,last,key,c,g1,g2,g3,g4,g5,g6⟩:=Axy F hF hs hi hb tol l [] [] 0 0 (0,(0,())) 0 0 nC rfl ha hv rfl (by omega) (fun h=>absurd rfl h) (fun d x hd=>by cases d <;> cases hd) F (by unfold A9 at hF; omega)
 have h1:=g5 hne
 refine ⟨acc++[(idx,(cnt,(key,(c,()))))],?_,by rw [← g3]; exact g1.push g2 h1⟩
 have st:Ss F tol=some ((tol,(0,(0,((0,(0,())),(0,(0,(nC,()))))))),(0,())):=by
  unfold Ss
  rw [Agv F ht]
  rfl
 have x1:ltI 1073741824 (Az l)=false:=by rw [← Bool.not_eq_true,Aj]; unfold Az; omega
 have z0:eqI (0:Int) 0=true:=rfl
 have x3:Bf (acc.length+1) 192=true:=by
  rw [Bq]
  have:=g1.1
  omega
 unfold W9
 simp only [st,bS,z0,Bool.not_true,cF,Aa1 F hF (l:=l) (by omega) hi,x1]
 refine(g6 _ _).trans ?_
 rw [Un F hF g2 h1]
 simp only [bS,List.length_singleton,x3,cT]
abbrev zP:Pi:=(0,(0,(0,(nC,()))))
theorem Vc{α:Type}(z:α)(d:List α)(x:α)(t:List α):An z (d++x::t) (d.length:Int)=x:=by
 simp [An,List.getD_eq_getElem?_getD]
theorem Aue{α:Type}(z:α)(d:List α)(y x:α)(t:List α):An z (d++y::x::t) ((d.length:Int)+1)=x:=by
 have h:((d.length:Int)+1)=(((d++[y]).length:Nat):Int):=by simp
 rw [h,show d++y::x::t=(d++[y])++x::t by simp]
 exact Vc z _ x t
theorem Aav{α:Type}(d:List α)(x y:α)(t:List α):Cd (d++x::t) (d.length:Int) y=d++y::t:=by
 simp [Cd]
theorem Auf{α:Type}(d:List α)(y x v:α)(t:List α):Cd (d++y::x::t) ((d.length:Int)+1) v=d++y::v::t:=by
 have h:((d.length:Int)+1)=(((d++[y]).length:Nat):Int):=by simp
 rw [h,show d++y::x::t=(d++[y])++x::t by simp,Aav]
 simp
def AdZ(p:Pi):Prop:=0≤p.1∧p.1 < 4096∧I64 p.2.2.1∧COk p.2.2.2.1∧cvB p.2.2.2.1=true
theorem ApJ(F:Nat){R:Type}(k2:List Pi→Int→Option R)(kr:List Gr→Int→Option R){src:List Pi}(hb:src.length≤1000){i:Nat}(hi:i < src.length)(hd:∀ j:Nat,j < i→(An zP src (j:Int)).1≠(An zP src (i:Int)).1):∀ (m j:Nat),j+m=i→∀ N,m < N →
  H1 F k2 kr N src (i:Int) (j:Int)=k2 src (i:Int):=by
 intro m
 induction m with
 | zero =>
  intro j h N hN
  obtain ⟨N,rfl⟩:∃ M,N=M+1:=⟨N - 1,by omega⟩
  have x1:ltI (j:Int) (i:Int)=false:=by rw [← Bool.not_eq_true,Aj]; omega
  unfold H1
  rw [x1,cF]
 | succ m ih =>
  intro j h N hN
  obtain ⟨N,rfl⟩:∃ M,N=M+1:=⟨N - 1,by omega⟩
  have x1:ltI (j:Int) (i:Int)=true:=by rw [Aj]; omega
  have x2:inI (j:Int) src.length=true:=by rw [Bo]; omega
  have x3:inI (i:Int) src.length=true:=by rw [Bo]; omega
  have x4:eqI (An zP src (j:Int)).1 (An zP src (i:Int)).1=false:=by rw [← Bool.not_eq_true,As]; exact hd j (by omega)
  have e:=ih (j+1) (by omega) N (by omega)
  unfold H1
  simp only [x1,x2,x3,cT,x4,cF]
  rw [Bc (by omega)]
  exact e
theorem Bdr{l:List Pi}(h:l.Pairwise (fun a b=>a.1 < b.1)){i j:Nat}(hj:j < i)(hi:i < l.length):(An zP l (j:Int)).1 < (An zP l (i:Int)).1:=by
 have e:=List.pairwise_iff_getElem.1 h j i (by omega) hi hj
 simp only [An,Int.toNat_natCast,List.getD_eq_getElem?_getD]
 rw [List.getElem?_eq_getElem (by omega),List.getElem?_eq_getElem hi]
 exact e
theorem AkJ(F:Nat)(hF:A9 F){R:Type}(k0:List Pi→Option R)(kr:List Gr→Int→Option R){src:List Pi}(hb:src.length≤1000)(hs:∀ p∈src,AdZ p)(hp:src.Pairwise (fun a b=>a.1 < b.1)):∀ (rest pre:List Pi),src=pre++rest→∀ N,rest.length < N →
  Gh F k0 kr N src (pre.length:Int)=k0 src:=by
 intro rest
 induction rest with
 | nil =>
  intro pre he N hN
  obtain ⟨N,rfl⟩:∃ M,N=M+1:=⟨N - 1,by omega⟩
  have hlen:src.length=pre.length:=by rw [he]; simp
  have x1:ltI (pre.length:Int) (Az src)=false:=by rw [← Bool.not_eq_true,Aj]; unfold Az; omega
  unfold Gh
  rw [x1,cF]
 | cons x rest ih =>
  intro pre he N hN
  obtain ⟨N,rfl⟩:∃ M,N=M+1:=⟨N - 1,by omega⟩
  simp only [List.length_cons] at hN
  have hlen:src.length=pre.length+1+rest.length:=by rw [he]; simp; omega
  have g:An zP src (pre.length:Int)=x:=by rw [he]; exact Vc zP pre x rest
  obtain ⟨p1,p2,p3,p4,p5⟩:=hs x (by rw [he]; simp)
  have hpl:(((pre++[x]).length:Nat):Int)=(pre.length:Int)+1:=by simp
  have e:=ih (pre++[x]) (by rw [he]; simp) N (by omega)
  rw [hpl] at e
  have x1:ltI (pre.length:Int) (Az src)=true:=by rw [Aj]; unfold Az; omega
  have x2:inI (pre.length:Int) src.length=true:=by rw [Bo]; omega
  have x3:ltI x.1 0=false:=by rw [← Bool.not_eq_true,Aj]; omega
  have e7:=ApJ F (fun z13 z14=>Gh F k0 kr N z13 (Av .i64 z14 1)) (fun z16 z17=>kr z16 z17) hb (i:=pre.length) (by omega) (fun j hj=>by have:=Bdr hp hj (by omega); omega) pre.length 0 (by omega) F (by unfold A9 at hF; omega)
  have e7:H1 F (fun z13 z14=>Gh F k0 kr N z13 (Av .i64 z14 1)) (fun z16 z17=>kr z16 z17) F src (pre.length:Int) 0=_:=e7
  unfold Gh
  simp only [x1,x2,cT]
  simp only [g,Kl F hF p4,bS,p5,Bool.not_true,cF,x3]
  rw [e7]
  rw [Bc (by omega)]
  exact e
def Pre(a b:Pi):Prop:=a.2.2.1 < b.2.2.1∨(a.2.2.1=b.2.2.1∧(a.2.2.2.1.1=true∨(b.2.2.2.1.1=false∧rc a.2.2.2.1.2.1 b.2.2.2.1.2.1≤0)))
theorem AdZ.lo{p:Pi}(h:AdZ p)(h2:p.2.2.2.1.1=false):RV p.2.2.2.1.2.1∧RV p.2.2.2.1.2.2.1∧rc p.2.2.2.1.2.1 p.2.2.2.1.2.2.1≤0:=(N3 h2).1 h.2.2.2.2
theorem Pre.trans{a b c:Pi}(ha:AdZ a)(hb:AdZ b)(hc:AdZ c)(h1:Pre a b)(h2:Pre b c):Pre a c:=by
 unfold Pre at *
 rcases h1 with h1 | ⟨h1,h3⟩
 ·rcases h2 with h2 | ⟨h2,_⟩ <;> (left; omega)
 ·rcases h2 with h2 | ⟨h2,h4⟩
  ·left; omega
  ·right
   refine ⟨by omega,?_⟩
   rcases h3 with h3 | ⟨h3,h5⟩
   ·exact .inl h3
   ·rcases h4 with h4 | ⟨h4,h6⟩
    ·rw [h3] at h4; cases h4
    ·cases ha1:a.2.2.2.1.1 with
     | true=>exact .inl rfl
     | false=>exact .inr ⟨h4,O8 (ha.lo ha1).1 (hb.lo h3).1 (hc.lo h4).1 h5 h6⟩
theorem Acf(F:Nat)(hF:A9 F){a b:Pi}(ha:AdZ a)(hb:AdZ b):∃ r,Qe F a b=some (r,())∧(r=true→Pre a b)∧(r=false→Pre b a):=by
 unfold Qe
 by_cases k1:a.2.2.1=b.2.2.1
 rotate_left
 ·have x1:eqI a.2.2.1 b.2.2.1=false:=by rw [← Bool.not_eq_true,As]; exact k1
  rw [x1,Bool.not_false,cT]
  refine ⟨_,rfl,fun h=>Or.inl (Aj.1 h),fun h=>?_⟩
  rw [← Bool.not_eq_true,Aj] at h
  exact Or.inl (by omega)
 have x1:eqI a.2.2.1 b.2.2.1=true:=As.2 k1
 rw [x1,Bool.not_true,cF]
 cases oa:a.2.2.2.1.1 with
 | true =>
  cases ob:b.2.2.2.1.1 with
  | true=>exact ⟨_,rfl,fun _=>Or.inr ⟨k1,.inl oa⟩,fun _=>Or.inr ⟨k1.symm,.inl ob⟩⟩
  | false=>exact ⟨true,rfl,fun _=>Or.inr ⟨k1,.inl oa⟩,fun h=>by cases h⟩
 | false =>
  cases ob:b.2.2.2.1.1 with
  | true=>exact ⟨false,rfl,(fun h=>by cases h),fun _=>Or.inr ⟨k1.symm,.inl ob⟩⟩
  | false =>
   obtain ⟨a1,a2,a3⟩:=ha.lo oa
   obtain ⟨b1,b2,b3⟩:=hb.lo ob
   have hao:=ha.2.2.2.1
   have hbo:=hb.2.2.2.1
   simp only [show eqT .bool false false=true from rfl,Bool.not_true,cF,Bool.not_false,cT,Dy F hF hao.1 hbo.1 a1 b1,Dy F hF hao.2 hbo.2 a2 b2,bS]
   by_cases k2:rc a.2.2.2.1.2.1 b.2.2.2.1.2.1=0
   ·have x2:eqI (rc a.2.2.2.1.2.1 b.2.2.2.1.2.1) 0=true:=As.2 k2
    have h1:rc a.2.2.2.1.2.1 b.2.2.2.1.2.1≤0:=by omega
    have h2:rc b.2.2.2.1.2.1 a.2.2.2.1.2.1≤0:=by
     rcases Int.lt_or_le 0 (rc b.2.2.2.1.2.1 a.2.2.2.1.2.1) with h | h
     ·rw [← Agt] at h; omega
     ·exact h
    have any:∀ o:Option (Bool×Unit),(∃ r,o=some (r,()))→∃ r,o=some (r,())∧(r=true→Pre a b)∧(r=false→Pre b a):=by
     rintro o ⟨r,hr⟩
     exact ⟨r,hr,fun _=>Or.inr ⟨k1,.inr ⟨ob,h1⟩⟩,fun _=>Or.inr ⟨k1.symm,.inr ⟨oa,h2⟩⟩⟩
    refine any _ ?_
    rw [x2,Bool.not_true,cF]
    cases eqI (rc a.2.2.2.1.2.2.1 b.2.2.2.1.2.2.1) 0 with
    | true=>exact ⟨_,rfl⟩
    | false=>exact ⟨_,rfl⟩
   ·have x2:eqI (rc a.2.2.2.1.2.1 b.2.2.2.1.2.1) 0=false:=by rw [← Bool.not_eq_true,As]; exact k2
    rw [x2,Bool.not_false,cT]
    refine ⟨_,rfl,fun h=>?_,fun h=>?_⟩
    ·rw [Aj] at h
     exact Or.inr ⟨k1,.inr ⟨ob,by omega⟩⟩
    ·rw [← Bool.not_eq_true,Aj] at h
     refine Or.inr ⟨k1.symm,.inr ⟨oa,?_⟩⟩
     have:rc b.2.2.2.1.2.1 a.2.2.2.1.2.1 < 0:=Agt.2 (by omega)
     omega
theorem Axz(F:Nat)(hF:A9 F):∀ (n:Nat) (pre mid rest:List Pi) (x:Pi),pre.length=n→(pre++mid).Pairwise Pre→(∀ y∈mid,Pre x y)→(∀ p∈pre++x::mid,AdZ p)→(pre++x::mid++rest).length≤1000→∀ N,n < N →
  ∃ s,s.Pairwise Pre∧s.Perm (pre++x::mid)∧∀ (R:Type) (k6:List Pi→Int→Option R) (i:Int),G0 F k6 N (pre++x::mid++rest) i (pre.length:Int)=k6 (s++rest) i:=by
 intro n
 induction n with
 | zero =>
  intro pre mid rest x hn hs hx hok hl N hN
  obtain ⟨N,rfl⟩:∃ M,N=M+1:=⟨N - 1,by omega⟩
  have hp:pre=[]:=List.length_eq_zero_iff.1 hn
  subst hp
  refine ⟨x::mid,List.pairwise_cons.2 ⟨hx,hs⟩,List.Perm.refl _,fun R k6 i=>?_⟩
  unfold G0
  rfl
 | succ n ih =>
  intro pre mid rest x hn hs hx hok hl N hN
  obtain ⟨N,rfl⟩:∃ M,N=M+1:=⟨N - 1,by omega⟩
  have hne:pre≠[]:=fun h=>by rw [h] at hn; simp at hn
  obtain ⟨d,y,rfl⟩:∃ d y,pre=d++[y]:=⟨pre.dropLast,pre.getLast hne,(List.dropLast_concat_getLast hne).symm⟩
  have hdl:d.length=n:=by simpa using hn
  have hpl:(((d++[y]).length:Nat):Int)=(d.length:Int)+1:=by simp
  have hy:AdZ y:=hok y (by simp)
  have hxo:AdZ x:=hok x (by simp)
  obtain ⟨r,e1,r1,r2⟩:=Acf F hF hxo hy
  have hsrc:d++[y]++x::mid++rest=d++y::x::(mid++rest):=by simp
  have hlen:(d++y::x::(mid++rest)).length=d.length+2+mid.length+rest.length:=by simp; omega
  have hl2:d.length+2+mid.length+rest.length≤1000:=by rw [hsrc,hlen] at hl; exact hl
  have x1:ltI 0 ((d.length:Int)+1)=true:=by rw [Aj]; omega
  have x2:inI ((d.length:Int)+1) (d++y::x::(mid++rest)).length=true:=by rw [Bo,hlen]; omega
  have x3:inI (d.length:Int) (d++y::x::(mid++rest)).length=true:=by rw [Bo,hlen]; omega
  have s1:Bj .i64 ((d.length:Int)+1) 1=(d.length:Int):=by rw [Ou (by omega)]; omega
  have g1:An zP (d++y::x::(mid++rest)) ((d.length:Int)+1)=x:=Aue zP d y x _
  have g2:An zP (d++y::x::(mid++rest)) (d.length:Int)=y:=Vc zP d y _
  cases r with
  | false =>
   refine ⟨d++[y]++x::mid,?_,List.Perm.refl _,fun R k6 i=>?_⟩
   ·rw [List.pairwise_append] at hs ⊢
    obtain ⟨h1,h2,h3⟩:=hs
    refine ⟨h1,List.pairwise_cons.2 ⟨hx,h2⟩,fun a ha b hb=>?_⟩
    rcases List.mem_cons.1 hb with rfl | hb
    ·rcases List.mem_append.1 ha with ha | ha
     ·have h4:Pre a y:=(List.pairwise_append.1 h1).2.2 a ha y (by simp)
      exact Pre.trans (hok a (by simp [ha])) hy hxo h4 (r2 rfl)
     ·rw [List.mem_singleton] at ha
      subst ha
      exact r2 rfl
    ·exact h3 a ha b hb
   ·rw [hpl,hsrc]
    unfold G0
    simp only [x1,x2,s1,x3,cT,g1,g2,e1,bS,cF]
  | true =>
   obtain ⟨s,q1,q2,q3⟩:=ih d (y::mid) rest x hdl (by simpa using hs) (fun b hb=>by
    rcases List.mem_cons.1 hb with rfl | hb
    ·exact r1 rfl
    ·exact hx b hb) (fun p hp=>hok p (by simp at hp ⊢; rcases hp with h | h | h | h <;> simp [h])) (by rw [show d++x::y::mid++rest=d++x::y::(mid++rest) by simp]; simp; omega) N (by omega)
   refine ⟨s,q1,q2.trans ?_,fun R k6 i=>?_⟩
   ·have:d++[y]++x::mid=d++y::x::mid:=by simp
    rw [this]
    exact List.Perm.append_left d (List.Perm.swap y x mid)
   ·have e:=q3 R k6 i
    rw [hpl,hsrc]
    have hset:Cd (d++y::x::(mid++rest)) ((d.length:Int)+1) y=d++y::y::(mid++rest):=Auf d y x y _
    have hset2:Cd (d++y::y::(mid++rest)) (d.length:Int) x=d++x::y::(mid++rest):=Aav d y x _
    have x4:inI (d.length:Int) (d++y::y::(mid++rest)).length=true:=by rw [Bo]; simp; omega
    unfold G0
    simp only [x1,x2,s1,x3,cT,g1,g2,e1,bS,hset,x4,hset2]
    rw [show d++x::y::mid++rest=d++x::y::(mid++rest) by simp] at e
    exact e
theorem Aug(F:Nat)(hF:A9 F):∀ (rest pre:List Pi),pre.Pairwise Pre→(∀ p∈pre++rest,AdZ p)→(pre++rest).length≤1000→∀ N,rest.length < N →
  ∃ s,s.Pairwise Pre∧s.Perm (pre++rest)∧∀ (R:Type) (k4:List Pi→Option R),Fj F k4 N (pre++rest) (pre.length:Int)=k4 s:=by
 intro rest
 induction rest with
 | nil =>
  intro pre hp hok hl N hN
  obtain ⟨N,rfl⟩:∃ M,N=M+1:=⟨N - 1,by omega⟩
  refine ⟨pre,hp,by rw [List.append_nil],fun R k4=>?_⟩
  have x1:ltI (pre.length:Int) (Az (pre++[]))=false:=by rw [← Bool.not_eq_true,Aj]; unfold Az; simp
  unfold Fj
  rw [x1,cF,List.append_nil]
 | cons x rest ih =>
  intro pre hp hok hl N hN
  obtain ⟨N,rfl⟩:∃ M,N=M+1:=⟨N - 1,by omega⟩
  simp only [List.length_cons] at hN
  have hl2:pre.length+1+rest.length≤1000:=by simp at hl; omega
  have hre:pre++x::rest=pre++[x]++rest:=by simp
  obtain ⟨s,q1,q2,q3⟩:=Axz F hF pre.length pre [] rest x rfl (by rw [List.append_nil]; exact hp) (fun y hy=>by cases hy) (fun p h=>hok p (by simp at h ⊢; rcases h with h | h <;> simp [h])) (by simp; omega) F (by unfold A9 at hF; omega)
  have hsl:s.length=pre.length+1:=by rw [q2.length_eq]; simp
  obtain ⟨s2,p1,p2,p3⟩:=ih s q1 (fun p h=>by
   rcases List.mem_append.1 h with h | h
   ·exact hok p (by have:=q2.mem_iff.1 h; simp at this ⊢; rcases this with h | h <;> simp [h])
   ·exact hok p (by simp [h])) (by simp; omega) N (by omega)
  refine ⟨s2,p1,p2.trans ?_,fun R k4=>?_⟩
  ·rw [hre]
   exact List.Perm.append_right rest q2
  ·have x1:ltI (pre.length:Int) (Az (pre++x::rest))=true:=by rw [Aj]; unfold Az; simp; omega
   have e3:=q3 R (fun z34 z35=>Fj F k4 N z34 (Av .i64 z35 1)) (pre.length:Int)
   have e:=p3 R k4
   rw [hsl] at e
   unfold Fj
   rw [x1,cT]
   rw [hre]
   refine e3.trans ?_
   show Fj F k4 N (s++rest) (Av .i64 (pre.length:Int) 1)=_
   rw [Bc (by omega)]
   rw [show((pre.length+1:Nat):Int)=(pre.length:Int)+1 by omega] at e
   exact e
def Agy(v:Int):List Int→List Int
 | []=>[v]
 | y::t=>if v < y then v::y::t else y::Agy v t
theorem X2(v:Int):∀ l:List Int,(Agy v l).Perm (v::l)
 | []=>List.Perm.refl _
 | y::t=>by
  unfold Agy
  split
  ·exact List.Perm.refl _
  ·exact((X2 v t).cons y).trans (List.Perm.swap v y t)
theorem Aov{v:Int}:∀ {l:List Int},l.Pairwise (· < ·)→v ∉ l→(Agy v l).Pairwise (· < ·)
 | [],_,_=>List.pairwise_singleton _ _
 | y::t,h,hv=>by
  unfold Agy
  obtain ⟨h1,h2⟩:=List.pairwise_cons.1 h
  simp only [List.mem_cons,not_or] at hv
  split
  ·rename_i c
   refine List.pairwise_cons.2 ⟨fun a ha=>?_,h⟩
   rcases List.mem_cons.1 ha with rfl | ha
   ·exact c
   ·have:=h1 a ha; omega
  ·refine List.pairwise_cons.2 ⟨fun a ha=>?_,Aov h2 hv.2⟩
   rcases List.mem_cons.1 ((X2 v t).mem_iff.1 ha) with rfl | ha
   ·have:=hv.1; omega
   ·exact h1 a ha
theorem Auh(F:Nat){R:Type}(k:Int→List Int→Bool→Option R)(v:Int){src:List Int}(hb:src.length≤1000):∀ (rest pre out:List Int),src=pre++rest→out.length≤pre.length+1→∀ N,rest.length < N →
  Cw F k N src v out true (pre.length:Int)=k v (out++rest) true:=by
 intro rest
 induction rest with
 | nil =>
  intro pre out he ho N hN
  obtain ⟨N,rfl⟩:∃ M,N=M+1:=⟨N - 1,by omega⟩
  have hlen:src.length=pre.length:=by rw [he]; simp
  have x1:ltI (pre.length:Int) (Az src)=false:=by rw [← Bool.not_eq_true,Aj]; unfold Az; omega
  unfold Cw
  rw [x1,cF,List.append_nil]
 | cons y rest ih =>
  intro pre out he ho N hN
  obtain ⟨N,rfl⟩:∃ M,N=M+1:=⟨N - 1,by omega⟩
  simp only [List.length_cons] at hN
  have hlen:src.length=pre.length+1+rest.length:=by rw [he]; simp; omega
  have g:An 0 src (pre.length:Int)=y:=by rw [he]; exact B8 pre y rest
  have hpl:(((pre++[y]).length:Nat):Int)=(pre.length:Int)+1:=by simp
  have e:=ih (pre++[y]) (out++[y]) (by rw [he]; simp) (by simp; omega) N (by omega)
  rw [hpl,show out++[y]++rest=out++y::rest by simp] at e
  have x1:ltI (pre.length:Int) (Az src)=true:=by rw [Aj]; unfold Az; omega
  have x2:inI (pre.length:Int) src.length=true:=by rw [Bo]; omega
  have x3:Bf (out.length+1) 8=true:=by rw [Bq]; omega
  unfold Cw
  simp only [x1,x2,x3,cT,Bool.not_true,cF,g]
  rw [Bc (by omega)]
  exact e
theorem Aui(F:Nat)(hF:A9 F)(v:Int){src:List Int}(hb:src.length≤1000):∀ (rest pre out:List Int),src=pre++rest→out.length=pre.length→∀ N,rest.length < N →
  Cw F (fun z16 z17 z18=>bif not z18 then bif Bf ((List.length z17)+1) 8 then some ((z17++[z16]),()) else none else some (z17,())) N src v out false (pre.length:Int)=some (out++Agy v rest,()):=by
 intro rest
 induction rest with
 | nil =>
  intro pre out he ho N hN
  obtain ⟨N,rfl⟩:∃ M,N=M+1:=⟨N - 1,by omega⟩
  have hlen:src.length=pre.length:=by rw [he]; simp
  have x1:ltI (pre.length:Int) (Az src)=false:=by rw [← Bool.not_eq_true,Aj]; unfold Az; omega
  have x3:Bf (out.length+1) 8=true:=by rw [Bq]; omega
  unfold Cw
  simp only [x1,cF,Bool.not_false,cT,x3]
  rfl
 | cons y rest ih =>
  intro pre out he ho N hN
  obtain ⟨N,rfl⟩:∃ M,N=M+1:=⟨N - 1,by omega⟩
  simp only [List.length_cons] at hN
  have hlen:src.length=pre.length+1+rest.length:=by rw [he]; simp; omega
  have g:An 0 src (pre.length:Int)=y:=by rw [he]; exact B8 pre y rest
  have hpl:(((pre++[y]).length:Nat):Int)=(pre.length:Int)+1:=by simp
  have x1:ltI (pre.length:Int) (Az src)=true:=by rw [Aj]; unfold Az; omega
  have x2:inI (pre.length:Int) src.length=true:=by rw [Bo]; omega
  have x3:Bf (out.length+1) 8=true:=by rw [Bq]; omega
  have x4:Bf ((out++[v]).length+1) 8=true:=by rw [Bq]; simp; omega
  unfold Cw Agy
  by_cases c:v < y
  ·have x5:ltI v y=true:=Aj.2 c
   rw [iP c]
   have e:=Auh F (fun z16 z17 z18=>bif not z18 then bif Bf ((List.length z17)+1) 8 then some ((z17++[z16]),()) else none else some (z17,())) v hb rest (pre++[y]) (out++[v]++[y]) (by rw [he]; simp) (by simp; omega) N (by omega)
   rw [hpl] at e
   simp only [x1,x2,x3,x4,cT,Bool.not_false,g,x5]
   rw [Bc (by omega)]
   refine e.trans ?_
   simp
  ·have x5:ltI v y=false:=by rw [← Bool.not_eq_true,Aj]; exact c
   rw [iN c]
   have e:=ih (pre++[y]) (out++[y]) (by rw [he]; simp) (by simp; omega) N (by omega)
   rw [hpl] at e
   simp only [x1,x2,x3,cT,Bool.not_false,g,x5,cF]
   rw [Bc (by omega)]
   refine e.trans ?_
   simp
theorem Acg(F:Nat)(hF:A9 F)(v:Int){l:List Int}(hb:l.length≤1000):Qf F l v=some (Agy v l,()):=by
 unfold Qf
 exact Aui F hF v hb l [] [] rfl rfl F (by unfold A9 at hF; omega)
def sts(l:List Gr):List Int:=l.flatMap fun g=>g.2.2.1
def AxA(a b:Gr):Prop:=a.1 < b.1∨(a.1=b.1∧rc a.2.1 b.2.1 < 0)
def A8J(g:Gr):Prop:=I64 g.1∧ROk g.2.1∧RV g.2.1∧g.2.2.1≠[]∧g.2.2.1.Pairwise (· < ·)
theorem AkK:∀ l:List Gr,(sts l).length=tot l
 | []=>rfl
 | g::t=>by
  show(g.2.2.1++sts t).length=g.2.2.1.length+tot t
  rw [List.length_append,AkK t]
theorem Ach(a b:List Gr):sts (a++b)=sts a++sts b:=by unfold sts; rw [List.flatMap_append]
theorem Aci(g:Gr):sts [g]=g.2.2.1:=by unfold sts; simp
theorem Acj:∀ {l:List Gr},(∀ g∈l,A8J g)→l.length≤tot l
 | [],_=>by simp [tot]
 | g::t,h=>by
  have h1:=Acj (l:=t) (fun x hx=>h x (List.mem_cons_of_mem _ hx))
  have h2:=(h g (by simp)).2.2.2.1
  have h3:g.2.2.1.length≠0:=fun h0=>h2 (List.length_eq_zero_iff.1 h0)
  simp only [tot,List.length_cons]
  omega
def GL(pre:List Pi)(l:List Gr)(c:Co):Prop :=
 ∃ d q i g,pre=d++[q]∧l=i++[g]∧g.1=q.2.2.1∧cvB c=true∧(c.1=false→Btw c.2.1 c.2.2.1 g.2.1∧q.2.2.2.1.1=false∧rc c.2.1 q.2.2.2.1.2.1≤0) ∧
  ∀ h∈i,h.1 < g.1∨(h.1=g.1∧c.1=false∧0 < rc c.2.1 h.2.1)
def GI(pre:List Pi)(l:List Gr)(c:Co):Prop :=
 COk c∧(sts l).Perm (pre.map fun p=>p.1)∧(∀ g∈l,A8J g)∧l.Pairwise AxA∧((pre=[]∧l=[])∨GL pre l c)
theorem Agz{p:Rt}:rc p p≤0:=by rw [Ags]; omega
theorem GI.new{pre:List Pi}{l:List Gr}{c:Co}{p:Pi}{s:Rt}(h:GI pre l c)(hp:AdZ p)(hok:∀ q∈pre,AdZ q)
  (hsrt:∀ q∈pre,Pre q p) (hs:ROk s) (hs2:RV s∧(p.2.2.2.1.1=false→Btw p.2.2.2.1.2.1 p.2.2.2.1.2.2.1 s))
  (hap:∀ d q,pre=d++[q]→q.2.2.1=p.2.2.1→Aud c p.2.2.2.1):GI (pre++[p]) (l++[(p.2.2.1,(s,([p.1],())))]) p.2.2.2.1:=by
 obtain ⟨h1,h2,h3,h4,h5⟩:=h
 have hord:∀ h∈l,h.1 < p.2.2.1∨(h.1=p.2.2.1∧p.2.2.2.1.1=false∧0 < rc p.2.2.2.1.2.1 h.2.1):=by
  intro h hh
  rcases h5 with ⟨_,e⟩ | ⟨d,q,i,g,e1,e2,e3,e4,e5,e6⟩
  ·rw [e] at hh; cases hh
  have hq:q∈pre:=by rw [e1]; simp
  have hqo:=hok q hq
  have hqp:=hsrt q hq
  have hho:=(h3 h hh).2.2.1
  rcases hqp with k | ⟨k,k2⟩
  ·left
   rw [e2] at hh
   rcases List.mem_append.1 hh with hh | hh
   ·rcases e6 h hh with e | e <;> omega
   ·rw [List.mem_singleton] at hh; subst hh; omega
  ·obtain ⟨a1,a2,a3⟩:=hap d q e1 k e4 hp.2.2.2.2
   obtain ⟨b1,b2,b3⟩:=e5 a1
   obtain ⟨v1,v2,v3⟩:=(N3 a1).1 e4
   have hle:rc q.2.2.2.1.2.1 p.2.2.2.1.2.1≤0:=by
    rcases k2 with k2 | ⟨_,k2⟩
    ·rw [b2] at k2; cases k2
    ·exact k2
   have hcp:rc c.2.1 p.2.2.2.1.2.1≤0:=O8 v1 (hqo.lo b2).1 (hp.lo a2).1 b3 hle
   rw [e2] at hh
   rcases List.mem_append.1 hh with hh | hh
   ·rcases e6 h hh with e | ⟨f1,f2,f3⟩
    ·left; omega
    ·right
     refine ⟨by omega,a2,?_⟩
     rcases Int.lt_or_le 0 (rc p.2.2.2.1.2.1 h.2.1) with k | k
     ·exact k
     ·have:=O8 v1 (hp.lo a2).1 hho hcp k
      omega
   ·rw [List.mem_singleton] at hh
    subst hh
    right
    refine ⟨by omega,a2,?_⟩
    have h0:=a3 hcp
    rcases Int.lt_or_le 0 (rc p.2.2.2.1.2.1 h.2.1) with k | k
    ·exact k
    ·have:=O8 (hp.lo a2).1 hho v2 k b1.2.2
     omega
 refine ⟨hp.2.2.2.1,?_,?_,?_,.inr ⟨pre,p,l,_,rfl,rfl,rfl,hp.2.2.2.2,fun h=>⟨hs2.2 h,h,Agz⟩,hord⟩⟩
 ·rw [Ach,Aci,List.map_append]
  exact List.Perm.append_right _ h2
 ·intro g hg
  rcases List.mem_append.1 hg with hg | hg
  ·exact h3 g hg
  ·rw [List.mem_singleton] at hg
   subst hg
   exact ⟨hp.2.2.1,hs,hs2.1,by simp,List.pairwise_singleton _ _⟩
 ·rw [List.pairwise_append]
  refine ⟨h4,List.pairwise_singleton _ _,fun a ha b hb=>?_⟩
  rw [List.mem_singleton] at hb
  subst hb
  rcases hord a ha with k | ⟨k1,k2,k3⟩
  ·exact Or.inl k
  ·refine Or.inr ⟨k1,?_⟩
   have hbt:=hs2.2 k2
   have h0:=(h3 a ha).2.2.1
   rcases Int.lt_or_le (rc a.2.1 s) 0 with k | k
   ·exact k
   ·have k4:rc s a.2.1≤0:=by
     rcases Int.lt_or_le 0 (rc s a.2.1) with k5 | k5
     ·rw [← Agt] at k5; omega
     ·exact k5
    have:=O8 (hp.lo k2).1 hbt.1 h0 hbt.2.1 k4
    omega
theorem GI.grow{pre d:List Pi}{q:Pi}{i:List Gr}{g:Gr}{c m:Co}{p:Pi}{s:Rt}(h:GI pre (i++[g]) c)(he:pre=d++[q])(hp:AdZ p)(hok:∀ q∈pre,AdZ q)
  (hsrt:∀ q∈pre,Pre q p) (hs:ROk s) (hs2:RV s∧(m.1=false→Btw m.2.1 m.2.2.1 s)) (hm:COk m) (hmet:Met c p.2.2.2.1 m) (hk:g.1=p.2.2.1) (hnew:p.1 ∉ pre.map fun p=>p.1) :
  GI (pre++[p]) (i++[(g.1,(s,(Agy p.1 g.2.2.1,())))]) m:=by
 obtain ⟨h1,h2,h3,h4,h5⟩:=h
 rcases h5 with ⟨_,e⟩ | ⟨d',q',i',g',e1,e2,e3,e4,e5,e6⟩
 ·simp at e
 have hq':q'=q:=by
  rw [he] at e1
  have:=List.append_inj_right' e1 rfl
  simp at this
  exact this.symm
 obtain ⟨hi,hg⟩:=List.append_inj' e2 rfl
 simp only [List.cons.injEq,and_true] at hg
 subst hq'; subst hi; subst hg
 have hq:q'∈pre:=by rw [he]; simp
 have hqo:=hok q' hq
 have hqp:=hsrt q' hq
 have hkq:q'.2.2.1=p.2.2.1:=by omega
 -- what the new cone keeps
 have hmf:m.1=false→p.2.2.2.1.1=false∧rc m.2.1 p.2.2.2.1.2.1≤0∧(c.1=false→rc c.2.1 m.2.1≤0):=by
  intro hm0
  rcases hmet.2 with ⟨k1,k2⟩ | ⟨k1,k2⟩ | ⟨k1,k2,k3,k4⟩
  ·subst k2
   refine ⟨hm0,Agz,fun h=>?_⟩
   rw [k1] at h; cases h
  ·subst k2
   obtain ⟨b1,b2,b3⟩:=e5 hm0
   exfalso
   rcases hqp with k | ⟨_,k | ⟨k,_⟩⟩
   ·omega
   ·rw [b2] at k; cases k
   ·rw [k1] at k; cases k
  ·obtain ⟨b1,b2,b3⟩:=e5 k1
   obtain ⟨v1,v2,v3⟩:=(N3 k1).1 e4
   have hle:rc q'.2.2.2.1.2.1 p.2.2.2.1.2.1≤0:=by
    rcases hqp with k | ⟨_,k | ⟨_,k⟩⟩
    ·omega
    ·rw [b2] at k; cases k
    ·exact k
   have hcp:rc c.2.1 p.2.2.2.1.2.1≤0:=O8 v1 (hqo.lo b2).1 (hp.lo k2).1 b3 hle
   refine ⟨k2,?_,fun _=>?_⟩
   ·rcases k4 with k4 | k4
    ·rw [k4]; exact hcp
    ·rw [k4]; exact Agz
   ·rcases k4 with k4 | k4
    ·rw [k4]; exact Agz
    ·rw [k4]; exact hcp
 have hmc:c.1=false→m.1=false:=by
  intro hc
  rcases hmet.2 with ⟨k1,k2⟩ | ⟨k1,k2⟩ | ⟨k1,k2,k3,k4⟩
  ·rw [k1] at hc; cases hc
  ·rw [k2]; exact hc
  ·exact k3
 have hord:∀ h∈i,h.1 < g.1∨(h.1=g.1∧m.1=false∧0 < rc m.2.1 h.2.1):=by
  intro h hh
  rcases e6 h hh with e | ⟨f1,f2,f3⟩
  ·exact .inl e
  ·have hm0:=hmc f2
   refine .inr ⟨f1,hm0,?_⟩
   have hle:=(hmf hm0).2.2 f2
   have hho:=(h3 h (by simp [hh])).2.2.1
   rcases Int.lt_or_le 0 (rc m.2.1 h.2.1) with k | k
   ·exact k
   ·have:=O8 ((N3 f2).1 e4).1 ((N3 hm0).1 hmet.1).1 hho hle k
    omega
 have hgm:∀ x∈g.2.2.1,x∈pre.map fun p=>p.1:=by
  intro x hx
  refine h2.mem_iff.1 ?_
  rw [Ach,Aci]
  exact List.mem_append_right _ hx
 refine ⟨hm,?_,?_,?_,.inr ⟨pre,p,i,_,rfl,rfl,hk,hmet.1,fun h=>⟨hs2.2 h,(hmf h).1,(hmf h).2.1⟩,hord⟩⟩
 ·rw [Ach,Aci] at h2
  rw [Ach,Aci,List.map_append]
  have k1:(sts i++Agy p.1 g.2.2.1).Perm (sts i++(p.1::g.2.2.1)):=List.Perm.append_left _ (X2 _ _)
  have k2:(sts i++(p.1::g.2.2.1)).Perm (p.1::(sts i++g.2.2.1)):=List.perm_middle
  have k3:(p.1::(sts i++g.2.2.1)).Perm (p.1::pre.map fun p=>p.1):=h2.cons _
  refine k1.trans (k2.trans (k3.trans ?_))
  exact(List.perm_append_comm (l₁:=[p.1]) (l₂:=pre.map fun p=>p.1))
 ·intro x hx
  rcases List.mem_append.1 hx with hx | hx
  ·exact h3 x (List.mem_append_left _ hx)
  ·rw [List.mem_singleton] at hx
   subst hx
   have hg:=h3 g (by simp)
   refine ⟨hg.1,hs,hs2.1,?_,Aov hg.2.2.2.2 (fun h=>hnew (hgm _ h))⟩
   intro h0
   have:=(X2 p.1 g.2.2.1).length_eq
   have h0:Agy p.1 g.2.2.1=[]:=h0
   rw [h0] at this
   simp at this
 ·rw [List.pairwise_append] at h4 ⊢
  refine ⟨h4.1,List.pairwise_singleton _ _,fun a ha b hb=>?_⟩
  rw [List.mem_singleton] at hb
  subst hb
  rcases hord a ha with k | ⟨k1,k2,k3⟩
  ·exact Or.inl k
  ·refine Or.inr ⟨k1,?_⟩
   have hbt:=hs2.2 k2
   have h0:=(h3 a (by simp [ha])).2.2.1
   rcases Int.lt_or_le (rc a.2.1 s) 0 with k | k
   ·exact k
   ·have k4:rc s a.2.1≤0:=by
     rcases Int.lt_or_le 0 (rc s a.2.1) with k5 | k5
     ·rw [← Agt] at k5; omega
     ·exact k5
    have:=O8 ((N3 k2).1 hmet.1).1 hbt.1 h0 hbt.2.1 k4
    omega
theorem AkL(F:Nat)(hF:A9 F){src:List Pi}(hb:src.length≤1000)(hok:∀ p∈src,AdZ p)(hsrt:src.Pairwise Pre)(hnd:(src.map fun p=>p.1).Nodup):∀ (rest pre:List Pi) (l:List Gr) (c:Co),src=pre++rest→GI pre l c→∀ N,rest.length < N →
  ∃ l' c',GI src l' c'∧∀ (R:Type) (k8:List Gr→Option R),B2 F k8 N src l c (pre.length:Int)=k8 l':=by
 intro rest
 induction rest with
 | nil =>
  intro pre l c he hg N hN
  obtain ⟨N,rfl⟩:∃ M,N=M+1:=⟨N - 1,by omega⟩
  have hp:src=pre:=by rw [he]; simp
  refine ⟨l,c,by rw [hp]; exact hg,fun R k8=>?_⟩
  have x1:ltI (pre.length:Int) (Az src)=false:=by rw [← Bool.not_eq_true,Aj]; unfold Az; rw [hp]; omega
  unfold B2
  rw [x1,cF]
 | cons p rest ih =>
  intro pre l c he hg N hN
  obtain ⟨N,rfl⟩:∃ M,N=M+1:=⟨N - 1,by omega⟩
  simp only [List.length_cons] at hN
  have hlen:src.length=pre.length+1+rest.length:=by rw [he]; simp; omega
  have g:An zP src (pre.length:Int)=p:=by rw [he]; exact Vc zP pre p rest
  have hp:=hok p (by rw [he]; simp)
  have hpre:∀ q∈pre,AdZ q:=fun q hq=>hok q (by rw [he]; simp [hq])
  have hps:∀ q∈pre,Pre q p:=fun q hq=>by
   rw [he] at hsrt
   exact(List.pairwise_append.1 hsrt).2.2 q hq p (by simp)
  have hnew:p.1 ∉ pre.map fun p=>p.1:=by
   rw [he,List.map_append] at hnd
   intro h
   exact(List.nodup_append.1 hnd).2.2 p.1 h p.1 (by simp) rfl
  have hpl:(((pre++[p]).length:Nat):Int)=(pre.length:Int)+1:=by simp
  have hll:l.length≤pre.length:=by
   have h1:=Acj hg.2.2.1
   have h2:=hg.2.1.length_eq
   rw [AkK,List.length_map] at h2
   omega
  obtain ⟨m,ok,e1,hm,hm1,hm2⟩:=X0 F hF hg.1 hp.2.2.2.1
  obtain ⟨s,e2,s1,s2⟩:=Um F hF hp.2.2.2.1
  have x1:ltI (pre.length:Int) (Az src)=true:=by rw [Aj]; unfold Az; omega
  have x2:inI (pre.length:Int) src.length=true:=by rw [Bo]; omega
  have x3:Bf (l.length+1) 112=true:=by rw [Bq]; omega
  -- a new group
  have new:(∀ d q,pre=d++[q]→q.2.2.1=p.2.2.1→Aud c p.2.2.2.1)→∃ l' c',GI src l' c'∧∀ (R:Type) (k8:List Gr→Option R),
    Il F (fun z68 z69 z70 z71=>B2 F k8 N z68 z69 z70 (Av .i64 z71 1)) src l c (pre.length:Int)=k8 l':=by
   intro hap
   have hgi:=hg.new hp hpre hps s1 (s2 hp.2.2.2.2) hap
   obtain ⟨l',c',r1,r2⟩:=ih (pre++[p]) _ _ (by rw [he]; simp) hgi N (by omega)
   refine ⟨l',c',r1,fun R k8=>?_⟩
   have e:=r2 R k8
   rw [hpl] at e
   unfold Il
   simp only [x2,cT,g,e2,bS,x3]
   rw [Bc (by omega)]
   exact e
  by_cases h0:pre=[]
  ·have x4:ltI 0 (pre.length:Int)=false:=by rw [← Bool.not_eq_true,Aj,h0]; simp
   obtain ⟨l',c',r1,r2⟩:=new (fun d q h=>by rw [h0] at h; simp at h)
   refine ⟨l',c',r1,fun R k8=>?_⟩
   unfold B2
   simp only [x1,x2,cT,g,e1,bS,x4,cF]
   unfold Fk
   rw [cF]
   exact r2 R k8
  have x4:ltI 0 (pre.length:Int)=true:=by
   rw [Aj]
   have:pre.length≠0:=fun h=>h0 (List.length_eq_zero_iff.1 h)
   omega
  cases ok with
  | false =>
   obtain ⟨l',c',r1,r2⟩:=new (fun d q _ _=>hm2 rfl)
   refine ⟨l',c',r1,fun R k8=>?_⟩
   unfold B2
   simp only [x1,x2,cT,g,e1,bS,x4,cF]
   unfold Fk
   rw [cF]
   exact r2 R k8
  | true =>
   have hmet:=hm1 rfl
   obtain ⟨d,q,i,gr,q1,q2,q3,q4,q5,q6⟩:GL pre l c:=by
    rcases hg.2.2.2.2 with ⟨k,_⟩ | k
    ·exact absurd k h0
    ·exact k
   subst q2
   have hil:((i++[gr]).length:Int)=(i.length:Int)+1:=by simp
   have hll':i.length+1≤pre.length:=by rw [List.length_append,List.length_singleton] at hll; exact hll
   have y1:Bj .i64 (Az (i++[gr])) 1=(i.length:Int):=by unfold Az; rw [hil,Ou (by omega)]; omega
   have y2:inI (i.length:Int) (i++[gr]).length=true:=by rw [Bo,hil]; omega
   have y3:An zG (i++[gr]) (i.length:Int)=gr:=Vc zG i gr []
   by_cases hk:gr.1=p.2.2.1
   ·have y4:eqI gr.1 p.2.2.1=true:=As.2 hk
    obtain ⟨s',e3,t1,t2⟩:=Um F hF hm
    have hgi:=hg.grow q1 hp hpre hps t1 (t2 hmet.1) hm hmet hk hnew
    obtain ⟨l',c',r1,r2⟩:=ih (pre++[p]) _ _ (by rw [he]; simp) hgi N (by omega)
    refine ⟨l',c',r1,fun R k8=>?_⟩
    have e:=r2 R k8
    rw [hpl] at e
    have hgl:gr.2.2.1.length≤1000:=by
     have h2:=hg.2.1.length_eq
     rw [Ach,Aci,List.length_append,List.length_map] at h2
     omega
    have e4:=Acg F hF p.1 hgl
    have z1:Cd (i++[gr]) (i.length:Int) (gr.1,(gr.2.1,(Agy p.1 gr.2.2.1,gr.2.2.2)))=i++[(gr.1,(gr.2.1,(Agy p.1 gr.2.2.1,())))]:=Aav i gr _ []
    have z2:inI (i.length:Int) (i++[(gr.1,(gr.2.1,(Agy p.1 gr.2.2.1,())))]).length=true:=by rw [Bo]; simp; omega
    have z3:An zG (i++[(gr.1,(gr.2.1,(Agy p.1 gr.2.2.1,())))]) (i.length:Int)=(gr.1,(gr.2.1,(Agy p.1 gr.2.2.1,()))):=Vc zG i _ []
    have z4:Cd (i++[(gr.1,(gr.2.1,(Agy p.1 gr.2.2.1,())))]) (i.length:Int) (gr.1,(s',(Agy p.1 gr.2.2.1,())))=i++[(gr.1,(s',(Agy p.1 gr.2.2.1,())))]:=Aav i _ _ []
    unfold B2
    simp only [x1,x2,cT,g,e1,bS,x4,y1,y2,y3,y4]
    unfold Fk
    simp only [x2,cT,g,bS,y2,y3,e4,z1,e3,z2,z3,z4]
    rw [Bc (by omega)]
    exact e
   ·have y4:eqI gr.1 p.2.2.1=false:=by rw [← Bool.not_eq_true,As]; exact hk
    obtain ⟨l',c',r1,r2⟩:=new (fun d' q' h1 h2=>by
     exfalso
     rw [q1] at h1
     have:=List.append_inj_right' h1 rfl
     simp at this
     rw [← this] at h2
     omega)
    refine ⟨l',c',r1,fun R k8=>?_⟩
    unfold B2
    simp only [x1,x2,cT,g,e1,bS,x4,y1,y2,y3,y4]
    unfold Fk
    rw [cF]
    exact r2 R k8
structure LG (l:List Gr) (n:Int):Prop where
 ok:∀ g∈l,A8J g
 srt:l.Pairwise AxA
 rng:∀ x∈sts l,0≤x∧x < n
 nd:(sts l).Nodup
 z:0∈sts l
 n1:1≤n∧n≤30
 len:(tot l:Int)≤n
theorem AgA(F:Nat)(hF:A9 F){ps:List Pi}{n:Nat}(h:PA ps (n:Int))(hn:n≤30)(h1:1≤n):∃ l,U1 F ps=some (l,0,())∧LG l n:=by
 obtain ⟨a1,a2,a3,a4⟩:=h
 have hok:∀ p∈ps,AdZ p:=fun p hp=>by
  obtain ⟨b1,b2,b3,b4,b5⟩:=a2 p hp
  exact ⟨b1,by omega,b3,b4,b5⟩
 obtain ⟨s,q1,q2,q3⟩:=Aug F hF ps [] List.Pairwise.nil (by simpa using hok) (by simp; omega) F (by unfold A9 at hF; omega)
 rw [List.nil_append] at q2
 have hsl:=q2.length_eq
 have hsok:∀ p∈s,AdZ p:=fun p hp=>hok p (q2.mem_iff.1 hp)
 have hmp:(s.map fun p=>p.1).Perm (ps.map fun p=>p.1):=q2.map _
 have hnd:(s.map fun p=>p.1).Nodup:=by
  rw [hmp.nodup_iff]
  unfold List.Nodup
  rw [List.pairwise_map]
  exact a3.imp (fun h=>by omega)
 have hgi:GI [] [] nC:=⟨⟨Tk,Tk⟩,List.Perm.refl _,(fun g hg=>by cases hg),List.Pairwise.nil,.inl ⟨rfl,rfl⟩⟩
 obtain ⟨l,c,r1,r2⟩:=AkL F hF (src:=s) (by omega) hsok q1 hnd s [] [] nC rfl hgi F (by unfold A9 at hF; omega)
 obtain ⟨c1,c2,c3,c4,_⟩:=r1
 have hperm:(sts l).Perm (ps.map fun p=>p.1):=c2.trans hmp
 have hr:Bf (0+ps.length) 192=true:=by rw [Bq]; omega
 refine ⟨l,?_,c3,c4,?_,?_,?_,by omega,?_⟩
 ·unfold U1
  refine(AkJ F hF _ _ (src:=ps) (by omega) hok a3 ps [] rfl F (by unfold A9 at hF; omega)).trans ?_
  simp only [hr,cT]
  refine(q3 _ _).trans ?_
  exact r2 _ _
 ·intro x hx
  obtain ⟨p,hp,rfl⟩:=List.mem_map.1 (hperm.mem_iff.1 hx)
  obtain ⟨b1,b2,_⟩:=a2 p hp
  exact ⟨b1,b2⟩
 ·rw [c2.nodup_iff]; exact hnd
 ·obtain ⟨p,hp,h0⟩:=a4 (by omega)
  exact hperm.mem_iff.2 (List.mem_map.2 ⟨p,hp,h0⟩)
 ·have:=hperm.length_eq
  rw [AkK,List.length_map] at this
  omega
theorem Tl(F:Nat)(hF:A9 F){t:List Int×Int×Unit}(h:Em t):∃ t' v,Hx F t=some (t',v,())∧Em t'∧Z9 v:=by
 obtain ⟨t1,k,e1,h1,k0,k1⟩:=Am F h (n:=8) (by omega)
 unfold Hx
 rw [e1]
 simp only [bS]
 cases eqI k 0 with
 | true=>exact ⟨t1,0,rfl,h1,by unfold Z9; omega⟩
 | false =>
  simp only [cF]
  cases eqI k 1 with
  | true =>
   obtain ⟨t2,v,e2,h2,v0,v1⟩:=Am F h1 (n:=2) (by omega)
   rw [cT,e2]
   have e5:Bj .i64 4611686018427387904 v=4611686018427387904 - v:=Ou (by omega)
   exact ⟨t2,_,rfl,h2,by show Z9 (Bj .i64 4611686018427387904 v); rw [e5]; unfold Z9; omega⟩
  | false =>
   simp only [cF]
   cases eqI k 2 with
   | true =>
    obtain ⟨t2,w,e2,h2,w0,w1⟩:=Hq F hF h1
    obtain ⟨t3,v,e3,h3,v0,v1⟩:=Am F h2 (n:=60) (by omega)
    have e4:Av .i64 2 v=2+v:=Bc (by omega)
    have e5:IntKind.u64.wrap (2+v)=2+v:=Bi (by omega)
    have e6:ltI (2+v) 0=false:=by rw [← Bool.not_eq_true,Aj]; omega
    rw [cT,e2]
    simp only [bS,e3,e4,e5,e6,cF]
    refine ⟨t3,_,rfl,h3,?_⟩
    have hs:0≤Fg .u64 w (2+v)∧Fg .u64 w (2+v)≤4611686018427387904:=by
     have hm:∃ m:Nat,2≤m∧Fg .u64 w (2+v)=((w.toNat / 2 ^ m:Nat):Int):=by
      rw [I1 w0]
      refine ⟨min (2+v).toNat 64,by omega,?_⟩
      simp only [IntKind.bits]
     obtain ⟨m,hm1,hm2⟩:=hm
     rw [hm2]
     have h4:w.toNat / 2 ^ m≤w.toNat / 4:=Nat.div_le_div_left (by have:=Nat.pow_le_pow_right (n:=2) (by omega) hm1; omega) (by omega)
     generalize w.toNat / 2 ^ m=u at *
     omega
    rw [Cz (by omega)]
    exact hs
   | false =>
    obtain ⟨t2,v,e2,h2,v0,v1⟩:=Am F h1 (n:=30) (by omega)
    rw [cF,e2]
    exact ⟨t2,v,rfl,h2,by unfold Z9; omega⟩
theorem Yz(F:Nat)(hF:A9 F){t:List Int×Int×Unit}(h:Em t){n:Int}(hn:1≤n∧n≤100) :
  ∃ t' l,Nt F t n=some (t',l,())∧Em t'∧Z3 l∧1≤l.length∧(l.length:Int)≤n∧Wm (l.map fun s=>s.1)=true:=by
 obtain ⟨t1,l,e1,h1,h2,h3,h4⟩:=Uh F hF h (n:=n) (by omega)
 unfold Nt
 rw [e1]
 simp only [bS]
 by_cases k:l.length=0
 ·have x1:eqI (Az l) 0=true:=by rw [As]; unfold Az; omega
  obtain ⟨t2,a,e2,g2,ha⟩:=Ih F hF h1
  obtain ⟨t3,b,e3,g3,hb⟩:=Ih F hF g2
  simp only [x1,cT,e2,e3,bS]
  exact ⟨t3,_,rfl,g3,(fun s hs=>by rw [List.mem_singleton] at hs; subst hs; exact ⟨ha,hb⟩),by simp,by simp; omega,rfl⟩
 ·have x1:eqI (Az l) 0=false:=by rw [← Bool.not_eq_true,As]; unfold Az; omega
  rw [x1,cF]
  exact ⟨t1,l,rfl,h1,h2,by omega,h3,h4⟩
theorem AgB(F:Nat)(hF:A9 F){t:List Int×Int×Unit}(h:Em t):∃ t' l n,U2 F t=some (t',l,n,())∧Em t'∧LG l n:=by
 obtain ⟨t1,sm,e1,h1,h2,h3,h4,h5⟩:=Yz F hF h (n:=30) (by omega)
 obtain ⟨t2,tol,e2,g1,g2⟩:=Tl F hF h1
 obtain ⟨ps,e3,k1⟩:=Ajk F hF h2 h5 (by omega) (fun h0=>by rw [h0] at h3; simp at h3) g2
 obtain ⟨l,e4,k2⟩:=AgA F hF k1 (by omega) (by omega)
 refine ⟨t2,l,(sm.length:Int),?_,g1,k2⟩
 unfold U2
 simp only [e1,e2,e3,e4,bS]
 rfl
theorem AxB{l:List Bool}{s y:Int}(hs:0≤s∧s < l.length)(hy:0≤y):An false (Cd l s true) y=if y=s then true else An false l y:=by
 unfold An Cd
 rw [List.getD_eq_getElem?_getD,List.getD_eq_getElem?_getD,List.getElem?_set]
 by_cases c:y=s
 ·subst c
  rw [iP rfl,iP rfl,iP (by omega)]
  rfl
 ·rw [iN c,iN (by omega)]
theorem Auj:∀ {t:List Int} {seen:List Bool} {p:Int},seen.length=4096→t.Pairwise (· < ·)→(∀ x∈t,p < x∧0≤x∧x < 4096∧An false seen x=false) →
  ∃ s,okS seen p t=some s∧s.length=4096∧∀ y,0≤y→y ∉ t→An false s y=An false seen y
 | [],seen,p,hl,_,_=>⟨seen,rfl,hl,fun y _ _=>rfl⟩
 | x::t,seen,p,hl,hp,h=>by
  obtain ⟨h1,h2⟩:=List.pairwise_cons.1 hp
  obtain ⟨a1,a2,a3,a4⟩:=h x (by simp)
  have hg:∀ y,0≤y→An false (Cd seen x true) y=if y=x then true else An false seen y:=fun y hy=>AxB (by omega) hy
  obtain ⟨s,e,e2,e3⟩:=Auj (t:=t) (seen:=Cd seen x true) (p:=x) (by rw [Je]; exact hl) h2 (fun y hy=>by
   obtain ⟨b1,b2,b3,b4⟩:=h y (List.mem_cons_of_mem _ hy)
   have:=h1 y hy
   exact ⟨this,b2,b3,by rw [hg y b2,iN (by omega)]; exact b4⟩)
  refine ⟨s,?_,e2,fun y hy hny=>?_⟩
  ·rw [okS,iP ⟨a2,a3,a4,a1⟩]
   exact e
  ·simp only [List.mem_cons,not_or] at hny
   rw [e3 y hy hny.2,hg y hy,iN hny.1]
theorem Auk:∀ {l:List Gr} {seen:List Bool} {p:Option Gr},seen.length=4096→(∀ g∈l,A8J g)→l.Pairwise AxA→(∀ q,p=some q→∀ g∈l,AxA q g)→(∀ x∈sts l,0≤x∧x < 4096∧An false seen x=false)→(sts l).Nodup→okG seen p l=true
 | [],_,_,_,_,_,_,_,_=>rfl
 | g::t,seen,p,hl,hok,hs,hp,hx,hnd=>by
  obtain ⟨g1,g2,g3,g4,g5⟩:=hok g (by simp)
  obtain ⟨s1,s2⟩:=List.pairwise_cons.1 hs
  have hst:sts (g::t)=g.2.2.1++sts t:=rfl
  rw [hst] at hx hnd
  obtain ⟨n1,n2,n3⟩:=List.nodup_append.1 hnd
  obtain ⟨s,e1,e2,e3⟩:=Auj (t:=g.2.2.1) (p:=-1) hl g5 (fun x h=>by
   obtain ⟨a1,a2,a3⟩:=hx x (List.mem_append_left _ h)
   exact ⟨by omega,a1,a2,a3⟩)
  have ih:=Auk (l:=t) (seen:=s) (p:=some g) e2 (fun x h=>hok x (List.mem_cons_of_mem _ h)) s2 (fun q hq x h=>by cases hq; exact s1 x h) (fun x h=>by
   obtain ⟨a1,a2,a3⟩:=hx x (List.mem_append_right _ h)
   refine ⟨a1,a2,?_⟩
   rw [e3 x a1 (fun h2=>n3 x h2 x h rfl)]
   exact a3) n2
  have hie:g.2.2.1.isEmpty=false:=by
   cases h:g.2.2.1 with
   | nil=>exact absurd h g4
   | cons a b=>rfl
  unfold okG
  rw [decide_eq_true g3,hie,e1]
  cases p with
  | none=>simpa using ih
  | some q =>
   have hq:=hp q rfl g (by simp)
   have hlt:Aca q g=true:=by
    unfold Aca
    rcases hq with h | ⟨h1,h2⟩
    ·rw [decide_eq_true h]; rfl
    ·rw [decide_eq_true h1,decide_eq_true h2]; simp
   simp only [hlt,Bool.true_and,Bool.not_false]
   exact ih
theorem LG.gok{l:List Gr}{n:Int}(h:LG l n):GOk l:=fun g hg=>by
 obtain ⟨g1,g2,g3,g4,g5⟩:=h.ok g hg
 have hm:∀ x∈g.2.2.1,0≤x∧x < n:=fun x hx=>h.rng x (by unfold sts; exact List.mem_flatMap.2 ⟨g,hg,hx⟩)
 have h1:=Yx hg
 have h2:=h.len
 have h3:=h.n1
 exact ⟨g1,g2,fun x hx=>by have:=hm x hx; unfold I64; omega,by omega⟩
theorem A3y(n:Nat)(y:Int):An false (List.replicate n false) y=false:=by
 unfold An
 rw [List.getD_eq_getElem?_getD,List.getElem?_replicate]
 split <;> rfl
theorem LG.gv{l:List Gr}{n:Int}(h:LG l n):gvE l=0:=by
 have h1:=Acj h.ok
 have h2:=h.len
 have h3:=h.n1
 have ho:okG (List.replicate 4096 false) none l=true:=by
  refine Auk (List.length_replicate ..) h.ok h.srt (fun q hq=>by cases hq) (fun x hx=>?_) h.nd
  have:=h.rng x hx
  exact ⟨by omega,by omega,A3y _ _⟩
 unfold gvE
 rw [iN (by omega),iN (by omega),iP ho]
theorem LG.hz{l:List Gr}{n:Int}(h:LG l n):hz l=true:=by
 obtain ⟨g,hg,h0⟩:=List.mem_flatMap.1 h.z
 unfold Go.Proofs.YtdhfajmcakneiaaGreat.hz
 rw [List.any_eq_true]
 refine ⟨g,hg,?_⟩
 obtain ⟨_,_,_,_,g5⟩:=h.ok g hg
 have hm:∀ x∈g.2.2.1,0≤x:=fun x hx=>(h.rng x (List.mem_flatMap.2 ⟨g,hg,hx⟩)).1
 cases hs:g.2.2.1 with
 | nil=>rw [hs] at h0; cases h0
 | cons s t =>
  rw [hs] at h0 g5 hm
  show eqI s 0=true
  rw [As]
  rcases List.mem_cons.1 h0 with h0 | h0
  ·exact h0.symm
  ·have:=(List.pairwise_cons.1 g5).1 0 h0
   have:=hm s (by simp)
   omega
theorem Aa2(F:Nat)(hF:A9 F):We F=some (true,()):=by
 unfold A9 at hF
 obtain ⟨G,rfl⟩:∃ G,F=G+400:=⟨F - 400,by omega⟩
 kernel_rfl
theorem AxC{l:List Gr}(h:GOk l)(hv:gvE l=0):(gB l).length≤2000000∧Bt (gB l):=by
 obtain ⟨v1,v2,v3⟩:=Acc hv
 have hall:=Acb v3
 obtain ⟨s1,s2,s3⟩:=Agh (Axt h) (by rw [Ul]; omega)
 obtain ⟨g1,g2⟩:=Xx h
 have wz:=Au1 v2 (fun g hg=>(hall g hg).2.1)
 have ws:=Aok (l:=l) (fun g hg=>(hall g hg).2.2)
 have hz:=Kb wz (by rw [Va]; omega)
 have hst:=Kb ws (by rw [Pe]; omega)
 have h10:=Xf (v:=l.length) (by omega)
 unfold gB
 refine ⟨by simp only [List.length_append]; omega,?_⟩
 exact(((((AnW _).append s3).append g2).append (A3m wz)).append (A3m ws))
theorem LG.B{l:List Gr}{n:Int}(h:LG l n):(gB l).length≤4000∧Bt (gB l):=by
 refine ⟨?_,(AxC h.gok h.gv).2⟩
 obtain ⟨v1,v2,v3⟩:=Acc h.gv
 have hall:=Acb v3
 have h1:=Acj h.ok
 have h2:=h.len
 have h3:=h.n1
 have a1:=Bdg (Axt h.gok)
 have a2:=(Xx h.gok).1
 have a3:=A3r (Au1 v2 (fun g hg=>(hall g hg).2.1))
 have a4:=A3r (Aok (l:=l) (fun g hg=>(hall g hg).2.2))
 have h10:=Xf (v:=l.length) (by omega)
 rw [Ul] at a1
 rw [Va] at a3
 rw [Pe] at a4
 unfold gB
 simp only [List.length_append]
 omega
theorem Bds{l:List Gr}(h:gvE l=0):gE l=(gB l,0):=by unfold gE; rw [iP h]
theorem AkN(F:Nat){R:Type}(k2:List Gr→List Gr→Int→Option R)(kr:Bool→Option R){l:List Gr}{i:Int}{g:Gr}(hi:inI i l.length=true)(hg:An zG l i=g)(hb:(g.2.2.1.length:Int)≤140737488355328):∀ (m j:Nat),j+m=g.2.2.1.length→∀ N,m < N →
  H6 F k2 kr N l l i (j:Int)=k2 l l i:=by
 intro m
 induction m with
 | zero =>
  intro j h N hN
  obtain ⟨N,rfl⟩:∃ M,N=M+1:=⟨N - 1,by omega⟩
  have x1:ltI (j:Int) (Az g.2.2.1)=false:=by rw [← Bool.not_eq_true,Aj]; unfold Az; omega
  unfold H6
  rw [hi,cT,hg,x1,cF]
 | succ m ih =>
  intro j h N hN
  obtain ⟨N,rfl⟩:∃ M,N=M+1:=⟨N - 1,by omega⟩
  have x1:ltI (j:Int) (Az g.2.2.1)=true:=by rw [Aj]; unfold Az; omega
  have x2:inI (j:Int) g.2.2.1.length=true:=by rw [Bo]; omega
  have x3:eqI (An 0 g.2.2.1 (j:Int)) (An 0 g.2.2.1 (j:Int))=true:=As.2 rfl
  have e:=ih (j+1) (by omega) N (by omega)
  unfold H6
  simp only [hi,cT,hg,x1,x2,x3,Bool.not_true,cF]
  rw [Bc (by omega)]
  exact e
theorem Ajl(F:Nat)(hF:A9 F){R:Type}(k0:Option R)(kr:Bool→Option R){l:List Gr}(hl:GOk l)(hb:(l.length:Int)≤140737488355328):∀ (rest pre:List Gr),l=pre++rest→∀ N,rest.length < N →
  Gm F k0 kr N l l (pre.length:Int)=k0:=by
 intro rest
 induction rest with
 | nil =>
  intro pre he N hN
  obtain ⟨N,rfl⟩:∃ M,N=M+1:=⟨N - 1,by omega⟩
  have hlen:l.length=pre.length:=by rw [he]; simp
  have x1:ltI (pre.length:Int) (Az l)=false:=by rw [← Bool.not_eq_true,Aj]; unfold Az; omega
  unfold Gm
  rw [x1,cF]
 | cons x rest ih =>
  intro pre he N hN
  obtain ⟨N,rfl⟩:∃ M,N=M+1:=⟨N - 1,by omega⟩
  simp only [List.length_cons] at hN
  have hlen:l.length=pre.length+1+rest.length:=by rw [he]; simp; omega
  have g:An zG l (pre.length:Int)=x:=by rw [he]; exact Qq pre x rest
  have hx:=(hl x (by rw [he]; simp)).2.2.2
  have hpl:(((pre++[x]).length:Nat):Int)=(pre.length:Int)+1:=by simp
  have e:=ih (pre++[x]) (by rw [he]; simp) N (by omega)
  rw [hpl] at e
  have x1:ltI (pre.length:Int) (Az l)=true:=by rw [Aj]; unfold Az; omega
  have x2:inI (pre.length:Int) l.length=true:=by rw [Bo]; omega
  have x3:eqI x.1 x.1=true:=As.2 rfl
  have x4:eqI (Az x.2.2.1) (Az x.2.2.1)=true:=As.2 rfl
  have x5:eqT (.pair tyW (.pair tyW .unit)) x.2.1 x.2.1=true:=by rw [Bix]; exact decide_eq_true rfl
  have e9:=AkN F (fun z26 z27 z28=>Gm F k0 kr N z26 z27 (Av .i64 z28 1)) (fun z30=>kr z30) x2 g hx x.2.2.1.length 0 (by omega) F (by unfold A9 at hF; omega)
  have e9:H6 F (fun z26 z27 z28=>Gm F k0 kr N z26 z27 (Av .i64 z28 1)) (fun z30=>kr z30) F l l (pre.length:Int) 0=_:=e9
  unfold Gm
  simp only [x1,x2,cT,g,x3,x5,x4,Bool.not_true,cF]
  rw [e9,Bc (by omega)]
  exact e
theorem Ack(F:Nat)(hF:A9 F){l:List Gr}(hl:GOk l)(hb:(l.length:Int)≤140737488355328):U6 F l l=some (true,()):=by
 unfold U6
 have x:eqI (Az l) (Az l)=true:=As.2 rfl
 rw [x,Bool.not_true,cF]
 exact Ajl F hF _ _ hl hb l [] rfl F (by unfold A9 at hF; omega)
theorem Ajm(F:Nat){n:Int}(hn:0≤n∧n≤2):∀ (m:Nat) (t:List Int×Int×Unit) (b:List Int) (i:Int),Em t→Bt b→b.length≤17 - m→i+m=n+1→0≤i→∀ N,m < N →
  ∃ t' b',Em t'∧Bt b'∧b'.length≤17∧∀ (R:Type) (k:List Int×Int×Unit→List Int→Option R),Ip F k N t n b i=k t' b':=by
 intro m
 induction m with
 | zero =>
  intro t b i ht hb hl hi h0 N hN
  obtain ⟨N,rfl⟩:∃ M,N=M+1:=⟨N - 1,by omega⟩
  refine ⟨t,b,ht,hb,by omega,fun R k=>?_⟩
  have x1:leI i n=false:=decide_eq_false (by omega)
  unfold Ip
  rw [x1,cF]
 | succ m ih =>
  intro t b i ht hb hl hi h0 N hN
  obtain ⟨N,rfl⟩:∃ M,N=M+1:=⟨N - 1,by omega⟩
  obtain ⟨t1,v,e1,h1,_,_⟩:=Am F ht (n:=4) (by omega)
  have hw:=Gv v
  obtain ⟨t',b',g1,g2,g3,g4⟩:=ih t1 (b++[IntKind.wrap .u8 v]) (i+1) h1 (hb.append (fun x hx=>by simp at hx; omega)) (by simp; omega) (by omega) (by omega) N (by omega)
  refine ⟨t',b',g1,g2,g3,fun R k=>?_⟩
  have x1:leI i n=true:=decide_eq_true (by omega)
  have x2:Bf (b.length+1) 1=true:=by rw [Bq]; omega
  unfold Ip
  simp only [x1,cT,e1,bS,x2]
  rw [Bc (by omega)]
  exact g4 R k
theorem AcC(F:Nat)(hF:A9 F){t:List Int×Int×Unit}(h:Em t):∃ t' b,S1 F t=some (t',b,())∧Em t'∧Bt b∧b.length≤17:=by
 obtain ⟨t1,v1,e1,h1,a0,a1⟩:=Am F h (n:=3) (by omega)
 obtain ⟨t2,v2,e2,h2,b0,b1⟩:=Am F h1 (n:=6) (by omega)
 obtain ⟨t3,v3,e3,h3,c0,c1⟩:=Am F h2 (n:=5) (by omega)
 obtain ⟨t4,v4,e4,h4,d0,d1⟩:=Am F h3 (n:=3) (by omega)
 have w1:=Gv v1
 have w2:=Gv v2
 have w3:=Gv v3
 have w4:=Gv (I6 .i64 2 v4)
 have hB:Bt [1,0,0,IntKind.wrap .u8 v2,IntKind.wrap .u8 v3,IntKind.wrap .u8 (I6 .i64 2 v4),0,IntKind.wrap .u8 v1,0]:=fun x hx=>by
  simp only [List.mem_cons,List.not_mem_nil,or_false] at hx
  omega
 obtain ⟨t',b',g1,g2,g3,g4⟩:=Ajm F (n:=v1) (by omega) (v1+1).toNat t4 _ 0 h4 hB (by simp; omega) (by omega) (by omega) F (by unfold A9 at hF; omega)
 refine ⟨t',b',?_,g1,g2,g3⟩
 unfold S1
 simp only [e1,e2,e3,e4,bS]
 exact g4 _ _
theorem Fb(F:Nat)(hF:A9 F){b:List Int}(hb:Bt b)(hbl:(b.length:Int)≤140737488355328)(at_ n:Int):E8 F b at_ n=some (true,()):=by
 obtain ⟨x,end_,e,h1,h2,hx,h3,h4⟩:=A3x F hF hb hbl (fun h hl=>Vx F hF h (by omega)) at_ n
 have hl:(x.length:Int)≤140737488355328:=by
  by_cases c:e=0
  ·have:=(Acc (h3 c).2.2.2.2.2.1).1; omega
  ·rw [(h4 c).1]; simp
 have hs:=Ack F hF hx hl
 have z1:eqI e e=true:=by rw [As]
 have z2:eqI end_ end_=true:=by rw [As]
 unfold E8
 simp only [h1,h2,bS,z1,z2,cT,hs]
theorem X3(F:Nat)(hF:A9 F){b t:List Int}{at_ n:Int}(hb:Bt b)(hbl:(b.length:Int)≤140737488351232)(ha:I64 at_)(hn:I64 n)(ht:∀ x∈t,I64 x)(htl:(t.length:Int)≤140737488355328) :
  K1 F b at_ n t=some (true,()):=by
 obtain ⟨t0,e0,h0⟩:=Akk F htl ht
 obtain ⟨t1,l,m0,e1,h1,hl⟩:=AgB F hF h0
 have hn1:=hl.n1
 have hlt:=hl.len
 have hll:=Acj hl.ok
 have e2:=Acd F hF hl.gok (by omega)
 rw [Bds hl.gv] at e2
 obtain ⟨hsm,hB⟩:=hl.B
 obtain ⟨m,e3,hm0,hm⟩:=Zg F hn (y:=20) (by omega)
 generalize gB l=c at *
 obtain ⟨t2,s,e4,h2,hs,hsl⟩:=AcC F hF h1
 obtain ⟨t3,q,e5,h3,_,_⟩:=Am F h2 (n:=4) (by omega)
 obtain ⟨t4,r,e6,h4,_,_⟩:=Am F h3 (n:=6) (by omega)
 obtain ⟨t5,u,e7,h5,_,_⟩:=Am F h4 (n:=3) (by omega)
 obtain ⟨t6,d,e8,h6,hd,hdl⟩:=Ui F h5 hB (by omega)
 have w1:=Gv q
 have r1:Bf (3+b.length) 1=true:=by rw [Bq]; omega
 have r2:Bf (c.length+b.length) 1=true:=by rw [Bq]; omega
 have q1:=Fb F hF hb (by omega) at_ n
 have q2:=fun n=>Fb F hF hb (by omega) 0 n
 have q3:=fun n=>Fb F hF (b:=[IntKind.wrap .u8 q,0,0]++b) (Bt.append (fun x hx=>by simp at hx; omega) hb) (by simp; omega) 0 n
 have q4:=fun n=>Fb F hF hs (by omega) 0 n
 have q5:=fun n=>Fb F hF hB (by omega) 0 n
 have q6:=fun n=>Fb F hF hd (by omega) 0 n
 have q7:=fun n=>Fb F hF (b:=c++b) (hB.append hb) (by simp; omega) 0 n
 unfold K1
 simp only [e0,e1,e2,bS,e3,e4,Aa2 F hF,cT,q1,q2,e5,r1,q3,q4,e6,q5,e7,e8,q6,r2,q7]
end Go.Proofs.YtdhfajmcakneiaaGreat
