/- The laws of the models, part D. -/
import Derived.Test.YtdhfajmcakneiaaGreatLawsC
set_option linter.unusedVariables false
set_option linter.unusedSimpArgs false
namespace Go.Proofs.YtdhfajmcakneiaaGreat
open Go.Eng
abbrev Gn:=Int×(Rt×(Unit×Unit))
abbrev zGn:Gn:=(0,(zR,((),())))
def rgs(b:List Int):Int→List Int→List Gn×Int×Int
 | at_,k::ks =>
  if(rsp b at_).2.2=0 then
   if(rgs b (rsp b at_).2.1 ks).2.2=0 then((k,((rsp b at_).1,((),())))::(rgs b (rsp b at_).2.1 ks).1,(rgs b (rsp b at_).2.1 ks).2.1,0)
   else([],0,(rgs b (rsp b at_).2.1 ks).2.2)
  else([],0,(rsp b at_).2.2)
 | at_,[]=>([],at_,0)
theorem AfH(d:List Gn)(x y:Gn)(t:List Gn):B6 (d++x::t) (d.length:Int) y=(d++[y])++t:=by
 simp [B6]
theorem ArX(d:List Gn)(x y:Gn)(t:List Gn):B6 ((d++[x])++t) (d.length:Int) y=(d++[y])++t:=by
 rw [List.append_assoc]; exact AfH d x y t
theorem Amw(d:List Gn)(x:Gn)(t:List Gn):Ak zGn (d++x::t) (d.length:Int)=x:=by
 simp [Ak,List.getD_eq_getElem?_getD]
theorem ArY(d:List Gn)(x:Gn)(t:List Gn):Ak zGn ((d++[x])++t) (d.length:Int)=x:=by
 rw [List.append_assoc]; exact Amw d x t
theorem AjF(F:Nat)(hF:A4 F){R:Type}(k:Int→List Gn→Option R)(kr:List Gn→Int→Int→Option R){b:List Int}(hbt:Bt b)(hbl:(b.length:Int)≤140737488355328){ks:List Int}(hb:ks.length≤100000) :
  ∀ (rk pk:List Int) (at_:Int) (out z:List Gn),ks=pk++rk→out.length=pk.length→z.length=rk.length→∀ N,rk.length < N →
  Em F k kr N b at_ (out++z) ks (ks.length:Int) (pk.length:Int)=if(rgs b at_ rk).2.2=0 then k (rgs b at_ rk).2.1 (out++(rgs b at_ rk).1) else kr [] 0 (rgs b at_ rk).2.2:=by
 intro rk
 induction rk with
 | nil =>
  intro pk at_ out z hc ho hz N hN
  obtain ⟨N,rfl⟩:∃ M,N=M+1:=⟨N - 1,by omega⟩
  have:z=[]:=List.length_eq_zero_iff.1 hz
  subst this
  have hlen:ks.length=pk.length:=by rw [hc]; simp
  have hr:rgs b at_ []=([],at_,0):=by unfold rgs; rfl
  unfold Em
  rw [hr]
  simp (disch:=omega) only [bs,↓iP,↓iN]
 | cons x rk ih =>
  intro pk at_ out z hc ho hz N hN
  obtain ⟨N,rfl⟩:∃ M,N=M+1:=⟨N - 1,by omega⟩
  obtain ⟨y,z',rfl⟩:∃ y z',z=y::z':=by
   cases z with
   | nil=>simp at hz
   | cons y z'=>exact ⟨y,z',rfl⟩
  have hl1:ks.length=pk.length+1+rk.length:=by rw [hc]; simp; omega
  simp only [List.length_cons] at hN hz
  have g1:Ak 0 ks (pk.length:Int)=x:=by rw [hc]; exact Cb pk x rk
  have st:∀ w,B6 (out++y::z') (pk.length:Int) w=(out++[w])++z':=fun w=>by rw [← ho]; exact AfH out y w z'
  have hol:(out++y::z').length=pk.length+1+z'.length:=by simp; omega
  have e:=fun a (w:Gn)=>ih (pk++[x]) a (out++[w]) z' (by rw [hc]; simp) (by simp [ho]) (by omega) N (by omega)
  have hpc:(((pk++[x]).length:Nat):Int)=(pk.length:Int)+1:=by simp
  simp only [hpc] at e
  have x1:ltI (pk.length:Int) (ks.length:Int)=true:=by rw [Ah]; omega
  have x2:inI (pk.length:Int) ks.length=true:=by rw [Bo]; omega
  have x4:inI (pk.length:Int) (out++y::z').length=true:=by rw [Bo]; omega
  have xa:As .i64 (pk.length:Int) 1=(pk.length:Int)+1:=Bd (by omega)
  unfold Em
  rw [rgs]
  simp only [x1,x2,x4,cT,g1,bS,st,xa,Zu F hF hbt hbl]
  by_cases c2:(rsp b at_).2.2=0
  ·have y2:eqI (rsp b at_).2.2 0=true:=Ao.2 c2
   rw [iP c2,y2,Bool.not_true,cF,e]
   by_cases c3:(rgs b (rsp b at_).2.1 rk).2.2=0
   ·rw [iP c3,iP c3,iP rfl,List.append_assoc]
    rfl
   ·rw [iN c3,iN c3,iN c3]
  ·have y2:eqI (rsp b at_).2.2 0=false:=by rw [← Bool.not_eq_true,Ao]; exact c2
   rw [iN c2,y2,Bool.not_false,cT,iN c2]
theorem Aii(F:Nat)(hF:A4 F){R:Type}(k:List Int→Int→Int→Int→List Gn→Option R)(kr:Int→Int→Option R)(T n:Int){b:List Int}(hbt:Bt b)(hbl:(b.length:Int)≤140737488355328){ks:List Int}(hb:ks.length≤100000) :
  ∀ (rk pk:List Int) (at_:Int) (out z:List Gn),ks=pk++rk→out.length=pk.length→z.length=rk.length→(∀ w∈z,w=zGn)→∀ N,rk.length < N →
  F1 F k kr N b at_ T n ks (out++z) (pk.length:Int)=if(rgs b at_ rk).2.2=0 then k b (rgs b at_ rk).2.1 T n (out++(rgs b at_ rk).1) else kr 0 (rgs b at_ rk).2.2:=by
 intro rk
 induction rk with
 | nil =>
  intro pk at_ out z hc ho hz hzz N hN
  obtain ⟨N,rfl⟩:∃ M,N=M+1:=⟨N - 1,by omega⟩
  have:z=[]:=List.length_eq_zero_iff.1 hz
  subst this
  have hlen:ks.length=pk.length:=by rw [hc]; simp
  have hr:rgs b at_ []=([],at_,0):=by unfold rgs; rfl
  have hol:(out++([]:List Gn)).length=pk.length:=by simp [ho]
  unfold F1
  rw [hr]
  simp (disch:=omega) only [bs,↓iP,↓iN,hol]
 | cons x rk ih =>
  intro pk at_ out z hc ho hz hzz N hN
  obtain ⟨N,rfl⟩:∃ M,N=M+1:=⟨N - 1,by omega⟩
  obtain ⟨y,z',rfl⟩:∃ y z',z=y::z':=by
   cases z with
   | nil=>simp at hz
   | cons y z'=>exact ⟨y,z',rfl⟩
  have hy:y=zGn:=hzz y (by simp)
  subst hy
  have hl1:ks.length=pk.length+1+rk.length:=by rw [hc]; simp; omega
  simp only [List.length_cons] at hN hz
  have g1:Ak 0 ks (pk.length:Int)=x:=by rw [hc]; exact Cb pk x rk
  have g2:Ak zGn (out++zGn::z') (pk.length:Int)=zGn:=by rw [← ho]; exact Amw out _ z'
  have st:∀ w,B6 (out++zGn::z') (pk.length:Int) w=(out++[w])++z':=fun w=>by rw [← ho]; exact AfH out _ w z'
  have st2:∀ u w,B6 ((out++[u])++z') (pk.length:Int) w=(out++[w])++z':=fun u w=>by rw [← ho]; exact ArX out u w z'
  have gt2:∀ u,Ak zGn ((out++[u])++z') (pk.length:Int)=u:=fun u=>by rw [← ho]; exact ArY out u z'
  have hol:(out++zGn::z').length=pk.length+1+z'.length:=by simp; omega
  have hol2:∀ u:Gn,((out++[u])++z').length=pk.length+1+z'.length:=fun u=>by simp; omega
  have e:=fun a (w:Gn)=>ih (pk++[x]) a (out++[w]) z' (by rw [hc]; simp) (by simp [ho]) (by omega) (fun w hw=>hzz w (List.mem_cons_of_mem _ hw)) N (by omega)
  have hpc:(((pk++[x]).length:Nat):Int)=(pk.length:Int)+1:=by simp
  simp only [hpc] at e
  have x1:ltI (pk.length:Int) (Au (out++zGn::z'))=true:=by rw [Ah]; unfold Au; omega
  have x2:inI (pk.length:Int) ks.length=true:=by rw [Bo]; omega
  have x4:inI (pk.length:Int) (out++zGn::z').length=true:=by rw [Bo]; omega
  have x5:∀ u:Gn,inI (pk.length:Int) ((out++[u])++z').length=true:=fun u=>by rw [Bo,hol2]; omega
  have xa:As .i64 (pk.length:Int) 1=(pk.length:Int)+1:=Bd (by omega)
  unfold F1
  rw [rgs]
  simp only [x1,x2,x4,cT,g1,g2,bS,st,x5,st2,gt2,xa,Xg F hF hbt hbl]
  by_cases c2:(rsp b at_).2.2=0
  ·have y2:eqI (rsp b at_).2.2 0=true:=Ao.2 c2
   rw [iP c2,y2,Bool.not_true,cF,e]
   by_cases c3:(rgs b (rsp b at_).2.1 rk).2.2=0
   ·rw [iP c3,iP c3,iP rfl,List.append_assoc]
    rfl
   ·rw [iN c3,iN c3,iN c3]
  ·have y2:eqI (rsp b at_).2.2 0=false:=by rw [← Bool.not_eq_true,Ao]; exact c2
   rw [iN c2,y2,Bool.not_false,cT,iN c2]
def nsl:List Gn→List Int
 | []=>[]
 | g::t=>sp g.2.1++nsl t
theorem AwB{b:List Int}(hb:Bt b):∀ {ks:List Int} {at_:Int},0≤at_→at_≤b.length→(rgs b at_ ks).2.2=0 →
  (∀ g∈(rgs b at_ ks).1,ROk g.2.1∧RV g.2.1)∧(rgs b at_ ks).1.map (·.1)=ks∧at_≤(rgs b at_ ks).2.1∧(rgs b at_ ks).2.1≤b.length∧Cj (B0 b (rgs b at_ ks).2.1) at_=nsl (rgs b at_ ks).1
 | [],at_,h0,h1,h=>by
  have hr:rgs b at_ []=([],at_,0):=by unfold rgs; rfl
  rw [hr]
  refine ⟨fun s hs=>(by cases hs),rfl,Int.le_refl _,h1,?_⟩
  show Cj (B0 b at_) at_=[]
  unfold Cj B0
  exact List.drop_eq_nil_of_le (by simp; omega)
 | x::ks,at_,h0,h1,h=>by
  rw [rgs] at h ⊢
  by_cases c2:(rsp b at_).2.2=0
  ·rw [iP c2] at h ⊢
   obtain ⟨i1,i2,i3,i4,i5,i6⟩:=A3O hb c2
   by_cases c3:(rgs b (rsp b at_).2.1 ks).2.2=0
   ·obtain ⟨j1,j2,j5,j6,j7⟩:=AwB hb (by omega) i5 c3
    rw [iP c3]
    refine ⟨?_,by rw [List.map_cons,j2],by show at_≤(rgs b (rsp b at_).2.1 ks).2.1; omega,j6,?_⟩
    ·intro s hs
     rcases List.mem_cons.1 hs with rfl | hs
     ·exact ⟨i1,i2⟩
     ·exact j1 s hs
    ·show Cj (B0 b (rgs b (rsp b at_).2.1 ks).2.1) at_=_
     rw [nsl,← Us i3 (Int.le_of_lt i4) j5 j6,i6,j7]
   ·rw [iN c3] at h; exact absurd h c3
  ·rw [iN c2] at h; exact absurd h c2
def Ao3:Int→List Int→Option Int
 | left,[]=>some left
 | left,x::t=>if x < left then Ao3 (left - (x+1)) t else none
theorem ArZ{T:Int}(hT:0≤T):∀ (l:List Int) (s:Int),Wd l→0≤s→s≤T→sat T s l=match Ao3 (T - s) l with | some left=>T - left | none=>T+1
 | [],s,_,_,_=>by
  show s=T - (T - s)
  omega
 | x::t,s,hw,h0,h1=>by
  have hx:=Wd.head hw
  rw [sat,Ao3]
  by_cases c:x < T - s
  ·rw [iP c,show min (s+(min x T+1)) (T+1)=s+x+1 by omega,ArZ hT t _ (Wd.tail hw) (by omega) (by omega),show T - (s+x+1)=T - s - (x+1) by omega]
  ·rw [iN c,show min (s+(min x T+1)) (T+1)=T+1 by omega]
   exact ArD hT t (Wd.tail hw)
theorem As0:∀ {l:List Int} {left r:Int},Wd l→0≤left→Ao3 left l=some r→0≤r∧r≤left∧AbH (mre l)=left - r∧(∀ x∈l,x < left)∧(l.length:Int)≤left
 | [],left,r,_,h0,h=>by
  simp only [Ao3,Option.some.injEq] at h
  subst h
  refine ⟨h0,Int.le_refl _,?_,fun x hx=>by simp at hx,h0⟩
  show AbH []=_
  simp [AbH]
 | x::t,left,r,hw,h0,h=>by
  have hx:=Wd.head hw
  rw [Ao3] at h
  split at h
  ·rename_i c
   obtain ⟨h1,h2,h3,h4,h5⟩:=As0 (Wd.tail hw) (by omega) h
   refine ⟨h1,by omega,?_,fun y hy=>?_,by simp only [List.length_cons]; push_cast; omega⟩
   ·show AbH ((x+1)::mre t)=_
    simp only [AbH,h3]
    omega
   ·rcases List.mem_cons.1 hy with rfl | hy
    ·exact c
    ·have:=h4 y hy; omega
  ·cases h
theorem As1{T:Int}:∀ {l:List Int},(∀ x∈l,x < T)→mrm T l=mre l
 | [],_=>rfl
 | x::t,h=>by
  have:=h x (by simp)
  rw [mrm,mre,As1 fun y hy=>h y (List.mem_cons_of_mem _ hy),show min x T=x by omega]
theorem As2(F:Nat){R:Type}(k:List Int→Int→Int→List Gn→List Int→Int→Option R)(kr:Int→Int→Option R)(b:List Int)(a T:Int)(L:List Gn){src:List Int}(hs:Wd src)(hb:src.length≤100000):∀ (rest pre:List Int) (left:Int),src=pre++rest→0≤left∧left≤4096→∀ N,rest.length < N →
  F2 F k kr N b a T L src left (pre.length:Int)=match Ao3 left rest with | some r=>k b a T L src r | none=>kr 0 10:=by
 intro rest
 induction rest with
 | nil =>
  intro pre left he hl N hN
  obtain ⟨N,rfl⟩:∃ M,N=M+1:=⟨N - 1,by omega⟩
  have hlen:src.length=pre.length:=by rw [he]; simp
  unfold F2 Ao3
  simp (disch:=omega) only [bs,↓iP,↓iN]
 | cons x rest ih =>
  intro pre left he hl N hN
  obtain ⟨N,rfl⟩:∃ M,N=M+1:=⟨N - 1,by omega⟩
  simp only [List.length_cons] at hN
  have hlen:src.length=pre.length+1+rest.length:=by rw [he]; simp; omega
  have g:Ak 0 src (pre.length:Int)=x:=by rw [he]; exact Cb pre x rest
  have hx:0≤x∧x≤18446744073709551615:=hs x (by rw [he]; simp)
  have hpl:(((pre++[x]).length:Nat):Int)=(pre.length:Int)+1:=by simp
  unfold F2
  rw [Ao3]
  by_cases c:x < left
  ·have e:=ih (pre++[x]) (left - (x+1)) (by rw [he]; simp) (by omega) N (by omega)
   rw [hpl] at e
   have a1:As .u64 x 1=x+1:=De (by omega)
   have a2:Bl .u64 left (x+1)=left - (x+1):=Px (by omega)
   rw [iP c]
   simp (disch:=omega) only [bs,↓iP,↓iN,g,a1,a2]
   exact e
  ·rw [iN c]
   simp (disch:=omega) only [bs,↓iP,↓iN,g]
def shI(T:Int):Nat→Int→List Int→Option (List Int×List Int)
 | 0,_,steps=>some ([],steps)
 | _+1,_,[]=>none
 | m+1,next,s::steps=>if s < T - next then(match shI T m (next+s+1) steps with | some r=>some ((next+s)::r.1,r.2) | none=>none) else none
def shA(T:Int):List Int→List Int→Option (List (List Int))
 | [],_=>some []
 | c::cs,steps=>match shI T c.toNat 0 steps with
  | some r=>(match shA T cs r.2 with | some D=>some (r.1::D) | none=>none)
  | none=>none
theorem Amx{T:Int}:∀ {m:Nat} {next:Int} {steps:List Int} {r:List Int×List Int},0≤next→Wd steps→shI T m next steps=some r→steps=stp (next - 1) r.1++r.2∧r.1.length=m∧(∀ x∈r.1,next≤x∧x < T)
 | 0,next,steps,r,_,_,h=>by
  simp only [shI,Option.some.injEq] at h
  subst h
  exact ⟨rfl,rfl,fun x hx=>by simp at hx⟩
 | m+1,next,[],r,_,_,h=>by simp [shI] at h
 | m+1,next,s::steps,r,h0,hw,h=>by
  have hs:=Wd.head hw
  rw [shI] at h
  split at h
  ·rename_i c
   cases h2:shI T m (next+s+1) steps with
   | none=>rw [h2] at h; cases h
   | some q =>
    rw [h2] at h
    simp only [Option.some.injEq] at h
    subst h
    obtain ⟨a1,a2,a3⟩:=Amx (by omega) (Wd.tail hw) h2
    refine ⟨?_,by simp [a2],fun x hx=>?_⟩
    ·show s::steps=(next+s - (next - 1+1))::stp (next+s) q.1++q.2
     rw [show next+s - (next - 1+1)=s by omega,List.cons_append]
     rw [show next+s+1 - 1=next+s by omega] at a1
     rw [← a1]
    ·rcases List.mem_cons.1 hx with rfl | hx
     ·omega
     ·have:=a3 x hx; omega
  ·cases h
theorem As3(F:Nat){T:Int}(hT:0≤T∧T≤4096):∀ (m:Nat) (j next size:Int) (steps xs:List Int),size=j+m→0≤j→size≤4096→0≤next→next≤T→m≤steps.length→Wd steps→steps.length≤100000→xs.length+m≤100000→∀ N,m < N →
  ∃ a c,Dd F true T size N j next steps xs=(match shI T m next steps with | some r=>some (true,r.2,xs++r.1) | none=>some (false,a,c)):=by
 intro m
 induction m with
 | zero =>
  intro j next size steps xs h1 h2 h3 h4 h5 h6 h7 h8 h9 N hN
  obtain ⟨N,rfl⟩:∃ M,N=M+1:=⟨N - 1,by omega⟩
  refine ⟨[],[],?_⟩
  unfold Dd shI
  have:ltI j size=false:=by rw [← Bool.not_eq_true,Ah]; omega
  rw [this,cF]
  simp
 | succ m ih =>
  intro j next size steps xs h1 h2 h3 h4 h5 h6 h7 h8 h9 N hN
  obtain ⟨N,rfl⟩:∃ M,N=M+1:=⟨N - 1,by omega⟩
  cases steps with
  | nil=>simp at h6
  | cons s steps =>
   have hs:=Wd.head h7
   simp only [List.length_cons] at h6 h8
   have x1:ltI j size=true:=by rw [Ah]; omega
   have x2:inI 0 (s::steps).length=true:=by rw [Bo]; simp only [List.length_cons]; omega
   have hw:IntKind.u64.wrap (Bl .i64 T next)=T - next:=by rw [Sf (by omega),Bk (by omega)]
   have g0:Ak 0 (s::steps) 0=s:=rfl
   unfold Dd
   rw [x1,cT,x2,cT,hw,g0,shI]
   by_cases c:s < T - next
   ·have y1:leI (T - next) s=false:=by rw [← Bool.not_eq_true,Bu]; omega
    have r1:Bh (xs.length+1) 8=true:=by rw [Cn]; omega
    have c1:J1 1 (Au (s::steps)) (s::steps).length=true:=by rw [Wk]; unfold Au; simp only [List.length_cons]; omega
    have hws:IntKind.i64.wrap s=s:=Cv (by omega)
    have a1:As .i64 next s=next+s:=Bd (by omega)
    have a2:As .i64 (next+s) 1=next+s+1:=Bd (by omega)
    have a3:As .i64 j 1=j+1:=Bd (by omega)
    have d1:Cj (s::steps) 1=steps:=rfl
    obtain ⟨a,d,e⟩:=ih (j+1) (next+s+1) size steps (xs++[next+s]) (by omega) (by omega) h3 (by omega) (by omega) (by omega) (Wd.tail h7) (by omega) (by simp only [List.length_append,List.length_singleton]; omega) N (by omega)
    refine ⟨a,d,?_⟩
    rw [iP c,y1,cF,cT,r1,cT,c1,cT,hws,a1,a2,a3,d1,e]
    cases shI T m (next+s+1) steps with
    | none=>rfl
    | some r=>simp
   ·have y1:leI (T - next) s=true:=by rw [Bu]; omega
    refine ⟨s::steps,xs,?_⟩
    rw [iN c,y1,cT]
theorem AnX(F:Nat)(hF:A4 F){T:Int}(hT:0≤T∧T≤4096){src:List Int}(hs:∀ x∈src,1≤x∧x≤4096)(hb:src.length≤100000):∀ (rest pre:List Int) (steps:List Int) (D:List (List Int)),src=pre++rest→D.length=pre.length→AbH rest≤steps.length→Wd steps→steps.length≤50000→∀ N,rest.length < N →
  ∃ D',Ck F src.length T src (src.length:Int) N (pre.length:Int) steps D=(match shA T rest steps with | some D2=>some (true,D++D2) | none=>some (false,D')):=by
 intro rest
 induction rest with
 | nil =>
  intro pre steps D he hD h1 h2 h3 N hN
  obtain ⟨N,rfl⟩:∃ M,N=M+1:=⟨N - 1,by omega⟩
  have hlen:src.length=pre.length:=by rw [he]; simp
  refine ⟨[],?_⟩
  unfold Ck shA
  have:ltI (pre.length:Int) (src.length:Int)=false:=by rw [← Bool.not_eq_true,Ah]; omega
  rw [this,cF]
  show some (true,D)=some (true,D++[])
  rw [List.append_nil]
 | cons x rest ih =>
  intro pre steps D he hD h1 h2 h3 N hN
  obtain ⟨N,rfl⟩:∃ M,N=M+1:=⟨N - 1,by omega⟩
  simp only [List.length_cons] at hN
  have hlen:src.length=pre.length+1+rest.length:=by rw [he]; simp; omega
  have g:Ak 0 src (pre.length:Int)=x:=by rw [he]; exact Cb pre x rest
  have hx:=hs x (by rw [he]; simp)
  have hpl:(((pre++[x]).length:Nat):Int)=(pre.length:Int)+1:=by simp
  have hpos:0≤AbH rest:=by
   have:∀ l:List Int,(∀ y∈l,1≤y)→0≤AbH l:=by
    intro l
    induction l with
    | nil=>intro _; simp [AbH]
    | cons y t iht=>intro h; have:=iht (fun z hz=>h z (List.mem_cons_of_mem _ hz)); have:=h y (by simp); simp only [AbH]; omega
   exact this rest fun y hy=>(hs y (by rw [he]; simp [hy])).1
  simp only [AbH] at h1
  obtain ⟨a,c,e⟩:=As3 F hT x.toNat 0 0 x steps [] (by omega) (by omega) (by omega) (by omega) (by omega) (by omega) h2 (by omega) (by simp; omega) F (by unfold A4 at hF; omega)
  have x1:ltI (pre.length:Int) (src.length:Int)=true:=by rw [Ah]; omega
  have x2:inI (pre.length:Int) src.length=true:=by rw [Bo]; omega
  unfold Ck
  rw [x1,cT,x2,cT,g,e,shA]
  cases hq:shI T x.toNat 0 steps with
  | none=>exact ⟨D++[c],rfl⟩
  | some r =>
   obtain ⟨b1,b2,b3⟩:=Amx (by omega) h2 hq
   have hl:=congrArg List.length b1
   rw [List.length_append,O3,b2] at hl
   obtain ⟨D',e2⟩:=ih (pre++[x]) r.2 (D++[r.1]) (by rw [he]; simp) (by simp [hD]) (by omega) (by rw [b1] at h2; exact Wd.right h2) (by omega) N (by omega)
   rw [hpl] at e2
   have y1:eqI ((pre.length:Int)+1) (Au D+1)=true:=by rw [Ao]; unfold Au; omega
   have a1:As .i64 (pre.length:Int) 1=(pre.length:Int)+1:=Bd (by omega)
   refine ⟨D',?_⟩
   simp only [bS,cT,List.nil_append,y1,a1,e2]
   cases shA T rest r.2 with
   | none=>rfl
   | some D2=>simp
theorem Ym(F:Nat)(hF:A4 F){T:Int}(hT:0≤T∧T≤4096){L:List Gn}{cs steps:List Int}(hs:∀ x∈cs,1≤x∧x≤4096)(hl:L.length=cs.length)(hb:cs.length≤100000)(h1:AbH cs≤steps.length)(h2:Wd steps)(h3:steps.length≤50000) :
  ∃ L',Nt F L cs steps T=(match shA T cs steps with | some D=>some (Ec L D,true,()) | none=>some (L',false,())):=by
 obtain ⟨D',e⟩:=AnX F hF hT hs hb cs [] steps [] rfl rfl h1 h2 h3 F (by unfold A4 at hF; omega)
 refine ⟨Ec L D',?_⟩
 unfold Nt He
 have z:eqI (0:Int) 0=true:=rfl
 have e:Ck F L.length T cs (Au cs) F 0 steps []=(match shA T cs steps with | some D2=>some (true,[]++D2) | none=>some (false,D')):=by rw [hl]; exact e
 simp only [z,cT,e]
 cases shA T cs steps with
 | none=>rfl
 | some D=>simp
def AfZ(l:List Int):Bool:=l.any fun v=>eqI v 0
theorem AnY(F:Nat){T:Int}(hT:0≤T∧T≤4096){sizes starts:List Int}{i x:Int}(hi:inI i sizes.length=true)(hx:Ak 0 sizes i=x)(hx2:0≤x∧x≤4096)(hsl:starts.length≤100000):∀ (m:Nat) (j last next k:Int) (zero:Bool) (pre steps xs:List Int),j+m=x+1→(j=0∧next=0∨0 < j∧next=last+1)→0≤next→next≤T→starts=pre++steps→k=pre.length→m≤steps.length→Wd steps→xs.length+m≤100000→∀ N,m < N →
  ∃ a c d,Jf F true T sizes starts i N j last k zero xs=(match shI T m next steps with | some r=>some (true,k+m,(zero || AfZ r.1),xs++r.1) | none=>some (false,a,c,d)):=by
 have hwT:IntKind.u64.wrap T=T:=Bk (by omega)
 have hwx:IntKind.i64.wrap x=x:=Cv (by omega)
 intro m
 induction m with
 | zero =>
  intro j last next k zero pre steps xs h1 h2 h3 h4 h5 h6 h7 h8 h9 N hN
  obtain ⟨N,rfl⟩:∃ M,N=M+1:=⟨N - 1,by omega⟩
  refine ⟨0,false,[],?_⟩
  unfold Jf shI
  have:leI j x=false:=by rw [← Bool.not_eq_true,Bu]; omega
  rw [hi,cT,hx,hwx,this,cF]
  show some (true,k,zero,xs)=some (true,k+((0:Nat):Int),(zero || AfZ []),xs++[])
  simp [AfZ]
 | succ m ih =>
  intro j last next k zero pre steps xs h1 h2 h3 h4 h5 h6 h7 h8 h9 N hN
  obtain ⟨N,rfl⟩:∃ M,N=M+1:=⟨N - 1,by omega⟩
  cases steps with
  | nil=>simp at h7
  | cons s steps =>
   have hs:=Wd.head h8
   simp only [List.length_cons] at h7
   have hsl2:starts.length=pre.length+1+steps.length:=by rw [h5]; simp; omega
   have x1:leI j x=true:=by rw [Bu]; omega
   have x2:inI k starts.length=true:=by rw [Bo]; omega
   have g0:Ak 0 starts k=s:=by rw [h5,h6]; exact Cb pre s steps
   unfold Jf
   rw [hi,cT,hx,hwx,x1,cT,x2,cT,hwT,g0,shI]
   by_cases c:s < T - next
   ·have y1:leI T s=false:=by rw [← Bool.not_eq_true,Bu]; omega
    have hv:(bif ltI 0 j then As .u64 s (As .u64 last 1) else s)=next+s:=by
     rcases h2 with ⟨h2,h2'⟩ | ⟨h2,h2'⟩
     ·have:ltI 0 j=false:=by rw [← Bool.not_eq_true,Ah]; omega
      rw [this,cF]; omega
     ·have:ltI 0 j=true:=by rw [Ah]; omega
      rw [this,cT,De (x:=last) (by omega),De (by omega)]; omega
    have y2:leI T (next+s)=false:=by rw [← Bool.not_eq_true,Bu]; omega
    have r1:Bh (xs.length+1) 8=true:=by rw [Cn]; omega
    have hw:IntKind.i64.wrap (next+s)=next+s:=Cv (by omega)
    have a1:As .i64 j 1=j+1:=Bd (by omega)
    have a2:As .i64 k 1=k+1:=Bd (by omega)
    obtain ⟨a,c',d,e⟩:=ih (j+1) (next+s) (next+s+1) (k+1) (bif zero then true else eqI (next+s) 0) (pre++[s]) steps (xs++[next+s]) (by omega) (.inr ⟨by omega,rfl⟩) (by omega) (by omega) (by rw [h5]; simp) (by rw [h6]; simp) (by omega) (Wd.tail h8) (by simp only [List.length_append,List.length_singleton]; omega) N (by omega)
    refine ⟨a,c',d,?_⟩
    rw [iP c,y1,cF]
    simp only [hv]
    rw [y2,cF,cT,r1,cT,hw,a1,a2,e]
    cases shI T m (next+s+1) steps with
    | none=>rfl
    | some r =>
     have hz:((bif zero then true else eqI (next+s) 0) || AfZ r.1)=(zero || AfZ ((next+s)::r.1)):=by
      unfold AfZ
      rw [List.any_cons]
      cases zero <;> rfl
     have hk:k+1+(m:Int)=k+((m+1:Nat):Int):=by push_cast; omega
     simp only [hz,hk,List.append_assoc,List.cons_append,List.nil_append]
   ·rw [iN c]
    by_cases c1:T≤s
    ·have y1:leI T s=true:=by rw [Bu]; exact c1
     exact ⟨k,zero,xs,by rw [y1,cT]⟩
    ·have y1:leI T s=false:=by rw [← Bool.not_eq_true,Bu]; exact c1
     have hv:(bif ltI 0 j then As .u64 s (As .u64 last 1) else s)=next+s:=by
      rcases h2 with ⟨h2,h2'⟩ | ⟨h2,h2'⟩
      ·have:ltI 0 j=false:=by rw [← Bool.not_eq_true,Ah]; omega
       rw [this,cF]; omega
      ·have:ltI 0 j=true:=by rw [Ah]; omega
       rw [this,cT,De (x:=last) (by omega),De (by omega)]; omega
     have y2:leI T (next+s)=true:=by rw [Bu]; omega
     refine ⟨k,zero,xs,?_⟩
     rw [y1,cF]
     simp only [hv]
     rw [y2,cT]
theorem AjG(F:Nat)(hF:A4 F){T:Int}(hT:0≤T∧T≤4096){src starts:List Int}(hs:∀ x∈src,0≤x∧x < 4096)(hb:src.length≤100000)(hsl:starts.length≤50000):∀ (rest pre:List Int) (pst steps:List Int) (zero:Bool) (D:List (List Int)),src=pre++rest→D.length=pre.length→starts=pst++steps→AbH (mre rest)≤steps.length→Wd steps→∀ N,rest.length < N →
  ∃ z' D',F3 F src.length T src starts N (pre.length:Int) (pst.length:Int) zero D=(match shA T (mre rest) steps with | some D2=>some (true,(zero || D2.any AfZ),D++D2) | none=>some (false,z',D')):=by
 intro rest
 induction rest with
 | nil =>
  intro pre pst steps zero D he hD hst h1 h2 N hN
  obtain ⟨N,rfl⟩:∃ M,N=M+1:=⟨N - 1,by omega⟩
  have hlen:src.length=pre.length:=by rw [he]; simp
  refine ⟨false,[],?_⟩
  unfold F3
  have:ltI (pre.length:Int) (src.length:Int)=false:=by rw [← Bool.not_eq_true,Ah]; omega
  rw [this,cF]
  show some (true,zero,D)=some (true,(zero || ([]:List (List Int)).any AfZ),D++[])
  simp
 | cons x rest ih =>
  intro pre pst steps zero D he hD hst h1 h2 N hN
  obtain ⟨N,rfl⟩:∃ M,N=M+1:=⟨N - 1,by omega⟩
  simp only [List.length_cons] at hN
  have hlen:src.length=pre.length+1+rest.length:=by rw [he]; simp; omega
  have g:Ak 0 src (pre.length:Int)=x:=by rw [he]; exact Cb pre x rest
  have hx:=hs x (by rw [he]; simp)
  have hpl:(((pre++[x]).length:Nat):Int)=(pre.length:Int)+1:=by simp
  have hpos:0≤AbH (mre rest):=by
   have:∀ l:List Int,(∀ y∈l,0≤y)→0≤AbH (mre l):=by
    intro l
    induction l with
    | nil=>intro _; simp [mre,AbH]
    | cons y t iht=>intro h; have:=iht (fun z hz=>h z (List.mem_cons_of_mem _ hz)); have:=h y (by simp); simp only [mre,AbH]; omega
   exact this rest fun y hy=>(hs y (by rw [he]; simp [hy])).1
  simp only [mre,AbH] at h1
  have hstl:starts.length=pst.length+steps.length:=by rw [hst]; simp
  have x1:ltI (pre.length:Int) (src.length:Int)=true:=by rw [Ah]; omega
  have x2:inI (pre.length:Int) src.length=true:=by rw [Bo]; omega
  obtain ⟨a,c,d,e⟩:=AnY F hT x2 g (by omega) (by omega) (x+1).toNat 0 0 0 (pst.length:Int) zero pst steps [] (by omega) (.inl ⟨rfl,rfl⟩) (by omega) (by omega) hst rfl (by omega) h2 (by simp; omega) F (by unfold A4 at hF; omega)
  unfold F3
  rw [x1,cT,x2,e,mre,shA]
  cases hq:shI T (x+1).toNat 0 steps with
  | none=>exact ⟨zero,D,rfl⟩
  | some r =>
   obtain ⟨b1,b2,b3⟩:=Amx (by omega) h2 hq
   have hl:=congrArg List.length b1
   rw [List.length_append,O3,b2] at hl
   obtain ⟨z',D',e2⟩:=ih (pre++[x]) (pst++stp (0 - 1) r.1) r.2 (zero || AfZ r.1) (D++[r.1]) (by rw [he]; simp) (by simp [hD]) (by rw [hst,List.append_assoc,← b1]) (by omega) (by rw [b1] at h2; exact Wd.right h2) N (by omega)
   have hk:(((pst++stp (0 - 1) r.1).length:Nat):Int)=(pst.length:Int)+((x+1).toNat:Int):=by rw [List.length_append,O3,b2]; push_cast; rfl
   rw [hpl,hk] at e2
   have y1:eqI ((pre.length:Int)+1) (Au D+1)=true:=by rw [Ao]; unfold Au; omega
   have a1:As .i64 (pre.length:Int) 1=(pre.length:Int)+1:=Bd (by omega)
   refine ⟨z',D',?_⟩
   simp only [bS,cT,List.nil_append,y1,a1,e2]
   cases shA T (mre rest) r.2 with
   | none=>rfl
   | some D2=>simp [Bool.or_assoc]
theorem AwC{T:Int}:∀ {cs steps:List Int} {D:List (List Int)},(∀ c∈cs,1≤c)→Wd steps→shA T cs steps=some D→∃ more,steps=(D.map (stp (-1))).flatten++more∧D.length=cs.length∧(∀ d∈D,∀ x∈d,0≤x∧x < T)∧(D.map fun d=>(d.length:Int))=cs
 | [],steps,D,_,_,h=>by
  simp only [shA,Option.some.injEq] at h
  subst h
  exact ⟨steps,rfl,rfl,fun d hd=>by simp at hd,rfl⟩
 | c::cs,steps,D,hc,hw,h=>by
  rw [shA] at h
  cases hq:shI T c.toNat 0 steps with
  | none=>rw [hq] at h; cases h
  | some r =>
   rw [hq] at h
   simp only at h
   obtain ⟨b1,b2,b3⟩:=Amx (by omega) hw hq
   cases h2:shA T cs r.2 with
   | none=>rw [h2] at h; cases h
   | some D2 =>
    rw [h2] at h
    simp only [Option.some.injEq] at h
    subst h
    obtain ⟨more,d1,d2,d3,d4⟩:=AwC (fun y hy=>hc y (List.mem_cons_of_mem _ hy)) (by rw [b1] at hw; exact Wd.right hw) h2
    have hc1:=hc c (by simp)
    refine ⟨more,?_,by simp [d2],fun d hd=>?_,?_⟩
    ·rw [List.map_cons,List.flatten_cons,List.append_assoc,← d1]
     exact b1
    ·rcases List.mem_cons.1 hd with rfl | hd
     ·exact b3
     ·exact d3 d hd
    ·rw [List.map_cons,d4]
     congr 1
     omega
def hdz:List Int→Bool
 | []=>false
 | s::_=>eqI s 0
def hz(l:List Gr):Bool:=l.any fun g=>hdz g.2.2.1
theorem AuQ{d:List Int}{p:Int}(h:Asc p d):AfZ d=hdz d:=by
 cases d with
 | nil=>rfl
 | cons s t =>
  have:∀ {t:List Int} {s:Int},0≤s→Asc s t→AfZ t=false:=by
   intro t
   induction t with
   | nil=>intro s _ _; rfl
   | cons x t ih =>
    intro s h0 h
    have e:eqI x 0=false:=by rw [← Bool.not_eq_true,Ao]; have:=h.1; omega
    show(eqI x 0 || AfZ t)=false
    rw [e,ih h.1.1 h.2]
    rfl
  show(eqI s 0 || AfZ t)=eqI s 0
  rw [this h.1.1 h.2,Bool.or_false]
theorem AjH(F:Nat){src:List Gr}(hs:∀ g∈src,g.2.2.1≠[])(hb:src.length≤100000):∀ (rest pre:List Gr),src=pre++rest→∀ N,rest.length < N →
  ∃ r:Int,Bf F (some ((-1),())) (fun z6=>some (z6,())) N src (src.length:Int) (pre.length:Int)=some (r,())∧leI 0 r=hz rest:=by
 intro rest
 induction rest with
 | nil =>
  intro pre he N hN
  obtain ⟨N,rfl⟩:∃ M,N=M+1:=⟨N - 1,by omega⟩
  have hlen:src.length=pre.length:=by rw [he]; simp
  refine ⟨-1,?_,rfl⟩
  unfold Bf
  simp (disch:=omega) only [bs,↓iP,↓iN]
 | cons x rest ih =>
  intro pre he N hN
  obtain ⟨N,rfl⟩:∃ M,N=M+1:=⟨N - 1,by omega⟩
  simp only [List.length_cons] at hN
  have hlen:src.length=pre.length+1+rest.length:=by rw [he]; simp; omega
  have g:Ak zG src (pre.length:Int)=x:=by rw [he]; exact Oy pre x rest
  have hx:=hs x (by rw [he]; simp)
  have eb:Jv F x=some (hdz x.2.2.1,()):=by
   unfold Jv
   cases h:x.2.2.1 with
   | nil=>exact absurd h hx
   | cons s t =>
    have:inI 0 (s::t).length=true:=by rw [Bo]; simp only [List.length_cons]; omega
    rw [this,cT]
    rfl
  by_cases hbt:hdz x.2.2.1=true
  ·refine ⟨(pre.length:Int),?_,?_⟩
   ·unfold Bf
    simp (disch:=omega) only [bs,↓iP,↓iN,g,eb,hbt]
   ·unfold hz
    rw [List.any_cons,hbt,Bool.true_or,Bu]; omega
  ·obtain ⟨r,e,h2⟩:=ih (pre++[x]) (by rw [he]; simp) N (by omega)
   have hpl:(((pre++[x]).length:Nat):Int)=(pre.length:Int)+1:=by simp
   rw [hpl] at e
   rw [Bool.not_eq_true] at hbt
   refine ⟨r,?_,by unfold hz; rw [List.any_cons,hbt,Bool.false_or]; exact h2⟩
   unfold Bf
   simp (disch:=omega) only [bs,↓iP,↓iN,g,eb,hbt]
   exact e
theorem Aij(F:Nat)(hF:A4 F){l:List Gr}(h:∀ g∈l,g.2.2.1≠[])(hb:l.length≤100000):Cl F l=some (hz l,()):=by
 obtain ⟨r,e1,e2⟩:=AjH F h hb l [] rfl F (by unfold A4 at hF; omega)
 unfold Cl Gv
 have e1:Bf F (some ((-1),())) (fun z6=>some (z6,())) F l (Au l) 0=some (r,()):=e1
 rw [e1]
 simp only [bS,e2]
def Xj(b:List Int)(at_ T:Int)(x:List Gr)(end_ e:Int):Prop :=
 GOk x∧(e=0→0≤at_∧0≤T∧T≤4096∧at_ < end_∧end_≤b.length∧gvE x=0∧gB x=Cj (B0 b end_) at_∧(T=0∨hz x=true))∧(e≠0→x=[]∧end_=0)
theorem Xj.err(b:List Int)(at_ T:Int){e:Int}(h:e≠0):Xj b at_ T [] 0 e:=⟨(fun s hs=>by cases hs),fun h2=>absurd h2 h,fun _=>⟨rfl,rfl⟩⟩
theorem Zc(n:Nat):(Cc (n:Int) (zGn:Gn)).length=n:=by simp [Cc]
theorem AjI:∀ {L:List Gn} {D:List (List Int)},gk (Ec L D)=L.map (·.1)
 | [],_=>rfl
 | x::l,[]=>by show x.1::gk (Ec l [])=_; rw [AjI]; rfl
 | x::l,d::D=>by show x.1::gk (Ec l D)=_; rw [AjI]; rfl
theorem AfI:∀ {L:List Gn} {D:List (List Int)},gsl (Ec L D)=nsl L
 | [],_=>rfl
 | x::l,[]=>by show sp x.2.1++gsl (Ec l [])=_; rw [AfI]; rfl
 | x::l,d::D=>by show sp x.2.1++gsl (Ec l D)=_; rw [AfI]; rfl
theorem AfJ:∀ {L:List Gn} {D:List (List Int)},L.length=D.length→gst (Ec L D)=(D.map (stp (-1))).flatten
 | [],[],_=>rfl
 | [],_::_,h=>by simp at h
 | _::_,[],h=>by simp at h
 | x::l,d::D,h=>by
  show stp (-1) d++gst (Ec l D)=_
  rw [AfJ (by simpa using h)]
  rfl
theorem Amy:∀ {L:List Gn} {D:List (List Int)},L.length=D.length→gsz (Ec L D)=lss (D.map fun d=>(d.length:Int))
 | [],[],_=>rfl
 | [],_::_,h=>by simp at h
 | _::_,[],h=>by simp at h
 | x::l,d::D,h=>by
  show((d.length:Int) - 1)::gsz (Ec l D)=_
  rw [Amy (by simpa using h)]
  rfl
theorem As4:∀ {L:List Gn} {D:List (List Int)},L.length=D.length→hz (Ec L D)=D.any hdz
 | [],[],_=>rfl
 | [],_::_,h=>by simp at h
 | _::_,[],h=>by simp at h
 | x::l,d::D,h=>by
  show(hdz d || hz (Ec l D))=_
  rw [As4 (by simpa using h)]
  rfl
theorem Amz:∀ {L:List Gn} {D:List (List Int)} {g:Gr},L.length=D.length→g∈Ec L D→(∃ q∈L,q.1=g.1∧q.2.1=g.2.1)∧g.2.2.1∈D
 | [],[],g,_,h=>by cases h
 | [],_::_,_,h,_=>by simp at h
 | _::_,[],_,h,_=>by simp at h
 | x::l,d::D,g,h,hg=>by
  rcases List.mem_cons.1 (show g∈(x.1,(x.2.1,(d,())))::Ec l D from hg) with rfl | hg
  ·exact ⟨⟨x,by simp,rfl,rfl⟩,by simp⟩
  ·obtain ⟨⟨q,q1,q2⟩,q3⟩:=Amz (by simpa using h) hg
   exact ⟨⟨q,List.mem_cons_of_mem _ q1,q2⟩,List.mem_cons_of_mem _ q3⟩
theorem AmA:∀ {L:List Gn} {D:List (List Int)},L.length=D.length→(tot (Ec L D):Int)=AbH (D.map fun d=>(d.length:Int))
 | [],[],_=>rfl
 | [],_::_,h=>by simp at h
 | _::_,[],h=>by simp at h
 | x::l,d::D,h=>by
  have:=AmA (L:=l) (D:=D) (by simpa using h)
  show((d.length+tot (Ec l D):Nat):Int)=(d.length:Int)+AbH (D.map fun d=>(d.length:Int))
  rw [← this]
  push_cast
  rfl
theorem A3T{D:List (List Int)}(h:∀ d∈D,Asc (-1) d):D.any AfZ=D.any hdz:=by
 induction D with
 | nil=>rfl
 | cons d D ih =>
  rw [List.any_cons,List.any_cons,AuQ (h d (by simp)),ih fun x hx=>h x (List.mem_cons_of_mem _ hx)]
theorem A08(F:Nat)(hF:A4 F){b:List Int}(hb:Bt b)(hl:(b.length:Int)≤140737488355328)(rV:∀ {l:List Gr},GOk l→(l.length:Int)≤4096→Kn F l=some (gvE l,()))(at_ T:Int) :
  ∃ x end_ e,Bi F b at_ T=some (x,end_,e,())∧Eg F b at_ T=some (x,end_,e,())∧Xj b at_ T x end_ e:=by
 by_cases c:0≤at_∧at_≤b.length∧0≤T∧T≤4096
 rotate_left
 ·refine ⟨[],0,2,?_,?_,Xj.err _ _ _ (by omega)⟩
  ·unfold Bi
   rw [Aib,decide_eq_false c]
   rfl
  ·unfold Eg
   cases h1:ltI at_ 0 with
   | true=>rfl
   | false =>
    cases h2:ltI (Au b) at_ with
    | true=>rfl
    | false =>
     cases h3:ltI T 0 with
     | true=>rfl
     | false =>
      cases h4:ltI 4096 T with
      | true=>rfl
      | false =>
       rw [← Bool.not_eq_true,Ah] at h1 h2 h3 h4
       unfold Au at h2
       omega
 have hP:=Aib F b at_ T
 rw [decide_eq_true c] at hP
 have x1:ltI at_ 0=false:=by rw [← Bool.not_eq_true,Ah]; omega
 have x2:ltI (Au b) at_=false:=by rw [← Bool.not_eq_true,Ah]; unfold Au; omega
 have x3:ltI T 0=false:=by rw [← Bool.not_eq_true,Ah]; omega
 have x4:ltI 4096 T=false:=by rw [← Bool.not_eq_true,Ah]; omega
 have v1:=Vc F hF hb hl at_
 have v2:=W3 F hF hb hl at_
 have hwT:IntKind.u64.wrap T=T:=Bk (by omega)
 have z0:eqI (0:Int) 0=true:=rfl
 have z10:eqI (10:Int) 0=false:=rfl
 by_cases c0:(rd b at_).2.2=0
 rotate_left
 ·have y0:eqI (rd b at_).2.2 0=false:=by rw [← Bool.not_eq_true,Ao]; exact c0
  refine ⟨[],0,(rd b at_).2.2,?_,?_,Xj.err _ _ _ c0⟩
  ·unfold Bi Ie
   simp only [hP,v1,bS,y0,Bool.not_false,Bool.not_true,cF,cT]
  ·unfold Eg
   simp only [x1,x2,x3,x4,cF,v2,bS,y0,Bool.not_false,cT]
 have y0:eqI (rd b at_).2.2 0=true:=by rw [Ao]; exact c0
 obtain ⟨r1,r2,r3,r4⟩:=Art hb c0
 have rcut:=A3F hb c0
 generalize hn:(rd b at_).1=n at *
 generalize ha:(rd b at_).2.1=a at *
 by_cases c1:T < n
 ·have y1:ltI T (n:Int)=true:=by rw [Ah]; exact c1
  refine ⟨[],0,10,?_,?_,Xj.err _ _ _ (by omega)⟩
  ·unfold Bi Ie
   simp only [hP,v1,bS,y0,Bool.not_true,cF,hwT,y1,cT,z10,Bool.not_false]
  ·unfold Eg
   simp only [x1,x2,x3,x4,cF,v2,bS,y0,Bool.not_true,hwT,y1,cT]
 have y1:ltI T (n:Int)=false:=by rw [← Bool.not_eq_true,Ah]; exact c1
 have hwn:IntKind.i64.wrap (n:Int)=(n:Int):=Cv (by omega)
 have hNum:Ie F b at_ T=some ((n:Int),a,0,()):=by
  unfold Ie
  simp only [v1,bS,y0,Bool.not_true,cF,hwT,y1,hwn]
 obtain ⟨ks,a2,e2,d1,d2,d3,d4,d5⟩:=A00 F hF hb hl a (n:Int)
 by_cases c2:e2=0
 rotate_left
 ·have y2:eqI e2 0=false:=by rw [← Bool.not_eq_true,Ao]; exact c2
  refine ⟨[],0,e2,?_,?_,Xj.err _ _ _ c2⟩
  ·unfold Bi I9
   simp only [hP,hNum,bS,z0,Bool.not_true,cF,d1,y2,Bool.not_false,cT]
  ·unfold Eg
   simp only [x1,x2,x3,x4,cF,v2,bS,y0,Bool.not_true,hwT,y1,hwn,d2,y2,Bool.not_false,cT]
 subst c2
 obtain ⟨g1,g2,g3,g4,g5,g6⟩:=d4 rfl
 have hkl:ks.length=n:=by omega
 have hmk:Im (n:Int) (n:Int) 112=true:=by rw [Jk]; omega
 have hmk8:Im (n:Int) (n:Int) 8=true:=by rw [Jk]; omega
 have hGr:I9 F b a (n:Int)=if(rgs b a2 ks).2.2=0 then some ((rgs b a2 ks).1,(rgs b a2 ks).2.1,0,()) else some ([],0,(rgs b a2 ks).2.2,()):=by
  unfold I9
  simp only [d1,bS,z0,Bool.not_true,cF,hmk,cT]
  exact AjF F hF _ _ hb hl (ks:=ks) (by omega) ks [] a2 [] (Cc (n:Int) (zGn:Gn)) rfl rfl (by rw [Zc,hkl]) F (by unfold A4 at hF; omega)
 have hRS:=fun (R:Type) (k:List Int→Int→Int→Int→List Gn→Option R) (kr:Int→Int→Option R)=>Aii F hF k kr T (n:Int) hb hl (ks:=ks) (by omega) ks [] a2 [] (Cc (n:Int) (zGn:Gn)) rfl rfl (by rw [Zc,hkl]) (fun w hw=>List.eq_of_mem_replicate hw) F (by unfold A4 at hF; omega)
 have hRS:∀ (R:Type) (k:List Int→Int→Int→Int→List Gn→Option R) (kr:Int→Int→Option R),F1 F k kr F b a2 T (n:Int) ks (Cc (n:Int) (zGn:Gn)) 0=if(rgs b a2 ks).2.2=0 then k b (rgs b a2 ks).2.1 T (n:Int) (rgs b a2 ks).1 else kr 0 (rgs b a2 ks).2.2:=hRS
 by_cases c3:(rgs b a2 ks).2.2=0
 rotate_left
 ·have y3:eqI (rgs b a2 ks).2.2 0=false:=by rw [← Bool.not_eq_true,Ao]; exact c3
  rw [iN c3] at hGr
  refine ⟨[],0,(rgs b a2 ks).2.2,?_,?_,Xj.err _ _ _ c3⟩
  ·unfold Bi
   simp only [hP,hNum,bS,z0,Bool.not_true,cF,hGr,y3,Bool.not_false,cT]
  ·unfold Eg
   simp only [x1,x2,x3,x4,cF,v2,bS,y0,Bool.not_true,hwT,y1,hwn,d2,z0,hmk,cT,hRS]
   rw [iN c3]
 rw [iP c3] at hGr
 obtain ⟨j1,j2,j3,j4,j5⟩:=AwB hb (by omega) (by omega) c3
 have hLl:(rgs b a2 ks).1.length=n:=by have:=congrArg List.length j2; rw [List.length_map] at this; omega
 generalize hL:(rgs b a2 ks).1=L at *
 generalize ha3:(rgs b a2 ks).2.1=a3 at *
 obtain ⟨xs,a4,e4,f1,f2,f3,f4,f5⟩:=Ajs F hF hb hl a3 (n:Int)
 by_cases c4:e4=0
 rotate_left
 ·have y4:eqI e4 0=false:=by rw [← Bool.not_eq_true,Ao]; exact c4
  refine ⟨[],0,e4,?_,?_,Xj.err _ _ _ c4⟩
  ·unfold Bi J6
   simp only [hP,hNum,bS,z0,Bool.not_true,cF,hGr,f1,y4,Bool.not_false,cT]
  ·unfold Eg
   simp only [x1,x2,x3,x4,cF,v2,bS,y0,Bool.not_true,hwT,y1,hwn,d2,z0,hmk,cT,hRS]
   rw [iP c3]
   simp only [hwn,f2,bS,y4,Bool.not_false,cT]
 subst c4
 obtain ⟨k1,k2,k3,k4,k5,k6⟩:=f4 rfl
 have hxl:xs.length=n:=by omega
 have hC:J6 F b a3 (n:Int) T=some (mrm T xs,sat T 0 xs,a4,0,()):=by
  unfold J6
  simp only [f1,bS,z0,Bool.not_true,cF,hmk8,cT]
  exact Ajt F _ (T:=T) (by omega) a4 f3 (by omega) xs [] [] (Cc (n:Int) 0) 0 rfl rfl (by rw [N8,hxl]) (by omega) F (by unfold A4 at hF; omega)
 have hsat:=ArZ (T:=T) (by omega) xs 0 f3 (by omega) (by omega)
 rw [Int.sub_zero] at hsat
 have hRF:=fun (R:Type) (k:List Int→Int→Int→List Gn→List Int→Int→Option R) (kr:Int→Int→Option R)=>As2 F k kr b a4 T L f3 (by omega) xs [] T rfl (by omega) F (by unfold A4 at hF; omega)
 have hRF:∀ (R:Type) (k:List Int→Int→Int→List Gn→List Int→Int→Option R) (kr:Int→Int→Option R),F2 F k kr F b a4 T L xs T 0=match Ao3 T xs with | some r=>k b a4 T L xs r | none=>kr 0 10:=hRF
 have refTo:∀ res,(match Ao3 T xs with | some r=>((Fa F b a4 (Bl .i64 T (IntKind.wrap .i64 r))).bind fun r47=>bif not (eqI r47.2.2.1 0) then some (([]:List Gr),((0:Int),(r47.2.2.1,()))) else
   Ke F (fun z50 z51 z52=>(Kn F z51).bind fun r53=>bif not (eqI r53.1 0) then some ([],(0,(5,()))) else bif not z52 then some ([],(0,(10,()))) else some (z51,(z50,(0,())))) (fun z56 z57 z58=>some (z56,(z57,(z58,())))) F r47.2.1 T L xs r47.1 (eqI T 0) 0 0) | none=>some ([],(0,(10,()))))=res→Eg F b at_ T=res:=by
  intro res hres
  unfold Eg
  simp only [x1,x2,x3,x4,cF,v2,bS,y0,Bool.not_true,hwT,y1,hwn,d2,z0,hmk,cT,hRS]
  rw [iP c3]
  simp only [hwn,f2,bS,z0,Bool.not_true,cF,hwT,hRF]
  rw [← hres]
 cases hfit:Ao3 T xs with
 | none =>
  rw [hfit] at hsat
  simp only at hsat
  have y5:ltI T (sat T 0 xs)=true:=by rw [Ah,hsat]; omega
  refine ⟨[],0,10,?_,?_,Xj.err _ _ _ (by omega)⟩
  ·unfold Bi
   simp only [hP,hNum,bS,z0,Bool.not_true,cF,hGr,hC,y5,cT]
  ·refine refTo _ ?_
   rw [hfit]
 | some left =>
  rw [hfit] at hsat
  simp only at hsat
  obtain ⟨p1,p2,p3,p4,p5⟩:=As0 f3 (by omega) hfit
  have hmr:mrm T xs=mre xs:=As1 p4
  have y5:ltI T (sat T 0 xs)=false:=by rw [← Bool.not_eq_true,Ah,hsat]; omega
  have hwl:IntKind.i64.wrap left=left:=Cv (by omega)
  have hsub:Bl .i64 T left=T - left:=Sf (by omega)
  obtain ⟨st,a5,e5,s1,s2,s3,s4,s5⟩:=Ajs F hF hb hl a4 (T - left)
  by_cases c5:e5=0
  rotate_left
  ·have y6:eqI e5 0=false:=by rw [← Bool.not_eq_true,Ao]; exact c5
   refine ⟨[],0,e5,?_,?_,Xj.err _ _ _ c5⟩
   ·unfold Bi
    simp only [hP,hNum,bS,z0,Bool.not_true,cF,hGr,hC,y5]
    rw [hsat]
    simp only [s1,bS,y6,Bool.not_false,cT]
   ·refine refTo _ ?_
    rw [hfit]
    simp only [hwl,hsub,s2,bS,y6,Bool.not_false,cT]
  subst c5
  obtain ⟨t1,t2,t3,t4,t5,t6⟩:=s4 rfl
  have hcs:∀ y∈mre xs,1≤y∧y≤4096:=by
   have:∀ (l:List Int),Wd l→(∀ x∈l,x < T)→∀ y∈mre l,1≤y∧y≤4096:=by
    intro l
    induction l with
    | nil=>intro _ _ y hy; cases hy
    | cons x l ih =>
     intro hw h y hy
     have h1:=Wd.head hw
     have h2:=h x (by simp)
     rcases List.mem_cons.1 (show y∈(x+1)::mre l from hy) with rfl | hy
     ·omega
     ·exact ih (Wd.tail hw) (fun z hz=>h z (List.mem_cons_of_mem _ hz)) y hy
   exact this xs f3 p4
  obtain ⟨L',hsh⟩:=Ym F hF (T:=T) (by omega) (L:=L) (cs:=mre xs) (steps:=st) hcs (by rw [Ur]; omega) (by rw [Ur]; omega) (by omega) s3 (by omega)
  obtain ⟨z',D',hro⟩:=AjG F hF (T:=T) (by omega) (src:=xs) (starts:=st) (fun x hx=>⟨(f3 x hx).1,by have:=p4 x hx; omega⟩) (by omega) (by omega) xs [] [] st (eqI T 0) [] rfl rfl rfl (by omega) s3 F (by unfold A4 at hF; omega)
  have hro:F3 F L.length T xs st F 0 0 (eqI T 0) []=(match shA T (mre xs) st with | some D2=>some (true,(eqI T 0 || D2.any AfZ),[]++D2) | none=>some (false,z',D')):=by rw [hLl,← hxl]; exact hro
  cases hA:shA T (mre xs) st with
  | none =>
   rw [hA] at hsh hro
   refine ⟨[],0,10,?_,?_,Xj.err _ _ _ (by omega)⟩
   ·unfold Bi
    simp only [hP,hNum,bS,z0,Bool.not_true,cF,hGr,hC,y5]
    rw [hsat,hmr]
    simp only [s1,bS,z0,Bool.not_true,cF,hsh,Bool.not_false,cT]
   ·refine refTo _ ?_
    rw [hfit]
    simp only [hwl,hsub,s2,bS,z0,Bool.not_true,cF]
    unfold Ke
    simp only [z0,cT,hro,bS,cF]
  | some D =>
   rw [hA] at hsh hro
   obtain ⟨more,q1,q2,q3,q4⟩:=AwC (fun y hy=>(hcs y hy).1) s3 hA
   have hLD:L.length=D.length:=by rw [q2,Ur]; omega
   have htot:=AmA hLD
   rw [q4,p3] at htot
   have hmore:more=[]:=by
    have h1:=congrArg List.length q1
    rw [← AfJ hLD,List.length_append,Q6] at h1
    exact List.length_eq_zero_iff.1 (by omega)
   rw [hmore,List.append_nil] at q1
   have hOk:GOk (Ec L D):=fun g hg=>by
    obtain ⟨⟨q,m1,m2,m3⟩,m4⟩:=Amz hLD hg
    have h1:=(j1 q m1).1
    have h2:=AbU hg
    refine ⟨?_,by rw [← m3]; exact h1,fun x hx=>?_,by omega⟩
    ·rw [← m2]
     exact d3 _ (by rw [← j2]; exact List.mem_map_of_mem m1)
    ·have:=q3 _ m4 x hx
     unfold I64; omega
   have hxlen:(Ec L D).length=n:=by rw [Qr,hLl]
   have hV:=Nh F hF hOk (by rw [hxlen]; omega)
   have hrV:=rV hOk (by rw [hxlen]; omega)
   have hPr:∀ res,((Gs F (Ec L D)).bind fun r14=>bif not (eqI r14.1 0) then some (([]:List Gr),((0:Int),((5:Int),()))) else bif ltI 0 T then(Cl F (Ec L D)).bind fun r17=>bif not r17.1 then some ([],(0,(10,()))) else some (Ec L D,(a5,(0,()))) else some (Ec L D,(a5,(0,()))))=res→Bi F b at_ T=res:=by
    intro res hres
    unfold Bi
    simp only [hP,hNum,bS,z0,Bool.not_true,cF,hGr,hC,y5]
    rw [hsat,hmr]
    simp only [s1,bS,z0,Bool.not_true,cF,hsh]
    rw [← hres]
   have hRr:∀ res,((Kn F (Ec L D)).bind fun r53=>bif not (eqI r53.1 0) then some (([]:List Gr),((0:Int),((5:Int),()))) else bif not (eqI T 0 || D.any AfZ) then some ([],(0,(10,()))) else some (Ec L D,(a5,(0,()))))=res→Eg F b at_ T=res:=by
    intro res hres
    refine refTo _ ?_
    rw [hfit]
    simp only [hwl,hsub,s2,bS,z0,Bool.not_true,cF]
    unfold Ke
    simp only [z0,cT,hro,bS,List.nil_append]
    exact hres
   by_cases c6:gvE (Ec L D)=0
   rotate_left
   ·have y6:eqI (gvE (Ec L D)) 0=false:=by rw [← Bool.not_eq_true,Ao]; exact c6
    refine ⟨[],0,5,hPr _ ?_,hRr _ ?_,Xj.err _ _ _ (by omega)⟩
    ·rw [hV]
     simp only [bS,y6,Bool.not_false,cT]
    ·rw [hrV]
     simp only [bS,y6,Bool.not_false,cT]
   have hall:=AbT (AbV c6).2.2
   have hascD:∀ d∈D,Asc (-1) d:=by
    have:∀ (L:List Gn) (D:List (List Int)),L.length=D.length→(∀ g∈Ec L D,Asc (-1) g.2.2.1)→∀ d∈D,Asc (-1) d:=by
     intro L
     induction L with
     | nil=>intro D h _ d hd; cases D with
      | nil=>cases hd
      | cons y D=>simp at h
     | cons x L ih=>intro D h h2 d hd; cases D with
      | nil=>cases hd
      | cons y D =>
       rcases List.mem_cons.1 hd with rfl | hd
       ·exact h2 (x.1,(x.2.1,(d,()))) (by show _∈_::_; simp)
       ·exact ih D (by simpa using h) (fun g hg=>h2 g (by show g∈_::_; exact List.mem_cons_of_mem _ hg)) d hd
    exact this L D hLD fun g hg=>(hall g hg).2.2
   have hzz:D.any AfZ=hz (Ec L D):=by rw [As4 hLD,A3T hascD]
   have hne:∀ g∈Ec L D,g.2.2.1≠[]:=fun g hg=>(hall g hg).2.1
   have hCt:=Aij F hF hne (by rw [hxlen]; omega)
   rw [hV,c6] at hPr
   rw [hrV,c6] at hRr
   simp only [bS,z0,Bool.not_true,cF] at hPr hRr
   by_cases c7:T=0∨hz (Ec L D)=true
   ·refine ⟨Ec L D,a5,0,hPr _ ?_,hRr _ ?_,hOk,fun _=>⟨by omega,by omega,by omega,by omega,by omega,c6,?_,c7⟩,fun h=>absurd rfl h⟩
    ·rcases c7 with c7 | c7
     ·have:ltI 0 T=false:=by rw [← Bool.not_eq_true,Ah]; omega
      rw [this,cF]
     ·cases h0:ltI 0 T
      ·rfl
      ·rw [cT,hCt,c7]
       rfl
    ·have:(eqI T 0 || D.any AfZ)=true:=by
      rw [hzz]
      rcases c7 with c7 | c7
      ·rw [Ao.2 c7]; rfl
      ·rw [c7,Bool.or_true]
     rw [this]
     rfl
    ·unfold gB
     rw [hxlen,AjI,j2,AfI,Amy hLD,q4,ArC,AfJ hLD,← q1,← rcut,g6,← j5,k6,t6,
      Us (by omega) (by omega) (by omega) (by omega),Us (by omega) (by omega) (by omega) (by omega),Us (by omega) (by omega) (by omega) (by omega),Us (by omega) (by omega) (by omega) (by omega)]
   ·have hT0:T≠0:=fun h=>c7 (.inl h)
    have hz0:hz (Ec L D)=false:=by rw [← Bool.not_eq_true]; exact fun h=>c7 (.inr h)
    have y7:ltI 0 T=true:=by rw [Ah]; omega
    have y8:eqI T 0=false:=by rw [← Bool.not_eq_true,Ao]; exact hT0
    refine ⟨[],0,10,hPr _ ?_,hRr _ ?_,Xj.err _ _ _ (by omega)⟩
    ·rw [y7,cT,hCt,hz0]
     rfl
    ·rw [y8,hzz,hz0]
     rfl
theorem As5(F:Nat){R:Type}(k0:List Gr→Option R)(kr:Int→Option R){src:List Gr}(hs:GOk src)(hb:src.length≤4096):∀ (rest pre:List Gr) (left:Int),src=pre++rest→0≤left∧left≤4096→∀ N,rest.length < N →
  J7 F k0 kr N src left (pre.length:Int)=if left < tot rest then kr 3 else k0 src:=by
 intro rest
 induction rest with
 | nil =>
  intro pre left he hl N hN
  obtain ⟨N,rfl⟩:∃ M,N=M+1:=⟨N - 1,by omega⟩
  have hlen:src.length=pre.length:=by rw [he]; simp
  unfold J7
  rw [iN (by simp only [tot]; omega)]
  simp (disch:=omega) only [bs,↓iP,↓iN]
 | cons x rest ih =>
  intro pre left he hl N hN
  obtain ⟨N,rfl⟩:∃ M,N=M+1:=⟨N - 1,by omega⟩
  simp only [List.length_cons] at hN
  have hlen:src.length=pre.length+1+rest.length:=by rw [he]; simp; omega
  have g:Ak zG src (pre.length:Int)=x:=by rw [he]; exact Oy pre x rest
  have hx:=(hs x (by rw [he]; simp)).2.2.2
  have hpl:(((pre++[x]).length:Nat):Int)=(pre.length:Int)+1:=by simp
  have ht:tot (x::rest)=x.2.2.1.length+tot rest:=rfl
  unfold J7
  by_cases c:left < x.2.2.1.length
  ·rw [iP (by rw [ht]; omega)]
   simp (disch:=omega) only [bs,↓iP,↓iN,g]
  ·have e:=ih (pre++[x]) (left - x.2.2.1.length) (by rw [he]; simp) (by omega) N (by omega)
   rw [hpl] at e
   by_cases c2:left < (tot (x::rest):Int)
   ·rw [iP c2]
    rw [ht] at c2
    rw [iP (by omega)] at e
    simp (disch:=omega) only [bs,↓iP,↓iN,g]
    exact e
   ·rw [iN c2]
    rw [ht] at c2
    rw [iN (by omega)] at e
    simp (disch:=omega) only [bs,↓iP,↓iN,g]
    exact e
theorem AfK(F:Nat){R:Type}(k4:List Gr→List Bool→Int→Option R)(kr:Int→Option R)(x0:List Gr)(x6:Int){g:Gr}(hb:(g.2.2.1.length:Int)≤140737488355328):∀ (rest pre:List Int) (seen:List Bool) (p:Int),seen.length=4096→g.2.2.1=pre++rest→AfG p pre→∀ N,rest.length < N →
  Fo F k4 kr N x0 seen x6 g (pre.length:Int)=match okS seen p rest with | some s=>k4 x0 s x6 | none=>kr 1:=by
 intro rest
 induction rest with
 | nil =>
  intro pre seen p hsl he hp N hN
  obtain ⟨N,rfl⟩:∃ M,N=M+1:=⟨N - 1,by omega⟩
  have hlen:g.2.2.1.length=pre.length:=by rw [he]; simp
  unfold Fo okS
  simp (disch:=omega) only [bs,↓iP,↓iN]
 | cons s rest ih =>
  intro pre seen p hsl he hp N hN
  obtain ⟨N,rfl⟩:∃ M,N=M+1:=⟨N - 1,by omega⟩
  simp only [List.length_cons] at hN
  have hlen:g.2.2.1.length=pre.length+1+rest.length:=by rw [he]; simp; omega
  have hg:Ak 0 g.2.2.1 (pre.length:Int)=s:=by rw [he]; exact Cb pre s rest
  have hpl:(((pre++[s]).length:Nat):Int)=(pre.length:Int)+1:=by simp
  unfold Fo
  by_cases c1:s < 0
  ·rw [okS,iN (by omega)]
   simp (disch:=omega) only [bs,↓iP,↓iN,hg]
  by_cases c2:4096≤s
  ·rw [okS,iN (by omega)]
   simp (disch:=omega) only [bs,↓iP,↓iN,hg]
  have fin:∀ (q:Int),q=p→p < s→(pre=[]∧True∨True)→(if Ak false seen s=true then kr 1 else Fo F k4 kr N x0 (B6 seen s true) x6 g ((pre.length:Int)+1))=match okS seen p (s::rest) with | some s=>k4 x0 s x6 | none=>kr 1:=by
   intro q hq hps _
   rw [okS]
   by_cases c3:Ak false seen s=true
   ·rw [iP c3,iN (by rw [c3]; simp)]
   ·rw [Bool.not_eq_true] at c3
    have e:=ih (pre++[s]) (B6 seen s true) s (by rw [I2]; exact hsl) (by rw [he]; simp) (AfG.push pre s) N (by omega)
    rw [hpl] at e
    rw [iN (by rw [c3]; simp),iP ⟨by omega,by omega,c3,hps⟩]
    exact e
  rcases hp with ⟨hp,rfl⟩ | ⟨d,hp⟩
  ·have h0:pre.length=0:=by rw [hp]; rfl
   refine Eq.trans ?_ (fin (-1) rfl (by omega) (.inr trivial))
   simp (disch:=omega) only [bs,↓iP,↓iN,hg]
  ·have hd:(pre.length:Int)=(d.length:Int)+1:=by rw [hp]; simp
   have hl:Ak 0 g.2.2.1 ((pre.length:Int) - 1)=p:=by
    rw [hd,show(d.length:Int)+1 - 1=(d.length:Int) by omega,he,hp]
    exact AbQ d p (s::rest)
   by_cases c4:p < s
   ·refine Eq.trans ?_ (fin p rfl c4 (.inr trivial))
    simp (disch:=omega) only [bs,↓iP,↓iN,hg,hl]
   ·rw [okS,iN (by omega)]
    simp (disch:=omega) only [bs,↓iP,↓iN,hg,hl]
theorem As6:∀ {t:List Int} {seen:List Bool} {p:Int} {s:List Bool},okS seen p t=some s→s.length=seen.length
 | [],_,_,_,h=>by simp only [okS,Option.some.injEq] at h; rw [h]
 | x::t,seen,p,s,h=>by
  rw [okS] at h
  split at h
  ·rw [As6 h,I2]
  ·cases h
theorem AfL(F:Nat)(hF:A4 F){R:Type}(k0:Option R)(kr:Int→Option R){src:List Gr}(hs:GOk src)(hb:src.length≤4096):∀ (rest pre:List Gr) (seen:List Bool) (p:Option Gr),seen.length=4096→src=pre++rest→Awz p pre→∀ N,rest.length < N →
  Dl F k0 kr N src seen (pre.length:Int)=bif okG seen p rest then k0 else kr 1:=by
 intro rest
 induction rest with
 | nil =>
  intro pre seen p hsl he hp N hN
  obtain ⟨N,rfl⟩:∃ M,N=M+1:=⟨N - 1,by omega⟩
  have hlen:src.length=pre.length:=by rw [he]; simp
  unfold Dl okG
  simp (disch:=omega) only [bs,↓iP,↓iN]
 | cons x rest ih =>
  intro pre seen p hsl he hp N hN
  obtain ⟨N,rfl⟩:∃ M,N=M+1:=⟨N - 1,by omega⟩
  simp only [List.length_cons] at hN
  have hlen:src.length=pre.length+1+rest.length:=by rw [he]; simp; omega
  have g:Ak zG src (pre.length:Int)=x:=by rw [he]; exact Oy pre x rest
  obtain ⟨x1,x2,x3,x4⟩:=hs x (by rw [he]; simp)
  have ev:=Ea F hF x2
  have hpl:(((pre++[x]).length:Nat):Int)=(pre.length:Int)+1:=by simp
  unfold Dl okG
  by_cases hv:RV x.2.1
  rotate_left
  ·have dv:decide (RV x.2.1)=false:=decide_eq_false hv
   rw [dv,Bool.false_and,cF]
   simp (disch:=omega) only [bs,↓iP,↓iN,g,ev,dv]
  have dv:decide (RV x.2.1)=true:=decide_eq_true hv
  by_cases hne:x.2.2.1=[]
  ·have hie:x.2.2.1.isEmpty=true:=by rw [hne]; rfl
   rw [dv,hie,Bool.not_true,Bool.false_and,Bool.and_false,cF]
   have hl0:x.2.2.1.length=0:=by rw [hne]; rfl
   simp (disch:=omega) only [bs,↓iP,↓iN,g,ev,dv]
  have hie:x.2.2.1.isEmpty=false:=by cases h:x.2.2.1 with
   | nil=>exact absurd h hne
   | cons a b=>rfl
  have hl0:x.2.2.1.length≠0:=fun h=>hne (List.length_eq_zero_iff.1 h)
  rw [dv,hie,Bool.not_false,Bool.true_and,Bool.true_and]
  have tail:Ja F (fun z51 z52 z53=>Dl F k0 kr N z51 z52 (As .i64 z53 1)) (fun z55=>kr z55) src seen (pre.length:Int) x=bif(match okS seen (-1) x.2.2.1 with | some s=>okG s (some x) rest | none=>false) then k0 else kr 1:=by
   unfold Ja
   have e0:=AfK F (fun z47 z48 z49=>Dl F k0 kr N z47 z48 (As .i64 z49 1)) (fun z50=>kr z50) src (pre.length:Int) x4 x.2.2.1 [] seen (-1) hsl rfl (.inl ⟨rfl,rfl⟩) F (by unfold A4 at hF; omega)
   refine e0.trans ?_
   cases hS:okS seen (-1) x.2.2.1 with
   | none=>simp
   | some s =>
    have e:=ih (pre++[x]) s (some x) (by rw [As6 hS]; exact hsl) (by rw [he]; simp) (.inr ⟨pre,x,rfl,rfl,hv⟩) N (by omega)
    rw [hpl] at e
    simp only
    refine Eq.trans ?_ e
    simp (disch:=omega) only [bs,↓iP,↓iN]
  rcases hp with ⟨hp,rfl⟩ | ⟨d,q,hp,rfl,hq⟩
  ·have h0:pre.length=0:=by rw [hp]; rfl
   refine Eq.trans ?_ tail
   simp (disch:=omega) only [bs,↓iP,↓iN,g,ev,dv]
  ·have hd:(pre.length:Int)=(d.length:Int)+1:=by rw [hp]; simp
   have hl:Ak zG src ((pre.length:Int) - 1)=q:=by
    rw [hd,show(d.length:Int)+1 - 1=(d.length:Int) by omega,he,hp]
    exact Aie d q (x::rest)
   have q2:=(hs q (by rw [he,hp]; simp)).2.1
   have er:=Dt F hF q2 x2 hq hv
   simp only
   have hlg:AbS q x=(decide (q.1 < x.1) || (decide (q.1=x.1) && decide (rc q.2.1 x.2.1 < 0))):=rfl
   by_cases k1:x.1 < q.1
   ·have hlt:AbS q x=false:=by rw [hlg,decide_eq_false (by omega),decide_eq_false (by omega)]; rfl
    rw [hlt,Bool.false_and,cF]
    simp (disch:=omega) only [bs,↓iP,↓iN,g,ev,dv,hl]
   ·by_cases k2:q.1=x.1
    ·by_cases k3:rc q.2.1 x.2.1 < 0
     ·have hlt:AbS q x=true:=by rw [hlg,decide_eq_true k2,decide_eq_true k3]; simp
      rw [hlt]
      refine Eq.trans ?_ tail
      simp (disch:=omega) only [bs,↓iP,↓iN,g,ev,dv,hl,er]
     ·have hlt:AbS q x=false:=by rw [hlg,decide_eq_false (by omega),decide_eq_false k3,Bool.and_false]; rfl
      rw [hlt,Bool.false_and,cF]
      simp (disch:=omega) only [bs,↓iP,↓iN,g,ev,dv,hl,er]
    ·have hlt:AbS q x=true:=by rw [hlg,decide_eq_true (by omega)]; rfl
     rw [hlt]
     refine Eq.trans ?_ tail
     simp (disch:=omega) only [bs,↓iP,↓iN,g,ev,dv,hl]
theorem Acj(F:Nat)(hF:A4 F){l:List Gr}(h:GOk l)(hb:(l.length:Int)≤140737488355328):Kn F l=some (gvE l,()):=by
 unfold gvE Kn
 by_cases c0:4096 < l.length
 ·have x1:ltI 4096 (Au l)=true:=by rw [Ah]; unfold Au; omega
  rw [iP c0,x1,cT]
 have x1:ltI 4096 (Au l)=false:=by rw [← Bool.not_eq_true,Ah]; unfold Au; omega
 rw [iN c0,x1,cF]
 refine(As5 F _ _ h (by omega) l [] 4096 rfl (by omega) F (by unfold A4 at hF; omega)).trans ?_
 by_cases c1:4096 < tot l
 ·rw [iP (by omega),iP c1]
 rw [iN (by omega),iN c1]
 have x2:Im 4096 4096 1=true:=by rw [Jk]; omega
 rw [x2,cT]
 refine(AfL F hF _ _ h (by omega) l [] (List.replicate 4096 false) none (List.length_replicate ..) rfl (.inl ⟨rfl,rfl⟩) F (by unfold A4 at hF; omega)).trans ?_
 generalize okG (List.replicate 4096 false) none l=o
 cases o <;> rfl
theorem As7(F:Nat)(hF:A4 F){a b:Nat}(ha:a < Ax)(hb:b < Ax)(h:a*b < Ax):Ey F (toW (a:Int)) (toW (b:Int))=some (toW ((a*b:Nat):Int),true,()):=by
 rw [N6 F hF (Hh ha) (Hh hb),Ct,Ct]
 have e:(a:Int)*(b:Int)=((a*b:Nat):Int):=by push_cast; rfl
 rw [e,S1 (by rw [Int.natAbs_natCast]; exact h)]
theorem AwD(F:Nat)(hF:A4 F){a b:Nat}(ha:a < Ax)(hb:b < Ax)(h:a+b < Ax):Ha F (toW (a:Int)) (toW (b:Int))=some (toW ((a+b:Nat):Int),true,()):=by
 rw [N7 F hF (Hh ha) (Hh hb),Ct,Ct]
 have e:(a:Int)+(b:Int)=((a+b:Nat):Int):=by push_cast; rfl
 rw [e,S1 (by rw [Int.natAbs_natCast]; exact h)]
theorem A3U(F:Nat)(hF:A4 F){a b:Nat}(ha:a < Ax)(hb:b < Ax)(h:b≤a):K7 F (toW (a:Int)) (toW (b:Int))=some (toW ((a - b:Nat):Int),true,()):=by
 unfold K7
 rw [Jg F hF (Hh hb),Ct]
 simp only [bS]
 rw [N7 F hF (Hh ha) (D5 (by omega)),Ct,Ct]
 have e:(a:Int)+-(b:Int)=((a - b:Nat):Int):=by omega
 rw [e,S1 (by rw [Int.natAbs_natCast]; omega)]
 rfl
abbrev Zw:Nat:=340282366920938463463374607431768211456
theorem AuS{a b:Nat}(ha:a≤Zw)(hb:b < Zw):a*b < Ax:=by
 have:Zw*Zw=Ax:=by unfold Ax; decide
 rw [← this]
 rcases Nat.lt_or_ge a Zw with h | h
 ·exact Nat.mul_lt_mul'' h hb
 ·have:a=Zw:=by omega
  rw [this]
  exact Nat.mul_lt_mul_of_pos_left hb (by decide)
theorem AmB:Zw < Ax:=by unfold Ax; decide
def Xk(a b c d n m:Nat):Prop:=(n≤c∧m≤d∨n≤a∧m≤b)∧1≤m∧a*m≤n*b∧n*d≤c*m∧Nat.gcd n m=1
theorem Xk.whole{a b c d n:Nat}(hd:1≤d)(h1:a≤n*b)(h2:n*d≤c):Xk a b c d n 1:=by
 refine ⟨.inl ⟨?_,hd⟩,by omega,by rw [Nat.mul_one]; exact h1,by rw [Nat.mul_one]; exact h2,Nat.gcd_one_right n⟩
 exact Nat.le_trans (Nat.le_mul_of_pos_right n hd) h2
theorem Xk.deep{a b c d q r x y:Nat}(ha:a=q*b+r)(hc:q*d≤c)(hd:0 < d)(h:Xk d (c - q*d) b r x y):Xk a b c d (q*x+y) x:=by
 obtain ⟨h1,h2,h3,h4,h5⟩:=h
 have hx:1≤x:=by
  rcases Nat.eq_zero_or_pos x with h0 | h0
  ·rw [h0,Nat.zero_mul] at h3
   have:=Nat.mul_pos hd h2
   omega
  ·exact h0
 generalize hu:c - q*d=u at *
 have hc2:c=q*d+u:=by omega
 refine ⟨?_,hx,?_,?_,?_⟩
 ·rcases h1 with ⟨k1,k2⟩ | ⟨k1,k2⟩
  ·refine .inr ⟨?_,k1⟩
   rw [ha]
   exact Nat.add_le_add (Nat.mul_le_mul_left q k1) k2
  ·refine .inl ⟨?_,k1⟩
   rw [hc2]
   exact Nat.add_le_add (Nat.mul_le_mul_left q k1) k2
 ·rw [ha,Nat.add_mul,Nat.add_mul]
  have e1:q*b*x=q*x*b:=by rw [Nat.mul_right_comm]
  have e2:r*x=x*r:=Nat.mul_comm _ _
  have e3:y*b=b*y:=Nat.mul_comm _ _
  rw [e1,e2,e3]
  exact Nat.add_le_add_left h4 _
 ·rw [hc2,Nat.add_mul,Nat.add_mul]
  have e1:q*x*d=q*d*x:=by rw [Nat.mul_right_comm]
  have e2:y*d=d*y:=Nat.mul_comm _ _
  have e3:u*x=x*u:=Nat.mul_comm _ _
  rw [e1,e2,e3]
  exact Nat.add_le_add_left h3 _
 ·rw [Nat.gcd_comm,Nat.add_comm,Nat.gcd_add_mul_right_right]
  exact h5
theorem AmC(F:Nat)(hF:A4 F)(N:Nat){a b c d:Nat}(ha:a < Zw)(hb:0 < b∧b < Zw)(hc:c < Zw)(hd:0 < d∧d < Zw)(hle:a*d≤c*b) :
  (∃ n,Xk a b c d n 1∧B1 (N+1) F (toW (a:Int)) (toW (b:Int)) (toW (c:Int)) (toW (d:Int))=some (toW (n:Int),(toW 1,()))) ∨
  (0 < a % b∧a / b*d < c∧c - a / b*d < d∧d*(a % b)≤b*(c - a / b*d) ∧
   B1 (N+1) F (toW (a:Int)) (toW (b:Int)) (toW (c:Int)) (toW (d:Int)) =
    (B1 N F (toW (d:Int)) (toW ((c - a / b*d:Nat):Int)) (toW (b:Int)) (toW ((a % b:Nat):Int))).bind fun r13 =>
     (Ey F (toW ((a / b:Nat):Int)) r13.1).bind fun r14=>(Ha F r14.1 r13.2.1).bind fun r15=>some (r15.1,(r13.1,()))):=by
 have ht:=AmB
 have hqa:a / b≤a:=Nat.div_le_self a b
 have hdm:=Nat.div_add_mod a b
 have hml:=Nat.mod_lt a hb.1
 have hone:F7 F 1=some (toW ((1:Nat):Int),()):=Gy F (by unfold I64; omega)
 have e1:=Kg F hF (a:=a) (b:=b) (by omega) (by omega) hb.1
 have e2:C9 F (toW ((a % b:Nat):Int))=some (if a % b=0 then 0 else 1,()):=by
  rw [Dp F hF (Hh (by omega)),Ct]
  congr 2
  split
  ·rw [iP (by omega)]
  ·rw [iN (by omega),iN (by omega)]
 generalize hq:a / b=q at *
 generalize hr:a % b=r at *
 have haq:a=q*b+r:=by rw [Nat.mul_comm q b]; omega
 have mq:q*d < Ax:=AuS (by omega) hd.2
 have mq1:(q+1)*d < Ax:=AuS (by omega) hd.2
 have hqc:q*d≤c:=by
  refine Nat.le_of_mul_le_mul_right ?_ hb.1
  refine Nat.le_trans ?_ hle
  rw [haq,Nat.add_mul,Nat.mul_right_comm]
  exact Nat.le_add_right _ _
 have e5:=As7 F hF (a:=q) (b:=d) (by omega) (by omega) mq
 by_cases c0:r=0
 ·left
  refine ⟨q,Xk.whole hd.1 (by omega) hqc,?_⟩
  have c3:=Kf F hF (Hh mq) (Hh (v:=c) (by omega))
  rw [Ct,Ct] at c3
  have c4:leI (if((q*d:Nat):Int) < (c:Int) then -1 else if(c:Int) < ((q*d:Nat):Int) then 1 else 0) 0=true:=by
   unfold leI
   refine decide_eq_true ?_
   split
   ·omega
   ·rw [iN (by omega)]; omega
  rw [iP c0] at e2
  unfold B1
  simp only [e1,e2,bS,show eqI (0:Int) 0=true from rfl,Bool.not_true,cF,e5,c3,c4,cT,hone]
  rfl
 ·have e3:=AwD F hF (a:=q) (b:=1) (by omega) (by omega) (by omega)
  have e4:=As7 F hF (a:=q+1) (b:=d) (by omega) (by omega) mq1
  have c3:=Kf F hF (Hh mq1) (Hh (v:=c) (by omega))
  rw [Ct,Ct] at c3
  have hmul:(q+1)*d=q*d+d:=Nat.succ_mul q d
  have z1:eqI (1:Int) 0=false:=rfl
  by_cases c1:(q+1)*d≤c
  ·left
   refine ⟨q+1,Xk.whole hd.1 (by rw [Nat.succ_mul]; omega) c1,?_⟩
   have c4:leI (if(((q+1)*d:Nat):Int) < (c:Int) then -1 else if(c:Int) < (((q+1)*d:Nat):Int) then 1 else 0) 0=true:=by
    unfold leI
    refine decide_eq_true ?_
    split
    ·omega
    ·rw [iN (by omega)]; omega
   unfold B1
   simp only [e1,e2,bS,iN c0,z1,Bool.not_false,cT,hone,e3,e4,c3,c4]
   rfl
  ·right
   have c4:leI (if(((q+1)*d:Nat):Int) < (c:Int) then -1 else if(c:Int) < (((q+1)*d:Nat):Int) then 1 else 0) 0=false:=by
    unfold leI
    refine decide_eq_false ?_
    rw [iN (by omega),iP (by omega)]
    omega
   have e6:=A3U F hF (a:=c) (b:=q*d) (by omega) mq hqc
   have hlt:q*d < c:=by
    rcases Nat.lt_or_ge (q*d) c with h | h
    ·exact h
    ·exfalso
     have:c=q*d:=by omega
     rw [this,haq,Nat.add_mul,Nat.mul_right_comm] at hle
     have:=Nat.mul_pos (Nat.pos_of_ne_zero c0) hd.1
     omega
   refine ⟨by omega,hlt,by omega,?_,?_⟩
   ·have h1:q*d*b+r*d≤q*d*b+b*(c - q*d):=by
     have k1:q*d*b+r*d=a*d:=by rw [haq,Nat.add_mul,Nat.mul_right_comm]
     have k2:q*d*b+b*(c - q*d)=c*b:=by
      rw [Nat.mul_comm b,← Nat.add_mul]
      congr 1
      omega
     rw [k1,k2]
     exact hle
    rw [Nat.mul_comm d r]
    omega
   ·conv=>lhs; unfold B1
    simp only [e1,e2,bS,iN c0,z1,Bool.not_false,cT,hone,e3,e4,c3,c4,cF,e5,e6]
theorem AmD(F:Nat)(hF:A4 F){a b c d x y:Nat}(ha:a < Zw)(hb:b < Zw)(hc:c < Zw)(hd:0 < d∧d < Zw)(hqc:a / b*d≤c)(h:Xk d (c - a / b*d) b (a % b) x y) :
  ((Ey F (toW ((a / b:Nat):Int)) (toW (x:Int))).bind fun r14=>(Ha F r14.1 (toW (y:Int))).bind fun r15=>some (r15.1,(toW (x:Int),())))=some (toW ((a / b*x+y:Nat):Int),(toW (x:Int),()))∧Xk a b c d (a / b*x+y) x:=by
 have hdm:=Nat.div_add_mod a b
 have hf:=Xk.deep (a:=a) (b:=b) (by rw [Nat.mul_comm (a / b) b]; omega) hqc hd.1 h
 have ht:=AmB
 have hqa:a / b≤a:=Nat.div_le_self a b
 have hs:a / b*x+y < Zw:=by rcases hf.1 with h1 | h1 <;> omega
 have hx:x < Zw:=by rcases hf.1 with h1 | h1 <;> omega
 refine ⟨?_,hf⟩
 rw [As7 F hF (by omega) (by omega) (AuS (by omega) hx)]
 simp only [bS]
 rw [AwD F hF (AuS (by omega) hx) (by omega) (by omega)]
 rfl
theorem AbW(F:Nat)(hF:A4 F):∀ (k N:Nat) {a b c d:Nat},a < Zw→0 < b∧b < Zw→c < Zw→0 < d∧d < Zw→d < 2 ^ k→a*d≤c*b→2*k < N →
  ∃ n m:Nat,Xk a b c d n m∧B1 N F (toW (a:Int)) (toW (b:Int)) (toW (c:Int)) (toW (d:Int))=some (toW (n:Int),(toW (m:Int),())):=by
 intro k
 induction k with
 | zero=>intro N a b c d ha hb hc hd hk _ _; omega
 | succ k ih =>
  intro N a b c d ha hb hc hd hk hle hN
  obtain ⟨N,rfl⟩:∃ M,N=M+1+1:=⟨N - 2,by omega⟩
  rcases AmC F hF (N+1) ha hb hc hd hle with ⟨n,h1,h2⟩ | ⟨h1,h2,h3,h4,h5⟩
  ·exact ⟨n,1,h1,h2⟩
  have hml:=Nat.mod_lt a hb.1
  have key:∃ x y:Nat,Xk d (c - a / b*d) b (a % b) x y∧B1 (N+1) F (toW (d:Int)) (toW ((c - a / b*d:Nat):Int)) (toW (b:Int)) (toW ((a % b:Nat):Int))=some (toW (x:Int),(toW (y:Int),())):=by
   generalize hu:c - a / b*d=u at *
   generalize hv:a % b=v at *
   rcases AmC F hF N (a:=d) (b:=u) (c:=b) (d:=v) hd.2 ⟨by omega,by omega⟩ hb.2 ⟨h1,by omega⟩ h4 with ⟨n,k1,k2⟩ | ⟨k1,k2,k3,k4,k5⟩
   ·exact ⟨n,1,k1,k2⟩
   have hml2:=Nat.mod_lt d (show 0 < u by omega)
   have hdm2:=Nat.div_add_mod d u
   have hhalf:2*(d % u) < d:=by
    have:u*1≤u*(d / u):=Nat.mul_le_mul_left u (Nat.div_pos (by omega) (by omega))
    omega
   obtain ⟨x,y,f1,f2⟩:=ih N (a:=v) (b:=b - d / u*v) (c:=u) (d:=d % u) (by omega) ⟨by omega,by omega⟩ (by omega) ⟨k1,by omega⟩ (by rw [Nat.pow_succ] at hk; omega) (by rw [Nat.mul_comm v]; rw [Nat.mul_comm] at k4; exact k4) (by omega)
   rw [f2] at k5
   simp only [bS] at k5
   have g:=AmD F hF (a:=d) (b:=u) (c:=b) (d:=v) hd.2 (by omega) hb.2 ⟨h1,by omega⟩ (by omega) f1
   exact ⟨_,_,g.2,k5.trans g.1⟩
  obtain ⟨x,y,f1,f2⟩:=key
  rw [f2] at h5
  simp only [bS] at h5
  have g:=AmD F hF ha hb.2 hc hd (by omega) f1
  exact ⟨_,_,g.2,h5.trans g.1⟩
abbrev Co:=Bool×(Rt×(Rt×Unit))
abbrev oC:Co:=(true,(zR,(zR,())))
def COk(c:Co):Prop:=ROk c.2.1∧ROk c.2.2.1
theorem A7K:COk oC:=⟨Tc,Tc⟩
theorem AfN{p q:Rt}:rc p q≤0↔wi p.1*wi q.2.1≤wi q.1*wi p.2.1:=by
 unfold rc AuO; split
 ·omega
 ·split <;> omega
theorem A7L{p q:Rt}:0 < rc p q↔wi q.1*wi p.2.1 < wi p.1*wi q.2.1:=by
 unfold rc AuO; split
 ·omega
 ·split <;> omega
theorem A7N{p q:Rt}:rc p q < 0↔wi p.1*wi q.2.1 < wi q.1*wi p.2.1:=by
 unfold rc AuO; split
 ·omega
 ·split <;> omega
theorem AfO{p q:Rt}:rc p q < 0↔0 < rc q p:=by rw [A7N,A7L]
theorem Oz{p q r:Rt}(hp:RV p)(hq:RV q)(hr:RV r)(h1:rc p q≤0)(h2:rc q r≤0):rc p r≤0:=by
 rw [AfN] at *
 have p0:=hp.2.2.1
 have q0:=hq.2.2.1
 have r0:=hr.2.2.1
 generalize wi p.1=a at *
 generalize wi p.2.1=b at *
 generalize wi q.1=c at *
 generalize wi q.2.1=d at *
 generalize wi r.1=e at *
 generalize wi r.2.1=f at *
 refine Int.le_of_mul_le_mul_right ?_ q0
 have k1:a*d*f≤c*b*f:=Int.mul_le_mul_of_nonneg_right h1 (by omega)
 have k2:c*f*b≤e*d*b:=Int.mul_le_mul_of_nonneg_right h2 (by omega)
 have e1:a*f*d=a*d*f:=by rw [Int.mul_right_comm]
 have e2:c*f*b=c*b*f:=by rw [Int.mul_right_comm]
 have e3:e*b*d=e*d*b:=by rw [Int.mul_right_comm]
 rw [e1,e3]
 omega
theorem AfP{w:W}(h:WOk w)(hv:Vl w)(h0:0≤wi w):w=toW ((wv w.2.1:Nat):Int):=by
 have h1:=Abv h hv
 have h2:=Oh w
 rw [show wi w=((wv w.2.1:Nat):Int) by omega] at h1
 exact h1.symm
theorem AmE{a b c d n m:Nat}(ha:Sm a)(hb:Sm b)(hc:Sm c)(hd:Sm d)(h:Xk a b c d n m)(s:Int)(hs:s=(n:Int)∨s=-(n:Int)):ROk (toW s,(toW (m:Int),()))∧RV (toW s,(toW (m:Int),())):=by
 obtain ⟨h1,h2,h3,h4,h5⟩:=h
 have ht:170141183460469231731687303715884105728 < Ax:=by unfold Ax; decide
 have hn:Sm n:=by unfold Sm at *; omega
 have hm:Sm m:=by unfold Sm at *; omega
 have habs:s.natAbs=n:=by omega
 have e1:wv (toW s).2.1=n:=by
  have:=Oh (toW s)
  rw [Ct,habs] at this
  exact this.symm
 have e2:wv (toW (m:Int)).2.1=m:=by
  have:=Oh (toW (m:Int))
  rw [Ct,Int.natAbs_natCast] at this
  exact this.symm
 refine ⟨⟨D5 (by unfold Sm at hn; omega),D5 (by unfold Sm at hm; omega)⟩,Amg _,Amg _,?_,?_,?_,?_⟩
 ·rw [Ct]; omega
 ·rw [e1]; exact hn
 ·rw [e2]; exact hm
 ·unfold A0h
  rw [e1,e2]
  exact h5
def Btw(p q s:Rt):Prop:=RV s∧rc p s≤0∧rc s q≤0
theorem Zx(F:Nat)(hF:A4 F){p q:Rt}(hp:ROk p)(hq:ROk q):∃ s ok,Om F p q=some (s,ok,())∧ROk s∧(RV p→RV q→rc p q≤0→Btw p q s):=by
 unfold Om
 rw [Ea F hF hp,Ea F hF hq]
 simp only [bS]
 by_cases vp:RV p
 rotate_left
 ·rw [decide_eq_false vp]
  exact ⟨zR,false,rfl,Tc,fun h=>absurd h vp⟩
 by_cases vq:RV q
 rotate_left
 ·rw [decide_eq_false vq,decide_eq_true vp]
  exact ⟨zR,false,rfl,Tc,fun _ h=>absurd h vq⟩
 rw [decide_eq_true vp,decide_eq_true vq,Dt F hF hp hq vp vq]
 simp only [bS,Bool.not_true,cF]
 by_cases c0:0 < rc p q
 ·rw [Ah.2 c0]
  exact ⟨zR,false,rfl,Tc,fun _ _ h=>by omega⟩
 have x0:ltI 0 (rc p q)=false:=by rw [← Bool.not_eq_true,Ah]; exact c0
 rw [x0,cF,Dp F hF hp.1,Dp F hF hq.1]
 simp only [bS]
 have hle:wi p.1*wi q.2.1≤wi q.1*wi p.2.1:=AfN.1 (by omega)
 have pd:=AfP hp.2 vp.2.1 (by have:=vp.2.2.1; omega)
 have qd:=AfP hq.2 vq.2.1 (by have:=vq.2.2.1; omega)
 have pd0:=vp.2.2.1
 have qd0:=vq.2.2.1
 have apn:=Oh p.1
 have aqn:=Oh q.1
 have apd:=Oh p.2.1
 have aqd:=Oh q.2.1
 obtain ⟨_,_,_,sp1,sp2,_⟩:=vp
 obtain ⟨_,_,_,sq1,sq2,_⟩:=vq
 have hP:∀ v:Nat,Sm v→v < Zw:=fun v hv=>by unfold Sm at hv; unfold Zw; omega
 by_cases c1:0 < wi p.1
 ·
  have y1:leI (if wi p.1=0 then 0 else if wi p.1 < 0 then -1 else 1) 0=false:=by
   unfold leI; refine decide_eq_false ?_
   rw [iN (by omega),iN (by omega)]; omega
  rw [y1,cF]
  unfold H3 H4
  have c2:0≤wi q.1:=by
   rcases Int.lt_or_le (wi q.1) 0 with h | h
   ·have h1:=Int.mul_pos c1 qd0
    have h2:=Int.mul_neg_of_neg_of_pos h pd0
    omega
   ·exact h
  have y2:ltI (if wi q.1=0 then 0 else if wi q.1 < 0 then -1 else 1) 0=false:=by
   rw [← Bool.not_eq_true,Ah]
   split
   ·omega
   ·rw [iN (by omega)]; omega
  have pn:=AfP hp.1 (by assumption) (by omega)
  have qn:=AfP hq.1 (by assumption) (by omega)
  simp only [cF,Dp F hF hq.1,bS,y2]
  rw [show wi p.1=((wv p.1.2.1:Nat):Int) by omega,show wi q.1=((wv q.1.2.1:Nat):Int) by omega,show wi p.2.1=((wv p.2.1.2.1:Nat):Int) by omega,show wi q.2.1=((wv q.2.1.2.1:Nat):Int) by omega] at hle
  obtain ⟨n,m,f1,f2⟩:=AbW F hF 128 F (a:=wv p.1.2.1) (b:=wv p.2.1.2.1) (c:=wv q.1.2.1) (d:=wv q.2.1.2.1) (hP _ sp1) ⟨by omega,hP _ sp2⟩ (hP _ sq1) ⟨by omega,hP _ sq2⟩ (by have:=hP _ sq2; unfold Zw at this; exact this) (by exact_mod_cast hle) (by unfold A4 at hF; omega)
  rw [← pn,← pd,← qn,← qd] at f2
  unfold J5
  rw [f2]
  obtain ⟨r1,r2⟩:=AmE sp1 sp2 sq1 sq2 f1 _ (.inl rfl)
  refine ⟨_,_,rfl,r1,fun _ _ _=>⟨r2,?_,?_⟩⟩
  ·rw [AfN,Ct,Ct]
   have:=f1.2.2.1
   rw [show wi p.1=((wv p.1.2.1:Nat):Int) by omega,show wi p.2.1=((wv p.2.1.2.1:Nat):Int) by omega]
   exact_mod_cast this
  ·rw [AfN,Ct,Ct]
   have:=f1.2.2.2.1
   rw [show wi q.1=((wv q.1.2.1:Nat):Int) by omega,show wi q.2.1=((wv q.2.1.2.1:Nat):Int) by omega]
   exact_mod_cast this
 ·have y1:leI (if wi p.1=0 then 0 else if wi p.1 < 0 then -1 else 1) 0=true:=by
   unfold leI; refine decide_eq_true ?_
   split
   ·omega
   ·rw [iP (by omega)]; omega
  rw [y1,cT]
  unfold H3 H4
  by_cases c2:0≤wi q.1
  ·have y2:leI 0 (if wi q.1=0 then 0 else if wi q.1 < 0 then -1 else 1)=true:=by
    unfold leI; refine decide_eq_true ?_
    split
    ·omega
    ·rw [iN (by omega)]; omega
   rw [y2,cT,AbL F (by unfold I64; omega)]
   refine ⟨of0,true,rfl,Awu,fun _ _ _=>⟨Awv,?_,?_⟩⟩
   ·rw [AfN]
    show wi p.1*wi (toW 1)≤wi (toW 0)*wi p.2.1
    rw [Ct,Ct]
    omega
   ·rw [AfN]
    show wi (toW 0)*wi q.2.1≤wi q.1*wi (toW 1)
    rw [Ct,Ct]
    omega
  ·have y2:leI 0 (if wi q.1=0 then 0 else if wi q.1 < 0 then -1 else 1)=false:=by
    unfold leI; refine decide_eq_false ?_
    rw [iN (by omega),iP (by omega)]; omega
   have y3:ltI (if wi q.1=0 then 0 else if wi q.1 < 0 then -1 else 1) 0=true:=by
    rw [Ah,iN (by omega),iP (by omega)]; omega
   have c3:wi p.1 < 0:=by
    rcases Int.lt_or_le (wi p.1) 0 with h | h
    ·exact h
    ·have h0:wi p.1=0:=by omega
     have h2:=Int.mul_neg_of_neg_of_pos (show wi q.1 < 0 by omega) pd0
     rw [h0,Int.zero_mul] at hle
     omega
   simp only [y2,cF,Dp F hF hq.1,bS,y3,cT,Jg F hF hq.1,Jg F hF hp.1]
   have hneg:-wi q.1*wi p.2.1≤-wi p.1*wi q.2.1:=by rw [Int.neg_mul,Int.neg_mul]; omega
   rw [show -wi p.1=((wv p.1.2.1:Nat):Int) by omega,show -wi q.1=((wv q.1.2.1:Nat):Int) by omega,show wi p.2.1=((wv p.2.1.2.1:Nat):Int) by omega,show wi q.2.1=((wv q.2.1.2.1:Nat):Int) by omega] at hneg
   obtain ⟨n,m,f1,f2⟩:=AbW F hF 128 F (a:=wv q.1.2.1) (b:=wv q.2.1.2.1) (c:=wv p.1.2.1) (d:=wv p.2.1.2.1) (hP _ sq1) ⟨by omega,hP _ sq2⟩ (hP _ sp1) ⟨by omega,hP _ sp2⟩ (by have:=hP _ sp2; unfold Zw at this; exact this) (by exact_mod_cast hneg) (by unfold A4 at hF; omega)
   rw [← pd,← qd] at f2
   obtain ⟨r1,r2⟩:=AmE sq1 sq2 sp1 sp2 f1 (-(n:Int)) (.inr rfl)
   have hnb:n < Ax:=by
    have ht:170141183460469231731687303715884105728 < Ax:=by unfold Ax; decide
    have:=f1.1
    unfold Sm at *
    omega
   unfold J5
   rw [show -wi p.1=((wv p.1.2.1:Nat):Int) by omega,show -wi q.1=((wv q.1.2.1:Nat):Int) by omega,f2]
   simp only [bS]
   rw [Jg F hF (Hh hnb),Ct]
   refine ⟨_,_,rfl,r1,fun _ _ _=>⟨r2,?_,?_⟩⟩
   ·rw [AfN,Ct,Ct]
    have h1:=f1.2.2.2.1
    have h2:(n:Int)*wi p.2.1≤-wi p.1*(m:Int):=by
     rw [show -wi p.1=((wv p.1.2.1:Nat):Int) by omega,show wi p.2.1=((wv p.2.1.2.1:Nat):Int) by omega]
     exact_mod_cast h1
    rw [Int.neg_mul] at h2
    rw [Int.neg_mul]
    omega
   ·rw [AfN,Ct,Ct]
    have h1:=f1.2.2.1
    have h2:-wi q.1*(m:Int)≤(n:Int)*wi q.2.1:=by
     rw [show -wi q.1=((wv q.1.2.1:Nat):Int) by omega,show wi q.2.1=((wv q.2.1.2.1:Nat):Int) by omega]
     exact_mod_cast h1
    rw [Int.neg_mul] at h2
    rw [Int.neg_mul]
    omega
def cvB(c:Co):Bool:=bif c.1 then eqT (.pair .bool (.pair (.pair (.pair .bool (.pair (.arr 4 (.int .u64)) .unit)) (.pair (.pair .bool (.pair (.arr 4 (.int .u64)) .unit)) .unit)) (.pair (.pair (.pair .bool (.pair (.arr 4 (.int .u64)) .unit)) (.pair (.pair .bool (.pair (.arr 4 (.int .u64)) .unit)) .unit)) .unit))) c oC else decide (RV c.2.1∧RV c.2.2.1∧rc c.2.1 c.2.2.1≤0)
theorem Nw{c:Co}(h:c.1=false):cvB c=true↔RV c.2.1∧RV c.2.2.1∧rc c.2.1 c.2.2.1≤0:=by
 unfold cvB
 rw [h,cF,decide_eq_true_iff]
theorem Ka(F:Nat)(hF:A4 F){c:Co}(h:COk c):I5 F c=some (cvB c,()):=by
 unfold I5 cvB Ki
 cases c.1
 rotate_left
 ·rfl
 simp only [cF,Ea F hF h.1,Ea F hF h.2,bS]
 by_cases v1:RV c.2.1
 rotate_left
 ·have d1:decide (RV c.2.1∧RV c.2.2.1∧rc c.2.1 c.2.2.1≤0)=false:=decide_eq_false fun h=>v1 h.1
  rw [d1,decide_eq_false v1]
  rfl
 by_cases v2:RV c.2.2.1
 rotate_left
 ·have d1:decide (RV c.2.1∧RV c.2.2.1∧rc c.2.1 c.2.2.1≤0)=false:=decide_eq_false fun h=>v2 h.2.1
  rw [d1,decide_eq_true v1,decide_eq_false v2]
  rfl
 rw [decide_eq_true v1,decide_eq_true v2,Dt F hF h.1 h.2 v1 v2]
 simp only [bS,cT]
 unfold leI
 refine congrArg (fun b=>some (b,())) (decide_eq_decide.2 ?_)
 exact ⟨fun h=>⟨v1,v2,h⟩,fun h=>h.2.2⟩
theorem Uc(F:Nat)(hF:A4 F){c:Co}(h:COk c):∃ s,N3 F c=some (s,())∧ROk s∧(cvB c=true→RV s∧(c.1=false→Btw c.2.1 c.2.2.1 s)):=by
 unfold N3
 rw [Ka F hF h]
 simp only [bS]
 by_cases v:cvB c=true
 rotate_left
 ·rw [Bool.not_eq_true] at v
  rw [v]
  exact ⟨zR,rfl,Tc,fun h=>by cases h⟩
 rw [v]
 simp only [Bool.not_true,cF]
 cases hc:c.1
 ·obtain ⟨s,ok,e,r1,r2⟩:=Zx F hF h.1 h.2
  rw [e]
  obtain ⟨v1,v2,v3⟩:=(Nw hc).1 v
  have hb:=r2 v1 v2 v3
  exact ⟨s,rfl,r1,fun _=>⟨hb.1,fun _=>hb⟩⟩
 ·rw [AbL F (by unfold I64; omega)]
  exact ⟨of0,rfl,Awu,fun _=>⟨Awv,fun h=>by cases h⟩⟩
def Met(a b c:Co):Prop:=cvB c=true∧((a.1=true∧c=b)∨(b.1=true∧c=a)∨(a.1=false∧b.1=false∧c.1=false∧(c.2.1=a.2.1∨c.2.1=b.2.1)))
def As8(a b:Co):Prop:=cvB a=true→cvB b=true→a.1=false∧b.1=false∧(rc a.2.1 b.2.1≤0→0 < rc b.2.1 a.2.2.1)
theorem Xl(F:Nat)(hF:A4 F){a b:Co}(ha:COk a)(hb:COk b):∃ c ok,Qz F a b=some (c,ok,())∧COk c∧(ok=true→Met a b c)∧(ok=false→As8 a b):=by
 unfold Qz
 rw [Ka F hF ha,Ka F hF hb]
 simp only [bS]
 have zc:COk (false,(zR,(zR,()))):=⟨Tc,Tc⟩
 by_cases va:cvB a=true
 rotate_left
 ·have va':=va
  rw [Bool.not_eq_true] at va'
  rw [va']
  exact ⟨_,_,rfl,zc,(fun h=>by cases h),fun _ h=>absurd h va⟩
 by_cases vb:cvB b=true
 rotate_left
 ·have vb':=vb
  rw [Bool.not_eq_true] at vb'
  rw [va,vb']
  exact ⟨_,_,rfl,zc,(fun h=>by cases h),fun _ _ h=>absurd h vb⟩
 rw [va,vb]
 simp only [Bool.not_true,cF]
 cases oa:a.1
 rotate_left
 ·exact ⟨_,_,rfl,hb,fun _=>⟨vb,.inl ⟨oa,rfl⟩⟩,fun h=>by cases h⟩
 cases ob:b.1
 rotate_left
 ·exact ⟨_,_,rfl,ha,fun _=>⟨va,.inr (.inl ⟨ob,rfl⟩)⟩,fun h=>by cases h⟩
 obtain ⟨a1,a2,a3⟩:=(Nw oa).1 va
 obtain ⟨b1,b2,b3⟩:=(Nw ob).1 vb
 have fin:∀ (c:Co),COk c→c.1=false→RV c.2.1→RV c.2.2.1→(c.2.1=a.2.1∨c.2.1=b.2.1)→(0 < rc c.2.1 c.2.2.1→rc a.2.1 b.2.1≤0→0 < rc b.2.1 a.2.2.1) →
   ∃ d ok,J4 F (fun z15 z16=>some (z15,(z16,()))) c (false,(zR,(zR,())))=some (d,ok,())∧COk d∧(ok=true→Met a b d)∧(ok=false→As8 a b):=by
  intro c hc oc c1 c2 hl hap
  unfold J4
  rw [Dt F hF hc.1 hc.2 c1 c2]
  simp only [bS]
  by_cases k:0 < rc c.2.1 c.2.2.1
  ·rw [Ah.2 k]
   exact ⟨_,_,rfl,zc,(fun h=>by cases h),fun _ _ _=>⟨oa,ob,hap k⟩⟩
  ·have:ltI 0 (rc c.2.1 c.2.2.1)=false:=by rw [← Bool.not_eq_true,Ah]; exact k
   rw [this]
   exact ⟨c,true,rfl,hc,fun _=>⟨(Nw oc).2 ⟨c1,c2,by omega⟩,.inr (.inr ⟨oa,ob,oc,hl⟩)⟩,fun h=>by cases h⟩
 have fin2:∀ (c:Co),COk c→c.1=false→RV c.2.1→c.2.2.1=a.2.2.1→((c.2.1=a.2.1∧rc b.2.1 a.2.1≤0)∨(c.2.1=b.2.1)) →
   ∃ d ok,K9 F (fun z15 z16=>some (z15,(z16,()))) c b (false,(zR,(zR,())))=some (d,ok,())∧COk d∧(ok=true→Met a b d)∧(ok=false→As8 a b):=by
  intro c hc oc c1 ch hl
  unfold K9
  have c2:RV c.2.2.1:=by rw [ch]; exact a2
  rw [Dt F hF hb.2 hc.2 b2 c2]
  simp only [bS]
  by_cases k:rc b.2.2.1 c.2.2.1 < 0
  ·rw [Ah.2 k,cT]
   refine fin (c.1,(c.2.1,(b.2.2.1,c.2.2.2))) ⟨hc.1,hb.2⟩ oc c1 b2 (hl.imp (fun h=>h.1) id) ?_
   intro h h2
   exfalso
   rcases hl with ⟨h3,h4⟩ | h3
   ·have h:0 < rc c.2.1 b.2.2.1:=h
    rw [h3] at h
    have:=Oz a1 b1 b2 h2 b3
    omega
   ·have h:0 < rc c.2.1 b.2.2.1:=h
    rw [h3] at h
    omega
  ·have:ltI (rc b.2.2.1 c.2.2.1) 0=false:=by rw [← Bool.not_eq_true,Ah]; exact k
   rw [this,cF]
   refine fin c hc oc c1 c2 (hl.imp (fun h=>h.1) id) ?_
   intro h h2
   rcases hl with ⟨h3,h4⟩ | h3
   ·rw [h3,ch] at h
    omega
   ·rw [h3,ch] at h
    exact h
 rw [Dt F hF hb.1 ha.1 b1 a1]
 simp only [bS,cF]
 by_cases k:0 < rc b.2.1 a.2.1
 ·rw [Ah.2 k,cT]
  exact fin2 (false,(b.2.1,a.2.2)) ⟨hb.1,ha.2⟩ rfl b1 rfl (.inr rfl)
 ·have:ltI 0 (rc b.2.1 a.2.1)=false:=by rw [← Bool.not_eq_true,Ah]; exact k
  rw [this,cF]
  exact fin2 a ha oa a1 rfl (.inl ⟨rfl,by omega⟩)
abbrev Pi:=Int×(Int×(Int×(Co×Unit)))
abbrev nC:Co:=(false,(zR,(zR,())))
def Aik:Ty→Bool
  | .int _=>true
  | .bool=>true
  | .unit=>true
  | .pair a b=>Aik a && Aik b
  | .arr _ t=>Aik t
  | _=>false
theorem AmF{α:Type}(f:α→α→Bool)(h:∀ x,f x x=true):∀ l:List α,eqL f l l=true
  | []=>rfl
  | x::l=>by show(f x x && eqL f l l)=true; rw [h,AmF f h l]; rfl
theorem Uu:∀ (t:Ty),Aik t=true→∀ x:t.den,eqT t x x=true
  | .int _,_,x=>decide_eq_true rfl
  | .bool,_,x=>by show((x:Bool) == x)=true; exact beq_self_eq_true _
  | .unit,_,_=>rfl
  | .pair a b,h,x=>by
    simp only [Aik,Bool.and_eq_true] at h
    show(eqT a x.1 x.1 && eqT b x.2 x.2)=true
    rw [Uu a h.1,Uu b h.2]; rfl
  | .arr _ t,h,x=>AmF _ (Uu t h) x
  | .str,h,_=>by cases h
  | .slice _,h,_=>by cases h
  | .nil,h,_=>by cases h
  | .val,h,_=>by cases h
def Zy(t:Int):Prop:=0≤t∧t≤4611686018427387904
theorem AfQ(F:Nat){t:Int}(h:Zy t):G6 F t=some (true,()):=by
  obtain ⟨h1,h2⟩:=h
  have e1:leI 0 t=true:=decide_eq_true h1
  have e2:leI t 4611686018427387904=true:=decide_eq_true h2
  unfold G6
  rw [e1,e2]
  rfl
theorem Xm(F:Nat){t:Int}(h:Zy t):∃ u,Ul F t=some (u,())∧1≤u∧u≤4611686018427387904:=by
  obtain ⟨h1,h2⟩:=h
  refine ⟨_,rfl,?_⟩
  unfold Asj
  split <;> omega
theorem Ail(F:Nat){v t:Int}(ht:Zy t):∃ k,Qs F v t=some (k,())∧I64 k:=by
  obtain ⟨u,e,h1,h2⟩:=Xm F ht
  have z1:eqI u 0=false:=by rw [← Bool.not_eq_true,Ao]; omega
  have z2:eqI u (-1)=false:=by rw [← Bool.not_eq_true,Ao]; omega
  have j:∃ k b,G7 F (fun z11 z12=>some (z11,(z12,()))) v u=some (k,(b,()))∧I64 k:=by
    unfold G7
    rw [z1,cF,cF]
    cases (!eqI (Iw v u) 0) with
    | false=>exact ⟨_,_,rfl,Bp _⟩
    | true=>cases (!eqT .bool (ltI v 0) (ltI u 0)) with
      | false=>exact ⟨_,_,rfl,Bp _⟩
      | true=>exact ⟨_,_,rfl,Bp _⟩
  obtain ⟨k,b,j1,j2⟩:=j
  refine ⟨k,?_,j2⟩
  unfold Qs Qj
  rw [e]
  simp only [bS,z1,z2,cF,j1]
  cases eqI v (-9223372036854775808) <;> rfl
theorem Zd(F:Nat)(hF:A4 F){x y:W}(hx:WOk x)(hy:WOk y):∃ z b,K7 F x y=some (z,b,())∧WOk z:=by
  unfold K7
  rw [Jg F hF hy]
  simp only [bS]
  rw [N7 F hF hx (D5 (by rw [Int.natAbs_neg]; exact hy.abs))]
  exact ⟨_,_,rfl,AjA _⟩
theorem Aim(F:Nat)(hF:A4 F){x y:W}(hx:WOk x)(hy:WOk y):∃ z b,Ha F x y=some (z,b,())∧WOk z:=by
  rw [N7 F hF hx hy]
  exact ⟨_,_,rfl,AjA _⟩
theorem AfS(F:Nat)(hF:A4 F){k t:Int}(hk:I64 k)(ht:Zy t):∃ w,Un F k t=some (w,())∧WOk w:=by
  obtain ⟨u,e,h1,h2⟩:=Xm F ht
  have hu:I64 u:=by unfold I64; omega
  unfold Un
  rw [Gy F hk,e]
  simp only [bS]
  rw [Gy F hu]
  simp only [bS]
  rw [N6 F hF (D5 (AbN hk)) (D5 (AbN hu))]
  exact ⟨_,rfl,AjA _⟩
theorem Zz(F:Nat)(hF:A4 F){w:W}(hw:WOk w){v t d:Int}(hv:I64 v)(ht:Zy t)(hd:0≤d∧d≤18446744073709551615):∃ c ok,Ol F w v t d=some (c,ok,())∧COk c∧c.1=false:=by
  have zc:COk nC∧nC.1=false:=⟨⟨Tc,Tc⟩,rfl⟩
  have hwa:WOk (false,w.2):=hw
  have hc:WOk ((false,([0,4,0,0],())):W):=⟨wd4 (by omega) (by omega) (by omega) (by omega),rfl⟩
  have htI:I64 t:=by obtain ⟨h1,h2⟩:=ht; unfold I64; omega
  unfold Ol
  rw [Il F hF hw]
  simp only [bS]
  cases decide (Vl w) with
  | false=>exact ⟨_,_,rfl,zc⟩
  | true =>
    obtain ⟨v0,hv0⟩:∃ v0,F8 F (false,w.2) (false,([0,4,0,0],()))=some (v0,()):=⟨_,Kf F hF hwa hc⟩
    rw [hv0]
    simp only [bS,Bool.not_true,cF]
    cases leI 0 v0 with
    | true=>exact ⟨_,_,rfl,zc⟩
    | false =>
      rw [AfQ F ht]
      simp only [bS,Bool.not_true,cF]
      cases eqI d 0 with
      | true=>exact ⟨_,_,rfl,zc⟩
      | false =>
        obtain ⟨s1,b1,e1,h1⟩:=Zd F hF (D5 (AbN hv)) hw
        obtain ⟨s2,b2,e2,h2⟩:=Zd F hF h1 (D5 (AbN htI))
        obtain ⟨s3,b3,e3,h3⟩:=Aim F hF h1 (D5 (AbN htI))
        have hdo:WOk (toW d):=D5 (by have:=Yb; omega)
        obtain ⟨q1,o1,e4,r1,_⟩:=ArT F hF h2 hdo
        obtain ⟨q2,o2,e5,r2,_⟩:=ArT F hF h3 hdo
        refine ⟨(false,(q1,(q2,()))),true,?_,⟨r1,r2⟩,rfl⟩
        simp only [Gy F hv,Gy F htI,Ko F hd,e1,e2,e3,e4,e5,bS,cF]
def SV(F:Nat)(tol idx cnt:Int)(f:Smp)(last key:Int)(c:Co):Prop :=
  Zy tol∧0≤idx∧idx+cnt≤1000∧COk c ∧
  ((cnt=0∧idx=0∧f=(0,(0,()))∧last=0∧key=0∧c=nC) ∨
   (1≤cnt∧(I64 last∧I64 f.1)∧I64 key∧Qs F f.2.1 tol=some (key,())∧((cnt=1∧last=f.1∧c=oC)∨(1 < cnt∧f.1 < last∧cvB c=true∧c.1=false))))
theorem AuT:cvB oC=true:=by
  unfold cvB
  rw [show oC.1=true from rfl,cT]
  exact Uu _ rfl _
theorem SV.cv{F:Nat}{tol idx cnt:Int}{f:Smp}{last key:Int}{c:Co}(h:SV F tol idx cnt f last key c)(h1:1≤cnt):cvB c=true:=by
  obtain ⟨_,_,_,_,h2 | ⟨_,_,_,_,h2 | h2⟩⟩:=h
  · omega
  · rw [h2.2.2]; exact AuT
  · exact h2.2.2.1
theorem Tb(F:Nat)(hF:A4 F){tol idx cnt:Int}{f:Smp}{last key:Int}{c:Co}(h:SV F tol idx cnt f last key c) :
    Pe F (tol,(idx,(cnt,(f,(last,(key,(c,())))))))=some (true,()):=by
  obtain ⟨h1,h2,h3,h4,h5⟩:=h
  unfold Pe
  rw [AfQ F h1]
  have x1:ltI idx 0=false:=by rw [← Bool.not_eq_true,Ah]; omega
  have x2:ltI 1073741824 idx=false:=by rw [← Bool.not_eq_true,Ah]; omega
  simp only [bS,Bool.not_true,cF,x1,x2]
  rcases h5 with ⟨c1,c2,c3,c4,c5,c6⟩ | ⟨c1,cI,cK,c2,c3⟩
  · subst c1; subst c3; subst c4; subst c5; subst c6
    rw [show eqI (0:Int) 0=true from rfl,cT]
    exact congrArg (fun b=>some (b,())) (Uu _ rfl _)
  · have x3:eqI cnt 0=false:=by rw [← Bool.not_eq_true,Ao]; omega
    have x4:eqI key key=true:=Ao.2 rfl
    simp only [x3,cF,c2,bS,x4,Bool.not_true]
    rcases c3 with ⟨k1,k2,k3⟩ | ⟨k1,k2,k3,k4⟩
    · subst k1; subst k2; subst k3
      have x5:eqI f.1 f.1=true:=Ao.2 rfl
      rw [show eqI (1:Int) 1=true from rfl,cT,x5,cT]
      unfold Ki
      exact congrArg (fun b=>some (b,())) (Uu _ rfl _)
    · have x5:eqI cnt 1=false:=by rw [← Bool.not_eq_true,Ao]; omega
      have x6:ltI 1 cnt=true:=Ah.2 k1
      have x7:leI cnt 1073741824=true:=decide_eq_true (by omega)
      have x8:ltI f.1 last=true:=Ah.2 k2
      simp only [x5,x6,x7,x8,cT,cF,Ka F hF h4,bS,k3,k4,Bool.not_false]
theorem Ack(F:Nat){tol idx cnt:Int}{f:Smp}{last key:Int}{c:Co}(h:SV F tol idx cnt f last key c)(hl:idx+cnt+1≤1000)(hc:0≤cnt){s:Smp}(hs:I64 s.1) :
    ∃ key',Pf F (tol,(idx,(cnt,(f,(last,(key,(c,()))))))) s=some ((tol,(idx+cnt,(1,(s,(s.1,(key',(oC,()))))))),())∧SV F tol (idx+cnt) 1 s s.1 key' oC:=by
  obtain ⟨h1,h2,h3,h4,h5⟩:=h
  obtain ⟨k,e,hk⟩:=Ail F (v:=s.2.1) h1
  refine ⟨k,?_,h1,by omega,by omega,A7K,.inr ⟨by omega,⟨hs,hs⟩,hk,e,.inl ⟨rfl,rfl,rfl⟩⟩⟩
  unfold Pf Ki
  simp only [e,bS]
  rw [Bd (by omega)]
theorem Ud(F:Nat)(hF:A4 F){tol idx cnt:Int}{f:Smp}{last key:Int}{c:Co}(h:SV F tol idx cnt f last key c)(h1:1≤cnt) :
    N2 F (tol,(idx,(cnt,(f,(last,(key,(c,())))))))=some ([(idx,(cnt,(key,(c,()))))],0,()):=by
  unfold N2
  rw [Tb F hF h]
  have x3:eqI cnt 0=false:=by rw [← Bool.not_eq_true,Ao]; omega
  simp only [bS,Bool.not_true,cF,x3]
theorem AfT(F:Nat)(hF:A4 F){tol idx cnt:Int}{f:Smp}{last key:Int}{c:Co}(h:SV F tol idx cnt f last key c)(hl:idx+cnt+1≤1000)(hc:0≤cnt){s:Smp}(hs:I64 s.1∧I64 s.2.1)(hlast:1≤cnt→last < s.1) :
    ∃ idx' cnt' f' key' c' ps,Uo F (tol,(idx,(cnt,(f,(last,(key,(c,()))))))) s=some ((tol,(idx',(cnt',(f',(s.1,(key',(c',()))))))),(ps,(0,())))∧SV F tol idx' cnt' f' s.1 key' c'∧idx'+cnt'=idx+cnt+1∧1≤cnt' ∧
      ((ps=[]∧idx'=idx)∨(ps=[(idx,(cnt,(key,(c,()))))]∧1≤cnt∧idx'=idx+cnt)):=by
  have key5:∃ idx' cnt' f' key' c' ps,La F (fun z17 z18 z19=>some (z17,(z18,(z19,())))) (tol,(idx,(cnt,(f,(last,(key,(c,()))))))) s (0,(0,(0,((0,(0,())),(0,(0,(nC,())))))))=some ((tol,(idx',(cnt',(f',(s.1,(key',(c',()))))))),(ps,(0,())))∧SV F tol idx' cnt' f' s.1 key' c'∧idx'+cnt'=idx+cnt+1∧1≤cnt' ∧
      ((ps=[]∧idx'=idx)∨(ps=[(idx,(cnt,(key,(c,()))))]∧1≤cnt∧idx'=idx+cnt)):=by
    have h':=h
    obtain ⟨h1,h2,h3,h4,h5⟩:=h'
    have x1:leI 1073741824 (As .i64 idx cnt)=false:=by
      rw [Bd (by omega)]
      exact decide_eq_false (by omega)
    unfold La
    simp only [x1,cF]
    obtain ⟨k1,e1,s1⟩:=Ack F h hl hc hs.1
    rcases h5 with ⟨c1,c2,c3,c4,c5,c6⟩ | ⟨c1,cI,cK,c2,c3⟩
    · have x2:eqI cnt 0=true:=Ao.2 c1
      rw [x2,cT,e1]
      exact ⟨idx+cnt,1,s,k1,oC,[],rfl,s1,by omega,by omega,.inl ⟨rfl,by omega⟩⟩
    · have x2:eqI cnt 0=false:=by rw [← Bool.not_eq_true,Ao]; omega
      obtain ⟨w,e2,hw⟩:=AfS F hF cK h1
      have hls:=hlast c1
      have hd:0≤s.1 - f.1∧0 < s.1 - f.1:=by rcases c3 with k | k <;> omega
      have hf:=Yi F hs.1 cI.2 (by omega)
      obtain ⟨c2',ok2,e3,hco,hcf⟩:=Zz F hF hw hs.2 h1 (d:=s.1 - f.1) (by have h1:=hs.1; have h2:=cI.2; unfold I64 at h1 h2; omega)
      obtain ⟨m,ok3,e4,hm,hm1,hm2⟩:=Xl F hF h4 hco
      rw [x2,cF]
      simp only [e2,hf,e3,e4,bS]
      cases ok3 with
      | false =>
        simp only [Bool.not_false,cT,Ud F hF h c1,bS,e1]
        exact ⟨idx+cnt,1,s,k1,oC,_,rfl,s1,by omega,by omega,.inr ⟨rfl,c1,rfl⟩⟩
      | true =>
        simp only [Bool.not_true,cF]
        have hmet:=hm1 rfl
        rw [Bd (by omega)]
        refine ⟨idx,cnt+1,f,key,m,[],rfl,⟨h1,h2,by omega,hm,.inr ⟨by omega,⟨hs.1,cI.2⟩,cK,c2,.inr ⟨by omega,by omega,hmet.1,?_⟩⟩⟩,by omega,by omega,.inl ⟨rfl,rfl⟩⟩
        rcases hmet.2 with ⟨_,rfl⟩ | ⟨k,_⟩ | ⟨_,_,k,_⟩
        · exact hcf
        · rw [hcf] at k; cases k
        · exact k
  unfold Uo
  rw [Tb F hF h]
  simp only [bS,Bool.not_true,cF]
  by_cases k:0 < cnt
  · have x1:ltI 0 cnt=true:=Ah.2 k
    have x2:leI s.1 last=false:=decide_eq_false (by have:=hlast (by omega); omega)
    rw [x1,cT,x2,cF]
    exact key5
  · have x1:ltI 0 cnt=false:=by rw [← Bool.not_eq_true,Ah]; exact k
    rw [x1,cF]
    exact key5
theorem Adx(d:List Smp)(x:Smp)(t:List Smp):Ak (0,(0,())) (d++x::t) (d.length:Int)=x:=by
 simp [Ak,List.getD_eq_getElem?_getD]
theorem AjJ(F:Nat){R:Type}(k:List Int→Option R){src:List Smp}(hb:src.length≤1000):∀ (rest pre:List Smp) (out:List Int),src=pre++rest→out.length=pre.length→∀ N,rest.length < N →
  Ia F k N src out (pre.length:Int)=k (out++rest.map fun s=>s.1):=by
 intro rest
 induction rest with
 | nil =>
  intro pre out he ho N hN
  obtain ⟨N,rfl⟩:∃ M,N=M+1:=⟨N - 1,by omega⟩
  have hlen:src.length=pre.length:=by rw [he]; simp
  unfold Ia
  simp (disch:=omega) only [bs,↓iP,↓iN]
  simp
 | cons x rest ih =>
  intro pre out he ho N hN
  obtain ⟨N,rfl⟩:∃ M,N=M+1:=⟨N - 1,by omega⟩
  simp only [List.length_cons] at hN
  have hlen:src.length=pre.length+1+rest.length:=by rw [he]; simp; omega
  have g:Ak (0,(0,())) src (pre.length:Int)=x:=by rw [he]; exact Adx pre x rest
  have e:=ih (pre++[x]) (out++[x.1]) (by rw [he]; simp) (by simp [ho]) N (by omega)
  have hpl:(((pre++[x]).length:Nat):Int)=(pre.length:Int)+1:=by simp
  rw [hpl] at e
  have hz:out++[x.1]++(rest.map fun s=>s.1)=out++((x::rest).map fun s=>s.1):=by simp
  rw [hz] at e
  unfold Ia
  simp (disch:=omega) only [bs,↓iP,↓iN,g]
  exact e
theorem Z0(F:Nat)(hF:A4 F){l:List Smp}(hb:l.length≤1000)(h:V1 (l.map fun s=>s.1)=true):Sk F l=some (0,()):=by
 have e:Sj F l=some (l.map fun s=>s.1,()):=by
  unfold Sj
  exact AjJ F _ hb l [] [] rfl rfl F (by unfold A4 at hF; omega)
 unfold Sk
 rw [e]
 simp only [bS]
 rw [V2 F hF (by simp; omega),h]
 rfl
theorem Ain:∀ {l:List Int} {a b:Int} {t:List Int},V1 (l++a::b::t)=true→a < b
 | [],a,b,t,h=>by simp only [List.nil_append,V1,Bool.and_eq_true,decide_eq_true_eq] at h; exact h.1
 | [x],a,b,t,h=>by
  simp only [List.cons_append,List.nil_append,V1,Bool.and_eq_true,decide_eq_true_eq] at h; exact h.2.1
 | x::y::l,a,b,t,h=>by
  simp only [List.cons_append,V1,Bool.and_eq_true] at h
  exact Ain (l:=y::l) h.2
def PA(l:List Pi)(idx:Int):Prop :=
 (l.length:Int)≤idx∧(∀ p∈l,0≤p.1∧p.1 < idx∧I64 p.2.2.1∧COk p.2.2.2.1∧cvB p.2.2.2.1=true)∧l.Pairwise (fun a b=>a.1 < b.1)∧(0 < idx→∃ p∈l,p.1=0)
theorem PA.push{l:List Pi}{F:Nat}{tol idx cnt:Int}{f:Smp}{last key:Int}{c:Co}(h:PA l idx)(hs:SV F tol idx cnt f last key c)(h1:1≤cnt):PA (l++[(idx,(cnt,(key,(c,()))))]) (idx+cnt):=by
 obtain ⟨a1,a2,a3,a4⟩:=h
 have hcv:=hs.cv h1
 obtain ⟨b1,b2,b3,b4,b5⟩:=hs
 have hk:I64 key:=by
  rcases b5 with k | k
  ·omega
  ·exact k.2.2.1
 refine ⟨by simp only [List.length_append,List.length_singleton]; omega,?_,?_,?_⟩
 ·intro p hp
  rcases List.mem_append.1 hp with h | h
  ·obtain ⟨k1,k2,k3⟩:=a2 p h
   exact ⟨k1,by omega,k3⟩
  ·rw [List.mem_singleton] at h
   subst h
   exact ⟨b2,by show idx < idx+cnt; omega,hk,b4,hcv⟩
 ·rw [List.pairwise_append]
  refine ⟨a3,List.pairwise_singleton _ _,fun a ha b hb=>?_⟩
  rw [List.mem_singleton] at hb
  subst hb
  exact(a2 a ha).2.1
 ·intro _
  by_cases k:0 < idx
  ·obtain ⟨p,h1,h2⟩:=a4 k
   exact ⟨p,List.mem_append_left _ h1,h2⟩
  ·exact ⟨_,List.mem_append_right _ (List.mem_singleton.2 rfl),by show idx=0; omega⟩
theorem AuU(F:Nat)(hF:A4 F){src:List Smp}(hs:Zs src)(hi:V1 (src.map fun s=>s.1)=true)(hb:src.length≤100)(tol:Int) :
  ∀ (rest pre:List Smp) (acc:List Pi) (idx cnt:Int) (f:Smp) (last key:Int) (c:Co),src=pre++rest→PA acc idx→SV F tol idx cnt f last key c→idx+cnt=pre.length→0≤cnt→(pre≠[]→1≤cnt)→(∀ d x,pre=d++[x]→last=x.1)→∀ N,rest.length < N →
  ∃ acc' idx' cnt' f' last' key' c',PA acc' idx'∧SV F tol idx' cnt' f' last' key' c'∧idx'+cnt'=src.length∧0≤cnt'∧(src≠[]→1≤cnt')∧∀ (R:Type) (k:Int×(Int×(Int×(Smp×(Int×(Int×(Co×Unit))))))→List Pi→Option R),
   Jr F k N src (tol,(idx,(cnt,(f,(last,(key,(c,()))))))) acc (pre.length:Int)=k (tol,(idx',(cnt',(f',(last',(key',(c',()))))))) acc':=by
 intro rest
 induction rest with
 | nil =>
  intro pre acc idx cnt f last key c he ha hv h1 h2 h3 h4 N hN
  obtain ⟨N,rfl⟩:∃ M,N=M+1:=⟨N - 1,by omega⟩
  have hp:src=pre:=by rw [he]; simp
  refine ⟨acc,idx,cnt,f,last,key,c,ha,hv,by rw [hp]; exact h1,h2,by rw [hp]; exact h3,fun R k=>?_⟩
  have x1:ltI (pre.length:Int) (Au src)=false:=by rw [← Bool.not_eq_true,Ah]; unfold Au; rw [hp]; omega
  unfold Jr
  rw [x1,cF]
 | cons x rest ih =>
  intro pre acc idx cnt f last key c he ha hv h1 h2 h3 h4 N hN
  obtain ⟨N,rfl⟩:∃ M,N=M+1:=⟨N - 1,by omega⟩
  simp only [List.length_cons] at hN
  have hlen:src.length=pre.length+1+rest.length:=by rw [he]; simp; omega
  have g:Ak (0,(0,())) src (pre.length:Int)=x:=by rw [he]; exact Adx pre x rest
  have hx:=hs x (by rw [he]; simp)
  have hlt:1≤cnt→last < x.1:=by
   intro hc
   have hne:pre≠[]:=by
    intro h0
    obtain ⟨_,b2,_,_,b5⟩:=hv
    rw [h0] at h1
    simp at h1
    omega
   obtain ⟨d,y,hd⟩:∃ d y,pre=d++[y]:=⟨pre.dropLast,pre.getLast hne,(List.dropLast_concat_getLast hne).symm⟩
   rw [h4 d y hd]
   refine Ain (l:=d.map fun s=>s.1) (t:=rest.map fun s=>s.1) ?_
   rw [he,hd] at hi
   simpa using hi
  obtain ⟨idx',cnt',f',key',c',ps,e,s1,s2,s3,s4⟩:=AfT F hF hv (by omega) h2 hx hlt
  have ha':PA (acc++ps) idx':=by
   rcases s4 with ⟨k1,k2⟩ | ⟨k1,k2,k3⟩
   ·rw [k1,k2,List.append_nil]; exact ha
   ·rw [k1,k3]; exact ha.push hv k2
  have hpl:(((pre++[x]).length:Nat):Int)=(pre.length:Int)+1:=by simp
  obtain ⟨acc2,i2,n2,f2,l2,k2,c2,g1,g2,g3,g4,g5,g6⟩:=ih (pre++[x]) (acc++ps) idx' cnt' f' x.1 key' c' (by rw [he]; simp) ha' s1 (by rw [hpl]; omega) (by omega) (fun _=>s3) (fun d y hd=>by
   have:=List.append_inj_right' hd rfl
   simp at this
   rw [this]) N (by omega)
  refine ⟨acc2,i2,n2,f2,l2,k2,c2,g1,g2,g3,g4,g5,fun R k=>?_⟩
  have e2:=g6 R k
  rw [hpl] at e2
  have hpsl:ps.length≤1:=by rcases s4 with ⟨k1,_⟩ | ⟨k1,_⟩ <;> simp [k1]
  have x1:ltI (pre.length:Int) (Au src)=true:=by rw [Ah]; unfold Au; omega
  have x2:inI (pre.length:Int) src.length=true:=by rw [Bo]; omega
  have x3:Bh (acc.length+ps.length) 192=true:=by
   rw [Cn]
   have:=ha.1
   obtain ⟨_,_,_,_,_⟩:=hv
   omega
  unfold Jr
  simp only [x1,x2,cT,g,e,bS,x3]
  rw [Bd (by omega)]
  exact e2
theorem Aio(F:Nat)(hF:A4 F){l:List Smp}(hs:Zs l)(hi:V1 (l.map fun s=>s.1)=true)(hb:l.length≤100)(hne:l≠[]){tol:Int}(ht:Zy tol) :
  ∃ ps,Wr F l tol=some (ps,0,())∧PA ps l.length:=by
 have hv:SV F tol 0 0 (0,(0,())) 0 0 nC:=⟨ht,by omega,by omega,⟨Tc,Tc⟩,.inl ⟨rfl,rfl,rfl,rfl,rfl,rfl⟩⟩
 have ha:PA [] 0:=⟨by simp,fun p hp=>(by cases hp),List.Pairwise.nil,fun h=>by omega⟩
 obtain ⟨acc,idx,cnt,f,last,key,c,g1,g2,g3,g4,g5,g6⟩:=AuU F hF hs hi hb tol l [] [] 0 0 (0,(0,())) 0 0 nC rfl ha hv rfl (by omega) (fun h=>absurd rfl h) (fun d x hd=>by cases d <;> cases hd) F (by unfold A4 at hF; omega)
 have h1:=g5 hne
 refine ⟨acc++[(idx,(cnt,(key,(c,()))))],?_,by rw [← g3]; exact g1.push g2 h1⟩
 have st:Si F tol=some ((tol,(0,(0,((0,(0,())),(0,(0,(nC,()))))))),(0,())):=by
  unfold Si
  rw [AfQ F ht]
  rfl
 have x1:ltI 1073741824 (Au l)=false:=by rw [← Bool.not_eq_true,Ah]; unfold Au; omega
 have z0:eqI (0:Int) 0=true:=rfl
 have x3:Bh (acc.length+1) 192=true:=by
  rw [Cn]
  have:=g1.1
  omega
 unfold Wr
 simp only [st,bS,z0,Bool.not_true,cF,Z0 F hF (l:=l) (by omega) hi,x1]
 refine(g6 _ _).trans ?_
 rw [Ud F hF g2 h1]
 simp only [bS,List.length_singleton,x3,cT]
abbrev zP:Pi:=(0,(0,(0,(nC,()))))
theorem Uv{α:Type}(z:α)(d:List α)(x:α)(t:List α):Ak z (d++x::t) (d.length:Int)=x:=by
 simp [Ak,List.getD_eq_getElem?_getD]
theorem As9{α:Type}(z:α)(d:List α)(y x:α)(t:List α):Ak z (d++y::x::t) ((d.length:Int)+1)=x:=by
 have h:((d.length:Int)+1)=(((d++[y]).length:Nat):Int):=by simp
 rw [h,show d++y::x::t=(d++[y])++x::t by simp]
 exact Uv z _ x t
theorem Aah{α:Type}(d:List α)(x y:α)(t:List α):B6 (d++x::t) (d.length:Int) y=d++y::t:=by
 simp [B6]
theorem Asa{α:Type}(d:List α)(y x v:α)(t:List α):B6 (d++y::x::t) ((d.length:Int)+1) v=d++y::v::t:=by
 have h:((d.length:Int)+1)=(((d++[y]).length:Nat):Int):=by simp
 rw [h,show d++y::x::t=(d++[y])++x::t by simp,Aah]
 simp
def Ady(p:Pi):Prop:=0≤p.1∧p.1 < 4096∧I64 p.2.2.1∧COk p.2.2.2.1∧cvB p.2.2.2.1=true
theorem AnZ(F:Nat){R:Type}(k2:List Pi→Int→Option R)(kr:List Gr→Int→Option R){src:List Pi}(hb:src.length≤1000){i:Nat}(hi:i < src.length)(hd:∀ j:Nat,j < i→(Ak zP src (j:Int)).1≠(Ak zP src (i:Int)).1):∀ (m j:Nat),j+m=i→∀ N,m < N →
  Hu F k2 kr N src (i:Int) (j:Int)=k2 src (i:Int):=by
 intro m
 induction m with
 | zero =>
  intro j h N hN
  obtain ⟨N,rfl⟩:∃ M,N=M+1:=⟨N - 1,by omega⟩
  have x1:ltI (j:Int) (i:Int)=false:=by rw [← Bool.not_eq_true,Ah]; omega
  unfold Hu
  rw [x1,cF]
 | succ m ih =>
  intro j h N hN
  obtain ⟨N,rfl⟩:∃ M,N=M+1:=⟨N - 1,by omega⟩
  have x1:ltI (j:Int) (i:Int)=true:=by rw [Ah]; omega
  have x2:inI (j:Int) src.length=true:=by rw [Bo]; omega
  have x3:inI (i:Int) src.length=true:=by rw [Bo]; omega
  have x4:eqI (Ak zP src (j:Int)).1 (Ak zP src (i:Int)).1=false:=by rw [← Bool.not_eq_true,Ao]; exact hd j (by omega)
  have e:=ih (j+1) (by omega) N (by omega)
  unfold Hu
  simp only [x1,x2,x3,cT,x4,cF]
  rw [Bd (by omega)]
  exact e
theorem A7O{l:List Pi}(h:l.Pairwise (fun a b=>a.1 < b.1)){i j:Nat}(hj:j < i)(hi:i < l.length):(Ak zP l (j:Int)).1 < (Ak zP l (i:Int)).1:=by
 have e:=List.pairwise_iff_getElem.1 h j i (by omega) hi hj
 simp only [Ak,Int.toNat_natCast,List.getD_eq_getElem?_getD]
 rw [List.getElem?_eq_getElem (by omega),List.getElem?_eq_getElem hi]
 exact e
theorem AjK(F:Nat)(hF:A4 F){R:Type}(k0:List Pi→Option R)(kr:List Gr→Int→Option R){src:List Pi}(hb:src.length≤1000)(hs:∀ p∈src,Ady p)(hp:src.Pairwise (fun a b=>a.1 < b.1)):∀ (rest pre:List Pi),src=pre++rest→∀ N,rest.length < N →
  F9 F k0 kr N src (pre.length:Int)=k0 src:=by
 intro rest
 induction rest with
 | nil =>
  intro pre he N hN
  obtain ⟨N,rfl⟩:∃ M,N=M+1:=⟨N - 1,by omega⟩
  have hlen:src.length=pre.length:=by rw [he]; simp
  have x1:ltI (pre.length:Int) (Au src)=false:=by rw [← Bool.not_eq_true,Ah]; unfold Au; omega
  unfold F9
  rw [x1,cF]
 | cons x rest ih =>
  intro pre he N hN
  obtain ⟨N,rfl⟩:∃ M,N=M+1:=⟨N - 1,by omega⟩
  simp only [List.length_cons] at hN
  have hlen:src.length=pre.length+1+rest.length:=by rw [he]; simp; omega
  have g:Ak zP src (pre.length:Int)=x:=by rw [he]; exact Uv zP pre x rest
  obtain ⟨p1,p2,p3,p4,p5⟩:=hs x (by rw [he]; simp)
  have hpl:(((pre++[x]).length:Nat):Int)=(pre.length:Int)+1:=by simp
  have e:=ih (pre++[x]) (by rw [he]; simp) N (by omega)
  rw [hpl] at e
  have x1:ltI (pre.length:Int) (Au src)=true:=by rw [Ah]; unfold Au; omega
  have x2:inI (pre.length:Int) src.length=true:=by rw [Bo]; omega
  have x3:ltI x.1 0=false:=by rw [← Bool.not_eq_true,Ah]; omega
  have e7:=AnZ F (fun z13 z14=>F9 F k0 kr N z13 (As .i64 z14 1)) (fun z16 z17=>kr z16 z17) hb (i:=pre.length) (by omega) (fun j hj=>by have:=A7O hp hj (by omega); omega) pre.length 0 (by omega) F (by unfold A4 at hF; omega)
  have e7:Hu F (fun z13 z14=>F9 F k0 kr N z13 (As .i64 z14 1)) (fun z16 z17=>kr z16 z17) F src (pre.length:Int) 0=_:=e7
  unfold F9
  simp only [x1,x2,cT]
  simp only [g,Ka F hF p4,bS,p5,Bool.not_true,cF,x3]
  rw [e7]
  rw [Bd (by omega)]
  exact e
def Pre(a b:Pi):Prop:=a.2.2.1 < b.2.2.1∨(a.2.2.1=b.2.2.1∧(a.2.2.2.1.1=true∨(b.2.2.2.1.1=false∧rc a.2.2.2.1.2.1 b.2.2.2.1.2.1≤0)))
theorem Ady.lo{p:Pi}(h:Ady p)(h2:p.2.2.2.1.1=false):RV p.2.2.2.1.2.1∧RV p.2.2.2.1.2.2.1∧rc p.2.2.2.1.2.1 p.2.2.2.1.2.2.1≤0:=(Nw h2).1 h.2.2.2.2
theorem Pre.trans{a b c:Pi}(ha:Ady a)(hb:Ady b)(hc:Ady c)(h1:Pre a b)(h2:Pre b c):Pre a c:=by
 unfold Pre at *
 rcases h1 with h1 | ⟨h1,h3⟩
 ·rcases h2 with h2 | ⟨h2,_⟩ <;> (left; omega)
 ·rcases h2 with h2 | ⟨h2,h4⟩
  ·left; omega
  ·right
   refine ⟨by omega,?_⟩
   rcases h3 with h3 | ⟨h3,h5⟩
   ·exact .inl h3
   ·rcases h4 with h4 | ⟨h4,h6⟩
    ·rw [h3] at h4; cases h4
    ·cases ha1:a.2.2.2.1.1 with
     | true=>exact .inl rfl
     | false=>exact .inr ⟨h4,Oz (ha.lo ha1).1 (hb.lo h3).1 (hc.lo h4).1 h5 h6⟩
theorem AbX(F:Nat)(hF:A4 F){a b:Pi}(ha:Ady a)(hb:Ady b):∃ r,P2 F a b=some (r,())∧(r=true→Pre a b)∧(r=false→Pre b a):=by
 unfold P2
 by_cases k1:a.2.2.1=b.2.2.1
 rotate_left
 ·have x1:eqI a.2.2.1 b.2.2.1=false:=by rw [← Bool.not_eq_true,Ao]; exact k1
  rw [x1,Bool.not_false,cT]
  refine ⟨_,rfl,fun h=>Or.inl (Ah.1 h),fun h=>?_⟩
  rw [← Bool.not_eq_true,Ah] at h
  exact Or.inl (by omega)
 have x1:eqI a.2.2.1 b.2.2.1=true:=Ao.2 k1
 rw [x1,Bool.not_true,cF]
 cases oa:a.2.2.2.1.1 with
 | true =>
  cases ob:b.2.2.2.1.1 with
  | true=>exact ⟨_,rfl,fun _=>Or.inr ⟨k1,.inl oa⟩,fun _=>Or.inr ⟨k1.symm,.inl ob⟩⟩
  | false=>exact ⟨true,rfl,fun _=>Or.inr ⟨k1,.inl oa⟩,fun h=>by cases h⟩
 | false =>
  cases ob:b.2.2.2.1.1 with
  | true=>exact ⟨false,rfl,(fun h=>by cases h),fun _=>Or.inr ⟨k1.symm,.inl ob⟩⟩
  | false =>
   obtain ⟨a1,a2,a3⟩:=ha.lo oa
   obtain ⟨b1,b2,b3⟩:=hb.lo ob
   have hao:=ha.2.2.2.1
   have hbo:=hb.2.2.2.1
   simp only [show eqT .bool false false=true from rfl,Bool.not_true,cF,Bool.not_false,cT,Dt F hF hao.1 hbo.1 a1 b1,Dt F hF hao.2 hbo.2 a2 b2,bS]
   by_cases k2:rc a.2.2.2.1.2.1 b.2.2.2.1.2.1=0
   ·have x2:eqI (rc a.2.2.2.1.2.1 b.2.2.2.1.2.1) 0=true:=Ao.2 k2
    have h1:rc a.2.2.2.1.2.1 b.2.2.2.1.2.1≤0:=by omega
    have h2:rc b.2.2.2.1.2.1 a.2.2.2.1.2.1≤0:=by
     rcases Int.lt_or_le 0 (rc b.2.2.2.1.2.1 a.2.2.2.1.2.1) with h | h
     ·rw [← AfO] at h; omega
     ·exact h
    have any:∀ o:Option (Bool×Unit),(∃ r,o=some (r,()))→∃ r,o=some (r,())∧(r=true→Pre a b)∧(r=false→Pre b a):=by
     rintro o ⟨r,hr⟩
     exact ⟨r,hr,fun _=>Or.inr ⟨k1,.inr ⟨ob,h1⟩⟩,fun _=>Or.inr ⟨k1.symm,.inr ⟨oa,h2⟩⟩⟩
    refine any _ ?_
    rw [x2,Bool.not_true,cF]
    cases eqI (rc a.2.2.2.1.2.2.1 b.2.2.2.1.2.2.1) 0 with
    | true=>exact ⟨_,rfl⟩
    | false=>exact ⟨_,rfl⟩
   ·have x2:eqI (rc a.2.2.2.1.2.1 b.2.2.2.1.2.1) 0=false:=by rw [← Bool.not_eq_true,Ao]; exact k2
    rw [x2,Bool.not_false,cT]
    refine ⟨_,rfl,fun h=>?_,fun h=>?_⟩
    ·rw [Ah] at h
     exact Or.inr ⟨k1,.inr ⟨ob,by omega⟩⟩
    ·rw [← Bool.not_eq_true,Ah] at h
     refine Or.inr ⟨k1.symm,.inr ⟨oa,?_⟩⟩
     have:rc b.2.2.2.1.2.1 a.2.2.2.1.2.1 < 0:=AfO.2 (by omega)
     omega
theorem AuV(F:Nat)(hF:A4 F):∀ (n:Nat) (pre mid rest:List Pi) (x:Pi),pre.length=n→(pre++mid).Pairwise Pre→(∀ y∈mid,Pre x y)→(∀ p∈pre++x::mid,Ady p)→(pre++x::mid++rest).length≤1000→∀ N,n < N →
  ∃ s,s.Pairwise Pre∧s.Perm (pre++x::mid)∧∀ (R:Type) (k6:List Pi→Int→Option R) (i:Int),Gq F k6 N (pre++x::mid++rest) i (pre.length:Int)=k6 (s++rest) i:=by
 intro n
 induction n with
 | zero =>
  intro pre mid rest x hn hs hx hok hl N hN
  obtain ⟨N,rfl⟩:∃ M,N=M+1:=⟨N - 1,by omega⟩
  have hp:pre=[]:=List.length_eq_zero_iff.1 hn
  subst hp
  refine ⟨x::mid,List.pairwise_cons.2 ⟨hx,hs⟩,List.Perm.refl _,fun R k6 i=>?_⟩
  unfold Gq
  rfl
 | succ n ih =>
  intro pre mid rest x hn hs hx hok hl N hN
  obtain ⟨N,rfl⟩:∃ M,N=M+1:=⟨N - 1,by omega⟩
  have hne:pre≠[]:=fun h=>by rw [h] at hn; simp at hn
  obtain ⟨d,y,rfl⟩:∃ d y,pre=d++[y]:=⟨pre.dropLast,pre.getLast hne,(List.dropLast_concat_getLast hne).symm⟩
  have hdl:d.length=n:=by simpa using hn
  have hpl:(((d++[y]).length:Nat):Int)=(d.length:Int)+1:=by simp
  have hy:Ady y:=hok y (by simp)
  have hxo:Ady x:=hok x (by simp)
  obtain ⟨r,e1,r1,r2⟩:=AbX F hF hxo hy
  have hsrc:d++[y]++x::mid++rest=d++y::x::(mid++rest):=by simp
  have hlen:(d++y::x::(mid++rest)).length=d.length+2+mid.length+rest.length:=by simp; omega
  have hl2:d.length+2+mid.length+rest.length≤1000:=by rw [hsrc,hlen] at hl; exact hl
  have x1:ltI 0 ((d.length:Int)+1)=true:=by rw [Ah]; omega
  have x2:inI ((d.length:Int)+1) (d++y::x::(mid++rest)).length=true:=by rw [Bo,hlen]; omega
  have x3:inI (d.length:Int) (d++y::x::(mid++rest)).length=true:=by rw [Bo,hlen]; omega
  have s1:Bl .i64 ((d.length:Int)+1) 1=(d.length:Int):=by rw [Sf (by omega)]; omega
  have g1:Ak zP (d++y::x::(mid++rest)) ((d.length:Int)+1)=x:=As9 zP d y x _
  have g2:Ak zP (d++y::x::(mid++rest)) (d.length:Int)=y:=Uv zP d y _
  cases r with
  | false =>
   refine ⟨d++[y]++x::mid,?_,List.Perm.refl _,fun R k6 i=>?_⟩
   ·rw [List.pairwise_append] at hs ⊢
    obtain ⟨h1,h2,h3⟩:=hs
    refine ⟨h1,List.pairwise_cons.2 ⟨hx,h2⟩,fun a ha b hb=>?_⟩
    rcases List.mem_cons.1 hb with rfl | hb
    ·rcases List.mem_append.1 ha with ha | ha
     ·have h4:Pre a y:=(List.pairwise_append.1 h1).2.2 a ha y (by simp)
      exact Pre.trans (hok a (by simp [ha])) hy hxo h4 (r2 rfl)
     ·rw [List.mem_singleton] at ha
      subst ha
      exact r2 rfl
    ·exact h3 a ha b hb
   ·rw [hpl,hsrc]
    unfold Gq
    simp only [x1,x2,s1,x3,cT,g1,g2,e1,bS,cF]
  | true =>
   obtain ⟨s,q1,q2,q3⟩:=ih d (y::mid) rest x hdl (by simpa using hs) (fun b hb=>by
    rcases List.mem_cons.1 hb with rfl | hb
    ·exact r1 rfl
    ·exact hx b hb) (fun p hp=>hok p (by simp at hp ⊢; rcases hp with h | h | h | h <;> simp [h])) (by rw [show d++x::y::mid++rest=d++x::y::(mid++rest) by simp]; simp; omega) N (by omega)
   refine ⟨s,q1,q2.trans ?_,fun R k6 i=>?_⟩
   ·have:d++[y]++x::mid=d++y::x::mid:=by simp
    rw [this]
    exact List.Perm.append_left d (List.Perm.swap y x mid)
   ·have e:=q3 R k6 i
    rw [hpl,hsrc]
    have hset:B6 (d++y::x::(mid++rest)) ((d.length:Int)+1) y=d++y::y::(mid++rest):=Asa d y x y _
    have hset2:B6 (d++y::y::(mid++rest)) (d.length:Int) x=d++x::y::(mid++rest):=Aah d y x _
    have x4:inI (d.length:Int) (d++y::y::(mid++rest)).length=true:=by rw [Bo]; simp; omega
    unfold Gq
    simp only [x1,x2,s1,x3,cT,g1,g2,e1,bS,hset,x4,hset2]
    rw [show d++x::y::mid++rest=d++x::y::(mid++rest) by simp] at e
    exact e
theorem Asb(F:Nat)(hF:A4 F):∀ (rest pre:List Pi),pre.Pairwise Pre→(∀ p∈pre++rest,Ady p)→(pre++rest).length≤1000→∀ N,rest.length < N →
  ∃ s,s.Pairwise Pre∧s.Perm (pre++rest)∧∀ (R:Type) (k4:List Pi→Option R),E7 F k4 N (pre++rest) (pre.length:Int)=k4 s:=by
 intro rest
 induction rest with
 | nil =>
  intro pre hp hok hl N hN
  obtain ⟨N,rfl⟩:∃ M,N=M+1:=⟨N - 1,by omega⟩
  refine ⟨pre,hp,by rw [List.append_nil],fun R k4=>?_⟩
  have x1:ltI (pre.length:Int) (Au (pre++[]))=false:=by rw [← Bool.not_eq_true,Ah]; unfold Au; simp
  unfold E7
  rw [x1,cF,List.append_nil]
 | cons x rest ih =>
  intro pre hp hok hl N hN
  obtain ⟨N,rfl⟩:∃ M,N=M+1:=⟨N - 1,by omega⟩
  simp only [List.length_cons] at hN
  have hl2:pre.length+1+rest.length≤1000:=by simp at hl; omega
  have hre:pre++x::rest=pre++[x]++rest:=by simp
  obtain ⟨s,q1,q2,q3⟩:=AuV F hF pre.length pre [] rest x rfl (by rw [List.append_nil]; exact hp) (fun y hy=>by cases hy) (fun p h=>hok p (by simp at h ⊢; rcases h with h | h <;> simp [h])) (by simp; omega) F (by unfold A4 at hF; omega)
  have hsl:s.length=pre.length+1:=by rw [q2.length_eq]; simp
  obtain ⟨s2,p1,p2,p3⟩:=ih s q1 (fun p h=>by
   rcases List.mem_append.1 h with h | h
   ·exact hok p (by have:=q2.mem_iff.1 h; simp at this ⊢; rcases this with h | h <;> simp [h])
   ·exact hok p (by simp [h])) (by simp; omega) N (by omega)
  refine ⟨s2,p1,p2.trans ?_,fun R k4=>?_⟩
  ·rw [hre]
   exact List.Perm.append_right rest q2
  ·have x1:ltI (pre.length:Int) (Au (pre++x::rest))=true:=by rw [Ah]; unfold Au; simp; omega
   have e3:=q3 R (fun z34 z35=>E7 F k4 N z34 (As .i64 z35 1)) (pre.length:Int)
   have e:=p3 R k4
   rw [hsl] at e
   unfold E7
   rw [x1,cT]
   rw [hre]
   refine e3.trans ?_
   show E7 F k4 N (s++rest) (As .i64 (pre.length:Int) 1)=_
   rw [Bd (by omega)]
   rw [show((pre.length+1:Nat):Int)=(pre.length:Int)+1 by omega] at e
   exact e
def AfU(v:Int):List Int→List Int
 | []=>[v]
 | y::t=>if v < y then v::y::t else y::AfU v t
theorem Xn(v:Int):∀ l:List Int,(AfU v l).Perm (v::l)
 | []=>List.Perm.refl _
 | y::t=>by
  unfold AfU
  split
  ·exact List.Perm.refl _
  ·exact((Xn v t).cons y).trans (List.Perm.swap v y t)
theorem AmG{v:Int}:∀ {l:List Int},l.Pairwise (· < ·)→v ∉ l→(AfU v l).Pairwise (· < ·)
 | [],_,_=>List.pairwise_singleton _ _
 | y::t,h,hv=>by
  unfold AfU
  obtain ⟨h1,h2⟩:=List.pairwise_cons.1 h
  simp only [List.mem_cons,not_or] at hv
  split
  ·rename_i c
   refine List.pairwise_cons.2 ⟨fun a ha=>?_,h⟩
   rcases List.mem_cons.1 ha with rfl | ha
   ·exact c
   ·have:=h1 a ha; omega
  ·refine List.pairwise_cons.2 ⟨fun a ha=>?_,AmG h2 hv.2⟩
   rcases List.mem_cons.1 ((Xn v t).mem_iff.1 ha) with rfl | ha
   ·have:=hv.1; omega
   ·exact h1 a ha
theorem Asd(F:Nat){R:Type}(k:Int→List Int→Bool→Option R)(v:Int){src:List Int}(hb:src.length≤1000):∀ (rest pre out:List Int),src=pre++rest→out.length≤pre.length+1→∀ N,rest.length < N →
  Cq F k N src v out true (pre.length:Int)=k v (out++rest) true:=by
 intro rest
 induction rest with
 | nil =>
  intro pre out he ho N hN
  obtain ⟨N,rfl⟩:∃ M,N=M+1:=⟨N - 1,by omega⟩
  have hlen:src.length=pre.length:=by rw [he]; simp
  have x1:ltI (pre.length:Int) (Au src)=false:=by rw [← Bool.not_eq_true,Ah]; unfold Au; omega
  unfold Cq
  rw [x1,cF,List.append_nil]
 | cons y rest ih =>
  intro pre out he ho N hN
  obtain ⟨N,rfl⟩:∃ M,N=M+1:=⟨N - 1,by omega⟩
  simp only [List.length_cons] at hN
  have hlen:src.length=pre.length+1+rest.length:=by rw [he]; simp; omega
  have g:Ak 0 src (pre.length:Int)=y:=by rw [he]; exact Cb pre y rest
  have hpl:(((pre++[y]).length:Nat):Int)=(pre.length:Int)+1:=by simp
  have e:=ih (pre++[y]) (out++[y]) (by rw [he]; simp) (by simp; omega) N (by omega)
  rw [hpl,show out++[y]++rest=out++y::rest by simp] at e
  have x1:ltI (pre.length:Int) (Au src)=true:=by rw [Ah]; unfold Au; omega
  have x2:inI (pre.length:Int) src.length=true:=by rw [Bo]; omega
  have x3:Bh (out.length+1) 8=true:=by rw [Cn]; omega
  unfold Cq
  simp only [x1,x2,x3,cT,Bool.not_true,cF,g]
  rw [Bd (by omega)]
  exact e
theorem Ase(F:Nat)(hF:A4 F)(v:Int){src:List Int}(hb:src.length≤1000):∀ (rest pre out:List Int),src=pre++rest→out.length=pre.length→∀ N,rest.length < N →
  Cq F (fun z16 z17 z18=>bif not z18 then bif Bh ((List.length z17)+1) 8 then some ((z17++[z16]),()) else none else some (z17,())) N src v out false (pre.length:Int)=some (out++AfU v rest,()):=by
 intro rest
 induction rest with
 | nil =>
  intro pre out he ho N hN
  obtain ⟨N,rfl⟩:∃ M,N=M+1:=⟨N - 1,by omega⟩
  have hlen:src.length=pre.length:=by rw [he]; simp
  have x1:ltI (pre.length:Int) (Au src)=false:=by rw [← Bool.not_eq_true,Ah]; unfold Au; omega
  have x3:Bh (out.length+1) 8=true:=by rw [Cn]; omega
  unfold Cq
  simp only [x1,cF,Bool.not_false,cT,x3]
  rfl
 | cons y rest ih =>
  intro pre out he ho N hN
  obtain ⟨N,rfl⟩:∃ M,N=M+1:=⟨N - 1,by omega⟩
  simp only [List.length_cons] at hN
  have hlen:src.length=pre.length+1+rest.length:=by rw [he]; simp; omega
  have g:Ak 0 src (pre.length:Int)=y:=by rw [he]; exact Cb pre y rest
  have hpl:(((pre++[y]).length:Nat):Int)=(pre.length:Int)+1:=by simp
  have x1:ltI (pre.length:Int) (Au src)=true:=by rw [Ah]; unfold Au; omega
  have x2:inI (pre.length:Int) src.length=true:=by rw [Bo]; omega
  have x3:Bh (out.length+1) 8=true:=by rw [Cn]; omega
  have x4:Bh ((out++[v]).length+1) 8=true:=by rw [Cn]; simp; omega
  unfold Cq AfU
  by_cases c:v < y
  ·have x5:ltI v y=true:=Ah.2 c
   rw [iP c]
   have e:=Asd F (fun z16 z17 z18=>bif not z18 then bif Bh ((List.length z17)+1) 8 then some ((z17++[z16]),()) else none else some (z17,())) v hb rest (pre++[y]) (out++[v]++[y]) (by rw [he]; simp) (by simp; omega) N (by omega)
   rw [hpl] at e
   simp only [x1,x2,x3,x4,cT,Bool.not_false,g,x5]
   rw [Bd (by omega)]
   refine e.trans ?_
   simp
  ·have x5:ltI v y=false:=by rw [← Bool.not_eq_true,Ah]; exact c
   rw [iN c]
   have e:=ih (pre++[y]) (out++[y]) (by rw [he]; simp) (by simp; omega) N (by omega)
   rw [hpl] at e
   simp only [x1,x2,x3,cT,Bool.not_false,g,x5,cF]
   rw [Bd (by omega)]
   refine e.trans ?_
   simp
theorem AbY(F:Nat)(hF:A4 F)(v:Int){l:List Int}(hb:l.length≤1000):P3 F l v=some (AfU v l,()):=by
 unfold P3
 exact Ase F hF v hb l [] [] rfl rfl F (by unfold A4 at hF; omega)
def sts(l:List Gr):List Int:=l.flatMap fun g=>g.2.2.1
def AuW(a b:Gr):Prop:=a.1 < b.1∨(a.1=b.1∧rc a.2.1 b.2.1 < 0)
def A4j(g:Gr):Prop:=I64 g.1∧ROk g.2.1∧RV g.2.1∧g.2.2.1≠[]∧g.2.2.1.Pairwise (· < ·)
theorem AjL:∀ l:List Gr,(sts l).length=tot l
 | []=>rfl
 | g::t=>by
  show(g.2.2.1++sts t).length=g.2.2.1.length+tot t
  rw [List.length_append,AjL t]
theorem AbZ(a b:List Gr):sts (a++b)=sts a++sts b:=by unfold sts; rw [List.flatMap_append]
theorem Ac0(g:Gr):sts [g]=g.2.2.1:=by unfold sts; simp
theorem Ac1:∀ {l:List Gr},(∀ g∈l,A4j g)→l.length≤tot l
 | [],_=>by simp [tot]
 | g::t,h=>by
  have h1:=Ac1 (l:=t) (fun x hx=>h x (List.mem_cons_of_mem _ hx))
  have h2:=(h g (by simp)).2.2.2.1
  have h3:g.2.2.1.length≠0:=fun h0=>h2 (List.length_eq_zero_iff.1 h0)
  simp only [tot,List.length_cons]
  omega
def GL(pre:List Pi)(l:List Gr)(c:Co):Prop :=
 ∃ d q i g,pre=d++[q]∧l=i++[g]∧g.1=q.2.2.1∧cvB c=true∧(c.1=false→Btw c.2.1 c.2.2.1 g.2.1∧q.2.2.2.1.1=false∧rc c.2.1 q.2.2.2.1.2.1≤0) ∧
  ∀ h∈i,h.1 < g.1∨(h.1=g.1∧c.1=false∧0 < rc c.2.1 h.2.1)
def GI(pre:List Pi)(l:List Gr)(c:Co):Prop :=
 COk c∧(sts l).Perm (pre.map fun p=>p.1)∧(∀ g∈l,A4j g)∧l.Pairwise AuW∧((pre=[]∧l=[])∨GL pre l c)
theorem AfV{p:Rt}:rc p p≤0:=by rw [AfN]; omega
theorem GI.new{pre:List Pi}{l:List Gr}{c:Co}{p:Pi}{s:Rt}(h:GI pre l c)(hp:Ady p)(hok:∀ q∈pre,Ady q)
  (hsrt:∀ q∈pre,Pre q p) (hs:ROk s) (hs2:RV s∧(p.2.2.2.1.1=false→Btw p.2.2.2.1.2.1 p.2.2.2.1.2.2.1 s))
  (hap:∀ d q,pre=d++[q]→q.2.2.1=p.2.2.1→As8 c p.2.2.2.1):GI (pre++[p]) (l++[(p.2.2.1,(s,([p.1],())))]) p.2.2.2.1:=by
 obtain ⟨h1,h2,h3,h4,h5⟩:=h
 have hord:∀ h∈l,h.1 < p.2.2.1∨(h.1=p.2.2.1∧p.2.2.2.1.1=false∧0 < rc p.2.2.2.1.2.1 h.2.1):=by
  intro h hh
  rcases h5 with ⟨_,e⟩ | ⟨d,q,i,g,e1,e2,e3,e4,e5,e6⟩
  ·rw [e] at hh; cases hh
  have hq:q∈pre:=by rw [e1]; simp
  have hqo:=hok q hq
  have hqp:=hsrt q hq
  have hho:=(h3 h hh).2.2.1
  rcases hqp with k | ⟨k,k2⟩
  ·left
   rw [e2] at hh
   rcases List.mem_append.1 hh with hh | hh
   ·rcases e6 h hh with e | e <;> omega
   ·rw [List.mem_singleton] at hh; subst hh; omega
  ·obtain ⟨a1,a2,a3⟩:=hap d q e1 k e4 hp.2.2.2.2
   obtain ⟨b1,b2,b3⟩:=e5 a1
   obtain ⟨v1,v2,v3⟩:=(Nw a1).1 e4
   have hle:rc q.2.2.2.1.2.1 p.2.2.2.1.2.1≤0:=by
    rcases k2 with k2 | ⟨_,k2⟩
    ·rw [b2] at k2; cases k2
    ·exact k2
   have hcp:rc c.2.1 p.2.2.2.1.2.1≤0:=Oz v1 (hqo.lo b2).1 (hp.lo a2).1 b3 hle
   rw [e2] at hh
   rcases List.mem_append.1 hh with hh | hh
   ·rcases e6 h hh with e | ⟨f1,f2,f3⟩
    ·left; omega
    ·right
     refine ⟨by omega,a2,?_⟩
     rcases Int.lt_or_le 0 (rc p.2.2.2.1.2.1 h.2.1) with k | k
     ·exact k
     ·have:=Oz v1 (hp.lo a2).1 hho hcp k
      omega
   ·rw [List.mem_singleton] at hh
    subst hh
    right
    refine ⟨by omega,a2,?_⟩
    have h0:=a3 hcp
    rcases Int.lt_or_le 0 (rc p.2.2.2.1.2.1 h.2.1) with k | k
    ·exact k
    ·have:=Oz (hp.lo a2).1 hho v2 k b1.2.2
     omega
 refine ⟨hp.2.2.2.1,?_,?_,?_,.inr ⟨pre,p,l,_,rfl,rfl,rfl,hp.2.2.2.2,fun h=>⟨hs2.2 h,h,AfV⟩,hord⟩⟩
 ·rw [AbZ,Ac0,List.map_append]
  exact List.Perm.append_right _ h2
 ·intro g hg
  rcases List.mem_append.1 hg with hg | hg
  ·exact h3 g hg
  ·rw [List.mem_singleton] at hg
   subst hg
   exact ⟨hp.2.2.1,hs,hs2.1,by simp,List.pairwise_singleton _ _⟩
 ·rw [List.pairwise_append]
  refine ⟨h4,List.pairwise_singleton _ _,fun a ha b hb=>?_⟩
  rw [List.mem_singleton] at hb
  subst hb
  rcases hord a ha with k | ⟨k1,k2,k3⟩
  ·exact Or.inl k
  ·refine Or.inr ⟨k1,?_⟩
   have hbt:=hs2.2 k2
   have h0:=(h3 a ha).2.2.1
   rcases Int.lt_or_le (rc a.2.1 s) 0 with k | k
   ·exact k
   ·have k4:rc s a.2.1≤0:=by
     rcases Int.lt_or_le 0 (rc s a.2.1) with k5 | k5
     ·rw [← AfO] at k5; omega
     ·exact k5
    have:=Oz (hp.lo k2).1 hbt.1 h0 hbt.2.1 k4
    omega
theorem GI.grow{pre d:List Pi}{q:Pi}{i:List Gr}{g:Gr}{c m:Co}{p:Pi}{s:Rt}(h:GI pre (i++[g]) c)(he:pre=d++[q])(hp:Ady p)(hok:∀ q∈pre,Ady q)
  (hsrt:∀ q∈pre,Pre q p) (hs:ROk s) (hs2:RV s∧(m.1=false→Btw m.2.1 m.2.2.1 s)) (hm:COk m) (hmet:Met c p.2.2.2.1 m) (hk:g.1=p.2.2.1) (hnew:p.1 ∉ pre.map fun p=>p.1) :
  GI (pre++[p]) (i++[(g.1,(s,(AfU p.1 g.2.2.1,())))]) m:=by
 obtain ⟨h1,h2,h3,h4,h5⟩:=h
 rcases h5 with ⟨_,e⟩ | ⟨d',q',i',g',e1,e2,e3,e4,e5,e6⟩
 ·simp at e
 have hq':q'=q:=by
  rw [he] at e1
  have:=List.append_inj_right' e1 rfl
  simp at this
  exact this.symm
 obtain ⟨hi,hg⟩:=List.append_inj' e2 rfl
 simp only [List.cons.injEq,and_true] at hg
 subst hq'; subst hi; subst hg
 have hq:q'∈pre:=by rw [he]; simp
 have hqo:=hok q' hq
 have hqp:=hsrt q' hq
 have hkq:q'.2.2.1=p.2.2.1:=by omega
 -- what the new cone keeps
 have hmf:m.1=false→p.2.2.2.1.1=false∧rc m.2.1 p.2.2.2.1.2.1≤0∧(c.1=false→rc c.2.1 m.2.1≤0):=by
  intro hm0
  rcases hmet.2 with ⟨k1,k2⟩ | ⟨k1,k2⟩ | ⟨k1,k2,k3,k4⟩
  ·subst k2
   refine ⟨hm0,AfV,fun h=>?_⟩
   rw [k1] at h; cases h
  ·subst k2
   obtain ⟨b1,b2,b3⟩:=e5 hm0
   exfalso
   rcases hqp with k | ⟨_,k | ⟨k,_⟩⟩
   ·omega
   ·rw [b2] at k; cases k
   ·rw [k1] at k; cases k
  ·obtain ⟨b1,b2,b3⟩:=e5 k1
   obtain ⟨v1,v2,v3⟩:=(Nw k1).1 e4
   have hle:rc q'.2.2.2.1.2.1 p.2.2.2.1.2.1≤0:=by
    rcases hqp with k | ⟨_,k | ⟨_,k⟩⟩
    ·omega
    ·rw [b2] at k; cases k
    ·exact k
   have hcp:rc c.2.1 p.2.2.2.1.2.1≤0:=Oz v1 (hqo.lo b2).1 (hp.lo k2).1 b3 hle
   refine ⟨k2,?_,fun _=>?_⟩
   ·rcases k4 with k4 | k4
    ·rw [k4]; exact hcp
    ·rw [k4]; exact AfV
   ·rcases k4 with k4 | k4
    ·rw [k4]; exact AfV
    ·rw [k4]; exact hcp
 have hmc:c.1=false→m.1=false:=by
  intro hc
  rcases hmet.2 with ⟨k1,k2⟩ | ⟨k1,k2⟩ | ⟨k1,k2,k3,k4⟩
  ·rw [k1] at hc; cases hc
  ·rw [k2]; exact hc
  ·exact k3
 have hord:∀ h∈i,h.1 < g.1∨(h.1=g.1∧m.1=false∧0 < rc m.2.1 h.2.1):=by
  intro h hh
  rcases e6 h hh with e | ⟨f1,f2,f3⟩
  ·exact .inl e
  ·have hm0:=hmc f2
   refine .inr ⟨f1,hm0,?_⟩
   have hle:=(hmf hm0).2.2 f2
   have hho:=(h3 h (by simp [hh])).2.2.1
   rcases Int.lt_or_le 0 (rc m.2.1 h.2.1) with k | k
   ·exact k
   ·have:=Oz ((Nw f2).1 e4).1 ((Nw hm0).1 hmet.1).1 hho hle k
    omega
 have hgm:∀ x∈g.2.2.1,x∈pre.map fun p=>p.1:=by
  intro x hx
  refine h2.mem_iff.1 ?_
  rw [AbZ,Ac0]
  exact List.mem_append_right _ hx
 refine ⟨hm,?_,?_,?_,.inr ⟨pre,p,i,_,rfl,rfl,hk,hmet.1,fun h=>⟨hs2.2 h,(hmf h).1,(hmf h).2.1⟩,hord⟩⟩
 ·rw [AbZ,Ac0] at h2
  rw [AbZ,Ac0,List.map_append]
  have k1:(sts i++AfU p.1 g.2.2.1).Perm (sts i++(p.1::g.2.2.1)):=List.Perm.append_left _ (Xn _ _)
  have k2:(sts i++(p.1::g.2.2.1)).Perm (p.1::(sts i++g.2.2.1)):=List.perm_middle
  have k3:(p.1::(sts i++g.2.2.1)).Perm (p.1::pre.map fun p=>p.1):=h2.cons _
  refine k1.trans (k2.trans (k3.trans ?_))
  exact(List.perm_append_comm (l₁:=[p.1]) (l₂:=pre.map fun p=>p.1))
 ·intro x hx
  rcases List.mem_append.1 hx with hx | hx
  ·exact h3 x (List.mem_append_left _ hx)
  ·rw [List.mem_singleton] at hx
   subst hx
   have hg:=h3 g (by simp)
   refine ⟨hg.1,hs,hs2.1,?_,AmG hg.2.2.2.2 (fun h=>hnew (hgm _ h))⟩
   intro h0
   have:=(Xn p.1 g.2.2.1).length_eq
   have h0:AfU p.1 g.2.2.1=[]:=h0
   rw [h0] at this
   simp at this
 ·rw [List.pairwise_append] at h4 ⊢
  refine ⟨h4.1,List.pairwise_singleton _ _,fun a ha b hb=>?_⟩
  rw [List.mem_singleton] at hb
  subst hb
  rcases hord a ha with k | ⟨k1,k2,k3⟩
  ·exact Or.inl k
  ·refine Or.inr ⟨k1,?_⟩
   have hbt:=hs2.2 k2
   have h0:=(h3 a (by simp [ha])).2.2.1
   rcases Int.lt_or_le (rc a.2.1 s) 0 with k | k
   ·exact k
   ·have k4:rc s a.2.1≤0:=by
     rcases Int.lt_or_le 0 (rc s a.2.1) with k5 | k5
     ·rw [← AfO] at k5; omega
     ·exact k5
    have:=Oz ((Nw k2).1 hmet.1).1 hbt.1 h0 hbt.2.1 k4
    omega
theorem AjN(F:Nat)(hF:A4 F){src:List Pi}(hb:src.length≤1000)(hok:∀ p∈src,Ady p)(hsrt:src.Pairwise Pre)(hnd:(src.map fun p=>p.1).Nodup):∀ (rest pre:List Pi) (l:List Gr) (c:Co),src=pre++rest→GI pre l c→∀ N,rest.length < N →
  ∃ l' c',GI src l' c'∧∀ (R:Type) (k8:List Gr→Option R),Bx F k8 N src l c (pre.length:Int)=k8 l':=by
 intro rest
 induction rest with
 | nil =>
  intro pre l c he hg N hN
  obtain ⟨N,rfl⟩:∃ M,N=M+1:=⟨N - 1,by omega⟩
  have hp:src=pre:=by rw [he]; simp
  refine ⟨l,c,by rw [hp]; exact hg,fun R k8=>?_⟩
  have x1:ltI (pre.length:Int) (Au src)=false:=by rw [← Bool.not_eq_true,Ah]; unfold Au; rw [hp]; omega
  unfold Bx
  rw [x1,cF]
 | cons p rest ih =>
  intro pre l c he hg N hN
  obtain ⟨N,rfl⟩:∃ M,N=M+1:=⟨N - 1,by omega⟩
  simp only [List.length_cons] at hN
  have hlen:src.length=pre.length+1+rest.length:=by rw [he]; simp; omega
  have g:Ak zP src (pre.length:Int)=p:=by rw [he]; exact Uv zP pre p rest
  have hp:=hok p (by rw [he]; simp)
  have hpre:∀ q∈pre,Ady q:=fun q hq=>hok q (by rw [he]; simp [hq])
  have hps:∀ q∈pre,Pre q p:=fun q hq=>by
   rw [he] at hsrt
   exact(List.pairwise_append.1 hsrt).2.2 q hq p (by simp)
  have hnew:p.1 ∉ pre.map fun p=>p.1:=by
   rw [he,List.map_append] at hnd
   intro h
   exact(List.nodup_append.1 hnd).2.2 p.1 h p.1 (by simp) rfl
  have hpl:(((pre++[p]).length:Nat):Int)=(pre.length:Int)+1:=by simp
  have hll:l.length≤pre.length:=by
   have h1:=Ac1 hg.2.2.1
   have h2:=hg.2.1.length_eq
   rw [AjL,List.length_map] at h2
   omega
  obtain ⟨m,ok,e1,hm,hm1,hm2⟩:=Xl F hF hg.1 hp.2.2.2.1
  obtain ⟨s,e2,s1,s2⟩:=Uc F hF hp.2.2.2.1
  have x1:ltI (pre.length:Int) (Au src)=true:=by rw [Ah]; unfold Au; omega
  have x2:inI (pre.length:Int) src.length=true:=by rw [Bo]; omega
  have x3:Bh (l.length+1) 112=true:=by rw [Cn]; omega
  -- a new group
  have new:(∀ d q,pre=d++[q]→q.2.2.1=p.2.2.1→As8 c p.2.2.2.1)→∃ l' c',GI src l' c'∧∀ (R:Type) (k8:List Gr→Option R),
    Ib F (fun z68 z69 z70 z71=>Bx F k8 N z68 z69 z70 (As .i64 z71 1)) src l c (pre.length:Int)=k8 l':=by
   intro hap
   have hgi:=hg.new hp hpre hps s1 (s2 hp.2.2.2.2) hap
   obtain ⟨l',c',r1,r2⟩:=ih (pre++[p]) _ _ (by rw [he]; simp) hgi N (by omega)
   refine ⟨l',c',r1,fun R k8=>?_⟩
   have e:=r2 R k8
   rw [hpl] at e
   unfold Ib
   simp only [x2,cT,g,e2,bS,x3]
   rw [Bd (by omega)]
   exact e
  by_cases h0:pre=[]
  ·have x4:ltI 0 (pre.length:Int)=false:=by rw [← Bool.not_eq_true,Ah,h0]; simp
   obtain ⟨l',c',r1,r2⟩:=new (fun d q h=>by rw [h0] at h; simp at h)
   refine ⟨l',c',r1,fun R k8=>?_⟩
   unfold Bx
   simp only [x1,x2,cT,g,e1,bS,x4,cF]
   unfold E8
   rw [cF]
   exact r2 R k8
  have x4:ltI 0 (pre.length:Int)=true:=by
   rw [Ah]
   have:pre.length≠0:=fun h=>h0 (List.length_eq_zero_iff.1 h)
   omega
  cases ok with
  | false =>
   obtain ⟨l',c',r1,r2⟩:=new (fun d q _ _=>hm2 rfl)
   refine ⟨l',c',r1,fun R k8=>?_⟩
   unfold Bx
   simp only [x1,x2,cT,g,e1,bS,x4,cF]
   unfold E8
   rw [cF]
   exact r2 R k8
  | true =>
   have hmet:=hm1 rfl
   obtain ⟨d,q,i,gr,q1,q2,q3,q4,q5,q6⟩:GL pre l c:=by
    rcases hg.2.2.2.2 with ⟨k,_⟩ | k
    ·exact absurd k h0
    ·exact k
   subst q2
   have hil:((i++[gr]).length:Int)=(i.length:Int)+1:=by simp
   have hll':i.length+1≤pre.length:=by rw [List.length_append,List.length_singleton] at hll; exact hll
   have y1:Bl .i64 (Au (i++[gr])) 1=(i.length:Int):=by unfold Au; rw [hil,Sf (by omega)]; omega
   have y2:inI (i.length:Int) (i++[gr]).length=true:=by rw [Bo,hil]; omega
   have y3:Ak zG (i++[gr]) (i.length:Int)=gr:=Uv zG i gr []
   by_cases hk:gr.1=p.2.2.1
   ·have y4:eqI gr.1 p.2.2.1=true:=Ao.2 hk
    obtain ⟨s',e3,t1,t2⟩:=Uc F hF hm
    have hgi:=hg.grow q1 hp hpre hps t1 (t2 hmet.1) hm hmet hk hnew
    obtain ⟨l',c',r1,r2⟩:=ih (pre++[p]) _ _ (by rw [he]; simp) hgi N (by omega)
    refine ⟨l',c',r1,fun R k8=>?_⟩
    have e:=r2 R k8
    rw [hpl] at e
    have hgl:gr.2.2.1.length≤1000:=by
     have h2:=hg.2.1.length_eq
     rw [AbZ,Ac0,List.length_append,List.length_map] at h2
     omega
    have e4:=AbY F hF p.1 hgl
    have z1:B6 (i++[gr]) (i.length:Int) (gr.1,(gr.2.1,(AfU p.1 gr.2.2.1,gr.2.2.2)))=i++[(gr.1,(gr.2.1,(AfU p.1 gr.2.2.1,())))]:=Aah i gr _ []
    have z2:inI (i.length:Int) (i++[(gr.1,(gr.2.1,(AfU p.1 gr.2.2.1,())))]).length=true:=by rw [Bo]; simp; omega
    have z3:Ak zG (i++[(gr.1,(gr.2.1,(AfU p.1 gr.2.2.1,())))]) (i.length:Int)=(gr.1,(gr.2.1,(AfU p.1 gr.2.2.1,()))):=Uv zG i _ []
    have z4:B6 (i++[(gr.1,(gr.2.1,(AfU p.1 gr.2.2.1,())))]) (i.length:Int) (gr.1,(s',(AfU p.1 gr.2.2.1,())))=i++[(gr.1,(s',(AfU p.1 gr.2.2.1,())))]:=Aah i _ _ []
    unfold Bx
    simp only [x1,x2,cT,g,e1,bS,x4,y1,y2,y3,y4]
    unfold E8
    simp only [x2,cT,g,bS,y2,y3,e4,z1,e3,z2,z3,z4]
    rw [Bd (by omega)]
    exact e
   ·have y4:eqI gr.1 p.2.2.1=false:=by rw [← Bool.not_eq_true,Ao]; exact hk
    obtain ⟨l',c',r1,r2⟩:=new (fun d' q' h1 h2=>by
     exfalso
     rw [q1] at h1
     have:=List.append_inj_right' h1 rfl
     simp at this
     rw [← this] at h2
     omega)
    refine ⟨l',c',r1,fun R k8=>?_⟩
    unfold Bx
    simp only [x1,x2,cT,g,e1,bS,x4,y1,y2,y3,y4]
    unfold E8
    rw [cF]
    exact r2 R k8
structure LG (l:List Gr) (n:Int):Prop where
 ok:∀ g∈l,A4j g
 srt:l.Pairwise AuW
 rng:∀ x∈sts l,0≤x∧x < n
 nd:(sts l).Nodup
 z:0∈sts l
 n1:1≤n∧n≤30
 len:(tot l:Int)≤n
theorem AfW(F:Nat)(hF:A4 F){ps:List Pi}{n:Nat}(h:PA ps (n:Int))(hn:n≤30)(h1:1≤n):∃ l,Up F ps=some (l,0,())∧LG l n:=by
 obtain ⟨a1,a2,a3,a4⟩:=h
 have hok:∀ p∈ps,Ady p:=fun p hp=>by
  obtain ⟨b1,b2,b3,b4,b5⟩:=a2 p hp
  exact ⟨b1,by omega,b3,b4,b5⟩
 obtain ⟨s,q1,q2,q3⟩:=Asb F hF ps [] List.Pairwise.nil (by simpa using hok) (by simp; omega) F (by unfold A4 at hF; omega)
 rw [List.nil_append] at q2
 have hsl:=q2.length_eq
 have hsok:∀ p∈s,Ady p:=fun p hp=>hok p (q2.mem_iff.1 hp)
 have hmp:(s.map fun p=>p.1).Perm (ps.map fun p=>p.1):=q2.map _
 have hnd:(s.map fun p=>p.1).Nodup:=by
  rw [hmp.nodup_iff]
  unfold List.Nodup
  rw [List.pairwise_map]
  exact a3.imp (fun h=>by omega)
 have hgi:GI [] [] nC:=⟨⟨Tc,Tc⟩,List.Perm.refl _,(fun g hg=>by cases hg),List.Pairwise.nil,.inl ⟨rfl,rfl⟩⟩
 obtain ⟨l,c,r1,r2⟩:=AjN F hF (src:=s) (by omega) hsok q1 hnd s [] [] nC rfl hgi F (by unfold A4 at hF; omega)
 obtain ⟨c1,c2,c3,c4,_⟩:=r1
 have hperm:(sts l).Perm (ps.map fun p=>p.1):=c2.trans hmp
 have hr:Bh (0+ps.length) 192=true:=by rw [Cn]; omega
 refine ⟨l,?_,c3,c4,?_,?_,?_,by omega,?_⟩
 ·unfold Up
  refine(AjK F hF _ _ (src:=ps) (by omega) hok a3 ps [] rfl F (by unfold A4 at hF; omega)).trans ?_
  simp only [hr,cT]
  refine(q3 _ _).trans ?_
  exact r2 _ _
 ·intro x hx
  obtain ⟨p,hp,rfl⟩:=List.mem_map.1 (hperm.mem_iff.1 hx)
  obtain ⟨b1,b2,_⟩:=a2 p hp
  exact ⟨b1,b2⟩
 ·rw [c2.nodup_iff]; exact hnd
 ·obtain ⟨p,hp,h0⟩:=a4 (by omega)
  exact hperm.mem_iff.2 (List.mem_map.2 ⟨p,hp,h0⟩)
 ·have:=hperm.length_eq
  rw [AjL,List.length_map] at this
  omega
theorem Td(F:Nat)(hF:A4 F){t:List Int×Int×Unit}(h:Eh t):∃ t' v,Hq F t=some (t',v,())∧Eh t'∧Zy v:=by
 obtain ⟨t1,k,e1,h1,k0,k1⟩:=Am F h (n:=8) (by omega)
 unfold Hq
 rw [e1]
 simp only [bS]
 cases eqI k 0 with
 | true=>exact ⟨t1,0,rfl,h1,by unfold Zy; omega⟩
 | false =>
  simp only [cF]
  cases eqI k 1 with
  | true =>
   obtain ⟨t2,v,e2,h2,v0,v1⟩:=Am F h1 (n:=2) (by omega)
   rw [cT,e2]
   have e5:Bl .i64 4611686018427387904 v=4611686018427387904 - v:=Sf (by omega)
   exact ⟨t2,_,rfl,h2,by show Zy (Bl .i64 4611686018427387904 v); rw [e5]; unfold Zy; omega⟩
  | false =>
   simp only [cF]
   cases eqI k 2 with
   | true =>
    obtain ⟨t2,w,e2,h2,w0,w1⟩:=Hg F hF h1
    obtain ⟨t3,v,e3,h3,v0,v1⟩:=Am F h2 (n:=60) (by omega)
    have e4:As .i64 2 v=2+v:=Bd (by omega)
    have e5:IntKind.u64.wrap (2+v)=2+v:=Bk (by omega)
    have e6:ltI (2+v) 0=false:=by rw [← Bool.not_eq_true,Ah]; omega
    rw [cT,e2]
    simp only [bS,e3,e4,e5,e6,cF]
    refine ⟨t3,_,rfl,h3,?_⟩
    have hs:0≤D6 .u64 w (2+v)∧D6 .u64 w (2+v)≤4611686018427387904:=by
     have hm:∃ m:Nat,2≤m∧D6 .u64 w (2+v)=((w.toNat / 2 ^ m:Nat):Int):=by
      rw [Ho w0]
      refine ⟨min (2+v).toNat 64,by omega,?_⟩
      simp only [IntKind.bits]
     obtain ⟨m,hm1,hm2⟩:=hm
     rw [hm2]
     have h4:w.toNat / 2 ^ m≤w.toNat / 4:=Nat.div_le_div_left (by have:=Nat.pow_le_pow_right (n:=2) (by omega) hm1; omega) (by omega)
     generalize w.toNat / 2 ^ m=u at *
     omega
    rw [Cv (by omega)]
    exact hs
   | false =>
    obtain ⟨t2,v,e2,h2,v0,v1⟩:=Am F h1 (n:=30) (by omega)
    rw [cF,e2]
    exact ⟨t2,v,rfl,h2,by unfold Zy; omega⟩
theorem Yn(F:Nat)(hF:A4 F){t:List Int×Int×Unit}(h:Eh t){n:Int}(hn:1≤n∧n≤100) :
  ∃ t' l,Nm F t n=some (t',l,())∧Eh t'∧Zs l∧1≤l.length∧(l.length:Int)≤n∧V1 (l.map fun s=>s.1)=true:=by
 obtain ⟨t1,l,e1,h1,h2,h3,h4⟩:=T8 F hF h (n:=n) (by omega)
 unfold Nm
 rw [e1]
 simp only [bS]
 by_cases k:l.length=0
 ·have x1:eqI (Au l) 0=true:=by rw [Ao]; unfold Au; omega
  obtain ⟨t2,a,e2,g2,ha⟩:=H8 F hF h1
  obtain ⟨t3,b,e3,g3,hb⟩:=H8 F hF g2
  simp only [x1,cT,e2,e3,bS]
  exact ⟨t3,_,rfl,g3,(fun s hs=>by rw [List.mem_singleton] at hs; subst hs; exact ⟨ha,hb⟩),by simp,by simp; omega,rfl⟩
 ·have x1:eqI (Au l) 0=false:=by rw [← Bool.not_eq_true,Ao]; unfold Au; omega
  rw [x1,cF]
  exact ⟨t1,l,rfl,h1,h2,by omega,h3,h4⟩
theorem AfX(F:Nat)(hF:A4 F){t:List Int×Int×Unit}(h:Eh t):∃ t' l n,O2 F t=some (t',l,n,())∧Eh t'∧LG l n:=by
 obtain ⟨t1,sm,e1,h1,h2,h3,h4,h5⟩:=Yn F hF h (n:=30) (by omega)
 obtain ⟨t2,tol,e2,g1,g2⟩:=Td F hF h1
 obtain ⟨ps,e3,k1⟩:=Aio F hF h2 h5 (by omega) (fun h0=>by rw [h0] at h3; simp at h3) g2
 obtain ⟨l,e4,k2⟩:=AfW F hF k1 (by omega) (by omega)
 refine ⟨t2,l,(sm.length:Int),?_,g1,k2⟩
 unfold O2
 simp only [e1,e2,e3,e4,bS]
 rfl
theorem AuX{l:List Bool}{s y:Int}(hs:0≤s∧s < l.length)(hy:0≤y):Ak false (B6 l s true) y=if y=s then true else Ak false l y:=by
 unfold Ak B6
 rw [List.getD_eq_getElem?_getD,List.getD_eq_getElem?_getD,List.getElem?_set]
 by_cases c:y=s
 ·subst c
  rw [iP rfl,iP rfl,iP (by omega)]
  rfl
 ·rw [iN c,iN (by omega)]
theorem Asf:∀ {t:List Int} {seen:List Bool} {p:Int},seen.length=4096→t.Pairwise (· < ·)→(∀ x∈t,p < x∧0≤x∧x < 4096∧Ak false seen x=false) →
  ∃ s,okS seen p t=some s∧s.length=4096∧∀ y,0≤y→y ∉ t→Ak false s y=Ak false seen y
 | [],seen,p,hl,_,_=>⟨seen,rfl,hl,fun y _ _=>rfl⟩
 | x::t,seen,p,hl,hp,h=>by
  obtain ⟨h1,h2⟩:=List.pairwise_cons.1 hp
  obtain ⟨a1,a2,a3,a4⟩:=h x (by simp)
  have hg:∀ y,0≤y→Ak false (B6 seen x true) y=if y=x then true else Ak false seen y:=fun y hy=>AuX (by omega) hy
  obtain ⟨s,e,e2,e3⟩:=Asf (t:=t) (seen:=B6 seen x true) (p:=x) (by rw [I2]; exact hl) h2 (fun y hy=>by
   obtain ⟨b1,b2,b3,b4⟩:=h y (List.mem_cons_of_mem _ hy)
   have:=h1 y hy
   exact ⟨this,b2,b3,by rw [hg y b2,iN (by omega)]; exact b4⟩)
  refine ⟨s,?_,e2,fun y hy hny=>?_⟩
  ·rw [okS,iP ⟨a2,a3,a4,a1⟩]
   exact e
  ·simp only [List.mem_cons,not_or] at hny
   rw [e3 y hy hny.2,hg y hy,iN hny.1]
theorem Asg:∀ {l:List Gr} {seen:List Bool} {p:Option Gr},seen.length=4096→(∀ g∈l,A4j g)→l.Pairwise AuW→(∀ q,p=some q→∀ g∈l,AuW q g)→(∀ x∈sts l,0≤x∧x < 4096∧Ak false seen x=false)→(sts l).Nodup→okG seen p l=true
 | [],_,_,_,_,_,_,_,_=>rfl
 | g::t,seen,p,hl,hok,hs,hp,hx,hnd=>by
  obtain ⟨g1,g2,g3,g4,g5⟩:=hok g (by simp)
  obtain ⟨s1,s2⟩:=List.pairwise_cons.1 hs
  have hst:sts (g::t)=g.2.2.1++sts t:=rfl
  rw [hst] at hx hnd
  obtain ⟨n1,n2,n3⟩:=List.nodup_append.1 hnd
  obtain ⟨s,e1,e2,e3⟩:=Asf (t:=g.2.2.1) (p:=-1) hl g5 (fun x h=>by
   obtain ⟨a1,a2,a3⟩:=hx x (List.mem_append_left _ h)
   exact ⟨by omega,a1,a2,a3⟩)
  have ih:=Asg (l:=t) (seen:=s) (p:=some g) e2 (fun x h=>hok x (List.mem_cons_of_mem _ h)) s2 (fun q hq x h=>by cases hq; exact s1 x h) (fun x h=>by
   obtain ⟨a1,a2,a3⟩:=hx x (List.mem_append_right _ h)
   refine ⟨a1,a2,?_⟩
   rw [e3 x a1 (fun h2=>n3 x h2 x h rfl)]
   exact a3) n2
  have hie:g.2.2.1.isEmpty=false:=by
   cases h:g.2.2.1 with
   | nil=>exact absurd h g4
   | cons a b=>rfl
  unfold okG
  rw [decide_eq_true g3,hie,e1]
  cases p with
  | none=>simpa using ih
  | some q =>
   have hq:=hp q rfl g (by simp)
   have hlt:AbS q g=true:=by
    unfold AbS
    rcases hq with h | ⟨h1,h2⟩
    ·rw [decide_eq_true h]; rfl
    ·rw [decide_eq_true h1,decide_eq_true h2]; simp
   simp only [hlt,Bool.true_and,Bool.not_false]
   exact ih
theorem LG.gok{l:List Gr}{n:Int}(h:LG l n):GOk l:=fun g hg=>by
 obtain ⟨g1,g2,g3,g4,g5⟩:=h.ok g hg
 have hm:∀ x∈g.2.2.1,0≤x∧x < n:=fun x hx=>h.rng x (by unfold sts; exact List.mem_flatMap.2 ⟨g,hg,hx⟩)
 have h1:=AbU hg
 have h2:=h.len
 have h3:=h.n1
 exact ⟨g1,g2,fun x hx=>by have:=hm x hx; unfold I64; omega,by omega⟩
theorem A09(n:Nat)(y:Int):Ak false (List.replicate n false) y=false:=by
 unfold Ak
 rw [List.getD_eq_getElem?_getD,List.getElem?_replicate]
 split <;> rfl
theorem LG.gv{l:List Gr}{n:Int}(h:LG l n):gvE l=0:=by
 have h1:=Ac1 h.ok
 have h2:=h.len
 have h3:=h.n1
 have ho:okG (List.replicate 4096 false) none l=true:=by
  refine Asg (List.length_replicate ..) h.ok h.srt (fun q hq=>by cases hq) (fun x hx=>?_) h.nd
  have:=h.rng x hx
  exact ⟨by omega,by omega,A09 _ _⟩
 unfold gvE
 rw [iN (by omega),iN (by omega),iP ho]
theorem LG.hz{l:List Gr}{n:Int}(h:LG l n):hz l=true:=by
 obtain ⟨g,hg,h0⟩:=List.mem_flatMap.1 h.z
 unfold Go.Proofs.YtdhfajmcakneiaaGreat.hz
 rw [List.any_eq_true]
 refine ⟨g,hg,?_⟩
 obtain ⟨_,_,_,_,g5⟩:=h.ok g hg
 have hm:∀ x∈g.2.2.1,0≤x:=fun x hx=>(h.rng x (List.mem_flatMap.2 ⟨g,hg,hx⟩)).1
 cases hs:g.2.2.1 with
 | nil=>rw [hs] at h0; cases h0
 | cons s t =>
  rw [hs] at h0 g5 hm
  show eqI s 0=true
  rw [Ao]
  rcases List.mem_cons.1 h0 with h0 | h0
  ·exact h0.symm
  ·have:=(List.pairwise_cons.1 g5).1 0 h0
   have:=hm s (by simp)
   omega
end Go.Proofs.YtdhfajmcakneiaaGreat
