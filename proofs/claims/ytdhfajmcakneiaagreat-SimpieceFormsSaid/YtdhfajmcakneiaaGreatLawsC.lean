/- The laws of the models, part C. -/
import Derived.Test.YtdhfajmcakneiaaGreatLawsB
set_option linter.unusedVariables false
set_option linter.unusedSimpArgs false
namespace Go.Proofs.YtdhfajmcakneiaaGreat
open Go.Eng
abbrev Gr:=Int×(Rt×(List Int×Unit))
abbrev zG:Gr:=(0,(zR,([],())))
def GOk(l:List Gr):Prop:=∀ g∈l,I64 g.1∧ROk g.2.1∧Sg g.2.2.1∧(g.2.2.1.length:Int)≤140737488355328
theorem A3e(d:List Gr)(x:Gr)(t:List Gr):B1 zG (d++x::t) (d.length:Int)=x:=by
 simp [B1,List.getD_eq_getElem?_getD]
theorem B7b(d:List Gr)(x:Gr)(t:List Gr):B1 zG ((d++[x])++t) (d.length:Int)=x:=by
 rw [List.append_assoc]; exact A3e d x t
theorem A7C(d:List Int)(x:Int)(t:List Int):B1 0 ((d++[x])++t) (d.length:Int)=x:=by
 rw [List.append_assoc]; exact L1 d x t
def tot:List Gr→Nat
 | []=>0
 | g::t=>g.2.2.1.length+tot t
theorem D2e:∀ {l:List Gr},GOk l→(tot l:Int)≤140737488355328*l.length
 | [],_=>by simp [tot]
 | g::t,h=>by
  have h1:=D2e (l:=t) (fun x hx=>h x (List.mem_cons_of_mem _ hx))
  have h2:=(h g (by simp)).2.2.2
  simp only [tot,List.length_cons]
  push_cast
  omega
theorem B8A(F:Nat){R:Type}(k:Int→Option R){src:List Gr}(hs:GOk src)(hb:src.length≤4096):∀ (rest pre:List Gr),src=pre++rest→∀ N,rest.length < N →
  P6 F k N (tot pre:Int) src (src.length:Int) (pre.length:Int)=k (tot src:Int):=by
 intro rest
 induction rest with
 | nil =>
  intro pre he N hN
  obtain ⟨N,rfl⟩:∃ M,N=M+1:=⟨N - 1,by omega⟩
  have hlen:src.length=pre.length:=by rw [he]; simp
  have hp:src=pre:=by rw [he]; simp
  unfold P6
  simp (disch:=omega) only [bs,↓iP,↓iN]
  rw [hp]
 | cons x rest ih =>
  intro pre he N hN
  obtain ⟨N,rfl⟩:∃ M,N=M+1:=⟨N - 1,by omega⟩
  simp only [List.length_cons] at hN
  have hlen:src.length=pre.length+1+rest.length:=by rw [he]; simp; omega
  have g:B1 zG src (pre.length:Int)=x:=by rw [he]; exact A3e pre x rest
  have e:=ih (pre++[x]) (by rw [he]; simp) N (by omega)
  have hpl:(((pre++[x]).length:Nat):Int)=(pre.length:Int)+1:=by simp
  have htp:∀ a:List Gr,tot (a++[x])=tot a+x.2.2.1.length:=by
   intro a
   induction a with
   | nil=>simp [tot]
   | cons y a iha=>simp only [List.cons_append,tot,iha]; omega
  rw [hpl,htp] at e
  have b1:=D2e (l:=pre) (fun y hy=>hs y (by rw [he]; simp [hy]))
  have b2:=(hs x (by rw [he]; simp)).2.2.2
  push_cast at e
  unfold P6
  simp (disch:=omega) only [bs,↓iP,↓iN,g]
  exact e
theorem A7D(F:Nat)(hF:D9 F){l:List Gr}(h:GOk l)(hb:l.length≤4096):A0q F l=some ((tot l:Int),()):=by
 unfold A0q
 exact B8A F _ h hb l [] rfl F (by unfold D9 at hF; omega)
def okS:List Bool→Int→List Int→Option (List Bool)
 | seen,_,[]=>some seen
 | seen,p,s::t=>if 0≤s∧s < 4096∧B1 false seen s=false∧p < s then okS (F1 seen s true) s t else none
def B0S(p:Int)(pre:List Int):Prop:=(pre=[]∧p=-1)∨∃ d,pre=d++[p]
theorem B0S.push(pre:List Int)(s:Int):B0S s (pre++[s]):=.inr ⟨pre,rfl⟩
theorem B7c(F:Nat){R:Type}(k2:List Gr→List Bool→List Gr→Int→Int→Option R)(kr:Int→Option R)(x0 x16:List Gr)(x17 x18:Int){g:Gr}(hb:(g.2.2.1.length:Int)≤140737488355328):∀ (rest pre:List Int) (seen:List Bool) (p:Int),g.2.2.1=pre++rest→B0S p pre→∀ N,rest.length < N →
  L0 F k2 kr N x0 seen g x16 x17 x18 g.2.2.1 (g.2.2.1.length:Int) (pre.length:Int)=match okS seen p rest with | some s=>k2 x0 s x16 x17 x18 | none=>kr 1:=by
 intro rest
 induction rest with
 | nil =>
  intro pre seen p he hp N hN
  obtain ⟨N,rfl⟩:∃ M,N=M+1:=⟨N - 1,by omega⟩
  have hlen:g.2.2.1.length=pre.length:=by rw [he]; simp
  unfold L0 okS
  simp (disch:=omega) only [bs,↓iP,↓iN]
 | cons s rest ih =>
  intro pre seen p he hp N hN
  obtain ⟨N,rfl⟩:∃ M,N=M+1:=⟨N - 1,by omega⟩
  simp only [List.length_cons] at hN
  have hlen:g.2.2.1.length=pre.length+1+rest.length:=by rw [he]; simp; omega
  have hg:B1 0 g.2.2.1 (pre.length:Int)=s:=by rw [he]; exact L1 pre s rest
  have hpl:(((pre++[s]).length:Nat):Int)=(pre.length:Int)+1:=by simp
  unfold L0
  by_cases c1:s < 0
  ·rw [okS,iN (by omega)]
   simp (disch:=omega) only [bs,↓iP,↓iN,hg]
  by_cases c2:4096≤s
  ·rw [okS,iN (by omega)]
   simp (disch:=omega) only [bs,↓iP,↓iN,hg]
  by_cases c3:B1 false seen s=true
  ·rw [okS,iN (by rw [c3]; simp)]
   simp (disch:=omega) only [bs,↓iP,↓iN,hg,c3]
  rw [Bool.not_eq_true] at c3
  rcases hp with ⟨hp,rfl⟩ | ⟨d,hp⟩
  ·have e:=ih (pre++[s]) (F1 seen s true) s (by rw [he]; simp) (B0S.push pre s) N (by omega)
   rw [hpl] at e
   rw [okS,iP ⟨by omega,by omega,c3,by omega⟩]
   have h0:pre.length=0:=by rw [hp]; rfl
   simp (disch:=omega) only [bs,↓iP,↓iN,hg,c3]
   exact e
  ·have hd:(pre.length:Int)=(d.length:Int)+1:=by rw [hp]; simp
   have hl:B1 0 g.2.2.1 ((pre.length:Int) - 1)=p:=by
    rw [hd,show(d.length:Int)+1 - 1=(d.length:Int) by omega,he,hp]
    exact A7C d p (s::rest)
   by_cases c4:p < s
   ·have e:=ih (pre++[s]) (F1 seen s true) s (by rw [he]; simp) (B0S.push pre s) N (by omega)
    rw [hpl] at e
    rw [okS,iP ⟨by omega,by omega,c3,c4⟩]
    simp (disch:=omega) only [bs,↓iP,↓iN,hg,c3,hl]
    exact e
   ·rw [okS,iN (by omega)]
    simp (disch:=omega) only [bs,↓iP,↓iN,hg,c3,hl]
def B0T(a b:Gr):Bool:=decide (a.1 < b.1) || (decide (a.1=b.1) && decide (rc a.2.1 b.2.1 < 0))
def okG:List Bool→Option Gr→List Gr→Bool
 | _,_,[]=>true
 | seen,p,g::t=>decide (RV g.2.1) && (!g.2.2.1.isEmpty && ((match p with | none=>true | some q=>B0T q g) && (match okS seen (-1) g.2.2.1 with | some s=>okG s (some g) t | none=>false)))
theorem A6N(F:Nat)(hF:D9 F){a b:Gr}(ha:ROk a.2.1)(hb:ROk b.2.1)(va:RV a.2.1)(vb:RV b.2.1):∃ r,A19 F a b=some (r,())∧(0≤r↔B0T a b=false):=by
 unfold A19
 rw [C7j,A8K F hF ha hb va vb]
 simp only [bS,E0d F hF]
 refine ⟨_,rfl,?_⟩
 unfold B0T
 generalize rc a.2.1 b.2.1=r
 unfold D0q
 simp only [Bool.or_eq_false_iff,Bool.and_eq_false_iff,decide_eq_false_iff_not]
 split <;> (try split) <;> (try split) <;> omega
def D2f(p:Option Gr)(pre:List Gr):Prop:=(pre=[]∧p=none)∨∃ d q,pre=d++[q]∧p=some q∧RV q.2.1
theorem B7d(F:Nat)(hF:D9 F){R:Type}(k0:Option R)(kr:Int→Option R){src:List Gr}(hs:GOk src)(hb:src.length≤4096):∀ (rest pre:List Gr) (seen:List Bool) (p:Option Gr),src=pre++rest→D2f p pre→∀ N,rest.length < N →
  H4 F k0 kr N src seen src (src.length:Int) (pre.length:Int)=bif okG seen p rest then k0 else kr 1:=by
 intro rest
 induction rest with
 | nil =>
  intro pre seen p he hp N hN
  obtain ⟨N,rfl⟩:∃ M,N=M+1:=⟨N - 1,by omega⟩
  have hlen:src.length=pre.length:=by rw [he]; simp
  unfold H4 okG
  simp (disch:=omega) only [bs,↓iP,↓iN]
 | cons x rest ih =>
  intro pre seen p he hp N hN
  obtain ⟨N,rfl⟩:∃ M,N=M+1:=⟨N - 1,by omega⟩
  simp only [List.length_cons] at hN
  have hlen:src.length=pre.length+1+rest.length:=by rw [he]; simp; omega
  have g:B1 zG src (pre.length:Int)=x:=by rw [he]; exact A3e pre x rest
  obtain ⟨x1,x2,x3,x4⟩:=hs x (by rw [he]; simp)
  have ev:=A45 F hF x2
  have hpl:(((pre++[x]).length:Nat):Int)=(pre.length:Int)+1:=by simp
  unfold H4 okG
  by_cases hv:RV x.2.1
  rotate_left
  ·have dv:decide (RV x.2.1)=false:=decide_eq_false hv
   rw [dv,Bool.false_and,cF]
   simp (disch:=omega) only [bs,↓iP,↓iN,g,ev,dv]
  have dv:decide (RV x.2.1)=true:=decide_eq_true hv
  by_cases hne:x.2.2.1=[]
  ·have hie:x.2.2.1.isEmpty=true:=by rw [hne]; rfl
   rw [dv,hie,Bool.not_true,Bool.false_and,Bool.and_false,cF]
   have hl0:x.2.2.1.length=0:=by rw [hne]; rfl
   simp (disch:=omega) only [bs,↓iP,↓iN,g,ev,dv]
  have hie:x.2.2.1.isEmpty=false:=by cases h:x.2.2.1 with
   | nil=>exact absurd h hne
   | cons a b=>rfl
  have hl0:x.2.2.1.length≠0:=fun h=>hne (List.length_eq_zero_iff.1 h)
  rw [dv,hie,Bool.not_false,Bool.true_and,Bool.true_and]
  have tail:X5 F (fun z37 z38 z39 z40 z41=>H4 F k0 kr N z37 z38 z39 z40 (C2 .i64 z41 1)) (fun z43=>kr z43) src seen x src (src.length:Int) (pre.length:Int)=bif(match okS seen (-1) x.2.2.1 with | some s=>okG s (some x) rest | none=>false) then k0 else kr 1:=by
   unfold X5
   have e0:=B7c F (fun z31 z32 z33 z34 z35=>H4 F k0 kr N z31 z32 z33 z34 (C2 .i64 z35 1)) (fun z36=>kr z36) src src (src.length:Int) (pre.length:Int) x4 x.2.2.1 [] seen (-1) rfl (.inl ⟨rfl,rfl⟩) F (by unfold D9 at hF; omega)
   refine e0.trans ?_
   cases hS:okS seen (-1) x.2.2.1 with
   | none=>simp
   | some s =>
    have e:=ih (pre++[x]) s (some x) (by rw [he]; simp) (.inr ⟨pre,x,rfl,rfl,hv⟩) N (by omega)
    rw [hpl] at e
    simp only
    refine Eq.trans ?_ e
    simp (disch:=omega) only [bs,↓iP,↓iN]
  rcases hp with ⟨hp,rfl⟩ | ⟨d,q,hp,rfl,hq⟩
  ·have h0:pre.length=0:=by rw [hp]; rfl
   simp only [Bool.true_and]
   rw [← tail]
   simp (disch:=omega) only [bs,↓iP,↓iN,g,ev,dv]
  ·have hd:(pre.length:Int)=(d.length:Int)+1:=by rw [hp]; simp
   have hl:B1 zG src ((pre.length:Int) - 1)=q:=by
    rw [hd,show(d.length:Int)+1 - 1=(d.length:Int) by omega,he,hp]
    exact B7b d q (x::rest)
   have q2:=(hs q (by rw [he,hp]; simp)).2.1
   obtain ⟨r,er,hr⟩:=A6N F hF q2 x2 hq hv
   simp only
   by_cases hlt:B0T q x=true
   ·rw [hlt,Bool.true_and,← tail]
    have hr0:r < 0:=by
     rcases Int.lt_or_le r 0 with h | h
     ·exact h
     ·rw [hr.1 h] at hlt; cases hlt
    simp (disch:=omega) only [bs,↓iP,↓iN,g,ev,dv,hl,er]
   ·rw [Bool.not_eq_true] at hlt
    rw [hlt,Bool.false_and,cF]
    have hr0:0≤r:=hr.2 hlt
    simp (disch:=omega) only [bs,↓iP,↓iN,g,ev,dv,hl,er]
def gvE(l:List Gr):Int:=if 4096 < l.length then 3 else if 4096 < tot l then 3 else if okG (List.replicate 4096 false) none l=true then 0 else 1
theorem A3Y(F:Nat)(l:List Gr):A07 F l=bif ltI 4096 (C7 l) then some (3,()) else(A0q F l).bind fun r3=>bif ltI 4096 r3.1 then some (3,()) else H4 F (some (0,())) (fun z51=>some (z51,())) F l (List.replicate 4096 false) l (C7 l) 0:=by kernel_rfl
theorem A4p(F:Nat)(hF:D9 F){l:List Gr}(h:GOk l)(hb:(l.length:Int)≤140737488355328):A07 F l=some (gvE l,()):=by
 unfold gvE
 by_cases c0:4096 < l.length
 ·rw [iP c0]
  rw [A3Y]
  have x1:ltI 4096 (C7 l)=true:=by rw [B9]; unfold C7; omega
  rw [x1,cT]
 rw [iN c0]
 have x1:ltI 4096 (C7 l)=false:=by rw [← Bool.not_eq_true,B9]; unfold C7; omega
 rw [A3Y,x1,cF,A7D F hF h (by omega)]
 simp only [bS]
 by_cases c1:4096 < tot l
 ·have x2:ltI 4096 (tot l:Int)=true:=by rw [B9]; omega
  rw [iP c1,x2,cT]
 have x2:ltI 4096 (tot l:Int)=false:=by rw [← Bool.not_eq_true,B9]; omega
 rw [iN c1,x2,cF]
 refine(B7d F hF _ _ h (by omega) l [] (List.replicate 4096 false) none rfl (.inl ⟨rfl,rfl⟩) F (by unfold D9 at hF; omega)).trans ?_
 generalize okG (List.replicate 4096 false) none l=o
 cases o <;> rfl
def Asc:Int→List Int→Prop
 | _,[]=>True
 | p,s::t=>(0≤s∧s < 4096∧p < s)∧Asc s t
theorem C7k:∀ {t:List Int} {seen:List Bool} {p:Int} {s:List Bool},okS seen p t=some s→Asc p t
 | [],_,_,_,_=>trivial
 | x::t,seen,p,s,h=>by
  rw [okS] at h
  split at h
  ·rename_i c
   exact ⟨⟨c.1,c.2.1,c.2.2.2⟩,C7k h⟩
  ·cases h
theorem B0U:∀ {l:List Gr} {seen:List Bool} {p:Option Gr},okG seen p l=true→∀ g∈l,RV g.2.1∧g.2.2.1≠[]∧Asc (-1) g.2.2.1
 | [],_,_,_=>fun g hg=>by cases hg
 | x::t,seen,p,h=>by
  unfold okG at h
  simp only [Bool.and_eq_true,decide_eq_true_eq,Bool.not_eq_true'] at h
  obtain ⟨h1,h2,h3,h4⟩:=h
  cases hS:okS seen (-1) x.2.2.1 with
  | none=>rw [hS] at h4; cases h4
  | some s =>
   rw [hS] at h4
   intro g hg
   rcases List.mem_cons.1 hg with rfl | hg
   ·refine ⟨h1,fun h0=>?_,C7k hS⟩
    rw [h0] at h2
    cases h2
   ·exact B0U h4 g hg
def gk(l:List Gr):List Int:=l.map (·.1)
def gsz(l:List Gr):List Int:=l.map fun g=>(g.2.2.1.length:Int) - 1
def stp:Int→List Int→List Int
 | _,[]=>[]
 | p,s::t=>(s - (p+1))::stp s t
def gst:List Gr→List Int
 | []=>[]
 | g::t=>stp (-1) g.2.2.1++gst t
def gsl:List Gr→List Int
 | []=>[]
 | g::t=>sp g.2.1++gsl t
def gB(l:List Gr):List Int:=enc l.length++rE (gk l)++gsl l++nE (gsz l)++nE (gst l)
def gE(l:List Gr):List Int×Int:=if gvE l=0 then(gB l,0) else([],gvE l)
theorem A2J(l:List Gr):(gk l).length=l.length:=by simp [gk]
theorem A3j(l:List Gr):(gsz l).length=l.length:=by simp [gsz]
theorem A5X:∀ (t:List Int) (p:Int),(stp p t).length=t.length
 | [],_=>rfl
 | s::t,p=>by simp [stp,A5X t]
theorem A3k:∀ l:List Gr,(gst l).length=tot l
 | []=>rfl
 | g::t=>by simp [gst,tot,A5X,A3k t]
theorem C3g{l:List Gr}(h:GOk l):Sg (gk l):=fun x hx=>by
 obtain ⟨g,hg,rfl⟩:=List.mem_map.1 hx
 exact(h g hg).1
theorem D2g:∀ {t:List Int} {p:Int},-1≤p→Asc p t→∀ x∈stp p t,0≤x∧x≤4096
 | [],_,_,_=>fun x hx=>by cases hx
 | s::t,p,hp,⟨h1,h2⟩=>fun x hx=>by
  rw [stp] at hx
  rcases List.mem_cons.1 hx with rfl | hx
  ·omega
  ·exact D2g (by omega) h2 x hx
theorem B7e:∀ {l:List Gr},(∀ g∈l,Asc (-1) g.2.2.1)→Wd (gst l)
 | [],_=>Wd.nil
 | g::t,h=>by
  rw [gst]
  refine Wd.append (fun x hx=>?_) (B7e fun y hy=>h y (List.mem_cons_of_mem _ hy))
  have:=D2g (by omega) (h g (by simp)) x hx
  omega
theorem A89:∀ {l:List Gr} {g:Gr},g∈l→g.2.2.1.length≤tot l
 | x::t,g,h=>by
  rcases List.mem_cons.1 h with rfl | h
  ·simp [tot]
  ·have:=A89 h; simp only [tot]; omega
theorem C1U{l:List Gr}(h:tot l≤4096)(hne:∀ g∈l,g.2.2.1≠[]):Wd (gsz l):=fun x hx=>by
 obtain ⟨g,hg,rfl⟩:=List.mem_map.1 hx
 have h1:=A89 hg
 have h2:g.2.2.1.length≠0:=fun h0=>hne g hg (List.length_eq_zero_iff.1 h0)
 omega
theorem A5x:∀ {l:List Gr},GOk l→(gsl l).length≤74*l.length∧Bt (gsl l)
 | [],_=>⟨by simp [gsl],Bt.nil⟩
 | x::t,h=>by
  obtain ⟨h1,h2⟩:=A5x (l:=t) (fun s hs=>h s (List.mem_cons_of_mem _ hs))
  have h3:=C7i (h x (by simp)).2.1
  unfold gsl
  exact ⟨by simp only [List.length_append,List.length_cons]; omega,Bt.append (E4T _) h2⟩
theorem B4C{l:List Gr}(h:gvE l=0):l.length≤4096∧tot l≤4096∧okG (List.replicate 4096 false) none l=true:=by
 unfold gvE at h
 by_cases c0:4096 < l.length
 ·rw [iP c0] at h; omega
 rw [iN c0] at h
 by_cases c1:4096 < tot l
 ·rw [iP c1] at h; omega
 rw [iN c1] at h
 refine ⟨by omega,by omega,?_⟩
 by_cases c2:okG (List.replicate 4096 false) none l=true
 ·exact c2
 ·rw [iN c2] at h; omega
theorem B8B(F:Nat){R:Type}(k2:List Gr→List Int→List Int→List Int→List Gr→Int→Int→Option R)(x0:List Gr)(x5 x6:List Int)(x28:List Gr)(x29 x30:Int){g:Gr}(hb:g.2.2.1.length≤100000):∀ (rest pre:List Int) (p:Int) (out:List Int),g.2.2.1=pre++rest→B0S p pre→-1≤p→Asc p rest→out.length+rest.length≤100000→∀ N,rest.length < N →
  I3 F k2 N x0 x5 x6 out g x28 x29 x30 g.2.2.1 (g.2.2.1.length:Int) (pre.length:Int)=k2 x0 x5 x6 (out++stp p rest) x28 x29 x30:=by
 intro rest
 induction rest with
 | nil =>
  intro pre p out he hp hp1 ha ho N hN
  obtain ⟨N,rfl⟩:∃ M,N=M+1:=⟨N - 1,by omega⟩
  have hlen:g.2.2.1.length=pre.length:=by rw [he]; simp
  unfold I3
  simp (disch:=omega) only [bs,↓iP,↓iN]
  simp [stp]
 | cons s rest ih =>
  intro pre p out he hp hp1 ha ho N hN
  obtain ⟨N,rfl⟩:∃ M,N=M+1:=⟨N - 1,by omega⟩
  simp only [List.length_cons] at hN ho
  have hlen:g.2.2.1.length=pre.length+1+rest.length:=by rw [he]; simp; omega
  have hg:B1 0 g.2.2.1 (pre.length:Int)=s:=by rw [he]; exact L1 pre s rest
  have hpl:(((pre++[s]).length:Nat):Int)=(pre.length:Int)+1:=by simp
  obtain ⟨⟨a1,a2,a3⟩,a4⟩:=ha
  have e:=ih (pre++[s]) s (out++[s - (p+1)]) (by rw [he]; simp) (B0S.push pre s) (by omega) a4 (by simp only [List.length_append,List.length_singleton]; omega) N (by omega)
  rw [hpl] at e
  have hz:out++[s - (p+1)]++stp s rest=out++stp p (s::rest):=by simp [stp]
  rw [hz] at e
  unfold I3
  rcases hp with ⟨hp,rfl⟩ | ⟨d,hp⟩
  ·have h0:pre.length=0:=by rw [hp]; rfl
   have hw:IntKind.u64.wrap s=s - (-1+1):=by rw [G8 (by omega)]; omega
   simp (disch:=omega) only [bs,↓iP,↓iN,hg,hw]
   exact e
  ·have hd:(pre.length:Int)=(d.length:Int)+1:=by rw [hp]; simp
   have hl:B1 0 g.2.2.1 ((pre.length:Int) - 1)=p:=by
    rw [hd,show(d.length:Int)+1 - 1=(d.length:Int) by omega,he,hp]
    exact A7C d p (s::rest)
   have hw:IntKind.u64.wrap (s - (p+1))=s - (p+1):=G8 (by omega)
   simp (disch:=omega) only [bs,↓iP,↓iN,hg,hl,hw]
   exact e
theorem B7f(F:Nat)(hF:D9 F){R:Type}(k0:List Gr→List Int→List Int→List Int→Option R)(x0:List Gr){src:List Gr}(hb:src.length≤100000)(hs:∀ g∈src,g.2.2.1≠[]∧Asc (-1) g.2.2.1∧g.2.2.1.length≤4096) :
  ∀ (rest pre:List Gr) (ok zk os zs st:List Int),src=pre++rest→ok.length=pre.length→zk.length=rest.length→os.length=pre.length→zs.length=rest.length→st.length+tot rest≤100000→∀ N,rest.length < N →
  J0 F k0 N x0 (ok++zk) (os++zs) st src (src.length:Int) (pre.length:Int)=k0 x0 (ok++gk rest) (os++gsz rest) (st++gst rest):=by
 intro rest
 induction rest with
 | nil =>
  intro pre ok zk os zs st he h1 h2 h3 h4 h5 N hN
  obtain ⟨N,rfl⟩:∃ M,N=M+1:=⟨N - 1,by omega⟩
  have hlen:src.length=pre.length:=by rw [he]; simp
  have z1:zk=[]:=by simpa using h2
  have z2:zs=[]:=by simpa using h4
  subst z1; subst z2
  unfold J0
  simp (disch:=omega) only [bs,↓iP,↓iN]
  simp [gk,gsz,gst]
 | cons x rest ih =>
  intro pre ok zk os zs st he h1 h2 h3 h4 h5 N hN
  obtain ⟨N,rfl⟩:∃ M,N=M+1:=⟨N - 1,by omega⟩
  cases zk with
  | nil=>simp at h2
  | cons y zk =>
  cases zs with
  | nil=>simp at h4
  | cons y2 zs =>
  simp only [List.length_cons] at hN h2 h4
  simp only [tot] at h5
  have hlen:src.length=pre.length+1+rest.length:=by rw [he]; simp; omega
  have g:B1 zG src (pre.length:Int)=x:=by rw [he]; exact A3e pre x rest
  obtain ⟨a1,a2,a3⟩:=hs x (by rw [he]; simp)
  have hl0:x.2.2.1.length≠0:=fun h=>a1 (List.length_eq_zero_iff.1 h)
  have hpl:(((pre++[x]).length:Nat):Int)=(pre.length:Int)+1:=by simp
  have hw:IntKind.u64.wrap ((x.2.2.1.length:Int) - 1)=(x.2.2.1.length:Int) - 1:=G8 (by omega)
  have e:=ih (pre++[x]) (ok++[x.1]) zk (os++[(x.2.2.1.length:Int) - 1]) zs (st++stp (-1) x.2.2.1) (by rw [he]; simp) (by simp [h1]) (by omega) (by simp [h3]) (by omega) (by rw [List.length_append,A5X]; omega) N (by omega)
  rw [hpl] at e
  have hz1:ok++[x.1]++gk rest=ok++gk (x::rest):=by simp [gk]
  have hz2:os++[(x.2.2.1.length:Int) - 1]++gsz rest=os++gsz (x::rest):=by simp [gsz]
  have hz3:st++stp (-1) x.2.2.1++gst rest=st++gst (x::rest):=by simp [gst]
  rw [hz1,hz2,hz3] at e
  have s1:F1 (ok++y::zk) (pre.length:Int) x.1=(ok++[x.1])++zk:=by rw [← h1]; exact A0x _ _ _ _
  have s2:F1 (os++y2::zs) (pre.length:Int) ((x.2.2.1.length:Int) - 1)=(os++[(x.2.2.1.length:Int) - 1])++zs:=by rw [← h3]; exact A0x _ _ _ _
  have l1:(ok++y::zk).length=ok.length+(zk.length+1):=by simp
  have l2:(os++y2::zs).length=os.length+(zs.length+1):=by simp
  have e0:=B8B F (fun z29 z30 z31 z32 z33 z34 z35=>J0 F k0 N z29 z30 z31 z32 z33 z34 (C2 .i64 z35 1)) x0 ((ok++[x.1])++zk) ((os++[(x.2.2.1.length:Int) - 1])++zs) src (src.length:Int) (pre.length:Int) (g:=x) (by omega) x.2.2.1 [] (-1) st rfl (.inl ⟨rfl,rfl⟩) (by omega) a2 (by omega) F (by unfold D9 at hF; omega)
  have e0:I3 F (fun z29 z30 z31 z32 z33 z34 z35=>J0 F k0 N z29 z30 z31 z32 z33 z34 (C2 .i64 z35 1)) F x0 ((ok++[x.1])++zk) ((os++[(x.2.2.1.length:Int) - 1])++zs) st x src (src.length:Int) (pre.length:Int) x.2.2.1 (x.2.2.1.length:Int) 0=_:=e0
  unfold J0
  simp (disch:=omega) only [bs,↓iP,↓iN,g,s1,s2,hw]
  rw [e0]
  refine Eq.trans ?_ e
  simp (disch:=omega) only [bs,↓iP,↓iN]
theorem B8C(F:Nat)(hF:D9 F){R:Type}(k:List Int→List Int→List Int→Option R)(x6 x7:List Int){src:List Gr}(hs:GOk src)(hb:src.length≤100000):∀ (rest pre:List Gr) (b:List Int),src=pre++rest→(b.length:Int)+74*rest.length≤140737488355000→∀ N,rest.length < N →
  N9 F k N x6 x7 b src (src.length:Int) (pre.length:Int)=k x6 x7 (b++gsl rest):=by
 intro rest
 induction rest with
 | nil =>
  intro pre b he hc N hN
  obtain ⟨N,rfl⟩:∃ M,N=M+1:=⟨N - 1,by omega⟩
  have hlen:src.length=pre.length:=by rw [he]; simp
  unfold N9
  simp (disch:=omega) only [bs,↓iP,↓iN]
  simp [gsl]
 | cons x rest ih =>
  intro pre b he hc N hN
  obtain ⟨N,rfl⟩:∃ M,N=M+1:=⟨N - 1,by omega⟩
  simp only [List.length_cons] at hN hc
  have hlen:src.length=pre.length+1+rest.length:=by rw [he]; simp; omega
  have g:B1 zG src (pre.length:Int)=x:=by rw [he]; exact A3e pre x rest
  have hx:=hs x (by rw [he]; simp)
  have hsl:=C7i hx.2.1
  have hpl:(((pre++[x]).length:Nat):Int)=(pre.length:Int)+1:=by simp
  have e:=ih (pre++[x]) (b++sp x.2.1) (by rw [he]; simp) (by rw [List.length_append]; omega) N (by omega)
  rw [hpl,List.append_assoc] at e
  unfold N9
  simp (disch:=omega) only [bs,↓iP,↓iN,g,B1i F hF (b:=b) (by omega) hx.2.1]
  exact e
theorem A4V(F:Nat)(hF:D9 F){b l:List Int}(hl:Wd l)(hn:l.length≤65536)(hb:b.length≤10000000):A1V F b l=some (b++nE l,()):=by
 unfold A1V
 rw [A0V F hF hl hn]
 have hs:=A0U hl hn
 have r:D8 (b.length+(nE l).length) 1=true:=by rw [E5]; omega
 simp only [bS,r,cT]
theorem A7E(F:Nat)(hF:D9 F){l:List Gr}(h:GOk l)(hb:(l.length:Int)≤140737488355328):A0s F l=some ((gE l).1,(gE l).2,()):=by
 unfold A0s gE
 rw [A4p F hF h hb]
 simp only [bS]
 by_cases c0:gvE l=0
 ·obtain ⟨v1,v2,v3⟩:=B4C c0
  have hall:=B0U v3
  rw [iP c0,c0]
  have x1:A1x (C7 l) (C7 l) 8=true:=by rw [A4d]; unfold C7; omega
  simp only [show eqI (0:Int) 0=true from rfl,Bool.not_true,cF,x1,cT]
  refine(B7f F hF _ l (src:=l) (by omega) (fun g hg=>⟨(hall g hg).2.1,(hall g hg).2.2,by have:=A89 hg; omega⟩) l [] [] (I5 (C7 l) 0) [] (I5 (C7 l) 0) [] rfl rfl (by simp [I5,C7]) rfl (by simp [I5,C7]) (by simp; omega) F (by unfold D9 at hF; omega)).trans ?_
  have hw2:IntKind.u64.wrap (C7 l)=(l.length:Int):=by unfold C7; exact G8 (by omega)
  have e4:=A4U F hF (b:=[]) (by simp [B4V]) (v:=l.length) (by omega)
  rw [List.nil_append] at e4
  have h10:=A5V (v:=l.length) (by omega)
  have e6:=A7x F hF (C3g h) (by rw [A2J]; omega)
  rw [D28 (by rw [A2J]; omega)] at e6
  obtain ⟨s1,s2,s3⟩:=B4x (C3g h) (by rw [A2J]; omega)
  have hg:=(A5x h).1
  have wz:=C1U v2 (fun g hg=>(hall g hg).2.1)
  have ws:=B7e (l:=l) (fun g hg=>(hall g hg).2.2)
  have hz:=A0U wz (by rw [A3j]; omega)
  have r2:D8 ((enc l.length).length+(rE (gk l)).length) 1=true:=by rw [E5]; omega
  simp only [List.nil_append,e6,bS,show eqI (0:Int) 0=true from rfl,Bool.not_true,cF,hw2,e4,r2,cT]
  refine(B8C F hF _ _ _ (src:=l) h (by omega) l [] _ rfl (by simp only [List.length_append]; omega) F (by unfold D9 at hF; omega)).trans ?_
  simp only [A4V F hF wz (by rw [A3j]; omega) (show(enc l.length++rE (gk l)++gsl l).length≤10000000 by simp only [List.length_append]; omega),bS,
   A4V F hF ws (by rw [A3k]; omega) (show(enc l.length++rE (gk l)++gsl l++nE (gsz l)).length≤10000000 by simp only [List.length_append]; omega)]
  rfl
 ·rw [iN c0]
  have:eqI (gvE l) 0=false:=by rw [← Bool.not_eq_true,C4]; exact c0
  rw [this]
  rfl
def hdz:List Int→Bool
 | []=>false
 | s::_=>eqI s 0
def hz(l:List Gr):Bool:=l.any fun g=>hdz g.2.2.1
theorem C7l(F:Nat){R:Type}(k0:List Gr→Option R)(kr:Int→Option R){src:List Gr}(hs:GOk src)(hb:src.length≤4096):∀ (rest pre:List Gr) (left:Int),src=pre++rest→0≤left∧left≤4096→∀ N,rest.length < N →
  A08 F k0 kr N src left (pre.length:Int)=if left < tot rest then kr 3 else k0 src:=by
 intro rest
 induction rest with
 | nil =>
  intro pre left he hl N hN
  obtain ⟨N,rfl⟩:∃ M,N=M+1:=⟨N - 1,by omega⟩
  have hlen:src.length=pre.length:=by rw [he]; simp
  unfold A08
  rw [iN (by simp only [tot]; omega)]
  simp (disch:=omega) only [bs,↓iP,↓iN]
 | cons x rest ih =>
  intro pre left he hl N hN
  obtain ⟨N,rfl⟩:∃ M,N=M+1:=⟨N - 1,by omega⟩
  simp only [List.length_cons] at hN
  have hlen:src.length=pre.length+1+rest.length:=by rw [he]; simp; omega
  have g:B1 zG src (pre.length:Int)=x:=by rw [he]; exact A3e pre x rest
  have hx:=(hs x (by rw [he]; simp)).2.2.2
  have hpl:(((pre++[x]).length:Nat):Int)=(pre.length:Int)+1:=by simp
  have ht:tot (x::rest)=x.2.2.1.length+tot rest:=rfl
  unfold A08
  by_cases c:left < x.2.2.1.length
  ·rw [iP (by rw [ht]; omega)]
   simp (disch:=omega) only [bs,↓iP,↓iN,g]
  ·have e:=ih (pre++[x]) (left - x.2.2.1.length) (by rw [he]; simp) (by omega) N (by omega)
   rw [hpl] at e
   by_cases c2:left < (tot (x::rest):Int)
   ·rw [iP c2]
    rw [ht] at c2
    rw [iP (by omega)] at e
    simp (disch:=omega) only [bs,↓iP,↓iN,g]
    exact e
   ·rw [iN c2]
    rw [ht] at c2
    rw [iN (by omega)] at e
    simp (disch:=omega) only [bs,↓iP,↓iN,g]
    exact e
theorem B4D(F:Nat){R:Type}(k4:List Gr→List Bool→Int→Option R)(kr:Int→Option R)(x0:List Gr)(x6:Int){g:Gr}(hb:(g.2.2.1.length:Int)≤140737488355328):∀ (rest pre:List Int) (seen:List Bool) (p:Int),seen.length=4096→g.2.2.1=pre++rest→B0S p pre→∀ N,rest.length < N →
  P2 F k4 kr N x0 seen x6 g (pre.length:Int)=match okS seen p rest with | some s=>k4 x0 s x6 | none=>kr 1:=by
 intro rest
 induction rest with
 | nil =>
  intro pre seen p hsl he hp N hN
  obtain ⟨N,rfl⟩:∃ M,N=M+1:=⟨N - 1,by omega⟩
  have hlen:g.2.2.1.length=pre.length:=by rw [he]; simp
  unfold P2 okS
  simp (disch:=omega) only [bs,↓iP,↓iN]
 | cons s rest ih =>
  intro pre seen p hsl he hp N hN
  obtain ⟨N,rfl⟩:∃ M,N=M+1:=⟨N - 1,by omega⟩
  simp only [List.length_cons] at hN
  have hlen:g.2.2.1.length=pre.length+1+rest.length:=by rw [he]; simp; omega
  have hg:B1 0 g.2.2.1 (pre.length:Int)=s:=by rw [he]; exact L1 pre s rest
  have hpl:(((pre++[s]).length:Nat):Int)=(pre.length:Int)+1:=by simp
  unfold P2
  by_cases c1:s < 0
  ·rw [okS,iN (by omega)]
   simp (disch:=omega) only [bs,↓iP,↓iN,hg]
  by_cases c2:4096≤s
  ·rw [okS,iN (by omega)]
   simp (disch:=omega) only [bs,↓iP,↓iN,hg]
  have fin:∀ (q:Int),q=p→p < s→(pre=[]∧True∨True)→(if B1 false seen s=true then kr 1 else P2 F k4 kr N x0 (F1 seen s true) x6 g ((pre.length:Int)+1))=match okS seen p (s::rest) with | some s=>k4 x0 s x6 | none=>kr 1:=by
   intro q hq hps _
   rw [okS]
   by_cases c3:B1 false seen s=true
   ·rw [iP c3,iN (by rw [c3]; simp)]
   ·rw [Bool.not_eq_true] at c3
    have e:=ih (pre++[s]) (F1 seen s true) s (by rw [T3]; exact hsl) (by rw [he]; simp) (B0S.push pre s) N (by omega)
    rw [hpl] at e
    rw [iN (by rw [c3]; simp),iP ⟨by omega,by omega,c3,hps⟩]
    exact e
  rcases hp with ⟨hp,rfl⟩ | ⟨d,hp⟩
  ·have h0:pre.length=0:=by rw [hp]; rfl
   refine Eq.trans ?_ (fin (-1) rfl (by omega) (.inr trivial))
   simp (disch:=omega) only [bs,↓iP,↓iN,hg]
  ·have hd:(pre.length:Int)=(d.length:Int)+1:=by rw [hp]; simp
   have hl:B1 0 g.2.2.1 ((pre.length:Int) - 1)=p:=by
    rw [hd,show(d.length:Int)+1 - 1=(d.length:Int) by omega,he,hp]
    exact A7C d p (s::rest)
   by_cases c4:p < s
   ·refine Eq.trans ?_ (fin p rfl c4 (.inr trivial))
    simp (disch:=omega) only [bs,↓iP,↓iN,hg,hl]
   ·rw [okS,iN (by omega)]
    simp (disch:=omega) only [bs,↓iP,↓iN,hg,hl]
theorem C7m:∀ {t:List Int} {seen:List Bool} {p:Int} {s:List Bool},okS seen p t=some s→s.length=seen.length
 | [],_,_,_,h=>by simp only [okS,Option.some.injEq] at h; rw [h]
 | x::t,seen,p,s,h=>by
  rw [okS] at h
  split at h
  ·rw [C7m h,T3]
  ·cases h
theorem B4E(F:Nat)(hF:D9 F){R:Type}(k0:Option R)(kr:Int→Option R){src:List Gr}(hs:GOk src)(hb:src.length≤4096):∀ (rest pre:List Gr) (seen:List Bool) (p:Option Gr),seen.length=4096→src=pre++rest→D2f p pre→∀ N,rest.length < N →
  J3 F k0 kr N src seen (pre.length:Int)=bif okG seen p rest then k0 else kr 1:=by
 intro rest
 induction rest with
 | nil =>
  intro pre seen p hsl he hp N hN
  obtain ⟨N,rfl⟩:∃ M,N=M+1:=⟨N - 1,by omega⟩
  have hlen:src.length=pre.length:=by rw [he]; simp
  unfold J3 okG
  simp (disch:=omega) only [bs,↓iP,↓iN]
 | cons x rest ih =>
  intro pre seen p hsl he hp N hN
  obtain ⟨N,rfl⟩:∃ M,N=M+1:=⟨N - 1,by omega⟩
  simp only [List.length_cons] at hN
  have hlen:src.length=pre.length+1+rest.length:=by rw [he]; simp; omega
  have g:B1 zG src (pre.length:Int)=x:=by rw [he]; exact A3e pre x rest
  obtain ⟨x1,x2,x3,x4⟩:=hs x (by rw [he]; simp)
  have ev:=S7 F hF x2
  have hpl:(((pre++[x]).length:Nat):Int)=(pre.length:Int)+1:=by simp
  unfold J3 okG
  by_cases hv:RV x.2.1
  rotate_left
  ·have dv:decide (RV x.2.1)=false:=decide_eq_false hv
   rw [dv,Bool.false_and,cF]
   simp (disch:=omega) only [bs,↓iP,↓iN,g,ev,dv]
  have dv:decide (RV x.2.1)=true:=decide_eq_true hv
  by_cases hne:x.2.2.1=[]
  ·have hie:x.2.2.1.isEmpty=true:=by rw [hne]; rfl
   rw [dv,hie,Bool.not_true,Bool.false_and,Bool.and_false,cF]
   have hl0:x.2.2.1.length=0:=by rw [hne]; rfl
   simp (disch:=omega) only [bs,↓iP,↓iN,g,ev,dv]
  have hie:x.2.2.1.isEmpty=false:=by cases h:x.2.2.1 with
   | nil=>exact absurd h hne
   | cons a b=>rfl
  have hl0:x.2.2.1.length≠0:=fun h=>hne (List.length_eq_zero_iff.1 h)
  rw [dv,hie,Bool.not_false,Bool.true_and,Bool.true_and]
  have tail:X8 F (fun z51 z52 z53=>J3 F k0 kr N z51 z52 (C2 .i64 z53 1)) (fun z55=>kr z55) src seen (pre.length:Int) x=bif(match okS seen (-1) x.2.2.1 with | some s=>okG s (some x) rest | none=>false) then k0 else kr 1:=by
   unfold X8
   have e0:=B4D F (fun z47 z48 z49=>J3 F k0 kr N z47 z48 (C2 .i64 z49 1)) (fun z50=>kr z50) src (pre.length:Int) x4 x.2.2.1 [] seen (-1) hsl rfl (.inl ⟨rfl,rfl⟩) F (by unfold D9 at hF; omega)
   refine e0.trans ?_
   cases hS:okS seen (-1) x.2.2.1 with
   | none=>simp
   | some s =>
    have e:=ih (pre++[x]) s (some x) (by rw [C7m hS]; exact hsl) (by rw [he]; simp) (.inr ⟨pre,x,rfl,rfl,hv⟩) N (by omega)
    rw [hpl] at e
    simp only
    refine Eq.trans ?_ e
    simp (disch:=omega) only [bs,↓iP,↓iN]
  rcases hp with ⟨hp,rfl⟩ | ⟨d,q,hp,rfl,hq⟩
  ·have h0:pre.length=0:=by rw [hp]; rfl
   refine Eq.trans ?_ tail
   simp (disch:=omega) only [bs,↓iP,↓iN,g,ev,dv]
  ·have hd:(pre.length:Int)=(d.length:Int)+1:=by rw [hp]; simp
   have hl:B1 zG src ((pre.length:Int) - 1)=q:=by
    rw [hd,show(d.length:Int)+1 - 1=(d.length:Int) by omega,he,hp]
    exact B7b d q (x::rest)
   have q2:=(hs q (by rw [he,hp]; simp)).2.1
   have er:=N2 F hF q2 x2 hq hv
   simp only
   have hlg:B0T q x=(decide (q.1 < x.1) || (decide (q.1=x.1) && decide (rc q.2.1 x.2.1 < 0))):=rfl
   by_cases k1:x.1 < q.1
   ·have hlt:B0T q x=false:=by rw [hlg,decide_eq_false (by omega),decide_eq_false (by omega)]; rfl
    rw [hlt,Bool.false_and,cF]
    simp (disch:=omega) only [bs,↓iP,↓iN,g,ev,dv,hl]
   ·by_cases k2:q.1=x.1
    ·by_cases k3:rc q.2.1 x.2.1 < 0
     ·have hlt:B0T q x=true:=by rw [hlg,decide_eq_true k2,decide_eq_true k3]; simp
      rw [hlt]
      refine Eq.trans ?_ tail
      simp (disch:=omega) only [bs,↓iP,↓iN,g,ev,dv,hl,er]
     ·have hlt:B0T q x=false:=by rw [hlg,decide_eq_false (by omega),decide_eq_false k3,Bool.and_false]; rfl
      rw [hlt,Bool.false_and,cF]
      simp (disch:=omega) only [bs,↓iP,↓iN,g,ev,dv,hl,er]
    ·have hlt:B0T q x=true:=by rw [hlg,decide_eq_true (by omega)]; rfl
     rw [hlt]
     refine Eq.trans ?_ tail
     simp (disch:=omega) only [bs,↓iP,↓iN,g,ev,dv,hl]
theorem A6o(F:Nat)(hF:D9 F){l:List Gr}(h:GOk l)(hb:(l.length:Int)≤140737488355328):A3B F l=some (gvE l,()):=by
 unfold gvE A3B
 by_cases c0:4096 < l.length
 ·have x1:ltI 4096 (C7 l)=true:=by rw [B9]; unfold C7; omega
  rw [iP c0,x1,cT]
 have x1:ltI 4096 (C7 l)=false:=by rw [← Bool.not_eq_true,B9]; unfold C7; omega
 rw [iN c0,x1,cF]
 refine(C7l F _ _ h (by omega) l [] 4096 rfl (by omega) F (by unfold D9 at hF; omega)).trans ?_
 by_cases c1:4096 < tot l
 ·rw [iP (by omega),iP c1]
 rw [iN (by omega),iN c1]
 have x2:A1x 4096 4096 1=true:=by rw [A4d]; omega
 rw [x2,cT]
 refine(B4E F hF _ _ h (by omega) l [] (List.replicate 4096 false) none (List.length_replicate ..) rfl (.inl ⟨rfl,rfl⟩) F (by unfold D9 at hF; omega)).trans ?_
 generalize okG (List.replicate 4096 false) none l=o
 cases o <;> rfl
theorem B7g(F:Nat){R:Type}(k2:List Gr→List Int→List Int→List Int→List Int→Int→Option R)(x5 x6 x8:List Int){src:List Gr}(hb0:src.length≤100000){i:Int}(hi:inI i src.length=true){g:Gr}(hgi:B1 zG src i=g)(hb:g.2.2.1.length≤100000):∀ (rest pre:List Int) (p:Int) (out:List Int),g.2.2.1=pre++rest→B0S p pre→-1≤p→Asc p rest→out.length+rest.length≤100000→∀ N,rest.length < N →
  L8 F k2 N src x5 x6 out x8 i (pre.length:Int)=k2 src x5 x6 (out++stp p rest) x8 i:=by
 intro rest
 induction rest with
 | nil =>
  intro pre p out he hp hp1 ha ho N hN
  obtain ⟨N,rfl⟩:∃ M,N=M+1:=⟨N - 1,by omega⟩
  have hlen:g.2.2.1.length=pre.length:=by rw [he]; simp
  have x1:ltI (pre.length:Int) (C7 g.2.2.1)=false:=by rw [← Bool.not_eq_true,B9]; unfold C7; omega
  unfold L8
  rw [hi,cT,hgi,x1,cF]
  simp [stp]
 | cons s rest ih =>
  intro pre p out he hp hp1 ha ho N hN
  obtain ⟨N,rfl⟩:∃ M,N=M+1:=⟨N - 1,by omega⟩
  simp only [List.length_cons] at hN ho
  have hlen:g.2.2.1.length=pre.length+1+rest.length:=by rw [he]; simp; omega
  have hg:B1 0 g.2.2.1 (pre.length:Int)=s:=by rw [he]; exact L1 pre s rest
  have hpl:(((pre++[s]).length:Nat):Int)=(pre.length:Int)+1:=by simp
  obtain ⟨⟨a1,a2,a3⟩,a4⟩:=ha
  have e:=ih (pre++[s]) s (out++[s - (p+1)]) (by rw [he]; simp) (B0S.push pre s) (by omega) a4 (by simp only [List.length_append,List.length_singleton]; omega) N (by omega)
  rw [hpl] at e
  have hz:out++[s - (p+1)]++stp s rest=out++stp p (s::rest):=by simp [stp]
  rw [hz] at e
  have x1:ltI (pre.length:Int) (C7 g.2.2.1)=true:=by rw [B9]; unfold C7; omega
  have x2:inI (pre.length:Int) g.2.2.1.length=true:=by rw [N3]; omega
  have r1:D8 (out.length+1) 8=true:=by rw [E5]; omega
  have xa:C2 .i64 (pre.length:Int) 1=(pre.length:Int)+1:=H3 (by omega)
  unfold L8
  simp only [hi,cT,hgi,x1,x2,hg]
  rcases hp with ⟨hp,rfl⟩ | ⟨d,hp⟩
  ·have h0:pre.length=0:=by rw [hp]; rfl
   have hw:IntKind.u64.wrap s=s - (-1+1):=by rw [G8 (by omega)]; omega
   have y:ltI 0 (pre.length:Int)=false:=by rw [← Bool.not_eq_true,B9]; omega
   rw [y,cF,r1,cT,hw,xa]
   exact e
  ·have hd:(pre.length:Int)=(d.length:Int)+1:=by rw [hp]; simp
   have hl:B1 0 g.2.2.1 ((pre.length:Int) - 1)=p:=by
    rw [hd,show(d.length:Int)+1 - 1=(d.length:Int) by omega,he,hp]
    exact A7C d p (s::rest)
   have hw:IntKind.u64.wrap (E7 .i64 s (C2 .i64 p 1))=s - (p+1):=by rw [H3 (by omega),A31 (by omega),G8 (by omega)]
   have y:ltI 0 (pre.length:Int)=true:=by rw [B9]; omega
   have s1:E7 .i64 (pre.length:Int) 1=(pre.length:Int) - 1:=A31 (by omega)
   have y2:inI ((pre.length:Int) - 1) g.2.2.1.length=true:=by rw [N3]; omega
   rw [y,cT,s1,y2,cT,r1,cT,hl,hw,xa]
   exact e
theorem D0r(l:List Gr):gsz l=lss (l.map fun g=>(g.2.2.1.length:Int)):=by
 induction l with
 | nil=>rfl
 | cons x t ih=>show((x.2.2.1.length:Int) - 1)::gsz t=_; rw [ih]; rfl
theorem B4F(F:Nat)(hF:D9 F){R:Type}(k0:List Gr→List Int→List Int→List Int→List Int→Option R){src:List Gr}(hok:GOk src)(hb:src.length≤100000)(hs:∀ g∈src,g.2.2.1≠[]∧Asc (-1) g.2.2.1∧g.2.2.1.length≤4096) :
  ∀ (rest pre:List Gr) (ok os st sl:List Int),src=pre++rest→ok.length=pre.length→os.length=pre.length→st.length+tot rest≤100000→sl.length+74*rest.length≤10000000→∀ N,rest.length < N →
  P3 F k0 N src ok os st sl (pre.length:Int)=k0 src (ok++gk rest) (os++rest.map fun g=>(g.2.2.1.length:Int)) (st++gst rest) (sl++gsl rest):=by
 intro rest
 induction rest with
 | nil =>
  intro pre ok os st sl he h1 h3 h5 h6 N hN
  obtain ⟨N,rfl⟩:∃ M,N=M+1:=⟨N - 1,by omega⟩
  have hlen:src.length=pre.length:=by rw [he]; simp
  unfold P3
  simp (disch:=omega) only [bs,↓iP,↓iN]
  simp [gk,gst,gsl]
 | cons x rest ih =>
  intro pre ok os st sl he h1 h3 h5 h6 N hN
  obtain ⟨N,rfl⟩:∃ M,N=M+1:=⟨N - 1,by omega⟩
  simp only [List.length_cons] at hN h6
  simp only [tot] at h5
  have hlen:src.length=pre.length+1+rest.length:=by rw [he]; simp; omega
  have g:B1 zG src (pre.length:Int)=x:=by rw [he]; exact A3e pre x rest
  obtain ⟨a1,a2,a3⟩:=hs x (by rw [he]; simp)
  have hx:=hok x (by rw [he]; simp)
  have hsl:=C7i hx.2.1
  have hpl:(((pre++[x]).length:Nat):Int)=(pre.length:Int)+1:=by simp
  have e:=ih (pre++[x]) (ok++[x.1]) (os++[(x.2.2.1.length:Int)]) (st++stp (-1) x.2.2.1) (sl++sp x.2.1) (by rw [he]; simp) (by simp [h1]) (by simp [h3]) (by rw [List.length_append,A5X]; omega) (by rw [List.length_append]; omega) N (by omega)
  rw [hpl] at e
  have hz1:ok++[x.1]++gk rest=ok++gk (x::rest):=by simp [gk]
  have hz2:os++[(x.2.2.1.length:Int)]++rest.map (fun g=>(g.2.2.1.length:Int))=os++(x::rest).map (fun g=>(g.2.2.1.length:Int)):=by simp
  have hz3:st++stp (-1) x.2.2.1++gst rest=st++gst (x::rest):=by simp [gst]
  have hz4:sl++sp x.2.1++gsl rest=sl++gsl (x::rest):=by simp [gsl]
  rw [hz1,hz2,hz3,hz4] at e
  have x1:ltI (pre.length:Int) (C7 src)=true:=by rw [B9]; unfold C7; omega
  have x2:inI (pre.length:Int) src.length=true:=by rw [N3]; omega
  have r1:D8 (ok.length+1) 8=true:=by rw [E5]; omega
  have r2:D8 (os.length+1) 8=true:=by rw [E5]; omega
  have xa:C2 .i64 (pre.length:Int) 1=(pre.length:Int)+1:=H3 (by omega)
  have e0:=B7g F (fun z29 z30 z31 z32 z33 z34=>P3 F k0 N z29 z30 z31 z32 z33 (C2 .i64 z34 1)) (ok++[x.1]) (os++[C7 x.2.2.1]) (sl++sp x.2.1) (src:=src) hb x2 g (by omega) x.2.2.1 [] (-1) st rfl (.inl ⟨rfl,rfl⟩) (by omega) a2 (by omega) F (by unfold D9 at hF; omega)
  have e0:L8 F (fun z29 z30 z31 z32 z33 z34=>P3 F k0 N z29 z30 z31 z32 z33 (C2 .i64 z34 1)) F src (ok++[x.1]) (os++[C7 x.2.2.1]) st (sl++sp x.2.1) (pre.length:Int) 0=_:=e0
  unfold P3
  simp only [x1,x2,cT,r1,r2,g,B0O F hF (b:=sl) (by omega) hx.2.1,bS]
  rw [e0,xa]
  exact e
theorem B0V(F:Nat)(hF:D9 F){l:List Gr}(h:GOk l)(hb:(l.length:Int)≤140737488355328):A3W F l=some ((gE l).1,(gE l).2,()):=by
 unfold A3W gE
 rw [A6o F hF h hb]
 simp only [bS]
 by_cases c0:gvE l=0
 ·obtain ⟨v1,v2,v3⟩:=B4C c0
  have hall:=B0U v3
  rw [iP c0,c0]
  simp only [show eqI (0:Int) 0=true from rfl,Bool.not_true,cF]
  refine(B4F F hF _ (src:=l) h (by omega) (fun g hg=>⟨(hall g hg).2.1,(hall g hg).2.2,by have:=A89 hg; omega⟩) l [] [] [] [] [] rfl rfl rfl (by simp; omega) (by simp; omega) F (by unfold D9 at hF; omega)).trans ?_
  have hw2:IntKind.u64.wrap (C7 l)=(l.length:Int):=by unfold C7; exact G8 (by omega)
  have e4:=A3D F hF (b:=[]) (by simp [B4V]) (v:=l.length) (by omega)
  rw [List.nil_append] at e4
  have h10:=A5V (v:=l.length) (by omega)
  have e6:=B0I F hF (C3g h) (by rw [A2J]; omega)
  rw [D28 (by rw [A2J]; omega)] at e6
  obtain ⟨s1,s2,s3⟩:=B4x (C3g h) (by rw [A2J]; omega)
  have hg:=(A5x h).1
  have wz:=C1U v2 (fun g hg=>(hall g hg).2.1)
  have ws:=B7e (l:=l) (fun g hg=>(hall g hg).2.2)
  have hz:=A0U wz (by rw [A3j]; omega)
  have hst:=A0U ws (by rw [A3k]; omega)
  have hpos:∀ y∈l.map (fun g=>(g.2.2.1.length:Int)),1≤y∧y≤4096:=fun y hy=>by
   obtain ⟨g,hg,rfl⟩:=List.mem_map.1 hy
   have h1:=A89 hg
   have h2:g.2.2.1.length≠0:=fun h0=>(hall g hg).2.1 (List.length_eq_zero_iff.1 h0)
   omega
  have eL:A5U F (l.map fun g=>(g.2.2.1.length:Int))=some (gsz l,()):=by
   unfold A5U
   refine(C75 F _ hpos (by simp; omega) (l.map fun g=>(g.2.2.1.length:Int)) [] [] rfl rfl F (by rw [List.length_map]; unfold D9 at hF; omega)).trans ?_
   rw [List.nil_append,← D0r]
  have e7:=A0z F hF wz (by rw [A3j]; omega)
  have e8:=A0z F hF ws (by rw [A3k]; omega)
  have r1:D8 ((enc l.length).length+(rE (gk l)).length) 1=true:=by rw [E5]; omega
  have r2:D8 ((enc l.length++rE (gk l)).length+(gsl l).length) 1=true:=by rw [E5]; simp only [List.length_append]; omega
  have r3:D8 ((enc l.length++rE (gk l)++gsl l).length+(nE (gsz l)).length) 1=true:=by rw [E5]; simp only [List.length_append]; omega
  have r4:D8 ((enc l.length++rE (gk l)++gsl l++nE (gsz l)).length+(nE (gst l)).length) 1=true:=by rw [E5]; simp only [List.length_append]; omega
  simp only [List.nil_append,hw2,e4,e6,eL,e7,e8,bS,r1,r2,r3,r4,cT]
  rfl
 ·rw [iN c0]
  have:eqI (gvE l) 0=false:=by rw [← Bool.not_eq_true,C4]; exact c0
  rw [this]
  rfl
theorem C7n(F:Nat)(hF:D9 F){a b:Nat}(ha:a < C9)(hb:b < C9)(h:a*b < C9):Q6 F (toW (a:Int)) (toW (b:Int))=some (toW ((a*b:Nat):Int),true,()):=by
 rw [A2H F hF (Y4 ha) (Y4 hb),F8,F8]
 have e:(a:Int)*(b:Int)=((a*b:Nat):Int):=by push_cast; rfl
 rw [e,A4P (by rw [Int.natAbs_natCast]; exact h)]
theorem D2h(F:Nat)(hF:D9 F){a b:Nat}(ha:a < C9)(hb:b < C9)(h:a+b < C9):Z8 F (toW (a:Int)) (toW (b:Int))=some (toW ((a+b:Nat):Int),true,()):=by
 rw [A3X F hF (Y4 ha) (Y4 hb),F8,F8]
 have e:(a:Int)+(b:Int)=((a+b:Nat):Int):=by push_cast; rfl
 rw [e,A4P (by rw [Int.natAbs_natCast]; exact h)]
theorem E0e(F:Nat)(hF:D9 F){a b:Nat}(ha:a < C9)(hb:b < C9)(h:b≤a):A1J F (toW (a:Int)) (toW (b:Int))=some (toW ((a - b:Nat):Int),true,()):=by
 unfold A1J
 rw [A0y F hF (Y4 hb),F8]
 simp only [bS]
 rw [A3X F hF (Y4 ha) (I4 (by omega)),F8,F8]
 have e:(a:Int)+-(b:Int)=((a - b:Nat):Int):=by omega
 rw [e,A4P (by rw [Int.natAbs_natCast]; omega)]
 rfl
abbrev A8L:Nat:=340282366920938463463374607431768211456
theorem D0s{a b:Nat}(ha:a≤A8L)(hb:b < A8L):a*b < C9:=by
 have:A8L*A8L=C9:=by unfold C9; decide
 rw [← this]
 rcases Nat.lt_or_ge a A8L with h | h
 ·exact Nat.mul_lt_mul'' h hb
 ·have:a=A8L:=by omega
  rw [this]
  exact Nat.mul_lt_mul_of_pos_left hb (by decide)
theorem C1V:A8L < C9:=by unfold C9; decide
def A7F(a b c d n m:Nat):Prop:=(n≤c∧m≤d∨n≤a∧m≤b)∧1≤m∧a*m≤n*b∧n*d≤c*m∧Nat.gcd n m=1
theorem A7F.whole{a b c d n:Nat}(hd:1≤d)(h1:a≤n*b)(h2:n*d≤c):A7F a b c d n 1:=by
 refine ⟨.inl ⟨?_,hd⟩,by omega,by rw [Nat.mul_one]; exact h1,by rw [Nat.mul_one]; exact h2,Nat.gcd_one_right n⟩
 exact Nat.le_trans (Nat.le_mul_of_pos_right n hd) h2
theorem A7F.deep{a b c d q r x y:Nat}(ha:a=q*b+r)(hc:q*d≤c)(hd:0 < d)(h:A7F d (c - q*d) b r x y):A7F a b c d (q*x+y) x:=by
 obtain ⟨h1,h2,h3,h4,h5⟩:=h
 have hx:1≤x:=by
  rcases Nat.eq_zero_or_pos x with h0 | h0
  ·rw [h0,Nat.zero_mul] at h3
   have:=Nat.mul_pos hd h2
   omega
  ·exact h0
 generalize hu:c - q*d=u at *
 have hc2:c=q*d+u:=by omega
 refine ⟨?_,hx,?_,?_,?_⟩
 ·rcases h1 with ⟨k1,k2⟩ | ⟨k1,k2⟩
  ·refine .inr ⟨?_,k1⟩
   rw [ha]
   exact Nat.add_le_add (Nat.mul_le_mul_left q k1) k2
  ·refine .inl ⟨?_,k1⟩
   rw [hc2]
   exact Nat.add_le_add (Nat.mul_le_mul_left q k1) k2
 ·rw [ha,Nat.add_mul,Nat.add_mul]
  have e1:q*b*x=q*x*b:=by rw [Nat.mul_right_comm]
  have e2:r*x=x*r:=Nat.mul_comm _ _
  have e3:y*b=b*y:=Nat.mul_comm _ _
  rw [e1,e2,e3]
  exact Nat.add_le_add_left h4 _
 ·rw [hc2,Nat.add_mul,Nat.add_mul]
  have e1:q*x*d=q*d*x:=by rw [Nat.mul_right_comm]
  have e2:y*d=d*y:=Nat.mul_comm _ _
  have e3:u*x=x*u:=Nat.mul_comm _ _
  rw [e1,e2,e3]
  exact Nat.add_le_add_left h3 _
 ·rw [Nat.gcd_comm,Nat.add_comm,Nat.gcd_add_mul_right_right]
  exact h5
theorem C1W(F:Nat)(hF:D9 F)(N:Nat){a b c d:Nat}(ha:a < A8L)(hb:0 < b∧b < A8L)(hc:c < A8L)(hd:0 < d∧d < A8L)(hle:a*d≤c*b) :
  (∃ n,A7F a b c d n 1∧G0 (N+1) F (toW (a:Int)) (toW (b:Int)) (toW (c:Int)) (toW (d:Int))=some (toW (n:Int),(toW 1,()))) ∨
  (0 < a % b∧a / b*d < c∧c - a / b*d < d∧d*(a % b)≤b*(c - a / b*d) ∧
   G0 (N+1) F (toW (a:Int)) (toW (b:Int)) (toW (c:Int)) (toW (d:Int)) =
    (G0 N F (toW (d:Int)) (toW ((c - a / b*d:Nat):Int)) (toW (b:Int)) (toW ((a % b:Nat):Int))).bind fun r13 =>
     (Q6 F (toW ((a / b:Nat):Int)) r13.1).bind fun r14=>(Z8 F r14.1 r13.2.1).bind fun r15=>some (r15.1,(r13.1,()))):=by
 have ht:=C1V
 have hqa:a / b≤a:=Nat.div_le_self a b
 have hdm:=Nat.div_add_mod a b
 have hml:=Nat.mod_lt a hb.1
 have hone:O5 F 1=some (toW ((1:Nat):Int),()):=I9 F (by unfold I64; omega)
 have e1:=A1c F hF (a:=a) (b:=b) (by omega) (by omega) hb.1
 have e2:J7 F (toW ((a % b:Nat):Int))=some (if a % b=0 then 0 else 1,()):=by
  rw [H2 F hF (Y4 (by omega)),F8]
  congr 2
  split
  ·rw [iP (by omega)]
  ·rw [iN (by omega),iN (by omega)]
 generalize hq:a / b=q at *
 generalize hr:a % b=r at *
 have haq:a=q*b+r:=by rw [Nat.mul_comm q b]; omega
 have mq:q*d < C9:=D0s (by omega) hd.2
 have mq1:(q+1)*d < C9:=D0s (by omega) hd.2
 have hqc:q*d≤c:=by
  refine Nat.le_of_mul_le_mul_right ?_ hb.1
  refine Nat.le_trans ?_ hle
  rw [haq,Nat.add_mul,Nat.mul_right_comm]
  exact Nat.le_add_right _ _
 have e5:=C7n F hF (a:=q) (b:=d) (by omega) (by omega) mq
 by_cases c0:r=0
 ·left
  refine ⟨q,A7F.whole hd.1 (by omega) hqc,?_⟩
  have c3:=A1b F hF (Y4 mq) (Y4 (v:=c) (by omega))
  rw [F8,F8] at c3
  have c4:leI (if((q*d:Nat):Int) < (c:Int) then -1 else if(c:Int) < ((q*d:Nat):Int) then 1 else 0) 0=true:=by
   unfold leI
   refine decide_eq_true ?_
   split
   ·omega
   ·rw [iN (by omega)]; omega
  rw [iP c0] at e2
  unfold G0
  simp only [e1,e2,bS,show eqI (0:Int) 0=true from rfl,Bool.not_true,cF,e5,c3,c4,cT,hone]
  rfl
 ·have e3:=D2h F hF (a:=q) (b:=1) (by omega) (by omega) (by omega)
  have e4:=C7n F hF (a:=q+1) (b:=d) (by omega) (by omega) mq1
  have c3:=A1b F hF (Y4 mq1) (Y4 (v:=c) (by omega))
  rw [F8,F8] at c3
  have hmul:(q+1)*d=q*d+d:=Nat.succ_mul q d
  have z1:eqI (1:Int) 0=false:=rfl
  by_cases c1:(q+1)*d≤c
  ·left
   refine ⟨q+1,A7F.whole hd.1 (by rw [Nat.succ_mul]; omega) c1,?_⟩
   have c4:leI (if(((q+1)*d:Nat):Int) < (c:Int) then -1 else if(c:Int) < (((q+1)*d:Nat):Int) then 1 else 0) 0=true:=by
    unfold leI
    refine decide_eq_true ?_
    split
    ·omega
    ·rw [iN (by omega)]; omega
   unfold G0
   simp only [e1,e2,bS,iN c0,z1,Bool.not_false,cT,hone,e3,e4,c3,c4]
   rfl
  ·right
   have c4:leI (if(((q+1)*d:Nat):Int) < (c:Int) then -1 else if(c:Int) < (((q+1)*d:Nat):Int) then 1 else 0) 0=false:=by
    unfold leI
    refine decide_eq_false ?_
    rw [iN (by omega),iP (by omega)]
    omega
   have e6:=E0e F hF (a:=c) (b:=q*d) (by omega) mq hqc
   have hlt:q*d < c:=by
    rcases Nat.lt_or_ge (q*d) c with h | h
    ·exact h
    ·exfalso
     have:c=q*d:=by omega
     rw [this,haq,Nat.add_mul,Nat.mul_right_comm] at hle
     have:=Nat.mul_pos (Nat.pos_of_ne_zero c0) hd.1
     omega
   refine ⟨by omega,hlt,by omega,?_,?_⟩
   ·have h1:q*d*b+r*d≤q*d*b+b*(c - q*d):=by
     have k1:q*d*b+r*d=a*d:=by rw [haq,Nat.add_mul,Nat.mul_right_comm]
     have k2:q*d*b+b*(c - q*d)=c*b:=by
      rw [Nat.mul_comm b,← Nat.add_mul]
      congr 1
      omega
     rw [k1,k2]
     exact hle
    rw [Nat.mul_comm d r]
    omega
   ·conv=>lhs; unfold G0
    simp only [e1,e2,bS,iN c0,z1,Bool.not_false,cT,hone,e3,e4,c3,c4,cF,e5,e6]
theorem C1X(F:Nat)(hF:D9 F){a b c d x y:Nat}(ha:a < A8L)(hb:b < A8L)(hc:c < A8L)(hd:0 < d∧d < A8L)(hqc:a / b*d≤c)(h:A7F d (c - a / b*d) b (a % b) x y) :
  ((Q6 F (toW ((a / b:Nat):Int)) (toW (x:Int))).bind fun r14=>(Z8 F r14.1 (toW (y:Int))).bind fun r15=>some (r15.1,(toW (x:Int),())))=some (toW ((a / b*x+y:Nat):Int),(toW (x:Int),()))∧A7F a b c d (a / b*x+y) x:=by
 have hdm:=Nat.div_add_mod a b
 have hf:=A7F.deep (a:=a) (b:=b) (by rw [Nat.mul_comm (a / b) b]; omega) hqc hd.1 h
 have ht:=C1V
 have hqa:a / b≤a:=Nat.div_le_self a b
 have hs:a / b*x+y < A8L:=by rcases hf.1 with h1 | h1 <;> omega
 have hx:x < A8L:=by rcases hf.1 with h1 | h1 <;> omega
 refine ⟨?_,hf⟩
 rw [C7n F hF (by omega) (by omega) (D0s (by omega) hx)]
 simp only [bS]
 rw [D2h F hF (D0s (by omega) hx) (by omega) (by omega)]
 rfl
theorem B0W(F:Nat)(hF:D9 F):∀ (k N:Nat) {a b c d:Nat},a < A8L→0 < b∧b < A8L→c < A8L→0 < d∧d < A8L→d < 2 ^ k→a*d≤c*b→2*k < N →
  ∃ n m:Nat,A7F a b c d n m∧G0 N F (toW (a:Int)) (toW (b:Int)) (toW (c:Int)) (toW (d:Int))=some (toW (n:Int),(toW (m:Int),())):=by
 intro k
 induction k with
 | zero=>intro N a b c d ha hb hc hd hk _ _; omega
 | succ k ih =>
  intro N a b c d ha hb hc hd hk hle hN
  obtain ⟨N,rfl⟩:∃ M,N=M+1+1:=⟨N - 2,by omega⟩
  rcases C1W F hF (N+1) ha hb hc hd hle with ⟨n,h1,h2⟩ | ⟨h1,h2,h3,h4,h5⟩
  ·exact ⟨n,1,h1,h2⟩
  have hml:=Nat.mod_lt a hb.1
  have key:∃ x y:Nat,A7F d (c - a / b*d) b (a % b) x y∧G0 (N+1) F (toW (d:Int)) (toW ((c - a / b*d:Nat):Int)) (toW (b:Int)) (toW ((a % b:Nat):Int))=some (toW (x:Int),(toW (y:Int),())):=by
   generalize hu:c - a / b*d=u at *
   generalize hv:a % b=v at *
   rcases C1W F hF N (a:=d) (b:=u) (c:=b) (d:=v) hd.2 ⟨by omega,by omega⟩ hb.2 ⟨h1,by omega⟩ h4 with ⟨n,k1,k2⟩ | ⟨k1,k2,k3,k4,k5⟩
   ·exact ⟨n,1,k1,k2⟩
   have hml2:=Nat.mod_lt d (show 0 < u by omega)
   have hdm2:=Nat.div_add_mod d u
   have hhalf:2*(d % u) < d:=by
    have:u*1≤u*(d / u):=Nat.mul_le_mul_left u (Nat.div_pos (by omega) (by omega))
    omega
   obtain ⟨x,y,f1,f2⟩:=ih N (a:=v) (b:=b - d / u*v) (c:=u) (d:=d % u) (by omega) ⟨by omega,by omega⟩ (by omega) ⟨k1,by omega⟩ (by rw [Nat.pow_succ] at hk; omega) (by rw [Nat.mul_comm v]; rw [Nat.mul_comm] at k4; exact k4) (by omega)
   rw [f2] at k5
   simp only [bS] at k5
   have g:=C1X F hF (a:=d) (b:=u) (c:=b) (d:=v) hd.2 (by omega) hb.2 ⟨h1,by omega⟩ (by omega) f1
   exact ⟨_,_,g.2,k5.trans g.1⟩
  obtain ⟨x,y,f1,f2⟩:=key
  rw [f2] at h5
  simp only [bS] at h5
  have g:=C1X F hF ha hb.2 hc hd (by omega) f1
  exact ⟨_,_,g.2,h5.trans g.1⟩
abbrev Co:=Bool×(Rt×(Rt×Unit))
abbrev oC:Co:=(true,(zR,(zR,())))
def COk(c:Co):Prop:=ROk c.2.1∧ROk c.2.2.1
theorem E4V:COk oC:=⟨A4O,A4O⟩
theorem B4G{p q:Rt}:rc p q≤0↔wi p.1*wi q.2.1≤wi q.1*wi p.2.1:=by
 unfold rc D0q; split
 ·omega
 ·split <;> omega
theorem E4W{p q:Rt}:0 < rc p q↔wi q.1*wi p.2.1 < wi p.1*wi q.2.1:=by
 unfold rc D0q; split
 ·omega
 ·split <;> omega
theorem E4X{p q:Rt}:rc p q < 0↔wi p.1*wi q.2.1 < wi q.1*wi p.2.1:=by
 unfold rc D0q; split
 ·omega
 ·split <;> omega
theorem B4H{p q:Rt}:rc p q < 0↔0 < rc q p:=by rw [E4X,E4W]
theorem A3f{p q r:Rt}(hp:RV p)(hq:RV q)(hr:RV r)(h1:rc p q≤0)(h2:rc q r≤0):rc p r≤0:=by
 rw [B4G] at *
 have p0:=hp.2.2.1
 have q0:=hq.2.2.1
 have r0:=hr.2.2.1
 generalize wi p.1=a at *
 generalize wi p.2.1=b at *
 generalize wi q.1=c at *
 generalize wi q.2.1=d at *
 generalize wi r.1=e at *
 generalize wi r.2.1=f at *
 refine Int.le_of_mul_le_mul_right ?_ q0
 have k1:a*d*f≤c*b*f:=Int.mul_le_mul_of_nonneg_right h1 (by omega)
 have k2:c*f*b≤e*d*b:=Int.mul_le_mul_of_nonneg_right h2 (by omega)
 have e1:a*f*d=a*d*f:=by rw [Int.mul_right_comm]
 have e2:c*f*b=c*b*f:=by rw [Int.mul_right_comm]
 have e3:e*b*d=e*d*b:=by rw [Int.mul_right_comm]
 rw [e1,e3]
 omega
theorem B4I{w:W}(h:WOk w)(hv:Vl w)(h0:0≤wi w):w=toW ((wv w.2.1:Nat):Int):=by
 have h1:=B0z h hv
 have h2:=A2G w
 rw [show wi w=((wv w.2.1:Nat):Int) by omega] at h1
 exact h1.symm
theorem C1Y{a b c d n m:Nat}(ha:Sm a)(hb:Sm b)(hc:Sm c)(hd:Sm d)(h:A7F a b c d n m)(s:Int)(hs:s=(n:Int)∨s=-(n:Int)):ROk (toW s,(toW (m:Int),()))∧RV (toW s,(toW (m:Int),())):=by
 obtain ⟨h1,h2,h3,h4,h5⟩:=h
 have ht:170141183460469231731687303715884105728 < C9:=by unfold C9; decide
 have hn:Sm n:=by unfold Sm at *; omega
 have hm:Sm m:=by unfold Sm at *; omega
 have habs:s.natAbs=n:=by omega
 have e1:wv (toW s).2.1=n:=by
  have:=A2G (toW s)
  rw [F8,habs] at this
  exact this.symm
 have e2:wv (toW (m:Int)).2.1=m:=by
  have:=A2G (toW (m:Int))
  rw [F8,Int.natAbs_natCast] at this
  exact this.symm
 refine ⟨⟨I4 (by unfold Sm at hn; omega),I4 (by unfold Sm at hm; omega)⟩,B2f _,B2f _,?_,?_,?_,?_⟩
 ·rw [F8]; omega
 ·rw [e1]; exact hn
 ·rw [e2]; exact hm
 ·unfold D2a
  rw [e1,e2]
  exact h5
def Btw(p q s:Rt):Prop:=RV s∧rc p s≤0∧rc s q≤0
theorem A8N(F:Nat)(hF:D9 F){p q:Rt}(hp:ROk p)(hq:ROk q):∃ s ok,A36 F p q=some (s,ok,())∧ROk s∧(RV p→RV q→rc p q≤0→Btw p q s):=by
 unfold A36
 rw [S7 F hF hp,S7 F hF hq]
 simp only [bS]
 by_cases vp:RV p
 rotate_left
 ·rw [decide_eq_false vp]
  exact ⟨zR,false,rfl,A4O,fun h=>absurd h vp⟩
 by_cases vq:RV q
 rotate_left
 ·rw [decide_eq_false vq,decide_eq_true vp]
  exact ⟨zR,false,rfl,A4O,fun _ h=>absurd h vq⟩
 rw [decide_eq_true vp,decide_eq_true vq,N2 F hF hp hq vp vq]
 simp only [bS,Bool.not_true,cF]
 by_cases c0:0 < rc p q
 ·rw [B9.2 c0]
  exact ⟨zR,false,rfl,A4O,fun _ _ h=>by omega⟩
 have x0:ltI 0 (rc p q)=false:=by rw [← Bool.not_eq_true,B9]; exact c0
 rw [x0,cF,H2 F hF hp.1,H2 F hF hq.1]
 simp only [bS]
 have hle:wi p.1*wi q.2.1≤wi q.1*wi p.2.1:=B4G.1 (by omega)
 have pd:=B4I hp.2 vp.2.1 (by have:=vp.2.2.1; omega)
 have qd:=B4I hq.2 vq.2.1 (by have:=vq.2.2.1; omega)
 have pd0:=vp.2.2.1
 have qd0:=vq.2.2.1
 have apn:=A2G p.1
 have aqn:=A2G q.1
 have apd:=A2G p.2.1
 have aqd:=A2G q.2.1
 obtain ⟨_,_,_,sp1,sp2,_⟩:=vp
 obtain ⟨_,_,_,sq1,sq2,_⟩:=vq
 have hP:∀ v:Nat,Sm v→v < A8L:=fun v hv=>by unfold Sm at hv; unfold A8L; omega
 by_cases c1:0 < wi p.1
 ·
  have y1:leI (if wi p.1=0 then 0 else if wi p.1 < 0 then -1 else 1) 0=false:=by
   unfold leI; refine decide_eq_false ?_
   rw [iN (by omega),iN (by omega)]; omega
  rw [y1,cF]
  unfold Z9 A00
  have c2:0≤wi q.1:=by
   rcases Int.lt_or_le (wi q.1) 0 with h | h
   ·have h1:=Int.mul_pos c1 qd0
    have h2:=Int.mul_neg_of_neg_of_pos h pd0
    omega
   ·exact h
  have y2:ltI (if wi q.1=0 then 0 else if wi q.1 < 0 then -1 else 1) 0=false:=by
   rw [← Bool.not_eq_true,B9]
   split
   ·omega
   ·rw [iN (by omega)]; omega
  have pn:=B4I hp.1 (by assumption) (by omega)
  have qn:=B4I hq.1 (by assumption) (by omega)
  simp only [cF,H2 F hF hq.1,bS,y2]
  rw [show wi p.1=((wv p.1.2.1:Nat):Int) by omega,show wi q.1=((wv q.1.2.1:Nat):Int) by omega,show wi p.2.1=((wv p.2.1.2.1:Nat):Int) by omega,show wi q.2.1=((wv q.2.1.2.1:Nat):Int) by omega] at hle
  obtain ⟨n,m,f1,f2⟩:=B0W F hF 128 F (a:=wv p.1.2.1) (b:=wv p.2.1.2.1) (c:=wv q.1.2.1) (d:=wv q.2.1.2.1) (hP _ sp1) ⟨by omega,hP _ sp2⟩ (hP _ sq1) ⟨by omega,hP _ sq2⟩ (by have:=hP _ sq2; unfold A8L at this; exact this) (by exact_mod_cast hle) (by unfold D9 at hF; omega)
  rw [← pn,← pd,← qn,← qd] at f2
  unfold A13
  rw [f2]
  obtain ⟨r1,r2⟩:=C1Y sp1 sp2 sq1 sq2 f1 _ (.inl rfl)
  refine ⟨_,_,rfl,r1,fun _ _ _=>⟨r2,?_,?_⟩⟩
  ·rw [B4G,F8,F8]
   have:=f1.2.2.1
   rw [show wi p.1=((wv p.1.2.1:Nat):Int) by omega,show wi p.2.1=((wv p.2.1.2.1:Nat):Int) by omega]
   exact_mod_cast this
  ·rw [B4G,F8,F8]
   have:=f1.2.2.2.1
   rw [show wi q.1=((wv q.1.2.1:Nat):Int) by omega,show wi q.2.1=((wv q.2.1.2.1:Nat):Int) by omega]
   exact_mod_cast this
 ·have y1:leI (if wi p.1=0 then 0 else if wi p.1 < 0 then -1 else 1) 0=true:=by
   unfold leI; refine decide_eq_true ?_
   split
   ·omega
   ·rw [iP (by omega)]; omega
  rw [y1,cT]
  unfold Z9 A00
  by_cases c2:0≤wi q.1
  ·have y2:leI 0 (if wi q.1=0 then 0 else if wi q.1 < 0 then -1 else 1)=true:=by
    unfold leI; refine decide_eq_true ?_
    split
    ·omega
    ·rw [iN (by omega)]; omega
   rw [y2,cT,A6L F (by unfold I64; omega)]
   refine ⟨of0,true,rfl,D2c,fun _ _ _=>⟨D2d,?_,?_⟩⟩
   ·rw [B4G]
    show wi p.1*wi (toW 1)≤wi (toW 0)*wi p.2.1
    rw [F8,F8]
    omega
   ·rw [B4G]
    show wi (toW 0)*wi q.2.1≤wi q.1*wi (toW 1)
    rw [F8,F8]
    omega
  ·have y2:leI 0 (if wi q.1=0 then 0 else if wi q.1 < 0 then -1 else 1)=false:=by
    unfold leI; refine decide_eq_false ?_
    rw [iN (by omega),iP (by omega)]; omega
   have y3:ltI (if wi q.1=0 then 0 else if wi q.1 < 0 then -1 else 1) 0=true:=by
    rw [B9,iN (by omega),iP (by omega)]; omega
   have c3:wi p.1 < 0:=by
    rcases Int.lt_or_le (wi p.1) 0 with h | h
    ·exact h
    ·have h0:wi p.1=0:=by omega
     have h2:=Int.mul_neg_of_neg_of_pos (show wi q.1 < 0 by omega) pd0
     rw [h0,Int.zero_mul] at hle
     omega
   simp only [y2,cF,H2 F hF hq.1,bS,y3,cT,A0y F hF hq.1,A0y F hF hp.1]
   have hneg:-wi q.1*wi p.2.1≤-wi p.1*wi q.2.1:=by rw [Int.neg_mul,Int.neg_mul]; omega
   rw [show -wi p.1=((wv p.1.2.1:Nat):Int) by omega,show -wi q.1=((wv q.1.2.1:Nat):Int) by omega,show wi p.2.1=((wv p.2.1.2.1:Nat):Int) by omega,show wi q.2.1=((wv q.2.1.2.1:Nat):Int) by omega] at hneg
   obtain ⟨n,m,f1,f2⟩:=B0W F hF 128 F (a:=wv q.1.2.1) (b:=wv q.2.1.2.1) (c:=wv p.1.2.1) (d:=wv p.2.1.2.1) (hP _ sq1) ⟨by omega,hP _ sq2⟩ (hP _ sp1) ⟨by omega,hP _ sp2⟩ (by have:=hP _ sp2; unfold A8L at this; exact this) (by exact_mod_cast hneg) (by unfold D9 at hF; omega)
   rw [← pd,← qd] at f2
   obtain ⟨r1,r2⟩:=C1Y sq1 sq2 sp1 sp2 f1 (-(n:Int)) (.inr rfl)
   have hnb:n < C9:=by
    have ht:170141183460469231731687303715884105728 < C9:=by unfold C9; decide
    have:=f1.1
    unfold Sm at *
    omega
   unfold A13
   rw [show -wi p.1=((wv p.1.2.1:Nat):Int) by omega,show -wi q.1=((wv q.1.2.1:Nat):Int) by omega,f2]
   simp only [bS]
   rw [A0y F hF (Y4 hnb),F8]
   refine ⟨_,_,rfl,r1,fun _ _ _=>⟨r2,?_,?_⟩⟩
   ·rw [B4G,F8,F8]
    have h1:=f1.2.2.2.1
    have h2:(n:Int)*wi p.2.1≤-wi p.1*(m:Int):=by
     rw [show -wi p.1=((wv p.1.2.1:Nat):Int) by omega,show wi p.2.1=((wv p.2.1.2.1:Nat):Int) by omega]
     exact_mod_cast h1
    rw [Int.neg_mul] at h2
    rw [Int.neg_mul]
    omega
   ·rw [B4G,F8,F8]
    have h1:=f1.2.2.1
    have h2:-wi q.1*(m:Int)≤(n:Int)*wi q.2.1:=by
     rw [show -wi q.1=((wv q.1.2.1:Nat):Int) by omega,show wi q.2.1=((wv q.2.1.2.1:Nat):Int) by omega]
     exact_mod_cast h1
    rw [Int.neg_mul] at h2
    rw [Int.neg_mul]
    omega
def cvB(c:Co):Bool:=bif c.1 then eqT (.pair .bool (.pair (.pair (.pair .bool (.pair (.arr 4 (.int .u64)) .unit)) (.pair (.pair .bool (.pair (.arr 4 (.int .u64)) .unit)) .unit)) (.pair (.pair (.pair .bool (.pair (.arr 4 (.int .u64)) .unit)) (.pair (.pair .bool (.pair (.arr 4 (.int .u64)) .unit)) .unit)) .unit))) c oC else decide (RV c.2.1∧RV c.2.2.1∧rc c.2.1 c.2.2.1≤0)
theorem A2w{c:Co}(h:c.1=false):cvB c=true↔RV c.2.1∧RV c.2.2.1∧rc c.2.1 c.2.2.1≤0:=by
 unfold cvB
 rw [h,cF,decide_eq_true_iff]
theorem A16(F:Nat)(hF:D9 F){c:Co}(h:COk c):A0p F c=some (cvB c,()):=by
 unfold A0p cvB A1f
 cases c.1
 rotate_left
 ·rfl
 simp only [cF,S7 F hF h.1,S7 F hF h.2,bS]
 by_cases v1:RV c.2.1
 rotate_left
 ·have d1:decide (RV c.2.1∧RV c.2.2.1∧rc c.2.1 c.2.2.1≤0)=false:=decide_eq_false fun h=>v1 h.1
  rw [d1,decide_eq_false v1]
  rfl
 by_cases v2:RV c.2.2.1
 rotate_left
 ·have d1:decide (RV c.2.1∧RV c.2.2.1∧rc c.2.1 c.2.2.1≤0)=false:=decide_eq_false fun h=>v2 h.2.1
  rw [d1,decide_eq_true v1,decide_eq_false v2]
  rfl
 rw [decide_eq_true v1,decide_eq_true v2,N2 F hF h.1 h.2 v1 v2]
 simp only [bS,cT]
 unfold leI
 refine congrArg (fun b=>some (b,())) (decide_eq_decide.2 ?_)
 exact ⟨fun h=>⟨v1,v2,h⟩,fun h=>h.2.2⟩
theorem A5y(F:Nat)(hF:D9 F){c:Co}(h:COk c):∃ s,A2E F c=some (s,())∧ROk s∧(cvB c=true→RV s∧(c.1=false→Btw c.2.1 c.2.2.1 s)):=by
 unfold A2E
 rw [A16 F hF h]
 simp only [bS]
 by_cases v:cvB c=true
 rotate_left
 ·rw [Bool.not_eq_true] at v
  rw [v]
  exact ⟨zR,rfl,A4O,fun h=>by cases h⟩
 rw [v]
 simp only [Bool.not_true,cF]
 cases hc:c.1
 ·obtain ⟨s,ok,e,r1,r2⟩:=A8N F hF h.1 h.2
  rw [e]
  obtain ⟨v1,v2,v3⟩:=(A2w hc).1 v
  have hb:=r2 v1 v2 v3
  exact ⟨s,rfl,r1,fun _=>⟨hb.1,fun _=>hb⟩⟩
 ·rw [A6L F (by unfold I64; omega)]
  exact ⟨of0,rfl,D2c,fun _=>⟨D2d,fun h=>by cases h⟩⟩
def Met(a b c:Co):Prop:=cvB c=true∧((a.1=true∧c=b)∨(b.1=true∧c=a)∨(a.1=false∧b.1=false∧c.1=false∧(c.2.1=a.2.1∨c.2.1=b.2.1)))
def C7o(a b:Co):Prop:=cvB a=true→cvB b=true→a.1=false∧b.1=false∧(rc a.2.1 b.2.1≤0→0 < rc b.2.1 a.2.2.1)
theorem A7G(F:Nat)(hF:D9 F){a b:Co}(ha:COk a)(hb:COk b):∃ c ok,A4k F a b=some (c,ok,())∧COk c∧(ok=true→Met a b c)∧(ok=false→C7o a b):=by
 unfold A4k
 rw [A16 F hF ha,A16 F hF hb]
 simp only [bS]
 have zc:COk (false,(zR,(zR,()))):=⟨A4O,A4O⟩
 by_cases va:cvB a=true
 rotate_left
 ·have va':=va
  rw [Bool.not_eq_true] at va'
  rw [va']
  exact ⟨_,_,rfl,zc,(fun h=>by cases h),fun _ h=>absurd h va⟩
 by_cases vb:cvB b=true
 rotate_left
 ·have vb':=vb
  rw [Bool.not_eq_true] at vb'
  rw [va,vb']
  exact ⟨_,_,rfl,zc,(fun h=>by cases h),fun _ _ h=>absurd h vb⟩
 rw [va,vb]
 simp only [Bool.not_true,cF]
 cases oa:a.1
 rotate_left
 ·exact ⟨_,_,rfl,hb,fun _=>⟨vb,.inl ⟨oa,rfl⟩⟩,fun h=>by cases h⟩
 cases ob:b.1
 rotate_left
 ·exact ⟨_,_,rfl,ha,fun _=>⟨va,.inr (.inl ⟨ob,rfl⟩)⟩,fun h=>by cases h⟩
 obtain ⟨a1,a2,a3⟩:=(A2w oa).1 va
 obtain ⟨b1,b2,b3⟩:=(A2w ob).1 vb
 have fin:∀ (c:Co),COk c→c.1=false→RV c.2.1→RV c.2.2.1→(c.2.1=a.2.1∨c.2.1=b.2.1)→(0 < rc c.2.1 c.2.2.1→rc a.2.1 b.2.1≤0→0 < rc b.2.1 a.2.2.1) →
   ∃ d ok,A12 F (fun z15 z16=>some (z15,(z16,()))) c (false,(zR,(zR,())))=some (d,ok,())∧COk d∧(ok=true→Met a b d)∧(ok=false→C7o a b):=by
  intro c hc oc c1 c2 hl hap
  unfold A12
  rw [N2 F hF hc.1 hc.2 c1 c2]
  simp only [bS]
  by_cases k:0 < rc c.2.1 c.2.2.1
  ·rw [B9.2 k]
   exact ⟨_,_,rfl,zc,(fun h=>by cases h),fun _ _ _=>⟨oa,ob,hap k⟩⟩
  ·have:ltI 0 (rc c.2.1 c.2.2.1)=false:=by rw [← Bool.not_eq_true,B9]; exact k
   rw [this]
   exact ⟨c,true,rfl,hc,fun _=>⟨(A2w oc).2 ⟨c1,c2,by omega⟩,.inr (.inr ⟨oa,ob,oc,hl⟩)⟩,fun h=>by cases h⟩
 have fin2:∀ (c:Co),COk c→c.1=false→RV c.2.1→c.2.2.1=a.2.2.1→((c.2.1=a.2.1∧rc b.2.1 a.2.1≤0)∨(c.2.1=b.2.1)) →
   ∃ d ok,A1L F (fun z15 z16=>some (z15,(z16,()))) c b (false,(zR,(zR,())))=some (d,ok,())∧COk d∧(ok=true→Met a b d)∧(ok=false→C7o a b):=by
  intro c hc oc c1 ch hl
  unfold A1L
  have c2:RV c.2.2.1:=by rw [ch]; exact a2
  rw [N2 F hF hb.2 hc.2 b2 c2]
  simp only [bS]
  by_cases k:rc b.2.2.1 c.2.2.1 < 0
  ·rw [B9.2 k,cT]
   refine fin (c.1,(c.2.1,(b.2.2.1,c.2.2.2))) ⟨hc.1,hb.2⟩ oc c1 b2 (hl.imp (fun h=>h.1) id) ?_
   intro h h2
   exfalso
   rcases hl with ⟨h3,h4⟩ | h3
   ·have h:0 < rc c.2.1 b.2.2.1:=h
    rw [h3] at h
    have:=A3f a1 b1 b2 h2 b3
    omega
   ·have h:0 < rc c.2.1 b.2.2.1:=h
    rw [h3] at h
    omega
  ·have:ltI (rc b.2.2.1 c.2.2.1) 0=false:=by rw [← Bool.not_eq_true,B9]; exact k
   rw [this,cF]
   refine fin c hc oc c1 c2 (hl.imp (fun h=>h.1) id) ?_
   intro h h2
   rcases hl with ⟨h3,h4⟩ | h3
   ·rw [h3,ch] at h
    omega
   ·rw [h3,ch] at h
    exact h
 rw [N2 F hF hb.1 ha.1 b1 a1]
 simp only [bS,cF]
 by_cases k:0 < rc b.2.1 a.2.1
 ·rw [B9.2 k,cT]
  exact fin2 (false,(b.2.1,a.2.2)) ⟨hb.1,ha.2⟩ rfl b1 rfl (.inr rfl)
 ·have:ltI 0 (rc b.2.1 a.2.1)=false:=by rw [← Bool.not_eq_true,B9]; exact k
  rw [this,cF]
  exact fin2 a ha oa a1 rfl (.inl ⟨rfl,by omega⟩)
abbrev Pi:=Int×(Int×(Int×(Co×Unit)))
abbrev nC:Co:=(false,(zR,(zR,())))
def B7h:Ty→Bool
  | .int _=>true
  | .bool=>true
  | .unit=>true
  | .pair a b=>B7h a && B7h b
  | .arr _ t=>B7h t
  | _=>false
theorem C1Z{α:Type}(f:α→α→Bool)(h:∀ x,f x x=true):∀ l:List α,eqL f l l=true
  | []=>rfl
  | x::l=>by show(f x x && eqL f l l)=true; rw [h,C1Z f h l]; rfl
theorem A5Y:∀ (t:Ty),B7h t=true→∀ x:t.den,eqT t x x=true
  | .int _,_,x=>decide_eq_true rfl
  | .bool,_,x=>by show((x:Bool) == x)=true; exact beq_self_eq_true _
  | .unit,_,_=>rfl
  | .pair a b,h,x=>by
    simp only [B7h,Bool.and_eq_true] at h
    show(eqT a x.1 x.1 && eqT b x.2 x.2)=true
    rw [A5Y a h.1,A5Y b h.2]; rfl
  | .arr _ t,h,x=>C1Z _ (A5Y t h) x
  | .str,h,_=>by cases h
  | .slice _,h,_=>by cases h
  | .nil,h,_=>by cases h
  | .val,h,_=>by cases h
def A8O(t:Int):Prop:=0≤t∧t≤4611686018427387904
theorem B4J(F:Nat){t:Int}(h:A8O t):X2 F t=some (true,()):=by
  obtain ⟨h1,h2⟩:=h
  have e1:leI 0 t=true:=decide_eq_true h1
  have e2:leI t 4611686018427387904=true:=decide_eq_true h2
  unfold X2
  rw [e1,e2]
  rfl
theorem A7H(F:Nat){t:Int}(h:A8O t):∃ u,A5K F t=some (u,())∧1≤u∧u≤4611686018427387904:=by
  obtain ⟨h1,h2⟩:=h
  refine ⟨_,rfl,?_⟩
  unfold C7x
  split <;> omega
theorem B7i(F:Nat){v t:Int}(ht:A8O t):∃ k,A4e F v t=some (k,())∧I64 k:=by
  obtain ⟨u,e,h1,h2⟩:=A7H F ht
  have z1:eqI u 0=false:=by rw [← Bool.not_eq_true,C4]; omega
  have z2:eqI u (-1)=false:=by rw [← Bool.not_eq_true,C4]; omega
  have j:∃ k b,X3 F (fun z11 z12=>some (z11,(z12,()))) v u=some (k,(b,()))∧I64 k:=by
    unfold X3
    rw [z1,cF,cF]
    cases (!eqI (A1y v u) 0) with
    | false=>exact ⟨_,_,rfl,F9 _⟩
    | true=>cases (!eqT .bool (ltI v 0) (ltI u 0)) with
      | false=>exact ⟨_,_,rfl,F9 _⟩
      | true=>exact ⟨_,_,rfl,F9 _⟩
  obtain ⟨k,b,j1,j2⟩:=j
  refine ⟨k,?_,j2⟩
  unfold A4e A42
  rw [e]
  simp only [bS,z1,z2,cF,j1]
  cases eqI v (-9223372036854775808) <;> rfl
theorem A8A(F:Nat)(hF:D9 F){x y:W}(hx:WOk x)(hy:WOk y):∃ z b,A1J F x y=some (z,b,())∧WOk z:=by
  unfold A1J
  rw [A0y F hF hy]
  simp only [bS]
  rw [A3X F hF hx (I4 (by rw [Int.natAbs_neg]; exact hy.abs))]
  exact ⟨_,_,rfl,B4A _⟩
theorem B7j(F:Nat)(hF:D9 F){x y:W}(hx:WOk x)(hy:WOk y):∃ z b,Z8 F x y=some (z,b,())∧WOk z:=by
  rw [A3X F hF hx hy]
  exact ⟨_,_,rfl,B4A _⟩
theorem B4K(F:Nat)(hF:D9 F){k t:Int}(hk:I64 k)(ht:A8O t):∃ w,A5N F k t=some (w,())∧WOk w:=by
  obtain ⟨u,e,h1,h2⟩:=A7H F ht
  have hu:I64 u:=by unfold I64; omega
  unfold A5N
  rw [I9 F hk,e]
  simp only [bS]
  rw [I9 F hu]
  simp only [bS]
  rw [A2H F hF (I4 (A5w hk)) (I4 (A5w hu))]
  exact ⟨_,rfl,B4A _⟩
theorem A8P(F:Nat)(hF:D9 F){w:W}(hw:WOk w){v t d:Int}(hv:I64 v)(ht:A8O t)(hd:0≤d∧d≤18446744073709551615):∃ c ok,A35 F w v t d=some (c,ok,())∧COk c∧c.1=false:=by
  have zc:COk nC∧nC.1=false:=⟨⟨A4O,A4O⟩,rfl⟩
  have hwa:WOk (false,w.2):=hw
  have hc:WOk ((false,([0,4,0,0],())):W):=⟨wd4 (by omega) (by omega) (by omega) (by omega),rfl⟩
  have htI:I64 t:=by obtain ⟨h1,h2⟩:=ht; unfold I64; omega
  unfold A35
  rw [A09 F hF hw]
  simp only [bS]
  cases decide (Vl w) with
  | false=>exact ⟨_,_,rfl,zc⟩
  | true =>
    obtain ⟨v0,hv0⟩:∃ v0,V1 F (false,w.2) (false,([0,4,0,0],()))=some (v0,()):=⟨_,A1b F hF hwa hc⟩
    rw [hv0]
    simp only [bS,Bool.not_true,cF]
    cases leI 0 v0 with
    | true=>exact ⟨_,_,rfl,zc⟩
    | false =>
      rw [B4J F ht]
      simp only [bS,Bool.not_true,cF]
      cases eqI d 0 with
      | true=>exact ⟨_,_,rfl,zc⟩
      | false =>
        obtain ⟨s1,b1,e1,h1⟩:=A8A F hF (I4 (A5w hv)) hw
        obtain ⟨s2,b2,e2,h2⟩:=A8A F hF h1 (I4 (A5w htI))
        obtain ⟨s3,b3,e3,h3⟩:=B7j F hF h1 (I4 (A5w htI))
        have hdo:WOk (toW d):=I4 (by have:=A2j; omega)
        obtain ⟨q1,o1,e4,r1,_⟩:=B8y F hF h2 hdo
        obtain ⟨q2,o2,e5,r2,_⟩:=B8y F hF h3 hdo
        refine ⟨(false,(q1,(q2,()))),true,?_,⟨r1,r2⟩,rfl⟩
        simp only [I9 F hv,I9 F htI,A1o F hd,e1,e2,e3,e4,e5,bS,cF]
def SV(F:Nat)(tol idx cnt:Int)(f:Smp)(last key:Int)(c:Co):Prop :=
  A8O tol∧0≤idx∧idx+cnt≤1000∧COk c ∧
  ((cnt=0∧idx=0∧f=(0,(0,()))∧last=0∧key=0∧c=nC) ∨
   (1≤cnt∧(I64 last∧I64 f.1)∧I64 key∧A4e F f.2.1 tol=some (key,())∧((cnt=1∧last=f.1∧c=oC)∨(1 < cnt∧f.1 < last∧cvB c=true∧c.1=false))))
theorem D0t:cvB oC=true:=by
  unfold cvB
  rw [show oC.1=true from rfl,cT]
  exact A5Y _ rfl _
theorem SV.cv{F:Nat}{tol idx cnt:Int}{f:Smp}{last key:Int}{c:Co}(h:SV F tol idx cnt f last key c)(h1:1≤cnt):cvB c=true:=by
  obtain ⟨_,_,_,_,h2 | ⟨_,_,_,_,h2 | h2⟩⟩:=h
  · omega
  · rw [h2.2.2]; exact D0t
  · exact h2.2.2.1
theorem A4W(F:Nat)(hF:D9 F){tol idx cnt:Int}{f:Smp}{last key:Int}{c:Co}(h:SV F tol idx cnt f last key c) :
    A3v F (tol,(idx,(cnt,(f,(last,(key,(c,())))))))=some (true,()):=by
  obtain ⟨h1,h2,h3,h4,h5⟩:=h
  unfold A3v
  rw [B4J F h1]
  have x1:ltI idx 0=false:=by rw [← Bool.not_eq_true,B9]; omega
  have x2:ltI 1073741824 idx=false:=by rw [← Bool.not_eq_true,B9]; omega
  simp only [bS,Bool.not_true,cF,x1,x2]
  rcases h5 with ⟨c1,c2,c3,c4,c5,c6⟩ | ⟨c1,cI,cK,c2,c3⟩
  · subst c1; subst c3; subst c4; subst c5; subst c6
    rw [show eqI (0:Int) 0=true from rfl,cT]
    exact congrArg (fun b=>some (b,())) (A5Y _ rfl _)
  · have x3:eqI cnt 0=false:=by rw [← Bool.not_eq_true,C4]; omega
    have x4:eqI key key=true:=C4.2 rfl
    simp only [x3,cF,c2,bS,x4,Bool.not_true]
    rcases c3 with ⟨k1,k2,k3⟩ | ⟨k1,k2,k3,k4⟩
    · subst k1; subst k2; subst k3
      have x5:eqI f.1 f.1=true:=C4.2 rfl
      rw [show eqI (1:Int) 1=true from rfl,cT,x5,cT]
      unfold A1f
      exact congrArg (fun b=>some (b,())) (A5Y _ rfl _)
    · have x5:eqI cnt 1=false:=by rw [← Bool.not_eq_true,C4]; omega
      have x6:ltI 1 cnt=true:=B9.2 k1
      have x7:leI cnt 1073741824=true:=decide_eq_true (by omega)
      have x8:ltI f.1 last=true:=B9.2 k2
      simp only [x5,x6,x7,x8,cT,cF,A16 F hF h4,bS,k3,k4,Bool.not_false]
theorem B1j(F:Nat){tol idx cnt:Int}{f:Smp}{last key:Int}{c:Co}(h:SV F tol idx cnt f last key c)(hl:idx+cnt+1≤1000)(hc:0≤cnt){s:Smp}(hs:I64 s.1) :
    ∃ key',A3w F (tol,(idx,(cnt,(f,(last,(key,(c,()))))))) s=some ((tol,(idx+cnt,(1,(s,(s.1,(key',(oC,()))))))),())∧SV F tol (idx+cnt) 1 s s.1 key' oC:=by
  obtain ⟨h1,h2,h3,h4,h5⟩:=h
  obtain ⟨k,e,hk⟩:=B7i F (v:=s.2.1) h1
  refine ⟨k,?_,h1,by omega,by omega,E4V,.inr ⟨by omega,⟨hs,hs⟩,hk,e,.inl ⟨rfl,rfl,rfl⟩⟩⟩
  unfold A3w A1f
  simp only [e,bS]
  rw [H3 (by omega)]
theorem A5z(F:Nat)(hF:D9 F){tol idx cnt:Int}{f:Smp}{last key:Int}{c:Co}(h:SV F tol idx cnt f last key c)(h1:1≤cnt) :
    A2D F (tol,(idx,(cnt,(f,(last,(key,(c,())))))))=some ([(idx,(cnt,(key,(c,()))))],0,()):=by
  unfold A2D
  rw [A4W F hF h]
  have x3:eqI cnt 0=false:=by rw [← Bool.not_eq_true,C4]; omega
  simp only [bS,Bool.not_true,cF,x3]
theorem B4L(F:Nat)(hF:D9 F){tol idx cnt:Int}{f:Smp}{last key:Int}{c:Co}(h:SV F tol idx cnt f last key c)(hl:idx+cnt+1≤1000)(hc:0≤cnt){s:Smp}(hs:I64 s.1∧I64 s.2.1)(hlast:1≤cnt→last < s.1) :
    ∃ idx' cnt' f' key' c' ps,A5O F (tol,(idx,(cnt,(f,(last,(key,(c,()))))))) s=some ((tol,(idx',(cnt',(f',(s.1,(key',(c',()))))))),(ps,(0,())))∧SV F tol idx' cnt' f' s.1 key' c'∧idx'+cnt'=idx+cnt+1∧1≤cnt' ∧
      ((ps=[]∧idx'=idx)∨(ps=[(idx,(cnt,(key,(c,()))))]∧1≤cnt∧idx'=idx+cnt)):=by
  have key5:∃ idx' cnt' f' key' c' ps,A1N F (fun z17 z18 z19=>some (z17,(z18,(z19,())))) (tol,(idx,(cnt,(f,(last,(key,(c,()))))))) s (0,(0,(0,((0,(0,())),(0,(0,(nC,())))))))=some ((tol,(idx',(cnt',(f',(s.1,(key',(c',()))))))),(ps,(0,())))∧SV F tol idx' cnt' f' s.1 key' c'∧idx'+cnt'=idx+cnt+1∧1≤cnt' ∧
      ((ps=[]∧idx'=idx)∨(ps=[(idx,(cnt,(key,(c,()))))]∧1≤cnt∧idx'=idx+cnt)):=by
    have h':=h
    obtain ⟨h1,h2,h3,h4,h5⟩:=h'
    have x1:leI 1073741824 (C2 .i64 idx cnt)=false:=by
      rw [H3 (by omega)]
      exact decide_eq_false (by omega)
    unfold A1N
    simp only [x1,cF]
    obtain ⟨k1,e1,s1⟩:=B1j F h hl hc hs.1
    rcases h5 with ⟨c1,c2,c3,c4,c5,c6⟩ | ⟨c1,cI,cK,c2,c3⟩
    · have x2:eqI cnt 0=true:=C4.2 c1
      rw [x2,cT,e1]
      exact ⟨idx+cnt,1,s,k1,oC,[],rfl,s1,by omega,by omega,.inl ⟨rfl,by omega⟩⟩
    · have x2:eqI cnt 0=false:=by rw [← Bool.not_eq_true,C4]; omega
      obtain ⟨w,e2,hw⟩:=B4K F hF cK h1
      have hls:=hlast c1
      have hd:0≤s.1 - f.1∧0 < s.1 - f.1:=by rcases c3 with k | k <;> omega
      have hf:=A85 F hs.1 cI.2 (by omega)
      obtain ⟨c2',ok2,e3,hco,hcf⟩:=A8P F hF hw hs.2 h1 (d:=s.1 - f.1) (by have h1:=hs.1; have h2:=cI.2; unfold I64 at h1 h2; omega)
      obtain ⟨m,ok3,e4,hm,hm1,hm2⟩:=A7G F hF h4 hco
      rw [x2,cF]
      simp only [e2,hf,e3,e4,bS]
      cases ok3 with
      | false =>
        simp only [Bool.not_false,cT,A5z F hF h c1,bS,e1]
        exact ⟨idx+cnt,1,s,k1,oC,_,rfl,s1,by omega,by omega,.inr ⟨rfl,c1,rfl⟩⟩
      | true =>
        simp only [Bool.not_true,cF]
        have hmet:=hm1 rfl
        rw [H3 (by omega)]
        refine ⟨idx,cnt+1,f,key,m,[],rfl,⟨h1,h2,by omega,hm,.inr ⟨by omega,⟨hs.1,cI.2⟩,cK,c2,.inr ⟨by omega,by omega,hmet.1,?_⟩⟩⟩,by omega,by omega,.inl ⟨rfl,rfl⟩⟩
        rcases hmet.2 with ⟨_,rfl⟩ | ⟨k,_⟩ | ⟨_,_,k,_⟩
        · exact hcf
        · rw [hcf] at k; cases k
        · exact k
  unfold A5O
  rw [A4W F hF h]
  simp only [bS,Bool.not_true,cF]
  by_cases k:0 < cnt
  · have x1:ltI 0 cnt=true:=B9.2 k
    have x2:leI s.1 last=false:=decide_eq_false (by have:=hlast (by omega); omega)
    rw [x1,cT,x2,cF]
    exact key5
  · have x1:ltI 0 cnt=false:=by rw [← Bool.not_eq_true,B9]; exact k
    rw [x1,cF]
    exact key5
theorem B2j(d:List Smp)(x:Smp)(t:List Smp):B1 (0,(0,())) (d++x::t) (d.length:Int)=x:=by
 simp [B1,List.getD_eq_getElem?_getD]
theorem B8D(F:Nat){R:Type}(k:List Int→Option R){src:List Smp}(hb:src.length≤1000):∀ (rest pre:List Smp) (out:List Int),src=pre++rest→out.length=pre.length→∀ N,rest.length < N →
  A05 F k N src out (pre.length:Int)=k (out++rest.map fun s=>s.1):=by
 intro rest
 induction rest with
 | nil =>
  intro pre out he ho N hN
  obtain ⟨N,rfl⟩:∃ M,N=M+1:=⟨N - 1,by omega⟩
  have hlen:src.length=pre.length:=by rw [he]; simp
  unfold A05
  simp (disch:=omega) only [bs,↓iP,↓iN]
  simp
 | cons x rest ih =>
  intro pre out he ho N hN
  obtain ⟨N,rfl⟩:∃ M,N=M+1:=⟨N - 1,by omega⟩
  simp only [List.length_cons] at hN
  have hlen:src.length=pre.length+1+rest.length:=by rw [he]; simp; omega
  have g:B1 (0,(0,())) src (pre.length:Int)=x:=by rw [he]; exact B2j pre x rest
  have e:=ih (pre++[x]) (out++[x.1]) (by rw [he]; simp) (by simp [ho]) N (by omega)
  have hpl:(((pre++[x]).length:Nat):Int)=(pre.length:Int)+1:=by simp
  rw [hpl] at e
  have hz:out++[x.1]++(rest.map fun s=>s.1)=out++((x::rest).map fun s=>s.1):=by simp
  rw [hz] at e
  unfold A05
  simp (disch:=omega) only [bs,↓iP,↓iN,g]
  exact e
theorem A8Q(F:Nat)(hF:D9 F){l:List Smp}(hb:l.length≤1000)(h:A6O (l.map fun s=>s.1)=true):A4D F l=some (0,()):=by
 have e:A4C F l=some (l.map fun s=>s.1,()):=by
  unfold A4C
  exact B8D F _ hb l [] [] rfl rfl F (by unfold D9 at hF; omega)
 unfold A4D
 rw [e]
 simp only [bS]
 rw [A6K F hF (by simp; omega),h]
 rfl
theorem B7k:∀ {l:List Int} {a b:Int} {t:List Int},A6O (l++a::b::t)=true→a < b
 | [],a,b,t,h=>by simp only [List.nil_append,A6O,Bool.and_eq_true,decide_eq_true_eq] at h; exact h.1
 | [x],a,b,t,h=>by
  simp only [List.cons_append,List.nil_append,A6O,Bool.and_eq_true,decide_eq_true_eq] at h; exact h.2.1
 | x::y::l,a,b,t,h=>by
  simp only [List.cons_append,A6O,Bool.and_eq_true] at h
  exact B7k (l:=y::l) h.2
def PA(l:List Pi)(idx:Int):Prop :=
 (l.length:Int)≤idx∧(∀ p∈l,0≤p.1∧p.1 < idx∧I64 p.2.2.1∧COk p.2.2.2.1∧cvB p.2.2.2.1=true)∧l.Pairwise (fun a b=>a.1 < b.1)∧(0 < idx→∃ p∈l,p.1=0)
theorem PA.push{l:List Pi}{F:Nat}{tol idx cnt:Int}{f:Smp}{last key:Int}{c:Co}(h:PA l idx)(hs:SV F tol idx cnt f last key c)(h1:1≤cnt):PA (l++[(idx,(cnt,(key,(c,()))))]) (idx+cnt):=by
 obtain ⟨a1,a2,a3,a4⟩:=h
 have hcv:=hs.cv h1
 obtain ⟨b1,b2,b3,b4,b5⟩:=hs
 have hk:I64 key:=by
  rcases b5 with k | k
  ·omega
  ·exact k.2.2.1
 refine ⟨by simp only [List.length_append,List.length_singleton]; omega,?_,?_,?_⟩
 ·intro p hp
  rcases List.mem_append.1 hp with h | h
  ·obtain ⟨k1,k2,k3⟩:=a2 p h
   exact ⟨k1,by omega,k3⟩
  ·rw [List.mem_singleton] at h
   subst h
   exact ⟨b2,by show idx < idx+cnt; omega,hk,b4,hcv⟩
 ·rw [List.pairwise_append]
  refine ⟨a3,List.pairwise_singleton _ _,fun a ha b hb=>?_⟩
  rw [List.mem_singleton] at hb
  subst hb
  exact(a2 a ha).2.1
 ·intro _
  by_cases k:0 < idx
  ·obtain ⟨p,h1,h2⟩:=a4 k
   exact ⟨p,List.mem_append_left _ h1,h2⟩
  ·exact ⟨_,List.mem_append_right _ (List.mem_singleton.2 rfl),by show idx=0; omega⟩
theorem D0u(F:Nat)(hF:D9 F){src:List Smp}(hs:B0J src)(hi:A6O (src.map fun s=>s.1)=true)(hb:src.length≤100)(tol:Int) :
  ∀ (rest pre:List Smp) (acc:List Pi) (idx cnt:Int) (f:Smp) (last key:Int) (c:Co),src=pre++rest→PA acc idx→SV F tol idx cnt f last key c→idx+cnt=pre.length→0≤cnt→(pre≠[]→1≤cnt)→(∀ d x,pre=d++[x]→last=x.1)→∀ N,rest.length < N →
  ∃ acc' idx' cnt' f' last' key' c',PA acc' idx'∧SV F tol idx' cnt' f' last' key' c'∧idx'+cnt'=src.length∧0≤cnt'∧(src≠[]→1≤cnt')∧∀ (R:Type) (k:Int×(Int×(Int×(Smp×(Int×(Int×(Co×Unit))))))→List Pi→Option R),
   A0I F k N src (tol,(idx,(cnt,(f,(last,(key,(c,()))))))) acc (pre.length:Int)=k (tol,(idx',(cnt',(f',(last',(key',(c',()))))))) acc':=by
 intro rest
 induction rest with
 | nil =>
  intro pre acc idx cnt f last key c he ha hv h1 h2 h3 h4 N hN
  obtain ⟨N,rfl⟩:∃ M,N=M+1:=⟨N - 1,by omega⟩
  have hp:src=pre:=by rw [he]; simp
  refine ⟨acc,idx,cnt,f,last,key,c,ha,hv,by rw [hp]; exact h1,h2,by rw [hp]; exact h3,fun R k=>?_⟩
  have x1:ltI (pre.length:Int) (C7 src)=false:=by rw [← Bool.not_eq_true,B9]; unfold C7; rw [hp]; omega
  unfold A0I
  rw [x1,cF]
 | cons x rest ih =>
  intro pre acc idx cnt f last key c he ha hv h1 h2 h3 h4 N hN
  obtain ⟨N,rfl⟩:∃ M,N=M+1:=⟨N - 1,by omega⟩
  simp only [List.length_cons] at hN
  have hlen:src.length=pre.length+1+rest.length:=by rw [he]; simp; omega
  have g:B1 (0,(0,())) src (pre.length:Int)=x:=by rw [he]; exact B2j pre x rest
  have hx:=hs x (by rw [he]; simp)
  have hlt:1≤cnt→last < x.1:=by
   intro hc
   have hne:pre≠[]:=by
    intro h0
    obtain ⟨_,b2,_,_,b5⟩:=hv
    rw [h0] at h1
    simp at h1
    omega
   obtain ⟨d,y,hd⟩:∃ d y,pre=d++[y]:=⟨pre.dropLast,pre.getLast hne,(List.dropLast_concat_getLast hne).symm⟩
   rw [h4 d y hd]
   refine B7k (l:=d.map fun s=>s.1) (t:=rest.map fun s=>s.1) ?_
   rw [he,hd] at hi
   simpa using hi
  obtain ⟨idx',cnt',f',key',c',ps,e,s1,s2,s3,s4⟩:=B4L F hF hv (by omega) h2 hx hlt
  have ha':PA (acc++ps) idx':=by
   rcases s4 with ⟨k1,k2⟩ | ⟨k1,k2,k3⟩
   ·rw [k1,k2,List.append_nil]; exact ha
   ·rw [k1,k3]; exact ha.push hv k2
  have hpl:(((pre++[x]).length:Nat):Int)=(pre.length:Int)+1:=by simp
  obtain ⟨acc2,i2,n2,f2,l2,k2,c2,g1,g2,g3,g4,g5,g6⟩:=ih (pre++[x]) (acc++ps) idx' cnt' f' x.1 key' c' (by rw [he]; simp) ha' s1 (by rw [hpl]; omega) (by omega) (fun _=>s3) (fun d y hd=>by
   have:=List.append_inj_right' hd rfl
   simp at this
   rw [this]) N (by omega)
  refine ⟨acc2,i2,n2,f2,l2,k2,c2,g1,g2,g3,g4,g5,fun R k=>?_⟩
  have e2:=g6 R k
  rw [hpl] at e2
  have hpsl:ps.length≤1:=by rcases s4 with ⟨k1,_⟩ | ⟨k1,_⟩ <;> simp [k1]
  have x1:ltI (pre.length:Int) (C7 src)=true:=by rw [B9]; unfold C7; omega
  have x2:inI (pre.length:Int) src.length=true:=by rw [N3]; omega
  have x3:D8 (acc.length+ps.length) 192=true:=by
   rw [E5]
   have:=ha.1
   obtain ⟨_,_,_,_,_⟩:=hv
   omega
  unfold A0I
  simp only [x1,x2,cT,g,e,bS,x3]
  rw [H3 (by omega)]
  exact e2
theorem B7l(F:Nat)(hF:D9 F){l:List Smp}(hs:B0J l)(hi:A6O (l.map fun s=>s.1)=true)(hb:l.length≤100)(hne:l≠[]){tol:Int}(ht:A8O tol) :
  ∃ ps,A7f F l tol=some (ps,0,())∧PA ps l.length:=by
 have hv:SV F tol 0 0 (0,(0,())) 0 0 nC:=⟨ht,by omega,by omega,⟨A4O,A4O⟩,.inl ⟨rfl,rfl,rfl,rfl,rfl,rfl⟩⟩
 have ha:PA [] 0:=⟨by simp,fun p hp=>(by cases hp),List.Pairwise.nil,fun h=>by omega⟩
 obtain ⟨acc,idx,cnt,f,last,key,c,g1,g2,g3,g4,g5,g6⟩:=D0u F hF hs hi hb tol l [] [] 0 0 (0,(0,())) 0 0 nC rfl ha hv rfl (by omega) (fun h=>absurd rfl h) (fun d x hd=>by cases d <;> cases hd) F (by unfold D9 at hF; omega)
 have h1:=g5 hne
 refine ⟨acc++[(idx,(cnt,(key,(c,()))))],?_,by rw [← g3]; exact g1.push g2 h1⟩
 have st:A4B F tol=some ((tol,(0,(0,((0,(0,())),(0,(0,(nC,()))))))),(0,())):=by
  unfold A4B
  rw [B4J F ht]
  rfl
 have x1:ltI 1073741824 (C7 l)=false:=by rw [← Bool.not_eq_true,B9]; unfold C7; omega
 have z0:eqI (0:Int) 0=true:=rfl
 have x3:D8 (acc.length+1) 192=true:=by
  rw [E5]
  have:=g1.1
  omega
 unfold A7f
 simp only [st,bS,z0,Bool.not_true,cF,A8Q F hF (l:=l) (by omega) hi,x1]
 refine(g6 _ _).trans ?_
 rw [A5z F hF g2 h1]
 simp only [bS,List.length_singleton,x3,cT]
abbrev zP:Pi:=(0,(0,(0,(nC,()))))
theorem A5Z{α:Type}(z:α)(d:List α)(x:α)(t:List α):B1 z (d++x::t) (d.length:Int)=x:=by
 simp [B1,List.getD_eq_getElem?_getD]
theorem C7p{α:Type}(z:α)(d:List α)(y x:α)(t:List α):B1 z (d++y::x::t) ((d.length:Int)+1)=x:=by
 have h:((d.length:Int)+1)=(((d++[y]).length:Nat):Int):=by simp
 rw [h,show d++y::x::t=(d++[y])++x::t by simp]
 exact A5Z z _ x t
theorem A9h{α:Type}(d:List α)(x y:α)(t:List α):F1 (d++x::t) (d.length:Int) y=d++y::t:=by
 simp [F1]
theorem C7q{α:Type}(d:List α)(y x v:α)(t:List α):F1 (d++y::x::t) ((d.length:Int)+1) v=d++y::v::t:=by
 have h:((d.length:Int)+1)=(((d++[y]).length:Nat):Int):=by simp
 rw [h,show d++y::x::t=(d++[y])++x::t by simp,A9h]
 simp
def B2k(p:Pi):Prop:=0≤p.1∧p.1 < 4096∧I64 p.2.2.1∧COk p.2.2.2.1∧cvB p.2.2.2.1=true
theorem C3h(F:Nat){R:Type}(k2:List Pi→Int→Option R)(kr:List Gr→Int→Option R){src:List Pi}(hb:src.length≤1000){i:Nat}(hi:i < src.length)(hd:∀ j:Nat,j < i→(B1 zP src (j:Int)).1≠(B1 zP src (i:Int)).1):∀ (m j:Nat),j+m=i→∀ N,m < N →
  Z1 F k2 kr N src (i:Int) (j:Int)=k2 src (i:Int):=by
 intro m
 induction m with
 | zero =>
  intro j h N hN
  obtain ⟨N,rfl⟩:∃ M,N=M+1:=⟨N - 1,by omega⟩
  have x1:ltI (j:Int) (i:Int)=false:=by rw [← Bool.not_eq_true,B9]; omega
  unfold Z1
  rw [x1,cF]
 | succ m ih =>
  intro j h N hN
  obtain ⟨N,rfl⟩:∃ M,N=M+1:=⟨N - 1,by omega⟩
  have x1:ltI (j:Int) (i:Int)=true:=by rw [B9]; omega
  have x2:inI (j:Int) src.length=true:=by rw [N3]; omega
  have x3:inI (i:Int) src.length=true:=by rw [N3]; omega
  have x4:eqI (B1 zP src (j:Int)).1 (B1 zP src (i:Int)).1=false:=by rw [← Bool.not_eq_true,C4]; exact hd j (by omega)
  have e:=ih (j+1) (by omega) N (by omega)
  unfold Z1
  simp only [x1,x2,x3,cT,x4,cF]
  rw [H3 (by omega)]
  exact e
theorem E4Y{l:List Pi}(h:l.Pairwise (fun a b=>a.1 < b.1)){i j:Nat}(hj:j < i)(hi:i < l.length):(B1 zP l (j:Int)).1 < (B1 zP l (i:Int)).1:=by
 have e:=List.pairwise_iff_getElem.1 h j i (by omega) hi hj
 simp only [B1,Int.toNat_natCast,List.getD_eq_getElem?_getD]
 rw [List.getElem?_eq_getElem (by omega),List.getElem?_eq_getElem hi]
 exact e
theorem B8E(F:Nat)(hF:D9 F){R:Type}(k0:List Pi→Option R)(kr:List Gr→Int→Option R){src:List Pi}(hb:src.length≤1000)(hs:∀ p∈src,B2k p)(hp:src.Pairwise (fun a b=>a.1 < b.1)):∀ (rest pre:List Pi),src=pre++rest→∀ N,rest.length < N →
  V2 F k0 kr N src (pre.length:Int)=k0 src:=by
 intro rest
 induction rest with
 | nil =>
  intro pre he N hN
  obtain ⟨N,rfl⟩:∃ M,N=M+1:=⟨N - 1,by omega⟩
  have hlen:src.length=pre.length:=by rw [he]; simp
  have x1:ltI (pre.length:Int) (C7 src)=false:=by rw [← Bool.not_eq_true,B9]; unfold C7; omega
  unfold V2
  rw [x1,cF]
 | cons x rest ih =>
  intro pre he N hN
  obtain ⟨N,rfl⟩:∃ M,N=M+1:=⟨N - 1,by omega⟩
  simp only [List.length_cons] at hN
  have hlen:src.length=pre.length+1+rest.length:=by rw [he]; simp; omega
  have g:B1 zP src (pre.length:Int)=x:=by rw [he]; exact A5Z zP pre x rest
  obtain ⟨p1,p2,p3,p4,p5⟩:=hs x (by rw [he]; simp)
  have hpl:(((pre++[x]).length:Nat):Int)=(pre.length:Int)+1:=by simp
  have e:=ih (pre++[x]) (by rw [he]; simp) N (by omega)
  rw [hpl] at e
  have x1:ltI (pre.length:Int) (C7 src)=true:=by rw [B9]; unfold C7; omega
  have x2:inI (pre.length:Int) src.length=true:=by rw [N3]; omega
  have x3:ltI x.1 0=false:=by rw [← Bool.not_eq_true,B9]; omega
  have e7:=C3h F (fun z13 z14=>V2 F k0 kr N z13 (C2 .i64 z14 1)) (fun z16 z17=>kr z16 z17) hb (i:=pre.length) (by omega) (fun j hj=>by have:=E4Y hp hj (by omega); omega) pre.length 0 (by omega) F (by unfold D9 at hF; omega)
  have e7:Z1 F (fun z13 z14=>V2 F k0 kr N z13 (C2 .i64 z14 1)) (fun z16 z17=>kr z16 z17) F src (pre.length:Int) 0=_:=e7
  unfold V2
  simp only [x1,x2,cT]
  simp only [g,A16 F hF p4,bS,p5,Bool.not_true,cF,x3]
  rw [e7]
  rw [H3 (by omega)]
  exact e
def Pre(a b:Pi):Prop:=a.2.2.1 < b.2.2.1∨(a.2.2.1=b.2.2.1∧(a.2.2.2.1.1=true∨(b.2.2.2.1.1=false∧rc a.2.2.2.1.2.1 b.2.2.2.1.2.1≤0)))
theorem B2k.lo{p:Pi}(h:B2k p)(h2:p.2.2.2.1.1=false):RV p.2.2.2.1.2.1∧RV p.2.2.2.1.2.2.1∧rc p.2.2.2.1.2.1 p.2.2.2.1.2.2.1≤0:=(A2w h2).1 h.2.2.2.2
theorem Pre.trans{a b c:Pi}(ha:B2k a)(hb:B2k b)(hc:B2k c)(h1:Pre a b)(h2:Pre b c):Pre a c:=by
 unfold Pre at *
 rcases h1 with h1 | ⟨h1,h3⟩
 ·rcases h2 with h2 | ⟨h2,_⟩ <;> (left; omega)
 ·rcases h2 with h2 | ⟨h2,h4⟩
  ·left; omega
  ·right
   refine ⟨by omega,?_⟩
   rcases h3 with h3 | ⟨h3,h5⟩
   ·exact .inl h3
   ·rcases h4 with h4 | ⟨h4,h6⟩
    ·rw [h3] at h4; cases h4
    ·cases ha1:a.2.2.2.1.1 with
     | true=>exact .inl rfl
     | false=>exact .inr ⟨h4,A3f (ha.lo ha1).1 (hb.lo h3).1 (hc.lo h4).1 h5 h6⟩
theorem B0X(F:Nat)(hF:D9 F){a b:Pi}(ha:B2k a)(hb:B2k b):∃ r,A3N F a b=some (r,())∧(r=true→Pre a b)∧(r=false→Pre b a):=by
 unfold A3N
 by_cases k1:a.2.2.1=b.2.2.1
 rotate_left
 ·have x1:eqI a.2.2.1 b.2.2.1=false:=by rw [← Bool.not_eq_true,C4]; exact k1
  rw [x1,Bool.not_false,cT]
  refine ⟨_,rfl,fun h=>Or.inl (B9.1 h),fun h=>?_⟩
  rw [← Bool.not_eq_true,B9] at h
  exact Or.inl (by omega)
 have x1:eqI a.2.2.1 b.2.2.1=true:=C4.2 k1
 rw [x1,Bool.not_true,cF]
 cases oa:a.2.2.2.1.1 with
 | true =>
  cases ob:b.2.2.2.1.1 with
  | true=>exact ⟨_,rfl,fun _=>Or.inr ⟨k1,.inl oa⟩,fun _=>Or.inr ⟨k1.symm,.inl ob⟩⟩
  | false=>exact ⟨true,rfl,fun _=>Or.inr ⟨k1,.inl oa⟩,fun h=>by cases h⟩
 | false =>
  cases ob:b.2.2.2.1.1 with
  | true=>exact ⟨false,rfl,(fun h=>by cases h),fun _=>Or.inr ⟨k1.symm,.inl ob⟩⟩
  | false =>
   obtain ⟨a1,a2,a3⟩:=ha.lo oa
   obtain ⟨b1,b2,b3⟩:=hb.lo ob
   have hao:=ha.2.2.2.1
   have hbo:=hb.2.2.2.1
   simp only [show eqT .bool false false=true from rfl,Bool.not_true,cF,Bool.not_false,cT,N2 F hF hao.1 hbo.1 a1 b1,N2 F hF hao.2 hbo.2 a2 b2,bS]
   by_cases k2:rc a.2.2.2.1.2.1 b.2.2.2.1.2.1=0
   ·have x2:eqI (rc a.2.2.2.1.2.1 b.2.2.2.1.2.1) 0=true:=C4.2 k2
    have h1:rc a.2.2.2.1.2.1 b.2.2.2.1.2.1≤0:=by omega
    have h2:rc b.2.2.2.1.2.1 a.2.2.2.1.2.1≤0:=by
     rcases Int.lt_or_le 0 (rc b.2.2.2.1.2.1 a.2.2.2.1.2.1) with h | h
     ·rw [← B4H] at h; omega
     ·exact h
    have any:∀ o:Option (Bool×Unit),(∃ r,o=some (r,()))→∃ r,o=some (r,())∧(r=true→Pre a b)∧(r=false→Pre b a):=by
     rintro o ⟨r,hr⟩
     exact ⟨r,hr,fun _=>Or.inr ⟨k1,.inr ⟨ob,h1⟩⟩,fun _=>Or.inr ⟨k1.symm,.inr ⟨oa,h2⟩⟩⟩
    refine any _ ?_
    rw [x2,Bool.not_true,cF]
    cases eqI (rc a.2.2.2.1.2.2.1 b.2.2.2.1.2.2.1) 0 with
    | true=>exact ⟨_,rfl⟩
    | false=>exact ⟨_,rfl⟩
   ·have x2:eqI (rc a.2.2.2.1.2.1 b.2.2.2.1.2.1) 0=false:=by rw [← Bool.not_eq_true,C4]; exact k2
    rw [x2,Bool.not_false,cT]
    refine ⟨_,rfl,fun h=>?_,fun h=>?_⟩
    ·rw [B9] at h
     exact Or.inr ⟨k1,.inr ⟨ob,by omega⟩⟩
    ·rw [← Bool.not_eq_true,B9] at h
     refine Or.inr ⟨k1.symm,.inr ⟨oa,?_⟩⟩
     have:rc b.2.2.2.1.2.1 a.2.2.2.1.2.1 < 0:=B4H.2 (by omega)
     omega
theorem D0v(F:Nat)(hF:D9 F):∀ (n:Nat) (pre mid rest:List Pi) (x:Pi),pre.length=n→(pre++mid).Pairwise Pre→(∀ y∈mid,Pre x y)→(∀ p∈pre++x::mid,B2k p)→(pre++x::mid++rest).length≤1000→∀ N,n < N →
  ∃ s,s.Pairwise Pre∧s.Perm (pre++x::mid)∧∀ (R:Type) (k6:List Pi→Int→Option R) (i:Int),W2 F k6 N (pre++x::mid++rest) i (pre.length:Int)=k6 (s++rest) i:=by
 intro n
 induction n with
 | zero =>
  intro pre mid rest x hn hs hx hok hl N hN
  obtain ⟨N,rfl⟩:∃ M,N=M+1:=⟨N - 1,by omega⟩
  have hp:pre=[]:=List.length_eq_zero_iff.1 hn
  subst hp
  refine ⟨x::mid,List.pairwise_cons.2 ⟨hx,hs⟩,List.Perm.refl _,fun R k6 i=>?_⟩
  unfold W2
  rfl
 | succ n ih =>
  intro pre mid rest x hn hs hx hok hl N hN
  obtain ⟨N,rfl⟩:∃ M,N=M+1:=⟨N - 1,by omega⟩
  have hne:pre≠[]:=fun h=>by rw [h] at hn; simp at hn
  obtain ⟨d,y,rfl⟩:∃ d y,pre=d++[y]:=⟨pre.dropLast,pre.getLast hne,(List.dropLast_concat_getLast hne).symm⟩
  have hdl:d.length=n:=by simpa using hn
  have hpl:(((d++[y]).length:Nat):Int)=(d.length:Int)+1:=by simp
  have hy:B2k y:=hok y (by simp)
  have hxo:B2k x:=hok x (by simp)
  obtain ⟨r,e1,r1,r2⟩:=B0X F hF hxo hy
  have hsrc:d++[y]++x::mid++rest=d++y::x::(mid++rest):=by simp
  have hlen:(d++y::x::(mid++rest)).length=d.length+2+mid.length+rest.length:=by simp; omega
  have hl2:d.length+2+mid.length+rest.length≤1000:=by rw [hsrc,hlen] at hl; exact hl
  have x1:ltI 0 ((d.length:Int)+1)=true:=by rw [B9]; omega
  have x2:inI ((d.length:Int)+1) (d++y::x::(mid++rest)).length=true:=by rw [N3,hlen]; omega
  have x3:inI (d.length:Int) (d++y::x::(mid++rest)).length=true:=by rw [N3,hlen]; omega
  have s1:E7 .i64 ((d.length:Int)+1) 1=(d.length:Int):=by rw [A31 (by omega)]; omega
  have g1:B1 zP (d++y::x::(mid++rest)) ((d.length:Int)+1)=x:=C7p zP d y x _
  have g2:B1 zP (d++y::x::(mid++rest)) (d.length:Int)=y:=A5Z zP d y _
  cases r with
  | false =>
   refine ⟨d++[y]++x::mid,?_,List.Perm.refl _,fun R k6 i=>?_⟩
   ·rw [List.pairwise_append] at hs ⊢
    obtain ⟨h1,h2,h3⟩:=hs
    refine ⟨h1,List.pairwise_cons.2 ⟨hx,h2⟩,fun a ha b hb=>?_⟩
    rcases List.mem_cons.1 hb with rfl | hb
    ·rcases List.mem_append.1 ha with ha | ha
     ·have h4:Pre a y:=(List.pairwise_append.1 h1).2.2 a ha y (by simp)
      exact Pre.trans (hok a (by simp [ha])) hy hxo h4 (r2 rfl)
     ·rw [List.mem_singleton] at ha
      subst ha
      exact r2 rfl
    ·exact h3 a ha b hb
   ·rw [hpl,hsrc]
    unfold W2
    simp only [x1,x2,s1,x3,cT,g1,g2,e1,bS,cF]
  | true =>
   obtain ⟨s,q1,q2,q3⟩:=ih d (y::mid) rest x hdl (by simpa using hs) (fun b hb=>by
    rcases List.mem_cons.1 hb with rfl | hb
    ·exact r1 rfl
    ·exact hx b hb) (fun p hp=>hok p (by simp at hp ⊢; rcases hp with h | h | h | h <;> simp [h])) (by rw [show d++x::y::mid++rest=d++x::y::(mid++rest) by simp]; simp; omega) N (by omega)
   refine ⟨s,q1,q2.trans ?_,fun R k6 i=>?_⟩
   ·have:d++[y]++x::mid=d++y::x::mid:=by simp
    rw [this]
    exact List.Perm.append_left d (List.Perm.swap y x mid)
   ·have e:=q3 R k6 i
    rw [hpl,hsrc]
    have hset:F1 (d++y::x::(mid++rest)) ((d.length:Int)+1) y=d++y::y::(mid++rest):=C7q d y x y _
    have hset2:F1 (d++y::y::(mid++rest)) (d.length:Int) x=d++x::y::(mid++rest):=A9h d y x _
    have x4:inI (d.length:Int) (d++y::y::(mid++rest)).length=true:=by rw [N3]; simp; omega
    unfold W2
    simp only [x1,x2,s1,x3,cT,g1,g2,e1,bS,hset,x4,hset2]
    rw [show d++x::y::mid++rest=d++x::y::(mid++rest) by simp] at e
    exact e
theorem C7r(F:Nat)(hF:D9 F):∀ (rest pre:List Pi),pre.Pairwise Pre→(∀ p∈pre++rest,B2k p)→(pre++rest).length≤1000→∀ N,rest.length < N →
  ∃ s,s.Pairwise Pre∧s.Perm (pre++rest)∧∀ (R:Type) (k4:List Pi→Option R),S4 F k4 N (pre++rest) (pre.length:Int)=k4 s:=by
 intro rest
 induction rest with
 | nil =>
  intro pre hp hok hl N hN
  obtain ⟨N,rfl⟩:∃ M,N=M+1:=⟨N - 1,by omega⟩
  refine ⟨pre,hp,by rw [List.append_nil],fun R k4=>?_⟩
  have x1:ltI (pre.length:Int) (C7 (pre++[]))=false:=by rw [← Bool.not_eq_true,B9]; unfold C7; simp
  unfold S4
  rw [x1,cF,List.append_nil]
 | cons x rest ih =>
  intro pre hp hok hl N hN
  obtain ⟨N,rfl⟩:∃ M,N=M+1:=⟨N - 1,by omega⟩
  simp only [List.length_cons] at hN
  have hl2:pre.length+1+rest.length≤1000:=by simp at hl; omega
  have hre:pre++x::rest=pre++[x]++rest:=by simp
  obtain ⟨s,q1,q2,q3⟩:=D0v F hF pre.length pre [] rest x rfl (by rw [List.append_nil]; exact hp) (fun y hy=>by cases hy) (fun p h=>hok p (by simp at h ⊢; rcases h with h | h <;> simp [h])) (by simp; omega) F (by unfold D9 at hF; omega)
  have hsl:s.length=pre.length+1:=by rw [q2.length_eq]; simp
  obtain ⟨s2,p1,p2,p3⟩:=ih s q1 (fun p h=>by
   rcases List.mem_append.1 h with h | h
   ·exact hok p (by have:=q2.mem_iff.1 h; simp at this ⊢; rcases this with h | h <;> simp [h])
   ·exact hok p (by simp [h])) (by simp; omega) N (by omega)
  refine ⟨s2,p1,p2.trans ?_,fun R k4=>?_⟩
  ·rw [hre]
   exact List.Perm.append_right rest q2
  ·have x1:ltI (pre.length:Int) (C7 (pre++x::rest))=true:=by rw [B9]; unfold C7; simp; omega
   have e3:=q3 R (fun z34 z35=>S4 F k4 N z34 (C2 .i64 z35 1)) (pre.length:Int)
   have e:=p3 R k4
   rw [hsl] at e
   unfold S4
   rw [x1,cT]
   rw [hre]
   refine e3.trans ?_
   show S4 F k4 N (s++rest) (C2 .i64 (pre.length:Int) 1)=_
   rw [H3 (by omega)]
   rw [show((pre.length+1:Nat):Int)=(pre.length:Int)+1 by omega] at e
   exact e
def B4N(v:Int):List Int→List Int
 | []=>[v]
 | y::t=>if v < y then v::y::t else y::B4N v t
theorem A7I(v:Int):∀ l:List Int,(B4N v l).Perm (v::l)
 | []=>List.Perm.refl _
 | y::t=>by
  unfold B4N
  split
  ·exact List.Perm.refl _
  ·exact((A7I v t).cons y).trans (List.Perm.swap v y t)
theorem C20{v:Int}:∀ {l:List Int},l.Pairwise (· < ·)→v ∉ l→(B4N v l).Pairwise (· < ·)
 | [],_,_=>List.pairwise_singleton _ _
 | y::t,h,hv=>by
  unfold B4N
  obtain ⟨h1,h2⟩:=List.pairwise_cons.1 h
  simp only [List.mem_cons,not_or] at hv
  split
  ·rename_i c
   refine List.pairwise_cons.2 ⟨fun a ha=>?_,h⟩
   rcases List.mem_cons.1 ha with rfl | ha
   ·exact c
   ·have:=h1 a ha; omega
  ·refine List.pairwise_cons.2 ⟨fun a ha=>?_,C20 h2 hv.2⟩
   rcases List.mem_cons.1 ((A7I v t).mem_iff.1 ha) with rfl | ha
   ·have:=hv.1; omega
   ·exact h1 a ha
theorem C7s(F:Nat){R:Type}(k:Int→List Int→Bool→Option R)(v:Int){src:List Int}(hb:src.length≤1000):∀ (rest pre out:List Int),src=pre++rest→out.length≤pre.length+1→∀ N,rest.length < N →
  I1 F k N src v out true (pre.length:Int)=k v (out++rest) true:=by
 intro rest
 induction rest with
 | nil =>
  intro pre out he ho N hN
  obtain ⟨N,rfl⟩:∃ M,N=M+1:=⟨N - 1,by omega⟩
  have hlen:src.length=pre.length:=by rw [he]; simp
  have x1:ltI (pre.length:Int) (C7 src)=false:=by rw [← Bool.not_eq_true,B9]; unfold C7; omega
  unfold I1
  rw [x1,cF,List.append_nil]
 | cons y rest ih =>
  intro pre out he ho N hN
  obtain ⟨N,rfl⟩:∃ M,N=M+1:=⟨N - 1,by omega⟩
  simp only [List.length_cons] at hN
  have hlen:src.length=pre.length+1+rest.length:=by rw [he]; simp; omega
  have g:B1 0 src (pre.length:Int)=y:=by rw [he]; exact L1 pre y rest
  have hpl:(((pre++[y]).length:Nat):Int)=(pre.length:Int)+1:=by simp
  have e:=ih (pre++[y]) (out++[y]) (by rw [he]; simp) (by simp; omega) N (by omega)
  rw [hpl,show out++[y]++rest=out++y::rest by simp] at e
  have x1:ltI (pre.length:Int) (C7 src)=true:=by rw [B9]; unfold C7; omega
  have x2:inI (pre.length:Int) src.length=true:=by rw [N3]; omega
  have x3:D8 (out.length+1) 8=true:=by rw [E5]; omega
  unfold I1
  simp only [x1,x2,x3,cT,Bool.not_true,cF,g]
  rw [H3 (by omega)]
  exact e
theorem C7t(F:Nat)(hF:D9 F)(v:Int){src:List Int}(hb:src.length≤1000):∀ (rest pre out:List Int),src=pre++rest→out.length=pre.length→∀ N,rest.length < N →
  I1 F (fun z16 z17 z18=>bif not z18 then bif D8 ((List.length z17)+1) 8 then some ((z17++[z16]),()) else none else some (z17,())) N src v out false (pre.length:Int)=some (out++B4N v rest,()):=by
 intro rest
 induction rest with
 | nil =>
  intro pre out he ho N hN
  obtain ⟨N,rfl⟩:∃ M,N=M+1:=⟨N - 1,by omega⟩
  have hlen:src.length=pre.length:=by rw [he]; simp
  have x1:ltI (pre.length:Int) (C7 src)=false:=by rw [← Bool.not_eq_true,B9]; unfold C7; omega
  have x3:D8 (out.length+1) 8=true:=by rw [E5]; omega
  unfold I1
  simp only [x1,cF,Bool.not_false,cT,x3]
  rfl
 | cons y rest ih =>
  intro pre out he ho N hN
  obtain ⟨N,rfl⟩:∃ M,N=M+1:=⟨N - 1,by omega⟩
  simp only [List.length_cons] at hN
  have hlen:src.length=pre.length+1+rest.length:=by rw [he]; simp; omega
  have g:B1 0 src (pre.length:Int)=y:=by rw [he]; exact L1 pre y rest
  have hpl:(((pre++[y]).length:Nat):Int)=(pre.length:Int)+1:=by simp
  have x1:ltI (pre.length:Int) (C7 src)=true:=by rw [B9]; unfold C7; omega
  have x2:inI (pre.length:Int) src.length=true:=by rw [N3]; omega
  have x3:D8 (out.length+1) 8=true:=by rw [E5]; omega
  have x4:D8 ((out++[v]).length+1) 8=true:=by rw [E5]; simp; omega
  unfold I1 B4N
  by_cases c:v < y
  ·have x5:ltI v y=true:=B9.2 c
   rw [iP c]
   have e:=C7s F (fun z16 z17 z18=>bif not z18 then bif D8 ((List.length z17)+1) 8 then some ((z17++[z16]),()) else none else some (z17,())) v hb rest (pre++[y]) (out++[v]++[y]) (by rw [he]; simp) (by simp; omega) N (by omega)
   rw [hpl] at e
   simp only [x1,x2,x3,x4,cT,Bool.not_false,g,x5]
   rw [H3 (by omega)]
   refine e.trans ?_
   simp
  ·have x5:ltI v y=false:=by rw [← Bool.not_eq_true,B9]; exact c
   rw [iN c]
   have e:=ih (pre++[y]) (out++[y]) (by rw [he]; simp) (by simp; omega) N (by omega)
   rw [hpl] at e
   simp only [x1,x2,x3,cT,Bool.not_false,g,x5,cF]
   rw [H3 (by omega)]
   refine e.trans ?_
   simp
theorem B0Y(F:Nat)(hF:D9 F)(v:Int){l:List Int}(hb:l.length≤1000):A3O F l v=some (B4N v l,()):=by
 unfold A3O
 exact C7t F hF v hb l [] [] rfl rfl F (by unfold D9 at hF; omega)
def sts(l:List Gr):List Int:=l.flatMap fun g=>g.2.2.1
def D0w(a b:Gr):Prop:=a.1 < b.1∨(a.1=b.1∧rc a.2.1 b.2.1 < 0)
def E0K(g:Gr):Prop:=I64 g.1∧ROk g.2.1∧RV g.2.1∧g.2.2.1≠[]∧g.2.2.1.Pairwise (· < ·)
theorem B4O:∀ l:List Gr,(sts l).length=tot l
 | []=>rfl
 | g::t=>by
  show(g.2.2.1++sts t).length=g.2.2.1.length+tot t
  rw [List.length_append,B4O t]
theorem B0Z(a b:List Gr):sts (a++b)=sts a++sts b:=by unfold sts; rw [List.flatMap_append]
theorem B10(g:Gr):sts [g]=g.2.2.1:=by unfold sts; simp
theorem A8a:∀ {l:List Gr},(∀ g∈l,E0K g)→l.length≤tot l
 | [],_=>by simp [tot]
 | g::t,h=>by
  have h1:=A8a (l:=t) (fun x hx=>h x (List.mem_cons_of_mem _ hx))
  have h2:=(h g (by simp)).2.2.2.1
  have h3:g.2.2.1.length≠0:=fun h0=>h2 (List.length_eq_zero_iff.1 h0)
  simp only [tot,List.length_cons]
  omega
def GL(pre:List Pi)(l:List Gr)(c:Co):Prop :=
 ∃ d q i g,pre=d++[q]∧l=i++[g]∧g.1=q.2.2.1∧cvB c=true∧(c.1=false→Btw c.2.1 c.2.2.1 g.2.1∧q.2.2.2.1.1=false∧rc c.2.1 q.2.2.2.1.2.1≤0) ∧
  ∀ h∈i,h.1 < g.1∨(h.1=g.1∧c.1=false∧0 < rc c.2.1 h.2.1)
def GI(pre:List Pi)(l:List Gr)(c:Co):Prop :=
 COk c∧(sts l).Perm (pre.map fun p=>p.1)∧(∀ g∈l,E0K g)∧l.Pairwise D0w∧((pre=[]∧l=[])∨GL pre l c)
theorem B4P{p:Rt}:rc p p≤0:=by rw [B4G]; omega
theorem GI.new{pre:List Pi}{l:List Gr}{c:Co}{p:Pi}{s:Rt}(h:GI pre l c)(hp:B2k p)(hok:∀ q∈pre,B2k q)
  (hsrt:∀ q∈pre,Pre q p) (hs:ROk s) (hs2:RV s∧(p.2.2.2.1.1=false→Btw p.2.2.2.1.2.1 p.2.2.2.1.2.2.1 s))
  (hap:∀ d q,pre=d++[q]→q.2.2.1=p.2.2.1→C7o c p.2.2.2.1):GI (pre++[p]) (l++[(p.2.2.1,(s,([p.1],())))]) p.2.2.2.1:=by
 obtain ⟨h1,h2,h3,h4,h5⟩:=h
 have hord:∀ h∈l,h.1 < p.2.2.1∨(h.1=p.2.2.1∧p.2.2.2.1.1=false∧0 < rc p.2.2.2.1.2.1 h.2.1):=by
  intro h hh
  rcases h5 with ⟨_,e⟩ | ⟨d,q,i,g,e1,e2,e3,e4,e5,e6⟩
  ·rw [e] at hh; cases hh
  have hq:q∈pre:=by rw [e1]; simp
  have hqo:=hok q hq
  have hqp:=hsrt q hq
  have hho:=(h3 h hh).2.2.1
  rcases hqp with k | ⟨k,k2⟩
  ·left
   rw [e2] at hh
   rcases List.mem_append.1 hh with hh | hh
   ·rcases e6 h hh with e | e <;> omega
   ·rw [List.mem_singleton] at hh; subst hh; omega
  ·obtain ⟨a1,a2,a3⟩:=hap d q e1 k e4 hp.2.2.2.2
   obtain ⟨b1,b2,b3⟩:=e5 a1
   obtain ⟨v1,v2,v3⟩:=(A2w a1).1 e4
   have hle:rc q.2.2.2.1.2.1 p.2.2.2.1.2.1≤0:=by
    rcases k2 with k2 | ⟨_,k2⟩
    ·rw [b2] at k2; cases k2
    ·exact k2
   have hcp:rc c.2.1 p.2.2.2.1.2.1≤0:=A3f v1 (hqo.lo b2).1 (hp.lo a2).1 b3 hle
   rw [e2] at hh
   rcases List.mem_append.1 hh with hh | hh
   ·rcases e6 h hh with e | ⟨f1,f2,f3⟩
    ·left; omega
    ·right
     refine ⟨by omega,a2,?_⟩
     rcases Int.lt_or_le 0 (rc p.2.2.2.1.2.1 h.2.1) with k | k
     ·exact k
     ·have:=A3f v1 (hp.lo a2).1 hho hcp k
      omega
   ·rw [List.mem_singleton] at hh
    subst hh
    right
    refine ⟨by omega,a2,?_⟩
    have h0:=a3 hcp
    rcases Int.lt_or_le 0 (rc p.2.2.2.1.2.1 h.2.1) with k | k
    ·exact k
    ·have:=A3f (hp.lo a2).1 hho v2 k b1.2.2
     omega
 refine ⟨hp.2.2.2.1,?_,?_,?_,.inr ⟨pre,p,l,_,rfl,rfl,rfl,hp.2.2.2.2,fun h=>⟨hs2.2 h,h,B4P⟩,hord⟩⟩
 ·rw [B0Z,B10,List.map_append]
  exact List.Perm.append_right _ h2
 ·intro g hg
  rcases List.mem_append.1 hg with hg | hg
  ·exact h3 g hg
  ·rw [List.mem_singleton] at hg
   subst hg
   exact ⟨hp.2.2.1,hs,hs2.1,by simp,List.pairwise_singleton _ _⟩
 ·rw [List.pairwise_append]
  refine ⟨h4,List.pairwise_singleton _ _,fun a ha b hb=>?_⟩
  rw [List.mem_singleton] at hb
  subst hb
  rcases hord a ha with k | ⟨k1,k2,k3⟩
  ·exact Or.inl k
  ·refine Or.inr ⟨k1,?_⟩
   have hbt:=hs2.2 k2
   have h0:=(h3 a ha).2.2.1
   rcases Int.lt_or_le (rc a.2.1 s) 0 with k | k
   ·exact k
   ·have k4:rc s a.2.1≤0:=by
     rcases Int.lt_or_le 0 (rc s a.2.1) with k5 | k5
     ·rw [← B4H] at k5; omega
     ·exact k5
    have:=A3f (hp.lo k2).1 hbt.1 h0 hbt.2.1 k4
    omega
theorem GI.grow{pre d:List Pi}{q:Pi}{i:List Gr}{g:Gr}{c m:Co}{p:Pi}{s:Rt}(h:GI pre (i++[g]) c)(he:pre=d++[q])(hp:B2k p)(hok:∀ q∈pre,B2k q)
  (hsrt:∀ q∈pre,Pre q p) (hs:ROk s) (hs2:RV s∧(m.1=false→Btw m.2.1 m.2.2.1 s)) (hm:COk m) (hmet:Met c p.2.2.2.1 m) (hk:g.1=p.2.2.1) (hnew:p.1 ∉ pre.map fun p=>p.1) :
  GI (pre++[p]) (i++[(g.1,(s,(B4N p.1 g.2.2.1,())))]) m:=by
 obtain ⟨h1,h2,h3,h4,h5⟩:=h
 rcases h5 with ⟨_,e⟩ | ⟨d',q',i',g',e1,e2,e3,e4,e5,e6⟩
 ·simp at e
 have hq':q'=q:=by
  rw [he] at e1
  have:=List.append_inj_right' e1 rfl
  simp at this
  exact this.symm
 obtain ⟨hi,hg⟩:=List.append_inj' e2 rfl
 simp only [List.cons.injEq,and_true] at hg
 subst hq'; subst hi; subst hg
 have hq:q'∈pre:=by rw [he]; simp
 have hqo:=hok q' hq
 have hqp:=hsrt q' hq
 have hkq:q'.2.2.1=p.2.2.1:=by omega
 -- what the new cone keeps
 have hmf:m.1=false→p.2.2.2.1.1=false∧rc m.2.1 p.2.2.2.1.2.1≤0∧(c.1=false→rc c.2.1 m.2.1≤0):=by
  intro hm0
  rcases hmet.2 with ⟨k1,k2⟩ | ⟨k1,k2⟩ | ⟨k1,k2,k3,k4⟩
  ·subst k2
   refine ⟨hm0,B4P,fun h=>?_⟩
   rw [k1] at h; cases h
  ·subst k2
   obtain ⟨b1,b2,b3⟩:=e5 hm0
   exfalso
   rcases hqp with k | ⟨_,k | ⟨k,_⟩⟩
   ·omega
   ·rw [b2] at k; cases k
   ·rw [k1] at k; cases k
  ·obtain ⟨b1,b2,b3⟩:=e5 k1
   obtain ⟨v1,v2,v3⟩:=(A2w k1).1 e4
   have hle:rc q'.2.2.2.1.2.1 p.2.2.2.1.2.1≤0:=by
    rcases hqp with k | ⟨_,k | ⟨_,k⟩⟩
    ·omega
    ·rw [b2] at k; cases k
    ·exact k
   have hcp:rc c.2.1 p.2.2.2.1.2.1≤0:=A3f v1 (hqo.lo b2).1 (hp.lo k2).1 b3 hle
   refine ⟨k2,?_,fun _=>?_⟩
   ·rcases k4 with k4 | k4
    ·rw [k4]; exact hcp
    ·rw [k4]; exact B4P
   ·rcases k4 with k4 | k4
    ·rw [k4]; exact B4P
    ·rw [k4]; exact hcp
 have hmc:c.1=false→m.1=false:=by
  intro hc
  rcases hmet.2 with ⟨k1,k2⟩ | ⟨k1,k2⟩ | ⟨k1,k2,k3,k4⟩
  ·rw [k1] at hc; cases hc
  ·rw [k2]; exact hc
  ·exact k3
 have hord:∀ h∈i,h.1 < g.1∨(h.1=g.1∧m.1=false∧0 < rc m.2.1 h.2.1):=by
  intro h hh
  rcases e6 h hh with e | ⟨f1,f2,f3⟩
  ·exact .inl e
  ·have hm0:=hmc f2
   refine .inr ⟨f1,hm0,?_⟩
   have hle:=(hmf hm0).2.2 f2
   have hho:=(h3 h (by simp [hh])).2.2.1
   rcases Int.lt_or_le 0 (rc m.2.1 h.2.1) with k | k
   ·exact k
   ·have:=A3f ((A2w f2).1 e4).1 ((A2w hm0).1 hmet.1).1 hho hle k
    omega
 have hgm:∀ x∈g.2.2.1,x∈pre.map fun p=>p.1:=by
  intro x hx
  refine h2.mem_iff.1 ?_
  rw [B0Z,B10]
  exact List.mem_append_right _ hx
 refine ⟨hm,?_,?_,?_,.inr ⟨pre,p,i,_,rfl,rfl,hk,hmet.1,fun h=>⟨hs2.2 h,(hmf h).1,(hmf h).2.1⟩,hord⟩⟩
 ·rw [B0Z,B10] at h2
  rw [B0Z,B10,List.map_append]
  have k1:(sts i++B4N p.1 g.2.2.1).Perm (sts i++(p.1::g.2.2.1)):=List.Perm.append_left _ (A7I _ _)
  have k2:(sts i++(p.1::g.2.2.1)).Perm (p.1::(sts i++g.2.2.1)):=List.perm_middle
  have k3:(p.1::(sts i++g.2.2.1)).Perm (p.1::pre.map fun p=>p.1):=h2.cons _
  refine k1.trans (k2.trans (k3.trans ?_))
  exact(List.perm_append_comm (l₁:=[p.1]) (l₂:=pre.map fun p=>p.1))
 ·intro x hx
  rcases List.mem_append.1 hx with hx | hx
  ·exact h3 x (List.mem_append_left _ hx)
  ·rw [List.mem_singleton] at hx
   subst hx
   have hg:=h3 g (by simp)
   refine ⟨hg.1,hs,hs2.1,?_,C20 hg.2.2.2.2 (fun h=>hnew (hgm _ h))⟩
   intro h0
   have:=(A7I p.1 g.2.2.1).length_eq
   have h0:B4N p.1 g.2.2.1=[]:=h0
   rw [h0] at this
   simp at this
 ·rw [List.pairwise_append] at h4 ⊢
  refine ⟨h4.1,List.pairwise_singleton _ _,fun a ha b hb=>?_⟩
  rw [List.mem_singleton] at hb
  subst hb
  rcases hord a ha with k | ⟨k1,k2,k3⟩
  ·exact Or.inl k
  ·refine Or.inr ⟨k1,?_⟩
   have hbt:=hs2.2 k2
   have h0:=(h3 a (by simp [ha])).2.2.1
   rcases Int.lt_or_le (rc a.2.1 s) 0 with k | k
   ·exact k
   ·have k4:rc s a.2.1≤0:=by
     rcases Int.lt_or_le 0 (rc s a.2.1) with k5 | k5
     ·rw [← B4H] at k5; omega
     ·exact k5
    have:=A3f ((A2w k2).1 hmet.1).1 hbt.1 h0 hbt.2.1 k4
    omega
theorem B8F(F:Nat)(hF:D9 F){src:List Pi}(hb:src.length≤1000)(hok:∀ p∈src,B2k p)(hsrt:src.Pairwise Pre)(hnd:(src.map fun p=>p.1).Nodup):∀ (rest pre:List Pi) (l:List Gr) (c:Co),src=pre++rest→GI pre l c→∀ N,rest.length < N →
  ∃ l' c',GI src l' c'∧∀ (R:Type) (k8:List Gr→Option R),F5 F k8 N src l c (pre.length:Int)=k8 l':=by
 intro rest
 induction rest with
 | nil =>
  intro pre l c he hg N hN
  obtain ⟨N,rfl⟩:∃ M,N=M+1:=⟨N - 1,by omega⟩
  have hp:src=pre:=by rw [he]; simp
  refine ⟨l,c,by rw [hp]; exact hg,fun R k8=>?_⟩
  have x1:ltI (pre.length:Int) (C7 src)=false:=by rw [← Bool.not_eq_true,B9]; unfold C7; rw [hp]; omega
  unfold F5
  rw [x1,cF]
 | cons p rest ih =>
  intro pre l c he hg N hN
  obtain ⟨N,rfl⟩:∃ M,N=M+1:=⟨N - 1,by omega⟩
  simp only [List.length_cons] at hN
  have hlen:src.length=pre.length+1+rest.length:=by rw [he]; simp; omega
  have g:B1 zP src (pre.length:Int)=p:=by rw [he]; exact A5Z zP pre p rest
  have hp:=hok p (by rw [he]; simp)
  have hpre:∀ q∈pre,B2k q:=fun q hq=>hok q (by rw [he]; simp [hq])
  have hps:∀ q∈pre,Pre q p:=fun q hq=>by
   rw [he] at hsrt
   exact(List.pairwise_append.1 hsrt).2.2 q hq p (by simp)
  have hnew:p.1 ∉ pre.map fun p=>p.1:=by
   rw [he,List.map_append] at hnd
   intro h
   exact(List.nodup_append.1 hnd).2.2 p.1 h p.1 (by simp) rfl
  have hpl:(((pre++[p]).length:Nat):Int)=(pre.length:Int)+1:=by simp
  have hll:l.length≤pre.length:=by
   have h1:=A8a hg.2.2.1
   have h2:=hg.2.1.length_eq
   rw [B4O,List.length_map] at h2
   omega
  obtain ⟨m,ok,e1,hm,hm1,hm2⟩:=A7G F hF hg.1 hp.2.2.2.1
  obtain ⟨s,e2,s1,s2⟩:=A5y F hF hp.2.2.2.1
  have x1:ltI (pre.length:Int) (C7 src)=true:=by rw [B9]; unfold C7; omega
  have x2:inI (pre.length:Int) src.length=true:=by rw [N3]; omega
  have x3:D8 (l.length+1) 112=true:=by rw [E5]; omega
  -- a new group
  have new:(∀ d q,pre=d++[q]→q.2.2.1=p.2.2.1→C7o c p.2.2.2.1)→∃ l' c',GI src l' c'∧∀ (R:Type) (k8:List Gr→Option R),
    A06 F (fun z68 z69 z70 z71=>F5 F k8 N z68 z69 z70 (C2 .i64 z71 1)) src l c (pre.length:Int)=k8 l':=by
   intro hap
   have hgi:=hg.new hp hpre hps s1 (s2 hp.2.2.2.2) hap
   obtain ⟨l',c',r1,r2⟩:=ih (pre++[p]) _ _ (by rw [he]; simp) hgi N (by omega)
   refine ⟨l',c',r1,fun R k8=>?_⟩
   have e:=r2 R k8
   rw [hpl] at e
   unfold A06
   simp only [x2,cT,g,e2,bS,x3]
   rw [H3 (by omega)]
   exact e
  by_cases h0:pre=[]
  ·have x4:ltI 0 (pre.length:Int)=false:=by rw [← Bool.not_eq_true,B9,h0]; simp
   obtain ⟨l',c',r1,r2⟩:=new (fun d q h=>by rw [h0] at h; simp at h)
   refine ⟨l',c',r1,fun R k8=>?_⟩
   unfold F5
   simp only [x1,x2,cT,g,e1,bS,x4,cF]
   unfold S5
   rw [cF]
   exact r2 R k8
  have x4:ltI 0 (pre.length:Int)=true:=by
   rw [B9]
   have:pre.length≠0:=fun h=>h0 (List.length_eq_zero_iff.1 h)
   omega
  cases ok with
  | false =>
   obtain ⟨l',c',r1,r2⟩:=new (fun d q _ _=>hm2 rfl)
   refine ⟨l',c',r1,fun R k8=>?_⟩
   unfold F5
   simp only [x1,x2,cT,g,e1,bS,x4,cF]
   unfold S5
   rw [cF]
   exact r2 R k8
  | true =>
   have hmet:=hm1 rfl
   obtain ⟨d,q,i,gr,q1,q2,q3,q4,q5,q6⟩:GL pre l c:=by
    rcases hg.2.2.2.2 with ⟨k,_⟩ | k
    ·exact absurd k h0
    ·exact k
   subst q2
   have hil:((i++[gr]).length:Int)=(i.length:Int)+1:=by simp
   have hll':i.length+1≤pre.length:=by rw [List.length_append,List.length_singleton] at hll; exact hll
   have y1:E7 .i64 (C7 (i++[gr])) 1=(i.length:Int):=by unfold C7; rw [hil,A31 (by omega)]; omega
   have y2:inI (i.length:Int) (i++[gr]).length=true:=by rw [N3,hil]; omega
   have y3:B1 zG (i++[gr]) (i.length:Int)=gr:=A5Z zG i gr []
   by_cases hk:gr.1=p.2.2.1
   ·have y4:eqI gr.1 p.2.2.1=true:=C4.2 hk
    obtain ⟨s',e3,t1,t2⟩:=A5y F hF hm
    have hgi:=hg.grow q1 hp hpre hps t1 (t2 hmet.1) hm hmet hk hnew
    obtain ⟨l',c',r1,r2⟩:=ih (pre++[p]) _ _ (by rw [he]; simp) hgi N (by omega)
    refine ⟨l',c',r1,fun R k8=>?_⟩
    have e:=r2 R k8
    rw [hpl] at e
    have hgl:gr.2.2.1.length≤1000:=by
     have h2:=hg.2.1.length_eq
     rw [B0Z,B10,List.length_append,List.length_map] at h2
     omega
    have e4:=B0Y F hF p.1 hgl
    have z1:F1 (i++[gr]) (i.length:Int) (gr.1,(gr.2.1,(B4N p.1 gr.2.2.1,gr.2.2.2)))=i++[(gr.1,(gr.2.1,(B4N p.1 gr.2.2.1,())))]:=A9h i gr _ []
    have z2:inI (i.length:Int) (i++[(gr.1,(gr.2.1,(B4N p.1 gr.2.2.1,())))]).length=true:=by rw [N3]; simp; omega
    have z3:B1 zG (i++[(gr.1,(gr.2.1,(B4N p.1 gr.2.2.1,())))]) (i.length:Int)=(gr.1,(gr.2.1,(B4N p.1 gr.2.2.1,()))):=A5Z zG i _ []
    have z4:F1 (i++[(gr.1,(gr.2.1,(B4N p.1 gr.2.2.1,())))]) (i.length:Int) (gr.1,(s',(B4N p.1 gr.2.2.1,())))=i++[(gr.1,(s',(B4N p.1 gr.2.2.1,())))]:=A9h i _ _ []
    unfold F5
    simp only [x1,x2,cT,g,e1,bS,x4,y1,y2,y3,y4]
    unfold S5
    simp only [x2,cT,g,bS,y2,y3,e4,z1,e3,z2,z3,z4]
    rw [H3 (by omega)]
    exact e
   ·have y4:eqI gr.1 p.2.2.1=false:=by rw [← Bool.not_eq_true,C4]; exact hk
    obtain ⟨l',c',r1,r2⟩:=new (fun d' q' h1 h2=>by
     exfalso
     rw [q1] at h1
     have:=List.append_inj_right' h1 rfl
     simp at this
     rw [← this] at h2
     omega)
    refine ⟨l',c',r1,fun R k8=>?_⟩
    unfold F5
    simp only [x1,x2,cT,g,e1,bS,x4,y1,y2,y3,y4]
    unfold S5
    rw [cF]
    exact r2 R k8
structure LG (l:List Gr) (n:Int):Prop where
 ok:∀ g∈l,E0K g
 srt:l.Pairwise D0w
 rng:∀ x∈sts l,0≤x∧x < n
 nd:(sts l).Nodup
 z:0∈sts l
 n1:1≤n∧n≤30
 len:(tot l:Int)≤n
theorem B4Q(F:Nat)(hF:D9 F){ps:List Pi}{n:Nat}(h:PA ps (n:Int))(hn:n≤30)(h1:1≤n):∃ l,A5P F ps=some (l,0,())∧LG l n:=by
 obtain ⟨a1,a2,a3,a4⟩:=h
 have hok:∀ p∈ps,B2k p:=fun p hp=>by
  obtain ⟨b1,b2,b3,b4,b5⟩:=a2 p hp
  exact ⟨b1,by omega,b3,b4,b5⟩
 obtain ⟨s,q1,q2,q3⟩:=C7r F hF ps [] List.Pairwise.nil (by simpa using hok) (by simp; omega) F (by unfold D9 at hF; omega)
 rw [List.nil_append] at q2
 have hsl:=q2.length_eq
 have hsok:∀ p∈s,B2k p:=fun p hp=>hok p (q2.mem_iff.1 hp)
 have hmp:(s.map fun p=>p.1).Perm (ps.map fun p=>p.1):=q2.map _
 have hnd:(s.map fun p=>p.1).Nodup:=by
  rw [hmp.nodup_iff]
  unfold List.Nodup
  rw [List.pairwise_map]
  exact a3.imp (fun h=>by omega)
 have hgi:GI [] [] nC:=⟨⟨A4O,A4O⟩,List.Perm.refl _,(fun g hg=>by cases hg),List.Pairwise.nil,.inl ⟨rfl,rfl⟩⟩
 obtain ⟨l,c,r1,r2⟩:=B8F F hF (src:=s) (by omega) hsok q1 hnd s [] [] nC rfl hgi F (by unfold D9 at hF; omega)
 obtain ⟨c1,c2,c3,c4,_⟩:=r1
 have hperm:(sts l).Perm (ps.map fun p=>p.1):=c2.trans hmp
 have hr:D8 (0+ps.length) 192=true:=by rw [E5]; omega
 refine ⟨l,?_,c3,c4,?_,?_,?_,by omega,?_⟩
 ·unfold A5P
  refine(B8E F hF _ _ (src:=ps) (by omega) hok a3 ps [] rfl F (by unfold D9 at hF; omega)).trans ?_
  simp only [hr,cT]
  refine(q3 _ _).trans ?_
  exact r2 _ _
 ·intro x hx
  obtain ⟨p,hp,rfl⟩:=List.mem_map.1 (hperm.mem_iff.1 hx)
  obtain ⟨b1,b2,_⟩:=a2 p hp
  exact ⟨b1,b2⟩
 ·rw [c2.nodup_iff]; exact hnd
 ·obtain ⟨p,hp,h0⟩:=a4 (by omega)
  exact hperm.mem_iff.2 (List.mem_map.2 ⟨p,hp,h0⟩)
 ·have:=hperm.length_eq
  rw [B4O,List.length_map] at this
  omega
theorem A4Z(F:Nat)(hF:D9 F){t:List Int×Int×Unit}(h:J4 t):∃ t' v,Y7 F t=some (t',v,())∧J4 t'∧A8O v:=by
 obtain ⟨t1,k,e1,h1,k0,k1⟩:=B5 F h (n:=8) (by omega)
 unfold Y7
 rw [e1]
 simp only [bS]
 cases eqI k 0 with
 | true=>exact ⟨t1,0,rfl,h1,by unfold A8O; omega⟩
 | false =>
  simp only [cF]
  cases eqI k 1 with
  | true =>
   obtain ⟨t2,v,e2,h2,v0,v1⟩:=B5 F h1 (n:=2) (by omega)
   rw [cT,e2]
   have e5:E7 .i64 4611686018427387904 v=4611686018427387904 - v:=A31 (by omega)
   exact ⟨t2,_,rfl,h2,by show A8O (E7 .i64 4611686018427387904 v); rw [e5]; unfold A8O; omega⟩
  | false =>
   simp only [cF]
   cases eqI k 2 with
   | true =>
    obtain ⟨t2,w,e2,h2,w0,w1⟩:=O1 F hF h1
    obtain ⟨t3,v,e3,h3,v0,v1⟩:=B5 F h2 (n:=60) (by omega)
    have e4:C2 .i64 2 v=2+v:=H3 (by omega)
    have e5:IntKind.u64.wrap (2+v)=2+v:=G8 (by omega)
    have e6:ltI (2+v) 0=false:=by rw [← Bool.not_eq_true,B9]; omega
    rw [cT,e2]
    simp only [bS,e3,e4,e5,e6,cF]
    refine ⟨t3,_,rfl,h3,?_⟩
    have hs:0≤T8 .u64 w (2+v)∧T8 .u64 w (2+v)≤4611686018427387904:=by
     have hm:∃ m:Nat,2≤m∧T8 .u64 w (2+v)=((w.toNat / 2 ^ m:Nat):Int):=by
      rw [A0d w0]
      refine ⟨min (2+v).toNat 64,by omega,?_⟩
      simp only [IntKind.bits]
     obtain ⟨m,hm1,hm2⟩:=hm
     rw [hm2]
     have h4:w.toNat / 2 ^ m≤w.toNat / 4:=Nat.div_le_div_left (by have:=Nat.pow_le_pow_right (n:=2) (by omega) hm1; omega) (by omega)
     generalize w.toNat / 2 ^ m=u at *
     omega
    rw [A5H (by omega)]
    exact hs
   | false =>
    obtain ⟨t2,v,e2,h2,v0,v1⟩:=B5 F h1 (n:=30) (by omega)
    rw [cF,e2]
    exact ⟨t2,v,rfl,h2,by unfold A8O; omega⟩
theorem A8b(F:Nat)(hF:D9 F){t:List Int×Int×Unit}(h:J4 t){n:Int}(hn:1≤n∧n≤100) :
  ∃ t' l,A2q F t n=some (t',l,())∧J4 t'∧B0J l∧1≤l.length∧(l.length:Int)≤n∧A6O (l.map fun s=>s.1)=true:=by
 obtain ⟨t1,l,e1,h1,h2,h3,h4⟩:=A5s F hF h (n:=n) (by omega)
 unfold A2q
 rw [e1]
 simp only [bS]
 by_cases k:l.length=0
 ·have x1:eqI (C7 l) 0=true:=by rw [C4]; unfold C7; omega
  obtain ⟨t2,a,e2,g2,ha⟩:=N1 F hF h1
  obtain ⟨t3,b,e3,g3,hb⟩:=N1 F hF g2
  simp only [x1,cT,e2,e3,bS]
  exact ⟨t3,_,rfl,g3,(fun s hs=>by rw [List.mem_singleton] at hs; subst hs; exact ⟨ha,hb⟩),by simp,by simp; omega,rfl⟩
 ·have x1:eqI (C7 l) 0=false:=by rw [← Bool.not_eq_true,C4]; unfold C7; omega
  rw [x1,cF]
  exact ⟨t1,l,rfl,h1,h2,by omega,h3,h4⟩
theorem B4S(F:Nat)(hF:D9 F){t:List Int×Int×Unit}(h:J4 t):∃ t' l n,A5Q F t=some (t',l,n,())∧J4 t'∧LG l n:=by
 obtain ⟨t1,sm,e1,h1,h2,h3,h4,h5⟩:=A8b F hF h (n:=30) (by omega)
 obtain ⟨t2,tol,e2,g1,g2⟩:=A4Z F hF h1
 obtain ⟨ps,e3,k1⟩:=B7l F hF h2 h5 (by omega) (fun h0=>by rw [h0] at h3; simp at h3) g2
 obtain ⟨l,e4,k2⟩:=B4Q F hF k1 (by omega) (by omega)
 refine ⟨t2,l,(sm.length:Int),?_,g1,k2⟩
 unfold A5Q
 simp only [e1,e2,e3,e4,bS]
 rfl
theorem D0x{l:List Bool}{s y:Int}(hs:0≤s∧s < l.length)(hy:0≤y):B1 false (F1 l s true) y=if y=s then true else B1 false l y:=by
 unfold B1 F1
 rw [List.getD_eq_getElem?_getD,List.getD_eq_getElem?_getD,List.getElem?_set]
 by_cases c:y=s
 ·subst c
  rw [iP rfl,iP rfl,iP (by omega)]
  rfl
 ·rw [iN c,iN (by omega)]
theorem C7u:∀ {t:List Int} {seen:List Bool} {p:Int},seen.length=4096→t.Pairwise (· < ·)→(∀ x∈t,p < x∧0≤x∧x < 4096∧B1 false seen x=false) →
  ∃ s,okS seen p t=some s∧s.length=4096∧∀ y,0≤y→y ∉ t→B1 false s y=B1 false seen y
 | [],seen,p,hl,_,_=>⟨seen,rfl,hl,fun y _ _=>rfl⟩
 | x::t,seen,p,hl,hp,h=>by
  obtain ⟨h1,h2⟩:=List.pairwise_cons.1 hp
  obtain ⟨a1,a2,a3,a4⟩:=h x (by simp)
  have hg:∀ y,0≤y→B1 false (F1 seen x true) y=if y=x then true else B1 false seen y:=fun y hy=>D0x (by omega) hy
  obtain ⟨s,e,e2,e3⟩:=C7u (t:=t) (seen:=F1 seen x true) (p:=x) (by rw [T3]; exact hl) h2 (fun y hy=>by
   obtain ⟨b1,b2,b3,b4⟩:=h y (List.mem_cons_of_mem _ hy)
   have:=h1 y hy
   exact ⟨this,b2,b3,by rw [hg y b2,iN (by omega)]; exact b4⟩)
  refine ⟨s,?_,e2,fun y hy hny=>?_⟩
  ·rw [okS,iP ⟨a2,a3,a4,a1⟩]
   exact e
  ·simp only [List.mem_cons,not_or] at hny
   rw [e3 y hy hny.2,hg y hy,iN hny.1]
theorem C7v:∀ {l:List Gr} {seen:List Bool} {p:Option Gr},seen.length=4096→(∀ g∈l,E0K g)→l.Pairwise D0w→(∀ q,p=some q→∀ g∈l,D0w q g)→(∀ x∈sts l,0≤x∧x < 4096∧B1 false seen x=false)→(sts l).Nodup→okG seen p l=true
 | [],_,_,_,_,_,_,_,_=>rfl
 | g::t,seen,p,hl,hok,hs,hp,hx,hnd=>by
  obtain ⟨g1,g2,g3,g4,g5⟩:=hok g (by simp)
  obtain ⟨s1,s2⟩:=List.pairwise_cons.1 hs
  have hst:sts (g::t)=g.2.2.1++sts t:=rfl
  rw [hst] at hx hnd
  obtain ⟨n1,n2,n3⟩:=List.nodup_append.1 hnd
  obtain ⟨s,e1,e2,e3⟩:=C7u (t:=g.2.2.1) (p:=-1) hl g5 (fun x h=>by
   obtain ⟨a1,a2,a3⟩:=hx x (List.mem_append_left _ h)
   exact ⟨by omega,a1,a2,a3⟩)
  have ih:=C7v (l:=t) (seen:=s) (p:=some g) e2 (fun x h=>hok x (List.mem_cons_of_mem _ h)) s2 (fun q hq x h=>by cases hq; exact s1 x h) (fun x h=>by
   obtain ⟨a1,a2,a3⟩:=hx x (List.mem_append_right _ h)
   refine ⟨a1,a2,?_⟩
   rw [e3 x a1 (fun h2=>n3 x h2 x h rfl)]
   exact a3) n2
  have hie:g.2.2.1.isEmpty=false:=by
   cases h:g.2.2.1 with
   | nil=>exact absurd h g4
   | cons a b=>rfl
  unfold okG
  rw [decide_eq_true g3,hie,e1]
  cases p with
  | none=>simpa using ih
  | some q =>
   have hq:=hp q rfl g (by simp)
   have hlt:B0T q g=true:=by
    unfold B0T
    rcases hq with h | ⟨h1,h2⟩
    ·rw [decide_eq_true h]; rfl
    ·rw [decide_eq_true h1,decide_eq_true h2]; simp
   simp only [hlt,Bool.true_and,Bool.not_false]
   exact ih
theorem LG.gok{l:List Gr}{n:Int}(h:LG l n):GOk l:=fun g hg=>by
 obtain ⟨g1,g2,g3,g4,g5⟩:=h.ok g hg
 have hm:∀ x∈g.2.2.1,0≤x∧x < n:=fun x hx=>h.rng x (by unfold sts; exact List.mem_flatMap.2 ⟨g,hg,hx⟩)
 have h1:=A89 hg
 have h2:=h.len
 have h3:=h.n1
 exact ⟨g1,g2,fun x hx=>by have:=hm x hx; unfold I64; omega,by omega⟩
theorem D5W(n:Nat)(y:Int):B1 false (List.replicate n false) y=false:=by
 unfold B1
 rw [List.getD_eq_getElem?_getD,List.getElem?_replicate]
 split <;> rfl
theorem LG.gv{l:List Gr}{n:Int}(h:LG l n):gvE l=0:=by
 have h1:=A8a h.ok
 have h2:=h.len
 have h3:=h.n1
 have ho:okG (List.replicate 4096 false) none l=true:=by
  refine C7v (List.length_replicate ..) h.ok h.srt (fun q hq=>by cases hq) (fun x hx=>?_) h.nd
  have:=h.rng x hx
  exact ⟨by omega,by omega,D5W _ _⟩
 unfold gvE
 rw [iN (by omega),iN (by omega),iP ho]
theorem LG.hz{l:List Gr}{n:Int}(h:LG l n):hz l=true:=by
 obtain ⟨g,hg,h0⟩:=List.mem_flatMap.1 h.z
 unfold Go.Proofs.YtdhfajmcakneiaaGreat.hz
 rw [List.any_eq_true]
 refine ⟨g,hg,?_⟩
 obtain ⟨_,_,_,_,g5⟩:=h.ok g hg
 have hm:∀ x∈g.2.2.1,0≤x:=fun x hx=>(h.rng x (List.mem_flatMap.2 ⟨g,hg,hx⟩)).1
 cases hs:g.2.2.1 with
 | nil=>rw [hs] at h0; cases h0
 | cons s t =>
  rw [hs] at h0 g5 hm
  show eqI s 0=true
  rw [C4]
  rcases List.mem_cons.1 h0 with h0 | h0
  ·exact h0.symm
  ·have:=(List.pairwise_cons.1 g5).1 0 h0
   have:=hm s (by simp)
   omega
theorem A8S(F:Nat)(hF:D9 F):A6E F=some (true,()):=by
 unfold D9 at hF
 obtain ⟨G,rfl⟩:∃ G,F=G+400:=⟨F - 400,by omega⟩
 kernel_rfl
theorem C21{l:List Gr}(h:GOk l)(hv:gvE l=0):(gB l).length≤2000000∧Bt (gB l):=by
 obtain ⟨v1,v2,v3⟩:=B4C hv
 have hall:=B0U v3
 obtain ⟨s1,s2,s3⟩:=B4x (C3g h) (by rw [A2J]; omega)
 obtain ⟨g1,g2⟩:=A5x h
 have wz:=C1U v2 (fun g hg=>(hall g hg).2.1)
 have ws:=B7e (l:=l) (fun g hg=>(hall g hg).2.2)
 have hz:=A0U wz (by rw [A3j]; omega)
 have hst:=A0U ws (by rw [A3k]; omega)
 have h10:=A5V (v:=l.length) (by omega)
 unfold gB
 refine ⟨by simp only [List.length_append]; omega,?_⟩
 exact(((((C1u _).append s3).append g2).append (D5L wz)).append (D5L ws))
theorem LG.B{l:List Gr}{n:Int}(h:LG l n):(gB l).length≤4000∧Bt (gB l):=by
 refine ⟨?_,(C21 h.gok h.gv).2⟩
 obtain ⟨v1,v2,v3⟩:=B4C h.gv
 have hall:=B0U v3
 have h1:=A8a h.ok
 have h2:=h.len
 have h3:=h.n1
 have a1:=E4N (C3g h.gok)
 have a2:=(A5x h.gok).1
 have a3:=D5P (C1U v2 (fun g hg=>(hall g hg).2.1))
 have a4:=D5P (B7e (l:=l) (fun g hg=>(hall g hg).2.2))
 have h10:=A5V (v:=l.length) (by omega)
 rw [A2J] at a1
 rw [A3j] at a3
 rw [A3k] at a4
 unfold gB
 simp only [List.length_append]
 omega
theorem E0f{l:List Gr}(h:wfT (.slice (.pair (.int .i64) (.pair (.pair tyW (.pair tyW .unit)) (.pair (.slice (.int .i64)) .unit)))) l)(hs:szT (.slice (.pair (.int .i64) (.pair (.pair tyW (.pair tyW .unit)) (.pair (.slice (.int .i64)) .unit)))) l):GOk l :=
 fun g hg=>⟨A6A (h.2 g hg).1,⟨C1H (h.2 g hg).2.1.1,C1H (h.2 g hg).2.1.2.1⟩,fun x hx=>A6A ((h.2 g hg).2.2.1.2 x hx),by
  have hb:=(hs.2 g hg).2.2.1.1
  have hm:Go.reachBytes=140737488351232:=rfl
  show((List.length g.2.2.1:Nat):Int)≤140737488355328
  rw [hm] at hb
  omega⟩
theorem E4Z:I64 zG.1∧ROk zG.2.1∧Sg zG.2.2.1∧(zG.2.2.1.length:Int)≤140737488355328 :=
 ⟨by unfold I64; simp,A4O,fun x hx=>by simp at hx,by simp⟩
theorem GOk.get{l:List Gr}(h:GOk l)(i:Int):I64 (B1 zG l i).1∧ROk (B1 zG l i).2.1∧Sg (B1 zG l i).2.2.1∧((B1 zG l i).2.2.1.length:Int)≤140737488355328 :=
 A1F (P:=fun g:Gr=>I64 g.1∧ROk g.2.1∧Sg g.2.2.1∧(g.2.2.1.length:Int)≤140737488355328) h E4Z _
theorem GOk.set{l:List Gr}(h:GOk l)(i:Int){g:Gr}(hg:I64 g.1∧ROk g.2.1∧Sg g.2.2.1∧(g.2.2.1.length:Int)≤140737488355328):GOk (F1 l i g):=fun x hx=>by
 unfold F1 at hx
 rcases List.mem_or_eq_of_mem_set hx with h1 | h1
 ·exact h x h1
 ·rw [h1]; exact hg
theorem A2l(l:List Gr)(i:Int)(g:Gr):(F1 l i g).length=l.length:=by unfold F1; simp
theorem B11{l:List Gr}(hb:l.length≤1000)(hs:∀ g∈l,g.2.2.1.length≤100000):∀ (rest pre:List Gr),l=pre++rest→∀ N,rest.length < N→H6 l N (pre.length:Int) pre=some l:=by
 intro rest
 induction rest with
 | nil =>
  intro pre he N hN
  obtain ⟨N,rfl⟩:∃ M,N=M+1:=⟨N - 1,by omega⟩
  have hlen:l.length=pre.length:=by rw [he]; simp
  have x1:ltI (pre.length:Int) (C7 l)=false:=by rw [← Bool.not_eq_true,B9]; unfold C7; omega
  unfold H6
  rw [x1,cF,he,List.append_nil]
 | cons x rest ih =>
  intro pre he N hN
  obtain ⟨N,rfl⟩:∃ M,N=M+1:=⟨N - 1,by omega⟩
  simp only [List.length_cons] at hN
  have hlen:l.length=pre.length+1+rest.length:=by rw [he]; simp; omega
  have g:B1 zG l (pre.length:Int)=x:=by rw [he]; exact A3e pre x rest
  have hx:=hs x (by rw [he]; simp)
  have hpl:(((pre++[x]).length:Nat):Int)=(pre.length:Int)+1:=by simp
  have e:=ih (pre++[x]) (by rw [he]; simp) N (by omega)
  rw [hpl] at e
  have x1:ltI (pre.length:Int) (C7 l)=true:=by rw [B9]; unfold C7; omega
  have x2:inI (pre.length:Int) l.length=true:=by rw [N3]; omega
  have x3:D8 (0+x.2.2.1.length) 8=true:=by rw [E5]; omega
  have x4:D8 (pre.length+1) 112=true:=by rw [E5]; omega
  have xa:C2 .i64 (pre.length:Int) 1=(pre.length:Int)+1:=H3 (by omega)
  have x5:eqI ((pre.length:Int)+1) (C7 pre+1)=true:=by rw [C4]; rfl
  unfold H6
  simp only [x1,x2,cT,g,x3,x4,xa,x5]
  exact e
theorem A8T(F:Nat)(hF:D9 F){t:List Int×Int×Unit}(h:J4 t){l:List Gr}{n:Int}(hl:LG l n):∃ t' l',A37 F t l=some (t',l',())∧J4 t'∧GOk l'∧(l'.length:Int)≤1000:=by
 have hg:=hl.gok
 have hn1:=hl.n1
 have hlt:=hl.len
 have hll:=A8a hl.ok
 have hst:∀ g∈l,g.2.2.1.length≤tot l:=fun g hg=>by
  obtain ⟨a,b,rfl⟩:=List.append_of_mem hg
  rw [← B4O]
  unfold sts
  simp only [List.flatMap_append,List.flatMap_cons,List.length_append]
  omega
 have hcopy:=B11 (l:=l) (by omega) (fun g hg=>by have:=hst g hg; omega) l [] rfl F (by unfold D9 at hF; omega)
 have hcopy:H6 l F 0 []=some l:=hcopy
 have hne:0 < l.length:=by
  have:=hl.z
  cases l with
  | nil=>simp [sts] at this
  | cons x l=>simp
 obtain ⟨t1,i,e1,h1,hi0,hi⟩:=B5 F h (n:=C7 l) (by unfold C7; omega)
 unfold C7 at hi
 obtain ⟨t2,c,e2,h2,hc0,hc⟩:=B5 F h1 (n:=7) (by omega)
 have x1:eqI (C7 l) 0=false:=by rw [← Bool.not_eq_true,C4]; unfold C7; omega
 have x2:inI i l.length=true:=by rw [N3]; omega
 have hgi:=hg.get i
 have hmi:B1 zG l i∈l:=by
  have hlt:i.toNat < l.length:=by omega
  have:B1 zG l i=l[i.toNat]:=by simp only [B1]; exact X1 zG hlt
  rw [this]; exact List.getElem_mem hlt
 have hsi:=hst _ hmi
 have hnz:=(hl.ok _ hmi).2.2.2.1
 unfold A37 A01
 simp only [show eqI (C7 ([]:List Gr)) 0=true from rfl,cT,hcopy,bS,x1,cF,e1,e2,x2]
 have hgi0:=hgi
 generalize B1 zG l i=x at hsi hnz hgi ⊢
 have hxl:0 < x.2.2.1.length:=List.length_pos_iff.2 hnz
 have x3:inI 0 x.2.2.1.length=true:=by rw [N3]; omega
 have hx0:I64 (B1 0 x.2.2.1 0):=A1F (P:=I64) hgi.2.2.1 (by unfold I64; omega) _
 by_cases c0:c=0
 ·have y:eqI c 0=true:=C4.2 c0
  have x4:D8 (x.2.2.1.length+1) 8=true:=by rw [E5]; omega
  simp only [y,cT,x3,x4]
  refine ⟨_,_,rfl,h2,hg.set i ⟨hgi.1,hgi.2.1,fun z hz=>?_,?_⟩,by rw [A2l]; omega⟩
  ·simp only [List.mem_append,List.mem_singleton] at hz
   rcases hz with hz | hz
   ·exact hgi.2.2.1 z hz
   ·rw [hz]; exact hx0
  ·simp only [List.length_append,List.length_singleton]; omega
 have y0:eqI c 0=false:=by rw [← Bool.not_eq_true,C4]; exact c0
 simp only [y0,cF]
 by_cases c5:c=5
 ·have y:eqI c 5=true:=C4.2 c5
  obtain ⟨t3,d,e3,h3,hd0,hd⟩:=B5 F h2 (n:=2) (by omega)
  have xs:E7 .i64 4096 d=4096 - d:=A31 (by omega)
  simp only [y,cT,e3,bS,x3,xs]
  refine ⟨_,_,rfl,h3,hg.set i ⟨hgi.1,hgi.2.1,fun z hz=>?_,?_⟩,by rw [A2l]; omega⟩
  ·simp only [F1] at hz
   rcases List.mem_or_eq_of_mem_set hz with hz | hz
   ·exact hgi.2.2.1 z hz
   ·rw [hz]; unfold I64; omega
  ·simp only [F1,List.length_set]; exact hgi.2.2.2
 have y5:eqI c 5=false:=by rw [← Bool.not_eq_true,C4]; exact c5
 simp only [y5,cF]
 unfold A2b
 simp only [y0,cF]
 by_cases c1:c=1
 ·have y:eqI c 1=true:=C4.2 c1
  simp only [y,cT,x2]
  exact ⟨_,_,rfl,h2,hg.set i ⟨hgi0.1,hgi0.2.1,fun z hz=>by simp at hz,by simp⟩,by rw [A2l]; omega⟩
 have y1:eqI c 1=false:=by rw [← Bool.not_eq_true,C4]; exact c1
 simp only [y1,cF]
 by_cases c2:c=2
 ·have y:eqI c 2=true:=C4.2 c2
  obtain ⟨t3,q,e3,h3,hq,_⟩:=A7B F hF h2
  simp only [y,cT,e3,bS,x2]
  exact ⟨_,_,rfl,h3,hg.set i ⟨hgi0.1,hq,hgi0.2.2.1,hgi0.2.2.2⟩,by rw [A2l]; omega⟩
 have y2:eqI c 2=false:=by rw [← Bool.not_eq_true,C4]; exact c2
 simp only [y2,cF]
 by_cases c3:c=3
 ·have y:eqI c 3=true:=C4.2 c3
  obtain ⟨t3,z,e3,h3,hz⟩:=A84 F hF h2
  simp only [y,cT,e3,bS,x2]
  exact ⟨_,_,rfl,h3,hg.set i ⟨hgi0.1,⟨hgi0.2.1.1,I4 hz⟩,hgi0.2.2.1,hgi0.2.2.2⟩,by rw [A2l]; omega⟩
 have y3:eqI c 3=false:=by rw [← Bool.not_eq_true,C4]; exact c3
 simp only [y3,cF]
 by_cases c4:c=4
 ·have y:eqI c 4=true:=C4.2 c4
  have x4:D8 (l.length+1) 112=true:=by rw [E5]; omega
  simp only [y,cT,x2,x4,bS]
  refine ⟨_,_,rfl,h2,fun z hz=>?_,by simp; omega⟩
  simp only [List.mem_append,List.mem_singleton] at hz
  rcases hz with hz | hz
  ·exact hg z hz
  ·rw [hz]; exact hgi0
 have y4:eqI c 4=false:=by rw [← Bool.not_eq_true,C4]; exact c4
 simp only [y4,cF,y5]
 obtain ⟨t3,k,e3,h3,hk⟩:=N1 F hF h2
 simp only [e3,bS,x2,cT]
 exact ⟨_,_,rfl,h3,hg.set i ⟨hk,hgi0.2.1,hgi0.2.2.1,hgi0.2.2.2⟩,by rw [A2l]; omega⟩
theorem A24(F:Nat)(hF:D9 F){R:Type}(k0:Option R)(kret:Bool→Option R){l:List Gr}(hl:GOk l)(hb:(l.length:Int)≤140737488355328){ls:List (List Gr)}{i:Nat}(hi:i < ls.length)(hi2:i < 3)(hg:B1 [] ls (i:Int)=l)(N:Nat) :
  F0 F k0 kret (N+1) ls (i:Int)=F0 F k0 kret N ls ((i:Int)+1):=by
 have h1:=A7E F hF hl hb
 have h2:=B0V F hF hl hb
 have h3:=A4p F hF hl hb
 have h4:=A6o F hF hl hb
 have hsm:((gE l).1.length:Int)≤140737488355328:=by
  unfold gE
  by_cases c:gvE l=0
  ·rw [iP c]; have:=(C21 hl c).1; simp only; omega
  ·rw [iN c]; simp
 have hs:=B4l F hF (a:=(gE l).1) (b:=(gE l).1) hsm
 rw [decide_eq_true rfl] at hs
 have x1:ltI (i:Int) 3=true:=by rw [B9]; omega
 have x2:inI (i:Int) ls.length=true:=by rw [N3]; omega
 have xa:C2 .i64 (i:Int) 1=(i:Int)+1:=H3 (by omega)
 have z:eqI (gE l).2 (gE l).2=true:=by rw [C4]
 have z2:eqI (gvE l) (gvE l)=true:=by rw [C4]
 conv=>lhs; unfold F0
 simp only [x1,x2,hg,cT,h1,h2,h3,h4,bS,z,z2,hs,Bool.not_true,cF,xa]
theorem A7J(F:Nat)(hF:D9 F){l:List Gr}{t:List Int}(hl:GOk l)(hb:(l.length:Int)≤140737488355328)(ht:∀ x∈t,I64 x)(htl:(t.length:Int)≤140737488355328):A1n F l t=some (true,()):=by
 obtain ⟨t0,e0,h0⟩:=B8m F htl ht
 obtain ⟨t1,m,n,e1,h1,hm⟩:=B4S F hF h0
 obtain ⟨t2,s,e2,h2,hs,hsl⟩:=A8T F hF h1 hm
 have hn1:=hm.n1
 have hlt:=hm.len
 have hll:=A8a hm.ok
 obtain ⟨G,hG⟩:∃ G,F=G+1+1+1+1:=⟨F - 4,by unfold D9 at hF; omega⟩
 have fin:∀ (R:Type) (k0:Option R) (kret:Bool→Option R),F0 F k0 kret F [l,m,s] 0=k0:=by
  intro R k0 kret
  have s0:=fun N=>A24 F hF k0 kret hl hb (ls:=[l,m,s]) (i:=0) (by simp) (by omega) rfl N
  have s1:=fun N=>A24 F hF k0 kret hm.gok (by omega) (ls:=[l,m,s]) (i:=1) (by simp) (by omega) rfl N
  have s2:=fun N=>A24 F hF k0 kret hs (by omega) (ls:=[l,m,s]) (i:=2) (by simp) (by omega) rfl N
  have s3:∀ N,F0 F k0 kret (N+1) [l,m,s] 3=k0:=by
   intro N
   unfold F0
   have hx:ltI (3:Int) 3=false:=rfl
   rw [hx,cF]
  have h:=((s0 (G+1+1+1)).trans ((s1 (G+1+1)).trans ((s2 (G+1)).trans (s3 G))))
  rw [← hG] at h
  exact h
 unfold A1n
 simp only [e0,e1,e2,bS]
 rw [fin]
 simp only [A8S F hF,bS]
end Go.Proofs.YtdhfajmcakneiaaGreat
