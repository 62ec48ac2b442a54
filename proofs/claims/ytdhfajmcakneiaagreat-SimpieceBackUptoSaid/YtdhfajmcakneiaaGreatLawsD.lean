/- The laws of the models, part D. -/
import Derived.Test.YtdhfajmcakneiaaGreatLawsC
set_option linter.unusedVariables false
set_option linter.unusedSimpArgs false
namespace Go.Proofs.YtdhfajmcakneiaaGreat
open Go.Eng
def Asc:Int→List Int→Prop
 | _,[]=>True
 | p,s::t=>(0≤s∧s < 4096∧p < s)∧Asc s t
theorem okS_asc:∀ {t:List Int} {seen:List Bool} {p:Int} {s:List Bool},okS seen p t=some s→Asc p t
 | [],_,_,_,_=>trivial
 | x::t,seen,p,s,h=>by
  rw [okS] at h
  split at h
  ·rename_i c
   exact ⟨⟨c.1,c.2.1,c.2.2.2⟩,okS_asc h⟩
  ·cases h
theorem okG_all:∀ {l:List Gr} {seen:List Bool} {p:Option Gr},okG seen p l=true→∀ g∈l,RV g.2.1∧g.2.2.1≠[]∧Asc (-1) g.2.2.1
 | [],_,_,_=>fun g hg=>by cases hg
 | x::t,seen,p,h=>by
  unfold okG at h
  simp only [Bool.and_eq_true,decide_eq_true_eq,Bool.not_eq_true'] at h
  obtain ⟨h1,h2,h3,h4⟩:=h
  cases hS:okS seen (-1) x.2.2.1 with
  | none=>rw [hS] at h4; cases h4
  | some s =>
   rw [hS] at h4
   intro g hg
   rcases List.mem_cons.1 hg with rfl | hg
   ·refine ⟨h1,fun h0=>?_,okS_asc hS⟩
    rw [h0] at h2
    cases h2
   ·exact okG_all h4 g hg
def gk(l:List Gr):List Int:=l.map (·.1)
def gsz(l:List Gr):List Int:=l.map fun g=>(g.2.2.1.length:Int) - 1
def stp:Int→List Int→List Int
 | _,[]=>[]
 | p,s::t=>(s - (p+1))::stp s t
def gst:List Gr→List Int
 | []=>[]
 | g::t=>stp (-1) g.2.2.1++gst t
def gsl:List Gr→List Int
 | []=>[]
 | g::t=>sp g.2.1++gsl t
def gB(l:List Gr):List Int:=enc l.length++rE (gk l)++gsl l++nE (gsz l)++nE (gst l)
def gE(l:List Gr):List Int×Int:=if gvE l=0 then(gB l,0) else([],gvE l)
theorem gk_length(l:List Gr):(gk l).length=l.length:=by simp [gk]
theorem gsz_length(l:List Gr):(gsz l).length=l.length:=by simp [gsz]
theorem stp_length:∀ (t:List Int) (p:Int),(stp p t).length=t.length
 | [],_=>rfl
 | s::t,p=>by simp [stp,stp_length t]
theorem gst_length:∀ l:List Gr,(gst l).length=tot l
 | []=>rfl
 | g::t=>by simp [gst,tot,stp_length,gst_length t]
theorem gk_Sg{l:List Gr}(h:GOk l):Sg (gk l):=fun x hx=>by
 obtain ⟨g,hg,rfl⟩:=List.mem_map.1 hx
 exact(h g hg).1
theorem stp_Wd:∀ {t:List Int} {p:Int},-1≤p→Asc p t→∀ x∈stp p t,0≤x∧x≤4096
 | [],_,_,_=>fun x hx=>by cases hx
 | s::t,p,hp,⟨h1,h2⟩=>fun x hx=>by
  rw [stp] at hx
  rcases List.mem_cons.1 hx with rfl | hx
  ·omega
  ·exact stp_Wd (by omega) h2 x hx
theorem gst_Wd:∀ {l:List Gr},(∀ g∈l,Asc (-1) g.2.2.1)→Wd (gst l)
 | [],_=>Wd.nil
 | g::t,h=>by
  rw [gst]
  refine Wd.append (fun x hx=>?_) (gst_Wd fun y hy=>h y (List.mem_cons_of_mem _ hy))
  have:=stp_Wd (by omega) (h g (by simp)) x hx
  omega
theorem tot_mem:∀ {l:List Gr} {g:Gr},g∈l→g.2.2.1.length≤tot l
 | x::t,g,h=>by
  rcases List.mem_cons.1 h with rfl | h
  ·simp [tot]
  ·have:=tot_mem h; simp only [tot]; omega
theorem gsz_Wd{l:List Gr}(h:tot l≤4096)(hne:∀ g∈l,g.2.2.1≠[]):Wd (gsz l):=fun x hx=>by
 obtain ⟨g,hg,rfl⟩:=List.mem_map.1 hx
 have h1:=tot_mem hg
 have h2:g.2.2.1.length≠0:=fun h0=>hne g hg (List.length_eq_zero_iff.1 h0)
 omega
theorem gsl_small:∀ {l:List Gr},GOk l→(gsl l).length≤74*l.length∧Bt (gsl l)
 | [],_=>⟨by simp [gsl],Bt.nil⟩
 | x::t,h=>by
  obtain ⟨h1,h2⟩:=gsl_small (l:=t) (fun s hs=>h s (List.mem_cons_of_mem _ hs))
  have h3:=sp_len (h x (by simp)).2.1
  unfold gsl
  exact ⟨by simp only [List.length_append,List.length_cons]; omega,Bt.append (sp_Bt _) h2⟩
theorem gv_zero{l:List Gr}(h:gvE l=0):l.length≤4096∧tot l≤4096∧okG (List.replicate 4096 false) none l=true:=by
 unfold gvE at h
 by_cases c0:4096 < l.length
 ·rw [if_pos c0] at h; omega
 rw [if_neg c0] at h
 by_cases c1:4096 < tot l
 ·rw [if_pos c1] at h; omega
 rw [if_neg c1] at h
 refine ⟨by omega,by omega,?_⟩
 by_cases c2:okG (List.replicate 4096 false) none l=true
 ·exact c2
 ·rw [if_neg c2] at h; omega
theorem eSteps_loop(F:Nat){R:Type}(k2:List Gr→List Int→List Int→List Int→List Gr→Int→Int→Option R)(x0:List Gr)(x5 x6:List Int)(x28:List Gr)(x29 x30:Int){g:Gr}(hb:g.2.2.1.length≤100000):∀ (rest pre:List Int) (p:Int) (out:List Int),g.2.2.1=pre++rest→Ahead p pre→-1≤p→Asc p rest→out.length+rest.length≤100000→∀ N,rest.length < N →
  simpiece_Encode_l12 F k2 N x0 x5 x6 out g x28 x29 x30 g.2.2.1 (g.2.2.1.length:Int) (pre.length:Int)=k2 x0 x5 x6 (out++stp p rest) x28 x29 x30:=by
 intro rest
 induction rest with
 | nil =>
  intro pre p out he hp hp1 ha ho N hN
  obtain ⟨N,rfl⟩:∃ M,N=M+1:=⟨N - 1,by omega⟩
  have hlen:g.2.2.1.length=pre.length:=by rw [he]; simp
  unfold simpiece_Encode_l12
  simp (disch:=omega) only [bs,↓if_pos,↓if_neg]
  simp [stp]
 | cons s rest ih =>
  intro pre p out he hp hp1 ha ho N hN
  obtain ⟨N,rfl⟩:∃ M,N=M+1:=⟨N - 1,by omega⟩
  simp only [List.length_cons] at hN ho
  have hlen:g.2.2.1.length=pre.length+1+rest.length:=by rw [he]; simp; omega
  have hg:getL 0 g.2.2.1 (pre.length:Int)=s:=by rw [he]; exact get_mid pre s rest
  have hpl:(((pre++[s]).length:Nat):Int)=(pre.length:Int)+1:=by simp
  obtain ⟨⟨a1,a2,a3⟩,a4⟩:=ha
  have e:=ih (pre++[s]) s (out++[s - (p+1)]) (by rw [he]; simp) (Ahead.push pre s) (by omega) a4 (by simp only [List.length_append,List.length_singleton]; omega) N (by omega)
  rw [hpl] at e
  have hz:out++[s - (p+1)]++stp s rest=out++stp p (s::rest):=by simp [stp]
  rw [hz] at e
  unfold simpiece_Encode_l12
  rcases hp with ⟨hp,rfl⟩ | ⟨d,hp⟩
  ·have h0:pre.length=0:=by rw [hp]; rfl
   have hw:IntKind.u64.wrap s=s - (-1+1):=by rw [wrap_u64 (by omega)]; omega
   simp (disch:=omega) only [bs,↓if_pos,↓if_neg,hg,hw]
   exact e
  ·have hd:(pre.length:Int)=(d.length:Int)+1:=by rw [hp]; simp
   have hl:getL 0 g.2.2.1 ((pre.length:Int) - 1)=p:=by
    rw [hd,show(d.length:Int)+1 - 1=(d.length:Int) by omega,he,hp]
    exact getI_last d p (s::rest)
   have hw:IntKind.u64.wrap (s - (p+1))=s - (p+1):=wrap_u64 (by omega)
   simp (disch:=omega) only [bs,↓if_pos,↓if_neg,hg,hl,hw]
   exact e
theorem eGroups_loop(F:Nat)(hF:Fuel F){R:Type}(k0:List Gr→List Int→List Int→List Int→Option R)(x0:List Gr){src:List Gr}(hb:src.length≤100000)(hs:∀ g∈src,g.2.2.1≠[]∧Asc (-1) g.2.2.1∧g.2.2.1.length≤4096) :
  ∀ (rest pre:List Gr) (ok zk os zs st:List Int),src=pre++rest→ok.length=pre.length→zk.length=rest.length→os.length=pre.length→zs.length=rest.length→st.length+tot rest≤100000→∀ N,rest.length < N →
  simpiece_Encode_l8 F k0 N x0 (ok++zk) (os++zs) st src (src.length:Int) (pre.length:Int)=k0 x0 (ok++gk rest) (os++gsz rest) (st++gst rest):=by
 intro rest
 induction rest with
 | nil =>
  intro pre ok zk os zs st he h1 h2 h3 h4 h5 N hN
  obtain ⟨N,rfl⟩:∃ M,N=M+1:=⟨N - 1,by omega⟩
  have hlen:src.length=pre.length:=by rw [he]; simp
  have z1:zk=[]:=by simpa using h2
  have z2:zs=[]:=by simpa using h4
  subst z1; subst z2
  unfold simpiece_Encode_l8
  simp (disch:=omega) only [bs,↓if_pos,↓if_neg]
  simp [gk,gsz,gst]
 | cons x rest ih =>
  intro pre ok zk os zs st he h1 h2 h3 h4 h5 N hN
  obtain ⟨N,rfl⟩:∃ M,N=M+1:=⟨N - 1,by omega⟩
  cases zk with
  | nil=>simp at h2
  | cons y zk =>
  cases zs with
  | nil=>simp at h4
  | cons y2 zs =>
  simp only [List.length_cons] at hN h2 h4
  simp only [tot] at h5
  have hlen:src.length=pre.length+1+rest.length:=by rw [he]; simp; omega
  have g:getL zG src (pre.length:Int)=x:=by rw [he]; exact getG_mid pre x rest
  obtain ⟨a1,a2,a3⟩:=hs x (by rw [he]; simp)
  have hl0:x.2.2.1.length≠0:=fun h=>a1 (List.length_eq_zero_iff.1 h)
  have hpl:(((pre++[x]).length:Nat):Int)=(pre.length:Int)+1:=by simp
  have hw:IntKind.u64.wrap ((x.2.2.1.length:Int) - 1)=(x.2.2.1.length:Int) - 1:=wrap_u64 (by omega)
  have e:=ih (pre++[x]) (ok++[x.1]) zk (os++[(x.2.2.1.length:Int) - 1]) zs (st++stp (-1) x.2.2.1) (by rw [he]; simp) (by simp [h1]) (by omega) (by simp [h3]) (by omega) (by rw [List.length_append,stp_length]; omega) N (by omega)
  rw [hpl] at e
  have hz1:ok++[x.1]++gk rest=ok++gk (x::rest):=by simp [gk]
  have hz2:os++[(x.2.2.1.length:Int) - 1]++gsz rest=os++gsz (x::rest):=by simp [gsz]
  have hz3:st++stp (-1) x.2.2.1++gst rest=st++gst (x::rest):=by simp [gst]
  rw [hz1,hz2,hz3] at e
  have s1:setL (ok++y::zk) (pre.length:Int) x.1=(ok++[x.1])++zk:=by rw [← h1]; exact set_mid _ _ _ _
  have s2:setL (os++y2::zs) (pre.length:Int) ((x.2.2.1.length:Int) - 1)=(os++[(x.2.2.1.length:Int) - 1])++zs:=by rw [← h3]; exact set_mid _ _ _ _
  have l1:(ok++y::zk).length=ok.length+(zk.length+1):=by simp
  have l2:(os++y2::zs).length=os.length+(zs.length+1):=by simp
  have e0:=eSteps_loop F (fun z29 z30 z31 z32 z33 z34 z35=>simpiece_Encode_l8 F k0 N z29 z30 z31 z32 z33 z34 (addI .i64 z35 1)) x0 ((ok++[x.1])++zk) ((os++[(x.2.2.1.length:Int) - 1])++zs) src (src.length:Int) (pre.length:Int) (g:=x) (by omega) x.2.2.1 [] (-1) st rfl (.inl ⟨rfl,rfl⟩) (by omega) a2 (by omega) F (by unfold Fuel at hF; omega)
  have e0:simpiece_Encode_l12 F (fun z29 z30 z31 z32 z33 z34 z35=>simpiece_Encode_l8 F k0 N z29 z30 z31 z32 z33 z34 (addI .i64 z35 1)) F x0 ((ok++[x.1])++zk) ((os++[(x.2.2.1.length:Int) - 1])++zs) st x src (src.length:Int) (pre.length:Int) x.2.2.1 (x.2.2.1.length:Int) 0=_:=e0
  unfold simpiece_Encode_l8
  simp (disch:=omega) only [bs,↓if_pos,↓if_neg,g,s1,s2,hw]
  rw [e0]
  refine Eq.trans ?_ e
  simp (disch:=omega) only [bs,↓if_pos,↓if_neg]
theorem eSlope_loop(F:Nat)(hF:Fuel F){R:Type}(k:List Int→List Int→List Int→Option R)(x6 x7:List Int){src:List Gr}(hs:GOk src)(hb:src.length≤100000):∀ (rest pre:List Gr) (b:List Int),src=pre++rest→(b.length:Int)+74*rest.length≤140737488355000→∀ N,rest.length < N →
  simpiece_Encode_l24 F k N x6 x7 b src (src.length:Int) (pre.length:Int)=k x6 x7 (b++gsl rest):=by
 intro rest
 induction rest with
 | nil =>
  intro pre b he hc N hN
  obtain ⟨N,rfl⟩:∃ M,N=M+1:=⟨N - 1,by omega⟩
  have hlen:src.length=pre.length:=by rw [he]; simp
  unfold simpiece_Encode_l24
  simp (disch:=omega) only [bs,↓if_pos,↓if_neg]
  simp [gsl]
 | cons x rest ih =>
  intro pre b he hc N hN
  obtain ⟨N,rfl⟩:∃ M,N=M+1:=⟨N - 1,by omega⟩
  simp only [List.length_cons] at hN hc
  have hlen:src.length=pre.length+1+rest.length:=by rw [he]; simp; omega
  have g:getL zG src (pre.length:Int)=x:=by rw [he]; exact getG_mid pre x rest
  have hx:=hs x (by rw [he]; simp)
  have hsl:=sp_len hx.2.1
  have hpl:(((pre++[x]).length:Nat):Int)=(pre.length:Int)+1:=by simp
  have e:=ih (pre++[x]) (b++sp x.2.1) (by rw [he]; simp) (by rw [List.length_append]; omega) N (by omega)
  rw [hpl,List.append_assoc] at e
  unfold simpiece_Encode_l24
  simp (disch:=omega) only [bs,↓if_pos,↓if_neg,g,AppendSlope_eq F hF (b:=b) (by omega) hx.2.1]
  exact e
theorem simpiece_list_eq(F:Nat)(hF:Fuel F){b l:List Int}(hl:Wd l)(hn:l.length≤65536)(hb:b.length≤10000000):simpiece_list F b l=some (b++nE l,()):=by
 unfold simpiece_list
 rw [numbers_Encode_eq F hF hl hn]
 have hs:=nE_small hl hn
 have r:roomB (b.length+(nE l).length) 1=true:=by rw [roomB_true]; omega
 simp only [Option.bind_some,r,cond_true]
theorem simpiece_Encode_eq(F:Nat)(hF:Fuel F){l:List Gr}(h:GOk l)(hb:(l.length:Int)≤140737488355328):simpiece_Encode F l=some ((gE l).1,(gE l).2,()):=by
 unfold simpiece_Encode gE
 rw [simpiece_Valid_eq F hF h hb]
 simp only [Option.bind_some]
 by_cases c0:gvE l=0
 ·obtain ⟨v1,v2,v3⟩:=gv_zero c0
  have hall:=okG_all v3
  rw [if_pos c0,c0]
  have x1:makeB (lenI l) (lenI l) 8=true:=by rw [makeB_true]; unfold lenI; omega
  simp only [show eqI (0:Int) 0=true from rfl,Bool.not_true,cond_false,x1,cond_true]
  refine(eGroups_loop F hF _ l (src:=l) (by omega) (fun g hg=>⟨(hall g hg).2.1,(hall g hg).2.2,by have:=tot_mem hg; omega⟩) l [] [] (replI (lenI l) 0) [] (replI (lenI l) 0) [] rfl rfl (by simp [replI,lenI]) rfl (by simp [replI,lenI]) (by simp; omega) F (by unfold Fuel at hF; omega)).trans ?_
  have hw2:IntKind.u64.wrap (lenI l)=(l.length:Int):=by unfold lenI; exact wrap_u64 (by omega)
  have e4:=varint_Append_eq F hF (b:=[]) (by simp [Room]) (v:=l.length) (by omega)
  rw [List.nil_append] at e4
  have h10:=enc_le10 (v:=l.length) (by omega)
  have e6:=residual_Encode_eq F hF (gk_Sg h) (by rw [gk_length]; omega)
  rw [rEe_ok (by rw [gk_length]; omega)] at e6
  obtain ⟨s1,s2,s3⟩:=rE_small (gk_Sg h) (by rw [gk_length]; omega)
  have hg:=(gsl_small h).1
  have wz:=gsz_Wd v2 (fun g hg=>(hall g hg).2.1)
  have ws:=gst_Wd (l:=l) (fun g hg=>(hall g hg).2.2)
  have hz:=nE_small wz (by rw [gsz_length]; omega)
  have r2:roomB ((enc l.length).length+(rE (gk l)).length) 1=true:=by rw [roomB_true]; omega
  simp only [List.nil_append,e6,Option.bind_some,show eqI (0:Int) 0=true from rfl,Bool.not_true,cond_false,hw2,e4,r2,cond_true]
  refine(eSlope_loop F hF _ _ _ (src:=l) h (by omega) l [] _ rfl (by simp only [List.length_append]; omega) F (by unfold Fuel at hF; omega)).trans ?_
  simp only [simpiece_list_eq F hF wz (by rw [gsz_length]; omega) (show(enc l.length++rE (gk l)++gsl l).length≤10000000 by simp only [List.length_append]; omega),Option.bind_some,
   simpiece_list_eq F hF ws (by rw [gst_length]; omega) (show(enc l.length++rE (gk l)++gsl l++nE (gsz l)).length≤10000000 by simp only [List.length_append]; omega)]
  rfl
 ·rw [if_neg c0]
  have:eqI (gvE l) 0=false:=by rw [← Bool.not_eq_true,eqI_true]; exact c0
  rw [this]
  rfl
abbrev Gn:=Int×(Rt×(Unit×Unit))
abbrev zGn:Gn:=(0,(zR,((),())))
/- slopes -/
def rgs(b:List Int):Int→List Int→List Gn×Int×Int
 | at_,k::ks =>
  if(rsp b at_).2.2=0 then
   if(rgs b (rsp b at_).2.1 ks).2.2=0 then((k,((rsp b at_).1,((),())))::(rgs b (rsp b at_).2.1 ks).1,(rgs b (rsp b at_).2.1 ks).2.1,0)
   else([],0,(rgs b (rsp b at_).2.1 ks).2.2)
  else([],0,(rsp b at_).2.2)
 | at_,[]=>([],at_,0)
theorem setQ_mid(d:List Gn)(x y:Gn)(t:List Gn):setL (d++x::t) (d.length:Int) y=(d++[y])++t:=by
 simp [setL]
theorem gSlope_loop(F:Nat)(hF:Fuel F){R:Type}(k:Int→List Gn→Option R)(kr:List Gn→Int→Int→Option R){b:List Int}(hbt:Bt b)(hbl:(b.length:Int)≤140737488355328){ks:List Int}(hb:ks.length≤100000) :
  ∀ (rk pk:List Int) (at_:Int) (out z:List Gn),ks=pk++rk→out.length=pk.length→z.length=rk.length→∀ N,rk.length < N →
  simpiece_groups_l6 F k kr N b at_ (out++z) ks (ks.length:Int) (pk.length:Int)=if(rgs b at_ rk).2.2=0 then k (rgs b at_ rk).2.1 (out++(rgs b at_ rk).1) else kr [] 0 (rgs b at_ rk).2.2:=by
 intro rk
 induction rk with
 | nil =>
  intro pk at_ out z hc ho hz N hN
  obtain ⟨N,rfl⟩:∃ M,N=M+1:=⟨N - 1,by omega⟩
  have:z=[]:=List.length_eq_zero_iff.1 hz
  subst this
  have hlen:ks.length=pk.length:=by rw [hc]; simp
  have hr:rgs b at_ []=([],at_,0):=by unfold rgs; rfl
  unfold simpiece_groups_l6
  rw [hr]
  simp (disch:=omega) only [bs,↓if_pos,↓if_neg]
 | cons x rk ih =>
  intro pk at_ out z hc ho hz N hN
  obtain ⟨N,rfl⟩:∃ M,N=M+1:=⟨N - 1,by omega⟩
  obtain ⟨y,z',rfl⟩:∃ y z',z=y::z':=by
   cases z with
   | nil=>simp at hz
   | cons y z'=>exact ⟨y,z',rfl⟩
  have hl1:ks.length=pk.length+1+rk.length:=by rw [hc]; simp; omega
  simp only [List.length_cons] at hN hz
  have g1:getL 0 ks (pk.length:Int)=x:=by rw [hc]; exact get_mid pk x rk
  have st:∀ w,setL (out++y::z') (pk.length:Int) w=(out++[w])++z':=fun w=>by rw [← ho]; exact setQ_mid out y w z'
  have hol:(out++y::z').length=pk.length+1+z'.length:=by simp; omega
  have e:=fun a (w:Gn)=>ih (pk++[x]) a (out++[w]) z' (by rw [hc]; simp) (by simp [ho]) (by omega) N (by omega)
  have hpc:(((pk++[x]).length:Nat):Int)=(pk.length:Int)+1:=by simp
  simp only [hpc] at e
  have x1:ltI (pk.length:Int) (ks.length:Int)=true:=by rw [ltI_true]; omega
  have x2:inI (pk.length:Int) ks.length=true:=by rw [inI_true]; omega
  have x4:inI (pk.length:Int) (out++y::z').length=true:=by rw [inI_true]; omega
  have xa:addI .i64 (pk.length:Int) 1=(pk.length:Int)+1:=addI_i64 (by omega)
  unfold simpiece_groups_l6
  rw [rgs]
  simp only [x1,x2,x4,cond_true,g1,Option.bind_some,st,xa,records_Slope_eq F hF hbt hbl]
  by_cases c2:(rsp b at_).2.2=0
  ·have y2:eqI (rsp b at_).2.2 0=true:=eqI_true.2 c2
   rw [if_pos c2,y2,Bool.not_true,cond_false,e]
   by_cases c3:(rgs b (rsp b at_).2.1 rk).2.2=0
   ·rw [if_pos c3,if_pos c3,if_pos rfl,List.append_assoc]
    rfl
   ·rw [if_neg c3,if_neg c3,if_neg c3]
  ·have y2:eqI (rsp b at_).2.2 0=false:=by rw [← Bool.not_eq_true,eqI_true]; exact c2
   rw [if_neg c2,y2,Bool.not_false,cond_true,if_neg c2]
def nsl:List Gn→List Int
 | []=>[]
 | g::t=>sp g.2.1++nsl t
theorem rgs_back{rest:List Int}:∀ {l:List Gn} {b:List Int},(∀ g∈l,ROk g.2.1∧RV g.2.1)→rgs (b++(nsl l++rest)) (b.length:Int) (l.map (·.1))=(l,(b.length:Int)+(nsl l).length,0)
 | [],b,_=>by
  show rgs _ _ []=_
  unfold rgs
  simp [nsl]
 | x::l,b,h=>by
  obtain ⟨xk,xs,_,_⟩:=x
  obtain ⟨hx,hv⟩:=h _ (List.mem_cons_self ..)
  have h':∀ g∈l,ROk g.2.1∧RV g.2.1:=fun s hs=>h s (List.mem_cons_of_mem _ hs)
  rw [List.map_cons,rgs,nsl]
  have e1:=rsp_back hx hv b (nsl l++rest)
  have e2:=rgs_back (rest:=rest) (b:=b++sp xs) h'
  have hb1:b++(sp xs++nsl l++rest)=b++(sp xs++(nsl l++rest)):=by simp only [List.append_assoc]
  have hb2:b++(sp xs++nsl l++rest)=(b++sp xs)++(nsl l++rest):=by simp only [List.append_assoc]
  rw [← hb1] at e1
  rw [← hb2,List.length_append,Int.natCast_add] at e2
  simp only [e1]
  rw [if_pos trivial,e2]
  simp only [if_true,List.length_append,Prod.mk.injEq,and_true,true_and]
  omega
/- sizes -/
def fitR:Int→List Int→Option Int
 | left,[]=>some left
 | left,x::t=>if x < left then fitR (left - (x+1)) t else none
theorem sat_fit{T:Int}(hT:0≤T):∀ (l:List Int) (s:Int),Wd l→0≤s→s≤T→sat T s l=match fitR (T - s) l with | some left=>T - left | none=>T+1
 | [],s,_,_,_=>by
  show s=T - (T - s)
  omega
 | x::t,s,hw,h0,h1=>by
  have hx:=Wd.head hw
  rw [sat,fitR]
  by_cases c:x < T - s
  ·rw [if_pos c,show min (s+(min x T+1)) (T+1)=s+x+1 by omega,sat_fit hT t _ (Wd.tail hw) (by omega) (by omega),show T - (s+x+1)=T - s - (x+1) by omega]
  ·rw [if_neg c,show min (s+(min x T+1)) (T+1)=T+1 by omega]
   exact sat_top hT t (Wd.tail hw)
theorem fitR_le:∀ {l:List Int} {left r:Int},Wd l→0≤left→fitR left l=some r→0≤r∧r≤left∧isum (mre l)=left - r∧(∀ x∈l,x < left)∧(l.length:Int)≤left
 | [],left,r,_,h0,h=>by
  simp only [fitR,Option.some.injEq] at h
  subst h
  refine ⟨h0,Int.le_refl _,?_,fun x hx=>by simp at hx,h0⟩
  show isum []=_
  simp [isum]
 | x::t,left,r,hw,h0,h=>by
  have hx:=Wd.head hw
  rw [fitR] at h
  split at h
  ·rename_i c
   obtain ⟨h1,h2,h3,h4,h5⟩:=fitR_le (Wd.tail hw) (by omega) h
   refine ⟨h1,by omega,?_,fun y hy=>?_,by simp only [List.length_cons]; push_cast; omega⟩
   ·show isum ((x+1)::mre t)=_
    simp only [isum,h3]
    omega
   ·rcases List.mem_cons.1 hy with rfl | hy
    ·exact c
    ·have:=h4 y hy; omega
  ·cases h
theorem mrm_fit{T:Int}:∀ {l:List Int},(∀ x∈l,x < T)→mrm T l=mre l
 | [],_=>rfl
 | x::t,h=>by
  have:=h x (by simp)
  rw [mrm,mre,mrm_fit fun y hy=>h y (List.mem_cons_of_mem _ hy),show min x T=x by omega]
/- starts -/
def shI(T:Int):Nat→Int→List Int→Option (List Int×List Int)
 | 0,_,steps=>some ([],steps)
 | _+1,_,[]=>none
 | m+1,next,s::steps=>if s < T - next then(match shI T m (next+s+1) steps with | some r=>some ((next+s)::r.1,r.2) | none=>none) else none
def shA(T:Int):List Int→List Int→Option (List (List Int))
 | [],_=>some []
 | c::cs,steps=>match shI T c.toNat 0 steps with
  | some r=>(match shA T cs r.2 with | some D=>some (r.1::D) | none=>none)
  | none=>none
theorem shI_ok{T:Int}:∀ {m:Nat} {next:Int} {steps:List Int} {r:List Int×List Int},0≤next→Wd steps→shI T m next steps=some r→steps=stp (next - 1) r.1++r.2∧r.1.length=m∧(∀ x∈r.1,next≤x∧x < T)
 | 0,next,steps,r,_,_,h=>by
  simp only [shI,Option.some.injEq] at h
  subst h
  exact ⟨rfl,rfl,fun x hx=>by simp at hx⟩
 | m+1,next,[],r,_,_,h=>by simp [shI] at h
 | m+1,next,s::steps,r,h0,hw,h=>by
  have hs:=Wd.head hw
  rw [shI] at h
  split at h
  ·rename_i c
   cases h2:shI T m (next+s+1) steps with
   | none=>rw [h2] at h; cases h
   | some q =>
    rw [h2] at h
    simp only [Option.some.injEq] at h
    subst h
    obtain ⟨a1,a2,a3⟩:=shI_ok (by omega) (Wd.tail hw) h2
    refine ⟨?_,by simp [a2],fun x hx=>?_⟩
    ·show s::steps=(next+s - (next - 1+1))::stp (next+s) q.1++q.2
     rw [show next+s - (next - 1+1)=s by omega,List.cons_append]
     rw [show next+s+1 - 1=next+s by omega] at a1
     rw [← a1]
    ·rcases List.mem_cons.1 hx with rfl | hx
     ·omega
     ·have:=a3 x hx; omega
  ·cases h
theorem shIn_loop(F:Nat){T:Int}(hT:0≤T∧T≤4096):∀ (m:Nat) (j next size:Int) (steps xs:List Int),size=j+m→0≤j→size≤4096→0≤next→next≤T→m≤steps.length→Wd steps→steps.length≤100000→xs.length+m≤100000→∀ N,m < N →
  ∃ a c,simpiece_share_in F true T size N j next steps xs=(match shI T m next steps with | some r=>some (true,r.2,xs++r.1) | none=>some (false,a,c)):=by
 intro m
 induction m with
 | zero =>
  intro j next size steps xs h1 h2 h3 h4 h5 h6 h7 h8 h9 N hN
  obtain ⟨N,rfl⟩:∃ M,N=M+1:=⟨N - 1,by omega⟩
  refine ⟨[],[],?_⟩
  unfold simpiece_share_in shI
  have:ltI j size=false:=by rw [← Bool.not_eq_true,ltI_true]; omega
  rw [this,cond_false]
  simp
 | succ m ih =>
  intro j next size steps xs h1 h2 h3 h4 h5 h6 h7 h8 h9 N hN
  obtain ⟨N,rfl⟩:∃ M,N=M+1:=⟨N - 1,by omega⟩
  cases steps with
  | nil=>simp at h6
  | cons s steps =>
   have hs:=Wd.head h7
   simp only [List.length_cons] at h6 h8
   have x1:ltI j size=true:=by rw [ltI_true]; omega
   have x2:inI 0 (s::steps).length=true:=by rw [inI_true]; simp only [List.length_cons]; omega
   have hw:IntKind.u64.wrap (subI .i64 T next)=T - next:=by rw [subI_i64 (by omega),wrap_u64 (by omega)]
   have g0:getL 0 (s::steps) 0=s:=rfl
   unfold simpiece_share_in
   rw [x1,cond_true,x2,cond_true,hw,g0,shI]
   by_cases c:s < T - next
   ·have y1:leI (T - next) s=false:=by rw [← Bool.not_eq_true,leI_true]; omega
    have r1:roomB (xs.length+1) 8=true:=by rw [roomB_true]; omega
    have c1:cutB 1 (lenI (s::steps)) (s::steps).length=true:=by rw [cutB_true]; unfold lenI; simp only [List.length_cons]; omega
    have hws:IntKind.i64.wrap s=s:=wrap_i64 (by omega)
    have a1:addI .i64 next s=next+s:=addI_i64 (by omega)
    have a2:addI .i64 (next+s) 1=next+s+1:=addI_i64 (by omega)
    have a3:addI .i64 j 1=j+1:=addI_i64 (by omega)
    have d1:dropL (s::steps) 1=steps:=rfl
    obtain ⟨a,d,e⟩:=ih (j+1) (next+s+1) size steps (xs++[next+s]) (by omega) (by omega) h3 (by omega) (by omega) (by omega) (Wd.tail h7) (by omega) (by simp only [List.length_append,List.length_singleton]; omega) N (by omega)
    refine ⟨a,d,?_⟩
    rw [if_pos c,y1,cond_false,cond_true,r1,cond_true,c1,cond_true,hws,a1,a2,a3,d1,e]
    cases shI T m (next+s+1) steps with
    | none=>rfl
    | some r=>simp
   ·have y1:leI (T - next) s=true:=by rw [leI_true]; omega
    refine ⟨s::steps,xs,?_⟩
    rw [if_neg c,y1,cond_true]
theorem shOut_loop(F:Nat)(hF:Fuel F){T:Int}(hT:0≤T∧T≤4096){src:List Int}(hs:∀ x∈src,1≤x∧x≤4096)(hb:src.length≤100000):∀ (rest pre:List Int) (steps:List Int) (D:List (List Int)),src=pre++rest→D.length=pre.length→isum rest≤steps.length→Wd steps→steps.length≤50000→∀ N,rest.length < N →
  ∃ D',simpiece_share_out F src.length T src (src.length:Int) N (pre.length:Int) steps D=(match shA T rest steps with | some D2=>some (true,D++D2) | none=>some (false,D')):=by
 intro rest
 induction rest with
 | nil =>
  intro pre steps D he hD h1 h2 h3 N hN
  obtain ⟨N,rfl⟩:∃ M,N=M+1:=⟨N - 1,by omega⟩
  have hlen:src.length=pre.length:=by rw [he]; simp
  refine ⟨[],?_⟩
  unfold simpiece_share_out shA
  have:ltI (pre.length:Int) (src.length:Int)=false:=by rw [← Bool.not_eq_true,ltI_true]; omega
  rw [this,cond_false]
  show some (true,D)=some (true,D++[])
  rw [List.append_nil]
 | cons x rest ih =>
  intro pre steps D he hD h1 h2 h3 N hN
  obtain ⟨N,rfl⟩:∃ M,N=M+1:=⟨N - 1,by omega⟩
  simp only [List.length_cons] at hN
  have hlen:src.length=pre.length+1+rest.length:=by rw [he]; simp; omega
  have g:getL 0 src (pre.length:Int)=x:=by rw [he]; exact get_mid pre x rest
  have hx:=hs x (by rw [he]; simp)
  have hpl:(((pre++[x]).length:Nat):Int)=(pre.length:Int)+1:=by simp
  have hpos:0≤isum rest:=by
   have:∀ l:List Int,(∀ y∈l,1≤y)→0≤isum l:=by
    intro l
    induction l with
    | nil=>intro _; simp [isum]
    | cons y t iht=>intro h; have:=iht (fun z hz=>h z (List.mem_cons_of_mem _ hz)); have:=h y (by simp); simp only [isum]; omega
   exact this rest fun y hy=>(hs y (by rw [he]; simp [hy])).1
  simp only [isum] at h1
  obtain ⟨a,c,e⟩:=shIn_loop F hT x.toNat 0 0 x steps [] (by omega) (by omega) (by omega) (by omega) (by omega) (by omega) h2 (by omega) (by simp; omega) F (by unfold Fuel at hF; omega)
  have x1:ltI (pre.length:Int) (src.length:Int)=true:=by rw [ltI_true]; omega
  have x2:inI (pre.length:Int) src.length=true:=by rw [inI_true]; omega
  unfold simpiece_share_out
  rw [x1,cond_true,x2,cond_true,g,e,shA]
  cases hq:shI T x.toNat 0 steps with
  | none=>exact ⟨D++[c],rfl⟩
  | some r =>
   obtain ⟨b1,b2,b3⟩:=shI_ok (by omega) h2 hq
   have hl:=congrArg List.length b1
   rw [List.length_append,stp_length,b2] at hl
   obtain ⟨D',e2⟩:=ih (pre++[x]) r.2 (D++[r.1]) (by rw [he]; simp) (by simp [hD]) (by omega) (by rw [b1] at h2; exact Wd.right h2) (by omega) N (by omega)
   rw [hpl] at e2
   have y1:eqI ((pre.length:Int)+1) (lenI D+1)=true:=by rw [eqI_true]; unfold lenI; omega
   have a1:addI .i64 (pre.length:Int) 1=(pre.length:Int)+1:=addI_i64 (by omega)
   refine ⟨D',?_⟩
   simp only [Option.bind_some,cond_true,List.nil_append,y1,a1,e2]
   cases shA T rest r.2 with
   | none=>rfl
   | some D2=>simp
theorem simpiece_share_eq(F:Nat)(hF:Fuel F){T:Int}(hT:0≤T∧T≤4096){L:List Gn}{cs steps:List Int}(hs:∀ x∈cs,1≤x∧x≤4096)(hl:L.length=cs.length)(hb:cs.length≤100000)(h1:isum cs≤steps.length)(h2:Wd steps)(h3:steps.length≤50000) :
  ∃ L',simpiece_share F L cs steps T=(match shA T cs steps with | some D=>some (fillG L D,true,()) | none=>some (L',false,())):=by
 obtain ⟨D',e⟩:=shOut_loop F hF hT hs hb cs [] steps [] rfl rfl h1 h2 h3 F (by unfold Fuel at hF; omega)
 refine ⟨fillG L D',?_⟩
 unfold simpiece_share simpiece_share_l2
 have z:eqI (0:Int) 0=true:=rfl
 have e:simpiece_share_out F L.length T cs (lenI cs) F 0 steps []=(match shA T cs steps with | some D2=>some (true,[]++D2) | none=>some (false,D')):=by rw [hl]; exact e
 simp only [z,cond_true,e]
 cases shA T cs steps with
 | none=>rfl
 | some D=>simp
def hdz:List Int→Bool
 | []=>false
 | s::_=>eqI s 0
def hz(l:List Gr):Bool:=l.any fun g=>hdz g.2.2.1
theorem gIndex_loop(F:Nat){src:List Gr}(hs:∀ g∈src,g.2.2.1≠[])(hb:src.length≤100000):∀ (rest pre:List Gr),src=pre++rest→∀ N,rest.length < N →
  ∃ r:Int,slices_IndexFunc_apiGroup_l2 F (some ((-1),())) (fun z6=>some (z6,())) N src (src.length:Int) (pre.length:Int)=some (r,())∧leI 0 r=hz rest:=by
 intro rest
 induction rest with
 | nil =>
  intro pre he N hN
  obtain ⟨N,rfl⟩:∃ M,N=M+1:=⟨N - 1,by omega⟩
  have hlen:src.length=pre.length:=by rw [he]; simp
  refine ⟨-1,?_,rfl⟩
  unfold slices_IndexFunc_apiGroup_l2
  simp (disch:=omega) only [bs,↓if_pos,↓if_neg]
 | cons x rest ih =>
  intro pre he N hN
  obtain ⟨N,rfl⟩:∃ M,N=M+1:=⟨N - 1,by omega⟩
  simp only [List.length_cons] at hN
  have hlen:src.length=pre.length+1+rest.length:=by rw [he]; simp; omega
  have g:getL zG src (pre.length:Int)=x:=by rw [he]; exact getG_mid pre x rest
  have hx:=hs x (by rw [he]; simp)
  have eb:simpiece_Decode_1 F x=some (hdz x.2.2.1,()):=by
   unfold simpiece_Decode_1
   cases h:x.2.2.1 with
   | nil=>exact absurd h hx
   | cons s t =>
    have:inI 0 (s::t).length=true:=by rw [inI_true]; simp only [List.length_cons]; omega
    rw [this,cond_true]
    rfl
  by_cases hbt:hdz x.2.2.1=true
  ·refine ⟨(pre.length:Int),?_,?_⟩
   ·unfold slices_IndexFunc_apiGroup_l2
    simp (disch:=omega) only [bs,↓if_pos,↓if_neg,g,eb,hbt]
   ·unfold hz
    rw [List.any_cons,hbt,Bool.true_or,leI_true]; omega
  ·obtain ⟨r,e,h2⟩:=ih (pre++[x]) (by rw [he]; simp) N (by omega)
   have hpl:(((pre++[x]).length:Nat):Int)=(pre.length:Int)+1:=by simp
   rw [hpl] at e
   rw [Bool.not_eq_true] at hbt
   refine ⟨r,?_,by unfold hz; rw [List.any_cons,hbt,Bool.false_or]; exact h2⟩
   unfold slices_IndexFunc_apiGroup_l2
   simp (disch:=omega) only [bs,↓if_pos,↓if_neg,g,eb,hbt]
   exact e
theorem gContains_eq(F:Nat)(hF:Fuel F){l:List Gr}(h:∀ g∈l,g.2.2.1≠[])(hb:l.length≤100000):slices_ContainsFunc_apiGroup F l=some (hz l,()):=by
 obtain ⟨r,e1,e2⟩:=gIndex_loop F h hb l [] rfl F (by unfold Fuel at hF; omega)
 unfold slices_ContainsFunc_apiGroup slices_IndexFunc_apiGroup
 have e1:slices_IndexFunc_apiGroup_l2 F (some ((-1),())) (fun z6=>some (z6,())) F l (lenI l) 0=some (r,()):=e1
 rw [e1]
 simp only [Option.bind_some,e2]
theorem replQ_length(n:Nat):(replI (n:Int) (zGn:Gn)).length=n:=by simp [replI]
theorem gsz_lens(l:List Gr):gsz l=lss (l.map fun g=>(g.2.2.1.length:Int)):=by
 induction l with
 | nil=>rfl
 | cons x t ih=>show((x.2.2.1.length:Int) - 1)::gsz t=_; rw [ih]; rfl
theorem mulNat(F:Nat)(hF:Fuel F){a b:Nat}(ha:a < top256)(hb:b < top256)(h:a*b < top256):ref02_Mul F (toW (a:Int)) (toW (b:Int))=some (toW ((a*b:Nat):Int),true,()):=by
 rw [ref02_Mul_eq F hF (natTop ha) (natTop hb),wi_toW,wi_toW]
 have e:(a:Int)*(b:Int)=((a*b:Nat):Int):=by push_cast; rfl
 rw [e,wres_val (by rw [Int.natAbs_natCast]; exact h)]
theorem addNat(F:Nat)(hF:Fuel F){a b:Nat}(ha:a < top256)(hb:b < top256)(h:a+b < top256):ref02_Add F (toW (a:Int)) (toW (b:Int))=some (toW ((a+b:Nat):Int),true,()):=by
 rw [ref02_Add_eq F hF (natTop ha) (natTop hb),wi_toW,wi_toW]
 have e:(a:Int)+(b:Int)=((a+b:Nat):Int):=by push_cast; rfl
 rw [e,wres_val (by rw [Int.natAbs_natCast]; exact h)]
theorem subNat(F:Nat)(hF:Fuel F){a b:Nat}(ha:a < top256)(hb:b < top256)(h:b≤a):ref02_Sub F (toW (a:Int)) (toW (b:Int))=some (toW ((a - b:Nat):Int),true,()):=by
 unfold ref02_Sub
 rw [ref02_Neg_eq F hF (natTop hb),wi_toW]
 simp only [Option.bind_some]
 rw [ref02_Add_eq F hF (natTop ha) (toW_ok (by omega)),wi_toW,wi_toW]
 have e:(a:Int)+-(b:Int)=((a - b:Nat):Int):=by omega
 rw [e,wres_val (by rw [Int.natAbs_natCast]; omega)]
 rfl
abbrev P128:Nat:=340282366920938463463374607431768211456
theorem sq128{a b:Nat}(ha:a≤P128)(hb:b < P128):a*b < top256:=by
 have:P128*P128=top256:=by unfold top256; decide
 rw [← this]
 rcases Nat.lt_or_ge a P128 with h | h
 ·exact Nat.mul_lt_mul'' h hb
 ·have:a=P128:=by omega
  rw [this]
  exact Nat.mul_lt_mul_of_pos_left hb (by decide)
theorem P128_top:P128 < top256:=by unfold top256; decide
def Found(a b c d n m:Nat):Prop:=(n≤c∧m≤d∨n≤a∧m≤b)∧1≤m∧a*m≤n*b∧n*d≤c*m∧Nat.gcd n m=1
theorem Found.whole{a b c d n:Nat}(hd:1≤d)(h1:a≤n*b)(h2:n*d≤c):Found a b c d n 1:=by
 refine ⟨.inl ⟨?_,hd⟩,by omega,by rw [Nat.mul_one]; exact h1,by rw [Nat.mul_one]; exact h2,Nat.gcd_one_right n⟩
 exact Nat.le_trans (Nat.le_mul_of_pos_right n hd) h2
theorem Found.deep{a b c d q r x y:Nat}(ha:a=q*b+r)(hc:q*d≤c)(hd:0 < d)(h:Found d (c - q*d) b r x y):Found a b c d (q*x+y) x:=by
 obtain ⟨h1,h2,h3,h4,h5⟩:=h
 have hx:1≤x:=by
  rcases Nat.eq_zero_or_pos x with h0 | h0
  ·rw [h0,Nat.zero_mul] at h3
   have:=Nat.mul_pos hd h2
   omega
  ·exact h0
 generalize hu:c - q*d=u at *
 have hc2:c=q*d+u:=by omega
 refine ⟨?_,hx,?_,?_,?_⟩
 ·rcases h1 with ⟨k1,k2⟩ | ⟨k1,k2⟩
  ·refine .inr ⟨?_,k1⟩
   rw [ha]
   exact Nat.add_le_add (Nat.mul_le_mul_left q k1) k2
  ·refine .inl ⟨?_,k1⟩
   rw [hc2]
   exact Nat.add_le_add (Nat.mul_le_mul_left q k1) k2
 ·rw [ha,Nat.add_mul,Nat.add_mul]
  have e1:q*b*x=q*x*b:=by rw [Nat.mul_right_comm]
  have e2:r*x=x*r:=Nat.mul_comm _ _
  have e3:y*b=b*y:=Nat.mul_comm _ _
  rw [e1,e2,e3]
  exact Nat.add_le_add_left h4 _
 ·rw [hc2,Nat.add_mul,Nat.add_mul]
  have e1:q*x*d=q*d*x:=by rw [Nat.mul_right_comm]
  have e2:y*d=d*y:=Nat.mul_comm _ _
  have e3:u*x=x*u:=Nat.mul_comm _ _
  rw [e1,e2,e3]
  exact Nat.add_le_add_left h3 _
 ·rw [Nat.gcd_comm,Nat.add_comm,Nat.gcd_add_mul_right_right]
  exact h5
theorem pos_step(F:Nat)(hF:Fuel F)(N:Nat){a b c d:Nat}(ha:a < P128)(hb:0 < b∧b < P128)(hc:c < P128)(hd:0 < d∧d < P128)(hle:a*d≤c*b) :
  (∃ n,Found a b c d n 1∧ref04_positive_r (N+1) F (toW (a:Int)) (toW (b:Int)) (toW (c:Int)) (toW (d:Int))=some (toW (n:Int),(toW 1,()))) ∨
  (0 < a % b∧a / b*d < c∧c - a / b*d < d∧d*(a % b)≤b*(c - a / b*d) ∧
   ref04_positive_r (N+1) F (toW (a:Int)) (toW (b:Int)) (toW (c:Int)) (toW (d:Int)) =
    (ref04_positive_r N F (toW (d:Int)) (toW ((c - a / b*d:Nat):Int)) (toW (b:Int)) (toW ((a % b:Nat):Int))).bind fun r13 =>
     (ref02_Mul F (toW ((a / b:Nat):Int)) r13.1).bind fun r14=>(ref02_Add F r14.1 r13.2.1).bind fun r15=>some (r15.1,(r13.1,()))):=by
 have ht:=P128_top
 have hqa:a / b≤a:=Nat.div_le_self a b
 have hdm:=Nat.div_add_mod a b
 have hml:=Nat.mod_lt a hb.1
 have hone:ref02_Of F 1=some (toW ((1:Nat):Int),()):=ref02_Of_eq F (by unfold I64; omega)
 have e1:=ref02_DivMod_nat F hF (a:=a) (b:=b) (by omega) (by omega) hb.1
 have e2:ref02_Sign F (toW ((a % b:Nat):Int))=some (if a % b=0 then 0 else 1,()):=by
  rw [ref02_Sign_eq F hF (natTop (by omega)),wi_toW]
  congr 2
  split
  ·rw [if_pos (by omega)]
  ·rw [if_neg (by omega),if_neg (by omega)]
 generalize hq:a / b=q at *
 generalize hr:a % b=r at *
 have haq:a=q*b+r:=by rw [Nat.mul_comm q b]; omega
 have mq:q*d < top256:=sq128 (by omega) hd.2
 have mq1:(q+1)*d < top256:=sq128 (by omega) hd.2
 have hqc:q*d≤c:=by
  refine Nat.le_of_mul_le_mul_right ?_ hb.1
  refine Nat.le_trans ?_ hle
  rw [haq,Nat.add_mul,Nat.mul_right_comm]
  exact Nat.le_add_right _ _
 have e5:=mulNat F hF (a:=q) (b:=d) (by omega) (by omega) mq
 by_cases c0:r=0
 ·left
  refine ⟨q,Found.whole hd.1 (by omega) hqc,?_⟩
  have c3:=ref02_Compare_eq F hF (natTop mq) (natTop (v:=c) (by omega))
  rw [wi_toW,wi_toW] at c3
  have c4:leI (if((q*d:Nat):Int) < (c:Int) then -1 else if(c:Int) < ((q*d:Nat):Int) then 1 else 0) 0=true:=by
   unfold leI
   refine decide_eq_true ?_
   split
   ·omega
   ·rw [if_neg (by omega)]; omega
  rw [if_pos c0] at e2
  unfold ref04_positive_r
  simp only [e1,e2,Option.bind_some,show eqI (0:Int) 0=true from rfl,Bool.not_true,cond_false,e5,c3,c4,cond_true,hone]
  rfl
 ·have e3:=addNat F hF (a:=q) (b:=1) (by omega) (by omega) (by omega)
  have e4:=mulNat F hF (a:=q+1) (b:=d) (by omega) (by omega) mq1
  have c3:=ref02_Compare_eq F hF (natTop mq1) (natTop (v:=c) (by omega))
  rw [wi_toW,wi_toW] at c3
  have hmul:(q+1)*d=q*d+d:=Nat.succ_mul q d
  have z1:eqI (1:Int) 0=false:=rfl
  by_cases c1:(q+1)*d≤c
  ·left
   refine ⟨q+1,Found.whole hd.1 (by rw [Nat.succ_mul]; omega) c1,?_⟩
   have c4:leI (if(((q+1)*d:Nat):Int) < (c:Int) then -1 else if(c:Int) < (((q+1)*d:Nat):Int) then 1 else 0) 0=true:=by
    unfold leI
    refine decide_eq_true ?_
    split
    ·omega
    ·rw [if_neg (by omega)]; omega
   unfold ref04_positive_r
   simp only [e1,e2,Option.bind_some,if_neg c0,z1,Bool.not_false,cond_true,hone,e3,e4,c3,c4]
   rfl
  ·right
   have c4:leI (if(((q+1)*d:Nat):Int) < (c:Int) then -1 else if(c:Int) < (((q+1)*d:Nat):Int) then 1 else 0) 0=false:=by
    unfold leI
    refine decide_eq_false ?_
    rw [if_neg (by omega),if_pos (by omega)]
    omega
   have e6:=subNat F hF (a:=c) (b:=q*d) (by omega) mq hqc
   have hlt:q*d < c:=by
    rcases Nat.lt_or_ge (q*d) c with h | h
    ·exact h
    ·exfalso
     have:c=q*d:=by omega
     rw [this,haq,Nat.add_mul,Nat.mul_right_comm] at hle
     have:=Nat.mul_pos (Nat.pos_of_ne_zero c0) hd.1
     omega
   refine ⟨by omega,hlt,by omega,?_,?_⟩
   ·have h1:q*d*b+r*d≤q*d*b+b*(c - q*d):=by
     have k1:q*d*b+r*d=a*d:=by rw [haq,Nat.add_mul,Nat.mul_right_comm]
     have k2:q*d*b+b*(c - q*d)=c*b:=by
      rw [Nat.mul_comm b,← Nat.add_mul]
      congr 1
      omega
     rw [k1,k2]
     exact hle
    rw [Nat.mul_comm d r]
    omega
   ·conv=>lhs; unfold ref04_positive_r
    simp only [e1,e2,Option.bind_some,if_neg c0,z1,Bool.not_false,cond_true,hone,e3,e4,c3,c4,cond_false,e5,e6]
theorem pos_join(F:Nat)(hF:Fuel F){a b c d x y:Nat}(ha:a < P128)(hb:b < P128)(hc:c < P128)(hd:0 < d∧d < P128)(hqc:a / b*d≤c)(h:Found d (c - a / b*d) b (a % b) x y) :
  ((ref02_Mul F (toW ((a / b:Nat):Int)) (toW (x:Int))).bind fun r14=>(ref02_Add F r14.1 (toW (y:Int))).bind fun r15=>some (r15.1,(toW (x:Int),())))=some (toW ((a / b*x+y:Nat):Int),(toW (x:Int),()))∧Found a b c d (a / b*x+y) x:=by
 have hdm:=Nat.div_add_mod a b
 have hf:=Found.deep (a:=a) (b:=b) (by rw [Nat.mul_comm (a / b) b]; omega) hqc hd.1 h
 have ht:=P128_top
 have hqa:a / b≤a:=Nat.div_le_self a b
 have hs:a / b*x+y < P128:=by rcases hf.1 with h1 | h1 <;> omega
 have hx:x < P128:=by rcases hf.1 with h1 | h1 <;> omega
 refine ⟨?_,hf⟩
 rw [mulNat F hF (by omega) (by omega) (sq128 (by omega) hx)]
 simp only [Option.bind_some]
 rw [addNat F hF (sq128 (by omega) hx) (by omega) (by omega)]
 rfl
theorem positive_ok(F:Nat)(hF:Fuel F):∀ (k N:Nat) {a b c d:Nat},a < P128→0 < b∧b < P128→c < P128→0 < d∧d < P128→d < 2 ^ k→a*d≤c*b→2*k < N →
  ∃ n m:Nat,Found a b c d n m∧ref04_positive_r N F (toW (a:Int)) (toW (b:Int)) (toW (c:Int)) (toW (d:Int))=some (toW (n:Int),(toW (m:Int),())):=by
 intro k
 induction k with
 | zero=>intro N a b c d ha hb hc hd hk _ _; omega
 | succ k ih =>
  intro N a b c d ha hb hc hd hk hle hN
  obtain ⟨N,rfl⟩:∃ M,N=M+1+1:=⟨N - 2,by omega⟩
  rcases pos_step F hF (N+1) ha hb hc hd hle with ⟨n,h1,h2⟩ | ⟨h1,h2,h3,h4,h5⟩
  ·exact ⟨n,1,h1,h2⟩
  have hml:=Nat.mod_lt a hb.1
  have key:∃ x y:Nat,Found d (c - a / b*d) b (a % b) x y∧ref04_positive_r (N+1) F (toW (d:Int)) (toW ((c - a / b*d:Nat):Int)) (toW (b:Int)) (toW ((a % b:Nat):Int))=some (toW (x:Int),(toW (y:Int),())):=by
   generalize hu:c - a / b*d=u at *
   generalize hv:a % b=v at *
   rcases pos_step F hF N (a:=d) (b:=u) (c:=b) (d:=v) hd.2 ⟨by omega,by omega⟩ hb.2 ⟨h1,by omega⟩ h4 with ⟨n,k1,k2⟩ | ⟨k1,k2,k3,k4,k5⟩
   ·exact ⟨n,1,k1,k2⟩
   have hml2:=Nat.mod_lt d (show 0 < u by omega)
   have hdm2:=Nat.div_add_mod d u
   have hhalf:2*(d % u) < d:=by
    have:u*1≤u*(d / u):=Nat.mul_le_mul_left u (Nat.div_pos (by omega) (by omega))
    omega
   obtain ⟨x,y,f1,f2⟩:=ih N (a:=v) (b:=b - d / u*v) (c:=u) (d:=d % u) (by omega) ⟨by omega,by omega⟩ (by omega) ⟨k1,by omega⟩ (by rw [Nat.pow_succ] at hk; omega) (by rw [Nat.mul_comm v]; rw [Nat.mul_comm] at k4; exact k4) (by omega)
   rw [f2] at k5
   simp only [Option.bind_some] at k5
   have g:=pos_join F hF (a:=d) (b:=u) (c:=b) (d:=v) hd.2 (by omega) hb.2 ⟨h1,by omega⟩ (by omega) f1
   exact ⟨_,_,g.2,k5.trans g.1⟩
  obtain ⟨x,y,f1,f2⟩:=key
  rw [f2] at h5
  simp only [Option.bind_some] at h5
  have g:=pos_join F hF ha hb.2 hc hd (by omega) f1
  exact ⟨_,_,g.2,h5.trans g.1⟩
abbrev Co:=Bool×(Rt×(Rt×Unit))
abbrev oC:Co:=(true,(zR,(zR,())))
def COk(c:Co):Prop:=ROk c.2.1∧ROk c.2.2.1
theorem oC_ok:COk oC:=⟨zR_ok,zR_ok⟩
theorem rc_le{p q:Rt}:rc p q≤0↔wi p.1*wi q.2.1≤wi q.1*wi p.2.1:=by
 unfold rc sgnC; split
 ·omega
 ·split <;> omega
theorem rc_gt{p q:Rt}:0 < rc p q↔wi q.1*wi p.2.1 < wi p.1*wi q.2.1:=by
 unfold rc sgnC; split
 ·omega
 ·split <;> omega
theorem rc_lt{p q:Rt}:rc p q < 0↔wi p.1*wi q.2.1 < wi q.1*wi p.2.1:=by
 unfold rc sgnC; split
 ·omega
 ·split <;> omega
theorem rc_swap{p q:Rt}:rc p q < 0↔0 < rc q p:=by rw [rc_lt,rc_gt]
theorem rc_trans{p q r:Rt}(hp:RV p)(hq:RV q)(hr:RV r)(h1:rc p q≤0)(h2:rc q r≤0):rc p r≤0:=by
 rw [rc_le] at *
 have p0:=hp.2.2.1
 have q0:=hq.2.2.1
 have r0:=hr.2.2.1
 generalize wi p.1=a at *
 generalize wi p.2.1=b at *
 generalize wi q.1=c at *
 generalize wi q.2.1=d at *
 generalize wi r.1=e at *
 generalize wi r.2.1=f at *
 refine Int.le_of_mul_le_mul_right ?_ q0
 have k1:a*d*f≤c*b*f:=Int.mul_le_mul_of_nonneg_right h1 (by omega)
 have k2:c*f*b≤e*d*b:=Int.mul_le_mul_of_nonneg_right h2 (by omega)
 have e1:a*f*d=a*d*f:=by rw [Int.mul_right_comm]
 have e2:c*f*b=c*b*f:=by rw [Int.mul_right_comm]
 have e3:e*b*d=e*d*b:=by rw [Int.mul_right_comm]
 rw [e1,e3]
 omega
theorem natForm{w:W}(h:WOk w)(hv:Vl w)(h0:0≤wi w):w=toW ((wv w.2.1:Nat):Int):=by
 have h1:=toW_wi h hv
 have h2:=wi_abs w
 rw [show wi w=((wv w.2.1:Nat):Int) by omega] at h1
 exact h1.symm
theorem Found_RV{a b c d n m:Nat}(ha:Sm a)(hb:Sm b)(hc:Sm c)(hd:Sm d)(h:Found a b c d n m)(s:Int)(hs:s=(n:Int)∨s=-(n:Int)):ROk (toW s,(toW (m:Int),()))∧RV (toW s,(toW (m:Int),())):=by
 obtain ⟨h1,h2,h3,h4,h5⟩:=h
 have ht:170141183460469231731687303715884105728 < top256:=by unfold top256; decide
 have hn:Sm n:=by unfold Sm at *; omega
 have hm:Sm m:=by unfold Sm at *; omega
 have habs:s.natAbs=n:=by omega
 have e1:wv (toW s).2.1=n:=by
  have:=wi_abs (toW s)
  rw [wi_toW,habs] at this
  exact this.symm
 have e2:wv (toW (m:Int)).2.1=m:=by
  have:=wi_abs (toW (m:Int))
  rw [wi_toW,Int.natAbs_natCast] at this
  exact this.symm
 refine ⟨⟨toW_ok (by unfold Sm at hn; omega),toW_ok (by unfold Sm at hm; omega)⟩,toW_Vl _,toW_Vl _,?_,?_,?_,?_⟩
 ·rw [wi_toW]; omega
 ·rw [e1]; exact hn
 ·rw [e2]; exact hm
 ·unfold wgcd
  rw [e1,e2]
  exact h5
def Btw(p q s:Rt):Prop:=RV s∧rc p s≤0∧rc s q≤0
theorem ref04_Between_ok(F:Nat)(hF:Fuel F){p q:Rt}(hp:ROk p)(hq:ROk q):∃ s ok,ref04_Between F p q=some (s,ok,())∧ROk s∧(RV p→RV q→rc p q≤0→Btw p q s):=by
 unfold ref04_Between
 rw [ref03_Valid_eq F hF hp,ref03_Valid_eq F hF hq]
 simp only [Option.bind_some]
 by_cases vp:RV p
 rotate_left
 ·rw [decide_eq_false vp]
  exact ⟨zR,false,rfl,zR_ok,fun h=>absurd h vp⟩
 by_cases vq:RV q
 rotate_left
 ·rw [decide_eq_false vq,decide_eq_true vp]
  exact ⟨zR,false,rfl,zR_ok,fun _ h=>absurd h vq⟩
 rw [decide_eq_true vp,decide_eq_true vq,ref03_Compare_eq F hF hp hq vp vq]
 simp only [Option.bind_some,Bool.not_true,cond_false]
 by_cases c0:0 < rc p q
 ·rw [ltI_true.2 c0]
  exact ⟨zR,false,rfl,zR_ok,fun _ _ h=>by omega⟩
 have x0:ltI 0 (rc p q)=false:=by rw [← Bool.not_eq_true,ltI_true]; exact c0
 rw [x0,cond_false,ref02_Sign_eq F hF hp.1,ref02_Sign_eq F hF hq.1]
 simp only [Option.bind_some]
 have hle:wi p.1*wi q.2.1≤wi q.1*wi p.2.1:=rc_le.1 (by omega)
 have pd:=natForm hp.2 vp.2.1 (by have:=vp.2.2.1; omega)
 have qd:=natForm hq.2 vq.2.1 (by have:=vq.2.2.1; omega)
 have pd0:=vp.2.2.1
 have qd0:=vq.2.2.1
 have apn:=wi_abs p.1
 have aqn:=wi_abs q.1
 have apd:=wi_abs p.2.1
 have aqd:=wi_abs q.2.1
 obtain ⟨_,_,_,sp1,sp2,_⟩:=vp
 obtain ⟨_,_,_,sq1,sq2,_⟩:=vq
 have hP:∀ v:Nat,Sm v→v < P128:=fun v hv=>by unfold Sm at hv; unfold P128; omega
 by_cases c1:0 < wi p.1
 ·
  have y1:leI (if wi p.1=0 then 0 else if wi p.1 < 0 then -1 else 1) 0=false:=by
   unfold leI; refine decide_eq_false ?_
   rw [if_neg (by omega),if_neg (by omega)]; omega
  rw [y1,cond_false]
  unfold ref04_Between_j4 ref04_Between_j5
  have c2:0≤wi q.1:=by
   rcases Int.lt_or_le (wi q.1) 0 with h | h
   ·have h1:=Int.mul_pos c1 qd0
    have h2:=Int.mul_neg_of_neg_of_pos h pd0
    omega
   ·exact h
  have y2:ltI (if wi q.1=0 then 0 else if wi q.1 < 0 then -1 else 1) 0=false:=by
   rw [← Bool.not_eq_true,ltI_true]
   split
   ·omega
   ·rw [if_neg (by omega)]; omega
  have pn:=natForm hp.1 (by assumption) (by omega)
  have qn:=natForm hq.1 (by assumption) (by omega)
  simp only [cond_false,ref02_Sign_eq F hF hq.1,Option.bind_some,y2]
  rw [show wi p.1=((wv p.1.2.1:Nat):Int) by omega,show wi q.1=((wv q.1.2.1:Nat):Int) by omega,show wi p.2.1=((wv p.2.1.2.1:Nat):Int) by omega,show wi q.2.1=((wv q.2.1.2.1:Nat):Int) by omega] at hle
  obtain ⟨n,m,f1,f2⟩:=positive_ok F hF 128 F (a:=wv p.1.2.1) (b:=wv p.2.1.2.1) (c:=wv q.1.2.1) (d:=wv q.2.1.2.1) (hP _ sp1) ⟨by omega,hP _ sp2⟩ (hP _ sq1) ⟨by omega,hP _ sq2⟩ (by have:=hP _ sq2; unfold P128 at this; exact this) (by exact_mod_cast hle) (by unfold Fuel at hF; omega)
  rw [← pn,← pd,← qn,← qd] at f2
  unfold ref04_positive
  rw [f2]
  obtain ⟨r1,r2⟩:=Found_RV sp1 sp2 sq1 sq2 f1 _ (.inl rfl)
  refine ⟨_,_,rfl,r1,fun _ _ _=>⟨r2,?_,?_⟩⟩
  ·rw [rc_le,wi_toW,wi_toW]
   have:=f1.2.2.1
   rw [show wi p.1=((wv p.1.2.1:Nat):Int) by omega,show wi p.2.1=((wv p.2.1.2.1:Nat):Int) by omega]
   exact_mod_cast this
  ·rw [rc_le,wi_toW,wi_toW]
   have:=f1.2.2.2.1
   rw [show wi q.1=((wv q.1.2.1:Nat):Int) by omega,show wi q.2.1=((wv q.2.1.2.1:Nat):Int) by omega]
   exact_mod_cast this
 ·have y1:leI (if wi p.1=0 then 0 else if wi p.1 < 0 then -1 else 1) 0=true:=by
   unfold leI; refine decide_eq_true ?_
   split
   ·omega
   ·rw [if_pos (by omega)]; omega
  rw [y1,cond_true]
  unfold ref04_Between_j4 ref04_Between_j5
  by_cases c2:0≤wi q.1
  ·have y2:leI 0 (if wi q.1=0 then 0 else if wi q.1 < 0 then -1 else 1)=true:=by
    unfold leI; refine decide_eq_true ?_
    split
    ·omega
    ·rw [if_neg (by omega)]; omega
   rw [y2,cond_true,ref03_Of_eq F (by unfold I64; omega)]
   refine ⟨of0,true,rfl,of0_ok,fun _ _ _=>⟨of0_RV,?_,?_⟩⟩
   ·rw [rc_le]
    show wi p.1*wi (toW 1)≤wi (toW 0)*wi p.2.1
    rw [wi_toW,wi_toW]
    omega
   ·rw [rc_le]
    show wi (toW 0)*wi q.2.1≤wi q.1*wi (toW 1)
    rw [wi_toW,wi_toW]
    omega
  ·have y2:leI 0 (if wi q.1=0 then 0 else if wi q.1 < 0 then -1 else 1)=false:=by
    unfold leI; refine decide_eq_false ?_
    rw [if_neg (by omega),if_pos (by omega)]; omega
   have y3:ltI (if wi q.1=0 then 0 else if wi q.1 < 0 then -1 else 1) 0=true:=by
    rw [ltI_true,if_neg (by omega),if_pos (by omega)]; omega
   have c3:wi p.1 < 0:=by
    rcases Int.lt_or_le (wi p.1) 0 with h | h
    ·exact h
    ·have h0:wi p.1=0:=by omega
     have h2:=Int.mul_neg_of_neg_of_pos (show wi q.1 < 0 by omega) pd0
     rw [h0,Int.zero_mul] at hle
     omega
   simp only [y2,cond_false,ref02_Sign_eq F hF hq.1,Option.bind_some,y3,cond_true,ref02_Neg_eq F hF hq.1,ref02_Neg_eq F hF hp.1]
   have hneg:-wi q.1*wi p.2.1≤-wi p.1*wi q.2.1:=by rw [Int.neg_mul,Int.neg_mul]; omega
   rw [show -wi p.1=((wv p.1.2.1:Nat):Int) by omega,show -wi q.1=((wv q.1.2.1:Nat):Int) by omega,show wi p.2.1=((wv p.2.1.2.1:Nat):Int) by omega,show wi q.2.1=((wv q.2.1.2.1:Nat):Int) by omega] at hneg
   obtain ⟨n,m,f1,f2⟩:=positive_ok F hF 128 F (a:=wv q.1.2.1) (b:=wv q.2.1.2.1) (c:=wv p.1.2.1) (d:=wv p.2.1.2.1) (hP _ sq1) ⟨by omega,hP _ sq2⟩ (hP _ sp1) ⟨by omega,hP _ sp2⟩ (by have:=hP _ sp2; unfold P128 at this; exact this) (by exact_mod_cast hneg) (by unfold Fuel at hF; omega)
   rw [← pd,← qd] at f2
   obtain ⟨r1,r2⟩:=Found_RV sq1 sq2 sp1 sp2 f1 (-(n:Int)) (.inr rfl)
   have hnb:n < top256:=by
    have ht:170141183460469231731687303715884105728 < top256:=by unfold top256; decide
    have:=f1.1
    unfold Sm at *
    omega
   unfold ref04_positive
   rw [show -wi p.1=((wv p.1.2.1:Nat):Int) by omega,show -wi q.1=((wv q.1.2.1:Nat):Int) by omega,f2]
   simp only [Option.bind_some]
   rw [ref02_Neg_eq F hF (natTop hnb),wi_toW]
   refine ⟨_,_,rfl,r1,fun _ _ _=>⟨r2,?_,?_⟩⟩
   ·rw [rc_le,wi_toW,wi_toW]
    have h1:=f1.2.2.2.1
    have h2:(n:Int)*wi p.2.1≤-wi p.1*(m:Int):=by
     rw [show -wi p.1=((wv p.1.2.1:Nat):Int) by omega,show wi p.2.1=((wv p.2.1.2.1:Nat):Int) by omega]
     exact_mod_cast h1
    rw [Int.neg_mul] at h2
    rw [Int.neg_mul]
    omega
   ·rw [rc_le,wi_toW,wi_toW]
    have h1:=f1.2.2.1
    have h2:-wi q.1*(m:Int)≤(n:Int)*wi q.2.1:=by
     rw [show -wi q.1=((wv q.1.2.1:Nat):Int) by omega,show wi q.2.1=((wv q.2.1.2.1:Nat):Int) by omega]
     exact_mod_cast h1
    rw [Int.neg_mul] at h2
    rw [Int.neg_mul]
    omega
def cvB(c:Co):Bool:=bif c.1 then eqT (.pair .bool (.pair (.pair (.pair .bool (.pair (.arr 4 (.int .u64)) .unit)) (.pair (.pair .bool (.pair (.arr 4 (.int .u64)) .unit)) .unit)) (.pair (.pair (.pair .bool (.pair (.arr 4 (.int .u64)) .unit)) (.pair (.pair .bool (.pair (.arr 4 (.int .u64)) .unit)) .unit)) .unit))) c oC else decide (RV c.2.1∧RV c.2.2.1∧rc c.2.1 c.2.2.1≤0)
theorem cvB_shut{c:Co}(h:c.1=false):cvB c=true↔RV c.2.1∧RV c.2.2.1∧rc c.2.1 c.2.2.1≤0:=by
 unfold cvB
 rw [h,cond_false,decide_eq_true_iff]
theorem ref13_Valid_eq(F:Nat)(hF:Fuel F){c:Co}(h:COk c):ref13_Valid F c=some (cvB c,()):=by
 unfold ref13_Valid cvB ref13_Start
 cases c.1
 rotate_left
 ·rfl
 simp only [cond_false,ref03_Valid_eq F hF h.1,ref03_Valid_eq F hF h.2,Option.bind_some]
 by_cases v1:RV c.2.1
 rotate_left
 ·have d1:decide (RV c.2.1∧RV c.2.2.1∧rc c.2.1 c.2.2.1≤0)=false:=decide_eq_false fun h=>v1 h.1
  rw [d1,decide_eq_false v1]
  rfl
 by_cases v2:RV c.2.2.1
 rotate_left
 ·have d1:decide (RV c.2.1∧RV c.2.2.1∧rc c.2.1 c.2.2.1≤0)=false:=decide_eq_false fun h=>v2 h.2.1
  rw [d1,decide_eq_true v1,decide_eq_false v2]
  rfl
 rw [decide_eq_true v1,decide_eq_true v2,ref03_Compare_eq F hF h.1 h.2 v1 v2]
 simp only [Option.bind_some,cond_true]
 unfold leI
 refine congrArg (fun b=>some (b,())) (decide_eq_decide.2 ?_)
 exact ⟨fun h=>⟨v1,v2,h⟩,fun h=>h.2.2⟩
theorem ref13_Choose_ok(F:Nat)(hF:Fuel F){c:Co}(h:COk c):∃ s,ref13_Choose F c=some (s,())∧ROk s∧(cvB c=true→RV s∧(c.1=false→Btw c.2.1 c.2.2.1 s)):=by
 unfold ref13_Choose
 rw [ref13_Valid_eq F hF h]
 simp only [Option.bind_some]
 by_cases v:cvB c=true
 rotate_left
 ·rw [Bool.not_eq_true] at v
  rw [v]
  exact ⟨zR,rfl,zR_ok,fun h=>by cases h⟩
 rw [v]
 simp only [Bool.not_true,cond_false]
 cases hc:c.1
 ·obtain ⟨s,ok,e,r1,r2⟩:=ref04_Between_ok F hF h.1 h.2
  rw [e]
  obtain ⟨v1,v2,v3⟩:=(cvB_shut hc).1 v
  have hb:=r2 v1 v2 v3
  exact ⟨s,rfl,r1,fun _=>⟨hb.1,fun _=>hb⟩⟩
 ·rw [ref03_Of_eq F (by unfold I64; omega)]
  exact ⟨of0,rfl,of0_ok,fun _=>⟨of0_RV,fun h=>by cases h⟩⟩
def Met(a b c:Co):Prop:=cvB c=true∧((a.1=true∧c=b)∨(b.1=true∧c=a)∨(a.1=false∧b.1=false∧c.1=false∧(c.2.1=a.2.1∨c.2.1=b.2.1)))
def Apart(a b:Co):Prop:=cvB a=true→cvB b=true→a.1=false∧b.1=false∧(rc a.2.1 b.2.1≤0→0 < rc b.2.1 a.2.2.1)
theorem ref13_Meet_ok(F:Nat)(hF:Fuel F){a b:Co}(ha:COk a)(hb:COk b):∃ c ok,ref13_Meet F a b=some (c,ok,())∧COk c∧(ok=true→Met a b c)∧(ok=false→Apart a b):=by
 unfold ref13_Meet
 rw [ref13_Valid_eq F hF ha,ref13_Valid_eq F hF hb]
 simp only [Option.bind_some]
 have zc:COk (false,(zR,(zR,()))):=⟨zR_ok,zR_ok⟩
 by_cases va:cvB a=true
 rotate_left
 ·have va':=va
  rw [Bool.not_eq_true] at va'
  rw [va']
  exact ⟨_,_,rfl,zc,(fun h=>by cases h),fun _ h=>absurd h va⟩
 by_cases vb:cvB b=true
 rotate_left
 ·have vb':=vb
  rw [Bool.not_eq_true] at vb'
  rw [va,vb']
  exact ⟨_,_,rfl,zc,(fun h=>by cases h),fun _ _ h=>absurd h vb⟩
 rw [va,vb]
 simp only [Bool.not_true,cond_false]
 cases oa:a.1
 rotate_left
 ·exact ⟨_,_,rfl,hb,fun _=>⟨vb,.inl ⟨oa,rfl⟩⟩,fun h=>by cases h⟩
 cases ob:b.1
 rotate_left
 ·exact ⟨_,_,rfl,ha,fun _=>⟨va,.inr (.inl ⟨ob,rfl⟩)⟩,fun h=>by cases h⟩
 obtain ⟨a1,a2,a3⟩:=(cvB_shut oa).1 va
 obtain ⟨b1,b2,b3⟩:=(cvB_shut ob).1 vb
 have fin:∀ (c:Co),COk c→c.1=false→RV c.2.1→RV c.2.2.1→(c.2.1=a.2.1∨c.2.1=b.2.1)→(0 < rc c.2.1 c.2.2.1→rc a.2.1 b.2.1≤0→0 < rc b.2.1 a.2.2.1) →
   ∃ d ok,ref13_Meet_j11 F (fun z15 z16=>some (z15,(z16,()))) c (false,(zR,(zR,())))=some (d,ok,())∧COk d∧(ok=true→Met a b d)∧(ok=false→Apart a b):=by
  intro c hc oc c1 c2 hl hap
  unfold ref13_Meet_j11
  rw [ref03_Compare_eq F hF hc.1 hc.2 c1 c2]
  simp only [Option.bind_some]
  by_cases k:0 < rc c.2.1 c.2.2.1
  ·rw [ltI_true.2 k]
   exact ⟨_,_,rfl,zc,(fun h=>by cases h),fun _ _ _=>⟨oa,ob,hap k⟩⟩
  ·have:ltI 0 (rc c.2.1 c.2.2.1)=false:=by rw [← Bool.not_eq_true,ltI_true]; exact k
   rw [this]
   exact ⟨c,true,rfl,hc,fun _=>⟨(cvB_shut oc).2 ⟨c1,c2,by omega⟩,.inr (.inr ⟨oa,ob,oc,hl⟩)⟩,fun h=>by cases h⟩
 have fin2:∀ (c:Co),COk c→c.1=false→RV c.2.1→c.2.2.1=a.2.2.1→((c.2.1=a.2.1∧rc b.2.1 a.2.1≤0)∨(c.2.1=b.2.1)) →
   ∃ d ok,ref13_Meet_j9 F (fun z15 z16=>some (z15,(z16,()))) c b (false,(zR,(zR,())))=some (d,ok,())∧COk d∧(ok=true→Met a b d)∧(ok=false→Apart a b):=by
  intro c hc oc c1 ch hl
  unfold ref13_Meet_j9
  have c2:RV c.2.2.1:=by rw [ch]; exact a2
  rw [ref03_Compare_eq F hF hb.2 hc.2 b2 c2]
  simp only [Option.bind_some]
  by_cases k:rc b.2.2.1 c.2.2.1 < 0
  ·rw [ltI_true.2 k,cond_true]
   refine fin (c.1,(c.2.1,(b.2.2.1,c.2.2.2))) ⟨hc.1,hb.2⟩ oc c1 b2 (hl.imp (fun h=>h.1) id) ?_
   intro h h2
   exfalso
   rcases hl with ⟨h3,h4⟩ | h3
   ·have h:0 < rc c.2.1 b.2.2.1:=h
    rw [h3] at h
    have:=rc_trans a1 b1 b2 h2 b3
    omega
   ·have h:0 < rc c.2.1 b.2.2.1:=h
    rw [h3] at h
    omega
  ·have:ltI (rc b.2.2.1 c.2.2.1) 0=false:=by rw [← Bool.not_eq_true,ltI_true]; exact k
   rw [this,cond_false]
   refine fin c hc oc c1 c2 (hl.imp (fun h=>h.1) id) ?_
   intro h h2
   rcases hl with ⟨h3,h4⟩ | h3
   ·rw [h3,ch] at h
    omega
   ·rw [h3,ch] at h
    exact h
 rw [ref03_Compare_eq F hF hb.1 ha.1 b1 a1]
 simp only [Option.bind_some,cond_false]
 by_cases k:0 < rc b.2.1 a.2.1
 ·rw [ltI_true.2 k,cond_true]
  exact fin2 (false,(b.2.1,a.2.2)) ⟨hb.1,ha.2⟩ rfl b1 rfl (.inr rfl)
 ·have:ltI 0 (rc b.2.1 a.2.1)=false:=by rw [← Bool.not_eq_true,ltI_true]; exact k
  rw [this,cond_false]
  exact fin2 a ha oa a1 rfl (.inl ⟨rfl,by omega⟩)
abbrev Pi:=Int×(Int×(Int×(Co×Unit)))
abbrev nC:Co:=(false,(zR,(zR,())))
def plainT:Ty→Bool
  | .int _=>true
  | .bool=>true
  | .unit=>true
  | .pair a b=>plainT a && plainT b
  | .arr _ t=>plainT t
  | _=>false
theorem eqL_self{α:Type}(f:α→α→Bool)(h:∀ x,f x x=true):∀ l:List α,eqL f l l=true
  | []=>rfl
  | x::l=>by show(f x x && eqL f l l)=true; rw [h,eqL_self f h l]; rfl
theorem eqT_self:∀ (t:Ty),plainT t=true→∀ x:t.den,eqT t x x=true
  | .int _,_,x=>decide_eq_true rfl
  | .bool,_,x=>by show((x:Bool) == x)=true; exact beq_self_eq_true _
  | .unit,_,_=>rfl
  | .pair a b,h,x=>by
    simp only [plainT,Bool.and_eq_true] at h
    show(eqT a x.1 x.1 && eqT b x.2 x.2)=true
    rw [eqT_self a h.1,eqT_self b h.2]; rfl
  | .arr _ t,h,x=>eqL_self _ (eqT_self t h) x
  | .str,h,_=>by cases h
  | .slice _,h,_=>by cases h
  | .nil,h,_=>by cases h
  | .val,h,_=>by cases h
def TolOk(t:Int):Prop:=0≤t∧t≤4611686018427387904
theorem tol_true(F:Nat){t:Int}(h:TolOk t):ref13_Tolerance F t=some (true,()):=by
  obtain ⟨h1,h2⟩:=h
  have e1:leI 0 t=true:=decide_eq_true h1
  have e2:leI t 4611686018427387904=true:=decide_eq_true h2
  unfold ref13_Tolerance
  rw [e1,e2]
  rfl
theorem ref19_unit_ok(F:Nat){t:Int}(h:TolOk t):∃ u,ref19_unit F t=some (u,())∧1≤u∧u≤4611686018427387904:=by
  obtain ⟨h1,h2⟩:=h
  refine ⟨_,rfl,?_⟩
  unfold maxI
  split <;> omega
theorem ref19_Key_ok(F:Nat){v t:Int}(ht:TolOk t):∃ k,ref19_Key F v t=some (k,())∧I64 k:=by
  obtain ⟨u,e,h1,h2⟩:=ref19_unit_ok F ht
  have z1:eqI u 0=false:=by rw [← Bool.not_eq_true,eqI_true]; omega
  have z2:eqI u (-1)=false:=by rw [← Bool.not_eq_true,eqI_true]; omega
  have j:∃ k b,ref01_FloorDiv_j3 F (fun z11 z12=>some (z11,(z12,()))) v u=some (k,(b,()))∧I64 k:=by
    unfold ref01_FloorDiv_j3
    rw [z1,cond_false,cond_false]
    cases (!eqI (remI v u) 0) with
    | false=>exact ⟨_,_,rfl,rng_wrap_i64 _⟩
    | true=>cases (!eqT .bool (ltI v 0) (ltI u 0)) with
      | false=>exact ⟨_,_,rfl,rng_wrap_i64 _⟩
      | true=>exact ⟨_,_,rfl,rng_wrap_i64 _⟩
  obtain ⟨k,b,j1,j2⟩:=j
  refine ⟨k,?_,j2⟩
  unfold ref19_Key ref01_FloorDiv
  rw [e]
  simp only [Option.bind_some,z1,z2,cond_false,j1]
  cases eqI v (-9223372036854775808) <;> rfl
theorem ref02_Sub_ok(F:Nat)(hF:Fuel F){x y:W}(hx:WOk x)(hy:WOk y):∃ z b,ref02_Sub F x y=some (z,b,())∧WOk z:=by
  unfold ref02_Sub
  rw [ref02_Neg_eq F hF hy]
  simp only [Option.bind_some]
  rw [ref02_Add_eq F hF hx (toW_ok (by rw [Int.natAbs_neg]; exact hy.abs))]
  exact ⟨_,_,rfl,wres_ok _⟩
theorem ref02_Add_ok(F:Nat)(hF:Fuel F){x y:W}(hx:WOk x)(hy:WOk y):∃ z b,ref02_Add F x y=some (z,b,())∧WOk z:=by
  rw [ref02_Add_eq F hF hx hy]
  exact ⟨_,_,rfl,wres_ok _⟩
theorem ref19_Base_ok(F:Nat)(hF:Fuel F){k t:Int}(hk:I64 k)(ht:TolOk t):∃ w,ref19_Base F k t=some (w,())∧WOk w:=by
  obtain ⟨u,e,h1,h2⟩:=ref19_unit_ok F ht
  have hu:I64 u:=by unfold I64; omega
  unfold ref19_Base
  rw [ref02_Of_eq F hk,e]
  simp only [Option.bind_some]
  rw [ref02_Of_eq F hu]
  simp only [Option.bind_some]
  rw [ref02_Mul_eq F hF (toW_ok (i64_abs hk)) (toW_ok (i64_abs hu))]
  exact ⟨_,rfl,wres_ok _⟩
theorem ref13_Through_ok(F:Nat)(hF:Fuel F){w:W}(hw:WOk w){v t d:Int}(hv:I64 v)(ht:TolOk t)(hd:0≤d∧d≤18446744073709551615):∃ c ok,ref13_Through F w v t d=some (c,ok,())∧COk c∧c.1=false:=by
  have zc:COk nC∧nC.1=false:=⟨⟨zR_ok,zR_ok⟩,rfl⟩
  have hwa:WOk (false,w.2):=hw
  have hc:WOk ((false,([0,4,0,0],())):W):=⟨wd4 (by omega) (by omega) (by omega) (by omega),rfl⟩
  have htI:I64 t:=by obtain ⟨h1,h2⟩:=ht; unfold I64; omega
  unfold ref13_Through
  rw [ref02_Valid_eq F hF hw]
  simp only [Option.bind_some]
  cases decide (Vl w) with
  | false=>exact ⟨_,_,rfl,zc⟩
  | true =>
    obtain ⟨v0,hv0⟩:∃ v0,ref02_Compare F (false,w.2) (false,([0,4,0,0],()))=some (v0,()):=⟨_,ref02_Compare_eq F hF hwa hc⟩
    rw [hv0]
    simp only [Option.bind_some,Bool.not_true,cond_false]
    cases leI 0 v0 with
    | true=>exact ⟨_,_,rfl,zc⟩
    | false =>
      rw [tol_true F ht]
      simp only [Option.bind_some,Bool.not_true,cond_false]
      cases eqI d 0 with
      | true=>exact ⟨_,_,rfl,zc⟩
      | false =>
        obtain ⟨s1,b1,e1,h1⟩:=ref02_Sub_ok F hF (toW_ok (i64_abs hv)) hw
        obtain ⟨s2,b2,e2,h2⟩:=ref02_Sub_ok F hF h1 (toW_ok (i64_abs htI))
        obtain ⟨s3,b3,e3,h3⟩:=ref02_Add_ok F hF h1 (toW_ok (i64_abs htI))
        have hdo:WOk (toW d):=toW_ok (by have:=top256_big; omega)
        obtain ⟨q1,o1,e4,r1,_⟩:=Make_ok F hF h2 hdo
        obtain ⟨q2,o2,e5,r2,_⟩:=Make_ok F hF h3 hdo
        refine ⟨(false,(q1,(q2,()))),true,?_,⟨r1,r2⟩,rfl⟩
        simp only [ref02_Of_eq F hv,ref02_Of_eq F htI,ref02_OfUnsigned_eq F hd,e1,e2,e3,e4,e5,Option.bind_some,cond_false]
def SV(F:Nat)(tol idx cnt:Int)(f:Smp)(last key:Int)(c:Co):Prop :=
  TolOk tol∧0≤idx∧idx+cnt≤1000∧COk c ∧
  ((cnt=0∧idx=0∧f=(0,(0,()))∧last=0∧key=0∧c=nC) ∨
   (1≤cnt∧(I64 last∧I64 f.1)∧I64 key∧ref19_Key F f.2.1 tol=some (key,())∧((cnt=1∧last=f.1∧c=oC)∨(1 < cnt∧f.1 < last∧cvB c=true∧c.1=false))))
theorem cvB_open:cvB oC=true:=by
  unfold cvB
  rw [show oC.1=true from rfl,cond_true]
  exact eqT_self _ rfl _
theorem SV.cv{F:Nat}{tol idx cnt:Int}{f:Smp}{last key:Int}{c:Co}(h:SV F tol idx cnt f last key c)(h1:1≤cnt):cvB c=true:=by
  obtain ⟨_,_,_,_,h2 | ⟨_,_,_,_,h2 | h2⟩⟩:=h
  · omega
  · rw [h2.2.2]; exact cvB_open
  · exact h2.2.2.1
theorem ref19_Valid_true(F:Nat)(hF:Fuel F){tol idx cnt:Int}{f:Smp}{last key:Int}{c:Co}(h:SV F tol idx cnt f last key c) :
    ref19_Valid F (tol,(idx,(cnt,(f,(last,(key,(c,())))))))=some (true,()):=by
  obtain ⟨h1,h2,h3,h4,h5⟩:=h
  unfold ref19_Valid
  rw [tol_true F h1]
  have x1:ltI idx 0=false:=by rw [← Bool.not_eq_true,ltI_true]; omega
  have x2:ltI 1073741824 idx=false:=by rw [← Bool.not_eq_true,ltI_true]; omega
  simp only [Option.bind_some,Bool.not_true,cond_false,x1,x2]
  rcases h5 with ⟨c1,c2,c3,c4,c5,c6⟩ | ⟨c1,cI,cK,c2,c3⟩
  · subst c1; subst c3; subst c4; subst c5; subst c6
    rw [show eqI (0:Int) 0=true from rfl,cond_true]
    exact congrArg (fun b=>some (b,())) (eqT_self _ rfl _)
  · have x3:eqI cnt 0=false:=by rw [← Bool.not_eq_true,eqI_true]; omega
    have x4:eqI key key=true:=eqI_true.2 rfl
    simp only [x3,cond_false,c2,Option.bind_some,x4,Bool.not_true]
    rcases c3 with ⟨k1,k2,k3⟩ | ⟨k1,k2,k3,k4⟩
    · subst k1; subst k2; subst k3
      have x5:eqI f.1 f.1=true:=eqI_true.2 rfl
      rw [show eqI (1:Int) 1=true from rfl,cond_true,x5,cond_true]
      unfold ref13_Start
      exact congrArg (fun b=>some (b,())) (eqT_self _ rfl _)
    · have x5:eqI cnt 1=false:=by rw [← Bool.not_eq_true,eqI_true]; omega
      have x6:ltI 1 cnt=true:=ltI_true.2 k1
      have x7:leI cnt 1073741824=true:=decide_eq_true (by omega)
      have x8:ltI f.1 last=true:=ltI_true.2 k2
      simp only [x5,x6,x7,x8,cond_true,cond_false,ref13_Valid_eq F hF h4,Option.bind_some,k3,k4,Bool.not_false]
theorem ref19_begin_ok(F:Nat){tol idx cnt:Int}{f:Smp}{last key:Int}{c:Co}(h:SV F tol idx cnt f last key c)(hl:idx+cnt+1≤1000)(hc:0≤cnt){s:Smp}(hs:I64 s.1) :
    ∃ key',ref19_begin F (tol,(idx,(cnt,(f,(last,(key,(c,()))))))) s=some ((tol,(idx+cnt,(1,(s,(s.1,(key',(oC,()))))))),())∧SV F tol (idx+cnt) 1 s s.1 key' oC:=by
  obtain ⟨h1,h2,h3,h4,h5⟩:=h
  obtain ⟨k,e,hk⟩:=ref19_Key_ok F (v:=s.2.1) h1
  refine ⟨k,?_,h1,by omega,by omega,oC_ok,.inr ⟨by omega,⟨hs,hs⟩,hk,e,.inl ⟨rfl,rfl,rfl⟩⟩⟩
  unfold ref19_begin ref13_Start
  simp only [e,Option.bind_some]
  rw [addI_i64 (by omega)]
theorem ref19_Finish_ok(F:Nat)(hF:Fuel F){tol idx cnt:Int}{f:Smp}{last key:Int}{c:Co}(h:SV F tol idx cnt f last key c)(h1:1≤cnt) :
    ref19_Finish F (tol,(idx,(cnt,(f,(last,(key,(c,())))))))=some ([(idx,(cnt,(key,(c,()))))],0,()):=by
  unfold ref19_Finish
  rw [ref19_Valid_true F hF h]
  have x3:eqI cnt 0=false:=by rw [← Bool.not_eq_true,eqI_true]; omega
  simp only [Option.bind_some,Bool.not_true,cond_false,x3]
theorem ref19_Step_ok(F:Nat)(hF:Fuel F){tol idx cnt:Int}{f:Smp}{last key:Int}{c:Co}(h:SV F tol idx cnt f last key c)(hl:idx+cnt+1≤1000)(hc:0≤cnt){s:Smp}(hs:I64 s.1∧I64 s.2.1)(hlast:1≤cnt→last < s.1) :
    ∃ idx' cnt' f' key' c' ps,ref19_Step F (tol,(idx,(cnt,(f,(last,(key,(c,()))))))) s=some ((tol,(idx',(cnt',(f',(s.1,(key',(c',()))))))),(ps,(0,())))∧SV F tol idx' cnt' f' s.1 key' c'∧idx'+cnt'=idx+cnt+1∧1≤cnt' ∧
      ((ps=[]∧idx'=idx)∨(ps=[(idx,(cnt,(key,(c,()))))]∧1≤cnt∧idx'=idx+cnt)):=by
  have key5:∃ idx' cnt' f' key' c' ps,ref19_Step_j5 F (fun z17 z18 z19=>some (z17,(z18,(z19,())))) (tol,(idx,(cnt,(f,(last,(key,(c,()))))))) s (0,(0,(0,((0,(0,())),(0,(0,(nC,())))))))=some ((tol,(idx',(cnt',(f',(s.1,(key',(c',()))))))),(ps,(0,())))∧SV F tol idx' cnt' f' s.1 key' c'∧idx'+cnt'=idx+cnt+1∧1≤cnt' ∧
      ((ps=[]∧idx'=idx)∨(ps=[(idx,(cnt,(key,(c,()))))]∧1≤cnt∧idx'=idx+cnt)):=by
    have h':=h
    obtain ⟨h1,h2,h3,h4,h5⟩:=h'
    have x1:leI 1073741824 (addI .i64 idx cnt)=false:=by
      rw [addI_i64 (by omega)]
      exact decide_eq_false (by omega)
    unfold ref19_Step_j5
    simp only [x1,cond_false]
    obtain ⟨k1,e1,s1⟩:=ref19_begin_ok F h hl hc hs.1
    rcases h5 with ⟨c1,c2,c3,c4,c5,c6⟩ | ⟨c1,cI,cK,c2,c3⟩
    · have x2:eqI cnt 0=true:=eqI_true.2 c1
      rw [x2,cond_true,e1]
      exact ⟨idx+cnt,1,s,k1,oC,[],rfl,s1,by omega,by omega,.inl ⟨rfl,by omega⟩⟩
    · have x2:eqI cnt 0=false:=by rw [← Bool.not_eq_true,eqI_true]; omega
      obtain ⟨w,e2,hw⟩:=ref19_Base_ok F hF cK h1
      have hls:=hlast c1
      have hd:0≤s.1 - f.1∧0 < s.1 - f.1:=by rcases c3 with k | k <;> omega
      have hf:=ref01_Distance_eq F hs.1 cI.2 (by omega)
      obtain ⟨c2',ok2,e3,hco,hcf⟩:=ref13_Through_ok F hF hw hs.2 h1 (d:=s.1 - f.1) (by have h1:=hs.1; have h2:=cI.2; unfold I64 at h1 h2; omega)
      obtain ⟨m,ok3,e4,hm,hm1,hm2⟩:=ref13_Meet_ok F hF h4 hco
      rw [x2,cond_false]
      simp only [e2,hf,e3,e4,Option.bind_some]
      cases ok3 with
      | false =>
        simp only [Bool.not_false,cond_true,ref19_Finish_ok F hF h c1,Option.bind_some,e1]
        exact ⟨idx+cnt,1,s,k1,oC,_,rfl,s1,by omega,by omega,.inr ⟨rfl,c1,rfl⟩⟩
      | true =>
        simp only [Bool.not_true,cond_false]
        have hmet:=hm1 rfl
        rw [addI_i64 (by omega)]
        refine ⟨idx,cnt+1,f,key,m,[],rfl,⟨h1,h2,by omega,hm,.inr ⟨by omega,⟨hs.1,cI.2⟩,cK,c2,.inr ⟨by omega,by omega,hmet.1,?_⟩⟩⟩,by omega,by omega,.inl ⟨rfl,rfl⟩⟩
        rcases hmet.2 with ⟨_,rfl⟩ | ⟨k,_⟩ | ⟨_,_,k,_⟩
        · exact hcf
        · rw [hcf] at k; cases k
        · exact k
  unfold ref19_Step
  rw [ref19_Valid_true F hF h]
  simp only [Option.bind_some,Bool.not_true,cond_false]
  by_cases k:0 < cnt
  · have x1:ltI 0 cnt=true:=ltI_true.2 k
    have x2:leI s.1 last=false:=decide_eq_false (by have:=hlast (by omega); omega)
    rw [x1,cond_true,x2,cond_false]
    exact key5
  · have x1:ltI 0 cnt=false:=by rw [← Bool.not_eq_true,ltI_true]; exact k
    rw [x1,cond_false]
    exact key5
theorem getSmp_mid(d:List Smp)(x:Smp)(t:List Smp):getL (0,(0,())) (d++x::t) (d.length:Int)=x:=by
 simp [getL,List.getD_eq_getElem?_getD]
theorem rTimes_loop(F:Nat){R:Type}(k:List Int→Option R){src:List Smp}(hb:src.length≤1000):∀ (rest pre:List Smp) (out:List Int),src=pre++rest→out.length=pre.length→∀ N,rest.length < N →
  ref12_Times_l3 F k N src out (pre.length:Int)=k (out++rest.map fun s=>s.1):=by
 intro rest
 induction rest with
 | nil =>
  intro pre out he ho N hN
  obtain ⟨N,rfl⟩:∃ M,N=M+1:=⟨N - 1,by omega⟩
  have hlen:src.length=pre.length:=by rw [he]; simp
  unfold ref12_Times_l3
  simp (disch:=omega) only [bs,↓if_pos,↓if_neg]
  simp
 | cons x rest ih =>
  intro pre out he ho N hN
  obtain ⟨N,rfl⟩:∃ M,N=M+1:=⟨N - 1,by omega⟩
  simp only [List.length_cons] at hN
  have hlen:src.length=pre.length+1+rest.length:=by rw [he]; simp; omega
  have g:getL (0,(0,())) src (pre.length:Int)=x:=by rw [he]; exact getSmp_mid pre x rest
  have e:=ih (pre++[x]) (out++[x.1]) (by rw [he]; simp) (by simp [ho]) N (by omega)
  have hpl:(((pre++[x]).length:Nat):Int)=(pre.length:Int)+1:=by simp
  rw [hpl] at e
  have hz:out++[x.1]++(rest.map fun s=>s.1)=out++((x::rest).map fun s=>s.1):=by simp
  rw [hz] at e
  unfold ref12_Times_l3
  simp (disch:=omega) only [bs,↓if_pos,↓if_neg,g]
  exact e
theorem ref12_Check_zero(F:Nat)(hF:Fuel F){l:List Smp}(hb:l.length≤1000)(h:incB (l.map fun s=>s.1)=true):ref12_Check F l=some (0,()):=by
 have e:ref12_Times F l=some (l.map fun s=>s.1,()):=by
  unfold ref12_Times
  exact rTimes_loop F _ hb l [] [] rfl rfl F (by unfold Fuel at hF; omega)
 unfold ref12_Check
 rw [e]
 simp only [Option.bind_some]
 rw [ref10_Increasing_eq F hF (by simp; omega),h]
 rfl
theorem incB_next:∀ {l:List Int} {a b:Int} {t:List Int},incB (l++a::b::t)=true→a < b
 | [],a,b,t,h=>by simp only [List.nil_append,incB,Bool.and_eq_true,decide_eq_true_eq] at h; exact h.1
 | [x],a,b,t,h=>by
  simp only [List.cons_append,List.nil_append,incB,Bool.and_eq_true,decide_eq_true_eq] at h; exact h.2.1
 | x::y::l,a,b,t,h=>by
  simp only [List.cons_append,incB,Bool.and_eq_true] at h
  exact incB_next (l:=y::l) h.2
def PA(l:List Pi)(idx:Int):Prop :=
 (l.length:Int)≤idx∧(∀ p∈l,0≤p.1∧p.1 < idx∧I64 p.2.2.1∧COk p.2.2.2.1∧cvB p.2.2.2.1=true)∧l.Pairwise (fun a b=>a.1 < b.1)∧(0 < idx→∃ p∈l,p.1=0)
theorem PA.push{l:List Pi}{F:Nat}{tol idx cnt:Int}{f:Smp}{last key:Int}{c:Co}(h:PA l idx)(hs:SV F tol idx cnt f last key c)(h1:1≤cnt):PA (l++[(idx,(cnt,(key,(c,()))))]) (idx+cnt):=by
 obtain ⟨a1,a2,a3,a4⟩:=h
 have hcv:=hs.cv h1
 obtain ⟨b1,b2,b3,b4,b5⟩:=hs
 have hk:I64 key:=by
  rcases b5 with k | k
  ·omega
  ·exact k.2.2.1
 refine ⟨by simp only [List.length_append,List.length_singleton]; omega,?_,?_,?_⟩
 ·intro p hp
  rcases List.mem_append.1 hp with h | h
  ·obtain ⟨k1,k2,k3⟩:=a2 p h
   exact ⟨k1,by omega,k3⟩
  ·rw [List.mem_singleton] at h
   subst h
   exact ⟨b2,by show idx < idx+cnt; omega,hk,b4,hcv⟩
 ·rw [List.pairwise_append]
  refine ⟨a3,List.pairwise_singleton _ _,fun a ha b hb=>?_⟩
  rw [List.mem_singleton] at hb
  subst hb
  exact(a2 a ha).2.1
 ·intro _
  by_cases k:0 < idx
  ·obtain ⟨p,h1,h2⟩:=a4 k
   exact ⟨p,List.mem_append_left _ h1,h2⟩
  ·exact ⟨_,List.mem_append_right _ (List.mem_singleton.2 rfl),by show idx=0; omega⟩
theorem All_loop(F:Nat)(hF:Fuel F){src:List Smp}(hs:SmpOk src)(hi:incB (src.map fun s=>s.1)=true)(hb:src.length≤100)(tol:Int) :
  ∀ (rest pre:List Smp) (acc:List Pi) (idx cnt:Int) (f:Smp) (last key:Int) (c:Co),src=pre++rest→PA acc idx→SV F tol idx cnt f last key c→idx+cnt=pre.length→0≤cnt→(pre≠[]→1≤cnt)→(∀ d x,pre=d++[x]→last=x.1)→∀ N,rest.length < N →
  ∃ acc' idx' cnt' f' last' key' c',PA acc' idx'∧SV F tol idx' cnt' f' last' key' c'∧idx'+cnt'=src.length∧0≤cnt'∧(src≠[]→1≤cnt')∧∀ (R:Type) (k:Int×(Int×(Int×(Smp×(Int×(Int×(Co×Unit))))))→List Pi→Option R),
   ref19_All_l10 F k N src (tol,(idx,(cnt,(f,(last,(key,(c,()))))))) acc (pre.length:Int)=k (tol,(idx',(cnt',(f',(last',(key',(c',()))))))) acc':=by
 intro rest
 induction rest with
 | nil =>
  intro pre acc idx cnt f last key c he ha hv h1 h2 h3 h4 N hN
  obtain ⟨N,rfl⟩:∃ M,N=M+1:=⟨N - 1,by omega⟩
  have hp:src=pre:=by rw [he]; simp
  refine ⟨acc,idx,cnt,f,last,key,c,ha,hv,by rw [hp]; exact h1,h2,by rw [hp]; exact h3,fun R k=>?_⟩
  have x1:ltI (pre.length:Int) (lenI src)=false:=by rw [← Bool.not_eq_true,ltI_true]; unfold lenI; rw [hp]; omega
  unfold ref19_All_l10
  rw [x1,cond_false]
 | cons x rest ih =>
  intro pre acc idx cnt f last key c he ha hv h1 h2 h3 h4 N hN
  obtain ⟨N,rfl⟩:∃ M,N=M+1:=⟨N - 1,by omega⟩
  simp only [List.length_cons] at hN
  have hlen:src.length=pre.length+1+rest.length:=by rw [he]; simp; omega
  have g:getL (0,(0,())) src (pre.length:Int)=x:=by rw [he]; exact getSmp_mid pre x rest
  have hx:=hs x (by rw [he]; simp)
  have hlt:1≤cnt→last < x.1:=by
   intro hc
   have hne:pre≠[]:=by
    intro h0
    obtain ⟨_,b2,_,_,b5⟩:=hv
    rw [h0] at h1
    simp at h1
    omega
   obtain ⟨d,y,hd⟩:∃ d y,pre=d++[y]:=⟨pre.dropLast,pre.getLast hne,(List.dropLast_concat_getLast hne).symm⟩
   rw [h4 d y hd]
   refine incB_next (l:=d.map fun s=>s.1) (t:=rest.map fun s=>s.1) ?_
   rw [he,hd] at hi
   simpa using hi
  obtain ⟨idx',cnt',f',key',c',ps,e,s1,s2,s3,s4⟩:=ref19_Step_ok F hF hv (by omega) h2 hx hlt
  have ha':PA (acc++ps) idx':=by
   rcases s4 with ⟨k1,k2⟩ | ⟨k1,k2,k3⟩
   ·rw [k1,k2,List.append_nil]; exact ha
   ·rw [k1,k3]; exact ha.push hv k2
  have hpl:(((pre++[x]).length:Nat):Int)=(pre.length:Int)+1:=by simp
  obtain ⟨acc2,i2,n2,f2,l2,k2,c2,g1,g2,g3,g4,g5,g6⟩:=ih (pre++[x]) (acc++ps) idx' cnt' f' x.1 key' c' (by rw [he]; simp) ha' s1 (by rw [hpl]; omega) (by omega) (fun _=>s3) (fun d y hd=>by
   have:=List.append_inj_right' hd rfl
   simp at this
   rw [this]) N (by omega)
  refine ⟨acc2,i2,n2,f2,l2,k2,c2,g1,g2,g3,g4,g5,fun R k=>?_⟩
  have e2:=g6 R k
  rw [hpl] at e2
  have hpsl:ps.length≤1:=by rcases s4 with ⟨k1,_⟩ | ⟨k1,_⟩ <;> simp [k1]
  have x1:ltI (pre.length:Int) (lenI src)=true:=by rw [ltI_true]; unfold lenI; omega
  have x2:inI (pre.length:Int) src.length=true:=by rw [inI_true]; omega
  have x3:roomB (acc.length+ps.length) 192=true:=by
   rw [roomB_true]
   have:=ha.1
   obtain ⟨_,_,_,_,_⟩:=hv
   omega
  unfold ref19_All_l10
  simp only [x1,x2,cond_true,g,e,Option.bind_some,x3]
  rw [addI_i64 (by omega)]
  exact e2
theorem ref19_All_ok(F:Nat)(hF:Fuel F){l:List Smp}(hs:SmpOk l)(hi:incB (l.map fun s=>s.1)=true)(hb:l.length≤100)(hne:l≠[]){tol:Int}(ht:TolOk tol) :
  ∃ ps,ref19_All F l tol=some (ps,0,())∧PA ps l.length:=by
 have hv:SV F tol 0 0 (0,(0,())) 0 0 nC:=⟨ht,by omega,by omega,⟨zR_ok,zR_ok⟩,.inl ⟨rfl,rfl,rfl,rfl,rfl,rfl⟩⟩
 have ha:PA [] 0:=⟨by simp,fun p hp=>(by cases hp),List.Pairwise.nil,fun h=>by omega⟩
 obtain ⟨acc,idx,cnt,f,last,key,c,g1,g2,g3,g4,g5,g6⟩:=All_loop F hF hs hi hb tol l [] [] 0 0 (0,(0,())) 0 0 nC rfl ha hv rfl (by omega) (fun h=>absurd rfl h) (fun d x hd=>by cases d <;> cases hd) F (by unfold Fuel at hF; omega)
 have h1:=g5 hne
 refine ⟨acc++[(idx,(cnt,(key,(c,()))))],?_,by rw [← g3]; exact g1.push g2 h1⟩
 have st:ref19_Start F tol=some ((tol,(0,(0,((0,(0,())),(0,(0,(nC,()))))))),(0,())):=by
  unfold ref19_Start
  rw [tol_true F ht]
  rfl
 have x1:ltI 1073741824 (lenI l)=false:=by rw [← Bool.not_eq_true,ltI_true]; unfold lenI; omega
 have z0:eqI (0:Int) 0=true:=rfl
 have x3:roomB (acc.length+1) 192=true:=by
  rw [roomB_true]
  have:=g1.1
  omega
 unfold ref19_All
 simp only [st,Option.bind_some,z0,Bool.not_true,cond_false,ref12_Check_zero F hF (l:=l) (by omega) hi,x1]
 refine(g6 _ _).trans ?_
 rw [ref19_Finish_ok F hF g2 h1]
 simp only [Option.bind_some,List.length_singleton,x3,cond_true]
abbrev zP:Pi:=(0,(0,(0,(nC,()))))
theorem getA_mid{α:Type}(z:α)(d:List α)(x:α)(t:List α):getL z (d++x::t) (d.length:Int)=x:=by
 simp [getL,List.getD_eq_getElem?_getD]
theorem getA_mid1{α:Type}(z:α)(d:List α)(y x:α)(t:List α):getL z (d++y::x::t) ((d.length:Int)+1)=x:=by
 have h:((d.length:Int)+1)=(((d++[y]).length:Nat):Int):=by simp
 rw [h,show d++y::x::t=(d++[y])++x::t by simp]
 exact getA_mid z _ x t
theorem setA_mid{α:Type}(d:List α)(x y:α)(t:List α):setL (d++x::t) (d.length:Int) y=d++y::t:=by
 simp [setL]
theorem setA_mid1{α:Type}(d:List α)(y x v:α)(t:List α):setL (d++y::x::t) ((d.length:Int)+1) v=d++y::v::t:=by
 have h:((d.length:Int)+1)=(((d++[y]).length:Nat):Int):=by simp
 rw [h,show d++y::x::t=(d++[y])++x::t by simp,setA_mid]
 simp
def PcOk(p:Pi):Prop:=0≤p.1∧p.1 < 4096∧I64 p.2.2.1∧COk p.2.2.2.1∧cvB p.2.2.2.1=true
/- the check -/
theorem jDist_loop(F:Nat){R:Type}(k2:List Pi→Int→Option R)(kr:List Gr→Int→Option R){src:List Pi}(hb:src.length≤1000){i:Nat}(hi:i < src.length)(hd:∀ j:Nat,j < i→(getL zP src (j:Int)).1≠(getL zP src (i:Int)).1):∀ (m j:Nat),j+m=i→∀ N,m < N →
  ref21_Join_l7 F k2 kr N src (i:Int) (j:Int)=k2 src (i:Int):=by
 intro m
 induction m with
 | zero =>
  intro j h N hN
  obtain ⟨N,rfl⟩:∃ M,N=M+1:=⟨N - 1,by omega⟩
  have x1:ltI (j:Int) (i:Int)=false:=by rw [← Bool.not_eq_true,ltI_true]; omega
  unfold ref21_Join_l7
  rw [x1,cond_false]
 | succ m ih =>
  intro j h N hN
  obtain ⟨N,rfl⟩:∃ M,N=M+1:=⟨N - 1,by omega⟩
  have x1:ltI (j:Int) (i:Int)=true:=by rw [ltI_true]; omega
  have x2:inI (j:Int) src.length=true:=by rw [inI_true]; omega
  have x3:inI (i:Int) src.length=true:=by rw [inI_true]; omega
  have x4:eqI (getL zP src (j:Int)).1 (getL zP src (i:Int)).1=false:=by rw [← Bool.not_eq_true,eqI_true]; exact hd j (by omega)
  have e:=ih (j+1) (by omega) N (by omega)
  unfold ref21_Join_l7
  simp only [x1,x2,x3,cond_true,x4,cond_false]
  rw [addI_i64 (by omega)]
  exact e
theorem pw_lt{l:List Pi}(h:l.Pairwise (fun a b=>a.1 < b.1)){i j:Nat}(hj:j < i)(hi:i < l.length):(getL zP l (j:Int)).1 < (getL zP l (i:Int)).1:=by
 have e:=List.pairwise_iff_getElem.1 h j i (by omega) hi hj
 simp only [getL,Int.toNat_natCast,List.getD_eq_getElem?_getD]
 rw [List.getElem?_eq_getElem (by omega),List.getElem?_eq_getElem hi]
 exact e
theorem jCheck_loop(F:Nat)(hF:Fuel F){R:Type}(k0:List Pi→Option R)(kr:List Gr→Int→Option R){src:List Pi}(hb:src.length≤1000)(hs:∀ p∈src,PcOk p)(hp:src.Pairwise (fun a b=>a.1 < b.1)):∀ (rest pre:List Pi),src=pre++rest→∀ N,rest.length < N →
  ref21_Join_l2 F k0 kr N src (pre.length:Int)=k0 src:=by
 intro rest
 induction rest with
 | nil =>
  intro pre he N hN
  obtain ⟨N,rfl⟩:∃ M,N=M+1:=⟨N - 1,by omega⟩
  have hlen:src.length=pre.length:=by rw [he]; simp
  have x1:ltI (pre.length:Int) (lenI src)=false:=by rw [← Bool.not_eq_true,ltI_true]; unfold lenI; omega
  unfold ref21_Join_l2
  rw [x1,cond_false]
 | cons x rest ih =>
  intro pre he N hN
  obtain ⟨N,rfl⟩:∃ M,N=M+1:=⟨N - 1,by omega⟩
  simp only [List.length_cons] at hN
  have hlen:src.length=pre.length+1+rest.length:=by rw [he]; simp; omega
  have g:getL zP src (pre.length:Int)=x:=by rw [he]; exact getA_mid zP pre x rest
  obtain ⟨p1,p2,p3,p4,p5⟩:=hs x (by rw [he]; simp)
  have hpl:(((pre++[x]).length:Nat):Int)=(pre.length:Int)+1:=by simp
  have e:=ih (pre++[x]) (by rw [he]; simp) N (by omega)
  rw [hpl] at e
  have x1:ltI (pre.length:Int) (lenI src)=true:=by rw [ltI_true]; unfold lenI; omega
  have x2:inI (pre.length:Int) src.length=true:=by rw [inI_true]; omega
  have x3:ltI x.1 0=false:=by rw [← Bool.not_eq_true,ltI_true]; omega
  have e7:=jDist_loop F (fun z13 z14=>ref21_Join_l2 F k0 kr N z13 (addI .i64 z14 1)) (fun z16 z17=>kr z16 z17) hb (i:=pre.length) (by omega) (fun j hj=>by have:=pw_lt hp hj (by omega); omega) pre.length 0 (by omega) F (by unfold Fuel at hF; omega)
  have e7:ref21_Join_l7 F (fun z13 z14=>ref21_Join_l2 F k0 kr N z13 (addI .i64 z14 1)) (fun z16 z17=>kr z16 z17) F src (pre.length:Int) 0=_:=e7
  unfold ref21_Join_l2
  simp only [x1,x2,cond_true]
  simp only [g,ref13_Valid_eq F hF p4,Option.bind_some,p5,Bool.not_true,cond_false,x3]
  rw [e7]
  rw [addI_i64 (by omega)]
  exact e
/- the order -/
def Pre(a b:Pi):Prop:=a.2.2.1 < b.2.2.1∨(a.2.2.1=b.2.2.1∧(a.2.2.2.1.1=true∨(b.2.2.2.1.1=false∧rc a.2.2.2.1.2.1 b.2.2.2.1.2.1≤0)))
theorem PcOk.lo{p:Pi}(h:PcOk p)(h2:p.2.2.2.1.1=false):RV p.2.2.2.1.2.1∧RV p.2.2.2.1.2.2.1∧rc p.2.2.2.1.2.1 p.2.2.2.1.2.2.1≤0:=(cvB_shut h2).1 h.2.2.2.2
theorem Pre.trans{a b c:Pi}(ha:PcOk a)(hb:PcOk b)(hc:PcOk c)(h1:Pre a b)(h2:Pre b c):Pre a c:=by
 unfold Pre at *
 rcases h1 with h1 | ⟨h1,h3⟩
 ·rcases h2 with h2 | ⟨h2,_⟩ <;> (left; omega)
 ·rcases h2 with h2 | ⟨h2,h4⟩
  ·left; omega
  ·right
   refine ⟨by omega,?_⟩
   rcases h3 with h3 | ⟨h3,h5⟩
   ·exact .inl h3
   ·rcases h4 with h4 | ⟨h4,h6⟩
    ·rw [h3] at h4; cases h4
    ·cases ha1:a.2.2.2.1.1 with
     | true=>exact .inl rfl
     | false=>exact .inr ⟨h4,rc_trans (ha.lo ha1).1 (hb.lo h3).1 (hc.lo h4).1 h5 h6⟩
theorem ref21_Before_ok(F:Nat)(hF:Fuel F){a b:Pi}(ha:PcOk a)(hb:PcOk b):∃ r,ref21_Before F a b=some (r,())∧(r=true→Pre a b)∧(r=false→Pre b a):=by
 unfold ref21_Before
 by_cases k1:a.2.2.1=b.2.2.1
 rotate_left
 ·have x1:eqI a.2.2.1 b.2.2.1=false:=by rw [← Bool.not_eq_true,eqI_true]; exact k1
  rw [x1,Bool.not_false,cond_true]
  refine ⟨_,rfl,fun h=>Or.inl (ltI_true.1 h),fun h=>?_⟩
  rw [← Bool.not_eq_true,ltI_true] at h
  exact Or.inl (by omega)
 have x1:eqI a.2.2.1 b.2.2.1=true:=eqI_true.2 k1
 rw [x1,Bool.not_true,cond_false]
 cases oa:a.2.2.2.1.1 with
 | true =>
  cases ob:b.2.2.2.1.1 with
  | true=>exact ⟨_,rfl,fun _=>Or.inr ⟨k1,.inl oa⟩,fun _=>Or.inr ⟨k1.symm,.inl ob⟩⟩
  | false=>exact ⟨true,rfl,fun _=>Or.inr ⟨k1,.inl oa⟩,fun h=>by cases h⟩
 | false =>
  cases ob:b.2.2.2.1.1 with
  | true=>exact ⟨false,rfl,(fun h=>by cases h),fun _=>Or.inr ⟨k1.symm,.inl ob⟩⟩
  | false =>
   obtain ⟨a1,a2,a3⟩:=ha.lo oa
   obtain ⟨b1,b2,b3⟩:=hb.lo ob
   have hao:=ha.2.2.2.1
   have hbo:=hb.2.2.2.1
   simp only [show eqT .bool false false=true from rfl,Bool.not_true,cond_false,Bool.not_false,cond_true,ref03_Compare_eq F hF hao.1 hbo.1 a1 b1,ref03_Compare_eq F hF hao.2 hbo.2 a2 b2,Option.bind_some]
   by_cases k2:rc a.2.2.2.1.2.1 b.2.2.2.1.2.1=0
   ·have x2:eqI (rc a.2.2.2.1.2.1 b.2.2.2.1.2.1) 0=true:=eqI_true.2 k2
    have h1:rc a.2.2.2.1.2.1 b.2.2.2.1.2.1≤0:=by omega
    have h2:rc b.2.2.2.1.2.1 a.2.2.2.1.2.1≤0:=by
     rcases Int.lt_or_le 0 (rc b.2.2.2.1.2.1 a.2.2.2.1.2.1) with h | h
     ·rw [← rc_swap] at h; omega
     ·exact h
    have any:∀ o:Option (Bool×Unit),(∃ r,o=some (r,()))→∃ r,o=some (r,())∧(r=true→Pre a b)∧(r=false→Pre b a):=by
     rintro o ⟨r,hr⟩
     exact ⟨r,hr,fun _=>Or.inr ⟨k1,.inr ⟨ob,h1⟩⟩,fun _=>Or.inr ⟨k1.symm,.inr ⟨oa,h2⟩⟩⟩
    refine any _ ?_
    rw [x2,Bool.not_true,cond_false]
    cases eqI (rc a.2.2.2.1.2.2.1 b.2.2.2.1.2.2.1) 0 with
    | true=>exact ⟨_,rfl⟩
    | false=>exact ⟨_,rfl⟩
   ·have x2:eqI (rc a.2.2.2.1.2.1 b.2.2.2.1.2.1) 0=false:=by rw [← Bool.not_eq_true,eqI_true]; exact k2
    rw [x2,Bool.not_false,cond_true]
    refine ⟨_,rfl,fun h=>?_,fun h=>?_⟩
    ·rw [ltI_true] at h
     exact Or.inr ⟨k1,.inr ⟨ob,by omega⟩⟩
    ·rw [← Bool.not_eq_true,ltI_true] at h
     refine Or.inr ⟨k1.symm,.inr ⟨oa,?_⟩⟩
     have:rc b.2.2.2.1.2.1 a.2.2.2.1.2.1 < 0:=rc_swap.2 (by omega)
     omega
/- the sort -/
theorem jIn_loop(F:Nat)(hF:Fuel F):∀ (n:Nat) (pre mid rest:List Pi) (x:Pi),pre.length=n→(pre++mid).Pairwise Pre→(∀ y∈mid,Pre x y)→(∀ p∈pre++x::mid,PcOk p)→(pre++x::mid++rest).length≤1000→∀ N,n < N →
  ∃ s,s.Pairwise Pre∧s.Perm (pre++x::mid)∧∀ (R:Type) (k6:List Pi→Int→Option R) (i:Int),ref21_Join_l16 F k6 N (pre++x::mid++rest) i (pre.length:Int)=k6 (s++rest) i:=by
 intro n
 induction n with
 | zero =>
  intro pre mid rest x hn hs hx hok hl N hN
  obtain ⟨N,rfl⟩:∃ M,N=M+1:=⟨N - 1,by omega⟩
  have hp:pre=[]:=List.length_eq_zero_iff.1 hn
  subst hp
  refine ⟨x::mid,List.pairwise_cons.2 ⟨hx,hs⟩,List.Perm.refl _,fun R k6 i=>?_⟩
  unfold ref21_Join_l16
  rfl
 | succ n ih =>
  intro pre mid rest x hn hs hx hok hl N hN
  obtain ⟨N,rfl⟩:∃ M,N=M+1:=⟨N - 1,by omega⟩
  have hne:pre≠[]:=fun h=>by rw [h] at hn; simp at hn
  obtain ⟨d,y,rfl⟩:∃ d y,pre=d++[y]:=⟨pre.dropLast,pre.getLast hne,(List.dropLast_concat_getLast hne).symm⟩
  have hdl:d.length=n:=by simpa using hn
  have hpl:(((d++[y]).length:Nat):Int)=(d.length:Int)+1:=by simp
  have hy:PcOk y:=hok y (by simp)
  have hxo:PcOk x:=hok x (by simp)
  obtain ⟨r,e1,r1,r2⟩:=ref21_Before_ok F hF hxo hy
  have hsrc:d++[y]++x::mid++rest=d++y::x::(mid++rest):=by simp
  have hlen:(d++y::x::(mid++rest)).length=d.length+2+mid.length+rest.length:=by simp; omega
  have hl2:d.length+2+mid.length+rest.length≤1000:=by rw [hsrc,hlen] at hl; exact hl
  have x1:ltI 0 ((d.length:Int)+1)=true:=by rw [ltI_true]; omega
  have x2:inI ((d.length:Int)+1) (d++y::x::(mid++rest)).length=true:=by rw [inI_true,hlen]; omega
  have x3:inI (d.length:Int) (d++y::x::(mid++rest)).length=true:=by rw [inI_true,hlen]; omega
  have s1:subI .i64 ((d.length:Int)+1) 1=(d.length:Int):=by rw [subI_i64 (by omega)]; omega
  have g1:getL zP (d++y::x::(mid++rest)) ((d.length:Int)+1)=x:=getA_mid1 zP d y x _
  have g2:getL zP (d++y::x::(mid++rest)) (d.length:Int)=y:=getA_mid zP d y _
  cases r with
  | false =>
   refine ⟨d++[y]++x::mid,?_,List.Perm.refl _,fun R k6 i=>?_⟩
   ·rw [List.pairwise_append] at hs ⊢
    obtain ⟨h1,h2,h3⟩:=hs
    refine ⟨h1,List.pairwise_cons.2 ⟨hx,h2⟩,fun a ha b hb=>?_⟩
    rcases List.mem_cons.1 hb with rfl | hb
    ·rcases List.mem_append.1 ha with ha | ha
     ·have h4:Pre a y:=(List.pairwise_append.1 h1).2.2 a ha y (by simp)
      exact Pre.trans (hok a (by simp [ha])) hy hxo h4 (r2 rfl)
     ·rw [List.mem_singleton] at ha
      subst ha
      exact r2 rfl
    ·exact h3 a ha b hb
   ·rw [hpl,hsrc]
    unfold ref21_Join_l16
    simp only [x1,x2,s1,x3,cond_true,g1,g2,e1,Option.bind_some,cond_false]
  | true =>
   obtain ⟨s,q1,q2,q3⟩:=ih d (y::mid) rest x hdl (by simpa using hs) (fun b hb=>by
    rcases List.mem_cons.1 hb with rfl | hb
    ·exact r1 rfl
    ·exact hx b hb) (fun p hp=>hok p (by simp at hp ⊢; rcases hp with h | h | h | h <;> simp [h])) (by rw [show d++x::y::mid++rest=d++x::y::(mid++rest) by simp]; simp; omega) N (by omega)
   refine ⟨s,q1,q2.trans ?_,fun R k6 i=>?_⟩
   ·have:d++[y]++x::mid=d++y::x::mid:=by simp
    rw [this]
    exact List.Perm.append_left d (List.Perm.swap y x mid)
   ·have e:=q3 R k6 i
    rw [hpl,hsrc]
    have hset:setL (d++y::x::(mid++rest)) ((d.length:Int)+1) y=d++y::y::(mid++rest):=setA_mid1 d y x y _
    have hset2:setL (d++y::y::(mid++rest)) (d.length:Int) x=d++x::y::(mid++rest):=setA_mid d y x _
    have x4:inI (d.length:Int) (d++y::y::(mid++rest)).length=true:=by rw [inI_true]; simp; omega
    unfold ref21_Join_l16
    simp only [x1,x2,s1,x3,cond_true,g1,g2,e1,Option.bind_some,hset,x4,hset2]
    rw [show d++x::y::mid++rest=d++x::y::(mid++rest) by simp] at e
    exact e
theorem jOut_loop(F:Nat)(hF:Fuel F):∀ (rest pre:List Pi),pre.Pairwise Pre→(∀ p∈pre++rest,PcOk p)→(pre++rest).length≤1000→∀ N,rest.length < N →
  ∃ s,s.Pairwise Pre∧s.Perm (pre++rest)∧∀ (R:Type) (k4:List Pi→Option R),ref21_Join_l13 F k4 N (pre++rest) (pre.length:Int)=k4 s:=by
 intro rest
 induction rest with
 | nil =>
  intro pre hp hok hl N hN
  obtain ⟨N,rfl⟩:∃ M,N=M+1:=⟨N - 1,by omega⟩
  refine ⟨pre,hp,by rw [List.append_nil],fun R k4=>?_⟩
  have x1:ltI (pre.length:Int) (lenI (pre++[]))=false:=by rw [← Bool.not_eq_true,ltI_true]; unfold lenI; simp
  unfold ref21_Join_l13
  rw [x1,cond_false,List.append_nil]
 | cons x rest ih =>
  intro pre hp hok hl N hN
  obtain ⟨N,rfl⟩:∃ M,N=M+1:=⟨N - 1,by omega⟩
  simp only [List.length_cons] at hN
  have hl2:pre.length+1+rest.length≤1000:=by simp at hl; omega
  have hre:pre++x::rest=pre++[x]++rest:=by simp
  obtain ⟨s,q1,q2,q3⟩:=jIn_loop F hF pre.length pre [] rest x rfl (by rw [List.append_nil]; exact hp) (fun y hy=>by cases hy) (fun p h=>hok p (by simp at h ⊢; rcases h with h | h <;> simp [h])) (by simp; omega) F (by unfold Fuel at hF; omega)
  have hsl:s.length=pre.length+1:=by rw [q2.length_eq]; simp
  obtain ⟨s2,p1,p2,p3⟩:=ih s q1 (fun p h=>by
   rcases List.mem_append.1 h with h | h
   ·exact hok p (by have:=q2.mem_iff.1 h; simp at this ⊢; rcases this with h | h <;> simp [h])
   ·exact hok p (by simp [h])) (by simp; omega) N (by omega)
  refine ⟨s2,p1,p2.trans ?_,fun R k4=>?_⟩
  ·rw [hre]
   exact List.Perm.append_right rest q2
  ·have x1:ltI (pre.length:Int) (lenI (pre++x::rest))=true:=by rw [ltI_true]; unfold lenI; simp; omega
   have e3:=q3 R (fun z34 z35=>ref21_Join_l13 F k4 N z34 (addI .i64 z35 1)) (pre.length:Int)
   have e:=p3 R k4
   rw [hsl] at e
   unfold ref21_Join_l13
   rw [x1,cond_true]
   rw [hre]
   refine e3.trans ?_
   show ref21_Join_l13 F k4 N (s++rest) (addI .i64 (pre.length:Int) 1)=_
   rw [addI_i64 (by omega)]
   rw [show((pre.length+1:Nat):Int)=(pre.length:Int)+1 by omega] at e
   exact e
def insS(v:Int):List Int→List Int
 | []=>[v]
 | y::t=>if v < y then v::y::t else y::insS v t
theorem insS_perm(v:Int):∀ l:List Int,(insS v l).Perm (v::l)
 | []=>List.Perm.refl _
 | y::t=>by
  unfold insS
  split
  ·exact List.Perm.refl _
  ·exact((insS_perm v t).cons y).trans (List.Perm.swap v y t)
theorem insS_asc{v:Int}:∀ {l:List Int},l.Pairwise (· < ·)→v ∉ l→(insS v l).Pairwise (· < ·)
 | [],_,_=>List.pairwise_singleton _ _
 | y::t,h,hv=>by
  unfold insS
  obtain ⟨h1,h2⟩:=List.pairwise_cons.1 h
  simp only [List.mem_cons,not_or] at hv
  split
  ·rename_i c
   refine List.pairwise_cons.2 ⟨fun a ha=>?_,h⟩
   rcases List.mem_cons.1 ha with rfl | ha
   ·exact c
   ·have:=h1 a ha; omega
  ·refine List.pairwise_cons.2 ⟨fun a ha=>?_,insS_asc h2 hv.2⟩
   rcases List.mem_cons.1 ((insS_perm v t).mem_iff.1 ha) with rfl | ha
   ·have:=hv.1; omega
   ·exact h1 a ha
theorem insT_loop(F:Nat){R:Type}(k:Int→List Int→Bool→Option R)(v:Int){src:List Int}(hb:src.length≤1000):∀ (rest pre out:List Int),src=pre++rest→out.length≤pre.length+1→∀ N,rest.length < N →
  ref21_insert_l4 F k N src v out true (pre.length:Int)=k v (out++rest) true:=by
 intro rest
 induction rest with
 | nil =>
  intro pre out he ho N hN
  obtain ⟨N,rfl⟩:∃ M,N=M+1:=⟨N - 1,by omega⟩
  have hlen:src.length=pre.length:=by rw [he]; simp
  have x1:ltI (pre.length:Int) (lenI src)=false:=by rw [← Bool.not_eq_true,ltI_true]; unfold lenI; omega
  unfold ref21_insert_l4
  rw [x1,cond_false,List.append_nil]
 | cons y rest ih =>
  intro pre out he ho N hN
  obtain ⟨N,rfl⟩:∃ M,N=M+1:=⟨N - 1,by omega⟩
  simp only [List.length_cons] at hN
  have hlen:src.length=pre.length+1+rest.length:=by rw [he]; simp; omega
  have g:getL 0 src (pre.length:Int)=y:=by rw [he]; exact get_mid pre y rest
  have hpl:(((pre++[y]).length:Nat):Int)=(pre.length:Int)+1:=by simp
  have e:=ih (pre++[y]) (out++[y]) (by rw [he]; simp) (by simp; omega) N (by omega)
  rw [hpl,show out++[y]++rest=out++y::rest by simp] at e
  have x1:ltI (pre.length:Int) (lenI src)=true:=by rw [ltI_true]; unfold lenI; omega
  have x2:inI (pre.length:Int) src.length=true:=by rw [inI_true]; omega
  have x3:roomB (out.length+1) 8=true:=by rw [roomB_true]; omega
  unfold ref21_insert_l4
  simp only [x1,x2,x3,cond_true,Bool.not_true,cond_false,g]
  rw [addI_i64 (by omega)]
  exact e
theorem insF_loop(F:Nat)(hF:Fuel F)(v:Int){src:List Int}(hb:src.length≤1000):∀ (rest pre out:List Int),src=pre++rest→out.length=pre.length→∀ N,rest.length < N →
  ref21_insert_l4 F (fun z16 z17 z18=>bif not z18 then bif roomB ((List.length z17)+1) 8 then some ((z17++[z16]),()) else none else some (z17,())) N src v out false (pre.length:Int)=some (out++insS v rest,()):=by
 intro rest
 induction rest with
 | nil =>
  intro pre out he ho N hN
  obtain ⟨N,rfl⟩:∃ M,N=M+1:=⟨N - 1,by omega⟩
  have hlen:src.length=pre.length:=by rw [he]; simp
  have x1:ltI (pre.length:Int) (lenI src)=false:=by rw [← Bool.not_eq_true,ltI_true]; unfold lenI; omega
  have x3:roomB (out.length+1) 8=true:=by rw [roomB_true]; omega
  unfold ref21_insert_l4
  simp only [x1,cond_false,Bool.not_false,cond_true,x3]
  rfl
 | cons y rest ih =>
  intro pre out he ho N hN
  obtain ⟨N,rfl⟩:∃ M,N=M+1:=⟨N - 1,by omega⟩
  simp only [List.length_cons] at hN
  have hlen:src.length=pre.length+1+rest.length:=by rw [he]; simp; omega
  have g:getL 0 src (pre.length:Int)=y:=by rw [he]; exact get_mid pre y rest
  have hpl:(((pre++[y]).length:Nat):Int)=(pre.length:Int)+1:=by simp
  have x1:ltI (pre.length:Int) (lenI src)=true:=by rw [ltI_true]; unfold lenI; omega
  have x2:inI (pre.length:Int) src.length=true:=by rw [inI_true]; omega
  have x3:roomB (out.length+1) 8=true:=by rw [roomB_true]; omega
  have x4:roomB ((out++[v]).length+1) 8=true:=by rw [roomB_true]; simp; omega
  unfold ref21_insert_l4 insS
  by_cases c:v < y
  ·have x5:ltI v y=true:=ltI_true.2 c
   rw [if_pos c]
   have e:=insT_loop F (fun z16 z17 z18=>bif not z18 then bif roomB ((List.length z17)+1) 8 then some ((z17++[z16]),()) else none else some (z17,())) v hb rest (pre++[y]) (out++[v]++[y]) (by rw [he]; simp) (by simp; omega) N (by omega)
   rw [hpl] at e
   simp only [x1,x2,x3,x4,cond_true,Bool.not_false,g,x5]
   rw [addI_i64 (by omega)]
   refine e.trans ?_
   simp
  ·have x5:ltI v y=false:=by rw [← Bool.not_eq_true,ltI_true]; exact c
   rw [if_neg c]
   have e:=ih (pre++[y]) (out++[y]) (by rw [he]; simp) (by simp; omega) N (by omega)
   rw [hpl] at e
   simp only [x1,x2,x3,cond_true,Bool.not_false,g,x5,cond_false]
   rw [addI_i64 (by omega)]
   refine e.trans ?_
   simp
theorem ref21_insert_eq(F:Nat)(hF:Fuel F)(v:Int){l:List Int}(hb:l.length≤1000):ref21_insert F l v=some (insS v l,()):=by
 unfold ref21_insert
 exact insF_loop F hF v hb l [] [] rfl rfl F (by unfold Fuel at hF; omega)
/- the groups -/
def sts(l:List Gr):List Int:=l.flatMap fun g=>g.2.2.1
def lessP(a b:Gr):Prop:=a.1 < b.1∨(a.1=b.1∧rc a.2.1 b.2.1 < 0)
def GrOk(g:Gr):Prop:=I64 g.1∧ROk g.2.1∧RV g.2.1∧g.2.2.1≠[]∧g.2.2.1.Pairwise (· < ·)
theorem sts_tot:∀ l:List Gr,(sts l).length=tot l
 | []=>rfl
 | g::t=>by
  show(g.2.2.1++sts t).length=g.2.2.1.length+tot t
  rw [List.length_append,sts_tot t]
theorem sts_app(a b:List Gr):sts (a++b)=sts a++sts b:=by unfold sts; rw [List.flatMap_append]
theorem sts_one(g:Gr):sts [g]=g.2.2.1:=by unfold sts; simp
theorem len_tot:∀ {l:List Gr},(∀ g∈l,GrOk g)→l.length≤tot l
 | [],_=>by simp [tot]
 | g::t,h=>by
  have h1:=len_tot (l:=t) (fun x hx=>h x (List.mem_cons_of_mem _ hx))
  have h2:=(h g (by simp)).2.2.2.1
  have h3:g.2.2.1.length≠0:=fun h0=>h2 (List.length_eq_zero_iff.1 h0)
  simp only [tot,List.length_cons]
  omega
def GL(pre:List Pi)(l:List Gr)(c:Co):Prop :=
 ∃ d q i g,pre=d++[q]∧l=i++[g]∧g.1=q.2.2.1∧cvB c=true∧(c.1=false→Btw c.2.1 c.2.2.1 g.2.1∧q.2.2.2.1.1=false∧rc c.2.1 q.2.2.2.1.2.1≤0) ∧
  ∀ h∈i,h.1 < g.1∨(h.1=g.1∧c.1=false∧0 < rc c.2.1 h.2.1)
def GI(pre:List Pi)(l:List Gr)(c:Co):Prop :=
 COk c∧(sts l).Perm (pre.map fun p=>p.1)∧(∀ g∈l,GrOk g)∧l.Pairwise lessP∧((pre=[]∧l=[])∨GL pre l c)
theorem rc_self{p:Rt}:rc p p≤0:=by rw [rc_le]; omega
theorem GI.new{pre:List Pi}{l:List Gr}{c:Co}{p:Pi}{s:Rt}(h:GI pre l c)(hp:PcOk p)(hok:∀ q∈pre,PcOk q)
  (hsrt:∀ q∈pre,Pre q p) (hs:ROk s) (hs2:RV s∧(p.2.2.2.1.1=false→Btw p.2.2.2.1.2.1 p.2.2.2.1.2.2.1 s))
  (hap:∀ d q,pre=d++[q]→q.2.2.1=p.2.2.1→Apart c p.2.2.2.1):GI (pre++[p]) (l++[(p.2.2.1,(s,([p.1],())))]) p.2.2.2.1:=by
 obtain ⟨h1,h2,h3,h4,h5⟩:=h
 have hord:∀ h∈l,h.1 < p.2.2.1∨(h.1=p.2.2.1∧p.2.2.2.1.1=false∧0 < rc p.2.2.2.1.2.1 h.2.1):=by
  intro h hh
  rcases h5 with ⟨_,e⟩ | ⟨d,q,i,g,e1,e2,e3,e4,e5,e6⟩
  ·rw [e] at hh; cases hh
  have hq:q∈pre:=by rw [e1]; simp
  have hqo:=hok q hq
  have hqp:=hsrt q hq
  have hho:=(h3 h hh).2.2.1
  rcases hqp with k | ⟨k,k2⟩
  ·left
   rw [e2] at hh
   rcases List.mem_append.1 hh with hh | hh
   ·rcases e6 h hh with e | e <;> omega
   ·rw [List.mem_singleton] at hh; subst hh; omega
  ·obtain ⟨a1,a2,a3⟩:=hap d q e1 k e4 hp.2.2.2.2
   obtain ⟨b1,b2,b3⟩:=e5 a1
   obtain ⟨v1,v2,v3⟩:=(cvB_shut a1).1 e4
   have hle:rc q.2.2.2.1.2.1 p.2.2.2.1.2.1≤0:=by
    rcases k2 with k2 | ⟨_,k2⟩
    ·rw [b2] at k2; cases k2
    ·exact k2
   have hcp:rc c.2.1 p.2.2.2.1.2.1≤0:=rc_trans v1 (hqo.lo b2).1 (hp.lo a2).1 b3 hle
   rw [e2] at hh
   rcases List.mem_append.1 hh with hh | hh
   ·rcases e6 h hh with e | ⟨f1,f2,f3⟩
    ·left; omega
    ·right
     refine ⟨by omega,a2,?_⟩
     rcases Int.lt_or_le 0 (rc p.2.2.2.1.2.1 h.2.1) with k | k
     ·exact k
     ·have:=rc_trans v1 (hp.lo a2).1 hho hcp k
      omega
   ·rw [List.mem_singleton] at hh
    subst hh
    right
    refine ⟨by omega,a2,?_⟩
    have h0:=a3 hcp
    rcases Int.lt_or_le 0 (rc p.2.2.2.1.2.1 h.2.1) with k | k
    ·exact k
    ·have:=rc_trans (hp.lo a2).1 hho v2 k b1.2.2
     omega
 refine ⟨hp.2.2.2.1,?_,?_,?_,.inr ⟨pre,p,l,_,rfl,rfl,rfl,hp.2.2.2.2,fun h=>⟨hs2.2 h,h,rc_self⟩,hord⟩⟩
 ·rw [sts_app,sts_one,List.map_append]
  exact List.Perm.append_right _ h2
 ·intro g hg
  rcases List.mem_append.1 hg with hg | hg
  ·exact h3 g hg
  ·rw [List.mem_singleton] at hg
   subst hg
   exact ⟨hp.2.2.1,hs,hs2.1,by simp,List.pairwise_singleton _ _⟩
 ·rw [List.pairwise_append]
  refine ⟨h4,List.pairwise_singleton _ _,fun a ha b hb=>?_⟩
  rw [List.mem_singleton] at hb
  subst hb
  rcases hord a ha with k | ⟨k1,k2,k3⟩
  ·exact Or.inl k
  ·refine Or.inr ⟨k1,?_⟩
   have hbt:=hs2.2 k2
   have h0:=(h3 a ha).2.2.1
   rcases Int.lt_or_le (rc a.2.1 s) 0 with k | k
   ·exact k
   ·have k4:rc s a.2.1≤0:=by
     rcases Int.lt_or_le 0 (rc s a.2.1) with k5 | k5
     ·rw [← rc_swap] at k5; omega
     ·exact k5
    have:=rc_trans (hp.lo k2).1 hbt.1 h0 hbt.2.1 k4
    omega
theorem GI.grow{pre d:List Pi}{q:Pi}{i:List Gr}{g:Gr}{c m:Co}{p:Pi}{s:Rt}(h:GI pre (i++[g]) c)(he:pre=d++[q])(hp:PcOk p)(hok:∀ q∈pre,PcOk q)
  (hsrt:∀ q∈pre,Pre q p) (hs:ROk s) (hs2:RV s∧(m.1=false→Btw m.2.1 m.2.2.1 s)) (hm:COk m) (hmet:Met c p.2.2.2.1 m) (hk:g.1=p.2.2.1) (hnew:p.1 ∉ pre.map fun p=>p.1) :
  GI (pre++[p]) (i++[(g.1,(s,(insS p.1 g.2.2.1,())))]) m:=by
 obtain ⟨h1,h2,h3,h4,h5⟩:=h
 rcases h5 with ⟨_,e⟩ | ⟨d',q',i',g',e1,e2,e3,e4,e5,e6⟩
 ·simp at e
 have hq':q'=q:=by
  rw [he] at e1
  have:=List.append_inj_right' e1 rfl
  simp at this
  exact this.symm
 obtain ⟨hi,hg⟩:=List.append_inj' e2 rfl
 simp only [List.cons.injEq,and_true] at hg
 subst hq'; subst hi; subst hg
 have hq:q'∈pre:=by rw [he]; simp
 have hqo:=hok q' hq
 have hqp:=hsrt q' hq
 have hkq:q'.2.2.1=p.2.2.1:=by omega
 -- what the new cone keeps
 have hmf:m.1=false→p.2.2.2.1.1=false∧rc m.2.1 p.2.2.2.1.2.1≤0∧(c.1=false→rc c.2.1 m.2.1≤0):=by
  intro hm0
  rcases hmet.2 with ⟨k1,k2⟩ | ⟨k1,k2⟩ | ⟨k1,k2,k3,k4⟩
  ·subst k2
   refine ⟨hm0,rc_self,fun h=>?_⟩
   rw [k1] at h; cases h
  ·subst k2
   obtain ⟨b1,b2,b3⟩:=e5 hm0
   exfalso
   rcases hqp with k | ⟨_,k | ⟨k,_⟩⟩
   ·omega
   ·rw [b2] at k; cases k
   ·rw [k1] at k; cases k
  ·obtain ⟨b1,b2,b3⟩:=e5 k1
   obtain ⟨v1,v2,v3⟩:=(cvB_shut k1).1 e4
   have hle:rc q'.2.2.2.1.2.1 p.2.2.2.1.2.1≤0:=by
    rcases hqp with k | ⟨_,k | ⟨_,k⟩⟩
    ·omega
    ·rw [b2] at k; cases k
    ·exact k
   have hcp:rc c.2.1 p.2.2.2.1.2.1≤0:=rc_trans v1 (hqo.lo b2).1 (hp.lo k2).1 b3 hle
   refine ⟨k2,?_,fun _=>?_⟩
   ·rcases k4 with k4 | k4
    ·rw [k4]; exact hcp
    ·rw [k4]; exact rc_self
   ·rcases k4 with k4 | k4
    ·rw [k4]; exact rc_self
    ·rw [k4]; exact hcp
 have hmc:c.1=false→m.1=false:=by
  intro hc
  rcases hmet.2 with ⟨k1,k2⟩ | ⟨k1,k2⟩ | ⟨k1,k2,k3,k4⟩
  ·rw [k1] at hc; cases hc
  ·rw [k2]; exact hc
  ·exact k3
 have hord:∀ h∈i,h.1 < g.1∨(h.1=g.1∧m.1=false∧0 < rc m.2.1 h.2.1):=by
  intro h hh
  rcases e6 h hh with e | ⟨f1,f2,f3⟩
  ·exact .inl e
  ·have hm0:=hmc f2
   refine .inr ⟨f1,hm0,?_⟩
   have hle:=(hmf hm0).2.2 f2
   have hho:=(h3 h (by simp [hh])).2.2.1
   rcases Int.lt_or_le 0 (rc m.2.1 h.2.1) with k | k
   ·exact k
   ·have:=rc_trans ((cvB_shut f2).1 e4).1 ((cvB_shut hm0).1 hmet.1).1 hho hle k
    omega
 have hgm:∀ x∈g.2.2.1,x∈pre.map fun p=>p.1:=by
  intro x hx
  refine h2.mem_iff.1 ?_
  rw [sts_app,sts_one]
  exact List.mem_append_right _ hx
 refine ⟨hm,?_,?_,?_,.inr ⟨pre,p,i,_,rfl,rfl,hk,hmet.1,fun h=>⟨hs2.2 h,(hmf h).1,(hmf h).2.1⟩,hord⟩⟩
 ·rw [sts_app,sts_one] at h2
  rw [sts_app,sts_one,List.map_append]
  have k1:(sts i++insS p.1 g.2.2.1).Perm (sts i++(p.1::g.2.2.1)):=List.Perm.append_left _ (insS_perm _ _)
  have k2:(sts i++(p.1::g.2.2.1)).Perm (p.1::(sts i++g.2.2.1)):=List.perm_middle
  have k3:(p.1::(sts i++g.2.2.1)).Perm (p.1::pre.map fun p=>p.1):=h2.cons _
  refine k1.trans (k2.trans (k3.trans ?_))
  exact(List.perm_append_comm (l₁:=[p.1]) (l₂:=pre.map fun p=>p.1))
 ·intro x hx
  rcases List.mem_append.1 hx with hx | hx
  ·exact h3 x (List.mem_append_left _ hx)
  ·rw [List.mem_singleton] at hx
   subst hx
   have hg:=h3 g (by simp)
   refine ⟨hg.1,hs,hs2.1,?_,insS_asc hg.2.2.2.2 (fun h=>hnew (hgm _ h))⟩
   intro h0
   have:=(insS_perm p.1 g.2.2.1).length_eq
   have h0:insS p.1 g.2.2.1=[]:=h0
   rw [h0] at this
   simp at this
 ·rw [List.pairwise_append] at h4 ⊢
  refine ⟨h4.1,List.pairwise_singleton _ _,fun a ha b hb=>?_⟩
  rw [List.mem_singleton] at hb
  subst hb
  rcases hord a ha with k | ⟨k1,k2,k3⟩
  ·exact Or.inl k
  ·refine Or.inr ⟨k1,?_⟩
   have hbt:=hs2.2 k2
   have h0:=(h3 a (by simp [ha])).2.2.1
   rcases Int.lt_or_le (rc a.2.1 s) 0 with k | k
   ·exact k
   ·have k4:rc s a.2.1≤0:=by
     rcases Int.lt_or_le 0 (rc s a.2.1) with k5 | k5
     ·rw [← rc_swap] at k5; omega
     ·exact k5
    have:=rc_trans ((cvB_shut k2).1 hmet.1).1 hbt.1 h0 hbt.2.1 k4
    omega
end Go.Proofs.YtdhfajmcakneiaaGreat
