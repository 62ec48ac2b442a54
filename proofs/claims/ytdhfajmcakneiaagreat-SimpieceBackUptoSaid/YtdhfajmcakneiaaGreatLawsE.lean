/- The laws of the models, part E. -/
import Derived.Test.YtdhfajmcakneiaaGreatLawsD
set_option linter.unusedVariables false
set_option linter.unusedSimpArgs false
namespace Go.Proofs.YtdhfajmcakneiaaGreat
open Go.Eng
theorem jGroup_loop(F:Nat)(hF:Fuel F){src:List Pi}(hb:src.length≤1000)(hok:∀ p∈src,PcOk p)(hsrt:src.Pairwise Pre)(hnd:(src.map fun p=>p.1).Nodup):∀ (rest pre:List Pi) (l:List Gr) (c:Co),src=pre++rest→GI pre l c→∀ N,rest.length < N →
  ∃ l' c',GI src l' c'∧∀ (R:Type) (k8:List Gr→Option R),ref21_Join_l22 F k8 N src l c (pre.length:Int)=k8 l':=by
 intro rest
 induction rest with
 | nil =>
  intro pre l c he hg N hN
  obtain ⟨N,rfl⟩:∃ M,N=M+1:=⟨N - 1,by omega⟩
  have hp:src=pre:=by rw [he]; simp
  refine ⟨l,c,by rw [hp]; exact hg,fun R k8=>?_⟩
  have x1:ltI (pre.length:Int) (lenI src)=false:=by rw [← Bool.not_eq_true,ltI_true]; unfold lenI; rw [hp]; omega
  unfold ref21_Join_l22
  rw [x1,cond_false]
 | cons p rest ih =>
  intro pre l c he hg N hN
  obtain ⟨N,rfl⟩:∃ M,N=M+1:=⟨N - 1,by omega⟩
  simp only [List.length_cons] at hN
  have hlen:src.length=pre.length+1+rest.length:=by rw [he]; simp; omega
  have g:getL zP src (pre.length:Int)=p:=by rw [he]; exact getA_mid zP pre p rest
  have hp:=hok p (by rw [he]; simp)
  have hpre:∀ q∈pre,PcOk q:=fun q hq=>hok q (by rw [he]; simp [hq])
  have hps:∀ q∈pre,Pre q p:=fun q hq=>by
   rw [he] at hsrt
   exact(List.pairwise_append.1 hsrt).2.2 q hq p (by simp)
  have hnew:p.1 ∉ pre.map fun p=>p.1:=by
   rw [he,List.map_append] at hnd
   intro h
   exact(List.nodup_append.1 hnd).2.2 p.1 h p.1 (by simp) rfl
  have hpl:(((pre++[p]).length:Nat):Int)=(pre.length:Int)+1:=by simp
  have hll:l.length≤pre.length:=by
   have h1:=len_tot hg.2.2.1
   have h2:=hg.2.1.length_eq
   rw [sts_tot,List.length_map] at h2
   omega
  obtain ⟨m,ok,e1,hm,hm1,hm2⟩:=ref13_Meet_ok F hF hg.1 hp.2.2.2.1
  obtain ⟨s,e2,s1,s2⟩:=ref13_Choose_ok F hF hp.2.2.2.1
  have x1:ltI (pre.length:Int) (lenI src)=true:=by rw [ltI_true]; unfold lenI; omega
  have x2:inI (pre.length:Int) src.length=true:=by rw [inI_true]; omega
  have x3:roomB (l.length+1) 112=true:=by rw [roomB_true]; omega
  -- a new group
  have new:(∀ d q,pre=d++[q]→q.2.2.1=p.2.2.1→Apart c p.2.2.2.1)→∃ l' c',GI src l' c'∧∀ (R:Type) (k8:List Gr→Option R),
    ref21_Join_j30 F (fun z68 z69 z70 z71=>ref21_Join_l22 F k8 N z68 z69 z70 (addI .i64 z71 1)) src l c (pre.length:Int)=k8 l':=by
   intro hap
   have hgi:=hg.new hp hpre hps s1 (s2 hp.2.2.2.2) hap
   obtain ⟨l',c',r1,r2⟩:=ih (pre++[p]) _ _ (by rw [he]; simp) hgi N (by omega)
   refine ⟨l',c',r1,fun R k8=>?_⟩
   have e:=r2 R k8
   rw [hpl] at e
   unfold ref21_Join_j30
   simp only [x2,cond_true,g,e2,Option.bind_some,x3]
   rw [addI_i64 (by omega)]
   exact e
  by_cases h0:pre=[]
  ·have x4:ltI 0 (pre.length:Int)=false:=by rw [← Bool.not_eq_true,ltI_true,h0]; simp
   obtain ⟨l',c',r1,r2⟩:=new (fun d q h=>by rw [h0] at h; simp at h)
   refine ⟨l',c',r1,fun R k8=>?_⟩
   unfold ref21_Join_l22
   simp only [x1,x2,cond_true,g,e1,Option.bind_some,x4,cond_false]
   unfold ref21_Join_j27
   rw [cond_false]
   exact r2 R k8
  have x4:ltI 0 (pre.length:Int)=true:=by
   rw [ltI_true]
   have:pre.length≠0:=fun h=>h0 (List.length_eq_zero_iff.1 h)
   omega
  cases ok with
  | false =>
   obtain ⟨l',c',r1,r2⟩:=new (fun d q _ _=>hm2 rfl)
   refine ⟨l',c',r1,fun R k8=>?_⟩
   unfold ref21_Join_l22
   simp only [x1,x2,cond_true,g,e1,Option.bind_some,x4,cond_false]
   unfold ref21_Join_j27
   rw [cond_false]
   exact r2 R k8
  | true =>
   have hmet:=hm1 rfl
   obtain ⟨d,q,i,gr,q1,q2,q3,q4,q5,q6⟩:GL pre l c:=by
    rcases hg.2.2.2.2 with ⟨k,_⟩ | k
    ·exact absurd k h0
    ·exact k
   subst q2
   have hil:((i++[gr]).length:Int)=(i.length:Int)+1:=by simp
   have hll':i.length+1≤pre.length:=by rw [List.length_append,List.length_singleton] at hll; exact hll
   have y1:subI .i64 (lenI (i++[gr])) 1=(i.length:Int):=by unfold lenI; rw [hil,subI_i64 (by omega)]; omega
   have y2:inI (i.length:Int) (i++[gr]).length=true:=by rw [inI_true,hil]; omega
   have y3:getL zG (i++[gr]) (i.length:Int)=gr:=getA_mid zG i gr []
   by_cases hk:gr.1=p.2.2.1
   ·have y4:eqI gr.1 p.2.2.1=true:=eqI_true.2 hk
    obtain ⟨s',e3,t1,t2⟩:=ref13_Choose_ok F hF hm
    have hgi:=hg.grow q1 hp hpre hps t1 (t2 hmet.1) hm hmet hk hnew
    obtain ⟨l',c',r1,r2⟩:=ih (pre++[p]) _ _ (by rw [he]; simp) hgi N (by omega)
    refine ⟨l',c',r1,fun R k8=>?_⟩
    have e:=r2 R k8
    rw [hpl] at e
    have hgl:gr.2.2.1.length≤1000:=by
     have h2:=hg.2.1.length_eq
     rw [sts_app,sts_one,List.length_append,List.length_map] at h2
     omega
    have e4:=ref21_insert_eq F hF p.1 hgl
    have z1:setL (i++[gr]) (i.length:Int) (gr.1,(gr.2.1,(insS p.1 gr.2.2.1,gr.2.2.2)))=i++[(gr.1,(gr.2.1,(insS p.1 gr.2.2.1,())))]:=setA_mid i gr _ []
    have z2:inI (i.length:Int) (i++[(gr.1,(gr.2.1,(insS p.1 gr.2.2.1,())))]).length=true:=by rw [inI_true]; simp; omega
    have z3:getL zG (i++[(gr.1,(gr.2.1,(insS p.1 gr.2.2.1,())))]) (i.length:Int)=(gr.1,(gr.2.1,(insS p.1 gr.2.2.1,()))):=getA_mid zG i _ []
    have z4:setL (i++[(gr.1,(gr.2.1,(insS p.1 gr.2.2.1,())))]) (i.length:Int) (gr.1,(s',(insS p.1 gr.2.2.1,())))=i++[(gr.1,(s',(insS p.1 gr.2.2.1,())))]:=setA_mid i _ _ []
    unfold ref21_Join_l22
    simp only [x1,x2,cond_true,g,e1,Option.bind_some,x4,y1,y2,y3,y4]
    unfold ref21_Join_j27
    simp only [x2,cond_true,g,Option.bind_some,y2,y3,e4,z1,e3,z2,z3,z4]
    rw [addI_i64 (by omega)]
    exact e
   ·have y4:eqI gr.1 p.2.2.1=false:=by rw [← Bool.not_eq_true,eqI_true]; exact hk
    obtain ⟨l',c',r1,r2⟩:=new (fun d' q' h1 h2=>by
     exfalso
     rw [q1] at h1
     have:=List.append_inj_right' h1 rfl
     simp at this
     rw [← this] at h2
     omega)
    refine ⟨l',c',r1,fun R k8=>?_⟩
    unfold ref21_Join_l22
    simp only [x1,x2,cond_true,g,e1,Option.bind_some,x4,y1,y2,y3,y4]
    unfold ref21_Join_j27
    rw [cond_false]
    exact r2 R k8
structure LG (l:List Gr) (n:Int):Prop where
 ok:∀ g∈l,GrOk g
 srt:l.Pairwise lessP
 rng:∀ x∈sts l,0≤x∧x < n
 nd:(sts l).Nodup
 z:0∈sts l
 n1:1≤n∧n≤30
 len:(tot l:Int)≤n
theorem ref21_Join_ok(F:Nat)(hF:Fuel F){ps:List Pi}{n:Nat}(h:PA ps (n:Int))(hn:n≤30)(h1:1≤n):∃ l,ref21_Join F ps=some (l,0,())∧LG l n:=by
 obtain ⟨a1,a2,a3,a4⟩:=h
 have hok:∀ p∈ps,PcOk p:=fun p hp=>by
  obtain ⟨b1,b2,b3,b4,b5⟩:=a2 p hp
  exact ⟨b1,by omega,b3,b4,b5⟩
 obtain ⟨s,q1,q2,q3⟩:=jOut_loop F hF ps [] List.Pairwise.nil (by simpa using hok) (by simp; omega) F (by unfold Fuel at hF; omega)
 rw [List.nil_append] at q2
 have hsl:=q2.length_eq
 have hsok:∀ p∈s,PcOk p:=fun p hp=>hok p (q2.mem_iff.1 hp)
 have hmp:(s.map fun p=>p.1).Perm (ps.map fun p=>p.1):=q2.map _
 have hnd:(s.map fun p=>p.1).Nodup:=by
  rw [hmp.nodup_iff]
  unfold List.Nodup
  rw [List.pairwise_map]
  exact a3.imp (fun h=>by omega)
 have hgi:GI [] [] nC:=⟨⟨zR_ok,zR_ok⟩,List.Perm.refl _,(fun g hg=>by cases hg),List.Pairwise.nil,.inl ⟨rfl,rfl⟩⟩
 obtain ⟨l,c,r1,r2⟩:=jGroup_loop F hF (src:=s) (by omega) hsok q1 hnd s [] [] nC rfl hgi F (by unfold Fuel at hF; omega)
 obtain ⟨c1,c2,c3,c4,_⟩:=r1
 have hperm:(sts l).Perm (ps.map fun p=>p.1):=c2.trans hmp
 have hr:roomB (0+ps.length) 192=true:=by rw [roomB_true]; omega
 refine ⟨l,?_,c3,c4,?_,?_,?_,by omega,?_⟩
 ·unfold ref21_Join
  refine(jCheck_loop F hF _ _ (src:=ps) (by omega) hok a3 ps [] rfl F (by unfold Fuel at hF; omega)).trans ?_
  simp only [hr,cond_true]
  refine(q3 _ _).trans ?_
  exact r2 _ _
 ·intro x hx
  obtain ⟨p,hp,rfl⟩:=List.mem_map.1 (hperm.mem_iff.1 hx)
  obtain ⟨b1,b2,_⟩:=a2 p hp
  exact ⟨b1,b2⟩
 ·rw [c2.nodup_iff]; exact hnd
 ·obtain ⟨p,hp,h0⟩:=a4 (by omega)
  exact hperm.mem_iff.2 (List.mem_map.2 ⟨p,hp,h0⟩)
 ·have:=hperm.length_eq
  rw [sts_tot,List.length_map] at this
  omega
theorem made_Tape_Tolerance_ok(F:Nat)(hF:Fuel F){t:List Int×Int×Unit}(h:TapeOk t):∃ t' v,made_Tape_Tolerance F t=some (t',v,())∧TapeOk t'∧TolOk v:=by
 obtain ⟨t1,k,e1,h1,k0,k1⟩:=made_Tape_Next_ok F h (n:=8) (by omega)
 unfold made_Tape_Tolerance
 rw [e1]
 simp only [Option.bind_some]
 cases eqI k 0 with
 | true=>exact ⟨t1,0,rfl,h1,by unfold TolOk; omega⟩
 | false =>
  simp only [cond_false]
  cases eqI k 1 with
  | true =>
   obtain ⟨t2,v,e2,h2,v0,v1⟩:=made_Tape_Next_ok F h1 (n:=2) (by omega)
   rw [cond_true,e2]
   have e5:subI .i64 4611686018427387904 v=4611686018427387904 - v:=subI_i64 (by omega)
   exact ⟨t2,_,rfl,h2,by show TolOk (subI .i64 4611686018427387904 v); rw [e5]; unfold TolOk; omega⟩
  | false =>
   simp only [cond_false]
   cases eqI k 2 with
   | true =>
    obtain ⟨t2,w,e2,h2,w0,w1⟩:=made_Tape_Word_ok F hF h1
    obtain ⟨t3,v,e3,h3,v0,v1⟩:=made_Tape_Next_ok F h2 (n:=60) (by omega)
    have e4:addI .i64 2 v=2+v:=addI_i64 (by omega)
    have e5:IntKind.u64.wrap (2+v)=2+v:=wrap_u64 (by omega)
    have e6:ltI (2+v) 0=false:=by rw [← Bool.not_eq_true,ltI_true]; omega
    rw [cond_true,e2]
    simp only [Option.bind_some,e3,e4,e5,e6,cond_false]
    refine ⟨t3,_,rfl,h3,?_⟩
    have hs:0≤shrI .u64 w (2+v)∧shrI .u64 w (2+v)≤4611686018427387904:=by
     have hm:∃ m:Nat,2≤m∧shrI .u64 w (2+v)=((w.toNat / 2 ^ m:Nat):Int):=by
      rw [shrI_nat w0]
      refine ⟨min (2+v).toNat 64,by omega,?_⟩
      simp only [IntKind.bits]
     obtain ⟨m,hm1,hm2⟩:=hm
     rw [hm2]
     have h4:w.toNat / 2 ^ m≤w.toNat / 4:=Nat.div_le_div_left (by have:=Nat.pow_le_pow_right (n:=2) (by omega) hm1; omega) (by omega)
     generalize w.toNat / 2 ^ m=u at *
     omega
    rw [wrap_i64 (by omega)]
    exact hs
   | false =>
    obtain ⟨t2,v,e2,h2,v0,v1⟩:=made_Tape_Next_ok F h1 (n:=30) (by omega)
    rw [cond_false,e2]
    exact ⟨t2,v,rfl,h2,by unfold TolOk; omega⟩
theorem made_Tape_Some_ok(F:Nat)(hF:Fuel F){t:List Int×Int×Unit}(h:TapeOk t){n:Int}(hn:1≤n∧n≤100) :
  ∃ t' l,made_Tape_Some F t n=some (t',l,())∧TapeOk t'∧SmpOk l∧1≤l.length∧(l.length:Int)≤n∧incB (l.map fun s=>s.1)=true:=by
 obtain ⟨t1,l,e1,h1,h2,h3,h4⟩:=made_Tape_Samples_inc F hF h (n:=n) (by omega)
 unfold made_Tape_Some
 rw [e1]
 simp only [Option.bind_some]
 by_cases k:l.length=0
 ·have x1:eqI (lenI l) 0=true:=by rw [eqI_true]; unfold lenI; omega
  obtain ⟨t2,a,e2,g2,ha⟩:=made_Tape_Int_ok F hF h1
  obtain ⟨t3,b,e3,g3,hb⟩:=made_Tape_Int_ok F hF g2
  simp only [x1,cond_true,e2,e3,Option.bind_some]
  exact ⟨t3,_,rfl,g3,(fun s hs=>by rw [List.mem_singleton] at hs; subst hs; exact ⟨ha,hb⟩),by simp,by simp; omega,rfl⟩
 ·have x1:eqI (lenI l) 0=false:=by rw [← Bool.not_eq_true,eqI_true]; unfold lenI; omega
  rw [x1,cond_false]
  exact ⟨t1,l,rfl,h1,h2,by omega,h3,h4⟩
theorem law22_list_ok(F:Nat)(hF:Fuel F){t:List Int×Int×Unit}(h:TapeOk t):∃ t' l n,law22_list F t=some (t',l,n,())∧TapeOk t'∧LG l n:=by
 obtain ⟨t1,sm,e1,h1,h2,h3,h4,h5⟩:=made_Tape_Some_ok F hF h (n:=30) (by omega)
 obtain ⟨t2,tol,e2,g1,g2⟩:=made_Tape_Tolerance_ok F hF h1
 obtain ⟨ps,e3,k1⟩:=ref19_All_ok F hF h2 h5 (by omega) (fun h0=>by rw [h0] at h3; simp at h3) g2
 obtain ⟨l,e4,k2⟩:=ref21_Join_ok F hF k1 (by omega) (by omega)
 refine ⟨t2,l,(sm.length:Int),?_,g1,k2⟩
 unfold law22_list
 simp only [e1,e2,e3,e4,Option.bind_some]
 rfl
theorem get_setB{l:List Bool}{s y:Int}(hs:0≤s∧s < l.length)(hy:0≤y):getL false (setL l s true) y=if y=s then true else getL false l y:=by
 unfold getL setL
 rw [List.getD_eq_getElem?_getD,List.getD_eq_getElem?_getD,List.getElem?_set]
 by_cases c:y=s
 ·subst c
  rw [if_pos rfl,if_pos rfl,if_pos (by omega)]
  rfl
 ·rw [if_neg c,if_neg (by omega)]
theorem okS_run:∀ {t:List Int} {seen:List Bool} {p:Int},seen.length=4096→t.Pairwise (· < ·)→(∀ x∈t,p < x∧0≤x∧x < 4096∧getL false seen x=false) →
  ∃ s,okS seen p t=some s∧s.length=4096∧∀ y,0≤y→y ∉ t→getL false s y=getL false seen y
 | [],seen,p,hl,_,_=>⟨seen,rfl,hl,fun y _ _=>rfl⟩
 | x::t,seen,p,hl,hp,h=>by
  obtain ⟨h1,h2⟩:=List.pairwise_cons.1 hp
  obtain ⟨a1,a2,a3,a4⟩:=h x (by simp)
  have hg:∀ y,0≤y→getL false (setL seen x true) y=if y=x then true else getL false seen y:=fun y hy=>get_setB (by omega) hy
  obtain ⟨s,e,e2,e3⟩:=okS_run (t:=t) (seen:=setL seen x true) (p:=x) (by rw [length_setL]; exact hl) h2 (fun y hy=>by
   obtain ⟨b1,b2,b3,b4⟩:=h y (List.mem_cons_of_mem _ hy)
   have:=h1 y hy
   exact ⟨this,b2,b3,by rw [hg y b2,if_neg (by omega)]; exact b4⟩)
  refine ⟨s,?_,e2,fun y hy hny=>?_⟩
  ·rw [okS,if_pos ⟨a2,a3,a4,a1⟩]
   exact e
  ·simp only [List.mem_cons,not_or] at hny
   rw [e3 y hy hny.2,hg y hy,if_neg hny.1]
theorem okG_run:∀ {l:List Gr} {seen:List Bool} {p:Option Gr},seen.length=4096→(∀ g∈l,GrOk g)→l.Pairwise lessP→(∀ q,p=some q→∀ g∈l,lessP q g)→(∀ x∈sts l,0≤x∧x < 4096∧getL false seen x=false)→(sts l).Nodup→okG seen p l=true
 | [],_,_,_,_,_,_,_,_=>rfl
 | g::t,seen,p,hl,hok,hs,hp,hx,hnd=>by
  obtain ⟨g1,g2,g3,g4,g5⟩:=hok g (by simp)
  obtain ⟨s1,s2⟩:=List.pairwise_cons.1 hs
  have hst:sts (g::t)=g.2.2.1++sts t:=rfl
  rw [hst] at hx hnd
  obtain ⟨n1,n2,n3⟩:=List.nodup_append.1 hnd
  obtain ⟨s,e1,e2,e3⟩:=okS_run (t:=g.2.2.1) (p:=-1) hl g5 (fun x h=>by
   obtain ⟨a1,a2,a3⟩:=hx x (List.mem_append_left _ h)
   exact ⟨by omega,a1,a2,a3⟩)
  have ih:=okG_run (l:=t) (seen:=s) (p:=some g) e2 (fun x h=>hok x (List.mem_cons_of_mem _ h)) s2 (fun q hq x h=>by cases hq; exact s1 x h) (fun x h=>by
   obtain ⟨a1,a2,a3⟩:=hx x (List.mem_append_right _ h)
   refine ⟨a1,a2,?_⟩
   rw [e3 x a1 (fun h2=>n3 x h2 x h rfl)]
   exact a3) n2
  have hie:g.2.2.1.isEmpty=false:=by
   cases h:g.2.2.1 with
   | nil=>exact absurd h g4
   | cons a b=>rfl
  unfold okG
  rw [decide_eq_true g3,hie,e1]
  cases p with
  | none=>simpa using ih
  | some q =>
   have hq:=hp q rfl g (by simp)
   have hlt:lessG q g=true:=by
    unfold lessG
    rcases hq with h | ⟨h1,h2⟩
    ·rw [decide_eq_true h]; rfl
    ·rw [decide_eq_true h1,decide_eq_true h2]; simp
   simp only [hlt,Bool.true_and,Bool.not_false]
   exact ih
theorem LG.gok{l:List Gr}{n:Int}(h:LG l n):GOk l:=fun g hg=>by
 obtain ⟨g1,g2,g3,g4,g5⟩:=h.ok g hg
 have hm:∀ x∈g.2.2.1,0≤x∧x < n:=fun x hx=>h.rng x (by unfold sts; exact List.mem_flatMap.2 ⟨g,hg,hx⟩)
 have h1:=tot_mem hg
 have h2:=h.len
 have h3:=h.n1
 exact ⟨g1,g2,fun x hx=>by have:=hm x hx; unfold I64; omega,by omega⟩
theorem rep_get(n:Nat)(y:Int):getL false (List.replicate n false) y=false:=by
 unfold getL
 rw [List.getD_eq_getElem?_getD,List.getElem?_replicate]
 split <;> rfl
theorem LG.gv{l:List Gr}{n:Int}(h:LG l n):gvE l=0:=by
 have h1:=len_tot h.ok
 have h2:=h.len
 have h3:=h.n1
 have ho:okG (List.replicate 4096 false) none l=true:=by
  refine okG_run (List.length_replicate ..) h.ok h.srt (fun q hq=>by cases hq) (fun x hx=>?_) h.nd
  have:=h.rng x hx
  exact ⟨by omega,by omega,rep_get _ _⟩
 unfold gvE
 rw [if_neg (by omega),if_neg (by omega),if_pos ho]
theorem LG.hz{l:List Gr}{n:Int}(h:LG l n):hz l=true:=by
 obtain ⟨g,hg,h0⟩:=List.mem_flatMap.1 h.z
 unfold Go.Proofs.YtdhfajmcakneiaaGreat.hz
 rw [List.any_eq_true]
 refine ⟨g,hg,?_⟩
 obtain ⟨_,_,_,_,g5⟩:=h.ok g hg
 have hm:∀ x∈g.2.2.1,0≤x:=fun x hx=>(h.rng x (List.mem_flatMap.2 ⟨g,hg,hx⟩)).1
 cases hs:g.2.2.1 with
 | nil=>rw [hs] at h0; cases h0
 | cons s t =>
  rw [hs] at h0 g5 hm
  show eqI s 0=true
  rw [eqI_true]
  rcases List.mem_cons.1 h0 with h0 | h0
  ·exact h0.symm
  ·have:=(List.pairwise_cons.1 g5).1 0 h0
   have:=hm s (by simp)
   omega
/- what is encoded is read back -/
theorem shI_back{T:Int}:∀ {r:List Int} {next:Int} {more:List Int},Asc (next - 1) r→(∀ x∈r,x < T)→shI T r.length next (stp (next - 1) r++more)=some (r,more)
 | [],next,more,_,_=>rfl
 | s::t,next,more,h,hT=>by
  obtain ⟨⟨h1,h2,h3⟩,h4⟩:=h
  have hs:=hT s (by simp)
  have e:shI T t.length (s+1) (stp s t++more)=some (t,more):=by
   have:=shI_back (T:=T) (r:=t) (next:=s+1) (more:=more) (by rw [show s+1 - 1=s by omega]; exact h4) (fun x hx=>hT x (List.mem_cons_of_mem _ hx))
   rw [show s+1 - 1=s by omega] at this
   exact this
  show shI T (t.length+1) next ((s - (next - 1+1))::(stp s t++more))=_
  rw [shI,if_pos (by omega),show next+(s - (next - 1+1))+1=s+1 by omega,e]
  show some ((next+(s - (next - 1+1)))::t,more)=_
  rw [show next+(s - (next - 1+1))=s by omega]
theorem shA_back{T:Int}:∀ {l:List Gr},(∀ g∈l,Asc (-1) g.2.2.1∧∀ x∈g.2.2.1,x < T)→shA T (l.map fun g:Gr=>(g.2.2.1.length:Int)) (gst l)=some (l.map fun g:Gr=>g.2.2.1)
 | [],_=>rfl
 | g::t,h=>by
  obtain ⟨h1,h2⟩:=h g (by simp)
  have e:=shI_back (T:=T) (r:=g.2.2.1) (next:=0) (more:=gst t) h1 h2
  show(match shI T ((g.2.2.1.length:Nat):Int).toNat 0 (stp (-1) g.2.2.1++gst t) with
   | some r=>(match shA T (t.map fun g:Gr=>(g.2.2.1.length:Int)) r.2 with | some D=>some (r.1::D) | none=>none)
   | none=>none)=_
  rw [Int.toNat_natCast,show(-1:Int)=0 - 1 from rfl,e]
  simp only
  rw [shA_back (l:=t) (fun x hx=>h x (List.mem_cons_of_mem _ hx))]
  rfl
theorem fitR_back:∀ {l:List Int} {left:Int},Wd l→isum (mre l)≤left→fitR left l=some (left - isum (mre l))
 | [],left,_,_=>by simp [fitR,mre,isum]
 | x::t,left,hw,h=>by
  have hx:=Wd.head hw
  have ht:0≤isum (mre t):=by
   have:∀ l:List Int,Wd l→0≤isum (mre l):=by
    intro l
    induction l with
    | nil=>intro _; simp [mre,isum]
    | cons y l ih=>intro hw; have:=ih (Wd.tail hw); have:=Wd.head hw; simp only [mre,isum]; omega
   exact this t (Wd.tail hw)
  simp only [mre,isum] at h ⊢
  rw [fitR,if_pos (by omega),fitR_back (Wd.tail hw) (by omega)]
  congr 1
  omega
theorem isum_tot:∀ l:List Gr,isum (l.map fun g:Gr=>(g.2.2.1.length:Int))=(tot l:Int)
 | []=>rfl
 | g::t=>by simp only [List.map_cons,isum,tot,isum_tot t]; omega
def stripG(l:List Gr):List Gn:=l.map fun g=>(g.1,(g.2.1,((),())))
theorem strip_fill:∀ l:List Gr,fillG (stripG l) (l.map fun g:Gr=>g.2.2.1)=l
 | []=>rfl
 | g::t=>by
  show(g.1,(g.2.1,(g.2.2.1,())))::fillG (stripG t) (t.map fun g=>g.2.2.1)=_
  rw [strip_fill t]
theorem strip_nsl:∀ l:List Gr,nsl (stripG l)=gsl l
 | []=>rfl
 | g::t=>by show sp g.2.1++nsl (stripG t)=_; rw [strip_nsl t]; rfl
theorem strip_gk(l:List Gr):(stripG l).map (·.1)=gk l:=by unfold stripG gk; simp
theorem gDecode_back(F:Nat)(hF:Fuel F){l:List Gr}(h:GOk l)(hv:gvE l=0){T:Int}(hT:0≤T∧T≤4096)(htot:(tot l:Int)≤T)(hst:∀ g∈l,∀ x∈g.2.2.1,x < T)(hzz:hz l=true){b rest:List Int}(hb:Bt b)(hr:Bt rest)(hl:((b++(gB l++rest)).length:Int)≤140737488355328) :
  simpiece_Decode F (b++(gB l++rest)) (b.length:Int) T=some (l,(b.length:Int)+(gB l).length,0,()):=by
 obtain ⟨v1,v2,v3⟩:=gv_zero hv
 have hall:=okG_all v3
 have hne:∀ g∈l,g.2.2.1≠[]:=fun g hg=>(hall g hg).2.1
 have hlen:l.length≤tot l:=by
  have:∀ l:List Gr,(∀ g∈l,g.2.2.1≠[])→l.length≤tot l:=by
   intro l
   induction l with
   | nil=>intro _; simp [tot]
   | cons g t ih =>
    intro h
    have h1:=ih fun x hx=>h x (List.mem_cons_of_mem _ hx)
    have h3:g.2.2.1.length≠0:=fun h0=>h g (by simp) (List.length_eq_zero_iff.1 h0)
    simp only [tot,List.length_cons]; omega
  exact this l hne
 obtain ⟨s1,s2,s3⟩:=rE_small (gk_Sg h) (by rw [gk_length]; omega)
 have sl:=(gsl_small h).2
 have wz:=gsz_Wd v2 hne
 have ws:=gst_Wd (l:=l) (fun g hg=>(hall g hg).2.2)
 have nz:=nE_small wz (by rw [gsz_length]; omega)
 have nt:=nE_small ws (by rw [gst_length]; omega)
 have be:=enc_bt l.length
 have bz:=nE_bt wz
 have bt:=nE_bt ws
 -- the parts
 have hB:∀ x1 x2 x3 x4 x5:List Int,b++(x1++x2++x3++x4++x5++rest)=b++(x1++(x2++(x3++(x4++(x5++rest))))):=fun _ _ _ _ _=>by simp only [List.append_assoc]
 have hB1:∀ x1 x2 x3 x4 x5:List Int,b++(x1++x2++x3++x4++x5++rest)=(b++x1)++(x2++(x3++(x4++(x5++rest)))):=fun _ _ _ _ _=>by simp only [List.append_assoc]
 have hB2:∀ x1 x2 x3 x4 x5:List Int,b++(x1++x2++x3++x4++x5++rest)=(b++x1++x2)++(x3++(x4++(x5++rest))):=fun _ _ _ _ _=>by simp only [List.append_assoc]
 have hB3:∀ x1 x2 x3 x4 x5:List Int,b++(x1++x2++x3++x4++x5++rest)=(b++x1++x2++x3)++(x4++(x5++rest)):=fun _ _ _ _ _=>by simp only [List.append_assoc]
 have hB4:∀ x1 x2 x3 x4 x5:List Int,b++(x1++x2++x3++x4++x5++rest)=(b++x1++x2++x3++x4)++(x5++rest):=fun _ _ _ _ _=>by simp only [List.append_assoc]
 have hgB:gB l=enc l.length++rE (gk l)++gsl l++nE (gsz l)++nE (gst l):=rfl
 have hall2:Bt (b++(gB l++rest)):=by
  rw [hgB]
  exact hb.append (((((be.append s3).append sl).append bz).append bt).append hr)
 have hlx:((b++(gB l++rest)).length:Int)=b.length+(enc l.length).length+(rE (gk l)).length+(gsl l).length+(nE (gsz l)).length+(nE (gst l)).length+rest.length:=by
  rw [hgB]; simp only [List.length_append]; omega
 have p0:=Placed_eq F (b++(gB l++rest)) (b.length:Int) T
 rw [decide_eq_true ⟨by omega,by omega,hT.1,hT.2⟩] at p0
 have z0:eqI (0:Int) 0=true:=rfl
 have hwT:IntKind.u64.wrap T=T:=wrap_u64 (by omega)
 have hwn:IntKind.i64.wrap (l.length:Int)=(l.length:Int):=wrap_i64 (by omega)
 have y1:ltI T (l.length:Int)=false:=by rw [← Bool.not_eq_true,ltI_true]; omega
 -- the number
 have v:=varint_Read_eq F hF hall2 hl (b.length:Int)
 have e1:=rd_enc (v:=l.length) (by omega) b (rE (gk l)++(gsl l++(nE (gsz l)++(nE (gst l)++rest))))
 rw [← hB,← hgB] at e1
 rw [e1] at v
 have p1:records_Number F (b++(gB l++rest)) (b.length:Int) T=some ((l.length:Int),(b.length:Int)+(enc l.length).length,0,()):=by
  unfold records_Number
  simp only [v,Option.bind_some,z0,Bool.not_true,cond_false,hwT,y1,hwn]
 -- the keys
 have e2:=rDecode_back F hF (l:=gk l) (gk_Sg h) (by rw [gk_length]; omega) (b:=b++enc l.length) (rest:=gsl l++(nE (gsz l)++(nE (gst l)++rest))) (hb.append be) (sl.append (bz.append (bt.append hr))) (by rw [← hB1,← hgB]; exact hl)
 rw [← hB1,← hgB,List.length_append,Int.natCast_add,gk_length] at e2
 -- the slopes
 have e3:=rgs_back (rest:=nE (gsz l)++(nE (gst l)++rest)) (l:=stripG l) (b:=b++enc l.length++rE (gk l)) (fun g hg=>by
  obtain ⟨x,hx,rfl⟩:=List.mem_map.1 hg
  exact ⟨(h x hx).2.1,(hall x hx).1⟩)
 rw [strip_nsl,strip_gk,← hB2,← hgB,List.length_append,List.length_append,Int.natCast_add,Int.natCast_add] at e3
 have hmk:makeB (l.length:Int) (l.length:Int) 112=true:=by rw [makeB_true]; omega
 have hmk8:makeB (l.length:Int) (l.length:Int) 8=true:=by rw [makeB_true]; omega
 have p2:simpiece_groups F (b++(gB l++rest)) ((b.length:Int)+(enc l.length).length) (l.length:Int)=some (stripG l,(b.length:Int)+(enc l.length).length+(rE (gk l)).length+(gsl l).length,0,()):=by
  unfold simpiece_groups
  simp only [e2,Option.bind_some,z0,Bool.not_true,cond_false,hmk,cond_true]
  refine(gSlope_loop F hF _ _ hall2 hl (ks:=gk l) (by rw [gk_length]; omega) (gk l) [] _ [] (replI (l.length:Int) (zGn:Gn)) rfl rfl (by rw [replQ_length,gk_length]) F (by rw [gk_length]; unfold Fuel at hF; omega)).trans ?_
  rw [e3]
  simp only [if_true,List.nil_append]
 -- the sizes
 have e4:=nDecode_back F hF (l:=gsz l) wz (by rw [gsz_length]; omega) (b:=b++enc l.length++rE (gk l)++gsl l) (rest:=nE (gst l)++rest) (((hb.append be).append s3).append sl) (bt.append hr) (by rw [← hB3,← hgB]; exact hl)
 rw [← hB3,← hgB,gsz_length] at e4
 simp only [List.length_append,Int.natCast_add] at e4
 have hms:mre (gsz l)=l.map fun g=>(g.2.2.1.length:Int):=by rw [gsz_lens,mre_lss]
 have hfit:fitR T (gsz l)=some (T - tot l):=by
  have:=fitR_back (l:=gsz l) (left:=T) wz (by rw [hms,isum_tot]; exact htot)
  rw [hms,isum_tot] at this
  exact this
 obtain ⟨_,_,_,q4,_⟩:=fitR_le wz hT.1 hfit
 have hsat:=sat_fit hT.1 (gsz l) 0 wz (by omega) hT.1
 rw [Int.sub_zero,hfit] at hsat
 simp only at hsat
 have hsat:sat T 0 (gsz l)=(tot l:Int):=by omega
 have p3:records_Counts F (b++(gB l++rest)) ((b.length:Int)+(enc l.length).length+(rE (gk l)).length+(gsl l).length) (l.length:Int) T=some (l.map fun g=>(g.2.2.1.length:Int),(tot l:Int),(b.length:Int)+(enc l.length).length+(rE (gk l)).length+(gsl l).length+(nE (gsz l)).length,0,()):=by
  unfold records_Counts
  simp only [e4,Option.bind_some,z0,Bool.not_true,cond_false,hmk8,cond_true]
  refine(Counts_loop F _ hT _ wz (by rw [gsz_length]; omega) (gsz l) [] [] (replI (l.length:Int) 0) 0 rfl rfl (by rw [replI_length,gsz_length]) (by omega) F (by rw [gsz_length]; unfold Fuel at hF; omega)).trans ?_
  rw [hsat,mrm_fit q4,hms,List.nil_append]
 -- the steps
 have e5:=nDecode_back F hF (l:=gst l) ws (by rw [gst_length]; omega) (b:=b++enc l.length++rE (gk l)++gsl l++nE (gsz l)) (rest:=rest) ((((hb.append be).append s3).append sl).append bz) hr (by rw [← hB4,← hgB]; exact hl)
 rw [← hB4,← hgB,gst_length] at e5
 simp only [List.length_append,Int.natCast_add] at e5
 have y2:ltI T (tot l:Int)=false:=by rw [← Bool.not_eq_true,ltI_true]; omega
 -- the groups
 have hcs:∀ y∈(l.map fun g=>(g.2.2.1.length:Int)),1≤y∧y≤4096:=fun y hy=>by
  obtain ⟨g,hg,rfl⟩:=List.mem_map.1 hy
  have h1:=tot_mem hg
  have h2:g.2.2.1.length≠0:=fun h0=>hne g hg (List.length_eq_zero_iff.1 h0)
  omega
 obtain ⟨L',p4⟩:=simpiece_share_eq F hF hT (L:=stripG l) (cs:=l.map fun g=>(g.2.2.1.length:Int)) (steps:=gst l) hcs (by simp [stripG]) (by simp; omega) (by rw [isum_tot,gst_length]; omega) ws (by rw [gst_length]; omega)
 rw [shA_back (fun g hg=>⟨(hall g hg).2.2,hst g hg⟩)] at p4
 simp only [strip_fill] at p4
 have p5:=simpiece_Valid_eq F hF h (by omega)
 rw [hv] at p5
 have p6:=gContains_eq F hF hne (by omega)
 rw [hzz] at p6
 unfold simpiece_Decode
 simp only [p0,p1,p2,p3,Option.bind_some,z0,Bool.not_true,cond_false,y2,e5,p4,p5,p6]
 have hfin:(b.length:Int)+(enc l.length).length+(rE (gk l)).length+(gsl l).length+(nE (gsz l)).length+(nE (gst l)).length=(b.length:Int)+(gB l).length:=by
  rw [hgB]; simp only [List.length_append]; omega
 rw [hfin]
 cases ltI 0 T <;> rfl
theorem law22_known_true(F:Nat)(hF:Fuel F):law22_known F=some (true,()):=by
 unfold Fuel at hF
 obtain ⟨G,rfl⟩:∃ G,F=G+400:=⟨F - 400,by omega⟩
 kernel_rfl
theorem gB_small{l:List Gr}(h:GOk l)(hv:gvE l=0):(gB l).length≤2000000∧Bt (gB l):=by
 obtain ⟨v1,v2,v3⟩:=gv_zero hv
 have hall:=okG_all v3
 obtain ⟨s1,s2,s3⟩:=rE_small (gk_Sg h) (by rw [gk_length]; omega)
 obtain ⟨g1,g2⟩:=gsl_small h
 have wz:=gsz_Wd v2 (fun g hg=>(hall g hg).2.1)
 have ws:=gst_Wd (l:=l) (fun g hg=>(hall g hg).2.2)
 have hz:=nE_small wz (by rw [gsz_length]; omega)
 have hst:=nE_small ws (by rw [gst_length]; omega)
 have h10:=enc_le10 (v:=l.length) (by omega)
 unfold gB
 refine ⟨by simp only [List.length_append]; omega,?_⟩
 exact(((((enc_bt _).append s3).append g2).append (nE_bt wz)).append (nE_bt ws))
theorem LG.B{l:List Gr}{n:Int}(h:LG l n):(gB l).length≤4000∧Bt (gB l):=by
 refine ⟨?_,(gB_small h.gok h.gv).2⟩
 obtain ⟨v1,v2,v3⟩:=gv_zero h.gv
 have hall:=okG_all v3
 have h1:=len_tot h.ok
 have h2:=h.len
 have h3:=h.n1
 have a1:=rE_le (gk_Sg h.gok)
 have a2:=(gsl_small h.gok).1
 have a3:=nE_le (gsz_Wd v2 (fun g hg=>(hall g hg).2.1))
 have a4:=nE_le (gst_Wd (l:=l) (fun g hg=>(hall g hg).2.2))
 have h10:=enc_le10 (v:=l.length) (by omega)
 rw [gk_length] at a1
 rw [gsz_length] at a3
 rw [gst_length] at a4
 unfold gB
 simp only [List.length_append]
 omega
theorem gE_of{l:List Gr}(h:gvE l=0):gE l=(gB l,0):=by unfold gE; rw [if_pos h]
/- groups are the same as themselves -/
theorem SameIn_loop(F:Nat){R:Type}(k2:List Gr→List Gr→Int→Option R)(kr:Bool→Option R){l:List Gr}{i:Int}{g:Gr}(hi:inI i l.length=true)(hg:getL zG l i=g)(hb:(g.2.2.1.length:Int)≤140737488355328):∀ (m j:Nat),j+m=g.2.2.1.length→∀ N,m < N →
  ref21_Same_l9 F k2 kr N l l i (j:Int)=k2 l l i:=by
 intro m
 induction m with
 | zero =>
  intro j h N hN
  obtain ⟨N,rfl⟩:∃ M,N=M+1:=⟨N - 1,by omega⟩
  have x1:ltI (j:Int) (lenI g.2.2.1)=false:=by rw [← Bool.not_eq_true,ltI_true]; unfold lenI; omega
  unfold ref21_Same_l9
  rw [hi,cond_true,hg,x1,cond_false]
 | succ m ih =>
  intro j h N hN
  obtain ⟨N,rfl⟩:∃ M,N=M+1:=⟨N - 1,by omega⟩
  have x1:ltI (j:Int) (lenI g.2.2.1)=true:=by rw [ltI_true]; unfold lenI; omega
  have x2:inI (j:Int) g.2.2.1.length=true:=by rw [inI_true]; omega
  have x3:eqI (getL 0 g.2.2.1 (j:Int)) (getL 0 g.2.2.1 (j:Int))=true:=eqI_true.2 rfl
  have e:=ih (j+1) (by omega) N (by omega)
  unfold ref21_Same_l9
  simp only [hi,cond_true,hg,x1,x2,x3,Bool.not_true,cond_false]
  rw [addI_i64 (by omega)]
  exact e
theorem SameOut_loop(F:Nat)(hF:Fuel F){R:Type}(k0:Option R)(kr:Bool→Option R){l:List Gr}(hl:GOk l)(hb:(l.length:Int)≤140737488355328):∀ (rest pre:List Gr),l=pre++rest→∀ N,rest.length < N →
  ref21_Same_l4 F k0 kr N l l (pre.length:Int)=k0:=by
 intro rest
 induction rest with
 | nil =>
  intro pre he N hN
  obtain ⟨N,rfl⟩:∃ M,N=M+1:=⟨N - 1,by omega⟩
  have hlen:l.length=pre.length:=by rw [he]; simp
  have x1:ltI (pre.length:Int) (lenI l)=false:=by rw [← Bool.not_eq_true,ltI_true]; unfold lenI; omega
  unfold ref21_Same_l4
  rw [x1,cond_false]
 | cons x rest ih =>
  intro pre he N hN
  obtain ⟨N,rfl⟩:∃ M,N=M+1:=⟨N - 1,by omega⟩
  simp only [List.length_cons] at hN
  have hlen:l.length=pre.length+1+rest.length:=by rw [he]; simp; omega
  have g:getL zG l (pre.length:Int)=x:=by rw [he]; exact getG_mid pre x rest
  have hx:=(hl x (by rw [he]; simp)).2.2.2
  have hpl:(((pre++[x]).length:Nat):Int)=(pre.length:Int)+1:=by simp
  have e:=ih (pre++[x]) (by rw [he]; simp) N (by omega)
  rw [hpl] at e
  have x1:ltI (pre.length:Int) (lenI l)=true:=by rw [ltI_true]; unfold lenI; omega
  have x2:inI (pre.length:Int) l.length=true:=by rw [inI_true]; omega
  have x3:eqI x.1 x.1=true:=eqI_true.2 rfl
  have x4:eqI (lenI x.2.2.1) (lenI x.2.2.1)=true:=eqI_true.2 rfl
  have x5:eqT (.pair tyW (.pair tyW .unit)) x.2.1 x.2.1=true:=by rw [eqRt]; exact decide_eq_true rfl
  have e9:=SameIn_loop F (fun z26 z27 z28=>ref21_Same_l4 F k0 kr N z26 z27 (addI .i64 z28 1)) (fun z30=>kr z30) x2 g hx x.2.2.1.length 0 (by omega) F (by unfold Fuel at hF; omega)
  have e9:ref21_Same_l9 F (fun z26 z27 z28=>ref21_Same_l4 F k0 kr N z26 z27 (addI .i64 z28 1)) (fun z30=>kr z30) F l l (pre.length:Int) 0=_:=e9
  unfold ref21_Same_l4
  simp only [x1,x2,cond_true,g,x3,x5,x4,Bool.not_true,cond_false]
  rw [e9,addI_i64 (by omega)]
  exact e
theorem ref21_Same_self(F:Nat)(hF:Fuel F){l:List Gr}(hl:GOk l)(hb:(l.length:Int)≤140737488355328):ref21_Same F l l=some (true,()):=by
 unfold ref21_Same
 have x:eqI (lenI l) (lenI l)=true:=eqI_true.2 rfl
 rw [x,Bool.not_true,cond_false]
 exact SameOut_loop F hF _ _ hl hb l [] rfl F (by unfold Fuel at hF; omega)
theorem SimpieceBack_true(F:Nat)(hF:Fuel F){b rest t:List Int}(hb:Bt b)(hbl:(b.length:Int)≤1048576)(hr:Bt rest)(hrl:(rest.length:Int)≤1048576)(ht:∀ x∈t,I64 x)(htl:(t.length:Int)≤140737488355328) :
  law22_SimpieceBack F t b rest=some (true,()):=by
 obtain ⟨t0,e0,h0⟩:=made_New_ok F htl ht
 obtain ⟨t1,l,n,e1,h1,hl⟩:=law22_list_ok F hF h0
 have hn:=hl.n1
 have hlt:=hl.len
 have hll:=len_tot hl.ok
 have e2:=simpiece_Encode_eq F hF hl.gok (by omega)
 rw [gE_of hl.gv] at e2
 obtain ⟨hs,hB⟩:=hl.B
 have hlen:(b++(gB l++rest)).length=b.length+((gB l).length+rest.length):=by simp
 have e3:=gDecode_back F hF hl.gok hl.gv (T:=n) (by omega) hlt (fun g hg x hx=>(hl.rng x (List.mem_flatMap.2 ⟨g,hg,hx⟩)).2) hl.hz hb hr (by omega)
 have e4:=ref21_Same_self F hF hl.gok (by omega)
 have hA:([]++b:List Int)=b:=rfl
 unfold law22_SimpieceBack
 simp only [e0,e1,e2,Option.bind_some,hA,List.append_assoc]
 generalize gB l=c at *
 have c1:roomB (0+b.length) 1=true:=by rw [roomB_true]; omega
 have c2:roomB (b.length+c.length) 1=true:=by rw [roomB_true]; omega
 have c3:roomB ((b++c).length+rest.length) 1=true:=by rw [roomB_true]; simp; omega
 have c4:eqI ((b.length:Int)+c.length) (addI .i64 (b.length:Int) (lenI c))=true:=by
  rw [eqI_true]
  show _=IntKind.wrap .i64 _
  rw [wrap_i64 (by unfold lenI; omega)]
  rfl
 simp only [c1,c2,c3,cond_true,show lenI b=(b.length:Int) from rfl,e3,Option.bind_some,law22_known_true F hF,show eqI (0:Int) 0=true from rfl,c4,e4]
end Go.Proofs.YtdhfajmcakneiaaGreat
