/- The laws of the models, part E. -/
import Derived.Test.YtdhfajmcakneiaaGreatLawsD
set_option linter.unusedVariables false
set_option linter.unusedSimpArgs false
namespace Go.Proofs.YtdhfajmcakneiaaGreat
open Go.Eng
theorem Z1(F:Nat)(hF:A4 F):Pm F=some (true,()):=by
 unfold A4 at hF
 obtain ⟨G,rfl⟩:∃ G,F=G+400:=⟨F - 400,by omega⟩
 kernel_rfl
theorem AmH{l:List Gr}(h:GOk l)(hv:gvE l=0):(gB l).length≤2000000∧Bt (gB l):=by
 obtain ⟨v1,v2,v3⟩:=AbV hv
 have hall:=AbT v3
 obtain ⟨s1,s2,s3⟩:=AfC (AuP h) (by rw [Ub]; omega)
 obtain ⟨g1,g2⟩:=Xi h
 have wz:=ArW v2 (fun g hg=>(hall g hg).2.1)
 have ws:=Amv (l:=l) (fun g hg=>(hall g hg).2.2)
 have hz:=Jz wz (by rw [Ut]; omega)
 have hst:=Jz ws (by rw [Q6]; omega)
 have h10:=W0 (v:=l.length) (by omega)
 unfold gB
 refine ⟨by simp only [List.length_append]; omega,?_⟩
 exact(((((Am8 _).append s3).append g2).append (AzX wz)).append (AzX ws))
theorem LG.B{l:List Gr}{n:Int}(h:LG l n):(gB l).length≤4000∧Bt (gB l):=by
 refine ⟨?_,(AmH h.gok h.gv).2⟩
 obtain ⟨v1,v2,v3⟩:=AbV h.gv
 have hall:=AbT v3
 have h1:=Ac1 h.ok
 have h2:=h.len
 have h3:=h.n1
 have a1:=A7C (AuP h.gok)
 have a2:=(Xi h.gok).1
 have a3:=A02 (ArW v2 (fun g hg=>(hall g hg).2.1))
 have a4:=A02 (Amv (l:=l) (fun g hg=>(hall g hg).2.2))
 have h10:=W0 (v:=l.length) (by omega)
 rw [Ub] at a1
 rw [Ut] at a3
 rw [Q6] at a4
 unfold gB
 simp only [List.length_append]
 omega
theorem A3V{l:List Gr}(h:gvE l=0):gE l=(gB l,0):=by unfold gE; rw [iP h]
theorem Aip(F:Nat){n:Int}(hn:0≤n∧n≤2):∀ (m:Nat) (t:List Int×Int×Unit) (b:List Int) (i:Int),Eh t→Bt b→b.length≤17 - m→i+m=n+1→0≤i→∀ N,m < N →
  ∃ t' b',Eh t'∧Bt b'∧b'.length≤17∧∀ (R:Type) (k:List Int×Int×Unit→List Int→Option R),Ig F k N t n b i=k t' b':=by
 intro m
 induction m with
 | zero =>
  intro t b i ht hb hl hi h0 N hN
  obtain ⟨N,rfl⟩:∃ M,N=M+1:=⟨N - 1,by omega⟩
  refine ⟨t,b,ht,hb,by omega,fun R k=>?_⟩
  have x1:leI i n=false:=decide_eq_false (by omega)
  unfold Ig
  rw [x1,cF]
 | succ m ih =>
  intro t b i ht hb hl hi h0 N hN
  obtain ⟨N,rfl⟩:∃ M,N=M+1:=⟨N - 1,by omega⟩
  obtain ⟨t1,v,e1,h1,_,_⟩:=Am F ht (n:=4) (by omega)
  have hw:=Hp v
  obtain ⟨t',b',g1,g2,g3,g4⟩:=ih t1 (b++[IntKind.wrap .u8 v]) (i+1) h1 (hb.append (fun x hx=>by simp at hx; omega)) (by simp; omega) (by omega) (by omega) N (by omega)
  refine ⟨t',b',g1,g2,g3,fun R k=>?_⟩
  have x1:leI i n=true:=decide_eq_true (by omega)
  have x2:Bh (b.length+1) 1=true:=by rw [Cn]; omega
  unfold Ig
  simp only [x1,cT,e1,bS,x2]
  rw [Bd (by omega)]
  exact g4 R k
theorem Acl(F:Nat)(hF:A4 F){t:List Int×Int×Unit}(h:Eh t):∃ t' b,Pn F t=some (t',b,())∧Eh t'∧Bt b∧b.length≤17:=by
 obtain ⟨t1,v1,e1,h1,a0,a1⟩:=Am F h (n:=3) (by omega)
 obtain ⟨t2,v2,e2,h2,b0,b1⟩:=Am F h1 (n:=6) (by omega)
 obtain ⟨t3,v3,e3,h3,c0,c1⟩:=Am F h2 (n:=5) (by omega)
 obtain ⟨t4,v4,e4,h4,d0,d1⟩:=Am F h3 (n:=3) (by omega)
 have w1:=Hp v1
 have w2:=Hp v2
 have w3:=Hp v3
 have w4:=Hp (Iv .i64 2 v4)
 have hB:Bt [1,0,0,IntKind.wrap .u8 v2,IntKind.wrap .u8 v3,IntKind.wrap .u8 (Iv .i64 2 v4),0,IntKind.wrap .u8 v1,0]:=fun x hx=>by
  simp only [List.mem_cons,List.not_mem_nil,or_false] at hx
  omega
 obtain ⟨t',b',g1,g2,g3,g4⟩:=Aip F (n:=v1) (by omega) (v1+1).toNat t4 _ 0 h4 hB (by simp; omega) (by omega) (by omega) F (by unfold A4 at hF; omega)
 refine ⟨t',b',?_,g1,g2,g3⟩
 unfold Pn
 simp only [e1,e2,e3,e4,bS]
 exact g4 _ _
theorem Ao0(F:Nat){R:Type}(k:List (List Int)→List Int→Int→List Gr→Int→Bool→Option R)(ls:List (List Int))(ns:List Int)(i0 end_:Int){x:List Gr}(hx:x.length≤4096)(hg:GOk x):∀ (rest pre:List Gr) (z:Bool),x=pre++rest→∀ N,rest.length < N →
  Bj F k N ls ns i0 x end_ z (pre.length:Int)=k ls ns i0 x end_ (z || hz rest):=by
 intro rest
 induction rest with
 | nil =>
  intro pre z he N hN
  obtain ⟨N,rfl⟩:∃ M,N=M+1:=⟨N - 1,by omega⟩
  have hlen:x.length=pre.length:=by rw [he]; simp
  have x1:ltI (pre.length:Int) (Au x)=false:=by rw [← Bool.not_eq_true,Ah]; unfold Au; omega
  unfold Bj
  rw [x1,cF]
  show _=k ls ns i0 x end_ (z || false)
  rw [Bool.or_false]
 | cons y rest ih =>
  intro pre z he N hN
  obtain ⟨N,rfl⟩:∃ M,N=M+1:=⟨N - 1,by omega⟩
  simp only [List.length_cons] at hN
  have hlen:x.length=pre.length+1+rest.length:=by rw [he]; simp; omega
  have g:Ak zG x (pre.length:Int)=y:=by rw [he]; exact Oy pre y rest
  have hy:=(hg y (by rw [he]; simp)).2.2.2
  have hpl:(((pre++[y]).length:Nat):Int)=(pre.length:Int)+1:=by simp
  have e:=fun z=>ih (pre++[y]) z (by rw [he]; simp) N (by omega)
  rw [hpl] at e
  have x1:ltI (pre.length:Int) (Au x)=true:=by rw [Ah]; unfold Au; omega
  have x2:inI (pre.length:Int) x.length=true:=by rw [Bo]; omega
  have xa:As .i64 (pre.length:Int) 1=(pre.length:Int)+1:=Bd (by omega)
  have hh:hz (y::rest)=(hdz y.2.2.1 || hz rest):=rfl
  rw [hh]
  unfold Bj
  cases z with
  | true =>
   simp only [x1,cT,xa]
   rw [e true,Bool.true_or,Bool.true_or]
  | false =>
   simp only [x1,cT,cF,x2,g,xa]
   cases hs:y.2.2.1 with
   | nil =>
    have x3:ltI 0 (Au ([]:List Int))=false:=rfl
    rw [x3,cF,e false]
    rfl
   | cons s t =>
    rw [hs] at hy
    have x3:ltI 0 (Au (s::t))=true:=by rw [Ah]; unfold Au; simp only [List.length_cons]; omega
    have x4:inI 0 (s::t).length=true:=by rw [Bo]; simp only [List.length_cons]; omega
    have x5:Ak 0 (s::t) 0=s:=rfl
    rw [x3,cT,x4,cT,x5,e (eqI s 0),Bool.false_or]
    rfl
theorem Fr(F:Nat)(hF:A4 F){R:Type}(k0:Option R)(kret:Bool→Option R){b:List Int}(hb:Bt b)(hbl:(b.length:Int)≤140737488355328){ls:List (List Int)}{ns:List Int}{i:Nat}(hi:i < ls.length)(hi2:i < ns.length)(hil:(ls.length:Int)≤1000)(hg:Ak [] ls (i:Int)=b)(N:Nat) :
  A9 F k0 kret (N+1) ls ns (i:Int)=A9 F k0 kret N ls ns ((i:Int)+1):=by
 obtain ⟨x,end_,e,h1,_,hx,h3,h4⟩:=A08 F hF hb hbl (fun h hl=>Acj F hF h (by omega)) 0 (Ak 0 ns (i:Int))
 have x1:ltI (i:Int) (Au ls)=true:=by rw [Ah]; unfold Au; omega
 have x2:inI (i:Int) ls.length=true:=by rw [Bo]; omega
 have x3:inI (i:Int) ns.length=true:=by rw [Bo]; omega
 have xa:As .i64 (i:Int) 1=(i:Int)+1:=Bd (by omega)
 conv=>lhs; unfold A9
 by_cases c:e=0
 ·obtain ⟨_,g2,g3,g4,g5,g6,g7,g8⟩:=h3 c
  rw [AuC] at g7
  obtain ⟨v1,v2,v3⟩:=AbV g6
  have e2:=Qf F hF hx (by omega)
  have e2v:=Nh F hF hx (by omega)
  have hs:=(AmH hx g6).1
  rw [A3V g6] at e2
  rw [g6] at e2v
  have e3:=Lu F hF (a:=gB x) (b:=B0 b end_) (by omega)
  rw [decide_eq_true g7] at e3
  have x4:eqI e 0=true:=by rw [Ao]; exact c
  have x5:ltI (Au b) end_=false:=by rw [← Bool.not_eq_true,Ah]; unfold Au; omega
  have x6:J1 0 end_ b.length=true:=by rw [Wk]; omega
  have x7:(eqI (Ak 0 ns (i:Int)) 0 || hz x)=true:=by
   rcases g8 with h | h
   ·rw [Ao.2 h]; rfl
   ·rw [h,Bool.or_true]
  simp only [x1,x2,x3,cT,hg,h1,bS,x4,Bool.not_true,cF]
  refine(Ao0 F _ ls ns (i:Int) end_ v1 hx x [] (eqI (Ak 0 ns (i:Int)) 0) rfl F (by unfold A4 at hF; omega)).trans ?_
  rw [x7,e2]
  simp only
  generalize gB x=d at *
  have z0:eqI (0:Int) 0=true:=rfl
  simp only [bS,z0,Bool.not_true,cF,e2v,x3,cT,x2]
  rw [hg]
  simp only [x5,x6,cT,cF,e3,bS,Bool.not_true,xa]
 ·have x4:eqI e 0=false:=by rw [← Bool.not_eq_true,Ao]; exact c
  simp only [x1,x2,x3,cT,hg,h1,bS,x4,Bool.not_false,xa]
theorem Te(F:Nat)(hF:A4 F){b t:List Int}{n:Int}(hb:Bt b)(hbl:(b.length:Int)≤140737488351232)(hn:I64 n)(ht:∀ x∈t,I64 x)(htl:(t.length:Int)≤140737488355328) :
  Hy F b n t=some (true,()):=by
 obtain ⟨t0,e0,h0⟩:=Ajj F htl ht
 obtain ⟨t1,l,m0,e1,h1,hl⟩:=AfX F hF h0
 have hn1:=hl.n1
 have hlt:=hl.len
 have hll:=Ac1 hl.ok
 have e2:=Qf F hF hl.gok (by omega)
 rw [A3V hl.gv] at e2
 obtain ⟨s1,s3⟩:=hl.B
 obtain ⟨m,e3,hm0,hm⟩:=Y5 F hn (y:=20) (by omega)
 generalize gB l=d at *
 obtain ⟨t2,sm,e4,h2,hsm,hsl⟩:=Acl F hF h1
 obtain ⟨t3,c,e5,h3,hc,hcl⟩:=Uw F h2 s3 (by omega)
 obtain ⟨t4,v,e6,h4,_,_⟩:=Am F h3 (n:=6) (by omega)
 obtain ⟨G,hG⟩:∃ G,F=G+1+1+1+1+1:=⟨F - 5,by unfold A4 at hF; omega⟩
 have fin:∀ (R:Type) (k0:Option R) (kret:Bool→Option R) (ns:List Int),ns.length=4→A9 F k0 kret F [b,sm,c,d] ns 0=k0:=by
  intro R k0 kret ns hns
  have s0:=fun N=>Fr F hF k0 kret hb (by omega) (ls:=[b,sm,c,d]) (ns:=ns) (i:=0) (by simp) (by omega) (by simp) rfl N
  have s1:=fun N=>Fr F hF k0 kret hsm (by omega) (ls:=[b,sm,c,d]) (ns:=ns) (i:=1) (by simp) (by omega) (by simp) rfl N
  have s2:=fun N=>Fr F hF k0 kret hc (by omega) (ls:=[b,sm,c,d]) (ns:=ns) (i:=2) (by simp) (by omega) (by simp) rfl N
  have s3:=fun N=>Fr F hF k0 kret s3 (by omega) (ls:=[b,sm,c,d]) (ns:=ns) (i:=3) (by simp) (by omega) (by simp) rfl N
  have s4:∀ N,A9 F k0 kret (N+1) [b,sm,c,d] ns 4=k0:=by
   intro N
   unfold A9
   have hx:ltI (4:Int) (Au [b,sm,c,d])=false:=rfl
   rw [hx,cF]
  have h:=((s0 (G+1+1+1+1)).trans ((s1 (G+1+1+1)).trans ((s2 (G+1+1)).trans ((s3 (G+1)).trans (s4 G)))))
  rw [← hG] at h
  exact h
 unfold Hy
 simp only [e0,e1,e2,e3,e4,e5,e6,bS,Z1 F hF]
 exact fin _ _ _ _ rfl
end Go.Proofs.YtdhfajmcakneiaaGreat
