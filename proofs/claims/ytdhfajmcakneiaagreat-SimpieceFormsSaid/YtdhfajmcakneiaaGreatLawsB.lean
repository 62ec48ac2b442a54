/- The laws of the models, part B. -/
import Derived.Test.YtdhfajmcakneiaaGreatLawsA
import Derived.Test.YtdhfajmcakneiaaGreatEngE
set_option linter.unusedVariables false
set_option linter.unusedSimpArgs false
namespace Go.Proofs.YtdhfajmcakneiaaGreat
open Go.Eng
theorem A7t{l:List Int}(hl:Wd l){i:Nat}(hi:i < l.length):∃ v:Nat,B1 0 l (i:Int)=(v:Int)∧v < 2 ^ 64∧(enc v).length≤10∧B4t (l.drop i)=enc v++B4t (l.drop (i+1)):=by
 have hx:=hl.get (i:Int)
 obtain ⟨v,hv⟩:=Int.eq_ofNat_of_zero_le hx.1
 have hv64:v < 2 ^ 64:=by omega
 refine ⟨v,hv,hv64,A5V hv64,?_⟩
 rw [A7n hi,B4t]
 have:l.getD i 0=(v:Int):=by rw [← A0E]; exact hv
 rw [this]; rfl
theorem C39(F:Nat){R:Type}(k:List Int→Int→Option R)(x0:List Int){l:List Int}(hl:Wd l)(hb:l.length≤65536):∀ (m i z:Nat),i+m=l.length→z≤1+10*i →
  ∀ N,m < N→T0 F k N x0 (z:Int) l (l.length:Int) (i:Int)=k x0 ((z+(B4t (l.drop i)).length:Nat):Int):=by
 intro m
 induction m with
 | zero =>
  intro i z hi hz N hN
  obtain ⟨N,rfl⟩:∃ M,N=M+1:=⟨N - 1,by omega⟩
  rw [List.drop_eq_nil_of_le (by omega)]
  unfold T0
  simp (disch:=omega) only [bs,↓iP,↓iN]
  rfl
 | succ m ih =>
  intro i z hi hz N hN
  obtain ⟨N,rfl⟩:∃ M,N=M+1:=⟨N - 1,by omega⟩
  obtain ⟨v,hv,hv64,h10,hd⟩:=A7t hl (i:=i) (by omega)
  have e:=ih (i+1) (z+(enc v).length) (by omega) (by omega) N (by omega)
  simp only [Int.natCast_add,Int.natCast_one] at e
  rw [hd,List.length_append,← Nat.add_assoc,Int.natCast_add,Int.natCast_add]
  unfold T0
  simp (disch:=omega) only [bs,↓iP,↓iN,hv,B1e F hv64]
  exact e
theorem C71(F:Nat)(hF:D9 F){R:Type}(k:List Int→Option R){l:List Int}(hl:Wd l)(hb:l.length≤65536):∀ (m i:Nat) (out:List Int),i+m=l.length→out.length≤1+10*i →
  ∀ N,m < N→P8 F k N out l (l.length:Int) (i:Int)=k (out++B4t (l.drop i)):=by
 intro m
 induction m with
 | zero =>
  intro i z hi hz N hN
  obtain ⟨N,rfl⟩:∃ M,N=M+1:=⟨N - 1,by omega⟩
  rw [List.drop_eq_nil_of_le (by omega)]
  unfold P8
  simp (disch:=omega) only [bs,↓iP,↓iN]
  simp [B4t]
 | succ m ih =>
  intro i z hi hz N hN
  obtain ⟨N,rfl⟩:∃ M,N=M+1:=⟨N - 1,by omega⟩
  obtain ⟨v,hv,hv64,h10,hd⟩:=A7t hl (i:=i) (by omega)
  have e:=ih (i+1) (z++enc v) (by omega) (by simp; omega) N (by omega)
  simp only [Int.natCast_add,Int.natCast_one] at e
  rw [hd,← List.append_assoc]
  unfold P8
  simp (disch:=omega) only [bs,↓iP,↓iN,hv,A4U F hF (b:=[]) (by simp [B4V]) hv64,List.nil_append]
  exact e
theorem C3a(F:Nat)(hF:D9 F){R:Type}(k:List Int→Int→Option R){l:List Int}(hl:Wd l)(hb:l.length≤65536):∀ (m i z:Nat),i+m=l.length→z≤1+10*i →
  ∀ N,m < N→Y0 F k N l (z:Int) (i:Int)=k l ((z+(B4t (l.drop i)).length:Nat):Int):=by
 intro m
 induction m with
 | zero =>
  intro i z hi hz N hN
  obtain ⟨N,rfl⟩:∃ M,N=M+1:=⟨N - 1,by omega⟩
  rw [List.drop_eq_nil_of_le (by omega)]
  unfold Y0
  simp (disch:=omega) only [bs,↓iP,↓iN]
  rfl
 | succ m ih =>
  intro i z hi hz N hN
  obtain ⟨N,rfl⟩:∃ M,N=M+1:=⟨N - 1,by omega⟩
  obtain ⟨v,hv,hv64,h10,hd⟩:=A7t hl (i:=i) (by omega)
  have e:=ih (i+1) (z+(enc v).length) (by omega) (by omega) N (by omega)
  simp only [Int.natCast_add,Int.natCast_one] at e
  rw [hd,List.length_append,← Nat.add_assoc,Int.natCast_add,Int.natCast_add]
  unfold Y0
  simp (disch:=omega) only [bs,↓iP,↓iN,hv,B4m F hF hv64]
  exact e
theorem C72(F:Nat)(hF:D9 F){R:Type}(k:List Int→Option R){l:List Int}(hl:Wd l)(hb:l.length≤65536):∀ (m i:Nat) (out:List Int),i+m=l.length→out.length≤1+10*i →
  ∀ N,m < N→U6 F k N l out (i:Int)=k (out++B4t (l.drop i)):=by
 intro m
 induction m with
 | zero =>
  intro i z hi hz N hN
  obtain ⟨N,rfl⟩:∃ M,N=M+1:=⟨N - 1,by omega⟩
  rw [List.drop_eq_nil_of_le (by omega)]
  unfold U6
  simp (disch:=omega) only [bs,↓iP,↓iN]
  simp [B4t]
 | succ m ih =>
  intro i z hi hz N hN
  obtain ⟨N,rfl⟩:∃ M,N=M+1:=⟨N - 1,by omega⟩
  obtain ⟨v,hv,hv64,h10,hd⟩:=A7t hl (i:=i) (by omega)
  have e:=ih (i+1) (z++enc v) (by omega) (by simp; omega) N (by omega)
  simp only [Int.natCast_add,Int.natCast_one] at e
  rw [hd,← List.append_assoc]
  unfold U6
  simp (disch:=omega) only [bs,↓iP,↓iN,hv,A3D F hF (b:=[]) (by simp [B4V]) hv64,List.nil_append]
  exact e
theorem C1L{l:List Int}(hl:Wd l)(hn:l.length≤65536):E4B l (wdN l:Int):=by
 have h:=B71 hl
 exact ⟨hn,h.1,h.2.1,by rw [Int.toNat_natCast]; exact(h.2.2 _).1 (Int.le_refl _)⟩
theorem A0V(F:Nat)(hF:D9 F){l:List Int}(hl:Wd l)(hn:l.length≤65536):E8 F l=some (nE l,0,()):=by
 obtain ⟨W,eW,hW⟩:=A4S F hF hl (by omega)
 have:=hW.eq (B71 hl)
 subst this
 obtain ⟨out,eP,hP⟩:=B0u F hF hl (by omega) (C1L hl hn)
 have:=hP.eq (B0F l (wdN l))
 subst this
 have hs:=B4u hl hn
 have hel:=A9f hl
 have hw:=C1I hl
 have e1:=fun (R:Type) (k:List Int→Int→Option R)=>C39 F k l hl hn l.length 0 1 (by omega) (by omega) F (by unfold D9 at hF; omega)
 have e2:=fun (R:Type) (k:List Int→Option R)=>C71 F hF k hl hn l.length 0 [0] (by omega) (by simp) F (by unfold D9 at hF; omega)
 simp only [Int.natCast_zero,Int.natCast_one,List.drop_zero,Int.natCast_add] at e1 e2
 unfold E8 nE
 generalize pk l (wdN l)=p at *
 generalize B4t l=q at *
 by_cases h:2+p.length < 1+q.length
 ·rw [iP h]
  simp (disch:=omega) only [bs,↓iP,↓iN,e1,eW,eP,A40]
  rfl
 ·rw [iN h]
  simp (disch:=omega) only [bs,↓iP,↓iN,e1,eW,eP,show I5 1 (0:Int)=[0] from rfl,e2]
  rfl
theorem A7u(F:Nat){l:List Int}(hn:65536 < l.length):E8 F l=some ([],3,()):=by
 unfold E8
 simp (disch:=omega) only [bs,↓iP,↓iN]
theorem A0z(F:Nat)(hF:D9 F){l:List Int}(hl:Wd l)(hn:l.length≤65536):A0u F l=some (nE l,0,()):=by
 obtain ⟨W,eW,hW⟩:=A6j F hF hl (by omega)
 have:=hW.eq (B71 hl)
 subst this
 obtain ⟨out,eP,hP⟩:=B4k F hF hl (by omega) (C1L hl hn)
 have:=hP.eq (B0F l (wdN l))
 subst this
 have hs:=B4u hl hn
 have hel:=A9f hl
 have hw:=C1I hl
 have e1:=fun (R:Type) (k:List Int→Int→Option R)=>C3a F hF k hl hn l.length 0 1 (by omega) (by omega) F (by unfold D9 at hF; omega)
 have e2:=fun (R:Type) (k:List Int→Option R)=>C72 F hF k hl hn l.length 0 [0] (by omega) (by simp) F (by unfold D9 at hF; omega)
 simp only [Int.natCast_zero,Int.natCast_one,List.drop_zero,Int.natCast_add] at e1 e2
 unfold A0u nE
 generalize pk l (wdN l)=p at *
 generalize B4t l=q at *
 by_cases h:2+p.length < 1+q.length
 ·rw [iP h]
  simp (disch:=omega) only [bs,↓iP,↓iN,e1,eW,eP,A40]
  rfl
 ·rw [iN h]
  simp (disch:=omega) only [bs,↓iP,↓iN,e1,eW,eP,show I5 1 (0:Int)=[0] from rfl,e2]
  rfl
def A6O:List Int→Bool
 | []=>true
 | [_]=>true
 | p::x::t=>decide (p < x) && A6O (x::t)
theorem B72:∀ {l:List Int} {a b:Int},A6O (l++[a])=true→a < b→A6O (l++[a]++[b])=true
 | [],a,b,_,h=>by simp [A6O,h]
 | [p],a,b,h,hb=>by
  simp [A6O] at h ⊢
  exact ⟨h,hb⟩
 | p::x::t,a,b,h,hb=>by
  simp only [List.cons_append,A6O,Bool.and_eq_true,decide_eq_true_eq] at h ⊢
  exact ⟨h.1,B72 (l:=x::t) h.2 hb⟩
theorem B73:∀ {l:List Int} {a:Int},A6O (l++[a])=true→A6O l=true
 | [],_,_=>rfl
 | [_],_,_=>rfl
 | p::x::t,a,h=>by
  simp only [List.cons_append,A6O,Bool.and_eq_true,decide_eq_true_eq] at h ⊢
  exact ⟨h.1,B73 (l:=x::t) h.2⟩
theorem D5N{a b:Int}(ha:I64 a)(hb:I64 b)(h:b≤a):E7 .u64 (IntKind.wrap .u64 a) (IntKind.wrap .u64 b)=a - b:=by
 unfold I64 at ha hb
 show IntKind.u64.wrap _=_
 rw [F7,F7,F7]
 omega
theorem B2i(z:Int):IntKind.i64.wrap (IntKind.u64.wrap z)=IntKind.i64.wrap z:=by
 obtain ⟨k,hk⟩:=A2I z
 obtain ⟨j,hj⟩:=A2I (IntKind.u64.wrap z)
 refine B4v (F9 _) (F9 _) (k:=j - k - z / 18446744073709551616) ?_
 rw [hj,hk,F7]
 omega
theorem D0i{t d:Int}(ht:I64 t)(hd:0≤d∧d≤9223372036854775807 - t):IntKind.i64.wrap (C2 .u64 (IntKind.wrap .u64 t) d)=t+d:=by
 show IntKind.i64.wrap (IntKind.u64.wrap _)=_
 unfold I64 at ht
 rw [B2i]
 obtain ⟨k,hk⟩:=A2I (IntKind.u64.wrap t+d)
 refine B4v (F9 _) (by unfold I64; omega) (k:=k - t / 18446744073709551616) ?_
 rw [hk,F7]
 omega
theorem A85(F:Nat){a b:Int}(ha:I64 a)(hb:I64 b)(h:b≤a):A2r F a b=some (a - b,()):=by
 unfold A2r
 have e:ltI a b=false:=by rw [← Bool.not_eq_true,B9]; omega
 rw [e,cF,D5N ha hb h]
theorem A23{l:List Int}{j:Nat}(h:j < l.length):l.drop j=B1 0 l (j:Int)::l.drop (j+1):=by
 rw [A7n h,A0E]
theorem A5q(F:Nat){R:Type}(k0:Option R)(kr:Bool→Option R){l:List Int}(hb:(l.length:Int)≤140737488355328):∀ (m j:Nat),j+1+m=l.length→∀ N,m < N →
  J5 F k0 kr N l ((j:Int)+1)=if A6O (l.drop j)=true then k0 else kr false:=by
 intro m
 induction m with
 | zero =>
  intro j hj N hN
  obtain ⟨N,rfl⟩:∃ M,N=M+1:=⟨N - 1,by omega⟩
  rw [A23 (by omega),List.drop_eq_nil_of_le (by omega),iP (by rfl)]
  unfold J5
  simp (disch:=omega) only [bs,↓iP,↓iN]
 | succ m ih =>
  intro j hj N hN
  obtain ⟨N,rfl⟩:∃ M,N=M+1:=⟨N - 1,by omega⟩
  have e:=ih (j+1) (by omega) N (by omega)
  have hs:l.drop j=B1 0 l (j:Int)::B1 0 l ((j:Int)+1)::l.drop (j+2):=by
   rw [A23 (by omega),A23 (j:=j+1) (by omega)]
   simp
  have hs1:l.drop (j+1)=B1 0 l ((j:Int)+1)::l.drop (j+2):=by
   rw [A23 (j:=j+1) (by omega)]
   simp
  rw [hs1] at e
  rw [hs]
  simp only [Int.natCast_add,Int.natCast_one] at e
  have hj1:(j:Int)+1 - 1=(j:Int):=by omega
  unfold J5
  by_cases c:B1 0 l ((j:Int)+1)≤B1 0 l (j:Int)
  ·have hf:A6O (B1 0 l (j:Int)::B1 0 l ((j:Int)+1)::l.drop (j+2))=false:=by
    have:decide (B1 0 l (j:Int) < B1 0 l ((j:Int)+1))=false:=decide_eq_false (by omega)
    simp only [A6O,this,Bool.false_and]
   rw [hf]
   simp (disch:=omega) only [bs,↓iP,↓iN,hj1]
  ·have ht:A6O (B1 0 l (j:Int)::B1 0 l ((j:Int)+1)::l.drop (j+2))=A6O (B1 0 l ((j:Int)+1)::l.drop (j+2)):=by
    have:decide (B1 0 l (j:Int) < B1 0 l ((j:Int)+1))=true:=decide_eq_true (by omega)
    simp only [A6O,this,Bool.true_and]
   rw [ht,← e]
   simp (disch:=omega) only [bs,↓iP,↓iN,hj1]
theorem A6K(F:Nat)(hF:D9 F){l:List Int}(hb:(l.length:Int)≤140737488355328):A17 F l=some (A6O l,()):=by
 unfold A17
 by_cases h:l.length=0
 ·have:l=[]:=List.length_eq_zero_iff.1 h
  subst this
  obtain ⟨G,hG⟩:∃ G,F=G+1:=⟨F - 1,by unfold D9 at hF; omega⟩
  rw [hG]
  unfold J5
  simp (disch:=omega) only [bs,↓iP,↓iN]
  rfl
 ·refine(A5q F _ _ hb (l.length - 1) 0 (by omega) F (by unfold D9 at hF; omega)).trans ?_
  rw [List.drop_zero]
  cases A6O l <;> rfl
theorem C73(F:Nat){R:Type}(kn:List Int×Int×Unit→List Int→Int→Int→Int→Int→Option R)(kr:List Int×Int×Unit→List Int→Option R)(t:List Int×Int×Unit)(l:List Int)(kd:Int){at_ d:Int}(step i:Int)(ha:I64 at_)(hd:1≤d) :
  F4 F kn kr t l kd at_ step i d=if 9223372036854775807 - at_ < d then kr t l else kn t l kd (at_+d) step i:=by
 unfold F4
 have h1:E7 .u64 9223372036854775807 (IntKind.wrap .u64 at_)=9223372036854775807 - at_:=by
  unfold I64 at ha
  show IntKind.u64.wrap _=_
  rw [F7,F7]
  omega
 rw [h1]
 by_cases c:9223372036854775807 - at_ < d
 ·rw [iP c]
  simp (disch:=omega) only [bs,↓iP,↓iN]
 ·rw [iN c]
  have h2:=D0i ha (d:=d) (by omega)
  rw [h2]
  simp (disch:=omega) only [bs,↓iP,↓iN]
def B4w(l:List Int)(at_:Int):Prop:=Sg l∧I64 at_∧A6O (l++[at_])=true
theorem B4w.push{l:List Int}{at_ d:Int}(h:B4w l at_)(hd:1≤d)(hm:¬ 9223372036854775807 - at_ < d):B4w (l++[at_]) (at_+d):=by
 obtain ⟨h1,h2,h3⟩:=h
 refine ⟨h1.append (Sg.cons h2 Sg.nil),by unfold I64 at h2 ⊢; omega,B72 h3 (by omega)⟩
theorem C3b(F:Nat)(hF:D9 F)(kd:Int){step:Int}(hs:1≤step∧step≤100):∀ (m:Nat) (t:List Int×Int×Unit) (l:List Int) (at_:Int),J4 t→B4w l at_→l.length+m≤1000 →
  ∀ N,m < N→∃ t' l',J4 t'∧Sg l'∧A6O l'=true∧l'.length≤l.length+m∧∀ (R:Type) (k:List Int×Int×Unit→List Int→Option R) ,D0 F k k N t l kd at_ step (m:Int)=k t' l':=by
 intro m
 induction m with
 | zero =>
  intro t l at_ ht hl hlen N hN
  obtain ⟨N,rfl⟩:∃ M,N=M+1:=⟨N - 1,by omega⟩
  refine ⟨t,l,ht,hl.1,B73 hl.2.2,by omega,fun R k=>?_⟩
  unfold D0
  simp (disch:=omega) only [bs,↓iP,↓iN]
 | succ m ih =>
  intro t l at_ ht hl hlen N hN
  obtain ⟨N,rfl⟩:∃ M,N=M+1:=⟨N - 1,by omega⟩
  have hcast:((m+1:Nat):Int)=(m:Int)+1:=by omega
  have hm1:(m:Int)+1 - 1=(m:Int):=by omega
  have hlp:(l++[at_]).length=l.length+1:=by simp
  -- what is common: a distance is put on
  have fin:∀ (t1:List Int×Int×Unit) (d:Int),J4 t1→1≤d→(∀ (R:Type) (k:List Int×Int×Unit→List Int→Option R),D0 F k k (N+1) t l kd at_ step ((m:Int)+1) =
    F4 F (fun z20 z21 z22 z23 z24 z25=>D0 F k k N z20 z21 z22 z23 z24 (E7 .i64 z25 1)) (fun z27 z28=>k z27 z28) t1 (l++[at_]) kd at_ step ((m:Int)+1) d) →
    ∃ t' l',J4 t'∧Sg l'∧A6O l'=true∧l'.length≤l.length+(m+1)∧∀ (R:Type) (k:List Int×Int×Unit→List Int→Option R),D0 F k k (N+1) t l kd at_ step ((m+1:Nat):Int)=k t' l':=by
   intro t1 d ht1 hd e
   by_cases c:9223372036854775807 - at_ < d
   ·refine ⟨t1,l++[at_],ht1,hl.1.append (Sg.cons hl.2.1 Sg.nil),hl.2.2,by omega,fun R k=>?_⟩
    rw [hcast,e R k,C73 F _ _ t1 (l++[at_]) kd step _ hl.2.1 hd,iP c]
   ·obtain ⟨t',l',g1,g2,g3,g4,g5⟩:=ih t1 (l++[at_]) (at_+d) ht1 (hl.push hd c) (by omega) N (by omega)
    refine ⟨t',l',g1,g2,g3,by omega,fun R k=>?_⟩
    rw [hcast,e R k,C73 F _ _ t1 (l++[at_]) kd step _ hl.2.1 hd,iN c,A31 (by omega),hm1]
    exact g5 R k
  have hr:D8 (l.length+1) 8=true:=by rw [E5]; omega
  have h0:ltI 0 ((m:Int)+1)=true:=by rw [B9]; omega
  by_cases k1:kd=1
  ·obtain ⟨t1,v,e1,ht1,hv0,hv⟩:=B5 F ht (n:=9) (by omega)
   refine fin t1 (IntKind.u64.wrap (C2 .i64 1 v)) ht1 ?_ fun R k=>?_
   ·rw [H3 (by omega),G8 (by omega)]; omega
   ·conv=>lhs; unfold D0
    have q:eqI kd 1=true:=by rw [C4]; exact k1
    simp only [h0,hr,q,cT,e1,bS]
  ·have q1:eqI kd 1=false:=by rw [← Bool.not_eq_true,C4]; exact k1
   by_cases k2:kd=2
   ·obtain ⟨t1,v,e1,ht1,hv0,hv⟩:=B5 F ht (n:=3) (by omega)
    refine fin t1 (C2 .u64 step (IntKind.u64.wrap v)) ht1 ?_ fun R k=>?_
    ·rw [G8 (by omega),U0 (by omega)]; omega
    ·conv=>lhs; unfold D0
     have q:eqI kd 2=true:=by rw [C4]; exact k2
     simp only [h0,hr,q1,q,cT,cF,e1,bS]
   ·have q2:eqI kd 2=false:=by rw [← Bool.not_eq_true,C4]; exact k2
    by_cases k3:kd=3
    ·obtain ⟨t1,w,e1,ht1,hw0,hw⟩:=O1 F hF ht
     obtain ⟨t2,v,e2,ht2,hv0,hv⟩:=B5 F ht1 (n:=56) (by omega)
     have hs2:IntKind.u64.wrap (C2 .i64 4 v)=4+v:=by rw [H3 (by omega),G8 (by omega)]
     have hsh:T8 .u64 w (4+v)≤1152921504606846975:=by
      obtain ⟨n,rfl⟩:=Int.eq_ofNat_of_zero_le hw0
      rw [A0d (by omega)]
      simp only [IntKind.bits]
      have h4:min (4+v).toNat 64=4+(min (4+v).toNat 64 - 4):=by omega
      rw [h4,Nat.pow_add,← Nat.div_div_eq_div_mul]
      have:=Nat.div_le_self ((n:Int).toNat / 2 ^ 4) (2 ^ (min (4+v).toNat 64 - 4))
      have h5:(n:Int).toNat / 2 ^ 4≤1152921504606846975:=by
       have:Int.ofNat n=(n:Int):=rfl
       omega
      exact Int.le_trans (Int.ofNat_le.2 (Nat.le_trans this h5)) (by omega)
     have hsr:=A9U (kd:=.u64) (s:=4+v) hw0
     refine fin t2 (C2 .u64 1 (T8 .u64 w (4+v))) ht2 ?_ fun R k=>?_
     ·rw [U0 (by omega)]; omega
     ·conv=>lhs; unfold D0
      have q:eqI kd 3=true:=by rw [C4]; exact k3
      have q0:ltI (4+v) 0=false:=by rw [← Bool.not_eq_true,B9]; omega
      simp only [h0,hr,q1,q2,q,cT,cF,e1,e2,bS,hs2,q0]
    ·have q3:eqI kd 3=false:=by rw [← Bool.not_eq_true,C4]; exact k3
     by_cases k4:kd=4
     ·have q:eqI kd 4=true:=by rw [C4]; exact k4
      obtain ⟨t1,bb,e1,ht1⟩:=O2 F ht (n:=4) (by omega)
      cases bb with
      | true =>
       obtain ⟨t2,w,e2,ht2,hw0,hw⟩:=O1 F hF ht1
       obtain ⟨t3,v,e3,ht3,hv0,hv⟩:=B5 F ht2 (n:=8) (by omega)
       have hs2:IntKind.u64.wrap (C2 .i64 1 v)=1+v:=by rw [H3 (by omega),G8 (by omega)]
       have hsh:T8 .u64 w (1+v)≤9223372036854775807:=by
        obtain ⟨n,rfl⟩:=Int.eq_ofNat_of_zero_le hw0
        rw [A0d (by omega)]
        simp only [IntKind.bits]
        have h4:min (1+v).toNat 64=1+(min (1+v).toNat 64 - 1):=by omega
        rw [h4,Nat.pow_add,← Nat.div_div_eq_div_mul]
        have:=Nat.div_le_self ((n:Int).toNat / 2 ^ 1) (2 ^ (min (1+v).toNat 64 - 1))
        have h5:(n:Int).toNat / 2 ^ 1≤9223372036854775807:=by
         have:Int.ofNat n=(n:Int):=rfl
         omega
        exact Int.le_trans (Int.ofNat_le.2 (Nat.le_trans this h5)) (by omega)
       have hsr:=A9U (kd:=.u64) (s:=1+v) hw0
       refine fin t3 (C2 .u64 1 (T8 .u64 w (1+v))) ht3 ?_ fun R k=>?_
       ·rw [U0 (by omega)]; omega
       ·conv=>lhs; unfold D0
        have q0:ltI (1+v) 0=false:=by rw [← Bool.not_eq_true,B9]; omega
        simp only [h0,hr,q1,q2,q3,q,cT,cF,e1,e2,e3,bS,hs2,q0]
      | false =>
       refine fin t1 step ht1 (by omega) fun R k=>?_
       conv=>lhs; unfold D0
       simp only [h0,hr,q1,q2,q3,q,cT,cF,e1,bS]
     ·have q4:eqI kd 4=false:=by rw [← Bool.not_eq_true,C4]; exact k4
      refine fin t step ht (by omega) fun R k=>?_
      conv=>lhs; unfold D0
      simp only [h0,hr,q1,q2,q3,q4,cT,cF]
theorem A7v(F:Nat)(hF:D9 F){t:List Int×Int×Unit}(h:J4 t){n:Int}(hn:0≤n∧n≤100) :
  ∃ t' l,A1G F t n=some (t',l,())∧J4 t'∧Sg l∧A6O l=true∧(l.length:Int)≤n:=by
 obtain ⟨t1,kd,e1,h1,_,_⟩:=B5 F h (n:=5) (by omega)
 obtain ⟨t2,at_,e2,h2,ha⟩:=N1 F hF h1
 obtain ⟨t3,s,e3,h3,hs0,hs⟩:=B5 F h2 (n:=50) (by omega)
 obtain ⟨t4,m,e4,h4,hm0,hm⟩:=B5 F h3 (n:=n+1) (by omega)
 obtain ⟨m,rfl⟩:=Int.eq_ofNat_of_zero_le hm0
 have hst:IntKind.u64.wrap (C2 .i64 1 s)=1+s:=by rw [H3 (by omega),G8 (by omega)]
 obtain ⟨t5,l,g1,g2,g3,g4,g5⟩:=C3b F hF kd (step:=1+s) (by omega) m t4 [] at_ h4 ⟨Sg.nil,ha,rfl⟩ (by simp; omega) F (by unfold D9 at hF; omega)
 refine ⟨t5,l,?_,g1,g2,g3,by simp at g4; omega⟩
 unfold A1G
 have hn1:C2 .i64 n 1=n+1:=H3 (by omega)
 simp only [e1,e2,e3,hn1,e4,hst,bS]
 exact g5 _ _
theorem C1N:∀ (l:List Int) (q p x:Int),dfs q (l++[p]++[x])=dfs q (l++[p])++[IntKind.i64.wrap (x - p)]
 | [],q,p,x=>rfl
 | y::l,q,p,x=>by
  have:=C1N l y p x
  simp only [List.cons_append,dfs]
  rw [this]
theorem D5O(l:List Int)(p x:Int):df (l++[p]++[x])=df (l++[p])++[IntKind.i64.wrap (x - p)]:=by
 cases l with
 | nil=>rfl
 | cons y l=>simp only [List.cons_append,df,C1N l y p x]
theorem B74(x p:Int):IntKind.i64.wrap (E7 .u64 (IntKind.wrap .u64 x) (IntKind.wrap .u64 p))=IntKind.i64.wrap (x - p):=by
 show IntKind.i64.wrap (IntKind.u64.wrap _)=_
 rw [B2i]
 obtain ⟨k,hk⟩:=A2I (IntKind.u64.wrap x - IntKind.u64.wrap p)
 obtain ⟨j,hj⟩:=A2I (x - p)
 refine B4v (F9 _) (F9 _) (k:=k - j - x / 18446744073709551616+p / 18446744073709551616) ?_
 rw [hk,hj,F7,F7]
 omega
theorem A8I(F:Nat){R:Type}(k:List Int→Option R):∀ (n:Nat) (c:List Int) (p:Int) (b:List Int),c.length=n→((c++[p]++b).length:Int)≤140737488355328→∀ N,n < N →
  H0 F k N (c++[p]++b) (c.length:Int)=k (df (c++[p])++b):=by
 intro n
 induction n with
 | zero =>
  intro c p b hc hb N hN
  obtain ⟨N,rfl⟩:∃ M,N=M+1:=⟨N - 1,by omega⟩
  have:c=[]:=List.length_eq_zero_iff.1 hc
  subst this
  unfold H0
  simp (disch:=omega) only [bs,↓iP,↓iN]
  rfl
 | succ n ih =>
  intro c p b hc hb N hN
  obtain ⟨N,rfl⟩:∃ M,N=M+1:=⟨N - 1,by omega⟩
  obtain ⟨c',q,rfl⟩:∃ c' q,c=c'++[q]:=⟨c.dropLast,c.getLast (by intro h; simp [h] at hc),(List.dropLast_concat_getLast _).symm⟩
  simp only [List.length_append,List.length_singleton] at hc
  have hc':c'.length=n:=by omega
  have g1:B1 0 (c'++[q]++[p]++b) (((c'++[q]).length:Nat):Int)=p:=by
   rw [List.append_assoc (c'++[q])]
   exact L1 (c'++[q]) p b
  have g0:B1 0 (c'++[q]++[p]++b) (c'.length:Int)=q:=by
   rw [List.append_assoc,List.append_assoc]
   exact L1 c' q _
  have s1:F1 (c'++[q]++[p]++b) (((c'++[q]).length:Nat):Int) (IntKind.i64.wrap (p - q))=c'++[q]++(IntKind.i64.wrap (p - q)::b):=by
   rw [List.append_assoc (c'++[q])]
   refine(A0x (c'++[q]) p _ b).trans ?_
   simp
  have hll:(c'++[q]++[p]++b).length=n+2+b.length:=by simp; omega
  have e:=ih c' q (IntKind.i64.wrap (p - q)::b) hc' (by simp at hb ⊢; omega) N (by omega)
  have hfin:df (c'++[q]++[p])++b=df (c'++[q])++(IntKind.i64.wrap (p - q)::b):=by rw [D5O]; simp
  rw [hfin,← e]
  have hlen:(((c'++[q]).length:Nat):Int)=(n:Int)+1:=by simp; omega
  rw [hlen] at g1 s1 ⊢
  rw [hc'] at g0 ⊢
  have hn1:(n:Int)+1 - 1=(n:Int):=by omega
  rw [← s1]
  generalize c'++[q]++[p]++b=l at *
  conv=>lhs; unfold H0
  unfold A5a
  have hw:=B74 p q
  simp (disch:=omega) only [bs,↓iP,↓iN,hn1,g1,g0,hw]
theorem A4L(F:Nat)(hF:D9 F){l:List Int}(hb:(l.length:Int)≤140737488355328):X0 F l=some (df l,()):=by
 unfold X0
 rcases List.eq_nil_or_concat l with h | ⟨c,p,h⟩
 ·subst h
  obtain ⟨G,hG⟩:∃ G,F=G+1:=⟨F - 1,by unfold D9 at hF; omega⟩
  rw [hG]
  unfold H0
  simp (disch:=omega) only [bs,↓iP,↓iN]
  rfl
 ·rw [List.concat_eq_append] at h
  subst h
  have e:=A8I F (fun z11=>some (z11,())) c.length c p [] rfl (by simpa using hb) F (by unfold D9 at hF; simp at hb; omega)
  simp only [List.append_nil] at e
  have:E7 .i64 (C7 (c++[p])) 1=(c.length:Int):=by
   show IntKind.wrap .i64 _=_
   unfold C7
   simp at hb ⊢
   rw [A5H (by omega)] <;> omega
  rw [this]
  exact e
theorem B75(F:Nat)(hF:D9 F){R:Type}(k:List Int→Option R){o:Nat}(ho:o≤2):∀ (m i:Nat) (l:List Int),i+m=o→(l.length:Int)≤140737488355328→∀ N,m < N →
  N8 F k N l (o:Int) (i:Int)=k (dfn m l):=by
 intro m
 induction m with
 | zero =>
  intro i l hi hb N hN
  obtain ⟨N,rfl⟩:∃ M,N=M+1:=⟨N - 1,by omega⟩
  unfold N8
  simp (disch:=omega) only [bs,↓iP,↓iN]
  rfl
 | succ m ih =>
  intro i l hi hb N hN
  obtain ⟨N,rfl⟩:∃ M,N=M+1:=⟨N - 1,by omega⟩
  have e:=ih (i+1) (df l) (by omega) (by rw [B0G]; exact hb) N (by omega)
  simp only [Int.natCast_add,Int.natCast_one] at e
  unfold N8
  simp (disch:=omega) only [bs,↓iP,↓iN,A4L F hF hb]
  exact e
theorem B1h(F:Nat){R:Type}(k:List Int→Option R){src:List Int}(hs:Sg src)(hb:(src.length:Int)≤140737488355328):∀ (rest pre out z:List Int),src=pre++rest→out.length=pre.length→z.length=rest.length→∀ N,rest.length < N →
  K1 F k N (out++z) src (src.length:Int) (pre.length:Int)=k (out++zs rest):=by
 intro rest
 induction rest with
 | nil =>
  intro pre out z he ho hz N hN
  obtain ⟨N,rfl⟩:∃ M,N=M+1:=⟨N - 1,by omega⟩
  have:z=[]:=List.length_eq_zero_iff.1 hz
  subst this
  have hlen:src.length=pre.length:=by rw [he]; simp
  unfold K1
  simp (disch:=omega) only [bs,↓iP,↓iN]
  rfl
 | cons x rest ih =>
  intro pre out z he ho hz N hN
  obtain ⟨N,rfl⟩:∃ M,N=M+1:=⟨N - 1,by omega⟩
  obtain ⟨y,z',rfl⟩:∃ y z',z=y::z':=by
   cases z with
   | nil=>simp at hz
   | cons y z'=>exact ⟨y,z',rfl⟩
  simp only [List.length_cons] at hN hz
  have hlen:src.length=pre.length+1+rest.length:=by rw [he]; simp; omega
  have g:B1 0 src (pre.length:Int)=x:=by rw [he]; exact L1 pre x rest
  have hx:I64 x:=hs x (by rw [he]; simp)
  have st:F1 (out++y::z') (pre.length:Int) (zz x:Int)=(out++[(zz x:Int)])++z':=by rw [← ho]; exact A0x out y _ z'
  have hol:(out++y::z').length=pre.length+1+z'.length:=by simp; omega
  have e:=ih (pre++[x]) (out++[(zz x:Int)]) z' (by rw [he]; simp) (by simp [ho]) (by omega) N (by omega)
  have hpl:(((pre++[x]).length:Nat):Int)=(pre.length:Int)+1:=by simp
  rw [hpl] at e
  have hz2:out++[(zz x:Int)]++zs rest=out++zs (x::rest):=by simp [zs]
  rw [hz2] at e
  unfold K1
  simp (disch:=omega) only [bs,↓iP,↓iN,g,A8H F hx,st]
  exact e
theorem B0H(F:Nat){R:Type}(k:List Int→Option R){src:List Int}(hs:Sg src)(hb:(src.length:Int)≤140737488355328):∀ (rest pre out z:List Int),src=pre++rest→out.length=pre.length→z.length=rest.length→∀ N,rest.length < N →
  Q0 F k N src (out++z) (pre.length:Int)=k (out++zs rest):=by
 intro rest
 induction rest with
 | nil =>
  intro pre out z he ho hz N hN
  obtain ⟨N,rfl⟩:∃ M,N=M+1:=⟨N - 1,by omega⟩
  have:z=[]:=List.length_eq_zero_iff.1 hz
  subst this
  have hlen:src.length=pre.length:=by rw [he]; simp
  unfold Q0
  simp (disch:=omega) only [bs,↓iP,↓iN]
  rfl
 | cons x rest ih =>
  intro pre out z he ho hz N hN
  obtain ⟨N,rfl⟩:∃ M,N=M+1:=⟨N - 1,by omega⟩
  obtain ⟨y,z',rfl⟩:∃ y z',z=y::z':=by
   cases z with
   | nil=>simp at hz
   | cons y z'=>exact ⟨y,z',rfl⟩
  simp only [List.length_cons] at hN hz
  have hlen:src.length=pre.length+1+rest.length:=by rw [he]; simp; omega
  have g:B1 0 src (pre.length:Int)=x:=by rw [he]; exact L1 pre x rest
  have hx:I64 x:=hs x (by rw [he]; simp)
  have st:F1 (out++y::z') (pre.length:Int) (zz x:Int)=(out++[(zz x:Int)])++z':=by rw [← ho]; exact A0x out y _ z'
  have hol:(out++y::z').length=pre.length+1+z'.length:=by simp; omega
  have e:=ih (pre++[x]) (out++[(zz x:Int)]) z' (by rw [he]; simp) (by simp [ho]) (by omega) N (by omega)
  have hpl:(((pre++[x]).length:Nat):Int)=(pre.length:Int)+1:=by simp
  rw [hpl] at e
  have hz2:out++[(zz x:Int)]++zs rest=out++zs (x::rest):=by simp [zs]
  rw [hz2] at e
  unfold Q0
  simp (disch:=omega) only [bs,↓iP,↓iN,g,B0w F hx,st]
  exact e
theorem A8x(n:Nat):(I5 (n:Int) (0:Int)).length=n:=by simp [I5]
theorem A5r(F:Nat)(hF:D9 F){l:List Int}(hl:Sg l)(hb:(l.length:Int)≤17592186043904)(o:Int) :
  P7 F l o=if o < 0∨2 < o then some ([],false,()) else some (zs (dfn o.toNat l),true,()):=by
 unfold P7
 by_cases c0:o < 0
 ·rw [iP (.inl c0)]
  simp (disch:=omega) only [bs,↓iP,↓iN]
 ·by_cases c1:2 < o
  ·rw [iP (.inr c1)]
   simp (disch:=omega) only [bs,↓iP,↓iN]
  ·rw [iN (by omega)]
   obtain ⟨n,rfl⟩:=Int.eq_ofNat_of_zero_le (show 0≤o by omega)
   have hn:n≤2:=by
    have:Int.ofNat n=(n:Int):=rfl
    omega
   have e1:A0e F l=some (l,()):=by
    unfold A0e
    simp (disch:=omega) only [bs,↓iP,↓iN]
   have e2:A2Q F l (n:Int)=some (dfn n l,()):=B75 F hF _ hn n 0 l (by omega) (by omega) F (by unfold D9 at hF; omega)
   have hdl:=J2 n l
   have hds:=A26 n hl
   rw [Int.toNat_natCast]
   have x0:ltI (n:Int) 0=false:=by rw [← Bool.not_eq_true,B9]; omega
   have x1:ltI 2 (n:Int)=false:=by rw [← Bool.not_eq_true,B9]; omega
   simp only [x0,x1,cF,e1,e2,bS]
   generalize dfn n l=d at *
   have x2:A1x (C7 d) (C7 d) 8=true:=by rw [A4d]; unfold C7; omega
   rw [x2,cT]
   exact B1h F _ hds (by omega) d [] [] (I5 (C7 d) 0) rfl rfl (by unfold C7; rw [A8x]) F (by unfold D9 at hF; omega)
theorem C3c(F:Nat){R:Type}(k:List Int→Option R){src:List Int}(hb:(src.length:Int)≤17592186043904):∀ (rest pre:List Int) (p:Int) (out:List Int),src=pre++p::rest→out.length=pre.length+1→∀ N,rest.length < N →
  D7 F k N src out ((pre.length:Int)+1)=k (out++dfs p rest):=by
 intro rest
 induction rest with
 | nil =>
  intro pre p out he ho N hN
  obtain ⟨N,rfl⟩:∃ M,N=M+1:=⟨N - 1,by omega⟩
  have hlen:src.length=pre.length+1:=by rw [he]; simp
  unfold D7
  simp (disch:=omega) only [bs,↓iP,↓iN]
  simp [dfs]
 | cons x rest ih =>
  intro pre p out he ho N hN
  obtain ⟨N,rfl⟩:∃ M,N=M+1:=⟨N - 1,by omega⟩
  simp only [List.length_cons] at hN
  have hlen:src.length=pre.length+2+rest.length:=by rw [he]; simp; omega
  have g0:B1 0 src (pre.length:Int)=p:=by rw [he]; exact L1 pre p _
  have g1:B1 0 src ((pre.length:Int)+1)=x:=by
   rw [he,show pre++p::x::rest=(pre++[p])++x::rest by simp,show(pre.length:Int)+1=(((pre++[p]).length:Nat):Int) by simp]
   exact L1 (pre++[p]) x rest
  have e:=ih (pre++[p]) x (out++[IntKind.i64.wrap (x - p)]) (by rw [he]; simp) (by simp [ho]) N (by omega)
  rw [show(((pre++[p]).length:Nat):Int)=(pre.length:Int)+1 by simp,List.append_assoc,List.singleton_append] at e
  have hw:=B74 x p
  have hp1:(pre.length:Int)+1 - 1=(pre.length:Int):=by omega
  unfold D7 A7Z
  simp (disch:=omega) only [bs,↓iP,↓iN,hp1,g0,g1,hw]
  exact e
theorem A61(F:Nat)(hF:D9 F){l:List Int}(hb:(l.length:Int)≤17592186043904):A0O F l=some (df l,()):=by
 unfold A0O
 obtain ⟨G,hG⟩:∃ G,F=G+1:=⟨F - 1,by unfold D9 at hF; omega⟩
 cases l with
 | nil =>
  rw [hG]
  unfold D7
  simp (disch:=omega) only [bs,↓iP,↓iN]
  rfl
 | cons x t =>
  have e:=C3c F (fun z=>some (z,())) hb t [] x [x] rfl rfl G (by unfold D9 at hF; simp at hb; omega)
  have hll:(x::t).length=t.length+1:=rfl
  have g:B1 0 (x::t) 0=x:=rfl
  have step:D7 F (fun z=>some (z,())) (G+1) (x::t) [] 0=D7 F (fun z=>some (z,())) G (x::t) [x] 1:=by
   have r1:D8 (([]:List Int).length+1) 8=true:=rfl
   conv=>lhs; unfold D7
   generalize x::t=l at *
   simp only [r1,cT]
   simp (disch:=omega) only [bs,↓iP,↓iN,g,List.nil_append]
   rfl
  have hFG:D7 F (fun z=>some (z,())) F (x::t) [] 0=D7 F (fun z=>some (z,())) (G+1) (x::t) [] 0:=by rw [← hG]
  rw [hFG,step]
  exact e
theorem C74(F:Nat)(hF:D9 F){R:Type}(k:List Int→Option R){o:Nat}(ho:o≤2):∀ (m i:Nat) (l:List Int),i+m=o→(l.length:Int)≤17592186043904→∀ N,m < N →
  P9 F k N l (o:Int) (i:Int)=k (dfn m l):=by
 intro m
 induction m with
 | zero =>
  intro i l hi hb N hN
  obtain ⟨N,rfl⟩:∃ M,N=M+1:=⟨N - 1,by omega⟩
  unfold P9
  simp (disch:=omega) only [bs,↓iP,↓iN]
  rfl
 | succ m ih =>
  intro i l hi hb N hN
  obtain ⟨N,rfl⟩:∃ M,N=M+1:=⟨N - 1,by omega⟩
  have e:=ih (i+1) (df l) (by omega) (by rw [B0G]; exact hb) N (by omega)
  simp only [Int.natCast_add,Int.natCast_one] at e
  unfold P9
  simp (disch:=omega) only [bs,↓iP,↓iN,A61 F hF hb]
  exact e
theorem A7w(F:Nat)(hF:D9 F){l:List Int}(hl:Sg l)(hb:(l.length:Int)≤17592186043904)(o:Int) :
  A0t F l o=if o < 0∨2 < o then some ([],false,()) else some (zs (dfn o.toNat l),true,()):=by
 unfold A0t
 by_cases c0:o < 0
 ·rw [iP (.inl c0)]
  simp (disch:=omega) only [bs,↓iP,↓iN]
 ·by_cases c1:2 < o
  ·rw [iP (.inr c1)]
   simp (disch:=omega) only [bs,↓iP,↓iN]
  ·rw [iN (by omega)]
   obtain ⟨n,rfl⟩:=Int.eq_ofNat_of_zero_le (show 0≤o by omega)
   have hn:n≤2:=by
    have:Int.ofNat n=(n:Int):=rfl
    omega
   have hdl:=J2 n l
   have hds:=A26 n hl
   rw [Int.toNat_natCast]
   have x0:ltI (n:Int) 0=false:=by rw [← Bool.not_eq_true,B9]; omega
   have x1:ltI 2 (n:Int)=false:=by rw [← Bool.not_eq_true,B9]; omega
   simp only [x0,x1,cF]
   refine(C74 F hF _ hn n 0 l (by omega) (by omega) F (by unfold D9 at hF; omega)).trans ?_
   generalize dfn n l=d at *
   have x2:A1x (C7 d) (C7 d) 8=true:=by rw [A4d]; unfold C7; omega
   simp only [x2,cT]
   exact B0H F _ hds (by omega) d [] [] (I5 (C7 d) 0) rfl rfl (by unfold C7; rw [A8x]) F (by unfold D9 at hF; omega)
def rEe(l:List Int):List Int×Int:=if 65536 < l.length then([],3) else(rE l,0)
theorem A7x(F:Nat)(hF:D9 F){l:List Int}(hl:Sg l)(hb:(l.length:Int)≤17592186043904):P0 F l=some ((rEe l).1,(rEe l).2,()):=by
 have hR:=A5r F hF hl hb
 unfold P0 A1U rEe
 have r0:=hR 0
 have r1:=hR 1
 have r2:=hR 2
 rw [iN (by omega)] at r0 r1 r2
 rw [show(0:Int).toNat=0 from rfl] at r0
 rw [show(1:Int).toNat=1 from rfl] at r1
 rw [show(2:Int).toNat=2 from rfl] at r2
 have x0:ltI (0:Int) 3=true:=rfl
 rw [x0,cT,r0]
 simp only [bS]
 by_cases h:65536 < l.length
 ·rw [iP h,A7u F (by rw [Q8,J2]; exact h)]
  rfl
 ·rw [iN h]
  have n0:=A0V F hF (A60 (A26 0 hl)) (by rw [Q8,J2]; omega)
  have n1:=A0V F hF (A60 (A26 1 hl)) (by rw [Q8,J2]; omega)
  have n2:=A0V F hF (A60 (A26 2 hl)) (by rw [Q8,J2]; omega)
  have s0:=A0U (A60 (A26 0 hl)) (by rw [Q8,J2]; omega)
  have s1:=A0U (A60 (A26 1 hl)) (by rw [Q8,J2]; omega)
  have s2:=A0U (A60 (A26 2 hl)) (by rw [Q8,J2]; omega)
  have q0:rO 0 l=0::nE (zs (dfn 0 l)):=rfl
  have q1:rO 1 l=1::nE (zs (dfn 1 l)):=rfl
  have q2:rO 2 l=2::nE (zs (dfn 2 l)):=rfl
  obtain ⟨G,hG⟩:∃ G,F=G+3:=⟨F - 3,by unfold D9 at hF; omega⟩
  have z:eqI (0:Int) 0=true:=rfl
  have w0:IntKind.wrap .u8 (0:Int)=0:=rfl
  have w1:IntKind.wrap .u8 (1:Int)=1:=rfl
  have w2:IntKind.wrap .u8 (2:Int)=2:=rfl
  have a1:C2 .i64 (0:Int) 1=1:=rfl
  have a2:C2 .i64 (1:Int) 1=2:=rfl
  have a3:C2 .i64 (2:Int) 1=3:=rfl
  have rm:∀ c:List Int,c.length≤524290→D8 (1+c.length) 1=true:=fun c hc=>by rw [E5]; omega
  -- one more order
  have step:∀ (N:Nat) (best:List Int) (o:Nat) (c:List Int),best≠[]→best.length≤524291→c.length≤524290→ltI (o:Int) 3=true→P7 F l (o:Int)=some (zs (dfn o l),true,())→E8 F (zs (dfn o l))=some (c,0,())→IntKind.wrap .u8 (o:Int)=(o:Int) →
    G9 F (fun z=>some (z,(0,()))) (fun z28 z29=>some (z28,(z29,()))) (N+1) l best (o:Int)=G9 F (fun z=>some (z,(0,()))) (fun z28 z29=>some (z28,(z29,()))) N l (S1 ((o:Int)::c) best) (C2 .i64 (o:Int) 1):=by
   intro N best o c hne hbl hcl ho hr hc hw
   conv=>lhs; unfold G9
   have he:List.isEmpty best=false:=by cases best with | nil=>exact absurd rfl hne | cons _ _=>rfl
   simp only [ho,cT,hr,bS,hc,z,Bool.not_true,cF,he]
   by_cases cc:c.length+1 < best.length
   ·have x:ltI (C2 .i64 (C7 c) 1) (C7 best)=true:=by rw [H3 (by unfold C7; omega),B9]; unfold C7; omega
    rw [x,cT,rm c hcl,cT,hw]
    unfold S1
    rw [iP (by simpa using cc)]
    rfl
   ·have x:ltI (C2 .i64 (C7 c) 1) (C7 best)=false:=by rw [← Bool.not_eq_true,H3 (by unfold C7; omega),B9]; unfold C7; omega
    rw [x,cF]
    unfold S1
    rw [iN (by simpa using cc)]
  have last:∀ (N:Nat) (best:List Int),G9 F (fun z=>some (z,(0,()))) (fun z28 z29=>some (z28,(z29,()))) (N+1) l best 3=some (best,(0,())):=fun N best=>rfl
  have e1:=step (G+2) (rO 0 l) 1 (nE (zs (dfn 1 l))) (by rw [q0]; simp) (by rw [q0]; simp; omega) s1 rfl r1 n1 rfl
  have hs1:(S1 (rO 1 l) (rO 0 l)).length≤524291:=by
   have:=(Z5 (rO 1 l) (rO 0 l)).2.2
   rw [q0] at this ⊢; simp at this; omega
  have hne1:S1 (rO 1 l) (rO 0 l)≠[]:=by
   rcases (Z5 (rO 1 l) (rO 0 l)).1 with h | h <;> rw [h]
   ·rw [q1]; simp
   ·rw [q0]; simp
  have e2:=step (G+1) (S1 (rO 1 l) (rO 0 l)) 2 (nE (zs (dfn 2 l))) hne1 hs1 s2 rfl r2 n2 rfl
  have e3:=last G (S1 (rO 2 l) (S1 (rO 1 l) (rO 0 l)))
  simp only [n0,bS,z,Bool.not_true,cF,rm _ s0,cT,w0,a1]
  have hF3:G9 F (fun z=>some (z,(0,()))) (fun z28 z29=>some (z28,(z29,()))) F l ([0]++nE (zs (dfn 0 l))) 1=G9 F (fun z=>some (z,(0,()))) (fun z28 z29=>some (z28,(z29,()))) (G+2+1) l (rO 0 l) 1:=by
   rw [q0,show G+2+1=F by omega]
   rfl
  refine hF3.trans (e1.trans ?_)
  refine Eq.trans ?_ (e2.trans ?_)
  ·rfl
  ·exact e3
theorem B0I(F:Nat)(hF:D9 F){l:List Int}(hl:Sg l)(hb:(l.length:Int)≤17592186043904):A3V F l=some ((rEe l).1,(rEe l).2,()):=by
 unfold A3V rEe
 by_cases h:65536 < l.length
 ·rw [iP h]
  simp (disch:=omega) only [bs,↓iP,↓iN]
 ·rw [iN h]
  have hlt:ltI 65536 (C7 l)=false:=by rw [← Bool.not_eq_true,B9]; unfold C7; omega
  rw [hlt,cF]
  have hR:=A7w F hF hl hb
  have r0:=hR 0
  have r1:=hR 1
  have r2:=hR 2
  rw [iN (by omega)] at r0 r1 r2
  rw [show(0:Int).toNat=0 from rfl] at r0
  rw [show(1:Int).toNat=1 from rfl] at r1
  rw [show(2:Int).toNat=2 from rfl] at r2
  have n0:=A0z F hF (A60 (A26 0 hl)) (by rw [Q8,J2]; omega)
  have n1:=A0z F hF (A60 (A26 1 hl)) (by rw [Q8,J2]; omega)
  have n2:=A0z F hF (A60 (A26 2 hl)) (by rw [Q8,J2]; omega)
  have s0:=A0U (A60 (A26 0 hl)) (by rw [Q8,J2]; omega)
  have s1:=A0U (A60 (A26 1 hl)) (by rw [Q8,J2]; omega)
  have s2:=A0U (A60 (A26 2 hl)) (by rw [Q8,J2]; omega)
  have q0:rO 0 l=0::nE (zs (dfn 0 l)):=rfl
  have q1:rO 1 l=1::nE (zs (dfn 1 l)):=rfl
  obtain ⟨G,hG⟩:∃ G,F=G+4:=⟨F - 4,by unfold D9 at hF; omega⟩
  have rm:∀ c:List Int,c.length≤524290→D8 (1+c.length) 1=true:=fun c hc=>by rw [E5]; omega
  have first:∀ N:Nat,F3 F (fun z=>some (z,((0:Int),()))) (N+1) l [] 0=F3 F (fun z=>some (z,((0:Int),()))) N l (rO 0 l) 1:=by
   intro N
   conv=>lhs; unfold F3
   simp only [show leI (0:Int) 2=true from rfl,cT,r0,bS,n0,show eqI (0:Int) 0=true from rfl,rm _ s0]
   rfl
  have step:∀ (N:Nat) (best:List Int) (o:Nat) (c:List Int),best.length≤524291→c.length≤524290→leI (o:Int) 2=true→eqI (o:Int) 0=false→A0t F l (o:Int)=some (zs (dfn o l),true,())→A0u F (zs (dfn o l))=some (c,0,())→IntKind.wrap .u8 (o:Int)=(o:Int) →
    F3 F (fun z=>some (z,((0:Int),()))) (N+1) l best (o:Int)=F3 F (fun z=>some (z,((0:Int),()))) N l (S1 ((o:Int)::c) best) (C2 .i64 (o:Int) 1):=by
   intro N best o c hbl hcl ho ho0 hr hc hw
   conv=>lhs; unfold F3
   simp only [ho,cT,hr,bS,hc,ho0,cF]
   by_cases cc:c.length+1 < best.length
   ·have x:ltI (C2 .i64 1 (C7 c)) (C7 best)=true:=by rw [H3 (by unfold C7; omega),B9]; unfold C7; omega
    rw [x,cT,rm c hcl,cT,hw]
    unfold S1
    rw [iP (by simpa using cc)]
    rfl
   ·have x:ltI (C2 .i64 1 (C7 c)) (C7 best)=false:=by rw [← Bool.not_eq_true,H3 (by unfold C7; omega),B9]; unfold C7; omega
    rw [x,cF]
    unfold S1
    rw [iN (by simpa using cc)]
  have last:∀ (N:Nat) (best:List Int),F3 F (fun z=>some (z,((0:Int),()))) (N+1) l best 3=some (best,(0,())):=fun N best=>rfl
  have e0:=first (G+3)
  have e1:=step (G+2) (rO 0 l) 1 (nE (zs (dfn 1 l))) (by rw [q0]; simp; omega) s1 rfl rfl r1 n1 rfl
  have hs1:(S1 (rO 1 l) (rO 0 l)).length≤524291:=by
   have:=(Z5 (rO 1 l) (rO 0 l)).2.2
   rw [q0] at this ⊢; simp at this; omega
  have e2:=step (G+1) (S1 (rO 1 l) (rO 0 l)) 2 (nE (zs (dfn 2 l))) hs1 s2 rfl rfl r2 n2 rfl
  have e3:=last G (S1 (rO 2 l) (S1 (rO 1 l) (rO 0 l)))
  have hF4:F3 F (fun z=>some (z,((0:Int),()))) F l [] 0=F3 F (fun z=>some (z,((0:Int),()))) (G+3+1) l [] 0:=by rw [show G+3+1=F by omega]
  exact hF4.trans (e0.trans (e1.trans (e2.trans e3)))
theorem B4x{l:List Int}(hl:Sg l)(hn:l.length≤65536):(rE l).length≤524291∧0 < (rE l).length∧Bt (rE l):=by
 obtain ⟨n,h1,h2⟩:=E4J l
 rw [h2]
 exact ⟨(C1K hl hn).1,(C1K hl hn).2,E4I h1 hl⟩
theorem D28{l:List Int}(hn:l.length≤65536):rEe l=(rE l,0):=by unfold rEe; rw [iN (by omega)]
abbrev Smp:=Int×Int×Unit
def B0J(l:List Smp):Prop:=∀ s∈l,I64 s.1∧I64 s.2.1
theorem B0J.push{l:List Smp}(h:B0J l){a b:Int}(ha:I64 a)(hb:I64 b):B0J (l++[(a,(b,()))]):=by
 intro s hs
 rcases List.mem_append.1 hs with h1 | h1
 ·exact h s h1
 ·simp at h1; subst h1; exact ⟨ha,hb⟩
theorem B76(F:Nat)(hF:D9 F)(kd slope:Int){times:List Int}(hT:Sg times)(hTl:times.length≤1000):∀ (m i:Nat) (t:List Int×Int×Unit) (l:List Smp) (v:Int),i+m=times.length→J4 t→B0J l→I64 v→l.length=i →
  ∀ N,m < N→∃ t' l',J4 t'∧B0J l'∧l'.length=times.length∧(l'.map fun s=>s.1)=(l.map fun s=>s.1)++times.drop i∧∀ (R:Type) (k:List Int×Int×Unit→List Smp→Option R),B7 F k N t times l kd v slope (i:Int)=k t' l':=by
 intro m
 induction m with
 | zero =>
  intro i t l v hi ht hl hv hli N hN
  obtain ⟨N,rfl⟩:∃ M,N=M+1:=⟨N - 1,by omega⟩
  refine ⟨t,l,ht,hl,by omega,by rw [List.drop_eq_nil_of_le (by omega),List.append_nil],fun R k=>?_⟩
  unfold B7
  simp (disch:=omega) only [bs,↓iP,↓iN]
 | succ m ih =>
  intro i t l v hi ht hl hv hli N hN
  obtain ⟨N,rfl⟩:∃ M,N=M+1:=⟨N - 1,by omega⟩
  have fin:∀ (t1:List Int×Int×Unit) (x v1:Int),J4 t1→I64 x→I64 v1→(∀ (R:Type) (k:List Int×Int×Unit→List Smp→Option R),B7 F k (N+1) t times l kd v slope (i:Int) =
    B7 F k N t1 times (l++[(B1 0 times (i:Int),(x,()))]) kd v1 slope (C2 .i64 (i:Int) 1)) →
    ∃ t' l',J4 t'∧B0J l'∧l'.length=times.length∧(l'.map fun s=>s.1)=(l.map fun s=>s.1)++times.drop i∧∀ (R:Type) (k:List Int×Int×Unit→List Smp→Option R),B7 F k (N+1) t times l kd v slope (i:Int)=k t' l':=by
   intro t1 x v1 ht1 hx hv1 e
   obtain ⟨t',l',g1,g2,g3,g5,g4⟩:=ih (i+1) t1 (l++[(B1 0 times (i:Int),(x,()))]) v1 (by omega) ht1 (hl.push (hT.get _) hx) hv1 (by simp; omega) N (by omega)
   refine ⟨t',l',g1,g2,g3,by rw [g5,A23 (l:=times) (j:=i) (by omega)]; simp,fun R k=>?_⟩
   rw [e R k,H3 (by omega)]
   have:=g4 R k
   simp only [Int.natCast_add,Int.natCast_one] at this
   exact this
  have h0:ltI (i:Int) (C7 times)=true:=by rw [B9]; unfold C7; omega
  have h1:inI (i:Int) times.length=true:=by rw [N3]; omega
  have hr:D8 (l.length+1) 16=true:=by rw [E5]; omega
  by_cases k1:kd=1
  ·refine fin t (C2 .i64 v (A0X .i64 (i:Int) slope)) v ht (F9 _) hv fun R k=>?_
   conv=>lhs; unfold B7
   have q:eqI kd 1=true:=by rw [C4]; exact k1
   simp only [h0,h1,hr,q,cT]
  ·have q1:eqI kd 1=false:=by rw [← Bool.not_eq_true,C4]; exact k1
   by_cases k2:kd=2
   ·obtain ⟨t1,w,e1,ht1,_,_⟩:=B5 F ht (n:=7) (by omega)
    refine fin t1 (C2 .i64 (C2 .i64 v (A0X .i64 (i:Int) slope)) (E7 .i64 w 3)) v ht1 (F9 _) hv fun R k=>?_
    conv=>lhs; unfold B7
    have q:eqI kd 2=true:=by rw [C4]; exact k2
    simp only [h0,h1,hr,q1,q,cT,cF,e1,bS]
   ·have q2:eqI kd 2=false:=by rw [← Bool.not_eq_true,C4]; exact k2
    by_cases k3:kd=3
    ·obtain ⟨t1,w,e1,ht1,_,_⟩:=B5 F ht (n:=9) (by omega)
     refine fin t1 (C2 .i64 v (E7 .i64 w 4)) v ht1 (F9 _) hv fun R k=>?_
     conv=>lhs; unfold B7
     have q:eqI kd 3=true:=by rw [C4]; exact k3
     simp only [h0,h1,hr,q1,q2,q,cT,cF,e1,bS]
    ·have q3:eqI kd 3=false:=by rw [← Bool.not_eq_true,C4]; exact k3
     by_cases k4:kd=4
     ·obtain ⟨t1,w,e1,ht1,hw⟩:=N1 F hF ht
      refine fin t1 w v ht1 hw hv fun R k=>?_
      conv=>lhs; unfold B7
      have q:eqI kd 4=true:=by rw [C4]; exact k4
      simp only [h0,h1,hr,q1,q2,q3,q,cT,cF,e1,bS]
     ·have q4:eqI kd 4=false:=by rw [← Bool.not_eq_true,C4]; exact k4
      by_cases k5:kd=5
      ·have q:eqI kd 5=true:=by rw [C4]; exact k5
       obtain ⟨t1,bb,e1,ht1⟩:=O2 F ht (n:=5) (by omega)
       cases bb with
       | true =>
        obtain ⟨t2,w,e2,ht2,_,_⟩:=B5 F ht1 (n:=400) (by omega)
        obtain ⟨t3,u,e3,ht3,_,_⟩:=B5 F ht2 (n:=3) (by omega)
        refine fin t3 (C2 .i64 (C2 .i64 v (E7 .i64 w 200)) u) (C2 .i64 v (E7 .i64 w 200)) ht3 (F9 _) (F9 _) fun R k=>?_
        conv=>lhs; unfold B7
        simp only [h0,h1,hr,q1,q2,q3,q4,q,cT,cF,e1,e2,e3,bS]
       | false =>
        obtain ⟨t3,u,e3,ht3,_,_⟩:=B5 F ht1 (n:=3) (by omega)
        refine fin t3 (C2 .i64 v u) v ht3 (F9 _) hv fun R k=>?_
        conv=>lhs; unfold B7
        simp only [h0,h1,hr,q1,q2,q3,q4,q,cT,cF,e1,e3,bS]
      ·have q5:eqI kd 5=false:=by rw [← Bool.not_eq_true,C4]; exact k5
       by_cases k6:kd=6
       ·have q:eqI kd 6=true:=by rw [C4]; exact k6
        obtain ⟨t2,w,e2,ht2,_,_⟩:=B5 F ht (n:=50) (by omega)
        obtain ⟨t3,u,e3,ht3,_,_⟩:=B5 F ht2 (n:=50) (by omega)
        refine fin t3 (A0X .i64 (A0X .i64 w u) slope) v ht3 (F9 _) hv fun R k=>?_
        conv=>lhs; unfold B7
        simp only [h0,h1,hr,q1,q2,q3,q4,q5,q,cT,cF,e2,e3,bS]
       ·have q6:eqI kd 6=false:=by rw [← Bool.not_eq_true,C4]; exact k6
        refine fin t v v ht hv hv fun R k=>?_
        conv=>lhs; unfold B7
        simp only [h0,h1,hr,q1,q2,q3,q4,q5,q6,cT,cF]
theorem A5s(F:Nat)(hF:D9 F){t:List Int×Int×Unit}(h:J4 t){n:Int}(hn:0≤n∧n≤100) :
  ∃ t' l,A0F F t n=some (t',l,())∧J4 t'∧B0J l∧(l.length:Int)≤n∧A6O (l.map fun s=>s.1)=true:=by
 obtain ⟨t1,ts,e1,h1,hs,hi,hl⟩:=A7v F hF h hn
 obtain ⟨t2,kd,e2,h2,_,_⟩:=B5 F h1 (n:=7) (by omega)
 obtain ⟨t3,v,e3,h3,hv⟩:=N1 F hF h2
 obtain ⟨t4,s,e4,h4,_,_⟩:=B5 F h3 (n:=41) (by omega)
 obtain ⟨t5,l,g1,g2,g3,g5,g4⟩:=B76 F hF kd (E7 .i64 s 20) hs (by omega) ts.length 0 t4 [] v (by omega) h4 (fun x hx=>by cases hx) hv rfl F (by unfold D9 at hF; omega)
 refine ⟨t5,l,?_,g1,g2,by omega,by rw [g5,List.drop_zero,List.map_nil,List.nil_append]; exact hi⟩
 unfold A0F
 simp only [e1,e2,e3,e4,bS]
 exact g4 _ _
theorem E4K{x:Int}(h:(Lit.int .u32 x).wf=true):0≤x∧x≤4294967295:=by
 simpa [Lit.wf,IntKind.min,IntKind.max,IntKind.signed,IntKind.bits] using h
theorem E4L{x:Int}(h:(Lit.int .i32 x).wf=true):-2147483648≤x∧x≤2147483647:=by
 simpa [Lit.wf,IntKind.min,IntKind.max,IntKind.signed,IntKind.bits] using h
theorem E0G{l:List Smp}(h:wfT (.slice (.pair (.int .i64) (.pair (.int .i64) .unit))) l):B0J l :=
 fun s hs=>⟨A6A (h.2 s hs).1,A6A (h.2 s hs).2.1⟩
def lss:List Int→List Int
 | []=>[]
 | x::t=>(x - 1)::lss t
theorem C75(F:Nat){R:Type}(k:List Int→Option R){src:List Int}(hs:∀ x∈src,1≤x∧x≤4096)(hb:src.length≤100000):∀ (rest pre out:List Int),src=pre++rest→out.length=pre.length→∀ N,rest.length < N →
  A0Q F k N src out (pre.length:Int)=k (out++lss rest):=by
 intro rest
 induction rest with
 | nil =>
  intro pre out he ho N hN
  obtain ⟨N,rfl⟩:∃ M,N=M+1:=⟨N - 1,by omega⟩
  have hlen:src.length=pre.length:=by rw [he]; simp
  unfold A0Q
  simp (disch:=omega) only [bs,↓iP,↓iN]
  simp [lss]
 | cons x rest ih =>
  intro pre out he ho N hN
  obtain ⟨N,rfl⟩:∃ M,N=M+1:=⟨N - 1,by omega⟩
  simp only [List.length_cons] at hN
  have hlen:src.length=pre.length+1+rest.length:=by rw [he]; simp; omega
  have g:B1 0 src (pre.length:Int)=x:=by rw [he]; exact L1 pre x rest
  have hx:=hs x (by rw [he]; simp)
  have hw:IntKind.u64.wrap (x - 1)=x - 1:=G8 (by omega)
  have e:=ih (pre++[x]) (out++[x - 1]) (by rw [he]; simp) (by simp [ho]) N (by omega)
  have hpl:(((pre++[x]).length:Nat):Int)=(pre.length:Int)+1:=by simp
  rw [hpl] at e
  have hz2:out++[x - 1]++lss rest=out++lss (x::rest):=by simp [lss]
  rw [hz2] at e
  unfold A0Q
  simp (disch:=omega) only [bs,↓iP,↓iN,g,hw]
  exact e
def hd(c v:List Int):List Int:=enc c.length++nE (lss c)++rE v
theorem D5P{l:List Int}(h:Wd l):(nE l).length≤1+10*l.length:=by
 have h1:=(D26 h).1
 have h2:=A9f h
 omega
theorem E4N{l:List Int}(h:Sg l):(rE l).length≤2+10*l.length:=by
 have h1:=D0h l (n:=0) (by omega)
 have h2:(rO 0 l).length=1+(nE (zs (dfn 0 l))).length:=by unfold rO; simp; omega
 have h3:=D5P (A60 (A26 0 h))
 rw [Q8,J2] at h3
 omega
def Sz(v s:Nat):Prop:=v < 2 ^ s∧(v=0→s=0)∧(0 < v→1≤s∧2 ^ (s - 1)≤v)
theorem p64(k:Nat):(18446744073709551616:Nat) ^ k=2 ^ (64*k):=by rw [show(18446744073709551616:Nat)=2 ^ 64 from rfl,← Nat.pow_mul]
theorem B8s:Sz 0 0:=⟨by omega,fun _=>rfl,fun h=>by omega⟩
theorem C1O{lo t s k:Nat}(hlo:lo < 2 ^ k)(ht:0 < t)(h:Sz t s):Sz (lo+2 ^ k*t) (k+s):=by
 obtain ⟨h1,_,h3⟩:=h
 obtain ⟨h4,h5⟩:=h3 ht
 have hk:0 < 2 ^ k:=Nat.pow_pos (by omega)
 refine ⟨?_,fun h=>?_,fun _=>⟨by omega,?_⟩⟩
 ·rw [Nat.pow_add]
  have:2 ^ k*(t+1)≤2 ^ k*2 ^ s:=Nat.mul_le_mul_left _ h1
  rw [Nat.mul_add] at this
  omega
 ·have:0 < 2 ^ k*t:=Nat.mul_pos hk ht
  omega
 ·rw [show k+s - 1=k+(s - 1) by omega,Nat.pow_add]
  have:2 ^ k*2 ^ (s - 1)≤2 ^ k*t:=Nat.mul_le_mul_left _ h5
  omega
theorem A86{x:Int}(hx:0≤x∧x≤18446744073709551615):Sz x.toNat (Lib.bitLen x.toNat)∧Lib.bitLen x.toNat≤64:=by
 refine ⟨?_,Lib.bitLen_le _ 64 (by omega) (by omega)⟩
 unfold Lib.bitLen
 by_cases h:x.toNat=0
 ·rw [h,Lib.bitLenAux_zero]; exact B8s
 ·have:=Lib.bitLenAux_bounds 64 x.toNat (by omega) h
  exact ⟨this.2.2,fun h0=>absurd h0 h,fun _=>⟨this.1,this.2.1⟩⟩
theorem C1P(F:Nat){x:Int}(hx:0≤x∧x≤18446744073709551615):N7 F x=some ((Lib.bitLen x.toNat:Int),()):=by
 have:(leI 0 x && leI x 18446744073709551615)=true:=by simp only [Bool.and_eq_true,K4]; omega
 simp only [N7,this,cT]
theorem D29{a b s t:Nat}(ha:Sz a s)(hb:Sz b t)(h0:0 < b)(h:t≤s):a < b*2 ^ (s - t+1)∧b*2 ^ (s - t) < 2 ^ s:=by
 obtain ⟨h1,_,_⟩:=ha
 obtain ⟨h2,_,h3⟩:=hb
 obtain ⟨h4,h5⟩:=h3 h0
 constructor
 ·have:2 ^ (t - 1)*2 ^ (s - t+1)≤b*2 ^ (s - t+1):=Nat.mul_le_mul_right _ h5
  rw [← Nat.pow_add,show t - 1+(s - t+1)=s by omega] at this
  omega
 ·have:b*2 ^ (s - t) < 2 ^ t*2 ^ (s - t):=Nat.mul_lt_mul_of_pos_right h2 (Nat.pow_pos (by omega))
  rw [← Nat.pow_add,show t+(s - t)=s by omega] at this
  exact this
theorem C76{a b s t:Nat}(ha:Sz a s)(hb:Sz b t)(h:s < t):a < b:=by
 obtain ⟨h1,_,_⟩:=ha
 obtain ⟨h2,h3,h4⟩:=hb
 have h0:0 < b:=by
  rcases Nat.eq_zero_or_pos b with h | h
  ·have:=h3 h; omega
  ·exact h
 obtain ⟨h5,h6⟩:=h4 h0
 have:2 ^ s≤2 ^ (t - 1):=Nat.pow_le_pow_right (by omega) (by omega)
 omega
structure Dv (a b m r d Q:Nat):Prop where
 hd:d=b*2 ^ m / 2
 hr:r < b*2 ^ m
 he:Q*b+r=a
 hQ:Q % 2 ^ m=0
theorem Dv.start{a b n:Nat}(h:a < b*2 ^ (n+1)):Dv a b (n+1) a (b*2 ^ n) 0 :=
 ⟨by rw [Nat.pow_succ,← Nat.mul_assoc]; omega,h,by omega,by simp⟩
theorem Dv.done{a b r d Q:Nat}(h:Dv a b 0 r d Q):Q=a / b∧r=a % b:=by
 obtain ⟨_,hr,he,_⟩:=h
 rw [Nat.pow_zero,Nat.mul_one] at hr
 have hb:0 < b:=by omega
 rw [← he]
 constructor
 ·rw [Nat.mul_comm,Nat.mul_add_div hb,Nat.div_eq_of_lt hr]; rfl
 ·rw [Nat.mul_comm,Nat.mul_add_mod,Nat.mod_eq_of_lt hr]
theorem Dv.step{a b m r d Q:Nat}(h:Dv a b (m+1) r d Q):if d≤r then Dv a b m (r - d) (d / 2) (Q+2 ^ m) else Dv a b m r (d / 2) Q:=by
 obtain ⟨hd,hr,he,hQ⟩:=h
 have e1:b*2 ^ (m+1)=2*(b*2 ^ m):=by rw [Nat.pow_succ,← Nat.mul_assoc,Nat.mul_comm]
 rw [e1] at hd hr
 have hd:d=b*2 ^ m:=by omega
 have e2:Q % 2 ^ m=0:=by
  rw [Nat.pow_succ] at hQ
  have:=Nat.mod_mul_right_mod Q (2 ^ m) 2
  rw [hQ,Nat.zero_mod] at this
  exact this.symm
 split
 ·refine ⟨by rw [hd],by omega,?_,?_⟩
  ·rw [Nat.add_mul,Nat.mul_comm (2 ^ m) b,← hd]; omega
  ·rw [Nat.add_mod_right]; exact e2
 ·exact ⟨by rw [hd],by omega,he,e2⟩
theorem E07{w:Int}(hw:0≤w∧w≤18446744073709551615){i:Nat}(hi:i < 64)(h:w.toNat % 2 ^ (i+1)=0) :
  orI .u64 w (A0Y .u64 1 (i:Int))=w+((2 ^ i:Nat):Int)∧w+((2 ^ i:Nat):Int)≤18446744073709551615:=by
 have hp:2 ^ i < 2 ^ 64:=Nat.pow_lt_pow_right (by omega) hi
 have hp0:0 < 2 ^ i:=Nat.pow_pos (by omega)
 rw [A32 (by omega) (by omega),Int.toNat_natCast,Nat.min_eq_left (by omega)]
 rw [show(1:Int).toNat*2 ^ i % 2 ^ 64=2 ^ i by rw [show(1:Int).toNat=1 from rfl,Nat.one_mul,Nat.mod_eq_of_lt hp]]
 rw [A3t hw (by omega),Int.toNat_natCast]
 obtain ⟨c,hc⟩:=Nat.dvd_of_mod_eq_zero h
 have hlt:2 ^ i < 2 ^ (i+1):=by rw [Nat.pow_succ]; omega
 have e:=Nat.two_pow_add_eq_or_of_lt hlt c
 rw [← hc] at e
 rw [← e]
 refine ⟨by omega,?_⟩
 have h64:(2:Nat) ^ 64=2 ^ (i+1)*2 ^ (64 - (i+1)):=by rw [← Nat.pow_add]; congr 1; omega
 have hw2:w.toNat < 2 ^ 64:=by omega
 rw [hc,h64] at hw2
 have hc2:c < 2 ^ (64 - (i+1)):=Nat.lt_of_mul_lt_mul_left hw2
 have:2 ^ (i+1)*(c+1)≤2 ^ (i+1)*2 ^ (64 - (i+1)):=Nat.mul_le_mul_left _ hc2
 rw [← h64,Nat.mul_add] at this
 omega
def C7A(l:List Int)(i:Nat):List Int:=F1 l ((i / 64:Nat):Int) (orI .u64 (B1 0 l ((i / 64:Nat):Int)) (A0Y .u64 1 ((i % 64:Nat):Int)))
theorem B8t:∀ {l:List Int} {i:Nat},Wd l→i / 64 < l.length→wv l % 2 ^ (i+1)=0→Wd (C7A l i)∧(C7A l i).length=l.length∧wv (C7A l i)=wv l+2 ^ i
 | [],i,_,h,_=>by simp at h
 | x::t,i,hw,hl,hm=>by
  have hx:=Wd.head hw
  by_cases hi:i < 64
  ·have e0:i / 64=0:=by omega
   have e1:i % 64=i:=by omega
   have hp:2 ^ (i+1) ∣ 18446744073709551616:=by
    rw [show(18446744073709551616:Nat)=2 ^ 64 from rfl]; exact Nat.pow_dvd_pow 2 (by omega)
   have hxm:x.toNat % 2 ^ (i+1)=0:=by
    simp only [wv] at hm
    obtain ⟨c,hc⟩:=hp
    rw [hc,Nat.mul_assoc,Nat.add_mul_mod_self_left] at hm
    exact hm
   obtain ⟨h1,h2⟩:=E07 hx hi hxm
   have hp0:0 < 2 ^ i:=Nat.pow_pos (by omega)
   have es:C7A (x::t) i=(x+((2 ^ i:Nat):Int))::t:=by
    unfold C7A
    rw [e0,e1,show B1 0 (x::t) ((0:Nat):Int)=x from rfl,h1]
    rfl
   rw [es]
   refine ⟨Wd.cons (by omega) (Wd.tail hw),rfl,?_⟩
   simp only [wv]
   omega
  ·obtain ⟨j,rfl⟩:∃ j,i=j+64:=⟨i - 64,by omega⟩
   have e0:(j+64) / 64=j / 64+1:=by omega
   have e1:(j+64) % 64=j % 64:=by omega
   have e2:(2:Nat) ^ (j+64+1)=18446744073709551616*2 ^ (j+1):=by
    rw [show j+64+1=64+(j+1) by omega,Nat.pow_add]
   have e3:(2:Nat) ^ (j+64)=18446744073709551616*2 ^ j:=by
    rw [Nat.add_comm,Nat.pow_add]
   simp only [wv] at hm
   rw [e2,Nat.mod_mul] at hm
   have hb:(x.toNat+18446744073709551616*wv t) / 18446744073709551616=wv t:=by omega
   rw [hb] at hm
   have hm:wv t % 2 ^ (j+1)=0:=by omega
   obtain ⟨h1,h2,h3⟩:=B8t (l:=t) (i:=j) (Wd.tail hw) (by simp at hl; omega) hm
   have es:C7A (x::t) (j+64)=x::C7A t j:=by
    unfold C7A
    rw [e0,e1]
    simp only [F1,B1,Int.toNat_natCast,List.set_cons_succ,List.getD_cons_succ]
   rw [es]
   refine ⟨Wd.cons hx h1,by simp [h2],?_⟩
   simp only [wv,h3,e3]
   omega
theorem D0j{v n:Nat}{l:List Int}(h:l=ofn v)(hn:l.length=n+1):0 < B1 0 l (n:Int):=by
 subst h
 have hw:=T7 v
 have hg:=Wd.get hw (n:Int)
 rcases Int.lt_or_le 0 (B1 0 (ofn v) (n:Int)) with h | h
 ·exact h
 ·exfalso
  have h0:(ofn v).getD n 0=0:=by have:=A0E 0 (ofn v) n; omega
  have e1:(ofn v)=(ofn v).take n++[(ofn v).getD n 0]:=by
   rw [← A5l (by omega),List.take_of_length_le (by omega)]
  have e2:=congrArg wv e1
  rw [N0,G4,h0] at e2
  have e3:=A5k (Wd.take hw n)
  rw [List.length_take,Nat.min_eq_left (by omega)] at e3
  simp [wv] at e2
  have e4:=(I8 (v:=v) (n:=n)).2 (by omega)
  omega
theorem A7y(F:Nat){v:Nat}(hl:(ofn v).length≤1000):∃ s:Nat,Sz v s∧s≤64*(ofn v).length∧A3h F (ofn v)=some ((s:Int),()):=by
 by_cases h0:(ofn v).length=0
 ·have:=B0x.1 h0
  subst this
  refine ⟨0,B8s,by omega,?_⟩
  unfold A3h
  simp (disch:=omega) only [bs,↓iP,↓iN]
  rfl
 ·obtain ⟨n,hn⟩:∃ n,(ofn v).length=n+1:=⟨_,(Nat.succ_pred_eq_of_pos (by omega)).symm⟩
  have hw:=T7 v
  have hg:=Wd.get hw (n:Int)
  have hpos:=D0j rfl hn
  obtain ⟨h1,h2⟩:=A86 hg
  have e1:(ofn v)=(ofn v).take n++[B1 0 (ofn v) (n:Int)]:=by
   rw [A0E,← A5l (by omega),List.take_of_length_le (by omega)]
  have e2:=congrArg wv e1
  have e3:=A5k (Wd.take hw n)
  rw [List.length_take,Nat.min_eq_left (by omega)] at e3
  rw [N0,G4,List.length_take,Nat.min_eq_left (by omega)] at e2
  simp only [wv,Nat.mul_zero,Nat.add_zero] at e2
  rw [p64] at e2 e3
  refine ⟨64*n+Lib.bitLen (B1 0 (ofn v) (n:Int)).toNat,?_,by omega,?_⟩
  ·have:=C1O e3 (by omega) h1
   rw [← e2] at this
   exact this
  ·unfold A3h
   have hc:((ofn v).length:Int) - 1=(n:Int):=by omega
   simp (disch:=omega) only [bs,↓iP,↓iN,hc,C1P F hg]
   simp only [Int.natCast_add,Int.natCast_mul]
   rfl
theorem C77{x:Int}(hx:0≤x∧x≤18446744073709551615){r c:Nat}(hr:r < 64)(hc:c < 2 ^ r) :
  orI .u64 (c:Int) (A0Y .u64 x (r:Int))=((c+x.toNat*2 ^ r % 18446744073709551616:Nat):Int)∧c+x.toNat*2 ^ r % 18446744073709551616 < 18446744073709551616:=by
 have h64:(18446744073709551616:Nat)=2 ^ r*2 ^ (64 - r):=by rw [← Nat.pow_add,show r+(64 - r)=64 by omega]
 have hm:x.toNat*2 ^ r % 18446744073709551616=2 ^ r*(x.toNat % 2 ^ (64 - r)):=by
  rw [h64,Nat.mul_comm x.toNat,Nat.mul_mod_mul_left]
 have hp:2 ^ r < 2 ^ 64:=Nat.pow_lt_pow_right (by omega) hr
 have hlt:x.toNat % 2 ^ (64 - r) < 2 ^ (64 - r):=Nat.mod_lt _ (Nat.pow_pos (by omega))
 have hsum:c+x.toNat*2 ^ r % 18446744073709551616 < 18446744073709551616:=by
  rw [hm]
  have:2 ^ r*(x.toNat % 2 ^ (64 - r)+1)≤2 ^ r*2 ^ (64 - r):=Nat.mul_le_mul_left _ hlt
  rw [← h64,Nat.mul_add] at this
  omega
 refine ⟨?_,hsum⟩
 rw [A32 hx.1 (by omega),Int.toNat_natCast,Nat.min_eq_left (by omega),show(2:Nat) ^ 64=18446744073709551616 from rfl]
 rw [A3t (by omega) (by omega),Int.toNat_natCast,Int.toNat_natCast,hm,Nat.or_comm,← Nat.two_pow_add_eq_or_of_lt hc]
 omega
theorem B4y{x:Int}(hx:0≤x∧x≤18446744073709551615){r:Nat}(hr:r < 64) :
  x.toNat*2 ^ r / 18446744073709551616 < 2 ^ r∧(0 < r→T8 .u64 x ((64 - r:Nat):Int)=((x.toNat*2 ^ r / 18446744073709551616:Nat):Int)):=by
 have h64:(18446744073709551616:Nat)=2 ^ (64 - r)*2 ^ r:=by rw [← Nat.pow_add,show 64 - r+r=64 by omega]
 have e:x.toNat*2 ^ r / 18446744073709551616=x.toNat / 2 ^ (64 - r):=by
  rw [h64,Nat.mul_div_mul_right _ _ (Nat.pow_pos (by omega))]
 rw [e]
 constructor
 ·rw [Nat.div_lt_iff_lt_mul (Nat.pow_pos (by omega)),Nat.mul_comm,← h64]
  omega
 ·intro h0
  rw [A0d hx.1,Int.toNat_natCast,Nat.min_eq_left (by show 64 - r≤64; omega)]
theorem C78(d:List Int)(x y z w:Int)(t:List Int):F1 (F1 (d++x::y::t) (d.length:Int) z) ((d.length:Int)+1) w=(d++[z])++w::t:=by
 rw [A0x,show(d.length:Int)+1=((d++[z]).length:Int) by simp,A0x]
 simp
theorem E08{wp P c lo hi B X A x W R:Nat}(hinv:wp+P*c=X*(W*R))(hP:P=A*W)(hx:x*R=lo+B*hi) :
  wp+P*(c+lo)+P*B*hi=(X+A*x)*(W*R):=by
 rw [Nat.add_mul,Nat.mul_mul_mul_comm A x W R,← hP,hx,← hinv,Nat.mul_add,Nat.mul_add,Nat.mul_assoc]
 omega
theorem D5Q{x:Int}(hx:0≤x∧x≤18446744073709551615):orI .u64 0 x=x:=by
 rw [A3t (by omega) hx]
 simp only [show(0:Int).toNat=0 from rfl,Nat.zero_or]
 omega
set_option maxHeartbeats 4000000 in
theorem D5S(F:Nat){R:Type}(k:List Int→Option R){a:List Int}(ha:Wd a){w r:Nat}(hr:r < 64)(hsz:(a.length:Int)+w≤100000)(x1:Int)
  (hq:A0W .i64 x1 64=(w:Int)) (hm:A1y x1 64=(r:Int)) :
  ∀ (xb xa p:List Int) (c:Nat),a=xa++xb→p.length=xa.length+w→c < 2 ^ r→Wd p→wv p+18446744073709551616 ^ p.length*c=wv xa*(2 ^ (64*w)*2 ^ r) →
   ∀ N,xb.length < N→∃ o:List Int,Wd o∧o.length=a.length+w+1∧wv o=wv a*(2 ^ (64*w)*2 ^ r) ∧
    A1h F k N a x1 (p++(c:Int)::List.replicate xb.length 0) (xa.length:Int)=k o:=by
 have h2r:2 ^ r < 2 ^ 64:=Nat.pow_lt_pow_right (by omega) hr
 intro xb
 induction xb with
 | nil =>
  intro xa p c he hp hc hw hi N hN
  obtain ⟨N,rfl⟩:∃ M,N=M+1:=⟨N - 1,by omega⟩
  rw [List.append_nil] at he
  subst he
  refine ⟨p++[(c:Int)],Wd.append hw (Wd.one (by omega)),by simp [hp],by rw [G4]; simp only [wv,Int.toNat_natCast,Nat.mul_zero,Nat.add_zero]; exact hi,?_⟩
  unfold A1h
  simp (disch:=omega) only [bs,↓iP,↓iN]
  rfl
 | cons x t ih =>
  intro xa p c he hp hc hw hi N hN
  obtain ⟨N,rfl⟩:∃ M,N=M+1:=⟨N - 1,by omega⟩
  have hx:0≤x∧x≤18446744073709551615:=ha x (by rw [he]; simp)
  have hal:a.length=xa.length+(t.length+1):=by rw [he]; simp
  obtain ⟨o1,o2⟩:=C77 hx hr hc
  obtain ⟨s1,s2⟩:=B4y hx hr
  have hdm:=Nat.mod_add_div (x.toNat*2 ^ r) 18446744073709551616
  have hdiv:=Nat.div_add_mod (x.toNat*2 ^ r) 18446744073709551616
  generalize x.toNat*2 ^ r % 18446744073709551616=lo at *
  generalize x.toNat*2 ^ r / 18446744073709551616=hi' at *
  obtain ⟨o,h1,h2,h3,h4⟩:=ih (xa++[x]) (p++[((c+lo:Nat):Int)]) hi' (by rw [he]; simp) (by simp; omega) s1 (Wd.append hw (Wd.one (by omega))) (by
   rw [G4,G4]
   simp only [wv,Int.toNat_natCast,Nat.mul_zero,Nat.add_zero,List.length_append,List.length_singleton,Nat.pow_succ]
   refine E08 hi ?_ hdm.symm
   rw [hp,Nat.pow_add,p64 w]) N (by simp at hN; omega)
  refine ⟨o,h1,h2,h3,?_⟩
  have hcast:((xa++[x]).length:Int)=(xa.length:Int)+1:=by simp
  rw [hcast] at h4
  have hg:B1 0 a (xa.length:Int)=x:=by rw [he]; exact L1 _ _ _
  have hpw:(xa.length:Int)+(w:Int)=(p.length:Int):=by omega
  have hwr:IntKind.u64.wrap (r:Int)=(r:Int):=G8 (by omega)
  have hlen:(p++(c:Int)::List.replicate (t.length+1) (0:Int)).length=p.length+(t.length+2):=by simp
  rw [List.length_cons]
  unfold A1h
  rw [hq,hm]
  by_cases h0:0 < r
  ·have hwr2:IntKind.u64.wrap (64 - (r:Int))=((64 - r:Nat):Int):=by rw [G8 (by omega)]; omega
   have s3:=s2 h0
   simp (disch:=omega) only [bs,↓iP,↓iN,hg,hpw,hwr,hwr2]
   rw [List.replicate_succ]
   rw [L1,o1,A8v,s3,D5Q (by omega),C78]
   exact h4
  ·have hr0:r=0:=by omega
   subst hr0
   have hh:hi'=0:=by omega
   subst hh
   simp (disch:=omega) only [bs,↓iP,↓iN,hg,hpw,hwr]
   rw [List.replicate_succ]
   rw [L1,o1,A0x]
   exact h4
theorem E4O(F:Nat)(hF:D9 F){v n:Nat}(hv:(ofn v).length≤1000)(hn:n≤10000):A8W F (ofn v) (n:Int)=some (ofn (v*2 ^ n),()):=by
 have hF':=hF
 unfold D9 at hF'
 have hq:A0W .i64 (n:Int) 64=((n / 64:Nat):Int):=by rw [A7c (by omega) (by omega) (by omega)]; omega
 have hm:A1y (n:Int) 64=((n % 64:Nat):Int):=by rw [A58 (by omega)]; omega
 obtain ⟨o,h1,h2,h3,h4⟩:=D5S F (fun z32=>(A1g F z32).bind fun r33=>some (r33.1,())) (T7 v) (w:=n / 64) (r:=n % 64) (by omega) (by omega) (n:Int) hq hm
  (ofn v) [] (List.replicate (n / 64) 0) 0 rfl (by simp) (Nat.pow_pos (by omega)) (fun x hx=>by rw [List.eq_of_mem_replicate hx]; omega) (by rw [B4o]; simp [wv]) F (by omega)
 unfold A8W
 rw [hq]
 simp (disch:=omega) only [bs,↓iP,↓iN]
 have er:I5 (((ofn v).length:Int)+((n / 64:Nat):Int)+1) (0:Int)=List.replicate (n / 64) 0++((0:Nat):Int)::List.replicate (ofn v).length 0:=by
  rw [show((0:Nat):Int)::List.replicate (ofn v).length (0:Int)=List.replicate ((ofn v).length+1) 0 by rw [List.replicate_succ]; rfl,List.replicate_append_replicate]
  unfold I5
  congr 1
  omega
 rw [er]
 refine Eq.trans h4 ?_
 simp (disch:=omega) only [bs,↓iP,↓iN,C1y F hF h1 (by omega)]
 rw [h3,N0,← Nat.pow_add,show 64*(n / 64)+n % 64=n by omega]
def A8y:Nat:=18446744073709551616 ^ 8
theorem C1Q{s k:Nat}(h:s≤64*k):2 ^ s≤18446744073709551616 ^ k:=by
 rw [p64]
 exact Nat.pow_le_pow_right (by omega) h
theorem E0H{v:Nat}(h:v < A8y):(ofn v).length≤8:=E2 h
theorem B8u(F:Nat)(hF:D9 F){R:Type}(k2:List Int→List Int→Option R){a b:Nat} :
  ∀ (m r d Q:Nat) (x6:List Int),Dv a b m r d Q→Wd x6→wv x6=Q→m≤64*x6.length→x6.length≤1000→r < A8y→d < A8y →
   ∀ N,m < N→∃ o:List Int,Wd o∧o.length=x6.length∧wv o=a / b∧Q3 F k2 N x6 (ofn r) (ofn d) ((m:Int) - 1)=k2 o (ofn (a % b)):=by
 intro m
 induction m with
 | zero =>
  intro r d Q x6 h hw he hm hl h1 h2 N hN
  obtain ⟨N,rfl⟩:∃ M,N=M+1:=⟨N - 1,by omega⟩
  obtain ⟨e1,e2⟩:=h.done
  refine ⟨x6,hw,rfl,by rw [he,e1],?_⟩
  unfold Q3
  simp (disch:=omega) only [bs,↓iP,↓iN,e2]
 | succ m ih =>
  intro r d Q x6 h hw he hm hl h1 h2 N hN
  obtain ⟨N,rfl⟩:∃ M,N=M+1:=⟨N - 1,by omega⟩
  have hs:=h.step
  have l1:=E0H h1
  have l2:=E0H h2
  have hd2:d / 2 < A8y:=by omega
  have ei:((m+1:Nat):Int) - 1=(m:Int):=by omega
  rw [ei]
  have hq:A0W .i64 (m:Int) 64=((m / 64:Nat):Int):=by rw [A7c (by omega) (by omega) (by omega)]; omega
  have hmm:A1y (m:Int) 64=((m % 64:Nat):Int):=by rw [A58 (by omega)]; omega
  have hwr:IntKind.u64.wrap ((m % 64:Nat):Int)=((m % 64:Nat):Int):=G8 (by omega)
  unfold Q3
  rw [hq,hmm,hwr,A82 F hF (by omega) (by omega)]
  have hc:leI 0 (C1z r d)=decide (d≤r):=by
   unfold leI C1z
   apply decide_eq_decide.2
   split <;> (try split) <;> omega
  simp only [bS,hc]
  by_cases hdr:d≤r
  ·rw [iP hdr] at hs
   have hle:(ofn d).length≤(ofn r).length:=I8.2 (Nat.lt_of_le_of_lt hdr (I8.1 (Nat.le_refl _)))
   obtain ⟨b1,b2,b3⟩:=B8t hw (i:=m) (by omega) (by rw [he]; exact h.hQ)
   obtain ⟨o,g1,g2,g3,g4⟩:=ih (r - d) (d / 2) (Q+2 ^ m) (C7A x6 m) hs b1 (by rw [b3,he]) (by omega) (by omega) (by omega) hd2 N (by omega)
   refine ⟨o,g1,by omega,g3,?_⟩
   refine Eq.trans ?_ g4
   rw [decide_eq_true hdr,D5K F hF (T7 r) (T7 d) hle (by omega) (by rw [N0,N0]; exact hdr),N0,N0]
   simp (disch:=omega) only [bs,↓iP,↓iN,C6P F hF (T7 d) (by omega),N0]
   rfl
  ·rw [iN hdr] at hs
   obtain ⟨o,g1,g2,g3,g4⟩:=ih r (d / 2) Q x6 hs hw he (by omega) hl h1 hd2 N (by omega)
   refine ⟨o,g1,g2,g3,?_⟩
   refine Eq.trans ?_ g4
   rw [decide_eq_false hdr]
   simp (disch:=omega) only [bs,↓iP,↓iN,C6P F hF (T7 d) (by omega),N0]
theorem B0K(F:Nat)(hF:D9 F){a b:Nat}(hb:0 < b)(ha:a < A8y)(hbl:b < A8y) :
  A1t F (ofn a) (ofn b)=some (ofn (a / b),ofn (a % b),()):=by
 have l1:=E0H ha
 have l2:=E0H hbl
 have hF':=hF
 unfold D9 at hF'
 by_cases h1:(ofn b).length=1
 ·have hlt:b < 18446744073709551616:=by have:=D24 (v:=b) (n:=1) (by omega); rw [Nat.pow_one] at this; exact this
  have ob:ofn b=[(b:Int)]:=by
   rw [A6H (by omega),Nat.div_eq_of_lt hlt,A1a,Nat.mod_eq_of_lt hlt]
  rw [ob,B2e F hF (T7 _) (by omega) (by omega),N0,Int.toNat_natCast]
 ·unfold A1t
  obtain ⟨s,hs,hsl,es⟩:=A7y F (v:=a) (by omega)
  obtain ⟨t,ht,htl,et⟩:=A7y F (v:=b) (by omega)
  have ht1:=(ht.2.2 hb).1
  have etr:J1 F ([]++ofn a)=some (ofn a,()):=by
   rw [List.nil_append,A3E F hF (T7 a) (by omega),N0]
  have hne:¬ (((ofn b).length:Int)=1):=by omega
  by_cases hst:s < t
  ·have hlt:=C76 hs ht hst
   simp (disch:=omega) only [bs,↓iP,↓iN,etr,es,et]
   rw [Nat.div_eq_of_lt hlt,Nat.mod_eq_of_lt hlt,A1a]
  ·obtain ⟨c1,c2⟩:=D29 hs ht hb (by omega)
   have hst2:(s:Int) - (t:Int)=((s - t:Nat):Int):=by omega
   have h8:b*2 ^ (s - t) < A8y:=by
    exact Nat.lt_of_lt_of_le c2 (C1Q (k:=8) (by omega))
   obtain ⟨o,g1,g2,g3,g4⟩:=B8u F hF (fun z39 z40=>(J1 F z39).bind fun r41=>some (r41.1,(z40,()))) (s - t+1) a (b*2 ^ (s - t)) 0 (I5 ((ofn a).length:Int) (0:Int)) (Dv.start c1) (Wd.repl _) (by unfold I5; exact B4o _) (by simp [I5]; omega) (by simp [I5]; omega) ha h8 F (by omega)
   have e1:((s - t+1:Nat):Int) - 1=((s - t:Nat):Int):=by omega
   rw [e1] at g4
   simp (disch:=omega) only [bs,↓iP,↓iN,etr,es,et,hst2,E4O F hF (v:=b) (n:=s - t) (by omega) (by omega)]
   refine Eq.trans g4 ?_
   have:(I5 ((ofn a).length:Int) (0:Int)).length=(ofn a).length:=by simp [I5]
   simp (disch:=omega) only [bs,↓iP,↓iN,A3E F hF g1 (by omega)]
   rw [g3]
theorem D0k{l:List Int}(hw:Wd l)(h:l.length=4):∃ a b c d:Int,l=[a,b,c,d]∧(0≤a∧a≤18446744073709551615)∧(0≤b∧b≤18446744073709551615)∧(0≤c∧c≤18446744073709551615)∧(0≤d∧d≤18446744073709551615):=by
 match l,h with
 | [a,b,c,d],_=>exact ⟨a,b,c,d,rfl,hw a (by simp),hw b (by simp),hw c (by simp),hw d (by simp)⟩
theorem wd4{a b c d:Int}(h0:0≤a∧a≤18446744073709551615)(h1:0≤b∧b≤18446744073709551615)(h2:0≤c∧c≤18446744073709551615)(h3:0≤d∧d≤18446744073709551615):Wd [a,b,c,d] :=
 Wd.cons h0 (Wd.cons h1 (Wd.cons h2 (Wd.one h3)))
theorem wv4(a b c d:Int):wv [a,b,c,d]=a.toNat+18446744073709551616*(b.toNat+18446744073709551616*(c.toNat+18446744073709551616*d.toNat)):=by
 simp only [wv]
 omega
theorem g0(a b c d:Int):B1 0 [a,b,c,d] 0=a:=rfl
theorem g1(a b c d:Int):B1 0 [a,b,c,d] 1=b:=rfl
theorem g2(a b c d:Int):B1 0 [a,b,c,d] 2=c:=rfl
theorem g3(a b c d:Int):B1 0 [a,b,c,d] 3=d:=rfl
theorem E4P(a b c d x:Int):F1 [a,b,c,d] 0 x=[x,b,c,d]:=rfl
theorem E0I(a b c d x:Int):F1 [a,b,c,d] 1 x=[a,x,c,d]:=rfl
theorem E09(a b c d x:Int):F1 [a,b,c,d] 2 x=[a,b,x,d]:=rfl
theorem D64(a b c d x:Int):F1 [a,b,c,d] 3 x=[a,b,c,x]:=rfl
theorem l4(a b c d:Int):(([a,b,c,d]:List Int).length:Int)=4:=rfl
def E4Q(x y:Int):Int:=if x < y then -1 else if y < x then 1 else 0
theorem D0l(F:Nat)(x y:Int):K9 F x y=some (E4Q x y,()):=by
 unfold K9 A18 E4Q
 simp (disch:=omega) only [bs,↓iP,↓iN]
 split <;> (try split) <;> rfl
theorem A87(F:Nat){R:Type}(k0 kr:Int→Option R)(l:List Int){i:Int}(hi:0≤i)(h:i < (l.length:Int))(hm:(l.length:Int)≤1000)(N:Nat) :
  O6 F k0 kr (N+1) 0 l (l.length:Int) i=if B1 0 l i=0 then O6 F k0 kr N 0 l (l.length:Int) (i+1) else kr (B1 0 l i):=by
 rw [O6]
 simp (disch:=omega) only [bs,↓iP,↓iN]
 by_cases hz:B1 0 l i=0
 ·rw [iP hz]; simp (disch:=omega) only [bs,↓iP,↓iN]
 ·rw [iN hz]; simp (disch:=omega) only [bs,↓iP,↓iN]
theorem E4S(F:Nat)(hF:D9 F)(p q r s:Int):A2c F [p,q,r,s]=some (if p=0 then(if q=0 then(if r=0 then s else r) else q) else p,()):=by
 unfold D9 at hF
 obtain ⟨N,hN⟩:∃ N,F=N+1+1+1+1+1:=⟨F - 5,by omega⟩
 unfold A2c
 have key:∀ M,M=N+1+1+1+1+1→O6 F (fun z6=>some (z6,())) (fun z7=>some (z7,())) M 0 [p,q,r,s] (([p,q,r,s]:List Int).length:Int) 0=some (if p=0 then(if q=0 then(if r=0 then s else r) else q) else p,()):=by
  intro M hM
  subst hM
  rw [A87 F _ _ _ (by omega) (by rw [l4]; omega) (by rw [l4]; omega),g0]
  split
  ·rw [show(0:Int)+1=1 from rfl,A87 F _ _ _ (by omega) (by rw [l4]; omega) (by rw [l4]; omega),g1]
   split
   ·rw [show(1:Int)+1=2 from rfl,A87 F _ _ _ (by omega) (by rw [l4]; omega) (by rw [l4]; omega),g2]
    split
    ·rw [show(2:Int)+1=3 from rfl,A87 F _ _ _ (by omega) (by rw [l4]; omega) (by rw [l4]; omega),g3]
     split
     ·rename_i h
      rw [show(3:Int)+1=4 from rfl,O6,l4,h]
      simp (disch:=omega) only [bs,↓iP,↓iN]
     ·rfl
    ·rfl
   ·rfl
  ·rfl
 exact key F hN
theorem A3G(F:Nat)(hF:D9 F){l m:List Int}(hl:Wd l)(hm:Wd m)(h4:l.length=4)(h5:m.length=4):A1v F l m=some (C1z (wv l) (wv m),()):=by
 obtain ⟨a,b,c,d,rfl,ha,hb,hc,hd⟩:=D0k hl h4
 obtain ⟨a',b',c',d',rfl,ha',hb',hc',hd'⟩:=D0k hm h5
 unfold A1v
 simp only [g0,g1,g2,g3,D0l,bS,E4S F hF,wv4]
 congr 2
 unfold E4Q C1z
 rcases Int.lt_trichotomy d d' with h | h | h
 ·rw [iN (by rw [iP h]; omega),iP h,iP (by omega)]
 ·rw [iP (by rw [iN (by omega),iN (by omega)])]
  subst h
  rcases Int.lt_trichotomy c c' with h | h | h
  ·rw [iN (by rw [iP h]; omega),iP h,iP (by omega)]
  ·rw [iP (by rw [iN (by omega),iN (by omega)])]
   subst h
   rcases Int.lt_trichotomy b b' with h | h | h
   ·rw [iN (by rw [iP h]; omega),iP h,iP (by omega)]
   ·rw [iP (by rw [iN (by omega),iN (by omega)])]
    subst h
    split <;> (try split) <;> (try split) <;> (try split) <;> omega
   ·rw [iN (by rw [iN (by omega),iP h]; omega),iN (by omega),iP h,iN (by omega),iP (by omega)]
  ·rw [iN (by rw [iN (by omega),iP h]; omega),iN (by omega),iP h,iN (by omega),iP (by omega)]
 ·rw [iN (by rw [iN (by omega),iP h]; omega),iN (by omega),iP h,iN (by omega),iP (by omega)]
theorem D0m(F:Nat){x y c:Int}(hx:0≤x)(hy:0≤y∧y≤18446744073709551615)(hc:0≤c∧c≤1) :
  A0C F x y c=some ((x - y - c) % 18446744073709551616,if x < y+c then 1 else 0,()):=by
 unfold A0C
 have hcond:(leI 0 x && leI 0 y && leI y 18446744073709551615 && leI 0 c && leI c 1)=true:=by simp only [Bool.and_eq_true,K4]; omega
 rw [hcond,cT]
theorem A9g(F:Nat){R:Type}(k:List Int→Option R)(l m o:List Int){i c:Int}(hi:0≤i∧i < 4)(hx:0≤B1 0 l i)(hy:0≤B1 0 m i∧B1 0 m i≤18446744073709551615)(hc:0≤c∧c≤1)(N:Nat) :
  A0r F k (N+1) l m o c i=A0r F k N l m (F1 o i ((B1 0 l i - B1 0 m i - c) % 18446744073709551616)) (if B1 0 l i < B1 0 m i+c then 1 else 0) (i+1):=by
 rw [A0r]
 simp (disch:=omega) only [bs,↓iP,↓iN,D0m F hx hy hc]
theorem A8z(x:Int):0≤x % 18446744073709551616∧x % 18446744073709551616≤18446744073709551615:=by omega
theorem E0a{a b c d:Int}(h0:0≤a∧a≤18446744073709551615)(h1:0≤b∧b≤18446744073709551615)(h2:0≤c∧c≤18446744073709551615)(h3:0≤d∧d≤18446744073709551615) :
  ((wv [a,b,c,d]:Nat):Int)=a+18446744073709551616*b+340282366920938463463374607431768211456*c+6277101735386680763835789423207666416102355444464034512896*d:=by
 rw [wv4]; omega
theorem D5T{a b c d a' b' c' d' r1 r2 r3 r4 c1 c2 c3 c4:Int}(k1:r1=a - a'+18446744073709551616*c1)(k2:r2=b - b' - c1+18446744073709551616*c2)(k3:r3=c - c' - c2+18446744073709551616*c3)(k4:r4=d - d' - c3+18446744073709551616*c4)
  (h1:0≤r1∧r1≤18446744073709551615) (h2:0≤r2∧r2≤18446744073709551615) (h3:0≤r3∧r3≤18446744073709551615) (h4:0≤r4∧r4≤18446744073709551615) (b4:0≤c4∧c4≤1)
  (hV:a'+18446744073709551616*b'+340282366920938463463374607431768211456*c'+6277101735386680763835789423207666416102355444464034512896*d'≤a+18446744073709551616*b+340282366920938463463374607431768211456*c+6277101735386680763835789423207666416102355444464034512896*d) :
  r1+18446744073709551616*r2+340282366920938463463374607431768211456*r3+6277101735386680763835789423207666416102355444464034512896*r4=(a+18446744073709551616*b+340282366920938463463374607431768211456*c+6277101735386680763835789423207666416102355444464034512896*d) - (a'+18446744073709551616*b'+340282366920938463463374607431768211456*c'+6277101735386680763835789423207666416102355444464034512896*d'):=by
 have hs:r1+18446744073709551616*r2+340282366920938463463374607431768211456*r3+6277101735386680763835789423207666416102355444464034512896*r4=(a+18446744073709551616*b+340282366920938463463374607431768211456*c+6277101735386680763835789423207666416102355444464034512896*d) - (a'+18446744073709551616*b'+340282366920938463463374607431768211456*c'+6277101735386680763835789423207666416102355444464034512896*d')+115792089237316195423570985008687907853269984665640564039457584007913129639936*c4:=by
  clear h1 h2 h3 h4 b4 hV
  omega
 have hb:r1+18446744073709551616*r2+340282366920938463463374607431768211456*r3+6277101735386680763835789423207666416102355444464034512896*r4 < 115792089237316195423570985008687907853269984665640564039457584007913129639936:=by
  clear k1 k2 k3 k4 hV hs
  omega
 clear k1 k2 k3 k4 h1 h2 h3 h4
 generalize a+18446744073709551616*b+340282366920938463463374607431768211456*c+6277101735386680763835789423207666416102355444464034512896*d=V at *
 generalize a'+18446744073709551616*b'+340282366920938463463374607431768211456*c'+6277101735386680763835789423207666416102355444464034512896*d'=V' at *
 generalize r1+18446744073709551616*r2+340282366920938463463374607431768211456*r3+6277101735386680763835789423207666416102355444464034512896*r4=R at *
 omega
theorem B8v(p:Prop)[Decidable p]:0≤(if p then(1:Int) else 0)∧(if p then(1:Int) else 0)≤1:=by split <;> omega
theorem B8w(F:Nat)(hF:D9 F){l m:List Int}(hl:Wd l)(hm:Wd m)(h4:l.length=4)(h5:m.length=4)(h:wv m≤wv l):A7h F l m=some (A50 (wv l - wv m),()):=by
 obtain ⟨a,b,c,d,rfl,ha,hb,hc,hd⟩:=D0k hl h4
 obtain ⟨a',b',c',d',rfl,ha',hb',hc',hd'⟩:=D0k hm h5
 unfold D9 at hF
 obtain ⟨N,hN⟩:∃ N,F=N+1+1+1+1+1:=⟨F - 5,by omega⟩
 unfold A7h
 have key:∀ M,M=N+1+1+1+1+1→A0r F (fun z7=>some (z7,())) M [a,b,c,d] [a',b',c',d'] [0,0,0,0] 0 0=some (A50 (wv [a,b,c,d] - wv [a',b',c',d']),()):=by
  intro M hM
  subst hM
  rw [A9g F _ _ _ _ (by omega) (by rw [g0]; omega) (by rw [g0]; omega) (by omega)]
  rw [g0,g0,E4P,show(0:Int)+1=1 from rfl]
  rw [A9g F _ _ _ _ (by omega) (by rw [g1]; omega) (by rw [g1]; omega) (B8v _)]
  rw [g1,g1,E0I,show(1:Int)+1=2 from rfl]
  generalize hc1:(if a < a'+0 then(1:Int) else 0)=c1
  rw [A9g F _ _ _ _ (by omega) (by rw [g2]; omega) (by rw [g2]; omega) (B8v _)]
  rw [g2,g2,E09,show(2:Int)+1=3 from rfl]
  generalize hc2:(if b < b'+c1 then(1:Int) else 0)=c2
  rw [A9g F _ _ _ _ (by omega) (by rw [g3]; omega) (by rw [g3]; omega) (B8v _)]
  rw [g3,g3,D64,show(3:Int)+1=4 from rfl]
  generalize hc3:(if c < c'+c2 then(1:Int) else 0)=c3
  generalize hc4:(if d < d'+c3 then(1:Int) else 0)=c4
  rw [A0r]
  simp (disch:=omega) only [bs,↓iP,↓iN]
  have b1:0≤c1∧c1≤1:=by rw [← hc1]; exact B8v _
  have b2:0≤c2∧c2≤1:=by rw [← hc2]; exact B8v _
  have b3:0≤c3∧c3≤1:=by rw [← hc3]; exact B8v _
  have b4:0≤c4∧c4≤1:=by rw [← hc4]; exact B8v _
  congr 2
  refine A8w ?_ (A22 _) ?_ ?_
  ·exact wd4 (by omega) (by omega) (by omega) (by omega)
  ·rw [L2]
   ·rfl
   ·have:=A5k hl
    rw [h4] at this
    show _ < 18446744073709551616 ^ 4
    omega
  ·rw [H7]
   have k1:(a - a' - 0) % 18446744073709551616=a - a'+18446744073709551616*c1:=by rw [← hc1]; clear hc1 hc2 hc3 hc4 h; split <;> omega
   have k2:(b - b' - c1) % 18446744073709551616=b - b' - c1+18446744073709551616*c2:=by rw [← hc2]; clear hc1 hc2 hc3 hc4 h; split <;> omega
   have k3:(c - c' - c2) % 18446744073709551616=c - c' - c2+18446744073709551616*c3:=by rw [← hc3]; clear hc1 hc2 hc3 hc4 h; split <;> omega
   have k4:(d - d' - c3) % 18446744073709551616=d - d' - c3+18446744073709551616*c4:=by rw [← hc4]; clear hc1 hc2 hc3 hc4 h; split <;> omega
   have hV:(wv [a',b',c',d']:Int)≤(wv [a,b,c,d]:Int):=by omega
   have e:=D5T k1 k2 k3 k4 (A8z _) (A8z _) (A8z _) (A8z _) b4 (by rw [← E0a ha hb hc hd,← E0a ha' hb' hc' hd']; exact hV)
   rw [← E0a ha hb hc hd,← E0a ha' hb' hc' hd',← E0a (A8z _) (A8z _) (A8z _) (A8z _)] at e
   omega
 exact key F hN
theorem A7z(F:Nat){R:Type}(k:List Int→Option R)(l o:List Int){i:Int}(hi:0≤i∧i < 4)(hx:Wd l)(N:Nat)(ho:o.length=4) :
  O7 F k (N+1) l o i=O7 F k N l (F1 o i (if i < 3 then B1 0 l i / 2+B1 0 l (i+1) % 2*9223372036854775808 else B1 0 l i / 2)) (i+1):=by
 rw [O7]
 have h1:=hx.get i
 have h2:=hx.get (i+1)
 have hs:∀ x y:Int,F1 (F1 o i x) i y=F1 o i y:=fun x y=>by simp [F1]
 have hg:∀ x:Int,B1 0 (F1 o i x) i=x:=by
  intro x
  have:i.toNat < o.length:=by omega
  simp [F1,B1,this]
 by_cases h3:i < 3
 ·rw [iP h3]
  simp (disch:=omega) only [bs,↓iP,↓iN,hs,hg,B70]
 ·rw [iN h3]
  simp (disch:=omega) only [bs,↓iP,↓iN,E4G]
theorem A6k(F:Nat)(hF:D9 F){l:List Int}(hl:Wd l)(h4:l.length=4):A3A F l=some (A50 (wv l / 2),()):=by
 have hlt:=A5k hl
 rw [h4] at hlt
 obtain ⟨a,b,c,d,rfl,ha,hb,hc,hd⟩:=D0k hl h4
 unfold D9 at hF
 obtain ⟨N,hN⟩:∃ N,F=N+1+1+1+1+1:=⟨F - 5,by omega⟩
 unfold A3A
 have key:∀ M,M=N+1+1+1+1+1→O7 F (fun z14=>some (z14,())) M [a,b,c,d] [0,0,0,0] 0=some (A50 (wv [a,b,c,d] / 2),()):=by
  intro M hM
  subst hM
  rw [A7z F _ _ _ (by omega) hl _ rfl,show(0:Int)+1=1 from rfl,iP (by omega),g0,g1,E4P]
  rw [A7z F _ _ _ (by omega) hl _ rfl,show(1:Int)+1=2 from rfl,iP (by omega),g1,g2,E0I]
  rw [A7z F _ _ _ (by omega) hl _ rfl,show(2:Int)+1=3 from rfl,iP (by omega),g2,g3,E09]
  rw [A7z F _ _ _ (by omega) hl _ rfl,show(3:Int)+1=4 from rfl,iN (by omega),g3,D64]
  rw [O7]
  simp (disch:=omega) only [bs,↓iP,↓iN]
  congr 2
  refine A8w ?_ (A22 _) ?_ ?_
  ·exact wd4 (by omega) (by omega) (by omega) (by omega)
  ·rw [L2]
   ·rfl
   ·show _ < 18446744073709551616 ^ 4
    omega
  ·rw [H7,wv4,wv4]
   omega
 exact key F hN
theorem A4N(F:Nat){R:Type}(k0:Option R)(kr:Int→Option R)(l:List Int){i:Int}(hi:0≤i∧i < 4)(hx:Wd l)(N:Nat) :
  S6 F k0 kr (N+1) l i=if B1 0 l i=0 then S6 F k0 kr N l (i - 1) else kr (64*i+(Lib.bitLen (B1 0 l i).toNat:Int)):=by
 rw [S6]
 have h1:=hx.get i
 have h2:=(A86 h1).2
 by_cases hz:B1 0 l i=0
 ·rw [iP hz]; simp (disch:=omega) only [bs,↓iP,↓iN]
 ·rw [iN hz]; simp (disch:=omega) only [bs,↓iP,↓iN,C1P F h1]
theorem A6l(F:Nat)(hF:D9 F){l:List Int}(hl:Wd l)(h4:l.length=4):∃ s:Nat,Sz (wv l) s∧s≤256∧A3z F l=some ((s:Int),()):=by
 obtain ⟨a,b,c,d,rfl,ha,hb,hc,hd⟩:=D0k hl h4
 unfold D9 at hF
 obtain ⟨N,hN⟩:∃ N,F=N+1+1+1+1+1:=⟨F - 5,by omega⟩
 unfold A3z
 have key:∀ M,M=N+1+1+1+1+1→∃ s:Nat,Sz (wv [a,b,c,d]) s∧s≤256∧S6 F (some (0,())) (fun z9=>some (z9,())) M [a,b,c,d] 3=some ((s:Int),()):=by
  intro M hM
  subst hM
  rw [A4N F _ _ _ (by omega) hl,g3,show(3:Int) - 1=2 from rfl]
  by_cases h3:d=0
  ·rw [iP h3,A4N F _ _ _ (by omega) hl,g2,show(2:Int) - 1=1 from rfl]
   by_cases h2:c=0
   ·rw [iP h2,A4N F _ _ _ (by omega) hl,g1,show(1:Int) - 1=0 from rfl]
    by_cases h1:b=0
    ·rw [iP h1,A4N F _ _ _ (by omega) hl,g0,show(0:Int) - 1=-1 from rfl]
     by_cases h0:a=0
     ·refine ⟨0,?_,by omega,?_⟩
      ·rw [wv4,h0,h1,h2,h3]; exact B8s
      ·rw [iP h0,S6]; simp (disch:=omega) only [bs,↓iP,↓iN]; rfl
     ·obtain ⟨z1,z2⟩:=A86 ha
      refine ⟨Lib.bitLen a.toNat,?_,by omega,?_⟩
      ·rw [wv4,h1,h2,h3]; simpa using z1
      ·rw [iN h0]; congr 2; omega
    ·obtain ⟨z1,z2⟩:=A86 hb
     refine ⟨64+Lib.bitLen b.toNat,?_,by omega,?_⟩
     ·rw [wv4,h2,h3]
      have:=C1O (lo:=a.toNat) (k:=64) (t:=b.toNat) (by omega) (by omega) z1
      simpa using this
     ·rw [iN h1]; congr 2
   ·obtain ⟨z1,z2⟩:=A86 hc
    refine ⟨128+Lib.bitLen c.toNat,?_,by omega,?_⟩
    ·rw [wv4,h3]
     have:=C1O (lo:=a.toNat+18446744073709551616*b.toNat) (k:=128) (t:=c.toNat) (by omega) (by omega) z1
     have e:a.toNat+18446744073709551616*(b.toNat+18446744073709551616*(c.toNat+18446744073709551616*(0:Int).toNat))=a.toNat+18446744073709551616*b.toNat+2 ^ 128*c.toNat:=by
      rw [show(0:Int).toNat=0 from rfl]; omega
     rw [e]; exact this
    ·rw [iN h2]; congr 2
  ·obtain ⟨z1,z2⟩:=A86 hd
   refine ⟨192+Lib.bitLen d.toNat,?_,by omega,?_⟩
   ·rw [wv4]
    have:=C1O (lo:=a.toNat+18446744073709551616*(b.toNat+18446744073709551616*c.toNat)) (k:=192) (t:=d.toNat) (by omega) (by omega) z1
    have e:a.toNat+18446744073709551616*(b.toNat+18446744073709551616*(c.toNat+18446744073709551616*d.toNat))=a.toNat+18446744073709551616*(b.toNat+18446744073709551616*c.toNat)+2 ^ 192*d.toNat:=by
     omega
    rw [e]; exact this
   ·rw [iN h3]; congr 2
 exact key F hN
def C79(r:Nat)(x:Int):Nat:=x.toNat*2 ^ r % 18446744073709551616
def C7a(r:Nat)(x:Int):Nat:=x.toNat*2 ^ r / 18446744073709551616
theorem C1S(r:Nat)(x:Int):x.toNat*2 ^ r=C79 r x+18446744073709551616*C7a r x:=(Nat.mod_add_div _ _).symm
theorem D0n{x y:Int}(hx:0≤x∧x≤18446744073709551615)(hy:0≤y∧y≤18446744073709551615):orI .u64 x y=orI .u64 y x:=by
 rw [A3t hx hy,A3t hy hx,Nat.or_comm]
theorem A5t(F:Nat){R:Type}(k:List Int→Option R)(l o:List Int){w r:Nat}{i:Int}(hw:(w:Int)≤i)(hi:i < 4)(hr:r < 64)(hl:Wd l)(ho:o.length=4)(N:Nat) :
  L5 F k (N+1) l o (w:Int) (r:Int) i=L5 F k N l (F1 o i ((if(w:Int) < i then C79 r (B1 0 l (i - w))+C7a r (B1 0 l (i - w - 1)) else C79 r (B1 0 l (i - w)):Nat):Int)) (w:Int) (r:Int) (i+1):=by
 have h1:=hl.get (i - w)
 have h2:=hl.get (i - w - 1)
 have hs:∀ x y:Int,F1 (F1 o i x) i y=F1 o i y:=fun x y=>by simp [F1]
 have hg:∀ x:Int,B1 0 (F1 o i x) i=x:=by
  intro x
  have:i.toNat < o.length:=by omega
  simp [F1,B1,this]
 obtain ⟨v1,v2⟩:=B4y h2 hr
 have hsh:A0Y .u64 (B1 0 l (i - w)) (r:Int)=((C79 r (B1 0 l (i - w)):Nat):Int):=by
  rw [A32 h1.1 (by omega),Int.toNat_natCast,Nat.min_eq_left (by omega)]
  rfl
 have hb:C79 r (B1 0 l (i - w)) < 18446744073709551616:=Nat.mod_lt _ (by omega)
 rw [L5]
 unfold A3Q
 by_cases h0:0 < r
 ·have hc:(64:Int) - (r:Int)=((64 - r:Nat):Int):=by omega
  have v3:=v2 h0
  by_cases h3:(w:Int) < i
  ·rw [iP h3]
   obtain ⟨o1,o2⟩:=C77 h1 hr v1
   have hb2:C7a r (B1 0 l (i - w - 1)) < 2 ^ r:=v1
   have h2r:2 ^ r < 2 ^ 64:=Nat.pow_lt_pow_right (by omega) hr
   have ho':orI .u64 ((C79 r (B1 0 l (i - w)):Nat):Int) ((C7a r (B1 0 l (i - w - 1)):Nat):Int)=((C79 r (B1 0 l (i - w))+C7a r (B1 0 l (i - w - 1)):Nat):Int):=by
    rw [D0n (by omega) (by omega),← hsh]
    refine Eq.trans o1 ?_
    unfold C79 C7a
    omega
   have v4:T8 .u64 (B1 0 l (i - w - 1)) ((64 - r:Nat):Int)=((C7a r (B1 0 l (i - w - 1)):Nat):Int):=v3
   simp (disch:=omega) only [bs,↓iP,↓iN,hs,hg,hsh,hc,v4,ho']
  ·rw [iN h3]
   simp (disch:=omega) only [bs,↓iP,↓iN,hs,hg,hsh]
 ·have hr0:r=0:=by omega
  subst hr0
  have hh:C7a 0 (B1 0 l (i - w - 1))=0:=by
   unfold C7a
   rw [Nat.pow_zero,Nat.mul_one]
   omega
  rw [hh]
  by_cases h3:(w:Int) < i
  ·rw [iP h3]
   simp (disch:=omega) only [bs,↓iP,↓iN,hs,hg,hsh]
   rfl
  ·rw [iN h3]
   simp (disch:=omega) only [bs,↓iP,↓iN,hs,hg,hsh]
theorem E9L(a b c d R:Nat):(a+18446744073709551616*(b+18446744073709551616*(c+18446744073709551616*d)))*R=a*R+18446744073709551616*(b*R+18446744073709551616*(c*R+18446744073709551616*(d*R))):=by
 simp only [Nat.add_mul,Nat.mul_add,Nat.mul_assoc]
theorem D0o(r:Nat)(x:Int):C79 r x < 18446744073709551616:=Nat.mod_lt _ (by omega)
theorem A88{r:Nat}{x y:Int}(hx:0≤x∧x≤18446744073709551615)(hy:0≤y∧y≤18446744073709551615)(hr:r < 64):C79 r x+C7a r y < 18446744073709551616:=by
 have:=(C77 hx hr (B4y hy hr).1).2
 unfold C79 C7a
 omega
set_option maxHeartbeats 1000000 in
theorem B77(F:Nat)(hF:D9 F){l:List Int}(hl:Wd l)(h4:l.length=4){n:Nat}(hn:n < 256)(h:wv l*2 ^ n < C9):A7g F l (n:Int)=some (A50 (wv l*2 ^ n),()):=by
 have hq:A0W .i64 (n:Int) 64=((n / 64:Nat):Int):=by rw [A7c (by omega) (by omega) (by omega)]; omega
 have hm:A1y (n:Int) 64=((n % 64:Nat):Int):=by rw [A58 (by omega)]; omega
 obtain ⟨a,b,c,d,rfl,ha,hb,hc,hd⟩:=D0k hl h4
 unfold D9 at hF
 obtain ⟨N,hN⟩:∃ N,F=N+1+1+1+1+1:=⟨F - 5,by omega⟩
 unfold A7g
 rw [hq,hm]
 have hnn:n=64*(n / 64)+n % 64:=by omega
 have hr:n % 64 < 64:=by omega
 have hw:n / 64=0∨n / 64=1∨n / 64=2∨n / 64=3:=by omega
 generalize n % 64=r at *
 generalize n / 64=w at *
 have hval:wv [a,b,c,d]*2 ^ n=(a.toNat*2 ^ r+18446744073709551616*(b.toNat*2 ^ r+18446744073709551616*(c.toNat*2 ^ r+18446744073709551616*(d.toNat*2 ^ r))))*2 ^ (64*w):=by
  rw [hnn,Nat.add_comm (64*w),Nat.pow_add,← Nat.mul_assoc,wv4,E9L]
 rw [C1S r a,C1S r b,C1S r c,C1S r d] at hval
 have p0:=D0o r a
 have p1:=A88 hb ha hr
 have p2:=A88 hc hb hr
 have p3:=A88 hd hc hr
 have fin:∀ o:List Int,Wd o→o.length=4→wv o=wv [a,b,c,d]*2 ^ n→some (o,())=some (A50 (wv [a,b,c,d]*2 ^ n),()):=by
  intro o h1 h2 h3
  rw [← h3,A6I h1 h2]
 have htop:C9=18446744073709551616*18446744073709551616*18446744073709551616*18446744073709551616:=by decide
 have key:∀ M,M=N+1+1+1+1+1→L5 F (fun z30=>some (z30,())) M [a,b,c,d] [0,0,0,0] (w:Int) (r:Int) (w:Int)=some (A50 (wv [a,b,c,d]*2 ^ n),()):=by
  intro M hM
  subst hM
  rcases hw with rfl | rfl | rfl | rfl
  ·rw [A5t F _ _ _ (by omega) (by omega) hr hl rfl,show((0:Nat):Int)=0 from rfl,iN (by omega),show(0:Int) - 0=0 from rfl,g0,E4P,show(0:Int)+1=1 from rfl]
   have st:=fun N o ho (i:Int) h1 h2=>A5t F (fun z30:List Int=>some (z30,())) [a,b,c,d] o (w:=0) (r:=r) (i:=i) h1 h2 hr hl ho N
   rw [show(0:Int)=((0:Nat):Int) from rfl,st _ _ rfl _ (by omega) (by omega),iP (by omega)]
   simp only [show((0:Nat):Int)=0 from rfl,show(1:Int) - 0=1 from rfl,show(1:Int) - 1=0 from rfl,g0,g1,E0I,show(1:Int)+1=2 from rfl]
   rw [show(0:Int)=((0:Nat):Int) from rfl,st _ _ rfl _ (by omega) (by omega),iP (by omega)]
   simp only [show((0:Nat):Int)=0 from rfl,show(2:Int) - 0=2 from rfl,show(2:Int) - 1=1 from rfl,g1,g2,E09,show(2:Int)+1=3 from rfl]
   rw [show(0:Int)=((0:Nat):Int) from rfl,st _ _ rfl _ (by omega) (by omega),iP (by omega)]
   simp only [show((0:Nat):Int)=0 from rfl,show(3:Int) - 0=3 from rfl,show(3:Int) - 1=2 from rfl,g2,g3,D64,show(3:Int)+1=4 from rfl]
   rw [L5]
   simp (disch:=omega) only [bs,↓iP,↓iN]
   refine fin _ (wd4 (by omega) (by omega) (by omega) (by omega)) rfl ?_
   rw [hval,htop] at h
   rw [hval,wv4]
   clear hval fin st hq hm hnn
   simp only [Nat.mul_zero,Nat.pow_zero,Nat.mul_one,Int.toNat_natCast] at h ⊢
   omega
  ·have st:=fun N o ho (i:Int) h1 h2=>A5t F (fun z30:List Int=>some (z30,())) [a,b,c,d] o (w:=1) (r:=r) (i:=i) h1 h2 hr hl ho N
   rw [st _ _ rfl _ (by omega) (by omega),iN (by omega)]
   simp only [show((1:Nat):Int)=1 from rfl,show(1:Int) - 1=0 from rfl,g0,E0I,show(1:Int)+1=2 from rfl]
   rw [show(1:Int)=((1:Nat):Int) from rfl,st _ _ rfl _ (by omega) (by omega),iP (by omega)]
   simp only [show((1:Nat):Int)=1 from rfl,show(2:Int) - 1=1 from rfl,show(1:Int) - 1=0 from rfl,g0,g1,E09,show(2:Int)+1=3 from rfl]
   rw [show(1:Int)=((1:Nat):Int) from rfl,st _ _ rfl _ (by omega) (by omega),iP (by omega)]
   simp only [show((1:Nat):Int)=1 from rfl,show(3:Int) - 1=2 from rfl,show(2:Int) - 1=1 from rfl,g1,g2,D64,show(3:Int)+1=4 from rfl]
   rw [L5]
   simp (disch:=omega) only [bs,↓iP,↓iN]
   refine fin _ (wd4 (by omega) (by omega) (by omega) (by omega)) rfl ?_
   rw [hval,htop] at h
   rw [hval,wv4]
   clear hval fin st hq hm hnn
   simp only [show(2:Nat) ^ (64*1)=18446744073709551616 from rfl,Int.toNat_natCast,show(0:Int).toNat=0 from rfl] at h ⊢
   omega
  ·have st:=fun N o ho (i:Int) h1 h2=>A5t F (fun z30:List Int=>some (z30,())) [a,b,c,d] o (w:=2) (r:=r) (i:=i) h1 h2 hr hl ho N
   rw [st _ _ rfl _ (by omega) (by omega),iN (by omega)]
   simp only [show((2:Nat):Int)=2 from rfl,show(2:Int) - 2=0 from rfl,g0,E09,show(2:Int)+1=3 from rfl]
   rw [show(2:Int)=((2:Nat):Int) from rfl,st _ _ rfl _ (by omega) (by omega),iP (by omega)]
   simp only [show((2:Nat):Int)=2 from rfl,show(3:Int) - 2=1 from rfl,show(1:Int) - 1=0 from rfl,g0,g1,D64,show(3:Int)+1=4 from rfl]
   rw [L5]
   simp (disch:=omega) only [bs,↓iP,↓iN]
   refine fin _ (wd4 (by omega) (by omega) (by omega) (by omega)) rfl ?_
   rw [hval,htop] at h
   rw [hval,wv4]
   clear hval fin st hq hm hnn
   simp only [show(2:Nat) ^ (64*2)=340282366920938463463374607431768211456 from rfl,Int.toNat_natCast,show(0:Int).toNat=0 from rfl] at h ⊢
   omega
  ·have st:=fun N o ho (i:Int) h1 h2=>A5t F (fun z30:List Int=>some (z30,())) [a,b,c,d] o (w:=3) (r:=r) (i:=i) h1 h2 hr hl ho N
   rw [st _ _ rfl _ (by omega) (by omega),iN (by omega)]
   simp only [show((3:Nat):Int)=3 from rfl,show(3:Int) - 3=0 from rfl,g0,D64,show(3:Int)+1=4 from rfl]
   rw [L5]
   simp (disch:=omega) only [bs,↓iP,↓iN]
   refine fin _ (wd4 (by omega) (by omega) (by omega) (by omega)) rfl ?_
   rw [hval,htop] at h
   rw [hval,wv4]
   clear hval fin st hq hm hnn
   simp only [show(2:Nat) ^ (64*3)=6277101735386680763835789423207666416102355444464034512896 from rfl,Int.toNat_natCast,show(0:Int).toNat=0 from rfl] at h ⊢
   omega
 exact key F hN
theorem C7b(F:Nat)(hF:D9 F){R:Type}(k:List Int→List Int→List Int→Option R){a b:Nat}(z:List Int) :
  ∀ (m r d Q:Nat) (x4:List Int),Dv a b m r d Q→Wd x4→x4.length=4→wv x4=Q→m≤256→r < C9→d < C9 →
   ∀ N,m < N→∃ o:List Int,Wd o∧o.length=4∧wv o=a / b∧A1i F k N (A50 r) x4 z ((m:Int) - 1) (A50 d)=k (A50 (a % b)) o z:=by
 intro m
 induction m with
 | zero =>
  intro r d Q x4 h hw h4 he hm h1 h2 N hN
  obtain ⟨N,rfl⟩:∃ M,N=M+1:=⟨N - 1,by omega⟩
  obtain ⟨e1,e2⟩:=h.done
  refine ⟨x4,hw,h4,by rw [he,e1],?_⟩
  unfold A1i
  simp (disch:=omega) only [bs,↓iP,↓iN,e2]
 | succ m ih =>
  intro r d Q x4 h hw h4 he hm h1 h2 N hN
  obtain ⟨N,rfl⟩:∃ M,N=M+1:=⟨N - 1,by omega⟩
  have hs:=h.step
  have hd2:d / 2 < C9:=by omega
  have ei:((m+1:Nat):Int) - 1=(m:Int):=by omega
  rw [ei]
  have hq:A0W .i64 (m:Int) 64=((m / 64:Nat):Int):=by rw [A7c (by omega) (by omega) (by omega)]; omega
  have hmm:A1y (m:Int) 64=((m % 64:Nat):Int):=by rw [A58 (by omega)]; omega
  have hl0:ltI ((m % 64:Nat):Int) 0=false:=by rw [← Bool.not_eq_true,B9]; omega
  have hin:inI ((m / 64:Nat):Int) 4=true:=by rw [N3]; omega
  unfold A1i
  rw [hq,hmm,A3G F hF (A22 _) (A22 _) (L2 h1) (L2 h2),H7,H7]
  have hc:leI 0 (C1z r d)=decide (d≤r):=by
   unfold leI C1z
   apply decide_eq_decide.2
   split <;> (try split) <;> omega
  simp only [bS,hc]
  by_cases hdr:d≤r
  ·rw [iP hdr] at hs
   obtain ⟨b1,b2,b3⟩:=B8t hw (i:=m) (by omega) (by rw [he]; exact h.hQ)
   obtain ⟨o,g1,g2,g3,g4⟩:=ih (r - d) (d / 2) (Q+2 ^ m) (C7A x4 m) hs b1 (by omega) (by rw [b3,he]) (by omega) (by omega) hd2 N (by omega)
   refine ⟨o,g1,g2,g3,?_⟩
   refine Eq.trans ?_ g4
   rw [decide_eq_true hdr,B8w F hF (A22 _) (A22 _) (L2 h1) (L2 h2) (by rw [H7,H7]; exact hdr),H7,H7,hl0,hin]
   simp (disch:=omega) only [bs,↓iP,↓iN,A6k F hF (A22 d) (L2 h2),H7]
   rfl
  ·rw [iN hdr] at hs
   obtain ⟨o,g1,g2,g3,g4⟩:=ih r (d / 2) Q x4 hs hw h4 he (by omega) h1 hd2 N (by omega)
   refine ⟨o,g1,g2,g3,?_⟩
   refine Eq.trans ?_ g4
   rw [decide_eq_false hdr]
   simp (disch:=omega) only [bs,↓iP,↓iN,A6k F hF (A22 d) (L2 h2),H7]
theorem B8x(F:Nat)(hF:D9 F){l m:List Int}(hl:Wd l)(hm:Wd m)(h4:l.length=4)(h5:m.length=4)(hb:0 < wv m) :
  A8X F l m=some (A50 (wv l / wv m),A50 (wv l % wv m),()):=by
 have hF':=hF
 unfold D9 at hF'
 obtain ⟨s,hs,hsl,es⟩:=A6l F hF hl h4
 obtain ⟨t,ht,htl,et⟩:=A6l F hF hm h5
 have ht1:=(ht.2.2 hb).1
 have hlt:wv l < C9:=by have:=A5k hl; rw [h4] at this; exact this
 unfold A8X
 by_cases hst:s < t
 ·have hl2:=C76 hs ht hst
  simp (disch:=omega) only [bs,↓iP,↓iN,es,et]
  rw [Nat.div_eq_of_lt hl2,Nat.mod_eq_of_lt hl2,A6I hl h4,show A50 0=[0,0,0,0] from congrArg (·.2.1) A4K]
 ·obtain ⟨c1,c2⟩:=D29 hs ht hb (by omega)
  have hst2:(s:Int) - (t:Int)=((s - t:Nat):Int):=by omega
  have h8:wv m*2 ^ (s - t) < C9:=by
   exact Nat.lt_of_lt_of_le c2 (C1Q (k:=4) (by omega))
  obtain ⟨o,g1,g2,g3,g4⟩:=C7b F hF (fun z20 z21 z22=>some (z21,(z20,()))) [0,0,0,0] (s - t+1) (wv l) (wv m*2 ^ (s - t)) 0 [0,0,0,0] (Dv.start c1) (wd4 (by omega) (by omega) (by omega) (by omega)) rfl rfl (by omega) hlt h8 F (by omega)
  have e1:((s - t+1:Nat):Int) - 1=((s - t:Nat):Int):=by omega
  rw [e1,A6I hl h4] at g4
  simp (disch:=omega) only [bs,↓iP,↓iN,es,et,hst2,B77 F hF hm h5 (n:=s - t) (by omega) h8]
  refine Eq.trans g4 ?_
  rw [← g3,A6I g1 g2]
theorem A3H(v:Nat):toW (v:Int)=(false,A50 v,()):=by
 unfold toW
 rw [decide_eq_false (by omega),Int.natAbs_natCast]
theorem Y4{v:Nat}(h:v < C9):WOk (toW (v:Int)):=I4 (by rw [Int.natAbs_natCast]; exact h)
theorem V6(F:Nat){w:W}(h:WOk w):U3 F w=some (toW (wi w),()):=by
 unfold U3
 rw [A3d F h]
 by_cases hv:Vl w
 ·simp (disch:=omega) only [bs,↓iP,↓iN,hv,decide_true,B0z h hv]
 ·have:wi w=0:=by
   unfold Vl at hv
   unfold wi
   simp only [Classical.not_not] at hv
   rw [hv.1,hv.2]; rfl
  rw [this,A4K]
  simp (disch:=omega) only [bs,↓iP,↓iN,hv,decide_false]
theorem C1T{a b:Nat}:A50 a=A50 b↔a=b:=⟨fun h=>by have:=congrArg wv h; rw [H7,H7] at this; exact this,fun h=>by rw [h]⟩
theorem C7c:A50 0=[0,0,0,0]:=congrArg (·.2.1) A4K
theorem A5u(F:Nat){w:W}(h:WOk w):A3x F w=some (if wi w=0 then 0 else if wi w < 0 then -1 else 1,()):=by
 unfold A3x
 rw [V6 F h]
 simp only [bS]
 rw [show(toW (wi w)).1=decide (wi w < 0) from rfl,show(toW (wi w)).2.1=A50 (wi w).natAbs from rfl,A4o,← C7c]
 have:decide (A50 (wi w).natAbs=A50 0)=decide (wi w=0):=decide_eq_decide.2 (by rw [C1T]; omega)
 rw [this]
 by_cases h1:wi w < 0
 ·rw [decide_eq_true h1,cT,iN (by omega),iP h1]
 ·rw [decide_eq_false h1,cF]
  by_cases h2:wi w=0
  ·rw [decide_eq_true h2,cT,iP h2]
  ·rw [decide_eq_false h2,cF,iN h2,iN h1]
theorem B0L(F:Nat)(hF:D9 F){a b:Nat}(ha:a < C9)(hb:b < C9)(h0:0 < b) :
  A4F F (toW (a:Int)) (toW (b:Int))=some (toW ((a / b:Nat):Int),toW ((a % b:Nat):Int),true,()):=by
 unfold A4F
 rw [V6 F (Y4 ha),V6 F (Y4 hb),F8,F8]
 simp only [bS]
 rw [A5u F (Y4 hb),F8,iN (by omega),iN (by omega)]
 simp only [bS]
 rw [A3H,A3H,A3H,A3H]
 have e0:eqI (1:Int) 0=false:=by rw [← Bool.not_eq_true,C4]; omega
 simp only [e0,cF]
 rw [B8x F hF (A22 _) (A22 _) (L2 ha) (L2 hb) (by rw [H7]; exact h0),H7,H7]
 simp only [bS]
 unfold A2t A2u A2d U3 A0J
 simp only [bS,cF,cT,show eqT Ty.bool false false=true from rfl,Bool.not_true,Bool.not_false]
theorem A1c(F:Nat)(hF:D9 F){a b:Nat}(ha:a < C9)(hb:b < C9)(h0:0 < b) :
  J9 F (toW (a:Int)) (toW (b:Int))=some (toW ((a / b:Nat):Int),toW ((a % b:Nat):Int),true,()):=by
 have t8:C9≤A8y:=Nat.pow_le_pow_right (by omega) (by omega)
 unfold J9
 rw [O8 F hF (Y4 ha),O8 F hF (Y4 hb),F8,F8]
 simp only [bS]
 rw [H2 F hF (Y4 hb),F8,iN (by omega),iN (by omega)]
 simp only [bS]
 have e0:eqI (1:Int) 0=false:=by rw [← Bool.not_eq_true,C4]; omega
 simp only [e0,cF]
 rw [L3 F hF (Y4 ha),L3 F hF (Y4 hb)]
 simp only [bS]
 rw [show(toW (a:Int)).2.1=A50 a from by rw [A3H],show(toW (b:Int)).2.1=A50 b from by rw [A3H],H7,H7,B0K F hF h0 (by omega) (by omega)]
 simp only [bS]
 have fa:(toW (a:Int)).1=false:=by rw [A3H]
 have fb:(toW (b:Int)).1=false:=by rw [A3H]
 unfold A0l A0m
 have hq:a / b < C9:=Nat.lt_of_le_of_lt (Nat.div_le_self _ _) ha
 have hr:a % b < C9:=Nat.lt_trans (Nat.mod_lt _ h0) hb
 have lq:=E2 (v:=a / b) (n:=4) hq
 have lr:=E2 (v:=a % b) (n:=4) hr
 simp only [fa,fb,cF,cT,show eqT Ty.bool false false=true from rfl,Bool.not_true,Bool.not_false]
 rw [Z4 F hF false (T7 _) (by omega),Z4 F hF false (T7 _) (by omega),N0,N0]
 unfold B4p
 simp only [Bool.false_eq_true,if_false,Int.natAbs_natCast,hq,hr,if_true,bS,cF,Bool.not_true]
theorem C7d{b r:Nat}(h0:0 < r)(h:r < b):2*(b % r) < b:=by
 have h1:=Nat.mod_lt b h0
 have h2:=Nat.div_add_mod b r
 have h3:1≤b / r:=(Nat.one_le_div_iff h0).2 (by omega)
 have h4:r*1≤r*(b / r):=Nat.mul_le_mul_left _ h3
 omega
theorem A2v(a b:Nat):Nat.gcd b (a % b)=Nat.gcd a b:=by
 rw [Nat.gcd_comm a b,Nat.gcd_rec b a,Nat.gcd_comm]
theorem D5U{a b:Nat}(ha:a < C9)(hb:b < C9)(h:0 < a∨0 < b):Nat.gcd a b < C9:=by
 rcases h with h | h
 ·exact Nat.lt_of_le_of_lt (Nat.gcd_le_left _ h) ha
 ·exact Nat.lt_of_le_of_lt (Nat.gcd_le_right _ h) hb
theorem B4z(F:Nat)(hF:D9 F){R:Type}(k0:W→W→Option R)(z:W){a b:Nat}(ha:a < C9)(hb:b < C9)(N:Nat) :
  Q4 F k0 (N+1) (toW (a:Int)) (toW (b:Int)) z=if b=0 then k0 (toW (a:Int)) z else Q4 F k0 N (toW (b:Int)) (toW ((a % b:Nat):Int)) z:=by
 rw [Q4,A5u F (Y4 hb),F8]
 simp only [bS]
 by_cases h0:b=0
 ·rw [iP h0,iP (by omega)]
  rfl
 ·rw [iN h0,iN (by omega),iN (by omega),B0L F hF ha hb (by omega)]
  have e0:eqI (1:Int) 0=false:=by rw [← Bool.not_eq_true,C4]; omega
  simp only [e0,Bool.not_false,cT,bS]
theorem D0p(F:Nat)(hF:D9 F){R:Type}(k0:W→W→Option R)(z:W):∀ (m:Nat) (a b:Nat),b < 2 ^ m→a < C9→b < C9→∀ N,2*m < N →
  Q4 F k0 N (toW (a:Int)) (toW (b:Int)) z=k0 (toW ((Nat.gcd a b:Nat):Int)) z:=by
 intro m
 induction m with
 | zero =>
  intro a b h ha hb N hN
  obtain ⟨N,rfl⟩:∃ M,N=M+1:=⟨N - 1,by omega⟩
  have h0:b=0:=by simpa using h
  rw [B4z F hF k0 z ha hb,iP h0,h0,Nat.gcd_zero_right]
 | succ m ih =>
  intro a b h ha hb N hN
  obtain ⟨N,rfl⟩:∃ M,N=M+2:=⟨N - 2,by omega⟩
  rw [B4z F hF k0 z ha hb]
  by_cases h0:b=0
  ·rw [iP h0,h0,Nat.gcd_zero_right]
  ·have hr:a % b < b:=Nat.mod_lt _ (by omega)
   rw [iN h0,B4z F hF k0 z hb (by omega)]
   by_cases h1:a % b=0
   ·rw [iP h1,← A2v,h1,Nat.gcd_zero_right]
   ·have h2:=C7d (by omega) hr
    rw [Nat.pow_succ] at h
    have h3:b % (a % b) < C9:=Nat.lt_trans (Nat.mod_lt _ (by omega)) (by omega)
    rw [iN h1,ih _ _ (by omega) (by omega) h3 N (by omega),A2v,A2v]
def D2a(x y:W):Nat:=Nat.gcd (wv x.2.1) (wv y.2.1)
theorem A5v{w:W}(h:WOk w):(false,w.2)=toW ((wv w.2.1:Nat):Int):=by
 rw [A3H,A6I h.1 h.2]
theorem A8J(F:Nat)(hF:D9 F){x y:W}(hx:WOk x)(hy:WOk y):A38 F x y=some (toW ((D2a x y:Nat):Int),()):=by
 have hF':=hF
 unfold D9 at hF'
 unfold A38
 rw [A5v hx,A5v hy]
 rw [D0p F hF _ _ 256 _ _ (by have:=hy.lt; rw [show C9=2 ^ 256 from by decide] at this; exact this) hx.lt hy.lt F (by omega)]
 rfl
theorem C7e(F:Nat){R:Type}(k2:W→Int→Option R)(z:W):∀ (m:Nat) (a b:Nat),b < 2 ^ m→∀ N,2*m < N →
  A0n F k2 N z (a:Int) (b:Int)=k2 z ((Nat.gcd a b:Nat):Int):=by
 have st:∀ (a b N:Nat),A0n F k2 (N+1) z (a:Int) (b:Int)=if b=0 then k2 z (a:Int) else A0n F k2 N z (b:Int) ((a % b:Nat):Int):=by
  intro a b N
  rw [A0n,A58 (by omega)]
  by_cases h0:b=0
  ·rw [iP h0]; simp (disch:=omega) only [bs,↓iP,↓iN]
  ·rw [iN h0]; simp (disch:=omega) only [bs,↓iP,↓iN]
   rfl
 intro m
 induction m with
 | zero =>
  intro a b h N hN
  obtain ⟨N,rfl⟩:∃ M,N=M+1:=⟨N - 1,by omega⟩
  have h0:b=0:=by simpa using h
  rw [st,iP h0,h0,Nat.gcd_zero_right]
 | succ m ih =>
  intro a b h N hN
  obtain ⟨N,rfl⟩:∃ M,N=M+2:=⟨N - 2,by omega⟩
  rw [st]
  by_cases h0:b=0
  ·rw [iP h0,h0,Nat.gcd_zero_right]
  ·have hr:a % b < b:=Nat.mod_lt _ (by omega)
   rw [iN h0,st]
   by_cases h1:a % b=0
   ·rw [iP h1,← A2v,h1,Nat.gcd_zero_right]
   ·have h2:=C7d (by omega) hr
    rw [Nat.pow_succ] at h
    rw [iN h1,ih _ _ (by omega) N (by omega),A2v,A2v]
def gK(F:Nat):W→W→Option (W×Unit):=fun z25 z26=>some (z25,())
def gR(F:Nat):W→Option (W×Unit):=fun z27=>some (z27,())
theorem D2b(F:Nat)(hF:D9 F){a:Nat}(ha:a < C9):∃ (va:Int) (pa:Bool),S2 F (toW (a:Int))=some (va,pa,())∧(a < 18446744073709551616→pa=true∧va=(a:Int))∧(¬ a < 18446744073709551616→pa=false):=by
 refine ⟨_,_,A2k F hF (Y4 ha),fun h=>?_,fun h=>?_⟩
 ·rw [F8]
  exact ⟨decide_eq_true (by omega),iP (by omega)⟩
 ·rw [F8]
  exact decide_eq_false (by omega)
theorem E0b(F:Nat)(hF:D9 F){a:Nat}(ha:a < C9):∃ v:Int,J7 F (toW (a:Int))=some (v,())∧(a=0→eqI v 0=true)∧(a≠0→eqI v 0=false):=by
 refine ⟨_,H2 F hF (Y4 ha),fun h=>?_,fun h=>?_⟩
 ·rw [F8,iP (by omega)]; rfl
 ·rw [F8,iN (by omega),iN (by omega)]; rfl
theorem B0N(F:Nat)(hF:D9 F)(z:W){a b:Nat}(ha:a < C9)(hb:b < C9)(N:Nat) :
  Y5 F (gK F) (gR F) (N+1) (toW (a:Int)) (toW (b:Int)) z =
   if b=0 then some (toW (a:Int),()) else if a < 18446744073709551616∧b < 18446744073709551616 then some (toW ((Nat.gcd a b:Nat):Int),())
    else Y5 F (gK F) (gR F) N (toW (b:Int)) (toW ((a % b:Nat):Int)) z:=by
 have hF':=hF
 unfold D9 at hF'
 obtain ⟨v,e1,h1,h2⟩:=E0b F hF hb
 obtain ⟨va,pa,e2,h3,h4⟩:=D2b F hF ha
 obtain ⟨vb,pb,e3,h5,h6⟩:=D2b F hF hb
 rw [Y5,e1]
 by_cases h0:b=0
 ·rw [iP h0]
  simp only [bS,h1 h0,Bool.not_true,cF,gK]
 ·rw [iN h0]
  unfold A3K A3L
  have hdm:=A1c F hF ha hb (by omega)
  by_cases ka:a < 18446744073709551616
  ·obtain ⟨rfl,rfl⟩:=h3 ka
   by_cases kb:b < 18446744073709551616
   ·obtain ⟨rfl,rfl⟩:=h5 kb
    rw [iP ⟨ka,kb⟩]
    have hg:Nat.gcd a b≤b:=Nat.gcd_le_right _ (by omega)
    simp only [e2,e3,bS,h2 h0,Bool.not_false,cT,C7e F _ _ 64 a b (by omega) F (by omega),A1o F (x:=((Nat.gcd a b:Nat):Int)) (by omega),gR]
   ·have:=h6 kb
    subst this
    rw [iN (by omega)]
    simp only [e2,e3,bS,h2 h0,Bool.not_false,cT,cF,hdm]
  ·have:=h4 ka
   subst this
   rw [iN (by omega)]
   simp only [e2,e3,bS,h2 h0,Bool.not_false,cT,cF,hdm]
theorem C7f(F:Nat)(hF:D9 F)(z:W):∀ (m:Nat) (a b:Nat),b < 2 ^ m→a < C9→b < C9→∀ N,2*m < N →
  Y5 F (gK F) (gR F) N (toW (a:Int)) (toW (b:Int)) z=some (toW ((Nat.gcd a b:Nat):Int),()):=by
 intro m
 induction m with
 | zero =>
  intro a b h ha hb N hN
  obtain ⟨N,rfl⟩:∃ M,N=M+1:=⟨N - 1,by omega⟩
  have h0:b=0:=by simpa using h
  rw [B0N F hF z ha hb,iP h0,h0,Nat.gcd_zero_right]
 | succ m ih =>
  intro a b h ha hb N hN
  obtain ⟨N,rfl⟩:∃ M,N=M+2:=⟨N - 2,by omega⟩
  rw [B0N F hF z ha hb]
  by_cases h0:b=0
  ·rw [iP h0,h0,Nat.gcd_zero_right]
  ·rw [iN h0]
   by_cases hs:a < 18446744073709551616∧b < 18446744073709551616
   ·rw [iP hs]
   ·have hr:a % b < b:=Nat.mod_lt _ (by omega)
    rw [iN hs,B0N F hF z hb (by omega)]
    by_cases h1:a % b=0
    ·rw [iP h1,← A2v,h1,Nat.gcd_zero_right]
    ·rw [iN h1]
     by_cases hs2:b < 18446744073709551616∧a % b < 18446744073709551616
     ·rw [iP hs2,A2v]
     ·have h2:=C7d (by omega) hr
      rw [Nat.pow_succ] at h
      have h3:b % (a % b) < C9:=Nat.lt_trans (Nat.mod_lt _ (by omega)) (by omega)
      rw [iN hs2,ih _ _ (by omega) (by omega) h3 N (by omega),A2v,A2v]
theorem A7A(F:Nat)(hF:D9 F){a b:Nat}(ha:a < C9)(hb:b < C9):A4h F (toW (a:Int)) (toW (b:Int))=some (toW ((Nat.gcd a b:Nat):Int),()):=by
 have hF':=hF
 unfold D9 at hF'
 unfold A4h
 exact C7f F hF _ 256 _ _ (by rw [show C9=2 ^ 256 from by decide] at hb; exact hb) ha hb F (by omega)
theorem C7g(g:Nat):eqT (.pair .bool (.pair (.arr 4 (.int .u64)) .unit)) (toW (g:Int)) (toW 1)=decide (g=1):=by
 show((toW (g:Int)).1 == (toW 1).1 && (eqT (.arr 4 (.int .u64)) (toW (g:Int)).2.1 (toW 1).2.1 && true))=_
 rw [A4o,show toW 1=toW ((1:Nat):Int) from rfl,A3H,A3H]
 simp [C1T]
def Sm(v:Nat):Prop:=v < 170141183460469231731687303715884105728
instance (v:Nat):Decidable (Sm v):=by unfold Sm; infer_instance
theorem B78{a b c d:Int}(ha:0≤a∧a≤18446744073709551615)(hb:0≤b∧b≤18446744073709551615)(hc:0≤c∧c≤18446744073709551615)(hd:0≤d∧d≤18446744073709551615) :
  Sm (wv [a,b,c,d])↔d=0∧c=0∧b < 9223372036854775808:=by
 unfold Sm
 rw [wv4]
 omega
theorem A6m(F:Nat){w:W}(h:WOk w):A3y F w=some (decide (Sm (wv w.2.1)),()):=by
 obtain ⟨s,l,u⟩:=w
 obtain ⟨h1,h2⟩:=h
 simp only at h1 h2
 obtain ⟨a,b,c,d,rfl,ha,hb,hc,hd⟩:=D0k h1 h2
 unfold A3y
 simp only [g1,g2,g3]
 have hi:=B78 ha hb hc hd
 have hsh:T8 .u64 b 63=b / 9223372036854775808:=by
  rw [A0d hb.1,show min (63:Int).toNat IntKind.u64.bits=63 from rfl]
  omega
 rw [hsh]
 by_cases h3:d=0
 ·by_cases h4:c=0
  ·simp (disch:=omega) only [bs,↓iP,↓iN]
   congr 2
   unfold eqI
   exact decide_eq_decide.2 (by rw [hi]; omega)
  ·rw [decide_eq_false (by rw [hi]; omega)]; simp (disch:=omega) only [bs,↓iP,↓iN]
 ·rw [decide_eq_false (by rw [hi]; omega)]; simp (disch:=omega) only [bs,↓iP,↓iN]
theorem A6n(F:Nat){w:W}(h:WOk w):A3u F w=some (decide (Sm (wv w.2.1)),()):=by
 obtain ⟨s,l,u⟩:=w
 obtain ⟨h1,h2⟩:=h
 simp only at h1 h2
 obtain ⟨a,b,c,d,rfl,ha,hb,hc,hd⟩:=D0k h1 h2
 unfold A3u
 simp only [g1,g2,g3]
 have hi:=B78 ha hb hc hd
 by_cases h3:d=0
 ·by_cases h4:c=0
  ·simp (disch:=omega) only [bs,↓iP,↓iN]
   congr 2
   unfold ltI
   exact decide_eq_decide.2 (by rw [hi]; omega)
  ·rw [decide_eq_false (by rw [hi]; omega)]; simp (disch:=omega) only [bs,↓iP,↓iN]
 ·rw [decide_eq_false (by rw [hi]; omega)]; simp (disch:=omega) only [bs,↓iP,↓iN]
abbrev Rt:=W×(W×Unit)
def ROk(q:Rt):Prop:=WOk q.1∧WOk q.2.1
def RV(q:Rt):Prop:=Vl q.1∧Vl q.2.1∧0 < wi q.2.1∧Sm (wv q.1.2.1)∧Sm (wv q.2.1.2.1)∧D2a q.1 q.2.1=1
instance (q:Rt):Decidable (RV q):=by unfold RV; infer_instance
theorem C7h(z:Int):(0 < (if z=0 then(0:Int) else if z < 0 then -1 else 1))↔0 < z:=by split <;> (try split) <;> omega
theorem C3d(F:Nat){x:Int}(h:I64 x):A9W F x=some (toW x,()):=I9 F h
theorem A45(F:Nat)(hF:D9 F){q:Rt}(h:ROk q):A2e F q=some (decide (RV q),()):=by
 obtain ⟨n,d,u⟩:=q
 obtain ⟨hn,hd⟩:=h
 simp only at hn hd
 unfold A2e
 simp only [A3d F hn,A3d F hd,A5u F hd,A6m F hn,A6m F hd,A8J F hF hn hd,C3d F (x:=1) (by unfold I64; omega),bS,C7g]
 have hs:ltI 0 (if wi d=0 then 0 else if wi d < 0 then -1 else 1)=decide (0 < wi d):=by
  unfold ltI
  exact decide_eq_decide.2 (C7h _)
 rw [hs]
 unfold RV
 by_cases h1:Vl n <;> by_cases h2:Vl d <;> by_cases h3:0 < wi d <;> by_cases h4:Sm (wv n.2.1) <;> by_cases h5:Sm (wv d.2.1) <;> simp [h1,h2,h3,h4,h5]
theorem S7(F:Nat)(hF:D9 F){q:Rt}(h:ROk q):W1 F q=some (decide (RV q),()):=by
 obtain ⟨n,d,u⟩:=q
 obtain ⟨hn,hd⟩:=h
 simp only at hn hd
 unfold W1 A4i A2A
 simp only [A09 F hF hn,A09 F hF hd,H2 F hF hd,A6n F hn,A6n F hd,I9 F (x:=1) (by unfold I64; omega),bS]
 have hs:leI (if wi d=0 then 0 else if wi d < 0 then -1 else 1) 0=!decide (0 < wi d):=by
  unfold leI
  rw [← decide_not]
  exact decide_eq_decide.2 (by rw [← C7h]; omega)
 rw [hs]
 unfold RV
 by_cases h1:Vl n
 ·by_cases h2:Vl d
  ·by_cases h3:0 < wi d
   ·have ed:d=toW ((wv d.2.1:Nat):Int):=by
     have h:=B0z hd h2
     have hp:wi d=((wv d.2.1:Nat):Int):=by
      have:=A2G d
      omega
     rw [hp] at h
     exact h.symm
    have hg:A4h F (false,n.2) d=some (toW ((D2a n d:Nat):Int),()):=by
     rw [A5v hn]
     conv=>lhs; rw [ed]
     rw [A7A F hF hn.lt hd.lt]
     rfl
    by_cases h4:Sm (wv n.2.1) <;> by_cases h5:Sm (wv d.2.1) <;> simp [h1,h2,h3,h4,h5,hg,C7g]
   ·simp [h1,h2,h3]
  ·simp [h1,h2]
 ·simp [h1]
abbrev Ln:=Int×(Int×(Rt×Unit))
abbrev zR:Rt:=((false,[0,0,0,0],()),((false,[0,0,0,0],()),()))
def E0J(l:List Ln):Prop:=∀ s∈l,I64 s.1∧I64 s.2.1∧ROk s.2.2.1
def lv(l:List Ln):List Int:=l.map (·.2.1)
def of0:Rt:=(toW 0,(toW 1,()))
theorem A6L(F:Nat){x:Int}(h:I64 x):A3P F x=some ((toW x,(toW 1,())),()):=by
 unfold A3P A4i
 rw [I9 F h,I9 F (x:=1) (by unfold I64; omega)]
 rfl
theorem D2c:ROk of0:=⟨I4 (by decide),I4 (by decide)⟩
theorem D2d:RV of0:=by
 have h0:wv (toW 0).2.1=0:=H7 _
 have h1:wv (toW 1).2.1=1:=H7 _
 refine ⟨B2f _,B2f _,?_,?_,?_,?_⟩
 ·show 0 < wi (toW 1); rw [F8]; omega
 ·show Sm (wv (toW 0).2.1); rw [h0]; decide
 ·show Sm (wv (toW 1).2.1); rw [h1]; decide
 ·show D2a (toW 0) (toW 1)=1
  unfold D2a
  rw [h0,h1]
  rfl
abbrev tyW:Ty:=.pair .bool (.pair (.arr 4 (.int .u64)) .unit)
def sp(q:Rt):List Int:=enc (uw (wi q.1))++enc (uw (wi q.2.1))
theorem C7i{q:Rt}(h:ROk q):(sp q).length≤74:=by
 have h1:=A5W h.1.abs
 have h2:=A5W h.2.abs
 unfold sp
 rw [List.length_append]
 omega
theorem E4T(q:Rt):Bt (sp q):=Bt.append (C1u _) (C1u _)
theorem B1i(F:Nat)(hF:D9 F){b:List Int}(hb:(b.length:Int)≤140737488355000){q:Rt}(h:ROk q):Z2 F b q=some (b++sp q,()):=by
 have h1:=A5W h.1.abs
 unfold Z2 sp
 rw [A2Z F hF (by unfold B4V; omega) h.1]
 simp only [bS]
 rw [A2Z F hF (by unfold B4V; rw [List.length_append]; omega) h.2]
 simp only [bS,List.append_assoc]
theorem B0O(F:Nat)(hF:D9 F){b:List Int}(hb:(b.length:Int)≤140737488355000){q:Rt}(h:ROk q):A0N F b q=some (b++sp q,()):=by
 have h1:=A5W h.1.abs
 unfold A0N sp
 rw [A3F F hF (by unfold B4V; omega) h.1]
 simp only [bS]
 rw [A3F F hF (by unfold B4V; rw [List.length_append]; omega) h.2]
 simp only [bS,List.append_assoc]
theorem E4U{l:List Ln}(h:wfT (.slice (.pair (.int .i64) (.pair (.int .i64) (.pair (.pair tyW (.pair tyW .unit)) .unit)))) l):E0J l :=
 fun s hs=>⟨A6A (h.2 s hs).1,A6A (h.2 s hs).2.1,C1H (h.2 s hs).2.2.1.1,C1H (h.2 s hs).2.2.1.2.1⟩
theorem A4O:ROk zR:=by
 have h:WOk ((false,[0,0,0,0],()):W):=⟨wd4 (by omega) (by omega) (by omega) (by omega),rfl⟩
 exact ⟨h,h⟩
theorem B8y(F:Nat)(hF:D9 F){x y:W}(hx:WOk x)(hy:WOk y):∃ q ok,A3i F x y=some (q,ok,())∧ROk q∧(ok=true→RV q):=by
 unfold A3i
 rw [A09 F hF hx,A09 F hF hy,H2 F hF hy]
 simp only [bS]
 by_cases v1:Vl x
 rotate_left
 ·rw [decide_eq_false v1]
  exact ⟨zR,false,rfl,A4O,fun h=>by cases h⟩
 by_cases v2:Vl y
 rotate_left
 ·rw [decide_eq_true v1,decide_eq_false v2]
  exact ⟨zR,false,rfl,A4O,fun h=>by cases h⟩
 rw [decide_eq_true v1,decide_eq_true v2]
 simp only [Bool.not_true,cF]
 by_cases h0:wi y=0
 ·rw [iP h0]
  exact ⟨zR,false,rfl,A4O,fun h=>by cases h⟩
 ·have hz:eqI (if wi y=0 then 0 else if wi y < 0 then -1 else 1) 0=false:=by
   rw [iN h0,← Bool.not_eq_true,C4]
   split <;> omega
  have hp:0 < wv y.2.1:=by have:=A2G y; omega
  have hg0:0 < Nat.gcd (wv x.2.1) (wv y.2.1):=Nat.gcd_pos_of_pos_right _ hp
  have hgt:=D5U hx.lt hy.lt (.inr hp)
  rw [hz]
  unfold A2A
  simp only [cF,bS]
  rw [A5v hx,A5v hy,A7A F hF hx.lt hy.lt]
  simp only [bS]
  generalize Nat.gcd (wv x.2.1) (wv y.2.1)=g at *
  rw [A1c F hF hx.lt hgt hg0,A1c F hF hy.lt hgt hg0]
  simp only [bS]
  have t1:wv x.2.1 / g < C9:=Nat.lt_of_le_of_lt (Nat.div_le_self _ _) hx.lt
  have t2:wv y.2.1 / g < C9:=Nat.lt_of_le_of_lt (Nat.div_le_self _ _) hy.lt
  have fin:∀ a:W,WOk a→∃ q ok,A1K F (fun z18 z19=>some (z18,(z19,()))) zR a (toW ((wv y.2.1 / g:Nat):Int))=some (q,ok,())∧ROk q∧(ok=true→RV q):=by
   intro a ha
   have hk:ROk (a,(toW ((wv y.2.1 / g:Nat):Int),())):=⟨ha,Y4 t2⟩
   unfold A1K
   rw [S7 F hF hk]
   simp only [bS]
   by_cases hv:RV (a,(toW ((wv y.2.1 / g:Nat):Int),()))
   ·rw [decide_eq_true hv]
    exact ⟨_,true,rfl,hk,fun _=>hv⟩
   ·rw [decide_eq_false hv]
    exact ⟨zR,false,rfl,A4O,fun h=>by cases h⟩
  cases eqT Ty.bool x.1 y.1
  ·simp only [Bool.not_false,cT]
   rw [A0y F hF (Y4 t1)]
   simp only [bS]
   exact fin _ (I4 (by rw [Int.natAbs_neg]; exact(Y4 t1).abs))
  ·simp only [Bool.not_true,cF]
   exact fin _ (Y4 t1)
theorem B79(F:Nat)(hF:D9 F){t:List Int×Int×Unit}(h:J4 t)(z:Rt){x y:W}(hx:WOk x)(hy:WOk y) :
  ∃ q,ROk q∧RV q∧∀ (R:Type) (k:List Int×Int×Unit→Rt→Option R),P4 F k t z x y=k t q:=by
 obtain ⟨q,ok,e,h1,h2⟩:=B8y F hF hx hy
 cases ok
 ·refine ⟨(toW 1,(toW 1,())),⟨I4 (by decide),I4 (by decide)⟩,?_,fun R k=>?_⟩
  ·have h1:wv (toW 1).2.1=1:=H7 _
   refine ⟨B2f _,B2f _,?_,?_,?_,?_⟩
   ·show 0 < wi (toW 1); rw [F8]; omega
   ·show Sm (wv (toW 1).2.1); rw [h1]; decide
   ·show Sm (wv (toW 1).2.1); rw [h1]; decide
   ·show D2a (toW 1) (toW 1)=1
    unfold D2a
    rw [h1]
    rfl
  ·unfold P4
   simp only [e,bS,Bool.not_false,cT,A6L F (x:=1) (by unfold I64; omega)]
 ·refine ⟨q,h1,h2 rfl,fun R k=>?_⟩
  unfold P4
  simp only [e,bS,Bool.not_true,cF]
theorem B4A(z:Int):WOk (B4p z).1:=by
 unfold B4p
 split
 ·rename_i h; exact I4 h
 ·exact I4 (by decide)
theorem B7a(F:Nat)(hF:D9 F){t:List Int×Int×Unit}(h:J4 t)(z:Rt){x y:W}(hx:WOk x)(hy:WOk y) :
  ∃ t' q,J4 t'∧ROk q∧RV q∧∀ (R:Type) (k:List Int×Int×Unit→Rt→Option R),P5 F k t z x y=k t' q:=by
 obtain ⟨t1,b,e1,h1⟩:=O2 F h (n:=8) (by omega)
 have ho:=I9 F (x:=4611686018427387904) (by unfold I64; omega)
 have hok:WOk (toW 4611686018427387904):=I4 (by decide)
 cases b
 ·obtain ⟨q,q1,q2,q3⟩:=B79 F hF h1 z hx hy
  refine ⟨t1,q,h1,q1,q2,fun R k=>?_⟩
  unfold P5
  simp only [e1,bS,cF]
  exact q3 R k
 ·have hm:=A2H F hF hx hok
  obtain ⟨q,q1,q2,q3⟩:=B79 F hF h1 z (B4A (wi x*wi (toW 4611686018427387904))) hy
  refine ⟨t1,q,h1,q1,q2,fun R k=>?_⟩
  unfold P5
  simp only [e1,bS,cT,ho,hm]
  exact q3 R k
theorem A5w{x:Int}(h:I64 x):x.natAbs < C9:=by
 have:=A2j
 unfold I64 at h
 omega
theorem A7B(F:Nat)(hF:D9 F){t:List Int×Int×Unit}(h:J4 t):∃ t' q,A1O F t=some (t',q,())∧J4 t'∧ROk q∧RV q:=by
 obtain ⟨t1,a,e1,h1,ha0,ha⟩:=B5 F h (n:=200) (by omega)
 obtain ⟨t2,c,e2,h2,hc0,hc⟩:=B5 F h1 (n:=60) (by omega)
 obtain ⟨t3,b,e3,h3⟩:=O2 F h2 (n:=4) (by omega)
 have xa:E7 .i64 a 100=a - 100:=A31 (by omega)
 have xb:C2 .i64 1 c=1+c:=H3 (by omega)
 have i1:I64 (a - 100):=by unfold I64; omega
 have i2:I64 (1+c):=by unfold I64; omega
 unfold A1O
 simp only [e1,e2,e3,bS,xa,xb,I9 F i1,I9 F i2]
 cases b
 ·obtain ⟨t',q,q1,q2,q3,q4⟩:=B7a F hF h3 zR (x:=toW (a - 100)) (y:=toW (1+c)) (I4 (A5w i1)) (I4 (A5w i2))
  refine ⟨t',q,?_,q1,q2,q3⟩
  simp only [cF]
  exact q4 _ _
 ·obtain ⟨t4,d,e4,h4,hd⟩:=N1 F hF h3
  obtain ⟨t5,w,e5,h5,hw⟩:=O1 F hF h4
  have hwo:=A7Y hw (y:=1) (by omega)
  have htop:=A2j
  obtain ⟨t',q,q1,q2,q3,q4⟩:=B7a F hF h5 zR (x:=toW d) (y:=toW (orI .u64 w 1)) (I4 (A5w hd)) (I4 (by omega))
  refine ⟨t',q,?_,q1,q2,q3⟩
  simp only [cT,e4,e5,bS,I9 F hd,A1o F hwo]
  exact q4 _ _
theorem E0J.push{l:List Ln}(h:E0J l){x:Ln}(h1:I64 x.1)(h2:I64 x.2.1)(h3:ROk x.2.2.1):E0J (l++[x]):=by
 intro s hs
 rcases List.mem_append.1 hs with hs | hs
 ·exact h s hs
 ·simp at hs
  subst hs
  exact ⟨h1,h2,h3⟩
theorem C3e(F:Nat)(x4 x16:List Int)(x17:Int){x1:List Int}(h1:Wd x1)(h14:x1.length=4){i:Nat}(hi4:i < 4){x:Int}(hx:0≤x∧x≤18446744073709551615) :
  ∀ (yb ya p q:List Int) (c:Int),x1=ya++yb→p.length=i+ya.length→yb.length≤q.length→Wd q→0≤c∧c≤18446744073709551615→(p++q).length=8 →
  ∀ N,yb.length < N→∃ (r:List Int) (c':Int),Wd r∧r.length=yb.length∧(0≤c'∧c'≤18446744073709551615) ∧
   wv r+c'.toNat*18446744073709551616 ^ yb.length=wv (q.take yb.length)+x.toNat*wv yb+c.toNat ∧
   ∀ (R:Type) (k:List Int→List Int→List Int→Int→Int→List Int→Int→Option R),A1j F k N x1 x4 (p++q) (i:Int) x c x16 x17 x1 (ya.length:Int)=k x1 x4 (p++(r++q.drop yb.length)) (i:Int) c' x16 x17:=by
 intro yb
 induction yb with
 | nil =>
  intro ya p q c hy hp hq hw hc hl N hN
  obtain ⟨N,rfl⟩:∃ M,N=M+1:=⟨N - 1,by omega⟩
  refine ⟨[],c,Wd.nil,rfl,hc,?_,?_⟩
  ·simp [wv]
  ·intro R k
   have:x1.length=ya.length:=by rw [hy]; simp
   unfold A1j
   simp (disch:=omega) only [bs,↓iP,↓iN]
   simp
 | cons y t ih =>
  intro ya p q c hy hp hq hw hc hl N hN
  obtain ⟨N,rfl⟩:∃ M,N=M+1:=⟨N - 1,by omega⟩
  cases q with
  | nil=>simp at hq
  | cons w q =>
   have hlen1:x1.length=ya.length+(t.length+1):=by rw [hy]; simp
   have hpq:(p++w::q).length=p.length+(q.length+1):=by simp
   have hyr:0≤y∧y≤18446744073709551615:=h1 y (by rw [hy]; simp)
   have hwr:=Wd.head hw
   have hgy:B1 0 x1 (ya.length:Int)=y:=by rw [hy]; exact L1 _ _ _
   have hprod:=A7o hx hyr
   generalize hxy:x*y=xy at *
   have hgw:B1 0 (p++w::q) ((i:Int)+(ya.length:Int))=w:=by
    rw [show(i:Int)+(ya.length:Int)=(p.length:Int) by omega]; exact L1 _ _ _
   have hsw:∀ v,F1 (p++w::q) ((i:Int)+(ya.length:Int)) v=(p++[v])++q:=by
    intro v
    rw [show(i:Int)+(ya.length:Int)=(p.length:Int) by omega]; exact A0x _ _ _ _
   obtain ⟨r,c',e1,e2,e3,e4,e5⟩:=ih (ya++[y]) (p++[(xy % 18446744073709551616+w+c) % 18446744073709551616]) q
    (xy / 18446744073709551616+(xy % 18446744073709551616+w) / 18446744073709551616+((xy % 18446744073709551616+w) % 18446744073709551616+c) / 18446744073709551616)
    (by rw [hy]; simp) (by simp; omega) (by simp at hq; omega) (Wd.tail hw) (by omega) (by simp at hl ⊢; omega) N (by simp at hN; omega)
   refine ⟨(xy % 18446744073709551616+w+c) % 18446744073709551616::r,c',Wd.cons (by omega) e1,by simp [e2],e3,?_,?_⟩
   ·have hm:x.toNat*wv (y::t)=x.toNat*y.toNat+18446744073709551616*(x.toNat*wv t):=by
     rw [wv,Nat.mul_add,Nat.mul_left_comm]
    have hxyn:x.toNat*y.toNat=xy.toNat:=by
     rw [← hxy]
     have:((x.toNat*y.toNat:Nat):Int)=x*y:=by rw [Int.natCast_mul,Int.toNat_of_nonneg hx.1,Int.toNat_of_nonneg hyr.1]
     omega
    rw [hm,hxyn]
    simp only [List.length_cons,List.take_succ_cons,wv,Nat.pow_succ]
    rw [← Nat.mul_assoc]
    generalize c'.toNat*18446744073709551616 ^ t.length=T at *
    generalize x.toNat*wv t=Z at *
    omega
   ·intro R k
    have e5:=e5 R k
    have hcast:((ya++[y]).length:Int)=(ya.length:Int)+1:=by simp
    rw [hcast] at e5
    unfold A1j U1
    have c1:(leI 0 w && leI 0 (xy % 18446744073709551616) && leI 0 0 && leI 0 1)=true:=by simp only [Bool.and_eq_true,K4]; omega
    have c2:(leI 0 ((w+xy % 18446744073709551616+0) % 18446744073709551616) && leI 0 c && leI 0 0 && leI 0 1)=true:=by simp only [Bool.and_eq_true,K4]; omega
    have hyl:(ya.length:Int) < 4:=by omega
    simp (disch:=omega) only [bs,↓iP,↓iN,hgy,C1C F hx hyr,hxy,hgw,hsw,c1,c2,U0]
    rw [show((w+xy % 18446744073709551616+0) % 18446744073709551616+c+0) % 18446744073709551616=(xy % 18446744073709551616+w+c) % 18446744073709551616 by omega,
     show xy / 18446744073709551616+(w+xy % 18446744073709551616+0) / 18446744073709551616+((w+xy % 18446744073709551616+0) % 18446744073709551616+c+0) / 18446744073709551616
      = xy / 18446744073709551616+(xy % 18446744073709551616+w) / 18446744073709551616+((xy % 18446744073709551616+w) % 18446744073709551616+c) / 18446744073709551616 by omega]
    refine Eq.trans e5 ?_
    simp
theorem C3f(F:Nat)(hF:D9 F){R:Type}(k:List Int→List Int→Option R)(x4:List Int){x0 x1:List Int}(h0:Wd x0)(h1:Wd x1)(h04:x0.length=4)(h14:x1.length=4) :
  ∀ (xb xa x5:List Int),x0=xa++xb→Wd x5→x5.length=8→wv x5=wv xa*wv x1 →
  ∀ N,xb.length < N→∃ o:List Int,Wd o∧o.length=8∧wv o=wv x0*wv x1∧A2f F k N x1 x4 x5 x0 (xa.length:Int)=k x4 o:=by
 intro xb
 induction xb with
 | nil =>
  intro xa x5 hx hw hl hv N hN
  obtain ⟨N,rfl⟩:∃ M,N=M+1:=⟨N - 1,by omega⟩
  have hxa:x0=xa:=by rw [hx]; simp
  refine ⟨x5,hw,hl,by rw [hv,hxa],?_⟩
  have:x0.length=xa.length:=by rw [hxa]
  unfold A2f
  simp (disch:=omega) only [bs,↓iP,↓iN]
 | cons x t ih =>
  intro xa x5 hx hw hl hv N hN
  obtain ⟨N,rfl⟩:∃ M,N=M+1:=⟨N - 1,by omega⟩
  have hlen0:x0.length=xa.length+(t.length+1):=by rw [hx]; simp
  have hxr:0≤x∧x≤18446744073709551615:=h0 x (by rw [hx]; simp)
  have hgi:B1 0 x0 (xa.length:Int)=x:=by rw [hx]; exact L1 _ _ _
  have hxa:Wd xa:=by rw [hx] at h0; exact Wd.left h0
  have hsp:=List.take_append_drop xa.length x5
  have hpl:(x5.take xa.length).length=xa.length:=by simp; omega
  have hql:(x5.drop xa.length).length=t.length+x1.length+1:=by simp; omega
  have hqw:=Wd.drop hw xa.length
  have hpw:=Wd.take hw xa.length
  generalize x5.take xa.length=p at *
  generalize x5.drop xa.length=q at *
  subst hsp
  obtain ⟨r,c',e1,e2,e3,e4,e5⟩:=C3e F x4 x0 (xa.length:Int) h1 h14 (i:=xa.length) (by omega) hxr x1 [] p q 0 (by simp) (by simp [hpl]) (by omega) hqw (by omega) (by simp; omega) F (by unfold D9 at hF; omega)
  have hd:(q.drop x1.length).length=t.length+1:=by simp; omega
  have hqs:=List.take_append_drop x1.length q
  have htl:(q.take x1.length).length=x1.length:=by simp; omega
  have hvq:wv q=wv (q.take x1.length)+18446744073709551616 ^ x1.length*wv (q.drop x1.length):=by
   conv=>lhs; rw [← hqs]
   rw [G4,htl]
  have hdw:=Wd.drop hqw x1.length
  generalize q.take x1.length=q1 at *
  generalize q.drop x1.length=q2 at *
  cases q2 with
  | nil=>simp at hd
  | cons h rest =>
   have hz:wv (h::rest)=0:=by
    have b1:=A5k hxa
    have b2:=A5k h1
    have b3:wv xa*wv x1 < 18446744073709551616 ^ xa.length*18446744073709551616 ^ x1.length:=Nat.mul_lt_mul'' b1 b2
    rw [G4,hpl,hvq,Nat.mul_add,← Nat.mul_assoc] at hv
    rcases Nat.eq_zero_or_pos (wv (h::rest)) with h0 | h0
    ·exact h0
    ·have:18446744073709551616 ^ xa.length*18446744073709551616 ^ x1.length*1≤18446744073709551616 ^ xa.length*18446744073709551616 ^ x1.length*wv (h::rest):=Nat.mul_le_mul_left _ h0
     omega
   obtain ⟨hh,hr⟩:=A8u (Wd.head hdw).1 hz
   have hnew:p++(r++h::rest)=(p++r)++h::rest:=by simp
   have hset:F1 (p++(r++h::rest)) ((xa.length:Int)+4) c'=(p++r++[c'])++rest:=by
    rw [hnew,show(xa.length:Int)+4=((p++r).length:Int) by simp; omega]
    exact A0x _ _ _ _
   obtain ⟨o,f1,f2,f3,f4⟩:=ih (xa++[x]) ((p++r++[c'])++rest) (by rw [hx]; simp)
    (Wd.append (Wd.append (Wd.append hpw e1) (Wd.one e3)) (Wd.tail hdw)) (by simp at hd ⊢; omega) (by
     rw [List.append_assoc,List.append_assoc,G4,G4,G4,hpl,e2,hr]
     have e4:wv r+c'.toNat*18446744073709551616 ^ x1.length=wv q1+x.toNat*wv x1:=by simpa using e4
     rw [G4,hpl,hvq,hz] at hv
     rw [G4,Nat.add_mul,← hv]
     simp only [wv,Nat.mul_zero,Nat.add_zero]
     rw [Nat.mul_comm (18446744073709551616 ^ x1.length) c'.toNat,e4,Nat.mul_add,Nat.mul_assoc,Nat.add_assoc]) N (by simp at hN; omega)
   refine ⟨o,f1,f2,f3,?_⟩
   have hcast:((xa++[x]).length:Int)=(xa.length:Int)+1:=by simp
   rw [hcast] at f4
   have e5:∀ (R:Type) (k:List Int→List Int→List Int→Int→Int→List Int→Int→Option R),A1j F k F x1 x4 (p++q) (xa.length:Int) x 0 x0 (xa.length:Int) x1 0=k x1 x4 (p++(r++h::rest)) (xa.length:Int) c' x0 (xa.length:Int):=e5
   have hlf:(p++(r++h::rest)).length=8:=by simp at hd ⊢; omega
   unfold A2f
   simp (disch:=omega) only [bs,↓iP,↓iN,hgi]
   rw [e5]
   simp (disch:=omega) only [bs,↓iP,↓iN,hset]
   exact f4
theorem B8z(F:Nat)(hF:D9 F){a b:List Int}(ha:Wd a)(hb:Wd b)(h4:a.length=4)(h5:b.length=4) :
  ∃ l,A8Y F a b=some (l,decide (wv a*wv b < C9),())∧(wv a*wv b < C9→l=A50 (wv a*wv b)):=by
 obtain ⟨o,h1,h2,h3,e⟩:=C3f F hF (fun z25 z26=>some ((((List.take 0 z25)++(List.take 4 (List.drop 0 z26)))++(List.drop 4 z25)),(eqT (.arr 4 (.int .u64)) (List.take 4 (List.drop 4 z26)) [0,0,0,0],()))) [0,0,0,0] ha hb h4 h5 a [] [0,0,0,0,0,0,0,0] (by simp) (fun x hx=>by simp at hx; omega) rfl (by simp [wv]) F (by unfold D9 at hF; omega)
 have hs:=List.take_append_drop 4 o
 have hlo:(o.take 4).length=4:=by simp; omega
 have hhi:(o.drop 4).length=4:=by simp; omega
 have hv:wv o=wv (o.take 4)+18446744073709551616 ^ 4*wv (o.drop 4):=by
  conv=>lhs; rw [← hs]
  rw [G4,hlo]
 have wlo:=Wd.take h1 4
 have whi:=Wd.drop h1 4
 have blo:wv (o.take 4) < C9:=by have:=A5k wlo; rw [hlo] at this; exact this
 have hz:(o.drop 4=[0,0,0,0])↔wv a*wv b < C9:=by
  rw [← h3,hv]
  constructor
  ·intro h
   rw [h]
   simpa [wv] using blo
  ·intro h
   have h0:wv (o.drop 4)=0:=by
    rcases Nat.eq_zero_or_pos (wv (o.drop 4)) with h0 | h0
    ·exact h0
    ·have:18446744073709551616 ^ 4*1≤18446744073709551616 ^ 4*wv (o.drop 4):=Nat.mul_le_mul_left _ h0
     unfold C9 at h
     omega
   exact A8w whi (fun x hx=>by simp at hx; omega) hhi (by rw [h0]; simp [wv])
 refine ⟨o.take 4,?_,fun h=>?_⟩
 ·unfold A8Y
  refine e.trans ?_
  rw [A4o,List.take_of_length_le (l:=o.drop 4) (by omega)]
  simp only [List.take_zero,List.drop_zero,List.nil_append,show List.drop 4 ([0,0,0,0]:List Int)=[] from rfl,List.append_nil,decide_eq_decide.2 hz]
 ·have h0:=hz.2 h
  rw [h0] at hv
  have hv:wv o=wv (o.take 4):=by rw [hv]; simp [wv]
  rw [← h3,hv]
  exact(A6I wlo hlo).symm
theorem D5V(a b:Int):(if(!eqT Ty.bool (toW a).1 (toW b).1)=true then -((a.natAbs*b.natAbs:Nat):Int) else((a.natAbs*b.natAbs:Nat):Int))=a*b:=by
 rw [show(toW a).1=decide (a < 0) from rfl,show(toW b).1=decide (b < 0) from rfl]
 show(if(!(decide (a < 0) == decide (b < 0)))=true then _ else _)=_
 by_cases ha:a < 0 <;> by_cases hb:b < 0
 ·simp only [ha,hb,decide_true,beq_self_eq_true,Bool.not_true,Bool.false_eq_true,if_false]
  rw [Int.natCast_mul,show((a.natAbs:Nat):Int)=-a by omega,show((b.natAbs:Nat):Int)=-b by omega,Int.neg_mul_neg]
 ·simp [ha,hb]
  rw [show((b.natAbs:Nat):Int)=b by omega,show((a.natAbs:Nat):Int)=-a by omega,Int.neg_mul,Int.neg_neg]
 ·simp [ha,hb]
  rw [show((b.natAbs:Nat):Int)=-b by omega,show((a.natAbs:Nat):Int)=a by omega,Int.mul_neg,Int.neg_neg]
 ·simp only [ha,hb,decide_false,beq_self_eq_true,Bool.not_true,Bool.false_eq_true,if_false]
  rw [Int.natCast_mul,show((a.natAbs:Nat):Int)=a by omega,show((b.natAbs:Nat):Int)=b by omega]
theorem B0P(F:Nat)(hF:D9 F){x y:W}(hx:WOk x)(hy:WOk y):A8Z F x y=some ((B4p (wi x*wi y)).1,(B4p (wi x*wi y)).2,()):=by
 unfold A8Z
 have hxo:=I4 hx.abs
 have hyo:=I4 hy.abs
 rw [V6 F hx,V6 F hy]
 have v1:wv (toW (wi x)).2.1=(wi x).natAbs:=H7 _
 have v2:wv (toW (wi y)).2.1=(wi y).natAbs:=H7 _
 obtain ⟨l,e,hl⟩:=B8z F hF hxo.1 hyo.1 hxo.2 hyo.2
 rw [v1,v2] at e hl
 simp only [bS,e]
 have hn:(wi x*wi y).natAbs=(wi x).natAbs*(wi y).natAbs:=Int.natAbs_mul _ _
 unfold B4p
 rw [hn]
 by_cases h:(wi x).natAbs*(wi y).natAbs < C9
 ·rw [iP h,decide_eq_true h,hl h]
  simp only [Bool.not_true,cF]
  unfold A2d
  have ho:WOk ((!eqT Ty.bool (toW (wi x)).1 (toW (wi y)).1),(A50 ((wi x).natAbs*(wi y).natAbs),())):=⟨A22 _,L2 h⟩
  rw [V6 F ho]
  simp only [bS]
  have hw:wi ((!eqT Ty.bool (toW (wi x)).1 (toW (wi y)).1),(A50 ((wi x).natAbs*(wi y).natAbs),()))=wi x*wi y:=by
   unfold wi
   simp only [H7]
   exact D5V _ _
  rw [hw]
 ·rw [iN h,decide_eq_false h,A4K]
  rfl
def D0q(a b:Int):Int:=if a < b then -1 else if b < a then 1 else 0
theorem B0Q(F:Nat)(hF:D9 F){x y:W}(hx:WOk x)(hy:WOk y):A3S F x y=some (D0q (wi x) (wi y),()):=by
 unfold A3S
 have hxo:=I4 hx.abs
 have hyo:=I4 hy.abs
 rw [V6 F hx,V6 F hy]
 simp only [bS]
 unfold A1Q A1S
 have c1:(toW (wi x)).1=decide (wi x < 0):=rfl
 have c2:(toW (wi y)).1=decide (wi y < 0):=rfl
 have w1:wv (toW (wi x)).2.1=(wi x).natAbs:=H7 _
 have w2:wv (toW (wi y)).2.1=(wi y).natAbs:=H7 _
 rw [c1,c2]
 simp only [A3G F hF hxo.1 hyo.1 hxo.2 hyo.2,A3G F hF hyo.1 hxo.1 hyo.2 hxo.2,bS,w1,w2]
 generalize wi x=a
 generalize wi y=b
 unfold D0q C1z
 by_cases ha:a < 0 <;> by_cases hb:b < 0 <;> simp only [ha,hb,decide_true,decide_false,cT,cF,Option.some.injEq,Prod.mk.injEq,and_true] <;> (try split) <;> (try split) <;> (try split) <;> (try split) <;> omega
def rc(p q:Rt):Int:=D0q (wi p.1*wi q.2.1) (wi q.1*wi p.2.1)
theorem E0c{a b:Nat}(ha:Sm a)(hb:Sm b):a*b < C9:=by
 unfold Sm at ha hb
 have:=Nat.mul_lt_mul'' ha hb
 refine Nat.lt_of_lt_of_le this ?_
 unfold C9; decide
theorem A4P{z:Int}(h:z.natAbs < C9):B4p z=(toW z,true):=by unfold B4p; rw [iP h]
theorem B4B{p q:Rt}(hp:RV p)(hq:RV q):(wi p.1*wi q.2.1).natAbs < C9:=by
 rw [Int.natAbs_mul,A2G,A2G]
 exact E0c hp.2.2.2.1 hq.2.2.2.2.1
theorem A8K(F:Nat)(hF:D9 F){p q:Rt}(hp:ROk p)(hq:ROk q)(vp:RV p)(vq:RV q):A3a F p q=some (rc p q,()):=by
 unfold A3a A4G A39
 rw [A45 F hF hp,A45 F hF hq,decide_eq_true vp,decide_eq_true vq]
 have h1:=B4B vp vq
 have h2:=B4B vq vp
 simp only [bS,Bool.not_true,cF,B0P F hF hp.1 hq.2,B0P F hF hq.1 hp.2,A4P h1,A4P h2,B0Q F hF (I4 h1) (I4 h2),F8]
 rfl
theorem N2(F:Nat)(hF:D9 F){p q:Rt}(hp:ROk p)(hq:ROk q)(vp:RV p)(vq:RV q):K8 F p q=some (rc p q,()):=by
 unfold K8 A4E
 rw [S7 F hF hp,S7 F hF hq,decide_eq_true vp,decide_eq_true vq]
 have h1:=B4B vp vq
 have h2:=B4B vq vp
 simp only [bS,Bool.not_true,cF,A2H F hF hp.1 hq.2,A2H F hF hq.1 hp.2,A4P h1,A4P h2,A1b F hF (I4 h1) (I4 h2),F8]
 rfl
theorem E0d(F:Nat)(hF:D9 F)(p q:Int):A2c F [p,q]=some (if p=0 then q else p,()):=by
 unfold D9 at hF
 obtain ⟨N,hN⟩:∃ N,F=N+1+1+1:=⟨F - 3,by omega⟩
 unfold A2c
 have l2:(([p,q]:List Int).length:Int)=2:=rfl
 have key:∀ M,M=N+1+1+1→O6 F (fun z6=>some (z6,())) (fun z7=>some (z7,())) M 0 [p,q] (([p,q]:List Int).length:Int) 0=some (if p=0 then q else p,()):=by
  intro M hM
  subst hM
  rw [A87 F _ _ _ (by omega) (by rw [l2]; omega) (by rw [l2]; omega),show B1 0 [p,q] 0=p from rfl]
  split
  ·rw [show(0:Int)+1=1 from rfl,A87 F _ _ _ (by omega) (by rw [l2]; omega) (by rw [l2]; omega),show B1 0 [p,q] 1=q from rfl]
   split
   ·rename_i h
    rw [show(1:Int)+1=2 from rfl,O6,l2,h]
    simp (disch:=omega) only [bs,↓iP,↓iN]
   ·rfl
  ·rfl
 exact key F hN
theorem C7j(F:Nat)(x y:Int):A0K F x y=some (D0q x y,()):=by
 unfold A0K A1P D0q
 have h1:eqI x x=true:=C4.2 rfl
 have h2:eqI y y=true:=C4.2 rfl
 simp only [h1,h2,bS,Bool.not_true,E0S,B9,Bool.false_eq_true,if_false]
 split
 ·rfl
 ·split <;> rfl
end Go.Proofs.YtdhfajmcakneiaaGreat
