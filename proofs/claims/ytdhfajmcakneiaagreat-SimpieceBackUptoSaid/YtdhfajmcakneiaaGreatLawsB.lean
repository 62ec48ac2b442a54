/- The laws of the models, part B. -/
import Derived.Test.YtdhfajmcakneiaaGreatLawsA
import Derived.Test.YtdhfajmcakneiaaGreatEngE
set_option linter.unusedVariables false
set_option linter.unusedSimpArgs false
namespace Go.Proofs.YtdhfajmcakneiaaGreat
open Go.Eng
abbrev W:=Bool×(List Int×Unit)
def top256:Nat:=18446744073709551616 ^ 4
def WOk(w:W):Prop:=Wd w.2.1∧w.2.1.length=4
def wi(w:W):Int:=if w.1 then -(wv w.2.1:Int) else(wv w.2.1:Int)
def pad4(v:Nat):List Int:=ofn v++List.replicate (4 - (ofn v).length) 0
def toW(z:Int):W:=(decide (z < 0),pad4 z.natAbs,())
theorem wv_zeros(n:Nat):wv (List.replicate n (0:Int))=0:=by
 induction n with
 | zero=>rfl
 | succ n ih=>simp [List.replicate_succ,wv,ih]
theorem wv_pad4(v:Nat):wv (pad4 v)=v:=by
 unfold pad4
 rw [wv_append,wv_zeros,wv_ofn]; simp
theorem pad4_Wd(v:Nat):Wd (pad4 v):=Wd.append (ofn_Wd v) (fun x hx=>by rw [List.eq_of_mem_replicate hx]; omega)
theorem pad4_length{v:Nat}(h:v < top256):(pad4 v).length=4:=by
 have:=ofn_length_lt (n:=4) h
 simp [pad4]; omega
theorem wv_inj:∀ {a b:List Int},Wd a→Wd b→a.length=b.length→wv a=wv b→a=b
 | [],[],_,_,_,_=>rfl
 | [],y::b,_,_,h,_=>by simp at h
 | x::a,[],_,_,h,_=>by simp at h
 | x::a,y::b,ha,hb,h,e=>by
  have hx:=Wd.head ha
  have hy:=Wd.head hb
  simp only [wv] at e
  rw [wv_inj (Wd.tail ha) (Wd.tail hb) (by simpa using h) (by omega),show x=y by omega]
theorem WOk.lt{w:W}(h:WOk w):wv w.2.1 < top256:=by
 have:=wv_lt h.1
 rw [h.2] at this
 exact this
theorem pad4_wv{l:List Int}(h:Wd l)(hl:l.length=4):pad4 (wv l)=l:=by
 have:=wv_lt h
 rw [hl] at this
 exact wv_inj (pad4_Wd _) h (by rw [pad4_length this,hl]) (wv_pad4 _)
theorem toW_ok{z:Int}(h:z.natAbs < top256):WOk (toW z):=⟨pad4_Wd _,pad4_length h⟩
theorem wi_toW(z:Int):wi (toW z)=z:=by
 unfold wi toW
 simp only [wv_pad4,decide_eq_true_eq]
 split <;> omega
theorem wi_abs(w:W):(wi w).natAbs=wv w.2.1:=by
 unfold wi; split <;> omega
theorem WOk.abs{w:W}(h:WOk w):(wi w).natAbs < top256:=by rw [wi_abs]; exact h.lt
def Vl(w:W):Prop:=¬ (w.1=true∧wv w.2.1=0)
instance (w:W):Decidable (Vl w):=by unfold Vl; infer_instance
theorem toW_Vl(z:Int):Vl (toW z):=by
 unfold Vl toW
 simp only [wv_pad4,decide_eq_true_eq]
 omega
theorem toW_wi{w:W}(h:WOk w)(hv:Vl w):toW (wi w)=w:=by
 obtain ⟨s,l,u⟩:=w
 unfold toW
 rw [wi_abs]
 simp only
 rw [pad4_wv h.1 h.2]
 congr 1
 unfold Vl at hv
 simp only at hv
 unfold wi
 cases s
 ·simp only [if_neg,Bool.false_eq_true,if_false]
  simp
  try omega
 ·simp only [if_true,true_and] at hv ⊢
  simp
  omega
theorem toW_zero:toW 0=(false,[0,0,0,0],()):=by
 unfold toW pad4
 rw [show(0:Int).natAbs=0 from rfl,ofn_zero]
 rfl
theorem pad4_short(l:List Int):(ofn (wv l)).length≤4↔wv l < top256:=ofn_len_iff
theorem ref02_of_eq(F:Nat)(hF:Fuel F){w:W}(h:WOk w):ref02_of F w=some (ofn (wv w.2.1),()):=by
 obtain ⟨s,l,u⟩:=w
 have h1:=h.1
 have h2:=h.2
 simp only at h1 h2 ⊢
 unfold ref02_of
 simp (disch:=omega) only [bs,↓if_pos,↓if_neg,List.nil_append,trim_eq F hF h1 (by omega)]
def wres(z:Int):W×Bool:=if z.natAbs < top256 then(toW z,true) else(toW 0,false)
theorem wide_loop(F:Nat){R:Type}(k:W→W→Option R)(x4:W)(s:Bool){l:List Int}(hl4:l.length≤4):∀ (lb la:List Int),l=la++lb→∀ N,lb.length < N →
  ref02_wide_l6 F k N l x4 (s,la++List.replicate (4 - la.length) 0,()) (la.length:Int)=k x4 (s,l++List.replicate (4 - l.length) 0,()):=by
 intro lb
 induction lb with
 | nil =>
  intro la h N hN
  obtain ⟨N,rfl⟩:∃ M,N=M+1:=⟨N - 1,by omega⟩
  have hla:l=la:=by rw [h]; simp
  subst hla
  unfold ref02_wide_l6
  simp (disch:=omega) only [bs,↓if_pos,↓if_neg]
 | cons x t ih =>
  intro la h N hN
  obtain ⟨N,rfl⟩:∃ M,N=M+1:=⟨N - 1,by omega⟩
  have e:=ih (la++[x]) (by rw [h]; simp) N (by simp at hN; omega)
  have hlen:l.length=la.length+(t.length+1):=by rw [h]; simp
  have hg:getL 0 l (la.length:Int)=x:=by rw [h]; exact get_mid _ _ _
  have hcast:((la++[x]).length:Int)=(la.length:Int)+1:=by simp
  have hset:setL (la++List.replicate (4 - la.length) 0) (la.length:Int) x=(la++[x])++List.replicate (4 - (la++[x]).length) 0:=by
   rw [show 4 - la.length=(4 - (la++[x]).length)+1 by simp; omega,List.replicate_succ]
   exact set_mid _ _ _ _
  rw [hcast] at e
  unfold ref02_wide_l6
  simp (disch:=omega) only [bs,↓if_pos,↓if_neg,hg,hset]
  exact e
theorem ref02_wide_eq(F:Nat)(hF:Fuel F)(s:Bool){l:List Int}(h:Wd l)(hl:(l.length:Int)≤140737488355328) :
  ref02_wide F s l=some ((wres (if s then -(wv l:Int) else(wv l:Int))).1,(wres (if s then -(wv l:Int) else(wv l:Int))).2,()):=by
 unfold ref02_wide
 rw [trim_eq F hF h hl]
 have hab:(if s then -(wv l:Int) else(wv l:Int)).natAbs=wv l:=by split <;> omega
 unfold wres
 rw [hab]
 by_cases c:wv l < top256
 ·have h4:=(pad4_short l).2 c
  have e:=fun (R:Type) (k:W→W→Option R) (s:Bool)=>wide_loop F k (false,[0,0,0,0],()) s h4 (ofn (wv l)) [] rfl F (by unfold Fuel at hF; omega)
  have e':∀ (R:Type) (k:W→W→Option R) (s:Bool),ref02_wide_l6 F k F (ofn (wv l)) (false,[0,0,0,0],()) (s,[0,0,0,0],()) 0=k (false,[0,0,0,0],()) (s,pad4 (wv l),()):=e
  have hpos:ltI 0 ((ofn (wv l)).length:Int)=decide (0 < wv l):=by
   have:=ofn_nil (v:=wv l)
   unfold ltI
   apply decide_eq_decide.2
   omega
  unfold ref02_wide_j5
  cases s
  ·simp (disch:=omega) only [bs,↓if_pos,↓if_neg,e']
   unfold toW
   have:(wv l:Int).natAbs=wv l:=by omega
   rw [this,show decide ((wv l:Int) < 0)=false by simp]
  ·simp only [Option.bind_some,lenI,cond_true,e',hpos]
   simp (disch:=omega) only [bs,↓if_pos,↓if_neg]
   unfold toW
   have:(-(wv l:Int)).natAbs=wv l:=by omega
   rw [this]
   congr 3
   apply decide_eq_decide.2
   omega
 ·have h4:¬ (ofn (wv l)).length≤4:=fun hh=>c ((pad4_short l).1 hh)
  simp (disch:=omega) only [bs,↓if_pos,↓if_neg,toW_zero]
theorem ref02_Valid_eq(F:Nat)(hF:Fuel F){w:W}(h:WOk w):ref02_Valid F w=some (decide (Vl w),()):=by
 unfold ref02_Valid Vl
 rw [ref02_of_eq F hF h]
 obtain ⟨s,l,u⟩:=w
 cases s
 ·rfl
 ·have:=ofn_nil (v:=wv l)
  simp only [Option.bind_some,lenI,Bool.not_true,cond_false,Option.some.injEq,Prod.mk.injEq,and_true,ltI,true_and]
  apply decide_eq_decide.2
  omega
theorem ref02_clean_eq(F:Nat)(hF:Fuel F){w:W}(h:WOk w):ref02_clean F w=some (toW (wi w),()):=by
 unfold ref02_clean
 rw [ref02_Valid_eq F hF h]
 by_cases hv:Vl w
 ·simp (disch:=omega) only [bs,↓if_pos,↓if_neg,hv,decide_true,toW_wi h hv]
 ·have:wi w=0:=by
   unfold Vl at hv
   unfold wi
   simp only [Classical.not_not] at hv
   rw [hv.1,hv.2]; rfl
  rw [this,toW_zero]
  simp (disch:=omega) only [bs,↓if_pos,↓if_neg,hv,decide_false]
theorem ref02_Sign_eq(F:Nat)(hF:Fuel F){w:W}(h:WOk w):ref02_Sign F w=some (if wi w=0 then 0 else if wi w < 0 then -1 else 1,()):=by
 unfold ref02_Sign
 rw [ref02_of_eq F hF h]
 have h0:=ofn_nil (v:=wv w.2.1)
 obtain ⟨s,l,u⟩:=w
 unfold wi
 simp only at h0 ⊢
 by_cases c:wv l=0
 ·simp (disch:=omega) only [bs,↓if_pos,↓if_neg]
 ·cases s
  ·simp (disch:=omega) only [bs,↓if_pos,↓if_neg]
  ·simp (disch:=omega) only [bs,↓if_pos,↓if_neg]
theorem ref02_Neg_eq(F:Nat)(hF:Fuel F){w:W}(h:WOk w):ref02_Neg F w=some (toW (-(wi w)),()):=by
 unfold ref02_Neg
 have hlt:=h.lt
 have hl:=ofn_length_lt (v:=wv w.2.1) (n:=4) hlt
 rw [ref02_of_eq F hF h]
 simp only [Option.bind_some]
 rw [ref02_wide_eq F hF (!w.1) (ofn_Wd (wv w.2.1)) (by omega),wv_ofn]
 have e:(if(!w.1)=true then -(wv w.2.1:Int) else(wv w.2.1:Int))=-(wi w):=by
  unfold wi; cases w.1 <;> simp
 rw [e]
 unfold wres
 rw [if_pos (by rw [Int.natAbs_neg,wi_abs]; exact hlt)]
 rfl
theorem top256_big:18446744073709551616≤top256:=by
 show 18446744073709551616≤18446744073709551616 ^ 4
 exact Nat.le_self_pow (by omega) _
theorem toW_word{v:Nat}(h:v < 18446744073709551616)(s:Bool)(hs:s=true→0 < v):toW (if s then -(v:Int) else v)=(s,[(v:Int),0,0,0],()):=by
 refine(toW_wi (w:=(s,[(v:Int),0,0,0],())) ?_ ?_).symm.trans ?_ |>.symm
 ·refine ⟨fun x hx=>?_,rfl⟩
  simp only [List.mem_cons,List.not_mem_nil,or_false] at hx
  rcases hx with h | h | h | h <;> omega
 ·rintro ⟨h1,h2⟩
  simp only [wv] at h1 h2
  have:=hs h1
  omega
 ·unfold wi
  simp only [wv]
  congr 1
theorem ref02_Of_eq(F:Nat){x:Int}(h:I64 x):ref02_Of F x=some (toW x,()):=by
 unfold I64 at h
 unfold ref02_Of
 have hw:IntKind.u64.wrap x=if 0≤x then x else x+18446744073709551616:=by rw [wrap_u64_mod]; split <;> omega
 by_cases c:x < 0
 ·have hs:subI .u64 0 (IntKind.u64.wrap x)=((-x).toNat:Int):=by
   show IntKind.u64.wrap (0 - IntKind.u64.wrap x)=_
   rw [hw,wrap_u64_mod]
   split <;> omega
  have:=toW_word (v:=(-x).toNat) (by omega) true (by intro; omega)
  simp (disch:=omega) only [bs,↓if_pos,↓if_neg,hs]
  rw [← this]
  simp only [if_true]
  rw [show -(((-x).toNat:Nat):Int)=x by omega]
 ·have:=toW_word (v:=x.toNat) (by omega) false (by simp)
  have hw':IntKind.u64.wrap x=(x.toNat:Int):=by rw [hw]; split <;> omega
  simp (disch:=omega) only [bs,↓if_pos,↓if_neg,hw']
  rw [← this]
  simp only [Bool.false_eq_true,if_false]
  rw [show((x.toNat:Nat):Int)=x by omega]
theorem ref02_OfUnsigned_eq(F:Nat){x:Int}(h:0≤x∧x≤18446744073709551615):ref02_OfUnsigned F x=some (toW x,()):=by
 unfold ref02_OfUnsigned
 have:=toW_word (v:=x.toNat) (by omega) false (by simp)
 simp only [Bool.false_eq_true,if_false] at this
 rw [show((x.toNat:Nat):Int)=x by omega] at this
 rw [this]
theorem toW_first{z:Int}(h:0≤z∧z < 18446744073709551616):getL 0 (toW z).2.1 0=z:=by
 have:=toW_word (v:=z.toNat) (by omega) false (by simp)
 simp only [Bool.false_eq_true,if_false] at this
 rw [show((z.toNat:Nat):Int)=z by omega] at this
 rw [this]; rfl
theorem ref02_Unsigned_eq(F:Nat)(hF:Fuel F){w:W}(h:WOk w):ref02_Unsigned F w=some (if 0≤wi w∧wi w < 18446744073709551616 then wi w else 0,decide (0≤wi w∧wi w < 18446744073709551616),()):=by
 unfold ref02_Unsigned
 rw [ref02_clean_eq F hF h]
 have hok:=toW_ok h.abs
 simp (disch:=omega) only [bs,↓if_pos,↓if_neg,ref02_of_eq F hF hok]
 rw [show(toW (wi w)).1=decide (wi w < 0) from rfl,show wv (toW (wi w)).2.1=(wi w).natAbs from wv_pad4 _]
 have hlen:=ofn_len_iff (v:=(wi w).natAbs) (n:=1)
 rw [Nat.pow_one] at hlen
 by_cases c:wi w < 0
 ·simp only [c,decide_true,if_true]
  rw [if_neg (by omega),decide_eq_false (by omega)]
 ·simp only [c,decide_false,Bool.false_eq_true,if_false]
  by_cases c2:wi w < 18446744073709551616
  ·rw [if_neg (by omega),if_pos (by omega),decide_eq_true (by omega),toW_first (by omega)]
  ·rw [if_pos (by omega),if_neg (by omega),decide_eq_false (by omega)]
theorem ref02_Mul_eq(F:Nat)(hF:Fuel F){x y:W}(hx:WOk x)(hy:WOk y):ref02_Mul F x y=some ((wres (wi x*wi y)).1,(wres (wi x*wi y)).2,()):=by
 unfold ref02_Mul
 have hxo:=toW_ok hx.abs
 have hyo:=toW_ok hy.abs
 rw [ref02_clean_eq F hF hx,ref02_clean_eq F hF hy]
 have l1:=ofn_length_lt (v:=(wi x).natAbs) (n:=4) hx.abs
 have l2:=ofn_length_lt (v:=(wi y).natAbs) (n:=4) hy.abs
 have v1:wv (toW (wi x)).2.1=(wi x).natAbs:=wv_pad4 _
 have v2:wv (toW (wi y)).2.1=(wi y).natAbs:=wv_pad4 _
 simp (disch:=omega) only [bs,↓if_pos,↓if_neg,ref02_of_eq F hF hxo,ref02_of_eq F hF hyo,v1,v2]
 rw [mul_eq F hF (ofn_Wd _) (ofn_Wd _) (by omega) (by omega),wv_ofn,wv_ofn]
 have l3:=ofn_length_lt (v:=(wi x).natAbs*(wi y).natAbs) (n:=8) (by
  have:=Nat.mul_lt_mul'' hx.abs hy.abs
  exact Nat.lt_of_lt_of_eq this (by rw [top256,← Nat.pow_add]))
 simp (disch:=omega) only [bs,↓if_pos,↓if_neg]
 rw [ref02_wide_eq F hF _ (ofn_Wd _) (by omega),wv_ofn]
 have e:(if(!eqT Ty.bool (toW (wi x)).1 (toW (wi y)).1)=true then -(((wi x).natAbs*(wi y).natAbs:Nat):Int) else(((wi x).natAbs*(wi y).natAbs:Nat):Int))=wi x*wi y:=by
  rw [show(toW (wi x)).1=decide (wi x < 0) from rfl,show(toW (wi y)).1=decide (wi y < 0) from rfl]
  generalize wi x=a
  generalize wi y=b
  show(if(!(decide (a < 0) == decide (b < 0)))=true then _ else _)=_
  by_cases ha:a < 0 <;> by_cases hb:b < 0
  ·simp only [ha,hb,decide_true,beq_self_eq_true,Bool.not_true,Bool.false_eq_true,if_false]
   rw [Int.natCast_mul,show((a.natAbs:Nat):Int)=-a by omega,show((b.natAbs:Nat):Int)=-b by omega,Int.neg_mul_neg]
  ·simp [ha,hb]
   rw [show((b.natAbs:Nat):Int)=b by omega,show((a.natAbs:Nat):Int)=-a by omega,Int.neg_mul,Int.neg_neg]
  ·simp [ha,hb]
   rw [show((b.natAbs:Nat):Int)=-b by omega,show((a.natAbs:Nat):Int)=a by omega,Int.mul_neg,Int.neg_neg]
  ·simp only [ha,hb,decide_false,beq_self_eq_true,Bool.not_true,Bool.false_eq_true,if_false]
   rw [Int.natCast_mul,show((a.natAbs:Nat):Int)=a by omega,show((b.natAbs:Nat):Int)=b by omega]
 rw [e]
 simp (disch:=omega) only [bs,↓if_pos,↓if_neg]
theorem ref02_Add_eq(F:Nat)(hF:Fuel F){x y:W}(hx:WOk x)(hy:WOk y):ref02_Add F x y=some ((wres (wi x+wi y)).1,(wres (wi x+wi y)).2,()):=by
 unfold ref02_Add
 have hxo:=toW_ok hx.abs
 have hyo:=toW_ok hy.abs
 rw [ref02_clean_eq F hF hx,ref02_clean_eq F hF hy]
 have ax:=hx.abs
 have ay:=hy.abs
 have l1:=ofn_length_lt (v:=(wi x).natAbs) (n:=4) hx.abs
 have l2:=ofn_length_lt (v:=(wi y).natAbs) (n:=4) hy.abs
 have v1:wv (toW (wi x)).2.1=(wi x).natAbs:=wv_pad4 _
 have v2:wv (toW (wi y)).2.1=(wi y).natAbs:=wv_pad4 _
 simp only [Option.bind_some,ref02_of_eq F hF hxo,ref02_of_eq F hF hyo,v1,v2]
 rw [show(toW (wi x)).1=decide (wi x < 0) from rfl,show(toW (wi y)).1=decide (wi y < 0) from rfl]
 generalize wi x=a at *
 generalize wi y=b at *
 rw [add_eq F hF (ofn_Wd _) (ofn_Wd _) (by omega) (by omega),wv_ofn,wv_ofn,compare_eq F hF (by omega) (by omega)]
 have l3:=ofn_length_lt (v:=a.natAbs+b.natAbs) (n:=5) (by
  have:top256+top256≤18446744073709551616 ^ 5:=by decide
  omega)
 have fin:∀ (s:Bool) (v:Nat),v < top256+top256→(if s then -(v:Int) else(v:Int))=a+b→((ref02_wide F s (ofn v)).bind fun r7=>some (r7.1,r7.2.1,()))=some ((wres (a+b)).1,(wres (a+b)).2,()):=by
  intro s v hv he
  have lv:=ofn_length_lt (v:=v) (n:=5) (by
   have:top256+top256≤18446744073709551616 ^ 5:=by decide
   omega)
  rw [ref02_wide_eq F hF s (ofn_Wd v) (by omega),wv_ofn,he]
  rfl
 have hlenle:∀ m n:Nat,m≤n→(ofn m).length≤(ofn n).length:=fun m n hmn =>
  ofn_len_iff.2 (Nat.lt_of_le_of_lt hmn (ofn_len_iff.1 (Nat.le_refl _)))
 by_cases hs:decide (a < 0)=decide (b < 0)
 ·have:eqT Ty.bool (decide (a < 0)) (decide (b < 0))=true:=by rw [hs]; show(decide (b < 0) == decide (b < 0))=true; simp
  rw [this,cond_true]
  simp only [Option.bind_some]
  refine fin _ _ (by omega) ?_
  have hs:=decide_eq_decide.1 hs
  by_cases ha:a < 0
  ·simp only [ha,decide_true,if_true]; omega
  ·simp only [ha,decide_false,Bool.false_eq_true,if_false]; omega
 ·have:eqT Ty.bool (decide (a < 0)) (decide (b < 0))=false:=by show(decide (a < 0) == decide (b < 0))=false; simpa using hs
  rw [this,cond_false]
  simp only [Option.bind_some]
  have hs:¬ (a < 0↔b < 0):=fun h=>hs (decide_eq_decide.2 h)
  unfold cmpN
  by_cases hc:b.natAbs≤a.natAbs
  ·have:leI 0 (if a.natAbs < b.natAbs then(-1:Int) else if b.natAbs < a.natAbs then 1 else 0)=true:=by
    rw [leI_true]; split
    ·omega
    ·split <;> omega
   rw [this,cond_true,sub_eq F hF (ofn_Wd _) (ofn_Wd _) (hlenle _ _ hc) (by omega) (by rw [wv_ofn,wv_ofn]; exact hc),wv_ofn,wv_ofn]
   simp only [Option.bind_some]
   refine fin _ _ (by omega) ?_
   by_cases ha:a < 0
   ·simp only [ha,decide_true,if_true]; omega
   ·simp only [ha,decide_false,Bool.false_eq_true,if_false]; omega
  ·have:leI 0 (if a.natAbs < b.natAbs then(-1:Int) else if b.natAbs < a.natAbs then 1 else 0)=false:=by
    rw [← Bool.not_eq_true,leI_true,if_pos (by omega)]; omega
   rw [this,cond_false,sub_eq F hF (ofn_Wd _) (ofn_Wd _) (hlenle _ _ (by omega)) (by omega) (by rw [wv_ofn,wv_ofn]; omega),wv_ofn,wv_ofn]
   simp only [Option.bind_some]
   refine fin _ _ (by omega) ?_
   by_cases hb:b < 0
   ·simp only [hb,decide_true,if_true]; omega
   ·simp only [hb,decide_false,Bool.false_eq_true,if_false]; omega
theorem ref02_Compare_eq(F:Nat)(hF:Fuel F){x y:W}(hx:WOk x)(hy:WOk y):ref02_Compare F x y=some (if wi x < wi y then -1 else if wi y < wi x then 1 else 0,()):=by
 unfold ref02_Compare
 have l1:=ofn_length_lt (v:=wv x.2.1) (n:=4) hx.lt
 have l2:=ofn_length_lt (v:=wv y.2.1) (n:=4) hy.lt
 rw [ref02_Sign_eq F hF hx,ref02_Sign_eq F hF hy,ref02_of_eq F hF hx,ref02_of_eq F hF hy]
 simp only [Option.bind_some]
 rw [compare_eq F hF (by omega) (by omega)]
 rw [← wi_abs x,← wi_abs y]
 generalize wi x=a
 generalize wi y=b
 have sg:∀ z:Int,(z=0∧(if z=0 then(0:Int) else if z < 0 then -1 else 1)=0)∨(z < 0∧(if z=0 then(0:Int) else if z < 0 then -1 else 1)=-1)∨(0 < z∧(if z=0 then(0:Int) else if z < 0 then -1 else 1)=1):=by
  intro z
  split
  ·omega
  ·split <;> omega
 have m1:∀ c:Int,(-1≤c∧c≤1)→mulI .i64 (-1) c=-c:=fun c hc=>by rw [mulI_i64 (by omega)]; omega
 have m2:∀ c:Int,(-1≤c∧c≤1)→mulI .i64 1 c=c:=fun c hc=>by rw [mulI_i64 (by omega)]; omega
 have m3:∀ c:Int,(-1≤c∧c≤1)→mulI .i64 0 c=0:=fun c hc=>by rw [mulI_i64 (by omega)]; omega
 have hc:-1≤cmpN a.natAbs b.natAbs∧cmpN a.natAbs b.natAbs≤1:=by unfold cmpN; split <;> (try split) <;> omega
 rcases sg a with ⟨h,e⟩ | ⟨h,e⟩ | ⟨h,e⟩ <;> rcases sg b with ⟨k,f⟩ | ⟨k,f⟩ | ⟨k,f⟩ <;> rw [e,f] <;> simp (disch:=omega) only [Option.bind_some,iteB,notf_true_iff,eqI_true,ltI_true,↓if_pos,↓if_neg,m1 _ hc,m2 _ hc,m3 _ hc,not_true_eq_false,if_false] <;>
  simp only [Option.some.injEq,Prod.mk.injEq,and_true,cmpN] <;> (try split) <;> (try split) <;> (try split) <;> (try split) <;> omega
def uw(z:Int):Nat:=2*z.natAbs+(if z < 0 then 1 else 0)
def wu(u:Nat):Int:=if u % 2=1 then -((u / 2:Nat):Int) else((u / 2:Nat):Int)
theorem wu_uw(z:Int):wu (uw z)=z:=by
 unfold uw wu; split <;> split <;> omega
theorem uw_ne(z:Int):uw z≠1:=by
 unfold uw; split <;> omega
theorem uw_lt{z:Int}(h:z.natAbs < top256):uw z < 2*top256:=by
 unfold uw; split <;> omega
theorem wu_abs{u:Nat}(h:u < 2*top256):(wu u).natAbs < top256:=by
 unfold wu; split <;> omega
theorem enc_length_le:∀ (m:Nat) {v:Nat},v < 128 ^ m→1≤m→(enc v).length≤m:=by
 intro m
 induction m with
 | zero=>intro v _ h; omega
 | succ m ih =>
  intro v hv _
  by_cases h:v < 128
  ·rw [enc_small h]; simp
  ·rw [enc_big h,List.length_cons]
   cases m with
   | zero=>simp at hv; omega
   | succ m =>
    have:=ih (v:=v / 128) (by rw [Nat.pow_succ] at hv; exact Nat.div_lt_of_lt_mul (by rw [Nat.mul_comm]; exact hv)) (by omega)
    omega
theorem top256_val:2*top256≤128 ^ 37:=by decide
theorem enc_uw_len{z:Int}(h:z.natAbs < top256):(enc (uw z)).length≤37:=enc_length_le 37 (by have:=uw_lt h; have:=top256_val; omega) (by omega)
/- what the program appends -/
theorem eqT_words:∀ (n:Nat) (a b:List Int),eqT (.arr n (.int .u64)) a b=decide (a=b):=by
 intro n a b
 show eqL (fun x y=>decide ((x:Int)=y)) a b=_
 induction a generalizing b with
 | nil=>cases b <;> simp [eqL]
 | cons x t ih =>
  cases b with
  | nil=>simp [eqL]
  | cons y b=>simp [eqL,ih]
theorem wide_Valid_eq(F:Nat){w:W}(h:WOk w):wide_Valid F w=some (decide (Vl w),()):=by
 unfold wide_Valid Vl
 obtain ⟨s,l,u⟩:=w
 have h1:=h.1
 have h2:=h.2
 simp only at h1 h2
 cases s
 ·rfl
 ·simp only [Bool.not_true,cond_false,Option.some.injEq,Prod.mk.injEq,and_true,true_and]
  rw [eqT_words]
  have:l=[0,0,0,0]↔wv l=0:=by
   constructor
   ·intro e; rw [e]; rfl
   ·intro e; exact wv_inj h1 (fun x hx=>by simp at hx; omega) (by simp [h2]) (by rw [e]; rfl)
  simp [this]
theorem shl1_word{h x:Int}(hh:0≤h∧h≤1)(hx:0≤x∧x≤18446744073709551615):orI .u64 h (shlI .u64 x 1)=2*x % 18446744073709551616+h:=by
 rw [shlI_u64 hx.1 (by omega),show min (1:Int).toNat 64=1 from rfl]
 have e:x.toNat*2 ^ 1 % 2 ^ 64=2 ^ 1*(x % 9223372036854775808).toNat:=by omega
 rw [e,orI_u64 (by omega) (by omega),Int.toNat_natCast,Nat.or_comm,← Nat.two_pow_add_eq_or_of_lt (by omega)]
 omega
theorem shr63{x:Int}(hx:0≤x):shrI .u64 x 63=x / 9223372036854775808:=by
 rw [shrI_nat hx]
 simp only [IntKind.bits]
 rw [show min (63:Int).toNat 64=63 from rfl]
 omega
theorem AppendWide_dbl(F:Nat){a b c d:Int}(ha:0≤a∧a≤18446744073709551615)(hb:0≤b∧b≤18446744073709551615)(hc:0≤c∧c≤18446744073709551615)(hd:0≤d∧d≤18446744073709551615)
  {R:Type} (k:List Int→W→List Int→Option R) (x0:List Int) (w:W) (N:Nat) :
  varint_AppendWide_l5 F k (N+5) x0 w [0,0,0,0,0] [a,b,c,d] 0=k x0 w [2*a % 18446744073709551616,2*b % 18446744073709551616+a / 9223372036854775808,2*c % 18446744073709551616+b / 9223372036854775808,2*d % 18446744073709551616+c / 9223372036854775808,d / 9223372036854775808]:=by
 have e:varint_AppendWide_l5 F k (N+5) x0 w [0,0,0,0,0] [a,b,c,d] 0=k x0 w [orI .u64 0 (shlI .u64 a 1),orI .u64 (shrI .u64 a 63) (shlI .u64 b 1),orI .u64 (shrI .u64 b 63) (shlI .u64 c 1),orI .u64 (shrI .u64 c 63) (shlI .u64 d 1),shrI .u64 d 63]:=by
  kernel_rfl
 rw [e,shr63 ha.1,shr63 hb.1,shr63 hc.1,shr63 hd.1,shl1_word (by omega) ha,shl1_word (by omega) hb,shl1_word (by omega) hc,shl1_word (by omega) hd]
 simp
theorem shr7_word{x y:Int}(hx:0≤x∧x≤18446744073709551615)(hy:0≤y∧y≤18446744073709551615):orI .u64 (shrI .u64 x 7) (shlI .u64 y 57)=x / 128+y % 128*144115188075855872:=by
 rw [shr7 hx.1,shlI_u64 hy.1 (by omega),show min (57:Int).toNat 64=57 from rfl]
 have h:y.toNat*2 ^ 57 % 2 ^ 64=2 ^ 57*(y % 128).toNat:=by omega
 rw [h,orI_u64 (by omega) (by omega),Int.toNat_natCast,Nat.or_comm,← Nat.two_pow_add_eq_or_of_lt (by omega)]
 omega
theorem AppendWide_shr(F:Nat){a b c d e:Int}(ha:0≤a∧a≤18446744073709551615)(hb:0≤b∧b≤18446744073709551615)(hc:0≤c∧c≤18446744073709551615)(hd:0≤d∧d≤18446744073709551615)(he:0≤e∧e≤18446744073709551615)
  {R:Type} (k:List Int→List Int→Int→Option R) (x8:List Int) (x9:Int) (N:Nat) :
  varint_AppendWide_l15 F k (N+6) [a,b,c,d,e] x8 x9 0=k [a / 128+b % 128*144115188075855872,b / 128+c % 128*144115188075855872,c / 128+d % 128*144115188075855872,d / 128+e % 128*144115188075855872,e / 128] x8 x9:=by
 have h:varint_AppendWide_l15 F k (N+6) [a,b,c,d,e] x8 x9 0=k [orI .u64 (shrI .u64 a 7) (shlI .u64 b 57),orI .u64 (shrI .u64 b 7) (shlI .u64 c 57),orI .u64 (shrI .u64 c 7) (shlI .u64 d 57),orI .u64 (shrI .u64 d 7) (shlI .u64 e 57),shrI .u64 e 7] x8 x9:=by
  kernel_rfl
 rw [h,shr7_word ha hb,shr7_word hb hc,shr7_word hc hd,shr7_word hd he,shr7 he.1]
theorem five_words{l:List Int}(h:l.length=5):∃ a b c d e,l=[a,b,c,d,e]:=by
 match l,h with
 | [a,b,c,d,e],_=>exact ⟨a,b,c,d,e,rfl⟩
theorem four_words{l:List Int}(h:l.length=4):∃ a b c d,l=[a,b,c,d]:=by
 match l,h with
 | [a,b,c,d],_=>exact ⟨a,b,c,d,rfl⟩
def shr7s:List Int→List Int
 | []=>[]
 | [x]=>[x / 128]
 | x::y::t=>(x / 128+y % 128*144115188075855872)::shr7s (y::t)
theorem shr7s_length:∀ l:List Int,(shr7s l).length=l.length
 | []=>rfl
 | [x]=>rfl
 | x::y::t=>by simp [shr7s,shr7s_length (y::t)]
theorem shr7s_Wd:∀ {l:List Int},Wd l→Wd (shr7s l)
 | [],_=>Wd.nil
 | [x],h=>Wd.one (by have:=Wd.head h; omega)
 | x::y::t,h=>Wd.cons (by have:=Wd.head h; have:=Wd.head (Wd.tail h); omega) (shr7s_Wd (Wd.tail h))
theorem shr7s_wv:∀ {l:List Int},Wd l→wv (shr7s l)=wv l / 128
 | [],_=>rfl
 | [x],h=>by have:=Wd.head h; simp only [shr7s,wv]; omega
 | x::y::t,h=>by
  have h1:=Wd.head h
  have h2:=Wd.head (Wd.tail h)
  have e:=shr7s_wv (Wd.tail h)
  simp only [shr7s,wv] at e ⊢
  omega
theorem AppendWide_shrs(F:Nat){x5:List Int}(h:Wd x5)(hl:x5.length=5){R:Type}(k:List Int→List Int→Int→Option R)(x8:List Int)(x9:Int)(N:Nat) :
  varint_AppendWide_l15 F k (N+6) x5 x8 x9 0=k (shr7s x5) x8 x9:=by
 obtain ⟨a,b,c,d,e,rfl⟩:=five_words hl
 exact AppendWide_shr F (h a (by simp)) (h b (by simp)) (h c (by simp)) (h d (by simp)) (h e (by simp)) k x8 x9 N
theorem wv_first{l:List Int}(h:Wd l)(hl:0 < l.length):(wv l % 128:Nat)=getL 0 l 0 % 128:=by
 cases l with
 | nil=>simp at hl
 | cons x t =>
  have:=Wd.head h
  show((wv (x::t) % 128:Nat):Int)=x % 128
  simp only [wv]; omega
theorem AppendWide_loop(F:Nat)(hF:Fuel F){R:Type}(k:List Int→Option R):∀ (m:Nat) (x5 out:List Int),Wd x5→x5.length=5→wv x5 < 128 ^ (m+1)→(out.length:Int)+m≤140737488355320 →
  ∀ N,m < N→varint_AppendWide_l13 F k N x5 out=k (out++enc (wv x5)):=by
 obtain ⟨G,rfl⟩:∃ G,F=G+6:=⟨F - 6,by unfold Fuel at hF; omega⟩
 intro m
 induction m with
 | zero =>
  intro x5 out hw hl hv hlen N hN
  obtain ⟨N,rfl⟩:∃ M,N=M+1:=⟨N - 1,by omega⟩
  have h1:=shr7s_wv hw
  have h2:=shr7s_Wd hw
  have h3:=shr7s_length x5
  have h4:=wv_first hw (by omega)
  have hg:=Wd.get hw 0
  have hz:shr7s x5=[0,0,0,0,0]:=wv_inj h2 (fun x hx=>by simp at hx; omega) (by rw [h3,hl]; rfl) (by
   rw [h1]
   have:wv x5 / 128=0:=by rw [Nat.pow_one] at hv; omega
   rw [this]; rfl)
  unfold varint_AppendWide_l13
  rw [AppendWide_shrs _ hw hl,hz,eqT_words,decide_eq_true rfl]
  have hwr:IntKind.u8.wrap (remI (getL 0 x5 0) 128)=((wv x5:Nat):Int):=by
   rw [remI_nn hg.1,wrap_u8_mod,← h4]; omega
  rw [hwr]
  simp (disch:=omega) only [bs,↓if_pos,↓if_neg]
  rw [enc_small (by omega)]
 | succ m ih =>
  intro x5 out hw hl hv hlen N hN
  obtain ⟨N,rfl⟩:∃ M,N=M+1:=⟨N - 1,by omega⟩
  have h1:=shr7s_wv hw
  have h2:=shr7s_Wd hw
  have h3:=shr7s_length x5
  have h4:=wv_first hw (by omega)
  have hg:=Wd.get hw 0
  have hzero:shr7s x5=[0,0,0,0,0]↔wv x5 < 128:=by
   rw [← Nat.div_eq_zero_iff_lt (by omega),← h1]
   exact ⟨fun h=>by rw [h]; rfl,fun h=>wv_inj h2 (fun x hx=>by simp at hx; omega) (by rw [h3,hl]; rfl) (by rw [h]; rfl)⟩
  have hwr:IntKind.u8.wrap (remI (getL 0 x5 0) 128)=((wv x5 % 128:Nat):Int):=by
   rw [remI_nn hg.1,wrap_u8_mod,← h4]; omega
  unfold varint_AppendWide_l13
  rw [AppendWide_shrs _ hw hl,eqT_words,hwr]
  by_cases hs:wv x5 < 128
  ·rw [decide_eq_true (hzero.2 hs)]
   simp (disch:=omega) only [bs,↓if_pos,↓if_neg]
   rw [enc_small hs]
   congr 3
   omega
  ·rw [decide_eq_false (fun h=>hs (hzero.1 h))]
   have hor:=or128I (x:=((wv x5 % 128:Nat):Int)) (by omega)
   rw [wrap_u8 (by omega)] at hor
   have e2:=ih (shr7s x5) (out++[orI .u8 ((wv x5 % 128:Nat):Int) 128]) h2 (by omega) (by rw [h1]; rw [Nat.pow_succ] at hv; exact Nat.div_lt_of_lt_mul (by rw [Nat.mul_comm]; exact hv)) (by simp; omega) N (by omega)
   simp (disch:=omega) only [bs,↓if_pos,↓if_neg]
   refine Eq.trans e2 ?_
   rw [h1,enc_big hs,hor]
   simp
def dbls(h:Int):List Int→List Int
 | []=>[h]
 | x::t=>(2*x % 18446744073709551616+h)::dbls (x / 9223372036854775808) t
theorem dbls_length:∀ (l:List Int) (h:Int),(dbls h l).length=l.length+1
 | [],h=>rfl
 | x::t,h=>by simp [dbls,dbls_length t]
theorem dbls_Wd:∀ {l:List Int} {h:Int},Wd l→0≤h∧h≤1→Wd (dbls h l)
 | [],h,_,hh=>Wd.one (by omega)
 | x::t,h,hw,hh=>by
  have:=Wd.head hw
  exact Wd.cons (by omega) (dbls_Wd (Wd.tail hw) (by omega))
theorem dbls_wv:∀ {l:List Int} {h:Int},Wd l→0≤h∧h≤1→wv (dbls h l)=2*wv l+h.toNat
 | [],h,_,hh=>by simp [dbls,wv]
 | x::t,h,hw,hh=>by
  have h1:=Wd.head hw
  have e:=dbls_wv (l:=t) (h:=x / 9223372036854775808) (Wd.tail hw) (by omega)
  simp only [dbls,wv,e]
  omega
theorem AppendWide_dbls(F:Nat){ws:List Int}(h:Wd ws)(hl:ws.length=4){R:Type}(k:List Int→W→List Int→Option R)(x0:List Int)(w:W)(N:Nat) :
  varint_AppendWide_l5 F k (N+5) x0 w [0,0,0,0,0] ws 0=k x0 w (dbls 0 ws):=by
 obtain ⟨a,b,c,d,rfl⟩:=four_words hl
 rw [AppendWide_dbl F (h a (by simp)) (h b (by simp)) (h c (by simp)) (h d (by simp)) k x0 w N]
 simp only [dbls,Int.add_zero]
theorem add_first{l:List Int}(h:Wd l)(hl:0 < l.length)(he:wv l % 2=0):Wd (setL l 0 (addI .u64 (getL 0 l 0) 1))∧(setL l 0 (addI .u64 (getL 0 l 0) 1)).length=l.length∧wv (setL l 0 (addI .u64 (getL 0 l 0) 1))=wv l+1:=by
 cases l with
 | nil=>simp at hl
 | cons x t =>
  have hx:=Wd.head h
  simp only [wv] at he
  show Wd (addI .u64 x 1::t)∧(addI .u64 x 1::t).length=_∧wv (addI .u64 x 1::t)=_
  rw [addI_u64 (by omega)]
  refine ⟨Wd.cons (by omega) (Wd.tail h),rfl,?_⟩
  simp only [wv]; omega
theorem AppendWide_core(F:Nat)(hF:Fuel F){b:List Int}(hb:Room b){R:Type}(k:List Int→Option R){z:Int}(hz:z.natAbs < top256):varint_AppendWide_j3 F k b (toW z)=k (b++enc (uw z)):=by
 unfold Room at hb
 have hlt:=uw_lt hz
 have htop:=top256_val
 have fin:∀ x5:List Int,Wd x5→x5.length=5→wv x5=uw z→varint_AppendWide_j12 F k b x5=k (b++enc (uw z)):=by
  intro x5 h1 h2 h3
  unfold varint_AppendWide_j12
  rw [Clone_eq _ (by omega)]
  simp only [Option.bind_some]
  rw [Grow_eq _ (by omega) (by omega)]
  simp only [Option.bind_some]
  rw [AppendWide_loop F hF _ 36 x5 b h1 h2 (by rw [h3]; omega) (by omega) F (by unfold Fuel at hF; omega),h3]
 have hw:=pad4_Wd z.natAbs
 have hl:=pad4_length hz
 have hv:=wv_pad4 z.natAbs
 have d1:=dbls_Wd (h:=0) hw (by omega)
 have d2:=dbls_length (pad4 z.natAbs) 0
 have d3:=dbls_wv (h:=0) hw (by omega)
 unfold varint_AppendWide_j3
 have e5:=fun (R:Type) (k:List Int→W→List Int→Option R)=>AppendWide_dbls F hw hl k b (toW z)
 obtain ⟨G,hG⟩:∃ G,F=G+5:=⟨F - 5,by unfold Fuel at hF; omega⟩
 have e6:=fun (R:Type) (k:List Int→W→List Int→Option R)=>e5 R k G
 rw [← hG] at e6
 refine Eq.trans (e6 R _) ?_
 show(bif decide (z < 0) then _ else _)=_
 generalize dbls 0 (pad4 z.natAbs)=l at *
 have huw:uw z=2*z.natAbs+(if z < 0 then 1 else 0):=rfl
 by_cases hz0:z < 0
 ·rw [if_pos hz0] at huw
  obtain ⟨a1,a2,a3⟩:=add_first d1 (by omega) (by rw [d3,hv]; simp)
  rw [decide_eq_true hz0,cond_true]
  exact fin _ a1 (by omega) (by rw [a3,d3,hv,huw]; simp)
 ·rw [if_neg hz0] at huw
  rw [decide_eq_false hz0,cond_false]
  exact fin _ d1 (by omega) (by rw [d3,hv,huw]; simp)
theorem not_Vl{w:W}(hv:¬ Vl w):wi w=0:=by
 unfold Vl at hv
 unfold wi
 simp only [Classical.not_not] at hv
 rw [hv.1,hv.2]; rfl
theorem varint_AppendWide_eq(F:Nat)(hF:Fuel F){b:List Int}(hb:Room b){w:W}(h:WOk w):varint_AppendWide F b w=some (b++enc (uw (wi w)),()):=by
 unfold varint_AppendWide
 rw [wide_Valid_eq F h]
 by_cases hv:Vl w
 ·have:=AppendWide_core F hF hb (fun z48=>some (z48,())) h.abs
  rw [toW_wi h hv] at this
  simp (disch:=omega) only [bs,↓if_pos,↓if_neg,hv,decide_true]
  exact this
 ·have:=AppendWide_core F hF hb (fun z48=>some (z48,())) (z:=0) (by decide)
  rw [toW_zero] at this
  simp (disch:=omega) only [bs,↓if_pos,↓if_neg,hv,decide_false]
  rw [not_Vl hv]
  exact this
def shl7s(h:Int):List Int→List Int
 | []=>[]
 | x::t=>(x*128 % 18446744073709551616+h)::shl7s (x / 144115188075855872) t
theorem shl7s_length:∀ (l:List Int) (h:Int),(shl7s h l).length=l.length
 | [],h=>rfl
 | x::t,h=>by simp [shl7s,shl7s_length t]
theorem shl7s_Wd:∀ {l:List Int} {h:Int},Wd l→0≤h∧h≤127→Wd (shl7s h l)
 | [],h,_,hh=>Wd.nil
 | x::t,h,hw,hh=>by
  have:=Wd.head hw
  exact Wd.cons (by omega) (shl7s_Wd (Wd.tail hw) (by omega))
theorem shl7s_wv:∀ {l:List Int} {h:Int},Wd l→0≤h∧h≤127→wv (shl7s h l)=(128*wv l+h.toNat) % 18446744073709551616 ^ l.length
 | [],h,_,hh=>by simp [shl7s,wv,Nat.mod_one]
 | x::t,h,hw,hh=>by
  have h1:=Wd.head hw
  have e:=shl7s_wv (l:=t) (h:=x / 144115188075855872) (Wd.tail hw) (by omega)
  simp only [shl7s,wv,e,List.length_cons]
  rw [Nat.pow_succ,Nat.mul_comm (18446744073709551616 ^ t.length),Nat.mod_mul]
  have e1:(128*(x.toNat+18446744073709551616*wv t)+h.toNat) / 18446744073709551616=128*wv t+(x / 144115188075855872).toNat:=by omega
  rw [e1]
  congr 1
  omega
theorem shl7_word{x h:Int}(hx:0≤x∧x≤18446744073709551615)(hh:0≤h∧h≤127):orI .u64 (shlI .u64 x 7) h=x*128 % 18446744073709551616+h:=by
 rw [shlI_u64 hx.1 (by omega),show min (7:Int).toNat 64=7 from rfl]
 have e:x.toNat*2 ^ 7 % 2 ^ 64=2 ^ 7*(x % 144115188075855872).toNat:=by omega
 rw [e,orI_u64 (by omega) (by omega),Int.toNat_natCast,← Nat.two_pow_add_eq_or_of_lt (by omega)]
 omega
theorem shr57{x:Int}(hx:0≤x):shrI .u64 x 57=x / 144115188075855872:=by
 rw [shrI_nat hx]
 simp only [IntKind.bits]
 rw [show min (57:Int).toNat 64=57 from rfl]
 omega
theorem ReadWide_shl(F:Nat){x9:List Int}(hw:Wd x9)(hl:x9.length=5) :
  ∃ y:List Int,(∀ (R:Type) (k:Int→W→List Int→List Int→Int→Option R) (x1:Int) (x4:W) (x7:List Int) (i:Int) (N:Nat),varint_ReadWide_l9 F k (N+5) x1 x4 x7 x9 i 4=k x1 x4 x7 y i)∧∀ h:Int,0≤h∧h≤127→setL y 0 (orI .u64 (shlI .u64 (getL 0 y 0) 7) h)=shl7s h x9:=by
 obtain ⟨a,b,c,d,e,rfl⟩:=five_words hl
 have ha:=hw a (by simp)
 have hb:=hw b (by simp)
 have hc:=hw c (by simp)
 have hd:=hw d (by simp)
 have he:=hw e (by simp)
 refine ⟨[a,orI .u64 (shlI .u64 b 7) (shrI .u64 a 57),orI .u64 (shlI .u64 c 7) (shrI .u64 b 57),orI .u64 (shlI .u64 d 7) (shrI .u64 c 57),orI .u64 (shlI .u64 e 7) (shrI .u64 d 57)],fun R k x1 x4 x7 i N=>by kernel_rfl,?_⟩
 intro h hh
 rw [shr57 ha.1,shr57 hb.1,shr57 hc.1,shr57 hd.1,shl7_word hb (by omega),shl7_word hc (by omega),shl7_word hd (by omega),shl7_word he (by omega)]
 simp only [getL,setL,Int.toNat_zero,List.getD_cons_zero,List.set_cons_zero,shl7s]
 rw [shl7_word ha hh]
theorem dv_drop_le(c:List Int)(m:Nat):dv (c.drop m)≤dv c:=by
 have:=dv_append (c.take m) (c.drop m)
 rw [List.take_append_drop] at this
 have h3:dv (c.drop m)≤128 ^ (c.take m).length*dv (c.drop m):=Nat.le_mul_of_pos_left _ (Nat.pow_pos (by omega))
 omega
theorem ReadWide_loop(F:Nat)(hF:Fuel F){x1:Int}{x4:W}{c:List Int}(hb:Bt c)(hl:c.length≤37) :
  ∀ (m:Nat) (x9:List Int),m≤c.length→Wd x9→x9.length=5→wv x9=dv (c.drop m)→∀ N,m < N →
   ∃ y:List Int,Wd y∧y.length=5∧wv y=dv c∧∀ (R:Type) (k:Int→W→List Int→List Int→Option R),varint_ReadWide_l6 F k N x1 x4 c x9 ((m:Int) - 1)=k x1 x4 c y:=by
 have hdc:dv c < 18446744073709551616 ^ 5:=by
  have:=dv_lt c
  have h2:=Nat.pow_le_pow_right (n:=128) (by omega) hl
  have:(128:Nat) ^ 37≤18446744073709551616 ^ 5:=by decide
  omega
 intro m
 induction m with
 | zero =>
  intro x9 hm h1 h2 h3 N hN
  obtain ⟨N,rfl⟩:∃ M,N=M+1:=⟨N - 1,by omega⟩
  refine ⟨x9,h1,h2,by simpa using h3,fun R k=>?_⟩
  unfold varint_ReadWide_l6
  simp (disch:=omega) only [bs,↓if_pos,↓if_neg]
 | succ m ih =>
  intro x9 hm h1 h2 h3 N hN
  obtain ⟨N,rfl⟩:∃ M,N=M+1:=⟨N - 1,by omega⟩
  have hsplit:=split_at (l:=c) (i:=m) (by omega)
  have hg:=getD_all (P:=fun x=>0≤x∧x≤255) hb (by omega) (d:=0) m
  have e1:dv (c.drop m)=(c.getD m 0 % 128).toNat+128*dv (c.drop (m+1)):=by rw [hsplit]; rfl
  have e2:=dv_drop_le c m
  have hgl:getL 0 c ((m:Int)+1 - 1)=c.getD m 0:=by rw [show(m:Int)+1 - 1=(m:Int) by omega,getL_nat]
  have hw7:=shl7s_wv (l:=x9) (h:=c.getD m 0 % 128) h1 (by omega)
  rw [h2,Nat.mod_eq_of_lt (by rw [h3]; omega)] at hw7
  obtain ⟨y,f1,f2,f3,f4⟩:=ih (shl7s (c.getD m 0 % 128) x9) (by omega) (shl7s_Wd h1 (by omega)) (by rw [shl7s_length,h2]) (by rw [hw7,h3,e1]; omega) N (by omega)
  refine ⟨y,f1,f2,f3,fun R k=>?_⟩
  obtain ⟨G,hG⟩:∃ G,F=G+5:=⟨F - 5,by unfold Fuel at hF; omega⟩
  unfold varint_ReadWide_l6
  have hcast:((m+1:Nat):Int)=(m:Int)+1:=by omega
  rw [hcast]
  obtain ⟨z,g1,g2⟩:=ReadWide_shl F h1 h2
  have hle:leI 0 ((m:Int)+1 - 1)=true:=by rw [leI_true]; omega
  rw [hle,cond_true]
  have g1':=fun (k:Int→W→List Int→List Int→Int→Option R)=>g1 R k x1 x4 c ((m:Int)+1 - 1) G
  rw [← hG] at g1'
  rw [g1']
  simp (disch:=omega) only [bs,↓if_pos,↓if_neg,hgl,wrap_u64,g2]
  rw [show(m:Int)+1 - 1 - 1=(m:Int) - 1 by omega]
  exact f4 R k
def shr1s:List Int→List Int
 | []=>[]
 | [x]=>[x / 2]
 | x::y::t=>(x / 2+y % 2*9223372036854775808)::shr1s (y::t)
theorem shr1s_wv:∀ {l:List Int},Wd l→wv (shr1s l)=wv l / 2
 | [],_=>rfl
 | [x],h=>by have:=Wd.head h; simp only [shr1s,wv]; omega
 | x::y::t,h=>by
  have h1:=Wd.head h
  have h2:=Wd.head (Wd.tail h)
  have e:=shr1s_wv (Wd.tail h)
  simp only [shr1s,wv] at e ⊢
  omega
theorem ReadWide_half(F:Nat){x9:List Int}(hw:Wd x9)(hl:x9.length=5) :
  ∃ (ws:List Int) (e:Int),Wd ws∧ws.length=4∧0≤e∧getL 0 x9 4=e∧(e≤1↔wv x9 < 2*top256)∧(e≤1→wv ws=wv x9 / 2) ∧
   ∀ (R:Type) (k:Int→W→List Int→List Int→W→Option R) (x1:Int) (x4:W) (x7:List Int) (s:Bool) (N:Nat),varint_ReadWide_l15 F k (N+5) x1 x4 x7 x9 (s,[0,0,0,0],()) 0=k x1 x4 x7 x9 (s,ws,()):=by
 obtain ⟨a,b,c,d,e,rfl⟩:=five_words hl
 have ha:=hw a (by simp)
 have hb:=hw b (by simp)
 have hc:=hw c (by simp)
 have hd:=hw d (by simp)
 have he:=hw e (by simp)
 refine ⟨[orI .u64 (shrI .u64 a 1) (shlI .u64 b 63),orI .u64 (shrI .u64 b 1) (shlI .u64 c 63),orI .u64 (shrI .u64 c 1) (shlI .u64 d 63),orI .u64 (shrI .u64 d 1) (shlI .u64 e 63)],e,?_,rfl,he.1,rfl,?_,?_,fun R k x1 x4 x7 s N=>by kernel_rfl⟩
 ·rw [half_word ha hb,half_word hb hc,half_word hc hd,half_word hd he]
  intro x hx
  simp only [List.mem_cons,List.not_mem_nil,or_false] at hx
  rcases hx with h | h | h | h <;> omega
 ·have:top256=18446744073709551616*(18446744073709551616*(18446744073709551616*18446744073709551616)):=by decide
  rw [this]
  simp only [wv]
  omega
 ·intro h1
  rw [half_word ha hb,half_word hb hc,half_word hc hd,half_word hd he,← shr1s_wv hw]
  have h0:e / 2=0:=by omega
  simp only [shr1s,wv,h0]
  rfl
def rdw(b:List Int)(at_:Int):Int×Int×Int :=
 if(gp 37 b at_).2=0 then
  (if dv (gp 37 b at_).1 < 2*top256∧dv (gp 37 b at_).1≠1 then(wu (dv (gp 37 b at_).1),at_+(gp 37 b at_).1.length,0) else(0,0,5))
 else(0,0,(gp 37 b at_).2)
theorem rdw_abs(b:List Int)(at_:Int):(rdw b at_).1.natAbs < top256:=by
 have h0:(0:Int).natAbs < top256:=by decide
 unfold rdw
 split
 ·split
  ·rename_i h; exact wu_abs h.1
  ·exact h0
 ·exact h0
theorem varint_ReadWide_eq(F:Nat)(hF:Fuel F){b:List Int}(hb:Bt b)(hl:(b.length:Int)≤140737488355328)(at_:Int) :
  varint_ReadWide F b at_=some (toW (rdw b at_).1,(rdw b at_).2.1,(rdw b at_).2.2,()):=by
 unfold varint_ReadWide rdw
 rw [show(37:Int)=((37:Nat):Int) from rfl,varint_groups_eq F hF hb hl at_ (n:=37) (by omega)]
 by_cases h0:(gp 37 b at_).2=0
 ·obtain ⟨ha0,ha1,c,rest,h1,h2,h3,h4,h5,h6⟩:=gp_ok hb h0
  rw [h1]
  have hpos:0 < c.length:=List.length_pos_iff.2 h4.ne
  obtain ⟨G,hG⟩:∃ G,F=G+5:=⟨F - 5,by unfold Fuel at hF; omega⟩
  simp only [Option.bind_some,if_true]
  have hc0:eqI (0:Int) 0=true:=by rw [eqI_true]
  rw [hc0,Bool.not_true,cond_false,show subI .i64 (lenI c) 1=(c.length:Int) - 1 by show IntKind.wrap .i64 _=_; rw [wrap_i64 (by unfold lenI; omega)]; rfl]
  obtain ⟨y,f1,f2,f3,f4⟩:=ReadWide_loop F hF (x1:=at_) (x4:=(false,[0,0,0,0],())) h6 h3 c.length [0,0,0,0,0] (by omega) (by intro x hx; simp at hx; omega) rfl (by simp [wv,dv]) F (by unfold Fuel at hF; omega)
  rw [f4]
  obtain ⟨ws,e,g1,g2,g3,g4,g5,g6,g7⟩:=ReadWide_half F f1 f2
  have g7':=fun (R:Type) (k:Int→W→List Int→List Int→W→Option R) (x1:Int) (x4:W) (x7:List Int) (s:Bool)=>g7 R k x1 x4 x7 s G
  rw [← hG] at g7'
  rw [g7']
  rw [f3] at g5 g6
  have hpar:eqI (remI (getL 0 y 0) 2) 1=decide (dv c % 2=1):=by
   have hy:=Wd.get f1 0
   have:=wv_first f1 (by omega)
   rw [f3] at this
   rw [remI_nn hy.1]
   unfold eqI
   apply decide_eq_decide.2
   omega
  rw [hpar]
  by_cases he:e≤1
  ·have hlt:=g5.1 he
   have hwv:=g6 he
   have hWk:WOk (decide (dv c % 2=1),ws,()):=⟨g1,g2⟩
   have hwi:wi (decide (dv c % 2=1),ws,())=wu (dv c):=by
    unfold wi wu
    simp only [decide_eq_true_eq,hwv]
   simp (disch:=omega) only [bs,↓if_pos,↓if_neg,g4,wide_Valid_eq F hWk]
   have hVl:Vl (decide (dv c % 2=1),ws,())↔dv c≠1:=by
    unfold Vl
    simp only [decide_eq_true_eq,hwv]
    omega
   by_cases h1:dv c=1
   ·have:¬ Vl (decide (dv c % 2=1),ws,()):=fun h=>hVl.1 h h1
    rw [decide_eq_false this,if_neg (show ¬ (dv c < 2*top256∧dv c≠1) from fun h=>h.2 h1)]
    simp (disch:=omega) only [bs,↓if_pos,↓if_neg,toW_zero]
   ·have hv:Vl (decide (dv c % 2=1),ws,()):=hVl.2 h1
    rw [decide_eq_true hv,if_pos (show dv c < 2*top256∧dv c≠1 from ⟨hlt,h1⟩),← hwi,toW_wi hWk hv]
    simp (disch:=omega) only [bs,↓if_pos,↓if_neg]
  ·have hge:¬ dv c < 2*top256:=fun h=>he (g5.2 h)
   simp (disch:=omega) only [bs,↓if_pos,↓if_neg,g4]
   rw [toW_zero]
 ·simp (disch:=omega) only [bs,↓if_pos,↓if_neg,toW_zero]

/- what the makers make -/
theorem made_Tape_Bool_ok(F:Nat){t:List Int×Int×Unit}(h:TapeOk t){n:Int}(hn:1≤n∧n≤9223372036854775807) :
  ∃ t' v,made_Tape_Bool F t n=some (t',v,())∧TapeOk t':=by
 obtain ⟨t1,v,e,ht1,h1,h2⟩:=made_Tape_Next_ok F h (n:=n) (by omega)
 refine ⟨t1,eqI v (remI 1 n),?_,ht1⟩
 unfold made_Tape_Bool
 simp (disch:=omega) only [bs,↓if_pos,↓if_neg,e]
theorem rng_wrap_i64(x:Int):I64 (IntKind.i64.wrap x):=by
 unfold I64
 simp only [IntKind.wrap,IntKind.bits,IntKind.signed,Bool.true_and,ge_iff_le,decide_eq_true_eq]
 split <;> omega
theorem made_Tape_Int_ok(F:Nat)(hF:Fuel F){t:List Int×Int×Unit}(h:TapeOk t) :
  ∃ t' v,made_Tape_Int F t=some (t',v,())∧TapeOk t'∧I64 v:=by
 obtain ⟨t1,v,e,ht1,h1,h2⟩:=made_Tape_Next_ok F h (n:=8) (by omega)
 unfold made_Tape_Int
 rw [e]
 simp only [Option.bind_some]
 by_cases c0:v=0
 ·obtain ⟨t2,w,e2,ht2,hw⟩:=made_Tape_Word_ok F hF ht1
  refine ⟨t2,IntKind.i64.wrap w,?_,ht2,rng_wrap_i64 w⟩
  simp (disch:=omega) only [bs,↓if_pos,↓if_neg,e2]
 ·by_cases c1:v=1
  ·obtain ⟨t2,w,e2,ht2,hw0,hw⟩:=made_Tape_Next_ok F ht1 (n:=4) (by omega)
   refine ⟨t2,9223372036854775807 - w,?_,ht2,by unfold I64; omega⟩
   simp (disch:=omega) only [bs,↓if_pos,↓if_neg,e2]
  ·by_cases c2:v=2
   ·obtain ⟨t2,w,e2,ht2,hw0,hw⟩:=made_Tape_Next_ok F ht1 (n:=4) (by omega)
    refine ⟨t2,-9223372036854775808+w,?_,ht2,by unfold I64; omega⟩
    simp (disch:=omega) only [bs,↓if_pos,↓if_neg,e2]
   ·by_cases c3:v=3
    ·obtain ⟨t2,w,e2,ht2,hw⟩:=made_Tape_Word_ok F hF ht1
     obtain ⟨t3,u,e3,ht3,hu0,hu⟩:=made_Tape_Next_ok F ht2 (n:=64) (by omega)
     refine ⟨t3,IntKind.i64.wrap (shrI .u64 w u),?_,ht3,rng_wrap_i64 _⟩
     simp (disch:=omega) only [bs,↓if_pos,↓if_neg,e2,e3,wrap_u64]
    ·obtain ⟨t2,w,e2,ht2,hw0,hw⟩:=made_Tape_Next_ok F ht1 (n:=2000) (by omega)
     refine ⟨t2,w - 1000,?_,ht2,by unfold I64; omega⟩
     simp (disch:=omega) only [bs,↓if_pos,↓if_neg,e2]
/- a group that is an encoding -/
theorem gp_enc{n v:Nat}(hn:(enc v).length≤n)(b rest:List Int):gp n (b++(enc v++rest)) (b.length:Int)=(enc v,0):=by
 unfold gp
 have hd:(b++(enc v++rest)).drop (b.length:Int).toNat=enc v++rest:=by simp
 have hlen:(b++(enc v++rest)).length=b.length+(enc v++rest).length:=by simp
 rw [hd,grp_of _ n rest (enc_Grp v) hn,if_neg (by omega),if_neg]
 rw [dv_enc]
 simp
theorem rd_enc{v:Nat}(hv:v < 2 ^ 64)(b rest:List Int):rd (b++(enc v++rest)) (b.length:Int)=(v,(b.length:Int)+(enc v).length,0):=by
 unfold rd
 rw [gp_enc (enc_le10 hv) b rest]
 simp only [dv_enc,if_true,if_pos hv]
theorem rdw_enc{z:Int}(hz:z.natAbs < top256)(b rest:List Int):rdw (b++(enc (uw z)++rest)) (b.length:Int)=(z,(b.length:Int)+(enc (uw z)).length,0):=by
 unfold rdw
 rw [gp_enc (enc_uw_len hz) b rest]
 simp only [dv_enc,if_true,wu_uw]
 rw [if_pos ⟨uw_lt hz,uw_ne z⟩]
theorem WOk_of{w:W}(h:wfT (.pair .bool (.pair (.arr 4 (.int .u64)) .unit)) w):WOk w :=
 ⟨fun x hx=>rng_u64 (h.2.1.2 x hx),h.2.1.1⟩
def wdN:List Int→Nat
  | []=>0
  | x::t=>max (Lib.bitLen x.toNat) (wdN t)
theorem wdN_ok:∀ {l:List Int},Wd l→IsWidth l (wdN l:Int)
  | [],_=>⟨by simp [wdN],by simp [wdN],fun w=>by simp [wdN]⟩
  | x::t,hl=>by
    have hx:=Wd.head hl
    obtain ⟨h1,h2,h3⟩:=wdN_ok (Wd.tail hl)
    have hb:=(bitLen_le_iff (x:=x.toNat) (w:=64) (by omega)).2 (by omega)
    refine ⟨by omega,by simp only [wdN]; omega,fun w=>?_⟩
    have h4:=h3 w
    have h5:=bitLen_le_iff (x:=x.toNat) (w:=w) (by omega)
    rw [← lt_p2 hx.1] at h5
    rw [List.forall_mem_cons,← h4,← h5]
    simp only [wdN]
    omega
theorem wdN_le{l:List Int}(hl:Wd l):wdN l≤64:=by have:=(wdN_ok hl).2.1; omega
def byteOf(f:Nat→Bool):Nat:=(f 0).toNat+2*(f 1).toNat+4*(f 2).toNat+8*(f 3).toNat+16*(f 4).toNat+32*(f 5).toNat+64*(f 6).toNat+128*(f 7).toNat
theorem byteOf_lt(f:Nat→Bool):byteOf f < 256:=by
  unfold byteOf
  have h:=fun i=>Bool.toNat_le (f i)
  have h0:=h 0
  have h1:=h 1
  have h2:=h 2
  have h3:=h 3
  have h4:=h 4
  have h5:=h 5
  have h6:=h 6
  have h7:=h 7
  omega
theorem byte_bits:∀ (a b c d e g h i:Bool) (k:Fin 8),(a.toNat+2*b.toNat+4*c.toNat+8*d.toNat+16*e.toNat+32*g.toNat+64*h.toNat+128*i.toNat).testBit k.val=([a,b,c,d,e,g,h,i].getD k.val false):=by decide +kernel
theorem byteOf_bit(f:Nat→Bool){k:Nat}(hk:k < 8):(byteOf f).testBit k=f k:=by
  refine(byte_bits (f 0) (f 1) (f 2) (f 3) (f 4) (f 5) (f 6) (f 7) ⟨k,hk⟩).trans ?_
  match k,hk with
  | 0,_=>rfl
  | 1,_=>rfl
  | 2,_=>rfl
  | 3,_=>rfl
  | 4,_=>rfl
  | 5,_=>rfl
  | 6,_=>rfl
  | 7,_=>rfl
def pk(l:List Int)(w:Nat):List Int:=(List.range ((l.length*w+7) / 8)).map fun i=>(byteOf (fun k=>decide (8*i+k < l.length*w) && bof l w (8*i+k)):Int)
theorem pk_length(l:List Int)(w:Nat):(pk l w).length=(l.length*w+7) / 8:=by simp [pk]
theorem pk_Packed(l:List Int)(w:Nat):Packed l w (pk l w):=by
  refine ⟨?_,pk_length l w,fun p=>?_⟩
  · intro x hx
    obtain ⟨i,_,rfl⟩:=List.mem_map.1 hx
    have:=byteOf_lt (fun k=>decide (8*i+k < l.length*w) && bof l w (8*i+k))
    omega
  · by_cases h:p / 8 < (l.length*w+7) / 8
    · unfold bitAt pk
      rw [List.getD_eq_getElem?_getD,List.getElem?_map,List.getElem?_range h]
      simp only [Option.map_some,Option.getD_some]
      rw [nb_nat,byteOf_bit _ (Nat.mod_lt _ (by omega)),Nat.div_add_mod]
    · rw [bitAt_out (by rw [pk_length]; omega)]
      simp [show ¬ p < l.length*w by omega]
def encs:List Int→List Int
  | []=>[]
  | x::t=>enc x.toNat++encs t
theorem encs_bt:∀ l:List Int,Bt (encs l)
  | []=>Bt.nil
  | x::t=>Bt.append (enc_bt _) (encs_bt t)
theorem encs_len:∀ {l:List Int},Wd l→(encs l).length≤10*l.length
  | [],_=>by simp [encs]
  | x::t,h=>by
    have hx:=Wd.head h
    have h1:=enc_le10 (v:=x.toNat) (by omega)
    have h2:=encs_len (Wd.tail h)
    simp only [encs,List.length_append,List.length_cons]
    omega
def nE(l:List Int):List Int:=if 2+(pk l (wdN l)).length < 1+(encs l).length then 1::(wdN l:Int)::pk l (wdN l) else 0::encs l
theorem nE_bt{l:List Int}(h:Wd l):Bt (nE l):=by
  have:=wdN_le h
  unfold nE
  split
  · exact Bt.append (Bt.one (by omega)) (Bt.append (Bt.one (by omega)) (pk_Packed l (wdN l)).1)
  · exact Bt.append (Bt.one (by omega)) (encs_bt l)
theorem pk_small{l:List Int}(h:Wd l)(hn:l.length≤65536):(pk l (wdN l)).length≤524288:=by
  have:=Nat.mul_le_mul hn (wdN_le h)
  rw [pk_length]
  omega
theorem nE_len{l:List Int}(h:Wd l):(nE l).length≤1+(encs l).length∧(nE l).length≤2+(pk l (wdN l)).length∧0 < (nE l).length:=by
  unfold nE
  split
  · simp only [List.length_cons]; omega
  · simp only [List.length_cons]; omega
theorem nE_small{l:List Int}(h:Wd l)(hn:l.length≤65536):(nE l).length≤524290:=by
  have h1:=(nE_len h).2.1
  have h2:=pk_small h hn
  omega
def rdn:Nat→List Int→Int→List Int×Int×Int
  | 0,_,at_=>([],at_,0)
  | n+1,b,at_ =>
    if(rd b at_).2.2=0 then
      (if(rdn n b (rd b at_).2.1).2.2=0 then(((rd b at_).1:Int)::(rdn n b (rd b at_).2.1).1,(rdn n b (rd b at_).2.1).2.1,0)
       else([],0,(rdn n b (rd b at_).2.1).2.2))
    else([],0,(rd b at_).2.2)
theorem rd_ok{b:List Int}(hb:Bt b){at_:Int}(h:(rd b at_).2.2=0):0≤at_∧at_ < (rd b at_).2.1∧(rd b at_).2.1≤b.length∧b.drop at_.toNat=enc (rd b at_).1++b.drop (rd b at_).2.1.toNat:=by
  unfold rd at h ⊢
  by_cases h0:(gp 10 b at_).2=0
  · obtain ⟨a0,a1,c,rest,h1,h2,h3,h4,h5,h6⟩:=gp_ok hb h0
    rw [h1] at h ⊢
    simp only [if_true] at h ⊢
    by_cases h7:dv c < 2 ^ 64
    · simp only [if_pos h7] at h ⊢
      have hpos:0 < c.length:=List.length_pos_iff.2 h4.ne
      have hlen:(b.drop at_.toNat).length=(c++rest).length:=by rw [h2]
      simp only [List.length_drop,List.length_append] at hlen
      refine ⟨a0,by omega,by omega,?_⟩
      rw [h5,h2]
      congr 1
      rw [show(at_+(c.length:Int)).toNat=at_.toNat+c.length by omega,← List.drop_drop,h2]
      simp
    · rw [if_neg h7] at h; simp at h
  · rw [if_neg h0] at h; exact absurd h h0
theorem rdn_enc:∀ {l:List Int},Wd l→∀ b rest:List Int,rdn l.length (b++(encs l++rest)) (b.length:Int)=(l,(b.length:Int)+(encs l).length,0)
  | [],_,b,rest=>by simp [rdn,encs]
  | x::t,h,b,rest=>by
    have hx:=Wd.head h
    have e1:=rd_enc (v:=x.toNat) (by omega) b (encs t++rest)
    have e2:=rdn_enc (Wd.tail h) (b++enc x.toNat) rest
    have e3:b++(encs (x::t)++rest)=b++(enc x.toNat++(encs t++rest)):=by simp [encs]
    have e4:((b++enc x.toNat).length:Int)=(b.length:Int)+(enc x.toNat).length:=by simp
    rw [List.append_assoc,e4] at e2
    rw [List.length_cons,rdn,e3,e1]
    simp only [if_true,e2]
    simp only [encs,List.length_append]
    refine Prod.ext ?_ (Prod.ext ?_ rfl)
    · simp only; rw [Int.toNat_of_nonneg hx.1]
    · simp only; omega
def Sg(l:List Int):Prop:=∀ x∈l,I64 x
theorem Sg.nil:Sg []:=fun x hx=>by cases hx
theorem Sg.head{x:Int}{t:List Int}(h:Sg (x::t)):I64 x:=h x (by simp)
theorem Sg.tail{x:Int}{t:List Int}(h:Sg (x::t)):Sg t:=fun y hy=>h y (List.mem_cons_of_mem _ hy)
theorem Sg.cons{x:Int}{t:List Int}(h:I64 x)(ht:Sg t):Sg (x::t):=by
 intro y hy
 rcases List.mem_cons.1 hy with e | e
 ·exact e ▸ h
 ·exact ht y e
theorem Sg.append{l m:List Int}(h:Sg l)(k:Sg m):Sg (l++m):=fun x hx=>(List.mem_append.1 hx).elim (h x) (k x)
theorem Sg.get{l:List Int}(h:Sg l)(i:Int):I64 (getL 0 l i):=getD_all (P:=I64) h (by unfold I64; omega) _
theorem i64_wrap_mod(x:Int):∃ k:Int,IntKind.i64.wrap x=x+k*18446744073709551616:=by
 simp only [IntKind.wrap,IntKind.bits,IntKind.signed,Bool.true_and,ge_iff_le,decide_eq_true_eq]
 split
 ·exact ⟨-(x / 18446744073709551616) - 1,by omega⟩
 ·exact ⟨-(x / 18446744073709551616),by omega⟩
theorem i64_uniq{x y:Int}(hx:I64 x)(hy:I64 y){k:Int}(h:x=y+k*18446744073709551616):x=y:=by
 unfold I64 at hx hy
 omega
/- residuals -/
def dfs:Int→List Int→List Int
 | _,[]=>[]
 | p,x::t=>IntKind.i64.wrap (x - p)::dfs x t
def df:List Int→List Int
 | []=>[]
 | x::t=>x::dfs x t
def sms:Int→List Int→List Int
 | _,[]=>[]
 | p,x::t=>IntKind.i64.wrap (p+x)::sms (IntKind.i64.wrap (p+x)) t
def sm:List Int→List Int
 | []=>[]
 | x::t=>x::sms x t
theorem dfs_length:∀ (t:List Int) (p:Int),(dfs p t).length=t.length
 | [],_=>rfl
 | x::t,p=>by simp [dfs,dfs_length t]
theorem df_length(l:List Int):(df l).length=l.length:=by cases l <;> simp [df,dfs_length]
theorem sms_length:∀ (t:List Int) (p:Int),(sms p t).length=t.length
 | [],_=>rfl
 | x::t,p=>by simp [sms,sms_length t]
theorem sm_length(l:List Int):(sm l).length=l.length:=by cases l <;> simp [sm,sms_length]
theorem dfs_Sg:∀ (t:List Int) (p:Int),Sg (dfs p t)
 | [],_=>Sg.nil
 | x::t,p=>Sg.cons (rng_wrap_i64 _) (dfs_Sg t x)
theorem df_Sg{l:List Int}(h:Sg l):Sg (df l):=by
 cases l with
 | nil=>exact Sg.nil
 | cons x t=>exact Sg.cons (Sg.head h) (dfs_Sg t x)
theorem wrap_back{x p:Int}(hx:I64 x):IntKind.i64.wrap (p+IntKind.i64.wrap (x - p))=x:=by
 obtain ⟨k,hk⟩:=i64_wrap_mod (x - p)
 obtain ⟨j,hj⟩:=i64_wrap_mod (p+IntKind.i64.wrap (x - p))
 refine i64_uniq (rng_wrap_i64 _) hx (k:=k+j) ?_
 rw [hj,hk]
 omega
theorem sms_dfs:∀ (t:List Int) (p:Int),Sg t→sms p (dfs p t)=t
 | [],_,_=>rfl
 | x::t,p,h=>by
  simp only [dfs,sms,wrap_back (Sg.head h)]
  rw [sms_dfs t x (Sg.tail h)]
theorem sm_df{l:List Int}(h:Sg l):sm (df l)=l:=by
 cases l with
 | nil=>rfl
 | cons x t=>simp only [df,sm,sms_dfs t x (Sg.tail h)]
def dfn:Nat→List Int→List Int
 | 0,l=>l
 | n+1,l=>dfn n (df l)
def smn:Nat→List Int→List Int
 | 0,l=>l
 | n+1,l=>smn n (sm l)
theorem dfn_length:∀ (n:Nat) (l:List Int),(dfn n l).length=l.length
 | 0,_=>rfl
 | n+1,l=>by rw [dfn,dfn_length n,df_length]
theorem dfn_Sg:∀ (n:Nat) {l:List Int},Sg l→Sg (dfn n l)
 | 0,_,h=>h
 | n+1,l,h=>dfn_Sg n (df_Sg h)
theorem dfn_succ:∀ (n:Nat) (l:List Int),dfn (n+1) l=df (dfn n l)
 | 0,_=>rfl
 | n+1,l=>by rw [dfn,dfn_succ n]; rfl
theorem smn_dfn:∀ (n:Nat) {l:List Int},Sg l→smn n (dfn n l)=l
 | 0,_,_=>rfl
 | n+1,l,h=>by rw [dfn_succ,smn,sm_df (dfn_Sg n h),smn_dfn n h]
def zs:List Int→List Int
 | []=>[]
 | x::t=>(zz x:Int)::zs t
def us:List Int→List Int
 | []=>[]
 | x::t=>uz x.toNat::us t
theorem zs_length:∀ l:List Int,(zs l).length=l.length
 | []=>rfl
 | x::t=>by simp [zs,zs_length t]
theorem zs_Wd:∀ {l:List Int},Sg l→Wd (zs l)
 | [],_=>Wd.nil
 | x::t,h=>Wd.cons (by have:=zz_lt (Sg.head h); omega) (zs_Wd (Sg.tail h))
theorem us_zs:∀ l:List Int,us (zs l)=l
 | []=>rfl
 | x::t=>by simp only [zs,us,Int.toNat_natCast,uz_zz,us_zs t]
def rO(n:Nat)(l:List Int):List Int:=(n:Int)::nE (zs (dfn n l))
def shorter(a b:List Int):List Int:=if a.length < b.length then a else b
def rE(l:List Int):List Int:=shorter (rO 2 l) (shorter (rO 1 l) (rO 0 l))
theorem rO_bt{n:Nat}(hn:n≤2){l:List Int}(h:Sg l):Bt (rO n l):=Bt.append (Bt.one (by omega)) (nE_bt (zs_Wd (dfn_Sg n h)))
theorem rO_small{n:Nat}{l:List Int}(h:Sg l)(hl:l.length≤65536):(rO n l).length≤524291∧0 < (rO n l).length:=by
 have:=nE_small (zs_Wd (dfn_Sg n h)) (by rw [zs_length,dfn_length]; exact hl)
 unfold rO
 simp only [List.length_cons]
 omega
theorem shorter_cases(a b:List Int):(shorter a b=a∨shorter a b=b)∧(shorter a b).length≤a.length∧(shorter a b).length≤b.length:=by
 unfold shorter; split <;> simp <;> omega
theorem rE_is(l:List Int):∃ n:Nat,n≤2∧rE l=rO n l:=by
 unfold rE
 rcases (shorter_cases (rO 2 l) (shorter (rO 1 l) (rO 0 l))).1 with h | h
 ·exact ⟨2,by omega,h⟩
 ·rcases (shorter_cases (rO 1 l) (rO 0 l)).1 with k | k
  ·exact ⟨1,by omega,h.trans k⟩
  ·exact ⟨0,by omega,h.trans k⟩
theorem rE_least(l:List Int){n:Nat}(hn:n≤2):(rE l).length≤(rO n l).length:=by
 unfold rE
 have h1:=(shorter_cases (rO 2 l) (shorter (rO 1 l) (rO 0 l))).2
 have h2:=(shorter_cases (rO 1 l) (rO 0 l)).2
 match n,hn with
 | 0,_=>omega
 | 1,_=>omega
 | 2,_=>omega
theorem encs_step{l:List Int}(hl:Wd l){i:Nat}(hi:i < l.length):∃ v:Nat,getL 0 l (i:Int)=(v:Int)∧v < 2 ^ 64∧(enc v).length≤10∧encs (l.drop i)=enc v++encs (l.drop (i+1)):=by
 have hx:=hl.get (i:Int)
 obtain ⟨v,hv⟩:=Int.eq_ofNat_of_zero_le hx.1
 have hv64:v < 2 ^ 64:=by omega
 refine ⟨v,hv,hv64,enc_le10 hv64,?_⟩
 rw [split_at hi,encs]
 have:l.getD i 0=(v:Int):=by rw [← getL_nat]; exact hv
 rw [this]; rfl
theorem nSize_loop(F:Nat){R:Type}(k:List Int→Int→Option R)(x0:List Int){l:List Int}(hl:Wd l)(hb:l.length≤65536):∀ (m i z:Nat),i+m=l.length→z≤1+10*i →
  ∀ N,m < N→numbers_Encode_l5 F k N x0 (z:Int) l (l.length:Int) (i:Int)=k x0 ((z+(encs (l.drop i)).length:Nat):Int):=by
 intro m
 induction m with
 | zero =>
  intro i z hi hz N hN
  obtain ⟨N,rfl⟩:∃ M,N=M+1:=⟨N - 1,by omega⟩
  rw [List.drop_eq_nil_of_le (by omega)]
  unfold numbers_Encode_l5
  simp (disch:=omega) only [bs,↓if_pos,↓if_neg]
  rfl
 | succ m ih =>
  intro i z hi hz N hN
  obtain ⟨N,rfl⟩:∃ M,N=M+1:=⟨N - 1,by omega⟩
  obtain ⟨v,hv,hv64,h10,hd⟩:=encs_step hl (i:=i) (by omega)
  have e:=ih (i+1) (z+(enc v).length) (by omega) (by omega) N (by omega)
  simp only [Int.natCast_add,Int.natCast_one] at e
  rw [hd,List.length_append,← Nat.add_assoc,Int.natCast_add,Int.natCast_add]
  unfold numbers_Encode_l5
  simp (disch:=omega) only [bs,↓if_pos,↓if_neg,hv,varint_Size_eq F hv64]
  exact e
theorem nApp_loop(F:Nat)(hF:Fuel F){R:Type}(k:List Int→Option R){l:List Int}(hl:Wd l)(hb:l.length≤65536):∀ (m i:Nat) (out:List Int),i+m=l.length→out.length≤1+10*i →
  ∀ N,m < N→numbers_Encode_l15 F k N out l (l.length:Int) (i:Int)=k (out++encs (l.drop i)):=by
 intro m
 induction m with
 | zero =>
  intro i z hi hz N hN
  obtain ⟨N,rfl⟩:∃ M,N=M+1:=⟨N - 1,by omega⟩
  rw [List.drop_eq_nil_of_le (by omega)]
  unfold numbers_Encode_l15
  simp (disch:=omega) only [bs,↓if_pos,↓if_neg]
  simp [encs]
 | succ m ih =>
  intro i z hi hz N hN
  obtain ⟨N,rfl⟩:∃ M,N=M+1:=⟨N - 1,by omega⟩
  obtain ⟨v,hv,hv64,h10,hd⟩:=encs_step hl (i:=i) (by omega)
  have e:=ih (i+1) (z++enc v) (by omega) (by simp; omega) N (by omega)
  simp only [Int.natCast_add,Int.natCast_one] at e
  rw [hd,← List.append_assoc]
  unfold numbers_Encode_l15
  simp (disch:=omega) only [bs,↓if_pos,↓if_neg,hv,varint_Append_eq F hF (b:=[]) (by simp [Room]) hv64,List.nil_append]
  exact e
theorem Fits_wdN{l:List Int}(hl:Wd l)(hn:l.length≤65536):Fits l (wdN l:Int):=by
 have h:=wdN_ok hl
 exact ⟨hn,h.1,h.2.1,by rw [Int.toNat_natCast]; exact(h.2.2 _).1 (Int.le_refl _)⟩
theorem numbers_Encode_eq(F:Nat)(hF:Fuel F){l:List Int}(hl:Wd l)(hn:l.length≤65536):numbers_Encode F l=some (nE l,0,()):=by
 obtain ⟨W,eW,hW⟩:=bitpack_Width_ok F hF hl (by omega)
 have:=hW.eq (wdN_ok hl)
 subst this
 obtain ⟨out,eP,hP⟩:=bitpack_Pack_ok F hF hl (by omega) (Fits_wdN hl hn)
 have:=hP.eq (pk_Packed l (wdN l))
 subst this
 have hs:=pk_small hl hn
 have hel:=encs_len hl
 have hw:=wdN_le hl
 have e1:=fun (R:Type) (k:List Int→Int→Option R)=>nSize_loop F k l hl hn l.length 0 1 (by omega) (by omega) F (by unfold Fuel at hF; omega)
 have e2:=fun (R:Type) (k:List Int→Option R)=>nApp_loop F hF k hl hn l.length 0 [0] (by omega) (by simp) F (by unfold Fuel at hF; omega)
 simp only [Int.natCast_zero,Int.natCast_one,List.drop_zero,Int.natCast_add] at e1 e2
 unfold numbers_Encode nE
 generalize pk l (wdN l)=p at *
 generalize encs l=q at *
 by_cases h:2+p.length < 1+q.length
 ·rw [if_pos h]
  simp (disch:=omega) only [bs,↓if_pos,↓if_neg,e1,eW,eP,wrap_u8]
  rfl
 ·rw [if_neg h]
  simp (disch:=omega) only [bs,↓if_pos,↓if_neg,e1,eW,eP,show replI 1 (0:Int)=[0] from rfl,e2]
  rfl
theorem numbers_Encode_big(F:Nat){l:List Int}(hn:65536 < l.length):numbers_Encode F l=some ([],3,()):=by
 unfold numbers_Encode
 simp (disch:=omega) only [bs,↓if_pos,↓if_neg]
/- reading: the plain form -/
theorem plain_loop(F:Nat)(hF:Fuel F){R:Type}(k:Int→List Int→Option R)(kr:List Int→Int→Int→Option R){b:List Int}(hb:Bt b)(hl:(b.length:Int)≤140737488355328){n:Nat}(hn:n≤65536):∀ (m i:Nat) (at_:Int) (out:List Int),i+m=n→out.length=i→0≤at_∧at_≤b.length →
  ∀ N,m < N→numbers_plain_l3 F k kr N b at_ out (n:Int) (i:Int)=if(rdn m b at_).2.2=0 then k (rdn m b at_).2.1 (out++(rdn m b at_).1) else kr [] 0 (rdn m b at_).2.2:=by
 intro m
 induction m with
 | zero =>
  intro i at_ out hi ho ha N hN
  obtain ⟨N,rfl⟩:∃ M,N=M+1:=⟨N - 1,by omega⟩
  unfold numbers_plain_l3
  simp only [rdn,if_true,List.append_nil]
  simp (disch:=omega) only [bs,↓if_pos,↓if_neg]
 | succ m ih =>
  intro i at_ out hi ho ha N hN
  obtain ⟨N,rfl⟩:∃ M,N=M+1:=⟨N - 1,by omega⟩
  have er:=varint_Read_eq F hF hb hl at_
  unfold numbers_plain_l3
  by_cases c:(rd b at_).2.2=0
  ·obtain ⟨r1,r2,r3,_⟩:=rd_ok hb c
   have e:=ih (i+1) (rd b at_).2.1 (out++[((rd b at_).1:Int)]) (by omega) (by simp; omega) (by omega) N (by omega)
   have e2:rdn (m+1) b at_=if(rdn m b (rd b at_).2.1).2.2=0 then(((rd b at_).1:Int)::(rdn m b (rd b at_).2.1).1,(rdn m b (rd b at_).2.1).2.1,0) else([],0,(rdn m b (rd b at_).2.1).2.2):=by rw [rdn,if_pos c]
   rw [e2]
   simp (disch:=omega) only [bs,↓if_pos,↓if_neg,er,c]
   rw [show(i:Int)+1=((i+1:Nat):Int) by omega,e]
   by_cases d:(rdn m b (rd b at_).2.1).2.2=0
   ·simp only [if_pos d,if_true,List.append_assoc,List.singleton_append]
   ·simp only [if_neg d]
  ·have e2:rdn (m+1) b at_=([],0,(rd b at_).2.2):=by rw [rdn,if_neg c]
   rw [e2]
   simp (disch:=omega) only [bs,↓if_pos,↓if_neg,er,c]
def plR(n:Nat)(b:List Int)(at_:Int):List Int×Int×Int:=if(rdn n b at_).2.2=0 then rdn n b at_ else([],0,(rdn n b at_).2.2)
theorem numbers_plain_eq(F:Nat)(hF:Fuel F){b:List Int}(hb:Bt b)(hl:(b.length:Int)≤140737488355328){n:Nat}(hn:n≤65536){at_:Int}(ha:0≤at_∧at_≤b.length) :
  numbers_plain F b at_ n=some ((plR n b at_).1,(plR n b at_).2.1,(plR n b at_).2.2,()):=by
 have e:=fun (R:Type) (k:Int→List Int→Option R) (kr:List Int→Int→Int→Option R)=>plain_loop F hF k kr hb hl hn n 0 at_ [] (by omega) rfl ha F (by unfold Fuel at hF; omega)
 have h0:makeB 0 (min (n:Int) ((b.length:Int) - at_)) 8=true:=by rw [makeB_true]; omega
 unfold numbers_plain plR
 simp (disch:=omega) only [bs,↓if_pos,↓if_neg,h0,show replI 0 (0:Int)=[] from rfl]
 refine(e _ _ _).trans ?_
 by_cases c:(rdn n b at_).2.2=0
 ·rw [if_pos c,if_pos c,List.nil_append,c]
 ·rw [if_neg c,if_neg c]
theorem Equal_loop(F:Nat){R:Type}(k0:Option R)(kr:Bool→Option R){a b:List Int}(hl:a.length=b.length)(hb:(a.length:Int)≤9223372036854775806):∀ (m i:Nat),i+m=a.length→∀ N,m < N →
  slices_Equal_byte_l4 F k0 kr N a b (a.length:Int) i=if a.drop i=b.drop i then k0 else kr false:=by
 intro m
 induction m with
 | zero =>
  intro i hi N hN
  obtain ⟨N,rfl⟩:∃ M,N=M+1:=⟨N - 1,by omega⟩
  rw [if_pos (by rw [List.drop_eq_nil_of_le (by omega),List.drop_eq_nil_of_le (by omega)])]
  unfold slices_Equal_byte_l4
  simp (disch:=omega) only [bs,↓if_pos,↓if_neg]
 | succ m ih =>
  intro i hi N hN
  obtain ⟨N,rfl⟩:∃ M,N=M+1:=⟨N - 1,by omega⟩
  have h1:=ih (i+1) (by omega) N (by omega)
  have ea:a.drop i=getL 0 a (i:Int)::a.drop (i+1):=by
   rw [List.drop_eq_getElem_cons (by omega)]; simp [getL,List.getD_eq_getElem?_getD,show i < a.length by omega]
  have eb:b.drop i=getL 0 b (i:Int)::b.drop (i+1):=by
   rw [List.drop_eq_getElem_cons (by omega)]; simp [getL,List.getD_eq_getElem?_getD,show i < b.length by omega]
  unfold slices_Equal_byte_l4
  by_cases hc:getL 0 a (i:Int)=getL 0 b (i:Int)
  ·simp (disch:=omega) only [bs,↓if_pos,↓if_neg]
   refine Eq.trans h1 ?_
   rw [ea,eb,hc]
   simp
  ·simp (disch:=omega) only [bs,↓if_pos,↓if_neg]
   rw [ea,eb,if_neg]
   intro h
   exact hc (by simpa using (List.cons.inj h).1)
theorem slices_Equal_eq(F:Nat)(hF:Fuel F){a b:List Int}(hb:(a.length:Int)≤140737488355328):slices_Equal_byte F a b=some (decide (a=b),()):=by
 unfold Fuel at hF
 unfold slices_Equal_byte
 by_cases hl:a.length=b.length
 ·simp (disch:=omega) only [bs,↓if_pos,↓if_neg]
  refine Eq.trans (Equal_loop F _ _ hl (by omega) a.length 0 (by omega) F (by omega)) ?_
  simp only [List.drop_zero]
  by_cases h:a=b
  ·simp [h]
  ·simp [h]
 ·simp (disch:=omega) only [bs,↓if_pos,↓if_neg]
  have:a≠b:=fun h=>hl (by rw [h])
  simp [this]
def fit9(b:List Int)(at_:Int)(l:List Int)(end_ e:Int):List Int×Int×Int:=if e=0 then(if nE l=dropL (takeL b end_) at_ then(l,end_,0) else([],0,5)) else([],0,e)
theorem fit9_prog(F:Nat)(hF:Fuel F){b:List Int}{at_:Int}{l:List Int}{end_ e:Int}(ha:0≤at_)(hw:Wd l)(h:e=0→l.length≤65536∧at_≤end_∧end_≤b.length) :
  (bif not (eqI e 0) then some (([]:List Int),((0:Int),(e,()))) else
   (numbers_Encode F l).bind fun r14=>bif not (eqI r14.2.1 0) then some ([],(0,(5,()))) else
    bif cutB at_ end_ (List.length b) then(slices_Equal_byte F r14.1 (dropL (takeL b end_) at_)).bind fun r17=>bif not r17.1 then some ([],(0,(5,()))) else some (l,(end_,(0,()))) else none)
   = some ((fit9 b at_ l end_ e).1,(fit9 b at_ l end_ e).2.1,(fit9 b at_ l end_ e).2.2,()):=by
 unfold fit9
 by_cases c:e=0
 ·obtain ⟨h1,h2,h3⟩:=h c
  have hs:=nE_small hw h1
  have hq:=slices_Equal_eq F hF (a:=nE l) (b:=dropL (takeL b end_) at_) (by omega)
  rw [if_pos c]
  by_cases d:nE l=dropL (takeL b end_) at_
  ·rw [decide_eq_true d] at hq
   rw [if_pos d]
   simp (disch:=omega) only [bs,↓if_pos,↓if_neg,numbers_Encode_eq F hF hw h1,hq]
  ·rw [decide_eq_false d] at hq
   rw [if_neg d]
   simp (disch:=omega) only [bs,↓if_pos,↓if_neg,numbers_Encode_eq F hF hw h1,hq]
 ·rw [if_neg c]
  simp (disch:=omega) only [bs,↓if_pos,↓if_neg]
theorem nDecode_back(F:Nat)(hF:Fuel F){l:List Int}(hw:Wd l)(hn:l.length≤65536){b rest:List Int}(hb:Bt b)(hr:Bt rest)(hl:((b++(nE l++rest)).length:Int)≤140737488355328) :
  numbers_Decode F (b++(nE l++rest)) (b.length:Int) (l.length:Int)=some (l,(b.length:Int)+(nE l).length,0,()):=by
 have hcut:∀ s:List Int,dropL (takeL (b++(s++rest)) ((b.length:Int)+(s.length:Int))) (b.length:Int)=s:=by
  intro s
  unfold dropL takeL
  rw [show((b.length:Int)+(s.length:Int)).toNat=b.length+s.length by omega,Int.toNat_natCast,← List.append_assoc,List.take_left' (by simp),List.drop_left' rfl]
 have hall:Bt (b++(nE l++rest)):=hb.append ((nE_bt hw).append hr)
 have hpos:=(nE_len hw).2.2
 have hlen:(b++(nE l++rest)).length=b.length+((nE l).length+rest.length):=by simp
 have x1:ltI (b.length:Int) 0=false:=by rw [← Bool.not_eq_true,ltI_true]; omega
 have x2:ltI (lenI (b++(nE l++rest))) (b.length:Int)=false:=by rw [← Bool.not_eq_true,ltI_true]; unfold lenI; omega
 have x3:ltI (l.length:Int) 0=false:=by rw [← Bool.not_eq_true,ltI_true]; omega
 have x4:eqI (b.length:Int) (lenI (b++(nE l++rest)))=false:=by rw [← Bool.not_eq_true,eqI_true]; unfold lenI; omega
 have x5:inI (b.length:Int) (b++(nE l++rest)).length=true:=by rw [inI_true]; omega
 have x8:addI .i64 (b.length:Int) 1=(b.length:Int)+1:=addI_i64 (by omega)
 have x9:ltI 65536 (l.length:Int)=false:=by rw [← Bool.not_eq_true,ltI_true]; omega
 have ha1:0≤(b.length:Int)+1∧(b.length:Int)+1≤(b++(nE l++rest)).length:=by omega
 by_cases c:2+(pk l (wdN l)).length < 1+(encs l).length
 ·have hnE:nE l=1::(wdN l:Int)::pk l (wdN l):=by unfold nE; rw [if_pos c]
  have hwd:=wdN_le hw
  have hpl:=pk_small hw hn
  have hg:getL 0 (b++(nE l++rest)) (b.length:Int)=1:=by rw [getL_nat,hnE]; simp [List.getD_eq_getElem?_getD]
  have hg1:getL 0 (b++(nE l++rest)) ((b.length:Int)+1)=(wdN l:Int):=by
   rw [show(b.length:Int)+1=((b.length+1:Nat):Int) by omega,getL_nat,hnE,List.getD_eq_getElem?_getD,List.getElem?_append_right (by omega)]
   simp
  have hfit:=Fits_wdN hw hn
  obtain ⟨hcl,hback⟩:=(pk_Packed l (wdN l)).back hw hfit
  obtain ⟨out,ho,e5,_⟩:=bitpack_Unpack_ok F hF (pk_Packed l (wdN l)).1 (n:=l.length) (w:=wdN l) hn hwd (pk_length l (wdN l))
  have hom:=hback out ho
  subst hom
  have hu:=e5 hcl
  have hs8:=size8_nat (n:=out.length) (w:=wdN out) hn hwd
  rw [← pk_length] at hs8
  have hcut2:dropL (takeL (b++(nE out++rest)) ((b.length:Int)+1+1+((pk out (wdN out)).length:Int))) ((b.length:Int)+1+1)=pk out (wdN out):=by
   unfold dropL takeL
   rw [show((b.length:Int)+1+1+((pk out (wdN out)).length:Int)).toNat=(b++[1,(wdN out:Int)]).length+(pk out (wdN out)).length by simp; omega,show((b.length:Int)+1+1).toNat=(b++[1,(wdN out:Int)]).length by simp; omega]
   rw [hnE,show b++((1::(wdN out:Int)::pk out (wdN out))++rest)=(b++[1,(wdN out:Int)])++pk out (wdN out)++rest by simp]
   rw [List.take_left' (by simp; omega),List.drop_left' rfl]
  have hlenE:(nE out).length=2+(pk out (wdN out)).length:=by rw [hnE]; simp; omega
  have hpk:numbers_packed F (b++(nE out++rest)) ((b.length:Int)+1) (out.length:Int)=some (out,(b.length:Int)+(nE out).length,0,()):=by
   unfold numbers_packed
   generalize hB:b++(nE out++rest)=B at *
   simp (disch:=omega) only [bs,↓if_pos,↓if_neg,hg1,wrap_i64,bitpack_Bytes_eq,hs8,hcut2,hu]
   simp only [Option.some.injEq,Prod.mk.injEq,and_true,true_and]
   omega
  have f1:=fit9_prog F hF (b:=b++(nE out++rest)) (at_:=(b.length:Int)) (l:=out) (end_:=(b.length:Int)+(nE out).length) (e:=0) (by omega) hw (fun _=>by omega)
  have hf:fit9 (b++(nE out++rest)) (b.length:Int) out ((b.length:Int)+(nE out).length) 0=(out,(b.length:Int)+(nE out).length,0):=by
   unfold fit9; rw [if_pos rfl,hcut,if_pos rfl]
  rw [hf] at f1
  refine Eq.trans ?_ f1
  unfold numbers_Decode numbers_Decode_j2
  have x6:ltI 1 (1:Int)=false:=rfl
  have x7:eqI (1:Int) 1=true:=rfl
  simp only [x1,x2,x3,x4,x5,x6,x7,x8,x9,hg,hpk,cond_true,cond_false,Option.bind_some]
 ·have hnE:nE l=0::encs l:=by unfold nE; rw [if_neg c]
  have hg:getL 0 (b++(nE l++rest)) (b.length:Int)=0:=by rw [getL_nat,hnE]; simp [List.getD_eq_getElem?_getD]
  have hrd:=rdn_enc hw (b++[0]) rest
  have hsh:(b++[0])++(encs l++rest)=b++(nE l++rest):=by rw [hnE]; simp
  have hlE:(nE l).length=1+(encs l).length:=by rw [hnE]; simp; omega
  rw [hsh,show(((b++[0]:List Int)).length:Int)=(b.length:Int)+1 by simp] at hrd
  have q1:=numbers_plain_eq F hF hall hl hn ha1
  have hpr:plR l.length (b++(nE l++rest)) ((b.length:Int)+1)=(l,(b.length:Int)+(nE l).length,0):=by
   unfold plR
   rw [hrd]
   simp only [if_true]
   rw [hlE]
   refine Prod.ext rfl (Prod.ext ?_ rfl)
   simp only
   omega
  rw [hpr] at q1
  have f1:=fit9_prog F hF (b:=b++(nE l++rest)) (at_:=(b.length:Int)) (l:=l) (end_:=(b.length:Int)+(nE l).length) (e:=0) (by omega) hw (fun _=>by omega)
  have hf:fit9 (b++(nE l++rest)) (b.length:Int) l ((b.length:Int)+(nE l).length) 0=(l,(b.length:Int)+(nE l).length,0):=by
   unfold fit9; rw [if_pos rfl,hcut,if_pos rfl]
  rw [hf] at f1
  refine Eq.trans ?_ f1
  unfold numbers_Decode numbers_Decode_j2
  have x6:ltI 1 (0:Int)=false:=rfl
  have x7:eqI (0:Int) 1=false:=rfl
  simp only [x1,x2,x3,x4,x5,x6,x7,x8,x9,hg,q1,cond_true,cond_false,Option.bind_some]

def incB:List Int→Bool
 | []=>true
 | [_]=>true
 | p::x::t=>decide (p < x) && incB (x::t)
theorem incB_snoc:∀ {l:List Int} {a b:Int},incB (l++[a])=true→a < b→incB (l++[a]++[b])=true
 | [],a,b,_,h=>by simp [incB,h]
 | [p],a,b,h,hb=>by
  simp [incB] at h ⊢
  exact ⟨h,hb⟩
 | p::x::t,a,b,h,hb=>by
  simp only [List.cons_append,incB,Bool.and_eq_true,decide_eq_true_eq] at h ⊢
  exact ⟨h.1,incB_snoc (l:=x::t) h.2 hb⟩
theorem incB_init:∀ {l:List Int} {a:Int},incB (l++[a])=true→incB l=true
 | [],_,_=>rfl
 | [_],_,_=>rfl
 | p::x::t,a,h=>by
  simp only [List.cons_append,incB,Bool.and_eq_true,decide_eq_true_eq] at h ⊢
  exact ⟨h.1,incB_init (l:=x::t) h.2⟩
theorem dist_eq{a b:Int}(ha:I64 a)(hb:I64 b)(h:b≤a):subI .u64 (IntKind.wrap .u64 a) (IntKind.wrap .u64 b)=a - b:=by
 unfold I64 at ha hb
 show IntKind.u64.wrap _=_
 rw [wrap_u64_mod,wrap_u64_mod,wrap_u64_mod]
 omega
theorem i64_of_u64(z:Int):IntKind.i64.wrap (IntKind.u64.wrap z)=IntKind.i64.wrap z:=by
 obtain ⟨k,hk⟩:=i64_wrap_mod z
 obtain ⟨j,hj⟩:=i64_wrap_mod (IntKind.u64.wrap z)
 refine i64_uniq (rng_wrap_i64 _) (rng_wrap_i64 _) (k:=j - k - z / 18446744073709551616) ?_
 rw [hj,hk,wrap_u64_mod]
 omega
theorem apply_eq{t d:Int}(ht:I64 t)(hd:0≤d∧d≤9223372036854775807 - t):IntKind.i64.wrap (addI .u64 (IntKind.wrap .u64 t) d)=t+d:=by
 show IntKind.i64.wrap (IntKind.u64.wrap _)=_
 unfold I64 at ht
 rw [i64_of_u64]
 obtain ⟨k,hk⟩:=i64_wrap_mod (IntKind.u64.wrap t+d)
 refine i64_uniq (rng_wrap_i64 _) (by unfold I64; omega) (k:=k - t / 18446744073709551616) ?_
 rw [hk,wrap_u64_mod]
 omega
theorem ref01_Distance_eq(F:Nat){a b:Int}(ha:I64 a)(hb:I64 b)(h:b≤a):ref01_Distance F a b=some (a - b,()):=by
 unfold ref01_Distance
 have e:ltI a b=false:=by rw [← Bool.not_eq_true,ltI_true]; omega
 rw [e,cond_false,dist_eq ha hb h]
theorem getL_Sg_split{l:List Int}{j:Nat}(h:j < l.length):l.drop j=getL 0 l (j:Int)::l.drop (j+1):=by
 rw [split_at h,getL_nat]
theorem ref10_Increasing_loop(F:Nat){R:Type}(k0:Option R)(kr:Bool→Option R){l:List Int}(hb:(l.length:Int)≤140737488355328):∀ (m j:Nat),j+1+m=l.length→∀ N,m < N →
  ref10_Increasing_l2 F k0 kr N l ((j:Int)+1)=if incB (l.drop j)=true then k0 else kr false:=by
 intro m
 induction m with
 | zero =>
  intro j hj N hN
  obtain ⟨N,rfl⟩:∃ M,N=M+1:=⟨N - 1,by omega⟩
  rw [getL_Sg_split (by omega),List.drop_eq_nil_of_le (by omega),if_pos (by rfl)]
  unfold ref10_Increasing_l2
  simp (disch:=omega) only [bs,↓if_pos,↓if_neg]
 | succ m ih =>
  intro j hj N hN
  obtain ⟨N,rfl⟩:∃ M,N=M+1:=⟨N - 1,by omega⟩
  have e:=ih (j+1) (by omega) N (by omega)
  have hs:l.drop j=getL 0 l (j:Int)::getL 0 l ((j:Int)+1)::l.drop (j+2):=by
   rw [getL_Sg_split (by omega),getL_Sg_split (j:=j+1) (by omega)]
   simp
  have hs1:l.drop (j+1)=getL 0 l ((j:Int)+1)::l.drop (j+2):=by
   rw [getL_Sg_split (j:=j+1) (by omega)]
   simp
  rw [hs1] at e
  rw [hs]
  simp only [Int.natCast_add,Int.natCast_one] at e
  have hj1:(j:Int)+1 - 1=(j:Int):=by omega
  unfold ref10_Increasing_l2
  by_cases c:getL 0 l ((j:Int)+1)≤getL 0 l (j:Int)
  ·have hf:incB (getL 0 l (j:Int)::getL 0 l ((j:Int)+1)::l.drop (j+2))=false:=by
    have:decide (getL 0 l (j:Int) < getL 0 l ((j:Int)+1))=false:=decide_eq_false (by omega)
    simp only [incB,this,Bool.false_and]
   rw [hf]
   simp (disch:=omega) only [bs,↓if_pos,↓if_neg,hj1]
  ·have ht:incB (getL 0 l (j:Int)::getL 0 l ((j:Int)+1)::l.drop (j+2))=incB (getL 0 l ((j:Int)+1)::l.drop (j+2)):=by
    have:decide (getL 0 l (j:Int) < getL 0 l ((j:Int)+1))=true:=decide_eq_true (by omega)
    simp only [incB,this,Bool.true_and]
   rw [ht,← e]
   simp (disch:=omega) only [bs,↓if_pos,↓if_neg,hj1]
theorem ref10_Increasing_eq(F:Nat)(hF:Fuel F){l:List Int}(hb:(l.length:Int)≤140737488355328):ref10_Increasing F l=some (incB l,()):=by
 unfold ref10_Increasing
 by_cases h:l.length=0
 ·have:l=[]:=List.length_eq_zero_iff.1 h
  subst this
  obtain ⟨G,hG⟩:∃ G,F=G+1:=⟨F - 1,by unfold Fuel at hF; omega⟩
  rw [hG]
  unfold ref10_Increasing_l2
  simp (disch:=omega) only [bs,↓if_pos,↓if_neg]
  rfl
 ·refine(ref10_Increasing_loop F _ _ hb (l.length - 1) 0 (by omega) F (by unfold Fuel at hF; omega)).trans ?_
  rw [List.drop_zero]
  cases incB l <;> rfl
theorem Times_j(F:Nat){R:Type}(kn:List Int×Int×Unit→List Int→Int→Int→Int→Int→Option R)(kr:List Int×Int×Unit→List Int→Option R)(t:List Int×Int×Unit)(l:List Int)(kd:Int){at_ d:Int}(step i:Int)(ha:I64 at_)(hd:1≤d) :
  made_Tape_Times_j20 F kn kr t l kd at_ step i d=if 9223372036854775807 - at_ < d then kr t l else kn t l kd (at_+d) step i:=by
 unfold made_Tape_Times_j20
 have h1:subI .u64 9223372036854775807 (IntKind.wrap .u64 at_)=9223372036854775807 - at_:=by
  unfold I64 at ha
  show IntKind.u64.wrap _=_
  rw [wrap_u64_mod,wrap_u64_mod]
  omega
 rw [h1]
 by_cases c:9223372036854775807 - at_ < d
 ·rw [if_pos c]
  simp (disch:=omega) only [bs,↓if_pos,↓if_neg]
 ·rw [if_neg c]
  have h2:=apply_eq ha (d:=d) (by omega)
  rw [h2]
  simp (disch:=omega) only [bs,↓if_pos,↓if_neg]
def TimesOk(l:List Int)(at_:Int):Prop:=Sg l∧I64 at_∧incB (l++[at_])=true
theorem TimesOk.push{l:List Int}{at_ d:Int}(h:TimesOk l at_)(hd:1≤d)(hm:¬ 9223372036854775807 - at_ < d):TimesOk (l++[at_]) (at_+d):=by
 obtain ⟨h1,h2,h3⟩:=h
 refine ⟨h1.append (Sg.cons h2 Sg.nil),by unfold I64 at h2 ⊢; omega,incB_snoc h3 (by omega)⟩
theorem Times_loop(F:Nat)(hF:Fuel F)(kd:Int){step:Int}(hs:1≤step∧step≤100):∀ (m:Nat) (t:List Int×Int×Unit) (l:List Int) (at_:Int),TapeOk t→TimesOk l at_→l.length+m≤1000 →
  ∀ N,m < N→∃ t' l',TapeOk t'∧Sg l'∧incB l'=true∧l'.length≤l.length+m∧∀ (R:Type) (k:List Int×Int×Unit→List Int→Option R) ,made_Tape_Times_l6 F k k N t l kd at_ step (m:Int)=k t' l':=by
 intro m
 induction m with
 | zero =>
  intro t l at_ ht hl hlen N hN
  obtain ⟨N,rfl⟩:∃ M,N=M+1:=⟨N - 1,by omega⟩
  refine ⟨t,l,ht,hl.1,incB_init hl.2.2,by omega,fun R k=>?_⟩
  unfold made_Tape_Times_l6
  simp (disch:=omega) only [bs,↓if_pos,↓if_neg]
 | succ m ih =>
  intro t l at_ ht hl hlen N hN
  obtain ⟨N,rfl⟩:∃ M,N=M+1:=⟨N - 1,by omega⟩
  have hcast:((m+1:Nat):Int)=(m:Int)+1:=by omega
  have hm1:(m:Int)+1 - 1=(m:Int):=by omega
  have hlp:(l++[at_]).length=l.length+1:=by simp
  -- what is common: a distance is put on
  have fin:∀ (t1:List Int×Int×Unit) (d:Int),TapeOk t1→1≤d→(∀ (R:Type) (k:List Int×Int×Unit→List Int→Option R),made_Tape_Times_l6 F k k (N+1) t l kd at_ step ((m:Int)+1) =
    made_Tape_Times_j20 F (fun z20 z21 z22 z23 z24 z25=>made_Tape_Times_l6 F k k N z20 z21 z22 z23 z24 (subI .i64 z25 1)) (fun z27 z28=>k z27 z28) t1 (l++[at_]) kd at_ step ((m:Int)+1) d) →
    ∃ t' l',TapeOk t'∧Sg l'∧incB l'=true∧l'.length≤l.length+(m+1)∧∀ (R:Type) (k:List Int×Int×Unit→List Int→Option R),made_Tape_Times_l6 F k k (N+1) t l kd at_ step ((m+1:Nat):Int)=k t' l':=by
   intro t1 d ht1 hd e
   by_cases c:9223372036854775807 - at_ < d
   ·refine ⟨t1,l++[at_],ht1,hl.1.append (Sg.cons hl.2.1 Sg.nil),hl.2.2,by omega,fun R k=>?_⟩
    rw [hcast,e R k,Times_j F _ _ t1 (l++[at_]) kd step _ hl.2.1 hd,if_pos c]
   ·obtain ⟨t',l',g1,g2,g3,g4,g5⟩:=ih t1 (l++[at_]) (at_+d) ht1 (hl.push hd c) (by omega) N (by omega)
    refine ⟨t',l',g1,g2,g3,by omega,fun R k=>?_⟩
    rw [hcast,e R k,Times_j F _ _ t1 (l++[at_]) kd step _ hl.2.1 hd,if_neg c,subI_i64 (by omega),hm1]
    exact g5 R k
  have hr:roomB (l.length+1) 8=true:=by rw [roomB_true]; omega
  have h0:ltI 0 ((m:Int)+1)=true:=by rw [ltI_true]; omega
  by_cases k1:kd=1
  ·obtain ⟨t1,v,e1,ht1,hv0,hv⟩:=made_Tape_Next_ok F ht (n:=9) (by omega)
   refine fin t1 (IntKind.u64.wrap (addI .i64 1 v)) ht1 ?_ fun R k=>?_
   ·rw [addI_i64 (by omega),wrap_u64 (by omega)]; omega
   ·conv=>lhs; unfold made_Tape_Times_l6
    have q:eqI kd 1=true:=by rw [eqI_true]; exact k1
    simp only [h0,hr,q,cond_true,e1,Option.bind_some]
  ·have q1:eqI kd 1=false:=by rw [← Bool.not_eq_true,eqI_true]; exact k1
   by_cases k2:kd=2
   ·obtain ⟨t1,v,e1,ht1,hv0,hv⟩:=made_Tape_Next_ok F ht (n:=3) (by omega)
    refine fin t1 (addI .u64 step (IntKind.u64.wrap v)) ht1 ?_ fun R k=>?_
    ·rw [wrap_u64 (by omega),addI_u64 (by omega)]; omega
    ·conv=>lhs; unfold made_Tape_Times_l6
     have q:eqI kd 2=true:=by rw [eqI_true]; exact k2
     simp only [h0,hr,q1,q,cond_true,cond_false,e1,Option.bind_some]
   ·have q2:eqI kd 2=false:=by rw [← Bool.not_eq_true,eqI_true]; exact k2
    by_cases k3:kd=3
    ·obtain ⟨t1,w,e1,ht1,hw0,hw⟩:=made_Tape_Word_ok F hF ht
     obtain ⟨t2,v,e2,ht2,hv0,hv⟩:=made_Tape_Next_ok F ht1 (n:=56) (by omega)
     have hs2:IntKind.u64.wrap (addI .i64 4 v)=4+v:=by rw [addI_i64 (by omega),wrap_u64 (by omega)]
     have hsh:shrI .u64 w (4+v)≤1152921504606846975:=by
      obtain ⟨n,rfl⟩:=Int.eq_ofNat_of_zero_le hw0
      rw [shrI_nat (by omega)]
      simp only [IntKind.bits]
      have h4:min (4+v).toNat 64=4+(min (4+v).toNat 64 - 4):=by omega
      rw [h4,Nat.pow_add,← Nat.div_div_eq_div_mul]
      have:=Nat.div_le_self ((n:Int).toNat / 2 ^ 4) (2 ^ (min (4+v).toNat 64 - 4))
      have h5:(n:Int).toNat / 2 ^ 4≤1152921504606846975:=by
       have:Int.ofNat n=(n:Int):=rfl
       omega
      exact Int.le_trans (Int.ofNat_le.2 (Nat.le_trans this h5)) (by omega)
     have hsr:=rng_shr (kd:=.u64) (s:=4+v) hw0
     refine fin t2 (addI .u64 1 (shrI .u64 w (4+v))) ht2 ?_ fun R k=>?_
     ·rw [addI_u64 (by omega)]; omega
     ·conv=>lhs; unfold made_Tape_Times_l6
      have q:eqI kd 3=true:=by rw [eqI_true]; exact k3
      have q0:ltI (4+v) 0=false:=by rw [← Bool.not_eq_true,ltI_true]; omega
      simp only [h0,hr,q1,q2,q,cond_true,cond_false,e1,e2,Option.bind_some,hs2,q0]
    ·have q3:eqI kd 3=false:=by rw [← Bool.not_eq_true,eqI_true]; exact k3
     by_cases k4:kd=4
     ·have q:eqI kd 4=true:=by rw [eqI_true]; exact k4
      obtain ⟨t1,bb,e1,ht1⟩:=made_Tape_Bool_ok F ht (n:=4) (by omega)
      cases bb with
      | true =>
       obtain ⟨t2,w,e2,ht2,hw0,hw⟩:=made_Tape_Word_ok F hF ht1
       obtain ⟨t3,v,e3,ht3,hv0,hv⟩:=made_Tape_Next_ok F ht2 (n:=8) (by omega)
       have hs2:IntKind.u64.wrap (addI .i64 1 v)=1+v:=by rw [addI_i64 (by omega),wrap_u64 (by omega)]
       have hsh:shrI .u64 w (1+v)≤9223372036854775807:=by
        obtain ⟨n,rfl⟩:=Int.eq_ofNat_of_zero_le hw0
        rw [shrI_nat (by omega)]
        simp only [IntKind.bits]
        have h4:min (1+v).toNat 64=1+(min (1+v).toNat 64 - 1):=by omega
        rw [h4,Nat.pow_add,← Nat.div_div_eq_div_mul]
        have:=Nat.div_le_self ((n:Int).toNat / 2 ^ 1) (2 ^ (min (1+v).toNat 64 - 1))
        have h5:(n:Int).toNat / 2 ^ 1≤9223372036854775807:=by
         have:Int.ofNat n=(n:Int):=rfl
         omega
        exact Int.le_trans (Int.ofNat_le.2 (Nat.le_trans this h5)) (by omega)
       have hsr:=rng_shr (kd:=.u64) (s:=1+v) hw0
       refine fin t3 (addI .u64 1 (shrI .u64 w (1+v))) ht3 ?_ fun R k=>?_
       ·rw [addI_u64 (by omega)]; omega
       ·conv=>lhs; unfold made_Tape_Times_l6
        have q0:ltI (1+v) 0=false:=by rw [← Bool.not_eq_true,ltI_true]; omega
        simp only [h0,hr,q1,q2,q3,q,cond_true,cond_false,e1,e2,e3,Option.bind_some,hs2,q0]
      | false =>
       refine fin t1 step ht1 (by omega) fun R k=>?_
       conv=>lhs; unfold made_Tape_Times_l6
       simp only [h0,hr,q1,q2,q3,q,cond_true,cond_false,e1,Option.bind_some]
     ·have q4:eqI kd 4=false:=by rw [← Bool.not_eq_true,eqI_true]; exact k4
      refine fin t step ht (by omega) fun R k=>?_
      conv=>lhs; unfold made_Tape_Times_l6
      simp only [h0,hr,q1,q2,q3,q4,cond_true,cond_false]
theorem made_Tape_Times_ok(F:Nat)(hF:Fuel F){t:List Int×Int×Unit}(h:TapeOk t){n:Int}(hn:0≤n∧n≤100) :
  ∃ t' l,made_Tape_Times F t n=some (t',l,())∧TapeOk t'∧Sg l∧incB l=true∧(l.length:Int)≤n:=by
 obtain ⟨t1,kd,e1,h1,_,_⟩:=made_Tape_Next_ok F h (n:=5) (by omega)
 obtain ⟨t2,at_,e2,h2,ha⟩:=made_Tape_Int_ok F hF h1
 obtain ⟨t3,s,e3,h3,hs0,hs⟩:=made_Tape_Next_ok F h2 (n:=50) (by omega)
 obtain ⟨t4,m,e4,h4,hm0,hm⟩:=made_Tape_Next_ok F h3 (n:=n+1) (by omega)
 obtain ⟨m,rfl⟩:=Int.eq_ofNat_of_zero_le hm0
 have hst:IntKind.u64.wrap (addI .i64 1 s)=1+s:=by rw [addI_i64 (by omega),wrap_u64 (by omega)]
 obtain ⟨t5,l,g1,g2,g3,g4,g5⟩:=Times_loop F hF kd (step:=1+s) (by omega) m t4 [] at_ h4 ⟨Sg.nil,ha,rfl⟩ (by simp; omega) F (by unfold Fuel at hF; omega)
 refine ⟨t5,l,?_,g1,g2,g3,by simp at g4; omega⟩
 unfold made_Tape_Times
 have hn1:addI .i64 n 1=n+1:=addI_i64 (by omega)
 simp only [e1,e2,e3,hn1,e4,hst,Option.bind_some]
 exact g5 _ _
theorem dfs_snoc:∀ (l:List Int) (q p x:Int),dfs q (l++[p]++[x])=dfs q (l++[p])++[IntKind.i64.wrap (x - p)]
 | [],q,p,x=>rfl
 | y::l,q,p,x=>by
  have:=dfs_snoc l y p x
  simp only [List.cons_append,dfs]
  rw [this]
theorem df_snoc(l:List Int)(p x:Int):df (l++[p]++[x])=df (l++[p])++[IntKind.i64.wrap (x - p)]:=by
 cases l with
 | nil=>rfl
 | cons y l=>simp only [List.cons_append,df,dfs_snoc l y p x]
theorem diff_wrap(x p:Int):IntKind.i64.wrap (subI .u64 (IntKind.wrap .u64 x) (IntKind.wrap .u64 p))=IntKind.i64.wrap (x - p):=by
 show IntKind.i64.wrap (IntKind.u64.wrap _)=_
 rw [i64_of_u64]
 obtain ⟨k,hk⟩:=i64_wrap_mod (IntKind.u64.wrap x - IntKind.u64.wrap p)
 obtain ⟨j,hj⟩:=i64_wrap_mod (x - p)
 refine i64_uniq (rng_wrap_i64 _) (rng_wrap_i64 _) (k:=k - j - x / 18446744073709551616+p / 18446744073709551616) ?_
 rw [hk,hj,wrap_u64_mod,wrap_u64_mod]
 omega
theorem apply_wrap(x p:Int):IntKind.i64.wrap (addI .u64 (IntKind.wrap .u64 x) (IntKind.wrap .u64 p))=IntKind.i64.wrap (x+p):=by
 show IntKind.i64.wrap (IntKind.u64.wrap _)=_
 rw [i64_of_u64]
 obtain ⟨k,hk⟩:=i64_wrap_mod (IntKind.u64.wrap x+IntKind.u64.wrap p)
 obtain ⟨j,hj⟩:=i64_wrap_mod (x+p)
 refine i64_uniq (rng_wrap_i64 _) (rng_wrap_i64 _) (k:=k - j - x / 18446744073709551616 - p / 18446744073709551616) ?_
 rw [hk,hj,wrap_u64_mod,wrap_u64_mod]
 omega
theorem differences_loop(F:Nat){R:Type}(k:List Int→Option R):∀ (n:Nat) (c:List Int) (p:Int) (b:List Int),c.length=n→((c++[p]++b).length:Int)≤140737488355328→∀ N,n < N →
  residual_differences_l1 F k N (c++[p]++b) (c.length:Int)=k (df (c++[p])++b):=by
 intro n
 induction n with
 | zero =>
  intro c p b hc hb N hN
  obtain ⟨N,rfl⟩:∃ M,N=M+1:=⟨N - 1,by omega⟩
  have:c=[]:=List.length_eq_zero_iff.1 hc
  subst this
  unfold residual_differences_l1
  simp (disch:=omega) only [bs,↓if_pos,↓if_neg]
  rfl
 | succ n ih =>
  intro c p b hc hb N hN
  obtain ⟨N,rfl⟩:∃ M,N=M+1:=⟨N - 1,by omega⟩
  obtain ⟨c',q,rfl⟩:∃ c' q,c=c'++[q]:=⟨c.dropLast,c.getLast (by intro h; simp [h] at hc),(List.dropLast_concat_getLast _).symm⟩
  simp only [List.length_append,List.length_singleton] at hc
  have hc':c'.length=n:=by omega
  have g1:getL 0 (c'++[q]++[p]++b) (((c'++[q]).length:Nat):Int)=p:=by
   rw [List.append_assoc (c'++[q])]
   exact get_mid (c'++[q]) p b
  have g0:getL 0 (c'++[q]++[p]++b) (c'.length:Int)=q:=by
   rw [List.append_assoc,List.append_assoc]
   exact get_mid c' q _
  have s1:setL (c'++[q]++[p]++b) (((c'++[q]).length:Nat):Int) (IntKind.i64.wrap (p - q))=c'++[q]++(IntKind.i64.wrap (p - q)::b):=by
   rw [List.append_assoc (c'++[q])]
   refine(set_mid (c'++[q]) p _ b).trans ?_
   simp
  have hll:(c'++[q]++[p]++b).length=n+2+b.length:=by simp; omega
  have e:=ih c' q (IntKind.i64.wrap (p - q)::b) hc' (by simp at hb ⊢; omega) N (by omega)
  have hfin:df (c'++[q]++[p])++b=df (c'++[q])++(IntKind.i64.wrap (p - q)::b):=by rw [df_snoc]; simp
  rw [hfin,← e]
  have hlen:(((c'++[q]).length:Nat):Int)=(n:Int)+1:=by simp; omega
  rw [hlen] at g1 s1 ⊢
  rw [hc'] at g0 ⊢
  have hn1:(n:Int)+1 - 1=(n:Int):=by omega
  rw [← s1]
  generalize c'++[q]++[p]++b=l at *
  conv=>lhs; unfold residual_differences_l1
  unfold checked_Diff
  have hw:=diff_wrap p q
  simp (disch:=omega) only [bs,↓if_pos,↓if_neg,hn1,g1,g0,hw]
theorem residual_differences_eq(F:Nat)(hF:Fuel F){l:List Int}(hb:(l.length:Int)≤140737488355328):residual_differences F l=some (df l,()):=by
 unfold residual_differences
 rcases List.eq_nil_or_concat l with h | ⟨c,p,h⟩
 ·subst h
  obtain ⟨G,hG⟩:∃ G,F=G+1:=⟨F - 1,by unfold Fuel at hF; omega⟩
  rw [hG]
  unfold residual_differences_l1
  simp (disch:=omega) only [bs,↓if_pos,↓if_neg]
  rfl
 ·rw [List.concat_eq_append] at h
  subst h
  have e:=differences_loop F (fun z11=>some (z11,())) c.length c p [] rfl (by simpa using hb) F (by unfold Fuel at hF; simp at hb; omega)
  simp only [List.append_nil] at e
  have:subI .i64 (lenI (c++[p])) 1=(c.length:Int):=by
   show IntKind.wrap .i64 _=_
   unfold lenI
   simp at hb ⊢
   rw [wrap_i64 (by omega)] <;> omega
  rw [this]
  exact e
theorem sums_loop(F:Nat){R:Type}(k:List Int→Option R):∀ (rest done:List Int) (p:Int),((done++[p]++rest).length:Int)≤140737488355328→∀ N,rest.length < N →
  residual_sums_l1 F k N (done++[p]++rest) ((done.length:Int)+1)=k (done++[p]++sms p rest):=by
 intro rest
 induction rest with
 | nil =>
  intro done p hb N hN
  obtain ⟨N,rfl⟩:∃ M,N=M+1:=⟨N - 1,by omega⟩
  have hll:(done++[p]++[]).length=done.length+1:=by simp
  unfold residual_sums_l1
  simp (disch:=omega) only [bs,↓if_pos,↓if_neg]
  rfl
 | cons x rest ih =>
  intro done p hb N hN
  obtain ⟨N,rfl⟩:∃ M,N=M+1:=⟨N - 1,by omega⟩
  simp only [List.length_cons] at hN
  have hlen:(((done++[p]).length:Nat):Int)=(done.length:Int)+1:=by simp
  have g1:getL 0 (done++[p]++x::rest) ((done.length:Int)+1)=x:=by rw [← hlen]; exact get_mid (done++[p]) x rest
  have g0:getL 0 (done++[p]++x::rest) (done.length:Int)=p:=by rw [List.append_assoc]; exact get_mid done p _
  have s1:setL (done++[p]++x::rest) ((done.length:Int)+1) (IntKind.i64.wrap (p+x))=done++[p]++[IntKind.i64.wrap (p+x)]++rest:=by rw [← hlen]; exact set_mid (done++[p]) x _ rest
  have e:=ih (done++[p]) (IntKind.i64.wrap (p+x)) (by simp at hb ⊢; omega) N (by omega)
  rw [hlen] at e
  have hll:(done++[p]++x::rest).length=done.length+2+rest.length:=by simp; omega
  have hw:=apply_wrap x p
  rw [Int.add_comm x p] at hw
  have hd1:(done.length:Int)+1 - 1=(done.length:Int):=by omega
  have hfin:done++[p]++sms p (x::rest)=done++[p]++[IntKind.i64.wrap (p+x)]++sms (IntKind.i64.wrap (p+x)) rest:=by simp [sms]
  rw [hfin,← e,← s1]
  generalize done++[p]++x::rest=l at *
  conv=>lhs; unfold residual_sums_l1
  unfold checked_Apply
  simp (disch:=omega) only [bs,↓if_pos,↓if_neg,hd1,g1,g0,hw]
theorem residual_sums_eq(F:Nat)(hF:Fuel F){l:List Int}(hb:(l.length:Int)≤140737488355328):residual_sums F l=some (sm l,()):=by
 unfold residual_sums
 cases l with
 | nil =>
  obtain ⟨G,hG⟩:∃ G,F=G+1:=⟨F - 1,by unfold Fuel at hF; omega⟩
  rw [hG]
  unfold residual_sums_l1
  simp (disch:=omega) only [bs,↓if_pos,↓if_neg]
  rfl
 | cons x t=>exact sums_loop F _ t [] x (by simpa using hb) F (by unfold Fuel at hF; simp at hb; omega)
theorem repeatd_loop(F:Nat)(hF:Fuel F){R:Type}(k:List Int→Option R){o:Nat}(ho:o≤2):∀ (m i:Nat) (l:List Int),i+m=o→(l.length:Int)≤140737488355328→∀ N,m < N →
  residual_repeatd_l1 F k N l (o:Int) (i:Int)=k (dfn m l):=by
 intro m
 induction m with
 | zero =>
  intro i l hi hb N hN
  obtain ⟨N,rfl⟩:∃ M,N=M+1:=⟨N - 1,by omega⟩
  unfold residual_repeatd_l1
  simp (disch:=omega) only [bs,↓if_pos,↓if_neg]
  rfl
 | succ m ih =>
  intro i l hi hb N hN
  obtain ⟨N,rfl⟩:∃ M,N=M+1:=⟨N - 1,by omega⟩
  have e:=ih (i+1) (df l) (by omega) (by rw [df_length]; exact hb) N (by omega)
  simp only [Int.natCast_add,Int.natCast_one] at e
  unfold residual_repeatd_l1
  simp (disch:=omega) only [bs,↓if_pos,↓if_neg,residual_differences_eq F hF hb]
  exact e
theorem repeats_loop(F:Nat)(hF:Fuel F){R:Type}(k:List Int→Option R){o:Nat}(ho:o≤2):∀ (m i:Nat) (l:List Int),i+m=o→(l.length:Int)≤140737488355328→∀ N,m < N →
  residual_repeats_l1 F k N l (o:Int) (i:Int)=k (smn m l):=by
 intro m
 induction m with
 | zero =>
  intro i l hi hb N hN
  obtain ⟨N,rfl⟩:∃ M,N=M+1:=⟨N - 1,by omega⟩
  unfold residual_repeats_l1
  simp (disch:=omega) only [bs,↓if_pos,↓if_neg]
  rfl
 | succ m ih =>
  intro i l hi hb N hN
  obtain ⟨N,rfl⟩:∃ M,N=M+1:=⟨N - 1,by omega⟩
  have e:=ih (i+1) (sm l) (by omega) (by rw [sm_length]; exact hb) N (by omega)
  simp only [Int.natCast_add,Int.natCast_one] at e
  unfold residual_repeats_l1
  simp (disch:=omega) only [bs,↓if_pos,↓if_neg,residual_sums_eq F hF hb]
  exact e
theorem Residuals_loop(F:Nat){R:Type}(k:List Int→Option R){src:List Int}(hs:Sg src)(hb:(src.length:Int)≤140737488355328):∀ (rest pre out z:List Int),src=pre++rest→out.length=pre.length→z.length=rest.length→∀ N,rest.length < N →
  residual_Residuals_l7 F k N (out++z) src (src.length:Int) (pre.length:Int)=k (out++zs rest):=by
 intro rest
 induction rest with
 | nil =>
  intro pre out z he ho hz N hN
  obtain ⟨N,rfl⟩:∃ M,N=M+1:=⟨N - 1,by omega⟩
  have:z=[]:=List.length_eq_zero_iff.1 hz
  subst this
  have hlen:src.length=pre.length:=by rw [he]; simp
  unfold residual_Residuals_l7
  simp (disch:=omega) only [bs,↓if_pos,↓if_neg]
  rfl
 | cons x rest ih =>
  intro pre out z he ho hz N hN
  obtain ⟨N,rfl⟩:∃ M,N=M+1:=⟨N - 1,by omega⟩
  obtain ⟨y,z',rfl⟩:∃ y z',z=y::z':=by
   cases z with
   | nil=>simp at hz
   | cons y z'=>exact ⟨y,z',rfl⟩
  simp only [List.length_cons] at hN hz
  have hlen:src.length=pre.length+1+rest.length:=by rw [he]; simp; omega
  have g:getL 0 src (pre.length:Int)=x:=by rw [he]; exact get_mid pre x rest
  have hx:I64 x:=hs x (by rw [he]; simp)
  have st:setL (out++y::z') (pre.length:Int) (zz x:Int)=(out++[(zz x:Int)])++z':=by rw [← ho]; exact set_mid out y _ z'
  have hol:(out++y::z').length=pre.length+1+z'.length:=by simp; omega
  have e:=ih (pre++[x]) (out++[(zz x:Int)]) z' (by rw [he]; simp) (by simp [ho]) (by omega) N (by omega)
  have hpl:(((pre++[x]).length:Nat):Int)=(pre.length:Int)+1:=by simp
  rw [hpl] at e
  have hz2:out++[(zz x:Int)]++zs rest=out++zs (x::rest):=by simp [zs]
  rw [hz2] at e
  unfold residual_Residuals_l7
  simp (disch:=omega) only [bs,↓if_pos,↓if_neg,g,varint_Zigzag_eq F hx,st]
  exact e
theorem replI_length(n:Nat):(replI (n:Int) (0:Int)).length=n:=by simp [replI]
theorem residual_Residuals_eq(F:Nat)(hF:Fuel F){l:List Int}(hl:Sg l)(hb:(l.length:Int)≤17592186043904)(o:Int) :
  residual_Residuals F l o=if o < 0∨2 < o then some ([],false,()) else some (zs (dfn o.toNat l),true,()):=by
 unfold residual_Residuals
 by_cases c0:o < 0
 ·rw [if_pos (.inl c0)]
  simp (disch:=omega) only [bs,↓if_pos,↓if_neg]
 ·by_cases c1:2 < o
  ·rw [if_pos (.inr c1)]
   simp (disch:=omega) only [bs,↓if_pos,↓if_neg]
  ·rw [if_neg (by omega)]
   obtain ⟨n,rfl⟩:=Int.eq_ofNat_of_zero_le (show 0≤o by omega)
   have hn:n≤2:=by
    have:Int.ofNat n=(n:Int):=rfl
    omega
   have e1:slices_Clone_int64 F l=some (l,()):=by
    unfold slices_Clone_int64
    simp (disch:=omega) only [bs,↓if_pos,↓if_neg]
   have e2:residual_repeatd F l (n:Int)=some (dfn n l,()):=repeatd_loop F hF _ hn n 0 l (by omega) (by omega) F (by unfold Fuel at hF; omega)
   have hdl:=dfn_length n l
   have hds:=dfn_Sg n hl
   rw [Int.toNat_natCast]
   have x0:ltI (n:Int) 0=false:=by rw [← Bool.not_eq_true,ltI_true]; omega
   have x1:ltI 2 (n:Int)=false:=by rw [← Bool.not_eq_true,ltI_true]; omega
   simp only [x0,x1,cond_false,e1,e2,Option.bind_some]
   generalize dfn n l=d at *
   have x2:makeB (lenI d) (lenI d) 8=true:=by rw [makeB_true]; unfold lenI; omega
   rw [x2,cond_true]
   exact Residuals_loop F _ hds (by omega) d [] [] (replI (lenI d) 0) rfl rfl (by unfold lenI; rw [replI_length]) F (by unfold Fuel at hF; omega)
def rEe(l:List Int):List Int×Int:=if 65536 < l.length then([],3) else(rE l,0)
theorem residual_Encode_eq(F:Nat)(hF:Fuel F){l:List Int}(hl:Sg l)(hb:(l.length:Int)≤17592186043904):residual_Encode F l=some ((rEe l).1,(rEe l).2,()):=by
 have hR:=residual_Residuals_eq F hF hl hb
 unfold residual_Encode residual_Encode_p3 rEe
 have r0:=hR 0
 have r1:=hR 1
 have r2:=hR 2
 rw [if_neg (by omega)] at r0 r1 r2
 rw [show(0:Int).toNat=0 from rfl] at r0
 rw [show(1:Int).toNat=1 from rfl] at r1
 rw [show(2:Int).toNat=2 from rfl] at r2
 have x0:ltI (0:Int) 3=true:=rfl
 rw [x0,cond_true,r0]
 simp only [Option.bind_some]
 by_cases h:65536 < l.length
 ·rw [if_pos h,numbers_Encode_big F (by rw [zs_length,dfn_length]; exact h)]
  rfl
 ·rw [if_neg h]
  have n0:=numbers_Encode_eq F hF (zs_Wd (dfn_Sg 0 hl)) (by rw [zs_length,dfn_length]; omega)
  have n1:=numbers_Encode_eq F hF (zs_Wd (dfn_Sg 1 hl)) (by rw [zs_length,dfn_length]; omega)
  have n2:=numbers_Encode_eq F hF (zs_Wd (dfn_Sg 2 hl)) (by rw [zs_length,dfn_length]; omega)
  have s0:=nE_small (zs_Wd (dfn_Sg 0 hl)) (by rw [zs_length,dfn_length]; omega)
  have s1:=nE_small (zs_Wd (dfn_Sg 1 hl)) (by rw [zs_length,dfn_length]; omega)
  have s2:=nE_small (zs_Wd (dfn_Sg 2 hl)) (by rw [zs_length,dfn_length]; omega)
  have q0:rO 0 l=0::nE (zs (dfn 0 l)):=rfl
  have q1:rO 1 l=1::nE (zs (dfn 1 l)):=rfl
  have q2:rO 2 l=2::nE (zs (dfn 2 l)):=rfl
  obtain ⟨G,hG⟩:∃ G,F=G+3:=⟨F - 3,by unfold Fuel at hF; omega⟩
  have z:eqI (0:Int) 0=true:=rfl
  have w0:IntKind.wrap .u8 (0:Int)=0:=rfl
  have w1:IntKind.wrap .u8 (1:Int)=1:=rfl
  have w2:IntKind.wrap .u8 (2:Int)=2:=rfl
  have a1:addI .i64 (0:Int) 1=1:=rfl
  have a2:addI .i64 (1:Int) 1=2:=rfl
  have a3:addI .i64 (2:Int) 1=3:=rfl
  have rm:∀ c:List Int,c.length≤524290→roomB (1+c.length) 1=true:=fun c hc=>by rw [roomB_true]; omega
  -- one more order
  have step:∀ (N:Nat) (best:List Int) (o:Nat) (c:List Int),best≠[]→best.length≤524291→c.length≤524290→ltI (o:Int) 3=true→residual_Residuals F l (o:Int)=some (zs (dfn o l),true,())→numbers_Encode F (zs (dfn o l))=some (c,0,())→IntKind.wrap .u8 (o:Int)=(o:Int) →
    residual_Encode_l3 F (fun z=>some (z,(0,()))) (fun z28 z29=>some (z28,(z29,()))) (N+1) l best (o:Int)=residual_Encode_l3 F (fun z=>some (z,(0,()))) (fun z28 z29=>some (z28,(z29,()))) N l (shorter ((o:Int)::c) best) (addI .i64 (o:Int) 1):=by
   intro N best o c hne hbl hcl ho hr hc hw
   conv=>lhs; unfold residual_Encode_l3
   have he:List.isEmpty best=false:=by cases best with | nil=>exact absurd rfl hne | cons _ _=>rfl
   simp only [ho,cond_true,hr,Option.bind_some,hc,z,Bool.not_true,cond_false,he]
   by_cases cc:c.length+1 < best.length
   ·have x:ltI (addI .i64 (lenI c) 1) (lenI best)=true:=by rw [addI_i64 (by unfold lenI; omega),ltI_true]; unfold lenI; omega
    rw [x,cond_true,rm c hcl,cond_true,hw]
    unfold shorter
    rw [if_pos (by simpa using cc)]
    rfl
   ·have x:ltI (addI .i64 (lenI c) 1) (lenI best)=false:=by rw [← Bool.not_eq_true,addI_i64 (by unfold lenI; omega),ltI_true]; unfold lenI; omega
    rw [x,cond_false]
    unfold shorter
    rw [if_neg (by simpa using cc)]
  have last:∀ (N:Nat) (best:List Int),residual_Encode_l3 F (fun z=>some (z,(0,()))) (fun z28 z29=>some (z28,(z29,()))) (N+1) l best 3=some (best,(0,())):=fun N best=>rfl
  have e1:=step (G+2) (rO 0 l) 1 (nE (zs (dfn 1 l))) (by rw [q0]; simp) (by rw [q0]; simp; omega) s1 rfl r1 n1 rfl
  have hs1:(shorter (rO 1 l) (rO 0 l)).length≤524291:=by
   have:=(shorter_cases (rO 1 l) (rO 0 l)).2.2
   rw [q0] at this ⊢; simp at this; omega
  have hne1:shorter (rO 1 l) (rO 0 l)≠[]:=by
   rcases (shorter_cases (rO 1 l) (rO 0 l)).1 with h | h <;> rw [h]
   ·rw [q1]; simp
   ·rw [q0]; simp
  have e2:=step (G+1) (shorter (rO 1 l) (rO 0 l)) 2 (nE (zs (dfn 2 l))) hne1 hs1 s2 rfl r2 n2 rfl
  have e3:=last G (shorter (rO 2 l) (shorter (rO 1 l) (rO 0 l)))
  simp only [n0,Option.bind_some,z,Bool.not_true,cond_false,rm _ s0,cond_true,w0,a1]
  have hF3:residual_Encode_l3 F (fun z=>some (z,(0,()))) (fun z28 z29=>some (z28,(z29,()))) F l ([0]++nE (zs (dfn 0 l))) 1=residual_Encode_l3 F (fun z=>some (z,(0,()))) (fun z28 z29=>some (z28,(z29,()))) (G+2+1) l (rO 0 l) 1:=by
   rw [q0,show G+2+1=F by omega]
   rfl
  refine hF3.trans (e1.trans ?_)
  refine Eq.trans ?_ (e2.trans ?_)
  ·rfl
  ·exact e3
theorem Dec_fill(F:Nat){R:Type}(k:List Int→Int→Int→List Int→Option R)(b:List Int)(at_ end_:Int){src:List Int}(hs:Wd src)(hb:(src.length:Int)≤140737488355328):∀ (rest pre out z:List Int),src=pre++rest→out.length=pre.length→z.length=rest.length→∀ N,rest.length < N →
  residual_Decode_l12 F k N b at_ end_ (out++z) src (src.length:Int) (pre.length:Int)=k b at_ end_ (out++us rest):=by
 intro rest
 induction rest with
 | nil =>
  intro pre out z he ho hz N hN
  obtain ⟨N,rfl⟩:∃ M,N=M+1:=⟨N - 1,by omega⟩
  have:z=[]:=List.length_eq_zero_iff.1 hz
  subst this
  have hlen:src.length=pre.length:=by rw [he]; simp
  unfold residual_Decode_l12
  simp (disch:=omega) only [bs,↓if_pos,↓if_neg]
  rfl
 | cons x rest ih =>
  intro pre out z he ho hz N hN
  obtain ⟨N,rfl⟩:∃ M,N=M+1:=⟨N - 1,by omega⟩
  obtain ⟨y,z',rfl⟩:∃ y z',z=y::z':=by
   cases z with
   | nil=>simp at hz
   | cons y z'=>exact ⟨y,z',rfl⟩
  simp only [List.length_cons] at hN hz
  have hlen:src.length=pre.length+1+rest.length:=by rw [he]; simp; omega
  have g:getL 0 src (pre.length:Int)=x:=by rw [he]; exact get_mid pre x rest
  have hx:0≤x∧x≤18446744073709551615:=hs x (by rw [he]; simp)
  obtain ⟨v,rfl⟩:=Int.eq_ofNat_of_zero_le hx.1
  have hU:=varint_Unzigzag_eq F (n:=v) (by have:Int.ofNat v=(v:Int):=rfl; omega)
  have st:setL (out++y::z') (pre.length:Int) (uz v)=(out++[uz v])++z':=by rw [← ho]; exact set_mid out y _ z'
  have hol:(out++y::z').length=pre.length+1+z'.length:=by simp; omega
  have e:=ih (pre++[(v:Int)]) (out++[uz v]) z' (by rw [he]; simp) (by simp [ho]) (by omega) N (by omega)
  have hpl:(((pre++[(v:Int)]).length:Nat):Int)=(pre.length:Int)+1:=by simp
  rw [hpl] at e
  have hz2:out++[uz v]++us rest=out++us ((v:Int)::rest):=by simp [us]
  rw [hz2] at e
  unfold residual_Decode_l12
  simp (disch:=omega) only [bs,↓if_pos,↓if_neg,g,hU,st]
  exact e
theorem rE_small{l:List Int}(hl:Sg l)(hn:l.length≤65536):(rE l).length≤524291∧0 < (rE l).length∧Bt (rE l):=by
 obtain ⟨n,h1,h2⟩:=rE_is l
 rw [h2]
 exact ⟨(rO_small hl hn).1,(rO_small hl hn).2,rO_bt h1 hl⟩
theorem rEe_ok{l:List Int}(hn:l.length≤65536):rEe l=(rE l,0):=by unfold rEe; rw [if_neg (by omega)]
theorem rDecode_back(F:Nat)(hF:Fuel F){l:List Int}(hS:Sg l)(hn:l.length≤65536){b rest:List Int}(hb:Bt b)(hr:Bt rest)(hl:((b++(rE l++rest)).length:Int)≤140737488355328) :
  residual_Decode F (b++(rE l++rest)) (b.length:Int) (l.length:Int)=some (l,(b.length:Int)+(rE l).length,0,()):=by
 obtain ⟨s1,s2,s3⟩:=rE_small hS hn
 have hcut:dropL (takeL (b++(rE l++rest)) ((b.length:Int)+((rE l).length:Int))) (b.length:Int)=rE l:=by
  unfold dropL takeL
  rw [show((b.length:Int)+((rE l).length:Int)).toNat=b.length+(rE l).length by omega,Int.toNat_natCast,← List.append_assoc,List.take_left' (by simp),List.drop_left' rfl]
 obtain ⟨o,ho,hE⟩:=rE_is l
 have hzw:=zs_Wd (dfn_Sg o hS)
 have hzl:(zs (dfn o l)).length=l.length:=by rw [zs_length,dfn_length]
 have hcons:rE l=(o:Int)::nE (zs (dfn o l)):=hE
 have hall:b++(rE l++rest)=(b++[(o:Int)])++(nE (zs (dfn o l))++rest):=by rw [hcons]; simp
 have hlen:(b++(rE l++rest)).length=b.length+((rE l).length+rest.length):=by simp
 have hrl:(rE l).length=1+(nE (zs (dfn o l))).length:=by rw [hcons]; simp; omega
 have hB:=nDecode_back F hF hzw (by omega) (b:=b++[(o:Int)]) (rest:=rest) (hb.append (Bt.one (by omega))) hr (by rw [← hall]; exact hl)
 rw [← hall,hzl,show(((b++[(o:Int)]).length:Nat):Int)=(b.length:Int)+1 by simp,show(b.length:Int)+1+((nE (zs (dfn o l))).length:Int)=(b.length:Int)+(rE l).length by omega] at hB
 have hg:getL 0 (b++(rE l++rest)) (b.length:Int)=(o:Int):=by rw [hcons]; exact get_mid b _ _
 have x1:ltI (b.length:Int) 0=false:=by rw [← Bool.not_eq_true,ltI_true]; omega
 have x2:ltI (lenI (b++(rE l++rest))) (b.length:Int)=false:=by rw [← Bool.not_eq_true,ltI_true]; unfold lenI; omega
 have x3:ltI (l.length:Int) 0=false:=by rw [← Bool.not_eq_true,ltI_true]; omega
 have x4:ltI 65536 (l.length:Int)=false:=by rw [← Bool.not_eq_true,ltI_true]; omega
 have x5:eqI (b.length:Int) (lenI (b++(rE l++rest)))=false:=by rw [← Bool.not_eq_true,eqI_true]; unfold lenI; omega
 have x6:inI (b.length:Int) (b++(rE l++rest)).length=true:=by rw [inI_true]; omega
 have x7:ltI 2 (o:Int)=false:=by rw [← Bool.not_eq_true,ltI_true]; omega
 have x8:addI .i64 (b.length:Int) 1=(b.length:Int)+1:=addI_i64 (by omega)
 have f1:=fun (R:Type) (k:List Int→Int→Int→List Int→Option R)=>Dec_fill F k (b++(rE l++rest)) (b.length:Int) ((b.length:Int)+(rE l).length) hzw (by omega) (zs (dfn o l)) [] [] (replI (l.length:Int) 0) rfl rfl (by rw [replI_length,hzl]) F (by unfold Fuel at hF; omega)
 rw [us_zs,hzl] at f1
 simp only [List.nil_append,List.length_nil,Int.natCast_zero] at f1
 have p1:residual_repeats F (dfn o l) (IntKind.wrap .i64 (o:Int))=some (l,()):=by
  rw [wrap_i64 (by omega)]
  have:=repeats_loop F hF (fun z=>some (z,())) ho o 0 (dfn o l) (by omega) (by rw [dfn_length]; omega) F (by unfold Fuel at hF; omega)
  rw [smn_dfn o hS] at this
  exact this
 have E1:=residual_Encode_eq F hF hS (by omega)
 rw [rEe_ok hn] at E1
 have y1:makeB (l.length:Int) (l.length:Int) 8=true:=by rw [makeB_true]; omega
 have y2:cutB (b.length:Int) ((b.length:Int)+(rE l).length) (b++(rE l++rest)).length=true:=by rw [cutB_true]; omega
 have Q1:=slices_Equal_eq F hF (a:=rE l) (b:=rE l) (by omega)
 rw [decide_eq_true rfl] at Q1
 have z0:eqI (0:Int) 0=true:=rfl
 have hll:lenI (zs (dfn o l))=(l.length:Int):=by unfold lenI; omega
 unfold residual_Decode residual_Decode_j2 residual_Decode_j12
 simp only [x1,x2,x3,x4,x5,x6,hg,x7,x8,cond_true,cond_false,hB,Option.bind_some,z0,Bool.not_true,y1,hll,f1,p1,E1,y2,hcut,Q1]
abbrev Smp:=Int×Int×Unit
def SmpOk(l:List Smp):Prop:=∀ s∈l,I64 s.1∧I64 s.2.1
theorem SmpOk.push{l:List Smp}(h:SmpOk l){a b:Int}(ha:I64 a)(hb:I64 b):SmpOk (l++[(a,(b,()))]):=by
 intro s hs
 rcases List.mem_append.1 hs with h1 | h1
 ·exact h s h1
 ·simp at h1; subst h1; exact ⟨ha,hb⟩
theorem Samples_loop(F:Nat)(hF:Fuel F)(kd slope:Int){times:List Int}(hT:Sg times)(hTl:times.length≤1000):∀ (m i:Nat) (t:List Int×Int×Unit) (l:List Smp) (v:Int),i+m=times.length→TapeOk t→SmpOk l→I64 v→l.length=i →
  ∀ N,m < N→∃ t' l',TapeOk t'∧SmpOk l'∧l'.length=times.length∧(l'.map fun s=>s.1)=(l.map fun s=>s.1)++times.drop i∧∀ (R:Type) (k:List Int×Int×Unit→List Smp→Option R),made_Tape_Samples_l6 F k N t times l kd v slope (i:Int)=k t' l':=by
 intro m
 induction m with
 | zero =>
  intro i t l v hi ht hl hv hli N hN
  obtain ⟨N,rfl⟩:∃ M,N=M+1:=⟨N - 1,by omega⟩
  refine ⟨t,l,ht,hl,by omega,by rw [List.drop_eq_nil_of_le (by omega),List.append_nil],fun R k=>?_⟩
  unfold made_Tape_Samples_l6
  simp (disch:=omega) only [bs,↓if_pos,↓if_neg]
 | succ m ih =>
  intro i t l v hi ht hl hv hli N hN
  obtain ⟨N,rfl⟩:∃ M,N=M+1:=⟨N - 1,by omega⟩
  have fin:∀ (t1:List Int×Int×Unit) (x v1:Int),TapeOk t1→I64 x→I64 v1→(∀ (R:Type) (k:List Int×Int×Unit→List Smp→Option R),made_Tape_Samples_l6 F k (N+1) t times l kd v slope (i:Int) =
    made_Tape_Samples_l6 F k N t1 times (l++[(getL 0 times (i:Int),(x,()))]) kd v1 slope (addI .i64 (i:Int) 1)) →
    ∃ t' l',TapeOk t'∧SmpOk l'∧l'.length=times.length∧(l'.map fun s=>s.1)=(l.map fun s=>s.1)++times.drop i∧∀ (R:Type) (k:List Int×Int×Unit→List Smp→Option R),made_Tape_Samples_l6 F k (N+1) t times l kd v slope (i:Int)=k t' l':=by
   intro t1 x v1 ht1 hx hv1 e
   obtain ⟨t',l',g1,g2,g3,g5,g4⟩:=ih (i+1) t1 (l++[(getL 0 times (i:Int),(x,()))]) v1 (by omega) ht1 (hl.push (hT.get _) hx) hv1 (by simp; omega) N (by omega)
   refine ⟨t',l',g1,g2,g3,by rw [g5,getL_Sg_split (l:=times) (j:=i) (by omega)]; simp,fun R k=>?_⟩
   rw [e R k,addI_i64 (by omega)]
   have:=g4 R k
   simp only [Int.natCast_add,Int.natCast_one] at this
   exact this
  have h0:ltI (i:Int) (lenI times)=true:=by rw [ltI_true]; unfold lenI; omega
  have h1:inI (i:Int) times.length=true:=by rw [inI_true]; omega
  have hr:roomB (l.length+1) 16=true:=by rw [roomB_true]; omega
  by_cases k1:kd=1
  ·refine fin t (addI .i64 v (mulI .i64 (i:Int) slope)) v ht (rng_wrap_i64 _) hv fun R k=>?_
   conv=>lhs; unfold made_Tape_Samples_l6
   have q:eqI kd 1=true:=by rw [eqI_true]; exact k1
   simp only [h0,h1,hr,q,cond_true]
  ·have q1:eqI kd 1=false:=by rw [← Bool.not_eq_true,eqI_true]; exact k1
   by_cases k2:kd=2
   ·obtain ⟨t1,w,e1,ht1,_,_⟩:=made_Tape_Next_ok F ht (n:=7) (by omega)
    refine fin t1 (addI .i64 (addI .i64 v (mulI .i64 (i:Int) slope)) (subI .i64 w 3)) v ht1 (rng_wrap_i64 _) hv fun R k=>?_
    conv=>lhs; unfold made_Tape_Samples_l6
    have q:eqI kd 2=true:=by rw [eqI_true]; exact k2
    simp only [h0,h1,hr,q1,q,cond_true,cond_false,e1,Option.bind_some]
   ·have q2:eqI kd 2=false:=by rw [← Bool.not_eq_true,eqI_true]; exact k2
    by_cases k3:kd=3
    ·obtain ⟨t1,w,e1,ht1,_,_⟩:=made_Tape_Next_ok F ht (n:=9) (by omega)
     refine fin t1 (addI .i64 v (subI .i64 w 4)) v ht1 (rng_wrap_i64 _) hv fun R k=>?_
     conv=>lhs; unfold made_Tape_Samples_l6
     have q:eqI kd 3=true:=by rw [eqI_true]; exact k3
     simp only [h0,h1,hr,q1,q2,q,cond_true,cond_false,e1,Option.bind_some]
    ·have q3:eqI kd 3=false:=by rw [← Bool.not_eq_true,eqI_true]; exact k3
     by_cases k4:kd=4
     ·obtain ⟨t1,w,e1,ht1,hw⟩:=made_Tape_Int_ok F hF ht
      refine fin t1 w v ht1 hw hv fun R k=>?_
      conv=>lhs; unfold made_Tape_Samples_l6
      have q:eqI kd 4=true:=by rw [eqI_true]; exact k4
      simp only [h0,h1,hr,q1,q2,q3,q,cond_true,cond_false,e1,Option.bind_some]
     ·have q4:eqI kd 4=false:=by rw [← Bool.not_eq_true,eqI_true]; exact k4
      by_cases k5:kd=5
      ·have q:eqI kd 5=true:=by rw [eqI_true]; exact k5
       obtain ⟨t1,bb,e1,ht1⟩:=made_Tape_Bool_ok F ht (n:=5) (by omega)
       cases bb with
       | true =>
        obtain ⟨t2,w,e2,ht2,_,_⟩:=made_Tape_Next_ok F ht1 (n:=400) (by omega)
        obtain ⟨t3,u,e3,ht3,_,_⟩:=made_Tape_Next_ok F ht2 (n:=3) (by omega)
        refine fin t3 (addI .i64 (addI .i64 v (subI .i64 w 200)) u) (addI .i64 v (subI .i64 w 200)) ht3 (rng_wrap_i64 _) (rng_wrap_i64 _) fun R k=>?_
        conv=>lhs; unfold made_Tape_Samples_l6
        simp only [h0,h1,hr,q1,q2,q3,q4,q,cond_true,cond_false,e1,e2,e3,Option.bind_some]
       | false =>
        obtain ⟨t3,u,e3,ht3,_,_⟩:=made_Tape_Next_ok F ht1 (n:=3) (by omega)
        refine fin t3 (addI .i64 v u) v ht3 (rng_wrap_i64 _) hv fun R k=>?_
        conv=>lhs; unfold made_Tape_Samples_l6
        simp only [h0,h1,hr,q1,q2,q3,q4,q,cond_true,cond_false,e1,e3,Option.bind_some]
      ·have q5:eqI kd 5=false:=by rw [← Bool.not_eq_true,eqI_true]; exact k5
       by_cases k6:kd=6
       ·have q:eqI kd 6=true:=by rw [eqI_true]; exact k6
        obtain ⟨t2,w,e2,ht2,_,_⟩:=made_Tape_Next_ok F ht (n:=50) (by omega)
        obtain ⟨t3,u,e3,ht3,_,_⟩:=made_Tape_Next_ok F ht2 (n:=50) (by omega)
        refine fin t3 (mulI .i64 (mulI .i64 w u) slope) v ht3 (rng_wrap_i64 _) hv fun R k=>?_
        conv=>lhs; unfold made_Tape_Samples_l6
        simp only [h0,h1,hr,q1,q2,q3,q4,q5,q,cond_true,cond_false,e2,e3,Option.bind_some]
       ·have q6:eqI kd 6=false:=by rw [← Bool.not_eq_true,eqI_true]; exact k6
        refine fin t v v ht hv hv fun R k=>?_
        conv=>lhs; unfold made_Tape_Samples_l6
        simp only [h0,h1,hr,q1,q2,q3,q4,q5,q6,cond_true,cond_false]
theorem made_Tape_Samples_inc(F:Nat)(hF:Fuel F){t:List Int×Int×Unit}(h:TapeOk t){n:Int}(hn:0≤n∧n≤100) :
  ∃ t' l,made_Tape_Samples F t n=some (t',l,())∧TapeOk t'∧SmpOk l∧(l.length:Int)≤n∧incB (l.map fun s=>s.1)=true:=by
 obtain ⟨t1,ts,e1,h1,hs,hi,hl⟩:=made_Tape_Times_ok F hF h hn
 obtain ⟨t2,kd,e2,h2,_,_⟩:=made_Tape_Next_ok F h1 (n:=7) (by omega)
 obtain ⟨t3,v,e3,h3,hv⟩:=made_Tape_Int_ok F hF h2
 obtain ⟨t4,s,e4,h4,_,_⟩:=made_Tape_Next_ok F h3 (n:=41) (by omega)
 obtain ⟨t5,l,g1,g2,g3,g5,g4⟩:=Samples_loop F hF kd (subI .i64 s 20) hs (by omega) ts.length 0 t4 [] v (by omega) h4 (fun x hx=>by cases hx) hv rfl F (by unfold Fuel at hF; omega)
 refine ⟨t5,l,?_,g1,g2,by omega,by rw [g5,List.drop_zero,List.map_nil,List.nil_append]; exact hi⟩
 unfold made_Tape_Samples
 simp only [e1,e2,e3,e4,Option.bind_some]
 exact g4 _ _
end Go.Proofs.YtdhfajmcakneiaaGreat
