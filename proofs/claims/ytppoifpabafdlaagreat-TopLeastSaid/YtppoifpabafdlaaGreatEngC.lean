/- The reading of the code, part C. -/
import Derived.Test.YtppoifpabafdlaaGreatEngB
import Derived.Below
set_option linter.unusedVariables false
set_option linter.unusedSimpArgs false
namespace Go.Eng
open Go.RowKit
section
variable {P:Program} {cx:Cx} {fr:Frm} {arg:Operand→Arg} {o:Oper} {R:Type} {KE:Eff→Option R} {res:R}
theorem A6p{x:Operand}(hd:F9 fr.n o.dst=true)(ho:o.op=.move x∨o.op=.assign x)(h:A2J cx o.dst o.type KE (arg x)=some res):∃ e,KE e=some res∧N1 P fr arg o e:=by
 unfold A2J at h
 split at h
 ·rename_i ob hx
  cases hnl:B9K cx o.dst <;> rw [hnl] at h <;> simp only [cond_true,cond_false] at h
  rotate_left
  ·have:=N1.move (P:=P) (fr:=fr) (arg:=arg) hd ho
   rw [hx] at this
   exact ⟨_,h,this⟩
  split at h
  ·rename_i r hr
   split at h
   ·rename_i e he
    cases hb:B4C cx o.dst <;> rw [hb] at h <;> simp only [cond_true,cond_false] at h
    ·exact ⟨_,h,B0g hd ho hx⟩
    ·unfold B9H at h
     split at h
     ·rename_i t hdst
      exact ⟨_,h,B2v hd hdst ho hx⟩
     ·cases h
   ·cases h
  ·cases h
 ·rename_i v ob hn hx
  have:=N1.move (P:=P) (fr:=fr) (arg:=arg) hd ho
  rw [hx] at this
  exact ⟨_,h,this⟩
theorem B0j(hcf:T3 P cx){b:Builtin}{as:Array Operand}{ts:Array TypeId}(hd:F9 fr.n o.dst=true)(ho:o.op=.call { callee:=.builtin b,args:=as,argTypes:=ts })
  (h:B05 cx KE b ts.toList (as.toList.map arg)=some res):∃ e,KE e=some res∧N1 P fr arg o e:=by
 have one1:∀ {p:Arg},as.toList.map arg=[p]→∃ x,as=#[x]∧arg x=p:=by
  intro p hp
  obtain ⟨x,l,h1,h2,h3⟩:=List.map_eq_cons_iff.1 hp
  have:l=[]:=by simpa using h3
  subst this
  exact ⟨x,by apply Array.ext'; simpa using h1,h2⟩
 have two:∀ {p q:Arg},as.toList.map arg=[p,q]→∃ x y,as=#[x,y]∧arg x=p∧arg y=q:=by
  intro p q hp
  obtain ⟨x,l,h1,h2,h3⟩:=List.map_eq_cons_iff.1 hp
  obtain ⟨y,l2,h4,h5,h6⟩:=List.map_eq_cons_iff.1 h3
  have:l2=[]:=by simpa using h6
  subst this
  exact ⟨x,y,by apply Array.ext'; rw [h1,h4],h2,h5⟩
 have ty1:∀ {t:Nat},ts.toList=[t]→ts=#[t]:=fun e=>by apply Array.ext'; simpa using e
 unfold B05 at h
 split at h
 ·rename_i e l ob hargs
  obtain ⟨x,rfl,hx⟩:=one1 hargs
  split at h
  ·rename_i t ht
   obtain rfl:=ty1 ht
   cases hs:A2I cx t <;> rw [hs] at h <;> simp only [cond_true,cond_false,reduceCtorEq] at h
   exact ⟨_,h,A7x hcf hd ho hx hs fun M ρ s v hv=>A6K hv⟩
  ·cases h
 ·rename_i i e tid l hargs
  obtain ⟨x,rfl,hx⟩:=one1 hargs
  split at h
  ·rename_i t ht
   obtain rfl:=ty1 ht
   cases hs:A2I cx t <;> rw [hs] at h <;> simp only [cond_true,cond_false,reduceCtorEq] at h
   exact ⟨_,h,A7x hcf hd ho hx hs fun M ρ s v hv=>A7y hv⟩
  ·cases h
 ·rename_i i l ob hargs
  obtain ⟨x,rfl,hx⟩:=one1 hargs
  split at h
  ·rename_i t ht
   obtain rfl:=ty1 ht
   cases hs:A2I cx t <;> rw [hs] at h <;> simp only [cond_true,cond_false,reduceCtorEq] at h
   exact ⟨_,h,A7x hcf hd ho hx hs fun M ρ s v hv=>A8L hv⟩
  ·cases h
 ·rename_i p q hargs
  obtain ⟨x,y,rfl,rfl,rfl⟩:=two hargs
  unfold B9J at h
  split at h
  ·rename_i t t' ht
   cases hsl:C3I cx t' <;> rw [hsl] at h <;> simp only [cond_true,cond_false,reduceCtorEq] at h
   have hts:ts=#[t,t']:=by apply Array.ext'; simpa using ht
   subst hts
   split at h
   ·rename_i i e tid l hx
    split at h
    ·rename_i u m hy
     obtain ⟨he,h⟩:=A4b h
     subst he
     split at h
     ·rename_i rt r hrt hr
      cases hb:(decide (rt.ty=.slice e) && decide (r.ty=e) && Nat.beq rt.elem tid && K3 (l.length+List.length m) r.bytes) <;> rw [hb] at h <;> simp only [cond_true,cond_false,reduceCtorEq] at h
      simp only [Bool.and_eq_true,decide_eq_true_eq,B2] at hb
      exact ⟨_,h,B2t hcf hsl hd ho hx hy hrt hr hb.1.1.1 hb.1.1.2 hb.1.2 hb.2⟩
     ·cases h
    ·cases h
   ·rename_i i a b e tid l hx
    split at h
    ·rename_i j c d ob hy
     cases hb:(Nat.beq i j && Nat.beq a 0 && Nat.ble (b+(d - c)) l.length) <;> rw [hb] at h <;> simp only [cond_true,cond_false,reduceCtorEq] at h
     simp only [Bool.and_eq_true,B2,Nat.ble_eq] at hb
     obtain ⟨⟨rfl,rfl⟩,hfit⟩:=hb
     split at h
     ·rename_i rt r hrt hr
      cases hb:(decide (rt.ty=.slice e) && decide (r.ty=e) && Nat.beq rt.elem tid) <;> rw [hb] at h <;> simp only [cond_true,cond_false,reduceCtorEq] at h
      simp only [Bool.and_eq_true,decide_eq_true_eq,B2] at hb
      exact ⟨_,h,B4X hcf hsl hd ho hx hy hrt hr hb.1.1 hb.1.2 hb.2 hfit⟩
     ·cases h
    ·cases h
   ·cases h
  ·cases h
 ·rename_i p q hargs
  obtain ⟨x,y,rfl,rfl,rfl⟩:=two hargs
  exact B8y hcf hd ho h
 ·rename_i k m ox k' n oy hargs
  obtain ⟨x,y,rfl,hx,hy⟩:=two hargs
  split at h
  ·rename_i hk; subst hk
   exact ⟨_,h,C03 hd ho hx hy⟩
  ·cases h
 ·rename_i k m ox k' n oy hargs
  obtain ⟨x,y,rfl,hx,hy⟩:=two hargs
  split at h
  ·rename_i hk; subst hk
   exact ⟨_,h,C04 hd ho hx hy⟩
  ·cases h
 ·cases h
theorem B0k(hcf:T3 P cx){r:TyRow}{T:TypeId}{x:Operand}{t:Ty}{y:t.den}{ob:MObj}(hd:F9 fr.n o.dst=true)(ho:o.op=.makeInterface T x)(hr:cx.row? T=some r)(ht:t=r.ty)(ha:t.isAgg=true)(hz:t.sz=0)(hx:arg x=(.one (.d t y),ob)):N1 P fr arg o (one (.d .ifc (some T))):=by
 refine N1.of_value hd (fun M ρ s a w g hg=>?_) rfl rfl
 obtain ⟨cs,hf,hv⟩:=(g.arg' ((hg x (by rw [ho]; simp [Op.operands])).trans hx)).rel
 have hl:=hf.length
 rw [hz] at hl
 have hcs:cs=[]:=List.eq_nil_of_length_eq_zero hl
 subst hcs
 have hv':a.eval x=.agg #[]:=by rw [hv]; simp [C8,ha]
 have hu:∃ d,P.underlying T=some d∧∀ ms,d≠.interface ms:=by
  have hdesc:=(hcf _ _ hr).desc
  rw [← ht] at hdesc
  cases t <;> simp [Ty.isAgg] at ha
  all_goals
   obtain ⟨_,hu,_⟩:=hdesc
   exact ⟨_,hu,fun ms h=>by cases h⟩
 obtain ⟨d,hu,hne⟩:=hu
 have hrun:(Instr.makeInterface T (.agg #[])).run P w=.ok (.iface T (.agg #[])) w:=by
  unfold Instr.makeInterface
  simp only [Sem.run_bind,run_underlying hu,Result.andThen_ok]
  cases d <;> first | exact absurd rfl (hne _) | rfl
 exact ⟨.iface T (.agg #[]),by simp [execOp,ho,hv',hrun],[.iface T (.agg #[])],rfl,by simp [C8,Ty.isAgg]⟩
theorem B2z(hcf:T3 P cx)(hcalls:∀ f c,cx.call f=some c→A8G P f c)(hd:F9 fr.n o.dst=true)(h:B9T cx arg o.dst o.type KE o.op=some res):∃ e,KE e=some res∧N1 P fr arg o e:=by
 obtain ⟨op,hop⟩:∃ op,o.op=op:=⟨_,rfl⟩
 rw [hop] at h
 unfold B9T at h
 split at h
 ·exact A6p hd (.inl hop) h
 ·exact A6p hd (.inr hop) h
 ·split at h
  ·rename_i t oc hc
   have:=B8r (P:=P) hd hop hc
   cases t
   ·exact ⟨_,h,this⟩
   ·exact ⟨_,h,this⟩
  ·cases h
 ·split at h
  ·rename_i r hr; exact B4V hcf hd hop hr h
  ·cases h
 ·split at h
  ·rename_i r t v hr hx
   cases hb:decide (t=r.ty) <;> rw [hb] at h <;> simp only [cond_true,cond_false,reduceCtorEq] at h
   exact C07 hcf hd hop hr hx h
  ·cases h
 ·split at h
  ·rename_i r hr; exact B4U hcf hd hop hr h
  ·cases h
 ·split at h
  ·rename_i r hr
   split at h
   ·rename_i e he; exact A8N hcf hd hop hr he (fun h=>A6L hcf hd hop hr he h) h
   ·cases h
  ·cases h
 ·split at h
  ·rename_i r hr; exact B8s hcf hd hop hr h
  ·cases h
 ·split at h
  ·rename_i r hr; exact B4L hcf hd hop hr h
  ·cases h
 ·split at h
  ·rename_i i p ob hx; exact ⟨_,h,A4z hd hop hx (.inl ⟨i,p,rfl⟩)⟩
  ·rename_i t y ob hx; exact ⟨_,h,A4z hd hop hx (.inr ⟨t,y,rfl⟩)⟩
  ·cases h
 ·exact B4S hcf hd hop h
 ·exact B8q hd hop h
 ·split at h
  ·rename_i r r' k n ob hr hr' hx
   split at h
   ·rename_i k0 k2 h1 h2; exact ⟨_,h,B0a hcf hd hop hr hr' h1 h2 hx⟩
   ·cases h
  ·cases h
 ·rename_i f xs ys
  cases hb:(xs.isEmpty && ys.isEmpty) <;> rw [hb] at h <;> simp only [cond_true,cond_false,reduceCtorEq] at h
  simp only [Bool.and_eq_true,Array.isEmpty_iff] at hb
  exact ⟨_,h,A8K hd hop hb.1 hb.2⟩
 ·split at h
  ·rename_i r k1 n ox k2 m oy hr hx hy
   split at h
   ·rename_i e he
    split at h
    ·rename_i re hre
     cases hb:Y8 n m re.bytes <;> rw [hb] at h <;> simp only [cond_true,cond_false,reduceCtorEq] at h
     exact A7A hcf hd hop hr he hre hx hy hb h
    ·cases h
   ·cases h
  ·cases h
 ·rename_i t0 x0 lo0 hi0
  split at h
  ·rename_i r hr
   split at h
   ·rename_i e l ob hx
    cases hb:decide (r.ty=.slice e) <;> rw [hb] at h <;> simp only [cond_true,cond_false,reduceCtorEq] at h
    exact A7B hcf hd hop hr (of_decide_eq_true hb) (by rw [hx]; rfl) (fun m=>by rw [hx]; rfl) h
   ·rename_i i e t l hx
    cases hb:decide (r.ty=.slice e) <;> rw [hb] at h <;> simp only [cond_true,cond_false,reduceCtorEq] at h
    cases hc:C3K cx o.dst <;> rw [hc] at h <;> simp only [cond_true,cond_false] at h
    ·cases hlo:(B4C cx o.dst && lo0.isNone) <;> rw [hlo] at h <;> simp only [cond_true,cond_false] at h
     ·exact A7B hcf hd hop hr (of_decide_eq_true hb) (by rw [hx]; rfl) (fun m=>by rw [hx]; rfl) h
     ·simp only [Bool.and_eq_true,Option.isNone_iff_eq_none] at hlo
      obtain ⟨_,rfl⟩:=hlo
      exact B4W hcf hd hop hr (of_decide_eq_true hb) hx h
    ·exact B8v hcf hd hop hr (of_decide_eq_true hb) hx h
   ·rename_i i p ob hx
    cases hc:C3K cx o.dst <;> rw [hc] at h <;> simp only [cond_true,cond_false] at h
    ·exact C09 hcf hd hop hr hx h
    ·exact B8x hcf hd hop hr hx h
   ·cases h
  ·cases h
 ·split at h
  ·rename_i r hr; exact A7u hcf hd hop hr h
  ·cases h
 ·split at h
  ·rename_i r hr; exact B4P hcf hd hop hr h
  ·cases h
 ·split at h
  ·rename_i r hr; exact A7v hcf hd hop hr h
  ·cases h
 ·split at h
  ·rename_i r hr; exact B4Q hcf hd hop hr h
  ·cases h
 ·split at h
  ·rename_i r hr; exact B2u hcf hd hop hr h
  ·cases h
 ·split at h
  ·rename_i ms ob hx
   split at h
   ·rename_i m hm; exact ⟨_,h,B0b hd hop hx hm⟩
   ·cases h
  ·cases h
 ·rename_i c
  obtain ⟨cal,as,ts⟩:=c
  split at h
  ·rename_i f hcal
   have hcal':cal=.value f:=hcal
   subst hcal'
   exact B8B hcalls hd hop h
  ·rename_i b hcal
   have hcal':cal=.builtin b:=hcal
   subst hcal'
   exact B0j hcf hd hop h
  ·rename_i y name hcal
   have hcal':cal=.invoke y name:=hcal
   subst hcal'
   split at h
   ·rename_i ov ob hx; exact A3z hcf hcalls hd hop hx _ h
   ·cases h
 ·split at h
  ·rename_i r t' y ob hr hx
   cases hb:(decide (t'=r.ty) && r.ty.isAgg && Nat.beq r.ty.sz 0) <;> rw [hb] at h <;> simp only [cond_true,cond_false,reduceCtorEq] at h
   simp only [Bool.and_eq_true,decide_eq_true_eq,B2] at hb
   obtain ⟨⟨rfl,ha⟩,hz⟩:=hb
   exact ⟨_,h,B0k hcf hd hop hr rfl ha hz hx⟩
  ·cases h
 ·cases h
end
end Go.Eng
namespace Go.Eng
open Go.RowKit
structure Same (s s':St):Prop where
 get:∀ t,s'.get t=s.get t
 obj:∀ i,s'.obj i=s.obj i
theorem Same.refl(s:St):Same s s:=⟨fun _=>rfl,fun _=>rfl⟩
theorem Same.symm{s s':St}(h:Same s s'):Same s' s:=⟨fun t=>(h.get t).symm,fun t=>(h.obj t).symm⟩
theorem Same.trans{s s' s'':St}(h:Same s s')(k:Same s' s''):Same s s'':=⟨fun t=>(k.get t).trans (h.get t),fun t=>(k.obj t).trans (h.obj t)⟩
theorem Same.eval{s s':St}(h:Same s s')(x:Operand):s'.eval x=s.eval x:=by
 cases x <;> simp only [St.eval,h.get]
theorem Same.arg{s s':St}(h:Same s s')(x:Operand):s'.arg x=s.arg x:=by
 unfold St.arg
 rw [h.eval]
 split <;> simp [h.obj]
theorem Same.app{s s':St}(h:Same s s')(e:Eff)(dst:Option Nat):Same (e.app dst s) (e.app dst s') :=
 ⟨fun t=>by rw [Eff.get_app,Eff.get_app,h.get],fun i=>by rw [Eff.obj_app,Eff.obj_app,h.obj]⟩
theorem Same.put{s s':St}(h:Same s s')(t:Nat)(v:SV):Same (s.put t v) (s'.put t v) :=
 ⟨fun u=>by
  simp only [St.put,St.get,look]
  cases Nat.beq t u with
  | true=>rfl
  | false=>exact h.get u,fun i=>h.obj i⟩
theorem Good.same{fr:Frm}{M:Mem}{ρ:Nat→Place}{s s':St}{a:Act}{w:World}(g:Good fr M ρ s a w)(h:Same s s'):Good fr M ρ s' a w:=by
 have ho:s'.obj=s.obj:=funext h.obj
 refine ⟨fun t=>?_,g.size,g.defers,g.mem,g.old,?_,?_,g.since,g.keep⟩
 ·rw [ho,h.get]; exact g.env t
 ·rw [ho]; exact g.objs
 ·rw [ho]; exact g.apart
theorem St.same_put{s:St}{t:Nat}{v:SV}(h:s.get t=v):Same s (s.put t v) :=
 ⟨fun u=>by
  simp only [St.put,St.get,look]
  cases hb:Nat.beq t u with
  | true=>have:=(B2 _ _).1 hb; subst this; exact h.symm
  | false=>rfl,fun _=>rfl⟩
def A4P(ops:List Oper)(o:Oper)(s:St)(w:Bool):Prop :=
 match o.guard with
 | none=>w=true
 | some (j,want)=>∃ t,(ops[j]?).bind (·.dst)=some t∧t < 8192∧((∃ b,s.get t=.one (.d .bool b)∧w=(b == want))∨(s.get t=.one .und∧w=false))
theorem Good.bool{fr:Frm}{M:Mem}{ρ:Nat→Place}{s:St}{a:Act}{w:World}(g:Good fr M ρ s a w){t:Nat}{b:Bool}(hlt:t < 8192)(h:s.get t=.one (.d .bool b)):a.tmps.getD t undef=.bool b:=by
 have:=g.env t
 rw [Frm.val_lt hlt] at this
 rw [h] at this
 obtain ⟨cs,hf,e⟩:=this
 have hf':cs=[.bool b]:=hf
 subst hf'
 simpa [C8,Ty.isAgg] using e
theorem A4P.wanted{fr:Frm}{M:Mem}{ρ:Nat→Place}{s:St}{a:Act}{w:World}(g:Good fr M ρ s a w){ops:Array Oper}{o:Oper}{b:Bool}(h:A4P ops.toList o s b) :
  Region.wanted o (yielded ops a.tmps)=b:=by
 unfold A4P at h
 unfold Region.wanted
 split at h
 ·rename_i hg; simp only [hg]; exact h.symm
 ·rename_i j want hg
  obtain ⟨t,ht,hlt,h⟩:=h
  have ht':((ops[j]?).bind (·.dst))=some t:=by simpa using ht
  simp only [hg]
  rcases h with ⟨c,hv,rfl⟩ | ⟨hv,rfl⟩
  ·have hb:=g.bool hlt hv
   have hx:a.tmps[t]?=some (.bool c):=by
    cases hx:a.tmps[t]? with
    | some v=>simp only [Array.getD_eq_getD_getElem?,hx,Option.getD_some] at hb; rw [hb]
    | none=>simp only [Array.getD_eq_getD_getElem?,hx,Option.getD_none] at hb; cases hb
   simp [yielded,ht',hx]
  ·have hu:=g.env t
   rw [Frm.val_lt hlt,hv] at hu
   have hu':a.tmps.getD t undef=undef:=hu
   cases hx:a.tmps[t]? with
   | none=>simp [yielded,ht',hx]
   | some v =>
    simp only [Array.getD_eq_getD_getElem?,hx,Option.getD_some] at hu'
    subst hu'
    simp [yielded,ht',hx,undef]
theorem A4P.same{s s':St}(h:Same s s'){ops:List Oper}{o:Oper}{b:Bool}(k:A4P ops o s b):A4P ops o s' b:=by
 unfold A4P at *
 split at k
 ·exact k
 ·obtain ⟨t,h1,hlt,h2⟩:=k
  exact ⟨t,h1,hlt,by rw [h.get]; exact h2⟩
theorem A7D{R:Type}{ops:List Oper}{o:Oper}{s:St}{yes no:St→Option R}{res:R}(h:B5V ops o s yes no=some res) :
  ∃ s',Same s s'∧((A4P ops o s true∧yes s'=some res)∨(A4P ops o s false∧no s'=some res)):=by
 unfold B5V at h
 unfold A4P
 split at h
 ·rename_i hg; simp only [hg]; exact ⟨s,.refl s,.inl ⟨trivial,h⟩⟩
 ·rename_i j want hg
  simp only [hg]
  split at h
  ·rename_i t ht
   cases hb8:Nat.blt t 8192 <;> rw [hb8] at h <;> simp only [cond_true,cond_false,reduceCtorEq] at h
   have hlt:t < 8192:=by simpa [Nat.blt_eq] using hb8
   split at h
   ·rename_i hv
    exact ⟨s,.refl s,.inr ⟨⟨t,ht,hlt,.inr ⟨hv,trivial⟩⟩,h⟩⟩
   ·rename_i b hv
    cases b
    ·simp only [cond_false] at h
     refine ⟨_,St.same_put hv,?_⟩
     cases want
     ·exact .inl ⟨⟨t,ht,hlt,.inl ⟨false,hv,rfl⟩⟩,h⟩
     ·exact .inr ⟨⟨t,ht,hlt,.inl ⟨false,hv,rfl⟩⟩,h⟩
    ·simp only [cond_true] at h
     refine ⟨_,St.same_put hv,?_⟩
     cases want
     ·exact .inr ⟨⟨t,ht,hlt,.inl ⟨true,hv,rfl⟩⟩,h⟩
     ·exact .inl ⟨⟨t,ht,hlt,.inl ⟨true,hv,rfl⟩⟩,h⟩
   ·cases h
  ·cases h
theorem A7E(o:Oper)(s:St):A94 o s=({ val:=.one .und }:Eff).app o.dst s:=by
 unfold A94 Eff.app
 cases o.dst <;> rfl
theorem Good.skip{fr:Frm}{M:Mem}{ρ:Nat→Place}{s:St}{a:Act}{w:World}(g:Good fr M ρ s a w){o:Oper}(hd:F9 fr.n o.dst=true):Good fr M ρ (A94 o s) (a.put o.dst undef) w:=by
 rw [A7E]
 exact g.pure hd rfl
section
variable {P:Program} {cx:Cx} {fr:Frm} {R:Type} {res:R}
theorem B2A(hcf:T3 P cx)(hcalls:∀ f c,cx.call f=some c→A8G P f c)(hn:cx.ntmps=fr.n){o:Oper}{s:St}{K:Eff→St→Option R}(h:opK cx o s K=some res) :
  F9 fr.n o.dst=true∧∃ e,K e (e.app o.dst s)=some res∧N1 P fr s.arg o e:=by
 unfold opK at h
 cases hd:F9 cx.ntmps o.dst <;> rw [hd] at h <;> simp only [cond_true,cond_false,reduceCtorEq] at h
 rw [hn] at hd
 exact ⟨hd,B2z hcf hcalls hd h⟩
theorem A7F(hcf:T3 P cx)(hcalls:∀ f c,cx.call f=some c→A8G P f c)(hn:cx.ntmps=fr.n){ops:Array Oper}{K:St→Option R}{Q:Exit→Act→World→Prop}
  (hQ:∀ M ρ s a w,Good fr M ρ s a w→K s=some res→Q .normal a w) :
  ∀ (l:List Oper) (k:Nat),ops.toList.drop k=l→∀ {M ρ s a w},Good fr M ρ s a w→D0u cx ops.toList l s K=some res→wpOps P ops Q (List.range' k l.length) a w
 | [],_,_,_,_,_,_,_,g,h=>by simp only [List.length_nil,List.range'_zero,wpOps]; exact hQ _ _ _ _ _ g h
 | o::l,k,hk,M,ρ,s,a,w,g,h=>by
  have ho:ops[k]?=some o:=by
   have h0:(ops.toList.drop k)[0]?=some o:=by rw [hk]; rfl
   simpa using h0
  have hl:ops.toList.drop (k+1)=l:=by rw [← List.drop_drop,hk]; rfl
  simp only [List.length_cons,List.range'_succ,wpOps,ho]
  simp only [D0u] at h
  obtain ⟨s',hs,⟨hw,hy⟩ | ⟨hw,hy⟩⟩:=A7D h
  ·rw [hw.wanted g]
   simp only [if_true]
   obtain ⟨hd,e,hK,hdo⟩:=B2A hcf hcalls hn hy
   refine .inl (Oper.wp_mono ?_ (hdo M ρ s' a w Q (g.same hs) fun _ _=>rfl))
   rintro a' w' ⟨M',ρ',g'⟩
   exact A7F hcf hcalls hn hQ l (k+1) hl g' hK
  ·rw [hw.wanted g]
   simp only [Bool.false_eq_true,if_false]
   cases hd:F9 cx.ntmps o.dst <;> rw [hd] at hy <;> simp only [cond_true,cond_false,reduceCtorEq] at hy
   rw [hn] at hd
   exact A7F hcf hcalls hn hQ l (k+1) hl ((g.same hs).skip hd) hy
theorem B2B(hcf:T3 P cx)(hcalls:∀ f c,cx.call f=some c→A8G P f c)(hn:cx.ntmps=fr.n){id:Nat}{ops:Array Oper}{K:St→Option R}{Q:Exit→Act→World→Prop}
  (hQ:∀ M ρ s a w,Good fr M ρ s a w→K s=some res→Q .normal a w) {M ρ s a w} (g:Good fr M ρ s a w) (h:D0u cx ops.toList ops.toList s K=some res):(Code.region id ops false).wp P Q a w:=by
 refine wp_region ?_
 have:=A7F hcf hcalls hn hQ ops.toList 0 rfl g h
 simpa [List.range_eq_range'] using this
end
end Go.Eng
namespace Go.Eng
open Go.RowKit
theorem A0j(t i:Nat):(Nat.shiftLeft 1 t).testBit i=decide (i=t):=by
 show(1 <<< t).testBit i=_
 rw [Nat.testBit_shiftLeft]
 by_cases h:i=t
 ·subst h; simp
 ·rcases Nat.lt_or_ge i t with h2 | h2
  ·simp [Nat.not_le.2 h2,h]
  ·have:i - t≠0:=by omega
   obtain ⟨k,hk⟩:=Nat.exists_eq_succ_of_ne_zero this
   rw [hk]
   simp [h,Nat.testBit_succ]
theorem A0w{l:List Nat}{t:Nat}:(A4O l).testBit t=true↔t∈l:=by
 induction l with
 | nil=>simp [A4O]
 | cons x l ih =>
  show(Nat.lor (Nat.shiftLeft 1 x) (A4O l)).testBit t=true↔_
  rw [show Nat.lor (Nat.shiftLeft 1 x) (A4O l)=(Nat.shiftLeft 1 x) ||| (A4O l) from rfl,Nat.testBit_or,A0j]
  simp [ih]
theorem A2X(a b i:Nat):(Nat.lor a b).testBit i=(a.testBit i || b.testBit i):=Nat.testBit_or a b i
theorem A13{a b i:Nat}(h:B2h a b=true)(ha:a.testBit i=true)(hb:b.testBit i=true):False:=by
 have h0:a &&& b=0:=(B2 _ _).1 h
 have h1:=Nat.testBit_and a b i
 rw [h0,ha,hb] at h1
 simp at h1
theorem MV.repl_none{m:MV}{id:Nat}{y:MV}(h:id ∉ m.ids):m.repl id y=m:=by
 cases m with
 | own i =>
  simp only [MV.ids,List.mem_singleton] at h
  have:Nat.beq i id=false:=by
   cases hb:Nat.beq i id with
   | false=>rfl
   | true=>exact absurd ((B2 _ _).1 hb).symm h
  simp [MV.repl,this]
 | pa i p =>
  simp only [MV.ids,List.mem_singleton] at h
  have:Nat.beq i id=false:=by
   cases hb:Nat.beq i id with
   | false=>rfl
   | true=>exact absurd ((B2 _ _).1 hb).symm h
  simp [MV.repl,this]
 | cut i p q =>
  simp only [MV.ids,List.mem_singleton] at h
  have:Nat.beq i id=false:=by
   cases hb:Nat.beq i id with
   | false=>rfl
   | true=>exact absurd ((B2 _ _).1 hb).symm h
  simp [MV.repl,this]
 | vw i p q =>
  simp only [MV.ids,List.mem_singleton] at h
  have:Nat.beq i id=false:=by
   cases hb:Nat.beq i id with
   | false=>rfl
   | true=>exact absurd ((B2 _ _).1 hb).symm h
  simp [MV.repl,this]
 | vp i p q =>
  simp only [MV.ids,List.mem_singleton] at h
  have:Nat.beq i id=false:=by
   cases hb:Nat.beq i id with
   | false=>rfl
   | true=>exact absurd ((B2 _ _).1 hb).symm h
  simp [MV.repl,this]
 | ps i p =>
  simp only [MV.ids,List.mem_singleton] at h
  have:Nat.beq i id=false:=by
   cases hb:Nat.beq i id with
   | false=>rfl
   | true=>exact absurd ((B2 _ _).1 hb).symm h
  simp [MV.repl,this]
 | pq i p =>
  simp only [MV.ids,List.mem_singleton] at h
  have:Nat.beq i id=false:=by
   cases hb:Nat.beq i id with
   | false=>rfl
   | true=>exact absurd ((B2 _ _).1 hb).symm h
  simp [MV.repl,this]
 | _=>rfl
theorem MV.ids_repl{m:MV}{id:Nat}{y:MV}(hy:y.id?=none):∀ i∈(m.repl id y).ids,i∈m.ids:=by
 have hy':y.ids=[]:=by cases y <;> simp_all [MV.id?,MV.ids]
 intro i hi
 cases m with
 | own j=>cases hb:Nat.beq j id <;> simp only [MV.repl,hb,cond_true,cond_false] at hi <;> simp_all
 | pa j p=>cases hb:Nat.beq j id <;> simp only [MV.repl,hb,cond_true,cond_false] at hi <;> simp_all [MV.ids]
 | cut j p q=>cases hb:Nat.beq j id <;> simp only [MV.repl,hb,cond_true,cond_false] at hi <;> simp_all [MV.ids]
 | vw j p q=>cases hb:Nat.beq j id <;> simp only [MV.repl,hb,cond_true,cond_false] at hi <;> simp_all [MV.ids]
 | vp j p q=>cases hb:Nat.beq j id <;> simp only [MV.repl,hb,cond_true,cond_false] at hi <;> simp_all [MV.ids]
 | ps j p=>cases hb:Nat.beq j id <;> simp only [MV.repl,hb,cond_true,cond_false] at hi <;> simp_all [MV.ids]
 | pq j p=>cases hb:Nat.beq j id <;> simp only [MV.repl,hb,cond_true,cond_false] at hi <;> simp_all [MV.ids]
 | _=>exact hi
theorem MV.repl_comm{m:MV}{i j:Nat}{y z:MV}(h:i≠j)(hy:y.id?=none)(hz:z.id?=none):(m.repl i y).repl j z=(m.repl j z).repl i y:=by
 have none:∀ {u:MV} (k:Nat) (v:MV),u.id?=none→u.repl k v=u:=fun {u} k v hu=>MV.repl_none (by cases u <;> simp_all [MV.id?,MV.ids])
 cases m with
 | own k =>
  cases h1:Nat.beq k i <;> cases h2:Nat.beq k j <;> simp only [MV.repl,h1,h2,cond_true,cond_false]
  ·exact(none i y hz).symm
  ·exact none j z hy
  ·exact absurd (((B2 _ _).1 h1).symm.trans ((B2 _ _).1 h2)) h
 | pa k p =>
  cases h1:Nat.beq k i <;> cases h2:Nat.beq k j <;> simp only [MV.repl,h1,h2,cond_true,cond_false]
 | cut k p q =>
  cases h1:Nat.beq k i <;> cases h2:Nat.beq k j <;> simp only [MV.repl,h1,h2,cond_true,cond_false]
 | vw k p q =>
  cases h1:Nat.beq k i <;> cases h2:Nat.beq k j <;> simp only [MV.repl,h1,h2,cond_true,cond_false]
 | vp k p q =>
  cases h1:Nat.beq k i <;> cases h2:Nat.beq k j <;> simp only [MV.repl,h1,h2,cond_true,cond_false]
 | ps k p =>
  cases h1:Nat.beq k i <;> cases h2:Nat.beq k j <;> simp only [MV.repl,h1,h2,cond_true,cond_false]
 | pq k p =>
  cases h1:Nat.beq k i <;> cases h2:Nat.beq k j <;> simp only [MV.repl,h1,h2,cond_true,cond_false]
 | _=>rfl
theorem C3V{α:Type}{f:α→α}(l:List α)(h:∀ x∈l,f x=x):l.map f=l:=by
 induction l with
 | nil=>rfl
 | cons x l ih=>simp only [List.map_cons]; rw [h x (by simp),ih fun y hy=>h y (by simp [hy])]
theorem SV.repl_none{v:SV}{id:Nat}{y:MV}(h:id ∉ v.ids):v.repl id y=v:=by
 cases v with
 | one m=>simp only [SV.repl]; rw [MV.repl_none h]
 | tup ms =>
  simp only [SV.repl,SV.tup.injEq]
  simp only [SV.ids,List.mem_flatMap,not_exists,not_and] at h
  exact C3V _ fun m hm=>MV.repl_none (h m hm)
theorem SV.ids_repl{v:SV}{id:Nat}{y:MV}(hy:y.id?=none):∀ i∈(v.repl id y).ids,i∈v.ids:=by
 cases v with
 | one m=>exact MV.ids_repl hy
 | tup ms =>
  intro i hi
  simp only [SV.repl,SV.ids,List.mem_flatMap,List.mem_map] at hi ⊢
  obtain ⟨_,⟨m,hm,rfl⟩,h2⟩:=hi
  exact ⟨m,hm,MV.ids_repl hy i h2⟩
theorem SV.repl_comm{v:SV}{i j:Nat}{y z:MV}(h:i≠j)(hy:y.id?=none)(hz:z.id?=none):(v.repl i y).repl j z=(v.repl j z).repl i y:=by
 cases v with
 | one m=>simp only [SV.repl]; rw [MV.repl_comm h hy hz]
 | tup ms=>simp only [SV.repl,List.map_map,SV.tup.injEq]; exact List.map_congr_left fun m _=>MV.repl_comm h hy hz
def A4C(r:List (Nat×MV)):Prop:=∀ x∈r,x.2.id?=none
theorem SV.reps_none{v:SV}:∀ {r:List (Nat×MV)},(∀ x∈r,x.1 ∉ v.ids)→v.reps r=v
 | [],_=>rfl
 | (i,y)::r,h=>by
  show(v.repl i y).reps r=v
  rw [SV.repl_none (h (i,y) (by simp))]
  exact SV.reps_none fun x hx=>h x (by simp [hx])
theorem SV.ids_reps{v:SV}:∀ {r:List (Nat×MV)},A4C r→∀ i∈(v.reps r).ids,i∈v.ids:=by
 intro r
 induction r generalizing v with
 | nil=>intro _ i hi; exact hi
 | cons x r ih =>
  intro h i hi
  exact SV.ids_repl (h x (by simp)) i (ih (v:=v.repl x.1 x.2) (fun y hy=>h y (by simp [hy])) i hi)
theorem SV.reps_repl{v:SV}:∀ {r:List (Nat×MV)} {i:Nat} {y:MV},(∀ x∈r,x.1≠i)→A4C r→y.id?=none→(v.repl i y).reps r=(v.reps r).repl i y:=by
 intro r
 induction r generalizing v with
 | nil=>intro i y _ _ _; rfl
 | cons x r ih =>
  intro i y h hp hy
  show((v.repl i y).repl x.1 x.2).reps r=((v.repl x.1 x.2).reps r).repl i y
  rw [SV.repl_comm (fun e=>h x (by simp) e.symm) hy (hp x (by simp))]
  exact ih (fun z hz=>h z (by simp [hz])) (fun z hz=>hp z (by simp [hz])) hy
theorem SV.reps_comm{v:SV}:∀ {r q:List (Nat×MV)},(∀ x∈r,∀ y∈q,x.1≠y.1)→A4C r→A4C q→(v.reps r).reps q=(v.reps q).reps r:=by
 intro r
 induction r generalizing v with
 | nil=>intro q _ _ _; rfl
 | cons x r ih =>
  intro q h hr hq
  show((v.repl x.1 x.2).reps r).reps q=((v.reps q).repl x.1 x.2).reps r
  rw [ih (fun y hy=>h y (by simp [hy])) (fun y hy=>hr y (by simp [hy])) hq,SV.reps_repl (fun y hy e=>h x (by simp) y hy e.symm) hq (hr x (by simp))]
theorem A6q{l:List (Nat×MObj)}{i:Nat}(h:i ∉ l.map (·.1)):E7 l i=none:=by
 induction l with
 | nil=>rfl
 | cons x l ih =>
  simp only [List.map_cons,List.mem_cons,not_or] at h
  have:Nat.beq x.1 i=false:=by
   cases hb:Nat.beq x.1 i with
   | false=>rfl
   | true=>exact absurd ((B2 _ _).1 hb).symm h.1
  simp only [E7,List.map_cons,look,this,cond_false]
  exact ih h.2
theorem A4Q{l:List (Nat×MObj)}{i:Nat}{x:MObj}(h:E7 l i=some x):i∈l.map (·.1):=by
 by_cases hm:i∈l.map (·.1)
 ·exact hm
 ·rw [A6q hm] at h; cases h
section
variable {env:List (Nat×SV)} {rs:List Rec}
theorem Rec.mk'_dst{r:Rec}{t:Nat}:(r.mk' env rs).dst.testBit t=true↔r.dst=some t:=by
 show r.dstM.testBit t=true↔_
 unfold Rec.dstM
 cases r.dst with
 | none=>simp
 | some d=>simp only [A0j,decide_eq_true_eq,Option.some.injEq]; exact eq_comm
theorem Rec.mk'_rd{r:Rec}{t:Nat}:(r.mk' env rs).rd.testBit t=true↔t∈r.rd:=A0w
theorem Rec.mk'_wids{r:Rec}{i:Nat}:(r.mk' env rs).wids.testBit i=true↔i∈r.e.rep.map (·.1)∨i∈r.e.objs.map (·.1):=by
 show r.wids.testBit i=true↔_
 unfold Rec.wids Rec.rep
 rw [A2X,Bool.or_eq_true,A0w,A0w]
theorem Rec.mk'_ids{r:Rec}{i:Nat}:(r.mk' env rs).ids.testBit i=true↔i∈r.ids:=A0w
theorem Rec.mk'_vids{r:Rec}{i:Nat}:(r.mk' env rs).vids.testBit i=true↔i∈r.e.val.ids:=A0w
theorem Rec.mk'_reps{r:Rec}{i:Nat}:(r.mk' env rs).reps.testBit i=true↔i∈r.e.rep.map (·.1):=A0w
theorem A7G{rep:Nat}:∀ {l:List (Nat×SV)} {t:Nat} {v:SV} {i:Nat},(t,v)∈l→i∈v.ids→rep.testBit i=true→(B9U rep l).testBit t=true
 | (u,x)::l,t,v,i,hm,hi,hr=>by
  unfold B9U
  cases hb:B2h (A4O x.ids) rep with
  | true =>
   simp only [cond_true]
   rcases List.mem_cons.1 hm with h | h
   ·cases h; exact(A13 hb (A0w.2 hi) hr).elim
   ·exact A7G h hi hr
  | false =>
   simp only [cond_false,A2X,Bool.or_eq_true]
   rcases List.mem_cons.1 hm with h | h
   ·cases h; exact .inl (by simp [A0j])
   ·exact .inr (A7G h hi hr)
theorem A7H{rep:Nat}:∀ {l:List Rec} {r:Rec} {t i:Nat},r∈l→r.dst=some t→i∈r.e.val.ids→rep.testBit i=true→(B9V rep l).testBit t=true
 | x::l,r,t,i,hm,hd,hi,hr=>by
  unfold B9V
  cases hb:B2h (A4O x.e.val.ids) rep with
  | true =>
   simp only [cond_true]
   rcases List.mem_cons.1 hm with h | h
   ·subst h; exact(A13 hb (A0w.2 hi) hr).elim
   ·exact A7H h hd hi hr
  | false =>
   simp only [cond_false,A2X,Bool.or_eq_true]
   rcases List.mem_cons.1 hm with h | h
   ·subst h; exact .inl (by simp [Rec.dstM,hd,A0j])
   ·exact .inr (A7H h hd hi hr)
end
def A8O(s0:St)(rs:List Rec)(s:St):Prop:=∀ t i,i∈(s.get t).ids→i∈(s0.get t).ids∨∃ r∈rs,r.dst=some t∧i∈r.e.val.ids
theorem A8O.start(s0:St)(rs:List Rec):A8O s0 rs s0:=fun _ _ h=>.inl h
theorem A8O.app{s0:St}{rs:List Rec}{s:St}(h:A8O s0 rs s){r:Rec}(hr:r∈rs)(hp:A4C r.e.rep):A8O s0 rs (r.e.app r.dst s):=by
 intro t i hi
 rw [Eff.get_app] at hi
 split at hi
 ·rename_i hd; exact .inr ⟨r,hr,hd,hi⟩
 ·exact h t i (SV.ids_reps hp i hi)
theorem B67{α:Type}{d:α}:∀ {l:List (Nat×α)} {t:Nat},look d l t=d∨(t,look d l t)∈l
 | [],_=>.inl rfl
 | (k,x)::l,t=>by
  unfold look
  cases hb:Nat.beq k t with
  | true=>have:=(B2 _ _).1 hb; subst this; exact .inr (by simp)
  | false =>
   simp only [cond_false]
   rcases B67 (d:=d) (l:=l) (t:=t) with h | h
   ·exact .inl h
   ·exact .inr (by simp [h])
theorem A8O.hits{s0:St}{rs:List Rec}{s:St}(h:A8O s0 rs s){r:Rec}{t i:Nat}(hi:i∈(s.get t).ids)(hr:i∈r.e.rep.map (·.1)):(r.mk' s0.env rs).hits.testBit t=true:=by
 show(B4F s0.env rs r.rep).testBit t=true
 have hb:r.rep.testBit i=true:=A0w.2 hr
 have h0:Nat.beq r.rep 0=false:=by
  cases hz:Nat.beq r.rep 0 with
  | false=>rfl
  | true=>rw [(B2 _ _).1 hz] at hb; simp at hb
 unfold B4F
 rw [h0]
 simp only [cond_false,A2X,Bool.or_eq_true]
 rcases h t i hi with h | ⟨x,hx,hd,hv⟩
 ·refine .inl ?_
  rcases B67 (d:=SV.one .dead) (l:=s0.env) (t:=t) with h2 | h2
  ·have h3:s0.get t=.one .dead:=h2
   rw [h3] at h; simp [SV.ids,MV.ids] at h
  ·exact A7G h2 h hb
 ·exact .inr (A7H hx hd hv hb)
structure Agree (rd ids:List Nat) (s s':St):Prop where
 get:∀ t∈rd,s'.get t=s.get t
 obj:∀ i∈ids,s'.obj i=s.obj i
theorem Agree.app{rd ids:List Nat}{s s':St}(h:Agree rd ids s s')(e:Eff)(dst:Option Nat):Agree rd ids (e.app dst s) (e.app dst s') :=
 ⟨fun t ht=>by rw [Eff.get_app,Eff.get_app,h.get t ht],fun i hi=>by rw [Eff.obj_app,Eff.obj_app,h.obj i hi]⟩
theorem Agree.symm{rd ids:List Nat}{s s':St}(h:Agree rd ids s s'):Agree rd ids s' s:=⟨fun t ht=>(h.get t ht).symm,fun i hi=>(h.obj i hi).symm⟩
theorem Agree.trans{rd ids:List Nat}{s s' s'':St}(h:Agree rd ids s s')(k:Agree rd ids s' s''):Agree rd ids s s'' :=
 ⟨fun t ht=>(k.get t ht).trans (h.get t ht),fun i hi=>(k.obj i hi).trans (h.obj i hi)⟩
theorem B2C{a b:Nat}(h:B2h a b=true):B2h b a=true:=by
 have h0:a &&& b=0:=(B2 _ _).1 h
 exact(B2 _ _).2 (by rw [show b.land a=b &&& a from rfl,Nat.and_comm]; exact h0)
theorem A4S{x y:RecM}(h:A2w x y=true):A2w y x=true:=by
 simp only [A2w,Bool.and_eq_true] at *
 obtain ⟨⟨⟨⟨⟨⟨⟨⟨⟨h1,h2⟩,h3⟩,h4⟩,h5⟩,h6⟩,h7⟩,h8⟩,h9⟩,h10⟩:=h
 exact ⟨⟨⟨⟨⟨⟨⟨⟨⟨h2,h1⟩,B2C h3⟩,h5⟩,h4⟩,h7⟩,h6⟩,h9⟩,h8⟩,B2C h10⟩
theorem Agree.quiet{s0 s:St}{rs:List Rec}{x y:Rec}(hk:A8O s0 rs s)(h:A2w (x.mk' s0.env rs) (y.mk' s0.env rs)=true):Agree y.rd y.ids s (x.e.app x.dst s):=by
 simp only [A2w,Bool.and_eq_true] at h
 obtain ⟨⟨⟨⟨⟨⟨⟨⟨⟨h1,h2⟩,h3⟩,h4⟩,h5⟩,h6⟩,h7⟩,h8⟩,h9⟩,h10⟩:=h
 refine ⟨fun t ht=>?_,fun i hi=>?_⟩
 ·rw [Eff.get_app]
  split
  ·rename_i hd
   exact(A13 h1 (Rec.mk'_dst.2 hd) (Rec.mk'_rd.2 ht)).elim
  ·refine SV.reps_none fun z hz hm=>?_
   exact A13 h7 (Rec.mk'_rd.2 ht) (hk.hits hm (List.mem_map_of_mem hz))
 ·rw [Eff.obj_app]
  cases hn:E7 x.e.objs i with
  | none=>rfl
  | some z=>exact(A13 h5 (Rec.mk'_ids.2 hi) (Rec.mk'_wids.2 (.inr (A4Q hn)))).elim
theorem C3W{s:St}{env:List (Nat×SV)}{rs:List Rec}{x y:Rec}(h:A2w (x.mk' env rs) (y.mk' env rs)=true)(hx:A4C x.e.rep)(hy:A4C y.e.rep) :
  Same (x.e.app x.dst (y.e.app y.dst s)) (y.e.app y.dst (x.e.app x.dst s)):=by
 simp only [A2w,Bool.and_eq_true] at h
 obtain ⟨⟨⟨⟨⟨⟨⟨⟨⟨h1,h2⟩,h3⟩,h4⟩,h5⟩,h6⟩,h7⟩,h8⟩,h9⟩,h10⟩:=h
 have hrep:∀ p∈x.e.rep,∀ q∈y.e.rep,p.1≠q.1:=fun p hp q hq e =>
  A13 h10 (Rec.mk'_wids.2 (.inl (List.mem_map_of_mem hp))) (Rec.mk'_wids.2 (.inl (e ▸ List.mem_map_of_mem hq)))
 refine ⟨fun t=>?_,fun i=>?_⟩
 ·simp only [Eff.get_app]
  by_cases hxd:x.dst=some t
  ·have hyd:y.dst≠some t:=fun hyd=>A13 h3 (Rec.mk'_dst.2 hxd) (Rec.mk'_dst.2 hyd)
   simp only [hxd,hyd,if_true,if_false]
   exact SV.reps_none fun z hz hm=>A13 h8 (Rec.mk'_vids.2 hm) (Rec.mk'_reps.2 (List.mem_map_of_mem hz))
  ·by_cases hyd:y.dst=some t
   ·simp only [hxd,hyd,if_true,if_false]
    exact(SV.reps_none fun z hz hm=>A13 h9 (Rec.mk'_vids.2 hm) (Rec.mk'_reps.2 (List.mem_map_of_mem hz))).symm
   ·simp only [hxd,hyd,if_false]
    exact SV.reps_comm hrep hx hy
 ·simp only [Eff.obj_app]
  cases hx:E7 x.e.objs i with
  | none=>rfl
  | some a =>
   cases hy:E7 y.e.objs i with
   | none=>rfl
   | some b=>exact(A13 h10 (Rec.mk'_wids.2 (.inr (A4Q hx))) (Rec.mk'_wids.2 (.inr (A4Q hy)))).elim
end Go.Eng
namespace Go.Eng
open Go.RowKit
theorem D0L(pre j:Nat)(h:(!Nat.beq (Nat.land (Nat.shiftRight pre j) 1) 0)=true):pre.testBit j=true:=by
 have h1:Nat.beq ((pre >>> j) &&& 1) 0=false:=by simpa using h
 unfold Nat.testBit
 rw [Nat.and_comm,bne_iff_ne]
 intro e
 rw [e] at h1
 cases h1
theorem A9d{pre:Nat}{y:RecM}:∀ {l:List RecM} {j0:Nat},B5W pre y j0 l=true→∀ {j:Nat} {x:RecM},l[j]?=some x→A2w x y=true∨pre.testBit (j0+j)=true
 | z::l,j0,h,j,x,hx=>by
  simp only [B5W,Bool.and_eq_true,Bool.or_eq_true] at h
  cases j with
  | zero =>
   simp only [List.getElem?_cons_zero,Option.some.injEq] at hx
   subst hx
   exact h.1.imp id fun h=>D0L pre j0 h
  | succ j =>
   have:=A9d h.2 (j:=j) (x:=x) (by simpa using hx)
   rwa [Nat.add_assoc,Nat.add_comm 1 j] at this
theorem A7I{pres:List Nat}:∀ {l done:List RecM},B06 pres done l=true→∀ {k:Nat} {y:RecM},l[k]?=some y→∀ {j:Nat} {x:RecM},j < done.length+k→(done++l)[j]?=some x →
  A2w x y=true∨(pres.getD (done.length+k) 0).testBit j=true
 | z::l,done,h,k,y,hy,j,x,hj,hx=>by
  simp only [B06,Bool.and_eq_true] at h
  cases k with
  | zero =>
   simp only [List.getElem?_cons_zero,Option.some.injEq] at hy
   subst hy
   have hx':done[j]?=some x:=by rwa [List.getElem?_append_left (by simpa using hj)] at hx
   have:=A9d h.1 hx'
   simpa using this
  | succ k =>
   have:=A7I h.2 (k:=k) (y:=y) (by simpa using hy) (j:=j) (x:=x) (by simp; omega) (by simpa using hx)
   rw [show(done++[z]).length+k=done.length+(k+1) by simp; omega] at this
   exact this
def C0a(acc:List Nat)(done:List Oper):Prop :=
 acc.length=done.length∧∀ k o,done[k]?=some o→∀ i,(acc.getD k 0).testBit i=true→∃ e∈o.after,Region.binds .any e=true∧(i=e.on∨(acc.getD e.on 0).testBit i=true)
theorem B2D{acc:List Nat}:∀ {l:List Edge} {m i:Nat},(l.foldl (fun m e=>bif Region.binds .any e then Nat.lor m (Nat.lor (Nat.shiftLeft 1 e.on) (acc.getD e.on 0)) else m) m).testBit i=true →
  m.testBit i=true∨∃ e∈l,Region.binds .any e=true∧(i=e.on∨(acc.getD e.on 0).testBit i=true)
 | [],m,i,h=>.inl h
 | e::l,m,i,h=>by
  rw [List.foldl_cons] at h
  rcases B2D h with h | ⟨e',he,h⟩
  ·cases hb:Region.binds .any e with
   | false=>rw [hb] at h; exact .inl h
   | true =>
    rw [hb] at h
    simp only [cond_true,A2X,Bool.or_eq_true,A0j,decide_eq_true_eq] at h
    rcases h with h | h
    ·exact .inl h
    ·exact .inr ⟨e,by simp,hb,h⟩
  ·exact .inr ⟨e',by simp [he],h⟩
theorem A7J:∀ {l:List Oper} {acc:List Nat} {done:List Oper},C0a acc done→C0a (Z1 l acc) (done++l)
 | [],acc,done,h=>by simpa [Z1] using h
 | o::l,acc,done,h=>by
  have h2:C0a (acc++[C3L acc o]) (done++[o]):=by
   have mono:∀ k i,(acc.getD k 0).testBit i=true→((acc++[C3L acc o]).getD k 0).testBit i=true:=by
    intro k i hi
    rcases Nat.lt_or_ge k acc.length with hk | hk
    ·simp only [List.getD_eq_getElem?_getD] at hi ⊢
     rw [List.getElem?_append_left hk]; exact hi
    ·simp [List.getElem?_eq_none hk] at hi
   refine ⟨by simp [h.1],fun k p hp i hi=>?_⟩
   rcases Nat.lt_or_ge k done.length with hk | hk
   ·have hp':done[k]?=some p:=by rwa [List.getElem?_append_left hk] at hp
    have hi':(acc.getD k 0).testBit i=true:=by
     simp only [List.getD_eq_getElem?_getD] at hi ⊢
     rwa [List.getElem?_append_left (by rw [h.1]; exact hk)] at hi
    obtain ⟨e,he,hb,hx⟩:=h.2 k p hp' i hi'
    exact ⟨e,he,hb,hx.imp id (mono _ _)⟩
   ·have hk':k=done.length:=by
     have:=(List.getElem?_eq_some_iff.1 hp).1
     simp at this; omega
    subst hk'
    simp only [List.getElem?_append_right (Nat.le_refl _),Nat.sub_self,List.getElem?_cons_zero,Option.some.injEq] at hp
    subst hp
    simp only [List.getD_eq_getElem?_getD] at hi
    rw [← h.1,List.getElem?_append_right (Nat.le_refl _),Nat.sub_self] at hi
    simp only [List.getElem?_cons_zero,Option.getD_some] at hi
    unfold C3L at hi
    rcases B2D hi with h0 | ⟨e,he,hb,hx⟩
    ·simp at h0
    ·exact ⟨e,by simpa using he,hb,hx.imp id (mono _ _)⟩
  have:=A7J (l:=l) h2
  simpa [Z1] using this
theorem A2Y{l:List Oper}:∀ {k0:Nat},A0Q k0 l=true→∀ {k:Nat} {o:Oper},l[k]?=some o→∀ e∈o.after,Region.binds .any e=true→e.on < k0+k:=by
 induction l with
 | nil=>intro k0 _ k o ho; simp at ho
 | cons p l ih =>
  intro k0 h k o ho e he hb
  unfold A0Q at h
  rw [Bool.and_eq_true] at h
  cases k with
  | zero =>
   simp only [List.getElem?_cons_zero,Option.some.injEq] at ho
   subst ho
   have h1:=List.all_eq_true.1 h.1 e (by simpa using he)
   rw [hb] at h1
   simpa [Nat.blt_eq] using h1
  | succ k =>
   have:=ih h.2 (k:=k) (o:=o) (by simpa using ho) e he hb
   omega
def cf(S:Nat→Bool):Nat→List Rec→St→St
 | _,[],s=>s
 | k,r::rs,s=>cf S (k+1) rs (if S k then r.e.app r.dst s else s)
theorem B51{S:Nat→Bool}:∀ {rs:List Rec} {k:Nat} {s:St},(∀ j,k≤j→S j=false)→cf S k rs s=s
 | [],_,_,_=>rfl
 | r::rs,k,s,h=>by
  simp only [cf,h k (Nat.le_refl _),Bool.false_eq_true,if_false]
  exact B51 fun j hj=>h j (by omega)
section
variable {P:Program} {fr:Frm} {all:List Oper}
def C5y(P:Program)(fr:Frm)(s:St)(o:Oper)(e:Eff):Prop :=
 ∀ (M:Mem) (ρ:Nat→Place) (a:Act) (w:World) (Q:Exit→Act→World→Prop),Good fr M ρ s a w→o.wp P a w (fun a' w'=>∃ M' ρ',Good fr M' ρ' (e.app o.dst s) a' w') Q
theorem N1.at{s:St}{o:Oper}{e:Eff}(h:N1 P fr s.arg o e):C5y P fr s o e:=fun M ρ a w Q g=>h M ρ s a w Q g fun _ _=>rfl
structure Read (P:Program) (fr:Frm) (all:List Oper) (o:Oper) (s:St) (r:Rec):Prop where
 dst:r.dst=o.dst
 rd:∀ t∈S1 all o,t∈r.rd
 ok:F9 fr.n o.dst=true
 does:(A4P all o s true∧∀ s',Agree r.rd r.ids s s'→C5y P fr s' o r.e)∨(A4P all o s false∧r.e={ val:=.one .und })
inductive Chain (P:Program) (fr:Frm) (all:List Oper):List Oper→St→List Rec→St→Prop
 | nil {s}:Chain P fr all [] s [] s
 | cons {o l s s1 r rs sn}:Same s s1→Read P fr all o s1 r→Chain P fr all l (r.e.app r.dst s1) rs sn→Chain P fr all (o::l) s (r::rs) sn
theorem A5U{l:List Operand}{t:Nat}(h:Operand.tmp t∈l):t∈A95 l:=by
 induction l with
 | nil=>cases h
 | cons x l ih =>
  rcases List.mem_cons.1 h with h2 | h2
  ·subst h2; simp [A95]
  ·cases x <;> simp [A95,ih h2]
theorem C0b{s:St}{l:List Nat}{t i:Nat}(ht:t∈l)(hi:i∈(s.get t).ids):i∈B2g s l:=by
 induction l with
 | nil=>cases ht
 | cons u l ih =>
  rcases List.mem_cons.1 ht with h | h
  ·subst h; simp [B2g,hi]
  ·simp [B2g,ih h]
theorem SV.id_mem{v:SV}{i:Nat}(h:v.id?=some i):i∈v.ids:=by
 cases v with
 | one m=>cases m <;> simp_all [SV.id?,MV.id?,SV.ids,MV.ids]
 | tup ms=>cases h
theorem Agree.eval{all:List Oper}{o:Oper}{ids:List Nat}{s s':St}(h:Agree (S1 all o) ids s s')(x:Operand)(hx:x∈o.op.operands):s'.eval x=s.eval x:=by
 cases x with
 | tmp t =>
  have ht:t∈S1 all o:=List.mem_append_left _ (A5U (by simpa using hx))
  simp only [St.eval]
  rw [h.get t ht]
 | const v=>rfl
 | global g=>rfl
 | func f=>rfl
theorem Agree.arg{all:List Oper}{o:Oper}{s s':St}(h:Agree (S1 all o) (B2g s (S1 all o)) s s')(x:Operand)(hx:x∈o.op.operands):s'.arg x=s.arg x:=by
 have he:=h.eval x hx
 unfold St.arg
 rw [he]
 split
 ·rename_i i hi
  have hmem:i∈B2g s (S1 all o):=by
   cases x with
   | tmp t =>
    simp only [St.eval] at hi
    cases hb:Nat.blt t 8192 with
    | true =>
     rw [hb] at hi
     exact C0b (List.mem_append_left _ (A5U (by simpa using hx))) (SV.id_mem hi)
    | false=>rw [hb] at hi; cases hi
   | const v =>
    have:(A7k v).id?=none:=by unfold A7k; split <;> rfl
    simp only [St.eval,SV.id?,this] at hi
    cases hi
   | global g=>cases hi
   | func f=>cases hi
  rw [h.obj i hmem]
 ·rfl
theorem B8C{cx:Cx}{dst:Option Nat}{ty:Nat}{R:Type}(KE:Eff→Option R)(a:Arg):A2J cx dst ty KE a=(A2J cx dst ty some a).bind KE:=by
 unfold A2J B9H
 split
 ·cases B9K cx dst
  ·simp only [cond_false]
   split
   ·split
    ·cases B4C cx dst
     ·rfl
     ·cases dst <;> rfl
    ·rfl
   ·rfl
  ·rfl
 ·rfl
theorem B8D{cx:Cx}{dst:Option Nat}{ty:Nat}{R:Type}(KE:Eff→Option R){a a':Arg}(h:a'.1=a.1):A2J cx dst ty KE a'=A2J cx dst ty KE a:=by
 obtain ⟨v,ob⟩:=a
 obtain ⟨v',ob'⟩:=a'
 simp only at h
 subst h
 cases v' with
 | one m=>cases m <;> rfl
 | tup ms=>rfl
theorem C7v{cx:Cx}{R:Type}{res:R}(hcf:T3 P cx)(hcalls:∀ f c,cx.call f=some c→A8G P f c)(hn:cx.ntmps=fr.n){o:Oper}{s:St}{K:Eff→St→Option R}(h:opK cx o s K=some res) :
  F9 fr.n o.dst=true∧∃ e,K e (e.app o.dst s)=some res∧∀ s',Agree (S1 all o) (A96 all o s) s s'→N1 P fr s'.arg o e:=by
 have plain:A96 all o s=B2g s (S1 all o)→F9 fr.n o.dst=true∧∃ e,K e (e.app o.dst s)=some res∧∀ s',Agree (S1 all o) (A96 all o s) s s'→N1 P fr s'.arg o e:=by
  intro hr
  obtain ⟨hd,e,hK,hdo⟩:=B2A hcf hcalls hn h
  refine ⟨hd,e,hK,fun s' ha=>?_⟩
  rw [hr] at ha
  intro M ρ s2 a w Q g hx
  exact hdo M ρ s2 a w Q g fun y hy=>(hx y hy).trans (ha.arg y hy)
 have move:∀ x,(∀ (arg:Operand→Arg) (R:Type) (KE:Eff→Option R),B9T cx arg o.dst o.type KE o.op=A2J cx o.dst o.type KE (arg x))→x∈o.op.operands→F9 fr.n o.dst=true∧∃ e,K e (e.app o.dst s)=some res∧∀ s',Agree (S1 all o) (A96 all o s) s s'→N1 P fr s'.arg o e:=by
  intro x hop hx
  unfold opK at h
  cases hd:F9 cx.ntmps o.dst <;> rw [hd] at h <;> simp only [cond_true,cond_false,reduceCtorEq] at h
  rw [hn] at hd
  refine ⟨hd,?_⟩
  rw [hop,B8C] at h
  obtain ⟨e,he,hK⟩:=Option.bind_eq_some_iff.1 h
  refine ⟨e,hK,fun s' ha=>?_⟩
  have h2:B9T cx s'.arg o.dst o.type some o.op=some e:=by
   rw [hop,B8D (a:=s.arg x) some (show(s'.arg x).1=(s.arg x).1 from ha.eval x hx),he]
  obtain ⟨e2,h3,h4⟩:=B2z hcf hcalls hd h2
  cases h3
  exact h4
 cases hop:o.op with
 | move x=>exact move x (fun arg R KE=>by rw [hop]; rfl) (by rw [hop]; simp [Op.operands])
 | assign x=>exact move x (fun arg R KE=>by rw [hop]; rfl) (by rw [hop]; simp [Op.operands])
 | _=>exact plain (by unfold A96; rw [hop])
theorem A5V{cx:Cx}{R:Type}{res:R}(hcf:T3 P cx)(hcalls:∀ f c,cx.call f=some c→A8G P f c)(hn:cx.ntmps=fr.n){K:St→List Rec→Option R} :
  ∀ {l:List Oper} {s:St} {rs0:List Rec},B4G cx all l s rs0 K=some res→∃ rs sn,Chain P fr all l s rs sn∧K sn (rs0++rs)=some res
 | [],s,rs0,h=>⟨[],s,.nil,by simpa [B4G] using h⟩
 | o::l,s,rs0,h=>by
  simp only [B4G] at h
  obtain ⟨s1,hs,⟨hw,hy⟩ | ⟨hw,hy⟩⟩:=A7D h
  ·obtain ⟨hd,e,hK,hdo⟩:=C7v (all:=all) hcf hcalls hn hy
   obtain ⟨rs,sn,hc,hk⟩:=A5V hcf hcalls hn hK
   exact ⟨_::rs,sn,.cons hs ⟨rfl,fun _ h=>h,hd,.inl ⟨hw.same hs,fun s' ha=>(hdo s' ha).at⟩⟩ hc,by simpa using hk⟩
  ·cases hd:F9 cx.ntmps o.dst <;> rw [hd] at hy <;> simp only [cond_true,cond_false,reduceCtorEq] at hy
   rw [hn] at hd
   obtain ⟨rs,sn,hc,hk⟩:=A5V hcf hcalls hn hy
   rw [A7E] at hc
   exact ⟨C7q all o s1 { val:=.one .und }::rs,sn,.cons hs ⟨rfl,fun _ h=>h,hd,.inr ⟨hw.same hs,rfl⟩⟩ hc,by simpa using hk⟩
theorem Chain.len{l:List Oper}{s:St}{rs:List Rec}{sn:St}(h:Chain P fr all l s rs sn):rs.length=l.length:=by
 induction h with
 | nil=>rfl
 | cons _ _ _ ih=>simp [ih]
theorem Chain.last{l:List Oper}{s:St}{rs:List Rec}{sn:St}(h:Chain P fr all l s rs sn):∀ {k:Nat} {S:Nat→Bool} {s':St},Same s s'→(∀ j,k≤j→j < k+l.length→S j=true)→Same (cf S k rs s') sn:=by
 induction h with
 | nil=>intro k S s' hs _; exact hs.symm
 | @cons o l s s1 r rs sn hs hr hc ih =>
  intro k S s' hs' h
  simp only [cf,h k (Nat.le_refl _) (by simp),if_true]
  exact ih ((hs.symm.trans hs').app _ _) fun j hj hj'=>h j (by omega) (by simp; omega)
theorem Chain.get{l:List Oper}{s:St}{rs:List Rec}{sn:St}(h:Chain P fr all l s rs sn):∀ {i:Nat} {o:Oper},l[i]?=some o→∀ {k:Nat} {s':St},Same s s' →
  ∃ r s1,rs[i]?=some r∧Read P fr all o s1 r∧Same (cf (fun j=>decide (j < k+i)) k rs s') s1:=by
 induction h with
 | nil=>intro i o ho; simp at ho
 | @cons o l s s1 r rs sn hs hr hc ih =>
  intro i p hp k s' hs'
  cases i with
  | zero =>
   simp only [List.getElem?_cons_zero,Option.some.injEq] at hp
   subst hp
   refine ⟨r,s1,rfl,hr,?_⟩
   rw [B51 fun j hj=>by simp; omega]
   exact hs'.symm.trans hs
  | succ i =>
   obtain ⟨r',s2,h1,h2,h3⟩:=ih (i:=i) (o:=p) (by simpa using hp) (k:=k+1) ((hs.symm.trans hs').app r.e r.dst)
   refine ⟨r',s2,by simpa using h1,h2,?_⟩
   simp only [cf,show k < k+(i+1) by omega,decide_true,if_true]
   rw [show k+(i+1)=k+1+i by omega]
   exact h3
end
section
variable {s0:St} {RS:List Rec}
theorem B68{y:Rec}{S T:Nat→Bool}(hp:∀ r∈RS,A4C r.e.rep):∀ {rs:List Rec} {k:Nat} {s s':St},(∀ r∈rs,r∈RS)→A8O s0 RS s→A8O s0 RS s'→Agree y.rd y.ids s s' →
  (∀ j x,rs[j]?=some x→S (k+j)≠T (k+j)→A2w (x.mk' s0.env RS) (y.mk' s0.env RS)=true)→Agree y.rd y.ids (cf S k rs s) (cf T k rs s')
 | [],_,_,_,_,_,_,h,_=>h
 | r::rs,k,s,s',hm,h1,h2,ha,hn=>by
  simp only [cf]
  have hr:=hm r (by simp)
  refine B68 hp (fun x hx=>hm x (by simp [hx])) ?_ ?_ ?_ fun j x hx hd=>hn (j+1) x (by simpa using hx) (by rwa [show k+(j+1)=k+1+j by omega])
  ·split
   ·exact h1.app hr (hp r hr)
   ·exact h1
  ·split
   ·exact h2.app hr (hp r hr)
   ·exact h2
  ·have h0:=hn 0 r rfl
   simp only [Nat.add_zero] at h0
   cases hS:S k <;> cases hT:T k <;> simp only [hS,hT,if_true,if_false,Bool.false_eq_true]
   ·exact ha
   ·exact ha.trans (Agree.quiet h2 (h0 (by simp [hS,hT])))
   ·exact(Agree.quiet h1 (h0 (by simp [hS,hT]))).symm.trans ha
   ·exact ha.app _ _
theorem B2E{y:Rec}{S T:Nat→Bool}{i:Nat}(hp:∀ r∈RS,A4C r.e.rep)(hy:y∈RS):∀ {rs:List Rec} {k:Nat} {s s':St},(∀ r∈rs,r∈RS) →
  (∀ j x,rs[j]?=some x→S (k+j)=true→i < k+j→A2w (x.mk' s0.env RS) (y.mk' s0.env RS)=true)→(∀ j,j≠i→T j=S j)→S i=false→T i=true →
  (∀ x,k≤i→rs[i - k]?=some x→x=y)→i < k+rs.length→(if k≤i then Same s s' else Same (y.e.app y.dst s) s')→Same (y.e.app y.dst (cf S k rs s)) (cf T k rs s')
 | [],k,s,s',_,_,_,_,_,_,hl,h=>by
  simp only [List.length_nil,Nat.add_zero] at hl
  simp only [Nat.not_le.2 hl,if_false] at h
  exact h
 | r::rs,k,s,s',hm,hn,hT,hSi,hTi,hat,hl,h=>by
  simp only [cf]
  refine B2E hp hy (fun x hx=>hm x (by simp [hx])) (fun j x hx hs hi=>hn (j+1) x (by simpa using hx) (by rwa [show k+(j+1)=k+1+j by omega]) (by omega)) hT hSi hTi
   (fun x hk hx=>hat x (by omega) (by rw [show i - k=(i - (k+1))+1 by omega]; simpa using hx)) (by simp at hl; omega) ?_
  have hr:=hm r (by simp)
  by_cases hk:k=i
  ·subst hk
   simp only [Nat.le_refl,if_true] at h
   have:r=y:=hat r (Nat.le_refl _) (by simp)
   subst this
   simp only [hSi,hTi,if_true,if_false,Bool.false_eq_true,show ¬ (k+1≤k) by omega]
   exact h.app _ _
  ·rw [hT k hk]
   by_cases hlt:k≤i
   ·simp only [hlt,if_true] at h
    simp only [show k+1≤i by omega,if_true]
    split
    ·exact h.app _ _
    ·exact h
   ·simp only [hlt,if_false] at h
    simp only [show ¬ (k+1≤i) by omega,if_false]
    split
    ·rename_i hS
     have hc:=hn 0 r rfl (by simpa using hS) (by omega)
     exact(C3W (A4S hc) (hp y hy) (hp r hr)).symm.symm.trans (h.app _ _)
    ·exact h
end
end Go.Eng
namespace Go.Eng
open Go.RowKit
theorem Agree.wants{all:List Oper}{o:Oper}{ids:List Nat}{s s':St}{b:Bool}(h:Agree (S1 all o) ids s s')(k:A4P all o s b):A4P all o s' b:=by
 unfold A4P at *
 cases hg:o.guard with
 | none=>rw [hg] at k; exact k
 | some jw =>
  obtain ⟨j,want⟩:=jw
  rw [hg] at k
  obtain ⟨t,h1,hlt,h2⟩:=k
  refine ⟨t,h1,hlt,?_⟩
  rw [h.get t (List.mem_append_right _ (by simp [hg,h1]))]
  exact h2
section
variable {P:Program} {cx:Cx} {fr:Frm} {R:Type} {res:R}
theorem A9e{ops:Array Oper}{listed:Array Bool}(hsz:listed.size=ops.size)(he:A0Q 0 ops.toList=true)(h:Region.ready .any ops listed=[]):∀ k,k < ops.size→listed.getD k false=true:=by
 intro k
 induction k using Nat.strongRecOn with
 | _ k ih =>
  intro hk
  cases hb:listed.getD k false with
  | true=>rfl
  | false =>
   have:k∈Region.ready .any ops listed:=by
    rw [mem_ready]
    refine ⟨?_,ops[k],by simp [hk],fun e hm hbind=>?_⟩
    ·simp [hsz,hk] at hb ⊢; exact hb
    ·have hlt:=A2Y he (k:=k) (o:=ops[k]) (by simp [hk]) e hm hbind
     simp only [Nat.zero_add] at hlt
     exact ih e.on hlt (Nat.lt_trans hlt hk)
   rw [h] at this; cases this
theorem Good.drawn{M ρ s a w}(g:Good fr M ρ s a w)(n:Nat):Good fr M ρ s a { w with drawn:=n }:=by
 refine ⟨g.env,g.size,g.defers,g.mem,g.old,fun id=>?_,g.apart,⟨g.since.os,g.since.tape,g.since.output,g.since.size,g.since.block⟩,g.keep⟩
 have:=g.objs id
 revert this
 generalize ρ id=pl
 generalize s.obj id=ob
 intro this
 cases pl <;> cases ob <;> exact this
theorem B52{ops:Array Oper}{listed:Array Bool}{n:Nat}(hnN:n≤ops.size)(hsz:listed.size=ops.size)(he:A0Q 0 (ops.toList.take n)=true)(h:Region.ready .any ops listed=[]):∀ k,k < n→listed.getD k false=true:=by
 intro k
 induction k using Nat.strongRecOn with
 | _ k ih =>
  intro hk
  cases hb:listed.getD k false with
  | true=>rfl
  | false =>
   have hko:k < ops.size:=by omega
   have:k∈Region.ready .any ops listed:=by
    rw [mem_ready]
    refine ⟨?_,ops[k],by simp [hko],fun e hm hbind=>?_⟩
    ·simp [hsz,hko] at hb ⊢; exact hb
    ·have hlt:=A2Y he (k:=k) (o:=ops[k]) (by rw [List.getElem?_take_of_lt hk]; simp [hko]) e hm hbind
     simp only [Nat.zero_add] at hlt
     exact ih e.on hlt (Nat.lt_trans hlt hk)
   rw [h] at this; cases this
def C0c(n:Nat)(ops:List Oper):Bool:=(ops.drop n).all fun o=>(List.range n).all fun j=>o.after.toList.any fun e=>Nat.beq e.on j && Region.binds .any e
theorem B8E{n:Nat}{ops:List Oper}(h:C0c n ops=true){i:Nat}{o:Oper}(hi:n≤i)(ho:ops[i]?=some o)(j:Nat)(hj:j < n):∃ e∈o.after,Region.binds .any e=true∧e.on=j:=by
 have hm:o∈ops.drop n:=by
  refine List.mem_of_getElem? (i:=i - n) ?_
  rw [List.getElem?_drop,show n+(i - n)=i by omega]; exact ho
 have h1:=List.all_eq_true.1 (List.all_eq_true.1 h o hm) j (List.mem_range.2 hj)
 obtain ⟨e,he,hb⟩:=List.any_eq_true.1 h1
 rw [Bool.and_eq_true] at hb
 exact ⟨e,by simpa using he,hb.2,(B2 _ _).1 hb.1⟩
theorem B2F{listed:Array Bool}{n N:Nat}(hn:n≤N)(hsz:listed.size=N)(h:∀ k,listed.getD k false=decide (k < n)):listed.toList.count false=N - n:=by
 have:listed.toList=List.replicate n true++List.replicate (N - n) false:=by
  refine List.ext_getElem? fun k=>?_
  have hk:=h k
  rw [Array.getD_eq_getD_getElem?] at hk
  rcases Nat.lt_or_ge k n with h1 | h1
  ·rw [List.getElem?_append_left (by simpa using h1)]
   have hlt:k < listed.size:=by omega
   simp [hlt,h1] at hk ⊢
   exact hk
  ·rw [List.getElem?_append_right (by simpa using h1)]
   rcases Nat.lt_or_ge k N with h2 | h2
   ·have hlt:k < listed.size:=by omega
    have:k - n < N - n:=by omega
    simp [hlt,Nat.not_lt.2 h1,this] at hk ⊢
    exact hk
   ·have hge:listed.size≤k:=by omega
    have:¬ k - n < N - n:=by omega
    simp [hge,this]
 rw [this]
 simp [List.count_replicate]
theorem C0d(hmix:P.follows .mixedOrders=true){id:Nat}{ops:Array Oper}{n:Nat}{Q:Exit→Act→World→Prop}{s sn:St}{RS:List Rec}{M ρ a w}(hnN:n≤ops.size)(hc:Chain P fr ops.toList (ops.toList.take n) s RS sn)(hd:B2i s.env (ops.toList.take n) RS=true)(hlate:C0c n ops.toList=true)(g:Good fr M ρ s a w)
  (hQ:∀ M ρ a w,Good fr M ρ sn a w→∀ listed:Array Bool,listed.size=ops.size→(∀ k,listed.getD k false=decide (k < n))→wpAny P .any ops Q (ops.size - n) listed a w):(Code.region id ops true).wp P Q a w:=by
 generalize hl1:ops.toList.take n=l1 at hc hd
 have hl1:=hl1.symm
 simp only [B2i,Bool.and_eq_true] at hd
 obtain ⟨⟨hedge,hplain⟩,hpairs⟩:=hd
 have hp:∀ r∈RS,A4C r.e.rep:=by
  intro r hr x hx
  have:=List.all_eq_true.1 (List.all_eq_true.1 hplain r hr) x hx
  cases hi:x.2.id? with
  | none=>rfl
  | some i=>rw [hi] at this; cases this
 have hll:l1.length=n:=by rw [hl1]; simp; omega
 have hlen:RS.length=n:=by rw [hc.len,hll]
 have hpres:C0a (Z1 l1 []) l1:=by
  have:=A7J (l:=l1) (acc:=[]) (done:=[]) ⟨rfl,fun k o ho=>by simp at ho⟩
  simpa using this
 have hpair:∀ {j k:Nat} {x y:Rec},j < k→RS[j]?=some x→RS[k]?=some y→A2w (x.mk' s.env RS) (y.mk' s.env RS)=true∨((Z1 l1 []).getD k 0).testBit j=true:=by
  intro j k x y hjk hx hy
  have:=A7I hpairs (k:=k) (y:=y.mk' s.env RS) (by simp [hy]) (j:=j) (x:=x.mk' s.env RS) (by simpa using hjk) (by simp [hx])
  simpa using this
 refine wp_region_any hmix ?_
 have key:∀ (fuel:Nat) (listed:Array Bool),listed.size=ops.size→listed.toList.count false=fuel→(∀ k,n≤k→listed.getD k false=false) →
   (∀ k,listed.getD k false=true→∀ i,((Z1 l1 []).getD k 0).testBit i=true→listed.getD i false=true) →
   ∀ (s':St) (a':Act) (w':World),(∃ M' ρ',Good fr M' ρ' s' a' w')→Same (cf (fun k=>listed.getD k false) 0 RS s) s'→wpAny P .any ops Q fuel listed a' w':=by
  have done:∀ (fuel:Nat) (listed:Array Bool),listed.size=ops.size→listed.toList.count false=fuel→(∀ k,n≤k→listed.getD k false=false)→(∀ k,k < n→listed.getD k false=true)→∀ (s':St) (a':Act) (w':World),(∃ M' ρ',Good fr M' ρ' s' a' w') →
    Same (cf (fun k=>listed.getD k false) 0 RS s) s'→wpAny P .any ops Q fuel listed a' w':=by
   rintro fuel listed hsz hcnt hfar hall s' a' w' ⟨M',ρ',g'⟩ hs
   have h1:=hc.last (k:=0) (S:=fun k=>listed.getD k false) (.refl s) fun j _ hj=>hall j (by omega)
   have hdec:∀ k,listed.getD k false=decide (k < n):=fun k=>by
    rcases Nat.lt_or_ge k n with h | h
    ·rw [hall k h,decide_eq_true h]
    ·rw [hfar k h,decide_eq_false (by omega)]
   have:=B2F hnN hsz hdec
   rw [← hcnt,this]
   exact hQ _ _ _ _ (g'.same (hs.symm.trans h1)) listed hsz hdec
  intro fuel
  induction fuel with
  | zero =>
   intro listed hsz hcnt hfar hcl s' a' w' hg hs
   refine done 0 listed hsz hcnt hfar (fun k hk=>?_) s' a' w' hg hs
   cases hb:listed.getD k false with
   | true=>rfl
   | false =>
    have hlt:k < listed.size:=by omega
    have:false∈listed.toList:=by
     simp [hlt] at hb
     rw [← hb]; simp
    have:=List.count_pos_iff.2 this
    omega
  | succ fuel ih =>
   intro listed hsz hcnt hfar hcl s' a' w' hg hs
   by_cases hall0:∀ k,k < n→listed.getD k false=true
   ·exact done _ listed hsz hcnt hfar hall0 s' a' w' hg hs
   have hnot:∃ k,k < n∧¬ listed.getD k false=true:=by
    by_cases hex:∃ k,k < n∧¬ listed.getD k false=true
    ·exact hex
    ·exact absurd (fun k hk=>by
      by_cases hb:listed.getD k false=true
      ·exact hb
      ·exact absurd ⟨k,hk,hb⟩ hex) hall0
   refine ⟨fun hr=>?_,fun i hi=>?_⟩
   ·obtain ⟨k,hk,hkf⟩:=hnot
    exact absurd (B52 hnN hsz (hl1 ▸ hedge) hr k hk) hkf
   obtain ⟨h0,o,ho,hall⟩:=mem_ready.1 hi
   have hlt:i < ops.size:=(Array.getElem?_eq_some_iff.1 ho).1
   have hin:i < n:=by
    refine Nat.lt_of_not_le fun hge=>?_
    obtain ⟨k,hk,hkf⟩:=hnot
    obtain ⟨e,he,hb,hon⟩:=B8E hlate (i:=i) (o:=o) hge (by simpa using ho) k hk
    have:=hall e he hb
    rw [hon] at this
    exact hkf this
   have ho1:l1[i]?=some o:=by rw [hl1,List.getElem?_take_of_lt hin]; simpa using ho
   have hSi:listed.getD i false=false:=by simp [hsz,hlt] at h0 ⊢; exact h0
   obtain ⟨r,s1,hr,hread,hs1⟩:=hc.get (i:=i) (o:=o) ho1 (k:=0) (.refl s)
   have hrmem:r∈RS:=List.mem_of_getElem? hr
   have hpre:∀ j,((Z1 l1 []).getD i 0).testBit j=true→listed.getD j false=true:=by
    intro j hj
    obtain ⟨e,he,hb,hx⟩:=hpres.2 i o ho1 j hj
    rcases hx with rfl | hx
    ·exact hall e he hb
    ·exact hcl e.on (hall e he hb) j hx
   have hag:Agree r.rd r.ids s1 s':=by
    have h1:Agree r.rd r.ids (cf (fun j=>decide (j < 0+i)) 0 RS s) (cf (fun k=>listed.getD k false) 0 RS s):=by
     refine B68 hp (fun _ h=>h) (.start s RS) (.start s RS) ⟨fun _ _=>rfl,fun _ _=>rfl⟩ fun j x hx hne=>?_
     simp only [Nat.zero_add] at hne
     by_cases hji:j=i
     ·subst hji; simp only [Nat.lt_irrefl,decide_false] at hne; rw [hSi] at hne; exact absurd rfl hne
     ·by_cases hjl:j < i
      ·rcases hpair hjl hx hr with h | h
       ·exact h
       ·simp only [hjl,decide_true] at hne
        exact absurd (hpre j h).symm hne
      ·have hij:i < j:=by omega
       rcases hpair hij hr hx with h | h
       ·exact A4S h
       ·simp only [hjl,decide_false] at hne
        have hSj:listed.getD j false=true:=by
         cases hb:listed.getD j false with
         | true=>rfl
         | false=>rw [hb] at hne; exact absurd rfl hne
        have:=hcl j hSj i h
        rw [hSi] at this; cases this
    exact ⟨fun t ht=>by rw [hs.get,hs1.get]; exact h1.get t ht,fun j hj=>by rw [hs.obj,hs1.obj]; exact h1.obj j hj⟩
   have hag0:=hag
   have hag:Agree (S1 ops.toList o) r.ids s1 s':=⟨fun t ht=>hag.get t (hread.rd t ht),hag.obj⟩
   obtain ⟨M',ρ',g'⟩:=hg
   have hsz':(listed.setIfInBounds i true).size=ops.size:=by simp [hsz]
   have hSet:∀ j,(listed.setIfInBounds i true).getD j false=if j=i then true else listed.getD j false:=by
    intro j
    by_cases hji:j=i
    ·subst hji; simp [hsz,hlt]
    ·simp only [hji,if_false]; exact getD_set_ne false (fun e=>hji e.symm)
   have hcnt':(listed.setIfInBounds i true).toList.count false=fuel:=by
    have hl:i < listed.toList.length:=by simp [hsz,hlt]
    have hv:listed.toList[i]=false:=by simp [hsz,hlt] at h0; simpa using h0
    have hpos:0 < listed.toList.count false:=List.count_pos_iff.2 (hv ▸ List.getElem_mem hl)
    rw [Array.toList_setIfInBounds,List.count_set hl,hv]
    simp only [beq_self_eq_true,if_true,show(true == false)=false from rfl,Bool.false_eq_true,if_false]
    omega
   have hfar':∀ k,n≤k→(listed.setIfInBounds i true).getD k false=false:=by
    intro k hk
    rw [hSet,if_neg (by omega)]
    exact hfar k hk
   have hcl':∀ k,(listed.setIfInBounds i true).getD k false=true→∀ j,((Z1 l1 []).getD k 0).testBit j=true→(listed.setIfInBounds i true).getD j false=true:=by
    intro k hk j hj
    rw [hSet] at hk ⊢
    split
    ·rfl
    ·by_cases hki:k=i
     ·subst hki; exact hpre j hj
     ·simp only [hki,if_false] at hk; exact hcl k hk j hj
   have hins:Same (r.e.app r.dst (cf (fun k=>listed.getD k false) 0 RS s)) (cf (fun k=>(listed.setIfInBounds i true).getD k false) 0 RS s):=by
    refine B2E (s0:=s) (i:=i) hp hrmem (fun _ h=>h) (fun j x hx hS hij=>?_) (fun j hj=>by rw [hSet]; simp [hj]) hSi (by rw [hSet]; simp) (fun x _ hx=>?_) (by rw [hlen]; omega) ?_
    ·simp only [Nat.zero_add] at hS hij
     rcases hpair hij hr hx with h | h
     ·exact A4S h
     ·have:=hcl j hS i h
      rw [hSi] at this; cases this
    ·simp only [Nat.sub_zero] at hx
     rw [hr] at hx; exact(Option.some.inj hx).symm
    ·simp only [Nat.zero_le,if_true]; exact .refl s
   have hnext:Same (cf (fun k=>(listed.setIfInBounds i true).getD k false) 0 RS s) (r.e.app r.dst s'):=hins.symm.trans (hs.app _ _)
   unfold wpOp
   rw [ho]
   simp only []
   rcases hread.does with ⟨hw,hdo⟩ | ⟨hw,he⟩
   ·rw [(hag.wants hw).wanted g']
    simp only [if_true]
    refine .inl (Oper.wp_mono ?_ (hdo s' hag0 M' ρ' a' w' Q g'))
    rintro a2 w2 hg2
    refine ih _ hsz' hcnt' hfar' hcl' (r.e.app o.dst s') a2 w2 hg2 ?_
    rw [← hread.dst]; exact hnext
   ·rw [(hag.wants hw).wanted g']
    simp only [Bool.false_eq_true,if_false]
    refine ih _ hsz' hcnt' hfar' hcl' (A94 o s') _ _ ⟨M',ρ',g'.skip hread.ok⟩ ?_
    rw [A7E,← hread.dst,← he]; exact hnext
 refine key ops.size _ (by simp) ?_ (fun k _=>?_) (fun k hk=>?_) s a _ ⟨M,ρ,g.drawn _⟩ ?_
 ·simp
 ·simp [Array.getD_eq_getD_getElem?,Array.getElem?_replicate]; split <;> rfl
 ·simp [Array.getD_eq_getD_getElem?,Array.getElem?_replicate] at hk
  split at hk <;> simp at hk
 ·rw [B51 fun j _=>by simp [Array.getD_eq_getD_getElem?,Array.getElem?_replicate]; split <;> rfl]
  exact .refl s
theorem B8F(hcf:T3 P cx)(hcalls:∀ f c,cx.call f=some c→A8G P f c)(hn:cx.ntmps=fr.n)(hmix:P.follows .mixedOrders=true){id:Nat}{ops:Array Oper}{K:St→Option R}{Q:Exit→Act→World→Prop}
  (hQ:∀ M ρ s a w,Good fr M ρ s a w→K s=some res→Q .normal a w) {M ρ s a w} (g:Good fr M ρ s a w)
  (h:(B4G cx ops.toList ops.toList s [] fun s' rs=>bif B2i s.env ops.toList rs then K s' else none)=some res):(Code.region id ops true).wp P Q a w:=by
 obtain ⟨RS,sn,hc,hK⟩:=A5V hcf hcalls hn h
 simp only [List.nil_append] at hK
 cases hd:B2i s.env ops.toList RS <;> rw [hd] at hK <;> simp only [cond_true,cond_false,reduceCtorEq] at hK
 have hall:ops.toList.take ops.size=ops.toList:=List.take_of_length_le (by simp)
 refine C0d hmix (n:=ops.size) (Nat.le_refl _) (by rw [hall]; exact hc) (by rw [hall]; exact hd) (by unfold C0c; rw [List.drop_of_length_le (by simp)]; rfl) g fun M ρ a w g listed hsz hl=>?_
 rw [Nat.sub_self]
 refine ⟨List.eq_nil_iff_forall_not_mem.2 fun i hi=>?_,hQ _ _ _ _ _ g hK⟩
 obtain ⟨h0,o,ho,_⟩:=mem_ready.1 hi
 have hlt:i < ops.size:=(Array.getElem?_eq_some_iff.1 ho).1
 have:=hl i
 rw [decide_eq_true hlt] at this
 simp [hsz,hlt] at h0 this
 rw [h0] at this; cases this
end
end Go.Eng
namespace Go.Eng
open Go.RowKit
def C7w(s:St)(v:SV):(k:Kind)→k.den→Prop
 | .d t,y=>v=.one (.d t y)
 | .dp t,y=>v=.one (.dp t y)
 | .own _ e tid,y=>∃ j,v=.one (.own j)∧s.obj j=.sl e tid y
 | .again _,_=>∃ j,v=.one (.own j)
 | .box _ t,y=>∃ j,v=.one (.pa j [])∧s.obj j=.bx t y
 | .boxed _,_=>∃ j,v=.one (.pa j [])
 | .fn f,_=>v=.one (.fn f)
 | .nilS,_=>v=.one .nilS
def B0l(s:St):(sh:A5)→A5.den sh→Prop
 | [],_=>True
 | (t,k)::l,x=>C7w s (s.get t) k x.1∧B0l s l x.2
theorem A0k{R:Type}{t t':Ty}{x:t.den}{K:t'.den→Option R}{res:R}(h:A2K t t' x K=some res):∃ y:t'.den,K y=some res∧(⟨t,x⟩:(t:Ty)×t.den)=⟨t',y⟩:=by
 unfold A2K at h
 split at h
 ·rename_i e; subst e; exact ⟨x,h,rfl⟩
 ·cases h
theorem B53{R:Type}{t t':Ty}{x:List t.den}{K:List t'.den→Option R}{res:R}(h:B9W t t' x K=some res):∃ y:List t'.den,K y=some res∧(⟨t,x⟩:(t:Ty)×List t.den)=⟨t',y⟩:=by
 unfold B9W at h
 split at h
 ·rename_i e; subst e; exact ⟨x,h,rfl⟩
 ·cases h
theorem B8G{R:Type}{s:St}{v:SV}{k:Kind}{K:k.den→Option R}{res:R}(h:A8J s v k K=some res):∃ y,K y=some res∧C7w s v k y:=by
 cases k with
 | d t =>
  simp only [A8J] at h
  split at h
  ·rename_i t' x
   obtain ⟨y,hy,e⟩:=A0k h
   cases e
   exact ⟨y,hy,rfl⟩
  ·cases h
 | dp t =>
  simp only [A8J] at h
  split at h
  ·rename_i t' x
   obtain ⟨y,hy,e⟩:=A0k h
   cases e
   exact ⟨y,hy,rfl⟩
  ·cases h
 | own i e tid =>
  simp only [A8J] at h
  split at h
  ·rename_i j
   split at h
   ·rename_i e' tid' l ho
    cases hb:Nat.beq tid' tid <;> rw [hb] at h <;> simp only [cond_true,cond_false,reduceCtorEq] at h
    have:=(B2 _ _).1 hb
    subst this
    obtain ⟨y,hy,e⟩:=B53 h
    cases e
    exact ⟨y,hy,j,rfl,ho⟩
   ·cases h
  ·cases h
 | again i =>
  simp only [A8J] at h
  split at h
  ·rename_i j; exact ⟨(),h,j,rfl⟩
  ·cases h
 | box i t =>
  simp only [A8J] at h
  split at h
  ·rename_i j
   split at h
   ·rename_i t' x ho
    obtain ⟨y,hy,e⟩:=A0k h
    cases e
    exact ⟨y,hy,j,rfl,ho⟩
   ·cases h
  ·cases h
 | boxed i =>
  simp only [A8J] at h
  split at h
  ·rename_i j; exact ⟨(),h,j,rfl⟩
  ·cases h
 | fn f =>
  simp only [A8J] at h
  split at h
  ·rename_i g
   cases hb:Nat.beq g f <;> rw [hb] at h <;> simp only [cond_true,cond_false,reduceCtorEq] at h
   have:=(B2 _ _).1 hb
   subst this
   exact ⟨(),h,rfl⟩
  ·cases h
 | nilS =>
  simp only [A8J] at h
  split at h
  ·exact ⟨(),h,rfl⟩
  ·cases h
theorem A6r{R:Type}{s:St}{res:R}:∀ {sh:A5} {K:A5.den sh→Option R},B07 s sh K=some res→∃ x,K x=some res∧B0l s sh x
 | [],K,h=>⟨(),h,trivial⟩
 | (t,k)::l,K,h=>by
  simp only [B07] at h
  obtain ⟨y,hy,h1⟩:=B8G h
  obtain ⟨ys,hys,h2⟩:=A6r hy
  exact ⟨(y,ys),hys,h1,h2⟩
theorem A5k{s:St}:∀ {sh:A5} {t:Nat} {k:Kind} {i j:Nat},(t,k)∈sh→k.num?=some i→(s.get t).ids=[j]→(i,j)∈A5.nums s sh
 | (u,k')::l,t,k,i,j,h,hk,hj=>by
  rcases List.mem_cons.1 h with h | h
  ·cases h
   simp only [A5.nums,hk,hj]
   simp
  ·have:=A5k (s:=s) h hk hj
   simp only [A5.nums]
   split
   ·split
    ·exact List.mem_cons_of_mem _ this
    ·exact this
   ·exact this
theorem A7K{s:St}:∀ {sh:A5} {x:A5.den sh},B0l s sh x→∀ t,look (SV.one .dead) (B4z sh x) t=.one .dead∨∃ k y,(t,k)∈sh∧C7w s (s.get t) k y∧look (SV.one .dead) (B4z sh x) t=k.sv y
 | [],_,_,t=>.inl rfl
 | (u,k)::l,x,h,t=>by
  simp only [B4z,look]
  cases hb:Nat.beq u t with
  | true =>
   have:=(B2 _ _).1 hb
   subst this
   exact .inr ⟨k,x.1,by simp,h.1,rfl⟩
  | false =>
   simp only [cond_false]
   rcases A7K h.2 t with h | ⟨k',y,h1,h2,h3⟩
   ·exact .inl h
   ·exact .inr ⟨k',y,by simp [h1],h2,h3⟩
theorem B0m{s:St}:∀ {sh:A5} {x:A5.den sh},B0l s sh x→∀ {i:Nat},look MObj.gone (A97 sh x) i≠.gone→∃ j,(i,j)∈A5.nums s sh∧s.obj j=look .gone (A97 sh x) i
 | [],_,_,i,h=>absurd rfl h
 | (u,k)::l,x,hg,i,h=>by
  have rest:∀ {i},look MObj.gone (A97 l x.2) i≠.gone→∃ j,(i,j)∈A5.nums s ((u,k)::l)∧s.obj j=look .gone (A97 l x.2) i:=by
   intro i h
   obtain ⟨j,h1,h2⟩:=B0m hg.2 h
   refine ⟨j,?_,h2⟩
   simp only [A5.nums]
   split
   ·split
    ·exact List.mem_cons_of_mem _ h1
    ·exact h1
   ·exact h1
  obtain ⟨x1,x2⟩:=x
  obtain ⟨h1,h2⟩:=hg
  cases k with
  | own i' e tid =>
   obtain ⟨j,hv,ho⟩:=h1
   simp only [A97,look] at h ⊢
   cases hb:Nat.beq i' i with
   | true =>
    have:=(B2 _ _).1 hb
    subst this
    exact ⟨j,A5k (t:=u) (k:=.own i' e tid) (by simp) rfl (by rw [hv]; rfl),ho⟩
   | false=>rw [hb] at h; exact rest h
  | box i' t =>
   obtain ⟨j,hv,ho⟩:=h1
   simp only [A97,look] at h ⊢
   cases hb:Nat.beq i' i with
   | true =>
    have:=(B2 _ _).1 hb
    subst this
    exact ⟨j,A5k (t:=u) (k:=.box i' t) (by simp) rfl (by rw [hv]; rfl),ho⟩
   | false=>rw [hb] at h; exact rest h
  | _=>exact rest h
theorem A9f:∀ {sh:A5} {x:A5.den sh} {i:Nat},i∈A5.firsts sh→look MObj.gone (A97 sh x) i≠.gone
 | (u,k)::l,x,i,h=>by
  obtain ⟨x1,x2⟩:=x
  have rest:i∈A5.firsts l→look MObj.gone (A97 l x2) i≠.gone:=fun h=>A9f h
  cases k with
  | own i' e tid =>
   simp only [A97,look]
   cases hb:Nat.beq i' i with
   | true=>simp
   | false =>
    simp only [A5.firsts,Kind.first?,List.mem_cons] at h
    rcases h with h | h
    ·subst h; rw [(B2 _ _).2 rfl] at hb; cases hb
    ·exact rest h
  | box i' t =>
   simp only [A97,look]
   cases hb:Nat.beq i' i with
   | true=>simp
   | false =>
    simp only [A5.firsts,Kind.first?,List.mem_cons] at h
    rcases h with h | h
    ·subst h; rw [(B2 _ _).2 rfl] at hb; cases hb
    ·exact rest h
  | _=>exact rest h
def A5W(l:List (Nat×Nat))(ρ:Nat→Place)(i:Nat):Place:=match look none (l.map fun x=>(x.1,some x.2)) i with | some j=>ρ j | none=>.no
theorem B2G{α:Type}:∀ {l:List (Nat×α)} {i:Nat} {x:α},(i,x)∈l→∃ y,(i,y)∈l∧look none (l.map fun x=>(x.1,some x.2)) i=some y
 | (k,z)::l,i,x,h=>by
  simp only [List.map_cons,look]
  cases hb:Nat.beq k i with
  | true=>have:=(B2 _ _).1 hb; subst this; exact ⟨z,by simp,rfl⟩
  | false =>
   rcases List.mem_cons.1 h with h | h
   ·cases h; rw [(B2 _ _).2 rfl] at hb; cases hb
   ·obtain ⟨y,h1,h2⟩:=B2G h
    exact ⟨y,by simp [h1],h2⟩
theorem A4T{l:List (Nat×Nat)}(h:B9X l=true){x y:Nat×Nat}(hx:x∈l)(hy:y∈l):x.1=y.1↔x.2=y.2:=by
 have:=List.all_eq_true.1 (List.all_eq_true.1 h x hx) y hy
 have this:Nat.beq x.1 y.1=Nat.beq x.2 y.2:=by simpa using this
 rw [← B2,← B2,this]
section
variable {fr:Frm} {M:Mem} {ρ:Nat→Place} {s:St} {a:Act} {w:World}
theorem A2x{R:Type}{sh:A5}{K:A5.den sh→Option R}{res:R}(h:D0v sh s K=some res)(g:Good fr M ρ s a w):∃ x ρ',K x=some res∧Good fr M ρ' (enc sh x) a w:=by
 unfold D0v at h
 cases hb:(B9X (sh.nums s) && (sh.nums s).all (fun x=>B4B sh.firsts x.1)) <;> rw [hb] at h <;> simp only [cond_true,cond_false,reduceCtorEq] at h
 simp only [Bool.and_eq_true] at hb
 obtain ⟨hnum,hfirst⟩:=hb
 obtain ⟨x,hK,hg⟩:=A6r h
 have hplace:∀ {i j},(i,j)∈sh.nums s→A5W (sh.nums s) ρ i=ρ j:=by
  intro i j hm
  obtain ⟨j',h1,h2⟩:=B2G hm
  unfold A5W
  rw [h2]
  have:=(A4T hnum h1 hm).1 rfl
  simp only at this
  rw [this]
 have hobj:∀ {i j},(i,j)∈sh.nums s→(enc sh x).obj i=s.obj j∧s.obj j≠.gone:=by
  intro i j hm
  have hf:=List.all_eq_true.1 hfirst _ hm
  have hne:=A9f (x:=x) (A4c.1 hf)
  obtain ⟨j',h1,h2⟩:=B0m hg hne
  have:=(A4T hnum h1 hm).1 rfl
  simp only at this
  subst this
  exact ⟨h2.symm,by rw [h2]; exact hne⟩
 have hback:∀ {i},(enc sh x).obj i≠.gone→∃ j,(i,j)∈sh.nums s:=fun {i} hne=>(B0m hg hne).imp fun j h=>h.1
 refine ⟨x,A5W (sh.nums s) ρ,hK,fun t=>?_,g.size,g.defers,g.mem,g.old,fun id=>?_,fun id b hne hb=>?_,g.since,g.keep⟩
 ·rcases A7K hg t with h | ⟨k,y,hm,h1,h2⟩
  ·rw [show(enc sh x).get t=.one .dead from h]; trivial
  ·rw [show(enc sh x).get t=k.sv y from h2]
   have he:=g.env t
   have own:∀ {i j:Nat},k.num?=some i→s.get t=.one (.own j)→A0c M (A5W (sh.nums s) ρ) (enc sh x).obj (fr.val a t) (.one (.own i)):=by
    intro i j hk hv
    rw [hv] at he
    obtain ⟨e,tid,l,ho,hval⟩:=he
    have hn:=A5k (s:=s) hm hk (by rw [hv]; rfl)
    exact ⟨e,tid,l,(hobj hn).1.trans ho,by rw [hplace hn]; exact hval⟩
   have box:∀ {i j:Nat},k.num?=some i→s.get t=.one (.pa j [])→A0c M (A5W (sh.nums s) ρ) (enc sh x).obj (fr.val a t) (.one (.pa i [])):=by
    intro i j hk hv
    rw [hv] at he
    obtain ⟨b,t',hb,hok,ht,hval⟩:=he
    have hn:=A5k (s:=s) hm hk (by rw [hv]; rfl)
    exact ⟨b,t',by rw [hplace hn]; exact hb,by rw [(hobj hn).1]; exact hok,by rw [(hobj hn).1]; exact ht,by rw [(hobj hn).1]; exact hval⟩
   cases k with
   | d t=>have h1:s.get _=.one (.d t y):=h1; rw [h1] at he; exact he
   | dp t=>have h1:s.get _=.one (.dp t y):=h1; rw [h1] at he; exact he
   | own i e tid=>obtain ⟨j,hv,_⟩:=h1; exact own rfl hv
   | again i=>obtain ⟨j,hv⟩:=h1; exact own rfl hv
   | box i t=>obtain ⟨j,hv,_⟩:=h1; exact box rfl hv
   | boxed i=>obtain ⟨j,hv⟩:=h1; exact box rfl hv
   | fn f=>have h1:s.get _=.one (.fn f):=h1; rw [h1] at he; exact he
   | nilS=>have h1:s.get _=.one .nilS:=h1; rw [h1] at he; exact he
 ·by_cases hne:(enc sh x).obj id=.gone
  ·rw [hne]; cases A5W (sh.nums s) ρ id <;> trivial
  ·obtain ⟨j,hj⟩:=hback hne
   rw [hplace hj,(hobj hj).1]
   exact g.objs j
 ·obtain ⟨j,hj⟩:=hback hne
  rw [hplace hj] at hb
  obtain ⟨h1,h2,h3,h4⟩:=g.apart j b (hobj hj).2 hb
  refine ⟨h1,h2,h3,fun id' hid hne' hb'=>?_⟩
  obtain ⟨j',hj'⟩:=hback hne'
  rw [hplace hj'] at hb'
  refine h4 j' (fun e=>hid ?_) (hobj hj').2 hb'
  exact(A4T hnum hj' hj).2 e
end
end Go.Eng
namespace Go.Eng
open Go.RowKit
def Ex.toExit:Ex→Exit
 | .normal=>.normal
 | .exit i=>.exit i
 | .ret=>.ret
def A3A{R:Type}(P:Program)(fr:Frm)(c:Code)(sh:A5)(m:A5.den sh→(Ex→St→Option R)→Option R):Prop :=
 ∀ (x:A5.den sh) (K:Ex→St→Option R) (res:R),m x K=some res→∀ (M:Mem) (ρ:Nat→Place) (a:Act) (w:World) (Q:Exit→Act→World→Prop),Good fr M ρ (enc sh x) a w →
  (∀ ex M ρ s a w,Good fr M ρ s a w→K ex s=some res→Q ex.toExit a w)→c.wp P Q a w
def C0e{R:Type}(hs js:Nat→Option (Hint R)):Code→List (Code×Hint R)
 | .seq a b=>C0e hs js a++match (A11 b).bind js with
  | some h=>[(b,h)]
  | none=>C0e hs js b
 | .cond _ a b=>C0e hs js a++C0e hs js b
 | .block _ c=>C0e hs js c
 | .loop c=>match (A11 c).bind hs with
  | some h=>[(.loop c,h)]
  | none=>C0e hs js c
 | _=>[]
def HOk{R:Type}(P:Program)(fr:Frm)(hs js:Nat→Option (Hint R))(c:Code):Prop:=∀ p∈C0e hs js c,A3A P fr p.1 p.2.sh p.2.model
section
variable {P:Program} {cx:Cx} {fr:Frm} {R:Type} {res:R} {hs js:Nat→Option (Hint R)}
theorem A7L{c:Code}{Q:Exit→Act→World→Prop}{J:Nat→Act→World→Prop}(h0:∀ a w,¬ J 0 a w)(hs:∀ n a w,J (n+1) a w→c.wp P (Exit.then (J n) Q) a w){n:Nat}{a:Act}{w:World}(h:J n a w) :
  (Code.loop c).wp P Q a w:=by
 have least:∀ n a w,J n a w→∃ k,J k a w∧∀ m,m < k→¬ J m a w:=by
  intro n a w
  induction n using Nat.strongRecOn with
  | _ n ih =>
   intro hJ
   by_cases hex:∃ m,m < n∧J m a w
   ·obtain ⟨m,hm,hJm⟩:=hex; exact ih m hm hJm
   ·exact ⟨n,hJ,fun m hm hJm=>hex ⟨m,hm,hJm⟩⟩
 classical
 let μ:Act→World→Nat:=fun a w=>if h:∃ k,J k a w∧∀ m,m < k→¬ J m a w then Classical.choose h else 0
 have hμ:∀ n a w,J n a w→J (μ a w) a w∧μ a w≤n:=by
  intro n a w hJ
  have hex:=least n a w hJ
  have:μ a w=Classical.choose hex:=dif_pos hex
  rw [this]
  have hc:=Classical.choose_spec hex
  exact ⟨hc.1,Nat.not_lt.1 fun hlt=>hc.2 n hlt hJ⟩
 refine wp_loop (fun a w=>∃ n,J n a w) μ ⟨n,h⟩ ?_
 rintro a w ⟨n,hJ⟩
 have h1:=(hμ n a w hJ).1
 cases hm:μ a w with
 | zero=>rw [hm] at h1; exact absurd h1 (h0 a w)
 | succ k =>
  rw [hm] at h1
  refine wp_mono (hs k a w h1) ?_
  intro e a' w' he
  cases e with
  | normal=>exact ⟨⟨k,he⟩,Nat.lt_succ_of_le (hμ k a' w' he).2⟩
  | _=>exact he
theorem A3B(hcf:T3 P cx)(hcalls:∀ f c,cx.call f=some c→A8G P f c)(hn:cx.ntmps=fr.n)(hmix:P.follows .mixedOrders=true) :
  ∀ (c:Code) (s:St) (K:Ex→St→Option R),HOk P fr hs js c→run cx hs js c s K=some res→∀ (M:Mem) (ρ:Nat→Place) (a:Act) (w:World) (Q:Exit→Act→World→Prop),Good fr M ρ s a w →
   (∀ ex M ρ s a w,Good fr M ρ s a w→K ex s=some res→Q ex.toExit a w)→c.wp P Q a w:=by
 intro c
 induction c with
 | skip=>intro s K _ h M ρ a w Q g hQ; exact wp_skip (hQ .normal M ρ s a w g h)
 | label l=>intro s K _ h M ρ a w Q g hQ; exact wp_label (hQ .normal M ρ s a w g h)
 | exit i=>intro s K _ h M ρ a w Q g hQ; exact wp_exit (hQ (.exit i) M ρ s a w g h)
 | ret=>intro s K _ h M ρ a w Q g hQ; exact wp_ret (hQ .ret M ρ s a w g h)
 | region id ops draw =>
  intro s K _ h M ρ a w Q g hQ
  simp only [run] at h
  cases draw
  ·simp only [cond_false] at h
   exact B2B hcf hcalls hn (K:=K .normal) (fun M ρ s a w g h=>hQ .normal M ρ s a w g h) g h
  ·simp only [cond_true] at h
   exact B8F hcf hcalls hn hmix (K:=K .normal) (fun M ρ s a w g h=>hQ .normal M ρ s a w g h) g h
 | seq x y ihx ihy =>
  intro s K ho h M ρ a w Q g hQ
  simp only [run] at h
  refine wp_seq (ihx s _ (fun p hp=>ho p (List.mem_append_left _ hp)) h M ρ a w _ g ?_)
  intro ex M' ρ' s' a' w' g' h'
  cases ex with
  | normal =>
   show y.wp P Q a' w'
   simp only at h'
   split at h'
   ·rename_i hh heq
    obtain ⟨z,ρ2,hz,g2⟩:=A2x h' g'
    exact ho (y,hh) (List.mem_append_right _ (by simp only [heq]; simp)) z K res hz M' ρ2 a' w' Q g2 hQ
   ·rename_i heq
    exact ihy s' K (fun p hp=>ho p (List.mem_append_right _ (by simp only [heq]; exact hp))) h' M' ρ' a' w' Q g' hQ
  | exit i=>exact hQ (.exit i) M' ρ' s' a' w' g' h'
  | ret=>exact hQ .ret M' ρ' s' a' w' g' h'
 | cond c x y ihx ihy =>
  intro s K ho h M ρ a w Q g hQ
  simp only [run] at h
  split at h
  ·rename_i t hc
   have hv:a.eval c=.bool t:=by
    have:=g.eval c
    rw [hc] at this
    obtain ⟨cs,hf,e⟩:=this
    have hf':cs=[.bool t]:=hf
    subst hf'
    simpa [C8,Ty.isAgg] using e
   have hsame:Same s (SV.sureTrue s c t):=by
    unfold SV.sureTrue
    split
    ·rename_i n
     refine St.same_put ?_
     simp only [St.eval] at hc
     cases hb:Nat.blt n 8192 with
     | true=>rw [hb] at hc; exact hc
     | false=>rw [hb] at hc; cases hc
    ·exact .refl s
   cases t
   ·simp only [cond_false] at h
    exact wp_cond_false hv (ihy _ K (fun p hp=>ho p (List.mem_append_right _ hp)) h M ρ a w Q (g.same hsame) hQ)
   ·simp only [cond_true] at h
    exact wp_cond_true hv (ihx _ K (fun p hp=>ho p (List.mem_append_left _ hp)) h M ρ a w Q (g.same hsame) hQ)
  ·cases h
 | block id c ih =>
  intro s K ho h M ρ a w Q g hQ
  simp only [run] at h
  refine wp_block (ih s _ ho h M ρ a w _ g ?_)
  intro ex M' ρ' s' a' w' g' h'
  cases ex with
  | normal=>exact hQ .normal M' ρ' s' a' w' g' h'
  | exit i =>
   simp only at h'
   show if i=id then Q .normal a' w' else Q (.exit i) a' w'
   cases hb:Nat.beq i id <;> rw [hb] at h' <;> simp only [cond_true,cond_false] at h'
   ·rw [if_neg fun e=>by rw [(B2 _ _).2 e] at hb; cases hb]
    exact hQ (.exit i) M' ρ' s' a' w' g' h'
   ·rw [if_pos ((B2 _ _).1 hb)]
    exact hQ .normal M' ρ' s' a' w' g' h'
  | ret=>exact hQ .ret M' ρ' s' a' w' g' h'
 | loop c ih =>
  intro s K ho h M ρ a w Q g hQ
  simp only [run] at h
  split at h
  ·rename_i hh heq
   obtain ⟨z,ρ2,hz,g2⟩:=A2x h g
   exact ho (.loop c,hh) (by simp only [C0e,heq]; simp) z K res hz M ρ2 a w Q g2 hQ
  ·rename_i heq
   have hob:HOk P fr hs js c:=fun p hp=>ho p (by simp only [C0e,heq]; exact hp)
   refine A7L (J:=fun n a w=>∃ s M ρ,Good fr M ρ s a w∧B4H (run cx hs js c) n s K=some res) ?_ ?_ ⟨s,M,ρ,g,h⟩
   ·rintro a w ⟨s,M,ρ,_,h⟩; cases h
   ·rintro n a w ⟨s,M,ρ,g,h⟩
    refine ih s _ hob h M ρ a w _ g ?_
    intro ex M' ρ' s' a' w' g' h'
    cases ex with
    | normal=>exact ⟨s',M',ρ',g',h'⟩
    | exit i=>exact hQ (.exit i) M' ρ' s' a' w' g' h'
    | ret=>exact hQ .ret M' ρ' s' a' w' g' h'
 | _=>intro s K _ h; simp only [run] at h; cases h
def C0f(sh:A5)(outs:U5)(m:A5.den sh→(Ex→St→Option R)→Option R)(K:Ex→St→Option R):Ex→St→Option R
 | .normal,s=>D0v sh s fun x=>m x K
 | e,s=>D0I outs K e s
theorem A2y{outs:U5}{K:Ex→St→Option R}{e:Ex}{s:St}(h:D0I outs K e s=some res){M ρ a w}(g:Good fr M ρ s a w):∃ s' ρ',K e s'=some res∧Good fr M ρ' s' a w:=by
 unfold D0I at h
 split at h
 ·obtain ⟨x,ρ',hx,g'⟩:=A2x h g
  exact ⟨_,ρ',hx,g'⟩
 ·exact ⟨s,ρ,h,g⟩
theorem B8H(hcf:T3 P cx)(hcalls:∀ f c,cx.call f=some c→A8G P f c)(hn:cx.ntmps=fr.n)(hmix:P.follows .mixedOrders=true){c:Code}{sh:A5}{outs:U5}
  {m:Nat→A5.den sh→(Ex→St→Option R)→Option R} (h0:∀ x K,m 0 x K=none) (hm:∀ n x K,m (n+1) x K=run cx hs js c (enc sh x) (C0f sh outs (m n) K)) (ho:HOk P fr hs js c) (F:Nat) :
  A3A P fr (.loop c) sh (m F):=by
 intro x K res h M ρ a w Q g hQ
 refine A7L (J:=fun n a w=>∃ x M ρ,m n x K=some res∧Good fr M ρ (enc sh x) a w) ?_ ?_ ⟨x,M,ρ,h,g⟩
 ·rintro a w ⟨x,M,ρ,h,_⟩; rw [h0] at h; cases h
 ·rintro n a w ⟨x,M,ρ,h,g⟩
  rw [hm] at h
  refine A3B hcf hcalls hn hmix c _ _ ho h M ρ a w _ g ?_
  intro ex M' ρ' s' a' w' g' h'
  cases ex with
  | normal =>
   obtain ⟨z,ρ2,hz,g2⟩:=A2x h' g'
   exact ⟨z,M',ρ2,hz,g2⟩
  | exit i =>
   obtain ⟨s2,ρ2,hz,g2⟩:=A2y (e:=.exit i) h' g'
   exact hQ (.exit i) M' ρ2 s2 a' w' g2 hz
  | ret =>
   obtain ⟨s2,ρ2,hz,g2⟩:=A2y (e:=.ret) h' g'
   exact hQ .ret M' ρ2 s2 a' w' g2 hz
theorem B8I(hcf:T3 P cx)(hcalls:∀ f c,cx.call f=some c→A8G P f c)(hn:cx.ntmps=fr.n)(hmix:P.follows .mixedOrders=true){c:Code}{sh sh0:A5}{outs:U5}
  {m:Nat→A5.den sh→(Ex→St→Option R)→Option R} {m0:Nat→A5.den sh0→(Ex→St→Option R)→Option R} (h0:∀ x K,m 0 x K=none) (hm:∀ n x K,m (n+1) x K=run cx hs js c (enc sh x) (C0f sh outs (m n) K))
  (hm0:∀ n x K,m0 n x K=run cx hs js c (enc sh0 x) (C0f sh outs (m n) K)) (ho:HOk P fr hs js c) (F:Nat) :
  A3A P fr (.loop c) sh0 (m0 F):=by
 intro x K res h M ρ a w Q g hQ
 refine A7L (J:=fun n a w=>(∃ x M ρ,m n x K=some res∧Good fr M ρ (enc sh x) a w)∨∃ k x M ρ,n=k+1∧m0 k x K=some res∧Good fr M ρ (enc sh0 x) a w) ?_ ?_ (n:=F+1) (.inr ⟨F,x,M,ρ,rfl,h,g⟩)
 ·rintro a w (⟨x,M,ρ,h,_⟩ | ⟨k,_,_,_,hk,_⟩)
  ·rw [h0] at h; cases h
  ·omega
 ·intro n a w hJ
  have key:∀ s M ρ,run cx hs js c s (C0f sh outs (m n) K)=some res→Good fr M ρ s a w→c.wp P (Exit.then (fun a w=>(∃ x M ρ,m n x K=some res∧Good fr M ρ (enc sh x) a w)∨∃ k x M ρ,n=k+1∧m0 k x K=some res∧Good fr M ρ (enc sh0 x) a w) Q) a w:=by
   intro s M ρ h g
   refine A3B hcf hcalls hn hmix c _ _ ho h M ρ a w _ g ?_
   intro ex M' ρ' s' a' w' g' h'
   cases ex with
   | normal =>
    obtain ⟨z,ρ2,hz,g2⟩:=A2x h' g'
    exact .inl ⟨z,M',ρ2,hz,g2⟩
   | exit i =>
    obtain ⟨s2,ρ2,hz,g2⟩:=A2y (e:=.exit i) h' g'
    exact hQ (.exit i) M' ρ2 s2 a' w' g2 hz
   | ret =>
    obtain ⟨s2,ρ2,hz,g2⟩:=A2y (e:=.ret) h' g'
    exact hQ .ret M' ρ2 s2 a' w' g2 hz
  rcases hJ with ⟨x,M,ρ,h,g⟩ | ⟨k,x,M,ρ,hk,h,g⟩
  ·rw [hm] at h
   exact key _ M ρ h g
  ·have hk':n=k:=by omega
   subst hk'
   rw [hm0] at h
   exact key _ M ρ h g
theorem B8J(hcf:T3 P cx)(hcalls:∀ f c,cx.call f=some c→A8G P f c)(hn:cx.ntmps=fr.n)(hmix:P.follows .mixedOrders=true){c:Code}{sh:A5}{outs:U5}
  {m:A5.den sh→(Ex→St→Option R)→Option R} (hm:∀ x K,m x K=run cx hs js c (enc sh x) (D0I outs K)) (ho:HOk P fr hs js c):A3A P fr c sh m:=by
 intro x K res h M ρ a w Q g hQ
 rw [hm] at h
 refine A3B hcf hcalls hn hmix c _ _ ho h M ρ a w _ g ?_
 intro ex M' ρ' s' a' w' g' h'
 obtain ⟨s2,ρ2,hz,g2⟩:=A2y (e:=ex) h' g'
 exact hQ ex M' ρ2 s2 a' w' g2 hz
end
end Go.Eng
namespace Go.Eng
open Go.RowKit
abbrev A8H:List Ty→Type
 | []=>Unit
 | t::l=>t.den×A8H l
abbrev TD:=(t:Ty)×t.den
structure Sig where
 modes:List Mode
 sh:A5
 keeps:Bool:=false
 fresh:Option (Nat×Nat):=none
 rtys:List Ty
def C7x{R:Type}:(t:Ty)→(t.den→Option R)→Option R
 | .slice _,K=>K []
 | _,_=>none
def A3C{R:Type}(m:MV):(k:Kind)→(k.den→Option R)→Option R
 | .d t,K=>match m with
  | .d t' x=>A2K t' t x K
  | .nilS=>C7x t K
  | _=>none
 | .own _ e _,K=>match m with | .d t' x=>A2K t' (.slice e) x K | _=>none
 | .box _ t,K=>match m with | .d t' x=>A2K t' t x K | _=>none
 | .fn f,K=>match m with | .fn g=>bif Nat.beq g f then K () else none | _=>none
 | .nilS,K=>match m with | .nilS=>K () | _=>none
 | _,_=>none
def G5{R:Type}:(sh:A5)→List MV→(A5.den sh→Option R)→Option R
 | [],[],K=>K ()
 | (_,k)::l,m::ms,K=>A3C m k fun y=>G5 l ms fun ys=>K (y,ys)
 | _,_,_=>none
def Y9:(l:List Ty)→A8H l→List MV
 | [],_=>[]
 | t::l,r=>.d t r.1::Y9 l r.2
def B7(sg:Sig)(f:A5.den sg.sh→Option (A8H sg.rtys)):Contract where
 modes:=sg.modes
 keeps:=sg.keeps
 fresh:=sg.fresh
 cm:=fun ms K=>G5 sg.sh ms fun x=>(f x).bind fun r=>K (Y9 sg.rtys r)
theorem C3X{R S:Type}(t:Ty)(K:t.den→Option R)(G:R→Option S):(C7x t K).bind G=C7x t fun x=>(K x).bind G:=by
 cases t <;> rfl
theorem C0g{R S:Type}{t t':Ty}(x:t.den)(K:t'.den→Option R)(G:R→Option S):(A2K t t' x K).bind G=A2K t t' x fun x=>(K x).bind G:=by
 unfold A2K; split <;> rfl
theorem C7y{R S:Type}(b:Bool)(x:Option R)(G:R→Option S):(bif b then x else none).bind G=bif b then x.bind G else none:=by
 cases b <;> rfl
theorem C0h{R S:Type}(m:MV)(k:Kind)(K:k.den→Option R)(G:R→Option S):(A3C m k K).bind G=A3C m k fun x=>(K x).bind G:=by
 cases k <;> cases m <;> simp only [A3C,C0g,C3X,C7y] <;> rfl
theorem A0d{R S:Type}:∀ (sh:A5) (ms:List MV) (K:A5.den sh→Option R) (G:R→Option S),(G5 sh ms K).bind G=G5 sh ms fun x=>(K x).bind G
 | [],[],_,_=>rfl
 | [],_::_,_,_=>rfl
 | _::_,[],_,_=>rfl
 | (_,k)::l,m::ms,K,G=>by
  simp only [G5,C0h]
  congr 1
  funext y
  exact A0d l ms _ G
theorem A1f(sg:Sig)(f:A5.den sg.sh→Option (A8H sg.rtys)){R:Type}(ms:List MV)(K:List MV→Option R):(B7 sg f).cm ms K=((B7 sg f).cm ms some).bind K:=by
 show G5 sg.sh ms _=(G5 sg.sh ms _).bind K
 rw [A0d]
 congr 1
 funext x
 rw [Option.bind_assoc]
 rfl
def D8B:Arg→Bool
 | (.one (.pq _ _),_)=>true
 | _=>false
def B69(cx:Cx)(s:St):ResultVar→Option Arg
 | .tmp t=>some (s.arg (.tmp t))
 | .cell a T=>match cx.row? T with
  | some r=>bif D8B (s.arg (.tmp a)) then none else B9L (fun e=>some (e.val,.gone)) r.ty (s.arg (.tmp a))
  | none=>none
def A5X(cx:Cx)(s:St):List ResultVar→Option (List Arg)
 | []=>some []
 | v::l=>match B69 cx s v,A5X cx s l with
  | some a,some as=>some (a::as)
  | _,_=>none
def A5l(lo t:Nat):Nat:=bif Nat.blt t lo then t else 8192+t
def A4U(lo:Nat)(s:St):List Mode→A5→Option (List (Nat×TD))
 | [],[]=>some []
 | m::ms,(t,k)::l=>match m with
  | .ro | .con _=>A4U lo s ms l
  | .bor=>match k with
   | .box _ ty=>match s.get t with
    | .one (.pa j [])=>match s.obj j with
     | .bx ty' y=>bif decide (ty'=ty) then(A4U lo s ms l).map ((j,⟨ty',y⟩)::·) else none
     | _=>none
    | _=>none
   | _=>none
  | .wr _=>match k with
   | .own _ e tid=>match s.get (A5l lo t) with
    | .one (.own j)=>match s.obj j with
     | .sl e' tid' m=>bif Nat.beq tid' tid then(A4U lo s ms l).map ((j,⟨.slice e',m⟩)::·) else none
     | _=>none
    | _=>none
   | _=>none
 | _,_=>none
def B8K(fr:Bool)(a:Arg):Option TD :=
 match a with
 | (.one (.pa _ []),.bx t x)=>bif fr && A10 t then some ⟨t,x⟩ else none
 | (.one .nilS,_)=>some ⟨.slice .unit,[]⟩
 | a=>E5 a
def D0N(fresh:Option (Nat×Nat))(k:Nat):Bool :=
 match fresh with
 | some (j,_)=>Nat.beq j k
 | none=>false
def C0i(fresh:Option (Nat×Nat)):Nat→List Arg→Option (List TD)
 | _,[]=>some []
 | k,a::l=>match B8K (D0N fresh k) a,C0i fresh (k+1) l with
  | some x,some xs=>some (x::xs)
  | _,_=>none
def B0n{R:Type}:(l:List Ty)→List TD→(A8H l→Option R)→Option R
 | [],[],K=>K ()
 | t::l,x::xs,K=>A2K x.1 t x.2 fun y=>B0n l xs fun ys=>K (y,ys)
 | _,_,_=>none
def C0j(fresh:Option (Nat×Nat))(args:List Arg):Option (List Nat) :=
 match fresh with
 | none=>some []
 | some (k,tid)=>match args[k]? with
  | some (.one (.own j),.sl _ tid' _)=>bif Nat.beq tid' tid then some [j] else none
  | some (.one (.pa j []),.bx t _)=>bif A10 t then some [j] else none
  | _=>none
def A4D(fresh:Option (Nat×Nat))(args:List Arg):List Arg :=
 match fresh with
 | none=>args
 | some (k,_)=>A3k args k (.one .dead,.gone)
def D0O:Ty→TD→TD
 | .slice e,⟨.slice _,[]⟩=>⟨.slice e,[]⟩
 | _,x=>x
def C3Y(t:Ty)(x:TD):TD:=if x.1=t then x else D0O t x
def A7N:List Ty→List TD→List TD
 | t::ts,x::xs=>C3Y t x::A7N ts xs
 | _,xs=>xs
def C5z(cx:Cx)(sg:Sig)(rv:List ResultVar)(s:St):Option (A8H sg.rtys) :=
 match A5X cx s rv,A4U cx.ntmps.1 s sg.modes sg.sh with
 | some args,some outs=>match C0j sg.fresh args,C0i sg.fresh 0 args with
  | some fi,some ds =>
   bif X3 (fi++outs.map (·.1)) && B2e (A1Q (A4D sg.fresh args)) (fi++outs.map (·.1)) then B0n sg.rtys (outs.map (·.2)++bif sg.fresh.isNone then A7N (sg.rtys.drop outs.length) ds else ds) some else none
  | _,_=>none
 | _,_=>none
def D0x(cx:Cx)(sg:Sig)(rv:List ResultVar):Ex→St→Option (A8H sg.rtys)
 | .exit _,_=>none
 | _,s=>C5z cx sg rv s
section
variable {P:Program} {cx:Cx} {fr:Frm} {M:Mem} {ρ:Nat→Place} {s:St} {a:Act} {w:World}
def A6s(a:Act):ResultVar→Sem Value
 | .tmp t=>pure (a.tmps.getD t undef)
 | .cell b t=>do loadVar t (← asAddr (a.tmps.getD b undef))
theorem B2H(hcf:T3 P cx)(g:Good fr M ρ s a w){v:ResultVar}{x:Arg}(h:B69 cx s v=some x) :
  ∃ u,(A6s a v).run P w=.ok u w∧ArgIs M ρ s u x:=by
 cases v with
 | tmp t =>
  simp only [B69,Option.some.injEq] at h
  subst h
  refine ⟨_,Sem.run_pure _ _ _,?_⟩
  have:=g.arg (.tmp t)
  rwa [show a.eval (.tmp t)=a.tmps.getD t undef by simp [Act.eval]] at this
 | cell b T =>
  simp only [B69] at h
  split at h
  ·rename_i r hr
   have hav:a.eval (.tmp b)=a.tmps.getD b undef:=by simp [Act.eval]
   have key:∀ {v:Value} {bb off:Nat} {cur:Array Value} {e:TypeId} {fz:Nat×Nat} {y:r.ty.den} {cs:List Value},v=.pointer (some ⟨bb,off,none⟩)→w.heap[bb]?=some (.cells cur e fz)→E8 M r.ty y cs→(cur.toList.drop off).take cs.length=cs →
     (do loadVar T (← asAddr v):Sem Value).run P w=.ok (C8 r.ty cs) w:=by
    intro v bb off cur e fz y cs hv hb hf hc
    have:=A2Q hcf hr hb hf hc
    subst hv
    simpa [Instr.loadAt,Instr.sureAddr,asAddr] using this
   cases hpq:D8B (s.arg (.tmp b)) <;> rw [hpq] at h <;> simp only [cond_true,cond_false,reduceCtorEq] at h
   unfold B9L at h
   split at h
   ·rename_i hx
    rw [hx] at hpq; cases hpq
   ·rename_i i p ob hx
    split at h
    ·rename_i t' y hg
     cases hdec:decide (t'=r.ty) <;> rw [hdec] at h <;> simp at h
     have ht:t'=r.ty:=of_decide_eq_true hdec
     obtain ⟨bb,cap,t2,cur,e,hρ,hk,hty,hv,hob,hb,hat⟩:=g.ptr (g.arg' hx)
     obtain ⟨cur2,e2,cs,hb2,hf,hc⟩:=hat.get hk hg
     subst ht
     subst h
     exact ⟨C8 _ cs,key (hav ▸ hv) hb2 hf hc,⟨A4a s.obj hf,fun id hid=>by cases hid⟩⟩
    ·cases h
   ·rename_i t' y ob hx
    cases hdec:decide (t'=r.ty) <;> rw [hdec] at h <;> simp at h
    have ht:t'=r.ty:=of_decide_eq_true hdec
    obtain ⟨bb,off,cur,e,fz,cs,hv,hM,hf,hc⟩:=(g.arg' hx).rel
    subst ht
    subst h
    exact ⟨C8 _ cs,key (hav ▸ hv) (g.mem _ _ hM) hf hc,⟨A4a s.obj hf,fun id hid=>by cases hid⟩⟩
   ·rename_i i p n m e l hx
    cases hdec:(decide (Ty.arr n e=r.ty) && Nat.ble (p+n) m) <;> rw [hdec] at h <;> simp at h
    simp only [Bool.and_eq_true,Nat.ble_eq] at hdec
    obtain ⟨hdec,hle⟩:=hdec
    have ht:Ty.arr n e=r.ty:=of_decide_eq_true hdec
    obtain ⟨bb,cur2,e2,cs,hv,hb2,hf,hc⟩:=g.vp_at (g.arg' hx) hle
    obtain ⟨rt,re,rb⟩:=r
    simp only at ht
    subst ht
    subst h
    exact ⟨C8 _ cs,key (hav ▸ hv) hb2 hf hc,⟨A4a s.obj hf,fun id hid=>by cases hid⟩⟩
   ·cases h
  ·cases h
theorem A5m(hcf:T3 P cx)(g:Good fr M ρ s a w):∀ {l:List ResultVar} {xs:List Arg},A5X cx s l=some xs →
  ∃ us,(l.mapM (A6s a)).run P w=.ok us w∧All2 (ArgIs M ρ s) us xs
 | [],xs,h=>by
  simp only [A5X,Option.some.injEq] at h
  subst h
  exact ⟨[],by simp,.nil⟩
 | v::l,xs,h=>by
  simp only [A5X] at h
  split at h
  ·rename_i y ys hy hys
   simp only [Option.some.injEq] at h
   subst h
   obtain ⟨u,h1,h2⟩:=B2H hcf g hy
   obtain ⟨us,h3,h4⟩:=A5m hcf g hys
   refine ⟨u::us,?_,.cons h2 h4⟩
   rw [List.mapM_cons,Sem.run_bind,h1,Result.andThen_ok,Sem.run_bind,h3,Result.andThen_ok,Sem.run_pure]
  ·cases h
theorem B54(hcf:T3 P cx)(g:Good fr M ρ s a w){fn:Func}{xs:List Arg}(h:A5X cx s fn.results.toList=some xs) :
  ∃ us,(results fn a.tmps).run P w=.ok (A2V us) w∧All2 (ArgIs M ρ s) us xs:=by
 obtain ⟨us,h1,h2⟩:=A5m hcf g h
 refine ⟨us,?_,h2⟩
 have hr:results fn a.tmps=(fn.results.mapM (A6s a) >>= fun vs=>pure (if h:vs.size=1 then vs[0] else .tuple vs)):=by
  unfold results
  congr 1
 rw [hr,Sem.run_bind,Array.mapM_eq_mapM_toList,Sem.run_map,h1]
 simp only [Result.andThen_ok]
 match us with
 | []=>simp [A2V]
 | [u]=>simp [A2V]
 | u::v::us=>simp [A2V]
theorem A6t{R:Type}:∀ {l:List Ty} {xs:List TD} {K:A8H l→Option R} {res:R},B0n l xs K=some res→∃ r,K r=some res∧Y9 l r=xs.map fun x=>.d x.1 x.2
 | [],[],K,res,h=>⟨(),h,rfl⟩
 | [],_::_,_,_,h=>by cases h
 | _::_,[],_,_,h=>by cases h
 | t::l,x::xs,K,res,h=>by
  simp only [B0n] at h
  obtain ⟨y,hy,e⟩:=A0k h
  obtain ⟨r,hr,e2⟩:=A6t hy
  refine ⟨(y,r),hr,?_⟩
  obtain ⟨t',z⟩:=x
  cases e
  simp only [Y9,e2,List.map_cons]
end
end Go.Eng
namespace Go.Eng
open Go.RowKit
def A2Z:Mode→Kind→Bool
 | .ro,.d _=>true
 | .ro,.fn _=>true
 | .ro,.nilS=>true
 | .bor,.box _ _=>true
 | .wr k,.own _ _ tid=>Nat.beq k tid
 | .con k,.own _ _ tid=>Nat.beq k tid
 | _,_=>false
def C5A(lo k:Nat):Mode→Bool
 | .bor=>Nat.blt k lo
 | _=>true
def A1T(lo:Nat):Nat→List Mode→A5→List (Nat×SV)
 | k,.wr _::ms,(_,.own i _ _)::l=>bif Nat.blt k lo then A1T lo (k+1) ms l else(8192+k,.one (.own i))::A1T lo (k+1) ms l
 | k,_::ms,_::l=>A1T lo (k+1) ms l
 | _,_,_=>[]
def U6(lo:Nat):Nat→List Mode→A5→Bool
 | _,[],[]=>true
 | k,m::ms,(t,kd)::l=>Nat.beq t k && A2Z m kd && C5A lo k m && U6 lo (k+1) ms l
 | _,_,_=>false
def B0o(sg:Sig)(n:Nat×Nat):Bool:=U6 n.1 0 sg.modes sg.sh && X3 (A5.firsts sg.sh) && (Nat.ble sg.sh.length n.2 && Nat.ble sg.sh.length 8192)
def C3Z(sg:Sig)(lo:Nat)(x:A5.den sg.sh):St:={ env:=B4z sg.sh x++A1T lo 0 sg.modes sg.sh,heap:=A97 sg.sh x }
def A1C(M:Mem)(w:World):(sh:A5)→A5.den sh→List Value→List (Nat×Place×MObj)→Prop
 | [],_,vs,es=>vs=[]∧es=[]
 | (_,k)::l,x,vs,es=>∃ v vs',vs=v::vs'∧match k,x.1 with
  | .d t,y=>S3 M v (.d t y)∧A1C M w l x.2 vs' es
  | .fn f,_=>S3 M v (.fn f)∧A1C M w l x.2 vs' es
  | .nilS,_=>S3 M v .nilS∧A1C M w l x.2 vs' es
  | .box i t,y=>∃ b cap es',v=.pointer (some ⟨b,0,none⟩)∧es=(i,.at b cap,.bx t y)::es'∧P9 M w (.at b cap) (.bx t y)∧A1C M w l x.2 vs' es'
  | .own i e tid,y=>∃ pl es',v=pl.slice (List.length y)∧es=(i,pl,.sl e tid y)::es'∧P9 M w pl (.sl e tid y)∧A1C M w l x.2 vs' es'
  | _,_=>False
theorem A7O(M:Mem)(e:Ty):S3 M (.slice none 0 0) (.d (.slice e) []) :=
 ⟨[.slice none 0 0],⟨_,rfl,none,0,rfl,Nat.le_refl _,fun _=>rfl,fun h=>absurd rfl h⟩,by simp [C8,Ty.isAgg]⟩
section
variable {M:Mem} {w:World} {R:Type} {res:R}
theorem B2I{lo:Nat}{ms:List Mode}{vs:List Value}{mvs:List MV}{hs:List (Place×MObj)}(h:ArgsOk M w ms vs mvs hs) :
  ∀ {sh:A5} {k:Nat} {K:A5.den sh→Option R},U6 lo k ms sh=true→G5 sh mvs K=some res→∃ x es,K x=some res∧A1C M w sh x vs es∧hs=es.map (·.2)∧vs.length=sh.length:=by
 induction h with
 | nil =>
  intro sh k K hs ht
  cases sh with
  | nil=>exact ⟨(),[],ht,⟨rfl,rfl⟩,rfl,rfl⟩
  | cons p l=>simp [U6] at hs
 | @ro ms vs rs hs v m hp ha ih =>
  intro sh k K hsig ht
  cases sh with
  | nil=>simp [U6] at hsig
  | cons p l =>
   obtain ⟨t,kd⟩:=p
   simp only [U6,Bool.and_eq_true] at hsig
   obtain ⟨⟨⟨h1,h2⟩,h3⟩,h4⟩:=hsig
   simp only [G5] at ht
   cases kd with
   | d ty =>
    simp only [A3C] at ht
    split at ht
    ·rename_i t' y
     obtain ⟨z,hz,e⟩:=A0k ht
     cases e
     obtain ⟨x,es,hK,hP,hh,hl⟩:=ih h4 hz
     exact ⟨(_,x),es,hK,⟨v,vs,rfl,hp,hP⟩,hh,by simp [hl]⟩
    ·cases ty with
     | slice e =>
      simp only [C7x] at ht
      obtain ⟨x,es,hK,hP,hh,hl⟩:=ih h4 ht
      have hv:v=.slice none 0 0:=hp
      exact ⟨(([]:List e.den),x),es,hK,⟨v,vs,rfl,by rw [hv]; exact A7O M e,hP⟩,hh,by simp [hl]⟩
     | _=>simp only [C7x] at ht; cases ht
    ·cases ht
   | fn f =>
    simp only [A3C] at ht
    split at ht
    ·rename_i g
     cases hb:Nat.beq g f <;> rw [hb] at ht <;> simp only [cond_true,cond_false,reduceCtorEq] at ht
     have:=(B2 _ _).1 hb
     subst this
     obtain ⟨x,es,hK,hP,hh,hl⟩:=ih h4 ht
     exact ⟨((),x),es,hK,⟨v,vs,rfl,hp,hP⟩,hh,by simp [hl]⟩
    ·cases ht
   | nilS =>
    simp only [A3C] at ht
    split at ht
    ·obtain ⟨x,es,hK,hP,hh,hl⟩:=ih h4 ht
     exact ⟨((),x),es,hK,⟨v,vs,rfl,hp,hP⟩,hh,by simp [hl]⟩
    ·cases ht
   | _=>simp [A2Z] at h2
 | @bor ms vs rs hs b cap t x ho ha ih =>
  intro sh k K hsig ht
  cases sh with
  | nil=>simp [U6] at hsig
  | cons p l =>
   obtain ⟨u,kd⟩:=p
   simp only [U6,Bool.and_eq_true] at hsig
   obtain ⟨⟨⟨h1,h2⟩,h3⟩,h4⟩:=hsig
   simp only [G5] at ht
   cases kd with
   | box i ty =>
    simp only [A3C] at ht
    obtain ⟨z,hz,e⟩:=A0k ht
    cases e
    obtain ⟨y,es,hK,hP,hh,hl⟩:=ih h4 hz
    exact ⟨(_,y),(i,.at b cap,.bx _ _)::es,hK,⟨_,vs,rfl,b,cap,es,rfl,rfl,ho,hP⟩,by simp [hh],by simp [hl]⟩
   | _=>simp [A2Z] at h2
 | @wr ms vs rs hs pl e tid l0 ho ha ih =>
  intro sh k K hsig ht
  cases sh with
  | nil=>simp [U6] at hsig
  | cons p l =>
   obtain ⟨u,kd⟩:=p
   simp only [U6,Bool.and_eq_true] at hsig
   obtain ⟨⟨⟨h1,h2⟩,h3⟩,h4⟩:=hsig
   simp only [G5] at ht
   cases kd with
   | own i e' tid' =>
    simp only [A3C] at ht
    obtain ⟨z,hz,e⟩:=A0k ht
    cases e
    have:=(B2 _ _).1 h2
    subst this
    obtain ⟨y,es,hK,hP,hh,hl⟩:=ih h4 hz
    exact ⟨(_,y),(i,pl,.sl _ _ _)::es,hK,⟨_,vs,rfl,pl,es,rfl,rfl,ho,hP⟩,by simp [hh],by simp [hl]⟩
   | _=>simp [A2Z] at h2
 | @con ms vs rs hs pl e tid l0 ho ha ih =>
  intro sh k K hsig ht
  cases sh with
  | nil=>simp [U6] at hsig
  | cons p l =>
   obtain ⟨u,kd⟩:=p
   simp only [U6,Bool.and_eq_true] at hsig
   obtain ⟨⟨⟨h1,h2⟩,h3⟩,h4⟩:=hsig
   simp only [G5] at ht
   cases kd with
   | own i e' tid' =>
    simp only [A3C] at ht
    obtain ⟨z,hz,e⟩:=A0k ht
    cases e
    have:=(B2 _ _).1 h2
    subst this
    obtain ⟨y,es,hK,hP,hh,hl⟩:=ih h4 hz
    exact ⟨(_,y),(i,pl,.sl _ _ _)::es,hK,⟨_,vs,rfl,pl,es,rfl,rfl,ho,hP⟩,by simp [hh],by simp [hl]⟩
   | _=>simp [A2Z] at h2
theorem A0U:∀ {sh:A5} {x:A5.den sh} {vs:List Value} {es:List (Nat×Place×MObj)},A1C M w sh x vs es→A97 sh x=es.map (fun e=>(e.1,e.2.2))∧A5.firsts sh=es.map (·.1)
 | [],x,vs,es,h=>by obtain ⟨_,rfl⟩:=h; exact ⟨rfl,rfl⟩
 | (t,k)::l,x,vs,es,h=>by
  obtain ⟨x1,x2⟩:=x
  obtain ⟨v,vs',rfl,h⟩:=h
  cases k with
  | d ty=>exact A0U (sh:=l) h.2
  | fn f=>exact A0U (sh:=l) h.2
  | nilS=>exact A0U (sh:=l) h.2
  | box i ty =>
   obtain ⟨b,cap,es',_,rfl,_,h⟩:=h
   obtain ⟨h1,h2⟩:=A0U (sh:=l) h
   exact ⟨by simp only [A97,h1,List.map_cons],by simp only [A5.firsts,Kind.first?,h2,List.map_cons]⟩
  | own i e tid =>
   obtain ⟨pl,es',_,rfl,_,h⟩:=h
   obtain ⟨h1,h2⟩:=A0U (sh:=l) h
   exact ⟨by simp only [A97,h1,List.map_cons],by simp only [A5.firsts,Kind.first?,h2,List.map_cons]⟩
  | _=>exact h.elim
theorem A0l:∀ {sh:A5} {x:A5.den sh} {vs:List Value} {es:List (Nat×Place×MObj)},A1C M w sh x vs es→∀ e∈es,P9 M w e.2.1 e.2.2∧e.2.2≠.gone
 | [],x,vs,es,h=>by obtain ⟨_,rfl⟩:=h; intro e he; cases he
 | (t,k)::l,x,vs,es,h=>by
  obtain ⟨x1,x2⟩:=x
  obtain ⟨v,vs',rfl,h⟩:=h
  cases k with
  | d ty=>exact A0l (sh:=l) h.2
  | fn f=>exact A0l (sh:=l) h.2
  | nilS=>exact A0l (sh:=l) h.2
  | box i ty =>
   obtain ⟨b,cap,es',_,rfl,ho,h⟩:=h
   intro e he
   rcases List.mem_cons.1 he with rfl | he
   ·exact ⟨ho,by simp⟩
   ·exact A0l (sh:=l) h e he
  | own i e tid =>
   obtain ⟨pl,es',_,rfl,ho,h⟩:=h
   intro e he
   rcases List.mem_cons.1 he with rfl | he
   ·exact ⟨ho,by simp⟩
   ·exact A0l (sh:=l) h e he
  | _=>exact h.elim
theorem A9g{lo:Nat}{ρ:Nat→Place}{obj:Nat→MObj}:∀ {sh:A5} {x:A5.den sh} {vs:List Value} {es:List (Nat×Place×MObj)} {ms:List Mode} {k:Nat},A1C M w sh x vs es→U6 lo k ms sh=true →
  (∀ e∈es,obj e.1=e.2.2∧ρ e.1=e.2.1)→∀ t,look (SV.one .dead) (B4z sh x) t=.one .dead∨(k≤t∧∃ v,vs[t - k]?=some v∧A0c M ρ obj v (look (SV.one .dead) (B4z sh x) t))
 | [],x,vs,es,ms,k,h,hs,he,t=>.inl rfl
 | (u,kd)::l,x,vs,es,ms,k,h,hs,he,t=>by
  obtain ⟨x1,x2⟩:=x
  obtain ⟨v,vs',rfl,h⟩:=h
  cases ms with
  | nil=>simp [U6] at hs
  | cons m ms =>
   simp only [U6,Bool.and_eq_true] at hs
   obtain ⟨⟨⟨hu,h2⟩,h3⟩,h4⟩:=hs
   have hu:=(B2 _ _).1 hu
   subst hu
   simp only [B4z,look]
   have step:∀ {es'},A1C M w l x2 vs' es'→(∀ e∈es',obj e.1=e.2.2∧ρ e.1=e.2.1)→A0c M ρ obj v (kd.sv x1) →
     ((bif Nat.beq u t then kd.sv x1 else look (SV.one .dead) (B4z l x2) t)=.one .dead∨(u≤t∧∃ v',(v::vs')[t - u]?=some v'∧A0c M ρ obj v' (bif Nat.beq u t then kd.sv x1 else look (SV.one .dead) (B4z l x2) t))):=by
    intro es' hP he' hv
    cases hb:Nat.beq u t with
    | true =>
     have:=(B2 _ _).1 hb
     subst this
     exact .inr ⟨Nat.le_refl _,v,by simp,hv⟩
    | false =>
     simp only [cond_false]
     rcases A9g hP h4 he' t with h | ⟨h1,v',h5,h6⟩
     ·exact .inl h
     ·refine .inr ⟨by omega,v',?_,h6⟩
      rw [show t - u=(t - (u+1))+1 by omega]
      simpa using h5
   cases kd with
   | d ty=>exact step h.2 he (S3.rel h.1 ρ obj)
   | fn f=>exact step h.2 he (S3.rel h.1 ρ obj)
   | nilS=>exact step h.2 he (S3.rel h.1 ρ obj)
   | box i ty =>
    obtain ⟨b,cap,es',hv,rfl,ho,h⟩:=h
    have h0:=he _ (List.mem_cons_self)
    refine step h (fun e hm=>he e (List.mem_cons_of_mem _ hm)) ?_
    have ho1:obj i=.bx ty x1:=h0.1
    have hr1:ρ i=.at b cap:=h0.2
    exact ⟨b,ty,by rw [hr1]; rfl,by simp [ho1,okO,A2L],by simp [ho1,MObj.tyP,W7],by simp [hv,ho1,A4y,N8]⟩
   | own i e tid =>
    obtain ⟨pl,es',hv,rfl,ho,h⟩:=h
    have h0:=he _ (List.mem_cons_self)
    refine step h (fun e hm=>he e (List.mem_cons_of_mem _ hm)) ?_
    exact ⟨e,tid,x1,h0.1,by rw [hv,h0.2]⟩
   | _=>exact h.elim
theorem A6u{lo:Nat}{ρ:Nat→Place}{obj:Nat→MObj}:∀ {sh:A5} {x:A5.den sh} {vs:List Value} {es:List (Nat×Place×MObj)} {ms:List Mode} {k:Nat},A1C M w sh x vs es→U6 lo k ms sh=true →
  (∀ e∈es,obj e.1=e.2.2∧ρ e.1=e.2.1)→∀ t,look (SV.one .dead) (A1T lo k ms sh) t=.one .dead∨(8192+k≤t∧∃ v,vs[t - (8192+k)]?=some v∧A0c M ρ obj v (look (SV.one .dead) (A1T lo k ms sh) t))
 | [],x,vs,es,ms,k,h,hs,he,t=>by
  cases ms with
  | nil=>exact .inl rfl
  | cons m ms=>cases m <;> exact .inl rfl
 | (u,kd)::l,x,vs,es,ms,k,h,hs,he,t=>by
  obtain ⟨x1,x2⟩:=x
  obtain ⟨v,vs',rfl,h⟩:=h
  cases ms with
  | nil=>simp [U6] at hs
  | cons m ms =>
   simp only [U6,Bool.and_eq_true] at hs
   obtain ⟨⟨⟨hu,h2⟩,h3⟩,h4⟩:=hs
   have next:∀ {es'},A1C M w l x2 vs' es'→(∀ e∈es',obj e.1=e.2.2∧ρ e.1=e.2.1) →
     look (SV.one .dead) (A1T lo (k+1) ms l) t=.one .dead∨(8192+k≤t∧∃ v',(v::vs')[t - (8192+k)]?=some v'∧A0c M ρ obj v' (look (SV.one .dead) (A1T lo (k+1) ms l) t)):=by
    intro es' hP he'
    rcases A6u hP h4 he' t with h | ⟨h1,v',h5,h6⟩
    ·exact .inl h
    ·refine .inr ⟨by omega,v',?_,h6⟩
     rw [show t - (8192+k)=(t - (8192+(k+1)))+1 by omega]
     simpa using h5
   cases kd with
   | own i e tid =>
    obtain ⟨pl,es',hv,rfl,ho,h⟩:=h
    have h0:=he _ (List.mem_cons_self)
    have rest:=next h (fun e hm=>he e (List.mem_cons_of_mem _ hm))
    cases m with
    | wr c =>
     simp only [A1T]
     cases hb:Nat.blt k lo with
     | true=>exact rest
     | false =>
      simp only [cond_false,look]
      cases hq:Nat.beq (8192+k) t with
      | true =>
       have:=(B2 _ _).1 hq
       subst this
       exact .inr ⟨Nat.le_refl _,v,by simp,⟨e,tid,x1,h0.1,by rw [hv,h0.2]⟩⟩
      | false=>exact rest
    | _=>exact rest
   | d ty=>cases m <;> exact next h.2 he
   | fn f=>cases m <;> exact next h.2 he
   | nilS=>cases m <;> exact next h.2 he
   | box i ty =>
    obtain ⟨b,cap,es',hv,rfl,ho,h⟩:=h
    cases m <;> exact next h (fun e hm=>he e (List.mem_cons_of_mem _ hm))
   | _=>exact h.elim
theorem A4V{α:Type}{d:α}:∀ {l m:List (Nat×α)} {t:Nat},look d (l++m) t=(if(∃ p∈l,p.1=t) then look d l t else look d m t)
 | [],m,t=>by simp
 | (k,x)::l,m,t=>by
  simp only [List.cons_append,look]
  cases hb:Nat.beq k t with
  | true =>
   have:=(B2 _ _).1 hb
   rw [if_pos ⟨(k,x),by simp,this⟩]; rfl
  | false =>
   have hne:k≠t:=fun e=>by rw [(B2 _ _).2 e] at hb; cases hb
   simp only [cond_false]
   rw [A4V]
   by_cases h:∃ p∈l,p.1=t
   ·rw [if_pos h,if_pos (h.imp fun p hp=>⟨List.mem_cons_of_mem _ hp.1,hp.2⟩)]
   ·rw [if_neg h,if_neg]
    rintro ⟨p,hp,e⟩
    rcases List.mem_cons.1 hp with rfl | hp
    ·exact hne e
    ·exact h ⟨p,hp,e⟩
theorem A5Y{α:Type}{d:α}:∀ {l:List (Nat×α)} {t:Nat},(¬ ∃ p∈l,p.1=t)→look d l t=d
 | [],_,_=>rfl
 | (k,x)::l,t,h=>by
  simp only [look]
  cases hb:Nat.beq k t with
  | true=>exact absurd ⟨(k,x),by simp,(B2 _ _).1 hb⟩ h
  | false=>exact A5Y fun ⟨p,hp,e⟩=>h ⟨p,List.mem_cons_of_mem _ hp,e⟩
theorem B2J{lo:Nat}:∀ {sh:A5} {x:A5.den sh} {ms:List Mode} {k:Nat},U6 lo k ms sh=true→∀ p∈B4z sh x,p.1 < k+sh.length
 | [],_,_,_,_,p,hp=>by cases hp
 | (u,kd)::l,x,ms,k,hs,p,hp=>by
  cases ms with
  | nil=>simp [U6] at hs
  | cons m ms =>
   simp only [U6,Bool.and_eq_true] at hs
   obtain ⟨⟨⟨hu,h2⟩,h3⟩,h4⟩:=hs
   have hu:=(B2 _ _).1 hu
   simp only [B4z] at hp
   simp only [List.length_cons]
   rcases List.mem_cons.1 hp with rfl | hp
   ·simp only; omega
   ·have:=B2J h4 p hp
    omega
theorem A7P{lo:Nat}:∀ {sh:A5} {ms:List Mode} {k:Nat},∀ p∈A1T lo k ms sh,8192≤p.1
 | [],ms,k,p,hp=>by
  cases ms with
  | nil=>cases hp
  | cons m ms=>cases m <;> cases hp
 | (u,kd)::l,ms,k,p,hp=>by
  cases ms with
  | nil=>cases hp
  | cons m ms =>
   have rest:p∈A1T lo (k+1) ms l→8192≤p.1:=fun h=>A7P p h
   cases m with
   | wr c =>
    cases kd with
    | own i e tid =>
     simp only [A1T] at hp
     cases hb:Nat.blt k lo with
     | true=>rw [hb] at hp; exact rest hp
     | false =>
      rw [hb] at hp
      rcases List.mem_cons.1 hp with rfl | hp
      ·simp only; omega
      ·exact rest hp
    | _=>exact rest hp
   | _=>cases kd <;> exact rest hp
theorem A1U:∀ {l:List Nat},X3 l=true↔l.Nodup
 | []=>by simp [X3]
 | x::l=>by
  simp only [X3,Bool.and_eq_true,Bool.not_eq_true',List.nodup_cons,A1U (l:=l)]
  constructor
  ·rintro ⟨h,k⟩
   refine ⟨fun hm=>?_,k⟩
   rw [A4c.2 hm] at h
   cases h
  ·rintro ⟨h,k⟩
   refine ⟨?_,k⟩
   cases hb:B4B l x with
   | false=>rfl
   | true=>exact absurd (A4c.1 hb) h
theorem P9.lt{b:Nat}{pl:Place}{o:MObj}(h:P9 M w pl o)(ho:o≠.gone)(hb:pl.blk=some b):b < w.heap.size:=by
 cases pl with
 | no=>cases hb
 | «at» b' cap =>
  cases hb
  cases o with
  | gone=>exact absurd rfl ho
  | sl e tid l=>obtain ⟨_,_,cur,h,_⟩:=h; exact(Array.getElem?_eq_some_iff.1 h).1
  | bx t x=>obtain ⟨cur,tid,h,_⟩:=h; exact(Array.getElem?_eq_some_iff.1 h).1
theorem A5Z{α:Type}{β:Type}{d:β}(f:α→β):∀ {es:List (Nat×α)},(es.map (·.1)).Nodup→∀ {e},e∈es→look d (es.map fun e=>(e.1,f e.2)) e.1=f e.2
 | x::es,hn,e,he=>by
  simp only [List.map_cons,look]
  simp only [List.map_cons,List.nodup_cons] at hn
  rcases List.mem_cons.1 he with rfl | he
  ·rw [(B2 _ _).2 rfl]; rfl
  ·have:Nat.beq x.1 e.1=false:=by
    cases hb:Nat.beq x.1 e.1 with
    | false=>rfl
    | true=>exact absurd ((B2 _ _).1 hb ▸ List.mem_map_of_mem he) hn.1
   rw [this]
   exact A5Z f hn.2 he
theorem B2K{β:Type}{d:β}{α:Type}(f:α→β):∀ {es:List (Nat×α)} {i:Nat},look d (es.map fun e=>(e.1,f e.2)) i≠d→∃ e∈es,e.1=i
 | [],i,h=>absurd rfl h
 | x::es,i,h=>by
  simp only [List.map_cons,look] at h
  cases hb:Nat.beq x.1 i with
  | true=>exact ⟨x,by simp,(B2 _ _).1 hb⟩
  | false =>
   rw [hb] at h
   obtain ⟨e,he,h⟩:=B2K f (es:=es) h
   exact ⟨e,by simp [he],h⟩
theorem A7Q{sg:Sig}{n:Nat×Nat}(hs:B0o sg n=true){x:A5.den sg.sh}{vs:List Value}{es:List (Nat×Place×MObj)}(hP:A1C M w sg.sh x vs es)(hlen:vs.length=sg.sh.length)
  (hM:A2O M w) (hnd:(D6 (es.map (·.2))).Nodup) (hfree:∀ b∈D6 (es.map (·.2)),M b=none) :
  Good { n:=n,pv:=fun t=>(vs.toArray++Array.replicate (n.2 - vs.toArray.size) undef).getD t undef,M0:=M,w0:=w,bor:=fun b=>b∈D6 (es.map (·.2)),gv:=fun t=>(vs[t - 8192]?).getD undef } M (fun i=>look Place.no (es.map fun e=>(e.1,e.2.1)) i) (C3Z sg n.1 x)
   { tmps:=vs.toArray++Array.replicate (n.2 - vs.toArray.size) undef,defers:=[] } w:=by
 simp only [B0o,Bool.and_eq_true] at hs
 obtain ⟨⟨hsig,hdis⟩,hle⟩:=hs
 obtain ⟨hheap,hfirst⟩:=A0U hP
 rw [hfirst,A1U] at hdis
 have hobj:∀ e∈es,(C3Z sg n.1 x).obj e.1=e.2.2∧look Place.no (es.map fun e=>(e.1,e.2.1)) e.1=e.2.1:=fun e he =>
  ⟨by show look _ (A97 sg.sh x) _=_; rw [hheap]; exact A5Z (fun e:Place×MObj=>e.2) hdis he,A5Z (fun e:Place×MObj=>e.1) hdis he⟩
 have hback:∀ i,(C3Z sg n.1 x).obj i≠.gone→∃ e∈es,e.1=i:=by
  intro i hne
  have hne:look MObj.gone (A97 sg.sh x) i≠.gone:=hne
  rw [hheap] at hne
  exact B2K (fun e:Place×MObj=>e.2) hne
 have hmem:∀ e∈es,∀ b,e.2.1.blk=some b→b∈D6 (es.map (·.2)):=by
  intro e he b hb
  exact List.mem_filterMap.2 ⟨e.2,List.mem_map_of_mem he,hb⟩
 refine ⟨fun t=>?_,⟨?_,fun t _=>rfl⟩,rfl,hM,.refl M,fun id=>?_,fun id b hne hb=>?_,.refl _ _,fun _ _ _=>rfl⟩
 ·obtain ⟨hle,hle2⟩:=hle
  have hkeys:=B2J (x:=x) hsig
  simp only [Nat.ble_eq,Nat.zero_add] at hle hle2 hkeys
  by_cases h81:t < 8192
  rotate_left
  ·rw [Frm.val_ge h81]
   have hget:(C3Z sg n.1 x).get t=look (SV.one .dead) (A1T n.1 0 sg.modes sg.sh) t:=by
    show look _ (B4z sg.sh x++A1T n.1 0 sg.modes sg.sh) t=_
    rw [A4V,if_neg]
    rintro ⟨p,hp,e⟩
    have:=hkeys p hp
    omega
   rw [hget]
   rcases A6u hP hsig hobj t with h | ⟨_,v,hv,hr⟩
   ·rw [h]; trivial
   ·simp only [Nat.add_zero] at hv
    simp only [hv,Option.getD_some]
    exact hr
  rw [Frm.val_lt h81]
  have hget:(C3Z sg n.1 x).get t=look (SV.one .dead) (B4z sg.sh x) t:=by
   show look _ (B4z sg.sh x++A1T n.1 0 sg.modes sg.sh) t=_
   rw [A4V]
   split
   ·rfl
   ·rename_i hno
    rw [A5Y hno,A5Y]
    rintro ⟨p,hp,e⟩
    have:=A7P p hp
    omega
  rw [hget]
  rcases A9g hP hsig hobj t with h | ⟨_,v,hv,hr⟩
  ·rw [h]; trivial
  ·have hv':(vs.toArray++Array.replicate (n.2 - vs.toArray.size) undef).getD t undef=v:=by
    simp only [Nat.sub_zero] at hv
    have hlt:=(List.getElem?_eq_some_iff.1 hv).1
    simp only [Array.getD_eq_getD_getElem?]
    rw [Array.getElem?_append_left (by simpa using hlt)]
    simp [hv]
   rw [hv']
   exact hr
 ·simp only [Array.size_append,Array.size_replicate,List.size_toArray]
  have:sg.sh.length≤n.2:=by simpa [Nat.ble_eq] using hle.1
  omega
 ·by_cases hne:(C3Z sg n.1 x).obj id=.gone
  ·rw [hne]
   generalize look Place.no (es.map fun e=>(e.1,e.2.1)) id=pl
   cases pl <;> trivial
  ·obtain ⟨e,he,rfl⟩:=hback id hne
   rw [(hobj e he).1,(hobj e he).2]
   exact(A0l hP e he).1
 ·obtain ⟨e,he,rfl⟩:=hback id hne
  simp only [(hobj e he).2] at hb
  refine ⟨hfree b (hmem e he b hb),(A0l hP e he).1.lt (A0l hP e he).2 hb,.inr (hmem e he b hb),fun id' hid hne' hb'=>?_⟩
  obtain ⟨e',he',rfl⟩:=hback id' hne'
  simp only [(hobj e' he').2] at hb'
  have key:∀ (es:List (Nat×Place×MObj)),(D6 (es.map (·.2))).Nodup→∀ e∈es,∀ e'∈es,e.2.1.blk=some b→e'.2.1.blk=some b→e'.1≠e.1→False:=by
   intro es
   induction es with
   | nil=>intro _ e he; cases he
   | cons z es ih =>
    intro hn e he e' he' hb hb' hne
    have hm:∀ e∈es,e.2.1.blk=some b→b∈D6 (es.map (·.2)):=fun e he hb=>List.mem_filterMap.2 ⟨e.2,List.mem_map_of_mem he,hb⟩
    cases hz:z.2.1.blk with
    | none =>
     have hn':(D6 (es.map (·.2))).Nodup:=by simpa [D6,List.filterMap_cons,hz] using hn
     rcases List.mem_cons.1 he with rfl | he
     ·rw [hz] at hb; cases hb
     ·rcases List.mem_cons.1 he' with rfl | he'
      ·rw [hz] at hb'; cases hb'
      ·exact ih hn' e he e' he' hb hb' hne
    | some c =>
     have hn':c ∉ D6 (es.map (·.2))∧(D6 (es.map (·.2))).Nodup:=by simpa [D6,List.filterMap_cons,hz] using hn
     rcases List.mem_cons.1 he with rfl | he
     ·rcases List.mem_cons.1 he' with rfl | he'
      ·exact hne rfl
      ·rw [hz] at hb; cases hb; exact hn'.1 (hm e' he' hb')
     ·rcases List.mem_cons.1 he' with rfl | he'
      ·rw [hz] at hb'; cases hb'; rename_i he2; exact hn'.1 (hm e he2 hb)
      ·exact ih hn'.2 e he e' he' hb hb' hne
  exact key es hnd e he e' he' hb hb' hid
end
end Go.Eng
namespace Go.Eng
open Go.RowKit
section
variable {P:Program} {cx:Cx} {fr:Frm} {M M':Mem} {ρ:Nat→Place} {s s':St} {a:Act} {w:World}
theorem C0k{pl pl':Place}{n m:Nat}(h:pl.slice n=pl'.slice m):pl=pl'∧n=m:=by
 cases pl <;> cases pl' <;> simp [Place.slice] at h ⊢
 ·exact h
 ·exact ⟨⟨h.1,h.2.2⟩,h.2.1⟩
theorem A7S{M0:Mem}{w0:World}{lo:Nat}(g:Good fr M ρ s a w)(g':Good fr M' ρ s' a w):∀ {sh:A5} {x:A5.den sh} {vs:List Value} {es:List (Nat×Place×MObj)} {ms:List Mode} {k:Nat} {outs:List (Nat×TD)} {rs:List MV},
  A1C M0 w0 sh x vs es→U6 lo k ms sh=true→A4U lo s ms sh=some outs→(∀ o∈outs,s'.obj o.1=s.obj o.1)→(∀ i v,vs[i]?=some v→fr.val a (A5l lo (k+i))=v) →
  BackOk M' w ms (es.map (·.2)) (outs.map (fun o=>.d o.2.1 o.2.2)++rs) rs ∧
   (∀ b∈D6 (es.map (·.2)),b∈H5 ms (es.map (·.2))∨∃ o∈outs,(ρ o.1).blk=some b)∧(∀ o∈outs,s.obj o.1≠.gone)
 | [],x,vs,es,ms,k,outs,rs,hP,hs,ho,_,_=>by
  obtain ⟨_,rfl⟩:=hP
  cases ms with
  | cons m ms=>simp [U6] at hs
  | nil =>
   simp only [A4U,Option.some.injEq] at ho
   subst ho
   exact ⟨.nil,fun b hb=>(by cases hb),fun o ho=>(by cases ho)⟩
 | (t,kd)::l,x,vs,es,ms,k,outs,rs,hP,hs,ho,hfix,hval=>by
  obtain ⟨x1,x2⟩:=x
  obtain ⟨v,vs',rfl,hP⟩:=hP
  cases ms with
  | nil=>simp [U6] at hs
  | cons m ms =>
   simp only [U6,Bool.and_eq_true] at hs
   obtain ⟨⟨⟨hu,h2⟩,h3⟩,h4⟩:=hs
   have hu:=(B2 _ _).1 hu
   subst hu
   have hval':∀ i v,vs'[i]?=some v→fr.val a (A5l lo (t+1+i))=v:=fun i v hi=>by
    have:=hval (i+1) v (by simpa using hi)
    rwa [show t+(i+1)=t+1+i by omega] at this
   have hv0:fr.val a (A5l lo t)=v:=by simpa using hval 0 v rfl
   simp only [A4U] at ho
   cases m with
   | ro =>
    have hP':A1C M0 w0 l x2 vs' es:=by
     cases kd with
     | d ty=>exact hP.2
     | fn f=>exact hP.2
     | nilS=>exact hP.2
     | _=>simp [A2Z] at h2
    obtain ⟨h5,h6,h7⟩:=A7S (rs:=rs) g g' hP' h4 ho hfix hval'
    exact ⟨.ro h5,h6,h7⟩
   | con c =>
    cases kd with
    | own i e tid =>
     obtain ⟨pl,es',hv,rfl,hob,hP⟩:=hP
     obtain ⟨h5,h6,h7⟩:=A7S (rs:=rs) g g' hP h4 ho hfix hval'
     refine ⟨.con h5,fun b hb=>?_,h7⟩
     simp only [List.map_cons,H5,List.mem_append]
     simp only [List.map_cons,D6,List.filterMap_cons] at hb
     cases hbl:pl.blk with
     | none =>
      simp only [hbl] at hb
      exact(h6 b hb).imp .inr id
     | some c =>
      simp only [hbl,List.mem_cons] at hb
      rcases hb with rfl | hb
      ·exact .inl (.inl (by simp))
      ·exact(h6 b hb).imp .inr id
    | _=>simp [A2Z] at h2
   | bor =>
    cases kd with
    | box i ty =>
     obtain ⟨b,cap,es',hv,rfl,hob,hP⟩:=hP
     simp only at ho
     split at ho
     ·rename_i j hget
      split at ho
      ·rename_i ty' y hobj
       cases hdec:decide (ty'=ty) <;> rw [hdec] at ho <;> simp only [cond_true,cond_false,reduceCtorEq,Option.map_eq_some_iff] at ho
       have:=of_decide_eq_true hdec
       subst this
       obtain ⟨outs',ho',rfl⟩:=ho
       obtain ⟨h5,h6,h7⟩:=A7S (rs:=rs) g g' hP h4 ho' (fun o ho=>hfix o (List.mem_cons_of_mem _ ho)) hval'
       have hlt:t < lo:=by simpa [C5A,Nat.blt_eq] using h3
       have he:=g.env t
       rw [show A5l lo t=t by unfold A5l; rw [show Nat.blt t lo=true by rw [Nat.blt_eq]; exact hlt]; rfl] at hv0
       rw [hget,hv0,hv] at he
       obtain ⟨b',t',hb',hk,ht,hvv⟩:=he
       rw [hobj] at hvv
       simp only [A4y,N8,Value.pointer.injEq,Option.some.injEq,Addr.mk.injEq] at hvv
       have hbb:b=b':=hvv.1
       subst hbb
       have hat:=g'.objs j
       rw [hfix _ (List.mem_cons_self),hobj] at hat
       have hat2:P9 M' w (.at b cap) (.bx ty' y):=by
        cases hpl:ρ j with
        | no=>rw [hpl] at hb'; cases hb'
        | «at» b2 cap2=>rw [hpl] at hb' hat; cases hb'; exact hat
       refine ⟨.bor hat2 h5,fun c hc=>?_,fun o hm=>?_⟩
       ·simp only [List.map_cons,D6,List.filterMap_cons,Place.blk,List.mem_cons] at hc
        rcases hc with rfl | hc
        ·exact .inr ⟨_,List.mem_cons_self,hb'⟩
        ·rcases h6 c hc with h | ⟨o,hm,h⟩
         ·exact .inl (by simp only [List.map_cons,H5]; exact h)
         ·exact .inr ⟨o,List.mem_cons_of_mem _ hm,h⟩
       ·rcases List.mem_cons.1 hm with rfl | hm
        ·simp [hobj]
        ·exact h7 o hm
      ·cases ho
     ·cases ho
    | _=>simp [A2Z] at h2
   | wr c =>
    cases kd with
    | own i e tid =>
     obtain ⟨pl,es',hv,rfl,hob,hP⟩:=hP
     simp only at ho
     split at ho
     ·rename_i j hget
      split at ho
      ·rename_i e' tid' m hobj
       cases hdec:Nat.beq tid' tid <;> rw [hdec] at ho <;> simp only [cond_true,cond_false,reduceCtorEq,Option.map_eq_some_iff] at ho
       have he2:=(B2 _ _).1 hdec
       subst he2
       obtain ⟨outs',ho',rfl⟩:=ho
       obtain ⟨h5,h6,h7⟩:=A7S (rs:=rs) g g' hP h4 ho' (fun o ho=>hfix o (List.mem_cons_of_mem _ ho)) hval'
       have he:=g.env (A5l lo t)
       rw [hget,hv0,hv] at he
       obtain ⟨e3,tid3,l3,ho3,hvv⟩:=he
       rw [hobj] at ho3
       cases ho3
       obtain ⟨hpl,hlen⟩:=C0k hvv
       subst hpl
       have hat:=g'.objs j
       rw [hfix _ (List.mem_cons_self),hobj] at hat
       have hc:c=tid':=(B2 _ _).1 h2
       subst hc
       refine ⟨.wr hat hlen.symm h5,fun b hb=>?_,fun o hm=>?_⟩
       ·simp only [List.map_cons,D6,List.filterMap_cons] at hb
        have h6':b∈D6 (es'.map (·.2))→b∈H5 (Mode.wr c::ms) (List.map (·.2) ((i,ρ j,MObj.sl e c x1)::es'))∨∃ o∈(j,(⟨Ty.slice e',m⟩:TD))::outs',(ρ o.1).blk=some b:=fun hb=>by
         rcases h6 b hb with h | ⟨o,hm,h⟩
         ·exact .inl (by simp only [List.map_cons,H5]; exact h)
         ·exact .inr ⟨o,List.mem_cons_of_mem _ hm,h⟩
        cases hbl:(ρ j).blk with
        | none=>simp only [hbl] at hb; exact h6' hb
        | some c =>
         simp only [hbl,List.mem_cons] at hb
         rcases hb with rfl | hb
         ·exact .inr ⟨_,List.mem_cons_self,hbl⟩
         ·exact h6' hb
       ·rcases List.mem_cons.1 hm with rfl | hm
        ·simp [hobj]
        ·exact h7 o hm
      ·cases ho
     ·cases ho
    | _=>simp [A2Z] at h2
theorem B55:∀ {xs:List Arg} {i:Nat},i ∉ A1Q xs→E7 (N2 xs) i=none:=by
 intro xs i h
 refine A6q fun hm=>h ?_
 clear h
 induction xs with
 | nil=>simp [N2] at hm
 | cons x xs ih =>
  obtain ⟨sv,ob⟩:=x
  simp only [N2,List.map_append,List.mem_append] at hm
  have base:i∈A1Q xs→i∈A1Q ((sv,ob)::xs):=by
   intro hi
   cases sv with
   | tup ms=>exact hi
   | one m=>cases m <;> first | exact hi | exact List.mem_cons_of_mem _ hi
  rcases hm with hm | hm
  ·exact base (ih hm)
  ·cases sv with
   | tup ms=>simp [A6V] at hm
   | one m =>
    cases m with
    | own j =>
     cases ob <;> simp [A6V] at hm
     subst hm
     exact List.mem_cons_self
    | _=>simp [A6V] at hm
theorem B56{l m:List Nat}(h:B2e l m=true){i:Nat}(hi:i∈m):i ∉ l:=by
 intro hl
 have:=List.all_eq_true.1 h i hl
 simp only [Bool.not_eq_true'] at this
 rw [A4c.2 hi] at this
 cases this
theorem A9h{α:Type}{y:α}:∀ {l:List α} {k i:Nat},i≠k→(A3k l k y)[i]?=l[i]?
 | [],_,_,_=>by simp [A3k]
 | x::l,0,i,h=>by
  cases i with
  | zero=>exact absurd rfl h
  | succ i=>simp [A3k]
 | x::l,k+1,i,h=>by
  cases i with
  | zero=>simp [A3k]
  | succ i=>simp only [A3k,List.getElem?_cons_succ]; exact A9h (by omega)
theorem B57{α β:Type}{R:α→β→Prop}{y:β}(hy:∀ a,R a y){l:List α}{m:List β}(h:All2 R l m):∀ k,All2 R l (A3k m k y):=by
 induction h with
 | nil=>intro k; exact .nil
 | cons r h ih =>
  intro k
  cases k with
  | zero=>exact .cons (hy _) h
  | succ k=>exact .cons r (ih k)
theorem B58{a:Arg}{d:TD}(h:B8K false a=some d):E5 a=some d∨(d=⟨.slice .unit,[]⟩∧a.1=.one .nilS):=by
 unfold B8K at h
 split at h
 ·simp at h
 ·simp only [Option.some.injEq] at h
  exact .inr ⟨h.symm,rfl⟩
 ·exact .inl h
theorem B2L{fresh:Option (Nat×Nat)}{k:Nat}:D0N fresh k=true↔fresh.map (·.1)=some k:=by
 unfold D0N
 split
 ·simp [B2]
 ·simp
theorem B0p{fresh:Option (Nat×Nat)}{pl:Place}:∀ {us:List Value} {args oths:List Arg} {ds:List TD} {k0:Nat},All2 (ArgIs M ρ s) us args→All2 (fun v x=>∀ t y,E5 x=some ⟨t,y⟩→∃ cs,E8 M' t y cs∧v=C8 t cs) us oths →
  C0i fresh k0 args=some ds→(∀ i,fresh.map (·.1)≠some (k0+i)→oths[i]?=args[i]?) →
  (∀ i,fresh.map (·.1)=some (k0+i)→∃ a o tid,args[i]?=some a∧(∀ d,B8K true a=some d→MV.d d.1 d.2=o.asMV)∧fresh=some (k0+i,tid)∧A5T tid o∧P9 M' w pl o∧∀ v,ArgIs M ρ s v a→v=pl.val o) →
  ResOk M' w fresh pl k0 us (ds.map fun x=>.d x.1 x.2)
 | [],args,oths,ds,k0,h1,h2,hd,_,_=>by
  cases h1
  simp only [C0i,Option.some.injEq] at hd
  subst hd
  exact .nil
 | u::us,args,oths,ds,k0,h1,h2,hd,hne,heq=>by
  cases h1 with
  | @cons _ x _ xs r1 h1 =>
   cases h2 with
   | @cons _ y _ ys r2 h2 =>
    simp only [C0i] at hd
    split at hd
    ·rename_i d ds' hx hds
     simp only [Option.some.injEq] at hd
     subst hd
     have rest:ResOk M' w fresh pl (k0+1) us (ds'.map fun x=>.d x.1 x.2):=by
      refine B0p h1 h2 hds (fun i hi=>?_) fun i hi=>?_
      ·have:=hne (i+1) (by rwa [show k0+(i+1)=k0+1+i by omega])
       simpa using this
      ·obtain ⟨a,o,tid,h3,h4,h5,h6⟩:=heq (i+1) (by rwa [show k0+(i+1)=k0+1+i by omega])
       exact ⟨a,o,tid,by simpa using h3,h4,by rwa [show k0+1+i=k0+(i+1) by omega],h6⟩
     by_cases hk:fresh.map (·.1)=some k0
     ·obtain ⟨a,o,tid,h3,h4,h5,h6,h7,h8⟩:=heq 0 hk
      simp only [List.getElem?_cons_zero,Option.some.injEq] at h3
      subst h3
      rw [B2L.2 hk] at hx
      exact .fresh h5 h6 (h8 u r1) (h4 _ hx) h7 rest
     ·have h0:=hne 0 hk
      simp only [List.getElem?_cons_zero,Option.some.injEq] at h0
      subst h0
      have hf:D0N fresh k0=false:=by
       cases hc:D0N fresh k0 with
       | false=>rfl
       | true=>exact absurd (B2L.1 hc) hk
      rw [hf] at hx
      rcases B58 hx with hx | ⟨hx,hn⟩
      ·exact .plain hk (r2 d.1 d.2 hx) rest
      ·subst hx
       have hr:=r1.rel
       rw [hn] at hr
       have hu:u=.slice none 0 0:=hr
       exact .plain hk (by rw [hu]; exact A7O M' .unit) rest
    ·cases hd
end
theorem B59{M:Mem}{v:Value}(t:Ty){x:TD}(h:S3 M v (.d x.1 x.2)):S3 M v (.d (C3Y t x).1 (C3Y t x).2):=by
 unfold C3Y
 by_cases hx:x.1=t
 ·rw [if_pos hx]; exact h
 ·rw [if_neg hx]
  obtain ⟨t',y⟩:=x
  cases t with
  | slice e =>
   cases t' with
   | slice e' =>
    cases y with
    | nil =>
     obtain ⟨cs,⟨u,hc,ao,cap,h1,h2,h3,_⟩,hv⟩:=h
     exact ⟨cs,⟨u,hc,ao,cap,h1,h2,h3,fun hne=>absurd rfl hne⟩,hv⟩
    | cons z zs=>exact h
   | _=>exact h
  | _=>exact h
theorem A9i{M:Mem}{w:World}{pl:Place}:∀ {us:List Value} {ts:List Ty} {ds:List TD} {k:Nat},ResOk M w none pl k us (ds.map fun x:TD=>MV.d x.1 x.2)→ResOk M w none pl k us ((A7N ts ds).map fun x:TD=>MV.d x.1 x.2)
 | us,[],ds,k,h=>by simpa [A7N] using h
 | us,t::ts,[],k,h=>by simpa [A7N] using h
 | us,t::ts,x::xs,k,h=>by
  simp only [List.map_cons] at h
  simp only [A7N,List.map_cons]
  generalize hm:(MV.d x.1 x.2)=m at h
  cases h with
  | plain hne hp hr=>subst hm; exact .plain hne (B59 t hp) (A9i hr)
  | fresh he _ _ _ _ _=>cases he
theorem A4e{P:Program}{cx:Cx}(hcf:T3 P cx){sg:Sig}{n:Nat×Nat}(hs:B0o sg n=true){M0:Mem}{w0:World}{x:A5.den sg.sh}{vs:List Value}{es:List (Nat×Place×MObj)}(hP:A1C M0 w0 sg.sh x vs es)
  (hfree:∀ b∈D6 (es.map (·.2)),M0 b=none) {tmps0:Array Value} (ht0:∀ i v,vs[i]?=some v→tmps0.getD i undef=v) {f:A5.den sg.sh→Option (A8H sg.rtys)}
  {M:Mem} {ρ:Nat→Place} {s:St} {a:Act} {w:World} (hn81:vs.length≤8192) (hcn:cx.ntmps=n) (g:Good { n:=n,pv:=fun t=>tmps0.getD t undef,M0:=M0,w0:=w0,bor:=fun b=>b∈D6 (es.map (·.2)),gv:=fun t=>(vs[t - 8192]?).getD undef } M ρ s a w)
  {fn:Func} {r:A8H sg.rtys} (h:C5z cx sg fn.results.toList s=some r) :
  ∃ v,(results fn a.tmps).run P w=.ok v w∧D0w M0 w0 (B7 sg f) (es.map (·.2)) (Y9 sg.rtys r) (.returned v) w:=by
 unfold C5z at h
 split at h
 rotate_left
 ·cases h
 rename_i args outs hargs houts
 rw [hcn] at houts
 split at h
 rotate_left
 ·cases h
 rename_i fi ds hfi hds
 cases hb:(X3 (fi++outs.map (·.1)) && B2e (A1Q (A4D sg.fresh args)) (fi++outs.map (·.1))) <;> rw [hb] at h <;> simp only [cond_true,cond_false,reduceCtorEq] at h
 simp only [Bool.and_eq_true] at hb
 obtain ⟨hdis,hnone⟩:=hb
 rw [A1U] at hdis
 obtain ⟨r',hr,hgive⟩:=A6t h
 cases hr
 obtain ⟨us,hrun,hrel⟩:=B54 hcf g hargs
 have hpz:All2 (Pz M ρ s) us (A4D sg.fresh args):=by
  have h1:All2 (Pz M ρ s) us args:=by
   have h0:∀ {us:List Value} {xs:List Arg},All2 (ArgIs M ρ s) us xs→All2 (Pz M ρ s) us xs:=by
    intro us xs h
    induction h with
    | nil=>exact .nil
    | cons r _ ih=>exact .cons r.pz ih
   exact h0 hrel
  unfold A4D
  split
  ·exact h1
  ·exact B57 (fun _=>trivial) h1 _
 obtain ⟨M',hM',g',hfz,_⟩:=g.freezeAll _ us hpz
 have hobj':∀ i,i∈fi++outs.map (·.1)→(({ rep:=A1c (A4D sg.fresh args),objs:=N2 (A4D sg.fresh args),val:=.one .dead }:Eff).app none s).obj i=s.obj i:=by
  intro i hi
  rw [Eff.obj_app,B55 (B56 hnone hi)]
  rfl
 generalize ({ rep:=A1c (A4D sg.fresh args),objs:=N2 (A4D sg.fresh args),val:=.one .dead }:Eff).app none s=s' at g' hobj'
 simp only [B0o,Bool.and_eq_true] at hs
 obtain ⟨⟨hsig,hdis0⟩,hle⟩:=hs
 have hfixv:∀ i v,vs[i]?=some v→Frm.val { n:=n,pv:=fun t=>tmps0.getD t undef,M0:=M0,w0:=w0,bor:=fun b=>b∈D6 (es.map (·.2)),gv:=fun t=>(vs[t - 8192]?).getD undef } a (A5l n.1 (0+i))=v:=by
  intro i v hv
  have hi:=(List.getElem?_eq_some_iff.1 hv).1
  simp only [Nat.zero_add]
  unfold A5l
  cases hb:Nat.blt i n.1 with
  | true =>
   have hlt:i < n.1:=by simpa [Nat.blt_eq] using hb
   rw [cond_true,Frm.val_lt (by omega),g.size.2 i hlt]
   exact ht0 i v hv
  | false =>
   rw [cond_false,Frm.val_ge (by omega)]
   simp only [Nat.add_sub_cancel_left,hv,Option.getD_some]
 generalize hds':(bif sg.fresh.isNone then A7N (sg.rtys.drop outs.length) ds else ds)=ds' at hgive
 obtain ⟨hback,hblk,houtne⟩:=A7S (rs:=ds'.map fun x:TD=>MV.d x.1 x.2) g g' hP hsig houts (fun o ho=>hobj' _ (List.mem_append_right _ (List.mem_map_of_mem ho))) hfixv
 have hmem':∀ b,b < w0.heap.size→b ∉ H5 sg.modes (es.map (·.2))→M' b=M0 b:=by
  intro b hb hnc
  by_cases hbor:b∈D6 (es.map (·.2))
  ·rw [hfree b hbor]
   rcases hblk b hbor with h | ⟨o,ho,hb2⟩
   ·exact absurd h hnc
   ·exact(g'.apart o.1 b (by rw [hobj' _ (List.mem_append_right _ (List.mem_map_of_mem ho))]; exact houtne o ho) hb2).1
  ·exact g'.keep b hb hbor
 have fin:∀ pl,ResOk M' w sg.fresh pl 0 us (ds.map fun x:TD=>MV.d x.1 x.2)→(∀ b,pl.blk=some b→M' b=none∧b < w.heap.size∧(w0.heap.size≤b∨b∈H5 sg.modes (es.map (·.2)))) →
   D0w M0 w0 (B7 sg f) (es.map (·.2)) (Y9 sg.rtys r) (.returned (A2V us)) w:=by
  intro pl h1 h2
  have h1':ResOk M' w sg.fresh pl 0 us (ds'.map fun x:TD=>MV.d x.1 x.2):=by
   rw [← hds']
   cases hfe:sg.fresh with
   | none=>rw [hfe] at h1; simp only [Option.isNone,cond_true]; exact A9i h1
   | some z=>rw [hfe] at h1; simpa only [Option.isNone,cond_false] using h1
  refine ⟨M',ds'.map (fun x:TD=>MV.d x.1 x.2),us,pl,rfl,g'.old,g'.mem,g'.since,hmem',?_,h1',h2⟩
  rw [hgive,List.map_append,List.map_map]
  exact hback
 refine ⟨_,hrun,?_⟩
 cases hfr:sg.fresh with
 | none =>
  rw [hfr] at hfz
  refine fin .no ?_ (fun b hb=>by cases hb)
  rw [hfr]
  rw [hfr] at hds
  exact B0p hrel hfz hds (fun i _=>rfl) fun i hi=>by cases hi
 | some kt =>
  obtain ⟨k,tid⟩:=kt
  rw [hfr] at hfz
  rw [hfr] at hfi
  have key:∀ (j:Nat) (a:Arg) (o:MObj),fi=[j]→args[k]?=some a→s.obj j=o→o≠.gone→(∀ d,B8K true a=some d→MV.d d.1 d.2=o.asMV)→A5T tid o→(∀ v,ArgIs M ρ s v a→v=(ρ j).val o) →
    D0w M0 w0 (B7 sg f) (es.map (·.2)) (Y9 sg.rtys r) (.returned (A2V us)) w:=by
   intro j a o hfj hget hsj hng hmv hok hval
   subst hfj
   have hsj':s'.obj j=o:=by rw [hobj' j (by simp)]; exact hsj
   have hat:=g'.objs j
   rw [hsj'] at hat
   refine fin (ρ j) ?_ fun b hb=>?_
   ·rw [hfr]
    rw [hfr] at hds
    refine B0p hrel hfz hds (fun i hi=>?_) fun i hi=>?_
    ·unfold A4D
     refine A9h fun e=>hi ?_
     simp [e]
    ·simp only [Option.map_some,Option.some.injEq,Nat.zero_add] at hi
     subst hi
     exact ⟨a,o,tid,hget,hmv,by simp,hok,hat,hval⟩
   ·obtain ⟨h1,h2,h3,h4⟩:=g'.apart j b (by rw [hsj']; exact hng) hb
    refine ⟨h1,h2,h3.imp id fun hbor=>?_⟩
    rcases hblk b hbor with h | ⟨o,ho,hb2⟩
    ·exact h
    ·have hne:o.1≠j:=by
      intro e
      simp only [List.cons_append,List.nil_append,List.nodup_cons] at hdis
      exact hdis.1 (e ▸ List.mem_map_of_mem ho)
     exact absurd hb2 (h4 o.1 hne (by rw [hobj' _ (List.mem_append_right _ (List.mem_map_of_mem ho))]; exact houtne o ho))
  simp only [C0j] at hfi
  split at hfi
  ·rename_i j e tid' l hget
   cases hbt:Nat.beq tid' tid <;> rw [hbt] at hfi <;> simp only [cond_true,cond_false,reduceCtorEq,Option.some.injEq] at hfi
   have htt:=(B2 _ _).1 hbt
   subst htt
   obtain ⟨u,hu,hua⟩:=hrel.get hget
   have hsj:s.obj j=.sl e tid' l:=hua.obj j rfl
   refine key j _ _ hfi.symm hget hsj (by simp) (fun d hd=>?_) rfl (fun v hv=>?_)
   ·have hd':E5 (.one (.own j),.sl e tid' l)=some d:=hd
    simp only [E5,Option.some.injEq] at hd'
    subst hd'
    rfl
   ·obtain ⟨e3,tid3,l3,ho3,hvv⟩:=hv.rel
    rw [hsj] at ho3
    cases ho3
    exact hvv
  ·rename_i j t y hget
   cases hbt:A10 t <;> rw [hbt] at hfi <;> simp only [cond_true,cond_false,reduceCtorEq,Option.some.injEq] at hfi
   obtain ⟨u,hu,hua⟩:=hrel.get hget
   have hsj:s.obj j=.bx t y:=hua.obj j rfl
   refine key j _ _ hfi.symm hget hsj (by simp) (fun d hd=>?_) hbt (fun v hv=>?_)
   ·simp only [B8K,hbt,Bool.and_self,cond_true,Option.some.injEq] at hd
    subst hd
    rfl
   ·obtain ⟨b,t',hb,_,_,hvv⟩:=hv.rel
    rw [hsj] at hvv
    cases hpl:ρ j with
    | no=>rw [hpl] at hb; cases hb
    | «at» b2 cap =>
     rw [hpl] at hb
     cases hb
     simpa [A4y,N8,Place.val] using hvv
  ·cases hfi
theorem C40{P:Program}{cx:Cx}{f:FuncId}{fn:Func}{code:Code}{sg:Sig}{model:A5.den sg.sh→Option (A8H sg.rtys)}{hs js:Nat→Option (Hint (A8H sg.rtys))}
  (hf : P.funcs[f]? = some fn) (hb : fn.body = some code) (hname : (fn.name != "runtime.NumGoroutine") = true) (hcf : T3 P cx) (hcalls : ∀ f c, cx.call f = some c → A8G P f c) (hmix : P.follows .mixedOrders = true)
  (hn:cx.ntmps.2=fn.ntmps) (hsg:B0o sg cx.ntmps=true) (ho:∀ fr:Frm,cx.ntmps=fr.n→HOk P fr hs js code)
  (hrun:∀ x,model x=run cx hs js code (C3Z sg cx.ntmps.1 x) (D0x cx sg fn.results.toList)):CSound P f (B7 sg model):=by
 refine ⟨fun ms K=>A1f sg model ms K,?_,?_⟩
 ·simp [hf,hb,hname]
 ·intro ms outs hcm M w vs hs' hM hargs hnd hfree
  have hsg':=hsg
  simp only [B0o,Bool.and_eq_true] at hsg'
  obtain ⟨⟨hsig,_⟩,hle⟩:=hsg'
  obtain ⟨x,es,hx,hP,rfl,hlen⟩:=B2I hargs hsig hcm
  obtain ⟨r,hr,he⟩:=Option.bind_eq_some_iff.1 hx
  cases he
  rw [hrun] at hr
  refine calls_of_wp hf hb ?_
  have hn81:vs.length≤8192:=by rw [hlen]; simpa [Nat.ble_eq] using hle.2
  have g0:=A7Q hsg hP hlen hM hnd hfree
  rw [← hn]
  refine A3B hcf hcalls rfl hmix code _ _ (ho _ rfl) hr M _ _ w _ g0 ?_
  have ht0:∀ i v,vs[i]?=some v→(vs.toArray++Array.replicate (cx.ntmps.2 - vs.toArray.size) undef).getD i undef=v:=by
   intro i v hv
   have hlt:=(List.getElem?_eq_some_iff.1 hv).1
   simp only [Array.getD_eq_getD_getElem?]
   rw [Array.getElem?_append_left (by simpa using hlt)]
   simp [hv]
  intro ex M' ρ' s' a' w' g' hk
  cases ex with
  | exit i=>cases hk
  | normal=>exact ⟨g'.defers,A4e hcf hsg hP hfree ht0 hn81 rfl g' hk⟩
  | ret=>exact ⟨g'.defers,A4e hcf hsg hP hfree ht0 hn81 rfl g' hk⟩
end Go.Eng
namespace Go.Eng
def A5n:List (Nat×Contract)→Nat→Option Contract
 | [],_=>none
 | (k,c)::l,f=>bif Nat.beq k f then some c else A5n l f
theorem A2{P:Program}:∀ {l:List (Nat×Contract)},(∀ p∈l,A8G P p.1 p.2)→∀ f c,A5n l f=some c→A8G P f c
 | [],_,f,c,h=>by cases h
 | (k,c0)::l,hl,f,c,h=>by
  simp only [A5n] at h
  cases hb:Nat.beq k f with
  | true =>
   rw [hb] at h
   simp only [cond_true,Option.some.injEq] at h
   have:=(B2 _ _).1 hb
   subst this; subst h
   exact hl _ List.mem_cons_self
  | false =>
   rw [hb] at h
   exact A2 (fun p hp=>hl p (List.mem_cons_of_mem _ hp)) f c h
theorem B6a:∀ {l:List (Nat×TyRow)} {t:Nat} {r:TyRow},Cx.row?.go t l=some r→(t,r)∈l
 | [],_,_,h=>by cases h
 | (k,x)::l,t,r,h=>by
  simp only [Cx.row?.go] at h
  cases hb:Nat.beq k t with
  | true =>
   rw [hb] at h
   simp only [cond_true,Option.some.injEq] at h
   have:=(B2 _ _).1 hb
   subst this; subst h
   exact List.mem_cons_self
  | false=>rw [hb] at h; exact List.mem_cons_of_mem _ (B6a h)
theorem B5a{P:Program}{cx:Cx}{l:List (Nat×TyRow)}(h:cx.types=l)(hl:∀ p∈l,RowOk P cx p.1 p.2):T3 P cx:=by
 intro t r hr
 unfold Cx.row? at hr
 rw [h] at hr
 exact hl (t,r) (B6a hr)
def A4{R:Type}:List (Nat×Hint R)→Nat→Option (Hint R)
 | [],_=>none
 | (k,c)::l,f=>bif Nat.beq k f then some c else A4 l f
def sub:Code→List Nat→Code
 | c,[]=>c
 | .seq a _,0::p=>sub a p
 | .seq _ b,1::p=>sub b p
 | .cond _ a _,0::p=>sub a p
 | .cond _ _ b,1::p=>sub b p
 | .block _ c,0::p=>sub c p
 | .loop c,0::p=>sub c p
 | _,_=>.skip
def C6(fn:Func):Code:=fn.body.getD .skip
def A5o(P:Program)(l:List (Nat×Contract)):Prop:=∀ p∈l,A8G P p.1 p.2
theorem A3{P:Program}:A5o P []:=fun _ h=>by cases h
theorem A1{P:Program}{f:Nat}{c:Contract}{l:List (Nat×Contract)}(h:CSound P f c)(hl:A5o P l):A5o P ((f,c)::l):=List.forall_mem_cons.2 ⟨.inl h,hl⟩
theorem A2o{P:Program}{f:Nat}{c:Contract}{l:List (Nat×Contract)}(h:CExt P f c)(hl:A5o P l):A5o P ((f,c)::l):=List.forall_mem_cons.2 ⟨.inr h,hl⟩
def B5b(P:Program)(cx:Cx)(l:List (Nat×TyRow)):Prop:=∀ p∈l,RowOk P cx p.1 p.2
theorem C41{P:Program}{cx:Cx}:B5b P cx []:=fun _ h=>by cases h
theorem C3{P:Program}{cx:Cx}{t:Nat}{r:TyRow}{l:List (Nat×TyRow)}(h:RowOk P cx t r)(hl:B5b P cx l):B5b P cx ((t,r)::l):=List.forall_mem_cons.2 ⟨h,hl⟩
def A9j{R:Type}(P:Program)(fr:Frm)(l:List (Code×Hint R)):Prop:=∀ p∈l,A3A P fr p.1 p.2.sh p.2.model
theorem C5{R:Type}{P:Program}{fr:Frm}:A9j (R:=R) P fr []:=fun _ h=>by cases h
theorem B4{R:Type}{P:Program}{fr:Frm}{c:Code}{sh:A5}{m:A5.den sh→(Ex→St→Option R)→Option R}{l:List (Code×Hint R)}(h:A3A P fr c sh m)(hl:A9j P fr l):A9j P fr ((c,⟨sh,m⟩)::l):=List.forall_mem_cons.2 ⟨h,hl⟩
theorem E2{R:Type}{P:Program}{fr:Frm}{hs js:Nat→Option (Hint R)}{c:Code}{l:List (Code×Hint R)}(he:C0e hs js c=l)(h:A9j P fr l):HOk P fr hs js c:=by
 unfold HOk; rw [he]; exact h
end Go.Eng
namespace Go.Eng
open Go.RowKit
def B8L(w:World):Mem:=fun b=>w.heap[b]?
theorem B6b(w:World):A2O (B8L w) w:=fun _ _ h=>h
theorem A2z(M:Mem)(k:IntKind)(n:Int):S3 M (.int k n) (.d (.int k) n):=⟨_,rfl,by simp [C8,Ty.isAgg]⟩
theorem B8N(M:Mem)(b:Bool):S3 M (.bool b) (.d .bool b):=⟨_,rfl,by simp [C8,Ty.isAgg]⟩
theorem A1L(M:Mem)(k:IntKind):∀ l:List Int,E3 (E8 M (.int k)) l (l.map (.int k))
 | []=>rfl
 | x::l=>⟨[.int k x],l.map (.int k),rfl,rfl,A1L M k l⟩
theorem A9k{w:World}{a:Addr}{v:Value}(h:w.cell? a=some v):a.spot=none∧∃ cur e fz,w.heap[a.block]?=some (.cells cur e fz)∧cur[a.off]?=some v:=by
 unfold World.cell? at h
 split at h
 ·rename_i c e fz hb
  split at h
  ·cases h
  ·rename_i hs
   refine ⟨?_,c,e,fz,hb,h⟩
   cases hsp:a.spot with
   | none=>rfl
   | some x=>rw [hsp] at hs; simp at hs
 ·cases h
theorem C0l{w:World}{k:IntKind}{a:Option Addr}{len cap:Nat}{zs:List Int}
  (h:(a=none∧len=0∧cap=0∧zs=[])∨∃ x,a=some x∧len≤cap∧cap≤maxLen∧zs.length=cap∧(∀ i,i < zs.length→w.cell? (x.add i)=some (.int k (zs.getD i 0)))∧∀ n∈zs,(Lit.int k n).wf=true) :
  S3 (B8L w) (.slice a len cap) (.d (.slice (.int k)) (zs.take len)):=by
 rcases h with ⟨rfl,rfl,rfl,rfl⟩ | ⟨x,rfl,hle,hmax,hlen,hcell,_⟩
 ·exact A7O _ _
 ·have hl:(zs.take len).length=len:=by rw [List.length_take]; omega
  refine ⟨[.slice (some x) len cap],⟨_,rfl,some x,cap,by rw [hl],by rw [hl]; exact hle,(fun h=>by cases h),fun hne=>?_⟩,by simp [C8,Ty.isAgg]⟩
  have hpos:0 < len:=by
   rcases Nat.eq_zero_or_pos len with h | h
   ·subst h; simp at hne
   ·exact h
  have h0:=hcell 0 (by omega)
  simp only [Addr.add,if_true] at h0
  obtain ⟨hs,cur,e,fz,hb,_⟩:=A9k h0
  refine ⟨x.block,x.off,cur,e,fz,by cases x; simp_all,hb,(zs.take len).map (.int k),A1L _ k _,?_⟩
  apply List.ext_getElem?
  intro i
  rw [List.getElem?_take]
  split
  ·rename_i hi
   simp only [List.length_map,hl] at hi
   have hz:i < zs.length:=by omega
   have hci:=hcell i hz
   have hoff:(x.add i).off=x.off+i:=by unfold Addr.add; split <;> simp_all
   have hblk:(x.add i).block=x.block:=by unfold Addr.add; split <;> rfl
   obtain ⟨_,cur2,e2,fz2,hb2,hc2⟩:=A9k hci
   rw [hblk,hb] at hb2
   cases hb2
   rw [hoff] at hc2
   rw [List.getElem?_drop,List.getElem?_map,List.getElem?_take,if_pos hi]
   rw [Array.getElem?_toList,hc2]
   simp [List.getD_eq_getElem?_getD,hz]
  ·rename_i hi
   exact(List.getElem?_eq_none (by omega)).symm
theorem B5c{M:Mem}{w:World}:∀ {modes:List Mode} {vs:List Value} {ms:List MV},A1d modes=true→modes.length=ms.length→All2 (S3 M) vs ms→ArgsOk M w modes vs ms []
 | [],_,_,_,hl,h=>by
  cases h with
  | nil=>exact .nil
  | cons _ _=>simp at hl
 | m::modes,_,_,hr,hl,h=>by
  cases h with
  | nil=>simp at hl
  | cons h1 h2 =>
   cases m with
   | ro=>exact .ro h1 (B5c (by simpa [A1d] using hr) (by simpa using hl) h2)
   | _=>simp [A1d] at hr
theorem C42{P:Program}{f:FuncId}{c:Contract}(hs:CSound P f c)(hro:A1d c.modes=true)(hfr:c.fresh=none){vs:List Value}{ms:List MV}{w:World}(hl:c.modes.length=ms.length)(hv:All2 (S3 (B8L w)) vs ms)
  (hcm:c.cm ms some=some [.d .bool true]):Calls P f vs.toArray w fun e w'=>e=.returned (.bool true)∧Below w.heap.size w w':=by
 refine(hs.runs ms _ hcm (B8L w) w vs [] (B6b w) (B5c hro hl hv) (by simp [D6]) (fun b hb=>by simp [D6] at hb)).mono ?_
 rintro e w' ⟨M',rs,us,pl,rfl,_,_,hsince,_,hback,hres,_⟩
 have hrs:rs=[.d .bool true]:=by
  have:∀ {ms:List Mode} {hs:List (Place×MObj)} {os rs:List MV},A1d ms=true→BackOk M' w' ms hs os rs→rs=os:=by
   intro ms hs os rs hro h
   induction h with
   | nil=>rfl
   | ro _ ih=>exact ih (by simpa [A1d] using hro)
   | _=>simp [A1d] at hro
  exact this hro hback
 subst hrs
 rw [hfr] at hres
 have hus:us=[.bool true]:=by
  cases hres with
  | fresh he _ _ _ _ _=>cases he
  | plain _ hp hr =>
   cases hr with
   | nil =>
    obtain ⟨cs,hf,he⟩:=hp
    have hf':cs=[.bool true]:=hf
    subst hf'
    simp [C8,Ty.isAgg] at he
    rw [he]
 subst hus
 exact ⟨rfl,hsince.os,hsince.tape,hsince.output,hsince.size,fun k hk=>hsince.block k hk (by simp [D6])⟩
end Go.Eng
namespace Go.Eng
theorem Q6{x:Int}(h:-9223372036854775808≤x∧x≤9223372036854775807):IntKind.i64.wrap x=x:=by
 simp only [IntKind.wrap,IntKind.bits,IntKind.signed,Bool.true_and,ge_iff_le,decide_eq_true_eq]
 split <;> omega
theorem F5{x:Int}(h:0≤x∧x≤18446744073709551615):IntKind.u64.wrap x=x:=by
 simp only [IntKind.wrap,IntKind.bits,IntKind.signed,Bool.false_and,Bool.false_eq_true,if_false]
 omega
theorem B5d{x:Int}(h:0≤x∧x≤255):IntKind.u8.wrap x=x:=by
 simp only [IntKind.wrap,IntKind.bits,IntKind.signed,Bool.false_and,Bool.false_eq_true,if_false]
 omega
theorem C4(x:Int):IntKind.u64.wrap x=x % 18446744073709551616:=by
 simp [IntKind.wrap,IntKind.bits,IntKind.signed]
theorem A30(x:Int):IntKind.u8.wrap x=x % 256:=by
 simp [IntKind.wrap,IntKind.bits,IntKind.signed]
theorem H4{x y:Int}(h:-9223372036854775808≤x+y∧x+y≤9223372036854775807):D5 .i64 x y=x+y:=Q6 h
theorem A31{x y:Int}(h:-9223372036854775808≤x - y∧x - y≤9223372036854775807):I5 .i64 x y=x - y:=Q6 h
theorem C43{x y:Int}(h:-9223372036854775808≤x*y∧x*y≤9223372036854775807):A2H .i64 x y=x*y:=Q6 h
theorem B0q{x y:Int}(h:0≤x+y∧x+y≤18446744073709551615):D5 .u64 x y=x+y:=F5 h
theorem B6c{x y:Int}(h:0≤x - y∧x - y≤18446744073709551615):I5 .u64 x y=x - y:=F5 h
theorem C7z{x:Int}(h:(Lit.int .i64 x).wf=true):-9223372036854775808≤x∧x≤9223372036854775807:=by
 simpa [Lit.wf,IntKind.min,IntKind.max,IntKind.signed,IntKind.bits] using h
theorem B8{x y:Int}:ltI x y=true↔x < y:=by simp [ltI]
theorem H7{x y:Int}:leI x y=true↔x≤y:=by simp [leI]
theorem D1{x y:Int}:eqI x y=true↔x=y:=by simp [eqI]
theorem G9{i:Int}{n:Nat}:inI i n=true↔0≤i∧i < n:=by simp [inI]
theorem B2N{lo hi:Int}{n:Nat}:A29 lo hi n=true↔0≤lo∧lo≤hi∧hi≤n:=by simp [A29]
theorem K7{n b:Nat}:K3 n b=true↔n*b≤140737488355328∧n≤281474976710656:=by simp [K3]
theorem V4{n c:Int}{b:Nat}:Y8 n c b=true↔0≤n∧n≤c∧(b:Int)*c≤140737488355328∧c≤281474976710656:=by simp [Y8]
theorem not_true{b:Bool}:not b=true↔b=false:=by cases b <;> simp
end Go.Eng
