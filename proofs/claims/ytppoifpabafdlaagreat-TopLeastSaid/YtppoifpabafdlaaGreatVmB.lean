/- A machine for A48 runs, part B. -/
import Derived.Test.YtppoifpabafdlaaGreatVmA
import Derived.RangeFuncRecord
import Derived.RangeFuncCalls
import Derived.OrdersIn
import Derived.RangeFuncLeaves
set_option linter.unusedVariables false
set_option linter.unusedSimpArgs false
namespace Go.Vm
open Go.Eng Go.RowKit
def FW(ro:Option Nat):Fence:={ fn:=fun _=>True,depth:=none,alive:=false,round:=ro }
def A68(ρ:Rho)(n:Nat):Prop:=∀ id,n≤id→ρ id=none
def Chg(ρ:Rho)(n:Nat)(ρ':Rho)(n':Nat):Prop:=n≤n'∧∀ id,ρ' id≠ρ id→n≤id∧id < n'
theorem Chg.refl(ρ:Rho)(n:Nat):Chg ρ n ρ n:=⟨Nat.le_refl _,fun _ h=>absurd rfl h⟩
theorem Chg.trans{a b c:Rho}{n m k:Nat}(h:Chg a n b m)(g:Chg b m c k):Chg a n c k :=
 ⟨Nat.le_trans h.1 g.1,fun id hne=>by
  by_cases e:c id=b id
  ·obtain ⟨h1,h2⟩:=h.2 id (by rw [← e]; exact hne)
   exact ⟨h1,Nat.lt_of_lt_of_le h2 g.1⟩
  ·obtain ⟨h1,h2⟩:=g.2 id e
   exact ⟨Nat.le_trans h.1 h1,h2⟩⟩
theorem Chg.fresh{a b:Rho}{n m:Nat}(h:Chg a n b m)(f:A68 a n):A68 b m:=fun id hid=>by
 by_cases e:b id=a id
 ·rw [e]; exact f id (Nat.le_trans h.1 hid)
 ·have:=(h.2 id e).2; omega
theorem A37.chg{a b:Rho}{n m:Nat}(h:A37 a n b m):Chg a n b m:=by
 rcases h with ⟨rfl,rfl⟩ | ⟨l,rfl,rfl⟩
 ·exact .refl _ _
 ·refine ⟨Nat.le_succ _,fun id hne=>?_⟩
  unfold Rho.upd at hne
  by_cases e:id=n
  ·omega
  ·rw [if_neg e] at hne; exact absurd rfl hne
def A2C(ρ:Rho)(env:Tr VV)(a:Act):Prop:=∀ t,D9 ρ (a.tmps.getD t undef) ((env.get D t).getD .und)
theorem A2C.mono{ρ ρ':Rho}(h:ρ.le ρ'){env:Tr VV}{a:Act}(e:A2C ρ env a):A2C ρ' env a:=fun t=>(e t).mono h
structure FRel (ρ:Rho) (nt:Nat) (s:VSt) (a:Act) (w:World):Prop where
 env:A2C ρ s.env a
 size:a.tmps.size=nt
 marks:All2 (fun (d:Deferred) id=>∃ l,ρ id=some l∧d={ target:=.collected l.1,args:=#[] }) a.defers s.dl
 heap:HRel ρ s.h.obj w
 fresh:A68 ρ s.h.nxt
theorem A9s{ρ:Rho}{u:Value}{v:VV}(h:B6f u=some v):D9 ρ u v:=by
 unfold B6f at h
 split at h
 ·rename_i cs
  cases hb:cs.toList.all C0x <;> rw [hb] at h <;> simp only [cond_true,cond_false,reduceCtorEq] at h
  cases h
  refine ⟨cs.toList,?_,by simp [mkV],fun h=>by cases h⟩
  have:∀ l:List Value,l.all C0x=true→All2 (A1u ρ) l (l.map .v):=by
   intro l
   induction l with
   | nil=>intro _; exact .nil
   | cons a l ih =>
    intro h
    simp only [List.all_cons,Bool.and_eq_true] at h
    exact .cons ⟨rfl,h.1⟩ (ih h.2)
  exact this _ hb
 ·cases h
 ·rename_i h1 h2
  cases h
  refine D9.one.2 ⟨rfl,?_⟩
  cases u <;> first | rfl | (exact absurd rfl (h1 _)) | (exact absurd rfl (h2 _))
theorem A80{ρ:Rho}{env:Tr VV}{a:Act}(e:A2C ρ env a){x:Operand}{v:VV}(h:K5 env x=some v):D9 ρ (a.eval x) v:=by
 cases x with
 | tmp t =>
  have:=e t
  simp only [K5] at h
  split at h
  ·rename_i y hy
   cases h
   rw [hy] at this
   exact this
  ·rename_i hy
   cases h
   rw [hy] at this
   exact this
 | const u=>exact A9s h
 | global g=>cases h
 | func f=>cases h; exact D9.one.2 ⟨#[],rfl,.nil⟩
theorem C12(a:Act)(t:Nat)(v:Value)(ht:t < a.tmps.size)(j:Nat):(a.put (some t) v).tmps.getD j undef=if j=t then v else a.tmps.getD j undef:=by
 simp only [Act.put,Array.getD_eq_getD_getElem?]
 rw [Array.getElem?_setIfInBounds]
 by_cases e:t=j
 ·subst e; simp [ht]
 ·rw [if_neg e,if_neg (fun h=>e h.symm)]
theorem A2C.put{ρ:Rho}{env env':Tr VV}{a:Act}(e:A2C ρ env a){dst:Option Nat}{nt:Nat}(hs:a.tmps.size=nt)(hd:C0H nt dst=true){u:Value}{v:VV}(hu:D9 ρ u v)(h:B9D env dst v=some env'):A2C ρ env' (a.put dst u):=by
 cases dst with
 | none=>cases h; exact e
 | some t =>
  have ht:t < a.tmps.size:=by rw [hs]; exact Nat.le_of_ble_eq_true hd
  intro j
  rw [C12 a t u ht]
  have hg:env'.get D j=if j=t then some v else env.get D j:=Tr.get_set h j
  rw [hg]
  split
  ·exact hu
  ·exact e j
theorem B0J(a:Act)(dst:Option Nat)(v:Value):(a.put dst v).tmps.size=a.tmps.size:=by cases dst <;> simp [Act.put]
theorem A69(a:Act)(dst:Option Nat)(v:Value):(a.put dst v).defers=a.defers:=by cases dst <;> rfl
section
variable {P:Program} {cx:VCx}
def A2g(ρ:Rho)(h:VH)(w:World)(v:VV)(h':VH)(e:Ending)(w':World):Prop :=
 ∃ u ρ',e=.returned u∧D9 ρ' u v∧OStep ρ h.obj w ρ' h'.obj w'∧Chg ρ h.nxt ρ' h'.nxt
def A0N (P : Program) (call : A1t) : Prop := ∀ f args h v h', call f args h = some (v, h') → (do let fn ← P.funcs[f]?; pure (fn.body.isSome && fn.name != "runtime.NumGoroutine")) = some true ∧
 ∀ ρ w us,All2 (D9 ρ) us args→HRel ρ h.obj w→A68 ρ h.nxt→Calls P f us.toArray w (A2g ρ h w v h')
def B5r(P:Program)(yld:Nat→List VV→VH→Option (VV×VH)):Prop:=∀ id args h v h',yld id args h=some (v,h')→∀ ρ w us l,ρ id=some l→All2 (D9 ρ) us args→HRel ρ h.obj w→A68 ρ h.nxt →
 ∃ r:Loop,w.heap[l.1]?=some (.loop r)∧us.length=r.params.size∧∀ n,RoundIn Fence.wide n P l.1 r.fn ((r.params.zip us.toArray).foldl (fun tmps (t,a)=>tmps.setIfInBounds t a) r.tmps) r.assign r.body w (A2g ρ h w v h')
structure CxOk (P:Program) (cx:VCx):Prop where
 conf:Z2 P cx.T
 fns : ∀ f fn, cx.fns.get 10 f = some fn → P.funcs[f]? = some fn ∧ (fn.name != "runtime.NumGoroutine") = true
 ext:∀ f m,cx.ext f=some m→∀ args v,m args=some v→∀ (ρ:Rho) (w:World) us,All2 (D9 ρ) us args→∃ u,(callFunc f us.toArray).run P w=.ok (.value u) w∧D9 ρ u v
 meth:∀ t name f,cx.meth t name=some f→∀ w:World,(method (P.types.size+Made.depth) t (.agg #[]) name).run P w=.ok (f,.agg #[]) w
def ODo(P:Program)(ro:Option Nat)(o:Oper)(arg:Operand→Option VV)(h:VH)(v:VV)(h':VH):Prop :=
 ∀ (n:Nat) (ρ:Rho) (w:World) (a:Act) (next:Act→World→Prop) (Q:Exit→Act→World→Prop),(∀ x∈o.op.operands,∀ y,arg x=some y→D9 ρ (a.eval x) y)→HRel ρ h.obj w→A68 ρ h.nxt →
  (∀ u ρ' w',D9 ρ' u v→OStep ρ h.obj w ρ' h'.obj w'→Chg ρ h.nxt ρ' h'.nxt→next (a.put o.dst u) w')→o.wpIn (FW ro) n P a w next Q
theorem A9t{ro:Option Nat}{n:Nat}{o:Oper}{a:Act}{w w':World}{next:Act→World→Prop}{Q:Exit→Act→World→Prop}{nx:Next}{u:Value}(hnd:∀ c,o.op≠.defer c)(h:(execOp a.eval o).run P w=.ok nx w')(hf:Fin nx u)(k:next (a.put o.dst u) w') :
  o.wpIn (FW ro) n P a w next Q:=by
 refine ⟨fun _ _=>trivial,?_⟩
 rw [show(FW ro).round=ro from rfl,Oper.semAt_eq ro a.eval o hnd,h]
 rcases hf with rfl | ⟨rfl,rfl⟩
 ·exact k
 ·exact k
theorem C13{T:Tr VTy}{arg:Operand→Option VV}{h:VH}{op:Op}{r:VV×VH}(e:opT op T arg h=some r):∀ c,op≠.defer c:=by
 intro c hc
 subst hc
 cases e
theorem B34(hcf:Z2 P cx.T){ro:Option Nat}{n:Nat}{o:Oper}{arg:Operand→Option VV}{h h':VH}{v:VV}(e:opT o.op cx.T arg h=some (v,h')){ρ:Rho}{w:World}{a:Act}{next:Act→World→Prop}{Q:Exit→Act→World→Prop}
  (ha:∀ x∈o.op.operands,∀ y,arg x=some y→D9 ρ (a.eval x) y) (H:HRel ρ h.obj w) (hf:ρ h.nxt=none)
  (k:∀ u ρ' w',D9 ρ' u v→OStep ρ h.obj w ρ' h'.obj w'→A37 ρ h.nxt ρ' h'.nxt→next (a.put o.dst u) w'):o.wpIn (FW ro) n P a w next Q:=by
 obtain ⟨nx,u,w',ρ',k1,k2,k3,k4,k5⟩:=D16 (o:=o) hcf e H hf ha
 exact A9t (C13 e) k1 k2 (k u ρ' w' k3 k4 k5)
theorem X9{a:Act}{f:Operand}{args:Array Operand}{ts:Array TypeId}{ty:TypeId}{w:World}{g:Fn}{caps:Array Value}(hf:a.eval f=.func g #[] caps) :
  (resolve a.eval { callee:=.value f,args:=args,argTypes:=ts } ty).run P w=.ok { target:=.fn g caps,args:=args.map a.eval } w:=by
 simp [resolve,hf,Deferred.ofValue]
theorem A2p {f : Nat} {args : Array Value} {w : World} (hb : (do let fn ← P.funcs[f]?; pure (fn.body.isSome && fn.name != "runtime.NumGoroutine")) = some true) : (callFunc f args).run P w = .ok (.enter f args) w := by
 cases hf:P.funcs[f]? with
 | none=>rw [hf] at hb; cases hb
 | some fn =>
  rw [hf] at hb
  have hb' : (fn.body.isSome && fn.name != "runtime.NumGoroutine") = true := by simpa using hb
  simp only [Bool.and_eq_true,bne_iff_ne,ne_eq] at hb'
  obtain ⟨h1,h2⟩:=hb'
  have h3:¬ fn.body=none:=fun e=>by rw [e] at h1; cases h1
  simp [callFunc,hf,h2,h3]
theorem B0K{ρ:Rho}:∀ {us:List Value} {ids:List Nat},All2 (A7p ρ) us ids→All2 (D9 ρ) us (C4d ids)
 | _,_,.nil=>.nil
 | _,_,.cons r h=>.cons (D9.one.2 (by obtain ⟨l,h1,h2⟩:=r; exact ⟨l,h1,h2⟩)) (B0K h)
theorem A9u{ro:Option Nat}{n:Nat}{f:Nat}{args:Array Value}{w:World}{R:Ending→World→Prop}(h:Calls P f args w R):CallsIn (FW ro) n P f args w R:=by
 have h1:CallsIn Fence.wide n P f args w R:=callsIn_wide.2 h
 cases ro with
 | none=>exact h1
 | some l=>exact CallsIn.inRound l h1
theorem A9v{ro:Option Nat}{n:Nat}{o:Oper}{a:Act}{w:World}{next:Act→World→Prop}{Q:Exit→Act→World→Prop}{f:Nat}{us:Array Value}{ρ:Rho}{h h':VH}{v:VV}(hnd:∀ c,o.op≠.defer c)
  (he:(execOp a.eval o).run P w=.ok (.enter f us) w) (hc:Calls P f us w (A2g ρ h w v h')) (k:∀ u ρ' w',D9 ρ' u v→OStep ρ h.obj w ρ' h'.obj w'→Chg ρ h.nxt ρ' h'.nxt→next (a.put o.dst u) w'):o.wpIn (FW ro) n P a w next Q:=by
 refine ⟨fun _ _=>trivial,?_⟩
 rw [show(FW ro).round=ro from rfl,Oper.semAt_eq ro a.eval o hnd,he,Oper.uponIn_enter]
 refine ⟨(fun h=>by cases h),(A9u hc).mono ?_⟩
 rintro e w' ⟨u,ρ',rfl,h1,h2,h3⟩
 exact k u ρ' w' h1 h2 h3
theorem C4m(hok:CxOk P cx){call:A1t}(hcall:A0N P call){yld:Nat→List VV→VH→Option (VV×VH)}{ro:Option Nat}(hyld:ro=none→B5r P yld)(hno:ro≠none→∀ id l h,yld id l h=none){o:Oper}{c:Call}(ho:o.op=.call c){arg:Operand→Option VV}{h h':VH}{v:VV}
  (e:C4e c cx call yld arg h=some (v,h')):ODo P ro o arg h v h':=by
 intro n ρ w a next Q ha H hfr k
 have hnd:∀ c,o.op≠.defer c:=fun c' hc'=>by rw [ho] at hc'; cases hc'
 rw [ho] at ha
 obtain ⟨callee,args,ts⟩:=c
 unfold C4e at e
 cases callee with
 | builtin b =>
  have e':opT o.op cx.T arg h=some (v,h'):=by rw [ho]; exact e
  exact B34 hok.conf e' (by rw [ho]; exact ha) H (hfr _ (Nat.le_refl _)) fun u ρ' w' h1 h2 h3=>k u ρ' w' h1 h2 h3.chg
 | value f =>
  simp only [C0F] at e
  split at e
  ·rename_i g ids l hf hl
   have hm:=A4l (ρ:=ρ) (ev:=a.eval) hl (fun x hx y hy=>ha x (by simp [Op.operands,Call.operands]; right; simpa using hx) y hy)
   obtain ⟨caps,hv,hcaps⟩:=D9.r1.1 (ha f (by simp [Op.operands,Call.operands]) _ hf)
   unfold D0U at e
   split at e
   ·rename_i m hext
    split at e
    ·rename_i r hr
     cases e
     have hc0:caps=#[]:=by cases hq:caps.toList with
      | nil=>rw [← Array.toList_inj,hq]
      | cons x xs=>rw [hq] at hcaps; cases hcaps
     subst hc0
     obtain ⟨u,h1,h2⟩:=hok.ext _ _ hext _ _ hr ρ w _ hm
     refine A9t (u:=u) hnd ?_ (.inl rfl) (k u ρ w h2 (.refl H) (.refl _ _))
     simp only [execOp,ho,Sem.run_bind,X9 hv,Result.andThen_ok,invoke,Array.append_empty]
     have:(args.toList.map a.eval).toArray=args.map a.eval:=by apply Array.ext'; simp
     rw [← this]; exact h1
    ·cases e
   ·cases e
   ·rename_i hext
    obtain ⟨hb,hc⟩:=hcall _ _ _ _ _ e
    have hall:=L1 hm (B0K hcaps)
    have hcc:=hc ρ w _ hall H hfr
    refine A9v hnd ?_ hcc k
    simp only [execOp,ho,Sem.run_bind,X9 hv,Result.andThen_ok,invoke]
    have:(args.toList.map a.eval++caps.toList).toArray=args.map a.eval++caps:=by apply Array.ext'; simp
    rw [this]
    exact A2p hb
  ·rename_i id l hf hl
   have hm:=A4l (ρ:=ρ) (ev:=a.eval) hl (fun x hx y hy=>ha x (by simp [Op.operands,Call.operands]; right; simpa using hx) y hy)
   obtain ⟨ld,h1,hv⟩:=D9.r1.1 (ha f (by simp [Op.operands,Call.operands]) _ hf)
   cases ro with
   | some l0=>rw [hno (by simp)] at e; cases e
   | none =>
    obtain ⟨r,hr,hlen,hround⟩:=hyld rfl _ _ _ _ _ e ρ w _ ld h1 hm H hfr
    refine ⟨fun _ _=>trivial,?_⟩
    have hrun:(execOp a.eval o).run P w=.ok (.round ld.1 r.fn ((r.params.zip (args.map a.eval)).foldl (fun tmps (t,a)=>tmps.setIfInBounds t a) r.tmps) r.assign r.body) w:=by
     simp only [execOp,ho,Sem.run_bind,X9 hv,Result.andThen_ok,invoke]
     exact run_yield hr (by simpa using hlen)
    have harr:(args.toList.map a.eval).toArray=args.map a.eval:=by apply Array.ext'; simp
    rw [show(FW none).round=none from rfl,Oper.semAt_eq none a.eval o hnd,hrun,Oper.uponIn_round]
    refine ⟨(fun h=>by cases h),?_⟩
    have:=hround (n - 1)
    rw [harr] at this
    refine RoundIn.mono this ?_
    rintro e w' ⟨u,ρ',rfl,k1,k2,k3⟩
    exact k u ρ' w' k1 k2 k3
  ·cases e
 | invoke x name =>
  simp only [C0G] at e
  split at e
  ·rename_i t cs l hx hl
   cases hb:cs.isEmpty <;> rw [hb] at e <;> simp only [cond_true,cond_false,reduceCtorEq] at e
   have hcs:cs=#[]:=by simpa using hb
   subst hcs
   split at e
   ·rename_i f hmt
    have hm:=A4l (ρ:=ρ) (ev:=a.eval) hl (fun y hy z hz=>ha y (by simp [Op.operands,Call.operands]; right; simpa using hy) z hz)
    obtain ⟨hv,_⟩:=D9.v.1 (ha x (by simp [Op.operands,Call.operands]) _ hx)
    obtain ⟨hbd,hc⟩:=hcall _ _ _ _ _ e
    have hrecv:D9 ρ (.agg #[]) (.r ⟨true,[]⟩):=⟨[],.nil,by simp [mkV],fun h=>by cases h⟩
    have hcc:=hc ρ w (.agg #[]::args.toList.map a.eval) (.cons hrecv hm) H hfr
    refine A9v hnd ?_ hcc k
    simp only [execOp,ho,resolve,Sem.run_bind,Sem.run_pure,Result.andThen_ok,invoke]
    have h0:(#[a.eval x]++args.map a.eval)[0]?=some (.iface t (.agg #[])):=by rw [hv]; simp [Array.getElem?_append]
    have h1:(#[a.eval x]++args.map a.eval).extract 1 (#[a.eval x]++args.map a.eval).size=args.map a.eval:=by
     apply Array.ext'; simp; rw [List.take_of_length_le (by simp)]
    simp only [h0,h1,callMethod,Sem.run_bind,run_program,Result.andThen_ok,hok.meth t name f hmt w]
    have:(Value.agg #[]::args.toList.map a.eval).toArray=#[Value.agg #[]]++args.map a.eval:=by apply Array.ext'; simp
    rw [this]
    exact A2p hbd
   ·cases e
  ·cases e
theorem C5I(hok:CxOk P cx){call:A1t}(hcall:A0N P call){yld:Nat→List VV→VH→Option (VV×VH)}{ro:Option Nat}(hyld:ro=none→B5r P yld)(hno:ro≠none→∀ id l h,yld id l h=none){o:Oper}{arg:Operand→Option VV}{h h':VH}{v:VV}
  (e:opV cx call yld arg h o.op=some (v,h')):ODo P ro o arg h v h':=by
 unfold opV at e
 split at e
 ·rename_i c hc
  have:o.op=.call c:=by
   cases hop:o.op <;> rw [hop] at hc <;> first | (cases hc; done) | (cases hc; rfl)
  exact C4m hok hcall hyld hno this e
 ·intro n ρ w a next Q ha H hfr k
  exact B34 hok.conf e ha H (hfr _ (Nat.le_refl _)) fun u ρ' w' h1 h2 h3=>k u ρ' w' h1 h2 h3.chg
theorem B6B{ρ:Rho}{env:Tr VV}{a:Act}(e:A2C ρ env a){ops:Array Oper}{o:Oper}{b:Bool}(h:A3r env ops.toList o=some b):Region.wanted o (yielded ops a.tmps)=b:=by
 unfold A3r at h
 unfold Region.wanted
 split at h
 ·rename_i hg; cases h; simp only [hg]
 ·rename_i j want hg
  simp only [hg]
  split at h
  ·rename_i t ht
   have ht':((ops[j]?).bind (·.dst))=some t:=by simpa using ht
   have hr:=e t
   split at h
   ·rename_i b0 hy
    cases h
    rw [hy] at hr
    obtain ⟨hv,_⟩:=D9.v.1 hr
    have hx:a.tmps[t]?=some (.bool b0):=by
     cases hx:a.tmps[t]? with
     | some v=>simp only [Array.getD_eq_getD_getElem?,hx,Option.getD_some] at hv; rw [hv]
     | none=>simp only [Array.getD_eq_getD_getElem?,hx,Option.getD_none] at hv; cases hv
    simp [yielded,ht',hx]
   ·rename_i hy
    cases h
    rw [hy] at hr
    have hu':a.tmps.getD t undef=undef:=hr
    cases hx:a.tmps[t]? with
    | none=>simp [yielded,ht',hx]
    | some v =>
     simp only [Array.getD_eq_getD_getElem?,hx,Option.getD_some] at hu'
     subst hu'
     simp [yielded,ht',hx,undef]
   ·cases h
  ·cases h
def To(ρ:Rho)(nt:Nat)(s:VSt)(w:World)(s':VSt)(a':Act)(w':World):Prop:=∃ ρ',FRel ρ' nt s' a' w'∧OStep ρ s.h.obj w ρ' s'.h.obj w'∧Chg ρ s.h.nxt ρ' s'.h.nxt
theorem B5s(hok:CxOk P cx){call:A1t}(hcall:A0N P call){yld:Nat→List VV→VH→Option (VV×VH)}{ro:Option Nat}(hyld:ro=none→B5r P yld)(hno:ro≠none→∀ id l h,yld id l h=none){nt:Nat}{ops:Array Oper}{n:Nat}{Q:Exit→Act→World→Prop} :
  ∀ (l:List Oper) (k:Nat) (s s':VSt),ops.toList.drop k=l→B6o cx call yld nt ops.toList l s=some s'→∀ ρ a w,FRel ρ nt s a w→(∀ a' w',To ρ nt s w s' a' w'→Q .normal a' w')→wpOpsIn (FW ro) n P ops Q (List.range' k l.length) a w
 | [],_,s,s',_,h,ρ,a,w,g,hQ=>by
  cases h
  simp only [List.length_nil,List.range'_zero,wpOpsIn]
  exact hQ _ _ ⟨ρ,g,.refl g.heap,.refl _ _⟩
 | o::l,k,s,s',hk,h,ρ,a,w,g,hQ=>by
  have ho:ops[k]?=some o:=by
   have h0:(ops.toList.drop k)[0]?=some o:=by rw [hk]; rfl
   simpa using h0
  have hl:ops.toList.drop (k+1)=l:=by rw [← List.drop_drop,hk]; rfl
  simp only [List.length_cons,List.range'_succ,wpOpsIn,ho]
  simp only [B6o] at h
  split at h
  ·rename_i hw
   cases hd:C0H nt o.dst <;> rw [hd] at h <;> simp only [cond_true,cond_false,reduceCtorEq] at h
   rw [B6B g.env hw]
   simp only [if_true]
   split at h
   ·rename_i v h1 hop
    split at h
    ·rename_i env hput
     refine C5I hok hcall hyld hno hop n ρ w a _ Q (fun x hx y hy=>A80 g.env hy) g.heap g.fresh fun u ρ' w' hv st hc=>?_
     have g':FRel ρ' nt ⟨env,h1,s.dl⟩ (a.put o.dst u) w':=⟨(g.env.mono st.le).put g.size hd hv hput,by rw [B0J]; exact g.size,by rw [A69]; exact U7 (fun d id ⟨l,q1,q2⟩=>⟨l,st.le _ _ q1,q2⟩) g.marks,st.rel,hc.fresh g.fresh⟩
     exact B5s hok hcall hyld hno l (k+1) _ s' hl h ρ' _ w' g' fun a' w2 ⟨ρ2,k1,k2,k3⟩=>hQ a' w2 ⟨ρ2,k1,st.trans k2,hc.trans k3⟩
    ·cases h
   ·cases h
  ·rename_i hw
   cases hd:C0H nt o.dst <;> rw [hd] at h <;> simp only [cond_true,cond_false,reduceCtorEq] at h
   rw [B6B g.env hw]
   simp only [Bool.false_eq_true,if_false]
   split at h
   ·rename_i env hput
    refine ⟨fun _ _=>trivial,?_⟩
    have g':FRel ρ nt ⟨env,s.h,s.dl⟩ (a.put o.dst undef) w:=⟨g.env.put g.size hd (show D9 ρ undef .und from rfl) hput,by rw [B0J]; exact g.size,by rw [A69]; exact g.marks,g.heap,g.fresh⟩
    exact B5s hok hcall hyld hno l (k+1) _ s' hl h ρ _ w g' hQ
   ·cases h
  ·cases h
end
end Go.Vm
namespace Go.Vm
open Go.Eng Go.RowKit
theorem B0L{α:Type}{p q:Prop}{_:Decidable p}{_:Decidable q}{x y:α}(h:p↔q):(if p then x else y)=if q then x else y:=by
 by_cases hq:q
 ·rw [if_pos (h.2 hq),if_pos hq]
 ·rw [if_neg (fun hp=>hq (h.1 hp)),if_neg hq]
theorem A3L(m i:Nat):bit m i=m.testBit i:=by
 unfold bit Nat.testBit
 show Nat.beq ((m >>> i) &&& 1) 1=(1 &&& m >>> i != 0)
 rw [Nat.and_comm,Nat.one_and_eq_mod_two]
 rcases Nat.mod_two_eq_zero_or_one (m >>> i) with h | h <;> rw [h] <;> rfl
theorem C14{a b i:Nat}(h:Nat.beq (Nat.land a b) a=true)(hi:a.testBit i=true):b.testBit i=true:=by
 have h1:=Nat.testBit_and a b i
 rw [show a &&& b=a from(B2 _ _).1 h,hi] at h1
 simpa using h1.symm
theorem C15:∀ {l m:List Nat},D4d l m=true→l=m
 | [],[],_=>rfl
 | a::l,b::m,h=>by
  simp only [D4d,Bool.and_eq_true] at h
  rw [(B2 _ _).1 h.1,C15 h.2]
 | [],_::_,h=>by cases h
 | _::_,[],h=>by cases h
theorem C7Q{a b:VC}(h:D4J a b=true):a=b:=by
 unfold D4J at h
 split at h
 ·rw [C5E h]
 ·simp only [Bool.and_eq_true] at h; rw [(B2 _ _).1 h.1,(B2 _ _).1 h.2]
 ·simp only [Bool.and_eq_true] at h; rw [(B2 _ _).1 h.1,(B2 _ _).1 h.2.1,(B2 _ _).1 h.2.2.1,(B2 _ _).1 h.2.2.2]
 ·rfl
 ·simp only [Bool.and_eq_true] at h; rw [(B2 _ _).1 h.1,C15 h.2]
 ·rw [(B2 _ _).1 h]
 ·rw [(B2 _ _).1 h]
 ·cases h
theorem A81:∀ {l m:List VC},C7D l m=true→l=m
 | [],[],_=>rfl
 | a::l,b::m,h=>by
  simp only [C7D,Bool.and_eq_true] at h
  rw [C7Q h.1,A81 h.2]
 | [],_::_,h=>by cases h
 | _::_,[],h=>by cases h
theorem D17{a b:VV}(h:eqV a b=true):a=b:=by
 unfold eqV at h
 split at h
 ·simp only [Bool.and_eq_true] at h
  rw [eq_of_beq h.1,A81 h.2]
 ·cases h
theorem B6C{T:Tr VTy}{arg:Operand→Option VV}{h h':VH}{op:Op}{v:VV}(e:opO T arg h op=some (v,h'))(h1:C7K op=false)(h2:D0W op=false):h'=h:=by
 cases op <;> first | (cases h1; done) | (cases h2; done) | skip
 case makeFunc f first captured =>
  cases f <;> simp only [opO,opT,oFn,C7I,Bool.cond_eq_ite] at e
  all_goals (repeat' split at e)
  all_goals first | (cases e; done) | (cases e; rfl)
 case call c =>
  obtain ⟨callee,args,ts⟩:=c
  cases callee with
  | builtin b =>
   cases b <;> first | (cases h2; done) | skip
   all_goals simp only [opO,opT,C0E,A70,A6Y,S4] at e
   all_goals (repeat' split at e)
   all_goals first | (cases e; done) | contradiction | (cases e; rfl)
  | value f=>cases h2
  | invoke x nm=>cases h2
 all_goals simp only [opO,opT,B31,C4a,B6j,D4f,D0T,oUn,C4c,B6k,B6l,A4h,B6m,A4i,B6n,A6Z,B0A,B0B,A3H,C4b,Bool.cond_eq_ite,S4] at e
 all_goals (repeat' split at e)
 all_goals first | (cases e; done) | (cases e; rfl)
theorem C7S{T:Tr VTy}{arg:Operand→Option VV}{h h':VH}{op:Op}{v:VV}(e:opO T arg h op=some (v,h'))(h1:C7K op=true):∃ cs,h'.obj=A1r.upd h.obj h.nxt (.row cs)∧h'.nxt=h.nxt+1:=by
 have key:∀ {cs:List VC} {id:Nat} {h2:VH},newRow h cs=some (id,h2)→∃ cs,h2.obj=A1r.upd h.obj h.nxt (.row cs)∧h2.nxt=h.nxt+1:=by
  intro cs id h2 hn
  obtain ⟨rfl,a,b⟩:=VH.obj_new hn
  exact ⟨cs,a,b⟩
 cases op <;> first | (cases h1; done) | skip
 all_goals simp only [opO,opT,B6i,D4e,A34,A33,A4g,Bool.cond_eq_ite,A1i] at e
 all_goals (repeat' split at e)
 all_goals first | (cases e; done) | (rename_i hn; cases e; exact key hn)
inductive Tag where | skip | new | cmd | rd | pure
def C16(cx:VCx)(call:A1t)(yld:Nat→List VV→VH→Option (VV×VH))(ntmps base:Nat)(all:List Oper)(pre i:Nat)(o:Oper)(s s':DS)(tag:Tag)(v:VV):Prop :=
 C0H ntmps o.dst=true∧B9D s.env o.dst v=some s'.env∧match tag with
 | .skip=>A3r s.env all o=some false∧v=.und∧s'.ns=s.ns∧s'.hd=s.hd∧s'.old=s.old∧s'.nx=s.nx∧s'.ps=s.ps
 | .new=>A3r s.env all o=some true∧C7K o.op=true∧(∃ h,opO cx.T (K5 s.env) ⟨.e,base+i⟩ o.op=some (v,h)∧s'.ns=(i,h.obj (base+i))::s.ns)∧s'.hd=s.hd∧s'.old=s.old∧s'.nx=s.nx∧s'.ps=s.ps
 | .cmd=>A3r s.env all o=some true∧Nat.beq (Nat.land s.hd.cm pre) s.hd.cm=true∧(∃ t h,B8Y base (fun j=>bit pre j && !bit s.hd.inc j) s.ns s.hd.t=some t∧opV cx call yld (K5 s.env) ⟨t,s.nx⟩ o.op=some (v,h) ∧
   s'.hd=⟨h.t,Nat.lor s.hd.inc pre,Nat.lor s.hd.cm (Nat.shiftLeft 1 i)⟩∧s'.nx=h.nxt)∧s'.old=s.hd::s.old∧s'.ns=s.ns∧s'.ps=s.ps
 | .rd=>A3r s.env all o=some true∧C7K o.op=false∧D0W o.op=false∧s'.ps=(i,s.env,v)::s.ps∧s'.ns=s.ns∧s'.hd=s.hd∧s'.old=s.old∧s'.nx=s.nx
 | .pure=>A3r s.env all o=some true∧C7K o.op=false∧D0W o.op=false∧(∃ h,opO cx.T (K5 s.env) ⟨.e,base+i⟩ o.op=some (v,h))∧s'.ns=s.ns∧s'.hd=s.hd∧s'.old=s.old∧s'.nx=s.nx∧s'.ps=s.ps
theorem C7T{cx:VCx}{call:A1t}{yld:Nat→List VV→VH→Option (VV×VH)}{ntmps base:Nat}{all:List Oper}{pre i:Nat}{o:Oper}{s s':DS}(h:B0C cx call yld ntmps base all pre i o s=some s') :
  ∃ tag v,C16 cx call yld ntmps base all pre i o s s' tag v:=by
 unfold B0C at h
 cases hd:C0H ntmps o.dst <;> rw [hd] at h <;> simp only [cond_true,cond_false,reduceCtorEq] at h
 split at h
 ·rename_i hw
  split at h
  ·rename_i env he
   cases h
   exact ⟨.skip,.und,hd,he,hw,rfl,rfl,rfl,rfl,rfl,rfl⟩
  ·cases h
 ·rename_i hw
  cases hN:C7K o.op <;> rw [hN] at h <;> simp only [cond_true,cond_false] at h
  ·cases hC:D0W o.op <;> rw [hC] at h <;> simp only [cond_true,cond_false] at h
   ·cases hR:D8G o.op <;> rw [hR] at h <;> simp only [cond_true,cond_false] at h
    ·split at h
     ·rename_i v hh hop
      split at h
      ·rename_i env he
       cases h
       exact ⟨.pure,v,hd,he,hw,hN,hC,⟨_,hop⟩,rfl,rfl,rfl,rfl,rfl⟩
      ·cases h
     ·cases h
    ·split at h
     ·split at h
      ·rename_i v hh hop
       split at h
       ·rename_i env he
        cases h
        exact ⟨.rd,v,hd,he,hw,hN,hC,rfl,rfl,rfl,rfl,rfl⟩
       ·cases h
      ·cases h
     ·cases h
   ·cases hb:Nat.beq (Nat.land s.hd.cm pre) s.hd.cm <;> rw [hb] at h <;> simp only [cond_true,cond_false,reduceCtorEq] at h
    split at h
    ·rename_i t ht
     split at h
     ·rename_i v hh hop
      split at h
      ·rename_i env he
       cases h
       exact ⟨.cmd,v,hd,he,hw,hb,⟨t,hh,ht,hop,rfl,rfl⟩,rfl,rfl,rfl⟩
      ·cases h
     ·cases h
    ·cases h
  ·split at h
   ·rename_i v hh hop
    split at h
    ·rename_i env he
     cases h
     exact ⟨.new,v,hd,he,hw,hN,⟨hh,hop,rfl⟩,rfl,rfl,rfl,rfl⟩
    ·cases h
   ·cases h
 ·cases h
theorem A9w{cx:VCx}{call:A1t}{yld:Nat→List VV→VH→Option (VV×VH)}{ntmps base:Nat}{all:List Oper}{pres:List Nat}:∀ {l:List Oper} {i:Nat} {s s':DS},B6p cx call yld ntmps base all pres i l s=some s' →
  ∃ (S:Nat→DS) (τ:Nat→Tag) (V:Nat→VV),S i=s∧S (i+l.length)=s'∧∀ j o,l[j]?=some o→C16 cx call yld ntmps base all (pres.getD (i+j) 0) (i+j) o (S (i+j)) (S (i+j+1)) (τ (i+j)) (V (i+j))
 | [],i,s,s',h=>by cases h; exact ⟨fun _=>s,fun _=>.skip,fun _=>.und,rfl,rfl,fun j o h=>by simp at h⟩
 | o::l,i,s,s',h=>by
  simp only [B6p] at h
  split at h
  ·rename_i s1 h1
   obtain ⟨tag,v,hst⟩:=C7T h1
   obtain ⟨S,τ,V,e1,e2,hall⟩:=A9w h
   refine ⟨fun k=>if k=i then s else S k,fun k=>if k=i then tag else τ k,fun k=>if k=i then v else V k,by simp,?_,fun j p hp=>?_⟩
   ·simp only [List.length_cons]
    rw [if_neg (by omega),show i+(l.length+1)=i+1+l.length by omega]
    exact e2
   ·cases j with
    | zero =>
     simp only [List.getElem?_cons_zero,Option.some.injEq] at hp
     subst hp
     simp only [Nat.add_zero,if_true]
     rw [if_neg (by omega),e1]
     exact hst
    | succ j =>
     have:=hall j p (by simpa using hp)
     simp only [show i+(j+1)=i+1+j by omega]
     rw [if_neg (by omega),if_neg (by omega),if_neg (by omega),if_neg (by omega)]
     exact this
  ·cases h
theorem B0N{base:Nat}{want:Nat→Bool}{p:Nat×VO}:∀ {l:List (Nat×VO)} {t t':Tr VO},B8Y base want l t=some t'→p∈l→want p.1=true→(∀ q∈l,q.1=p.1→q.2=p.2)→t'.get D (base+p.1)=some p.2
 | (i,o)::l,t,t',h,hm,hw,hu=>by
  simp only [B8Y] at h
  split at h
  ·rename_i t1 h1
   cases hwi:want i <;> rw [hwi] at h <;> simp only [cond_true,cond_false] at h
   ·cases h
    rcases List.mem_cons.1 hm with rfl | hm
    ·rw [hwi] at hw; cases hw
    ·exact B0N h1 hm hw fun q hq=>hu q (by simp [hq])
   ·rw [Tr.get_set h]
    by_cases e:base+p.1=base+i
    ·have:=hu (i,o) (by simp) (by simp; omega)
     rw [if_pos e,← this]
    ·rw [if_neg e]
     rcases List.mem_cons.1 hm with rfl | hm
     ·exact absurd rfl e
     ·exact B0N h1 hm hw fun q hq=>hu q (by simp [hq])
  ·cases h
theorem B6D{base id:Nat}{want:Nat→Bool}:∀ {l:List (Nat×VO)} {t t':Tr VO},B8Y base want l t=some t'→(∀ p∈l,want p.1=true→id≠base+p.1)→t'.get D id=t.get D id
 | [],t,t',h,_=>by cases h; rfl
 | (i,o)::l,t,t',h,hn=>by
  simp only [B8Y] at h
  split at h
  ·rename_i t1 h1
   have ih:=B6D (id:=id) h1 fun p hp=>hn p (by simp [hp])
   cases hwi:want i <;> rw [hwi] at h <;> simp only [cond_true,cond_false] at h
   ·cases h; exact ih
   ·rw [Tr.get_set h,if_neg (hn (i,o) (by simp) hwi),ih]
  ·cases h
structure Dr (cx:VCx) (call:A1t) (yld:Nat→List VV→VH→Option (VV×VH)) (ntmps base:Nat) (all:List Oper) (S:Nat→DS) (τ:Nat→Tag) (V:Nat→VV):Prop where
 st:∀ j o,all[j]?=some o→C16 cx call yld ntmps base all ((Z1 all []).getD j 0) j o (S j) (S (j+1)) (τ j) (V j)
 slot:B6r all (Z1 all [])=true
 edges:A0Q 0 all=true
 free:∀ h∈(S all.length).hd::(S all.length).old,C4g base (S all.length).ns h=true
 look:∀ h∈(S all.length).hd::(S all.length).old,∀ p∈(S all.length).ps,B6q cx.T base all (Z1 all []) (S all.length).ns (S all.length).hd.cm p h=true
 ns0:(S 0).ns=[]
 cm0:(S 0).hd.cm=0
 inc0:(S 0).hd.inc=0
section
variable {cx:VCx} {call:A1t} {yld:Nat→List VV→VH→Option (VV×VH)} {ntmps base:Nat} {all:List Oper} {S:Nat→DS} {τ:Nat→Tag} {V:Nat→VV}
abbrev pr(all:List Oper)(i:Nat):Nat:=(Z1 all []).getD i 0
theorem C5J(all:List Oper):C0a (Z1 all []) all:=by
 have:=A7J (l:=all) (acc:=[]) (done:=[]) ⟨rfl,fun k o ho=>by simp at ho⟩
 simpa using this
theorem C17(he:A0Q 0 all=true):∀ (k:Nat) (o:Oper),all[k]?=some o→∀ i,(pr all k).testBit i=true→i < k:=by
 intro k
 induction k using Nat.strongRecOn with
 | _ k ih =>
  intro o ho i hi
  obtain ⟨e,hm,hb,h⟩:=(C5J all).2 k o ho i hi
  have hlt:=A2Y he ho e hm hb
  simp only [Nat.zero_add] at hlt
  rcases h with rfl | h
  ·exact hlt
  ·have hk:=(List.getElem?_eq_some_iff.1 ho).1
   exact Nat.lt_trans (ih e.on hlt all[e.on] (by simp [Nat.lt_trans hlt hk]) i h) hlt
def D0z(all:List Oper)(L:Nat→Bool):Prop:=∀ j o,all[j]?=some o→L j=true→∀ e∈o.after,Region.binds .any e=true→L e.on=true
theorem D0z.pre{L:Nat→Bool}(he:A0Q 0 all=true)(hd:D0z all L):∀ (k:Nat) (o:Oper),all[k]?=some o→(∀ e∈o.after,Region.binds .any e=true→L e.on=true)→∀ i,(pr all k).testBit i=true→L i=true:=by
 intro k
 induction k using Nat.strongRecOn with
 | _ k ih =>
  intro o ho hr i hi
  obtain ⟨e,hm,hb,h⟩:=(C5J all).2 k o ho i hi
  rcases h with rfl | h
  ·exact hr e hm hb
  ·have hlt:=A2Y he ho e hm hb
   simp only [Nat.zero_add] at hlt
   have hk:=(List.getElem?_eq_some_iff.1 ho).1
   have hq:all[e.on]?=some all[e.on]:=by simp [Nat.lt_trans hlt hk]
   exact ih e.on hlt _ hq (hd e.on _ hq (hr e hm hb)) i h
theorem Dr.env_succ(d:Dr cx call yld ntmps base all S τ V){j:Nat}{o:Oper}(ho:all[j]?=some o)(t:Nat):(S (j+1)).env.get D t=if o.dst=some t then some (V j) else(S j).env.get D t:=by
 obtain ⟨_,h,_⟩:=d.st j o ho
 cases hd:o.dst with
 | none =>
  rw [hd] at h
  have h:some (S j).env=some (S (j+1)).env:=h
  rw [if_neg (by simp),Option.some.inj h]
 | some u =>
  rw [hd] at h
  have:=Tr.get_set (show(S j).env.set D u (V j)=some (S (j+1)).env from h) t
  rw [show(S (j+1)).env.get D t=_ from this]
  by_cases e:t=u
  ·rw [if_pos e,if_pos (by rw [e])]
  ·rw [if_neg e,if_neg (by simpa using fun h=>e h.symm)]
theorem Dr.env_const(d:Dr cx call yld ntmps base all S τ V){t:Nat}:∀ (m a:Nat),a+m≤all.length→(∀ j o,a≤j→j < a+m→all[j]?=some o→o.dst≠some t)→(S (a+m)).env.get D t=(S a).env.get D t
 | 0,_,_,_=>rfl
 | m+1,a,hl,hn=>by
  have hlt:a+m < all.length:=by omega
  have ho:all[a+m]?=some all[a+m]:=by simp [hlt]
  rw [show a+(m+1)=(a+m)+1 by omega,d.env_succ ho,if_neg (hn (a+m) _ (by omega) (by omega) ho)]
  exact d.env_const m a (by omega) fun j o h1 h2=>hn j o h1 (by omega)
theorem Dr.slot_get(d:Dr cx call yld ntmps base all S τ V){i j t:Nat}{o q:Oper}(ho:all[i]?=some o)(hq:all[j]?=some q)(ht:q.dst=some t)(hne:i≠j) :
  o.dst≠some t∧(t∈S1 all o→(pr all i).testBit j=true∨(pr all j).testBit i=true):=by
 have h:=d.slot
 unfold B6r at h
 have hoi:(o,i)∈all.zipIdx:=by rw [List.mem_zipIdx_iff_getElem?]; simpa using ho
 have hqj:(q,j)∈all.zipIdx:=by rw [List.mem_zipIdx_iff_getElem?]; simpa using hq
 have h1:=List.all_eq_true.1 (List.all_eq_true.1 h (o,i) hoi) (q,j) hqj
 simp only [ht] at h1
 have hb:Nat.beq i j=false:=by
  cases hb:Nat.beq i j with
  | false=>rfl
  | true=>exact absurd ((B2 _ _).1 hb) hne
 rw [hb] at h1
 simp only [Bool.false_or,Bool.and_eq_true,Bool.or_eq_true,A3L] at h1
 refine ⟨fun e=>?_,fun hm=>?_⟩
 ·have:=h1.1
  rw [e] at this
  simp at this
 ·rcases h1.2 with h2 | h2
  ·rw [A4c.2 hm] at h2; cases h2
  ·exact h2
theorem Dr.env_after(d:Dr cx call yld ntmps base all S τ V){i j t:Nat}{q:Oper}(hq:all[j]?=some q)(ht:q.dst=some t)(hji:j < i)(hi:i≤all.length):(S i).env.get D t=some (V j):=by
 have h:=d.env_const (t:=t) (i - (j+1)) (j+1) (by omega) fun k o h1 _ ho=>(d.slot_get ho hq ht (by omega)).1
 rw [show j+1+(i - (j+1))=i by omega] at h
 rw [h,d.env_succ hq,if_pos ht]
theorem Dr.env_before(d:Dr cx call yld ntmps base all S τ V){i t:Nat}(hi:i≤all.length)(hn:∀ j q,j < i→all[j]?=some q→q.dst≠some t):(S i).env.get D t=(S 0).env.get D t:=by
 have h:=d.env_const (t:=t) i 0 (by omega) fun k o _ h2 ho=>hn k o (by omega) ho
 simpa using h
open Classical in
noncomputable def C3F (all:List Oper) (S:Nat→DS) (L:Nat→Bool) (t:Nat):Option VV :=
 if ∃ j q,all[j]?=some q∧L j=true∧q.dst=some t then(S all.length).env.get D t else(S 0).env.get D t
theorem Dr.view_reads(d:Dr cx call yld ntmps base all S τ V){L:Nat→Bool}(hd:D0z all L){i t:Nat}{o:Oper}(ho:all[i]?=some o)(hi:L i=false)(hr:∀ j,(pr all i).testBit j=true→L j=true)(ht:t∈S1 all o):C3F all S L t=(S i).env.get D t:=by
 have hil:=(List.getElem?_eq_some_iff.1 ho).1
 unfold C3F
 split
 ·rename_i h
  obtain ⟨j,q,hq,hj,hqt⟩:=h
  have hne:i≠j:=fun e=>by rw [e,hj] at hi; cases hi
  rcases (d.slot_get ho hq hqt hne).2 ht with h | h
  ·have hlt:=C17 d.edges i o ho j h
   rw [d.env_after hq hqt hlt (Nat.le_of_lt hil),d.env_after hq hqt (List.getElem?_eq_some_iff.1 hq).1 (Nat.le_refl _)]
  ·have:=hd.pre d.edges j q hq (hd j q hq hj) i h
   rw [hi] at this; cases this
 ·rename_i h
  refine(d.env_before (Nat.le_of_lt hil) fun j q hlt hq hqt=>?_).symm
  rcases (d.slot_get ho hq hqt (by omega)).2 ht with h2 | h2
  ·exact h ⟨j,q,hq,hr j h2,hqt⟩
  ·have:=C17 d.edges j q hq i h2
   omega
def A5d(L:Nat→Bool)(i:Nat):Nat→Bool:=fun j=>if j=i then true else L j
theorem B0O{L:Nat→Bool}{i j:Nat}(h:L j=true):A5d L i j=true:=by
 unfold A5d
 split
 ·rfl
 ·exact h
theorem Dr.view_add(d:Dr cx call yld ntmps base all S τ V){L:Nat→Bool}{i:Nat}{o:Oper}(ho:all[i]?=some o)(t:Nat):C3F all S (A5d L i) t=if o.dst=some t then some (V i) else C3F all S L t:=by
 split
 ·rename_i h
  have:∃ j q,all[j]?=some q∧A5d L i j=true∧q.dst=some t:=⟨i,o,ho,by simp [A5d],h⟩
  unfold C3F
  rw [if_pos this,d.env_after ho h (List.getElem?_eq_some_iff.1 ho).1 (Nat.le_refl _)]
 ·rename_i h
  unfold C3F
  have:(∃ j q,all[j]?=some q∧A5d L i j=true∧q.dst=some t)↔∃ j q,all[j]?=some q∧L j=true∧q.dst=some t:=by
   constructor
   ·rintro ⟨j,q,h1,h2,h3⟩
    unfold A5d at h2
    split at h2
    ·rename_i e; subst e; rw [ho] at h1; cases h1; exact absurd h3 h
    ·exact ⟨j,q,h1,h2,h3⟩
   ·rintro ⟨j,q,h1,h2,h3⟩
    exact ⟨j,q,h1,B0O h2,h3⟩
  exact B0L this
theorem Dr.keep(d:Dr cx call yld ntmps base all S τ V){j:Nat}(hj:j < all.length)(hc:τ j≠.cmd):(S (j+1)).hd=(S j).hd∧(S (j+1)).old=(S j).old∧(S (j+1)).nx=(S j).nx:=by
 obtain ⟨_,_,h⟩:=d.st j _ (List.getElem?_eq_getElem hj)
 cases ht:τ j <;> rw [ht] at h
 ·exact ⟨h.2.2.2.1,h.2.2.2.2.1,h.2.2.2.2.2.1⟩
 ·exact ⟨h.2.2.2.1,h.2.2.2.2.1,h.2.2.2.2.2.1⟩
 ·exact absurd ht hc
 ·exact ⟨h.2.2.2.2.2.1,h.2.2.2.2.2.2.1,h.2.2.2.2.2.2.2⟩
 ·exact ⟨h.2.2.2.2.2.1,h.2.2.2.2.2.2.1,h.2.2.2.2.2.2.2.1⟩
theorem Dr.cmd(d:Dr cx call yld ntmps base all S τ V){j:Nat}{o:Oper}(ho:all[j]?=some o)(hc:τ j=.cmd) :
  A3r (S j).env all o=some true∧Nat.beq (Nat.land (S j).hd.cm (pr all j)) (S j).hd.cm=true∧(∃ t h,B8Y base (fun k=>bit (pr all j) k && !bit (S j).hd.inc k) (S j).ns (S j).hd.t=some t∧opV cx call yld (K5 (S j).env) ⟨t,(S j).nx⟩ o.op=some (V j,h) ∧
   (S (j+1)).hd=⟨h.t,Nat.lor (S j).hd.inc (pr all j),Nat.lor (S j).hd.cm (Nat.shiftLeft 1 j)⟩∧(S (j+1)).nx=h.nxt)∧(S (j+1)).old=(S j).hd::(S j).old∧(S (j+1)).ns=(S j).ns∧(S (j+1)).ps=(S j).ps:=by
 obtain ⟨_,_,h⟩:=d.st j o ho
 rw [hc] at h
 exact h
theorem Dr.same_hd(d:Dr cx call yld ntmps base all S τ V):∀ (m a:Nat),a+m≤all.length→(∀ j,a≤j→j < a+m→τ j≠.cmd)→(S (a+m)).hd=(S a).hd∧(S (a+m)).nx=(S a).nx
 | 0,_,_,_=>⟨rfl,rfl⟩
 | m+1,a,hl,h=>by
  obtain ⟨h1,h2⟩:=d.same_hd m a (by omega) fun j q1 q2=>h j q1 (by omega)
  obtain ⟨k1,_,k2⟩:=d.keep (j:=a+m) (by omega) (h (a+m) (by omega) (by omega))
  exact ⟨k1.trans h1,k2.trans h2⟩
theorem Dr.cm_bit(d:Dr cx call yld ntmps base all S τ V):∀ (k:Nat),k≤all.length→∀ j,(S k).hd.cm.testBit j=true↔j < k∧τ j=.cmd
 | 0,_,j=>by rw [d.cm0]; simp
 | k+1,hk,j=>by
  have ih:=d.cm_bit k (by omega) j
  by_cases hc:τ k=.cmd
  ·obtain ⟨_,_,⟨t,h,_,_,h3,_⟩,_⟩:=d.cmd (List.getElem?_eq_getElem (by omega:k < all.length)) hc
   rw [h3]
   simp only [A2X,Bool.or_eq_true,A0j,decide_eq_true_eq,ih]
   constructor
   ·rintro (⟨h1,h2⟩ | rfl)
    ·exact ⟨by omega,h2⟩
    ·exact ⟨by omega,hc⟩
   ·rintro ⟨h1,h2⟩
    by_cases e:j=k
    ·exact .inr e
    ·exact .inl ⟨by omega,h2⟩
  ·rw [(d.keep (by omega) hc).1,ih]
   constructor
   ·rintro ⟨h1,h2⟩; exact ⟨by omega,h2⟩
   ·rintro ⟨h1,h2⟩
    refine ⟨?_,h2⟩
    rcases Nat.lt_or_ge j k with h | h
    ·exact h
    ·have:j=k:=by omega
     rw [this] at h2; exact absurd h2 hc
theorem Dr.inc_bit(d:Dr cx call yld ntmps base all S τ V):∀ (k:Nat),k≤all.length→∀ j,(S k).hd.inc.testBit j=true→∃ c,c < k∧τ c=.cmd∧(pr all c).testBit j=true
 | 0,_,j,h=>by rw [d.inc0] at h; simp at h
 | k+1,hk,j,h=>by
  by_cases hc:τ k=.cmd
  ·obtain ⟨_,_,⟨t,hh,_,_,h3,_⟩,_⟩:=d.cmd (List.getElem?_eq_getElem (by omega:k < all.length)) hc
   rw [h3] at h
   simp only [A2X,Bool.or_eq_true] at h
   rcases h with h | h
   ·obtain ⟨c,h1,h2⟩:=d.inc_bit k (by omega) j h
    exact ⟨c,by omega,h2⟩
   ·exact ⟨k,by omega,hc,h⟩
  ·rw [(d.keep (by omega) hc).1] at h
   obtain ⟨c,h1,h2⟩:=d.inc_bit k (by omega) j h
   exact ⟨c,by omega,h2⟩
def B92(S:Nat→DS)(j:Nat):VO:=match (S (j+1)).ns with
 | p::_=>p.2
 | []=>.gone
theorem Dr.ns_mem(d:Dr cx call yld ntmps base all S τ V):∀ (k:Nat),k≤all.length→∀ p,p∈(S k).ns↔p.1 < k∧τ p.1=.new∧p.2=B92 S p.1
 | 0,_,p=>by rw [d.ns0]; simp
 | k+1,hk,p=>by
  have ih:=d.ns_mem k (by omega) p
  obtain ⟨_,_,h⟩:=d.st k _ (List.getElem?_eq_getElem (by omega:k < all.length))
  have other:(S (k+1)).ns=(S k).ns→τ k≠.new→(p∈(S (k+1)).ns↔p.1 < k+1∧τ p.1=.new∧p.2=B92 S p.1):=by
   intro e hn
   rw [e,ih]
   constructor
   ·rintro ⟨h1,h2⟩; exact ⟨by omega,h2⟩
   ·rintro ⟨h1,h2,h3⟩
    refine ⟨?_,h2,h3⟩
    rcases Nat.lt_or_ge p.1 k with h | h
    ·exact h
    ·have:p.1=k:=by omega
     rw [this] at h2; exact absurd h2 hn
  cases ht:τ k <;> rw [ht] at h
  ·exact other h.2.2.1 (by rw [ht]; simp)
  ·obtain ⟨hh,_,h3⟩:=h.2.2.1
   have hX:B92 S k=hh.obj (base+k):=by unfold B92; rw [h3]
   rw [h3,List.mem_cons,ih]
   constructor
   ·rintro (rfl | ⟨h1,h2⟩)
    ·exact ⟨by omega,ht,hX.symm⟩
    ·exact ⟨by omega,h2⟩
   ·rintro ⟨h1,h2,h4⟩
    rcases Nat.lt_or_ge p.1 k with h | h
    ·exact .inr ⟨h,h2,h4⟩
    ·have e:p.1=k:=by omega
     refine .inl (Prod.ext e ?_)
     rw [h4,e,hX]
  ·exact other h.2.2.2.2.1 (by rw [ht]; simp)
  ·exact other h.2.2.2.2.1 (by rw [ht]; simp)
  ·exact other h.2.2.2.2.1 (by rw [ht]; simp)
theorem Dr.ps_mem(d:Dr cx call yld ntmps base all S τ V){j:Nat}(hr:τ j=.rd):∀ (k:Nat),k≤all.length→j < k→(j,(S j).env,V j)∈(S k).ps
 | 0,_,h=>by omega
 | k+1,hk,hj=>by
  obtain ⟨_,_,h⟩:=d.st k _ (List.getElem?_eq_getElem (by omega:k < all.length))
  by_cases e:j=k
  ·subst e
   rw [hr] at h
   rw [h.2.2.2.1]
   simp
  ·have ih:=d.ps_mem hr k (by omega) (by omega)
   cases ht:τ k <;> rw [ht] at h
   ·rw [h.2.2.2.2.2.2]; exact ih
   ·rw [h.2.2.2.2.2.2]; exact ih
   ·rw [h.2.2.2.2.2]; exact ih
   ·rw [h.2.2.2.1]; exact List.mem_cons_of_mem _ ih
   ·rw [h.2.2.2.2.2.2.2.2]; exact ih
theorem Dr.heads(d:Dr cx call yld ntmps base all S τ V){k:Nat}:∀ (m:Nat),k+m≤all.length→(S k).hd∈(S (k+m)).hd::(S (k+m)).old
 | 0,_=>by simp
 | m+1,h=>by
  have ih:=d.heads (k:=k) m (by omega)
  by_cases hc:τ (k+m)=.cmd
  ·obtain ⟨_,_,_,h1,_⟩:=d.cmd (List.getElem?_eq_getElem (by omega:k+m < all.length)) hc
   rw [show k+(m+1)=k+m+1 by omega,h1]
   exact List.mem_cons_of_mem _ ih
  ·obtain ⟨h1,h2,_⟩:=d.keep (j:=k+m) (by omega) hc
   rw [show k+(m+1)=k+m+1 by omega,h1,h2]
   exact ih
theorem Dr.head(d:Dr cx call yld ntmps base all S τ V){k:Nat}(hk:k≤all.length):(S k).hd∈(S all.length).hd::(S all.length).old:=by
 have:=d.heads (k:=k) (all.length - k) (by omega)
 rwa [show k+(all.length - k)=all.length by omega] at this
noncomputable def C3G (t:Tr VO) (id:Nat):VO:=match t.get D id with | some o=>o | none=>.gone
theorem Dr.free_at(d:Dr cx call yld ntmps base all S τ V){k j:Nat}(hk:k≤all.length)(hj:j < all.length)(ht:τ j=.new)(hi:(S k).hd.inc.testBit j=false):C3G (S k).hd.t (base+j)=.gone:=by
 have h:=d.free _ (d.head hk)
 unfold C4g at h
 have h1:=List.all_eq_true.1 h (j,B92 S j) ((d.ns_mem _ (Nat.le_refl _) _).2 ⟨hj,ht,rfl⟩)
 simp only [A3L,hi,Bool.false_or] at h1
 unfold C3G
 split at h1
 ·rename_i e; rw [e]
 ·rename_i o e
  rw [e]
  split at h1
  ·rfl
  ·cases h1
open Classical in
noncomputable def A14 (base:Nat) (all:List Oper) (S:Nat→DS) (τ:Nat→Tag) (L:Nat→Bool) (k:Nat):A1r:=fun id =>
 if ∃ j,j < all.length∧τ j=.new∧L j=true∧(S k).hd.inc.testBit j=false∧id=base+j then B92 S (id - base) else C3G (S k).hd.t id
theorem Dr.add_obj(d:Dr cx call yld ntmps base all S τ V){m k:Nat}(hm:m≤all.length){W:Nat→Bool}(hW:∀ j,j < all.length→W j=true→τ j=.new→j < m){t:Tr VO}(h:B8Y base (fun j=>W j && !bit (S k).hd.inc j) (S m).ns (S k).hd.t=some t):C3G t=A14 base all S τ W k:=by
 funext id
 unfold A14
 split
 ·rename_i hex
  obtain ⟨j,h1,h2,h3,h4,rfl⟩:=hex
  have hmem:(j,B92 S j)∈(S m).ns:=(d.ns_mem m hm _).2 ⟨hW j h1 h3 h2,h2,rfl⟩
  have:=B0N h hmem (by simp [h3,A3L,h4]) fun q hq e=>by
   have:=((d.ns_mem m hm q).1 hq).2.2
   rw [this,e]
  simp only at this
  unfold C3G
  rw [this]
  simp
 ·rename_i hex
  have:=B6D (id:=id) h fun p hp hw e=>by
   obtain ⟨h1,h2,h3⟩:=(d.ns_mem m hm p).1 hp
   simp only [Bool.and_eq_true,Bool.not_eq_true',A3L] at hw
   exact hex ⟨p.1,by omega,h2,hw.1,hw.2,e⟩
  unfold C3G
  rw [this]
theorem Dr.obj_sub(d:Dr cx call yld ntmps base all S τ V){W L:Nat→Bool}{k:Nat}(hk:k≤all.length)(hs:∀ j,W j=true→L j=true):∀ id,A14 base all S τ W k id≠.gone→A14 base all S τ W k id=A14 base all S τ L k id:=by
 intro id hg
 unfold A14 at hg ⊢
 split
 ·rename_i h
  obtain ⟨j,h1,h2,h3,h4,h5⟩:=h
  rw [if_pos ⟨j,h1,h2,hs j h3,h4,h5⟩]
 ·rename_i h
  rw [if_neg h] at hg
  split
  ·rename_i h'
   obtain ⟨j,h1,h2,h3,h4,rfl⟩:=h'
   exact absurd (d.free_at hk h1 h2 h4) hg
  ·rfl
theorem C7U{L:Nat→Bool}{k m:Nat}(h:(S k).hd=(S m).hd):A14 base all S τ L k=A14 base all S τ L m:=by
 unfold A14
 rw [h]
theorem A72{L:Nat→Bool}{i k:Nat}(h:τ i≠.new):A14 base all S τ (A5d L i) k=A14 base all S τ L k:=by
 funext id
 unfold A14
 have:(∃ j,j < all.length∧τ j=.new∧A5d L i j=true∧(S k).hd.inc.testBit j=false∧id=base+j)↔∃ j,j < all.length∧τ j=.new∧L j=true∧(S k).hd.inc.testBit j=false∧id=base+j:=by
  constructor
  ·rintro ⟨j,h1,h2,h3,h4,h5⟩
   have hne:j≠i:=fun e=>h (by rw [← e]; exact h2)
   exact ⟨j,h1,h2,by simpa [A5d,hne] using h3,h4,h5⟩
  ·rintro ⟨j,h1,h2,h3,h4,h5⟩
   exact ⟨j,h1,h2,B0O h3,h4,h5⟩
 exact B0L this
theorem A5u{ρ ρ':Rho}{O A A':A1r}{w w':World}(H:HRel ρ O w)(sub:∀ id,A id≠.gone→A id=O id)(st:OStep ρ A w ρ' A' w'):OStep ρ O w ρ' (A8P O A A') w' :=
 OStep.frame H sub st fun id hi=>by
  by_cases hO:O id=.gone
  ·exact .inr hO
  ·refine .inl ?_
   obtain ⟨l,h1,h2⟩:=H.objs id hO
   have hlt:=h2.lt hO
   obtain ⟨l',k1,k2⟩:=st.own id hi
   rw [st.le _ _ h1] at k1
   cases k1
   rcases k2 with k2 | ⟨id0,l0,q1,q2,q3⟩
   ·omega
   ·have:=H.apart id0 id l0 l (by rw [← sub id0 q1]; exact q1) hO q2 h1 q3
    rw [← this]; exact q1
theorem A9x{O A:A1r}(sub:∀ id,A id≠.gone→A id=O id):A8P O A A=O:=by
 funext id
 unfold A8P
 by_cases h:A id=.gone
 ·rw [B5p.2 h]; rfl
 ·rw [C0L.2 h]; exact sub id h
theorem D4P(n:Nat):VH.obj ⟨.e,n⟩=fun _=>VO.gone:=rfl
theorem C5K{ρ:Rho}{O:A1r}{w:World}(H:HRel ρ O w)(n:Nat):HRel ρ (VH.obj ⟨.e,n⟩) w:=H.part fun _ h=>absurd rfl h
structure DInv (ntmps base:Nat) (all:List Oper) (S:Nat→DS) (τ:Nat→Tag) (ρ0:Rho) (O0:A1r) (w0:World) (dl:List Nat) (L:Nat→Bool) (k:Nat) (ρ:Rho) (a:Act) (w:World):Prop where
 kle:k≤all.length
 hlt:∀ j,j < k→τ j=.cmd→L j=true
 hge:∀ j,k≤j→j < all.length→τ j=.cmd→L j=false
 env:∀ t,D9 ρ (a.tmps.getD t undef) ((C3F all S L t).getD .und)
 size:a.tmps.size=ntmps
 marks:All2 (fun (d:Deferred) id=>∃ l,ρ id=some l∧d={ target:=.collected l.1,args:=#[] }) a.defers dl
 heap:HRel ρ (A14 base all S τ L k) w
 fresh:A68 ρ (S k).nx
 nxge:base+all.length≤(S k).nx
 unl:∀ j,j < all.length→L j=false→ρ (base+j)=none
 step:OStep ρ0 O0 w0 ρ (A14 base all S τ L k) w
 chg:Chg ρ0 base ρ (S k).nx
theorem C4n{ρ:Rho}{env:Tr VV}{a:Act}{x:Operand}{v:VV}(e:∀ t,x=.tmp t→D9 ρ (a.tmps.getD t undef) ((env.get D t).getD .und))(h:K5 env x=some v):D9 ρ (a.eval x) v:=by
 cases x with
 | tmp t =>
  have:=e t rfl
  simp only [K5] at h
  split at h
  ·rename_i y hy
   cases h
   rw [hy] at this
   exact this
  ·rename_i hy
   cases h
   rw [hy] at this
   exact this
 | const u=>exact A9s h
 | global g=>cases h
 | func f=>cases h; exact D9.one.2 ⟨#[],rfl,.nil⟩
theorem C7V{ρ:Rho}{env:Tr VV}{a:Act}{ops:Array Oper}{o:Oper}{b:Bool}(e:∀ t∈S1 ops.toList o,D9 ρ (a.tmps.getD t undef) ((env.get D t).getD .und))(h:A3r env ops.toList o=some b):Region.wanted o (yielded ops a.tmps)=b:=by
 unfold A3r at h
 unfold Region.wanted
 split at h
 ·rename_i hg; cases h; simp only [hg]
 ·rename_i j want hg
  simp only [hg]
  split at h
  ·rename_i t ht
   have ht':((ops[j]?).bind (·.dst))=some t:=by simpa using ht
   have hr:=e t (List.mem_append_right _ (by simp [hg,ht']))
   split at h
   ·rename_i b0 hy
    cases h
    rw [hy] at hr
    obtain ⟨hv,_⟩:=D9.v.1 hr
    have hx:a.tmps[t]?=some (.bool b0):=by
     cases hx:a.tmps[t]? with
     | some v=>simp only [Array.getD_eq_getD_getElem?,hx,Option.getD_some] at hv; rw [hv]
     | none=>simp only [Array.getD_eq_getD_getElem?,hx,Option.getD_none] at hv; cases hv
    simp [yielded,ht',hx]
   ·rename_i hy
    cases h
    rw [hy] at hr
    have hu':a.tmps.getD t undef=undef:=hr
    cases hx:a.tmps[t]? with
    | none=>simp [yielded,ht',hx]
    | some v =>
     simp only [Array.getD_eq_getD_getElem?,hx,Option.getD_some] at hu'
     subst hu'
     simp [yielded,ht',hx,undef]
   ·cases h
  ·cases h
theorem Dr.step{P:Program}(d:Dr cx call yld ntmps base all S τ V)(hok:CxOk P cx)(hcall:A0N P call){ro:Option Nat}(hyld:ro=none→B5r P yld)(hno:ro≠none→∀ id l h,yld id l h=none)
  {ρ0:Rho} {O0:A1r} {w0:World} {dl:List Nat} {L:Nat→Bool} {k i:Nat} {o:Oper} {ρ:Rho} {a:Act} {w:World} (hd:D0z all L) (ho:all[i]?=some o) (hi:L i=false) (hr:∀ e∈o.after,Region.binds .any e=true→L e.on=true)
  (inv:DInv ntmps base all S τ ρ0 O0 w0 dl L k ρ a w) {ops:Array Oper} (hops:ops.toList=all) {nn:Nat} {Q:Exit→Act→World→Prop} {K:Act→World→Prop}
  (hK:∀ k' ρ' a' w',DInv ntmps base all S τ ρ0 O0 w0 dl (A5d L i) k' ρ' a' w'→K a' w'):wpOpIn (FW ro) nn P ops Q i K a w:=by
 have hin:=(List.getElem?_eq_some_iff.1 ho).1
 have hoi:ops[i]?=some o:=by rw [← hops] at ho; simpa using ho
 unfold wpOpIn
 rw [hoi]
 simp only
 obtain ⟨hdst,hput,hk⟩:=d.st i o ho
 have hpre:∀ j,(pr all i).testBit j=true→L j=true:=hd.pre d.edges i o ho hr
 have hon:∀ t∈S1 all o,D9 ρ (a.tmps.getD t undef) (((S i).env.get D t).getD .und):=fun t ht=>by
  have:=inv.env t
  rwa [d.view_reads hd ho hi hpre ht] at this
 have hwant:∀ b,A3r (S i).env all o=some b→Region.wanted o (yielded ops a.tmps)=b:=fun b hb=>C7V (ρ:=ρ) (by rw [hops]; exact hon) (by rw [hops]; exact hb)
 have hargs:∀ x∈o.op.operands,∀ y,K5 (S i).env x=some y→D9 ρ (a.eval x) y:=fun x hx y hy=>C4n (fun t e=>hon t (List.mem_append_left _ (A5U (by rw [← e]; simpa using hx)))) hy
 have fin:∀ k' u ρ' w',D9 ρ' u (V i)→OStep ρ (A14 base all S τ L k) w ρ' (A14 base all S τ (A5d L i) k') w'→k'≤all.length→(∀ j,j < k'→τ j=.cmd→A5d L i j=true)→(∀ j,k'≤j→j < all.length→τ j=.cmd→A5d L i j=false) →
   A68 ρ' (S k').nx→base+all.length≤(S k').nx→(∀ j,j < all.length→j≠i→ρ' (base+j)=ρ (base+j))→Chg ρ0 base ρ' (S k').nx→K (a.put o.dst u) w':=by
  intro k' u ρ' w' hv st h1 h2 h3 h4 h5 h6 h7
  refine hK k' ρ' _ w' ⟨h1,h2,h3,fun t=>?_,by rw [B0J]; exact inv.size,by rw [A69]; exact U7 (fun _ _ ⟨l,q1,q2⟩=>⟨l,st.le _ _ q1,q2⟩) inv.marks,st.rel,h4,h5,fun j hj hL=>?_,inv.step.trans st,h7⟩
  ·rw [d.view_add ho t]
   have old:=(inv.env t).mono st.le
   cases hdd:o.dst with
   | none=>rw [if_neg (by simp)]; exact old
   | some t0 =>
    have ht:t0 < a.tmps.size:=by rw [inv.size]; rw [hdd] at hdst; exact Nat.le_of_ble_eq_true hdst
    rw [C12 a t0 u ht]
    by_cases e:t=t0
    ·subst e; rw [if_pos rfl,if_pos rfl]; exact hv
    ·rw [if_neg e,if_neg (by simpa using fun h=>e h.symm)]; exact old
  ·unfold A5d at hL
   split at hL
   ·cases hL
   ·rename_i hne
    rw [h6 j hj hne]
    exact inv.unl j hj hL
 -- the head stays
 have C5z:τ i≠.cmd→∀ u ρ' w',D9 ρ' u (V i)→OStep ρ (A14 base all S τ L k) w ρ' (A14 base all S τ (A5d L i) k) w'→(ρ'=ρ∨∃ l,ρ'=ρ.upd (base+i) l)→K (a.put o.dst u) w':=by
  intro hc u ρ' w' hv st hρ
  have hoff:∀ id,id≠base+i→ρ' id=ρ id:=by
   intro id hne
   rcases hρ with rfl | ⟨l,rfl⟩
   ·rfl
   ·unfold Rho.upd; rw [if_neg hne]
  refine fin k u ρ' w' hv st inv.kle (fun j h1 h2=>B0O (inv.hlt j h1 h2)) (fun j h1 h2 h3=>?_) (fun id hid=>?_) inv.nxge (fun j hj hne=>hoff _ (by omega)) ⟨inv.chg.1,fun id hne=>?_⟩
  ·have hne:j≠i:=fun e=>hc (by rw [← e]; exact h3)
   simpa [A5d,hne] using inv.hge j h1 h2 h3
  ·have:=inv.nxge
   rw [hoff id (by omega)]
   exact inv.fresh id hid
  ·by_cases e:id=base+i
   ·have:=inv.nxge; omega
   ·rw [hoff id e] at hne; exact inv.chg.2 id hne
 cases ht:τ i with
 | skip =>
  rw [ht] at hk
  rw [hwant _ hk.1]
  simp only [Bool.false_eq_true,if_false]
  refine ⟨fun _ _=>trivial,C5z (by rw [ht]; simp) undef ρ w (by rw [hk.2.1]; exact rfl) ?_ (.inl rfl)⟩
  rw [A72 (by rw [ht]; simp)]
  exact .refl inv.heap
 | new =>
  rw [ht] at hk
  obtain ⟨hw,hN,⟨h,hop,hns⟩,_⟩:=hk
  rw [hwant _ hw]
  simp only [if_true]
  obtain ⟨cs,hobj,_⟩:=C7S hop hN
  refine B34 hok.conf hop hargs (C5K inv.heap _) (inv.unl i hin hi) fun u ρ' w' hv st hn=>?_
  have st2:=A5u (A:=VH.obj ⟨.e,base+i⟩) inv.heap (fun id hg=>absurd rfl hg) st
  have hX:B92 S i=.row cs:=by
   unfold B92
   rw [hns,hobj]
   simp [A1r.upd]
  have hm:A8P (A14 base all S τ L k) (VH.obj ⟨.e,base+i⟩) h.obj=A14 base all S τ (A5d L i) k:=by
   funext id
   unfold A8P
   rw [hobj]
   by_cases e:id=base+i
   ·subst e
    have hinc:(S k).hd.inc.testBit i=false:=by
     cases hb:(S k).hd.inc.testBit i with
     | false=>rfl
     | true =>
      obtain ⟨c,c1,c2,c3⟩:=d.inc_bit k inv.kle i hb
      have hcl:c < all.length:=by have:=inv.kle; omega
      have hq:all[c]?=some all[c]:=List.getElem?_eq_getElem hcl
      have:=hd.pre d.edges c _ hq (hd c _ hq (inv.hlt c c1 c2)) i c3
      rw [hi] at this; cases this
    have:A14 base all S τ (A5d L i) k (base+i)=.row cs:=by
     unfold A14
     rw [if_pos ⟨i,hin,ht,by simp [A5d],hinc,rfl⟩]
     simpa using hX
    rw [this]
    simp [A1r.upd,isG]
   ·have:A14 base all S τ (A5d L i) k id=A14 base all S τ L k id:=by
     unfold A14
     have:(∃ j,j < all.length∧τ j=.new∧A5d L i j=true∧(S k).hd.inc.testBit j=false∧id=base+j)↔∃ j,j < all.length∧τ j=.new∧L j=true∧(S k).hd.inc.testBit j=false∧id=base+j:=by
      constructor
      ·rintro ⟨j,h1,h2,h3,h4,h5⟩
       have hne:j≠i:=fun e2=>e (by rw [h5,e2])
       exact ⟨j,h1,h2,by simpa [A5d,hne] using h3,h4,h5⟩
      ·rintro ⟨j,h1,h2,h3,h4,h5⟩
       exact ⟨j,h1,h2,B0O h3,h4,h5⟩
     exact B0L this
    rw [this]
    simp [A1r.upd,e,D4P,isG]
  rw [hm] at st2
  refine C5z (by rw [ht]; simp) u ρ' w' hv st2 ?_
  rcases hn with ⟨h1,_⟩ | ⟨l,h1,_⟩
  ·exact .inl h1
  ·exact .inr ⟨l,h1⟩
 | cmd =>
  obtain ⟨hw,hchain,⟨t,h,hadd,hop,hhd,hnx⟩,_⟩:=d.cmd ho ht
  rw [hwant _ hw]
  simp only [if_true]
  -- the commands ahead have been done,those behind have not
  have before:∀ j,j < i→τ j=.cmd→L j=true:=fun j h1 h2=>hpre j (C14 hchain ((d.cm_bit i (Nat.le_of_lt hin) j).2 ⟨h1,h2⟩))
  have behind:∀ j,i < j→j < all.length→τ j=.cmd→L j=false:=fun j h1 h2 h3=>by
   cases hb:L j with
   | false=>rfl
   | true =>
    have hq:all[j]?=some all[j]:=List.getElem?_eq_getElem h2
    obtain ⟨_,hc2,_⟩:=d.cmd hq h3
    have:=hd.pre d.edges j _ hq (hd j _ hq hb) i (C14 hc2 ((d.cm_bit j (Nat.le_of_lt h2) i).2 ⟨h1,ht⟩))
    rw [hi] at this; cases this
  have hsame:(S k).hd=(S i).hd∧(S k).nx=(S i).nx:=by
   rcases Nat.le_total k i with hki | hki
   ·have:=d.same_hd (i - k) k (by omega) fun j h1 h2 h3=>by
     have q:=inv.hge j h1 (by omega) h3
     rw [before j (by omega) h3] at q; cases q
    rw [show k+(i - k)=i by omega] at this
    exact ⟨this.1.symm,this.2.symm⟩
   ·have:=d.same_hd (k - i) i (by have:=inv.kle; omega) fun j h1 h2 h3=>by
     have q:=inv.hlt j (by omega) h3
     by_cases e:j=i
     ·rw [e,hi] at q; cases q
     ·rw [behind j (by omega) (by have:=inv.kle; omega) h3] at q; cases q
    rwa [show i+(k - i)=k by omega] at this
  have hpart:VH.obj ⟨t,(S i).nx⟩=A14 base all S τ (fun j=>bit (pr all i) j) k:=by
   rw [C7U hsame.1]
   exact d.add_obj (k:=i) (Nat.le_of_lt hin) (fun j _ hb _=>C17 d.edges i o ho j (by rw [← A3L]; exact hb)) hadd
  have hsub:=d.obj_sub (W:=fun j=>bit (pr all i) j) (L:=L) inv.kle fun j hj=>hpre j (by rw [← A3L]; exact hj)
  refine C5I hok hcall hyld hno hop nn ρ w a K Q hargs (by rw [hpart]; exact inv.heap.part hsub) (by show A68 ρ (S i).nx; rw [← hsame.2]; exact inv.fresh) fun u ρ' w' hv st hc=>?_
  rw [hpart] at st
  have st2:=A5u inv.heap hsub st
  have hinc:(S (i+1)).hd.inc=Nat.lor (S k).hd.inc (pr all i):=by rw [hhd,hsame.1]
  have hobj':C3G (S (i+1)).hd.t=h.obj:=by rw [hhd]; rfl
  have hnx':(S (i+1)).nx=h.nxt:=hnx
  have hm:A8P (A14 base all S τ L k) (A14 base all S τ (fun j=>bit (pr all i) j) k) h.obj=A14 base all S τ (A5d L i) (i+1):=by
   rw [A72 (by rw [ht]; simp)]
   funext id
   unfold A8P
   by_cases hex:∃ j,j < all.length∧τ j=.new∧L j=true∧(S (i+1)).hd.inc.testBit j=false∧id=base+j
   ·obtain ⟨j,h1,h2,h3,h4,rfl⟩:=hex
    have h4':=h4
    rw [hinc,A2X,Bool.or_eq_false_iff] at h4'
    have e1:A14 base all S τ L (i+1) (base+j)=B92 S j:=by unfold A14; rw [if_pos ⟨j,h1,h2,h3,h4,rfl⟩]; simp
    have e2:A14 base all S τ L k (base+j)=B92 S j:=by unfold A14; rw [if_pos ⟨j,h1,h2,h3,h4'.1,rfl⟩]; simp
    have e3:A14 base all S τ (fun j=>bit (pr all i) j) k (base+j)=.gone:=by
     unfold A14
     rw [if_neg,d.free_at inv.kle h1 h2 h4'.1]
     rintro ⟨j',q1,q2,q3,q4,q5⟩
     have:j'=j:=by omega
     subst this
     simp only [A3L] at q3
     rw [h4'.2] at q3; cases q3
    have e4:h.obj (base+j)=.gone:=by rw [← hobj']; exact d.free_at hin h1 h2 h4
    rw [e1,e2,e3,e4]; rfl
   ·have e1:A14 base all S τ L (i+1) id=h.obj id:=by unfold A14; rw [if_neg hex,hobj']
    rw [e1]
    cases hg:isG (A14 base all S τ (fun j=>bit (pr all i) j) k id) && isG (h.obj id) with
    | false=>rfl
    | true =>
     simp only [Bool.and_eq_true,B5p] at hg
     simp only [cond_true]
     rw [hg.2]
     by_cases hex2:∃ j,j < all.length∧τ j=.new∧L j=true∧(S k).hd.inc.testBit j=false∧id=base+j
     ·obtain ⟨j,h1,h2,h3,h4,rfl⟩:=hex2
      have hb:bit (pr all i) j=true:=by
       rw [A3L]
       cases hb:(pr all i).testBit j with
       | true=>rfl
       | false=>exact absurd ⟨j,h1,h2,h3,by rw [hinc,A2X,h4,hb]; rfl,rfl⟩ hex
      have e2:A14 base all S τ L k (base+j)=B92 S j:=by unfold A14; rw [if_pos ⟨j,h1,h2,h3,h4,rfl⟩]; simp
      have e3:A14 base all S τ (fun j=>bit (pr all i) j) k (base+j)=B92 S j:=by unfold A14; rw [if_pos ⟨j,h1,h2,hb,h4,rfl⟩]; simp
      rw [e2,← e3]; exact hg.1
     ·have e2:A14 base all S τ L k id=C3G (S k).hd.t id:=by unfold A14; rw [if_neg hex2]
      have e3:A14 base all S τ (fun j=>bit (pr all i) j) k id=C3G (S k).hd.t id:=by
       unfold A14
       rw [if_neg]
       rintro ⟨j',q1,q2,q3,q4,q5⟩
       exact hex2 ⟨j',q1,q2,hpre j' (by rw [← A3L]; exact q3),q4,q5⟩
      rw [e2,← e3]; exact hg.1
  rw [hm] at st2
  have hnxi:h.nxt=(S (i+1)).nx:=hnx'.symm
  have hc':Chg ρ (S k).nx ρ' (S (i+1)).nx:=by rw [hsame.2,hnx']; exact hc
  refine fin (i+1) u ρ' w' hv st2 hin (fun j h1 h2=>?_) (fun j h1 h2 h3=>?_) (hc'.fresh inv.fresh) (Nat.le_trans inv.nxge hc'.1) (fun j hj _=>?_) ⟨Nat.le_trans inv.chg.1 hc'.1,fun id hne=>?_⟩
  ·unfold A5d
   split
   ·rfl
   ·exact before j (by omega) h2
  ·have hne:j≠i:=by omega
   simpa [A5d,hne] using behind j (by omega) h2 h3
  ·by_cases e:ρ' (base+j)=ρ (base+j)
   ·exact e
   ·have:=(hc'.2 _ e).1
    have:=inv.nxge
    omega
  ·by_cases e:ρ' id=ρ id
   ·rw [e] at hne
    have:=inv.chg.2 id hne
    have:=hc'.1
    omega
   ·have:=hc'.2 id e
    have:=inv.nxge
    omega
 | rd =>
  rw [ht] at hk
  obtain ⟨hw,hN,hC,_⟩:=hk
  rw [hwant _ hw]
  simp only [if_true]
  have hl:=d.look _ (d.head inv.kle) _ (d.ps_mem ht all.length (Nat.le_refl _) hin)
  have hninc:bit (S k).hd.inc i=false:=by
   rw [A3L]
   cases hb:(S k).hd.inc.testBit i with
   | false=>rfl
   | true =>
    obtain ⟨c,c1,c2,c3⟩:=d.inc_bit k inv.kle i hb
    have hcl:c < all.length:=by have:=inv.kle; omega
    have hq:all[c]?=some all[c]:=List.getElem?_eq_getElem hcl
    have:=hd.pre d.edges c _ hq (hd c _ hq (inv.hlt c c1 c2)) i c3
    rw [hi] at this; cases this
  have hcm:Nat.beq (Nat.land (Nat.land (pr all i) (S all.length).hd.cm) (S k).hd.cm) (Nat.land (pr all i) (S all.length).hd.cm)=true:=by
   rw [B2]
   refine Nat.eq_of_testBit_eq fun j=>?_
   show((pr all i &&& (S all.length).hd.cm) &&& (S k).hd.cm).testBit j=(pr all i &&& (S all.length).hd.cm).testBit j
   rw [Nat.testBit_and,Nat.testBit_and]
   cases h1:(pr all i).testBit j with
   | false=>simp
   | true =>
    cases h2:(S all.length).hd.cm.testBit j with
    | false=>simp
    | true =>
     obtain ⟨q1,q2⟩:=(d.cm_bit _ (Nat.le_refl _) j).1 h2
     have q3:j < k:=by
      rcases Nat.lt_or_ge j k with q | q
      ·exact q
      ·have:=inv.hge j q q1 q2
       rw [hpre j h1] at this; cases this
     rw [(d.cm_bit k inv.kle j).2 ⟨q3,q2⟩]
     rfl
  unfold B6q at hl
  simp only [hninc,show((Z1 all []).getD i 0)=pr all i from rfl,hcm,Bool.not_true,Bool.or_self,cond_false] at hl
  split at hl
  ·rename_i t o' hadd ho'
   rw [ho] at ho'
   cases ho'
   split at hl
   ·rename_i v' h' hop
    have hv':=D17 hl
    subst hv'
    have hpart:VH.obj ⟨t,base+i⟩=A14 base all S τ (fun j=>bit (pr all i) j) k :=
     d.add_obj (k:=k) (m:=all.length) (Nat.le_refl _) (fun j h1 _ _=>h1) hadd
    have hsub:=d.obj_sub (W:=fun j=>bit (pr all i) j) (L:=L) inv.kle fun j hj=>hpre j (by rw [← A3L]; exact hj)
    have hh:=B6C hop hN hC
    subst hh
    refine B34 hok.conf hop hargs (by rw [hpart]; exact inv.heap.part hsub) (inv.unl i hin hi) fun u ρ' w' hv st hn=>?_
    rw [hpart] at st
    have st2:=A5u inv.heap hsub st
    rw [A9x hsub] at st2
    refine C5z (by rw [ht]; simp) u ρ' w' hv (by rw [A72 (by rw [ht]; simp)]; exact st2) ?_
    rcases hn with ⟨h1,_⟩ | ⟨l,h1,_⟩
    ·exact .inl h1
    ·exact .inr ⟨l,h1⟩
   ·cases hl
  ·cases hl
 | pure =>
  rw [ht] at hk
  obtain ⟨hw,hN,hC,⟨h',hop⟩,_⟩:=hk
  rw [hwant _ hw]
  simp only [if_true]
  have hh:=B6C hop hN hC
  subst hh
  refine B34 hok.conf hop hargs (C5K inv.heap _) (inv.unl i hin hi) fun u ρ' w' hv st hn=>?_
  have hsub:∀ id,VH.obj ⟨.e,base+i⟩ id≠.gone→VH.obj ⟨.e,base+i⟩ id=A14 base all S τ L k id:=fun id hg=>absurd rfl hg
  have st2:=A5u inv.heap hsub st
  rw [A9x hsub] at st2
  refine C5z (by rw [ht]; simp) u ρ' w' hv (by rw [A72 (by rw [ht]; simp)]; exact st2) ?_
  rcases hn with ⟨h1,_⟩ | ⟨l,h1,_⟩
  ·exact .inl h1
  ·exact .inr ⟨l,h1⟩
end
theorem A4m(n j:Nat):(Array.replicate n false).getD j false=false:=by
 rw [Array.getD_eq_getD_getElem?,Array.getElem?_replicate]
 split <;> rfl
section
variable {P:Program} {cx:VCx}
theorem C4o(hmix:P.follows .mixedOrders=true)(hok:CxOk P cx){call:A1t}(hcall:A0N P call){yld:Nat→List VV→VH→Option (VV×VH)}{ro:Option Nat}(hyld:ro=none→B5r P yld)(hno:ro≠none→∀ id l h,yld id l h=none){nt:Nat}{id:Nat}{ops:Array Oper}{n:Nat}{Q:Exit→Act→World→Prop}
  {s s':VSt} (h:C0J cx call yld nt ops.toList s=some s') {ρ:Rho} {a:Act} {w:World} (g:FRel ρ nt s a w) (hQ:∀ a' w',To ρ nt s w s' a' w'→Q .normal a' w'):(Code.region id ops true).wpIn (FW ro) n P Q a w:=by
 unfold C0J at h
 cases hb:(A0Q 0 ops.toList && B6r ops.toList (Z1 ops.toList []) && C5D ops.toList) <;> rw [hb] at h <;> simp only [cond_true,cond_false,reduceCtorEq] at h
 simp only [Bool.and_eq_true] at hb
 obtain ⟨⟨hedge,hslot⟩,_⟩:=hb
 split at h
 ·rename_i dd hgo
  cases hf:((dd.hd::dd.old).all fun h=>C4g s.h.nxt dd.ns h && dd.ps.all fun p=>B6q cx.T s.h.nxt ops.toList (Z1 ops.toList []) dd.ns dd.hd.cm p h) <;> rw [hf] at h <;> simp only [cond_true,cond_false,reduceCtorEq] at h
  split at h
  ·rename_i t hadd
   cases h
   obtain ⟨S,τ,V,e0,e1,hall⟩:=A9w hgo
   simp only [Nat.zero_add] at e1 hall
   have hfl:=List.all_eq_true.1 hf
   have d:Dr cx call yld nt s.h.nxt ops.toList S τ V:=⟨hall,hslot,hedge,fun hh hm=>by
    rw [e1] at hm ⊢
    have:=hfl hh hm
    simp only [Bool.and_eq_true] at this
    exact this.1,fun hh hm p hp=>by
    rw [e1] at hm hp ⊢
    have:=hfl hh hm
    simp only [Bool.and_eq_true] at this
    exact List.all_eq_true.1 this.2 p hp,by rw [e0],by rw [e0],by rw [e0]⟩
   refine wpIn_region_any hmix ?_
   have key:∀ (fuel:Nat) (listed:Array Bool),listed.size=ops.size→listed.toList.count false=fuel→D0z ops.toList (fun k=>listed.getD k false) →
     ∀ (k:Nat) (ρ':Rho) (a':Act) (w':World),DInv nt s.h.nxt ops.toList S τ ρ s.h.obj w s.dl (fun k=>listed.getD k false) k ρ' a' w'→wpAnyIn (FW ro) n P .any ops Q fuel listed a' w':=by
    have done:∀ (listed:Array Bool),(∀ k,k < ops.size→listed.getD k false=true)→∀ (k:Nat) (ρ':Rho) (a':Act) (w':World),DInv nt s.h.nxt ops.toList S τ ρ s.h.obj w s.dl (fun k=>listed.getD k false) k ρ' a' w'→Q .normal a' w':=by
     intro listed hl k ρ' a' w' inv
     have hkn:(S k).hd=dd.hd∧(S k).nx=dd.nx:=by
      have:=d.same_hd (ops.toList.length - k) k (by have:=inv.kle; omega) fun j h1 h2 h3=>by
       have:=inv.hge j h1 (by have:=inv.kle; omega) h3
       rw [hl j (by have:=inv.kle; simp at h2 this ⊢; omega)] at this; cases this
      rw [show k+(ops.toList.length - k)=ops.toList.length by have:=inv.kle; omega,e1] at this
      exact ⟨this.1.symm,this.2.symm⟩
     have hobj:VH.obj ⟨t,dd.nx⟩=A14 s.h.nxt ops.toList S τ (fun k=>listed.getD k false) k:=by
      have hadd':B8Y s.h.nxt (fun j=>true && !bit (S k).hd.inc j) (S ops.toList.length).ns (S k).hd.t=some t:=by rw [e1,hkn.1]; simpa using hadd
      have h1:C3G t=_:=d.add_obj (k:=k) (m:=ops.toList.length) (W:=fun _=>true) (Nat.le_refl _) (fun j h1 _ _=>h1) hadd'
      have h2:A14 s.h.nxt ops.toList S τ (fun _=>true) k=A14 s.h.nxt ops.toList S τ (fun k=>listed.getD k false) k:=by
       funext id
       unfold A14
       have:(∃ j,j < ops.toList.length∧τ j=.new∧true=true∧(S k).hd.inc.testBit j=false∧id=s.h.nxt+j)↔∃ j,j < ops.toList.length∧τ j=.new∧listed.getD j false=true∧(S k).hd.inc.testBit j=false∧id=s.h.nxt+j:=by
        constructor
        ·rintro ⟨j,h1,h2,_,h4⟩; exact ⟨j,h1,h2,hl j (by simpa using h1),h4⟩
        ·rintro ⟨j,h1,h2,_,h4⟩; exact ⟨j,h1,h2,rfl,h4⟩
       exact B0L this
      exact h1.trans h2
     refine hQ a' w' ⟨ρ',⟨fun t=>?_,inv.size,inv.marks,?_,?_⟩,?_,?_⟩
     ·have:=inv.env t
      unfold C3F at this
      split at this
      ·rw [e1] at this; exact this
      ·rename_i hne
       have hb:=d.env_before (i:=ops.toList.length) (t:=t) (Nat.le_refl _) fun j q hj hq hqt=>hne ⟨j,q,hq,hl j (by simpa using hj),hqt⟩
       rw [e1] at hb
       show D9 ρ' _ ((dd.env.get D t).getD .und)
       rw [hb]; exact this
     ·show HRel ρ' (VH.obj ⟨t,dd.nx⟩) w'
      rw [hobj]; exact inv.heap
     ·show A68 ρ' dd.nx
      rw [← hkn.2]; exact inv.fresh
     ·show OStep ρ s.h.obj w ρ' (VH.obj ⟨t,dd.nx⟩) w'
      rw [hobj]; exact inv.step
     ·show Chg ρ s.h.nxt ρ' dd.nx
      rw [← hkn.2]; exact inv.chg
    intro fuel
    induction fuel with
    | zero =>
     intro listed hsz hcnt hcl k ρ' a' w' inv
     have hall':∀ k,k < ops.size→listed.getD k false=true:=fun k hk=>by
      cases hb:listed.getD k false with
      | true=>rfl
      | false =>
       have hm:false∈listed.toList:=by
        rw [Array.getD_eq_getD_getElem?] at hb
        simp only [hsz,hk,Array.getElem?_eq_getElem,Option.getD_some] at hb
        rw [← hb]
        simp
       have:=List.count_pos_iff.2 hm
       omega
     refine ⟨?_,done listed hall' k ρ' a' w' inv⟩
     cases hr:Region.ready .any ops listed with
     | nil=>rfl
     | cons x xs =>
      have hx:x∈Region.ready .any ops listed:=by rw [hr]; simp
      obtain ⟨h1,o,ho,_⟩:=mem_ready.1 hx
      have hxs:=(Array.getElem?_eq_some_iff.1 ho).1
      have:=hall' x hxs
      rw [Array.getD_eq_getD_getElem?] at h1 this
      simp only [hsz,hxs,Array.getElem?_eq_getElem,Option.getD_some] at h1 this
      rw [h1] at this; cases this
    | succ fuel ih =>
     intro listed hsz hcnt hcl k ρ' a' w' inv
     refine ⟨fun hr=>done listed (A9e hsz hedge hr) k ρ' a' w' inv,fun i hi=>?_⟩
     obtain ⟨h1,o,ho,hall2⟩:=mem_ready.1 hi
     have his:=(Array.getElem?_eq_some_iff.1 ho).1
     have hil:listed[i]?=some false:=by
      rw [Array.getD_eq_getD_getElem?] at h1
      simp only [hsz,his,Array.getElem?_eq_getElem,Option.getD_some] at h1
      simp [hsz,his,h1]
     have hi0:listed.getD i false=false:=by rw [Array.getD_eq_getD_getElem?,hil]; rfl
     have hset:∀ j,(listed.setIfInBounds i true).getD j false=A5d (fun k=>listed.getD k false) i j:=by
      intro j
      unfold A5d
      rw [Array.getD_eq_getD_getElem?,Array.getElem?_setIfInBounds]
      by_cases e:i=j
      ·subst e; simp [hsz,his]
      ·rw [if_neg e,if_neg (fun h=>e h.symm)]
       show _=listed.getD j false
       rw [Array.getD_eq_getD_getElem?]
     have hcl':D0z ops.toList (fun k=>(listed.setIfInBounds i true).getD k false):=by
      intro j q hq hj e he hbind
      simp only [hset] at hj ⊢
      unfold A5d at hj ⊢
      split
      ·rfl
      ·split at hj
       ·rename_i e2
        subst e2
        have:q=o:=by rw [show ops.toList[j]?=ops[j]? by simp,ho] at hq; cases hq; rfl
        subst this
        exact hall2 e he hbind
       ·exact hcl j q hq hj e he hbind
     refine d.step hok hcall hyld hno hcl (by simpa using ho) hi0 hall2 inv rfl fun k' ρ2 a2 w2 inv2=>?_
     refine ih _ (by simpa using hsz) ?_ hcl' k' ρ2 a2 w2 ?_
     ·have h0:listed.toList[i]?=some false:=by simpa using hil
      have hlt:=(List.getElem?_eq_some_iff.1 h0).1
      have hgi:listed.toList[i]=false:=(List.getElem?_eq_some_iff.1 h0).2
      rw [Array.toList_setIfInBounds,List.count_set hlt,hgi]
      simp
      have:listed.toList.count false=fuel+1:=hcnt
      simp at this
      omega
     ·have:(fun k=>(listed.setIfInBounds i true).getD k false)=A5d (fun k=>listed.getD k false) i:=funext hset
      rw [this]; exact inv2
   have hcnt:(Array.replicate ops.size false).toList.count false=ops.size:=by simp
   have hv0:∀ t,C3F ops.toList S (fun k=>(Array.replicate ops.size false).getD k false) t=s.env.get D t:=by
    intro t
    unfold C3F
    rw [if_neg,e0]
    rintro ⟨j,q,_,h,_⟩
    exact Bool.noConfusion ((A4m _ _).symm.trans h)
   have hO0:A14 s.h.nxt ops.toList S τ (fun k=>(Array.replicate ops.size false).getD k false) 0=s.h.obj:=by
    funext id
    unfold A14
    rw [if_neg,e0]
    ·rfl
    ·rintro ⟨j,_,_,h,_⟩
     exact Bool.noConfusion ((A4m _ _).symm.trans h)
   have hw0:OStep ρ s.h.obj w ρ s.h.obj { w with drawn:=w.drawn+1 } :=
    ⟨.refl ρ,⟨fun id hi=>let ⟨l,h1,h2⟩:=g.heap.objs id hi; ⟨l,h1,h2.mono (.refl ρ) rfl⟩,g.heap.apart⟩,⟨rfl,rfl,rfl,Nat.le_refl _,fun _ _ _=>rfl⟩,fun id hi=>let ⟨l,h1,_⟩:=g.heap.objs id hi; ⟨l,h1,.inr ⟨id,l,hi,h1,rfl⟩⟩⟩
   refine key ops.size _ (by simp) hcnt (fun j q _ hj=>Bool.noConfusion ((A4m _ _).symm.trans hj)) 0 ρ a _ ⟨Nat.zero_le _,fun j h=>by omega,fun j _ _ _=>A4m _ j,fun t=>by rw [hv0]; exact g.env t,g.size,g.marks,by rw [hO0]; exact hw0.rel,?_,?_,fun j _ _=>g.fresh _ (by omega),by rw [hO0]; exact hw0,?_⟩
   ·rw [e0]; exact fun i hi=>g.fresh i (by show s.h.nxt≤i; have:s.h.nxt+ops.toList.length≤i:=hi; omega)
   ·rw [e0]; exact Nat.le_refl _
   ·rw [e0]; exact ⟨by show s.h.nxt≤s.h.nxt+ops.toList.length; omega,fun id h=>absurd rfl h⟩
  ·cases h
 ·cases h
end
end Go.Vm
namespace Go.Vm
open Go.Eng Go.RowKit
section
variable {P:Program} {cx:VCx}
def toExit:Ex→Exit
 | .normal=>.normal
 | .exit i=>.exit i
 | .ret=>.ret
def A9y(P:Program)(ro:Option Nat)(nt:Nat)(c:Code)(s:VSt)(ex:Ex)(s':VSt):Prop :=
 ∀ (n:Nat) (ρ:Rho) (a:Act) (w:World) (Q:Exit→Act→World→Prop),FRel ρ nt s a w→(∀ a' w',To ρ nt s w s' a' w'→Q (toExit ex) a' w')→c.wpIn (FW ro) n P Q a w
theorem To.trans{ρ ρ1:Rho}{nt:Nat}{s s1 s2:VSt}{w w1 w2:World}{a2:Act}(st:OStep ρ s.h.obj w ρ1 s1.h.obj w1)(hc:Chg ρ s.h.nxt ρ1 s1.h.nxt)(h:To ρ1 nt s1 w1 s2 a2 w2):To ρ nt s w s2 a2 w2:=by
 obtain ⟨ρ2,k1,k2,k3⟩:=h
 exact ⟨ρ2,k1,st.trans k2,hc.trans k3⟩
theorem B5t{F:Fence}{n:Nat}{c:Code}{Q:Exit→Act→World→Prop}{J:Nat→Act→World→Prop}(h0:∀ a w,¬ J 0 a w)(hs:∀ m a w,J (m+1) a w→c.wpIn F n P (Exit.then (J m) Q) a w){m:Nat}{a:Act}{w:World}(h:J m a w) :
  (Code.loop c).wpIn F n P Q a w:=by
 intro b k cs hro hb hr
 have key:∀ m a w,J m a w→∃ e a' w',Q e a' w'∧ArrivesIn (Machine.fenced P F) P (lone (b.atR a (.code c::.inLoop c::k)) cs w) b k cs e a' w':=by
  intro m
  induction m with
  | zero=>intro a w h; exact absurd h (h0 a w)
  | succ m ih =>
   intro a w hJ
   obtain ⟨e,a₁,w₁,hq,harr⟩:=hs m a w hJ b (.inLoop c::k) cs hro hb hr
   cases e with
   | normal =>
    obtain ⟨e₂,a₂,w₂,hq₂,harr₂⟩:=ih a₁ w₁ hq
    exact ⟨e₂,a₂,w₂,hq₂,.of_steps (StepsIn.trans harr (.one (fenced_calm hb hr rfl) stepR_inLoop)) harr₂⟩
   | exit id=>exact ⟨_,a₁,w₁,hq,.pass (x:=.inLoop c) rfl (fun _ _=>.inl (by simp)) harr⟩
   | goto l=>exact ⟨_,a₁,w₁,hq,.pass (x:=.inLoop c) rfl (fun _ _=>.inl (by simp)) harr⟩
   | ret=>exact ⟨_,a₁,w₁,hq,.pass (x:=.inLoop c) rfl (fun _ _=>.inl (by simp)) harr⟩
   | panic ch=>exact ⟨_,a₁,w₁,hq,.pass (x:=.inLoop c) rfl (fun _ _=>.inl (by simp)) harr⟩
   | outgrown=>exact ⟨_,a₁,w₁,hq,.pass (x:=.inLoop c) rfl (fun _ _=>.inl (by simp)) harr⟩
 obtain ⟨e,a',w',hq,harr⟩:=key m a w h
 exact ⟨e,a',w',hq,.of_steps (.one (fenced_calm hb hr rfl) stepR_loop) harr⟩
structure Orc (P:Program) (cx:VCx) (ro:Option Nat) (top:Bool) (call:A1t) (yld:Nat→List VV→VH→Option (VV×VH)):Prop where
 hcall:A0N P call
 hyld:ro=none→B5r P yld
 hno:ro≠none→∀ id l h,yld id l h=none
 htop:top=true→ro=none
theorem C7W(hok:CxOk P cx){call:A1t}(hcall:A0N P call){top:Bool}{ro:Option Nat}(htop:top=true→ro=none){nt:Nat}{g:Operand}{ps:Array Nat}{a0 c:Code}{s s':VSt}{ex:Ex}(h:B8Z call top nt g ps.toList a0 c s=some (ex,s')):A9y P ro nt (.rangeFunc g ps a0 c) s ex s':=by
 intro n ρ a w Q fr hQ
 unfold B8Z at h
 cases top
 ·cases h
 ·have hro:=htop rfl
  subst hro
  simp only [cond_true] at h
  split at h
  ·rename_i gf ids hg
   obtain ⟨caps,hv,hcaps⟩:=D9.r1.1 (A80 fr.env hg)
   split at h
   ·rename_i d h1 hd
    obtain ⟨rfl,hO1,hn1⟩:=VH.obj_new hd
    split at h
    ·rename_i l h2 hl
     obtain ⟨rfl,hO2,hn2⟩:=VH.obj_new hl
     split at h
     ·rename_i rv h3 hc
      split at h
      ·rename_i e3 n3 p3 a3 c3 d3 hob
       split at h
       ·rename_i h4 hput
        cases h
        obtain ⟨hO4,hn4⟩:=VH.obj_put hput
        obtain ⟨hbd,hcalls⟩:=hcall _ _ _ _ _ hc
        refine wpIn_rangeFunc fun fn _=>?_
        have hx0:=fr.fresh s.h.nxt (Nat.le_refl _)
        have st1:OStep ρ s.h.obj w (ρ.upd s.h.nxt (w.heap.size,0)) h1.obj (w.alloc (.deferred (some []))):=by
         rw [hO1]
         exact OStep.new fr.heap hx0 (N3 w _) (Nat.le_refl _) (heap_alloc_new w _)
        have hf1:A68 (ρ.upd s.h.nxt (w.heap.size,0)) h1.nxt:=(A37.chg (.inr ⟨_,rfl,hn1⟩)).fresh fr.fresh
        have hx1:=hf1 h1.nxt (Nat.le_refl _)
        have st2:OStep (ρ.upd s.h.nxt (w.heap.size,0)) h1.obj (w.alloc (.deferred (some []))) ((ρ.upd s.h.nxt (w.heap.size,0)).upd h1.nxt (w.heap.size+1,0)) h2.obj
          ((w.alloc (.deferred (some []))).alloc (.loop { state:=.ready,pending:=none,fn:=fn,tmps:=a.tmps,params:=ps,assign:=a0,body:=c,defers:=w.heap.size })):=by
         rw [hO2]
         refine OStep.new st1.rel hx1 (N3 _ _) (by simp) ⟨fn,a.tmps,(w.heap.size,0),?_,?_,fr.size,fun t=>?_⟩
         ·have:s.h.nxt≠h1.nxt:=by omega
          simp [Rho.upd,this]
         ·have:=heap_alloc_new (w.alloc (.deferred (some []))) (.loop { state:=.ready,pending:=none,fn:=fn,tmps:=a.tmps,params:=ps,assign:=a0,body:=c,defers:=w.heap.size })
          rw [World.size_alloc] at this
          simpa using this
         ·exact(fr.env t).mono (st1.le.trans (Rho.le_upd hx1))
        have hf2:A68 ((ρ.upd s.h.nxt (w.heap.size,0)).upd h1.nxt (w.heap.size+1,0)) h2.nxt:=(A37.chg (.inr ⟨_,rfl,hn2⟩)).fresh hf1
        have hyl:((ρ.upd s.h.nxt (w.heap.size,0)).upd h1.nxt (w.heap.size+1,0)) h1.nxt=some (w.heap.size+1,0):=by simp [Rho.upd]
        have hargs:All2 (D9 ((ρ.upd s.h.nxt (w.heap.size,0)).upd h1.nxt (w.heap.size+1,0))) (.func (.yield (w.heap.size+1)) #[] #[]::caps.toList) (one (.yl h1.nxt)::C4d ids) :=
         .cons (D9.one.2 ⟨_,hyl,rfl⟩) (B0K (U7 (fun _ _ ⟨l,q1,q2⟩=>⟨l,st2.le _ _ (st1.le _ _ q1),q2⟩) hcaps))
        have hcc:=hcalls _ _ _ hargs st2.rel hf2
        refine ⟨w.heap.size+1,_,_,{ target:=.fn (.func gf) caps,args:=#[.func (.yield (w.heap.size+1)) #[] #[]] },((w.alloc (.deferred (some []))).alloc (.loop { state:=.ready,pending:=none,fn:=fn,tmps:=a.tmps,params:=ps,assign:=a0,body:=c,defers:=w.heap.size })),gf,#[.func (.yield (w.heap.size+1)) #[] #[]]++caps,((w.alloc (.deferred (some []))).alloc (.loop { state:=.ready,pending:=none,fn:=fn,tmps:=a.tmps,params:=ps,assign:=a0,body:=c,defers:=w.heap.size })),run_enterLoop_outer fn a.tmps ps a0 c,?_,fun _ _=>trivial,?_,(fun h=>by cases h),?_⟩
        ·unfold rangeCall
         rw [X9 hv]
         simp [Act.eval]
        ·simp only [invoke]
         exact A2p hbd
        ·have harr:(Value.func (.yield (w.heap.size+1)) #[] #[]::caps.toList).toArray=#[.func (.yield (w.heap.size+1)) #[] #[]]++caps:=by apply Array.ext'; simp
         rw [← harr]
         refine(A9u (ro:=none) hcc).mono ?_
         rintro e w3 ⟨u,ρ3,rfl,k1,k2,k3⟩
         obtain ⟨l3,q1,q2⟩:=k2.rel.objs h1.nxt (by rw [hob]; simp)
         have hl3:l3=(w.heap.size+1,0):=by
          have:=k2.le _ _ hyl
          rw [q1] at this; cases this; rfl
         subst hl3
         rw [hob] at q2
         obtain ⟨fn3,tmps3,ld3,r1,r2,r3,r4⟩:=q2
         refine ⟨none,_,run_endLoop r2 (by simp),?_⟩
         have st3:OStep ρ3 h3.obj w3 ρ3 h4.obj (w3.putObj (w.heap.size+1) (.loop { state:=.exhausted,pending:=none,fn:=fn3,tmps:=tmps3,params:=p3.toArray,assign:=a3,body:=c3,defers:=ld3.1 })):=by
          rw [hO4]
          exact OStep.write k2.rel q1 (by rw [hob]; simp) ⟨rfl,rfl,rfl,by simp,fun b _ hb=>World.putObj_heap_other hb⟩ trivial
         have all:=((st1.trans st2).trans k2).trans st3
         have hchg:Chg ρ s.h.nxt ρ3 h4.nxt:=by
          have c1:Chg ρ s.h.nxt (ρ.upd s.h.nxt (w.heap.size,0)) h1.nxt:=A37.chg (.inr ⟨(w.heap.size,0),rfl,hn1⟩)
          have c2:Chg (ρ.upd s.h.nxt (w.heap.size,0)) h1.nxt ((ρ.upd s.h.nxt (w.heap.size,0)).upd h1.nxt (w.heap.size+1,0)) h2.nxt:=A37.chg (.inr ⟨(w.heap.size+1,0),rfl,hn2⟩)
          rw [hn4]
          exact(c1.trans c2).trans k3
         refine hQ _ _ ⟨ρ3,⟨fr.env.mono all.le,fr.size,?_,all.rel,hchg.fresh fr.fresh⟩,all,hchg⟩
         refine .cons ⟨(w.heap.size,0),?_,rfl⟩ (U7 (fun _ _ ⟨l,q1,q2⟩=>⟨l,all.le _ _ q1,q2⟩) fr.marks)
         exact k2.le _ _ (st2.le _ _ (by simp [Rho.upd]))
       ·cases h
      ·cases h
     ·cases h
    ·cases h
   ·cases h
  ·cases h
theorem C7X(hmix:P.follows .mixedOrders=true)(hok:CxOk P cx){call:A1t}{yld:Nat→List VV→VH→Option (VV×VH)}{ro:Option Nat}{top:Bool}(ho:Orc P cx ro top call yld){nt:Nat}{again:Code→VSt→Option (Ex×VSt)}
  (hag:∀ c s ex s',(∀ s ex s',A5r cx call yld again (B8Z call top nt) nt c s=some (ex,s')→A9y P ro nt c s ex s')→A5r cx call yld again (B8Z call top nt) nt (.loop c) s=some (ex,s')→A9y P ro nt (.loop c) s ex s') :
  ∀ (c:Code) (s:VSt) (ex:Ex) (s':VSt),A5r cx call yld again (B8Z call top nt) nt c s=some (ex,s')→A9y P ro nt c s ex s':=by
 intro c
 induction c with
 | skip=>intro s ex s' h n ρ a w Q g hQ; cases h; exact wpIn_skip (hQ a w ⟨ρ,g,.refl g.heap,.refl _ _⟩)
 | label l=>intro s ex s' h n ρ a w Q g hQ; cases h; exact wpIn_label (hQ a w ⟨ρ,g,.refl g.heap,.refl _ _⟩)
 | exit i=>intro s ex s' h n ρ a w Q g hQ; cases h; exact wpIn_exit (hQ a w ⟨ρ,g,.refl g.heap,.refl _ _⟩)
 | ret=>intro s ex s' h n ρ a w Q g hQ; cases h; exact wpIn_ret (hQ a w ⟨ρ,g,.refl g.heap,.refl _ _⟩)
 | region id ops draw =>
  intro s ex s' h n ρ a w Q g hQ
  simp only [A5r] at h
  cases draw
  ·simp only [cond_false] at h
   split at h
   ·rename_i s1 h1
    cases h
    refine wpIn_region ?_
    have:=B5s hok ho.hcall ho.hyld ho.hno (n:=n) (Q:=Q) ops.toList 0 s s' rfl h1 ρ a w g hQ
    simpa [List.range_eq_range'] using this
   ·cases h
  ·simp only [cond_true] at h
   split at h
   ·rename_i s1 h1
    cases h
    exact C4o hmix hok ho.hcall ho.hyld ho.hno h1 g hQ
   ·cases h
 | seq x y ihx ihy =>
  intro s ex s' h n ρ a w Q g hQ
  simp only [A5r] at h
  split at h
  ·rename_i s1 h1
   refine wpIn_seq (ihx s .normal s1 h1 n ρ a w _ g ?_)
   rintro a' w' ⟨ρ',k1,k2,k3⟩
   exact ihy s1 ex s' h n ρ' a' w' Q k1 fun a2 w2 hto=>hQ a2 w2 (.trans k2 k3 hto)
  ·rename_i hne
   refine wpIn_seq (ihx s ex s' h n ρ a w _ g ?_)
   intro a' w' hto
   cases ex with
   | normal=>exact absurd h (hne s')
   | exit i=>exact hQ a' w' hto
   | ret=>exact hQ a' w' hto
 | cond c x y ihx ihy =>
  intro s ex s' h n ρ a w Q g hQ
  simp only [A5r] at h
  split at h
  ·rename_i t hc
   obtain ⟨hv,_⟩:=D9.v.1 (A80 g.env hc)
   cases t
   ·simp only [cond_false] at h
    exact wpIn_cond_false hv (ihy s ex s' h n ρ a w Q g hQ)
   ·simp only [cond_true] at h
    exact wpIn_cond_true hv (ihx s ex s' h n ρ a w Q g hQ)
  ·cases h
 | block id c ih =>
  intro s ex s' h n ρ a w Q g hQ
  simp only [A5r] at h
  split at h
  ·rename_i i s1 h1
   refine wpIn_block (ih s (.exit i) s1 h1 n ρ a w _ g ?_)
   intro a' w' hto
   show if i=id then Q .normal a' w' else Q (.exit i) a' w'
   cases hb:Nat.beq i id <;> rw [hb] at h <;> simp only [cond_true,cond_false] at h
   ·cases h
    rw [if_neg fun e=>by rw [(B2 _ _).2 e] at hb; cases hb]
    exact hQ a' w' hto
   ·cases h
    rw [if_pos ((B2 _ _).1 hb)]
    exact hQ a' w' hto
  ·rename_i hne
   refine wpIn_block (ih s ex s' h n ρ a w _ g ?_)
   intro a' w' hto
   cases ex with
   | normal=>exact hQ a' w' hto
   | exit i=>exact absurd h (hne i s')
   | ret=>exact hQ a' w' hto
 | loop c ih=>intro s ex s' h; exact hag c s ex s' ih h
 | rangeFunc g ps a0 c _ _=>intro s ex s' h; exact C7W hok ho.hcall ho.htop h
 | _=>intro s ex s' h; simp only [A5r] at h; cases h
theorem B35(cx:VCx)(m:Nat)(top:Bool)(nt:Nat)(c:Code)(s:VSt) :
  A5c cx (m+1) top nt c s=A5r cx (A35 cx (A5c cx m)) (bif top then C0K (A5c cx m) else B32) (A5c cx m top nt) (B8Z (A35 cx (A5c cx m)) top nt) nt c s:=rfl
def C7Y(P:Program)(cx:VCx)(m:Nat):Prop:=∀ top ro,(top=true→ro=none)→(top=false→ro≠none)→∀ nt c s ex s',A5c cx m top nt c s=some (ex,s')→A9y P ro nt c s ex s'
theorem B5u(hcf:Z2 P cx.T){s:VSt}{ρ:Rho}{a:Act}{w:World}(he:A2C ρ s.env a)(H:HRel ρ s.h.obj w):∀ {l:List ResultVar} {rs:List VR},C5C cx.T s l=some rs→∃ us,(l.mapM (A6s a)).run P w=.ok us w∧All2 (A4Z ρ) us rs
 | [],rs,h=>by cases h; exact ⟨[],by simp,.nil⟩
 | .tmp t::l,rs,h=>by
  simp only [C5C] at h
  split at h
  ·rename_i x m hx hm
   cases h
   obtain ⟨us,h3,h4⟩:=B5u hcf he H hm
   have hr:=he t
   rw [hx] at hr
   refine ⟨a.tmps.getD t undef::us,?_,.cons hr h4⟩
   rw [List.mapM_cons,Sem.run_bind]
   simp only [A6s,Sem.run_pure,Result.andThen_ok,Sem.run_bind,h3]
  ·cases h
 | .cell b t::l,rs,h=>by
  simp only [C5C] at h
  split at h
  ·rename_i v m hv hm
   split at h
   ·rename_i x hx
    cases h
    obtain ⟨us,h3,h4⟩:=B5u hcf he H hm
    have hr:=he b
    rw [hv] at hr
    obtain ⟨u,k1,k2⟩:=C0S (P:=P) hcf hx H hr
    refine ⟨u::us,?_,.cons k2 h4⟩
    have hp:∃ ad,a.tmps.getD b undef=.pointer (some ad):=by
     unfold C0y at hx
     split at hx
     ·obtain ⟨l,_,hp⟩:=D9.r1.1 hr; exact ⟨_,hp⟩
     ·cases hx
    obtain ⟨ad,had⟩:=hp
    have:(A6s a (.cell b t)).run P w=.ok u w:=by
     simp only [A6s]
     rw [had] at k1 ⊢
     simpa [Instr.loadAt,Instr.sureAddr,asAddr] using k1
    rw [List.mapM_cons,Sem.run_bind,this,Result.andThen_ok,Sem.run_bind,h3,Result.andThen_ok,Sem.run_pure]
   ·cases h
  ·cases h
theorem C18{ρ:Rho}{us:List Value}{rs:List VR}(h:All2 (A4Z ρ) us rs):D9 ρ (A2V us) (B8X rs):=by
 match us,rs,h with
 | [],[],_=>exact ⟨#[],rfl,.nil⟩
 | [u],[r],.cons h _=>exact h
 | u::v::us,r::q::rs,h=>exact ⟨_,rfl,by simpa using h⟩
theorem B93(hcf:Z2 P cx.T){s:VSt}{ρ:Rho}{a:Act}{w:World}(he:A2C ρ s.env a)(H:HRel ρ s.h.obj w){fn:Func}{rs:List VR}(h:C5C cx.T s fn.results.toList=some rs) :
  ∃ u,(results fn a.tmps).run P w=.ok u w∧D9 ρ u (B8X rs):=by
 obtain ⟨us,h1,h2⟩:=B5u hcf he H h
 refine ⟨A2V us,?_,C18 h2⟩
 have hr:results fn a.tmps=(fn.results.mapM (A6s a) >>= fun vs=>pure (if h:vs.size=1 then vs[0] else .tuple vs)):=by
  unfold results
  congr 1
 rw [hr,Sem.run_bind,Array.mapM_eq_mapM_toList,Sem.run_map,h1]
 simp only [Result.andThen_ok]
 match us with
 | []=>simp [A2V]
 | [u]=>simp [A2V]
 | u::v::us=>simp [A2V]
theorem B0P(hcf:Z2 P cx.T){fn:Func}{n:Nat}{R:Ending→World→Prop}:∀ {dl:List Nat} {env:Tr VV} {h h':VH} {rs:List VR} {ρ:Rho} {a:Act} {w:World} {ds:List Deferred},B0D dl h=some h'→C5C cx.T ⟨env,h',[]⟩ fn.results.toList=some rs →
  A2C ρ env a→HRel ρ h.obj w→All2 (fun (d:Deferred) id=>∃ l,ρ id=some l∧d={ target:=.collected l.1,args:=#[] }) ds dl →
  (∀ u w',D9 ρ u (B8X rs)→OStep ρ h.obj w ρ h'.obj w'→h'.nxt=h.nxt→R (.returned u) w')→LeavesInM Fence.wide n P fn a.tmps R ds .returning w
 | [],env,h,h',rs,ρ,a,w,ds,hd,hr,he,H,hm,hR=>by
  cases hm; cases hd
  obtain ⟨u,k1,k2⟩:=B93 (s:=⟨env,h,[]⟩) hcf he H hr
  exact ⟨u,k1,hR u w k2 (.refl H) rfl⟩
 | id::dl,env,h,h',rs,ρ,a,w,_,hd,hr,he,H,hm,hR=>by
  cases hm with
  | cons r hm =>
  obtain ⟨l,h1,rfl⟩:=r
  simp only [B0D] at hd
  split at hd
  ·rename_i ho
   split at hd
   ·rename_i h2 hput
    obtain ⟨hO,hn⟩:=VH.obj_put hput
    obtain ⟨l',q1,q2⟩:=H.objs id (by rw [ho]; simp)
    rw [h1] at q1; cases q1
    rw [ho] at q2
    have hw:w.heap[l.1]?=some (.deferred (some [])):=q2
    have st:OStep ρ h.obj w ρ h2.obj (w.putObj l.1 (.deferred none)):=by
     rw [hO]
     exact OStep.write H h1 (by rw [ho]; simp) ⟨rfl,rfl,rfl,by simp,fun b _ hb=>World.putObj_heap_other hb⟩ trivial
    refine ⟨by simp,.inl ⟨l.1,_,rfl,run_takeDeferred hw,?_⟩⟩
    exact B0P hcf hd hr he st.rel hm fun u w' k1 k2 k3=>hR u w' k1 (st.trans k2) (k3.trans hn)
   ·cases hd
  ·cases hd
theorem A9z:∀ {args:List VV} {k:Nat} {env env':Tr VV},A9o k args env=some env'→∀ j,env'.get D j=if k≤j∧j < k+args.length then args[j - k]? else env.get D j
 | [],k,env,env',h,j=>by cases h; rw [if_neg (by simp)]
 | v::l,k,env,env',h,j=>by
  simp only [A9o] at h
  split at h
  ·rename_i e1 h1
   rw [A9z h j,Tr.get_set h1 j]
   by_cases e:j=k
   ·subst e
    rw [if_neg (by omega),if_pos rfl,if_pos (by simp)]
    simp
   ·by_cases hj:k+1≤j∧j < k+1+l.length
    ·rw [if_pos hj,if_pos (by simp; omega)]
     rw [show j - k=(j - (k+1))+1 by omega]
     simp
    ·rw [if_neg hj,if_neg e,if_neg (by simp; omega)]
  ·cases h
theorem B36{ρ:Rho}{us:List Value}{args:List VV}(h:All2 (D9 ρ) us args){env:Tr VV}(he:A9o 0 args .e=some env){nt:Nat}(hle:args.length≤nt):A2C ρ env { tmps:=us.toArray++Array.replicate (nt - us.toArray.size) undef,defers:=[] }:=by
 intro t
 rw [A9z he t]
 have hl:=H1 h
 by_cases ht:t < args.length
 ·rw [if_pos (by simpa using ht)]
  simp only [Nat.sub_zero]
  have hg:args[t]?=some args[t]:=by simp [ht]
  obtain ⟨u,h1,h2⟩:=h.get hg
  have hlt:t < us.length:=by omega
  simp only [Array.getD_eq_getD_getElem?]
  rw [Array.getElem?_append_left (by simpa using hlt)]
  have:us.toArray[t]?=some u:=by simpa using h1
  rw [this,hg]
  exact h2
 ·rw [if_neg (by simpa using ht)]
  have hge:us.length≤t:=by omega
  simp only [Array.getD_eq_getD_getElem?]
  rw [Array.getElem?_append_right (by simpa using hge),Array.getElem?_replicate]
  rw [show(Tr.e:Tr VV).get D t=none from rfl]
  split <;> rfl
theorem C4p(hok:CxOk P cx)(horc:∀ f m,cx.orc f=some m→A0N P fun g args h=>if g=f then m args h else none){m:Nat}(hex:C7Y P cx m):A0N P (A35 cx (A5c cx m)):=by
 intro f args h v h' e
 unfold A35 at e
 split at e
 ·rename_i mm hm
  exact horc f mm hm f args h v h' (by show(if f=f then mm args h else none)=_; rw [if_pos rfl]; exact e)
 ·split at e
  ·rename_i fn hfn
   obtain ⟨hf,hname⟩:=hok.fns f fn hfn
   split at e
   ·rename_i c env hb henv
    cases hle:Nat.ble args.length fn.ntmps <;> rw [hle] at e <;> simp only [cond_true,cond_false,reduceCtorEq] at e
    have hle:=Nat.le_of_ble_eq_true hle
    refine ⟨by simp [hf,hb,hname],fun ρ w us hus H hfr=>?_⟩
    have hlen:=H1 hus
    have g0:FRel ρ fn.ntmps ⟨env,h,[]⟩ { tmps:=us.toArray++Array.replicate (fn.ntmps - us.toArray.size) undef,defers:=[] } w :=
     ⟨B36 hus henv hle,by simp; omega,.nil,H,hfr⟩
    have body:∀ ex s,A5c cx m true fn.ntmps c ⟨env,h,[]⟩=some (ex,s)→(ex=.normal∨ex=.ret)→A9p cx.T fn s=some (v,h')→Calls P f us.toArray w (A2g ρ h w v h'):=by
     intro ex s hrun hex2 hlv
     refine callsIn_wide.1 (callsIn_of_wp_marks (n:=0) (F:=Fence.wide) hf hb trivial ?_)
     refine hex true none (fun _=>rfl) (fun h=>by cases h) fn.ntmps c _ ex s hrun 0 ρ _ w _ g0 ?_
     rintro a' w' ⟨ρ',k1,k2,k3⟩
     unfold A9p at hlv
     split at hlv
     ·rename_i h2 hdrop
      split at hlv
      ·rename_i rs hrs
       cases hlv
       have fin:LeavesInM Fence.wide 0 P fn a'.tmps (A2g ρ h w (B8X rs) h') a'.defers .returning w' :=
        B0P hok.conf hdrop hrs k1.env k1.heap k1.marks fun u w2 q1 q2 q3=>⟨u,ρ',rfl,q1,k2.trans q2,by rw [q3]; exact k3⟩
       rcases hex2 with rfl | rfl
       ·exact fin
       ·exact fin
      ·cases hlv
     ·cases hlv
    split at e
    ·rename_i s hs; exact body .normal s hs (.inl rfl) e
    ·rename_i s hs; exact body .ret s hs (.inr rfl) e
    ·cases e
   ·cases e
  ·cases e
theorem B37{ρ:Rho}:∀ {ps:List Nat} {args:List VV} {env env':Tr VV} {us:List Value} {tmps:Array Value},C4f ps args env=some env'→All2 (D9 ρ) us args→(∀ t,D9 ρ (tmps.getD t undef) ((env.get D t).getD .und))→(∀ t∈ps,t < tmps.size) →
  ps.length=us.length∧((ps.zip us).foldl (fun tmps (t,a)=>tmps.setIfInBounds t a) tmps).size=tmps.size∧∀ t,D9 ρ (((ps.zip us).foldl (fun tmps (t,a)=>tmps.setIfInBounds t a) tmps).getD t undef) ((env'.get D t).getD .und)
 | [],[],env,env',us,tmps,h,hu,he,_=>by cases h; cases hu; exact ⟨rfl,rfl,he⟩
 | [],_::_,_,_,_,_,h,_,_,_=>by cases h
 | _::_,[],_,_,_,_,h,_,_,_=>by cases h
 | p::ps,v::l,env,env',_,tmps,h,hu,he,hb=>by
  cases hu with
  | cons r hu =>
  rename_i u us
  simp only [C4f] at h
  split at h
  ·rename_i e1 h1
   have hp:=hb p (by simp)
   obtain ⟨k1,k2,k3⟩:=B37 (tmps:=tmps.setIfInBounds p u) h hu (fun t=>by
    rw [Tr.get_set h1 t]
    by_cases e:t=p
    ·subst e
     rw [if_pos rfl]
     simp only [Array.getD_eq_getD_getElem?,Array.getElem?_setIfInBounds_self_of_lt hp]
     exact r
    ·rw [if_neg e]
     have:=he t
     simp only [Array.getD_eq_getD_getElem?,Array.getElem?_setIfInBounds_ne (fun h=>e h.symm)] at this ⊢
     exact this) (fun t ht=>by simpa using hb t (by simp [ht]))
   exact ⟨by simp [k1],by simpa using k2,k3⟩
  ·cases h
theorem C7Z{m:Nat}(hex:C7Y P cx m):B5r P (C0K (A5c cx m)):=by
 intro id args h v h' e ρ w us l hl hus H hfr
 unfold C0K at e
 split at e
 ·rename_i env n ps a c d hob
  obtain ⟨l',q1,q2⟩:=H.objs id (by rw [hob]; simp)
  rw [hl] at q1; cases q1
  rw [hob] at q2
  obtain ⟨fn,tmps,ld,r1,r2,r3,r4⟩:=q2
  cases hall:(ps.all fun t=>Nat.blt t n) <;> rw [hall] at e <;> simp only [cond_true,cond_false,reduceCtorEq] at e
  split at e
  ·rename_i env' hps
   split at e
   ·rename_i s1 ha
    split at e
    ·rename_i e1 n1 p1' a1 c1 d1 hob1 hdl1
     split at e
     ·rename_i h1 hput1
      obtain ⟨hO1,hn1⟩:=VH.obj_put hput1
      split at e
      ·rename_i s2 hb
       split at e
       ·rename_i e2 n2 p2' a2 c2 d2 hob2 hdl2
        split at e
        ·rename_i h2 hput2
         cases e
         obtain ⟨hO2,hn2⟩:=VH.obj_put hput2
         have hlen0:=H1 hus
         have hpb:∀ t∈ps,t < tmps.size:=fun t ht=>by rw [r3]; exact Nat.le_of_ble_eq_true (List.all_eq_true.1 hall t ht)
         obtain ⟨p1,p2,p3⟩:=B37 hps hus r4 hpb
         refine ⟨_,r2,by simpa using p1.symm,fun nn=>roundIn_of_wpIn trivial ?_⟩
         have hfold:((ps.toArray.zip us.toArray).foldl (fun tmps (t,a)=>tmps.setIfInBounds t a) tmps)=(ps.zip us).foldl (fun tmps (t,a)=>tmps.setIfInBounds t a) tmps:=by simp
         have g0:FRel ρ n ⟨env',h,[]⟩ { tmps:=(ps.toArray.zip us.toArray).foldl (fun tmps (t,a)=>tmps.setIfInBounds t a) tmps,defers:=[] } w :=
          ⟨fun t=>by rw [hfold]; exact p3 t,by rw [hfold]; exact p2.trans r3,.nil,H,hfr⟩
         refine hex false (some l.1) (fun h=>by cases h) (fun _=>by simp) n a _ .normal s1 ha nn ρ _ w _ g0 ?_
         rintro a' w1 ⟨ρ1,k1,k2,k3⟩
         have hl1:=k2.le _ _ hl
         obtain ⟨l1,t1,t2⟩:=k1.heap.objs id (by rw [hob1]; simp)
         rw [hl1] at t1; cases t1
         rw [hob1] at t2
         obtain ⟨fn1,tm1,ld1,u1,u2,u3,u4⟩:=t2
         have st1:OStep ρ1 s1.h.obj w1 ρ1 h1.obj (w1.putObj l.1 (.loop { state:=.busy,pending:=none,fn:=fn1,tmps:=tm1,params:=p1'.toArray,assign:=a1,body:=c1,defers:=ld1.1 })):=by
          rw [hO1]
          exact OStep.write k1.heap hl1 (by rw [hob1]; simp) ⟨rfl,rfl,rfl,by simp,fun b _ hb=>World.putObj_heap_other hb⟩ ⟨fn1,tm1,ld1,u1,World.putObj_heap_same (Array.getElem?_eq_some_iff.1 u2).1,u3,u4⟩
         refine ⟨_,run_beginRound u2 rfl,?_⟩
         have g1:FRel ρ1 n ⟨s1.env,h1,[]⟩ a' (w1.putObj l.1 (.loop { state:=.busy,pending:=none,fn:=fn1,tmps:=tm1,params:=p1'.toArray,assign:=a1,body:=c1,defers:=ld1.1 })) :=
          ⟨k1.env,k1.size,by have:=k1.marks; rw [hdl1] at this; exact this,st1.rel,by have:=k1.fresh; intro i hi; exact this i (by rw [← hn1]; exact hi)⟩
         refine hex false (some l.1) (fun h=>by cases h) (fun _=>by simp) n c _ .normal s2 hb nn ρ1 _ _ _ g1 ?_
         rintro a2' w2 ⟨ρ2,j1,j2,j3⟩
         have hl2:=j2.le _ _ hl1
         obtain ⟨l2,v1,v2⟩:=j1.heap.objs id (by rw [hob2]; simp)
         rw [hl2] at v1; cases v1
         rw [hob2] at v2
         obtain ⟨fn2,tm2,ld2,x1,x2,x3,x4⟩:=v2
         have hend:=run_endRound (P:=P) none x2
         refine ⟨_,_,hend,.bool true,ρ2,rfl,A3J true,?_,?_⟩
         ·have st2:OStep ρ2 s2.h.obj w2 ρ2 h'.obj (w2.putObj l.1 (.loop { state:=.ready,pending:=none,fn:=fn2,tmps:=tm2,params:=p2'.toArray,assign:=a2,body:=c2,defers:=ld2.1 })):=by
           rw [hO2]
           exact OStep.write j1.heap hl2 (by rw [hob2]; simp) ⟨rfl,rfl,rfl,by simp,fun b _ hb=>World.putObj_heap_other hb⟩ ⟨fn2,tm2,ld2,x1,World.putObj_heap_same (Array.getElem?_eq_some_iff.1 x2).1,x3,x4⟩
          exact((k2.trans st1).trans j2).trans st2
         ·have c1:Chg ρ h.nxt ρ1 h1.nxt:=by rw [hn1]; exact k3
          rw [hn2]
          exact c1.trans j3
        ·cases e
       ·cases e
      ·cases e
     ·cases e
    ·cases e
   ·cases e
  ·cases e
 ·cases e
end
end Go.Vm
namespace Go.Vm
open Go.Eng Go.RowKit
section
variable {P:Program} {cx:VCx}
inductive Rnd (P:Program) (ro:Option Nat) (nt:Nat) (c:Code):Nat→VSt→Ex→VSt→Prop
 | last {s ex s' k}:A9y P ro nt c s ex s'→ex≠.normal→Rnd P ro nt c (k+1) s ex s'
 | more {s s1 ex s' k}:A9y P ro nt c s .normal s1→Rnd P ro nt c k s1 ex s'→Rnd P ro nt c (k+1) s ex s'
theorem Rnd.snd{ro:Option Nat}{nt:Nat}{c:Code}{k:Nat}{s s':VSt}{ex:Ex}(h:Rnd P ro nt c k s ex s'):A9y P ro nt (.loop c) s ex s':=by
 intro n ρ a w Q g hQ
 refine B5t (J:=fun m a1 w1=>∃ ρ1 s1,Rnd P ro nt c m s1 ex s'∧FRel ρ1 nt s1 a1 w1∧OStep ρ s.h.obj w ρ1 s1.h.obj w1∧Chg ρ s.h.nxt ρ1 s1.h.nxt) ?_ ?_ ⟨ρ,s,h,g,.refl g.heap,.refl _ _⟩
 ·rintro a1 w1 ⟨_,_,h,_⟩
  cases h
 ·rintro m a1 w1 ⟨ρ1,s1,h,g1,st,hc⟩
  cases h with
  | last hs hne =>
   refine hs n ρ1 a1 w1 _ g1 fun a' w' hto=>?_
   have hq:=hQ a' w' (.trans st hc hto)
   cases ex with
   | normal=>exact absurd rfl hne
   | exit i=>exact hq
   | ret=>exact hq
  | more hs hr =>
   refine hs n ρ1 a1 w1 _ g1 ?_
   rintro a' w' ⟨ρ2,k1,k2,k3⟩
   exact ⟨ρ2,_,hr,k1,st.trans k2,hc.trans k3⟩
theorem C19(hmix:P.follows .mixedOrders=true)(hok:CxOk P cx)(horc:∀ f m,cx.orc f=some m→A0N P fun g args h=>if g=f then m args h else none):∀ m,C7Y P cx m ∧
  ∀ top ro,(top=true→ro=none)→(top=false→ro≠none)→∀ nt c s ex s',A5c cx m top nt (.loop c) s=some (ex,s')→∃ k,Rnd P ro nt c k s ex s'
 | 0=>⟨fun _ _ _ _ _ _ _ _ _ h=>(by cases h),fun _ _ _ _ _ _ _ _ _ h=>(by cases h)⟩
 | m+1=>by
  obtain ⟨ih,ihl⟩:=C19 hmix hok horc m
  have ho:∀ {top ro},(top=true→ro=none)→(top=false→ro≠none)→Orc P cx ro top (A35 cx (A5c cx m)) (bif top then C0K (A5c cx m) else B32):=by
   intro top ro h1 h2
   refine ⟨C4p hok horc ih,fun hr=>?_,fun hr=>?_,h1⟩
   ·cases top
    ·exact absurd hr (h2 rfl)
    ·exact C7Z ih
   ·cases top
    ·exact fun _ _ _=>rfl
    ·exact absurd (h1 rfl) hr
  have lp:∀ {top ro nt c s ex s'},(top=true→ro=none)→(top=false→ro≠none)→(∀ s ex s',A5r cx (A35 cx (A5c cx m)) (bif top then C0K (A5c cx m) else B32) (A5c cx m top nt) (B8Z (A35 cx (A5c cx m)) top nt) nt c s=some (ex,s')→A9y P ro nt c s ex s') →
    A5r cx (A35 cx (A5c cx m)) (bif top then C0K (A5c cx m) else B32) (A5c cx m top nt) (B8Z (A35 cx (A5c cx m)) top nt) nt (.loop c) s=some (ex,s')→∃ k,Rnd P ro nt c k s ex s':=by
   intro top ro nt c s ex s' h1 h2 hc h
   simp only [A5r] at h
   split at h
   ·rename_i s1 hs1
    obtain ⟨k,hk⟩:=ihl top ro h1 h2 nt c s1 ex s' h
    exact ⟨k+1,.more (hc _ _ _ hs1) hk⟩
   ·rename_i hne
    refine ⟨1,.last (hc _ _ _ h) fun e=>?_⟩
    subst e
    exact hne s' h
  have all:∀ {top ro},(top=true→ro=none)→(top=false→ro≠none)→∀ nt c s ex s',A5r cx (A35 cx (A5c cx m)) (bif top then C0K (A5c cx m) else B32) (A5c cx m top nt) (B8Z (A35 cx (A5c cx m)) top nt) nt c s=some (ex,s')→A9y P ro nt c s ex s':=fun {top ro} h1 h2 nt =>
   C7X hmix hok (ho h1 h2) fun c s ex s' hc h=>let ⟨_,hk⟩:=lp h1 h2 hc h; hk.snd
  exact ⟨fun top ro h1 h2 nt c s ex s' h=>all h1 h2 nt c s ex s' (by rw [← B35]; exact h),fun top ro h1 h2 nt c s ex s' h=>lp h1 h2 (all h1 h2 nt c) (by rw [← B35]; exact h)⟩
end
end Go.Vm
namespace Go.Vm
open Go.Eng
noncomputable def oB {α β:Type} (x:Option α) (k:α→Option β):Option β:=Option.rec (motive:=fun _=>Option β) none k x
noncomputable def pB {α β γ:Type} (p:α×β) (k:α→β→γ):γ:=Prod.rec (motive:=fun _=>γ) k p
structure VX where
 cx:VCx
 call:A1t
 yld:Nat→List VV→VH→Option (VV×VH)
 again:Code→VSt→Option (Ex×VSt)
 rng:Operand→List Nat→Code→Code→VSt→Option (Ex×VSt)
 nt:Nat
noncomputable def D4Q {β:Type} (env:Tr VV) (dst:Option Nat) (v:VV) (k:Tr VV→Option β):Option β :=
 Option.rec (motive:=fun _=>Option β) (k env) (fun t=>oB (env.set D t v) k) dst
noncomputable def A8S (env:Tr VV) (x:Operand):Option VV :=
 Operand.rec (motive:=fun _=>Option VV) (fun t=>Option.rec (motive:=fun _=>Option VV) (some .und) (fun v=>some v) (env.get0 t)) (fun v=>B6f v) (fun _=>none) (fun f=>some (one (.clo f []))) x
theorem A5v(env:Tr VV)(x:Operand):A8S env x=K5 env x:=by
 cases x with
 | tmp t =>
  show Option.rec (motive:=fun _=>Option VV) (some .und) (fun v=>some v) (env.get0 t)=match env.get0 t with | some x=>some x | none=>some .und
  cases env.get0 t <;> rfl
 | _=>rfl
abbrev OF:=VX→Tr VV→VH→Option (VV×VH)
noncomputable def D18 (x:Operand):OF:=fun _ env h=>oB (A8S env x) fun v=>some (v,h)
noncomputable def D9I (o:BinOp) (t:Nat) (x y:Operand):OF:=fun X env h=>oB (A8S env x) fun a=>oB (A8S env y) fun b=>oB (C7G X.cx.T t o a b) fun v=>some (v,h)
noncomputable def D4S (c a b:Operand):OF:=fun X env h=>C4a c a b X.cx.T (K5 env) h
noncomputable def D19 (e:Nat):OF:=fun X env h=>B6i e X.cx.T (K5 env) h
noncomputable def D9J (x:Operand):OF:=fun X env h=>D4e x X.cx.T (K5 env) h
noncomputable def D1a (t:Nat) (ps:Array (Nat×Operand)):OF:=fun X env h=>B6j t ps X.cx.T (K5 env) h
noncomputable def B5v (t n:Nat) (ps:Array (Nat×Operand)):OF:=fun X env h=>A34 t n ps X.cx.T (K5 env) h
noncomputable def A9A (t:Nat) (m k x:Operand):OF:=fun X env h=>A4j t m k x X.cx.T (K5 env) h
noncomputable def D4T (t:Nat) (a:Operand):OF:=fun X env h=>C4b t a X.cx.T (K5 env) h
noncomputable def D1b (t:Nat) (a x:Operand):OF:=fun X env h=>C0D t a x X.cx.T (K5 env) h
noncomputable def A52:OF:=fun _ _ _=>none
noncomputable def D9K (x:Operand):OF:=fun X env h=>D4f x X.cx.T (K5 env) h
noncomputable def fUn (o:UnOp) (x:Operand):OF:=fun X env h=>oUn o x X.cx.T (K5 env) h
noncomputable def D4U (s d:Nat) (x:Operand):OF:=fun X env h=>C4c s d x X.cx.T (K5 env) h
noncomputable def C80 (t:Nat) (x:Operand):OF:=fun X env h=>B0A t x X.cx.T (K5 env) h
noncomputable def D1c (t:Nat) (x:Operand):OF:=fun X env h=>B6k t x X.cx.T (K5 env) h
noncomputable def fFn (fn:Fn) (a b:Array Operand):OF:=fun X env h=>oFn fn a b X.cx.T (K5 env) h
noncomputable def D4V (t:Nat) (r:Option Operand):OF:=fun X env h=>C7J t r X.cx.T (K5 env) h
noncomputable def B94 (t:Nat) (l c:Operand):OF:=fun X env h=>A4g t l c X.cx.T (K5 env) h
noncomputable def D1d (t:Nat) (x:Operand) (lo hi mx:Option Operand):OF:=fun X env h=>B6l t x lo hi mx X.cx.T (K5 env) h
noncomputable def B95 (t:Nat) (x:Operand) (f:Nat):OF:=fun X env h=>A4h t x f X.cx.T (K5 env) h
noncomputable def D1e (t:Nat) (x:Operand) (f:Nat):OF:=fun X env h=>B6m t x f X.cx.T (K5 env) h
noncomputable def B96 (t:Nat) (x i:Operand):OF:=fun X env h=>A4i t x i X.cx.T (K5 env) h
noncomputable def D1f (t:Nat) (x i:Operand):OF:=fun X env h=>B6n t x i X.cx.T (K5 env) h
noncomputable def C81 (t:Nat) (m k:Operand) (ok:Bool):OF:=fun X env h=>B0B t m k ok X.cx.T (K5 env) h
noncomputable def C4q (x:Operand) (i:Nat):OF:=fun X env h=>A6Z x i X.cx.T (K5 env) h
noncomputable def D4W (c:Call):OF:=fun X env h=>C4e c X.cx X.call X.yld (K5 env) h
noncomputable def opF (op:Op):OF :=
 Op.rec (motive:=fun _=>OF) (fun x=>D18 x) (fun x=>D18 x) (fun c a b=>D4S c a b) (fun e=>D19 e) (fun _ v=>D9J v) (fun t ps=>D1a t ps) (fun t n ps=>B5v t n ps) (fun t m k x=>A9A t m k x) (fun t a=>D4T t a) (fun t a v=>D1b t a v) (fun _=>A52) (fun _=>A52) (fun x=>D9K x) (fun o t x y _=>D9I o t x y) (fun o _ x=>fUn o x) (fun s d x=>D4U s d x) (fun t x=>C80 t x) (fun t x=>D1c t x) (fun fn first captured=>fFn fn first captured) (fun t r=>D4V t r) (fun _ _=>A52) (fun t l c=>B94 t l c) (fun t x lo hi mx=>D1d t x lo hi mx) (fun t x f=>B95 t x f) (fun t x f=>D1e t x f) (fun t x i=>B96 t x i) (fun t x i=>D1f t x i) (fun t m k ok=>C81 t m k ok) (fun t m k x=>A9A t m k x) (fun _ _ _=>A52) (fun _ _ _ _=>A52) (fun _ _=>A52) (fun _ _=>A52) (fun _=>A52) (fun _ _ _ _=>A52) (fun x i=>C4q x i) (fun c=>D4W c) (fun _=>A52) (fun _=>A52) (fun _=>A52) (fun _ _=>A52) (fun _ _ _=>A52) (fun _ _=>A52) op
theorem D1g(X:VX)(env:Tr VV)(h:VH)(op:Op):opF op X env h=opV X.cx X.call X.yld (K5 env) h op:=by
 cases op
 case move x =>
  show oB (A8S env x) (fun v=>some (v,h))=B31 x X.cx.T (K5 env) h
  unfold B31
  rw [A5v]
  cases K5 env x <;> rfl
 case assign x =>
  show oB (A8S env x) (fun v=>some (v,h))=B31 x X.cx.T (K5 env) h
  unfold B31
  rw [A5v]
  cases K5 env x <;> rfl
 case binOp o t x y t2 =>
  show oB (A8S env x) (fun a=>oB (A8S env y) fun b=>oB (C7G X.cx.T t o a b) fun v=>some (v,h))=D0T o t x y X.cx.T (K5 env) h
  unfold D0T
  rw [A5v,A5v]
  cases K5 env x with
  | none=>rfl
  | some a=>cases K5 env y with
   | none=>rfl
   | some b =>
    show oB (C7G X.cx.T t o a b) (fun v=>some (v,h))=match C7G X.cx.T t o a b with | some v=>some (v,h) | none=>none
    cases C7G X.cx.T t o a b <;> rfl
 all_goals rfl
noncomputable def doF (X:VX) (o:Oper) (ih:VSt→Option VSt) (s:VSt):Option VSt :=
 oB (opF o.op X s.env s.h) fun r=>pB r fun v h=>D4Q s.env o.dst v fun env=>ih ⟨env,h,s.dl⟩
noncomputable def skF (o:Oper) (ih:VSt→Option VSt) (s:VSt):Option VSt:=D4Q s.env o.dst .und fun env=>ih ⟨env,s.h,s.dl⟩
noncomputable def C82 (X:VX) (all:List Oper) (o:Oper) (ih:VSt→Option VSt) (s:VSt):Option VSt :=
 bif C0H X.nt o.dst then Option.rec (motive:=fun _=>Option VSt) (doF X o ih s) (fun _=>oB (A3r s.env all o) fun b=>bif b then doF X o ih s else skF o ih s) o.guard else none
noncomputable def D4i (X:VX) (all l:List Oper):VSt→Option VSt:=List.rec (motive:=fun _=>VSt→Option VSt) (fun s=>some s) (fun o _ ih=>C82 X all o ih) l
theorem C1a{β:Type}(env:Tr VV)(dst:Option Nat)(v:VV)(k:Tr VV→Option β):D4Q env dst v k=match B9D env dst v with | some env=>k env | none=>none:=by
 cases dst with
 | none=>rfl
 | some t =>
  show oB (env.set D t v) k=match env.set D t v with | some env=>k env | none=>none
  cases env.set D t v <;> rfl
theorem C1b(X:VX)(all:List Oper):∀ (l:List Oper) (s:VSt),D4i X all l s=B6o X.cx X.call X.yld X.nt all l s
 | [],s=>rfl
 | o::l,s=>by
  have ih:D4i X all l=B6o X.cx X.call X.yld X.nt all l:=funext (C1b X all l)
  show C82 X all o (D4i X all l) s=_
  rw [ih]
  unfold C82 B6o
  have hdo:doF X o (B6o X.cx X.call X.yld X.nt all l) s=match opV X.cx X.call X.yld (K5 s.env) s.h o.op with
    | some (v,h)=>match B9D s.env o.dst v with
     | some env=>B6o X.cx X.call X.yld X.nt all l ⟨env,h,s.dl⟩
     | none=>none
    | none=>none:=by
   unfold doF
   rw [D1g]
   cases opV X.cx X.call X.yld (K5 s.env) s.h o.op with
   | none=>rfl
   | some r =>
    obtain ⟨v,h⟩:=r
    exact C1a s.env o.dst v (fun env=>B6o X.cx X.call X.yld X.nt all l ⟨env,h,s.dl⟩)
  have hsk:skF o (B6o X.cx X.call X.yld X.nt all l) s=match B9D s.env o.dst .und with
    | some env=>B6o X.cx X.call X.yld X.nt all l ⟨env,s.h,s.dl⟩
    | none=>none:=C1a _ _ _ _
  rw [hdo,hsk]
  cases hg:o.guard with
  | none =>
   have:A3r s.env all o=some true:=by unfold A3r; rw [hg]
   rw [this]
   rfl
  | some g =>
   show(bif C0H X.nt o.dst then oB (A3r s.env all o) _ else none)=_
   cases C0H X.nt o.dst <;> cases hw:A3r s.env all o with
   | none=>rfl
   | some b=>cases b <;> rfl
abbrev CF:=VSt→Option (Ex×VSt)
noncomputable def bK {α:Type} (v:VV) (k:Bool→Option α):Option α:=match v with | .r ⟨false,[.v (.bool t)]⟩=>k t | _=>none
noncomputable def D4X (X:VX) (ops:Array Oper) (draw:Bool):CF:=fun s=>oB (bif draw then C0J X.cx X.call X.yld X.nt ops.toList s else D4i X ops.toList ops.toList s) fun s=>some (.normal,s)
noncomputable def D4Y (ia ib:CF):CF:=fun s=>oB (ia s) fun r=>pB r fun e s'=>Ex.rec (motive:=fun _=>Option (Ex×VSt)) (ib s') (fun i=>some (.exit i,s')) (some (.ret,s')) e
noncomputable def D4Z (c:Operand) (ia ib:CF):CF:=fun s=>oB (A8S s.env c) fun v=>bK v fun t=>bif t then ia s else ib s
noncomputable def C1c (id:Nat) (ic:CF):CF:=fun s=>oB (ic s) fun r=>pB r fun e s'=>Ex.rec (motive:=fun _=>Option (Ex×VSt)) (some (.normal,s')) (fun i=>bif Nat.beq i id then some (.normal,s') else some (.exit i,s')) (some (.ret,s')) e
noncomputable def C83 (X:VX) (c:Code) (ic:CF):CF:=fun s=>oB (ic s) fun r=>pB r fun e s'=>Ex.rec (motive:=fun _=>Option (Ex×VSt)) (X.again (.loop c) s') (fun i=>some (.exit i,s')) (some (.ret,s')) e
noncomputable def C84:CF:=fun _=>none
noncomputable def D4j (e:Ex):CF:=fun s=>some (e,s)
noncomputable def C1d (X:VX) (c:Code):CF :=
 Code.rec (motive:=fun _=>CF) (D4j .normal) (fun _ ops draw=>D4X X ops draw) (fun _ _ ia ib=>D4Y ia ib) (fun c _ _ ia ib=>D4Z c ia ib) (fun id _ ic=>C1c id ic) (fun c ic=>C83 X c ic)
  (fun g ps a c _ _=>fun s=>X.rng g ps.toList a c s) (fun i=>D4j (.exit i)) (fun _ _=>C84) (fun _=>D4j .normal) (fun _=>C84) (D4j .ret) (fun _=>C84) c
theorem C1e(X:VX):∀ (c:Code) (s:VSt),C1d X c s=A5r X.cx X.call X.yld X.again X.rng X.nt c s:=by
 intro c
 induction c with
 | region id ops draw =>
  intro s
  show D4X X ops draw s=_
  unfold D4X A5r
  rw [C1b]
  cases (bif draw then C0J X.cx X.call X.yld X.nt ops.toList s else B6o X.cx X.call X.yld X.nt ops.toList ops.toList s) <;> rfl
 | seq a b iha ihb =>
  intro s
  show D4Y (C1d X a) (C1d X b) s=_
  unfold D4Y A5r
  rw [iha]
  cases A5r X.cx X.call X.yld X.again X.rng X.nt a s with
  | none=>rfl
  | some r =>
   obtain ⟨e,s'⟩:=r
   cases e with
   | normal=>exact ihb s'
   | exit i=>rfl
   | ret=>rfl
 | cond c a b iha ihb =>
  intro s
  show oB (A8S s.env c) (fun v=>bK v fun t=>bif t then C1d X a s else C1d X b s)=_
  unfold A5r
  rw [A5v,iha,ihb]
  cases K5 s.env c with
  | none=>rfl
  | some v =>
   show bK v _=_
   unfold bK
   split
   ·rfl
   ·rename_i hne
    split
    ·rename_i t ht
     exact absurd (Option.some.inj ht) (hne t)
    ·rfl
 | block id c ih =>
  intro s
  show C1c id (C1d X c) s=_
  unfold C1c A5r
  rw [ih]
  cases A5r X.cx X.call X.yld X.again X.rng X.nt c s with
  | none=>rfl
  | some r =>
   obtain ⟨e,s'⟩:=r
   cases e <;> rfl
 | loop c ih =>
  intro s
  show C83 X c (C1d X c) s=_
  unfold C83 A5r
  rw [ih]
  cases A5r X.cx X.call X.yld X.again X.rng X.nt c s with
  | none=>rfl
  | some r =>
   obtain ⟨e,s'⟩:=r
   cases e <;> rfl
 | _=>intros; rfl
noncomputable def B0Q (cx:VCx) (n:Nat):D0X :=
 Nat.rec (motive:=fun _=>D0X) (fun _ _ _ _=>none) (fun _ ih=>fun top nt c s=>C1d ⟨cx,A35 cx ih,bif top then C0K ih else B32,ih top nt,B8Z (A35 cx ih) top nt,nt⟩ c s) n
theorem B6E(cx:VCx):∀ n,B0Q cx n=A5c cx n
 | 0=>rfl
 | n+1=>by
  funext top nt c s
  show C1d ⟨cx,A35 cx (B0Q cx n),bif top then C0K (B0Q cx n) else B32,B0Q cx n top nt,B8Z (A35 cx (B0Q cx n)) top nt,nt⟩ c s=_
  rw [B6E cx n,C1e]
  rfl
end Go.Vm
namespace Go.Vm
open Go.Eng Go.RowKit
noncomputable def wrT:(t:Ty)→t.den→List VC
 | .int k,x=>[.v (.int k x)]
 | .bool,x=>[.v (.bool x)]
 | .pair a b,x=>wrT a x.1++wrT b x.2
 | .arr _ t,l=>List.rec (motive:=fun _=>List VC) [] (fun x _ ih=>wrT t x++ih) l
 | _,_=>[]
def A4H:Ty→Bool
 | .int _ | .bool | .unit=>true
 | .pair a b=>A4H a && A4H b
 | .arr _ t=>A4H t
 | _=>false
def C1f:List Ty→List VV→Option (List MV)
 | [],[]=>some []
 | t::ts,.r ⟨a,cs⟩::l=>bif a == t.isAgg then match rdT t cs with
  | some (x,[])=>match C1f ts l with
   | some ms=>some (.d t x::ms)
   | none=>none
  | _=>none
  else none
 | _,_=>none
noncomputable def C1g:List MV→Option (List VR)
 | []=>some []
 | .d t x::l=>bif A4H t then match C1g l with
  | some rs=>some (⟨t.isAgg,wrT t x⟩::rs)
  | none=>none
  else none
 | _=>none
noncomputable def A5L (c:Contract) (ts:List Ty) (args:List VV) (h:VH):Option (VV×VH):=match C1f ts args with
 | some ms=>match c.cm ms some with
  | some outs=>match C1g outs with
   | some rs=>some (B8X rs,h)
   | none=>none
  | none=>none
 | none=>none
theorem B6F{ρ:Rho}{M:Mem}:∀ {t:Ty} {x:t.den} {cs:List Value},A4H t=true→E8 M t x cs→All2 (A1u ρ) cs (wrT t x)
 | .int k,x,cs,_,h=>by
  have h:cs=[.int k x]:=h
  subst h
  exact .cons ⟨rfl,rfl⟩ .nil
 | .bool,x,cs,_,h=>by
  have h:cs=[.bool x]:=h
  subst h
  exact .cons ⟨rfl,rfl⟩ .nil
 | .unit,x,cs,_,h=>by
  have h:cs=[]:=h
  subst h
  exact .nil
 | .pair a b,x,cs,hp,h=>by
  simp only [A4H,Bool.and_eq_true] at hp
  obtain ⟨c1,c2,rfl,h1,h2⟩:=h
  exact L1 (B6F hp.1 h1) (B6F hp.2 h2)
 | .arr n t,l,cs,hp,h=>by
  have hp:A4H t=true:=hp
  have key:∀ (l:List t.den) (cs:List Value),E3 (E8 M t) l cs→All2 (A1u ρ) cs (List.rec (motive:=fun _=>List VC) [] (fun x _ ih=>wrT t x++ih) l):=by
   intro l
   induction l with
   | nil=>intro cs h; cases h; exact .nil
   | cons x l ih =>
    intro cs h
    obtain ⟨c1,c2,rfl,h1,h2⟩:=h
    exact L1 (B6F hp h1) (ih c2 h2)
  exact key l cs h.2
 | .str,_,_,hp,_ | .slice _,_,_,hp,_ | .nil,_,_,hp,_ | .val,_,_,hp,_ | .ifc,_,_,hp,_ | .ptr,_,_,hp,_ | .fnc,_,_,hp,_=>by cases hp
theorem C85{M:Mem}{t:Ty}{x:t.den}{cs:List Value}(hp:A4H t=true)(ha:t.isAgg=false)(h:E8 M t x cs):cs.length=1:=by
 rw [h.length]
 cases t <;> first | rfl | (cases ha; done) | (cases hp; done)
theorem C5L{ρ:Rho}{M:Mem}:∀ {ts:List Ty} {args:List VV} {us:List Value} {ms:List MV},C1f ts args=some ms→All2 (D9 ρ) us args→All2 (S3 M) us ms∧ms.length=ts.length
 | [],[],us,ms,h,hu=>by cases h; cases hu; exact ⟨.nil,rfl⟩
 | t::ts,.r ⟨a,cs⟩::l,us,ms,h,hu=>by
  cases hu with
  | cons r hu =>
  simp only [C1f] at h
  cases hb:(a == t.isAgg) <;> rw [hb] at h <;> simp only [cond_true,cond_false,reduceCtorEq] at h
  split at h
  ·rename_i x hx
   split at h
   ·rename_i ms' hms
    cases h
    obtain ⟨h1,h2⟩:=C5L (M:=M) hms hu
    obtain ⟨us',k1,k2,_⟩:=(show A4Z ρ _ ⟨a,cs⟩ from r)
    obtain ⟨u1,u2,rfl,k3,k4⟩:=C0U M hx k1
    cases k4
    simp only [List.append_nil] at k2
    exact ⟨.cons ⟨u1,k3,by rw [k2,eq_of_beq hb]; rfl⟩ h1,by simp [h2]⟩
   ·cases h
  ·cases h
 | [],_::_,_,_,h,_=>by cases h
 | _::_,[],_,_,h,_=>by cases h
 | _::_,.tup _::_,_,_,h,_=>by cases h
 | _::_,.und::_,_,_,h,_=>by cases h
theorem C5N{ρ:Rho}{M:Mem}:∀ {outs:List MV} {rs:List VR} {us:List Value},C1g outs=some rs→All2 (S3 M) us outs→All2 (A4Z ρ) us rs
 | [],rs,us,h,hu=>by cases h; cases hu; exact .nil
 | .d t x::l,rs,us,h,hu=>by
  cases hu with
  | cons r hu =>
  simp only [C1g] at h
  cases hb:A4H t <;> rw [hb] at h <;> simp only [cond_true,cond_false,reduceCtorEq] at h
  split at h
  ·rename_i rs' hrs
   cases h
   obtain ⟨cs,k1,k2⟩:=r
   exact .cons ⟨cs,B6F hb k1,k2,fun ha=>C85 hb ha k1⟩ (C5N hrs hu)
  ·cases h
 | .dead::_,_,_,h,_ | .nilS::_,_,_,h,_ | .own _::_,_,_,h,_ | .pa _ _::_,_,_,h,_ | .dp _ _::_,_,_,h,_ | .fn _::_,_,_,h,_ | .und::_,_,_,h,_ | .cut _ _ _::_,_,_,h,_ | .ne _::_,_,_,h,_ | .vw _ _ _::_,_,_,h,_ | .vp _ _ _::_,_,_,h,_=>by cases h
section
variable {P:Program}
theorem A3D{M:Mem}{w:World}{pl:Eng.Place}:∀ {k:Nat} {us:List Value} {rs:List MV},ResOk M w none pl k us rs→All2 (S3 M) us rs
 | _,_,_,.nil=>.nil
 | _,_,_,.plain _ hp hr=>.cons hp (A3D hr)
 | _,_,_,.fresh h _ _ _ _ _=>by cases h
theorem D50{ρ:Rho}{O:A1r}{w w':World}(H:HRel ρ O w)(h:Since (fun b=>b∈([]:List Nat)) w w'):OStep ρ O w ρ O w' :=
 ⟨.refl ρ,⟨fun id hi=>let ⟨l,h1,h2⟩:=H.objs id hi; ⟨l,h1,h2.mono (.refl ρ) (h.block _ (h2.lt hi) (by simp))⟩,H.apart⟩,h.trans (.refl (fun _=>False) _) (fun _ hb=>by cases hb) (fun _ _ hb=>hb.elim),fun id hi=>let ⟨l,h1,_⟩:=H.objs id hi; ⟨l,h1,.inr ⟨id,l,hi,h1,rfl⟩⟩⟩
theorem A0V{f:Nat}{c:Contract}(hs:CSound P f c)(hro:A1d c.modes=true)(hfr:c.fresh=none)(ts:List Ty)(hl:c.modes.length=ts.length):A0N P fun g args h=>if g=f then A5L c ts args h else none:=by
 intro g args h v h' e
 by_cases hg:g=f
 ·subst hg
  replace e:A5L c ts args h=some (v,h'):=by simpa using e
  refine ⟨hs.body,fun ρ w us hus H hfs=>?_⟩
  unfold A5L at e
  split at e
  ·rename_i ms hms
   split at e
   ·rename_i outs hcm
    split at e
    ·rename_i rs hrs
     cases e
     obtain ⟨hp,hlen⟩:=C5L (M:=B8L w) hms hus
     refine(hs.runs ms _ hcm (B8L w) w us [] (B6b w) (B5c hro (by rw [hl,hlen]) hp) (by simp [D6]) (fun b hb=>by simp [D6] at hb)).mono ?_
     rintro e w' ⟨M',rs',vs,pl,rfl,_,_,hsince,_,hback,hres,_⟩
     have hrs':rs'=outs:=by
      have:∀ {ms:List Eng.Mode} {hs:List (Eng.Place×MObj)} {os rs:List MV},A1d ms=true→BackOk M' w' ms hs os rs→rs=os:=by
       intro ms hs os rs hro h
       induction h with
       | nil=>rfl
       | ro _ ih=>exact ih (by simpa [A1d] using hro)
       | _=>simp [A1d] at hro
      exact this hro hback
     subst hrs'
     rw [hfr] at hres
     exact ⟨A2V vs,ρ,rfl,C18 (C5N hrs (A3D hres)),D50 H (by simpa [D6] using hsince),.refl _ _⟩
    ·cases e
   ·cases e
  ·cases e
 ·simp [hg] at e
end
end Go.Vm
namespace Go.Vm
open Go.Eng Go.RowKit
def D4k:List VR→List VR→Bool
 | [],[]=>true
 | a::l,b::m=>(a.agg == b.agg && C7D a.cs b.cs) && D4k l m
 | _,_=>false
def D51:VV→VV→Bool
 | .r a,.r b=>a.agg == b.agg && C7D a.cs b.cs
 | .tup l,.tup m=>D4k l m
 | .und,.und=>true
 | _,_=>false
def D1h:Tr VV→Tr VV→Bool
 | .e,.e=>true
 | .n l x r,.n l' x' r'=>(match x,x' with | none,none=>true | some a,some b=>D51 a b | _,_=>false) && (D1h l l' && D1h r r')
 | _,_=>false
noncomputable def D4l (t:Tr VO):List (Nat×List VC)→Bool
 | []=>true
 | (i,cs)::l=>(match t.get0 i with | some (.row ds)=>C7D ds cs | _=>false) && D4l t l
noncomputable def mkH:List (Nat×List VC)→Tr VO
 | []=>.e
 | (i,cs)::l=>(mkH l).set0 i (.row cs)
def B6G:List (Nat×List VC)→Bool
 | []=>true
 | (i,_)::l=>Nat.blt i 8388608 && B6G l
theorem C1h:∀ {l m:List VR},D4k l m=true→l=m
 | [],[],_=>rfl
 | ⟨a,x⟩::l,⟨b,y⟩::m,h=>by
  simp only [D4k,Bool.and_eq_true] at h
  rw [eq_of_beq h.1.1,A81 h.1.2,C1h h.2]
 | [],_::_,h=>by cases h
 | _::_,[],h=>by cases h
theorem C86{a b:VV}(h:D51 a b=true):a=b:=by
 unfold D51 at h
 split at h
 ·rename_i a b
  simp only [Bool.and_eq_true] at h
  obtain ⟨a1,a2⟩:=a
  obtain ⟨b1,b2⟩:=b
  have h1:=eq_of_beq h.1
  have h2:=A81 h.2
  simp only at h1 h2
  rw [h1,h2]
 ·rw [C1h h]
 ·rfl
 ·cases h
theorem B5w:∀ {a b:Tr VV},D1h a b=true→a=b
 | .e,.e,_=>rfl
 | .n l x r,.n l' x' r',h=>by
  simp only [D1h,Bool.and_eq_true] at h
  obtain ⟨h1,h2,h3⟩:=h
  rw [B5w h2,B5w h3]
  congr 1
  cases x <;> cases x' <;> first | rfl | (cases h1; done) | exact congrArg some (C86 h1)
 | .e,.n _ _ _,h=>by cases h
 | .n _ _ _,.e,h=>by cases h
theorem C1i:∀ {l:List (Nat×List VC)},B6G l=true→∀ {i:Nat} {o:VO},(mkH l).get0 i=some o→∃ cs,(i,cs)∈l∧o=.row cs
 | [],_,i,o,h=>by cases h
 | (j,cs)::l,hs,i,o,h=>by
  simp only [B6G,Bool.and_eq_true] at hs
  rw [show mkH ((j,cs)::l)=(mkH l).set0 j (.row cs) from rfl,Tr.get_set0 (Nat.le_of_ble_eq_true hs.1)] at h
  split at h
  ·rename_i e
   subst e
   cases h
   exact ⟨cs,by simp,rfl⟩
  ·obtain ⟨ds,h1,h2⟩:=C1i hs.2 h
   exact ⟨ds,by simp [h1],h2⟩
theorem B6H{t:Tr VO}:∀ {l:List (Nat×List VC)},D4l t l=true→∀ {i:Nat} {cs:List VC},(i,cs)∈l→t.get0 i=some (.row cs)
 | (j,ds)::l,h,i,cs,hm=>by
  simp only [D4l,Bool.and_eq_true] at h
  rcases List.mem_cons.1 hm with hm | hm
  ·cases hm
   have h1:=h.1
   split at h1
   ·rename_i x hx
    rw [hx,A81 h1]
   ·cases h1
  ·exact B6H h.2 hm
noncomputable def C87 (env:Tr VV) (os:List (Nat×List VC)) (nxt:Nat) (s:VSt):Bool:=D1h s.env env && (D4l s.h.t os && (B6G os && (Nat.ble s.h.nxt nxt && (match s.dl with | []=>true | _=>false))))
noncomputable def mkS (env:Tr VV) (os:List (Nat×List VC)) (nxt:Nat):VSt:=⟨env,⟨mkH os,nxt⟩,[]⟩
section
variable {P:Program} {cx:VCx}
theorem C4r{ro:Option Nat}{nt:Nat}{c:Code}{s s':VSt}{ex:Ex}{env:Tr VV}{os:List (Nat×List VC)}{nxt:Nat}(h:A9y P ro nt c s ex s')(hl:C87 env os nxt s'=true):A9y P ro nt c s ex (mkS env os nxt):=by
 simp only [C87,Bool.and_eq_true] at hl
 obtain ⟨h1,h2,h3,h4,h5⟩:=hl
 have henv:=B5w h1
 have hnx:=Nat.le_of_ble_eq_true h4
 have hdl:s'.dl=[]:=by
  cases hd:s'.dl with
  | nil=>rfl
  | cons _ _=>rw [hd] at h5; cases h5
 have hsub:∀ id,VH.obj ⟨mkH os,nxt⟩ id≠.gone→VH.obj ⟨mkH os,nxt⟩ id=s'.h.obj id:=by
  intro id hg
  unfold VH.obj at hg ⊢
  simp only [Tr.get] at hg ⊢
  cases hm:(mkH os).get0 id with
  | none=>rw [hm] at hg; exact absurd rfl hg
  | some o =>
   obtain ⟨cs,k1,rfl⟩:=C1i h3 hm
   rw [B6H h2 k1]
 intro n ρ a w Q g hQ
 refine h n ρ a w Q g ?_
 rintro a' w' ⟨ρ',k1,k2,k3⟩
 refine hQ a' w' ⟨ρ',⟨fun t=>?_,k1.size,?_,k1.heap.part hsub,fun id hid=>k1.fresh id (Nat.le_trans hnx hid)⟩,⟨k2.le,k2.rel.part hsub,k2.since,fun id hi=>k2.own id (by rw [← hsub id hi]; exact hi)⟩,⟨Nat.le_trans k3.1 hnx,fun id hne=>let ⟨q1,q2⟩:=k3.2 id hne; ⟨q1,Nat.lt_of_lt_of_le q2 hnx⟩⟩⟩
 ·show D9 ρ' _ ((env.get D t).getD .und)
  rw [← henv]; exact k1.env t
 ·show All2 _ _ []
  have:=k1.marks
  rw [hdl] at this
  exact this
theorem B0S{ro:Option Nat}{nt:Nat}{x y:Code}{s s1 s':VSt}{ex:Ex}(h1:A9y P ro nt x s .normal s1)(h2:A9y P ro nt y s1 ex s'):A9y P ro nt (.seq x y) s ex s':=by
 intro n ρ a w Q g hQ
 refine wpIn_seq (h1 n ρ a w _ g ?_)
 rintro a' w' ⟨ρ',k1,k2,k3⟩
 exact h2 n ρ' a' w' Q k1 fun a2 w2 hto=>hQ a2 w2 (.trans k2 k3 hto)
theorem C1j{ro:Option Nat}{nt id:Nat}{c:Code}{s s':VSt}(h:A9y P ro nt c s (.exit id) s'):A9y P ro nt (.block id c) s .normal s':=by
 intro n ρ a w Q g hQ
 refine wpIn_block (h n ρ a w _ g ?_)
 intro a' w' hto
 show if id=id then Q .normal a' w' else Q (.exit id) a' w'
 rw [if_pos rfl]
 exact hQ a' w' hto
theorem C4s(hok:CxOk P cx){f:Nat}{fn:Func}{c:Code}{args:List VV}{h h':VH}{v:VV}{env:Tr VV}{s:VSt}(hf:P.funcs[f]?=some fn)(hb:fn.body=some c)(henv:A9o 0 args .e=some env)(hle:args.length≤fn.ntmps)
  (hc:A9y P none fn.ntmps c ⟨env,h,[]⟩ .ret s) (hlv:A9p cx.T fn s=some (v,h')) {ρ:Rho} {w:World} {us:List Value} (hus:All2 (D9 ρ) us args) (H:HRel ρ h.obj w) (hfr:A68 ρ h.nxt):Calls P f us.toArray w (A2g ρ h w v h'):=by
 have hlen:=H1 hus
 have g0:FRel ρ fn.ntmps ⟨env,h,[]⟩ { tmps:=us.toArray++Array.replicate (fn.ntmps - us.toArray.size) undef,defers:=[] } w :=
  ⟨B36 hus henv hle,by simp; omega,.nil,H,hfr⟩
 refine callsIn_wide.1 (callsIn_of_wp_marks (n:=0) (F:=Fence.wide) hf hb trivial ?_)
 refine hc 0 ρ _ w _ g0 ?_
 rintro a' w' ⟨ρ',k1,k2,k3⟩
 unfold A9p at hlv
 split at hlv
 ·rename_i h2 hdrop
  split at hlv
  ·rename_i rs hrs
   cases hlv
   exact B0P hok.conf hdrop hrs k1.env k1.heap k1.marks fun u w2 q1 q2 q3=>⟨u,ρ',rfl,q1,k2.trans q2,by rw [q3]; exact k3⟩
  ·cases hlv
 ·cases hlv
noncomputable def vx (cx:VCx) (n nt:Nat):VX:=⟨cx,A35 cx (B0Q cx n),C0K (B0Q cx n),B0Q cx n true nt,B8Z (A35 cx (B0Q cx n)) true nt,nt⟩
theorem D52(hmix:P.follows .mixedOrders=true)(hok:CxOk P cx)(horc:∀ f m,cx.orc f=some m→A0N P fun g args h=>if g=f then m args h else none){n nt:Nat}{c:Code}{s s':VSt}{ex:Ex}(h:C1d (vx cx n nt) c s=some (ex,s')):A9y P none nt c s ex s':=by
 have h2:A5c cx (n+1) true nt c s=some (ex,s'):=by
  rw [C1e] at h
  unfold vx at h
  rw [B6E] at h
  exact h
 exact(C19 hmix hok horc (n+1)).1 true none (fun _=>rfl) (fun h=>by cases h) nt c s ex s' h2
def exB:Ex→Ex→Bool
 | .normal,.normal=>true
 | .exit i,.exit j=>Nat.beq i j
 | .ret,.ret=>true
 | _,_=>false
theorem D1i{a b:Ex}(h:exB a b=true):a=b:=by
 cases a <;> cases b <;> first | rfl | (cases h; done) | exact congrArg Ex.exit ((B2 _ _).1 h)
noncomputable def A2D (cx:VCx) (n nt:Nat) (c:Code) (s:VSt) (ex:Ex) (env:Tr VV) (os:List (Nat×List VC)) (nxt:Nat):Bool :=
 match C1d (vx cx n nt) c s with
 | some (e,s')=>exB e ex && C87 env os nxt s'
 | none=>false
theorem A0y(hmix:P.follows .mixedOrders=true)(hok:CxOk P cx)(horc:∀ f m,cx.orc f=some m→A0N P fun g args h=>if g=f then m args h else none){n nt:Nat}{c:Code}{s:VSt}{ex:Ex}{env:Tr VV}{os:List (Nat×List VC)}{nxt:Nat}(h:A2D cx n nt c s ex env os nxt=true):A9y P none nt c s ex (mkS env os nxt):=by
 unfold A2D at h
 split at h
 ·rename_i e s' hr
  simp only [Bool.and_eq_true] at h
  have:=D1i h.1
  subst this
  exact C4r (D52 hmix hok horc hr) h.2
 ·cases h
end
end Go.Vm
namespace Go.Vm
open Go.Eng Go.RowKit
section
variable {P:Program}
theorem C5O{n:Int}(h:0≤n):n=(n.toNat:Int):=by omega
theorem C4t {T : Tr VTy} {f el : Nat} {re : VTy} (hcf : Z2 P T) (hre : row T el = some re) (hpos : 0 < re.sz) (hb : (do let fn ← P.funcs[f]?; pure (fn.body.isSome && fn.name != "runtime.NumGoroutine")) = some true)
  (hroom:∀ (base:Option Addr) (l c n:Nat) (w:World),l≤c→c≤9223372036854775807→n≤9223372036854775807→l+n≤c→Calls P f #[.slice base l c,.int .i64 n] w fun e w'=>e=.returned (.slice base l c)∧w'=w)
  (hgrow:∀ (i0:TypeInfo) (z:Value),P.info? el=some i0→i0.zero=some z→0 < i0.size→∀ (base:Option Addr) (l c n:Nat) (cs:List Value) (w:World),l≤c→c < l+n→(l+n)*i0.bytes≤140737488355328→l+n≤4611686018427387904 →
   cs.length=c*i0.size→(base=none→c=0)→(∀ a,base=some a→∀ j v,cs[j]?=some v→w.cell? (a.add j)=some v)→Calls P f #[.slice base l c,.int .i64 n] w fun e w' =>
    e=.returned (.slice (some ⟨w.heap.size,0,none⟩) l (grownCap w (l+n) c el)) ∧
    w'=w.drew.alloc (.cells (cs.toArray++Builtin.zeroCells z.cells (l+n - c)++Builtin.zeroCells z.cells (grownCap w (l+n) c el - (l+n))) el)) :
  A0N P fun g args h=>if g=f then C0I re.sz re.bytes args h else none:=by
 intro g args h v h' e
 have hg:g=f:=Decidable.byContradiction fun hn=>by simp [hn] at e
 subst hg
 replace e:C0I re.sz re.bytes args h=some (v,h'):=by simpa using e
 refine ⟨hb,fun ρ w us hus H hfr=>?_⟩
 have ke:=hcf _ _ hre
 obtain ⟨i,z,hi,his,hib,hz,hzc⟩:=ke.info
 have hzs:z.cells.size=re.sz:=by rw [← Array.length_toList,hzc,ke.len]
 have hn0:=hfr h.nxt (Nat.le_refl _)
 unfold C0I at e
 split at e
 ·rename_i s n
  cases hus with
  | cons hs hus =>
  cases hus with
  | cons hn hus =>
  cases hus
  obtain ⟨rfl,_⟩:=D9.v.1 hn
  have hs:=D9.r1.1 hs
  split at e
  ·
   obtain ⟨rfl,_⟩:=hs
   cases hc:(ltI 0 n && Nat.ble (n.toNat*re.bytes) 140737488355328 && Nat.ble n.toNat 281474976710656) <;> rw [hc] at e <;> simp only [cond_true,cond_false,reduceCtorEq] at e
   simp only [Bool.and_eq_true,ltI,decide_eq_true_eq] at hc
   obtain ⟨⟨c1,c2⟩,c3⟩:=hc
   have c2:=Nat.le_of_ble_eq_true c2
   have c3:=Nat.le_of_ble_eq_true c3
   split at e
   ·rename_i id h2 hnr
    cases e
    rw [C5O (Int.le_of_lt c1)]
    refine(hgrow i z hi hz (by omega) none 0 0 n.toNat [] w (Nat.le_refl _) (by omega) (by rw [hib,Nat.zero_add]; exact c2) (by omega) (by simp) (fun _=>rfl) (fun a h=>by cases h)).mono ?_
    rintro e w' ⟨rfl,rfl⟩
    have hG:=grownCap_ge w (0+n.toNat) 0 el
    have hM:=grownCap_le_maxLen w (0+n.toNat) 0 el (by unfold maxLen; omega)
    obtain ⟨rfl,hx,st,hl⟩:=A51 hnr H hn0 (cur:=(#[]:Array Value)++Builtin.zeroCells z.cells (0+n.toNat - 0)++Builtin.zeroCells z.cells (grownCap w (0+n.toNat) 0 el - (0+n.toNat))) (el:=el) (us:=[]) (rest:=((#[]:Array Value)++Builtin.zeroCells z.cells (0+n.toNat - 0)++Builtin.zeroCells z.cells (grownCap w (0+n.toNat) 0 el - (0+n.toNat))).toList) (by simp) .nil (A67 w) rfl
    refine ⟨_,_,rfl,D9.one.2 ⟨_,_,_,hl,rfl,⟨Nat.zero_le _,hM⟩,fun _=>⟨rfl,?_⟩⟩,st,A37.chg (.inr ⟨_,rfl,hx⟩)⟩
    simp only [Array.size_append,size_zeroCells,hzs,Array.size_empty,Nat.zero_add,Nat.sub_zero] at hG ⊢
    rw [← Nat.add_mul]
    exact Nat.le_of_eq (by congr 1; omega)
   ·cases e
  ·
   rename_i id len e1 _
   obtain ⟨l,a,cap,hl,rfl,⟨hlc,hcm⟩,hcc⟩:=hs
   split at e
   ·rename_i cs ho
    cases hc:(leI 0 n && (Nat.beq e1 re.sz && (Nat.beq cs.length (len*re.sz) && (Nat.ble ((len+n.toNat)*re.bytes) 140737488355328 && Nat.ble (len+n.toNat) 281474976710656)))) <;> rw [hc] at e <;> simp only [cond_true,cond_false,reduceCtorEq] at e
    simp only [Bool.and_eq_true,leI,decide_eq_true_eq] at hc
    obtain ⟨c1,c2,c3,c4,c5⟩:=hc
    have c2:=Nat.eq_of_beq_eq_true c2
    subst c2
    have c3:=Nat.eq_of_beq_eq_true c3
    have c4:=Nat.le_of_ble_eq_true c4
    have c5:=Nat.le_of_ble_eq_true c5
    split at e
    ·rename_i h2 hput
     obtain ⟨hO,hnx⟩:=VH.obj_put hput
     split at e
     ·rename_i id' h3 hnr
      cases e
      rw [C5O c1]
      have hf2:ρ h2.nxt=none:=by rw [hnx]; exact hn0
      obtain ⟨l',q1,q2⟩:=H.objs id (by rw [ho]; simp)
      rw [hl] at q1; cases q1
      rw [ho] at q2
      obtain ⟨cur,e',fz,us,rest,q3,q4,q5,q6,q7⟩:=q2
      have hul:=H1 q7
      by_cases hfit:len+n.toNat≤cap
      ·refine(hroom (some a) len cap n.toNat w hlc (by unfold maxLen at hcm; omega) (by omega) hfit).mono ?_
       rintro e w' ⟨rfl,rfl⟩
       obtain ⟨k1,k2,k3⟩:=VH.obj_new hnr
       refine ⟨_,ρ.upd h.nxt l,rfl,D9.one.2 ⟨l,a,cap,by rw [k1,hnx]; simp [Rho.upd],rfl,⟨hlc,hcm⟩,hcc⟩,?_,A37.chg (.inr ⟨l,rfl,by rw [k3,hnx]⟩)⟩
       rw [k2,hO,← hnx,k1]
       refine OStep.move H hl (by rw [ho]; simp) hf2 ((Since.refl _ _)) ?_
       exact ⟨cur,e',fz,us,rest,q3,q4,q5,q6,U7 (fun _ _=>A1u.mono (Rho.le_upd hf2)) q7⟩
      ·have hsize:cap*re.sz≤cur.size:=by
        rcases Nat.eq_zero_or_pos cap with h0 | h0
        ·rw [h0]; simp
        ·have:=(hcc h0).2; omega
       have hol:(cur.toList.take (cap*re.sz)).length=cap*re.sz:=by simp; omega
       refine(hgrow i z hi hz (by omega) (some a) len cap n.toNat (cur.toList.take (cap*re.sz)) w hlc (by omega) (by rw [hib]; exact c4) (by omega) (by rw [hol,his]) (fun h=>by cases h) (fun a' ha' j v hj=>?_)).mono ?_
       ·cases ha'
        have hlt:=(List.getElem?_eq_some_iff.1 hj).1
        have h0:0 < cap:=by
         rcases Nat.eq_zero_or_pos cap with h | h
         ·rw [h] at hlt; simp at hlt
         ·exact h
        obtain ⟨rfl,_⟩:=hcc h0
        exact A7Y w q3 (us:=cur.toList.take (cap*re.sz)) (by rw [hol]; simp) j v hj
       ·rintro e w' ⟨rfl,rfl⟩
        have hG:=grownCap_ge w (len+n.toNat) cap el
        have hM:=grownCap_le_maxLen w (len+n.toNat) cap el (by unfold maxLen; omega)
        have hle:len*re.sz≤cap*re.sz:=Nat.mul_le_mul_right _ hlc
        have hus:us=(cur.toList.take (cap*re.sz)).take (len*re.sz):=by
         rw [List.take_take,Nat.min_eq_left hle,q6,← c3,← hul]
         simp
        obtain ⟨rfl,hx,st,hl2⟩:=A51 (h:=h2) hnr (by rw [hO]; exact H.drop id) hf2 (cur:=(cur.toList.take (cap*re.sz)).toArray++Builtin.zeroCells z.cells (len+n.toNat - cap)++Builtin.zeroCells z.cells (grownCap w (len+n.toNat) cap el - (len+n.toNat))) (el:=el) (us:=us)
         (rest:=(cur.toList.take (cap*re.sz)).drop (len*re.sz)++(Builtin.zeroCells z.cells (len+n.toNat - cap)++Builtin.zeroCells z.cells (grownCap w (len+n.toNat) cap el - (len+n.toNat))).toList) (by
          rw [hus]
          simp only [Array.toList_append]
          rw [← List.append_assoc,List.take_append_drop,List.append_assoc]) q7 (A67 w) rfl
        rw [hO] at st
        refine ⟨_,_,rfl,D9.one.2 ⟨_,_,_,hl2,rfl,⟨by omega,hM⟩,fun _=>⟨rfl,?_⟩⟩,st.drop,?_⟩
        ·simp only [Array.size_append,size_zeroCells,hzs,List.size_toArray,hol,Nat.zero_add]
         rw [← Nat.add_mul,← Nat.add_mul]
         exact Nat.le_of_eq (by congr 1; omega)
        ·rw [← hnx]; exact A37.chg (.inr ⟨_,rfl,hx⟩)
     ·cases e
    ·cases e
   ·cases e
  ·cases e
 ·cases e
theorem B97 {f : Nat} {h' : VH} (hb : (do let fn ← P.funcs[f]?; pure (fn.body.isSome && fn.name != "runtime.NumGoroutine")) = some true)
  (h:∀ (w:World),Calls P f #[] w (A2g (fun _=>none) ⟨.e,0⟩ w (A4Y true) h')):CSound P f (B7 { modes:=[],sh:=[],keeps:=true,fresh:=none,rtys:=[.bool] } fun _=>some (true,())):=by
 refine ⟨fun ms K=>A1f _ _ ms K,hb,?_⟩
 intro ms outs hcm M w vs hs hM hargs _ _
 cases hargs
 have ho:outs=[.d .bool true]:=by cases hcm; rfl
 subst ho
 refine(h w).mono ?_
 rintro e w' ⟨u,ρ',rfl,hv,st,_⟩
 obtain ⟨rfl,_⟩:=D9.v.1 hv
 have hno:∀ b,¬ Own (fun _=>none) (VH.obj ⟨.e,0⟩) b:=by rintro b ⟨id,l,h1,_⟩; exact h1 rfl
 have hs:Since (fun b=>b∈([]:List Nat)) w w':=st.since.trans (.refl (fun _=>False) _) (fun b hb=>absurd hb (hno b)) (fun _ _ hb=>hb.elim)
 refine ⟨M,_,[.bool true],.no,rfl,.refl M,fun b o hbo=>?_,by simpa [D6] using hs,fun _ _ _=>rfl,.nil,.plain (by simp [B7]) (B8N M true) .nil,fun b hb=>by cases hb⟩
 have:=hM b o hbo
 rw [hs.block b (Array.getElem?_eq_some_iff.1 this).1 (by simp)]
 exact this
def Tr.toL{α:Type}:Tr α→List (Nat×α)
 | .e=>[]
 | .n l x r=>(match x with | some y=>[(0,y)] | none=>[])++((toL l).map (fun p=>(2*p.1+1,p.2))++(toL r).map fun p=>(2*p.1+2,p.2))
theorem Tr.mem_toL{α:Type}:∀ {t:Tr α} {i:Nat} {x:α},t.get0 i=some x→(i,x)∈t.toL
 | .e,_,_,h=>by cases h
 | .n l y r,0,x,h=>by
  rw [get0_zero] at h
  subst h
  simp [toL]
 | .n l y r,j+1,x,h=>by
  rw [get0_succ] at h
  simp only [toL,List.mem_append,List.mem_map]
  split at h
  ·exact .inr (.inr ⟨(j / 2,x),mem_toL h,by simp; omega⟩)
  ·exact .inr (.inl ⟨(j / 2,x),mem_toL h,by simp; omega⟩)
theorem C1k{cx:Eng.Cx}(hcf:T3 P cx){t:Nat}{r:TyRow}(hr:cx.row? t=some r)(hf:r.ty.flat=true)(ha:r.ty.isAgg=true){ty:Ty}(e:r.ty=ty):D0Y P t ty:=by
 subst e
 refine ⟨ha,fun M w x y c1 c2 op p q h1 h2=>?_⟩
 have e1:C8 r.ty c1=.agg c1.toArray:=by simp [C8,ha]
 have e2:C8 r.ty c2=.agg c2.toArray:=by simp [C8,ha]
 have k1:=B2m (w:=w) hcf hr hf h1 h2
 have k2:=A7s (w:=w) hcf hr hf h1 h2 op p q
 rw [e1,e2] at k1 k2
 exact ⟨k1,k2⟩
def D8H(cl:List (Nat×Ty))(t:Nat)(r:VTy):Bool:=match r.cmp with
 | none=>true
 | some ty=>cl.any fun p=>Nat.beq p.1 t && decide (p.2=ty)
theorem D53{cx:VCx}{cl:List (Nat×Ty)}(hT:cx.T.all 10 (okB P)=true)(hc:cx.T.all 10 (D8H cl)=true)(hcl:∀ p∈cl,D0Y P p.1 p.2)
  (hf : (cx.fns.toL.map fun p => P.funcs[p.1]?) = cx.fns.toL.map fun p => some p.2) (hn : (cx.fns.toL.all fun p => p.2.name != "runtime.NumGoroutine") = true) (he : ∀ f, cx.ext f = none)
  (hm:∀ t name f,cx.meth t name=some f→∀ w:World,(method (P.types.size+Made.depth) t (.agg #[]) name).run P w=.ok (f,.agg #[]) w):CxOk P cx where
 conf:=B5a hT fun t r ty hr hty=>by
  have h1:=Tr.all_get hc hr
  unfold D8H at h1
  rw [hty] at h1
  obtain ⟨p,hp,h2⟩:=List.any_eq_true.1 h1
  simp only [Bool.and_eq_true,decide_eq_true_eq] at h2
  rw [← (B2 _ _).1 h2.1,← h2.2]
  exact hcl p hp
 fns f fn h:=by
  have hm:=Tr.mem_toL h
  refine ⟨?_,List.all_eq_true.1 hn _ hm⟩
  obtain ⟨i,hi⟩:=List.mem_iff_getElem?.1 hm
  have h1:=congrArg (fun l=>l[i]?) hf
  simp only [List.getElem?_map,hi,Option.map_some,Option.some.injEq] at h1
  exact h1
 ext f m h:=by rw [he] at h; cases h
 meth:=hm
theorem D1j{t:Tr (List VV→VH→Option (VV×VH))}{l:List (Nat×(List VV→VH→Option (VV×VH)))}(hl:t.toL=l)(h:∀ p∈l,A0N P fun g args h=>if g=p.1 then p.2 args h else none):∀ f m,t.get0 f=some m→A0N P fun g args h=>if g=f then m args h else none:=fun f m hf =>
 h (f,m) (by rw [← hl]; exact Tr.mem_toL hf)
theorem C4u{f:Nat}{c:Contract}(hs:CSound P f c)(hro:A1d c.modes=true)(hfr:c.fresh=none)(hl:c.modes=[]){t:Ty}{x:t.den}(hp:A4H t=true)(hcm:c.cm [] some=some [.d t x]){cs:List VC}(hcs:wrT t x=cs) :
  A0N P fun g args h=>if g=f then(match args with | []=>some (.r ⟨t.isAgg,cs⟩,h) | _=>none) else none:=by
 intro g args h v h' e
 refine A0V hs hro hfr [] (by rw [hl]; rfl) g args h v h' ?_
 have hg:g=f:=Decidable.byContradiction fun hn=>by simp [hn] at e
 subst hg
 simp only [if_true] at e ⊢
 split at e
 ·cases e
  unfold A5L C1f
  simp only [hcm,C1g,hp,cond_true,hcs]
  rfl
 ·cases e
end
end Go.Vm
