/- The engine, part 33: functions of Go's library that are met by hand. -/
import Derived.Test.YtdhfajmcakneiaaGreatEngC
import Derived.Laws.Externs
import Derived.Lib.BitFns
import GoSem.Extern.MathBitsCarry
set_option linter.unusedVariables false
set_option linter.unusedSimpArgs false
namespace Go.Eng
open Go.RowKit
section
variable {P:Program} {cx:Cx} {fr:Frm} {M M':Mem} {ρ:Nat→Place} {s s':St} {a:Act} {w:World}
theorem Good.env0{sv sv':SV}(g:Good fr M ρ { env:=[(0,sv)],heap:=[] } a w)(h:Jc M ρ (fun _=>.gone) (fr.val a 0) sv'):Good fr M ρ { env:=[(0,sv')],heap:=[] } a w :=
  ⟨fun t=>by
    cases t with
    | zero=>exact h
    | succ t=>exact trivial,
   g.size,g.defers,g.mem,g.old,g.objs,g.apart,g.since,g.keep⟩
abbrev Vp(e:Ty)(keeps:Bool)(fresh:Option (Nat×Nat))(rtys:List Ty):Sig:={ modes:=[.ro],sh:=[(0,.d (.slice e))],keeps:=keeps,fresh:=fresh,rtys:=rtys }
theorem Zb{f:FuncId}{fn:Func}{code:Code}{e:Ty}{keeps:Bool}{fresh:Option (Nat×Nat)}{rtys:List Ty}{model:List e.den×Unit→Option (Acl rtys)}{hs js:Nat→Option (Hint (Acl rtys))}
    (hf : P.funcs[f]? = some fn) (hb : fn.body = some code) (hname : (fn.name != "runtime.NumGoroutine") = true) (hcf : Hu P cx) (hcalls : ∀ f c, cx.call f = some c → Wx P f c) (hmix : P.follows .mixedOrders = true)
    (hn:cx.ntmps.2=fn.ntmps) (hsg:AaX (Vp e keeps fresh rtys) cx.ntmps=true) (ho:∀ fr:Frm,cx.ntmps=fr.n→HOk P fr hs js code)
    (hrun1:∀ a l,model (a::l,())=run cx hs js code (enc [(0,.d (.slice e))] (a::l,())) (A3z cx (Vp e keeps fresh rtys) fn.results.toList))
    (hrun2:model ([],())=run cx hs js code { env:=[(0,.one .nilS)],heap:=[] } (A3z cx (Vp e keeps fresh rtys) fn.results.toList))
    (hrun3:model ([],())=run cx hs js code { env:=[(0,.one (.ne e))],heap:=[] } (A3z cx (Vp e keeps fresh rtys) fn.results.toList)) :
    CSound P f (Ax (Vp e keeps fresh rtys) model):=by
  refine ⟨fun ms K=>Q0 (Vp e keeps fresh rtys) model ms K,?_,?_⟩
  · simp [hf,hb,hname]
  · intro ms outs hcm M w vs hs' hM hargs hnd hfree
    have hsg':=hsg
    simp only [AaX,Bool.and_eq_true] at hsg'
    obtain ⟨⟨hsig,_⟩,hle⟩:=hsg'
    obtain ⟨x,es,hx,hP,rfl,hlen⟩:=AaZ hargs hsig hcm
    obtain ⟨r,hr,he⟩:=Option.bind_eq_some_iff.1 hx
    cases he
    have hn81:vs.length≤8192:=by rw [hlen]; simp
    have g0:=Ab1 hsg hP hlen hM hnd hfree
    have ht0:∀ i v,vs[i]?=some v→(vs.toArray++Array.replicate (cx.ntmps.2 - vs.toArray.size) undef).getD i undef=v:=by
      intro i v hv
      have hlt:=(List.getElem?_eq_some_iff.1 hv).1
      simp only [Array.getD_eq_getD_getElem?]
      rw [Array.getElem?_append_left (by simpa using hlt)]
      simp [hv]
    obtain ⟨s0,hs0,g1⟩:∃ s0,run cx hs js code s0 (A3z cx (Vp e keeps fresh rtys) fn.results.toList)=some r ∧
        Good { n:=cx.ntmps,pv:=fun t=>(vs.toArray++Array.replicate (cx.ntmps.2 - vs.toArray.size) undef).getD t undef,M0:=M,w0:=w,bor:=fun b=>b∈Ca (es.map (·.2)),gv:=fun t=>(vs[t - 8192]?).getD undef } M (fun i=>Ja Place.no (es.map fun e=>(e.1,e.2.1)) i) s0
          { tmps:=vs.toArray++Array.replicate (cx.ntmps.2 - vs.toArray.size) undef,defers:=[] } w:=by
      obtain ⟨l,u⟩:=x
      have henc:∀ y,AuH (Vp e keeps fresh rtys) cx.ntmps.1 y=enc [(0,.d (.slice e))] y:=fun y=>rfl
      rw [henc] at g0
      cases l with
      | cons a l=>exact ⟨_,by rw [← hrun1]; exact hr,g0⟩
      | nil =>
        obtain ⟨v,vs',rfl,hp,hvs,hes⟩:=hP
        obtain ⟨cs,⟨v2,hcs,ao,cap,hv2,hc,hno,_⟩,hv⟩:=hp
        have hv3:v=.slice ao 0 cap:=by rw [hv,hcs,hv2]; simp [Bk,Ty.isAgg]
        have h0:=ht0 0 v rfl
        cases ao with
        | none =>
          have:cap=0:=hno rfl
          subst this
          exact ⟨_,by rw [← hrun2]; exact hr,g0.env0 (sv':=.one .nilS) (by rw [Frm.val_lt (by omega),h0]; exact hv3)⟩
        | some ad=>exact ⟨_,by rw [← hrun3]; exact hr,g0.env0 (sv':=.one (.ne e)) (by rw [Frm.val_lt (by omega),h0]; exact ⟨ad,cap,hv3⟩)⟩
    refine calls_of_wp hf hb ?_
    rw [← hn]
    refine Tq hcf hcalls rfl hmix code _ _ (ho _ rfl) hs0 M _ _ w _ g1 ?_
    intro ex M' ρ' s' a' w' g' hk
    cases ex with
    | exit i=>cases hk
    | normal=>exact ⟨g'.defers,Ut hcf hsg hP hfree ht0 hn81 rfl g' hk⟩
    | ret=>exact ⟨g'.defers,Ut hcf hsg hP hfree ht0 hn81 rfl g' hk⟩
end
end Go.Eng
namespace Go.Eng
open Go.RowKit
theorem Ye{M:Mem}{w:World}:∀ {ms:List Mode} {vs:List Value} {mvs:List MV} {hs:List (Place×MObj)},Qv ms=true→ArgsOk M w ms vs mvs hs→All2 (Kc M) vs mvs∧hs=[]
  | [],_,_,_,_,.nil=>⟨.nil,rfl⟩
  | .ro::ms,_,_,_,h,.ro hp hb=>⟨.cons hp (Ye (ms:=ms) h hb).1,(Ye (ms:=ms) h hb).2⟩
theorem Aqp{M:Mem}{w:World}:∀ {ms:List Mode} (outs:List MV),Qv ms=true→BackOk M w ms [] outs outs
  | [],_,_=>.nil
  | .ro::ms,outs,h=>.ro (Aqp (ms:=ms) outs h)
theorem Ahd{M:Mem}{w:World}{pl:Place}:∀ {vs:List Value} {rs:List MV} {k:Nat},All2 (Kc M) vs rs→ResOk M w none pl k vs rs
  | [],_,_,.nil=>.nil
  | _::_,_,_,.cons h hl=>.plain (by simp) h (Ahd hl)
theorem AjY {P : Program} {f : FuncId} {sg : Sig} {model : Ae.den sg.sh → Option (Acl sg.rtys)} (hb : (do let fn ← P.funcs[f]?; pure (fn.body.isSome && fn.name != "runtime.NumGoroutine")) = some true) (hro : Qv sg.modes = true) (hfr : sg.fresh = none)
    (h:∀ M w vs ms r,All2 (Kc M) vs ms→Ft sg.sh ms model=some r→∃ us,All2 (Kc M) us (Ok sg.rtys r)∧Calls P f vs.toArray w fun e w'=>e=.returned (Ww us)∧w'=w):CSound P f (Ax sg model):=by
  refine ⟨fun ms K=>Q0 sg model ms K,hb,?_⟩
  intro ms outs hcm M w vs hs hM hargs _ _
  obtain ⟨hpl,rfl⟩:=Ye hro hargs
  have hcm':(Ft sg.sh ms model).bind (fun r=>some (Ok sg.rtys r))=some outs:=by
    rw [Pj]; exact hcm
  obtain ⟨r,hr,he⟩:=Option.bind_eq_some_iff.1 hcm'
  cases he
  obtain ⟨us,hu,hc⟩:=h M w vs ms r hpl hr
  refine hc.mono ?_
  rintro e w' ⟨rfl,rfl⟩
  refine ⟨M,_,us,.no,rfl,.refl M,hM,.refl _ _,fun _ _ _=>rfl,Aqp _ hro,?_,fun b hb=>by cases hb⟩
  show ResOk M _ sg.fresh _ _ _ _
  rw [hfr]
  exact Ahd hu
theorem Lj{M:Mem}{v:Value}{k:IntKind}{x:Int}(h:Kc M v (.d (.int k) x)):v=.int k x:=by
  obtain ⟨cs,hf,he⟩:=h
  have hf':cs=[.int k x]:=hf
  subst hf'
  simpa [Bk,Ty.isAgg] using he
theorem W3{R:Type}{k:IntKind}{l:Ae}{n:Nat}{ms:List MV}{K:Ae.den ((n,.d (.int k))::l)→Option R}{r:R}(h:Ft ((n,.d (.int k))::l) ms K=some r) :
    ∃ (x:Int) (ms':List MV),ms=.d (.int k) x::ms'∧Ft l ms' (fun y=>K (x,y))=some r:=by
  cases ms with
  | nil=>cases h
  | cons m ms =>
    simp only [Ft] at h
    cases m <;> simp only [Zs] at h <;> try (cases h; done)
    · rename_i t x
      unfold Wq at h
      split at h
      · rename_i ht
        subst ht
        exact ⟨x,ms,rfl,h⟩
      · cases h
theorem Ael{R:Type}{ms:List MV}{K:Ae.den []→Option R}{r:R}(h:Ft [] ms K=some r):ms=[]∧K ()=some r:=by
  cases ms with
  | nil=>exact ⟨rfl,h⟩
  | cons m ms=>cases h
def Aqq:Sig:={ modes:=[.ro],sh:=[(0,.d (.int .u64))],keeps:=true,rtys:=[.int .i64] }
def D3(F:Nat)(x:Int):Option (Int×Unit):=bif leI 0 x && leI x 18446744073709551615 then some ((Lib.bitLen x.toNat:Int),()) else none
theorem AjZ {P : Program} {f : FuncId} (F : Nat) (hb : (do let fn ← P.funcs[f]?; pure (fn.body.isSome && fn.name != "runtime.NumGoroutine")) = some true)
    (h:∀ (x:Int) (w:World),0≤x→x≤18446744073709551615→Calls P f #[.int .u64 x] w fun e w'=>e=.returned (.int .i64 (Lib.bitLen x.toNat))∧w'=w):CSound P f (Ax Aqq fun x=>D3 F x.1):=by
  refine AjY hb rfl rfl ?_
  intro M w vs ms r hpl ht
  obtain ⟨x,ms',rfl,ht⟩:=W3 ht
  obtain ⟨rfl,ht⟩:=Ael ht
  cases hpl with
  | cons hp hn =>
    cases hn
    have hv:=Lj hp
    subst hv
    replace ht:D3 F x=some r:=ht
    unfold D3 at ht
    cases hc:(leI 0 x && leI x 18446744073709551615) <;> rw [hc] at ht <;> simp only [cond_true,cond_false,reduceCtorEq] at ht
    simp only [Bool.and_eq_true,Bw] at hc
    have ht:=Option.some.inj ht
    subst ht
    exact ⟨[.int .i64 (Lib.bitLen x.toNat)],.cons (Ts _ _ _) .nil,h x w hc.1 hc.2⟩
def Tt:Sig:={ modes:=[.ro,.ro,.ro],sh:=[(0,.d (.int .u64)),(1,.d (.int .u64)),(2,.d (.int .u64))],keeps:=true,rtys:=[.int .u64,.int .u64] }
def F0(F:Nat)(x y c:Int):Option (Int×Int×Unit) :=
  bif leI 0 x && leI 0 y && leI 0 c && leI c 1 then some ((x+y+c) % 18446744073709551616,(x+y+c) / 18446744073709551616,()) else none
def Ju(F:Nat)(x y b:Int):Option (Int×Int×Unit) :=
  bif leI 0 x && leI 0 y && leI y 18446744073709551615 && leI 0 b && leI b 1 then some ((x - y - b) % 18446744073709551616,if x < y+b then 1 else 0,()) else none
theorem Ahe{P:Program}{f:FuncId}{g:Int→Int→Int→Option (Int×Int×Unit)}(h:∀ x y c r (w:World),g x y c=some r→(callFunc f #[.int .u64 x,.int .u64 y,.int .u64 c]).run P w=.ok (.value (.tuple #[.int .u64 r.1,.int .u64 r.2.1])) w) :
    CExt P f (Ax Tt fun x=>g x.1 x.2.1 x.2.2.1):=by
  refine ⟨fun ms K=>Q0 Tt _ ms K,rfl,?_⟩
  intro ms outs hcm M w vs hpl
  have hcm':(Ft Tt.sh ms fun x=>g x.1 x.2.1 x.2.2.1).bind (fun r=>some (Ok Tt.rtys r))=some outs:=by
    rw [Pj]; exact hcm
  obtain ⟨r,hr,he⟩:=Option.bind_eq_some_iff.1 hcm'
  cases he
  obtain ⟨x,m1,hm1,ht1⟩:=W3 hr
  obtain ⟨y,m2,hm2,ht2⟩:=W3 ht1
  obtain ⟨c,m3,hm3,ht3⟩:=W3 ht2
  obtain ⟨hm4,ht⟩:=Ael ht3
  subst hm4 hm3 hm2 hm1
  cases hpl with
  | cons h1 hpl =>
    cases hpl with
    | cons h2 hpl =>
      cases hpl with
      | cons h3 hpl =>
        cases hpl
        have e1:=Lj h1
        have e2:=Lj h2
        have e3:=Lj h3
        subst e1; subst e2; subst e3
        exact ⟨[.int .u64 r.1,.int .u64 r.2.1],h x y c r w ht,.cons (Ts _ _ _) (.cons (Ts _ _ _) .nil)⟩
theorem Aem{P:Program}(x y c:Nat)(hc:c≤1)(w:World){e:Array Value→Sem Value}(he:Extern.MathBitsCarry.rows[0]?.map (·.2)=some e) :
    (e #[.int .u64 x,.int .u64 y,.int .u64 c]).run P w=.ok (.tuple #[.int .u64 (((x+y+c) % 18446744073709551616:Nat):Int),.int .u64 (((x+y+c) / 18446744073709551616:Nat):Int)]) w:=by
  cases he
  have:c=0∨c=1:=by omega
  rcases this with rfl | rfl <;> rfl
theorem Aen{P:Program}(x y b:Nat)(hb:b≤1)(w:World){e:Array Value→Sem Value}(he:Extern.MathBitsCarry.rows[1]?.map (·.2)=some e) :
    (e #[.int .u64 x,.int .u64 y,.int .u64 b]).run P w=.ok (.tuple #[.int .u64 (((x+18446744073709551616 - y - b) % 18446744073709551616:Nat):Int),.int .u64 ((if x < y+b then 1 else 0:Nat):Int)]) w:=by
  cases he
  have:b=0∨b=1:=by omega
  rcases this with rfl | rfl <;> rfl
theorem Aqr {P : Program} {f : FuncId} {fn : Func} (F : Nat) (hf : P.funcs[f]? = some fn) (hname : (fn.name == "runtime.NumGoroutine") = false) (hb : fn.body.isNone = true) (hn : Extern.findNext fn = none)
    (he0:Extern.find fn=Extern.MathBitsCarry.rows[0]?.map (·.2)):CExt P f (Ax Tt fun x=>F0 F x.1 x.2.1 x.2.2.1):=by
  obtain ⟨e,hr⟩:∃ e,Extern.MathBitsCarry.rows[0]?.map (·.2)=some e:=⟨_,rfl⟩
  have he:Extern.find fn=some e:=he0.trans hr
  refine Ahe fun x y c r w hm=>?_
  unfold F0 at hm
  cases hc:(leI 0 x && leI 0 y && leI 0 c && leI c 1) <;> rw [hc] at hm <;> simp only [cond_true,cond_false,reduceCtorEq,Option.some.injEq] at hm
  simp only [Bool.and_eq_true,Bw] at hc
  obtain ⟨⟨⟨h1,h2⟩,h3⟩,h4⟩:=hc
  subst hm
  obtain ⟨x,rfl⟩:=Int.eq_ofNat_of_zero_le h1
  obtain ⟨y,rfl⟩:=Int.eq_ofNat_of_zero_le h2
  obtain ⟨c,rfl⟩:=Int.eq_ofNat_of_zero_le h3
  rw [run_callFunc_extern hf hname hb hn he,Aem x y c (by omega) w hr]
  simp only [Result.andThen]
  congr 5 <;> omega
theorem Aqs {P : Program} {f : FuncId} {fn : Func} (F : Nat) (hf : P.funcs[f]? = some fn) (hname : (fn.name == "runtime.NumGoroutine") = false) (hb : fn.body.isNone = true) (hn : Extern.findNext fn = none)
    (he0:Extern.find fn=Extern.MathBitsCarry.rows[1]?.map (·.2)):CExt P f (Ax Tt fun x=>Ju F x.1 x.2.1 x.2.2.1):=by
  obtain ⟨e,hr⟩:∃ e,Extern.MathBitsCarry.rows[1]?.map (·.2)=some e:=⟨_,rfl⟩
  have he:Extern.find fn=some e:=he0.trans hr
  refine Ahe fun x y c r w hm=>?_
  unfold Ju at hm
  cases hc:(leI 0 x && leI 0 y && leI y 18446744073709551615 && leI 0 c && leI c 1) <;> rw [hc] at hm <;> simp only [cond_true,cond_false,reduceCtorEq,Option.some.injEq] at hm
  simp only [Bool.and_eq_true,Bw] at hc
  obtain ⟨⟨⟨⟨h1,h2⟩,h5⟩,h3⟩,h4⟩:=hc
  subst hm
  obtain ⟨x,rfl⟩:=Int.eq_ofNat_of_zero_le h1
  obtain ⟨y,rfl⟩:=Int.eq_ofNat_of_zero_le h2
  obtain ⟨c,rfl⟩:=Int.eq_ofNat_of_zero_le h3
  have e1:(((x+18446744073709551616 - y - c) % 18446744073709551616:Nat):Int)=((x:Int) - y - c) % 18446744073709551616:=by omega
  have e2:((if x < y+c then 1 else 0:Nat):Int)=if(x:Int) < y+c then 1 else 0:=by split <;> split <;> omega
  rw [run_callFunc_extern hf hname hb hn he,Aen x y c (by omega) w hr,e1,e2]
  rfl
theorem AuL{R:Type}{e t:Ty}{x:t.den}{i tid:Nat}{l:Ae}{n:Nat}{ms:List MV}{K:Ae.den ((n,.own i e tid)::l)→Option R}{r:R}(h:Ft ((n,.own i e tid)::l) (.d t x::ms) K=some r) :
    ∃ y:List e.den,(⟨t,x⟩:TD)=⟨.slice e,y⟩∧Ft l ms (fun ys=>K (y,ys))=some r:=by
  simp only [Ft,Zs,Wq] at h
  split at h
  · rename_i ht; subst ht; exact ⟨x,rfl,h⟩
  · cases h
def AcX(e:Ty)(tid:Nat):Sig:={ modes:=[.con tid,.ro],sh:=[(0,.own 0 e tid),(1,.d (.int .i64))],keeps:=false,fresh:=some (0,tid),rtys:=[.slice e] }
def Ku{α:Type}(bytes:Nat)(l:List α)(n:Int):Option (List α×Unit):=bif leI 0 n && Bf (List.length l+n.toNat) bytes then some (l,()) else none
theorem AoZ {P : Program} {cx : Cx} {f : FuncId} {e : Ty} {tid : Nat} {r : TyRow} (hcf : Hu P cx) (hr : cx.row? tid = some r) (hre : r.ty = e) (hb : (do let fn ← P.funcs[f]?; pure (fn.body.isSome && fn.name != "runtime.NumGoroutine")) = some true) (hpos : 0 < e.sz)
    (hroom:∀ (base:Option Addr) (l c n:Nat) (w:World),l≤c→c≤9223372036854775807→n≤9223372036854775807→l+n≤c→Calls P f #[.slice base l c,.int .i64 n] w fun e w'=>e=.returned (.slice base l c)∧w'=w)
    (hgrow:∀ (i0:TypeInfo) (z:Value),P.info? tid=some i0→i0.zero=some z→0 < i0.size→∀ (base:Option Addr) (l c n:Nat) (cs:List Value) (w:World),l≤c→c < l+n→(l+n)*i0.bytes≤140737488355328→l+n≤4611686018427387904 →
      cs.length=c*i0.size→(base=none→c=0)→(∀ a,base=some a→∀ j v,cs[j]?=some v→w.cell? (a.add j)=some v) →
      Calls P f #[.slice base l c,.int .i64 n] w fun e w'=>e=.returned (.slice (some ⟨w.heap.size,0,none⟩) l (grownCap w (l+n) c tid)) ∧
        w'=w.drew.alloc (.cells (cs.toArray++Builtin.zeroCells z.cells (l+n - c)++Builtin.zeroCells z.cells (grownCap w (l+n) c tid - (l+n))) tid)) :
    CSound P f (Ax (AcX e tid) fun x=>Ku r.bytes x.1 x.2.1):=by
  refine ⟨fun ms K=>Q0 _ _ ms K,hb,?_⟩
  intro ms outs hcm M w vs hs hM hargs hnd hfree
  cases hargs with
  | @con _ vs rs hs pl e' _ l ho ha =>
    cases ha with
    | @ro _ vs rs hs v m hp ha =>
      cases ha with
      | nil =>
        have hcm':(Ft (AcX e tid).sh [.d (.slice e') l,m] fun x=>Ku r.bytes x.1 x.2.1).bind (fun r=>some (Ok (AcX e tid).rtys r))=some outs:=by
          rw [Pj]; exact hcm
        obtain ⟨q,hq,ho2⟩:=Option.bind_eq_some_iff.1 hcm'
        cases ho2
        obtain ⟨l',hee,hq⟩:=AuL hq
        have he':e'=e:=by
          have:=congrArg Sigma.fst hee
          simpa using this
        subst he'
        have hl':l=l':=by simpa using hee
        subst hl'
        obtain ⟨n,m1,hm1,hq⟩:=W3 hq
        obtain ⟨hm2,hq⟩:=Ael hq
        subst hm2
        simp only [List.cons.injEq,and_true] at hm1
        subst hm1
        have hv:=Lj hp
        subst hv
        replace hq:Ku r.bytes l n=some q:=hq
        unfold Ku at hq
        cases hc:(leI 0 n && Bf (List.length l+n.toNat) r.bytes) <;> rw [hc] at hq <;> simp only [cond_true,cond_false,reduceCtorEq] at hq
        have hq:=Option.some.inj hq
        simp only [Bool.and_eq_true,Bw,Bq] at hc
        obtain ⟨h0,h1,h2⟩:=hc
        subst hq
        obtain ⟨n,rfl⟩:=Int.eq_ofNat_of_zero_le h0
        simp only [Int.toNat_natCast] at h1 h2
        obtain ⟨ti,z,hi,hsz,hby,hz,hzc⟩:=(hcf _ _ hr).info
        subst hre
        have hzs:z.cells.size=r.ty.sz:=by rw [← Array.length_toList,hzc,(Ch.zero M r.ty).length]
        -- a new row
        have grown:∀ (base:Option Addr) (c:Nat) (cs:List Value),pl.slice l.length=.slice base l.length c→l.length≤c→c < l.length+n→cs.length=c*r.ty.sz→(base=none→c=0)→(∀ a,base=some a→∀ j v,cs[j]?=some v→w.cell? (a.add j)=some v) →
            (∃ ds,Bs (Ch M r.ty) l ds∧cs.take ds.length=ds)→Calls P f #[pl.slice l.length,.int .i64 n] w (A3K M w (Ax (AcX r.ty tid) fun x=>Ku r.bytes x.1 x.2.1) [(pl,.sl r.ty tid l)] [.d (.slice r.ty) l]):=by
          intro base c cs hpl hlc hcn hcl hnil hcell hds
          obtain ⟨ds,hds,hdt⟩:=hds
          have hk:=hgrow ti z hi hz (by rw [hsz]; exact hpos) base l.length c n cs w hlc hcn (by rw [hby]; exact h1) (by omega) (by rw [hsz]; exact hcl) hnil hcell
          rw [hpl]
          refine hk.mono ?_
          rintro e w' ⟨rfl,rfl⟩
          have hge:=grownCap_ge w (l.length+n) c tid
          have hcm:grownCap w (l.length+n) c tid≤maxLen:=grownCap_le_maxLen w (l.length+n) c tid (by unfold maxLen; omega)
          have hsi:=Nc w.drew (.cells (cs.toArray++Builtin.zeroCells z.cells (l.length+n - c)++Builtin.zeroCells z.cells (grownCap w (l.length+n) c tid - (l.length+n))) tid)
          have hM0:M w.heap.size=none:=by
            cases hmm:M w.heap.size with
            | none=>rfl
            | some ob=>have:=(Array.getElem?_eq_some_iff.1 (hM _ _ hmm)).1; omega
          have hsi':Since (fun _=>False) w (w.drew.alloc (.cells (cs.toArray++Builtin.zeroCells z.cells (l.length+n - c)++Builtin.zeroCells z.cells (grownCap w (l.length+n) c tid - (l.length+n))) tid)):=⟨hsi.os,hsi.tape,hsi.output,hsi.size,hsi.block⟩
          refine ⟨M,[.d (.slice r.ty) l],[.slice (some ⟨w.heap.size,0,none⟩) l.length (grownCap w (l.length+n) c tid)],.at w.heap.size (grownCap w (l.length+n) c tid),rfl,.refl M,hM.since hsi' (fun _ _ _ h=>h),⟨hsi.os,hsi.tape,hsi.output,hsi.size,fun b hb _=>hsi.block b hb (fun h=>h)⟩,fun _ _ _=>rfl,.con (.ro .nil),?_,?_⟩
          · refine .fresh (o:=.sl r.ty tid l) rfl rfl rfl rfl ?_ .nil
            refine ⟨by omega,hcm,_,heap_alloc_new w.drew _,?_,ds,hds,?_⟩
            · simp only [Array.size_append,List.size_toArray,size_zeroCells,hzs,hcl,← Nat.add_mul]
              congr 1; omega
            · simp only [Array.toList_append,List.append_assoc]
              have hdl:ds.length≤cs.length:=by
                have:=congrArg List.length hdt
                simp only [List.length_take] at this
                omega
              rw [List.take_append_of_le_length hdl]
              exact hdt
          · intro b hb
            cases hb
            exact ⟨hM0,by simp,.inl (Nat.le_refl _)⟩
        cases hpl:pl with
        | no =>
          rw [hpl] at ho
          have hl:l=[]:=ho
          subst hl
          by_cases hn0:n=0
          · subst hn0
            refine(hroom none 0 0 0 w (Nat.le_refl _) (Nat.zero_le _) (Nat.zero_le _) (Nat.le_refl _)).mono ?_
            rintro e w' ⟨rfl,rfl⟩
            exact ⟨M,[.d (.slice r.ty) []],[.slice none 0 0],.no,rfl,.refl M,hM,.refl _ _,fun _ _ _=>rfl,.con (.ro .nil),.fresh (o:=.sl r.ty tid []) rfl rfl rfl rfl rfl .nil,fun b hb=>by cases hb⟩
          · have:=grown none 0 [] (by rw [hpl]; rfl) (Nat.le_refl _) (by simp; omega) (by simp) (fun _=>rfl) (fun a h=>by cases h) ⟨[],rfl,rfl⟩
            rw [hpl] at this
            exact this
        | «at» b cap =>
          have ho':=ho
          rw [hpl] at ho
          obtain ⟨k1,k2,cur,k3,k4,ds,k5,k6⟩:=ho
          by_cases hfit:l.length+n≤cap
          · refine(hroom (some ⟨b,0,none⟩) l.length cap n w k1 (by unfold maxLen at k2; omega) (by omega) hfit).mono ?_
            rintro e w' ⟨rfl,rfl⟩
            have hMb:M b=none:=hfree b (by rw [hpl]; simp [Ca,Place.blk])
            refine ⟨M,[.d (.slice r.ty) l],[.slice (some ⟨b,0,none⟩) l.length cap],.at b cap,rfl,.refl M,hM,.refl _ _,fun _ _ _=>rfl,.con (.ro .nil),.fresh (o:=.sl r.ty tid l) rfl rfl rfl rfl (by rw [← hpl]; exact ho') .nil,fun b' hb=>?_⟩
            cases hb
            refine ⟨hMb,(Array.getElem?_eq_some_iff.1 k3).1,.inr ?_⟩
            simp [De,Ax,AcX,Place.blk]
          · have:=grown (some ⟨b,0,none⟩) cap cur.toList (by rw [hpl]; rfl) k1 (by omega) (by simpa using k4) (fun h=>by cases h) (fun a ha j v hj=>by
              cases ha
              rw [G9,cell_of_row w b _ cur tid (0,0) k3]
              simpa using hj) ⟨ds,k5,k6⟩
            rw [hpl] at this
            exact this
theorem Ap0{P:Program}{cx:Cx}{f:FuncId}{fn:Func}{code:Code}{sg:Sig}{model:Ae.den sg.sh→Option (Acl sg.rtys)}
    (hf : P.funcs[f]? = some fn) (hb : fn.body = some code) (hname : (fn.name != "runtime.NumGoroutine") = true) (hsg : AaX sg cx.ntmps = true) (hz : ∀ x, model x = none) : CSound P f (Ax sg model) := by
  refine ⟨fun ms K=>Q0 sg model ms K,?_,?_⟩
  · simp [hf,hb,hname]
  · intro ms outs hcm M w vs hs' hM hargs hnd hfree
    simp only [AaX,Bool.and_eq_true] at hsg
    obtain ⟨⟨hsig,_⟩,hle⟩:=hsg
    obtain ⟨x,es,hx,hP,rfl,hlen⟩:=AaZ hargs hsig hcm
    obtain ⟨r,hr,he⟩:=Option.bind_eq_some_iff.1 hx
    rw [hz] at hr
    cases hr
end Go.Eng
namespace Go.Eng
open Go.RowKit
def Frm.re(fr:Frm)(M1:Mem)(t:Nat)(v:Value):Frm:={ fr with M0:=M1,gv:=fun u=>if u=t then v else fr.gv u }
structure Frm.Base (fr:Frm) (M1:Mem):Prop where
  le:fr.M0.le M1
  keep:∀ b,b < fr.w0.heap.size→¬ fr.bor b→M1 b=fr.M0 b
section
variable {P:Program} {cx:Cx} {fr fr2:Frm} {M:Mem} {ρ ρ2:Nat→Place} {s s2:St} {a:Act} {w:World}
theorem Good.base(g:Good fr M ρ s a w):fr.Base M:=⟨g.old,g.keep⟩
theorem Good.recast(g:Good fr M ρ s a w)(hn:fr2.n=fr.n)(hpv:fr2.pv=fr.pv)(hw:fr2.w0=fr.w0)(hb:fr2.bor=fr.bor)(hB:fr2.Base M)
    (henv:∀ t,Jc M ρ2 s2.obj (fr2.val a t) (s2.get t)) (hobj:∀ id,Ew M w (ρ2 id) (s2.obj id))
    (hap:∀ id b,s2.obj id≠.gone→(ρ2 id).blk=some b→s.obj id≠.gone∧(ρ id).blk=some b):Good fr2 M ρ2 s2 a w:=by
  refine ⟨henv,?_,g.defers,g.mem,hB.le,hobj,fun id b hne hbk=>?_,?_,?_⟩
  · rw [hn,hpv]; exact g.size
  · obtain ⟨h1,h2⟩:=hap id b hne hbk
    have hx:=g.apart id b h1 h2
    refine ⟨hx.1,hx.2.1,by rw [hw,hb]; exact hx.2.2.1,fun id' hi hg hk=>?_⟩
    obtain ⟨h3,h4⟩:=hap id' b hg hk
    exact hx.2.2.2 id' hi h3 h4
  · rw [hw,hb]; exact g.since
  · intro b h1 h2
    exact hB.keep b h1 h2
theorem W4{α:Type}{d:α}:∀ {l:List (Nat×α)} {t:Nat},Ja d l t=d∨(t,Ja d l t)∈l
  | [],_=>.inl rfl
  | (k,x)::l,t=>by
    simp only [Ja]
    cases hb:Nat.beq k t with
    | true=>have:=(A8 _ _).1 hb; subst this; exact .inr (by simp)
    | false =>
      simp only [cond_false]
      rcases W4 (d:=d) (l:=l) (t:=t) with h | h
      · exact .inl h
      · exact .inr (List.mem_cons_of_mem _ h)
theorem Ak0{obj:Nat→MObj}{v:Nat→Value}{l:List (Nat×SV)}(h:∀ p∈l,Jc M ρ obj (v p.1) p.2)(t:Nat):Jc M ρ obj (v t) (Ja (.one .dead) l t):=by
  rcases W4 (d:=SV.one .dead) (l:=l) (t:=t) with h1 | h1
  · rw [h1]; exact trivial
  · exact h _ h1
theorem Ahf{l:List (Nat×MObj)}(h:∀ p∈l,Ew M w (ρ p.1) p.2)(t:Nat):Ew M w (ρ t) (Ja .gone l t):=by
  rcases W4 (d:=MObj.gone) (l:=l) (t:=t) with h1 | h1
  · rw [h1]; cases ρ t <;> trivial
  · exact h _ h1
theorem AuN(hcf:Hu P cx)(hcalls:∀ f c,cx.call f=some c→Wx P f c)(hn:cx.ntmps=fr.n){id:Nat}{ops:Array Oper}{sh1:Ae}{x1:Ae.den sh1}
    (h:P8 cx ops.toList ops.toList s (fun s=>P9 sh1 s some)=some x1) (g:Good fr M ρ s a w) {Q:Exit→Act→World→Prop} (hQ:∀ M ρ a w,Good fr M ρ (enc sh1 x1) a w→Q .normal a w):(Code.region id ops false).wp P Q a w:=by
  refine Y6 hcf hcalls hn (K:=fun s=>P9 sh1 s some) (fun M ρ s a w g h=>?_) g h
  obtain ⟨x,ρ',hx,g'⟩:=Ng h g
  cases hx
  exact hQ _ _ _ _ g'
theorem Ak1(hcf:Hu P cx)(hcalls:∀ f c,cx.call f=some c→Wx P f c)(hn:cx.ntmps=fr.n){ops:Array Oper}{Q:Exit→Act→World→Prop}{sh1:Ae}{x1:Ae.den sh1}{n:Nat}
    (hQ:∀ M ρ a w,Good fr M ρ (enc sh1 x1) a w→wpOps P ops Q (List.range' n (ops.size - n)) a w) :
    ∀ (l:List Oper) (k:Nat),l <+: ops.toList.drop k→k+l.length=n→∀ {M ρ s a w},Good fr M ρ s a w→P8 cx ops.toList l s (fun s=>P9 sh1 s some)=some x1→wpOps P ops Q (List.range' k (ops.size - k)) a w
  | [],k,_,hk,M,ρ,s,a,w,g,h=>by
    simp only [List.length_nil,Nat.add_zero] at hk
    subst hk
    obtain ⟨x,ρ',hx,g'⟩:=Ng h g
    cases hx
    exact hQ _ _ _ _ g'
  | o::l,k,hp,hk,M,ρ,s,a,w,g,h=>by
    obtain ⟨t,ht⟩:=hp
    have ho:ops[k]?=some o:=by
      have h0:(ops.toList.drop k)[0]?=some o:=by rw [← ht]; rfl
      simpa using h0
    have hlt:k < ops.size:=(Array.getElem?_eq_some_iff.1 ho).1
    have hl:l <+: ops.toList.drop (k+1):=⟨t,by rw [← List.drop_drop,← ht]; rfl⟩
    rw [show ops.size - k=(ops.size - (k+1))+1 by omega,List.range'_succ]
    simp only [wpOps,ho]
    simp only [P8] at h
    have hk':k+1+l.length=n:=by simp only [List.length_cons] at hk; omega
    obtain ⟨s',hs,⟨hw,hy⟩ | ⟨hw,hy⟩⟩:=V4 h
    · rw [hw.wanted g]
      simp only [if_true]
      obtain ⟨hd,e,hK,hdo⟩:=AaO hcf hcalls hn hy
      refine .inl (Oper.wp_mono ?_ (hdo M ρ s' a w Q (g.same hs) fun _ _=>rfl))
      rintro a' w' ⟨M',ρ',g'⟩
      exact Ak1 hcf hcalls hn hQ l (k+1) hl hk' g' hK
    · rw [hw.wanted g]
      simp only [Bool.false_eq_true,if_false]
      cases hd:Cy cx.ntmps o.dst <;> rw [hd] at hy <;> simp only [cond_true,cond_false,reduceCtorEq] at hy
      rw [hn] at hd
      exact Ak1 hcf hcalls hn hQ l (k+1) hl hk' ((g.same hs).skip hd) hy
theorem AuO{id:Nat}{ops:Array Oper}{Q:Exit→Act→World→Prop}(h:wpOps P ops Q (List.range' 0 (ops.size - 0)) a w):(Code.region id ops false).wp P Q a w:=by
  refine wp_region ?_
  simpa [List.range_eq_range'] using h
theorem Aqt(g:Good fr M ρ s a w){t:Nat}{b:Bool}{x y:Code}{Q:Exit→Act→World→Prop}(hc:s.eval (.tmp t)=.one (.d .bool b))(h1:b=true→x.wp P Q a w)(h2:b=false→y.wp P Q a w):(Code.cond (.tmp t) x y).wp P Q a w:=by
  have hv:a.eval (.tmp t)=.bool b:=by
    have:=g.eval (.tmp t)
    rw [hc] at this
    obtain ⟨cs,hf,e⟩:=this
    have hf':cs=[.bool b]:=hf
    subst hf'
    simpa [Bk,Ty.isAgg] using e
  cases b with
  | true=>exact wp_cond_true hv (h1 rfl)
  | false=>exact wp_cond_false hv (h2 rfl)
def Ci:Code→List Oper
  | .region _ ops _=>ops.toList
  | _=>[]
def AuP:Code→Bool
  | .region _ _ d=>!d
  | _=>false
def A3T:Code→Bool
  | .seq _ _=>true
  | _=>false
def Aqu(i:Nat):Code→Bool
  | .block j _=>Nat.beq i j
  | _=>false
def Aqv(t:Nat):Code→Bool
  | .cond (.tmp u) _ _=>Nat.beq t u
  | _=>false
def AxE(i:Nat):Code→Bool
  | .exit j=>Nat.beq i j
  | _=>false
def AxF:Code→Bool
  | .skip=>true
  | _=>false
def A3U:Code→Bool
  | .ret=>true
  | _=>false
def AxG:Code→Bool
  | .loop _=>true
  | _=>false
theorem Ab4(c:Code):sub c []=c:=by cases c <;> rfl
theorem W5(q:List Nat):sub .skip q=.skip:=by cases q <;> simp [sub]
theorem Pn:∀ (c:Code) (p q:List Nat),sub (sub c p) q=sub c (p++q)
  | c,[],q=>by rw [Ab4]; rfl
  | .seq x y,i::p,q=>by
    match i with
    | 0=>simp only [sub,List.cons_append]; exact Pn x p q
    | 1=>simp only [sub,List.cons_append]; exact Pn y p q
    | n+2=>simp only [sub,List.cons_append,W5]
  | .cond _ x y,i::p,q=>by
    match i with
    | 0=>simp only [sub,List.cons_append]; exact Pn x p q
    | 1=>simp only [sub,List.cons_append]; exact Pn y p q
    | n+2=>simp only [sub,List.cons_append,W5]
  | .block _ x,i::p,q=>by
    match i with
    | 0=>simp only [sub,List.cons_append]; exact Pn x p q
    | n+1=>simp only [sub,List.cons_append,W5]
  | .loop x,i::p,q=>by
    match i with
    | 0=>simp only [sub,List.cons_append]; exact Pn x p q
    | n+1=>simp only [sub,List.cons_append,W5]
  | .skip,i::p,q | .region _ _ _,i::p,q | .scope _,i::p,q | .exit _,i::p,q | .label _,i::p,q | .goto _,i::p,q | .ret,i::p,q | .rangeFunc _ _ _ _,i::p,q | .refuse _,i::p,q=>by simp only [sub,List.cons_append,W5]
variable {c0:Code} {p:List Nat} {Q:Exit→Act→World→Prop}
theorem En(hc:A3T (sub c0 p)=true)(h:(sub c0 (p++[0])).wp P (Exit.then ((sub c0 (p++[1])).wp P Q) Q) a w):(sub c0 p).wp P Q a w:=by
  rw [← Pn,← Pn] at h
  generalize sub c0 p=c at *
  cases c <;> simp [A3T] at hc
  simp only [sub,Ab4] at h
  exact wp_seq h
theorem Uv{i:Nat}(hc:Aqu i (sub c0 p)=true)(h:(sub c0 (p++[0])).wp P (Exit.inBlock i Q) a w):(sub c0 p).wp P Q a w:=by
  rw [← Pn] at h
  generalize sub c0 p=c at *
  cases c <;> simp only [Aqu,Bool.false_eq_true] at hc
  have:=(A8 _ _).1 hc
  subst this
  simp only [sub,Ab4] at h
  exact wp_block h
theorem Tu(hc:AxF (sub c0 p)=true)(h:Q .normal a w):(sub c0 p).wp P Q a w:=by
  generalize sub c0 p=c at *
  cases c <;> simp [AxF] at hc
  exact wp_skip h
theorem Aqw(hc:A3U (sub c0 p)=true)(h:Q .ret a w):(sub c0 p).wp P Q a w:=by
  generalize sub c0 p=c at *
  cases c <;> simp [A3U] at hc
  exact wp_ret h
theorem Aeo{i:Nat}(hc:AxE i (sub c0 p)=true)(h:Q (.exit i) a w):(sub c0 p).wp P Q a w:=by
  generalize sub c0 p=c at *
  cases c <;> simp only [AxE,Bool.false_eq_true] at hc
  have:=(A8 _ _).1 hc
  subst this
  exact wp_exit h
theorem Tv(g:Good fr M ρ s a w){t:Nat}{b:Bool}(hc:Aqv t (sub c0 p)=true)(hv:s.eval (.tmp t)=.one (.d .bool b))(h1:b=true→(sub c0 (p++[0])).wp P Q a w)(h2:b=false→(sub c0 (p++[1])).wp P Q a w):(sub c0 p).wp P Q a w:=by
  rw [← Pn] at h1 h2
  generalize sub c0 p=c at *
  cases c <;> simp only [Aqv,Bool.false_eq_true] at hc
  rename_i o x y
  cases o <;> simp only [Aqv,Bool.false_eq_true] at hc
  have:=(A8 _ _).1 hc
  subst this
  simp only [sub,Ab4] at h1 h2
  exact Aqt g hv h1 h2
theorem Aqx(hc:AxG (sub c0 p)=true){J:Nat→Act→World→Prop}(h0:∀ a w,¬ J 0 a w)(hs:∀ n a w,J (n+1) a w→(sub c0 (p++[0])).wp P (Exit.then (J n) Q) a w){n:Nat}{a:Act}{w:World}(h:J n a w):(sub c0 p).wp P Q a w:=by
  rw [← Pn] at hs
  generalize sub c0 p=c at *
  cases c <;> simp [AxG] at hc
  simp only [sub,Ab4] at hs
  exact Tr h0 hs h
theorem Hd(hcf:Hu P cx)(hcalls:∀ f c,cx.call f=some c→Wx P f c)(hn:cx.ntmps=fr.n)(hc:AuP (sub c0 p)=true){sh1:Ae}{x1:Ae.den sh1}
    (h:P8 cx (Ci (sub c0 p)) (Ci (sub c0 p)) s (fun s=>P9 sh1 s some)=some x1) (g:Good fr M ρ s a w) (hQ:∀ M ρ a w,Good fr M ρ (enc sh1 x1) a w→Q .normal a w):(sub c0 p).wp P Q a w:=by
  generalize sub c0 p=c at *
  cases c <;> simp [AuP] at hc
  subst hc
  exact AuN hcf hcalls hn h g hQ
def Zc(P:Program)(c:Code)(Q:Exit→Act→World→Prop)(k:Nat)(a:Act)(w:World):Prop:=wpOps P (Ci c).toArray Q (List.range' k ((Ci c).length - k)) a w
theorem AxH(hc:AuP (sub c0 p)=true)(h:Zc P (sub c0 p) Q 0 a w):(sub c0 p).wp P Q a w:=by
  generalize sub c0 p=c at *
  cases c <;> simp [AuP] at hc
  subst hc
  refine AuO ?_
  simpa [Zc,Ci] using h
theorem AcY{c:Code}(hcf:Hu P cx)(hcalls:∀ f c,cx.call f=some c→Wx P f c)(hn:cx.ntmps=fr.n){k n:Nat}{sh1:Ae}{x1:Ae.den sh1}
    (h:P8 cx (Ci c) (((Ci c).drop k).take n) s (fun s=>P9 sh1 s some)=some x1) (hl:(((Ci c).drop k).take n).length=n) (g:Good fr M ρ s a w) (hQ:∀ M ρ a w,Good fr M ρ (enc sh1 x1) a w→Zc P c Q (k+n) a w):Zc P c Q k a w:=by
  have:=Ak1 (Q:=Q) (n:=k+n) hcf hcalls hn (ops:=(Ci c).toArray) (sh1:=sh1) (x1:=x1) (fun M ρ a w g=>by simpa [Zc] using hQ M ρ a w g) (((Ci c).drop k).take n) k (List.take_prefix _ _) (by rw [hl]) g h
  simpa [Zc] using this
theorem AxI{c:Code}{k:Nat}(hk:(Ci c).length=k)(h:Q .normal a w):Zc P c Q k a w:=by
  subst hk
  simpa [Zc,wpOps] using h
theorem W6{M1:Mem}{t:Nat}{v:Value}(h:¬ t < 8192):(fr.re M1 t v).val a t=v:=by
  rw [Frm.val_ge h]; exact if_pos rfl
def A3V(M:Mem)(ρ:Nat→Place)(obj:Nat→MObj)(v:Nat→Value):List (Nat×SV)→Prop
  | []=>True
  | x::l=>Jc M ρ obj (v x.1) x.2∧A3V M ρ obj v l
theorem A3V.all{obj:Nat→MObj}{v:Nat→Value}:∀ {l:List (Nat×SV)},A3V M ρ obj v l→∀ p∈l,Jc M ρ obj (v p.1) p.2
  | _::_,h,q,hq=>by
    rcases List.mem_cons.1 hq with rfl | hq
    · exact h.1
    · exact A3V.all h.2 q hq
def A3W(M:Mem)(w:World)(ρ:Nat→Place):List (Nat×MObj)→Prop
  | []=>True
  | x::l=>Ew M w (ρ x.1) x.2∧A3W M w ρ l
theorem A3W.all:∀ {l:List (Nat×MObj)},A3W M w ρ l→∀ p∈l,Ew M w (ρ p.1) p.2
  | _::_,h,q,hq=>by
    rcases List.mem_cons.1 hq with rfl | hq
    · exact h.1
    · exact A3W.all h.2 q hq
def A3X(s:St)(ρ ρ2:Nat→Place):List (Nat×MObj)→Prop
  | []=>True
  | x::l=>(∀ b,(ρ2 x.1).blk=some b→s.obj x.1≠.gone∧(ρ x.1).blk=some b)∧A3X s ρ ρ2 l
theorem A3X.all:∀ {l:List (Nat×MObj)},A3X s ρ ρ2 l→∀ p∈l,∀ b,(ρ2 p.1).blk=some b→s.obj p.1≠.gone∧(ρ p.1).blk=some b
  | _::_,h,q,hq=>by
    rcases List.mem_cons.1 hq with rfl | hq
    · exact h.1
    · exact A3X.all h.2 q hq
theorem Good.tell(g:Good fr M ρ s a w){sh:Ae}{x:Ae.den sh}(ρ2:Nat→Place)(hn:fr2.n=fr.n)(hpv:fr2.pv=fr.pv)(hw:fr2.w0=fr.w0)(hb:fr2.bor=fr.bor)(hB:fr2.Base M)
    (henv:A3V M ρ2 (enc sh x).obj (fr2.val a) (AgJ sh x)) (hobj:A3W M w ρ2 (AaA sh x)) (hap:A3X s ρ ρ2 (AaA sh x)):Good fr2 M ρ2 (enc sh x) a w:=by
  refine g.recast hn hpv hw hb hB (Ak0 henv.all) (Ahf hobj.all) fun id b hne hb=>?_
  rcases W4 (d:=MObj.gone) (l:=AaA sh x) (t:=id) with h1 | h1
  · exact absurd h1 hne
  · exact hap.all _ h1 b hb
theorem Frm.Base.trans{M1:Mem}{t:Nat}{v:Value}(h:fr.Base M1)(k:(fr.re M1 t v).Base M):fr.Base M:=⟨h.le.trans k.le,fun b h1 h2=>(k.keep b h1 h2).trans (h.keep b h1 h2)⟩
theorem Frm.Base.re{t:Nat}{v:Value}(fr:Frm)(M:Mem):(fr.re M t v).Base M:=⟨.refl M,fun _ _ _=>rfl⟩
theorem Bs.conv{α β:Type}{P:α→List Value→Prop}{Q:β→List Value→Prop}:∀ {l:List α} {m:List β} {cs:List Value},Bs P l cs→l.length=m.length→(∀ (k:Nat) x y cs,l[k]?=some x→m[k]?=some y→P x cs→Q y cs)→Bs Q m cs
  | [],[],_,h,_,_=>h
  | x::l,y::m,_,⟨c1,c2,e,h1,h2⟩,hl,hf=>⟨c1,c2,e,hf 0 x y c1 rfl rfl h1,Bs.conv h2 (by simpa using hl) fun k x y cs hx hy=>hf (k+1) x y cs (by simpa using hx) (by simpa using hy)⟩
  | [],_::_,_,_,hl,_=>by simp at hl
  | _::_,[],_,_,hl,_=>by simp at hl
theorem Ew.conv{pl:Place}{e e':Ty}{tid:Nat}{l:List e.den}{m:List e'.den}(h:Ew M w pl (.sl e tid l))(hsz:e'.sz=e.sz)(hl:m.length=l.length)(hf:∀ (k:Nat) x y cs,l[k]?=some x→m[k]?=some y→Ch M e x cs→Ch M e' y cs):Ew M w pl (.sl e' tid m):=by
  cases pl with
  | no =>
    have h0:l=[]:=h
    subst h0
    exact List.eq_nil_of_length_eq_zero (by simpa using hl)
  | «at» b cap =>
    obtain ⟨h1,h2,cur,h3,h4,cs,h5,h6⟩:=h
    exact ⟨by rw [hl]; exact h1,h2,cur,h3,by rw [hsz]; exact h4,cs,Bs.conv h5 hl.symm hf,h6⟩
end
def D4{A:Type}:List (Int×(A×(Unit×Unit)))→List (List Int)→List (Int×(A×(List Int×Unit)))
  | [],_=>[]
  | x::l,[]=>(x.1,(x.2.1,([],())))::D4 l []
  | x::l,d::D=>(x.1,(x.2.1,(d,())))::D4 l D
theorem Ab5{A:Type}:∀ (x0:List (Int×(A×(Unit×Unit)))) (D:List (List Int)) (k:Nat),(D4 x0 D)[k]?=(x0[k]?).map fun x=>(x.1,(x.2.1,(D.getD k [],())))
  | [],_,_=>by simp [D4]
  | x::l,[],0=>by simp [D4]
  | x::l,[],k+1=>by simp [D4,Ab5 l [] k]
  | x::l,d::D,0=>by simp [D4]
  | x::l,d::D,k+1=>by simp [D4,Ab5 l D k]
theorem Po{A:Type}:∀ (x0:List (Int×(A×(Unit×Unit)))) (D:List (List Int)),(D4 x0 D).length=x0.length
  | [],_=>rfl
  | x::l,[]=>by simp [D4,Po l []]
  | x::l,d::D=>by simp [D4,Po l D]
end Go.Eng
namespace Go.Eng
theorem A8Q{α:Type}(b:Bool)(x y:α):(bif b then x else y)=if b=true then x else y:=by cases b <;> rfl
theorem W7{b:Bool}:(not b=true)↔¬ (b=true):=by cases b <;> simp
theorem AzS{k:IntKind}{x y:Int}(hx:0≤x)(hk:k=.i64∨k=.u64)(hm:x≤9223372036854775807)(hy:0 < y):Ht k x y=x / y:=by
  have h1:0≤x / y:=Int.ediv_nonneg hx (by omega)
  have h2:x / y≤x:=Int.ediv_le_self _ hx
  unfold Ht
  rw [Int.tdiv_eq_ediv_of_nonneg hx]
  rcases hk with rfl | rfl
  · exact Cz (by omega)
  · exact Bi (by omega)
theorem Uw{x y:Int}(hx:0≤x)(hm:x≤9223372036854775807)(hy:0 < y):Ht .i64 x y=x / y:=AzS hx (.inl rfl) hm hy
theorem Sq{x y:Int}(hx:0≤x)(hm:x≤18446744073709551615)(hy:0 < y):Ht .u64 x y=x / y:=by
  have h1:0≤x / y:=Int.ediv_nonneg hx (by omega)
  have h2:x / y≤x:=Int.ediv_le_self _ hx
  unfold Ht
  rw [Int.tdiv_eq_ediv_of_nonneg hx]
  exact Bi (by omega)
theorem Tw{x y:Int}(hx:0≤x):I9 x y=x % y:=by
  unfold I9; exact Int.tmod_eq_emod_of_nonneg hx
theorem I0{x y:Int}(h:0≤x*y∧x*y≤18446744073709551615):I6 .u64 x y=x*y:=Bi h
theorem Ak2{x y:Int}(h:0≤x+y∧x+y≤255):Av .u8 x y=x+y:=Pm h
theorem Aep{x y:Int}:Zo x y=min x y:=by unfold Zo; omega
theorem AzT{x y:Int}:Aun x y=max x y:=by unfold Aun; omega
theorem Je{α:Type}(l:List α)(i:Int)(x:α):(Cd l i x).length=l.length:=by simp [Cd]
theorem Ahg{α:Type}(n:Int)(x:α):(Cl n x).length=n.toNat:=by simp [Cl]
theorem Ahh{α:Type}(l:List α)(n:Int):(Ce l n).length=min n.toNat l.length:=by simp [Ce]
theorem Ahi{α:Type}(l:List α)(n:Int):(Cu l n).length=l.length - n.toNat:=by simp [Cu]
theorem Da{α:Type}(d:α)(l:List α)(i:Nat):An d l (i:Int)=l.getD i d:=by simp [An]
def nb(x:Int)(k:Nat):Bool:=x.toNat.testBit k
theorem Al9{x y:Int}(hx:0≤x)(hy:0≤y)(h:∀ k,nb x k=nb y k):x=y:=by
  have:x.toNat=y.toNat:=Nat.eq_of_testBit_eq h
  omega
theorem Wb(k:Nat):nb 0 k=false:=by simp [nb]
theorem Tx(n k:Nat):nb (n:Int) k=n.testBit k:=by simp [nb]
theorem Aeq{x:Int}{w:Nat}(hx:0≤x)(h:x < 2 ^ w){k:Nat}(hk:w≤k):nb x k=false:=by
  unfold nb
  apply Nat.testBit_lt_two_pow
  have h1:x.toNat < 2 ^ w:=by
    have:((x.toNat:Nat):Int) < ((2 ^ w:Nat):Int):=by push_cast; omega
    exact Int.ofNat_lt.1 this
  exact Nat.lt_of_lt_of_le h1 (Nat.pow_le_pow_right (by omega) hk)
theorem Aer{x:Int}{w:Nat}(hx:0≤x)(h:∀ k,w≤k→nb x k=false):x < 2 ^ w:=by
  have h1:x.toNat < 2 ^ w:=by
    apply Nat.lt_pow_two_of_testBit
    intro i hi
    exact h i hi
  have:((x.toNat:Nat):Int) < ((2 ^ w:Nat):Int):=Int.ofNat_lt.2 h1
  push_cast at this
  omega
theorem Vq{k:Nat}{x:Int}(hx:0≤x):(BitVec.ofInt k x).toNat=x.toNat % 2 ^ k:=by
  obtain ⟨n,rfl⟩:=Int.eq_ofNat_of_zero_le hx
  simp [BitVec.toNat_ofInt]
theorem Aqy{x y:Int}(hx:0≤x∧x≤255)(hy:0≤y∧y≤255):orI .u8 x y=((x.toNat ||| y.toNat:Nat):Int):=by
  unfold orI
  have h1:x.toNat < 2 ^ 8:=by omega
  have h2:y.toNat < 2 ^ 8:=by omega
  have h3:=Nat.or_lt_two_pow h1 h2
  show IntKind.u8.wrap (((BitVec.ofInt 8 x ||| BitVec.ofInt 8 y).toNat:Nat):Int)=_
  rw [BitVec.toNat_or,Vq hx.1,Vq hy.1,Nat.mod_eq_of_lt h1,Nat.mod_eq_of_lt h2,Pm (by omega)]
theorem Pp{x y:Int}(hx:0≤x∧x≤18446744073709551615)(hy:0≤y∧y≤18446744073709551615):orI .u64 x y=((x.toNat ||| y.toNat:Nat):Int):=by
  unfold orI
  have h1:x.toNat < 2 ^ 64:=by omega
  have h2:y.toNat < 2 ^ 64:=by omega
  have h3:=Nat.or_lt_two_pow h1 h2
  show IntKind.u64.wrap (((BitVec.ofInt 64 x ||| BitVec.ofInt 64 y).toNat:Nat):Int)=_
  rw [BitVec.toNat_or,Vq hx.1,Vq hy.1,Nat.mod_eq_of_lt h1,Nat.mod_eq_of_lt h2,Bi (by omega)]
theorem Aes{x y:Int}(hx:0≤x∧x≤18446744073709551615)(hy:0≤y∧y≤18446744073709551615):AkO .u64 x y=((x.toNat ^^^ y.toNat:Nat):Int):=by
  unfold AkO
  have h1:x.toNat < 2 ^ 64:=by omega
  have h2:y.toNat < 2 ^ 64:=by omega
  have h3:=Nat.xor_lt_two_pow h1 h2
  show IntKind.u64.wrap (((BitVec.ofInt 64 x ^^^ BitVec.ofInt 64 y).toNat:Nat):Int)=_
  rw [BitVec.toNat_xor,Vq hx.1,Vq hy.1,Nat.mod_eq_of_lt h1,Nat.mod_eq_of_lt h2,Bi (by omega)]
theorem Aa6{x y:Int}(hx:0≤x∧x≤18446744073709551615)(hy:0≤y∧y≤18446744073709551615):Wp .u64 x y=((x.toNat &&& y.toNat:Nat):Int):=by
  unfold Wp
  have h1:x.toNat < 2 ^ 64:=by omega
  have h2:y.toNat < 2 ^ 64:=by omega
  have h3:x.toNat &&& y.toNat < 2 ^ 64:=Nat.and_lt_two_pow _ h2
  show IntKind.u64.wrap (((BitVec.ofInt 64 x &&& BitVec.ofInt 64 y).toNat:Nat):Int)=_
  rw [BitVec.toNat_and,Vq hx.1,Vq hy.1,Nat.mod_eq_of_lt h1,Nat.mod_eq_of_lt h2,Bi (by omega)]
theorem Aqz{x y:Int}(hx:0≤x∧x≤255)(hy:0≤y∧y≤255):Wp .u8 x y=((x.toNat &&& y.toNat:Nat):Int):=by
  unfold Wp
  have h1:x.toNat < 2 ^ 8:=by omega
  have h2:y.toNat < 2 ^ 8:=by omega
  have h3:x.toNat &&& y.toNat < 2 ^ 8:=Nat.and_lt_two_pow _ h2
  show IntKind.u8.wrap (((BitVec.ofInt 8 x &&& BitVec.ofInt 8 y).toNat:Nat):Int)=_
  rw [BitVec.toNat_and,Vq hx.1,Vq hy.1,Nat.mod_eq_of_lt h1,Nat.mod_eq_of_lt h2,Pm (by omega)]
theorem AqA{x y:Int}(hx:0≤x∧x≤255)(hy:0≤y∧y≤255):0≤orI .u8 x y∧orI .u8 x y≤255:=by
  rw [Aqy hx hy]
  have h3:=Nat.or_lt_two_pow (n:=8) (show x.toNat < 2 ^ 8 by omega) (show y.toNat < 2 ^ 8 by omega)
  omega
theorem AcZ{x y:Int}(hx:0≤x∧x≤18446744073709551615)(hy:0≤y∧y≤18446744073709551615):0≤orI .u64 x y∧orI .u64 x y≤18446744073709551615:=by
  rw [Pp hx hy]
  have h3:=Nat.or_lt_two_pow (n:=64) (show x.toNat < 2 ^ 64 by omega) (show y.toNat < 2 ^ 64 by omega)
  omega
theorem AuQ{x y:Int}(hx:0≤x∧x≤255)(hy:0≤y∧y≤255)(k:Nat):nb (orI .u8 x y) k=(nb x k || nb y k):=by
  rw [Aqy hx hy,Tx,Nat.testBit_or]; rfl
theorem Ahj{x y:Int}(hx:0≤x∧x≤18446744073709551615)(hy:0≤y∧y≤18446744073709551615)(k:Nat):nb (orI .u64 x y) k=(nb x k || nb y k):=by
  rw [Pp hx hy,Tx,Nat.testBit_or]; rfl
theorem Ad0{x y:Int}(hx:0≤x∧x≤18446744073709551615)(hy:0≤y∧y≤18446744073709551615)(k:Nat):nb (Wp .u64 x y) k=(nb x k && nb y k):=by
  rw [Aa6 hx hy,Tx,Nat.testBit_and]; rfl
theorem AqB{x y:Int}(hx:0≤x∧x≤255)(hy:0≤y∧y≤255)(k:Nat):nb (Wp .u8 x y) k=(nb x k && nb y k):=by
  rw [Aqz hx hy,Tx,Nat.testBit_and]; rfl
theorem Ab6{x y:Int}(hx:0≤x∧x≤18446744073709551615)(hy:0≤y∧y≤18446744073709551615):0≤Wp .u64 x y∧Wp .u64 x y≤y:=by
  rw [Aa6 hx hy]
  have:=Nat.and_le_right (n:=x.toNat) (m:=y.toNat)
  omega
theorem Ap1{x y:Int}(hx:0≤x∧x≤255)(hy:0≤y∧y≤255):0≤Wp .u8 x y∧Wp .u8 x y≤y:=by
  rw [Aqz hx hy]
  have:=Nat.and_le_right (n:=x.toNat) (m:=y.toNat)
  omega
theorem Kn{x s:Int}(hx:0≤x)(hs:0≤s):Hv .u64 x s=((x.toNat*2 ^ min s.toNat 64 % 2 ^ 64:Nat):Int):=by
  obtain ⟨n,rfl⟩:=Int.eq_ofNat_of_zero_le hx
  unfold Hv
  rw [Bu]
  simp only [IntKind.bits,Int.toNat_natCast]
  rw [Int.natCast_emod,Int.natCast_mul,Int.natCast_pow]
  rfl
theorem AqC{x s:Int}(hx:0≤x)(hs:0≤s):Hv .u8 x s=((x.toNat*2 ^ min s.toNat 8 % 2 ^ 8:Nat):Int):=by
  obtain ⟨n,rfl⟩:=Int.eq_ofNat_of_zero_le hx
  unfold Hv
  rw [Sp]
  simp only [IntKind.bits,Int.toNat_natCast]
  rw [Int.natCast_emod,Int.natCast_mul,Int.natCast_pow]
  rfl
theorem Ad1{x s:Int}(hx:0≤x)(hs:0≤s)(k:Nat):nb (Hv .u64 x s) k=(decide (k < 64) && decide (s.toNat≤k) && nb x (k - s.toNat)):=by
  rw [Kn hx hs,Tx,Nat.testBit_mod_two_pow,Nat.testBit_mul_two_pow]
  by_cases hk:k < 64
  · by_cases h2:s.toNat≤k
    · rw [Nat.min_eq_left (by omega)]; simp [hk,h2,nb]
    · by_cases h3:s.toNat≤64
      · rw [Nat.min_eq_left h3]; simp [hk,h2]
      · rw [Nat.min_eq_right (by omega)]; simp [hk,h2]; omega
  · simp [hk]
theorem AqD{x s:Int}(hx:0≤x)(hs:0≤s)(k:Nat):nb (Hv .u8 x s) k=(decide (k < 8) && decide (s.toNat≤k) && nb x (k - s.toNat)):=by
  rw [AqC hx hs,Tx,Nat.testBit_mod_two_pow,Nat.testBit_mul_two_pow]
  by_cases hk:k < 8
  · by_cases h2:s.toNat≤k
    · rw [Nat.min_eq_left (by omega)]; simp [hk,h2,nb]
    · by_cases h3:s.toNat≤8
      · rw [Nat.min_eq_left h3]; simp [hk,h2]
      · rw [Nat.min_eq_right (by omega)]; simp [hk,h2]; omega
  · simp [hk]
theorem Ab7{x s:Int}(hx:0≤x)(hs:0≤s):0≤Hv .u64 x s∧Hv .u64 x s≤18446744073709551615:=by
  rw [Kn hx hs]
  have:=Nat.mod_lt (x.toNat*2 ^ min s.toNat 64) (show 0 < 2 ^ 64 by decide)
  omega
theorem Ap2{x s:Int}(hx:0≤x)(hs:0≤s):0≤Hv .u8 x s∧Hv .u8 x s≤255:=by
  rw [AqC hx hs]
  have:=Nat.mod_lt (x.toNat*2 ^ min s.toNat 8) (show 0 < 2 ^ 8 by decide)
  omega
theorem I1{kd:IntKind}{x s:Int}(hx:0≤x):Fg kd x s=((x.toNat / 2 ^ min s.toNat kd.bits:Nat):Int):=by
  obtain ⟨n,rfl⟩:=Int.eq_ofNat_of_zero_le hx
  unfold Fg
  have h:(0:Int)≤2 ^ min s.toNat kd.bits:=Int.le_of_lt (Int.pow_pos (by decide))
  rw [Int.fdiv_eq_ediv_of_nonneg _ h,Int.toNat_natCast,Int.natCast_ediv,Int.natCast_pow]
  rfl
theorem Ad2{kd:IntKind}{x s:Int}(hx:0≤x)(k:Nat):nb (Fg kd x s) k=nb x (min s.toNat kd.bits+k):=by
  rw [I1 hx,Tx,Nat.testBit_div_two_pow]; rw [Nat.add_comm]; rfl
theorem Tz{kd:IntKind}{x s:Int}(hx:0≤x):0≤Fg kd x s∧Fg kd x s≤x:=by
  rw [I1 hx]
  have:=Nat.div_le_self x.toNat (2 ^ min s.toNat kd.bits)
  generalize x.toNat / 2 ^ min s.toNat kd.bits=q at *
  omega
theorem Ap3{x:Int}(hx:0≤x)(k:Nat):nb (IntKind.u8.wrap x) k=(decide (k < 8) && nb x k):=by
  obtain ⟨n,rfl⟩:=Int.eq_ofNat_of_zero_le hx
  rw [Sp,show((n:Int) % 256)=((n % 2 ^ 8:Nat):Int) by rw [Int.natCast_emod]; rfl,Tx,Nat.testBit_mod_two_pow]; simp [nb]
theorem Gv(x:Int):0≤IntKind.u8.wrap x∧IntKind.u8.wrap x≤255:=by rw [Sp]; omega
theorem T0(x:Int):0≤IntKind.u64.wrap x∧IntKind.u64.wrap x≤18446744073709551615:=by rw [Bu]; omega
theorem AqE{n:Int}(hn:0≤n∧n≤63):Bj .u64 (Hv .u64 1 n) 1=((2 ^ n.toNat - 1:Nat):Int):=by
  have h1:n.toNat≤63:=by omega
  have h2:2 ^ n.toNat≤2 ^ 63:=Nat.pow_le_pow_right (by omega) h1
  have h3:0 < 2 ^ n.toNat:=Nat.pow_pos (by omega)
  rw [Kn (by omega) hn.1,Nat.min_eq_left (by omega),show(1:Int).toNat=1 from rfl,Nat.one_mul,Nat.mod_eq_of_lt (by omega),Qb (by omega)]
  omega
theorem AzU{n:Int}(hn:0≤n∧n≤63)(k:Nat):nb (Bj .u64 (Hv .u64 1 n) 1) k=decide (k < n.toNat):=by
  rw [AqE hn,Tx,Nat.testBit_two_pow_sub_one]
theorem AuS{n:Int}(hn:0≤n∧n≤63):0≤Bj .u64 (Hv .u64 1 n) 1∧Bj .u64 (Hv .u64 1 n) 1≤18446744073709551615:=by
  have h1:n.toNat≤63:=by omega
  have h2:2 ^ n.toNat≤2 ^ 63:=Nat.pow_le_pow_right (by omega) h1
  rw [AqE hn]
  omega
def Bt(l:List Int):Prop:=∀ x∈l,0≤x∧x≤255
def Wd(l:List Int):Prop:=∀ x∈l,0≤x∧x≤18446744073709551615
theorem Jv{α:Type}{P:α→Prop}{l:List α}{d:α}(h:∀ x∈l,P x)(hd:P d)(i:Nat):P (l.getD i d):=by
  rw [List.getD_eq_getElem?_getD]
  cases hx:l[i]? with
  | none=>exact hd
  | some x=>exact h x (List.mem_of_getElem? hx)
theorem AqF{α:Type}{P:α→Prop}{l:List α}{x:α}(h:∀ x∈l,P x)(hx:P x)(i:Nat):∀ y∈l.set i x,P y:=by
  intro y hy
  rcases List.mem_or_eq_of_mem_set hy with h1 | h1
  · exact h y h1
  · rw [h1]; exact hx
theorem Bt.get{l:List Int}(h:Bt l)(i:Int):0≤An 0 l i∧An 0 l i≤255:=Jv (P:=fun x=>0≤x∧x≤255) h (by omega) _
theorem Wd.get{l:List Int}(h:Wd l)(i:Int):0≤An 0 l i∧An 0 l i≤18446744073709551615:=Jv (P:=fun x=>0≤x∧x≤18446744073709551615) h (by omega) _
theorem Bt.set{l:List Int}(h:Bt l)(i:Int){x:Int}(hx:0≤x∧x≤255):Bt (Cd l i x):=AqF (P:=fun x=>0≤x∧x≤255) h hx _
theorem Wd.set{l:List Int}(h:Wd l)(i:Int){x:Int}(hx:0≤x∧x≤18446744073709551615):Wd (Cd l i x):=AqF (P:=fun x=>0≤x∧x≤18446744073709551615) h hx _
theorem Bt.repl(n:Int):Bt (Cl n 0):=fun x hx=>by simp [Cl] at hx; omega
theorem Wd.repl(n:Int):Wd (Cl n 0):=fun x hx=>by simp [Cl] at hx; omega
theorem Bt.nil:Bt []:=fun x hx=>by cases hx
theorem Wd.nil:Wd []:=fun x hx=>by cases hx
theorem Bt.append{l m:List Int}(h:Bt l)(k:Bt m):Bt (l++m):=fun x hx=>(List.mem_append.1 hx).elim (h x) (k x)
theorem Wd.append{l m:List Int}(h:Wd l)(k:Wd m):Wd (l++m):=fun x hx=>(List.mem_append.1 hx).elim (h x) (k x)
theorem Bt.one{x:Int}(h:0≤x∧x≤255):Bt [x]:=fun y hy=>by simp at hy; subst hy; exact h
theorem Wd.one{x:Int}(h:0≤x∧x≤18446744073709551615):Wd [x]:=fun y hy=>by simp at hy; subst hy; exact h
theorem Aet{α:Type}(l:List α)(i j:Nat)(x d:α)(h:i < l.length):(l.set i x).getD j d=if j=i then x else l.getD j d:=by
  simp only [List.getD_eq_getElem?_getD,List.getElem?_set]
  by_cases e:i=j
  · subst e; simp [h]
  · rw [if_neg e,if_neg (fun x=>e x.symm)]
def Lc(b:List Int)(p:Nat):Bool:=nb (b.getD (p / 8) 0) (p % 8)
theorem Ahk{a b:List Int}(ha:Bt a)(hb:Bt b)(hl:a.length=b.length)(h:∀ p,p < 8*a.length→Lc a p=Lc b p):a=b:=by
  apply List.ext_getElem hl
  intro i h1 h2
  have ra:=ha a[i] (List.getElem_mem h1)
  have rb:=hb b[i] (List.getElem_mem h2)
  apply Al9 ra.1 rb.1
  intro k
  by_cases hk:k < 8
  · have:=h (8*i+k) (by omega)
    unfold Lc at this
    rw [show(8*i+k) / 8=i by omega,show(8*i+k) % 8=k by omega] at this
    simpa [List.getD_eq_getElem?_getD,h1,h2] using this
  · rw [Aeq (w:=8) ra.1 (by omega) (by omega),Aeq (w:=8) rb.1 (by omega) (by omega)]
theorem Ab8{b:List Int}{p:Nat}(h:8*b.length≤p):Lc b p=false:=by
  unfold Lc
  rw [List.getD_eq_getElem?_getD,List.getElem?_eq_none (by omega)]
  exact Wb _
theorem Ap4(n:Int)(p:Nat):Lc (Cl n 0) p=false:=by
  unfold Lc
  have:(Cl n (0:Int)).getD (p / 8) 0=0:=by
    simp only [Cl,List.getD_eq_getElem?_getD,List.getElem?_replicate]
    split <;> rfl
  rw [this]; exact Wb _
theorem bs:(∀ {α:Type} (a b:α),(bif true then a else b)=a)∧(∀ {α:Type} (a b:α),(bif false then a else b)=b)∧(∀ {α:Type} (b:Bool) (x y:α),(bif b then x else y)=if b=true then x else y)∧(∀ {b:Bool},(!b)=true↔¬b=true) ∧
    (∀ {x y:Int},ltI x y=true↔x < y)∧(∀ {x y:Int},leI x y=true↔x≤y)∧(∀ {x y:Int},eqI x y=true↔x=y)∧(∀ {i:Int} {n:Nat},inI i n=true↔0≤i∧i < (n:Int))∧(∀ {lo hi:Int} {n:Nat},Km lo hi n=true↔0≤lo∧lo≤hi∧hi≤(n:Int)) ∧
    (∀ {n b:Nat},Bf n b=true↔n*b≤140737488355328∧n≤281474976710656)∧(∀ {n c:Int} {b:Nat},I7 n c b=true↔0≤n∧n≤c∧(b:Int)*c≤140737488355328∧c≤281474976710656)∧(∀ {α:Type} (l:List α),Az l=(l.length:Int)) ∧
    (∀ {x y:Int},-9223372036854775808≤x+y∧x+y≤9223372036854775807→Av .i64 x y=x+y)∧(∀ {x y:Int},-9223372036854775808≤x - y∧x - y≤9223372036854775807→Bj .i64 x y=x - y)∧(∀ {x y:Int},-9223372036854775808≤x*y∧x*y≤9223372036854775807→I6 .i64 x y=x*y) ∧
    (∀ {x y:Int},0≤x→x≤9223372036854775807→0 < y→Ht .i64 x y=x / y)∧(∀ {x y:Int},0≤x→I9 x y=x % y)∧(∀ {x y:Int},Zo x y=min x y)∧(∀ {x y:Int},Aun x y=max x y) ∧
    (∀ {α:Type} (l:List α) (i:Int) (x:α),(Cd l i x).length=l.length)∧(∀ {α:Type} (n:Int) (x:α),(Cl n x).length=n.toNat)∧(∀ {α:Type} (l:List α) (n:Int),(Ce l n).length=min n.toNat l.length)∧(∀ {α:Type} (l:List α) (n:Int),(Cu l n).length=l.length - n.toNat) ∧
    (∀ {α β:Type} (a:α) (f:α→Option β),(some a).bind f=f a)∧((false=true)=False)∧(∀ {α:Type} {x:Decidable False} (t e:α),(@ite α False x t e)=e)∧(∀ {α:Type} {x:Decidable True} (t e:α),(@ite α True x t e)=t)∧((¬False)=True)∧((¬True)=False) :=
  ⟨fun _ _=>rfl,fun _ _=>rfl,A8Q,W7,Aj,Bw,As,Bo,Ab3,Bq,K6,fun _=>rfl,Bc,Ou,Uu,Uw,Tw,Aep,AzT,Je,Ahg,Ahh,Ahi,fun _ _=>rfl,Bool.false_eq_true,fun _ _=>if_false ..,fun _ _=>if_true ..,not_false_eq_true,not_true_eq_false⟩
end Go.Eng
