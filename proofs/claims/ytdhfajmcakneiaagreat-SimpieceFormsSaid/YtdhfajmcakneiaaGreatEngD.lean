/- The engine, part 33: functions of Go's library that are met by hand. -/
import Derived.Test.YtdhfajmcakneiaaGreatEngC
import Derived.Laws.Externs
import Derived.Lib.BitFns
import GoSem.Extern.MathBitsCarry
import Derived.StillTail
set_option linter.unusedVariables false
set_option linter.unusedSimpArgs false
namespace Go.Eng
open Go.RowKit
section
variable {P:Program} {cx:Cx} {fr:Frm} {M M':Mem} {ρ:Nat→Place} {s s':St} {a:Act} {w:World}
theorem Good.env0{sv sv':SV}(g:Good fr M ρ { env:=[(0,sv)],heap:=[] } a w)(h:A0j M ρ (fun _=>.gone) (fr.val a 0) sv'):Good fr M ρ { env:=[(0,sv')],heap:=[] } a w :=
  ⟨fun t=>by
    cases t with
    | zero=>exact h
    | succ t=>exact trivial,
   g.size,g.defers,g.mem,g.old,g.objs,g.apart,g.since,g.keep⟩
abbrev A6b(e:Ty)(keeps:Bool)(fresh:Option (Nat×Nat))(rtys:List Ty):Sig:={ modes:=[.ro],sh:=[(0,.d (.slice e))],keeps:=keeps,fresh:=fresh,rtys:=rtys }
theorem A8o{f:FuncId}{fn:Func}{code:Code}{e:Ty}{keeps:Bool}{fresh:Option (Nat×Nat)}{rtys:List Ty}{model:List e.den×Unit→Option (B14 rtys)}{hs js:Nat→Option (Hint (B14 rtys))}
    (hf : P.funcs[f]? = some fn) (hb : fn.body = some code) (hname : (fn.name != "runtime.NumGoroutine") = true) (hcf : W6 P cx) (hcalls : ∀ f c, cx.call f = some c → A5D P f c) (hmix : P.follows .mixedOrders = true)
    (hn:cx.ntmps.2=fn.ntmps) (hsg:A9H (A6b e keeps fresh rtys) cx.ntmps=true) (ho:∀ fr:Frm,cx.ntmps=fr.n→HOk P fr hs js code)
    (hrun1:∀ a l,model (a::l,())=run cx hs js code (enc [(0,.d (.slice e))] (a::l,())) (D5Y cx (A6b e keeps fresh rtys) fn.results.toList))
    (hrun2:model ([],())=run cx hs js code { env:=[(0,.one .nilS)],heap:=[] } (D5Y cx (A6b e keeps fresh rtys) fn.results.toList))
    (hrun3:model ([],())=run cx hs js code { env:=[(0,.one (.ne e))],heap:=[] } (D5Y cx (A6b e keeps fresh rtys) fn.results.toList)) :
    CSound P f (C0 (A6b e keeps fresh rtys) model):=by
  refine ⟨fun ms K=>A4b (A6b e keeps fresh rtys) model ms K,?_,?_⟩
  · simp [hf,hb,hname]
  · intro ms outs hcm M w vs hs' hM hargs hnd hfree
    have hsg':=hsg
    simp only [A9H,Bool.and_eq_true] at hsg'
    obtain ⟨⟨hsig,_⟩,hle⟩:=hsg'
    obtain ⟨x,es,hx,hP,rfl,hlen⟩:=A9J hargs hsig hcm
    obtain ⟨r,hr,he⟩:=Option.bind_eq_some_iff.1 hx
    cases he
    have hn81:vs.length≤8192:=by rw [hlen]; simp
    have g0:=A9L hsg hP hlen hM hnd hfree
    have ht0:∀ i v,vs[i]?=some v→(vs.toArray++Array.replicate (cx.ntmps.2 - vs.toArray.size) undef).getD i undef=v:=by
      intro i v hv
      have hlt:=(List.getElem?_eq_some_iff.1 hv).1
      simp only [Array.getD_eq_getD_getElem?]
      rw [Array.getElem?_append_left (by simpa using hlt)]
      simp [hv]
    obtain ⟨s0,hs0,g1⟩:∃ s0,run cx hs js code s0 (D5Y cx (A6b e keeps fresh rtys) fn.results.toList)=some r ∧
        Good { n:=cx.ntmps,pv:=fun t=>(vs.toArray++Array.replicate (cx.ntmps.2 - vs.toArray.size) undef).getD t undef,M0:=M,w0:=w,bor:=fun b=>b∈G7 (es.map (·.2)),gv:=fun t=>(vs[t - 8192]?).getD undef } M (fun i=>A0h Place.no (es.map fun e=>(e.1,e.2.1)) i) s0
          { tmps:=vs.toArray++Array.replicate (cx.ntmps.2 - vs.toArray.size) undef,defers:=[] } w:=by
      obtain ⟨l,u⟩:=x
      have henc:∀ y,C7U (A6b e keeps fresh rtys) cx.ntmps.1 y=enc [(0,.d (.slice e))] y:=fun y=>rfl
      rw [henc] at g0
      cases l with
      | cons a l=>exact ⟨_,by rw [← hrun1]; exact hr,g0⟩
      | nil =>
        obtain ⟨v,vs',rfl,hp,hvs,hes⟩:=hP
        obtain ⟨cs,⟨v2,hcs,ao,cap,hv2,hc,hno,_⟩,hv⟩:=hp
        have hv3:v=.slice ao 0 cap:=by rw [hv,hcs,hv2]; simp [E1,Ty.isAgg]
        have h0:=ht0 0 v rfl
        cases ao with
        | none =>
          have:cap=0:=hno rfl
          subst this
          exact ⟨_,by rw [← hrun2]; exact hr,g0.env0 (sv':=.one .nilS) (by rw [Frm.val_lt (by omega),h0]; exact hv3)⟩
        | some ad=>exact ⟨_,by rw [← hrun3]; exact hr,g0.env0 (sv':=.one (.ne e)) (by rw [Frm.val_lt (by omega),h0]; exact ⟨ad,cap,hv3⟩)⟩
    refine calls_of_wp hf hb ?_
    rw [← hn]
    refine A49 hcf hcalls rfl hmix code _ _ (ho _ rfl) hs0 M _ _ w _ g1 ?_
    intro ex M' ρ' s' a' w' g' hk
    cases ex with
    | exit i=>cases hk
    | normal=>exact ⟨g'.defers,A5F hcf hsg hP hfree ht0 hn81 rfl g' hk⟩
    | ret=>exact ⟨g'.defers,A5F hcf hsg hP hfree ht0 hn81 rfl g' hk⟩
end
end Go.Eng
namespace Go.Eng
open Go.RowKit
theorem A7X{M:Mem}{w:World}:∀ {ms:List Mode} {vs:List Value} {mvs:List MV} {hs:List (Place×MObj)},A46 ms=true→ArgsOk M w ms vs mvs hs→All2 (A0g M) vs mvs∧hs=[]
  | [],_,_,_,_,.nil=>⟨.nil,rfl⟩
  | .ro::ms,_,_,_,h,.ro hp hb=>⟨.cons hp (A7X (ms:=ms) h hb).1,(A7X (ms:=ms) h hb).2⟩
theorem C3Z{M:Mem}{w:World}:∀ {ms:List Mode} (outs:List MV),A46 ms=true→BackOk M w ms [] outs outs
  | [],_,_=>.nil
  | .ro::ms,outs,h=>.ro (C3Z (ms:=ms) outs h)
theorem B5u{M:Mem}{w:World}{pl:Place}:∀ {vs:List Value} {rs:List MV} {k:Nat},All2 (A0g M) vs rs→ResOk M w none pl k vs rs
  | [],_,_,.nil=>.nil
  | _::_,_,_,.cons h hl=>.plain (by simp) h (B5u hl)
theorem B80 {P : Program} {f : FuncId} {sg : Sig} {model : A4.den sg.sh → Option (B14 sg.rtys)} (hb : (do let fn ← P.funcs[f]?; pure (fn.body.isSome && fn.name != "runtime.NumGoroutine")) = some true) (hro : A46 sg.modes = true) (hfr : sg.fresh = none)
    (h:∀ M w vs ms r,All2 (A0g M) vs ms→T2 sg.sh ms model=some r→∃ us,All2 (A0g M) us (A2N sg.rtys r)∧Calls P f vs.toArray w fun e w'=>e=.returned (A6X us)∧w'=w):CSound P f (C0 sg model):=by
  refine ⟨fun ms K=>A4b sg model ms K,hb,?_⟩
  intro ms outs hcm M w vs hs hM hargs _ _
  obtain ⟨hpl,rfl⟩:=A7X hro hargs
  have hcm':(T2 sg.sh ms model).bind (fun r=>some (A2N sg.rtys r))=some outs:=by
    rw [A3p]; exact hcm
  obtain ⟨r,hr,he⟩:=Option.bind_eq_some_iff.1 hcm'
  cases he
  obtain ⟨us,hu,hc⟩:=h M w vs ms r hpl hr
  refine hc.mono ?_
  rintro e w' ⟨rfl,rfl⟩
  refine ⟨M,_,us,.no,rfl,.refl M,hM,.refl _ _,fun _ _ _=>rfl,C3Z _ hro,?_,fun b hb=>by cases hb⟩
  show ResOk M _ sg.fresh _ _ _ _
  rw [hfr]
  exact B5u hu
theorem A1E{M:Mem}{v:Value}{k:IntKind}{x:Int}(h:A0g M v (.d (.int k) x)):v=.int k x:=by
  obtain ⟨cs,hf,he⟩:=h
  have hf':cs=[.int k x]:=hf
  subst hf'
  simpa [E1,Ty.isAgg] using he
theorem A76{R:Type}{k:IntKind}{l:A4}{n:Nat}{ms:List MV}{K:A4.den ((n,.d (.int k))::l)→Option R}{r:R}(h:T2 ((n,.d (.int k))::l) ms K=some r) :
    ∃ (x:Int) (ms':List MV),ms=.d (.int k) x::ms'∧T2 l ms' (fun y=>K (x,y))=some r:=by
  cases ms with
  | nil=>cases h
  | cons m ms =>
    simp only [T2] at h
    cases m <;> simp only [A8E] at h <;> try (cases h; done)
    · rename_i t x
      unfold A6Q at h
      split at h
      · rename_i ht
        subst ht
        exact ⟨x,ms,rfl,h⟩
      · cases h
theorem B2H{R:Type}{ms:List MV}{K:A4.den []→Option R}{r:R}(h:T2 [] ms K=some r):ms=[]∧K ()=some r:=by
  cases ms with
  | nil=>exact ⟨rfl,h⟩
  | cons m ms=>cases h
def C40:Sig:={ modes:=[.ro],sh:=[(0,.d (.int .u64))],keeps:=true,rtys:=[.int .i64] }
def N7(F:Nat)(x:Int):Option (Int×Unit):=bif leI 0 x && leI x 18446744073709551615 then some ((Lib.bitLen x.toNat:Int),()) else none
theorem B81 {P : Program} {f : FuncId} (F : Nat) (hb : (do let fn ← P.funcs[f]?; pure (fn.body.isSome && fn.name != "runtime.NumGoroutine")) = some true)
    (h:∀ (x:Int) (w:World),0≤x→x≤18446744073709551615→Calls P f #[.int .u64 x] w fun e w'=>e=.returned (.int .i64 (Lib.bitLen x.toNat))∧w'=w):CSound P f (C0 C40 fun x=>N7 F x.1):=by
  refine B80 hb rfl rfl ?_
  intro M w vs ms r hpl ht
  obtain ⟨x,ms',rfl,ht⟩:=A76 ht
  obtain ⟨rfl,ht⟩:=B2H ht
  cases hpl with
  | cons hp hn =>
    cases hn
    have hv:=A1E hp
    subst hv
    replace ht:N7 F x=some r:=ht
    unfold N7 at ht
    cases hc:(leI 0 x && leI x 18446744073709551615) <;> rw [hc] at ht <;> simp only [cond_true,cond_false,reduceCtorEq] at ht
    simp only [Bool.and_eq_true,K4] at hc
    have ht:=Option.some.inj ht
    subst ht
    exact ⟨[.int .i64 (Lib.bitLen x.toNat)],.cons (A9O _ _ _) .nil,h x w hc.1 hc.2⟩
def A56:Sig:={ modes:=[.ro,.ro,.ro],sh:=[(0,.d (.int .u64)),(1,.d (.int .u64)),(2,.d (.int .u64))],keeps:=true,rtys:=[.int .u64,.int .u64] }
def U1(F:Nat)(x y c:Int):Option (Int×Int×Unit) :=
  bif leI 0 x && leI 0 y && leI 0 c && leI c 1 then some ((x+y+c) % 18446744073709551616,(x+y+c) / 18446744073709551616,()) else none
def A0C(F:Nat)(x y b:Int):Option (Int×Int×Unit) :=
  bif leI 0 x && leI 0 y && leI y 18446744073709551615 && leI 0 b && leI b 1 then some ((x - y - b) % 18446744073709551616,if x < y+b then 1 else 0,()) else none
theorem B5v{P:Program}{f:FuncId}{g:Int→Int→Int→Option (Int×Int×Unit)}(h:∀ x y c r (w:World),g x y c=some r→(callFunc f #[.int .u64 x,.int .u64 y,.int .u64 c]).run P w=.ok (.value (.tuple #[.int .u64 r.1,.int .u64 r.2.1])) w) :
    CExt P f (C0 A56 fun x=>g x.1 x.2.1 x.2.2.1):=by
  refine ⟨fun ms K=>A4b A56 _ ms K,rfl,?_⟩
  intro ms outs hcm M w vs hpl
  have hcm':(T2 A56.sh ms fun x=>g x.1 x.2.1 x.2.2.1).bind (fun r=>some (A2N A56.rtys r))=some outs:=by
    rw [A3p]; exact hcm
  obtain ⟨r,hr,he⟩:=Option.bind_eq_some_iff.1 hcm'
  cases he
  obtain ⟨x,m1,hm1,ht1⟩:=A76 hr
  obtain ⟨y,m2,hm2,ht2⟩:=A76 ht1
  obtain ⟨c,m3,hm3,ht3⟩:=A76 ht2
  obtain ⟨hm4,ht⟩:=B2H ht3
  subst hm4 hm3 hm2 hm1
  cases hpl with
  | cons h1 hpl =>
    cases hpl with
    | cons h2 hpl =>
      cases hpl with
      | cons h3 hpl =>
        cases hpl
        have e1:=A1E h1
        have e2:=A1E h2
        have e3:=A1E h3
        subst e1; subst e2; subst e3
        exact ⟨[.int .u64 r.1,.int .u64 r.2.1],h x y c r w ht,.cons (A9O _ _ _) (.cons (A9O _ _ _) .nil)⟩
theorem B2I{P:Program}(x y c:Nat)(hc:c≤1)(w:World){e:Array Value→Sem Value}(he:Extern.MathBitsCarry.rows[0]?.map (·.2)=some e) :
    (e #[.int .u64 x,.int .u64 y,.int .u64 c]).run P w=.ok (.tuple #[.int .u64 (((x+y+c) % 18446744073709551616:Nat):Int),.int .u64 (((x+y+c) / 18446744073709551616:Nat):Int)]) w:=by
  cases he
  have:c=0∨c=1:=by omega
  rcases this with rfl | rfl <;> rfl
theorem B2J{P:Program}(x y b:Nat)(hb:b≤1)(w:World){e:Array Value→Sem Value}(he:Extern.MathBitsCarry.rows[1]?.map (·.2)=some e) :
    (e #[.int .u64 x,.int .u64 y,.int .u64 b]).run P w=.ok (.tuple #[.int .u64 (((x+18446744073709551616 - y - b) % 18446744073709551616:Nat):Int),.int .u64 ((if x < y+b then 1 else 0:Nat):Int)]) w:=by
  cases he
  have:b=0∨b=1:=by omega
  rcases this with rfl | rfl <;> rfl
theorem C41 {P : Program} {f : FuncId} {fn : Func} (F : Nat) (hf : P.funcs[f]? = some fn) (hname : (fn.name == "runtime.NumGoroutine") = false) (hb : fn.body.isNone = true) (hn : Extern.findNext fn = none)
    (he0:Extern.find fn=Extern.MathBitsCarry.rows[0]?.map (·.2)):CExt P f (C0 A56 fun x=>U1 F x.1 x.2.1 x.2.2.1):=by
  obtain ⟨e,hr⟩:∃ e,Extern.MathBitsCarry.rows[0]?.map (·.2)=some e:=⟨_,rfl⟩
  have he:Extern.find fn=some e:=he0.trans hr
  refine B5v fun x y c r w hm=>?_
  unfold U1 at hm
  cases hc:(leI 0 x && leI 0 y && leI 0 c && leI c 1) <;> rw [hc] at hm <;> simp only [cond_true,cond_false,reduceCtorEq,Option.some.injEq] at hm
  simp only [Bool.and_eq_true,K4] at hc
  obtain ⟨⟨⟨h1,h2⟩,h3⟩,h4⟩:=hc
  subst hm
  obtain ⟨x,rfl⟩:=Int.eq_ofNat_of_zero_le h1
  obtain ⟨y,rfl⟩:=Int.eq_ofNat_of_zero_le h2
  obtain ⟨c,rfl⟩:=Int.eq_ofNat_of_zero_le h3
  rw [run_callFunc_extern hf hname hb hn he,B2I x y c (by omega) w hr]
  simp only [Result.andThen]
  congr 5 <;> omega
theorem C42 {P : Program} {f : FuncId} {fn : Func} (F : Nat) (hf : P.funcs[f]? = some fn) (hname : (fn.name == "runtime.NumGoroutine") = false) (hb : fn.body.isNone = true) (hn : Extern.findNext fn = none)
    (he0:Extern.find fn=Extern.MathBitsCarry.rows[1]?.map (·.2)):CExt P f (C0 A56 fun x=>A0C F x.1 x.2.1 x.2.2.1):=by
  obtain ⟨e,hr⟩:∃ e,Extern.MathBitsCarry.rows[1]?.map (·.2)=some e:=⟨_,rfl⟩
  have he:Extern.find fn=some e:=he0.trans hr
  refine B5v fun x y c r w hm=>?_
  unfold A0C at hm
  cases hc:(leI 0 x && leI 0 y && leI y 18446744073709551615 && leI 0 c && leI c 1) <;> rw [hc] at hm <;> simp only [cond_true,cond_false,reduceCtorEq,Option.some.injEq] at hm
  simp only [Bool.and_eq_true,K4] at hc
  obtain ⟨⟨⟨⟨h1,h2⟩,h5⟩,h3⟩,h4⟩:=hc
  subst hm
  obtain ⟨x,rfl⟩:=Int.eq_ofNat_of_zero_le h1
  obtain ⟨y,rfl⟩:=Int.eq_ofNat_of_zero_le h2
  obtain ⟨c,rfl⟩:=Int.eq_ofNat_of_zero_le h3
  have e1:(((x+18446744073709551616 - y - c) % 18446744073709551616:Nat):Int)=((x:Int) - y - c) % 18446744073709551616:=by omega
  have e2:((if x < y+c then 1 else 0:Nat):Int)=if(x:Int) < y+c then 1 else 0:=by split <;> split <;> omega
  rw [run_callFunc_extern hf hname hb hn he,B2J x y c (by omega) w hr,e1,e2]
  rfl
theorem C7X{R:Type}{e t:Ty}{x:t.den}{i tid:Nat}{l:A4}{n:Nat}{ms:List MV}{K:A4.den ((n,.own i e tid)::l)→Option R}{r:R}(h:T2 ((n,.own i e tid)::l) (.d t x::ms) K=some r) :
    ∃ y:List e.den,(⟨t,x⟩:TD)=⟨.slice e,y⟩∧T2 l ms (fun ys=>K (y,ys))=some r:=by
  simp only [T2,A8E,A6Q] at h
  split at h
  · rename_i ht; subst ht; exact ⟨x,rfl,h⟩
  · cases h
def B1A(e:Ty)(tid:Nat):Sig:={ modes:=[.con tid,.ro],sh:=[(0,.own 0 e tid),(1,.d (.int .i64))],keeps:=false,fresh:=some (0,tid),rtys:=[.slice e] }
def A1e{α:Type}(bytes:Nat)(l:List α)(n:Int):Option (List α×Unit):=bif leI 0 n && D8 (List.length l+n.toNat) bytes then some (l,()) else none
theorem C2s {P : Program} {cx : Cx} {f : FuncId} {e : Ty} {tid : Nat} {r : TyRow} (hcf : W6 P cx) (hr : cx.row? tid = some r) (hre : r.ty = e) (hb : (do let fn ← P.funcs[f]?; pure (fn.body.isSome && fn.name != "runtime.NumGoroutine")) = some true) (hpos : 0 < e.sz)
    (hroom:∀ (base:Option Addr) (l c n:Nat) (w:World),l≤c→c≤9223372036854775807→n≤9223372036854775807→l+n≤c→Calls P f #[.slice base l c,.int .i64 n] w fun e w'=>e=.returned (.slice base l c)∧w'=w)
    (hgrow:∀ (i0:TypeInfo) (z:Value),P.info? tid=some i0→i0.zero=some z→0 < i0.size→∀ (base:Option Addr) (l c n:Nat) (cs:List Value) (w:World),l≤c→c < l+n→(l+n)*i0.bytes≤140737488355328→l+n≤4611686018427387904 →
      cs.length=c*i0.size→(base=none→c=0)→(∀ a,base=some a→∀ j v,cs[j]?=some v→w.cell? (a.add j)=some v) →
      Calls P f #[.slice base l c,.int .i64 n] w fun e w'=>e=.returned (.slice (some ⟨w.heap.size,0,none⟩) l (grownCap w (l+n) c tid)) ∧
        w'=w.drew.alloc (.cells (cs.toArray++Builtin.zeroCells z.cells (l+n - c)++Builtin.zeroCells z.cells (grownCap w (l+n) c tid - (l+n))) tid)) :
    CSound P f (C0 (B1A e tid) fun x=>A1e r.bytes x.1 x.2.1):=by
  refine ⟨fun ms K=>A4b _ _ ms K,hb,?_⟩
  intro ms outs hcm M w vs hs hM hargs hnd hfree
  cases hargs with
  | @con _ vs rs hs pl e' _ l ho ha =>
    cases ha with
    | @ro _ vs rs hs v m hp ha =>
      cases ha with
      | nil =>
        have hcm':(T2 (B1A e tid).sh [.d (.slice e') l,m] fun x=>A1e r.bytes x.1 x.2.1).bind (fun r=>some (A2N (B1A e tid).rtys r))=some outs:=by
          rw [A3p]; exact hcm
        obtain ⟨q,hq,ho2⟩:=Option.bind_eq_some_iff.1 hcm'
        cases ho2
        obtain ⟨l',hee,hq⟩:=C7X hq
        have he':e'=e:=by
          have:=congrArg Sigma.fst hee
          simpa using this
        subst he'
        have hl':l=l':=by simpa using hee
        subst hl'
        obtain ⟨n,m1,hm1,hq⟩:=A76 hq
        obtain ⟨hm2,hq⟩:=B2H hq
        subst hm2
        simp only [List.cons.injEq,and_true] at hm1
        subst hm1
        have hv:=A1E hp
        subst hv
        replace hq:A1e r.bytes l n=some q:=hq
        unfold A1e at hq
        cases hc:(leI 0 n && D8 (List.length l+n.toNat) r.bytes) <;> rw [hc] at hq <;> simp only [cond_true,cond_false,reduceCtorEq] at hq
        have hq:=Option.some.inj hq
        simp only [Bool.and_eq_true,K4,E5] at hc
        obtain ⟨h0,h1,h2⟩:=hc
        subst hq
        obtain ⟨n,rfl⟩:=Int.eq_ofNat_of_zero_le h0
        simp only [Int.toNat_natCast] at h1 h2
        obtain ⟨ti,z,hi,hsz,hby,hz,hzc⟩:=(hcf _ _ hr).info
        subst hre
        have hzs:z.cells.size=r.ty.sz:=by rw [← Array.length_toList,hzc,(G5.zero M r.ty).length]
        -- a new row
        have grown:∀ (base:Option Addr) (c:Nat) (cs:List Value),pl.slice l.length=.slice base l.length c→l.length≤c→c < l.length+n→cs.length=c*r.ty.sz→(base=none→c=0)→(∀ a,base=some a→∀ j v,cs[j]?=some v→w.cell? (a.add j)=some v) →
            (∃ ds,E3 (G5 M r.ty) l ds∧cs.take ds.length=ds)→Calls P f #[pl.slice l.length,.int .i64 n] w (D68 M w (C0 (B1A r.ty tid) fun x=>A1e r.bytes x.1 x.2.1) [(pl,.sl r.ty tid l)] [.d (.slice r.ty) l]):=by
          intro base c cs hpl hlc hcn hcl hnil hcell hds
          obtain ⟨ds,hds,hdt⟩:=hds
          have hk:=hgrow ti z hi hz (by rw [hsz]; exact hpos) base l.length c n cs w hlc hcn (by rw [hby]; exact h1) (by omega) (by rw [hsz]; exact hcl) hnil hcell
          rw [hpl]
          refine hk.mono ?_
          rintro e w' ⟨rfl,rfl⟩
          have hge:=grownCap_ge w (l.length+n) c tid
          have hcm:grownCap w (l.length+n) c tid≤maxLen:=grownCap_le_maxLen w (l.length+n) c tid (by unfold maxLen; omega)
          have hsi:=A27 w.drew (.cells (cs.toArray++Builtin.zeroCells z.cells (l.length+n - c)++Builtin.zeroCells z.cells (grownCap w (l.length+n) c tid - (l.length+n))) tid)
          have hM0:M w.heap.size=none:=by
            cases hmm:M w.heap.size with
            | none=>rfl
            | some ob=>have:=(Array.getElem?_eq_some_iff.1 (hM _ _ hmm)).1; omega
          have hsi':Since (fun _=>False) w (w.drew.alloc (.cells (cs.toArray++Builtin.zeroCells z.cells (l.length+n - c)++Builtin.zeroCells z.cells (grownCap w (l.length+n) c tid - (l.length+n))) tid)):=⟨hsi.os,hsi.tape,hsi.output,hsi.size,hsi.block⟩
          refine ⟨M,[.d (.slice r.ty) l],[.slice (some ⟨w.heap.size,0,none⟩) l.length (grownCap w (l.length+n) c tid)],.at w.heap.size (grownCap w (l.length+n) c tid),rfl,.refl M,hM.since hsi' (fun _ _ _ h=>h),⟨hsi.os,hsi.tape,hsi.output,hsi.size,fun b hb _=>hsi.block b hb (fun h=>h)⟩,fun _ _ _=>rfl,.con (.ro .nil),?_,?_⟩
          · refine .fresh (o:=.sl r.ty tid l) rfl rfl rfl rfl ?_ .nil
            refine ⟨by omega,hcm,_,heap_alloc_new w.drew _,?_,ds,hds,?_⟩
            · simp only [Array.size_append,List.size_toArray,size_zeroCells,hzs,hcl,← Nat.add_mul]
              congr 1; omega
            · simp only [Array.toList_append,List.append_assoc]
              have hdl:ds.length≤cs.length:=by
                have:=congrArg List.length hdt
                simp only [List.length_take] at this
                omega
              rw [List.take_append_of_le_length hdl]
              exact hdt
          · intro b hb
            cases hb
            exact ⟨hM0,by simp,.inl (Nat.le_refl _)⟩
        cases hpl:pl with
        | no =>
          rw [hpl] at ho
          have hl:l=[]:=ho
          subst hl
          by_cases hn0:n=0
          · subst hn0
            refine(hroom none 0 0 0 w (Nat.le_refl _) (Nat.zero_le _) (Nat.zero_le _) (Nat.le_refl _)).mono ?_
            rintro e w' ⟨rfl,rfl⟩
            exact ⟨M,[.d (.slice r.ty) []],[.slice none 0 0],.no,rfl,.refl M,hM,.refl _ _,fun _ _ _=>rfl,.con (.ro .nil),.fresh (o:=.sl r.ty tid []) rfl rfl rfl rfl rfl .nil,fun b hb=>by cases hb⟩
          · have:=grown none 0 [] (by rw [hpl]; rfl) (Nat.le_refl _) (by simp; omega) (by simp) (fun _=>rfl) (fun a h=>by cases h) ⟨[],rfl,rfl⟩
            rw [hpl] at this
            exact this
        | «at» b cap =>
          have ho':=ho
          rw [hpl] at ho
          obtain ⟨k1,k2,cur,k3,k4,ds,k5,k6⟩:=ho
          by_cases hfit:l.length+n≤cap
          · refine(hroom (some ⟨b,0,none⟩) l.length cap n w k1 (by unfold maxLen at k2; omega) (by omega) hfit).mono ?_
            rintro e w' ⟨rfl,rfl⟩
            have hMb:M b=none:=hfree b (by rw [hpl]; simp [G7,Place.blk])
            refine ⟨M,[.d (.slice r.ty) l],[.slice (some ⟨b,0,none⟩) l.length cap],.at b cap,rfl,.refl M,hM,.refl _ _,fun _ _ _=>rfl,.con (.ro .nil),.fresh (o:=.sl r.ty tid l) rfl rfl rfl rfl (by rw [← hpl]; exact ho') .nil,fun b' hb=>?_⟩
            cases hb
            refine ⟨hMb,(Array.getElem?_eq_some_iff.1 k3).1,.inr ?_⟩
            simp [J6,C0,B1A,Place.blk]
          · have:=grown (some ⟨b,0,none⟩) cap cur.toList (by rw [hpl]; rfl) k1 (by omega) (by simpa using k4) (fun h=>by cases h) (fun a ha j v hj=>by
              cases ha
              rw [W8,cell_of_row w b _ cur tid (0,0) k3]
              simpa using hj) ⟨ds,k5,k6⟩
            rw [hpl] at this
            exact this
theorem C2t{P:Program}{cx:Cx}{f:FuncId}{fn:Func}{code:Code}{sg:Sig}{model:A4.den sg.sh→Option (B14 sg.rtys)}
    (hf : P.funcs[f]? = some fn) (hb : fn.body = some code) (hname : (fn.name != "runtime.NumGoroutine") = true) (hsg : A9H sg cx.ntmps = true) (hz : ∀ x, model x = none) : CSound P f (C0 sg model) := by
  refine ⟨fun ms K=>A4b sg model ms K,?_,?_⟩
  · simp [hf,hb,hname]
  · intro ms outs hcm M w vs hs' hM hargs hnd hfree
    simp only [A9H,Bool.and_eq_true] at hsg
    obtain ⟨⟨hsig,_⟩,hle⟩:=hsg
    obtain ⟨x,es,hx,hP,rfl,hlen⟩:=A9J hargs hsig hcm
    obtain ⟨r,hr,he⟩:=Option.bind_eq_some_iff.1 hx
    rw [hz] at hr
    cases hr
end Go.Eng
namespace Go.Eng
open Go.RowKit
def Frm.re(fr:Frm)(M1:Mem)(t:Nat)(v:Value):Frm:={ fr with M0:=M1,gv:=fun u=>if u=t then v else fr.gv u }
structure Frm.Base (fr:Frm) (M1:Mem):Prop where
  le:fr.M0.le M1
  keep:∀ b,b < fr.w0.heap.size→¬ fr.bor b→M1 b=fr.M0 b
section
variable {P:Program} {cx:Cx} {fr fr2:Frm} {M:Mem} {ρ ρ2:Nat→Place} {s s2:St} {a:Act} {w:World}
theorem Good.base(g:Good fr M ρ s a w):fr.Base M:=⟨g.old,g.keep⟩
theorem Good.recast(g:Good fr M ρ s a w)(hn:fr2.n=fr.n)(hpv:fr2.pv=fr.pv)(hw:fr2.w0=fr.w0)(hb:fr2.bor=fr.bor)(hB:fr2.Base M)
    (henv:∀ t,A0j M ρ2 s2.obj (fr2.val a t) (s2.get t)) (hobj:∀ id,N4 M w (ρ2 id) (s2.obj id))
    (hap:∀ id b,s2.obj id≠.gone→(ρ2 id).blk=some b→s.obj id≠.gone∧(ρ id).blk=some b):Good fr2 M ρ2 s2 a w:=by
  refine ⟨henv,?_,g.defers,g.mem,hB.le,hobj,fun id b hne hbk=>?_,?_,?_⟩
  · rw [hn,hpv]; exact g.size
  · obtain ⟨h1,h2⟩:=hap id b hne hbk
    have hx:=g.apart id b h1 h2
    refine ⟨hx.1,hx.2.1,by rw [hw,hb]; exact hx.2.2.1,fun id' hi hg hk=>?_⟩
    obtain ⟨h3,h4⟩:=hap id' b hg hk
    exact hx.2.2.2 id' hi h3 h4
  · rw [hw,hb]; exact g.since
  · intro b h1 h2
    exact hB.keep b h1 h2
theorem A77{α:Type}{d:α}:∀ {l:List (Nat×α)} {t:Nat},A0h d l t=d∨(t,A0h d l t)∈l
  | [],_=>.inl rfl
  | (k,x)::l,t=>by
    simp only [A0h]
    cases hb:Nat.beq k t with
    | true=>have:=(D1 _ _).1 hb; subst this; exact .inr (by simp)
    | false =>
      simp only [cond_false]
      rcases A77 (d:=d) (l:=l) (t:=t) with h | h
      · exact .inl h
      · exact .inr (List.mem_cons_of_mem _ h)
theorem B82{obj:Nat→MObj}{v:Nat→Value}{l:List (Nat×SV)}(h:∀ p∈l,A0j M ρ obj (v p.1) p.2)(t:Nat):A0j M ρ obj (v t) (A0h (.one .dead) l t):=by
  rcases A77 (d:=SV.one .dead) (l:=l) (t:=t) with h1 | h1
  · rw [h1]; exact trivial
  · exact h _ h1
theorem B5w{l:List (Nat×MObj)}(h:∀ p∈l,N4 M w (ρ p.1) p.2)(t:Nat):N4 M w (ρ t) (A0h .gone l t):=by
  rcases A77 (d:=MObj.gone) (l:=l) (t:=t) with h1 | h1
  · rw [h1]; cases ρ t <;> trivial
  · exact h _ h1
theorem C7Y(hcf:W6 P cx)(hcalls:∀ f c,cx.call f=some c→A5D P f c)(hn:cx.ntmps=fr.n){id:Nat}{ops:Array Oper}{sh1:A4}{x1:A4.den sh1}
    (h:A3m cx ops.toList ops.toList s (fun s=>A2K sh1 s some)=some x1) (g:Good fr M ρ s a w) {Q:Exit→Act→World→Prop} (hQ:∀ M ρ a w,Good fr M ρ (enc sh1 x1) a w→Q .normal a w):(Code.region id ops false).wp P Q a w:=by
  refine A8j hcf hcalls hn (K:=fun s=>A2K sh1 s some) (fun M ρ s a w g h=>?_) g h
  obtain ⟨x,ρ',hx,g'⟩:=A0B h g
  cases hx
  exact hQ _ _ _ _ g'
theorem B83(hcf:W6 P cx)(hcalls:∀ f c,cx.call f=some c→A5D P f c)(hn:cx.ntmps=fr.n){ops:Array Oper}{Q:Exit→Act→World→Prop}{sh1:A4}{x1:A4.den sh1}{n:Nat}
    (hQ:∀ M ρ a w,Good fr M ρ (enc sh1 x1) a w→wpOps P ops Q (List.range' n (ops.size - n)) a w) :
    ∀ (l:List Oper) (k:Nat),l <+: ops.toList.drop k→k+l.length=n→∀ {M ρ s a w},Good fr M ρ s a w→A3m cx ops.toList l s (fun s=>A2K sh1 s some)=some x1→wpOps P ops Q (List.range' k (ops.size - k)) a w
  | [],k,_,hk,M,ρ,s,a,w,g,h=>by
    simp only [List.length_nil,Nat.add_zero] at hk
    subst hk
    obtain ⟨x,ρ',hx,g'⟩:=A0B h g
    cases hx
    exact hQ _ _ _ _ g'
  | o::l,k,hp,hk,M,ρ,s,a,w,g,h=>by
    obtain ⟨t,ht⟩:=hp
    have ho:ops[k]?=some o:=by
      have h0:(ops.toList.drop k)[0]?=some o:=by rw [← ht]; rfl
      simpa using h0
    have hlt:k < ops.size:=(Array.getElem?_eq_some_iff.1 ho).1
    have hl:l <+: ops.toList.drop (k+1):=⟨t,by rw [← List.drop_drop,← ht]; rfl⟩
    rw [show ops.size - k=(ops.size - (k+1))+1 by omega,List.range'_succ]
    simp only [wpOps,ho]
    simp only [A3m] at h
    have hk':k+1+l.length=n:=by simp only [List.length_cons] at hk; omega
    obtain ⟨s',hs,⟨hw,hy⟩ | ⟨hw,hy⟩⟩:=A4x h
    · rw [hw.wanted g]
      simp only [if_true]
      obtain ⟨hd,e,hK,hdo⟩:=A9z hcf hcalls hn hy
      refine .inl (Oper.wp_mono ?_ (hdo M ρ s' a w Q (g.same hs) fun _ _=>rfl))
      rintro a' w' ⟨M',ρ',g'⟩
      exact B83 hcf hcalls hn hQ l (k+1) hl hk' g' hK
    · rw [hw.wanted g]
      simp only [Bool.false_eq_true,if_false]
      cases hd:H5 cx.ntmps o.dst <;> rw [hd] at hy <;> simp only [cond_true,cond_false,reduceCtorEq] at hy
      rw [hn] at hd
      exact B83 hcf hcalls hn hQ l (k+1) hl hk' ((g.same hs).skip hd) hy
theorem C7Z{id:Nat}{ops:Array Oper}{Q:Exit→Act→World→Prop}(h:wpOps P ops Q (List.range' 0 (ops.size - 0)) a w):(Code.region id ops false).wp P Q a w:=by
  refine wp_region ?_
  simpa [List.range_eq_range'] using h
theorem C43(g:Good fr M ρ s a w){t:Nat}{b:Bool}{x y:Code}{Q:Exit→Act→World→Prop}(hc:s.eval (.tmp t)=.one (.d .bool b))(h1:b=true→x.wp P Q a w)(h2:b=false→y.wp P Q a w):(Code.cond (.tmp t) x y).wp P Q a w:=by
  have hv:a.eval (.tmp t)=.bool b:=by
    have:=g.eval (.tmp t)
    rw [hc] at this
    obtain ⟨cs,hf,e⟩:=this
    have hf':cs=[.bool b]:=hf
    subst hf'
    simpa [E1,Ty.isAgg] using e
  cases b with
  | true=>exact wp_cond_true hv (h1 rfl)
  | false=>exact wp_cond_false hv (h2 rfl)
def E6:Code→List Oper
  | .region _ ops _=>ops.toList
  | _=>[]
def C80:Code→Bool
  | .region _ _ d=>!d
  | _=>false
def D6e:Code→Bool
  | .seq _ _=>true
  | _=>false
def C44(i:Nat):Code→Bool
  | .block j _=>Nat.beq i j
  | _=>false
def C45(t:Nat):Code→Bool
  | .cond (.tmp u) _ _=>Nat.beq t u
  | _=>false
def D0B(i:Nat):Code→Bool
  | .exit j=>Nat.beq i j
  | _=>false
def D0C:Code→Bool
  | .skip=>true
  | _=>false
def D6f:Code→Bool
  | .ret=>true
  | _=>false
def D0D:Code→Bool
  | .loop _=>true
  | _=>false
theorem A9P(c:Code):sub c []=c:=by cases c <;> rfl
theorem A78(q:List Nat):sub .skip q=.skip:=by cases q <;> simp [sub]
theorem A3s:∀ (c:Code) (p q:List Nat),sub (sub c p) q=sub c (p++q)
  | c,[],q=>by rw [A9P]; rfl
  | .seq x y,i::p,q=>by
    match i with
    | 0=>simp only [sub,List.cons_append]; exact A3s x p q
    | 1=>simp only [sub,List.cons_append]; exact A3s y p q
    | n+2=>simp only [sub,List.cons_append,A78]
  | .cond _ x y,i::p,q=>by
    match i with
    | 0=>simp only [sub,List.cons_append]; exact A3s x p q
    | 1=>simp only [sub,List.cons_append]; exact A3s y p q
    | n+2=>simp only [sub,List.cons_append,A78]
  | .block _ x,i::p,q=>by
    match i with
    | 0=>simp only [sub,List.cons_append]; exact A3s x p q
    | n+1=>simp only [sub,List.cons_append,A78]
  | .loop x,i::p,q=>by
    match i with
    | 0=>simp only [sub,List.cons_append]; exact A3s x p q
    | n+1=>simp only [sub,List.cons_append,A78]
  | .skip,i::p,q | .region _ _ _,i::p,q | .scope _,i::p,q | .exit _,i::p,q | .label _,i::p,q | .goto _,i::p,q | .ret,i::p,q | .rangeFunc _ _ _ _,i::p,q | .refuse _,i::p,q=>by simp only [sub,List.cons_append,A78]
variable {c0:Code} {p:List Nat} {Q:Exit→Act→World→Prop}
theorem O3(hc:D6e (sub c0 p)=true)(h:(sub c0 (p++[0])).wp P (Exit.then ((sub c0 (p++[1])).wp P Q) Q) a w):(sub c0 p).wp P Q a w:=by
  rw [← A3s,← A3s] at h
  generalize sub c0 p=c at *
  cases c <;> simp [D6e] at hc
  simp only [sub,A9P] at h
  exact wp_seq h
theorem A4z{i:Nat}(hc:C44 i (sub c0 p)=true)(h:(sub c0 (p++[0])).wp P (Exit.inBlock i Q) a w):(sub c0 p).wp P Q a w:=by
  rw [← A3s] at h
  generalize sub c0 p=c at *
  cases c <;> simp only [C44,Bool.false_eq_true] at hc
  have:=(D1 _ _).1 hc
  subst this
  simp only [sub,A9P] at h
  exact wp_block h
theorem A9Q(hc:D0C (sub c0 p)=true)(h:Q .normal a w):(sub c0 p).wp P Q a w:=by
  generalize sub c0 p=c at *
  cases c <;> simp [D0C] at hc
  exact wp_skip h
theorem C46(hc:D6f (sub c0 p)=true)(h:Q .ret a w):(sub c0 p).wp P Q a w:=by
  generalize sub c0 p=c at *
  cases c <;> simp [D6f] at hc
  exact wp_ret h
theorem B84{i:Nat}(hc:D0B i (sub c0 p)=true)(h:Q (.exit i) a w):(sub c0 p).wp P Q a w:=by
  generalize sub c0 p=c at *
  cases c <;> simp only [D0B,Bool.false_eq_true] at hc
  have:=(D1 _ _).1 hc
  subst this
  exact wp_exit h
theorem A2O(g:Good fr M ρ s a w){t:Nat}{b:Bool}(hc:C45 t (sub c0 p)=true)(hv:s.eval (.tmp t)=.one (.d .bool b))(h1:b=true→(sub c0 (p++[0])).wp P Q a w)(h2:b=false→(sub c0 (p++[1])).wp P Q a w):(sub c0 p).wp P Q a w:=by
  rw [← A3s] at h1 h2
  generalize sub c0 p=c at *
  cases c <;> simp only [C45,Bool.false_eq_true] at hc
  rename_i o x y
  cases o <;> simp only [C45,Bool.false_eq_true] at hc
  have:=(D1 _ _).1 hc
  subst this
  simp only [sub,A9P] at h1 h2
  exact C43 g hv h1 h2
theorem C47(hc:D0D (sub c0 p)=true){J:Nat→Act→World→Prop}(h0:∀ a w,¬ J 0 a w)(hs:∀ n a w,J (n+1) a w→(sub c0 (p++[0])).wp P (Exit.then (J n) Q) a w){n:Nat}{a:Act}{w:World}(h:J n a w):(sub c0 p).wp P Q a w:=by
  rw [← A3s] at hs
  generalize sub c0 p=c at *
  cases c <;> simp [D0D] at hc
  simp only [sub,A9P] at hs
  exact A71 h0 hs h
theorem U8(hcf:W6 P cx)(hcalls:∀ f c,cx.call f=some c→A5D P f c)(hn:cx.ntmps=fr.n)(hc:C80 (sub c0 p)=true){sh1:A4}{x1:A4.den sh1}
    (h:A3m cx (E6 (sub c0 p)) (E6 (sub c0 p)) s (fun s=>A2K sh1 s some)=some x1) (g:Good fr M ρ s a w) (hQ:∀ M ρ a w,Good fr M ρ (enc sh1 x1) a w→Q .normal a w):(sub c0 p).wp P Q a w:=by
  generalize sub c0 p=c at *
  cases c <;> simp [C80] at hc
  subst hc
  exact C7Y hcf hcalls hn h g hQ
def A6c(P:Program)(c:Code)(Q:Exit→Act→World→Prop)(k:Nat)(a:Act)(w:World):Prop:=wpOps P (E6 c).toArray Q (List.range' k ((E6 c).length - k)) a w
theorem D0E(hc:C80 (sub c0 p)=true)(h:A6c P (sub c0 p) Q 0 a w):(sub c0 p).wp P Q a w:=by
  generalize sub c0 p=c at *
  cases c <;> simp [C80] at hc
  subst hc
  refine C7Z ?_
  simpa [A6c,E6] using h
theorem A79{c:Code}(hcf:W6 P cx)(hcalls:∀ f c,cx.call f=some c→A5D P f c)(hn:cx.ntmps=fr.n){k n:Nat}{sh1:A4}{x1:A4.den sh1}
    (h:A3m cx (E6 c) (((E6 c).drop k).take n) s (fun s=>A2K sh1 s some)=some x1) (hl:(((E6 c).drop k).take n).length=n) (g:Good fr M ρ s a w) (hQ:∀ M ρ a w,Good fr M ρ (enc sh1 x1) a w→A6c P c Q (k+n) a w):A6c P c Q k a w:=by
  have:=B83 (Q:=Q) (n:=k+n) hcf hcalls hn (ops:=(E6 c).toArray) (sh1:=sh1) (x1:=x1) (fun M ρ a w g=>by simpa [A6c] using hQ M ρ a w g) (((E6 c).drop k).take n) k (List.take_prefix _ _) (by rw [hl]) g h
  simpa [A6c] using this
theorem B5x{c:Code}{k:Nat}(hk:(E6 c).length=k)(h:Q .normal a w):A6c P c Q k a w:=by
  subst hk
  simpa [A6c,wpOps] using h
theorem A7a{M1:Mem}{t:Nat}{v:Value}(h:¬ t < 8192):(fr.re M1 t v).val a t=v:=by
  rw [Frm.val_ge h]; exact if_pos rfl
def D6g(M:Mem)(ρ:Nat→Place)(obj:Nat→MObj)(v:Nat→Value):List (Nat×SV)→Prop
  | []=>True
  | x::l=>A0j M ρ obj (v x.1) x.2∧D6g M ρ obj v l
theorem D6g.all{obj:Nat→MObj}{v:Nat→Value}:∀ {l:List (Nat×SV)},D6g M ρ obj v l→∀ p∈l,A0j M ρ obj (v p.1) p.2
  | _::_,h,q,hq=>by
    rcases List.mem_cons.1 hq with rfl | hq
    · exact h.1
    · exact D6g.all h.2 q hq
def D6h(M:Mem)(w:World)(ρ:Nat→Place):List (Nat×MObj)→Prop
  | []=>True
  | x::l=>N4 M w (ρ x.1) x.2∧D6h M w ρ l
theorem D6h.all:∀ {l:List (Nat×MObj)},D6h M w ρ l→∀ p∈l,N4 M w (ρ p.1) p.2
  | _::_,h,q,hq=>by
    rcases List.mem_cons.1 hq with rfl | hq
    · exact h.1
    · exact D6h.all h.2 q hq
def D6i(s:St)(ρ ρ2:Nat→Place):List (Nat×MObj)→Prop
  | []=>True
  | x::l=>(∀ b,(ρ2 x.1).blk=some b→s.obj x.1≠.gone∧(ρ x.1).blk=some b)∧D6i s ρ ρ2 l
theorem D6i.all:∀ {l:List (Nat×MObj)},D6i s ρ ρ2 l→∀ p∈l,∀ b,(ρ2 p.1).blk=some b→s.obj p.1≠.gone∧(ρ p.1).blk=some b
  | _::_,h,q,hq=>by
    rcases List.mem_cons.1 hq with rfl | hq
    · exact h.1
    · exact D6i.all h.2 q hq
theorem Good.tell(g:Good fr M ρ s a w){sh:A4}{x:A4.den sh}(ρ2:Nat→Place)(hn:fr2.n=fr.n)(hpv:fr2.pv=fr.pv)(hw:fr2.w0=fr.w0)(hb:fr2.bor=fr.bor)(hB:fr2.Base M)
    (henv:D6g M ρ2 (enc sh x).obj (fr2.val a) (B51 sh x)) (hobj:D6h M w ρ2 (A9n sh x)) (hap:D6i s ρ ρ2 (A9n sh x)):Good fr2 M ρ2 (enc sh x) a w:=by
  refine g.recast hn hpv hw hb hB (B82 henv.all) (B5w hobj.all) fun id b hne hb=>?_
  rcases A77 (d:=MObj.gone) (l:=A9n sh x) (t:=id) with h1 | h1
  · exact absurd h1 hne
  · exact hap.all _ h1 b hb
theorem Frm.Base.trans{M1:Mem}{t:Nat}{v:Value}(h:fr.Base M1)(k:(fr.re M1 t v).Base M):fr.Base M:=⟨h.le.trans k.le,fun b h1 h2=>(k.keep b h1 h2).trans (h.keep b h1 h2)⟩
theorem Frm.Base.re{t:Nat}{v:Value}(fr:Frm)(M:Mem):(fr.re M t v).Base M:=⟨.refl M,fun _ _ _=>rfl⟩
theorem E3.conv{α β:Type}{P:α→List Value→Prop}{Q:β→List Value→Prop}:∀ {l:List α} {m:List β} {cs:List Value},E3 P l cs→l.length=m.length→(∀ (k:Nat) x y cs,l[k]?=some x→m[k]?=some y→P x cs→Q y cs)→E3 Q m cs
  | [],[],_,h,_,_=>h
  | x::l,y::m,_,⟨c1,c2,e,h1,h2⟩,hl,hf=>⟨c1,c2,e,hf 0 x y c1 rfl rfl h1,E3.conv h2 (by simpa using hl) fun k x y cs hx hy=>hf (k+1) x y cs (by simpa using hx) (by simpa using hy)⟩
  | [],_::_,_,_,hl,_=>by simp at hl
  | _::_,[],_,_,hl,_=>by simp at hl
theorem N4.conv{pl:Place}{e e':Ty}{tid:Nat}{l:List e.den}{m:List e'.den}(h:N4 M w pl (.sl e tid l))(hsz:e'.sz=e.sz)(hl:m.length=l.length)(hf:∀ (k:Nat) x y cs,l[k]?=some x→m[k]?=some y→G5 M e x cs→G5 M e' y cs):N4 M w pl (.sl e' tid m):=by
  cases pl with
  | no =>
    have h0:l=[]:=h
    subst h0
    exact List.eq_nil_of_length_eq_zero (by simpa using hl)
  | «at» b cap =>
    obtain ⟨h1,h2,cur,h3,h4,cs,h5,h6⟩:=h
    exact ⟨by rw [hl]; exact h1,h2,cur,h3,by rw [hsz]; exact h4,cs,E3.conv h5 hl.symm hf,h6⟩
end
def A4X{A:Type}:List (Int×(A×(Unit×Unit)))→List (List Int)→List (Int×(A×(List Int×Unit)))
  | [],_=>[]
  | x::l,[]=>(x.1,(x.2.1,([],())))::A4X l []
  | x::l,d::D=>(x.1,(x.2.1,(d,())))::A4X l D
theorem A9S{A:Type}:∀ (x0:List (Int×(A×(Unit×Unit)))) (D:List (List Int)) (k:Nat),(A4X x0 D)[k]?=(x0[k]?).map fun x=>(x.1,(x.2.1,(D.getD k [],())))
  | [],_,_=>by simp [A4X]
  | x::l,[],0=>by simp [A4X]
  | x::l,[],k+1=>by simp [A4X,A9S l [] k]
  | x::l,d::D,0=>by simp [A4X]
  | x::l,d::D,k+1=>by simp [A4X,A9S l D k]
theorem A57{A:Type}:∀ (x0:List (Int×(A×(Unit×Unit)))) (D:List (List Int)),(A4X x0 D).length=x0.length
  | [],_=>rfl
  | x::l,[]=>by simp [A4X,A57 l []]
  | x::l,d::D=>by simp [A4X,A57 l D]
end Go.Eng
namespace Go.Eng
open Go.RowKit
noncomputable def isV (x v:Value):Bool:=@decide (x=v) (Classical.propDecidable _)
theorem D0F{x v:Value}(h:x=v):isV x v=true:=by unfold isV; exact @decide_eq_true _ (Classical.propDecidable _) h
theorem D6j{x v:Value}(h:isV x v=true):x=v:=by unfold isV at h; exact @of_decide_eq_true _ (Classical.propDecidable _) h
noncomputable def C48 {R:Type} (cx:Cx) (g:Nat) (v:Value) (o:Oper) (s:St) (K:Eff→St→Option R):Option R :=
  opK cx o s fun e _=>match e,s.get g with
    | { rep:=[],objs:=[],val:=.one (.d .val x) },.one (.own i)=>bif isV x v then K { val:=.one (.own i) } (({ val:=.one (.own i) }:Eff).app o.dst s) else none
    | _,_=>none
def E0j(al:List Nat):Option Nat→Bool
  | some t=>al.any fun u=>Nat.beq t u
  | none=>false
noncomputable def B19 {R:Type} (cx cx2:Cx) (al sl:List Nat) (g:Nat) (v:Value) (all:List Oper):List Oper→St→List Rec→(St→List Rec→Option R)→Option R
  | [],s,rs,K=>K s rs
  | o::l,s,rs,K=>B4Y all o s (fun s=>bif E0j al o.dst
        then C48 cx g v o s fun e s'=>B19 cx cx2 al sl g v all l s' (rs++[{ dst:=o.dst,rd:=g::Y6 all o,ids:=(s.get g).ids++A51 all o s,e:=e }]) K
        else opK (bif E0j sl o.dst then cx2 else cx) o s fun e s'=>B19 cx cx2 al sl g v all l s' (rs++[B7r all o s e]) K)
      (fun s=>bif H5 cx.ntmps o.dst then B19 cx cx2 al sl g v all l (A9l o s) (rs++[B7r all o s { val:=.one .und }]) K else none)
def E50(sh:A4):Ex→St→Option (A4.den sh)
  | .normal,s=>A2K sh s some
  | _,_=>none
section
variable {P:Program} {cx cx2:Cx} {fr:Frm} {R:Type} {res:R} {all:List Oper}
theorem C2u(hcf:W6 P cx)(hcalls:∀ f c,cx.call f=some c→A5D P f c)(hn:cx.ntmps=fr.n){g:Nat}{v:Value}(hg:¬ g < 8192)(hv:fr.gv g=v){o:Oper}{s:St}{K:Eff→St→Option R}(h:C48 cx g v o s K=some res) :
    H5 fr.n o.dst=true∧∃ e,K e (e.app o.dst s)=some res∧∀ s',Agree (g::Y6 all o) ((s.get g).ids++A51 all o s) s s'→C3L P fr s' o e:=by
  unfold C48 at h
  obtain ⟨hd,e0,hK,hdo⟩:=B2A (all:=all) hcf hcalls hn h
  refine ⟨hd,?_⟩
  split at hK
  · rename_i x i heq
    cases hx:isV x v <;> rw [hx] at hK <;> simp only [cond_true,cond_false,reduceCtorEq] at hK
    have hx:=D6j hx
    refine ⟨_,hK,fun s' ha M ρ a w Q gd=>?_⟩
    have hgs:s'.get g=.one (.own i):=(ha.get g (by simp)).trans heq
    have hag:Agree (Y6 all o) (A51 all o s) s s':=⟨fun t ht=>ha.get t (by simp [ht]),fun j hj=>ha.obj j (by simp [hj])⟩
    refine Oper.wp_mono ?_ ((hdo s' hag).at M ρ a w Q gd)
    rintro a' w' ⟨M',ρ',g'⟩
    refine ⟨M',ρ',g'.recast rfl rfl rfl rfl ⟨g'.old,g'.keep⟩ (fun t=>?_) (fun id=>?_) fun id b h1 h2=>⟨?_,h2⟩⟩
    · have h1:=g'.env t
      rw [Eff.get_app] at h1 ⊢
      by_cases ht:o.dst=some t
      · rw [if_pos ht] at h1 ⊢
        have hgt:o.dst≠some g:=fun e=>by
          rw [e] at hd
          simp only [H5,Bool.and_eq_true,Nat.blt_eq] at hd
          omega
        have h2:=g'.env g
        rw [Eff.get_app,if_neg hgt,hgs] at h2
        have h2:A0b M' ρ' _ (fr.val a' g) (.own i):=h2
        obtain ⟨cs,⟨hc,_⟩,hv1⟩:=h1
        obtain ⟨e,tid,l,ho,hv2⟩:=h2
        refine ⟨e,tid,l,?_,?_⟩
        · rw [← ho,Eff.obj_app,Eff.obj_app]
        · rw [← hv2,Frm.val_ge hg,hv,hv1,hc,hx]
          rfl
      · rw [if_neg ht] at h1 ⊢
        have:(({ val:=.one (.own i) }:Eff).app o.dst s').obj=(({ val:=.one (.d .val x) }:Eff).app o.dst s').obj:=by
          funext j; rw [Eff.obj_app,Eff.obj_app]
        rw [this]
        exact h1
    · have:=g'.objs id
      rw [Eff.obj_app] at this ⊢
      exact this
    · rw [Eff.obj_app] at h1 ⊢
      exact h1
  · cases hK
theorem A4A(hcf:W6 P cx)(hcalls:∀ f c,cx.call f=some c→A5D P f c)(hn:cx.ntmps=fr.n)(hcf2:W6 P cx2)(hcalls2:∀ f c,cx2.call f=some c→A5D P f c)(hn2:cx2.ntmps=fr.n){al sl:List Nat}{g:Nat}{v:Value}(hg:¬ g < 8192)(hv:fr.gv g=v){K:St→List Rec→Option R} :
    ∀ {l:List Oper} {s:St} {rs0:List Rec},B19 cx cx2 al sl g v all l s rs0 K=some res→∃ rs sn,Chain P fr all l s rs sn∧K sn (rs0++rs)=some res
  | [],s,rs0,h=>⟨[],s,.nil,by simpa [B19] using h⟩
  | o::l,s,rs0,h=>by
    simp only [B19] at h
    obtain ⟨s1,hs,⟨hw,hy⟩ | ⟨hw,hy⟩⟩:=A4x h
    · cases ha:E0j al o.dst <;> rw [ha] at hy <;> simp only [cond_true,cond_false] at hy
      · have hy2:H5 fr.n o.dst=true∧∃ e,B19 cx cx2 al sl g v all l (e.app o.dst s1) (rs0++[B7r all o s1 e]) K=some res∧∀ s',Agree (Y6 all o) (A51 all o s1) s1 s'→U7 P fr s'.arg o e:=by
          cases hs2:E0j sl o.dst <;> rw [hs2] at hy <;> simp only [cond_true,cond_false] at hy
          · exact B2A (all:=all) hcf hcalls hn hy
          · exact B2A (all:=all) hcf2 hcalls2 hn2 hy
        obtain ⟨hd,e,hK,hdo⟩:=hy2
        obtain ⟨rs,sn,hc,hk⟩:=A4A hcf hcalls hn hcf2 hcalls2 hn2 hg hv hK
        exact ⟨_::rs,sn,.cons hs ⟨rfl,fun _ h=>h,hd,.inl ⟨hw.same hs,fun s' ha=>(hdo s' ha).at⟩⟩ hc,by simpa using hk⟩
      · obtain ⟨hd,e,hK,hdo⟩:=C2u (all:=all) hcf hcalls hn hg hv hy
        obtain ⟨rs,sn,hc,hk⟩:=A4A hcf hcalls hn hcf2 hcalls2 hn2 hg hv hK
        exact ⟨{ dst:=o.dst,rd:=g::Y6 all o,ids:=(s1.get g).ids++A51 all o s1,e:=e }::rs,sn,.cons hs ⟨rfl,fun _ h=>by simp [h],hd,.inl ⟨hw.same hs,hdo⟩⟩ hc,by simpa using hk⟩
    · cases hd:H5 cx.ntmps o.dst <;> rw [hd] at hy <;> simp only [cond_true,cond_false,reduceCtorEq] at hy
      rw [hn] at hd
      obtain ⟨rs,sn,hc,hk⟩:=A4A hcf hcalls hn hcf2 hcalls2 hn2 hg hv hy
      rw [A6Z] at hc
      exact ⟨B7r all o s1 { val:=.one .und }::rs,sn,.cons hs ⟨rfl,fun _ h=>h,hd,.inr ⟨hw.same hs,rfl⟩⟩ hc,by simpa using hk⟩
def D0G:Code→Bool
  | .region _ _ d=>d
  | _=>false
theorem C49{listed:Array Bool}{n N:Nat}(hn:n≤N)(hsz:listed.size=N)(h:∀ k,listed.getD k false=decide (k < n)):listed=(List.replicate n true++List.replicate (N - n) false).toArray:=by
  refine Array.ext' (List.ext_getElem? fun k=>?_)
  have hk:=h k
  rw [Array.getD_eq_getD_getElem?] at hk
  rcases Nat.lt_or_ge k n with h1 | h1
  · rw [List.getElem?_append_left (by simpa using h1)]
    have hlt:k < listed.size:=by omega
    simp [hlt,h1] at hk ⊢
    exact hk
  · rw [List.getElem?_append_right (by simpa using h1)]
    rcases Nat.lt_or_ge k N with h2 | h2
    · have hlt:k < listed.size:=by omega
      have:k - n < N - n:=by omega
      simp [hlt,Nat.not_lt.2 h1,this] at hk ⊢
      exact hk
    · have hge:listed.size≤k:=by omega
      have:¬ k - n < N - n:=by omega
      simp [hge,this]
theorem C4a(hcf:W6 P cx)(hcalls:∀ f c,cx.call f=some c→A5D P f c)(hn:cx.ntmps=fr.n)(hcf2:W6 P cx2)(hcalls2:∀ f c,cx2.call f=some c→A5D P f c)(hn2:cx2.ntmps=fr.n)(hmix:P.follows .mixedOrders=true){c0:Code}{p:List Nat}{Q:Exit→Act→World→Prop}{M ρ s a w}(hc:D0G (sub c0 p)=true)
    {al sl:List Nat} {g:Nat} {v:Value} (hg:¬ g < 8192) (hv:fr.gv g=v) (n:Nat) {sh1:A4} {x1:A4.den sh1}
    (h:(B19 cx cx2 al sl g v (E6 (sub c0 p)) ((E6 (sub c0 p)).take n) s [] fun s' rs=>bif A6P s.env ((E6 (sub c0 p)).take n) rs then A2K sh1 s' some else none)=some x1)
    (hlate:(Nat.ble n (E6 (sub c0 p)).length && B8X n (E6 (sub c0 p)) && Region.seqB .any (E6 (sub c0 p)).toArray ((E6 (sub c0 p)).length - n) n (List.replicate n true++List.replicate ((E6 (sub c0 p)).length - n) false).toArray)=true)
    (gd:Good fr M ρ s a w) (hQ:∀ M ρ a w,Good fr M ρ (enc sh1 x1) a w→A6c P (sub c0 p) Q n a w):(sub c0 p).wp P Q a w:=by
  generalize sub c0 p=c at *
  cases c <;> simp only [D0G,Bool.false_eq_true] at hc
  rename_i id ops d
  subst hc
  simp only [Bool.and_eq_true,Nat.ble_eq,E6] at hlate h
  obtain ⟨⟨hle,hlate⟩,hseq⟩:=hlate
  obtain ⟨RS,sn,hch,hK⟩:=A4A hcf hcalls hn hcf2 hcalls2 hn2 hg hv h
  simp only [List.nil_append] at hK
  cases hd:A6P s.env (ops.toList.take n) RS <;> rw [hd] at hK <;> simp only [cond_true,cond_false,reduceCtorEq] at hK
  have hsz0:ops.toList.length=ops.size:=by simp
  rw [hsz0] at hle hseq
  refine B5o hmix hle hch hd hlate gd fun M1 ρ1 a1 w1 g1 listed hsz hl=>?_
  obtain ⟨x,ρ2,hx,g2⟩:=A0B hK g1
  cases hx
  have hw:=hQ _ _ _ _ g2
  have e1:=C49 hle hsz hl
  subst e1
  have hlen:(ops.toList.drop n).length=ops.size - n:=by simp
  have hj:∀ j,(ops.toList.drop n)[j]?=ops[n+j]?:=fun j=>by simp [List.getElem?_drop]
  have:=wpAny_of_seq (P:=P) (md:=.any) (ops:=ops) (Q':=Q) (ops.toList.drop n) n _ a1 w1 hj (by rw [hlen]; exact hseq) (by
    rw [← wpOps_eq_wpList _ n hj,hlen]
    simpa [A6c,E6] using hw)
  rwa [hlen] at this
end
end Go.Eng
namespace Go.Eng
theorem E0S{α:Type}(b:Bool)(x y:α):(bif b then x else y)=if b=true then x else y:=by cases b <;> rfl
theorem A7b{b:Bool}:(not b=true)↔¬ (b=true):=by cases b <;> simp
theorem D2w{k:IntKind}{x y:Int}(hx:0≤x)(hk:k=.i64∨k=.u64)(hm:x≤9223372036854775807)(hy:0 < y):A0W k x y=x / y:=by
  have h1:0≤x / y:=Int.ediv_nonneg hx (by omega)
  have h2:x / y≤x:=Int.ediv_le_self _ hx
  unfold A0W
  rw [Int.tdiv_eq_ediv_of_nonneg hx]
  rcases hk with rfl | rfl
  · exact A5H (by omega)
  · exact G8 (by omega)
theorem A7c{x y:Int}(hx:0≤x)(hm:x≤9223372036854775807)(hy:0 < y):A0W .i64 x y=x / y:=D2w hx (.inl rfl) hm hy
theorem A7d{x y:Int}(hx:0≤x)(hm:x≤18446744073709551615)(hy:0 < y):A0W .u64 x y=x / y:=by
  have h1:0≤x / y:=Int.ediv_nonneg hx (by omega)
  have h2:x / y≤x:=Int.ediv_le_self _ hx
  unfold A0W
  rw [Int.tdiv_eq_ediv_of_nonneg hx]
  exact G8 (by omega)
theorem A58{x y:Int}(hx:0≤x):A1y x y=x % y:=by
  unfold A1y; exact Int.tmod_eq_emod_of_nonneg hx
theorem A0D{x y:Int}(h:0≤x*y∧x*y≤18446744073709551615):A0X .u64 x y=x*y:=G8 h
theorem B85{x y:Int}(h:0≤x+y∧x+y≤255):C2 .u8 x y=x+y:=A40 h
theorem D2x{x y:Int}:B12 x y=min x y:=by unfold B12; omega
theorem D2y{x y:Int}:C7x x y=max x y:=by unfold C7x; omega
theorem T3{α:Type}(l:List α)(i:Int)(x:α):(F1 l i x).length=l.length:=by simp [F1]
theorem B5y{α:Type}(n:Int)(x:α):(I5 n x).length=n.toNat:=by simp [I5]
theorem B5z{α:Type}(l:List α)(n:Int):(A0A l n).length=min n.toNat l.length:=by simp [A0A]
theorem B5A{α:Type}(l:List α)(n:Int):(A1d l n).length=l.length - n.toNat:=by simp [A1d]
theorem A0E{α:Type}(d:α)(l:List α)(i:Nat):B1 d l (i:Int)=l.getD i d:=by simp [B1]
def nb(x:Int)(k:Nat):Bool:=x.toNat.testBit k
theorem C4b{x y:Int}(hx:0≤x)(hy:0≤y)(h:∀ k,nb x k=nb y k):x=y:=by
  have:x.toNat=y.toNat:=Nat.eq_of_testBit_eq h
  omega
theorem A9T(k:Nat):nb 0 k=false:=by simp [nb]
theorem A8p(n k:Nat):nb (n:Int) k=n.testBit k:=by simp [nb]
theorem B86{x:Int}{w:Nat}(hx:0≤x)(h:x < 2 ^ w){k:Nat}(hk:w≤k):nb x k=false:=by
  unfold nb
  apply Nat.testBit_lt_two_pow
  have h1:x.toNat < 2 ^ w:=by
    have:((x.toNat:Nat):Int) < ((2 ^ w:Nat):Int):=by push_cast; omega
    exact Int.ofNat_lt.1 this
  exact Nat.lt_of_lt_of_le h1 (Nat.pow_le_pow_right (by omega) hk)
theorem B90{x:Int}{w:Nat}(hx:0≤x)(h:∀ k,w≤k→nb x k=false):x < 2 ^ w:=by
  have h1:x.toNat < 2 ^ w:=by
    apply Nat.lt_pow_two_of_testBit
    intro i hi
    exact h i hi
  have:((x.toNat:Nat):Int) < ((2 ^ w:Nat):Int):=Int.ofNat_lt.2 h1
  push_cast at this
  omega
theorem A8q{k:Nat}{x:Int}(hx:0≤x):(BitVec.ofInt k x).toNat=x.toNat % 2 ^ k:=by
  obtain ⟨n,rfl⟩:=Int.eq_ofNat_of_zero_le hx
  simp [BitVec.toNat_ofInt]
theorem C4c{x y:Int}(hx:0≤x∧x≤255)(hy:0≤y∧y≤255):orI .u8 x y=((x.toNat ||| y.toNat:Nat):Int):=by
  unfold orI
  have h1:x.toNat < 2 ^ 8:=by omega
  have h2:y.toNat < 2 ^ 8:=by omega
  have h3:=Nat.or_lt_two_pow h1 h2
  show IntKind.u8.wrap (((BitVec.ofInt 8 x ||| BitVec.ofInt 8 y).toNat:Nat):Int)=_
  rw [BitVec.toNat_or,A8q hx.1,A8q hy.1,Nat.mod_eq_of_lt h1,Nat.mod_eq_of_lt h2,A40 (by omega)]
theorem A3t{x y:Int}(hx:0≤x∧x≤18446744073709551615)(hy:0≤y∧y≤18446744073709551615):orI .u64 x y=((x.toNat ||| y.toNat:Nat):Int):=by
  unfold orI
  have h1:x.toNat < 2 ^ 64:=by omega
  have h2:y.toNat < 2 ^ 64:=by omega
  have h3:=Nat.or_lt_two_pow h1 h2
  show IntKind.u64.wrap (((BitVec.ofInt 64 x ||| BitVec.ofInt 64 y).toNat:Nat):Int)=_
  rw [BitVec.toNat_or,A8q hx.1,A8q hy.1,Nat.mod_eq_of_lt h1,Nat.mod_eq_of_lt h2,G8 (by omega)]
theorem B2K{x y:Int}(hx:0≤x∧x≤18446744073709551615)(hy:0≤y∧y≤18446744073709551615):D0z .u64 x y=((x.toNat ^^^ y.toNat:Nat):Int):=by
  unfold D0z
  have h1:x.toNat < 2 ^ 64:=by omega
  have h2:y.toNat < 2 ^ 64:=by omega
  have h3:=Nat.xor_lt_two_pow h1 h2
  show IntKind.u64.wrap (((BitVec.ofInt 64 x ^^^ BitVec.ofInt 64 y).toNat:Nat):Int)=_
  rw [BitVec.toNat_xor,A8q hx.1,A8q hy.1,Nat.mod_eq_of_lt h1,Nat.mod_eq_of_lt h2,G8 (by omega)]
theorem B2L{x y:Int}(hx:0≤x∧x≤18446744073709551615)(hy:0≤y∧y≤18446744073709551615):B15 .u64 x y=((x.toNat &&& y.toNat:Nat):Int):=by
  unfold B15
  have h1:x.toNat < 2 ^ 64:=by omega
  have h2:y.toNat < 2 ^ 64:=by omega
  have h3:x.toNat &&& y.toNat < 2 ^ 64:=Nat.and_lt_two_pow _ h2
  show IntKind.u64.wrap (((BitVec.ofInt 64 x &&& BitVec.ofInt 64 y).toNat:Nat):Int)=_
  rw [BitVec.toNat_and,A8q hx.1,A8q hy.1,Nat.mod_eq_of_lt h1,Nat.mod_eq_of_lt h2,G8 (by omega)]
theorem C4d{x y:Int}(hx:0≤x∧x≤255)(hy:0≤y∧y≤255):0≤orI .u8 x y∧orI .u8 x y≤255:=by
  rw [C4c hx hy]
  have h3:=Nat.or_lt_two_pow (n:=8) (show x.toNat < 2 ^ 8 by omega) (show y.toNat < 2 ^ 8 by omega)
  omega
theorem A7Y{x y:Int}(hx:0≤x∧x≤18446744073709551615)(hy:0≤y∧y≤18446744073709551615):0≤orI .u64 x y∧orI .u64 x y≤18446744073709551615:=by
  rw [A3t hx hy]
  have h3:=Nat.or_lt_two_pow (n:=64) (show x.toNat < 2 ^ 64 by omega) (show y.toNat < 2 ^ 64 by omega)
  omega
theorem C81{x y:Int}(hx:0≤x∧x≤255)(hy:0≤y∧y≤255)(k:Nat):nb (orI .u8 x y) k=(nb x k || nb y k):=by
  rw [C4c hx hy,A8p,Nat.testBit_or]; rfl
theorem B5B{x y:Int}(hx:0≤x∧x≤18446744073709551615)(hy:0≤y∧y≤18446744073709551615)(k:Nat):nb (orI .u64 x y) k=(nb x k || nb y k):=by
  rw [A3t hx hy,A8p,Nat.testBit_or]; rfl
theorem C2v{x y:Int}(hx:0≤x∧x≤18446744073709551615)(hy:0≤y∧y≤18446744073709551615)(k:Nat):nb (B15 .u64 x y) k=(nb x k && nb y k):=by
  rw [B2L hx hy,A8p,Nat.testBit_and]; rfl
theorem B87{x y:Int}(hx:0≤x∧x≤18446744073709551615)(hy:0≤y∧y≤18446744073709551615):0≤B15 .u64 x y∧B15 .u64 x y≤y:=by
  rw [B2L hx hy]
  have:=Nat.and_le_right (n:=x.toNat) (m:=y.toNat)
  omega
theorem A32{x s:Int}(hx:0≤x)(hs:0≤s):A0Y .u64 x s=((x.toNat*2 ^ min s.toNat 64 % 2 ^ 64:Nat):Int):=by
  obtain ⟨n,rfl⟩:=Int.eq_ofNat_of_zero_le hx
  unfold A0Y
  rw [F7]
  simp only [IntKind.bits,Int.toNat_natCast]
  rw [Int.natCast_emod,Int.natCast_mul,Int.natCast_pow]
  rfl
theorem C4e{x s:Int}(hx:0≤x)(hs:0≤s):A0Y .u8 x s=((x.toNat*2 ^ min s.toNat 8 % 2 ^ 8:Nat):Int):=by
  obtain ⟨n,rfl⟩:=Int.eq_ofNat_of_zero_le hx
  unfold A0Y
  rw [A2a]
  simp only [IntKind.bits,Int.toNat_natCast]
  rw [Int.natCast_emod,Int.natCast_mul,Int.natCast_pow]
  rfl
theorem C4f{x s:Int}(hx:0≤x)(hs:0≤s)(k:Nat):nb (A0Y .u8 x s) k=(decide (k < 8) && decide (s.toNat≤k) && nb x (k - s.toNat)):=by
  rw [C4e hx hs,A8p,Nat.testBit_mod_two_pow,Nat.testBit_mul_two_pow]
  by_cases hk:k < 8
  · by_cases h2:s.toNat≤k
    · rw [Nat.min_eq_left (by omega)]; simp [hk,h2,nb]
    · by_cases h3:s.toNat≤8
      · rw [Nat.min_eq_left h3]; simp [hk,h2]
      · rw [Nat.min_eq_right (by omega)]; simp [hk,h2]; omega
  · simp [hk]
theorem C2w{x s:Int}(hx:0≤x)(hs:0≤s):0≤A0Y .u8 x s∧A0Y .u8 x s≤255:=by
  rw [C4e hx hs]
  have:=Nat.mod_lt (x.toNat*2 ^ min s.toNat 8) (show 0 < 2 ^ 8 by decide)
  omega
theorem A0d{kd:IntKind}{x s:Int}(hx:0≤x):T8 kd x s=((x.toNat / 2 ^ min s.toNat kd.bits:Nat):Int):=by
  obtain ⟨n,rfl⟩:=Int.eq_ofNat_of_zero_le hx
  unfold T8
  have h:(0:Int)≤2 ^ min s.toNat kd.bits:=Int.le_of_lt (Int.pow_pos (by decide))
  rw [Int.fdiv_eq_ediv_of_nonneg _ h,Int.toNat_natCast,Int.natCast_ediv,Int.natCast_pow]
  rfl
theorem D0H{kd:IntKind}{x s:Int}(hx:0≤x)(k:Nat):nb (T8 kd x s) k=nb x (min s.toNat kd.bits+k):=by
  rw [A0d hx,A8p,Nat.testBit_div_two_pow]; rw [Nat.add_comm]; rfl
theorem A9U{kd:IntKind}{x s:Int}(hx:0≤x):0≤T8 kd x s∧T8 kd x s≤x:=by
  rw [A0d hx]
  have:=Nat.div_le_self x.toNat (2 ^ min s.toNat kd.bits)
  generalize x.toNat / 2 ^ min s.toNat kd.bits=q at *
  omega
theorem C2x{x:Int}(hx:0≤x)(k:Nat):nb (IntKind.u8.wrap x) k=(decide (k < 8) && nb x k):=by
  obtain ⟨n,rfl⟩:=Int.eq_ofNat_of_zero_le hx
  rw [A2a,show((n:Int) % 256)=((n % 2 ^ 8:Nat):Int) by rw [Int.natCast_emod]; rfl,A8p,Nat.testBit_mod_two_pow]; simp [nb]
theorem A9V(x:Int):0≤IntKind.u8.wrap x∧IntKind.u8.wrap x≤255:=by rw [A2a]; omega
theorem A8r(x:Int):0≤IntKind.u64.wrap x∧IntKind.u64.wrap x≤18446744073709551615:=by rw [F7]; omega
def Bt(l:List Int):Prop:=∀ x∈l,0≤x∧x≤255
def Wd(l:List Int):Prop:=∀ x∈l,0≤x∧x≤18446744073709551615
theorem A1F{α:Type}{P:α→Prop}{l:List α}{d:α}(h:∀ x∈l,P x)(hd:P d)(i:Nat):P (l.getD i d):=by
  rw [List.getD_eq_getElem?_getD]
  cases hx:l[i]? with
  | none=>exact hd
  | some x=>exact h x (List.mem_of_getElem? hx)
theorem C4g{α:Type}{P:α→Prop}{l:List α}{x:α}(h:∀ x∈l,P x)(hx:P x)(i:Nat):∀ y∈l.set i x,P y:=by
  intro y hy
  rcases List.mem_or_eq_of_mem_set hy with h1 | h1
  · exact h y h1
  · rw [h1]; exact hx
theorem Bt.get{l:List Int}(h:Bt l)(i:Int):0≤B1 0 l i∧B1 0 l i≤255:=A1F (P:=fun x=>0≤x∧x≤255) h (by omega) _
theorem Wd.get{l:List Int}(h:Wd l)(i:Int):0≤B1 0 l i∧B1 0 l i≤18446744073709551615:=A1F (P:=fun x=>0≤x∧x≤18446744073709551615) h (by omega) _
theorem Bt.set{l:List Int}(h:Bt l)(i:Int){x:Int}(hx:0≤x∧x≤255):Bt (F1 l i x):=C4g (P:=fun x=>0≤x∧x≤255) h hx _
theorem Wd.set{l:List Int}(h:Wd l)(i:Int){x:Int}(hx:0≤x∧x≤18446744073709551615):Wd (F1 l i x):=C4g (P:=fun x=>0≤x∧x≤18446744073709551615) h hx _
theorem Bt.repl(n:Int):Bt (I5 n 0):=fun x hx=>by simp [I5] at hx; omega
theorem Wd.repl(n:Int):Wd (I5 n 0):=fun x hx=>by simp [I5] at hx; omega
theorem Bt.nil:Bt []:=fun x hx=>by cases hx
theorem Wd.nil:Wd []:=fun x hx=>by cases hx
theorem Bt.append{l m:List Int}(h:Bt l)(k:Bt m):Bt (l++m):=fun x hx=>(List.mem_append.1 hx).elim (h x) (k x)
theorem Wd.append{l m:List Int}(h:Wd l)(k:Wd m):Wd (l++m):=fun x hx=>(List.mem_append.1 hx).elim (h x) (k x)
theorem Bt.one{x:Int}(h:0≤x∧x≤255):Bt [x]:=fun y hy=>by simp at hy; subst hy; exact h
theorem Wd.one{x:Int}(h:0≤x∧x≤18446744073709551615):Wd [x]:=fun y hy=>by simp at hy; subst hy; exact h
theorem B2N{α:Type}(l:List α)(i j:Nat)(x d:α)(h:i < l.length):(l.set i x).getD j d=if j=i then x else l.getD j d:=by
  simp only [List.getD_eq_getElem?_getD,List.getElem?_set]
  by_cases e:i=j
  · subst e; simp [h]
  · rw [if_neg e,if_neg (fun x=>e x.symm)]
def A4Y(b:List Int)(p:Nat):Bool:=nb (b.getD (p / 8) 0) (p % 8)
theorem B5C{a b:List Int}(ha:Bt a)(hb:Bt b)(hl:a.length=b.length)(h:∀ p,p < 8*a.length→A4Y a p=A4Y b p):a=b:=by
  apply List.ext_getElem hl
  intro i h1 h2
  have ra:=ha a[i] (List.getElem_mem h1)
  have rb:=hb b[i] (List.getElem_mem h2)
  apply C4b ra.1 rb.1
  intro k
  by_cases hk:k < 8
  · have:=h (8*i+k) (by omega)
    unfold A4Y at this
    rw [show(8*i+k) / 8=i by omega,show(8*i+k) % 8=k by omega] at this
    simpa [List.getD_eq_getElem?_getD,h1,h2] using this
  · rw [B86 (w:=8) ra.1 (by omega) (by omega),B86 (w:=8) rb.1 (by omega) (by omega)]
theorem C4h{b:List Int}{p:Nat}(h:8*b.length≤p):A4Y b p=false:=by
  unfold A4Y
  rw [List.getD_eq_getElem?_getD,List.getElem?_eq_none (by omega)]
  exact A9T _
theorem C2y(n:Int)(p:Nat):A4Y (I5 n 0) p=false:=by
  unfold A4Y
  have:(I5 n (0:Int)).getD (p / 8) 0=0:=by
    simp only [I5,List.getD_eq_getElem?_getD,List.getElem?_replicate]
    split <;> rfl
  rw [this]; exact A9T _
theorem bs:(∀ {α:Type} (a b:α),(bif true then a else b)=a)∧(∀ {α:Type} (a b:α),(bif false then a else b)=b)∧(∀ {α:Type} (b:Bool) (x y:α),(bif b then x else y)=if b=true then x else y)∧(∀ {b:Bool},(!b)=true↔¬b=true) ∧
    (∀ {x y:Int},ltI x y=true↔x < y)∧(∀ {x y:Int},leI x y=true↔x≤y)∧(∀ {x y:Int},eqI x y=true↔x=y)∧(∀ {i:Int} {n:Nat},inI i n=true↔0≤i∧i < (n:Int))∧(∀ {lo hi:Int} {n:Nat},A30 lo hi n=true↔0≤lo∧lo≤hi∧hi≤(n:Int)) ∧
    (∀ {n b:Nat},D8 n b=true↔n*b≤140737488355328∧n≤281474976710656)∧(∀ {n c:Int} {b:Nat},A1x n c b=true↔0≤n∧n≤c∧(b:Int)*c≤140737488355328∧c≤281474976710656)∧(∀ {α:Type} (l:List α),C7 l=(l.length:Int)) ∧
    (∀ {x y:Int},-9223372036854775808≤x+y∧x+y≤9223372036854775807→C2 .i64 x y=x+y)∧(∀ {x y:Int},-9223372036854775808≤x - y∧x - y≤9223372036854775807→E7 .i64 x y=x - y)∧(∀ {x y:Int},-9223372036854775808≤x*y∧x*y≤9223372036854775807→A0X .i64 x y=x*y) ∧
    (∀ {x y:Int},0≤x→x≤9223372036854775807→0 < y→A0W .i64 x y=x / y)∧(∀ {x y:Int},0≤x→A1y x y=x % y)∧(∀ {x y:Int},B12 x y=min x y)∧(∀ {x y:Int},C7x x y=max x y) ∧
    (∀ {α:Type} (l:List α) (i:Int) (x:α),(F1 l i x).length=l.length)∧(∀ {α:Type} (n:Int) (x:α),(I5 n x).length=n.toNat)∧(∀ {α:Type} (l:List α) (n:Int),(A0A l n).length=min n.toNat l.length)∧(∀ {α:Type} (l:List α) (n:Int),(A1d l n).length=l.length - n.toNat) ∧
    (∀ {α β:Type} (a:α) (f:α→Option β),(some a).bind f=f a)∧((false=true)=False)∧(∀ {α:Type} {x:Decidable False} (t e:α),(@ite α False x t e)=e)∧(∀ {α:Type} {x:Decidable True} (t e:α),(@ite α True x t e)=t)∧((¬False)=True)∧((¬True)=False) :=
  ⟨fun _ _=>rfl,fun _ _=>rfl,E0S,A7b,B9,K4,C4,N3,C3Y,E5,A4d,fun _=>rfl,H3,A31,A75,A7c,A58,D2x,D2y,T3,B5y,B5z,B5A,fun _ _=>rfl,Bool.false_eq_true,fun _ _=>if_false ..,fun _ _=>if_true ..,not_false_eq_true,not_true_eq_false⟩
end Go.Eng
