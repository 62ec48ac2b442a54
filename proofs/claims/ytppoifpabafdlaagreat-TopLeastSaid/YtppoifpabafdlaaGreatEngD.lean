/- The reading of the code, part D; plain numbers. -/
import Derived.Test.YtppoifpabafdlaaGreatEngC
import Derived.Laws.Externs
import Derived.Lib.BitFns
import GoSem.Extern.MathBitsCarry
set_option linter.unusedVariables false
set_option linter.unusedSimpArgs false
namespace Go.Eng
open Go.RowKit
section
variable {P:Program} {cx:Cx} {fr:Frm} {M M':Mem} {ρ:Nat→Place} {s s':St} {a:Act} {w:World}
theorem Good.env0{sv sv':SV}(g:Good fr M ρ { env:=[(0,sv)],heap:=[] } a w)(h:A0c M ρ (fun _=>.gone) (fr.val a 0) sv'):Good fr M ρ { env:=[(0,sv')],heap:=[] } a w :=
  ⟨fun t=>by
    cases t with
    | zero=>exact h
    | succ t=>exact trivial,
   g.size,g.defers,g.mem,g.old,g.objs,g.apart,g.since,g.keep⟩
abbrev A4E(e:Ty)(keeps:Bool)(fresh:Option (Nat×Nat))(rtys:List Ty):Sig:={ modes:=[.ro],sh:=[(0,.d (.slice e))],keeps:=keeps,fresh:=fresh,rtys:=rtys }
theorem A6v{f:FuncId}{fn:Func}{code:Code}{e:Ty}{keeps:Bool}{fresh:Option (Nat×Nat)}{rtys:List Ty}{model:List e.den×Unit→Option (A8H rtys)}{hs js:Nat→Option (Hint (A8H rtys))}
    (hf : P.funcs[f]? = some fn) (hb : fn.body = some code) (hname : (fn.name != "runtime.NumGoroutine") = true) (hcf : T3 P cx) (hcalls : ∀ f c, cx.call f = some c → A8G P f c) (hmix : P.follows .mixedOrders = true)
    (hn:cx.ntmps.2=fn.ntmps) (hsg:B0o (A4E e keeps fresh rtys) cx.ntmps=true) (ho:∀ fr:Frm,cx.ntmps=fr.n→HOk P fr hs js code)
    (hrun1:∀ a l,model (a::l,())=run cx hs js code (enc [(0,.d (.slice e))] (a::l,())) (D0x cx (A4E e keeps fresh rtys) fn.results.toList))
    (hrun2:model ([],())=run cx hs js code { env:=[(0,.one .nilS)],heap:=[] } (D0x cx (A4E e keeps fresh rtys) fn.results.toList))
    (hrun3:model ([],())=run cx hs js code { env:=[(0,.one (.ne e))],heap:=[] } (D0x cx (A4E e keeps fresh rtys) fn.results.toList)) :
    CSound P f (B7 (A4E e keeps fresh rtys) model):=by
  refine ⟨fun ms K=>A1f (A4E e keeps fresh rtys) model ms K,?_,?_⟩
  · simp [hf,hb,hname]
  · intro ms outs hcm M w vs hs' hM hargs hnd hfree
    have hsg':=hsg
    simp only [B0o,Bool.and_eq_true] at hsg'
    obtain ⟨⟨hsig,_⟩,hle⟩:=hsg'
    obtain ⟨x,es,hx,hP,rfl,hlen⟩:=B2I hargs hsig hcm
    obtain ⟨r,hr,he⟩:=Option.bind_eq_some_iff.1 hx
    cases he
    have hn81:vs.length≤8192:=by rw [hlen]; simp
    have g0:=A7Q hsg hP hlen hM hnd hfree
    have ht0:∀ i v,vs[i]?=some v→(vs.toArray++Array.replicate (cx.ntmps.2 - vs.toArray.size) undef).getD i undef=v:=by
      intro i v hv
      have hlt:=(List.getElem?_eq_some_iff.1 hv).1
      simp only [Array.getD_eq_getD_getElem?]
      rw [Array.getElem?_append_left (by simpa using hlt)]
      simp [hv]
    obtain ⟨s0,hs0,g1⟩:∃ s0,run cx hs js code s0 (D0x cx (A4E e keeps fresh rtys) fn.results.toList)=some r ∧
        Good { n:=cx.ntmps,pv:=fun t=>(vs.toArray++Array.replicate (cx.ntmps.2 - vs.toArray.size) undef).getD t undef,M0:=M,w0:=w,bor:=fun b=>b∈D6 (es.map (·.2)),gv:=fun t=>(vs[t - 8192]?).getD undef } M (fun i=>look Place.no (es.map fun e=>(e.1,e.2.1)) i) s0
          { tmps:=vs.toArray++Array.replicate (cx.ntmps.2 - vs.toArray.size) undef,defers:=[] } w:=by
      obtain ⟨l,u⟩:=x
      have henc:∀ y,C3Z (A4E e keeps fresh rtys) cx.ntmps.1 y=enc [(0,.d (.slice e))] y:=fun y=>rfl
      rw [henc] at g0
      cases l with
      | cons a l=>exact ⟨_,by rw [← hrun1]; exact hr,g0⟩
      | nil =>
        obtain ⟨v,vs',rfl,hp,hvs,hes⟩:=hP
        obtain ⟨cs,⟨v2,hcs,ao,cap,hv2,hc,hno,_⟩,hv⟩:=hp
        have hv3:v=.slice ao 0 cap:=by rw [hv,hcs,hv2]; simp [C8,Ty.isAgg]
        have h0:=ht0 0 v rfl
        cases ao with
        | none =>
          have:cap=0:=hno rfl
          subst this
          exact ⟨_,by rw [← hrun2]; exact hr,g0.env0 (sv':=.one .nilS) (by rw [Frm.val_lt (by omega),h0]; exact hv3)⟩
        | some ad=>exact ⟨_,by rw [← hrun3]; exact hr,g0.env0 (sv':=.one (.ne e)) (by rw [Frm.val_lt (by omega),h0]; exact ⟨ad,cap,hv3⟩)⟩
    refine calls_of_wp hf hb ?_
    rw [← hn]
    refine A3B hcf hcalls rfl hmix code _ _ (ho _ rfl) hs0 M _ _ w _ g1 ?_
    intro ex M' ρ' s' a' w' g' hk
    cases ex with
    | exit i=>cases hk
    | normal=>exact ⟨g'.defers,A4e hcf hsg hP hfree ht0 hn81 rfl g' hk⟩
    | ret=>exact ⟨g'.defers,A4e hcf hsg hP hfree ht0 hn81 rfl g' hk⟩
end
end Go.Eng
namespace Go.Eng
open Go.RowKit
theorem A2A{M:Mem}{w:World}:∀ {ms:List Mode} {vs:List Value} {mvs:List MV} {hs:List (Place×MObj)},A1d ms=true→ArgsOk M w ms vs mvs hs→All2 (S3 M) vs mvs∧hs=[]
  | [],_,_,_,_,.nil=>⟨.nil,rfl⟩
  | .ro::ms,_,_,_,h,.ro hp hb=>⟨.cons hp (A2A (ms:=ms) h hb).1,(A2A (ms:=ms) h hb).2⟩
theorem B5e{M:Mem}{w:World}:∀ {ms:List Mode} (outs:List MV),A1d ms=true→BackOk M w ms [] outs outs
  | [],_,_=>.nil
  | .ro::ms,outs,h=>.ro (B5e (ms:=ms) outs h)
theorem A3D{M:Mem}{w:World}{pl:Place}:∀ {vs:List Value} {rs:List MV} {k:Nat},All2 (S3 M) vs rs→ResOk M w none pl k vs rs
  | [],_,_,.nil=>.nil
  | _::_,_,_,.cons h hl=>.plain (by simp) h (A3D hl)
theorem B5f {P : Program} {f : FuncId} {sg : Sig} {model : A5.den sg.sh → Option (A8H sg.rtys)} (hb : (do let fn ← P.funcs[f]?; pure (fn.body.isSome && fn.name != "runtime.NumGoroutine")) = some true) (hro : A1d sg.modes = true) (hfr : sg.fresh = none)
    (h:∀ M w vs ms r,All2 (S3 M) vs ms→G5 sg.sh ms model=some r→∃ us,All2 (S3 M) us (Y9 sg.rtys r)∧Calls P f vs.toArray w fun e w'=>e=.returned (A2V us)∧w'=w):CSound P f (B7 sg model):=by
  refine ⟨fun ms K=>A1f sg model ms K,hb,?_⟩
  intro ms outs hcm M w vs hs hM hargs _ _
  obtain ⟨hpl,rfl⟩:=A2A hro hargs
  have hcm':(G5 sg.sh ms model).bind (fun r=>some (Y9 sg.rtys r))=some outs:=by
    rw [A0d]; exact hcm
  obtain ⟨r,hr,he⟩:=Option.bind_eq_some_iff.1 hcm'
  cases he
  obtain ⟨us,hu,hc⟩:=h M w vs ms r hpl hr
  refine hc.mono ?_
  rintro e w' ⟨rfl,rfl⟩
  refine ⟨M,_,us,.no,rfl,.refl M,hM,.refl _ _,fun _ _ _=>rfl,B5e _ hro,?_,fun b hb=>by cases hb⟩
  show ResOk M _ sg.fresh _ _ _ _
  rw [hfr]
  exact A3D hu
theorem P1{M:Mem}{v:Value}{k:IntKind}{x:Int}(h:S3 M v (.d (.int k) x)):v=.int k x:=by
  obtain ⟨cs,hf,he⟩:=h
  have hf':cs=[.int k x]:=hf
  subst hf'
  simpa [C8,Ty.isAgg] using he
theorem A4f{R:Type}{k:IntKind}{l:A5}{n:Nat}{ms:List MV}{K:A5.den ((n,.d (.int k))::l)→Option R}{r:R}(h:G5 ((n,.d (.int k))::l) ms K=some r) :
    ∃ (x:Int) (ms':List MV),ms=.d (.int k) x::ms'∧G5 l ms' (fun y=>K (x,y))=some r:=by
  cases ms with
  | nil=>cases h
  | cons m ms =>
    simp only [G5] at h
    cases m <;> simp only [A3C] at h <;> try (cases h; done)
    · rename_i t x
      unfold A2K at h
      split at h
      · rename_i ht
        subst ht
        exact ⟨x,ms,rfl,h⟩
      · cases h
theorem A32{R:Type}{ms:List MV}{K:A5.den []→Option R}{r:R}(h:G5 [] ms K=some r):ms=[]∧K ()=some r:=by
  cases ms with
  | nil=>exact ⟨rfl,h⟩
  | cons m ms=>cases h
def C0m:Sig:={ modes:=[.ro],sh:=[(0,.d (.int .u64))],keeps:=true,rtys:=[.int .i64] }
def O4(F:Nat)(x:Int):Option (Int×Unit):=bif leI 0 x && leI x 18446744073709551615 then some ((Lib.bitLen x.toNat:Int),()) else none
theorem B5g {P : Program} {f : FuncId} (F : Nat) (hb : (do let fn ← P.funcs[f]?; pure (fn.body.isSome && fn.name != "runtime.NumGoroutine")) = some true)
    (h:∀ (x:Int) (w:World),0≤x→x≤18446744073709551615→Calls P f #[.int .u64 x] w fun e w'=>e=.returned (.int .i64 (Lib.bitLen x.toNat))∧w'=w):CSound P f (B7 C0m fun x=>O4 F x.1):=by
  refine B5f hb rfl rfl ?_
  intro M w vs ms r hpl ht
  obtain ⟨x,ms',rfl,ht⟩:=A4f ht
  obtain ⟨rfl,ht⟩:=A32 ht
  cases hpl with
  | cons hp hn =>
    cases hn
    have hv:=P1 hp
    subst hv
    replace ht:O4 F x=some r:=ht
    unfold O4 at ht
    cases hc:(leI 0 x && leI x 18446744073709551615) <;> rw [hc] at ht <;> simp only [cond_true,cond_false,reduceCtorEq] at ht
    simp only [Bool.and_eq_true,H7] at hc
    have ht:=Option.some.inj ht
    subst ht
    exact ⟨[.int .i64 (Lib.bitLen x.toNat)],.cons (A2z _ _ _) .nil,h x w hc.1 hc.2⟩
def A3E:Sig:={ modes:=[.ro,.ro,.ro],sh:=[(0,.d (.int .u64)),(1,.d (.int .u64)),(2,.d (.int .u64))],keeps:=true,rtys:=[.int .u64,.int .u64] }
def A0m(F:Nat)(x y c:Int):Option (Int×Int×Unit) :=
  bif leI 0 x && leI 0 y && leI 0 c && leI c 1 then some ((x+y+c) % 18446744073709551616,(x+y+c) / 18446744073709551616,()) else none
def A1N(F:Nat)(x y b:Int):Option (Int×Int×Unit) :=
  bif leI 0 x && leI 0 y && leI y 18446744073709551615 && leI 0 b && leI b 1 then some ((x - y - b) % 18446744073709551616,if x < y+b then 1 else 0,()) else none
theorem B2O{P:Program}{f:FuncId}{g:Int→Int→Int→Option (Int×Int×Unit)}(h:∀ x y c r (w:World),g x y c=some r→(callFunc f #[.int .u64 x,.int .u64 y,.int .u64 c]).run P w=.ok (.value (.tuple #[.int .u64 r.1,.int .u64 r.2.1])) w) :
    CExt P f (B7 A3E fun x=>g x.1 x.2.1 x.2.2.1):=by
  refine ⟨fun ms K=>A1f A3E _ ms K,rfl,?_⟩
  intro ms outs hcm M w vs hpl
  have hcm':(G5 A3E.sh ms fun x=>g x.1 x.2.1 x.2.2.1).bind (fun r=>some (Y9 A3E.rtys r))=some outs:=by
    rw [A0d]; exact hcm
  obtain ⟨r,hr,he⟩:=Option.bind_eq_some_iff.1 hcm'
  cases he
  obtain ⟨x,m1,hm1,ht1⟩:=A4f hr
  obtain ⟨y,m2,hm2,ht2⟩:=A4f ht1
  obtain ⟨c,m3,hm3,ht3⟩:=A4f ht2
  obtain ⟨hm4,ht⟩:=A32 ht3
  subst hm4 hm3 hm2 hm1
  cases hpl with
  | cons h1 hpl =>
    cases hpl with
    | cons h2 hpl =>
      cases hpl with
      | cons h3 hpl =>
        cases hpl
        have e1:=P1 h1
        have e2:=P1 h2
        have e3:=P1 h3
        subst e1; subst e2; subst e3
        exact ⟨[.int .u64 r.1,.int .u64 r.2.1],h x y c r w ht,.cons (A2z _ _ _) (.cons (A2z _ _ _) .nil)⟩
theorem B0r{P:Program}(x y c:Nat)(hc:c≤1)(w:World){e:Array Value→Sem Value}(he:Extern.MathBitsCarry.rows[0]?.map (·.2)=some e) :
    (e #[.int .u64 x,.int .u64 y,.int .u64 c]).run P w=.ok (.tuple #[.int .u64 (((x+y+c) % 18446744073709551616:Nat):Int),.int .u64 (((x+y+c) / 18446744073709551616:Nat):Int)]) w:=by
  cases he
  have:c=0∨c=1:=by omega
  rcases this with rfl | rfl <;> rfl
theorem B0s{P:Program}(x y b:Nat)(hb:b≤1)(w:World){e:Array Value→Sem Value}(he:Extern.MathBitsCarry.rows[1]?.map (·.2)=some e) :
    (e #[.int .u64 x,.int .u64 y,.int .u64 b]).run P w=.ok (.tuple #[.int .u64 (((x+18446744073709551616 - y - b) % 18446744073709551616:Nat):Int),.int .u64 ((if x < y+b then 1 else 0:Nat):Int)]) w:=by
  cases he
  have:b=0∨b=1:=by omega
  rcases this with rfl | rfl <;> rfl
theorem C0n {P : Program} {f : FuncId} {fn : Func} (F : Nat) (hf : P.funcs[f]? = some fn) (hname : (fn.name == "runtime.NumGoroutine") = false) (hb : fn.body.isNone = true) (hn : Extern.findNext fn = none)
    (he0:Extern.find fn=Extern.MathBitsCarry.rows[0]?.map (·.2)):CExt P f (B7 A3E fun x=>A0m F x.1 x.2.1 x.2.2.1):=by
  obtain ⟨e,hr⟩:∃ e,Extern.MathBitsCarry.rows[0]?.map (·.2)=some e:=⟨_,rfl⟩
  have he:Extern.find fn=some e:=he0.trans hr
  refine B2O fun x y c r w hm=>?_
  unfold A0m at hm
  cases hc:(leI 0 x && leI 0 y && leI 0 c && leI c 1) <;> rw [hc] at hm <;> simp only [cond_true,cond_false,reduceCtorEq,Option.some.injEq] at hm
  simp only [Bool.and_eq_true,H7] at hc
  obtain ⟨⟨⟨h1,h2⟩,h3⟩,h4⟩:=hc
  subst hm
  obtain ⟨x,rfl⟩:=Int.eq_ofNat_of_zero_le h1
  obtain ⟨y,rfl⟩:=Int.eq_ofNat_of_zero_le h2
  obtain ⟨c,rfl⟩:=Int.eq_ofNat_of_zero_le h3
  rw [run_callFunc_extern hf hname hb hn he,B0r x y c (by omega) w hr]
  simp only [Result.andThen]
  congr 5 <;> omega
theorem C0o {P : Program} {f : FuncId} {fn : Func} (F : Nat) (hf : P.funcs[f]? = some fn) (hname : (fn.name == "runtime.NumGoroutine") = false) (hb : fn.body.isNone = true) (hn : Extern.findNext fn = none)
    (he0:Extern.find fn=Extern.MathBitsCarry.rows[1]?.map (·.2)):CExt P f (B7 A3E fun x=>A1N F x.1 x.2.1 x.2.2.1):=by
  obtain ⟨e,hr⟩:∃ e,Extern.MathBitsCarry.rows[1]?.map (·.2)=some e:=⟨_,rfl⟩
  have he:Extern.find fn=some e:=he0.trans hr
  refine B2O fun x y c r w hm=>?_
  unfold A1N at hm
  cases hc:(leI 0 x && leI 0 y && leI y 18446744073709551615 && leI 0 c && leI c 1) <;> rw [hc] at hm <;> simp only [cond_true,cond_false,reduceCtorEq,Option.some.injEq] at hm
  simp only [Bool.and_eq_true,H7] at hc
  obtain ⟨⟨⟨⟨h1,h2⟩,h5⟩,h3⟩,h4⟩:=hc
  subst hm
  obtain ⟨x,rfl⟩:=Int.eq_ofNat_of_zero_le h1
  obtain ⟨y,rfl⟩:=Int.eq_ofNat_of_zero_le h2
  obtain ⟨c,rfl⟩:=Int.eq_ofNat_of_zero_le h3
  have e1:(((x+18446744073709551616 - y - c) % 18446744073709551616:Nat):Int)=((x:Int) - y - c) % 18446744073709551616:=by omega
  have e2:((if x < y+c then 1 else 0:Nat):Int)=if(x:Int) < y+c then 1 else 0:=by split <;> split <;> omega
  rw [run_callFunc_extern hf hname hb hn he,B0s x y c (by omega) w hr,e1,e2]
  rfl
theorem C44{R:Type}{e t:Ty}{x:t.den}{i tid:Nat}{l:A5}{n:Nat}{ms:List MV}{K:A5.den ((n,.own i e tid)::l)→Option R}{r:R}(h:G5 ((n,.own i e tid)::l) (.d t x::ms) K=some r) :
    ∃ y:List e.den,(⟨t,x⟩:TD)=⟨.slice e,y⟩∧G5 l ms (fun ys=>K (y,ys))=some r:=by
  simp only [G5,A3C,A2K] at h
  split at h
  · rename_i ht; subst ht; exact ⟨x,rfl,h⟩
  · cases h
def A9l(e:Ty)(tid:Nat):Sig:={ modes:=[.con tid,.ro],sh:=[(0,.own 0 e tid),(1,.d (.int .i64))],keeps:=false,fresh:=some (0,tid),rtys:=[.slice e] }
def A0e{α:Type}(bytes:Nat)(l:List α)(n:Int):Option (List α×Unit):=bif leI 0 n && K3 (List.length l+n.toNat) bytes then some (l,()) else none
theorem B8O {P : Program} {cx : Cx} {f : FuncId} {e : Ty} {tid : Nat} {r : TyRow} (hcf : T3 P cx) (hr : cx.row? tid = some r) (hre : r.ty = e) (hb : (do let fn ← P.funcs[f]?; pure (fn.body.isSome && fn.name != "runtime.NumGoroutine")) = some true) (hpos : 0 < e.sz)
    (hroom:∀ (base:Option Addr) (l c n:Nat) (w:World),l≤c→c≤9223372036854775807→n≤9223372036854775807→l+n≤c→Calls P f #[.slice base l c,.int .i64 n] w fun e w'=>e=.returned (.slice base l c)∧w'=w)
    (hgrow:∀ (i0:TypeInfo) (z:Value),P.info? tid=some i0→i0.zero=some z→0 < i0.size→∀ (base:Option Addr) (l c n:Nat) (cs:List Value) (w:World),l≤c→c < l+n→(l+n)*i0.bytes≤140737488355328→l+n≤4611686018427387904 →
      cs.length=c*i0.size→(base=none→c=0)→(∀ a,base=some a→∀ j v,cs[j]?=some v→w.cell? (a.add j)=some v) →
      Calls P f #[.slice base l c,.int .i64 n] w fun e w'=>e=.returned (.slice (some ⟨w.heap.size,0,none⟩) l (grownCap w (l+n) c tid)) ∧
        w'=w.drew.alloc (.cells (cs.toArray++Builtin.zeroCells z.cells (l+n - c)++Builtin.zeroCells z.cells (grownCap w (l+n) c tid - (l+n))) tid)) :
    CSound P f (B7 (A9l e tid) fun x=>A0e r.bytes x.1 x.2.1):=by
  refine ⟨fun ms K=>A1f _ _ ms K,hb,?_⟩
  intro ms outs hcm M w vs hs hM hargs hnd hfree
  cases hargs with
  | @con _ vs rs hs pl e' _ l ho ha =>
    cases ha with
    | @ro _ vs rs hs v m hp ha =>
      cases ha with
      | nil =>
        have hcm':(G5 (A9l e tid).sh [.d (.slice e') l,m] fun x=>A0e r.bytes x.1 x.2.1).bind (fun r=>some (Y9 (A9l e tid).rtys r))=some outs:=by
          rw [A0d]; exact hcm
        obtain ⟨q,hq,ho2⟩:=Option.bind_eq_some_iff.1 hcm'
        cases ho2
        obtain ⟨l',hee,hq⟩:=C44 hq
        have he':e'=e:=by
          have:=congrArg Sigma.fst hee
          simpa using this
        subst he'
        have hl':l=l':=by simpa using hee
        subst hl'
        obtain ⟨n,m1,hm1,hq⟩:=A4f hq
        obtain ⟨hm2,hq⟩:=A32 hq
        subst hm2
        simp only [List.cons.injEq,and_true] at hm1
        subst hm1
        have hv:=P1 hp
        subst hv
        replace hq:A0e r.bytes l n=some q:=hq
        unfold A0e at hq
        cases hc:(leI 0 n && K3 (List.length l+n.toNat) r.bytes) <;> rw [hc] at hq <;> simp only [cond_true,cond_false,reduceCtorEq] at hq
        have hq:=Option.some.inj hq
        simp only [Bool.and_eq_true,H7,K7] at hc
        obtain ⟨h0,h1,h2⟩:=hc
        subst hq
        obtain ⟨n,rfl⟩:=Int.eq_ofNat_of_zero_le h0
        simp only [Int.toNat_natCast] at h1 h2
        obtain ⟨ti,z,hi,hsz,hby,hz,hzc⟩:=(hcf _ _ hr).info
        subst hre
        have hzs:z.cells.size=r.ty.sz:=by rw [← Array.length_toList,hzc,(E8.zero M r.ty).length]
        -- a new row
        have grown:∀ (base:Option Addr) (c:Nat) (cs:List Value),pl.slice l.length=.slice base l.length c→l.length≤c→c < l.length+n→cs.length=c*r.ty.sz→(base=none→c=0)→(∀ a,base=some a→∀ j v,cs[j]?=some v→w.cell? (a.add j)=some v) →
            (∃ ds,E3 (E8 M r.ty) l ds∧cs.take ds.length=ds)→Calls P f #[pl.slice l.length,.int .i64 n] w (D0w M w (B7 (A9l r.ty tid) fun x=>A0e r.bytes x.1 x.2.1) [(pl,.sl r.ty tid l)] [.d (.slice r.ty) l]):=by
          intro base c cs hpl hlc hcn hcl hnil hcell hds
          obtain ⟨ds,hds,hdt⟩:=hds
          have hk:=hgrow ti z hi hz (by rw [hsz]; exact hpos) base l.length c n cs w hlc hcn (by rw [hby]; exact h1) (by omega) (by rw [hsz]; exact hcl) hnil hcell
          rw [hpl]
          refine hk.mono ?_
          rintro e w' ⟨rfl,rfl⟩
          have hge:=grownCap_ge w (l.length+n) c tid
          have hcm:grownCap w (l.length+n) c tid≤maxLen:=grownCap_le_maxLen w (l.length+n) c tid (by unfold maxLen; omega)
          have hsi:=N3 w.drew (.cells (cs.toArray++Builtin.zeroCells z.cells (l.length+n - c)++Builtin.zeroCells z.cells (grownCap w (l.length+n) c tid - (l.length+n))) tid)
          have hM0:M w.heap.size=none:=by
            cases hmm:M w.heap.size with
            | none=>rfl
            | some ob=>have:=(Array.getElem?_eq_some_iff.1 (hM _ _ hmm)).1; omega
          have hsi':Since (fun _=>False) w (w.drew.alloc (.cells (cs.toArray++Builtin.zeroCells z.cells (l.length+n - c)++Builtin.zeroCells z.cells (grownCap w (l.length+n) c tid - (l.length+n))) tid)):=⟨hsi.os,hsi.tape,hsi.output,hsi.size,hsi.block⟩
          refine ⟨M,[.d (.slice r.ty) l],[.slice (some ⟨w.heap.size,0,none⟩) l.length (grownCap w (l.length+n) c tid)],.at w.heap.size (grownCap w (l.length+n) c tid),rfl,.refl M,hM.since hsi' (fun _ _ _ h=>h),⟨hsi.os,hsi.tape,hsi.output,hsi.size,fun b hb _=>hsi.block b hb (fun h=>h)⟩,fun _ _ _=>rfl,.con (.ro .nil),?_,?_⟩
          · refine .fresh (o:=.sl r.ty tid l) rfl rfl rfl rfl ?_ .nil
            refine ⟨by omega,hcm,_,heap_alloc_new w.drew _,?_,ds,hds,?_⟩
            · simp only [Array.size_append,List.size_toArray,size_zeroCells,hzs,hcl,← Nat.add_mul]
              congr 1; omega
            · simp only [Array.toList_append,List.append_assoc]
              have hdl:ds.length≤cs.length:=by
                have:=congrArg List.length hdt
                simp only [List.length_take] at this
                omega
              rw [List.take_append_of_le_length hdl]
              exact hdt
          · intro b hb
            cases hb
            exact ⟨hM0,by simp,.inl (Nat.le_refl _)⟩
        cases hpl:pl with
        | no =>
          rw [hpl] at ho
          have hl:l=[]:=ho
          subst hl
          by_cases hn0:n=0
          · subst hn0
            refine(hroom none 0 0 0 w (Nat.le_refl _) (Nat.zero_le _) (Nat.zero_le _) (Nat.le_refl _)).mono ?_
            rintro e w' ⟨rfl,rfl⟩
            exact ⟨M,[.d (.slice r.ty) []],[.slice none 0 0],.no,rfl,.refl M,hM,.refl _ _,fun _ _ _=>rfl,.con (.ro .nil),.fresh (o:=.sl r.ty tid []) rfl rfl rfl rfl rfl .nil,fun b hb=>by cases hb⟩
          · have:=grown none 0 [] (by rw [hpl]; rfl) (Nat.le_refl _) (by simp; omega) (by simp) (fun _=>rfl) (fun a h=>by cases h) ⟨[],rfl,rfl⟩
            rw [hpl] at this
            exact this
        | «at» b cap =>
          have ho':=ho
          rw [hpl] at ho
          obtain ⟨k1,k2,cur,k3,k4,ds,k5,k6⟩:=ho
          by_cases hfit:l.length+n≤cap
          · refine(hroom (some ⟨b,0,none⟩) l.length cap n w k1 (by unfold maxLen at k2; omega) (by omega) hfit).mono ?_
            rintro e w' ⟨rfl,rfl⟩
            have hMb:M b=none:=hfree b (by rw [hpl]; simp [D6,Place.blk])
            refine ⟨M,[.d (.slice r.ty) l],[.slice (some ⟨b,0,none⟩) l.length cap],.at b cap,rfl,.refl M,hM,.refl _ _,fun _ _ _=>rfl,.con (.ro .nil),.fresh (o:=.sl r.ty tid l) rfl rfl rfl rfl (by rw [← hpl]; exact ho') .nil,fun b' hb=>?_⟩
            cases hb
            refine ⟨hMb,(Array.getElem?_eq_some_iff.1 k3).1,.inr ?_⟩
            simp [H5,B7,A9l,Place.blk]
          · have:=grown (some ⟨b,0,none⟩) cap cur.toList (by rw [hpl]; rfl) k1 (by omega) (by simpa using k4) (fun h=>by cases h) (fun a ha j v hj=>by
              cases ha
              rw [G8,cell_of_row w b _ cur tid (0,0) k3]
              simpa using hj) ⟨ds,k5,k6⟩
            rw [hpl] at this
            exact this
end Go.Eng
namespace Go.Eng
def B0t{S E:Type}(step:S→Int→Option (S×List E×Unit)):List Int→S→List E→Option (S×List E)
  | [],s,out=>some (s,out)
  | v::l,s,out=>(step s v).bind fun r=>B0t step l r.1 (out++r.2.1)
theorem A7T{S E:Type}{step:S→Int→Option (S×List E×Unit)}:∀ {l:List Int} {s:S} {out:List E} {v:Int},B0t step (l++[v]) s out=(B0t step l s out).bind fun q=>(step q.1 v).bind fun r=>some (r.1,q.2++r.2.1)
  | [],s,out,v=>rfl
  | x::l,s,out,v=>by
    simp only [List.cons_append,B0t]
    cases step s x with
    | none=>rfl
    | some r=>exact A7T
def C0p{S E:Type}(ok:S→Prop)(step:S→Int→Option (S×List E×Unit))(N:Nat)(s0:S):Prop :=
  ∃ Inv:Nat→S→Prop,Inv 0 s0∧(∀ k s,Inv k s→ok s)∧∀ k s x,k < N→Inv k s→-9223372036854775808≤x→x≤9223372036854775807→∃ r,step s x=some r∧Inv (k+1) r.1∧r.2.1.length≤1
open Classical in
noncomputable def A5p {S E:Type} (fs fr fi:Nat) (ok:S→Prop) (step:S→Int→Option (S×List E×Unit)) (rest:S→Option (List E×Unit)):Fv×Fv×Unit→S→Fv→Option (List E×Unit)
  | (.fn a,.fn b,_),s0,.itr c l =>
    if a=fs∧b=fr∧c=fi∧l.length≤1073741824∧(∀ x∈l,-9223372036854775808≤x∧x≤9223372036854775807)∧C0p ok step l.length s0 then
      (B0t step l s0 []).bind fun q=>(rest q.1).bind fun r=>if r.1.length≤1 then some (q.2++r.1,()) else none
    else none
  | _,_,_=>none
theorem B2P{S E:Type}{fs fr fi:Nat}{ok:S→Prop}{step:S→Int→Option (S×List E×Unit)}{rest:S→Option (List E×Unit)}{x0:Fv×Fv×Unit}{s0:S}{x2:Fv}{r:List E×Unit}(h:A5p fs fr fi ok step rest x0 s0 x2=some r) :
    x0=(.fn fs,.fn fr,())∧∃ l,x2=.itr fi l∧l.length≤1073741824∧(∀ x∈l,-9223372036854775808≤x∧x≤9223372036854775807)∧C0p ok step l.length s0∧∃ s out q,B0t step l s0 []=some (s,out)∧rest s=some q∧q.1.length≤1∧r=(out++q.1,()):=by
  obtain ⟨a,b,u⟩:=x0
  cases a <;> cases b <;> cases x2 <;> simp only [A5p,reduceCtorEq] at h
  rename_i a b c l
  split at h
  · rename_i hc
    obtain ⟨rfl,rfl,rfl,h1,h2,h3⟩:=hc
    obtain ⟨q,hq,h⟩:=Option.bind_eq_some_iff.1 h
    obtain ⟨p,hp,h⟩:=Option.bind_eq_some_iff.1 h
    split at h
    · rename_i h4
      cases h
      exact ⟨rfl,l,rfl,h1,h2,h3,q.1,q.2,p,hq,hp,h4,rfl⟩
    · cases h
  · cases h
theorem B5h{S E:Type}{fs fr fi:Nat}{ok:S→Prop}{step:S→Int→Option (S×List E×Unit)}{rest:S→Option (List E×Unit)}{s0:S}{l:List Int}{s:S}{out:List E}{q:List E×Unit}(h1:l.length≤1073741824)(h2:∀ x∈l,-9223372036854775808≤x∧x≤9223372036854775807)
    (h3:C0p ok step l.length s0) (h4:B0t step l s0 []=some (s,out)) (h5:rest s=some q) (h6:q.1.length≤1):A5p fs fr fi ok step rest (.fn fs,.fn fr,()) s0 (.itr fi l)=some (out++q.1,()):=by
  simp only [A5p]
  rw [if_pos ⟨rfl,rfl,rfl,h1,h2,h3⟩,h4,Option.bind_some,h5,Option.bind_some,if_pos h6]
def C5B(s:Int×Int×Int×Int×(Bool×List Int×Unit)×Unit):Prop:=s.2.2.2.2.1.2.1.length=4
def Ext{S:Type}(rg:S→Option (Int×Int))(s s':S)(v w:Int):Prop:=∃ a b,rg s=some (a,b)∧rg s'=some (min a v,max b v)∧max b v - min a v≤w
def New{S:Type}(rg:S→Option (Int×Int))(s s':S)(v:Int)(k:Nat):Prop:=rg s'=some (v,v)∧((rg s=none∧k=0)∨(rg s≠none∧k=1))
def D4G(d:Int)(a b:Option (Int×Int))(m n:Nat):Prop :=
  (a=none∧b=none∧m=n)∨∃ p q,a=some p∧b=some q∧(m < n∨m=n∧q.1 - d≤p.1∧p.2≤q.2+d)
theorem D8C{S T E D:Type}{fA:S→Int→Option (S×List E×Unit)}{fB:T→Int→Option (T×List D×Unit)}{rA:S→Option (Int×Int)}{rB:T→Option (Int×Int)}{IA:Nat→S→Prop}{IB:Nat→T→Prop}{P:Int→Prop}{N:Nat}{wA wB d:Int}
    (hA:∀ k s v r,k < N→P v→IA k s→fA s v=some r→IA (k+1) r.1∧((Ext rA s r.1 v wA∧r.2.1.length=0)∨(New rA s r.1 v r.2.1.length∧∀ a b,rA s=some (a,b)→wA < max b v - min a v)))
    (hB:∀ k s v r,k < N→P v→IB k s→fB s v=some r→IB (k+1) r.1∧((Ext rB s r.1 v wB∧r.2.1.length=0)∨New rB s r.1 v r.2.1.length)) (hd:0≤d) (hw:wB+2*d≤wA) :
    ∀ (zs:List (Int×Int)),(∀ p∈zs,P p.1∧P p.2∧p.1 - d≤p.2∧p.2≤p.1+d)→∀ (k:Nat),k+zs.length≤N→∀ (sA:S) (sB:T) (oA:List E) (oB:List D) (sA':S) (oA':List E) (sB':T) (oB':List D),IA k sA→IB k sB →
      B0t fA (zs.map (·.1)) sA oA=some (sA',oA')→B0t fB (zs.map (·.2)) sB oB=some (sB',oB')→D4G d (rA sA) (rB sB) oA.length oB.length→D4G d (rA sA') (rB sB') oA'.length oB'.length:=by
  intro zs
  induction zs with
  | nil =>
    intro _ k _ sA sB oA oB sA' oA' sB' oB' _ _ h1 h2 h
    cases h1; cases h2; exact h
  | cons z zs ih =>
    obtain ⟨u,v⟩:=z
    intro hz k hk sA sB oA oB sA' oA' sB' oB' iA iB h1 h2 h
    obtain ⟨z3,z4,z1,z2⟩:=hz (u,v) (by simp)
    simp only at z1 z2 z3 z4
    simp only [List.length_cons] at hk
    simp only [List.map_cons,B0t] at h1 h2
    obtain ⟨p,hp,h1⟩:=Option.bind_eq_some_iff.1 h1
    obtain ⟨q,hq,h2⟩:=Option.bind_eq_some_iff.1 h2
    obtain ⟨iA',a⟩:=hA k _ _ _ (by omega) z3 iA hp
    obtain ⟨iB',b⟩:=hB k _ _ _ (by omega) z4 iB hq
    refine ih (fun y hy=>hz y (by simp [hy])) (k+1) (by omega) _ _ _ _ _ _ _ _ iA' iB' h1 h2 ?_
    simp only [List.length_append]
    rcases a with ⟨⟨a1,a2,ea,ea',hle⟩,ka⟩ | ⟨⟨ea',ka⟩,hgt⟩ <;> rcases b with ⟨⟨b1,b2,eb,eb',hleb⟩,kb⟩ | ⟨eb',kb⟩
    · rcases h with ⟨e,_⟩ | ⟨_,_,e1,e2,h⟩
      · rw [ea] at e; cases e
      · rw [ea] at e1; cases e1; rw [eb] at e2; cases e2
        refine .inr ⟨_,_,ea',eb',?_⟩
        simp only at h ⊢
        omega
    · rcases h with ⟨e,_⟩ | ⟨_,_,e1,e2,h⟩
      · rw [ea] at e; cases e
      · rw [ea] at e1; cases e1
        rcases kb with ⟨kb,_⟩ | ⟨_,kb⟩
        · rw [kb] at e2; cases e2
        · refine .inr ⟨_,_,ea',eb',?_⟩
          simp only at h ⊢
          omega
    · rcases h with ⟨_,e,_⟩ | ⟨_,_,e1,e2,h⟩
      · rw [eb] at e; cases e
      · rw [eb] at e2; cases e2
        rcases ka with ⟨ka,_⟩ | ⟨_,ka⟩
        · rw [ka] at e1; cases e1
        · have hg:=hgt _ _ e1
          refine .inr ⟨_,_,ea',eb',?_⟩
          simp only at h ⊢
          omega
    · rcases h with ⟨e1,e2,h⟩ | ⟨_,_,e1,e2,h⟩
      · rcases ka with ⟨_,ka⟩ | ⟨ka,_⟩
        · rcases kb with ⟨_,kb⟩ | ⟨kb,_⟩
          · refine .inr ⟨_,_,ea',eb',?_⟩
            simp only
            omega
          · exact absurd e2 kb
        · exact absurd e1 ka
      · rcases ka with ⟨ka,_⟩ | ⟨_,ka⟩
        · rw [ka] at e1; cases e1
        · rcases kb with ⟨kb,_⟩ | ⟨_,kb⟩
          · rw [kb] at e2; cases e2
          · refine .inr ⟨_,_,ea',eb',?_⟩
            simp only at h ⊢
            omega
end Go.Eng
namespace Go.Eng
theorem D9y{α:Type}(b:Bool)(x y:α):(bif b then x else y)=if b=true then x else y:=by cases b <;> rfl
theorem B0u{b:Bool}:(not b=true)↔¬ (b=true):=by cases b <;> simp
theorem C0q{k:IntKind}{x y:Int}(hx:0≤x)(hk:k=.i64∨k=.u64)(hm:x≤9223372036854775807)(hy:0 < y):A4L k x y=x / y:=by
  have h1:0≤x / y:=Int.ediv_nonneg hx (by omega)
  have h2:x / y≤x:=Int.ediv_le_self _ hx
  unfold A4L
  rw [Int.tdiv_eq_ediv_of_nonneg hx]
  rcases hk with rfl | rfl
  · exact Q6 (by omega)
  · exact F5 (by omega)
theorem B0v{x y:Int}(hx:0≤x)(hm:x≤9223372036854775807)(hy:0 < y):A4L .i64 x y=x / y:=C0q hx (.inl rfl) hm hy
theorem B5i{x y:Int}(hx:0≤x):A3j x y=x % y:=by
  unfold A3j; exact Int.tmod_eq_emod_of_nonneg hx
theorem C45{x y:Int}(h:0≤x*y∧x*y≤18446744073709551615):A2H .u64 x y=x*y:=F5 h
theorem A1V{x y:Int}:A3u x y=min x y:=by unfold A3u; omega
theorem A3F{x y:Int}:B2b x y=max x y:=by unfold B2b; omega
theorem A4W{α:Type}(l:List α)(i:Int)(x:α):(T2 l i x).length=l.length:=by simp [T2]
theorem B2Q{α:Type}(n:Int)(x:α):(I7 n x).length=n.toNat:=by simp [I7]
theorem B2S{α:Type}(l:List α)(n:Int):(N9 l n).length=min n.toNat l.length:=by simp [N9]
theorem B2T{α:Type}(l:List α)(n:Int):(S0 l n).length=l.length - n.toNat:=by simp [S0]
theorem A04{α:Type}(d:α)(l:List α)(i:Nat):B9 d l (i:Int)=l.getD i d:=by simp [B9]
def nb(x:Int)(k:Nat):Bool:=x.toNat.testBit k
theorem B2U{x y:Int}(hx:0≤x)(hy:0≤y)(h:∀ k,nb x k=nb y k):x=y:=by
  have:x.toNat=y.toNat:=Nat.eq_of_testBit_eq h
  omega
theorem A4X(k:Nat):nb 0 k=false:=by simp [nb]
theorem A4F(n k:Nat):nb (n:Int) k=n.testBit k:=by simp [nb]
theorem B2V{x:Int}{w:Nat}(hx:0≤x)(h:x < 2 ^ w){k:Nat}(hk:w≤k):nb x k=false:=by
  unfold nb
  apply Nat.testBit_lt_two_pow
  have h1:x.toNat < 2 ^ w:=by
    have:((x.toNat:Nat):Int) < ((2 ^ w:Nat):Int):=by push_cast; omega
    exact Int.ofNat_lt.1 this
  exact Nat.lt_of_lt_of_le h1 (Nat.pow_le_pow_right (by omega) hk)
theorem B0w{x:Int}{w:Nat}(hx:0≤x)(h:∀ k,w≤k→nb x k=false):x < 2 ^ w:=by
  have h1:x.toNat < 2 ^ w:=by
    apply Nat.lt_pow_two_of_testBit
    intro i hi
    exact h i hi
  have:((x.toNat:Nat):Int) < ((2 ^ w:Nat):Int):=Int.ofNat_lt.2 h1
  push_cast at this
  omega
theorem A6w{k:Nat}{x:Int}(hx:0≤x):(BitVec.ofInt k x).toNat=x.toNat % 2 ^ k:=by
  obtain ⟨n,rfl⟩:=Int.eq_ofNat_of_zero_le hx
  simp [BitVec.toNat_ofInt]
theorem C0r{x y:Int}(hx:0≤x∧x≤255)(hy:0≤y∧y≤255):orI .u8 x y=((x.toNat ||| y.toNat:Nat):Int):=by
  unfold orI
  have h1:x.toNat < 2 ^ 8:=by omega
  have h2:y.toNat < 2 ^ 8:=by omega
  have h3:=Nat.or_lt_two_pow h1 h2
  show IntKind.u8.wrap (((BitVec.ofInt 8 x ||| BitVec.ofInt 8 y).toNat:Nat):Int)=_
  rw [BitVec.toNat_or,A6w hx.1,A6w hy.1,Nat.mod_eq_of_lt h1,Nat.mod_eq_of_lt h2,B5d (by omega)]
theorem A3G{x y:Int}(hx:0≤x∧x≤18446744073709551615)(hy:0≤y∧y≤18446744073709551615):orI .u64 x y=((x.toNat ||| y.toNat:Nat):Int):=by
  unfold orI
  have h1:x.toNat < 2 ^ 64:=by omega
  have h2:y.toNat < 2 ^ 64:=by omega
  have h3:=Nat.or_lt_two_pow h1 h2
  show IntKind.u64.wrap (((BitVec.ofInt 64 x ||| BitVec.ofInt 64 y).toNat:Nat):Int)=_
  rw [BitVec.toNat_or,A6w hx.1,A6w hy.1,Nat.mod_eq_of_lt h1,Nat.mod_eq_of_lt h2,F5 (by omega)]
theorem B0x{x y:Int}(hx:0≤x∧x≤18446744073709551615)(hy:0≤y∧y≤18446744073709551615):B2d .u64 x y=((x.toNat ^^^ y.toNat:Nat):Int):=by
  unfold B2d
  have h1:x.toNat < 2 ^ 64:=by omega
  have h2:y.toNat < 2 ^ 64:=by omega
  have h3:=Nat.xor_lt_two_pow h1 h2
  show IntKind.u64.wrap (((BitVec.ofInt 64 x ^^^ BitVec.ofInt 64 y).toNat:Nat):Int)=_
  rw [BitVec.toNat_xor,A6w hx.1,A6w hy.1,Nat.mod_eq_of_lt h1,Nat.mod_eq_of_lt h2,F5 (by omega)]
theorem B0y{x y:Int}(hx:0≤x∧x≤18446744073709551615)(hy:0≤y∧y≤18446744073709551615):A6I .u64 x y=((x.toNat &&& y.toNat:Nat):Int):=by
  unfold A6I
  have h1:x.toNat < 2 ^ 64:=by omega
  have h2:y.toNat < 2 ^ 64:=by omega
  have h3:x.toNat &&& y.toNat < 2 ^ 64:=Nat.and_lt_two_pow _ h2
  show IntKind.u64.wrap (((BitVec.ofInt 64 x &&& BitVec.ofInt 64 y).toNat:Nat):Int)=_
  rw [BitVec.toNat_and,A6w hx.1,A6w hy.1,Nat.mod_eq_of_lt h1,Nat.mod_eq_of_lt h2,F5 (by omega)]
theorem C0s{x y:Int}(hx:0≤x∧x≤255)(hy:0≤y∧y≤255):0≤orI .u8 x y∧orI .u8 x y≤255:=by
  rw [C0r hx hy]
  have h3:=Nat.or_lt_two_pow (n:=8) (show x.toNat < 2 ^ 8 by omega) (show y.toNat < 2 ^ 8 by omega)
  omega
theorem A9m{x y:Int}(hx:0≤x∧x≤18446744073709551615)(hy:0≤y∧y≤18446744073709551615):0≤orI .u64 x y∧orI .u64 x y≤18446744073709551615:=by
  rw [A3G hx hy]
  have h3:=Nat.or_lt_two_pow (n:=64) (show x.toNat < 2 ^ 64 by omega) (show y.toNat < 2 ^ 64 by omega)
  omega
theorem C46{x y:Int}(hx:0≤x∧x≤255)(hy:0≤y∧y≤255)(k:Nat):nb (orI .u8 x y) k=(nb x k || nb y k):=by
  rw [C0r hx hy,A4F,Nat.testBit_or]; rfl
theorem B2W{x y:Int}(hx:0≤x∧x≤18446744073709551615)(hy:0≤y∧y≤18446744073709551615)(k:Nat):nb (orI .u64 x y) k=(nb x k || nb y k):=by
  rw [A3G hx hy,A4F,Nat.testBit_or]; rfl
theorem B8P{x y:Int}(hx:0≤x∧x≤18446744073709551615)(hy:0≤y∧y≤18446744073709551615)(k:Nat):nb (A6I .u64 x y) k=(nb x k && nb y k):=by
  rw [B0y hx hy,A4F,Nat.testBit_and]; rfl
theorem B5j{x y:Int}(hx:0≤x∧x≤18446744073709551615)(hy:0≤y∧y≤18446744073709551615):0≤A6I .u64 x y∧A6I .u64 x y≤y:=by
  rw [B0y hx hy]
  have:=Nat.and_le_right (n:=x.toNat) (m:=y.toNat)
  omega
theorem A2c{x s:Int}(hx:0≤x)(hs:0≤s):A2v .u64 x s=((x.toNat*2 ^ min s.toNat 64 % 2 ^ 64:Nat):Int):=by
  obtain ⟨n,rfl⟩:=Int.eq_ofNat_of_zero_le hx
  unfold A2v
  rw [C4]
  simp only [IntKind.bits,Int.toNat_natCast]
  rw [Int.natCast_emod,Int.natCast_mul,Int.natCast_pow]
  rfl
theorem C0t{x s:Int}(hx:0≤x)(hs:0≤s):A2v .u8 x s=((x.toNat*2 ^ min s.toNat 8 % 2 ^ 8:Nat):Int):=by
  obtain ⟨n,rfl⟩:=Int.eq_ofNat_of_zero_le hx
  unfold A2v
  rw [A30]
  simp only [IntKind.bits,Int.toNat_natCast]
  rw [Int.natCast_emod,Int.natCast_mul,Int.natCast_pow]
  rfl
theorem B8Q{x s:Int}(hx:0≤x)(hs:0≤s)(k:Nat):nb (A2v .u64 x s) k=(decide (k < 64) && decide (s.toNat≤k) && nb x (k - s.toNat)):=by
  rw [A2c hx hs,A4F,Nat.testBit_mod_two_pow,Nat.testBit_mul_two_pow]
  by_cases hk:k < 64
  · by_cases h2:s.toNat≤k
    · rw [Nat.min_eq_left (by omega)]; simp [hk,h2,nb]
    · by_cases h3:s.toNat≤64
      · rw [Nat.min_eq_left h3]; simp [hk,h2]
      · rw [Nat.min_eq_right (by omega)]; simp [hk,h2]; omega
  · simp [hk]
theorem C0u{x s:Int}(hx:0≤x)(hs:0≤s)(k:Nat):nb (A2v .u8 x s) k=(decide (k < 8) && decide (s.toNat≤k) && nb x (k - s.toNat)):=by
  rw [C0t hx hs,A4F,Nat.testBit_mod_two_pow,Nat.testBit_mul_two_pow]
  by_cases hk:k < 8
  · by_cases h2:s.toNat≤k
    · rw [Nat.min_eq_left (by omega)]; simp [hk,h2,nb]
    · by_cases h3:s.toNat≤8
      · rw [Nat.min_eq_left h3]; simp [hk,h2]
      · rw [Nat.min_eq_right (by omega)]; simp [hk,h2]; omega
  · simp [hk]
theorem B5k{x s:Int}(hx:0≤x)(hs:0≤s):0≤A2v .u64 x s∧A2v .u64 x s≤18446744073709551615:=by
  rw [A2c hx hs]
  have:=Nat.mod_lt (x.toNat*2 ^ min s.toNat 64) (show 0 < 2 ^ 64 by decide)
  omega
theorem B8S{x s:Int}(hx:0≤x)(hs:0≤s):0≤A2v .u8 x s∧A2v .u8 x s≤255:=by
  rw [C0t hx hs]
  have:=Nat.mod_lt (x.toNat*2 ^ min s.toNat 8) (show 0 < 2 ^ 8 by decide)
  omega
theorem A2d{kd:IntKind}{x s:Int}(hx:0≤x):A0q kd x s=((x.toNat / 2 ^ min s.toNat kd.bits:Nat):Int):=by
  obtain ⟨n,rfl⟩:=Int.eq_ofNat_of_zero_le hx
  unfold A0q
  have h:(0:Int)≤2 ^ min s.toNat kd.bits:=Int.le_of_lt (Int.pow_pos (by decide))
  rw [Int.fdiv_eq_ediv_of_nonneg _ h,Int.toNat_natCast,Int.natCast_ediv,Int.natCast_pow]
  rfl
theorem B6d{kd:IntKind}{x s:Int}(hx:0≤x)(k:Nat):nb (A0q kd x s) k=nb x (min s.toNat kd.bits+k):=by
  rw [A2d hx,A4F,Nat.testBit_div_two_pow]; rw [Nat.add_comm]; rfl
theorem A60{kd:IntKind}{x s:Int}(hx:0≤x):0≤A0q kd x s∧A0q kd x s≤x:=by
  rw [A2d hx]
  have:=Nat.div_le_self x.toNat (2 ^ min s.toNat kd.bits)
  generalize x.toNat / 2 ^ min s.toNat kd.bits=q at *
  omega
theorem B8T{x:Int}(hx:0≤x)(k:Nat):nb (IntKind.u8.wrap x) k=(decide (k < 8) && nb x k):=by
  obtain ⟨n,rfl⟩:=Int.eq_ofNat_of_zero_le hx
  rw [A30,show((n:Int) % 256)=((n % 2 ^ 8:Nat):Int) by rw [Int.natCast_emod]; rfl,A4F,Nat.testBit_mod_two_pow]; simp [nb]
theorem A7U(x:Int):0≤IntKind.u8.wrap x∧IntKind.u8.wrap x≤255:=by rw [A30]; omega
theorem A1g(x:Int):0≤IntKind.u64.wrap x∧IntKind.u64.wrap x≤18446744073709551615:=by rw [C4]; omega
theorem C0v{n:Int}(hn:0≤n∧n≤63):I5 .u64 (A2v .u64 1 n) 1=((2 ^ n.toNat - 1:Nat):Int):=by
  have h1:n.toNat≤63:=by omega
  have h2:2 ^ n.toNat≤2 ^ 63:=Nat.pow_le_pow_right (by omega) h1
  have h3:0 < 2 ^ n.toNat:=Nat.pow_pos (by omega)
  rw [A2c (by omega) hn.1,Nat.min_eq_left (by omega),show(1:Int).toNat=1 from rfl,Nat.one_mul,Nat.mod_eq_of_lt (by omega),B6c (by omega)]
  omega
theorem C7A{n:Int}(hn:0≤n∧n≤63)(k:Nat):nb (I5 .u64 (A2v .u64 1 n) 1) k=decide (k < n.toNat):=by
  rw [C0v hn,A4F,Nat.testBit_two_pow_sub_one]
theorem C47{n:Int}(hn:0≤n∧n≤63):0≤I5 .u64 (A2v .u64 1 n) 1∧I5 .u64 (A2v .u64 1 n) 1≤18446744073709551615:=by
  have h1:n.toNat≤63:=by omega
  have h2:2 ^ n.toNat≤2 ^ 63:=Nat.pow_le_pow_right (by omega) h1
  rw [C0v hn]
  omega
def Bt(l:List Int):Prop:=∀ x∈l,0≤x∧x≤255
def Wd(l:List Int):Prop:=∀ x∈l,0≤x∧x≤18446744073709551615
theorem A6X{α:Type}{P:α→Prop}{l:List α}{d:α}(h:∀ x∈l,P x)(hd:P d)(i:Nat):P (l.getD i d):=by
  rw [List.getD_eq_getElem?_getD]
  cases hx:l[i]? with
  | none=>exact hd
  | some x=>exact h x (List.mem_of_getElem? hx)
theorem C0w{α:Type}{P:α→Prop}{l:List α}{x:α}(h:∀ x∈l,P x)(hx:P x)(i:Nat):∀ y∈l.set i x,P y:=by
  intro y hy
  rcases List.mem_or_eq_of_mem_set hy with h1 | h1
  · exact h y h1
  · rw [h1]; exact hx
theorem Bt.get{l:List Int}(h:Bt l)(i:Int):0≤B9 0 l i∧B9 0 l i≤255:=A6X (P:=fun x=>0≤x∧x≤255) h (by omega) _
theorem Wd.get{l:List Int}(h:Wd l)(i:Int):0≤B9 0 l i∧B9 0 l i≤18446744073709551615:=A6X (P:=fun x=>0≤x∧x≤18446744073709551615) h (by omega) _
theorem Bt.set{l:List Int}(h:Bt l)(i:Int){x:Int}(hx:0≤x∧x≤255):Bt (T2 l i x):=C0w (P:=fun x=>0≤x∧x≤255) h hx _
theorem Wd.set{l:List Int}(h:Wd l)(i:Int){x:Int}(hx:0≤x∧x≤18446744073709551615):Wd (T2 l i x):=C0w (P:=fun x=>0≤x∧x≤18446744073709551615) h hx _
theorem Bt.repl(n:Int):Bt (I7 n 0):=fun x hx=>by simp [I7] at hx; omega
theorem Wd.repl(n:Int):Wd (I7 n 0):=fun x hx=>by simp [I7] at hx; omega
theorem Bt.nil:Bt []:=fun x hx=>by cases hx
theorem Wd.nil:Wd []:=fun x hx=>by cases hx
theorem Bt.append{l m:List Int}(h:Bt l)(k:Bt m):Bt (l++m):=fun x hx=>(List.mem_append.1 hx).elim (h x) (k x)
theorem Wd.append{l m:List Int}(h:Wd l)(k:Wd m):Wd (l++m):=fun x hx=>(List.mem_append.1 hx).elim (h x) (k x)
theorem Bt.one{x:Int}(h:0≤x∧x≤255):Bt [x]:=fun y hy=>by simp at hy; subst hy; exact h
theorem Wd.one{x:Int}(h:0≤x∧x≤18446744073709551615):Wd [x]:=fun y hy=>by simp at hy; subst hy; exact h
theorem B6e{α:Type}(l:List α)(i j:Nat)(x d:α)(h:i < l.length):(l.set i x).getD j d=if j=i then x else l.getD j d:=by
  simp only [List.getD_eq_getElem?_getD,List.getElem?_set]
  by_cases e:i=j
  · subst e; simp [h]
  · rw [if_neg e,if_neg (fun x=>e x.symm)]
def A1h(b:List Int)(p:Nat):Bool:=nb (b.getD (p / 8) 0) (p % 8)
theorem B2X{a b:List Int}(ha:Bt a)(hb:Bt b)(hl:a.length=b.length)(h:∀ p,p < 8*a.length→A1h a p=A1h b p):a=b:=by
  apply List.ext_getElem hl
  intro i h1 h2
  have ra:=ha a[i] (List.getElem_mem h1)
  have rb:=hb b[i] (List.getElem_mem h2)
  apply B2U ra.1 rb.1
  intro k
  by_cases hk:k < 8
  · have:=h (8*i+k) (by omega)
    unfold A1h at this
    rw [show(8*i+k) / 8=i by omega,show(8*i+k) % 8=k by omega] at this
    simpa [List.getD_eq_getElem?_getD,h1,h2] using this
  · rw [B2V (w:=8) ra.1 (by omega) (by omega),B2V (w:=8) rb.1 (by omega) (by omega)]
theorem A7V{b:List Int}{p:Nat}(h:8*b.length≤p):A1h b p=false:=by
  unfold A1h
  rw [List.getD_eq_getElem?_getD,List.getElem?_eq_none (by omega)]
  exact A4X _
theorem B8U(n:Int)(p:Nat):A1h (I7 n 0) p=false:=by
  unfold A1h
  have:(I7 n (0:Int)).getD (p / 8) 0=0:=by
    simp only [I7,List.getD_eq_getElem?_getD,List.getElem?_replicate]
    split <;> rfl
  rw [this]; exact A4X _
theorem bs:(∀ {α:Type} (a b:α),(bif true then a else b)=a)∧(∀ {α:Type} (a b:α),(bif false then a else b)=b)∧(∀ {α:Type} (b:Bool) (x y:α),(bif b then x else y)=if b=true then x else y)∧(∀ {b:Bool},(!b)=true↔¬b=true) ∧
    (∀ {x y:Int},ltI x y=true↔x < y)∧(∀ {x y:Int},leI x y=true↔x≤y)∧(∀ {x y:Int},eqI x y=true↔x=y)∧(∀ {i:Int} {n:Nat},inI i n=true↔0≤i∧i < (n:Int))∧(∀ {lo hi:Int} {n:Nat},A29 lo hi n=true↔0≤lo∧lo≤hi∧hi≤(n:Int)) ∧
    (∀ {n b:Nat},K3 n b=true↔n*b≤140737488355328∧n≤281474976710656)∧(∀ {n c:Int} {b:Nat},Y8 n c b=true↔0≤n∧n≤c∧(b:Int)*c≤140737488355328∧c≤281474976710656)∧(∀ {α:Type} (l:List α),C7 l=(l.length:Int)) ∧
    (∀ {x y:Int},-9223372036854775808≤x+y∧x+y≤9223372036854775807→D5 .i64 x y=x+y)∧(∀ {x y:Int},-9223372036854775808≤x - y∧x - y≤9223372036854775807→I5 .i64 x y=x - y)∧(∀ {x y:Int},-9223372036854775808≤x*y∧x*y≤9223372036854775807→A2H .i64 x y=x*y) ∧
    (∀ {x y:Int},0≤x→x≤9223372036854775807→0 < y→A4L .i64 x y=x / y)∧(∀ {x y:Int},0≤x→A3j x y=x % y)∧(∀ {x y:Int},A3u x y=min x y)∧(∀ {x y:Int},B2b x y=max x y) ∧
    (∀ {α:Type} (l:List α) (i:Int) (x:α),(T2 l i x).length=l.length)∧(∀ {α:Type} (n:Int) (x:α),(I7 n x).length=n.toNat)∧(∀ {α:Type} (l:List α) (n:Int),(N9 l n).length=min n.toNat l.length)∧(∀ {α:Type} (l:List α) (n:Int),(S0 l n).length=l.length - n.toNat) ∧
    (∀ {α β:Type} (a:α) (f:α→Option β),(some a).bind f=f a)∧((false=true)=False)∧(∀ {α:Type} {x:Decidable False} (t e:α),(@ite α False x t e)=e)∧(∀ {α:Type} {x:Decidable True} (t e:α),(@ite α True x t e)=t)∧((¬False)=True)∧((¬True)=False) :=
  ⟨fun _ _=>rfl,fun _ _=>rfl,D9y,B0u,B8,H7,D1,G9,B2N,K7,V4,fun _=>rfl,H4,A31,C43,B0v,B5i,A1V,A3F,A4W,B2Q,B2S,B2T,fun _ _=>rfl,Bool.false_eq_true,fun _ _=>if_false ..,fun _ _=>if_true ..,not_false_eq_true,not_true_eq_false⟩
end Go.Eng
