/- A reading of the model's code by plain functions, part A: what each operation does. Nothing of a program stands here. -/
import Derived.WalkKit
set_option linter.unusedVariables false
set_option linter.unusedSimpArgs false
namespace Go.Eng
inductive Fv where
  | nil | fn (f:Nat) | itr (f:Nat) (l:List Int)
inductive Ty where
  | int (k:IntKind) | bool | str | unit | pair (a b:Ty) | arr (n:Nat) (t:Ty) | slice (t:Ty)
  | nil
  | val
  | ifc
  | ptr
  | fnc
  deriving DecidableEq
abbrev Ty.den:Ty→Type
  | .int _=>Int
  | .bool=>Bool
  | .str=>ByteArray
  | .unit=>Unit
  | .nil=>Unit
  | .val=>Value
  | .ifc=>Option Nat
  | .ptr=>Unit
  | .fnc=>Fv
  | .pair a b=>a.den×b.den
  | .arr _ t=>List t.den
  | .slice t=>List t.den
def Ty.sz:Ty→Nat
  | .int _ | .bool | .str | .slice _ | .nil | .val | .ifc | .ptr | .fnc=>1
  | .unit=>0
  | .pair a b=>a.sz+b.sz
  | .arr n t=>n*t.sz
def Ty.isAgg:Ty→Bool
  | .unit | .pair _ _ | .arr _ _=>true
  | _=>false
def Ty.depth:Ty→Nat
  | .pair a b=>max a.depth b.depth+1
  | .arr _ t=>t.depth+1
  | _=>1
def Ty.flat:Ty→Bool
  | .slice _ | .nil | .val | .ifc | .ptr | .fnc=>false
  | .pair a b=>a.flat && b.flat
  | .arr _ t=>t.flat
  | _=>true
def dflt:(t:Ty)→t.den
  | .int _=>(0:Int)
  | .bool=>false
  | .str=>ByteArray.empty
  | .unit=>()
  | .nil=>()
  | .val=>(.slice none 0 0:Value)
  | .ifc=>(none:Option Nat)
  | .ptr=>()
  | .fnc=>Fv.nil
  | .pair a b=>(dflt a,dflt b)
  | .arr n t=>List.replicate n (dflt t)
  | .slice _=>[]
def eqL{α:Type}(f:α→α→Bool):List α→List α→Bool
  | [],[]=>true
  | x::l,y::m=>f x y && eqL f l m
  | _,_=>false
def eqT:(t:Ty)→t.den→t.den→Bool
  | .int _,x,y=>decide ((x:Int)=y)
  | .bool,x,y=>(x:Bool) == y
  | .str,x,y=>(x:ByteArray) == y
  | .unit,_,_=>true
  | .pair a b,x,y=>eqT a x.1 y.1 && eqT b x.2 y.2
  | .arr _ t,x,y=>eqL (eqT t) x y
  | .slice _,_,_=>false
  | .nil,_,_=>false
  | .val,_,_=>false
  | .ifc,_,_=>false
  | .ptr,_,_=>false
  | .fnc,_,_=>false
def ltI(x y:Int):Bool:=decide (x < y)
def leI(x y:Int):Bool:=decide (x≤y)
def eqI(x y:Int):Bool:=decide (x=y)
def D5(k:IntKind)(x y:Int):Int:=k.wrap (x+y)
def I5(k:IntKind)(x y:Int):Int:=k.wrap (x - y)
def A2H(k:IntKind)(x y:Int):Int:=k.wrap (x*y)
def A4L(k:IntKind)(x y:Int):Int:=k.wrap (x.tdiv y)
def A3j(x y:Int):Int:=x.tmod y
def A6I(k:IntKind)(x y:Int):Int:=k.wrap (BitVec.ofInt k.bits x &&& BitVec.ofInt k.bits y).toNat
def orI(k:IntKind)(x y:Int):Int:=k.wrap (BitVec.ofInt k.bits x ||| BitVec.ofInt k.bits y).toNat
def B2d(k:IntKind)(x y:Int):Int:=k.wrap (BitVec.ofInt k.bits x ^^^ BitVec.ofInt k.bits y).toNat
def B4A(k:IntKind)(x y:Int):Int:=k.wrap (BitVec.ofInt k.bits x &&& ~~~ BitVec.ofInt k.bits y).toNat
def A2v(k:IntKind)(x y:Int):Int:=k.wrap (x*2 ^ min y.toNat k.bits)
def A0q(k:IntKind)(x y:Int):Int:=x.fdiv (2 ^ min y.toNat k.bits)
def A3u(x y:Int):Int:=if y < x then y else x
def B2b(x y:Int):Int:=if x < y then y else x
def C7{α:Type}(l:List α):Int:=(l.length:Int)
def inI(i:Int)(n:Nat):Bool:=decide (0≤i∧i < (n:Int))
def A29(lo hi:Int)(n:Nat):Bool:=decide (0≤lo∧lo≤hi∧hi≤(n:Int))
def B9{α:Type}(d:α)(l:List α)(i:Int):α:=l.getD i.toNat d
def T2{α:Type}(l:List α)(i:Int)(x:α):List α:=l.set i.toNat x
def S0{α:Type}(l:List α)(i:Int):List α:=l.drop i.toNat
def N9{α:Type}(l:List α)(i:Int):List α:=l.take i.toNat
def K3(n bytes:Nat):Bool:=decide (n*bytes≤140737488355328∧n≤281474976710656)
def Y8(n c:Int)(bytes:Nat):Bool:=decide (0≤n∧n≤c∧(bytes:Int)*c≤140737488355328∧c≤281474976710656)
def I7{α:Type}(n:Int)(x:α):List α:=List.replicate n.toNat x
inductive Step where
  | fld (f:Nat) | idx (i:Nat)
  deriving DecidableEq
def getP:(t:Ty)→List Step→t.den→Option ((t':Ty)×t'.den)
  | t,[],x=>some ⟨t,x⟩
  | .pair a _,.fld 0::p,x=>getP a p x.1
  | .pair _ b,.fld (n+1)::p,x=>getP b (.fld n::p) x.2
  | .arr _ e,.idx i::p,l=>getP e p (List.getD l i (dflt e))
  | _,_,_=>none
def setP:(t:Ty)→List Step→t.den→(t':Ty)→t'.den→Option t.den
  | t,[],_,t',v=>if h:t'=t then some (h ▸ v) else none
  | .pair a _,.fld 0::p,x,t',v=>(setP a p x.1 t' v).map fun y=>(y,x.2)
  | .pair _ b,.fld (n+1)::p,x,t',v=>(setP b (.fld n::p) x.2 t' v).map fun y=>(x.1,y)
  | .arr _ e,.idx i::p,l,t',v=>(setP e p (List.getD l i (dflt e)) t' v).map fun y=>List.set l i y
  | _,_,_,_,_=>none
def tyP:Ty→List Step→Option Ty
  | t,[]=>some t
  | .pair a _,.fld 0::p=>tyP a p
  | .pair _ b,.fld (n+1)::p=>tyP b (.fld n::p)
  | .arr _ e,.idx _::p=>tyP e p
  | _,_=>none
inductive MV where
  | dead
  | d (t:Ty) (x:t.den)
  | nilS
  | own (id:Nat)
  | pa (id:Nat) (p:List Step)
  | dp (t:Ty) (x:t.den)
  | fn (f:Nat)
  | und
  | cut (id i j:Nat)
  | ne (e:Ty)
  | vw (id i j:Nat)
  | vp (id i n:Nat)
  | ps (id:Nat) (l:List (List Step))
  | pq (id:Nat) (p:List Step)
inductive SV where
  | one (m:MV) | tup (ms:List MV)
inductive MObj where
  | gone
  | sl (e:Ty) (tid:Nat) (l:List e.den)
  | bx (t:Ty) (x:t.den)
def MObj.getP:MObj→List Step→Option ((t:Ty)×t.den)
  | .bx t x,p=>Eng.getP t p x
  | .sl e _ l,.idx i::p=>Eng.getP e p (List.getD l i (dflt e))
  | _,_=>none
def MObj.setP:MObj→List Step→(t':Ty)→t'.den→Option MObj
  | .bx t x,p,t',v=>(Eng.setP t p x t' v).map fun y=>.bx t y
  | .sl e n l,.idx i::p,t',v=>(Eng.setP e p (List.getD l i (dflt e)) t' v).map fun y=>.sl e n (List.set l i y)
  | _,_,_,_=>none
def MObj.tyP:MObj→List Step→Option Ty
  | .bx t _,p=>Eng.tyP t p
  | .sl e _ _,.idx _::p=>Eng.tyP e p
  | _,_=>none
structure St where
  env:List (Nat×SV)
  heap:List (Nat×MObj)
def look{α:Type}(d:α):List (Nat×α)→Nat→α
  | [],_=>d
  | (k,x)::l,t=>bif Nat.beq k t then x else look d l t
def St.get(s:St)(t:Nat):SV:=look (.one .dead) s.env t
def St.obj(s:St)(id:Nat):MObj:=look .gone s.heap id
def St.put(s:St)(t:Nat)(v:SV):St:={ s with env:=(t,v)::s.env }
def A7k:Value→MV
  | .int k n=>.d (.int k) n
  | .bool b=>.d .bool b
  | .string b=>.d .str b
  | .slice none 0 0=>.nilS
  | .nilIface=>.d .ifc none
  | _=>.dead
def St.eval(s:St):Operand→SV
  | .tmp t=>bif Nat.blt t 8192 then s.get t else .one .dead
  | .const v=>.one (A7k v)
  | .global _=>.one .dead
  | .func f=>.one (.fn f)
def MV.id?:MV→Option Nat
  | .own i | .pa i _ | .cut i _ _ | .vw i _ _ | .vp i _ _ | .ps i _ | .pq i _=>some i
  | _=>none
def MV.repl(m:MV)(id:Nat)(y:MV):MV :=
  match m with
  | .own i=>bif Nat.beq i id then y else .own i
  | .pa i p=>bif Nat.beq i id then .dead else .pa i p
  | .cut i a b=>bif Nat.beq i id then .dead else .cut i a b
  | .vw i a b=>bif Nat.beq i id then .dead else .vw i a b
  | .vp i a b=>bif Nat.beq i id then .dead else .vp i a b
  | .ps i l=>bif Nat.beq i id then .dead else .ps i l
  | .pq i p=>bif Nat.beq i id then .dead else .pq i p
  | m=>m
def SV.repl(v:SV)(id:Nat)(y:MV):SV :=
  match v with
  | .one m=>.one (m.repl id y)
  | .tup ms=>.tup (ms.map fun m=>m.repl id y)
def St.repl(s:St)(id:Nat)(y:MV):St:={ s with env:=s.env.map fun (t,v)=>(t,v.repl id y) }
structure Eff where
  rep:List (Nat×MV):=[]
  objs:List (Nat×MObj):=[]
  val:SV
def Eff.app(e:Eff)(dst:Option Nat)(s:St):St :=
  let s1:=e.rep.foldl (fun s (id,y)=>s.repl id y) s
  let s2:St:={ s1 with heap:=e.objs++s1.heap }
  match dst with
  | some t=>s2.put t e.val
  | none=>s2
inductive Mode where
  | ro | bor | wr (tid:Nat) | con (tid:Nat)
structure Contract where
  modes:List Mode
  keeps:Bool:=false
  fresh:Option (Nat×Nat):=none
  cm:{R:Type}→List MV→(List MV→Option R)→Option R
structure TyRow where
  ty:Ty
  elem:Nat:=0
  bytes:Nat:=0
  meth:List (String×Nat×Ty):=[]
def B8j(o:Option Nat)(t:Nat):Bool:=match o with | some k=>Nat.beq k t | none=>false
def C7k:List (String×Nat×Ty)→String→Option (Nat×Ty)
  | [],_=>none
  | (m,f)::l,name=>bif decide (m=name) then some f else C7k l name
structure Cx where
  types:List (Nat×TyRow)
  call:Nat→Option Contract
  own:List Nat
  ntmps:Nat×Nat
  cuts:List Nat:=[]
  nils:List Nat:=[]
def Cx.row?(c:Cx)(t:Nat):Option TyRow:=go c.types
where go:List (Nat×TyRow)→Option TyRow
  | []=>none
  | (k,x)::l=>bif Nat.beq k t then some x else go l
def B4B(l:List Nat)(t:Nat):Bool:=l.any (Nat.beq t)
abbrev Arg:=SV×MObj
def B8k{R:Type}(t t':Ty)(x:t.den)(K:t'.den→Option R):Option R :=
  if h:t=t' then K (h ▸ x) else none
def E5:Arg→Option ((t:Ty)×t.den)
  | (.one (.d t x),_)=>some ⟨t,x⟩
  | (.one (.own _),.sl e _ l)=>some ⟨.slice e,l⟩
  | (.one (.ne e),_)=>some ⟨.slice e,[]⟩
  | (.one (.fn f),_)=>some ⟨.fnc,.fn f⟩
  | _=>none
def A6j(t:Ty):Arg→Arg
  | (.one .nilS,ob)=>match t with
    | .slice e=>(.one (.d (.slice e) []),ob)
    | .val=>(.one (.d .val (.slice none 0 0)),ob)
    | _=>(.one .nilS,ob)
  | x=>x
def frz:Arg→List (Nat×MV)
  | (.one (.own i),.sl e _ l)=>[(i,.d (.slice e) l)]
  | _=>[]
def A6V:Arg→List (Nat×MObj)
  | (.one (.own i),.sl _ _ _)=>[(i,.gone)]
  | _=>[]
def one(m:MV):Eff:={ val:=.one m }
section ops
variable {R:Type} (cx:Cx) (dst:Option Nat) (KE:Eff→Option R)
def D4B(op:BinOp)(k:IntKind)(x y:Int):Option R :=
  match op with
  | .add=>KE (one (.d (.int k) (D5 k x y)))
  | .sub=>KE (one (.d (.int k) (I5 k x y)))
  | .mul=>KE (one (.d (.int k) (A2H k x y)))
  | .quo=>bif eqI y 0 then none else KE (one (.d (.int k) (A4L k x y)))
  | .rem=>bif eqI y 0 then none else KE (one (.d (.int k) (A3j x y)))
  | .and=>KE (one (.d (.int k) (A6I k x y)))
  | .or=>KE (one (.d (.int k) (orI k x y)))
  | .xor=>KE (one (.d (.int k) (B2d k x y)))
  | .andNot=>KE (one (.d (.int k) (B4A k x y)))
  | .eql=>KE (one (.d .bool (eqI x y)))
  | .neq=>KE (one (.d .bool (!eqI x y)))
  | .lss=>KE (one (.d .bool (ltI x y)))
  | .leq=>KE (one (.d .bool (leI x y)))
  | .gtr=>KE (one (.d .bool (ltI y x)))
  | .geq=>KE (one (.d .bool (leI y x)))
  | _=>none
def C3I(t:Nat):Bool:=match cx.row? t with
  | some r=>match r.ty with
    | .slice _=>true
    | _=>false
  | none=>false
def B9F:Arg→Option Bool
  | (.one .nilS,_)=>some true
  | (.one (.ne _),_)=>some false
  | (.one (.d t x),_)=>match t,x with
    | .slice _,l=>bif List.isEmpty l then none else some false
    | _,_=>none
  | (.one (.own _),.sl _ _ l)=>bif List.isEmpty l then none else some false
  | _=>none
def D4a:Arg→Bool
  | (.one (.d t x),_)=>match t,x with
    | .slice _,l=>List.isEmpty l
    | _,_=>false
  | (.one (.own _),.sl _ _ l)=>List.isEmpty l
  | _=>false
def D4C:Arg→Option Bool
  | (.one .nilS,_)=>some true
  | (.one (.ne _),_)=>some false
  | (.one (.d t _),_)=>match t with
    | .slice _=>some false
    | _=>none
  | (.one (.own _),.sl _ _ _)=>some false
  | _=>none
def B9G(xt:Nat)(op:BinOp):Arg→Arg→Option R
  | (.one (.d (.int k) x),_),(.one (.d (.int k') y),_) =>
    match op with
    | .shl=>bif ltI y 0 then none else KE (one (.d (.int k) (A2v k x y)))
    | .shr=>bif ltI y 0 then none else KE (one (.d (.int k) (A0q k x y)))
    | _=>if k=k' then D4B KE op k x y else none
  | (.one (.d t x),_),(.one (.d t' y),_) =>
    match cx.row? xt with
    | some r=>bif t.flat && decide (t=r.ty) && !decide (t=.str) then
        B8k t' t y fun y=>match op with
          | .eql=>KE (one (.d .bool (eqT t x y)))
          | .neq=>KE (one (.d .bool (!eqT t x y)))
          | _=>none
      else none
    | none=>none
  | a,(.one .nilS,_)=>bif D4a a then none else match D4C a with
    | some b=>bif C3I cx xt then
        match op with
        | .eql=>KE (one (.d .bool b))
        | .neq=>KE (one (.d .bool (!b)))
        | _=>none
      else none
    | none=>none
  | _,_=>none
def C7l(op:UnOp):Arg→Option R
  | (.one (.d (.int k) x),_)=>match op with
    | .neg=>KE (one (.d (.int k) (I5 k 0 x)))
    | .xor=>KE (one (.d (.int k) (B2d k (if k.signed then -1 else k.max) x)))
    | _=>none
  | (.one (.d .bool b),_)=>match op with
    | .not=>KE (one (.d .bool (!b)))
    | _=>none
  | _=>none
def B9H(o:MObj)(v:Nat→MV):Option R :=
  match dst with
  | some t=>KE { rep:=[(t,.dead)],objs:=[(t,o)],val:=.one (v t) }
  | none=>none
def B4C:Bool:=match dst with | some t=>B4B cx.own t | none=>false
def D0G(e:Ty)(tid:Nat)(l:List e.den):Option R :=
  bif B4C cx dst then B9H dst KE (.sl e tid l) .own else KE (one (.d (.slice e) l))
def A7l:Ty→Step→Bool
  | .arr n _,.idx i=>Nat.blt i n
  | .pair _ _,.fld _=>true
  | _,_=>false
def A0Z(t:Ty)(mk:Nat→Step):t.den→List (Nat×Arg)→(t.den→Option R)→Option R
  | x,[],K=>K x
  | x,(i,a)::l,K=>match E5 a with
    | some ⟨t',v⟩=>bif A7l t (mk i) then
      match setP t [mk i] x t' v with
      | some y=>A0Z t mk y l K
      | none=>none
      else none
    | none=>none
def A1c:List Arg→List (Nat×MV)
  | []=>[]
  | a::l=>frz a++A1c l
def N2:List Arg→List (Nat×MObj)
  | []=>[]
  | a::l=>N2 l++A6V a
def G1:List Mode→List Arg→Option (List MV)
  | [],[]=>some []
  | .ro::ms,a::l=>match a with
    | (.one (.d t x),_)=>(G1 ms l).map fun r=>.d t x::r
    | (.one .nilS,_)=>(G1 ms l).map fun r=>.nilS::r
    | (.one (.fn f),_)=>(G1 ms l).map fun r=>.fn f::r
    | (.one (.own _),.sl e _ m)=>(G1 ms l).map fun r=>.d (.slice e) m::r
    | _=>none
  | .bor::ms,a::l=>match a with
    | (.one (.pa _ []),.bx t x)=>(G1 ms l).map fun r=>.d t x::r
    | _=>none
  | .wr k::ms,a::l=>match a with
    | (.one (.own _),.sl e k' m)=>bif Nat.beq k k' then(G1 ms l).map fun r=>.d (.slice e) m::r else none
    | _=>none
  | .con k::ms,a::l=>match a with
    | (.one (.own _),.sl e k' m)=>bif Nat.beq k k' then(G1 ms l).map fun r=>.d (.slice e) m::r else none
    | _=>none
  | _,_=>none
def W8:List Mode→List Arg→List Arg
  | .ro::ms,a::l=>a::W8 ms l
  | _::ms,_::l=>W8 ms l
  | _,_=>[]
def C1:List Mode→List Arg→List Nat
  | .ro::ms,_::l=>C1 ms l
  | _::ms,(.one (.own i),_)::l=>i::C1 ms l
  | _::ms,(.one (.pa i _),_)::l=>i::C1 ms l
  | _::ms,_::l=>C1 ms l
  | _,_=>[]
def A1Q:List Arg→List Nat
  | (.one (.own i),_)::l=>i::A1Q l
  | _::l=>A1Q l
  | []=>[]
def X3:List Nat→Bool
  | []=>true
  | i::l=>!B4B l i && X3 l
def B2e(l m:List Nat):Bool:=l.all fun i=>!B4B m i
def Q5:List Mode→List Arg→List MV→Option (List (Nat×MV)×List (Nat×MObj)×List MV)
  | [],[],rs=>some ([],[],rs)
  | .ro::ms,_::l,rs=>Q5 ms l rs
  | .con _::ms,a::l,rs=>match a with
    | (.one (.own i),_)=>(Q5 ms l rs).map fun (rep,os,r)=>((i,.dead)::rep,os++[(i,.gone)],r)
    | _=>none
  | .bor::ms,a::l,r0::rs=>match a,r0 with
    | (.one (.pa i []),.bx t _),.d t' x=>bif decide (t=t') then(Q5 ms l rs).map fun (rep,os,r)=>(rep,os++[(i,.bx t' x)],r) else none
    | _,_=>none
  | .wr _::ms,a::l,r0::rs=>match a,r0 with
    | (.one (.own i),.sl e tid m),.d (.slice e') x=>bif decide (e=e') then(Q5 ms l rs).map fun (rep,os,r)=>(rep,os++[(i,.sl e' tid x)],r) else(Q5 ms l rs).map fun (rep,os,r)=>((i,.own i)::rep,os++[(i,.sl e' tid x)],r)
    | _,_=>none
  | _,_,_=>none
def B8l:List Mode→List Arg→Option Nat
  | .con _::_,(.one (.own i),_)::_=>some i
  | _::ms,_::l=>B8l ms l
  | _,_=>none
def A1d:List Mode→Bool
  | []=>true
  | .ro::l=>A1d l
  | _=>false
def A7m:MV→Bool
  | .d t _=>t.flat
  | _=>false
def A3k{α:Type}:List α→Nat→α→List α
  | [],_,_=>[]
  | _::l,0,y=>y::l
  | x::l,n+1,y=>x::A3k l n y
def A6k:List MV→SV
  | [m]=>.one m
  | l=>.tup l
def A10:Ty→Bool
  | .slice _=>false
  | _=>true
def B8m(tj:Nat):(t:Ty)→t.den→MObj
  | .slice e,l=>.sl e tj l
  | t,x=>.bx t x
def C3J(i:Nat):Ty→MV
  | .slice _=>.own i
  | _=>.pa i []
def A1K(fresh:Option (Nat×Nat))(rs:List MV):Bool :=
  match fresh with
  | none=>true
  | some (j,_)=>match rs[j]? with
    | some (.d t _)=>!A10 t
    | _=>false
def B4D(fresh:Option (Nat×Nat))(e:Eff)(cid:Option Nat)(rs:List MV):Option R :=
  match dst with
  | none=>KE { e with val:=.one .dead }
  | some t =>
    bif B4B cx.own t then
      match fresh with
      | some (j,tj)=>match rs[j]? with
        | some m=>match m with
          | .d t1 x=>KE { rep:=e.rep++[(cid.getD t,.dead)],objs:=(cid.getD t,B8m tj t1 x)::e.objs,val:=A6k (A3k rs j (C3J (cid.getD t) t1)) }
          | _=>none
        | none=>none
      | none=>none
    else bif A1K fresh rs then KE { e with val:=A6k rs } else none
def B2f(lo hi:Option Arg)(e:Ty)(l:List e.den)(ef:Eff→Eff):Option R :=
  match lo,hi with
  | none,none=>KE (ef (one (.d (.slice e) l)))
  | some (.one (.d (.int _) a),_),none=>bif A29 a (C7 l) l.length then KE (ef (one (.d (.slice e) (S0 l a)))) else none
  | none,some (.one (.d (.int _) b),_)=>bif A29 0 b l.length then KE (ef (one (.d (.slice e) (N9 l b)))) else none
  | some (.one (.d (.int _) a),_),some (.one (.d (.int _) b),_)=>bif A29 a b l.length then KE (ef (one (.d (.slice e) (S0 (N9 l b) a)))) else none
  | _,_=>none
def B9I(hi:Option Arg)(i:Nat)(e:Ty)(tid:Nat)(l:List e.den):Option R :=
  match hi with
  | some (.one (.d (.int _) n),_)=>bif A29 0 n l.length then KE { rep:=[(i,.dead)],objs:=[(i,.sl e tid (N9 l n))],val:=.one (.own i) } else none
  | _=>none
def C7m(lo hi:Option Arg)(i n:Nat):Option R :=
  match lo,hi with
  | some (.one (.d (.int _) a),_),none=>bif A29 a n n then KE (one (.cut i a.toNat n)) else none
  | none,some (.one (.d (.int _) b),_)=>bif A29 0 b n then KE (one (.cut i 0 b.toNat)) else none
  | _,_=>none
def D4D(whole:Bool)(T:Ty)(i:Nat)(p:List Step)(ob:MObj):Option R :=
  match T with
  | .arr n e=>match ob.getP p with
    | some ⟨t',x⟩=>bif whole then B8k t' (.arr n e) x fun l=>KE { rep:=[(i,.dead)],objs:=[(i,.gone)],val:=.one (.d (.slice e) l) } else none
    | none=>none
  | _=>none
def C7n(lo hi:Option Arg)(T:Ty)(i:Nat)(p:List Step)(ob:MObj):Option R :=
  match p,ob with
  | [],.bx (.arr n e) _=>bif decide (T=.arr n e) then
      match lo,hi with
      | none,none=>bif Nat.blt 0 n then KE (one (.vw i 0 n)) else none
      | some (.one (.d (.int _) a),_),none=>bif A29 a n n && ltI a n then KE (one (.vw i a.toNat n)) else none
      | none,some (.one (.d (.int _) b),_)=>bif A29 0 b n && Nat.blt 0 n then KE (one (.vw i 0 b.toNat)) else none
      | _,_=>none
    else none
  | _,_=>none
def C3K:Bool:=match dst with | some t=>B4B cx.cuts t | none=>false
end ops
section ops2
variable {R:Type} (cx:Cx) (arg:Operand→Arg) (dst:Option Nat) (ty:Nat) (KE:Eff→Option R)
def B9J(ts:List Nat)(s x:Arg):Option R :=
  match ts with
  | [t,t']=>bif C3I cx t' then
    match s with
    | (.one (.own i),.sl e tid l)=>match E5 x with
      | some ⟨u,m⟩=>B8k u (.slice e) m fun m =>
        match cx.row? t,cx.row? tid with
        | some rt,some r=>bif decide (rt.ty=.slice e) && decide (r.ty=e) && Nat.beq rt.elem tid && K3 (l.length+m.length) r.bytes then
            KE { rep:=[(i,.dead)],objs:=[(i,.sl e tid (l++m))],val:=.one (.own i) } else none
        | _,_=>none
      | none=>none
    | (.one (.cut i a b),.sl e tid l)=>match x with
      | (.one (.cut j c d),_)=>bif Nat.beq i j && Nat.beq a 0 && Nat.ble (b+(d - c)) l.length then
          match cx.row? t,cx.row? tid with
          | some rt,some r=>bif decide (rt.ty=.slice e) && decide (r.ty=e) && Nat.beq rt.elem tid then
              KE { rep:=[(i,.dead)],objs:=[(i,.sl e tid (l.take b++(l.take d).drop c))],val:=.one (.own i) } else none
          | _,_=>none
          else none
      | _=>none
    | _=>none
    else none
  | _=>none
def B8n(f:Arg)(args:List Arg):Option R :=
  match f with
  | (.one (.fn f),_)=>match cx.call f with
    | some c=>match G1 c.modes args with
      | some ms=>c.cm ms fun rs =>
        bif c.keeps then
          (bif A1d c.modes && (rs.all A7m && c.fresh.isNone) then KE { val:=match dst with | none=>.one .dead | some _=>A6k rs } else none)
        else
          bif X3 (C1 c.modes args) && B2e (C1 c.modes args) (A1Q (W8 c.modes args)) then
            match Q5 c.modes args rs with
            | some (rep,os,r)=>B4D cx dst KE c.fresh { rep:=A1c (W8 c.modes args)++rep,objs:=os++N2 (W8 c.modes args),val:=.one .dead } (B8l c.modes args) r
            | none=>none
          else none
      | none=>none
    | none=>none
  | _=>none
def D0H(name:String)(o:Option Nat)(args:List Arg):List (Nat×TyRow)→Option R
  | []=>none
  | (t,_)::l=>match cx.row? t with
    | some r=>match C7k r.meth name with
      | some (f,u)=>bif u.isAgg && Nat.beq u.sz 0 then
          (bif B8j o t then B8n cx dst KE (.one (.fn f),.gone) ((.one (.d u (dflt u)),.gone)::args) else D0H name o args l)
        else none
      | none=>D0H name o args l
    | none=>none
def C7o(ts:List Nat):Arg→Arg→Option R
  | (.one (.vw i a b),.bx (.arr n e) l),(.one (.vw j c d),.bx (.arr m e') l')=>match ts with
    | [t,_]=>match cx.row? t with
      | some r=>bif !Nat.beq i j && decide (r.ty=.slice e) && Nat.beq e.sz 1 && Nat.ble b n && Nat.ble d m then
          B8k (.slice e') (.slice e) l' fun l'=>KE { objs:=[(i,.bx (.arr n e) (List.take a l++List.take (min (d - c) (b - a)) (List.drop c l')++List.drop (a+min (d - c) (b - a)) l))],val:=.one (.d (.int .i64) ((min (d - c) (b - a):Nat):Int)) }
        else none
      | none=>none
    | _=>none
  | _,_=>none
def A2I(t:Nat):Bool:=match cx.row? t with | some r=>(match r.ty with | .slice _=>true | _=>false) | none=>false
def B05(b:Builtin)(ts:List Nat)(args:List Arg):Option R :=
  match b,args with
  | .len,[(.one (.d (.slice _) l),_)]=>match ts with
    | [t]=>bif A2I cx t then KE (one (.d (.int .i64) (C7 l))) else none
    | _=>none
  | .len,[(.one (.own _),.sl _ _ l)]=>match ts with
    | [t]=>bif A2I cx t then KE (one (.d (.int .i64) (C7 l))) else none
    | _=>none
  | .len,[(.one (.ps _ l),_)]=>match ts with
    | [t]=>bif A2I cx t then KE (one (.d (.int .i64) (C7 l))) else none
    | _=>none
  | .append,[s,x]=>B9J cx KE ts s x
  | .copy,[x,y]=>C7o cx KE ts x y
  | .min,[(.one (.d (.int k) x),_),(.one (.d (.int k') y),_)]=>if k=k' then KE (one (.d (.int k) (A3u x y))) else none
  | .max,[(.one (.d (.int k) x),_),(.one (.d (.int k') y),_)]=>if k=k' then KE (one (.d (.int k) (B2b x y))) else none
  | _,_=>none
def B9K:Bool:=match dst with | some t=>B4B cx.nils t | none=>false
def A2J(a:Arg):Option R :=
  match a with
  | (.one .nilS,_)=>bif B9K cx dst then KE { val:=.one .nilS } else match cx.row? ty with
    | some r=>match r.ty with
      | .slice e=>bif B4C cx dst then B9H dst KE (.sl e r.elem []) .own else KE (one (.d (.slice e) []))
      | _=>none
    | none=>none
  | (v,_)=>KE { val:=v }
def A5N(T:Ty):Arg→Arg→Option R
  | (.one (.ps i l),_),(.one (.d (.int _) n),_)=>bif decide (T=.slice .ptr) then(bif inI n l.length then KE (one (.pq i (B9 [] l n))) else none) else none
  | (.one (.own i),.sl e _ l),(.one (.d (.int _) n),_)=>bif decide (T=.slice e) then(bif inI n l.length then KE (one (.pa i [.idx n.toNat])) else none) else none
  | (.one (.d (.slice e) l),_),(.one (.d (.int _) n),_)=>bif decide (T=.slice e) then(bif inI n (List.length l) then KE (one (.dp e (B9 (dflt e) l n))) else none) else none
  | (.one (.pa i p),o),(.one (.d (.int _) n),_) =>
    match o.tyP p with
    | some (.arr m e)=>bif decide (T=.arr m e) then(bif inI n m then KE (one (.pa i (p++[.idx n.toNat]))) else none) else none
    | _=>none
  | (.one (.dp t x),_),(.one (.d (.int _) n),_)=>match t,x with
    | .arr m e,l=>bif decide (T=.arr m e) then(bif inI n m then KE (one (.dp e (B9 (dflt e) l n))) else none) else none
    | _,_=>none
  | _,_=>none
def A5O(T:Ty)(f:Nat):Arg→Option R
  | (.one (.pa i p),o) =>
    match o.tyP p with
    | some t=>bif decide (t=T) then
        match tyP T [.fld f] with
        | some t'=>bif Nat.beq t'.sz 0 then none else KE (one (.pa i (p++[.fld f])))
        | none=>none
      else none
    | none=>none
  | (.one (.dp t x),_)=>bif decide (t=T) then
      match getP t [.fld f] x with
      | some ⟨t',y⟩=>bif Nat.beq t'.sz 0 then none else KE (one (.dp t' y))
      | none=>none
    else none
  | _=>none
def B9L(t:Ty):Arg→Option R
  | (.one (.pq i p),_)=>bif decide (t=.ptr) then KE (one (.pa i p)) else none
  | (.one (.pa _ p),o) =>
    match o.getP p with
    | some ⟨t',x⟩=>bif decide (t'=t) then KE (one (.d t' x)) else none
    | none=>none
  | (.one (.dp t' x),_)=>bif decide (t'=t) then KE (one (.d t' x)) else none
  | (.one (.vp _ a n),.bx (.arr m e) l)=>bif decide (Ty.arr n e=t) && Nat.ble (a+n) m then KE (one (.d (.arr n e) ((List.drop a l).take n))) else none
  | _=>none
def B4E(T:Ty):Arg→Option R
  | (.one (.vw i a b),.bx (.arr m e) _)=>match T with
    | .arr n e'=>bif decide (e'=e) && Nat.ble n (b - a) && Nat.ble (a+n) m then KE (one (.vp i a n)) else none
    | _=>none
  | _=>none
def C7p:Arg→Nat→Bool
  | (.one (.own j),_),i=>Nat.beq j i
  | _,_=>false
def B9N(t:Ty)(a v:Arg):Option R :=
  match E5 v with
  | some ⟨t',x⟩=>bif decide (t'=t) then
      match a with
      | (.one (.pa i p),o)=>match o.setP p t' x with
        | some z=>bif C7p v i then none else KE { rep:=frz v,objs:=(i,z)::A6V v,val:=.one .dead }
        | none=>none
      | _=>none
    else none
  | none=>none
def B9O(t:Ty)(a v:Arg):Option R:=B9N KE t a (A6j t v)
def B9P(T:Ty)(f:Nat):Arg→Option R
  | (.one (.d t x),_)=>bif decide (t=T) then
      match getP t [.fld f] x with
      | some ⟨t',y⟩=>KE (one (.d t' y))
      | none=>none
    else none
  | _=>none
def B9Q(T:Ty):Arg→Arg→Option R
  | (.one (.d t x),_),(.one (.d (.int _) n),_)=>match t,x with
    | .arr m e,l=>bif decide (T=.arr m e) then(bif inI n m then KE (one (.d e (B9 (dflt e) l n))) else none) else none
    | _,_=>none
  | _,_=>none
def B5U:Ty→Nat→Step
  | .arr _ _=>.idx
  | _=>.fld
def B9S(t:Ty)(parts:List (Nat×Arg)):Option R :=
  bif t.isAgg then
    A0Z t (B5U t) (dflt t) parts fun x=>KE { rep:=A1c (parts.map (·.2)),objs:=N2 (parts.map (·.2)),val:=.one (.d t x) }
  else none
def A7n(e:Ty)(n:Nat)(parts:List (Nat×Arg))(no:Option R):Option R :=
  match parts with
  | [(0,(.one (.pa i p),_)),(1,(.one (.pa j q),_))]=>bif decide (e=.ptr) && Nat.beq n 2 && Nat.beq i j then KE (one (.ps i [p,q])) else no
  | _=>no
def A4N(e:Ty)(tid:Nat)(n:Nat)(parts:List (Nat×Arg)):Option R :=
  bif Nat.ble n 16777216 && Nat.ble (n*e.sz) 16777216 then A0Z (.arr n e) .idx (List.replicate n (dflt e)) parts fun l =>
    D0G cx dst (fun ef=>KE { ef with rep:=A1c (parts.map (·.2))++ef.rep,objs:=ef.objs++N2 (parts.map (·.2)) }) e tid l
  else none
def B9T(op:Op):Option R :=
  match op with
  | .move x | .assign x=>A2J cx dst ty KE (arg x)
  | .pick c a b=>match arg c with
    | (.one (.d .bool t),_)=>bif t then KE { val:=(arg a).1 } else KE { val:=(arg b).1 }
    | _=>none
  | .alloc e=>match cx.row? e with
    | some r=>B9H dst KE (.bx r.ty (dflt r.ty)) fun t=>.pa t []
    | none=>none
  | .box e x=>match cx.row? e,E5 (arg x) with
    | some r,some ⟨t,v⟩=>bif decide (t=r.ty) then B9H dst (fun ef=>KE { ef with rep:=frz (arg x)++ef.rep,objs:=ef.objs++A6V (arg x) }) (.bx t v) fun t=>.pa t [] else none
    | _,_=>none
  | .build t ps=>match cx.row? t with
    | some r=>B9S KE r.ty (ps.toList.map fun (i,x)=>(i,arg x))
    | none=>none
  | .buildSlice t n ps=>match cx.row? t with
    | some r=>match r.ty with
      | .slice e=>A7n KE e n (ps.toList.map fun (i,x)=>(i,arg x)) (A4N cx dst KE e r.elem n (ps.toList.map fun (i,x)=>(i,arg x)))
      | _=>none
    | none=>none
  | .load t a=>match cx.row? t with
    | some r=>B9L KE r.ty (arg a)
    | none=>none
  | .store t a v=>match cx.row? t with
    | some r=>B9O KE r.ty (arg a) (arg v)
    | none=>none
  | .nilCheck x=>match arg x with
    | (.one (.pa i p),_)=>KE (one (.pa i p))
    | (.one (.dp t x),_)=>KE (one (.dp t x))
    | _=>none
  | .binOp o t x y _=>B9G cx KE t o (arg x) (arg y)
  | .unOp o _ x=>C7l KE o (arg x)
  | .convert s d x=>match cx.row? s,cx.row? d,arg x with
    | some r,some r',(.one (.d (.int _) n),_)=>match r.ty,r'.ty with
      | .int _,.int k=>KE (one (.d (.int k) (k.wrap n)))
      | _,_=>none
    | _,_,_=>none
  | .makeFunc (.func f) first captured=>bif first.isEmpty && captured.isEmpty then KE (one (.fn f)) else none
  | .makeSlice t l c=>match cx.row? t,arg l,arg c with
    | some r,(.one (.d (.int _) n),_),(.one (.d (.int _) m),_)=>match r.ty with
      | .slice e=>match cx.row? r.elem with
        | some re=>bif Y8 n m re.bytes then D0G cx dst KE e r.elem (I7 n (dflt e)) else none
        | none=>none
      | _=>none
    | _,_,_=>none
  | .slice t x lo hi none=>match cx.row? t with
    | some r=>match arg x with
      | (.one (.d (.slice e) l),_)=>bif decide (r.ty=.slice e) then B2f KE (lo.map arg) (hi.map arg) e l id else none
      | (.one (.own i),.sl e t l)=>bif decide (r.ty=.slice e) then
          (bif C3K cx dst then C7m KE (lo.map arg) (hi.map arg) i l.length
          else bif B4C cx dst && lo.isNone then B9I KE (hi.map arg) i e t l
          else B2f KE (lo.map arg) (hi.map arg) e l fun ef=>{ ef with rep:=frz (.one (.own i),.sl e t l),objs:=A6V (.one (.own i),.sl e t l) }) else none
      | (.one (.pa i p),ob)=>bif C3K cx dst then C7n KE (lo.map arg) (hi.map arg) r.ty i p ob else D4D KE (lo.isNone && hi.isNone) r.ty i p ob
      | _=>none
    | none=>none
  | .fieldAddr t x f=>match cx.row? t with
    | some r=>A5O KE r.ty f (arg x)
    | none=>none
  | .field t x f=>match cx.row? t with
    | some r=>B9P KE r.ty f (arg x)
    | none=>none
  | .indexAddr t x i=>match cx.row? t with
    | some r=>A5N KE r.ty (arg x) (arg i)
    | none=>none
  | .index t x i=>match cx.row? t with
    | some r=>B9Q KE r.ty (arg x) (arg i)
    | none=>none
  | .sliceToArrayPointer t x=>match cx.row? t with
    | some r=>B4E KE r.ty (arg x)
    | none=>none
  | .extract x i=>match arg x with
    | (.tup ms,_)=>match ms[i]? with
      | some m=>KE (one m)
      | none=>none
    | _=>none
  | .call c=>match c.callee with
    | .value f=>B8n cx dst KE (arg f) (c.args.toList.map arg)
    | .builtin b=>B05 cx KE b c.argTypes.toList (c.args.toList.map arg)
    | .invoke x name=>match arg x with
      | (.one (.d .ifc o),_)=>D0H cx dst KE name o (c.args.toList.map arg) cx.types
      | _=>none
  | .makeInterface t x=>match cx.row? t,arg x with
    | some r,(.one (.d t' _),_)=>bif decide (t'=r.ty) && r.ty.isAgg && Nat.beq r.ty.sz 0 then KE (one (.d .ifc (some t))) else none
    | _,_=>none
  | _=>none
end ops2
def SV.id?:SV→Option Nat
  | .one m=>m.id?
  | .tup _=>none
def St.arg(s:St)(x:Operand):Arg:=(s.eval x,match (s.eval x).id? with | some i=>s.obj i | none=>.gone)
def F9(n:Nat×Nat):Option Nat→Bool
  | some t=>Nat.ble n.1 t && (Nat.blt t n.2 && Nat.blt t 8192)
  | none=>true
def opK{R:Type}(cx:Cx)(o:Oper)(s:St)(K:Eff→St→Option R):Option R :=
  bif F9 cx.ntmps o.dst then B9T cx s.arg o.dst o.type (fun e=>K e (e.app o.dst s)) o.op else none
def B5V{R:Type}(ops:List Oper)(o:Oper)(s:St)(yes no:St→Option R):Option R :=
  match o.guard with
  | none=>yes s
  | some (j,want)=>match (ops[j]?).bind (·.dst) with
    | some t=>bif Nat.blt t 8192 then
      match s.get t with
      | .one .und=>no s
      | .one (.d .bool b)=>bif b then(let s':=s.put t (.one (.d .bool true)); bif want then yes s' else no s') else(let s':=s.put t (.one (.d .bool false)); bif want then no s' else yes s')
      | _=>none
      else none
    | none=>none
def A94(o:Oper)(s:St):St:=match o.dst with | some t=>s.put t (.one .und) | none=>s
def D0u{R:Type}(cx:Cx)(all:List Oper):List Oper→St→(St→Option R)→Option R
  | [],s,K=>K s
  | o::l,s,K=>B5V all o s (fun s=>opK cx o s fun _ s'=>D0u cx all l s' K) (fun s=>bif F9 cx.ntmps o.dst then D0u cx all l (A94 o s) K else none)
def MV.ids:MV→List Nat
  | .own i | .pa i _ | .cut i _ _ | .vw i _ _ | .vp i _ _ | .ps i _ | .pq i _=>[i]
  | _=>[]
def SV.ids:SV→List Nat
  | .one m=>m.ids
  | .tup ms=>ms.flatMap MV.ids
def A95:List Operand→List Nat
  | []=>[]
  | .tmp t::l=>t::A95 l
  | _::l=>A95 l
def S1(ops:List Oper)(o:Oper):List Nat :=
  A95 o.op.operands.toList++(match o.guard with | some (j,_)=>((ops[j]?).bind (·.dst)).toList | none=>[])
def B2g(s:St):List Nat→List Nat
  | []=>[]
  | t::l=>(s.get t).ids++B2g s l
structure Rec where
  dst:Option Nat
  rd:List Nat
  ids:List Nat
  e:Eff
def A4O:List Nat→Nat
  | []=>0
  | t::l=>Nat.lor (Nat.shiftLeft 1 t) (A4O l)
def B2h(a b:Nat):Bool:=Nat.beq (Nat.land a b) 0
def Rec.rep(r:Rec):Nat:=A4O (r.e.rep.map (·.1))
def Rec.wids(r:Rec):Nat:=Nat.lor r.rep (A4O (r.e.objs.map (·.1)))
def Rec.dstM(r:Rec):Nat:=match r.dst with | some t=>Nat.shiftLeft 1 t | none=>0
def B9U(rep:Nat):List (Nat×SV)→Nat
  | []=>0
  | (t,v)::l=>bif B2h (A4O v.ids) rep then B9U rep l else Nat.lor (Nat.shiftLeft 1 t) (B9U rep l)
def B9V(rep:Nat):List Rec→Nat
  | []=>0
  | r::l=>bif B2h (A4O r.e.val.ids) rep then B9V rep l else Nat.lor r.dstM (B9V rep l)
def B4F(env:List (Nat×SV))(rs:List Rec)(rep:Nat):Nat:=bif Nat.beq rep 0 then 0 else Nat.lor (B9U rep env) (B9V rep rs)
structure RecM where
  dst:Nat
  rd:Nat
  ids:Nat
  vids:Nat
  wids:Nat
  reps:Nat
  hits:Nat
def Rec.mk'(env:List (Nat×SV))(rs:List Rec)(r:Rec):RecM:={ dst:=r.dstM,rd:=A4O r.rd,ids:=A4O r.ids,vids:=A4O r.e.val.ids,wids:=r.wids,reps:=r.rep,hits:=B4F env rs r.rep }
def A2w(x y:RecM):Bool :=
  B2h x.dst y.rd && B2h y.dst x.rd && B2h x.dst y.dst && B2h x.ids y.wids && B2h y.ids x.wids && B2h x.rd y.hits && B2h y.rd x.hits && B2h x.vids y.reps && B2h y.vids x.reps && B2h x.wids y.wids
def C3L(pres:List Nat)(o:Oper):Nat :=
  o.after.toList.foldl (fun m e=>bif Region.binds .any e then Nat.lor m (Nat.lor (Nat.shiftLeft 1 e.on) (pres.getD e.on 0)) else m) 0
def Z1:List Oper→List Nat→List Nat
  | [],acc=>acc
  | o::l,acc=>Z1 l (acc++[C3L acc o])
def A0Q:Nat→List Oper→Bool
  | _,[]=>true
  | k,o::l=>o.after.toList.all (fun e=>!Region.binds .any e || Nat.blt e.on k) && A0Q (k+1) l
def B5W(pre:Nat)(y:RecM):Nat→List RecM→Bool
  | _,[]=>true
  | j,x::l=>(A2w x y || !Nat.beq (Nat.land (Nat.shiftRight pre j) 1) 0) && B5W pre y (j+1) l
def B06(pres:List Nat):List RecM→List RecM→Bool
  | _,[]=>true
  | done,y::l=>B5W (pres.getD done.length 0) y 0 done && B06 pres (done++[y]) l
def C3N(r:Rec):Bool:=r.e.rep.all fun x=>match x.2.id? with | none=>true | some _=>false
def B2i(env:List (Nat×SV))(ops:List Oper)(rs:List Rec):Bool :=
  A0Q 0 ops && rs.all C3N && B06 (Z1 ops []) [] (rs.map (Rec.mk' env rs))
def A96(all:List Oper)(o:Oper)(s:St):List Nat:=match o.op with
  | .move _ | .assign _=>[]
  | _=>B2g s (S1 all o)
def C7q(all:List Oper)(o:Oper)(s:St)(e:Eff):Rec:={ dst:=o.dst,rd:=S1 all o,ids:=A96 all o s,e:=e }
def B4G{R:Type}(cx:Cx)(all:List Oper):List Oper→St→List Rec→(St→List Rec→Option R)→Option R
  | [],s,rs,K=>K s rs
  | o::l,s,rs,K=>B5V all o s (fun s=>opK cx o s fun e s'=>B4G cx all l s' (rs++[C7q all o s e]) K)
      (fun s=>bif F9 cx.ntmps o.dst then B4G cx all l (A94 o s) (rs++[C7q all o s { val:=.one .und }]) K else none)
inductive Ex where
  | normal | exit (id:Nat) | ret
def A11:Code→Option Nat
  | .region id _ _=>some id
  | .seq a b=>match A11 a with | some i=>some i | none=>A11 b
  | .cond _ a b=>match A11 a with | some i=>some i | none=>A11 b
  | .block _ c=>A11 c
  | .loop c=>A11 c
  | _=>none
inductive Kind where
  | d (t:Ty) | dp (t:Ty) | own (i:Nat) (e:Ty) (tid:Nat) | again (i:Nat) | box (i:Nat) (t:Ty) | boxed (i:Nat) | fn (f:Nat) | nilS
abbrev Kind.den:Kind→Type
  | .d t | .dp t | .box _ t=>t.den
  | .own _ e _=>List e.den
  | _=>Unit
abbrev A5:=List (Nat×Kind)
abbrev A5.den:A5→Type
  | []=>Unit
  | (_,k)::l=>k.den×A5.den l
def A2K{R:Type}(t t':Ty)(x:t.den)(K:t'.den→Option R):Option R:=if h:t=t' then K (h ▸ x) else none
def B9W{R:Type}(t t':Ty)(x:List t.den)(K:List t'.den→Option R):Option R:=if h:t=t' then K (h ▸ x) else none
def A8J{R:Type}(s:St)(v:SV):(k:Kind)→(k.den→Option R)→Option R
  | .d t,K=>match v with | .one (.d t' x)=>A2K t' t x K | _=>none
  | .dp t,K=>match v with | .one (.dp t' x)=>A2K t' t x K | _=>none
  | .own _ e tid,K=>match v with
    | .one (.own j)=>match s.obj j with
      | .sl e' tid' l=>bif Nat.beq tid' tid then B9W e' e l K else none
      | _=>none
    | _=>none
  | .again _,K=>match v with | .one (.own _)=>K () | _=>none
  | .box _ t,K=>match v with
    | .one (.pa j [])=>match s.obj j with
      | .bx t' x=>A2K t' t x K
      | _=>none
    | _=>none
  | .boxed _,K=>match v with | .one (.pa _ [])=>K () | _=>none
  | .fn f,K=>match v with | .one (.fn g)=>bif Nat.beq g f then K () else none | _=>none
  | .nilS,K=>match v with | .one .nilS=>K () | _=>none
def B07{R:Type}(s:St):(sh:A5)→(A5.den sh→Option R)→Option R
  | [],K=>K ()
  | (t,k)::l,K=>A8J s (s.get t) k fun x=>B07 s l fun y=>K (x,y)
def Kind.num?:Kind→Option Nat
  | .own i _ _ | .again i | .box i _ | .boxed i=>some i
  | _=>none
def Kind.first?:Kind→Option Nat
  | .own i _ _ | .box i _=>some i
  | _=>none
def A5.nums(s:St):A5→List (Nat×Nat)
  | []=>[]
  | (t,k)::l=>match k.num? with
    | some i=>match (s.get t).ids with
      | [j]=>(i,j)::nums s l
      | _=>nums s l
    | none=>nums s l
def A5.firsts:A5→List Nat
  | []=>[]
  | (_,k)::l=>match k.first? with | some i=>i::firsts l | none=>firsts l
def B9X(l:List (Nat×Nat)):Bool:=l.all fun x=>l.all fun y=>Nat.beq x.1 y.1 == Nat.beq x.2 y.2
def D0v{R:Type}(sh:A5)(s:St)(K:A5.den sh→Option R):Option R :=
  bif B9X (sh.nums s) && (sh.nums s).all (fun x=>B4B sh.firsts x.1) then B07 s sh K else none
def Kind.sv:(k:Kind)→k.den→SV
  | .d t,x=>.one (.d t x)
  | .dp t,x=>.one (.dp t x)
  | .own i _ _,_ | .again i,_=>.one (.own i)
  | .box i _,_ | .boxed i,_=>.one (.pa i [])
  | .fn f,_=>.one (.fn f)
  | .nilS,_=>.one .nilS
def B4z:(sh:A5)→A5.den sh→List (Nat×SV)
  | [],_=>[]
  | (t,k)::l,x=>(t,k.sv x.1)::B4z l x.2
def A97:(sh:A5)→A5.den sh→List (Nat×MObj)
  | [],_=>[]
  | (_,k)::l,x=>match k,x.1 with
    | .own i e tid,y=>(i,.sl e tid y)::A97 l x.2
    | .box i t,y=>(i,.bx t y)::A97 l x.2
    | _,_=>A97 l x.2
def enc(sh:A5)(x:A5.den sh):St:={ env:=B4z sh x,heap:=A97 sh x }
structure Hint (R:Type) where
  sh:A5
  model:A5.den sh→(Ex→St→Option R)→Option R
abbrev U5:=List (Nat×A5)
def Ex.code:Ex→Nat
  | .normal=>0
  | .ret=>1
  | .exit i=>i+2
def B5X:U5→Nat→Option A5
  | [],_=>none
  | (k,sh)::l,n=>bif Nat.beq k n then some sh else B5X l n
def D0I{R:Type}(outs:U5)(K:Ex→St→Option R)(e:Ex)(s:St):Option R :=
  match B5X outs e.code with
  | some sh=>D0v sh s fun x=>K e (enc sh x)
  | none=>K e s
def SV.sureTrue(s:St)(c:Operand)(t:Bool):St:=match c with | .tmp n=>s.put n (.one (.d .bool t)) | _=>s
def B4H{R:Type}(r:St→(Ex→St→Option R)→Option R):Nat→St→(Ex→St→Option R)→Option R
  | 0,_,_=>none
  | n+1,s,K=>r s fun e s'=>match e with
    | .normal=>B4H r n s' K
    | e=>K e s'
def run{R:Type}(cx:Cx)(hs:Nat→Option (Hint R))(js:Nat→Option (Hint R)):Code→St→(Ex→St→Option R)→Option R
  | .skip,s,K=>K .normal s
  | .label _,s,K=>K .normal s
  | .region _ ops draw,s,K =>
    bif draw then B4G cx ops.toList ops.toList s [] fun s' rs=>bif B2i s.env ops.toList rs then K .normal s' else none
    else D0u cx ops.toList ops.toList s (K .normal)
  | .seq a b,s,K=>run cx hs js a s fun e s'=>match e with
    | .normal=>match (A11 b).bind js with
      | some h=>D0v h.sh s' fun x=>h.model x K
      | none=>run cx hs js b s' K
    | e=>K e s'
  | .cond c a b,s,K=>match s.eval c with
    | .one (.d .bool t)=>bif t then run cx hs js a (SV.sureTrue s c true) K else run cx hs js b (SV.sureTrue s c false) K
    | _=>none
  | .block id c,s,K=>run cx hs js c s fun e s'=>match e with
    | .exit i=>bif Nat.beq i id then K .normal s' else K (.exit i) s'
    | e=>K e s'
  | .loop c,s,K=>match (A11 c).bind hs with
    | some h=>D0v h.sh s fun x=>h.model x K
    | none=>B4H (run cx hs js c) 3 s K
  | .exit i,s,K=>K (.exit i) s
  | .ret,s,K=>K .ret s
  | _,_,_=>none
end Go.Eng
namespace Go.Eng
abbrev Mem:=Nat→Option Obj
def Mem.le(M M':Mem):Prop:=∀ b o,M b=some o→M' b=some o
theorem Mem.le.refl(M:Mem):M.le M:=fun _ _ h=>h
theorem Mem.le.trans{A B C:Mem}(h:A.le B)(k:B.le C):A.le C:=fun b o x=>k b o (h b o x)
def E3{α:Type}(P:α→List Value→Prop):List α→List Value→Prop
  | [],cs=>cs=[]
  | x::l,cs=>∃ c1 c2,cs=c1++c2∧P x c1∧E3 P l c2
def B4I{α:Type}(M:Mem)(P:α→List Value→Prop)(l:List α)(v:Value):Prop :=
  ∃ ao cap,v=.slice ao l.length cap∧l.length≤cap∧(ao=none→cap=0) ∧
    (l≠[]→∃ b off cur e fz,ao=some ⟨b,off,none⟩∧M b=some (.cells cur e fz)∧∃ cs,E3 P l cs∧(cur.toList.drop off).take cs.length=cs)
def D4E:Option Nat→Value
  | none=>.nilIface
  | some t=>.iface t (.agg #[])
def B08(M:Mem):Fv→List Value→Prop
  | .nil,cs=>cs=[.nilFunc]
  | .fn f,cs=>cs=[.func (.func f) #[] #[]]
  | .itr f l,cs=>∃ b cur e fz v,cs=[.func (.func f) #[] #[.pointer (some ⟨b,0,none⟩)]]∧M b=some (.cells cur e fz)∧cur[0]?=some v∧B4I M (fun x cs=>cs=[.int .i64 x]) l v
def E8(M:Mem):(t:Ty)→t.den→List Value→Prop
  | .int k,x,cs=>cs=[.int k x]
  | .bool,x,cs=>cs=[.bool x]
  | .str,x,cs=>cs=[.string x]
  | .unit,_,cs=>cs=[]
  | .nil,_,cs=>cs=[.slice none 0 0]
  | .val,v,cs=>cs=[v]∧∃ ao n c,v=Value.slice ao n c
  | .ifc,o,cs=>cs=[D4E o]
  | .ptr,_,cs=>cs=[.pointer none]
  | .fnc,x,cs=>B08 M x cs
  | .pair a b,x,cs=>∃ c1 c2,cs=c1++c2∧E8 M a x.1 c1∧E8 M b x.2 c2
  | .arr n t,l,cs=>List.length l=n∧E3 (E8 M t) l cs
  | .slice t,l,cs=>∃ v,cs=[v]∧B4I M (E8 M t) l v
section E3
variable {α:Type} {P Q:α→List Value→Prop}
theorem E3.mono(h:∀ x cs,P x cs→Q x cs):∀ {l:List α} {cs},E3 P l cs→E3 Q l cs
  | [],_,H=>H
  | _::_,_,⟨c1,c2,e,p,r⟩=>⟨c1,c2,e,h _ _ p,E3.mono h r⟩
theorem E3.append:∀ {l m:List α} {c d},E3 P l c→E3 P m d→E3 P (l++m) (c++d)
  | [],_,_,_,h,k=>by cases h; simpa using k
  | _::_,_,_,_,⟨c1,c2,e,p,r⟩,k=>⟨c1,c2++_,by rw [e,List.append_assoc],p,r.append k⟩
theorem E3.split:∀ {l m:List α} {cs},E3 P (l++m) cs→∃ c d,cs=c++d∧E3 P l c∧E3 P m d
  | [],_,cs,h=>⟨[],cs,rfl,rfl,h⟩
  | _::_,_,_,⟨c1,c2,e,p,r⟩=>by
    obtain ⟨c,d,e2,hl,hm⟩:=E3.split r
    exact ⟨c1++c,d,by rw [e,e2,List.append_assoc],⟨c1,c,rfl,p,hl⟩,hm⟩
theorem E3.length{n:Nat}(hn:∀ x cs,P x cs→cs.length=n):∀ {l:List α} {cs},E3 P l cs→cs.length=l.length*n
  | [],_,h=>by cases h; simp
  | _::l,_,⟨c1,c2,e,p,r⟩=>by
    have:=hn _ _ p; have:=E3.length hn r
    subst e; simp [*,Nat.succ_mul,Nat.add_comm]
theorem E3.single{x:α}{cs}(h:P x cs):E3 P [x] cs:=⟨cs,[],by simp,h,rfl⟩
theorem E3.at{n:Nat}(hn:∀ x cs,P x cs→cs.length=n){l:List α}{cs}(h:E3 P l cs)(i:Nat)(hi:i < l.length) :
    ∃ c,P l[i] c∧(cs.drop (i*n)).take n=c:=by
  have e:l=l.take i++(l[i]::l.drop (i+1)):=by rw [List.getElem_cons_drop,List.take_append_drop]
  rw [e] at h
  obtain ⟨c,d,rfl,h1,c1,c2,rfl,hp,h2⟩:=E3.split h
  have l1:=E3.length hn h1
  rw [List.length_take,Nat.min_eq_left (Nat.le_of_lt hi)] at l1
  refine ⟨c1,hp,?_⟩
  rw [List.drop_append_of_le_length (by omega),← l1,List.drop_length,List.nil_append]
  have:=hn _ _ hp
  rw [← this]; simp
theorem E3.set{n:Nat}(hn:∀ x cs,P x cs→cs.length=n){l:List α}{cs}(h:E3 P l cs)(i:Nat)(hi:i < l.length){y:α}{c:List Value}(hc:P y c) :
    E3 P (l.set i y) (cs.take (i*n)++c++cs.drop (i*n+n)):=by
  have e:l=l.take i++(l[i]::l.drop (i+1)):=by rw [List.getElem_cons_drop,List.take_append_drop]
  have e2:l.set i y=l.take i++(y::l.drop (i+1)):=by rw [List.set_eq_take_append_cons_drop,if_pos hi]
  rw [e2]
  have h':=h
  rw [e] at h'
  obtain ⟨c0,d,rfl,h1,c1,c2,rfl,hp,h2⟩:=E3.split h'
  have l1:=E3.length hn h1
  rw [List.length_take,Nat.min_eq_left (Nat.le_of_lt hi)] at l1
  have lp:=hn _ _ hp
  have t1:(c0++(c1++c2)).take (i*n)=c0:=by rw [← l1]; simp
  have t2:(c0++(c1++c2)).drop (i*n+n)=c2:=by
    rw [← l1,← lp,← List.drop_drop]; simp
  rw [t1,t2,List.append_assoc]
  exact E3.append h1 ⟨c,c2,rfl,hc,h2⟩
theorem E3.take{n:Nat}(hn:∀ x cs,P x cs→cs.length=n){l:List α}{cs}(h:E3 P l cs)(i:Nat)(hi:i≤l.length):E3 P (l.take i) (cs.take (i*n)):=by
  rw [← List.take_append_drop i l] at h
  obtain ⟨c,d,rfl,h1,h2⟩:=E3.split h
  have l1:=E3.length hn h1
  rw [List.length_take,Nat.min_eq_left hi] at l1
  rw [← l1]; simpa using h1
theorem E3.drop{n:Nat}(hn:∀ x cs,P x cs→cs.length=n){l:List α}{cs}(h:E3 P l cs)(i:Nat)(hi:i≤l.length):E3 P (l.drop i) (cs.drop (i*n)):=by
  rw [← List.take_append_drop i l] at h
  obtain ⟨c,d,rfl,h1,h2⟩:=E3.split h
  have l1:=E3.length hn h1
  rw [List.length_take,Nat.min_eq_left hi] at l1
  rw [← l1]; simpa using h2
theorem E3.replicate{x:α}{c:List Value}(h:P x c):∀ n,E3 P (List.replicate n x) (List.replicate n c).flatten
  | 0=>rfl
  | n+1=>⟨c,_,by simp [List.replicate_succ],h,E3.replicate h n⟩
end E3
theorem B4I.mono{α:Type}{M M':Mem}{P Q:α→List Value→Prop}(hM:M.le M')(h:∀ x cs,P x cs→Q x cs){l:List α}{v:Value}(H:B4I M P l v):B4I M' Q l v:=by
  obtain ⟨ao,cap,e,hc,hn,hx⟩:=H
  refine ⟨ao,cap,e,hc,hn,fun hne=>?_⟩
  obtain ⟨b,off,cur,el,fz,e1,hm,cs,hf,ht⟩:=hx hne
  exact ⟨b,off,cur,el,fz,e1,hM _ _ hm,cs,hf.mono h,ht⟩
theorem B08.mono{M M':Mem}(hM:M.le M'):∀ {x:Fv} {cs},B08 M x cs→B08 M' x cs
  | .nil,_,h | .fn _,_,h=>h
  | .itr _ _,_,⟨b,cur,e,fz,v,h1,h2,h3,h4⟩=>⟨b,cur,e,fz,v,h1,hM _ _ h2,h3,h4.mono hM fun _ _ k=>k⟩
theorem B08.one{M:Mem}:∀ {x:Fv} {cs},B08 M x cs→∃ v,cs=[v]
  | .nil,_,h | .fn _,_,h=>⟨_,h⟩
  | .itr _ _,_,⟨_,_,_,_,_,h,_⟩=>⟨_,h⟩
theorem E8.mono{M M':Mem}(hM:M.le M'):∀ {t:Ty} {x:t.den} {cs},E8 M t x cs→E8 M' t x cs
  | .int _,_,_,h | .bool,_,_,h | .str,_,_,h | .unit,_,_,h | .nil,_,_,h | .val,_,_,h | .ifc,_,_,h | .ptr,_,_,h=>h
  | .fnc,_,_,h=>B08.mono hM h
  | .pair _ _,_,_,⟨c1,c2,e,p,q⟩=>⟨c1,c2,e,p.mono hM,q.mono hM⟩
  | .arr _ t,_,_,⟨hl,h⟩=>⟨hl,h.mono fun _ _ k=>E8.mono (t:=t) hM k⟩
  | .slice t,_,_,⟨v,e,h⟩=>⟨v,e,h.mono hM fun _ _ k=>E8.mono (t:=t) hM k⟩
theorem E8.length{M:Mem}:∀ {t:Ty} {x:t.den} {cs},E8 M t x cs→cs.length=t.sz
  | .int _,_,_,h | .bool,_,_,h | .str,_,_,h | .unit,_,_,h | .nil,_,_,h | .ifc,_,_,h | .ptr,_,_,h=>by cases h; rfl
  | .fnc,_,_,h=>by obtain ⟨v,rfl⟩:=B08.one h; rfl
  | .val,_,_,h=>by cases h.1; rfl
  | .pair _ _,_,_,⟨c1,c2,e,p,q⟩=>by subst e; simp [Ty.sz,p.length,q.length]
  | .arr n t,_,_,⟨hl,h⟩=>by rw [E3.length (fun x cs (k:E8 M t x cs)=>k.length) h,hl]; rfl
  | .slice _,_,_,⟨v,e,h⟩=>by cases e; rfl
theorem E8.of_flat{M M':Mem}:∀ {t:Ty} {x:t.den} {cs},t.flat=true→E8 M t x cs→E8 M' t x cs
  | .int _,_,_,_,h | .bool,_,_,_,h | .str,_,_,_,h | .unit,_,_,_,h=>h
  | .pair a b,_,_,hf,⟨c1,c2,e,p,q⟩=>by
    simp only [Ty.flat,Bool.and_eq_true] at hf
    exact ⟨c1,c2,e,E8.of_flat hf.1 p,E8.of_flat hf.2 q⟩
  | .arr _ t,_,_,hf,⟨hl,h⟩=>⟨hl,h.mono fun _ _ k=>E8.of_flat (t:=t) hf k⟩
theorem E8.dflt(M:Mem):∀ t:Ty,∃ cs,E8 M t (dflt t) cs
  | .int _=>⟨_,rfl⟩
  | .bool=>⟨_,rfl⟩
  | .str=>⟨_,rfl⟩
  | .unit=>⟨_,rfl⟩
  | .nil=>⟨_,rfl⟩
  | .val=>⟨_,rfl,_,_,_,rfl⟩
  | .ifc=>⟨_,rfl⟩
  | .ptr=>⟨_,rfl⟩
  | .fnc=>⟨[.nilFunc],rfl⟩
  | .pair a b=>by
    obtain ⟨c,h⟩:=E8.dflt M a; obtain ⟨d,k⟩:=E8.dflt M b
    exact ⟨c++d,c,d,rfl,h,k⟩
  | .arr n t=>by
    obtain ⟨c,h⟩:=E8.dflt M t
    exact ⟨_,by simp [Eng.dflt],E3.replicate h n⟩
  | .slice t=>⟨_,.slice none 0 0,rfl,none,0,rfl,Nat.le_refl _,fun _=>rfl,fun h=>absurd rfl h⟩
def A5e:Ty→List Value
  | .int k=>[.int k 0]
  | .bool=>[.bool false]
  | .str=>[.string ByteArray.empty]
  | .unit=>[]
  | .nil=>[.slice none 0 0]
  | .val=>[.slice none 0 0]
  | .ifc=>[.nilIface]
  | .ptr=>[.pointer none]
  | .fnc=>[.nilFunc]
  | .pair a b=>A5e a++A5e b
  | .arr n t=>(List.replicate n (A5e t)).flatten
  | .slice _=>[.slice none 0 0]
theorem E8.zero(M:Mem):∀ t:Ty,E8 M t (Eng.dflt t) (A5e t)
  | .int _=>rfl
  | .bool=>rfl
  | .str=>rfl
  | .unit=>rfl
  | .nil=>rfl
  | .val=>⟨rfl,_,_,_,rfl⟩
  | .ifc=>rfl
  | .ptr=>rfl
  | .fnc=>rfl
  | .pair a b=>⟨_,_,rfl,E8.zero M a,E8.zero M b⟩
  | .arr n t=>⟨by simp [Eng.dflt],E3.replicate (E8.zero M t) n⟩
  | .slice t=>⟨.slice none 0 0,rfl,none,0,rfl,Nat.le_refl _,fun _=>rfl,fun h=>absurd rfl h⟩
def A1A:Ty→List Step→Nat
  | .pair a _,.fld 0::p=>A1A a p
  | .pair a b,.fld (n+1)::p=>a.sz+A1A b (.fld n::p)
  | .arr _ e,.idx i::p=>i*e.sz+A1A e p
  | _,_=>0
def okP:Ty→List Step→Prop
  | _,[]=>True
  | .pair a _,.fld 0::p=>okP a p
  | .pair _ b,.fld (n+1)::p=>okP b (.fld n::p)
  | .arr n e,.idx i::p=>i < n∧okP e p
  | _,_=>False
theorem A0i{α:Type}{l:List α}{i:Nat}(d:α)(h:i < l.length):l.getD i d=l[i]:=by simp [List.getD,h]
theorem A2L(t:Ty):okP t []:=by cases t <;> trivial
theorem N8(t:Ty):A1A t []=0:=by cases t <;> rfl
theorem B5Y(t:Ty)(x:t.den):getP t [] x=some ⟨t,x⟩:=by cases t <;> rfl
theorem W7(t:Ty):tyP t []=some t:=by cases t <;> rfl
theorem B09(t:Ty)(x:t.den)(t':Ty)(v:t'.den):setP t [] x t' v=if h:t'=t then some (h ▸ v) else none:=by cases t <;> rfl
theorem B2j{α:Type}(c1 c2:List α)(k n:Nat)(h:k+n≤c1.length):((c1++c2).drop k).take n=(c1.drop k).take n:=by
  rw [List.drop_append_of_le_length (by omega),List.take_append_of_le_length (by simp; omega)]
theorem A6J{α:Type}(c1 c2:List α)(k n:Nat):((c1++c2).drop (c1.length+k)).take n=(c2.drop k).take n:=by
  rw [← List.drop_drop,List.drop_left]
theorem A1s:∀ {t:Ty} {p:List Step} {t':Ty},okP t p→tyP t p=some t'→A1A t p+t'.sz≤t.sz
  | t,[],t',_,h=>by rw [W7] at h; cases h; rw [N8]; omega
  | .pair a b,.fld 0::p,t',ho,h=>by
    have:=A1s (t:=a) (p:=p) ho h; simp only [A1A,Ty.sz]; omega
  | .pair a b,.fld (n+1)::p,t',ho,h=>by
    have:=A1s (t:=b) (p:=.fld n::p) ho h; simp only [A1A,Ty.sz]; omega
  | .arr n e,.idx i::p,t',ho,h=>by
    have h1:=A1s (t:=e) (p:=p) ho.2 h
    have h2:(i+1)*e.sz≤n*e.sz:=Nat.mul_le_mul_right _ ho.1
    simp only [A1A,Ty.sz]; rw [Nat.succ_mul] at h2; omega
theorem A2N:∀ {t:Ty} {p:List Step} {x:t.den} {t':Ty} {y:t'.den},getP t p x=some ⟨t',y⟩→tyP t p=some t'
  | t,[],x,t',y,h=>by rw [B5Y] at h; cases h; exact W7 t
  | .pair a b,.fld 0::p,x,t',y,h=>A2N (t:=a) (p:=p) h
  | .pair a b,.fld (n+1)::p,x,t',y,h=>A2N (t:=b) (p:=.fld n::p) h
  | .arr n e,.idx i::p,l,t',y,h=>A2N (t:=e) (p:=p) h
theorem E8.get{M:Mem}:∀ {t:Ty} {p:List Step} {x:t.den} {cs:List Value} {t':Ty} {y:t'.den},E8 M t x cs→okP t p→getP t p x=some ⟨t',y⟩ →
    E8 M t' y ((cs.drop (A1A t p)).take t'.sz)
  | t,[],x,cs,t',y,h,_,hg=>by
    rw [B5Y] at hg
    cases hg
    rw [N8,List.drop_zero,← h.length,List.take_length]
    exact h
  | .pair a b,.fld 0::p,x,cs,t',y,⟨c1,c2,e,p1,p2⟩,ho,hg=>by
    have hl:=A1s (t:=a) (p:=p) ho (A2N (t:=a) hg)
    subst e
    show E8 M t' y (((c1++c2).drop (A1A a p)).take t'.sz)
    rw [B2j _ _ _ _ (by rw [p1.length]; exact hl)]
    exact E8.get p1 ho hg
  | .pair a b,.fld (n+1)::p,x,cs,t',y,⟨c1,c2,e,p1,p2⟩,ho,hg=>by
    subst e
    show E8 M t' y (((c1++c2).drop (a.sz+A1A b (.fld n::p))).take t'.sz)
    rw [← p1.length,A6J]
    exact E8.get p2 ho hg
  | .arr n e,.idx i::p,l,cs,t',y,⟨hl,h⟩,ho,hg=>by
    have hi:i < List.length l:=by rw [hl]; exact ho.1
    obtain ⟨c,hc,e1⟩:=E3.at (fun x cs (k:E8 M e x cs)=>k.length) h i hi
    have hle:=A1s ho.2 (A2N (t:=e) hg)
    have hg':getP e p (l[i]'hi)=some ⟨t',y⟩:=by rw [← A0i (Eng.dflt e) hi]; exact hg
    have:=E8.get hc ho.2 hg'
    subst e1
    show E8 M t' y ((cs.drop (i*e.sz+A1A e p)).take t'.sz)
    rw [← List.drop_drop]
    rw [List.drop_take,List.take_take,Nat.min_eq_left (by omega)] at this
    exact this
def over(cs:List Value)(k:Nat)(v:List Value):List Value:=cs.take k++v++cs.drop (k+v.length)
theorem A7o{cs:List Value}{k:Nat}{v:List Value}(h:k+v.length≤cs.length):(over cs k v).length=cs.length:=by
  simp [over]; omega
theorem B9Y(c1 c2:List Value)(k:Nat)(v:List Value)(h:k+v.length≤c1.length):over (c1++c2) k v=over c1 k v++c2:=by
  unfold over
  rw [List.take_append_of_le_length (by omega),List.drop_append_of_le_length (by omega)]; simp
theorem B4J(c1 c2:List Value)(k:Nat)(v:List Value):over (c1++c2) (c1.length+k) v=c1++over c2 k v:=by
  unfold over
  rw [show c1.length+k+v.length=c1.length+(k+v.length) by omega,List.take_append,List.drop_append]
  simp [List.take_of_length_le,List.drop_eq_nil_of_le]
theorem B2k(cs:List Value)(a k n:Nat)(v:List Value)(h:k+v.length≤n)(_hn:a+n≤cs.length) :
    over cs (a+k) v=cs.take a++over ((cs.drop a).take n) k v++cs.drop (a+n):=by
  unfold over
  have e1:cs.take (a+k)=cs.take a++((cs.drop a).take n).take k:=by
    rw [List.take_take,Nat.min_eq_left (by omega),List.take_add]
  have e2:cs.drop (a+k+v.length)=((cs.drop a).take n).drop (k+v.length)++cs.drop (a+n):=by
    rw [List.drop_take,List.drop_drop,show a+n=(a+(k+v.length))+(n - (k+v.length)) by omega,← List.drop_drop (i:=n - (k+v.length)),List.take_append_drop]
    congr 1; omega
  rw [e1,e2]; simp
theorem E8.put{M:Mem}:∀ {t:Ty} {p:List Step} {x:t.den} {cs:List Value} {t':Ty} {v:t'.den} {c:List Value} {z:t.den},E8 M t x cs→okP t p→setP t p x t' v=some z→E8 M t' v c →
    E8 M t z (over cs (A1A t p) c)∧tyP t p=some t'
  | t,[],x,cs,t',v,c,z,h,_,hs,hv=>by
    rw [B09] at hs
    split at hs
    · rename_i e; subst e; cases hs
      have:over cs (A1A t' []) c=c:=by unfold over; rw [N8]; simp [h.length,hv.length]
      rw [this]; exact ⟨hv,W7 t'⟩
    · cases hs
  | .pair a b,.fld 0::p,x,cs,t',v,c,z,⟨c1,c2,e,p1,p2⟩,ho,hs,hv=>by
    simp only [setP,Option.map_eq_some_iff] at hs
    obtain ⟨y,hy,rfl⟩:=hs
    obtain ⟨h1,h2⟩:=E8.put p1 ho hy hv
    have hl:=A1s (t:=a) (p:=p) ho h2
    subst e
    refine ⟨?_,h2⟩
    show E8 M (.pair a b) (y,x.2) (over (c1++c2) (A1A a p) c)
    rw [B9Y _ _ _ _ (by rw [p1.length,hv.length]; exact hl)]
    exact ⟨_,_,rfl,h1,p2⟩
  | .pair a b,.fld (n+1)::p,x,cs,t',v,c,z,⟨c1,c2,e,p1,p2⟩,ho,hs,hv=>by
    simp only [setP,Option.map_eq_some_iff] at hs
    obtain ⟨y,hy,rfl⟩:=hs
    obtain ⟨h1,h2⟩:=E8.put p2 ho hy hv
    subst e
    refine ⟨?_,h2⟩
    show E8 M (.pair a b) (x.1,y) (over (c1++c2) (a.sz+A1A b (.fld n::p)) c)
    rw [← p1.length,B4J]
    exact ⟨_,_,rfl,p1,h1⟩
  | .arr n e,.idx i::p,l,cs,t',v,c,z,⟨hl,h⟩,ho,hs,hv=>by
    simp only [setP,Option.map_eq_some_iff] at hs
    obtain ⟨y,hy,rfl⟩:=hs
    have hi:i < List.length l:=by rw [hl]; exact ho.1
    have hn:∀ x cs,E8 M e x cs→cs.length=e.sz:=fun x cs k=>k.length
    obtain ⟨c0,hc,e1⟩:=E3.at hn h i hi
    rw [A0i (Eng.dflt e) hi] at hy
    obtain ⟨h1,h2⟩:=E8.put hc ho.2 hy hv
    have hle:=A1s ho.2 h2
    have hlen:=E3.length hn h
    have hb:i*e.sz+e.sz≤cs.length:=by
      rw [hlen]; have:=Nat.mul_le_mul_right e.sz hi; rw [Nat.succ_mul] at this; exact this
    have:=E3.set hn h i hi h1
    refine ⟨⟨by simpa using hl,?_⟩,h2⟩
    show E3 (E8 M e) _ (over cs (i*e.sz+A1A e p) c)
    rw [B2k cs (i*e.sz) (A1A e p) e.sz c (by rw [hv.length]; exact hle) hb,e1]
    exact this
end Go.Eng
namespace Go.Eng
open Go.RowKit
def C8(t:Ty)(cs:List Value):Value:=if t.isAgg then .agg cs.toArray else cs.headD undef
inductive Place where
  | no | at (b cap:Nat)
def Place.blk:Place→Option Nat
  | .no=>none
  | .at b _=>some b
def Place.slice:Place→Nat→Value
  | .no,n=>.slice none n 0
  | .at b cap,n=>.slice (some ⟨b,0,none⟩) n cap
def Place.cut(sz i j:Nat):Place→Value
  | .no=>.slice none 0 0
  | .at b cap=>.slice (if cap=i then some ⟨b,0,none⟩ else some ⟨b,i*sz,none⟩) (j - i) (cap - i)
def P9(M:Mem)(w:World):Place→MObj→Prop
  | _,.gone=>True
  | .no,.sl _ _ l=>l=[]
  | .at b cap,.sl e tid l=>l.length≤cap∧cap≤maxLen∧∃ cur,w.heap[b]?=some (.cells cur tid (0,0))∧cur.size=cap*e.sz∧∃ cs,E3 (E8 M e) l cs∧cur.toList.take cs.length=cs
  | .at b _,.bx t x=>∃ cur tid,w.heap[b]?=some (.cells cur tid (0,0))∧E8 M t x cur.toList
  | .no,.bx _ _=>False
def okO:MObj→List Step→Prop
  | .bx t _,p=>okP t p
  | .sl e _ l,.idx i::p=>i < l.length∧okP e p
  | _,_=>False
def A4y:MObj→List Step→Nat
  | .bx t _,p=>A1A t p
  | .sl e _ _,.idx i::p=>i*e.sz+A1A e p
  | _,_=>0
def A7p(ρ:Nat→Place)(obj:Nat→MObj)(id:Nat)(p:List Step)(v:Value):Prop :=
  ∃ b t',(ρ id).blk=some b∧okO (obj id) p∧(obj id).tyP p=some t'∧v=.pointer (some ⟨b,A4y (obj id) p,none⟩)
def X2(M:Mem)(ρ:Nat→Place)(obj:Nat→MObj)(v:Value):MV→Prop
  | .dead=>True
  | .d t x=>∃ cs,E8 M t x cs∧v=C8 t cs
  | .nilS=>v=.slice none 0 0
  | .own id=>∃ e tid l,obj id=.sl e tid l∧v=(ρ id).slice l.length
  | .pa id p=>∃ b t',(ρ id).blk=some b∧okO (obj id) p∧(obj id).tyP p=some t'∧v=.pointer (some ⟨b,A4y (obj id) p,none⟩)
  | .dp t x=>∃ b off cur e fz cs,v=.pointer (some ⟨b,off,none⟩)∧M b=some (.cells cur e fz)∧E8 M t x cs∧(cur.toList.drop off).take cs.length=cs
  | .fn f=>v=.func (.func f) #[] #[]
  | .und=>v=undef
  | .ne _=>∃ a cap,v=.slice (some a) 0 cap
  | .cut id i j=>∃ e tid l,obj id=.sl e tid l∧i≤j∧j≤l.length∧v=(ρ id).cut e.sz i j
  | .vw id i j=>∃ m e l b,obj id=.bx (.arr m e) l∧(ρ id).blk=some b∧i≤j∧j≤m∧v=.slice (some ⟨b,i*e.sz,none⟩) (j - i) (m - i)
  | .vp id i n=>∃ m e l b,obj id=.bx (.arr m e) l∧(ρ id).blk=some b∧i+n≤m∧v=.pointer (some ⟨b,i*e.sz,none⟩)
  | .ps id l=>∃ b cap cur e fz,v=.slice (some ⟨b,0,none⟩) l.length cap∧M b=some (.cells cur e fz)∧0 < l.length∧∀ (i:Nat) (p:List Step),l[i]?=some p→∃ u,cur[i]?=some u∧A7p ρ obj id p u
  | .pq id p=>∃ b off cur e fz u,v=.pointer (some ⟨b,off,none⟩)∧M b=some (.cells cur e fz)∧cur[off]?=some u∧A7p ρ obj id p u
inductive All2 {α β:Type} (R:α→β→Prop):List α→List β→Prop
  | nil:All2 R [] []
  | cons {a b l m}:R a b→All2 R l m→All2 R (a::l) (b::m)
theorem All2.get{α β:Type}{R:α→β→Prop}{l:List α}{m:List β}(h:All2 R l m):∀ {i:Nat} {b:β},m[i]?=some b→∃ a,l[i]?=some a∧R a b:=by
  induction h with
  | nil=>intro i b h; simp at h
  | cons r _ ih =>
    intro i b h
    cases i with
    | zero=>simp at h; subst h; exact ⟨_,rfl,r⟩
    | succ i=>simpa using ih (i:=i) (by simpa using h)
theorem All2.imp{α β γ:Type}{R:α→β→Prop}{S:α→γ→Prop}{f:β→γ}(hf:∀ a b,R a b→S a (f b)){l:List α}{m:List β}(h:All2 R l m):All2 S l (m.map f):=by
  induction h with
  | nil=>exact .nil
  | cons r _ ih=>exact .cons (hf _ _ r) ih
def A0c(M:Mem)(ρ:Nat→Place)(obj:Nat→MObj)(v:Value):SV→Prop
  | .one m=>X2 M ρ obj v m
  | .tup ms=>∃ vs:List Value,v=.tuple vs.toArray∧All2 (X2 M ρ obj) vs ms
structure Frm where
  n:Nat×Nat
  pv:Nat→Value
  M0:Mem
  w0:World
  bor:Nat→Prop
  gv:Nat→Value:=fun _=>undef
def Frm.val(fr:Frm)(a:Act)(t:Nat):Value:=if t < 8192 then a.tmps.getD t undef else fr.gv t
theorem Frm.val_lt{fr:Frm}{a:Act}{t:Nat}(h:t < 8192):fr.val a t=a.tmps.getD t undef:=if_pos h
theorem Frm.val_ge{fr:Frm}{a:Act}{t:Nat}(h:¬ t < 8192):fr.val a t=fr.gv t:=if_neg h
def A2O(M:Mem)(w:World):Prop:=∀ b o,M b=some o→w.heap[b]?=some o
structure Since (bor:Nat→Prop) (w w':World):Prop where
  os:w'.os=w.os
  tape:w'.tape=w.tape
  output:w'.output=w.output
  size:w.heap.size≤w'.heap.size
  block:∀ b,b < w.heap.size→¬ bor b→w'.heap[b]?=w.heap[b]?
theorem Since.refl(bor:Nat→Prop)(w:World):Since bor w w:=⟨rfl,rfl,rfl,Nat.le_refl _,fun _ _ _=>rfl⟩
theorem Since.trans{b1 b2 bor:Nat→Prop}{w w1 w2:World}(h:Since b1 w w1)(k:Since b2 w1 w2)(i1:∀ b,b1 b→bor b)(i2:∀ b,b < w.heap.size→b2 b→bor b):Since bor w w2 :=
  ⟨k.os.trans h.os,k.tape.trans h.tape,k.output.trans h.output,Nat.le_trans h.size k.size,
   fun b hb hn=>(k.block b (Nat.lt_of_lt_of_le hb h.size) (fun x=>hn (i2 b hb x))).trans (h.block b hb (fun x=>hn (i1 b x)))⟩
structure Good (fr:Frm) (M:Mem) (ρ:Nat→Place) (s:St) (a:Act) (w:World):Prop where
  env:∀ t,A0c M ρ s.obj (fr.val a t) (s.get t)
  size:a.tmps.size=fr.n.2∧∀ t,t < fr.n.1→a.tmps.getD t undef=fr.pv t
  defers:a.defers=[]
  mem:A2O M w
  old:fr.M0.le M
  objs:∀ id,P9 M w (ρ id) (s.obj id)
  apart:∀ id b,s.obj id≠.gone→(ρ id).blk=some b→M b=none∧b < w.heap.size∧(fr.w0.heap.size≤b∨fr.bor b)∧∀ id',id'≠id→s.obj id'≠.gone→(ρ id').blk≠some b
  since:Since fr.bor fr.w0 w
  keep:∀ b,b < fr.w0.heap.size→¬ fr.bor b→M b=fr.M0 b
def A0r:MObj→MObj→Prop
  | .gone,_=>True
  | .sl e n l,.sl e' n' l'=>e=e'∧n=n'∧l.length=l'.length
  | .bx t _,.bx t' _=>t=t'
  | _,_=>False
theorem A0r.refl:∀ o,A0r o o
  | .gone=>trivial
  | .sl _ _ _=>⟨rfl,rfl,rfl⟩
  | .bx _ _=>rfl
theorem A0r.ok{o o':MObj}(h:A0r o o'):∀ {p t'},okO o p→o.tyP p=some t'→okO o' p∧o'.tyP p=some t'∧A4y o' p=A4y o p:=by
  intro p t' hk ht
  cases o with
  | gone=>exact hk.elim
  | bx t x =>
    cases o' with
    | bx t2 y=>cases (h:t=t2); exact ⟨hk,ht,rfl⟩
    | gone=>exact h.elim
    | sl _ _ _=>exact h.elim
  | sl e n l =>
    cases o' with
    | bx t2 y=>exact h.elim
    | gone=>exact h.elim
    | sl e2 n2 l2 =>
      obtain ⟨rfl,rfl,hl⟩:=(h:e=e2∧n=n2∧_)
      cases p with
      | nil=>exact hk.elim
      | cons st q =>
        cases st with
        | fld f=>exact hk.elim
        | idx i=>exact ⟨⟨by rw [← hl]; exact hk.1,hk.2⟩,ht,rfl⟩
theorem B4I.isAgg{M:Mem}{t:Ty}{x:t.den}{cs:List Value}(h:E8 M t x cs)(hn:t.isAgg=false):∃ v,cs=[v]∧C8 t cs=v:=by
  cases t <;> simp [Ty.isAgg] at hn
  all_goals first
    | (obtain ⟨v,rfl⟩:=B08.one (x:=x) h; exact ⟨v,rfl,by simp [C8,Ty.isAgg]⟩)
    | (cases h; exact ⟨_,rfl,by simp [C8,Ty.isAgg]⟩)
    | (exact ⟨_,h.1,by rw [h.1]; simp [C8,Ty.isAgg]⟩)
    | (obtain ⟨v,rfl,_⟩:=h; exact ⟨v,rfl,by simp [C8,Ty.isAgg]⟩)
theorem A7p.mono{ρ ρ':Nat→Place}{obj obj':Nat→MObj}{id:Nat}{p:List Step}{v:Value}(h:A7p ρ obj id p v)(hr:ρ' id=ρ id)(hs:A0r (obj id) (obj' id)):A7p ρ' obj' id p v:=by
  obtain ⟨b,t',hb,hk,ht,hv⟩:=h
  obtain ⟨h1,h2,h3⟩:=hs.ok hk ht
  exact ⟨b,t',by rw [hr]; exact hb,h1,h2,by rw [h3]; exact hv⟩
theorem X2.mono{M M':Mem}(hM:M.le M'){ρ ρ':Nat→Place}{obj obj':Nat→MObj}{v:Value}{m:MV}(h:X2 M ρ obj v m)
    (hid:∀ id,m.id?=some id→ρ' id=ρ id∧A0r (obj id) (obj' id)):X2 M' ρ' obj' v m:=by
  cases m with
  | dead=>trivial
  | d t x=>obtain ⟨cs,hf,e⟩:=h; exact ⟨cs,hf.mono hM,e⟩
  | nilS=>exact h
  | own id =>
    obtain ⟨e,tid,l,ho,hv⟩:=h
    obtain ⟨hr,hs⟩:=hid id rfl
    rw [ho] at hs
    cases ho':obj' id with
    | gone=>rw [ho'] at hs; exact hs.elim
    | bx _ _=>rw [ho'] at hs; exact hs.elim
    | sl e2 n2 l2 =>
      rw [ho'] at hs
      exact ⟨e2,n2,l2,ho',by rw [hr,← hs.2.2]; exact hv⟩
  | pa id p =>
    obtain ⟨b,t',hb,hk,ht,hv⟩:=h
    obtain ⟨hr,hs⟩:=hid id rfl
    obtain ⟨h1,h2,h3⟩:=hs.ok hk ht
    exact ⟨b,t',by rw [hr]; exact hb,h1,h2,by rw [h3]; exact hv⟩
  | dp t x =>
    obtain ⟨b,off,cur,e,fz,cs,hv,hm,hf,ht⟩:=h
    exact ⟨b,off,cur,e,fz,cs,hv,hM _ _ hm,hf.mono hM,ht⟩
  | fn f=>exact h
  | und=>exact h
  | ne e=>exact h
  | cut id i j =>
    obtain ⟨e,tid,l,ho,h1,h2,hv⟩:=h
    obtain ⟨hr,hs⟩:=hid id rfl
    rw [ho] at hs
    cases ho':obj' id with
    | gone=>rw [ho'] at hs; exact hs.elim
    | bx _ _=>rw [ho'] at hs; exact hs.elim
    | sl e2 n2 l2 =>
      rw [ho'] at hs
      obtain ⟨he,_,hl⟩:=hs
      subst he
      exact ⟨e,n2,l2,ho',h1,by rw [← hl]; exact h2,by rw [hr]; exact hv⟩
  | vw id i j =>
    obtain ⟨m,e,l,b,ho,hb,h1,h2,hv⟩:=h
    obtain ⟨hr,hs⟩:=hid id rfl
    rw [ho] at hs
    cases ho':obj' id with
    | gone=>rw [ho'] at hs; exact hs.elim
    | sl _ _ _=>rw [ho'] at hs; exact hs.elim
    | bx t2 l2 =>
      rw [ho'] at hs
      have ht:Ty.arr m e=t2:=hs
      subst ht
      exact ⟨m,e,l2,b,ho',by rw [hr]; exact hb,h1,h2,hv⟩
  | vp id i n =>
    obtain ⟨m,e,l,b,ho,hb,h1,hv⟩:=h
    obtain ⟨hr,hs⟩:=hid id rfl
    rw [ho] at hs
    cases ho':obj' id with
    | gone=>rw [ho'] at hs; exact hs.elim
    | sl _ _ _=>rw [ho'] at hs; exact hs.elim
    | bx t2 l2 =>
      rw [ho'] at hs
      have ht:Ty.arr m e=t2:=hs
      subst ht
      exact ⟨m,e,l2,b,ho',by rw [hr]; exact hb,h1,hv⟩
  | ps id l =>
    obtain ⟨b,cap,cur,e,fz,hv,hm,hl,hall⟩:=h
    obtain ⟨hr,hs⟩:=hid id rfl
    exact ⟨b,cap,cur,e,fz,hv,hM _ _ hm,hl,fun i p hp=>by obtain ⟨u,h1,h2⟩:=hall i p hp; exact ⟨u,h1,h2.mono hr hs⟩⟩
  | pq id p =>
    obtain ⟨b,off,cur,e,fz,u,hv,hm,h1,h2⟩:=h
    obtain ⟨hr,hs⟩:=hid id rfl
    exact ⟨b,off,cur,e,fz,u,hv,hM _ _ hm,h1,h2.mono hr hs⟩
def MV.reps(r:List (Nat×MV))(m:MV):MV:=r.foldl (fun m (id,y)=>m.repl id y) m
def SV.reps(r:List (Nat×MV))(m:SV):SV:=r.foldl (fun m (id,y)=>m.repl id y) m
theorem B5Z{α:Type}(f:α→α)(d:α)(hd:f d=d):∀ (l:List (Nat×α)) (t:Nat),look d (l.map fun (k,x)=>(k,f x)) t=f (look d l t)
  | [],_=>hd.symm
  | (k,x)::l,t=>by
    simp only [List.map_cons,look]
    cases Nat.beq k t <;> simp [B5Z f d hd l t]
theorem St.get_repl(id:Nat)(y:MV)(s:St)(t:Nat):(s.repl id y).get t=(s.get t).repl id y:=by
  unfold St.get St.repl
  exact B5Z (fun v:SV=>v.repl id y) (.one .dead) rfl _ _
theorem St.get_reps(r:List (Nat×MV))(s:St)(t:Nat):(r.foldl (fun s (id,y)=>s.repl id y) s).get t=(s.get t).reps r:=by
  unfold SV.reps
  induction r generalizing s with
  | nil=>rfl
  | cons x r ih=>simp only [List.foldl_cons]; rw [ih,St.get_repl]
theorem St.heap_reps(r:List (Nat×MV))(s:St):(r.foldl (fun s (id,y)=>s.repl id y) s).heap=s.heap:=by
  induction r generalizing s with
  | nil=>rfl
  | cons x r ih=>simp only [List.foldl_cons]; rw [ih]; rfl
theorem SV.reps_one(r:List (Nat×MV))(m:MV):(SV.one m).reps r=.one (m.reps r):=by
  unfold SV.reps MV.reps
  induction r generalizing m with
  | nil=>rfl
  | cons x r ih=>simp only [List.foldl_cons]; exact ih _
theorem SV.reps_tup(r:List (Nat×MV))(ms:List MV):(SV.tup ms).reps r=.tup (ms.map (MV.reps r)):=by
  unfold SV.reps
  induction r generalizing ms with
  | nil=>simp [show MV.reps []=id from rfl]
  | cons x r ih =>
    simp only [List.foldl_cons]
    rw [show(SV.tup ms).repl x.1 x.2=.tup (ms.map fun m=>m.repl x.1 x.2) from rfl,ih]
    simp [MV.reps]
theorem B2(a b:Nat):Nat.beq a b=true↔a=b:=by rw [← Nat.beq_eq]
def E7(l:List (Nat×MObj))(id:Nat):Option MObj:=look none (l.map fun (k,x)=>(k,some x)) id
theorem B2l:∀ (l m:List (Nat×MObj)) (t:Nat),look .gone (l++m) t=(E7 l t).getD (look .gone m t)
  | [],_,_=>rfl
  | (k,x)::l,m,t=>by
    simp only [List.cons_append,look,E7,List.map_cons]
    cases hb:Nat.beq k t with
    | true=>rfl
    | false=>exact B2l l m t
theorem Eff.obj_app(e:Eff)(dst:Option Nat)(s:St)(id:Nat):(e.app dst s).obj id=(E7 e.objs id).getD (s.obj id):=by
  have h:(e.app dst s).heap=e.objs++s.heap:=by
    unfold Eff.app
    cases dst <;> simp [St.put,St.heap_reps]
  unfold St.obj
  rw [h,B2l]
theorem Eff.get_app(e:Eff)(dst:Option Nat)(s:St)(t:Nat):(e.app dst s).get t=if dst=some t then e.val else(s.get t).reps e.rep:=by
  unfold Eff.app
  cases dst with
  | none=>simp only [reduceCtorEq,if_false]; exact St.get_reps e.rep s t
  | some d =>
    simp only [St.put,St.get,look]
    cases hb:Nat.beq d t with
    | true=>have:=(B2 _ _).1 hb; subst this; simp
    | false =>
      have:d≠t:=fun h=>by rw [(B2 _ _).2 h] at hb; cases hb
      simp only [cond_false,Option.some.injEq,this,if_false]
      exact St.get_reps e.rep s t
theorem Act.getD_put(a:Act)(dst:Option Nat)(v:Value)(n:Nat×Nat)(hs:a.tmps.size=n.2)(hd:F9 n dst=true)(t:Nat) :
    (a.put dst v).tmps.getD t undef=if dst=some t then v else a.tmps.getD t undef:=by
  cases dst with
  | none=>simp [Act.put]
  | some d =>
    have hlt:d < a.tmps.size:=by rw [hs]; simp only [F9,Bool.and_eq_true,Nat.blt_eq] at hd; exact hd.2.1
    simp only [Act.put,Array.getD_eq_getD_getElem?,Array.getElem?_setIfInBounds,Option.some.injEq]
    by_cases h:d=t
    · subst h; simp [hlt]
    · simp [h]
theorem Frm.val_put(fr:Frm)(a:Act)(dst:Option Nat)(v:Value)(hs:a.tmps.size=fr.n.2)(hd:F9 fr.n dst=true)(t:Nat):fr.val (a.put dst v) t=if dst=some t then v else fr.val a t:=by
  by_cases ht:t < 8192
  · rw [Frm.val_lt ht,Frm.val_lt ht]
    exact Act.getD_put a dst v fr.n hs hd t
  · rw [Frm.val_ge ht,Frm.val_ge ht,if_neg]
    rintro rfl
    simp only [F9,Bool.and_eq_true,Nat.blt_eq] at hd
    exact ht hd.2.2
theorem Good.step{fr:Frm}{M:Mem}{ρ:Nat→Place}{s:St}{a:Act}{w:World}(g:Good fr M ρ s a w){dst:Option Nat}{e:Eff}{v:Value}
    {M':Mem} {ρ':Nat→Place} {w':World} (hd:F9 fr.n dst=true) (hM:M.le M') (hm:A2O M' w') (hsi:Since fr.bor fr.w0 w')
    (hobj:∀ id,P9 M' w' (ρ' id) ((E7 e.objs id).getD (s.obj id)))
    (hap:∀ id b,(E7 e.objs id).getD (s.obj id)≠.gone→(ρ' id).blk=some b→M' b=none∧b < w'.heap.size∧(fr.w0.heap.size≤b∨fr.bor b) ∧
      ∀ id',id'≠id→(E7 e.objs id').getD (s.obj id')≠.gone→(ρ' id').blk≠some b)
    (henv:∀ m v,X2 M ρ s.obj v m→X2 M' ρ' (fun id=>(E7 e.objs id).getD (s.obj id)) v (m.reps e.rep))
    (hval:A0c M' ρ' (fun id=>(E7 e.objs id).getD (s.obj id)) v e.val)
    (hkeep:∀ b,b < fr.w0.heap.size→¬ fr.bor b→M' b=M b):Good fr M' ρ' (e.app dst s) (a.put dst v) w':=by
  have ho:(e.app dst s).obj=fun id=>(E7 e.objs id).getD (s.obj id):=funext (Eff.obj_app e dst s)
  refine ⟨fun t=>?_,?_,?_,hm,g.old.trans hM,?_,?_,hsi,fun b h1 h2=>(hkeep b h1 h2).trans (g.keep b h1 h2)⟩
  · rw [ho,Frm.val_put fr a dst v g.size.1 hd,Eff.get_app]
    split
    · exact hval
    · have:=g.env t
      generalize s.get t=sv at this ⊢
      cases sv with
      | one m=>rw [SV.reps_one]; exact henv _ _ this
      | tup ms =>
        obtain ⟨vs,e1,h2⟩:=this
        rw [SV.reps_tup]
        exact ⟨vs,e1,h2.imp fun v m=>henv m v⟩
  · refine ⟨by cases dst <;> simp [Act.put,g.size.1],fun t ht=>?_⟩
    rw [Act.getD_put a dst v fr.n g.size.1 hd]
    split
    · rename_i h
      subst h
      simp only [F9,Bool.and_eq_true,Nat.ble_eq] at hd
      omega
    · exact g.size.2 t ht
  · cases dst <;> simp [Act.put,g.defers]
  · intro id; rw [ho]; exact hobj id
  · intro id b; rw [ho]; exact hap id b
end Go.Eng
namespace Go.Eng
open Go.RowKit
def A0s(P:Program)(cx:Cx):List Field→Ty→Nat→Prop
  | [],.unit,_=>True
  | f :: fs, .pair a b, off => f.offset = off ∧ (∃ r, cx.row? f.type = some r ∧ r.ty = a) ∧ f.name ≠ "_" ∧ A0s P cx fs b (off + a.sz)
  | _,_,_=>False
structure RowOk (P:Program) (cx:Cx) (t:Nat) (r:TyRow):Prop where
  info:∃ i z,P.info? t=some i∧i.size=r.ty.sz∧i.bytes=r.bytes∧i.zero=some z∧z.cells.toList=A5e r.ty
  desc:match r.ty with
    | .int k=>P.underlying t=some (.int k)
    | .bool=>P.underlying t=some .bool
    | .str=>P.underlying t=some .string
    | .slice e=>P.underlying t=some (.slice r.elem)∧∃ re,cx.row? r.elem=some re∧re.ty=e
    | .nil=>P.underlying t=some (.slice r.elem)
    | .val=>P.underlying t=some (.slice r.elem)
    | .ifc=>∃ ms,P.underlying t=some (.interface ms)
    | .ptr=>∃ e,P.underlying t=some (.pointer e)
    | .fnc=>∃ ps rs v,P.underlying t=some (.func ps rs v)
    | .arr n e=>∃ te,P.underlying t=some (.array n te)∧∃ re,cx.row? te=some re∧re.ty=e
    | ty=>∃ fs,P.underlying t=some (.struct fs)∧A0s P cx fs.toList ty 0∧P.stoodInHeld t=false
  guard:r.ty.isAgg=true→P.eqGuardType P.depth t=false
  depth:r.ty.depth≤1000
  meth:∀ p∈r.meth,∀ w:World,(method (P.types.size+Made.depth) t (.agg #[]) p.1).run P w=.ok (p.2.1,.agg #[]) w
def T3(P:Program)(cx:Cx):Prop:=∀ t r,cx.row? t=some r→RowOk P cx t r
section
variable {P:Program} {o:Oper} {a:Act} {w w':World} {next:Act→World→Prop} {Q:Exit→Act→World→Prop}
theorem G4{v:Value}(h:(execOp a.eval o).run P w=.ok (.value v) w')(k:next (a.put o.dst v) w'):o.wp P a w next Q:=by
  unfold Oper.wp; rw [h]; exact k
theorem B8o(h:(execOp a.eval o).run P w=.ok .skip w')(k:next (a.put o.dst undef) w'):o.wp P a w next Q:=by
  unfold Oper.wp; rw [h]; exact k
end
theorem B4K(M:Mem)(ρ:Nat→Place)(obj:Nat→MObj)(v:Value):X2 M ρ obj v (A7k v):=by
  unfold A7k
  split
  · exact ⟨_,rfl,rfl⟩
  · exact ⟨_,rfl,rfl⟩
  · exact ⟨_,rfl,rfl⟩
  · rfl
  · exact ⟨_,rfl,rfl⟩
  · trivial
section
variable {fr:Frm} {M:Mem} {ρ:Nat→Place} {s:St} {a:Act} {w:World}
theorem Good.eval(g:Good fr M ρ s a w)(x:Operand):A0c M ρ s.obj (a.eval x) (s.eval x):=by
  cases x with
  | tmp t =>
    simp only [St.eval]
    cases hb:Nat.blt t 8192 with
    | false=>trivial
    | true =>
      have h:=g.env t
      rw [Frm.val_lt (by simpa [Nat.blt_eq] using hb)] at h
      exact h
  | const v=>exact B4K M ρ s.obj v
  | global g=>trivial
  | func f=>rfl
structure ArgIs (M:Mem) (ρ:Nat→Place) (s:St) (v:Value) (x:Arg):Prop where
  rel:A0c M ρ s.obj v x.1
  obj:∀ id,x.1.id?=some id→s.obj id=x.2
theorem Good.arg(g:Good fr M ρ s a w)(x:Operand):ArgIs M ρ s (a.eval x) (s.arg x):=by
  refine ⟨g.eval x,fun id h=>?_⟩
  have h':(s.eval x).id?=some id:=h
  simp only [St.arg,h']
theorem Good.arg'(g:Good fr M ρ s a w){x:Operand}{y:Arg}(h:s.arg x=y):ArgIs M ρ s (a.eval x) y:=h ▸ g.arg x
theorem ArgIs.int{v:Value}{k:IntKind}{n:Int}{ob:MObj}(h:ArgIs M ρ s v (.one (.d (.int k) n),ob)):v=.int k n:=by
  obtain ⟨cs,hf,e⟩:=h.rel
  have hf':cs=[.int k n]:=hf
  subst hf'; simpa [C8,Ty.isAgg] using e
theorem ArgIs.bool{v:Value}{b:Bool}{ob:MObj}(h:ArgIs M ρ s v (.one (.d .bool b),ob)):v=.bool b:=by
  obtain ⟨cs,hf,e⟩:=h.rel
  have hf':cs=[.bool b]:=hf
  subst hf'; simpa [C8,Ty.isAgg] using e
theorem ArgIs.nilS{v:Value}{ob:MObj}(h:ArgIs M ρ s v (.one .nilS,ob)):v=.slice none 0 0:=h.rel
theorem ArgIs.fn{v:Value}{f:Nat}{ob:MObj}(h:ArgIs M ρ s v (.one (.fn f),ob)):v=.func (.func f) #[] #[]:=h.rel
theorem Good.quiet(g:Good fr M ρ s a w){dst:Option Nat}(hd:F9 fr.n dst=true){M':Mem}{w':World}(hM:M.le M')(hm:A2O M' w')(hs:Since (fun _=>False) w w')
    (hnew:∀ b,b < w.heap.size→M' b=M b) {v:Value} {sv:SV} (hv:A0c M' ρ s.obj v sv):Good fr M' ρ (({ val:=sv }:Eff).app dst s) (a.put dst v) w':=by
  refine g.step hd hM hm (g.since.trans hs (fun _ h=>h) (fun _ _ h=>h.elim)) (fun id=>?_) (fun id b hne hb=>?_) (fun m v h=>?_) ?_ ?_
  · show P9 M' w' (ρ id) (s.obj id)
    have:=g.objs id
    have hb:∀ b cap,s.obj id≠.gone→ρ id=.at b cap→w'.heap[b]?=w.heap[b]?:=fun b cap hne hr =>
      hs.block b (g.apart id b hne (by rw [hr]; rfl)).2.1 (fun h=>h)
    cases ho:s.obj id with
    | gone=>cases ρ id <;> trivial
    | sl e tid l =>
      rw [ho] at this hb
      cases hr:ρ id with
      | no=>rw [hr] at this; exact this
      | «at» b cap =>
        rw [hr] at this
        obtain ⟨h1,h2,cur,h3,h4,cs,h5,h6⟩:=this
        exact ⟨h1,h2,cur,by rw [hb b cap (by simp) hr]; exact h3,h4,cs,h5.mono fun _ _ k=>k.mono hM,h6⟩
    | bx t x =>
      rw [ho] at this hb
      cases hr:ρ id with
      | no=>rw [hr] at this; exact this.elim
      | «at» b cap =>
        rw [hr] at this
        obtain ⟨cur,tid,h3,h4⟩:=this
        exact ⟨cur,tid,by rw [hb b cap (by simp) hr]; exact h3,h4.mono hM⟩
  · have:=g.apart id b hne hb
    exact ⟨by rw [hnew b this.2.1]; exact this.1,Nat.lt_of_lt_of_le this.2.1 hs.size,this.2.2.1,this.2.2.2⟩
  · exact h.mono hM fun id _=>⟨rfl,A0r.refl _⟩
  · exact hv
  · intro b h1 _; exact hnew b (Nat.lt_of_lt_of_le h1 g.since.size)
theorem Good.pure(g:Good fr M ρ s a w){dst:Option Nat}(hd:F9 fr.n dst=true){v:Value}{sv:SV}(hv:A0c M ρ s.obj v sv) :
    Good fr M ρ (({ val:=sv }:Eff).app dst s) (a.put dst v) w :=
  g.quiet hd (.refl M) g.mem (.refl _ w) (fun _ _=>rfl) hv
theorem X4(k:IntKind)(n:Int){obj:Nat→MObj}:A0c M ρ obj (.int k n) (.one (.d (.int k) n)):=⟨_,rfl,by simp [C8,Ty.isAgg]⟩
theorem A0t(b:Bool){obj:Nat→MObj}:A0c M ρ obj (.bool b) (.one (.d .bool b)):=⟨_,rfl,by simp [C8,Ty.isAgg]⟩
end
def N1(P:Program)(fr:Frm)(arg:Operand→Arg)(o:Oper)(e:Eff):Prop :=
  ∀ (M:Mem) (ρ:Nat→Place) (s:St) (a:Act) (w:World) (Q:Exit→Act→World→Prop),Good fr M ρ s a w→(∀ x∈o.op.operands,s.arg x=arg x) →
    o.wp P a w (fun a' w'=>∃ M' ρ',Good fr M' ρ' (e.app o.dst s) a' w') Q
section
variable {P:Program} {fr:Frm} {arg:Operand→Arg} {o:Oper}
theorem N1.of_value{e:Eff}(hd:F9 fr.n o.dst=true) (h:∀ (M:Mem) (ρ:Nat→Place) (s:St) (a:Act) (w:World),Good fr M ρ s a w→(∀ x∈o.op.operands,s.arg x=arg x) →
    ∃ v,(execOp a.eval o).run P w=.ok (.value v) w∧A0c M ρ s.obj v e.val) (h1:e.rep=[]) (h2:e.objs=[]):N1 P fr arg o e:=by
  intro M ρ s a w Q g ha
  obtain ⟨v,hv,hr⟩:=h M ρ s a w g ha
  refine G4 hv ⟨M,ρ,?_⟩
  obtain ⟨rep,objs,val⟩:=e
  subst h1; subst h2
  exact g.pure hd hr
theorem N1.move{x:Operand}(hd:F9 fr.n o.dst=true)(ho:o.op=.move x∨o.op=.assign x):N1 P fr arg o { val:=(arg x).1 }:=by
  refine N1.of_value hd (fun M ρ s a w g ha=>?_) rfl rfl
  have hx:s.arg x=arg x:=ha x (by rcases ho with h | h <;> rw [h] <;> simp [Op.operands])
  refine ⟨a.eval x,by rcases ho with h | h <;> simp [execOp,h],?_⟩
  rw [← hx]; exact g.eval x
theorem A0S(P:Program)(w:World)(op:BinOp)(t:TypeId)(x y:Operand)(k k':IntKind)(m n:Int):(eqGuard op t x y (.int k m) (.int k' n)).run P w=.ok () w:=by
  unfold eqGuard
  split <;> simp
theorem B8p{R:Type}{KE:Eff→Option R}{r:R}{op:BinOp}{t u:TypeId}{x y:Operand}{k:IntKind}{m n:Int}{ox oy:MObj}(hd:F9 fr.n o.dst=true)(ho:o.op=.binOp op t x y u)
    (hx:arg x=(.one (.d (.int k) m),ox)) (hy:arg y=(.one (.d (.int k) n),oy)) (h:D4B KE op k m n=some r):∃ e,KE e=some r∧N1 P fr arg o e:=by
  have key:∀ sv:SV,(∀ M ρ obj,∃ v,(binOp op t (.int k m) (.int k n))=(pure v:Sem Value)∧A0c M ρ obj v sv)→N1 P fr arg o { val:=sv }:=by
    intro sv hsv
    refine N1.of_value hd (fun M ρ s a w g ha=>?_) rfl rfl
    have e1:=(g.arg' ((ha x (by rw [ho]; simp [Op.operands])).trans hx)).int
    have e2:=(g.arg' ((ha y (by rw [ho]; simp [Op.operands])).trans hy)).int
    obtain ⟨v,hv,hr⟩:=hsv M ρ s.obj
    refine ⟨v,?_,hr⟩
    simp [execOp,ho,e1,e2,A0S,hv]
  cases op <;> simp only [D4B] at h
  case add=>exact ⟨_,h,key _ fun M ρ obj=>⟨_,by simp [binOp,Op.intArith,D5,I5,A2H],X4 k _⟩⟩
  case sub=>exact ⟨_,h,key _ fun M ρ obj=>⟨_,by simp [binOp,Op.intArith,D5,I5,A2H],X4 k _⟩⟩
  case mul=>exact ⟨_,h,key _ fun M ρ obj=>⟨_,by simp [binOp,Op.intArith,D5,I5,A2H],X4 k _⟩⟩
  case quo =>
    cases hz:eqI n 0 <;> rw [hz] at h <;> simp at h
    have hz':n≠0:=by simpa [eqI] using hz
    exact ⟨_,h,key _ fun M ρ obj=>⟨_,by simp [binOp,Op.intDiv,hz',A4L,A3j],X4 k _⟩⟩
  case rem =>
    cases hz:eqI n 0 <;> rw [hz] at h <;> simp at h
    have hz':n≠0:=by simpa [eqI] using hz
    exact ⟨_,h,key _ fun M ρ obj=>⟨_,by simp [binOp,Op.intDiv,hz',A4L,A3j],X4 k _⟩⟩
  case and=>exact ⟨_,h,key _ fun M ρ obj=>⟨_,by simp only [binOp,Op.intBits,ne_eq,not_true,if_false]; rfl,X4 k _⟩⟩
  case or=>exact ⟨_,h,key _ fun M ρ obj=>⟨_,by simp only [binOp,Op.intBits,ne_eq,not_true,if_false]; rfl,X4 k _⟩⟩
  case xor=>exact ⟨_,h,key _ fun M ρ obj=>⟨_,by simp only [binOp,Op.intBits,ne_eq,not_true,if_false]; rfl,X4 k _⟩⟩
  case andNot=>exact ⟨_,h,key _ fun M ρ obj=>⟨_,by simp only [binOp,Op.intBits,ne_eq,not_true,if_false]; rfl,X4 k _⟩⟩
  case eql=>exact ⟨_,h,key _ fun M ρ obj=>⟨_,by simp only [binOp,Op.intCmp,ne_eq,not_true,if_false]; rfl,A0t _⟩⟩
  case neq=>exact ⟨_,h,key _ fun M ρ obj=>⟨_,by simp only [binOp,Op.intCmp,ne_eq,not_true,if_false]; rfl,A0t _⟩⟩
  case lss=>exact ⟨_,h,key _ fun M ρ obj=>⟨_,by simp only [binOp,Op.intCmp,ne_eq,not_true,if_false]; rfl,A0t _⟩⟩
  case leq=>exact ⟨_,h,key _ fun M ρ obj=>⟨_,by simp only [binOp,Op.intCmp,ne_eq,not_true,if_false]; rfl,A0t _⟩⟩
  case gtr=>exact ⟨_,h,key _ fun M ρ obj=>⟨_,by simp only [binOp,Op.intCmp,ne_eq,not_true,if_false]; rfl,A0t _⟩⟩
  case geq=>exact ⟨_,h,key _ fun M ρ obj=>⟨_,by simp only [binOp,Op.intCmp,ne_eq,not_true,if_false]; rfl,A0t _⟩⟩
  all_goals cases h
theorem B9Z{R:Type}{KE:Eff→Option R}{r:R}{t u:TypeId}{x y:Operand}{k k':IntKind}{m n:Int}{ox oy:MObj}(hd:F9 fr.n o.dst=true)(ho:o.op=.binOp .shl t x y u)
    (hx:arg x=(.one (.d (.int k) m),ox)) (hy:arg y=(.one (.d (.int k') n),oy)) (h:(bif ltI n 0 then none else KE (one (.d (.int k) (A2v k m n))))=some r):∃ e,KE e=some r∧N1 P fr arg o e:=by
  cases hz:ltI n 0 <;> rw [hz] at h <;> simp at h
  have hz':¬ n < 0:=by simpa [ltI] using hz
  refine ⟨_,h,N1.of_value hd (fun M ρ s a w g ha=>?_) rfl rfl⟩
  have e1:=(g.arg' ((ha x (by rw [ho]; simp [Op.operands])).trans hx)).int
  have e2:=(g.arg' ((ha y (by rw [ho]; simp [Op.operands])).trans hy)).int
  exact ⟨_,by simp [execOp,ho,e1,e2,A0S,binOp,Op.shift,hz']; rfl,X4 k _⟩
theorem C00{R:Type}{KE:Eff→Option R}{r:R}{t u:TypeId}{x y:Operand}{k k':IntKind}{m n:Int}{ox oy:MObj}(hd:F9 fr.n o.dst=true)(ho:o.op=.binOp .shr t x y u)
    (hx:arg x=(.one (.d (.int k) m),ox)) (hy:arg y=(.one (.d (.int k') n),oy)) (h:(bif ltI n 0 then none else KE (one (.d (.int k) (A0q k m n))))=some r):∃ e,KE e=some r∧N1 P fr arg o e:=by
  cases hz:ltI n 0 <;> rw [hz] at h <;> simp at h
  have hz':¬ n < 0:=by simpa [ltI] using hz
  refine ⟨_,h,N1.of_value hd (fun M ρ s a w g ha=>?_) rfl rfl⟩
  have e1:=(g.arg' ((ha x (by rw [ho]; simp [Op.operands])).trans hx)).int
  have e2:=(g.arg' ((ha y (by rw [ho]; simp [Op.operands])).trans hy)).int
  exact ⟨_,by simp [execOp,ho,e1,e2,A0S,binOp,Op.shift,hz']; rfl,X4 k _⟩
theorem B8q{R:Type}{KE:Eff→Option R}{r:R}{op:UnOp}{t:TypeId}{x:Operand}(hd:F9 fr.n o.dst=true)(ho:o.op=.unOp op t x)
    (h:C7l KE op (arg x)=some r):∃ e,KE e=some r∧N1 P fr arg o e:=by
  unfold C7l at h
  split at h
  · rename_i k n ob hx
    cases op <;> simp only at h
    case neg =>
      refine ⟨_,h,N1.of_value hd (fun M ρ s a w g ha=>?_) rfl rfl⟩
      have e1:=(g.arg' ((ha x (by rw [ho]; simp [Op.operands])).trans hx)).int
      exact ⟨.int k (I5 k 0 n),by simp [execOp,ho,e1,Op.unary,Op.intArith,I5],X4 k _⟩
    case xor =>
      refine ⟨_,h,N1.of_value hd (fun M ρ s a w g ha=>?_) rfl rfl⟩
      have e1:=(g.arg' ((ha x (by rw [ho]; simp [Op.operands])).trans hx)).int
      exact ⟨_,by simp [execOp,ho,e1,Op.unary,Op.intBits]; rfl,X4 k _⟩
    all_goals cases h
  · rename_i b ob hx
    cases op <;> simp only at h
    case not =>
      refine ⟨_,h,N1.of_value hd (fun M ρ s a w g ha=>?_) rfl rfl⟩
      have e1:=(g.arg' ((ha x (by rw [ho]; simp [Op.operands])).trans hx)).bool
      exact ⟨.bool (!b),by simp [execOp,ho,e1,Op.unary],A0t _⟩
    all_goals cases h
  · cases h
theorem B8r{c x y:Operand}{t:Bool}{oc:MObj}(hd:F9 fr.n o.dst=true)(ho:o.op=.pick c x y)
    (hc:arg c=(.one (.d .bool t),oc)):N1 P fr arg o { val:=bif t then(arg x).1 else(arg y).1 }:=by
  refine N1.of_value hd (fun M ρ s a w g ha=>?_) rfl rfl
  have e0:=(g.arg' ((ha c (by rw [ho]; simp [Op.operands])).trans hc)).bool
  have hx:s.arg x=arg x:=ha x (by rw [ho]; simp [Op.operands])
  have hy:s.arg y=arg y:=ha y (by rw [ho]; simp [Op.operands])
  cases t with
  | true=>exact ⟨a.eval x,by simp [execOp,ho,e0,asBool],by rw [← hx]; exact g.eval x⟩
  | false=>exact ⟨a.eval y,by simp [execOp,ho,e0,asBool],by rw [← hy]; exact g.eval y⟩
theorem A4z{x:Operand}{m:MV}{ob:MObj}(hd:F9 fr.n o.dst=true)(ho:o.op=.nilCheck x)
    (hx:arg x=(.one m,ob)) (hm:(∃ i p,m=.pa i p)∨∃ t y,m=.dp t y):N1 P fr arg o (one m):=by
  refine N1.of_value hd (fun M ρ s a w g ha=>?_) rfl rfl
  have hr:=(g.arg' ((ha x (by rw [ho]; simp [Op.operands])).trans hx)).rel
  have:∃ ad,a.eval x=.pointer (some ad):=by
    rcases hm with ⟨i,p,rfl⟩ | ⟨t,y,rfl⟩
    · obtain ⟨b,t',_,_,_,hv⟩:=hr; exact ⟨_,hv⟩
    · obtain ⟨b,off,cur,e,fz,cs,hv,_⟩:=hr; exact ⟨_,hv⟩
  obtain ⟨ad,had⟩:=this
  exact ⟨a.eval x,by simp [execOp,ho,had],hr⟩
theorem B0a{cx:Cx}(hcf:T3 P cx){sT dT:TypeId}{x:Operand}{r r':TyRow}{k0 k k':IntKind}{n:Int}{ob:MObj}(hd:F9 fr.n o.dst=true)(ho:o.op=.convert sT dT x)
    (h1:cx.row? sT=some r) (h2:cx.row? dT=some r') (hr:r.ty=.int k0) (hr':r'.ty=.int k) (hx:arg x=(.one (.d (.int k') n),ob)):N1 P fr arg o (one (.d (.int k) (k.wrap n))):=by
  refine N1.of_value hd (fun M ρ s a w g ha=>?_) rfl rfl
  have e1:=(g.arg' ((ha x (by rw [ho]; simp [Op.operands])).trans hx)).int
  have d1:=(hcf _ _ h1).desc
  have d2:=(hcf _ _ h2).desc
  rw [hr] at d1; rw [hr'] at d2
  exact ⟨.int k (k.wrap n),by simp [execOp,ho,e1,convert,underlying,d1,d2,Conv.intToInt],X4 k _⟩
theorem A8K{f:Nat}{xs ys:Array Operand}(hd:F9 fr.n o.dst=true)(ho:o.op=.makeFunc (.func f) xs ys)(h1:xs=#[])(h2:ys=#[]):N1 P fr arg o (one (.fn f)):=by
  refine N1.of_value hd (fun M ρ s a w g ha=>?_) rfl rfl
  subst h1; subst h2
  exact ⟨.func (.func f) #[] #[],by simp [execOp,ho,Instr.makeFunc],rfl⟩
theorem B0b{x:Operand}{i:Nat}{ms:List MV}{m:MV}{ob:MObj}(hd:F9 fr.n o.dst=true)(ho:o.op=.extract x i)(hx:arg x=(.tup ms,ob))(hm:ms[i]?=some m):N1 P fr arg o (one m):=by
  refine N1.of_value hd (fun M ρ s a w g ha=>?_) rfl rfl
  obtain ⟨vs,hv,h2⟩:=(g.arg' ((ha x (by rw [ho]; simp [Op.operands])).trans hx)).rel
  obtain ⟨v,h3,h4⟩:=h2.get hm
  exact ⟨v,by simp [execOp,ho,hv,Instr.extract,h3],h4⟩
end
end Go.Eng
namespace Go.Eng
open Go.RowKit
section
variable {P:Program} {cx:Cx} {M:Mem} {w:World}
theorem A7q(hcf:T3 P cx){T:TypeId}{r:TyRow}(h:cx.row? T=some r):(isAgg T).run P w=.ok r.ty.isAgg w:=by
  have d:=(hcf _ _ h).desc
  unfold isAgg underlying
  cases hr:r.ty with
  | int k=>rw [hr] at d; simp [d,Ty.isAgg]
  | bool=>rw [hr] at d; simp [d,Ty.isAgg]
  | str=>rw [hr] at d; simp [d,Ty.isAgg]
  | unit=>rw [hr] at d; obtain ⟨fs,d,_⟩:=d; simp [d,Ty.isAgg]
  | pair a b=>rw [hr] at d; obtain ⟨fs,d,_⟩:=d; simp [d,Ty.isAgg]
  | arr n e=>rw [hr] at d; obtain ⟨te,d,_⟩:=d; simp [d,Ty.isAgg]
  | slice e=>rw [hr] at d; obtain ⟨d,_⟩:=d; simp [d,Ty.isAgg]
  | nil=>rw [hr] at d; simp [d,Ty.isAgg]
  | val=>rw [hr] at d; simp [d,Ty.isAgg]
  | ifc=>rw [hr] at d; obtain ⟨ms,d⟩:=d; simp [d,Ty.isAgg]
  | ptr=>rw [hr] at d; obtain ⟨ms,d⟩:=d; simp [d,Ty.isAgg]
  | fnc=>rw [hr] at d; obtain ⟨_,_,_,d⟩:=d; simp [d,Ty.isAgg]
theorem F6(hcf:T3 P cx){T:TypeId}{r:TyRow}(h:cx.row? T=some r):(sizeOf T).run P w=.ok r.ty.sz w:=by
  obtain ⟨i,z,hi,hs,_⟩:=(hcf _ _ h).info
  simp [sizeOf,typeInfo,hi,hs]
theorem A49(hcf:T3 P cx){T:TypeId}{r:TyRow}(h:cx.row? T=some r){x:r.ty.den}{c cs:List Value}{off:Nat}(hf:E8 M r.ty x cs)(hc:(c.drop off).take r.ty.sz=cs) :
    (part T c.toArray off).run P w=.ok (C8 r.ty cs) w:=by
  unfold part
  simp only [Sem.run_bind,A7q hcf h,Result.andThen_ok]
  cases ha:r.ty.isAgg with
  | true =>
    simp only [if_true,Sem.run_bind,F6 hcf h,Result.andThen_ok,Sem.run_pure]
    congr 1
    simp only [C8,ha,if_true]
    congr 1
    rw [← hc]
    simp [List.extract_toArray,List.extract_eq_take_drop]
  | false =>
    obtain ⟨v,hv,hm⟩:=B4I.isAgg hf ha
    have h1:c[off]?=some v:=by
      have e:cs[0]?=some v:=by rw [hv]; rfl
      have l:cs.length=1:=by rw [hv]; rfl
      have hz:r.ty.sz=1:=by rw [← hf.length]; exact l
      rw [← hc,hz,List.getElem?_take] at e
      simpa using e
    simp [h1,hm]
theorem E8.eq_depth_pos(t:Ty):0 < t.depth:=by cases t <;> simp [Ty.depth]
def D0J(P:Program)(cx:Cx)(t:Ty):Prop :=
  ∀ (d:Nat) (T:TypeId) (r:TyRow) (M:Mem) (w:World) (x y:t.den) (c1 c2:List Value),cx.row? T=some r→r.ty=t→t.flat=true→t.depth≤d→E8 M t x c1→E8 M t y c2 →
    (Op.equalIn d T (C8 t c1) (C8 t c2)).run P w=.ok (eqT t x y) w
theorem A6l(hcf:T3 P cx)(d:Nat):∀ (ty:Ty) (fs:List Field) (off:Nat) (x y:ty.den) (c1 c2:List Value),A0s P cx fs ty off→ty.flat=true→ty.depth≤d+1 →
    (∀ t:Ty,t.depth < ty.depth→D0J P cx t)→E8 M ty x (c1.drop off)→E8 M ty y (c2.drop off) →
    (forIn (m:=Sem) fs ((none,()):Option Bool×Unit) fun f _ =>
      if f.name ≠ "_" then do
        let p ← part f.type c1.toArray f.offset
        let q ← part f.type c2.toArray f.offset
        let b ← Op.equalIn d f.type p q
        if !b then pure (ForInStep.done (some false,())) else pure (ForInStep.yield (none,()))
      else pure (ForInStep.yield (none,()))).run P w=.ok (if eqT ty x y then none else some false,()) w
  | .int _,fs,_,_,_,_,_,h,_,_,_,_,_=>by cases fs <;> exact h.elim
  | .bool,fs,_,_,_,_,_,h,_,_,_,_,_=>by cases fs <;> exact h.elim
  | .str,fs,_,_,_,_,_,h,_,_,_,_,_=>by cases fs <;> exact h.elim
  | .arr _ _,fs,_,_,_,_,_,h,_,_,_,_,_=>by cases fs <;> exact h.elim
  | .slice _,fs,_,_,_,_,_,h,_,_,_,_,_=>by cases fs <;> exact h.elim
  | .unit,_::_,_,_,_,_,_,h,_,_,_,_,_=>h.elim
  | .pair _ _,[],_,_,_,_,_,h,_,_,_,_,_=>h.elim
  | .unit,[],off,x,y,c1,c2,_,_,_,_,_,_=>by simp [eqT]
  | .pair a b,f::fs,off,x,y,c1,c2,⟨ho,⟨r,hr,hra⟩,hn,hfs⟩,hfl,hd,ih,⟨a1,b1,e1,p1,q1⟩,⟨a2,b2,e2,p2,q2⟩=>by
    subst ho
    simp only [Ty.flat,Bool.and_eq_true] at hfl
    have hda:a.depth < (Ty.pair a b).depth:=by simp only [Ty.depth]; omega
    have hdb:b.depth < (Ty.pair a b).depth:=by simp only [Ty.depth]; omega
    have l1:=p1.length
    have l2:=p2.length
    subst hra
    have k1:=A49 (M:=M) (w:=w) hcf hr p1 (c:=c1) (off:=f.offset) (by rw [e1,← l1]; simp)
    have k2:=A49 (M:=M) (w:=w) hcf hr p2 (c:=c2) (off:=f.offset) (by rw [e2,← l2]; simp)
    have k3:=ih _ hda d f.type r M w x.1 y.1 a1 a2 hr rfl hfl.1 (by simp only [Ty.depth] at hd hda ⊢; omega) p1 p2
    have d1:c1.drop (f.offset+r.ty.sz)=b1:=by rw [← List.drop_drop,e1,← l1,List.drop_left]
    have d2:c2.drop (f.offset+r.ty.sz)=b2:=by rw [← List.drop_drop,e2,← l2,List.drop_left]
    have rest:=A6l hcf d b fs (f.offset+r.ty.sz) x.2 y.2 c1 c2 hfs hfl.2 (by omega) (fun t ht=>ih t (by omega)) (by rw [d1]; exact q1) (by rw [d2]; exact q2)
    rw [List.forIn_cons]
    simp only [ne_eq,hn,not_false_eq_true,if_true,Sem.run_bind,k1,k2,k3,Result.andThen_ok]
    cases hq:eqT r.ty x.1 y.1 with
    | false=>simp [eqT,hq]
    | true =>
      simp only [Bool.not_true,Bool.false_eq_true,if_false,Sem.run_pure,Result.andThen_ok]
      rw [rest]
      simp [eqT,hq]
theorem A7r(hcf:T3 P cx)(d:Nat){T:TypeId}{r:TyRow}(hr:cx.row? T=some r)(ih:D0J P cx r.ty)(hfl:r.ty.flat=true)(hd:r.ty.depth≤d) :
    ∀ (l m:List r.ty.den) (k n:Nat) (c1 c2:List Value),l.length=n→m.length=n→E3 (E8 M r.ty) l (c1.drop (k*r.ty.sz))→E3 (E8 M r.ty) m (c2.drop (k*r.ty.sz)) →
    (forIn (m:=Sem) (List.range' k n) ((none,()):Option Bool×Unit) fun i _=>do
        let p ← part T c1.toArray (i*r.ty.sz)
        let q ← part T c2.toArray (i*r.ty.sz)
        let b ← Op.equalIn d T p q
        if !b then pure (ForInStep.done (some false,())) else pure (ForInStep.yield (none,()))).run P w=.ok (if eqL (eqT r.ty) l m then none else some false,()) w
  | [],[],k,n,c1,c2,h1,_,_,_=>by simp at h1; subst h1; simp [eqL]
  | [],_::_,k,n,c1,c2,h1,h2,_,_=>by simp at h1 h2; omega
  | _::_,[],k,n,c1,c2,h1,h2,_,_=>by simp at h1 h2; omega
  | x::l,y::m,k,n,c1,c2,h1,h2,⟨a1,b1,e1,p1,q1⟩,⟨a2,b2,e2,p2,q2⟩=>by
    cases n with
    | zero=>simp at h1
    | succ n =>
      have l1:=p1.length
      have l2:=p2.length
      have k1:=A49 (P:=P) (M:=M) (w:=w) hcf hr p1 (c:=c1) (off:=k*r.ty.sz) (by rw [e1,← l1]; simp)
      have k2:=A49 (P:=P) (M:=M) (w:=w) hcf hr p2 (c:=c2) (off:=k*r.ty.sz) (by rw [e2,← l2]; simp)
      have k3:=ih d T r M w x y a1 a2 hr rfl hfl hd p1 p2
      have d1:c1.drop ((k+1)*r.ty.sz)=b1:=by rw [Nat.succ_mul,← List.drop_drop,e1,← l1,List.drop_left]
      have d2:c2.drop ((k+1)*r.ty.sz)=b2:=by rw [Nat.succ_mul,← List.drop_drop,e2,← l2,List.drop_left]
      have rest:=A7r hcf d hr ih hfl hd l m (k+1) n c1 c2 (by simpa using h1) (by simpa using h2) (by rw [d1]; exact q1) (by rw [d2]; exact q2)
      rw [List.range'_succ,List.forIn_cons]
      simp only [Sem.run_bind,k1,k2,k3,Result.andThen_ok]
      cases hq:eqT r.ty x y with
      | false=>simp [eqL,hq]
      | true =>
        simp only [Bool.not_true,Bool.false_eq_true,if_false,Sem.run_pure,Result.andThen_ok]
        rw [rest]
        simp [eqL,hq]
theorem run_underlying{T:TypeId}{d:TypeDesc}(h:P.underlying T=some d):(underlying T).run P w=.ok d w:=by simp [underlying,h]
theorem C3O(hcf:T3 P cx){T:TypeId}{r:TyRow}{k:IntKind}(hr:cx.row? T=some r)(ht:r.ty=.int k):P.underlying T=some (.int k):=by
  have:=(hcf _ _ hr).desc; rw [ht] at this; exact this
theorem C01(hcf:T3 P cx){T:TypeId}{r:TyRow}(hr:cx.row? T=some r)(ht:r.ty=.bool):P.underlying T=some .bool:=by
  have:=(hcf _ _ hr).desc; rw [ht] at this; exact this
theorem C3P(hcf:T3 P cx){T:TypeId}{r:TyRow}(hr:cx.row? T=some r)(ht:r.ty=.str):P.underlying T=some .string:=by
  have:=(hcf _ _ hr).desc; rw [ht] at this; exact this
theorem S2(hcf:T3 P cx){T:TypeId}{r:TyRow}{e:Ty}(hr:cx.row? T=some r)(ht:r.ty=.slice e):P.underlying T=some (.slice r.elem)∧∃ re,cx.row? r.elem=some re∧re.ty=e:=by
  have:=(hcf _ _ hr).desc; rw [ht] at this; exact this
theorem A2P(hcf:T3 P cx){T:TypeId}{r:TyRow}{n:Nat}{e:Ty}(hr:cx.row? T=some r)(ht:r.ty=.arr n e):∃ te,P.underlying T=some (.array n te)∧∃ re,cx.row? te=some re∧re.ty=e:=by
  have:=(hcf _ _ hr).desc; rw [ht] at this; exact this
theorem A5f(hcf:T3 P cx){T:TypeId}{r:TyRow}{a b:Ty}(hr:cx.row? T=some r)(ht:r.ty=.pair a b):∃ fs,P.underlying T=some (.struct fs)∧A0s P cx fs.toList (.pair a b) 0∧P.stoodInHeld T=false:=by
  have:=(hcf _ _ hr).desc; rw [ht] at this; exact this
theorem A5g(hcf:T3 P cx){T:TypeId}{r:TyRow}(hr:cx.row? T=some r)(ht:r.ty=.unit):∃ fs,P.underlying T=some (.struct fs)∧A0s P cx fs.toList .unit 0∧P.stoodInHeld T=false:=by
  have:=(hcf _ _ hr).desc; rw [ht] at this; exact this
theorem A4A(hcf:T3 P cx){t:Ty}(ha:t.isAgg=true){d:Nat}{T:TypeId}{fs:Array Field}{M:Mem}{w:World}{x y:t.den}{c1 c2:List Value}(hu:P.underlying T=some (.struct fs))(hfs:A0s P cx fs.toList t 0)(hst:P.stoodInHeld T=false)
    (hf:t.flat=true) (hd:t.depth≤d+1) (ih:∀ u:Ty,u.depth < t.depth→D0J P cx u) (h1:E8 M t x c1) (h2:E8 M t y c2) :
    (Op.equalIn (d+1) T (C8 t c1) (C8 t c2)).run P w=.ok (eqT t x y) w:=by
  unfold Op.equalIn
  simp only [Sem.run_bind,run_underlying hu,Result.andThen_ok,C8,ha,if_true,run_program,hst,Bool.false_eq_true,if_false,← Array.forIn_toList]
  rw [A6l (M:=M) hcf d t fs.toList 0 x y c1 c2 hfs hf hd ih (by simpa using h1) (by simpa using h2)]
  cases eqT t x y <;> simp
theorem A98(hcf:T3 P cx):∀ (n:Nat) (t:Ty),t.depth≤n→D0J P cx t
  | 0,t,hn=>by have:=E8.eq_depth_pos t; omega
  | N+1,t,hn=>by
    have ih:∀ u:Ty,u.depth < t.depth→D0J P cx u:=fun u hu=>A98 hcf N u (by omega)
    intro d T r M w x y c1 c2 hr ht hf hd h1 h2
    obtain ⟨d,rfl⟩:∃ e,d=e+1:=⟨d - 1,by have:=E8.eq_depth_pos t; omega⟩
    cases t with
    | int k =>
      have h1':c1=[.int k x]:=h1
      have h2':c2=[.int k y]:=h2
      subst h1'; subst h2'
      unfold Op.equalIn
      simp only [Sem.run_bind,run_underlying (C3O hcf hr ht),Result.andThen_ok,C8,Ty.isAgg,eqT]
      by_cases h:(x:Int)=y <;> simp [h]
    | bool =>
      have h1':c1=[.bool x]:=h1
      have h2':c2=[.bool y]:=h2
      subst h1'; subst h2'
      unfold Op.equalIn
      simp [run_underlying (C01 hcf hr ht),C8,Ty.isAgg,eqT]
    | str =>
      have h1':c1=[.string x]:=h1
      have h2':c2=[.string y]:=h2
      subst h1'; subst h2'
      unfold Op.equalIn
      simp only [Sem.run_bind,run_underlying (C3P hcf hr ht),Result.andThen_ok,C8,Ty.isAgg,eqT]
      simp
    | slice e=>simp [Ty.flat] at hf
    | nil=>simp [Ty.flat] at hf
    | val=>simp [Ty.flat] at hf
    | ifc=>simp [Ty.flat] at hf
    | ptr=>simp [Ty.flat] at hf
    | fnc=>simp [Ty.flat] at hf
    | unit =>
      obtain ⟨fs,hu,hfs,hst⟩:=A5g hcf hr ht
      exact A4A hcf rfl hu hfs hst hf hd ih h1 h2
    | pair a b =>
      obtain ⟨fs,hu,hfs,hst⟩:=A5f hcf hr ht
      exact A4A hcf rfl hu hfs hst hf hd ih h1 h2
    | arr n e =>
      obtain ⟨te,hu,re,hre,hee⟩:=A2P hcf hr ht
      subst hee
      unfold Op.equalIn
      simp only [Sem.run_bind,run_underlying hu,Result.andThen_ok,C8,Ty.isAgg,if_true,F6 hcf hre,Std.Legacy.Range.forIn_eq_forIn_range',Std.Legacy.Range.size]
      have:=A7r (P:=P) (M:=M) (w:=w) hcf d hre (ih _ (by simp [Ty.depth])) hf (by simp only [Ty.depth] at hd; omega) x y 0 n c1 c2 h1.1 h2.1 (by simpa using h1.2) (by simpa using h2.2)
      simp only [Nat.sub_zero,Nat.add_sub_cancel,Nat.div_one]
      rw [this]
      simp only [Result.andThen_ok,eqT]
      cases eqL (eqT re.ty) x y <;> simp
theorem B2m(hcf:T3 P cx){T:TypeId}{r:TyRow}(hr:cx.row? T=some r)(hf:r.ty.flat=true){M:Mem}{w:World}{x y:r.ty.den}{c1 c2:List Value}(h1:E8 M r.ty x c1)(h2:E8 M r.ty y c2) :
    (Op.equal T (C8 r.ty c1) (C8 r.ty c2)).run P w=.ok (eqT r.ty x y) w:=by
  unfold Op.equal
  exact A98 hcf _ r.ty (Nat.le_refl _) _ T r M w x y c1 c2 hr rfl hf (by have:=(hcf _ _ hr).depth; unfold Op.maxDepth; omega) h1 h2
theorem A7s(hcf:T3 P cx){T:TypeId}{r:TyRow}(hr:cx.row? T=some r)(hf:r.ty.flat=true){M:Mem}{w:World}{x y:r.ty.den}{c1 c2:List Value}(h1:E8 M r.ty x c1)(h2:E8 M r.ty y c2)(op:BinOp)(p q:Operand) :
    (eqGuard op T p q (C8 r.ty c1) (C8 r.ty c2)).run P w=.ok () w:=by
  have key:(C8 r.ty c1≠.nilIface∧∀ cs,C8 r.ty c1≠.agg cs)∨(r.ty.isAgg=true):=by
    cases ha:r.ty.isAgg with
    | true=>exact .inr rfl
    | false =>
      refine .inl ?_
      obtain ⟨v1,e1,m1⟩:=B4I.isAgg h1 ha
      rw [m1]
      generalize r.ty=t at *
      cases t <;> simp [Ty.isAgg] at ha
      all_goals first
        | (cases hf; done)
        | (have h1':c1=_:=h1; rw [h1'] at e1; cases e1; exact ⟨by simp,by simp⟩)
        | (have h2:c1=[_]:=h1.1; obtain ⟨ao,k,c,hx⟩:=h1.2; rw [h2] at e1; cases e1; rw [hx]; exact ⟨by simp,by simp⟩)
        | (obtain ⟨v,hv,ao,cap,rfl,_⟩:=h1; rw [hv] at e1; cases e1; exact ⟨by simp,by simp⟩)
  unfold eqGuard
  rcases key with hv | ha
  · generalize C8 r.ty c1=v1 at hv
    split <;> first
      | simp only [Bool.not_true,Bool.false_eq_true,if_false]
        cases v1 <;> first | rfl | exact absurd rfl hv.1 | exact absurd rfl (hv.2 _)
      | rfl
  · simp only [C8,ha,if_true]
    split <;> simp [(hcf _ _ hr).guard ha]
end
end Go.Eng
namespace Go.Eng
open Go.RowKit
section
variable {fr:Frm} {M:Mem} {ρ:Nat→Place} {s:St} {a:Act} {w:World}
def Place.upd(ρ:Nat→Place)(i:Nat)(p:Place):Nat→Place:=fun j=>if j=i then p else ρ j
theorem A1S(i:Nat)(o:MObj)(id:Nat):E7 [(i,o)] id=if id=i then some o else none:=by
  unfold E7
  simp only [List.map_cons,List.map_nil,look]
  cases h:Nat.beq i id with
  | true=>have:=(B2 _ _).1 h; subst this; simp
  | false =>
    have:id≠i:=fun e=>by rw [(B2 _ _).2 e.symm] at h; cases h
    simp [this]
theorem MV.repl_other{m:MV}{i:Nat}{y:MV}(h:m.id?≠some i):m.repl i y=m:=by
  cases m <;> simp only [MV.repl]
  case own id =>
    cases hb:Nat.beq id i with
    | true=>exact absurd (by simp [MV.id?,(B2 _ _).1 hb]) h
    | false=>rfl
  case pa id p =>
    cases hb:Nat.beq id i with
    | true=>exact absurd (by simp [MV.id?,(B2 _ _).1 hb]) h
    | false=>rfl
  case cut id a b =>
    cases hb:Nat.beq id i with
    | true=>exact absurd (by simp [MV.id?,(B2 _ _).1 hb]) h
    | false=>rfl
  case vw id a b =>
    cases hb:Nat.beq id i with
    | true=>exact absurd (by simp [MV.id?,(B2 _ _).1 hb]) h
    | false=>rfl
  case vp id a b =>
    cases hb:Nat.beq id i with
    | true=>exact absurd (by simp [MV.id?,(B2 _ _).1 hb]) h
    | false=>rfl
  case ps id l =>
    cases hb:Nat.beq id i with
    | true=>exact absurd (by simp [MV.id?,(B2 _ _).1 hb]) h
    | false=>rfl
  case pq id l =>
    cases hb:Nat.beq id i with
    | true=>exact absurd (by simp [MV.id?,(B2 _ _).1 hb]) h
    | false=>rfl
theorem MV.reps_one(m:MV)(i:Nat)(y:MV):m.reps [(i,y)]=m.repl i y:=rfl
theorem MV.reps_nil(m:MV):m.reps []=m:=rfl
theorem P9.carry{M M':Mem}{w w':World}{pl:Place}{o:MObj}(h:P9 M w pl o)(hM:M.le M')(hb:∀ b,pl.blk=some b→o≠.gone→w'.heap[b]?=w.heap[b]?):P9 M' w' pl o:=by
  cases o with
  | gone=>cases pl <;> trivial
  | sl e tid l =>
    cases pl with
    | no=>exact h
    | «at» b cap =>
      obtain ⟨h1,h2,cur,h3,h4,cs,h5,h6⟩:=h
      exact ⟨h1,h2,cur,by rw [hb b rfl (by simp)]; exact h3,h4,cs,h5.mono fun _ _ k=>k.mono hM,h6⟩
  | bx t x =>
    cases pl with
    | no=>exact h.elim
    | «at» b cap =>
      obtain ⟨cur,tid,h3,h4⟩:=h
      exact ⟨cur,tid,by rw [hb b rfl (by simp)]; exact h3,h4.mono hM⟩
theorem Good.obj1(g:Good fr M ρ s a w){dst:Option Nat}(hd:F9 fr.n dst=true){i:Nat}{o:MObj}{pl:Place}{M':Mem}{w':World}{rep:List (Nat×MV)}{v:Value}{sv:SV}
    (hM:M.le M') (hm:A2O M' w') (hs:Since (fun b=>(ρ i).blk=some b∧s.obj i≠.gone) w w')
    (hnew:∀ b,b < w.heap.size→(ρ i).blk≠some b∨s.obj i=.gone→M' b=M b)
    (ho:P9 M' w' pl o)
    (hpl:∀ b,o≠.gone→pl.blk=some b→M' b=none∧b < w'.heap.size∧(w.heap.size≤b∨((ρ i).blk=some b∧s.obj i≠.gone)))
    (henv:∀ m v,m.id?=some i→X2 M ρ s.obj v m→X2 M' (Place.upd ρ i pl) (fun id=>if id=i then o else s.obj id) v (m.reps rep))
    (hrep:∀ m:MV,m.id?≠some i→m.reps rep=m)
    (hv:A0c M' (Place.upd ρ i pl) (fun id=>if id=i then o else s.obj id) v sv) :
    Good fr M' (Place.upd ρ i pl) (({ rep:=rep,objs:=[(i,o)],val:=sv }:Eff).app dst s) (a.put dst v) w':=by
  have hobj:(fun id=>(E7 [(i,o)] id).getD (s.obj id))=fun id=>if id=i then o else s.obj id:=by
    funext id; rw [A1S]; split <;> rfl
  have hpt:∀ id,(E7 [(i,o)] id).getD (s.obj id)=if id=i then o else s.obj id:=fun id=>congrFun hobj id
  refine g.step hd hM hm (g.since.trans hs (fun _ h=>h) (fun b hb h=>?_)) (fun id=>?_) (fun id b hne hb=>?_) (fun m v h=>?_) ?_ ?_
  · have hx:=g.apart i b h.2 h.1
    rcases hx.2.2.1 with h1 | h1
    · exact absurd hb (by omega)
    · exact h1
  · show P9 M' w' (Place.upd ρ i pl id) ((E7 [(i,o)] id).getD (s.obj id))
    rw [hpt]
    unfold Place.upd
    split
    · exact ho
    · rename_i hne
      refine(g.objs id).carry hM fun b hb hg=>?_
      have hx:=g.apart id b hg hb
      exact hs.block b hx.2.1 fun h=>hx.2.2.2 i (fun e=>hne e.symm) h.2 h.1
  · have hne':((E7 [(i,o)] id).getD (s.obj id))≠.gone:=hne
    rw [hpt] at hne'
    have hb':(Place.upd ρ i pl id).blk=some b:=hb
    unfold Place.upd at hb'
    by_cases hid:id=i
    · subst hid
      rw [if_pos rfl] at hne' hb'
      obtain ⟨h1,h2,h3⟩:=hpl b hne' hb'
      refine ⟨h1,h2,?_,fun id' hn' hg' hb2=>?_⟩
      · rcases h3 with h3 | h3
        · exact .inl (Nat.le_trans g.since.size h3)
        · exact(g.apart id b h3.2 h3.1).2.2.1
      · have hg2:((E7 [(id,o)] id').getD (s.obj id'))≠.gone:=hg'
        rw [hpt,if_neg hn'] at hg2
        have hb3:(Place.upd ρ id pl id').blk=some b:=hb2
        unfold Place.upd at hb3
        rw [if_neg hn'] at hb3
        have hx:=g.apart id' b hg2 hb3
        rcases h3 with h3 | h3
        · exact absurd hx.2.1 (by omega)
        · exact hx.2.2.2 id (fun e=>hn' e.symm) h3.2 h3.1
    · rw [if_neg hid] at hne' hb'
      have hx:=g.apart id b hne' hb'
      have hnb:(ρ i).blk≠some b∨s.obj i=.gone:=by
        by_cases hgi:s.obj i=.gone
        · exact .inr hgi
        · exact .inl (hx.2.2.2 i (fun e=>hid e.symm) hgi)
      refine ⟨by rw [hnew b hx.2.1 hnb]; exact hx.1,Nat.lt_of_lt_of_le hx.2.1 hs.size,hx.2.2.1,fun id' hn' hg' hb2=>?_⟩
      have hg2:((E7 [(i,o)] id').getD (s.obj id'))≠.gone:=hg'
      rw [hpt] at hg2
      have hb3:(Place.upd ρ i pl id').blk=some b:=hb2
      unfold Place.upd at hb3
      by_cases hi':id'=i
      · subst hi'
        rw [if_pos rfl] at hg2 hb3
        rcases (hpl b hg2 hb3).2.2 with h3 | h3
        · exact absurd hx.2.1 (by omega)
        · exact hx.2.2.2 id' hn' h3.2 h3.1
      · rw [if_neg hi'] at hg2 hb3
        exact hx.2.2.2 id' hn' hg2 hb3
  · show X2 M' (Place.upd ρ i pl) (fun id=>(E7 [(i,o)] id).getD (s.obj id)) v (m.reps rep)
    rw [hobj]
    by_cases hid:m.id?=some i
    · exact henv m v hid h
    · rw [hrep m hid]
      refine h.mono hM fun id hi=>?_
      have hne:id≠i:=fun e=>hid (by rw [hi,e])
      exact ⟨by simp [Place.upd,hne],by simp [hne,A0r.refl]⟩
  · show A0c M' (Place.upd ρ i pl) (fun id=>(E7 [(i,o)] id).getD (s.obj id)) v sv
    rw [hobj]; exact hv
  · intro b h1 h2
    refine hnew b (Nat.lt_of_lt_of_le h1 g.since.size) ?_
    by_cases hgi:s.obj i=.gone
    · exact .inr hgi
    · left
      intro hb
      rcases (g.apart i b hgi hb).2.2.1 with h | h
      · omega
      · exact h2 h
theorem A2O.since{M:Mem}{w w':World}(h:A2O M w){bor:Nat→Prop}(hs:Since bor w w')(hb:∀ b o,M b=some o→¬ bor b):A2O M w':=by
  intro b o hm
  have hw:=h b o hm
  have hlt:b < w.heap.size:=(Array.getElem?_eq_some_iff.1 hw).1
  rw [hs.block b hlt (hb b o hm)]; exact hw
theorem Good.own_none(g:Good fr M ρ s a w){i b:Nat}(h:(ρ i).blk=some b∧s.obj i≠.gone):M b=none:=(g.apart i b h.2 h.1).1
theorem Good.newObj(g:Good fr M ρ s a w){t:Nat}(hd:F9 fr.n (some t)=true){o:MObj}{pl:Place}{w':World}{v:Value}{m:MV}(hs:Since (fun _=>False) w w')
    (ho:P9 M w' pl o) (hpl:∀ b,pl.blk=some b→w.heap.size≤b∧b < w'.heap.size)
    (hv:X2 M (Place.upd ρ t pl) (fun id=>if id=t then o else s.obj id) v m) :
    Good fr M (Place.upd ρ t pl) (({ rep:=[(t,.dead)],objs:=[(t,o)],val:=.one m }:Eff).app (some t) s) (a.put (some t) v) w':=by
  have hs':Since (fun b=>(ρ t).blk=some b∧s.obj t≠.gone) w w':=⟨hs.os,hs.tape,hs.output,hs.size,fun b hb _=>hs.block b hb fun h=>h⟩
  refine g.obj1 hd (.refl M) (g.mem.since hs fun _ _ _ h=>h) hs' (fun _ _ _=>rfl) ho (fun b _ hb=>?_) (fun m v hm h=>?_) (fun m hm=>MV.repl_other hm) hv
  · obtain ⟨h1,h2⟩:=hpl b hb
    refine ⟨?_,h2,.inl h1⟩
    cases hm:M b with
    | none=>rfl
    | some ob=>have:=(Array.getElem?_eq_some_iff.1 (g.mem b ob hm)).1; omega
  · rw [MV.reps_one]
    cases m <;> simp [MV.id?] at hm
    all_goals subst hm; simp [MV.repl,(B2 _ _).2 rfl,X2]
def Mem.add(M:Mem)(b:Nat)(o:Option Obj):Mem:=fun k=>if k=b then o else M k
def Pz(M:Mem)(ρ:Nat→Place)(s:St)(v:Value):Arg→Prop
  | (.one (.d t x),_)=>∃ cs,E8 M t x cs∧v=C8 t cs
  | (.one (.ne _),_)=>∃ a cap,v=.slice (some a) 0 cap
  | (.one (.fn f),_)=>v=.func (.func f) #[] #[]
  | (.one (.own i),.sl e tid l)=>(s.obj i=.sl e tid l∧v=(ρ i).slice l.length)∨(s.obj i=.gone∧∃ cs,E8 M (.slice e) l cs∧v=C8 (.slice e) cs)
  | _=>True
theorem ArgIs.pz{v:Value}{x:Arg}(h:ArgIs M ρ s v x):Pz M ρ s v x:=by
  obtain ⟨sv,ob⟩:=x
  cases sv with
  | tup ms=>exact trivial
  | one m =>
    cases m with
    | d t x=>exact h.rel
    | ne e=>exact h.rel
    | fn f=>exact h.rel
    | own i =>
      cases ob with
      | sl e tid l =>
        left
        obtain ⟨e2,tid2,l2,h1,h2⟩:=h.rel
        have h3:=h.obj i rfl
        have h4:MObj.sl e2 tid2 l2=.sl e tid l:=h1.symm.trans h3
        cases h4
        exact ⟨h3,h2⟩
      | gone=>exact trivial
      | bx _ _=>exact trivial
    | _=>exact trivial
theorem Place.upd_self(ρ:Nat→Place)(i:Nat):Place.upd ρ i (ρ i)=ρ:=by
  funext j; unfold Place.upd; split
  · rename_i h; rw [h]
  · rfl
theorem Mem.le_add{M:Mem}{b:Nat}{o:Option Obj}(h:M b=none):M.le (M.add b o):=by
  intro k ob hk
  unfold Mem.add
  split
  · rename_i e; rw [e,h] at hk; cases hk
  · exact hk
theorem I0(rep:List (Nat×MV))(i:Nat)(o:MObj)(sv:SV)(dst:Option Nat)(s:St)(id:Nat):(({ rep:=rep,objs:=[(i,o)],val:=sv }:Eff).app dst s).obj id=if id=i then o else s.obj id:=by
  rw [Eff.obj_app,A1S]; split <;> rfl
theorem Good.freeze1(g:Good fr M ρ s a w){v:Value}{x:Arg}(hz:Pz M ρ s v x)(sv:SV)(hsv:sv=.one .dead) :
    ∃ M',M.le M'∧Good fr M' ρ (({ rep:=frz x,objs:=A6V x,val:=sv }:Eff).app none s) a w∧(∀ t y,E5 x=some ⟨t,y⟩→∃ cs,E8 M' t y cs∧v=C8 t cs) ∧
      (∀ v' x',Pz M ρ s v' x'→Pz M' ρ (({ rep:=frz x,objs:=A6V x,val:=sv }:Eff).app none s) v' x'):=by
  subst hsv
  have plain:frz x=[]→A6V x=[]→(∀ t y,E5 x=some ⟨t,y⟩→∃ cs,E8 M t y cs∧v=C8 t cs)→∃ M',M.le M'∧Good fr M' ρ (({ rep:=frz x,objs:=A6V x,val:=.one .dead }:Eff).app none s) a w∧(∀ t y,E5 x=some ⟨t,y⟩→∃ cs,E8 M' t y cs∧v=C8 t cs) ∧
      (∀ v' x',Pz M ρ s v' x'→Pz M' ρ (({ rep:=frz x,objs:=A6V x,val:=.one .dead }:Eff).app none s) v' x'):=by
    intro h1 h2 h3
    rw [h1,h2]
    exact ⟨M,.refl M,g,h3,fun _ _ h=>h⟩
  obtain ⟨sv,ob⟩:=x
  cases sv with
  | tup ms=>exact plain rfl rfl (fun t y h=>by simp [E5] at h)
  | one m =>
    cases m with
    | d t0 x0=>exact plain rfl rfl (fun t y h=>by simp only [E5,Option.some.injEq] at h; cases h; exact hz)
    | dead=>exact plain rfl rfl (fun t y h=>by simp [E5] at h)
    | nilS=>exact plain rfl rfl (fun t y h=>by simp [E5] at h)
    | pa _ _=>exact plain rfl rfl (fun t y h=>by simp [E5] at h)
    | dp _ _=>exact plain rfl rfl (fun t y h=>by simp [E5] at h)
    | fn f=>exact plain rfl rfl (fun t y h=>by simp only [E5,Option.some.injEq] at h; cases h; exact ⟨[v],congrArg (fun u=>[u]) hz,by simp [C8,Ty.isAgg]⟩)
    | und=>exact plain rfl rfl (fun t y h=>by simp [E5] at h)
    | ne e =>
      refine plain rfl rfl (fun t y h=>?_)
      simp only [E5,Option.some.injEq] at h
      cases h
      obtain ⟨a0,cap,hv⟩:=hz
      exact ⟨[v],⟨v,rfl,some a0,cap,hv,Nat.zero_le _,(fun h=>by cases h),fun h=>absurd rfl h⟩,by simp [C8,Ty.isAgg]⟩
    | cut _ _ _=>exact plain rfl rfl (fun t y h=>by simp [E5] at h)
    | vw _ _ _=>exact plain rfl rfl (fun t y h=>by simp [E5] at h)
    | vp _ _ _=>exact plain rfl rfl (fun t y h=>by simp [E5] at h)
    | ps _ _=>exact plain rfl rfl (fun t y h=>by simp [E5] at h)
    | pq _ _=>exact plain rfl rfl (fun t y h=>by simp [E5] at h)
    | own i =>
      cases ob with
      | gone=>exact plain rfl rfl (fun t y h=>by simp [E5] at h)
      | bx _ _=>exact plain rfl rfl (fun t y h=>by simp [E5] at h)
      | sl e tid l =>
        have hput:a.put none undef=a:=rfl
        have hs0:Since (fun b=>(ρ i).blk=some b∧s.obj i≠.gone) w w:=.refl _ _
        rcases hz with ⟨ho,hv⟩ | ⟨ho,hf⟩
        · -- alive
          obtain ⟨M',hM,hm,hnew,hfl⟩:∃ M',M.le M'∧A2O M' w∧(∀ b,b < w.heap.size→(ρ i).blk≠some b∨s.obj i=.gone→M' b=M b)∧∃ cs,E8 M' (.slice e) l cs∧v=C8 (.slice e) cs:=by
            have hob:=g.objs i
            rw [ho] at hob
            cases hr:ρ i with
            | no =>
              rw [hr] at hob hv
              have hl:l=[]:=hob
              subst hl
              exact ⟨M,.refl M,g.mem,fun _ _ _=>rfl,[v],⟨v,rfl,none,0,hv,Nat.le_refl _,fun _=>rfl,fun h=>absurd rfl h⟩,by simp [C8,Ty.isAgg]⟩
            | «at» b cap =>
              rw [hr] at hob hv
              obtain ⟨h1,h2,cur,h3,h4,cs,h5,h6⟩:=hob
              have hMb:M b=none:=g.own_none ⟨by rw [hr]; rfl,by rw [ho]; simp⟩
              have hle:=Mem.le_add (o:=w.heap[b]?) hMb
              refine ⟨M.add b w.heap[b]?,hle,?_,?_,[v],⟨v,rfl,some ⟨b,0,none⟩,cap,hv,h1,(fun h=>(by cases h)),(fun _=>⟨b,0,cur,tid,(0,0),rfl,?_,cs,h5.mono (fun _ _ k=>k.mono hle),by simpa using h6⟩)⟩,by simp [C8,Ty.isAgg]⟩
              · intro k ob hk
                unfold Mem.add at hk
                split at hk
                · rename_i e; rw [e]; exact hk
                · exact g.mem k ob hk
              · intro k _ hk
                unfold Mem.add
                rw [if_neg]
                intro e
                rcases hk with hk | hk
                · exact hk (by rw [e]; rfl)
                · rw [ho] at hk; cases hk
              · unfold Mem.add; rw [if_pos rfl]; exact h3
          have G:=g.obj1 (dst:=none) rfl (i:=i) (o:=.gone) (pl:=ρ i) (M':=M') (w':=w) (rep:=[(i,.d (.slice e) l)]) (v:=undef) (sv:=.one .dead) hM hm hs0 hnew
            (by cases ρ i <;> trivial) (fun b h _=>absurd rfl h)
            (fun m v' hmi hm'=>by
              rw [Place.upd_self,MV.reps_one]
              cases m <;> simp [MV.id?] at hmi
              · subst hmi
                simp only [MV.repl,(B2 _ _).2 rfl,cond_true]
                obtain ⟨e2,t2,l2,h1,h2⟩:=hm'
                rw [ho] at h1; cases h1
                obtain ⟨cs,hc1,hc2⟩:=hfl
                exact ⟨cs,hc1,by rw [h2,← hv,hc2]⟩
              all_goals
                subst hmi
                simp [MV.repl,X2])
            (fun m hm'=>MV.repl_other hm') trivial
          rw [Place.upd_self] at G
          refine ⟨M',hM,G,fun t y h=>?_,fun v' x' hz'=>?_⟩
          · simp only [E5,Option.some.injEq] at h; cases h; exact hfl
          · obtain ⟨sv',ob'⟩:=x'
            cases sv' with
            | tup _=>exact trivial
            | one m' =>
              cases m' with
              | d t0 x0=>obtain ⟨cs,h1,h2⟩:=hz'; exact ⟨cs,h1.mono hM,h2⟩
              | own j =>
                cases ob' with
                | sl e' tid' l' =>
                  show((({ rep:=_,objs:=_,val:=_ }:Eff).app none s).obj j=.sl e' tid' l'∧_)∨((({ rep:=_,objs:=_,val:=_ }:Eff).app none s).obj j=.gone∧_)
                  simp only [frz,A6V,I0]
                  rcases hz' with ⟨h1,h2⟩ | ⟨h1,cs,h2,h3⟩
                  · by_cases hj:j=i
                    · subst hj
                      rw [ho] at h1; cases h1
                      obtain ⟨cs,hc1,hc2⟩:=hfl
                      exact .inr ⟨by simp,cs,hc1,by rw [h2,← hv,hc2]⟩
                    · exact .inl ⟨by simp [hj,h1],h2⟩
                  · refine .inr ⟨?_,cs,h2.mono hM,h3⟩
                    split
                    · rfl
                    · exact h1
                | gone=>exact trivial
                | bx _ _=>exact trivial
              | ne _=>exact hz'
              | fn _=>exact hz'
              | _=>exact trivial
        · -- frozen before
          have G:=g.obj1 (dst:=none) rfl (i:=i) (o:=.gone) (pl:=ρ i) (M':=M) (w':=w) (rep:=[(i,.d (.slice e) l)]) (v:=undef) (sv:=.one .dead) (.refl M) g.mem hs0 (fun _ _ _=>rfl)
            (by cases ρ i <;> trivial) (fun b h _=>absurd rfl h)
            (fun m v' hmi hm'=>by
              exfalso
              cases m <;> simp [MV.id?] at hmi
              · subst hmi
                obtain ⟨e2,t2,l2,h1,h2⟩:=hm'
                rw [ho] at h1; cases h1
              · subst hmi
                obtain ⟨b,t',_,hk,_⟩:=hm'
                rw [ho] at hk; exact hk.elim
              · subst hmi
                obtain ⟨e2,t2,l2,h1,_⟩:=hm'
                rw [ho] at h1; cases h1
              · subst hmi
                obtain ⟨_,_,_,_,h1,_⟩:=hm'
                rw [ho] at h1; cases h1
              · subst hmi
                obtain ⟨_,_,_,_,h1,_⟩:=hm'
                rw [ho] at h1; cases h1
              · subst hmi
                obtain ⟨_,_,_,_,_,_,_,h1,h2⟩:=hm'
                obtain ⟨_,_,_,_,_,hk,_⟩:=h2 0 _ (List.getElem?_eq_getElem h1)
                rw [ho] at hk; exact hk.elim
              · subst hmi
                obtain ⟨_,_,_,_,_,_,_,_,_,_,_,_,hk,_⟩:=hm'
                rw [ho] at hk; exact hk.elim)
            (fun m hm'=>MV.repl_other hm') trivial
          rw [Place.upd_self] at G
          refine ⟨M,.refl M,G,fun t y h=>?_,fun v' x' hz'=>?_⟩
          · simp only [E5,Option.some.injEq] at h; cases h; exact hf
          · obtain ⟨sv',ob'⟩:=x'
            cases sv' with
            | tup _=>exact trivial
            | one m' =>
              cases m' with
              | d t0 x0=>exact hz'
              | own j =>
                cases ob' with
                | sl e' tid' l' =>
                  show((({ rep:=_,objs:=_,val:=_ }:Eff).app none s).obj j=.sl e' tid' l'∧_)∨((({ rep:=_,objs:=_,val:=_ }:Eff).app none s).obj j=.gone∧_)
                  simp only [frz,A6V,I0]
                  rcases hz' with ⟨h1,h2⟩ | ⟨h1,h2⟩
                  · have hj:j≠i:=fun e=>by rw [e,ho] at h1; cases h1
                    exact .inl ⟨by simp [hj,h1],h2⟩
                  · refine .inr ⟨?_,h2⟩
                    split
                    · rfl
                    · exact h1
                | gone=>exact trivial
                | bx _ _=>exact trivial
              | ne _=>exact hz'
              | fn _=>exact hz'
              | _=>exact trivial
theorem B60:∀ (r:List (Nat×MV)) (e:List (Nat×SV)) (h1 h2:List (Nat×MObj)),(r.foldl (fun s x=>St.repl s x.1 x.2) ({ env:=e,heap:=h1 }:St)).env=(r.foldl (fun s x=>St.repl s x.1 x.2) ({ env:=e,heap:=h2 }:St)).env
  | [],_,_,_=>rfl
  | x::r,e,h1,h2=>by simp only [List.foldl_cons,St.repl]; exact B60 r _ _ _
theorem B2n:∀ (r:List (Nat×MV)) (s:St),(r.foldl (fun s x=>St.repl s x.1 x.2) s).heap=s.heap
  | [],_=>rfl
  | x::r,s=>by simp only [List.foldl_cons]; rw [B2n r]; rfl
theorem St.ext'{s t:St}(h1:s.env=t.env)(h2:s.heap=t.heap):s=t:=by cases s; cases t; simp_all
theorem Eff.app_none(r:List (Nat×MV))(o:List (Nat×MObj))(v:SV)(s:St) :
    (({ rep:=r,objs:=o,val:=v }:Eff).app none s)={ env:=(r.foldl (fun s x=>St.repl s x.1 x.2) s).env,heap:=o++s.heap }:=by
  show({ (r.foldl (fun s x=>St.repl s x.1 x.2) s) with heap:=o++(r.foldl (fun s x=>St.repl s x.1 x.2) s).heap }:St)=_
  rw [B2n]
theorem Eff.app_app(r1 r2:List (Nat×MV))(o1 o2:List (Nat×MObj))(v1 v2:SV)(dst:Option Nat)(s:St) :
    (({ rep:=r2,objs:=o2,val:=v2 }:Eff).app dst (({ rep:=r1,objs:=o1,val:=v1 }:Eff).app none s))=(({ rep:=r1++r2,objs:=o2++o1,val:=v2 }:Eff).app dst s):=by
  have hn:(({ rep:=r2,objs:=o2,val:=v2 }:Eff).app none (({ rep:=r1,objs:=o1,val:=v1 }:Eff).app none s))=(({ rep:=r1++r2,objs:=o2++o1,val:=v2 }:Eff).app none s):=by
    rw [Eff.app_none,Eff.app_none,Eff.app_none]
    refine St.ext' ?_ ?_
    · rw [List.foldl_append]
      exact B60 r2 _ _ _
    · simp
  cases dst with
  | none=>exact hn
  | some t=>exact congrArg (fun s:St=>s.put t v2) hn
theorem Good.freezeAll(g:Good fr M ρ s a w):∀ (xs:List Arg) (vs:List Value),All2 (Pz M ρ s) vs xs →
    ∃ M',M.le M'∧Good fr M' ρ (({ rep:=A1c xs,objs:=N2 xs,val:=.one .dead }:Eff).app none s) a w∧All2 (fun v x=>∀ t y,E5 x=some ⟨t,y⟩→∃ cs,E8 M' t y cs∧v=C8 t cs) vs xs ∧
      (∀ v' x',Pz M ρ s v' x'→Pz M' ρ (({ rep:=A1c xs,objs:=N2 xs,val:=.one .dead }:Eff).app none s) v' x'):=by
  intro xs
  induction xs generalizing M s with
  | nil=>intro vs h; cases h; exact ⟨M,.refl M,g,.nil,fun _ _ h=>h⟩
  | cons x xs ih =>
    intro vs h
    cases h with
    | cons h1 h2 =>
      obtain ⟨M1,hM1,g1,hd1,hp1⟩:=g.freeze1 h1 (.one .dead) rfl
      rename_i vs
      have h2':All2 (Pz M1 ρ (({ rep:=frz x,objs:=A6V x,val:=.one .dead }:Eff).app none s)) vs xs:=by
        have:∀ {vs:List Value} {xs:List Arg},All2 (Pz M ρ s) vs xs→All2 (Pz M1 ρ (({ rep:=frz x,objs:=A6V x,val:=.one .dead }:Eff).app none s)) vs xs:=by
          intro vs xs h
          induction h with
          | nil=>exact .nil
          | cons r _ ih=>exact .cons (hp1 _ _ r) ih
        exact this h2
      obtain ⟨M2,hM2,g2,hd2,hp2⟩:=ih g1 _ h2'
      rw [Eff.app_app] at g2
      refine ⟨M2,hM1.trans hM2,g2,.cons (fun t y hy=>?_) hd2,fun v' x' hz=>?_⟩
      · obtain ⟨cs,h3,h4⟩:=hd1 t y hy; exact ⟨cs,h3.mono hM2,h4⟩
      · have:=hp2 v' x' (hp1 v' x' hz); rw [Eff.app_app] at this; exact this
end
end Go.Eng
namespace Go.Eng
open Go.RowKit
theorem E8.oneCell{M:Mem}:∀ {t:Ty} {x:t.den} {cs:List Value},E8 M t x cs→∀ u∈cs,u.oneCell'=true
  | .int _,_,_,h,u,hu=>by cases h; simp at hu; subst hu; rfl
  | .bool,_,_,h,u,hu=>by cases h; simp at hu; subst hu; rfl
  | .str,_,_,h,u,hu=>by cases h; simp at hu; subst hu; rfl
  | .unit,_,_,h,u,hu=>by cases h; simp at hu
  | .nil,_,_,h,u,hu=>by cases h; simp at hu; subst hu; rfl
  | .ifc,o,_,h,u,hu=>by cases h; simp at hu; subst hu; cases o <;> rfl
  | .ptr,_,_,h,u,hu=>by cases h; simp at hu; subst hu; rfl
  | .fnc,x,_,h,u,hu=>by
    cases x with
    | nil=>cases h; simp at hu; subst hu; rfl
    | fn f=>cases h; simp at hu; subst hu; rfl
    | itr f l=>obtain ⟨_,_,_,_,_,h,_⟩:=h; subst h; simp at hu; subst hu; rfl
  | .val,_,_,h,u,hu=>by obtain ⟨h,ao,n,c,hv⟩:=h; cases h; simp at hu; subst hu; subst hv; rfl
  | .pair _ _,_,_,⟨c1,c2,e,p,q⟩,u,hu=>by
    subst e; rcases List.mem_append.1 hu with h | h
    · exact p.oneCell u h
    · exact q.oneCell u h
  | .arr n t,l,cs,⟨_,h⟩,u,hu=>by
    have:∀ (l:List t.den) (cs:List Value),E3 (E8 M t) l cs→∀ u∈cs,u.oneCell'=true:=by
      intro l
      induction l with
      | nil=>intro cs h u hu; cases h; simp at hu
      | cons x l ih =>
        intro cs ⟨c1,c2,e,p,q⟩ u hu
        subst e; rcases List.mem_append.1 hu with h | h
        · exact E8.oneCell (t:=t) p u h
        · exact ih _ q u h
    exact this l cs h u hu
  | .slice _,_,_,⟨v,e,ao,cap,hv,_⟩,u,hu=>by cases e; simp at hu; subst hu; subst hv; rfl
theorem E3.oneCell{M:Mem}{t:Ty}:∀ {l:List t.den} {cs:List Value},E3 (E8 M t) l cs→∀ u∈cs,u.oneCell'=true
  | [],_,h,u,hu=>by cases h; simp at hu
  | _::_,_,⟨c1,c2,e,p,q⟩,u,hu=>by
    subst e; rcases List.mem_append.1 hu with h | h
    · exact p.oneCell u h
    · exact q.oneCell u h
theorem G8(b off n:Nat):(⟨b,off,none⟩:Addr).add n=⟨b,off+n,none⟩:=by
  unfold Addr.add; split
  · rename_i h; rw [h]; rfl
  · rfl
section
variable {P:Program} {cx:Cx} {fr:Frm} {M:Mem} {ρ:Nat→Place} {s:St} {a:Act} {w:World}
theorem A2Q(hcf:T3 P cx){T:TypeId}{r:TyRow}(hr:cx.row? T=some r){b off:Nat}{cur:Array Value}{e:TypeId}{fz:Nat×Nat}(hb:w.heap[b]?=some (.cells cur e fz))
    {x:r.ty.den} {cs:List Value} (hf:E8 M r.ty x cs) (hc:(cur.toList.drop off).take cs.length=cs):(Instr.loadAt T (.pointer (some ⟨b,off,none⟩))).run P w=.ok (C8 r.ty cs) w:=by
  have hcell:∀ j v,cs[j]?=some v→w.cell? ((⟨b,off,none⟩:Addr).add j)=some v:=by
    intro j v hj
    rw [G8,cell_of_row w b _ cur e fz hb]
    have hlt:j < cs.length:=(List.getElem?_eq_some_iff.1 hj).1
    rw [← hc,List.getElem?_take] at hj
    rw [if_pos hlt,List.getElem?_drop] at hj
    simpa using hj
  have hz:=hf.length
  unfold Instr.loadAt
  simp only [Instr.sureAddr,Sem.run_bind,Sem.run_pure,Result.andThen_ok,loadVar,A7q hcf hr]
  cases ha:r.ty.isAgg with
  | true =>
    simp only [if_true,Sem.run_bind,F6 hcf hr,Result.andThen_ok,← hz,run_loadCells_list w _ cs hcell,Sem.run_pure,C8,ha]
  | false =>
    obtain ⟨v,hv,hm⟩:=B4I.isAgg hf ha
    have h0:=hcell 0 v (by rw [hv]; rfl)
    rw [G8] at h0
    simp only [Nat.add_zero] at h0
    simp only [Bool.false_eq_true,if_false,run_load,h0,hm]
theorem A2S{t:Ty}{x:t.den}{cs:List Value}(hf:E8 M t x cs):(C8 t cs).cells.toList=cs:=by
  cases ha:t.isAgg with
  | true=>simp [C8,ha,Value.cells]
  | false =>
    obtain ⟨v,hv,hm⟩:=B4I.isAgg hf ha
    rw [hm,hv]
    have:v.oneCell'=true:=hf.oneCell v (by rw [hv]; simp)
    cases v <;> simp [Value.oneCell'] at this <;> rfl
theorem B2o(hcf:T3 P cx){T:TypeId}{r:TyRow}(hr:cx.row? T=some r){b off:Nat}{cur:Array Value}{e:TypeId}(hb:w.heap[b]?=some (.cells cur e (0,0)))
    {x:r.ty.den} {cs:List Value} (hf:E8 M r.ty x cs) (hfit:off+cs.length≤cur.size):(Instr.storeAt T (.pointer (some ⟨b,off,none⟩)) (C8 r.ty cs)).run P w=.ok () (w.setRow b (over cur.toList off cs).toArray):=by
  have hst:=run_storeCells_at P b off e cs 0 cur w hb (by simpa using hfit) hf.oneCell
  have hcl:=A2S hf
  have hsz:(C8 r.ty cs).cells.size=r.ty.sz:=by rw [← Array.length_toList,hcl,hf.length]
  unfold Instr.storeAt
  simp only [Instr.sureAddr,Sem.run_bind,Sem.run_pure,Result.andThen_ok,storeVar,F6 hcf hr,hsz,ne_eq,not_true,if_false,hcl]
  simpa [over] using hst
theorem T4{b:Nat}{cs:Array Value}(w:World):Since (fun k=>k=b) w (w.setRow b cs) :=
  ⟨rfl,rfl,rfl,by simp,fun k _ hk=>setRow_other w b k cs hk⟩
theorem N3(w:World)(o:Obj):Since (fun _=>False) w (w.alloc o):=⟨rfl,rfl,rfl,by simp,fun k hk _=>Below.heap_alloc w o k hk⟩
theorem Good.ptr(g:Good fr M ρ s a w){v:Value}{i:Nat}{p:List Step}{o:MObj}(h:ArgIs M ρ s v (.one (.pa i p),o)) :
    ∃ b cap t' cur e,ρ i=.at b cap∧okO o p∧o.tyP p=some t'∧v=.pointer (some ⟨b,A4y o p,none⟩)∧s.obj i=o∧w.heap[b]?=some (.cells cur e (0,0))∧P9 M w (.at b cap) o:=by
  obtain ⟨b,t',hb,hk,ht,hv⟩:=h.rel
  have ho:=h.obj i rfl
  have hob:=g.objs i
  rw [ho] at hob hk ht hv
  cases hr:ρ i with
  | no=>rw [hr] at hb; cases hb
  | «at» b' cap =>
    rw [hr] at hb hob
    cases hb
    cases o with
    | gone=>exact hk.elim
    | sl e tid l=>obtain ⟨h1,h2,cur,h3,h4⟩:=hob; exact ⟨b,cap,t',cur,tid,rfl,hk,ht,hv,ho,h3,⟨h1,h2,cur,h3,h4⟩⟩
    | bx t x=>obtain ⟨cur,tid,h3,h4⟩:=hob; exact ⟨b,cap,t',cur,tid,rfl,hk,ht,hv,ho,h3,⟨cur,tid,h3,h4⟩⟩
theorem P9.get{b cap:Nat}{o:MObj}{p:List Step}{t:Ty}{x:t.den}(h:P9 M w (.at b cap) o)(hk:okO o p)(hg:o.getP p=some ⟨t,x⟩) :
    ∃ cur e cs,w.heap[b]?=some (.cells cur e (0,0))∧E8 M t x cs∧(cur.toList.drop (A4y o p)).take cs.length=cs:=by
  cases o with
  | gone=>exact hk.elim
  | bx u y =>
    obtain ⟨cur,tid,h3,h4⟩:=h
    have hf:=E8.get h4 hk hg
    refine ⟨cur,tid,_,h3,hf,?_⟩
    rw [hf.length]; rfl
  | sl e tid l =>
    obtain ⟨h1,h2,cur,h3,h4,cs,h5,h6⟩:=h
    cases p with
    | nil=>exact hk.elim
    | cons st q =>
      cases st with
      | fld f=>exact hk.elim
      | idx j =>
        obtain ⟨hj,hk2⟩:=hk
        have hn:∀ x cs,E8 M e x cs→cs.length=e.sz:=fun x cs k=>k.length
        obtain ⟨c,hc,e1⟩:=E3.at hn h5 j hj
        have hg':getP e q l[j]=some ⟨t,x⟩:=by rw [← A0i (Eng.dflt e) hj]; exact hg
        have hf:=E8.get hc hk2 hg'
        have hle:=A1s hk2 (A2N hg')
        refine ⟨cur,tid,_,h3,hf,?_⟩
        rw [hf.length,← e1,← h6]
        have hlen:=E3.length hn h5
        have hb2:j*e.sz+e.sz≤cs.length:=by rw [hlen]; have:=Nat.mul_le_mul_right e.sz hj; rw [Nat.succ_mul] at this; exact this
        show((cur.toList.drop (j*e.sz+A1A e q)).take t.sz)=_
        simp only [List.drop_take,List.take_take,List.drop_drop]
        congr 1
        omega
theorem P9.set{b cap:Nat}{o z:MObj}{p:List Step}{t:Ty}{x:t.den}{c:List Value}(h:P9 M w (.at b cap) o)(hk:okO o p)(hs:o.setP p t x=some z)(hf:E8 M t x c) :
    ∃ cur e,w.heap[b]?=some (.cells cur e (0,0))∧A4y o p+c.length≤cur.size∧P9 M (w.setRow b (over cur.toList (A4y o p) c).toArray) (.at b cap) z∧A0r o z∧z≠.gone:=by
  cases o with
  | gone=>exact hk.elim
  | bx u y =>
    obtain ⟨cur,tid,h3,h4⟩:=h
    simp only [MObj.setP,Option.map_eq_some_iff] at hs
    obtain ⟨y',hy,rfl⟩:=hs
    obtain ⟨hp1,hp2⟩:=E8.put h4 hk hy hf
    have hle:=A1s hk hp2
    refine ⟨cur,tid,h3,?_,⟨_,tid,setRow_heap w b cur _ tid _ h3,hp1⟩,rfl,by simp⟩
    have:=h4.length
    simp at this
    rw [this,hf.length]; exact hle
  | sl e tid l =>
    obtain ⟨h1,h2,cur,h3,h4,cs,h5,h6⟩:=h
    cases p with
    | nil=>exact hk.elim
    | cons st q =>
      cases st with
      | fld f=>exact hk.elim
      | idx j =>
        obtain ⟨hj,hk2⟩:=hk
        simp only [MObj.setP,Option.map_eq_some_iff] at hs
        obtain ⟨y',hy,rfl⟩:=hs
        have hn:∀ x cs,E8 M e x cs→cs.length=e.sz:=fun x cs k=>k.length
        obtain ⟨c0,hc,e1⟩:=E3.at hn h5 j hj
        rw [A0i (Eng.dflt e) hj] at hy
        obtain ⟨hp1,hp2⟩:=E8.put hc hk2 hy hf
        have hle:=A1s hk2 hp2
        have hset:=E3.set hn h5 j hj hp1
        have hlen:=E3.length hn h5
        have hb2:j*e.sz+e.sz≤cs.length:=by rw [hlen]; have:=Nat.mul_le_mul_right e.sz hj; rw [Nat.succ_mul] at this; exact this
        have hcs:cs.length≤cur.size:=by
          have:=congrArg List.length h6
          simp at this; omega
        have hfl:=hf.length
        have e2:over cs (j*e.sz+A1A e q) c=cs.take (j*e.sz)++over c0 (A1A e q) c++cs.drop (j*e.sz+e.sz):=by
          rw [B2k cs (j*e.sz) (A1A e q) e.sz c (by rw [hfl]; exact hle) hb2,e1]
        have hlen2:(over cs (j*e.sz+A1A e q) c).length=cs.length:=A7o (by omega)
        refine ⟨cur,tid,h3,?_,⟨by simpa using h1,h2,_,setRow_heap w b cur _ tid _ h3,?_,_,by rw [← e2] at hset; exact hset,?_⟩,⟨rfl,rfl,by simp⟩,by simp⟩
        · show j*e.sz+A1A e q+c.length≤cur.size
          omega
        · show(over cur.toList (j*e.sz+A1A e q) c).toArray.size=_
          simp only [List.size_toArray]
          rw [A7o (by simp; omega)]; simpa using h4
        · rw [hlen2]
          show(over cur.toList (j*e.sz+A1A e q) c).take cs.length=over cs (j*e.sz+A1A e q) c
          have e3:cur.toList=cs++cur.toList.drop cs.length:=by conv=>lhs; rw [← List.take_append_drop cs.length cur.toList,h6]
          rw [e3,B9Y _ _ _ _ (by omega)]
          rw [← hlen2]; simp
section
variable {arg:Operand→Arg} {o:Oper}
theorem A4a{t:Ty}{x:t.den}{cs:List Value}(obj:Nat→MObj)(h:E8 M t x cs):A0c M ρ obj (C8 t cs) (.one (.d t x)):=⟨cs,h,rfl⟩
theorem Good.vp_at(g:Good fr M ρ s a w){v:Value}{i p n m:Nat}{e:Ty}{l:(Ty.arr m e).den}(ax:ArgIs M ρ s v (.one (.vp i p n),.bx (.arr m e) l))(hle:p+n≤m) :
    ∃ b cur tid cs,v=.pointer (some ⟨b,p*e.sz,none⟩)∧w.heap[b]?=some (.cells cur tid (0,0))∧E8 M (.arr n e) ((List.drop p l).take n) cs∧(cur.toList.drop (p*e.sz)).take cs.length=cs:=by
  obtain ⟨m2,e2,l2,b,h1,hρ,h2,hv⟩:=ax.rel
  have hobj:=ax.obj i rfl
  rw [h1] at hobj
  cases hobj
  have hob:=g.objs i
  rw [h1] at hob
  cases hr2:ρ i with
  | no=>rw [hr2] at hob; exact hob.elim
  | «at» b2 cap =>
    rw [hr2] at hob hρ
    cases hρ
    obtain ⟨cur,tid,hb2,hlen,hf⟩:=hob
    have hnn:∀ x cs,E8 M e x cs→cs.length=e.sz:=fun x cs k=>k.length
    have hf2:E3 (E8 M e) ((List.drop p l).take n) ((cur.toList.drop (p*e.sz)).take (n*e.sz)) :=
      (hf.drop hnn p (by omega)).take hnn n (by simp; omega)
    refine ⟨b,cur,tid,(cur.toList.drop (p*e.sz)).take (n*e.sz),hv,hb2,⟨by simp; omega,hf2⟩,?_⟩
    rw [List.length_take]
    conv=>rhs; rw [← List.take_length (l:=(cur.toList.drop (p*e.sz)).take (n*e.sz))]
    rw [List.length_take,List.take_take,Nat.min_eq_left (Nat.min_le_left _ _)]
theorem B2p(hcf:T3 P cx){T:TypeId}{r:TyRow}(hr:cx.row? T=some r)(ha:r.ty.isAgg=false){b off:Nat}{cur:Array Value}{e:TypeId}{fz:Nat×Nat}(hb:w.heap[b]?=some (.cells cur e fz)){u:Value}(hu:cur[off]?=some u) :
    (Instr.loadAt T (.pointer (some ⟨b,off,none⟩))).run P w=.ok u w:=by
  have h0:w.cell? (⟨b,off,none⟩:Addr)=some u:=by
    have:=cell_of_row w b off cur e fz hb
    rw [this]; exact hu
  unfold Instr.loadAt
  simp only [Instr.sureAddr,Sem.run_bind,Sem.run_pure,Result.andThen_ok,loadVar,A7q hcf hr,ha,Bool.false_eq_true,if_false,run_load,h0]
theorem B8s{R:Type}{KE:Eff→Option R}{res:R}(hcf:T3 P cx){T:TypeId}{r:TyRow}{x:Operand}(hd:F9 fr.n o.dst=true)(ho:o.op=.load T x)(hr:cx.row? T=some r)
    (h:B9L KE r.ty (arg x)=some res):∃ e,KE e=some res∧N1 P fr arg o e:=by
  unfold B9L at h
  split at h
  · rename_i i p ob hx
    cases hdec:decide (r.ty=.ptr) <;> rw [hdec] at h <;> simp only [cond_true,cond_false,reduceCtorEq] at h
    have ht:r.ty=.ptr:=of_decide_eq_true hdec
    refine ⟨_,h,N1.of_value hd (fun M ρ s a w g ha=>?_) rfl rfl⟩
    obtain ⟨b,off,cur,e,fz,u,hv,hM,hu,hp⟩:=(g.arg' ((ha x (by rw [ho]; simp [Op.operands])).trans hx)).rel
    exact ⟨u,by simp [execOp,ho,hv,B2p hcf hr (by rw [ht]; rfl) (g.mem _ _ hM) hu],hp⟩
  · rename_i i p ob hx
    split at h
    · rename_i t' y hg
      cases hdec:decide (t'=r.ty) <;> rw [hdec] at h <;> simp at h
      have ht:t'=r.ty:=of_decide_eq_true hdec
      refine ⟨_,h,N1.of_value hd (fun M ρ s a w g ha=>?_) rfl rfl⟩
      obtain ⟨b,cap,t2,cur,e,hρ,hk,hty,hv,hob,hb,hat⟩:=g.ptr (g.arg' ((ha x (by rw [ho]; simp [Op.operands])).trans hx))
      obtain ⟨cur2,e2,cs,hb2,hf,hc⟩:=hat.get hk hg
      subst ht
      refine ⟨C8 _ cs,?_,A4a s.obj hf⟩
      simp [execOp,ho,hv,A2Q hcf hr hb2 hf hc]
    · cases h
  · rename_i t' y ob hx
    cases hdec:decide (t'=r.ty) <;> rw [hdec] at h <;> simp at h
    have ht:t'=r.ty:=of_decide_eq_true hdec
    refine ⟨_,h,N1.of_value hd (fun M ρ s a w g ha=>?_) rfl rfl⟩
    obtain ⟨b,off,cur,e,fz,cs,hv,hM,hf,hc⟩:=(g.arg' ((ha x (by rw [ho]; simp [Op.operands])).trans hx)).rel
    subst ht
    refine ⟨C8 _ cs,?_,A4a s.obj hf⟩
    simp [execOp,ho,hv,A2Q hcf hr (g.mem _ _ hM) hf hc]
  · rename_i i p n m e l hx
    cases hdec:(decide (Ty.arr n e=r.ty) && Nat.ble (p+n) m) <;> rw [hdec] at h <;> simp only [cond_true,cond_false,reduceCtorEq] at h
    simp only [Bool.and_eq_true,Nat.ble_eq] at hdec
    obtain ⟨hdec,hle⟩:=hdec
    have ht:Ty.arr n e=r.ty:=of_decide_eq_true hdec
    refine ⟨_,h,N1.of_value hd (fun M ρ s a w g ha=>?_) rfl rfl⟩
    have ax:=g.arg' ((ha x (by rw [ho]; simp [Op.operands])).trans hx)
    obtain ⟨m2,e2,l2,b,h1,hρ,h2,hv⟩:=ax.rel
    have hobj:=ax.obj i rfl
    rw [h1] at hobj
    cases hobj
    have hob:=g.objs i
    rw [h1] at hob
    cases hr2:ρ i with
    | no=>rw [hr2] at hob; exact hob.elim
    | «at» b2 cap =>
      rw [hr2] at hob hρ
      cases hρ
      obtain ⟨cur,tid,hb2,hlen,hf⟩:=hob
      have hnn:∀ x cs,E8 M e x cs→cs.length=e.sz:=fun x cs k=>k.length
      have hf2:E3 (E8 M e) ((List.drop p l).take n) ((cur.toList.drop (p*e.sz)).take (n*e.sz)) :=
        (hf.drop hnn p (by omega)).take hnn n (by simp; omega)
      have hf3:E8 M (.arr n e) ((List.drop p l).take n) ((cur.toList.drop (p*e.sz)).take (n*e.sz)):=⟨by simp; omega,hf2⟩
      refine ⟨C8 _ ((cur.toList.drop (p*e.sz)).take (n*e.sz)),?_,A4a s.obj hf3⟩
      have hc:(cur.toList.drop (p*e.sz)).take ((cur.toList.drop (p*e.sz)).take (n*e.sz)).length=(cur.toList.drop (p*e.sz)).take (n*e.sz):=by
        rw [List.length_take]
        conv=>rhs; rw [← List.take_length (l:=(cur.toList.drop (p*e.sz)).take (n*e.sz))]
        rw [List.length_take,List.take_take,Nat.min_eq_left (Nat.min_le_left _ _)]
      have:=A2Q (P:=P) (M:=M) hcf hr hb2 (x:=ht ▸ ((List.drop p l).take n)) (by
        revert hf3
        generalize ((List.drop p l).take n:List e.den)=y
        intro hf3
        obtain ⟨rt,re,rb⟩:=r
        simp only at ht
        subst ht
        exact hf3) hc
      simp [execOp,ho,hv,this,ht]
  · cases h
theorem Pz.data{v:Value}{x:Arg}{t:Ty}{y:t.den}(_h:Pz M ρ s v x)(_ha:E5 x=some ⟨t,y⟩):True:=trivial
theorem C02{t:Ty}{v:Value}{x:Arg}(h:ArgIs M ρ s v x):Pz M ρ s v (A6j t x):=by
  obtain ⟨sv,ob⟩:=x
  cases sv with
  | tup ms=>exact h.pz
  | one m =>
    cases m with
    | nilS =>
      have hv:=h.nilS
      subst hv
      cases t with
      | slice e=>exact ⟨[.slice none 0 0],⟨_,rfl,none,0,rfl,Nat.le_refl _,fun _=>rfl,fun h=>absurd rfl h⟩,rfl⟩
      | val=>exact ⟨[.slice none 0 0],⟨rfl,none,0,0,rfl⟩,rfl⟩
      | _=>trivial
    | _=>exact h.pz
theorem B4L{R:Type}{KE:Eff→Option R}{res:R}(hcf:T3 P cx){T:TypeId}{r:TyRow}{x y:Operand}(hd:F9 fr.n o.dst=true)(ho:o.op=.store T x y)(hr:cx.row? T=some r)
    (h:B9O KE r.ty (arg x) (arg y)=some res):∃ e,KE e=some res∧N1 P fr arg o e:=by
  unfold B9O at h
  unfold B9N at h
  split at h
  case h_2=>cases h
  rename_i t' z hy
  cases hdec:decide (t'=r.ty) <;> rw [hdec] at h <;> simp only [cond_true,cond_false,reduceCtorEq] at h
  have ht:t'=r.ty:=of_decide_eq_true hdec
  subst ht
  split at h
  case h_2=>cases h
  rename_i i p ob hx
  split at h
  case h_2=>cases h
  rename_i zo hz
  cases hfi:C7p (A6j r.ty (arg y)) i <;> rw [hfi] at h <;> simp only [cond_true,cond_false,reduceCtorEq] at h
  refine ⟨_,h,fun M ρ s a w Q g ha=>?_⟩
  have ax:=g.arg' ((ha x (by rw [ho]; simp [Op.operands])).trans hx)
  have ay:=g.arg' (ha y (by rw [ho]; simp [Op.operands]))
  obtain ⟨M1,hM1,g1,hdat,_⟩:=g.freeze1 (C02 (t:=r.ty) ay) (.one .dead) rfl
  obtain ⟨cs,hf,hv⟩:=hdat _ _ hy
  obtain ⟨b,cap,t2,cur,e,hρ,hk,hty,hva,hob,hb,hat⟩:=g.ptr ax
  have hne:(({ rep:=frz (A6j r.ty (arg y)),objs:=A6V (A6j r.ty (arg y)),val:=.one .dead }:Eff).app none s).obj i=ob:=by
    rw [Eff.obj_app]
    have:E7 (A6V (A6j r.ty (arg y))) i=none:=by
      unfold A6V; split
      · rename_i j e2 tid l hyy
        rw [A1S,if_neg]
        intro e3
        rw [hyy] at hfi
        simp only [C7p] at hfi
        rw [(B2 _ _).2 e3.symm] at hfi; cases hfi
      · rfl
    simp only [this,Option.getD_none]; exact hob
  have hat1:=g1.objs i
  rw [hne,hρ] at hat1
  obtain ⟨cur1,e1,hb1,hfit,hat2,hst,hng⟩:=hat1.set hk hz hf
  have hgone:ob≠.gone:=by intro e3; rw [e3] at hk; exact hk.elim
  have hblk:(ρ i).blk=some b:=by rw [hρ]; rfl
  have hrun:(execOp a.eval o).run P w=.ok .skip (w.setRow b (over cur1.toList (A4y ob p) cs).toArray):=by
    simp [execOp,ho,hva,hv,B2o hcf hr hb1 hf hfit]
  have hs0:=T4 (b:=b) (cs:=(over cur1.toList (A4y ob p) cs).toArray) w
  have hs1:Since (fun k=>(ρ i).blk=some k∧(({ rep:=frz (A6j r.ty (arg y)),objs:=A6V (A6j r.ty (arg y)),val:=.one .dead }:Eff).app none s).obj i≠.gone) w (w.setRow b (over cur1.toList (A4y ob p) cs).toArray) :=
    ⟨hs0.os,hs0.tape,hs0.output,hs0.size,fun k hk2 hn=>hs0.block k hk2 fun e3=>hn ⟨by rw [hblk,e3],by rw [hne]; exact hgone⟩⟩
  have hMb:M1 b=none:=g1.own_none ⟨hblk,by rw [hne]; exact hgone⟩
  have G:=g1.obj1 (dst:=o.dst) hd (i:=i) (o:=zo) (pl:=ρ i) (M':=M1) (rep:=[]) (v:=undef) (sv:=.one .dead) (.refl M1)
    (g1.mem.since hs1 fun k ob2 hm hbor=>by
      have e3:b=k:=by have:=hbor.1; rw [hblk] at this; exact Option.some.inj this
      rw [← e3,hMb] at hm; cases hm)
    hs1 (fun _ _ _=>rfl) (by rw [hρ]; exact hat2)
    (fun k _ hk2=>by
      rw [hblk] at hk2; cases hk2
      exact ⟨hMb,by simpa using (Array.getElem?_eq_some_iff.1 hb1).1,.inr ⟨hblk,by rw [hne]; exact hgone⟩⟩)
    (fun m v hmi hm=>by
      rw [Place.upd_self,MV.reps_nil]
      refine hm.mono (.refl _) fun id hid=>⟨rfl,?_⟩
      have e3:id=i:=by rw [hmi] at hid; exact(Option.some.inj hid).symm
      subst e3
      rw [hne]; simpa using hst)
    (fun m _=>rfl) trivial
  rw [Place.upd_self,Eff.app_app,List.append_nil] at G
  exact B8o hrun ⟨M1,ρ,G⟩
end
end
end Go.Eng
namespace Go.Eng
open Go.RowKit
section
variable {P:Program} {cx:Cx} {fr:Frm} {arg:Operand→Arg} {o:Oper} {R:Type} {KE:Eff→Option R} {res:R}
theorem A0u:∀ (t:Ty) (p:List Step) (t1:Ty) (f:Nat),tyP t p=some t1→A1A t (p++[.fld f])=A1A t p+A1A t1 [.fld f]
  | t,[],t1,f,h=>by rw [W7] at h; cases h; rw [N8]; simp
  | .pair a b,.fld 0::p,t1,f,h=>A0u a p t1 f h
  | .pair a b,.fld (n+1)::p,t1,f,h=>by
    have:=A0u b (.fld n::p) t1 f h
    simp only [List.cons_append,A1A] at this ⊢; omega
  | .arr n e,.idx i::p,t1,f,h=>by
    have:=A0u e p t1 f h
    simp only [List.cons_append,A1A]; omega
theorem A0v:∀ (t:Ty) (p:List Step) (n:Nat) (e:Ty) (i:Nat),tyP t p=some (.arr n e)→A1A t (p++[.idx i])=A1A t p+i*e.sz
  | t,[],n,e,i,h=>by rw [W7] at h; cases h; rw [N8]; simp [A1A,N8]
  | .pair a b,.fld 0::p,n,e,i,h=>A0v a p n e i h
  | .pair a b,.fld (k+1)::p,n,e,i,h=>by
    have:=A0v b (.fld k::p) n e i h
    simp only [List.cons_append,A1A] at this ⊢; omega
  | .arr m u,.idx j::p,n,e,i,h=>by
    have:=A0v u p n e i h
    simp only [List.cons_append,A1A]; omega
theorem A5h:∀ (t:Ty) (p:List Step) (t1:Ty) (st:Step),tyP t p=some t1→tyP t (p++[st])=tyP t1 [st]
  | t,[],t1,st,h=>by rw [W7] at h; cases h; rfl
  | .pair a b,.fld 0::p,t1,st,h=>A5h a p t1 st h
  | .pair a b,.fld (n+1)::p,t1,st,h=>A5h b (.fld n::p) t1 st h
  | .arr n e,.idx i::p,t1,st,h=>A5h e p t1 st h
theorem A5i:∀ (t:Ty) (p:List Step) (t1:Ty) (st:Step),okP t p→tyP t p=some t1→okP t1 [st]→okP t (p++[st])
  | t,[],t1,st,_,h,k=>by rw [W7] at h; cases h; exact k
  | .pair a b,.fld 0::p,t1,st,ho,h,k=>A5i a p t1 st ho h k
  | .pair a b,.fld (n+1)::p,t1,st,ho,h,k=>A5i b (.fld n::p) t1 st ho h k
  | .arr n e,.idx i::p,t1,st,ho,h,k=>⟨ho.1,A5i e p t1 st ho.2 h k⟩
theorem B61{ob:MObj}{p:List Step}{t1 t2:Ty}{st:Step}(hk:okO ob p)(h1:ob.tyP p=some t1)(h2:tyP t1 [st]=some t2)(hok:okP t1 [st]) :
    okO ob (p++[st])∧ob.tyP (p++[st])=some t2:=by
  cases ob with
  | gone=>exact hk.elim
  | bx t x=>exact ⟨A5i t p t1 st hk h1 hok,(A5h t p t1 st h1).trans h2⟩
  | sl e tid l =>
    cases p with
    | nil=>exact hk.elim
    | cons q p =>
      cases q with
      | fld f=>exact hk.elim
      | idx i=>exact ⟨⟨hk.1,A5i e p t1 st hk.2 h1 hok⟩,(A5h e p t1 st h1).trans h2⟩
theorem B4N{ob:MObj}{p:List Step}{t1:Ty}{f:Nat}(hk:okO ob p)(h1:ob.tyP p=some t1):A4y ob (p++[.fld f])=A4y ob p+A1A t1 [.fld f]:=by
  cases ob with
  | gone=>exact hk.elim
  | bx t x=>exact A0u t p t1 f h1
  | sl e tid l =>
    cases p with
    | nil=>exact hk.elim
    | cons q p =>
      cases q with
      | fld f=>exact hk.elim
      | idx i =>
        have:=A0u e p t1 f h1
        simp only [List.cons_append,A4y]; omega
theorem B4O{ob:MObj}{p:List Step}{n:Nat}{e:Ty}{i:Nat}(hk:okO ob p)(h1:ob.tyP p=some (.arr n e)):A4y ob (p++[.idx i])=A4y ob p+i*e.sz:=by
  cases ob with
  | gone=>exact hk.elim
  | bx t x=>exact A0v t p n e i h1
  | sl u tid l =>
    cases p with
    | nil=>exact hk.elim
    | cons q p =>
      cases q with
      | fld f=>exact hk.elim
      | idx j =>
        have:=A0v u p n e i h1
        simp only [List.cons_append,A4y]; omega
theorem B0c{fs:List Field}{t:Ty}{off:Nat}(h:A0s P cx fs t off):∀ {f:Nat} {t':Ty},tyP t [.fld f]=some t' →
    ∃ fd r,fs[f]?=some fd∧fd.offset=off+A1A t [.fld f]∧cx.row? fd.type=some r∧r.ty=t'∧okP t [.fld f]:=by
  induction fs generalizing t off with
  | nil =>
    intro f t' ht
    cases t <;> first | exact h.elim | (cases f <;> simp [tyP] at ht)
  | cons fd fs ih =>
    intro f t' ht
    cases t with
    | pair a b =>
      obtain ⟨ho,⟨r,hr,hra⟩,hn,hfs⟩:=h
      cases f with
      | zero =>
        simp only [tyP,W7] at ht
        cases ht
        exact ⟨fd,r,rfl,by simp [A1A,N8,ho],hr,hra,A2L _⟩
      | succ f =>
        obtain ⟨fd',r',h1,h2,h3,h4,h6⟩:=ih hfs (f:=f) (t':=t') ht
        exact ⟨fd',r',by simpa using h1,by rw [h2]; simp only [A1A]; omega,h3,h4,h6⟩
    | _=>exact h.elim
theorem A7t(hcf:T3 P cx){T:TypeId}{r:TyRow}(hr:cx.row? T=some r){f:Nat}{t':Ty}(ht:tyP r.ty [.fld f]=some t')(h5:t'.sz≠0)(b off:Nat)(w:World) :
    (Instr.fieldAt T (.pointer (some ⟨b,off,none⟩)) f).run P w=.ok (.pointer (some ⟨b,off+A1A r.ty [.fld f],none⟩)) w∧okP r.ty [.fld f]:=by
  have hs:∃ fs,P.underlying T=some (.struct fs)∧A0s P cx fs.toList r.ty 0:=by
    cases hty:r.ty with
    | pair x y=>obtain ⟨fs,h1,h2,_⟩:=A5f hcf hr hty; exact ⟨fs,h1,h2⟩
    | unit=>obtain ⟨fs,h1,h2,_⟩:=A5g hcf hr hty; exact ⟨fs,h1,h2⟩
    | _=>rw [hty] at ht; cases f <;> simp [tyP] at ht
  obtain ⟨fs,hu,hfs⟩:=hs
  obtain ⟨fd,r',h1,h2,h3,h4,h6⟩:=B0c hfs ht
  have h1':fs[f]?=some fd:=by simpa using h1
  refine ⟨?_,h6⟩
  unfold Instr.fieldAt
  simp only [Sem.run_bind,run_underlying hu,Result.andThen_ok,h1',Instr.sureAddr,Sem.run_pure,fieldPlace,F6 hcf h3,h4,h5,if_false,G8]
  rw [h2]; simp
theorem A7u(hcf:T3 P cx){T:TypeId}{x:Operand}{f:Nat}{r:TyRow}(hd:F9 fr.n o.dst=true)(ho:o.op=.fieldAddr T x f)(hr:cx.row? T=some r)
    (h:A5O KE r.ty f (arg x)=some res):∃ e,KE e=some res∧N1 P fr arg o e:=by
  unfold A5O at h
  split at h
  · rename_i i p ob hx
    split at h
    · rename_i t1 ht1
      cases hdec:decide (t1=r.ty) <;> rw [hdec] at h <;> simp only [cond_true,cond_false,reduceCtorEq] at h
      have he:t1=r.ty:=of_decide_eq_true hdec
      split at h
      · rename_i t2 ht2
        cases hz:Nat.beq t2.sz 0 <;> rw [hz] at h <;> simp only [cond_true,cond_false,reduceCtorEq] at h
        have hz:t2.sz≠0:=fun e=>by rw [e] at hz; cases hz
        refine ⟨_,h,N1.of_value hd (fun M ρ s a w g ha=>?_) rfl rfl⟩
        have ax:=g.arg' ((ha x (by rw [ho]; simp [Op.operands])).trans hx)
        obtain ⟨b,cap,t3,cur,e,hρ,hk,hty,hv,hob,hb,hat⟩:=g.ptr ax
        obtain ⟨hrun,hok⟩:=A7t (P:=P) hcf hr ht2 hz b (A4y ob p) w
        have ht1':ob.tyP p=some r.ty:=by rw [ht1,he]
        obtain ⟨h1,h2⟩:=B61 hk ht1' ht2 hok
        refine ⟨_,by simp [execOp,ho,hv,hrun]; rfl,b,t2,by rw [hρ]; rfl,by rw [hob]; exact h1,by rw [hob]; exact h2,?_⟩
        rw [hob,B4N hk ht1']
      · cases h
    · cases h
  · rename_i t x0 ob hx
    cases hdec:decide (t=r.ty) <;> rw [hdec] at h <;> simp only [cond_true,cond_false,reduceCtorEq] at h
    have he:t=r.ty:=of_decide_eq_true hdec
    split at h
    · rename_i t' y hg
      cases hz:Nat.beq t'.sz 0 <;> rw [hz] at h <;> simp only [cond_true,cond_false,reduceCtorEq] at h
      have hz:t'.sz≠0:=fun e=>by rw [e] at hz; cases hz
      refine ⟨_,h,N1.of_value hd (fun M ρ s a w g ha=>?_) rfl rfl⟩
      obtain ⟨b,off,cur,e,fz,cs,hv,hM,hf,hc⟩:=(g.arg' ((ha x (by rw [ho]; simp [Op.operands])).trans hx)).rel
      subst he
      obtain ⟨hrun,hok⟩:=A7t (P:=P) hcf hr (A2N hg) hz b off w
      have hf2:=E8.get hf hok hg
      have hle:=A1s hok (A2N hg)
      refine ⟨_,by simp [execOp,ho,hv,hrun]; rfl,b,_,cur,e,fz,_,rfl,hM,hf2,?_⟩
      rw [hf2.length]
      have hl:=hf.length
      rw [← hc,hl]
      simp only [List.drop_take,List.take_take,List.drop_drop]
      congr 1
      omega
    · cases h
  · cases h
theorem A3v(hcf:T3 P cx){T:TypeId}{r:TyRow}{n:Nat}{e:Ty}(hr:cx.row? T=some r)(ht:r.ty=.arr n e){i:Int}(hi:inI i n=true)(k:IntKind)(b off:Nat)(w:World) :
    (Instr.indexAt T (.pointer (some ⟨b,off,none⟩)) (.int k i)).run P w=.ok (.pointer (some ⟨b,off+i.toNat*e.sz,none⟩)) w:=by
  obtain ⟨te,hu,re,hre,hee⟩:=A2P hcf hr ht
  have hi':0≤i∧i < (n:Int):=of_decide_eq_true hi
  unfold Instr.indexAt
  simp only [asIntOf,Sem.run_bind,Sem.run_pure,Result.andThen_ok,run_underlying hu,Instr.sureAddr,hi',and_self,if_true,F6 hcf hre,hee,G8]
theorem A2m(hcf:T3 P cx){T:TypeId}{r:TyRow}{e:Ty}(hr:cx.row? T=some r)(ht:r.ty=.slice e){i:Int}{n:Nat}(hi:inI i n=true)(k:IntKind)(b off cap:Nat)(w:World) :
    (Instr.indexAt T (.slice (some ⟨b,off,none⟩) n cap) (.int k i)).run P w=.ok (.pointer (some ⟨b,off+i.toNat*e.sz,none⟩)) w:=by
  obtain ⟨hu,re,hre,hee⟩:=S2 hcf hr ht
  have hi':0≤i∧i < (n:Int):=of_decide_eq_true hi
  unfold Instr.indexAt
  simp only [asIntOf,Sem.run_bind,Sem.run_pure,Result.andThen_ok,run_underlying hu,hi',and_self,if_true,F6 hcf hre,hee,G8]
theorem A99{i:Int}{n:Nat}(h:inI i n=true):i.toNat < n:=by
  have hi':0≤i∧i < (n:Int):=of_decide_eq_true h
  omega
theorem A7v(hcf:T3 P cx){T:TypeId}{x y:Operand}{r:TyRow}(hd:F9 fr.n o.dst=true)(ho:o.op=.indexAddr T x y)(hr:cx.row? T=some r)
    (h:A5N KE r.ty (arg x) (arg y)=some res):∃ e,KE e=some res∧N1 P fr arg o e:=by
  unfold A5N at h
  split at h
  · -- a slice of pointers
    rename_i i l ox k n oy hx hy
    cases hdec:decide (r.ty=.slice .ptr) <;> rw [hdec] at h <;> simp only [cond_true,cond_false,reduceCtorEq] at h
    have he:r.ty=.slice .ptr:=of_decide_eq_true hdec
    cases hi:inI n l.length <;> rw [hi] at h <;> simp only [cond_true,cond_false,reduceCtorEq] at h
    refine ⟨_,h,N1.of_value hd (fun M ρ s a w g ha=>?_) rfl rfl⟩
    have ax:=g.arg' ((ha x (by rw [ho]; simp [Op.operands])).trans hx)
    have ey:=(g.arg' ((ha y (by rw [ho]; simp [Op.operands])).trans hy)).int
    obtain ⟨b,cap,cur,el,fz,hv,hM,_,hall⟩:=ax.rel
    have hlt:=A99 hi
    have hrun:=A2m (P:=P) hcf hr he hi k b 0 cap w
    obtain ⟨u,h1,h2⟩:=hall n.toNat (B9 [] l n) (by unfold B9; rw [A0i _ hlt]; exact List.getElem?_eq_getElem hlt)
    exact ⟨_,by simp [execOp,ho,hv,ey,hrun]; rfl,b,_,cur,el,fz,u,rfl,hM,by simpa [Ty.sz] using h1,h2⟩
  · -- an own slice
    rename_i i e tid l k n oy hx hy
    cases hdec:decide (r.ty=.slice e) <;> rw [hdec] at h <;> simp only [cond_true,cond_false,reduceCtorEq] at h
    have he:r.ty=.slice e:=of_decide_eq_true hdec
    cases hi:inI n l.length <;> rw [hi] at h <;> simp only [cond_true,cond_false,reduceCtorEq] at h
    refine ⟨_,h,N1.of_value hd (fun M ρ s a w g ha=>?_) rfl rfl⟩
    have ax:=g.arg' ((ha x (by rw [ho]; simp [Op.operands])).trans hx)
    have ey:=(g.arg' ((ha y (by rw [ho]; simp [Op.operands])).trans hy)).int
    obtain ⟨e2,tid2,l2,h1,hv⟩:=ax.rel
    have h1':=ax.obj i rfl
    rw [h1] at h1'; cases h1'
    have hob:=g.objs i
    rw [h1] at hob
    have hlt:=A99 hi
    cases hρ:ρ i with
    | no =>
      rw [hρ] at hob
      have:l=[]:=hob
      subst this; simp at hlt
    | «at» b cap =>
      rw [hρ] at hv
      have hrun:=A2m (P:=P) hcf hr he hi k b 0 cap w
      exact ⟨_,by simp [execOp,ho,hv,ey,Place.slice,hrun]; rfl,b,e,by rw [hρ]; rfl,by rw [h1]; exact ⟨hlt,A2L _⟩,by rw [h1]; exact W7 _,by rw [h1]; simp [A4y,N8]⟩
  · -- a slice that is data
    rename_i e l ox k n oy hx hy
    cases hdec:decide (r.ty=.slice e) <;> rw [hdec] at h <;> simp only [cond_true,cond_false,reduceCtorEq] at h
    have he:r.ty=.slice e:=of_decide_eq_true hdec
    cases hi:inI n (List.length l) <;> rw [hi] at h <;> simp only [cond_true,cond_false,reduceCtorEq] at h
    refine ⟨_,h,N1.of_value hd (fun M ρ s a w g ha=>?_) rfl rfl⟩
    have ax:=g.arg' ((ha x (by rw [ho]; simp [Op.operands])).trans hx)
    have ey:=(g.arg' ((ha y (by rw [ho]; simp [Op.operands])).trans hy)).int
    obtain ⟨cs,⟨v,hcs,ao,cap,hv,hcap,_,hne⟩,hv2⟩:=ax.rel
    have hlt:=A99 hi
    obtain ⟨b,off,cur,el,fz,hao,hM,cs2,hf,hc⟩:=hne (by intro e3; rw [e3] at hlt; simp at hlt)
    have hv3:a.eval x=.slice (some ⟨b,off,none⟩) (List.length l) cap:=by rw [hv2,hcs,← hao,← hv]; simp [C8,Ty.isAgg]
    have hrun:=A2m (P:=P) hcf hr he hi k b off cap w
    have hn:∀ x cs,E8 M e x cs→cs.length=e.sz:=fun x cs k=>k.length
    obtain ⟨c,hc1,hc2⟩:=E3.at hn hf n.toNat hlt
    have hlen:=E3.length hn hf
    have hb2:n.toNat*e.sz+e.sz≤cs2.length:=by rw [hlen]; have:=Nat.mul_le_mul_right e.sz hlt; rw [Nat.succ_mul] at this; exact this
    refine ⟨_,by simp [execOp,ho,hv3,ey,hrun]; rfl,b,_,cur,el,fz,c,rfl,hM,?_,?_⟩
    · unfold B9; rw [A0i _ hlt]; exact hc1
    · rw [hn _ _ hc1,← hc2,← hc]
      simp only [List.drop_take,List.take_take,List.drop_drop]
      congr 1
      omega
  · -- a variable
    rename_i i p ob k n oy hx hy
    split at h
    · rename_i m e ht
      cases hdec:decide (r.ty=.arr m e) <;> rw [hdec] at h <;> simp only [cond_true,cond_false,reduceCtorEq] at h
      have he:r.ty=.arr m e:=of_decide_eq_true hdec
      cases hi:inI n m <;> rw [hi] at h <;> simp only [cond_true,cond_false,reduceCtorEq] at h
      refine ⟨_,h,N1.of_value hd (fun M ρ s a w g ha=>?_) rfl rfl⟩
      have ax:=g.arg' ((ha x (by rw [ho]; simp [Op.operands])).trans hx)
      have ey:=(g.arg' ((ha y (by rw [ho]; simp [Op.operands])).trans hy)).int
      obtain ⟨b,cap,t3,cur,el,hρ,hk,hty,hv,hob,hb,hat⟩:=g.ptr ax
      have hrun:=A3v (P:=P) hcf hr he hi k b (A4y ob p) w
      obtain ⟨h1,h2⟩:=B61 (st:=.idx n.toNat) (t2:=e) hk ht (W7 e) ⟨A99 hi,A2L _⟩
      refine ⟨_,by simp [execOp,ho,hv,ey,hrun]; rfl,b,e,by rw [hρ]; rfl,by rw [hob]; exact h1,by rw [hob]; exact h2,?_⟩
      rw [hob,B4O hk ht]
    · cases h
  · -- known memory
    rename_i t x0 ox k n oy hx hy
    split at h
    · rename_i m e l
      cases hdec:decide (r.ty=.arr m e) <;> rw [hdec] at h <;> simp only [cond_true,cond_false,reduceCtorEq] at h
      have he:r.ty=.arr m e:=of_decide_eq_true hdec
      cases hi:inI n m <;> rw [hi] at h <;> simp only [cond_true,cond_false,reduceCtorEq] at h
      refine ⟨_,h,N1.of_value hd (fun M ρ s a w g ha=>?_) rfl rfl⟩
      have ey:=(g.arg' ((ha y (by rw [ho]; simp [Op.operands])).trans hy)).int
      obtain ⟨b,off,cur,el,fz,cs,hv,hM,hf,hc⟩:=(g.arg' ((ha x (by rw [ho]; simp [Op.operands])).trans hx)).rel
      have hrun:=A3v (P:=P) hcf hr he hi k b off w
      have hlt:=A99 hi
      have hlt':n.toNat < List.length l:=by rw [hf.1]; exact hlt
      have hn:∀ x cs,E8 M e x cs→cs.length=e.sz:=fun x cs k=>k.length
      obtain ⟨c,hc1,hc2⟩:=E3.at hn hf.2 n.toNat hlt'
      have hlen:=E3.length hn hf.2
      have hb2:n.toNat*e.sz+e.sz≤cs.length:=by rw [hlen]; have:=Nat.mul_le_mul_right e.sz hlt'; rw [Nat.succ_mul] at this; exact this
      refine ⟨_,by simp [execOp,ho,hv,ey,hrun]; rfl,b,_,cur,el,fz,c,rfl,hM,?_,?_⟩
      · unfold B9; rw [A0i _ hlt']; exact hc1
      · rw [hn _ _ hc1,← hc2,← hc]
        simp only [List.drop_take,List.take_take,List.drop_drop]
        congr 1
        omega
    · cases h
  · cases h
theorem B4P(hcf:T3 P cx){T:TypeId}{x:Operand}{f:Nat}{r:TyRow}(hd:F9 fr.n o.dst=true)(ho:o.op=.field T x f)(hr:cx.row? T=some r)
    (h:B9P KE r.ty f (arg x)=some res):∃ e,KE e=some res∧N1 P fr arg o e:=by
  unfold B9P at h
  split at h
  · rename_i t x0 ob hx
    cases hdec:decide (t=r.ty) <;> rw [hdec] at h <;> simp only [cond_true,cond_false,reduceCtorEq] at h
    have he:t=r.ty:=of_decide_eq_true hdec
    split at h
    · rename_i t' y hg
      refine ⟨_,h,N1.of_value hd (fun M ρ s a w g ha=>?_) rfl rfl⟩
      obtain ⟨cs,hf,hv⟩:=(g.arg' ((ha x (by rw [ho]; simp [Op.operands])).trans hx)).rel
      subst he
      have ht:=A2N hg
      have hs:∃ fs,P.underlying T=some (.struct fs)∧A0s P cx fs.toList r.ty 0∧r.ty.isAgg=true:=by
        cases hty:r.ty with
        | pair x y=>obtain ⟨fs,h1,h2,_⟩:=A5f hcf hr hty; exact ⟨fs,h1,h2,rfl⟩
        | unit=>obtain ⟨fs,h1,h2,_⟩:=A5g hcf hr hty; exact ⟨fs,h1,h2,rfl⟩
        | _=>rw [hty] at ht; cases f <;> simp [tyP] at ht
      obtain ⟨fs,hu,hfs,hagg⟩:=hs
      obtain ⟨fd,r',h1,h2,h3,h4,h6⟩:=B0c hfs ht
      have h1':fs[f]?=some fd:=by simpa using h1
      have hf2:=E8.get hf h6 hg
      subst h4
      have hp:=A49 (P:=P) (M:=M) (w:=w) hcf h3 hf2 (c:=cs) (off:=fd.offset) (by rw [h2]; simp)
      refine ⟨_,?_,_,hf2,rfl⟩
      have hv':a.eval x=.agg cs.toArray:=by rw [hv]; simp [C8,hagg]
      simp only [execOp,ho,hv',Instr.field,Sem.run_bind,run_underlying hu,Result.andThen_ok,h1',asAgg,Sem.run_pure,hp]
    · cases h
  · cases h
theorem B4Q(hcf:T3 P cx){T:TypeId}{x y:Operand}{r:TyRow}(hd:F9 fr.n o.dst=true)(ho:o.op=.index T x y)(hr:cx.row? T=some r)
    (h:B9Q KE r.ty (arg x) (arg y)=some res):∃ e,KE e=some res∧N1 P fr arg o e:=by
  unfold B9Q at h
  split at h
  · rename_i t x0 ox k n oy hx hy
    split at h
    · rename_i m e l
      cases hdec:decide (r.ty=.arr m e) <;> rw [hdec] at h <;> simp only [cond_true,cond_false,reduceCtorEq] at h
      have he:r.ty=.arr m e:=of_decide_eq_true hdec
      cases hi:inI n m <;> rw [hi] at h <;> simp only [cond_true,cond_false,reduceCtorEq] at h
      refine ⟨_,h,N1.of_value hd (fun M ρ s a w g ha=>?_) rfl rfl⟩
      have ey:=(g.arg' ((ha y (by rw [ho]; simp [Op.operands])).trans hy)).int
      obtain ⟨cs,hf,hv⟩:=(g.arg' ((ha x (by rw [ho]; simp [Op.operands])).trans hx)).rel
      obtain ⟨te,hu,re,hre,hee⟩:=A2P hcf hr he
      subst hee
      have hi':0≤n∧n < (m:Int):=of_decide_eq_true hi
      have hlt':n.toNat < List.length l:=by rw [hf.1]; exact A99 hi
      have hn:∀ x cs,E8 M re.ty x cs→cs.length=re.ty.sz:=fun x cs k=>k.length
      obtain ⟨c,hc1,hc2⟩:=E3.at hn hf.2 n.toNat hlt'
      have hp:=A49 (P:=P) (M:=M) (w:=w) hcf hre hc1 (c:=cs) (off:=n.toNat*re.ty.sz) hc2
      refine ⟨C8 re.ty c,?_,c,?_,rfl⟩
      · simp only [execOp,ho,hv,ey,C8,Ty.isAgg,if_true,Instr.index,asIntOf,Sem.run_bind,Sem.run_pure,Result.andThen_ok,run_underlying hu,hi',and_self,F6 hcf hre,hp]
      · unfold B9; rw [A0i _ hlt']; exact hc1
    · cases h
  · cases h
end
end Go.Eng
namespace Go.Eng
open Go.RowKit
section
variable {P:Program} {cx:Cx} {fr:Frm} {arg:Operand→Arg} {o:Oper} {R:Type} {KE:Eff→Option R} {res:R}
theorem B8t(op:BinOp)(T:TypeId){t:Ty}{x y:t.den}{c1 c2:List Value}{M:Mem}{w:World}(hcf:T3 P cx){r:TyRow}(hr:cx.row? T=some r)(ht:r.ty=t)(hf:t.flat=true)
    (hnint:∀ k,t≠.int k) (hnstr:t≠.str) (h1:E8 M t x c1) (h2:E8 M t y c2) :
    (binOp .eql T (C8 t c1) (C8 t c2)).run P w=.ok (.bool (eqT t x y)) w∧(binOp .neq T (C8 t c1) (C8 t c2)).run P w=.ok (.bool (!eqT t x y)) w:=by
  subst ht
  have he:=B2m hcf hr hf (w:=w) h1 h2
  have key:(binOp .eql T (C8 r.ty c1) (C8 r.ty c2))=(do pure (.bool (← Op.equal T (C8 r.ty c1) (C8 r.ty c2)))) ∧
      (binOp .neq T (C8 r.ty c1) (C8 r.ty c2))=(do pure (.bool (!(← Op.equal T (C8 r.ty c1) (C8 r.ty c2))))):=by
    generalize hrt:r.ty=t at *
    cases t with
    | int k=>exact absurd rfl (hnint k)
    | str=>exact absurd rfl hnstr
    | slice e=>simp [Ty.flat] at hf
    | nil=>simp [Ty.flat] at hf
    | val=>simp [Ty.flat] at hf
    | ifc=>simp [Ty.flat] at hf
    | ptr=>simp [Ty.flat] at hf
    | fnc=>simp [Ty.flat] at hf
    | bool =>
      have e1:c1=[.bool x]:=h1
      have e2:c2=[.bool y]:=h2
      subst e1; subst e2
      constructor <;> simp [C8,Ty.isAgg,binOp]
    | unit=>constructor <;> simp [C8,Ty.isAgg,binOp]
    | pair a b=>constructor <;> simp [C8,Ty.isAgg,binOp]
    | arr n e=>constructor <;> simp [C8,Ty.isAgg,binOp]
  rw [key.1,key.2]
  simp [he]
theorem A4b{t t':Ty}{x:t.den}{K:t'.den→Option R}{r:R}(h:B8k t t' x K=some r):∃ e:t=t',K (e ▸ x)=some r:=by
  unfold B8k at h; split at h
  · rename_i e; exact ⟨e,h⟩
  · cases h
theorem A7w(hcf:T3 P cx){t:Nat}(h:C3I cx t=true):∃ e,P.underlying t=some (.slice e):=by
  unfold C3I at h
  split at h
  · rename_i r hr
    split at h
    · rename_i e he
      exact ⟨_,(S2 hcf hr he).1⟩
    · cases h
  · cases h
theorem T7(w:World)(op:BinOp)(t:TypeId)(x y:Operand)(a a':Option Addr)(n c n' c':Nat):(eqGuard op t x y (.slice a n c) (.slice a' n' c')).run P w=.ok () w:=by
  unfold eqGuard
  split <;> simp
theorem A1B(w:World)(t e:TypeId)(a:Option Addr)(n c:Nat)(h:P.underlying t=some (.slice e)):(Op.equal t (.slice a n c) (.slice none 0 0)).run P w=.ok a.isNone w:=by
  have:∀ d:Nat,(Op.equalIn (d+1) t (.slice a n c) (.slice none 0 0)).run P w=.ok a.isNone w:=fun d=>by cases a <;> simp [Op.equalIn,run_underlying h]
  simp [Op.equal,Op.maxDepth,this 9999]
theorem A2T(w:World)(t e:TypeId)(a:Option Addr)(n c:Nat)(h:P.underlying t=some (.slice e)):(binOp .eql t (.slice a n c) (.slice none 0 0)).run P w=.ok (.bool a.isNone) w:=by
  simp [binOp,A1B w t e a n c h]
theorem A2U(w:World)(t e:TypeId)(a:Option Addr)(n c:Nat)(h:P.underlying t=some (.slice e)):(binOp .neq t (.slice a n c) (.slice none 0 0)).run P w=.ok (.bool !a.isNone) w:=by
  simp [binOp,A1B w t e a n c h]
theorem C3Q{x:Arg}{b:Bool}(hE:D4a x=false)(hB:D4C x=some b):B9F x=some b:=by
  unfold D4a at hE
  unfold D4C at hB
  unfold B9F
  split at hB
  · exact hB
  · exact hB
  · split at hB
    · simp only at hE ⊢
      rw [hE]
      exact hB
    · cases hB
  · simp only at hE ⊢
    rw [hE]
    exact hB
  · cases hB
theorem B8u{M:Mem}{ρ:Nat→Place}{s:St}{a:Act}{w:World}(g:Good fr M ρ s a w){v:Value}{x:Arg}{b:Bool}(h:ArgIs M ρ s v x)(hx:B9F x=some b):∃ ao n c,v=.slice ao n c∧ao.isNone=b:=by
  unfold B9F at hx
  split at hx
  · have hv:v=.slice none 0 0:=h.rel
    cases hx
    exact ⟨none,0,0,hv,rfl⟩
  · obtain ⟨a0,cap,hv⟩:=h.rel
    cases hx
    exact ⟨some a0,0,cap,hv,rfl⟩
  · split at hx
    · rename_i e l
      cases hl:List.isEmpty l <;> rw [hl] at hx <;> simp only [cond_true,cond_false,reduceCtorEq,Option.some.injEq] at hx
      subst hx
      obtain ⟨cs,⟨v2,hcs,ao,cap,hv,hc,_,hne⟩,e1⟩:=h.rel
      have hl':l≠[]:=fun e=>by rw [e] at hl; cases hl
      obtain ⟨b,off,cur,el,fz,hao,_⟩:=hne hl'
      exact ⟨ao,List.length l,cap,by rw [e1,hcs,← hv]; simp [C8,Ty.isAgg],by rw [hao]; rfl⟩
    · cases hx
  · rename_i i e tid l
    cases hl:List.isEmpty l <;> rw [hl] at hx <;> simp only [cond_true,cond_false,reduceCtorEq,Option.some.injEq] at hx
    subst hx
    obtain ⟨e3,t3,l3,h1,h2⟩:=h.rel
    have h3:=h.obj i rfl
    rw [h1] at h3; cases h3
    have hob:=g.objs i
    rw [h1] at hob
    have hl':l≠[]:=fun e=>by rw [e] at hl; cases hl
    cases hr:ρ i with
    | no=>rw [hr] at hob; exact absurd hob hl'
    | «at» b cap=>rw [hr] at h2; exact ⟨_,_,_,h2,rfl⟩
  · cases hx
theorem A6m(hcf:T3 P cx){op:BinOp}{T u:TypeId}{x y:Operand}{ob:MObj}{b:Bool}(hd:F9 fr.n o.dst=true)(ho:o.op=.binOp op T x y u)(hx:B9F (arg x)=some b)(hy:arg y=(.one .nilS,ob))(hT:C3I cx T=true)(hop:op=.eql∨op=.neq) :
    N1 P fr arg o (one (.d .bool (if op=.eql then b else !b))):=by
  refine N1.of_value hd (fun M ρ s a w g ha=>?_) rfl rfl
  obtain ⟨ao,n,c,hv,hb⟩:=B8u g (g.arg' (ha x (by rw [ho]; simp [Op.operands]))) hx
  have hv2:a.eval y=.slice none 0 0:=(g.arg' ((ha y (by rw [ho]; simp [Op.operands])).trans hy)).rel
  obtain ⟨e,hu⟩:=A7w hcf hT
  have hg:=T7 (P:=P) w op T x y ao none n c 0 0
  have h1:(binOp .eql T (.slice ao n c) (.slice none 0 0)).run P w=.ok (.bool b) w:=by rw [← hb]; exact A2T w T e ao n c hu
  have h2:(binOp .neq T (.slice ao n c) (.slice none 0 0)).run P w=.ok (.bool !b) w:=by rw [← hb]; exact A2U w T e ao n c hu
  rcases hop with rfl | rfl
  · exact ⟨.bool b,by simp [execOp,ho,hv,hv2,hg,h1],A0t _⟩
  · exact ⟨.bool !b,by simp [execOp,ho,hv,hv2,hg,h2],A0t _⟩
theorem B4S(hcf:T3 P cx){op:BinOp}{T u:TypeId}{x y:Operand}(hd:F9 fr.n o.dst=true)(ho:o.op=.binOp op T x y u)
    (h:B9G cx KE T op (arg x) (arg y)=some res):∃ e,KE e=some res∧N1 P fr arg o e:=by
  unfold B9G at h
  split at h
  · rename_i k m ox k' n oy hx hy
    split at h
    · exact B9Z hd ho hx hy h
    · exact C00 hd ho hx hy h
    · split at h
      · rename_i hk; subst hk; exact B8p hd ho hx hy h
      · cases h
  · rename_i t x0 ox t' y0 oy hni hx hy
    split at h
    · rename_i r hr
      cases hdec:(t.flat && decide (t=r.ty) && !decide (t=.str)) <;> rw [hdec] at h <;> simp only [cond_true,cond_false,reduceCtorEq] at h
      simp only [Bool.and_eq_true,decide_eq_true_eq,Bool.not_eq_true',decide_eq_false_iff_not] at hdec
      obtain ⟨⟨hf,ht⟩,hstr⟩:=hdec
      obtain ⟨he,h⟩:=A4b h
      subst he
      have hnint:∀ k,t'≠.int k:=by
        intro k hk; subst hk
        exact hni k x0 k y0 rfl HEq.rfl rfl HEq.rfl
      have hrun:∀ M ρ s a w,Good fr M ρ s a w→(∀ x∈o.op.operands,s.arg x=arg x)→(binOp .eql T (a.eval x) (a.eval y)).run P w=.ok (.bool (eqT t' x0 y0)) w∧(binOp .neq T (a.eval x) (a.eval y)).run P w=.ok (.bool (!eqT t' x0 y0)) w ∧
          (eqGuard op T x y (a.eval x) (a.eval y)).run P w=.ok () w:=by
        intro M ρ s a w g ha
        obtain ⟨c1,h1,e1⟩:=(g.arg' ((ha x (by rw [ho]; simp [Op.operands])).trans hx)).rel
        obtain ⟨c2,h2,e2⟩:=(g.arg' ((ha y (by rw [ho]; simp [Op.operands])).trans hy)).rel
        rw [e1,e2]
        obtain ⟨b1,b2⟩:=B8t op T (w:=w) hcf hr ht.symm hf hnint hstr h1 h2
        refine ⟨b1,b2,?_⟩
        subst ht
        exact A7s hcf hr hf h1 h2 op x y
      split at h
      · refine ⟨_,h,N1.of_value hd (fun M ρ s a w g ha=>?_) rfl rfl⟩
        obtain ⟨b1,b2,b3⟩:=hrun M ρ s a w g ha
        exact ⟨.bool (eqT t' x0 y0),by simp [execOp,ho,b1,b3],A0t _⟩
      · refine ⟨_,h,N1.of_value hd (fun M ρ s a w g ha=>?_) rfl rfl⟩
        obtain ⟨b1,b2,b3⟩:=hrun M ρ s a w g ha
        exact ⟨.bool (!eqT t' x0 y0),by simp [execOp,ho,b2,b3],A0t _⟩
      · cases h
    · cases h
  · rename_i ob hni hnd hy
    cases hE:D4a (arg x) <;> rw [hE] at h <;> simp only [cond_true,cond_false,reduceCtorEq] at h
    split at h
    · rename_i b hB
      have hx:=C3Q hE hB
      cases hT:C3I cx T <;> rw [hT] at h <;> simp only [cond_true,cond_false,reduceCtorEq] at h
      split at h
      · exact ⟨_,h,A6m hcf hd ho hx hy hT (.inl rfl)⟩
      · exact ⟨_,h,A6m hcf hd ho hx hy hT (.inr rfl)⟩
      · cases h
    · cases h
  · cases h
theorem C03{ts:Array TypeId}{x y:Operand}{k:IntKind}{m n:Int}{ox oy:MObj}(hd:F9 fr.n o.dst=true)(ho:o.op=.call { callee:=.builtin .min,args:=#[x,y],argTypes:=ts })
    (hx:arg x=(.one (.d (.int k) m),ox)) (hy:arg y=(.one (.d (.int k) n),oy)):N1 P fr arg o (one (.d (.int k) (A3u m n))):=by
  refine N1.of_value hd (fun M ρ s a w g ha=>?_) rfl rfl
  have e1:=(g.arg' ((ha x (by rw [ho]; simp [Op.operands,Call.operands])).trans hx)).int
  have e2:=(g.arg' ((ha y (by rw [ho]; simp [Op.operands,Call.operands])).trans hy)).int
  exact ⟨.int k (A3u m n),by simp [execOp,ho,resolve,invoke,builtin,Builtin.min_,Builtin.min2,e1,e2,A3u],X4 k _⟩
theorem C04{ts:Array TypeId}{x y:Operand}{k:IntKind}{m n:Int}{ox oy:MObj}(hd:F9 fr.n o.dst=true)(ho:o.op=.call { callee:=.builtin .max,args:=#[x,y],argTypes:=ts })
    (hx:arg x=(.one (.d (.int k) m),ox)) (hy:arg y=(.one (.d (.int k) n),oy)):N1 P fr arg o (one (.d (.int k) (B2b m n))):=by
  refine N1.of_value hd (fun M ρ s a w g ha=>?_) rfl rfl
  have e1:=(g.arg' ((ha x (by rw [ho]; simp [Op.operands,Call.operands])).trans hx)).int
  have e2:=(g.arg' ((ha y (by rw [ho]; simp [Op.operands,Call.operands])).trans hy)).int
  exact ⟨.int k (B2b m n),by simp [execOp,ho,resolve,invoke,builtin,Builtin.max_,Builtin.max2,e1,e2,B2b],X4 k _⟩
theorem B2q{t:Nat}(h:A2I cx t=true):∃ r e,cx.row? t=some r∧r.ty=.slice e:=by
  unfold A2I at h
  split at h
  · rename_i r hr
    split at h
    · rename_i e he; exact ⟨r,e,hr,he⟩
    · cases h
  · cases h
theorem A7x(hcf:T3 P cx){T:TypeId}{x:Operand}{sv:SV}{ob:MObj}{n:Nat}(hd:F9 fr.n o.dst=true)(ho:o.op=.call { callee:=.builtin .len,args:=#[x],argTypes:=#[T] })
    (hx:arg x=(sv,ob)) (hT:A2I cx T=true) (hv:∀ M ρ s v,ArgIs M ρ s v (sv,ob)→∃ ao cap,v=.slice ao n cap):N1 P fr arg o (one (.d (.int .i64) (n:Int))):=by
  refine N1.of_value hd (fun M ρ s a w g ha=>?_) rfl rfl
  obtain ⟨ao,cap,e1⟩:=hv _ _ _ _ (g.arg' ((ha x (by rw [ho]; simp [Op.operands,Call.operands])).trans hx))
  obtain ⟨r,e,hr,he⟩:=B2q hT
  obtain ⟨hu,_⟩:=S2 hcf hr he
  exact ⟨.int .i64 n,by simp [execOp,ho,resolve,invoke,builtin,Builtin.len_,e1,run_underlying hu,goInt],X4 .i64 _⟩
theorem A6K{M:Mem}{ρ:Nat→Place}{s:St}{v:Value}{e:Ty}{l:(Ty.slice e).den}{ob:MObj}(h:ArgIs M ρ s v (.one (.d (.slice e) l),ob)):∃ ao cap,v=.slice ao (List.length l) cap:=by
  obtain ⟨cs,⟨v2,hcs,ao,cap,hv,_⟩,e1⟩:=h.rel
  exact ⟨ao,cap,by rw [e1,hcs,← hv]; simp [C8,Ty.isAgg]⟩
theorem A8L{M:Mem}{ρ:Nat→Place}{s:St}{v:Value}{i:Nat}{l:List (List Step)}{ob:MObj}(h:ArgIs M ρ s v (.one (.ps i l),ob)):∃ ao cap,v=.slice ao l.length cap:=by
  obtain ⟨b,cap,_,_,_,hv,_⟩:=h.rel
  exact ⟨_,cap,hv⟩
theorem A7y{M:Mem}{ρ:Nat→Place}{s:St}{v:Value}{i:Nat}{e:Ty}{tid:Nat}{l:List e.den}(h:ArgIs M ρ s v (.one (.own i),.sl e tid l)):∃ ao cap,v=.slice ao l.length cap:=by
  obtain ⟨e2,t2,l2,h1,h2⟩:=h.rel
  have h3:=h.obj i rfl
  rw [h1] at h3; cases h3
  cases hr:ρ i with
  | no=>exact ⟨none,0,by rw [h2,hr]; rfl⟩
  | «at» b cap=>exact ⟨_,cap,by rw [h2,hr]; rfl⟩
end
end Go.Eng
