/- A machine for A48 runs, part A. Nothing of a program stands here. -/
import Derived.Test.YtppoifpabafdlaaGreatEngD
import Derived.Laws.CopyRow
import Derived.Laws.Append
import Derived.Laws.BytesString
import Derived.MapKept
import Derived.Carry
set_option linter.unusedVariables false
set_option linter.unusedSimpArgs false
namespace Go.Vm
open Go.Eng
noncomputable section
inductive Tr (α:Type) where
  | e
  | n (l:Tr α) (x:Option α) (r:Tr α)
def Tr.get0{α:Type}(t:Tr α):Nat→Option α :=
  Tr.rec (motive:=fun _=>Nat→Option α) (fun _=>none)
    (fun _ x _ gl gr i=>Nat.rec (motive:=fun _=>Option α) x (fun j _=>Bool.rec (motive:=fun _=>Option α) (gl (Nat.div j 2)) (gr (Nat.div j 2)) (Nat.beq (Nat.mod j 2) 1)) i) t
def Tr.single{α:Type}(d:Nat):Nat→α→Tr α :=
  Nat.rec (motive:=fun _=>Nat→α→Tr α) (fun _ _=>.e) (fun _ ih i y=>Nat.rec (motive:=fun _=>Tr α) (.n .e (some y) .e)
    (fun j _=>Bool.rec (motive:=fun _=>Tr α) (.n (ih (Nat.div j 2) y) none .e) (.n .e none (ih (Nat.div j 2) y)) (Nat.beq (Nat.mod j 2) 1)) i) d
def Tr.set0{α:Type}(t:Tr α):Nat→α→Tr α :=
  Tr.rec (motive:=fun _=>Nat→α→Tr α) (fun i y=>single 24 i y)
    (fun l x r sl sr i y=>Nat.rec (motive:=fun _=>Tr α) (.n l (some y) r) (fun j _=>Bool.rec (motive:=fun _=>Tr α) (.n (sl (Nat.div j 2) y) x r) (.n l x (sr (Nat.div j 2) y)) (Nat.beq (Nat.mod j 2) 1)) i) t
def Tr.get{α:Type}(_d:Nat)(t:Tr α)(i:Nat):Option α:=t.get0 i
def Tr.set{α:Type}(_d:Nat)(t:Tr α)(i:Nat)(y:α):Option (Tr α):=bif Nat.blt i 8388608 then some (t.set0 i y) else none
def Tr.all{α:Type}:Nat→Tr α→(Nat→α→Bool)→Bool
  | 0,t,_=>match t with | .e=>true | _=>false
  | _+1,.e,_=>true
  | d+1,.n l x r,f=>(match x with | some y=>f 0 y | none=>true) && (all d l (fun j=>f (2*j+1)) && all d r fun j=>f (2*j+2))
theorem Tr.get0_zero{α:Type}(l r:Tr α)(x:Option α):(Tr.n l x r).get0 0=x:=rfl
theorem Tr.get0_succ{α:Type}(l r:Tr α)(x:Option α)(j:Nat):(Tr.n l x r).get0 (j+1)=if j % 2=1 then r.get0 (j / 2) else l.get0 (j / 2):=by
  show Bool.rec (motive:=fun _=>Option α) (l.get0 (j / 2)) (r.get0 (j / 2)) (Nat.beq (j % 2) 1)=_
  cases h:Nat.beq (j % 2) 1
  · rw [if_neg (fun e=>by rw [e] at h; cases h)]
  · rw [if_pos (Nat.eq_of_beq_eq_true h)]
theorem Tr.set0_zero{α:Type}(l r:Tr α)(x:Option α)(y:α):(Tr.n l x r).set0 0 y=.n l (some y) r:=rfl
theorem Tr.set0_succ{α:Type}(l r:Tr α)(x:Option α)(j:Nat)(y:α):(Tr.n l x r).set0 (j+1) y=if j % 2=1 then .n l x (r.set0 (j / 2) y) else .n (l.set0 (j / 2) y) x r:=by
  show Bool.rec (motive:=fun _=>Tr α) (.n (l.set0 (j / 2) y) x r) (.n l x (r.set0 (j / 2) y)) (Nat.beq (j % 2) 1)=_
  cases h:Nat.beq (j % 2) 1
  · rw [if_neg (fun e=>by rw [e] at h; cases h)]
  · rw [if_pos (Nat.eq_of_beq_eq_true h)]
theorem Tr.single_succ{α:Type}(d j:Nat)(y:α):Tr.single (d+1) (j+1) y=if j % 2=1 then .n .e none (Tr.single d (j / 2) y) else .n (Tr.single d (j / 2) y) none .e:=by
  show Bool.rec (motive:=fun _=>Tr α) (.n (Tr.single d (j / 2) y) none .e) (.n .e none (Tr.single d (j / 2) y)) (Nat.beq (j % 2) 1)=_
  cases h:Nat.beq (j % 2) 1
  · rw [if_neg (fun e=>by rw [e] at h; cases h)]
  · rw [if_pos (Nat.eq_of_beq_eq_true h)]
theorem Tr.all_get{α:Type}:∀ {d:Nat} {t:Tr α} {f:Nat→α→Bool},t.all d f=true→∀ {i:Nat} {x:α},t.get0 i=some x→f i x=true
  | 0,.e,_,_,_,_,h=>by cases h
  | 0,.n _ _ _,_,ha,_,_,_=>by cases ha
  | _+1,.e,_,_,_,_,h=>by cases h
  | d+1,.n l y r,f,ha,i,x,h=>by
    simp only [all,Bool.and_eq_true] at ha
    obtain ⟨h0,hl,hr⟩:=ha
    cases i with
    | zero =>
      rw [get0_zero] at h
      rw [h] at h0
      exact h0
    | succ j =>
      rw [get0_succ] at h
      split at h
      · rename_i hj
        have:=all_get hr h
        rwa [show 2*(j / 2)+2=j+1 by omega] at this
      · rename_i hj
        have:=all_get hl h
        rwa [show 2*(j / 2)+1=j+1 by omega] at this
theorem Tr.get_single{α:Type}:∀ {d i:Nat} {y:α},i+1 < 2 ^ d→∀ j,(Tr.single d i y).get0 j=if j=i then some y else none
  | 0,i,y,h,j=>by simp at h
  | d+1,0,y,_,j=>by
    show(Tr.n .e (some y) .e).get0 j=_
    cases j with
    | zero=>rfl
    | succ j=>rw [get0_succ,if_neg (by omega:¬ j+1=0)]; split <;> rfl
  | d+1,i+1,y,h,j=>by
    rw [Nat.pow_succ] at h
    have ih:=get_single (d:=d) (i:=i / 2) (y:=y) (by have:2 ^ d*2=2*2 ^ d:=Nat.mul_comm _ _; omega)
    rw [single_succ]
    split <;> rename_i hi
    · cases j with
      | zero=>rw [get0_zero,if_neg (by omega)]
      | succ j =>
        rw [get0_succ]
        split <;> rename_i hj
        · rw [ih]
          by_cases e:j=i
          · rw [e,if_pos rfl,if_pos rfl]
          · rw [if_neg (by omega),if_neg (by omega)]
        · rw [if_neg (by omega)]; rfl
    · cases j with
      | zero=>rw [get0_zero,if_neg (by omega)]
      | succ j =>
        rw [get0_succ]
        split <;> rename_i hj
        · rw [if_neg (by omega)]; rfl
        · rw [ih]
          by_cases e:j=i
          · rw [e,if_pos rfl,if_pos rfl]
          · rw [if_neg (by omega),if_neg (by omega)]
theorem Tr.get_set0{α:Type}:∀ {t:Tr α} {i:Nat} {y:α},i < 8388608→∀ j,(t.set0 i y).get0 j=if j=i then some y else t.get0 j
  | .e,i,y,h,j=>by
    show(Tr.single 24 i y).get0 j=_
    rw [get_single (by omega)]
    rfl
  | .n l x r,0,y,_,j=>by
    rw [set0_zero]
    cases j with
    | zero=>rfl
    | succ j=>rw [get0_succ,get0_succ,if_neg (by omega:¬ j+1=0)]
  | .n l x r,i+1,y,h,j=>by
    rw [set0_succ]
    split <;> rename_i hi
    · cases j with
      | zero=>rw [get0_zero,get0_zero,if_neg (by omega)]
      | succ j =>
        rw [get0_succ,get0_succ]
        split <;> rename_i hj
        · rw [get_set0 (by omega)]
          by_cases e:j=i
          · rw [e,if_pos rfl,if_pos rfl]
          · rw [if_neg (by omega),if_neg (by omega)]
        · rw [if_neg (by omega)]
    · cases j with
      | zero=>rw [get0_zero,get0_zero,if_neg (by omega)]
      | succ j =>
        rw [get0_succ,get0_succ]
        split <;> rename_i hj
        · rw [if_neg (by omega)]
        · rw [get_set0 (by omega)]
          by_cases e:j=i
          · rw [e,if_pos rfl,if_pos rfl]
          · rw [if_neg (by omega),if_neg (by omega)]
theorem Tr.get_set{α:Type}{d:Nat}{t t':Tr α}{i:Nat}{y:α}(h:t.set d i y=some t')(j:Nat):t'.get d j=if j=i then some y else t.get d j:=by
  unfold set at h
  cases hb:Nat.blt i 8388608 <;> rw [hb] at h <;> simp only [cond_true,cond_false,reduceCtorEq] at h
  cases h
  exact get_set0 (Nat.le_of_ble_eq_true hb) j
inductive VK where
  | int (k:IntKind) | bool | str | slice (e:Nat) | arr (n e:Nat) | struct (fs:List (Nat×Nat)) | ptr (e:Nat) | map (k e:Nat) | other
structure VTy where
  agg:Bool
  sz:Nat
  bytes:Nat
  zero:List Value
  k:VK
  cmp:Option Ty
inductive VC where
  | v (x:Value)
  | ptr (id off:Nat)
  | sl (id off len esz:Nat)
  | ne
  | clo (f:Nat) (ids:List Nat)
  | mp (id:Nat)
  | yl (id:Nat)
structure VR where
  agg:Bool
  cs:List VC
inductive VV where
  | r (x:VR)
  | tup (xs:List VR)
  | und
inductive VO where
  | gone
  | row (cs:List VC)
  | map (es:List (VC×VC))
  | loop (env:Tr VV) (n:Nat) (ps:List Nat) (assign body:Code) (dfr:Nat) (busy:Bool)
  | dfr
structure VH where
  t:Tr VO
  nxt:Nat
def D:Nat:=24
def VH.obj(h:VH)(id:Nat):VO:=match h.t.get D id with | some o=>o | none=>.gone
def VH.put(h:VH)(id:Nat)(o:VO):Option VH:=match h.t.set D id o with | some t=>some ⟨t,h.nxt⟩ | none=>none
def VH.new(h:VH)(o:VO):Option (Nat×VH):=match h.t.set D h.nxt o with | some t=>some (h.nxt,⟨t,h.nxt+1⟩) | none=>none
def C0x:Value→Bool
  | .agg _ | .tuple _=>false
  | _=>true
def one(c:VC):VV:=.r ⟨false,[c]⟩
def A8I(k:IntKind)(n:Int):VV:=one (.v (.int k n))
def A4Y(b:Bool):VV:=one (.v (.bool b))
def Y5{α:Type}(n:Int)(K:Int→α):α :=
  match n with
  | .ofNat 0=>K (.ofNat 0)
  | .ofNat (m+1)=>K (.ofNat (m+1))
  | .negSucc 0=>K (.negSucc 0)
  | .negSucc (m+1)=>K (.negSucc (m+1))
theorem S4{α:Type}(n:Int)(K:Int→α):Y5 n K=K n:=by
  cases n with
  | ofNat m=>cases m <;> rfl
  | negSucc m=>cases m <;> rfl
def A3l{α:Type}(b:Bool)(K:Bool→α):α:=match b with | true=>K true | false=>K false
theorem A5q{α:Type}(b:Bool)(K:Bool→α):A3l b K=K b:=by cases b <;> rfl
def A3m{α:Type}(n:Nat)(K:Nat→α):α:=match n with | 0=>K 0 | m+1=>K (m+1)
theorem A1i{α:Type}(n:Nat)(K:Nat→α):A3m n K=K n:=by cases n <;> rfl
def B6f:Value→Option VV
  | .agg cs=>bif cs.toList.all C0x then some (.r ⟨true,cs.toList.map .v⟩) else none
  | .tuple _=>none
  | x=>some (one (.v x))
def K5(env:Tr VV):Operand→Option VV
  | .tmp t=>match env.get D t with | some x=>some x | none=>some .und
  | .const v=>B6f v
  | .global _=>none
  | .func f=>some (one (.clo f []))
def bin(op:BinOp)(k:IntKind)(x y:Int):Option VV :=
  match op with
  | .add=>Y5 (D5 k x y) fun n=>some (A8I k n)
  | .sub=>Y5 (I5 k x y) fun n=>some (A8I k n)
  | .mul=>Y5 (A2H k x y) fun n=>some (A8I k n)
  | .quo=>bif eqI y 0 then none else Y5 (A4L k x y) fun n=>some (A8I k n)
  | .rem=>bif eqI y 0 then none else Y5 (A3j x y) fun n=>some (A8I k n)
  | .and=>Y5 (A6I k x y) fun n=>some (A8I k n)
  | .or=>Y5 (orI k x y) fun n=>some (A8I k n)
  | .xor=>Y5 (B2d k x y) fun n=>some (A8I k n)
  | .andNot=>Y5 (B4A k x y) fun n=>some (A8I k n)
  | .eql=>A3l (eqI x y) fun b=>some (A4Y b)
  | .neq=>A3l (!eqI x y) fun b=>some (A4Y b)
  | .lss=>A3l (ltI x y) fun b=>some (A4Y b)
  | .leq=>A3l (leI x y) fun b=>some (A4Y b)
  | .gtr=>A3l (ltI y x) fun b=>some (A4Y b)
  | .geq=>A3l (leI y x) fun b=>some (A4Y b)
  | _=>none
def row(T:Tr VTy)(t:Nat):Option VTy:=T.get 10 t
def A9(h:VH)(id off n:Nat):Option (List VC) :=
  match h.obj id with
  | .row cs=>bif Nat.ble (off+n) cs.length then some ((cs.drop off).take n) else none
  | _=>none
def B2Y(cs:List VC)(off:Nat)(new:List VC):List VC:=cs.take off++(new++cs.drop (off+new.length))
def C0y(T:Tr VTy)(h:VH)(t:Nat)(x:VV):Option VV :=
  match row T t,x with
  | some r,.r ⟨false,[.ptr id off]⟩=>match A9 h id off r.sz with
    | some cs=>bif r.agg || Nat.beq r.sz 1 then some (.r ⟨r.agg,cs⟩) else none
    | none=>none
  | _,_=>none
def C0z(T:Tr VTy)(h:VH)(t:Nat)(a v:VV):Option VH :=
  match row T t,a,v with
  | some r,.r ⟨false,[.ptr id off]⟩,.r ⟨_,cs⟩=>match h.obj id with
    | .row old=>bif Nat.beq cs.length r.sz && Nat.ble (off+r.sz) old.length then h.put id (.row (B2Y old off cs)) else none
    | _=>none
  | _,_,_=>none
def newRow(h:VH)(cs:List VC):Option (Nat×VH):=h.new (.row cs)
def B8V(place:Nat→Option (Nat×Nat)):List VC→List (Nat×VR)→Option (List VC)
  | cs,[]=>some cs
  | cs,(i,x)::l=>match place i with
    | some (off,sz)=>bif Nat.beq x.cs.length sz && Nat.ble (off+sz) cs.length then B8V place (B2Y cs off x.cs) l else none
    | none=>none
def A61(r:VTy):List VC:=r.zero.map .v
def B8W{α:Type}:Nat→List α→List α
  | 0,_=>[]
  | n+1,l=>l++B8W n l
def C7B(T:Tr VTy)(fs:List (Nat×Nat))(i:Nat):Option (Nat×Nat) :=
  match fs[i]? with
  | some (off,t)=>match row T t with
    | some r=>some (off,r.sz)
    | none=>none
  | none=>none
def B2Z(arg:Operand→Option VV):List (Nat×Operand)→Option (List (Nat×VR))
  | []=>some []
  | (i,x)::l=>match arg x,B2Z arg l with
    | some (.r y),some m=>some ((i,y)::m)
    | _,_=>none
def A7W(T:Tr VTy):List (Nat×Nat)→Bool
  | []=>true
  | (_,t)::l=>match row T t with
    | some _=>A7W T l
    | none=>false
def C0A(T:Tr VTy)(t:Nat)(ps:List (Nat×VR)):Option VV :=
  match row T t with
  | some r=>match r.k with
    | .struct fs=>bif A7W T fs then(match B8V (C7B T fs) (A61 r) ps with
      | some cs=>some (.r ⟨true,cs⟩)
      | none=>none) else none
    | .arr _ e=>match row T e with
      | some re=>match B8V (fun i=>some (i*re.sz,re.sz)) (A61 r) ps with
        | some cs=>some (.r ⟨true,cs⟩)
        | none=>none
      | none=>none
    | _=>none
  | none=>none
def A33(T:Tr VTy)(h:VH)(t n:Nat)(ps:List (Nat×VR)):Option (VV×VH) :=
  match row T t with
  | some r=>match r.k with
    | .slice e=>match row T e with
      | some re=>bif Nat.ble (n*re.sz) 16777216 && Nat.blt 0 re.sz then match B8V (fun i=>some (i*re.sz,re.sz)) (B8W n (A61 re)) ps with
        | some cs=>match newRow h cs with
          | some (id,h)=>some (one (.sl id 0 n re.sz),h)
          | none=>none
        | none=>none
        else none
      | none=>none
    | _=>none
  | none=>none
def B6g:List VV→Option (List Nat)
  | []=>some []
  | .r ⟨false,[.ptr id 0]⟩::l=>match B6g l with
    | some m=>some (id::m)
    | none=>none
  | _=>none
def B5l(arg:Operand→Option VV):List Operand→Option (List VV)
  | []=>some []
  | x::l=>match arg x,B5l arg l with
    | some y,some m=>some (y::m)
    | _,_=>none
structure SV where
  id:Nat
  off:Nat
  len:Nat
  esz:Nat
def B30(arg:Operand→Option VV):Option Operand→Option (Option Int)
  | none=>some none
  | some x=>match arg x with
    | some (.r ⟨false,[.v (.int _ n)]⟩)=>some (some n)
    | _=>none
def D4H(T:Tr VTy)(t:Nat)(x:VV)(lo hi mx:Option Int):Option VV :=
  match row T t with
  | some r=>match r.k,x,mx with
    | .slice e,.r ⟨false,[.sl id off len esz]⟩,none=>match row T e with
      | some re=>bif Nat.beq re.sz esz && (leI 0 (lo.getD 0) && (leI (lo.getD 0) (hi.getD len) && leI (hi.getD len) len)) then
          A3m (lo.getD 0).toNat fun a=>A3m ((hi.getD len).toNat - a) fun n=>A3m (off+a*esz) fun o=>some (one (.sl id o n esz)) else none
      | none=>none
    | .slice e,.r ⟨false,[.sl _ _ _ _]⟩,some m=>match row T e with
      | some _=>bif eqI m 0 && (eqI (lo.getD 0) 0 && eqI (hi.getD 1) 0) then some (one .ne) else none
      | none=>none
    | .slice e,.r ⟨false,[.v (.slice none 0 0)]⟩,none=>match row T e with
      | some _=>bif eqI (lo.getD 0) 0 && eqI (hi.getD 0) 0 then some (one (.v (.slice none 0 0))) else none
      | none=>none
    | .slice e,.r ⟨false,[.v (.slice none 0 0)]⟩,some m=>match row T e with
      | some _=>bif eqI m 0 && (eqI (lo.getD 0) 0 && eqI (hi.getD 1) 0) then some (one (.v (.slice none 0 0))) else none
      | none=>none
    | _,_,_=>none
  | none=>none
def D4I(T:Tr VTy)(h:VH)(t:Nat)(x:VV)(lo hi mx:Option Int):Option VV :=
  match row T t with
  | some r=>match r.k,x,mx with
    | .arr n e,.r ⟨false,[.ptr id off]⟩,none=>match row T e,h.obj id with
      | some re,.row cs=>bif(leI 0 (lo.getD 0) && (leI (lo.getD 0) (hi.getD n) && leI (hi.getD n) n)) && (Nat.ble (off+n*re.sz) cs.length && (Nat.blt 0 re.sz && Nat.ble n 281474976710656)) then
          A3m (lo.getD 0).toNat fun a=>A3m ((hi.getD n).toNat - a) fun m=>A3m (off+a*re.sz) fun o=>some (one (.sl id o m re.sz)) else none
      | _,_=>none
    | _,_,_=>none
  | none=>none
def A62(T:Tr VTy)(t:Nat)(x:VV)(f:Nat):Option VV :=
  match row T t,x with
  | some r,.r ⟨false,[.ptr id off]⟩=>match r.k with
    | .struct fs=>match fs[f]? with
      | some (o,ft)=>match row T ft with
        | some rf=>bif Nat.beq rf.sz 0 then none else A3m (off+o) fun q=>some (one (.ptr id q))
        | none=>none
      | none=>none
    | _=>none
  | _,_=>none
def C0B(T:Tr VTy)(t:Nat)(x:VV)(f:Nat):Option VV :=
  match row T t,x with
  | some r,.r ⟨true,cs⟩=>match r.k with
    | .struct fs=>match fs[f]? with
      | some (o,ft)=>match row T ft with
        | some rf=>bif Nat.ble (o+rf.sz) cs.length && (rf.agg || Nat.beq rf.sz 1) then some (.r ⟨rf.agg,(cs.drop o).take rf.sz⟩) else none
        | none=>none
      | none=>none
    | _=>none
  | _,_=>none
def A63(T:Tr VTy)(t:Nat)(x i:VV):Option VV :=
  match row T t,i with
  | some r,.r ⟨false,[.v (.int _ n)]⟩=>match r.k,x with
    | .slice e,.r ⟨false,[.sl id off len esz]⟩=>match row T e with
      | some re=>bif Nat.beq re.sz esz && (leI 0 n && ltI n len) then A3m (off+n.toNat*esz) fun q=>some (one (.ptr id q)) else none
      | none=>none
    | .arr m e,.r ⟨false,[.ptr id off]⟩=>match row T e with
      | some re=>bif leI 0 n && ltI n m then A3m (off+n.toNat*re.sz) fun q=>some (one (.ptr id q)) else none
      | none=>none
    | _,_=>none
  | _,_=>none
def C0C(T:Tr VTy)(t:Nat)(x i:VV):Option VV :=
  match row T t,i with
  | some r,.r ⟨false,[.v (.int _ n)]⟩=>match r.k,x with
    | .arr m e,.r ⟨true,cs⟩=>match row T e with
      | some re=>bif(leI 0 n && ltI n m) && (Nat.ble (n.toNat*re.sz+re.sz) cs.length && (re.agg || Nat.beq re.sz 1)) then some (.r ⟨re.agg,(cs.drop (n.toNat*re.sz)).take re.sz⟩) else none
      | none=>none
    | _,_=>none
  | _,_=>none
def D4b:VC→Option Nat
  | .sl _ _ n _=>some n
  | .ne=>some 0
  | .v (.slice none 0 0)=>some 0
  | _=>none
def D4c(h:VH)(esz:Nat):VC→Option (Nat×List VC)
  | .sl id off n e=>bif Nat.beq e esz then(match A9 h id off (n*esz) with
    | some cs=>some (n,cs)
    | none=>none) else none
  | .ne=>some (0,[])
  | .v (.slice none 0 0)=>some (0,[])
  | _=>none
def B5m(T:Tr VTy)(h:VH)(ts:List Nat)(s x:VV):Option (VV×VH) :=
  match ts,s,x with
  | [t,t'],.r ⟨false,[s]⟩,.r ⟨false,[x]⟩=>match row T t,row T t' with
    | some r,some r'=>match r.k,r'.k with
      | .slice e,.slice _=>match row T e with
        | some re=>match D4c h re.sz x with
          | some (n,new)=>bif Nat.blt 0 re.sz then
              (bif Nat.beq n 0 then(match D4b s with
              | some _=>some (one s,h)
              | none=>none) else match s with
              | .v (.slice none 0 0)=>bif Nat.ble (n*re.bytes) 140737488355328 && Nat.ble n 281474976710656 then(match newRow h new with
                | some (id,h)=>some (one (.sl id 0 n re.sz),h)
                | none=>none) else none
              | .ne=>bif Nat.ble (n*re.bytes) 140737488355328 && Nat.ble n 281474976710656 then(match newRow h new with
                | some (id,h)=>some (one (.sl id 0 n re.sz),h)
                | none=>none) else none
              | .sl id 0 len esz=>match h.obj id with
                | .row cs=>bif Nat.beq esz re.sz && (Nat.beq cs.length (len*re.sz) && (Nat.ble ((len+n)*re.bytes) 140737488355328 && Nat.ble (len+n) 281474976710656)) then
                    match h.put id .gone with
                    | some h=>A3m (len+n) fun q=>match newRow h (cs++new) with
                      | some (id,h)=>some (one (.sl id 0 q re.sz),h)
                      | none=>none
                    | none=>none
                  else none
                | _=>none
              | _=>none) else none
          | none=>none
        | none=>none
      | _,_=>none
    | _,_=>none
  | _,_,_=>none
def C7C(T:Tr VTy)(h:VH)(ts:List Nat)(d x:VC):Option (VV×VH) :=
  match ts,d with
  | [t,_],.sl id off len esz=>match row T t with
    | some r=>match r.k with
      | .slice e=>match row T e with
        | some re=>match D4c h re.sz x,h.obj id with
          | some (n,new),.row old=>bif Nat.beq esz re.sz && (Nat.blt 0 re.sz && Nat.ble (off+len*esz) old.length) then
              match h.put id (.row (B2Y old off (new.take (Nat.min n len*re.sz)))) with
              | some h=>Y5 ((Nat.min n len:Nat):Int) fun q=>some (A8I .i64 q,h)
              | none=>none
            else none
          | _,_=>none
        | none=>none
      | _=>none
    | none=>none
  | _,_=>none
def A6Y(T:Tr VTy)(h:VH)(b:Builtin)(ts:List Nat)(args:List VV):Option (VV×VH) :=
  match b,args with
  | .len,[.r ⟨false,[c]⟩]=>match ts with
    | [t]=>match row T t with
      | some r=>match r.k,c with
        | .slice _,c=>match D4b c with
          | some n=>Y5 (n:Int) fun n=>some (A8I .i64 n,h)
          | none=>none
        | .str,.v (.string s)=>Y5 (s.size:Int) fun n=>some (A8I .i64 n,h)
        | _,_=>none
      | none=>none
    | _=>none
  | .append,[s,x]=>B5m T h ts s x
  | .copy,[.r ⟨false,[d]⟩,.r ⟨false,[x]⟩]=>C7C T h ts d x
  | .min,[.r ⟨false,[.v (.int k x)]⟩,.r ⟨false,[.v (.int k' y)]⟩]=>if k=k' then Y5 (A3u x y) fun n=>some (A8I k n,h) else none
  | .max,[.r ⟨false,[.v (.int k x)]⟩,.r ⟨false,[.v (.int k' y)]⟩]=>if k=k' then Y5 (B2b x y) fun n=>some (A8I k n,h) else none
  | _,_=>none
def eqZ:Value→Value→Bool
  | .bool a,.bool b=>a == b
  | .int k n,.int j m=>decide (k=j) && decide (n=m)
  | .string a,.string b=>a.data.toList.isEmpty && b.data.toList.isEmpty
  | .pointer none,.pointer none=>true
  | .slice none 0 0,.slice none 0 0=>true
  | .map none,.map none=>true
  | .nilFunc,.nilFunc=>true
  | .nilIface,.nilIface=>true
  | _,_=>false
def D4d:List Nat→List Nat→Bool
  | [],[]=>true
  | a::l,b::m=>Nat.beq a b && D4d l m
  | _,_=>false
def D4J:VC→VC→Bool
  | .v a,.v b=>eqZ a b
  | .ptr a b,.ptr c d=>Nat.beq a c && Nat.beq b d
  | .sl a b c d,.sl e f g h=>Nat.beq a e && (Nat.beq b f && (Nat.beq c g && Nat.beq d h))
  | .ne,.ne=>true
  | .clo f ids,.clo g js=>Nat.beq f g && D4d ids js
  | .mp a,.mp b=>Nat.beq a b
  | .yl a,.yl b=>Nat.beq a b
  | _,_=>false
def C7D:List VC→List VC→Bool
  | [],[]=>true
  | a::l,b::m=>D4J a b && C7D l m
  | _,_=>false
def rdN{α:Type}(f:List VC→Option (α×List VC)):Nat→List VC→Option (List α×List VC)
  | 0,l=>some ([],l)
  | n+1,l=>match f l with
    | some (x,l)=>match rdN f n l with
      | some (xs,l)=>some (x::xs,l)
      | none=>none
    | none=>none
def rdI(k:IntKind):List VC→Option (Int×List VC)
  | .v (.int j n)::l=>bif decide (j=k) then some (n,l) else none
  | _=>none
def rdB:List VC→Option (Bool×List VC)
  | .v (.bool b)::l=>some (b,l)
  | _=>none
def rdT:(t:Ty)→List VC→Option (t.den×List VC)
  | .int k,l=>rdI k l
  | .bool,l=>rdB l
  | .unit,l=>some ((),l)
  | .pair a b,l=>match rdT a l with
    | some (x,l)=>match rdT b l with
      | some (y,l)=>some ((x,y),l)
      | none=>none
    | none=>none
  | .arr n t,l=>rdN (rdT t) n l
  | _,_=>none
def D8D(T:Tr VTy)(t:Nat)(a b:List VC):Option Bool:=match row T t with
  | some r=>match r.cmp with
    | some ty=>match rdT ty a,rdT ty b with
      | some (x,[]),some (y,[])=>some (eqT ty x y)
      | _,_=>none
    | none=>none
  | none=>none
def B5n(T:Tr VTy)(t:Nat):Bool:=match row T t with
  | some r=>(match r.k with | .bool=>true | _=>false)
  | none=>false
def A2e(T:Tr VTy)(t:Nat):Bool:=match row T t with
  | some r=>(match r.k with | .slice _=>true | _=>false)
  | none=>false
def A9n(T:Tr VTy)(t:Nat):Bool:=match row T t with
  | some r=>(match r.k with | .ptr _=>true | _=>false)
  | none=>false
def C3E(op:BinOp)(b:Bool):Option VV:=match op with
  | .eql=>A3l b fun c=>some (A4Y c)
  | .neq=>A3l (!b) fun c=>some (A4Y c)
  | _=>none
def C48(T:Tr VTy)(t:Nat)(op:BinOp)(x y:VV):Option VV :=
  match x,y with
  | .r ⟨false,[.v (.int k m)]⟩,.r ⟨false,[.v (.int k' n)]⟩=>match op with
    | .shl=>bif ltI n 0 then none else Y5 (A2v k m n) fun n=>some (A8I k n)
    | .shr=>bif ltI n 0 then none else Y5 (A0q k m n) fun n=>some (A8I k n)
    | op=>if k=k' then bin op k m n else none
  | .r ⟨false,[.v (.bool a)]⟩,.r ⟨false,[.v (.bool b)]⟩=>bif B5n T t then C3E op (a == b) else none
  | .r ⟨false,[.v (.string a)]⟩,.r ⟨false,[.v (.string b)]⟩=>C3E op (a.data.toList == b.data.toList)
  | .r ⟨true,a⟩,.r ⟨true,b⟩=>match D8D T t a b with
    | some c=>C3E op c
    | none=>none
  | .r ⟨false,[.sl _ _ _ _]⟩,.r ⟨false,[.v (.slice none 0 0)]⟩=>bif A2e T t then C3E op false else none
  | .r ⟨false,[.ne]⟩,.r ⟨false,[.v (.slice none 0 0)]⟩=>bif A2e T t then C3E op false else none
  | .r ⟨false,[.v (.slice none 0 0)]⟩,.r ⟨false,[.v (.slice none 0 0)]⟩=>bif A2e T t then C3E op true else none
  | .r ⟨false,[.ptr _ _]⟩,.r ⟨false,[.v (.pointer none)]⟩=>bif A9n T t then C3E op false else none
  | .r ⟨false,[.v (.pointer none)]⟩,.r ⟨false,[.v (.pointer none)]⟩=>bif A9n T t then C3E op true else none
  | _,_=>none
def VV.cell{β:Type}(x:VV)(K:VC→β)(z:β):β :=
  VV.rec (motive:=fun _=>β) (fun r=>VR.rec (motive:=fun _=>β) (fun a cs=>Bool.rec (motive:=fun _=>β) (List.rec (motive:=fun _=>β) z (fun c l _=>List.rec (motive:=fun _=>β) (K c) (fun _ _ _=>z) l) cs) z a) r) (fun _=>z) z x
def VC.val{β:Type}(c:VC)(K:Value→β)(z:β):β:=match c with | .v x=>K x | _=>z
def D0P{β:Type}(x:Value)(K:IntKind→Int→β)(z:β):β:=match x with | .int k n=>K k n | _=>z
def kn(k:IntKind):Nat:=IntKind.rec (motive:=fun _=>Nat) 0 1 2 3 4 5 6 7 k
theorem D4K{j k:IntKind}:Nat.beq (kn j) (kn k)=decide (j=k):=by cases j <;> cases k <;> rfl
def rI(k:IntKind)(n:Int):Option VV:=Y5 n fun n=>some (A8I k n)
def rB(b:Bool):Option VV:=A3l b fun b=>some (A4Y b)
def D9z(k:IntKind)(x y:Int):=rI k (D5 k x y)
def D9A(k:IntKind)(x y:Int):=rI k (I5 k x y)
def D9B(k:IntKind)(x y:Int):=rI k (A2H k x y)
def D9C(k:IntKind)(x y:Int):Option VV:=bif eqI y 0 then none else rI k (A4L k x y)
def D9D(k:IntKind)(x y:Int):Option VV:=bif eqI y 0 then none else rI k (A3j x y)
def D9E(k:IntKind)(x y:Int):=rI k (A6I k x y)
def bOr(k:IntKind)(x y:Int):=rI k (orI k x y)
def D9F(k:IntKind)(x y:Int):=rI k (B2d k x y)
def C7E(k:IntKind)(x y:Int):=rI k (B4A k x y)
def bEq(_k:IntKind)(x y:Int):=rB (eqI x y)
def bNe(_k:IntKind)(x y:Int):=rB (!eqI x y)
def bLt(_k:IntKind)(x y:Int):=rB (ltI x y)
def bLe(_k:IntKind)(x y:Int):=rB (leI x y)
def bGt(_k:IntKind)(x y:Int):=rB (ltI y x)
def bGe(_k:IntKind)(x y:Int):=rB (leI y x)
def bNo(_k:IntKind)(_x _y:Int):Option VV:=none
def D8E(op:BinOp):IntKind→Int→Int→Option VV:=match op with
  | .add=>D9z | .sub=>D9A | .mul=>D9B | .quo=>D9C | .rem=>D9D | .and=>D9E | .or=>bOr | .xor=>D9F | .andNot=>C7E
  | .eql=>bEq | .neq=>bNe | .lss=>bLt | .leq=>bLe | .gtr=>bGt | .geq=>bGe | _=>bNo
theorem C7F(op:BinOp)(k:IntKind)(x y:Int):D8E op k x y=bin op k x y:=by cases op <;> rfl
def D9G(k:IntKind)(m n:Int):Option VV:=bif ltI n 0 then none else rI k (A2v k m n)
def D9H(k:IntKind)(m n:Int):Option VV:=bif ltI n 0 then none else rI k (A0q k m n)
def D4L(op:BinOp)(k:IntKind)(m:Int)(k':IntKind)(n:Int):Option VV:=bif Nat.beq (kn k) (kn k') then D8E op k m n else none
def D0Q(op:BinOp):IntKind→Int→IntKind→Int→Option VV:=match op with
  | .shl=>fun k m _ n=>D9G k m n
  | .shr=>fun k m _ n=>D9H k m n
  | op=>D4L op
def C7G(T:Tr VTy)(t:Nat)(op:BinOp)(x y:VV):Option VV :=
  x.cell (fun c=>c.val (fun a=>D0P a (fun k m=>y.cell (fun d=>d.val (fun b=>D0P b (fun k' n=>D0Q op k m k' n) none) none) none) (C48 T t op x y)) (C48 T t op x y)) (C48 T t op x y)
theorem C7H(T:Tr VTy)(t:Nat)(op:BinOp)(x y:VV):C7G T t op x y=C48 T t op x y:=by
  rcases x with ⟨⟨xa,xs⟩⟩ | xs | _
  · cases xa
    · rcases xs with _ | ⟨c,_ | ⟨c2,l⟩⟩
      · rfl
      · cases c with
        | v a =>
          cases a with
          | int k m =>
            rcases y with ⟨⟨ya,ys⟩⟩ | ys | _
            · cases ya
              · rcases ys with _ | ⟨d,_ | ⟨d2,l⟩⟩
                · rfl
                · cases d with
                  | v b =>
                    cases b with
                    | int k' n =>
                      show D0Q op k m k' n=C48 T t op (.r ⟨false,[.v (.int k m)]⟩) (.r ⟨false,[.v (.int k' n)]⟩)
                      have hs:D4L op k m k' n=if k=k' then bin op k m n else none:=by
                        unfold D4L
                        rw [D4K,C7F]
                        by_cases h:k=k'
                        · rw [if_pos h,decide_eq_true h]; rfl
                        · rw [if_neg h,decide_eq_false h]; rfl
                      cases op <;> first | rfl | exact hs
                    | _=>rfl
                  | _=>rfl
                · show(none:Option VV)=C48 T t op _ _
                  unfold C48
                  split <;> simp_all
              · rfl
            · rfl
            · rfl
          | _=>rfl
        | _=>rfl
      · rfl
    · rfl
  · rfl
  · rfl
def unO(op:UnOp)(x:VV):Option VV :=
  match op,x with
  | .neg,.r ⟨false,[.v (.int k n)]⟩=>Y5 (I5 k 0 n) fun n=>some (A8I k n)
  | .xor,.r ⟨false,[.v (.int k n)]⟩=>Y5 (B2d k (if k.signed then -1 else k.max) n) fun n=>some (A8I k n)
  | .not,.r ⟨false,[.v (.bool b)]⟩=>A3l (!b) fun b=>some (A4Y b)
  | _,_=>none
def D0S:VO→Bool
  | .row _=>true
  | _=>false
def D0y(T:Tr VTy)(e:Nat):Bool:=match row T e with
  | some r=>(match r.k with | .int .u8=>true | _=>false)
  | none=>false
def C49:List VC→ByteArray→Option ByteArray
  | [],b=>some b
  | .v (.int .u8 n)::l,b=>C49 l (b.push (UInt8.ofNat n.toNat))
  | _,_=>none
def B0z(k:Int):List (VC×VC)→Option (Option VC)
  | []=>some none
  | (.v (.int .i64 n),x)::l=>bif eqI k n then some (some x) else B0z k l
  | _=>none
def A7X(T:Tr VTy)(t:Nat):Option VTy:=match row T t with
  | some r=>match r.k with
    | .map k e=>match row T k,row T e with
      | some rk,some re=>match rk.k with
        | .int .i64=>bif re.agg then none else some re
        | _=>none
      | _,_=>none
    | _=>none
  | none=>none
def B6h(k:Int)(x:VC):List (VC×VC)→Option (List (VC×VC))
  | []=>some [(.v (.int .i64 k),x)]
  | (.v (.int .i64 n),y)::l=>bif eqI k n then some ((.v (.int .i64 n),x)::l) else match B6h k x l with
    | some l=>some ((.v (.int .i64 n),y)::l)
    | none=>none
  | _=>none
def B5o(T:Tr VTy)(h:VH)(t:Nat)(m k:VV)(ok:Bool):Option VV :=
  match A7X T t,m,k with
  | some re,.r ⟨false,[.mp id]⟩,.r ⟨false,[.v (.int .i64 k)]⟩=>match h.obj id with
    | .map es=>match B0z k es,A61 re with
      | some (some x),_=>bif ok then some (.tup [⟨false,[x]⟩,⟨false,[.v (.bool true)]⟩]) else some (one x)
      | some none,[z]=>bif ok then some (.tup [⟨false,[z]⟩,⟨false,[.v (.bool false)]⟩]) else some (one z)
      | _,_=>none
    | _=>none
  | _,_,_=>none
def A64(T:Tr VTy)(h:VH)(t:Nat)(m k x:VV):Option VH :=
  match A7X T t,m,k,x with
  | some _,.r ⟨false,[.mp id]⟩,.r ⟨false,[.v (.int .i64 k)]⟩,.r ⟨false,[x]⟩=>match h.obj id with
    | .map es=>match B6h k x es with
      | some es=>h.put id (.map es)
      | none=>none
    | _=>none
  | _,_,_,_=>none
def B31(x:Operand)(T:Tr VTy)(arg:Operand→Option VV)(h:VH):Option (VV×VH) :=
  match arg x with
    | some v=>some (v,h)
    | none=>none
def C4a(c a b:Operand)(T:Tr VTy)(arg:Operand→Option VV)(h:VH):Option (VV×VH) :=
  match arg c with
    | some (.r ⟨false,[.v (.bool t)]⟩)=>bif t then(match arg a with
      | some v=>some (v,h)
      | none=>none) else(match arg b with
      | some v=>some (v,h)
      | none=>none)
    | _=>none
def B6i(e:Nat)(T:Tr VTy)(arg:Operand→Option VV)(h:VH):Option (VV×VH) :=
  match row T e with
    | some r=>match newRow h (A61 r) with
      | some (id,h)=>some (one (.ptr id 0),h)
      | none=>none
    | none=>none
def D4e(x:Operand)(T:Tr VTy)(arg:Operand→Option VV)(h:VH):Option (VV×VH) :=
  match arg x with
    | some (.r x)=>match newRow h x.cs with
      | some (id,h)=>some (one (.ptr id 0),h)
      | none=>none
    | _=>none
def B6j(t:Nat)(ps:Array (Nat×Operand))(T:Tr VTy)(arg:Operand→Option VV)(h:VH):Option (VV×VH) :=
  match B2Z arg ps.toList with
    | some ps=>match C0A T t ps with
      | some v=>some (v,h)
      | none=>none
    | none=>none
def A34(t n:Nat)(ps:Array (Nat×Operand))(T:Tr VTy)(arg:Operand→Option VV)(h:VH):Option (VV×VH) :=
  match B2Z arg ps.toList with
    | some ps=>A33 T h t n ps
    | none=>none
def C4b(t:Nat)(a:Operand)(T:Tr VTy)(arg:Operand→Option VV)(h:VH):Option (VV×VH) :=
  match arg a with
    | some a=>match C0y T h t a with
      | some v=>some (v,h)
      | none=>none
    | none=>none
def C0D(t:Nat)(a x:Operand)(T:Tr VTy)(arg:Operand→Option VV)(h:VH):Option (VV×VH) :=
  match arg a,arg x with
    | some a,some x=>match C0z T h t a x with
      | some h=>some (.und,h)
      | none=>none
    | _,_=>none
def D4f(x:Operand)(T:Tr VTy)(arg:Operand→Option VV)(h:VH):Option (VV×VH) :=
  match arg x with
    | some (.r ⟨false,[.ptr id off]⟩)=>some (one (.ptr id off),h)
    | some (.r ⟨false,[.clo f ids]⟩)=>some (one (.clo f ids),h)
    | some (.r ⟨false,[.yl l]⟩)=>some (one (.yl l),h)
    | some (.r ⟨false,[.v (.iface t x)]⟩)=>some (one (.v (.iface t x)),h)
    | _=>none
def D0T(o:BinOp)(t:Nat)(x y:Operand)(T:Tr VTy)(arg:Operand→Option VV)(h:VH):Option (VV×VH) :=
  match arg x,arg y with
    | some x,some y=>match C7G T t o x y with
      | some v=>some (v,h)
      | none=>none
    | _,_=>none
def oUn(o:UnOp)(x:Operand)(T:Tr VTy)(arg:Operand→Option VV)(h:VH):Option (VV×VH) :=
  match arg x with
    | some x=>match unO o x with
      | some v=>some (v,h)
      | none=>none
    | _=>none
def C4c(s d:Nat)(x:Operand)(T:Tr VTy)(arg:Operand→Option VV)(h:VH):Option (VV×VH) :=
  match row T s,row T d,arg x with
    | some r,some r',some (.r ⟨false,[.v (.int _ n)]⟩)=>match r.k,r'.k with
      | .int _,.int k=>Y5 (k.wrap n) fun n=>some (A8I k n,h)
      | _,_=>none
    | some r,some r',some (.r ⟨false,[.sl id off n esz]⟩)=>match r.k,r'.k with
      | .slice e,.slice _=>bif Nat.beq s d && (D0y T e && (Nat.blt 0 n && D0S (h.obj id))) then some (one (.sl id off n esz),h) else none
      | .slice e,.str=>bif D0y T e && Nat.beq esz 1 then match A9 h id off n with
        | some cs=>match C49 cs ByteArray.empty with
          | some b=>some (one (.v (.string b)),h)
          | none=>none
        | none=>none
        else none
      | _,_=>none
    | _,_,_=>none
def B6k(t:Nat)(x:Operand)(T:Tr VTy)(arg:Operand→Option VV)(h:VH):Option (VV×VH) :=
  match row T t,arg x with
    | some r,some (.r ⟨true,[]⟩)=>match r.k with
      | .struct _=>some (one (.v (.iface t (.agg #[]))),h)
      | _=>none
    | _,_=>none
def C7I(f:Nat)(first captured:Array Operand)(T:Tr VTy)(arg:Operand→Option VV)(h:VH):Option (VV×VH) :=
  bif first.isEmpty then match B5l arg captured.toList with
    | some l=>match B6g l with
      | some ids=>some (one (.clo f ids),h)
      | none=>none
    | none=>none
    else none
def A4g(t:Nat)(l c:Operand)(T:Tr VTy)(arg:Operand→Option VV)(h:VH):Option (VV×VH) :=
  match row T t,arg l,arg c with
    | some r,some (.r ⟨false,[.v (.int _ n)]⟩),some (.r ⟨false,[.v (.int _ m)]⟩)=>match r.k with
      | .slice e=>match row T e with
        | some re=>bif Y8 n m re.bytes && Nat.blt 0 re.sz then match newRow h (B8W n.toNat (A61 re)) with
          | some (id,h)=>A3m n.toNat fun q=>some (one (.sl id 0 q re.sz),h)
          | none=>none
          else none
        | none=>none
      | _=>none
    | _,_,_=>none
def B6l(t:Nat)(x:Operand)(lo hi mx:Option Operand)(T:Tr VTy)(arg:Operand→Option VV)(h:VH):Option (VV×VH) :=
  match arg x,B30 arg lo,B30 arg hi,B30 arg mx with
    | some x,some lo,some hi,some mx=>match D4H T t x lo hi mx with
      | some v=>some (v,h)
      | none=>match D4I T h t x lo hi mx with
        | some v=>some (v,h)
        | none=>none
    | _,_,_,_=>none
def A4h(t:Nat)(x:Operand)(f:Nat)(T:Tr VTy)(arg:Operand→Option VV)(h:VH):Option (VV×VH) :=
  match arg x with
    | some x=>match A62 T t x f with
      | some v=>some (v,h)
      | none=>none
    | none=>none
def B6m(t:Nat)(x:Operand)(f:Nat)(T:Tr VTy)(arg:Operand→Option VV)(h:VH):Option (VV×VH) :=
  match arg x with
    | some x=>match C0B T t x f with
      | some v=>some (v,h)
      | none=>none
    | none=>none
def A4i(t:Nat)(x i:Operand)(T:Tr VTy)(arg:Operand→Option VV)(h:VH):Option (VV×VH) :=
  match arg x,arg i with
    | some x,some i=>match A63 T t x i with
      | some v=>some (v,h)
      | none=>none
    | _,_=>none
def B6n(t:Nat)(x i:Operand)(T:Tr VTy)(arg:Operand→Option VV)(h:VH):Option (VV×VH) :=
  match arg x,arg i with
    | some x,some i=>match C0C T t x i with
      | some v=>some (v,h)
      | none=>none
    | _,_=>none
def A6Z(x:Operand)(i:Nat)(T:Tr VTy)(arg:Operand→Option VV)(h:VH):Option (VV×VH) :=
  match arg x with
    | some (.tup xs)=>match xs[i]? with
      | some r=>some (.r r,h)
      | none=>none
    | _=>none
def B0A(t:Nat)(x:Operand)(T:Tr VTy)(arg:Operand→Option VV)(h:VH):Option (VV×VH) :=
  match row T t,arg x with
    | some r,some (.r ⟨false,[.sl id off n _]⟩)=>match r.k with
      | .arr m _=>bif Nat.ble m n && Nat.blt 0 n then some (one (.ptr id off),h) else none
      | _=>none
    | _,_=>none
def D8F(t:Nat)(T:Tr VTy)(arg:Operand→Option VV)(h:VH):Option (VV×VH) :=
  match A7X T t with
    | some _=>match h.new (.map []) with
      | some (id,h)=>some (one (.mp id),h)
      | none=>none
    | none=>none
def B0B(t:Nat)(m k:Operand)(ok:Bool)(T:Tr VTy)(arg:Operand→Option VV)(h:VH):Option (VV×VH) :=
  match arg m,arg k with
    | some m,some k=>match B5o T h t m k ok with
      | some v=>some (v,h)
      | none=>none
    | _,_=>none
def A4j(t:Nat)(m k x:Operand)(T:Tr VTy)(arg:Operand→Option VV)(h:VH):Option (VV×VH) :=
  match arg m,arg k,arg x with
    | some m,some k,some x=>match A64 T h t m k x with
      | some h=>some (.und,h)
      | none=>none
    | _,_,_=>none
def A70(b:Builtin)(args:Array Operand)(argTypes:Array TypeId)(T:Tr VTy)(arg:Operand→Option VV)(h:VH):Option (VV×VH) :=
  match B5l arg args.toList with
    | some l=>A6Y T h b argTypes.toList l
    | none=>none
def oFn(fn:Fn)(first captured:Array Operand)(T:Tr VTy)(arg:Operand→Option VV)(h:VH):Option (VV×VH) :=
  match fn with
  | .func f=>C7I f first captured T arg h
  | _=>none
def C7J(t:Nat)(r:Option Operand)(T:Tr VTy)(arg:Operand→Option VV)(h:VH):Option (VV×VH) :=
  match r with
  | none=>D8F t T arg h
  | some _=>none
def C0E(c:Call)(T:Tr VTy)(arg:Operand→Option VV)(h:VH):Option (VV×VH) :=
  match c.callee with
  | .builtin b=>A70 b c.args c.argTypes T arg h
  | _=>none
def A3H(_T:Tr VTy)(_arg:Operand→Option VV)(_h:VH):Option (VV×VH):=none
def opT(op:Op):Tr VTy→(Operand→Option VV)→VH→Option (VV×VH) :=
  Op.rec (motive:=fun _=>Tr VTy→(Operand→Option VV)→VH→Option (VV×VH)) (fun x=>B31 x) (fun x=>B31 x) (fun c a b=>C4a c a b) (fun e=>B6i e) (fun _ v=>D4e v) (fun t ps=>B6j t ps) (fun t n ps=>A34 t n ps) (fun t m k x=>A4j t m k x) (fun t a=>C4b t a) (fun t a v=>C0D t a v) (fun _=>A3H) (fun _=>A3H) (fun x=>D4f x) (fun o t x y _=>D0T o t x y) (fun o _ x=>oUn o x) (fun s d x=>C4c s d x) (fun t x=>B0A t x) (fun t x=>B6k t x) (fun fn first captured=>oFn fn first captured) (fun t r=>C7J t r) (fun _ _=>A3H) (fun t l c=>A4g t l c) (fun t x lo hi mx=>B6l t x lo hi mx) (fun t x f=>A4h t x f) (fun t x f=>B6m t x f) (fun t x i=>A4i t x i) (fun t x i=>B6n t x i) (fun t m k ok=>B0B t m k ok) (fun t m k x=>A4j t m k x) (fun _ _ _=>A3H) (fun _ _ _ _=>A3H) (fun _ _=>A3H) (fun _ _=>A3H) (fun _=>A3H) (fun _ _ _ _=>A3H) (fun x i=>A6Z x i) (fun c=>C0E c) (fun _=>A3H) (fun _=>A3H) (fun _=>A3H) (fun _ _=>A3H) (fun _ _ _=>A3H) (fun _ _=>A3H) op
def opO(T:Tr VTy)(arg:Operand→Option VV)(h:VH)(op:Op):Option (VV×VH):=opT op T arg h
end
end Go.Vm
namespace Go.Vm
open Go.Eng
noncomputable section
structure VSt where
  env:Tr VV
  h:VH
  dl:List Nat
structure VCx where
  T:Tr VTy
  fns:Tr Func
  orc:Nat→Option (List VV→VH→Option (VV×VH))
  ext:Nat→Option (List VV→Option VV)
  meth:Nat→String→Option Nat
def B9D(env:Tr VV):Option Nat→VV→Option (Tr VV)
  | none,_=>some env
  | some t,v=>env.set D t v
abbrev A1t:=Nat→List VV→VH→Option (VV×VH)
def C4d(ids:List Nat):List VV:=ids.map fun id=>one (.ptr id 0)
def D0U(cx:VCx)(call:A1t)(f:Nat)(ids:List Nat)(l:List VV)(h:VH):Option (VV×VH) :=
  match cx.ext f,ids with
  | some m,[]=>match m l with
    | some v=>some (v,h)
    | none=>none
  | some _,_=>none
  | none,ids=>call f (l++C4d ids) h
def C0F(f:Operand)(args:Array Operand)(cx:VCx)(call:A1t)(yld:Nat→List VV→VH→Option (VV×VH))(arg:Operand→Option VV)(h:VH):Option (VV×VH) :=
  match arg f,B5l arg args.toList with
  | some (.r ⟨false,[.clo f ids]⟩),some l=>D0U cx call f ids l h
  | some (.r ⟨false,[.yl id]⟩),some l=>yld id l h
  | _,_=>none
def C0G(x:Operand)(name:String)(args:Array Operand)(cx:VCx)(call:A1t)(arg:Operand→Option VV)(h:VH):Option (VV×VH) :=
  match arg x,B5l arg args.toList with
  | some (.r ⟨false,[.v (.iface t (.agg cs))]⟩),some l=>bif cs.isEmpty then match cx.meth t name with
    | some f=>call f (.r ⟨true,[]⟩::l) h
    | none=>none
    else none
  | _,_=>none
def C4e(c:Call)(cx:VCx)(call:A1t)(yld:Nat→List VV→VH→Option (VV×VH))(arg:Operand→Option VV)(h:VH):Option (VV×VH) :=
  match c.callee with
  | .value f=>C0F f c.args cx call yld arg h
  | .invoke x name=>C0G x name c.args cx call arg h
  | .builtin b=>A70 b c.args c.argTypes cx.T arg h
def D0V(op:Op):Option Call:=Op.rec (motive:=fun _=>Option Call) (fun _=>none) (fun _=>none) (fun _ _ _=>none) (fun _=>none) (fun _ _=>none) (fun _ _=>none) (fun _ _ _=>none) (fun _ _ _ _=>none) (fun _ _=>none) (fun _ _ _=>none) (fun _=>none) (fun _=>none) (fun _=>none) (fun _ _ _ _ _=>none) (fun _ _ _=>none) (fun _ _ _=>none) (fun _ _=>none) (fun _ _=>none) (fun _ _ _=>none) (fun _ _=>none) (fun _ _=>none) (fun _ _ _=>none) (fun _ _ _ _ _=>none) (fun _ _ _=>none) (fun _ _ _=>none) (fun _ _ _=>none) (fun _ _ _=>none) (fun _ _ _ _=>none) (fun _ _ _ _=>none) (fun _ _ _=>none) (fun _ _ _ _=>none) (fun _ _=>none) (fun _ _=>none) (fun _=>none) (fun _ _ _ _=>none) (fun _ _=>none) (fun c=>some c) (fun _=>none) (fun _=>none) (fun _=>none) (fun _ _=>none) (fun _ _ _=>none) (fun _ _=>none) op
def opV(cx:VCx)(call:A1t)(yld:Nat→List VV→VH→Option (VV×VH))(arg:Operand→Option VV)(h:VH)(op:Op):Option (VV×VH) :=
  match D0V op with
  | some c=>C4e c cx call yld arg h
  | none=>opT op cx.T arg h
def C0H(ntmps:Nat):Option Nat→Bool
  | some t=>Nat.blt t ntmps
  | none=>true
def A3r(env:Tr VV)(ops:List Oper)(o:Oper):Option Bool :=
  match o.guard with
  | none=>some true
  | some (j,want)=>match (ops[j]?).bind (·.dst) with
    | some t=>match env.get D t with
      | some (.r ⟨false,[.v (.bool b)]⟩)=>some (b == want)
      | some .und=>some false
      | _=>none
    | none=>none
section
variable (cx:VCx) (call:A1t) (yld:Nat→List VV→VH→Option (VV×VH))
def B6o(ntmps:Nat)(all:List Oper):List Oper→VSt→Option VSt
  | [],s=>some s
  | o::l,s=>match A3r s.env all o with
    | some true=>bif C0H ntmps o.dst then match opV cx call yld (K5 s.env) s.h o.op with
      | some (v,h)=>match B9D s.env o.dst v with
        | some env=>B6o ntmps all l ⟨env,h,s.dl⟩
        | none=>none
      | none=>none
      else none
    | some false=>bif C0H ntmps o.dst then match B9D s.env o.dst .und with
      | some env=>B6o ntmps all l ⟨env,s.h,s.dl⟩
      | none=>none
      else none
    | none=>none
end
def C5C(T:Tr VTy)(s:VSt):List ResultVar→Option (List VR)
  | []=>some []
  | .tmp t::l=>match s.env.get D t,C5C T s l with
    | some (.r x),some m=>some (x::m)
    | _,_=>none
  | .cell a t::l=>match s.env.get D a,C5C T s l with
    | some v,some m=>match C0y T s.h t v with
      | some (.r x)=>some (x::m)
      | _=>none
    | _,_=>none
def B8X:List VR→VV
  | [x]=>.r x
  | l=>.tup l
def A9o:Nat→List VV→Tr VV→Option (Tr VV)
  | _,[],env=>some env
  | k,v::l,env=>match env.set D k v with
    | some env=>A9o (k+1) l env
    | none=>none
def C4f:List Nat→List VV→Tr VV→Option (Tr VV)
  | [],[],env=>some env
  | t::ps,v::l,env=>match env.set D t v with
    | some env=>C4f ps l env
    | none=>none
  | _,_,_=>none
def C0I(esz bytes:Nat)(args:List VV)(h:VH):Option (VV×VH) :=
  match args with
  | [.r ⟨false,[s]⟩,.r ⟨false,[.v (.int .i64 n)]⟩]=>match s with
    | .v (.slice none 0 0)=>bif ltI 0 n && Nat.ble (n.toNat*bytes) 140737488355328 && Nat.ble n.toNat 281474976710656 then match newRow h [] with
      | some (id,h)=>some (one (.sl id 0 0 esz),h)
      | none=>none
      else none
    | .sl id 0 len e=>match h.obj id with
      | .row cs=>bif leI 0 n && (Nat.beq e esz && (Nat.beq cs.length (len*esz) && (Nat.ble ((len+n.toNat)*bytes) 140737488355328 && Nat.ble (len+n.toNat) 281474976710656))) then match h.put id .gone with
        | some h=>match newRow h cs with
          | some (id,h)=>some (one (.sl id 0 len esz),h)
          | none=>none
        | none=>none
        else none
      | _=>none
    | _=>none
  | _=>none
def C7K:Op→Bool
  | .alloc _ | .box _ _ | .buildSlice _ _ _ | .makeSlice _ _ _=>true
  | _=>false
def D0W:Op→Bool
  | .store _ _ _ | .mapUpdate _ _ _ _ | .insert _ _ _ _ | .makeMap _ _=>true
  | .call { callee:=.builtin b,.. }=>match b with
    | .append | .copy=>true
    | _=>false
  | .call _=>true
  | _=>false
def D8G:Op→Bool
  | .load _ _ | .lookup _ _ _ _ | .convert _ _ _ | .slice _ _ _ _ _=>true
  | _=>false
def bit(m i:Nat):Bool:=Nat.beq (Nat.land (Nat.shiftRight m i) 1) 1
structure DH where
  t:Tr VO
  inc:Nat
  cm:Nat
structure DS where
  env:Tr VV
  hd:DH
  old:List DH
  ns:List (Nat×VO)
  nx:Nat
  ps:List (Nat×Tr VV×VV)
def B8Y(base:Nat)(want:Nat→Bool):List (Nat×VO)→Tr VO→Option (Tr VO)
  | [],t=>some t
  | (i,o)::l,t=>match B8Y base want l t with
    | some t=>bif want i then t.set D (base+i) o else some t
    | none=>none
def eqV:VV→VV→Bool
  | .r ⟨a,l⟩,.r ⟨b,m⟩=>(a == b) && C7D l m
  | _,_=>false
section
variable (cx:VCx) (call:A1t) (yld:Nat→List VV→VH→Option (VV×VH))
def B0C(ntmps base:Nat)(all:List Oper)(pre i:Nat)(o:Oper)(s:DS):Option DS :=
  bif C0H ntmps o.dst then match A3r s.env all o with
  | some false=>match B9D s.env o.dst .und with
    | some env=>some { s with env:=env }
    | none=>none
  | some true =>
    bif C7K o.op then match opO cx.T (K5 s.env) ⟨.e,base+i⟩ o.op with
      | some (v,h)=>match B9D s.env o.dst v with
        | some env=>some { s with env:=env,ns:=(i,h.obj (base+i))::s.ns }
        | none=>none
      | none=>none
    else bif D0W o.op then
      bif Nat.beq (Nat.land s.hd.cm pre) s.hd.cm then match B8Y base (fun j=>bit pre j && !bit s.hd.inc j) s.ns s.hd.t with
      | some t=>match opV cx call yld (K5 s.env) ⟨t,s.nx⟩ o.op with
        | some (v,h)=>match B9D s.env o.dst v with
          | some env=>some { env:=env,hd:=⟨h.t,Nat.lor s.hd.inc pre,Nat.lor s.hd.cm (Nat.shiftLeft 1 i)⟩,old:=s.hd::s.old,ns:=s.ns,nx:=h.nxt,ps:=s.ps }
          | none=>none
        | none=>none
      | none=>none
      else none
    else bif D8G o.op then match B8Y base (fun j=>bit pre j && !bit s.hd.inc j) s.ns s.hd.t with
      | some t=>match opO cx.T (K5 s.env) ⟨t,s.nx⟩ o.op with
        | some (v,_)=>match B9D s.env o.dst v with
          | some env=>some { s with env:=env,ps:=(i,s.env,v)::s.ps }
          | none=>none
        | none=>none
      | none=>none
    else match opO cx.T (K5 s.env) ⟨.e,base+i⟩ o.op with
      | some (v,_)=>match B9D s.env o.dst v with
        | some env=>some { s with env:=env }
        | none=>none
      | none=>none
  | none=>none
  else none
def B6p(ntmps base:Nat)(all:List Oper)(pres:List Nat):Nat→List Oper→DS→Option DS
  | _,[],s=>some s
  | i,o::l,s=>match B0C cx call yld ntmps base all (pres.getD i 0) i o s with
    | some s=>B6p ntmps base all pres (i+1) l s
    | none=>none
end
def B6q(T:Tr VTy)(base:Nat)(all:List Oper)(pres:List Nat)(ns:List (Nat×VO))(cm:Nat)(p:Nat×Tr VV×VV)(h:DH):Bool :=
  bif bit h.inc p.1 || !Nat.beq (Nat.land (Nat.land (pres.getD p.1 0) cm) h.cm) (Nat.land (pres.getD p.1 0) cm) then true
  else match B8Y base (fun j=>bit (pres.getD p.1 0) j && !bit h.inc j) ns h.t,all[p.1]? with
    | some t,some o=>match opO T (K5 p.2.1) ⟨t,base+p.1⟩ o.op with
      | some (v,_)=>eqV v p.2.2
      | none=>false
    | _,_=>false
def B6r(all:List Oper)(pres:List Nat):Bool :=
  (all.zipIdx).all fun (o,i)=>(all.zipIdx).all fun (q,j)=>match q.dst with
    | some t=>Nat.beq i j || (!(o.dst == some t) && (!B4B (S1 all o) t || (bit (pres.getD i 0) j || bit (pres.getD j 0) i)))
    | none=>true
def C5D(all:List Oper):Bool:=all.all fun o=>match o.dst with
  | some t=>!B4B (S1 all o) t
  | none=>true
def C4g(base:Nat)(ns:List (Nat×VO))(h:DH):Bool:=ns.all fun p=>bit h.inc p.1 || (match h.t.get D (base+p.1) with | none=>true | some o=>(match o with | .gone=>true | _=>false))
def C0J(cx:VCx)(call:A1t)(yld:Nat→List VV→VH→Option (VV×VH))(ntmps:Nat)(all:List Oper)(s:VSt):Option VSt :=
  bif A0Q 0 all && B6r all (Z1 all []) && C5D all then
    match B6p cx call yld ntmps s.h.nxt all (Z1 all []) 0 all ⟨s.env,⟨s.h.t,0,0⟩,[],[],s.h.nxt+all.length,[]⟩ with
    | some d=>bif(d.hd::d.old).all (fun h=>C4g s.h.nxt d.ns h && d.ps.all fun p=>B6q cx.T s.h.nxt all (Z1 all []) d.ns d.hd.cm p h) then
        match B8Y s.h.nxt (fun j=>!bit d.hd.inc j) d.ns d.hd.t with
        | some t=>some ⟨d.env,⟨t,d.nx⟩,s.dl⟩
        | none=>none
      else none
    | none=>none
  else none
def A5r(cx:VCx)(call:A1t)(yld:Nat→List VV→VH→Option (VV×VH))(again:Code→VSt→Option (Ex×VSt))(rng:Operand→List Nat→Code→Code→VSt→Option (Ex×VSt))(ntmps:Nat):Code→VSt→Option (Ex×VSt)
  | .skip,s=>some (.normal,s)
  | .label _,s=>some (.normal,s)
  | .region _ ops draw,s=>match bif draw then C0J cx call yld ntmps ops.toList s else B6o cx call yld ntmps ops.toList ops.toList s with
    | some s=>some (.normal,s)
    | none=>none
  | .seq a b,s=>match A5r cx call yld again rng ntmps a s with
    | some (.normal,s)=>A5r cx call yld again rng ntmps b s
    | r=>r
  | .cond c a b,s=>match K5 s.env c with
    | some (.r ⟨false,[.v (.bool t)]⟩)=>bif t then A5r cx call yld again rng ntmps a s else A5r cx call yld again rng ntmps b s
    | _=>none
  | .block id c,s=>match A5r cx call yld again rng ntmps c s with
    | some (.exit i,s)=>bif Nat.beq i id then some (.normal,s) else some (.exit i,s)
    | r=>r
  | .loop c,s=>match A5r cx call yld again rng ntmps c s with
    | some (.normal,s)=>again (.loop c) s
    | r=>r
  | .rangeFunc g ps a c,s=>rng g ps.toList a c s
  | .exit i,s=>some (.exit i,s)
  | .ret,s=>some (.ret,s)
  | _,_=>none
def B0D:List Nat→VH→Option VH
  | [],h=>some h
  | id::l,h=>match h.obj id with
    | .dfr=>match h.put id .gone with
      | some h=>B0D l h
      | none=>none
    | _=>none
abbrev D0X:=Bool→Nat→Code→VSt→Option (Ex×VSt)
def A9p(T:Tr VTy)(fn:Func)(s:VSt):Option (VV×VH) :=
  match B0D s.dl s.h with
  | some h=>match C5C T ⟨s.env,h,[]⟩ fn.results.toList with
    | some rs=>some (B8X rs,h)
    | none=>none
  | none=>none
def A35(cx:VCx)(ex:D0X):A1t:=fun f args h =>
  match cx.orc f with
  | some m=>m args h
  | none=>match cx.fns.get 10 f with
    | some fn=>match fn.body,A9o 0 args .e with
      | some c,some env=>bif Nat.ble args.length fn.ntmps then match ex true fn.ntmps c ⟨env,h,[]⟩ with
        | some (.normal,s)=>A9p cx.T fn s
        | some (.ret,s)=>A9p cx.T fn s
        | _=>none
        else none
      | _,_=>none
    | none=>none
def C0K(ex:D0X):Nat→List VV→VH→Option (VV×VH):=fun id args h =>
  match h.obj id with
  | .loop env n ps a c _ false=>bif ps.all (fun t=>Nat.blt t n) then match C4f ps args env with
    | some env'=>match ex false n a ⟨env',h,[]⟩ with
      | some (.normal,s1)=>match s1.h.obj id,s1.dl with
        | .loop e1 n1 p1 a1 c1 d1 false,[]=>match s1.h.put id (.loop e1 n1 p1 a1 c1 d1 true) with
          | some h1=>match ex false n c ⟨s1.env,h1,[]⟩ with
            | some (.normal,s2)=>match s2.h.obj id,s2.dl with
              | .loop e2 n2 p2 a2 c2 d2 true,[]=>match s2.h.put id (.loop e2 n2 p2 a2 c2 d2 false) with
                | some h2=>some (A4Y true,h2)
                | none=>none
              | _,_=>none
            | _=>none
          | none=>none
        | _,_=>none
      | _=>none
    | none=>none
    else none
  | _=>none
def B32:Nat→List VV→VH→Option (VV×VH):=fun _ _ _=>none
def B8Z(call:A1t)(top:Bool)(nt:Nat):Operand→List Nat→Code→Code→VSt→Option (Ex×VSt):=fun g ps a c s =>
  bif top then match K5 s.env g with
  | some (.r ⟨false,[.clo gf ids]⟩)=>match s.h.new .dfr with
    | some (d,h1)=>match h1.new (.loop s.env nt ps a c d false) with
      | some (l,h2)=>match call gf (one (.yl l)::C4d ids) h2 with
        | some (_,h3)=>match h3.obj l with
          | .loop _ _ _ _ _ _ false=>match h3.put l .gone with
            | some h4=>some (.normal,⟨s.env,h4,d::s.dl⟩)
            | none=>none
          | _=>none
        | none=>none
      | none=>none
    | none=>none
  | _=>none
  else none
def A5c(cx:VCx):Nat→D0X
  | 0=>fun _ _ _ _=>none
  | n+1=>fun top nt c s=>A5r cx (A35 cx (A5c cx n)) (bif top then C0K (A5c cx n) else B32) (A5c cx n top nt) (B8Z (A35 cx (A5c cx n)) top nt) nt c s
end
end Go.Vm
namespace Go.Vm
open Go.Eng Go.RowKit
abbrev Rho:=Nat→Option (Nat×Nat)
def Rho.le(ρ ρ':Rho):Prop:=∀ id l,ρ id=some l→ρ' id=some l
theorem Rho.le.refl(ρ:Rho):ρ.le ρ:=fun _ _ h=>h
theorem Rho.le.trans{a b c:Rho}(h:a.le b)(k:b.le c):a.le c:=fun i l e=>k i l (h i l e)
def A7p(ρ:Rho)(u:Value)(id:Nat):Prop:=∃ l,ρ id=some l∧u=.pointer (some ⟨l.1,0,none⟩)
def A1u(ρ:Rho)(u:Value):VC→Prop
  | .v x=>u=x∧C0x x=true
  | .ptr id off=>∃ l,ρ id=some l∧u=.pointer (some ⟨l.1,off,none⟩)
  | .sl id off len esz=>∃ l a cap,ρ id=some l∧u=.slice (some a) len cap∧(len≤cap∧cap≤maxLen)∧(0 < cap→a=⟨l.1,off,none⟩∧off+cap*esz≤l.2)
  | .ne=>∃ a,u=.slice (some a) 0 0
  | .clo f ids=>∃ us,u=.func (.func f) #[] us∧All2 (A7p ρ) us.toList ids
  | .mp id=>∃ l,ρ id=some l∧u=.map (some l.1)
  | .yl id=>∃ l,ρ id=some l∧u=.func (.yield l.1) #[] #[]
def mkV(agg:Bool)(us:List Value):Value:=if agg then .agg us.toArray else us.headD undef
def A4Z(ρ:Rho)(u:Value)(x:VR):Prop:=∃ us,All2 (A1u ρ) us x.cs∧u=mkV x.agg us∧(x.agg=false→us.length=1)
def D9(ρ:Rho)(u:Value):VV→Prop
  | .und=>u=undef
  | .r x=>A4Z ρ u x
  | .tup xs=>∃ us,u=.tuple us∧All2 (A4Z ρ) us.toList xs
theorem U7{α β:Type}{R S:α→β→Prop}(h:∀ a b,R a b→S a b){l:List α}{m:List β}(k:All2 R l m):All2 S l m:=by
  induction k with
  | nil=>exact .nil
  | cons r _ ih=>exact .cons (h _ _ r) ih
theorem H1{α β:Type}{R:α→β→Prop}{l:List α}{m:List β}(k:All2 R l m):l.length=m.length:=by
  induction k with
  | nil=>rfl
  | cons _ _ ih=>simp [ih]
theorem L1{α β:Type}{R:α→β→Prop}{l l':List α}{m m':List β}(k:All2 R l m)(k':All2 R l' m'):All2 R (l++l') (m++m'):=by
  induction k with
  | nil=>exact k'
  | cons r _ ih=>exact .cons r ih
theorem A2B{α β:Type}{R:α→β→Prop}{l:List α}{m:List β}(k:All2 R l m):∀ n,All2 R (l.take n) (m.take n):=by
  induction k with
  | nil=>intro n; simp; exact .nil
  | cons r _ ih=>intro n; cases n with
    | zero=>exact .nil
    | succ n=>exact .cons r (ih n)
theorem A3I{α β:Type}{R:α→β→Prop}{l:List α}{m:List β}(k:All2 R l m):∀ n,All2 R (l.drop n) (m.drop n):=by
  induction k with
  | nil=>intro n; simp; exact .nil
  | cons r h ih=>intro n; cases n with
    | zero=>exact .cons r h
    | succ n=>exact ih n
theorem A1u.mono{ρ ρ':Rho}(h:ρ.le ρ'){u:Value}{c:VC}(k:A1u ρ u c):A1u ρ' u c:=by
  cases c with
  | v x=>exact k
  | ptr id off=>obtain ⟨l,h1,h2⟩:=k; exact ⟨l,h _ _ h1,h2⟩
  | sl id off len esz=>obtain ⟨l,a,cap,h1,h2⟩:=k; exact ⟨l,a,cap,h _ _ h1,h2⟩
  | ne=>exact k
  | clo f ids=>obtain ⟨us,h1,h2⟩:=k; exact ⟨us,h1,U7 (fun a b ⟨l,x,y⟩=>⟨l,h _ _ x,y⟩) h2⟩
  | mp id=>obtain ⟨l,h1,h2⟩:=k; exact ⟨l,h _ _ h1,h2⟩
  | yl id=>obtain ⟨l,h1,h2⟩:=k; exact ⟨l,h _ _ h1,h2⟩
theorem A4Z.mono{ρ ρ':Rho}(h:ρ.le ρ'){u:Value}{x:VR}(k:A4Z ρ u x):A4Z ρ' u x:=by
  obtain ⟨us,h1,h2⟩:=k
  exact ⟨us,U7 (fun _ _=>A1u.mono h) h1,h2⟩
theorem D9.mono{ρ ρ':Rho}(h:ρ.le ρ'){u:Value}{x:VV}(k:D9 ρ u x):D9 ρ' u x:=by
  cases x with
  | und=>exact k
  | r x=>exact A4Z.mono h k
  | tup xs=>obtain ⟨us,h1,h2⟩:=k; exact ⟨us,h1,U7 (fun _ _=>A4Z.mono h) h2⟩
theorem A1u.oneCell{ρ:Rho}{u:Value}{c:VC}(k:A1u ρ u c):u.oneCell'=true:=by
  cases c with
  | v x=>obtain ⟨rfl,h⟩:=k; cases u <;> simp [C0x,Value.oneCell'] at h ⊢
  | ptr id off=>obtain ⟨l,_,rfl⟩:=k; rfl
  | sl id off len esz=>obtain ⟨l,a,cap,_,rfl,_⟩:=k; rfl
  | ne=>obtain ⟨a,rfl⟩:=k; rfl
  | clo f ids=>obtain ⟨us,rfl,_⟩:=k; rfl
  | mp id=>obtain ⟨l,_,rfl⟩:=k; rfl
  | yl id=>obtain ⟨l,_,rfl⟩:=k; rfl
theorem A4Z.one{ρ:Rho}{u:Value}{c:VC}:A4Z ρ u ⟨false,[c]⟩↔A1u ρ u c:=by
  constructor
  · rintro ⟨us,h1,h2,_⟩
    cases h1 with
    | cons r h=>cases h; simp [mkV] at h2; exact h2 ▸ r
  · intro h
    exact ⟨[u],.cons h .nil,by simp [mkV],fun _=>rfl⟩
theorem D9.one{ρ:Rho}{u:Value}{c:VC}:D9 ρ u (one c)↔A1u ρ u c:=A4Z.one
theorem D9.r1{ρ:Rho}{u:Value}{c:VC}:D9 ρ u (.r ⟨false,[c]⟩)↔A1u ρ u c:=A4Z.one
theorem D9.v{ρ:Rho}{u x:Value}:D9 ρ u (.r ⟨false,[.v x]⟩)↔u=x∧C0x x=true:=A4Z.one
theorem A4Z.cells{ρ:Rho}{u:Value}{x:VR}(h:A4Z ρ u x):All2 (A1u ρ) u.cells.toList x.cs:=by
  obtain ⟨agg,cs⟩:=x
  obtain ⟨us,h1,h2,h3⟩:=h
  cases agg with
  | true=>simp [mkV] at h2; rw [h2]; exact h1
  | false =>
    have hl:=h3 rfl
    match us,hl with
    | [v],_ =>
      simp [mkV] at h2
      subst h2
      cases h1 with
      | cons r h =>
        have:=r.oneCell
        cases u <;> simp [Value.oneCell'] at this <;> exact .cons r h
def D4N(fz:Nat×Nat)(n:Nat):Prop:=fz=(0,0)∨n≤fz.1
theorem D4N.at{fz:Nat×Nat}{n:Nat}(h:D4N fz n):∀ k,k < n→¬ (fz.1≤k∧k < fz.2):=by
  intro k hk
  rcases h with rfl | h
  · simp
  · omega
def A2f(ρ:Rho)(w:World)(l:Nat×Nat):VO→Prop
  | .gone=>True
  | .row cs=>∃ cur e fz us rest,w.heap[l.1]?=some (.cells cur e fz)∧cur.size=l.2∧D4N fz cur.size∧cur.toList=us++rest∧All2 (A1u ρ) us cs
  | .map es=>∃ ents clock,w.heap[l.1]?=some (.map ents clock)∧All2 (fun (e:MapEntry) c=>A1u ρ e.key c.1∧A1u ρ e.val c.2) ents.toList es
  | .loop env n ps assign body dfr busy=>∃ fn tmps ld,ρ dfr=some ld∧w.heap[l.1]?=some (.loop { state:=if busy then .busy else .ready,pending:=none,fn:=fn,tmps:=tmps,params:=ps.toArray,assign:=assign,body:=body,defers:=ld.1 })∧tmps.size=n∧∀ t,D9 ρ (tmps.getD t undef) ((env.get D t).getD .und)
  | .dfr=>w.heap[l.1]?=some (.deferred (some []))
theorem A2f.mono{ρ ρ':Rho}(h:ρ.le ρ'){w w':World}{l:Nat×Nat}{o:VO}(hb:w'.heap[l.1]?=w.heap[l.1]?)(k:A2f ρ w l o):A2f ρ' w' l o:=by
  cases o with
  | gone=>trivial
  | row cs=>obtain ⟨cur,e,fz,us,rest,h1,h2,h3,h4,h5⟩:=k; exact ⟨cur,e,fz,us,rest,hb.trans h1,h2,h3,h4,U7 (fun _ _=>A1u.mono h) h5⟩
  | map es=>obtain ⟨ents,clock,h1,h2⟩:=k; exact ⟨ents,clock,hb.trans h1,U7 (fun _ _ ⟨a,b⟩=>⟨a.mono h,b.mono h⟩) h2⟩
  | loop env n ps assign body dfr busy=>obtain ⟨fn,tmps,ld,h0,h1,h2,h3⟩:=k; exact ⟨fn,tmps,ld,h _ _ h0,hb.trans h1,h2,fun t=>(h3 t).mono h⟩
  | dfr=>exact hb.trans k
theorem A2f.lt{ρ:Rho}{w:World}{l:Nat×Nat}{o:VO}(k:A2f ρ w l o)(ho:o≠.gone):l.1 < w.heap.size:=by
  have:∃ x,w.heap[l.1]?=some x:=by
    cases o with
    | gone=>exact absurd rfl ho
    | row cs=>obtain ⟨cur,e,fz,us,rest,h1,_⟩:=k; exact ⟨_,h1⟩
    | map es=>obtain ⟨ents,clock,h1,_⟩:=k; exact ⟨_,h1⟩
    | loop env n ps assign body dfr busy=>obtain ⟨fn,tmps,ld,_,h1,_⟩:=k; exact ⟨_,h1⟩
    | dfr=>exact ⟨_,k⟩
  obtain ⟨x,hx⟩:=this
  exact(Array.getElem?_eq_some_iff.1 hx).1
abbrev A1r:=Nat→VO
structure HRel (ρ:Rho) (O:A1r) (w:World):Prop where
  objs:∀ id,O id≠.gone→∃ l,ρ id=some l∧A2f ρ w l (O id)
  apart:∀ id id' l l',O id≠.gone→O id'≠.gone→ρ id=some l→ρ id'=some l'→l.1=l'.1→id=id'
def Own(ρ:Rho)(O:A1r)(b:Nat):Prop:=∃ id l,O id≠.gone∧ρ id=some l∧l.1=b
structure OStep (ρ:Rho) (O:A1r) (w:World) (ρ':Rho) (O':A1r) (w':World):Prop where
  le:ρ.le ρ'
  rel:HRel ρ' O' w'
  since:Since (Own ρ O) w w'
  own:∀ id,O' id≠.gone→∃ l,ρ' id=some l∧(w.heap.size≤l.1∨Own ρ O l.1)
theorem OStep.refl{ρ:Rho}{O:A1r}{w:World}(h:HRel ρ O w):OStep ρ O w ρ O w :=
  ⟨.refl ρ,h,.refl _ w,fun id hi=>let ⟨l,h1,_⟩:=h.objs id hi; ⟨l,h1,.inr ⟨id,l,hi,h1,rfl⟩⟩⟩
theorem OStep.trans{ρ ρ1 ρ2:Rho}{O O1 O2:A1r}{w w1 w2:World}(h:OStep ρ O w ρ1 O1 w1)(k:OStep ρ1 O1 w1 ρ2 O2 w2):OStep ρ O w ρ2 O2 w2:=by
  have up:∀ b,Own ρ1 O1 b→w.heap.size≤b∨Own ρ O b:=by
    rintro b ⟨id,l,h1,h2,rfl⟩
    obtain ⟨l',h3,h4⟩:=h.own id h1
    rw [h2] at h3; cases h3
    exact h4
  refine ⟨h.le.trans k.le,k.rel,h.since.trans k.since (fun _ x=>x) (fun b hb hx=>(up b hx).resolve_left (by omega)),fun id hi=>?_⟩
  obtain ⟨l,h1,h2⟩:=k.own id hi
  refine ⟨l,h1,?_⟩
  rcases h2 with h2 | h2
  · exact .inl (Nat.le_trans h.since.size h2)
  · exact up _ h2
def isG:VO→Bool
  | .gone=>true
  | _=>false
theorem B5p{o:VO}:isG o=true↔o=.gone:=by cases o <;> simp [isG]
theorem C0L{o:VO}:isG o=false↔o≠.gone:=by cases o <;> simp [isG]
def A8P(O P P':A1r):A1r:=fun id=>bif isG (P id) && isG (P' id) then O id else P' id
theorem HRel.part{ρ:Rho}{O P:A1r}{w:World}(H:HRel ρ O w)(sub:∀ id,P id≠.gone→P id=O id):HRel ρ P w :=
  ⟨fun id hi=>by
    obtain ⟨l,h1,h2⟩:=H.objs id (by rw [← sub id hi]; exact hi)
    exact ⟨l,h1,by rw [sub id hi]; exact h2⟩,
   fun id id' l l' hi hi' h1 h2 h3=>H.apart id id' l l' (by rw [← sub id hi]; exact hi) (by rw [← sub id' hi']; exact hi') h1 h2 h3⟩
theorem OStep.frame{ρ ρ':Rho}{O P P':A1r}{w w':World}(H:HRel ρ O w)(sub:∀ id,P id≠.gone→P id=O id)(st:OStep ρ P w ρ' P' w')
    (fresh:∀ id,P' id≠.gone→P id≠.gone∨O id=.gone):OStep ρ O w ρ' (A8P O P P') w':=by
  have hin:∀ b,Own ρ P b→Own ρ O b:=fun b ⟨id,l,h1,h2,h3⟩=>⟨id,l,by rw [← sub id h1]; exact h1,h2,h3⟩
  -- an object outside the part is where it was
  have out:∀ id,(isG (P id) && isG (P' id))=true→O id≠.gone→∃ l,ρ id=some l∧ρ' id=some l∧A2f ρ' w' l (O id)∧l.1 < w.heap.size∧¬ Own ρ P l.1:=by
    intro id hg hi
    simp only [Bool.and_eq_true,B5p] at hg
    obtain ⟨l,h1,h2⟩:=H.objs id hi
    have hno:¬ Own ρ P l.1:=by
      rintro ⟨id0,l0,k1,k2,k3⟩
      have:O id0≠.gone:=by rw [← sub id0 k1]; exact k1
      have:=H.apart id0 id l0 l this hi k2 h1 k3
      subst this
      exact k1 hg.1
    have hlt:=h2.lt hi
    exact ⟨l,h1,st.le _ _ h1,h2.mono st.le (st.since.block _ hlt hno),hlt,hno⟩
  have inn:∀ id,(isG (P id) && isG (P' id))=false→P' id≠.gone→∃ l,ρ' id=some l∧(w.heap.size≤l.1∨Own ρ P l.1):=fun id _ hi=>st.own id hi
  have val:∀ id,A8P O P P' id=if(isG (P id) && isG (P' id))=true then O id else P' id:=by
    intro id; unfold A8P; cases (isG (P id) && isG (P' id)) <;> rfl
  refine ⟨st.le,⟨fun id hi=>?_,fun id id' l l' hi hi' h1 h2 h3=>?_⟩,st.since.trans (.refl _ _) hin (fun _ _ h=>h),fun id hi=>?_⟩
  · rw [val] at hi ⊢
    split at hi
    · rename_i hg
      rw [if_pos hg]
      obtain ⟨l,_,h1,h2,_⟩:=out id hg hi
      exact ⟨l,h1,h2⟩
    · rename_i hg
      rw [if_neg hg]
      exact st.rel.objs id hi
  · rw [val] at hi hi'
    split at hi <;> split at hi'
    · rename_i g1 g2
      obtain ⟨m,a1,a2,_⟩:=out id g1 hi
      obtain ⟨m',b1,b2,_⟩:=out id' g2 hi'
      rw [a2] at h1; cases h1
      rw [b2] at h2; cases h2
      exact H.apart id id' _ _ hi hi' a1 b1 h3
    · rename_i g1 g2
      obtain ⟨m,a1,a2,_,a4,a5⟩:=out id g1 hi
      obtain ⟨m',b1,b2⟩:=st.own id' hi'
      rw [a2] at h1; cases h1
      rw [b1] at h2; cases h2
      rw [← h3] at b2
      rcases b2 with b2 | b2
      · omega
      · exact absurd b2 a5
    · rename_i g1 g2
      obtain ⟨m,a1,a2,_,a4,a5⟩:=out id' g2 hi'
      obtain ⟨m',b1,b2⟩:=st.own id hi
      rw [a2] at h2; cases h2
      rw [b1] at h1; cases h1
      rw [h3] at b2
      rcases b2 with b2 | b2
      · omega
      · exact absurd b2 a5
    · exact st.rel.apart id id' l l' hi hi' h1 h2 h3
  · rw [val] at hi
    split at hi
    · rename_i hg
      obtain ⟨l,h0,h1,_⟩:=out id hg hi
      exact ⟨l,h1,.inr ⟨id,l,hi,h0,rfl⟩⟩
    · obtain ⟨l,h1,h2⟩:=st.own id hi
      exact ⟨l,h1,h2.imp (fun h=>h) (hin _)⟩
def Rho.upd(ρ:Rho)(id:Nat)(l:Nat×Nat):Rho:=fun j=>if j=id then some l else ρ j
theorem Rho.le_upd{ρ:Rho}{id:Nat}{l:Nat×Nat}(h:ρ id=none):ρ.le (ρ.upd id l):=by
  intro j m hj
  unfold Rho.upd
  split
  · rename_i e; subst e; rw [h] at hj; cases hj
  · exact hj
def A1r.upd(O:A1r)(id:Nat)(o:VO):A1r:=fun j=>if j=id then o else O j
theorem OStep.new{ρ:Rho}{O:A1r}{w w':World}(H:HRel ρ O w){id:Nat}{l:Nat×Nat}{o:VO}(hid:ρ id=none)(hs:Since (fun _=>False) w w')(hl:w.heap.size≤l.1)(ho:A2f (ρ.upd id l) w' l o) :
    OStep ρ O w (ρ.upd id l) (O.upd id o) w':=by
  have hle:=Rho.le_upd (l:=l) hid
  have old:∀ j,O j≠.gone→∃ m,ρ j=some m∧(ρ.upd id l) j=some m∧A2f (ρ.upd id l) w' m (O j)∧m.1 < w.heap.size∧j≠id:=by
    intro j hj
    obtain ⟨m,h1,h2⟩:=H.objs j hj
    have hlt:=h2.lt hj
    refine ⟨m,h1,hle _ _ h1,h2.mono hle (hs.block _ hlt fun h=>h),hlt,fun e=>?_⟩
    subst e; rw [hid] at h1; cases h1
  have new:(ρ.upd id l) id=some l:=by simp [Rho.upd]
  refine ⟨hle,⟨fun j hj=>?_,fun j j' m m' hj hj' h1 h2 h3=>?_⟩,hs.trans (.refl _ _) (fun _ h=>h.elim) (fun _ _ h=>h),fun j hj=>?_⟩
  · unfold A1r.upd at hj ⊢
    split
    · rename_i e; subst e; exact ⟨l,new,ho⟩
    · rename_i e
      rw [if_neg e] at hj
      obtain ⟨m,_,h1,h2,_⟩:=old j hj
      exact ⟨m,h1,h2⟩
  · unfold A1r.upd at hj hj'
    by_cases e:j=id
    · by_cases e':j'=id
      · rw [e,e']
      · rw [if_neg e'] at hj'
        obtain ⟨x,_,k2,_,k4,_⟩:=old j' hj'
        rw [e,new] at h1; cases h1
        rw [k2] at h2; cases h2
        omega
    · rw [if_neg e] at hj
      obtain ⟨x,k1,k2,_,k4,_⟩:=old j hj
      rw [k2] at h1; cases h1
      by_cases e':j'=id
      · rw [e',new] at h2; cases h2
        omega
      · rw [if_neg e'] at hj'
        obtain ⟨y,q1,q2,_⟩:=old j' hj'
        rw [q2] at h2; cases h2
        exact H.apart j j' _ _ hj hj' k1 q1 h3
  · unfold A1r.upd at hj
    by_cases e:j=id
    · rw [e]; exact ⟨l,new,.inl hl⟩
    · rw [if_neg e] at hj
      obtain ⟨m,k1,k2,_⟩:=old j hj
      exact ⟨m,k2,.inr ⟨j,m,hj,k1,rfl⟩⟩
theorem OStep.write{ρ:Rho}{O:A1r}{w w':World}(H:HRel ρ O w){id:Nat}{l:Nat×Nat}{o:VO}(hid:ρ id=some l)(hlive:O id≠.gone)(hs:Since (fun b=>b=l.1) w w')(ho:A2f ρ w' l o) :
    OStep ρ O w ρ (O.upd id o) w':=by
  have hown:Own ρ O l.1:=⟨id,l,hlive,hid,rfl⟩
  have oth:∀ j,j≠id→O j≠.gone→∃ m,ρ j=some m∧A2f ρ w' m (O j):=by
    intro j hj hg
    obtain ⟨m,h1,h2⟩:=H.objs j hg
    have hlt:=h2.lt hg
    exact ⟨m,h1,h2.mono (.refl ρ) (hs.block _ hlt fun e=>hj (H.apart j id m l hg hlive h1 hid e))⟩
  refine ⟨.refl ρ,⟨fun j hj=>?_,fun j j' m m' hj hj' h1 h2 h3=>?_⟩,hs.trans (.refl _ _) (fun b e=>e ▸ hown) (fun _ _ h=>h),fun j hj=>?_⟩
  · unfold A1r.upd at hj ⊢
    by_cases e:j=id
    · rw [if_pos e,e]; exact ⟨l,hid,ho⟩
    · rw [if_neg e] at hj ⊢; exact oth j e hj
  · have live:∀ k,A1r.upd O id o k≠.gone→O k≠.gone:=by
      intro k hk
      unfold A1r.upd at hk
      by_cases e:k=id
      · rw [e]; exact hlive
      · rw [if_neg e] at hk; exact hk
    exact H.apart j j' m m' (live j hj) (live j' hj') h1 h2 h3
  · unfold A1r.upd at hj
    by_cases e:j=id
    · rw [e]; exact ⟨l,hid,.inr hown⟩
    · rw [if_neg e] at hj
      obtain ⟨m,h1,_⟩:=H.objs j hj
      exact ⟨m,h1,.inr ⟨j,m,hj,h1,rfl⟩⟩
theorem HRel.drop{ρ:Rho}{O:A1r}{w:World}(H:HRel ρ O w)(id:Nat):HRel ρ (O.upd id .gone) w:=H.part fun j hj=>by
  unfold A1r.upd at hj ⊢
  by_cases e:j=id
  · rw [if_pos e] at hj; exact absurd rfl hj
  · rw [if_neg e]
theorem VH.obj_put{h h':VH}{id:Nat}{o:VO}(e:h.put id o=some h'):h'.obj=A1r.upd h.obj id o∧h'.nxt=h.nxt:=by
  unfold VH.put at e
  split at e
  · rename_i t ht
    cases e
    refine ⟨funext fun j=>?_,rfl⟩
    unfold VH.obj A1r.upd
    simp only [Tr.get_set ht j]
    by_cases e:j=id
    · simp [e]
    · simp only [e,if_false]
  · cases e
theorem VH.obj_new{h h':VH}{id:Nat}{o:VO}(e:h.new o=some (id,h')):id=h.nxt∧h'.obj=A1r.upd h.obj id o∧h'.nxt=h.nxt+1:=by
  unfold VH.new at e
  split at e
  · rename_i t ht
    cases e
    refine ⟨rfl,funext fun j=>?_,rfl⟩
    unfold VH.obj A1r.upd
    simp only [Tr.get_set ht j]
    by_cases e:j=h.nxt
    · simp [e]
    · simp only [e,if_false]
  · cases e
end Go.Vm
namespace Go.Vm
open Go.Eng Go.RowKit
def D4O:TypeDesc→Bool
  | .struct _ | .array _ _=>true
  | _=>false
def B6s:VK→TypeDesc→Prop
  | .int k,d=>d=.int k
  | .bool,d=>d=.bool
  | .str,d=>d=.string
  | .slice e,d=>d=.slice e
  | .arr n e,d=>d=.array n e
  | .struct fs,d=>∃ a:Array Field,d=.struct a∧(a.toList.map fun f=>(f.offset,f.type))=fs
  | .ptr e,d=>d=.pointer e
  | .map k e,d=>d=.map k e
  | .other,_=>True
def D0Y(P:Program)(t:Nat)(ty:Ty):Prop:=ty.isAgg=true∧∀ (M:Mem) (w:World) (x y:ty.den) (c1 c2:List Value) (op:BinOp) (p q:Operand),E8 M ty x c1→E8 M ty y c2 →
  (Op.equal t (.agg c1.toArray) (.agg c2.toArray)).run P w=.ok (eqT ty x y) w∧(eqGuard op t p q (.agg c1.toArray) (.agg c2.toArray)).run P w=.ok () w
structure VOk (P:Program) (t:Nat) (r:VTy):Prop where
  info:∃ i z,P.info? t=some i∧i.size=r.sz∧i.bytes=r.bytes∧i.zero=some z∧z.cells.toList=r.zero
  len:r.zero.length=r.sz
  ones:r.zero.all C0x=true
  desc:∃ d,P.underlying t=some d∧B6s r.k d∧D4O d=r.agg
  one:r.agg=false→r.sz=1
  cmp:∀ ty,r.cmp=some ty→D0Y P t ty
  zone:r.agg=false→∀ i z,P.info? t=some i→i.zero=some z→C0x z=true
def Z2(P:Program)(T:Tr VTy):Prop:=∀ t r,row T t=some r→VOk P t r
theorem C5E{a b:Value}(h:eqZ a b=true):a=b:=by
  unfold eqZ at h
  split at h
  · rw [eq_of_beq h]
  · simp only [Bool.and_eq_true,decide_eq_true_eq] at h; rw [h.1,h.2]
  · rename_i x y
    simp only [Bool.and_eq_true,List.isEmpty_iff] at h
    obtain ⟨h1,h2⟩:=h
    congr 1
    have e:x.data=y.data:=by rw [← Array.toList_inj,h1,h2]
    cases x; cases y; simpa using e
  all_goals first | rfl | cases h
def D4g:List Value→List Value→Bool
  | [],[]=>true
  | a::l,b::m=>eqZ a b && D4g l m
  | _,_=>false
theorem C0N:∀ {l m:List Value},D4g l m=true→l=m
  | [],[],_=>rfl
  | a::l,b::m,h=>by
    simp only [D4g,Bool.and_eq_true] at h
    rw [C5E h.1,C0N h.2]
  | [],_::_,h=>by cases h
  | _::_,[],h=>by cases h
def D4h:List (Nat×Nat)→List (Nat×Nat)→Bool
  | [],[]=>true
  | (a,b)::l,(c,d)::m=>Nat.beq a c && (Nat.beq b d && D4h l m)
  | _,_=>false
theorem C0O:∀ {l m:List (Nat×Nat)},D4h l m=true→l=m
  | [],[],_=>rfl
  | (a,b)::l,(c,d)::m,h=>by
    simp only [D4h,Bool.and_eq_true] at h
    rw [Nat.eq_of_beq_eq_true h.1,Nat.eq_of_beq_eq_true h.2.1,C0O h.2.2]
  | [],_::_,h=>by cases h
  | _::_,[],h=>by cases h
def C7L:VK→TypeDesc→Bool
  | .int k,.int j=>decide (k=j)
  | .bool,.bool=>true
  | .str,.string=>true
  | .slice e,.slice f=>Nat.beq e f
  | .arr n e,.array m f=>Nat.beq n m && Nat.beq e f
  | .struct fs,.struct a=>D4h (a.toList.map fun f=>(f.offset,f.type)) fs
  | .ptr e,.pointer f=>Nat.beq e f
  | .map k e,.map j f=>Nat.beq k j && Nat.beq e f
  | .other,_=>true
  | _,_=>false
theorem C4h{k:VK}{d:TypeDesc}(h:C7L k d=true):B6s k d:=by
  unfold C7L at h
  split at h
  · exact congrArg TypeDesc.int (of_decide_eq_true h).symm
  · rfl
  · rfl
  · exact congrArg TypeDesc.slice (Nat.eq_of_beq_eq_true h).symm
  · simp only [Bool.and_eq_true] at h; show TypeDesc.array _ _=.array _ _; rw [Nat.eq_of_beq_eq_true h.1,Nat.eq_of_beq_eq_true h.2]
  · exact ⟨_,rfl,C0O h⟩
  · exact congrArg TypeDesc.pointer (Nat.eq_of_beq_eq_true h).symm
  · simp only [Bool.and_eq_true] at h; show TypeDesc.map _ _=.map _ _; rw [Nat.eq_of_beq_eq_true h.1,Nat.eq_of_beq_eq_true h.2]
  · trivial
  · cases h
def okB(P:Program)(t:Nat)(r:VTy):Bool :=
  match P.info? t,P.underlying t with
  | some i,some d=>Nat.beq i.size r.sz && (Nat.beq i.bytes r.bytes && ((match i.zero with | some z=>D4g z.cells.toList r.zero && (r.agg || C0x z) | none=>false) && (Nat.beq r.zero.length r.sz && (r.zero.all C0x && (C7L r.k d && ((D4O d == r.agg) && (r.agg || Nat.beq r.sz 1)))))))
  | _,_=>false
theorem D0Z{P:Program}{t:Nat}{r:VTy}(h:okB P t r=true)(hc:∀ ty,r.cmp=some ty→D0Y P t ty):VOk P t r:=by
  unfold okB at h
  split at h
  · rename_i i d hi hd
    simp only [Bool.and_eq_true] at h
    obtain ⟨h1,h2,h3,h4,h5,h6,h7,h8⟩:=h
    split at h3
    · rename_i z hz
      simp only [Bool.and_eq_true] at h3
      obtain ⟨h3,h9⟩:=h3
      refine ⟨⟨i,z,hi,Nat.eq_of_beq_eq_true h1,Nat.eq_of_beq_eq_true h2,hz,C0N h3⟩,Nat.eq_of_beq_eq_true h4,h5,⟨d,hd,C4h h6,eq_of_beq h7⟩,fun e=>?_,hc,?_⟩
      rw [e] at h8
      exact Nat.eq_of_beq_eq_true h8
      intro e i' z' hi' hz'
      rw [hi] at hi'; cases hi'
      rw [hz] at hz'; cases hz'
      rw [e] at h9
      exact h9
    · cases h3
  · cases h
theorem B5a{P:Program}{T:Tr VTy}(h:T.all 10 (okB P)=true)(hc:∀ t r ty,row T t=some r→r.cmp=some ty→D0Y P t ty):Z2 P T:=fun t r hr=>D0Z (Tr.all_get h hr) fun ty=>hc t r ty hr
section
variable {P:Program} {T:Tr VTy} {ρ:Rho} {O:A1r} {w:World}
theorem VOk.und{t:Nat}{r:VTy}(k:VOk P t r){d:TypeDesc}(hd:P.underlying t=some d):B6s r.k d∧D4O d=r.agg:=by
  obtain ⟨d',h1,h2,h3⟩:=k.desc
  rw [hd] at h1; cases h1
  exact ⟨h2,h3⟩
theorem C0P{t:Nat}{r:VTy}(k:VOk P t r)(w:World):(isAgg t).run P w=.ok r.agg w:=by
  obtain ⟨d,h1,_,h3⟩:=k.desc
  unfold isAgg
  rw [Sem.run_bind,Go.Eng.run_underlying (w:=w) h1,← h3]
  cases d <;> rfl
theorem I9{t:Nat}{r:VTy}(k:VOk P t r)(w:World):(sizeOf t).run P w=.ok r.sz w:=by
  obtain ⟨i,z,h1,h2,_⟩:=k.info
  simp [sizeOf,typeInfo,h1,h2]
theorem A2b{t:Nat}{r:VTy}(k:VOk P t r)(w:World):∃ z,(zeroValue t).run P w=.ok z w∧z.cells.toList=r.zero:=by
  obtain ⟨i,z,h1,_,_,h4,h5⟩:=k.info
  exact ⟨z,by simp [zeroValue,typeInfo,h1,h4],h5⟩
theorem C0Q{t:Nat}{r:VTy}(k:VOk P t r)(ha:r.agg=false)(w:World):∃ z,(zeroValue t).run P w=.ok z w∧r.zero=[z]:=by
  obtain ⟨i,z,h1,_,_,h4,h5⟩:=k.info
  refine ⟨z,by simp [zeroValue,typeInfo,h1,h4],?_⟩
  have:=k.zone ha i z h1 h4
  rw [← h5]
  cases z <;> simp [C0x] at this <;> rfl
theorem A5s{t:Nat}{r:VTy}(k:VOk P t r):All2 (A1u ρ) r.zero (A61 r):=by
  have h:=k.ones
  unfold A61
  generalize r.zero=l at h
  induction l with
  | nil=>exact .nil
  | cons a l ih =>
    simp only [List.all_cons,Bool.and_eq_true] at h
    exact .cons ⟨rfl,h.1⟩ (ih h.2)
theorem A7Y(w:World){b off:Nat}{cur:Array Value}{e:TypeId}{fz:Nat×Nat}(hb:w.heap[b]?=some (.cells cur e fz)){us:List Value}(hc:(cur.toList.drop off).take us.length=us) :
    ∀ j v,us[j]?=some v→w.cell? ((⟨b,off,none⟩:Addr).add j)=some v:=by
  intro j v hj
  rw [G8,cell_of_row w b _ cur e fz hb]
  have hlt:j < us.length:=(List.getElem?_eq_some_iff.1 hj).1
  rw [← hc,List.getElem?_take,if_pos hlt,List.getElem?_drop] at hj
  simpa using hj
theorem B90{t:Nat}{r:VTy}(k:VOk P t r){b off:Nat}{us:List Value}(hl:us.length=r.sz)(hc:∀ j v,us[j]?=some v→w.cell? ((⟨b,off,none⟩:Addr).add j)=some v) :
    (Instr.loadAt t (.pointer (some ⟨b,off,none⟩))).run P w=.ok (mkV r.agg us) w:=by
  unfold Instr.loadAt
  simp only [Instr.sureAddr,Sem.run_bind,Sem.run_pure,Result.andThen_ok,loadVar,C0P k]
  cases ha:r.agg with
  | true =>
    simp only [if_true,Sem.run_bind,I9 k,Result.andThen_ok,← hl,run_loadCells_list w _ us hc,Sem.run_pure,mkV]
  | false =>
    have h1:=k.one ha
    rw [h1] at hl
    match us,hl,hc with
    | [v],_,hc =>
      have h0:=hc 0 v rfl
      rw [G8] at h0
      simp only [Nat.add_zero] at h0
      simp [h0,mkV]
theorem A4k(H:HRel ρ O w){id:Nat}{cs:List VC}(ho:O id=.row cs){l:Nat×Nat}(hl:ρ id=some l){off n:Nat}(hle:off+n≤cs.length) :
    ∃ cur e fz us,w.heap[l.1]?=some (.cells cur e fz)∧(cur.toList.drop off).take us.length=us∧us.length=n∧All2 (A1u ρ) us ((cs.drop off).take n)∧off+n≤cur.size∧cur.size=l.2:=by
  obtain ⟨l',h1,h2⟩:=H.objs id (by rw [ho]; simp)
  rw [hl] at h1; cases h1
  rw [ho] at h2
  obtain ⟨cur,e,fz,us,rest,h3,h4,_,h5,h6⟩:=h2
  have hlen:=H1 h6
  have hx:=A2B (A3I h6 off) n
  have hn:((us.drop off).take n).length=n:=by simp; omega
  refine ⟨cur,e,fz,(us.drop off).take n,h3,?_,hn,hx,?_,h4⟩
  · rw [hn,h5,List.drop_append_of_le_length (by omega),List.take_append_of_le_length (by simp; omega)]
  · have:cur.size=us.length+rest.length:=by rw [← Array.length_toList,h5]; simp
    omega
theorem A50{h:VH}{id off n:Nat}{cs:List VC}(e:A9 h id off n=some cs):∃ all,h.obj id=.row all∧off+n≤all.length∧cs=(all.drop off).take n:=by
  unfold A9 at e
  split at e
  · rename_i all ho
    cases hb:Nat.ble (off+n) all.length <;> rw [hb] at e <;> simp only [cond_true,cond_false,reduceCtorEq] at e
    cases e
    exact ⟨all,ho,Nat.le_of_ble_eq_true hb,rfl⟩
  · cases e
theorem C0S(hcf:Z2 P T){h:VH}{t:Nat}{x v:VV}(e:C0y T h t x=some v)(H:HRel ρ h.obj w){u:Value}(hx:D9 ρ u x) :
    ∃ u',(Instr.loadAt t u).run P w=.ok u' w∧D9 ρ u' v:=by
  unfold C0y at e
  split at e
  · rename_i r id off hr
    have k:=hcf _ _ hr
    obtain ⟨l,hl,rfl⟩:=D9.r1.1 hx
    split at e
    · rename_i cs hcs
      obtain ⟨all,ho,hle,rfl⟩:=A50 hcs
      cases hb:(r.agg || Nat.beq r.sz 1) <;> rw [hb] at e <;> simp only [cond_true,cond_false,reduceCtorEq] at e
      cases e
      obtain ⟨cur,el,fz,us,h1,h2,h3,h4,_⟩:=A4k H ho hl hle
      exact ⟨_,B90 k h3 (A7Y w h1 h2),us,h4,rfl,fun ha=>by rw [h3]; exact k.one ha⟩
    · cases e
  · cases e
theorem C0T(w:World){b j:Nat}{cur:Array Value}{e:TypeId}{fz:Nat×Nat}(hb:w.heap[b]?=some (.cells cur e fz))(hf:¬ (fz.1≤j∧j < fz.2)):w.frozen? ⟨b,j,none⟩=false:=by
  simp only [World.frozen?,hb]
  cases h1:decide (fz.1≤j)
  · rfl
  · cases h2:decide (j < fz.2)
    · rfl
    · exact absurd ⟨of_decide_eq_true h1,of_decide_eq_true h2⟩ hf
theorem A36(g o:Nat)(t:TypeId)(fz:Nat×Nat):∀ (vs:List Value) (i:Nat) (cur:Array Value) (w:World),w.heap[g]?=some (.cells cur t fz)→o+i+vs.length≤cur.size→(∀ k,k < cur.size→¬ (fz.1≤k∧k < fz.2))→(∀ v∈vs,v.oneCell'=true) →
    (storeCells ⟨g,o,none⟩ vs i).run P w=.ok () (w.setRow g (cur.toList.take (o+i)++(vs++cur.toList.drop (o+i+vs.length))).toArray)
  | [],i,cur,w,hg,_,_,_=>by
    simp only [storeCells,List.nil_append,List.length_nil,Nat.add_zero,List.take_append_drop,Array.toArray_toList]
    rw [setRow_self w g cur t fz hg]
    rfl
  | v::rest,i,cur,w,hg,hl,hf,h1=>by
    have hi:o+i < cur.size:=by simp at hl; omega
    have hcell:w.cell? ⟨g,o+i,none⟩=some cur[o+i]:=by simp [World.cell?,hg,hi]
    have hfro:=C0T w (j:=o+i) hg (hf _ hi)
    have hst:(store ((⟨g,o,none⟩:Addr).add i) v).run P w=.ok () (w.setRow g (cur.setIfInBounds (o+i) v)):=by
      rw [G8,run_store P w _ v _ (h1 v (by simp)),hcell]
      simp [hfro,setCell_eq_setRow w g (o+i) cur t fz v hg]
    have ih:=A36 g o t fz rest (i+1) (cur.setIfInBounds (o+i) v) (w.setRow g (cur.setIfInBounds (o+i) v)) (setRow_heap w g cur _ t _ hg) (by simp at hl ⊢; omega) (by simpa using hf) (fun x hx=>h1 x (by simp [hx]))
    simp only [storeCells,Sem.run_bind,hst,Result.andThen_ok,ih,setRow_setRow]
    congr 3
    rw [Array.toList_setIfInBounds]
    have hlt:o+i < cur.toList.length:=by simpa using hi
    have e1:(cur.toList.set (o+i) v).take (o+(i+1))=cur.toList.take (o+i)++[v]:=by
      rw [show o+(i+1)=(o+i)+1 by omega,List.take_add_one,List.take_set_of_le (Nat.le_refl _),List.getElem?_set_self hlt]; rfl
    have e2:(cur.toList.set (o+i) v).drop (o+(i+1)+rest.length)=cur.toList.drop (o+i+(v::rest).length):=by
      rw [List.drop_set_of_lt (by omega)]
      congr 1
      simp; omega
    rw [e1,e2]
    simp
theorem Since.setRow(w:World)(b:Nat)(cs:Array Value):Since (fun k=>k=b) w (w.setRow b cs):=T4 w
theorem C4i(hcf:Z2 P T){h h':VH}{t:Nat}{a v:VV}(e:C0z T h t a v=some h')(H:HRel ρ h.obj w){ua uv:Value}(ha:D9 ρ ua a)(hv:D9 ρ uv v) :
    ∃ w',(Instr.storeAt t ua uv).run P w=.ok () w'∧OStep ρ h.obj w ρ h'.obj w'∧h'.nxt=h.nxt:=by
  unfold C0z at e
  split at e
  · rename_i r id off ag cs hr
    have k:=hcf _ _ hr
    obtain ⟨l,hl,rfl⟩:=D9.r1.1 ha
    split at e
    · rename_i old ho
      cases hb:(Nat.beq cs.length r.sz && Nat.ble (off+r.sz) old.length) <;> rw [hb] at e <;> simp only [cond_true,cond_false,reduceCtorEq] at e
      simp only [Bool.and_eq_true] at hb
      have hcl:=Nat.eq_of_beq_eq_true hb.1
      have hle:=Nat.le_of_ble_eq_true hb.2
      obtain ⟨hO,hn⟩:=VH.obj_put e
      have hcells:=A4Z.cells (show A4Z ρ uv ⟨ag,cs⟩ from hv)
      obtain ⟨l',h1,h2⟩:=H.objs id (by rw [ho]; simp)
      rw [hl] at h1; cases h1
      rw [ho] at h2
      obtain ⟨cur,el,fz,us,rest,h3,h4,h5,h6,h7⟩:=h2
      have hlen:=H1 h7
      have hcl2:=H1 hcells
      have hsz:cur.size=us.length+rest.length:=by rw [← Array.length_toList,h6]; simp
      have hst:=A36 (P:=P) l.1 off el fz uv.cells.toList 0 cur w h3 (by simp at hcl2 ⊢; omega) h5.at (fun v hv=>by
        obtain ⟨i,hi⟩:=List.mem_iff_getElem?.1 hv
        have hlt:=(List.getElem?_eq_some_iff.1 hi).1
        have:∀ {l:List Value} {m:List VC},All2 (A1u ρ) l m→∀ x∈l,x.oneCell'=true:=by
          intro l m hh
          induction hh with
          | nil=>intro x hx; cases hx
          | cons r _ ih=>intro x hx; cases hx with
            | head=>exact r.oneCell
            | tail _ hx=>exact ih x hx
        exact this hcells v hv)
      simp only [Nat.add_zero] at hst
      have hrun:(Instr.storeAt t (.pointer (some ⟨l.1,off,none⟩)) uv).run P w=.ok () (w.setRow l.1 (cur.toList.take off++(uv.cells.toList++cur.toList.drop (off+uv.cells.toList.length))).toArray):=by
        unfold Instr.storeAt
        have:uv.cells.size=r.sz:=by rw [← Array.length_toList,hcl2,hcl]
        simp only [Instr.sureAddr,Sem.run_bind,Sem.run_pure,Result.andThen_ok,storeVar,I9 k,this,ne_eq,_root_.not_true,if_false]
        exact hst
      refine ⟨_,hrun,?_,hn⟩
      · rw [hO]
        refine OStep.write H hl (by rw [ho]; simp) (T4 w) ?_
        have hul:uv.cells.toList.length=cs.length:=hcl2
        refine ⟨_,el,fz,us.take off++(uv.cells.toList++us.drop (off+cs.length)),rest,setRow_heap w l.1 cur _ el fz h3,?_,?_,?_,?_⟩
        · simp only [List.size_toArray,List.length_append,List.length_take,List.length_drop,Array.length_toList] at hul ⊢
          omega
        · have:(cur.toList.take off++(uv.cells.toList++cur.toList.drop (off+uv.cells.toList.length))).toArray.size=cur.size:=by
            simp only [List.size_toArray,List.length_append,List.length_take,List.length_drop,Array.length_toList] at hul ⊢
            omega
          rw [this]; exact h5
        · simp only [h6]
          rw [hul,List.take_append_of_le_length (by omega),List.drop_append_of_le_length (by omega)]
          simp
        · exact L1 (A2B h7 off) (L1 hcells (A3I h7 _))
    · cases e
  · cases e
end
end Go.Vm
namespace Go.Vm
open Go.Eng Go.RowKit
def A37(ρ:Rho)(n:Nat)(ρ':Rho)(n':Nat):Prop:=(ρ'=ρ∧n'=n)∨∃ l,ρ'=ρ.upd n l∧n'=n+1
theorem OStep.weaken{ρ ρ':Rho}{O P O':A1r}{w w':World}(h:OStep ρ P w ρ' O' w')(sub:∀ id,P id≠.gone→O id≠.gone):OStep ρ O w ρ' O' w':=by
  have hin:∀ b,Own ρ P b→Own ρ O b:=fun b ⟨id,l,h1,h2,h3⟩=>⟨id,l,sub id h1,h2,h3⟩
  exact ⟨h.le,h.rel,h.since.trans (.refl _ _) hin (fun _ _ h=>h),fun id hi=>let ⟨l,h1,h2⟩:=h.own id hi; ⟨l,h1,h2.imp (fun h=>h) (hin _)⟩⟩
theorem OStep.drop{ρ ρ':Rho}{O O':A1r}{w w':World}{id:Nat}(h:OStep ρ (O.upd id .gone) w ρ' O' w'):OStep ρ O w ρ' O' w':=h.weaken fun j hj=>by
  unfold A1r.upd at hj
  by_cases e:j=id
  · rw [if_pos e] at hj; exact absurd rfl hj
  · rw [if_neg e] at hj; exact hj
theorem OStep.move{ρ:Rho}{O:A1r}{w w':World}(H:HRel ρ O w){id id':Nat}{l:Nat×Nat}{o:VO}(hid:ρ id=some l)(hlive:O id≠.gone)(hn:ρ id'=none)(hs:Since (fun b=>b=l.1) w w')(ho:A2f (ρ.upd id' l) w' l o) :
    OStep ρ O w (ρ.upd id' l) ((O.upd id .gone).upd id' o) w':=by
  have hle:=Rho.le_upd (l:=l) hn
  have hown:Own ρ O l.1:=⟨id,l,hlive,hid,rfl⟩
  have new:(ρ.upd id' l) id'=some l:=by simp [Rho.upd]
  have hne:id≠id':=fun e=>by subst e; rw [hn] at hid; cases hid
  have oth:∀ j,j≠id→O j≠.gone→∃ m,ρ j=some m∧(ρ.upd id' l) j=some m∧A2f (ρ.upd id' l) w' m (O j)∧m.1≠l.1∧j≠id':=by
    intro j hj hg
    obtain ⟨m,h1,h2⟩:=H.objs j hg
    have hlt:=h2.lt hg
    have hd:m.1≠l.1:=fun e=>hj (H.apart j id m l hg hlive h1 hid e)
    exact ⟨m,h1,hle _ _ h1,h2.mono hle (hs.block _ hlt hd),hd,fun e=>by subst e; rw [hn] at h1; cases h1⟩
  have val:∀ j,((O.upd id .gone).upd id' o) j=if j=id' then o else if j=id then .gone else O j:=fun j=>rfl
  refine ⟨hle,⟨fun j hj=>?_,fun j j' m m' hj hj' h1 h2 h3=>?_⟩,hs.trans (.refl _ _) (fun b e=>e ▸ hown) (fun _ _ h=>h),fun j hj=>?_⟩
  · rw [val] at hj ⊢
    by_cases e:j=id'
    · rw [if_pos e,e]; exact ⟨l,new,ho⟩
    · rw [if_neg e] at hj ⊢
      by_cases e2:j=id
      · rw [if_pos e2] at hj; exact absurd rfl hj
      · rw [if_neg e2] at hj ⊢
        obtain ⟨m,_,k2,k3,_⟩:=oth j e2 hj
        exact ⟨m,k2,k3⟩
  · rw [val] at hj hj'
    by_cases e:j=id' <;> by_cases e':j'=id'
    · rw [e,e']
    · rw [if_neg e'] at hj'
      by_cases e2:j'=id
      · rw [if_pos e2] at hj'; exact absurd rfl hj'
      · rw [if_neg e2] at hj'
        obtain ⟨x,_,k2,_,k4,_⟩:=oth j' e2 hj'
        rw [e,new] at h1; cases h1
        rw [k2] at h2; cases h2
        exact absurd h3.symm k4
    · rw [if_neg e] at hj
      by_cases e2:j=id
      · rw [if_pos e2] at hj; exact absurd rfl hj
      · rw [if_neg e2] at hj
        obtain ⟨x,_,k2,_,k4,_⟩:=oth j e2 hj
        rw [e',new] at h2; cases h2
        rw [k2] at h1; cases h1
        exact absurd h3 k4
    · rw [if_neg e] at hj
      rw [if_neg e'] at hj'
      by_cases e2:j=id
      · rw [if_pos e2] at hj; exact absurd rfl hj
      · by_cases e3:j'=id
        · rw [if_pos e3] at hj'; exact absurd rfl hj'
        · rw [if_neg e2] at hj
          rw [if_neg e3] at hj'
          obtain ⟨x,q1,k2,_⟩:=oth j e2 hj
          obtain ⟨y,q2,k3,_⟩:=oth j' e3 hj'
          rw [k2] at h1; cases h1
          rw [k3] at h2; cases h2
          exact H.apart j j' _ _ hj hj' q1 q2 h3
  · rw [val] at hj
    by_cases e:j=id'
    · rw [e]; exact ⟨l,new,.inr hown⟩
    · rw [if_neg e] at hj
      by_cases e2:j=id
      · rw [if_pos e2] at hj; exact absurd rfl hj
      · rw [if_neg e2] at hj
        obtain ⟨m,k1,k2,_⟩:=oth j e2 hj
        exact ⟨m,k2,.inr ⟨j,m,hj,k1,rfl⟩⟩
section
variable {P:Program} {T:Tr VTy} {ρ:Rho} {O:A1r} {w:World}
theorem A51{h h':VH}{cs:List VC}{id:Nat}(e:newRow h cs=some (id,h'))(H:HRel ρ h.obj w)(hn:ρ h.nxt=none){cur:Array Value}{el:TypeId}{us rest:List Value}(hc:cur.toList=us++rest)(hu:All2 (A1u ρ) us cs)
    {w1:World} (hw:Since (fun _=>False) w w1) (hsz:w1.heap.size=w.heap.size) :
    id=h.nxt∧h'.nxt=h.nxt+1∧OStep ρ h.obj w (ρ.upd h.nxt (w.heap.size,cur.size)) h'.obj (w1.alloc (.cells cur el))∧(ρ.upd h.nxt (w.heap.size,cur.size)) id=some (w.heap.size,cur.size):=by
  obtain ⟨rfl,hO,hx⟩:=VH.obj_new e
  refine ⟨rfl,hx,?_,by simp [Rho.upd]⟩
  rw [hO]
  refine OStep.new H hn (hw.trans (N3 w1 _) (fun _ h=>h) (fun _ _ h=>h)) (Nat.le_refl _) ?_
  refine ⟨cur,el,(0,0),us,rest,?_,rfl,.inl rfl,hc,U7 (fun _ _=>A1u.mono (Rho.le_upd hn)) hu⟩
  show(w1.alloc (.cells cur el)).heap[w.heap.size]?=_
  rw [← hsz]
  exact heap_alloc_new w1 _
theorem C4j(hcf:Z2 P T){h h':VH}{t id:Nat}{r:VTy}(hr:row T t=some r)(e:newRow h (A61 r)=some (id,h'))(H:HRel ρ h.obj w)(hn:ρ h.nxt=none) :
    ∃ u w' ρ',(Instr.alloc t true (.tuple #[])).run P w=.ok u w'∧D9 ρ' u (one (.ptr id 0))∧OStep ρ h.obj w ρ' h'.obj w'∧A37 ρ h.nxt ρ' h'.nxt:=by
  have k:=hcf _ _ hr
  obtain ⟨z,hz,hzc⟩:=A2b k w
  obtain ⟨rfl,hx,st,hl⟩:=A51 e H hn (cur:=z.cells) (el:=t) (us:=r.zero) (rest:=[]) (by rw [hzc]; simp) (A5s k) (.refl _ w) rfl
  refine ⟨_,_,_,?_,D9.one.2 ⟨_,hl,rfl⟩,st,.inr ⟨_,rfl,hx⟩⟩
  simp [Instr.alloc,hz,newVar,Go.newRow]
theorem D10{h h':VH}{t id:Nat}{x:VR}{u:Value}(hu:A4Z ρ u x)(e:newRow h x.cs=some (id,h'))(H:HRel ρ h.obj w)(hn:ρ h.nxt=none) :
    ∃ v w' ρ',(Instr.box t u).run P w=.ok v w'∧D9 ρ' v (one (.ptr id 0))∧OStep ρ h.obj w ρ' h'.obj w'∧A37 ρ h.nxt ρ' h'.nxt:=by
  obtain ⟨rfl,hx,st,hl⟩:=A51 e H hn (cur:=u.cells) (el:=t) (us:=u.cells.toList) (rest:=[]) (by simp) hu.cells (.refl _ w) rfl
  refine ⟨_,_,_,?_,D9.one.2 ⟨_,hl,rfl⟩,st,.inr ⟨_,rfl,hx⟩⟩
  simp [Instr.box,newVar,Go.newRow]
theorem A71{place:Nat→Option (Nat×Nat)}:∀ {ps:List (Nat×VR)} {vs:List (Nat×Value)} {cs cs':List VC} {us:Array Value},All2 (fun (a:Nat×Value) (b:Nat×VR)=>a.1=b.1∧A4Z ρ a.2 b.2) vs ps →
    B8V place cs ps=some cs'→All2 (A1u ρ) us.toList cs→∃ us',Instr.fill place us vs=some us'∧All2 (A1u ρ) us'.toList cs'
  | [],_,cs,cs',us,hv,e,hu=>by
    cases hv
    cases e
    exact ⟨us,rfl,hu⟩
  | (i,x)::ps,_,cs,cs',us,hv,e,hu=>by
    cases hv with
    | cons hh ht =>
    rename_i a l
    obtain ⟨j,v⟩:=a
    obtain ⟨rfl,hr⟩:=(hh:j=i∧A4Z ρ v x)
    simp only [B8V] at e
    split at e
    · rename_i off sz hp
      cases hb:(Nat.beq x.cs.length sz && Nat.ble (off+sz) cs.length) <;> rw [hb] at e <;> simp only [cond_true,cond_false,reduceCtorEq] at e
      simp only [Bool.and_eq_true] at hb
      have h1:=Nat.eq_of_beq_eq_true hb.1
      have h2:=Nat.le_of_ble_eq_true hb.2
      have hc:=hr.cells
      have hcl:=H1 hc
      have hul:=H1 hu
      have hvs:v.cells.size=sz:=by rw [← Array.length_toList,hcl,h1]
      have hn:¬ (v.cells.size≠sz∨off+v.cells.size > us.size):=by
        have:us.size=cs.length:=by rw [← Array.length_toList,hul]
        omega
      have hf:=A5P off v.cells.toList 0 us (by rw [Array.length_toList]; omega)
      have hz:v.cells.zipIdx.foldl (fun cs (c,j)=>cs.setIfInBounds (off+j) c) us=(over us.toList off v.cells.toList).toArray:=by
        rw [← Array.foldl_toList,Array.toList_zipIdx]
        apply Array.ext'
        simpa using hf
      have hu':All2 (A1u ρ) (over us.toList off v.cells.toList).toArray.toList (B2Y cs off x.cs):=by
        unfold over B2Y
        simp only [List.append_assoc]
        have hl2:v.cells.toList.length=x.cs.length:=hcl
        rw [hl2]
        exact L1 (A2B hu off) (L1 hc (A3I hu _))
      obtain ⟨us',k1,k2⟩:=A71 ht e hu'
      refine ⟨us',?_,k2⟩
      simp only [Instr.fill,hp]
      have:(v.cells.size≠sz || off+v.cells.size > us.size)=false:=by simpa using hn
      simp only [this,Bool.false_eq_true,if_false]
      rw [hz]
      exact k1
    · cases e
theorem A65{arg:Operand→Option VV}{ev:Operand→Value}:∀ {ps:List (Nat×Operand)} {rs:List (Nat×VR)},B2Z arg ps=some rs→(∀ p∈ps,∀ y,arg p.2=some y→D9 ρ (ev p.2) y) →
    All2 (fun (a:Nat×Value) (b:Nat×VR)=>a.1=b.1∧A4Z ρ a.2 b.2) (ps.map fun p=>(p.1,ev p.2)) rs
  | [],_,e,_=>by cases e; exact .nil
  | (i,x)::ps,rs,e,ha=>by
    simp only [B2Z] at e
    split at e
    · rename_i y m h1 h2
      cases e
      exact .cons ⟨rfl,ha (i,x) (by simp) _ h1⟩ (A65 h2 fun p hp=>ha p (by simp [hp]))
    · cases e
theorem B6t(hcf:Z2 P T):∀ {fs:List Field},A7W T (fs.map fun f=>(f.offset,f.type))=true→∀ f∈fs,∃ r,row T f.type=some r∧VOk P f.type r
  | [],_,f,hf=>by cases hf
  | g::fs,h,f,hf=>by
    simp only [List.map_cons,A7W] at h
    split at h
    · rename_i r hr
      rcases List.mem_cons.1 hf with e | e
      · exact ⟨r,by rw [e]; exact hr,by rw [e]; exact hcf _ _ hr⟩
      · exact B6t hcf h f e
    · cases h
theorem A9q{t:Nat}{r:VTy}(k:VOk P t r):P.cellsOf t=r.sz:=by
  obtain ⟨i,z,hi,hs,_⟩:=k.info
  simp [Program.cellsOf,hi,hs]
theorem C4k(hcf:Z2 P T){t:Nat}{ps:List (Nat×VR)}{v:VV}(e:C0A T t ps=some v){vals:Array (Nat×Value)}(hv:All2 (fun (a:Nat×Value) (b:Nat×VR)=>a.1=b.1∧A4Z ρ a.2 b.2) vals.toList ps) :
    ∃ u,(Instr.build t vals).run P w=.ok u w∧D9 ρ u v:=by
  unfold C0A at e
  split at e
  · rename_i r hr
    have k:=hcf _ _ hr
    obtain ⟨d,hd,hdk,_⟩:=k.desc
    obtain ⟨z,hz,hzc⟩:=A2b k w
    have hz0:All2 (A1u ρ) z.cells.toList (A61 r):=by rw [hzc]; exact A5s k
    split at e
    · rename_i fs hk
      rw [hk] at hdk
      obtain ⟨a,rfl,rfl⟩:=hdk
      cases hb:A7W T (a.toList.map fun f=>(f.offset,f.type)) <;> rw [hb] at e <;> simp only [cond_true,cond_false,reduceCtorEq] at e
      have hall:=B6t hcf hb
      split at e
      · rename_i cs hfill
        cases e
        have hplaces:(a.mapM fun f=>do pure (f.offset,← sizeOf f.type):Sem (Array (Nat×Nat))).run P w=.ok (a.map fun f=>(f.offset,P.cellsOf f.type)) w:=by
          rw [Array.mapM_eq_mapM_toList]
          rw [Sem.run_map,B0e _ (fun f=>(f.offset,P.cellsOf f.type))]
          · simp only [Result.andThen_ok]
            congr 1
            apply Array.ext'; simp
          · intro f hf
            obtain ⟨rf,_,hrf⟩:=hall f hf
            simp [I9 hrf,A9q hrf]
        have hsame:C7B T (a.toList.map fun f=>(f.offset,f.type))=fun i=>(a.map fun f=>(f.offset,P.cellsOf f.type))[i]?:=by
          funext i
          unfold C7B
          simp only [List.getElem?_map,Array.getElem?_toList,Array.getElem?_map]
          cases hi:a[i]? with
          | none=>rfl
          | some f =>
            obtain ⟨rf,h1,h2⟩:=hall f (List.mem_of_getElem? (i:=i) (by simpa using hi))
            simp [h1,A9q h2]
        rw [hsame] at hfill
        obtain ⟨us',h1,h2⟩:=A71 hv hfill hz0
        refine ⟨.agg us',?_,us'.toList,h2,by simp [mkV],fun h=>by cases h⟩
        unfold Instr.build
        simp only [Sem.run_bind,hz,Result.andThen_ok,Go.Eng.run_underlying hd,hplaces,h1,Sem.run_pure]
      · cases e
    · rename_i n el hk
      rw [hk] at hdk
      cases (hdk:d=.array n el)
      split at e
      · rename_i re hre
        have ke:=hcf _ _ hre
        split at e
        · rename_i cs hfill
          cases e
          obtain ⟨us',h1,h2⟩:=A71 hv hfill hz0
          refine ⟨.agg us',?_,us'.toList,h2,by simp [mkV],fun h=>by cases h⟩
          unfold Instr.build
          simp only [Sem.run_bind,hz,Result.andThen_ok,Go.Eng.run_underlying hd,I9 ke,h1,Sem.run_pure]
        · cases e
      · cases e
    · cases e
  · cases e
theorem B0E{us:List Value}{cs:List VC}(h:All2 (A1u ρ) us cs):∀ n,All2 (A1u ρ) (List.replicate n us).flatten (B8W n cs)
  | 0=>.nil
  | n+1=>by
    rw [List.replicate_succ,List.flatten_cons]
    exact L1 h (B0E h n)
theorem V5(hcf:Z2 P T){t e:Nat}{r:VTy}(hr:row T t=some r)(hk:r.k=.slice e):P.underlying t=some (.slice e):=by
  obtain ⟨d,h1,h2,_⟩:=(hcf _ _ hr).desc
  rw [hk] at h2
  cases (h2:d=.slice e)
  exact h1
theorem B0F(hcf:Z2 P T){h h':VH}{t n:Nat}{ps:List (Nat×VR)}{v:VV}(e:A33 T h t n ps=some (v,h')){vals:Array (Nat×Value)}(hv:All2 (fun (a:Nat×Value) (b:Nat×VR)=>a.1=b.1∧A4Z ρ a.2 b.2) vals.toList ps)
    (H:HRel ρ h.obj w) (hn:ρ h.nxt=none) :
    ∃ u w' ρ',(Instr.buildSlice t n vals).run P w=.ok u w'∧D9 ρ' u v∧OStep ρ h.obj w ρ' h'.obj w'∧A37 ρ h.nxt ρ' h'.nxt:=by
  unfold A33 at e
  split at e
  · rename_i r hr
    split at e
    · rename_i el hk
      have hu:=V5 hcf hr hk
      split at e
      · rename_i re hre
        have ke:=hcf _ _ hre
        cases hb:(Nat.ble (n*re.sz) 16777216 && Nat.blt 0 re.sz) <;> rw [hb] at e <;> simp only [cond_true,cond_false,reduceCtorEq] at e
        simp only [Bool.and_eq_true] at hb
        have hsz:=Nat.le_of_ble_eq_true hb.1
        have hpos:0 < re.sz:=Nat.lt_of_lt_of_le (Nat.lt_succ_self 0) (Nat.le_of_ble_eq_true hb.2)
        split at e
        · rename_i cs hfill
          split at e
          · rename_i id h1 hnr
            cases e
            obtain ⟨z,hz,hzc⟩:=A2b ke w
            have hzs:z.cells.size=re.sz:=by rw [← Array.length_toList,hzc,ke.len]
            have base:∃ z0:Array Value,((n*re.sz=0∧z0=#[])∨(¬ n*re.sz=0∧z0=z.cells))∧(madeCells z0 (n*re.sz)).toList=(List.replicate n re.zero).flatten:=by
              by_cases h0:n*re.sz=0
              · refine ⟨#[],.inl ⟨h0,rfl⟩,?_⟩
                rw [h0]
                have hn0:n=0:=by rcases Nat.mul_eq_zero.1 h0 with h | h; exact h; omega
                subst hn0
                simp [madeCells]
              · refine ⟨z.cells,.inr ⟨h0,rfl⟩,?_⟩
                rw [← hzs,A12,hzc]
            obtain ⟨z0,hz0,hz1⟩:=base
            have hf0:All2 (A1u ρ) (madeCells z0 (n*re.sz)).toList (B8W n (A61 re)):=by rw [hz1]; exact B0E (A5s ke) n
            obtain ⟨us',k1,k2⟩:=A71 hv hfill hf0
            obtain ⟨rfl,hx,st,hl⟩:=A51 hnr H hn (cur:=us') (el:=el) (us:=us'.toList) (rest:=[]) (by simp) k2 (.refl _ w) rfl
            have hlen:us'.size=n*re.sz:=by
              have h5:∀ {place} {vs:List (Nat×Value)} {a b:Array Value},Instr.fill place a vs=some b→b.size=a.size:=by
                intro place vs
                induction vs with
                | nil=>intro a b h; cases h; rfl
                | cons p vs ih =>
                  intro a b h
                  obtain ⟨i,v⟩:=p
                  simp only [Instr.fill] at h
                  split at h
                  · cases h
                  · split at h
                    · cases h
                    · rw [ih h]
                      rw [← Array.foldl_toList]
                      have:∀ (l:List (Value×Nat)) (off:Nat) (a:Array Value),(l.foldl (fun cs (x:Value×Nat)=>cs.setIfInBounds (off+x.2) x.1) a).size=a.size:=by
                        intro l off
                        induction l with
                        | nil=>intro a; rfl
                        | cons x l ih2=>intro a; rw [List.foldl_cons,ih2]; simp
                      exact this _ _ a
              rw [h5 k1]; simp [madeCells]
            refine ⟨.slice (some ⟨w.heap.size,0,none⟩) n n,_,_,?_,?_,st,.inr ⟨_,rfl,hx⟩⟩
            · unfold Instr.buildSlice
              simp only [Sem.run_bind,Go.Eng.run_underlying hu,Result.andThen_ok,I9 ke]
              rw [if_neg (by omega)]
              have hfill:Instr.fill (fun i=>some (i*re.sz,re.sz)) ((Array.range (n*re.sz)).map fun x=>z0[x % z0.size]!) vals.toList=some us':=k1
              rcases hz0 with ⟨h0,rfl⟩ | ⟨h0,rfl⟩
              · rw [if_pos h0]
                simp only [Sem.run_bind,Sem.run_pure,Result.andThen_ok,hfill]
                simp [Go.newRow]
              · rw [if_neg h0]
                simp only [Sem.run_bind,hz,Sem.run_pure,Result.andThen_ok,hfill]
                simp [Go.newRow]
            · exact D9.one.2 ⟨_,_,n,hl,rfl,⟨Nat.le_refl _,by have:=Nat.le_mul_of_pos_right n (show 0 < re.sz by omega); unfold maxLen; omega⟩,fun _=>⟨rfl,by simp [hlen]⟩⟩
          · cases e
        · cases e
      · cases e
    · cases e
  · cases e
theorem B33(hcf:Z2 P T){h h':VH}{t el id:Nat}{r re:VTy}{k1 k2:IntKind}{m n:Int}(hr:row T t=some r)(hk:r.k=.slice el)(hre:row T el=some re)(hb:Y8 n m re.bytes=true)(hpos:0 < re.sz)
    (e:newRow h (B8W n.toNat (A61 re))=some (id,h')) (H:HRel ρ h.obj w) (hn:ρ h.nxt=none) :
    ∃ u w' ρ',(Instr.makeSlice t (.int k1 n) (.int k2 m)).run P w=.ok u w'∧D9 ρ' u (one (.sl id 0 n.toNat re.sz))∧OStep ρ h.obj w ρ' h'.obj w'∧A37 ρ h.nxt ρ' h'.nxt:=by
  have hu:=V5 hcf hr hk
  have ke:=hcf _ _ hre
  obtain ⟨i,z,hi,hs,hby,hz,hc⟩:=ke.info
  have hb':0≤n∧n≤m∧(re.bytes:Int)*m≤140737488355328∧m≤281474976710656:=of_decide_eq_true hb
  have hrun:=run_make (P:=P) w t el i z hu hi hz k1 k2 n m hb'.1 hb'.2.1 (by rw [hby]; omega) (by omega)
  rw [hs] at hrun
  have hzs:z.cells.size=re.sz:=by rw [← Array.length_toList,hc,ke.len]
  have hcells:(madeCells z.cells (m.toNat*re.sz)).toList=(List.replicate n.toNat re.zero).flatten++(List.replicate (m.toNat - n.toNat) re.zero).flatten:=by
    rw [← hzs,A12,hc,← List.flatten_append,List.replicate_append_replicate]
    congr 2
    omega
  obtain ⟨rfl,hx,st,hl⟩:=A51 e H hn (cur:=madeCells z.cells (m.toNat*re.sz)) (el:=el) (us:=(List.replicate n.toNat re.zero).flatten) (rest:=(List.replicate (m.toNat - n.toNat) re.zero).flatten) hcells (B0E (A5s ke) _) (.refl _ w) rfl
  refine ⟨_,_,_,hrun,D9.one.2 ⟨_,_,m.toNat,hl,rfl,by unfold maxLen; omega,fun _=>⟨rfl,by simp [madeCells]⟩⟩,st,.inr ⟨_,rfl,hx⟩⟩
end
end Go.Vm
namespace Go.Vm
open Go.Eng Go.RowKit
section
variable {P:Program} {T:Tr VTy} {ρ:Rho} {O:A1r} {w:World}
theorem A05(k:IntKind)(n:Int):D9 ρ (.int k n) (A8I k n):=D9.one.2 ⟨rfl,rfl⟩
theorem A3J(b:Bool):D9 ρ (.bool b) (A4Y b):=D9.one.2 ⟨rfl,rfl⟩
theorem D11{op:BinOp}{t:TypeId}{k:IntKind}{m n:Int}{v:VV}(e:bin op k m n=some v):∃ u,(binOp op t (.int k m) (.int k n))=(pure u:Sem Value)∧D9 ρ u v:=by
  have hi:∀ {x:Int},Y5 x (fun n=>some (A8I k n))=some v→D9 ρ (.int k x) v:=by
    intro x h; rw [S4] at h; cases h; exact A05 k x
  have hb:∀ {x:Bool},A3l x (fun b=>some (A4Y b))=some v→D9 ρ (.bool x) v:=by
    intro x h; rw [A5q] at h; cases h; exact A3J x
  cases op <;> simp only [bin] at e
  case add=>exact ⟨_,by simp [binOp,Op.intArith]; rfl,hi e⟩
  case sub=>exact ⟨_,by simp [binOp,Op.intArith]; rfl,hi e⟩
  case mul=>exact ⟨_,by simp [binOp,Op.intArith]; rfl,hi e⟩
  case quo =>
    cases hz:eqI n 0 <;> rw [hz] at e <;> simp only [cond_true,cond_false,reduceCtorEq] at e
    have hz':n≠0:=by simpa [eqI] using hz
    exact ⟨_,by simp [binOp,Op.intDiv,hz']; rfl,hi e⟩
  case rem =>
    cases hz:eqI n 0 <;> rw [hz] at e <;> simp only [cond_true,cond_false,reduceCtorEq] at e
    have hz':n≠0:=by simpa [eqI] using hz
    exact ⟨_,by simp [binOp,Op.intDiv,hz']; rfl,hi e⟩
  case and=>exact ⟨_,by simp only [binOp,Op.intBits,ne_eq,_root_.not_true,if_false]; rfl,hi e⟩
  case or=>exact ⟨_,by simp only [binOp,Op.intBits,ne_eq,_root_.not_true,if_false]; rfl,hi e⟩
  case xor=>exact ⟨_,by simp only [binOp,Op.intBits,ne_eq,_root_.not_true,if_false]; rfl,hi e⟩
  case andNot=>exact ⟨_,by simp only [binOp,Op.intBits,ne_eq,_root_.not_true,if_false]; rfl,hi e⟩
  case eql=>exact ⟨_,by simp only [binOp,Op.intCmp,ne_eq,_root_.not_true,if_false]; rfl,hb e⟩
  case neq=>exact ⟨_,by simp only [binOp,Op.intCmp,ne_eq,_root_.not_true,if_false]; rfl,hb e⟩
  case lss=>exact ⟨_,by simp only [binOp,Op.intCmp,ne_eq,_root_.not_true,if_false]; rfl,hb e⟩
  case leq=>exact ⟨_,by simp only [binOp,Op.intCmp,ne_eq,_root_.not_true,if_false]; rfl,hb e⟩
  case gtr=>exact ⟨_,by simp only [binOp,Op.intCmp,ne_eq,_root_.not_true,if_false]; rfl,hb e⟩
  case geq=>exact ⟨_,by simp only [binOp,Op.intCmp,ne_eq,_root_.not_true,if_false]; rfl,hb e⟩
  all_goals cases e
theorem A6x(op:BinOp)(t:TypeId)(x y:Operand)(a b:Bool):(eqGuard op t x y (.bool a) (.bool b)).run P w=.ok () w:=by
  unfold eqGuard
  split <;> simp
theorem A4G(op:BinOp)(t:TypeId)(x y:Operand)(a b:ByteArray):(eqGuard op t x y (.string a) (.string b)).run P w=.ok () w:=by
  unfold eqGuard
  split <;> simp
theorem B6u{op:BinOp}{t:TypeId}{k k':IntKind}{m n:Int}(hn:ltI n 0=false) :
    (binOp .shl t (.int k m) (.int k' n))=(pure (.int k (A2v k m n)):Sem Value)∧(binOp .shr t (.int k m) (.int k' n))=(pure (.int k (A0q k m n)):Sem Value):=by
  have hz':¬ n < 0:=by simpa [ltI] using hn
  exact ⟨by simp [binOp,Op.shift,hz']; rfl,by simp [binOp,Op.shift,hz']; rfl⟩
theorem A3K{op:BinOp}{b:Bool}{v:VV}(e:C3E op b=some v):∃ c,D9 ρ (.bool c) v∧((op=.eql∧c=b)∨(op=.neq∧c=!b)):=by
  unfold C3E at e
  split at e
  · rw [A5q] at e; cases e; exact ⟨b,A3J b,.inl ⟨rfl,rfl⟩⟩
  · rw [A5q] at e; cases e; exact ⟨!b,A3J _,.inr ⟨rfl,rfl⟩⟩
  · cases e
theorem A9r{t:TypeId}(h:P.underlying t=some .bool)(a b:Bool):(Op.equal t (.bool a) (.bool b)).run P w=.ok (a == b) w:=by
  unfold Op.equal Op.maxDepth Op.equalIn
  simp [Go.Eng.run_underlying h]
theorem A5t{t e:TypeId}(h:P.underlying t=some (.pointer e))(a:Option Addr):(Op.equal t (.pointer a) (.pointer none)).run P w=.ok a.isNone w:=by
  unfold Op.equal Op.maxDepth Op.equalIn
  cases a <;> simp [Go.Eng.run_underlying h]
theorem D12{k:IntKind}{cs rest:List VC}{x:Int}(e:rdI k cs=some (x,rest)):cs=.v (.int k x)::rest:=by
  unfold rdI at e
  split at e
  · rename_i j n l
    cases hb:decide (j=k) <;> rw [hb] at e <;> simp only [cond_true,cond_false,reduceCtorEq] at e
    cases e
    rw [of_decide_eq_true hb]
  · cases e
theorem D13{cs rest:List VC}{x:Bool}(e:rdB cs=some (x,rest)):cs=.v (.bool x)::rest:=by
  unfold rdB at e
  split at e
  · cases e; rfl
  · cases e
theorem C0U(M:Mem):∀ {t:Ty} {cs rest:List VC} {x:t.den} {us:List Value},rdT t cs=some (x,rest)→All2 (A1u ρ) us cs→∃ u1 u2,us=u1++u2∧E8 M t x u1∧All2 (A1u ρ) u2 rest:=by
  intro t
  induction t with
  | int k =>
    intro cs rest x us e h
    have:=D12 e
    subst this
    cases h with
    | cons r h=>obtain ⟨rfl,_⟩:=r; exact ⟨[_],_,rfl,rfl,h⟩
  | bool =>
    intro cs rest x us e h
    have:=D13 e
    subst this
    cases h with
    | cons r h=>obtain ⟨rfl,_⟩:=r; exact ⟨[_],_,rfl,rfl,h⟩
  | unit =>
    intro cs rest x us e h
    cases e
    exact ⟨[],us,rfl,rfl,h⟩
  | pair a b iha ihb =>
    intro cs rest x us e h
    simp only [rdT] at e
    split at e
    · rename_i x1 l1 h1
      split at e
      · rename_i y1 l2 h2
        cases e
        obtain ⟨u1,u2,rfl,f1,r1⟩:=iha h1 h
        obtain ⟨u3,u4,rfl,f2,r2⟩:=ihb h2 r1
        exact ⟨u1++u3,u4,by simp,⟨u1,u3,rfl,f1,f2⟩,r2⟩
      · cases e
    · cases e
  | arr n t ih =>
    intro cs rest x us e h
    have key:∀ (n:Nat) (cs rest:List VC) (x:List t.den) (us:List Value),rdN (rdT t) n cs=some (x,rest)→All2 (A1u ρ) us cs→∃ u1 u2,us=u1++u2∧x.length=n∧E3 (E8 M t) x u1∧All2 (A1u ρ) u2 rest:=by
      intro n
      induction n with
      | zero=>intro cs rest x us e h; cases e; exact ⟨[],us,rfl,rfl,rfl,h⟩
      | succ n ihn =>
        intro cs rest x us e h
        simp only [rdN] at e
        split at e
        · rename_i x1 l1 h1
          split at e
          · rename_i y1 l2 h2
            cases e
            obtain ⟨u1,u2,rfl,f1,r1⟩:=ih h1 h
            obtain ⟨u3,u4,rfl,hl,f2,r2⟩:=ihn _ _ _ _ h2 r1
            exact ⟨u1++u3,u4,by simp,by simp [hl],⟨u1,u3,rfl,f1,f2⟩,r2⟩
          · cases e
        · cases e
    obtain ⟨u1,u2,h1,h2,h3,h4⟩:=key n cs rest x us e h
    exact ⟨u1,u2,h1,⟨h2,h3⟩,h4⟩
  | str=>intro cs rest x us e h; cases e
  | slice t _=>intro cs rest x us e h; cases e
  | nil=>intro cs rest x us e h; cases e
  | val=>intro cs rest x us e h; cases e
  | ifc=>intro cs rest x us e h; cases e
  | ptr=>intro cs rest x us e h; cases e
  | fnc=>intro cs rest x us e h; cases e
theorem C7N(hcf:Z2 P T){op:BinOp}{t:TypeId}{ox oy:Operand}{x y v:VV}{ux uy:Value}(e:C48 T t op x y=some v)(hx:D9 ρ ux x)(hy:D9 ρ uy y) :
    ∃ u,(do eqGuard op t ox oy ux uy; binOp op t ux uy:Sem Value).run P w=.ok u w∧D9 ρ u v:=by
  unfold C48 at e
  have und:∀ {k d},(∀ r,row T t=some r→r.k=k)→(∃ r,row T t=some r)→(∀ d',B6s k d'→d'=d)→P.underlying t=some d:=by
    intro k d h1 ⟨r,hr⟩ h2
    obtain ⟨d',h3,h4,_⟩:=(hcf _ _ hr).desc
    rw [h1 r hr] at h4
    rw [h3,h2 d' h4]
  have sliceT:A2e T t=true→∃ el,P.underlying t=some (.slice el):=by
    intro hz
    unfold A2e at hz
    split at hz
    · rename_i r hr
      split at hz
      · rename_i el hk
        exact ⟨el,und (k:=.slice el) (fun r' h=>by rw [hr] at h; cases h; exact hk) ⟨r,hr⟩ (fun d' h=>h)⟩
      · cases hz
    · cases hz
  have ptrT:A9n T t=true→∃ el,P.underlying t=some (.pointer el):=by
    intro hz
    unfold A9n at hz
    split at hz
    · rename_i r hr
      split at hz
      · rename_i el hk
        exact ⟨el,und (k:=.ptr el) (fun r' h=>by rw [hr] at h; cases h; exact hk) ⟨r,hr⟩ (fun d' h=>h)⟩
      · cases hz
    · cases hz
  split at e
  · rename_i k m k' n
    obtain ⟨rfl,_⟩:=D9.v.1 hx
    obtain ⟨rfl,_⟩:=D9.v.1 hy
    split at e
    · cases hz:ltI n 0 <;> rw [hz] at e <;> simp only [cond_true,cond_false,reduceCtorEq] at e
      rw [S4] at e; cases e
      exact ⟨_,by simp [A0S,(B6u (op:=.shl) (t:=t) (k:=k) (k':=k') (m:=m) hz).1],A05 k _⟩
    · cases hz:ltI n 0 <;> rw [hz] at e <;> simp only [cond_true,cond_false,reduceCtorEq] at e
      rw [S4] at e; cases e
      exact ⟨_,by simp [A0S,(B6u (op:=.shl) (t:=t) (k:=k) (k':=k') (m:=m) hz).2],A05 k _⟩
    · split at e
      · rename_i hk
        subst hk
        obtain ⟨u,h1,h2⟩:=D11 (ρ:=ρ) (t:=t) e
        exact ⟨u,by simp [A0S,h1],h2⟩
      · cases e
  · rename_i a b
    obtain ⟨rfl,_⟩:=D9.v.1 hx
    obtain ⟨rfl,_⟩:=D9.v.1 hy
    cases hz:B5n T t <;> rw [hz] at e <;> simp only [cond_true,cond_false,reduceCtorEq] at e
    have hu:P.underlying t=some .bool:=by
      unfold B5n at hz
      split at hz
      · rename_i r hr
        split at hz
        · rename_i hk
          exact und (k:=.bool) (fun r' h=>by rw [hr] at h; cases h; exact hk) ⟨r,hr⟩ (fun d' h=>h)
        · cases hz
      · cases hz
    obtain ⟨c,h1,⟨rfl,rfl⟩ | ⟨rfl,rfl⟩⟩:=A3K (ρ:=ρ) e
    · exact ⟨_,by simp [A6x,binOp,A9r hu],h1⟩
    · exact ⟨_,by simp [A6x,binOp,A9r hu],h1⟩
  · rename_i a b
    obtain ⟨rfl,_⟩:=D9.v.1 hx
    obtain ⟨rfl,_⟩:=D9.v.1 hy
    obtain ⟨c,h1,⟨rfl,rfl⟩ | ⟨rfl,rfl⟩⟩:=A3K (ρ:=ρ) e
    · exact ⟨_,by simp only [Sem.run_bind,A4G,Result.andThen_ok,binOp,Op.stringOp,ByteArray.toList_eq,Sem.run_pure],h1⟩
    · exact ⟨_,by simp only [Sem.run_bind,A4G,Result.andThen_ok,binOp,Op.stringOp,ByteArray.toList_eq,Sem.run_pure],h1⟩
  · rename_i a b
    split at e
    · rename_i c hc
      unfold D8D at hc
      split at hc
      · rename_i r hr
        split at hc
        · rename_i ty hty
          obtain ⟨_,hcmp⟩:=(hcf _ _ hr).cmp ty hty
          split at hc
          · rename_i d1 d2 h1 h2
            cases hc
            obtain ⟨us,k1,k2,_⟩:=hx
            obtain ⟨vs,k3,k4,_⟩:=hy
            simp [mkV] at k2 k4
            subst k2 k4
            obtain ⟨u1,u2,rfl,f1,r1⟩:=C0U (fun _=>none) h1 k1
            obtain ⟨v1,v2,rfl,f2,r2⟩:=C0U (fun _=>none) h2 k3
            cases r1; cases r2
            simp only [List.append_nil]
            obtain ⟨q1,q2⟩:=hcmp (fun _=>none) w d1 d2 u1 v1 op ox oy f1 f2
            obtain ⟨c,h1,⟨rfl,rfl⟩ | ⟨rfl,rfl⟩⟩:=A3K (ρ:=ρ) e
            · exact ⟨_,by simp [q2,binOp,q1],h1⟩
            · exact ⟨_,by simp [q2,binOp,q1],h1⟩
          · cases hc
        · cases hc
      · cases hc
    · cases e
  · rename_i id off n esz
    obtain ⟨l,a,cap,_,rfl,_⟩:=D9.r1.1 hx
    obtain ⟨rfl,_⟩:=D9.v.1 hy
    cases hz:A2e T t <;> rw [hz] at e <;> simp only [cond_true,cond_false,reduceCtorEq] at e
    obtain ⟨el,hu⟩:=sliceT hz
    obtain ⟨c,h1,⟨rfl,rfl⟩ | ⟨rfl,rfl⟩⟩:=A3K (ρ:=ρ) e
    · exact ⟨_,by simp [T7,A2T w t el _ _ _ hu],h1⟩
    · exact ⟨_,by simp [T7,A2U w t el _ _ _ hu],h1⟩
  · obtain ⟨a,rfl⟩:=D9.r1.1 hx
    obtain ⟨rfl,_⟩:=D9.v.1 hy
    cases hz:A2e T t <;> rw [hz] at e <;> simp only [cond_true,cond_false,reduceCtorEq] at e
    obtain ⟨el,hu⟩:=sliceT hz
    obtain ⟨c,h1,⟨rfl,rfl⟩ | ⟨rfl,rfl⟩⟩:=A3K (ρ:=ρ) e
    · exact ⟨_,by simp [T7,A2T w t el _ _ _ hu],h1⟩
    · exact ⟨_,by simp [T7,A2U w t el _ _ _ hu],h1⟩
  · obtain ⟨rfl,_⟩:=D9.v.1 hx
    obtain ⟨rfl,_⟩:=D9.v.1 hy
    cases hz:A2e T t <;> rw [hz] at e <;> simp only [cond_true,cond_false,reduceCtorEq] at e
    obtain ⟨el,hu⟩:=sliceT hz
    obtain ⟨c,h1,⟨rfl,rfl⟩ | ⟨rfl,rfl⟩⟩:=A3K (ρ:=ρ) e
    · exact ⟨_,by simp [T7,A2T w t el _ _ _ hu],h1⟩
    · exact ⟨_,by simp [T7,A2U w t el _ _ _ hu],h1⟩
  · obtain ⟨l,_,rfl⟩:=D9.r1.1 hx
    obtain ⟨rfl,_⟩:=D9.v.1 hy
    cases hz:A9n T t <;> rw [hz] at e <;> simp only [cond_true,cond_false,reduceCtorEq] at e
    obtain ⟨el,hu⟩:=ptrT hz
    obtain ⟨c,h1,⟨rfl,rfl⟩ | ⟨rfl,rfl⟩⟩:=A3K (ρ:=ρ) e
    · exact ⟨_,by simp [eqGuard,binOp,A5t hu],h1⟩
    · exact ⟨_,by simp [eqGuard,binOp,A5t hu],h1⟩
  · obtain ⟨rfl,_⟩:=D9.v.1 hx
    obtain ⟨rfl,_⟩:=D9.v.1 hy
    cases hz:A9n T t <;> rw [hz] at e <;> simp only [cond_true,cond_false,reduceCtorEq] at e
    obtain ⟨el,hu⟩:=ptrT hz
    obtain ⟨c,h1,⟨rfl,rfl⟩ | ⟨rfl,rfl⟩⟩:=A3K (ρ:=ρ) e
    · exact ⟨_,by simp [eqGuard,binOp,A5t hu],h1⟩
    · exact ⟨_,by simp [eqGuard,binOp,A5t hu],h1⟩
  · cases e
theorem D14{op:UnOp}{x v:VV}{u:Value}(e:unO op x=some v)(hx:D9 ρ u x):∃ u',(Op.unary op u).run P w=.ok u' w∧D9 ρ u' v:=by
  unfold unO at e
  split at e
  · rename_i k n
    obtain ⟨rfl,_⟩:=D9.v.1 hx
    rw [S4] at e; cases e
    exact ⟨.int k (I5 k 0 n),by simp [Op.unary,Op.intArith,I5],A05 k _⟩
  · rename_i k n
    obtain ⟨rfl,_⟩:=D9.v.1 hx
    rw [S4] at e; cases e
    exact ⟨_,by simp [Op.unary,Op.intBits]; rfl,A05 k _⟩
  · rename_i b
    obtain ⟨rfl,_⟩:=D9.v.1 hx
    rw [A5q] at e; cases e
    exact ⟨_,by simp [Op.unary],A3J _⟩
  · cases e
theorem C0V{t:Nat}{r:VTy}(k:VOk P t r){c:Array Value}{cs:List VC}{off:Nat}(hc:All2 (A1u ρ) c.toList cs)(hle:off+r.sz≤cs.length) :
    ∃ u,(part t c off).run P w=.ok u w∧A4Z ρ u ⟨r.agg,(cs.drop off).take r.sz⟩:=by
  have hl:=H1 hc
  have hx:=A2B (A3I hc off) r.sz
  have hn:((c.toList.drop off).take r.sz).length=r.sz:=by simp at hl ⊢; omega
  refine ⟨mkV r.agg ((c.toList.drop off).take r.sz),?_,_,hx,rfl,fun ha=>by rw [hn]; exact k.one ha⟩
  unfold part
  simp only [Sem.run_bind,C0P k,Result.andThen_ok]
  cases ha:r.agg with
  | true =>
    simp only [if_true,Sem.run_bind,I9 k,Result.andThen_ok,Sem.run_pure,mkV]
    congr 2
    apply Array.ext'
    simp [List.drop_take]
  | false =>
    have h1:=k.one ha
    have hlt:off < c.size:=by simp at hl; omega
    simp only [Bool.false_eq_true,if_false]
    have:c[off]?=some c[off]:=by simp [hlt]
    rw [this]
    simp only [Sem.run_pure,mkV,Bool.false_eq_true,if_false,h1]
    congr 1
    rw [List.drop_eq_getElem_cons (by simpa using hlt)]
    simp
theorem A7Z(hcf:Z2 P T){t:Nat}{r:VTy}(hr:row T t=some r){fs:List (Nat×Nat)}(hk:r.k=.struct fs):∃ a:Array Field,P.underlying t=some (.struct a)∧(a.toList.map fun f=>(f.offset,f.type))=fs:=by
  obtain ⟨d,h1,h2,_⟩:=(hcf _ _ hr).desc
  rw [hk] at h2
  obtain ⟨a,rfl,h3⟩:=h2
  exact ⟨a,h1,h3⟩
theorem B6v(hcf:Z2 P T){t:Nat}{r:VTy}(hr:row T t=some r){n e:Nat}(hk:r.k=.arr n e):P.underlying t=some (.array n e):=by
  obtain ⟨d,h1,h2,_⟩:=(hcf _ _ hr).desc
  rw [hk] at h2
  cases (h2:d=.array n e)
  exact h1
theorem C0W(hcf:Z2 P T){t f:Nat}{x v:VV}{u:Value}(e:C0B T t x f=some v)(hx:D9 ρ u x):∃ u',(Instr.field t u f).run P w=.ok u' w∧D9 ρ u' v:=by
  unfold C0B at e
  split at e
  · rename_i r cs hr
    obtain ⟨us,h1,h2,_⟩:=hx
    simp [mkV] at h2
    subst h2
    split at e
    · rename_i fs hk
      obtain ⟨a,hu,ha⟩:=A7Z hcf hr hk
      split at e
      · rename_i off ft hf
        split at e
        · rename_i rf hrf
          cases hb:(Nat.ble (off+rf.sz) cs.length && (rf.agg || Nat.beq rf.sz 1)) <;> rw [hb] at e <;> simp only [cond_true,cond_false,reduceCtorEq] at e
          cases e
          simp only [Bool.and_eq_true] at hb
          have hfield:∃ fd,a[f]?=some fd∧fd.offset=off∧fd.type=ft:=by
            rw [← ha] at hf
            simp only [List.getElem?_map,Array.getElem?_toList,Option.map_eq_some_iff,Prod.mk.injEq] at hf
            exact hf
          obtain ⟨fd,g1,g2,g3⟩:=hfield
          obtain ⟨u',k1,k2⟩:=C0V (P:=P) (w:=w) (hcf _ _ hrf) (c:=us.toArray) (off:=off) h1 (Nat.le_of_ble_eq_true hb.1)
          refine ⟨u',?_,k2⟩
          simp only [Instr.field,Sem.run_bind,Go.Eng.run_underlying hu,Result.andThen_ok,g1,asAgg,Sem.run_pure,g2,g3,k1]
        · cases e
      · cases e
    · cases e
  · cases e
theorem C0X(hcf:Z2 P T){t:Nat}{x i v:VV}{ux ui:Value}(e:C0C T t x i=some v)(hx:D9 ρ ux x)(hi:D9 ρ ui i):∃ u',(Instr.index t ux ui).run P w=.ok u' w∧D9 ρ u' v:=by
  unfold C0C at e
  split at e
  · rename_i r kk n hr
    obtain ⟨rfl,_⟩:=D9.v.1 hi
    split at e
    · rename_i m el cs hk
      have hu:=B6v hcf hr hk
      obtain ⟨us,h1,h2,_⟩:=hx
      simp [mkV] at h2
      subst h2
      split at e
      · rename_i re hre
        cases hb:((leI 0 n && ltI n m) && (Nat.ble (n.toNat*re.sz+re.sz) cs.length && (re.agg || Nat.beq re.sz 1))) <;> rw [hb] at e <;> simp only [cond_true,cond_false,reduceCtorEq] at e
        cases e
        simp only [Bool.and_eq_true,leI,ltI,decide_eq_true_eq] at hb
        obtain ⟨⟨b1,b2⟩,b3,_⟩:=hb
        obtain ⟨u',k1,k2⟩:=C0V (P:=P) (w:=w) (hcf _ _ hre) (c:=us.toArray) (off:=n.toNat*re.sz) h1 (Nat.le_of_ble_eq_true b3)
        refine ⟨u',?_,k2⟩
        simp only [Instr.index,asIntOf,Sem.run_bind,Sem.run_pure,Result.andThen_ok,Go.Eng.run_underlying hu,b1,b2,and_self,if_true,I9 (hcf _ _ hre),k1]
      · cases e
    · cases e
  · cases e
theorem B0G(hcf:Z2 P T){t f:Nat}{x v:VV}{u:Value}(e:A62 T t x f=some v)(hx:D9 ρ u x):∃ u',(Instr.fieldAt t u f).run P w=.ok u' w∧D9 ρ u' v:=by
  unfold A62 at e
  split at e
  · rename_i r id off hr
    obtain ⟨l,hl,rfl⟩:=D9.r1.1 hx
    split at e
    · rename_i fs hk
      obtain ⟨a,hu,ha⟩:=A7Z hcf hr hk
      split at e
      · rename_i o ft hf
        split at e
        · rename_i rf hrf
          cases hb:Nat.beq rf.sz 0 <;> rw [hb] at e <;> simp only [cond_true,cond_false,reduceCtorEq] at e
          rw [A1i] at e
          cases e
          have hfield:∃ fd,a[f]?=some fd∧fd.offset=o∧fd.type=ft:=by
            rw [← ha] at hf
            simp only [List.getElem?_map,Array.getElem?_toList,Option.map_eq_some_iff,Prod.mk.injEq] at hf
            exact hf
          obtain ⟨fd,g1,g2,g3⟩:=hfield
          have hz:¬ rf.sz=0:=fun e=>by rw [e] at hb; cases hb
          refine ⟨.pointer (some ⟨l.1,off+o,none⟩),?_,D9.one.2 ⟨l,hl,rfl⟩⟩
          unfold Instr.fieldAt
          simp only [Sem.run_bind,Go.Eng.run_underlying hu,Result.andThen_ok,g1,Instr.sureAddr,Sem.run_pure,fieldPlace,g3,I9 (hcf _ _ hrf),hz,if_false,G8,g2]
        · cases e
      · cases e
    · cases e
  · cases e
theorem B0H(hcf:Z2 P T){t:Nat}{x i v:VV}{ux ui:Value}(e:A63 T t x i=some v)(hx:D9 ρ ux x)(hi:D9 ρ ui i):∃ u',(Instr.indexAt t ux ui).run P w=.ok u' w∧D9 ρ u' v:=by
  unfold A63 at e
  split at e
  · rename_i r kk n hr
    obtain ⟨rfl,_⟩:=D9.v.1 hi
    split at e
    · rename_i el id off len esz hk
      have hu:=V5 hcf hr hk
      obtain ⟨l,a,cap,hl,rfl,hlc,hc⟩:=D9.r1.1 hx
      split at e
      · rename_i re hre
        cases hb:(Nat.beq re.sz esz && (leI 0 n && ltI n len)) <;> rw [hb] at e <;> simp only [cond_true,cond_false,reduceCtorEq] at e
        rw [A1i] at e
        cases e
        simp only [Bool.and_eq_true,leI,ltI,decide_eq_true_eq] at hb
        obtain ⟨b0,b1,b2⟩:=hb
        have hs:=Nat.eq_of_beq_eq_true b0
        obtain ⟨rfl,_⟩:=hc (by omega)
        refine ⟨.pointer (some ⟨l.1,off+n.toNat*esz,none⟩),?_,D9.one.2 ⟨l,hl,rfl⟩⟩
        unfold Instr.indexAt
        simp only [asIntOf,Sem.run_bind,Sem.run_pure,Result.andThen_ok,Go.Eng.run_underlying hu,b1,b2,and_self,if_true,I9 (hcf _ _ hre),hs,G8]
      · cases e
    · rename_i m el id off hk
      have hu:=B6v hcf hr hk
      obtain ⟨l,hl,rfl⟩:=D9.r1.1 hx
      split at e
      · rename_i re hre
        cases hb:(leI 0 n && ltI n m) <;> rw [hb] at e <;> simp only [cond_true,cond_false,reduceCtorEq] at e
        rw [A1i] at e
        cases e
        simp only [Bool.and_eq_true,leI,ltI,decide_eq_true_eq] at hb
        obtain ⟨b1,b2⟩:=hb
        refine ⟨.pointer (some ⟨l.1,off+n.toNat*re.sz,none⟩),?_,D9.one.2 ⟨l,hl,rfl⟩⟩
        unfold Instr.indexAt
        simp only [asIntOf,Sem.run_bind,Sem.run_pure,Result.andThen_ok,Go.Eng.run_underlying hu,Instr.sureAddr,b1,b2,and_self,if_true,I9 (hcf _ _ hre),G8]
      · cases e
    · cases e
  · cases e
end
end Go.Vm
namespace Go.Vm
open Go.Eng Go.RowKit
section
variable {P:Program} {T:Tr VTy} {ρ:Rho} {O:A1r} {w:World}
def B9E(v:Option Value)(b:Option Int):Prop :=
  match v,b with
  | none,none=>True
  | some u,some n=>∃ k,u=.int k n
  | _,_=>False
theorem A0x{k:IntKind}{n:Int}{y:Nat}{c:BoundsCode}(h0:0≤n)(h1:n≤y):(Instr.sliceBound (.int k n) y c).run P w=.ok n.toNat w:=by
  unfold Instr.sliceBound
  simp [asIntOf,h0,h1]
theorem C0Y{t el:Nat}(hu:P.underlying t=some (.slice el)){re:VTy}(ke:VOk P el re){ao:Option Addr}{n cap:Nat}(hn:n≤cap){lo hi:Option Value}{bl bh:Option Int}(hlo:B9E lo bl)(hhi:B9E hi bh)
    (h0:0≤bl.getD 0) (h1:bl.getD 0≤bh.getD n) (h2:bh.getD n≤n) :
    (Instr.sliceAt t (.slice ao n cap) lo hi none).run P w=.ok (.slice (if cap=(bl.getD 0).toNat then ao else ao.map (·.add ((bl.getD 0).toNat*re.sz))) ((bh.getD n).toNat - (bl.getD 0).toNat) (cap - (bl.getD 0).toNat)) w:=by
  unfold Instr.sliceAt
  simp only [Sem.run_bind,Go.Eng.run_underlying hu,Result.andThen_ok,Instr.slice,Instr.sliceBounds,Sem.run_pure]
  cases lo with
  | none =>
    cases bl with
    | some _=>exact hlo.elim
    | none =>
      cases hi with
      | none =>
        cases bh with
        | some _=>exact hhi.elim
        | none=>simp [I9 ke]
      | some x =>
        cases bh with
        | none=>exact hhi.elim
        | some m =>
          obtain ⟨k,rfl⟩:=hhi
          simp only [Option.getD_some,Option.getD_none] at *
          simp [I9 ke,A0x (P:=P) (w:=w) (k:=k) (y:=cap) (c:=.sliceAcap) h1 (by omega)]
  | some y =>
    cases bl with
    | none=>exact hlo.elim
    | some j =>
      obtain ⟨k,rfl⟩:=hlo
      cases hi with
      | none =>
        cases bh with
        | some _=>exact hhi.elim
        | none =>
          simp only [Option.getD_some,Option.getD_none] at *
          simp [I9 ke,A0x (P:=P) (w:=w) (k:=k) (y:=n) (c:=.sliceB) h0 h1]
      | some x =>
        cases bh with
        | none=>exact hhi.elim
        | some m =>
          obtain ⟨k',rfl⟩:=hhi
          simp only [Option.getD_some,Option.getD_none] at *
          simp [I9 ke,A0x (P:=P) (w:=w) (k:=k') (n:=m) (y:=cap) (c:=.sliceAcap) (by omega) (by omega),A0x (P:=P) (w:=w) (k:=k) (n:=j) (y:=m.toNat) (c:=.sliceB) h0 (by omega)]
theorem B6w{t el:Nat}(hu:P.underlying t=some (.slice el)){re:VTy}(ke:VOk P el re){ao:Option Addr}{n cap:Nat}{lo hi mx:Option Value}{bl:Option Int}(hlo:B9E lo bl)(h0:bl.getD 0=0)(hhi:B9E hi (some 0))(hmx:B9E mx (some 0)) :
    (Instr.sliceAt t (.slice ao n cap) lo hi mx).run P w=.ok (.slice ao 0 0) w:=by
  unfold Instr.sliceAt
  simp only [Sem.run_bind,Go.Eng.run_underlying hu,Result.andThen_ok,Instr.slice,Instr.sliceBounds,Sem.run_pure]
  cases mx with
  | none=>exact hmx.elim
  | some m =>
    obtain ⟨k,rfl⟩:=hmx
    cases hi with
    | none=>exact hhi.elim
    | some x =>
      obtain ⟨k',rfl⟩:=hhi
      have b1:(Instr.sliceBound (.int k 0) cap .slice3Acap).run P w=.ok 0 w:=A0x (Int.le_refl _) (by omega)
      have b2:(Instr.sliceBound (.int k' 0) 0 .slice3B).run P w=.ok 0 w:=A0x (Int.le_refl _) (by omega)
      cases lo with
      | none =>
        simp [I9 ke,b1,b2]
      | some y =>
        cases bl with
        | none=>exact hlo.elim
        | some j =>
          obtain ⟨k2,rfl⟩:=hlo
          have:j=0:=h0
          subst this
          have b3:(Instr.sliceBound (.int k2 0) 0 .slice3C).run P w=.ok 0 w:=A0x (Int.le_refl _) (by omega)
          simp [I9 ke,b1,b2,b3]
theorem C7O(hcf:Z2 P T){t:Nat}{x v:VV}{u:Value}{bl bh bm:Option Int}{lo hi mx:Option Value}(e:D4H T t x bl bh bm=some v)(hx:D9 ρ u x)(hlo:B9E lo bl)(hhi:B9E hi bh)(hmx:B9E mx bm) :
    ∃ u',(Instr.sliceAt t u lo hi mx).run P w=.ok u' w∧D9 ρ u' v:=by
  have elem:∀ {r el},row T t=some r→r.k=.slice el→P.underlying t=some (.slice el):=fun h k=>V5 hcf h k
  unfold D4H at e
  split at e
  · rename_i r hr
    split at e
    · rename_i el id off len esz hk
      have hu:=elem hr hk
      obtain ⟨l,a,cap,hl,rfl,hlc,hc⟩:=D9.r1.1 hx
      cases mx with
      | some _=>exact hmx.elim
      | none =>
      split at e
      · rename_i re hre
        cases hb:(Nat.beq re.sz esz && (leI 0 (bl.getD 0) && (leI (bl.getD 0) (bh.getD len) && leI (bh.getD len) len))) <;> rw [hb] at e <;> simp only [cond_true,cond_false,reduceCtorEq] at e
        simp only [Bool.and_eq_true,leI,decide_eq_true_eq] at hb
        obtain ⟨b0,b1,b2,b3⟩:=hb
        have hs:=Nat.eq_of_beq_eq_true b0
        simp only [A1i] at e
        cases e
        refine ⟨_,C0Y hu (hcf _ _ hre) hlc.1 hlo hhi b1 b2 b3,D9.one.2 ?_⟩
        have hle:(bl.getD 0).toNat≤cap:=by omega
        by_cases he:cap=(bl.getD 0).toNat
        · refine ⟨l,a,cap - (bl.getD 0).toNat,hl,by rw [if_pos he],⟨by omega,by omega⟩,fun h=>by omega⟩
        · obtain ⟨rfl,hfit⟩:=hc (by omega)
          refine ⟨l,⟨l.1,off+(bl.getD 0).toNat*esz,none⟩,cap - (bl.getD 0).toNat,hl,by rw [if_neg he]; simp [G8,hs],by omega,fun _=>⟨rfl,?_⟩⟩
          have:(bl.getD 0).toNat*esz+(cap - (bl.getD 0).toNat)*esz=cap*esz:=by rw [← Nat.add_mul]; congr 1; omega
          omega
      · cases e
    · rename_i el id off len esz m hk
      have hu:=elem hr hk
      obtain ⟨l,a,cap,hl,rfl,hlc,hc⟩:=D9.r1.1 hx
      split at e
      · rename_i re hre
        cases hb:(eqI m 0 && (eqI (bl.getD 0) 0 && eqI (bh.getD 1) 0)) <;> rw [hb] at e <;> simp only [cond_true,cond_false,reduceCtorEq] at e
        cases e
        simp only [Bool.and_eq_true,eqI,decide_eq_true_eq] at hb
        obtain ⟨rfl,b1,b2⟩:=hb
        have:bh=some 0:=by cases bh with
          | none=>simp at b2
          | some q=>simp at b2; rw [b2]
        subst this
        exact ⟨_,B6w hu (hcf _ _ hre) hlo b1 hhi hmx,D9.one.2 ⟨a,rfl⟩⟩
      · cases e
    · rename_i el hk
      have hu:=elem hr hk
      obtain ⟨rfl,_⟩:=D9.v.1 hx
      cases mx with
      | some _=>exact hmx.elim
      | none =>
      split at e
      · rename_i re hre
        cases hb:(eqI (bl.getD 0) 0 && eqI (bh.getD 0) 0) <;> rw [hb] at e <;> simp only [cond_true,cond_false,reduceCtorEq] at e
        cases e
        simp only [Bool.and_eq_true,eqI,decide_eq_true_eq] at hb
        obtain ⟨b1,b2⟩:=hb
        refine ⟨_,C0Y (n:=0) hu (hcf _ _ hre) (Nat.le_refl _) hlo hhi (by omega) (by show bl.getD 0≤bh.getD 0; omega) (by show bh.getD 0≤0; omega),D9.one.2 ⟨?_,rfl⟩⟩
        simp [b1]
        exact Int.le_of_eq b2
      · cases e
    · rename_i el m hk
      have hu:=elem hr hk
      obtain ⟨rfl,_⟩:=D9.v.1 hx
      split at e
      · rename_i re hre
        cases hb:(eqI m 0 && (eqI (bl.getD 0) 0 && eqI (bh.getD 1) 0)) <;> rw [hb] at e <;> simp only [cond_true,cond_false,reduceCtorEq] at e
        cases e
        simp only [Bool.and_eq_true,eqI,decide_eq_true_eq] at hb
        obtain ⟨rfl,b1,b2⟩:=hb
        have:bh=some 0:=by cases bh with
          | none=>simp at b2
          | some q=>simp at b2; rw [b2]
        subst this
        exact ⟨_,B6w hu (hcf _ _ hre) hlo b1 hhi hmx,D9.one.2 ⟨rfl,rfl⟩⟩
      · cases e
    · cases e
  · cases e
theorem C7P(hcf:Z2 P T){h:VH}{t:Nat}{x v:VV}{u:Value}{bl bh bm:Option Int}{lo hi mx:Option Value}(e:D4I T h t x bl bh bm=some v)(H:HRel ρ h.obj w)(hx:D9 ρ u x)(hlo:B9E lo bl)(hhi:B9E hi bh)(hmx:B9E mx bm) :
    ∃ u',(Instr.sliceAt t u lo hi mx).run P w=.ok u' w∧D9 ρ u' v:=by
  unfold D4I at e
  split at e
  · rename_i r hr
    split at e
    · rename_i n el id off hk
      have hu:=B6v hcf hr hk
      obtain ⟨l,hl,rfl⟩:=D9.r1.1 hx
      cases mx with
      | some _=>exact hmx.elim
      | none =>
      split at e
      · rename_i re cs hre ho
        have ke:=hcf _ _ hre
        cases hb:((leI 0 (bl.getD 0) && (leI (bl.getD 0) (bh.getD n) && leI (bh.getD n) n)) && (Nat.ble (off+n*re.sz) cs.length && (Nat.blt 0 re.sz && Nat.ble n 281474976710656))) <;> rw [hb] at e <;> simp only [cond_true,cond_false,reduceCtorEq] at e
        simp only [Bool.and_eq_true,leI,decide_eq_true_eq] at hb
        obtain ⟨⟨b1,b2,b3⟩,b4,b5,b6⟩:=hb
        have hle:=Nat.le_of_ble_eq_true b4
        have hmax:n≤maxLen:=Nat.le_trans (Nat.le_of_ble_eq_true b6) (by unfold maxLen; omega)
        simp only [A1i] at e
        cases e
        obtain ⟨cur,el2,fz,us,g1,g2,g3,g4,g5,g6⟩:=A4k H ho hl (off:=0) (n:=cs.length) (by omega)
        have hrun:(Instr.sliceAt t (.pointer (some ⟨l.1,off,none⟩)) lo hi none).run P w=.ok (.slice (some (if n=(bl.getD 0).toNat then ⟨l.1,off,none⟩ else ⟨l.1,off+(bl.getD 0).toNat*re.sz,none⟩)) ((bh.getD n).toNat - (bl.getD 0).toNat) (n - (bl.getD 0).toNat)) w:=by
          unfold Instr.sliceAt
          simp only [Sem.run_bind,Go.Eng.run_underlying hu,Result.andThen_ok,Instr.sureAddr,Instr.sliceBounds,Sem.run_pure]
          cases lo with
          | none =>
            cases bl with
            | some _=>exact hlo.elim
            | none =>
              cases hi with
              | none =>
                cases bh with
                | some _=>exact hhi.elim
                | none=>simp [I9 ke,G8]
              | some x =>
                cases bh with
                | none=>exact hhi.elim
                | some m =>
                  obtain ⟨k,rfl⟩:=hhi
                  simp only [Option.getD_some,Option.getD_none] at *
                  simp [I9 ke,G8,A0x (P:=P) (w:=w) (k:=k) (n:=m) (y:=n) (c:=.sliceAlen) (by omega) (by omega)]
          | some y =>
            cases bl with
            | none=>exact hlo.elim
            | some j =>
              obtain ⟨k,rfl⟩:=hlo
              cases hi with
              | none =>
                cases bh with
                | some _=>exact hhi.elim
                | none =>
                  simp only [Option.getD_some,Option.getD_none] at *
                  simp [I9 ke,G8,A0x (P:=P) (w:=w) (k:=k) (n:=j) (y:=n) (c:=.sliceB) b1 b2]
              | some x =>
                cases bh with
                | none=>exact hhi.elim
                | some m =>
                  obtain ⟨k',rfl⟩:=hhi
                  simp only [Option.getD_some,Option.getD_none] at *
                  simp [I9 ke,G8,A0x (P:=P) (w:=w) (k:=k') (n:=m) (y:=n) (c:=.sliceAlen) (by omega) (by omega),A0x (P:=P) (w:=w) (k:=k) (n:=j) (y:=m.toNat) (c:=.sliceB) b1 (by omega)]
        refine ⟨_,hrun,D9.one.2 ?_⟩
        have hcur:off+n*re.sz≤l.2:=by omega
        by_cases he:n=(bl.getD 0).toNat
        · refine ⟨l,⟨l.1,off,none⟩,n - (bl.getD 0).toNat,hl,by rw [if_pos he],⟨by omega,by omega⟩,fun h=>by omega⟩
        · refine ⟨l,⟨l.1,off+(bl.getD 0).toNat*re.sz,none⟩,n - (bl.getD 0).toNat,hl,by rw [if_neg he],by omega,fun _=>⟨rfl,?_⟩⟩
          have:(bl.getD 0).toNat*re.sz+(n - (bl.getD 0).toNat)*re.sz=n*re.sz:=by rw [← Nat.add_mul]; congr 1; omega
          omega
      · cases e
    · cases e
  · cases e
theorem A66{arg:Operand→Option VV}{ev:Operand→Value}{o:Option Operand}{b:Option Int}(e:B30 arg o=some b)(ha:∀ x∈o,∀ y,arg x=some y→D9 ρ (ev x) y):B9E (o.map ev) b:=by
  unfold B30 at e
  cases o with
  | none=>cases e; trivial
  | some x =>
    simp only at e
    split at e
    · rename_i k n hx
      cases e
      obtain ⟨h,_⟩:=D9.v.1 (ha x rfl _ hx)
      exact ⟨k,h⟩
    · cases e
theorem C5F{h:VH}{esz:Nat}{c:VC}{n:Nat}{new:List VC}(e:D4c h esz c=some (n,new))(H:HRel ρ h.obj w){u:Value}(hx:A1u ρ u c) :
    ∃ ao cap us,u=.slice ao n cap∧All2 (A1u ρ) us new∧us.length=n*esz∧(0 < n→∃ a,ao=some a∧∀ j v,us[j]?=some v→w.cell? (a.add j)=some v):=by
  unfold D4c at e
  split at e
  · rename_i id off m ez
    obtain ⟨l,a,cap,hl,rfl,hlc,hc⟩:=hx
    cases hb:Nat.beq ez esz <;> rw [hb] at e <;> simp only [cond_true,cond_false,reduceCtorEq] at e
    have he:=Nat.eq_of_beq_eq_true hb
    split at e
    · rename_i cs hcs
      cases e
      obtain ⟨all,ho,hle,rfl⟩:=A50 hcs
      obtain ⟨cur,el,fz,us,h1,h2,h3,h4,_⟩:=A4k H ho hl hle
      refine ⟨some a,cap,us,rfl,h4,h3,fun hn=>⟨a,rfl,?_⟩⟩
      obtain ⟨rfl,_⟩:=hc (by omega)
      exact A7Y w h1 h2
    · cases e
  · cases e
    obtain ⟨a,rfl⟩:=hx
    exact ⟨some a,0,[],rfl,.nil,by simp,fun h=>by omega⟩
  · cases e
    obtain ⟨rfl,_⟩:=hx
    exact ⟨none,0,[],rfl,.nil,by simp,fun h=>by omega⟩
  · cases e
theorem A8Q{t ty e:TypeId}{i:TypeInfo}(ht:P.underlying t=some (.slice e))(hi:P.info? e=some i){g sLen sCap:Nat}{cur:Array Value}{e':TypeId}{fz:Nat×Nat}(hg:w.heap[g]?=some (.cells cur e' fz))
    (hf:∀ k,k < cur.size→¬ (fz.1≤k∧k < fz.2)) {a:Addr} {m c:Nat} {news:List Value} (hl:news.length=m*i.size) (hnews:∀ j u,news[j]?=some u→w.cell? (a.add j)=some u) (h1:∀ u∈news,u.oneCell'=true)
    (hroom:sLen+m≤sCap) (hfit:sLen*i.size+news.length≤cur.size) :
    (Builtin.append_ #[t,t] ty #[.slice (some ⟨g,0,none⟩) sLen sCap,.slice (some a) m c]).run P w =
      .ok (.slice (some ⟨g,0,none⟩) (sLen+m) sCap) (w.setRow g (cur.toList.take (sLen*i.size)++(news++cur.toList.drop (sLen*i.size+news.length))).toArray):=by
  have hfc:=run_firstCells_some (P:=P) w i.size m a m c news hl hnews
  have hst:=A36 (P:=P) g (sLen*i.size) e' fz news 0 cur w hg (by simpa using hfit) hf h1
  simp only [Nat.add_zero] at hst
  simp [Builtin.append_,Go.Eng.run_underlying ht,sizeOf,typeInfo,hi,Builtin.lenOf,hroom,hfc,Addr.add_lit,hst]
theorem C0Z{us:List Value}{cs:List VC}(h:All2 (A1u ρ) us cs):∀ x∈us,x.oneCell'=true:=by
  induction h with
  | nil=>intro x hx; cases hx
  | cons r _ ih=>intro x hx; cases hx with
    | head=>exact r.oneCell
    | tail _ hx=>exact ih x hx
theorem A67(w:World):Since (fun _=>False) w w.drew:=⟨rfl,rfl,rfl,Nat.le_refl _,fun _ _ _=>rfl⟩
theorem B6x{h h':VH}{el:Nat}{re:VTy}(ke:VOk P el re){cs new:List VC}{id:Nat}{olds news:List Value}(ho:All2 (A1u ρ) olds cs)(hn:All2 (A1u ρ) news new){len n cap:Nat}(hol:olds.length=len*re.sz)(hnl:news.length=n*re.sz)
    (e:newRow h (cs++new)=some (id,h')) (H:HRel ρ h.obj w) (hf:ρ h.nxt=none) {z:Value} (hz:z.cells.toList=re.zero) (hcap:len+n≤cap) (hcm:cap≤maxLen) :
    ∃ ρ',D9 ρ' (.slice (some ⟨w.heap.size,0,none⟩) (len+n) cap) (one (.sl id 0 (len+n) re.sz)) ∧
      OStep ρ h.obj w ρ' h'.obj (w.drew.alloc (.cells (olds.toArray++news.toArray++Builtin.zeroCells z.cells (cap - (len+n))) el))∧A37 ρ h.nxt ρ' h'.nxt:=by
  have hzs:z.cells.size=re.sz:=by rw [← Array.length_toList,hz,ke.len]
  obtain ⟨rfl,hx,st,hl⟩:=A51 e H hf (cur:=olds.toArray++news.toArray++Builtin.zeroCells z.cells (cap - (len+n))) (el:=el) (us:=olds++news) (rest:=(Builtin.zeroCells z.cells (cap - (len+n))).toList) (by simp) (L1 ho hn) (A67 w) rfl
  refine ⟨_,D9.one.2 ⟨_,_,cap,hl,rfl,⟨hcap,hcm⟩,fun _=>⟨rfl,?_⟩⟩,st,.inr ⟨_,rfl,hx⟩⟩
  simp only [Array.size_append,List.size_toArray,size_zeroCells,hzs,hol,hnl]
  rw [← Nat.add_mul,← Nat.add_mul]
  exact Nat.le_of_eq (by rw [Nat.zero_add]; congr 1; omega)
theorem B91(hcf:Z2 P T){h h':VH}{ts:List Nat}{x y v:VV}{ux uy:Value}{ty:TypeId}(e:B5m T h ts x y=some (v,h'))(H:HRel ρ h.obj w)(hf:ρ h.nxt=none)(hx:D9 ρ ux x)(hy:D9 ρ uy y) :
    ∃ u w' ρ',(Builtin.append_ ts.toArray ty #[ux,uy]).run P w=.ok u w'∧D9 ρ' u v∧OStep ρ h.obj w ρ' h'.obj w'∧A37 ρ h.nxt ρ' h'.nxt:=by
  unfold B5m at e
  split at e
  · rename_i t t' s c
    have hs:=D9.r1.1 hx
    have hc:=D9.r1.1 hy
    split at e
    · rename_i r r' hr hr'
      split at e
      · rename_i el el' hk hk'
        have hu:=V5 hcf hr hk
        have hu':=V5 hcf hr' hk'
        split at e
        · rename_i re hre
          have ke:=hcf _ _ hre
          obtain ⟨i,z,hi,his,hiby,hiz,hzc⟩:=ke.info
          split at e
          · rename_i n new hsrc
            obtain ⟨ao,cap,us,rfl,hus,hul,hcell⟩:=C5F hsrc H hc
            cases hb:Nat.blt 0 re.sz <;> rw [hb] at e <;> simp only [cond_true,cond_false,reduceCtorEq] at e
            have hpos:0 < re.sz:=Nat.le_of_ble_eq_true hb
            have two:∀ v1 v2,(Builtin.append_ [t,t'].toArray ty #[v1,v2]).run P w=(Builtin.append_ #[t,t] ty #[v1,v2]).run P w:=fun v1 v2=>A5S hu hu' ty v1 v2
            cases hn0:Nat.beq n 0 <;> rw [hn0] at e <;> simp only [cond_true,cond_false] at e
            · have hn:0 < n:=by rcases Nat.eq_zero_or_pos n with h | h; (rw [h] at hn0; cases hn0); exact h
              obtain ⟨a,rfl,hcl⟩:=hcell hn
              have fresh:∀ {sv:Value} {id:Nat} {h2:VH},(n*re.bytes≤140737488355328∧n≤281474976710656)→newRow h new=some (id,h2)→(Builtin.append_ #[t,t] ty #[sv,.slice (some a) n cap]).run P w =
                  .ok (.slice (some ⟨w.heap.size,0,none⟩) n (grownCap w n 0 el)) (w.drew.alloc (.cells (us.toArray++Builtin.zeroCells z.cells (grownCap w n 0 el - n)) el)) →
                  ∃ u w' ρ',(Builtin.append_ [t,t'].toArray ty #[sv,.slice (some a) n cap]).run P w=.ok u w'∧D9 ρ' u (one (.sl id 0 n re.sz))∧OStep ρ h.obj w ρ' h2.obj w'∧A37 ρ h.nxt ρ' h2.nxt:=by
                intro sv id h2 hroom hnr hrun
                obtain ⟨ρ',k1,k2,k3⟩:=B6x (len:=0) (n:=n) (cap:=grownCap w n 0 el) ke (cs:=[]) (olds:=[]) .nil hus (by simp) hul (by simpa using hnr) H hf hzc (by simpa using grownCap_ge w n 0 el) (grownCap_le_maxLen w n 0 el (by unfold maxLen; omega))
                refine ⟨_,_,ρ',(two _ _).trans hrun,by simpa using k1,by simpa using k2,k3⟩
              split at e
              · obtain ⟨rfl,_⟩:=hs
                cases hroom:(Nat.ble (n*re.bytes) 140737488355328 && Nat.ble n 281474976710656) <;> rw [hroom] at e <;> simp only [cond_true,cond_false,reduceCtorEq] at e
                simp only [Bool.and_eq_true] at hroom
                have hroom':=And.intro (Nat.le_of_ble_eq_true hroom.1) (Nat.le_of_ble_eq_true hroom.2)
                split at e
                · rename_i id h2 hnr
                  cases e
                  exact fresh hroom' hnr (run_append_nil (P:=P) w t ty el i z hu hi hiz a n cap us (by rw [hul,his]) hcl hn (by omega) (by rw [hiby]; omega))
                · cases e
              · obtain ⟨a0,rfl⟩:=hs
                cases hroom:(Nat.ble (n*re.bytes) 140737488355328 && Nat.ble n 281474976710656) <;> rw [hroom] at e <;> simp only [cond_true,cond_false,reduceCtorEq] at e
                simp only [Bool.and_eq_true] at hroom
                have hroom':=And.intro (Nat.le_of_ble_eq_true hroom.1) (Nat.le_of_ble_eq_true hroom.2)
                split at e
                · rename_i id h2 hnr
                  cases e
                  have hg:=run_append_grow (P:=P) w t ty el i z hu hi hiz a0 0 0 [] (by simp) (fun j v hj=>by simp at hj) a n cap us (by rw [hul,his]) hcl (by omega) (by omega) (growslice_fits (by omega) (by rw [hiby]; simpa using hroom'.1))
                  exact fresh hroom' hnr (by simpa using hg)
                · cases e
              · rename_i id len esz
                obtain ⟨l,a0,sCap,hl,rfl,hlc,hcc⟩:=hs
                split at e
                · rename_i cs ho
                  cases hroom:(Nat.beq esz re.sz && (Nat.beq cs.length (len*re.sz) && (Nat.ble ((len+n)*re.bytes) 140737488355328 && Nat.ble (len+n) 281474976710656))) <;> rw [hroom] at e <;> simp only [cond_true,cond_false,reduceCtorEq] at e
                  simp only [Bool.and_eq_true] at hroom
                  obtain ⟨r0,r1,r2,r3⟩:=hroom
                  have he:=Nat.eq_of_beq_eq_true r0
                  subst he
                  have hcl2:=Nat.eq_of_beq_eq_true r1
                  have hr2:=Nat.le_of_ble_eq_true r2
                  have hr3:=Nat.le_of_ble_eq_true r3
                  split at e
                  · rename_i h2 hput
                    obtain ⟨hO,hnx⟩:=VH.obj_put hput
                    rw [A1i] at e
                    split at e
                    · rename_i id' h3 hnr
                      cases e
                      have hf2:ρ h2.nxt=none:=by rw [hnx]; exact hf
                      obtain ⟨cur,el2,fz,olds,g1,g2,g3,g4,g5,g6⟩:=A4k H ho hl (off:=0) (n:=cs.length) (by omega)
                      have hcs:(cs.drop 0).take cs.length=cs:=by simp
                      rw [hcs] at g4
                      have hoc:cur.toList.take (len*re.sz)=olds:=by rw [← hcl2,← g3]; simpa using g2
                      by_cases hfit:len+n≤sCap
                      · -- in place
                        obtain ⟨rfl,hsize⟩:=hcc (by omega)
                        have hszf:len*i.size+us.length≤cur.size:=by
                          rw [his,hul,← Nat.add_mul,g6]
                          exact Nat.le_trans (Nat.mul_le_mul_right _ hfit) (by omega)
                        obtain ⟨l',q1,q2⟩:=H.objs id (by rw [ho]; simp)
                        rw [hl] at q1; cases q1
                        rw [ho] at q2
                        obtain ⟨cur',e',fz',us',rest',q3,q4,q5,q6,q7⟩:=q2
                        rw [g1] at q3; cases q3
                        have hrun:=A8Q (P:=P) (w:=w) (ty:=ty) hu hi g1 q5.at (sLen:=len) (sCap:=sCap) (c:=cap) (by rw [hul,his]) hcl (C0Z hus) hfit hszf
                        have hu2:us'=olds:=by
                          have:=H1 q7
                          rw [← hoc,q6,← hcl2,← this]
                          simp
                        have hlen2:=H1 g4
                        refine ⟨_,_,ρ.upd h.nxt l,(two _ _).trans hrun,D9.one.2 ⟨l,_,sCap,by rw [← hnx]; obtain ⟨k1,_⟩:=VH.obj_new hnr; rw [k1]; simp [Rho.upd],rfl,⟨hfit,hlc.2⟩,fun _=>⟨rfl,hsize⟩⟩,?_,.inr ⟨l,rfl,?_⟩⟩
                        · obtain ⟨k1,k2,k3⟩:=VH.obj_new hnr
                          rw [k2,hO,← hnx,k1]
                          refine OStep.move H hl (by rw [ho]; simp) hf2 (T4 w) ?_
                          refine ⟨_,el2,fz,olds++us,cur.toList.drop (len*i.size+us.length),setRow_heap w l.1 cur _ el2 fz g1,?_,?_,?_,?_⟩
                          · have:=hszf
                            simp only [List.size_toArray,List.length_append,List.length_take,List.length_drop,Array.length_toList] at this ⊢
                            omega
                          · have hq:(cur.toList.take (len*i.size)++(us++cur.toList.drop (len*i.size+us.length))).toArray.size=cur.size:=by
                              have:=hszf
                              simp only [List.size_toArray,List.length_append,List.length_take,List.length_drop,Array.length_toList] at this ⊢
                              omega
                            rw [hq]; exact q5
                          · simp only [his,hoc,List.append_assoc]
                          · exact U7 (fun _ _=>A1u.mono (Rho.le_upd hf2)) (L1 g4 hus)
                        · obtain ⟨k1,k2,k3⟩:=VH.obj_new hnr
                          rw [k3,hnx]
                      · -- a new block
                        have holds:∀ j v,olds[j]?=some v→w.cell? (a0.add j)=some v:=by
                          intro j v hj
                          have hlt:j < olds.length:=(List.getElem?_eq_some_iff.1 hj).1
                          have:0 < sCap:=by
                            rcases Nat.eq_zero_or_pos sCap with h | h
                            · have:len=0:=by omega
                              rw [this] at hcl2
                              omega
                            · exact h
                          obtain ⟨rfl,_⟩:=hcc this
                          exact A7Y w g1 (by simpa using g2) j v hj
                        have hg:=run_append_grow (P:=P) w t ty el i z hu hi hiz a0 len sCap olds (by rw [g3,hcl2,his]) holds a n cap us (by rw [hul,his]) hcl (by omega) (by omega) (growslice_fits (by omega) (by rw [hiby]; exact hr2))
                        obtain ⟨ρ',k1,k2,k3⟩:=B6x (h:=h2) (w:=w) (len:=len) (n:=n) (cap:=grownCap w (len+n) sCap el) ke g4 hus (by rw [g3,hcl2]) hul hnr (by rw [hO]; exact H.drop id) hf2 hzc (grownCap_ge w _ _ _) (grownCap_le_maxLen w _ _ _ (by unfold maxLen; omega))
                        rw [hO] at k2
                        exact ⟨_,_,ρ',(two _ _).trans hg,k1,k2.drop,by rw [← hnx]; exact k3⟩
                    · cases e
                  · cases e
                · cases e
              · cases e
            · have hn:n=0:=Nat.eq_of_beq_eq_true hn0
              subst hn
              split at e
              case h_2=>cases e
              rename_i q hq
              cases e
              have:∃ b m c2,ux=.slice b m c2∧m≤c2:=by
                unfold D4b at hq
                split at hq
                · obtain ⟨l,a,cap,_,h2,h3,_⟩:=hs; exact ⟨_,_,_,h2,h3.1⟩
                · obtain ⟨a,h2⟩:=hs; exact ⟨_,_,_,h2,Nat.le_refl _⟩
                · obtain ⟨h2,_⟩:=hs; exact ⟨_,_,_,h2,Nat.le_refl _⟩
                · cases hq
              obtain ⟨b,m,c2,rfl,hle⟩:=this
              exact ⟨_,w,ρ,(two _ _).trans (run_append_zero hu hi ty b m c2 hle ao cap),hx,.refl H,.inl ⟨rfl,rfl⟩⟩
          · cases e
        · cases e
      · cases e
    · cases e
  · cases e
theorem C4l(hcf:Z2 P T){h h':VH}{ts:Array TypeId}{d x:VC}{v:VV}{ud ux:Value}{ty:TypeId}(e:C7C T h ts.toList d x=some (v,h'))(H:HRel ρ h.obj w)(hd:A1u ρ ud d)(hx:A1u ρ ux x) :
    ∃ u w',(Builtin.copy_ ts ty #[ud,ux]).run P w=.ok u w'∧D9 ρ u v∧OStep ρ h.obj w ρ h'.obj w'∧h'.nxt=h.nxt:=by
  unfold C7C at e
  split at e
  · rename_i t t' id off len esz hts
    have hts':ts=#[t,t']:=by rw [← Array.toList_inj,hts]
    subst hts'
    obtain ⟨l,a,cap,hl,rfl,hlc,hcc⟩:=hd
    split at e
    · rename_i r hr
      split at e
      · rename_i el hk
        have hu:=V5 hcf hr hk
        split at e
        · rename_i re hre
          have ke:=hcf _ _ hre
          split at e
          · rename_i n new old hsrc ho
            obtain ⟨ao,c2,us,rfl,hus,hul,hcell⟩:=C5F hsrc H hx
            cases hb:(Nat.beq esz re.sz && (Nat.blt 0 re.sz && Nat.ble (off+len*esz) old.length)) <;> rw [hb] at e <;> simp only [cond_true,cond_false,reduceCtorEq] at e
            simp only [Bool.and_eq_true] at hb
            have he:=Nat.eq_of_beq_eq_true hb.1
            subst he
            have hle:=Nat.le_of_ble_eq_true hb.2.2
            split at e
            · rename_i h2 hput
              rw [S4] at e
              cases e
              obtain ⟨hO,hn⟩:=VH.obj_put hput
              obtain ⟨m,hm⟩:∃ m,Nat.min n len=m:=⟨_,rfl⟩
              have hmn:m≤n:=hm ▸ Nat.min_le_left _ _
              have hml:m≤len:=hm ▸ Nat.min_le_right _ _
              rw [hm] at hput hO ⊢
              have hlen:=H1 hus
              -- what is copied
              have hcs:=A2B hus (m*re.sz)
              have hcl:(us.take (m*re.sz)).length=m*re.sz:=by
                rw [List.length_take,hul]
                exact Nat.min_eq_left (Nat.mul_le_mul_right _ hmn)
              have hfirst:(Builtin.firstCells re.sz m (.slice ao n c2)).run P w=.ok (us.take (m*re.sz)).toArray w:=by
                rcases Nat.eq_zero_or_pos n with h0 | h0
                · have:m=0:=by omega
                  subst this
                  cases ao <;> simp [Builtin.firstCells,loadCells,loadCellsFrom]
                · obtain ⟨a2,rfl,hc⟩:=hcell h0
                  exact run_firstCells_some w re.sz m a2 n c2 _ hcl fun j v hj=>hc j v (by
                    rw [List.getElem?_take] at hj
                    split at hj
                    · exact hj
                    · cases hj)
              obtain ⟨cur,el2,fz,olds,g1,g2,g3,g4,g5,g6⟩:=A4k H ho hl (off:=0) (n:=old.length) (by omega)
              obtain ⟨l',q1,q2⟩:=H.objs id (by rw [ho]; simp)
              rw [hl] at q1; cases q1
              rw [ho] at q2
              obtain ⟨cur',e',fz',us',rest',q3,q4,q5,q6,q7⟩:=q2
              rw [g1] at q3; cases q3
              have hol:=H1 q7
              have hsz:cur.size=us'.length+rest'.length:=by rw [← Array.length_toList,q6]; simp
              have hfit:off+m*re.sz≤old.length:=Nat.le_trans (Nat.add_le_add_left (Nat.mul_le_mul_right _ hml) _) hle
              rcases Nat.eq_zero_or_pos len with h0 | h0
              · have hm0:m=0:=by omega
                subst hm0
                have hst:∀ a:Addr,(storeCells a ([]:List Value)).run P w=.ok () w:=fun a=>rfl
                refine ⟨.int .i64 ((0:Nat):Int),w,?_,A05 _ _,?_,hn⟩
                · have hf0:(Builtin.firstCells re.sz 0 (.slice ao n c2)).run P w=.ok #[] w:=by simpa using hfirst
                  simp [Builtin.copy_,Go.Eng.run_underlying hu,Builtin.lenOf,hm,I9 ke,hf0,hst,goInt]
                · have:A1r.upd h.obj id (.row (B2Y old off (new.take (0*re.sz))))=h.obj:=by
                    funext j
                    unfold A1r.upd
                    split
                    · rename_i e; subst e; rw [ho]; simp [B2Y]
                    · rfl
                  rw [hO,this]
                  exact .refl H
              · obtain ⟨rfl,hcap⟩:=hcc (by omega)
                have hst:=A36 (P:=P) l.1 off el2 fz (us.take (m*re.sz)) 0 cur w g1 (by rw [hcl]; omega) q5.at (fun v hv=>C0Z hcs v hv)
                simp only [Nat.add_zero] at hst
                refine ⟨.int .i64 (m:Int),w.setRow l.1 (cur.toList.take off++(us.take (m*re.sz)++cur.toList.drop (off+(us.take (m*re.sz)).length))).toArray,?_,A05 _ _,?_,hn⟩
                · simp [Builtin.copy_,Go.Eng.run_underlying hu,Builtin.lenOf,hm,I9 ke,hfirst,hst,goInt]
                · rw [hO]
                  refine OStep.write H hl (by rw [ho]; simp) (T4 w) ?_
                  have hnl:(new.take (m*re.sz)).length=m*re.sz:=by rw [← H1 hcs,hcl]
                  refine ⟨_,el2,fz,us'.take off++(us.take (m*re.sz)++us'.drop (off+m*re.sz)),rest',setRow_heap w l.1 cur _ el2 fz g1,?_,?_,?_,?_⟩
                  · simp only [List.size_toArray,List.length_append,List.length_drop,Array.length_toList,hcl]
                    rw [List.length_take,Array.length_toList]
                    omega
                  · have hq:(cur.toList.take off++(us.take (m*re.sz)++cur.toList.drop (off+(us.take (m*re.sz)).length))).toArray.size=cur.size:=by
                      simp only [List.size_toArray,List.length_append,List.length_drop,Array.length_toList,hcl]
                      rw [List.length_take,Array.length_toList]
                      omega
                    rw [hq]; exact q5
                  · simp only [q6,hcl]
                    rw [List.take_append_of_le_length (by omega),List.drop_append_of_le_length (by omega)]
                    simp
                  · unfold B2Y
                    rw [hnl]
                    exact L1 (A2B q7 off) (L1 hcs (A3I q7 _))
            · cases e
          · cases e
        · cases e
      · cases e
    · cases e
  · cases e
theorem A4l{arg:Operand→Option VV}{ev:Operand→Value}:∀ {xs:List Operand} {l:List VV},B5l arg xs=some l→(∀ x∈xs,∀ y,arg x=some y→D9 ρ (ev x) y)→All2 (D9 ρ) (xs.map ev) l
  | [],_,e,_=>by cases e; exact .nil
  | x::xs,l,e,ha=>by
    simp only [B5l] at e
    split at e
    · rename_i y m h1 h2
      cases e
      exact .cons (ha x (by simp) _ h1) (A4l h2 fun z hz=>ha z (by simp [hz]))
    · cases e
theorem B6y:∀ {l:List VV} {ids:List Nat} {us:List Value},B6g l=some ids→All2 (D9 ρ) us l→All2 (A7p ρ) us ids
  | [],_,_,e,h=>by cases e; cases h; exact .nil
  | v::l,ids,us,e,h=>by
    unfold B6g at e
    split at e
    · rename_i heq; cases heq
    · rename_i id l' heq
      cases heq
      split at e
      · rename_i m hm
        cases e
        cases h with
        | cons r t =>
          obtain ⟨x,h1,h2⟩:=D9.r1.1 r
          exact .cons ⟨x,h1,h2⟩ (B6y hm t)
      · cases e
    · cases e
theorem B5q(hcf:Z2 P T){h h':VH}{b:Builtin}{ts:Array TypeId}{l:List VV}{us:List Value}{v:VV}{ty:TypeId}{cs:Array Bool}(e:A6Y T h b ts.toList l=some (v,h'))(H:HRel ρ h.obj w)(hf:ρ h.nxt=none)(hx:All2 (D9 ρ) us l) :
    ∃ u w' ρ',(builtin b ts ty cs us.toArray).run P w=.ok (.value u) w'∧D9 ρ' u v∧OStep ρ h.obj w ρ' h'.obj w'∧A37 ρ h.nxt ρ' h'.nxt:=by
  unfold A6Y at e
  split at e
  · rename_i c
    cases hx with
    | cons hc ht =>
    cases ht
    rename_i u
    have hc':=D9.r1.1 hc
    split at e
    · rename_i t hts
      have hts':ts=#[t]:=by rw [← Array.toList_inj,hts]
      subst hts'
      split at e
      · rename_i r hr
        obtain ⟨d,hd,hdk,_⟩:=(hcf _ _ hr).desc
        split at e
        · rename_i el c hk
          have hu:=V5 hcf hr hk
          split at e
          · rename_i n hn
            rw [S4] at e
            cases e
            have:∃ a cap,u=.slice a n cap:=by
              unfold D4b at hn
              split at hn
              · obtain ⟨l,a,cap,_,h2,_⟩:=hc'; cases hn; exact ⟨_,_,h2⟩
              · obtain ⟨a,h2⟩:=hc'; cases hn; exact ⟨_,_,h2⟩
              · obtain ⟨h2,_⟩:=hc'; cases hn; exact ⟨_,_,h2⟩
              · cases hn
            obtain ⟨a,cap,rfl⟩:=this
            exact ⟨.int .i64 n,w,ρ,by simp [builtin,Builtin.len_,Go.Eng.run_underlying hu,goInt],A05 _ _,.refl H,.inl ⟨rfl,rfl⟩⟩
          · cases e
        · rename_i s hk
          obtain ⟨rfl,_⟩:=hc'
          rw [S4] at e
          cases e
          rw [hk] at hdk
          cases (hdk:d=.string)
          exact ⟨.int .i64 s.size,w,ρ,by simp [builtin,Builtin.len_,Go.Eng.run_underlying hd,goInt],A05 _ _,.refl H,.inl ⟨rfl,rfl⟩⟩
        · cases e
      · cases e
    · cases e
  · rename_i s x
    cases hx with
    | cons h1 ht =>
    cases ht with
    | cons h2 ht2 =>
    cases ht2
    obtain ⟨u,w',ρ',k1,k2⟩:=B91 hcf (ty:=ty) e H hf h1 h2
    exact ⟨u,w',ρ',by simp [builtin]; simpa using by rw [k1]; rfl,k2⟩
  · rename_i d x
    cases hx with
    | cons h1 ht =>
    cases ht with
    | cons h2 ht2 =>
    cases ht2
    obtain ⟨u,w',k1,k2,k3,k4⟩:=C4l hcf (ty:=ty) e H (D9.r1.1 h1) (D9.r1.1 h2)
    exact ⟨u,w',ρ,by simp [builtin]; simpa using by rw [k1]; rfl,k2,k3,.inl ⟨rfl,k4⟩⟩
  · rename_i k x k' y
    cases hx with
    | cons h1 ht =>
    cases ht with
    | cons h2 ht2 =>
    cases ht2
    obtain ⟨rfl,_⟩:=D9.v.1 h1
    obtain ⟨rfl,_⟩:=D9.v.1 h2
    split at e
    · rename_i hk
      subst hk
      rw [S4] at e
      cases e
      exact ⟨.int k (A3u x y),w,ρ,by simp [builtin,Builtin.min_,Builtin.min2,A3u],A05 _ _,.refl H,.inl ⟨rfl,rfl⟩⟩
    · cases e
  · rename_i k x k' y
    cases hx with
    | cons h1 ht =>
    cases ht with
    | cons h2 ht2 =>
    cases ht2
    obtain ⟨rfl,_⟩:=D9.v.1 h1
    obtain ⟨rfl,_⟩:=D9.v.1 h2
    split at e
    · rename_i hk
      subst hk
      rw [S4] at e
      cases e
      exact ⟨.int k (B2b x y),w,ρ,by simp [builtin,Builtin.max_,Builtin.max2,B2b],A05 _ _,.refl H,.inl ⟨rfl,rfl⟩⟩
    · cases e
  · cases e
end
end Go.Vm
namespace Go.Vm
open Go.Eng Go.RowKit
def Fin(nx:Next)(u:Value):Prop:=nx=.value u∨(nx=.skip∧u=undef)
section
variable {P:Program} {T:Tr VTy} {ρ:Rho} {w:World}
def C5G(P:Program)(ρ:Rho)(w:World)(h:VH)(ev:Operand→Value)(o:Oper)(v:VV)(h':VH):Prop :=
  ∃ nx u w' ρ',(execOp ev o).run P w=.ok nx w'∧Fin nx u∧D9 ρ' u v∧OStep ρ h.obj w ρ' h'.obj w'∧A37 ρ h.nxt ρ' h'.nxt
theorem F4{h:VH}{ev:Operand→Value}{o:Oper}{v:VV}{u:Value}(H:HRel ρ h.obj w)(hr:(execOp ev o).run P w=.ok (.value u) w)(hv:D9 ρ u v):C5G P ρ w h ev o v h :=
  ⟨_,u,w,ρ,hr,.inl rfl,hv,.refl H,.inl ⟨rfl,rfl⟩⟩
theorem D15(hcf:Z2 P T){e:Nat}(h:D0y T e=true):∃ _q:Unit,P.underlying e=some (.int .u8):=by
  unfold D0y at h
  split at h
  · rename_i r hr
    split at h
    · rename_i hk
      obtain ⟨d,h1,h2,_⟩:=(hcf _ _ hr).desc
      rw [hk] at h2
      cases (h2:d=.int .u8)
      exact ⟨(),h1⟩
    · cases h
  · cases h
theorem C5H:∀ {cs:List VC} {us:List Value} {b0 b:ByteArray},All2 (A1u ρ) us cs→C49 cs b0=some b→∃ ns:List Int,us=ns.map (Value.int .u8)∧ns.foldl (fun r n=>r.push (UInt8.ofNat n.toNat)) b0=b
  | [],_,b0,b,h,e=>by cases h; cases e; exact ⟨[],rfl,rfl⟩
  | c::cs,_,b0,b,h,e=>by
    cases h with
    | cons r h =>
      unfold C49 at e
      split at e
      · rename_i heq; cases heq
      · rename_i n l heq
        cases heq
        obtain ⟨ns,h1,h2⟩:=C5H h e
        obtain ⟨rfl,_⟩:=r
        exact ⟨n::ns,by rw [h1]; rfl,h2⟩
      · cases e
def B6z(ρ:Rho)(e:MapEntry)(c:VC×VC):Prop:=A1u ρ e.key c.1∧A1u ρ e.val c.2
theorem B6A(hcf:Z2 P T){t:Nat}{re:VTy}(h:A7X T t=some re):∃ k e,P.underlying t=some (.map k e)∧P.underlying k=some (.int .i64)∧VOk P e re∧re.agg=false:=by
  unfold A7X at h
  split at h
  · rename_i r hr
    split at h
    · rename_i k e hk
      split at h
      · rename_i rk re' hrk hre
        split at h
        · rename_i hkk
          cases hb:re'.agg <;> rw [hb] at h <;> simp only [cond_true,cond_false,reduceCtorEq] at h
          cases h
          obtain ⟨d,h1,h2,_⟩:=(hcf _ _ hr).desc
          rw [hk] at h2
          cases (h2:d=.map k e)
          obtain ⟨d2,h3,h4,_⟩:=(hcf _ _ hrk).desc
          rw [hkk] at h4
          cases (h4:d2=.int .i64)
          exact ⟨k,e,h1,h3,hcf _ _ hre,hb⟩
        · cases h
      · cases h
    · cases h
  · cases h
theorem B0I{k:Int}:∀ {es:List (VC×VC)} {ents:List MapEntry} {res:Option VC} (j:Nat),All2 (B6z ρ) ents es→B0z k es=some res →
    match res with
    | some x=>∃ i u,Instr.findNow (.int .i64) (.int .i64 k) ents j=some (some (i,u))∧A1u ρ u x
    | none=>Instr.findNow (.int .i64) (.int .i64 k) ents j=some none
  | [],_,res,j,h,e=>by cases h; cases e; rfl
  | (c,y)::es,_,res,j,h,e=>by
    cases h with
    | cons r h =>
      rename_i en ents
      unfold B0z at e
      split at e
      · rename_i heq; cases heq
      · rename_i n x' l heq
        cases heq
        obtain ⟨⟨hk,_⟩,hv⟩:=r
        cases hb:eqI k n <;> rw [hb] at e <;> simp only [cond_true,cond_false] at e
        · have ih:=B0I (j+1) h e
          have hs:Instr.sameNow (.int .i64) (.int .i64 k) en.key=some false:=by
            have:¬ k=n:=by simpa [eqI] using hb
            simp [Instr.sameNow,hk,this]
          cases res with
          | some x=>obtain ⟨i,u,h1,h2⟩:=ih; exact ⟨i,u,by simp only [Instr.findNow,hs]; exact h1,h2⟩
          | none=>show Instr.findNow _ _ _ _=_; simp only [Instr.findNow,hs]; exact ih
        · cases e
          have hs:Instr.sameNow (.int .i64) (.int .i64 k) en.key=some true:=by
            have:k=n:=by simpa [eqI] using hb
            simp [Instr.sameNow,hk,this]
          exact ⟨j,en.val,by simp only [Instr.findNow,hs],hv⟩
      · cases e
theorem C10{k:Int}{x:VC}{ux:Value}(hx:A1u ρ ux x):∀ {es es':List (VC×VC)} {ents:List MapEntry} (j:Nat),All2 (B6z ρ) ents es→B6h k x es=some es' →
    (∃ i e0,Instr.findNow (.int .i64) (.int .i64 k) ents j=some (some (i+j,e0.val))∧ents[i]?=some e0∧e0.key=.int .i64 k∧All2 (B6z ρ) (ents.set i { e0 with key:=.int .i64 k,val:=ux }) es') ∨
    (Instr.findNow (.int .i64) (.int .i64 k) ents j=some none∧∀ b,All2 (B6z ρ) (ents++[{ key:=.int .i64 k,val:=ux,born:=b }]) es')
  | [],es',_,j,h,e=>by
    cases h; cases e
    exact .inr ⟨rfl,fun b=>.cons ⟨⟨rfl,rfl⟩,hx⟩ .nil⟩
  | (c,y)::es,es',_,j,h,e=>by
    cases h with
    | cons r h =>
      rename_i en ents
      unfold B6h at e
      split at e
      · rename_i heq; cases heq
      · rename_i n x' l heq
        cases heq
        obtain ⟨⟨hk,hk2⟩,hv⟩:=r
        cases hb:eqI k n <;> rw [hb] at e <;> simp only [cond_true,cond_false] at e
        · have hne:¬ k=n:=by simpa [eqI] using hb
          have hs:Instr.sameNow (.int .i64) (.int .i64 k) en.key=some false:=by simp [Instr.sameNow,hk,hne]
          split at e
          · rename_i l' hl
            cases e
            rcases C10 hx (j+1) h hl with ⟨i,e0,h1,h2,h3,h4⟩ | ⟨h1,h2⟩
            · refine .inl ⟨i+1,e0,?_,by simpa using h2,h3,.cons ⟨⟨hk,hk2⟩,hv⟩ h4⟩
              simp only [Instr.findNow,hs]
              rw [h1]
              congr 3
              omega
            · refine .inr ⟨?_,fun b=>.cons ⟨⟨hk,hk2⟩,hv⟩ (h2 b)⟩
              simp only [Instr.findNow,hs]; exact h1
          · cases e
        · cases e
          have hn:k=n:=by simpa [eqI] using hb
          subst hn
          have hs:Instr.sameNow (.int .i64) (.int .i64 k) en.key=some true:=by simp [Instr.sameNow,hk]
          exact .inl ⟨0,en,by simp only [Instr.findNow,hs,Nat.zero_add],rfl,hk,.cons ⟨⟨rfl,rfl⟩,hx⟩ h⟩
      · cases e
theorem C11(hcf:Z2 P T){h:VH}{t:Nat}{m k v:VV}{ok:Bool}{um uk:Value}(e:B5o T h t m k ok=some v)(H:HRel ρ h.obj w)(hm:D9 ρ um m)(hk:D9 ρ uk k) :
    ∃ u,(Instr.lookup t um uk ok).run P w=.ok u w∧D9 ρ u v:=by
  unfold B5o at e
  split at e
  · rename_i re id n hII
    obtain ⟨kt,et,hu,huk,ke,hagg⟩:=B6A hcf hII
    obtain ⟨l,hl,rfl⟩:=D9.r1.1 hm
    obtain ⟨rfl,_⟩:=D9.v.1 hk
    split at e
    · rename_i es ho
      obtain ⟨l',q1,q2⟩:=H.objs id (by rw [ho]; simp)
      rw [hl] at q1; cases q1
      rw [ho] at q2
      obtain ⟨ents,clock,hb,hes⟩:=q2
      have hget:(getObj l.1).run P w=.ok (.map ents clock) w:=by simp [getObj,Sem.run,hb]
      have hck:∀ b,(Instr.checkKey b 10000 kt (.int .i64 n)).run P w=.ok () w:=fun b=>Go.MapKept.run_checkKey (k:=.int .i64 n) huk (by rfl) b 9999
      have base:∀ a,Instr.findNow (.int .i64) (.int .i64 n) ents.toList 0=some a→(Instr.findKey kt (.int .i64 n) ents.toList).run P w=.ok a w:=fun a ha=>Go.MapKept.run_findKey huk ha
      split at e
      · rename_i z x hf
        obtain ⟨i,u,h1,h2⟩:=B0I (ρ:=ρ) (res:=some x) 0 hes hf
        have hkey:=base _ h1
        have hrun:(Instr.lookup t (.map (some l.1)) (.int .i64 n) ok).run P w=.ok (if ok then .tuple #[u,.bool true] else u) w:=by
          simp [Instr.lookup,Go.Eng.run_underlying hu,hget,hck,hkey]
        cases ok
        · cases e
          exact ⟨_,hrun,D9.one.2 h2⟩
        · cases e
          exact ⟨_,hrun,_,rfl,.cons (A4Z.one.2 h2) (.cons (A4Z.one.2 ⟨rfl,rfl⟩) .nil)⟩
      · rename_i z hf hz
        have h1:=B0I (ρ:=ρ) (res:=none) 0 hes hf
        have hkey:=base _ h1
        obtain ⟨zv,hzr,hzc⟩:=C0Q ke hagg w
        have hzrel:All2 (A1u ρ) re.zero (A61 re):=A5s ke
        have hrun:(Instr.lookup t (.map (some l.1)) (.int .i64 n) ok).run P w=.ok (if ok then .tuple #[zv,.bool false] else zv) w:=by
          simp [Instr.lookup,Go.Eng.run_underlying hu,hget,hck,hkey,hzr]
        have hzz:A1u ρ zv z:=by
          rw [hz,hzc] at hzrel
          cases hzrel with
          | cons r _=>exact r
        cases ok
        · cases e
          exact ⟨_,hrun,D9.one.2 hzz⟩
        · cases e
          exact ⟨_,hrun,_,rfl,.cons (A4Z.one.2 hzz) (.cons (A4Z.one.2 ⟨rfl,rfl⟩) .nil)⟩
      · cases e
    · cases e
  · cases e
theorem A6y(hcf:Z2 P T){h h':VH}{t:Nat}{m k x:VV}{um uk ux:Value}(e:A64 T h t m k x=some h')(H:HRel ρ h.obj w)(hm:D9 ρ um m)(hk:D9 ρ uk k)(hx:D9 ρ ux x) :
    ∃ w',(Instr.mapUpdate t um uk ux).run P w=.ok () w'∧OStep ρ h.obj w ρ h'.obj w'∧h'.nxt=h.nxt:=by
  unfold A64 at e
  split at e
  · rename_i re id n c hII
    obtain ⟨kt,et,hu,huk,ke,hagg⟩:=B6A hcf hII
    obtain ⟨l,hl,rfl⟩:=D9.r1.1 hm
    obtain ⟨rfl,_⟩:=D9.v.1 hk
    have hx':=D9.r1.1 hx
    split at e
    · rename_i es ho
      split at e
      · rename_i es' hput
        obtain ⟨hO,hn⟩:=VH.obj_put e
        obtain ⟨l',q1,q2⟩:=H.objs id (by rw [ho]; simp)
        rw [hl] at q1; cases q1
        rw [ho] at q2
        obtain ⟨ents,clock,hb,hes⟩:=q2
        have hlt:l.1 < w.heap.size:=(Array.getElem?_eq_some_iff.1 hb).1
        have hget:(getObj l.1).run P w=.ok (.map ents clock) w:=by simp [getObj,Sem.run,hb]
        have hset:∀ o,(setObj l.1 o).run P w=.ok () { w with heap:=w.heap.setIfInBounds l.1 o }:=fun o=>by simp [setObj,Sem.run,hb]
        have hck:∀ b,(Instr.checkKey b 10000 kt (.int .i64 n)).run P w=.ok () w:=fun b=>Go.MapKept.run_checkKey (k:=.int .i64 n) huk (by rfl) b 9999
        have base:∀ a,Instr.findNow (.int .i64) (.int .i64 n) ents.toList 0=some a→(Instr.findKey kt (.int .i64 n) ents.toList).run P w=.ok a w:=fun a ha=>Go.MapKept.run_findKey huk ha
        have fin:∀ (o:Obj),A2f ρ { w with heap:=w.heap.setIfInBounds l.1 o } l (.map es')→OStep ρ h.obj w ρ h'.obj { w with heap:=w.heap.setIfInBounds l.1 o }:=by
          intro o ho2
          rw [hO]
          exact OStep.write H hl (by rw [ho]; simp) ⟨rfl,rfl,rfl,by simp,fun b _ hb=>by simp [Array.getElem?_setIfInBounds_ne (Ne.symm hb)]⟩ ho2
        have at':∀ o:Obj,({ w with heap:=w.heap.setIfInBounds l.1 o }:World).heap[l.1]?=some o:=fun o=>by simp [hlt]
        rcases C10 hx' 0 hes hput with ⟨i,e0,h1,h2,h3,h4⟩ | ⟨h1,h2⟩
        · have hkey:=base _ h1
          have h2':ents[i]?=some e0:=by simpa using h2
          have hks:(Instr.keyThatStays (((ents[i]?).map (·.key)).getD (.int .i64 n)) (.int .i64 n)).run P w=.ok (.int .i64 n) w:=by
            rw [h2']
            simp [Instr.keyThatStays,h3,Instr.sameBits]
          refine ⟨_,?_,fin (.map (ents.modify i fun e=>{ e with key:=.int .i64 n,val:=ux }) clock) ⟨_,clock,at' _,?_⟩,hn⟩
          · simp only [Instr.mapUpdate,Sem.run_bind,Go.Eng.run_underlying hu,Result.andThen_ok,hget,hck,hkey,Nat.add_zero,hks,hset]
          · have:(ents.modify i fun e=>{ e with key:=Value.int .i64 n,val:=ux }).toList=ents.toList.set i { e0 with key:=.int .i64 n,val:=ux }:=by
              have hi:i < ents.size:=(Array.getElem?_eq_some_iff.1 h2').1
              have hv:ents[i]=e0:=(Array.getElem?_eq_some_iff.1 h2').2
              apply List.ext_getElem?
              intro j
              rw [Array.getElem?_toList,Array.getElem?_modify,List.getElem?_set]
              by_cases hij:i=j
              · subst hij
                simp [hi,hv]
              · simp [hij]
            rw [this]
            exact h4
        · have hkey:=base _ h1
          refine ⟨_,?_,fin (.map (ents.push { key:=.int .i64 n,val:=ux,born:=clock }) (clock+1)) ⟨_,clock+1,at' _,?_⟩,hn⟩
          · simp only [Instr.mapUpdate,Sem.run_bind,Go.Eng.run_underlying hu,Result.andThen_ok,hget,hck,hkey,hset]
          · have:=h2 clock
            rw [← Array.toList_push] at this
            exact this
      · cases e
    · cases e
  · cases e
theorem D16(hcf:Z2 P T){arg:Operand→Option VV}{ev:Operand→Value}{h h':VH}{o:Oper}{v:VV}(e:opO T arg h o.op=some (v,h'))(H:HRel ρ h.obj w)(hf:ρ h.nxt=none)
    (ha:∀ x∈o.op.operands,∀ y,arg x=some y→D9 ρ (ev x) y):C5G P ρ w h ev o v h':=by
  cases hop:o.op <;> rw [hop] at e ha <;> simp only [opO,opT,B31,C4a,B6i,D4e,B6j,A34,C4b,C0D,D4f,D0T,oUn,C4c,B6k,oFn,A4g,B6l,A4h,B6m,A4i,B6n,A6Z,B0A,C7J,B0B,A4j,C0E,A3H,C7H] at e
  case move x =>
    split at e
    · rename_i y hy
      cases e
      exact F4 H (by simp [execOp,hop]) (ha x (by simp [Op.operands]) _ hy)
    · cases e
  case assign x =>
    split at e
    · rename_i y hy
      cases e
      exact F4 H (by simp [execOp,hop]) (ha x (by simp [Op.operands]) _ hy)
    · cases e
  case pick c a b =>
    split at e
    · rename_i t hc
      obtain ⟨h1,_⟩:=D9.v.1 (ha c (by simp [Op.operands]) _ hc)
      cases t
      · simp only [cond_false] at e
        split at e
        · rename_i y hy
          cases e
          exact F4 H (by simp [execOp,hop,h1,asBool]) (ha b (by simp [Op.operands]) _ hy)
        · cases e
      · simp only [cond_true] at e
        split at e
        · rename_i y hy
          cases e
          exact F4 H (by simp [execOp,hop,h1,asBool]) (ha a (by simp [Op.operands]) _ hy)
        · cases e
    · cases e
  case alloc t =>
    split at e
    · rename_i r hr
      split at e
      · rename_i id h2 hn
        cases e
        obtain ⟨u,w',ρ',k1,k2,k3,k4⟩:=C4j hcf hr hn H hf
        exact ⟨_,u,w',ρ',by simp [execOp,hop,k1],.inl rfl,k2,k3,k4⟩
      · cases e
    · cases e
  case box t x =>
    split at e
    · rename_i y hy
      split at e
      · rename_i id h2 hn
        cases e
        obtain ⟨u,w',ρ',k1,k2,k3,k4⟩:=D10 (P:=P) (t:=t) (ha x (by simp [Op.operands]) _ hy) hn H hf
        exact ⟨_,u,w',ρ',by simp [execOp,hop,k1],.inl rfl,k2,k3,k4⟩
      · cases e
    · cases e
  case build t ps =>
    split at e
    · rename_i rs hrs
      split at e
      · rename_i y hy
        cases e
        have hp:=A65 (ρ:=ρ) (ev:=ev) hrs (fun p hp y hy=>ha p.2 (by simp [Op.operands]; exact ⟨_,by simpa using hp⟩) y hy)
        obtain ⟨u,k1,k2⟩:=C4k (P:=P) (w:=w) hcf hy (vals:=ps.map fun p=>(p.1,ev p.2)) (by simpa using hp)
        exact F4 H (by simp [execOp,hop,k1]) k2
      · cases e
    · cases e
  case buildSlice t n ps =>
    split at e
    · rename_i rs hrs
      have hp:=A65 (ρ:=ρ) (ev:=ev) hrs (fun p hp y hy=>ha p.2 (by simp [Op.operands]; exact ⟨_,by simpa using hp⟩) y hy)
      obtain ⟨u,w',ρ',k1,k2,k3,k4⟩:=B0F (P:=P) hcf e (vals:=ps.map fun p=>(p.1,ev p.2)) (by simpa using hp) H hf
      exact ⟨_,u,w',ρ',by simp [execOp,hop,k1],.inl rfl,k2,k3,k4⟩
    · cases e
  case load t a =>
    split at e
    · rename_i x hx
      split at e
      · rename_i y hy
        cases e
        obtain ⟨u,k1,k2⟩:=C0S (P:=P) hcf hy H (ha a (by simp [Op.operands]) _ hx)
        exact F4 H (by simp [execOp,hop,k1]) k2
      · cases e
    · cases e
  case store t a x =>
    split at e
    · rename_i y z hy hz
      split at e
      · rename_i h2 hs
        cases e
        obtain ⟨w',k1,k2,k3⟩:=C4i (P:=P) hcf hs H (ha a (by simp [Op.operands]) _ hy) (ha x (by simp [Op.operands]) _ hz)
        exact ⟨.skip,undef,w',ρ,by simp [execOp,hop,k1],.inr ⟨rfl,rfl⟩,rfl,k2,.inl ⟨rfl,k3⟩⟩
      · cases e
    · cases e
  case nilCheck x =>
    split at e
    · rename_i id off hx
      cases e
      have hr:=ha x (by simp [Op.operands]) _ hx
      obtain ⟨l,h1,h2⟩:=D9.r1.1 hr
      exact F4 H (u:=ev x) (by simp [execOp,hop,h2]) hr
    · rename_i f ids hx
      cases e
      have hr:=ha x (by simp [Op.operands]) _ hx
      obtain ⟨us,h2,h3⟩:=D9.r1.1 hr
      exact F4 H (u:=ev x) (by simp [execOp,hop,h2]) hr
    · rename_i l0 hx
      cases e
      have hr:=ha x (by simp [Op.operands]) _ hx
      obtain ⟨us,h2,h3⟩:=D9.r1.1 hr
      exact F4 H (u:=ev x) (by simp [execOp,hop,h3]) hr
    · rename_i t y hx
      cases e
      have hr:=ha x (by simp [Op.operands]) _ hx
      obtain ⟨h2,_⟩:=D9.v.1 hr
      exact F4 H (u:=ev x) (by simp [execOp,hop,h2]) hr
    · cases e
  case binOp op t x y t2 =>
    split at e
    · rename_i a b hx hy
      split at e
      · rename_i c hc
        cases e
        obtain ⟨u,k1,k2⟩:=C7N (P:=P) (w:=w) hcf (ox:=x) (oy:=y) hc (ha x (by simp [Op.operands]) _ hx) (ha y (by simp [Op.operands]) _ hy)
        exact F4 H (by simp only [execOp,hop]; rw [Sem.run_bind]; rw [k1]; rfl) k2
      · cases e
    · cases e
  case unOp op t x =>
    split at e
    · rename_i a hx
      split at e
      · rename_i c hc
        cases e
        obtain ⟨u,k1,k2⟩:=D14 (P:=P) (w:=w) hc (ha x (by simp [Op.operands]) _ hx)
        exact F4 H (by simp only [execOp,hop]; rw [Sem.run_bind]; rw [k1]; rfl) k2
      · cases e
    · cases e
  case convert s d x =>
    split at e
    · rename_i r r' k n hr hr' hx
      split at e
      · rename_i k1 k2 hk hk'
        rw [S4] at e
        cases e
        obtain ⟨h1,_⟩:=D9.v.1 (ha x (by simp [Op.operands]) _ hx)
        obtain ⟨d1,e1,e2,_⟩:=(hcf _ _ hr).desc
        obtain ⟨d2,e3,e4,_⟩:=(hcf _ _ hr').desc
        rw [hk] at e2; rw [hk'] at e4
        cases (e2:d1=.int k1); cases (e4:d2=.int k2)
        exact F4 H (u:=.int k2 (k2.wrap n)) (by simp [execOp,hop,h1,convert,underlying,e1,e3,Conv.intToInt]) (A05 k2 _)
      · cases e
    · rename_i r r' id off n esz hr hr' hx
      have hx':=D9.r1.1 (ha x (by simp [Op.operands]) _ hx)
      obtain ⟨l,a,cap,hl,hv,hlc,hcc⟩:=hx'
      split at e
      · rename_i el el' hk hk'
        cases hb:(Nat.beq s d && (D0y T el && (Nat.blt 0 n && D0S (h.obj id)))) <;> rw [hb] at e <;> simp only [cond_true,cond_false,reduceCtorEq] at e
        cases e
        simp only [Bool.and_eq_true] at hb
        obtain ⟨b1,b2,b3,b4⟩:=hb
        have hsd:=Nat.eq_of_beq_eq_true b1
        subst hsd
        have hn0:0 < n:=Nat.le_of_ble_eq_true b3
        have hrow:∃ cs,h.obj id=.row cs:=by
          cases hq:h.obj id <;> rw [hq] at b4 <;> first | (cases b4; done) | exact ⟨_,rfl⟩
        obtain ⟨cs,ho⟩:=hrow
        have hu:=V5 hcf hr hk
        obtain ⟨q,hu8⟩:=D15 hcf b2
        obtain ⟨rfl,hcap⟩:=hcc (by omega)
        obtain ⟨l',q1,q2⟩:=H.objs id (by rw [ho]; simp)
        rw [hl] at q1; cases q1
        rw [ho] at q2
        obtain ⟨cur,e',fz,us,rest,g1,g2,g3,g4,g5⟩:=q2
        have hsh:w.shape? l.1=some (e',cur.size):=by simp [World.shape?,g1]
        have hrun:(execOp ev o).run P w=.ok (.value (.slice (some ⟨l.1,off,none⟩) n cap)) (w.freeze ⟨l.1,cur.size,none⟩ 1):=by
          simp only [execOp,hop,hv,convert,Sem.run_bind,Go.Eng.run_underlying hu,Result.andThen_ok,Go.Eng.run_underlying hu8,beq_self_eq_true]
          simp [markStringish,shape,freeze,Sem.run,hsh]
        have hfz:(w.freeze ⟨l.1,cur.size,none⟩ 1).heap[l.1]?=some (.cells cur e' (if fz.1 == fz.2 then(cur.size,cur.size+1) else(min fz.1 cur.size,max fz.2 (cur.size+1)))):=by
          have hlt:l.1 < w.heap.size:=(Array.getElem?_eq_some_iff.1 g1).1
          have hvv:w.heap[l.1]=.cells cur e' fz:=(Array.getElem?_eq_some_iff.1 g1).2
          simp [World.freeze,Array.getElem?_modify,g1]
        refine ⟨_,_,_,ρ,hrun,.inl rfl,D9.one.2 ⟨l,_,cap,hl,rfl,hlc,fun _=>⟨rfl,hcap⟩⟩,?_,.inl ⟨rfl,rfl⟩⟩
        have same:A1r.upd h.obj id (.row cs)=h.obj:=by
          funext j
          unfold A1r.upd
          split
          · rename_i e; subst e; rw [ho]
          · rfl
        have st:=OStep.write (w':=w.freeze ⟨l.1,cur.size,none⟩ 1) (o:=.row cs) H hl (by rw [ho]; simp) ⟨rfl,rfl,rfl,by simp [World.freeze],fun b _ hb=>by simp [World.freeze,Array.getElem?_modify,Ne.symm hb]⟩
          ⟨cur,e',_,us,rest,hfz,g2,by
            rcases g3 with rfl | g3
            · exact .inr (by simp)
            · right
              split
              · exact Nat.le_refl _
              · simp; omega,g4,g5⟩
        rw [same] at st
        exact st
      · rename_i el hk hk'
        cases hb:(D0y T el && Nat.beq esz 1) <;> rw [hb] at e <;> simp only [cond_true,cond_false,reduceCtorEq] at e
        simp only [Bool.and_eq_true] at hb
        have hez:=Nat.eq_of_beq_eq_true hb.2
        subst hez
        split at e
        · rename_i cs hcs
          split at e
          · rename_i b hbb
            cases e
            have hu:=V5 hcf hr hk
            obtain ⟨q,hu8⟩:=D15 hcf hb.1
            obtain ⟨d2,hd2,hdk2,_⟩:=(hcf _ _ hr').desc
            rw [hk'] at hdk2
            cases (hdk2:d2=.string)
            obtain ⟨all,ho,hle,rfl⟩:=A50 hcs
            obtain ⟨cur,el2,fz,us,g1,g2,g3,g4,_⟩:=A4k H ho hl hle
            obtain ⟨ns,hns,hfold⟩:=C5H g4 hbb
            have hload:(loadCells a n).run P w=.ok (ns.map (Value.int .u8)).toArray w:=by
              rcases Nat.eq_zero_or_pos n with h0 | h0
              · subst h0
                have:us=[]:=List.length_eq_zero_iff.1 g3
                rw [← hns,this]
                rfl
              · obtain ⟨rfl,_⟩:=hcc (by omega)
                have:=run_loadCells_list (P:=P) w ⟨l.1,off,none⟩ us (A7Y w g1 g2)
                rw [g3] at this
                rw [this,hns]
            have hrun:=run_bytesToString w a n cap ns hload
            rw [hfold] at hrun
            refine F4 H (u:=.string b) ?_ (D9.one.2 ⟨rfl,rfl⟩)
            simp only [execOp,hop,hv,convert,Sem.run_bind,Go.Eng.run_underlying hu,Result.andThen_ok,Go.Eng.run_underlying hd2,Go.Eng.run_underlying hu8,hrun,Sem.run_pure]
          · cases e
        · cases e
      · cases e
    · cases e
  case makeInterface t x =>
    split at e
    · rename_i r hr hx
      split at e
      · rename_i fs hk
        cases e
        obtain ⟨a,hu,_⟩:=A7Z hcf hr hk
        obtain ⟨us,h1,h2,_⟩:=ha x (by simp [Op.operands]) _ hx
        cases h1
        refine F4 H (u:=.iface t (.agg #[])) ?_ (D9.one.2 ⟨rfl,rfl⟩)
        simp [mkV] at h2
        simp [execOp,hop,h2,Instr.makeInterface,Go.Eng.run_underlying hu]
      · cases e
    · cases e
  case makeFunc fn first captured =>
    cases fn <;> simp only at e
    case func f =>
      simp only [C7I] at e
      cases hb:first.isEmpty <;> rw [hb] at e <;> simp only [cond_true,cond_false,reduceCtorEq] at e
      split at e
      · rename_i l hl
        split at e
        · rename_i ids hids
          cases e
          have hm:=A4l (ρ:=ρ) (ev:=ev) hl (fun x hx y hy=>ha x (by simp [Op.operands]; right; simpa using hx) y hy)
          have hp:=B6y hids hm
          have hfirst:first=#[]:=by simpa using hb
          refine F4 H (u:=.func (.func f) #[] (captured.map ev)) (by simp [execOp,hop,hfirst,Instr.makeFunc]) (D9.one.2 ⟨_,rfl,by simpa using hp⟩)
        · cases e
      · cases e
    all_goals cases e
  case makeSlice t l c =>
    split at e
    · rename_i r k n k' m hr hl hc
      obtain ⟨h1,_⟩:=D9.v.1 (ha l (by simp [Op.operands]) _ hl)
      obtain ⟨h2,_⟩:=D9.v.1 (ha c (by simp [Op.operands]) _ hc)
      split at e
      · rename_i el hk
        split at e
        · rename_i re hre
          cases hb:(Y8 n m re.bytes && Nat.blt 0 re.sz) <;> rw [hb] at e <;> simp only [cond_true,cond_false,reduceCtorEq] at e
          simp only [Bool.and_eq_true] at hb
          split at e
          · rename_i id h2 hn
            rw [A1i] at e
            cases e
            obtain ⟨u,w',ρ',k1,k2,k3,k4⟩:=B33 (P:=P) hcf (k1:=k) (k2:=k') hr hk hre hb.1 (Nat.le_of_ble_eq_true hb.2) hn H hf
            exact ⟨_,u,w',ρ',by simp [execOp,hop,h1,h2,k1],.inl rfl,k2,k3,k4⟩
          · cases e
        · cases e
      · cases e
    · cases e
  case slice t x lo hi mx =>
    split at e
    · rename_i y bl bh bm hy hl hh hm
      split at e
      · rename_i z hz
        cases e
        obtain ⟨u,k1,k2⟩:=C7O (P:=P) (w:=w) hcf hz (ha x (by simp [Op.operands]) _ hy)
          (A66 (ev:=ev) hl fun q hq y hy=>ha q (by cases lo <;> simp at hq; subst hq; simp [Op.operands]) y hy)
          (A66 (ev:=ev) hh fun q hq y hy=>ha q (by cases hi <;> simp at hq; subst hq; simp [Op.operands]) y hy)
          (A66 (ev:=ev) hm fun q hq y hy=>ha q (by cases mx <;> simp at hq; subst hq; simp [Op.operands]) y hy)
        exact F4 H (by simp [execOp,hop,k1]) k2
      · split at e
        · rename_i z hz
          cases e
          obtain ⟨u,k1,k2⟩:=C7P (P:=P) (w:=w) hcf hz H (ha x (by simp [Op.operands]) _ hy)
            (A66 (ev:=ev) hl fun q hq y hy=>ha q (by cases lo <;> simp at hq; subst hq; simp [Op.operands]) y hy)
            (A66 (ev:=ev) hh fun q hq y hy=>ha q (by cases hi <;> simp at hq; subst hq; simp [Op.operands]) y hy)
            (A66 (ev:=ev) hm fun q hq y hy=>ha q (by cases mx <;> simp at hq; subst hq; simp [Op.operands]) y hy)
          exact F4 H (by simp [execOp,hop,k1]) k2
        · cases e
    · cases e
  case fieldAddr t x f =>
    split at e
    · rename_i a hx
      split at e
      · rename_i c hc
        cases e
        obtain ⟨u,k1,k2⟩:=B0G (P:=P) (w:=w) hcf hc (ha x (by simp [Op.operands]) _ hx)
        exact F4 H (by simp [execOp,hop,k1]) k2
      · cases e
    · cases e
  case field t x f =>
    split at e
    · rename_i a hx
      split at e
      · rename_i c hc
        cases e
        obtain ⟨u,k1,k2⟩:=C0W (P:=P) (w:=w) hcf hc (ha x (by simp [Op.operands]) _ hx)
        exact F4 H (by simp [execOp,hop,k1]) k2
      · cases e
    · cases e
  case indexAddr t x i =>
    split at e
    · rename_i a b hx hi
      split at e
      · rename_i c hc
        cases e
        obtain ⟨u,k1,k2⟩:=B0H (P:=P) (w:=w) hcf hc (ha x (by simp [Op.operands]) _ hx) (ha i (by simp [Op.operands]) _ hi)
        exact F4 H (by simp [execOp,hop,k1]) k2
      · cases e
    · cases e
  case index t x i =>
    split at e
    · rename_i a b hx hi
      split at e
      · rename_i c hc
        cases e
        obtain ⟨u,k1,k2⟩:=C0X (P:=P) (w:=w) hcf hc (ha x (by simp [Op.operands]) _ hx) (ha i (by simp [Op.operands]) _ hi)
        exact F4 H (by simp [execOp,hop,k1]) k2
      · cases e
    · cases e
  case extract x i =>
    split at e
    · rename_i xs hx
      split at e
      · rename_i r hr
        cases e
        obtain ⟨us,h1,h2⟩:=ha x (by simp [Op.operands]) _ hx
        obtain ⟨a,h3,h4⟩:=h2.get hr
        have h3':us[i]?=some a:=by simpa using h3
        exact F4 H (u:=a) (by simp [execOp,hop,h1,Instr.extract,h3']) h4
      · cases e
    · cases e
  case sliceToArrayPointer t x =>
    split at e
    · rename_i r id off n esz hr hx
      split at e
      · rename_i m el hk
        cases hb:(Nat.ble m n && Nat.blt 0 n) <;> rw [hb] at e <;> simp only [cond_true,cond_false,reduceCtorEq] at e
        cases e
        simp only [Bool.and_eq_true] at hb
        have hmn:=Nat.le_of_ble_eq_true hb.1
        have hn0:0 < n:=Nat.le_of_ble_eq_true hb.2
        have hu:=B6v hcf hr hk
        obtain ⟨l,a,cap,hl,hv,hlc,hcc⟩:=D9.r1.1 (ha x (by simp [Op.operands]) _ hx)
        obtain ⟨rfl,_⟩:=hcc (by omega)
        have:¬ n < m:=by omega
        exact F4 H (u:=.pointer (some ⟨l.1,off,none⟩)) (by simp [execOp,hop,hv,Instr.arrayAt,Go.Eng.run_underlying hu,this]) (D9.one.2 ⟨l,hl,rfl⟩)
      · cases e
    · cases e
  case makeMap t r =>
    cases r with
    | some _=>cases e
    | none =>
      simp only [D8F] at e
      split at e
      · split at e
        · rename_i id h2 hn
          cases e
          obtain ⟨rfl,hO,hx⟩:=VH.obj_new hn
          refine ⟨.value (.map (some w.heap.size)),_,w.alloc (.map #[] 0),ρ.upd h.nxt (w.heap.size,0),by simp [execOp,hop,run_makeMap],.inl rfl,D9.one.2 ⟨(w.heap.size,0),by simp [Rho.upd],rfl⟩,?_,.inr ⟨_,rfl,hx⟩⟩
          rw [hO]
          exact OStep.new H hf (N3 w _) (Nat.le_refl _) ⟨#[],0,heap_alloc_new w _,.nil⟩
        · cases e
      · cases e
  case lookup t m k ok =>
    split at e
    · rename_i a b hm hk
      split at e
      · rename_i c hc
        cases e
        obtain ⟨u,k1,k2⟩:=C11 (P:=P) (w:=w) hcf hc H (ha m (by simp [Op.operands]) _ hm) (ha k (by simp [Op.operands]) _ hk)
        exact F4 H (by simp [execOp,hop,k1]) k2
      · cases e
    · cases e
  case mapUpdate t m k x =>
    split at e
    · rename_i a b c hm hk hx
      split at e
      · rename_i h2 hc
        cases e
        obtain ⟨w',k1,k2,k3⟩:=A6y (P:=P) hcf hc H (ha m (by simp [Op.operands]) _ hm) (ha k (by simp [Op.operands]) _ hk) (ha x (by simp [Op.operands]) _ hx)
        exact ⟨.skip,undef,w',ρ,by simp [execOp,hop,k1],.inr ⟨rfl,rfl⟩,rfl,k2,.inl ⟨rfl,k3⟩⟩
      · cases e
    · cases e
  case insert t m k x =>
    split at e
    · rename_i a b c hm hk hx
      split at e
      · rename_i h2 hc
        cases e
        obtain ⟨w',k1,k2,k3⟩:=A6y (P:=P) hcf hc H (ha m (by simp [Op.operands]) _ hm) (ha k (by simp [Op.operands]) _ hk) (ha x (by simp [Op.operands]) _ hx)
        exact ⟨.skip,undef,w',ρ,by simp [execOp,hop,k1],.inr ⟨rfl,rfl⟩,rfl,k2,.inl ⟨rfl,k3⟩⟩
      · cases e
    · cases e
  case call c =>
    obtain ⟨callee,args,ts⟩:=c
    cases callee with
    | value f=>cases e
    | invoke r m=>cases e
    | builtin b =>
      simp only [A70] at e
      split at e
      · rename_i l hl
        have hm:=A4l (ρ:=ρ) (ev:=ev) hl (fun x hx y hy=>ha x (by simp [Op.operands,Call.operands]; simpa using hx) y hy)
        obtain ⟨u,w',ρ',k1,k2,k3,k4⟩:=B5q (P:=P) (ty:=o.type) (cs:=args.map fun | .const _=>true | _=>false) hcf e H hf hm
        refine ⟨_,u,w',ρ',?_,.inl rfl,k2,k3,k4⟩
        simp only [execOp,hop,resolve,Sem.run_bind,Sem.run_pure,Result.andThen_ok,invoke]
        have he:(args.toList.map ev).toArray=args.map ev:=by apply Array.ext'; simp
        rw [he] at k1
        exact k1
      · cases e
  all_goals first | (cases e; done) | skip
end
end Go.Vm
