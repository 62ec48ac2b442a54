/- The engine, part 35: what a statement's reader reads is plain data of the engine's. -/
import Derived.Test.YtdhfajmcakneiaaGreatEngD
import Derived.OpenShut
import Derived.SizedLaws
set_option linter.unusedVariables false
set_option linter.unusedSimpArgs false
namespace Go.Eng
open Go.RowKit Go.ChangeShapes
def shp(P:Program):Ty→(TypeId ⊕ (List Field×Nat×Nat))→Bool
 | .int k,.inl t=>match P.underlying t with
  | some (.int k')=>decide (k'=k)
  | _=>false
 | .bool,.inl t=>match P.underlying t with
  | some .bool=>true
  | _=>false
 | .pair a b,.inl t=>match P.underlying t with
  | some (.struct fs)=>match fs.toList with
   | f::r=>decide (f.offset=0) && shp P a (.inl f.type) && shp P b (.inr (r,P.cellsOf f.type,P.cellsOf t))
   | []=>false
  | _=>false
 | .pair a b,.inr (f::r,off,tot)=>decide (f.offset=off) && shp P a (.inl f.type) && shp P b (.inr (r,off+P.cellsOf f.type,tot))
 | .unit,.inr ([],off,tot)=>decide (off=tot)
 | .arr n e',.inl t=>match P.underlying t with
  | some (.array m e)=>decide (m=n) && decide (P.cellsOf t=n*P.cellsOf e) && shp P e' (.inl e)
  | _=>false
 | .slice e',.inl t=>match P.underlying t with
  | some (.slice e)=>decide (0 < P.cellsOf e∧0 < P.bytesOf e) && shp P e' (.inl e)
  | _=>false
 | _,_=>false
def wfT:(T:Ty)→T.den→Prop
 | .int k,x=>(Lit.int k x).wf=true
 | .bool,_=>True
 | .str,_=>True
 | .unit,_=>True
 | .nil,_=>False
 | .val,_=>False
 | .pair a b,x=>wfT a x.1∧wfT b x.2
 | .arr n e,l=>List.length l=n∧∀ x∈(l:List e.den),wfT e x
 | .slice e,l=>List.length l≤maxLen∧∀ x∈(l:List e.den),wfT e x
def szT:(T:Ty)→T.den→Prop
 | .pair a b,x=>szT a x.1∧szT b x.2
 | .arr _ e,l=>∀ x∈(l:List e.den),szT e x
 | .slice e,l=>List.length l≤reachBytes∧∀ x∈(l:List e.den),szT e x
 | _,_=>True
def B5D{H:Type}(P:Program)(t:TypeId)(d:DataW H):Prop:=∀ k∈d.weights P t,k≤reachBytes
theorem A41{H:Type}{P:Program}{e:TypeId}:∀ {ds:List (DataW H)} {d:DataW H},d∈ds→∀ n∈d.weights P e,n∈DataW.weightsAll P e ds
 | d0::ds,d,h,n,hn=>by
  simp only [DataW.weightsAll,List.mem_append]
  rcases List.mem_cons.1 h with rfl | h
  ·exact .inl hn
  ·exact .inr (A41 h n hn)
section
variable {H:Type} {enc:TypeId×Value→H} {P:Program} {w:World} {base:Nat} {spare:Nat→Bool} {held:Bool}
theorem B1a{α:Type}{f:Nat→Option α}{n:Nat}{xs:List α}(h:(List.range n).mapM f=some xs):xs.length=n∧∀ i,i < n→f i=xs[i]?:=by
 refine ⟨by simpa using mapM_some_length h,fun i hi=>mapM_some_get h i i (by simp [hi])⟩
theorem D2z(a:Addr)(m n:Nat):(a.add m).add n=a.add (m+n):=by
 unfold Addr.add
 by_cases h1:m=0 <;> by_cases h2:n=0 <;> simp_all [Nat.add_assoc]
theorem C4i{a:Addr}{n:Nat}{xs:List Value}(h:w.cells? base a n=some xs):xs.length=n∧∀ i,i < n→w.cell? (a.add i)=xs[i]?:=by
 unfold World.cells? at h
 split at h
 ·exact B1a h
 ·cases h
theorem D2A{α:Type}{Q:α→List Value→Prop}{R:α→Prop}{a:Addr}{c:Nat}:∀ (n:Nat),
  (∀ i,i < n→∃ chunk y,w.cells? base (a.add (i*c)) c=some chunk∧Q y chunk∧R y) →
  ∃ (ys:List α) (cs:List Value),ys.length=n∧E3 Q ys cs∧cs.length=n*c∧(∀ j,j < n*c→w.cell? (a.add j)=cs[j]?)∧∀ y∈ys,R y:=by
 intro n
 induction n with
 | zero=>intro _; exact ⟨[],[],rfl,rfl,by simp,fun j hj=>by simp at hj,fun y hy=>by simp at hy⟩
 | succ n ih =>
  intro h
  obtain ⟨ys,cs,h1,h2,h3,h4,h5⟩:=ih fun i hi=>h i (by omega)
  obtain ⟨chunk,y,g1,g2,g3⟩:=h n (by omega)
  obtain ⟨k1,k2⟩:=C4i g1
  refine ⟨ys++[y],cs++chunk,by simp [h1],E3.append h2 (E3.single g2),by simp [h3,k1,Nat.add_mul],?_,?_⟩
  ·intro j hj
   by_cases hjn:j < n*c
   ·rw [List.getElem?_append_left (by omega)]
    exact h4 j hjn
   ·rw [List.getElem?_append_right (by omega),h3,← k2 (j - n*c) (by rw [Nat.add_mul] at hj; omega),D2z]
    congr 2
    omega
  ·intro z hz
   rcases List.mem_append.1 hz with hz | hz
   ·exact h5 z hz
   ·simp at hz; subst hz; exact g3
theorem C4j{α:Type}{Q:α→List Value→Prop}{R:α→Prop}{c:Nat}:∀ (n:Nat) (cs:List Value),cs.length=n*c →
  (∀ i,i < n→∃ y,Q y ((cs.drop (i*c)).take c)∧R y)→∃ ys:List α,ys.length=n∧E3 Q ys cs∧∀ y∈ys,R y:=by
 intro n
 induction n with
 | zero =>
  intro cs hl _
  have:cs=[]:=by simpa using hl
  subst this
  exact ⟨[],rfl,rfl,fun y hy=>by simp at hy⟩
 | succ n ih =>
  intro cs hl h
  obtain ⟨y,g1,g2⟩:=h 0 (by omega)
  rw [Nat.zero_mul,List.drop_zero] at g1
  obtain ⟨ys,h1,h2,h3⟩:=ih (cs.drop c) (by rw [List.length_drop,hl,Nat.add_mul]; omega) fun i hi=>by
   obtain ⟨y,k1,k2⟩:=h (i+1) (by omega)
   refine ⟨y,?_,k2⟩
   rw [List.drop_drop]
   rw [show c+i*c=(i+1)*c by rw [Nat.add_mul]; omega]
   exact k1
  refine ⟨y::ys,by simp [h1],⟨cs.take c,cs.drop c,by simp,g1,h2⟩,?_⟩
  intro z hz
  rcases List.mem_cons.1 hz with hz | hz
  ·subst hz; exact g2
  ·exact h3 z hz
theorem D6k{α:Type}{Q:α→List Value→Prop}{a:Addr}{ys:List α}{cs:List Value}{cap:Nat}(hne:ys≠[])(hc:0 < cs.length)(hf:E3 Q ys cs)(hcell:∀ j,j < cs.length→w.cell? (a.add j)=cs[j]?) :
  ∃ b off cur e fz,some a=some ⟨b,off,none⟩∧A7W w b=some (.cells cur e fz)∧∃ cs,E3 Q ys cs∧(cur.toList.drop off).take cs.length=cs:=by
 have h0:=hcell 0 hc
 rw [List.getElem?_eq_getElem hc] at h0
 simp only [Addr.add,if_true] at h0
 obtain ⟨hs,cur,e,fz,hb,_⟩:=A5G h0
 refine ⟨a.block,a.off,cur,e,fz,by cases a; simp_all,hb,cs,hf,?_⟩
 apply List.ext_getElem?
 intro i
 rw [List.getElem?_take]
 split
 ·rename_i hi
  have hci:=hcell i hi
  rw [List.getElem?_eq_getElem hi] at hci
  have hoff:(a.add i).off=a.off+i:=by unfold Addr.add; split <;> simp_all
  have hblk:(a.add i).block=a.block:=by unfold Addr.add; split <;> rfl
  obtain ⟨_,cur2,e2,fz2,hb2,hc2⟩:=A5G hci
  rw [hblk,hb] at hb2
  cases hb2
  rw [hoff] at hc2
  rw [List.getElem?_drop,Array.getElem?_toList,hc2,List.getElem?_eq_getElem hi]
 ·rename_i hi
  exact(List.getElem?_eq_none (by omega)).symm
theorem C4k:∀ (T:Ty),(∀ (t:TypeId) (fuel:Nat) (cs:List Value) (x:DataW H×List MemPlace),shp P T (.inl t)=true→DataW.trod enc P w base spare held fuel t cs=some x→∃ y:T.den,G5 (A7W w) T y cs∧wfT T y∧(B5D P t x.1→szT T y)) ∧
  (∀ (L:Prop) (fs:List Field) (off tot:Nat) (cs:List Value),shp P T (.inr (fs,off,tot))=true→cs.length=tot →
   (∀ f∈fs,∃ n x,DataW.trod enc P w base spare held n f.type ((cs.drop f.offset).take (P.cellsOf f.type))=some x∧(L→B5D P f.type x.1))→∃ y:T.den,G5 (A7W w) T y (cs.drop off)∧wfT T y∧(L→szT T y)):=by
 intro T
 induction T with
 | nil=>exact ⟨fun t fuel cs x hs h=>by simp [shp] at hs,fun L fs off tot cs hs=>by simp [shp] at hs⟩
 | val=>exact ⟨fun t fuel cs x hs h=>by simp [shp] at hs,fun L fs off tot cs hs=>by simp [shp] at hs⟩
 | int k =>
  refine ⟨fun t fuel cs x hs h=>?_,fun L fs off tot cs hs=>by simp [shp] at hs⟩
  simp only [shp] at hs
  split at hs
  ·rename_i k' ht
   have hk:k'=k:=by simpa using hs
   subst hk
   obtain ⟨n,rfl,_,hw⟩:=DataW.trod_int ht h
   exact ⟨n,rfl,hw,fun _=>trivial⟩
  ·cases hs
 | bool =>
  refine ⟨fun t fuel cs x hs h=>?_,fun L fs off tot cs hs=>by simp [shp] at hs⟩
  simp only [shp] at hs
  split at hs
  ·rename_i ht
   obtain ⟨b,rfl,_⟩:=DataW.trod_bool ht h
   exact ⟨b,rfl,trivial,fun _=>trivial⟩
  ·cases hs
 | str=>exact ⟨fun t fuel cs x hs h=>by simp [shp] at hs,fun L fs off tot cs hs=>by simp [shp] at hs⟩
 | unit =>
  refine ⟨fun t fuel cs x hs h=>by simp [shp] at hs,fun L fs off tot cs hs hl hf=>?_⟩
  cases fs with
  | nil =>
   have:off=tot:=by simpa [shp] using hs
   exact ⟨(),by show cs.drop off=[]; simp; omega,trivial,fun _=>trivial⟩
  | cons f r=>simp [shp] at hs
 | pair a b iha ihb =>
  have step:∀ (L:Prop) (f:Field) (r:List Field) (off tot:Nat) (cs:List Value),f.offset=off→shp P a (.inl f.type)=true→shp P b (.inr (r,off+P.cellsOf f.type,tot))=true→cs.length=tot →
    (∀ g∈f::r,∃ n x,DataW.trod enc P w base spare held n g.type ((cs.drop g.offset).take (P.cellsOf g.type))=some x∧(L→B5D P g.type x.1))→∃ y:(Ty.pair a b).den,G5 (A7W w) (.pair a b) y (cs.drop off)∧wfT (.pair a b) y∧(L→szT (.pair a b) y):=by
   intro L f r off tot cs ho h1 h2 hl hf
   obtain ⟨n,x,hx,hL⟩:=hf f (by simp)
   obtain ⟨y1,k1,k2,k5⟩:=iha.1 _ _ _ _ h1 hx
   obtain ⟨y2,k3,k4,k6⟩:=ihb.2 L r _ tot cs h2 hl fun g hg=>hf g (by simp [hg])
   refine ⟨(y1,y2),⟨_,_,?_,k1,k3⟩,⟨k2,k4⟩,fun l=>⟨k5 (hL l),k6 l⟩⟩
   rw [ho,← List.drop_drop,List.take_append_drop]
  refine ⟨fun t fuel cs x hs h=>?_,fun L fs off tot cs hs hl hf=>?_⟩
  ·simp only [shp] at hs
   split at hs
   ·rename_i fs ht
    obtain ⟨xs,n,_,hxe,hl,hxl,hfx⟩:=DataW.trod_struct ht h
    cases hfs:fs.toList with
    | nil=>rw [hfs] at hs; cases hs
    | cons f r =>
     rw [hfs] at hs
     simp only [Bool.and_eq_true,decide_eq_true_eq] at hs
     obtain ⟨⟨h0,h1⟩,h2⟩:=hs
     have:=step (B5D P t x.1) f r 0 (P.cellsOf t) cs h0 h1 (by rw [Nat.zero_add]; exact h2) hl fun g hg=>by
      rw [← hfs] at hg
      obtain ⟨i,hi,hgi⟩:=List.getElem_of_mem hg
      have hi':i < fs.size:=by simpa using hi
      have hgf:fs[i]?=some g:=by rw [Array.getElem?_eq_getElem hi']; simpa using hgi
      have:=hfx i g hgf
      rw [List.getElem?_eq_getElem (by omega)] at this
      refine ⟨n,_,this,fun hw k hk=>hw k ?_⟩
      rw [hxe]
      simp only [DataW.weights,ht]
      exact DataW.weights_mem_each (j:=i) (t:=g.type) (by rw [List.getElem?_map,Array.getElem?_toList,hgf]; rfl) (by rw [List.getElem?_map,List.getElem?_eq_getElem (by omega)]; rfl) k hk
     simpa using this
   ·cases hs
  ·cases fs with
   | nil=>simp [shp] at hs
   | cons f r =>
    simp only [shp,Bool.and_eq_true,decide_eq_true_eq] at hs
    exact step L f r off tot cs hs.1.1 hs.1.2 hs.2 hl hf
 | arr n e' ih =>
  refine ⟨fun t fuel cs x hs h=>?_,fun L fs off tot cs hs=>by cases fs <;> simp [shp] at hs⟩
  simp only [shp] at hs
  split at hs
  ·rename_i m e ht
   simp only [Bool.and_eq_true,decide_eq_true_eq] at hs
   obtain ⟨⟨rfl,hsz⟩,hsh⟩:=hs
   obtain ⟨xs,q,_,hxe,hl,hxl,hfx⟩:=DataW.trod_array ht h
   obtain ⟨ys,h1,h2,h3⟩:=C4j (Q:=G5 (A7W w) e') (R:=fun y=>wfT e' y∧(B5D P t x.1→szT e' y)) (c:=P.cellsOf e) m cs (by rw [hl,hsz]) fun i hi=>by
    have:=hfx i hi
    rw [List.getElem?_eq_getElem (by omega)] at this
    obtain ⟨y,k1,k2,k3⟩:=ih.1 _ _ _ _ hsh this
    refine ⟨y,k1,k2,fun hw=>k3 fun k hk=>hw k ?_⟩
    rw [hxe]
    simp only [DataW.weights,ht]
    exact A41 (List.mem_map_of_mem (List.getElem_mem _)) k hk
   exact ⟨ys,⟨h1,h2⟩,⟨h1,fun y hy=>(h3 y hy).1⟩,fun hw y hy=>(h3 y hy).2 hw⟩
  ·cases hs
 | slice e' ih =>
  refine ⟨fun t fuel cs x hs h=>?_,fun L fs off tot cs hs=>by cases fs <;> simp [shp] at hs⟩
  simp only [shp] at hs
  split at hs
  ·rename_i e ht
   have hts:=ht
   simp only [Bool.and_eq_true,decide_eq_true_eq] at hs
   obtain ⟨⟨hpos,hbpos⟩,hsh⟩:=hs
   rcases DataW.trod_slice ht h with ⟨rfl,_⟩ | ⟨a,len,cap,elems,rest,q,_,rfl,hxe,hb,hl,hm,hlen,hel,_,_⟩
   ·exact ⟨[],⟨_,rfl,none,0,rfl,by simp,fun _=>rfl,fun h=>absurd rfl h⟩,⟨by simp,fun y hy=>by simp at hy⟩,fun _=>⟨by simp,fun y hy=>by simp at hy⟩⟩
   ·obtain ⟨ys,cs',h1,h2,h3,h4,h5⟩:=D2A (w:=w) (base:=base) (Q:=G5 (A7W w) e') (R:=fun y=>wfT e' y∧(B5D P t x.1→szT e' y)) (a:=a) (c:=P.cellsOf e) len fun i hi=>by
     have:=hel i hi
     rw [List.getElem?_eq_getElem (by omega)] at this
     obtain ⟨chunk,hc,ht⟩:=Option.bind_eq_some_iff.1 this
     obtain ⟨y,k1,k2,k3⟩:=ih.1 _ _ _ _ hsh ht
     refine ⟨chunk,y,hc,k1,k2,fun hw=>k3 fun k hk=>hw k ?_⟩
     rw [hxe]
     simp only [DataW.weights,hts,List.mem_cons,List.mem_append]
     exact .inr (.inl (A41 (List.mem_map_of_mem (List.getElem_mem _)) k hk))
    refine ⟨ys,⟨_,rfl,some a,cap,by rw [h1],by omega,(fun h=>by cases h),fun hne=>?_⟩,⟨by omega,fun y hy=>(h5 y hy).1⟩,fun hw=>⟨?_,fun y hy=>(h5 y hy).2 hw⟩⟩
    rotate_left
    ·have:=hw ((elems.length+rest.length)*P.bytesOf e) (by rw [hxe]; simp [DataW.weights,hts])
     have h7:elems.length*1≤(elems.length+rest.length)*P.bytesOf e:=Nat.mul_le_mul (by omega) hbpos
     omega
    have hlp:0 < ys.length:=List.length_pos_iff.2 hne
    have hcp:0 < cs'.length:=by rw [h3]; exact Nat.mul_pos (by omega) hpos
    exact D6k (cap:=cap) hne hcp h2 (fun j hj=>h4 j (by omega))
  ·cases hs
theorem C82{T:Ty}{t:TypeId}{v:Value}{d:DataW H}{ps:List MemPlace}(hs:shp P T (.inl t)=true)(h:DataW.Trod enc P w base spare held t v d ps):∃ y:T.den,G5 (A7W w) T y v.cells.toList∧wfT T y∧(B5D P t d→szT T y):=by
 obtain ⟨fuel,hf⟩:=h
 exact(C4k T).1 t fuel _ _ hs hf
theorem C2z{t:TypeId}{v:Value}{r:Reach}{b0:Nat}{T:Ty}(hs:shp P T (.inl t)=true)(hv:Value.okWide P w r b0 t v):(∃ cs:Array Value,v=.agg cs∧T.isAgg=true)∨(v.cells=#[v]∧T.isAgg=false):=by
 cases T with
 | nil=>simp [shp] at hs
 | val=>simp [shp] at hs
 | int k =>
  simp only [shp] at hs
  split at hs
  ·rename_i k' ht
   obtain ⟨n,rfl⟩:=WideShapes.okWide_int ht hv
   exact .inr ⟨rfl,rfl⟩
  ·cases hs
 | bool =>
  simp only [shp] at hs
  split at hs
  ·rename_i ht
   obtain ⟨b,rfl⟩:=WideShapes.okWide_bool ht hv
   exact .inr ⟨rfl,rfl⟩
  ·cases hs
 | str=>simp [shp] at hs
 | unit=>simp [shp] at hs
 | pair a b =>
  simp only [shp] at hs
  split at hs
  ·rename_i fs ht
   simp only [Value.okWide,ht] at hv
   obtain ⟨cs,rfl,_⟩:=hv
   exact .inl ⟨cs,rfl,rfl⟩
  ·cases hs
 | arr n e =>
  simp only [shp] at hs
  split at hs
  ·rename_i m e ht
   simp only [Value.okWide,ht] at hv
   obtain ⟨cs,rfl,_⟩:=hv
   exact .inl ⟨cs,rfl,rfl⟩
  ·cases hs
 | slice e =>
  simp only [shp] at hs
  split at hs
  ·rename_i e ht
   obtain ⟨a,l,c,rfl⟩:=WideShapes.okWide_slice ht hv
   exact .inr ⟨rfl,rfl⟩
  ·cases hs
theorem C83{t:TypeId}{v:Value}{r:Reach}{b0:Nat}{T:Ty}{M:Mem}{y:T.den}(hs:shp P T (.inl t)=true)(hv:Value.okWide P w r b0 t v)(hf:G5 M T y v.cells.toList):A0g M v (.d T y):=by
 refine ⟨_,hf,?_⟩
 rcases C2z hs hv with ⟨cs,rfl,ha⟩ | ⟨hc,ha⟩
 ·simp [E1,ha,Value.cells]
 ·simp [E1,ha,hc]
theorem C2A{T:Ty}{t:TypeId}{v:Value}{d:DataW H}{ps:List MemPlace}{r:Reach}{b0:Nat}(hs:shp P (.slice T) (.inl t)=true)(hv:Value.okWide P w r b0 t v)(h:DataW.Trod enc P w base spare held t v d ps) :
  ∃ y:(Ty.slice T).den,A0g (A7W w) v (.d (.slice T) y)∧wfT (.slice T) y∧(List.length y=0∨∃ el sp,d=.slice el sp∧el.length=List.length y)∧(B5D P t d→szT (.slice T) y):=by
 obtain ⟨y,h1,h2,h6⟩:=C82 hs h
 refine ⟨y,C83 hs hv h1,h2,?_,h6⟩
 obtain ⟨fuel,hf⟩:=h
 simp only [shp] at hs
 split at hs
 ·rename_i e ht
  obtain ⟨u,hu,ao,cap,rfl,_⟩:=h1
  rcases DataW.trod_slice ht hf with ⟨hc,_⟩ | ⟨a,len,cap',elems,rest,q,_,hc,hx,_,_,_,hlen,_⟩
  ·rw [hc] at hu
   simp at hu
   exact .inl hu.2.1.symm
  ·rw [hc] at hu
   simp at hu
   refine .inr ⟨_,_,(Prod.mk.inj hx).1,?_⟩
   simp [hlen,hu.2.1]
 ·cases hs
end
end Go.Eng
