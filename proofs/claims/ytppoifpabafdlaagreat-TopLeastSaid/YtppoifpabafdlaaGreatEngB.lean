/- The reading of the code, part B. -/
import Derived.Test.YtppoifpabafdlaaGreatEngA
import Derived.Laws.CopyRow
set_option linter.unusedVariables false
set_option linter.unusedSimpArgs false
namespace Go.Eng
open Go.RowKit
theorem A5P(off:Nat):∀ (vs:List Value) (k:Nat) (cells:Array Value),off+k+vs.length≤cells.size →
    ((vs.zipIdx k).foldl (fun cs (x:Value×Nat)=>cs.setIfInBounds (off+x.2) x.1) cells).toList=over cells.toList (off+k) vs
  | [],k,cells,_=>by simp [over]
  | v::vs,k,cells,h=>by
    simp only [List.zipIdx_cons,List.foldl_cons]
    have hl:(v::vs).length=vs.length+1:=rfl
    rw [A5P off vs (k+1) _ (by simp; omega)]
    have hlt:off+k < cells.toList.length:=by simp; omega
    unfold over
    simp only [Array.toList_setIfInBounds,hl]
    rw [List.set_eq_take_append_cons_drop,if_pos hlt]
    have e1:(cells.toList.take (off+k)++v::cells.toList.drop (off+k+1)).take (off+(k+1))=cells.toList.take (off+k)++[v]:=by
      have hlen:(cells.toList.take (off+k)).length=off+k:=by rw [List.length_take]; omega
      rw [List.take_append,hlen,show off+(k+1) - (off+k)=1 by omega]
      simp [List.take_take]
    have e2:(cells.toList.take (off+k)++v::cells.toList.drop (off+k+1)).drop (off+(k+1)+vs.length)=cells.toList.drop (off+k+(vs.length+1)):=by
      have hlen:(cells.toList.take (off+k)).length=off+k:=by rw [List.length_take]; omega
      rw [List.drop_append,hlen,show off+(k+1)+vs.length - (off+k)=vs.length+1 by omega,List.drop_eq_nil_of_le (by omega)]
      simp only [List.nil_append,List.drop_succ_cons,List.drop_drop]
      congr 1; omega
    rw [e1,e2]; simp
section
variable {P:Program} {cx:Cx} {fr:Frm} {arg:Operand→Arg} {o:Oper} {R:Type} {KE:Eff→Option R} {res:R} {M:Mem}
theorem B62:∀ (f:Nat) (a b:Ty) (x z:(Ty.pair a b).den) (t':Ty) (y:t'.den),setP (.pair a b) [.fld f] x t' y=some z→tyP (.pair a b) [.fld f]=some t'
  | 0,a,b,x,z,t',y,hz=>by
    simp only [setP,Option.map_eq_some_iff,B09] at hz
    obtain ⟨q,hq,_⟩:=hz
    split at hq
    · rename_i e; subst e; simp [tyP,W7]
    · cases hq
  | f+1,a,b,x,z,t',y,hz=>by
    simp only [setP,Option.map_eq_some_iff] at hz
    obtain ⟨q,hq,_⟩:=hz
    cases b with
    | pair c d=>exact B62 f c d _ _ _ _ hq
    | _=>simp [setP] at hq
theorem C7r{T:Ty}{st:Step}{x z:T.den}{t':Ty}{y:t'.den}(hok:A7l T st=true)(hz:setP T [st] x t' y=some z):tyP T [st]=some t':=by
  cases T <;> cases st <;> simp [A7l] at hok
  case pair.fld a b f=>exact B62 f a b x z t' y hz
  case arr.idx n e i =>
    simp only [setP,Option.map_eq_some_iff,B09] at hz
    obtain ⟨q,hq,_⟩:=hz
    split at hq
    · rename_i e; subst e; simp [tyP,W7]
    · cases hq
def B63(M:Mem)(v:Nat×Value)(x:Nat×Arg):Prop:=v.1=x.1∧∀ t y,E5 x.2=some ⟨t,y⟩→∃ cs,E8 M t y cs∧v.2=C8 t cs
theorem C05{t:Ty}{st:Step}{t':Ty}(h:A7l t st=true)(ht:tyP t [st]=some t'):okP t [st]:=by
  unfold A7l at h
  split at h
  · exact ⟨by simpa [Nat.blt_eq] using h,A2L _⟩
  · rename_i a b f
    have:∀ (f:Nat) (a b:Ty),tyP (.pair a b) [.fld f]=some t'→okP (.pair a b) [.fld f]:=by
      intro f
      induction f with
      | zero=>intro a b _; exact A2L _
      | succ f ih =>
        intro a b hh
        cases b with
        | pair c d=>exact ih c d hh
        | _=>simp [tyP] at hh
    exact this f a b ht
  · cases h
theorem B0d{T:Ty}{mk:Nat→Step}{place:Nat→Option (Nat×Nat)}(hp:∀ i t',tyP T [mk i]=some t'→okP T [mk i]→place i=some (A1A T [mk i],t'.sz)){K:T.den→Option R} :
    ∀ (parts:List (Nat×Arg)) (vals:List (Nat×Value)) (x:T.den) (cells:Array Value),A0Z T mk x parts K=some res→E8 M T x cells.toList→All2 (B63 M) vals parts →
      ∃ y cells',K y=some res∧Instr.fill place cells vals=some cells'∧E8 M T y cells'.toList
  | [],_,x,cells,h,hf,.nil=>⟨x,cells,h,rfl,hf⟩
  | (i,a)::parts,_,x,cells,h,hf,.cons (a:=(j,v)) hx hrest=>by
    obtain ⟨rfl,hdat⟩:=hx
    unfold A0Z at h
    split at h
    · rename_i t' y hy
      cases hok:A7l T (mk j) <;> rw [hok] at h <;> simp only [cond_true,cond_false,reduceCtorEq] at h
      split at h
      · rename_i z hz
        obtain ⟨cs,hc,hv⟩:=hdat _ _ hy
        have hv':v=C8 t' cs:=hv
        have hty:tyP T [mk j]=some t':=by
          have:okP T [mk j]→tyP T [mk j]=some t':=fun hk=>(E8.put hf hk hz hc).2
          exact C7r hok hz
        have hk:=C05 hok hty
        obtain ⟨h1,_⟩:=E8.put hf hk hz hc
        have hle:=A1s hk hty
        have hsz:v.cells.size=t'.sz:=by rw [hv',← Array.length_toList,A2S hc,hc.length]
        have hfit:A1A T [mk j]+t'.sz≤cells.size:=by have:=hf.length; simp at this; omega
        have hcell:v.cells.toList=cs:=by rw [hv']; exact A2S hc
        obtain ⟨y',cells',h2,h3,h4⟩:=B0d hp parts _ z (v.cells.zipIdx.foldl (fun cs (c,q)=>cs.setIfInBounds (A1A T [mk j]+q) c) cells) h
          (by
            have:=A5P (A1A T [mk j]) cs 0 cells (by rw [hc.length]; omega)
            rw [Nat.add_zero] at this
            rw [← this] at h1
            rw [← Array.foldl_toList,Array.toList_zipIdx,hcell]
            exact h1) hrest
        refine ⟨y',cells',h2,?_,h4⟩
        unfold Instr.fill
        rw [hp j t' hty hk]
        simp only [hsz,ne_eq,not_true,decide_false,Bool.false_or,gt_iff_lt,decide_eq_true_eq]
        rw [if_neg (by simp; omega)]
        exact h3
      · cases h
    · cases h
end
end Go.Eng
namespace Go.Eng
open Go.RowKit
section
variable {P:Program} {cx:Cx} {fr:Frm} {arg:Operand→Arg} {o:Oper} {R:Type} {KE:Eff→Option R} {res:R} {M:Mem} {w:World}
theorem B0e{α β:Type}(f:α→Sem β)(g:α→β):∀ l:List α,(∀ x∈l,(f x).run P w=.ok (g x) w)→(l.mapM f).run P w=.ok (l.map g) w
  | [],_=>rfl
  | x::l,h=>by
    rw [List.mapM_cons]
    simp only [Sem.run_bind,h x (by simp),Result.andThen_ok,B0e f g l (fun y hy=>h y (by simp [hy])),Sem.run_pure,List.map_cons]
theorem B4T{fs:List Field}{t:Ty}{off:Nat}(h:A0s P cx fs t off):∀ f∈fs,∃ r,cx.row? f.type=some r:=by
  induction fs generalizing t off with
  | nil=>intro f hf; simp at hf
  | cons fd fs ih =>
    intro f hf
    cases t with
    | pair a b =>
      obtain ⟨_,⟨r,hr,_⟩,_,hfs⟩:=h
      rcases List.mem_cons.1 hf with e | e
      · exact ⟨r,by rw [e]; exact hr⟩
      · exact ih hfs f e
    | _=>exact h.elim
theorem A7z(hcf:T3 P cx){T:TypeId}{r:TyRow}(h:cx.row? T=some r):P.cellsOf T=r.ty.sz:=by
  obtain ⟨i,z,hi,hs,_⟩:=(hcf _ _ h).info
  simp [Program.cellsOf,hi,hs]
theorem A2b(hcf:T3 P cx){T:TypeId}{r:TyRow}(h:cx.row? T=some r):∃ z,(zeroValue T).run P w=.ok z w∧z.cells.toList=A5e r.ty:=by
  obtain ⟨i,z,hi,hs,_,hz,hc⟩:=(hcf _ _ h).info
  exact ⟨z,by simp [zeroValue,typeInfo,hi,hz],hc⟩
theorem B2r(hcf:T3 P cx){T:TypeId}{r:TyRow}(hr:cx.row? T=some r)(hagg:r.ty.isAgg=true){K:r.ty.den→Option R}{parts:List (Nat×Arg)}{vals:Array (Nat×Value)}(hv:All2 (B63 M) vals.toList parts)
    (h:A0Z r.ty (B5U r.ty) (dflt r.ty) parts K=some res) :
    ∃ y cs,K y=some res∧E8 M r.ty y cs∧(Instr.build T vals).run P w=.ok (C8 r.ty cs) w:=by
  obtain ⟨z,hz,hzc⟩:=A2b (P:=P) (w:=w) hcf hr
  have hf0:E8 M r.ty (dflt r.ty) z.cells.toList:=by rw [hzc]; exact E8.zero M r.ty
  have struct:(∃ fs,P.underlying T=some (.struct fs)∧A0s P cx fs.toList r.ty 0)→B5U r.ty=.fld→∃ y cs,K y=some res∧E8 M r.ty y cs∧(Instr.build T vals).run P w=.ok (C8 r.ty cs) w:=by
    intro ⟨fs,hu,hfs⟩ hmk
    have hplaces:(fs.mapM fun f=>do pure (f.offset,← sizeOf f.type):Sem (Array (Nat×Nat))).run P w=.ok (fs.map fun f=>(f.offset,P.cellsOf f.type)) w:=by
      rw [Array.mapM_eq_mapM_toList]
      rw [Sem.run_map,B0e _ (fun f=>(f.offset,P.cellsOf f.type))]
      · simp only [Result.andThen_ok]
        congr 1
        apply Array.ext'; simp
      · intro f hf
        obtain ⟨rf,hrf⟩:=B4T hfs f hf
        simp [F6 hcf hrf,A7z hcf hrf]
    rw [hmk] at h
    obtain ⟨y,cells',h1,h2,h3⟩:=B0d (M:=M) (place:=fun i=>(fs.map fun f=>(f.offset,P.cellsOf f.type))[i]?) (fun i t' ht _=>by
      obtain ⟨fd,r',g1,g2,g3,g4,g6⟩:=B0c hfs ht
      have g1':fs[i]?=some fd:=by simpa using g1
      simp [g1',g2,A7z hcf g3,g4]) parts vals.toList _ z.cells h hf0 hv
    refine ⟨y,cells'.toList,h1,h3,?_⟩
    unfold Instr.build
    simp only [Sem.run_bind,hz,Result.andThen_ok,run_underlying hu,hplaces,h2,Sem.run_pure,C8,hagg,if_true,Array.toArray_toList]
  obtain ⟨ty,hty⟩:∃ ty,r.ty=ty:=⟨_,rfl⟩
  cases ty with
  | pair a b=>obtain ⟨fs,h1,h2,_⟩:=A5f hcf hr hty; exact struct ⟨fs,h1,by rw [hty]; exact h2⟩ (by rw [hty]; rfl)
  | unit=>obtain ⟨fs,h1,h2,_⟩:=A5g hcf hr hty; exact struct ⟨fs,h1,by rw [hty]; exact h2⟩ (by rw [hty]; rfl)
  | arr n e =>
    obtain ⟨te,hu,re,hre,hee⟩:=A2P hcf hr hty
    have hmk:B5U r.ty=.idx:=by rw [hty]; rfl
    rw [hmk] at h
    obtain ⟨y,cells',h1,h2,h3⟩:=B0d (M:=M) (place:=fun i=>some (i*re.ty.sz,re.ty.sz)) (fun i t' ht _=>by
      rw [hty] at ht ⊢
      simp only [tyP,W7] at ht
      cases ht
      simp [A1A,N8,hee]) parts vals.toList _ z.cells h hf0 hv
    refine ⟨y,cells'.toList,h1,h3,?_⟩
    unfold Instr.build
    simp only [Sem.run_bind,hz,Result.andThen_ok,run_underlying hu,F6 hcf hre,h2,Sem.run_pure,C8,hagg,if_true,Array.toArray_toList]
  | _=>rw [hty] at hagg; cases hagg
theorem A3w{T:Ty}{mk:Nat→Step}{K:T.den→Option R}:∀ {parts:List (Nat×Arg)} {x:T.den},A0Z T mk x parts K=some res→∃ y,A0Z T mk x parts some=some y∧K y=some res
  | [],x,h=>⟨x,rfl,h⟩
  | (i,a)::parts,x,h=>by
    unfold A0Z at h ⊢
    split at h
    · rename_i t' v hv
      cases hok:A7l T (mk i) <;> rw [hok] at h <;> simp only [cond_true,cond_false,reduceCtorEq] at h
      split at h
      · rename_i z hz
        obtain ⟨y,h1,h2⟩:=A3w h
        exact ⟨y,by simp only [hz,cond_true]; exact h1,h2⟩
      · cases h
    · cases h
theorem B64{a:Act}{M1:Mem}{ps:List (Nat×Operand)}(h:All2 (fun v x=>∀ t y,E5 x=some ⟨t,y⟩→∃ cs,E8 M1 t y cs∧v=C8 t cs) ((ps.map fun p=>a.eval p.2)) (ps.map fun p=>arg p.2)) :
    All2 (B63 M1) (ps.map fun p=>(p.1,a.eval p.2)) (ps.map fun p=>(p.1,arg p.2)):=by
  induction ps with
  | nil=>exact .nil
  | cons p ps ih =>
    cases h with
    | cons h1 h2=>exact .cons ⟨rfl,h1⟩ (ih h2)
theorem C06{ρ:Nat→Place}{s:St}{a:Act}(g:Good fr M ρ s a w):∀ {xs:List Operand},(∀ x∈xs,s.arg x=arg x)→All2 (Pz M ρ s) (xs.map a.eval) (xs.map arg)
  | [],_=>.nil
  | x::xs,h=>.cons (g.arg' (h x (by simp))).pz (C06 g fun y hy=>h y (by simp [hy]))
theorem B4U(hcf:T3 P cx){T:TypeId}{ps:Array (Nat×Operand)}{r:TyRow}(hd:F9 fr.n o.dst=true)(ho:o.op=.build T ps)(hr:cx.row? T=some r)
    (h:B9S KE r.ty (ps.toList.map fun (i,x)=>(i,arg x))=some res):∃ e,KE e=some res∧N1 P fr arg o e:=by
  unfold B9S at h
  cases hagg:r.ty.isAgg <;> rw [hagg] at h <;> simp only [cond_true,cond_false,reduceCtorEq] at h
  obtain ⟨y,hy,hK⟩:=A3w h
  refine ⟨_,hK,fun M ρ s a w Q g ha=>?_⟩
  have hops:∀ x∈ps.toList.map (·.2),s.arg x=arg x:=fun x hx=>ha x (by rw [ho]; simpa [Op.operands] using hx)
  have hpz:=C06 (arg:=arg) g hops
  obtain ⟨M1,hM1,g1,hdat,_⟩:=g.freezeAll _ _ hpz
  have e0:(ps.toList.map fun (i,x)=>(i,arg x)).map (·.2)=(ps.toList.map (·.2)).map arg:=by simp
  rw [e0]
  have hdat':All2 (fun v x=>∀ t y,E5 x=some ⟨t,y⟩→∃ cs,E8 M1 t y cs∧v=C8 t cs) (ps.toList.map fun p=>a.eval p.2) (ps.toList.map fun p=>arg p.2):=by
    simpa [List.map_map,Function.comp_def] using hdat
  have hpi:=B64 hdat'
  have hvals:(ps.map fun (i,x)=>(i,a.eval x)).toList=ps.toList.map fun p=>(p.1,a.eval p.2):=by simp
  rw [← hvals] at hpi
  obtain ⟨y',cs,h1,h2,h3⟩:=B2r (M:=M1) (w:=w) hcf hr hagg hpi hy
  cases h1
  have G:=g1.pure (dst:=o.dst) hd (v:=C8 r.ty cs) (sv:=.one (.d r.ty y)) ⟨cs,h2,rfl⟩
  rw [Eff.app_app,List.append_nil,List.nil_append] at G
  exact G4 (by simp [execOp,ho,h3]) ⟨M1,ρ,G⟩
end
end Go.Eng
namespace Go.Eng
open Go.RowKit
theorem A12(z:Array Value):∀ c:Nat,(madeCells z (c*z.size)).toList=(List.replicate c z.toList).flatten:=by
  intro c
  apply List.ext_getElem?
  intro j
  have hlen:((List.replicate c z.toList).flatten).length=c*z.size:=by simp
  by_cases hj:j < c*z.size
  · have hz:0 < z.size:=by
      rcases Nat.eq_zero_or_pos z.size with h | h
      · rw [h] at hj; simp at hj
      · exact h
    have hm:j % z.size < z.size:=Nat.mod_lt _ hz
    have e1:(madeCells z (c*z.size)).toList[j]?=some (z[j % z.size]!):=by simp [madeCells,hj]
    rw [e1]
    have:∀ (c j:Nat),j < c*z.size→((List.replicate c z.toList).flatten)[j]?=z.toList[j % z.size]?:=by
      intro c
      induction c with
      | zero=>intro j h; simp at h
      | succ c ih =>
        intro j h
        rw [List.replicate_succ,List.flatten_cons]
        by_cases hlt:j < z.size
        · rw [List.getElem?_append_left (by simpa using hlt),Nat.mod_eq_of_lt hlt]
        · rw [List.getElem?_append_right (by simpa using Nat.le_of_not_lt hlt)]
          simp only [Array.length_toList]
          rw [ih (j - z.size) (by rw [Nat.succ_mul] at h; omega),← Nat.mod_eq_sub_mod (Nat.le_of_not_lt hlt)]
    rw [this c j hj]
    simp [hm]
  · have e1:(madeCells z (c*z.size)).toList[j]?=none:=by simp [madeCells]; omega
    rw [e1,List.getElem?_eq_none (by omega)]
section
variable {P:Program} {cx:Cx} {fr:Frm} {arg:Operand→Arg} {o:Oper} {R:Type} {KE:Eff→Option R} {res:R} {M:Mem} {ρ:Nat→Place} {s:St} {a:Act} {w:World}
def D4F(t:Nat)(e:Ty)(tid:Nat)(l:List e.den):Eff:={ rep:=[(t,.dead)],objs:=[(t,.sl e tid l)],val:=.one (.own t) }
theorem A9a{dst:Option Nat}{e:Ty}{tid:Nat}{l:List e.den}{ef:Eff→Eff}(h:D0G cx dst (fun x=>KE (ef x)) e tid l=some res) :
    (∃ t,dst=some t∧KE (ef (D4F t e tid l))=some res)∨KE (ef (one (.d (.slice e) l)))=some res:=by
  unfold D0G at h
  cases hb:B4C cx dst <;> rw [hb] at h <;> simp only [cond_true,cond_false] at h
  · exact .inr h
  · unfold B9H at h
    cases dst with
    | none=>cases h
    | some t=>exact .inl ⟨t,rfl,h⟩
structure NewRow (M:Mem) (e:Ty) (l:List e.den) (cells:Array Value) (cap:Nat):Prop where
  ex:∃ cs,E3 (E8 M e) l cs∧cells.toList.take cs.length=cs
  len:l.length≤cap
  max:cap≤maxLen
  size:cells.size=cap*e.sz
theorem Good.rowOwn(g:Good fr M ρ s a w){t:Nat}(hd:F9 fr.n (some t)=true){e:Ty}{tid:Nat}{l:List e.den}{cells:Array Value}{cap:Nat}(h:NewRow M e l cells cap) :
    Good fr M (Place.upd ρ t (.at w.heap.size cap)) ((D4F t e tid l).app (some t) s) (a.put (some t) (.slice (some ⟨w.heap.size,0,none⟩) l.length cap)) (w.alloc (.cells cells tid)):=by
  obtain ⟨⟨cs,h1,h2⟩,h3,h4,h5⟩:=h
  refine g.newObj hd (N3 w _) (pl:=.at w.heap.size cap) ⟨h3,h4,cells,heap_alloc_new w _,h5,cs,h1,h2⟩ (fun b hb=>?_) ?_
  · cases hb; exact ⟨Nat.le_refl _,by simp⟩
  · exact ⟨e,tid,l,by simp,by simp [Place.upd,Place.slice]⟩
theorem Good.rowData(g:Good fr M ρ s a w){dst:Option Nat}(hd:F9 fr.n dst=true){e:Ty}{tid:Nat}{l:List e.den}{cells:Array Value}{cap:Nat}(h:NewRow M e l cells cap) :
    ∃ M',M.le M'∧Good fr M' ρ ((one (.d (.slice e) l)).app dst s) (a.put dst (.slice (some ⟨w.heap.size,0,none⟩) l.length cap)) (w.alloc (.cells cells tid)):=by
  obtain ⟨⟨cs,h1,h2⟩,h3,h4,h5⟩:=h
  have hnone:M w.heap.size=none:=by
    cases hm:M w.heap.size with
    | none=>rfl
    | some ob=>have:=(Array.getElem?_eq_some_iff.1 (g.mem _ _ hm)).1; omega
  have hle:=Mem.le_add (o:=some (.cells cells tid)) hnone
  have hs:=N3 w (.cells cells tid)
  refine ⟨M.add w.heap.size (some (.cells cells tid)),hle,g.quiet hd hle ?_ hs (fun b hb=>?_) ?_⟩
  · intro b ob hm
    unfold Mem.add at hm
    split at hm
    · rename_i e; cases hm; rw [e]; exact heap_alloc_new w _
    · have:=g.mem b ob hm
      rw [hs.block b (Array.getElem?_eq_some_iff.1 this).1 (fun h=>h)]; exact this
  · unfold Mem.add; rw [if_neg (by omega)]
  · refine ⟨[_],⟨_,rfl,some ⟨w.heap.size,0,none⟩,cap,rfl,h3,(fun h=>(by cases h)),(fun _=>⟨w.heap.size,0,cells,tid,(0,0),rfl,?_,cs,h1.mono (fun _ _ k=>k.mono hle),by simpa using h2⟩)⟩,by simp [C8,Ty.isAgg]⟩
    unfold Mem.add; rw [if_pos rfl]
theorem B0f(hcf:T3 P cx){T:TypeId}{re:TyRow}(hre:cx.row? T=some re){z:Value}(hz:z.cells.toList=A5e re.ty){n cap:Nat}(hn:n≤cap)(hm:cap≤maxLen) :
    NewRow M re.ty (List.replicate n (dflt re.ty)) (madeCells z.cells (cap*re.ty.sz)) cap:=by
  have hsz:z.cells.size=re.ty.sz:=by rw [← Array.length_toList,hz,(E8.zero M re.ty).length]
  have hl:(madeCells z.cells (cap*re.ty.sz)).toList=(List.replicate cap (A5e re.ty)).flatten:=by rw [← hsz,A12,hz]
  refine ⟨⟨_,E3.replicate (E8.zero M re.ty) n,?_⟩,by simpa using hn,hm,by simp [madeCells]⟩
  rw [hl]
  have:List.replicate cap (A5e re.ty)=List.replicate n (A5e re.ty)++List.replicate (cap - n) (A5e re.ty):=by rw [List.replicate_append_replicate]; congr 1; omega
  rw [this,List.flatten_append]; simp
theorem A7A(hcf:T3 P cx){T:TypeId}{x y:Operand}{r re:TyRow}{e:Ty}{k1 k2:IntKind}{m n:Int}{ox oy:MObj}(hd:F9 fr.n o.dst=true)(ho:o.op=.makeSlice T x y)(hr:cx.row? T=some r)(ht:r.ty=.slice e)
    (hre:cx.row? r.elem=some re) (hx:arg x=(.one (.d (.int k1) m),ox)) (hy:arg y=(.one (.d (.int k2) n),oy)) (hb:Y8 m n re.bytes=true)
    (h:D0G cx o.dst KE e r.elem (I7 m (dflt e))=some res):∃ E,KE E=some res∧N1 P fr arg o E:=by
  obtain ⟨hu,re',hre',hee⟩:=S2 hcf hr ht
  rw [hre] at hre'; cases hre'
  subst hee
  have hb':0≤m∧m≤n∧(re.bytes:Int)*n≤140737488355328∧n≤281474976710656:=of_decide_eq_true hb
  obtain ⟨i,z,hi,hs,hby,hz,hc⟩:=(hcf _ _ hre).info
  have key:∀ (M:Mem) (ρ:Nat→Place) (s:St) (a:Act) (w:World),Good fr M ρ s a w→(∀ x∈o.op.operands,s.arg x=arg x) →
      (execOp a.eval o).run P w=.ok (.value (.slice (some ⟨w.heap.size,0,none⟩) (I7 m (dflt re.ty)).length n.toNat)) (w.alloc (.cells (madeCells z.cells (n.toNat*re.ty.sz)) r.elem)):=by
    intro M ρ s a w g ha
    have e1:=(g.arg' ((ha x (by rw [ho]; simp [Op.operands])).trans hx)).int
    have e2:=(g.arg' ((ha y (by rw [ho]; simp [Op.operands])).trans hy)).int
    have hrun:=run_make (P:=P) w T r.elem i z hu hi hz k1 k2 m n hb'.1 hb'.2.1 (by rw [hby]; omega) (by omega)
    rw [hs] at hrun
    simp [execOp,ho,e1,e2,hrun,I7]
  have hrow:∀ M,NewRow M re.ty (I7 m (dflt re.ty)) (madeCells z.cells (n.toNat*re.ty.sz)) n.toNat:=fun M=>B0f hcf hre hc (by omega) (by unfold maxLen; omega)
  rcases A9a (ef:=id) h with ⟨t,htt,hK⟩ | hK
  · refine ⟨_,hK,fun M ρ s a w Q g ha=>G4 (key M ρ s a w g ha) ?_⟩
    rw [htt] at hd ⊢
    exact ⟨_,_,g.rowOwn hd (hrow M)⟩
  · refine ⟨_,hK,fun M ρ s a w Q g ha=>G4 (key M ρ s a w g ha) ?_⟩
    obtain ⟨M',_,G⟩:=g.rowData (tid:=r.elem) hd (hrow M)
    exact ⟨M',ρ,G⟩
theorem B4V(hcf:T3 P cx){T:TypeId}{r:TyRow}(hd:F9 fr.n o.dst=true)(ho:o.op=.alloc T)(hr:cx.row? T=some r)
    (h:B9H o.dst KE (.bx r.ty (dflt r.ty)) (fun t=>.pa t [])=some res):∃ E,KE E=some res∧N1 P fr arg o E:=by
  unfold B9H at h
  cases hdst:o.dst with
  | none=>rw [hdst] at h; cases h
  | some t =>
    rw [hdst] at h hd
    refine ⟨_,h,fun M ρ s a w Q g ha=>?_⟩
    obtain ⟨z,hz,hzc⟩:=A2b (P:=P) (w:=w) hcf hr
    have hrun:(execOp a.eval o).run P w=.ok (.value (.pointer (some ⟨w.heap.size,0,none⟩))) (w.alloc (.cells z.cells T)):=by
      simp [execOp,ho,Instr.alloc,hz,newVar,newRow]
    refine G4 hrun ?_
    rw [hdst]
    refine ⟨_,_,g.newObj hd (N3 w _) (pl:=.at w.heap.size 0) ⟨z.cells,T,heap_alloc_new w _,by rw [hzc]; exact E8.zero M r.ty⟩ (fun b hb=>by cases hb; exact ⟨Nat.le_refl _,by simp⟩) ?_⟩
    exact ⟨w.heap.size,r.ty,by simp [Place.upd,Place.blk],by simp [okO,A2L],by simp [MObj.tyP,W7],by simp [A4y,N8]⟩
theorem C07(hcf:T3 P cx){T:TypeId}{x:Operand}{r:TyRow}{t0:Ty}{v0:t0.den}(hd:F9 fr.n o.dst=true)(ho:o.op=.box T x)(hr:cx.row? T=some r)(hx:E5 (arg x)=some ⟨t0,v0⟩)
    (h:B9H o.dst (fun ef=>KE { ef with rep:=frz (arg x)++ef.rep,objs:=ef.objs++A6V (arg x) }) (.bx t0 v0) (fun t=>.pa t [])=some res):∃ E,KE E=some res∧N1 P fr arg o E:=by
  unfold B9H at h
  cases hdst:o.dst with
  | none=>rw [hdst] at h; cases h
  | some t =>
    rw [hdst] at h hd
    refine ⟨_,h,fun M ρ s a w Q g ha=>?_⟩
    have ax:=g.arg' (ha x (by rw [ho]; simp [Op.operands]))
    obtain ⟨M1,hM1,g1,hdat,_⟩:=g.freeze1 ax.pz (.one .dead) rfl
    obtain ⟨cs,hf,hv⟩:=hdat _ _ hx
    have hrun:(execOp a.eval o).run P w=.ok (.value (.pointer (some ⟨w.heap.size,0,none⟩))) (w.alloc (.cells (a.eval x).cells T)):=by
      simp [execOp,ho,Instr.box,newVar,newRow]
    refine G4 hrun ?_
    rw [hdst]
    have G:=g1.newObj hd (N3 w (.cells (a.eval x).cells T)) (o:=.bx t0 v0) (pl:=.at w.heap.size 0) (m:=.pa t []) (v:=.pointer (some ⟨w.heap.size,0,none⟩)) ⟨(a.eval x).cells,T,heap_alloc_new w _,by rw [hv,A2S hf]; exact hf⟩ (fun b hb=>by cases hb; exact ⟨Nat.le_refl _,by simp⟩)
      ⟨w.heap.size,t0,by simp [Place.upd,Place.blk],by simp [okO,A2L],by simp [MObj.tyP,W7],by simp [A4y,N8]⟩
    rw [Eff.app_app] at G
    exact ⟨_,_,G⟩
end
end Go.Eng
namespace Go.Eng
open Go.RowKit
section
variable {P:Program} {cx:Cx} {fr:Frm} {arg:Operand→Arg} {o:Oper} {R:Type} {KE:Eff→Option R} {res:R} {M:Mem} {ρ:Nat→Place} {s:St} {a:Act} {w:World}
theorem A5Q(hcf:T3 P cx){T:TypeId}{r re:TyRow}(hr:cx.row? T=some r){e:Ty}(ht:r.ty=.slice e)(hre:cx.row? r.elem=some re)(hee:re.ty=e){n:Nat}(hn:n≤16777216)(hsz:n*e.sz≤16777216)
    {parts:List (Nat×Arg)} {vals:Array (Nat×Value)} (hv:All2 (B63 M) vals.toList parts) {l:(Ty.arr n e).den} (h:A0Z (.arr n e) .idx (List.replicate n (dflt e)) parts some=some l) :
    ∃ cells,NewRow M e l cells n∧List.length l=n∧(Instr.buildSlice T n vals).run P w=.ok (.slice (some ⟨w.heap.size,0,none⟩) n n) (w.alloc (.cells cells r.elem)):=by
  subst hee
  obtain ⟨hu,_⟩:=S2 hcf hr ht
  obtain ⟨z,hz,hzc⟩:=A2b (P:=P) (w:=w) hcf hre
  have hzs:z.cells.size=re.ty.sz:=by rw [← Array.length_toList,hzc,(E8.zero M re.ty).length]
  -- the zero cells
  obtain ⟨z0,hz0,hz1⟩:∃ z0:Array Value,((n*re.ty.sz=0∧z0=#[])∨(¬ n*re.ty.sz=0∧z0=z.cells))∧(madeCells z0 (n*re.ty.sz)).toList=(List.replicate n (A5e re.ty)).flatten:=by
    by_cases h0:n*re.ty.sz=0
    · refine ⟨#[],.inl ⟨h0,rfl⟩,?_⟩
      rw [h0]
      have:((List.replicate n (A5e re.ty)).flatten).length=0:=by rw [List.length_flatten]; simp [(E8.zero M re.ty).length,h0]
      rw [List.eq_nil_of_length_eq_zero this]
      simp [madeCells]
    · refine ⟨z.cells,.inr ⟨h0,rfl⟩,?_⟩
      rw [← hzs,A12,hzc]
  have hf0:E8 M (.arr n re.ty) (List.replicate n (dflt re.ty)) (madeCells z0 (n*re.ty.sz)).toList:=by
    rw [hz1]; exact ⟨by simp,E3.replicate (E8.zero M re.ty) n⟩
  obtain ⟨y,cells',h1,h2,h3⟩:=B0d (T:=.arr n re.ty) (mk:=.idx) (M:=M) (place:=fun i=>some (i*re.ty.sz,re.ty.sz)) (fun i t' ht _=>by
      simp only [tyP,W7] at ht
      cases ht
      simp [A1A,N8]) parts vals.toList _ (madeCells z0 (n*re.ty.sz)) h hf0 hv
  cases h1
  have hlen:=h3.length
  simp only [Array.length_toList] at hlen
  refine ⟨cells',⟨⟨_,h3.2,?_⟩,Nat.le_of_eq h3.1,by unfold maxLen; omega,hlen⟩,h3.1,?_⟩
  · rw [List.take_length]
  · unfold Instr.buildSlice
    simp only [Sem.run_bind,run_underlying hu,Result.andThen_ok,F6 hcf hre]
    rw [if_neg (by omega)]
    have hfill:Instr.fill (fun i=>some (i*re.ty.sz,re.ty.sz)) ((Array.range (n*re.ty.sz)).map fun x=>z0[x % z0.size]!) vals.toList=some cells':=h2
    rcases hz0 with ⟨h0,rfl⟩ | ⟨h0,rfl⟩
    · rw [if_pos h0]
      simp only [Sem.run_bind,Sem.run_pure,Result.andThen_ok,hfill]
      simp [newRow]
    · rw [if_neg h0]
      simp only [Sem.run_bind,hz,Sem.run_pure,Result.andThen_ok,hfill]
      simp [newRow]
theorem A6L(hcf:T3 P cx){T:TypeId}{n:Nat}{ps:Array (Nat×Operand)}{r:TyRow}{e:Ty}(hd:F9 fr.n o.dst=true)(ho:o.op=.buildSlice T n ps)(hr:cx.row? T=some r)(ht:r.ty=.slice e)
    (h:A4N cx o.dst KE e r.elem n (ps.toList.map fun (i,x)=>(i,arg x))=some res):∃ e,KE e=some res∧N1 P fr arg o e:=by
  obtain ⟨hu,re,hre,hee⟩:=S2 hcf hr ht
  unfold A4N at h
  cases hb:(Nat.ble n 16777216 && Nat.ble (n*e.sz) 16777216) <;> rw [hb] at h <;> simp only [cond_true,cond_false,reduceCtorEq] at h
  simp only [Bool.and_eq_true,Nat.ble_eq] at hb
  obtain ⟨l,hl,hK⟩:=A3w h
  have e0:(ps.toList.map fun (i,x)=>(i,arg x)).map (·.2)=(ps.toList.map (·.2)).map arg:=by simp
  rw [e0] at hK
  have key:∀ (M:Mem) (ρ:Nat→Place) (s:St) (a:Act) (w:World),Good fr M ρ s a w→(∀ x∈o.op.operands,s.arg x=arg x)→∃ M1 cells,Good fr M1 ρ (({ rep:=A1c ((ps.toList.map (·.2)).map arg),objs:=N2 ((ps.toList.map (·.2)).map arg),val:=.one .dead }:Eff).app none s) a w ∧
      NewRow M1 e l cells n∧List.length l=n∧(execOp a.eval o).run P w=.ok (.value (.slice (some ⟨w.heap.size,0,none⟩) n n)) (w.alloc (.cells cells r.elem)):=by
    intro M ρ s a w g ha
    have hops:∀ x∈ps.toList.map (·.2),s.arg x=arg x:=fun x hx=>ha x (by rw [ho]; simpa [Op.operands] using hx)
    have hpz:=C06 (arg:=arg) g hops
    obtain ⟨M1,hM1,g1,hdat,_⟩:=g.freezeAll _ _ hpz
    have hdat':All2 (fun v x=>∀ t y,E5 x=some ⟨t,y⟩→∃ cs,E8 M1 t y cs∧v=C8 t cs) (ps.toList.map fun p=>a.eval p.2) (ps.toList.map fun p=>arg p.2):=by
      simpa [List.map_map,Function.comp_def] using hdat
    have hpi:=B64 hdat'
    have hvals:(ps.map fun (i,x)=>(i,a.eval x)).toList=ps.toList.map fun p=>(p.1,a.eval p.2):=by simp
    rw [← hvals] at hpi
    obtain ⟨cells,h1,h2,h3⟩:=A5Q (M:=M1) (w:=w) hcf hr ht hre hee hb.1 hb.2 hpi hl
    exact ⟨M1,cells,g1,h1,h2,by simp [execOp,ho,h3]⟩
  rcases A9a hK with ⟨t,htt,hK⟩ | hK
  · refine ⟨_,hK,fun M ρ s a w Q g ha=>?_⟩
    obtain ⟨M1,cells,g1,h1,h2,h3⟩:=key M ρ s a w g ha
    refine G4 h3 ?_
    rw [htt] at hd ⊢
    have G:=g1.rowOwn (tid:=r.elem) hd h1
    rw [h2] at G
    unfold D4F at G
    rw [Eff.app_app] at G
    exact ⟨_,_,G⟩
  · refine ⟨_,hK,fun M ρ s a w Q g ha=>?_⟩
    obtain ⟨M1,cells,g1,h1,h2,h3⟩:=key M ρ s a w g ha
    refine G4 h3 ?_
    obtain ⟨M',_,G⟩:=g1.rowData (tid:=r.elem) hd h1
    rw [h2] at G
    unfold one at G
    rw [Eff.app_app] at G
    exact ⟨M',ρ,G⟩
theorem Good.rowKnown(g:Good fr M ρ s a w){dst:Option Nat}(hd:F9 fr.n dst=true){tid:Nat}{cells:Array Value}{v:Value}{sv:SV}(hv:∀ M':Mem,M.le M'→M' w.heap.size=some (.cells cells tid)→A0c M' ρ s.obj v sv) :
    ∃ M',Good fr M' ρ (({ val:=sv }:Eff).app dst s) (a.put dst v) (w.alloc (.cells cells tid)):=by
  have hnone:M w.heap.size=none:=by
    cases hm:M w.heap.size with
    | none=>rfl
    | some ob=>have:=(Array.getElem?_eq_some_iff.1 (g.mem _ _ hm)).1; omega
  have hle:=Mem.le_add (o:=some (.cells cells tid)) hnone
  have hs:=N3 w (.cells cells tid)
  refine ⟨M.add w.heap.size (some (.cells cells tid)),g.quiet hd hle ?_ hs (fun b hb=>?_) (hv _ hle ?_)⟩
  · intro b ob hm
    unfold Mem.add at hm
    split at hm
    · rename_i e; cases hm; rw [e]; exact heap_alloc_new w _
    · have:=g.mem b ob hm
      rw [hs.block b (Array.getElem?_eq_some_iff.1 this).1 (fun h=>h)]; exact this
  · unfold Mem.add; rw [if_neg (by omega)]
  · unfold Mem.add; rw [if_pos rfl]
theorem A8N(hcf:T3 P cx){T:TypeId}{n:Nat}{ps:Array (Nat×Operand)}{r:TyRow}{e:Ty}{no:Option R}(hd:F9 fr.n o.dst=true)(ho:o.op=.buildSlice T n ps)(hr:cx.row? T=some r)(ht:r.ty=.slice e)
    (hno:no=some res→∃ e,KE e=some res∧N1 P fr arg o e) (h:A7n KE e n (ps.toList.map fun (i,x)=>(i,arg x)) no=some res):∃ e,KE e=some res∧N1 P fr arg o e:=by
  unfold A7n at h
  split at h
  · rename_i i p oi j q oj hparts
    cases hb:(decide (e=.ptr) && Nat.beq n 2 && Nat.beq i j) <;> rw [hb] at h <;> simp only [cond_true,cond_false] at h
    · exact hno h
    simp only [Bool.and_eq_true,decide_eq_true_eq,B2] at hb
    obtain ⟨⟨rfl,rfl⟩,rfl⟩:=hb
    obtain ⟨⟨k1,x⟩,l1,hl1,hk1,hr1⟩:=List.map_eq_cons_iff.1 hparts
    obtain ⟨⟨k2,y⟩,l2,hl2,hk2,hr2⟩:=List.map_eq_cons_iff.1 hr1
    have hl3:l2=[]:=by simpa using hr2
    subst hl3
    simp only [Prod.mk.injEq] at hk1 hk2
    obtain ⟨rfl,hx⟩:=hk1
    obtain ⟨rfl,hy⟩:=hk2
    have hps:ps=#[(0,x),(1,y)]:=by apply Array.ext'; rw [hl1,hl2]
    subst hps
    obtain ⟨hu,re,hre,hee⟩:=S2 hcf hr ht
    refine ⟨_,h,fun M ρ s a w Q g ha=>?_⟩
    have px:A7p ρ s.obj i p (a.eval x):=(g.arg' ((ha x (by rw [ho]; simp [Op.operands])).trans hx)).rel
    have py:A7p ρ s.obj i q (a.eval y):=(g.arg' ((ha y (by rw [ho]; simp [Op.operands])).trans hy)).rel
    have cx1:(a.eval x).cells=#[a.eval x]:=by obtain ⟨_,_,_,_,_,hv⟩:=px; rw [hv]; rfl
    have cy1:(a.eval y).cells=#[a.eval y]:=by obtain ⟨_,_,_,_,_,hv⟩:=py; rw [hv]; rfl
    have hrun:(execOp a.eval o).run P w=.ok (.value (.slice (some ⟨w.heap.size,0,none⟩) 2 2)) (w.alloc (.cells #[a.eval x,a.eval y] r.elem)):=by
      obtain ⟨z,hz,hzc⟩:=A2b (P:=P) (w:=w) hcf hre
      have hz1:z.cells.size=1:=by rw [← Array.length_toList,hzc,hee]; rfl
      have hsz:re.ty.sz=1:=by rw [hee]; rfl
      simp only [execOp,ho]
      unfold Instr.buildSlice
      simp only [Sem.run_bind,run_underlying hu,Result.andThen_ok,F6 hcf hre,hsz,Sem.run_pure]
      simp [Instr.fill,cx1,cy1,newRow,hz,Array.range,Array.zipIdx]
      congr 2
    obtain ⟨M',G⟩:=g.rowKnown (dst:=o.dst) (tid:=r.elem) (cells:=#[a.eval x,a.eval y]) (v:=.slice (some ⟨w.heap.size,0,none⟩) 2 2) (sv:=.one (.ps i [p,q])) hd (fun M' _ hM=>⟨_,2,_,_,_,rfl,hM,by simp,fun k p' hk=>by
      match k,hk with
      | 0,hk=>cases hk; exact ⟨_,rfl,px⟩
      | 1,hk=>cases hk; exact ⟨_,rfl,py⟩
      | k+2,hk=>simp at hk⟩)
    exact G4 hrun ⟨M',ρ,G⟩
  · exact hno h
theorem B4I.cut{e:Ty}{l:List e.den}{v:Value}(h:B4I M (E8 M e) l v){i j:Nat}(hij:i≤j)(hj:j≤l.length){ao:Option Addr}{n cap:Nat}(hv:v=.slice ao n cap) :
    B4I M (E8 M e) ((l.take j).drop i) (.slice (if cap=i then ao else ao.map (·.add (i*e.sz))) (j - i) (cap - i)):=by
  obtain ⟨ao',cap',hv',hc,hn,hx⟩:=h
  rw [hv] at hv'; cases hv'
  have hlen:((l.take j).drop i).length=j - i:=by simp; omega
  refine ⟨_,_,by rw [hlen],by rw [hlen]; omega,?_,?_⟩
  · intro hnone
    have:ao=none:=by
      split at hnone
      · exact hnone
      · simpa using hnone
    have:=hn this; omega
  · intro hne
    have hlt:i < j:=by
      rcases Nat.lt_or_ge i j with h | h
      · exact h
      · exact absurd (List.eq_nil_of_length_eq_zero (by rw [hlen]; omega)) hne
    have hl0:l≠[]:=by intro e; rw [e] at hj; simp at hj; omega
    obtain ⟨b,off,cur,el,fz,hao,hM,cs,hf,ht⟩:=hx hl0
    have hnn:∀ x cs,E8 M e x cs→cs.length=e.sz:=fun x cs k=>k.length
    have h1:=(hf.take hnn j hj).drop hnn i (by simp; omega)
    have hlen2:=E3.length hnn hf
    have hcap:¬ cap=i:=by omega
    refine ⟨b,off+i*e.sz,cur,el,fz,by rw [if_neg hcap,hao]; simp [G8],hM,_,h1,?_⟩
    have hjj:j*e.sz≤cs.length:=by rw [hlen2]; exact Nat.mul_le_mul_right _ hj
    have hii:i*e.sz≤j*e.sz:=Nat.mul_le_mul_right _ hij
    have e1:((cs.take (j*e.sz)).drop (i*e.sz)).length=j*e.sz - i*e.sz:=by simp; omega
    rw [e1,← ht]
    simp only [List.take_take,List.drop_take,List.drop_drop]
    rw [Nat.min_eq_left hjj]
def C08:Option Arg→Nat→Nat→Prop
  | none,d,i=>i=d
  | some x,_,i=>∃ k n ob,x=(.one (.d (.int k) n),ob)∧n=(i:Int)
def A5j:Option Value→Nat→Nat→Prop
  | none,d,i=>i=d
  | some x,_,i=>∃ k,x=.int k (i:Int)
theorem B2s{lo hi:Option Arg}{e:Ty}{l:List e.den}{ef:Eff→Eff}(h:B2f KE lo hi e l ef=some res) :
    ∃ (i j:Nat),i≤j∧j≤l.length∧KE (ef (one (.d (.slice e) ((l.take j).drop i))))=some res∧C08 lo 0 i∧C08 hi l.length j:=by
  unfold B2f at h
  split at h
  · exact ⟨0,l.length,Nat.zero_le _,Nat.le_refl _,by simpa using h,rfl,rfl⟩
  · rename_i k n ob
    change Int at n
    replace h:(bif A29 n (C7 l) l.length then KE (ef (one (.d (.slice e) (S0 l n)))) else none)=some res:=h
    cases hc:A29 n (C7 l) l.length <;> rw [hc] at h <;> simp only [cond_true,cond_false,reduceCtorEq] at h
    have hc':0≤n∧n≤(l.length:Int)∧(l.length:Int)≤(l.length:Int):=of_decide_eq_true hc
    exact ⟨n.toNat,l.length,by omega,Nat.le_refl _,by simpa [S0] using h,⟨k,n,ob,rfl,(Int.toNat_of_nonneg (by omega)).symm⟩,rfl⟩
  · rename_i k n ob
    change Int at n
    replace h:(bif A29 0 n l.length then KE (ef (one (.d (.slice e) (N9 l n)))) else none)=some res:=h
    cases hc:A29 0 n l.length <;> rw [hc] at h <;> simp only [cond_true,cond_false,reduceCtorEq] at h
    have hc':(0:Int)≤0∧0≤n∧n≤(l.length:Int):=of_decide_eq_true hc
    exact ⟨0,n.toNat,by omega,by omega,by simpa [N9] using h,rfl,⟨k,n,ob,rfl,(Int.toNat_of_nonneg (by omega)).symm⟩⟩
  · rename_i k m ob k' n ob'
    change Int at m
    change Int at n
    replace h:(bif A29 m n l.length then KE (ef (one (.d (.slice e) (S0 (N9 l n) m)))) else none)=some res:=h
    cases hc:A29 m n l.length <;> rw [hc] at h <;> simp only [cond_true,cond_false,reduceCtorEq] at h
    have hc':0≤m∧m≤n∧n≤(l.length:Int):=of_decide_eq_true hc
    exact ⟨m.toNat,n.toNat,by omega,by omega,by simpa [S0,N9] using h,⟨k,m,ob,rfl,(Int.toNat_of_nonneg (by omega)).symm⟩,⟨k',n,ob',rfl,(Int.toNat_of_nonneg (by omega)).symm⟩⟩
  · cases h
theorem A1e(hcf:T3 P cx){T:TypeId}{r re:TyRow}{e:Ty}(hr:cx.row? T=some r)(ht:r.ty=.slice e){ao:Option Addr}{n cap i j:Nat}(hij:i≤j)(hjn:j≤n)(hn:n≤cap){lo hi:Option Value}
    (hlo:A5j lo 0 i) (hhi:A5j hi n j) :
    (Instr.sliceAt T (.slice ao n cap) lo hi none).run P w=.ok (.slice (if cap=i then ao else ao.map (·.add (i*e.sz))) (j - i) (cap - i)) w:=by
  obtain ⟨hu,re,hre,hee⟩:=S2 hcf hr ht
  unfold Instr.sliceAt
  simp only [Sem.run_bind,run_underlying hu,Result.andThen_ok,Instr.slice,Instr.sliceBounds,Sem.run_pure]
  have hb:∀ (k:IntKind) (q y:Nat) (c:BoundsCode),q≤y→(Instr.sliceBound (.int k (q:Int)) y c).run P w=.ok q w:=by
    intro k q y c hq
    unfold Instr.sliceBound
    simp [asIntOf]
    intro h; omega
  cases lo with
  | none =>
    cases hi with
    | none =>
      have e1:i=0:=hlo
      have e2:j=n:=hhi
      subst e1; subst e2
      simp [F6 hcf hre,hee]
    | some x =>
      have e1:i=0:=hlo
      obtain ⟨k,rfl⟩:=hhi
      subst e1
      simp [F6 hcf hre,hee,hb k j cap _ (by omega)]
  | some y =>
    obtain ⟨k,rfl⟩:=hlo
    cases hi with
    | none =>
      have e2:j=n:=hhi
      subst e2
      simp [F6 hcf hre,hee,hb k i j _ hij]
    | some x =>
      obtain ⟨k',rfl⟩:=hhi
      simp [F6 hcf hre,hee,hb k' j cap _ (by omega),hb k i j _ hij]
theorem A7B(hcf:T3 P cx){T:TypeId}{x:Operand}{lo hi:Option Operand}{r:TyRow}{e:Ty}{l:List e.den}{ef:Eff→Eff}(hd:F9 fr.n o.dst=true)(ho:o.op=.slice T x lo hi none)(hr:cx.row? T=some r)(ht:r.ty=.slice e)
    (hx:E5 (arg x)=some ⟨.slice e,l⟩) (hef:∀ m,ef (one m)={ rep:=frz (arg x),objs:=A6V (arg x),val:=.one m })
    (h:B2f KE (lo.map arg) (hi.map arg) e l ef=some res):∃ E,KE E=some res∧N1 P fr arg o E:=by
  obtain ⟨i,j,hij,hj,hK,h1,h2⟩:=B2s h
  refine ⟨_,hK,fun M ρ s a w Q g ha=>?_⟩
  have ax:=g.arg' (ha x (by rw [ho]; simp [Op.operands]))
  obtain ⟨M1,hM1,g1,hdat,_⟩:=g.freeze1 ax.pz (.one .dead) rfl
  obtain ⟨cs,⟨v,hcs,hsl⟩,hv⟩:=hdat _ _ hx
  have hsl':=hsl
  obtain ⟨ao,cap,hv2,hcap,_⟩:=hsl'
  have hv3:a.eval x=.slice ao l.length cap:=by rw [hv,hcs,← hv2]; simp [C8,Ty.isAgg]
  have aux:∀ (q:Option Operand) (d i:Nat),(∀ y,q=some y→s.arg y=arg y)→C08 (q.map arg) d i→A5j (q.map a.eval) d i:=by
    intro q d i hq hm
    cases q with
    | none=>exact hm
    | some y =>
      obtain ⟨k,n,ob,hy,hn⟩:=hm
      have:=(g.arg' ((hq y rfl).trans hy)).int
      exact ⟨k,by rw [this,hn]⟩
  have hlo:=aux lo 0 i (fun y hy=>ha y (by rw [ho,hy]; simp [Op.operands])) h1
  have hhi:=aux hi l.length j (fun y hy=>ha y (by rw [ho,hy]; simp [Op.operands])) h2
  have hrun:=A1e (re:=r) (w:=w) hcf hr ht (ao:=ao) hij hj hcap hlo hhi
  have hcut:=B4I.cut hsl hij hj hv2
  have G:=g1.pure (dst:=o.dst) hd (sv:=.one (.d (.slice e) ((l.take j).drop i))) ⟨[_],⟨_,rfl,hcut⟩,rfl⟩
  rw [Eff.app_app,List.append_nil,List.nil_append] at G
  rw [hef]
  refine G4 ?_ ⟨M1,ρ,G⟩
  simp only [execOp,ho,hv3,Option.map_none]
  simp [hrun,C8,Ty.isAgg]
end
end Go.Eng
namespace Go.Eng
open Go.RowKit
section
variable {P:Program} {cx:Cx} {fr:Frm} {arg:Operand→Arg} {o:Oper} {R:Type} {KE:Eff→Option R} {res:R} {M:Mem} {ρ:Nat→Place} {s:St} {a:Act} {w:World}
theorem ArgIs.source(g:Good fr M ρ s a w){v:Value}{x:Arg}(h:ArgIs M ρ s v x){e:Ty}{m:(Ty.slice e).den}(hx:E5 x=some ⟨.slice e,m⟩) :
    ∃ ao c,v=.slice ao (List.length m) c∧(m≠[]→∃ ad news,ao=some ad∧E3 (E8 M e) m news∧∀ j u,news[j]?=some u→w.cell? (ad.add j)=some u):=by
  obtain ⟨sv,ob⟩:=x
  cases sv with
  | tup _=>simp [E5] at hx
  | one mv =>
    cases mv with
    | d t y =>
      simp only [E5,Option.some.injEq] at hx
      cases hx
      obtain ⟨cs,⟨v2,hcs,ao,cap,hv,hc,_,hne⟩,e1⟩:=h.rel
      refine ⟨ao,cap,by rw [e1,hcs,← hv]; simp [C8,Ty.isAgg],fun hm=>?_⟩
      obtain ⟨b,off,cur,el,fz,hao,hM,news,hf,ht⟩:=hne hm
      refine ⟨_,news,hao,hf,fun j u hj=>?_⟩
      rw [G8,cell_of_row w b _ cur el fz (g.mem _ _ hM)]
      have hlt:j < news.length:=(List.getElem?_eq_some_iff.1 hj).1
      rw [← ht,List.getElem?_take,if_pos hlt,List.getElem?_drop] at hj
      simpa using hj
    | own i =>
      cases ob with
      | sl e2 tid l =>
        simp only [E5,Option.some.injEq] at hx
        cases hx
        obtain ⟨e3,t3,l3,h1,h2⟩:=h.rel
        have h3:=h.obj i rfl
        rw [h1] at h3; cases h3
        have hob:=g.objs i
        rw [h1] at hob
        cases hr:ρ i with
        | no =>
          rw [hr] at hob h2
          have hl:m=[]:=hob
          exact ⟨none,0,h2,fun hm=>absurd hl hm⟩
        | «at» b cap =>
          rw [hr] at hob h2
          obtain ⟨k1,k2,cur,k3,k4,cs,k5,k6⟩:=hob
          refine ⟨some ⟨b,0,none⟩,cap,h2,fun hm=>⟨⟨b,0,none⟩,cs,rfl,k5,fun j u hj=>?_⟩⟩
          rw [G8,cell_of_row w b _ cur tid (0,0) k3]
          have hlt:j < cs.length:=(List.getElem?_eq_some_iff.1 hj).1
          rw [← k6,List.getElem?_take,if_pos hlt] at hj
          simpa using hj
      | gone=>simp [E5] at hx
      | bx _ _=>simp [E5] at hx
    | dead=>simp [E5] at hx
    | nilS=>simp [E5] at hx
    | pa _ _=>simp [E5] at hx
    | dp _ _=>simp [E5] at hx
    | fn _=>simp [E5] at hx
    | und=>simp [E5] at hx
    | ne e2 =>
      simp only [E5,Option.some.injEq] at hx
      cases hx
      obtain ⟨a0,cap,hv⟩:=h.rel
      exact ⟨some a0,cap,hv,fun hm=>absurd rfl hm⟩
    | cut _ _ _=>simp [E5] at hx
    | vw _ _ _=>simp [E5] at hx
    | vp _ _ _=>simp [E5] at hx
    | ps _ _=>simp [E5] at hx
    | pq _ _=>simp [E5] at hx
theorem run_append_zero{t e:TypeId}{i:TypeInfo}(ht:P.underlying t=some (.slice e))(hi:P.info? e=some i)(ty:TypeId)(b:Option Addr)(n cap:Nat)(hn:n≤cap)(ao:Option Addr)(c:Nat) :
    (Builtin.append_ #[t,t] ty #[.slice b n cap,.slice ao 0 c]).run P w=.ok (.slice b n cap) w:=by
  cases ao <;> cases b <;> simp [Builtin.append_,run_underlying ht,sizeOf,typeInfo,hi,Builtin.lenOf,Builtin.firstCells,hn,storeCells,loadCells,loadCellsFrom]
theorem A5S{t t' e e':TypeId}(h:P.underlying t=some (.slice e))(h':P.underlying t'=some (.slice e'))(ty:TypeId)(v1 v2:Value) :
    (Builtin.append_ #[t,t'] ty #[v1,v2]).run P w=(Builtin.append_ #[t,t] ty #[v1,v2]).run P w:=by
  cases v1 <;> simp [Builtin.append_,run_underlying h,run_underlying h']
theorem B2t(hcf:T3 P cx){t t':TypeId}(hsl:C3I cx t'=true){x y:Operand}{i:Nat}{e:Ty}{tid:Nat}{l m:List e.den}{rt r:TyRow}(hd:F9 fr.n o.dst=true)(ho:o.op=.call { callee:=.builtin .append,args:=#[x,y],argTypes:=#[t,t'] })
    (hx:arg x=(.one (.own i),.sl e tid l)) (hy:E5 (arg y)=some ⟨.slice e,m⟩) (hrt:cx.row? t=some rt) (hr:cx.row? tid=some r) (h1:rt.ty=.slice e) (h2:r.ty=e) (h3:rt.elem=tid) (hroom:K3 (l.length+m.length) r.bytes=true) :
    N1 P fr arg o { rep:=[(i,.dead)],objs:=[(i,.sl e tid (l++m))],val:=.one (.own i) }:=by
  intro M ρ s a w Q g ha
  have ax:=g.arg' ((ha x (by rw [ho]; simp [Op.operands,Call.operands])).trans hx)
  have ay:=g.arg' (ha y (by rw [ho]; simp [Op.operands,Call.operands]))
  obtain ⟨hu,_⟩:=S2 hcf hrt h1
  rw [h3] at hu
  obtain ⟨ti,z,hi,hs,hby,hz,hzc⟩:=(hcf _ _ hr).info
  subst h2
  have hroom':(l.length+m.length)*r.bytes≤140737488355328∧l.length+m.length≤281474976710656:=of_decide_eq_true hroom
  have hmax:l.length+m.length≤maxLen:=by unfold maxLen; omega
  obtain ⟨e2,t2,l2,ho1,hv⟩:=ax.rel
  have ho2:=ax.obj i rfl
  rw [ho1] at ho2; cases ho2
  obtain ⟨ao,c,hvy,hsrc⟩:=ay.source g hy
  have hob:=g.objs i
  rw [ho1] at hob
  have hnn:∀ x cs,E8 M r.ty x cs→cs.length=r.ty.sz:=fun x cs k=>k.length
  have hlive:s.obj i≠.gone:=by rw [ho1]; simp
  -- what is left to show
  have finish:∀ (pl:Place) (w':World),(execOp a.eval o).run P w=.ok (.value (pl.slice (l++m).length)) w'→Since (fun b=>(ρ i).blk=some b∧s.obj i≠.gone) w w' →
      P9 M w' pl (.sl r.ty tid (l++m))→(∀ b,pl.blk=some b→M b=none∧b < w'.heap.size∧(w.heap.size≤b∨((ρ i).blk=some b∧s.obj i≠.gone))) →
      o.wp P a w (fun a' w'=>∃ M' ρ',Good fr M' ρ' (({ rep:=[(i,.dead)],objs:=[(i,.sl r.ty tid (l++m))],val:=.one (.own i) }:Eff).app o.dst s) a' w') Q:=by
    intro pl w' hrun hsi hat hpl
    refine G4 hrun ⟨M,_,g.obj1 hd (.refl M) (g.mem.since hsi fun b ob hm hb=>?_) hsi (fun _ _ _=>rfl) hat (fun b _ hb=>hpl b hb) (fun mv v hmi hm=>?_) (fun mv hm=>MV.repl_other hm) ?_⟩
    · rw [g.own_none hb] at hm; cases hm
    · rw [MV.reps_one]
      cases mv <;> simp [MV.id?] at hmi
      all_goals subst hmi; simp [MV.repl,X2]
    · exact ⟨r.ty,tid,l++m,by simp,by simp [Place.upd]⟩
  have hexec:∀ v1 v2,a.eval x=v1→a.eval y=v2→∀ v w',(Builtin.append_ #[t,t] o.type #[v1,v2]).run P w=.ok v w'→(execOp a.eval o).run P w=.ok (.value v) w':=by
    intro v1 v2 e1 e2 v w' hh
    obtain ⟨e',hu'⟩:=A7w hcf hsl
    rw [← A5S (w:=w) hu hu' o.type v1 v2] at hh
    simp [execOp,ho,resolve,invoke,builtin,e1,e2,hh]
  by_cases hm:m=[]
  · subst hm
    have hrun:∀ b n cap,a.eval x=.slice b n cap→n≤cap→(execOp a.eval o).run P w=.ok (.value (.slice b n cap)) w:=fun b n cap e1 hn =>
      hexec _ _ e1 hvy _ _ (run_append_zero hu hi o.type b n cap hn ao c)
    cases hp:ρ i with
    | no =>
      rw [hp] at hv hob
      have hl:l=[]:=hob
      subst hl
      exact finish .no w (hrun _ _ _ hv (Nat.le_refl _)) (.refl _ w) rfl (fun b hb=>by cases hb)
    | «at» b cap =>
      rw [hp] at hv
      have hob':=hob
      rw [hp] at hob
      have hblk:(ρ i).blk=some b:=by rw [hp]; rfl
      refine finish (.at b cap) w ?_ (.refl _ w) (by simpa [hp] using hob') (fun b' hb=>?_)
      · have:=hrun _ _ _ hv hob.1
        simpa [Place.slice] using this
      · cases hb
        exact ⟨g.own_none ⟨hblk,hlive⟩,(g.apart i b hlive hblk).2.1,.inr ⟨hblk,hlive⟩⟩
  · obtain ⟨ad,news,hao,hf,hcell⟩:=hsrc hm
    have hlen:=E3.length hnn hf
    rw [hao] at hvy
    have hone:=hf.oneCell
    have hms:0 < m.length:=List.length_pos_iff.2 hm
    have hzs:z.cells.size=r.ty.sz:=by rw [← Array.length_toList,hzc,(E8.zero M r.ty).length]
    -- a new row
    have grown:∀ (old:Nat) (olds:List Value),E3 (E8 M r.ty) l olds→old < l.length+m.length →
        (execOp a.eval o).run P w=.ok (.value (.slice (some ⟨w.heap.size,0,none⟩) (l.length+m.length) (grownCap w (l.length+m.length) old tid))) (w.drew.alloc (.cells (olds.toArray++news.toArray++Builtin.zeroCells z.cells (grownCap w (l.length+m.length) old tid - (l.length+m.length))) tid)) →
        o.wp P a w (fun a' w'=>∃ M' ρ',Good fr M' ρ' (({ rep:=[(i,.dead)],objs:=[(i,.sl r.ty tid (l++m))],val:=.one (.own i) }:Eff).app o.dst s) a' w') Q:=by
      intro old olds holds hold hrun
      have hge:=grownCap_ge w (l.length+m.length) old tid
      have hcm:grownCap w (l.length+m.length) old tid≤maxLen:=grownCap_le_maxLen w (l.length+m.length) old tid hmax
      have hol:=E3.length hnn holds
      have hsi:Since (fun _=>False) w (w.drew.alloc (.cells (olds.toArray++news.toArray++Builtin.zeroCells z.cells (grownCap w (l.length+m.length) old tid - (l.length+m.length))) tid)):=by
        have:=N3 w.drew (.cells (olds.toArray++news.toArray++Builtin.zeroCells z.cells (grownCap w (l.length+m.length) old tid - (l.length+m.length))) tid)
        exact ⟨this.os,this.tape,this.output,this.size,this.block⟩
      refine finish (.at w.heap.size (grownCap w (l.length+m.length) old tid)) _ (by simpa [Place.slice] using hrun) ⟨hsi.os,hsi.tape,hsi.output,hsi.size,fun b hb _=>hsi.block b hb fun h=>h⟩
        ⟨by simpa using hge,hcm,_,heap_alloc_new w.drew _,?_,olds++news,holds.append hf,?_⟩ (fun b hb=>?_)
      · simp only [Array.size_append,List.size_toArray,size_zeroCells,hzs,hol,hlen,← Nat.add_mul]
        congr 1; omega
      · simp only [Array.toList_append]
        exact List.take_left
      · cases hb
        refine ⟨?_,by simp,.inl (Nat.le_refl _)⟩
        cases hmm:M w.heap.size with
        | none=>rfl
        | some ob=>have:=(Array.getElem?_eq_some_iff.1 (g.mem _ _ hmm)).1; omega
    cases hp:ρ i with
    | no =>
      rw [hp] at hv hob
      have hl:l=[]:=hob
      subst hl
      have hr0:=run_append_nil (P:=P) w t o.type tid ti z hu hi hz ad m.length c news (by rw [hlen,hs]) hcell hms (by have:=hroom'.2; simp at this; omega) (by rw [hby]; have:=hroom'.1; simp at this; omega)
      refine grown 0 [] rfl (by simpa using hms) ?_
      have:=hexec _ _ hv hvy _ _ hr0
      simpa using this
    | «at» b cap =>
      rw [hp] at hv hob
      obtain ⟨k1,k2,cur,k3,k4,cs,k5,k6⟩:=hob
      have hcl:=E3.length hnn k5
      have hblk:(ρ i).blk=some b:=by rw [hp]; rfl
      by_cases hfit:l.length+m.length≤cap
      · have hsz:l.length*ti.size+news.length≤cur.size:=by rw [hs,hlen,k4,← Nat.add_mul]; exact Nat.mul_le_mul_right _ hfit
        have hr0:=run_append_room (P:=P) w t o.type tid ti hu hi b l.length cap cur k3 ad m.length c news (by rw [hlen,hs]) hcell hone hfit hsz
        have hrun:=hexec _ _ hv hvy _ _ hr0
        have hsr:=T4 (b:=b) (cs:=(cur.toList.take (l.length*ti.size)++news++cur.toList.drop (l.length*ti.size+news.length)).toArray) w
        refine finish (.at b cap) _ (by simpa [Place.slice] using hrun) ⟨hsr.os,hsr.tape,hsr.output,hsr.size,fun k hk hn=>hsr.block k hk fun e3=>hn ⟨by rw [hblk,e3],hlive⟩⟩
          ⟨by simpa using hfit,k2,_,setRow_heap w b cur _ tid _ k3,?_,cs++news,k5.append hf,?_⟩ (fun b' hb=>?_)
        · have:=hsz
          simp only [List.size_toArray,List.length_append,List.length_take,List.length_drop,Array.length_toList]
          omega
        · have e1:cur.toList.take (l.length*ti.size)=cs:=by rw [hs,← hcl]; exact k6
          rw [e1]
          exact List.take_left
        · cases hb
          exact ⟨g.own_none ⟨hblk,hlive⟩,by simpa using (Array.getElem?_eq_some_iff.1 k3).1,.inr ⟨hblk,hlive⟩⟩
      · have holds:∀ j v,cs[j]?=some v→w.cell? ((⟨b,0,none⟩:Addr).add j)=some v:=by
          intro j v hj
          rw [G8,cell_of_row w b _ cur tid (0,0) k3]
          have hlt:j < cs.length:=(List.getElem?_eq_some_iff.1 hj).1
          rw [← k6,List.getElem?_take,if_pos hlt] at hj
          simpa using hj
        have hr0:=run_append_grow (P:=P) w t o.type tid ti z hu hi hz ⟨b,0,none⟩ l.length cap cs (by rw [hcl,hs]) holds ad m.length c news (by rw [hlen,hs]) hcell (by omega) (by have:=hroom'.2; omega)
          (growslice_fits (by omega) (by rw [hby]; exact hroom'.1))
        exact grown cap cs k5 (by omega) (hexec _ _ hv hvy _ _ hr0)
theorem B4W(hcf:T3 P cx){T:TypeId}{x:Operand}{hi:Option Operand}{i:Nat}{e:Ty}{tid:Nat}{l:List e.den}{r:TyRow}(hd:F9 fr.n o.dst=true)(ho:o.op=.slice T x none hi none)(hr:cx.row? T=some r)(ht:r.ty=.slice e)
    (hx:arg x=(.one (.own i),.sl e tid l)) (h:B9I KE (hi.map arg) i e tid l=some res):∃ E,KE E=some res∧N1 P fr arg o E:=by
  unfold B9I at h
  split at h
  rotate_left
  · cases h
  rename_i k n ob hn
  change Int at n
  cases hi with
  | none=>cases hn
  | some y =>
  simp only [Option.map_some,Option.some.injEq] at hn
  replace h:(bif A29 0 n l.length then KE { rep:=[(i,.dead)],objs:=[(i,.sl e tid (N9 l n))],val:=.one (.own i) } else none)=some res:=h
  cases hc:A29 0 n l.length <;> rw [hc] at h <;> simp only [cond_true,cond_false,reduceCtorEq] at h
  have hc':(0:Int)≤0∧0≤n∧n≤(l.length:Int):=of_decide_eq_true hc
  refine ⟨_,h,fun M ρ s a w Q g ha=>?_⟩
  have ax:=g.arg' ((ha x (by rw [ho]; simp [Op.operands])).trans hx)
  have ay:=(g.arg' ((ha y (by rw [ho]; simp [Op.operands])).trans hn)).int
  obtain ⟨e2,t2,l2,ho1,hv⟩:=ax.rel
  have ho2:=ax.obj i rfl
  rw [ho1] at ho2; cases ho2
  have hob:=g.objs i
  rw [ho1] at hob
  have hlive:s.obj i≠.gone:=by rw [ho1]; simp
  obtain ⟨j,rfl⟩:∃ j:Nat,n=(j:Int):=⟨n.toNat,by omega⟩
  have hj:j≤l.length:=by omega
  have htl:N9 l (j:Int)=l.take j:=by simp [N9]
  have hnn:∀ x cs,E8 M e x cs→cs.length=e.sz:=fun x cs k=>k.length
  have finish:(execOp a.eval o).run P w=.ok (.value ((ρ i).slice (l.take j).length)) w→P9 M w (ρ i) (.sl e tid (l.take j)) →
      o.wp P a w (fun a' w'=>∃ M' ρ',Good fr M' ρ' (({ rep:=[(i,.dead)],objs:=[(i,.sl e tid (N9 l (j:Int)))],val:=.one (.own i) }:Eff).app o.dst s) a' w') Q:=by
    intro hrun hat
    rw [htl]
    refine G4 hrun ⟨M,_,g.obj1 hd (.refl M) g.mem (.refl _ w) (fun _ _ _=>rfl) hat (fun b _ hb=>?_) (fun mv v hmi hm=>?_) (fun mv hm=>MV.repl_other hm) ?_⟩
    · exact ⟨g.own_none ⟨hb,hlive⟩,(g.apart i b hlive hb).2.1,.inr ⟨hb,hlive⟩⟩
    · rw [MV.reps_one]
      cases mv <;> simp [MV.id?] at hmi
      all_goals subst hmi; simp [MV.repl,X2]
    · exact ⟨e,tid,l.take j,by simp,by simp [Place.upd]⟩
  have hlen:(l.take j).length=j:=by simp; omega
  have hexec:∀ v,a.eval x=v→(execOp a.eval o).run P w=((Instr.sliceAt T v none (some (.int k (j:Int))) none).run P w).andThen fun v w'=>.ok (.value v) w':=by
    intro v hv
    simp [execOp,ho,hv,ay]
  cases hp:ρ i with
  | no =>
    rw [hp] at hv hob
    have hl:l=[]:=hob
    subst hl
    have hj0:j=0:=by simpa using hj
    subst hj0
    refine finish ?_ (by rw [hp]; simp [P9])
    rw [hexec _ hv]
    have:=A1e (P:=P) (w:=w) (re:=r) hcf hr ht (ao:=none) (n:=0) (cap:=0) (i:=0) (j:=0) (lo:=none) (hi:=some (.int k ((0:Nat):Int))) (Nat.le_refl _) (Nat.le_refl _) (Nat.le_refl _) rfl ⟨k,rfl⟩
    simp only [Place.slice,List.length_nil] at this ⊢
    rw [this]
    simp [hp]
  | «at» b cap =>
    have hob':=hob
    rw [hp] at hv hob
    obtain ⟨h1,h2,cur,h3,h4,cs,h5,h6⟩:=hob
    refine finish ?_ ?_
    · rw [hexec _ hv,Place.slice]
      have:=A1e (P:=P) (w:=w) (re:=r) hcf hr ht (ao:=some ⟨b,0,none⟩) (n:=l.length) (cap:=cap) (i:=0) (j:=j) (lo:=none) (hi:=some (.int k (j:Int))) (Nat.zero_le _) hj h1 rfl ⟨k,rfl⟩
      rw [this,hp,hlen]
      simp [Place.slice,G8]
    · rw [hp]
      refine ⟨by rw [hlen]; omega,h2,cur,h3,h4,_,h5.take hnn j hj,?_⟩
      have hl:=E3.length hnn h5
      have hle:j*e.sz≤cs.length:=by rw [hl]; exact Nat.mul_le_mul_right _ hj
      rw [List.length_take,Nat.min_eq_left hle,← h6,List.take_take]
      rw [Nat.min_eq_left hle]
theorem B8v(hcf:T3 P cx){T:TypeId}{x:Operand}{lo hi:Option Operand}{i:Nat}{e:Ty}{tid:Nat}{l:List e.den}{r:TyRow}(hd:F9 fr.n o.dst=true)(ho:o.op=.slice T x lo hi none)(hr:cx.row? T=some r)(ht:r.ty=.slice e)
    (hx:arg x=(.one (.own i),.sl e tid l)) (h:C7m KE (lo.map arg) (hi.map arg) i l.length=some res):∃ E,KE E=some res∧N1 P fr arg o E:=by
  have main:∀ (p q:Nat),p≤q→q≤l.length→(∀ (M:Mem) (ρ:Nat→Place) (s:St) (a:Act) (w:World),Good fr M ρ s a w→(∀ x∈o.op.operands,s.arg x=arg x)→A5j (lo.map a.eval) 0 p∧A5j (hi.map a.eval) l.length q)→N1 P fr arg o (one (.cut i p q)):=by
    intro p q hpq hq hb
    refine N1.of_value hd (fun M ρ s a w g ha=>?_) rfl rfl
    have ax:=g.arg' ((ha x (by rw [ho]; simp [Op.operands])).trans hx)
    obtain ⟨e2,t2,l2,ho1,hv⟩:=ax.rel
    have ho2:=ax.obj i rfl
    rw [ho1] at ho2; cases ho2
    have hob:=g.objs i
    rw [ho1] at hob
    obtain ⟨b1,b2⟩:=hb M ρ s a w g ha
    refine ⟨(ρ i).cut e.sz p q,?_,⟨e,tid,l,ho1,hpq,hq,rfl⟩⟩
    cases hp:ρ i with
    | no =>
      rw [hp] at hv hob
      have hl:l=[]:=hob
      subst hl
      have hq0:q=0:=by simpa using hq
      subst hq0
      have hp0:p=0:=by omega
      subst hp0
      have:=A1e (P:=P) (w:=w) (re:=r) hcf hr ht (ao:=none) (n:=0) (cap:=0) (i:=0) (j:=0) (lo:=lo.map a.eval) (hi:=hi.map a.eval) (Nat.le_refl _) (Nat.le_refl _) (Nat.le_refl _) b1 b2
      simp only [execOp,ho,hv,Place.slice,List.length_nil,Option.map_none]
      simp [this,Place.cut]
    | «at» b cap =>
      rw [hp] at hv hob
      obtain ⟨h1,h2,cur,h3,h4,cs,h5,h6⟩:=hob
      have:=A1e (P:=P) (w:=w) (re:=r) hcf hr ht (ao:=some ⟨b,0,none⟩) (n:=l.length) (cap:=cap) (i:=p) (j:=q) (lo:=lo.map a.eval) (hi:=hi.map a.eval) hpq hq h1 b1 b2
      simp only [execOp,ho,hv,Place.slice,Option.map_none]
      simp [this,Place.cut,G8]
  unfold C7m at h
  split at h
  · rename_i k n ob hlo hhi
    change Int at n
    cases hi with
    | some _=>cases hhi
    | none =>
    cases lo with
    | none=>cases hlo
    | some y =>
    simp only [Option.map_some,Option.some.injEq] at hlo
    replace h:(bif A29 n l.length l.length then KE (one (.cut i n.toNat l.length)) else none)=some res:=h
    cases hc:A29 n l.length l.length <;> rw [hc] at h <;> simp only [cond_true,cond_false,reduceCtorEq] at h
    have hc':0≤n∧n≤(l.length:Int)∧(l.length:Int)≤(l.length:Int):=of_decide_eq_true hc
    refine ⟨_,h,main n.toNat l.length (by omega) (Nat.le_refl _) fun M ρ s a w g ha=>⟨⟨k,?_⟩,rfl⟩⟩
    have:=(g.arg' ((ha y (by rw [ho]; simp [Op.operands])).trans hlo)).int
    rw [this]
    congr 1; omega
  · rename_i k n ob hlo hhi
    change Int at n
    cases lo with
    | some _=>cases hlo
    | none =>
    cases hi with
    | none=>cases hhi
    | some y =>
    simp only [Option.map_some,Option.some.injEq] at hhi
    replace h:(bif A29 0 n l.length then KE (one (.cut i 0 n.toNat)) else none)=some res:=h
    cases hc:A29 0 n l.length <;> rw [hc] at h <;> simp only [cond_true,cond_false,reduceCtorEq] at h
    have hc':(0:Int)≤0∧0≤n∧n≤(l.length:Int):=of_decide_eq_true hc
    refine ⟨_,h,main 0 n.toNat (by omega) (by omega) fun M ρ s a w g ha=>⟨rfl,⟨k,?_⟩⟩⟩
    have:=(g.arg' ((ha y (by rw [ho]; simp [Op.operands])).trans hhi)).int
    rw [this]
    congr 1; omega
  · cases h
theorem B4X(hcf:T3 P cx){t t':TypeId}(hsl:C3I cx t'=true){x y:Operand}{i:Nat}{e:Ty}{tid:Nat}{l:List e.den}{b c d:Nat}{ob:MObj}{rt r:TyRow}(hd:F9 fr.n o.dst=true)(ho:o.op=.call { callee:=.builtin .append,args:=#[x,y],argTypes:=#[t,t'] })
    (hx:arg x=(.one (.cut i 0 b),.sl e tid l)) (hy:arg y=(.one (.cut i c d),ob)) (hrt:cx.row? t=some rt) (hr:cx.row? tid=some r) (h1:rt.ty=.slice e) (h2:r.ty=e) (h3:rt.elem=tid) (hfit0:b+(d - c)≤l.length) :
    N1 P fr arg o { rep:=[(i,.dead)],objs:=[(i,.sl e tid (l.take b++(l.take d).drop c))],val:=.one (.own i) }:=by
  intro M ρ s a w Q g ha
  have ax:=g.arg' ((ha x (by rw [ho]; simp [Op.operands,Call.operands])).trans hx)
  have ay:=g.arg' ((ha y (by rw [ho]; simp [Op.operands,Call.operands])).trans hy)
  obtain ⟨hu,_⟩:=S2 hcf hrt h1
  rw [h3] at hu
  obtain ⟨ti,z,hi,hs,hby,hz,hzc⟩:=(hcf _ _ hr).info
  subst h2
  obtain ⟨e2,t2,l2,ho1,_,hbl,hv⟩:=ax.rel
  have ho2:=ax.obj i rfl
  rw [ho1] at ho2; cases ho2
  obtain ⟨e3,t3,l3,ho3,hcd,hdl,hvy⟩:=ay.rel
  rw [ho1] at ho3; cases ho3
  have hob:=g.objs i
  rw [ho1] at hob
  have hnn:∀ x cs,E8 M r.ty x cs→cs.length=r.ty.sz:=fun x cs k=>k.length
  have hlive:s.obj i≠.gone:=by rw [ho1]; simp
  have hlen0:(l.take b++(l.take d).drop c).length=b+(d - c):=by simp; omega
  have finish:∀ (w':World),(execOp a.eval o).run P w=.ok (.value ((ρ i).slice (b+(d - c)))) w'→Since (fun b=>(ρ i).blk=some b∧s.obj i≠.gone) w w'→P9 M w' (ρ i) (.sl r.ty tid (l.take b++(l.take d).drop c)) →
      o.wp P a w (fun a' w'=>∃ M' ρ',Good fr M' ρ' (({ rep:=[(i,.dead)],objs:=[(i,.sl r.ty tid (l.take b++(l.take d).drop c))],val:=.one (.own i) }:Eff).app o.dst s) a' w') Q:=by
    intro w' hrun hsi hat
    refine G4 hrun ⟨M,_,g.obj1 hd (.refl M) (g.mem.since hsi fun b ob hm hb=>?_) hsi (fun _ _ _=>rfl) hat (fun b _ hb=>?_) (fun mv v hmi hm=>?_) (fun mv hm=>MV.repl_other hm) ?_⟩
    · rw [g.own_none hb] at hm; cases hm
    · exact ⟨g.own_none ⟨hb,hlive⟩,Nat.lt_of_lt_of_le (g.apart i b hlive hb).2.1 hsi.size,.inr ⟨hb,hlive⟩⟩
    · rw [MV.reps_one]
      cases mv <;> simp [MV.id?] at hmi
      all_goals subst hmi; simp [MV.repl,X2]
    · exact ⟨r.ty,tid,l.take b++(l.take d).drop c,by simp,by rw [hlen0]; simp [Place.upd]⟩
  have hexec:∀ v1 v2,a.eval x=v1→a.eval y=v2→∀ v w',(Builtin.append_ #[t,t] o.type #[v1,v2]).run P w=.ok v w'→(execOp a.eval o).run P w=.ok (.value v) w':=by
    intro v1 v2 e1 e2 v w' hh
    obtain ⟨e',hu'⟩:=A7w hcf hsl
    rw [← A5S (w:=w) hu hu' o.type v1 v2] at hh
    simp [execOp,ho,resolve,invoke,builtin,e1,e2,hh]
  cases hp:ρ i with
  | no =>
    rw [hp] at hv hvy hob
    have hl:l=[]:=hob
    subst hl
    simp only [List.length_nil,Nat.le_zero] at hbl hdl
    subst hdl
    have hc0:c=0:=by omega
    subst hbl; subst hc0
    have:=hexec _ _ hv hvy _ _ (by simpa [Place.cut] using run_append_zero (P:=P) (w:=w) hu hi o.type none 0 0 (Nat.le_refl _) none 0)
    refine finish w (by simpa [hp,Place.slice] using this) (.refl _ w) (by rw [hp]; simp [P9])
  | «at» bb cap =>
    rw [hp] at hv hvy hob
    obtain ⟨k1,k2,cur,k3,k4,cs,k5,k6⟩:=hob
    have hcl:=E3.length hnn k5
    have hblk:(ρ i).blk=some bb:=by rw [hp]; rfl
    have hvx:a.eval x=.slice (some ⟨bb,0,none⟩) b cap:=by rw [hv]; simp [Place.cut]
    have hcap:b+(d - c)≤cap:=by omega
    have hnews:=(k5.take hnn d hdl).drop hnn c (by simp; omega)
    have hnl:((cs.take (d*r.ty.sz)).drop (c*r.ty.sz)).length=(d - c)*ti.size:=by
      rw [E3.length hnn hnews,hs,List.length_drop,List.length_take,Nat.min_eq_left hdl]
    have hpre:=k5.take hnn b hbl
    have hprl:(cs.take (b*r.ty.sz)).length=b*r.ty.sz:=by
      rw [List.length_take,hcl]; exact Nat.min_eq_left (Nat.mul_le_mul_right _ hbl)
    have hcur:cur.toList.take (b*ti.size)=cs.take (b*r.ty.sz):=by
      rw [hs]
      conv=>rhs; rw [← k6]
      rw [List.take_take,Nat.min_eq_left]
      rw [hcl]; exact Nat.mul_le_mul_right _ hbl
    by_cases hz0:d - c=0
    · have hrun:=hexec _ _ hvx hvy _ _ (by simpa [Place.cut,hz0] using run_append_zero (P:=P) (w:=w) hu hi o.type (some ⟨bb,0,none⟩) b cap (by omega) (if cap=c then some ⟨bb,0,none⟩ else some ⟨bb,c*r.ty.sz,none⟩) (cap - c))
      refine finish w (by rw [hp,hz0]; simpa [Place.slice] using hrun) (.refl _ w) ?_
      rw [hp]
      have e0:l.take b++(l.take d).drop c=l.take b:=by
        have:(l.take d).drop c=[]:=List.eq_nil_of_length_eq_zero (by simp; omega)
        rw [this,List.append_nil]
      rw [e0]
      refine ⟨by rw [List.length_take]; omega,k2,cur,k3,k4,_,hpre,?_⟩
      rw [hprl,← hs,hcur,hs]
    · have hcc:¬ cap=c:=by omega
      have hvy':a.eval y=.slice (some ⟨bb,c*r.ty.sz,none⟩) (d - c) (cap - c):=by rw [hvy]; simp [Place.cut,hcc]
      have hcell:∀ j u,((cs.take (d*r.ty.sz)).drop (c*r.ty.sz))[j]?=some u→w.cell? ((⟨bb,c*r.ty.sz,none⟩:Addr).add j)=some u:=by
        intro j u hj
        rw [G8,cell_of_row w bb _ cur tid (0,0) k3]
        rw [List.getElem?_drop,List.getElem?_take] at hj
        split at hj
        · rw [← k6,List.getElem?_take] at hj
          split at hj
          · simpa using hj
          · cases hj
        · cases hj
      have hsz:b*ti.size+((cs.take (d*r.ty.sz)).drop (c*r.ty.sz)).length≤cur.size:=by
        rw [hnl,hs,k4,← Nat.add_mul]; exact Nat.mul_le_mul_right _ hcap
      have hr0:=run_append_room (P:=P) w t o.type tid ti hu hi bb b cap cur k3 ⟨bb,c*r.ty.sz,none⟩ (d - c) (cap - c) _ hnl hcell hnews.oneCell hcap hsz
      have hrun:=hexec _ _ hvx hvy' _ _ hr0
      have hsr:=T4 (b:=bb) (cs:=(cur.toList.take (b*ti.size)++((cs.take (d*r.ty.sz)).drop (c*r.ty.sz))++cur.toList.drop (b*ti.size+((cs.take (d*r.ty.sz)).drop (c*r.ty.sz)).length)).toArray) w
      refine finish _ (by rw [hp]; simpa [Place.slice] using hrun) ⟨hsr.os,hsr.tape,hsr.output,hsr.size,fun k hk hn=>hsr.block k hk fun e3=>hn ⟨by rw [hblk,e3],hlive⟩⟩ ?_
      rw [hp]
      refine ⟨by rw [hlen0]; omega,k2,_,setRow_heap w bb cur _ tid _ k3,?_,_,hpre.append hnews,?_⟩
      · have:=hsz
        simp only [List.size_toArray,List.length_append,List.length_take,List.length_drop,Array.length_toList] at this ⊢
        omega
      · rw [hcur]
        exact List.take_left
theorem C09(hcf:T3 P cx){T:TypeId}{x:Operand}{lo hi:Option Operand}{i:Nat}{p:List Step}{ob:MObj}{r:TyRow}(hd:F9 fr.n o.dst=true)(ho:o.op=.slice T x lo hi none)(hr:cx.row? T=some r)
    (hx:arg x=(.one (.pa i p),ob)) (h:D4D KE (lo.isNone && hi.isNone) r.ty i p ob=some res):∃ E,KE E=some res∧N1 P fr arg o E:=by
  unfold D4D at h
  split at h
  rotate_left
  · cases h
  rename_i n e hty
  split at h
  rotate_left
  · cases h
  rename_i t' y hg
  cases hw:(lo.isNone && hi.isNone) <;> rw [hw] at h <;> simp only [cond_true,cond_false,reduceCtorEq] at h
  simp only [Bool.and_eq_true,Option.isNone_iff_eq_none] at hw
  obtain ⟨rfl,rfl⟩:=hw
  obtain ⟨he,h⟩:=A4b h
  subst he
  refine ⟨_,h,fun M ρ s a w Q g ha=>?_⟩
  obtain ⟨te,hu,re,hre,hee⟩:=A2P hcf hr hty
  obtain ⟨b,cap,t2,cur,el,hρ,hk,hty2,hv,hob,hb,hat⟩:=g.ptr (g.arg' ((ha x (by rw [ho]; simp [Op.operands])).trans hx))
  obtain ⟨cur2,e2,cs,hb2,hf,hc⟩:=hat.get hk hg
  have hlive:s.obj i≠.gone:=by rw [hob]; intro e0; rw [e0] at hk; exact hk.elim
  have hblk:(ρ i).blk=some b:=by rw [hρ]; rfl
  have hMb:M b=none:=g.own_none ⟨hblk,hlive⟩
  have hle:=Mem.le_add (o:=w.heap[b]?) hMb
  have hlen:List.length y=n:=hf.1
  have hrun:(execOp a.eval o).run P w=.ok (.value (.slice (some ⟨b,A4y ob p,none⟩) n n)) w:=by
    simp only [execOp,ho,hv,Option.map_none]
    simp [Instr.sliceAt,run_underlying hu,Instr.sureAddr,asAddr,Instr.sliceBounds,F6 hcf hre,G8]
  refine G4 hrun ⟨M.add b w.heap[b]?,ρ,?_⟩
  have G:=g.obj1 (dst:=o.dst) hd (i:=i) (o:=.gone) (pl:=ρ i) (M':=M.add b w.heap[b]?) (w':=w) (rep:=[(i,.dead)]) (v:=.slice (some ⟨b,A4y ob p,none⟩) n n) (sv:=.one (.d (.slice e) y)) hle
    (fun k ob' hk'=>by
      unfold Mem.add at hk'
      split at hk'
      · rename_i e0; rw [e0]; exact hk'
      · exact g.mem k ob' hk') (.refl _ w)
    (fun k _ hk'=>by
      unfold Mem.add
      rw [if_neg]
      intro e0
      rcases hk' with hk' | hk'
      · exact hk' (by rw [e0]; exact hblk)
      · exact hlive hk')
    (by cases ρ i <;> trivial) (fun b h _=>absurd rfl h)
    (fun m v' hmi hm'=>by
      rw [Place.upd_self,MV.reps_one]
      cases m <;> simp [MV.id?] at hmi
      all_goals
        subst hmi
        simp [MV.repl,X2])
    (fun m hm'=>MV.repl_other hm')
    (by
      refine ⟨[_],⟨_,rfl,some ⟨b,A4y ob p,none⟩,n,by rw [hlen],by rw [hlen]; exact Nat.le_refl _,(fun h=>(by cases h)),(fun _=>⟨b,A4y ob p,cur2,e2,(0,0),rfl,?_,cs,hf.2.mono (fun _ _ k=>k.mono hle),hc⟩)⟩,by simp [C8,Ty.isAgg]⟩
      unfold Mem.add; rw [if_pos rfl]; exact hb2)
  rw [Place.upd_self] at G
  exact G
theorem B8w(hcf:T3 P cx){T:TypeId}{r:TyRow}{m:Nat}{e:Ty}(hr:cx.row? T=some r)(ht:r.ty=.arr m e){ad:Addr}{i j:Nat}(hij:i≤j)(hjn:j≤m){lo hi:Option Value}
    (hlo:A5j lo 0 i) (hhi:A5j hi m j) :
    (Instr.sliceAt T (.pointer (some ad)) lo hi none).run P w=.ok (.slice (if m=i then some ad else some (ad.add (i*e.sz))) (j - i) (m - i)) w:=by
  obtain ⟨te,hu,re,hre,hee⟩:=A2P hcf hr ht
  unfold Instr.sliceAt
  have hb:∀ (k:IntKind) (q y:Nat) (c:BoundsCode),q≤y→(Instr.sliceBound (.int k (q:Int)) y c).run P w=.ok q w:=by
    intro k q y c hq
    unfold Instr.sliceBound
    simp [asIntOf]
    intro h; omega
  simp only [Sem.run_bind,run_underlying hu,Result.andThen_ok,Instr.sureAddr,asAddr,Instr.sliceBounds,Sem.run_pure]
  cases lo with
  | none =>
    cases hi with
    | none =>
      have e1:i=0:=hlo
      have e2:j=m:=hhi
      subst e1; subst e2
      simp [F6 hcf hre,hee]
      try (split <;> rfl)
    | some x =>
      have e1:i=0:=hlo
      obtain ⟨k,rfl⟩:=hhi
      subst e1
      simp [F6 hcf hre,hee,hb k j m _ (by omega)]
      try (split <;> rfl)
  | some y =>
    obtain ⟨k,rfl⟩:=hlo
    cases hi with
    | none =>
      have e2:j=m:=hhi
      subst e2
      simp [F6 hcf hre,hee,hb k i j _ hij]
      try (split <;> rfl)
    | some x =>
      obtain ⟨k',rfl⟩:=hhi
      simp [F6 hcf hre,hee,hb k' j m _ (by omega),hb k i j _ hij]
      try (split <;> rfl)
theorem B8x(hcf:T3 P cx){T:TypeId}{x:Operand}{lo hi:Option Operand}{i:Nat}{p:List Step}{ob:MObj}{r:TyRow}(hd:F9 fr.n o.dst=true)(ho:o.op=.slice T x lo hi none)(hr:cx.row? T=some r)
    (hx:arg x=(.one (.pa i p),ob)) (h:C7n KE (lo.map arg) (hi.map arg) r.ty i p ob=some res):∃ E,KE E=some res∧N1 P fr arg o E:=by
  unfold C7n at h
  split at h
  rotate_left
  · cases h
  rename_i n e y
  cases hT:decide (r.ty=.arr n e) <;> rw [hT] at h <;> simp only [cond_true,cond_false,reduceCtorEq] at h
  have hty:r.ty=.arr n e:=of_decide_eq_true hT
  have main:∀ (p q:Nat),p≤q→q≤n→p < n→(∀ (M:Mem) (ρ:Nat→Place) (s:St) (a:Act) (w:World),Good fr M ρ s a w→(∀ x∈o.op.operands,s.arg x=arg x)→A5j (lo.map a.eval) 0 p∧A5j (hi.map a.eval) n q)→N1 P fr arg o (one (.vw i p q)):=by
    intro p q hpq hq hpn hb
    refine N1.of_value hd (fun M ρ s a w g ha=>?_) rfl rfl
    have ax:=g.arg' ((ha x (by rw [ho]; simp [Op.operands])).trans hx)
    obtain ⟨b,t',hρ,hk,ht',hv⟩:=ax.rel
    have hobj:=ax.obj i rfl
    obtain ⟨b1,b2⟩:=hb M ρ s a w g ha
    have hoff:A4y (s.obj i) []=0:=by rw [hobj]; simp [A4y,N8]
    rw [hoff] at hv
    refine ⟨.slice (some ⟨b,p*e.sz,none⟩) (q - p) (n - p),?_,⟨n,e,y,b,hobj,hρ,hpq,hq,rfl⟩⟩
    have:=B8w (P:=P) (w:=w) hcf hr hty (ad:=⟨b,0,none⟩) hpq hq b1 b2
    simp only [execOp,ho,hv,Option.map_none]
    simp [this,G8,show ¬ n=p by omega]
  split at h
  · rename_i hlo hhi
    cases lo with
    | some _=>cases hlo
    | none =>
    cases hi with
    | some _=>cases hhi
    | none =>
    cases hc:Nat.blt 0 n <;> rw [hc] at h <;> simp only [cond_true,cond_false,reduceCtorEq] at h
    have hc':0 < n:=by simpa [Nat.blt_eq] using hc
    exact ⟨_,h,main 0 n (by omega) (Nat.le_refl _) hc' fun M ρ s a w g ha=>⟨rfl,rfl⟩⟩
  · rename_i k m ob hlo hhi
    change Int at m
    cases hi with
    | some _=>cases hhi
    | none =>
    cases lo with
    | none=>cases hlo
    | some y =>
    simp only [Option.map_some,Option.some.injEq] at hlo
    replace h:(bif A29 m n n && ltI m n then KE (one (.vw i m.toNat n)) else none)=some res:=h
    cases hc:(A29 m n n && ltI m n) <;> rw [hc] at h <;> simp only [cond_true,cond_false,reduceCtorEq] at h
    simp only [Bool.and_eq_true] at hc
    have hc':0≤m∧m≤(n:Int)∧(n:Int)≤(n:Int):=of_decide_eq_true hc.1
    have hc2:m < (n:Int):=of_decide_eq_true hc.2
    refine ⟨_,h,main m.toNat n (by omega) (Nat.le_refl _) (by omega) fun M ρ s a w g ha=>⟨⟨k,?_⟩,rfl⟩⟩
    have:=(g.arg' ((ha y (by rw [ho]; simp [Op.operands])).trans hlo)).int
    rw [this]
    congr 1; omega
  · rename_i k m ob hlo hhi
    change Int at m
    cases lo with
    | some _=>cases hlo
    | none =>
    cases hi with
    | none=>cases hhi
    | some y =>
    simp only [Option.map_some,Option.some.injEq] at hhi
    replace h:(bif A29 0 m n && Nat.blt 0 n then KE (one (.vw i 0 m.toNat)) else none)=some res:=h
    cases hc:(A29 0 m n && Nat.blt 0 n) <;> rw [hc] at h <;> simp only [cond_true,cond_false,reduceCtorEq] at h
    simp only [Bool.and_eq_true] at hc
    have hc':(0:Int)≤0∧0≤m∧m≤(n:Int):=of_decide_eq_true hc.1
    have hc2:0 < n:=by simpa [Nat.blt_eq] using hc.2
    refine ⟨_,h,main 0 m.toNat (by omega) (by omega) hc2 fun M ρ s a w g ha=>⟨rfl,⟨k,?_⟩⟩⟩
    have:=(g.arg' ((ha y (by rw [ho]; simp [Op.operands])).trans hhi)).int
    rw [this]
    congr 1; omega
  · cases h
theorem B2u(hcf:T3 P cx){T:TypeId}{x:Operand}{r:TyRow}(hd:F9 fr.n o.dst=true)(ho:o.op=.sliceToArrayPointer T x)(hr:cx.row? T=some r)
    (h:B4E KE r.ty (arg x)=some res):∃ E,KE E=some res∧N1 P fr arg o E:=by
  unfold B4E at h
  split at h
  rotate_left
  · cases h
  rename_i i p q m e y hx
  split at h
  rotate_left
  · cases h
  rename_i n e' hty
  cases hc:(decide (e'=e) && Nat.ble n (q - p) && Nat.ble (p+n) m) <;> rw [hc] at h <;> simp only [cond_true,cond_false,reduceCtorEq] at h
  simp only [Bool.and_eq_true,Nat.ble_eq,decide_eq_true_eq] at hc
  obtain ⟨⟨rfl,hn⟩,hm⟩:=hc
  refine ⟨_,h,N1.of_value hd (fun M ρ s a w g ha=>?_) rfl rfl⟩
  have ax:=g.arg' ((ha x (by rw [ho]; simp [Op.operands])).trans hx)
  obtain ⟨m2,e2,l2,b,h1,hρ,h2,h3,hv⟩:=ax.rel
  have hobj:=ax.obj i rfl
  rw [h1] at hobj
  cases hobj
  obtain ⟨te,hu,re,hre,hee⟩:=A2P hcf hr hty
  refine ⟨.pointer (some ⟨b,p*e'.sz,none⟩),?_,⟨m,e',y,b,h1,hρ,hm,rfl⟩⟩
  simp only [execOp,ho,hv]
  simp [Instr.arrayAt,run_underlying hu,show ¬ (q - p < n) by omega]
theorem B8y(hcf:T3 P cx){x y:Operand}{ts:Array TypeId}(hd:F9 fr.n o.dst=true)(ho:o.op=.call { callee:=.builtin .copy,args:=#[x,y],argTypes:=ts })
    (h:C7o cx KE ts.toList (arg x) (arg y)=some res):∃ E,KE E=some res∧N1 P fr arg o E:=by
  unfold C7o at h
  split at h
  rotate_left
  · cases h
  rename_i i p q n e l j c d m e' l' hx hy
  split at h
  rotate_left
  · cases h
  rename_i t t' hts
  split at h
  rotate_left
  · cases h
  rename_i r hr
  cases hc:(!Nat.beq i j && decide (r.ty=.slice e) && Nat.beq e.sz 1 && Nat.ble q n && Nat.ble d m) <;> rw [hc] at h <;> simp only [cond_true,cond_false,reduceCtorEq] at h
  simp only [Bool.and_eq_true,Nat.ble_eq,decide_eq_true_eq] at hc
  obtain ⟨⟨⟨⟨hij,hty⟩,hsz⟩,hqn⟩,hdm⟩:=hc
  have hsz:e.sz=1:=(B2 _ _).1 hsz
  obtain ⟨he,h⟩:=A4b h
  cases he
  have hts2:ts=#[t,t']:=by apply Array.ext'; simpa using hts
  subst hts2
  generalize hk:min (d - c) (q - p)=K at h
  have hK1:K≤d - c∧K≤q - p:=by omega
  refine ⟨_,h,fun M ρ s a w Q g ha=>?_⟩
  have ax:=g.arg' ((ha x (by rw [ho]; simp [Op.operands,Call.operands])).trans hx)
  have ay:=g.arg' ((ha y (by rw [ho]; simp [Op.operands,Call.operands])).trans hy)
  obtain ⟨n2,e2,l2,b,h1,hρ,h2,h3,hv⟩:=ax.rel
  have hobj:=ax.obj i rfl
  rw [h1] at hobj
  cases hobj
  obtain ⟨m2,e3,l3,b2,k1,kρ,k2,k3,kv⟩:=ay.rel
  have kobj:=ay.obj j rfl
  rw [k1] at kobj
  cases kobj
  have hob:=g.objs i
  rw [h1] at hob
  have kob:=g.objs j
  rw [k1] at kob
  cases hr2:ρ i with
  | no=>rw [hr2] at hob; exact hob.elim
  | «at» bb cap =>
  cases kr2:ρ j with
  | no=>rw [kr2] at kob; exact kob.elim
  | «at» bb2 cap2 =>
  have hblk:(ρ i).blk=some bb:=by rw [hr2]; rfl
  have eb:bb=b:=by rw [hblk] at hρ; exact Option.some.inj hρ
  have eb2:bb2=b2:=by rw [kr2] at kρ; exact Option.some.inj kρ
  subst eb; subst eb2
  rw [hr2] at hob
  rw [kr2] at kob
  obtain ⟨cur,tid,hb,hlen,hf⟩:=hob
  obtain ⟨cur2,tid2,hb2,klen,kf⟩:=kob
  have hnn:∀ x cs,E8 M e x cs→cs.length=e.sz:=fun x cs k=>k.length
  have hcl:=E3.length hnn hf
  have kcl:=E3.length hnn kf
  rw [hsz,Nat.mul_one] at hcl kcl
  have hnews:E3 (E8 M e) (List.take K (List.drop c l')) ((cur2.toList.drop c).take K):=by
    have:=(kf.drop hnn c (by omega)).take hnn K (by simp; omega)
    rw [hsz,Nat.mul_one,Nat.mul_one] at this
    exact this
  have hpre:E3 (E8 M e) (List.take p l) (cur.toList.take p):=by
    have:=hf.take hnn p (by omega)
    rw [hsz,Nat.mul_one] at this
    exact this
  have hpost:E3 (E8 M e) (List.drop (p+K) l) (cur.toList.drop (p+K)):=by
    have:=hf.drop hnn (p+K) (by omega)
    rw [hsz,Nat.mul_one] at this
    exact this
  have hnl:((cur2.toList.drop c).take K).length=K:=by simp; simp at kcl; omega
  obtain ⟨hu,re,hre,hee⟩:=S2 hcf hr hty
  have hsize:(P.info? r.elem).map (·.size)=some 1:=by
    obtain ⟨i2,z2,q1,q2,_⟩:=(hcf _ _ hre).info
    rw [q1]
    simp [q2,hee,hsz]
  have hcell:∀ j v,((cur2.toList.drop c).take K)[j]?=some v→w.cell? ((⟨bb2,c*e.sz,none⟩:Addr).add j)=some v:=by
    intro j' v hj
    rw [G8,cell_of_row w bb2 _ cur2 tid2 (0,0) hb2,hsz,Nat.mul_one]
    have hlt:j' < ((cur2.toList.drop c).take K).length:=(List.getElem?_eq_some_iff.1 hj).1
    rw [List.getElem?_take,if_pos (by omega),List.getElem?_drop] at hj
    simpa using hj
  have hrun0:=run_copy_row P w t t' o.type r.elem bb (p*e.sz) (q - p) (n - p) ⟨bb2,c*e.sz,none⟩ (d - c) (m - c) cur tid ((cur2.toList.drop c).take K) hu hsize hb (by rw [hnl,← hk]) hcell (by rw [hnl,hsz]; simp at hcl ⊢; omega) hnews.oneCell
  have hrun:(execOp a.eval o).run P w=.ok (.value (.int .i64 (K:Int))) (w.setRow bb (cur.toList.take p++(cur2.toList.drop c).take K++cur.toList.drop (p+K)).toArray):=by
    simp only [hnl,hsz,Nat.mul_one] at hrun0
    simp [execOp,ho,resolve,invoke,builtin,hv,kv,hsz,hrun0,goInt]
  have hs0:=T4 (b:=bb) (cs:=(cur.toList.take p++(cur2.toList.drop c).take K++cur.toList.drop (p+K)).toArray) w
  have hne:s.obj i≠.gone:=by rw [h1]; exact fun e=>by cases e
  have hs1:Since (fun k=>(ρ i).blk=some k∧s.obj i≠.gone) w (w.setRow bb (cur.toList.take p++(cur2.toList.drop c).take K++cur.toList.drop (p+K)).toArray) :=
    ⟨hs0.os,hs0.tape,hs0.output,hs0.size,fun k hk2 hn=>hs0.block k hk2 fun e3=>hn ⟨by rw [hblk,e3],hne⟩⟩
  have hMb:M bb=none:=g.own_none ⟨hblk,hne⟩
  have G:=g.obj1 (dst:=o.dst) hd (i:=i) (o:=.bx (.arr n e) (List.take p l++List.take K (List.drop c l')++List.drop (p+K) l)) (pl:=ρ i) (M':=M) (rep:=[]) (v:=.int .i64 (K:Int)) (sv:=.one (.d (.int .i64) (K:Int))) (.refl M)
    (g.mem.since hs1 fun k ob2 hm hbor=>by
      have e3:bb=k:=by have:=hbor.1; rw [hblk] at this; exact Option.some.inj this
      rw [← e3,hMb] at hm; cases hm)
    hs1 (fun _ _ _=>rfl)
    (by
      rw [hr2]
      refine ⟨_,tid,setRow_heap w bb cur _ tid _ hb,?_,?_⟩
      · simp; omega
      · exact(hpre.append hnews).append hpost)
    (fun k _ hk2=>by
      rw [hblk] at hk2; cases hk2
      exact ⟨hMb,by simpa using (Array.getElem?_eq_some_iff.1 hb).1,.inr ⟨hblk,hne⟩⟩)
    (fun m' v hmi hm=>by
      rw [Place.upd_self,MV.reps_nil]
      refine hm.mono (.refl _) fun id hid=>⟨rfl,?_⟩
      have e3:id=i:=by rw [hmi] at hid; exact(Option.some.inj hid).symm
      subst e3
      rw [h1]; simp [A0r])
    (fun m _=>rfl) ⟨[.int .i64 (K:Int)],rfl,rfl⟩
  rw [Place.upd_self] at G
  exact G4 hrun ⟨M,ρ,G⟩
theorem B2v{e:Ty}{tid:Nat}{x:Operand}{ob:MObj}{t:Nat}(hd:F9 fr.n o.dst=true)(hdst:o.dst=some t)(ho:o.op=.move x∨o.op=.assign x)(hx:arg x=(.one .nilS,ob)) :
    N1 P fr arg o { rep:=[(t,.dead)],objs:=[(t,.sl e tid [])],val:=.one (.own t) }:=by
  intro M ρ s a w Q g ha
  have hx':s.arg x=arg x:=ha x (by rcases ho with h | h <;> rw [h] <;> simp [Op.operands])
  have ev:=(g.arg' (hx'.trans hx)).nilS
  have hrun:(execOp a.eval o).run P w=.ok (.value (.slice none 0 0)) w:=by rcases ho with h | h <;> simp [execOp,h,ev]
  refine G4 hrun ?_
  rw [hdst] at hd ⊢
  exact ⟨M,_,g.newObj hd (.refl _ w) (pl:=.no) (o:=.sl e tid []) rfl (fun b hb=>by cases hb) ⟨e,tid,[],by simp,by simp [Place.upd,Place.slice]⟩⟩
theorem B0g{e:Ty}{x:Operand}{ob:MObj}(hd:F9 fr.n o.dst=true)(ho:o.op=.move x∨o.op=.assign x)(hx:arg x=(.one .nilS,ob)) :
    N1 P fr arg o (one (.d (.slice e) [])):=by
  refine N1.of_value hd (fun M ρ s a w g ha=>?_) rfl rfl
  have hx':s.arg x=arg x:=ha x (by rcases ho with h | h <;> rw [h] <;> simp [Op.operands])
  have ev:=(g.arg' (hx'.trans hx)).nilS
  exact ⟨.slice none 0 0,by rcases ho with h | h <;> simp [execOp,h,ev],[.slice none 0 0],⟨_,rfl,none,0,rfl,Nat.le_refl _,fun _=>rfl,fun h=>absurd rfl h⟩,by simp [C8,Ty.isAgg]⟩
end
end Go.Eng
namespace Go.Eng
open Go.RowKit
def S3(M:Mem)(v:Value)(m:MV):Prop:=X2 M (fun _=>.no) (fun _=>.gone) v m
theorem S3.rel{M:Mem}{v:Value}{m:MV}(h:S3 M v m)(ρ:Nat→Place)(obj:Nat→MObj):X2 M ρ obj v m:=by
  cases m with
  | own i=>obtain ⟨e,t,l,h1,_⟩:=h; cases h1
  | pa i p=>obtain ⟨b,t,h1,_⟩:=h; cases h1
  | cut i a b=>obtain ⟨e,t,l,h1,_⟩:=h; cases h1
  | vw i a b=>obtain ⟨m,e,l,b,h1,_⟩:=h; cases h1
  | vp i a b=>obtain ⟨m,e,l,b,h1,_⟩:=h; cases h1
  | ps i l =>
    obtain ⟨b,cap,cur,e,fz,hv,hm,hl,hall⟩:=h
    obtain ⟨u,_,_,_,hb,_⟩:=hall 0 _ (List.getElem?_eq_getElem hl)
    cases hb
  | pq i p=>obtain ⟨_,_,_,_,_,_,_,_,_,_,_,hb,_⟩:=h; cases hb
  | _=>exact h
theorem S3.mono{M M':Mem}(hM:M.le M'){v:Value}{m:MV}(h:S3 M v m):S3 M' v m:=X2.mono hM h fun _ _=>⟨rfl,trivial⟩
inductive ArgsOk (M:Mem) (w:World):List Mode→List Value→List MV→List (Place×MObj)→Prop
  | nil:ArgsOk M w [] [] [] []
  | ro {ms vs rs hs v m}:S3 M v m→ArgsOk M w ms vs rs hs→ArgsOk M w (.ro::ms) (v::vs) (m::rs) hs
  | bor {ms vs rs hs b cap t x}:P9 M w (.at b cap) (.bx t x)→ArgsOk M w ms vs rs hs→ArgsOk M w (.bor::ms) (.pointer (some ⟨b,0,none⟩)::vs) (.d t x::rs) ((.at b cap,.bx t x)::hs)
  | wr {ms vs rs hs pl e tid l}:P9 M w pl (.sl e tid l)→ArgsOk M w ms vs rs hs→ArgsOk M w (.wr tid::ms) (pl.slice l.length::vs) (.d (.slice e) l::rs) ((pl,.sl e tid l)::hs)
  | con {ms vs rs hs pl e tid l}:P9 M w pl (.sl e tid l)→ArgsOk M w ms vs rs hs→ArgsOk M w (.con tid::ms) (pl.slice l.length::vs) (.d (.slice e) l::rs) ((pl,.sl e tid l)::hs)
def D6(hs:List (Place×MObj)):List Nat:=hs.filterMap fun x=>x.1.blk
inductive BackOk (M:Mem) (w:World):List Mode→List (Place×MObj)→List MV→List MV→Prop
  | nil {rs}:BackOk M w [] [] rs rs
  | ro {ms hs os rs}:BackOk M w ms hs os rs→BackOk M w (.ro::ms) hs os rs
  | con {ms hs os rs k x}:BackOk M w ms hs os rs→BackOk M w (.con k::ms) (x::hs) os rs
  | bor {ms hs os rs b cap t x y}:P9 M w (.at b cap) (.bx t y)→BackOk M w ms hs os rs→BackOk M w (.bor::ms) ((.at b cap,.bx t x)::hs) (.d t y::os) rs
  | wr {ms hs os rs pl e e' tid l m}:P9 M w pl (.sl e' tid m)→m.length=l.length→BackOk M w ms hs os rs→BackOk M w (.wr tid::ms) ((pl,.sl e tid l)::hs) (.d (.slice e') m::os) rs
def H5:List Mode→List (Place×MObj)→List Nat
  | .ro::ms,hs=>H5 ms hs
  | .con _::ms,x::hs=>x.1.blk.toList++H5 ms hs
  | _::ms,_::hs=>H5 ms hs
  | _,_=>[]
def MObj.asMV:MObj→MV
  | .sl e _ l=>.d (.slice e) l
  | .bx t x=>.d t x
  | .gone=>.dead
def Place.val:Place→MObj→Value
  | pl,.sl _ _ l=>pl.slice l.length
  | .at b _,.bx _ _=>.pointer (some ⟨b,0,none⟩)
  | _,_=>undef
def A5T(tid:Nat):MObj→Prop
  | .sl _ t _=>t=tid
  | .bx t _=>A10 t=true
  | .gone=>False
inductive ResOk (M:Mem) (w:World) (fresh:Option (Nat×Nat)) (pl:Place):Nat→List Value→List MV→Prop
  | nil {k}:ResOk M w fresh pl k [] []
  | plain {k v m vs rs}:fresh.map (·.1)≠some k→S3 M v m→ResOk M w fresh pl (k+1) vs rs→ResOk M w fresh pl k (v::vs) (m::rs)
  | fresh {k tid o v m vs rs}:fresh=some (k,tid)→A5T tid o→v=pl.val o→m=o.asMV→P9 M w pl o→ResOk M w fresh pl (k+1) vs rs→ResOk M w fresh pl k (v::vs) (m::rs)
def A2V:List Value→Value
  | [v]=>v
  | vs=>.tuple vs.toArray
def D0w(M:Mem)(w:World)(c:Contract)(hs:List (Place×MObj))(outs:List MV)(e:Ending)(w':World):Prop :=
  ∃ (M':Mem) (rs:List MV) (vs:List Value) (pl:Place),e=.returned (A2V vs)∧M.le M'∧A2O M' w'∧Since (fun b=>b∈D6 hs) w w'∧(∀ b,b < w.heap.size→b ∉ H5 c.modes hs→M' b=M b)∧BackOk M' w' c.modes hs outs rs∧ResOk M' w' c.fresh pl 0 vs rs ∧
    (∀ b,pl.blk=some b→M' b=none∧b < w'.heap.size∧(w.heap.size≤b∨b∈H5 c.modes hs))
structure CSound (P:Program) (f:FuncId) (c:Contract):Prop where
  nat:∀ {R:Type} (ms:List MV) (K:List MV→Option R),c.cm ms K=(c.cm ms some).bind K
  body : (do let fn ← P.funcs[f]?; pure (fn.body.isSome && fn.name != "runtime.NumGoroutine")) = some true
  runs:∀ (ms outs:List MV),c.cm ms some=some outs→∀ (M:Mem) (w:World) (vs:List Value) (hs:List (Place×MObj)),A2O M w→ArgsOk M w c.modes vs ms hs →
    (D6 hs).Nodup→(∀ b∈D6 hs,M b=none)→Calls P f vs.toArray w (D0w M w c hs outs)
structure CExt (P:Program) (f:FuncId) (c:Contract):Prop where
  nat:∀ {R:Type} (ms:List MV) (K:List MV→Option R),c.cm ms K=(c.cm ms some).bind K
  keeps:c.keeps=true
  runs:∀ (ms outs:List MV),c.cm ms some=some outs→∀ (M:Mem) (w:World) (vs:List Value),All2 (S3 M) vs ms →
    ∃ us,(callFunc f vs.toArray).run P w=.ok (.value (A2V us)) w∧All2 (S3 M) us outs
def A8G(P:Program)(f:FuncId)(c:Contract):Prop:=CSound P f c∨CExt P f c
theorem A8G.nat{P:Program}{f:FuncId}{c:Contract}(h:A8G P f c){R:Type}(ms:List MV)(K:List MV→Option R):c.cm ms K=(c.cm ms some).bind K:=by
  rcases h with h | h
  · exact h.nat ms K
  · exact h.nat ms K
end Go.Eng
namespace Go.Eng
open Go.RowKit
structure GoodS (S:Nat→Prop) (fr:Frm) (M:Mem) (ρ:Nat→Place) (s:St) (a:Act) (w:World):Prop where
  env:∀ t,A0c M ρ s.obj (fr.val a t) (s.get t)
  size:a.tmps.size=fr.n.2∧∀ t,t < fr.n.1→a.tmps.getD t undef=fr.pv t
  defers:a.defers=[]
  mem:A2O M w
  old:fr.M0.le M
  objs:∀ id,¬ S id→P9 M w (ρ id) (s.obj id)
  apart:∀ id b,s.obj id≠.gone→(ρ id).blk=some b→(¬ S id→M b=none)∧b < w.heap.size∧(fr.w0.heap.size≤b∨fr.bor b)∧∀ id',id'≠id→s.obj id'≠.gone→(ρ id').blk≠some b
  since:Since fr.bor fr.w0 w
  keep:∀ b,b < fr.w0.heap.size→¬ fr.bor b→M b=fr.M0 b
section
variable {S:Nat→Prop} {fr:Frm} {M M':Mem} {ρ:Nat→Place} {s:St} {a:Act} {w w':World}
theorem GoodS.of(g:Good fr M ρ s a w)(S:Nat→Prop):GoodS S fr M ρ s a w:=⟨g.env,g.size,g.defers,g.mem,g.old,fun id _=>g.objs id,fun id b h1 h2=>⟨fun _=>(g.apart id b h1 h2).1,(g.apart id b h1 h2).2⟩,g.since,g.keep⟩
theorem GoodS.good(g:GoodS S fr M ρ s a w)(h:∀ i,¬ S i):Good fr M ρ s a w:=⟨g.env,g.size,g.defers,g.mem,g.old,fun id=>g.objs id (h id),fun id b h1 h2=>⟨(g.apart id b h1 h2).1 (h id),(g.apart id b h1 h2).2⟩,g.since,g.keep⟩
theorem GoodS.congr(g:GoodS S fr M ρ s a w){S':Nat→Prop}(h:∀ i,S i→S' i):GoodS S' fr M ρ s a w:=⟨g.env,g.size,g.defers,g.mem,g.old,fun id hn=>g.objs id fun k=>hn (h id k),fun id b h1 h2=>⟨fun k=>(g.apart id b h1 h2).1 fun k2=>k (h id k2),(g.apart id b h1 h2).2⟩,g.since,g.keep⟩
theorem A0c.mono0{M M':Mem}(hM:M.le M'){ρ:Nat→Place}{obj obj':Nat→MObj}(hst:∀ i,A0r (obj i) (obj' i)){v:Value}{sv:SV}(h:A0c M ρ obj v sv):A0c M' ρ obj' v sv:=by
  cases sv with
  | one m=>exact X2.mono hM h fun id _=>⟨rfl,hst id⟩
  | tup ms =>
    obtain ⟨vs,e,h2⟩:=h
    refine ⟨vs,e,?_⟩
    have:∀ {vs:List Value} {ms:List MV},All2 (X2 M ρ obj) vs ms→All2 (X2 M' ρ obj') vs ms:=by
      intro vs ms h
      induction h with
      | nil=>exact .nil
      | cons r _ ih=>exact .cons (X2.mono hM r fun id _=>⟨rfl,hst id⟩) ih
    exact this h2
theorem GoodS.world(g:GoodS S fr M ρ s a w)(hM:M.le M')(hm:A2O M' w')(hs:Since (fun b=>∃ i,S i∧(ρ i).blk=some b∧s.obj i≠.gone) w w')
    (hn:∀ i b,¬ S i→s.obj i≠.gone→(ρ i).blk=some b→M' b=none) (hk:∀ b,b < fr.w0.heap.size→¬ fr.bor b→M' b=M b):GoodS S fr M' ρ s a w':=by
  refine ⟨fun t=>(g.env t).mono0 hM fun i=>A0r.refl _,g.size,g.defers,hm,g.old.trans hM,fun id hid=>?_,fun id b hne hb=>?_,g.since.trans hs (fun _ h=>h) fun b hb ⟨i,hi,h1,h2⟩=>?_,fun b h1 h2=>(hk b h1 h2).trans (g.keep b h1 h2)⟩
  · refine(g.objs id hid).carry hM fun b hb hg=>hs.block b (g.apart id b hg hb).2.1 fun ⟨i,hi,h1,h2⟩=>?_
    have hne:i≠id:=fun e=>hid (e ▸ hi)
    exact(g.apart id b hg hb).2.2.2 i hne h2 h1
  · have hx:=g.apart id b hne hb
    exact ⟨fun k=>hn id b k hne hb,Nat.lt_of_lt_of_le hx.2.1 hs.size,hx.2.2⟩
  · have hx:=g.apart i b h2 h1
    rcases hx.2.2.1 with h | h
    · exact absurd hb (by omega)
    · exact h
theorem GoodS.resolve(g:GoodS S fr M ρ s a w){i:Nat}{o:MObj}(hst:A0r (s.obj i) o)(hng:s.obj i≠.gone)(ho:P9 M w (ρ i) o)(hMb:∀ b,(ρ i).blk=some b→M b=none) :
    GoodS (fun j=>S j∧j≠i) fr M ρ (({ rep:=[],objs:=[(i,o)],val:=.one .dead }:Eff).app none s) a w:=by
  have hobj:∀ id,(({ rep:=[],objs:=[(i,o)],val:=.one .dead }:Eff).app none s).obj id=if id=i then o else s.obj id:=I0 _ _ _ _ _ _
  have hst2:∀ id,A0r (s.obj id) ((({ rep:=[],objs:=[(i,o)],val:=.one .dead }:Eff).app none s).obj id):=by
    intro id; rw [hobj]; split
    · rename_i e; subst e; exact hst
    · exact A0r.refl _
  have hgone:∀ id,(({ rep:=[],objs:=[(i,o)],val:=.one .dead }:Eff).app none s).obj id≠.gone→s.obj id≠.gone:=by
    intro id h; rw [hobj] at h; split at h
    · rename_i e; subst e; exact hng
    · exact h
  refine ⟨fun t=>?_,g.size,g.defers,g.mem,g.old,fun id hid=>?_,fun id b hne hb=>?_,g.since,g.keep⟩
  · rw [Eff.get_app]
    simp only [reduceCtorEq,if_false]
    have:(s.get t).reps []=s.get t:=rfl
    rw [this]
    exact(g.env t).mono0 (.refl M) hst2
  · rw [hobj]
    split
    · rename_i e; subst e; exact ho
    · rename_i e; exact g.objs id fun h=>hid ⟨h,e⟩
  · have hx:=g.apart id b (hgone id hne) hb
    refine ⟨fun k=>?_,hx.2.1,hx.2.2.1,fun id' h1 h2=>hx.2.2.2 id' h1 (hgone id' h2)⟩
    by_cases e:id=i
    · subst e; exact hMb b hb
    · exact hx.1 fun k2=>k ⟨k2,e⟩
theorem GoodS.retype(g:GoodS S fr M ρ s a w){i:Nat}{e e':Ty}{tid:Nat}{l:List e.den}{z:List e'.den}(hoi:s.obj i=.sl e tid l)(hlen:z.length=l.length)(ho:P9 M w (ρ i) (.sl e' tid z))(hMb:∀ b,(ρ i).blk=some b→M b=none) :
    GoodS (fun j=>S j∧j≠i) fr M ρ (({ rep:=[(i,.own i)],objs:=[(i,.sl e' tid z)],val:=.one .dead }:Eff).app none s) a w:=by
  have hobj:∀ id,(({ rep:=[(i,.own i)],objs:=[(i,.sl e' tid z)],val:=.one .dead }:Eff).app none s).obj id=if id=i then .sl e' tid z else s.obj id:=I0 _ _ _ _ _ _
  have hgone:∀ id,(({ rep:=[(i,.own i)],objs:=[(i,.sl e' tid z)],val:=.one .dead }:Eff).app none s).obj id≠.gone→s.obj id≠.gone:=by
    intro id h; rw [hobj] at h; split at h
    · rename_i e; subst e; rw [hoi]; simp
    · exact h
  have hmv:∀ m v,X2 M ρ s.obj v m→X2 M ρ (({ rep:=[(i,.own i)],objs:=[(i,.sl e' tid z)],val:=.one .dead }:Eff).app none s).obj v (m.reps [(i,.own i)]):=by
    intro m v h
    rw [MV.reps_one]
    by_cases hid:m.id?=some i
    · cases m <;> simp [MV.id?] at hid
      all_goals subst hid
      · simp only [MV.repl,(B2 _ _).2 rfl,cond_true]
        obtain ⟨e3,t3,l3,h1,h2⟩:=h
        rw [hoi] at h1; cases h1
        exact ⟨e',tid,z,by rw [hobj,if_pos rfl],by rw [hlen]; exact h2⟩
      all_goals simp [MV.repl,X2]
    · rw [MV.repl_other hid]
      refine h.mono (.refl M) fun id hi=>⟨rfl,?_⟩
      rw [hobj,if_neg (fun e=>hid (by rw [hi,e]))]
      exact A0r.refl _
  refine ⟨fun t=>?_,g.size,g.defers,g.mem,g.old,fun id hid=>?_,fun id b hne hb=>?_,g.since,g.keep⟩
  · rw [Eff.get_app]
    simp only [reduceCtorEq,if_false]
    have:=g.env t
    generalize s.get t=sv at this ⊢
    cases sv with
    | one m=>rw [SV.reps_one]; exact hmv _ _ this
    | tup ms =>
      obtain ⟨vs,e1,h2⟩:=this
      rw [SV.reps_tup]
      exact ⟨vs,e1,h2.imp fun v m=>hmv m v⟩
  · rw [hobj]
    split
    · rename_i e; subst e; exact ho
    · rename_i e; exact g.objs id fun h=>hid ⟨h,e⟩
  · have hx:=g.apart id b (hgone id hne) hb
    refine ⟨fun k=>?_,hx.2.1,hx.2.2.1,fun id' h1 h2=>hx.2.2.2 id' h1 (hgone id' h2)⟩
    by_cases e:id=i
    · subst e; exact hMb b hb
    · exact hx.1 fun k2=>k ⟨k2,e⟩
theorem GoodS.con(g:GoodS S fr M ρ s a w)(i:Nat):GoodS (fun j=>S j∧j≠i) fr M ρ (({ rep:=[(i,.dead)],objs:=[(i,.gone)],val:=.one .dead }:Eff).app none s) a w:=by
  have hobj:∀ id,(({ rep:=[(i,.dead)],objs:=[(i,.gone)],val:=.one .dead }:Eff).app none s).obj id=if id=i then .gone else s.obj id:=I0 _ _ _ _ _ _
  have hgone:∀ id,(({ rep:=[(i,.dead)],objs:=[(i,.gone)],val:=.one .dead }:Eff).app none s).obj id≠.gone→s.obj id≠.gone:=by
    intro id h; rw [hobj] at h; split at h
    · exact absurd rfl h
    · exact h
  have hmv:∀ m v,X2 M ρ s.obj v m→X2 M ρ (({ rep:=[(i,.dead)],objs:=[(i,.gone)],val:=.one .dead }:Eff).app none s).obj v (m.reps [(i,.dead)]):=by
    intro m v h
    rw [MV.reps_one]
    by_cases hid:m.id?=some i
    · cases m <;> simp [MV.id?] at hid
      all_goals subst hid; simp [MV.repl,X2]
    · rw [MV.repl_other hid]
      refine h.mono (.refl M) fun id hi=>⟨rfl,?_⟩
      rw [hobj,if_neg (fun e=>hid (by rw [hi,e]))]
      exact A0r.refl _
  refine ⟨fun t=>?_,g.size,g.defers,g.mem,g.old,fun id hid=>?_,fun id b hne hb=>?_,g.since,g.keep⟩
  · rw [Eff.get_app]
    simp only [reduceCtorEq,if_false]
    have:=g.env t
    generalize s.get t=sv at this ⊢
    cases sv with
    | one m=>rw [SV.reps_one]; exact hmv _ _ this
    | tup ms =>
      obtain ⟨vs,e1,h2⟩:=this
      rw [SV.reps_tup]
      exact ⟨vs,e1,h2.imp fun v m=>hmv m v⟩
  · rw [hobj]
    split
    · cases ρ id <;> trivial
    · rename_i e; exact g.objs id fun h=>hid ⟨h,e⟩
  · have hx:=g.apart id b (hgone id hne) hb
    refine ⟨fun k=>hx.1 fun k2=>k ⟨k2,fun e=>hne (by rw [hobj,if_pos e])⟩,hx.2.1,hx.2.2.1,fun id' h1 h2=>hx.2.2.2 id' h1 (hgone id' h2)⟩
theorem A4c{l:List Nat}{i:Nat}:B4B l i=true↔i∈l:=by
  unfold B4B
  simp only [List.any_eq_true,B2]
  exact ⟨fun ⟨x,h,e⟩=>e ▸ h,fun h=>⟨i,h,rfl⟩⟩
def C7s(M:Mem)(v:Value)(x:Arg):Prop:=∀ t y,E5 x=some ⟨t,y⟩→∃ cs,E8 M t y cs∧v=C8 t cs
def B2w:List Mode→List Value→List Value
  | .ro::ms,a::l=>a::B2w ms l
  | _::ms,_::l=>B2w ms l
  | _,_=>[]
theorem All2.ro{R:Value→Arg→Prop}:∀ (ms:List Mode) {vs:List Value} {xs:List Arg},All2 R vs xs→All2 R (B2w ms vs) (W8 ms xs)
  | [],_,_,h=>by cases h <;> exact .nil
  | .ro::ms,_,_,.nil=>.nil
  | .ro::ms,_,_,.cons h t=>.cons h (All2.ro ms t)
  | .bor::ms,_,_,.nil=>.nil
  | .bor::ms,_,_,.cons _ t=>All2.ro ms t
  | .wr _::ms,_,_,.nil=>.nil
  | .wr _::ms,_,_,.cons _ t=>All2.ro ms t
  | .con _::ms,_,_,.nil=>.nil
  | .con _::ms,_,_,.cons _ t=>All2.ro ms t
theorem A2n(g:Good fr M ρ s a w){s0:St}{M0:Mem}:∀ (ms:List Mode) (xs:List Arg) (vs:List Value) (mvs:List MV),G1 ms xs=some mvs →
    All2 (ArgIs M0 ρ s0) vs xs→All2 (C7s M) (B2w ms vs) (W8 ms xs)→(∀ i∈C1 ms xs,s.obj i=s0.obj i) →
    ArgsOk M w ms vs mvs ((C1 ms xs).map fun i=>(ρ i,s.obj i))
  | [],[],_,mvs,h,.nil,_,_=>by
    simp only [G1,Option.some.injEq] at h
    subst h; exact .nil
  | [],_::_,_,mvs,h,_,_,_=>by simp [G1] at h
  | m::ms,[],_,mvs,h,_,_,_=>by cases m <;> simp [G1] at h
  | .ro::ms,x::xs,_,mvs,h,.cons (a:=v) (l:=vs) hx ht,hd,hh=>by
    have hd1:C7s M v x∧All2 (C7s M) (B2w ms vs) (W8 ms xs):=by cases hd with | cons h1 h2=>exact ⟨h1,h2⟩
    obtain ⟨sv,ob⟩:=x
    simp only [G1] at h
    split at h
    · rename_i t y o2 e
      cases e
      simp only [Option.map_eq_some_iff] at h
      obtain ⟨r,hr,rfl⟩:=h
      exact .ro (hd1.1 t y rfl) (A2n g ms xs _ r hr ht hd1.2 hh)
    · rename_i o2 e
      cases e
      simp only [Option.map_eq_some_iff] at h
      obtain ⟨r,hr,rfl⟩:=h
      exact .ro (m:=.nilS) hx.nilS (A2n g ms xs _ r hr ht hd1.2 hh)
    · rename_i f o2 e
      cases e
      simp only [Option.map_eq_some_iff] at h
      obtain ⟨r,hr,rfl⟩:=h
      exact .ro (m:=.fn f) hx.fn (A2n g ms xs _ r hr ht hd1.2 hh)
    · rename_i i e2 k l e
      cases e
      simp only [Option.map_eq_some_iff] at h
      obtain ⟨r,hr,rfl⟩:=h
      exact .ro (hd1.1 (.slice e2) l rfl) (A2n g ms xs _ r hr ht hd1.2 hh)
    · cases h
  | .bor::ms,x::xs,_,mvs,h,.cons (a:=v) (l:=vs) hx ht,hd,hh=>by
    obtain ⟨sv,ob⟩:=x
    simp only [G1] at h
    split at h
    · rename_i i t y e
      cases e
      simp only [Option.map_eq_some_iff] at h
      obtain ⟨r,hr,rfl⟩:=h
      have ho:s.obj i=.bx t y:=(hh i (by simp [C1])).trans (hx.obj i rfl)
      obtain ⟨b,t',hb,hk,hty,hv⟩:=hx.rel
      have hob:=g.objs i
      rw [ho] at hob
      have e0:s0.obj i=.bx t y:=hx.obj i rfl
      rw [e0] at hv
      simp only [A4y,N8] at hv
      subst hv
      cases hr':ρ i with
      | no=>rw [hr'] at hob; exact hob.elim
      | «at» b' cap =>
        rw [hr'] at hb hob; cases hb
        have:=ArgsOk.bor hob (A2n g ms xs _ r hr ht hd (fun j hj=>hh j (by simp [C1,hj])))
        simpa [C1,hr',ho] using this
    · cases h
  | .wr k::ms,x::xs,_,mvs,h,.cons (a:=v) (l:=vs) hx ht,hd,hh=>by
    obtain ⟨sv,ob⟩:=x
    simp only [G1] at h
    split at h
    · rename_i i e2 k' l e
      cases e
      cases hb:Nat.beq k k' <;> rw [hb] at h <;> simp only [cond_true,cond_false,reduceCtorEq] at h
      have hk:=(B2 _ _).1 hb
      subst hk
      simp only [Option.map_eq_some_iff] at h
      obtain ⟨r,hr,rfl⟩:=h
      have ho:s.obj i=.sl e2 k l:=(hh i (by simp [C1])).trans (hx.obj i rfl)
      obtain ⟨e3,t3,l3,h1,hv⟩:=hx.rel
      have h2:=hx.obj i rfl
      rw [h1] at h2; cases h2
      have hob:=g.objs i
      rw [ho] at hob
      subst hv
      have:=ArgsOk.wr hob (A2n g ms xs _ r hr ht hd (fun j hj=>hh j (by simp [C1,hj])))
      simpa [C1,ho] using this
    · cases h
  | .con k::ms,x::xs,_,mvs,h,.cons (a:=v) (l:=vs) hx ht,hd,hh=>by
    obtain ⟨sv,ob⟩:=x
    simp only [G1] at h
    split at h
    · rename_i i e2 k' l e
      cases e
      cases hb:Nat.beq k k' <;> rw [hb] at h <;> simp only [cond_true,cond_false,reduceCtorEq] at h
      have hk:=(B2 _ _).1 hb
      subst hk
      simp only [Option.map_eq_some_iff] at h
      obtain ⟨r,hr,rfl⟩:=h
      have ho:s.obj i=.sl e2 k l:=(hh i (by simp [C1])).trans (hx.obj i rfl)
      obtain ⟨e3,t3,l3,h1,hv⟩:=hx.rel
      have h2:=hx.obj i rfl
      rw [h1] at h2; cases h2
      have hob:=g.objs i
      rw [ho] at hob
      subst hv
      have:=ArgsOk.con hob (A2n g ms xs _ r hr ht hd (fun j hj=>hh j (by simp [C1,hj])))
      simpa [C1,ho] using this
    · cases h
theorem B65{l:List Nat}{i:Nat}(h:B4B l i=false):i ∉ l:=fun k=>by rw [A4c.2 k] at h; cases h
theorem A4B:∀ {l:List Nat},X3 l=true→l.Nodup
  | [],_=>List.nodup_nil
  | i::l,h=>by
    simp only [X3,Bool.and_eq_true,Bool.not_eq_true'] at h
    exact List.nodup_cons.2 ⟨B65 h.1,A4B h.2⟩
def B2c(s:St):List Mode→List Arg→Prop
  | .ro::ms,_::l=>B2c s ms l
  | _::ms,(.one (.own i),o)::l=>s.obj i=o∧B2c s ms l
  | _::ms,(.one (.pa i _),o)::l=>s.obj i=o∧B2c s ms l
  | _::ms,_::l=>B2c s ms l
  | _,_=>True
theorem B2c.congr{s s':St}:∀ (ms:List Mode) (xs:List Arg),B2c s ms xs→(∀ i∈C1 ms xs,s'.obj i=s.obj i)→B2c s' ms xs:=by
  intro ms
  induction ms with
  | nil=>intro xs _ _; cases xs <;> trivial
  | cons m ms ih =>
    intro xs h hh
    cases xs with
    | nil=>cases m <;> trivial
    | cons x xs =>
      obtain ⟨sv,ob⟩:=x
      cases m with
      | ro=>exact ih xs h hh
      | bor | wr _ | con _ =>
        cases sv with
        | tup _=>exact ih xs h hh
        | one mv =>
          cases mv <;> first
            | exact ih xs h hh
            | exact ⟨(hh _ (by simp [C1])).trans h.1,ih xs h.2 fun j hj=>hh j (by simp [C1,hj])⟩
def K4:List Mode→List Arg→List Nat
  | .con _::ms,(.one (.own i),_)::l=>i::K4 ms l
  | _::ms,_::l=>K4 ms l
  | _,_=>[]
def J0:List Mode→List Arg→List Nat
  | .bor::ms,(.one (.pa i _),_)::l=>i::J0 ms l
  | .wr _::ms,(.one (.own i),_)::l=>i::J0 ms l
  | _::ms,_::l=>J0 ms l
  | _,_=>[]
theorem C7t:∀ (ms:List Mode) (xs:List Arg) (outs:List MV) (rep:List (Nat×MV)) (os:List (Nat×MObj)) (r rs:List MV) (s:St) (S:Nat→Prop),GoodS S fr M ρ s a w →
    Q5 ms xs outs=some (rep,os,r)→(C1 ms xs).Nodup→B2c s ms xs→BackOk M w ms ((C1 ms xs).map fun i=>(ρ i,s.obj i)) outs rs→(∀ i∈J0 ms xs,∀ b,(ρ i).blk=some b→M b=none) →
    r=rs∧GoodS (fun j=>S j∧j ∉ C1 ms xs) fr M ρ (({ rep:=rep,objs:=os,val:=.one .dead }:Eff).app none s) a w ∧
      (∀ i∈K4 ms xs,(({ rep:=rep,objs:=os,val:=.one .dead }:Eff).app none s).obj i=.gone)∧(∀ i,(({ rep:=rep,objs:=os,val:=.one .dead }:Eff).app none s).obj i≠.gone→s.obj i≠.gone):=by
  intro ms
  induction ms with
  | nil =>
    intro xs outs rep os r rs s S g h hn _ hb hnone
    cases xs with
    | nil =>
      simp only [Q5,Option.some.injEq,Prod.mk.injEq] at h
      obtain ⟨rfl,rfl,rfl⟩:=h
      simp only [C1,List.map_nil] at hb
      cases hb
      exact ⟨rfl,g.congr fun i h=>⟨h,by simp [C1]⟩,fun i hi=>by simp [K4] at hi,fun i h=>h⟩
    | cons x xs=>simp [Q5] at h
  | cons m ms ih =>
    intro xs outs rep os r rs s S g h hn hobj hb hnone
    cases xs with
    | nil=>cases m <;> simp [Q5] at h
    | cons x xs =>
      cases m with
      | ro =>
        simp only [Q5] at h
        simp only [C1] at hb hn ⊢
        cases hb with
        | ro hb=>exact ih xs outs rep os r rs s S g h hn hobj hb hnone
      | con k =>
        simp only [Q5] at h
        split at h
        · rename_i i ob
          simp only [Option.map_eq_some_iff] at h
          obtain ⟨⟨rep',os',r'⟩,h1,h2⟩:=h
          simp only [Prod.mk.injEq] at h2
          obtain ⟨rfl,rfl,rfl⟩:=h2
          simp only [C1,List.map_cons] at hb hn ⊢
          obtain ⟨hni,hn'⟩:=List.nodup_cons.1 hn
          cases hb with
          | con hb =>
            have g':=g.con i
            have hsame:∀ j∈C1 ms xs,(({ rep:=[(i,.dead)],objs:=[(i,.gone)],val:=.one .dead }:Eff).app none s).obj j=s.obj j:=fun j hj=>by
              rw [I0,if_neg (fun e:j=i=>hni (e ▸ hj))]
            have hb':BackOk M w ms ((C1 ms xs).map fun j=>(ρ j,(({ rep:=[(i,.dead)],objs:=[(i,.gone)],val:=.one .dead }:Eff).app none s).obj j)) outs rs:=by
              rw [List.map_congr_left fun j hj=>by rw [hsame j hj]]; exact hb
            obtain ⟨e,G,G2,G3⟩:=ih xs outs _ _ _ rs _ _ g' h1 hn' (B2c.congr ms xs hobj.2 hsame) hb' hnone
            rw [Eff.app_app] at G G2 G3
            refine ⟨e,G.congr fun j hj=>⟨hj.1.1,by simp [hj.1.2,hj.2]⟩,fun j hj=>?_,fun j hj=>?_⟩
            · rcases List.mem_cons.1 (show j∈i::K4 ms xs from hj) with e | hj
              · subst e
                by_cases hgj:(({ rep:=[(j,.dead)]++rep',objs:=os'++[(j,.gone)],val:=.one .dead }:Eff).app none s).obj j=.gone
                · exact hgj
                · exact absurd (by rw [I0,if_pos rfl]) (G3 j hgj)
              · exact G2 j hj
            · have:=G3 j hj
              rw [I0] at this
              split at this
              · exact absurd rfl this
              · exact this
        · cases h
      | bor =>
        cases outs with
        | nil=>simp [Q5] at h
        | cons r0 outs =>
          simp only [Q5] at h
          split at h
          · rename_i i t y t' z
            cases hd:decide (t=t') <;> rw [hd] at h <;> simp only [cond_true,cond_false,reduceCtorEq] at h
            have htt:=of_decide_eq_true hd
            subst htt
            simp only [Option.map_eq_some_iff] at h
            obtain ⟨⟨rep',os',r'⟩,h1,h2⟩:=h
            simp only [Prod.mk.injEq] at h2
            obtain ⟨rfl,rfl,rfl⟩:=h2
            have hoi:s.obj i=.bx t y:=hobj.1
            simp only [C1,List.map_cons,hoi] at hb hn ⊢
            obtain ⟨hni,hn'⟩:=List.nodup_cons.1 hn
            generalize hpl:ρ i=pl at hb
            cases hb with
            | bor hat hb =>
              have g':=g.resolve (i:=i) (o:=.bx t z) (by rw [hoi]; rfl) (by rw [hoi]; simp) (by rw [hpl]; exact hat) (hnone i (by simp [J0]))
              have hsame:∀ j∈C1 ms xs,(({ rep:=[],objs:=[(i,.bx t z)],val:=.one .dead }:Eff).app none s).obj j=s.obj j:=fun j hj=>by
                rw [I0,if_neg (fun e:j=i=>hni (e ▸ hj))]
              have hb':BackOk M w ms ((C1 ms xs).map fun j=>(ρ j,(({ rep:=[],objs:=[(i,.bx t z)],val:=.one .dead }:Eff).app none s).obj j)) outs rs:=by
                rw [List.map_congr_left fun j hj=>by rw [hsame j hj]]; exact hb
              obtain ⟨e,G,G2,G3⟩:=ih xs outs _ _ _ rs _ _ g' h1 hn' (B2c.congr ms xs hobj.2 hsame) hb' fun j hj=>hnone j (by simp [J0,hj])
              rw [Eff.app_app] at G G2 G3
              refine ⟨e,G.congr fun j hj=>⟨hj.1.1,by simp [hj.1.2,hj.2]⟩,G2,fun j hj=>?_⟩
              have:=G3 j hj
              rw [I0] at this
              split at this
              · rename_i e; subst e; rw [hoi]; simp
              · exact this
          · cases h
      | wr k =>
        cases outs with
        | nil=>simp [Q5] at h
        | cons r0 outs =>
          simp only [Q5] at h
          split at h
          · rename_i i e2 tid l e' z
            cases hd:decide (e2=e') <;> rw [hd] at h <;> simp only [cond_true,cond_false] at h
            · simp only [Option.map_eq_some_iff] at h
              obtain ⟨⟨rep',os',r'⟩,h1,h2⟩:=h
              simp only [Prod.mk.injEq] at h2
              obtain ⟨rfl,rfl,rfl⟩:=h2
              have hoi:s.obj i=.sl e2 tid l:=hobj.1
              simp only [C1,List.map_cons,hoi] at hb hn ⊢
              obtain ⟨hni,hn'⟩:=List.nodup_cons.1 hn
              generalize hpl:ρ i=pl at hb
              cases hb with
              | wr hat hlen hb =>
                have g':=g.retype (i:=i) hoi hlen (by rw [hpl]; exact hat) (hnone i (by simp [J0]))
                have hsame:∀ j∈C1 ms xs,(({ rep:=[(i,.own i)],objs:=[(i,.sl e' k z)],val:=.one .dead }:Eff).app none s).obj j=s.obj j:=fun j hj=>by
                  rw [I0,if_neg (fun e:j=i=>hni (e ▸ hj))]
                have hb':BackOk M w ms ((C1 ms xs).map fun j=>(ρ j,(({ rep:=[(i,.own i)],objs:=[(i,.sl e' k z)],val:=.one .dead }:Eff).app none s).obj j)) outs rs:=by
                  rw [List.map_congr_left fun j hj=>by rw [hsame j hj]]; exact hb
                obtain ⟨e,G,G2,G3⟩:=ih xs outs _ _ _ rs _ _ g' h1 hn' (B2c.congr ms xs hobj.2 hsame) hb' fun j hj=>hnone j (by simp [J0,hj])
                rw [Eff.app_app] at G G2 G3
                refine ⟨e,G.congr fun j hj=>⟨hj.1.1,by simp [hj.1.2,hj.2]⟩,G2,fun j hj=>?_⟩
                have:=G3 j hj
                rw [I0] at this
                split at this
                · rename_i e; subst e; rw [hoi]; simp
                · exact this
            · have hee:=of_decide_eq_true hd
              subst hee
              simp only [Option.map_eq_some_iff] at h
              obtain ⟨⟨rep',os',r'⟩,h1,h2⟩:=h
              simp only [Prod.mk.injEq] at h2
              obtain ⟨rfl,rfl,rfl⟩:=h2
              have hoi:s.obj i=.sl e2 tid l:=hobj.1
              simp only [C1,List.map_cons,hoi] at hb hn ⊢
              obtain ⟨hni,hn'⟩:=List.nodup_cons.1 hn
              generalize hpl:ρ i=pl at hb
              cases hb with
              | wr hat hlen hb =>
                have g':=g.resolve (i:=i) (o:=.sl e2 k z) (by rw [hoi]; exact ⟨rfl,rfl,hlen.symm⟩) (by rw [hoi]; simp) (by rw [hpl]; exact hat) (hnone i (by simp [J0]))
                have hsame:∀ j∈C1 ms xs,(({ rep:=[],objs:=[(i,.sl e2 k z)],val:=.one .dead }:Eff).app none s).obj j=s.obj j:=fun j hj=>by
                  rw [I0,if_neg (fun e:j=i=>hni (e ▸ hj))]
                have hb':BackOk M w ms ((C1 ms xs).map fun j=>(ρ j,(({ rep:=[],objs:=[(i,.sl e2 k z)],val:=.one .dead }:Eff).app none s).obj j)) outs rs:=by
                  rw [List.map_congr_left fun j hj=>by rw [hsame j hj]]; exact hb
                obtain ⟨e,G,G2,G3⟩:=ih xs outs _ _ _ rs _ _ g' h1 hn' (B2c.congr ms xs hobj.2 hsame) hb' fun j hj=>hnone j (by simp [J0,hj])
                rw [Eff.app_app] at G G2 G3
                refine ⟨e,G.congr fun j hj=>⟨hj.1.1,by simp [hj.1.2,hj.2]⟩,G2,fun j hj=>?_⟩
                have:=G3 j hj
                rw [I0] at this
                split at this
                · rename_i e; subst e; rw [hoi]; simp
                · exact this
          · cases h
end
end Go.Eng
namespace Go.Eng
open Go.RowKit
section
variable {P:Program} {cx:Cx} {fr:Frm} {arg:Operand→Arg} {o:Oper} {R:Type} {KE:Eff→Option R} {res:R} {M M':Mem} {ρ:Nat→Place} {s:St} {a:Act} {w w':World}
theorem B4Y(l m:List (Nat×MObj))(i:Nat):E7 (l++m) i=(E7 l i).or (E7 m i):=by
  unfold E7
  induction l with
  | nil=>simp [look]
  | cons x l ih =>
    simp only [List.cons_append,List.map_cons,look]
    cases Nat.beq x.1 i with
    | true=>simp
    | false=>simpa using ih
theorem A6n{i:Nat}:∀ {xs:List Arg},i ∉ A1Q xs→E7 (N2 xs) i=none
  | [],_=>rfl
  | x::xs,h=>by
    unfold N2
    rw [B4Y]
    have hx:E7 (A6V x) i=none:=by
      unfold A6V
      split
      · rename_i j e tid l
        rw [A1S,if_neg]
        intro e2
        exact h (by simp [A1Q,e2])
      · rfl
    have ht:i ∉ A1Q xs:=by
      intro hi
      apply h
      obtain ⟨sv,ob⟩:=x
      cases sv with
      | tup _=>exact hi
      | one m=>cases m <;> simp [A1Q,hi]
    rw [A6n ht,hx]; rfl
theorem B8z{xs:List Arg}{i:Nat}(h:i ∉ A1Q xs)(s:St):(({ rep:=A1c xs,objs:=N2 xs,val:=.one .dead }:Eff).app none s).obj i=s.obj i:=by
  rw [Eff.obj_app]
  show(E7 (N2 xs) i).getD (s.obj i)=s.obj i
  rw [A6n h]; rfl
theorem A3x(s:St):∀ ids:List Nat,D6 (ids.map fun i=>(ρ i,s.obj i))=ids.filterMap fun i=>(ρ i).blk:=by
  intro ids; simp [D6,List.filterMap_map,Function.comp_def]
theorem A6o(g:Good fr M ρ s a w):∀ {ids:List Nat},ids.Nodup→(∀ i∈ids,s.obj i≠.gone)→(ids.filterMap fun i=>(ρ i).blk).Nodup
  | [],_,_=>List.nodup_nil
  | i::ids,hn,hg=>by
    obtain ⟨h1,h2⟩:=List.nodup_cons.1 hn
    have ih:=A6o g h2 fun j hj=>hg j (by simp [hj])
    simp only [List.filterMap_cons]
    cases hb:(ρ i).blk with
    | none=>exact ih
    | some b =>
      refine List.nodup_cons.2 ⟨fun hm=>?_,ih⟩
      obtain ⟨j,hj,hjb⟩:=List.mem_filterMap.1 hm
      have hne:j≠i:=fun e=>h1 (e ▸ hj)
      exact(g.apart i b (hg i (by simp)) hb).2.2.2 j hne (hg j (by simp [hj])) hjb
theorem B2c.of{vs:List Value}:∀ (ms:List Mode) {xs:List Arg} {vs:List Value},All2 (ArgIs M ρ s) vs xs→B2c s ms xs:=by
  intro ms
  induction ms with
  | nil=>intro xs vs _; cases xs <;> trivial
  | cons m ms ih =>
    intro xs vs h
    cases h with
    | nil=>cases m <;> trivial
    | cons hx ht =>
      rename_i v x _ _
      obtain ⟨sv,ob⟩:=x
      cases m with
      | ro=>exact ih ht
      | bor | wr _ | con _ =>
        cases sv with
        | tup _=>exact ih ht
        | one mv =>
          cases mv <;> first
            | exact ih ht
            | exact ⟨hx.obj _ rfl,ih ht⟩
theorem B4Z:∀ (ms:List Mode) {xs:List Arg} {mvs:List MV},G1 ms xs=some mvs→B2c s ms xs→∀ i∈C1 ms xs,s.obj i≠.gone:=by
  intro ms
  induction ms with
  | nil=>intro xs mvs _ _ i hi; cases xs <;> simp [C1] at hi
  | cons m ms ih =>
    intro xs mvs h ho i hi
    cases xs with
    | nil=>cases m <;> simp [C1] at hi
    | cons x xs =>
      cases m with
      | ro =>
        simp only [G1] at h
        split at h <;> first
          | cases h
          | (simp only [Option.map_eq_some_iff] at h; obtain ⟨r,hr,_⟩:=h; exact ih hr ho i hi)
      | bor =>
        simp only [G1] at h
        split at h
        · simp only [Option.map_eq_some_iff] at h
          obtain ⟨r,hr,_⟩:=h
          simp only [C1] at hi
          rcases List.mem_cons.1 hi with e | hi
          · subst e; rw [ho.1]; simp
          · exact ih hr ho.2 i hi
        · cases h
      | wr k =>
        simp only [G1] at h
        split at h
        · rename_i j e k' l
          cases hb:Nat.beq k k' <;> rw [hb] at h <;> simp only [cond_true,cond_false,reduceCtorEq] at h
          simp only [Option.map_eq_some_iff] at h
          obtain ⟨r,hr,_⟩:=h
          simp only [C1] at hi
          rcases List.mem_cons.1 hi with e | hi
          · subst e; rw [ho.1]; simp
          · exact ih hr ho.2 i hi
        · cases h
      | con k =>
        simp only [G1] at h
        split at h
        · rename_i j e k' l
          cases hb:Nat.beq k k' <;> rw [hb] at h <;> simp only [cond_true,cond_false,reduceCtorEq] at h
          simp only [Option.map_eq_some_iff] at h
          obtain ⟨r,hr,_⟩:=h
          simp only [C1] at hi
          rcases List.mem_cons.1 hi with e | hi
          · subst e; rw [ho.1]; simp
          · exact ih hr ho.2 i hi
        · cases h
theorem B0h:∀ (ms:List Mode) {xs:List Arg} {mvs:List MV},G1 ms xs=some mvs→∀ b∈H5 ms ((C1 ms xs).map fun i=>(ρ i,s.obj i)),∃ i∈K4 ms xs,(ρ i).blk=some b:=by
  intro ms
  induction ms with
  | nil=>intro xs mvs h b hb; cases xs <;> simp [G1,C1,H5] at h hb
  | cons m ms ih =>
    intro xs mvs h b hb
    cases xs with
    | nil=>cases m <;> simp [G1] at h
    | cons x xs =>
      cases m with
      | ro =>
        simp only [G1] at h
        simp only [C1,H5] at hb
        split at h <;> first
          | cases h
          | (simp only [Option.map_eq_some_iff] at h; obtain ⟨r,hr,_⟩:=h; simpa [K4] using ih hr b hb)
      | bor =>
        simp only [G1] at h
        split at h
        · simp only [Option.map_eq_some_iff] at h
          obtain ⟨r,hr,_⟩:=h
          simp only [C1,List.map_cons,H5] at hb
          simpa [K4] using ih hr b hb
        · cases h
      | wr k =>
        simp only [G1] at h
        split at h
        · rename_i j e k' l
          cases hbq:Nat.beq k k' <;> rw [hbq] at h <;> simp only [cond_true,cond_false,reduceCtorEq] at h
          simp only [Option.map_eq_some_iff] at h
          obtain ⟨r,hr,_⟩:=h
          simp only [C1,List.map_cons,H5] at hb
          simpa [K4] using ih hr b hb
        · cases h
      | con k =>
        simp only [G1] at h
        split at h
        · rename_i j e k' l
          cases hbq:Nat.beq k k' <;> rw [hbq] at h <;> simp only [cond_true,cond_false,reduceCtorEq] at h
          simp only [Option.map_eq_some_iff] at h
          obtain ⟨r,hr,_⟩:=h
          simp only [C1,List.map_cons,H5,List.mem_append] at hb
          rcases hb with hb | hb
          · exact ⟨j,by simp [K4],by simpa using hb⟩
          · obtain ⟨i,hi,hib⟩:=ih hr b hb
            exact ⟨i,by simp [K4,hi],hib⟩
        · cases h
theorem A0T:∀ (ms:List Mode) (xs:List Arg),∀ i∈K4 ms xs,i∈C1 ms xs:=by
  intro ms
  induction ms with
  | nil=>intro xs i hi; cases xs <;> simp [K4] at hi
  | cons m ms ih =>
    intro xs i hi
    cases xs with
    | nil=>cases m <;> simp [K4] at hi
    | cons x xs =>
      obtain ⟨sv,ob⟩:=x
      cases m <;> cases sv <;> first
        | exact ih xs i (by simpa [K4] using hi)
        | (rename_i mv; cases mv <;> simp only [K4,C1,List.mem_cons] at hi ⊢ <;> first | exact ih xs i hi | exact .inr (ih xs i hi) | (rcases hi with e | hi <;> first | exact .inl e | exact .inr (ih xs i hi)))
        | (rename_i k mv; cases mv <;> simp only [K4,C1,List.mem_cons] at hi ⊢ <;> first | exact ih xs i hi | exact .inr (ih xs i hi) | (rcases hi with e | hi <;> first | exact .inl e | exact .inr (ih xs i hi)))
theorem B50:∀ (ms:List Mode) (xs:List Arg),(C1 ms xs).Nodup→∀ i∈J0 ms xs,i∈C1 ms xs∧i ∉ K4 ms xs:=by
  intro ms
  induction ms with
  | nil=>intro xs _ i hi; cases xs <;> simp [J0] at hi
  | cons m ms ih =>
    intro xs hn i hi
    cases xs with
    | nil=>cases m <;> simp [J0] at hi
    | cons x xs =>
      obtain ⟨sv,ob⟩:=x
      have tail:∀ (hn2:(C1 ms xs).Nodup) (hi2:i∈J0 ms xs),i∈C1 ms xs∧i ∉ K4 ms xs:=fun h1 h2=>ih xs h1 i h2
      cases m with
      | ro=>simpa [C1,K4] using tail (by simpa [C1] using hn) (by simpa [J0] using hi)
      | bor =>
        cases sv with
        | tup _=>simpa [C1,K4] using tail (by simpa [C1] using hn) (by simpa [J0] using hi)
        | one mv =>
          cases mv <;> first
            | simpa [C1,K4] using tail (by simpa [C1] using hn) (by simpa [J0] using hi)
            | skip
          case own j =>
            simp only [C1] at hn
            have t:=tail (List.nodup_cons.1 hn).2 (by simpa [J0] using hi)
            simp [C1,K4,t.1,t.2]
          case pa j p =>
            simp only [C1] at hn
            simp only [J0,List.mem_cons] at hi
            rcases hi with e | hi
            · subst e
              refine ⟨by simp [C1],fun h=>(List.nodup_cons.1 hn).1 (A0T ms xs _ (by simpa [K4] using h))⟩
            · have t:=tail (List.nodup_cons.1 hn).2 hi
              simp [C1,K4,t.1,t.2]
      | wr k =>
        cases sv with
        | tup _=>simpa [C1,K4] using tail (by simpa [C1] using hn) (by simpa [J0] using hi)
        | one mv =>
          cases mv <;> first
            | simpa [C1,K4] using tail (by simpa [C1] using hn) (by simpa [J0] using hi)
            | skip
          case pa j p =>
            simp only [C1] at hn
            have t:=tail (List.nodup_cons.1 hn).2 (by simpa [J0] using hi)
            simp [C1,K4,t.1,t.2]
          case own j =>
            simp only [C1] at hn
            simp only [J0,List.mem_cons] at hi
            rcases hi with e | hi
            · subst e
              refine ⟨by simp [C1],fun h=>(List.nodup_cons.1 hn).1 (A0T ms xs _ (by simpa [K4] using h))⟩
            · have t:=tail (List.nodup_cons.1 hn).2 hi
              simp [C1,K4,t.1,t.2]
      | con k =>
        cases sv with
        | tup _=>simpa [C1,K4] using tail (by simpa [C1] using hn) (by simpa [J0] using hi)
        | one mv =>
          cases mv <;> first
            | simpa [C1,K4] using tail (by simpa [C1] using hn) (by simpa [J0] using hi)
            | skip
          case pa j p =>
            simp only [C1] at hn
            have t:=tail (List.nodup_cons.1 hn).2 (by simpa [J0] using hi)
            simp [C1,K4,t.1,t.2]
          case own j =>
            simp only [C1] at hn
            have t:=tail (List.nodup_cons.1 hn).2 (by simpa [J0] using hi)
            refine ⟨by simp [C1,t.1],fun h=>?_⟩
            simp only [K4,List.mem_cons] at h
            rcases h with e | h
            · subst e; exact(List.nodup_cons.1 hn).1 t.1
            · exact t.2 h
end
end Go.Eng
namespace Go.Eng
open Go.RowKit
section
variable {P:Program} {cx:Cx} {fr:Frm} {arg:Operand→Arg} {o:Oper} {R:Type} {KE:Eff→Option R} {res:R} {M M':Mem} {ρ:Nat→Place} {s:St} {a:Act} {w w':World}
theorem C3S{f:FuncId}{c:Contract}(hs:CSound P f c){x:Operand}{as:Array Operand}{ts:Array TypeId}(ho:o.op=.call { callee:=.value x,args:=as,argTypes:=ts })(hx:a.eval x=.func (.func f) #[] #[]) :
    (execOp a.eval o).run P w=.ok (.enter f (as.map a.eval)) w:=by
  have hb:=hs.body
  cases hf:P.funcs[f]? with
  | none=>rw [hf] at hb; simp at hb
  | some fn =>
    rw [hf] at hb
    simp only [Option.bind_eq_bind,Option.bind_some,Option.pure_def,Option.some.injEq,Bool.and_eq_true,bne_iff_ne,ne_eq] at hb
    have h1 : ¬ fn.name = "runtime.NumGoroutine" := hb.2
    obtain ⟨bd,hbd⟩:∃ bd,fn.body=some bd:=Option.isSome_iff_exists.1 hb.1
    simp [execOp,ho,resolve,hx,Deferred.ofValue,invoke,callFunc,hf,h1,hbd]
theorem All2.map'{α β γ:Type}{R:β→γ→Prop}{f:α→β}{g:α→γ}:∀ {l:List α},(∀ x∈l,R (f x) (g x))→All2 R (l.map f) (l.map g)
  | [],_=>.nil
  | x::l,h=>.cons (h x (by simp)) (All2.map' fun y hy=>h y (by simp [hy]))
theorem A4d{α β:Type}{R S:α→β→Prop}(h:∀ a b,R a b→S a b){l:List α}{m:List β}(k:All2 R l m):All2 S l m:=by
  induction k with
  | nil=>exact .nil
  | cons r _ ih=>exact .cons (h _ _ r) ih
theorem C3T{fresh:Option (Nat×Nat)}{pl:Place}{k:Nat}{vs:List Value}{rs:List MV}(h:ResOk M w fresh pl k vs rs)(hn:fresh=none)(hf:rs.all A7m=true)(M2:Mem):All2 (S3 M2) vs rs:=by
  induction h with
  | nil=>exact .nil
  | plain _ hp _ ih =>
    simp only [List.all_cons,Bool.and_eq_true] at hf
    refine .cons ?_ (ih hf.2)
    rename_i m _ _ _ _
    cases m <;> simp [A7m] at hf
    obtain ⟨cs,h1,h2⟩:=hp
    exact ⟨cs,E8.of_flat hf.1 h1,h2⟩
  | fresh he _ _ _ _=>rw [hn] at he; cases he
theorem B66{fresh:Option (Nat×Nat)}{pl:Place}{k:Nat}{vs:List Value}{rs:List MV}(h:ResOk M w fresh pl k vs rs)(hp:∀ i tid,fresh=some (k+i,tid)→∃ e l,rs[i]?=some (.d (.slice e) l)){M2:Mem}(hM:M.le M2)(hb:∀ b cap,pl=.at b cap→M2 b=w.heap[b]?):All2 (S3 M2) vs rs:=by
  induction h with
  | nil=>exact .nil
  | @plain k v m vs rs hne hpl _ ih =>
    refine .cons (hpl.mono hM) (ih fun i tid he=>?_)
    obtain ⟨e,l,h⟩:=hp (i+1) tid (by rw [he]; congr 2; omega)
    exact ⟨e,l,by simpa using h⟩
  | @fresh k tid o v m vs rs hfe hok hv hm ho _ ih =>
    refine .cons ?_ (ih fun i tid' he=>?_)
    · obtain ⟨e,l,h⟩:=hp 0 tid (by simpa using hfe)
      simp only [List.getElem?_cons_zero,Option.some.injEq] at h
      rw [hm] at h
      cases o with
      | gone=>exact hok.elim
      | bx t x =>
        simp only [MObj.asMV,MV.d.injEq] at h
        obtain ⟨rfl,_⟩:=h
        simp [A5T,A10] at hok
      | sl e' tid' l' =>
        subst hv hm
        simp only [Place.val,MObj.asMV]
        cases hpl:pl with
        | no =>
          rw [hpl] at ho
          have hl:l'=[]:=ho
          subst hl
          exact ⟨[_],⟨_,rfl,none,0,rfl,Nat.le_refl _,fun _=>rfl,fun h=>absurd rfl h⟩,by simp [C8,Ty.isAgg,Place.slice]⟩
        | «at» b cap =>
          rw [hpl] at ho
          obtain ⟨h1,h2,cur,h3,h4,cs,h5,h6⟩:=ho
          refine ⟨[_],⟨_,rfl,some ⟨b,0,none⟩,cap,rfl,h1,(fun h=>(by cases h)),(fun _=>⟨b,0,cur,tid',(0,0),rfl,?_,cs,h5.mono (fun _ _ k=>k.mono hM),by simpa using h6⟩)⟩,by simp [C8,Ty.isAgg,Place.slice]⟩
          rw [hb b cap hpl]; exact h3
    · rw [hfe] at he
      simp only [Option.some.injEq,Prod.mk.injEq] at he
      omega
theorem B2x{tid:Nat}{o:MObj}{t:Ty}{x:t.den}(hok:A5T tid o)(h:MV.d t x=o.asMV):o=B8m tid t x:=by
  cases o with
  | gone=>exact hok.elim
  | bx t' y =>
    simp only [MObj.asMV,MV.d.injEq] at h
    obtain ⟨rfl,h⟩:=h
    have h:=eq_of_heq h
    subst h
    cases t <;> first | rfl | simp [A5T,A10] at hok
  | sl e t' l =>
    simp only [MObj.asMV,MV.d.injEq] at h
    obtain ⟨rfl,h⟩:=h
    have h:=eq_of_heq h
    subst h
    have:t'=tid:=hok
    subst this
    rfl
theorem D0K{pl:Place}:∀ {k:Nat} {vs:List Value} {rs:List MV} {j tid:Nat} {t:Ty} {x:t.den},ResOk M w (some (k+j,tid)) pl k vs rs→rs[j]?=some (.d t x)→P9 M w pl (B8m tid t x):=by
  intro k vs rs j
  induction j generalizing k vs rs with
  | zero =>
    intro tid t x h hj
    cases h with
    | nil=>simp at hj
    | plain hne _ _=>simp at hne
    | fresh he hok hv hm ho _ =>
      simp only [List.getElem?_cons_zero,Option.some.injEq] at hj
      simp only [Nat.add_zero,Option.some.injEq,Prod.mk.injEq,true_and] at he
      subst he
      rw [← B2x hok (hj.symm.trans hm)]
      exact ho
  | succ j ih =>
    intro tid t x h hj
    cases h with
    | nil=>simp at hj
    | plain hne hp ht =>
      have ht':=ht
      rw [show k+(j+1)=k+1+j by omega] at ht'
      exact ih ht' (by simpa using hj)
    | fresh he _ _ _ _ _ =>
      simp only [Option.some.injEq,Prod.mk.injEq] at he
      omega
theorem C7u{pl:Place}{ρ':Nat→Place}{obj:Nat→MObj}{i:Nat}:∀ {k:Nat} {vs:List Value} {rs:List MV} {j tid:Nat} {t:Ty} {x:t.den},ResOk M w (some (k+j,tid)) pl k vs rs→rs[j]?=some (.d t x) →
    obj i=B8m tid t x→ρ' i=pl→All2 (X2 M ρ' obj) vs (A3k rs j (C3J i t)):=by
  intro k vs rs j
  induction j generalizing k vs rs with
  | zero =>
    intro tid t x h hj ho hp
    cases h with
    | nil=>simp at hj
    | plain hne _ _=>simp at hne
    | @fresh _ tid' o v m vs rs he hok hv hm hob ht =>
      simp only [List.getElem?_cons_zero,Option.some.injEq] at hj
      have ht':tid'=tid:=by simpa using he.symm
      subst ht'
      have hO:=B2x hok (hj.symm.trans hm)
      simp only [A3k]
      refine .cons ?_ ?_
      · rw [hv]
        cases o with
        | gone=>exact hok.elim
        | sl e t' l =>
          have hm':=hj.symm.trans hm
          simp only [MObj.asMV,MV.d.injEq] at hm'
          obtain ⟨rfl,_⟩:=hm'
          exact ⟨e,t',l,by rw [ho,← hO],by rw [hp]; rfl⟩
        | bx t' y =>
          have hm':=hj.symm.trans hm
          simp only [MObj.asMV,MV.d.injEq] at hm'
          obtain ⟨rfl,_⟩:=hm'
          have hns:A10 t=true:=hok
          have hr:C3J i t=.pa i []:=by cases t <;> first | rfl | simp [A10] at hns
          rw [hr]
          cases hpl:pl with
          | no=>rw [hpl] at hob; exact hob.elim
          | «at» b cap =>
            have hoi:obj i=.bx t y:=by rw [ho,← hO]
            refine ⟨b,t,by rw [hp,hpl]; rfl,?_,?_,?_⟩
            · rw [hoi]; exact A2L t
            · rw [hoi]; exact W7 t
            · rw [hoi]; simp [Place.val,A4y,N8]
      -- behind it all are plain
      · have:∀ {q:Nat} {vs:List Value} {rs:List MV},k < q→ResOk M w (some (k+0,tid')) pl q vs rs→All2 (X2 M ρ' obj) vs rs:=by
          intro q vs rs hq h
          induction h with
          | nil=>exact .nil
          | plain _ hp _ ih=>exact .cons (hp.rel _ _) (ih (by omega))
          | fresh he _ _ _ _ _ _=>simp only [Option.some.injEq,Prod.mk.injEq] at he; omega
        exact this (by omega) ht
  | succ j ih =>
    intro tid t x h hj ho hp
    cases h with
    | nil=>simp at hj
    | plain hne hpl ht =>
      have ht':=ht
      rw [show k+(j+1)=k+1+j by omega] at ht'
      exact .cons (hpl.rel _ _) (ih ht' (by simpa using hj) ho hp)
    | fresh he _ _ _ _ _ =>
      simp only [Option.some.injEq,Prod.mk.injEq] at he
      omega
theorem A6W{obj:Nat→MObj}{vs:List Value}{rs:List MV}(h:All2 (X2 M ρ obj) vs rs):A0c M ρ obj (A2V vs) (A6k rs):=by
  cases h with
  | nil=>exact ⟨[],rfl,.nil⟩
  | cons h1 h2 =>
    cases h2 with
    | nil=>exact h1
    | cons h2 h3=>exact ⟨_,rfl,.cons h1 (.cons h2 h3)⟩
theorem Good.learn(g:Good fr M ρ s a w)(hM:M.le M')(hm:A2O M' w)(hn:∀ i b,s.obj i≠.gone→(ρ i).blk=some b→M' b=none)(hk:∀ b,b < fr.w0.heap.size→¬ fr.bor b→M' b=M b):Good fr M' ρ s a w :=
  ⟨fun t=>(g.env t).mono0 hM fun _=>A0r.refl _,g.size,g.defers,hm,g.old.trans hM,fun i=>(g.objs i).carry hM fun _ _ _=>rfl,
   fun i b h1 h2=>⟨hn i b h1 h2,(g.apart i b h1 h2).2⟩,g.since,fun b h1 h2=>(hk b h1 h2).trans (g.keep b h1 h2)⟩
theorem Good.adopt(g:Good fr M ρ s a w){dst:Option Nat}(hd:F9 fr.n dst=true){i:Nat}{o:MObj}{pl:Place}(ho:P9 M w pl o)
    (hpl:∀ b,pl.blk=some b→M b=none∧b < w.heap.size∧(fr.w0.heap.size≤b∨fr.bor b)∧∀ j,j≠i→s.obj j≠.gone→(ρ j).blk≠some b) {v:Value} {sv:SV}
    (hv:A0c M (Place.upd ρ i pl) (fun id=>if id=i then o else s.obj id) v sv) :
    Good fr M (Place.upd ρ i pl) (({ rep:=[(i,.dead)],objs:=[(i,o)],val:=sv }:Eff).app dst s) (a.put dst v) w:=by
  have hobj:(fun id=>(E7 [(i,o)] id).getD (s.obj id))=fun id=>if id=i then o else s.obj id:=by
    funext id; rw [A1S]; split <;> rfl
  have hpt:∀ id,(E7 [(i,o)] id).getD (s.obj id)=if id=i then o else s.obj id:=fun id=>congrFun hobj id
  refine g.step hd (.refl M) g.mem g.since (fun id=>?_) (fun id b hne hb=>?_) (fun m v h=>?_) ?_ (fun _ _ _=>rfl)
  · show P9 M w (Place.upd ρ i pl id) ((E7 [(i,o)] id).getD (s.obj id))
    rw [hpt]; unfold Place.upd
    split
    · exact ho
    · exact g.objs id
  · have hne':((E7 [(i,o)] id).getD (s.obj id))≠.gone:=hne
    rw [hpt] at hne'
    have hb':(Place.upd ρ i pl id).blk=some b:=hb
    unfold Place.upd at hb'
    have A4D:∀ id',id'≠id→(if id'=i then o else s.obj id')≠.gone→(Place.upd ρ i pl id').blk≠some b→True:=fun _ _ _ _=>trivial
    by_cases hid:id=i
    · subst hid
      rw [if_pos rfl] at hb'
      obtain ⟨h1,h2,h3,h4⟩:=hpl b hb'
      refine ⟨h1,h2,h3,fun id' hn' hg' hb2=>?_⟩
      have hg2:((E7 [(id,o)] id').getD (s.obj id'))≠.gone:=hg'
      rw [hpt,if_neg hn'] at hg2
      have hb3:(Place.upd ρ id pl id').blk=some b:=hb2
      unfold Place.upd at hb3
      rw [if_neg hn'] at hb3
      exact h4 id' hn' hg2 hb3
    · rw [if_neg hid] at hne' hb'
      have hx:=g.apart id b hne' hb'
      refine ⟨hx.1,hx.2.1,hx.2.2.1,fun id' hn' hg' hb2=>?_⟩
      have hg2:((E7 [(i,o)] id').getD (s.obj id'))≠.gone:=hg'
      rw [hpt] at hg2
      have hb3:(Place.upd ρ i pl id').blk=some b:=hb2
      unfold Place.upd at hb3
      by_cases hi':id'=i
      · subst hi'
        rw [if_pos rfl] at hb3
        exact(hpl b hb3).2.2.2 id hid hne' hb'
      · rw [if_neg hi'] at hg2 hb3
        exact hx.2.2.2 id' hn' hg2 hb3
  · show X2 M (Place.upd ρ i pl) (fun id=>(E7 [(i,o)] id).getD (s.obj id)) v (m.reps [(i,.dead)])
    rw [hobj,MV.reps_one]
    by_cases hid:m.id?=some i
    · cases m <;> simp [MV.id?] at hid
      all_goals subst hid; simp [MV.repl,X2]
    · rw [MV.repl_other hid]
      refine h.mono (.refl M) fun id hi=>?_
      have hne:id≠i:=fun e=>hid (by rw [hi,e])
      exact ⟨by simp [Place.upd,hne],by simp [hne,A0r.refl]⟩
  · show A0c M (Place.upd ρ i pl) (fun id=>(E7 [(i,o)] id).getD (s.obj id)) v sv
    rw [hobj]; exact hv
end
end Go.Eng
namespace Go.Eng
open Go.RowKit
section
variable {P:Program} {cx:Cx} {fr:Frm} {arg:Operand→Arg} {o:Oper} {R:Type} {KE:Eff→Option R} {res:R}
theorem A2W{f:FuncId}{args:Array Value}{a:Act}{w:World}{next:Act→World→Prop}{Q:Exit→Act→World→Prop}(h:(execOp a.eval o).run P w=.ok (.enter f args) w)
    (k:Calls P f args w fun e w'=>∃ v,e=.returned v∧next (a.put o.dst v) w'):o.wp P a w next Q:=by
  unfold Oper.wp
  rw [h]
  refine k.mono fun e w' hh=>?_
  obtain ⟨v,rfl,hn⟩:=hh
  exact hn
theorem B8A{α β:Type}{x:Option α}{f:α→Option β}{b:β}(h:x.bind f=some b):∃ a,x=some a∧f a=some b:=by
  cases x with
  | none=>cases h
  | some a=>exact ⟨a,rfl,h⟩
theorem A3y:∀ {ms:List Mode} (xs:List Arg),A1d ms=true→C1 ms xs=[]
  | [],xs,_=>by cases xs <;> rfl
  | .ro::ms,[],_=>rfl
  | .ro::ms,_::xs,h=>A3y (ms:=ms) xs h
  | .bor::ms,_,h=>by simp [A1d] at h
  | .wr _::ms,_,h=>by simp [A1d] at h
  | .con _::ms,_,h=>by simp [A1d] at h
theorem A9b{M:Mem}{w:World}:∀ {ms:List Mode} {outs rs:List MV},A1d ms=true→BackOk M w ms [] outs rs→rs=outs
  | [],_,_,_,.nil=>rfl
  | .ro::ms,_,_,h,.ro hb=>A9b (ms:=ms) h hb
theorem A9c{M:Mem}{w:World}:∀ {ms:List Mode} {vs:List Value} {mvs:List MV},A1d ms=true→ArgsOk M w ms vs mvs []→All2 (S3 M) vs mvs
  | [],_,_,_,.nil=>.nil
  | .ro::ms,_,_,h,.ro hp hb=>.cons hp (A9c (ms:=ms) h hb)
theorem C3U{M M2:Mem}{vs:List Value}{rs:List MV}(h:All2 (S3 M) vs rs)(hf:rs.all A7m=true):All2 (S3 M2) vs rs:=by
  induction h with
  | nil=>exact .nil
  | cons hp _ ih =>
    simp only [List.all_cons,Bool.and_eq_true] at hf
    refine .cons ?_ (ih hf.2)
    rename_i m _ _ _
    cases m <;> simp [A7m] at hf
    obtain ⟨cs,h1,h2⟩:=hp
    exact ⟨cs,E8.of_flat hf.1 h1,h2⟩
theorem B0i{dst:Option Nat}{fresh:Option (Nat×Nat)}{e:Eff}{cid:Option Nat}{rs:List MV}(h:B4D cx dst KE fresh e cid rs=some res) :
    (dst=none∧KE { e with val:=.one .dead }=some res)∨(∃ t,dst=some t∧A1K fresh rs=true∧KE { e with val:=A6k rs }=some res) ∨
    ∃ t j tj t1 x,dst=some t∧fresh=some (j,tj)∧rs[j]?=some (.d t1 x) ∧
      KE { rep:=e.rep++[(cid.getD t,.dead)],objs:=(cid.getD t,B8m tj t1 x)::e.objs,val:=A6k (A3k rs j (C3J (cid.getD t) t1)) }=some res:=by
  unfold B4D at h
  split at h
  · exact .inl ⟨rfl,h⟩
  · rename_i t
    cases hb:B4B cx.own t <;> rw [hb] at h <;> simp only [cond_true,cond_false] at h
    · cases hp:A1K fresh rs <;> rw [hp] at h <;> simp only [cond_true,cond_false,reduceCtorEq] at h
      exact .inr (.inl ⟨t,rfl,rfl,h⟩)
    · split at h
      · rename_i j tj
        split at h
        · rename_i m hm
          split at h
          · rename_i t1 x
            exact .inr (.inr ⟨t,j,tj,t1,x,rfl,rfl,hm,h⟩)
          · cases h
        · cases h
      · cases h
theorem A7C{fresh:Option (Nat×Nat)}{rs:List MV}(h:A1K fresh rs=true):∀ i tid,fresh=some (0+i,tid)→∃ e l,rs[i]?=some (.d (.slice e) l):=by
  intro i tid he
  rw [he] at h
  simp only [A1K,Nat.zero_add] at h
  split at h
  · rename_i t x hx
    rw [hx]
    cases t <;> first | exact ⟨_,_,rfl⟩ | simp [A10] at h
  · cases h
theorem B2y(hcalls:∀ f c,cx.call f=some c→A8G P f c){f:FuncId}{ob:MObj}{xs:List Arg}(hd:F9 fr.n o.dst=true)
    (hset:∀ (M:Mem) (ρ:Nat→Place) (s:St) (a:Act) (w:World),Good fr M ρ s a w→(∀ y∈o.op.operands,s.arg y=arg y) →
      ∃ vs:List Value,All2 (ArgIs M ρ s) vs xs∧(∀ {c:Contract},CSound P f c→(execOp a.eval o).run P w=.ok (.enter f vs.toArray) w)∧∀ u,(callFunc f vs.toArray).run P w=.ok (.value u) w→(execOp a.eval o).run P w=.ok (.value u) w)
    (h:B8n cx o.dst KE (.one (.fn f),ob) xs=some res):∃ e,KE e=some res∧N1 P fr arg o e:=by
  unfold B8n at h
  simp only at h
  split at h
  case h_2=>cases h
  rename_i c hc
  have hcm:=hcalls f c hc
  split at h
  case h_2=>cases h
  rename_i told htold
  rw [hcm.nat] at h
  obtain ⟨outs,houts,h⟩:=B8A h
  rcases hcm with hcs | hce
  rotate_left
  · rw [hce.keeps] at h
    simp only [cond_true] at h
    cases hb:(A1d c.modes && (outs.all A7m && c.fresh.isNone)) <;> rw [hb] at h <;> simp only [cond_true,cond_false,reduceCtorEq] at h
    simp only [Bool.and_eq_true] at hb
    refine ⟨_,h,fun M ρ s a w Q g ha=>?_⟩
    obtain ⟨vs,hargs,_,hval⟩:=hset M ρ s a w g ha
    obtain ⟨M1,hM1,g1,hdat,_⟩:=g.freezeAll _ _ ((A4d (fun v y (h:ArgIs M ρ s v y)=>h.pz) hargs).ro c.modes)
    have hh:C1 c.modes xs=[]:=A3y _ hb.1
    have hok:=A2n g1 c.modes _ _ told htold hargs hdat (by rw [hh]; intro i hi; simp at hi)
    rw [hh] at hok
    obtain ⟨us,hrun,hall⟩:=hce.runs told outs houts M1 w _ (A9c hb.1 hok)
    have hrun':=hval _ hrun
    have hflat:=C3U (M2:=M) hall hb.2.1
    have hrel:A0c M ρ s.obj (A2V us) (A6k outs):=A6W (A4d (fun _ _ h=>h.rel _ _) hflat)
    refine G4 hrun' ⟨M,ρ,?_⟩
    refine g.quiet hd (.refl M) g.mem (Since.refl _ _) (fun _ _=>rfl) ?_
    cases hdst:o.dst with
    | none=>trivial
    | some t=>exact hrel
  -- what holds wherever the operands are so
  have setup:∀ (M:Mem) (ρ:Nat→Place) (s:St) (a:Act) (w:World),Good fr M ρ s a w→(∀ y∈o.op.operands,s.arg y=arg y) →
      ∃ vs:List Value,(execOp a.eval o).run P w=.ok (.enter f vs.toArray) w∧All2 (ArgIs M ρ s) vs xs:=by
    intro M ρ s a w g ha
    obtain ⟨vs,hargs,hent,_⟩:=hset M ρ s a w g ha
    exact ⟨vs,hent hcs,hargs⟩
  cases hk:c.keeps with
  | true =>
    rw [hk] at h
    simp only [cond_true] at h
    cases hb:(A1d c.modes && (outs.all A7m && c.fresh.isNone)) <;> rw [hb] at h <;> simp only [cond_true,cond_false,reduceCtorEq] at h
    simp only [Bool.and_eq_true] at hb
    refine ⟨_,h,fun M ρ s a w Q g ha=>?_⟩
    obtain ⟨vs0,hrun,hargs⟩:=setup M ρ s a w g ha
    refine A2W hrun ?_
    obtain ⟨M1,hM1,g1,hdat,_⟩:=g.freezeAll _ _ ((A4d (fun v y (h:ArgIs M ρ s v y)=>h.pz) hargs).ro c.modes)
    have hh:C1 c.modes xs=[]:=A3y _ hb.1
    have hok:=A2n g1 c.modes _ _ told htold hargs hdat (by rw [hh]; intro i hi; simp at hi)
    rw [hh] at hok
    have hcall:=hcs.runs told outs houts M1 w _ [] g1.mem hok List.nodup_nil (by simp [D6])
    refine hcall.mono fun e w' hp=>?_
    obtain ⟨M',rs,vs,pl,he,hMM,hm,hs,hkeep,hback,hres,hpl⟩:=hp
    have hrs:=A9b hb.1 hback
    subst hrs
    refine ⟨_,he,M,ρ,?_⟩
    have hflat:=C3T hres (Option.isNone_iff_eq_none.1 hb.2.2) hb.2.1 M
    have hs':Since (fun _=>False) w w':=⟨hs.os,hs.tape,hs.output,hs.size,fun b hb _=>hs.block b hb (by simp [D6])⟩
    have hrel:A0c M ρ s.obj (A2V vs) (A6k rs):=A6W (A4d (fun _ _ h=>h.rel _ _) hflat)
    refine g.quiet hd (.refl M) (g.mem.since hs' fun _ _ _ h=>h) hs' (fun _ _=>rfl) ?_
    cases hdst:o.dst with
    | none=>trivial
    | some t=>exact hrel
  | false =>
    rw [hk] at h
    simp only [cond_false] at h
    cases hb:(X3 (C1 c.modes xs) && B2e (C1 c.modes xs) (A1Q (W8 c.modes xs))) <;> rw [hb] at h <;> simp only [cond_true,cond_false,reduceCtorEq] at h
    simp only [Bool.and_eq_true] at hb
    have hnd:=A4B hb.1
    have hno:∀ i∈C1 c.modes xs,i ∉ A1Q (W8 c.modes xs):=by
      intro i hi
      have:=List.all_eq_true.1 hb.2 i hi
      simp only [Bool.not_eq_true'] at this
      exact B65 this
    split at h
    case h_2=>cases h
    rename_i rep os r hcb
    -- the state behind the call,its results aside
    have mid:∀ (M:Mem) (ρ:Nat→Place) (s:St) (a:Act) (w:World),Good fr M ρ s a w→(∀ y∈o.op.operands,s.arg y=arg y) →
        ∃ vs0:List Value,(execOp a.eval o).run P w=.ok (.enter f vs0.toArray) w∧Calls P f vs0.toArray w fun e w'=>∃ M' vs pl,e=.returned (A2V vs) ∧
          Good fr M' ρ (({ rep:=A1c (W8 c.modes xs)++rep,objs:=os++N2 (W8 c.modes xs),val:=.one .dead }:Eff).app none s) a w'∧ResOk M' w' c.fresh pl 0 vs r ∧
          (∀ b,pl.blk=some b→M' b=none∧b < w'.heap.size∧(fr.w0.heap.size≤b∨fr.bor b)∧∀ j,(({ rep:=A1c (W8 c.modes xs)++rep,objs:=os++N2 (W8 c.modes xs),val:=.one .dead }:Eff).app none s).obj j≠.gone→(ρ j).blk≠some b):=by
      intro M ρ s a w g ha
      obtain ⟨vs0,hrun,hargs⟩:=setup M ρ s a w g ha
      refine ⟨vs0,hrun,?_⟩
      obtain ⟨M1,hM1,g1,hdat,_⟩:=g.freezeAll _ _ ((A4d (fun v y (h:ArgIs M ρ s v y)=>h.pz) hargs).ro c.modes)
      have hsame:∀ i∈C1 c.modes xs,(({ rep:=A1c (W8 c.modes xs),objs:=N2 (W8 c.modes xs),val:=.one .dead }:Eff).app none s).obj i=s.obj i:=fun i hi=>B8z (hno i hi) s
      have hok:=A2n g1 c.modes _ _ told htold hargs hdat hsame
      have hH:B2c s c.modes xs:=B2c.of (vs:=vs0) c.modes hargs
      have hH1:=B2c.congr c.modes _ hH hsame
      have hlive:=B4Z c.modes htold hH1
      have hblk:=A6o g1 hnd hlive
      have hcall:=hcs.runs told outs houts M1 w _ _ g1.mem hok (by rw [A3x]; exact hblk) (by
        rw [A3x]
        intro b hbm
        obtain ⟨i,hi,hib⟩:=List.mem_filterMap.1 hbm
        exact(g1.apart i b (hlive i hi) hib).1)
      refine hcall.mono fun e w' hp=>?_
      obtain ⟨M',rs,vs,pl,he,hMM,hm,hs,hkeep,hback,hres,hpl⟩:=hp
      have hcon:=B0h (ρ:=ρ) (s:=({ rep:=A1c (W8 c.modes xs),objs:=N2 (W8 c.modes xs),val:=.one .dead }:Eff).app none s) c.modes htold
      -- no block of an object that is not taken over is among those that are
      have hnc:∀ i b,i ∉ K4 c.modes xs→(({ rep:=A1c (W8 c.modes xs),objs:=N2 (W8 c.modes xs),val:=.one .dead }:Eff).app none s).obj i≠.gone→(ρ i).blk=some b →
          b ∉ H5 c.modes ((C1 c.modes xs).map fun i=>(ρ i,(({ rep:=A1c (W8 c.modes xs),objs:=N2 (W8 c.modes xs),val:=.one .dead }:Eff).app none s).obj i)):=by
        intro i b hi hg hib hmem
        obtain ⟨j,hj,hjb⟩:=hcon b hmem
        have hne:j≠i:=fun e=>hi (e ▸ hj)
        exact(g1.apart i b hg hib).2.2.2 j hne (hlive j (A0T _ _ j hj)) hjb
      have gS:=(GoodS.of g1 (fun i=>i∈C1 c.modes xs)).world hMM hm
        ⟨hs.os,hs.tape,hs.output,hs.size,fun b hb2 hn=>hs.block b hb2 fun hbm=>by
          rw [A3x] at hbm
          obtain ⟨i,hi,hib⟩:=List.mem_filterMap.1 hbm
          exact hn ⟨i,hi,hib,hlive i hi⟩⟩
        (fun i b hS hg hib=>by
          rw [hkeep b (g1.apart i b hg hib).2.1 (hnc i b (fun hc2=>hS (A0T _ _ i hc2)) hg hib)]
          exact(g1.apart i b hg hib).1)
        (fun b h1 h2=>by
          refine hkeep b (Nat.lt_of_lt_of_le h1 g.since.size) fun hmem=>?_
          obtain ⟨j,hj,hjb⟩:=hcon b hmem
          rcases (g1.apart j b (hlive j (A0T _ _ j hj)) hjb).2.2.1 with h3 | h3
          · omega
          · exact h2 h3)
      obtain ⟨hr,gB,hgone,hlv⟩:=C7t c.modes _ outs rep os r rs _ _ gS hcb hnd hH1 hback (fun i hi b hib=>by
        obtain ⟨h1,h2⟩:=B50 c.modes _ hnd i hi
        rw [hkeep b (g1.apart i b (hlive i h1) hib).2.1 (hnc i b h2 (hlive i h1) hib)]
        exact(g1.apart i b (hlive i h1) hib).1)
      subst hr
      rw [Eff.app_app] at gB hgone hlv
      have gF:=gB.good (fun i hi=>hi.2 hi.1)
      refine ⟨M',vs,pl,he,gF,hres,fun b hbp=>?_⟩
      obtain ⟨h1,h2,h3⟩:=hpl b hbp
      refine ⟨h1,h2,?_,fun j hj hjb=>?_⟩
      · rcases h3 with h3 | h3
        · exact .inl (Nat.le_trans g.since.size h3)
        · obtain ⟨j,hj,hjb⟩:=hcon b h3
          exact(g1.apart j b (hlive j (A0T _ _ j hj)) hjb).2.2.1
      · have hlj:=hlv j hj
        rcases h3 with h3 | h3
        · have:=(g1.apart j b hlj hjb).2.1; omega
        · obtain ⟨i,hi,hib⟩:=hcon b h3
          have hne:i≠j:=fun e=>hj (e ▸ hgone i hi)
          exact(g1.apart j b hlj hjb).2.2.2 i hne (hlive i (A0T _ _ i hi)) hib
    -- a fresh result that is not taken as an object is learnt
    have learn:A1K c.fresh r=true→∀ {M':Mem} {ρ:Nat→Place} {s':St} {a:Act} {w':World} {vs:List Value} {pl:Place},Good fr M' ρ s' a w'→ResOk M' w' c.fresh pl 0 vs r →
        (∀ b,pl.blk=some b→M' b=none∧b < w'.heap.size∧(fr.w0.heap.size≤b∨fr.bor b)∧∀ j,s'.obj j≠.gone→(ρ j).blk≠some b)→∃ M2,Good fr M2 ρ s' a w'∧All2 (S3 M2) vs r:=by
      intro hpf M' ρ s' a w' vs pl g hres hpl
      have hpf:=A7C hpf
      cases hp:pl with
      | no=>exact ⟨M',g,B66 hres hpf (.refl M') fun b cap e=>by rw [hp] at e; cases e⟩
      | «at» b cap =>
        obtain ⟨h1,h2,h3,h4⟩:=hpl b (by rw [hp]; rfl)
        have hle:=Mem.le_add (o:=w'.heap[b]?) h1
        refine ⟨M'.add b w'.heap[b]?,g.learn hle ?_ ?_ ?_,B66 hres hpf hle fun b' cap' e=>?_⟩
        · intro k ob hk
          unfold Mem.add at hk
          split at hk
          · rename_i e; rw [e]; exact hk
          · exact g.mem k ob hk
        · intro i k hg hk
          unfold Mem.add
          rw [if_neg (fun e=>h4 i hg (by rw [hk,e]))]
          exact(g.apart i k hg hk).1
        · intro k hk1 hk2
          unfold Mem.add
          rw [if_neg]
          intro e
          subst e
          rcases h3 with h3 | h3
          · omega
          · exact hk2 h3
        · rw [hp] at e; cases e; unfold Mem.add; rw [if_pos rfl]
    rcases B0i h with ⟨hdst,hK⟩ | ⟨t,hdst,hpf,hK⟩ | ⟨t,j,tj,t1,y,hdst,hfr,hj,hK⟩
    · refine ⟨_,hK,fun M ρ s a w Q g ha=>?_⟩
      obtain ⟨vs0,hrun,hcall⟩:=mid M ρ s a w g ha
      refine A2W hrun (hcall.mono fun e w' hh=>?_)
      obtain ⟨M',vs,pl,he,gF,hres,hpl⟩:=hh
      refine ⟨_,he,M',ρ,?_⟩
      rw [hdst]
      exact gF
    · refine ⟨_,hK,fun M ρ s a w Q g ha=>?_⟩
      obtain ⟨vs0,hrun,hcall⟩:=mid M ρ s a w g ha
      refine A2W hrun (hcall.mono fun e w' hh=>?_)
      obtain ⟨M',vs,pl,he,gF,hres,hpl⟩:=hh
      obtain ⟨M2,g2,hall⟩:=learn hpf gF hres hpl
      have G:=g2.pure (dst:=o.dst) hd (A6W (A4d (fun _ _ h=>h.rel ρ _) hall))
      rw [Eff.app_app,List.append_nil,List.nil_append] at G
      exact ⟨_,he,M2,ρ,G⟩
    · refine ⟨_,hK,fun M ρ s a w Q g ha=>?_⟩
      obtain ⟨vs0,hrun,hcall⟩:=mid M ρ s a w g ha
      refine A2W hrun (hcall.mono fun e w' hh=>?_)
      obtain ⟨M',vs,pl,he,gF,hres,hpl⟩:=hh
      have hres':=hres
      rw [hfr] at hres'
      have hat:=D0K (j:=j) (k:=0) (by simpa using hres') hj
      have hset:=C7u (j:=j) (k:=0) (ρ':=Place.upd ρ ((B8l c.modes xs).getD t) pl)
        (obj:=fun id=>if id=(B8l c.modes xs).getD t then B8m tj t1 y else(({ rep:=A1c (W8 c.modes xs)++rep,objs:=os++N2 (W8 c.modes xs),val:=.one .dead }:Eff).app none s).obj id)
        (i:=(B8l c.modes xs).getD t) (by simpa using hres') hj (by simp) (by simp [Place.upd])
      have G:=gF.adopt (dst:=o.dst) hd (i:=(B8l c.modes xs).getD t) hat (fun b hb2=>by
        obtain ⟨h1,h2,h3,h4⟩:=hpl b hb2
        exact ⟨h1,h2,h3,fun j _ hj2=>h4 j hj2⟩) (A6W hset)
      rw [Eff.app_app] at G
      exact ⟨_,he,M',_,G⟩
theorem B8B(hcalls:∀ f c,cx.call f=some c→A8G P f c){x:Operand}{as:Array Operand}{ts:Array TypeId}(hd:F9 fr.n o.dst=true)(ho:o.op=.call { callee:=.value x,args:=as,argTypes:=ts })
    (h:B8n cx o.dst KE (arg x) (as.toList.map arg)=some res):∃ e,KE e=some res∧N1 P fr arg o e:=by
  have hfn:∃ f ob,arg x=(.one (.fn f),ob):=by
    unfold B8n at h
    split at h
    · rename_i f ob hx; exact ⟨f,ob,hx⟩
    · cases h
  obtain ⟨f,ob,hx⟩:=hfn
  rw [hx] at h
  refine B2y hcalls hd (fun M ρ s a w g ha=>?_) h
  have hfx:=(g.arg' ((ha x (by rw [ho]; simp [Op.operands,Call.operands])).trans hx)).fn
  have e0:(as.toList.map a.eval).toArray=as.map a.eval:=by apply Array.ext'; simp
  refine ⟨as.toList.map a.eval,All2.map' fun y hy=>g.arg' (ha y (by have hy':y∈as:=Array.mem_toList_iff.1 hy; rw [ho]; simp [Op.operands,Call.operands,hy'])),fun hcs=>?_,fun u hrun=>?_⟩
  · rw [e0]; exact C3S hcs ho hfx
  · rw [e0] at hrun
    simp only [execOp,ho,resolve,hfx]
    simpa [Deferred.ofValue,invoke] using hrun
theorem A3z(hcf:T3 P cx)(hcalls:∀ f c,cx.call f=some c→A8G P f c){x:Operand}{name:String}{as:Array Operand}{ts:Array TypeId}(hd:F9 fr.n o.dst=true)(ho:o.op=.call { callee:=.invoke x name,args:=as,argTypes:=ts })
    {ov:Option Nat} {ob:MObj} (hx:arg x=(.one (.d .ifc ov),ob)):∀ l:List (Nat×TyRow),D0H cx o.dst KE name ov (as.toList.map arg) l=some res→∃ e,KE e=some res∧N1 P fr arg o e
  | [],h=>by cases h
  | (t,r0)::l,h=>by
    simp only [D0H] at h
    split at h
    case h_2=>cases h
    rename_i r hr
    split at h
    case h_2=>exact A3z hcf hcalls hd ho hx l h
    rename_i f u hm
    cases hz:(u.isAgg && Nat.beq u.sz 0) <;> rw [hz] at h <;> simp only [cond_true,cond_false,reduceCtorEq] at h
    simp only [Bool.and_eq_true,B2] at hz
    cases hb:B8j ov t <;> rw [hb] at h <;> simp only [cond_true,cond_false] at h
    · exact A3z hcf hcalls hd ho hx l h
    have hov:ov=some t:=by
      unfold B8j at hb
      split at hb
      · rw [(B2 _ _).1 hb]
      · cases hb
    subst hov
    have hmem:(name,f,u)∈r.meth:=by
      revert hm
      generalize r.meth=L
      induction L with
      | nil=>intro h; cases h
      | cons p L ih =>
        obtain ⟨m,g⟩:=p
        intro h
        simp only [C7k] at h
        cases hd:decide (m=name) <;> rw [hd] at h <;> simp only [cond_true,cond_false] at h
        · exact List.mem_cons_of_mem _ (ih h)
        · cases h; rw [of_decide_eq_true hd]; exact List.mem_cons_self
    have hmeth:=(hcf _ _ hr).meth _ hmem
    refine B2y hcalls hd (fun M ρ s a w g ha=>?_) h
    obtain ⟨cs,hf,hv⟩:=(g.arg' ((ha x (by rw [ho]; simp [Op.operands,Call.operands])).trans hx)).rel
    have hcs:cs=[D4E (some t)]:=hf
    subst hcs
    have hv':a.eval x=.iface t (.agg #[]):=by rw [hv]; simp [C8,Ty.isAgg,D4E]
    have hrecv:ArgIs M ρ s (.agg #[]) (.one (.d u (dflt u)),.gone):=by
      refine ⟨⟨A5e u,E8.zero M u,?_⟩,fun id h=>by cases h⟩
      have hl:=(E8.zero M u).length
      rw [hz.2] at hl
      rw [List.eq_nil_of_length_eq_zero hl]
      simp [C8,hz.1]
    refine ⟨.agg #[]::as.toList.map a.eval,.cons hrecv (All2.map' fun y hy=>g.arg' (ha y (by have hy':y∈as:=Array.mem_toList_iff.1 hy; rw [ho]; simp [Op.operands,Call.operands,hy']))),fun hcs=>?_,fun u hrun=>?_⟩
    all_goals
      have e1:(Value.agg #[]::as.toList.map a.eval).toArray=#[Value.agg #[]]++as.map a.eval:=by apply Array.ext'; simp
      have e2:(#[a.eval x]++as.map a.eval)[0]?=some (.iface t (.agg #[])):=by rw [hv']; simp [Array.getElem?_append]
      have e3:(#[a.eval x]++as.map a.eval).extract 1 (#[a.eval x]++as.map a.eval).size=as.map a.eval:=by
        apply Array.ext'; simp; rw [List.take_of_length_le (by simp)]
    · have hbd:=hcs.body
      cases hf:P.funcs[f]? with
      | none=>rw [hf] at hbd; simp at hbd
      | some fn =>
        rw [hf] at hbd
        simp only [Option.bind_eq_bind,Option.bind_some,Option.pure_def,Option.some.injEq,Bool.and_eq_true,bne_iff_ne,ne_eq] at hbd
        have h1 : ¬ fn.name = "runtime.NumGoroutine" := hbd.2
        obtain ⟨bd,hbd2⟩:∃ bd,fn.body=some bd:=Option.isSome_iff_exists.1 hbd.1
        rw [e1]
        simp only [execOp,ho,resolve,Sem.run_bind,Sem.run_pure,Result.andThen_ok,invoke,e2,e3,callMethod]
        simp [hmeth w,callFunc,hf,h1,hbd2]
    · rw [e1] at hrun
      simp only [execOp,ho,resolve,Sem.run_bind,Sem.run_pure,Result.andThen_ok,invoke,e2,e3,callMethod]
      simp [hmeth w]
      exact hrun
end
end Go.Eng
