/- The laws of the models, part C. -/
import Derived.Test.YtdhfajmcakneiaaGreatLawsB
import Derived.Test.YtdhfajmcakneiaaGreatEngE
set_option linter.unusedVariables false
set_option linter.unusedSimpArgs false
namespace Go.Proofs.YtdhfajmcakneiaaGreat
open Go.Eng
theorem SmpOk_of{l:List Smp}(h:wfT (.slice (.pair (.int .i64) (.pair (.int .i64) .unit))) l):SmpOk l :=
 fun s hs=>⟨rng_i64 (h.2 s hs).1,rng_i64 (h.2 s hs).2.1⟩
def isum:List Int→Int
 | []=>0
 | x::t=>x+isum t
def lss:List Int→List Int
 | []=>[]
 | x::t=>(x - 1)::lss t
def mre:List Int→List Int
 | []=>[]
 | x::t=>(x+1)::mre t
theorem mre_lss:∀ l:List Int,mre (lss l)=l
 | []=>rfl
 | x::t=>by simp only [lss,mre,mre_lss t]; congr 1; omega
def hd(c v:List Int):List Int:=enc c.length++nE (lss c)++rE v
/- reading -/
def sat(T:Int):Int→List Int→Int
 | s,[]=>s
 | s,x::t=>sat T (min (s+(min x T+1)) (T+1)) t
theorem sat_top{T:Int}(hT:0≤T):∀ (l:List Int),Wd l→sat T (T+1) l=T+1
 | [],_=>rfl
 | x::t,hw=>by
  have hx:=Wd.head hw
  rw [sat,show min (T+1+(min x T+1)) (T+1)=T+1 by omega]
  exact sat_top hT t (Wd.tail hw)
def mrm(T:Int):List Int→List Int
 | []=>[]
 | x::t=>(min x T+1)::mrm T t
theorem Counts_loop(F:Nat){R:Type}(k:Int→List Int→Int→Option R){T:Int}(hT:0≤T∧T≤4096)(end_:Int){src:List Int}(hs:Wd src)(hb:src.length≤100000):∀ (rest pre out z:List Int) (s:Int),src=pre++rest→out.length=pre.length→z.length=rest.length→0≤s∧s≤T+1→∀ N,rest.length < N →
  records_Counts_l7 F k N T end_ (out++z) s src (src.length:Int) (pre.length:Int)=k end_ (out++mrm T rest) (sat T s rest):=by
 have hwT:IntKind.u64.wrap T=T:=wrap_u64 (by omega)
 intro rest
 induction rest with
 | nil =>
  intro pre out z s he ho hz hs N hN
  obtain ⟨N,rfl⟩:∃ M,N=M+1:=⟨N - 1,by omega⟩
  have:z=[]:=List.length_eq_zero_iff.1 hz
  subst this
  have hlen:src.length=pre.length:=by rw [he]; simp
  unfold records_Counts_l7
  simp (disch:=omega) only [bs,↓if_pos,↓if_neg]
  rfl
 | cons x rest ih =>
  intro pre out z s he ho hz hss N hN
  obtain ⟨N,rfl⟩:∃ M,N=M+1:=⟨N - 1,by omega⟩
  obtain ⟨y,z',rfl⟩:∃ y z',z=y::z':=by
   cases z with
   | nil=>simp at hz
   | cons y z'=>exact ⟨y,z',rfl⟩
  simp only [List.length_cons] at hN hz
  have hlen:src.length=pre.length+1+rest.length:=by rw [he]; simp; omega
  have g:getL 0 src (pre.length:Int)=x:=by rw [he]; exact get_mid pre x rest
  have hx:0≤x∧x≤18446744073709551615:=hs x (by rw [he]; simp)
  have st:setL (out++y::z') (pre.length:Int) (min x T+1)=(out++[min x T+1])++z':=by rw [← ho]; exact set_mid out y _ z'
  have gs:getL 0 ((out++[min x T+1])++z') (pre.length:Int)=min x T+1:=by rw [← ho,List.append_assoc]; exact get_mid out _ z'
  have hol:(out++y::z').length=pre.length+1+z'.length:=by simp; omega
  have hol2:(out++[min x T+1]++z').length=pre.length+1+z'.length:=by simp; omega
  have e:=ih (pre++[x]) (out++[min x T+1]) z' (min (s+(min x T+1)) (T+1)) (by rw [he]; simp) (by simp [ho]) (by omega) (by omega) N (by omega)
  have hpl:(((pre++[x]).length:Nat):Int)=(pre.length:Int)+1:=by simp
  rw [hpl] at e
  have hz2:out++[min x T+1]++mrm T rest=out++mrm T (x::rest):=by simp [mrm]
  rw [hz2] at e
  have hwm:IntKind.i64.wrap (min x T)=min x T:=wrap_i64 (by omega)
  have y1:addI .i64 (IntKind.wrap .i64 (minI x (IntKind.wrap .u64 T))) 1=min x T+1:=by rw [hwT,minI_eq,hwm,addI_i64 (by omega)]
  have y2:minI (addI .i64 s (min x T+1)) (addI .i64 T 1)=min (s+(min x T+1)) (T+1):=by rw [minI_eq,addI_i64 (by omega),addI_i64 (by omega)]
  have x1:ltI (pre.length:Int) (src.length:Int)=true:=by rw [ltI_true]; omega
  have x2:inI (pre.length:Int) src.length=true:=by rw [inI_true]; omega
  have x3:inI (pre.length:Int) (out++y::z').length=true:=by rw [inI_true]; omega
  have x4:inI (pre.length:Int) (out++[min x T+1]++z').length=true:=by rw [inI_true]; omega
  have xa:addI .i64 (pre.length:Int) 1=(pre.length:Int)+1:=addI_i64 (by omega)
  unfold records_Counts_l7
  simp only [x1,x2,x3,cond_true,g,y1,st,x4,gs,y2,xa]
  exact e
theorem rng_u32{x:Int}(h:(Lit.int .u32 x).wf=true):0≤x∧x≤4294967295:=by
 simpa [Lit.wf,IntKind.min,IntKind.max,IntKind.signed,IntKind.bits] using h
theorem rng_i32{x:Int}(h:(Lit.int .i32 x).wf=true):-2147483648≤x∧x≤2147483647:=by
 simpa [Lit.wf,IntKind.min,IntKind.max,IntKind.signed,IntKind.bits] using h
theorem Placed_eq(F:Nat)(b:List Int)(at_ T:Int):records_Placed F b at_ T=some (decide (0≤at_∧at_≤b.length∧0≤T∧T≤4096),()):=by
 unfold records_Placed leI lenI
 by_cases c1:0≤at_ <;> by_cases c2:at_≤b.length <;> by_cases c3:0≤T <;> by_cases c4:T≤4096 <;> simp [c1,c2,c3,c4]

theorem nE_le{l:List Int}(h:Wd l):(nE l).length≤1+10*l.length:=by
 have h1:=(nE_len h).1
 have h2:=encs_len h
 omega
theorem rE_le{l:List Int}(h:Sg l):(rE l).length≤2+10*l.length:=by
 have h1:=rE_least l (n:=0) (by omega)
 have h2:(rO 0 l).length=1+(nE (zs (dfn 0 l))).length:=by unfold rO; simp; omega
 have h3:=nE_le (zs_Wd (dfn_Sg 0 h))
 rw [zs_length,dfn_length] at h3
 omega
def Sz(v s:Nat):Prop:=v < 2 ^ s∧(v=0→s=0)∧(0 < v→1≤s∧2 ^ (s - 1)≤v)
theorem p64(k:Nat):(18446744073709551616:Nat) ^ k=2 ^ (64*k):=by rw [show(18446744073709551616:Nat)=2 ^ 64 from rfl,← Nat.pow_mul]
theorem Sz_zero:Sz 0 0:=⟨by omega,fun _=>rfl,fun h=>by omega⟩
theorem Sz_top{lo t s k:Nat}(hlo:lo < 2 ^ k)(ht:0 < t)(h:Sz t s):Sz (lo+2 ^ k*t) (k+s):=by
 obtain ⟨h1,_,h3⟩:=h
 obtain ⟨h4,h5⟩:=h3 ht
 have hk:0 < 2 ^ k:=Nat.pow_pos (by omega)
 refine ⟨?_,fun h=>?_,fun _=>⟨by omega,?_⟩⟩
 ·rw [Nat.pow_add]
  have:2 ^ k*(t+1)≤2 ^ k*2 ^ s:=Nat.mul_le_mul_left _ h1
  rw [Nat.mul_add] at this
  omega
 ·have:0 < 2 ^ k*t:=Nat.mul_pos hk ht
  omega
 ·rw [show k+s - 1=k+(s - 1) by omega,Nat.pow_add]
  have:2 ^ k*2 ^ (s - 1)≤2 ^ k*t:=Nat.mul_le_mul_left _ h5
  omega
theorem Sz_word{x:Int}(hx:0≤x∧x≤18446744073709551615):Sz x.toNat (Lib.bitLen x.toNat)∧Lib.bitLen x.toNat≤64:=by
 refine ⟨?_,Lib.bitLen_le _ 64 (by omega) (by omega)⟩
 unfold Lib.bitLen
 by_cases h:x.toNat=0
 ·rw [h,Lib.bitLenAux_zero]; exact Sz_zero
 ·have:=Lib.bitLenAux_bounds 64 x.toNat (by omega) h
  exact ⟨this.2.2,fun h0=>absurd h0 h,fun _=>⟨this.1,this.2.1⟩⟩
theorem Len64_eq(F:Nat){x:Int}(hx:0≤x∧x≤18446744073709551615):bits_Len64 F x=some ((Lib.bitLen x.toNat:Int),()):=by
 have:(leI 0 x && leI x 18446744073709551615)=true:=by simp only [Bool.and_eq_true,leI_true]; omega
 simp only [bits_Len64,this,cond_true]
theorem Sz_sub{a b s t:Nat}(ha:Sz a s)(hb:Sz b t)(h0:0 < b)(h:t≤s):a < b*2 ^ (s - t+1)∧b*2 ^ (s - t) < 2 ^ s:=by
 obtain ⟨h1,_,_⟩:=ha
 obtain ⟨h2,_,h3⟩:=hb
 obtain ⟨h4,h5⟩:=h3 h0
 constructor
 ·have:2 ^ (t - 1)*2 ^ (s - t+1)≤b*2 ^ (s - t+1):=Nat.mul_le_mul_right _ h5
  rw [← Nat.pow_add,show t - 1+(s - t+1)=s by omega] at this
  omega
 ·have:b*2 ^ (s - t) < 2 ^ t*2 ^ (s - t):=Nat.mul_lt_mul_of_pos_right h2 (Nat.pow_pos (by omega))
  rw [← Nat.pow_add,show t+(s - t)=s by omega] at this
  exact this
theorem Sz_less{a b s t:Nat}(ha:Sz a s)(hb:Sz b t)(h:s < t):a < b:=by
 obtain ⟨h1,_,_⟩:=ha
 obtain ⟨h2,h3,h4⟩:=hb
 have h0:0 < b:=by
  rcases Nat.eq_zero_or_pos b with h | h
  ·have:=h3 h; omega
  ·exact h
 obtain ⟨h5,h6⟩:=h4 h0
 have:2 ^ s≤2 ^ (t - 1):=Nat.pow_le_pow_right (by omega) (by omega)
 omega
structure Dv (a b m r d Q:Nat):Prop where
 hd:d=b*2 ^ m / 2
 hr:r < b*2 ^ m
 he:Q*b+r=a
 hQ:Q % 2 ^ m=0
theorem Dv.start{a b n:Nat}(h:a < b*2 ^ (n+1)):Dv a b (n+1) a (b*2 ^ n) 0 :=
 ⟨by rw [Nat.pow_succ,← Nat.mul_assoc]; omega,h,by omega,by simp⟩
theorem Dv.done{a b r d Q:Nat}(h:Dv a b 0 r d Q):Q=a / b∧r=a % b:=by
 obtain ⟨_,hr,he,_⟩:=h
 rw [Nat.pow_zero,Nat.mul_one] at hr
 have hb:0 < b:=by omega
 rw [← he]
 constructor
 ·rw [Nat.mul_comm,Nat.mul_add_div hb,Nat.div_eq_of_lt hr]; rfl
 ·rw [Nat.mul_comm,Nat.mul_add_mod,Nat.mod_eq_of_lt hr]
theorem Dv.step{a b m r d Q:Nat}(h:Dv a b (m+1) r d Q):if d≤r then Dv a b m (r - d) (d / 2) (Q+2 ^ m) else Dv a b m r (d / 2) Q:=by
 obtain ⟨hd,hr,he,hQ⟩:=h
 have e1:b*2 ^ (m+1)=2*(b*2 ^ m):=by rw [Nat.pow_succ,← Nat.mul_assoc,Nat.mul_comm]
 rw [e1] at hd hr
 have hd:d=b*2 ^ m:=by omega
 have e2:Q % 2 ^ m=0:=by
  rw [Nat.pow_succ] at hQ
  have:=Nat.mod_mul_right_mod Q (2 ^ m) 2
  rw [hQ,Nat.zero_mod] at this
  exact this.symm
 split
 ·refine ⟨by rw [hd],by omega,?_,?_⟩
  ·rw [Nat.add_mul,Nat.mul_comm (2 ^ m) b,← hd]; omega
  ·rw [Nat.add_mod_right]; exact e2
 ·exact ⟨by rw [hd],by omega,he,e2⟩
theorem or_bit{w:Int}(hw:0≤w∧w≤18446744073709551615){i:Nat}(hi:i < 64)(h:w.toNat % 2 ^ (i+1)=0) :
  orI .u64 w (shlI .u64 1 (i:Int))=w+((2 ^ i:Nat):Int)∧w+((2 ^ i:Nat):Int)≤18446744073709551615:=by
 have hp:2 ^ i < 2 ^ 64:=Nat.pow_lt_pow_right (by omega) hi
 have hp0:0 < 2 ^ i:=Nat.pow_pos (by omega)
 rw [shlI_u64 (by omega) (by omega),Int.toNat_natCast,Nat.min_eq_left (by omega)]
 rw [show(1:Int).toNat*2 ^ i % 2 ^ 64=2 ^ i by rw [show(1:Int).toNat=1 from rfl,Nat.one_mul,Nat.mod_eq_of_lt hp]]
 rw [orI_u64 hw (by omega),Int.toNat_natCast]
 obtain ⟨c,hc⟩:=Nat.dvd_of_mod_eq_zero h
 have hlt:2 ^ i < 2 ^ (i+1):=by rw [Nat.pow_succ]; omega
 have e:=Nat.two_pow_add_eq_or_of_lt hlt c
 rw [← hc] at e
 rw [← e]
 refine ⟨by omega,?_⟩
 have h64:(2:Nat) ^ 64=2 ^ (i+1)*2 ^ (64 - (i+1)):=by rw [← Nat.pow_add]; congr 1; omega
 have hw2:w.toNat < 2 ^ 64:=by omega
 rw [hc,h64] at hw2
 have hc2:c < 2 ^ (64 - (i+1)):=Nat.lt_of_mul_lt_mul_left hw2
 have:2 ^ (i+1)*(c+1)≤2 ^ (i+1)*2 ^ (64 - (i+1)):=Nat.mul_le_mul_left _ hc2
 rw [← h64,Nat.mul_add] at this
 omega
def setB(l:List Int)(i:Nat):List Int:=setL l ((i / 64:Nat):Int) (orI .u64 (getL 0 l ((i / 64:Nat):Int)) (shlI .u64 1 ((i % 64:Nat):Int)))
theorem setB_eq:∀ {l:List Int} {i:Nat},Wd l→i / 64 < l.length→wv l % 2 ^ (i+1)=0→Wd (setB l i)∧(setB l i).length=l.length∧wv (setB l i)=wv l+2 ^ i
 | [],i,_,h,_=>by simp at h
 | x::t,i,hw,hl,hm=>by
  have hx:=Wd.head hw
  by_cases hi:i < 64
  ·have e0:i / 64=0:=by omega
   have e1:i % 64=i:=by omega
   have hp:2 ^ (i+1) ∣ 18446744073709551616:=by
    rw [show(18446744073709551616:Nat)=2 ^ 64 from rfl]; exact Nat.pow_dvd_pow 2 (by omega)
   have hxm:x.toNat % 2 ^ (i+1)=0:=by
    simp only [wv] at hm
    obtain ⟨c,hc⟩:=hp
    rw [hc,Nat.mul_assoc,Nat.add_mul_mod_self_left] at hm
    exact hm
   obtain ⟨h1,h2⟩:=or_bit hx hi hxm
   have hp0:0 < 2 ^ i:=Nat.pow_pos (by omega)
   have es:setB (x::t) i=(x+((2 ^ i:Nat):Int))::t:=by
    unfold setB
    rw [e0,e1,show getL 0 (x::t) ((0:Nat):Int)=x from rfl,h1]
    rfl
   rw [es]
   refine ⟨Wd.cons (by omega) (Wd.tail hw),rfl,?_⟩
   simp only [wv]
   omega
  ·obtain ⟨j,rfl⟩:∃ j,i=j+64:=⟨i - 64,by omega⟩
   have e0:(j+64) / 64=j / 64+1:=by omega
   have e1:(j+64) % 64=j % 64:=by omega
   have e2:(2:Nat) ^ (j+64+1)=18446744073709551616*2 ^ (j+1):=by
    rw [show j+64+1=64+(j+1) by omega,Nat.pow_add]
   have e3:(2:Nat) ^ (j+64)=18446744073709551616*2 ^ j:=by
    rw [Nat.add_comm,Nat.pow_add]
   simp only [wv] at hm
   rw [e2,Nat.mod_mul] at hm
   have hb:(x.toNat+18446744073709551616*wv t) / 18446744073709551616=wv t:=by omega
   rw [hb] at hm
   have hm:wv t % 2 ^ (j+1)=0:=by omega
   obtain ⟨h1,h2,h3⟩:=setB_eq (l:=t) (i:=j) (Wd.tail hw) (by simp at hl; omega) hm
   have es:setB (x::t) (j+64)=x::setB t j:=by
    unfold setB
    rw [e0,e1]
    simp only [setL,getL,Int.toNat_natCast,List.set_cons_succ,List.getD_cons_succ]
   rw [es]
   refine ⟨Wd.cons hx h1,by simp [h2],?_⟩
   simp only [wv,h3,e3]
   omega
theorem low_zero{v n:Nat}{l:List Int}(h:l=ofn v)(hn:l.length=n+1):0 < getL 0 l (n:Int):=by
 subst h
 have hw:=ofn_Wd v
 have hg:=Wd.get hw (n:Int)
 rcases Int.lt_or_le 0 (getL 0 (ofn v) (n:Int)) with h | h
 ·exact h
 ·exfalso
  have h0:(ofn v).getD n 0=0:=by have:=getL_nat 0 (ofn v) n; omega
  have e1:(ofn v)=(ofn v).take n++[(ofn v).getD n 0]:=by
   rw [← take_snoc (by omega),List.take_of_length_le (by omega)]
  have e2:=congrArg wv e1
  rw [wv_ofn,wv_append,h0] at e2
  have e3:=wv_lt (Wd.take hw n)
  rw [List.length_take,Nat.min_eq_left (by omega)] at e3
  simp [wv] at e2
  have e4:=(ofn_len_iff (v:=v) (n:=n)).2 (by omega)
  omega
theorem ref02_size_eq(F:Nat){v:Nat}(hl:(ofn v).length≤1000):∃ s:Nat,Sz v s∧s≤64*(ofn v).length∧ref02_size F (ofn v)=some ((s:Int),()):=by
 by_cases h0:(ofn v).length=0
 ·have:=ofn_nil.1 h0
  subst this
  refine ⟨0,Sz_zero,by omega,?_⟩
  unfold ref02_size
  simp (disch:=omega) only [bs,↓if_pos,↓if_neg]
  rfl
 ·obtain ⟨n,hn⟩:∃ n,(ofn v).length=n+1:=⟨_,(Nat.succ_pred_eq_of_pos (by omega)).symm⟩
  have hw:=ofn_Wd v
  have hg:=Wd.get hw (n:Int)
  have hpos:=low_zero rfl hn
  obtain ⟨h1,h2⟩:=Sz_word hg
  have e1:(ofn v)=(ofn v).take n++[getL 0 (ofn v) (n:Int)]:=by
   rw [getL_nat,← take_snoc (by omega),List.take_of_length_le (by omega)]
  have e2:=congrArg wv e1
  have e3:=wv_lt (Wd.take hw n)
  rw [List.length_take,Nat.min_eq_left (by omega)] at e3
  rw [wv_ofn,wv_append,List.length_take,Nat.min_eq_left (by omega)] at e2
  simp only [wv,Nat.mul_zero,Nat.add_zero] at e2
  rw [p64] at e2 e3
  refine ⟨64*n+Lib.bitLen (getL 0 (ofn v) (n:Int)).toNat,?_,by omega,?_⟩
  ·have:=Sz_top e3 (by omega) h1
   rw [← e2] at this
   exact this
  ·unfold ref02_size
   have hc:((ofn v).length:Int) - 1=(n:Int):=by omega
   simp (disch:=omega) only [bs,↓if_pos,↓if_neg,hc,Len64_eq F hg]
   simp only [Int.natCast_add,Int.natCast_mul]
   rfl
theorem or_shl{x:Int}(hx:0≤x∧x≤18446744073709551615){r c:Nat}(hr:r < 64)(hc:c < 2 ^ r) :
  orI .u64 (c:Int) (shlI .u64 x (r:Int))=((c+x.toNat*2 ^ r % 18446744073709551616:Nat):Int)∧c+x.toNat*2 ^ r % 18446744073709551616 < 18446744073709551616:=by
 have h64:(18446744073709551616:Nat)=2 ^ r*2 ^ (64 - r):=by rw [← Nat.pow_add,show r+(64 - r)=64 by omega]
 have hm:x.toNat*2 ^ r % 18446744073709551616=2 ^ r*(x.toNat % 2 ^ (64 - r)):=by
  rw [h64,Nat.mul_comm x.toNat,Nat.mul_mod_mul_left]
 have hp:2 ^ r < 2 ^ 64:=Nat.pow_lt_pow_right (by omega) hr
 have hlt:x.toNat % 2 ^ (64 - r) < 2 ^ (64 - r):=Nat.mod_lt _ (Nat.pow_pos (by omega))
 have hsum:c+x.toNat*2 ^ r % 18446744073709551616 < 18446744073709551616:=by
  rw [hm]
  have:2 ^ r*(x.toNat % 2 ^ (64 - r)+1)≤2 ^ r*2 ^ (64 - r):=Nat.mul_le_mul_left _ hlt
  rw [← h64,Nat.mul_add] at this
  omega
 refine ⟨?_,hsum⟩
 rw [shlI_u64 hx.1 (by omega),Int.toNat_natCast,Nat.min_eq_left (by omega),show(2:Nat) ^ 64=18446744073709551616 from rfl]
 rw [orI_u64 (by omega) (by omega),Int.toNat_natCast,Int.toNat_natCast,hm,Nat.or_comm,← Nat.two_pow_add_eq_or_of_lt hc]
 omega
theorem shr_over{x:Int}(hx:0≤x∧x≤18446744073709551615){r:Nat}(hr:r < 64) :
  x.toNat*2 ^ r / 18446744073709551616 < 2 ^ r∧(0 < r→shrI .u64 x ((64 - r:Nat):Int)=((x.toNat*2 ^ r / 18446744073709551616:Nat):Int)):=by
 have h64:(18446744073709551616:Nat)=2 ^ (64 - r)*2 ^ r:=by rw [← Nat.pow_add,show 64 - r+r=64 by omega]
 have e:x.toNat*2 ^ r / 18446744073709551616=x.toNat / 2 ^ (64 - r):=by
  rw [h64,Nat.mul_div_mul_right _ _ (Nat.pow_pos (by omega))]
 rw [e]
 constructor
 ·rw [Nat.div_lt_iff_lt_mul (Nat.pow_pos (by omega)),Nat.mul_comm,← h64]
  omega
 ·intro h0
  rw [shrI_nat hx.1,Int.toNat_natCast,Nat.min_eq_left (by show 64 - r≤64; omega)]
theorem set_next2(d:List Int)(x y z w:Int)(t:List Int):setL (setL (d++x::y::t) (d.length:Int) z) ((d.length:Int)+1) w=(d++[z])++w::t:=by
 rw [set_mid,show(d.length:Int)+1=((d++[z]).length:Int) by simp,set_mid]
 simp
theorem up_alg{wp P c lo hi B X A x W R:Nat}(hinv:wp+P*c=X*(W*R))(hP:P=A*W)(hx:x*R=lo+B*hi) :
  wp+P*(c+lo)+P*B*hi=(X+A*x)*(W*R):=by
 rw [Nat.add_mul,Nat.mul_mul_mul_comm A x W R,← hP,hx,← hinv,Nat.mul_add,Nat.mul_add,Nat.mul_assoc]
 omega
theorem or_zero{x:Int}(hx:0≤x∧x≤18446744073709551615):orI .u64 0 x=x:=by
 rw [orI_u64 (by omega) hx]
 simp only [show(0:Int).toNat=0 from rfl,Nat.zero_or]
 omega
set_option maxHeartbeats 4000000 in
theorem up_loop(F:Nat){R:Type}(k:List Int→Option R){a:List Int}(ha:Wd a){w r:Nat}(hr:r < 64)(hsz:(a.length:Int)+w≤100000)(x1:Int)
  (hq:quoI .i64 x1 64=(w:Int)) (hm:remI x1 64=(r:Int)) :
  ∀ (xb xa p:List Int) (c:Nat),a=xa++xb→p.length=xa.length+w→c < 2 ^ r→Wd p→wv p+18446744073709551616 ^ p.length*c=wv xa*(2 ^ (64*w)*2 ^ r) →
   ∀ N,xb.length < N→∃ o:List Int,Wd o∧o.length=a.length+w+1∧wv o=wv a*(2 ^ (64*w)*2 ^ r) ∧
    ref02_up_l3 F k N a x1 (p++(c:Int)::List.replicate xb.length 0) (xa.length:Int)=k o:=by
 have h2r:2 ^ r < 2 ^ 64:=Nat.pow_lt_pow_right (by omega) hr
 intro xb
 induction xb with
 | nil =>
  intro xa p c he hp hc hw hi N hN
  obtain ⟨N,rfl⟩:∃ M,N=M+1:=⟨N - 1,by omega⟩
  rw [List.append_nil] at he
  subst he
  refine ⟨p++[(c:Int)],Wd.append hw (Wd.one (by omega)),by simp [hp],by rw [wv_append]; simp only [wv,Int.toNat_natCast,Nat.mul_zero,Nat.add_zero]; exact hi,?_⟩
  unfold ref02_up_l3
  simp (disch:=omega) only [bs,↓if_pos,↓if_neg]
  rfl
 | cons x t ih =>
  intro xa p c he hp hc hw hi N hN
  obtain ⟨N,rfl⟩:∃ M,N=M+1:=⟨N - 1,by omega⟩
  have hx:0≤x∧x≤18446744073709551615:=ha x (by rw [he]; simp)
  have hal:a.length=xa.length+(t.length+1):=by rw [he]; simp
  obtain ⟨o1,o2⟩:=or_shl hx hr hc
  obtain ⟨s1,s2⟩:=shr_over hx hr
  have hdm:=Nat.mod_add_div (x.toNat*2 ^ r) 18446744073709551616
  have hdiv:=Nat.div_add_mod (x.toNat*2 ^ r) 18446744073709551616
  generalize x.toNat*2 ^ r % 18446744073709551616=lo at *
  generalize x.toNat*2 ^ r / 18446744073709551616=hi' at *
  obtain ⟨o,h1,h2,h3,h4⟩:=ih (xa++[x]) (p++[((c+lo:Nat):Int)]) hi' (by rw [he]; simp) (by simp; omega) s1 (Wd.append hw (Wd.one (by omega))) (by
   rw [wv_append,wv_append]
   simp only [wv,Int.toNat_natCast,Nat.mul_zero,Nat.add_zero,List.length_append,List.length_singleton,Nat.pow_succ]
   refine up_alg hi ?_ hdm.symm
   rw [hp,Nat.pow_add,p64 w]) N (by simp at hN; omega)
  refine ⟨o,h1,h2,h3,?_⟩
  have hcast:((xa++[x]).length:Int)=(xa.length:Int)+1:=by simp
  rw [hcast] at h4
  have hg:getL 0 a (xa.length:Int)=x:=by rw [he]; exact get_mid _ _ _
  have hpw:(xa.length:Int)+(w:Int)=(p.length:Int):=by omega
  have hwr:IntKind.u64.wrap (r:Int)=(r:Int):=wrap_u64 (by omega)
  have hlen:(p++(c:Int)::List.replicate (t.length+1) (0:Int)).length=p.length+(t.length+2):=by simp
  rw [List.length_cons]
  unfold ref02_up_l3
  rw [hq,hm]
  by_cases h0:0 < r
  ·have hwr2:IntKind.u64.wrap (64 - (r:Int))=((64 - r:Nat):Int):=by rw [wrap_u64 (by omega)]; omega
   have s3:=s2 h0
   simp (disch:=omega) only [bs,↓if_pos,↓if_neg,hg,hpw,hwr,hwr2]
   rw [List.replicate_succ]
   rw [get_mid,o1,get_set_next,s3,or_zero (by omega),set_next2]
   exact h4
  ·have hr0:r=0:=by omega
   subst hr0
   have hh:hi'=0:=by omega
   subst hh
   simp (disch:=omega) only [bs,↓if_pos,↓if_neg,hg,hpw,hwr]
   rw [List.replicate_succ]
   rw [get_mid,o1,set_mid]
   exact h4
theorem up_eq(F:Nat)(hF:Fuel F){v n:Nat}(hv:(ofn v).length≤1000)(hn:n≤10000):ref02_up F (ofn v) (n:Int)=some (ofn (v*2 ^ n),()):=by
 have hF':=hF
 unfold Fuel at hF'
 have hq:quoI .i64 (n:Int) 64=((n / 64:Nat):Int):=by rw [quoI_i64 (by omega) (by omega) (by omega)]; omega
 have hm:remI (n:Int) 64=((n % 64:Nat):Int):=by rw [remI_nn (by omega)]; omega
 obtain ⟨o,h1,h2,h3,h4⟩:=up_loop F (fun z32=>(ref02_trimc F z32).bind fun r33=>some (r33.1,())) (ofn_Wd v) (w:=n / 64) (r:=n % 64) (by omega) (by omega) (n:Int) hq hm
  (ofn v) [] (List.replicate (n / 64) 0) 0 rfl (by simp) (Nat.pow_pos (by omega)) (fun x hx=>by rw [List.eq_of_mem_replicate hx]; omega) (by rw [wv_zeros]; simp [wv]) F (by omega)
 unfold ref02_up
 rw [hq]
 simp (disch:=omega) only [bs,↓if_pos,↓if_neg]
 have er:replI (((ofn v).length:Int)+((n / 64:Nat):Int)+1) (0:Int)=List.replicate (n / 64) 0++((0:Nat):Int)::List.replicate (ofn v).length 0:=by
  rw [show((0:Nat):Int)::List.replicate (ofn v).length (0:Int)=List.replicate ((ofn v).length+1) 0 by rw [List.replicate_succ]; rfl,List.replicate_append_replicate]
  unfold replI
  congr 1
  omega
 rw [er]
 refine Eq.trans h4 ?_
 simp (disch:=omega) only [bs,↓if_pos,↓if_neg,trimc_eq F hF h1 (by omega)]
 rw [h3,wv_ofn,← Nat.pow_add,show 64*(n / 64)+n % 64=n by omega]
def top512:Nat:=18446744073709551616 ^ 8
theorem pow64_le{s k:Nat}(h:s≤64*k):2 ^ s≤18446744073709551616 ^ k:=by
 rw [p64]
 exact Nat.pow_le_pow_right (by omega) h
theorem len8{v:Nat}(h:v < top512):(ofn v).length≤8:=ofn_length_lt h
theorem divbit_loop(F:Nat)(hF:Fuel F){R:Type}(k2:List Int→List Int→Option R){a b:Nat} :
  ∀ (m r d Q:Nat) (x6:List Int),Dv a b m r d Q→Wd x6→wv x6=Q→m≤64*x6.length→x6.length≤1000→r < top512→d < top512 →
   ∀ N,m < N→∃ o:List Int,Wd o∧o.length=x6.length∧wv o=a / b∧ref02_divmod_l15 F k2 N x6 (ofn r) (ofn d) ((m:Int) - 1)=k2 o (ofn (a % b)):=by
 intro m
 induction m with
 | zero =>
  intro r d Q x6 h hw he hm hl h1 h2 N hN
  obtain ⟨N,rfl⟩:∃ M,N=M+1:=⟨N - 1,by omega⟩
  obtain ⟨e1,e2⟩:=h.done
  refine ⟨x6,hw,rfl,by rw [he,e1],?_⟩
  unfold ref02_divmod_l15
  simp (disch:=omega) only [bs,↓if_pos,↓if_neg,e2]
 | succ m ih =>
  intro r d Q x6 h hw he hm hl h1 h2 N hN
  obtain ⟨N,rfl⟩:∃ M,N=M+1:=⟨N - 1,by omega⟩
  have hs:=h.step
  have l1:=len8 h1
  have l2:=len8 h2
  have hd2:d / 2 < top512:=by omega
  have ei:((m+1:Nat):Int) - 1=(m:Int):=by omega
  rw [ei]
  have hq:quoI .i64 (m:Int) 64=((m / 64:Nat):Int):=by rw [quoI_i64 (by omega) (by omega) (by omega)]; omega
  have hmm:remI (m:Int) 64=((m % 64:Nat):Int):=by rw [remI_nn (by omega)]; omega
  have hwr:IntKind.u64.wrap ((m % 64:Nat):Int)=((m % 64:Nat):Int):=wrap_u64 (by omega)
  unfold ref02_divmod_l15
  rw [hq,hmm,hwr,compare_eq F hF (by omega) (by omega)]
  have hc:leI 0 (cmpN r d)=decide (d≤r):=by
   unfold leI cmpN
   apply decide_eq_decide.2
   split <;> (try split) <;> omega
  simp only [Option.bind_some,hc]
  by_cases hdr:d≤r
  ·rw [if_pos hdr] at hs
   have hle:(ofn d).length≤(ofn r).length:=ofn_len_iff.2 (Nat.lt_of_le_of_lt hdr (ofn_len_iff.1 (Nat.le_refl _)))
   obtain ⟨b1,b2,b3⟩:=setB_eq hw (i:=m) (by omega) (by rw [he]; exact h.hQ)
   obtain ⟨o,g1,g2,g3,g4⟩:=ih (r - d) (d / 2) (Q+2 ^ m) (setB x6 m) hs b1 (by rw [b3,he]) (by omega) (by omega) (by omega) hd2 N (by omega)
   refine ⟨o,g1,by omega,g3,?_⟩
   refine Eq.trans ?_ g4
   rw [decide_eq_true hdr,subw_eq F hF (ofn_Wd r) (ofn_Wd d) hle (by omega) (by rw [wv_ofn,wv_ofn]; exact hdr),wv_ofn,wv_ofn]
   simp (disch:=omega) only [bs,↓if_pos,↓if_neg,half_eq F hF (ofn_Wd d) (by omega),wv_ofn]
   rfl
  ·rw [if_neg hdr] at hs
   obtain ⟨o,g1,g2,g3,g4⟩:=ih r (d / 2) Q x6 hs hw he (by omega) hl h1 hd2 N (by omega)
   refine ⟨o,g1,g2,g3,?_⟩
   refine Eq.trans ?_ g4
   rw [decide_eq_false hdr]
   simp (disch:=omega) only [bs,↓if_pos,↓if_neg,half_eq F hF (ofn_Wd d) (by omega),wv_ofn]
theorem ref02_divmod_eq(F:Nat)(hF:Fuel F){a b:Nat}(hb:0 < b)(ha:a < top512)(hbl:b < top512) :
  ref02_divmod F (ofn a) (ofn b)=some (ofn (a / b),ofn (a % b),()):=by
 have l1:=len8 ha
 have l2:=len8 hbl
 have hF':=hF
 unfold Fuel at hF'
 by_cases h1:(ofn b).length=1
 ·have hlt:b < 18446744073709551616:=by have:=ofn_ge (v:=b) (n:=1) (by omega); rw [Nat.pow_one] at this; exact this
  have ob:ofn b=[(b:Int)]:=by
   rw [ofn_pos (by omega),Nat.div_eq_of_lt hlt,ofn_zero,Nat.mod_eq_of_lt hlt]
  rw [ob,divmod_one F hF (ofn_Wd _) (by omega) (by omega),wv_ofn,Int.toNat_natCast]
 ·unfold ref02_divmod
  obtain ⟨s,hs,hsl,es⟩:=ref02_size_eq F (v:=a) (by omega)
  obtain ⟨t,ht,htl,et⟩:=ref02_size_eq F (v:=b) (by omega)
  have ht1:=(ht.2.2 hb).1
  have etr:ref02_trim F ([]++ofn a)=some (ofn a,()):=by
   rw [List.nil_append,trim_eq F hF (ofn_Wd a) (by omega),wv_ofn]
  have hne:¬ (((ofn b).length:Int)=1):=by omega
  by_cases hst:s < t
  ·have hlt:=Sz_less hs ht hst
   simp (disch:=omega) only [bs,↓if_pos,↓if_neg,etr,es,et]
   rw [Nat.div_eq_of_lt hlt,Nat.mod_eq_of_lt hlt,ofn_zero]
  ·obtain ⟨c1,c2⟩:=Sz_sub hs ht hb (by omega)
   have hst2:(s:Int) - (t:Int)=((s - t:Nat):Int):=by omega
   have h8:b*2 ^ (s - t) < top512:=by
    exact Nat.lt_of_lt_of_le c2 (pow64_le (k:=8) (by omega))
   obtain ⟨o,g1,g2,g3,g4⟩:=divbit_loop F hF (fun z39 z40=>(ref02_trim F z39).bind fun r41=>some (r41.1,(z40,()))) (s - t+1) a (b*2 ^ (s - t)) 0 (replI ((ofn a).length:Int) (0:Int)) (Dv.start c1) (Wd.repl _) (by unfold replI; exact wv_zeros _) (by simp [replI]; omega) (by simp [replI]; omega) ha h8 F (by omega)
   have e1:((s - t+1:Nat):Int) - 1=((s - t:Nat):Int):=by omega
   rw [e1] at g4
   simp (disch:=omega) only [bs,↓if_pos,↓if_neg,etr,es,et,hst2,up_eq F hF (v:=b) (n:=s - t) (by omega) (by omega)]
   refine Eq.trans g4 ?_
   have:(replI ((ofn a).length:Int) (0:Int)).length=(ofn a).length:=by simp [replI]
   simp (disch:=omega) only [bs,↓if_pos,↓if_neg,trim_eq F hF g1 (by omega)]
   rw [g3]
theorem four{l:List Int}(hw:Wd l)(h:l.length=4):∃ a b c d:Int,l=[a,b,c,d]∧(0≤a∧a≤18446744073709551615)∧(0≤b∧b≤18446744073709551615)∧(0≤c∧c≤18446744073709551615)∧(0≤d∧d≤18446744073709551615):=by
 match l,h with
 | [a,b,c,d],_=>exact ⟨a,b,c,d,rfl,hw a (by simp),hw b (by simp),hw c (by simp),hw d (by simp)⟩
theorem wd4{a b c d:Int}(h0:0≤a∧a≤18446744073709551615)(h1:0≤b∧b≤18446744073709551615)(h2:0≤c∧c≤18446744073709551615)(h3:0≤d∧d≤18446744073709551615):Wd [a,b,c,d] :=
 Wd.cons h0 (Wd.cons h1 (Wd.cons h2 (Wd.one h3)))
theorem wv4(a b c d:Int):wv [a,b,c,d]=a.toNat+18446744073709551616*(b.toNat+18446744073709551616*(c.toNat+18446744073709551616*d.toNat)):=by
 simp only [wv]
 omega
theorem g0(a b c d:Int):getL 0 [a,b,c,d] 0=a:=rfl
theorem g1(a b c d:Int):getL 0 [a,b,c,d] 1=b:=rfl
theorem g2(a b c d:Int):getL 0 [a,b,c,d] 2=c:=rfl
theorem g3(a b c d:Int):getL 0 [a,b,c,d] 3=d:=rfl
theorem w4s0(a b c d x:Int):setL [a,b,c,d] 0 x=[x,b,c,d]:=rfl
theorem w4s1(a b c d x:Int):setL [a,b,c,d] 1 x=[a,x,c,d]:=rfl
theorem w4s2(a b c d x:Int):setL [a,b,c,d] 2 x=[a,b,x,d]:=rfl
theorem w4s3(a b c d x:Int):setL [a,b,c,d] 3 x=[a,b,c,x]:=rfl
theorem l4(a b c d:Int):(([a,b,c,d]:List Int).length:Int)=4:=rfl
def cmpZ(x y:Int):Int:=if x < y then -1 else if y < x then 1 else 0
theorem cmp64_eq(F:Nat)(x y:Int):cmp_Compare_uint64 F x y=some (cmpZ x y,()):=by
 unfold cmp_Compare_uint64 cmp_isNaN_uint64 cmpZ
 simp (disch:=omega) only [bs,↓if_pos,↓if_neg]
 split <;> (try split) <;> rfl
theorem or_loop(F:Nat){R:Type}(k0 kr:Int→Option R)(l:List Int){i:Int}(hi:0≤i)(h:i < (l.length:Int))(hm:(l.length:Int)≤1000)(N:Nat) :
  cmp_Or_int_l3 F k0 kr (N+1) 0 l (l.length:Int) i=if getL 0 l i=0 then cmp_Or_int_l3 F k0 kr N 0 l (l.length:Int) (i+1) else kr (getL 0 l i):=by
 rw [cmp_Or_int_l3]
 simp (disch:=omega) only [bs,↓if_pos,↓if_neg]
 by_cases hz:getL 0 l i=0
 ·rw [if_pos hz]; simp (disch:=omega) only [bs,↓if_pos,↓if_neg]
 ·rw [if_neg hz]; simp (disch:=omega) only [bs,↓if_pos,↓if_neg]
theorem or_eq(F:Nat)(hF:Fuel F)(p q r s:Int):cmp_Or_int F [p,q,r,s]=some (if p=0 then(if q=0 then(if r=0 then s else r) else q) else p,()):=by
 unfold Fuel at hF
 obtain ⟨N,hN⟩:∃ N,F=N+1+1+1+1+1:=⟨F - 5,by omega⟩
 unfold cmp_Or_int
 have key:∀ M,M=N+1+1+1+1+1→cmp_Or_int_l3 F (fun z6=>some (z6,())) (fun z7=>some (z7,())) M 0 [p,q,r,s] (([p,q,r,s]:List Int).length:Int) 0=some (if p=0 then(if q=0 then(if r=0 then s else r) else q) else p,()):=by
  intro M hM
  subst hM
  rw [or_loop F _ _ _ (by omega) (by rw [l4]; omega) (by rw [l4]; omega),g0]
  split
  ·rw [show(0:Int)+1=1 from rfl,or_loop F _ _ _ (by omega) (by rw [l4]; omega) (by rw [l4]; omega),g1]
   split
   ·rw [show(1:Int)+1=2 from rfl,or_loop F _ _ _ (by omega) (by rw [l4]; omega) (by rw [l4]; omega),g2]
    split
    ·rw [show(2:Int)+1=3 from rfl,or_loop F _ _ _ (by omega) (by rw [l4]; omega) (by rw [l4]; omega),g3]
     split
     ·rename_i h
      rw [show(3:Int)+1=4 from rfl,cmp_Or_int_l3,l4,h]
      simp (disch:=omega) only [bs,↓if_pos,↓if_neg]
     ·rfl
    ·rfl
   ·rfl
  ·rfl
 exact key F hN
theorem wide_compare_eq(F:Nat)(hF:Fuel F){l m:List Int}(hl:Wd l)(hm:Wd m)(h4:l.length=4)(h5:m.length=4):wide_compare F l m=some (cmpN (wv l) (wv m),()):=by
 obtain ⟨a,b,c,d,rfl,ha,hb,hc,hd⟩:=four hl h4
 obtain ⟨a',b',c',d',rfl,ha',hb',hc',hd'⟩:=four hm h5
 unfold wide_compare
 simp only [g0,g1,g2,g3,cmp64_eq,Option.bind_some,or_eq F hF,wv4]
 congr 2
 unfold cmpZ cmpN
 rcases Int.lt_trichotomy d d' with h | h | h
 ·rw [if_neg (by rw [if_pos h]; omega),if_pos h,if_pos (by omega)]
 ·rw [if_pos (by rw [if_neg (by omega),if_neg (by omega)])]
  subst h
  rcases Int.lt_trichotomy c c' with h | h | h
  ·rw [if_neg (by rw [if_pos h]; omega),if_pos h,if_pos (by omega)]
  ·rw [if_pos (by rw [if_neg (by omega),if_neg (by omega)])]
   subst h
   rcases Int.lt_trichotomy b b' with h | h | h
   ·rw [if_neg (by rw [if_pos h]; omega),if_pos h,if_pos (by omega)]
   ·rw [if_pos (by rw [if_neg (by omega),if_neg (by omega)])]
    subst h
    split <;> (try split) <;> (try split) <;> (try split) <;> omega
   ·rw [if_neg (by rw [if_neg (by omega),if_pos h]; omega),if_neg (by omega),if_pos h,if_neg (by omega),if_pos (by omega)]
  ·rw [if_neg (by rw [if_neg (by omega),if_pos h]; omega),if_neg (by omega),if_pos h,if_neg (by omega),if_pos (by omega)]
 ·rw [if_neg (by rw [if_neg (by omega),if_pos h]; omega),if_neg (by omega),if_pos h,if_neg (by omega),if_pos (by omega)]
theorem Sub64_eq(F:Nat){x y c:Int}(hx:0≤x)(hy:0≤y∧y≤18446744073709551615)(hc:0≤c∧c≤1) :
  bits_Sub64 F x y c=some ((x - y - c) % 18446744073709551616,if x < y+c then 1 else 0,()):=by
 unfold bits_Sub64
 have hcond:(leI 0 x && leI 0 y && leI y 18446744073709551615 && leI 0 c && leI c 1)=true:=by simp only [Bool.and_eq_true,leI_true]; omega
 rw [hcond,cond_true]
theorem sub_step(F:Nat){R:Type}(k:List Int→Option R)(l m o:List Int){i c:Int}(hi:0≤i∧i < 4)(hx:0≤getL 0 l i)(hy:0≤getL 0 m i∧getL 0 m i≤18446744073709551615)(hc:0≤c∧c≤1)(N:Nat) :
  wide_sub_l3 F k (N+1) l m o c i=wide_sub_l3 F k N l m (setL o i ((getL 0 l i - getL 0 m i - c) % 18446744073709551616)) (if getL 0 l i < getL 0 m i+c then 1 else 0) (i+1):=by
 rw [wide_sub_l3]
 simp (disch:=omega) only [bs,↓if_pos,↓if_neg,Sub64_eq F hx hy hc]
theorem emod_B(x:Int):0≤x % 18446744073709551616∧x % 18446744073709551616≤18446744073709551615:=by omega
theorem wv4i{a b c d:Int}(h0:0≤a∧a≤18446744073709551615)(h1:0≤b∧b≤18446744073709551615)(h2:0≤c∧c≤18446744073709551615)(h3:0≤d∧d≤18446744073709551615) :
  ((wv [a,b,c,d]:Nat):Int)=a+18446744073709551616*b+340282366920938463463374607431768211456*c+6277101735386680763835789423207666416102355444464034512896*d:=by
 rw [wv4]; omega
theorem sub_alg{a b c d a' b' c' d' r1 r2 r3 r4 c1 c2 c3 c4:Int}(k1:r1=a - a'+18446744073709551616*c1)(k2:r2=b - b' - c1+18446744073709551616*c2)(k3:r3=c - c' - c2+18446744073709551616*c3)(k4:r4=d - d' - c3+18446744073709551616*c4)
  (h1:0≤r1∧r1≤18446744073709551615) (h2:0≤r2∧r2≤18446744073709551615) (h3:0≤r3∧r3≤18446744073709551615) (h4:0≤r4∧r4≤18446744073709551615) (b4:0≤c4∧c4≤1)
  (hV:a'+18446744073709551616*b'+340282366920938463463374607431768211456*c'+6277101735386680763835789423207666416102355444464034512896*d'≤a+18446744073709551616*b+340282366920938463463374607431768211456*c+6277101735386680763835789423207666416102355444464034512896*d) :
  r1+18446744073709551616*r2+340282366920938463463374607431768211456*r3+6277101735386680763835789423207666416102355444464034512896*r4=(a+18446744073709551616*b+340282366920938463463374607431768211456*c+6277101735386680763835789423207666416102355444464034512896*d) - (a'+18446744073709551616*b'+340282366920938463463374607431768211456*c'+6277101735386680763835789423207666416102355444464034512896*d'):=by
 have hs:r1+18446744073709551616*r2+340282366920938463463374607431768211456*r3+6277101735386680763835789423207666416102355444464034512896*r4=(a+18446744073709551616*b+340282366920938463463374607431768211456*c+6277101735386680763835789423207666416102355444464034512896*d) - (a'+18446744073709551616*b'+340282366920938463463374607431768211456*c'+6277101735386680763835789423207666416102355444464034512896*d')+115792089237316195423570985008687907853269984665640564039457584007913129639936*c4:=by
  clear h1 h2 h3 h4 b4 hV
  omega
 have hb:r1+18446744073709551616*r2+340282366920938463463374607431768211456*r3+6277101735386680763835789423207666416102355444464034512896*r4 < 115792089237316195423570985008687907853269984665640564039457584007913129639936:=by
  clear k1 k2 k3 k4 hV hs
  omega
 clear k1 k2 k3 k4 h1 h2 h3 h4
 generalize a+18446744073709551616*b+340282366920938463463374607431768211456*c+6277101735386680763835789423207666416102355444464034512896*d=V at *
 generalize a'+18446744073709551616*b'+340282366920938463463374607431768211456*c'+6277101735386680763835789423207666416102355444464034512896*d'=V' at *
 generalize r1+18446744073709551616*r2+340282366920938463463374607431768211456*r3+6277101735386680763835789423207666416102355444464034512896*r4=R at *
 omega
theorem bit01(p:Prop)[Decidable p]:0≤(if p then(1:Int) else 0)∧(if p then(1:Int) else 0)≤1:=by split <;> omega
theorem wide_sub_eq(F:Nat)(hF:Fuel F){l m:List Int}(hl:Wd l)(hm:Wd m)(h4:l.length=4)(h5:m.length=4)(h:wv m≤wv l):wide_sub F l m=some (pad4 (wv l - wv m),()):=by
 obtain ⟨a,b,c,d,rfl,ha,hb,hc,hd⟩:=four hl h4
 obtain ⟨a',b',c',d',rfl,ha',hb',hc',hd'⟩:=four hm h5
 unfold Fuel at hF
 obtain ⟨N,hN⟩:∃ N,F=N+1+1+1+1+1:=⟨F - 5,by omega⟩
 unfold wide_sub
 have key:∀ M,M=N+1+1+1+1+1→wide_sub_l3 F (fun z7=>some (z7,())) M [a,b,c,d] [a',b',c',d'] [0,0,0,0] 0 0=some (pad4 (wv [a,b,c,d] - wv [a',b',c',d']),()):=by
  intro M hM
  subst hM
  rw [sub_step F _ _ _ _ (by omega) (by rw [g0]; omega) (by rw [g0]; omega) (by omega)]
  rw [g0,g0,w4s0,show(0:Int)+1=1 from rfl]
  rw [sub_step F _ _ _ _ (by omega) (by rw [g1]; omega) (by rw [g1]; omega) (bit01 _)]
  rw [g1,g1,w4s1,show(1:Int)+1=2 from rfl]
  generalize hc1:(if a < a'+0 then(1:Int) else 0)=c1
  rw [sub_step F _ _ _ _ (by omega) (by rw [g2]; omega) (by rw [g2]; omega) (bit01 _)]
  rw [g2,g2,w4s2,show(2:Int)+1=3 from rfl]
  generalize hc2:(if b < b'+c1 then(1:Int) else 0)=c2
  rw [sub_step F _ _ _ _ (by omega) (by rw [g3]; omega) (by rw [g3]; omega) (bit01 _)]
  rw [g3,g3,w4s3,show(3:Int)+1=4 from rfl]
  generalize hc3:(if c < c'+c2 then(1:Int) else 0)=c3
  generalize hc4:(if d < d'+c3 then(1:Int) else 0)=c4
  rw [wide_sub_l3]
  simp (disch:=omega) only [bs,↓if_pos,↓if_neg]
  have b1:0≤c1∧c1≤1:=by rw [← hc1]; exact bit01 _
  have b2:0≤c2∧c2≤1:=by rw [← hc2]; exact bit01 _
  have b3:0≤c3∧c3≤1:=by rw [← hc3]; exact bit01 _
  have b4:0≤c4∧c4≤1:=by rw [← hc4]; exact bit01 _
  congr 2
  refine wv_inj ?_ (pad4_Wd _) ?_ ?_
  ·exact wd4 (by omega) (by omega) (by omega) (by omega)
  ·rw [pad4_length]
   ·rfl
   ·have:=wv_lt hl
    rw [h4] at this
    show _ < 18446744073709551616 ^ 4
    omega
  ·rw [wv_pad4]
   have k1:(a - a' - 0) % 18446744073709551616=a - a'+18446744073709551616*c1:=by rw [← hc1]; clear hc1 hc2 hc3 hc4 h; split <;> omega
   have k2:(b - b' - c1) % 18446744073709551616=b - b' - c1+18446744073709551616*c2:=by rw [← hc2]; clear hc1 hc2 hc3 hc4 h; split <;> omega
   have k3:(c - c' - c2) % 18446744073709551616=c - c' - c2+18446744073709551616*c3:=by rw [← hc3]; clear hc1 hc2 hc3 hc4 h; split <;> omega
   have k4:(d - d' - c3) % 18446744073709551616=d - d' - c3+18446744073709551616*c4:=by rw [← hc4]; clear hc1 hc2 hc3 hc4 h; split <;> omega
   have hV:(wv [a',b',c',d']:Int)≤(wv [a,b,c,d]:Int):=by omega
   have e:=sub_alg k1 k2 k3 k4 (emod_B _) (emod_B _) (emod_B _) (emod_B _) b4 (by rw [← wv4i ha hb hc hd,← wv4i ha' hb' hc' hd']; exact hV)
   rw [← wv4i ha hb hc hd,← wv4i ha' hb' hc' hd',← wv4i (emod_B _) (emod_B _) (emod_B _) (emod_B _)] at e
   omega
 exact key F hN
theorem half_step(F:Nat){R:Type}(k:List Int→Option R)(l o:List Int){i:Int}(hi:0≤i∧i < 4)(hx:Wd l)(N:Nat)(ho:o.length=4) :
  wide_halved_l2 F k (N+1) l o i=wide_halved_l2 F k N l (setL o i (if i < 3 then getL 0 l i / 2+getL 0 l (i+1) % 2*9223372036854775808 else getL 0 l i / 2)) (i+1):=by
 rw [wide_halved_l2]
 have h1:=hx.get i
 have h2:=hx.get (i+1)
 have hs:∀ x y:Int,setL (setL o i x) i y=setL o i y:=fun x y=>by simp [setL]
 have hg:∀ x:Int,getL 0 (setL o i x) i=x:=by
  intro x
  have:i.toNat < o.length:=by omega
  simp [setL,getL,this]
 by_cases h3:i < 3
 ·rw [if_pos h3]
  simp (disch:=omega) only [bs,↓if_pos,↓if_neg,hs,hg,half_word]
 ·rw [if_neg h3]
  simp (disch:=omega) only [bs,↓if_pos,↓if_neg,shr1]
theorem wide_halved_eq(F:Nat)(hF:Fuel F){l:List Int}(hl:Wd l)(h4:l.length=4):wide_halved F l=some (pad4 (wv l / 2),()):=by
 have hlt:=wv_lt hl
 rw [h4] at hlt
 obtain ⟨a,b,c,d,rfl,ha,hb,hc,hd⟩:=four hl h4
 unfold Fuel at hF
 obtain ⟨N,hN⟩:∃ N,F=N+1+1+1+1+1:=⟨F - 5,by omega⟩
 unfold wide_halved
 have key:∀ M,M=N+1+1+1+1+1→wide_halved_l2 F (fun z14=>some (z14,())) M [a,b,c,d] [0,0,0,0] 0=some (pad4 (wv [a,b,c,d] / 2),()):=by
  intro M hM
  subst hM
  rw [half_step F _ _ _ (by omega) hl _ rfl,show(0:Int)+1=1 from rfl,if_pos (by omega),g0,g1,w4s0]
  rw [half_step F _ _ _ (by omega) hl _ rfl,show(1:Int)+1=2 from rfl,if_pos (by omega),g1,g2,w4s1]
  rw [half_step F _ _ _ (by omega) hl _ rfl,show(2:Int)+1=3 from rfl,if_pos (by omega),g2,g3,w4s2]
  rw [half_step F _ _ _ (by omega) hl _ rfl,show(3:Int)+1=4 from rfl,if_neg (by omega),g3,w4s3]
  rw [wide_halved_l2]
  simp (disch:=omega) only [bs,↓if_pos,↓if_neg]
  congr 2
  refine wv_inj ?_ (pad4_Wd _) ?_ ?_
  ·exact wd4 (by omega) (by omega) (by omega) (by omega)
  ·rw [pad4_length]
   ·rfl
   ·show _ < 18446744073709551616 ^ 4
    omega
  ·rw [wv_pad4,wv4,wv4]
   omega
 exact key F hN
theorem length_step(F:Nat){R:Type}(k0:Option R)(kr:Int→Option R)(l:List Int){i:Int}(hi:0≤i∧i < 4)(hx:Wd l)(N:Nat) :
  wide_length_l2 F k0 kr (N+1) l i=if getL 0 l i=0 then wide_length_l2 F k0 kr N l (i - 1) else kr (64*i+(Lib.bitLen (getL 0 l i).toNat:Int)):=by
 rw [wide_length_l2]
 have h1:=hx.get i
 have h2:=(Sz_word h1).2
 by_cases hz:getL 0 l i=0
 ·rw [if_pos hz]; simp (disch:=omega) only [bs,↓if_pos,↓if_neg]
 ·rw [if_neg hz]; simp (disch:=omega) only [bs,↓if_pos,↓if_neg,Len64_eq F h1]
theorem wide_length_eq(F:Nat)(hF:Fuel F){l:List Int}(hl:Wd l)(h4:l.length=4):∃ s:Nat,Sz (wv l) s∧s≤256∧wide_length F l=some ((s:Int),()):=by
 obtain ⟨a,b,c,d,rfl,ha,hb,hc,hd⟩:=four hl h4
 unfold Fuel at hF
 obtain ⟨N,hN⟩:∃ N,F=N+1+1+1+1+1:=⟨F - 5,by omega⟩
 unfold wide_length
 have key:∀ M,M=N+1+1+1+1+1→∃ s:Nat,Sz (wv [a,b,c,d]) s∧s≤256∧wide_length_l2 F (some (0,())) (fun z9=>some (z9,())) M [a,b,c,d] 3=some ((s:Int),()):=by
  intro M hM
  subst hM
  rw [length_step F _ _ _ (by omega) hl,g3,show(3:Int) - 1=2 from rfl]
  by_cases h3:d=0
  ·rw [if_pos h3,length_step F _ _ _ (by omega) hl,g2,show(2:Int) - 1=1 from rfl]
   by_cases h2:c=0
   ·rw [if_pos h2,length_step F _ _ _ (by omega) hl,g1,show(1:Int) - 1=0 from rfl]
    by_cases h1:b=0
    ·rw [if_pos h1,length_step F _ _ _ (by omega) hl,g0,show(0:Int) - 1=-1 from rfl]
     by_cases h0:a=0
     ·refine ⟨0,?_,by omega,?_⟩
      ·rw [wv4,h0,h1,h2,h3]; exact Sz_zero
      ·rw [if_pos h0,wide_length_l2]; simp (disch:=omega) only [bs,↓if_pos,↓if_neg]; rfl
     ·obtain ⟨z1,z2⟩:=Sz_word ha
      refine ⟨Lib.bitLen a.toNat,?_,by omega,?_⟩
      ·rw [wv4,h1,h2,h3]; simpa using z1
      ·rw [if_neg h0]; congr 2; omega
    ·obtain ⟨z1,z2⟩:=Sz_word hb
     refine ⟨64+Lib.bitLen b.toNat,?_,by omega,?_⟩
     ·rw [wv4,h2,h3]
      have:=Sz_top (lo:=a.toNat) (k:=64) (t:=b.toNat) (by omega) (by omega) z1
      simpa using this
     ·rw [if_neg h1]; congr 2
   ·obtain ⟨z1,z2⟩:=Sz_word hc
    refine ⟨128+Lib.bitLen c.toNat,?_,by omega,?_⟩
    ·rw [wv4,h3]
     have:=Sz_top (lo:=a.toNat+18446744073709551616*b.toNat) (k:=128) (t:=c.toNat) (by omega) (by omega) z1
     have e:a.toNat+18446744073709551616*(b.toNat+18446744073709551616*(c.toNat+18446744073709551616*(0:Int).toNat))=a.toNat+18446744073709551616*b.toNat+2 ^ 128*c.toNat:=by
      rw [show(0:Int).toNat=0 from rfl]; omega
     rw [e]; exact this
    ·rw [if_neg h2]; congr 2
  ·obtain ⟨z1,z2⟩:=Sz_word hd
   refine ⟨192+Lib.bitLen d.toNat,?_,by omega,?_⟩
   ·rw [wv4]
    have:=Sz_top (lo:=a.toNat+18446744073709551616*(b.toNat+18446744073709551616*c.toNat)) (k:=192) (t:=d.toNat) (by omega) (by omega) z1
    have e:a.toNat+18446744073709551616*(b.toNat+18446744073709551616*(c.toNat+18446744073709551616*d.toNat))=a.toNat+18446744073709551616*(b.toNat+18446744073709551616*c.toNat)+2 ^ 192*d.toNat:=by
     omega
    rw [e]; exact this
   ·rw [if_neg h3]; congr 2
 exact key F hN
def shLo(r:Nat)(x:Int):Nat:=x.toNat*2 ^ r % 18446744073709551616
def shHi(r:Nat)(x:Int):Nat:=x.toNat*2 ^ r / 18446744073709551616
theorem sh_sum(r:Nat)(x:Int):x.toNat*2 ^ r=shLo r x+18446744073709551616*shHi r x:=(Nat.mod_add_div _ _).symm
theorem orI_comm{x y:Int}(hx:0≤x∧x≤18446744073709551615)(hy:0≤y∧y≤18446744073709551615):orI .u64 x y=orI .u64 y x:=by
 rw [orI_u64 hx hy,orI_u64 hy hx,Nat.or_comm]
theorem left_step(F:Nat){R:Type}(k:List Int→Option R)(l o:List Int){w r:Nat}{i:Int}(hw:(w:Int)≤i)(hi:i < 4)(hr:r < 64)(hl:Wd l)(ho:o.length=4)(N:Nat) :
  wide_left_l3 F k (N+1) l o (w:Int) (r:Int) i=wide_left_l3 F k N l (setL o i ((if(w:Int) < i then shLo r (getL 0 l (i - w))+shHi r (getL 0 l (i - w - 1)) else shLo r (getL 0 l (i - w)):Nat):Int)) (w:Int) (r:Int) (i+1):=by
 have h1:=hl.get (i - w)
 have h2:=hl.get (i - w - 1)
 have hs:∀ x y:Int,setL (setL o i x) i y=setL o i y:=fun x y=>by simp [setL]
 have hg:∀ x:Int,getL 0 (setL o i x) i=x:=by
  intro x
  have:i.toNat < o.length:=by omega
  simp [setL,getL,this]
 obtain ⟨v1,v2⟩:=shr_over h2 hr
 have hsh:shlI .u64 (getL 0 l (i - w)) (r:Int)=((shLo r (getL 0 l (i - w)):Nat):Int):=by
  rw [shlI_u64 h1.1 (by omega),Int.toNat_natCast,Nat.min_eq_left (by omega)]
  rfl
 have hb:shLo r (getL 0 l (i - w)) < 18446744073709551616:=Nat.mod_lt _ (by omega)
 rw [wide_left_l3]
 unfold wide_left_j7
 by_cases h0:0 < r
 ·have hc:(64:Int) - (r:Int)=((64 - r:Nat):Int):=by omega
  have v3:=v2 h0
  by_cases h3:(w:Int) < i
  ·rw [if_pos h3]
   obtain ⟨o1,o2⟩:=or_shl h1 hr v1
   have hb2:shHi r (getL 0 l (i - w - 1)) < 2 ^ r:=v1
   have h2r:2 ^ r < 2 ^ 64:=Nat.pow_lt_pow_right (by omega) hr
   have ho':orI .u64 ((shLo r (getL 0 l (i - w)):Nat):Int) ((shHi r (getL 0 l (i - w - 1)):Nat):Int)=((shLo r (getL 0 l (i - w))+shHi r (getL 0 l (i - w - 1)):Nat):Int):=by
    rw [orI_comm (by omega) (by omega),← hsh]
    refine Eq.trans o1 ?_
    unfold shLo shHi
    omega
   have v4:shrI .u64 (getL 0 l (i - w - 1)) ((64 - r:Nat):Int)=((shHi r (getL 0 l (i - w - 1)):Nat):Int):=v3
   simp (disch:=omega) only [bs,↓if_pos,↓if_neg,hs,hg,hsh,hc,v4,ho']
  ·rw [if_neg h3]
   simp (disch:=omega) only [bs,↓if_pos,↓if_neg,hs,hg,hsh]
 ·have hr0:r=0:=by omega
  subst hr0
  have hh:shHi 0 (getL 0 l (i - w - 1))=0:=by
   unfold shHi
   rw [Nat.pow_zero,Nat.mul_one]
   omega
  rw [hh]
  by_cases h3:(w:Int) < i
  ·rw [if_pos h3]
   simp (disch:=omega) only [bs,↓if_pos,↓if_neg,hs,hg,hsh]
   rfl
  ·rw [if_neg h3]
   simp (disch:=omega) only [bs,↓if_pos,↓if_neg,hs,hg,hsh]
theorem lin4(a b c d R:Nat):(a+18446744073709551616*(b+18446744073709551616*(c+18446744073709551616*d)))*R=a*R+18446744073709551616*(b*R+18446744073709551616*(c*R+18446744073709551616*(d*R))):=by
 simp only [Nat.add_mul,Nat.mul_add,Nat.mul_assoc]
theorem sh_lo_lt(r:Nat)(x:Int):shLo r x < 18446744073709551616:=Nat.mod_lt _ (by omega)
theorem sh_both_lt{r:Nat}{x y:Int}(hx:0≤x∧x≤18446744073709551615)(hy:0≤y∧y≤18446744073709551615)(hr:r < 64):shLo r x+shHi r y < 18446744073709551616:=by
 have:=(or_shl hx hr (shr_over hy hr).1).2
 unfold shLo shHi
 omega
set_option maxHeartbeats 1000000 in
theorem wide_left_eq(F:Nat)(hF:Fuel F){l:List Int}(hl:Wd l)(h4:l.length=4){n:Nat}(hn:n < 256)(h:wv l*2 ^ n < top256):wide_left F l (n:Int)=some (pad4 (wv l*2 ^ n),()):=by
 have hq:quoI .i64 (n:Int) 64=((n / 64:Nat):Int):=by rw [quoI_i64 (by omega) (by omega) (by omega)]; omega
 have hm:remI (n:Int) 64=((n % 64:Nat):Int):=by rw [remI_nn (by omega)]; omega
 obtain ⟨a,b,c,d,rfl,ha,hb,hc,hd⟩:=four hl h4
 unfold Fuel at hF
 obtain ⟨N,hN⟩:∃ N,F=N+1+1+1+1+1:=⟨F - 5,by omega⟩
 unfold wide_left
 rw [hq,hm]
 have hnn:n=64*(n / 64)+n % 64:=by omega
 have hr:n % 64 < 64:=by omega
 have hw:n / 64=0∨n / 64=1∨n / 64=2∨n / 64=3:=by omega
 generalize n % 64=r at *
 generalize n / 64=w at *
 have hval:wv [a,b,c,d]*2 ^ n=(a.toNat*2 ^ r+18446744073709551616*(b.toNat*2 ^ r+18446744073709551616*(c.toNat*2 ^ r+18446744073709551616*(d.toNat*2 ^ r))))*2 ^ (64*w):=by
  rw [hnn,Nat.add_comm (64*w),Nat.pow_add,← Nat.mul_assoc,wv4,lin4]
 rw [sh_sum r a,sh_sum r b,sh_sum r c,sh_sum r d] at hval
 have p0:=sh_lo_lt r a
 have p1:=sh_both_lt hb ha hr
 have p2:=sh_both_lt hc hb hr
 have p3:=sh_both_lt hd hc hr
 have fin:∀ o:List Int,Wd o→o.length=4→wv o=wv [a,b,c,d]*2 ^ n→some (o,())=some (pad4 (wv [a,b,c,d]*2 ^ n),()):=by
  intro o h1 h2 h3
  rw [← h3,pad4_wv h1 h2]
 have htop:top256=18446744073709551616*18446744073709551616*18446744073709551616*18446744073709551616:=by decide
 have key:∀ M,M=N+1+1+1+1+1→wide_left_l3 F (fun z30=>some (z30,())) M [a,b,c,d] [0,0,0,0] (w:Int) (r:Int) (w:Int)=some (pad4 (wv [a,b,c,d]*2 ^ n),()):=by
  intro M hM
  subst hM
  rcases hw with rfl | rfl | rfl | rfl
  ·rw [left_step F _ _ _ (by omega) (by omega) hr hl rfl,show((0:Nat):Int)=0 from rfl,if_neg (by omega),show(0:Int) - 0=0 from rfl,g0,w4s0,show(0:Int)+1=1 from rfl]
   have st:=fun N o ho (i:Int) h1 h2=>left_step F (fun z30:List Int=>some (z30,())) [a,b,c,d] o (w:=0) (r:=r) (i:=i) h1 h2 hr hl ho N
   rw [show(0:Int)=((0:Nat):Int) from rfl,st _ _ rfl _ (by omega) (by omega),if_pos (by omega)]
   simp only [show((0:Nat):Int)=0 from rfl,show(1:Int) - 0=1 from rfl,show(1:Int) - 1=0 from rfl,g0,g1,w4s1,show(1:Int)+1=2 from rfl]
   rw [show(0:Int)=((0:Nat):Int) from rfl,st _ _ rfl _ (by omega) (by omega),if_pos (by omega)]
   simp only [show((0:Nat):Int)=0 from rfl,show(2:Int) - 0=2 from rfl,show(2:Int) - 1=1 from rfl,g1,g2,w4s2,show(2:Int)+1=3 from rfl]
   rw [show(0:Int)=((0:Nat):Int) from rfl,st _ _ rfl _ (by omega) (by omega),if_pos (by omega)]
   simp only [show((0:Nat):Int)=0 from rfl,show(3:Int) - 0=3 from rfl,show(3:Int) - 1=2 from rfl,g2,g3,w4s3,show(3:Int)+1=4 from rfl]
   rw [wide_left_l3]
   simp (disch:=omega) only [bs,↓if_pos,↓if_neg]
   refine fin _ (wd4 (by omega) (by omega) (by omega) (by omega)) rfl ?_
   rw [hval,htop] at h
   rw [hval,wv4]
   clear hval fin st hq hm hnn
   simp only [Nat.mul_zero,Nat.pow_zero,Nat.mul_one,Int.toNat_natCast] at h ⊢
   omega
  ·have st:=fun N o ho (i:Int) h1 h2=>left_step F (fun z30:List Int=>some (z30,())) [a,b,c,d] o (w:=1) (r:=r) (i:=i) h1 h2 hr hl ho N
   rw [st _ _ rfl _ (by omega) (by omega),if_neg (by omega)]
   simp only [show((1:Nat):Int)=1 from rfl,show(1:Int) - 1=0 from rfl,g0,w4s1,show(1:Int)+1=2 from rfl]
   rw [show(1:Int)=((1:Nat):Int) from rfl,st _ _ rfl _ (by omega) (by omega),if_pos (by omega)]
   simp only [show((1:Nat):Int)=1 from rfl,show(2:Int) - 1=1 from rfl,show(1:Int) - 1=0 from rfl,g0,g1,w4s2,show(2:Int)+1=3 from rfl]
   rw [show(1:Int)=((1:Nat):Int) from rfl,st _ _ rfl _ (by omega) (by omega),if_pos (by omega)]
   simp only [show((1:Nat):Int)=1 from rfl,show(3:Int) - 1=2 from rfl,show(2:Int) - 1=1 from rfl,g1,g2,w4s3,show(3:Int)+1=4 from rfl]
   rw [wide_left_l3]
   simp (disch:=omega) only [bs,↓if_pos,↓if_neg]
   refine fin _ (wd4 (by omega) (by omega) (by omega) (by omega)) rfl ?_
   rw [hval,htop] at h
   rw [hval,wv4]
   clear hval fin st hq hm hnn
   simp only [show(2:Nat) ^ (64*1)=18446744073709551616 from rfl,Int.toNat_natCast,show(0:Int).toNat=0 from rfl] at h ⊢
   omega
  ·have st:=fun N o ho (i:Int) h1 h2=>left_step F (fun z30:List Int=>some (z30,())) [a,b,c,d] o (w:=2) (r:=r) (i:=i) h1 h2 hr hl ho N
   rw [st _ _ rfl _ (by omega) (by omega),if_neg (by omega)]
   simp only [show((2:Nat):Int)=2 from rfl,show(2:Int) - 2=0 from rfl,g0,w4s2,show(2:Int)+1=3 from rfl]
   rw [show(2:Int)=((2:Nat):Int) from rfl,st _ _ rfl _ (by omega) (by omega),if_pos (by omega)]
   simp only [show((2:Nat):Int)=2 from rfl,show(3:Int) - 2=1 from rfl,show(1:Int) - 1=0 from rfl,g0,g1,w4s3,show(3:Int)+1=4 from rfl]
   rw [wide_left_l3]
   simp (disch:=omega) only [bs,↓if_pos,↓if_neg]
   refine fin _ (wd4 (by omega) (by omega) (by omega) (by omega)) rfl ?_
   rw [hval,htop] at h
   rw [hval,wv4]
   clear hval fin st hq hm hnn
   simp only [show(2:Nat) ^ (64*2)=340282366920938463463374607431768211456 from rfl,Int.toNat_natCast,show(0:Int).toNat=0 from rfl] at h ⊢
   omega
  ·have st:=fun N o ho (i:Int) h1 h2=>left_step F (fun z30:List Int=>some (z30,())) [a,b,c,d] o (w:=3) (r:=r) (i:=i) h1 h2 hr hl ho N
   rw [st _ _ rfl _ (by omega) (by omega),if_neg (by omega)]
   simp only [show((3:Nat):Int)=3 from rfl,show(3:Int) - 3=0 from rfl,g0,w4s3,show(3:Int)+1=4 from rfl]
   rw [wide_left_l3]
   simp (disch:=omega) only [bs,↓if_pos,↓if_neg]
   refine fin _ (wd4 (by omega) (by omega) (by omega) (by omega)) rfl ?_
   rw [hval,htop] at h
   rw [hval,wv4]
   clear hval fin st hq hm hnn
   simp only [show(2:Nat) ^ (64*3)=6277101735386680763835789423207666416102355444464034512896 from rfl,Int.toNat_natCast,show(0:Int).toNat=0 from rfl] at h ⊢
   omega
 exact key F hN
theorem wdiv_loop(F:Nat)(hF:Fuel F){R:Type}(k:List Int→List Int→List Int→Option R){a b:Nat}(z:List Int) :
  ∀ (m r d Q:Nat) (x4:List Int),Dv a b m r d Q→Wd x4→x4.length=4→wv x4=Q→m≤256→r < top256→d < top256 →
   ∀ N,m < N→∃ o:List Int,Wd o∧o.length=4∧wv o=a / b∧wide_div_l5 F k N (pad4 r) x4 z ((m:Int) - 1) (pad4 d)=k (pad4 (a % b)) o z:=by
 intro m
 induction m with
 | zero =>
  intro r d Q x4 h hw h4 he hm h1 h2 N hN
  obtain ⟨N,rfl⟩:∃ M,N=M+1:=⟨N - 1,by omega⟩
  obtain ⟨e1,e2⟩:=h.done
  refine ⟨x4,hw,h4,by rw [he,e1],?_⟩
  unfold wide_div_l5
  simp (disch:=omega) only [bs,↓if_pos,↓if_neg,e2]
 | succ m ih =>
  intro r d Q x4 h hw h4 he hm h1 h2 N hN
  obtain ⟨N,rfl⟩:∃ M,N=M+1:=⟨N - 1,by omega⟩
  have hs:=h.step
  have hd2:d / 2 < top256:=by omega
  have ei:((m+1:Nat):Int) - 1=(m:Int):=by omega
  rw [ei]
  have hq:quoI .i64 (m:Int) 64=((m / 64:Nat):Int):=by rw [quoI_i64 (by omega) (by omega) (by omega)]; omega
  have hmm:remI (m:Int) 64=((m % 64:Nat):Int):=by rw [remI_nn (by omega)]; omega
  have hl0:ltI ((m % 64:Nat):Int) 0=false:=by rw [← Bool.not_eq_true,ltI_true]; omega
  have hin:inI ((m / 64:Nat):Int) 4=true:=by rw [inI_true]; omega
  unfold wide_div_l5
  rw [hq,hmm,wide_compare_eq F hF (pad4_Wd _) (pad4_Wd _) (pad4_length h1) (pad4_length h2),wv_pad4,wv_pad4]
  have hc:leI 0 (cmpN r d)=decide (d≤r):=by
   unfold leI cmpN
   apply decide_eq_decide.2
   split <;> (try split) <;> omega
  simp only [Option.bind_some,hc]
  by_cases hdr:d≤r
  ·rw [if_pos hdr] at hs
   obtain ⟨b1,b2,b3⟩:=setB_eq hw (i:=m) (by omega) (by rw [he]; exact h.hQ)
   obtain ⟨o,g1,g2,g3,g4⟩:=ih (r - d) (d / 2) (Q+2 ^ m) (setB x4 m) hs b1 (by omega) (by rw [b3,he]) (by omega) (by omega) hd2 N (by omega)
   refine ⟨o,g1,g2,g3,?_⟩
   refine Eq.trans ?_ g4
   rw [decide_eq_true hdr,wide_sub_eq F hF (pad4_Wd _) (pad4_Wd _) (pad4_length h1) (pad4_length h2) (by rw [wv_pad4,wv_pad4]; exact hdr),wv_pad4,wv_pad4,hl0,hin]
   simp (disch:=omega) only [bs,↓if_pos,↓if_neg,wide_halved_eq F hF (pad4_Wd d) (pad4_length h2),wv_pad4]
   rfl
  ·rw [if_neg hdr] at hs
   obtain ⟨o,g1,g2,g3,g4⟩:=ih r (d / 2) Q x4 hs hw h4 he (by omega) h1 hd2 N (by omega)
   refine ⟨o,g1,g2,g3,?_⟩
   refine Eq.trans ?_ g4
   rw [decide_eq_false hdr]
   simp (disch:=omega) only [bs,↓if_pos,↓if_neg,wide_halved_eq F hF (pad4_Wd d) (pad4_length h2),wv_pad4]
theorem wide_div_eq(F:Nat)(hF:Fuel F){l m:List Int}(hl:Wd l)(hm:Wd m)(h4:l.length=4)(h5:m.length=4)(hb:0 < wv m) :
  wide_div F l m=some (pad4 (wv l / wv m),pad4 (wv l % wv m),()):=by
 have hF':=hF
 unfold Fuel at hF'
 obtain ⟨s,hs,hsl,es⟩:=wide_length_eq F hF hl h4
 obtain ⟨t,ht,htl,et⟩:=wide_length_eq F hF hm h5
 have ht1:=(ht.2.2 hb).1
 have hlt:wv l < top256:=by have:=wv_lt hl; rw [h4] at this; exact this
 unfold wide_div
 by_cases hst:s < t
 ·have hl2:=Sz_less hs ht hst
  simp (disch:=omega) only [bs,↓if_pos,↓if_neg,es,et]
  rw [Nat.div_eq_of_lt hl2,Nat.mod_eq_of_lt hl2,pad4_wv hl h4,show pad4 0=[0,0,0,0] from congrArg (·.2.1) toW_zero]
 ·obtain ⟨c1,c2⟩:=Sz_sub hs ht hb (by omega)
  have hst2:(s:Int) - (t:Int)=((s - t:Nat):Int):=by omega
  have h8:wv m*2 ^ (s - t) < top256:=by
   exact Nat.lt_of_lt_of_le c2 (pow64_le (k:=4) (by omega))
  obtain ⟨o,g1,g2,g3,g4⟩:=wdiv_loop F hF (fun z20 z21 z22=>some (z21,(z20,()))) [0,0,0,0] (s - t+1) (wv l) (wv m*2 ^ (s - t)) 0 [0,0,0,0] (Dv.start c1) (wd4 (by omega) (by omega) (by omega) (by omega)) rfl rfl (by omega) hlt h8 F (by omega)
  have e1:((s - t+1:Nat):Int) - 1=((s - t:Nat):Int):=by omega
  rw [e1,pad4_wv hl h4] at g4
  simp (disch:=omega) only [bs,↓if_pos,↓if_neg,es,et,hst2,wide_left_eq F hF hm h5 (n:=s - t) (by omega) h8]
  refine Eq.trans g4 ?_
  rw [← g3,pad4_wv g1 g2]
theorem toW_nat(v:Nat):toW (v:Int)=(false,pad4 v,()):=by
 unfold toW
 rw [decide_eq_false (by omega),Int.natAbs_natCast]
theorem natTop{v:Nat}(h:v < top256):WOk (toW (v:Int)):=toW_ok (by rw [Int.natAbs_natCast]; exact h)
theorem wide_clean_eq(F:Nat){w:W}(h:WOk w):wide_clean F w=some (toW (wi w),()):=by
 unfold wide_clean
 rw [wide_Valid_eq F h]
 by_cases hv:Vl w
 ·simp (disch:=omega) only [bs,↓if_pos,↓if_neg,hv,decide_true,toW_wi h hv]
 ·have:wi w=0:=by
   unfold Vl at hv
   unfold wi
   simp only [Classical.not_not] at hv
   rw [hv.1,hv.2]; rfl
  rw [this,toW_zero]
  simp (disch:=omega) only [bs,↓if_pos,↓if_neg,hv,decide_false]
theorem pad4_inj{a b:Nat}:pad4 a=pad4 b↔a=b:=⟨fun h=>by have:=congrArg wv h; rw [wv_pad4,wv_pad4] at this; exact this,fun h=>by rw [h]⟩
theorem pad4_zero:pad4 0=[0,0,0,0]:=congrArg (·.2.1) toW_zero
theorem wide_Sign_eq(F:Nat){w:W}(h:WOk w):wide_Sign F w=some (if wi w=0 then 0 else if wi w < 0 then -1 else 1,()):=by
 unfold wide_Sign
 rw [wide_clean_eq F h]
 simp only [Option.bind_some]
 rw [show(toW (wi w)).1=decide (wi w < 0) from rfl,show(toW (wi w)).2.1=pad4 (wi w).natAbs from rfl,eqT_words,← pad4_zero]
 have:decide (pad4 (wi w).natAbs=pad4 0)=decide (wi w=0):=decide_eq_decide.2 (by rw [pad4_inj]; omega)
 rw [this]
 by_cases h1:wi w < 0
 ·rw [decide_eq_true h1,cond_true,if_neg (by omega),if_pos h1]
 ·rw [decide_eq_false h1,cond_false]
  by_cases h2:wi w=0
  ·rw [decide_eq_true h2,cond_true,if_pos h2]
  ·rw [decide_eq_false h2,cond_false,if_neg h2,if_neg h1]
theorem wide_DivMod_nat(F:Nat)(hF:Fuel F){a b:Nat}(ha:a < top256)(hb:b < top256)(h0:0 < b) :
  wide_DivMod F (toW (a:Int)) (toW (b:Int))=some (toW ((a / b:Nat):Int),toW ((a % b:Nat):Int),true,()):=by
 unfold wide_DivMod
 rw [wide_clean_eq F (natTop ha),wide_clean_eq F (natTop hb),wi_toW,wi_toW]
 simp only [Option.bind_some]
 rw [wide_Sign_eq F (natTop hb),wi_toW,if_neg (by omega),if_neg (by omega)]
 simp only [Option.bind_some]
 rw [toW_nat,toW_nat,toW_nat,toW_nat]
 have e0:eqI (1:Int) 0=false:=by rw [← Bool.not_eq_true,eqI_true]; omega
 simp only [e0,cond_false]
 rw [wide_div_eq F hF (pad4_Wd _) (pad4_Wd _) (pad4_length ha) (pad4_length hb) (by rw [wv_pad4]; exact h0),wv_pad4,wv_pad4]
 simp only [Option.bind_some]
 unfold wide_DivMod_j6 wide_DivMod_j8 wide_signed wide_clean wide_Valid
 simp only [Option.bind_some,cond_false,cond_true,show eqT Ty.bool false false=true from rfl,Bool.not_true,Bool.not_false]
theorem ref02_DivMod_nat(F:Nat)(hF:Fuel F){a b:Nat}(ha:a < top256)(hb:b < top256)(h0:0 < b) :
  ref02_DivMod F (toW (a:Int)) (toW (b:Int))=some (toW ((a / b:Nat):Int),toW ((a % b:Nat):Int),true,()):=by
 have t8:top256≤top512:=Nat.pow_le_pow_right (by omega) (by omega)
 unfold ref02_DivMod
 rw [ref02_clean_eq F hF (natTop ha),ref02_clean_eq F hF (natTop hb),wi_toW,wi_toW]
 simp only [Option.bind_some]
 rw [ref02_Sign_eq F hF (natTop hb),wi_toW,if_neg (by omega),if_neg (by omega)]
 simp only [Option.bind_some]
 have e0:eqI (1:Int) 0=false:=by rw [← Bool.not_eq_true,eqI_true]; omega
 simp only [e0,cond_false]
 rw [ref02_of_eq F hF (natTop ha),ref02_of_eq F hF (natTop hb)]
 simp only [Option.bind_some]
 rw [show(toW (a:Int)).2.1=pad4 a from by rw [toW_nat],show(toW (b:Int)).2.1=pad4 b from by rw [toW_nat],wv_pad4,wv_pad4,ref02_divmod_eq F hF h0 (by omega) (by omega)]
 simp only [Option.bind_some]
 have fa:(toW (a:Int)).1=false:=by rw [toW_nat]
 have fb:(toW (b:Int)).1=false:=by rw [toW_nat]
 unfold ref02_DivMod_j6 ref02_DivMod_j7
 have hq:a / b < top256:=Nat.lt_of_le_of_lt (Nat.div_le_self _ _) ha
 have hr:a % b < top256:=Nat.lt_trans (Nat.mod_lt _ h0) hb
 have lq:=ofn_length_lt (v:=a / b) (n:=4) hq
 have lr:=ofn_length_lt (v:=a % b) (n:=4) hr
 simp only [fa,fb,cond_false,cond_true,show eqT Ty.bool false false=true from rfl,Bool.not_true,Bool.not_false]
 rw [ref02_wide_eq F hF false (ofn_Wd _) (by omega),ref02_wide_eq F hF false (ofn_Wd _) (by omega),wv_ofn,wv_ofn]
 unfold wres
 simp only [Bool.false_eq_true,if_false,Int.natAbs_natCast,hq,hr,if_true,Option.bind_some,cond_false,Bool.not_true]
theorem halves{b r:Nat}(h0:0 < r)(h:r < b):2*(b % r) < b:=by
 have h1:=Nat.mod_lt b h0
 have h2:=Nat.div_add_mod b r
 have h3:1≤b / r:=(Nat.one_le_div_iff h0).2 (by omega)
 have h4:r*1≤r*(b / r):=Nat.mul_le_mul_left _ h3
 omega
theorem gcd_step(a b:Nat):Nat.gcd b (a % b)=Nat.gcd a b:=by
 rw [Nat.gcd_comm a b,Nat.gcd_rec b a,Nat.gcd_comm]
theorem gcd_top{a b:Nat}(ha:a < top256)(hb:b < top256)(h:0 < a∨0 < b):Nat.gcd a b < top256:=by
 rcases h with h | h
 ·exact Nat.lt_of_le_of_lt (Nat.gcd_le_left _ h) ha
 ·exact Nat.lt_of_le_of_lt (Nat.gcd_le_right _ h) hb
theorem div_step(F:Nat)(hF:Fuel F){R:Type}(k0:W→W→Option R)(z:W){a b:Nat}(ha:a < top256)(hb:b < top256)(N:Nat) :
  ratio_divisor_l2 F k0 (N+1) (toW (a:Int)) (toW (b:Int)) z=if b=0 then k0 (toW (a:Int)) z else ratio_divisor_l2 F k0 N (toW (b:Int)) (toW ((a % b:Nat):Int)) z:=by
 rw [ratio_divisor_l2,wide_Sign_eq F (natTop hb),wi_toW]
 simp only [Option.bind_some]
 by_cases h0:b=0
 ·rw [if_pos h0,if_pos (by omega)]
  rfl
 ·rw [if_neg h0,if_neg (by omega),if_neg (by omega),wide_DivMod_nat F hF ha hb (by omega)]
  have e0:eqI (1:Int) 0=false:=by rw [← Bool.not_eq_true,eqI_true]; omega
  simp only [e0,Bool.not_false,cond_true,Option.bind_some]
theorem div_loop(F:Nat)(hF:Fuel F){R:Type}(k0:W→W→Option R)(z:W):∀ (m:Nat) (a b:Nat),b < 2 ^ m→a < top256→b < top256→∀ N,2*m < N →
  ratio_divisor_l2 F k0 N (toW (a:Int)) (toW (b:Int)) z=k0 (toW ((Nat.gcd a b:Nat):Int)) z:=by
 intro m
 induction m with
 | zero =>
  intro a b h ha hb N hN
  obtain ⟨N,rfl⟩:∃ M,N=M+1:=⟨N - 1,by omega⟩
  have h0:b=0:=by simpa using h
  rw [div_step F hF k0 z ha hb,if_pos h0,h0,Nat.gcd_zero_right]
 | succ m ih =>
  intro a b h ha hb N hN
  obtain ⟨N,rfl⟩:∃ M,N=M+2:=⟨N - 2,by omega⟩
  rw [div_step F hF k0 z ha hb]
  by_cases h0:b=0
  ·rw [if_pos h0,h0,Nat.gcd_zero_right]
  ·have hr:a % b < b:=Nat.mod_lt _ (by omega)
   rw [if_neg h0,div_step F hF k0 z hb (by omega)]
   by_cases h1:a % b=0
   ·rw [if_pos h1,← gcd_step,h1,Nat.gcd_zero_right]
   ·have h2:=halves (by omega) hr
    rw [Nat.pow_succ] at h
    have h3:b % (a % b) < top256:=Nat.lt_trans (Nat.mod_lt _ (by omega)) (by omega)
    rw [if_neg h1,ih _ _ (by omega) (by omega) h3 N (by omega),gcd_step,gcd_step]
def wgcd(x y:W):Nat:=Nat.gcd (wv x.2.1) (wv y.2.1)
theorem noneg_toW{w:W}(h:WOk w):(false,w.2)=toW ((wv w.2.1:Nat):Int):=by
 rw [toW_nat,pad4_wv h.1 h.2]
theorem ratio_divisor_eq(F:Nat)(hF:Fuel F){x y:W}(hx:WOk x)(hy:WOk y):ratio_divisor F x y=some (toW ((wgcd x y:Nat):Int),()):=by
 have hF':=hF
 unfold Fuel at hF'
 unfold ratio_divisor
 rw [noneg_toW hx,noneg_toW hy]
 rw [div_loop F hF _ _ 256 _ _ (by have:=hy.lt; rw [show top256=2 ^ 256 from by decide] at this; exact this) hx.lt hy.lt F (by omega)]
 rfl
theorem gcd5_loop(F:Nat){R:Type}(k2:W→Int→Option R)(z:W):∀ (m:Nat) (a b:Nat),b < 2 ^ m→∀ N,2*m < N →
  ref03_gcd_l5 F k2 N z (a:Int) (b:Int)=k2 z ((Nat.gcd a b:Nat):Int):=by
 have st:∀ (a b N:Nat),ref03_gcd_l5 F k2 (N+1) z (a:Int) (b:Int)=if b=0 then k2 z (a:Int) else ref03_gcd_l5 F k2 N z (b:Int) ((a % b:Nat):Int):=by
  intro a b N
  rw [ref03_gcd_l5,remI_nn (by omega)]
  by_cases h0:b=0
  ·rw [if_pos h0]; simp (disch:=omega) only [bs,↓if_pos,↓if_neg]
  ·rw [if_neg h0]; simp (disch:=omega) only [bs,↓if_pos,↓if_neg]
   rfl
 intro m
 induction m with
 | zero =>
  intro a b h N hN
  obtain ⟨N,rfl⟩:∃ M,N=M+1:=⟨N - 1,by omega⟩
  have h0:b=0:=by simpa using h
  rw [st,if_pos h0,h0,Nat.gcd_zero_right]
 | succ m ih =>
  intro a b h N hN
  obtain ⟨N,rfl⟩:∃ M,N=M+2:=⟨N - 2,by omega⟩
  rw [st]
  by_cases h0:b=0
  ·rw [if_pos h0,h0,Nat.gcd_zero_right]
  ·have hr:a % b < b:=Nat.mod_lt _ (by omega)
   rw [if_neg h0,st]
   by_cases h1:a % b=0
   ·rw [if_pos h1,← gcd_step,h1,Nat.gcd_zero_right]
   ·have h2:=halves (by omega) hr
    rw [Nat.pow_succ] at h
    rw [if_neg h1,ih _ _ (by omega) N (by omega),gcd_step,gcd_step]
def gK(F:Nat):W→W→Option (W×Unit):=fun z25 z26=>some (z25,())
def gR(F:Nat):W→Option (W×Unit):=fun z27=>some (z27,())
theorem uns_ok(F:Nat)(hF:Fuel F){a:Nat}(ha:a < top256):∃ (va:Int) (pa:Bool),ref02_Unsigned F (toW (a:Int))=some (va,pa,())∧(a < 18446744073709551616→pa=true∧va=(a:Int))∧(¬ a < 18446744073709551616→pa=false):=by
 refine ⟨_,_,ref02_Unsigned_eq F hF (natTop ha),fun h=>?_,fun h=>?_⟩
 ·rw [wi_toW]
  exact ⟨decide_eq_true (by omega),if_pos (by omega)⟩
 ·rw [wi_toW]
  exact decide_eq_false (by omega)
theorem sgn_ok(F:Nat)(hF:Fuel F){a:Nat}(ha:a < top256):∃ v:Int,ref02_Sign F (toW (a:Int))=some (v,())∧(a=0→eqI v 0=true)∧(a≠0→eqI v 0=false):=by
 refine ⟨_,ref02_Sign_eq F hF (natTop ha),fun h=>?_,fun h=>?_⟩
 ·rw [wi_toW,if_pos (by omega)]; rfl
 ·rw [wi_toW,if_neg (by omega),if_neg (by omega)]; rfl
theorem rgcd_step(F:Nat)(hF:Fuel F)(z:W){a b:Nat}(ha:a < top256)(hb:b < top256)(N:Nat) :
  ref03_gcd_l1 F (gK F) (gR F) (N+1) (toW (a:Int)) (toW (b:Int)) z =
   if b=0 then some (toW (a:Int),()) else if a < 18446744073709551616∧b < 18446744073709551616 then some (toW ((Nat.gcd a b:Nat):Int),())
    else ref03_gcd_l1 F (gK F) (gR F) N (toW (b:Int)) (toW ((a % b:Nat):Int)) z:=by
 have hF':=hF
 unfold Fuel at hF'
 obtain ⟨v,e1,h1,h2⟩:=sgn_ok F hF hb
 obtain ⟨va,pa,e2,h3,h4⟩:=uns_ok F hF ha
 obtain ⟨vb,pb,e3,h5,h6⟩:=uns_ok F hF hb
 rw [ref03_gcd_l1,e1]
 by_cases h0:b=0
 ·rw [if_pos h0]
  simp only [Option.bind_some,h1 h0,Bool.not_true,cond_false,gK]
 ·rw [if_neg h0]
  unfold ref03_gcd_j5 ref03_gcd_j8
  have hdm:=ref02_DivMod_nat F hF ha hb (by omega)
  by_cases ka:a < 18446744073709551616
  ·obtain ⟨rfl,rfl⟩:=h3 ka
   by_cases kb:b < 18446744073709551616
   ·obtain ⟨rfl,rfl⟩:=h5 kb
    rw [if_pos ⟨ka,kb⟩]
    have hg:Nat.gcd a b≤b:=Nat.gcd_le_right _ (by omega)
    simp only [e2,e3,Option.bind_some,h2 h0,Bool.not_false,cond_true,gcd5_loop F _ _ 64 a b (by omega) F (by omega),ref02_OfUnsigned_eq F (x:=((Nat.gcd a b:Nat):Int)) (by omega),gR]
   ·have:=h6 kb
    subst this
    rw [if_neg (by omega)]
    simp only [e2,e3,Option.bind_some,h2 h0,Bool.not_false,cond_true,cond_false,hdm]
  ·have:=h4 ka
   subst this
   rw [if_neg (by omega)]
   simp only [e2,e3,Option.bind_some,h2 h0,Bool.not_false,cond_true,cond_false,hdm]
theorem rgcd_loop(F:Nat)(hF:Fuel F)(z:W):∀ (m:Nat) (a b:Nat),b < 2 ^ m→a < top256→b < top256→∀ N,2*m < N →
  ref03_gcd_l1 F (gK F) (gR F) N (toW (a:Int)) (toW (b:Int)) z=some (toW ((Nat.gcd a b:Nat):Int),()):=by
 intro m
 induction m with
 | zero =>
  intro a b h ha hb N hN
  obtain ⟨N,rfl⟩:∃ M,N=M+1:=⟨N - 1,by omega⟩
  have h0:b=0:=by simpa using h
  rw [rgcd_step F hF z ha hb,if_pos h0,h0,Nat.gcd_zero_right]
 | succ m ih =>
  intro a b h ha hb N hN
  obtain ⟨N,rfl⟩:∃ M,N=M+2:=⟨N - 2,by omega⟩
  rw [rgcd_step F hF z ha hb]
  by_cases h0:b=0
  ·rw [if_pos h0,h0,Nat.gcd_zero_right]
  ·rw [if_neg h0]
   by_cases hs:a < 18446744073709551616∧b < 18446744073709551616
   ·rw [if_pos hs]
   ·have hr:a % b < b:=Nat.mod_lt _ (by omega)
    rw [if_neg hs,rgcd_step F hF z hb (by omega)]
    by_cases h1:a % b=0
    ·rw [if_pos h1,← gcd_step,h1,Nat.gcd_zero_right]
    ·rw [if_neg h1]
     by_cases hs2:b < 18446744073709551616∧a % b < 18446744073709551616
     ·rw [if_pos hs2,gcd_step]
     ·have h2:=halves (by omega) hr
      rw [Nat.pow_succ] at h
      have h3:b % (a % b) < top256:=Nat.lt_trans (Nat.mod_lt _ (by omega)) (by omega)
      rw [if_neg hs2,ih _ _ (by omega) (by omega) h3 N (by omega),gcd_step,gcd_step]
theorem ref03_gcd_nat(F:Nat)(hF:Fuel F){a b:Nat}(ha:a < top256)(hb:b < top256):ref03_gcd F (toW (a:Int)) (toW (b:Int))=some (toW ((Nat.gcd a b:Nat):Int),()):=by
 have hF':=hF
 unfold Fuel at hF'
 unfold ref03_gcd
 exact rgcd_loop F hF _ 256 _ _ (by rw [show top256=2 ^ 256 from by decide] at hb; exact hb) ha hb F (by omega)
theorem eqT_toW(g:Nat):eqT (.pair .bool (.pair (.arr 4 (.int .u64)) .unit)) (toW (g:Int)) (toW 1)=decide (g=1):=by
 show((toW (g:Int)).1 == (toW 1).1 && (eqT (.arr 4 (.int .u64)) (toW (g:Int)).2.1 (toW 1).2.1 && true))=_
 rw [eqT_words,show toW 1=toW ((1:Nat):Int) from rfl,toW_nat,toW_nat]
 simp [pad4_inj]
def Sm(v:Nat):Prop:=v < 170141183460469231731687303715884105728
instance (v:Nat):Decidable (Sm v):=by unfold Sm; infer_instance
theorem small_iff{a b c d:Int}(ha:0≤a∧a≤18446744073709551615)(hb:0≤b∧b≤18446744073709551615)(hc:0≤c∧c≤18446744073709551615)(hd:0≤d∧d≤18446744073709551615) :
  Sm (wv [a,b,c,d])↔d=0∧c=0∧b < 9223372036854775808:=by
 unfold Sm
 rw [wv4]
 omega
theorem ratio_small_eq(F:Nat){w:W}(h:WOk w):ratio_small F w=some (decide (Sm (wv w.2.1)),()):=by
 obtain ⟨s,l,u⟩:=w
 obtain ⟨h1,h2⟩:=h
 simp only at h1 h2
 obtain ⟨a,b,c,d,rfl,ha,hb,hc,hd⟩:=four h1 h2
 unfold ratio_small
 simp only [g1,g2,g3]
 have hi:=small_iff ha hb hc hd
 have hsh:shrI .u64 b 63=b / 9223372036854775808:=by
  rw [shrI_nat hb.1,show min (63:Int).toNat IntKind.u64.bits=63 from rfl]
  omega
 rw [hsh]
 by_cases h3:d=0
 ·by_cases h4:c=0
  ·simp (disch:=omega) only [bs,↓if_pos,↓if_neg]
   congr 2
   unfold eqI
   exact decide_eq_decide.2 (by rw [hi]; omega)
  ·rw [decide_eq_false (by rw [hi]; omega)]; simp (disch:=omega) only [bs,↓if_pos,↓if_neg]
 ·rw [decide_eq_false (by rw [hi]; omega)]; simp (disch:=omega) only [bs,↓if_pos,↓if_neg]
theorem ref03_small_eq(F:Nat){w:W}(h:WOk w):ref03_small F w=some (decide (Sm (wv w.2.1)),()):=by
 obtain ⟨s,l,u⟩:=w
 obtain ⟨h1,h2⟩:=h
 simp only at h1 h2
 obtain ⟨a,b,c,d,rfl,ha,hb,hc,hd⟩:=four h1 h2
 unfold ref03_small
 simp only [g1,g2,g3]
 have hi:=small_iff ha hb hc hd
 by_cases h3:d=0
 ·by_cases h4:c=0
  ·simp (disch:=omega) only [bs,↓if_pos,↓if_neg]
   congr 2
   unfold ltI
   exact decide_eq_decide.2 (by rw [hi]; omega)
  ·rw [decide_eq_false (by rw [hi]; omega)]; simp (disch:=omega) only [bs,↓if_pos,↓if_neg]
 ·rw [decide_eq_false (by rw [hi]; omega)]; simp (disch:=omega) only [bs,↓if_pos,↓if_neg]
abbrev Rt:=W×(W×Unit)
def ROk(q:Rt):Prop:=WOk q.1∧WOk q.2.1
def RV(q:Rt):Prop:=Vl q.1∧Vl q.2.1∧0 < wi q.2.1∧Sm (wv q.1.2.1)∧Sm (wv q.2.1.2.1)∧wgcd q.1 q.2.1=1
instance (q:Rt):Decidable (RV q):=by unfold RV; infer_instance
theorem sgn_pos(z:Int):(0 < (if z=0 then(0:Int) else if z < 0 then -1 else 1))↔0 < z:=by split <;> (try split) <;> omega
theorem wide_Of_eq(F:Nat){x:Int}(h:I64 x):wide_Of F x=some (toW x,()):=ref02_Of_eq F h
theorem ratio_Valid_eq(F:Nat)(hF:Fuel F){q:Rt}(h:ROk q):ratio_Valid F q=some (decide (RV q),()):=by
 obtain ⟨n,d,u⟩:=q
 obtain ⟨hn,hd⟩:=h
 simp only at hn hd
 unfold ratio_Valid
 simp only [wide_Valid_eq F hn,wide_Valid_eq F hd,wide_Sign_eq F hd,ratio_small_eq F hn,ratio_small_eq F hd,ratio_divisor_eq F hF hn hd,wide_Of_eq F (x:=1) (by unfold I64; omega),Option.bind_some,eqT_toW]
 have hs:ltI 0 (if wi d=0 then 0 else if wi d < 0 then -1 else 1)=decide (0 < wi d):=by
  unfold ltI
  exact decide_eq_decide.2 (sgn_pos _)
 rw [hs]
 unfold RV
 by_cases h1:Vl n <;> by_cases h2:Vl d <;> by_cases h3:0 < wi d <;> by_cases h4:Sm (wv n.2.1) <;> by_cases h5:Sm (wv d.2.1) <;> simp [h1,h2,h3,h4,h5]
theorem ref03_Valid_eq(F:Nat)(hF:Fuel F){q:Rt}(h:ROk q):ref03_Valid F q=some (decide (RV q),()):=by
 obtain ⟨n,d,u⟩:=q
 obtain ⟨hn,hd⟩:=h
 simp only at hn hd
 unfold ref03_Valid ref03_one ref03_abs
 simp only [ref02_Valid_eq F hF hn,ref02_Valid_eq F hF hd,ref02_Sign_eq F hF hd,ref03_small_eq F hn,ref03_small_eq F hd,ref02_Of_eq F (x:=1) (by unfold I64; omega),Option.bind_some]
 have hs:leI (if wi d=0 then 0 else if wi d < 0 then -1 else 1) 0=!decide (0 < wi d):=by
  unfold leI
  rw [← decide_not]
  exact decide_eq_decide.2 (by rw [← sgn_pos]; omega)
 rw [hs]
 unfold RV
 by_cases h1:Vl n
 ·by_cases h2:Vl d
  ·by_cases h3:0 < wi d
   ·have ed:d=toW ((wv d.2.1:Nat):Int):=by
     have h:=toW_wi hd h2
     have hp:wi d=((wv d.2.1:Nat):Int):=by
      have:=wi_abs d
      omega
     rw [hp] at h
     exact h.symm
    have hg:ref03_gcd F (false,n.2) d=some (toW ((wgcd n d:Nat):Int),()):=by
     rw [noneg_toW hn]
     conv=>lhs; rw [ed]
     rw [ref03_gcd_nat F hF hn.lt hd.lt]
     rfl
    by_cases h4:Sm (wv n.2.1) <;> by_cases h5:Sm (wv d.2.1) <;> simp [h1,h2,h3,h4,h5,hg,eqT_toW]
   ·simp [h1,h2,h3]
  ·simp [h1,h2]
 ·simp [h1]
abbrev Ln:=Int×(Int×(Rt×Unit))
abbrev zR:Rt:=((false,[0,0,0,0],()),((false,[0,0,0,0],()),()))
def LnOk(l:List Ln):Prop:=∀ s∈l,I64 s.1∧I64 s.2.1∧ROk s.2.2.1
def lv(l:List Ln):List Int:=l.map (·.2.1)
def of0:Rt:=(toW 0,(toW 1,()))
theorem ref03_Of_eq(F:Nat){x:Int}(h:I64 x):ref03_Of F x=some ((toW x,(toW 1,())),()):=by
 unfold ref03_Of ref03_one
 rw [ref02_Of_eq F h,ref02_Of_eq F (x:=1) (by unfold I64; omega)]
 rfl
theorem of0_ok:ROk of0:=⟨toW_ok (by decide),toW_ok (by decide)⟩
theorem of0_RV:RV of0:=by
 have h0:wv (toW 0).2.1=0:=wv_pad4 _
 have h1:wv (toW 1).2.1=1:=wv_pad4 _
 refine ⟨toW_Vl _,toW_Vl _,?_,?_,?_,?_⟩
 ·show 0 < wi (toW 1); rw [wi_toW]; omega
 ·show Sm (wv (toW 0).2.1); rw [h0]; decide
 ·show Sm (wv (toW 1).2.1); rw [h1]; decide
 ·show wgcd (toW 0) (toW 1)=1
  unfold wgcd
  rw [h0,h1]
  rfl
abbrev tyW:Ty:=.pair .bool (.pair (.arr 4 (.int .u64)) .unit)
theorem eqWt(a b:W):eqT tyW a b=decide (a=b):=by
 obtain ⟨a1,a2,_⟩:=a
 obtain ⟨b1,b2,_⟩:=b
 show(a1 == b1 && (eqT (.arr 4 (.int .u64)) a2 b2 && true))=_
 rw [eqT_words]
 by_cases h1:a1=b1 <;> by_cases h2:a2=b2 <;> simp [h1,h2]
theorem eqRt(a b:Rt):eqT (.pair tyW (.pair tyW .unit)) a b=decide (a=b):=by
 obtain ⟨a1,a2,_⟩:=a
 obtain ⟨b1,b2,_⟩:=b
 show(eqT tyW a1 b1 && (eqT tyW a2 b2 && true))=_
 rw [eqWt,eqWt]
 by_cases h1:a1=b1 <;> by_cases h2:a2=b2 <;> simp [h1,h2]
instance decRt:DecidableEq Rt:=inferInstance
instance decLn0:DecidableEq (Rt×Unit):=instDecidableEqProd
instance decLn1:DecidableEq (Int×(Rt×Unit)):=instDecidableEqProd
instance decLn:DecidableEq Ln:=instDecidableEqProd
def sp(q:Rt):List Int:=enc (uw (wi q.1))++enc (uw (wi q.2.1))
theorem sp_len{q:Rt}(h:ROk q):(sp q).length≤74:=by
 have h1:=enc_uw_len h.1.abs
 have h2:=enc_uw_len h.2.abs
 unfold sp
 rw [List.length_append]
 omega
theorem sp_Bt(q:Rt):Bt (sp q):=Bt.append (enc_bt _) (enc_bt _)
theorem AppendSlope_eq(F:Nat)(hF:Fuel F){b:List Int}(hb:(b.length:Int)≤140737488355000){q:Rt}(h:ROk q):records_AppendSlope F b q=some (b++sp q,()):=by
 have h1:=enc_uw_len h.1.abs
 unfold records_AppendSlope sp
 rw [varint_AppendWide_eq F hF (by unfold Room; omega) h.1]
 simp only [Option.bind_some]
 rw [varint_AppendWide_eq F hF (by unfold Room; rw [List.length_append]; omega) h.2]
 simp only [Option.bind_some,List.append_assoc]
def rsp(b:List Int)(at_:Int):Rt×Int×Int :=
 if(rdw b at_).2.2=0 then
  if(rdw b (rdw b at_).2.1).2.2=0 then
   if RV (toW (rdw b at_).1,(toW (rdw b (rdw b at_).2.1).1,())) then((toW (rdw b at_).1,(toW (rdw b (rdw b at_).2.1).1,())),(rdw b (rdw b at_).2.1).2.1,0) else(zR,0,5)
  else(zR,0,(rdw b (rdw b at_).2.1).2.2)
 else(zR,0,(rdw b at_).2.2)
theorem rRt_ok(b:List Int)(a c:Int):ROk (toW (rdw b a).1,(toW (rdw b c).1,())):=⟨toW_ok (rdw_abs b a),toW_ok (rdw_abs b c)⟩
theorem records_Slope_eq(F:Nat)(hF:Fuel F){b:List Int}(hb:Bt b)(hl:(b.length:Int)≤140737488355328)(at_:Int):records_Slope F b at_=some ((rsp b at_).1,(rsp b at_).2.1,(rsp b at_).2.2,()):=by
 have hF':=hF
 unfold Fuel at hF'
 obtain ⟨N,hN⟩:∃ N,F=N+1+1+1:=⟨F - 3,by omega⟩
 have st1:∀ {R:Type} (k0:Int→Rt→List W→Option R) (kr:Rt→Int→Int→Option R) (M:Nat) (q:Rt) (x y:W) (a:Int),records_Slope_l3 F k0 kr (M+1) b a q [x,y] 0 =
   if(rdw b a).2.2=0 then records_Slope_l3 F k0 kr M b (rdw b a).2.1 q [toW (rdw b a).1,y] 1 else kr zR 0 (rdw b a).2.2:=by
  intro R k0 kr M q x y a
  rw [records_Slope_l3,varint_ReadWide_eq F hF hb hl]
  by_cases c1:(rdw b a).2.2=0
  ·rw [if_pos c1]; simp (disch:=omega) only [bs,↓if_pos,↓if_neg]
   rfl
  ·rw [if_neg c1]; simp (disch:=omega) only [bs,↓if_pos,↓if_neg]
 have st2:∀ {R:Type} (k0:Int→Rt→List W→Option R) (kr:Rt→Int→Int→Option R) (M:Nat) (q:Rt) (x y:W) (a:Int),records_Slope_l3 F k0 kr (M+1) b a q [x,y] 1 =
   if(rdw b a).2.2=0 then records_Slope_l3 F k0 kr M b (rdw b a).2.1 q [x,toW (rdw b a).1] 2 else kr zR 0 (rdw b a).2.2:=by
  intro R k0 kr M q x y a
  rw [records_Slope_l3,varint_ReadWide_eq F hF hb hl]
  by_cases c1:(rdw b a).2.2=0
  ·rw [if_pos c1]; simp (disch:=omega) only [bs,↓if_pos,↓if_neg]
   rfl
  ·rw [if_neg c1]; simp (disch:=omega) only [bs,↓if_pos,↓if_neg]
 have st3:∀ {R:Type} (k0:Int→Rt→List W→Option R) (kr:Rt→Int→Int→Option R) (M:Nat) (q:Rt) (z:List W) (a:Int),records_Slope_l3 F k0 kr (M+1) b a q z 2=k0 a q z:=by
  intro R k0 kr M q z a
  rw [records_Slope_l3]
  simp (disch:=omega) only [bs,↓if_pos,↓if_neg]
 unfold records_Slope
 have key:∀ M,M=N+1+1+1→records_Slope_l3 F
  (fun z6 z7 z8 =>
   let x33v9:=getL (false,([0,0,0,0],())) z8 0
   let x35v10:=getL (false,([0,0,0,0],())) z8 1
   (wide_Sign F x35v10).bind fun r11 =>
   bif leI r11.1 0 then
    some (((false,([0,0,0,0],())),((false,([0,0,0,0],())),())),((0:Int),((5:Int),())))
   else
    (ratio_Valid F (x33v9,(x35v10,()))).bind fun r13 =>
    bif not r13.1 then
     some (((false,([0,0,0,0],())),((false,([0,0,0,0],())),())),(0,(5,())))
    else
     some ((x33v9,(x35v10,())),(z6,(0,()))))
  (fun z15 z16 z17 =>
   some (z15,(z16,(z17,()))))
  M b at_ ((false,([0,0,0,0],())),((false,([0,0,0,0],())),())) [(false,([0,0,0,0],())),(false,([0,0,0,0],()))] 0=some ((rsp b at_).1,(rsp b at_).2.1,(rsp b at_).2.2,()):=by
  intro M hM
  subst hM
  unfold rsp
  rw [st1]
  by_cases c1:(rdw b at_).2.2=0
  ·rw [if_pos c1,if_pos c1,st2]
   by_cases c2:(rdw b (rdw b at_).2.1).2.2=0
   ·rw [if_pos c2,if_pos c2,st3]
    show((wide_Sign F (toW (rdw b (rdw b at_).2.1).1)).bind fun r11 =>
     bif leI r11.1 0 then some (zR,((0:Int),((5:Int),())))
     else(ratio_Valid F (toW (rdw b at_).1,(toW (rdw b (rdw b at_).2.1).1,()))).bind fun r13 =>
      bif not r13.1 then some (zR,(0,(5,()))) else some ((toW (rdw b at_).1,(toW (rdw b (rdw b at_).2.1).1,())),((rdw b (rdw b at_).2.1).2.1,(0,()))))=_
    have hok:=rRt_ok b at_ (rdw b at_).2.1
    rw [wide_Sign_eq F hok.2,ratio_Valid_eq F hF hok]
    simp only [Option.bind_some]
    by_cases c3:RV (toW (rdw b at_).1,(toW (rdw b (rdw b at_).2.1).1,()))
    ·have hp:=c3.2.2.1
     simp only at hp
     rw [if_pos c3,decide_eq_true c3,if_neg (by omega),if_neg (by omega)]
     rfl
    ·rw [if_neg c3,decide_eq_false c3]
     cases leI (if wi (toW (rdw b (rdw b at_).2.1).1)=0 then(0:Int) else if wi (toW (rdw b (rdw b at_).2.1).1) < 0 then -1 else 1) 0 <;> rfl
   ·rw [if_neg c2,if_neg c2]
  ·rw [if_neg c1,if_neg c1]
 exact key F hN
theorem RV_toW{q:Rt}(h:ROk q)(hv:RV q):q=(toW (wi q.1),(toW (wi q.2.1),())):=by
 obtain ⟨n,d,_⟩:=q
 have e1:=toW_wi h.1 hv.1
 have e2:=toW_wi h.2 hv.2.1
 simp only at e1 e2 ⊢
 rw [e1,e2]
theorem rsp_back{q:Rt}(h:ROk q)(hv:RV q)(b rest:List Int):rsp (b++(sp q++rest)) (b.length:Int)=(q,(b.length:Int)+(sp q).length,0):=by
 have e1:=rdw_enc h.1.abs b (enc (uw (wi q.2.1))++rest)
 have e2:=rdw_enc h.2.abs (b++enc (uw (wi q.1))) rest
 have hb:b++(sp q++rest)=b++(enc (uw (wi q.1))++(enc (uw (wi q.2.1))++rest)):=by unfold sp; simp only [List.append_assoc]
 have hb2:b++(sp q++rest)=(b++enc (uw (wi q.1)))++(enc (uw (wi q.2.1))++rest):=by unfold sp; simp only [List.append_assoc]
 rw [← hb] at e1
 rw [← hb2,List.length_append,Int.natCast_add] at e2
 have hq:=RV_toW h hv
 unfold rsp
 rw [e1]
 simp only [if_true]
 rw [e2]
 simp only [if_true]
 rw [← hq,if_pos hv]
 have:(sp q).length=(enc (uw (wi q.1))).length+(enc (uw (wi q.2.1))).length:=by unfold sp; rw [List.length_append]
 simp only [Prod.mk.injEq,true_and,and_true]
 omega
theorem LnOk_of{l:List Ln}(h:wfT (.slice (.pair (.int .i64) (.pair (.int .i64) (.pair (.pair tyW (.pair tyW .unit)) .unit)))) l):LnOk l :=
 fun s hs=>⟨rng_i64 (h.2 s hs).1,rng_i64 (h.2 s hs).2.1,WOk_of (h.2 s hs).2.2.1.1,WOk_of (h.2 s hs).2.2.1.2.1⟩
theorem zR_ok:ROk zR:=by
 have h:WOk ((false,[0,0,0,0],()):W):=⟨wd4 (by omega) (by omega) (by omega) (by omega),rfl⟩
 exact ⟨h,h⟩
theorem Make_ok(F:Nat)(hF:Fuel F){x y:W}(hx:WOk x)(hy:WOk y):∃ q ok,ref03_Make F x y=some (q,ok,())∧ROk q∧(ok=true→RV q):=by
 unfold ref03_Make
 rw [ref02_Valid_eq F hF hx,ref02_Valid_eq F hF hy,ref02_Sign_eq F hF hy]
 simp only [Option.bind_some]
 by_cases v1:Vl x
 rotate_left
 ·rw [decide_eq_false v1]
  exact ⟨zR,false,rfl,zR_ok,fun h=>by cases h⟩
 by_cases v2:Vl y
 rotate_left
 ·rw [decide_eq_true v1,decide_eq_false v2]
  exact ⟨zR,false,rfl,zR_ok,fun h=>by cases h⟩
 rw [decide_eq_true v1,decide_eq_true v2]
 simp only [Bool.not_true,cond_false]
 by_cases h0:wi y=0
 ·rw [if_pos h0]
  exact ⟨zR,false,rfl,zR_ok,fun h=>by cases h⟩
 ·have hz:eqI (if wi y=0 then 0 else if wi y < 0 then -1 else 1) 0=false:=by
   rw [if_neg h0,← Bool.not_eq_true,eqI_true]
   split <;> omega
  have hp:0 < wv y.2.1:=by have:=wi_abs y; omega
  have hg0:0 < Nat.gcd (wv x.2.1) (wv y.2.1):=Nat.gcd_pos_of_pos_right _ hp
  have hgt:=gcd_top hx.lt hy.lt (.inr hp)
  rw [hz]
  unfold ref03_abs
  simp only [cond_false,Option.bind_some]
  rw [noneg_toW hx,noneg_toW hy,ref03_gcd_nat F hF hx.lt hy.lt]
  simp only [Option.bind_some]
  generalize Nat.gcd (wv x.2.1) (wv y.2.1)=g at *
  rw [ref02_DivMod_nat F hF hx.lt hgt hg0,ref02_DivMod_nat F hF hy.lt hgt hg0]
  simp only [Option.bind_some]
  have t1:wv x.2.1 / g < top256:=Nat.lt_of_le_of_lt (Nat.div_le_self _ _) hx.lt
  have t2:wv y.2.1 / g < top256:=Nat.lt_of_le_of_lt (Nat.div_le_self _ _) hy.lt
  have fin:∀ a:W,WOk a→∃ q ok,ref03_Make_j8 F (fun z18 z19=>some (z18,(z19,()))) zR a (toW ((wv y.2.1 / g:Nat):Int))=some (q,ok,())∧ROk q∧(ok=true→RV q):=by
   intro a ha
   have hk:ROk (a,(toW ((wv y.2.1 / g:Nat):Int),())):=⟨ha,natTop t2⟩
   unfold ref03_Make_j8
   rw [ref03_Valid_eq F hF hk]
   simp only [Option.bind_some]
   by_cases hv:RV (a,(toW ((wv y.2.1 / g:Nat):Int),()))
   ·rw [decide_eq_true hv]
    exact ⟨_,true,rfl,hk,fun _=>hv⟩
   ·rw [decide_eq_false hv]
    exact ⟨zR,false,rfl,zR_ok,fun h=>by cases h⟩
  cases eqT Ty.bool x.1 y.1
  ·simp only [Bool.not_false,cond_true]
   rw [ref02_Neg_eq F hF (natTop t1)]
   simp only [Option.bind_some]
   exact fin _ (toW_ok (by rw [Int.natAbs_neg]; exact(natTop t1).abs))
  ·simp only [Bool.not_true,cond_false]
   exact fin _ (natTop t1)
theorem wres_ok(z:Int):WOk (wres z).1:=by
 unfold wres
 split
 ·rename_i h; exact toW_ok h
 ·exact toW_ok (by decide)
theorem i64_abs{x:Int}(h:I64 x):x.natAbs < top256:=by
 have:=top256_big
 unfold I64 at h
 omega
theorem LnOk.push{l:List Ln}(h:LnOk l){x:Ln}(h1:I64 x.1)(h2:I64 x.2.1)(h3:ROk x.2.2.1):LnOk (l++[x]):=by
 intro s hs
 rcases List.mem_append.1 hs with hs | hs
 ·exact h s hs
 ·simp at hs
  subst hs
  exact ⟨h1,h2,h3⟩
/- multiplication of four words with four words -/
theorem wmul_inner(F:Nat)(x4 x16:List Int)(x17:Int){x1:List Int}(h1:Wd x1)(h14:x1.length=4){i:Nat}(hi4:i < 4){x:Int}(hx:0≤x∧x≤18446744073709551615) :
  ∀ (yb ya p q:List Int) (c:Int),x1=ya++yb→p.length=i+ya.length→yb.length≤q.length→Wd q→0≤c∧c≤18446744073709551615→(p++q).length=8 →
  ∀ N,yb.length < N→∃ (r:List Int) (c':Int),Wd r∧r.length=yb.length∧(0≤c'∧c'≤18446744073709551615) ∧
   wv r+c'.toNat*18446744073709551616 ^ yb.length=wv (q.take yb.length)+x.toNat*wv yb+c.toNat ∧
   ∀ (R:Type) (k:List Int→List Int→List Int→Int→Int→List Int→Int→Option R),wide_mul_l7 F k N x1 x4 (p++q) (i:Int) x c x16 x17 x1 (ya.length:Int)=k x1 x4 (p++(r++q.drop yb.length)) (i:Int) c' x16 x17:=by
 intro yb
 induction yb with
 | nil =>
  intro ya p q c hy hp hq hw hc hl N hN
  obtain ⟨N,rfl⟩:∃ M,N=M+1:=⟨N - 1,by omega⟩
  refine ⟨[],c,Wd.nil,rfl,hc,?_,?_⟩
  ·simp [wv]
  ·intro R k
   have:x1.length=ya.length:=by rw [hy]; simp
   unfold wide_mul_l7
   simp (disch:=omega) only [bs,↓if_pos,↓if_neg]
   simp
 | cons y t ih =>
  intro ya p q c hy hp hq hw hc hl N hN
  obtain ⟨N,rfl⟩:∃ M,N=M+1:=⟨N - 1,by omega⟩
  cases q with
  | nil=>simp at hq
  | cons w q =>
   have hlen1:x1.length=ya.length+(t.length+1):=by rw [hy]; simp
   have hpq:(p++w::q).length=p.length+(q.length+1):=by simp
   have hyr:0≤y∧y≤18446744073709551615:=h1 y (by rw [hy]; simp)
   have hwr:=Wd.head hw
   have hgy:getL 0 x1 (ya.length:Int)=y:=by rw [hy]; exact get_mid _ _ _
   have hprod:=mul_bd hx hyr
   generalize hxy:x*y=xy at *
   have hgw:getL 0 (p++w::q) ((i:Int)+(ya.length:Int))=w:=by
    rw [show(i:Int)+(ya.length:Int)=(p.length:Int) by omega]; exact get_mid _ _ _
   have hsw:∀ v,setL (p++w::q) ((i:Int)+(ya.length:Int)) v=(p++[v])++q:=by
    intro v
    rw [show(i:Int)+(ya.length:Int)=(p.length:Int) by omega]; exact set_mid _ _ _ _
   obtain ⟨r,c',e1,e2,e3,e4,e5⟩:=ih (ya++[y]) (p++[(xy % 18446744073709551616+w+c) % 18446744073709551616]) q
    (xy / 18446744073709551616+(xy % 18446744073709551616+w) / 18446744073709551616+((xy % 18446744073709551616+w) % 18446744073709551616+c) / 18446744073709551616)
    (by rw [hy]; simp) (by simp; omega) (by simp at hq; omega) (Wd.tail hw) (by omega) (by simp at hl ⊢; omega) N (by simp at hN; omega)
   refine ⟨(xy % 18446744073709551616+w+c) % 18446744073709551616::r,c',Wd.cons (by omega) e1,by simp [e2],e3,?_,?_⟩
   ·have hm:x.toNat*wv (y::t)=x.toNat*y.toNat+18446744073709551616*(x.toNat*wv t):=by
     rw [wv,Nat.mul_add,Nat.mul_left_comm]
    have hxyn:x.toNat*y.toNat=xy.toNat:=by
     rw [← hxy]
     have:((x.toNat*y.toNat:Nat):Int)=x*y:=by rw [Int.natCast_mul,Int.toNat_of_nonneg hx.1,Int.toNat_of_nonneg hyr.1]
     omega
    rw [hm,hxyn]
    simp only [List.length_cons,List.take_succ_cons,wv,Nat.pow_succ]
    rw [← Nat.mul_assoc]
    generalize c'.toNat*18446744073709551616 ^ t.length=T at *
    generalize x.toNat*wv t=Z at *
    omega
   ·intro R k
    have e5:=e5 R k
    have hcast:((ya++[y]).length:Int)=(ya.length:Int)+1:=by simp
    rw [hcast] at e5
    unfold wide_mul_l7 bits_Add64
    have c1:(leI 0 w && leI 0 (xy % 18446744073709551616) && leI 0 0 && leI 0 1)=true:=by simp only [Bool.and_eq_true,leI_true]; omega
    have c2:(leI 0 ((w+xy % 18446744073709551616+0) % 18446744073709551616) && leI 0 c && leI 0 0 && leI 0 1)=true:=by simp only [Bool.and_eq_true,leI_true]; omega
    have hyl:(ya.length:Int) < 4:=by omega
    simp (disch:=omega) only [bs,↓if_pos,↓if_neg,hgy,Mul64_eq F hx hyr,hxy,hgw,hsw,c1,c2,addI_u64]
    rw [show((w+xy % 18446744073709551616+0) % 18446744073709551616+c+0) % 18446744073709551616=(xy % 18446744073709551616+w+c) % 18446744073709551616 by omega,
     show xy / 18446744073709551616+(w+xy % 18446744073709551616+0) / 18446744073709551616+((w+xy % 18446744073709551616+0) % 18446744073709551616+c+0) / 18446744073709551616
      = xy / 18446744073709551616+(xy % 18446744073709551616+w) / 18446744073709551616+((xy % 18446744073709551616+w) % 18446744073709551616+c) / 18446744073709551616 by omega]
    refine Eq.trans e5 ?_
    simp
theorem wmul_outer(F:Nat)(hF:Fuel F){R:Type}(k:List Int→List Int→Option R)(x4:List Int){x0 x1:List Int}(h0:Wd x0)(h1:Wd x1)(h04:x0.length=4)(h14:x1.length=4) :
  ∀ (xb xa x5:List Int),x0=xa++xb→Wd x5→x5.length=8→wv x5=wv xa*wv x1 →
  ∀ N,xb.length < N→∃ o:List Int,Wd o∧o.length=8∧wv o=wv x0*wv x1∧wide_mul_l3 F k N x1 x4 x5 x0 (xa.length:Int)=k x4 o:=by
 intro xb
 induction xb with
 | nil =>
  intro xa x5 hx hw hl hv N hN
  obtain ⟨N,rfl⟩:∃ M,N=M+1:=⟨N - 1,by omega⟩
  have hxa:x0=xa:=by rw [hx]; simp
  refine ⟨x5,hw,hl,by rw [hv,hxa],?_⟩
  have:x0.length=xa.length:=by rw [hxa]
  unfold wide_mul_l3
  simp (disch:=omega) only [bs,↓if_pos,↓if_neg]
 | cons x t ih =>
  intro xa x5 hx hw hl hv N hN
  obtain ⟨N,rfl⟩:∃ M,N=M+1:=⟨N - 1,by omega⟩
  have hlen0:x0.length=xa.length+(t.length+1):=by rw [hx]; simp
  have hxr:0≤x∧x≤18446744073709551615:=h0 x (by rw [hx]; simp)
  have hgi:getL 0 x0 (xa.length:Int)=x:=by rw [hx]; exact get_mid _ _ _
  have hxa:Wd xa:=by rw [hx] at h0; exact Wd.left h0
  have hsp:=List.take_append_drop xa.length x5
  have hpl:(x5.take xa.length).length=xa.length:=by simp; omega
  have hql:(x5.drop xa.length).length=t.length+x1.length+1:=by simp; omega
  have hqw:=Wd.drop hw xa.length
  have hpw:=Wd.take hw xa.length
  generalize x5.take xa.length=p at *
  generalize x5.drop xa.length=q at *
  subst hsp
  obtain ⟨r,c',e1,e2,e3,e4,e5⟩:=wmul_inner F x4 x0 (xa.length:Int) h1 h14 (i:=xa.length) (by omega) hxr x1 [] p q 0 (by simp) (by simp [hpl]) (by omega) hqw (by omega) (by simp; omega) F (by unfold Fuel at hF; omega)
  have hd:(q.drop x1.length).length=t.length+1:=by simp; omega
  have hqs:=List.take_append_drop x1.length q
  have htl:(q.take x1.length).length=x1.length:=by simp; omega
  have hvq:wv q=wv (q.take x1.length)+18446744073709551616 ^ x1.length*wv (q.drop x1.length):=by
   conv=>lhs; rw [← hqs]
   rw [wv_append,htl]
  have hdw:=Wd.drop hqw x1.length
  generalize q.take x1.length=q1 at *
  generalize q.drop x1.length=q2 at *
  cases q2 with
  | nil=>simp at hd
  | cons h rest =>
   have hz:wv (h::rest)=0:=by
    have b1:=wv_lt hxa
    have b2:=wv_lt h1
    have b3:wv xa*wv x1 < 18446744073709551616 ^ xa.length*18446744073709551616 ^ x1.length:=Nat.mul_lt_mul'' b1 b2
    rw [wv_append,hpl,hvq,Nat.mul_add,← Nat.mul_assoc] at hv
    rcases Nat.eq_zero_or_pos (wv (h::rest)) with h0 | h0
    ·exact h0
    ·have:18446744073709551616 ^ xa.length*18446744073709551616 ^ x1.length*1≤18446744073709551616 ^ xa.length*18446744073709551616 ^ x1.length*wv (h::rest):=Nat.mul_le_mul_left _ h0
     omega
   obtain ⟨hh,hr⟩:=wv_zero_cons (Wd.head hdw).1 hz
   have hnew:p++(r++h::rest)=(p++r)++h::rest:=by simp
   have hset:setL (p++(r++h::rest)) ((xa.length:Int)+4) c'=(p++r++[c'])++rest:=by
    rw [hnew,show(xa.length:Int)+4=((p++r).length:Int) by simp; omega]
    exact set_mid _ _ _ _
   obtain ⟨o,f1,f2,f3,f4⟩:=ih (xa++[x]) ((p++r++[c'])++rest) (by rw [hx]; simp)
    (Wd.append (Wd.append (Wd.append hpw e1) (Wd.one e3)) (Wd.tail hdw)) (by simp at hd ⊢; omega) (by
     rw [List.append_assoc,List.append_assoc,wv_append,wv_append,wv_append,hpl,e2,hr]
     have e4:wv r+c'.toNat*18446744073709551616 ^ x1.length=wv q1+x.toNat*wv x1:=by simpa using e4
     rw [wv_append,hpl,hvq,hz] at hv
     rw [wv_append,Nat.add_mul,← hv]
     simp only [wv,Nat.mul_zero,Nat.add_zero]
     rw [Nat.mul_comm (18446744073709551616 ^ x1.length) c'.toNat,e4,Nat.mul_add,Nat.mul_assoc,Nat.add_assoc]) N (by simp at hN; omega)
   refine ⟨o,f1,f2,f3,?_⟩
   have hcast:((xa++[x]).length:Int)=(xa.length:Int)+1:=by simp
   rw [hcast] at f4
   have e5:∀ (R:Type) (k:List Int→List Int→List Int→Int→Int→List Int→Int→Option R),wide_mul_l7 F k F x1 x4 (p++q) (xa.length:Int) x 0 x0 (xa.length:Int) x1 0=k x1 x4 (p++(r++h::rest)) (xa.length:Int) c' x0 (xa.length:Int):=e5
   have hlf:(p++(r++h::rest)).length=8:=by simp at hd ⊢; omega
   unfold wide_mul_l3
   simp (disch:=omega) only [bs,↓if_pos,↓if_neg,hgi]
   rw [e5]
   simp (disch:=omega) only [bs,↓if_pos,↓if_neg,hset]
   exact f4
theorem wide_mul_eq(F:Nat)(hF:Fuel F){a b:List Int}(ha:Wd a)(hb:Wd b)(h4:a.length=4)(h5:b.length=4) :
  ∃ l,wide_mul F a b=some (l,decide (wv a*wv b < top256),())∧(wv a*wv b < top256→l=pad4 (wv a*wv b)):=by
 obtain ⟨o,h1,h2,h3,e⟩:=wmul_outer F hF (fun z25 z26=>some ((((List.take 0 z25)++(List.take 4 (List.drop 0 z26)))++(List.drop 4 z25)),(eqT (.arr 4 (.int .u64)) (List.take 4 (List.drop 4 z26)) [0,0,0,0],()))) [0,0,0,0] ha hb h4 h5 a [] [0,0,0,0,0,0,0,0] (by simp) (fun x hx=>by simp at hx; omega) rfl (by simp [wv]) F (by unfold Fuel at hF; omega)
 have hs:=List.take_append_drop 4 o
 have hlo:(o.take 4).length=4:=by simp; omega
 have hhi:(o.drop 4).length=4:=by simp; omega
 have hv:wv o=wv (o.take 4)+18446744073709551616 ^ 4*wv (o.drop 4):=by
  conv=>lhs; rw [← hs]
  rw [wv_append,hlo]
 have wlo:=Wd.take h1 4
 have whi:=Wd.drop h1 4
 have blo:wv (o.take 4) < top256:=by have:=wv_lt wlo; rw [hlo] at this; exact this
 have hz:(o.drop 4=[0,0,0,0])↔wv a*wv b < top256:=by
  rw [← h3,hv]
  constructor
  ·intro h
   rw [h]
   simpa [wv] using blo
  ·intro h
   have h0:wv (o.drop 4)=0:=by
    rcases Nat.eq_zero_or_pos (wv (o.drop 4)) with h0 | h0
    ·exact h0
    ·have:18446744073709551616 ^ 4*1≤18446744073709551616 ^ 4*wv (o.drop 4):=Nat.mul_le_mul_left _ h0
     unfold top256 at h
     omega
   exact wv_inj whi (fun x hx=>by simp at hx; omega) hhi (by rw [h0]; simp [wv])
 refine ⟨o.take 4,?_,fun h=>?_⟩
 ·unfold wide_mul
  refine e.trans ?_
  rw [eqT_words,List.take_of_length_le (l:=o.drop 4) (by omega)]
  simp only [List.take_zero,List.drop_zero,List.nil_append,show List.drop 4 ([0,0,0,0]:List Int)=[] from rfl,List.append_nil,decide_eq_decide.2 hz]
 ·have h0:=hz.2 h
  rw [h0] at hv
  have hv:wv o=wv (o.take 4):=by rw [hv]; simp [wv]
  rw [← h3,hv]
  exact(pad4_wv wlo hlo).symm
theorem sgn_mul(a b:Int):(if(!eqT Ty.bool (toW a).1 (toW b).1)=true then -((a.natAbs*b.natAbs:Nat):Int) else((a.natAbs*b.natAbs:Nat):Int))=a*b:=by
 rw [show(toW a).1=decide (a < 0) from rfl,show(toW b).1=decide (b < 0) from rfl]
 show(if(!(decide (a < 0) == decide (b < 0)))=true then _ else _)=_
 by_cases ha:a < 0 <;> by_cases hb:b < 0
 ·simp only [ha,hb,decide_true,beq_self_eq_true,Bool.not_true,Bool.false_eq_true,if_false]
  rw [Int.natCast_mul,show((a.natAbs:Nat):Int)=-a by omega,show((b.natAbs:Nat):Int)=-b by omega,Int.neg_mul_neg]
 ·simp [ha,hb]
  rw [show((b.natAbs:Nat):Int)=b by omega,show((a.natAbs:Nat):Int)=-a by omega,Int.neg_mul,Int.neg_neg]
 ·simp [ha,hb]
  rw [show((b.natAbs:Nat):Int)=-b by omega,show((a.natAbs:Nat):Int)=a by omega,Int.mul_neg,Int.neg_neg]
 ·simp only [ha,hb,decide_false,beq_self_eq_true,Bool.not_true,Bool.false_eq_true,if_false]
  rw [Int.natCast_mul,show((a.natAbs:Nat):Int)=a by omega,show((b.natAbs:Nat):Int)=b by omega]
theorem wide_Mul_eq(F:Nat)(hF:Fuel F){x y:W}(hx:WOk x)(hy:WOk y):wide_Mul F x y=some ((wres (wi x*wi y)).1,(wres (wi x*wi y)).2,()):=by
 unfold wide_Mul
 have hxo:=toW_ok hx.abs
 have hyo:=toW_ok hy.abs
 rw [wide_clean_eq F hx,wide_clean_eq F hy]
 have v1:wv (toW (wi x)).2.1=(wi x).natAbs:=wv_pad4 _
 have v2:wv (toW (wi y)).2.1=(wi y).natAbs:=wv_pad4 _
 obtain ⟨l,e,hl⟩:=wide_mul_eq F hF hxo.1 hyo.1 hxo.2 hyo.2
 rw [v1,v2] at e hl
 simp only [Option.bind_some,e]
 have hn:(wi x*wi y).natAbs=(wi x).natAbs*(wi y).natAbs:=Int.natAbs_mul _ _
 unfold wres
 rw [hn]
 by_cases h:(wi x).natAbs*(wi y).natAbs < top256
 ·rw [if_pos h,decide_eq_true h,hl h]
  simp only [Bool.not_true,cond_false]
  unfold wide_signed
  have ho:WOk ((!eqT Ty.bool (toW (wi x)).1 (toW (wi y)).1),(pad4 ((wi x).natAbs*(wi y).natAbs),())):=⟨pad4_Wd _,pad4_length h⟩
  rw [wide_clean_eq F ho]
  simp only [Option.bind_some]
  have hw:wi ((!eqT Ty.bool (toW (wi x)).1 (toW (wi y)).1),(pad4 ((wi x).natAbs*(wi y).natAbs),()))=wi x*wi y:=by
   unfold wi
   simp only [wv_pad4]
   exact sgn_mul _ _
  rw [hw]
 ·rw [if_neg h,decide_eq_false h,toW_zero]
  rfl
def sgnC(a b:Int):Int:=if a < b then -1 else if b < a then 1 else 0
theorem wide_Compare_eq(F:Nat)(hF:Fuel F){x y:W}(hx:WOk x)(hy:WOk y):wide_Compare F x y=some (sgnC (wi x) (wi y),()):=by
 unfold wide_Compare
 have hxo:=toW_ok hx.abs
 have hyo:=toW_ok hy.abs
 rw [wide_clean_eq F hx,wide_clean_eq F hy]
 simp only [Option.bind_some]
 unfold wide_Compare_j3 wide_Compare_j8
 have c1:(toW (wi x)).1=decide (wi x < 0):=rfl
 have c2:(toW (wi y)).1=decide (wi y < 0):=rfl
 have w1:wv (toW (wi x)).2.1=(wi x).natAbs:=wv_pad4 _
 have w2:wv (toW (wi y)).2.1=(wi y).natAbs:=wv_pad4 _
 rw [c1,c2]
 simp only [wide_compare_eq F hF hxo.1 hyo.1 hxo.2 hyo.2,wide_compare_eq F hF hyo.1 hxo.1 hyo.2 hxo.2,Option.bind_some,w1,w2]
 generalize wi x=a
 generalize wi y=b
 unfold sgnC cmpN
 by_cases ha:a < 0 <;> by_cases hb:b < 0 <;> simp only [ha,hb,decide_true,decide_false,cond_true,cond_false,Option.some.injEq,Prod.mk.injEq,and_true] <;> (try split) <;> (try split) <;> (try split) <;> (try split) <;> omega
def rc(p q:Rt):Int:=sgnC (wi p.1*wi q.2.1) (wi q.1*wi p.2.1)
theorem Sm_mul{a b:Nat}(ha:Sm a)(hb:Sm b):a*b < top256:=by
 unfold Sm at ha hb
 have:=Nat.mul_lt_mul'' ha hb
 refine Nat.lt_of_lt_of_le this ?_
 unfold top256; decide
theorem wres_val{z:Int}(h:z.natAbs < top256):wres z=(toW z,true):=by unfold wres; rw [if_pos h]
theorem RV_prod{p q:Rt}(hp:RV p)(hq:RV q):(wi p.1*wi q.2.1).natAbs < top256:=by
 rw [Int.natAbs_mul,wi_abs,wi_abs]
 exact Sm_mul hp.2.2.2.1 hq.2.2.2.2.1
theorem ratio_Compare_eq(F:Nat)(hF:Fuel F){p q:Rt}(hp:ROk p)(hq:ROk q)(vp:RV p)(vq:RV q):ratio_Compare F p q=some (rc p q,()):=by
 unfold ratio_Compare ratio_clean ratio_product
 rw [ratio_Valid_eq F hF hp,ratio_Valid_eq F hF hq,decide_eq_true vp,decide_eq_true vq]
 have h1:=RV_prod vp vq
 have h2:=RV_prod vq vp
 simp only [Option.bind_some,Bool.not_true,cond_false,wide_Mul_eq F hF hp.1 hq.2,wide_Mul_eq F hF hq.1 hp.2,wres_val h1,wres_val h2,wide_Compare_eq F hF (toW_ok h1) (toW_ok h2),wi_toW]
 rfl
theorem ref03_Compare_eq(F:Nat)(hF:Fuel F){p q:Rt}(hp:ROk p)(hq:ROk q)(vp:RV p)(vq:RV q):ref03_Compare F p q=some (rc p q,()):=by
 unfold ref03_Compare ref03_clean
 rw [ref03_Valid_eq F hF hp,ref03_Valid_eq F hF hq,decide_eq_true vp,decide_eq_true vq]
 have h1:=RV_prod vp vq
 have h2:=RV_prod vq vp
 simp only [Option.bind_some,Bool.not_true,cond_false,ref02_Mul_eq F hF hp.1 hq.2,ref02_Mul_eq F hF hq.1 hp.2,wres_val h1,wres_val h2,ref02_Compare_eq F hF (toW_ok h1) (toW_ok h2),wi_toW]
 rfl
theorem or2_eq(F:Nat)(hF:Fuel F)(p q:Int):cmp_Or_int F [p,q]=some (if p=0 then q else p,()):=by
 unfold Fuel at hF
 obtain ⟨N,hN⟩:∃ N,F=N+1+1+1:=⟨F - 3,by omega⟩
 unfold cmp_Or_int
 have l2:(([p,q]:List Int).length:Int)=2:=rfl
 have key:∀ M,M=N+1+1+1→cmp_Or_int_l3 F (fun z6=>some (z6,())) (fun z7=>some (z7,())) M 0 [p,q] (([p,q]:List Int).length:Int) 0=some (if p=0 then q else p,()):=by
  intro M hM
  subst hM
  rw [or_loop F _ _ _ (by omega) (by rw [l2]; omega) (by rw [l2]; omega),show getL 0 [p,q] 0=p from rfl]
  split
  ·rw [show(0:Int)+1=1 from rfl,or_loop F _ _ _ (by omega) (by rw [l2]; omega) (by rw [l2]; omega),show getL 0 [p,q] 1=q from rfl]
   split
   ·rename_i h
    rw [show(1:Int)+1=2 from rfl,cmp_Or_int_l3,l2,h]
    simp (disch:=omega) only [bs,↓if_pos,↓if_neg]
   ·rfl
  ·rfl
 exact key F hN
theorem cmpI64_eq(F:Nat)(x y:Int):cmp_Compare_int64 F x y=some (sgnC x y,()):=by
 unfold cmp_Compare_int64 cmp_isNaN_int64 sgnC
 have h1:eqI x x=true:=eqI_true.2 rfl
 have h2:eqI y y=true:=eqI_true.2 rfl
 simp only [h1,h2,Option.bind_some,Bool.not_true,iteB,ltI_true,Bool.false_eq_true,if_false]
 split
 ·rfl
 ·split <;> rfl
abbrev Gr:=Int×(Rt×(List Int×Unit))
abbrev zG:Gr:=(0,(zR,([],())))
def GOk(l:List Gr):Prop:=∀ g∈l,I64 g.1∧ROk g.2.1∧Sg g.2.2.1∧(g.2.2.1.length:Int)≤140737488355328
theorem getG_mid(d:List Gr)(x:Gr)(t:List Gr):getL zG (d++x::t) (d.length:Int)=x:=by
 simp [getL,List.getD_eq_getElem?_getD]
theorem getG_last(d:List Gr)(x:Gr)(t:List Gr):getL zG ((d++[x])++t) (d.length:Int)=x:=by
 rw [List.append_assoc]; exact getG_mid d x t
theorem getI_last(d:List Int)(x:Int)(t:List Int):getL 0 ((d++[x])++t) (d.length:Int)=x:=by
 rw [List.append_assoc]; exact get_mid d x t
def tot:List Gr→Nat
 | []=>0
 | g::t=>g.2.2.1.length+tot t
theorem tot_le:∀ {l:List Gr},GOk l→(tot l:Int)≤140737488355328*l.length
 | [],_=>by simp [tot]
 | g::t,h=>by
  have h1:=tot_le (l:=t) (fun x hx=>h x (List.mem_cons_of_mem _ hx))
  have h2:=(h g (by simp)).2.2.2
  simp only [tot,List.length_cons]
  push_cast
  omega
theorem starts_loop(F:Nat){R:Type}(k:Int→Option R){src:List Gr}(hs:GOk src)(hb:src.length≤4096):∀ (rest pre:List Gr),src=pre++rest→∀ N,rest.length < N →
  simpiece_starts_l3 F k N (tot pre:Int) src (src.length:Int) (pre.length:Int)=k (tot src:Int):=by
 intro rest
 induction rest with
 | nil =>
  intro pre he N hN
  obtain ⟨N,rfl⟩:∃ M,N=M+1:=⟨N - 1,by omega⟩
  have hlen:src.length=pre.length:=by rw [he]; simp
  have hp:src=pre:=by rw [he]; simp
  unfold simpiece_starts_l3
  simp (disch:=omega) only [bs,↓if_pos,↓if_neg]
  rw [hp]
 | cons x rest ih =>
  intro pre he N hN
  obtain ⟨N,rfl⟩:∃ M,N=M+1:=⟨N - 1,by omega⟩
  simp only [List.length_cons] at hN
  have hlen:src.length=pre.length+1+rest.length:=by rw [he]; simp; omega
  have g:getL zG src (pre.length:Int)=x:=by rw [he]; exact getG_mid pre x rest
  have e:=ih (pre++[x]) (by rw [he]; simp) N (by omega)
  have hpl:(((pre++[x]).length:Nat):Int)=(pre.length:Int)+1:=by simp
  have htp:∀ a:List Gr,tot (a++[x])=tot a+x.2.2.1.length:=by
   intro a
   induction a with
   | nil=>simp [tot]
   | cons y a iha=>simp only [List.cons_append,tot,iha]; omega
  rw [hpl,htp] at e
  have b1:=tot_le (l:=pre) (fun y hy=>hs y (by rw [he]; simp [hy]))
  have b2:=(hs x (by rw [he]; simp)).2.2.2
  push_cast at e
  unfold simpiece_starts_l3
  simp (disch:=omega) only [bs,↓if_pos,↓if_neg,g]
  exact e
theorem simpiece_starts_eq(F:Nat)(hF:Fuel F){l:List Gr}(h:GOk l)(hb:l.length≤4096):simpiece_starts F l=some ((tot l:Int),()):=by
 unfold simpiece_starts
 exact starts_loop F _ h hb l [] rfl F (by unfold Fuel at hF; omega)
def okS:List Bool→Int→List Int→Option (List Bool)
 | seen,_,[]=>some seen
 | seen,p,s::t=>if 0≤s∧s < 4096∧getL false seen s=false∧p < s then okS (setL seen s true) s t else none
def Ahead(p:Int)(pre:List Int):Prop:=(pre=[]∧p=-1)∨∃ d,pre=d++[p]
theorem Ahead.push(pre:List Int)(s:Int):Ahead s (pre++[s]):=.inr ⟨pre,rfl⟩
theorem vStarts_loop(F:Nat){R:Type}(k2:List Gr→List Bool→List Gr→Int→Int→Option R)(kr:Int→Option R)(x0 x16:List Gr)(x17 x18:Int){g:Gr}(hb:(g.2.2.1.length:Int)≤140737488355328):∀ (rest pre:List Int) (seen:List Bool) (p:Int),g.2.2.1=pre++rest→Ahead p pre→∀ N,rest.length < N →
  simpiece_Valid_l10 F k2 kr N x0 seen g x16 x17 x18 g.2.2.1 (g.2.2.1.length:Int) (pre.length:Int)=match okS seen p rest with | some s=>k2 x0 s x16 x17 x18 | none=>kr 1:=by
 intro rest
 induction rest with
 | nil =>
  intro pre seen p he hp N hN
  obtain ⟨N,rfl⟩:∃ M,N=M+1:=⟨N - 1,by omega⟩
  have hlen:g.2.2.1.length=pre.length:=by rw [he]; simp
  unfold simpiece_Valid_l10 okS
  simp (disch:=omega) only [bs,↓if_pos,↓if_neg]
 | cons s rest ih =>
  intro pre seen p he hp N hN
  obtain ⟨N,rfl⟩:∃ M,N=M+1:=⟨N - 1,by omega⟩
  simp only [List.length_cons] at hN
  have hlen:g.2.2.1.length=pre.length+1+rest.length:=by rw [he]; simp; omega
  have hg:getL 0 g.2.2.1 (pre.length:Int)=s:=by rw [he]; exact get_mid pre s rest
  have hpl:(((pre++[s]).length:Nat):Int)=(pre.length:Int)+1:=by simp
  unfold simpiece_Valid_l10
  by_cases c1:s < 0
  ·rw [okS,if_neg (by omega)]
   simp (disch:=omega) only [bs,↓if_pos,↓if_neg,hg]
  by_cases c2:4096≤s
  ·rw [okS,if_neg (by omega)]
   simp (disch:=omega) only [bs,↓if_pos,↓if_neg,hg]
  by_cases c3:getL false seen s=true
  ·rw [okS,if_neg (by rw [c3]; simp)]
   simp (disch:=omega) only [bs,↓if_pos,↓if_neg,hg,c3]
  rw [Bool.not_eq_true] at c3
  rcases hp with ⟨hp,rfl⟩ | ⟨d,hp⟩
  ·have e:=ih (pre++[s]) (setL seen s true) s (by rw [he]; simp) (Ahead.push pre s) N (by omega)
   rw [hpl] at e
   rw [okS,if_pos ⟨by omega,by omega,c3,by omega⟩]
   have h0:pre.length=0:=by rw [hp]; rfl
   simp (disch:=omega) only [bs,↓if_pos,↓if_neg,hg,c3]
   exact e
  ·have hd:(pre.length:Int)=(d.length:Int)+1:=by rw [hp]; simp
   have hl:getL 0 g.2.2.1 ((pre.length:Int) - 1)=p:=by
    rw [hd,show(d.length:Int)+1 - 1=(d.length:Int) by omega,he,hp]
    exact getI_last d p (s::rest)
   by_cases c4:p < s
   ·have e:=ih (pre++[s]) (setL seen s true) s (by rw [he]; simp) (Ahead.push pre s) N (by omega)
    rw [hpl] at e
    rw [okS,if_pos ⟨by omega,by omega,c3,c4⟩]
    simp (disch:=omega) only [bs,↓if_pos,↓if_neg,hg,c3,hl]
    exact e
   ·rw [okS,if_neg (by omega)]
    simp (disch:=omega) only [bs,↓if_pos,↓if_neg,hg,c3,hl]
def lessG(a b:Gr):Bool:=decide (a.1 < b.1) || (decide (a.1=b.1) && decide (rc a.2.1 b.2.1 < 0))
def okG:List Bool→Option Gr→List Gr→Bool
 | _,_,[]=>true
 | seen,p,g::t=>decide (RV g.2.1) && (!g.2.2.1.isEmpty && ((match p with | none=>true | some q=>lessG q g) && (match okS seen (-1) g.2.2.1 with | some s=>okG s (some g) t | none=>false)))
theorem simpiece_compare_eq(F:Nat)(hF:Fuel F){a b:Gr}(ha:ROk a.2.1)(hb:ROk b.2.1)(va:RV a.2.1)(vb:RV b.2.1):∃ r,simpiece_compare F a b=some (r,())∧(0≤r↔lessG a b=false):=by
 unfold simpiece_compare
 rw [cmpI64_eq,ratio_Compare_eq F hF ha hb va vb]
 simp only [Option.bind_some,or2_eq F hF]
 refine ⟨_,rfl,?_⟩
 unfold lessG
 generalize rc a.2.1 b.2.1=r
 unfold sgnC
 simp only [Bool.or_eq_false_iff,Bool.and_eq_false_iff,decide_eq_false_iff_not]
 split <;> (try split) <;> (try split) <;> omega
def AheadG(p:Option Gr)(pre:List Gr):Prop:=(pre=[]∧p=none)∨∃ d q,pre=d++[q]∧p=some q∧RV q.2.1
theorem vGroups_loop(F:Nat)(hF:Fuel F){R:Type}(k0:Option R)(kr:Int→Option R){src:List Gr}(hs:GOk src)(hb:src.length≤4096):∀ (rest pre:List Gr) (seen:List Bool) (p:Option Gr),src=pre++rest→AheadG p pre→∀ N,rest.length < N →
  simpiece_Valid_l5 F k0 kr N src seen src (src.length:Int) (pre.length:Int)=bif okG seen p rest then k0 else kr 1:=by
 intro rest
 induction rest with
 | nil =>
  intro pre seen p he hp N hN
  obtain ⟨N,rfl⟩:∃ M,N=M+1:=⟨N - 1,by omega⟩
  have hlen:src.length=pre.length:=by rw [he]; simp
  unfold simpiece_Valid_l5 okG
  simp (disch:=omega) only [bs,↓if_pos,↓if_neg]
 | cons x rest ih =>
  intro pre seen p he hp N hN
  obtain ⟨N,rfl⟩:∃ M,N=M+1:=⟨N - 1,by omega⟩
  simp only [List.length_cons] at hN
  have hlen:src.length=pre.length+1+rest.length:=by rw [he]; simp; omega
  have g:getL zG src (pre.length:Int)=x:=by rw [he]; exact getG_mid pre x rest
  obtain ⟨x1,x2,x3,x4⟩:=hs x (by rw [he]; simp)
  have ev:=ratio_Valid_eq F hF x2
  have hpl:(((pre++[x]).length:Nat):Int)=(pre.length:Int)+1:=by simp
  unfold simpiece_Valid_l5 okG
  by_cases hv:RV x.2.1
  rotate_left
  ·have dv:decide (RV x.2.1)=false:=decide_eq_false hv
   rw [dv,Bool.false_and,cond_false]
   simp (disch:=omega) only [bs,↓if_pos,↓if_neg,g,ev,dv]
  have dv:decide (RV x.2.1)=true:=decide_eq_true hv
  by_cases hne:x.2.2.1=[]
  ·have hie:x.2.2.1.isEmpty=true:=by rw [hne]; rfl
   rw [dv,hie,Bool.not_true,Bool.false_and,Bool.and_false,cond_false]
   have hl0:x.2.2.1.length=0:=by rw [hne]; rfl
   simp (disch:=omega) only [bs,↓if_pos,↓if_neg,g,ev,dv]
  have hie:x.2.2.1.isEmpty=false:=by cases h:x.2.2.1 with
   | nil=>exact absurd h hne
   | cons a b=>rfl
  have hl0:x.2.2.1.length≠0:=fun h=>hne (List.length_eq_zero_iff.1 h)
  rw [dv,hie,Bool.not_false,Bool.true_and,Bool.true_and]
  have tail:simpiece_Valid_j9 F (fun z37 z38 z39 z40 z41=>simpiece_Valid_l5 F k0 kr N z37 z38 z39 z40 (addI .i64 z41 1)) (fun z43=>kr z43) src seen x src (src.length:Int) (pre.length:Int)=bif(match okS seen (-1) x.2.2.1 with | some s=>okG s (some x) rest | none=>false) then k0 else kr 1:=by
   unfold simpiece_Valid_j9
   have e0:=vStarts_loop F (fun z31 z32 z33 z34 z35=>simpiece_Valid_l5 F k0 kr N z31 z32 z33 z34 (addI .i64 z35 1)) (fun z36=>kr z36) src src (src.length:Int) (pre.length:Int) x4 x.2.2.1 [] seen (-1) rfl (.inl ⟨rfl,rfl⟩) F (by unfold Fuel at hF; omega)
   refine e0.trans ?_
   cases hS:okS seen (-1) x.2.2.1 with
   | none=>simp
   | some s =>
    have e:=ih (pre++[x]) s (some x) (by rw [he]; simp) (.inr ⟨pre,x,rfl,rfl,hv⟩) N (by omega)
    rw [hpl] at e
    simp only
    refine Eq.trans ?_ e
    simp (disch:=omega) only [bs,↓if_pos,↓if_neg]
  rcases hp with ⟨hp,rfl⟩ | ⟨d,q,hp,rfl,hq⟩
  ·have h0:pre.length=0:=by rw [hp]; rfl
   simp only [Bool.true_and]
   rw [← tail]
   simp (disch:=omega) only [bs,↓if_pos,↓if_neg,g,ev,dv]
  ·have hd:(pre.length:Int)=(d.length:Int)+1:=by rw [hp]; simp
   have hl:getL zG src ((pre.length:Int) - 1)=q:=by
    rw [hd,show(d.length:Int)+1 - 1=(d.length:Int) by omega,he,hp]
    exact getG_last d q (x::rest)
   have q2:=(hs q (by rw [he,hp]; simp)).2.1
   obtain ⟨r,er,hr⟩:=simpiece_compare_eq F hF q2 x2 hq hv
   simp only
   by_cases hlt:lessG q x=true
   ·rw [hlt,Bool.true_and,← tail]
    have hr0:r < 0:=by
     rcases Int.lt_or_le r 0 with h | h
     ·exact h
     ·rw [hr.1 h] at hlt; cases hlt
    simp (disch:=omega) only [bs,↓if_pos,↓if_neg,g,ev,dv,hl,er]
   ·rw [Bool.not_eq_true] at hlt
    rw [hlt,Bool.false_and,cond_false]
    have hr0:0≤r:=hr.2 hlt
    simp (disch:=omega) only [bs,↓if_pos,↓if_neg,g,ev,dv,hl,er]
def gvE(l:List Gr):Int:=if 4096 < l.length then 3 else if 4096 < tot l then 3 else if okG (List.replicate 4096 false) none l=true then 0 else 1
theorem simpiece_Valid_def(F:Nat)(l:List Gr):simpiece_Valid F l=bif ltI 4096 (lenI l) then some (3,()) else(simpiece_starts F l).bind fun r3=>bif ltI 4096 r3.1 then some (3,()) else simpiece_Valid_l5 F (some (0,())) (fun z51=>some (z51,())) F l (List.replicate 4096 false) l (lenI l) 0:=by kernel_rfl
theorem simpiece_Valid_eq(F:Nat)(hF:Fuel F){l:List Gr}(h:GOk l)(hb:(l.length:Int)≤140737488355328):simpiece_Valid F l=some (gvE l,()):=by
 unfold gvE
 by_cases c0:4096 < l.length
 ·rw [if_pos c0]
  rw [simpiece_Valid_def]
  have x1:ltI 4096 (lenI l)=true:=by rw [ltI_true]; unfold lenI; omega
  rw [x1,cond_true]
 rw [if_neg c0]
 have x1:ltI 4096 (lenI l)=false:=by rw [← Bool.not_eq_true,ltI_true]; unfold lenI; omega
 rw [simpiece_Valid_def,x1,cond_false,simpiece_starts_eq F hF h (by omega)]
 simp only [Option.bind_some]
 by_cases c1:4096 < tot l
 ·have x2:ltI 4096 (tot l:Int)=true:=by rw [ltI_true]; omega
  rw [if_pos c1,x2,cond_true]
 have x2:ltI 4096 (tot l:Int)=false:=by rw [← Bool.not_eq_true,ltI_true]; omega
 rw [if_neg c1,x2,cond_false]
 refine(vGroups_loop F hF _ _ h (by omega) l [] (List.replicate 4096 false) none rfl (.inl ⟨rfl,rfl⟩) F (by unfold Fuel at hF; omega)).trans ?_
 generalize okG (List.replicate 4096 false) none l=o
 cases o <;> rfl
end Go.Proofs.YtdhfajmcakneiaaGreat
