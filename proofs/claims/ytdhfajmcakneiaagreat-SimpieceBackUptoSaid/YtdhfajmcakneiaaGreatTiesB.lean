/- That the code computes the models. Written by program. -/
import Derived.Test.YtdhfajmcakneiaaGreatTiesA
set_option linter.unusedVariables false
set_option linter.unusedSimpArgs false
namespace Go.Proofs.YtdhfajmcakneiaaGreat
open Go.Eng
def sg10:Sig:={ modes:=[.ro],sh:=[(0,.d (.slice (.pair (.int .i64) (.pair (.pair tyV (.pair tyV .unit)) (.pair (.slice (.int .i64)) .unit)))))],keeps:=false,fresh:=some (0,5),rtys:=[(.slice (.int .u8)),(.int .i64)] }
def con10(F:Nat):Contract:=mkCon sg10 fun x=>simpiece_Encode F x.1
def cx10(F:Nat):Cx:={ types:=tys,call:=callsL [(13,con13 F),(30,con30 F),(31,con31 F),(32,con32 F),(33,con33 F)],own:=[2,7,24,27,85,97,101,103],ntmps:=(0,104) }
theorem cs10(F:Nat):∀ f c,(cx10 F).call f=some c→CMet Tryz.prog f c:=callsL_sound (calls_cons (s13 F) (calls_cons (s30 F) (calls_cons (s31 F) (calls_cons (s32 F) (calls_cons (s33 F) calls_nil)))))
def sh10l12:Shape:=[(0,.d (.slice (.pair (.int .i64) (.pair (.pair tyV (.pair tyV .unit)) (.pair (.slice (.int .i64)) .unit))))),(5,.own 5 (.int .i64) 2),(6,.own 6 (.int .u64) 49),(7,.own 7 (.int .u64) 49),(9,.box 9 (.pair (.int .i64) (.pair (.pair tyV (.pair tyV .unit)) (.pair (.slice (.int .i64)) .unit)))),(28,.d (.slice (.pair (.int .i64) (.pair (.pair tyV (.pair tyV .unit)) (.pair (.slice (.int .i64)) .unit))))),(29,.d (.int .i64)),(30,.d (.int .i64)),(49,.d (.slice (.int .i64))),(50,.d (.int .i64)),(51,.d (.int .i64))]
def sh10l12o2:Shape:=[(0,.d (.slice (.pair (.int .i64) (.pair (.pair tyV (.pair tyV .unit)) (.pair (.slice (.int .i64)) .unit))))),(5,.own 5 (.int .i64) 2),(6,.own 6 (.int .u64) 49),(7,.own 7 (.int .u64) 49),(28,.d (.slice (.pair (.int .i64) (.pair (.pair tyV (.pair tyV .unit)) (.pair (.slice (.int .i64)) .unit))))),(29,.d (.int .i64)),(30,.d (.int .i64))]
def outs10l12:Outs:=[(4,sh10l12o2)]
def m10l12(F:Nat)(n:Nat){R:Type}(x:Shape.den sh10l12)(K:Ex→St→Option R):Option R:=simpiece_Encode_l12 F (fun y0 y5 y6 y7 y28 y29 y30=>K (.exit 2) (enc sh10l12o2 (y0,y5,y6,y7,y28,y29,y30,()))) n x.1 x.2.1 x.2.2.1 x.2.2.2.1 x.2.2.2.2.1 x.2.2.2.2.2.1 x.2.2.2.2.2.2.1 x.2.2.2.2.2.2.2.1 x.2.2.2.2.2.2.2.2.1 x.2.2.2.2.2.2.2.2.2.1 x.2.2.2.2.2.2.2.2.2.2.1
def sh10l8:Shape:=[(0,.d (.slice (.pair (.int .i64) (.pair (.pair tyV (.pair tyV .unit)) (.pair (.slice (.int .i64)) .unit))))),(5,.own 5 (.int .i64) 2),(6,.own 6 (.int .u64) 49),(7,.own 7 (.int .u64) 49),(28,.d (.slice (.pair (.int .i64) (.pair (.pair tyV (.pair tyV .unit)) (.pair (.slice (.int .i64)) .unit))))),(29,.d (.int .i64)),(30,.d (.int .i64))]
def sh10l8o0:Shape:=[(0,.d (.slice (.pair (.int .i64) (.pair (.pair tyV (.pair tyV .unit)) (.pair (.slice (.int .i64)) .unit))))),(5,.own 5 (.int .i64) 2),(6,.own 6 (.int .u64) 49),(7,.own 7 (.int .u64) 49)]
def outs10l8:Outs:=[(2,sh10l8o0)]
def m10l8(F:Nat)(n:Nat){R:Type}(x:Shape.den sh10l8)(K:Ex→St→Option R):Option R:=simpiece_Encode_l8 F (fun y0 y5 y6 y7=>K (.exit 0) (enc sh10l8o0 (y0,y5,y6,y7,()))) n x.1 x.2.1 x.2.2.1 x.2.2.2.1 x.2.2.2.2.1 x.2.2.2.2.2.1 x.2.2.2.2.2.2.1
def sh10l24:Shape:=[(6,.own 6 (.int .u64) 49),(7,.own 7 (.int .u64) 49),(14,.own 14 (.int .u8) 5),(88,.d (.slice (.pair (.int .i64) (.pair (.pair tyV (.pair tyV .unit)) (.pair (.slice (.int .i64)) .unit))))),(89,.d (.int .i64)),(90,.d (.int .i64))]
def sh10l24o4:Shape:=[(6,.own 6 (.int .u64) 49),(7,.own 7 (.int .u64) 49),(14,.own 14 (.int .u8) 5)]
def outs10l24:Outs:=[(6,sh10l24o4)]
def m10l24(F:Nat)(n:Nat){R:Type}(x:Shape.den sh10l24)(K:Ex→St→Option R):Option R:=simpiece_Encode_l24 F (fun y6 y7 y14=>K (.exit 4) (enc sh10l24o4 (y6,y7,y14,()))) n x.1 x.2.1 x.2.2.1 x.2.2.2.1 x.2.2.2.2.1 x.2.2.2.2.2.1
def hs10(F:Nat):Nat→Option (Hint (Dens sg10.rtys)):=hintL [(12,{ sh:=sh10l12,model:=m10l12 F F }),(8,{ sh:=sh10l8,model:=m10l8 F F }),(24,{ sh:=sh10l24,model:=m10l24 F F })]
theorem ok10l12(F:Nat)(fr:Frm)(hn:(cx10 F).ntmps=fr.n)(n:Nat):MSound (R:=(Dens sg10.rtys)) Tryz.prog fr (.loop (sub (bodyOf Tryz.f10) [1,1,1,1,1,0,1,0,0,1,1,0,0,1,1,1,0,0])) sh10l12 (m10l12 F n) :=
 loop_sound (cx:=cx10 F) (hs:=hs10 F) (js:=hintL []) (outs:=outs10l12) (conf_all _ rfl) (cs10 F) hn mix (m:=fun n=>m10l12 F n) (fun _ _=>rfl) (fun n x K=>by kernel_rfl) (hok_of (l:=[]) (by kernel_rfl) obl_nil) n
theorem ok10l8(F:Nat)(fr:Frm)(hn:(cx10 F).ntmps=fr.n)(n:Nat):MSound (R:=(Dens sg10.rtys)) Tryz.prog fr (.loop (sub (bodyOf Tryz.f10) [1,1,1,1,1,0,1,0,0])) sh10l8 (m10l8 F n) :=
 loop_sound (cx:=cx10 F) (hs:=hs10 F) (js:=hintL []) (outs:=outs10l8) (conf_all _ rfl) (cs10 F) hn mix (m:=fun n=>m10l8 F n) (fun _ _=>rfl) (fun n x K=>by kernel_rfl) (hok_of (l:=[((.loop (sub (bodyOf Tryz.f10) [1,1,1,1,1,0,1,0,0,1,1,0,0,1,1,1,0,0])),{ sh:=sh10l12,model:=m10l12 F F })]) (by kernel_rfl) (obl_cons (ok10l12 F fr hn F) obl_nil)) n
theorem ok10l24(F:Nat)(fr:Frm)(hn:(cx10 F).ntmps=fr.n)(n:Nat):MSound (R:=(Dens sg10.rtys)) Tryz.prog fr (.loop (sub (bodyOf Tryz.f10) [1,1,1,1,1,1,1,1,1,0,1,0,0])) sh10l24 (m10l24 F n) :=
 loop_sound (cx:=cx10 F) (hs:=hs10 F) (js:=hintL []) (outs:=outs10l24) (conf_all _ rfl) (cs10 F) hn mix (m:=fun n=>m10l24 F n) (fun _ _=>rfl) (fun n x K=>by kernel_rfl) (hok_of (l:=[]) (by kernel_rfl) obl_nil) n
theorem s10(F:Nat):CSound Tryz.prog 10 (con10 F) :=
 fn_sound (fn:=Tryz.f10) (code:=(bodyOf Tryz.f10)) (cx:=cx10 F) (hs:=hs10 F) (js:=hintL []) Tryz.func10 (by kernel_rfl) (by kernel_rfl) (conf_all _ rfl) (cs10 F) mix (by kernel_rfl) (by kernel_rfl) (fun fr hn=>(hok_of (l:=[((.loop (sub (bodyOf Tryz.f10) [1,1,1,1,1,0,1,0,0])),{ sh:=sh10l8,model:=m10l8 F F }),((.loop (sub (bodyOf Tryz.f10) [1,1,1,1,1,1,1,1,1,0,1,0,0])),{ sh:=sh10l24,model:=m10l24 F F })]) (by kernel_rfl) (obl_cons (ok10l8 F fr hn F) (obl_cons (ok10l24 F fr hn F) obl_nil)))) (fun x=>by kernel_rfl)
def sg46:Sig:={ modes:=[.ro,.ro,.ro],sh:=[(0,.d (.slice (.int .u8))),(1,.d (.int .i64)),(2,.d (.int .i64))],keeps:=true,fresh:=none,rtys:=[.bool] }
def con46(F:Nat):Contract:=mkCon sg46 fun x=>records_Placed F x.1 x.2.1 x.2.2.1
def cx46(F:Nat):Cx:={ types:=tys,call:=callsL [],own:=[],ntmps:=(0,23) }
theorem cs46(F:Nat):∀ f c,(cx46 F).call f=some c→CMet Tryz.prog f c:=callsL_sound calls_nil
theorem s46(F:Nat):CSound Tryz.prog 46 (con46 F) :=
 fn_sound (fn:=Tryz.f46) (code:=(bodyOf Tryz.f46)) (cx:=cx46 F) (hs:=hintL []) (js:=hintL []) Tryz.func46 (by kernel_rfl) (by kernel_rfl) (conf_all _ rfl) (cs46 F) mix (by kernel_rfl) (by kernel_rfl) (fun fr hn=>(hok_of (l:=[]) (by kernel_rfl) obl_nil)) (fun x=>by kernel_rfl)
def sg179:Sig:={ modes:=[.ro],sh:=[(0,.d (.int .u8))],keeps:=true,fresh:=none,rtys:=[.bool] }
def con179(F:Nat):Contract:=mkCon sg179 fun x=>varint_groups_1 F x.1
def cx179(F:Nat):Cx:={ types:=tys,call:=callsL [],own:=[],ntmps:=(0,5) }
theorem cs179(F:Nat):∀ f c,(cx179 F).call f=some c→CMet Tryz.prog f c:=callsL_sound calls_nil
theorem s179(F:Nat):CSound Tryz.prog 179 (con179 F) :=
 fn_sound (fn:=Tryz.f179) (code:=(bodyOf Tryz.f179)) (cx:=cx179 F) (hs:=hintL []) (js:=hintL []) Tryz.func179 (by kernel_rfl) (by kernel_rfl) (conf_all _ rfl) (cs179 F) mix (by kernel_rfl) (by kernel_rfl) (fun fr hn=>(hok_of (l:=[]) (by kernel_rfl) obl_nil)) (fun x=>by kernel_rfl)
def sg178:Sig:={ modes:=[.ro,.ro],sh:=[(0,.d (.slice (.int .u8))),(1,.fn 179)],keeps:=true,fresh:=none,rtys:=[(.int .i64)] }
def con178(F:Nat):Contract:=mkCon sg178 fun x=>slices_IndexFunc_byte F x.1
def cx178(F:Nat):Cx:={ types:=tys,call:=callsL [(179,con179 F)],own:=[],ntmps:=(0,19) }
theorem cs178(F:Nat):∀ f c,(cx178 F).call f=some c→CMet Tryz.prog f c:=callsL_sound (calls_cons (s179 F) calls_nil)
def sh178l2:Shape:=[(0,.d (.slice (.int .u8))),(1,.fn 179),(7,.d (.int .i64)),(8,.d (.int .i64))]
def sh178l2o0:Shape:=[]
def sh178l2oret:Shape:=[(4,.d (.int .i64))]
def outs178l2:Outs:=[(2,sh178l2o0),(1,sh178l2oret)]
def m178l2(F:Nat)(n:Nat){R:Type}(x:Shape.den sh178l2)(K:Ex→St→Option R):Option R:=slices_IndexFunc_byte_l2 F (K (.exit 0) (enc sh178l2o0 (()))) (fun y4=>K .ret (enc sh178l2oret (y4,()))) n x.1 x.2.2.1 x.2.2.2.1
def hs178(F:Nat):Nat→Option (Hint (Dens sg178.rtys)):=hintL [(2,{ sh:=sh178l2,model:=m178l2 F F })]
theorem ok178l2(F:Nat)(fr:Frm)(hn:(cx178 F).ntmps=fr.n)(n:Nat):MSound (R:=(Dens sg178.rtys)) Tryz.prog fr (.loop (sub (bodyOf Tryz.f178) [1,0,1,0,0])) sh178l2 (m178l2 F n) :=
 loop_sound (cx:=cx178 F) (hs:=hs178 F) (js:=hintL []) (outs:=outs178l2) (conf_all _ rfl) (cs178 F) hn mix (m:=fun n=>m178l2 F n) (fun _ _=>rfl) (fun n x K=>by kernel_rfl) (hok_of (l:=[]) (by kernel_rfl) obl_nil) n
theorem s178(F:Nat):CSound Tryz.prog 178 (con178 F) :=
 fn_sound (fn:=Tryz.f178) (code:=(bodyOf Tryz.f178)) (cx:=cx178 F) (hs:=hs178 F) (js:=hintL []) Tryz.func178 (by kernel_rfl) (by kernel_rfl) (conf_all _ rfl) (cs178 F) mix (by kernel_rfl) (by kernel_rfl) (fun fr hn=>(hok_of (l:=[((.loop (sub (bodyOf Tryz.f178) [1,0,1,0,0])),{ sh:=sh178l2,model:=m178l2 F F })]) (by kernel_rfl) (obl_cons (ok178l2 F fr hn F) obl_nil))) (fun x=>by kernel_rfl)
def sg148:Sig:={ modes:=[.ro,.ro,.ro],sh:=[(0,.d (.slice (.int .u8))),(1,.d (.int .i64)),(2,.d (.int .i64))],keeps:=false,fresh:=none,rtys:=[(.slice (.int .u8)),(.int .i64)] }
def con148(F:Nat):Contract:=mkCon sg148 fun x=>varint_groups F x.1 x.2.1 x.2.2.1
def cx148(F:Nat):Cx:={ types:=tys,call:=callsL [(178,con178 F)],own:=[6,25,53],ntmps:=(0,54) }
theorem cs148(F:Nat):∀ f c,(cx148 F).call f=some c→CMet Tryz.prog f c:=callsL_sound (calls_cons (s178 F) calls_nil)
def sh148j6:Shape:=[(0,.d (.slice (.int .u8))),(8,.d (.int .i64)),(27,.d .bool)]
def sh148j6on:Shape:=[(0,.d (.slice (.int .u8))),(8,.d (.int .i64))]
def sh148j6oret:Shape:=[(6,.own 6 (.int .u8) 5),(7,.d (.int .i64))]
def outs148j6:Outs:=[(0,sh148j6on),(1,sh148j6oret)]
def m148j6(F:Nat){R:Type}(x:Shape.den sh148j6)(K:Ex→St→Option R):Option R:=varint_groups_j6 F (fun y0 y8=>K .normal (enc sh148j6on (y0,y8,()))) (fun y6 y7=>K .ret (enc sh148j6oret (y6,y7,()))) x.1 x.2.1 x.2.2.1
def js148(F:Nat):Nat→Option (Hint (Dens sg148.rtys)):=hintL [(6,{ sh:=sh148j6,model:=m148j6 F })]
theorem ok148j6(F:Nat)(fr:Frm)(hn:(cx148 F).ntmps=fr.n):MSound (R:=(Dens sg148.rtys)) Tryz.prog fr (sub (bodyOf Tryz.f148) [1,1,1,1,0,0,1]) sh148j6 (m148j6 F) :=
 join_sound (cx:=cx148 F) (hs:=hintL []) (js:=js148 F) (outs:=outs148j6) (conf_all _ rfl) (cs148 F) hn mix (fun x K=>by kernel_rfl) (hok_of (l:=[]) (by kernel_rfl) obl_nil)
theorem s148(F:Nat):CSound Tryz.prog 148 (con148 F) :=
 fn_sound (fn:=Tryz.f148) (code:=(bodyOf Tryz.f148)) (cx:=cx148 F) (hs:=hintL []) (js:=js148 F) Tryz.func148 (by kernel_rfl) (by kernel_rfl) (conf_all _ rfl) (cs148 F) mix (by kernel_rfl) (by kernel_rfl) (fun fr hn=>(hok_of (l:=[((sub (bodyOf Tryz.f148) [1,1,1,1,0,0,1]),{ sh:=sh148j6,model:=m148j6 F })]) (by kernel_rfl) (obl_cons (ok148j6 F fr hn) obl_nil))) (fun x=>by kernel_rfl)
def sg101:Sig:={ modes:=[.ro,.ro],sh:=[(0,.d (.slice (.int .u8))),(1,.d (.int .i64))],keeps:=true,fresh:=none,rtys:=[(.int .u64),(.int .i64),(.int .i64)] }
def con101(F:Nat):Contract:=mkCon sg101 fun x=>varint_Read F x.1 x.2.1
def cx101(F:Nat):Cx:={ types:=tys,call:=callsL [(148,con148 F)],own:=[],ntmps:=(0,51) }
theorem cs101(F:Nat):∀ f c,(cx101 F).call f=some c→CMet Tryz.prog f c:=callsL_sound (calls_cons (s148 F) calls_nil)
def sh101l8:Shape:=[(1,.d (.int .i64)),(7,.d (.slice (.int .u8))),(9,.d (.int .u64)),(30,.d (.slice (.int .u8))),(31,.d (.int .i64)),(32,.d (.int .i64))]
def sh101l8o0:Shape:=[(1,.d (.int .i64)),(7,.d (.slice (.int .u8))),(9,.d (.int .u64))]
def outs101l8:Outs:=[(2,sh101l8o0)]
def m101l8(F:Nat)(n:Nat){R:Type}(x:Shape.den sh101l8)(K:Ex→St→Option R):Option R:=varint_Read_l8 F (fun y1 y7 y9=>K (.exit 0) (enc sh101l8o0 (y1,y7,y9,()))) n x.1 x.2.1 x.2.2.1 x.2.2.2.1 x.2.2.2.2.1 x.2.2.2.2.2.1
def sh101j6:Shape:=[(1,.d (.int .i64)),(7,.d (.slice (.int .u8)))]
def sh101j6oret:Shape:=[(4,.d (.int .u64)),(5,.d (.int .i64)),(6,.d (.int .i64))]
def outs101j6:Outs:=[(1,sh101j6oret)]
def m101j6(F:Nat){R:Type}(x:Shape.den sh101j6)(K:Ex→St→Option R):Option R:=varint_Read_j6 F (fun y4 y5 y6=>K .ret (enc sh101j6oret (y4,y5,y6,()))) x.1 x.2.1
def hs101(F:Nat):Nat→Option (Hint (Dens sg101.rtys)):=hintL [(8,{ sh:=sh101l8,model:=m101l8 F F })]
def js101(F:Nat):Nat→Option (Hint (Dens sg101.rtys)):=hintL [(6,{ sh:=sh101j6,model:=m101j6 F })]
theorem ok101l8(F:Nat)(fr:Frm)(hn:(cx101 F).ntmps=fr.n)(n:Nat):MSound (R:=(Dens sg101.rtys)) Tryz.prog fr (.loop (sub (bodyOf Tryz.f101) [1,1,1,1,1,0,1,0,0])) sh101l8 (m101l8 F n) :=
 loop_sound (cx:=cx101 F) (hs:=hs101 F) (js:=js101 F) (outs:=outs101l8) (conf_all _ rfl) (cs101 F) hn mix (m:=fun n=>m101l8 F n) (fun _ _=>rfl) (fun n x K=>by kernel_rfl) (hok_of (l:=[]) (by kernel_rfl) obl_nil) n
theorem ok101j6(F:Nat)(fr:Frm)(hn:(cx101 F).ntmps=fr.n):MSound (R:=(Dens sg101.rtys)) Tryz.prog fr (sub (bodyOf Tryz.f101) [1,1,1,1]) sh101j6 (m101j6 F) :=
 join_sound (cx:=cx101 F) (hs:=hs101 F) (js:=js101 F) (outs:=outs101j6) (conf_all _ rfl) (cs101 F) hn mix (fun x K=>by kernel_rfl) (hok_of (l:=[((.loop (sub (bodyOf Tryz.f101) [1,1,1,1,1,0,1,0,0])),{ sh:=sh101l8,model:=m101l8 F F })]) (by kernel_rfl) (obl_cons (ok101l8 F fr hn F) obl_nil))
theorem s101(F:Nat):CSound Tryz.prog 101 (con101 F) :=
 fn_sound (fn:=Tryz.f101) (code:=(bodyOf Tryz.f101)) (cx:=cx101 F) (hs:=hs101 F) (js:=js101 F) Tryz.func101 (by kernel_rfl) (by kernel_rfl) (conf_all _ rfl) (cs101 F) mix (by kernel_rfl) (by kernel_rfl) (fun fr hn=>(hok_of (l:=[((sub (bodyOf Tryz.f101) [1,1,1,1]),{ sh:=sh101j6,model:=m101j6 F })]) (by kernel_rfl) (obl_cons (ok101j6 F fr hn) obl_nil))) (fun x=>by kernel_rfl)
def sg47:Sig:={ modes:=[.ro,.ro,.ro],sh:=[(0,.d (.slice (.int .u8))),(1,.d (.int .i64)),(2,.d (.int .i64))],keeps:=true,fresh:=none,rtys:=[(.int .i64),(.int .i64),(.int .i64)] }
def con47(F:Nat):Contract:=mkCon sg47 fun x=>records_Number F x.1 x.2.1 x.2.2.1
def cx47(F:Nat):Cx:={ types:=tys,call:=callsL [(101,con101 F)],own:=[],ntmps:=(0,31) }
theorem cs47(F:Nat):∀ f c,(cx47 F).call f=some c→CMet Tryz.prog f c:=callsL_sound (calls_cons (s101 F) calls_nil)
theorem s47(F:Nat):CSound Tryz.prog 47 (con47 F) :=
 fn_sound (fn:=Tryz.f47) (code:=(bodyOf Tryz.f47)) (cx:=cx47 F) (hs:=hintL []) (js:=hintL []) Tryz.func47 (by kernel_rfl) (by kernel_rfl) (conf_all _ rfl) (cs47 F) mix (by kernel_rfl) (by kernel_rfl) (fun fr hn=>(hok_of (l:=[]) (by kernel_rfl) obl_nil)) (fun x=>by kernel_rfl)
def sg104:Sig:={ modes:=[.ro,.ro,.ro],sh:=[(0,.d (.slice (.int .u8))),(1,.d (.int .i64)),(2,.d (.int .i64))],keeps:=false,fresh:=some (0,49),rtys:=[(.slice (.int .u64)),(.int .i64),(.int .i64)] }
def con104(F:Nat):Contract:=mkCon sg104 fun x=>numbers_plain F x.1 x.2.1 x.2.2.1
def cx104(F:Nat):Cx:={ types:=tys,call:=callsL [(101,con101 F)],own:=[6,19],ntmps:=(0,41) }
theorem cs104(F:Nat):∀ f c,(cx104 F).call f=some c→CMet Tryz.prog f c:=callsL_sound (calls_cons (s101 F) calls_nil)
def sh104l3:Shape:=[(0,.d (.slice (.int .u8))),(1,.d (.int .i64)),(9,.own 9 (.int .u64) 49),(20,.d (.int .i64)),(21,.d (.int .i64))]
def sh104l3o0:Shape:=[(1,.d (.int .i64)),(9,.own 9 (.int .u64) 49)]
def sh104l3oret:Shape:=[(6,.own 6 (.int .u64) 49),(7,.d (.int .i64)),(8,.d (.int .i64))]
def outs104l3:Outs:=[(2,sh104l3o0),(1,sh104l3oret)]
def m104l3(F:Nat)(n:Nat){R:Type}(x:Shape.den sh104l3)(K:Ex→St→Option R):Option R:=numbers_plain_l3 F (fun y1 y9=>K (.exit 0) (enc sh104l3o0 (y1,y9,()))) (fun y6 y7 y8=>K .ret (enc sh104l3oret (y6,y7,y8,()))) n x.1 x.2.1 x.2.2.1 x.2.2.2.1 x.2.2.2.2.1
def hs104(F:Nat):Nat→Option (Hint (Dens sg104.rtys)):=hintL [(3,{ sh:=sh104l3,model:=m104l3 F F })]
theorem ok104l3(F:Nat)(fr:Frm)(hn:(cx104 F).ntmps=fr.n)(n:Nat):MSound (R:=(Dens sg104.rtys)) Tryz.prog fr (.loop (sub (bodyOf Tryz.f104) [1,1,0,1,0,0])) sh104l3 (m104l3 F n) :=
 loop_sound (cx:=cx104 F) (hs:=hs104 F) (js:=hintL []) (outs:=outs104l3) (conf_all _ rfl) (cs104 F) hn mix (m:=fun n=>m104l3 F n) (fun _ _=>rfl) (fun n x K=>by kernel_rfl) (hok_of (l:=[]) (by kernel_rfl) obl_nil) n
theorem s104(F:Nat):CSound Tryz.prog 104 (con104 F) :=
 fn_sound (fn:=Tryz.f104) (code:=(bodyOf Tryz.f104)) (cx:=cx104 F) (hs:=hs104 F) (js:=hintL []) Tryz.func104 (by kernel_rfl) (by kernel_rfl) (conf_all _ rfl) (cs104 F) mix (by kernel_rfl) (by kernel_rfl) (fun fr hn=>(hok_of (l:=[((.loop (sub (bodyOf Tryz.f104) [1,1,0,1,0,0])),{ sh:=sh104l3,model:=m104l3 F F })]) (by kernel_rfl) (obl_cons (ok104l3 F fr hn F) obl_nil))) (fun x=>by kernel_rfl)
def sg153:Sig:={ modes:=[.ro,.ro,.ro],sh:=[(0,.d (.slice (.int .u8))),(1,.d (.int .i64)),(2,.d (.int .i64))],keeps:=false,fresh:=some (0,49),rtys:=[(.slice (.int .u64)),.bool] }
def con153(F:Nat):Contract:=mkCon sg153 fun x=>bitpack_Unpack F x.1 x.2.1 x.2.2.1
def cx153(F:Nat):Cx:={ types:=tys,call:=callsL [(152,con152 F)],own:=[6,21],ntmps:=(0,81) }
theorem cs153(F:Nat):∀ f c,(cx153 F).call f=some c→CMet Tryz.prog f c:=callsL_sound (calls_cons (s152 F) calls_nil)
def sh153l9:Shape:=[(0,.d (.slice (.int .u8))),(2,.d (.int .i64)),(8,.own 8 (.int .u64) 49),(9,.d (.int .i64)),(10,.d (.int .i64)),(11,.d (.int .i64)),(23,.d (.int .i64)),(24,.d (.int .i64))]
def sh153l9o2:Shape:=[(0,.d (.slice (.int .u8))),(2,.d (.int .i64)),(8,.own 8 (.int .u64) 49),(9,.d (.int .i64)),(23,.d (.int .i64)),(24,.d (.int .i64))]
def outs153l9:Outs:=[(4,sh153l9o2)]
def m153l9(F:Nat)(n:Nat){R:Type}(x:Shape.den sh153l9)(K:Ex→St→Option R):Option R:=bitpack_Unpack_l9 F (fun y0 y2 y8 y9 y23 y24=>K (.exit 2) (enc sh153l9o2 (y0,y2,y8,y9,y23,y24,()))) n x.1 x.2.1 x.2.2.1 x.2.2.2.1 x.2.2.2.2.1 x.2.2.2.2.2.1 x.2.2.2.2.2.2.1 x.2.2.2.2.2.2.2.1
def sh153l6:Shape:=[(0,.d (.slice (.int .u8))),(2,.d (.int .i64)),(8,.own 8 (.int .u64) 49),(9,.d (.int .i64)),(23,.d (.int .i64)),(24,.d (.int .i64))]
def sh153l6o0:Shape:=[(0,.d (.slice (.int .u8))),(8,.own 8 (.int .u64) 49),(9,.d (.int .i64))]
def outs153l6:Outs:=[(2,sh153l6o0)]
def m153l6(F:Nat)(n:Nat){R:Type}(x:Shape.den sh153l6)(K:Ex→St→Option R):Option R:=bitpack_Unpack_l6 F (fun y0 y8 y9=>K (.exit 0) (enc sh153l6o0 (y0,y8,y9,()))) n x.1 x.2.1 x.2.2.1 x.2.2.2.1 x.2.2.2.2.1 x.2.2.2.2.2.1
def hs153(F:Nat):Nat→Option (Hint (Dens sg153.rtys)):=hintL [(9,{ sh:=sh153l9,model:=m153l9 F F }),(6,{ sh:=sh153l6,model:=m153l6 F F })]
theorem ok153l9(F:Nat)(fr:Frm)(hn:(cx153 F).ntmps=fr.n)(n:Nat):MSound (R:=(Dens sg153.rtys)) Tryz.prog fr (.loop (sub (bodyOf Tryz.f153) [1,1,1,1,0,1,0,0,1,1,0,0,1,1,0,0])) sh153l9 (m153l9 F n) :=
 loop_sound (cx:=cx153 F) (hs:=hs153 F) (js:=hintL []) (outs:=outs153l9) (conf_all _ rfl) (cs153 F) hn mix (m:=fun n=>m153l9 F n) (fun _ _=>rfl) (fun n x K=>by kernel_rfl) (hok_of (l:=[]) (by kernel_rfl) obl_nil) n
theorem ok153l6(F:Nat)(fr:Frm)(hn:(cx153 F).ntmps=fr.n)(n:Nat):MSound (R:=(Dens sg153.rtys)) Tryz.prog fr (.loop (sub (bodyOf Tryz.f153) [1,1,1,1,0,1,0,0])) sh153l6 (m153l6 F n) :=
 loop_sound (cx:=cx153 F) (hs:=hs153 F) (js:=hintL []) (outs:=outs153l6) (conf_all _ rfl) (cs153 F) hn mix (m:=fun n=>m153l6 F n) (fun _ _=>rfl) (fun n x K=>by kernel_rfl) (hok_of (l:=[((.loop (sub (bodyOf Tryz.f153) [1,1,1,1,0,1,0,0,1,1,0,0,1,1,0,0])),{ sh:=sh153l9,model:=m153l9 F F })]) (by kernel_rfl) (obl_cons (ok153l9 F fr hn F) obl_nil)) n
theorem s153(F:Nat):CSound Tryz.prog 153 (con153 F) :=
 fn_sound (fn:=Tryz.f153) (code:=(bodyOf Tryz.f153)) (cx:=cx153 F) (hs:=hs153 F) (js:=hintL []) Tryz.func153 (by kernel_rfl) (by kernel_rfl) (conf_all _ rfl) (cs153 F) mix (by kernel_rfl) (by kernel_rfl) (fun fr hn=>(hok_of (l:=[((.loop (sub (bodyOf Tryz.f153) [1,1,1,1,0,1,0,0])),{ sh:=sh153l6,model:=m153l6 F F })]) (by kernel_rfl) (obl_cons (ok153l6 F fr hn F) obl_nil))) (fun x=>by kernel_rfl)
def sg105:Sig:={ modes:=[.ro,.ro,.ro],sh:=[(0,.d (.slice (.int .u8))),(1,.d (.int .i64)),(2,.d (.int .i64))],keeps:=false,fresh:=some (0,49),rtys:=[(.slice (.int .u64)),(.int .i64),(.int .i64)] }
def con105(F:Nat):Contract:=mkCon sg105 fun x=>numbers_packed F x.1 x.2.1 x.2.2.1
def cx105(F:Nat):Cx:={ types:=tys,call:=callsL [(152,con152 F),(153,con153 F)],own:=[6,49],ntmps:=(0,58) }
theorem cs105(F:Nat):∀ f c,(cx105 F).call f=some c→CMet Tryz.prog f c:=callsL_sound (calls_cons (s152 F) (calls_cons (s153 F) calls_nil))
theorem s105(F:Nat):CSound Tryz.prog 105 (con105 F) :=
 fn_sound (fn:=Tryz.f105) (code:=(bodyOf Tryz.f105)) (cx:=cx105 F) (hs:=hintL []) (js:=hintL []) Tryz.func105 (by kernel_rfl) (by kernel_rfl) (conf_all _ rfl) (cs105 F) mix (by kernel_rfl) (by kernel_rfl) (fun fr hn=>(hok_of (l:=[]) (by kernel_rfl) obl_nil)) (fun x=>by kernel_rfl)
def sg106:Sig:={ modes:=[.ro,.ro],sh:=[(0,.d (.slice (.int .u8))),(1,.d (.slice (.int .u8)))],keeps:=true,fresh:=none,rtys:=[.bool] }
def con106(F:Nat):Contract:=mkCon sg106 fun x=>slices_Equal_byte F x.1 x.2.1
def cx106(F:Nat):Cx:={ types:=tys,call:=callsL [],own:=[],ntmps:=(0,26) }
theorem cs106(F:Nat):∀ f c,(cx106 F).call f=some c→CMet Tryz.prog f c:=callsL_sound calls_nil
def sh106l4:Shape:=[(0,.d (.slice (.int .u8))),(1,.d (.slice (.int .u8))),(12,.d (.int .i64)),(13,.d (.int .i64))]
def sh106l4o0:Shape:=[]
def sh106l4oret:Shape:=[(4,.d .bool)]
def outs106l4:Outs:=[(2,sh106l4o0),(1,sh106l4oret)]
def m106l4(F:Nat)(n:Nat){R:Type}(x:Shape.den sh106l4)(K:Ex→St→Option R):Option R:=slices_Equal_byte_l4 F (K (.exit 0) (enc sh106l4o0 (()))) (fun y4=>K .ret (enc sh106l4oret (y4,()))) n x.1 x.2.1 x.2.2.1 x.2.2.2.1
def hs106(F:Nat):Nat→Option (Hint (Dens sg106.rtys)):=hintL [(4,{ sh:=sh106l4,model:=m106l4 F F })]
theorem ok106l4(F:Nat)(fr:Frm)(hn:(cx106 F).ntmps=fr.n)(n:Nat):MSound (R:=(Dens sg106.rtys)) Tryz.prog fr (.loop (sub (bodyOf Tryz.f106) [1,1,0,1,0,0])) sh106l4 (m106l4 F n) :=
 loop_sound (cx:=cx106 F) (hs:=hs106 F) (js:=hintL []) (outs:=outs106l4) (conf_all _ rfl) (cs106 F) hn mix (m:=fun n=>m106l4 F n) (fun _ _=>rfl) (fun n x K=>by kernel_rfl) (hok_of (l:=[]) (by kernel_rfl) obl_nil) n
theorem s106(F:Nat):CSound Tryz.prog 106 (con106 F) :=
 fn_sound (fn:=Tryz.f106) (code:=(bodyOf Tryz.f106)) (cx:=cx106 F) (hs:=hs106 F) (js:=hintL []) Tryz.func106 (by kernel_rfl) (by kernel_rfl) (conf_all _ rfl) (cs106 F) mix (by kernel_rfl) (by kernel_rfl) (fun fr hn=>(hok_of (l:=[((.loop (sub (bodyOf Tryz.f106) [1,1,0,1,0,0])),{ sh:=sh106l4,model:=m106l4 F F })]) (by kernel_rfl) (obl_cons (ok106l4 F fr hn F) obl_nil))) (fun x=>by kernel_rfl)
def sg50:Sig:={ modes:=[.ro,.ro,.ro],sh:=[(0,.d (.slice (.int .u8))),(1,.d (.int .i64)),(2,.d (.int .i64))],keeps:=false,fresh:=none,rtys:=[(.slice (.int .u64)),(.int .i64),(.int .i64)] }
def con50(F:Nat):Contract:=mkCon sg50 fun x=>numbers_Decode F x.1 x.2.1 x.2.2.1
def cx50(F:Nat):Cx:={ types:=tys,call:=callsL [(105,con105 F),(72,con72 F),(106,con106 F),(104,con104 F)],own:=[6],ntmps:=(0,78) }
theorem cs50(F:Nat):∀ f c,(cx50 F).call f=some c→CMet Tryz.prog f c:=callsL_sound (calls_cons (s105 F) (calls_cons (s72 F) (calls_cons (s106 F) (calls_cons (s104 F) calls_nil))))
def sh50j2:Shape:=[(0,.d (.slice (.int .u8))),(1,.d (.int .i64)),(2,.d (.int .i64)),(14,.d .bool)]
def sh50j2on:Shape:=[(0,.d (.slice (.int .u8))),(1,.d (.int .i64)),(2,.d (.int .i64))]
def sh50j2oret:Shape:=[(6,.own 6 (.int .u64) 49),(7,.d (.int .i64)),(8,.d (.int .i64))]
def outs50j2:Outs:=[(0,sh50j2on),(1,sh50j2oret)]
def m50j2(F:Nat){R:Type}(x:Shape.den sh50j2)(K:Ex→St→Option R):Option R:=numbers_Decode_j2 F (fun y0 y1 y2=>K .normal (enc sh50j2on (y0,y1,y2,()))) (fun y6 y7 y8=>K .ret (enc sh50j2oret (y6,y7,y8,()))) x.1 x.2.1 x.2.2.1 x.2.2.2.1
def js50(F:Nat):Nat→Option (Hint (Dens sg50.rtys)):=hintL [(2,{ sh:=sh50j2,model:=m50j2 F })]
theorem ok50j2(F:Nat)(fr:Frm)(hn:(cx50 F).ntmps=fr.n):MSound (R:=(Dens sg50.rtys)) Tryz.prog fr (sub (bodyOf Tryz.f50) [1,0,0,1]) sh50j2 (m50j2 F) :=
 join_sound (cx:=cx50 F) (hs:=hintL []) (js:=js50 F) (outs:=outs50j2) (conf_all _ rfl) (cs50 F) hn mix (fun x K=>by kernel_rfl) (hok_of (l:=[]) (by kernel_rfl) obl_nil)
theorem s50(F:Nat):CSound Tryz.prog 50 (con50 F) :=
 fn_sound (fn:=Tryz.f50) (code:=(bodyOf Tryz.f50)) (cx:=cx50 F) (hs:=hintL []) (js:=js50 F) Tryz.func50 (by kernel_rfl) (by kernel_rfl) (conf_all _ rfl) (cs50 F) mix (by kernel_rfl) (by kernel_rfl) (fun fr hn=>(hok_of (l:=[((sub (bodyOf Tryz.f50) [1,0,0,1]),{ sh:=sh50j2,model:=m50j2 F })]) (by kernel_rfl) (obl_cons (ok50j2 F fr hn) obl_nil))) (fun x=>by kernel_rfl)
def sg149:Sig:={ modes:=[.ro],sh:=[(0,.d (.int .u64))],keeps:=true,fresh:=none,rtys:=[(.int .i64)] }
def con149(F:Nat):Contract:=mkCon sg149 fun x=>varint_Unzigzag F x.1
def cx149(F:Nat):Cx:={ types:=tys,call:=callsL [],own:=[],ntmps:=(0,11) }
theorem cs149(F:Nat):∀ f c,(cx149 F).call f=some c→CMet Tryz.prog f c:=callsL_sound calls_nil
theorem s149(F:Nat):CSound Tryz.prog 149 (con149 F) :=
 fn_sound (fn:=Tryz.f149) (code:=(bodyOf Tryz.f149)) (cx:=cx149 F) (hs:=hintL []) (js:=hintL []) Tryz.func149 (by kernel_rfl) (by kernel_rfl) (conf_all _ rfl) (cs149 F) mix (by kernel_rfl) (by kernel_rfl) (fun fr hn=>(hok_of (l:=[]) (by kernel_rfl) obl_nil)) (fun x=>by kernel_rfl)
def sg102:Sig:={ modes:=[.ro,.ro,.ro],sh:=[(0,.d (.slice (.int .u8))),(1,.d (.int .i64)),(2,.d (.int .i64))],keeps:=false,fresh:=none,rtys:=[(.slice (.int .i64)),(.int .i64),(.int .i64)] }
def con102(F:Nat):Contract:=mkCon sg102 fun x=>residual_Decode F x.1 x.2.1 x.2.2.1
def cx102(F:Nat):Cx:={ types:=tys,call:=callsL [(50,con50 F),(149,con149 F),(125,con125s F),(30,con30 F),(106,con106 F)],own:=[6,57],ntmps:=(0,96) }
theorem cs102(F:Nat):∀ f c,(cx102 F).call f=some c→CMet Tryz.prog f c:=callsL_sound (calls_cons (s50 F) (calls_cons (s149 F) (calls_cons (s125s F) (calls_cons (s30 F) (calls_cons (s106 F) calls_nil)))))
def sh102j2:Shape:=[(0,.d (.slice (.int .u8))),(1,.d (.int .i64)),(2,.d (.int .i64)),(16,.d .bool)]
def sh102j2on:Shape:=[(0,.d (.slice (.int .u8))),(1,.d (.int .i64)),(2,.d (.int .i64))]
def sh102j2oret:Shape:=[(6,.own 6 (.int .i64) 2),(7,.d (.int .i64)),(8,.d (.int .i64))]
def outs102j2:Outs:=[(0,sh102j2on),(1,sh102j2oret)]
def m102j2(F:Nat){R:Type}(x:Shape.den sh102j2)(K:Ex→St→Option R):Option R:=residual_Decode_j2 F (fun y0 y1 y2=>K .normal (enc sh102j2on (y0,y1,y2,()))) (fun y6 y7 y8=>K .ret (enc sh102j2oret (y6,y7,y8,()))) x.1 x.2.1 x.2.2.1 x.2.2.2.1
def sh102l12:Shape:=[(0,.d (.slice (.int .u8))),(1,.d (.int .i64)),(10,.d (.int .i64)),(12,.own 12 (.int .i64) 2),(58,.d (.slice (.int .u64))),(59,.d (.int .i64)),(60,.d (.int .i64))]
def sh102l12o1:Shape:=[(0,.d (.slice (.int .u8))),(1,.d (.int .i64)),(10,.d (.int .i64)),(12,.own 12 (.int .i64) 2)]
def outs102l12:Outs:=[(3,sh102l12o1)]
def m102l12(F:Nat)(n:Nat){R:Type}(x:Shape.den sh102l12)(K:Ex→St→Option R):Option R:=residual_Decode_l12 F (fun y0 y1 y10 y12=>K (.exit 1) (enc sh102l12o1 (y0,y1,y10,y12,()))) n x.1 x.2.1 x.2.2.1 x.2.2.2.1 x.2.2.2.2.1 x.2.2.2.2.2.1 x.2.2.2.2.2.2.1
def sh102j12:Shape:=[(0,.d (.slice (.int .u8))),(1,.d (.int .i64)),(10,.d (.int .i64)),(12,.own 12 (.int .i64) 2),(58,.d (.slice (.int .u64))),(59,.d (.int .i64)),(60,.d (.int .i64))]
def sh102j12on:Shape:=[(0,.d (.slice (.int .u8))),(1,.d (.int .i64)),(10,.d (.int .i64)),(12,.own 12 (.int .i64) 2)]
def outs102j12:Outs:=[(0,sh102j12on)]
def m102j12(F:Nat){R:Type}(x:Shape.den sh102j12)(K:Ex→St→Option R):Option R:=residual_Decode_j12 F (fun y0 y1 y10 y12=>K .normal (enc sh102j12on (y0,y1,y10,y12,()))) x.1 x.2.1 x.2.2.1 x.2.2.2.1 x.2.2.2.2.1 x.2.2.2.2.2.1 x.2.2.2.2.2.2.1
def hs102(F:Nat):Nat→Option (Hint (Dens sg102.rtys)):=hintL [(12,{ sh:=sh102l12,model:=m102l12 F F })]
def js102(F:Nat):Nat→Option (Hint (Dens sg102.rtys)):=hintL [(2,{ sh:=sh102j2,model:=m102j2 F }),(12,{ sh:=sh102j12,model:=m102j12 F })]
theorem ok102j2(F:Nat)(fr:Frm)(hn:(cx102 F).ntmps=fr.n):MSound (R:=(Dens sg102.rtys)) Tryz.prog fr (sub (bodyOf Tryz.f102) [1,0,0,1]) sh102j2 (m102j2 F) :=
 join_sound (cx:=cx102 F) (hs:=hs102 F) (js:=js102 F) (outs:=outs102j2) (conf_all _ rfl) (cs102 F) hn mix (fun x K=>by kernel_rfl) (hok_of (l:=[]) (by kernel_rfl) obl_nil)
theorem ok102l12(F:Nat)(fr:Frm)(hn:(cx102 F).ntmps=fr.n)(n:Nat):MSound (R:=(Dens sg102.rtys)) Tryz.prog fr (.loop (sub (bodyOf Tryz.f102) [1,1,1,1,1,0,1,0,0])) sh102l12 (m102l12 F n) :=
 loop_sound (cx:=cx102 F) (hs:=hs102 F) (js:=js102 F) (outs:=outs102l12) (conf_all _ rfl) (cs102 F) hn mix (m:=fun n=>m102l12 F n) (fun _ _=>rfl) (fun n x K=>by kernel_rfl) (hok_of (l:=[]) (by kernel_rfl) obl_nil) n
theorem ok102j12(F:Nat)(fr:Frm)(hn:(cx102 F).ntmps=fr.n):MSound (R:=(Dens sg102.rtys)) Tryz.prog fr (sub (bodyOf Tryz.f102) [1,1,1,1,1,0,1]) sh102j12 (m102j12 F) :=
 join_sound (cx:=cx102 F) (hs:=hs102 F) (js:=js102 F) (outs:=outs102j12) (conf_all _ rfl) (cs102 F) hn mix (fun x K=>by kernel_rfl) (hok_of (l:=[((.loop (sub (bodyOf Tryz.f102) [1,1,1,1,1,0,1,0,0])),{ sh:=sh102l12,model:=m102l12 F F })]) (by kernel_rfl) (obl_cons (ok102l12 F fr hn F) obl_nil))
theorem s102(F:Nat):CSound Tryz.prog 102 (con102 F) :=
 fn_sound (fn:=Tryz.f102) (code:=(bodyOf Tryz.f102)) (cx:=cx102 F) (hs:=hs102 F) (js:=js102 F) Tryz.func102 (by kernel_rfl) (by kernel_rfl) (conf_all _ rfl) (cs102 F) mix (by kernel_rfl) (by kernel_rfl) (fun fr hn=>(hok_of (l:=[((sub (bodyOf Tryz.f102) [1,0,0,1]),{ sh:=sh102j2,model:=m102j2 F }),((sub (bodyOf Tryz.f102) [1,1,1,1,1,0,1]),{ sh:=sh102j12,model:=m102j12 F })]) (by kernel_rfl) (obl_cons (ok102j2 F fr hn) (obl_cons (ok102j12 F fr hn) obl_nil)))) (fun x=>by kernel_rfl)
def sg151:Sig:={ modes:=[.ro,.ro],sh:=[(0,.d (.slice (.int .u8))),(1,.d (.int .i64))],keeps:=true,fresh:=none,rtys:=[tyV,(.int .i64),(.int .i64)] }
def con151(F:Nat):Contract:=mkCon sg151 fun x=>varint_ReadWide F x.1 x.2.1
def cx151(F:Nat):Cx:={ types:=tys,call:=callsL [(148,con148 F),(81,con81 F)],own:=[],ntmps:=(0,94) }
theorem cs151(F:Nat):∀ f c,(cx151 F).call f=some c→CMet Tryz.prog f c:=callsL_sound (calls_cons (s148 F) (calls_cons (s81 F) calls_nil))
def sh151l9:Shape:=[(1,.d (.int .i64)),(4,.box 4 tyV),(7,.d (.slice (.int .u8))),(9,.box 9 (.arr 5 (.int .u64))),(10,.d (.int .i64)),(11,.d (.int .i64))]
def sh151l9o2:Shape:=[(1,.d (.int .i64)),(4,.box 4 tyV),(7,.d (.slice (.int .u8))),(9,.box 9 (.arr 5 (.int .u64))),(10,.d (.int .i64))]
def outs151l9:Outs:=[(4,sh151l9o2)]
def m151l9(F:Nat)(n:Nat){R:Type}(x:Shape.den sh151l9)(K:Ex→St→Option R):Option R:=varint_ReadWide_l9 F (fun y1 y4 y7 y9 y10=>K (.exit 2) (enc sh151l9o2 (y1,y4,y7,y9,y10,()))) n x.1 x.2.1 x.2.2.1 x.2.2.2.1 x.2.2.2.2.1 x.2.2.2.2.2.1
def sh151l6:Shape:=[(1,.d (.int .i64)),(4,.box 4 tyV),(7,.d (.slice (.int .u8))),(9,.box 9 (.arr 5 (.int .u64))),(10,.d (.int .i64))]
def sh151l6o0:Shape:=[(1,.d (.int .i64)),(4,.box 4 tyV),(7,.d (.slice (.int .u8))),(9,.box 9 (.arr 5 (.int .u64)))]
def outs151l6:Outs:=[(2,sh151l6o0)]
def m151l6(F:Nat)(n:Nat){R:Type}(x:Shape.den sh151l6)(K:Ex→St→Option R):Option R:=varint_ReadWide_l6 F (fun y1 y4 y7 y9=>K (.exit 0) (enc sh151l6o0 (y1,y4,y7,y9,()))) n x.1 x.2.1 x.2.2.1 x.2.2.2.1 x.2.2.2.2.1
def sh151l15:Shape:=[(1,.d (.int .i64)),(4,.box 4 tyV),(7,.d (.slice (.int .u8))),(9,.box 9 (.arr 5 (.int .u64))),(12,.box 12 tyV),(63,.d (.int .i64))]
def sh151l15o4:Shape:=[(1,.d (.int .i64)),(4,.box 4 tyV),(7,.d (.slice (.int .u8))),(9,.box 9 (.arr 5 (.int .u64))),(12,.box 12 tyV)]
def outs151l15:Outs:=[(6,sh151l15o4)]
def m151l15(F:Nat)(n:Nat){R:Type}(x:Shape.den sh151l15)(K:Ex→St→Option R):Option R:=varint_ReadWide_l15 F (fun y1 y4 y7 y9 y12=>K (.exit 4) (enc sh151l15o4 (y1,y4,y7,y9,y12,()))) n x.1 x.2.1 x.2.2.1 x.2.2.2.1 x.2.2.2.2.1 x.2.2.2.2.2.1
def hs151(F:Nat):Nat→Option (Hint (Dens sg151.rtys)):=hintL [(9,{ sh:=sh151l9,model:=m151l9 F F }),(6,{ sh:=sh151l6,model:=m151l6 F F }),(15,{ sh:=sh151l15,model:=m151l15 F F })]
theorem ok151l9(F:Nat)(fr:Frm)(hn:(cx151 F).ntmps=fr.n)(n:Nat):MSound (R:=(Dens sg151.rtys)) Tryz.prog fr (.loop (sub (bodyOf Tryz.f151) [1,1,1,1,0,1,0,0,1,0,0,0,1,0,0])) sh151l9 (m151l9 F n) :=
 loop_sound (cx:=cx151 F) (hs:=hs151 F) (js:=hintL []) (outs:=outs151l9) (conf_all _ rfl) (cs151 F) hn mix (m:=fun n=>m151l9 F n) (fun _ _=>rfl) (fun n x K=>by kernel_rfl) (hok_of (l:=[]) (by kernel_rfl) obl_nil) n
theorem ok151l6(F:Nat)(fr:Frm)(hn:(cx151 F).ntmps=fr.n)(n:Nat):MSound (R:=(Dens sg151.rtys)) Tryz.prog fr (.loop (sub (bodyOf Tryz.f151) [1,1,1,1,0,1,0,0])) sh151l6 (m151l6 F n) :=
 loop_sound (cx:=cx151 F) (hs:=hs151 F) (js:=hintL []) (outs:=outs151l6) (conf_all _ rfl) (cs151 F) hn mix (m:=fun n=>m151l6 F n) (fun _ _=>rfl) (fun n x K=>by kernel_rfl) (hok_of (l:=[((.loop (sub (bodyOf Tryz.f151) [1,1,1,1,0,1,0,0,1,0,0,0,1,0,0])),{ sh:=sh151l9,model:=m151l9 F F })]) (by kernel_rfl) (obl_cons (ok151l9 F fr hn F) obl_nil)) n
theorem ok151l15(F:Nat)(fr:Frm)(hn:(cx151 F).ntmps=fr.n)(n:Nat):MSound (R:=(Dens sg151.rtys)) Tryz.prog fr (.loop (sub (bodyOf Tryz.f151) [1,1,1,1,1,1,0,1,0,0])) sh151l15 (m151l15 F n) :=
 loop_sound (cx:=cx151 F) (hs:=hs151 F) (js:=hintL []) (outs:=outs151l15) (conf_all _ rfl) (cs151 F) hn mix (m:=fun n=>m151l15 F n) (fun _ _=>rfl) (fun n x K=>by kernel_rfl) (hok_of (l:=[]) (by kernel_rfl) obl_nil) n
theorem s151(F:Nat):CSound Tryz.prog 151 (con151 F) :=
 fn_sound (fn:=Tryz.f151) (code:=(bodyOf Tryz.f151)) (cx:=cx151 F) (hs:=hs151 F) (js:=hintL []) Tryz.func151 (by kernel_rfl) (by kernel_rfl) (conf_all _ rfl) (cs151 F) mix (by kernel_rfl) (by kernel_rfl) (fun fr hn=>(hok_of (l:=[((.loop (sub (bodyOf Tryz.f151) [1,1,1,1,0,1,0,0])),{ sh:=sh151l6,model:=m151l6 F F }),((.loop (sub (bodyOf Tryz.f151) [1,1,1,1,1,1,0,1,0,0])),{ sh:=sh151l15,model:=m151l15 F F })]) (by kernel_rfl) (obl_cons (ok151l6 F fr hn F) (obl_cons (ok151l15 F fr hn F) obl_nil)))) (fun x=>by kernel_rfl)
def sg103:Sig:={ modes:=[.ro,.ro],sh:=[(0,.d (.slice (.int .u8))),(1,.d (.int .i64))],keeps:=true,fresh:=none,rtys:=[(.pair tyV (.pair tyV .unit)),(.int .i64),(.int .i64)] }
def con103(F:Nat):Contract:=mkCon sg103 fun x=>records_Slope F x.1 x.2.1
def cx103(F:Nat):Cx:={ types:=tys,call:=callsL [(151,con151 F),(82,con82 F),(40,con40 F)],own:=[],ntmps:=(0,49) }
theorem cs103(F:Nat):∀ f c,(cx103 F).call f=some c→CMet Tryz.prog f c:=callsL_sound (calls_cons (s151 F) (calls_cons (s82 F) (calls_cons (s40 F) calls_nil)))
def sh103l3:Shape:=[(0,.d (.slice (.int .u8))),(1,.d (.int .i64)),(4,.box 4 (.pair tyV (.pair tyV .unit))),(7,.box 7 (.arr 2 tyV)),(13,.d (.int .i64))]
def sh103l3o0:Shape:=[(1,.d (.int .i64)),(4,.box 4 (.pair tyV (.pair tyV .unit))),(7,.box 7 (.arr 2 tyV))]
def sh103l3oret:Shape:=[(4,.box 4 (.pair tyV (.pair tyV .unit))),(5,.d (.int .i64)),(6,.d (.int .i64))]
def outs103l3:Outs:=[(2,sh103l3o0),(1,sh103l3oret)]
def m103l3(F:Nat)(n:Nat){R:Type}(x:Shape.den sh103l3)(K:Ex→St→Option R):Option R:=records_Slope_l3 F (fun y1 y4 y7=>K (.exit 0) (enc sh103l3o0 (y1,y4,y7,()))) (fun y4 y5 y6=>K .ret (enc sh103l3oret (y4,y5,y6,()))) n x.1 x.2.1 x.2.2.1 x.2.2.2.1 x.2.2.2.2.1
def hs103(F:Nat):Nat→Option (Hint (Dens sg103.rtys)):=hintL [(3,{ sh:=sh103l3,model:=m103l3 F F })]
theorem ok103l3(F:Nat)(fr:Frm)(hn:(cx103 F).ntmps=fr.n)(n:Nat):MSound (R:=(Dens sg103.rtys)) Tryz.prog fr (.loop (sub (bodyOf Tryz.f103) [1,1,0,1,0,0])) sh103l3 (m103l3 F n) :=
 loop_sound (cx:=cx103 F) (hs:=hs103 F) (js:=hintL []) (outs:=outs103l3) (conf_all _ rfl) (cs103 F) hn mix (m:=fun n=>m103l3 F n) (fun _ _=>rfl) (fun n x K=>by kernel_rfl) (hok_of (l:=[]) (by kernel_rfl) obl_nil) n
theorem s103(F:Nat):CSound Tryz.prog 103 (con103 F) :=
 fn_sound (fn:=Tryz.f103) (code:=(bodyOf Tryz.f103)) (cx:=cx103 F) (hs:=hs103 F) (js:=hintL []) Tryz.func103 (by kernel_rfl) (by kernel_rfl) (conf_all _ rfl) (cs103 F) mix (by kernel_rfl) (by kernel_rfl) (fun fr hn=>(hok_of (l:=[((.loop (sub (bodyOf Tryz.f103) [1,1,0,1,0,0])),{ sh:=sh103l3,model:=m103l3 F F })]) (by kernel_rfl) (obl_cons (ok103l3 F fr hn F) obl_nil))) (fun x=>by kernel_rfl)
def sg48:Sig:={ modes:=[.ro,.ro,.ro],sh:=[(0,.d (.slice (.int .u8))),(1,.d (.int .i64)),(2,.d (.int .i64))],keeps:=false,fresh:=some (0,56),rtys:=[(.slice (.pair (.int .i64) (.pair (.pair tyV (.pair tyV .unit)) (.pair .nil .unit)))),(.int .i64),(.int .i64)] }
def con48(F:Nat):Contract:=mkCon sg48 fun x=>simpiece_groups F x.1 x.2.1 x.2.2.1
def cx48(F:Nat):Cx:={ types:=tysN,call:=callsL [(102,con102 F),(103,con103 F)],own:=[6,29],ntmps:=(0,57) }
theorem cs48(F:Nat):∀ f c,(cx48 F).call f=some c→CMet Tryz.prog f c:=callsL_sound (calls_cons (s102 F) (calls_cons (s103 F) calls_nil))
def sh48l6:Shape:=[(0,.d (.slice (.int .u8))),(1,.d (.int .i64)),(11,.own 11 (.pair (.int .i64) (.pair (.pair tyV (.pair tyV .unit)) (.pair .nil .unit))) 56),(30,.d (.slice (.int .i64))),(31,.d (.int .i64)),(32,.d (.int .i64))]
def sh48l6o0:Shape:=[(1,.d (.int .i64)),(11,.own 11 (.pair (.int .i64) (.pair (.pair tyV (.pair tyV .unit)) (.pair .nil .unit))) 56)]
def sh48l6oret:Shape:=[(6,.own 6 (.pair (.int .i64) (.pair (.pair tyV (.pair tyV .unit)) (.pair .nil .unit))) 56),(7,.d (.int .i64)),(8,.d (.int .i64))]
def outs48l6:Outs:=[(2,sh48l6o0),(1,sh48l6oret)]
def m48l6(F:Nat)(n:Nat){R:Type}(x:Shape.den sh48l6)(K:Ex→St→Option R):Option R:=simpiece_groups_l6 F (fun y1 y11=>K (.exit 0) (enc sh48l6o0 (y1,y11,()))) (fun y6 y7 y8=>K .ret (enc sh48l6oret (y6,y7,y8,()))) n x.1 x.2.1 x.2.2.1 x.2.2.2.1 x.2.2.2.2.1 x.2.2.2.2.2.1
def hs48(F:Nat):Nat→Option (Hint (Dens sg48.rtys)):=hintL [(6,{ sh:=sh48l6,model:=m48l6 F F })]
theorem ok48l6(F:Nat)(fr:Frm)(hn:(cx48 F).ntmps=fr.n)(n:Nat):MSound (R:=(Dens sg48.rtys)) Tryz.prog fr (.loop (sub (bodyOf Tryz.f48) [1,1,1,1,0,1,0,0])) sh48l6 (m48l6 F n) :=
 loop_sound (cx:=cx48 F) (hs:=hs48 F) (js:=hintL []) (outs:=outs48l6) (confN_all _ rfl) (cs48 F) hn mix (m:=fun n=>m48l6 F n) (fun _ _=>rfl) (fun n x K=>by kernel_rfl) (hok_of (l:=[]) (by kernel_rfl) obl_nil) n
theorem s48(F:Nat):CSound Tryz.prog 48 (con48 F) :=
 fn_sound (fn:=Tryz.f48) (code:=(bodyOf Tryz.f48)) (cx:=cx48 F) (hs:=hs48 F) (js:=hintL []) Tryz.func48 (by kernel_rfl) (by kernel_rfl) (confN_all _ rfl) (cs48 F) mix (by kernel_rfl) (by kernel_rfl) (fun fr hn=>(hok_of (l:=[((.loop (sub (bodyOf Tryz.f48) [1,1,1,1,0,1,0,0])),{ sh:=sh48l6,model:=m48l6 F F })]) (by kernel_rfl) (obl_cons (ok48l6 F fr hn F) obl_nil))) (fun x=>by kernel_rfl)
def sg49:Sig:={ modes:=[.ro,.ro,.ro,.ro],sh:=[(0,.d (.slice (.int .u8))),(1,.d (.int .i64)),(2,.d (.int .i64)),(3,.d (.int .i64))],keeps:=false,fresh:=some (0,3),rtys:=[(.slice (.int .i64)),(.int .i64),(.int .i64),(.int .i64)] }
def con49(F:Nat):Contract:=mkCon sg49 fun x=>records_Counts F x.1 x.2.1 x.2.2.1 x.2.2.2.1
def cx49(F:Nat):Cx:={ types:=tys,call:=callsL [(50,con50 F)],own:=[8,31],ntmps:=(0,61) }
theorem cs49(F:Nat):∀ f c,(cx49 F).call f=some c→CMet Tryz.prog f c:=callsL_sound (calls_cons (s50 F) calls_nil)
def sh49l7:Shape:=[(3,.d (.int .i64)),(13,.d (.int .i64)),(15,.own 15 (.int .i64) 3),(16,.d (.int .i64)),(32,.d (.slice (.int .u64))),(33,.d (.int .i64)),(34,.d (.int .i64))]
def sh49l7o0:Shape:=[(13,.d (.int .i64)),(15,.own 15 (.int .i64) 3),(16,.d (.int .i64))]
def outs49l7:Outs:=[(2,sh49l7o0)]
def m49l7(F:Nat)(n:Nat){R:Type}(x:Shape.den sh49l7)(K:Ex→St→Option R):Option R:=records_Counts_l7 F (fun y13 y15 y16=>K (.exit 0) (enc sh49l7o0 (y13,y15,y16,()))) n x.1 x.2.1 x.2.2.1 x.2.2.2.1 x.2.2.2.2.1 x.2.2.2.2.2.1 x.2.2.2.2.2.2.1
def hs49(F:Nat):Nat→Option (Hint (Dens sg49.rtys)):=hintL [(7,{ sh:=sh49l7,model:=m49l7 F F })]
theorem ok49l7(F:Nat)(fr:Frm)(hn:(cx49 F).ntmps=fr.n)(n:Nat):MSound (R:=(Dens sg49.rtys)) Tryz.prog fr (.loop (sub (bodyOf Tryz.f49) [1,1,1,1,1,0,1,0,0])) sh49l7 (m49l7 F n) :=
 loop_sound (cx:=cx49 F) (hs:=hs49 F) (js:=hintL []) (outs:=outs49l7) (conf_all _ rfl) (cs49 F) hn mix (m:=fun n=>m49l7 F n) (fun _ _=>rfl) (fun n x K=>by kernel_rfl) (hok_of (l:=[]) (by kernel_rfl) obl_nil) n
theorem s49(F:Nat):CSound Tryz.prog 49 (con49 F) :=
 fn_sound (fn:=Tryz.f49) (code:=(bodyOf Tryz.f49)) (cx:=cx49 F) (hs:=hs49 F) (js:=hintL []) Tryz.func49 (by kernel_rfl) (by kernel_rfl) (conf_all _ rfl) (cs49 F) mix (by kernel_rfl) (by kernel_rfl) (fun fr hn=>(hok_of (l:=[((.loop (sub (bodyOf Tryz.f49) [1,1,1,1,1,0,1,0,0])),{ sh:=sh49l7,model:=m49l7 F F })]) (by kernel_rfl) (obl_cons (ok49l7 F fr hn F) obl_nil))) (fun x=>by kernel_rfl)
def sg51:Sig:={ modes:=[.wr 56,.ro,.ro,.ro],sh:=[(0,.own 0 (.pair (.int .i64) (.pair (.pair tyV (.pair tyV .unit)) (.pair .nil .unit))) 56),(1,.d (.slice (.int .i64))),(2,.d (.slice (.int .u64))),(3,.d (.int .i64))],keeps:=false,fresh:=none,rtys:=[(.slice (.pair (.int .i64) (.pair (.pair tyV (.pair tyV .unit)) (.pair (.slice (.int .i64)) .unit)))),.bool] }
def con51(F:Nat):Contract:=mkCon sg51 fun x=>simpiece_share F x.1 x.2.1 x.2.2.1 x.2.2.2.1
def cx51(F:Nat):Cx:={ types:=tys,call:=callsL [],own:=[],ntmps:=(1,54) }
theorem cs51(F:Nat):∀ f c,(cx51 F).call f=some c→CMet Tryz.prog f c:=callsL_sound calls_nil
def sh51l2:Shape:=[(0,.own 0 (.pair (.int .i64) (.pair (.pair tyV (.pair tyV .unit)) (.pair .nil .unit))) 56),(2,.d (.slice (.int .u64))),(3,.d (.int .i64)),(12,.d (.slice (.int .i64))),(13,.d (.int .i64)),(14,.d (.int .i64))]
def sh51l2o0:Shape:=[(0,.own 0 (.pair (.int .i64) (.pair (.pair tyV (.pair tyV .unit)) (.pair (.slice (.int .i64)) .unit))) 56)]
def sh51l2oret:Shape:=[(0,.own 0 (.pair (.int .i64) (.pair (.pair tyV (.pair tyV .unit)) (.pair (.slice (.int .i64)) .unit))) 56),(8,.d .bool)]
def outs51l2:Outs:=[(2,sh51l2o0),(1,sh51l2oret)]
def m51l2(F:Nat)(n:Nat){R:Type}(x:Shape.den sh51l2)(K:Ex→St→Option R):Option R:=simpiece_share_l2 F (fun y0=>K (.exit 0) (enc sh51l2o0 (y0,()))) (fun y0 y8=>K .ret (enc sh51l2oret (y0,y8,()))) n x.1 x.2.1 x.2.2.1 x.2.2.2.1 x.2.2.2.2.1 x.2.2.2.2.2.1
def hs51(F:Nat):Nat→Option (Hint (Dens sg51.rtys)):=hintL [(2,{ sh:=sh51l2,model:=m51l2 F F })]
theorem ok51l2(F:Nat)(fr:Frm)(hn:(cx51 F).ntmps=fr.n)(n:Nat):MSound (R:=(Dens sg51.rtys)) Tryz.prog fr (.loop (sub (bodyOf Tryz.f51) [1,0,1,0,0])) sh51l2 (m51l2 F n):=share_loop F fr hn n
theorem s51(F:Nat):CSound Tryz.prog 51 (con51 F) :=
 fn_sound (fn:=Tryz.f51) (code:=(bodyOf Tryz.f51)) (cx:=cx51 F) (hs:=hs51 F) (js:=hintL []) Tryz.func51 (by kernel_rfl) (by kernel_rfl) (conf_all _ rfl) (cs51 F) mix (by kernel_rfl) (by kernel_rfl) (fun fr hn=>(hok_of (l:=[((.loop (sub (bodyOf Tryz.f51) [1,0,1,0,0])),{ sh:=sh51l2,model:=m51l2 F F })]) (by kernel_rfl) (obl_cons (ok51l2 F fr hn F) obl_nil))) (fun x=>by kernel_rfl)
def sg53:Sig:={ modes:=[.ro],sh:=[(0,.d (.pair (.int .i64) (.pair (.pair tyV (.pair tyV .unit)) (.pair (.slice (.int .i64)) .unit))))],keeps:=true,fresh:=none,rtys:=[.bool] }
def con53(F:Nat):Contract:=mkCon sg53 fun x=>simpiece_Decode_1 F x.1
def cx53(F:Nat):Cx:={ types:=tys,call:=callsL [],own:=[],ntmps:=(0,8) }
theorem cs53(F:Nat):∀ f c,(cx53 F).call f=some c→CMet Tryz.prog f c:=callsL_sound calls_nil
theorem s53(F:Nat):CSound Tryz.prog 53 (con53 F) :=
 fn_sound (fn:=Tryz.f53) (code:=(bodyOf Tryz.f53)) (cx:=cx53 F) (hs:=hintL []) (js:=hintL []) Tryz.func53 (by kernel_rfl) (by kernel_rfl) (conf_all _ rfl) (cs53 F) mix (by kernel_rfl) (by kernel_rfl) (fun fr hn=>(hok_of (l:=[]) (by kernel_rfl) obl_nil)) (fun x=>by kernel_rfl)
def sg107:Sig:={ modes:=[.ro,.ro],sh:=[(0,.d (.slice (.pair (.int .i64) (.pair (.pair tyV (.pair tyV .unit)) (.pair (.slice (.int .i64)) .unit))))),(1,.fn 53)],keeps:=true,fresh:=none,rtys:=[(.int .i64)] }
def con107(F:Nat):Contract:=mkCon sg107 fun x=>slices_IndexFunc_apiGroup F x.1
def cx107(F:Nat):Cx:={ types:=tys,call:=callsL [(53,con53 F)],own:=[],ntmps:=(0,19) }
theorem cs107(F:Nat):∀ f c,(cx107 F).call f=some c→CMet Tryz.prog f c:=callsL_sound (calls_cons (s53 F) calls_nil)
def sh107l2:Shape:=[(0,.d (.slice (.pair (.int .i64) (.pair (.pair tyV (.pair tyV .unit)) (.pair (.slice (.int .i64)) .unit))))),(1,.fn 53),(7,.d (.int .i64)),(8,.d (.int .i64))]
def sh107l2o0:Shape:=[]
def sh107l2oret:Shape:=[(4,.d (.int .i64))]
def outs107l2:Outs:=[(2,sh107l2o0),(1,sh107l2oret)]
def m107l2(F:Nat)(n:Nat){R:Type}(x:Shape.den sh107l2)(K:Ex→St→Option R):Option R:=slices_IndexFunc_apiGroup_l2 F (K (.exit 0) (enc sh107l2o0 (()))) (fun y4=>K .ret (enc sh107l2oret (y4,()))) n x.1 x.2.2.1 x.2.2.2.1
def hs107(F:Nat):Nat→Option (Hint (Dens sg107.rtys)):=hintL [(2,{ sh:=sh107l2,model:=m107l2 F F })]
theorem ok107l2(F:Nat)(fr:Frm)(hn:(cx107 F).ntmps=fr.n)(n:Nat):MSound (R:=(Dens sg107.rtys)) Tryz.prog fr (.loop (sub (bodyOf Tryz.f107) [1,0,1,0,0])) sh107l2 (m107l2 F n) :=
 loop_sound (cx:=cx107 F) (hs:=hs107 F) (js:=hintL []) (outs:=outs107l2) (conf_all _ rfl) (cs107 F) hn mix (m:=fun n=>m107l2 F n) (fun _ _=>rfl) (fun n x K=>by kernel_rfl) (hok_of (l:=[]) (by kernel_rfl) obl_nil) n
theorem s107(F:Nat):CSound Tryz.prog 107 (con107 F) :=
 fn_sound (fn:=Tryz.f107) (code:=(bodyOf Tryz.f107)) (cx:=cx107 F) (hs:=hs107 F) (js:=hintL []) Tryz.func107 (by kernel_rfl) (by kernel_rfl) (conf_all _ rfl) (cs107 F) mix (by kernel_rfl) (by kernel_rfl) (fun fr hn=>(hok_of (l:=[((.loop (sub (bodyOf Tryz.f107) [1,0,1,0,0])),{ sh:=sh107l2,model:=m107l2 F F })]) (by kernel_rfl) (obl_cons (ok107l2 F fr hn F) obl_nil))) (fun x=>by kernel_rfl)
def sg52:Sig:={ modes:=[.ro,.ro],sh:=[(0,.d (.slice (.pair (.int .i64) (.pair (.pair tyV (.pair tyV .unit)) (.pair (.slice (.int .i64)) .unit))))),(1,.fn 53)],keeps:=true,fresh:=none,rtys:=[.bool] }
def con52(F:Nat):Contract:=mkCon sg52 fun x=>slices_ContainsFunc_apiGroup F x.1
def cx52(F:Nat):Cx:={ types:=tys,call:=callsL [(107,con107 F)],own:=[],ntmps:=(0,9) }
theorem cs52(F:Nat):∀ f c,(cx52 F).call f=some c→CMet Tryz.prog f c:=callsL_sound (calls_cons (s107 F) calls_nil)
theorem s52(F:Nat):CSound Tryz.prog 52 (con52 F) :=
 fn_sound (fn:=Tryz.f52) (code:=(bodyOf Tryz.f52)) (cx:=cx52 F) (hs:=hintL []) (js:=hintL []) Tryz.func52 (by kernel_rfl) (by kernel_rfl) (conf_all _ rfl) (cs52 F) mix (by kernel_rfl) (by kernel_rfl) (fun fr hn=>(hok_of (l:=[]) (by kernel_rfl) obl_nil)) (fun x=>by kernel_rfl)
def sg21:Sig:={ modes:=[.ro,.ro,.ro],sh:=[(0,.d (.slice (.int .u8))),(1,.d (.int .i64)),(2,.d (.int .i64))],keeps:=false,fresh:=some (0,56),rtys:=[(.slice (.pair (.int .i64) (.pair (.pair tyV (.pair tyV .unit)) (.pair (.slice (.int .i64)) .unit)))),(.int .i64),(.int .i64)] }
def con21(F:Nat):Contract:=mkCon sg21 fun x=>simpiece_Decode F x.1 x.2.1 x.2.2.1
def cx21(F:Nat):Cx:={ types:=tys,call:=callsL [(46,con46 F),(47,con47 F),(48,con48 F),(49,con49 F),(50,con50 F),(51,con51 F),(13,con13 F),(52,con52 F)],own:=[6,35],ntmps:=(0,93) }
theorem cs21(F:Nat):∀ f c,(cx21 F).call f=some c→CMet Tryz.prog f c:=callsL_sound (calls_cons (s46 F) (calls_cons (s47 F) (calls_cons (s48 F) (calls_cons (s49 F) (calls_cons (s50 F) (calls_cons (s51 F) (calls_cons (s13 F) (calls_cons (s52 F) calls_nil))))))))
theorem s21(F:Nat):CSound Tryz.prog 21 (con21 F) :=
 fn_sound (fn:=Tryz.f21) (code:=(bodyOf Tryz.f21)) (cx:=cx21 F) (hs:=hintL []) (js:=hintL []) Tryz.func21 (by kernel_rfl) (by kernel_rfl) (conf_all _ rfl) (cs21 F) mix (by kernel_rfl) (by kernel_rfl) (fun fr hn=>(hok_of (l:=[]) (by kernel_rfl) obl_nil)) (fun x=>by kernel_rfl)
def sg12:Sig:={ modes:=[.ro,.ro],sh:=[(0,.d (.slice (.int .u8))),(1,.d (.slice (.int .u8)))],keeps:=true,fresh:=none,rtys:=[.bool] }
def con12(F:Nat):Contract:=mkCon sg12 fun x=>ref06_Same F x.1 x.2.1
def cx12(F:Nat):Cx:={ types:=tys,call:=callsL [],own:=[],ntmps:=(0,26) }
theorem cs12(F:Nat):∀ f c,(cx12 F).call f=some c→CMet Tryz.prog f c:=callsL_sound calls_nil
def sh12l4:Shape:=[(0,.d (.slice (.int .u8))),(1,.d (.slice (.int .u8))),(5,.d (.int .i64))]
def sh12l4o0:Shape:=[]
def sh12l4oret:Shape:=[(4,.d .bool)]
def outs12l4:Outs:=[(2,sh12l4o0),(1,sh12l4oret)]
def m12l4(F:Nat)(n:Nat){R:Type}(x:Shape.den sh12l4)(K:Ex→St→Option R):Option R:=ref06_Same_l4 F (K (.exit 0) (enc sh12l4o0 (()))) (fun y4=>K .ret (enc sh12l4oret (y4,()))) n x.1 x.2.1 x.2.2.1
def hs12(F:Nat):Nat→Option (Hint (Dens sg12.rtys)):=hintL [(4,{ sh:=sh12l4,model:=m12l4 F F })]
theorem ok12l4(F:Nat)(fr:Frm)(hn:(cx12 F).ntmps=fr.n)(n:Nat):MSound (R:=(Dens sg12.rtys)) Tryz.prog fr (.loop (sub (bodyOf Tryz.f12) [1,1,0,1,0,0])) sh12l4 (m12l4 F n) :=
 loop_sound (cx:=cx12 F) (hs:=hs12 F) (js:=hintL []) (outs:=outs12l4) (conf_all _ rfl) (cs12 F) hn mix (m:=fun n=>m12l4 F n) (fun _ _=>rfl) (fun n x K=>by kernel_rfl) (hok_of (l:=[]) (by kernel_rfl) obl_nil) n
theorem s12(F:Nat):CSound Tryz.prog 12 (con12 F) :=
 fn_sound (fn:=Tryz.f12) (code:=(bodyOf Tryz.f12)) (cx:=cx12 F) (hs:=hs12 F) (js:=hintL []) Tryz.func12 (by kernel_rfl) (by kernel_rfl) (conf_all _ rfl) (cs12 F) mix (by kernel_rfl) (by kernel_rfl) (fun fr hn=>(hok_of (l:=[((.loop (sub (bodyOf Tryz.f12) [1,1,0,1,0,0])),{ sh:=sh12l4,model:=m12l4 F F })]) (by kernel_rfl) (obl_cons (ok12l4 F fr hn F) obl_nil))) (fun x=>by kernel_rfl)
def sg15:Sig:={ modes:=[],sh:=[],keeps:=true,fresh:=none,rtys:=[.bool] }
def con15(F:Nat):Contract:=mkCon sg15 fun x=>law22_known F 
def cx15(F:Nat):Cx:={ types:=tys,call:=callsL [(44,con44 F),(10,con10 F),(21,con21 F),(12,con12 F)],own:=[],ntmps:=(0,53) }
theorem cs15(F:Nat):∀ f c,(cx15 F).call f=some c→CMet Tryz.prog f c:=callsL_sound (calls_cons (s44 F) (calls_cons (s10 F) (calls_cons (s21 F) (calls_cons (s12 F) calls_nil))))
theorem s15(F:Nat):CSound Tryz.prog 15 (con15 F) :=
 fn_sound (fn:=Tryz.f15) (code:=(bodyOf Tryz.f15)) (cx:=cx15 F) (hs:=hintL []) (js:=hintL []) Tryz.func15 (by kernel_rfl) (by kernel_rfl) (conf_all _ rfl) (cs15 F) mix (by kernel_rfl) (by kernel_rfl) (fun fr hn=>(hok_of (l:=[]) (by kernel_rfl) obl_nil)) (fun x=>by kernel_rfl)
def sg22:Sig:={ modes:=[.ro,.ro],sh:=[(0,.d (.slice (.pair (.int .i64) (.pair (.pair tyV (.pair tyV .unit)) (.pair (.slice (.int .i64)) .unit))))),(1,.d (.slice (.pair (.int .i64) (.pair (.pair tyV (.pair tyV .unit)) (.pair (.slice (.int .i64)) .unit)))))],keeps:=true,fresh:=none,rtys:=[.bool] }
def con22(F:Nat):Contract:=mkCon sg22 fun x=>ref21_Same F x.1 x.2.1
def cx22(F:Nat):Cx:={ types:=tys,call:=callsL [],own:=[],ntmps:=(0,84) }
theorem cs22(F:Nat):∀ f c,(cx22 F).call f=some c→CMet Tryz.prog f c:=callsL_sound calls_nil
def sh22l9:Shape:=[(0,.d (.slice (.pair (.int .i64) (.pair (.pair tyV (.pair tyV .unit)) (.pair (.slice (.int .i64)) .unit))))),(1,.d (.slice (.pair (.int .i64) (.pair (.pair tyV (.pair tyV .unit)) (.pair (.slice (.int .i64)) .unit))))),(5,.d (.int .i64)),(6,.d (.int .i64))]
def sh22l9o2:Shape:=[(0,.d (.slice (.pair (.int .i64) (.pair (.pair tyV (.pair tyV .unit)) (.pair (.slice (.int .i64)) .unit))))),(1,.d (.slice (.pair (.int .i64) (.pair (.pair tyV (.pair tyV .unit)) (.pair (.slice (.int .i64)) .unit))))),(5,.d (.int .i64))]
def sh22l9oret:Shape:=[(4,.d .bool)]
def outs22l9:Outs:=[(4,sh22l9o2),(1,sh22l9oret)]
def m22l9(F:Nat)(n:Nat){R:Type}(x:Shape.den sh22l9)(K:Ex→St→Option R):Option R:=ref21_Same_l9 F (fun y0 y1 y5=>K (.exit 2) (enc sh22l9o2 (y0,y1,y5,()))) (fun y4=>K .ret (enc sh22l9oret (y4,()))) n x.1 x.2.1 x.2.2.1 x.2.2.2.1
def sh22l4:Shape:=[(0,.d (.slice (.pair (.int .i64) (.pair (.pair tyV (.pair tyV .unit)) (.pair (.slice (.int .i64)) .unit))))),(1,.d (.slice (.pair (.int .i64) (.pair (.pair tyV (.pair tyV .unit)) (.pair (.slice (.int .i64)) .unit))))),(5,.d (.int .i64))]
def sh22l4o0:Shape:=[]
def sh22l4oret:Shape:=[(4,.d .bool)]
def outs22l4:Outs:=[(2,sh22l4o0),(1,sh22l4oret)]
def m22l4(F:Nat)(n:Nat){R:Type}(x:Shape.den sh22l4)(K:Ex→St→Option R):Option R:=ref21_Same_l4 F (K (.exit 0) (enc sh22l4o0 (()))) (fun y4=>K .ret (enc sh22l4oret (y4,()))) n x.1 x.2.1 x.2.2.1
def hs22(F:Nat):Nat→Option (Hint (Dens sg22.rtys)):=hintL [(9,{ sh:=sh22l9,model:=m22l9 F F }),(4,{ sh:=sh22l4,model:=m22l4 F F })]
theorem ok22l9(F:Nat)(fr:Frm)(hn:(cx22 F).ntmps=fr.n)(n:Nat):MSound (R:=(Dens sg22.rtys)) Tryz.prog fr (.loop (sub (bodyOf Tryz.f22) [1,1,0,1,0,0,1,0,0,1,1,0,0])) sh22l9 (m22l9 F n) :=
 loop_sound (cx:=cx22 F) (hs:=hs22 F) (js:=hintL []) (outs:=outs22l9) (conf_all _ rfl) (cs22 F) hn mix (m:=fun n=>m22l9 F n) (fun _ _=>rfl) (fun n x K=>by kernel_rfl) (hok_of (l:=[]) (by kernel_rfl) obl_nil) n
theorem ok22l4(F:Nat)(fr:Frm)(hn:(cx22 F).ntmps=fr.n)(n:Nat):MSound (R:=(Dens sg22.rtys)) Tryz.prog fr (.loop (sub (bodyOf Tryz.f22) [1,1,0,1,0,0])) sh22l4 (m22l4 F n) :=
 loop_sound (cx:=cx22 F) (hs:=hs22 F) (js:=hintL []) (outs:=outs22l4) (conf_all _ rfl) (cs22 F) hn mix (m:=fun n=>m22l4 F n) (fun _ _=>rfl) (fun n x K=>by kernel_rfl) (hok_of (l:=[((.loop (sub (bodyOf Tryz.f22) [1,1,0,1,0,0,1,0,0,1,1,0,0])),{ sh:=sh22l9,model:=m22l9 F F })]) (by kernel_rfl) (obl_cons (ok22l9 F fr hn F) obl_nil)) n
theorem s22(F:Nat):CSound Tryz.prog 22 (con22 F) :=
 fn_sound (fn:=Tryz.f22) (code:=(bodyOf Tryz.f22)) (cx:=cx22 F) (hs:=hs22 F) (js:=hintL []) Tryz.func22 (by kernel_rfl) (by kernel_rfl) (conf_all _ rfl) (cs22 F) mix (by kernel_rfl) (by kernel_rfl) (fun fr hn=>(hok_of (l:=[((.loop (sub (bodyOf Tryz.f22) [1,1,0,1,0,0])),{ sh:=sh22l4,model:=m22l4 F F })]) (by kernel_rfl) (obl_cons (ok22l4 F fr hn F) obl_nil))) (fun x=>by kernel_rfl)
def sg5:Sig:={ modes:=[.ro,.ro,.ro],sh:=[(0,.d (.slice (.int .i64))),(1,.d (.slice (.int .u8))),(2,.d (.slice (.int .u8)))],keeps:=true,fresh:=none,rtys:=[.bool] }
def con5(F:Nat):Contract:=mkCon sg5 fun x=>law22_SimpieceBack F x.1 x.2.1 x.2.2.1
def cx5(F:Nat):Cx:={ types:=tys,call:=callsL [(7,con7 F),(8,con8 F),(10,con10 F),(21,con21 F),(15,con15 F),(22,con22 F)],own:=[17,26],ntmps:=(0,65) }
theorem cs5(F:Nat):∀ f c,(cx5 F).call f=some c→CMet Tryz.prog f c:=callsL_sound (calls_cons (s7 F) (calls_cons (s8 F) (calls_cons (s10 F) (calls_cons (s21 F) (calls_cons (s15 F) (calls_cons (s22 F) calls_nil))))))
theorem s5(F:Nat):CSound Tryz.prog 5 (con5 F) :=
 fn_sound (fn:=Tryz.f5) (code:=(bodyOf Tryz.f5)) (cx:=cx5 F) (hs:=hintL []) (js:=hintL []) Tryz.func5 (by kernel_rfl) (by kernel_rfl) (conf_all _ rfl) (cs5 F) mix (by kernel_rfl) (by kernel_rfl) (fun fr hn=>(hok_of (l:=[]) (by kernel_rfl) obl_nil)) (fun x=>by kernel_rfl)
end Go.Proofs.YtdhfajmcakneiaaGreat
