/- That the code computes the models. Written by program. -/
import Derived.Test.YtdhfajmcakneiaaGreatShare
set_option linter.unusedVariables false
set_option linter.unusedSimpArgs false
namespace Go.Proofs.YtdhfajmcakneiaaGreat
open Go.Eng
def con166(F:Nat):Contract:=mkCon sgLen64 fun x=>bits_Len64 F x.1
theorem s166(F:Nat):CSound Tryz.prog 166 (con166 F):=len64_sound F (by kernel_rfl) fun x w h0 h1=>bits_Len64_calls x w h0 h1
def con161(F:Nat):Contract:=mkCon sgCarry fun x=>bits_Add64 F x.1 x.2.1 x.2.2.1
theorem s161(F:Nat):CExt Tryz.prog 161 (con161 F):=add64_ext F Tryz.func161 (by kernel_rfl) (by kernel_rfl) (by kernel_rfl) (by kernel_rfl)
def con186(F:Nat):Contract:=mkCon sgCarry fun x=>bits_Sub64 F x.1 x.2.1 x.2.2.1
theorem s186(F:Nat):CExt Tryz.prog 186 (con186 F):=sub64_ext F Tryz.func186 (by kernel_rfl) (by kernel_rfl) (by kernel_rfl) (by kernel_rfl)
def con73(F:Nat):Contract:=mkCon (sgGrow (.int .u8) 5) fun x=>slices_Grow_byte F x.1 x.2.1
def cx73:Cx:={ types:=tys,call:=callsL [],own:=[],ntmps:=(0,0) }
theorem s73(F:Nat):CSound Tryz.prog 73 (con73 F):=grow_sound (cx:=cx73) (conf_all _ rfl) (by kernel_rfl:cx73.row? 5=some ⟨(.int .u8),0,1⟩) rfl (by kernel_rfl) (by decide) (fun base l c n w=>slices_Grow_byte_room base l c n w) (fun i0 z hi hz hs base l c n cs w=>slices_Grow_byte_grow i0 z hi hz hs base l c n cs w)
def sg7:Sig:={ modes:=[.ro],sh:=[(0,.d (.slice (.int .i64)))],keeps:=false,fresh:=some (0,0),rtys:=[(.pair (.slice (.int .i64)) (.pair (.int .i64) .unit))] }
def con7(F:Nat):Contract:=mkCon sg7 fun x=>made_New F x.1
def cx7(F:Nat):Cx:={ types:=tys,call:=callsL [],own:=[],ntmps:=(0,6) }
theorem cs7(F:Nat):∀ f c,(cx7 F).call f=some c→CMet Tryz.prog f c:=callsL_sound calls_nil
theorem s7(F:Nat):CSound Tryz.prog 7 (con7 F) :=
 fn_sound (fn:=Tryz.f7) (code:=(bodyOf Tryz.f7)) (cx:=cx7 F) (hs:=hintL []) (js:=hintL []) Tryz.func7 (by kernel_rfl) (by kernel_rfl) (conf_all _ rfl) (cs7 F) mix (by kernel_rfl) (by kernel_rfl) (fun fr hn=>(hok_of (l:=[]) (by kernel_rfl) obl_nil)) (fun x=>by kernel_rfl)
def sg16:Sig:={ modes:=[.ro,.ro],sh:=[(0,.d (.int .i64)),(1,.d (.int .i64))],keeps:=true,fresh:=none,rtys:=[(.int .i64)] }
def con16(F:Nat):Contract:=mkCon sg16 fun x=>made_Mod F x.1 x.2.1
def cx16(F:Nat):Cx:={ types:=tys,call:=callsL [],own:=[],ntmps:=(0,16) }
theorem cs16(F:Nat):∀ f c,(cx16 F).call f=some c→CMet Tryz.prog f c:=callsL_sound calls_nil
theorem s16(F:Nat):CSound Tryz.prog 16 (con16 F) :=
 fn_sound (fn:=Tryz.f16) (code:=(bodyOf Tryz.f16)) (cx:=cx16 F) (hs:=hintL []) (js:=hintL []) Tryz.func16 (by kernel_rfl) (by kernel_rfl) (conf_all _ rfl) (cs16 F) mix (by kernel_rfl) (by kernel_rfl) (fun fr hn=>(hok_of (l:=[]) (by kernel_rfl) obl_nil)) (fun x=>by kernel_rfl)
def sg19:Sig:={ modes:=[.bor,.ro],sh:=[(0,.box 0 (.pair (.slice (.int .i64)) (.pair (.int .i64) .unit))),(1,.d (.int .i64))],keeps:=false,fresh:=none,rtys:=[(.pair (.slice (.int .i64)) (.pair (.int .i64) .unit)),(.int .i64)] }
def con19(F:Nat):Contract:=mkCon sg19 fun x=>made_Tape_Next F x.1 x.2.1
def cx19(F:Nat):Cx:={ types:=tys,call:=callsL [(16,con16 F)],own:=[],ntmps:=(1,35) }
theorem cs19(F:Nat):∀ f c,(cx19 F).call f=some c→CMet Tryz.prog f c:=callsL_sound (calls_cons (s16 F) calls_nil)
theorem s19(F:Nat):CSound Tryz.prog 19 (con19 F) :=
 fn_sound (fn:=Tryz.f19) (code:=(bodyOf Tryz.f19)) (cx:=cx19 F) (hs:=hintL []) (js:=hintL []) Tryz.func19 (by kernel_rfl) (by kernel_rfl) (conf_all _ rfl) (cs19 F) mix (by kernel_rfl) (by kernel_rfl) (fun fr hn=>(hok_of (l:=[]) (by kernel_rfl) obl_nil)) (fun x=>by kernel_rfl)
def sg59:Sig:={ modes:=[.bor],sh:=[(0,.box 0 (.pair (.slice (.int .i64)) (.pair (.int .i64) .unit)))],keeps:=false,fresh:=none,rtys:=[(.pair (.slice (.int .i64)) (.pair (.int .i64) .unit)),(.int .u64)] }
def con59(F:Nat):Contract:=mkCon sg59 fun x=>made_Tape_Word F x.1
def cx59(F:Nat):Cx:={ types:=tys,call:=callsL [(19,con19 F)],own:=[],ntmps:=(1,16) }
theorem cs59(F:Nat):∀ f c,(cx59 F).call f=some c→CMet Tryz.prog f c:=callsL_sound (calls_cons (s19 F) calls_nil)
def sh59l3:Shape:=[(0,.box 0 (.pair (.slice (.int .i64)) (.pair (.int .i64) .unit))),(3,.d (.int .u64)),(4,.d (.int .i64))]
def sh59l3o0:Shape:=[(0,.box 0 (.pair (.slice (.int .i64)) (.pair (.int .i64) .unit))),(3,.d (.int .u64))]
def outs59l3:Outs:=[(2,sh59l3o0)]
def m59l3(F:Nat)(n:Nat){R:Type}(x:Shape.den sh59l3)(K:Ex→St→Option R):Option R:=made_Tape_Word_l3 F (fun y0 y3=>K (.exit 0) (enc sh59l3o0 (y0,y3,()))) n x.1 x.2.1 x.2.2.1
def hs59(F:Nat):Nat→Option (Hint (Dens sg59.rtys)):=hintL [(3,{ sh:=sh59l3,model:=m59l3 F F })]
theorem ok59l3(F:Nat)(fr:Frm)(hn:(cx59 F).ntmps=fr.n)(n:Nat):MSound (R:=(Dens sg59.rtys)) Tryz.prog fr (.loop (sub (bodyOf Tryz.f59) [1,1,0,1,0,0])) sh59l3 (m59l3 F n) :=
 loop_sound (cx:=cx59 F) (hs:=hs59 F) (js:=hintL []) (outs:=outs59l3) (conf_all _ rfl) (cs59 F) hn mix (m:=fun n=>m59l3 F n) (fun _ _=>rfl) (fun n x K=>by kernel_rfl) (hok_of (l:=[]) (by kernel_rfl) obl_nil) n
theorem s59(F:Nat):CSound Tryz.prog 59 (con59 F) :=
 fn_sound (fn:=Tryz.f59) (code:=(bodyOf Tryz.f59)) (cx:=cx59 F) (hs:=hs59 F) (js:=hintL []) Tryz.func59 (by kernel_rfl) (by kernel_rfl) (conf_all _ rfl) (cs59 F) mix (by kernel_rfl) (by kernel_rfl) (fun fr hn=>(hok_of (l:=[((.loop (sub (bodyOf Tryz.f59) [1,1,0,1,0,0])),{ sh:=sh59l3,model:=m59l3 F F })]) (by kernel_rfl) (obl_cons (ok59l3 F fr hn F) obl_nil))) (fun x=>by kernel_rfl)
def sg29:Sig:={ modes:=[.bor],sh:=[(0,.box 0 (.pair (.slice (.int .i64)) (.pair (.int .i64) .unit)))],keeps:=false,fresh:=none,rtys:=[(.pair (.slice (.int .i64)) (.pair (.int .i64) .unit)),(.int .i64)] }
def con29(F:Nat):Contract:=mkCon sg29 fun x=>made_Tape_Int F x.1
def cx29(F:Nat):Cx:={ types:=tys,call:=callsL [(19,con19 F),(59,con59 F)],own:=[],ntmps:=(1,32) }
theorem cs29(F:Nat):∀ f c,(cx29 F).call f=some c→CMet Tryz.prog f c:=callsL_sound (calls_cons (s19 F) (calls_cons (s59 F) calls_nil))
theorem s29(F:Nat):CSound Tryz.prog 29 (con29 F) :=
 fn_sound (fn:=Tryz.f29) (code:=(bodyOf Tryz.f29)) (cx:=cx29 F) (hs:=hintL []) (js:=hintL []) Tryz.func29 (by kernel_rfl) (by kernel_rfl) (conf_all _ rfl) (cs29 F) mix (by kernel_rfl) (by kernel_rfl) (fun fr hn=>(hok_of (l:=[]) (by kernel_rfl) obl_nil)) (fun x=>by kernel_rfl)
def sg66:Sig:={ modes:=[.bor,.ro],sh:=[(0,.box 0 (.pair (.slice (.int .i64)) (.pair (.int .i64) .unit))),(1,.d (.int .i64))],keeps:=false,fresh:=none,rtys:=[(.pair (.slice (.int .i64)) (.pair (.int .i64) .unit)),.bool] }
def con66(F:Nat):Contract:=mkCon sg66 fun x=>made_Tape_Bool F x.1 x.2.1
def cx66(F:Nat):Cx:={ types:=tys,call:=callsL [(19,con19 F)],own:=[],ntmps:=(1,11) }
theorem cs66(F:Nat):∀ f c,(cx66 F).call f=some c→CMet Tryz.prog f c:=callsL_sound (calls_cons (s19 F) calls_nil)
theorem s66(F:Nat):CSound Tryz.prog 66 (con66 F) :=
 fn_sound (fn:=Tryz.f66) (code:=(bodyOf Tryz.f66)) (cx:=cx66 F) (hs:=hintL []) (js:=hintL []) Tryz.func66 (by kernel_rfl) (by kernel_rfl) (conf_all _ rfl) (cs66 F) mix (by kernel_rfl) (by kernel_rfl) (fun fr hn=>(hok_of (l:=[]) (by kernel_rfl) obl_nil)) (fun x=>by kernel_rfl)
def sg108:Sig:={ modes:=[.bor,.ro],sh:=[(0,.box 0 (.pair (.slice (.int .i64)) (.pair (.int .i64) .unit))),(1,.d (.int .i64))],keeps:=false,fresh:=some (0,2),rtys:=[(.pair (.slice (.int .i64)) (.pair (.int .i64) .unit)),(.slice (.int .i64))] }
def con108(F:Nat):Contract:=mkCon sg108 fun x=>made_Tape_Times F x.1 x.2.1
def cx108(F:Nat):Cx:={ types:=tys,call:=callsL [(19,con19 F),(29,con29 F),(59,con59 F),(66,con66 F)],own:=[4,5],ntmps:=(1,80) }
theorem cs108(F:Nat):∀ f c,(cx108 F).call f=some c→CMet Tryz.prog f c:=callsL_sound (calls_cons (s19 F) (calls_cons (s29 F) (calls_cons (s59 F) (calls_cons (s66 F) calls_nil))))
def sh108j20:Shape:=[(0,.box 0 (.pair (.slice (.int .i64)) (.pair (.int .i64) .unit))),(5,.own 5 (.int .i64) 2),(6,.d (.int .i64)),(7,.d (.int .i64)),(8,.d (.int .u64)),(9,.d (.int .i64)),(10,.d (.int .u64))]
def sh108j20on:Shape:=[(0,.box 0 (.pair (.slice (.int .i64)) (.pair (.int .i64) .unit))),(5,.own 5 (.int .i64) 2),(6,.d (.int .i64)),(7,.d (.int .i64)),(8,.d (.int .u64)),(9,.d (.int .i64))]
def sh108j20oret:Shape:=[(0,.box 0 (.pair (.slice (.int .i64)) (.pair (.int .i64) .unit))),(4,.own 4 (.int .i64) 2)]
def outs108j20:Outs:=[(0,sh108j20on),(1,sh108j20oret)]
def m108j20(F:Nat){R:Type}(x:Shape.den sh108j20)(K:Ex→St→Option R):Option R:=made_Tape_Times_j20 F (fun y0 y5 y6 y7 y8 y9=>K .normal (enc sh108j20on (y0,y5,y6,y7,y8,y9,()))) (fun y0 y4=>K .ret (enc sh108j20oret (y0,y4,()))) x.1 x.2.1 x.2.2.1 x.2.2.2.1 x.2.2.2.2.1 x.2.2.2.2.2.1 x.2.2.2.2.2.2.1
def sh108l6:Shape:=[(0,.box 0 (.pair (.slice (.int .i64)) (.pair (.int .i64) .unit))),(5,.own 5 (.int .i64) 2),(6,.d (.int .i64)),(7,.d (.int .i64)),(8,.d (.int .u64)),(9,.d (.int .i64))]
def sh108l6o0:Shape:=[(0,.box 0 (.pair (.slice (.int .i64)) (.pair (.int .i64) .unit))),(5,.own 5 (.int .i64) 2)]
def sh108l6oret:Shape:=[(0,.box 0 (.pair (.slice (.int .i64)) (.pair (.int .i64) .unit))),(4,.own 4 (.int .i64) 2)]
def outs108l6:Outs:=[(2,sh108l6o0),(1,sh108l6oret)]
def m108l6(F:Nat)(n:Nat){R:Type}(x:Shape.den sh108l6)(K:Ex→St→Option R):Option R:=made_Tape_Times_l6 F (fun y0 y5=>K (.exit 0) (enc sh108l6o0 (y0,y5,()))) (fun y0 y4=>K .ret (enc sh108l6oret (y0,y4,()))) n x.1 x.2.1 x.2.2.1 x.2.2.2.1 x.2.2.2.2.1 x.2.2.2.2.2.1
def hs108(F:Nat):Nat→Option (Hint (Dens sg108.rtys)):=hintL [(6,{ sh:=sh108l6,model:=m108l6 F F })]
def js108(F:Nat):Nat→Option (Hint (Dens sg108.rtys)):=hintL [(20,{ sh:=sh108j20,model:=m108j20 F })]
theorem ok108j20(F:Nat)(fr:Frm)(hn:(cx108 F).ntmps=fr.n):MSound (R:=(Dens sg108.rtys)) Tryz.prog fr (sub (bodyOf Tryz.f108) [1,1,1,1,1,0,1,0,0,1,0,0,1,1,1]) sh108j20 (m108j20 F) :=
 join_sound (cx:=cx108 F) (hs:=hs108 F) (js:=js108 F) (outs:=outs108j20) (conf_all _ rfl) (cs108 F) hn mix (fun x K=>by kernel_rfl) (hok_of (l:=[]) (by kernel_rfl) obl_nil)
theorem ok108l6(F:Nat)(fr:Frm)(hn:(cx108 F).ntmps=fr.n)(n:Nat):MSound (R:=(Dens sg108.rtys)) Tryz.prog fr (.loop (sub (bodyOf Tryz.f108) [1,1,1,1,1,0,1,0,0])) sh108l6 (m108l6 F n) :=
 loop_sound (cx:=cx108 F) (hs:=hs108 F) (js:=js108 F) (outs:=outs108l6) (conf_all _ rfl) (cs108 F) hn mix (m:=fun n=>m108l6 F n) (fun _ _=>rfl) (fun n x K=>by kernel_rfl) (hok_of (l:=[((sub (bodyOf Tryz.f108) [1,1,1,1,1,0,1,0,0,1,0,0,1,1,1]),{ sh:=sh108j20,model:=m108j20 F })]) (by kernel_rfl) (obl_cons (ok108j20 F fr hn) obl_nil)) n
theorem s108(F:Nat):CSound Tryz.prog 108 (con108 F) :=
 fn_sound (fn:=Tryz.f108) (code:=(bodyOf Tryz.f108)) (cx:=cx108 F) (hs:=hs108 F) (js:=js108 F) Tryz.func108 (by kernel_rfl) (by kernel_rfl) (conf_all _ rfl) (cs108 F) mix (by kernel_rfl) (by kernel_rfl) (fun fr hn=>(hok_of (l:=[((.loop (sub (bodyOf Tryz.f108) [1,1,1,1,1,0,1,0,0])),{ sh:=sh108l6,model:=m108l6 F F })]) (by kernel_rfl) (obl_cons (ok108l6 F fr hn F) obl_nil))) (fun x=>by kernel_rfl)
def sg54:Sig:={ modes:=[.bor,.ro],sh:=[(0,.box 0 (.pair (.slice (.int .i64)) (.pair (.int .i64) .unit))),(1,.d (.int .i64))],keeps:=false,fresh:=some (0,96),rtys:=[(.pair (.slice (.int .i64)) (.pair (.int .i64) .unit)),(.slice (.pair (.int .i64) (.pair (.int .i64) .unit)))] }
def con54(F:Nat):Contract:=mkCon sg54 fun x=>made_Tape_Samples F x.1 x.2.1
def cx54(F:Nat):Cx:={ types:=tys,call:=callsL [(108,con108 F),(19,con19 F),(29,con29 F),(66,con66 F)],own:=[4,6],ntmps:=(1,91) }
theorem cs54(F:Nat):∀ f c,(cx54 F).call f=some c→CMet Tryz.prog f c:=callsL_sound (calls_cons (s108 F) (calls_cons (s19 F) (calls_cons (s29 F) (calls_cons (s66 F) calls_nil))))
def sh54l6:Shape:=[(0,.box 0 (.pair (.slice (.int .i64)) (.pair (.int .i64) .unit))),(5,.d (.slice (.int .i64))),(6,.own 6 (.pair (.int .i64) (.pair (.int .i64) .unit)) 96),(7,.d (.int .i64)),(8,.d (.int .i64)),(9,.d (.int .i64)),(10,.d (.int .i64))]
def sh54l6o0:Shape:=[(0,.box 0 (.pair (.slice (.int .i64)) (.pair (.int .i64) .unit))),(6,.own 6 (.pair (.int .i64) (.pair (.int .i64) .unit)) 96)]
def outs54l6:Outs:=[(2,sh54l6o0)]
def m54l6(F:Nat)(n:Nat){R:Type}(x:Shape.den sh54l6)(K:Ex→St→Option R):Option R:=made_Tape_Samples_l6 F (fun y0 y6=>K (.exit 0) (enc sh54l6o0 (y0,y6,()))) n x.1 x.2.1 x.2.2.1 x.2.2.2.1 x.2.2.2.2.1 x.2.2.2.2.2.1 x.2.2.2.2.2.2.1
def hs54(F:Nat):Nat→Option (Hint (Dens sg54.rtys)):=hintL [(6,{ sh:=sh54l6,model:=m54l6 F F })]
theorem ok54l6(F:Nat)(fr:Frm)(hn:(cx54 F).ntmps=fr.n)(n:Nat):MSound (R:=(Dens sg54.rtys)) Tryz.prog fr (.loop (sub (bodyOf Tryz.f54) [1,1,1,1,1,0,1,0,0])) sh54l6 (m54l6 F n) :=
 loop_sound (cx:=cx54 F) (hs:=hs54 F) (js:=hintL []) (outs:=outs54l6) (conf_all _ rfl) (cs54 F) hn mix (m:=fun n=>m54l6 F n) (fun _ _=>rfl) (fun n x K=>by kernel_rfl) (hok_of (l:=[]) (by kernel_rfl) obl_nil) n
theorem s54(F:Nat):CSound Tryz.prog 54 (con54 F) :=
 fn_sound (fn:=Tryz.f54) (code:=(bodyOf Tryz.f54)) (cx:=cx54 F) (hs:=hs54 F) (js:=hintL []) Tryz.func54 (by kernel_rfl) (by kernel_rfl) (conf_all _ rfl) (cs54 F) mix (by kernel_rfl) (by kernel_rfl) (fun fr hn=>(hok_of (l:=[((.loop (sub (bodyOf Tryz.f54) [1,1,1,1,1,0,1,0,0])),{ sh:=sh54l6,model:=m54l6 F F })]) (by kernel_rfl) (obl_cons (ok54l6 F fr hn F) obl_nil))) (fun x=>by kernel_rfl)
def sg23:Sig:={ modes:=[.bor,.ro],sh:=[(0,.box 0 (.pair (.slice (.int .i64)) (.pair (.int .i64) .unit))),(1,.d (.int .i64))],keeps:=false,fresh:=some (0,96),rtys:=[(.pair (.slice (.int .i64)) (.pair (.int .i64) .unit)),(.slice (.pair (.int .i64) (.pair (.int .i64) .unit)))] }
def con23(F:Nat):Contract:=mkCon sg23 fun x=>made_Tape_Some F x.1 x.2.1
def cx23(F:Nat):Cx:={ types:=tys,call:=callsL [(54,con54 F),(29,con29 F)],own:=[4,8,17],ntmps:=(1,19) }
theorem cs23(F:Nat):∀ f c,(cx23 F).call f=some c→CMet Tryz.prog f c:=callsL_sound (calls_cons (s54 F) (calls_cons (s29 F) calls_nil))
theorem s23(F:Nat):CSound Tryz.prog 23 (con23 F) :=
 fn_sound (fn:=Tryz.f23) (code:=(bodyOf Tryz.f23)) (cx:=cx23 F) (hs:=hintL []) (js:=hintL []) Tryz.func23 (by kernel_rfl) (by kernel_rfl) (conf_all _ rfl) (cs23 F) mix (by kernel_rfl) (by kernel_rfl) (fun fr hn=>(hok_of (l:=[]) (by kernel_rfl) obl_nil)) (fun x=>by kernel_rfl)
def sg25:Sig:={ modes:=[.bor],sh:=[(0,.box 0 (.pair (.slice (.int .i64)) (.pair (.int .i64) .unit)))],keeps:=false,fresh:=none,rtys:=[(.pair (.slice (.int .i64)) (.pair (.int .i64) .unit)),(.int .i64)] }
def con25(F:Nat):Contract:=mkCon sg25 fun x=>made_Tape_Tolerance F x.1
def cx25(F:Nat):Cx:={ types:=tys,call:=callsL [(19,con19 F),(59,con59 F)],own:=[],ntmps:=(1,24) }
theorem cs25(F:Nat):∀ f c,(cx25 F).call f=some c→CMet Tryz.prog f c:=callsL_sound (calls_cons (s19 F) (calls_cons (s59 F) calls_nil))
theorem s25(F:Nat):CSound Tryz.prog 25 (con25 F) :=
 fn_sound (fn:=Tryz.f25) (code:=(bodyOf Tryz.f25)) (cx:=cx25 F) (hs:=hintL []) (js:=hintL []) Tryz.func25 (by kernel_rfl) (by kernel_rfl) (conf_all _ rfl) (cs25 F) mix (by kernel_rfl) (by kernel_rfl) (fun fr hn=>(hok_of (l:=[]) (by kernel_rfl) obl_nil)) (fun x=>by kernel_rfl)
def sg109:Sig:={ modes:=[.ro],sh:=[(0,.d (.int .i64))],keeps:=true,fresh:=none,rtys:=[.bool] }
def con109(F:Nat):Contract:=mkCon sg109 fun x=>ref13_Tolerance F x.1
def cx109(F:Nat):Cx:={ types:=tys,call:=callsL [],own:=[],ntmps:=(0,9) }
theorem cs109(F:Nat):∀ f c,(cx109 F).call f=some c→CMet Tryz.prog f c:=callsL_sound calls_nil
theorem s109(F:Nat):CSound Tryz.prog 109 (con109 F) :=
 fn_sound (fn:=Tryz.f109) (code:=(bodyOf Tryz.f109)) (cx:=cx109 F) (hs:=hintL []) (js:=hintL []) Tryz.func109 (by kernel_rfl) (by kernel_rfl) (conf_all _ rfl) (cs109 F) mix (by kernel_rfl) (by kernel_rfl) (fun fr hn=>(hok_of (l:=[]) (by kernel_rfl) obl_nil)) (fun x=>by kernel_rfl)
def sg55:Sig:={ modes:=[.ro],sh:=[(0,.d (.int .i64))],keeps:=true,fresh:=none,rtys:=[(.pair (.int .i64) (.pair (.int .i64) (.pair (.int .i64) (.pair (.pair (.int .i64) (.pair (.int .i64) .unit)) (.pair (.int .i64) (.pair (.int .i64) (.pair (.pair .bool (.pair (.pair tyV (.pair tyV .unit)) (.pair (.pair tyV (.pair tyV .unit)) .unit))) .unit))))))),(.int .i64)] }
def con55(F:Nat):Contract:=mkCon sg55 fun x=>ref19_Start F x.1
def cx55(F:Nat):Cx:={ types:=tys,call:=callsL [(109,con109 F)],own:=[],ntmps:=(0,10) }
theorem cs55(F:Nat):∀ f c,(cx55 F).call f=some c→CMet Tryz.prog f c:=callsL_sound (calls_cons (s109 F) calls_nil)
theorem s55(F:Nat):CSound Tryz.prog 55 (con55 F) :=
 fn_sound (fn:=Tryz.f55) (code:=(bodyOf Tryz.f55)) (cx:=cx55 F) (hs:=hintL []) (js:=hintL []) Tryz.func55 (by kernel_rfl) (by kernel_rfl) (conf_all _ rfl) (cs55 F) mix (by kernel_rfl) (by kernel_rfl) (fun fr hn=>(hok_of (l:=[]) (by kernel_rfl) obl_nil)) (fun x=>by kernel_rfl)
def sg111:Sig:={ modes:=[.ro],sh:=[(0,.d (.slice (.pair (.int .i64) (.pair (.int .i64) .unit))))],keeps:=false,fresh:=some (0,2),rtys:=[(.slice (.int .i64))] }
def con111(F:Nat):Contract:=mkCon sg111 fun x=>ref12_Times F x.1
def cx111(F:Nat):Cx:={ types:=tys,call:=callsL [],own:=[2,3],ntmps:=(0,20) }
theorem cs111(F:Nat):∀ f c,(cx111 F).call f=some c→CMet Tryz.prog f c:=callsL_sound calls_nil
def sh111l3:Shape:=[(0,.d (.slice (.pair (.int .i64) (.pair (.int .i64) .unit)))),(3,.own 3 (.int .i64) 2),(4,.d (.int .i64))]
def sh111l3o0:Shape:=[(3,.own 3 (.int .i64) 2)]
def outs111l3:Outs:=[(2,sh111l3o0)]
def m111l3(F:Nat)(n:Nat){R:Type}(x:Shape.den sh111l3)(K:Ex→St→Option R):Option R:=ref12_Times_l3 F (fun y3=>K (.exit 0) (enc sh111l3o0 (y3,()))) n x.1 x.2.1 x.2.2.1
def hs111(F:Nat):Nat→Option (Hint (Dens sg111.rtys)):=hintL [(3,{ sh:=sh111l3,model:=m111l3 F F })]
theorem ok111l3(F:Nat)(fr:Frm)(hn:(cx111 F).ntmps=fr.n)(n:Nat):MSound (R:=(Dens sg111.rtys)) Tryz.prog fr (.loop (sub (bodyOf Tryz.f111) [1,1,0,1,0,0])) sh111l3 (m111l3 F n) :=
 loop_sound (cx:=cx111 F) (hs:=hs111 F) (js:=hintL []) (outs:=outs111l3) (conf_all _ rfl) (cs111 F) hn mix (m:=fun n=>m111l3 F n) (fun _ _=>rfl) (fun n x K=>by kernel_rfl) (hok_of (l:=[]) (by kernel_rfl) obl_nil) n
theorem s111(F:Nat):CSound Tryz.prog 111 (con111 F) :=
 fn_sound (fn:=Tryz.f111) (code:=(bodyOf Tryz.f111)) (cx:=cx111 F) (hs:=hs111 F) (js:=hintL []) Tryz.func111 (by kernel_rfl) (by kernel_rfl) (conf_all _ rfl) (cs111 F) mix (by kernel_rfl) (by kernel_rfl) (fun fr hn=>(hok_of (l:=[((.loop (sub (bodyOf Tryz.f111) [1,1,0,1,0,0])),{ sh:=sh111l3,model:=m111l3 F F })]) (by kernel_rfl) (obl_cons (ok111l3 F fr hn F) obl_nil))) (fun x=>by kernel_rfl)
def sg110:Sig:={ modes:=[.ro],sh:=[(0,.d (.slice (.int .i64)))],keeps:=true,fresh:=none,rtys:=[.bool] }
def con110(F:Nat):Contract:=mkCon sg110 fun x=>ref10_Increasing F x.1
def cx110(F:Nat):Cx:={ types:=tys,call:=callsL [],own:=[],ntmps:=(0,20) }
theorem cs110(F:Nat):∀ f c,(cx110 F).call f=some c→CMet Tryz.prog f c:=callsL_sound calls_nil
def sh110l2:Shape:=[(0,.d (.slice (.int .i64))),(3,.d (.int .i64))]
def sh110l2o0:Shape:=[]
def sh110l2oret:Shape:=[(2,.d .bool)]
def outs110l2:Outs:=[(2,sh110l2o0),(1,sh110l2oret)]
def m110l2(F:Nat)(n:Nat){R:Type}(x:Shape.den sh110l2)(K:Ex→St→Option R):Option R:=ref10_Increasing_l2 F (K (.exit 0) (enc sh110l2o0 (()))) (fun y2=>K .ret (enc sh110l2oret (y2,()))) n x.1 x.2.1
def hs110(F:Nat):Nat→Option (Hint (Dens sg110.rtys)):=hintL [(2,{ sh:=sh110l2,model:=m110l2 F F })]
theorem ok110l2(F:Nat)(fr:Frm)(hn:(cx110 F).ntmps=fr.n)(n:Nat):MSound (R:=(Dens sg110.rtys)) Tryz.prog fr (.loop (sub (bodyOf Tryz.f110) [1,0,1,0,0])) sh110l2 (m110l2 F n) :=
 loop_sound (cx:=cx110 F) (hs:=hs110 F) (js:=hintL []) (outs:=outs110l2) (conf_all _ rfl) (cs110 F) hn mix (m:=fun n=>m110l2 F n) (fun _ _=>rfl) (fun n x K=>by kernel_rfl) (hok_of (l:=[]) (by kernel_rfl) obl_nil) n
theorem s110(F:Nat):CSound Tryz.prog 110 (con110 F) :=
 fn_sound (fn:=Tryz.f110) (code:=(bodyOf Tryz.f110)) (cx:=cx110 F) (hs:=hs110 F) (js:=hintL []) Tryz.func110 (by kernel_rfl) (by kernel_rfl) (conf_all _ rfl) (cs110 F) mix (by kernel_rfl) (by kernel_rfl) (fun fr hn=>(hok_of (l:=[((.loop (sub (bodyOf Tryz.f110) [1,0,1,0,0])),{ sh:=sh110l2,model:=m110l2 F F })]) (by kernel_rfl) (obl_cons (ok110l2 F fr hn F) obl_nil))) (fun x=>by kernel_rfl)
def sg56:Sig:={ modes:=[.ro],sh:=[(0,.d (.slice (.pair (.int .i64) (.pair (.int .i64) .unit))))],keeps:=true,fresh:=none,rtys:=[(.int .i64)] }
def con56(F:Nat):Contract:=mkCon sg56 fun x=>ref12_Check F x.1
def cx56(F:Nat):Cx:={ types:=tys,call:=callsL [(111,con111 F),(110,con110 F)],own:=[],ntmps:=(0,7) }
theorem cs56(F:Nat):∀ f c,(cx56 F).call f=some c→CMet Tryz.prog f c:=callsL_sound (calls_cons (s111 F) (calls_cons (s110 F) calls_nil))
theorem s56(F:Nat):CSound Tryz.prog 56 (con56 F) :=
 fn_sound (fn:=Tryz.f56) (code:=(bodyOf Tryz.f56)) (cx:=cx56 F) (hs:=hintL []) (js:=hintL []) Tryz.func56 (by kernel_rfl) (by kernel_rfl) (conf_all _ rfl) (cs56 F) mix (by kernel_rfl) (by kernel_rfl) (fun fr hn=>(hok_of (l:=[]) (by kernel_rfl) obl_nil)) (fun x=>by kernel_rfl)
def sg157:Sig:={ modes:=[.ro],sh:=[(0,.d (.int .i64))],keeps:=true,fresh:=none,rtys:=[(.int .i64)] }
def con157(F:Nat):Contract:=mkCon sg157 fun x=>ref19_unit F x.1
def cx157(F:Nat):Cx:={ types:=tys,call:=callsL [],own:=[],ntmps:=(0,5) }
theorem cs157(F:Nat):∀ f c,(cx157 F).call f=some c→CMet Tryz.prog f c:=callsL_sound calls_nil
theorem s157(F:Nat):CSound Tryz.prog 157 (con157 F) :=
 fn_sound (fn:=Tryz.f157) (code:=(bodyOf Tryz.f157)) (cx:=cx157 F) (hs:=hintL []) (js:=hintL []) Tryz.func157 (by kernel_rfl) (by kernel_rfl) (conf_all _ rfl) (cs157 F) mix (by kernel_rfl) (by kernel_rfl) (fun fr hn=>(hok_of (l:=[]) (by kernel_rfl) obl_nil)) (fun x=>by kernel_rfl)
def sg181:Sig:={ modes:=[.ro,.ro],sh:=[(0,.d (.int .i64)),(1,.d (.int .i64))],keeps:=true,fresh:=none,rtys:=[(.int .i64),.bool] }
def con181(F:Nat):Contract:=mkCon sg181 fun x=>ref01_FloorDiv F x.1 x.2.1
def cx181(F:Nat):Cx:={ types:=tys,call:=callsL [],own:=[],ntmps:=(0,34) }
theorem cs181(F:Nat):∀ f c,(cx181 F).call f=some c→CMet Tryz.prog f c:=callsL_sound calls_nil
def sh181j3:Shape:=[(0,.d (.int .i64)),(1,.d (.int .i64))]
def sh181j3oret:Shape:=[(4,.d (.int .i64)),(5,.d .bool)]
def outs181j3:Outs:=[(1,sh181j3oret)]
def m181j3(F:Nat){R:Type}(x:Shape.den sh181j3)(K:Ex→St→Option R):Option R:=ref01_FloorDiv_j3 F (fun y4 y5=>K .ret (enc sh181j3oret (y4,y5,()))) x.1 x.2.1
def js181(F:Nat):Nat→Option (Hint (Dens sg181.rtys)):=hintL [(3,{ sh:=sh181j3,model:=m181j3 F })]
theorem ok181j3(F:Nat)(fr:Frm)(hn:(cx181 F).ntmps=fr.n):MSound (R:=(Dens sg181.rtys)) Tryz.prog fr (sub (bodyOf Tryz.f181) [1,1]) sh181j3 (m181j3 F) :=
 join_sound (cx:=cx181 F) (hs:=hintL []) (js:=js181 F) (outs:=outs181j3) (conf_all _ rfl) (cs181 F) hn mix (fun x K=>by kernel_rfl) (hok_of (l:=[]) (by kernel_rfl) obl_nil)
theorem s181(F:Nat):CSound Tryz.prog 181 (con181 F) :=
 fn_sound (fn:=Tryz.f181) (code:=(bodyOf Tryz.f181)) (cx:=cx181 F) (hs:=hintL []) (js:=js181 F) Tryz.func181 (by kernel_rfl) (by kernel_rfl) (conf_all _ rfl) (cs181 F) mix (by kernel_rfl) (by kernel_rfl) (fun fr hn=>(hok_of (l:=[((sub (bodyOf Tryz.f181) [1,1]),{ sh:=sh181j3,model:=m181j3 F })]) (by kernel_rfl) (obl_cons (ok181j3 F fr hn) obl_nil))) (fun x=>by kernel_rfl)
def sg154:Sig:={ modes:=[.ro,.ro],sh:=[(0,.d (.int .i64)),(1,.d (.int .i64))],keeps:=true,fresh:=none,rtys:=[(.int .i64)] }
def con154(F:Nat):Contract:=mkCon sg154 fun x=>ref19_Key F x.1 x.2.1
def cx154(F:Nat):Cx:={ types:=tys,call:=callsL [(157,con157 F),(181,con181 F)],own:=[],ntmps:=(0,15) }
theorem cs154(F:Nat):∀ f c,(cx154 F).call f=some c→CMet Tryz.prog f c:=callsL_sound (calls_cons (s157 F) (calls_cons (s181 F) calls_nil))
theorem s154(F:Nat):CSound Tryz.prog 154 (con154 F) :=
 fn_sound (fn:=Tryz.f154) (code:=(bodyOf Tryz.f154)) (cx:=cx154 F) (hs:=hintL []) (js:=hintL []) Tryz.func154 (by kernel_rfl) (by kernel_rfl) (conf_all _ rfl) (cs154 F) mix (by kernel_rfl) (by kernel_rfl) (fun fr hn=>(hok_of (l:=[]) (by kernel_rfl) obl_nil)) (fun x=>by kernel_rfl)
def sg117:Sig:={ modes:=[],sh:=[],keeps:=true,fresh:=none,rtys:=[(.pair .bool (.pair (.pair tyV (.pair tyV .unit)) (.pair (.pair tyV (.pair tyV .unit)) .unit)))] }
def con117(F:Nat):Contract:=mkCon sg117 fun x=>ref13_Start F 
def cx117(F:Nat):Cx:={ types:=tys,call:=callsL [],own:=[],ntmps:=(0,2) }
theorem cs117(F:Nat):∀ f c,(cx117 F).call f=some c→CMet Tryz.prog f c:=callsL_sound calls_nil
theorem s117(F:Nat):CSound Tryz.prog 117 (con117 F) :=
 fn_sound (fn:=Tryz.f117) (code:=(bodyOf Tryz.f117)) (cx:=cx117 F) (hs:=hintL []) (js:=hintL []) Tryz.func117 (by kernel_rfl) (by kernel_rfl) (conf_all _ rfl) (cs117 F) mix (by kernel_rfl) (by kernel_rfl) (fun fr hn=>(hok_of (l:=[]) (by kernel_rfl) obl_nil)) (fun x=>by kernel_rfl)
def sg159:Sig:={ modes:=[.ro],sh:=[(0,.d (.slice (.int .u64)))],keeps:=false,fresh:=none,rtys:=[(.slice (.int .u64))] }
def con159(F:Nat):Contract:=mkCon sg159 fun x=>ref02_trim F x.1
def cx159(F:Nat):Cx:={ types:=tys,call:=callsL [],own:=[2,19],ntmps:=(0,21) }
theorem cs159(F:Nat):∀ f c,(cx159 F).call f=some c→CMet Tryz.prog f c:=callsL_sound calls_nil
def sh159l1:Shape:=[(0,.d (.slice (.int .u64)))]
def sh159l1o0:Shape:=[(0,.d (.slice (.int .u64)))]
def outs159l1:Outs:=[(2,sh159l1o0)]
def m159l1(F:Nat)(n:Nat){R:Type}(x:Shape.den sh159l1)(K:Ex→St→Option R):Option R:=ref02_trim_l1 F (fun y0=>K (.exit 0) (enc sh159l1o0 (y0,()))) n x.1
def hs159(F:Nat):Nat→Option (Hint (Dens sg159.rtys)):=hintL [(1,{ sh:=sh159l1,model:=m159l1 F F })]
theorem ok159l1(F:Nat)(fr:Frm)(hn:(cx159 F).ntmps=fr.n)(n:Nat):MSound (R:=(Dens sg159.rtys)) Tryz.prog fr (.loop (sub (bodyOf Tryz.f159) [1,0,0,0])) sh159l1 (m159l1 F n) :=
 loop_sound (cx:=cx159 F) (hs:=hs159 F) (js:=hintL []) (outs:=outs159l1) (conf_all _ rfl) (cs159 F) hn mix (m:=fun n=>m159l1 F n) (fun _ _=>rfl) (fun n x K=>by kernel_rfl) (hok_of (l:=[]) (by kernel_rfl) obl_nil) n
theorem s159(F:Nat):CSound Tryz.prog 159 (con159 F) :=
 fn_sound (fn:=Tryz.f159) (code:=(bodyOf Tryz.f159)) (cx:=cx159 F) (hs:=hs159 F) (js:=hintL []) Tryz.func159 (by kernel_rfl) (by kernel_rfl) (conf_all _ rfl) (cs159 F) mix (by kernel_rfl) (by kernel_rfl) (fun fr hn=>(hok_of (l:=[((.loop (sub (bodyOf Tryz.f159) [1,0,0,0])),{ sh:=sh159l1,model:=m159l1 F F })]) (by kernel_rfl) (obl_cons (ok159l1 F fr hn F) obl_nil))) (fun x=>by kernel_rfl)
def sg159c:Sig:={ modes:=[.con 49],sh:=[(0,.own 0 (.int .u64) 49)],keeps:=false,fresh:=some (0,49),rtys:=[(.slice (.int .u64))] }
def con159c(F:Nat):Contract:=mkCon sg159c fun x=>ref02_trimc F x.1
def cx159c(F:Nat):Cx:={ types:=tys,call:=callsL [],own:=[2,19],ntmps:=(0,21) }
theorem cs159c(F:Nat):∀ f c,(cx159c F).call f=some c→CMet Tryz.prog f c:=callsL_sound calls_nil
def sh159cl1:Shape:=[(0,.own 0 (.int .u64) 49)]
def sh159cl1o0:Shape:=[(0,.own 0 (.int .u64) 49)]
def outs159cl1:Outs:=[(2,sh159cl1o0)]
def m159cl1(F:Nat)(n:Nat){R:Type}(x:Shape.den sh159cl1)(K:Ex→St→Option R):Option R:=ref02_trimc_l1 F (fun y0=>K (.exit 0) (enc sh159cl1o0 (y0,()))) n x.1
def hs159c(F:Nat):Nat→Option (Hint (Dens sg159c.rtys)):=hintL [(1,{ sh:=sh159cl1,model:=m159cl1 F F })]
def js159c(F:Nat):Nat→Option (Hint (Dens sg159c.rtys)):=hintL []
theorem ok159cl1(F:Nat)(fr:Frm)(hn:(cx159c F).ntmps=fr.n)(n:Nat):MSound (R:=(Dens sg159c.rtys)) Tryz.prog fr (.loop (sub (bodyOf Tryz.f159) [1,0,0,0])) sh159cl1 (m159cl1 F n) :=
 loop_sound (cx:=cx159c F) (hs:=hs159c F) (js:=js159c F) (outs:=outs159cl1) (conf_all _ rfl) (cs159c F) hn mix (m:=fun n=>m159cl1 F n) (fun _ _=>rfl) (fun n x K=>by kernel_rfl) (hok_of (l:=[]) (by kernel_rfl) obl_nil) n
theorem s159c(F:Nat):CSound Tryz.prog 159 (con159c F) :=
 fn_sound (fn:=Tryz.f159) (code:=(bodyOf Tryz.f159)) (cx:=cx159c F) (hs:=hs159c F) (js:=js159c F) Tryz.func159 (by kernel_rfl) (by kernel_rfl) (conf_all _ rfl) (cs159c F) mix (by kernel_rfl) (by kernel_rfl) (fun fr hn=>(hok_of (l:=[((.loop (sub (bodyOf Tryz.f159) [1,0,0,0])),{ sh:=sh159cl1,model:=m159cl1 F F })]) (by kernel_rfl) (obl_cons (ok159cl1 F fr hn F) obl_nil))) (fun x=>by kernel_rfl)
def sg122:Sig:={ modes:=[.ro],sh:=[(0,.d tyV)],keeps:=false,fresh:=none,rtys:=[(.slice (.int .u64))] }
def con122(F:Nat):Contract:=mkCon sg122 fun x=>ref02_of F x.1
def cx122(F:Nat):Cx:={ types:=tys,call:=callsL [(159,con159 F)],own:=[2,3],ntmps:=(0,8) }
theorem cs122(F:Nat):∀ f c,(cx122 F).call f=some c→CMet Tryz.prog f c:=callsL_sound (calls_cons (s159 F) calls_nil)
theorem s122(F:Nat):CSound Tryz.prog 122 (con122 F) :=
 fn_sound (fn:=Tryz.f122) (code:=(bodyOf Tryz.f122)) (cx:=cx122 F) (hs:=hintL []) (js:=hintL []) Tryz.func122 (by kernel_rfl) (by kernel_rfl) (conf_all _ rfl) (cs122 F) mix (by kernel_rfl) (by kernel_rfl) (fun fr hn=>(hok_of (l:=[]) (by kernel_rfl) obl_nil)) (fun x=>by kernel_rfl)
def sg89:Sig:={ modes:=[.ro],sh:=[(0,.d tyV)],keeps:=true,fresh:=none,rtys:=[.bool] }
def con89(F:Nat):Contract:=mkCon sg89 fun x=>ref02_Valid F x.1
def cx89(F:Nat):Cx:={ types:=tys,call:=callsL [(122,con122 F)],own:=[],ntmps:=(0,12) }
theorem cs89(F:Nat):∀ f c,(cx89 F).call f=some c→CMet Tryz.prog f c:=callsL_sound (calls_cons (s122 F) calls_nil)
theorem s89(F:Nat):CSound Tryz.prog 89 (con89 F) :=
 fn_sound (fn:=Tryz.f89) (code:=(bodyOf Tryz.f89)) (cx:=cx89 F) (hs:=hintL []) (js:=hintL []) Tryz.func89 (by kernel_rfl) (by kernel_rfl) (conf_all _ rfl) (cs89 F) mix (by kernel_rfl) (by kernel_rfl) (fun fr hn=>(hok_of (l:=[]) (by kernel_rfl) obl_nil)) (fun x=>by kernel_rfl)
def sg90:Sig:={ modes:=[.ro],sh:=[(0,.d tyV)],keeps:=true,fresh:=none,rtys:=[(.int .i64)] }
def con90(F:Nat):Contract:=mkCon sg90 fun x=>ref02_Sign F x.1
def cx90(F:Nat):Cx:={ types:=tys,call:=callsL [(122,con122 F)],own:=[],ntmps:=(0,9) }
theorem cs90(F:Nat):∀ f c,(cx90 F).call f=some c→CMet Tryz.prog f c:=callsL_sound (calls_cons (s122 F) calls_nil)
theorem s90(F:Nat):CSound Tryz.prog 90 (con90 F) :=
 fn_sound (fn:=Tryz.f90) (code:=(bodyOf Tryz.f90)) (cx:=cx90 F) (hs:=hintL []) (js:=hintL []) Tryz.func90 (by kernel_rfl) (by kernel_rfl) (conf_all _ rfl) (cs90 F) mix (by kernel_rfl) (by kernel_rfl) (fun fr hn=>(hok_of (l:=[]) (by kernel_rfl) obl_nil)) (fun x=>by kernel_rfl)
def sg91:Sig:={ modes:=[.ro],sh:=[(0,.d tyV)],keeps:=true,fresh:=none,rtys:=[.bool] }
def con91(F:Nat):Contract:=mkCon sg91 fun x=>ref03_small F x.1
def cx91(F:Nat):Cx:={ types:=tys,call:=callsL [],own:=[],ntmps:=(0,19) }
theorem cs91(F:Nat):∀ f c,(cx91 F).call f=some c→CMet Tryz.prog f c:=callsL_sound calls_nil
theorem s91(F:Nat):CSound Tryz.prog 91 (con91 F) :=
 fn_sound (fn:=Tryz.f91) (code:=(bodyOf Tryz.f91)) (cx:=cx91 F) (hs:=hintL []) (js:=hintL []) Tryz.func91 (by kernel_rfl) (by kernel_rfl) (conf_all _ rfl) (cs91 F) mix (by kernel_rfl) (by kernel_rfl) (fun fr hn=>(hok_of (l:=[]) (by kernel_rfl) obl_nil)) (fun x=>by kernel_rfl)
def sg93:Sig:={ modes:=[.ro],sh:=[(0,.d tyV)],keeps:=true,fresh:=none,rtys:=[tyV] }
def con93(F:Nat):Contract:=mkCon sg93 fun x=>ref03_abs F x.1
def cx93(F:Nat):Cx:={ types:=tys,call:=callsL [],own:=[],ntmps:=(0,5) }
theorem cs93(F:Nat):∀ f c,(cx93 F).call f=some c→CMet Tryz.prog f c:=callsL_sound calls_nil
theorem s93(F:Nat):CSound Tryz.prog 93 (con93 F) :=
 fn_sound (fn:=Tryz.f93) (code:=(bodyOf Tryz.f93)) (cx:=cx93 F) (hs:=hintL []) (js:=hintL []) Tryz.func93 (by kernel_rfl) (by kernel_rfl) (conf_all _ rfl) (cs93 F) mix (by kernel_rfl) (by kernel_rfl) (fun fr hn=>(hok_of (l:=[]) (by kernel_rfl) obl_nil)) (fun x=>by kernel_rfl)
def sg119:Sig:={ modes:=[.ro],sh:=[(0,.d tyV)],keeps:=true,fresh:=none,rtys:=[tyV] }
def con119(F:Nat):Contract:=mkCon sg119 fun x=>ref02_clean F x.1
def cx119(F:Nat):Cx:={ types:=tys,call:=callsL [(89,con89 F)],own:=[],ntmps:=(0,8) }
theorem cs119(F:Nat):∀ f c,(cx119 F).call f=some c→CMet Tryz.prog f c:=callsL_sound (calls_cons (s89 F) calls_nil)
theorem s119(F:Nat):CSound Tryz.prog 119 (con119 F) :=
 fn_sound (fn:=Tryz.f119) (code:=(bodyOf Tryz.f119)) (cx:=cx119 F) (hs:=hintL []) (js:=hintL []) Tryz.func119 (by kernel_rfl) (by kernel_rfl) (conf_all _ rfl) (cs119 F) mix (by kernel_rfl) (by kernel_rfl) (fun fr hn=>(hok_of (l:=[]) (by kernel_rfl) obl_nil)) (fun x=>by kernel_rfl)
def sg131:Sig:={ modes:=[.ro],sh:=[(0,.d tyV)],keeps:=true,fresh:=none,rtys:=[(.int .u64),.bool] }
def con131(F:Nat):Contract:=mkCon sg131 fun x=>ref02_Unsigned F x.1
def cx131(F:Nat):Cx:={ types:=tys,call:=callsL [(119,con119 F),(122,con122 F)],own:=[],ntmps:=(0,19) }
theorem cs131(F:Nat):∀ f c,(cx131 F).call f=some c→CMet Tryz.prog f c:=callsL_sound (calls_cons (s119 F) (calls_cons (s122 F) calls_nil))
theorem s131(F:Nat):CSound Tryz.prog 131 (con131 F) :=
 fn_sound (fn:=Tryz.f131) (code:=(bodyOf Tryz.f131)) (cx:=cx131 F) (hs:=hintL []) (js:=hintL []) Tryz.func131 (by kernel_rfl) (by kernel_rfl) (conf_all _ rfl) (cs131 F) mix (by kernel_rfl) (by kernel_rfl) (fun fr hn=>(hok_of (l:=[]) (by kernel_rfl) obl_nil)) (fun x=>by kernel_rfl)
def sg67:Sig:={ modes:=[.ro],sh:=[(0,.d (.int .u64))],keeps:=true,fresh:=none,rtys:=[tyV] }
def con67(F:Nat):Contract:=mkCon sg67 fun x=>ref02_OfUnsigned F x.1
def cx67(F:Nat):Cx:={ types:=tys,call:=callsL [],own:=[],ntmps:=(0,6) }
theorem cs67(F:Nat):∀ f c,(cx67 F).call f=some c→CMet Tryz.prog f c:=callsL_sound calls_nil
theorem s67(F:Nat):CSound Tryz.prog 67 (con67 F) :=
 fn_sound (fn:=Tryz.f67) (code:=(bodyOf Tryz.f67)) (cx:=cx67 F) (hs:=hintL []) (js:=hintL []) Tryz.func67 (by kernel_rfl) (by kernel_rfl) (conf_all _ rfl) (cs67 F) mix (by kernel_rfl) (by kernel_rfl) (fun fr hn=>(hok_of (l:=[]) (by kernel_rfl) obl_nil)) (fun x=>by kernel_rfl)
def sg192:Sig:={ modes:=[.ro],sh:=[(0,.d (.int .u64))],keeps:=true,fresh:=none,rtys:=[(.int .i64)] }
def con192(F:Nat):Contract:=mkCon sg192 fun x=>bits_LeadingZeros64 F x.1
def cx192(F:Nat):Cx:={ types:=tys,call:=callsL [(166,con166 F)],own:=[],ntmps:=(0,6) }
theorem cs192(F:Nat):∀ f c,(cx192 F).call f=some c→CMet Tryz.prog f c:=callsL_sound (calls_cons (s166 F) calls_nil)
theorem s192(F:Nat):CSound Tryz.prog 192 (con192 F) :=
 fn_sound (fn:=Tryz.f192) (code:=(bodyOf Tryz.f192)) (cx:=cx192 F) (hs:=hintL []) (js:=hintL []) Tryz.func192 (by kernel_rfl) (by kernel_rfl) (conf_all _ rfl) (cs192 F) mix (by kernel_rfl) (by kernel_rfl) (fun fr hn=>(hok_of (l:=[]) (by kernel_rfl) obl_nil)) (fun x=>by kernel_rfl)
def sg182:Sig:={ modes:=[.ro,.ro,.ro],sh:=[(0,.d (.int .u64)),(1,.d (.int .u64)),(2,.d (.int .u64))],keeps:=true,fresh:=none,rtys:=[(.int .u64),(.int .u64)] }
def con182(F:Nat):Contract:=mkCon sg182 fun x=>bits_Div64 F x.1 x.2.1 x.2.2.1
def cx182(F:Nat):Cx:={ types:=tys,call:=callsL [(192,con192 F)],own:=[],ntmps:=(0,135) }
theorem cs182(F:Nat):∀ f c,(cx182 F).call f=some c→CMet Tryz.prog f c:=callsL_sound (calls_cons (s192 F) calls_nil)
def sh182l17:Shape:=[(2,.d (.int .u64)),(8,.d (.int .u64)),(9,.d (.int .u64)),(10,.d (.int .u64)),(11,.d (.int .u64)),(13,.d (.int .u64)),(14,.d (.int .u64)),(15,.d (.int .u64)),(16,.d (.int .u64))]
def sh182l17o0:Shape:=[(2,.d (.int .u64)),(8,.d (.int .u64)),(9,.d (.int .u64)),(10,.d (.int .u64)),(11,.d (.int .u64)),(13,.d (.int .u64)),(14,.d (.int .u64)),(15,.d (.int .u64))]
def outs182l17:Outs:=[(2,sh182l17o0)]
def m182l17(F:Nat)(n:Nat){R:Type}(x:Shape.den sh182l17)(K:Ex→St→Option R):Option R:=bits_Div64_l17 F (fun y2 y8 y9 y10 y11 y13 y14 y15=>K (.exit 0) (enc sh182l17o0 (y2,y8,y9,y10,y11,y13,y14,y15,()))) n x.1 x.2.1 x.2.2.1 x.2.2.2.1 x.2.2.2.2.1 x.2.2.2.2.2.1 x.2.2.2.2.2.2.1 x.2.2.2.2.2.2.2.1 x.2.2.2.2.2.2.2.2.1
def sh182l24:Shape:=[(2,.d (.int .u64)),(8,.d (.int .u64)),(9,.d (.int .u64)),(10,.d (.int .u64)),(14,.d (.int .u64)),(15,.d (.int .u64)),(16,.d (.int .u64)),(17,.d (.int .u64)),(18,.d (.int .u64))]
def sh182l24o2:Shape:=[(2,.d (.int .u64)),(8,.d (.int .u64)),(14,.d (.int .u64)),(15,.d (.int .u64)),(17,.d (.int .u64)),(18,.d (.int .u64))]
def outs182l24:Outs:=[(4,sh182l24o2)]
def m182l24(F:Nat)(n:Nat){R:Type}(x:Shape.den sh182l24)(K:Ex→St→Option R):Option R:=bits_Div64_l24 F (fun y2 y8 y14 y15 y17 y18=>K (.exit 2) (enc sh182l24o2 (y2,y8,y14,y15,y17,y18,()))) n x.1 x.2.1 x.2.2.1 x.2.2.2.1 x.2.2.2.2.1 x.2.2.2.2.2.1 x.2.2.2.2.2.2.1 x.2.2.2.2.2.2.2.1 x.2.2.2.2.2.2.2.2.1
def hs182(F:Nat):Nat→Option (Hint (Dens sg182.rtys)):=hintL [(17,{ sh:=sh182l17,model:=m182l17 F F }),(24,{ sh:=sh182l24,model:=m182l24 F F })]
theorem ok182l17(F:Nat)(fr:Frm)(hn:(cx182 F).ntmps=fr.n)(n:Nat):MSound (R:=(Dens sg182.rtys)) Tryz.prog fr (.loop (sub (bodyOf Tryz.f182) [1,1,1,1,1,1,1,1,1,1,1,1,1,1,0,0,0])) sh182l17 (m182l17 F n) :=
 loop_sound (cx:=cx182 F) (hs:=hs182 F) (js:=hintL []) (outs:=outs182l17) (conf_all _ rfl) (cs182 F) hn mix (m:=fun n=>m182l17 F n) (fun _ _=>rfl) (fun n x K=>by kernel_rfl) (hok_of (l:=[]) (by kernel_rfl) obl_nil) n
theorem ok182l24(F:Nat)(fr:Frm)(hn:(cx182 F).ntmps=fr.n)(n:Nat):MSound (R:=(Dens sg182.rtys)) Tryz.prog fr (.loop (sub (bodyOf Tryz.f182) [1,1,1,1,1,1,1,1,1,1,1,1,1,1,1,1,1,1,0,0,0])) sh182l24 (m182l24 F n) :=
 loop_sound (cx:=cx182 F) (hs:=hs182 F) (js:=hintL []) (outs:=outs182l24) (conf_all _ rfl) (cs182 F) hn mix (m:=fun n=>m182l24 F n) (fun _ _=>rfl) (fun n x K=>by kernel_rfl) (hok_of (l:=[]) (by kernel_rfl) obl_nil) n
theorem s182(F:Nat):CSound Tryz.prog 182 (con182 F) :=
 fn_sound (fn:=Tryz.f182) (code:=(bodyOf Tryz.f182)) (cx:=cx182 F) (hs:=hs182 F) (js:=hintL []) Tryz.func182 (by kernel_rfl) (by kernel_rfl) (conf_all _ rfl) (cs182 F) mix (by kernel_rfl) (by kernel_rfl) (fun fr hn=>(hok_of (l:=[((.loop (sub (bodyOf Tryz.f182) [1,1,1,1,1,1,1,1,1,1,1,1,1,1,0,0,0])),{ sh:=sh182l17,model:=m182l17 F F }),((.loop (sub (bodyOf Tryz.f182) [1,1,1,1,1,1,1,1,1,1,1,1,1,1,1,1,1,1,0,0,0])),{ sh:=sh182l24,model:=m182l24 F F })]) (by kernel_rfl) (obl_cons (ok182l17 F fr hn F) (obl_cons (ok182l24 F fr hn F) obl_nil)))) (fun x=>by kernel_rfl)
def sg183:Sig:={ modes:=[.ro],sh:=[(0,.d (.slice (.int .u64)))],keeps:=true,fresh:=none,rtys:=[(.int .i64)] }
def con183(F:Nat):Contract:=mkCon sg183 fun x=>ref02_size F x.1
def cx183(F:Nat):Cx:={ types:=tys,call:=callsL [(166,con166 F)],own:=[],ntmps:=(0,18) }
theorem cs183(F:Nat):∀ f c,(cx183 F).call f=some c→CMet Tryz.prog f c:=callsL_sound (calls_cons (s166 F) calls_nil)
theorem s183(F:Nat):CSound Tryz.prog 183 (con183 F) :=
 fn_sound (fn:=Tryz.f183) (code:=(bodyOf Tryz.f183)) (cx:=cx183 F) (hs:=hintL []) (js:=hintL []) Tryz.func183 (by kernel_rfl) (by kernel_rfl) (conf_all _ rfl) (cs183 F) mix (by kernel_rfl) (by kernel_rfl) (fun fr hn=>(hok_of (l:=[]) (by kernel_rfl) obl_nil)) (fun x=>by kernel_rfl)
def sg184:Sig:={ modes:=[.ro,.ro],sh:=[(0,.d (.slice (.int .u64))),(1,.d (.int .i64))],keeps:=false,fresh:=some (0,49),rtys:=[(.slice (.int .u64))] }
def con184(F:Nat):Contract:=mkCon sg184 fun x=>ref02_up F x.1 x.2.1
def cx184(F:Nat):Cx:={ types:=tys,call:=callsL [(159,con159c F)],own:=[4,13,60],ntmps:=(0,61) }
theorem cs184(F:Nat):∀ f c,(cx184 F).call f=some c→CMet Tryz.prog f c:=callsL_sound (calls_cons (s159c F) calls_nil)
def sh184l3:Shape:=[(0,.d (.slice (.int .u64))),(1,.d (.int .i64)),(5,.own 5 (.int .u64) 49),(6,.d (.int .i64))]
def sh184l3o0:Shape:=[(5,.own 5 (.int .u64) 49)]
def outs184l3:Outs:=[(2,sh184l3o0)]
def m184l3(F:Nat)(n:Nat){R:Type}(x:Shape.den sh184l3)(K:Ex→St→Option R):Option R:=ref02_up_l3 F (fun y5=>K (.exit 0) (enc sh184l3o0 (y5,()))) n x.1 x.2.1 x.2.2.1 x.2.2.2.1
def hs184(F:Nat):Nat→Option (Hint (Dens sg184.rtys)):=hintL [(3,{ sh:=sh184l3,model:=m184l3 F F })]
theorem ok184l3(F:Nat)(fr:Frm)(hn:(cx184 F).ntmps=fr.n)(n:Nat):MSound (R:=(Dens sg184.rtys)) Tryz.prog fr (.loop (sub (bodyOf Tryz.f184) [1,1,0,1,0,0])) sh184l3 (m184l3 F n) :=
 loop_sound (cx:=cx184 F) (hs:=hs184 F) (js:=hintL []) (outs:=outs184l3) (conf_all _ rfl) (cs184 F) hn mix (m:=fun n=>m184l3 F n) (fun _ _=>rfl) (fun n x K=>by kernel_rfl) (hok_of (l:=[]) (by kernel_rfl) obl_nil) n
theorem s184(F:Nat):CSound Tryz.prog 184 (con184 F) :=
 fn_sound (fn:=Tryz.f184) (code:=(bodyOf Tryz.f184)) (cx:=cx184 F) (hs:=hs184 F) (js:=hintL []) Tryz.func184 (by kernel_rfl) (by kernel_rfl) (conf_all _ rfl) (cs184 F) mix (by kernel_rfl) (by kernel_rfl) (fun fr hn=>(hok_of (l:=[((.loop (sub (bodyOf Tryz.f184) [1,1,0,1,0,0])),{ sh:=sh184l3,model:=m184l3 F F })]) (by kernel_rfl) (obl_cons (ok184l3 F fr hn F) obl_nil))) (fun x=>by kernel_rfl)
def sg141:Sig:={ modes:=[.ro,.ro],sh:=[(0,.d (.slice (.int .u64))),(1,.d (.slice (.int .u64)))],keeps:=true,fresh:=none,rtys:=[(.int .i64)] }
def con141(F:Nat):Contract:=mkCon sg141 fun x=>ref02_compare F x.1 x.2.1
def cx141(F:Nat):Cx:={ types:=tys,call:=callsL [],own:=[],ntmps:=(0,41) }
theorem cs141(F:Nat):∀ f c,(cx141 F).call f=some c→CMet Tryz.prog f c:=callsL_sound calls_nil
def sh141l6:Shape:=[(0,.d (.slice (.int .u64))),(1,.d (.slice (.int .u64))),(5,.d (.int .i64))]
def sh141l6o0:Shape:=[]
def sh141l6oret:Shape:=[(4,.d (.int .i64))]
def outs141l6:Outs:=[(2,sh141l6o0),(1,sh141l6oret)]
def m141l6(F:Nat)(n:Nat){R:Type}(x:Shape.den sh141l6)(K:Ex→St→Option R):Option R:=ref02_compare_l6 F (K (.exit 0) (enc sh141l6o0 (()))) (fun y4=>K .ret (enc sh141l6oret (y4,()))) n x.1 x.2.1 x.2.2.1
def hs141(F:Nat):Nat→Option (Hint (Dens sg141.rtys)):=hintL [(6,{ sh:=sh141l6,model:=m141l6 F F })]
theorem ok141l6(F:Nat)(fr:Frm)(hn:(cx141 F).ntmps=fr.n)(n:Nat):MSound (R:=(Dens sg141.rtys)) Tryz.prog fr (.loop (sub (bodyOf Tryz.f141) [1,1,0,1,0,0])) sh141l6 (m141l6 F n) :=
 loop_sound (cx:=cx141 F) (hs:=hs141 F) (js:=hintL []) (outs:=outs141l6) (conf_all _ rfl) (cs141 F) hn mix (m:=fun n=>m141l6 F n) (fun _ _=>rfl) (fun n x K=>by kernel_rfl) (hok_of (l:=[]) (by kernel_rfl) obl_nil) n
theorem s141(F:Nat):CSound Tryz.prog 141 (con141 F) :=
 fn_sound (fn:=Tryz.f141) (code:=(bodyOf Tryz.f141)) (cx:=cx141 F) (hs:=hs141 F) (js:=hintL []) Tryz.func141 (by kernel_rfl) (by kernel_rfl) (conf_all _ rfl) (cs141 F) mix (by kernel_rfl) (by kernel_rfl) (fun fr hn=>(hok_of (l:=[((.loop (sub (bodyOf Tryz.f141) [1,1,0,1,0,0])),{ sh:=sh141l6,model:=m141l6 F F })]) (by kernel_rfl) (obl_cons (ok141l6 F fr hn F) obl_nil))) (fun x=>by kernel_rfl)
def sg164:Sig:={ modes:=[.ro,.ro],sh:=[(0,.d (.slice (.int .u64))),(1,.d (.slice (.int .u64)))],keeps:=false,fresh:=none,rtys:=[(.slice (.int .u64))] }
def con164(F:Nat):Contract:=mkCon sg164 fun x=>ref02_sub F x.1 x.2.1
def cx164(F:Nat):Cx:={ types:=tys,call:=callsL [(186,con186 F),(159,con159 F)],own:=[4,9],ntmps:=(0,41) }
theorem cs164(F:Nat):∀ f c,(cx164 F).call f=some c→CMet Tryz.prog f c:=callsL_sound (calls_cons_ext (s186 F) (calls_cons (s159 F) calls_nil))
def sh164j9:Shape:=[(1,.d (.slice (.int .u64))),(5,.own 5 (.int .u64) 49),(6,.d (.int .u64)),(7,.d (.int .i64)),(8,.d (.int .u64))]
def sh164j9on:Shape:=[(1,.d (.slice (.int .u64))),(5,.own 5 (.int .u64) 49),(6,.d (.int .u64)),(7,.d (.int .i64))]
def outs164j9:Outs:=[(0,sh164j9on)]
def m164j9(F:Nat){R:Type}(x:Shape.den sh164j9)(K:Ex→St→Option R):Option R:=ref02_sub_j9 F (fun y1 y5 y6 y7=>K .normal (enc sh164j9on (y1,y5,y6,y7,()))) x.1 x.2.1 x.2.2.1 x.2.2.2.1 x.2.2.2.2.1
def sh164l4:Shape:=[(1,.d (.slice (.int .u64))),(5,.own 5 (.int .u64) 49),(6,.d (.int .u64)),(7,.d (.int .i64))]
def sh164l4o0:Shape:=[(5,.own 5 (.int .u64) 49)]
def outs164l4:Outs:=[(2,sh164l4o0)]
def m164l4(F:Nat)(n:Nat){R:Type}(x:Shape.den sh164l4)(K:Ex→St→Option R):Option R:=ref02_sub_l4 F (fun y5=>K (.exit 0) (enc sh164l4o0 (y5,()))) n x.1 x.2.1 x.2.2.1 x.2.2.2.1
def hs164(F:Nat):Nat→Option (Hint (Dens sg164.rtys)):=hintL [(4,{ sh:=sh164l4,model:=m164l4 F F })]
def js164(F:Nat):Nat→Option (Hint (Dens sg164.rtys)):=hintL [(9,{ sh:=sh164j9,model:=m164j9 F })]
theorem ok164j9(F:Nat)(fr:Frm)(hn:(cx164 F).ntmps=fr.n):MSound (R:=(Dens sg164.rtys)) Tryz.prog fr (sub (bodyOf Tryz.f164) [1,1,1,0,1,0,0,1,0,0,1,1]) sh164j9 (m164j9 F) :=
 join_sound (cx:=cx164 F) (hs:=hs164 F) (js:=js164 F) (outs:=outs164j9) (conf_all _ rfl) (cs164 F) hn mix (fun x K=>by kernel_rfl) (hok_of (l:=[]) (by kernel_rfl) obl_nil)
theorem ok164l4(F:Nat)(fr:Frm)(hn:(cx164 F).ntmps=fr.n)(n:Nat):MSound (R:=(Dens sg164.rtys)) Tryz.prog fr (.loop (sub (bodyOf Tryz.f164) [1,1,1,0,1,0,0])) sh164l4 (m164l4 F n) :=
 loop_sound (cx:=cx164 F) (hs:=hs164 F) (js:=js164 F) (outs:=outs164l4) (conf_all _ rfl) (cs164 F) hn mix (m:=fun n=>m164l4 F n) (fun _ _=>rfl) (fun n x K=>by kernel_rfl) (hok_of (l:=[((sub (bodyOf Tryz.f164) [1,1,1,0,1,0,0,1,0,0,1,1]),{ sh:=sh164j9,model:=m164j9 F })]) (by kernel_rfl) (obl_cons (ok164j9 F fr hn) obl_nil)) n
theorem s164(F:Nat):CSound Tryz.prog 164 (con164 F) :=
 fn_sound (fn:=Tryz.f164) (code:=(bodyOf Tryz.f164)) (cx:=cx164 F) (hs:=hs164 F) (js:=js164 F) Tryz.func164 (by kernel_rfl) (by kernel_rfl) (conf_all _ rfl) (cs164 F) mix (by kernel_rfl) (by kernel_rfl) (fun fr hn=>(hok_of (l:=[((.loop (sub (bodyOf Tryz.f164) [1,1,1,0,1,0,0])),{ sh:=sh164l4,model:=m164l4 F F })]) (by kernel_rfl) (obl_cons (ok164l4 F fr hn F) obl_nil))) (fun x=>by kernel_rfl)
def sg164w:Sig:={ modes:=[.ro,.wr 49],sh:=[(0,.d (.slice (.int .u64))),(1,.own 1 (.int .u64) 49)],keeps:=false,fresh:=none,rtys:=[(.slice (.int .u64)),(.slice (.int .u64))] }
def con164w(F:Nat):Contract:=mkCon sg164w fun x=>ref02_subw F x.1 x.2.1
def cx164w(F:Nat):Cx:={ types:=tys,call:=callsL [(186,con186 F),(159,con159 F)],own:=[4,9],ntmps:=(2,41) }
theorem cs164w(F:Nat):∀ f c,(cx164w F).call f=some c→CMet Tryz.prog f c:=callsL_sound (calls_cons_ext (s186 F) (calls_cons (s159 F) calls_nil))
def sh164wj9:Shape:=[(1,.own 1 (.int .u64) 49),(5,.own 5 (.int .u64) 49),(6,.d (.int .u64)),(7,.d (.int .i64)),(8,.d (.int .u64))]
def sh164wj9on:Shape:=[(1,.own 1 (.int .u64) 49),(5,.own 5 (.int .u64) 49),(6,.d (.int .u64)),(7,.d (.int .i64))]
def outs164wj9:Outs:=[(0,sh164wj9on)]
def m164wj9(F:Nat){R:Type}(x:Shape.den sh164wj9)(K:Ex→St→Option R):Option R:=ref02_subw_j9 F (fun y1 y5 y6 y7=>K .normal (enc sh164wj9on (y1,y5,y6,y7,()))) x.1 x.2.1 x.2.2.1 x.2.2.2.1 x.2.2.2.2.1
def sh164wl4:Shape:=[(1,.own 1 (.int .u64) 49),(5,.own 5 (.int .u64) 49),(6,.d (.int .u64)),(7,.d (.int .i64))]
def sh164wl4o0:Shape:=[(1,.own 1 (.int .u64) 49),(5,.own 5 (.int .u64) 49)]
def outs164wl4:Outs:=[(2,sh164wl4o0)]
def m164wl4(F:Nat)(n:Nat){R:Type}(x:Shape.den sh164wl4)(K:Ex→St→Option R):Option R:=ref02_subw_l4 F (fun y1 y5=>K (.exit 0) (enc sh164wl4o0 (y1,y5,()))) n x.1 x.2.1 x.2.2.1 x.2.2.2.1
def hs164w(F:Nat):Nat→Option (Hint (Dens sg164w.rtys)):=hintL [(4,{ sh:=sh164wl4,model:=m164wl4 F F })]
def js164w(F:Nat):Nat→Option (Hint (Dens sg164w.rtys)):=hintL [(9,{ sh:=sh164wj9,model:=m164wj9 F })]
theorem ok164wj9(F:Nat)(fr:Frm)(hn:(cx164w F).ntmps=fr.n):MSound (R:=(Dens sg164w.rtys)) Tryz.prog fr (sub (bodyOf Tryz.f164) [1,1,1,0,1,0,0,1,0,0,1,1]) sh164wj9 (m164wj9 F) :=
 join_sound (cx:=cx164w F) (hs:=hs164w F) (js:=js164w F) (outs:=outs164wj9) (conf_all _ rfl) (cs164w F) hn mix (fun x K=>by kernel_rfl) (hok_of (l:=[]) (by kernel_rfl) obl_nil)
theorem ok164wl4(F:Nat)(fr:Frm)(hn:(cx164w F).ntmps=fr.n)(n:Nat):MSound (R:=(Dens sg164w.rtys)) Tryz.prog fr (.loop (sub (bodyOf Tryz.f164) [1,1,1,0,1,0,0])) sh164wl4 (m164wl4 F n) :=
 loop_sound (cx:=cx164w F) (hs:=hs164w F) (js:=js164w F) (outs:=outs164wl4) (conf_all _ rfl) (cs164w F) hn mix (m:=fun n=>m164wl4 F n) (fun _ _=>rfl) (fun n x K=>by kernel_rfl) (hok_of (l:=[((sub (bodyOf Tryz.f164) [1,1,1,0,1,0,0,1,0,0,1,1]),{ sh:=sh164wj9,model:=m164wj9 F })]) (by kernel_rfl) (obl_cons (ok164wj9 F fr hn) obl_nil)) n
theorem s164w(F:Nat):CSound Tryz.prog 164 (con164w F) :=
 fn_sound (fn:=Tryz.f164) (code:=(bodyOf Tryz.f164)) (cx:=cx164w F) (hs:=hs164w F) (js:=js164w F) Tryz.func164 (by kernel_rfl) (by kernel_rfl) (conf_all _ rfl) (cs164w F) mix (by kernel_rfl) (by kernel_rfl) (fun fr hn=>(hok_of (l:=[((.loop (sub (bodyOf Tryz.f164) [1,1,1,0,1,0,0])),{ sh:=sh164wl4,model:=m164wl4 F F })]) (by kernel_rfl) (obl_cons (ok164wl4 F fr hn F) obl_nil))) (fun x=>by kernel_rfl)
def sg185:Sig:={ modes:=[.con 49],sh:=[(0,.own 0 (.int .u64) 49)],keeps:=false,fresh:=some (0,49),rtys:=[(.slice (.int .u64))] }
def con185(F:Nat):Contract:=mkCon sg185 fun x=>ref02_half F x.1
def cx185(F:Nat):Cx:={ types:=tys,call:=callsL [(159,con159c F)],own:=[2,34],ntmps:=(0,35) }
theorem cs185(F:Nat):∀ f c,(cx185 F).call f=some c→CMet Tryz.prog f c:=callsL_sound (calls_cons (s159c F) calls_nil)
def sh185l2:Shape:=[(0,.own 0 (.int .u64) 49),(3,.d (.int .i64))]
def sh185l2o0:Shape:=[(0,.own 0 (.int .u64) 49)]
def outs185l2:Outs:=[(2,sh185l2o0)]
def m185l2(F:Nat)(n:Nat){R:Type}(x:Shape.den sh185l2)(K:Ex→St→Option R):Option R:=ref02_half_l2 F (fun y0=>K (.exit 0) (enc sh185l2o0 (y0,()))) n x.1 x.2.1
def hs185(F:Nat):Nat→Option (Hint (Dens sg185.rtys)):=hintL [(2,{ sh:=sh185l2,model:=m185l2 F F })]
theorem ok185l2(F:Nat)(fr:Frm)(hn:(cx185 F).ntmps=fr.n)(n:Nat):MSound (R:=(Dens sg185.rtys)) Tryz.prog fr (.loop (sub (bodyOf Tryz.f185) [1,0,1,0,0])) sh185l2 (m185l2 F n) :=
 loop_sound (cx:=cx185 F) (hs:=hs185 F) (js:=hintL []) (outs:=outs185l2) (conf_all _ rfl) (cs185 F) hn mix (m:=fun n=>m185l2 F n) (fun _ _=>rfl) (fun n x K=>by kernel_rfl) (hok_of (l:=[]) (by kernel_rfl) obl_nil) n
theorem s185(F:Nat):CSound Tryz.prog 185 (con185 F) :=
 fn_sound (fn:=Tryz.f185) (code:=(bodyOf Tryz.f185)) (cx:=cx185 F) (hs:=hs185 F) (js:=hintL []) Tryz.func185 (by kernel_rfl) (by kernel_rfl) (conf_all _ rfl) (cs185 F) mix (by kernel_rfl) (by kernel_rfl) (fun fr hn=>(hok_of (l:=[((.loop (sub (bodyOf Tryz.f185) [1,0,1,0,0])),{ sh:=sh185l2,model:=m185l2 F F })]) (by kernel_rfl) (obl_cons (ok185l2 F fr hn F) obl_nil))) (fun x=>by kernel_rfl)
def sg162:Sig:={ modes:=[.ro,.ro],sh:=[(0,.d (.slice (.int .u64))),(1,.d (.slice (.int .u64)))],keeps:=false,fresh:=none,rtys:=[(.slice (.int .u64)),(.slice (.int .u64))] }
def con162(F:Nat):Contract:=mkCon sg162 fun x=>ref02_divmod F x.1 x.2.1
def cx162(F:Nat):Cx:={ types:=tys,call:=callsL [(182,con182 F),(159,con159 F),(183,con183 F),(184,con184 F),(141,con141 F),(164,con164w F),(185,con185 F)],own:=[4,5,15,46,60,85],ntmps:=(0,89) }
theorem cs162(F:Nat):∀ f c,(cx162 F).call f=some c→CMet Tryz.prog f c:=callsL_sound (calls_cons (s182 F) (calls_cons (s159 F) (calls_cons (s183 F) (calls_cons (s184 F) (calls_cons (s141 F) (calls_cons (s164w F) (calls_cons (s185 F) calls_nil)))))))
def sh162l5:Shape:=[(0,.d (.slice (.int .u64))),(1,.d (.slice (.int .u64))),(6,.own 6 (.int .u64) 49),(7,.d (.int .u64)),(8,.d (.int .i64))]
def sh162l5o0:Shape:=[(6,.own 6 (.int .u64) 49),(7,.d (.int .u64))]
def outs162l5:Outs:=[(2,sh162l5o0)]
def m162l5(F:Nat)(n:Nat){R:Type}(x:Shape.den sh162l5)(K:Ex→St→Option R):Option R:=ref02_divmod_l5 F (fun y6 y7=>K (.exit 0) (enc sh162l5o0 (y6,y7,()))) n x.1 x.2.1 x.2.2.1 x.2.2.2.1 x.2.2.2.2.1
def sh162l15:Shape:=[(6,.own 6 (.int .u64) 49),(9,.d (.slice (.int .u64))),(11,.own 11 (.int .u64) 49),(12,.d (.int .i64))]
def sh162l15o2:Shape:=[(6,.own 6 (.int .u64) 49),(9,.d (.slice (.int .u64)))]
def outs162l15:Outs:=[(4,sh162l15o2)]
def m162l15(F:Nat)(n:Nat){R:Type}(x:Shape.den sh162l15)(K:Ex→St→Option R):Option R:=ref02_divmod_l15 F (fun y6 y9=>K (.exit 2) (enc sh162l15o2 (y6,y9,()))) n x.1 x.2.1 x.2.2.1 x.2.2.2.1
def hs162(F:Nat):Nat→Option (Hint (Dens sg162.rtys)):=hintL [(5,{ sh:=sh162l5,model:=m162l5 F F }),(15,{ sh:=sh162l15,model:=m162l15 F F })]
theorem ok162l5(F:Nat)(fr:Frm)(hn:(cx162 F).ntmps=fr.n)(n:Nat):MSound (R:=(Dens sg162.rtys)) Tryz.prog fr (.loop (sub (bodyOf Tryz.f162) [1,1,0,1,0,1,0,1,0,0])) sh162l5 (m162l5 F n) :=
 loop_sound (cx:=cx162 F) (hs:=hs162 F) (js:=hintL []) (outs:=outs162l5) (conf_all _ rfl) (cs162 F) hn mix (m:=fun n=>m162l5 F n) (fun _ _=>rfl) (fun n x K=>by kernel_rfl) (hok_of (l:=[]) (by kernel_rfl) obl_nil) n
theorem ok162l15(F:Nat)(fr:Frm)(hn:(cx162 F).ntmps=fr.n)(n:Nat):MSound (R:=(Dens sg162.rtys)) Tryz.prog fr (.loop (sub (bodyOf Tryz.f162) [1,1,1,1,1,1,1,0,1,0,0])) sh162l15 (m162l15 F n) :=
 loop_sound (cx:=cx162 F) (hs:=hs162 F) (js:=hintL []) (outs:=outs162l15) (conf_all _ rfl) (cs162 F) hn mix (m:=fun n=>m162l15 F n) (fun _ _=>rfl) (fun n x K=>by kernel_rfl) (hok_of (l:=[]) (by kernel_rfl) obl_nil) n
theorem s162(F:Nat):CSound Tryz.prog 162 (con162 F) :=
 fn_sound (fn:=Tryz.f162) (code:=(bodyOf Tryz.f162)) (cx:=cx162 F) (hs:=hs162 F) (js:=hintL []) Tryz.func162 (by kernel_rfl) (by kernel_rfl) (conf_all _ rfl) (cs162 F) mix (by kernel_rfl) (by kernel_rfl) (fun fr hn=>(hok_of (l:=[((.loop (sub (bodyOf Tryz.f162) [1,1,0,1,0,1,0,1,0,0])),{ sh:=sh162l5,model:=m162l5 F F }),((.loop (sub (bodyOf Tryz.f162) [1,1,1,1,1,1,1,0,1,0,0])),{ sh:=sh162l15,model:=m162l15 F F })]) (by kernel_rfl) (obl_cons (ok162l5 F fr hn F) (obl_cons (ok162l15 F fr hn F) obl_nil)))) (fun x=>by kernel_rfl)
def sg163:Sig:={ modes:=[.ro,.ro],sh:=[(0,.d (.slice (.int .u64))),(1,.d (.slice (.int .u64)))],keeps:=false,fresh:=none,rtys:=[(.slice (.int .u64))] }
def con163(F:Nat):Contract:=mkCon sg163 fun x=>ref02_add F x.1 x.2.1
def cx163(F:Nat):Cx:={ types:=tys,call:=callsL [(161,con161 F),(159,con159 F)],own:=[4,16],ntmps:=(0,51) }
theorem cs163(F:Nat):∀ f c,(cx163 F).call f=some c→CMet Tryz.prog f c:=callsL_sound (calls_cons_ext (s161 F) (calls_cons (s159 F) calls_nil))
def sh163j11:Shape:=[(1,.d (.slice (.int .u64))),(5,.own 5 (.int .u64) 49),(6,.d (.int .u64)),(7,.d (.int .i64)),(8,.d (.int .u64))]
def sh163j11on:Shape:=[(1,.d (.slice (.int .u64))),(5,.own 5 (.int .u64) 49),(6,.d (.int .u64)),(7,.d (.int .i64))]
def outs163j11:Outs:=[(0,sh163j11on)]
def m163j11(F:Nat){R:Type}(x:Shape.den sh163j11)(K:Ex→St→Option R):Option R:=ref02_add_j11 F (fun y1 y5 y6 y7=>K .normal (enc sh163j11on (y1,y5,y6,y7,()))) x.1 x.2.1 x.2.2.1 x.2.2.2.1 x.2.2.2.2.1
def sh163l6:Shape:=[(1,.d (.slice (.int .u64))),(5,.own 5 (.int .u64) 49),(6,.d (.int .u64)),(7,.d (.int .i64))]
def sh163l6o0:Shape:=[(5,.own 5 (.int .u64) 49),(6,.d (.int .u64))]
def outs163l6:Outs:=[(2,sh163l6o0)]
def m163l6(F:Nat)(n:Nat){R:Type}(x:Shape.den sh163l6)(K:Ex→St→Option R):Option R:=ref02_add_l6 F (fun y5 y6=>K (.exit 0) (enc sh163l6o0 (y5,y6,()))) n x.1 x.2.1 x.2.2.1 x.2.2.2.1
def sh163j3:Shape:=[(0,.d (.slice (.int .u64))),(1,.d (.slice (.int .u64)))]
def sh163j3oret:Shape:=[(4,.d (.slice (.int .u64)))]
def outs163j3:Outs:=[(1,sh163j3oret)]
def m163j3(F:Nat){R:Type}(x:Shape.den sh163j3)(K:Ex→St→Option R):Option R:=ref02_add_j3 F (fun y4=>K .ret (enc sh163j3oret (y4,()))) x.1 x.2.1
def hs163(F:Nat):Nat→Option (Hint (Dens sg163.rtys)):=hintL [(6,{ sh:=sh163l6,model:=m163l6 F F })]
def js163(F:Nat):Nat→Option (Hint (Dens sg163.rtys)):=hintL [(11,{ sh:=sh163j11,model:=m163j11 F }),(3,{ sh:=sh163j3,model:=m163j3 F })]
theorem ok163j11(F:Nat)(fr:Frm)(hn:(cx163 F).ntmps=fr.n):MSound (R:=(Dens sg163.rtys)) Tryz.prog fr (sub (bodyOf Tryz.f163) [1,1,1,1,0,1,0,0,1,0,0,1,1]) sh163j11 (m163j11 F) :=
 join_sound (cx:=cx163 F) (hs:=hs163 F) (js:=js163 F) (outs:=outs163j11) (conf_all _ rfl) (cs163 F) hn mix (fun x K=>by kernel_rfl) (hok_of (l:=[]) (by kernel_rfl) obl_nil)
theorem ok163l6(F:Nat)(fr:Frm)(hn:(cx163 F).ntmps=fr.n)(n:Nat):MSound (R:=(Dens sg163.rtys)) Tryz.prog fr (.loop (sub (bodyOf Tryz.f163) [1,1,1,1,0,1,0,0])) sh163l6 (m163l6 F n) :=
 loop_sound (cx:=cx163 F) (hs:=hs163 F) (js:=js163 F) (outs:=outs163l6) (conf_all _ rfl) (cs163 F) hn mix (m:=fun n=>m163l6 F n) (fun _ _=>rfl) (fun n x K=>by kernel_rfl) (hok_of (l:=[((sub (bodyOf Tryz.f163) [1,1,1,1,0,1,0,0,1,0,0,1,1]),{ sh:=sh163j11,model:=m163j11 F })]) (by kernel_rfl) (obl_cons (ok163j11 F fr hn) obl_nil)) n
theorem ok163j3(F:Nat)(fr:Frm)(hn:(cx163 F).ntmps=fr.n):MSound (R:=(Dens sg163.rtys)) Tryz.prog fr (sub (bodyOf Tryz.f163) [1,1]) sh163j3 (m163j3 F) :=
 join_sound (cx:=cx163 F) (hs:=hs163 F) (js:=js163 F) (outs:=outs163j3) (conf_all _ rfl) (cs163 F) hn mix (fun x K=>by kernel_rfl) (hok_of (l:=[((.loop (sub (bodyOf Tryz.f163) [1,1,1,1,0,1,0,0])),{ sh:=sh163l6,model:=m163l6 F F })]) (by kernel_rfl) (obl_cons (ok163l6 F fr hn F) obl_nil))
theorem s163(F:Nat):CSound Tryz.prog 163 (con163 F) :=
 fn_sound (fn:=Tryz.f163) (code:=(bodyOf Tryz.f163)) (cx:=cx163 F) (hs:=hs163 F) (js:=js163 F) Tryz.func163 (by kernel_rfl) (by kernel_rfl) (conf_all _ rfl) (cs163 F) mix (by kernel_rfl) (by kernel_rfl) (fun fr hn=>(hok_of (l:=[((sub (bodyOf Tryz.f163) [1,1]),{ sh:=sh163j3,model:=m163j3 F })]) (by kernel_rfl) (obl_cons (ok163j3 F fr hn) obl_nil))) (fun x=>by kernel_rfl)
def sg120:Sig:={ modes:=[.ro,.ro],sh:=[(0,.d .bool),(1,.d (.slice (.int .u64)))],keeps:=true,fresh:=none,rtys:=[tyV,.bool] }
def con120(F:Nat):Contract:=mkCon sg120 fun x=>ref02_wide F x.1 x.2.1
def cx120(F:Nat):Cx:={ types:=tys,call:=callsL [(159,con159 F)],own:=[],ntmps:=(0,35) }
theorem cs120(F:Nat):∀ f c,(cx120 F).call f=some c→CMet Tryz.prog f c:=callsL_sound (calls_cons (s159 F) calls_nil)
def sh120l6:Shape:=[(1,.d (.slice (.int .u64))),(4,.box 4 tyV),(6,.box 6 tyV),(7,.d (.int .i64))]
def sh120l6o0:Shape:=[(4,.box 4 tyV),(6,.box 6 tyV)]
def outs120l6:Outs:=[(2,sh120l6o0)]
def m120l6(F:Nat)(n:Nat){R:Type}(x:Shape.den sh120l6)(K:Ex→St→Option R):Option R:=ref02_wide_l6 F (fun y4 y6=>K (.exit 0) (enc sh120l6o0 (y4,y6,()))) n x.1 x.2.1 x.2.2.1 x.2.2.2.1
def sh120j5:Shape:=[(1,.d (.slice (.int .u64))),(4,.box 4 tyV),(6,.box 6 tyV)]
def sh120j5oret:Shape:=[(4,.box 4 tyV),(5,.d .bool)]
def outs120j5:Outs:=[(1,sh120j5oret)]
def m120j5(F:Nat){R:Type}(x:Shape.den sh120j5)(K:Ex→St→Option R):Option R:=ref02_wide_j5 F (fun y4 y5=>K .ret (enc sh120j5oret (y4,y5,()))) x.1 x.2.1 x.2.2.1
def hs120(F:Nat):Nat→Option (Hint (Dens sg120.rtys)):=hintL [(6,{ sh:=sh120l6,model:=m120l6 F F })]
def js120(F:Nat):Nat→Option (Hint (Dens sg120.rtys)):=hintL [(5,{ sh:=sh120j5,model:=m120j5 F })]
theorem ok120l6(F:Nat)(fr:Frm)(hn:(cx120 F).ntmps=fr.n)(n:Nat):MSound (R:=(Dens sg120.rtys)) Tryz.prog fr (.loop (sub (bodyOf Tryz.f120) [1,1,1,1,0,1,0,0])) sh120l6 (m120l6 F n) :=
 loop_sound (cx:=cx120 F) (hs:=hs120 F) (js:=js120 F) (outs:=outs120l6) (conf_all _ rfl) (cs120 F) hn mix (m:=fun n=>m120l6 F n) (fun _ _=>rfl) (fun n x K=>by kernel_rfl) (hok_of (l:=[]) (by kernel_rfl) obl_nil) n
theorem ok120j5(F:Nat)(fr:Frm)(hn:(cx120 F).ntmps=fr.n):MSound (R:=(Dens sg120.rtys)) Tryz.prog fr (sub (bodyOf Tryz.f120) [1,1,1,1]) sh120j5 (m120j5 F) :=
 join_sound (cx:=cx120 F) (hs:=hs120 F) (js:=js120 F) (outs:=outs120j5) (conf_all _ rfl) (cs120 F) hn mix (fun x K=>by kernel_rfl) (hok_of (l:=[((.loop (sub (bodyOf Tryz.f120) [1,1,1,1,0,1,0,0])),{ sh:=sh120l6,model:=m120l6 F F })]) (by kernel_rfl) (obl_cons (ok120l6 F fr hn F) obl_nil))
theorem s120(F:Nat):CSound Tryz.prog 120 (con120 F) :=
 fn_sound (fn:=Tryz.f120) (code:=(bodyOf Tryz.f120)) (cx:=cx120 F) (hs:=hs120 F) (js:=js120 F) Tryz.func120 (by kernel_rfl) (by kernel_rfl) (conf_all _ rfl) (cs120 F) mix (by kernel_rfl) (by kernel_rfl) (fun fr hn=>(hok_of (l:=[((sub (bodyOf Tryz.f120) [1,1,1,1]),{ sh:=sh120j5,model:=m120j5 F })]) (by kernel_rfl) (obl_cons (ok120j5 F fr hn) obl_nil))) (fun x=>by kernel_rfl)
def sg123:Sig:={ modes:=[.ro,.ro],sh:=[(0,.d tyV),(1,.d tyV)],keeps:=true,fresh:=none,rtys:=[tyV,tyV,.bool] }
def con123(F:Nat):Contract:=mkCon sg123 fun x=>ref02_DivMod F x.1 x.2.1
def cx123(F:Nat):Cx:={ types:=tys,call:=callsL [(119,con119 F),(90,con90 F),(122,con122 F),(162,con162 F),(163,con163 F),(164,con164 F),(120,con120 F)],own:=[],ntmps:=(0,61) }
theorem cs123(F:Nat):∀ f c,(cx123 F).call f=some c→CMet Tryz.prog f c:=callsL_sound (calls_cons (s119 F) (calls_cons (s90 F) (calls_cons (s122 F) (calls_cons (s162 F) (calls_cons (s163 F) (calls_cons (s164 F) (calls_cons (s120 F) calls_nil)))))))
def sh123j6:Shape:=[(2,.box 2 tyV),(3,.box 3 tyV),(4,.box 4 tyV),(5,.box 5 tyV),(7,.d (.slice (.int .u64))),(8,.d (.slice (.int .u64))),(32,.d .bool)]
def sh123j6on:Shape:=[(2,.box 2 tyV),(3,.box 3 tyV),(4,.box 4 tyV),(5,.box 5 tyV),(7,.d (.slice (.int .u64))),(8,.d (.slice (.int .u64)))]
def outs123j6:Outs:=[(0,sh123j6on)]
def m123j6(F:Nat){R:Type}(x:Shape.den sh123j6)(K:Ex→St→Option R):Option R:=ref02_DivMod_j6 F (fun y2 y3 y4 y5 y7 y8=>K .normal (enc sh123j6on (y2,y3,y4,y5,y7,y8,()))) x.1 x.2.1 x.2.2.1 x.2.2.2.1 x.2.2.2.2.1 x.2.2.2.2.2.1 x.2.2.2.2.2.2.1
def sh123j7:Shape:=[(2,.box 2 tyV),(3,.box 3 tyV),(4,.box 4 tyV),(5,.box 5 tyV),(7,.d (.slice (.int .u64))),(8,.d (.slice (.int .u64)))]
def sh123j7oret:Shape:=[(4,.box 4 tyV),(5,.box 5 tyV),(6,.d .bool)]
def outs123j7:Outs:=[(1,sh123j7oret)]
def m123j7(F:Nat){R:Type}(x:Shape.den sh123j7)(K:Ex→St→Option R):Option R:=ref02_DivMod_j7 F (fun y4 y5 y6=>K .ret (enc sh123j7oret (y4,y5,y6,()))) x.1 x.2.1 x.2.2.1 x.2.2.2.1 x.2.2.2.2.1 x.2.2.2.2.2.1
def js123(F:Nat):Nat→Option (Hint (Dens sg123.rtys)):=hintL [(6,{ sh:=sh123j6,model:=m123j6 F }),(7,{ sh:=sh123j7,model:=m123j7 F })]
theorem ok123j6(F:Nat)(fr:Frm)(hn:(cx123 F).ntmps=fr.n):MSound (R:=(Dens sg123.rtys)) Tryz.prog fr (sub (bodyOf Tryz.f123) [1,1,1,1,0,1]) sh123j6 (m123j6 F) :=
 join_sound (cx:=cx123 F) (hs:=hintL []) (js:=js123 F) (outs:=outs123j6) (conf_all _ rfl) (cs123 F) hn mix (fun x K=>by kernel_rfl) (hok_of (l:=[]) (by kernel_rfl) obl_nil)
theorem ok123j7(F:Nat)(fr:Frm)(hn:(cx123 F).ntmps=fr.n):MSound (R:=(Dens sg123.rtys)) Tryz.prog fr (sub (bodyOf Tryz.f123) [1,1,1,1,1]) sh123j7 (m123j7 F) :=
 join_sound (cx:=cx123 F) (hs:=hintL []) (js:=js123 F) (outs:=outs123j7) (conf_all _ rfl) (cs123 F) hn mix (fun x K=>by kernel_rfl) (hok_of (l:=[]) (by kernel_rfl) obl_nil)
theorem s123(F:Nat):CSound Tryz.prog 123 (con123 F) :=
 fn_sound (fn:=Tryz.f123) (code:=(bodyOf Tryz.f123)) (cx:=cx123 F) (hs:=hintL []) (js:=js123 F) Tryz.func123 (by kernel_rfl) (by kernel_rfl) (conf_all _ rfl) (cs123 F) mix (by kernel_rfl) (by kernel_rfl) (fun fr hn=>(hok_of (l:=[((sub (bodyOf Tryz.f123) [1,1,1,1,0,1]),{ sh:=sh123j6,model:=m123j6 F }),((sub (bodyOf Tryz.f123) [1,1,1,1,1]),{ sh:=sh123j7,model:=m123j7 F })]) (by kernel_rfl) (obl_cons (ok123j6 F fr hn) (obl_cons (ok123j7 F fr hn) obl_nil)))) (fun x=>by kernel_rfl)
def sg92:Sig:={ modes:=[.ro,.ro],sh:=[(0,.d tyV),(1,.d tyV)],keeps:=true,fresh:=none,rtys:=[tyV] }
def con92(F:Nat):Contract:=mkCon sg92 fun x=>ref03_gcd F x.1 x.2.1
def cx92(F:Nat):Cx:={ types:=tys,call:=callsL [(90,con90 F),(131,con131 F),(67,con67 F),(123,con123 F)],own:=[],ntmps:=(0,47) }
theorem cs92(F:Nat):∀ f c,(cx92 F).call f=some c→CMet Tryz.prog f c:=callsL_sound (calls_cons (s90 F) (calls_cons (s131 F) (calls_cons (s67 F) (calls_cons (s123 F) calls_nil))))
def sh92l5:Shape:=[(4,.box 4 tyV),(5,.d (.int .u64)),(7,.d (.int .u64))]
def sh92l5o2:Shape:=[(4,.box 4 tyV),(5,.d (.int .u64))]
def outs92l5:Outs:=[(4,sh92l5o2)]
def m92l5(F:Nat)(n:Nat){R:Type}(x:Shape.den sh92l5)(K:Ex→St→Option R):Option R:=ref03_gcd_l5 F (fun y4 y5=>K (.exit 2) (enc sh92l5o2 (y4,y5,()))) n x.1 x.2.1 x.2.2.1
def sh92j5:Shape:=[(2,.box 2 tyV),(3,.box 3 tyV),(4,.box 4 tyV),(5,.d (.int .u64)),(7,.d (.int .u64)),(28,.d .bool)]
def sh92j5on:Shape:=[(2,.box 2 tyV),(3,.box 3 tyV),(4,.box 4 tyV)]
def sh92j5oret:Shape:=[(4,.box 4 tyV)]
def outs92j5:Outs:=[(0,sh92j5on),(1,sh92j5oret)]
def m92j5(F:Nat){R:Type}(x:Shape.den sh92j5)(K:Ex→St→Option R):Option R:=ref03_gcd_j5 F (fun y2 y3 y4=>K .normal (enc sh92j5on (y2,y3,y4,()))) (fun y4=>K .ret (enc sh92j5oret (y4,()))) x.1 x.2.1 x.2.2.1 x.2.2.2.1 x.2.2.2.2.1 x.2.2.2.2.2.1
def sh92j8:Shape:=[(2,.box 2 tyV),(3,.box 3 tyV),(4,.box 4 tyV)]
def sh92j8on:Shape:=[(2,.box 2 tyV),(3,.box 3 tyV),(4,.box 4 tyV)]
def outs92j8:Outs:=[(0,sh92j8on)]
def m92j8(F:Nat){R:Type}(x:Shape.den sh92j8)(K:Ex→St→Option R):Option R:=ref03_gcd_j8 F (fun y2 y3 y4=>K .normal (enc sh92j8on (y2,y3,y4,()))) x.1 x.2.1 x.2.2.1
def sh92l1:Shape:=[(2,.box 2 tyV),(3,.box 3 tyV),(4,.box 4 tyV)]
def sh92l1o0:Shape:=[(2,.box 2 tyV),(4,.box 4 tyV)]
def sh92l1oret:Shape:=[(4,.box 4 tyV)]
def outs92l1:Outs:=[(2,sh92l1o0),(1,sh92l1oret)]
def m92l1(F:Nat)(n:Nat){R:Type}(x:Shape.den sh92l1)(K:Ex→St→Option R):Option R:=ref03_gcd_l1 F (fun y2 y4=>K (.exit 0) (enc sh92l1o0 (y2,y4,()))) (fun y4=>K .ret (enc sh92l1oret (y4,()))) n x.1 x.2.1 x.2.2.1
def hs92(F:Nat):Nat→Option (Hint (Dens sg92.rtys)):=hintL [(5,{ sh:=sh92l5,model:=m92l5 F F }),(1,{ sh:=sh92l1,model:=m92l1 F F })]
def js92(F:Nat):Nat→Option (Hint (Dens sg92.rtys)):=hintL [(5,{ sh:=sh92j5,model:=m92j5 F }),(8,{ sh:=sh92j8,model:=m92j8 F })]
theorem ok92l5(F:Nat)(fr:Frm)(hn:(cx92 F).ntmps=fr.n)(n:Nat):MSound (R:=(Dens sg92.rtys)) Tryz.prog fr (.loop (sub (bodyOf Tryz.f92) [1,0,0,0,1,0,1,1,0,1,0,0,0,0])) sh92l5 (m92l5 F n) :=
 loop_sound (cx:=cx92 F) (hs:=hs92 F) (js:=js92 F) (outs:=outs92l5) (conf_all _ rfl) (cs92 F) hn mix (m:=fun n=>m92l5 F n) (fun _ _=>rfl) (fun n x K=>by kernel_rfl) (hok_of (l:=[]) (by kernel_rfl) obl_nil) n
theorem ok92j5(F:Nat)(fr:Frm)(hn:(cx92 F).ntmps=fr.n):MSound (R:=(Dens sg92.rtys)) Tryz.prog fr (sub (bodyOf Tryz.f92) [1,0,0,0,1,0,1,1,0,1]) sh92j5 (m92j5 F) :=
 join_sound (cx:=cx92 F) (hs:=hs92 F) (js:=js92 F) (outs:=outs92j5) (conf_all _ rfl) (cs92 F) hn mix (fun x K=>by kernel_rfl) (hok_of (l:=[((.loop (sub (bodyOf Tryz.f92) [1,0,0,0,1,0,1,1,0,1,0,0,0,0])),{ sh:=sh92l5,model:=m92l5 F F })]) (by kernel_rfl) (obl_cons (ok92l5 F fr hn F) obl_nil))
theorem ok92j8(F:Nat)(fr:Frm)(hn:(cx92 F).ntmps=fr.n):MSound (R:=(Dens sg92.rtys)) Tryz.prog fr (sub (bodyOf Tryz.f92) [1,0,0,0,1,0,1,1,1]) sh92j8 (m92j8 F) :=
 join_sound (cx:=cx92 F) (hs:=hs92 F) (js:=js92 F) (outs:=outs92j8) (conf_all _ rfl) (cs92 F) hn mix (fun x K=>by kernel_rfl) (hok_of (l:=[]) (by kernel_rfl) obl_nil)
theorem ok92l1(F:Nat)(fr:Frm)(hn:(cx92 F).ntmps=fr.n)(n:Nat):MSound (R:=(Dens sg92.rtys)) Tryz.prog fr (.loop (sub (bodyOf Tryz.f92) [1,0,0,0])) sh92l1 (m92l1 F n) :=
 loop_sound (cx:=cx92 F) (hs:=hs92 F) (js:=js92 F) (outs:=outs92l1) (conf_all _ rfl) (cs92 F) hn mix (m:=fun n=>m92l1 F n) (fun _ _=>rfl) (fun n x K=>by kernel_rfl) (hok_of (l:=[((sub (bodyOf Tryz.f92) [1,0,0,0,1,0,1,1,0,1]),{ sh:=sh92j5,model:=m92j5 F }),((sub (bodyOf Tryz.f92) [1,0,0,0,1,0,1,1,1]),{ sh:=sh92j8,model:=m92j8 F })]) (by kernel_rfl) (obl_cons (ok92j5 F fr hn) (obl_cons (ok92j8 F fr hn) obl_nil))) n
theorem s92(F:Nat):CSound Tryz.prog 92 (con92 F) :=
 fn_sound (fn:=Tryz.f92) (code:=(bodyOf Tryz.f92)) (cx:=cx92 F) (hs:=hs92 F) (js:=js92 F) Tryz.func92 (by kernel_rfl) (by kernel_rfl) (conf_all _ rfl) (cs92 F) mix (by kernel_rfl) (by kernel_rfl) (fun fr hn=>(hok_of (l:=[((.loop (sub (bodyOf Tryz.f92) [1,0,0,0])),{ sh:=sh92l1,model:=m92l1 F F })]) (by kernel_rfl) (obl_cons (ok92l1 F fr hn F) obl_nil))) (fun x=>by kernel_rfl)
def sg65:Sig:={ modes:=[.ro],sh:=[(0,.d (.int .i64))],keeps:=true,fresh:=none,rtys:=[tyV] }
def con65(F:Nat):Contract:=mkCon sg65 fun x=>ref02_Of F x.1
def cx65(F:Nat):Cx:={ types:=tys,call:=callsL [],own:=[],ntmps:=(0,14) }
theorem cs65(F:Nat):∀ f c,(cx65 F).call f=some c→CMet Tryz.prog f c:=callsL_sound calls_nil
theorem s65(F:Nat):CSound Tryz.prog 65 (con65 F) :=
 fn_sound (fn:=Tryz.f65) (code:=(bodyOf Tryz.f65)) (cx:=cx65 F) (hs:=hintL []) (js:=hintL []) Tryz.func65 (by kernel_rfl) (by kernel_rfl) (conf_all _ rfl) (cs65 F) mix (by kernel_rfl) (by kernel_rfl) (fun fr hn=>(hok_of (l:=[]) (by kernel_rfl) obl_nil)) (fun x=>by kernel_rfl)
def sg94:Sig:={ modes:=[],sh:=[],keeps:=true,fresh:=none,rtys:=[tyV] }
def con94(F:Nat):Contract:=mkCon sg94 fun x=>ref03_one F 
def cx94(F:Nat):Cx:={ types:=tys,call:=callsL [(65,con65 F)],own:=[],ntmps:=(0,2) }
theorem cs94(F:Nat):∀ f c,(cx94 F).call f=some c→CMet Tryz.prog f c:=callsL_sound (calls_cons (s65 F) calls_nil)
theorem s94(F:Nat):CSound Tryz.prog 94 (con94 F) :=
 fn_sound (fn:=Tryz.f94) (code:=(bodyOf Tryz.f94)) (cx:=cx94 F) (hs:=hintL []) (js:=hintL []) Tryz.func94 (by kernel_rfl) (by kernel_rfl) (conf_all _ rfl) (cs94 F) mix (by kernel_rfl) (by kernel_rfl) (fun fr hn=>(hok_of (l:=[]) (by kernel_rfl) obl_nil)) (fun x=>by kernel_rfl)
def sg42:Sig:={ modes:=[.ro],sh:=[(0,.d (.pair tyV (.pair tyV .unit)))],keeps:=true,fresh:=none,rtys:=[.bool] }
def con42(F:Nat):Contract:=mkCon sg42 fun x=>ref03_Valid F x.1
def cx42(F:Nat):Cx:={ types:=tys,call:=callsL [(89,con89 F),(90,con90 F),(91,con91 F),(93,con93 F),(92,con92 F),(94,con94 F)],own:=[],ntmps:=(0,39) }
theorem cs42(F:Nat):∀ f c,(cx42 F).call f=some c→CMet Tryz.prog f c:=callsL_sound (calls_cons (s89 F) (calls_cons (s90 F) (calls_cons (s91 F) (calls_cons (s93 F) (calls_cons (s92 F) (calls_cons (s94 F) calls_nil))))))
theorem s42(F:Nat):CSound Tryz.prog 42 (con42 F) :=
 fn_sound (fn:=Tryz.f42) (code:=(bodyOf Tryz.f42)) (cx:=cx42 F) (hs:=hintL []) (js:=hintL []) Tryz.func42 (by kernel_rfl) (by kernel_rfl) (conf_all _ rfl) (cs42 F) mix (by kernel_rfl) (by kernel_rfl) (fun fr hn=>(hok_of (l:=[]) (by kernel_rfl) obl_nil)) (fun x=>by kernel_rfl)
def sg95:Sig:={ modes:=[.ro],sh:=[(0,.d (.pair tyV (.pair tyV .unit)))],keeps:=true,fresh:=none,rtys:=[(.pair tyV (.pair tyV .unit))] }
def con95(F:Nat):Contract:=mkCon sg95 fun x=>ref03_clean F x.1
def cx95(F:Nat):Cx:={ types:=tys,call:=callsL [(42,con42 F),(94,con94 F)],own:=[],ntmps:=(0,9) }
theorem cs95(F:Nat):∀ f c,(cx95 F).call f=some c→CMet Tryz.prog f c:=callsL_sound (calls_cons (s42 F) (calls_cons (s94 F) calls_nil))
theorem s95(F:Nat):CSound Tryz.prog 95 (con95 F) :=
 fn_sound (fn:=Tryz.f95) (code:=(bodyOf Tryz.f95)) (cx:=cx95 F) (hs:=hintL []) (js:=hintL []) Tryz.func95 (by kernel_rfl) (by kernel_rfl) (conf_all _ rfl) (cs95 F) mix (by kernel_rfl) (by kernel_rfl) (fun fr hn=>(hok_of (l:=[]) (by kernel_rfl) obl_nil)) (fun x=>by kernel_rfl)
def sg160:Sig:={ modes:=[.ro,.ro],sh:=[(0,.d (.int .u64)),(1,.d (.int .u64))],keeps:=true,fresh:=none,rtys:=[(.int .u64),(.int .u64)] }
def con160(F:Nat):Contract:=mkCon sg160 fun x=>bits_Mul64 F x.1 x.2.1
def cx160(F:Nat):Cx:={ types:=tys,call:=callsL [],own:=[],ntmps:=(0,51) }
theorem cs160(F:Nat):∀ f c,(cx160 F).call f=some c→CMet Tryz.prog f c:=callsL_sound calls_nil
theorem s160(F:Nat):CSound Tryz.prog 160 (con160 F) :=
 fn_sound (fn:=Tryz.f160) (code:=(bodyOf Tryz.f160)) (cx:=cx160 F) (hs:=hintL []) (js:=hintL []) Tryz.func160 (by kernel_rfl) (by kernel_rfl) (conf_all _ rfl) (cs160 F) mix (by kernel_rfl) (by kernel_rfl) (fun fr hn=>(hok_of (l:=[]) (by kernel_rfl) obl_nil)) (fun x=>by kernel_rfl)
def sg121:Sig:={ modes:=[.ro,.ro],sh:=[(0,.d (.slice (.int .u64))),(1,.d (.slice (.int .u64)))],keeps:=false,fresh:=none,rtys:=[(.slice (.int .u64))] }
def con121(F:Nat):Contract:=mkCon sg121 fun x=>ref02_mul F x.1 x.2.1
def cx121(F:Nat):Cx:={ types:=tys,call:=callsL [(160,con160 F),(161,con161 F),(159,con159 F)],own:=[4,18],ntmps:=(0,81) }
theorem cs121(F:Nat):∀ f c,(cx121 F).call f=some c→CMet Tryz.prog f c:=callsL_sound (calls_cons (s160 F) (calls_cons_ext (s161 F) (calls_cons (s159 F) calls_nil)))
def sh121l7:Shape:=[(0,.d (.slice (.int .u64))),(1,.d (.slice (.int .u64))),(5,.own 5 (.int .u64) 49),(6,.d (.int .i64)),(7,.d (.int .u64)),(8,.d (.int .i64))]
def sh121l7o2:Shape:=[(0,.d (.slice (.int .u64))),(1,.d (.slice (.int .u64))),(5,.own 5 (.int .u64) 49),(6,.d (.int .i64)),(7,.d (.int .u64))]
def outs121l7:Outs:=[(4,sh121l7o2)]
def m121l7(F:Nat)(n:Nat){R:Type}(x:Shape.den sh121l7)(K:Ex→St→Option R):Option R:=ref02_mul_l7 F (fun y0 y1 y5 y6 y7=>K (.exit 2) (enc sh121l7o2 (y0,y1,y5,y6,y7,()))) n x.1 x.2.1 x.2.2.1 x.2.2.2.1 x.2.2.2.2.1 x.2.2.2.2.2.1
def sh121l3:Shape:=[(0,.d (.slice (.int .u64))),(1,.d (.slice (.int .u64))),(5,.own 5 (.int .u64) 49),(6,.d (.int .i64))]
def sh121l3o0:Shape:=[(5,.own 5 (.int .u64) 49)]
def outs121l3:Outs:=[(2,sh121l3o0)]
def m121l3(F:Nat)(n:Nat){R:Type}(x:Shape.den sh121l3)(K:Ex→St→Option R):Option R:=ref02_mul_l3 F (fun y5=>K (.exit 0) (enc sh121l3o0 (y5,()))) n x.1 x.2.1 x.2.2.1 x.2.2.2.1
def hs121(F:Nat):Nat→Option (Hint (Dens sg121.rtys)):=hintL [(7,{ sh:=sh121l7,model:=m121l7 F F }),(3,{ sh:=sh121l3,model:=m121l3 F F })]
theorem ok121l7(F:Nat)(fr:Frm)(hn:(cx121 F).ntmps=fr.n)(n:Nat):MSound (R:=(Dens sg121.rtys)) Tryz.prog fr (.loop (sub (bodyOf Tryz.f121) [1,1,0,1,0,0,1,0,0,1,0,1,0,0])) sh121l7 (m121l7 F n) :=
 loop_sound (cx:=cx121 F) (hs:=hs121 F) (js:=hintL []) (outs:=outs121l7) (conf_all _ rfl) (cs121 F) hn mix (m:=fun n=>m121l7 F n) (fun _ _=>rfl) (fun n x K=>by kernel_rfl) (hok_of (l:=[]) (by kernel_rfl) obl_nil) n
theorem ok121l3(F:Nat)(fr:Frm)(hn:(cx121 F).ntmps=fr.n)(n:Nat):MSound (R:=(Dens sg121.rtys)) Tryz.prog fr (.loop (sub (bodyOf Tryz.f121) [1,1,0,1,0,0])) sh121l3 (m121l3 F n) :=
 loop_sound (cx:=cx121 F) (hs:=hs121 F) (js:=hintL []) (outs:=outs121l3) (conf_all _ rfl) (cs121 F) hn mix (m:=fun n=>m121l3 F n) (fun _ _=>rfl) (fun n x K=>by kernel_rfl) (hok_of (l:=[((.loop (sub (bodyOf Tryz.f121) [1,1,0,1,0,0,1,0,0,1,0,1,0,0])),{ sh:=sh121l7,model:=m121l7 F F })]) (by kernel_rfl) (obl_cons (ok121l7 F fr hn F) obl_nil)) n
theorem s121(F:Nat):CSound Tryz.prog 121 (con121 F) :=
 fn_sound (fn:=Tryz.f121) (code:=(bodyOf Tryz.f121)) (cx:=cx121 F) (hs:=hs121 F) (js:=hintL []) Tryz.func121 (by kernel_rfl) (by kernel_rfl) (conf_all _ rfl) (cs121 F) mix (by kernel_rfl) (by kernel_rfl) (fun fr hn=>(hok_of (l:=[((.loop (sub (bodyOf Tryz.f121) [1,1,0,1,0,0])),{ sh:=sh121l3,model:=m121l3 F F })]) (by kernel_rfl) (obl_cons (ok121l3 F fr hn F) obl_nil))) (fun x=>by kernel_rfl)
def sg68:Sig:={ modes:=[.ro,.ro],sh:=[(0,.d tyV),(1,.d tyV)],keeps:=true,fresh:=none,rtys:=[tyV,.bool] }
def con68(F:Nat):Contract:=mkCon sg68 fun x=>ref02_Mul F x.1 x.2.1
def cx68(F:Nat):Cx:={ types:=tys,call:=callsL [(119,con119 F),(122,con122 F),(121,con121 F),(120,con120 F)],own:=[],ntmps:=(0,23) }
theorem cs68(F:Nat):∀ f c,(cx68 F).call f=some c→CMet Tryz.prog f c:=callsL_sound (calls_cons (s119 F) (calls_cons (s122 F) (calls_cons (s121 F) (calls_cons (s120 F) calls_nil))))
theorem s68(F:Nat):CSound Tryz.prog 68 (con68 F) :=
 fn_sound (fn:=Tryz.f68) (code:=(bodyOf Tryz.f68)) (cx:=cx68 F) (hs:=hintL []) (js:=hintL []) Tryz.func68 (by kernel_rfl) (by kernel_rfl) (conf_all _ rfl) (cs68 F) mix (by kernel_rfl) (by kernel_rfl) (fun fr hn=>(hok_of (l:=[]) (by kernel_rfl) obl_nil)) (fun x=>by kernel_rfl)
def sg96:Sig:={ modes:=[.ro,.ro],sh:=[(0,.d tyV),(1,.d tyV)],keeps:=true,fresh:=none,rtys:=[(.int .i64)] }
def con96(F:Nat):Contract:=mkCon sg96 fun x=>ref02_Compare F x.1 x.2.1
def cx96(F:Nat):Cx:={ types:=tys,call:=callsL [(90,con90 F),(122,con122 F),(141,con141 F)],own:=[],ntmps:=(0,24) }
theorem cs96(F:Nat):∀ f c,(cx96 F).call f=some c→CMet Tryz.prog f c:=callsL_sound (calls_cons (s90 F) (calls_cons (s122 F) (calls_cons (s141 F) calls_nil)))
theorem s96(F:Nat):CSound Tryz.prog 96 (con96 F) :=
 fn_sound (fn:=Tryz.f96) (code:=(bodyOf Tryz.f96)) (cx:=cx96 F) (hs:=hintL []) (js:=hintL []) Tryz.func96 (by kernel_rfl) (by kernel_rfl) (conf_all _ rfl) (cs96 F) mix (by kernel_rfl) (by kernel_rfl) (fun fr hn=>(hok_of (l:=[]) (by kernel_rfl) obl_nil)) (fun x=>by kernel_rfl)
def sg43:Sig:={ modes:=[.ro,.ro],sh:=[(0,.d (.pair tyV (.pair tyV .unit))),(1,.d (.pair tyV (.pair tyV .unit)))],keeps:=true,fresh:=none,rtys:=[(.int .i64)] }
def con43(F:Nat):Contract:=mkCon sg43 fun x=>ref03_Compare F x.1 x.2.1
def cx43(F:Nat):Cx:={ types:=tys,call:=callsL [(95,con95 F),(68,con68 F),(96,con96 F)],own:=[],ntmps:=(0,32) }
theorem cs43(F:Nat):∀ f c,(cx43 F).call f=some c→CMet Tryz.prog f c:=callsL_sound (calls_cons (s95 F) (calls_cons (s68 F) (calls_cons (s96 F) calls_nil)))
theorem s43(F:Nat):CSound Tryz.prog 43 (con43 F) :=
 fn_sound (fn:=Tryz.f43) (code:=(bodyOf Tryz.f43)) (cx:=cx43 F) (hs:=hintL []) (js:=hintL []) Tryz.func43 (by kernel_rfl) (by kernel_rfl) (conf_all _ rfl) (cs43 F) mix (by kernel_rfl) (by kernel_rfl) (fun fr hn=>(hok_of (l:=[]) (by kernel_rfl) obl_nil)) (fun x=>by kernel_rfl)
def sg60:Sig:={ modes:=[.ro],sh:=[(0,.d (.pair .bool (.pair (.pair tyV (.pair tyV .unit)) (.pair (.pair tyV (.pair tyV .unit)) .unit))))],keeps:=true,fresh:=none,rtys:=[.bool] }
def con60(F:Nat):Contract:=mkCon sg60 fun x=>ref13_Valid F x.1
def cx60(F:Nat):Cx:={ types:=tys,call:=callsL [(117,con117 F),(42,con42 F),(43,con43 F)],own:=[],ntmps:=(0,24) }
theorem cs60(F:Nat):∀ f c,(cx60 F).call f=some c→CMet Tryz.prog f c:=callsL_sound (calls_cons (s117 F) (calls_cons (s42 F) (calls_cons (s43 F) calls_nil)))
theorem s60(F:Nat):CSound Tryz.prog 60 (con60 F) :=
 fn_sound (fn:=Tryz.f60) (code:=(bodyOf Tryz.f60)) (cx:=cx60 F) (hs:=hintL []) (js:=hintL []) Tryz.func60 (by kernel_rfl) (by kernel_rfl) (conf_all _ rfl) (cs60 F) mix (by kernel_rfl) (by kernel_rfl) (fun fr hn=>(hok_of (l:=[]) (by kernel_rfl) obl_nil)) (fun x=>by kernel_rfl)
def sg112:Sig:={ modes:=[.ro],sh:=[(0,.d (.pair (.int .i64) (.pair (.int .i64) (.pair (.int .i64) (.pair (.pair (.int .i64) (.pair (.int .i64) .unit)) (.pair (.int .i64) (.pair (.int .i64) (.pair (.pair .bool (.pair (.pair tyV (.pair tyV .unit)) (.pair (.pair tyV (.pair tyV .unit)) .unit))) .unit))))))))],keeps:=true,fresh:=none,rtys:=[.bool] }
def con112(F:Nat):Contract:=mkCon sg112 fun x=>ref19_Valid F x.1
def cx112(F:Nat):Cx:={ types:=tys,call:=callsL [(109,con109 F),(154,con154 F),(117,con117 F),(60,con60 F)],own:=[],ntmps:=(0,78) }
theorem cs112(F:Nat):∀ f c,(cx112 F).call f=some c→CMet Tryz.prog f c:=callsL_sound (calls_cons (s109 F) (calls_cons (s154 F) (calls_cons (s117 F) (calls_cons (s60 F) calls_nil))))
theorem s112(F:Nat):CSound Tryz.prog 112 (con112 F) :=
 fn_sound (fn:=Tryz.f112) (code:=(bodyOf Tryz.f112)) (cx:=cx112 F) (hs:=hintL []) (js:=hintL []) Tryz.func112 (by kernel_rfl) (by kernel_rfl) (conf_all _ rfl) (cs112 F) mix (by kernel_rfl) (by kernel_rfl) (fun fr hn=>(hok_of (l:=[]) (by kernel_rfl) obl_nil)) (fun x=>by kernel_rfl)
def sg113:Sig:={ modes:=[.ro,.ro],sh:=[(0,.d (.pair (.int .i64) (.pair (.int .i64) (.pair (.int .i64) (.pair (.pair (.int .i64) (.pair (.int .i64) .unit)) (.pair (.int .i64) (.pair (.int .i64) (.pair (.pair .bool (.pair (.pair tyV (.pair tyV .unit)) (.pair (.pair tyV (.pair tyV .unit)) .unit))) .unit)))))))),(1,.d (.pair (.int .i64) (.pair (.int .i64) .unit)))],keeps:=true,fresh:=none,rtys:=[(.pair (.int .i64) (.pair (.int .i64) (.pair (.int .i64) (.pair (.pair (.int .i64) (.pair (.int .i64) .unit)) (.pair (.int .i64) (.pair (.int .i64) (.pair (.pair .bool (.pair (.pair tyV (.pair tyV .unit)) (.pair (.pair tyV (.pair tyV .unit)) .unit))) .unit)))))))] }
def con113(F:Nat):Contract:=mkCon sg113 fun x=>ref19_begin F x.1 x.2.1
def cx113(F:Nat):Cx:={ types:=tys,call:=callsL [(154,con154 F),(117,con117 F)],own:=[],ntmps:=(0,22) }
theorem cs113(F:Nat):∀ f c,(cx113 F).call f=some c→CMet Tryz.prog f c:=callsL_sound (calls_cons (s154 F) (calls_cons (s117 F) calls_nil))
theorem s113(F:Nat):CSound Tryz.prog 113 (con113 F) :=
 fn_sound (fn:=Tryz.f113) (code:=(bodyOf Tryz.f113)) (cx:=cx113 F) (hs:=hintL []) (js:=hintL []) Tryz.func113 (by kernel_rfl) (by kernel_rfl) (conf_all _ rfl) (cs113 F) mix (by kernel_rfl) (by kernel_rfl) (fun fr hn=>(hok_of (l:=[]) (by kernel_rfl) obl_nil)) (fun x=>by kernel_rfl)
def sg115:Sig:={ modes:=[.ro,.ro],sh:=[(0,.d (.int .i64)),(1,.d (.int .i64))],keeps:=true,fresh:=none,rtys:=[tyV] }
def con115(F:Nat):Contract:=mkCon sg115 fun x=>ref19_Base F x.1 x.2.1
def cx115(F:Nat):Cx:={ types:=tys,call:=callsL [(65,con65 F),(157,con157 F),(68,con68 F)],own:=[],ntmps:=(0,17) }
theorem cs115(F:Nat):∀ f c,(cx115 F).call f=some c→CMet Tryz.prog f c:=callsL_sound (calls_cons (s65 F) (calls_cons (s157 F) (calls_cons (s68 F) calls_nil)))
theorem s115(F:Nat):CSound Tryz.prog 115 (con115 F) :=
 fn_sound (fn:=Tryz.f115) (code:=(bodyOf Tryz.f115)) (cx:=cx115 F) (hs:=hintL []) (js:=hintL []) Tryz.func115 (by kernel_rfl) (by kernel_rfl) (conf_all _ rfl) (cs115 F) mix (by kernel_rfl) (by kernel_rfl) (fun fr hn=>(hok_of (l:=[]) (by kernel_rfl) obl_nil)) (fun x=>by kernel_rfl)
def sg116:Sig:={ modes:=[.ro,.ro],sh:=[(0,.d (.int .i64)),(1,.d (.int .i64))],keeps:=true,fresh:=none,rtys:=[(.int .u64)] }
def con116(F:Nat):Contract:=mkCon sg116 fun x=>ref01_Distance F x.1 x.2.1
def cx116(F:Nat):Cx:={ types:=tys,call:=callsL [],own:=[],ntmps:=(0,18) }
theorem cs116(F:Nat):∀ f c,(cx116 F).call f=some c→CMet Tryz.prog f c:=callsL_sound calls_nil
theorem s116(F:Nat):CSound Tryz.prog 116 (con116 F) :=
 fn_sound (fn:=Tryz.f116) (code:=(bodyOf Tryz.f116)) (cx:=cx116 F) (hs:=hintL []) (js:=hintL []) Tryz.func116 (by kernel_rfl) (by kernel_rfl) (conf_all _ rfl) (cs116 F) mix (by kernel_rfl) (by kernel_rfl) (fun fr hn=>(hok_of (l:=[]) (by kernel_rfl) obl_nil)) (fun x=>by kernel_rfl)
def sg70:Sig:={ modes:=[.ro],sh:=[(0,.d tyV)],keeps:=true,fresh:=none,rtys:=[tyV] }
def con70(F:Nat):Contract:=mkCon sg70 fun x=>ref02_Neg F x.1
def cx70(F:Nat):Cx:={ types:=tys,call:=callsL [(122,con122 F),(120,con120 F)],own:=[],ntmps:=(0,15) }
theorem cs70(F:Nat):∀ f c,(cx70 F).call f=some c→CMet Tryz.prog f c:=callsL_sound (calls_cons (s122 F) (calls_cons (s120 F) calls_nil))
theorem s70(F:Nat):CSound Tryz.prog 70 (con70 F) :=
 fn_sound (fn:=Tryz.f70) (code:=(bodyOf Tryz.f70)) (cx:=cx70 F) (hs:=hintL []) (js:=hintL []) Tryz.func70 (by kernel_rfl) (by kernel_rfl) (conf_all _ rfl) (cs70 F) mix (by kernel_rfl) (by kernel_rfl) (fun fr hn=>(hok_of (l:=[]) (by kernel_rfl) obl_nil)) (fun x=>by kernel_rfl)
def sg156:Sig:={ modes:=[.ro,.ro],sh:=[(0,.d tyV),(1,.d tyV)],keeps:=true,fresh:=none,rtys:=[tyV,.bool] }
def con156(F:Nat):Contract:=mkCon sg156 fun x=>ref02_Add F x.1 x.2.1
def cx156(F:Nat):Cx:={ types:=tys,call:=callsL [(119,con119 F),(122,con122 F),(163,con163 F),(120,con120 F),(141,con141 F),(164,con164 F)],own:=[],ntmps:=(0,51) }
theorem cs156(F:Nat):∀ f c,(cx156 F).call f=some c→CMet Tryz.prog f c:=callsL_sound (calls_cons (s119 F) (calls_cons (s122 F) (calls_cons (s163 F) (calls_cons (s120 F) (calls_cons (s141 F) (calls_cons (s164 F) calls_nil))))))
theorem s156(F:Nat):CSound Tryz.prog 156 (con156 F) :=
 fn_sound (fn:=Tryz.f156) (code:=(bodyOf Tryz.f156)) (cx:=cx156 F) (hs:=hintL []) (js:=hintL []) Tryz.func156 (by kernel_rfl) (by kernel_rfl) (conf_all _ rfl) (cs156 F) mix (by kernel_rfl) (by kernel_rfl) (fun fr hn=>(hok_of (l:=[]) (by kernel_rfl) obl_nil)) (fun x=>by kernel_rfl)
def sg155:Sig:={ modes:=[.ro,.ro],sh:=[(0,.d tyV),(1,.d tyV)],keeps:=true,fresh:=none,rtys:=[tyV,.bool] }
def con155(F:Nat):Contract:=mkCon sg155 fun x=>ref02_Sub F x.1 x.2.1
def cx155(F:Nat):Cx:={ types:=tys,call:=callsL [(70,con70 F),(156,con156 F)],own:=[],ntmps:=(0,12) }
theorem cs155(F:Nat):∀ f c,(cx155 F).call f=some c→CMet Tryz.prog f c:=callsL_sound (calls_cons (s70 F) (calls_cons (s156 F) calls_nil))
theorem s155(F:Nat):CSound Tryz.prog 155 (con155 F) :=
 fn_sound (fn:=Tryz.f155) (code:=(bodyOf Tryz.f155)) (cx:=cx155 F) (hs:=hintL []) (js:=hintL []) Tryz.func155 (by kernel_rfl) (by kernel_rfl) (conf_all _ rfl) (cs155 F) mix (by kernel_rfl) (by kernel_rfl) (fun fr hn=>(hok_of (l:=[]) (by kernel_rfl) obl_nil)) (fun x=>by kernel_rfl)
def sg69:Sig:={ modes:=[.ro,.ro],sh:=[(0,.d tyV),(1,.d tyV)],keeps:=true,fresh:=none,rtys:=[(.pair tyV (.pair tyV .unit)),.bool] }
def con69(F:Nat):Contract:=mkCon sg69 fun x=>ref03_Make F x.1 x.2.1
def cx69(F:Nat):Cx:={ types:=tys,call:=callsL [(89,con89 F),(90,con90 F),(93,con93 F),(92,con92 F),(123,con123 F),(70,con70 F),(42,con42 F)],own:=[],ntmps:=(0,64) }
theorem cs69(F:Nat):∀ f c,(cx69 F).call f=some c→CMet Tryz.prog f c:=callsL_sound (calls_cons (s89 F) (calls_cons (s90 F) (calls_cons (s93 F) (calls_cons (s92 F) (calls_cons (s123 F) (calls_cons (s70 F) (calls_cons (s42 F) calls_nil)))))))
def sh69j8:Shape:=[(4,.box 4 (.pair tyV (.pair tyV .unit))),(7,.box 7 tyV),(10,.box 10 tyV)]
def sh69j8oret:Shape:=[(4,.box 4 (.pair tyV (.pair tyV .unit))),(5,.d .bool)]
def outs69j8:Outs:=[(1,sh69j8oret)]
def m69j8(F:Nat){R:Type}(x:Shape.den sh69j8)(K:Ex→St→Option R):Option R:=ref03_Make_j8 F (fun y4 y5=>K .ret (enc sh69j8oret (y4,y5,()))) x.1 x.2.1 x.2.2.1
def js69(F:Nat):Nat→Option (Hint (Dens sg69.rtys)):=hintL [(8,{ sh:=sh69j8,model:=m69j8 F })]
theorem ok69j8(F:Nat)(fr:Frm)(hn:(cx69 F).ntmps=fr.n):MSound (R:=(Dens sg69.rtys)) Tryz.prog fr (sub (bodyOf Tryz.f69) [1,1,1,1,1,1]) sh69j8 (m69j8 F) :=
 join_sound (cx:=cx69 F) (hs:=hintL []) (js:=js69 F) (outs:=outs69j8) (conf_all _ rfl) (cs69 F) hn mix (fun x K=>by kernel_rfl) (hok_of (l:=[]) (by kernel_rfl) obl_nil)
theorem s69(F:Nat):CSound Tryz.prog 69 (con69 F) :=
 fn_sound (fn:=Tryz.f69) (code:=(bodyOf Tryz.f69)) (cx:=cx69 F) (hs:=hintL []) (js:=js69 F) Tryz.func69 (by kernel_rfl) (by kernel_rfl) (conf_all _ rfl) (cs69 F) mix (by kernel_rfl) (by kernel_rfl) (fun fr hn=>(hok_of (l:=[((sub (bodyOf Tryz.f69) [1,1,1,1,1,1]),{ sh:=sh69j8,model:=m69j8 F })]) (by kernel_rfl) (obl_cons (ok69j8 F fr hn) obl_nil))) (fun x=>by kernel_rfl)
def sg114:Sig:={ modes:=[.ro,.ro,.ro,.ro],sh:=[(0,.d tyV),(1,.d (.int .i64)),(2,.d (.int .i64)),(3,.d (.int .u64))],keeps:=true,fresh:=none,rtys:=[(.pair .bool (.pair (.pair tyV (.pair tyV .unit)) (.pair (.pair tyV (.pair tyV .unit)) .unit))),.bool] }
def con114(F:Nat):Contract:=mkCon sg114 fun x=>ref13_Through F x.1 x.2.1 x.2.2.1 x.2.2.2.1
def cx114(F:Nat):Cx:={ types:=tys,call:=callsL [(89,con89 F),(96,con96 F),(109,con109 F),(65,con65 F),(155,con155 F),(156,con156 F),(67,con67 F),(69,con69 F)],own:=[],ntmps:=(0,81) }
theorem cs114(F:Nat):∀ f c,(cx114 F).call f=some c→CMet Tryz.prog f c:=callsL_sound (calls_cons (s89 F) (calls_cons (s96 F) (calls_cons (s109 F) (calls_cons (s65 F) (calls_cons (s155 F) (calls_cons (s156 F) (calls_cons (s67 F) (calls_cons (s69 F) calls_nil))))))))
theorem s114(F:Nat):CSound Tryz.prog 114 (con114 F) :=
 fn_sound (fn:=Tryz.f114) (code:=(bodyOf Tryz.f114)) (cx:=cx114 F) (hs:=hintL []) (js:=hintL []) Tryz.func114 (by kernel_rfl) (by kernel_rfl) (conf_all _ rfl) (cs114 F) mix (by kernel_rfl) (by kernel_rfl) (fun fr hn=>(hok_of (l:=[]) (by kernel_rfl) obl_nil)) (fun x=>by kernel_rfl)
def sg62:Sig:={ modes:=[.ro,.ro],sh:=[(0,.d (.pair .bool (.pair (.pair tyV (.pair tyV .unit)) (.pair (.pair tyV (.pair tyV .unit)) .unit)))),(1,.d (.pair .bool (.pair (.pair tyV (.pair tyV .unit)) (.pair (.pair tyV (.pair tyV .unit)) .unit))))],keeps:=true,fresh:=none,rtys:=[(.pair .bool (.pair (.pair tyV (.pair tyV .unit)) (.pair (.pair tyV (.pair tyV .unit)) .unit))),.bool] }
def con62(F:Nat):Contract:=mkCon sg62 fun x=>ref13_Meet F x.1 x.2.1
def cx62(F:Nat):Cx:={ types:=tys,call:=callsL [(60,con60 F),(43,con43 F)],own:=[],ntmps:=(0,47) }
theorem cs62(F:Nat):∀ f c,(cx62 F).call f=some c→CMet Tryz.prog f c:=callsL_sound (calls_cons (s60 F) (calls_cons (s43 F) calls_nil))
def sh62j11:Shape:=[(2,.box 2 (.pair .bool (.pair (.pair tyV (.pair tyV .unit)) (.pair (.pair tyV (.pair tyV .unit)) .unit)))),(4,.box 4 (.pair .bool (.pair (.pair tyV (.pair tyV .unit)) (.pair (.pair tyV (.pair tyV .unit)) .unit))))]
def sh62j11oret:Shape:=[(4,.box 4 (.pair .bool (.pair (.pair tyV (.pair tyV .unit)) (.pair (.pair tyV (.pair tyV .unit)) .unit)))),(5,.d .bool)]
def outs62j11:Outs:=[(1,sh62j11oret)]
def m62j11(F:Nat){R:Type}(x:Shape.den sh62j11)(K:Ex→St→Option R):Option R:=ref13_Meet_j11 F (fun y4 y5=>K .ret (enc sh62j11oret (y4,y5,()))) x.1 x.2.1
def sh62j9:Shape:=[(2,.box 2 (.pair .bool (.pair (.pair tyV (.pair tyV .unit)) (.pair (.pair tyV (.pair tyV .unit)) .unit)))),(3,.box 3 (.pair .bool (.pair (.pair tyV (.pair tyV .unit)) (.pair (.pair tyV (.pair tyV .unit)) .unit)))),(4,.box 4 (.pair .bool (.pair (.pair tyV (.pair tyV .unit)) (.pair (.pair tyV (.pair tyV .unit)) .unit))))]
def sh62j9oret:Shape:=[(4,.box 4 (.pair .bool (.pair (.pair tyV (.pair tyV .unit)) (.pair (.pair tyV (.pair tyV .unit)) .unit)))),(5,.d .bool)]
def outs62j9:Outs:=[(1,sh62j9oret)]
def m62j9(F:Nat){R:Type}(x:Shape.den sh62j9)(K:Ex→St→Option R):Option R:=ref13_Meet_j9 F (fun y4 y5=>K .ret (enc sh62j9oret (y4,y5,()))) x.1 x.2.1 x.2.2.1
def js62(F:Nat):Nat→Option (Hint (Dens sg62.rtys)):=hintL [(11,{ sh:=sh62j11,model:=m62j11 F }),(9,{ sh:=sh62j9,model:=m62j9 F })]
theorem ok62j11(F:Nat)(fr:Frm)(hn:(cx62 F).ntmps=fr.n):MSound (R:=(Dens sg62.rtys)) Tryz.prog fr (sub (bodyOf Tryz.f62) [1,1,1,1,1,1]) sh62j11 (m62j11 F) :=
 join_sound (cx:=cx62 F) (hs:=hintL []) (js:=js62 F) (outs:=outs62j11) (conf_all _ rfl) (cs62 F) hn mix (fun x K=>by kernel_rfl) (hok_of (l:=[]) (by kernel_rfl) obl_nil)
theorem ok62j9(F:Nat)(fr:Frm)(hn:(cx62 F).ntmps=fr.n):MSound (R:=(Dens sg62.rtys)) Tryz.prog fr (sub (bodyOf Tryz.f62) [1,1,1,1,1]) sh62j9 (m62j9 F) :=
 join_sound (cx:=cx62 F) (hs:=hintL []) (js:=js62 F) (outs:=outs62j9) (conf_all _ rfl) (cs62 F) hn mix (fun x K=>by kernel_rfl) (hok_of (l:=[((sub (bodyOf Tryz.f62) [1,1,1,1,1,1]),{ sh:=sh62j11,model:=m62j11 F })]) (by kernel_rfl) (obl_cons (ok62j11 F fr hn) obl_nil))
theorem s62(F:Nat):CSound Tryz.prog 62 (con62 F) :=
 fn_sound (fn:=Tryz.f62) (code:=(bodyOf Tryz.f62)) (cx:=cx62 F) (hs:=hintL []) (js:=js62 F) Tryz.func62 (by kernel_rfl) (by kernel_rfl) (conf_all _ rfl) (cs62 F) mix (by kernel_rfl) (by kernel_rfl) (fun fr hn=>(hok_of (l:=[((sub (bodyOf Tryz.f62) [1,1,1,1,1]),{ sh:=sh62j9,model:=m62j9 F })]) (by kernel_rfl) (obl_cons (ok62j9 F fr hn) obl_nil))) (fun x=>by kernel_rfl)
def sg58:Sig:={ modes:=[.ro],sh:=[(0,.d (.pair (.int .i64) (.pair (.int .i64) (.pair (.int .i64) (.pair (.pair (.int .i64) (.pair (.int .i64) .unit)) (.pair (.int .i64) (.pair (.int .i64) (.pair (.pair .bool (.pair (.pair tyV (.pair tyV .unit)) (.pair (.pair tyV (.pair tyV .unit)) .unit))) .unit))))))))],keeps:=false,fresh:=some (0,110),rtys:=[(.slice (.pair (.int .i64) (.pair (.int .i64) (.pair (.int .i64) (.pair (.pair .bool (.pair (.pair tyV (.pair tyV .unit)) (.pair (.pair tyV (.pair tyV .unit)) .unit))) .unit))))),(.int .i64)] }
def con58(F:Nat):Contract:=mkCon sg58 fun x=>ref19_Finish F x.1
def cx58(F:Nat):Cx:={ types:=tys,call:=callsL [(112,con112 F)],own:=[2,19],ntmps:=(0,20) }
theorem cs58(F:Nat):∀ f c,(cx58 F).call f=some c→CMet Tryz.prog f c:=callsL_sound (calls_cons (s112 F) calls_nil)
theorem s58(F:Nat):CSound Tryz.prog 58 (con58 F) :=
 fn_sound (fn:=Tryz.f58) (code:=(bodyOf Tryz.f58)) (cx:=cx58 F) (hs:=hintL []) (js:=hintL []) Tryz.func58 (by kernel_rfl) (by kernel_rfl) (conf_all _ rfl) (cs58 F) mix (by kernel_rfl) (by kernel_rfl) (fun fr hn=>(hok_of (l:=[]) (by kernel_rfl) obl_nil)) (fun x=>by kernel_rfl)
def sg57:Sig:={ modes:=[.ro,.ro],sh:=[(0,.d (.pair (.int .i64) (.pair (.int .i64) (.pair (.int .i64) (.pair (.pair (.int .i64) (.pair (.int .i64) .unit)) (.pair (.int .i64) (.pair (.int .i64) (.pair (.pair .bool (.pair (.pair tyV (.pair tyV .unit)) (.pair (.pair tyV (.pair tyV .unit)) .unit))) .unit)))))))),(1,.d (.pair (.int .i64) (.pair (.int .i64) .unit)))],keeps:=false,fresh:=some (1,110),rtys:=[(.pair (.int .i64) (.pair (.int .i64) (.pair (.int .i64) (.pair (.pair (.int .i64) (.pair (.int .i64) .unit)) (.pair (.int .i64) (.pair (.int .i64) (.pair (.pair .bool (.pair (.pair tyV (.pair tyV .unit)) (.pair (.pair tyV (.pair tyV .unit)) .unit))) .unit))))))),(.slice (.pair (.int .i64) (.pair (.int .i64) (.pair (.int .i64) (.pair (.pair .bool (.pair (.pair tyV (.pair tyV .unit)) (.pair (.pair tyV (.pair tyV .unit)) .unit))) .unit))))),(.int .i64)] }
def con57(F:Nat):Contract:=mkCon sg57 fun x=>ref19_Step F x.1 x.2.1
def cx57(F:Nat):Cx:={ types:=tys,call:=callsL [(112,con112 F),(113,con113 F),(115,con115 F),(116,con116 F),(114,con114 F),(62,con62 F),(58,con58 F)],own:=[5,71],ntmps:=(0,88) }
theorem cs57(F:Nat):∀ f c,(cx57 F).call f=some c→CMet Tryz.prog f c:=callsL_sound (calls_cons (s112 F) (calls_cons (s113 F) (calls_cons (s115 F) (calls_cons (s116 F) (calls_cons (s114 F) (calls_cons (s62 F) (calls_cons (s58 F) calls_nil)))))))
def sh57j5:Shape:=[(2,.box 2 (.pair (.int .i64) (.pair (.int .i64) (.pair (.int .i64) (.pair (.pair (.int .i64) (.pair (.int .i64) .unit)) (.pair (.int .i64) (.pair (.int .i64) (.pair (.pair .bool (.pair (.pair tyV (.pair tyV .unit)) (.pair (.pair tyV (.pair tyV .unit)) .unit))) .unit)))))))),(3,.box 3 (.pair (.int .i64) (.pair (.int .i64) .unit))),(4,.box 4 (.pair (.int .i64) (.pair (.int .i64) (.pair (.int .i64) (.pair (.pair (.int .i64) (.pair (.int .i64) .unit)) (.pair (.int .i64) (.pair (.int .i64) (.pair (.pair .bool (.pair (.pair tyV (.pair tyV .unit)) (.pair (.pair tyV (.pair tyV .unit)) .unit))) .unit))))))))]
def sh57j5oret:Shape:=[(4,.box 4 (.pair (.int .i64) (.pair (.int .i64) (.pair (.int .i64) (.pair (.pair (.int .i64) (.pair (.int .i64) .unit)) (.pair (.int .i64) (.pair (.int .i64) (.pair (.pair .bool (.pair (.pair tyV (.pair tyV .unit)) (.pair (.pair tyV (.pair tyV .unit)) .unit))) .unit)))))))),(5,.own 5 (.pair (.int .i64) (.pair (.int .i64) (.pair (.int .i64) (.pair (.pair .bool (.pair (.pair tyV (.pair tyV .unit)) (.pair (.pair tyV (.pair tyV .unit)) .unit))) .unit)))) 110),(6,.d (.int .i64))]
def outs57j5:Outs:=[(1,sh57j5oret)]
def m57j5(F:Nat){R:Type}(x:Shape.den sh57j5)(K:Ex→St→Option R):Option R:=ref19_Step_j5 F (fun y4 y5 y6=>K .ret (enc sh57j5oret (y4,y5,y6,()))) x.1 x.2.1 x.2.2.1
def js57(F:Nat):Nat→Option (Hint (Dens sg57.rtys)):=hintL [(5,{ sh:=sh57j5,model:=m57j5 F })]
theorem ok57j5(F:Nat)(fr:Frm)(hn:(cx57 F).ntmps=fr.n):MSound (R:=(Dens sg57.rtys)) Tryz.prog fr (sub (bodyOf Tryz.f57) [1,1,1]) sh57j5 (m57j5 F) :=
 join_sound (cx:=cx57 F) (hs:=hintL []) (js:=js57 F) (outs:=outs57j5) (conf_all _ rfl) (cs57 F) hn mix (fun x K=>by kernel_rfl) (hok_of (l:=[]) (by kernel_rfl) obl_nil)
theorem s57(F:Nat):CSound Tryz.prog 57 (con57 F) :=
 fn_sound (fn:=Tryz.f57) (code:=(bodyOf Tryz.f57)) (cx:=cx57 F) (hs:=hintL []) (js:=js57 F) Tryz.func57 (by kernel_rfl) (by kernel_rfl) (conf_all _ rfl) (cs57 F) mix (by kernel_rfl) (by kernel_rfl) (fun fr hn=>(hok_of (l:=[((sub (bodyOf Tryz.f57) [1,1,1]),{ sh:=sh57j5,model:=m57j5 F })]) (by kernel_rfl) (obl_cons (ok57j5 F fr hn) obl_nil))) (fun x=>by kernel_rfl)
def sg24:Sig:={ modes:=[.ro,.ro],sh:=[(0,.d (.slice (.pair (.int .i64) (.pair (.int .i64) .unit)))),(1,.d (.int .i64))],keeps:=false,fresh:=some (0,110),rtys:=[(.slice (.pair (.int .i64) (.pair (.int .i64) (.pair (.int .i64) (.pair (.pair .bool (.pair (.pair tyV (.pair tyV .unit)) (.pair (.pair tyV (.pair tyV .unit)) .unit))) .unit))))),(.int .i64)] }
def con24(F:Nat):Contract:=mkCon sg24 fun x=>ref19_All F x.1 x.2.1
def cx24(F:Nat):Cx:={ types:=tys,call:=callsL [(55,con55 F),(56,con56 F),(57,con57 F),(58,con58 F)],own:=[4,8],ntmps:=(0,54) }
theorem cs24(F:Nat):∀ f c,(cx24 F).call f=some c→CMet Tryz.prog f c:=callsL_sound (calls_cons (s55 F) (calls_cons (s56 F) (calls_cons (s57 F) (calls_cons (s58 F) calls_nil))))
def sh24l10:Shape:=[(0,.d (.slice (.pair (.int .i64) (.pair (.int .i64) .unit)))),(6,.box 6 (.pair (.int .i64) (.pair (.int .i64) (.pair (.int .i64) (.pair (.pair (.int .i64) (.pair (.int .i64) .unit)) (.pair (.int .i64) (.pair (.int .i64) (.pair (.pair .bool (.pair (.pair tyV (.pair tyV .unit)) (.pair (.pair tyV (.pair tyV .unit)) .unit))) .unit)))))))),(8,.own 8 (.pair (.int .i64) (.pair (.int .i64) (.pair (.int .i64) (.pair (.pair .bool (.pair (.pair tyV (.pair tyV .unit)) (.pair (.pair tyV (.pair tyV .unit)) .unit))) .unit)))) 110),(9,.d (.int .i64))]
def sh24l10o0:Shape:=[(6,.box 6 (.pair (.int .i64) (.pair (.int .i64) (.pair (.int .i64) (.pair (.pair (.int .i64) (.pair (.int .i64) .unit)) (.pair (.int .i64) (.pair (.int .i64) (.pair (.pair .bool (.pair (.pair tyV (.pair tyV .unit)) (.pair (.pair tyV (.pair tyV .unit)) .unit))) .unit)))))))),(8,.own 8 (.pair (.int .i64) (.pair (.int .i64) (.pair (.int .i64) (.pair (.pair .bool (.pair (.pair tyV (.pair tyV .unit)) (.pair (.pair tyV (.pair tyV .unit)) .unit))) .unit)))) 110)]
def outs24l10:Outs:=[(2,sh24l10o0)]
def m24l10(F:Nat)(n:Nat){R:Type}(x:Shape.den sh24l10)(K:Ex→St→Option R):Option R:=ref19_All_l10 F (fun y6 y8=>K (.exit 0) (enc sh24l10o0 (y6,y8,()))) n x.1 x.2.1 x.2.2.1 x.2.2.2.1
def hs24(F:Nat):Nat→Option (Hint (Dens sg24.rtys)):=hintL [(10,{ sh:=sh24l10,model:=m24l10 F F })]
theorem ok24l10(F:Nat)(fr:Frm)(hn:(cx24 F).ntmps=fr.n)(n:Nat):MSound (R:=(Dens sg24.rtys)) Tryz.prog fr (.loop (sub (bodyOf Tryz.f24) [1,1,1,1,1,1,0,1,0,0])) sh24l10 (m24l10 F n) :=
 loop_sound (cx:=cx24 F) (hs:=hs24 F) (js:=hintL []) (outs:=outs24l10) (conf_all _ rfl) (cs24 F) hn mix (m:=fun n=>m24l10 F n) (fun _ _=>rfl) (fun n x K=>by kernel_rfl) (hok_of (l:=[]) (by kernel_rfl) obl_nil) n
theorem s24(F:Nat):CSound Tryz.prog 24 (con24 F) :=
 fn_sound (fn:=Tryz.f24) (code:=(bodyOf Tryz.f24)) (cx:=cx24 F) (hs:=hs24 F) (js:=hintL []) Tryz.func24 (by kernel_rfl) (by kernel_rfl) (conf_all _ rfl) (cs24 F) mix (by kernel_rfl) (by kernel_rfl) (fun fr hn=>(hok_of (l:=[((.loop (sub (bodyOf Tryz.f24) [1,1,1,1,1,1,0,1,0,0])),{ sh:=sh24l10,model:=m24l10 F F })]) (by kernel_rfl) (obl_cons (ok24l10 F fr hn F) obl_nil))) (fun x=>by kernel_rfl)
def sg61:Sig:={ modes:=[.ro,.ro],sh:=[(0,.d (.pair (.int .i64) (.pair (.int .i64) (.pair (.int .i64) (.pair (.pair .bool (.pair (.pair tyV (.pair tyV .unit)) (.pair (.pair tyV (.pair tyV .unit)) .unit))) .unit))))),(1,.d (.pair (.int .i64) (.pair (.int .i64) (.pair (.int .i64) (.pair (.pair .bool (.pair (.pair tyV (.pair tyV .unit)) (.pair (.pair tyV (.pair tyV .unit)) .unit))) .unit)))))],keeps:=true,fresh:=none,rtys:=[.bool] }
def con61(F:Nat):Contract:=mkCon sg61 fun x=>ref21_Before F x.1 x.2.1
def cx61(F:Nat):Cx:={ types:=tys,call:=callsL [(43,con43 F)],own:=[],ntmps:=(0,58) }
theorem cs61(F:Nat):∀ f c,(cx61 F).call f=some c→CMet Tryz.prog f c:=callsL_sound (calls_cons (s43 F) calls_nil)
theorem s61(F:Nat):CSound Tryz.prog 61 (con61 F) :=
 fn_sound (fn:=Tryz.f61) (code:=(bodyOf Tryz.f61)) (cx:=cx61 F) (hs:=hintL []) (js:=hintL []) Tryz.func61 (by kernel_rfl) (by kernel_rfl) (conf_all _ rfl) (cs61 F) mix (by kernel_rfl) (by kernel_rfl) (fun fr hn=>(hok_of (l:=[]) (by kernel_rfl) obl_nil)) (fun x=>by kernel_rfl)
def sg63:Sig:={ modes:=[.ro,.ro],sh:=[(0,.d (.slice (.int .i64))),(1,.d (.int .i64))],keeps:=false,fresh:=some (0,3),rtys:=[(.slice (.int .i64))] }
def con63(F:Nat):Contract:=mkCon sg63 fun x=>ref21_insert F x.1 x.2.1
def cx63(F:Nat):Cx:={ types:=tys,call:=callsL [],own:=[4,5],ntmps:=(0,42) }
theorem cs63(F:Nat):∀ f c,(cx63 F).call f=some c→CMet Tryz.prog f c:=callsL_sound calls_nil
def sh63l4:Shape:=[(0,.d (.slice (.int .i64))),(1,.d (.int .i64)),(5,.own 5 (.int .i64) 3),(6,.d .bool),(7,.d (.int .i64))]
def sh63l4o0:Shape:=[(1,.d (.int .i64)),(5,.own 5 (.int .i64) 3),(6,.d .bool)]
def outs63l4:Outs:=[(2,sh63l4o0)]
def m63l4(F:Nat)(n:Nat){R:Type}(x:Shape.den sh63l4)(K:Ex→St→Option R):Option R:=ref21_insert_l4 F (fun y1 y5 y6=>K (.exit 0) (enc sh63l4o0 (y1,y5,y6,()))) n x.1 x.2.1 x.2.2.1 x.2.2.2.1 x.2.2.2.2.1
def hs63(F:Nat):Nat→Option (Hint (Dens sg63.rtys)):=hintL [(4,{ sh:=sh63l4,model:=m63l4 F F })]
theorem ok63l4(F:Nat)(fr:Frm)(hn:(cx63 F).ntmps=fr.n)(n:Nat):MSound (R:=(Dens sg63.rtys)) Tryz.prog fr (.loop (sub (bodyOf Tryz.f63) [1,1,1,0,1,0,0])) sh63l4 (m63l4 F n) :=
 loop_sound (cx:=cx63 F) (hs:=hs63 F) (js:=hintL []) (outs:=outs63l4) (conf_all _ rfl) (cs63 F) hn mix (m:=fun n=>m63l4 F n) (fun _ _=>rfl) (fun n x K=>by kernel_rfl) (hok_of (l:=[]) (by kernel_rfl) obl_nil) n
theorem s63(F:Nat):CSound Tryz.prog 63 (con63 F) :=
 fn_sound (fn:=Tryz.f63) (code:=(bodyOf Tryz.f63)) (cx:=cx63 F) (hs:=hs63 F) (js:=hintL []) Tryz.func63 (by kernel_rfl) (by kernel_rfl) (conf_all _ rfl) (cs63 F) mix (by kernel_rfl) (by kernel_rfl) (fun fr hn=>(hok_of (l:=[((.loop (sub (bodyOf Tryz.f63) [1,1,1,0,1,0,0])),{ sh:=sh63l4,model:=m63l4 F F })]) (by kernel_rfl) (obl_cons (ok63l4 F fr hn F) obl_nil))) (fun x=>by kernel_rfl)
def sg44:Sig:={ modes:=[.ro],sh:=[(0,.d (.int .i64))],keeps:=true,fresh:=none,rtys:=[(.pair tyV (.pair tyV .unit))] }
def con44(F:Nat):Contract:=mkCon sg44 fun x=>ref03_Of F x.1
def cx44(F:Nat):Cx:={ types:=tys,call:=callsL [(65,con65 F),(94,con94 F)],own:=[],ntmps:=(0,7) }
theorem cs44(F:Nat):∀ f c,(cx44 F).call f=some c→CMet Tryz.prog f c:=callsL_sound (calls_cons (s65 F) (calls_cons (s94 F) calls_nil))
theorem s44(F:Nat):CSound Tryz.prog 44 (con44 F) :=
 fn_sound (fn:=Tryz.f44) (code:=(bodyOf Tryz.f44)) (cx:=cx44 F) (hs:=hintL []) (js:=hintL []) Tryz.func44 (by kernel_rfl) (by kernel_rfl) (conf_all _ rfl) (cs44 F) mix (by kernel_rfl) (by kernel_rfl) (fun fr hn=>(hok_of (l:=[]) (by kernel_rfl) obl_nil)) (fun x=>by kernel_rfl)
def sg158:Sig:={ modes:=[.ro,.ro,.ro,.ro],sh:=[(0,.d tyV),(1,.d tyV),(2,.d tyV),(3,.d tyV)],keeps:=true,fresh:=none,rtys:=[tyV,tyV] }
def con158(F:Nat):Contract:=mkCon sg158 fun x=>ref04_positive F x.1 x.2.1 x.2.2.1 x.2.2.2.1
def conr158(F n:Nat):Contract:=mkCon sg158 fun x=>ref04_positive_r n F x.1 x.2.1 x.2.2.1 x.2.2.2.1
def cx158(F:Nat)(n:Nat):Cx:={ types:=tys,call:=callsL [(123,con123 F),(90,con90 F),(65,con65 F),(156,con156 F),(68,con68 F),(96,con96 F),(155,con155 F),(158,conr158 F n)],own:=[],ntmps:=(0,95) }
theorem cs158(F n:Nat)(ih:CSound Tryz.prog 158 (conr158 F n)):∀ f c,(cx158 F n).call f=some c→CMet Tryz.prog f c:=callsL_sound (calls_cons (s123 F) (calls_cons (s90 F) (calls_cons (s65 F) (calls_cons (s156 F) (calls_cons (s68 F) (calls_cons (s96 F) (calls_cons (s155 F) (calls_cons ih calls_nil))))))))
theorem sr158(F:Nat):∀ n,CSound Tryz.prog 158 (conr158 F n)
 | 0=>none_sound (fn:=Tryz.f158) (code:=(bodyOf Tryz.f158)) (cx:=cx158 F 0) Tryz.func158 (by kernel_rfl) (by kernel_rfl) (by kernel_rfl) (fun x=>rfl)
 | n+1 =>
  fn_sound (fn:=Tryz.f158) (code:=(bodyOf Tryz.f158)) (cx:=cx158 F n) (hs:=hintL []) (js:=hintL []) Tryz.func158 (by kernel_rfl) (by kernel_rfl) (conf_all _ rfl) (cs158 F n (sr158 F n)) mix (by kernel_rfl) (by kernel_rfl) (fun fr hn=>(hok_of (l:=[]) (by kernel_rfl) obl_nil)) (fun x=>by kernel_rfl)
theorem s158(F:Nat):CSound Tryz.prog 158 (con158 F):=sr158 F F
def sg118:Sig:={ modes:=[.ro,.ro],sh:=[(0,.d (.pair tyV (.pair tyV .unit))),(1,.d (.pair tyV (.pair tyV .unit)))],keeps:=true,fresh:=none,rtys:=[(.pair tyV (.pair tyV .unit)),.bool] }
def con118(F:Nat):Contract:=mkCon sg118 fun x=>ref04_Between F x.1 x.2.1
def cx118(F:Nat):Cx:={ types:=tys,call:=callsL [(42,con42 F),(43,con43 F),(90,con90 F),(44,con44 F),(70,con70 F),(158,con158 F)],own:=[],ntmps:=(0,83) }
theorem cs118(F:Nat):∀ f c,(cx118 F).call f=some c→CMet Tryz.prog f c:=callsL_sound (calls_cons (s42 F) (calls_cons (s43 F) (calls_cons (s90 F) (calls_cons (s44 F) (calls_cons (s70 F) (calls_cons (s158 F) calls_nil))))))
def sh118j4:Shape:=[(2,.box 2 (.pair tyV (.pair tyV .unit))),(3,.box 3 (.pair tyV (.pair tyV .unit))),(4,.box 4 (.pair tyV (.pair tyV .unit))),(36,.d .bool)]
def sh118j4on:Shape:=[(2,.box 2 (.pair tyV (.pair tyV .unit))),(3,.box 3 (.pair tyV (.pair tyV .unit))),(4,.box 4 (.pair tyV (.pair tyV .unit)))]
def sh118j4oret:Shape:=[(4,.box 4 (.pair tyV (.pair tyV .unit))),(5,.d .bool)]
def outs118j4:Outs:=[(0,sh118j4on),(1,sh118j4oret)]
def m118j4(F:Nat){R:Type}(x:Shape.den sh118j4)(K:Ex→St→Option R):Option R:=ref04_Between_j4 F (fun y2 y3 y4=>K .normal (enc sh118j4on (y2,y3,y4,()))) (fun y4 y5=>K .ret (enc sh118j4oret (y4,y5,()))) x.1 x.2.1 x.2.2.1 x.2.2.2.1
def sh118j5:Shape:=[(2,.box 2 (.pair tyV (.pair tyV .unit))),(3,.box 3 (.pair tyV (.pair tyV .unit))),(4,.box 4 (.pair tyV (.pair tyV .unit)))]
def sh118j5oret:Shape:=[(4,.box 4 (.pair tyV (.pair tyV .unit))),(5,.d .bool)]
def outs118j5:Outs:=[(1,sh118j5oret)]
def m118j5(F:Nat){R:Type}(x:Shape.den sh118j5)(K:Ex→St→Option R):Option R:=ref04_Between_j5 F (fun y4 y5=>K .ret (enc sh118j5oret (y4,y5,()))) x.1 x.2.1 x.2.2.1
def js118(F:Nat):Nat→Option (Hint (Dens sg118.rtys)):=hintL [(4,{ sh:=sh118j4,model:=m118j4 F }),(5,{ sh:=sh118j5,model:=m118j5 F })]
theorem ok118j4(F:Nat)(fr:Frm)(hn:(cx118 F).ntmps=fr.n):MSound (R:=(Dens sg118.rtys)) Tryz.prog fr (sub (bodyOf Tryz.f118) [1,1,0,1]) sh118j4 (m118j4 F) :=
 join_sound (cx:=cx118 F) (hs:=hintL []) (js:=js118 F) (outs:=outs118j4) (conf_all _ rfl) (cs118 F) hn mix (fun x K=>by kernel_rfl) (hok_of (l:=[]) (by kernel_rfl) obl_nil)
theorem ok118j5(F:Nat)(fr:Frm)(hn:(cx118 F).ntmps=fr.n):MSound (R:=(Dens sg118.rtys)) Tryz.prog fr (sub (bodyOf Tryz.f118) [1,1,1]) sh118j5 (m118j5 F) :=
 join_sound (cx:=cx118 F) (hs:=hintL []) (js:=js118 F) (outs:=outs118j5) (conf_all _ rfl) (cs118 F) hn mix (fun x K=>by kernel_rfl) (hok_of (l:=[]) (by kernel_rfl) obl_nil)
theorem s118(F:Nat):CSound Tryz.prog 118 (con118 F) :=
 fn_sound (fn:=Tryz.f118) (code:=(bodyOf Tryz.f118)) (cx:=cx118 F) (hs:=hintL []) (js:=js118 F) Tryz.func118 (by kernel_rfl) (by kernel_rfl) (conf_all _ rfl) (cs118 F) mix (by kernel_rfl) (by kernel_rfl) (fun fr hn=>(hok_of (l:=[((sub (bodyOf Tryz.f118) [1,1,0,1]),{ sh:=sh118j4,model:=m118j4 F }),((sub (bodyOf Tryz.f118) [1,1,1]),{ sh:=sh118j5,model:=m118j5 F })]) (by kernel_rfl) (obl_cons (ok118j4 F fr hn) (obl_cons (ok118j5 F fr hn) obl_nil)))) (fun x=>by kernel_rfl)
def sg64:Sig:={ modes:=[.ro],sh:=[(0,.d (.pair .bool (.pair (.pair tyV (.pair tyV .unit)) (.pair (.pair tyV (.pair tyV .unit)) .unit))))],keeps:=true,fresh:=none,rtys:=[(.pair tyV (.pair tyV .unit))] }
def con64(F:Nat):Contract:=mkCon sg64 fun x=>ref13_Choose F x.1
def cx64(F:Nat):Cx:={ types:=tys,call:=callsL [(60,con60 F),(44,con44 F),(118,con118 F)],own:=[],ntmps:=(0,21) }
theorem cs64(F:Nat):∀ f c,(cx64 F).call f=some c→CMet Tryz.prog f c:=callsL_sound (calls_cons (s60 F) (calls_cons (s44 F) (calls_cons (s118 F) calls_nil)))
theorem s64(F:Nat):CSound Tryz.prog 64 (con64 F) :=
 fn_sound (fn:=Tryz.f64) (code:=(bodyOf Tryz.f64)) (cx:=cx64 F) (hs:=hintL []) (js:=hintL []) Tryz.func64 (by kernel_rfl) (by kernel_rfl) (conf_all _ rfl) (cs64 F) mix (by kernel_rfl) (by kernel_rfl) (fun fr hn=>(hok_of (l:=[]) (by kernel_rfl) obl_nil)) (fun x=>by kernel_rfl)
def sg26:Sig:={ modes:=[.ro],sh:=[(0,.d (.slice (.pair (.int .i64) (.pair (.int .i64) (.pair (.int .i64) (.pair (.pair .bool (.pair (.pair tyV (.pair tyV .unit)) (.pair (.pair tyV (.pair tyV .unit)) .unit))) .unit))))))],keeps:=false,fresh:=some (0,56),rtys:=[(.slice (.pair (.int .i64) (.pair (.pair tyV (.pair tyV .unit)) (.pair (.slice (.int .i64)) .unit)))),(.int .i64)] }
def con26(F:Nat):Contract:=mkCon sg26 fun x=>ref21_Join F x.1
def cx26(F:Nat):Cx:={ types:=tys,call:=callsL [(60,con60 F),(61,con61 F),(62,con62 F),(63,con63 F),(64,con64 F)],own:=[2,8,51],ntmps:=(0,176) }
theorem cs26(F:Nat):∀ f c,(cx26 F).call f=some c→CMet Tryz.prog f c:=callsL_sound (calls_cons (s60 F) (calls_cons (s61 F) (calls_cons (s62 F) (calls_cons (s63 F) (calls_cons (s64 F) calls_nil)))))
def sh26l7:Shape:=[(0,.d (.slice (.pair (.int .i64) (.pair (.int .i64) (.pair (.int .i64) (.pair (.pair .bool (.pair (.pair tyV (.pair tyV .unit)) (.pair (.pair tyV (.pair tyV .unit)) .unit))) .unit)))))),(4,.d (.int .i64)),(5,.d (.int .i64))]
def sh26l7o2:Shape:=[(0,.d (.slice (.pair (.int .i64) (.pair (.int .i64) (.pair (.int .i64) (.pair (.pair .bool (.pair (.pair tyV (.pair tyV .unit)) (.pair (.pair tyV (.pair tyV .unit)) .unit))) .unit)))))),(4,.d (.int .i64))]
def sh26l7oret:Shape:=[(2,.own 2 (.pair (.int .i64) (.pair (.pair tyV (.pair tyV .unit)) (.pair (.slice (.int .i64)) .unit))) 56),(3,.d (.int .i64))]
def outs26l7:Outs:=[(4,sh26l7o2),(1,sh26l7oret)]
def m26l7(F:Nat)(n:Nat){R:Type}(x:Shape.den sh26l7)(K:Ex→St→Option R):Option R:=ref21_Join_l7 F (fun y0 y4=>K (.exit 2) (enc sh26l7o2 (y0,y4,()))) (fun y2 y3=>K .ret (enc sh26l7oret (y2,y3,()))) n x.1 x.2.1 x.2.2.1
def sh26l2:Shape:=[(0,.d (.slice (.pair (.int .i64) (.pair (.int .i64) (.pair (.int .i64) (.pair (.pair .bool (.pair (.pair tyV (.pair tyV .unit)) (.pair (.pair tyV (.pair tyV .unit)) .unit))) .unit)))))),(4,.d (.int .i64))]
def sh26l2o0:Shape:=[(0,.d (.slice (.pair (.int .i64) (.pair (.int .i64) (.pair (.int .i64) (.pair (.pair .bool (.pair (.pair tyV (.pair tyV .unit)) (.pair (.pair tyV (.pair tyV .unit)) .unit))) .unit))))))]
def sh26l2oret:Shape:=[(2,.own 2 (.pair (.int .i64) (.pair (.pair tyV (.pair tyV .unit)) (.pair (.slice (.int .i64)) .unit))) 56),(3,.d (.int .i64))]
def outs26l2:Outs:=[(2,sh26l2o0),(1,sh26l2oret)]
def m26l2(F:Nat)(n:Nat){R:Type}(x:Shape.den sh26l2)(K:Ex→St→Option R):Option R:=ref21_Join_l2 F (fun y0=>K (.exit 0) (enc sh26l2o0 (y0,()))) (fun y2 y3=>K .ret (enc sh26l2oret (y2,y3,()))) n x.1 x.2.1
def sh26l16:Shape:=[(0,.own 0 (.pair (.int .i64) (.pair (.int .i64) (.pair (.int .i64) (.pair (.pair .bool (.pair (.pair tyV (.pair tyV .unit)) (.pair (.pair tyV (.pair tyV .unit)) .unit))) .unit)))) 110),(6,.d (.int .i64)),(7,.d (.int .i64))]
def sh26l16o6:Shape:=[(0,.own 0 (.pair (.int .i64) (.pair (.int .i64) (.pair (.int .i64) (.pair (.pair .bool (.pair (.pair tyV (.pair tyV .unit)) (.pair (.pair tyV (.pair tyV .unit)) .unit))) .unit)))) 110),(6,.d (.int .i64))]
def outs26l16:Outs:=[(8,sh26l16o6)]
def m26l16(F:Nat)(n:Nat){R:Type}(x:Shape.den sh26l16)(K:Ex→St→Option R):Option R:=ref21_Join_l16 F (fun y0 y6=>K (.exit 6) (enc sh26l16o6 (y0,y6,()))) n x.1 x.2.1 x.2.2.1
def sh26l13:Shape:=[(0,.own 0 (.pair (.int .i64) (.pair (.int .i64) (.pair (.int .i64) (.pair (.pair .bool (.pair (.pair tyV (.pair tyV .unit)) (.pair (.pair tyV (.pair tyV .unit)) .unit))) .unit)))) 110),(6,.d (.int .i64))]
def sh26l13o4:Shape:=[(0,.own 0 (.pair (.int .i64) (.pair (.int .i64) (.pair (.int .i64) (.pair (.pair .bool (.pair (.pair tyV (.pair tyV .unit)) (.pair (.pair tyV (.pair tyV .unit)) .unit))) .unit)))) 110)]
def outs26l13:Outs:=[(6,sh26l13o4)]
def m26l13(F:Nat)(n:Nat){R:Type}(x:Shape.den sh26l13)(K:Ex→St→Option R):Option R:=ref21_Join_l13 F (fun y0=>K (.exit 4) (enc sh26l13o4 (y0,()))) n x.1 x.2.1
def sh26j27:Shape:=[(0,.own 0 (.pair (.int .i64) (.pair (.int .i64) (.pair (.int .i64) (.pair (.pair .bool (.pair (.pair tyV (.pair tyV .unit)) (.pair (.pair tyV (.pair tyV .unit)) .unit))) .unit)))) 110),(8,.own 8 (.pair (.int .i64) (.pair (.pair tyV (.pair tyV .unit)) (.pair (.slice (.int .i64)) .unit))) 56),(9,.box 9 (.pair .bool (.pair (.pair tyV (.pair tyV .unit)) (.pair (.pair tyV (.pair tyV .unit)) .unit)))),(10,.d (.int .i64)),(11,.box 11 (.pair .bool (.pair (.pair tyV (.pair tyV .unit)) (.pair (.pair tyV (.pair tyV .unit)) .unit)))),(13,.d (.int .i64)),(130,.d .bool)]
def sh26j27o9:Shape:=[(0,.own 0 (.pair (.int .i64) (.pair (.int .i64) (.pair (.int .i64) (.pair (.pair .bool (.pair (.pair tyV (.pair tyV .unit)) (.pair (.pair tyV (.pair tyV .unit)) .unit))) .unit)))) 110),(8,.own 8 (.pair (.int .i64) (.pair (.pair tyV (.pair tyV .unit)) (.pair (.slice (.int .i64)) .unit))) 56),(9,.box 9 (.pair .bool (.pair (.pair tyV (.pair tyV .unit)) (.pair (.pair tyV (.pair tyV .unit)) .unit)))),(10,.d (.int .i64))]
def sh26j27on:Shape:=[(0,.own 0 (.pair (.int .i64) (.pair (.int .i64) (.pair (.int .i64) (.pair (.pair .bool (.pair (.pair tyV (.pair tyV .unit)) (.pair (.pair tyV (.pair tyV .unit)) .unit))) .unit)))) 110),(8,.own 8 (.pair (.int .i64) (.pair (.pair tyV (.pair tyV .unit)) (.pair (.slice (.int .i64)) .unit))) 56),(9,.box 9 (.pair .bool (.pair (.pair tyV (.pair tyV .unit)) (.pair (.pair tyV (.pair tyV .unit)) .unit)))),(10,.d (.int .i64))]
def outs26j27:Outs:=[(11,sh26j27o9),(0,sh26j27on)]
def m26j27(F:Nat){R:Type}(x:Shape.den sh26j27)(K:Ex→St→Option R):Option R:=ref21_Join_j27 F (fun y0 y8 y9 y10=>K (.exit 9) (enc sh26j27o9 (y0,y8,y9,y10,()))) (fun y0 y8 y9 y10=>K .normal (enc sh26j27on (y0,y8,y9,y10,()))) x.1 x.2.1 x.2.2.1 x.2.2.2.1 x.2.2.2.2.1 x.2.2.2.2.2.1 x.2.2.2.2.2.2.1
def sh26j30:Shape:=[(0,.own 0 (.pair (.int .i64) (.pair (.int .i64) (.pair (.int .i64) (.pair (.pair .bool (.pair (.pair tyV (.pair tyV .unit)) (.pair (.pair tyV (.pair tyV .unit)) .unit))) .unit)))) 110),(8,.own 8 (.pair (.int .i64) (.pair (.pair tyV (.pair tyV .unit)) (.pair (.slice (.int .i64)) .unit))) 56),(9,.box 9 (.pair .bool (.pair (.pair tyV (.pair tyV .unit)) (.pair (.pair tyV (.pair tyV .unit)) .unit)))),(10,.d (.int .i64))]
def sh26j30on:Shape:=[(0,.own 0 (.pair (.int .i64) (.pair (.int .i64) (.pair (.int .i64) (.pair (.pair .bool (.pair (.pair tyV (.pair tyV .unit)) (.pair (.pair tyV (.pair tyV .unit)) .unit))) .unit)))) 110),(8,.own 8 (.pair (.int .i64) (.pair (.pair tyV (.pair tyV .unit)) (.pair (.slice (.int .i64)) .unit))) 56),(9,.box 9 (.pair .bool (.pair (.pair tyV (.pair tyV .unit)) (.pair (.pair tyV (.pair tyV .unit)) .unit)))),(10,.d (.int .i64))]
def outs26j30:Outs:=[(0,sh26j30on)]
def m26j30(F:Nat){R:Type}(x:Shape.den sh26j30)(K:Ex→St→Option R):Option R:=ref21_Join_j30 F (fun y0 y8 y9 y10=>K .normal (enc sh26j30on (y0,y8,y9,y10,()))) x.1 x.2.1 x.2.2.1 x.2.2.2.1
def sh26l22:Shape:=[(0,.own 0 (.pair (.int .i64) (.pair (.int .i64) (.pair (.int .i64) (.pair (.pair .bool (.pair (.pair tyV (.pair tyV .unit)) (.pair (.pair tyV (.pair tyV .unit)) .unit))) .unit)))) 110),(8,.own 8 (.pair (.int .i64) (.pair (.pair tyV (.pair tyV .unit)) (.pair (.slice (.int .i64)) .unit))) 56),(9,.box 9 (.pair .bool (.pair (.pair tyV (.pair tyV .unit)) (.pair (.pair tyV (.pair tyV .unit)) .unit)))),(10,.d (.int .i64))]
def sh26l22o8:Shape:=[(8,.own 8 (.pair (.int .i64) (.pair (.pair tyV (.pair tyV .unit)) (.pair (.slice (.int .i64)) .unit))) 56)]
def outs26l22:Outs:=[(10,sh26l22o8)]
def m26l22(F:Nat)(n:Nat){R:Type}(x:Shape.den sh26l22)(K:Ex→St→Option R):Option R:=ref21_Join_l22 F (fun y8=>K (.exit 8) (enc sh26l22o8 (y8,()))) n x.1 x.2.1 x.2.2.1 x.2.2.2.1
def hs26(F:Nat):Nat→Option (Hint (Dens sg26.rtys)):=hintL [(7,{ sh:=sh26l7,model:=m26l7 F F }),(2,{ sh:=sh26l2,model:=m26l2 F F }),(16,{ sh:=sh26l16,model:=m26l16 F F }),(13,{ sh:=sh26l13,model:=m26l13 F F }),(22,{ sh:=sh26l22,model:=m26l22 F F })]
def js26(F:Nat):Nat→Option (Hint (Dens sg26.rtys)):=hintL [(27,{ sh:=sh26j27,model:=m26j27 F }),(30,{ sh:=sh26j30,model:=m26j30 F })]
theorem ok26l7(F:Nat)(fr:Frm)(hn:(cx26 F).ntmps=fr.n)(n:Nat):MSound (R:=(Dens sg26.rtys)) Tryz.prog fr (.loop (sub (bodyOf Tryz.f26) [1,0,1,0,0,1,0,0,1,1,0,0])) sh26l7 (m26l7 F n) :=
 loop_sound (cx:=cx26 F) (hs:=hs26 F) (js:=js26 F) (outs:=outs26l7) (conf_all _ rfl) (cs26 F) hn mix (m:=fun n=>m26l7 F n) (fun _ _=>rfl) (fun n x K=>by kernel_rfl) (hok_of (l:=[]) (by kernel_rfl) obl_nil) n
theorem ok26l2(F:Nat)(fr:Frm)(hn:(cx26 F).ntmps=fr.n)(n:Nat):MSound (R:=(Dens sg26.rtys)) Tryz.prog fr (.loop (sub (bodyOf Tryz.f26) [1,0,1,0,0])) sh26l2 (m26l2 F n) :=
 loop_sound (cx:=cx26 F) (hs:=hs26 F) (js:=js26 F) (outs:=outs26l2) (conf_all _ rfl) (cs26 F) hn mix (m:=fun n=>m26l2 F n) (fun _ _=>rfl) (fun n x K=>by kernel_rfl) (hok_of (l:=[((.loop (sub (bodyOf Tryz.f26) [1,0,1,0,0,1,0,0,1,1,0,0])),{ sh:=sh26l7,model:=m26l7 F F })]) (by kernel_rfl) (obl_cons (ok26l7 F fr hn F) obl_nil)) n
theorem ok26l16(F:Nat)(fr:Frm)(hn:(cx26 F).ntmps=fr.n)(n:Nat):MSound (R:=(Dens sg26.rtys)) Tryz.prog fr (.loop (sub (bodyOf Tryz.f26) [1,1,1,0,1,0,0,1,0,0,1,0,0])) sh26l16 (m26l16 F n) :=
 loop_sound (cx:=cx26 F) (hs:=hs26 F) (js:=js26 F) (outs:=outs26l16) (conf_all _ rfl) (cs26 F) hn mix (m:=fun n=>m26l16 F n) (fun _ _=>rfl) (fun n x K=>by kernel_rfl) (hok_of (l:=[]) (by kernel_rfl) obl_nil) n
theorem ok26l13(F:Nat)(fr:Frm)(hn:(cx26 F).ntmps=fr.n)(n:Nat):MSound (R:=(Dens sg26.rtys)) Tryz.prog fr (.loop (sub (bodyOf Tryz.f26) [1,1,1,0,1,0,0])) sh26l13 (m26l13 F n) :=
 loop_sound (cx:=cx26 F) (hs:=hs26 F) (js:=js26 F) (outs:=outs26l13) (conf_all _ rfl) (cs26 F) hn mix (m:=fun n=>m26l13 F n) (fun _ _=>rfl) (fun n x K=>by kernel_rfl) (hok_of (l:=[((.loop (sub (bodyOf Tryz.f26) [1,1,1,0,1,0,0,1,0,0,1,0,0])),{ sh:=sh26l16,model:=m26l16 F F })]) (by kernel_rfl) (obl_cons (ok26l16 F fr hn F) obl_nil)) n
theorem ok26j27(F:Nat)(fr:Frm)(hn:(cx26 F).ntmps=fr.n):MSound (R:=(Dens sg26.rtys)) Tryz.prog fr (sub (bodyOf Tryz.f26) [1,1,1,1,1,1,0,1,0,0,1,0,0,1,1,0,1]) sh26j27 (m26j27 F) :=
 join_sound (cx:=cx26 F) (hs:=hs26 F) (js:=js26 F) (outs:=outs26j27) (conf_all _ rfl) (cs26 F) hn mix (fun x K=>by kernel_rfl) (hok_of (l:=[]) (by kernel_rfl) obl_nil)
theorem ok26j30(F:Nat)(fr:Frm)(hn:(cx26 F).ntmps=fr.n):MSound (R:=(Dens sg26.rtys)) Tryz.prog fr (sub (bodyOf Tryz.f26) [1,1,1,1,1,1,0,1,0,0,1,0,0,1,1,1]) sh26j30 (m26j30 F) :=
 join_sound (cx:=cx26 F) (hs:=hs26 F) (js:=js26 F) (outs:=outs26j30) (conf_all _ rfl) (cs26 F) hn mix (fun x K=>by kernel_rfl) (hok_of (l:=[]) (by kernel_rfl) obl_nil)
theorem ok26l22(F:Nat)(fr:Frm)(hn:(cx26 F).ntmps=fr.n)(n:Nat):MSound (R:=(Dens sg26.rtys)) Tryz.prog fr (.loop (sub (bodyOf Tryz.f26) [1,1,1,1,1,1,0,1,0,0])) sh26l22 (m26l22 F n) :=
 loop_sound (cx:=cx26 F) (hs:=hs26 F) (js:=js26 F) (outs:=outs26l22) (conf_all _ rfl) (cs26 F) hn mix (m:=fun n=>m26l22 F n) (fun _ _=>rfl) (fun n x K=>by kernel_rfl) (hok_of (l:=[((sub (bodyOf Tryz.f26) [1,1,1,1,1,1,0,1,0,0,1,0,0,1,1,0,1]),{ sh:=sh26j27,model:=m26j27 F }),((sub (bodyOf Tryz.f26) [1,1,1,1,1,1,0,1,0,0,1,0,0,1,1,1]),{ sh:=sh26j30,model:=m26j30 F })]) (by kernel_rfl) (obl_cons (ok26j27 F fr hn) (obl_cons (ok26j30 F fr hn) obl_nil))) n
theorem s26(F:Nat):CSound Tryz.prog 26 (con26 F) :=
 fn_sound (fn:=Tryz.f26) (code:=(bodyOf Tryz.f26)) (cx:=cx26 F) (hs:=hs26 F) (js:=js26 F) Tryz.func26 (by kernel_rfl) (by kernel_rfl) (conf_all _ rfl) (cs26 F) mix (by kernel_rfl) (by kernel_rfl) (fun fr hn=>(hok_of (l:=[((.loop (sub (bodyOf Tryz.f26) [1,0,1,0,0])),{ sh:=sh26l2,model:=m26l2 F F }),((.loop (sub (bodyOf Tryz.f26) [1,1,1,0,1,0,0])),{ sh:=sh26l13,model:=m26l13 F F }),((.loop (sub (bodyOf Tryz.f26) [1,1,1,1,1,1,0,1,0,0])),{ sh:=sh26l22,model:=m26l22 F F })]) (by kernel_rfl) (obl_cons (ok26l2 F fr hn F) (obl_cons (ok26l13 F fr hn F) (obl_cons (ok26l22 F fr hn F) obl_nil))))) (fun x=>by kernel_rfl)
def sg8:Sig:={ modes:=[.bor],sh:=[(0,.box 0 (.pair (.slice (.int .i64)) (.pair (.int .i64) .unit)))],keeps:=false,fresh:=some (0,56),rtys:=[(.pair (.slice (.int .i64)) (.pair (.int .i64) .unit)),(.slice (.pair (.int .i64) (.pair (.pair tyV (.pair tyV .unit)) (.pair (.slice (.int .i64)) .unit)))),(.int .i64)] }
def con8(F:Nat):Contract:=mkCon sg8 fun x=>law22_list F x.1
def cx8(F:Nat):Cx:={ types:=tys,call:=callsL [(23,con23 F),(25,con25 F),(24,con24 F),(26,con26 F)],own:=[2,20],ntmps:=(1,26) }
theorem cs8(F:Nat):∀ f c,(cx8 F).call f=some c→CMet Tryz.prog f c:=callsL_sound (calls_cons (s23 F) (calls_cons (s25 F) (calls_cons (s24 F) (calls_cons (s26 F) calls_nil))))
theorem s8(F:Nat):CSound Tryz.prog 8 (con8 F) :=
 fn_sound (fn:=Tryz.f8) (code:=(bodyOf Tryz.f8)) (cx:=cx8 F) (hs:=hintL []) (js:=hintL []) Tryz.func8 (by kernel_rfl) (by kernel_rfl) (conf_all _ rfl) (cs8 F) mix (by kernel_rfl) (by kernel_rfl) (fun fr hn=>(hok_of (l:=[]) (by kernel_rfl) obl_nil)) (fun x=>by kernel_rfl)
def sg39:Sig:={ modes:=[.ro],sh:=[(0,.d (.slice (.pair (.int .i64) (.pair (.pair tyV (.pair tyV .unit)) (.pair (.slice (.int .i64)) .unit)))))],keeps:=true,fresh:=none,rtys:=[(.int .i64)] }
def con39(F:Nat):Contract:=mkCon sg39 fun x=>simpiece_starts F x.1
def cx39(F:Nat):Cx:={ types:=tys,call:=callsL [],own:=[],ntmps:=(0,19) }
theorem cs39(F:Nat):∀ f c,(cx39 F).call f=some c→CMet Tryz.prog f c:=callsL_sound calls_nil
def sh39l3:Shape:=[(3,.d (.int .i64)),(6,.d (.slice (.pair (.int .i64) (.pair (.pair tyV (.pair tyV .unit)) (.pair (.slice (.int .i64)) .unit))))),(7,.d (.int .i64)),(8,.d (.int .i64))]
def sh39l3o0:Shape:=[(3,.d (.int .i64))]
def outs39l3:Outs:=[(2,sh39l3o0)]
def m39l3(F:Nat)(n:Nat){R:Type}(x:Shape.den sh39l3)(K:Ex→St→Option R):Option R:=simpiece_starts_l3 F (fun y3=>K (.exit 0) (enc sh39l3o0 (y3,()))) n x.1 x.2.1 x.2.2.1 x.2.2.2.1
def hs39(F:Nat):Nat→Option (Hint (Dens sg39.rtys)):=hintL [(3,{ sh:=sh39l3,model:=m39l3 F F })]
theorem ok39l3(F:Nat)(fr:Frm)(hn:(cx39 F).ntmps=fr.n)(n:Nat):MSound (R:=(Dens sg39.rtys)) Tryz.prog fr (.loop (sub (bodyOf Tryz.f39) [1,1,0,1,0,0])) sh39l3 (m39l3 F n) :=
 loop_sound (cx:=cx39 F) (hs:=hs39 F) (js:=hintL []) (outs:=outs39l3) (conf_all _ rfl) (cs39 F) hn mix (m:=fun n=>m39l3 F n) (fun _ _=>rfl) (fun n x K=>by kernel_rfl) (hok_of (l:=[]) (by kernel_rfl) obl_nil) n
theorem s39(F:Nat):CSound Tryz.prog 39 (con39 F) :=
 fn_sound (fn:=Tryz.f39) (code:=(bodyOf Tryz.f39)) (cx:=cx39 F) (hs:=hs39 F) (js:=hintL []) Tryz.func39 (by kernel_rfl) (by kernel_rfl) (conf_all _ rfl) (cs39 F) mix (by kernel_rfl) (by kernel_rfl) (fun fr hn=>(hok_of (l:=[((.loop (sub (bodyOf Tryz.f39) [1,1,0,1,0,0])),{ sh:=sh39l3,model:=m39l3 F F })]) (by kernel_rfl) (obl_cons (ok39l3 F fr hn F) obl_nil))) (fun x=>by kernel_rfl)
def sg81:Sig:={ modes:=[.ro],sh:=[(0,.d tyV)],keeps:=true,fresh:=none,rtys:=[.bool] }
def con81(F:Nat):Contract:=mkCon sg81 fun x=>wide_Valid F x.1
def cx81(F:Nat):Cx:={ types:=tys,call:=callsL [],own:=[],ntmps:=(0,12) }
theorem cs81(F:Nat):∀ f c,(cx81 F).call f=some c→CMet Tryz.prog f c:=callsL_sound calls_nil
theorem s81(F:Nat):CSound Tryz.prog 81 (con81 F) :=
 fn_sound (fn:=Tryz.f81) (code:=(bodyOf Tryz.f81)) (cx:=cx81 F) (hs:=hintL []) (js:=hintL []) Tryz.func81 (by kernel_rfl) (by kernel_rfl) (conf_all _ rfl) (cs81 F) mix (by kernel_rfl) (by kernel_rfl) (fun fr hn=>(hok_of (l:=[]) (by kernel_rfl) obl_nil)) (fun x=>by kernel_rfl)
def sg135:Sig:={ modes:=[.ro],sh:=[(0,.d tyV)],keeps:=true,fresh:=none,rtys:=[tyV] }
def con135(F:Nat):Contract:=mkCon sg135 fun x=>wide_clean F x.1
def cx135(F:Nat):Cx:={ types:=tys,call:=callsL [(81,con81 F)],own:=[],ntmps:=(0,8) }
theorem cs135(F:Nat):∀ f c,(cx135 F).call f=some c→CMet Tryz.prog f c:=callsL_sound (calls_cons (s81 F) calls_nil)
theorem s135(F:Nat):CSound Tryz.prog 135 (con135 F) :=
 fn_sound (fn:=Tryz.f135) (code:=(bodyOf Tryz.f135)) (cx:=cx135 F) (hs:=hintL []) (js:=hintL []) Tryz.func135 (by kernel_rfl) (by kernel_rfl) (conf_all _ rfl) (cs135 F) mix (by kernel_rfl) (by kernel_rfl) (fun fr hn=>(hok_of (l:=[]) (by kernel_rfl) obl_nil)) (fun x=>by kernel_rfl)
def sg82:Sig:={ modes:=[.ro],sh:=[(0,.d tyV)],keeps:=true,fresh:=none,rtys:=[(.int .i64)] }
def con82(F:Nat):Contract:=mkCon sg82 fun x=>wide_Sign F x.1
def cx82(F:Nat):Cx:={ types:=tys,call:=callsL [(135,con135 F)],own:=[],ntmps:=(0,13) }
theorem cs82(F:Nat):∀ f c,(cx82 F).call f=some c→CMet Tryz.prog f c:=callsL_sound (calls_cons (s135 F) calls_nil)
theorem s82(F:Nat):CSound Tryz.prog 82 (con82 F) :=
 fn_sound (fn:=Tryz.f82) (code:=(bodyOf Tryz.f82)) (cx:=cx82 F) (hs:=hintL []) (js:=hintL []) Tryz.func82 (by kernel_rfl) (by kernel_rfl) (conf_all _ rfl) (cs82 F) mix (by kernel_rfl) (by kernel_rfl) (fun fr hn=>(hok_of (l:=[]) (by kernel_rfl) obl_nil)) (fun x=>by kernel_rfl)
def sg83:Sig:={ modes:=[.ro],sh:=[(0,.d tyV)],keeps:=true,fresh:=none,rtys:=[.bool] }
def con83(F:Nat):Contract:=mkCon sg83 fun x=>ratio_small F x.1
def cx83(F:Nat):Cx:={ types:=tys,call:=callsL [],own:=[],ntmps:=(0,20) }
theorem cs83(F:Nat):∀ f c,(cx83 F).call f=some c→CMet Tryz.prog f c:=callsL_sound calls_nil
theorem s83(F:Nat):CSound Tryz.prog 83 (con83 F) :=
 fn_sound (fn:=Tryz.f83) (code:=(bodyOf Tryz.f83)) (cx:=cx83 F) (hs:=hintL []) (js:=hintL []) Tryz.func83 (by kernel_rfl) (by kernel_rfl) (conf_all _ rfl) (cs83 F) mix (by kernel_rfl) (by kernel_rfl) (fun fr hn=>(hok_of (l:=[]) (by kernel_rfl) obl_nil)) (fun x=>by kernel_rfl)
def sg187:Sig:={ modes:=[.ro],sh:=[(0,.d (.arr 4 (.int .u64)))],keeps:=true,fresh:=none,rtys:=[(.int .i64)] }
def con187(F:Nat):Contract:=mkCon sg187 fun x=>wide_length F x.1
def cx187(F:Nat):Cx:={ types:=tys,call:=callsL [(166,con166 F)],own:=[],ntmps:=(0,19) }
theorem cs187(F:Nat):∀ f c,(cx187 F).call f=some c→CMet Tryz.prog f c:=callsL_sound (calls_cons (s166 F) calls_nil)
def sh187l2:Shape:=[(1,.box 1 (.arr 4 (.int .u64))),(3,.d (.int .i64))]
def sh187l2o0:Shape:=[]
def sh187l2oret:Shape:=[(2,.d (.int .i64))]
def outs187l2:Outs:=[(2,sh187l2o0),(1,sh187l2oret)]
def m187l2(F:Nat)(n:Nat){R:Type}(x:Shape.den sh187l2)(K:Ex→St→Option R):Option R:=wide_length_l2 F (K (.exit 0) (enc sh187l2o0 (()))) (fun y2=>K .ret (enc sh187l2oret (y2,()))) n x.1 x.2.1
def hs187(F:Nat):Nat→Option (Hint (Dens sg187.rtys)):=hintL [(2,{ sh:=sh187l2,model:=m187l2 F F })]
theorem ok187l2(F:Nat)(fr:Frm)(hn:(cx187 F).ntmps=fr.n)(n:Nat):MSound (R:=(Dens sg187.rtys)) Tryz.prog fr (.loop (sub (bodyOf Tryz.f187) [1,0,1,0,0])) sh187l2 (m187l2 F n) :=
 loop_sound (cx:=cx187 F) (hs:=hs187 F) (js:=hintL []) (outs:=outs187l2) (conf_all _ rfl) (cs187 F) hn mix (m:=fun n=>m187l2 F n) (fun _ _=>rfl) (fun n x K=>by kernel_rfl) (hok_of (l:=[]) (by kernel_rfl) obl_nil) n
theorem s187(F:Nat):CSound Tryz.prog 187 (con187 F) :=
 fn_sound (fn:=Tryz.f187) (code:=(bodyOf Tryz.f187)) (cx:=cx187 F) (hs:=hs187 F) (js:=hintL []) Tryz.func187 (by kernel_rfl) (by kernel_rfl) (conf_all _ rfl) (cs187 F) mix (by kernel_rfl) (by kernel_rfl) (fun fr hn=>(hok_of (l:=[((.loop (sub (bodyOf Tryz.f187) [1,0,1,0,0])),{ sh:=sh187l2,model:=m187l2 F F })]) (by kernel_rfl) (obl_cons (ok187l2 F fr hn F) obl_nil))) (fun x=>by kernel_rfl)
def sg188:Sig:={ modes:=[.ro,.ro],sh:=[(0,.d (.arr 4 (.int .u64))),(1,.d (.int .i64))],keeps:=true,fresh:=none,rtys:=[(.arr 4 (.int .u64))] }
def con188(F:Nat):Contract:=mkCon sg188 fun x=>wide_left F x.1 x.2.1
def cx188(F:Nat):Cx:={ types:=tys,call:=callsL [],own:=[],ntmps:=(0,48) }
theorem cs188(F:Nat):∀ f c,(cx188 F).call f=some c→CMet Tryz.prog f c:=callsL_sound calls_nil
def sh188j7:Shape:=[(2,.box 2 (.arr 4 (.int .u64))),(4,.box 4 (.arr 4 (.int .u64))),(5,.d (.int .i64)),(6,.d (.int .i64)),(7,.d (.int .i64)),(32,.d .bool)]
def sh188j7on:Shape:=[(2,.box 2 (.arr 4 (.int .u64))),(4,.box 4 (.arr 4 (.int .u64))),(5,.d (.int .i64)),(6,.d (.int .i64)),(7,.d (.int .i64))]
def outs188j7:Outs:=[(0,sh188j7on)]
def m188j7(F:Nat){R:Type}(x:Shape.den sh188j7)(K:Ex→St→Option R):Option R:=wide_left_j7 F (fun y2 y4 y5 y6 y7=>K .normal (enc sh188j7on (y2,y4,y5,y6,y7,()))) x.1 x.2.1 x.2.2.1 x.2.2.2.1 x.2.2.2.2.1 x.2.2.2.2.2.1
def sh188l3:Shape:=[(2,.box 2 (.arr 4 (.int .u64))),(4,.box 4 (.arr 4 (.int .u64))),(5,.d (.int .i64)),(6,.d (.int .i64)),(7,.d (.int .i64))]
def sh188l3o0:Shape:=[(4,.box 4 (.arr 4 (.int .u64)))]
def outs188l3:Outs:=[(2,sh188l3o0)]
def m188l3(F:Nat)(n:Nat){R:Type}(x:Shape.den sh188l3)(K:Ex→St→Option R):Option R:=wide_left_l3 F (fun y4=>K (.exit 0) (enc sh188l3o0 (y4,()))) n x.1 x.2.1 x.2.2.1 x.2.2.2.1 x.2.2.2.2.1
def hs188(F:Nat):Nat→Option (Hint (Dens sg188.rtys)):=hintL [(3,{ sh:=sh188l3,model:=m188l3 F F })]
def js188(F:Nat):Nat→Option (Hint (Dens sg188.rtys)):=hintL [(7,{ sh:=sh188j7,model:=m188j7 F })]
theorem ok188j7(F:Nat)(fr:Frm)(hn:(cx188 F).ntmps=fr.n):MSound (R:=(Dens sg188.rtys)) Tryz.prog fr (sub (bodyOf Tryz.f188) [1,1,0,1,0,0,1,0,0,1,1]) sh188j7 (m188j7 F) :=
 join_sound (cx:=cx188 F) (hs:=hs188 F) (js:=js188 F) (outs:=outs188j7) (conf_all _ rfl) (cs188 F) hn mix (fun x K=>by kernel_rfl) (hok_of (l:=[]) (by kernel_rfl) obl_nil)
theorem ok188l3(F:Nat)(fr:Frm)(hn:(cx188 F).ntmps=fr.n)(n:Nat):MSound (R:=(Dens sg188.rtys)) Tryz.prog fr (.loop (sub (bodyOf Tryz.f188) [1,1,0,1,0,0])) sh188l3 (m188l3 F n) :=
 loop_sound (cx:=cx188 F) (hs:=hs188 F) (js:=js188 F) (outs:=outs188l3) (conf_all _ rfl) (cs188 F) hn mix (m:=fun n=>m188l3 F n) (fun _ _=>rfl) (fun n x K=>by kernel_rfl) (hok_of (l:=[((sub (bodyOf Tryz.f188) [1,1,0,1,0,0,1,0,0,1,1]),{ sh:=sh188j7,model:=m188j7 F })]) (by kernel_rfl) (obl_cons (ok188j7 F fr hn) obl_nil)) n
theorem s188(F:Nat):CSound Tryz.prog 188 (con188 F) :=
 fn_sound (fn:=Tryz.f188) (code:=(bodyOf Tryz.f188)) (cx:=cx188 F) (hs:=hs188 F) (js:=js188 F) Tryz.func188 (by kernel_rfl) (by kernel_rfl) (conf_all _ rfl) (cs188 F) mix (by kernel_rfl) (by kernel_rfl) (fun fr hn=>(hok_of (l:=[((.loop (sub (bodyOf Tryz.f188) [1,1,0,1,0,0])),{ sh:=sh188l3,model:=m188l3 F F })]) (by kernel_rfl) (obl_cons (ok188l3 F fr hn F) obl_nil))) (fun x=>by kernel_rfl)
def sg193:Sig:={ modes:=[.ro],sh:=[(0,.d (.int .u64))],keeps:=true,fresh:=none,rtys:=[.bool] }
def con193(F:Nat):Contract:=mkCon sg193 fun x=>cmp_isNaN_uint64 F x.1
def cx193(F:Nat):Cx:={ types:=tys,call:=callsL [],own:=[],ntmps:=(0,6) }
theorem cs193(F:Nat):∀ f c,(cx193 F).call f=some c→CMet Tryz.prog f c:=callsL_sound calls_nil
theorem s193(F:Nat):CSound Tryz.prog 193 (con193 F) :=
 fn_sound (fn:=Tryz.f193) (code:=(bodyOf Tryz.f193)) (cx:=cx193 F) (hs:=hintL []) (js:=hintL []) Tryz.func193 (by kernel_rfl) (by kernel_rfl) (conf_all _ rfl) (cs193 F) mix (by kernel_rfl) (by kernel_rfl) (fun fr hn=>(hok_of (l:=[]) (by kernel_rfl) obl_nil)) (fun x=>by kernel_rfl)
def sg190:Sig:={ modes:=[.ro,.ro],sh:=[(0,.d (.int .u64)),(1,.d (.int .u64))],keeps:=true,fresh:=none,rtys:=[(.int .i64)] }
def con190(F:Nat):Contract:=mkCon sg190 fun x=>cmp_Compare_uint64 F x.1 x.2.1
def cx190(F:Nat):Cx:={ types:=tys,call:=callsL [(193,con193 F)],own:=[],ntmps:=(0,20) }
theorem cs190(F:Nat):∀ f c,(cx190 F).call f=some c→CMet Tryz.prog f c:=callsL_sound (calls_cons (s193 F) calls_nil)
theorem s190(F:Nat):CSound Tryz.prog 190 (con190 F) :=
 fn_sound (fn:=Tryz.f190) (code:=(bodyOf Tryz.f190)) (cx:=cx190 F) (hs:=hintL []) (js:=hintL []) Tryz.func190 (by kernel_rfl) (by kernel_rfl) (conf_all _ rfl) (cs190 F) mix (by kernel_rfl) (by kernel_rfl) (fun fr hn=>(hok_of (l:=[]) (by kernel_rfl) obl_nil)) (fun x=>by kernel_rfl)
def sg86:Sig:={ modes:=[.ro],sh:=[(0,.d (.slice (.int .i64)))],keeps:=true,fresh:=none,rtys:=[(.int .i64)] }
def con86(F:Nat):Contract:=mkCon sg86 fun x=>cmp_Or_int F x.1
def cx86(F:Nat):Cx:={ types:=tys,call:=callsL [],own:=[],ntmps:=(0,18) }
theorem cs86(F:Nat):∀ f c,(cx86 F).call f=some c→CMet Tryz.prog f c:=callsL_sound calls_nil
def sh86l3:Shape:=[(3,.d (.int .i64)),(6,.d (.slice (.int .i64))),(7,.d (.int .i64)),(8,.d (.int .i64))]
def sh86l3o0:Shape:=[(3,.d (.int .i64))]
def sh86l3oret:Shape:=[(2,.d (.int .i64))]
def outs86l3:Outs:=[(2,sh86l3o0),(1,sh86l3oret)]
def m86l3(F:Nat)(n:Nat){R:Type}(x:Shape.den sh86l3)(K:Ex→St→Option R):Option R:=cmp_Or_int_l3 F (fun y3=>K (.exit 0) (enc sh86l3o0 (y3,()))) (fun y2=>K .ret (enc sh86l3oret (y2,()))) n x.1 x.2.1 x.2.2.1 x.2.2.2.1
def hs86(F:Nat):Nat→Option (Hint (Dens sg86.rtys)):=hintL [(3,{ sh:=sh86l3,model:=m86l3 F F })]
theorem ok86l3(F:Nat)(fr:Frm)(hn:(cx86 F).ntmps=fr.n)(n:Nat):MSound (R:=(Dens sg86.rtys)) Tryz.prog fr (.loop (sub (bodyOf Tryz.f86) [1,1,0,1,0,0])) sh86l3 (m86l3 F n) :=
 loop_sound (cx:=cx86 F) (hs:=hs86 F) (js:=hintL []) (outs:=outs86l3) (conf_all _ rfl) (cs86 F) hn mix (m:=fun n=>m86l3 F n) (fun _ _=>rfl) (fun n x K=>by kernel_rfl) (hok_of (l:=[]) (by kernel_rfl) obl_nil) n
theorem s86(F:Nat):CSound Tryz.prog 86 (con86 F) :=
 fn_sound (fn:=Tryz.f86) (code:=(bodyOf Tryz.f86)) (cx:=cx86 F) (hs:=hs86 F) (js:=hintL []) Tryz.func86 (by kernel_rfl) (by kernel_rfl) (conf_all _ rfl) (cs86 F) mix (by kernel_rfl) (by kernel_rfl) (fun fr hn=>(hok_of (l:=[((.loop (sub (bodyOf Tryz.f86) [1,1,0,1,0,0])),{ sh:=sh86l3,model:=m86l3 F F })]) (by kernel_rfl) (obl_cons (ok86l3 F fr hn F) obl_nil))) (fun x=>by kernel_rfl)
def sg173:Sig:={ modes:=[.ro,.ro],sh:=[(0,.d (.arr 4 (.int .u64))),(1,.d (.arr 4 (.int .u64)))],keeps:=true,fresh:=none,rtys:=[(.int .i64)] }
def con173(F:Nat):Contract:=mkCon sg173 fun x=>wide_compare F x.1 x.2.1
def cx173(F:Nat):Cx:={ types:=tys,call:=callsL [(190,con190 F),(86,con86 F)],own:=[],ntmps:=(0,27) }
theorem cs173(F:Nat):∀ f c,(cx173 F).call f=some c→CMet Tryz.prog f c:=callsL_sound (calls_cons (s190 F) (calls_cons (s86 F) calls_nil))
theorem s173(F:Nat):CSound Tryz.prog 173 (con173 F) :=
 fn_sound (fn:=Tryz.f173) (code:=(bodyOf Tryz.f173)) (cx:=cx173 F) (hs:=hintL []) (js:=hintL []) Tryz.func173 (by kernel_rfl) (by kernel_rfl) (conf_all _ rfl) (cs173 F) mix (by kernel_rfl) (by kernel_rfl) (fun fr hn=>(hok_of (l:=[]) (by kernel_rfl) obl_nil)) (fun x=>by kernel_rfl)
def sg170:Sig:={ modes:=[.ro,.ro],sh:=[(0,.d (.arr 4 (.int .u64))),(1,.d (.arr 4 (.int .u64)))],keeps:=true,fresh:=none,rtys:=[(.arr 4 (.int .u64))] }
def con170(F:Nat):Contract:=mkCon sg170 fun x=>wide_sub F x.1 x.2.1
def cx170(F:Nat):Cx:={ types:=tys,call:=callsL [(186,con186 F)],own:=[],ntmps:=(0,25) }
theorem cs170(F:Nat):∀ f c,(cx170 F).call f=some c→CMet Tryz.prog f c:=callsL_sound (calls_cons_ext (s186 F) calls_nil)
def sh170l3:Shape:=[(2,.box 2 (.arr 4 (.int .u64))),(3,.box 3 (.arr 4 (.int .u64))),(4,.box 4 (.arr 4 (.int .u64))),(5,.d (.int .u64)),(7,.d (.int .i64))]
def sh170l3o0:Shape:=[(4,.box 4 (.arr 4 (.int .u64)))]
def outs170l3:Outs:=[(2,sh170l3o0)]
def m170l3(F:Nat)(n:Nat){R:Type}(x:Shape.den sh170l3)(K:Ex→St→Option R):Option R:=wide_sub_l3 F (fun y4=>K (.exit 0) (enc sh170l3o0 (y4,()))) n x.1 x.2.1 x.2.2.1 x.2.2.2.1 x.2.2.2.2.1
def hs170(F:Nat):Nat→Option (Hint (Dens sg170.rtys)):=hintL [(3,{ sh:=sh170l3,model:=m170l3 F F })]
theorem ok170l3(F:Nat)(fr:Frm)(hn:(cx170 F).ntmps=fr.n)(n:Nat):MSound (R:=(Dens sg170.rtys)) Tryz.prog fr (.loop (sub (bodyOf Tryz.f170) [1,1,0,1,0,0])) sh170l3 (m170l3 F n) :=
 loop_sound (cx:=cx170 F) (hs:=hs170 F) (js:=hintL []) (outs:=outs170l3) (conf_all _ rfl) (cs170 F) hn mix (m:=fun n=>m170l3 F n) (fun _ _=>rfl) (fun n x K=>by kernel_rfl) (hok_of (l:=[]) (by kernel_rfl) obl_nil) n
theorem s170(F:Nat):CSound Tryz.prog 170 (con170 F) :=
 fn_sound (fn:=Tryz.f170) (code:=(bodyOf Tryz.f170)) (cx:=cx170 F) (hs:=hs170 F) (js:=hintL []) Tryz.func170 (by kernel_rfl) (by kernel_rfl) (conf_all _ rfl) (cs170 F) mix (by kernel_rfl) (by kernel_rfl) (fun fr hn=>(hok_of (l:=[((.loop (sub (bodyOf Tryz.f170) [1,1,0,1,0,0])),{ sh:=sh170l3,model:=m170l3 F F })]) (by kernel_rfl) (obl_cons (ok170l3 F fr hn F) obl_nil))) (fun x=>by kernel_rfl)
def sg189:Sig:={ modes:=[.ro],sh:=[(0,.d (.arr 4 (.int .u64)))],keeps:=true,fresh:=none,rtys:=[(.arr 4 (.int .u64))] }
def con189(F:Nat):Contract:=mkCon sg189 fun x=>wide_halved F x.1
def cx189(F:Nat):Cx:={ types:=tys,call:=callsL [],own:=[],ntmps:=(0,27) }
theorem cs189(F:Nat):∀ f c,(cx189 F).call f=some c→CMet Tryz.prog f c:=callsL_sound calls_nil
def sh189l2:Shape:=[(1,.box 1 (.arr 4 (.int .u64))),(2,.box 2 (.arr 4 (.int .u64))),(4,.d (.int .i64))]
def sh189l2o0:Shape:=[(2,.box 2 (.arr 4 (.int .u64)))]
def outs189l2:Outs:=[(2,sh189l2o0)]
def m189l2(F:Nat)(n:Nat){R:Type}(x:Shape.den sh189l2)(K:Ex→St→Option R):Option R:=wide_halved_l2 F (fun y2=>K (.exit 0) (enc sh189l2o0 (y2,()))) n x.1 x.2.1 x.2.2.1
def hs189(F:Nat):Nat→Option (Hint (Dens sg189.rtys)):=hintL [(2,{ sh:=sh189l2,model:=m189l2 F F })]
theorem ok189l2(F:Nat)(fr:Frm)(hn:(cx189 F).ntmps=fr.n)(n:Nat):MSound (R:=(Dens sg189.rtys)) Tryz.prog fr (.loop (sub (bodyOf Tryz.f189) [1,0,1,0,0])) sh189l2 (m189l2 F n) :=
 loop_sound (cx:=cx189 F) (hs:=hs189 F) (js:=hintL []) (outs:=outs189l2) (conf_all _ rfl) (cs189 F) hn mix (m:=fun n=>m189l2 F n) (fun _ _=>rfl) (fun n x K=>by kernel_rfl) (hok_of (l:=[]) (by kernel_rfl) obl_nil) n
theorem s189(F:Nat):CSound Tryz.prog 189 (con189 F) :=
 fn_sound (fn:=Tryz.f189) (code:=(bodyOf Tryz.f189)) (cx:=cx189 F) (hs:=hs189 F) (js:=hintL []) Tryz.func189 (by kernel_rfl) (by kernel_rfl) (conf_all _ rfl) (cs189 F) mix (by kernel_rfl) (by kernel_rfl) (fun fr hn=>(hok_of (l:=[((.loop (sub (bodyOf Tryz.f189) [1,0,1,0,0])),{ sh:=sh189l2,model:=m189l2 F F })]) (by kernel_rfl) (obl_cons (ok189l2 F fr hn F) obl_nil))) (fun x=>by kernel_rfl)
def sg168:Sig:={ modes:=[.ro,.ro],sh:=[(0,.d (.arr 4 (.int .u64))),(1,.d (.arr 4 (.int .u64)))],keeps:=true,fresh:=none,rtys:=[(.arr 4 (.int .u64)),(.arr 4 (.int .u64))] }
def con168(F:Nat):Contract:=mkCon sg168 fun x=>wide_div F x.1 x.2.1
def cx168(F:Nat):Cx:={ types:=tys,call:=callsL [(187,con187 F),(188,con188 F),(173,con173 F),(170,con170 F),(189,con189 F)],own:=[],ntmps:=(0,44) }
theorem cs168(F:Nat):∀ f c,(cx168 F).call f=some c→CMet Tryz.prog f c:=callsL_sound (calls_cons (s187 F) (calls_cons (s188 F) (calls_cons (s173 F) (calls_cons (s170 F) (calls_cons (s189 F) calls_nil)))))
def sh168l5:Shape:=[(2,.box 2 (.arr 4 (.int .u64))),(4,.box 4 (.arr 4 (.int .u64))),(5,.box 5 (.arr 4 (.int .u64))),(6,.d (.int .i64)),(7,.box 7 (.arr 4 (.int .u64)))]
def sh168l5o0:Shape:=[(2,.box 2 (.arr 4 (.int .u64))),(4,.box 4 (.arr 4 (.int .u64))),(5,.box 5 (.arr 4 (.int .u64)))]
def outs168l5:Outs:=[(2,sh168l5o0)]
def m168l5(F:Nat)(n:Nat){R:Type}(x:Shape.den sh168l5)(K:Ex→St→Option R):Option R:=wide_div_l5 F (fun y2 y4 y5=>K (.exit 0) (enc sh168l5o0 (y2,y4,y5,()))) n x.1 x.2.1 x.2.2.1 x.2.2.2.1 x.2.2.2.2.1
def hs168(F:Nat):Nat→Option (Hint (Dens sg168.rtys)):=hintL [(5,{ sh:=sh168l5,model:=m168l5 F F })]
theorem ok168l5(F:Nat)(fr:Frm)(hn:(cx168 F).ntmps=fr.n)(n:Nat):MSound (R:=(Dens sg168.rtys)) Tryz.prog fr (.loop (sub (bodyOf Tryz.f168) [1,1,1,1,0,0,0])) sh168l5 (m168l5 F n) :=
 loop_sound (cx:=cx168 F) (hs:=hs168 F) (js:=hintL []) (outs:=outs168l5) (conf_all _ rfl) (cs168 F) hn mix (m:=fun n=>m168l5 F n) (fun _ _=>rfl) (fun n x K=>by kernel_rfl) (hok_of (l:=[]) (by kernel_rfl) obl_nil) n
theorem s168(F:Nat):CSound Tryz.prog 168 (con168 F) :=
 fn_sound (fn:=Tryz.f168) (code:=(bodyOf Tryz.f168)) (cx:=cx168 F) (hs:=hs168 F) (js:=hintL []) Tryz.func168 (by kernel_rfl) (by kernel_rfl) (conf_all _ rfl) (cs168 F) mix (by kernel_rfl) (by kernel_rfl) (fun fr hn=>(hok_of (l:=[((.loop (sub (bodyOf Tryz.f168) [1,1,1,1,0,0,0])),{ sh:=sh168l5,model:=m168l5 F F })]) (by kernel_rfl) (obl_cons (ok168l5 F fr hn F) obl_nil))) (fun x=>by kernel_rfl)
def sg169:Sig:={ modes:=[.ro,.ro],sh:=[(0,.d (.arr 4 (.int .u64))),(1,.d (.arr 4 (.int .u64)))],keeps:=true,fresh:=none,rtys:=[(.arr 4 (.int .u64)),(.int .u64)] }
def con169(F:Nat):Contract:=mkCon sg169 fun x=>wide_add F x.1 x.2.1
def cx169(F:Nat):Cx:={ types:=tys,call:=callsL [(161,con161 F)],own:=[],ntmps:=(0,26) }
theorem cs169(F:Nat):∀ f c,(cx169 F).call f=some c→CMet Tryz.prog f c:=callsL_sound (calls_cons_ext (s161 F) calls_nil)
def sh169l2:Shape:=[(2,.box 2 (.arr 4 (.int .u64))),(3,.box 3 (.arr 4 (.int .u64))),(4,.box 4 (.arr 4 (.int .u64))),(5,.d (.int .u64)),(7,.d (.int .i64))]
def sh169l2o0:Shape:=[(4,.box 4 (.arr 4 (.int .u64))),(5,.d (.int .u64))]
def outs169l2:Outs:=[(2,sh169l2o0)]
def m169l2(F:Nat)(n:Nat){R:Type}(x:Shape.den sh169l2)(K:Ex→St→Option R):Option R:=wide_add_l2 F (fun y4 y5=>K (.exit 0) (enc sh169l2o0 (y4,y5,()))) n x.1 x.2.1 x.2.2.1 x.2.2.2.1 x.2.2.2.2.1
def hs169(F:Nat):Nat→Option (Hint (Dens sg169.rtys)):=hintL [(2,{ sh:=sh169l2,model:=m169l2 F F })]
theorem ok169l2(F:Nat)(fr:Frm)(hn:(cx169 F).ntmps=fr.n)(n:Nat):MSound (R:=(Dens sg169.rtys)) Tryz.prog fr (.loop (sub (bodyOf Tryz.f169) [1,0,1,0,0])) sh169l2 (m169l2 F n) :=
 loop_sound (cx:=cx169 F) (hs:=hs169 F) (js:=hintL []) (outs:=outs169l2) (conf_all _ rfl) (cs169 F) hn mix (m:=fun n=>m169l2 F n) (fun _ _=>rfl) (fun n x K=>by kernel_rfl) (hok_of (l:=[]) (by kernel_rfl) obl_nil) n
theorem s169(F:Nat):CSound Tryz.prog 169 (con169 F) :=
 fn_sound (fn:=Tryz.f169) (code:=(bodyOf Tryz.f169)) (cx:=cx169 F) (hs:=hs169 F) (js:=hintL []) Tryz.func169 (by kernel_rfl) (by kernel_rfl) (conf_all _ rfl) (cs169 F) mix (by kernel_rfl) (by kernel_rfl) (fun fr hn=>(hok_of (l:=[((.loop (sub (bodyOf Tryz.f169) [1,0,1,0,0])),{ sh:=sh169l2,model:=m169l2 F F })]) (by kernel_rfl) (obl_cons (ok169l2 F fr hn F) obl_nil))) (fun x=>by kernel_rfl)
def sg171:Sig:={ modes:=[.ro,.ro],sh:=[(0,.d .bool),(1,.d (.arr 4 (.int .u64)))],keeps:=true,fresh:=none,rtys:=[tyV] }
def con171(F:Nat):Contract:=mkCon sg171 fun x=>wide_signed F x.1 x.2.1
def cx171(F:Nat):Cx:={ types:=tys,call:=callsL [(135,con135 F)],own:=[],ntmps:=(0,9) }
theorem cs171(F:Nat):∀ f c,(cx171 F).call f=some c→CMet Tryz.prog f c:=callsL_sound (calls_cons (s135 F) calls_nil)
theorem s171(F:Nat):CSound Tryz.prog 171 (con171 F) :=
 fn_sound (fn:=Tryz.f171) (code:=(bodyOf Tryz.f171)) (cx:=cx171 F) (hs:=hintL []) (js:=hintL []) Tryz.func171 (by kernel_rfl) (by kernel_rfl) (conf_all _ rfl) (cs171 F) mix (by kernel_rfl) (by kernel_rfl) (fun fr hn=>(hok_of (l:=[]) (by kernel_rfl) obl_nil)) (fun x=>by kernel_rfl)
def sg136:Sig:={ modes:=[.ro,.ro],sh:=[(0,.d tyV),(1,.d tyV)],keeps:=true,fresh:=none,rtys:=[tyV,tyV,.bool] }
def con136(F:Nat):Contract:=mkCon sg136 fun x=>wide_DivMod F x.1 x.2.1
def cx136(F:Nat):Cx:={ types:=tys,call:=callsL [(135,con135 F),(82,con82 F),(168,con168 F),(169,con169 F),(170,con170 F),(171,con171 F)],own:=[],ntmps:=(0,52) }
theorem cs136(F:Nat):∀ f c,(cx136 F).call f=some c→CMet Tryz.prog f c:=callsL_sound (calls_cons (s135 F) (calls_cons (s82 F) (calls_cons (s168 F) (calls_cons (s169 F) (calls_cons (s170 F) (calls_cons (s171 F) calls_nil))))))
def sh136j6:Shape:=[(2,.box 2 tyV),(3,.box 3 tyV),(4,.box 4 tyV),(5,.box 5 tyV),(7,.box 7 (.arr 4 (.int .u64))),(8,.box 8 (.arr 4 (.int .u64))),(32,.d .bool)]
def sh136j6on:Shape:=[(2,.box 2 tyV),(3,.box 3 tyV),(4,.box 4 tyV),(5,.box 5 tyV),(7,.box 7 (.arr 4 (.int .u64))),(8,.box 8 (.arr 4 (.int .u64)))]
def outs136j6:Outs:=[(0,sh136j6on)]
def m136j6(F:Nat){R:Type}(x:Shape.den sh136j6)(K:Ex→St→Option R):Option R:=wide_DivMod_j6 F (fun y2 y3 y4 y5 y7 y8=>K .normal (enc sh136j6on (y2,y3,y4,y5,y7,y8,()))) x.1 x.2.1 x.2.2.1 x.2.2.2.1 x.2.2.2.2.1 x.2.2.2.2.2.1 x.2.2.2.2.2.2.1
def sh136j8:Shape:=[(2,.box 2 tyV),(3,.box 3 tyV),(4,.box 4 tyV),(5,.box 5 tyV),(7,.box 7 (.arr 4 (.int .u64))),(8,.box 8 (.arr 4 (.int .u64)))]
def sh136j8oret:Shape:=[(4,.box 4 tyV),(5,.box 5 tyV),(6,.d .bool)]
def outs136j8:Outs:=[(1,sh136j8oret)]
def m136j8(F:Nat){R:Type}(x:Shape.den sh136j8)(K:Ex→St→Option R):Option R:=wide_DivMod_j8 F (fun y4 y5 y6=>K .ret (enc sh136j8oret (y4,y5,y6,()))) x.1 x.2.1 x.2.2.1 x.2.2.2.1 x.2.2.2.2.1 x.2.2.2.2.2.1
def js136(F:Nat):Nat→Option (Hint (Dens sg136.rtys)):=hintL [(6,{ sh:=sh136j6,model:=m136j6 F }),(8,{ sh:=sh136j8,model:=m136j8 F })]
theorem ok136j6(F:Nat)(fr:Frm)(hn:(cx136 F).ntmps=fr.n):MSound (R:=(Dens sg136.rtys)) Tryz.prog fr (sub (bodyOf Tryz.f136) [1,1,1,1,0,1]) sh136j6 (m136j6 F) :=
 join_sound (cx:=cx136 F) (hs:=hintL []) (js:=js136 F) (outs:=outs136j6) (conf_all _ rfl) (cs136 F) hn mix (fun x K=>by kernel_rfl) (hok_of (l:=[]) (by kernel_rfl) obl_nil)
theorem ok136j8(F:Nat)(fr:Frm)(hn:(cx136 F).ntmps=fr.n):MSound (R:=(Dens sg136.rtys)) Tryz.prog fr (sub (bodyOf Tryz.f136) [1,1,1,1,1]) sh136j8 (m136j8 F) :=
 join_sound (cx:=cx136 F) (hs:=hintL []) (js:=js136 F) (outs:=outs136j8) (conf_all _ rfl) (cs136 F) hn mix (fun x K=>by kernel_rfl) (hok_of (l:=[]) (by kernel_rfl) obl_nil)
theorem s136(F:Nat):CSound Tryz.prog 136 (con136 F) :=
 fn_sound (fn:=Tryz.f136) (code:=(bodyOf Tryz.f136)) (cx:=cx136 F) (hs:=hintL []) (js:=js136 F) Tryz.func136 (by kernel_rfl) (by kernel_rfl) (conf_all _ rfl) (cs136 F) mix (by kernel_rfl) (by kernel_rfl) (fun fr hn=>(hok_of (l:=[((sub (bodyOf Tryz.f136) [1,1,1,1,0,1]),{ sh:=sh136j6,model:=m136j6 F }),((sub (bodyOf Tryz.f136) [1,1,1,1,1]),{ sh:=sh136j8,model:=m136j8 F })]) (by kernel_rfl) (obl_cons (ok136j6 F fr hn) (obl_cons (ok136j8 F fr hn) obl_nil)))) (fun x=>by kernel_rfl)
def sg84:Sig:={ modes:=[.ro,.ro],sh:=[(0,.d tyV),(1,.d tyV)],keeps:=true,fresh:=none,rtys:=[tyV] }
def con84(F:Nat):Contract:=mkCon sg84 fun x=>ratio_divisor F x.1 x.2.1
def cx84(F:Nat):Cx:={ types:=tys,call:=callsL [(82,con82 F),(136,con136 F)],own:=[],ntmps:=(0,23) }
theorem cs84(F:Nat):∀ f c,(cx84 F).call f=some c→CMet Tryz.prog f c:=callsL_sound (calls_cons (s82 F) (calls_cons (s136 F) calls_nil))
def sh84l2:Shape:=[(2,.box 2 tyV),(3,.box 3 tyV),(4,.box 4 tyV)]
def sh84l2o0:Shape:=[(2,.box 2 tyV),(4,.box 4 tyV)]
def outs84l2:Outs:=[(2,sh84l2o0)]
def m84l2(F:Nat)(n:Nat){R:Type}(x:Shape.den sh84l2)(K:Ex→St→Option R):Option R:=ratio_divisor_l2 F (fun y2 y4=>K (.exit 0) (enc sh84l2o0 (y2,y4,()))) n x.1 x.2.1 x.2.2.1
def hs84(F:Nat):Nat→Option (Hint (Dens sg84.rtys)):=hintL [(2,{ sh:=sh84l2,model:=m84l2 F F })]
theorem ok84l2(F:Nat)(fr:Frm)(hn:(cx84 F).ntmps=fr.n)(n:Nat):MSound (R:=(Dens sg84.rtys)) Tryz.prog fr (.loop (sub (bodyOf Tryz.f84) [1,1,0,0,0])) sh84l2 (m84l2 F n) :=
 loop_sound (cx:=cx84 F) (hs:=hs84 F) (js:=hintL []) (outs:=outs84l2) (conf_all _ rfl) (cs84 F) hn mix (m:=fun n=>m84l2 F n) (fun _ _=>rfl) (fun n x K=>by kernel_rfl) (hok_of (l:=[]) (by kernel_rfl) obl_nil) n
theorem s84(F:Nat):CSound Tryz.prog 84 (con84 F) :=
 fn_sound (fn:=Tryz.f84) (code:=(bodyOf Tryz.f84)) (cx:=cx84 F) (hs:=hs84 F) (js:=hintL []) Tryz.func84 (by kernel_rfl) (by kernel_rfl) (conf_all _ rfl) (cs84 F) mix (by kernel_rfl) (by kernel_rfl) (fun fr hn=>(hok_of (l:=[((.loop (sub (bodyOf Tryz.f84) [1,1,0,0,0])),{ sh:=sh84l2,model:=m84l2 F F })]) (by kernel_rfl) (obl_cons (ok84l2 F fr hn F) obl_nil))) (fun x=>by kernel_rfl)
def sg85:Sig:={ modes:=[.ro],sh:=[(0,.d (.int .i64))],keeps:=true,fresh:=none,rtys:=[tyV] }
def con85(F:Nat):Contract:=mkCon sg85 fun x=>wide_Of F x.1
def cx85(F:Nat):Cx:={ types:=tys,call:=callsL [],own:=[],ntmps:=(0,14) }
theorem cs85(F:Nat):∀ f c,(cx85 F).call f=some c→CMet Tryz.prog f c:=callsL_sound calls_nil
theorem s85(F:Nat):CSound Tryz.prog 85 (con85 F) :=
 fn_sound (fn:=Tryz.f85) (code:=(bodyOf Tryz.f85)) (cx:=cx85 F) (hs:=hintL []) (js:=hintL []) Tryz.func85 (by kernel_rfl) (by kernel_rfl) (conf_all _ rfl) (cs85 F) mix (by kernel_rfl) (by kernel_rfl) (fun fr hn=>(hok_of (l:=[]) (by kernel_rfl) obl_nil)) (fun x=>by kernel_rfl)
def sg40:Sig:={ modes:=[.ro],sh:=[(0,.d (.pair tyV (.pair tyV .unit)))],keeps:=true,fresh:=none,rtys:=[.bool] }
def con40(F:Nat):Contract:=mkCon sg40 fun x=>ratio_Valid F x.1
def cx40(F:Nat):Cx:={ types:=tys,call:=callsL [(81,con81 F),(82,con82 F),(83,con83 F),(84,con84 F),(85,con85 F)],own:=[],ntmps:=(0,36) }
theorem cs40(F:Nat):∀ f c,(cx40 F).call f=some c→CMet Tryz.prog f c:=callsL_sound (calls_cons (s81 F) (calls_cons (s82 F) (calls_cons (s83 F) (calls_cons (s84 F) (calls_cons (s85 F) calls_nil)))))
theorem s40(F:Nat):CSound Tryz.prog 40 (con40 F) :=
 fn_sound (fn:=Tryz.f40) (code:=(bodyOf Tryz.f40)) (cx:=cx40 F) (hs:=hintL []) (js:=hintL []) Tryz.func40 (by kernel_rfl) (by kernel_rfl) (conf_all _ rfl) (cs40 F) mix (by kernel_rfl) (by kernel_rfl) (fun fr hn=>(hok_of (l:=[]) (by kernel_rfl) obl_nil)) (fun x=>by kernel_rfl)
def sg137:Sig:={ modes:=[.ro],sh:=[(0,.d (.int .i64))],keeps:=true,fresh:=none,rtys:=[.bool] }
def con137(F:Nat):Contract:=mkCon sg137 fun x=>cmp_isNaN_int64 F x.1
def cx137(F:Nat):Cx:={ types:=tys,call:=callsL [],own:=[],ntmps:=(0,6) }
theorem cs137(F:Nat):∀ f c,(cx137 F).call f=some c→CMet Tryz.prog f c:=callsL_sound calls_nil
theorem s137(F:Nat):CSound Tryz.prog 137 (con137 F) :=
 fn_sound (fn:=Tryz.f137) (code:=(bodyOf Tryz.f137)) (cx:=cx137 F) (hs:=hintL []) (js:=hintL []) Tryz.func137 (by kernel_rfl) (by kernel_rfl) (conf_all _ rfl) (cs137 F) mix (by kernel_rfl) (by kernel_rfl) (fun fr hn=>(hok_of (l:=[]) (by kernel_rfl) obl_nil)) (fun x=>by kernel_rfl)
def sg87:Sig:={ modes:=[.ro,.ro],sh:=[(0,.d (.int .i64)),(1,.d (.int .i64))],keeps:=true,fresh:=none,rtys:=[(.int .i64)] }
def con87(F:Nat):Contract:=mkCon sg87 fun x=>cmp_Compare_int64 F x.1 x.2.1
def cx87(F:Nat):Cx:={ types:=tys,call:=callsL [(137,con137 F)],own:=[],ntmps:=(0,20) }
theorem cs87(F:Nat):∀ f c,(cx87 F).call f=some c→CMet Tryz.prog f c:=callsL_sound (calls_cons (s137 F) calls_nil)
theorem s87(F:Nat):CSound Tryz.prog 87 (con87 F) :=
 fn_sound (fn:=Tryz.f87) (code:=(bodyOf Tryz.f87)) (cx:=cx87 F) (hs:=hintL []) (js:=hintL []) Tryz.func87 (by kernel_rfl) (by kernel_rfl) (conf_all _ rfl) (cs87 F) mix (by kernel_rfl) (by kernel_rfl) (fun fr hn=>(hok_of (l:=[]) (by kernel_rfl) obl_nil)) (fun x=>by kernel_rfl)
def sg172:Sig:={ modes:=[.ro],sh:=[(0,.d (.int .i64))],keeps:=true,fresh:=none,rtys:=[(.pair tyV (.pair tyV .unit))] }
def con172(F:Nat):Contract:=mkCon sg172 fun x=>ratio_Of F x.1
def cx172(F:Nat):Cx:={ types:=tys,call:=callsL [(85,con85 F)],own:=[],ntmps:=(0,7) }
theorem cs172(F:Nat):∀ f c,(cx172 F).call f=some c→CMet Tryz.prog f c:=callsL_sound (calls_cons (s85 F) calls_nil)
theorem s172(F:Nat):CSound Tryz.prog 172 (con172 F) :=
 fn_sound (fn:=Tryz.f172) (code:=(bodyOf Tryz.f172)) (cx:=cx172 F) (hs:=hintL []) (js:=hintL []) Tryz.func172 (by kernel_rfl) (by kernel_rfl) (conf_all _ rfl) (cs172 F) mix (by kernel_rfl) (by kernel_rfl) (fun fr hn=>(hok_of (l:=[]) (by kernel_rfl) obl_nil)) (fun x=>by kernel_rfl)
def sg138:Sig:={ modes:=[.ro],sh:=[(0,.d (.pair tyV (.pair tyV .unit)))],keeps:=true,fresh:=none,rtys:=[(.pair tyV (.pair tyV .unit))] }
def con138(F:Nat):Contract:=mkCon sg138 fun x=>ratio_clean F x.1
def cx138(F:Nat):Cx:={ types:=tys,call:=callsL [(40,con40 F),(172,con172 F)],own:=[],ntmps:=(0,8) }
theorem cs138(F:Nat):∀ f c,(cx138 F).call f=some c→CMet Tryz.prog f c:=callsL_sound (calls_cons (s40 F) (calls_cons (s172 F) calls_nil))
theorem s138(F:Nat):CSound Tryz.prog 138 (con138 F) :=
 fn_sound (fn:=Tryz.f138) (code:=(bodyOf Tryz.f138)) (cx:=cx138 F) (hs:=hintL []) (js:=hintL []) Tryz.func138 (by kernel_rfl) (by kernel_rfl) (conf_all _ rfl) (cs138 F) mix (by kernel_rfl) (by kernel_rfl) (fun fr hn=>(hok_of (l:=[]) (by kernel_rfl) obl_nil)) (fun x=>by kernel_rfl)
def sg191:Sig:={ modes:=[.ro,.ro],sh:=[(0,.d (.arr 4 (.int .u64))),(1,.d (.arr 4 (.int .u64)))],keeps:=true,fresh:=none,rtys:=[(.arr 4 (.int .u64)),.bool] }
def con191(F:Nat):Contract:=mkCon sg191 fun x=>wide_mul F x.1 x.2.1
def cx191(F:Nat):Cx:={ types:=tys,call:=callsL [(160,con160 F),(161,con161 F)],own:=[],ntmps:=(0,74),cuts:=[65,66,69] }
theorem cs191(F:Nat):∀ f c,(cx191 F).call f=some c→CMet Tryz.prog f c:=callsL_sound (calls_cons (s160 F) (calls_cons_ext (s161 F) calls_nil))
def sh191l7:Shape:=[(3,.box 3 (.arr 4 (.int .u64))),(4,.box 4 (.arr 4 (.int .u64))),(6,.box 6 (.arr 8 (.int .u64))),(7,.d (.int .i64)),(8,.d (.int .u64)),(9,.d (.int .u64)),(16,.d (.arr 4 (.int .u64))),(17,.d (.int .i64)),(21,.d (.arr 4 (.int .u64))),(22,.d (.int .i64))]
def sh191l7o2:Shape:=[(3,.box 3 (.arr 4 (.int .u64))),(4,.box 4 (.arr 4 (.int .u64))),(6,.box 6 (.arr 8 (.int .u64))),(7,.d (.int .i64)),(9,.d (.int .u64)),(16,.d (.arr 4 (.int .u64))),(17,.d (.int .i64))]
def outs191l7:Outs:=[(4,sh191l7o2)]
def m191l7(F:Nat)(n:Nat){R:Type}(x:Shape.den sh191l7)(K:Ex→St→Option R):Option R:=wide_mul_l7 F (fun y3 y4 y6 y7 y9 y16 y17=>K (.exit 2) (enc sh191l7o2 (y3,y4,y6,y7,y9,y16,y17,()))) n x.1 x.2.1 x.2.2.1 x.2.2.2.1 x.2.2.2.2.1 x.2.2.2.2.2.1 x.2.2.2.2.2.2.1 x.2.2.2.2.2.2.2.1 x.2.2.2.2.2.2.2.2.1 x.2.2.2.2.2.2.2.2.2.1
def sh191l3:Shape:=[(3,.box 3 (.arr 4 (.int .u64))),(4,.box 4 (.arr 4 (.int .u64))),(6,.box 6 (.arr 8 (.int .u64))),(16,.d (.arr 4 (.int .u64))),(17,.d (.int .i64))]
def sh191l3o0:Shape:=[(4,.box 4 (.arr 4 (.int .u64))),(6,.box 6 (.arr 8 (.int .u64)))]
def outs191l3:Outs:=[(2,sh191l3o0)]
def m191l3(F:Nat)(n:Nat){R:Type}(x:Shape.den sh191l3)(K:Ex→St→Option R):Option R:=wide_mul_l3 F (fun y4 y6=>K (.exit 0) (enc sh191l3o0 (y4,y6,()))) n x.1 x.2.1 x.2.2.1 x.2.2.2.1 x.2.2.2.2.1
def hs191(F:Nat):Nat→Option (Hint (Dens sg191.rtys)):=hintL [(7,{ sh:=sh191l7,model:=m191l7 F F }),(3,{ sh:=sh191l3,model:=m191l3 F F })]
theorem ok191l7(F:Nat)(fr:Frm)(hn:(cx191 F).ntmps=fr.n)(n:Nat):MSound (R:=(Dens sg191.rtys)) Tryz.prog fr (.loop (sub (bodyOf Tryz.f191) [1,1,0,1,0,0,1,1,0,0,1,1,0,1,0,0])) sh191l7 (m191l7 F n) :=
 loop_sound (cx:=cx191 F) (hs:=hs191 F) (js:=hintL []) (outs:=outs191l7) (conf_all _ rfl) (cs191 F) hn mix (m:=fun n=>m191l7 F n) (fun _ _=>rfl) (fun n x K=>by kernel_rfl) (hok_of (l:=[]) (by kernel_rfl) obl_nil) n
theorem ok191l3(F:Nat)(fr:Frm)(hn:(cx191 F).ntmps=fr.n)(n:Nat):MSound (R:=(Dens sg191.rtys)) Tryz.prog fr (.loop (sub (bodyOf Tryz.f191) [1,1,0,1,0,0])) sh191l3 (m191l3 F n) :=
 loop_sound (cx:=cx191 F) (hs:=hs191 F) (js:=hintL []) (outs:=outs191l3) (conf_all _ rfl) (cs191 F) hn mix (m:=fun n=>m191l3 F n) (fun _ _=>rfl) (fun n x K=>by kernel_rfl) (hok_of (l:=[((.loop (sub (bodyOf Tryz.f191) [1,1,0,1,0,0,1,1,0,0,1,1,0,1,0,0])),{ sh:=sh191l7,model:=m191l7 F F })]) (by kernel_rfl) (obl_cons (ok191l7 F fr hn F) obl_nil)) n
theorem s191(F:Nat):CSound Tryz.prog 191 (con191 F) :=
 fn_sound (fn:=Tryz.f191) (code:=(bodyOf Tryz.f191)) (cx:=cx191 F) (hs:=hs191 F) (js:=hintL []) Tryz.func191 (by kernel_rfl) (by kernel_rfl) (conf_all _ rfl) (cs191 F) mix (by kernel_rfl) (by kernel_rfl) (fun fr hn=>(hok_of (l:=[((.loop (sub (bodyOf Tryz.f191) [1,1,0,1,0,0])),{ sh:=sh191l3,model:=m191l3 F F })]) (by kernel_rfl) (obl_cons (ok191l3 F fr hn F) obl_nil))) (fun x=>by kernel_rfl)
def sg174:Sig:={ modes:=[.ro,.ro],sh:=[(0,.d tyV),(1,.d tyV)],keeps:=true,fresh:=none,rtys:=[tyV,.bool] }
def con174(F:Nat):Contract:=mkCon sg174 fun x=>wide_Mul F x.1 x.2.1
def cx174(F:Nat):Cx:={ types:=tys,call:=callsL [(135,con135 F),(191,con191 F),(171,con171 F)],own:=[],ntmps:=(0,30) }
theorem cs174(F:Nat):∀ f c,(cx174 F).call f=some c→CMet Tryz.prog f c:=callsL_sound (calls_cons (s135 F) (calls_cons (s191 F) (calls_cons (s171 F) calls_nil)))
theorem s174(F:Nat):CSound Tryz.prog 174 (con174 F) :=
 fn_sound (fn:=Tryz.f174) (code:=(bodyOf Tryz.f174)) (cx:=cx174 F) (hs:=hintL []) (js:=hintL []) Tryz.func174 (by kernel_rfl) (by kernel_rfl) (conf_all _ rfl) (cs174 F) mix (by kernel_rfl) (by kernel_rfl) (fun fr hn=>(hok_of (l:=[]) (by kernel_rfl) obl_nil)) (fun x=>by kernel_rfl)
def sg140:Sig:={ modes:=[.ro,.ro],sh:=[(0,.d tyV),(1,.d tyV)],keeps:=true,fresh:=none,rtys:=[tyV] }
def con140(F:Nat):Contract:=mkCon sg140 fun x=>ratio_product F x.1 x.2.1
def cx140(F:Nat):Cx:={ types:=tys,call:=callsL [(174,con174 F)],own:=[],ntmps:=(0,14) }
theorem cs140(F:Nat):∀ f c,(cx140 F).call f=some c→CMet Tryz.prog f c:=callsL_sound (calls_cons (s174 F) calls_nil)
theorem s140(F:Nat):CSound Tryz.prog 140 (con140 F) :=
 fn_sound (fn:=Tryz.f140) (code:=(bodyOf Tryz.f140)) (cx:=cx140 F) (hs:=hintL []) (js:=hintL []) Tryz.func140 (by kernel_rfl) (by kernel_rfl) (conf_all _ rfl) (cs140 F) mix (by kernel_rfl) (by kernel_rfl) (fun fr hn=>(hok_of (l:=[]) (by kernel_rfl) obl_nil)) (fun x=>by kernel_rfl)
def sg139:Sig:={ modes:=[.ro,.ro],sh:=[(0,.d tyV),(1,.d tyV)],keeps:=true,fresh:=none,rtys:=[(.int .i64)] }
def con139(F:Nat):Contract:=mkCon sg139 fun x=>wide_Compare F x.1 x.2.1
def cx139(F:Nat):Cx:={ types:=tys,call:=callsL [(135,con135 F),(173,con173 F)],own:=[],ntmps:=(0,32) }
theorem cs139(F:Nat):∀ f c,(cx139 F).call f=some c→CMet Tryz.prog f c:=callsL_sound (calls_cons (s135 F) (calls_cons (s173 F) calls_nil))
def sh139j3:Shape:=[(2,.box 2 tyV),(3,.box 3 tyV),(9,.d .bool)]
def sh139j3on:Shape:=[(2,.box 2 tyV),(3,.box 3 tyV)]
def sh139j3oret:Shape:=[(4,.d (.int .i64))]
def outs139j3:Outs:=[(0,sh139j3on),(1,sh139j3oret)]
def m139j3(F:Nat){R:Type}(x:Shape.den sh139j3)(K:Ex→St→Option R):Option R:=wide_Compare_j3 F (fun y2 y3=>K .normal (enc sh139j3on (y2,y3,()))) (fun y4=>K .ret (enc sh139j3oret (y4,()))) x.1 x.2.1 x.2.2.1
def sh139j8:Shape:=[(2,.box 2 tyV),(3,.box 3 tyV)]
def sh139j8oret:Shape:=[(4,.d (.int .i64))]
def outs139j8:Outs:=[(1,sh139j8oret)]
def m139j8(F:Nat){R:Type}(x:Shape.den sh139j8)(K:Ex→St→Option R):Option R:=wide_Compare_j8 F (fun y4=>K .ret (enc sh139j8oret (y4,()))) x.1 x.2.1
def js139(F:Nat):Nat→Option (Hint (Dens sg139.rtys)):=hintL [(3,{ sh:=sh139j3,model:=m139j3 F }),(8,{ sh:=sh139j8,model:=m139j8 F })]
theorem ok139j3(F:Nat)(fr:Frm)(hn:(cx139 F).ntmps=fr.n):MSound (R:=(Dens sg139.rtys)) Tryz.prog fr (sub (bodyOf Tryz.f139) [1,1,0,0,1]) sh139j3 (m139j3 F) :=
 join_sound (cx:=cx139 F) (hs:=hintL []) (js:=js139 F) (outs:=outs139j3) (conf_all _ rfl) (cs139 F) hn mix (fun x K=>by kernel_rfl) (hok_of (l:=[]) (by kernel_rfl) obl_nil)
theorem ok139j8(F:Nat)(fr:Frm)(hn:(cx139 F).ntmps=fr.n):MSound (R:=(Dens sg139.rtys)) Tryz.prog fr (sub (bodyOf Tryz.f139) [1,1,1]) sh139j8 (m139j8 F) :=
 join_sound (cx:=cx139 F) (hs:=hintL []) (js:=js139 F) (outs:=outs139j8) (conf_all _ rfl) (cs139 F) hn mix (fun x K=>by kernel_rfl) (hok_of (l:=[]) (by kernel_rfl) obl_nil)
theorem s139(F:Nat):CSound Tryz.prog 139 (con139 F) :=
 fn_sound (fn:=Tryz.f139) (code:=(bodyOf Tryz.f139)) (cx:=cx139 F) (hs:=hintL []) (js:=js139 F) Tryz.func139 (by kernel_rfl) (by kernel_rfl) (conf_all _ rfl) (cs139 F) mix (by kernel_rfl) (by kernel_rfl) (fun fr hn=>(hok_of (l:=[((sub (bodyOf Tryz.f139) [1,1,0,0,1]),{ sh:=sh139j3,model:=m139j3 F }),((sub (bodyOf Tryz.f139) [1,1,1]),{ sh:=sh139j8,model:=m139j8 F })]) (by kernel_rfl) (obl_cons (ok139j3 F fr hn) (obl_cons (ok139j8 F fr hn) obl_nil)))) (fun x=>by kernel_rfl)
def sg88:Sig:={ modes:=[.ro,.ro],sh:=[(0,.d (.pair tyV (.pair tyV .unit))),(1,.d (.pair tyV (.pair tyV .unit)))],keeps:=true,fresh:=none,rtys:=[(.int .i64)] }
def con88(F:Nat):Contract:=mkCon sg88 fun x=>ratio_Compare F x.1 x.2.1
def cx88(F:Nat):Cx:={ types:=tys,call:=callsL [(138,con138 F),(140,con140 F),(139,con139 F)],own:=[],ntmps:=(0,20) }
theorem cs88(F:Nat):∀ f c,(cx88 F).call f=some c→CMet Tryz.prog f c:=callsL_sound (calls_cons (s138 F) (calls_cons (s140 F) (calls_cons (s139 F) calls_nil)))
theorem s88(F:Nat):CSound Tryz.prog 88 (con88 F) :=
 fn_sound (fn:=Tryz.f88) (code:=(bodyOf Tryz.f88)) (cx:=cx88 F) (hs:=hintL []) (js:=hintL []) Tryz.func88 (by kernel_rfl) (by kernel_rfl) (conf_all _ rfl) (cs88 F) mix (by kernel_rfl) (by kernel_rfl) (fun fr hn=>(hok_of (l:=[]) (by kernel_rfl) obl_nil)) (fun x=>by kernel_rfl)
def sg41:Sig:={ modes:=[.ro,.ro],sh:=[(0,.d (.pair (.int .i64) (.pair (.pair tyV (.pair tyV .unit)) (.pair (.slice (.int .i64)) .unit)))),(1,.d (.pair (.int .i64) (.pair (.pair tyV (.pair tyV .unit)) (.pair (.slice (.int .i64)) .unit))))],keeps:=true,fresh:=none,rtys:=[(.int .i64)] }
def con41(F:Nat):Contract:=mkCon sg41 fun x=>simpiece_compare F x.1 x.2.1
def cx41(F:Nat):Cx:={ types:=tys,call:=callsL [(87,con87 F),(88,con88 F),(86,con86 F)],own:=[],ntmps:=(0,17) }
theorem cs41(F:Nat):∀ f c,(cx41 F).call f=some c→CMet Tryz.prog f c:=callsL_sound (calls_cons (s87 F) (calls_cons (s88 F) (calls_cons (s86 F) calls_nil)))
theorem s41(F:Nat):CSound Tryz.prog 41 (con41 F) :=
 fn_sound (fn:=Tryz.f41) (code:=(bodyOf Tryz.f41)) (cx:=cx41 F) (hs:=hintL []) (js:=hintL []) Tryz.func41 (by kernel_rfl) (by kernel_rfl) (conf_all _ rfl) (cs41 F) mix (by kernel_rfl) (by kernel_rfl) (fun fr hn=>(hok_of (l:=[]) (by kernel_rfl) obl_nil)) (fun x=>by kernel_rfl)
def sg13:Sig:={ modes:=[.ro],sh:=[(0,.d (.slice (.pair (.int .i64) (.pair (.pair tyV (.pair tyV .unit)) (.pair (.slice (.int .i64)) .unit)))))],keeps:=true,fresh:=none,rtys:=[(.int .i64)] }
def con13(F:Nat):Contract:=mkCon sg13 fun x=>simpiece_Valid F x.1
def cx13(F:Nat):Cx:={ types:=tys,call:=callsL [(39,con39 F),(40,con40 F),(41,con41 F)],own:=[],ntmps:=(0,84) }
theorem cs13(F:Nat):∀ f c,(cx13 F).call f=some c→CMet Tryz.prog f c:=callsL_sound (calls_cons (s39 F) (calls_cons (s40 F) (calls_cons (s41 F) calls_nil)))
def sh13l10:Shape:=[(0,.d (.slice (.pair (.int .i64) (.pair (.pair tyV (.pair tyV .unit)) (.pair (.slice (.int .i64)) .unit))))),(3,.box 3 (.arr 4096 .bool)),(5,.box 5 (.pair (.int .i64) (.pair (.pair tyV (.pair tyV .unit)) (.pair (.slice (.int .i64)) .unit)))),(16,.d (.slice (.pair (.int .i64) (.pair (.pair tyV (.pair tyV .unit)) (.pair (.slice (.int .i64)) .unit))))),(17,.d (.int .i64)),(18,.d (.int .i64)),(48,.d (.slice (.int .i64))),(49,.d (.int .i64)),(50,.d (.int .i64))]
def sh13l10o2:Shape:=[(0,.d (.slice (.pair (.int .i64) (.pair (.pair tyV (.pair tyV .unit)) (.pair (.slice (.int .i64)) .unit))))),(3,.box 3 (.arr 4096 .bool)),(16,.d (.slice (.pair (.int .i64) (.pair (.pair tyV (.pair tyV .unit)) (.pair (.slice (.int .i64)) .unit))))),(17,.d (.int .i64)),(18,.d (.int .i64))]
def sh13l10oret:Shape:=[(2,.d (.int .i64))]
def outs13l10:Outs:=[(4,sh13l10o2),(1,sh13l10oret)]
def m13l10(F:Nat)(n:Nat){R:Type}(x:Shape.den sh13l10)(K:Ex→St→Option R):Option R:=simpiece_Valid_l10 F (fun y0 y3 y16 y17 y18=>K (.exit 2) (enc sh13l10o2 (y0,y3,y16,y17,y18,()))) (fun y2=>K .ret (enc sh13l10oret (y2,()))) n x.1 x.2.1 x.2.2.1 x.2.2.2.1 x.2.2.2.2.1 x.2.2.2.2.2.1 x.2.2.2.2.2.2.1 x.2.2.2.2.2.2.2.1 x.2.2.2.2.2.2.2.2.1
def sh13j9:Shape:=[(0,.d (.slice (.pair (.int .i64) (.pair (.pair tyV (.pair tyV .unit)) (.pair (.slice (.int .i64)) .unit))))),(3,.box 3 (.arr 4096 .bool)),(5,.box 5 (.pair (.int .i64) (.pair (.pair tyV (.pair tyV .unit)) (.pair (.slice (.int .i64)) .unit)))),(16,.d (.slice (.pair (.int .i64) (.pair (.pair tyV (.pair tyV .unit)) (.pair (.slice (.int .i64)) .unit))))),(17,.d (.int .i64)),(18,.d (.int .i64))]
def sh13j9on:Shape:=[(0,.d (.slice (.pair (.int .i64) (.pair (.pair tyV (.pair tyV .unit)) (.pair (.slice (.int .i64)) .unit))))),(3,.box 3 (.arr 4096 .bool)),(16,.d (.slice (.pair (.int .i64) (.pair (.pair tyV (.pair tyV .unit)) (.pair (.slice (.int .i64)) .unit))))),(17,.d (.int .i64)),(18,.d (.int .i64))]
def sh13j9oret:Shape:=[(2,.d (.int .i64))]
def outs13j9:Outs:=[(0,sh13j9on),(1,sh13j9oret)]
def m13j9(F:Nat){R:Type}(x:Shape.den sh13j9)(K:Ex→St→Option R):Option R:=simpiece_Valid_j9 F (fun y0 y3 y16 y17 y18=>K .normal (enc sh13j9on (y0,y3,y16,y17,y18,()))) (fun y2=>K .ret (enc sh13j9oret (y2,()))) x.1 x.2.1 x.2.2.1 x.2.2.2.1 x.2.2.2.2.1 x.2.2.2.2.2.1
def sh13l5:Shape:=[(0,.d (.slice (.pair (.int .i64) (.pair (.pair tyV (.pair tyV .unit)) (.pair (.slice (.int .i64)) .unit))))),(3,.box 3 (.arr 4096 .bool)),(16,.d (.slice (.pair (.int .i64) (.pair (.pair tyV (.pair tyV .unit)) (.pair (.slice (.int .i64)) .unit))))),(17,.d (.int .i64)),(18,.d (.int .i64))]
def sh13l5o0:Shape:=[]
def sh13l5oret:Shape:=[(2,.d (.int .i64))]
def outs13l5:Outs:=[(2,sh13l5o0),(1,sh13l5oret)]
def m13l5(F:Nat)(n:Nat){R:Type}(x:Shape.den sh13l5)(K:Ex→St→Option R):Option R:=simpiece_Valid_l5 F (K (.exit 0) (enc sh13l5o0 (()))) (fun y2=>K .ret (enc sh13l5oret (y2,()))) n x.1 x.2.1 x.2.2.1 x.2.2.2.1 x.2.2.2.2.1
def hs13(F:Nat):Nat→Option (Hint (Dens sg13.rtys)):=hintL [(10,{ sh:=sh13l10,model:=m13l10 F F }),(5,{ sh:=sh13l5,model:=m13l5 F F })]
def js13(F:Nat):Nat→Option (Hint (Dens sg13.rtys)):=hintL [(9,{ sh:=sh13j9,model:=m13j9 F })]
theorem ok13l10(F:Nat)(fr:Frm)(hn:(cx13 F).ntmps=fr.n)(n:Nat):MSound (R:=(Dens sg13.rtys)) Tryz.prog fr (.loop (sub (bodyOf Tryz.f13) [1,1,1,0,1,0,0,1,1,0,0,1,1,1,0,0])) sh13l10 (m13l10 F n) :=
 loop_sound (cx:=cx13 F) (hs:=hs13 F) (js:=js13 F) (outs:=outs13l10) (conf_all _ rfl) (cs13 F) hn mix (m:=fun n=>m13l10 F n) (fun _ _=>rfl) (fun n x K=>by kernel_rfl) (hok_of (l:=[]) (by kernel_rfl) obl_nil) n
theorem ok13j9(F:Nat)(fr:Frm)(hn:(cx13 F).ntmps=fr.n):MSound (R:=(Dens sg13.rtys)) Tryz.prog fr (sub (bodyOf Tryz.f13) [1,1,1,0,1,0,0,1,1,0,0,1,1]) sh13j9 (m13j9 F) :=
 join_sound (cx:=cx13 F) (hs:=hs13 F) (js:=js13 F) (outs:=outs13j9) (conf_all _ rfl) (cs13 F) hn mix (fun x K=>by kernel_rfl) (hok_of (l:=[((.loop (sub (bodyOf Tryz.f13) [1,1,1,0,1,0,0,1,1,0,0,1,1,1,0,0])),{ sh:=sh13l10,model:=m13l10 F F })]) (by kernel_rfl) (obl_cons (ok13l10 F fr hn F) obl_nil))
theorem ok13l5(F:Nat)(fr:Frm)(hn:(cx13 F).ntmps=fr.n)(n:Nat):MSound (R:=(Dens sg13.rtys)) Tryz.prog fr (.loop (sub (bodyOf Tryz.f13) [1,1,1,0,1,0,0])) sh13l5 (m13l5 F n) :=
 loop_sound (cx:=cx13 F) (hs:=hs13 F) (js:=js13 F) (outs:=outs13l5) (conf_all _ rfl) (cs13 F) hn mix (m:=fun n=>m13l5 F n) (fun _ _=>rfl) (fun n x K=>by kernel_rfl) (hok_of (l:=[((sub (bodyOf Tryz.f13) [1,1,1,0,1,0,0,1,1,0,0,1,1]),{ sh:=sh13j9,model:=m13j9 F })]) (by kernel_rfl) (obl_cons (ok13j9 F fr hn) obl_nil)) n
theorem s13(F:Nat):CSound Tryz.prog 13 (con13 F) :=
 fn_sound (fn:=Tryz.f13) (code:=(bodyOf Tryz.f13)) (cx:=cx13 F) (hs:=hs13 F) (js:=js13 F) Tryz.func13 (by kernel_rfl) (by kernel_rfl) (conf_all _ rfl) (cs13 F) mix (by kernel_rfl) (by kernel_rfl) (fun fr hn=>(hok_of (l:=[((.loop (sub (bodyOf Tryz.f13) [1,1,1,0,1,0,0])),{ sh:=sh13l5,model:=m13l5 F F })]) (by kernel_rfl) (obl_cons (ok13l5 F fr hn F) obl_nil))) (fun x=>by kernel_rfl)
def sg124:Sig:=nilSig (.int .i64) false (some (0,2)) [(.slice (.int .i64))]
def con124(F:Nat):Contract:=mkCon sg124 fun x=>slices_Clone_int64 F x.1
def cx124(F:Nat):Cx:={ types:=tys,call:=callsL [],own:=[2,5],ntmps:=(0,8),nils:=[3] }
theorem cs124(F:Nat):∀ f c,(cx124 F).call f=some c→CMet Tryz.prog f c:=callsL_sound calls_nil
theorem s124(F:Nat):CSound Tryz.prog 124 (con124 F) :=
 fn_sound_nil (fn:=Tryz.f124) (code:=(bodyOf Tryz.f124)) (cx:=cx124 F) (hs:=hintL []) (js:=hintL []) Tryz.func124 (by kernel_rfl) (by kernel_rfl) (conf_all _ rfl) (cs124 F) mix (by kernel_rfl) (by kernel_rfl) (fun fr hn=>(hok_of (l:=[]) (by kernel_rfl) obl_nil)) (fun a l=>by kernel_rfl) (by kernel_rfl) (by kernel_rfl)
def sg165:Sig:={ modes:=[.ro,.ro],sh:=[(0,.d (.int .i64)),(1,.d (.int .i64))],keeps:=true,fresh:=none,rtys:=[(.int .u64)] }
def con165(F:Nat):Contract:=mkCon sg165 fun x=>checked_Diff F x.1 x.2.1
def cx165(F:Nat):Cx:={ types:=tys,call:=callsL [],own:=[],ntmps:=(0,10) }
theorem cs165(F:Nat):∀ f c,(cx165 F).call f=some c→CMet Tryz.prog f c:=callsL_sound calls_nil
theorem s165(F:Nat):CSound Tryz.prog 165 (con165 F) :=
 fn_sound (fn:=Tryz.f165) (code:=(bodyOf Tryz.f165)) (cx:=cx165 F) (hs:=hintL []) (js:=hintL []) Tryz.func165 (by kernel_rfl) (by kernel_rfl) (conf_all _ rfl) (cs165 F) mix (by kernel_rfl) (by kernel_rfl) (fun fr hn=>(hok_of (l:=[]) (by kernel_rfl) obl_nil)) (fun x=>by kernel_rfl)
def sg126:Sig:={ modes:=[.wr 2],sh:=[(0,.own 0 (.int .i64) 2)],keeps:=false,fresh:=none,rtys:=[(.slice (.int .i64))] }
def con126(F:Nat):Contract:=mkCon sg126 fun x=>residual_differences F x.1
def cx126(F:Nat):Cx:={ types:=tys,call:=callsL [(165,con165 F)],own:=[],ntmps:=(1,24) }
theorem cs126(F:Nat):∀ f c,(cx126 F).call f=some c→CMet Tryz.prog f c:=callsL_sound (calls_cons (s165 F) calls_nil)
def sh126l1:Shape:=[(0,.own 0 (.int .i64) 2),(2,.d (.int .i64))]
def sh126l1o0:Shape:=[(0,.own 0 (.int .i64) 2)]
def outs126l1:Outs:=[(2,sh126l1o0)]
def m126l1(F:Nat)(n:Nat){R:Type}(x:Shape.den sh126l1)(K:Ex→St→Option R):Option R:=residual_differences_l1 F (fun y0=>K (.exit 0) (enc sh126l1o0 (y0,()))) n x.1 x.2.1
def hs126(F:Nat):Nat→Option (Hint (Dens sg126.rtys)):=hintL [(1,{ sh:=sh126l1,model:=m126l1 F F })]
theorem ok126l1(F:Nat)(fr:Frm)(hn:(cx126 F).ntmps=fr.n)(n:Nat):MSound (R:=(Dens sg126.rtys)) Tryz.prog fr (.loop (sub (bodyOf Tryz.f126) [1,0,0])) sh126l1 (m126l1 F n) :=
 loop_sound (cx:=cx126 F) (hs:=hs126 F) (js:=hintL []) (outs:=outs126l1) (conf_all _ rfl) (cs126 F) hn mix (m:=fun n=>m126l1 F n) (fun _ _=>rfl) (fun n x K=>by kernel_rfl) (hok_of (l:=[]) (by kernel_rfl) obl_nil) n
theorem s126(F:Nat):CSound Tryz.prog 126 (con126 F) :=
 fn_sound (fn:=Tryz.f126) (code:=(bodyOf Tryz.f126)) (cx:=cx126 F) (hs:=hs126 F) (js:=hintL []) Tryz.func126 (by kernel_rfl) (by kernel_rfl) (conf_all _ rfl) (cs126 F) mix (by kernel_rfl) (by kernel_rfl) (fun fr hn=>(hok_of (l:=[((.loop (sub (bodyOf Tryz.f126) [1,0,0])),{ sh:=sh126l1,model:=m126l1 F F })]) (by kernel_rfl) (obl_cons (ok126l1 F fr hn F) obl_nil))) (fun x=>by kernel_rfl)
def sg180:Sig:={ modes:=[.ro,.ro],sh:=[(0,.d (.int .i64)),(1,.d (.int .u64))],keeps:=true,fresh:=none,rtys:=[(.int .i64)] }
def con180(F:Nat):Contract:=mkCon sg180 fun x=>checked_Apply F x.1 x.2.1
def cx180(F:Nat):Cx:={ types:=tys,call:=callsL [],own:=[],ntmps:=(0,10) }
theorem cs180(F:Nat):∀ f c,(cx180 F).call f=some c→CMet Tryz.prog f c:=callsL_sound calls_nil
theorem s180(F:Nat):CSound Tryz.prog 180 (con180 F) :=
 fn_sound (fn:=Tryz.f180) (code:=(bodyOf Tryz.f180)) (cx:=cx180 F) (hs:=hintL []) (js:=hintL []) Tryz.func180 (by kernel_rfl) (by kernel_rfl) (conf_all _ rfl) (cs180 F) mix (by kernel_rfl) (by kernel_rfl) (fun fr hn=>(hok_of (l:=[]) (by kernel_rfl) obl_nil)) (fun x=>by kernel_rfl)
def sg150:Sig:={ modes:=[.wr 2],sh:=[(0,.own 0 (.int .i64) 2)],keeps:=false,fresh:=none,rtys:=[(.slice (.int .i64))] }
def con150(F:Nat):Contract:=mkCon sg150 fun x=>residual_sums F x.1
def cx150(F:Nat):Cx:={ types:=tys,call:=callsL [(180,con180 F)],own:=[],ntmps:=(1,23) }
theorem cs150(F:Nat):∀ f c,(cx150 F).call f=some c→CMet Tryz.prog f c:=callsL_sound (calls_cons (s180 F) calls_nil)
def sh150l1:Shape:=[(0,.own 0 (.int .i64) 2),(2,.d (.int .i64))]
def sh150l1o0:Shape:=[(0,.own 0 (.int .i64) 2)]
def outs150l1:Outs:=[(2,sh150l1o0)]
def m150l1(F:Nat)(n:Nat){R:Type}(x:Shape.den sh150l1)(K:Ex→St→Option R):Option R:=residual_sums_l1 F (fun y0=>K (.exit 0) (enc sh150l1o0 (y0,()))) n x.1 x.2.1
def hs150(F:Nat):Nat→Option (Hint (Dens sg150.rtys)):=hintL [(1,{ sh:=sh150l1,model:=m150l1 F F })]
theorem ok150l1(F:Nat)(fr:Frm)(hn:(cx150 F).ntmps=fr.n)(n:Nat):MSound (R:=(Dens sg150.rtys)) Tryz.prog fr (.loop (sub (bodyOf Tryz.f150) [1,0,0])) sh150l1 (m150l1 F n) :=
 loop_sound (cx:=cx150 F) (hs:=hs150 F) (js:=hintL []) (outs:=outs150l1) (conf_all _ rfl) (cs150 F) hn mix (m:=fun n=>m150l1 F n) (fun _ _=>rfl) (fun n x K=>by kernel_rfl) (hok_of (l:=[]) (by kernel_rfl) obl_nil) n
theorem s150(F:Nat):CSound Tryz.prog 150 (con150 F) :=
 fn_sound (fn:=Tryz.f150) (code:=(bodyOf Tryz.f150)) (cx:=cx150 F) (hs:=hs150 F) (js:=hintL []) Tryz.func150 (by kernel_rfl) (by kernel_rfl) (conf_all _ rfl) (cs150 F) mix (by kernel_rfl) (by kernel_rfl) (fun fr hn=>(hok_of (l:=[((.loop (sub (bodyOf Tryz.f150) [1,0,0])),{ sh:=sh150l1,model:=m150l1 F F })]) (by kernel_rfl) (obl_cons (ok150l1 F fr hn F) obl_nil))) (fun x=>by kernel_rfl)
def sg125d:Sig:={ modes:=[.wr 2,.ro,.ro],sh:=[(0,.own 0 (.int .i64) 2),(1,.d (.int .i64)),(2,.fn 126)],keeps:=false,fresh:=none,rtys:=[(.slice (.int .i64))] }
def con125d(F:Nat):Contract:=mkCon sg125d fun x=>residual_repeatd F x.1 x.2.1
def cx125d(F:Nat):Cx:={ types:=tys,call:=callsL [(126,con126 F)],own:=[],ntmps:=(1,13) }
theorem cs125d(F:Nat):∀ f c,(cx125d F).call f=some c→CMet Tryz.prog f c:=callsL_sound (calls_cons (s126 F) calls_nil)
def sh125dl1:Shape:=[(0,.own 0 (.int .i64) 2),(2,.fn 126),(6,.d (.int .i64)),(7,.d (.int .i64))]
def sh125dl1o0:Shape:=[(0,.own 0 (.int .i64) 2)]
def outs125dl1:Outs:=[(2,sh125dl1o0)]
def m125dl1(F:Nat)(n:Nat){R:Type}(x:Shape.den sh125dl1)(K:Ex→St→Option R):Option R:=residual_repeatd_l1 F (fun y0=>K (.exit 0) (enc sh125dl1o0 (y0,()))) n x.1 x.2.2.1 x.2.2.2.1
def hs125d(F:Nat):Nat→Option (Hint (Dens sg125d.rtys)):=hintL [(1,{ sh:=sh125dl1,model:=m125dl1 F F })]
def js125d(F:Nat):Nat→Option (Hint (Dens sg125d.rtys)):=hintL []
theorem ok125dl1(F:Nat)(fr:Frm)(hn:(cx125d F).ntmps=fr.n)(n:Nat):MSound (R:=(Dens sg125d.rtys)) Tryz.prog fr (.loop (sub (bodyOf Tryz.f125) [1,0,0])) sh125dl1 (m125dl1 F n) :=
 loop_sound (cx:=cx125d F) (hs:=hs125d F) (js:=js125d F) (outs:=outs125dl1) (conf_all _ rfl) (cs125d F) hn mix (m:=fun n=>m125dl1 F n) (fun _ _=>rfl) (fun n x K=>by kernel_rfl) (hok_of (l:=[]) (by kernel_rfl) obl_nil) n
theorem s125d(F:Nat):CSound Tryz.prog 125 (con125d F) :=
 fn_sound (fn:=Tryz.f125) (code:=(bodyOf Tryz.f125)) (cx:=cx125d F) (hs:=hs125d F) (js:=js125d F) Tryz.func125 (by kernel_rfl) (by kernel_rfl) (conf_all _ rfl) (cs125d F) mix (by kernel_rfl) (by kernel_rfl) (fun fr hn=>(hok_of (l:=[((.loop (sub (bodyOf Tryz.f125) [1,0,0])),{ sh:=sh125dl1,model:=m125dl1 F F })]) (by kernel_rfl) (obl_cons (ok125dl1 F fr hn F) obl_nil))) (fun x=>by kernel_rfl)
def sg125s:Sig:={ modes:=[.wr 2,.ro,.ro],sh:=[(0,.own 0 (.int .i64) 2),(1,.d (.int .i64)),(2,.fn 150)],keeps:=false,fresh:=none,rtys:=[(.slice (.int .i64))] }
def con125s(F:Nat):Contract:=mkCon sg125s fun x=>residual_repeats F x.1 x.2.1
def cx125s(F:Nat):Cx:={ types:=tys,call:=callsL [(150,con150 F)],own:=[],ntmps:=(1,13) }
theorem cs125s(F:Nat):∀ f c,(cx125s F).call f=some c→CMet Tryz.prog f c:=callsL_sound (calls_cons (s150 F) calls_nil)
def sh125sl1:Shape:=[(0,.own 0 (.int .i64) 2),(2,.fn 150),(6,.d (.int .i64)),(7,.d (.int .i64))]
def sh125sl1o0:Shape:=[(0,.own 0 (.int .i64) 2)]
def outs125sl1:Outs:=[(2,sh125sl1o0)]
def m125sl1(F:Nat)(n:Nat){R:Type}(x:Shape.den sh125sl1)(K:Ex→St→Option R):Option R:=residual_repeats_l1 F (fun y0=>K (.exit 0) (enc sh125sl1o0 (y0,()))) n x.1 x.2.2.1 x.2.2.2.1
def hs125s(F:Nat):Nat→Option (Hint (Dens sg125s.rtys)):=hintL [(1,{ sh:=sh125sl1,model:=m125sl1 F F })]
def js125s(F:Nat):Nat→Option (Hint (Dens sg125s.rtys)):=hintL []
theorem ok125sl1(F:Nat)(fr:Frm)(hn:(cx125s F).ntmps=fr.n)(n:Nat):MSound (R:=(Dens sg125s.rtys)) Tryz.prog fr (.loop (sub (bodyOf Tryz.f125) [1,0,0])) sh125sl1 (m125sl1 F n) :=
 loop_sound (cx:=cx125s F) (hs:=hs125s F) (js:=js125s F) (outs:=outs125sl1) (conf_all _ rfl) (cs125s F) hn mix (m:=fun n=>m125sl1 F n) (fun _ _=>rfl) (fun n x K=>by kernel_rfl) (hok_of (l:=[]) (by kernel_rfl) obl_nil) n
theorem s125s(F:Nat):CSound Tryz.prog 125 (con125s F) :=
 fn_sound (fn:=Tryz.f125) (code:=(bodyOf Tryz.f125)) (cx:=cx125s F) (hs:=hs125s F) (js:=js125s F) Tryz.func125 (by kernel_rfl) (by kernel_rfl) (conf_all _ rfl) (cs125s F) mix (by kernel_rfl) (by kernel_rfl) (fun fr hn=>(hok_of (l:=[((.loop (sub (bodyOf Tryz.f125) [1,0,0])),{ sh:=sh125sl1,model:=m125sl1 F F })]) (by kernel_rfl) (obl_cons (ok125sl1 F fr hn F) obl_nil))) (fun x=>by kernel_rfl)
def sg127:Sig:={ modes:=[.ro],sh:=[(0,.d (.int .i64))],keeps:=true,fresh:=none,rtys:=[(.int .u64)] }
def con127(F:Nat):Contract:=mkCon sg127 fun x=>varint_Zigzag F x.1
def cx127(F:Nat):Cx:={ types:=tys,call:=callsL [],own:=[],ntmps:=(0,10) }
theorem cs127(F:Nat):∀ f c,(cx127 F).call f=some c→CMet Tryz.prog f c:=callsL_sound calls_nil
theorem s127(F:Nat):CSound Tryz.prog 127 (con127 F) :=
 fn_sound (fn:=Tryz.f127) (code:=(bodyOf Tryz.f127)) (cx:=cx127 F) (hs:=hintL []) (js:=hintL []) Tryz.func127 (by kernel_rfl) (by kernel_rfl) (conf_all _ rfl) (cs127 F) mix (by kernel_rfl) (by kernel_rfl) (fun fr hn=>(hok_of (l:=[]) (by kernel_rfl) obl_nil)) (fun x=>by kernel_rfl)
def sg71:Sig:={ modes:=[.ro,.ro],sh:=[(0,.d (.slice (.int .i64))),(1,.d (.int .i64))],keeps:=false,fresh:=some (0,49),rtys:=[(.slice (.int .u64)),.bool] }
def con71(F:Nat):Contract:=mkCon sg71 fun x=>residual_Residuals F x.1 x.2.1
def cx71(F:Nat):Cx:={ types:=tys,call:=callsL [(124,con124 F),(125,con125d F),(127,con127 F)],own:=[4,17,23],ntmps:=(0,38) }
theorem cs71(F:Nat):∀ f c,(cx71 F).call f=some c→CMet Tryz.prog f c:=callsL_sound (calls_cons (s124 F) (calls_cons (s125d F) (calls_cons (s127 F) calls_nil)))
def sh71l7:Shape:=[(7,.own 7 (.int .u64) 49),(24,.own 24 (.int .i64) 2),(25,.d (.int .i64)),(26,.d (.int .i64))]
def sh71l7o0:Shape:=[(7,.own 7 (.int .u64) 49)]
def outs71l7:Outs:=[(2,sh71l7o0)]
def m71l7(F:Nat)(n:Nat){R:Type}(x:Shape.den sh71l7)(K:Ex→St→Option R):Option R:=residual_Residuals_l7 F (fun y7=>K (.exit 0) (enc sh71l7o0 (y7,()))) n x.1 x.2.1 x.2.2.1 x.2.2.2.1
def hs71(F:Nat):Nat→Option (Hint (Dens sg71.rtys)):=hintL [(7,{ sh:=sh71l7,model:=m71l7 F F })]
theorem ok71l7(F:Nat)(fr:Frm)(hn:(cx71 F).ntmps=fr.n)(n:Nat):MSound (R:=(Dens sg71.rtys)) Tryz.prog fr (.loop (sub (bodyOf Tryz.f71) [1,1,1,1,1,0,1,0,0])) sh71l7 (m71l7 F n) :=
 loop_sound (cx:=cx71 F) (hs:=hs71 F) (js:=hintL []) (outs:=outs71l7) (conf_all _ rfl) (cs71 F) hn mix (m:=fun n=>m71l7 F n) (fun _ _=>rfl) (fun n x K=>by kernel_rfl) (hok_of (l:=[]) (by kernel_rfl) obl_nil) n
theorem s71(F:Nat):CSound Tryz.prog 71 (con71 F) :=
 fn_sound (fn:=Tryz.f71) (code:=(bodyOf Tryz.f71)) (cx:=cx71 F) (hs:=hs71 F) (js:=hintL []) Tryz.func71 (by kernel_rfl) (by kernel_rfl) (conf_all _ rfl) (cs71 F) mix (by kernel_rfl) (by kernel_rfl) (fun fr hn=>(hok_of (l:=[((.loop (sub (bodyOf Tryz.f71) [1,1,1,1,1,0,1,0,0])),{ sh:=sh71l7,model:=m71l7 F F })]) (by kernel_rfl) (obl_cons (ok71l7 F fr hn F) obl_nil))) (fun x=>by kernel_rfl)
def sg128:Sig:={ modes:=[.ro],sh:=[(0,.d (.int .u64))],keeps:=true,fresh:=none,rtys:=[(.int .i64)] }
def con128(F:Nat):Contract:=mkCon sg128 fun x=>varint_Size F x.1
def cx128(F:Nat):Cx:={ types:=tys,call:=callsL [(166,con166 F)],own:=[],ntmps:=(0,8) }
theorem cs128(F:Nat):∀ f c,(cx128 F).call f=some c→CMet Tryz.prog f c:=callsL_sound (calls_cons (s166 F) calls_nil)
theorem s128(F:Nat):CSound Tryz.prog 128 (con128 F) :=
 fn_sound (fn:=Tryz.f128) (code:=(bodyOf Tryz.f128)) (cx:=cx128 F) (hs:=hintL []) (js:=hintL []) Tryz.func128 (by kernel_rfl) (by kernel_rfl) (conf_all _ rfl) (cs128 F) mix (by kernel_rfl) (by kernel_rfl) (fun fr hn=>(hok_of (l:=[]) (by kernel_rfl) obl_nil)) (fun x=>by kernel_rfl)
def sg129:Sig:={ modes:=[.ro],sh:=[(0,.d (.slice (.int .u64)))],keeps:=true,fresh:=none,rtys:=[(.int .i64)] }
def con129(F:Nat):Contract:=mkCon sg129 fun x=>bitpack_Width F x.1
def cx129(F:Nat):Cx:={ types:=tys,call:=callsL [(166,con166 F)],own:=[],ntmps:=(0,18) }
theorem cs129(F:Nat):∀ f c,(cx129 F).call f=some c→CMet Tryz.prog f c:=callsL_sound (calls_cons (s166 F) calls_nil)
def sh129l3:Shape:=[(3,.d (.int .u64)),(6,.d (.slice (.int .u64))),(7,.d (.int .i64)),(8,.d (.int .i64))]
def sh129l3o0:Shape:=[(3,.d (.int .u64))]
def outs129l3:Outs:=[(2,sh129l3o0)]
def m129l3(F:Nat)(n:Nat){R:Type}(x:Shape.den sh129l3)(K:Ex→St→Option R):Option R:=bitpack_Width_l3 F (fun y3=>K (.exit 0) (enc sh129l3o0 (y3,()))) n x.1 x.2.1 x.2.2.1 x.2.2.2.1
def hs129(F:Nat):Nat→Option (Hint (Dens sg129.rtys)):=hintL [(3,{ sh:=sh129l3,model:=m129l3 F F })]
theorem ok129l3(F:Nat)(fr:Frm)(hn:(cx129 F).ntmps=fr.n)(n:Nat):MSound (R:=(Dens sg129.rtys)) Tryz.prog fr (.loop (sub (bodyOf Tryz.f129) [1,1,0,1,0,0])) sh129l3 (m129l3 F n) :=
 loop_sound (cx:=cx129 F) (hs:=hs129 F) (js:=hintL []) (outs:=outs129l3) (conf_all _ rfl) (cs129 F) hn mix (m:=fun n=>m129l3 F n) (fun _ _=>rfl) (fun n x K=>by kernel_rfl) (hok_of (l:=[]) (by kernel_rfl) obl_nil) n
theorem s129(F:Nat):CSound Tryz.prog 129 (con129 F) :=
 fn_sound (fn:=Tryz.f129) (code:=(bodyOf Tryz.f129)) (cx:=cx129 F) (hs:=hs129 F) (js:=hintL []) Tryz.func129 (by kernel_rfl) (by kernel_rfl) (conf_all _ rfl) (cs129 F) mix (by kernel_rfl) (by kernel_rfl) (fun fr hn=>(hok_of (l:=[((.loop (sub (bodyOf Tryz.f129) [1,1,0,1,0,0])),{ sh:=sh129l3,model:=m129l3 F F })]) (by kernel_rfl) (obl_cons (ok129l3 F fr hn F) obl_nil))) (fun x=>by kernel_rfl)
def sg152:Sig:={ modes:=[.ro,.ro],sh:=[(0,.d (.int .i64)),(1,.d (.int .i64))],keeps:=true,fresh:=none,rtys:=[(.int .i64)] }
def con152(F:Nat):Contract:=mkCon sg152 fun x=>bitpack_Bytes F x.1 x.2.1
def cx152(F:Nat):Cx:={ types:=tys,call:=callsL [],own:=[],ntmps:=(0,24) }
theorem cs152(F:Nat):∀ f c,(cx152 F).call f=some c→CMet Tryz.prog f c:=callsL_sound calls_nil
theorem s152(F:Nat):CSound Tryz.prog 152 (con152 F) :=
 fn_sound (fn:=Tryz.f152) (code:=(bodyOf Tryz.f152)) (cx:=cx152 F) (hs:=hintL []) (js:=hintL []) Tryz.func152 (by kernel_rfl) (by kernel_rfl) (conf_all _ rfl) (cs152 F) mix (by kernel_rfl) (by kernel_rfl) (fun fr hn=>(hok_of (l:=[]) (by kernel_rfl) obl_nil)) (fun x=>by kernel_rfl)
def sg130:Sig:={ modes:=[.ro,.ro],sh:=[(0,.d (.slice (.int .u64))),(1,.d (.int .i64))],keeps:=false,fresh:=some (0,5),rtys:=[(.slice (.int .u8)),.bool] }
def con130(F:Nat):Contract:=mkCon sg130 fun x=>bitpack_Pack F x.1 x.2.1
def cx130(F:Nat):Cx:={ types:=tys,call:=callsL [(152,con152 F),(129,con129 F)],own:=[4,26],ntmps:=(0,64) }
theorem cs130(F:Nat):∀ f c,(cx130 F).call f=some c→CMet Tryz.prog f c:=callsL_sound (calls_cons (s152 F) (calls_cons (s129 F) calls_nil))
def sh130l10:Shape:=[(1,.d (.int .i64)),(7,.own 7 (.int .u8) 5),(8,.d (.int .i64)),(10,.d (.int .u64)),(11,.d (.int .i64)),(27,.d (.slice (.int .u64))),(28,.d (.int .i64)),(29,.d (.int .i64))]
def sh130l10o2:Shape:=[(1,.d (.int .i64)),(7,.own 7 (.int .u8) 5),(8,.d (.int .i64)),(27,.d (.slice (.int .u64))),(28,.d (.int .i64)),(29,.d (.int .i64))]
def outs130l10:Outs:=[(4,sh130l10o2)]
def m130l10(F:Nat)(n:Nat){R:Type}(x:Shape.den sh130l10)(K:Ex→St→Option R):Option R:=bitpack_Pack_l10 F (fun y1 y7 y8 y27 y28 y29=>K (.exit 2) (enc sh130l10o2 (y1,y7,y8,y27,y28,y29,()))) n x.1 x.2.1 x.2.2.1 x.2.2.2.1 x.2.2.2.2.1 x.2.2.2.2.2.1 x.2.2.2.2.2.2.1 x.2.2.2.2.2.2.2.1
def sh130l7:Shape:=[(1,.d (.int .i64)),(7,.own 7 (.int .u8) 5),(8,.d (.int .i64)),(27,.d (.slice (.int .u64))),(28,.d (.int .i64)),(29,.d (.int .i64))]
def sh130l7o0:Shape:=[(7,.own 7 (.int .u8) 5)]
def outs130l7:Outs:=[(2,sh130l7o0)]
def m130l7(F:Nat)(n:Nat){R:Type}(x:Shape.den sh130l7)(K:Ex→St→Option R):Option R:=bitpack_Pack_l7 F (fun y7=>K (.exit 0) (enc sh130l7o0 (y7,()))) n x.1 x.2.1 x.2.2.1 x.2.2.2.1 x.2.2.2.2.1 x.2.2.2.2.2.1
def hs130(F:Nat):Nat→Option (Hint (Dens sg130.rtys)):=hintL [(10,{ sh:=sh130l10,model:=m130l10 F F }),(7,{ sh:=sh130l7,model:=m130l7 F F })]
theorem ok130l10(F:Nat)(fr:Frm)(hn:(cx130 F).ntmps=fr.n)(n:Nat):MSound (R:=(Dens sg130.rtys)) Tryz.prog fr (.loop (sub (bodyOf Tryz.f130) [1,1,1,1,1,0,1,0,0,1,1,0,0,1,1,0,0])) sh130l10 (m130l10 F n) :=
 loop_sound (cx:=cx130 F) (hs:=hs130 F) (js:=hintL []) (outs:=outs130l10) (conf_all _ rfl) (cs130 F) hn mix (m:=fun n=>m130l10 F n) (fun _ _=>rfl) (fun n x K=>by kernel_rfl) (hok_of (l:=[]) (by kernel_rfl) obl_nil) n
theorem ok130l7(F:Nat)(fr:Frm)(hn:(cx130 F).ntmps=fr.n)(n:Nat):MSound (R:=(Dens sg130.rtys)) Tryz.prog fr (.loop (sub (bodyOf Tryz.f130) [1,1,1,1,1,0,1,0,0])) sh130l7 (m130l7 F n) :=
 loop_sound (cx:=cx130 F) (hs:=hs130 F) (js:=hintL []) (outs:=outs130l7) (conf_all _ rfl) (cs130 F) hn mix (m:=fun n=>m130l7 F n) (fun _ _=>rfl) (fun n x K=>by kernel_rfl) (hok_of (l:=[((.loop (sub (bodyOf Tryz.f130) [1,1,1,1,1,0,1,0,0,1,1,0,0,1,1,0,0])),{ sh:=sh130l10,model:=m130l10 F F })]) (by kernel_rfl) (obl_cons (ok130l10 F fr hn F) obl_nil)) n
theorem s130(F:Nat):CSound Tryz.prog 130 (con130 F) :=
 fn_sound (fn:=Tryz.f130) (code:=(bodyOf Tryz.f130)) (cx:=cx130 F) (hs:=hs130 F) (js:=hintL []) Tryz.func130 (by kernel_rfl) (by kernel_rfl) (conf_all _ rfl) (cs130 F) mix (by kernel_rfl) (by kernel_rfl) (fun fr hn=>(hok_of (l:=[((.loop (sub (bodyOf Tryz.f130) [1,1,1,1,1,0,1,0,0])),{ sh:=sh130l7,model:=m130l7 F F })]) (by kernel_rfl) (obl_cons (ok130l7 F fr hn F) obl_nil))) (fun x=>by kernel_rfl)
def sg74:Sig:=nilSig (.int .u8) false (some (0,5)) [(.slice (.int .u8))]
def con74(F:Nat):Contract:=mkCon sg74 fun x=>slices_Clone_byte F x.1
def cx74(F:Nat):Cx:={ types:=tys,call:=callsL [],own:=[2,5],ntmps:=(0,8),nils:=[3] }
theorem cs74(F:Nat):∀ f c,(cx74 F).call f=some c→CMet Tryz.prog f c:=callsL_sound calls_nil
theorem s74(F:Nat):CSound Tryz.prog 74 (con74 F) :=
 fn_sound_nil (fn:=Tryz.f74) (code:=(bodyOf Tryz.f74)) (cx:=cx74 F) (hs:=hintL []) (js:=hintL []) Tryz.func74 (by kernel_rfl) (by kernel_rfl) (conf_all _ rfl) (cs74 F) mix (by kernel_rfl) (by kernel_rfl) (fun fr hn=>(hok_of (l:=[]) (by kernel_rfl) obl_nil)) (fun a l=>by kernel_rfl) (by kernel_rfl) (by kernel_rfl)
def sg31:Sig:={ modes:=[.ro,.ro],sh:=[(0,.d (.slice (.int .u8))),(1,.d (.int .u64))],keeps:=false,fresh:=some (0,5),rtys:=[(.slice (.int .u8))] }
def con31(F:Nat):Contract:=mkCon sg31 fun x=>varint_Append F x.1 x.2.1
def cx31(F:Nat):Cx:={ types:=tys,call:=callsL [(74,con74 F),(73,con73 F)],own:=[4,7,8],ntmps:=(0,24) }
theorem cs31(F:Nat):∀ f c,(cx31 F).call f=some c→CMet Tryz.prog f c:=callsL_sound (calls_cons (s74 F) (calls_cons (s73 F) calls_nil))
def sh31l2:Shape:=[(1,.d (.int .u64)),(5,.own 5 (.int .u8) 5)]
def sh31l2o0:Shape:=[(1,.d (.int .u64)),(5,.own 5 (.int .u8) 5)]
def outs31l2:Outs:=[(2,sh31l2o0)]
def m31l2(F:Nat)(n:Nat){R:Type}(x:Shape.den sh31l2)(K:Ex→St→Option R):Option R:=varint_Append_l2 F (fun y1 y5=>K (.exit 0) (enc sh31l2o0 (y1,y5,()))) n x.1 x.2.1
def hs31(F:Nat):Nat→Option (Hint (Dens sg31.rtys)):=hintL [(2,{ sh:=sh31l2,model:=m31l2 F F })]
theorem ok31l2(F:Nat)(fr:Frm)(hn:(cx31 F).ntmps=fr.n)(n:Nat):MSound (R:=(Dens sg31.rtys)) Tryz.prog fr (.loop (sub (bodyOf Tryz.f31) [1,1,0,0,0])) sh31l2 (m31l2 F n) :=
 loop_sound (cx:=cx31 F) (hs:=hs31 F) (js:=hintL []) (outs:=outs31l2) (conf_all _ rfl) (cs31 F) hn mix (m:=fun n=>m31l2 F n) (fun _ _=>rfl) (fun n x K=>by kernel_rfl) (hok_of (l:=[]) (by kernel_rfl) obl_nil) n
theorem s31(F:Nat):CSound Tryz.prog 31 (con31 F) :=
 fn_sound (fn:=Tryz.f31) (code:=(bodyOf Tryz.f31)) (cx:=cx31 F) (hs:=hs31 F) (js:=hintL []) Tryz.func31 (by kernel_rfl) (by kernel_rfl) (conf_all _ rfl) (cs31 F) mix (by kernel_rfl) (by kernel_rfl) (fun fr hn=>(hok_of (l:=[((.loop (sub (bodyOf Tryz.f31) [1,1,0,0,0])),{ sh:=sh31l2,model:=m31l2 F F })]) (by kernel_rfl) (obl_cons (ok31l2 F fr hn F) obl_nil))) (fun x=>by kernel_rfl)
def sg72:Sig:={ modes:=[.ro],sh:=[(0,.d (.slice (.int .u64)))],keeps:=false,fresh:=some (0,5),rtys:=[(.slice (.int .u8)),(.int .i64)] }
def con72(F:Nat):Contract:=mkCon sg72 fun x=>numbers_Encode F x.1
def cx72(F:Nat):Cx:={ types:=tys,call:=callsL [(128,con128 F),(129,con129 F),(130,con130 F),(31,con31 F)],own:=[2,42,46],ntmps:=(0,59) }
theorem cs72(F:Nat):∀ f c,(cx72 F).call f=some c→CMet Tryz.prog f c:=callsL_sound (calls_cons (s128 F) (calls_cons (s129 F) (calls_cons (s130 F) (calls_cons (s31 F) calls_nil))))
def sh72l5:Shape:=[(0,.d (.slice (.int .u64))),(4,.d (.int .i64)),(16,.d (.slice (.int .u64))),(17,.d (.int .i64)),(18,.d (.int .i64))]
def sh72l5o0:Shape:=[(0,.d (.slice (.int .u64))),(4,.d (.int .i64))]
def outs72l5:Outs:=[(2,sh72l5o0)]
def m72l5(F:Nat)(n:Nat){R:Type}(x:Shape.den sh72l5)(K:Ex→St→Option R):Option R:=numbers_Encode_l5 F (fun y0 y4=>K (.exit 0) (enc sh72l5o0 (y0,y4,()))) n x.1 x.2.1 x.2.2.1 x.2.2.2.1 x.2.2.2.2.1
def sh72l15:Shape:=[(10,.own 10 (.int .u8) 5),(47,.d (.slice (.int .u64))),(48,.d (.int .i64)),(49,.d (.int .i64))]
def sh72l15o2:Shape:=[(10,.own 10 (.int .u8) 5)]
def outs72l15:Outs:=[(4,sh72l15o2)]
def m72l15(F:Nat)(n:Nat){R:Type}(x:Shape.den sh72l15)(K:Ex→St→Option R):Option R:=numbers_Encode_l15 F (fun y10=>K (.exit 2) (enc sh72l15o2 (y10,()))) n x.1 x.2.1 x.2.2.1 x.2.2.2.1
def hs72(F:Nat):Nat→Option (Hint (Dens sg72.rtys)):=hintL [(5,{ sh:=sh72l5,model:=m72l5 F F }),(15,{ sh:=sh72l15,model:=m72l15 F F })]
theorem ok72l5(F:Nat)(fr:Frm)(hn:(cx72 F).ntmps=fr.n)(n:Nat):MSound (R:=(Dens sg72.rtys)) Tryz.prog fr (.loop (sub (bodyOf Tryz.f72) [1,1,1,0,1,0,0])) sh72l5 (m72l5 F n) :=
 loop_sound (cx:=cx72 F) (hs:=hs72 F) (js:=hintL []) (outs:=outs72l5) (conf_all _ rfl) (cs72 F) hn mix (m:=fun n=>m72l5 F n) (fun _ _=>rfl) (fun n x K=>by kernel_rfl) (hok_of (l:=[]) (by kernel_rfl) obl_nil) n
theorem ok72l15(F:Nat)(fr:Frm)(hn:(cx72 F).ntmps=fr.n)(n:Nat):MSound (R:=(Dens sg72.rtys)) Tryz.prog fr (.loop (sub (bodyOf Tryz.f72) [1,1,1,1,1,1,1,1,0,1,0,0])) sh72l15 (m72l15 F n) :=
 loop_sound (cx:=cx72 F) (hs:=hs72 F) (js:=hintL []) (outs:=outs72l15) (conf_all _ rfl) (cs72 F) hn mix (m:=fun n=>m72l15 F n) (fun _ _=>rfl) (fun n x K=>by kernel_rfl) (hok_of (l:=[]) (by kernel_rfl) obl_nil) n
theorem s72(F:Nat):CSound Tryz.prog 72 (con72 F) :=
 fn_sound (fn:=Tryz.f72) (code:=(bodyOf Tryz.f72)) (cx:=cx72 F) (hs:=hs72 F) (js:=hintL []) Tryz.func72 (by kernel_rfl) (by kernel_rfl) (conf_all _ rfl) (cs72 F) mix (by kernel_rfl) (by kernel_rfl) (fun fr hn=>(hok_of (l:=[((.loop (sub (bodyOf Tryz.f72) [1,1,1,0,1,0,0])),{ sh:=sh72l5,model:=m72l5 F F }),((.loop (sub (bodyOf Tryz.f72) [1,1,1,1,1,1,1,1,0,1,0,0])),{ sh:=sh72l15,model:=m72l15 F F })]) (by kernel_rfl) (obl_cons (ok72l5 F fr hn F) (obl_cons (ok72l15 F fr hn F) obl_nil)))) (fun x=>by kernel_rfl)
def sg30:Sig:={ modes:=[.ro],sh:=[(0,.d (.slice (.int .i64)))],keeps:=false,fresh:=some (0,5),rtys:=[(.slice (.int .u8)),(.int .i64)] }
def con30(F:Nat):Contract:=mkCon sg30 fun x=>residual_Encode F x.1
def cx30(F:Nat):Cx:={ types:=tys,call:=callsL [(71,con71 F),(72,con72 F)],own:=[2,4,39],ntmps:=(0,44),nils:=[4,27] }
theorem cs30(F:Nat):∀ f c,(cx30 F).call f=some c→CMet Tryz.prog f c:=callsL_sound (calls_cons (s71 F) (calls_cons (s72 F) calls_nil))
def sh30l3:Shape:=[(0,.d (.slice (.int .i64))),(4,.own 4 (.int .u8) 5),(10,.d (.int .i64))]
def sh30l3o0:Shape:=[(4,.own 4 (.int .u8) 5)]
def sh30l3oret:Shape:=[(2,.own 2 (.int .u8) 5),(3,.d (.int .i64))]
def outs30l3:Outs:=[(2,sh30l3o0),(1,sh30l3oret)]
def m30l3(F:Nat)(n:Nat){R:Type}(x:Shape.den sh30l3)(K:Ex→St→Option R):Option R:=residual_Encode_l3 F (fun y4=>K (.exit 0) (enc sh30l3o0 (y4,()))) (fun y2 y3=>K .ret (enc sh30l3oret (y2,y3,()))) n x.1 x.2.1 x.2.2.1
def sh30l3p:Shape:=[(0,.d (.slice (.int .i64))),(4,.nilS),(10,.d (.int .i64))]
def m30l3p(F:Nat)(n:Nat){R:Type}(x:Shape.den sh30l3p)(K:Ex→St→Option R):Option R:=residual_Encode_p3 F (fun y4=>K (.exit 0) (enc sh30l3o0 (y4,()))) (fun y2 y3=>K .ret (enc sh30l3oret (y2,y3,()))) n x.1 x.2.2.1
def hs30(F:Nat):Nat→Option (Hint (Dens sg30.rtys)):=hintL [(3,{ sh:=sh30l3p,model:=m30l3p F F })]
theorem ok30l3(F:Nat)(fr:Frm)(hn:(cx30 F).ntmps=fr.n)(n:Nat):MSound (R:=(Dens sg30.rtys)) Tryz.prog fr (.loop (sub (bodyOf Tryz.f30) [1,1,0,1,0,0])) sh30l3p (m30l3p F n) :=
 peel_sound (cx:=cx30 F) (hs:=hs30 F) (js:=hintL []) (outs:=outs30l3) (conf_all _ rfl) (cs30 F) hn mix (m:=fun n=>m30l3 F n) (m0:=fun n=>m30l3p F n) (fun _ _=>rfl) (fun n x K=>by kernel_rfl) (fun n x K=>by kernel_rfl) (hok_of (l:=[]) (by kernel_rfl) obl_nil) n
theorem s30(F:Nat):CSound Tryz.prog 30 (con30 F) :=
 fn_sound (fn:=Tryz.f30) (code:=(bodyOf Tryz.f30)) (cx:=cx30 F) (hs:=hs30 F) (js:=hintL []) Tryz.func30 (by kernel_rfl) (by kernel_rfl) (conf_all _ rfl) (cs30 F) mix (by kernel_rfl) (by kernel_rfl) (fun fr hn=>(hok_of (l:=[((.loop (sub (bodyOf Tryz.f30) [1,1,0,1,0,0])),{ sh:=sh30l3p,model:=m30l3p F F })]) (by kernel_rfl) (obl_cons (ok30l3 F fr hn F) obl_nil))) (fun x=>by kernel_rfl)
def sg75:Sig:={ modes:=[.ro,.ro],sh:=[(0,.d (.slice (.int .u8))),(1,.d tyV)],keeps:=false,fresh:=some (0,5),rtys:=[(.slice (.int .u8))] }
def con75(F:Nat):Contract:=mkCon sg75 fun x=>varint_AppendWide F x.1 x.2.1
def cx75(F:Nat):Cx:={ types:=tys,call:=callsL [(81,con81 F),(74,con74 F),(73,con73 F)],own:=[4,41,42],ntmps:=(0,80) }
theorem cs75(F:Nat):∀ f c,(cx75 F).call f=some c→CMet Tryz.prog f c:=callsL_sound (calls_cons (s81 F) (calls_cons (s74 F) (calls_cons (s73 F) calls_nil)))
def sh75l5:Shape:=[(0,.d (.slice (.int .u8))),(3,.box 3 tyV),(5,.box 5 (.arr 5 (.int .u64))),(16,.d (.arr 4 (.int .u64))),(17,.d (.int .i64))]
def sh75l5o0:Shape:=[(0,.d (.slice (.int .u8))),(3,.box 3 tyV),(5,.box 5 (.arr 5 (.int .u64)))]
def outs75l5:Outs:=[(2,sh75l5o0)]
def m75l5(F:Nat)(n:Nat){R:Type}(x:Shape.den sh75l5)(K:Ex→St→Option R):Option R:=varint_AppendWide_l5 F (fun y0 y3 y5=>K (.exit 0) (enc sh75l5o0 (y0,y3,y5,()))) n x.1 x.2.1 x.2.2.1 x.2.2.2.1 x.2.2.2.2.1
def sh75l15:Shape:=[(5,.box 5 (.arr 5 (.int .u64))),(8,.own 8 (.int .u8) 5),(9,.d (.int .u8)),(47,.d (.int .i64))]
def sh75l15o4:Shape:=[(5,.box 5 (.arr 5 (.int .u64))),(8,.own 8 (.int .u8) 5),(9,.d (.int .u8))]
def outs75l15:Outs:=[(6,sh75l15o4)]
def m75l15(F:Nat)(n:Nat){R:Type}(x:Shape.den sh75l15)(K:Ex→St→Option R):Option R:=varint_AppendWide_l15 F (fun y5 y8 y9=>K (.exit 4) (enc sh75l15o4 (y5,y8,y9,()))) n x.1 x.2.1 x.2.2.1 x.2.2.2.1
def sh75l13:Shape:=[(5,.box 5 (.arr 5 (.int .u64))),(8,.own 8 (.int .u8) 5)]
def sh75l13oret:Shape:=[(4,.own 4 (.int .u8) 5)]
def outs75l13:Outs:=[(1,sh75l13oret)]
def m75l13(F:Nat)(n:Nat){R:Type}(x:Shape.den sh75l13)(K:Ex→St→Option R):Option R:=varint_AppendWide_l13 F (fun y4=>K .ret (enc sh75l13oret (y4,()))) n x.1 x.2.1
def sh75j12:Shape:=[(0,.d (.slice (.int .u8))),(5,.box 5 (.arr 5 (.int .u64)))]
def sh75j12oret:Shape:=[(4,.own 4 (.int .u8) 5)]
def outs75j12:Outs:=[(1,sh75j12oret)]
def m75j12(F:Nat){R:Type}(x:Shape.den sh75j12)(K:Ex→St→Option R):Option R:=varint_AppendWide_j12 F (fun y4=>K .ret (enc sh75j12oret (y4,()))) x.1 x.2.1
def sh75j3:Shape:=[(0,.d (.slice (.int .u8))),(3,.box 3 tyV)]
def sh75j3oret:Shape:=[(4,.own 4 (.int .u8) 5)]
def outs75j3:Outs:=[(1,sh75j3oret)]
def m75j3(F:Nat){R:Type}(x:Shape.den sh75j3)(K:Ex→St→Option R):Option R:=varint_AppendWide_j3 F (fun y4=>K .ret (enc sh75j3oret (y4,()))) x.1 x.2.1
def hs75(F:Nat):Nat→Option (Hint (Dens sg75.rtys)):=hintL [(5,{ sh:=sh75l5,model:=m75l5 F F }),(15,{ sh:=sh75l15,model:=m75l15 F F }),(13,{ sh:=sh75l13,model:=m75l13 F F })]
def js75(F:Nat):Nat→Option (Hint (Dens sg75.rtys)):=hintL [(12,{ sh:=sh75j12,model:=m75j12 F }),(3,{ sh:=sh75j3,model:=m75j3 F })]
theorem ok75l5(F:Nat)(fr:Frm)(hn:(cx75 F).ntmps=fr.n)(n:Nat):MSound (R:=(Dens sg75.rtys)) Tryz.prog fr (.loop (sub (bodyOf Tryz.f75) [1,1,1,0,1,0,0])) sh75l5 (m75l5 F n) :=
 loop_sound (cx:=cx75 F) (hs:=hs75 F) (js:=js75 F) (outs:=outs75l5) (conf_all _ rfl) (cs75 F) hn mix (m:=fun n=>m75l5 F n) (fun _ _=>rfl) (fun n x K=>by kernel_rfl) (hok_of (l:=[]) (by kernel_rfl) obl_nil) n
theorem ok75l15(F:Nat)(fr:Frm)(hn:(cx75 F).ntmps=fr.n)(n:Nat):MSound (R:=(Dens sg75.rtys)) Tryz.prog fr (.loop (sub (bodyOf Tryz.f75) [1,1,1,1,1,1,0,0,0,1,0,1,0,0])) sh75l15 (m75l15 F n) :=
 loop_sound (cx:=cx75 F) (hs:=hs75 F) (js:=js75 F) (outs:=outs75l15) (conf_all _ rfl) (cs75 F) hn mix (m:=fun n=>m75l15 F n) (fun _ _=>rfl) (fun n x K=>by kernel_rfl) (hok_of (l:=[]) (by kernel_rfl) obl_nil) n
theorem ok75l13(F:Nat)(fr:Frm)(hn:(cx75 F).ntmps=fr.n)(n:Nat):MSound (R:=(Dens sg75.rtys)) Tryz.prog fr (.loop (sub (bodyOf Tryz.f75) [1,1,1,1,1,1,0,0])) sh75l13 (m75l13 F n) :=
 loop_sound (cx:=cx75 F) (hs:=hs75 F) (js:=js75 F) (outs:=outs75l13) (conf_all _ rfl) (cs75 F) hn mix (m:=fun n=>m75l13 F n) (fun _ _=>rfl) (fun n x K=>by kernel_rfl) (hok_of (l:=[((.loop (sub (bodyOf Tryz.f75) [1,1,1,1,1,1,0,0,0,1,0,1,0,0])),{ sh:=sh75l15,model:=m75l15 F F })]) (by kernel_rfl) (obl_cons (ok75l15 F fr hn F) obl_nil)) n
theorem ok75j12(F:Nat)(fr:Frm)(hn:(cx75 F).ntmps=fr.n):MSound (R:=(Dens sg75.rtys)) Tryz.prog fr (sub (bodyOf Tryz.f75) [1,1,1,1,1]) sh75j12 (m75j12 F) :=
 join_sound (cx:=cx75 F) (hs:=hs75 F) (js:=js75 F) (outs:=outs75j12) (conf_all _ rfl) (cs75 F) hn mix (fun x K=>by kernel_rfl) (hok_of (l:=[((.loop (sub (bodyOf Tryz.f75) [1,1,1,1,1,1,0,0])),{ sh:=sh75l13,model:=m75l13 F F })]) (by kernel_rfl) (obl_cons (ok75l13 F fr hn F) obl_nil))
theorem ok75j3(F:Nat)(fr:Frm)(hn:(cx75 F).ntmps=fr.n):MSound (R:=(Dens sg75.rtys)) Tryz.prog fr (sub (bodyOf Tryz.f75) [1,1]) sh75j3 (m75j3 F) :=
 join_sound (cx:=cx75 F) (hs:=hs75 F) (js:=js75 F) (outs:=outs75j3) (conf_all _ rfl) (cs75 F) hn mix (fun x K=>by kernel_rfl) (hok_of (l:=[((.loop (sub (bodyOf Tryz.f75) [1,1,1,0,1,0,0])),{ sh:=sh75l5,model:=m75l5 F F }),((sub (bodyOf Tryz.f75) [1,1,1,1,1]),{ sh:=sh75j12,model:=m75j12 F })]) (by kernel_rfl) (obl_cons (ok75l5 F fr hn F) (obl_cons (ok75j12 F fr hn) obl_nil)))
theorem s75(F:Nat):CSound Tryz.prog 75 (con75 F) :=
 fn_sound (fn:=Tryz.f75) (code:=(bodyOf Tryz.f75)) (cx:=cx75 F) (hs:=hs75 F) (js:=js75 F) Tryz.func75 (by kernel_rfl) (by kernel_rfl) (conf_all _ rfl) (cs75 F) mix (by kernel_rfl) (by kernel_rfl) (fun fr hn=>(hok_of (l:=[((sub (bodyOf Tryz.f75) [1,1]),{ sh:=sh75j3,model:=m75j3 F })]) (by kernel_rfl) (obl_cons (ok75j3 F fr hn) obl_nil))) (fun x=>by kernel_rfl)
def sg32:Sig:={ modes:=[.con 5,.ro],sh:=[(0,.own 0 (.int .u8) 5),(1,.d (.pair tyV (.pair tyV .unit)))],keeps:=false,fresh:=some (0,5),rtys:=[(.slice (.int .u8))] }
def con32(F:Nat):Contract:=mkCon sg32 fun x=>records_AppendSlope F x.1 x.2.1
def cx32(F:Nat):Cx:={ types:=tys,call:=callsL [(75,con75 F)],own:=[4,11],ntmps:=(0,12) }
theorem cs32(F:Nat):∀ f c,(cx32 F).call f=some c→CMet Tryz.prog f c:=callsL_sound (calls_cons (s75 F) calls_nil)
theorem s32(F:Nat):CSound Tryz.prog 32 (con32 F) :=
 fn_sound (fn:=Tryz.f32) (code:=(bodyOf Tryz.f32)) (cx:=cx32 F) (hs:=hintL []) (js:=hintL []) Tryz.func32 (by kernel_rfl) (by kernel_rfl) (conf_all _ rfl) (cs32 F) mix (by kernel_rfl) (by kernel_rfl) (fun fr hn=>(hok_of (l:=[]) (by kernel_rfl) obl_nil)) (fun x=>by kernel_rfl)
def sg33:Sig:={ modes:=[.con 5,.ro],sh:=[(0,.own 0 (.int .u8) 5),(1,.d (.slice (.int .u64)))],keeps:=false,fresh:=some (0,5),rtys:=[(.slice (.int .u8))] }
def con33(F:Nat):Contract:=mkCon sg33 fun x=>simpiece_list F x.1 x.2.1
def cx33(F:Nat):Cx:={ types:=tys,call:=callsL [(72,con72 F)],own:=[4],ntmps:=(0,15) }
theorem cs33(F:Nat):∀ f c,(cx33 F).call f=some c→CMet Tryz.prog f c:=callsL_sound (calls_cons (s72 F) calls_nil)
theorem s33(F:Nat):CSound Tryz.prog 33 (con33 F) :=
 fn_sound (fn:=Tryz.f33) (code:=(bodyOf Tryz.f33)) (cx:=cx33 F) (hs:=hintL []) (js:=hintL []) Tryz.func33 (by kernel_rfl) (by kernel_rfl) (conf_all _ rfl) (cs33 F) mix (by kernel_rfl) (by kernel_rfl) (fun fr hn=>(hok_of (l:=[]) (by kernel_rfl) obl_nil)) (fun x=>by kernel_rfl)
end Go.Proofs.YtdhfajmcakneiaaGreat
