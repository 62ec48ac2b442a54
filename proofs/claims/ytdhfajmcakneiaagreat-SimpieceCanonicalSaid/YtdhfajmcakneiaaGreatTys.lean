/- The tables of types. Written by program. -/
import Derived.Test.YtdhfajmcakneiaaGreatModels
import Derived.Test.YtdhfajmcakneiaaGreatLibA
import Derived.Test.YtdhfajmcakneiaaGreatLibB
set_option linter.unusedVariables false
set_option linter.unusedSimpArgs false
namespace Go.Proofs.YtdhfajmcakneiaaGreat
open Go.Eng Tryz
abbrev tyV:Ty:=.pair .bool (.pair (.arr 4 (.int .u64)) .unit)
def tys:List (Nat×TyRow):=[(2,⟨(.int .i64),0,8⟩),(3,⟨(.int .i64),0,8⟩),(4,⟨.bool,0,1⟩),(5,⟨(.int .u8),0,1⟩),(22,⟨(.slice (.pair (.int .i64) (.pair (.pair tyV (.pair tyV .unit)) (.pair (.slice (.int .i64)) .unit)))),56,24⟩),(23,⟨(.slice (.int .i64)),3,24⟩),(30,⟨(.slice (.int .u8)),5,24⟩),(31,⟨(.int .i64),0,8⟩),(48,⟨(.slice (.slice (.int .u8))),30,24⟩),(49,⟨(.int .u64),0,8⟩),(50,⟨(.arr 4 (.int .u64)),0,32⟩),(52,⟨tyV,0,40⟩),(54,⟨(.pair tyV (.pair tyV .unit)),0,80⟩),(56,⟨(.pair (.int .i64) (.pair (.pair tyV (.pair tyV .unit)) (.pair (.slice (.int .i64)) .unit))),0,112⟩),(59,⟨(.pair (.slice (.int .i64)) (.pair (.int .i64) .unit)),0,32⟩),(60,⟨(.slice (.pair (.int .i64) (.pair (.int .i64) .unit))),96,24⟩),(62,⟨(.slice (.pair (.int .i64) (.pair (.int .i64) (.pair (.int .i64) (.pair (.pair .bool (.pair (.pair tyV (.pair tyV .unit)) (.pair (.pair tyV (.pair tyV .unit)) .unit))) .unit))))),110,24⟩),(70,⟨(.slice (.int .i64)),2,24⟩),(71,⟨(.slice (.int .u64)),49,24⟩),(79,⟨(.arr 4096 .bool),0,4096⟩),(85,⟨(.int .u64),0,8⟩),(96,⟨(.pair (.int .i64) (.pair (.int .i64) .unit)),0,16⟩),(98,⟨(.pair .bool (.pair (.pair tyV (.pair tyV .unit)) (.pair (.pair tyV (.pair tyV .unit)) .unit))),0,168⟩),(100,⟨(.pair (.int .i64) (.pair (.int .i64) (.pair (.int .i64) (.pair (.pair (.int .i64) (.pair (.int .i64) .unit)) (.pair (.int .i64) (.pair (.int .i64) (.pair (.pair .bool (.pair (.pair tyV (.pair tyV .unit)) (.pair (.pair tyV (.pair tyV .unit)) .unit))) .unit))))))),0,224⟩),(110,⟨(.pair (.int .i64) (.pair (.int .i64) (.pair (.int .i64) (.pair (.pair .bool (.pair (.pair tyV (.pair tyV .unit)) (.pair (.pair tyV (.pair tyV .unit)) .unit))) .unit)))),0,192⟩),(158,⟨(.slice (.int .u64)),49,24⟩),(167,⟨(.arr 5 (.int .u64)),0,40⟩),(175,⟨(.arr 2 tyV),0,80⟩),(211,⟨(.arr 8 (.int .u64)),0,64⟩)]
theorem A8Z(cx:Cx)(h:cx.types=tys):RowOk prog cx 2 ⟨(.int .i64),0,8⟩ :=
 ⟨⟨t2,_,by kernel_rfl,by kernel_rfl,by kernel_rfl,rfl,by kernel_rfl⟩,underlying2,(fun h=>Bool.noConfusion h),by decide⟩
theorem A90(cx:Cx)(h:cx.types=tys):RowOk prog cx 3 ⟨(.int .i64),0,8⟩ :=
 ⟨⟨t3,_,by kernel_rfl,by kernel_rfl,by kernel_rfl,rfl,by kernel_rfl⟩,underlying3,(fun h=>Bool.noConfusion h),by decide⟩
theorem A91(cx:Cx)(h:cx.types=tys):RowOk prog cx 4 ⟨.bool,0,1⟩ :=
 ⟨⟨t4,_,by kernel_rfl,by kernel_rfl,by kernel_rfl,rfl,by kernel_rfl⟩,underlying4,(fun h=>Bool.noConfusion h),by decide⟩
theorem A92(cx:Cx)(h:cx.types=tys):RowOk prog cx 5 ⟨(.int .u8),0,1⟩ :=
 ⟨⟨t5,_,by kernel_rfl,by kernel_rfl,by kernel_rfl,rfl,by kernel_rfl⟩,underlying5,(fun h=>Bool.noConfusion h),by decide⟩
theorem A4q(cx:Cx)(h:cx.types=tys):RowOk prog cx 22 ⟨(.slice (.pair (.int .i64) (.pair (.pair tyV (.pair tyV .unit)) (.pair (.slice (.int .i64)) .unit)))),56,24⟩ :=
 ⟨⟨t22,_,by kernel_rfl,by kernel_rfl,by kernel_rfl,rfl,by kernel_rfl⟩,⟨underlying22,⟨⟨(.pair (.int .i64) (.pair (.pair tyV (.pair tyV .unit)) (.pair (.slice (.int .i64)) .unit))),0,112⟩,by unfold Cx.row?; rw [h]; kernel_rfl,rfl⟩⟩,(fun h=>Bool.noConfusion h),by decide⟩
theorem A4r(cx:Cx)(h:cx.types=tys):RowOk prog cx 23 ⟨(.slice (.int .i64)),3,24⟩ :=
 ⟨⟨t23,_,by kernel_rfl,by kernel_rfl,by kernel_rfl,rfl,by kernel_rfl⟩,⟨underlying23,⟨⟨(.int .i64),0,8⟩,by unfold Cx.row?; rw [h]; kernel_rfl,rfl⟩⟩,(fun h=>Bool.noConfusion h),by decide⟩
theorem A4s(cx:Cx)(h:cx.types=tys):RowOk prog cx 30 ⟨(.slice (.int .u8)),5,24⟩ :=
 ⟨⟨t30,_,by kernel_rfl,by kernel_rfl,by kernel_rfl,rfl,by kernel_rfl⟩,⟨underlying30,⟨⟨(.int .u8),0,1⟩,by unfold Cx.row?; rw [h]; kernel_rfl,rfl⟩⟩,(fun h=>Bool.noConfusion h),by decide⟩
theorem A4t(cx:Cx)(h:cx.types=tys):RowOk prog cx 31 ⟨(.int .i64),0,8⟩ :=
 ⟨⟨t31,_,by kernel_rfl,by kernel_rfl,by kernel_rfl,rfl,by kernel_rfl⟩,underlying31,(fun h=>Bool.noConfusion h),by decide⟩
theorem A4u(cx:Cx)(h:cx.types=tys):RowOk prog cx 48 ⟨(.slice (.slice (.int .u8))),30,24⟩ :=
 ⟨⟨t48,_,by kernel_rfl,by kernel_rfl,by kernel_rfl,rfl,by kernel_rfl⟩,⟨underlying48,⟨⟨(.slice (.int .u8)),5,24⟩,by unfold Cx.row?; rw [h]; kernel_rfl,rfl⟩⟩,(fun h=>Bool.noConfusion h),by decide⟩
theorem A4v(cx:Cx)(h:cx.types=tys):RowOk prog cx 49 ⟨(.int .u64),0,8⟩ :=
 ⟨⟨t49,_,by kernel_rfl,by kernel_rfl,by kernel_rfl,rfl,by kernel_rfl⟩,underlying49,(fun h=>Bool.noConfusion h),by decide⟩
theorem A4w(cx:Cx)(h:cx.types=tys):RowOk prog cx 50 ⟨(.arr 4 (.int .u64)),0,32⟩ :=
 ⟨⟨t50,_,by kernel_rfl,by kernel_rfl,by kernel_rfl,rfl,by kernel_rfl⟩,⟨49,underlying50,⟨⟨(.int .u64),0,8⟩,by unfold Cx.row?; rw [h]; kernel_rfl,rfl⟩⟩,(fun _=>by kernel_rfl),by decide⟩
theorem A4x(cx:Cx)(h:cx.types=tys):RowOk prog cx 52 ⟨tyV,0,40⟩ :=
 ⟨⟨t52,_,by kernel_rfl,by kernel_rfl,by kernel_rfl,rfl,by kernel_rfl⟩,⟨_,underlying52,⟨rfl,⟨⟨.bool,0,1⟩,by unfold Cx.row?; rw [h]; kernel_rfl,rfl⟩,by decide,by decide,⟨rfl,⟨⟨(.arr 4 (.int .u64)),0,32⟩,by unfold Cx.row?; rw [h]; kernel_rfl,rfl⟩,by decide,by decide,trivial⟩⟩,by kernel_rfl⟩,(fun _=>by kernel_rfl),by decide⟩
theorem A4y(cx:Cx)(h:cx.types=tys):RowOk prog cx 54 ⟨(.pair tyV (.pair tyV .unit)),0,80⟩ :=
 ⟨⟨t54,_,by kernel_rfl,by kernel_rfl,by kernel_rfl,rfl,by kernel_rfl⟩,⟨_,underlying54,⟨rfl,⟨⟨tyV,0,40⟩,by unfold Cx.row?; rw [h]; kernel_rfl,rfl⟩,by decide,by decide,⟨rfl,⟨⟨tyV,0,40⟩,by unfold Cx.row?; rw [h]; kernel_rfl,rfl⟩,by decide,by decide,trivial⟩⟩,by kernel_rfl⟩,(fun _=>by kernel_rfl),by decide⟩
theorem A4z(cx:Cx)(h:cx.types=tys):RowOk prog cx 56 ⟨(.pair (.int .i64) (.pair (.pair tyV (.pair tyV .unit)) (.pair (.slice (.int .i64)) .unit))),0,112⟩ :=
 ⟨⟨t56,_,by kernel_rfl,by kernel_rfl,by kernel_rfl,rfl,by kernel_rfl⟩,⟨_,underlying56,⟨rfl,⟨⟨(.int .i64),0,8⟩,by unfold Cx.row?; rw [h]; kernel_rfl,rfl⟩,by decide,by decide,⟨rfl,⟨⟨(.pair tyV (.pair tyV .unit)),0,80⟩,by unfold Cx.row?; rw [h]; kernel_rfl,rfl⟩,by decide,by decide,⟨rfl,⟨⟨(.slice (.int .i64)),3,24⟩,by unfold Cx.row?; rw [h]; kernel_rfl,rfl⟩,by decide,by decide,trivial⟩⟩⟩,by kernel_rfl⟩,(fun _=>by kernel_rfl),by decide⟩
theorem A4A(cx:Cx)(h:cx.types=tys):RowOk prog cx 59 ⟨(.pair (.slice (.int .i64)) (.pair (.int .i64) .unit)),0,32⟩ :=
 ⟨⟨t59,_,by kernel_rfl,by kernel_rfl,by kernel_rfl,rfl,by kernel_rfl⟩,⟨_,underlying59,⟨rfl,⟨⟨(.slice (.int .i64)),3,24⟩,by unfold Cx.row?; rw [h]; kernel_rfl,rfl⟩,by decide,by decide,⟨rfl,⟨⟨(.int .i64),0,8⟩,by unfold Cx.row?; rw [h]; kernel_rfl,rfl⟩,by decide,by decide,trivial⟩⟩,by kernel_rfl⟩,(fun _=>by kernel_rfl),by decide⟩
theorem A4B(cx:Cx)(h:cx.types=tys):RowOk prog cx 60 ⟨(.slice (.pair (.int .i64) (.pair (.int .i64) .unit))),96,24⟩ :=
 ⟨⟨t60,_,by kernel_rfl,by kernel_rfl,by kernel_rfl,rfl,by kernel_rfl⟩,⟨underlying60,⟨⟨(.pair (.int .i64) (.pair (.int .i64) .unit)),0,16⟩,by unfold Cx.row?; rw [h]; kernel_rfl,rfl⟩⟩,(fun h=>Bool.noConfusion h),by decide⟩
theorem A4C(cx:Cx)(h:cx.types=tys):RowOk prog cx 62 ⟨(.slice (.pair (.int .i64) (.pair (.int .i64) (.pair (.int .i64) (.pair (.pair .bool (.pair (.pair tyV (.pair tyV .unit)) (.pair (.pair tyV (.pair tyV .unit)) .unit))) .unit))))),110,24⟩ :=
 ⟨⟨t62,_,by kernel_rfl,by kernel_rfl,by kernel_rfl,rfl,by kernel_rfl⟩,⟨underlying62,⟨⟨(.pair (.int .i64) (.pair (.int .i64) (.pair (.int .i64) (.pair (.pair .bool (.pair (.pair tyV (.pair tyV .unit)) (.pair (.pair tyV (.pair tyV .unit)) .unit))) .unit)))),0,192⟩,by unfold Cx.row?; rw [h]; kernel_rfl,rfl⟩⟩,(fun h=>Bool.noConfusion h),by decide⟩
theorem A4D(cx:Cx)(h:cx.types=tys):RowOk prog cx 70 ⟨(.slice (.int .i64)),2,24⟩ :=
 ⟨⟨t70,_,by kernel_rfl,by kernel_rfl,by kernel_rfl,rfl,by kernel_rfl⟩,⟨underlying70,⟨⟨(.int .i64),0,8⟩,by unfold Cx.row?; rw [h]; kernel_rfl,rfl⟩⟩,(fun h=>Bool.noConfusion h),by decide⟩
theorem A4E(cx:Cx)(h:cx.types=tys):RowOk prog cx 71 ⟨(.slice (.int .u64)),49,24⟩ :=
 ⟨⟨t71,_,by kernel_rfl,by kernel_rfl,by kernel_rfl,rfl,by kernel_rfl⟩,⟨underlying71,⟨⟨(.int .u64),0,8⟩,by unfold Cx.row?; rw [h]; kernel_rfl,rfl⟩⟩,(fun h=>Bool.noConfusion h),by decide⟩
theorem A4F(cx:Cx)(h:cx.types=tys):RowOk prog cx 79 ⟨(.arr 4096 .bool),0,4096⟩ :=
 ⟨⟨t79,_,by kernel_rfl,by kernel_rfl,by kernel_rfl,rfl,by kernel_rfl⟩,⟨4,underlying79,⟨⟨.bool,0,1⟩,by unfold Cx.row?; rw [h]; kernel_rfl,rfl⟩⟩,(fun _=>by kernel_rfl),by decide⟩
theorem A4G(cx:Cx)(h:cx.types=tys):RowOk prog cx 85 ⟨(.int .u64),0,8⟩ :=
 ⟨⟨t85,_,by kernel_rfl,by kernel_rfl,by kernel_rfl,rfl,by kernel_rfl⟩,underlying85,(fun h=>Bool.noConfusion h),by decide⟩
theorem A4H(cx:Cx)(h:cx.types=tys):RowOk prog cx 96 ⟨(.pair (.int .i64) (.pair (.int .i64) .unit)),0,16⟩ :=
 ⟨⟨t96,_,by kernel_rfl,by kernel_rfl,by kernel_rfl,rfl,by kernel_rfl⟩,⟨_,underlying96,⟨rfl,⟨⟨(.int .i64),0,8⟩,by unfold Cx.row?; rw [h]; kernel_rfl,rfl⟩,by decide,by decide,⟨rfl,⟨⟨(.int .i64),0,8⟩,by unfold Cx.row?; rw [h]; kernel_rfl,rfl⟩,by decide,by decide,trivial⟩⟩,by kernel_rfl⟩,(fun _=>by kernel_rfl),by decide⟩
theorem A4I(cx:Cx)(h:cx.types=tys):RowOk prog cx 98 ⟨(.pair .bool (.pair (.pair tyV (.pair tyV .unit)) (.pair (.pair tyV (.pair tyV .unit)) .unit))),0,168⟩ :=
 ⟨⟨t98,_,by kernel_rfl,by kernel_rfl,by kernel_rfl,rfl,by kernel_rfl⟩,⟨_,underlying98,⟨rfl,⟨⟨.bool,0,1⟩,by unfold Cx.row?; rw [h]; kernel_rfl,rfl⟩,by decide,by decide,⟨rfl,⟨⟨(.pair tyV (.pair tyV .unit)),0,80⟩,by unfold Cx.row?; rw [h]; kernel_rfl,rfl⟩,by decide,by decide,⟨rfl,⟨⟨(.pair tyV (.pair tyV .unit)),0,80⟩,by unfold Cx.row?; rw [h]; kernel_rfl,rfl⟩,by decide,by decide,trivial⟩⟩⟩,by kernel_rfl⟩,(fun _=>by kernel_rfl),by decide⟩
theorem A0A(cx:Cx)(h:cx.types=tys):RowOk prog cx 100 ⟨(.pair (.int .i64) (.pair (.int .i64) (.pair (.int .i64) (.pair (.pair (.int .i64) (.pair (.int .i64) .unit)) (.pair (.int .i64) (.pair (.int .i64) (.pair (.pair .bool (.pair (.pair tyV (.pair tyV .unit)) (.pair (.pair tyV (.pair tyV .unit)) .unit))) .unit))))))),0,224⟩ :=
 ⟨⟨t100,_,by kernel_rfl,by kernel_rfl,by kernel_rfl,rfl,by kernel_rfl⟩,⟨_,underlying100,⟨rfl,⟨⟨(.int .i64),0,8⟩,by unfold Cx.row?; rw [h]; kernel_rfl,rfl⟩,by decide,by decide,⟨rfl,⟨⟨(.int .i64),0,8⟩,by unfold Cx.row?; rw [h]; kernel_rfl,rfl⟩,by decide,by decide,⟨rfl,⟨⟨(.int .i64),0,8⟩,by unfold Cx.row?; rw [h]; kernel_rfl,rfl⟩,by decide,by decide,⟨rfl,⟨⟨(.pair (.int .i64) (.pair (.int .i64) .unit)),0,16⟩,by unfold Cx.row?; rw [h]; kernel_rfl,rfl⟩,by decide,by decide,⟨rfl,⟨⟨(.int .i64),0,8⟩,by unfold Cx.row?; rw [h]; kernel_rfl,rfl⟩,by decide,by decide,⟨rfl,⟨⟨(.int .i64),0,8⟩,by unfold Cx.row?; rw [h]; kernel_rfl,rfl⟩,by decide,by decide,⟨rfl,⟨⟨(.pair .bool (.pair (.pair tyV (.pair tyV .unit)) (.pair (.pair tyV (.pair tyV .unit)) .unit))),0,168⟩,by unfold Cx.row?; rw [h]; kernel_rfl,rfl⟩,by decide,by decide,trivial⟩⟩⟩⟩⟩⟩⟩,by kernel_rfl⟩,(fun _=>by kernel_rfl),by decide⟩
theorem A0B(cx:Cx)(h:cx.types=tys):RowOk prog cx 110 ⟨(.pair (.int .i64) (.pair (.int .i64) (.pair (.int .i64) (.pair (.pair .bool (.pair (.pair tyV (.pair tyV .unit)) (.pair (.pair tyV (.pair tyV .unit)) .unit))) .unit)))),0,192⟩ :=
 ⟨⟨t110,_,by kernel_rfl,by kernel_rfl,by kernel_rfl,rfl,by kernel_rfl⟩,⟨_,underlying110,⟨rfl,⟨⟨(.int .i64),0,8⟩,by unfold Cx.row?; rw [h]; kernel_rfl,rfl⟩,by decide,by decide,⟨rfl,⟨⟨(.int .i64),0,8⟩,by unfold Cx.row?; rw [h]; kernel_rfl,rfl⟩,by decide,by decide,⟨rfl,⟨⟨(.int .i64),0,8⟩,by unfold Cx.row?; rw [h]; kernel_rfl,rfl⟩,by decide,by decide,⟨rfl,⟨⟨(.pair .bool (.pair (.pair tyV (.pair tyV .unit)) (.pair (.pair tyV (.pair tyV .unit)) .unit))),0,168⟩,by unfold Cx.row?; rw [h]; kernel_rfl,rfl⟩,by decide,by decide,trivial⟩⟩⟩⟩,by kernel_rfl⟩,(fun _=>by kernel_rfl),by decide⟩
theorem A0C(cx:Cx)(h:cx.types=tys):RowOk prog cx 158 ⟨(.slice (.int .u64)),49,24⟩ :=
 ⟨⟨t158,_,by kernel_rfl,by kernel_rfl,by kernel_rfl,rfl,by kernel_rfl⟩,⟨underlying158,⟨⟨(.int .u64),0,8⟩,by unfold Cx.row?; rw [h]; kernel_rfl,rfl⟩⟩,(fun h=>Bool.noConfusion h),by decide⟩
theorem A0D(cx:Cx)(h:cx.types=tys):RowOk prog cx 167 ⟨(.arr 5 (.int .u64)),0,40⟩ :=
 ⟨⟨t167,_,by kernel_rfl,by kernel_rfl,by kernel_rfl,rfl,by kernel_rfl⟩,⟨49,underlying167,⟨⟨(.int .u64),0,8⟩,by unfold Cx.row?; rw [h]; kernel_rfl,rfl⟩⟩,(fun _=>by kernel_rfl),by decide⟩
theorem A0E(cx:Cx)(h:cx.types=tys):RowOk prog cx 175 ⟨(.arr 2 tyV),0,80⟩ :=
 ⟨⟨t175,_,by kernel_rfl,by kernel_rfl,by kernel_rfl,rfl,by kernel_rfl⟩,⟨52,underlying175,⟨⟨tyV,0,40⟩,by unfold Cx.row?; rw [h]; kernel_rfl,rfl⟩⟩,(fun _=>by kernel_rfl),by decide⟩
theorem A0F(cx:Cx)(h:cx.types=tys):RowOk prog cx 211 ⟨(.arr 8 (.int .u64)),0,64⟩ :=
 ⟨⟨t211,_,by kernel_rfl,by kernel_rfl,by kernel_rfl,rfl,by kernel_rfl⟩,⟨49,underlying211,⟨⟨(.int .u64),0,8⟩,by unfold Cx.row?; rw [h]; kernel_rfl,rfl⟩⟩,(fun _=>by kernel_rfl),by decide⟩
theorem En(cx:Cx)(h:cx.types=tys):Hj prog cx:=Aj0 h (A0 (A8Z cx h) (A0 (A90 cx h) (A0 (A91 cx h) (A0 (A92 cx h) (A0 (A4q cx h) (A0 (A4r cx h) (A0 (A4s cx h) (A0 (A4t cx h) (A0 (A4u cx h) (A0 (A4v cx h) (A0 (A4w cx h) (A0 (A4x cx h) (A0 (A4y cx h) (A0 (A4z cx h) (A0 (A4A cx h) (A0 (A4B cx h) (A0 (A4C cx h) (A0 (A4D cx h) (A0 (A4E cx h) (A0 (A4F cx h) (A0 (A4G cx h) (A0 (A4H cx h) (A0 (A4I cx h) (A0 (A0A cx h) (A0 (A0B cx h) (A0 (A0C cx h) (A0 (A0D cx h) (A0 (A0E cx h) (A0 (A0F cx h) AdW)))))))))))))))))))))))))))))
theorem mix:prog.follows .mixedOrders=true:=by kernel_rfl
abbrev Ab:Ty:=.int .i64
abbrev Ag:Ty:=.int .u64
abbrev Fp:Ty:=.int .u8
abbrev Az:Ty:=.slice (.int .u64)
abbrev Cz:Ty:=.slice (.int .i64)
abbrev A1:Ty:=.slice (.int .u8)
abbrev Bv:Ty:=.pair tyV (.pair tyV .unit)
abbrev Bq:Ty:=.pair Ab (.pair Bv (.pair Cz .unit))
abbrev Be:Ty:=.pair .bool (.pair Bv (.pair Bv .unit))
abbrev Ci:Ty:=.pair Cz (.pair Ab .unit)
abbrev E3:Ty:=.pair Ab (.pair Ab .unit)
abbrev Ai(x:Cx):Prop:=∀ f c,x.call f=some c→Xt prog f c
abbrev Ar(c:List (Nat×Contract))(o:List Nat)(n:Nat×Nat):Cx:={types:=tys,call:=Qq c,own:=o,ntmps:=n}
abbrev A7(s:Sig):=Nat→Option (Hint (Ac2 s.rtys))
abbrev Ay(s:Ae):=∀{R:Type},Ae.den s→(Ex→St→Option R)→Option R
abbrev Ba(s:Sig)(f:Func)(fr:Frm)(p:List Nat)(sh:Ae)(m:Ae.den sh→(Ex→St→Option (Ac2 s.rtys))→Option (Ac2 s.rtys)):Prop:=S3 prog fr (.loop (sub (Ap f) p)) sh m
abbrev Fb(s:Sig)(f:Func)(fr:Frm)(p:List Nat)(sh:Ae)(m:Ae.den sh→(Ex→St→Option (Ac2 s.rtys))→Option (Ac2 s.rtys)):Prop:=S3 prog fr (sub (Ap f) p) sh m
theorem Aq{cx:Cx}{f:FuncId}{fn:Func}{sg:Sig}{model:Ae.den sg.sh→Option (Ac2 sg.rtys)}(hs js:A7 sg)(ht:cx.types=tys)(hf:prog.funcs[f]? =some fn)(h:(fn.body,(fn.name != "runtime.NumGoroutine"),cx.ntmps.2,AaH sg cx.ntmps)=(some (Ap fn),true,fn.ntmps,true))(hc:Ai cx)(ho:∀ fr:Frm,cx.ntmps=fr.n→HOk prog fr hs js (Ap fn))(hr:∀ x,model x=run cx hs js (Ap fn) (AsE sg cx.ntmps.1 x) (A0a cx sg fn.results.toList)):CSound prog f (Aw sg model) :=
 AdV hf (congrArg (·.1) h) (congrArg (·.2.1) h) (En cx ht) hc mix (congrArg (·.2.2.1) h) (congrArg (·.2.2.2) h) ho hr
theorem Bc{R:Type}{cx:Cx}(hs js:Nat→Option (Hint R))(outs:Df){fr:Frm}{c:Code}{sh:Ae}{m:Nat→Ae.den sh→(Ex→St→Option R)→Option R}(ht:cx.types=tys)(hc:Ai cx)(hn:cx.ntmps=fr.n)(h0:∀ x K,m 0 x K=none)(hm:∀ n x K,m (n+1) x K=run cx hs js c (enc sh x) (Aow sh outs (m n) K))(ho:HOk prog fr hs js c)(n:Nat):S3 prog fr (.loop c) sh (m n) :=
 Acz (En cx ht) hc hn mix h0 hm ho n
theorem Fc{R:Type}{cx:Cx}(hs js:Nat→Option (Hint R))(outs:Df){fr:Frm}{c:Code}{sh:Ae}{m:Ae.den sh→(Ex→St→Option R)→Option R}(ht:cx.types=tys)(hc:Ai cx)(hn:cx.ntmps=fr.n)(hm:∀ x K,m x K=run cx hs js c (enc sh x) (A0j outs K))(ho:HOk prog fr hs js c):S3 prog fr c sh m :=
 An9 (En cx ht) hc hn mix hm ho
theorem An{R:Type}{fr:Frm}{hs js:Nat→Option (Hint R)}{c:Code}(h:AsB hs js c=[]):HOk prog fr hs js c:=A3 h Av
abbrev A7P{R:Type}{fr:Frm}{c:Code}{sh:Ae}{m:Ae.den sh→(Ex→St→Option R)→Option R}{l:List (Code×Hint R)}(h:S3 prog fr c sh m)(hl:AcD prog fr l):AcD prog fr ((c,⟨sh,m⟩)::l):=Aj h hl
def Aiq:List (Nat×TyRow):=[(2,⟨(.int .i64),0,8⟩),(3,⟨(.int .i64),0,8⟩),(4,⟨.bool,0,1⟩),(5,⟨(.int .u8),0,1⟩),(22,⟨(.slice (.pair (.int .i64) (.pair (.pair tyV (.pair tyV .unit)) (.pair .nil .unit)))),56,24⟩),(23,⟨.nil,3,24⟩),(30,⟨(.slice (.int .u8)),5,24⟩),(31,⟨(.int .i64),0,8⟩),(49,⟨(.int .u64),0,8⟩),(50,⟨(.arr 4 (.int .u64)),0,32⟩),(52,⟨tyV,0,40⟩),(54,⟨(.pair tyV (.pair tyV .unit)),0,80⟩),(56,⟨(.pair (.int .i64) (.pair (.pair tyV (.pair tyV .unit)) (.pair .nil .unit))),0,112⟩),(70,⟨(.slice (.int .i64)),2,24⟩)]
theorem A4J(cx:Cx)(h:cx.types=Aiq):RowOk prog cx 2 ⟨(.int .i64),0,8⟩ :=
 ⟨⟨t2,_,by kernel_rfl,by kernel_rfl,by kernel_rfl,rfl,by kernel_rfl⟩,underlying2,(fun h=>Bool.noConfusion h),by decide⟩
theorem A4K(cx:Cx)(h:cx.types=Aiq):RowOk prog cx 3 ⟨(.int .i64),0,8⟩ :=
 ⟨⟨t3,_,by kernel_rfl,by kernel_rfl,by kernel_rfl,rfl,by kernel_rfl⟩,underlying3,(fun h=>Bool.noConfusion h),by decide⟩
theorem A4L(cx:Cx)(h:cx.types=Aiq):RowOk prog cx 4 ⟨.bool,0,1⟩ :=
 ⟨⟨t4,_,by kernel_rfl,by kernel_rfl,by kernel_rfl,rfl,by kernel_rfl⟩,underlying4,(fun h=>Bool.noConfusion h),by decide⟩
theorem A4N(cx:Cx)(h:cx.types=Aiq):RowOk prog cx 5 ⟨(.int .u8),0,1⟩ :=
 ⟨⟨t5,_,by kernel_rfl,by kernel_rfl,by kernel_rfl,rfl,by kernel_rfl⟩,underlying5,(fun h=>Bool.noConfusion h),by decide⟩
theorem A0G(cx:Cx)(h:cx.types=Aiq):RowOk prog cx 22 ⟨(.slice (.pair (.int .i64) (.pair (.pair tyV (.pair tyV .unit)) (.pair .nil .unit)))),56,24⟩ :=
 ⟨⟨t22,_,by kernel_rfl,by kernel_rfl,by kernel_rfl,rfl,by kernel_rfl⟩,⟨underlying22,⟨⟨(.pair (.int .i64) (.pair (.pair tyV (.pair tyV .unit)) (.pair .nil .unit))),0,112⟩,by unfold Cx.row?; rw [h]; kernel_rfl,rfl⟩⟩,(fun h=>Bool.noConfusion h),by decide⟩
theorem A0H(cx:Cx)(h:cx.types=Aiq):RowOk prog cx 23 ⟨.nil,3,24⟩ :=
 ⟨⟨t23,_,by kernel_rfl,by kernel_rfl,by kernel_rfl,rfl,by kernel_rfl⟩,underlying23,(fun h=>Bool.noConfusion h),by decide⟩
theorem A0I(cx:Cx)(h:cx.types=Aiq):RowOk prog cx 30 ⟨(.slice (.int .u8)),5,24⟩ :=
 ⟨⟨t30,_,by kernel_rfl,by kernel_rfl,by kernel_rfl,rfl,by kernel_rfl⟩,⟨underlying30,⟨⟨(.int .u8),0,1⟩,by unfold Cx.row?; rw [h]; kernel_rfl,rfl⟩⟩,(fun h=>Bool.noConfusion h),by decide⟩
theorem A0J(cx:Cx)(h:cx.types=Aiq):RowOk prog cx 31 ⟨(.int .i64),0,8⟩ :=
 ⟨⟨t31,_,by kernel_rfl,by kernel_rfl,by kernel_rfl,rfl,by kernel_rfl⟩,underlying31,(fun h=>Bool.noConfusion h),by decide⟩
theorem A0K(cx:Cx)(h:cx.types=Aiq):RowOk prog cx 49 ⟨(.int .u64),0,8⟩ :=
 ⟨⟨t49,_,by kernel_rfl,by kernel_rfl,by kernel_rfl,rfl,by kernel_rfl⟩,underlying49,(fun h=>Bool.noConfusion h),by decide⟩
theorem A0L(cx:Cx)(h:cx.types=Aiq):RowOk prog cx 50 ⟨(.arr 4 (.int .u64)),0,32⟩ :=
 ⟨⟨t50,_,by kernel_rfl,by kernel_rfl,by kernel_rfl,rfl,by kernel_rfl⟩,⟨49,underlying50,⟨⟨(.int .u64),0,8⟩,by unfold Cx.row?; rw [h]; kernel_rfl,rfl⟩⟩,(fun _=>by kernel_rfl),by decide⟩
theorem A0N(cx:Cx)(h:cx.types=Aiq):RowOk prog cx 52 ⟨tyV,0,40⟩ :=
 ⟨⟨t52,_,by kernel_rfl,by kernel_rfl,by kernel_rfl,rfl,by kernel_rfl⟩,⟨_,underlying52,⟨rfl,⟨⟨.bool,0,1⟩,by unfold Cx.row?; rw [h]; kernel_rfl,rfl⟩,by decide,by decide,⟨rfl,⟨⟨(.arr 4 (.int .u64)),0,32⟩,by unfold Cx.row?; rw [h]; kernel_rfl,rfl⟩,by decide,by decide,trivial⟩⟩,by kernel_rfl⟩,(fun _=>by kernel_rfl),by decide⟩
theorem A0O(cx:Cx)(h:cx.types=Aiq):RowOk prog cx 54 ⟨(.pair tyV (.pair tyV .unit)),0,80⟩ :=
 ⟨⟨t54,_,by kernel_rfl,by kernel_rfl,by kernel_rfl,rfl,by kernel_rfl⟩,⟨_,underlying54,⟨rfl,⟨⟨tyV,0,40⟩,by unfold Cx.row?; rw [h]; kernel_rfl,rfl⟩,by decide,by decide,⟨rfl,⟨⟨tyV,0,40⟩,by unfold Cx.row?; rw [h]; kernel_rfl,rfl⟩,by decide,by decide,trivial⟩⟩,by kernel_rfl⟩,(fun _=>by kernel_rfl),by decide⟩
theorem A0P(cx:Cx)(h:cx.types=Aiq):RowOk prog cx 56 ⟨(.pair (.int .i64) (.pair (.pair tyV (.pair tyV .unit)) (.pair .nil .unit))),0,112⟩ :=
 ⟨⟨t56,_,by kernel_rfl,by kernel_rfl,by kernel_rfl,rfl,by kernel_rfl⟩,⟨_,underlying56,⟨rfl,⟨⟨(.int .i64),0,8⟩,by unfold Cx.row?; rw [h]; kernel_rfl,rfl⟩,by decide,by decide,⟨rfl,⟨⟨(.pair tyV (.pair tyV .unit)),0,80⟩,by unfold Cx.row?; rw [h]; kernel_rfl,rfl⟩,by decide,by decide,⟨rfl,⟨⟨.nil,3,24⟩,by unfold Cx.row?; rw [h]; kernel_rfl,rfl⟩,by decide,by decide,trivial⟩⟩⟩,by kernel_rfl⟩,(fun _=>by kernel_rfl),by decide⟩
theorem A0Q(cx:Cx)(h:cx.types=Aiq):RowOk prog cx 70 ⟨(.slice (.int .i64)),2,24⟩ :=
 ⟨⟨t70,_,by kernel_rfl,by kernel_rfl,by kernel_rfl,rfl,by kernel_rfl⟩,⟨underlying70,⟨⟨(.int .i64),0,8⟩,by unfold Cx.row?; rw [h]; kernel_rfl,rfl⟩⟩,(fun h=>Bool.noConfusion h),by decide⟩
theorem AgG(cx:Cx)(h:cx.types=Aiq):Hj prog cx:=Aj0 h (A0 (A4J cx h) (A0 (A4K cx h) (A0 (A4L cx h) (A0 (A4N cx h) (A0 (A0G cx h) (A0 (A0H cx h) (A0 (A0I cx h) (A0 (A0J cx h) (A0 (A0K cx h) (A0 (A0L cx h) (A0 (A0N cx h) (A0 (A0O cx h) (A0 (A0P cx h) (A0 (A0Q cx h) AdW))))))))))))))
def Ao1:List (Nat×TyRow):=[(2,⟨(.int .i64),0,8⟩),(3,⟨(.int .i64),0,8⟩),(4,⟨.bool,0,1⟩),(22,⟨(.slice (.pair (.int .i64) (.pair (.pair tyV (.pair tyV .unit)) (.pair .val .unit)))),56,24⟩),(23,⟨.val,3,24⟩),(49,⟨(.int .u64),0,8⟩),(50,⟨(.arr 4 (.int .u64)),0,32⟩),(52,⟨tyV,0,40⟩),(54,⟨(.pair tyV (.pair tyV .unit)),0,80⟩),(56,⟨(.pair (.int .i64) (.pair (.pair tyV (.pair tyV .unit)) (.pair .val .unit))),0,112⟩)]
theorem A4O(cx:Cx)(h:cx.types=Ao1):RowOk prog cx 2 ⟨(.int .i64),0,8⟩ :=
 ⟨⟨t2,_,by kernel_rfl,by kernel_rfl,by kernel_rfl,rfl,by kernel_rfl⟩,underlying2,(fun h=>Bool.noConfusion h),by decide⟩
theorem A4P(cx:Cx)(h:cx.types=Ao1):RowOk prog cx 3 ⟨(.int .i64),0,8⟩ :=
 ⟨⟨t3,_,by kernel_rfl,by kernel_rfl,by kernel_rfl,rfl,by kernel_rfl⟩,underlying3,(fun h=>Bool.noConfusion h),by decide⟩
theorem A4Q(cx:Cx)(h:cx.types=Ao1):RowOk prog cx 4 ⟨.bool,0,1⟩ :=
 ⟨⟨t4,_,by kernel_rfl,by kernel_rfl,by kernel_rfl,rfl,by kernel_rfl⟩,underlying4,(fun h=>Bool.noConfusion h),by decide⟩
theorem A0S(cx:Cx)(h:cx.types=Ao1):RowOk prog cx 22 ⟨(.slice (.pair (.int .i64) (.pair (.pair tyV (.pair tyV .unit)) (.pair .val .unit)))),56,24⟩ :=
 ⟨⟨t22,_,by kernel_rfl,by kernel_rfl,by kernel_rfl,rfl,by kernel_rfl⟩,⟨underlying22,⟨⟨(.pair (.int .i64) (.pair (.pair tyV (.pair tyV .unit)) (.pair .val .unit))),0,112⟩,by unfold Cx.row?; rw [h]; kernel_rfl,rfl⟩⟩,(fun h=>Bool.noConfusion h),by decide⟩
theorem A0T(cx:Cx)(h:cx.types=Ao1):RowOk prog cx 23 ⟨.val,3,24⟩ :=
 ⟨⟨t23,_,by kernel_rfl,by kernel_rfl,by kernel_rfl,rfl,by kernel_rfl⟩,underlying23,(fun h=>Bool.noConfusion h),by decide⟩
theorem A0U(cx:Cx)(h:cx.types=Ao1):RowOk prog cx 49 ⟨(.int .u64),0,8⟩ :=
 ⟨⟨t49,_,by kernel_rfl,by kernel_rfl,by kernel_rfl,rfl,by kernel_rfl⟩,underlying49,(fun h=>Bool.noConfusion h),by decide⟩
theorem A0V(cx:Cx)(h:cx.types=Ao1):RowOk prog cx 50 ⟨(.arr 4 (.int .u64)),0,32⟩ :=
 ⟨⟨t50,_,by kernel_rfl,by kernel_rfl,by kernel_rfl,rfl,by kernel_rfl⟩,⟨49,underlying50,⟨⟨(.int .u64),0,8⟩,by unfold Cx.row?; rw [h]; kernel_rfl,rfl⟩⟩,(fun _=>by kernel_rfl),by decide⟩
theorem A0W(cx:Cx)(h:cx.types=Ao1):RowOk prog cx 52 ⟨tyV,0,40⟩ :=
 ⟨⟨t52,_,by kernel_rfl,by kernel_rfl,by kernel_rfl,rfl,by kernel_rfl⟩,⟨_,underlying52,⟨rfl,⟨⟨.bool,0,1⟩,by unfold Cx.row?; rw [h]; kernel_rfl,rfl⟩,by decide,by decide,⟨rfl,⟨⟨(.arr 4 (.int .u64)),0,32⟩,by unfold Cx.row?; rw [h]; kernel_rfl,rfl⟩,by decide,by decide,trivial⟩⟩,by kernel_rfl⟩,(fun _=>by kernel_rfl),by decide⟩
theorem A0X(cx:Cx)(h:cx.types=Ao1):RowOk prog cx 54 ⟨(.pair tyV (.pair tyV .unit)),0,80⟩ :=
 ⟨⟨t54,_,by kernel_rfl,by kernel_rfl,by kernel_rfl,rfl,by kernel_rfl⟩,⟨_,underlying54,⟨rfl,⟨⟨tyV,0,40⟩,by unfold Cx.row?; rw [h]; kernel_rfl,rfl⟩,by decide,by decide,⟨rfl,⟨⟨tyV,0,40⟩,by unfold Cx.row?; rw [h]; kernel_rfl,rfl⟩,by decide,by decide,trivial⟩⟩,by kernel_rfl⟩,(fun _=>by kernel_rfl),by decide⟩
theorem A0Y(cx:Cx)(h:cx.types=Ao1):RowOk prog cx 56 ⟨(.pair (.int .i64) (.pair (.pair tyV (.pair tyV .unit)) (.pair .val .unit))),0,112⟩ :=
 ⟨⟨t56,_,by kernel_rfl,by kernel_rfl,by kernel_rfl,rfl,by kernel_rfl⟩,⟨_,underlying56,⟨rfl,⟨⟨(.int .i64),0,8⟩,by unfold Cx.row?; rw [h]; kernel_rfl,rfl⟩,by decide,by decide,⟨rfl,⟨⟨(.pair tyV (.pair tyV .unit)),0,80⟩,by unfold Cx.row?; rw [h]; kernel_rfl,rfl⟩,by decide,by decide,⟨rfl,⟨⟨.val,3,24⟩,by unfold Cx.row?; rw [h]; kernel_rfl,rfl⟩,by decide,by decide,trivial⟩⟩⟩,by kernel_rfl⟩,(fun _=>by kernel_rfl),by decide⟩
theorem AaW(cx:Cx)(h:cx.types=Ao1):Hj prog cx:=Aj0 h (A0 (A4O cx h) (A0 (A4P cx h) (A0 (A4Q cx h) (A0 (A0S cx h) (A0 (A0T cx h) (A0 (A0U cx h) (A0 (A0V cx h) (A0 (A0W cx h) (A0 (A0X cx h) (A0 (A0Y cx h) AdW))))))))))
end Go.Proofs.YtdhfajmcakneiaaGreat
