/- The tables of types. Written by program. -/
import Derived.Test.YtdhfajmcakneiaaGreatModels
import Derived.Test.YtdhfajmcakneiaaGreatLibA
import Derived.Test.YtdhfajmcakneiaaGreatLibB
set_option linter.unusedVariables false
set_option linter.unusedSimpArgs false
namespace Go.Proofs.YtdhfajmcakneiaaGreat
open Go.Eng Tryz
abbrev tyV:Ty:=.pair .bool (.pair (.arr 4 (.int .u64)) .unit)
def tys:List (Nat×TyRow):=[(2,⟨(.int .i64),0,8⟩),(3,⟨(.int .i64),0,8⟩),(4,⟨.bool,0,1⟩),(5,⟨(.int .u8),0,1⟩),(22,⟨(.slice (.pair (.int .i64) (.pair (.pair tyV (.pair tyV .unit)) (.pair (.slice (.int .i64)) .unit)))),56,24⟩),(23,⟨(.slice (.int .i64)),3,24⟩),(30,⟨(.slice (.int .u8)),5,24⟩),(31,⟨(.int .i64),0,8⟩),(49,⟨(.int .u64),0,8⟩),(50,⟨(.arr 4 (.int .u64)),0,32⟩),(52,⟨tyV,0,40⟩),(54,⟨(.pair tyV (.pair tyV .unit)),0,80⟩),(56,⟨(.pair (.int .i64) (.pair (.pair tyV (.pair tyV .unit)) (.pair (.slice (.int .i64)) .unit))),0,112⟩),(59,⟨(.pair (.slice (.int .i64)) (.pair (.int .i64) .unit)),0,32⟩),(60,⟨(.slice (.pair (.int .i64) (.pair (.int .i64) .unit))),96,24⟩),(62,⟨(.slice (.pair (.int .i64) (.pair (.int .i64) (.pair (.int .i64) (.pair (.pair .bool (.pair (.pair tyV (.pair tyV .unit)) (.pair (.pair tyV (.pair tyV .unit)) .unit))) .unit))))),110,24⟩),(70,⟨(.slice (.int .i64)),2,24⟩),(71,⟨(.slice (.int .u64)),49,24⟩),(79,⟨(.arr 4096 .bool),0,4096⟩),(82,⟨(.slice .bool),4,24⟩),(85,⟨(.int .u64),0,8⟩),(96,⟨(.pair (.int .i64) (.pair (.int .i64) .unit)),0,16⟩),(98,⟨(.pair .bool (.pair (.pair tyV (.pair tyV .unit)) (.pair (.pair tyV (.pair tyV .unit)) .unit))),0,168⟩),(100,⟨(.pair (.int .i64) (.pair (.int .i64) (.pair (.int .i64) (.pair (.pair (.int .i64) (.pair (.int .i64) .unit)) (.pair (.int .i64) (.pair (.int .i64) (.pair (.pair .bool (.pair (.pair tyV (.pair tyV .unit)) (.pair (.pair tyV (.pair tyV .unit)) .unit))) .unit))))))),0,224⟩),(110,⟨(.pair (.int .i64) (.pair (.int .i64) (.pair (.int .i64) (.pair (.pair .bool (.pair (.pair tyV (.pair tyV .unit)) (.pair (.pair tyV (.pair tyV .unit)) .unit))) .unit)))),0,192⟩),(158,⟨(.slice (.int .u64)),49,24⟩),(167,⟨(.arr 5 (.int .u64)),0,40⟩),(175,⟨(.arr 2 tyV),0,80⟩),(211,⟨(.arr 8 (.int .u64)),0,64⟩)]
theorem BeQ(cx:Cx)(h:cx.types=tys):RowOk prog cx 2 ⟨(.int .i64),0,8⟩ :=
 ⟨⟨t2,_,by kernel_rfl,by kernel_rfl,by kernel_rfl,rfl,by kernel_rfl⟩,underlying2,(fun h=>Bool.noConfusion h),by decide⟩
theorem BeS(cx:Cx)(h:cx.types=tys):RowOk prog cx 3 ⟨(.int .i64),0,8⟩ :=
 ⟨⟨t3,_,by kernel_rfl,by kernel_rfl,by kernel_rfl,rfl,by kernel_rfl⟩,underlying3,(fun h=>Bool.noConfusion h),by decide⟩
theorem BeT(cx:Cx)(h:cx.types=tys):RowOk prog cx 4 ⟨.bool,0,1⟩ :=
 ⟨⟨t4,_,by kernel_rfl,by kernel_rfl,by kernel_rfl,rfl,by kernel_rfl⟩,underlying4,(fun h=>Bool.noConfusion h),by decide⟩
theorem BeU(cx:Cx)(h:cx.types=tys):RowOk prog cx 5 ⟨(.int .u8),0,1⟩ :=
 ⟨⟨t5,_,by kernel_rfl,by kernel_rfl,by kernel_rfl,rfl,by kernel_rfl⟩,underlying5,(fun h=>Bool.noConfusion h),by decide⟩
theorem A8S(cx:Cx)(h:cx.types=tys):RowOk prog cx 22 ⟨(.slice (.pair (.int .i64) (.pair (.pair tyV (.pair tyV .unit)) (.pair (.slice (.int .i64)) .unit)))),56,24⟩ :=
 ⟨⟨t22,_,by kernel_rfl,by kernel_rfl,by kernel_rfl,rfl,by kernel_rfl⟩,⟨underlying22,⟨⟨(.pair (.int .i64) (.pair (.pair tyV (.pair tyV .unit)) (.pair (.slice (.int .i64)) .unit))),0,112⟩,by unfold Cx.row?; rw [h]; kernel_rfl,rfl⟩⟩,(fun h=>Bool.noConfusion h),by decide⟩
theorem A8T(cx:Cx)(h:cx.types=tys):RowOk prog cx 23 ⟨(.slice (.int .i64)),3,24⟩ :=
 ⟨⟨t23,_,by kernel_rfl,by kernel_rfl,by kernel_rfl,rfl,by kernel_rfl⟩,⟨underlying23,⟨⟨(.int .i64),0,8⟩,by unfold Cx.row?; rw [h]; kernel_rfl,rfl⟩⟩,(fun h=>Bool.noConfusion h),by decide⟩
theorem A8U(cx:Cx)(h:cx.types=tys):RowOk prog cx 30 ⟨(.slice (.int .u8)),5,24⟩ :=
 ⟨⟨t30,_,by kernel_rfl,by kernel_rfl,by kernel_rfl,rfl,by kernel_rfl⟩,⟨underlying30,⟨⟨(.int .u8),0,1⟩,by unfold Cx.row?; rw [h]; kernel_rfl,rfl⟩⟩,(fun h=>Bool.noConfusion h),by decide⟩
theorem A8V(cx:Cx)(h:cx.types=tys):RowOk prog cx 31 ⟨(.int .i64),0,8⟩ :=
 ⟨⟨t31,_,by kernel_rfl,by kernel_rfl,by kernel_rfl,rfl,by kernel_rfl⟩,underlying31,(fun h=>Bool.noConfusion h),by decide⟩
theorem A8W(cx:Cx)(h:cx.types=tys):RowOk prog cx 49 ⟨(.int .u64),0,8⟩ :=
 ⟨⟨t49,_,by kernel_rfl,by kernel_rfl,by kernel_rfl,rfl,by kernel_rfl⟩,underlying49,(fun h=>Bool.noConfusion h),by decide⟩
theorem A8X(cx:Cx)(h:cx.types=tys):RowOk prog cx 50 ⟨(.arr 4 (.int .u64)),0,32⟩ :=
 ⟨⟨t50,_,by kernel_rfl,by kernel_rfl,by kernel_rfl,rfl,by kernel_rfl⟩,⟨49,underlying50,⟨⟨(.int .u64),0,8⟩,by unfold Cx.row?; rw [h]; kernel_rfl,rfl⟩⟩,(fun _=>by kernel_rfl),by decide⟩
theorem A8Y(cx:Cx)(h:cx.types=tys):RowOk prog cx 52 ⟨tyV,0,40⟩ :=
 ⟨⟨t52,_,by kernel_rfl,by kernel_rfl,by kernel_rfl,rfl,by kernel_rfl⟩,⟨_,underlying52,⟨rfl,⟨⟨.bool,0,1⟩,by unfold Cx.row?; rw [h]; kernel_rfl,rfl⟩,by decide,by decide,⟨rfl,⟨⟨(.arr 4 (.int .u64)),0,32⟩,by unfold Cx.row?; rw [h]; kernel_rfl,rfl⟩,by decide,by decide,trivial⟩⟩,by kernel_rfl⟩,(fun _=>by kernel_rfl),by decide⟩
theorem A8Z(cx:Cx)(h:cx.types=tys):RowOk prog cx 54 ⟨(.pair tyV (.pair tyV .unit)),0,80⟩ :=
 ⟨⟨t54,_,by kernel_rfl,by kernel_rfl,by kernel_rfl,rfl,by kernel_rfl⟩,⟨_,underlying54,⟨rfl,⟨⟨tyV,0,40⟩,by unfold Cx.row?; rw [h]; kernel_rfl,rfl⟩,by decide,by decide,⟨rfl,⟨⟨tyV,0,40⟩,by unfold Cx.row?; rw [h]; kernel_rfl,rfl⟩,by decide,by decide,trivial⟩⟩,by kernel_rfl⟩,(fun _=>by kernel_rfl),by decide⟩
theorem A90(cx:Cx)(h:cx.types=tys):RowOk prog cx 56 ⟨(.pair (.int .i64) (.pair (.pair tyV (.pair tyV .unit)) (.pair (.slice (.int .i64)) .unit))),0,112⟩ :=
 ⟨⟨t56,_,by kernel_rfl,by kernel_rfl,by kernel_rfl,rfl,by kernel_rfl⟩,⟨_,underlying56,⟨rfl,⟨⟨(.int .i64),0,8⟩,by unfold Cx.row?; rw [h]; kernel_rfl,rfl⟩,by decide,by decide,⟨rfl,⟨⟨(.pair tyV (.pair tyV .unit)),0,80⟩,by unfold Cx.row?; rw [h]; kernel_rfl,rfl⟩,by decide,by decide,⟨rfl,⟨⟨(.slice (.int .i64)),3,24⟩,by unfold Cx.row?; rw [h]; kernel_rfl,rfl⟩,by decide,by decide,trivial⟩⟩⟩,by kernel_rfl⟩,(fun _=>by kernel_rfl),by decide⟩
theorem A91(cx:Cx)(h:cx.types=tys):RowOk prog cx 59 ⟨(.pair (.slice (.int .i64)) (.pair (.int .i64) .unit)),0,32⟩ :=
 ⟨⟨t59,_,by kernel_rfl,by kernel_rfl,by kernel_rfl,rfl,by kernel_rfl⟩,⟨_,underlying59,⟨rfl,⟨⟨(.slice (.int .i64)),3,24⟩,by unfold Cx.row?; rw [h]; kernel_rfl,rfl⟩,by decide,by decide,⟨rfl,⟨⟨(.int .i64),0,8⟩,by unfold Cx.row?; rw [h]; kernel_rfl,rfl⟩,by decide,by decide,trivial⟩⟩,by kernel_rfl⟩,(fun _=>by kernel_rfl),by decide⟩
theorem A92(cx:Cx)(h:cx.types=tys):RowOk prog cx 60 ⟨(.slice (.pair (.int .i64) (.pair (.int .i64) .unit))),96,24⟩ :=
 ⟨⟨t60,_,by kernel_rfl,by kernel_rfl,by kernel_rfl,rfl,by kernel_rfl⟩,⟨underlying60,⟨⟨(.pair (.int .i64) (.pair (.int .i64) .unit)),0,16⟩,by unfold Cx.row?; rw [h]; kernel_rfl,rfl⟩⟩,(fun h=>Bool.noConfusion h),by decide⟩
theorem A93(cx:Cx)(h:cx.types=tys):RowOk prog cx 62 ⟨(.slice (.pair (.int .i64) (.pair (.int .i64) (.pair (.int .i64) (.pair (.pair .bool (.pair (.pair tyV (.pair tyV .unit)) (.pair (.pair tyV (.pair tyV .unit)) .unit))) .unit))))),110,24⟩ :=
 ⟨⟨t62,_,by kernel_rfl,by kernel_rfl,by kernel_rfl,rfl,by kernel_rfl⟩,⟨underlying62,⟨⟨(.pair (.int .i64) (.pair (.int .i64) (.pair (.int .i64) (.pair (.pair .bool (.pair (.pair tyV (.pair tyV .unit)) (.pair (.pair tyV (.pair tyV .unit)) .unit))) .unit)))),0,192⟩,by unfold Cx.row?; rw [h]; kernel_rfl,rfl⟩⟩,(fun h=>Bool.noConfusion h),by decide⟩
theorem A94(cx:Cx)(h:cx.types=tys):RowOk prog cx 70 ⟨(.slice (.int .i64)),2,24⟩ :=
 ⟨⟨t70,_,by kernel_rfl,by kernel_rfl,by kernel_rfl,rfl,by kernel_rfl⟩,⟨underlying70,⟨⟨(.int .i64),0,8⟩,by unfold Cx.row?; rw [h]; kernel_rfl,rfl⟩⟩,(fun h=>Bool.noConfusion h),by decide⟩
theorem A95(cx:Cx)(h:cx.types=tys):RowOk prog cx 71 ⟨(.slice (.int .u64)),49,24⟩ :=
 ⟨⟨t71,_,by kernel_rfl,by kernel_rfl,by kernel_rfl,rfl,by kernel_rfl⟩,⟨underlying71,⟨⟨(.int .u64),0,8⟩,by unfold Cx.row?; rw [h]; kernel_rfl,rfl⟩⟩,(fun h=>Bool.noConfusion h),by decide⟩
theorem A96(cx:Cx)(h:cx.types=tys):RowOk prog cx 79 ⟨(.arr 4096 .bool),0,4096⟩ :=
 ⟨⟨t79,_,by kernel_rfl,by kernel_rfl,by kernel_rfl,rfl,by kernel_rfl⟩,⟨4,underlying79,⟨⟨.bool,0,1⟩,by unfold Cx.row?; rw [h]; kernel_rfl,rfl⟩⟩,(fun _=>by kernel_rfl),by decide⟩
theorem A97(cx:Cx)(h:cx.types=tys):RowOk prog cx 82 ⟨(.slice .bool),4,24⟩ :=
 ⟨⟨t82,_,by kernel_rfl,by kernel_rfl,by kernel_rfl,rfl,by kernel_rfl⟩,⟨underlying82,⟨⟨.bool,0,1⟩,by unfold Cx.row?; rw [h]; kernel_rfl,rfl⟩⟩,(fun h=>Bool.noConfusion h),by decide⟩
theorem A98(cx:Cx)(h:cx.types=tys):RowOk prog cx 85 ⟨(.int .u64),0,8⟩ :=
 ⟨⟨t85,_,by kernel_rfl,by kernel_rfl,by kernel_rfl,rfl,by kernel_rfl⟩,underlying85,(fun h=>Bool.noConfusion h),by decide⟩
theorem A99(cx:Cx)(h:cx.types=tys):RowOk prog cx 96 ⟨(.pair (.int .i64) (.pair (.int .i64) .unit)),0,16⟩ :=
 ⟨⟨t96,_,by kernel_rfl,by kernel_rfl,by kernel_rfl,rfl,by kernel_rfl⟩,⟨_,underlying96,⟨rfl,⟨⟨(.int .i64),0,8⟩,by unfold Cx.row?; rw [h]; kernel_rfl,rfl⟩,by decide,by decide,⟨rfl,⟨⟨(.int .i64),0,8⟩,by unfold Cx.row?; rw [h]; kernel_rfl,rfl⟩,by decide,by decide,trivial⟩⟩,by kernel_rfl⟩,(fun _=>by kernel_rfl),by decide⟩
theorem A9a(cx:Cx)(h:cx.types=tys):RowOk prog cx 98 ⟨(.pair .bool (.pair (.pair tyV (.pair tyV .unit)) (.pair (.pair tyV (.pair tyV .unit)) .unit))),0,168⟩ :=
 ⟨⟨t98,_,by kernel_rfl,by kernel_rfl,by kernel_rfl,rfl,by kernel_rfl⟩,⟨_,underlying98,⟨rfl,⟨⟨.bool,0,1⟩,by unfold Cx.row?; rw [h]; kernel_rfl,rfl⟩,by decide,by decide,⟨rfl,⟨⟨(.pair tyV (.pair tyV .unit)),0,80⟩,by unfold Cx.row?; rw [h]; kernel_rfl,rfl⟩,by decide,by decide,⟨rfl,⟨⟨(.pair tyV (.pair tyV .unit)),0,80⟩,by unfold Cx.row?; rw [h]; kernel_rfl,rfl⟩,by decide,by decide,trivial⟩⟩⟩,by kernel_rfl⟩,(fun _=>by kernel_rfl),by decide⟩
theorem A3Y(cx:Cx)(h:cx.types=tys):RowOk prog cx 100 ⟨(.pair (.int .i64) (.pair (.int .i64) (.pair (.int .i64) (.pair (.pair (.int .i64) (.pair (.int .i64) .unit)) (.pair (.int .i64) (.pair (.int .i64) (.pair (.pair .bool (.pair (.pair tyV (.pair tyV .unit)) (.pair (.pair tyV (.pair tyV .unit)) .unit))) .unit))))))),0,224⟩ :=
 ⟨⟨t100,_,by kernel_rfl,by kernel_rfl,by kernel_rfl,rfl,by kernel_rfl⟩,⟨_,underlying100,⟨rfl,⟨⟨(.int .i64),0,8⟩,by unfold Cx.row?; rw [h]; kernel_rfl,rfl⟩,by decide,by decide,⟨rfl,⟨⟨(.int .i64),0,8⟩,by unfold Cx.row?; rw [h]; kernel_rfl,rfl⟩,by decide,by decide,⟨rfl,⟨⟨(.int .i64),0,8⟩,by unfold Cx.row?; rw [h]; kernel_rfl,rfl⟩,by decide,by decide,⟨rfl,⟨⟨(.pair (.int .i64) (.pair (.int .i64) .unit)),0,16⟩,by unfold Cx.row?; rw [h]; kernel_rfl,rfl⟩,by decide,by decide,⟨rfl,⟨⟨(.int .i64),0,8⟩,by unfold Cx.row?; rw [h]; kernel_rfl,rfl⟩,by decide,by decide,⟨rfl,⟨⟨(.int .i64),0,8⟩,by unfold Cx.row?; rw [h]; kernel_rfl,rfl⟩,by decide,by decide,⟨rfl,⟨⟨(.pair .bool (.pair (.pair tyV (.pair tyV .unit)) (.pair (.pair tyV (.pair tyV .unit)) .unit))),0,168⟩,by unfold Cx.row?; rw [h]; kernel_rfl,rfl⟩,by decide,by decide,trivial⟩⟩⟩⟩⟩⟩⟩,by kernel_rfl⟩,(fun _=>by kernel_rfl),by decide⟩
theorem A3Z(cx:Cx)(h:cx.types=tys):RowOk prog cx 110 ⟨(.pair (.int .i64) (.pair (.int .i64) (.pair (.int .i64) (.pair (.pair .bool (.pair (.pair tyV (.pair tyV .unit)) (.pair (.pair tyV (.pair tyV .unit)) .unit))) .unit)))),0,192⟩ :=
 ⟨⟨t110,_,by kernel_rfl,by kernel_rfl,by kernel_rfl,rfl,by kernel_rfl⟩,⟨_,underlying110,⟨rfl,⟨⟨(.int .i64),0,8⟩,by unfold Cx.row?; rw [h]; kernel_rfl,rfl⟩,by decide,by decide,⟨rfl,⟨⟨(.int .i64),0,8⟩,by unfold Cx.row?; rw [h]; kernel_rfl,rfl⟩,by decide,by decide,⟨rfl,⟨⟨(.int .i64),0,8⟩,by unfold Cx.row?; rw [h]; kernel_rfl,rfl⟩,by decide,by decide,⟨rfl,⟨⟨(.pair .bool (.pair (.pair tyV (.pair tyV .unit)) (.pair (.pair tyV (.pair tyV .unit)) .unit))),0,168⟩,by unfold Cx.row?; rw [h]; kernel_rfl,rfl⟩,by decide,by decide,trivial⟩⟩⟩⟩,by kernel_rfl⟩,(fun _=>by kernel_rfl),by decide⟩
theorem A40(cx:Cx)(h:cx.types=tys):RowOk prog cx 158 ⟨(.slice (.int .u64)),49,24⟩ :=
 ⟨⟨t158,_,by kernel_rfl,by kernel_rfl,by kernel_rfl,rfl,by kernel_rfl⟩,⟨underlying158,⟨⟨(.int .u64),0,8⟩,by unfold Cx.row?; rw [h]; kernel_rfl,rfl⟩⟩,(fun h=>Bool.noConfusion h),by decide⟩
theorem A41(cx:Cx)(h:cx.types=tys):RowOk prog cx 167 ⟨(.arr 5 (.int .u64)),0,40⟩ :=
 ⟨⟨t167,_,by kernel_rfl,by kernel_rfl,by kernel_rfl,rfl,by kernel_rfl⟩,⟨49,underlying167,⟨⟨(.int .u64),0,8⟩,by unfold Cx.row?; rw [h]; kernel_rfl,rfl⟩⟩,(fun _=>by kernel_rfl),by decide⟩
theorem A42(cx:Cx)(h:cx.types=tys):RowOk prog cx 175 ⟨(.arr 2 tyV),0,80⟩ :=
 ⟨⟨t175,_,by kernel_rfl,by kernel_rfl,by kernel_rfl,rfl,by kernel_rfl⟩,⟨52,underlying175,⟨⟨tyV,0,40⟩,by unfold Cx.row?; rw [h]; kernel_rfl,rfl⟩⟩,(fun _=>by kernel_rfl),by decide⟩
theorem A43(cx:Cx)(h:cx.types=tys):RowOk prog cx 211 ⟨(.arr 8 (.int .u64)),0,64⟩ :=
 ⟨⟨t211,_,by kernel_rfl,by kernel_rfl,by kernel_rfl,rfl,by kernel_rfl⟩,⟨49,underlying211,⟨⟨(.int .u64),0,8⟩,by unfold Cx.row?; rw [h]; kernel_rfl,rfl⟩⟩,(fun _=>by kernel_rfl),by decide⟩
theorem Bz(cx:Cx)(h:cx.types=tys):Hu prog cx:=AjW h (A3 (BeQ cx h) (A3 (BeS cx h) (A3 (BeT cx h) (A3 (BeU cx h) (A3 (A8S cx h) (A3 (A8T cx h) (A3 (A8U cx h) (A3 (A8V cx h) (A3 (A8W cx h) (A3 (A8X cx h) (A3 (A8Y cx h) (A3 (A8Z cx h) (A3 (A90 cx h) (A3 (A91 cx h) (A3 (A92 cx h) (A3 (A93 cx h) (A3 (A94 cx h) (A3 (A95 cx h) (A3 (A96 cx h) (A3 (A97 cx h) (A3 (A98 cx h) (A3 (A99 cx h) (A3 (A9a cx h) (A3 (A3Y cx h) (A3 (A3Z cx h) (A3 (A40 cx h) (A3 (A41 cx h) (A3 (A42 cx h) (A3 (A43 cx h) Aek)))))))))))))))))))))))))))))
theorem mix:prog.follows .mixedOrders=true:=by kernel_rfl
abbrev Ab:Ty:=.int .i64
abbrev Ag:Ty:=.int .u64
abbrev Ct:Ty:=.int .u8
abbrev Aw:Ty:=.slice (.int .u64)
abbrev Bv:Ty:=.slice (.int .i64)
abbrev At:Ty:=.slice (.int .u8)
abbrev Bn:Ty:=.pair tyV (.pair tyV .unit)
abbrev A7:Ty:=.pair Ab (.pair Bn (.pair Bv .unit))
abbrev Bg:Ty:=.pair .bool (.pair Bn (.pair Bn .unit))
abbrev Cp:Ty:=.pair Bv (.pair Ab .unit)
abbrev Fe:Ty:=.pair Ab (.pair Ab .unit)
abbrev Ah(x:Cx):Prop:=∀ f c,x.call f=some c→Wx prog f c
abbrev Aq(c:List (Nat×Contract))(o:List Nat)(n:Nat×Nat):Cx:={types:=tys,call:=Ot c,own:=o,ntmps:=n}
abbrev A2(s:Sig):=Nat→Option (Hint (Acl s.rtys))
abbrev Au(s:Ae):=∀{R:Type},Ae.den s→(Ex→St→Option R)→Option R
abbrev A4(s:Sig)(f:Func)(fr:Frm)(p:List Nat)(sh:Ae)(m:Ae.den sh→(Ex→St→Option (Acl s.rtys))→Option (Acl s.rtys)):Prop:=Qy prog fr (.loop (sub (Ak f) p)) sh m
abbrev Dz(s:Sig)(f:Func)(fr:Frm)(p:List Nat)(sh:Ae)(m:Ae.den sh→(Ex→St→Option (Acl s.rtys))→Option (Acl s.rtys)):Prop:=Qy prog fr (sub (Ak f) p) sh m
theorem Ao{cx:Cx}{f:FuncId}{fn:Func}{sg:Sig}{model:Ae.den sg.sh→Option (Acl sg.rtys)}(hs js:A2 sg)(ht:cx.types=tys)(hf:prog.funcs[f]? =some fn)(h:(fn.body,(fn.name != "runtime.NumGoroutine"),cx.ntmps.2,AaX sg cx.ntmps)=(some (Ak fn),true,fn.ntmps,true))(hc:Ah cx)(ho:∀ fr:Frm,cx.ntmps=fr.n→HOk prog fr hs js (Ak fn))(hr:∀ x,model x=run cx hs js (Ak fn) (AuH sg cx.ntmps.1 x) (A3z cx sg fn.results.toList)):CSound prog f (Ax sg model) :=
 Aa5 hf (congrArg (·.1) h) (congrArg (·.2.1) h) (Bz cx ht) hc mix (congrArg (·.2.2.1) h) (congrArg (·.2.2.2) h) ho hr
theorem A5{R:Type}{cx:Cx}(hs js:Nat→Option (Hint R))(outs:Ck){fr:Frm}{c:Code}{sh:Ae}{m:Nat→Ae.den sh→(Ex→St→Option R)→Option R}(ht:cx.types=tys)(hc:Ah cx)(hn:cx.ntmps=fr.n)(h0:∀ x K,m 0 x K=none)(hm:∀ n x K,m (n+1) x K=run cx hs js c (enc sh x) (Aqh sh outs (m n) K))(ho:HOk prog fr hs js c)(n:Nat):Qy prog fr (.loop c) sh (m n) :=
 Us (Bz cx ht) hc hn mix h0 hm ho n
theorem D0{R:Type}{cx:Cx}(hs js:Nat→Option (Hint R))(outs:Ck){fr:Frm}{c:Code}{sh:Ae}{m:Ae.den sh→(Ex→St→Option R)→Option R}(ht:cx.types=tys)(hc:Ah cx)(hn:cx.ntmps=fr.n)(hm:∀ x K,m x K=run cx hs js c (enc sh x) (A3I outs K))(ho:HOk prog fr hs js c):Qy prog fr c sh m :=
 AoX (Bz cx ht) hc hn mix hm ho
theorem Al{R:Type}{fr:Frm}{hs js:Nat→Option (Hint R)}{c:Code}(h:AuE hs js c=[]):HOk prog fr hs js c:=A0 h Ar
abbrev Bdt{R:Type}{fr:Frm}{c:Code}{sh:Ae}{m:Ae.den sh→(Ex→St→Option R)→Option R}{l:List (Code×Hint R)}(h:Qy prog fr c sh m)(hl:AcU prog fr l):AcU prog fr ((c,⟨sh,m⟩)::l):=Ai h hl
def AgD:List (Nat×TyRow):=[(2,⟨(.int .i64),0,8⟩),(3,⟨(.int .i64),0,8⟩),(4,⟨.bool,0,1⟩),(5,⟨(.int .u8),0,1⟩),(22,⟨(.slice (.pair (.int .i64) (.pair (.pair tyV (.pair tyV .unit)) (.pair .nil .unit)))),56,24⟩),(23,⟨.nil,3,24⟩),(30,⟨(.slice (.int .u8)),5,24⟩),(31,⟨(.int .i64),0,8⟩),(49,⟨(.int .u64),0,8⟩),(50,⟨(.arr 4 (.int .u64)),0,32⟩),(52,⟨tyV,0,40⟩),(54,⟨(.pair tyV (.pair tyV .unit)),0,80⟩),(56,⟨(.pair (.int .i64) (.pair (.pair tyV (.pair tyV .unit)) (.pair .nil .unit))),0,112⟩),(70,⟨(.slice (.int .i64)),2,24⟩),(71,⟨(.slice (.int .u64)),49,24⟩)]
theorem A9b(cx:Cx)(h:cx.types=AgD):RowOk prog cx 2 ⟨(.int .i64),0,8⟩ :=
 ⟨⟨t2,_,by kernel_rfl,by kernel_rfl,by kernel_rfl,rfl,by kernel_rfl⟩,underlying2,(fun h=>Bool.noConfusion h),by decide⟩
theorem A9c(cx:Cx)(h:cx.types=AgD):RowOk prog cx 3 ⟨(.int .i64),0,8⟩ :=
 ⟨⟨t3,_,by kernel_rfl,by kernel_rfl,by kernel_rfl,rfl,by kernel_rfl⟩,underlying3,(fun h=>Bool.noConfusion h),by decide⟩
theorem A9d(cx:Cx)(h:cx.types=AgD):RowOk prog cx 4 ⟨.bool,0,1⟩ :=
 ⟨⟨t4,_,by kernel_rfl,by kernel_rfl,by kernel_rfl,rfl,by kernel_rfl⟩,underlying4,(fun h=>Bool.noConfusion h),by decide⟩
theorem A9e(cx:Cx)(h:cx.types=AgD):RowOk prog cx 5 ⟨(.int .u8),0,1⟩ :=
 ⟨⟨t5,_,by kernel_rfl,by kernel_rfl,by kernel_rfl,rfl,by kernel_rfl⟩,underlying5,(fun h=>Bool.noConfusion h),by decide⟩
theorem A44(cx:Cx)(h:cx.types=AgD):RowOk prog cx 22 ⟨(.slice (.pair (.int .i64) (.pair (.pair tyV (.pair tyV .unit)) (.pair .nil .unit)))),56,24⟩ :=
 ⟨⟨t22,_,by kernel_rfl,by kernel_rfl,by kernel_rfl,rfl,by kernel_rfl⟩,⟨underlying22,⟨⟨(.pair (.int .i64) (.pair (.pair tyV (.pair tyV .unit)) (.pair .nil .unit))),0,112⟩,by unfold Cx.row?; rw [h]; kernel_rfl,rfl⟩⟩,(fun h=>Bool.noConfusion h),by decide⟩
theorem A45(cx:Cx)(h:cx.types=AgD):RowOk prog cx 23 ⟨.nil,3,24⟩ :=
 ⟨⟨t23,_,by kernel_rfl,by kernel_rfl,by kernel_rfl,rfl,by kernel_rfl⟩,underlying23,(fun h=>Bool.noConfusion h),by decide⟩
theorem A46(cx:Cx)(h:cx.types=AgD):RowOk prog cx 30 ⟨(.slice (.int .u8)),5,24⟩ :=
 ⟨⟨t30,_,by kernel_rfl,by kernel_rfl,by kernel_rfl,rfl,by kernel_rfl⟩,⟨underlying30,⟨⟨(.int .u8),0,1⟩,by unfold Cx.row?; rw [h]; kernel_rfl,rfl⟩⟩,(fun h=>Bool.noConfusion h),by decide⟩
theorem A47(cx:Cx)(h:cx.types=AgD):RowOk prog cx 31 ⟨(.int .i64),0,8⟩ :=
 ⟨⟨t31,_,by kernel_rfl,by kernel_rfl,by kernel_rfl,rfl,by kernel_rfl⟩,underlying31,(fun h=>Bool.noConfusion h),by decide⟩
theorem A48(cx:Cx)(h:cx.types=AgD):RowOk prog cx 49 ⟨(.int .u64),0,8⟩ :=
 ⟨⟨t49,_,by kernel_rfl,by kernel_rfl,by kernel_rfl,rfl,by kernel_rfl⟩,underlying49,(fun h=>Bool.noConfusion h),by decide⟩
theorem A49(cx:Cx)(h:cx.types=AgD):RowOk prog cx 50 ⟨(.arr 4 (.int .u64)),0,32⟩ :=
 ⟨⟨t50,_,by kernel_rfl,by kernel_rfl,by kernel_rfl,rfl,by kernel_rfl⟩,⟨49,underlying50,⟨⟨(.int .u64),0,8⟩,by unfold Cx.row?; rw [h]; kernel_rfl,rfl⟩⟩,(fun _=>by kernel_rfl),by decide⟩
theorem A4a(cx:Cx)(h:cx.types=AgD):RowOk prog cx 52 ⟨tyV,0,40⟩ :=
 ⟨⟨t52,_,by kernel_rfl,by kernel_rfl,by kernel_rfl,rfl,by kernel_rfl⟩,⟨_,underlying52,⟨rfl,⟨⟨.bool,0,1⟩,by unfold Cx.row?; rw [h]; kernel_rfl,rfl⟩,by decide,by decide,⟨rfl,⟨⟨(.arr 4 (.int .u64)),0,32⟩,by unfold Cx.row?; rw [h]; kernel_rfl,rfl⟩,by decide,by decide,trivial⟩⟩,by kernel_rfl⟩,(fun _=>by kernel_rfl),by decide⟩
theorem A4b(cx:Cx)(h:cx.types=AgD):RowOk prog cx 54 ⟨(.pair tyV (.pair tyV .unit)),0,80⟩ :=
 ⟨⟨t54,_,by kernel_rfl,by kernel_rfl,by kernel_rfl,rfl,by kernel_rfl⟩,⟨_,underlying54,⟨rfl,⟨⟨tyV,0,40⟩,by unfold Cx.row?; rw [h]; kernel_rfl,rfl⟩,by decide,by decide,⟨rfl,⟨⟨tyV,0,40⟩,by unfold Cx.row?; rw [h]; kernel_rfl,rfl⟩,by decide,by decide,trivial⟩⟩,by kernel_rfl⟩,(fun _=>by kernel_rfl),by decide⟩
theorem A4c(cx:Cx)(h:cx.types=AgD):RowOk prog cx 56 ⟨(.pair (.int .i64) (.pair (.pair tyV (.pair tyV .unit)) (.pair .nil .unit))),0,112⟩ :=
 ⟨⟨t56,_,by kernel_rfl,by kernel_rfl,by kernel_rfl,rfl,by kernel_rfl⟩,⟨_,underlying56,⟨rfl,⟨⟨(.int .i64),0,8⟩,by unfold Cx.row?; rw [h]; kernel_rfl,rfl⟩,by decide,by decide,⟨rfl,⟨⟨(.pair tyV (.pair tyV .unit)),0,80⟩,by unfold Cx.row?; rw [h]; kernel_rfl,rfl⟩,by decide,by decide,⟨rfl,⟨⟨.nil,3,24⟩,by unfold Cx.row?; rw [h]; kernel_rfl,rfl⟩,by decide,by decide,trivial⟩⟩⟩,by kernel_rfl⟩,(fun _=>by kernel_rfl),by decide⟩
theorem A4d(cx:Cx)(h:cx.types=AgD):RowOk prog cx 70 ⟨(.slice (.int .i64)),2,24⟩ :=
 ⟨⟨t70,_,by kernel_rfl,by kernel_rfl,by kernel_rfl,rfl,by kernel_rfl⟩,⟨underlying70,⟨⟨(.int .i64),0,8⟩,by unfold Cx.row?; rw [h]; kernel_rfl,rfl⟩⟩,(fun h=>Bool.noConfusion h),by decide⟩
theorem A4e(cx:Cx)(h:cx.types=AgD):RowOk prog cx 71 ⟨(.slice (.int .u64)),49,24⟩ :=
 ⟨⟨t71,_,by kernel_rfl,by kernel_rfl,by kernel_rfl,rfl,by kernel_rfl⟩,⟨underlying71,⟨⟨(.int .u64),0,8⟩,by unfold Cx.row?; rw [h]; kernel_rfl,rfl⟩⟩,(fun h=>Bool.noConfusion h),by decide⟩
theorem T6(cx:Cx)(h:cx.types=AgD):Hu prog cx:=AjW h (A3 (A9b cx h) (A3 (A9c cx h) (A3 (A9d cx h) (A3 (A9e cx h) (A3 (A44 cx h) (A3 (A45 cx h) (A3 (A46 cx h) (A3 (A47 cx h) (A3 (A48 cx h) (A3 (A49 cx h) (A3 (A4a cx h) (A3 (A4b cx h) (A3 (A4c cx h) (A3 (A4d cx h) (A3 (A4e cx h) Aek)))))))))))))))
def Ap5:List (Nat×TyRow):=[(2,⟨(.int .i64),0,8⟩),(3,⟨(.int .i64),0,8⟩),(4,⟨.bool,0,1⟩),(22,⟨(.slice (.pair (.int .i64) (.pair (.pair tyV (.pair tyV .unit)) (.pair .val .unit)))),56,24⟩),(23,⟨.val,3,24⟩),(49,⟨(.int .u64),0,8⟩),(50,⟨(.arr 4 (.int .u64)),0,32⟩),(52,⟨tyV,0,40⟩),(54,⟨(.pair tyV (.pair tyV .unit)),0,80⟩),(56,⟨(.pair (.int .i64) (.pair (.pair tyV (.pair tyV .unit)) (.pair .val .unit))),0,112⟩)]
theorem A9f(cx:Cx)(h:cx.types=Ap5):RowOk prog cx 2 ⟨(.int .i64),0,8⟩ :=
 ⟨⟨t2,_,by kernel_rfl,by kernel_rfl,by kernel_rfl,rfl,by kernel_rfl⟩,underlying2,(fun h=>Bool.noConfusion h),by decide⟩
theorem A9g(cx:Cx)(h:cx.types=Ap5):RowOk prog cx 3 ⟨(.int .i64),0,8⟩ :=
 ⟨⟨t3,_,by kernel_rfl,by kernel_rfl,by kernel_rfl,rfl,by kernel_rfl⟩,underlying3,(fun h=>Bool.noConfusion h),by decide⟩
theorem A9h(cx:Cx)(h:cx.types=Ap5):RowOk prog cx 4 ⟨.bool,0,1⟩ :=
 ⟨⟨t4,_,by kernel_rfl,by kernel_rfl,by kernel_rfl,rfl,by kernel_rfl⟩,underlying4,(fun h=>Bool.noConfusion h),by decide⟩
theorem A4f(cx:Cx)(h:cx.types=Ap5):RowOk prog cx 22 ⟨(.slice (.pair (.int .i64) (.pair (.pair tyV (.pair tyV .unit)) (.pair .val .unit)))),56,24⟩ :=
 ⟨⟨t22,_,by kernel_rfl,by kernel_rfl,by kernel_rfl,rfl,by kernel_rfl⟩,⟨underlying22,⟨⟨(.pair (.int .i64) (.pair (.pair tyV (.pair tyV .unit)) (.pair .val .unit))),0,112⟩,by unfold Cx.row?; rw [h]; kernel_rfl,rfl⟩⟩,(fun h=>Bool.noConfusion h),by decide⟩
theorem A4g(cx:Cx)(h:cx.types=Ap5):RowOk prog cx 23 ⟨.val,3,24⟩ :=
 ⟨⟨t23,_,by kernel_rfl,by kernel_rfl,by kernel_rfl,rfl,by kernel_rfl⟩,underlying23,(fun h=>Bool.noConfusion h),by decide⟩
theorem A4h(cx:Cx)(h:cx.types=Ap5):RowOk prog cx 49 ⟨(.int .u64),0,8⟩ :=
 ⟨⟨t49,_,by kernel_rfl,by kernel_rfl,by kernel_rfl,rfl,by kernel_rfl⟩,underlying49,(fun h=>Bool.noConfusion h),by decide⟩
theorem A4i(cx:Cx)(h:cx.types=Ap5):RowOk prog cx 50 ⟨(.arr 4 (.int .u64)),0,32⟩ :=
 ⟨⟨t50,_,by kernel_rfl,by kernel_rfl,by kernel_rfl,rfl,by kernel_rfl⟩,⟨49,underlying50,⟨⟨(.int .u64),0,8⟩,by unfold Cx.row?; rw [h]; kernel_rfl,rfl⟩⟩,(fun _=>by kernel_rfl),by decide⟩
theorem A4j(cx:Cx)(h:cx.types=Ap5):RowOk prog cx 52 ⟨tyV,0,40⟩ :=
 ⟨⟨t52,_,by kernel_rfl,by kernel_rfl,by kernel_rfl,rfl,by kernel_rfl⟩,⟨_,underlying52,⟨rfl,⟨⟨.bool,0,1⟩,by unfold Cx.row?; rw [h]; kernel_rfl,rfl⟩,by decide,by decide,⟨rfl,⟨⟨(.arr 4 (.int .u64)),0,32⟩,by unfold Cx.row?; rw [h]; kernel_rfl,rfl⟩,by decide,by decide,trivial⟩⟩,by kernel_rfl⟩,(fun _=>by kernel_rfl),by decide⟩
theorem A4k(cx:Cx)(h:cx.types=Ap5):RowOk prog cx 54 ⟨(.pair tyV (.pair tyV .unit)),0,80⟩ :=
 ⟨⟨t54,_,by kernel_rfl,by kernel_rfl,by kernel_rfl,rfl,by kernel_rfl⟩,⟨_,underlying54,⟨rfl,⟨⟨tyV,0,40⟩,by unfold Cx.row?; rw [h]; kernel_rfl,rfl⟩,by decide,by decide,⟨rfl,⟨⟨tyV,0,40⟩,by unfold Cx.row?; rw [h]; kernel_rfl,rfl⟩,by decide,by decide,trivial⟩⟩,by kernel_rfl⟩,(fun _=>by kernel_rfl),by decide⟩
theorem A4l(cx:Cx)(h:cx.types=Ap5):RowOk prog cx 56 ⟨(.pair (.int .i64) (.pair (.pair tyV (.pair tyV .unit)) (.pair .val .unit))),0,112⟩ :=
 ⟨⟨t56,_,by kernel_rfl,by kernel_rfl,by kernel_rfl,rfl,by kernel_rfl⟩,⟨_,underlying56,⟨rfl,⟨⟨(.int .i64),0,8⟩,by unfold Cx.row?; rw [h]; kernel_rfl,rfl⟩,by decide,by decide,⟨rfl,⟨⟨(.pair tyV (.pair tyV .unit)),0,80⟩,by unfold Cx.row?; rw [h]; kernel_rfl,rfl⟩,by decide,by decide,⟨rfl,⟨⟨.val,3,24⟩,by unfold Cx.row?; rw [h]; kernel_rfl,rfl⟩,by decide,by decide,trivial⟩⟩⟩,by kernel_rfl⟩,(fun _=>by kernel_rfl),by decide⟩
theorem Sc(cx:Cx)(h:cx.types=Ap5):Hu prog cx:=AjW h (A3 (A9f cx h) (A3 (A9g cx h) (A3 (A9h cx h) (A3 (A4f cx h) (A3 (A4g cx h) (A3 (A4h cx h) (A3 (A4i cx h) (A3 (A4j cx h) (A3 (A4k cx h) (A3 (A4l cx h) Aek))))))))))
end Go.Proofs.YtdhfajmcakneiaaGreat
