/- The tables of types. Written by program. -/
import Derived.Test.YtdhfajmcakneiaaGreatModels
import Derived.Test.YtdhfajmcakneiaaGreatLibA
import Derived.Test.YtdhfajmcakneiaaGreatLibB
set_option linter.unusedVariables false
set_option linter.unusedSimpArgs false
namespace Go.Proofs.YtdhfajmcakneiaaGreat
open Go.Eng Tryz
abbrev tyV:Ty:=.pair .bool (.pair (.arr 4 (.int .u64)) .unit)
def tys:List (Nat×TyRow):=[(2,⟨(.int .i64),0,8⟩),(3,⟨(.int .i64),0,8⟩),(4,⟨.bool,0,1⟩),(5,⟨(.int .u8),0,1⟩),(22,⟨(.slice (.pair (.int .i64) (.pair (.pair tyV (.pair tyV .unit)) (.pair (.slice (.int .i64)) .unit)))),56,24⟩),(23,⟨(.slice (.int .i64)),3,24⟩),(29,⟨(.slice (.slice (.pair (.int .i64) (.pair (.pair tyV (.pair tyV .unit)) (.pair (.slice (.int .i64)) .unit))))),22,24⟩),(30,⟨(.slice (.int .u8)),5,24⟩),(31,⟨(.int .i64),0,8⟩),(49,⟨(.int .u64),0,8⟩),(50,⟨(.arr 4 (.int .u64)),0,32⟩),(52,⟨tyV,0,40⟩),(54,⟨(.pair tyV (.pair tyV .unit)),0,80⟩),(56,⟨(.pair (.int .i64) (.pair (.pair tyV (.pair tyV .unit)) (.pair (.slice (.int .i64)) .unit))),0,112⟩),(59,⟨(.pair (.slice (.int .i64)) (.pair (.int .i64) .unit)),0,32⟩),(60,⟨(.slice (.pair (.int .i64) (.pair (.int .i64) .unit))),96,24⟩),(62,⟨(.slice (.pair (.int .i64) (.pair (.int .i64) (.pair (.int .i64) (.pair (.pair .bool (.pair (.pair tyV (.pair tyV .unit)) (.pair (.pair tyV (.pair tyV .unit)) .unit))) .unit))))),110,24⟩),(70,⟨(.slice (.int .i64)),2,24⟩),(71,⟨(.slice (.int .u64)),49,24⟩),(79,⟨(.arr 4096 .bool),0,4096⟩),(82,⟨(.slice .bool),4,24⟩),(85,⟨(.int .u64),0,8⟩),(96,⟨(.pair (.int .i64) (.pair (.int .i64) .unit)),0,16⟩),(98,⟨(.pair .bool (.pair (.pair tyV (.pair tyV .unit)) (.pair (.pair tyV (.pair tyV .unit)) .unit))),0,168⟩),(100,⟨(.pair (.int .i64) (.pair (.int .i64) (.pair (.int .i64) (.pair (.pair (.int .i64) (.pair (.int .i64) .unit)) (.pair (.int .i64) (.pair (.int .i64) (.pair (.pair .bool (.pair (.pair tyV (.pair tyV .unit)) (.pair (.pair tyV (.pair tyV .unit)) .unit))) .unit))))))),0,224⟩),(110,⟨(.pair (.int .i64) (.pair (.int .i64) (.pair (.int .i64) (.pair (.pair .bool (.pair (.pair tyV (.pair tyV .unit)) (.pair (.pair tyV (.pair tyV .unit)) .unit))) .unit)))),0,192⟩),(158,⟨(.slice (.int .u64)),49,24⟩),(167,⟨(.arr 5 (.int .u64)),0,40⟩),(175,⟨(.arr 2 tyV),0,80⟩),(211,⟨(.arr 8 (.int .u64)),0,64⟩)]
theorem E6i(cx:Cx)(h:cx.types=tys):RowOk prog cx 2 ⟨(.int .i64),0,8⟩ :=
 ⟨⟨t2,_,by kernel_rfl,by kernel_rfl,by kernel_rfl,rfl,by kernel_rfl⟩,underlying2,(fun h=>Bool.noConfusion h),by decide⟩
theorem E6j(cx:Cx)(h:cx.types=tys):RowOk prog cx 3 ⟨(.int .i64),0,8⟩ :=
 ⟨⟨t3,_,by kernel_rfl,by kernel_rfl,by kernel_rfl,rfl,by kernel_rfl⟩,underlying3,(fun h=>Bool.noConfusion h),by decide⟩
theorem E6k(cx:Cx)(h:cx.types=tys):RowOk prog cx 4 ⟨.bool,0,1⟩ :=
 ⟨⟨t4,_,by kernel_rfl,by kernel_rfl,by kernel_rfl,rfl,by kernel_rfl⟩,underlying4,(fun h=>Bool.noConfusion h),by decide⟩
theorem E6l(cx:Cx)(h:cx.types=tys):RowOk prog cx 5 ⟨(.int .u8),0,1⟩ :=
 ⟨⟨t5,_,by kernel_rfl,by kernel_rfl,by kernel_rfl,rfl,by kernel_rfl⟩,underlying5,(fun h=>Bool.noConfusion h),by decide⟩
theorem E0T(cx:Cx)(h:cx.types=tys):RowOk prog cx 22 ⟨(.slice (.pair (.int .i64) (.pair (.pair tyV (.pair tyV .unit)) (.pair (.slice (.int .i64)) .unit)))),56,24⟩ :=
 ⟨⟨t22,_,by kernel_rfl,by kernel_rfl,by kernel_rfl,rfl,by kernel_rfl⟩,⟨underlying22,⟨⟨(.pair (.int .i64) (.pair (.pair tyV (.pair tyV .unit)) (.pair (.slice (.int .i64)) .unit))),0,112⟩,by unfold Cx.row?; rw [h]; kernel_rfl,rfl⟩⟩,(fun h=>Bool.noConfusion h),by decide⟩
theorem E0U(cx:Cx)(h:cx.types=tys):RowOk prog cx 23 ⟨(.slice (.int .i64)),3,24⟩ :=
 ⟨⟨t23,_,by kernel_rfl,by kernel_rfl,by kernel_rfl,rfl,by kernel_rfl⟩,⟨underlying23,⟨⟨(.int .i64),0,8⟩,by unfold Cx.row?; rw [h]; kernel_rfl,rfl⟩⟩,(fun h=>Bool.noConfusion h),by decide⟩
theorem E0V(cx:Cx)(h:cx.types=tys):RowOk prog cx 29 ⟨(.slice (.slice (.pair (.int .i64) (.pair (.pair tyV (.pair tyV .unit)) (.pair (.slice (.int .i64)) .unit))))),22,24⟩ :=
 ⟨⟨t29,_,by kernel_rfl,by kernel_rfl,by kernel_rfl,rfl,by kernel_rfl⟩,⟨underlying29,⟨⟨(.slice (.pair (.int .i64) (.pair (.pair tyV (.pair tyV .unit)) (.pair (.slice (.int .i64)) .unit)))),56,24⟩,by unfold Cx.row?; rw [h]; kernel_rfl,rfl⟩⟩,(fun h=>Bool.noConfusion h),by decide⟩
theorem E0W(cx:Cx)(h:cx.types=tys):RowOk prog cx 30 ⟨(.slice (.int .u8)),5,24⟩ :=
 ⟨⟨t30,_,by kernel_rfl,by kernel_rfl,by kernel_rfl,rfl,by kernel_rfl⟩,⟨underlying30,⟨⟨(.int .u8),0,1⟩,by unfold Cx.row?; rw [h]; kernel_rfl,rfl⟩⟩,(fun h=>Bool.noConfusion h),by decide⟩
theorem E0X(cx:Cx)(h:cx.types=tys):RowOk prog cx 31 ⟨(.int .i64),0,8⟩ :=
 ⟨⟨t31,_,by kernel_rfl,by kernel_rfl,by kernel_rfl,rfl,by kernel_rfl⟩,underlying31,(fun h=>Bool.noConfusion h),by decide⟩
theorem E0Y(cx:Cx)(h:cx.types=tys):RowOk prog cx 49 ⟨(.int .u64),0,8⟩ :=
 ⟨⟨t49,_,by kernel_rfl,by kernel_rfl,by kernel_rfl,rfl,by kernel_rfl⟩,underlying49,(fun h=>Bool.noConfusion h),by decide⟩
theorem E0Z(cx:Cx)(h:cx.types=tys):RowOk prog cx 50 ⟨(.arr 4 (.int .u64)),0,32⟩ :=
 ⟨⟨t50,_,by kernel_rfl,by kernel_rfl,by kernel_rfl,rfl,by kernel_rfl⟩,⟨49,underlying50,⟨⟨(.int .u64),0,8⟩,by unfold Cx.row?; rw [h]; kernel_rfl,rfl⟩⟩,(fun _=>by kernel_rfl),by decide⟩
theorem E10(cx:Cx)(h:cx.types=tys):RowOk prog cx 52 ⟨tyV,0,40⟩ :=
 ⟨⟨t52,_,by kernel_rfl,by kernel_rfl,by kernel_rfl,rfl,by kernel_rfl⟩,⟨_,underlying52,⟨rfl,⟨⟨.bool,0,1⟩,by unfold Cx.row?; rw [h]; kernel_rfl,rfl⟩,by decide,by decide,⟨rfl,⟨⟨(.arr 4 (.int .u64)),0,32⟩,by unfold Cx.row?; rw [h]; kernel_rfl,rfl⟩,by decide,by decide,trivial⟩⟩,by kernel_rfl⟩,(fun _=>by kernel_rfl),by decide⟩
theorem E11(cx:Cx)(h:cx.types=tys):RowOk prog cx 54 ⟨(.pair tyV (.pair tyV .unit)),0,80⟩ :=
 ⟨⟨t54,_,by kernel_rfl,by kernel_rfl,by kernel_rfl,rfl,by kernel_rfl⟩,⟨_,underlying54,⟨rfl,⟨⟨tyV,0,40⟩,by unfold Cx.row?; rw [h]; kernel_rfl,rfl⟩,by decide,by decide,⟨rfl,⟨⟨tyV,0,40⟩,by unfold Cx.row?; rw [h]; kernel_rfl,rfl⟩,by decide,by decide,trivial⟩⟩,by kernel_rfl⟩,(fun _=>by kernel_rfl),by decide⟩
theorem E12(cx:Cx)(h:cx.types=tys):RowOk prog cx 56 ⟨(.pair (.int .i64) (.pair (.pair tyV (.pair tyV .unit)) (.pair (.slice (.int .i64)) .unit))),0,112⟩ :=
 ⟨⟨t56,_,by kernel_rfl,by kernel_rfl,by kernel_rfl,rfl,by kernel_rfl⟩,⟨_,underlying56,⟨rfl,⟨⟨(.int .i64),0,8⟩,by unfold Cx.row?; rw [h]; kernel_rfl,rfl⟩,by decide,by decide,⟨rfl,⟨⟨(.pair tyV (.pair tyV .unit)),0,80⟩,by unfold Cx.row?; rw [h]; kernel_rfl,rfl⟩,by decide,by decide,⟨rfl,⟨⟨(.slice (.int .i64)),3,24⟩,by unfold Cx.row?; rw [h]; kernel_rfl,rfl⟩,by decide,by decide,trivial⟩⟩⟩,by kernel_rfl⟩,(fun _=>by kernel_rfl),by decide⟩
theorem E13(cx:Cx)(h:cx.types=tys):RowOk prog cx 59 ⟨(.pair (.slice (.int .i64)) (.pair (.int .i64) .unit)),0,32⟩ :=
 ⟨⟨t59,_,by kernel_rfl,by kernel_rfl,by kernel_rfl,rfl,by kernel_rfl⟩,⟨_,underlying59,⟨rfl,⟨⟨(.slice (.int .i64)),3,24⟩,by unfold Cx.row?; rw [h]; kernel_rfl,rfl⟩,by decide,by decide,⟨rfl,⟨⟨(.int .i64),0,8⟩,by unfold Cx.row?; rw [h]; kernel_rfl,rfl⟩,by decide,by decide,trivial⟩⟩,by kernel_rfl⟩,(fun _=>by kernel_rfl),by decide⟩
theorem E14(cx:Cx)(h:cx.types=tys):RowOk prog cx 60 ⟨(.slice (.pair (.int .i64) (.pair (.int .i64) .unit))),96,24⟩ :=
 ⟨⟨t60,_,by kernel_rfl,by kernel_rfl,by kernel_rfl,rfl,by kernel_rfl⟩,⟨underlying60,⟨⟨(.pair (.int .i64) (.pair (.int .i64) .unit)),0,16⟩,by unfold Cx.row?; rw [h]; kernel_rfl,rfl⟩⟩,(fun h=>Bool.noConfusion h),by decide⟩
theorem E15(cx:Cx)(h:cx.types=tys):RowOk prog cx 62 ⟨(.slice (.pair (.int .i64) (.pair (.int .i64) (.pair (.int .i64) (.pair (.pair .bool (.pair (.pair tyV (.pair tyV .unit)) (.pair (.pair tyV (.pair tyV .unit)) .unit))) .unit))))),110,24⟩ :=
 ⟨⟨t62,_,by kernel_rfl,by kernel_rfl,by kernel_rfl,rfl,by kernel_rfl⟩,⟨underlying62,⟨⟨(.pair (.int .i64) (.pair (.int .i64) (.pair (.int .i64) (.pair (.pair .bool (.pair (.pair tyV (.pair tyV .unit)) (.pair (.pair tyV (.pair tyV .unit)) .unit))) .unit)))),0,192⟩,by unfold Cx.row?; rw [h]; kernel_rfl,rfl⟩⟩,(fun h=>Bool.noConfusion h),by decide⟩
theorem E16(cx:Cx)(h:cx.types=tys):RowOk prog cx 70 ⟨(.slice (.int .i64)),2,24⟩ :=
 ⟨⟨t70,_,by kernel_rfl,by kernel_rfl,by kernel_rfl,rfl,by kernel_rfl⟩,⟨underlying70,⟨⟨(.int .i64),0,8⟩,by unfold Cx.row?; rw [h]; kernel_rfl,rfl⟩⟩,(fun h=>Bool.noConfusion h),by decide⟩
theorem E17(cx:Cx)(h:cx.types=tys):RowOk prog cx 71 ⟨(.slice (.int .u64)),49,24⟩ :=
 ⟨⟨t71,_,by kernel_rfl,by kernel_rfl,by kernel_rfl,rfl,by kernel_rfl⟩,⟨underlying71,⟨⟨(.int .u64),0,8⟩,by unfold Cx.row?; rw [h]; kernel_rfl,rfl⟩⟩,(fun h=>Bool.noConfusion h),by decide⟩
theorem E18(cx:Cx)(h:cx.types=tys):RowOk prog cx 79 ⟨(.arr 4096 .bool),0,4096⟩ :=
 ⟨⟨t79,_,by kernel_rfl,by kernel_rfl,by kernel_rfl,rfl,by kernel_rfl⟩,⟨4,underlying79,⟨⟨.bool,0,1⟩,by unfold Cx.row?; rw [h]; kernel_rfl,rfl⟩⟩,(fun _=>by kernel_rfl),by decide⟩
theorem E19(cx:Cx)(h:cx.types=tys):RowOk prog cx 82 ⟨(.slice .bool),4,24⟩ :=
 ⟨⟨t82,_,by kernel_rfl,by kernel_rfl,by kernel_rfl,rfl,by kernel_rfl⟩,⟨underlying82,⟨⟨.bool,0,1⟩,by unfold Cx.row?; rw [h]; kernel_rfl,rfl⟩⟩,(fun h=>Bool.noConfusion h),by decide⟩
theorem E1a(cx:Cx)(h:cx.types=tys):RowOk prog cx 85 ⟨(.int .u64),0,8⟩ :=
 ⟨⟨t85,_,by kernel_rfl,by kernel_rfl,by kernel_rfl,rfl,by kernel_rfl⟩,underlying85,(fun h=>Bool.noConfusion h),by decide⟩
theorem E1b(cx:Cx)(h:cx.types=tys):RowOk prog cx 96 ⟨(.pair (.int .i64) (.pair (.int .i64) .unit)),0,16⟩ :=
 ⟨⟨t96,_,by kernel_rfl,by kernel_rfl,by kernel_rfl,rfl,by kernel_rfl⟩,⟨_,underlying96,⟨rfl,⟨⟨(.int .i64),0,8⟩,by unfold Cx.row?; rw [h]; kernel_rfl,rfl⟩,by decide,by decide,⟨rfl,⟨⟨(.int .i64),0,8⟩,by unfold Cx.row?; rw [h]; kernel_rfl,rfl⟩,by decide,by decide,trivial⟩⟩,by kernel_rfl⟩,(fun _=>by kernel_rfl),by decide⟩
theorem E1c(cx:Cx)(h:cx.types=tys):RowOk prog cx 98 ⟨(.pair .bool (.pair (.pair tyV (.pair tyV .unit)) (.pair (.pair tyV (.pair tyV .unit)) .unit))),0,168⟩ :=
 ⟨⟨t98,_,by kernel_rfl,by kernel_rfl,by kernel_rfl,rfl,by kernel_rfl⟩,⟨_,underlying98,⟨rfl,⟨⟨.bool,0,1⟩,by unfold Cx.row?; rw [h]; kernel_rfl,rfl⟩,by decide,by decide,⟨rfl,⟨⟨(.pair tyV (.pair tyV .unit)),0,80⟩,by unfold Cx.row?; rw [h]; kernel_rfl,rfl⟩,by decide,by decide,⟨rfl,⟨⟨(.pair tyV (.pair tyV .unit)),0,80⟩,by unfold Cx.row?; rw [h]; kernel_rfl,rfl⟩,by decide,by decide,trivial⟩⟩⟩,by kernel_rfl⟩,(fun _=>by kernel_rfl),by decide⟩
theorem D6l(cx:Cx)(h:cx.types=tys):RowOk prog cx 100 ⟨(.pair (.int .i64) (.pair (.int .i64) (.pair (.int .i64) (.pair (.pair (.int .i64) (.pair (.int .i64) .unit)) (.pair (.int .i64) (.pair (.int .i64) (.pair (.pair .bool (.pair (.pair tyV (.pair tyV .unit)) (.pair (.pair tyV (.pair tyV .unit)) .unit))) .unit))))))),0,224⟩ :=
 ⟨⟨t100,_,by kernel_rfl,by kernel_rfl,by kernel_rfl,rfl,by kernel_rfl⟩,⟨_,underlying100,⟨rfl,⟨⟨(.int .i64),0,8⟩,by unfold Cx.row?; rw [h]; kernel_rfl,rfl⟩,by decide,by decide,⟨rfl,⟨⟨(.int .i64),0,8⟩,by unfold Cx.row?; rw [h]; kernel_rfl,rfl⟩,by decide,by decide,⟨rfl,⟨⟨(.int .i64),0,8⟩,by unfold Cx.row?; rw [h]; kernel_rfl,rfl⟩,by decide,by decide,⟨rfl,⟨⟨(.pair (.int .i64) (.pair (.int .i64) .unit)),0,16⟩,by unfold Cx.row?; rw [h]; kernel_rfl,rfl⟩,by decide,by decide,⟨rfl,⟨⟨(.int .i64),0,8⟩,by unfold Cx.row?; rw [h]; kernel_rfl,rfl⟩,by decide,by decide,⟨rfl,⟨⟨(.int .i64),0,8⟩,by unfold Cx.row?; rw [h]; kernel_rfl,rfl⟩,by decide,by decide,⟨rfl,⟨⟨(.pair .bool (.pair (.pair tyV (.pair tyV .unit)) (.pair (.pair tyV (.pair tyV .unit)) .unit))),0,168⟩,by unfold Cx.row?; rw [h]; kernel_rfl,rfl⟩,by decide,by decide,trivial⟩⟩⟩⟩⟩⟩⟩,by kernel_rfl⟩,(fun _=>by kernel_rfl),by decide⟩
theorem D6m(cx:Cx)(h:cx.types=tys):RowOk prog cx 110 ⟨(.pair (.int .i64) (.pair (.int .i64) (.pair (.int .i64) (.pair (.pair .bool (.pair (.pair tyV (.pair tyV .unit)) (.pair (.pair tyV (.pair tyV .unit)) .unit))) .unit)))),0,192⟩ :=
 ⟨⟨t110,_,by kernel_rfl,by kernel_rfl,by kernel_rfl,rfl,by kernel_rfl⟩,⟨_,underlying110,⟨rfl,⟨⟨(.int .i64),0,8⟩,by unfold Cx.row?; rw [h]; kernel_rfl,rfl⟩,by decide,by decide,⟨rfl,⟨⟨(.int .i64),0,8⟩,by unfold Cx.row?; rw [h]; kernel_rfl,rfl⟩,by decide,by decide,⟨rfl,⟨⟨(.int .i64),0,8⟩,by unfold Cx.row?; rw [h]; kernel_rfl,rfl⟩,by decide,by decide,⟨rfl,⟨⟨(.pair .bool (.pair (.pair tyV (.pair tyV .unit)) (.pair (.pair tyV (.pair tyV .unit)) .unit))),0,168⟩,by unfold Cx.row?; rw [h]; kernel_rfl,rfl⟩,by decide,by decide,trivial⟩⟩⟩⟩,by kernel_rfl⟩,(fun _=>by kernel_rfl),by decide⟩
theorem D6n(cx:Cx)(h:cx.types=tys):RowOk prog cx 158 ⟨(.slice (.int .u64)),49,24⟩ :=
 ⟨⟨t158,_,by kernel_rfl,by kernel_rfl,by kernel_rfl,rfl,by kernel_rfl⟩,⟨underlying158,⟨⟨(.int .u64),0,8⟩,by unfold Cx.row?; rw [h]; kernel_rfl,rfl⟩⟩,(fun h=>Bool.noConfusion h),by decide⟩
theorem D6o(cx:Cx)(h:cx.types=tys):RowOk prog cx 167 ⟨(.arr 5 (.int .u64)),0,40⟩ :=
 ⟨⟨t167,_,by kernel_rfl,by kernel_rfl,by kernel_rfl,rfl,by kernel_rfl⟩,⟨49,underlying167,⟨⟨(.int .u64),0,8⟩,by unfold Cx.row?; rw [h]; kernel_rfl,rfl⟩⟩,(fun _=>by kernel_rfl),by decide⟩
theorem D6p(cx:Cx)(h:cx.types=tys):RowOk prog cx 175 ⟨(.arr 2 tyV),0,80⟩ :=
 ⟨⟨t175,_,by kernel_rfl,by kernel_rfl,by kernel_rfl,rfl,by kernel_rfl⟩,⟨52,underlying175,⟨⟨tyV,0,40⟩,by unfold Cx.row?; rw [h]; kernel_rfl,rfl⟩⟩,(fun _=>by kernel_rfl),by decide⟩
theorem D6q(cx:Cx)(h:cx.types=tys):RowOk prog cx 211 ⟨(.arr 8 (.int .u64)),0,64⟩ :=
 ⟨⟨t211,_,by kernel_rfl,by kernel_rfl,by kernel_rfl,rfl,by kernel_rfl⟩,⟨49,underlying211,⟨⟨(.int .u64),0,8⟩,by unfold Cx.row?; rw [h]; kernel_rfl,rfl⟩⟩,(fun _=>by kernel_rfl),by decide⟩
theorem H1(cx:Cx)(h:cx.types=tys):W6 prog cx:=B7Y h (C5 (E6i cx h) (C5 (E6j cx h) (C5 (E6k cx h) (C5 (E6l cx h) (C5 (E0T cx h) (C5 (E0U cx h) (C5 (E0V cx h) (C5 (E0W cx h) (C5 (E0X cx h) (C5 (E0Y cx h) (C5 (E0Z cx h) (C5 (E10 cx h) (C5 (E11 cx h) (C5 (E12 cx h) (C5 (E13 cx h) (C5 (E14 cx h) (C5 (E15 cx h) (C5 (E16 cx h) (C5 (E17 cx h) (C5 (E18 cx h) (C5 (E19 cx h) (C5 (E1a cx h) (C5 (E1b cx h) (C5 (E1c cx h) (C5 (D6l cx h) (C5 (D6m cx h) (C5 (D6n cx h) (C5 (D6o cx h) (C5 (D6p cx h) (C5 (D6q cx h) B2G))))))))))))))))))))))))))))))
theorem mix:prog.follows .mixedOrders=true:=by kernel_rfl
abbrev A1:Ty:=.int .i64
abbrev A6:Ty:=.int .u64
abbrev I6:Ty:=.int .u8
abbrev C1:Ty:=.slice (.int .u64)
abbrev G1:Ty:=.slice (.int .i64)
abbrev C6:Ty:=.slice (.int .u8)
abbrev E4:Ty:=.pair tyV (.pair tyV .unit)
abbrev D5:Ty:=.pair A1 (.pair E4 (.pair G1 .unit))
abbrev E0:Ty:=.pair .bool (.pair E4 (.pair E4 .unit))
abbrev F2:Ty:=.pair G1 (.pair A1 .unit)
abbrev S0:Ty:=.pair A1 (.pair A1 .unit)
abbrev A8(x:Cx):Prop:=∀ f c,x.call f=some c→A5D prog f c
abbrev B2(c:List (Nat×Contract))(o:List Nat)(n:Nat×Nat):Cx:={types:=tys,call:=A4c c,own:=o,ntmps:=n}
abbrev C8(s:Sig):=Nat→Option (Hint (B14 s.rtys))
abbrev B8(s:A4):=∀{R:Type},A4.den s→(Ex→St→Option R)→Option R
abbrev D2(s:Sig)(f:Func)(fr:Frm)(p:List Nat)(sh:A4)(m:A4.den sh→(Ex→St→Option (B14 s.rtys))→Option (B14 s.rtys)):Prop:=A48 prog fr (.loop (sub (A7 f) p)) sh m
abbrev L9(s:Sig)(f:Func)(fr:Frm)(p:List Nat)(sh:A4)(m:A4.den sh→(Ex→St→Option (B14 s.rtys))→Option (B14 s.rtys)):Prop:=A48 prog fr (sub (A7 f) p) sh m
theorem B3{cx:Cx}{f:FuncId}{fn:Func}{sg:Sig}{model:A4.den sg.sh→Option (B14 sg.rtys)}(hs js:C8 sg)(ht:cx.types=tys)(hf:prog.funcs[f]? =some fn)(h:(fn.body,(fn.name != "runtime.NumGoroutine"),cx.ntmps.2,A9H sg cx.ntmps)=(some (A7 fn),true,fn.ntmps,true))(hc:A8 cx)(ho:∀ fr:Frm,cx.ntmps=fr.n→HOk prog fr hs js (A7 fn))(hr:∀ x,model x=run cx hs js (A7 fn) (C7U sg cx.ntmps.1 x) (D5Y cx sg fn.results.toList)):CSound prog f (C0 sg model) :=
 B2F hf (congrArg (·.1) h) (congrArg (·.2.1) h) (H1 cx ht) hc mix (congrArg (·.2.2.1) h) (congrArg (·.2.2.2) h) ho hr
theorem D4{R:Type}{cx:Cx}(hs js:Nat→Option (Hint R))(outs:I0){fr:Frm}{c:Code}{sh:A4}{m:Nat→A4.den sh→(Ex→St→Option R)→Option R}(ht:cx.types=tys)(hc:A8 cx)(hn:cx.ntmps=fr.n)(h0:∀ x K,m 0 x K=none)(hm:∀ n x K,m (n+1) x K=run cx hs js c (enc sh x) (C3O sh outs (m n) K))(ho:HOk prog fr hs js c)(n:Nat):A48 prog fr (.loop c) sh (m n) :=
 B1u (H1 cx ht) hc hn mix h0 hm ho n
theorem N5{R:Type}{cx:Cx}(hs js:Nat→Option (Hint R))(outs:I0){fr:Frm}{c:Code}{sh:A4}{m:A4.den sh→(Ex→St→Option R)→Option R}(ht:cx.types=tys)(hc:A8 cx)(hn:cx.ntmps=fr.n)(hm:∀ x K,m x K=run cx hs js c (enc sh x) (D66 outs K))(ho:HOk prog fr hs js c):A48 prog fr c sh m :=
 C2q (H1 cx ht) hc hn mix hm ho
theorem B0{R:Type}{fr:Frm}{hs js:Nat→Option (Hint R)}{c:Code}(h:C7Q hs js c=[]):HOk prog fr hs js c:=C3 h B6
abbrev E51{R:Type}{fr:Frm}{c:Code}{sh:A4}{m:A4.den sh→(Ex→St→Option R)→Option R}{l:List (Code×Hint R)}(h:A48 prog fr c sh m)(hl:B1y prog fr l):B1y prog fr ((c,⟨sh,m⟩)::l):=A9 h hl
def B7m:List (Nat×TyRow):=[(2,⟨(.int .i64),0,8⟩),(3,⟨(.int .i64),0,8⟩),(4,⟨.bool,0,1⟩),(5,⟨(.int .u8),0,1⟩),(22,⟨(.slice (.pair (.int .i64) (.pair (.pair tyV (.pair tyV .unit)) (.pair .nil .unit)))),56,24⟩),(23,⟨.nil,3,24⟩),(30,⟨(.slice (.int .u8)),5,24⟩),(31,⟨(.int .i64),0,8⟩),(49,⟨(.int .u64),0,8⟩),(50,⟨(.arr 4 (.int .u64)),0,32⟩),(52,⟨tyV,0,40⟩),(54,⟨(.pair tyV (.pair tyV .unit)),0,80⟩),(56,⟨(.pair (.int .i64) (.pair (.pair tyV (.pair tyV .unit)) (.pair .nil .unit))),0,112⟩),(70,⟨(.slice (.int .i64)),2,24⟩)]
theorem E1d(cx:Cx)(h:cx.types=B7m):RowOk prog cx 2 ⟨(.int .i64),0,8⟩ :=
 ⟨⟨t2,_,by kernel_rfl,by kernel_rfl,by kernel_rfl,rfl,by kernel_rfl⟩,underlying2,(fun h=>Bool.noConfusion h),by decide⟩
theorem E1e(cx:Cx)(h:cx.types=B7m):RowOk prog cx 3 ⟨(.int .i64),0,8⟩ :=
 ⟨⟨t3,_,by kernel_rfl,by kernel_rfl,by kernel_rfl,rfl,by kernel_rfl⟩,underlying3,(fun h=>Bool.noConfusion h),by decide⟩
theorem E1f(cx:Cx)(h:cx.types=B7m):RowOk prog cx 4 ⟨.bool,0,1⟩ :=
 ⟨⟨t4,_,by kernel_rfl,by kernel_rfl,by kernel_rfl,rfl,by kernel_rfl⟩,underlying4,(fun h=>Bool.noConfusion h),by decide⟩
theorem E1g(cx:Cx)(h:cx.types=B7m):RowOk prog cx 5 ⟨(.int .u8),0,1⟩ :=
 ⟨⟨t5,_,by kernel_rfl,by kernel_rfl,by kernel_rfl,rfl,by kernel_rfl⟩,underlying5,(fun h=>Bool.noConfusion h),by decide⟩
theorem D6r(cx:Cx)(h:cx.types=B7m):RowOk prog cx 22 ⟨(.slice (.pair (.int .i64) (.pair (.pair tyV (.pair tyV .unit)) (.pair .nil .unit)))),56,24⟩ :=
 ⟨⟨t22,_,by kernel_rfl,by kernel_rfl,by kernel_rfl,rfl,by kernel_rfl⟩,⟨underlying22,⟨⟨(.pair (.int .i64) (.pair (.pair tyV (.pair tyV .unit)) (.pair .nil .unit))),0,112⟩,by unfold Cx.row?; rw [h]; kernel_rfl,rfl⟩⟩,(fun h=>Bool.noConfusion h),by decide⟩
theorem D6s(cx:Cx)(h:cx.types=B7m):RowOk prog cx 23 ⟨.nil,3,24⟩ :=
 ⟨⟨t23,_,by kernel_rfl,by kernel_rfl,by kernel_rfl,rfl,by kernel_rfl⟩,underlying23,(fun h=>Bool.noConfusion h),by decide⟩
theorem D6t(cx:Cx)(h:cx.types=B7m):RowOk prog cx 30 ⟨(.slice (.int .u8)),5,24⟩ :=
 ⟨⟨t30,_,by kernel_rfl,by kernel_rfl,by kernel_rfl,rfl,by kernel_rfl⟩,⟨underlying30,⟨⟨(.int .u8),0,1⟩,by unfold Cx.row?; rw [h]; kernel_rfl,rfl⟩⟩,(fun h=>Bool.noConfusion h),by decide⟩
theorem D6u(cx:Cx)(h:cx.types=B7m):RowOk prog cx 31 ⟨(.int .i64),0,8⟩ :=
 ⟨⟨t31,_,by kernel_rfl,by kernel_rfl,by kernel_rfl,rfl,by kernel_rfl⟩,underlying31,(fun h=>Bool.noConfusion h),by decide⟩
theorem D6v(cx:Cx)(h:cx.types=B7m):RowOk prog cx 49 ⟨(.int .u64),0,8⟩ :=
 ⟨⟨t49,_,by kernel_rfl,by kernel_rfl,by kernel_rfl,rfl,by kernel_rfl⟩,underlying49,(fun h=>Bool.noConfusion h),by decide⟩
theorem D6w(cx:Cx)(h:cx.types=B7m):RowOk prog cx 50 ⟨(.arr 4 (.int .u64)),0,32⟩ :=
 ⟨⟨t50,_,by kernel_rfl,by kernel_rfl,by kernel_rfl,rfl,by kernel_rfl⟩,⟨49,underlying50,⟨⟨(.int .u64),0,8⟩,by unfold Cx.row?; rw [h]; kernel_rfl,rfl⟩⟩,(fun _=>by kernel_rfl),by decide⟩
theorem D6x(cx:Cx)(h:cx.types=B7m):RowOk prog cx 52 ⟨tyV,0,40⟩ :=
 ⟨⟨t52,_,by kernel_rfl,by kernel_rfl,by kernel_rfl,rfl,by kernel_rfl⟩,⟨_,underlying52,⟨rfl,⟨⟨.bool,0,1⟩,by unfold Cx.row?; rw [h]; kernel_rfl,rfl⟩,by decide,by decide,⟨rfl,⟨⟨(.arr 4 (.int .u64)),0,32⟩,by unfold Cx.row?; rw [h]; kernel_rfl,rfl⟩,by decide,by decide,trivial⟩⟩,by kernel_rfl⟩,(fun _=>by kernel_rfl),by decide⟩
theorem D6y(cx:Cx)(h:cx.types=B7m):RowOk prog cx 54 ⟨(.pair tyV (.pair tyV .unit)),0,80⟩ :=
 ⟨⟨t54,_,by kernel_rfl,by kernel_rfl,by kernel_rfl,rfl,by kernel_rfl⟩,⟨_,underlying54,⟨rfl,⟨⟨tyV,0,40⟩,by unfold Cx.row?; rw [h]; kernel_rfl,rfl⟩,by decide,by decide,⟨rfl,⟨⟨tyV,0,40⟩,by unfold Cx.row?; rw [h]; kernel_rfl,rfl⟩,by decide,by decide,trivial⟩⟩,by kernel_rfl⟩,(fun _=>by kernel_rfl),by decide⟩
theorem D6z(cx:Cx)(h:cx.types=B7m):RowOk prog cx 56 ⟨(.pair (.int .i64) (.pair (.pair tyV (.pair tyV .unit)) (.pair .nil .unit))),0,112⟩ :=
 ⟨⟨t56,_,by kernel_rfl,by kernel_rfl,by kernel_rfl,rfl,by kernel_rfl⟩,⟨_,underlying56,⟨rfl,⟨⟨(.int .i64),0,8⟩,by unfold Cx.row?; rw [h]; kernel_rfl,rfl⟩,by decide,by decide,⟨rfl,⟨⟨(.pair tyV (.pair tyV .unit)),0,80⟩,by unfold Cx.row?; rw [h]; kernel_rfl,rfl⟩,by decide,by decide,⟨rfl,⟨⟨.nil,3,24⟩,by unfold Cx.row?; rw [h]; kernel_rfl,rfl⟩,by decide,by decide,trivial⟩⟩⟩,by kernel_rfl⟩,(fun _=>by kernel_rfl),by decide⟩
theorem D6A(cx:Cx)(h:cx.types=B7m):RowOk prog cx 70 ⟨(.slice (.int .i64)),2,24⟩ :=
 ⟨⟨t70,_,by kernel_rfl,by kernel_rfl,by kernel_rfl,rfl,by kernel_rfl⟩,⟨underlying70,⟨⟨(.int .i64),0,8⟩,by unfold Cx.row?; rw [h]; kernel_rfl,rfl⟩⟩,(fun h=>Bool.noConfusion h),by decide⟩
theorem B5E(cx:Cx)(h:cx.types=B7m):W6 prog cx:=B7Y h (C5 (E1d cx h) (C5 (E1e cx h) (C5 (E1f cx h) (C5 (E1g cx h) (C5 (D6r cx h) (C5 (D6s cx h) (C5 (D6t cx h) (C5 (D6u cx h) (C5 (D6v cx h) (C5 (D6w cx h) (C5 (D6x cx h) (C5 (D6y cx h) (C5 (D6z cx h) (C5 (D6A cx h) B2G))))))))))))))
def C2B:List (Nat×TyRow):=[(2,⟨(.int .i64),0,8⟩),(3,⟨(.int .i64),0,8⟩),(4,⟨.bool,0,1⟩),(22,⟨(.slice (.pair (.int .i64) (.pair (.pair tyV (.pair tyV .unit)) (.pair .val .unit)))),56,24⟩),(23,⟨.val,3,24⟩),(49,⟨(.int .u64),0,8⟩),(50,⟨(.arr 4 (.int .u64)),0,32⟩),(52,⟨tyV,0,40⟩),(54,⟨(.pair tyV (.pair tyV .unit)),0,80⟩),(56,⟨(.pair (.int .i64) (.pair (.pair tyV (.pair tyV .unit)) (.pair .val .unit))),0,112⟩)]
theorem E1h(cx:Cx)(h:cx.types=C2B):RowOk prog cx 2 ⟨(.int .i64),0,8⟩ :=
 ⟨⟨t2,_,by kernel_rfl,by kernel_rfl,by kernel_rfl,rfl,by kernel_rfl⟩,underlying2,(fun h=>Bool.noConfusion h),by decide⟩
theorem E1i(cx:Cx)(h:cx.types=C2B):RowOk prog cx 3 ⟨(.int .i64),0,8⟩ :=
 ⟨⟨t3,_,by kernel_rfl,by kernel_rfl,by kernel_rfl,rfl,by kernel_rfl⟩,underlying3,(fun h=>Bool.noConfusion h),by decide⟩
theorem E1j(cx:Cx)(h:cx.types=C2B):RowOk prog cx 4 ⟨.bool,0,1⟩ :=
 ⟨⟨t4,_,by kernel_rfl,by kernel_rfl,by kernel_rfl,rfl,by kernel_rfl⟩,underlying4,(fun h=>Bool.noConfusion h),by decide⟩
theorem D6B(cx:Cx)(h:cx.types=C2B):RowOk prog cx 22 ⟨(.slice (.pair (.int .i64) (.pair (.pair tyV (.pair tyV .unit)) (.pair .val .unit)))),56,24⟩ :=
 ⟨⟨t22,_,by kernel_rfl,by kernel_rfl,by kernel_rfl,rfl,by kernel_rfl⟩,⟨underlying22,⟨⟨(.pair (.int .i64) (.pair (.pair tyV (.pair tyV .unit)) (.pair .val .unit))),0,112⟩,by unfold Cx.row?; rw [h]; kernel_rfl,rfl⟩⟩,(fun h=>Bool.noConfusion h),by decide⟩
theorem D6C(cx:Cx)(h:cx.types=C2B):RowOk prog cx 23 ⟨.val,3,24⟩ :=
 ⟨⟨t23,_,by kernel_rfl,by kernel_rfl,by kernel_rfl,rfl,by kernel_rfl⟩,underlying23,(fun h=>Bool.noConfusion h),by decide⟩
theorem D6D(cx:Cx)(h:cx.types=C2B):RowOk prog cx 49 ⟨(.int .u64),0,8⟩ :=
 ⟨⟨t49,_,by kernel_rfl,by kernel_rfl,by kernel_rfl,rfl,by kernel_rfl⟩,underlying49,(fun h=>Bool.noConfusion h),by decide⟩
theorem D6E(cx:Cx)(h:cx.types=C2B):RowOk prog cx 50 ⟨(.arr 4 (.int .u64)),0,32⟩ :=
 ⟨⟨t50,_,by kernel_rfl,by kernel_rfl,by kernel_rfl,rfl,by kernel_rfl⟩,⟨49,underlying50,⟨⟨(.int .u64),0,8⟩,by unfold Cx.row?; rw [h]; kernel_rfl,rfl⟩⟩,(fun _=>by kernel_rfl),by decide⟩
theorem D6F(cx:Cx)(h:cx.types=C2B):RowOk prog cx 52 ⟨tyV,0,40⟩ :=
 ⟨⟨t52,_,by kernel_rfl,by kernel_rfl,by kernel_rfl,rfl,by kernel_rfl⟩,⟨_,underlying52,⟨rfl,⟨⟨.bool,0,1⟩,by unfold Cx.row?; rw [h]; kernel_rfl,rfl⟩,by decide,by decide,⟨rfl,⟨⟨(.arr 4 (.int .u64)),0,32⟩,by unfold Cx.row?; rw [h]; kernel_rfl,rfl⟩,by decide,by decide,trivial⟩⟩,by kernel_rfl⟩,(fun _=>by kernel_rfl),by decide⟩
theorem D6G(cx:Cx)(h:cx.types=C2B):RowOk prog cx 54 ⟨(.pair tyV (.pair tyV .unit)),0,80⟩ :=
 ⟨⟨t54,_,by kernel_rfl,by kernel_rfl,by kernel_rfl,rfl,by kernel_rfl⟩,⟨_,underlying54,⟨rfl,⟨⟨tyV,0,40⟩,by unfold Cx.row?; rw [h]; kernel_rfl,rfl⟩,by decide,by decide,⟨rfl,⟨⟨tyV,0,40⟩,by unfold Cx.row?; rw [h]; kernel_rfl,rfl⟩,by decide,by decide,trivial⟩⟩,by kernel_rfl⟩,(fun _=>by kernel_rfl),by decide⟩
theorem D6H(cx:Cx)(h:cx.types=C2B):RowOk prog cx 56 ⟨(.pair (.int .i64) (.pair (.pair tyV (.pair tyV .unit)) (.pair .val .unit))),0,112⟩ :=
 ⟨⟨t56,_,by kernel_rfl,by kernel_rfl,by kernel_rfl,rfl,by kernel_rfl⟩,⟨_,underlying56,⟨rfl,⟨⟨(.int .i64),0,8⟩,by unfold Cx.row?; rw [h]; kernel_rfl,rfl⟩,by decide,by decide,⟨rfl,⟨⟨(.pair tyV (.pair tyV .unit)),0,80⟩,by unfold Cx.row?; rw [h]; kernel_rfl,rfl⟩,by decide,by decide,⟨rfl,⟨⟨.val,3,24⟩,by unfold Cx.row?; rw [h]; kernel_rfl,rfl⟩,by decide,by decide,trivial⟩⟩⟩,by kernel_rfl⟩,(fun _=>by kernel_rfl),by decide⟩
theorem K3(cx:Cx)(h:cx.types=C2B):W6 prog cx:=B7Y h (C5 (E1h cx h) (C5 (E1i cx h) (C5 (E1j cx h) (C5 (D6B cx h) (C5 (D6C cx h) (C5 (D6D cx h) (C5 (D6E cx h) (C5 (D6F cx h) (C5 (D6G cx h) (C5 (D6H cx h) B2G))))))))))
end Go.Proofs.YtdhfajmcakneiaaGreat
