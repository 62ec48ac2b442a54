/- The tables of types. Written by program. -/
import Derived.Test.YtdhfajmcakneiaaGreatModels
import Derived.Test.YtdhfajmcakneiaaGreatLibA
import Derived.Test.YtdhfajmcakneiaaGreatLibB
set_option linter.unusedVariables false
set_option linter.unusedSimpArgs false
namespace Go.Proofs.YtdhfajmcakneiaaGreat
open Go.Eng
abbrev tyV:Ty:=.pair .bool (.pair (.arr 4 (.int .u64)) .unit)
def tys:List (Nat×TyRow):=[(2,⟨(.int .i64),0,8⟩),(3,⟨(.int .i64),0,8⟩),(4,⟨.bool,0,1⟩),(5,⟨(.int .u8),0,1⟩),(22,⟨(.slice (.pair (.int .i64) (.pair (.pair tyV (.pair tyV .unit)) (.pair (.slice (.int .i64)) .unit)))),56,24⟩),(23,⟨(.slice (.int .i64)),3,24⟩),(30,⟨(.slice (.int .u8)),5,24⟩),(31,⟨(.int .i64),0,8⟩),(49,⟨(.int .u64),0,8⟩),(50,⟨(.arr 4 (.int .u64)),0,32⟩),(52,⟨tyV,0,40⟩),(54,⟨(.pair tyV (.pair tyV .unit)),0,80⟩),(56,⟨(.pair (.int .i64) (.pair (.pair tyV (.pair tyV .unit)) (.pair (.slice (.int .i64)) .unit))),0,112⟩),(59,⟨(.pair (.slice (.int .i64)) (.pair (.int .i64) .unit)),0,32⟩),(60,⟨(.slice (.pair (.int .i64) (.pair (.int .i64) .unit))),96,24⟩),(62,⟨(.slice (.pair (.int .i64) (.pair (.int .i64) (.pair (.int .i64) (.pair (.pair .bool (.pair (.pair tyV (.pair tyV .unit)) (.pair (.pair tyV (.pair tyV .unit)) .unit))) .unit))))),110,24⟩),(70,⟨(.slice (.int .i64)),2,24⟩),(71,⟨(.slice (.int .u64)),49,24⟩),(79,⟨(.arr 4096 .bool),0,4096⟩),(85,⟨(.int .u64),0,8⟩),(96,⟨(.pair (.int .i64) (.pair (.int .i64) .unit)),0,16⟩),(98,⟨(.pair .bool (.pair (.pair tyV (.pair tyV .unit)) (.pair (.pair tyV (.pair tyV .unit)) .unit))),0,168⟩),(100,⟨(.pair (.int .i64) (.pair (.int .i64) (.pair (.int .i64) (.pair (.pair (.int .i64) (.pair (.int .i64) .unit)) (.pair (.int .i64) (.pair (.int .i64) (.pair (.pair .bool (.pair (.pair tyV (.pair tyV .unit)) (.pair (.pair tyV (.pair tyV .unit)) .unit))) .unit))))))),0,224⟩),(110,⟨(.pair (.int .i64) (.pair (.int .i64) (.pair (.int .i64) (.pair (.pair .bool (.pair (.pair tyV (.pair tyV .unit)) (.pair (.pair tyV (.pair tyV .unit)) .unit))) .unit)))),0,192⟩),(158,⟨(.slice (.int .u64)),49,24⟩),(167,⟨(.arr 5 (.int .u64)),0,40⟩),(175,⟨(.arr 2 tyV),0,80⟩),(211,⟨(.arr 8 (.int .u64)),0,64⟩)]
theorem row2(cx:Cx)(h:cx.types=tys):RowOk Tryz.prog cx 2 ⟨(.int .i64),0,8⟩ :=
 ⟨⟨Tryz.t2,_,by kernel_rfl,by kernel_rfl,by kernel_rfl,rfl,by kernel_rfl⟩,Tryz.underlying2,(fun h=>Bool.noConfusion h),by decide⟩
theorem row3(cx:Cx)(h:cx.types=tys):RowOk Tryz.prog cx 3 ⟨(.int .i64),0,8⟩ :=
 ⟨⟨Tryz.t3,_,by kernel_rfl,by kernel_rfl,by kernel_rfl,rfl,by kernel_rfl⟩,Tryz.underlying3,(fun h=>Bool.noConfusion h),by decide⟩
theorem row4(cx:Cx)(h:cx.types=tys):RowOk Tryz.prog cx 4 ⟨.bool,0,1⟩ :=
 ⟨⟨Tryz.t4,_,by kernel_rfl,by kernel_rfl,by kernel_rfl,rfl,by kernel_rfl⟩,Tryz.underlying4,(fun h=>Bool.noConfusion h),by decide⟩
theorem row5(cx:Cx)(h:cx.types=tys):RowOk Tryz.prog cx 5 ⟨(.int .u8),0,1⟩ :=
 ⟨⟨Tryz.t5,_,by kernel_rfl,by kernel_rfl,by kernel_rfl,rfl,by kernel_rfl⟩,Tryz.underlying5,(fun h=>Bool.noConfusion h),by decide⟩
theorem row22(cx:Cx)(h:cx.types=tys):RowOk Tryz.prog cx 22 ⟨(.slice (.pair (.int .i64) (.pair (.pair tyV (.pair tyV .unit)) (.pair (.slice (.int .i64)) .unit)))),56,24⟩ :=
 ⟨⟨Tryz.t22,_,by kernel_rfl,by kernel_rfl,by kernel_rfl,rfl,by kernel_rfl⟩,⟨Tryz.underlying22,⟨⟨(.pair (.int .i64) (.pair (.pair tyV (.pair tyV .unit)) (.pair (.slice (.int .i64)) .unit))),0,112⟩,by unfold Cx.row?; rw [h]; kernel_rfl,rfl⟩⟩,(fun h=>Bool.noConfusion h),by decide⟩
theorem row23(cx:Cx)(h:cx.types=tys):RowOk Tryz.prog cx 23 ⟨(.slice (.int .i64)),3,24⟩ :=
 ⟨⟨Tryz.t23,_,by kernel_rfl,by kernel_rfl,by kernel_rfl,rfl,by kernel_rfl⟩,⟨Tryz.underlying23,⟨⟨(.int .i64),0,8⟩,by unfold Cx.row?; rw [h]; kernel_rfl,rfl⟩⟩,(fun h=>Bool.noConfusion h),by decide⟩
theorem row30(cx:Cx)(h:cx.types=tys):RowOk Tryz.prog cx 30 ⟨(.slice (.int .u8)),5,24⟩ :=
 ⟨⟨Tryz.t30,_,by kernel_rfl,by kernel_rfl,by kernel_rfl,rfl,by kernel_rfl⟩,⟨Tryz.underlying30,⟨⟨(.int .u8),0,1⟩,by unfold Cx.row?; rw [h]; kernel_rfl,rfl⟩⟩,(fun h=>Bool.noConfusion h),by decide⟩
theorem row31(cx:Cx)(h:cx.types=tys):RowOk Tryz.prog cx 31 ⟨(.int .i64),0,8⟩ :=
 ⟨⟨Tryz.t31,_,by kernel_rfl,by kernel_rfl,by kernel_rfl,rfl,by kernel_rfl⟩,Tryz.underlying31,(fun h=>Bool.noConfusion h),by decide⟩
theorem row49(cx:Cx)(h:cx.types=tys):RowOk Tryz.prog cx 49 ⟨(.int .u64),0,8⟩ :=
 ⟨⟨Tryz.t49,_,by kernel_rfl,by kernel_rfl,by kernel_rfl,rfl,by kernel_rfl⟩,Tryz.underlying49,(fun h=>Bool.noConfusion h),by decide⟩
theorem row50(cx:Cx)(h:cx.types=tys):RowOk Tryz.prog cx 50 ⟨(.arr 4 (.int .u64)),0,32⟩ :=
 ⟨⟨Tryz.t50,_,by kernel_rfl,by kernel_rfl,by kernel_rfl,rfl,by kernel_rfl⟩,⟨49,Tryz.underlying50,⟨⟨(.int .u64),0,8⟩,by unfold Cx.row?; rw [h]; kernel_rfl,rfl⟩⟩,(fun _=>by kernel_rfl),by decide⟩
theorem row52(cx:Cx)(h:cx.types=tys):RowOk Tryz.prog cx 52 ⟨tyV,0,40⟩ :=
 ⟨⟨Tryz.t52,_,by kernel_rfl,by kernel_rfl,by kernel_rfl,rfl,by kernel_rfl⟩,⟨_,Tryz.underlying52,⟨rfl,⟨⟨.bool,0,1⟩,by unfold Cx.row?; rw [h]; kernel_rfl,rfl⟩,by decide,by decide,⟨rfl,⟨⟨(.arr 4 (.int .u64)),0,32⟩,by unfold Cx.row?; rw [h]; kernel_rfl,rfl⟩,by decide,by decide,trivial⟩⟩,by kernel_rfl⟩,(fun _=>by kernel_rfl),by decide⟩
theorem row54(cx:Cx)(h:cx.types=tys):RowOk Tryz.prog cx 54 ⟨(.pair tyV (.pair tyV .unit)),0,80⟩ :=
 ⟨⟨Tryz.t54,_,by kernel_rfl,by kernel_rfl,by kernel_rfl,rfl,by kernel_rfl⟩,⟨_,Tryz.underlying54,⟨rfl,⟨⟨tyV,0,40⟩,by unfold Cx.row?; rw [h]; kernel_rfl,rfl⟩,by decide,by decide,⟨rfl,⟨⟨tyV,0,40⟩,by unfold Cx.row?; rw [h]; kernel_rfl,rfl⟩,by decide,by decide,trivial⟩⟩,by kernel_rfl⟩,(fun _=>by kernel_rfl),by decide⟩
theorem row56(cx:Cx)(h:cx.types=tys):RowOk Tryz.prog cx 56 ⟨(.pair (.int .i64) (.pair (.pair tyV (.pair tyV .unit)) (.pair (.slice (.int .i64)) .unit))),0,112⟩ :=
 ⟨⟨Tryz.t56,_,by kernel_rfl,by kernel_rfl,by kernel_rfl,rfl,by kernel_rfl⟩,⟨_,Tryz.underlying56,⟨rfl,⟨⟨(.int .i64),0,8⟩,by unfold Cx.row?; rw [h]; kernel_rfl,rfl⟩,by decide,by decide,⟨rfl,⟨⟨(.pair tyV (.pair tyV .unit)),0,80⟩,by unfold Cx.row?; rw [h]; kernel_rfl,rfl⟩,by decide,by decide,⟨rfl,⟨⟨(.slice (.int .i64)),3,24⟩,by unfold Cx.row?; rw [h]; kernel_rfl,rfl⟩,by decide,by decide,trivial⟩⟩⟩,by kernel_rfl⟩,(fun _=>by kernel_rfl),by decide⟩
theorem row59(cx:Cx)(h:cx.types=tys):RowOk Tryz.prog cx 59 ⟨(.pair (.slice (.int .i64)) (.pair (.int .i64) .unit)),0,32⟩ :=
 ⟨⟨Tryz.t59,_,by kernel_rfl,by kernel_rfl,by kernel_rfl,rfl,by kernel_rfl⟩,⟨_,Tryz.underlying59,⟨rfl,⟨⟨(.slice (.int .i64)),3,24⟩,by unfold Cx.row?; rw [h]; kernel_rfl,rfl⟩,by decide,by decide,⟨rfl,⟨⟨(.int .i64),0,8⟩,by unfold Cx.row?; rw [h]; kernel_rfl,rfl⟩,by decide,by decide,trivial⟩⟩,by kernel_rfl⟩,(fun _=>by kernel_rfl),by decide⟩
theorem row60(cx:Cx)(h:cx.types=tys):RowOk Tryz.prog cx 60 ⟨(.slice (.pair (.int .i64) (.pair (.int .i64) .unit))),96,24⟩ :=
 ⟨⟨Tryz.t60,_,by kernel_rfl,by kernel_rfl,by kernel_rfl,rfl,by kernel_rfl⟩,⟨Tryz.underlying60,⟨⟨(.pair (.int .i64) (.pair (.int .i64) .unit)),0,16⟩,by unfold Cx.row?; rw [h]; kernel_rfl,rfl⟩⟩,(fun h=>Bool.noConfusion h),by decide⟩
theorem row62(cx:Cx)(h:cx.types=tys):RowOk Tryz.prog cx 62 ⟨(.slice (.pair (.int .i64) (.pair (.int .i64) (.pair (.int .i64) (.pair (.pair .bool (.pair (.pair tyV (.pair tyV .unit)) (.pair (.pair tyV (.pair tyV .unit)) .unit))) .unit))))),110,24⟩ :=
 ⟨⟨Tryz.t62,_,by kernel_rfl,by kernel_rfl,by kernel_rfl,rfl,by kernel_rfl⟩,⟨Tryz.underlying62,⟨⟨(.pair (.int .i64) (.pair (.int .i64) (.pair (.int .i64) (.pair (.pair .bool (.pair (.pair tyV (.pair tyV .unit)) (.pair (.pair tyV (.pair tyV .unit)) .unit))) .unit)))),0,192⟩,by unfold Cx.row?; rw [h]; kernel_rfl,rfl⟩⟩,(fun h=>Bool.noConfusion h),by decide⟩
theorem row70(cx:Cx)(h:cx.types=tys):RowOk Tryz.prog cx 70 ⟨(.slice (.int .i64)),2,24⟩ :=
 ⟨⟨Tryz.t70,_,by kernel_rfl,by kernel_rfl,by kernel_rfl,rfl,by kernel_rfl⟩,⟨Tryz.underlying70,⟨⟨(.int .i64),0,8⟩,by unfold Cx.row?; rw [h]; kernel_rfl,rfl⟩⟩,(fun h=>Bool.noConfusion h),by decide⟩
theorem row71(cx:Cx)(h:cx.types=tys):RowOk Tryz.prog cx 71 ⟨(.slice (.int .u64)),49,24⟩ :=
 ⟨⟨Tryz.t71,_,by kernel_rfl,by kernel_rfl,by kernel_rfl,rfl,by kernel_rfl⟩,⟨Tryz.underlying71,⟨⟨(.int .u64),0,8⟩,by unfold Cx.row?; rw [h]; kernel_rfl,rfl⟩⟩,(fun h=>Bool.noConfusion h),by decide⟩
theorem row79(cx:Cx)(h:cx.types=tys):RowOk Tryz.prog cx 79 ⟨(.arr 4096 .bool),0,4096⟩ :=
 ⟨⟨Tryz.t79,_,by kernel_rfl,by kernel_rfl,by kernel_rfl,rfl,by kernel_rfl⟩,⟨4,Tryz.underlying79,⟨⟨.bool,0,1⟩,by unfold Cx.row?; rw [h]; kernel_rfl,rfl⟩⟩,(fun _=>by kernel_rfl),by decide⟩
theorem row85(cx:Cx)(h:cx.types=tys):RowOk Tryz.prog cx 85 ⟨(.int .u64),0,8⟩ :=
 ⟨⟨Tryz.t85,_,by kernel_rfl,by kernel_rfl,by kernel_rfl,rfl,by kernel_rfl⟩,Tryz.underlying85,(fun h=>Bool.noConfusion h),by decide⟩
theorem row96(cx:Cx)(h:cx.types=tys):RowOk Tryz.prog cx 96 ⟨(.pair (.int .i64) (.pair (.int .i64) .unit)),0,16⟩ :=
 ⟨⟨Tryz.t96,_,by kernel_rfl,by kernel_rfl,by kernel_rfl,rfl,by kernel_rfl⟩,⟨_,Tryz.underlying96,⟨rfl,⟨⟨(.int .i64),0,8⟩,by unfold Cx.row?; rw [h]; kernel_rfl,rfl⟩,by decide,by decide,⟨rfl,⟨⟨(.int .i64),0,8⟩,by unfold Cx.row?; rw [h]; kernel_rfl,rfl⟩,by decide,by decide,trivial⟩⟩,by kernel_rfl⟩,(fun _=>by kernel_rfl),by decide⟩
theorem row98(cx:Cx)(h:cx.types=tys):RowOk Tryz.prog cx 98 ⟨(.pair .bool (.pair (.pair tyV (.pair tyV .unit)) (.pair (.pair tyV (.pair tyV .unit)) .unit))),0,168⟩ :=
 ⟨⟨Tryz.t98,_,by kernel_rfl,by kernel_rfl,by kernel_rfl,rfl,by kernel_rfl⟩,⟨_,Tryz.underlying98,⟨rfl,⟨⟨.bool,0,1⟩,by unfold Cx.row?; rw [h]; kernel_rfl,rfl⟩,by decide,by decide,⟨rfl,⟨⟨(.pair tyV (.pair tyV .unit)),0,80⟩,by unfold Cx.row?; rw [h]; kernel_rfl,rfl⟩,by decide,by decide,⟨rfl,⟨⟨(.pair tyV (.pair tyV .unit)),0,80⟩,by unfold Cx.row?; rw [h]; kernel_rfl,rfl⟩,by decide,by decide,trivial⟩⟩⟩,by kernel_rfl⟩,(fun _=>by kernel_rfl),by decide⟩
theorem row100(cx:Cx)(h:cx.types=tys):RowOk Tryz.prog cx 100 ⟨(.pair (.int .i64) (.pair (.int .i64) (.pair (.int .i64) (.pair (.pair (.int .i64) (.pair (.int .i64) .unit)) (.pair (.int .i64) (.pair (.int .i64) (.pair (.pair .bool (.pair (.pair tyV (.pair tyV .unit)) (.pair (.pair tyV (.pair tyV .unit)) .unit))) .unit))))))),0,224⟩ :=
 ⟨⟨Tryz.t100,_,by kernel_rfl,by kernel_rfl,by kernel_rfl,rfl,by kernel_rfl⟩,⟨_,Tryz.underlying100,⟨rfl,⟨⟨(.int .i64),0,8⟩,by unfold Cx.row?; rw [h]; kernel_rfl,rfl⟩,by decide,by decide,⟨rfl,⟨⟨(.int .i64),0,8⟩,by unfold Cx.row?; rw [h]; kernel_rfl,rfl⟩,by decide,by decide,⟨rfl,⟨⟨(.int .i64),0,8⟩,by unfold Cx.row?; rw [h]; kernel_rfl,rfl⟩,by decide,by decide,⟨rfl,⟨⟨(.pair (.int .i64) (.pair (.int .i64) .unit)),0,16⟩,by unfold Cx.row?; rw [h]; kernel_rfl,rfl⟩,by decide,by decide,⟨rfl,⟨⟨(.int .i64),0,8⟩,by unfold Cx.row?; rw [h]; kernel_rfl,rfl⟩,by decide,by decide,⟨rfl,⟨⟨(.int .i64),0,8⟩,by unfold Cx.row?; rw [h]; kernel_rfl,rfl⟩,by decide,by decide,⟨rfl,⟨⟨(.pair .bool (.pair (.pair tyV (.pair tyV .unit)) (.pair (.pair tyV (.pair tyV .unit)) .unit))),0,168⟩,by unfold Cx.row?; rw [h]; kernel_rfl,rfl⟩,by decide,by decide,trivial⟩⟩⟩⟩⟩⟩⟩,by kernel_rfl⟩,(fun _=>by kernel_rfl),by decide⟩
theorem row110(cx:Cx)(h:cx.types=tys):RowOk Tryz.prog cx 110 ⟨(.pair (.int .i64) (.pair (.int .i64) (.pair (.int .i64) (.pair (.pair .bool (.pair (.pair tyV (.pair tyV .unit)) (.pair (.pair tyV (.pair tyV .unit)) .unit))) .unit)))),0,192⟩ :=
 ⟨⟨Tryz.t110,_,by kernel_rfl,by kernel_rfl,by kernel_rfl,rfl,by kernel_rfl⟩,⟨_,Tryz.underlying110,⟨rfl,⟨⟨(.int .i64),0,8⟩,by unfold Cx.row?; rw [h]; kernel_rfl,rfl⟩,by decide,by decide,⟨rfl,⟨⟨(.int .i64),0,8⟩,by unfold Cx.row?; rw [h]; kernel_rfl,rfl⟩,by decide,by decide,⟨rfl,⟨⟨(.int .i64),0,8⟩,by unfold Cx.row?; rw [h]; kernel_rfl,rfl⟩,by decide,by decide,⟨rfl,⟨⟨(.pair .bool (.pair (.pair tyV (.pair tyV .unit)) (.pair (.pair tyV (.pair tyV .unit)) .unit))),0,168⟩,by unfold Cx.row?; rw [h]; kernel_rfl,rfl⟩,by decide,by decide,trivial⟩⟩⟩⟩,by kernel_rfl⟩,(fun _=>by kernel_rfl),by decide⟩
theorem row158(cx:Cx)(h:cx.types=tys):RowOk Tryz.prog cx 158 ⟨(.slice (.int .u64)),49,24⟩ :=
 ⟨⟨Tryz.t158,_,by kernel_rfl,by kernel_rfl,by kernel_rfl,rfl,by kernel_rfl⟩,⟨Tryz.underlying158,⟨⟨(.int .u64),0,8⟩,by unfold Cx.row?; rw [h]; kernel_rfl,rfl⟩⟩,(fun h=>Bool.noConfusion h),by decide⟩
theorem row167(cx:Cx)(h:cx.types=tys):RowOk Tryz.prog cx 167 ⟨(.arr 5 (.int .u64)),0,40⟩ :=
 ⟨⟨Tryz.t167,_,by kernel_rfl,by kernel_rfl,by kernel_rfl,rfl,by kernel_rfl⟩,⟨49,Tryz.underlying167,⟨⟨(.int .u64),0,8⟩,by unfold Cx.row?; rw [h]; kernel_rfl,rfl⟩⟩,(fun _=>by kernel_rfl),by decide⟩
theorem row175(cx:Cx)(h:cx.types=tys):RowOk Tryz.prog cx 175 ⟨(.arr 2 tyV),0,80⟩ :=
 ⟨⟨Tryz.t175,_,by kernel_rfl,by kernel_rfl,by kernel_rfl,rfl,by kernel_rfl⟩,⟨52,Tryz.underlying175,⟨⟨tyV,0,40⟩,by unfold Cx.row?; rw [h]; kernel_rfl,rfl⟩⟩,(fun _=>by kernel_rfl),by decide⟩
theorem row211(cx:Cx)(h:cx.types=tys):RowOk Tryz.prog cx 211 ⟨(.arr 8 (.int .u64)),0,64⟩ :=
 ⟨⟨Tryz.t211,_,by kernel_rfl,by kernel_rfl,by kernel_rfl,rfl,by kernel_rfl⟩,⟨49,Tryz.underlying211,⟨⟨(.int .u64),0,8⟩,by unfold Cx.row?; rw [h]; kernel_rfl,rfl⟩⟩,(fun _=>by kernel_rfl),by decide⟩
theorem conf_all(cx:Cx)(h:cx.types=tys):Conf Tryz.prog cx:=conf_of h (rows_cons (row2 cx h) (rows_cons (row3 cx h) (rows_cons (row4 cx h) (rows_cons (row5 cx h) (rows_cons (row22 cx h) (rows_cons (row23 cx h) (rows_cons (row30 cx h) (rows_cons (row31 cx h) (rows_cons (row49 cx h) (rows_cons (row50 cx h) (rows_cons (row52 cx h) (rows_cons (row54 cx h) (rows_cons (row56 cx h) (rows_cons (row59 cx h) (rows_cons (row60 cx h) (rows_cons (row62 cx h) (rows_cons (row70 cx h) (rows_cons (row71 cx h) (rows_cons (row79 cx h) (rows_cons (row85 cx h) (rows_cons (row96 cx h) (rows_cons (row98 cx h) (rows_cons (row100 cx h) (rows_cons (row110 cx h) (rows_cons (row158 cx h) (rows_cons (row167 cx h) (rows_cons (row175 cx h) (rows_cons (row211 cx h) rows_nil))))))))))))))))))))))))))))
theorem mix:Tryz.prog.follows .mixedOrders=true:=by kernel_rfl
def tysN:List (Nat×TyRow):=[(2,⟨(.int .i64),0,8⟩),(3,⟨(.int .i64),0,8⟩),(4,⟨.bool,0,1⟩),(5,⟨(.int .u8),0,1⟩),(22,⟨(.slice (.pair (.int .i64) (.pair (.pair tyV (.pair tyV .unit)) (.pair .nil .unit)))),56,24⟩),(23,⟨.nil,3,24⟩),(30,⟨(.slice (.int .u8)),5,24⟩),(31,⟨(.int .i64),0,8⟩),(49,⟨(.int .u64),0,8⟩),(50,⟨(.arr 4 (.int .u64)),0,32⟩),(52,⟨tyV,0,40⟩),(54,⟨(.pair tyV (.pair tyV .unit)),0,80⟩),(56,⟨(.pair (.int .i64) (.pair (.pair tyV (.pair tyV .unit)) (.pair .nil .unit))),0,112⟩),(70,⟨(.slice (.int .i64)),2,24⟩)]
theorem rowN2(cx:Cx)(h:cx.types=tysN):RowOk Tryz.prog cx 2 ⟨(.int .i64),0,8⟩ :=
 ⟨⟨Tryz.t2,_,by kernel_rfl,by kernel_rfl,by kernel_rfl,rfl,by kernel_rfl⟩,Tryz.underlying2,(fun h=>Bool.noConfusion h),by decide⟩
theorem rowN3(cx:Cx)(h:cx.types=tysN):RowOk Tryz.prog cx 3 ⟨(.int .i64),0,8⟩ :=
 ⟨⟨Tryz.t3,_,by kernel_rfl,by kernel_rfl,by kernel_rfl,rfl,by kernel_rfl⟩,Tryz.underlying3,(fun h=>Bool.noConfusion h),by decide⟩
theorem rowN4(cx:Cx)(h:cx.types=tysN):RowOk Tryz.prog cx 4 ⟨.bool,0,1⟩ :=
 ⟨⟨Tryz.t4,_,by kernel_rfl,by kernel_rfl,by kernel_rfl,rfl,by kernel_rfl⟩,Tryz.underlying4,(fun h=>Bool.noConfusion h),by decide⟩
theorem rowN5(cx:Cx)(h:cx.types=tysN):RowOk Tryz.prog cx 5 ⟨(.int .u8),0,1⟩ :=
 ⟨⟨Tryz.t5,_,by kernel_rfl,by kernel_rfl,by kernel_rfl,rfl,by kernel_rfl⟩,Tryz.underlying5,(fun h=>Bool.noConfusion h),by decide⟩
theorem rowN22(cx:Cx)(h:cx.types=tysN):RowOk Tryz.prog cx 22 ⟨(.slice (.pair (.int .i64) (.pair (.pair tyV (.pair tyV .unit)) (.pair .nil .unit)))),56,24⟩ :=
 ⟨⟨Tryz.t22,_,by kernel_rfl,by kernel_rfl,by kernel_rfl,rfl,by kernel_rfl⟩,⟨Tryz.underlying22,⟨⟨(.pair (.int .i64) (.pair (.pair tyV (.pair tyV .unit)) (.pair .nil .unit))),0,112⟩,by unfold Cx.row?; rw [h]; kernel_rfl,rfl⟩⟩,(fun h=>Bool.noConfusion h),by decide⟩
theorem rowN23(cx:Cx)(h:cx.types=tysN):RowOk Tryz.prog cx 23 ⟨.nil,3,24⟩ :=
 ⟨⟨Tryz.t23,_,by kernel_rfl,by kernel_rfl,by kernel_rfl,rfl,by kernel_rfl⟩,Tryz.underlying23,(fun h=>Bool.noConfusion h),by decide⟩
theorem rowN30(cx:Cx)(h:cx.types=tysN):RowOk Tryz.prog cx 30 ⟨(.slice (.int .u8)),5,24⟩ :=
 ⟨⟨Tryz.t30,_,by kernel_rfl,by kernel_rfl,by kernel_rfl,rfl,by kernel_rfl⟩,⟨Tryz.underlying30,⟨⟨(.int .u8),0,1⟩,by unfold Cx.row?; rw [h]; kernel_rfl,rfl⟩⟩,(fun h=>Bool.noConfusion h),by decide⟩
theorem rowN31(cx:Cx)(h:cx.types=tysN):RowOk Tryz.prog cx 31 ⟨(.int .i64),0,8⟩ :=
 ⟨⟨Tryz.t31,_,by kernel_rfl,by kernel_rfl,by kernel_rfl,rfl,by kernel_rfl⟩,Tryz.underlying31,(fun h=>Bool.noConfusion h),by decide⟩
theorem rowN49(cx:Cx)(h:cx.types=tysN):RowOk Tryz.prog cx 49 ⟨(.int .u64),0,8⟩ :=
 ⟨⟨Tryz.t49,_,by kernel_rfl,by kernel_rfl,by kernel_rfl,rfl,by kernel_rfl⟩,Tryz.underlying49,(fun h=>Bool.noConfusion h),by decide⟩
theorem rowN50(cx:Cx)(h:cx.types=tysN):RowOk Tryz.prog cx 50 ⟨(.arr 4 (.int .u64)),0,32⟩ :=
 ⟨⟨Tryz.t50,_,by kernel_rfl,by kernel_rfl,by kernel_rfl,rfl,by kernel_rfl⟩,⟨49,Tryz.underlying50,⟨⟨(.int .u64),0,8⟩,by unfold Cx.row?; rw [h]; kernel_rfl,rfl⟩⟩,(fun _=>by kernel_rfl),by decide⟩
theorem rowN52(cx:Cx)(h:cx.types=tysN):RowOk Tryz.prog cx 52 ⟨tyV,0,40⟩ :=
 ⟨⟨Tryz.t52,_,by kernel_rfl,by kernel_rfl,by kernel_rfl,rfl,by kernel_rfl⟩,⟨_,Tryz.underlying52,⟨rfl,⟨⟨.bool,0,1⟩,by unfold Cx.row?; rw [h]; kernel_rfl,rfl⟩,by decide,by decide,⟨rfl,⟨⟨(.arr 4 (.int .u64)),0,32⟩,by unfold Cx.row?; rw [h]; kernel_rfl,rfl⟩,by decide,by decide,trivial⟩⟩,by kernel_rfl⟩,(fun _=>by kernel_rfl),by decide⟩
theorem rowN54(cx:Cx)(h:cx.types=tysN):RowOk Tryz.prog cx 54 ⟨(.pair tyV (.pair tyV .unit)),0,80⟩ :=
 ⟨⟨Tryz.t54,_,by kernel_rfl,by kernel_rfl,by kernel_rfl,rfl,by kernel_rfl⟩,⟨_,Tryz.underlying54,⟨rfl,⟨⟨tyV,0,40⟩,by unfold Cx.row?; rw [h]; kernel_rfl,rfl⟩,by decide,by decide,⟨rfl,⟨⟨tyV,0,40⟩,by unfold Cx.row?; rw [h]; kernel_rfl,rfl⟩,by decide,by decide,trivial⟩⟩,by kernel_rfl⟩,(fun _=>by kernel_rfl),by decide⟩
theorem rowN56(cx:Cx)(h:cx.types=tysN):RowOk Tryz.prog cx 56 ⟨(.pair (.int .i64) (.pair (.pair tyV (.pair tyV .unit)) (.pair .nil .unit))),0,112⟩ :=
 ⟨⟨Tryz.t56,_,by kernel_rfl,by kernel_rfl,by kernel_rfl,rfl,by kernel_rfl⟩,⟨_,Tryz.underlying56,⟨rfl,⟨⟨(.int .i64),0,8⟩,by unfold Cx.row?; rw [h]; kernel_rfl,rfl⟩,by decide,by decide,⟨rfl,⟨⟨(.pair tyV (.pair tyV .unit)),0,80⟩,by unfold Cx.row?; rw [h]; kernel_rfl,rfl⟩,by decide,by decide,⟨rfl,⟨⟨.nil,3,24⟩,by unfold Cx.row?; rw [h]; kernel_rfl,rfl⟩,by decide,by decide,trivial⟩⟩⟩,by kernel_rfl⟩,(fun _=>by kernel_rfl),by decide⟩
theorem rowN70(cx:Cx)(h:cx.types=tysN):RowOk Tryz.prog cx 70 ⟨(.slice (.int .i64)),2,24⟩ :=
 ⟨⟨Tryz.t70,_,by kernel_rfl,by kernel_rfl,by kernel_rfl,rfl,by kernel_rfl⟩,⟨Tryz.underlying70,⟨⟨(.int .i64),0,8⟩,by unfold Cx.row?; rw [h]; kernel_rfl,rfl⟩⟩,(fun h=>Bool.noConfusion h),by decide⟩
theorem confN_all(cx:Cx)(h:cx.types=tysN):Conf Tryz.prog cx:=conf_of h (rows_cons (rowN2 cx h) (rows_cons (rowN3 cx h) (rows_cons (rowN4 cx h) (rows_cons (rowN5 cx h) (rows_cons (rowN22 cx h) (rows_cons (rowN23 cx h) (rows_cons (rowN30 cx h) (rows_cons (rowN31 cx h) (rows_cons (rowN49 cx h) (rows_cons (rowN50 cx h) (rows_cons (rowN52 cx h) (rows_cons (rowN54 cx h) (rows_cons (rowN56 cx h) (rows_cons (rowN70 cx h) rows_nil))))))))))))))
def tysV:List (Nat×TyRow):=[(2,⟨(.int .i64),0,8⟩),(3,⟨(.int .i64),0,8⟩),(4,⟨.bool,0,1⟩),(22,⟨(.slice (.pair (.int .i64) (.pair (.pair tyV (.pair tyV .unit)) (.pair .val .unit)))),56,24⟩),(23,⟨.val,3,24⟩),(49,⟨(.int .u64),0,8⟩),(50,⟨(.arr 4 (.int .u64)),0,32⟩),(52,⟨tyV,0,40⟩),(54,⟨(.pair tyV (.pair tyV .unit)),0,80⟩),(56,⟨(.pair (.int .i64) (.pair (.pair tyV (.pair tyV .unit)) (.pair .val .unit))),0,112⟩)]
theorem rowV2(cx:Cx)(h:cx.types=tysV):RowOk Tryz.prog cx 2 ⟨(.int .i64),0,8⟩ :=
 ⟨⟨Tryz.t2,_,by kernel_rfl,by kernel_rfl,by kernel_rfl,rfl,by kernel_rfl⟩,Tryz.underlying2,(fun h=>Bool.noConfusion h),by decide⟩
theorem rowV3(cx:Cx)(h:cx.types=tysV):RowOk Tryz.prog cx 3 ⟨(.int .i64),0,8⟩ :=
 ⟨⟨Tryz.t3,_,by kernel_rfl,by kernel_rfl,by kernel_rfl,rfl,by kernel_rfl⟩,Tryz.underlying3,(fun h=>Bool.noConfusion h),by decide⟩
theorem rowV4(cx:Cx)(h:cx.types=tysV):RowOk Tryz.prog cx 4 ⟨.bool,0,1⟩ :=
 ⟨⟨Tryz.t4,_,by kernel_rfl,by kernel_rfl,by kernel_rfl,rfl,by kernel_rfl⟩,Tryz.underlying4,(fun h=>Bool.noConfusion h),by decide⟩
theorem rowV22(cx:Cx)(h:cx.types=tysV):RowOk Tryz.prog cx 22 ⟨(.slice (.pair (.int .i64) (.pair (.pair tyV (.pair tyV .unit)) (.pair .val .unit)))),56,24⟩ :=
 ⟨⟨Tryz.t22,_,by kernel_rfl,by kernel_rfl,by kernel_rfl,rfl,by kernel_rfl⟩,⟨Tryz.underlying22,⟨⟨(.pair (.int .i64) (.pair (.pair tyV (.pair tyV .unit)) (.pair .val .unit))),0,112⟩,by unfold Cx.row?; rw [h]; kernel_rfl,rfl⟩⟩,(fun h=>Bool.noConfusion h),by decide⟩
theorem rowV23(cx:Cx)(h:cx.types=tysV):RowOk Tryz.prog cx 23 ⟨.val,3,24⟩ :=
 ⟨⟨Tryz.t23,_,by kernel_rfl,by kernel_rfl,by kernel_rfl,rfl,by kernel_rfl⟩,Tryz.underlying23,(fun h=>Bool.noConfusion h),by decide⟩
theorem rowV49(cx:Cx)(h:cx.types=tysV):RowOk Tryz.prog cx 49 ⟨(.int .u64),0,8⟩ :=
 ⟨⟨Tryz.t49,_,by kernel_rfl,by kernel_rfl,by kernel_rfl,rfl,by kernel_rfl⟩,Tryz.underlying49,(fun h=>Bool.noConfusion h),by decide⟩
theorem rowV50(cx:Cx)(h:cx.types=tysV):RowOk Tryz.prog cx 50 ⟨(.arr 4 (.int .u64)),0,32⟩ :=
 ⟨⟨Tryz.t50,_,by kernel_rfl,by kernel_rfl,by kernel_rfl,rfl,by kernel_rfl⟩,⟨49,Tryz.underlying50,⟨⟨(.int .u64),0,8⟩,by unfold Cx.row?; rw [h]; kernel_rfl,rfl⟩⟩,(fun _=>by kernel_rfl),by decide⟩
theorem rowV52(cx:Cx)(h:cx.types=tysV):RowOk Tryz.prog cx 52 ⟨tyV,0,40⟩ :=
 ⟨⟨Tryz.t52,_,by kernel_rfl,by kernel_rfl,by kernel_rfl,rfl,by kernel_rfl⟩,⟨_,Tryz.underlying52,⟨rfl,⟨⟨.bool,0,1⟩,by unfold Cx.row?; rw [h]; kernel_rfl,rfl⟩,by decide,by decide,⟨rfl,⟨⟨(.arr 4 (.int .u64)),0,32⟩,by unfold Cx.row?; rw [h]; kernel_rfl,rfl⟩,by decide,by decide,trivial⟩⟩,by kernel_rfl⟩,(fun _=>by kernel_rfl),by decide⟩
theorem rowV54(cx:Cx)(h:cx.types=tysV):RowOk Tryz.prog cx 54 ⟨(.pair tyV (.pair tyV .unit)),0,80⟩ :=
 ⟨⟨Tryz.t54,_,by kernel_rfl,by kernel_rfl,by kernel_rfl,rfl,by kernel_rfl⟩,⟨_,Tryz.underlying54,⟨rfl,⟨⟨tyV,0,40⟩,by unfold Cx.row?; rw [h]; kernel_rfl,rfl⟩,by decide,by decide,⟨rfl,⟨⟨tyV,0,40⟩,by unfold Cx.row?; rw [h]; kernel_rfl,rfl⟩,by decide,by decide,trivial⟩⟩,by kernel_rfl⟩,(fun _=>by kernel_rfl),by decide⟩
theorem rowV56(cx:Cx)(h:cx.types=tysV):RowOk Tryz.prog cx 56 ⟨(.pair (.int .i64) (.pair (.pair tyV (.pair tyV .unit)) (.pair .val .unit))),0,112⟩ :=
 ⟨⟨Tryz.t56,_,by kernel_rfl,by kernel_rfl,by kernel_rfl,rfl,by kernel_rfl⟩,⟨_,Tryz.underlying56,⟨rfl,⟨⟨(.int .i64),0,8⟩,by unfold Cx.row?; rw [h]; kernel_rfl,rfl⟩,by decide,by decide,⟨rfl,⟨⟨(.pair tyV (.pair tyV .unit)),0,80⟩,by unfold Cx.row?; rw [h]; kernel_rfl,rfl⟩,by decide,by decide,⟨rfl,⟨⟨.val,3,24⟩,by unfold Cx.row?; rw [h]; kernel_rfl,rfl⟩,by decide,by decide,trivial⟩⟩⟩,by kernel_rfl⟩,(fun _=>by kernel_rfl),by decide⟩
theorem confV_all(cx:Cx)(h:cx.types=tysV):Conf Tryz.prog cx:=conf_of h (rows_cons (rowV2 cx h) (rows_cons (rowV3 cx h) (rows_cons (rowV4 cx h) (rows_cons (rowV22 cx h) (rows_cons (rowV23 cx h) (rows_cons (rowV49 cx h) (rows_cons (rowV50 cx h) (rows_cons (rowV52 cx h) (rows_cons (rowV54 cx h) (rows_cons (rowV56 cx h) rows_nil))))))))))
end Go.Proofs.YtdhfajmcakneiaaGreat
