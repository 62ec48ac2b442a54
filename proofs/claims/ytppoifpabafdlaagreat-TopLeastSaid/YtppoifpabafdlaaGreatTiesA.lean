/- That the code computes the models. Written by program. -/
import Derived.Test.YtppoifpabafdlaaGreatModels
import Derived.Test.YtppoifpabafdlaaGreatLibA
import Derived.Test.YtppoifpabafdlaaGreatLibB
import Derived.Test.YtppoifpabafdlaaGreatDv
set_option linter.unusedVariables false
set_option linter.unusedSimpArgs false
namespace Go.Proofs.YtppoifpabafdlaaGreat
open Go.Eng Tryz
abbrev tyV:Ty:=.pair .bool (.pair (.arr 4 (.int .u64)) .unit)
def tys : List (Nat × TyRow) := [(2, ⟨(.int .i64), 0, 8, []⟩), (3, ⟨(.int .i64), 0, 8, []⟩), (4, ⟨.bool, 0, 1, []⟩), (5, ⟨(.int .u8), 0, 1, []⟩), (22, ⟨(.slice (.int .i64)), 3, 24, []⟩), (25, ⟨(.slice (.pair (.int .i64) (.pair (.int .i64) .unit))), 38, 24, []⟩), (28, ⟨(.slice (.int .u8)), 5, 24, []⟩), (29, ⟨(.int .i64), 0, 8, []⟩), (38, ⟨(.pair (.int .i64) (.pair (.int .i64) .unit)), 0, 16, []⟩), (40, ⟨(.slice (.pair (.int .i64) (.pair (.int .i64) .unit))), 126, 24, []⟩), (43, ⟨(.slice (.int .i64)), 2, 24, []⟩), (55, ⟨(.int .u64), 0, 8, []⟩), (56, ⟨(.arr 4 (.int .u64)), 0, 32, []⟩), (58, ⟨tyV, 0, 40, []⟩), (70, ⟨(.pair (.int .i64) (.pair (.int .i64) (.pair (.int .i64) (.pair (.int .i64) (.pair (.int .i64) .unit))))), 0, 40, []⟩), (80, ⟨(.pair (.int .i64) (.pair (.int .i64) (.pair (.int .i64) (.pair (.int .i64) (.pair (.int .i64) .unit))))), 0, 40, []⟩), (101, ⟨(.pair (.slice (.int .i64)) (.pair (.int .i64) .unit)), 0, 32, []⟩), (103, ⟨(.int .u64), 0, 8, []⟩), (105, ⟨.ifc, 0, 16, []⟩), (117, ⟨(.pair (.int .i64) (.pair (.int .i64) (.pair (.int .i64) (.pair (.int .i64) .unit)))), 0, 32, []⟩), (120, ⟨.fnc, 0, 8, []⟩), (121, ⟨.fnc, 0, 8, []⟩), (123, ⟨(.pair .fnc (.pair .fnc .unit)), 0, 16, []⟩), (126, ⟨(.pair (.int .i64) (.pair (.int .i64) .unit)), 0, 16, []⟩), (128, ⟨.fnc, 0, 8, []⟩), (143, ⟨(.slice (.int .u64)), 55, 24, []⟩), (182, ⟨.unit, 0, 0, []⟩), (183, ⟨.unit, 0, 0, []⟩), (184, ⟨.unit, 0, 0, []⟩), (186, ⟨(.pair .unit .unit), 0, 0, [("tscodec/chunk.decode", 415, .unit), ("tscodec/chunk.encode", 420, (.pair .unit .unit))]⟩), (187, ⟨(.pair .unit .unit), 0, 0, [("tscodec/chunk.decode", 415, .unit), ("tscodec/chunk.encode", 421, (.pair .unit .unit))]⟩), (188, ⟨.unit, 0, 0, []⟩), (225, ⟨(.int .u32), 0, 4, []⟩), (240, ⟨(.pair tyV (.pair tyV .unit)), 0, 80, []⟩), (270, ⟨.ptr, 0, 8, []⟩), (271, ⟨(.slice .ptr), 270, 24, []⟩), (281, ⟨(.arr 8 (.int .u64)), 0, 64, []⟩), (309, ⟨(.arr 256 (.int .u32)), 0, 1024, []⟩), (312, ⟨(.arr 5 (.int .u64)), 0, 40, []⟩), (340, ⟨(.pair .bool (.pair (.pair tyV (.pair tyV .unit)) (.pair (.pair tyV (.pair tyV .unit)) .unit))), 0, 168, []⟩), (355, ⟨(.pair (.int .i64) (.pair (.int .i64) (.pair (.int .i64) (.pair (.int .i64) (.pair tyV .unit))))), 0, 72, []⟩), (438, ⟨.fnc, 0, 8, []⟩), (439, ⟨.fnc, 0, 8, []⟩), (441, ⟨(.pair .fnc (.pair .fnc .unit)), 0, 16, []⟩)]
theorem D9L(cx:Cx)(h:cx.types=tys):RowOk prog cx 2 ⟨(.int .i64),0,8,[]⟩ :=
 ⟨⟨t2,_,by kernel_rfl,by kernel_rfl,by kernel_rfl,rfl,by kernel_rfl⟩,underlying2,(fun h=>Bool.noConfusion h),by decide,(fun _ h=>by cases h)⟩
theorem D9N(cx:Cx)(h:cx.types=tys):RowOk prog cx 3 ⟨(.int .i64),0,8,[]⟩ :=
 ⟨⟨t3,_,by kernel_rfl,by kernel_rfl,by kernel_rfl,rfl,by kernel_rfl⟩,underlying3,(fun h=>Bool.noConfusion h),by decide,(fun _ h=>by cases h)⟩
theorem D9O(cx:Cx)(h:cx.types=tys):RowOk prog cx 4 ⟨.bool,0,1,[]⟩ :=
 ⟨⟨t4,_,by kernel_rfl,by kernel_rfl,by kernel_rfl,rfl,by kernel_rfl⟩,underlying4,(fun h=>Bool.noConfusion h),by decide,(fun _ h=>by cases h)⟩
theorem D9P(cx:Cx)(h:cx.types=tys):RowOk prog cx 5 ⟨(.int .u8),0,1,[]⟩ :=
 ⟨⟨t5,_,by kernel_rfl,by kernel_rfl,by kernel_rfl,rfl,by kernel_rfl⟩,underlying5,(fun h=>Bool.noConfusion h),by decide,(fun _ h=>by cases h)⟩
theorem D54(cx:Cx)(h:cx.types=tys):RowOk prog cx 22 ⟨(.slice (.int .i64)),3,24,[]⟩ :=
 ⟨⟨t22,_,by kernel_rfl,by kernel_rfl,by kernel_rfl,rfl,by kernel_rfl⟩,⟨underlying22,⟨⟨(.int .i64),0,8,[]⟩,by unfold Cx.row?; rw [h]; kernel_rfl,rfl⟩⟩,(fun h=>Bool.noConfusion h),by decide,(fun _ h=>by cases h)⟩
theorem D55(cx:Cx)(h:cx.types=tys):RowOk prog cx 25 ⟨(.slice (.pair (.int .i64) (.pair (.int .i64) .unit))),38,24,[]⟩ :=
 ⟨⟨t25,_,by kernel_rfl,by kernel_rfl,by kernel_rfl,rfl,by kernel_rfl⟩,⟨underlying25,⟨⟨(.pair (.int .i64) (.pair (.int .i64) .unit)),0,16,[]⟩,by unfold Cx.row?; rw [h]; kernel_rfl,rfl⟩⟩,(fun h=>Bool.noConfusion h),by decide,(fun _ h=>by cases h)⟩
theorem D56(cx:Cx)(h:cx.types=tys):RowOk prog cx 28 ⟨(.slice (.int .u8)),5,24,[]⟩ :=
 ⟨⟨t28,_,by kernel_rfl,by kernel_rfl,by kernel_rfl,rfl,by kernel_rfl⟩,⟨underlying28,⟨⟨(.int .u8),0,1,[]⟩,by unfold Cx.row?; rw [h]; kernel_rfl,rfl⟩⟩,(fun h=>Bool.noConfusion h),by decide,(fun _ h=>by cases h)⟩
theorem D57(cx:Cx)(h:cx.types=tys):RowOk prog cx 29 ⟨(.int .i64),0,8,[]⟩ :=
 ⟨⟨t29,_,by kernel_rfl,by kernel_rfl,by kernel_rfl,rfl,by kernel_rfl⟩,underlying29,(fun h=>Bool.noConfusion h),by decide,(fun _ h=>by cases h)⟩
theorem D58(cx:Cx)(h:cx.types=tys):RowOk prog cx 38 ⟨(.pair (.int .i64) (.pair (.int .i64) .unit)),0,16,[]⟩ :=
 ⟨⟨t38,_,by kernel_rfl,by kernel_rfl,by kernel_rfl,rfl,by kernel_rfl⟩,⟨_,underlying38,⟨rfl,⟨⟨(.int .i64),0,8,[]⟩,by unfold Cx.row?; rw [h]; kernel_rfl,rfl⟩,by decide,⟨rfl,⟨⟨(.int .i64),0,8,[]⟩,by unfold Cx.row?; rw [h]; kernel_rfl,rfl⟩,by decide,trivial⟩⟩,by kernel_rfl⟩,(fun _=>by kernel_rfl),by decide,(fun _ h=>by cases h)⟩
theorem D59(cx:Cx)(h:cx.types=tys):RowOk prog cx 40 ⟨(.slice (.pair (.int .i64) (.pair (.int .i64) .unit))),126,24,[]⟩ :=
 ⟨⟨t40,_,by kernel_rfl,by kernel_rfl,by kernel_rfl,rfl,by kernel_rfl⟩,⟨underlying40,⟨⟨(.pair (.int .i64) (.pair (.int .i64) .unit)),0,16,[]⟩,by unfold Cx.row?; rw [h]; kernel_rfl,rfl⟩⟩,(fun h=>Bool.noConfusion h),by decide,(fun _ h=>by cases h)⟩
theorem D5a(cx:Cx)(h:cx.types=tys):RowOk prog cx 43 ⟨(.slice (.int .i64)),2,24,[]⟩ :=
 ⟨⟨t43,_,by kernel_rfl,by kernel_rfl,by kernel_rfl,rfl,by kernel_rfl⟩,⟨underlying43,⟨⟨(.int .i64),0,8,[]⟩,by unfold Cx.row?; rw [h]; kernel_rfl,rfl⟩⟩,(fun h=>Bool.noConfusion h),by decide,(fun _ h=>by cases h)⟩
theorem D5b(cx:Cx)(h:cx.types=tys):RowOk prog cx 55 ⟨(.int .u64),0,8,[]⟩ :=
 ⟨⟨t55,_,by kernel_rfl,by kernel_rfl,by kernel_rfl,rfl,by kernel_rfl⟩,underlying55,(fun h=>Bool.noConfusion h),by decide,(fun _ h=>by cases h)⟩
theorem D5c(cx:Cx)(h:cx.types=tys):RowOk prog cx 56 ⟨(.arr 4 (.int .u64)),0,32,[]⟩ :=
 ⟨⟨t56,_,by kernel_rfl,by kernel_rfl,by kernel_rfl,rfl,by kernel_rfl⟩,⟨55,underlying56,⟨⟨(.int .u64),0,8,[]⟩,by unfold Cx.row?; rw [h]; kernel_rfl,rfl⟩⟩,(fun _=>by kernel_rfl),by decide,(fun _ h=>by cases h)⟩
theorem D5d(cx:Cx)(h:cx.types=tys):RowOk prog cx 58 ⟨tyV,0,40,[]⟩ :=
 ⟨⟨t58,_,by kernel_rfl,by kernel_rfl,by kernel_rfl,rfl,by kernel_rfl⟩,⟨_,underlying58,⟨rfl,⟨⟨.bool,0,1,[]⟩,by unfold Cx.row?; rw [h]; kernel_rfl,rfl⟩,by decide,⟨rfl,⟨⟨(.arr 4 (.int .u64)),0,32,[]⟩,by unfold Cx.row?; rw [h]; kernel_rfl,rfl⟩,by decide,trivial⟩⟩,by kernel_rfl⟩,(fun _=>by kernel_rfl),by decide,(fun _ h=>by cases h)⟩
theorem D5e(cx:Cx)(h:cx.types=tys):RowOk prog cx 70 ⟨(.pair (.int .i64) (.pair (.int .i64) (.pair (.int .i64) (.pair (.int .i64) (.pair (.int .i64) .unit))))),0,40,[]⟩ :=
 ⟨⟨t70,_,by kernel_rfl,by kernel_rfl,by kernel_rfl,rfl,by kernel_rfl⟩,⟨_,underlying70,⟨rfl,⟨⟨(.int .i64),0,8,[]⟩,by unfold Cx.row?; rw [h]; kernel_rfl,rfl⟩,by decide,⟨rfl,⟨⟨(.int .i64),0,8,[]⟩,by unfold Cx.row?; rw [h]; kernel_rfl,rfl⟩,by decide,⟨rfl,⟨⟨(.int .i64),0,8,[]⟩,by unfold Cx.row?; rw [h]; kernel_rfl,rfl⟩,by decide,⟨rfl,⟨⟨(.int .i64),0,8,[]⟩,by unfold Cx.row?; rw [h]; kernel_rfl,rfl⟩,by decide,⟨rfl,⟨⟨(.int .i64),0,8,[]⟩,by unfold Cx.row?; rw [h]; kernel_rfl,rfl⟩,by decide,trivial⟩⟩⟩⟩⟩,by kernel_rfl⟩,(fun _=>by kernel_rfl),by decide,(fun _ h=>by cases h)⟩
theorem D5f(cx:Cx)(h:cx.types=tys):RowOk prog cx 80 ⟨(.pair (.int .i64) (.pair (.int .i64) (.pair (.int .i64) (.pair (.int .i64) (.pair (.int .i64) .unit))))),0,40,[]⟩ :=
 ⟨⟨t80,_,by kernel_rfl,by kernel_rfl,by kernel_rfl,rfl,by kernel_rfl⟩,⟨_,underlying80,⟨rfl,⟨⟨(.int .i64),0,8,[]⟩,by unfold Cx.row?; rw [h]; kernel_rfl,rfl⟩,by decide,⟨rfl,⟨⟨(.int .i64),0,8,[]⟩,by unfold Cx.row?; rw [h]; kernel_rfl,rfl⟩,by decide,⟨rfl,⟨⟨(.int .i64),0,8,[]⟩,by unfold Cx.row?; rw [h]; kernel_rfl,rfl⟩,by decide,⟨rfl,⟨⟨(.int .i64),0,8,[]⟩,by unfold Cx.row?; rw [h]; kernel_rfl,rfl⟩,by decide,⟨rfl,⟨⟨(.int .i64),0,8,[]⟩,by unfold Cx.row?; rw [h]; kernel_rfl,rfl⟩,by decide,trivial⟩⟩⟩⟩⟩,by kernel_rfl⟩,(fun _=>by kernel_rfl),by decide,(fun _ h=>by cases h)⟩
theorem D1k(cx:Cx)(h:cx.types=tys):RowOk prog cx 101 ⟨(.pair (.slice (.int .i64)) (.pair (.int .i64) .unit)),0,32,[]⟩ :=
 ⟨⟨t101,_,by kernel_rfl,by kernel_rfl,by kernel_rfl,rfl,by kernel_rfl⟩,⟨_,underlying101,⟨rfl,⟨⟨(.slice (.int .i64)),3,24,[]⟩,by unfold Cx.row?; rw [h]; kernel_rfl,rfl⟩,by decide,⟨rfl,⟨⟨(.int .i64),0,8,[]⟩,by unfold Cx.row?; rw [h]; kernel_rfl,rfl⟩,by decide,trivial⟩⟩,by kernel_rfl⟩,(fun _=>by kernel_rfl),by decide,(fun _ h=>by cases h)⟩
theorem D1l(cx:Cx)(h:cx.types=tys):RowOk prog cx 103 ⟨(.int .u64),0,8,[]⟩ :=
 ⟨⟨t103,_,by kernel_rfl,by kernel_rfl,by kernel_rfl,rfl,by kernel_rfl⟩,underlying103,(fun h=>Bool.noConfusion h),by decide,(fun _ h=>by cases h)⟩
theorem D1m(cx:Cx)(h:cx.types=tys):RowOk prog cx 105 ⟨.ifc,0,16,[]⟩ :=
 ⟨⟨t105,_,by kernel_rfl,by kernel_rfl,by kernel_rfl,rfl,by kernel_rfl⟩,⟨_,underlying105⟩,(fun h=>Bool.noConfusion h),by decide,(fun _ h=>by cases h)⟩
theorem D1n(cx:Cx)(h:cx.types=tys):RowOk prog cx 117 ⟨(.pair (.int .i64) (.pair (.int .i64) (.pair (.int .i64) (.pair (.int .i64) .unit)))),0,32,[]⟩ :=
 ⟨⟨t117,_,by kernel_rfl,by kernel_rfl,by kernel_rfl,rfl,by kernel_rfl⟩,⟨_,underlying117,⟨rfl,⟨⟨(.int .i64),0,8,[]⟩,by unfold Cx.row?; rw [h]; kernel_rfl,rfl⟩,by decide,⟨rfl,⟨⟨(.int .i64),0,8,[]⟩,by unfold Cx.row?; rw [h]; kernel_rfl,rfl⟩,by decide,⟨rfl,⟨⟨(.int .i64),0,8,[]⟩,by unfold Cx.row?; rw [h]; kernel_rfl,rfl⟩,by decide,⟨rfl,⟨⟨(.int .i64),0,8,[]⟩,by unfold Cx.row?; rw [h]; kernel_rfl,rfl⟩,by decide,trivial⟩⟩⟩⟩,by kernel_rfl⟩,(fun _=>by kernel_rfl),by decide,(fun _ h=>by cases h)⟩
theorem D1o(cx:Cx)(h:cx.types=tys):RowOk prog cx 120 ⟨.fnc,0,8,[]⟩ :=
 ⟨⟨t120,_,by kernel_rfl,by kernel_rfl,by kernel_rfl,rfl,by kernel_rfl⟩,⟨_,_,_,underlying120⟩,(fun h=>Bool.noConfusion h),by decide,(fun _ h=>by cases h)⟩
theorem D1p(cx:Cx)(h:cx.types=tys):RowOk prog cx 121 ⟨.fnc,0,8,[]⟩ :=
 ⟨⟨t121,_,by kernel_rfl,by kernel_rfl,by kernel_rfl,rfl,by kernel_rfl⟩,⟨_,_,_,underlying121⟩,(fun h=>Bool.noConfusion h),by decide,(fun _ h=>by cases h)⟩
theorem D1q(cx:Cx)(h:cx.types=tys):RowOk prog cx 123 ⟨(.pair .fnc (.pair .fnc .unit)),0,16,[]⟩ :=
 ⟨⟨t123,_,by kernel_rfl,by kernel_rfl,by kernel_rfl,rfl,by kernel_rfl⟩,⟨_,underlying123,⟨rfl,⟨⟨.fnc,0,8,[]⟩,by unfold Cx.row?; rw [h]; kernel_rfl,rfl⟩,by decide,⟨rfl,⟨⟨.fnc,0,8,[]⟩,by unfold Cx.row?; rw [h]; kernel_rfl,rfl⟩,by decide,trivial⟩⟩,by kernel_rfl⟩,(fun _=>by kernel_rfl),by decide,(fun _ h=>by cases h)⟩
theorem D1r(cx:Cx)(h:cx.types=tys):RowOk prog cx 126 ⟨(.pair (.int .i64) (.pair (.int .i64) .unit)),0,16,[]⟩ :=
 ⟨⟨t126,_,by kernel_rfl,by kernel_rfl,by kernel_rfl,rfl,by kernel_rfl⟩,⟨_,underlying126,⟨rfl,⟨⟨(.int .i64),0,8,[]⟩,by unfold Cx.row?; rw [h]; kernel_rfl,rfl⟩,by decide,⟨rfl,⟨⟨(.int .i64),0,8,[]⟩,by unfold Cx.row?; rw [h]; kernel_rfl,rfl⟩,by decide,trivial⟩⟩,by kernel_rfl⟩,(fun _=>by kernel_rfl),by decide,(fun _ h=>by cases h)⟩
theorem D1s(cx:Cx)(h:cx.types=tys):RowOk prog cx 128 ⟨.fnc,0,8,[]⟩ :=
 ⟨⟨t128,_,by kernel_rfl,by kernel_rfl,by kernel_rfl,rfl,by kernel_rfl⟩,⟨_,_,_,underlying128⟩,(fun h=>Bool.noConfusion h),by decide,(fun _ h=>by cases h)⟩
theorem D1t(cx:Cx)(h:cx.types=tys):RowOk prog cx 143 ⟨(.slice (.int .u64)),55,24,[]⟩ :=
 ⟨⟨t143,_,by kernel_rfl,by kernel_rfl,by kernel_rfl,rfl,by kernel_rfl⟩,⟨underlying143,⟨⟨(.int .u64),0,8,[]⟩,by unfold Cx.row?; rw [h]; kernel_rfl,rfl⟩⟩,(fun h=>Bool.noConfusion h),by decide,(fun _ h=>by cases h)⟩
theorem D1u(cx:Cx)(h:cx.types=tys):RowOk prog cx 182 ⟨.unit,0,0,[]⟩ :=
 ⟨⟨t182,_,by kernel_rfl,by kernel_rfl,by kernel_rfl,rfl,by kernel_rfl⟩,⟨_,underlying182,trivial,by kernel_rfl⟩,(fun _=>by kernel_rfl),by decide,(fun _ h=>by cases h)⟩
theorem D1v(cx:Cx)(h:cx.types=tys):RowOk prog cx 183 ⟨.unit,0,0,[]⟩ :=
 ⟨⟨t183,_,by kernel_rfl,by kernel_rfl,by kernel_rfl,rfl,by kernel_rfl⟩,⟨_,underlying183,trivial,by kernel_rfl⟩,(fun _=>by kernel_rfl),by decide,(fun _ h=>by cases h)⟩
theorem D1w(cx:Cx)(h:cx.types=tys):RowOk prog cx 184 ⟨.unit,0,0,[]⟩ :=
 ⟨⟨t184,_,by kernel_rfl,by kernel_rfl,by kernel_rfl,rfl,by kernel_rfl⟩,⟨_,underlying184,trivial,by kernel_rfl⟩,(fun _=>by kernel_rfl),by decide,(fun _ h=>by cases h)⟩
theorem D1x (cx : Cx) (h : cx.types = tys) : RowOk prog cx 186 ⟨(.pair .unit .unit), 0, 0, [("tscodec/chunk.decode", 415, .unit), ("tscodec/chunk.encode", 420, (.pair .unit .unit))]⟩ :=
 ⟨⟨t186,_,by kernel_rfl,by kernel_rfl,by kernel_rfl,rfl,by kernel_rfl⟩,⟨_,underlying186,⟨rfl,⟨⟨.unit,0,0,[]⟩,by unfold Cx.row?; rw [h]; kernel_rfl,rfl⟩,by decide,trivial⟩,by kernel_rfl⟩,(fun _=>by kernel_rfl),by decide,(List.forall_mem_cons.2 ⟨fun w=>by kernel_rfl,List.forall_mem_cons.2 ⟨fun w=>by kernel_rfl,fun _ h=>by cases h⟩⟩)⟩
theorem D1y (cx : Cx) (h : cx.types = tys) : RowOk prog cx 187 ⟨(.pair .unit .unit), 0, 0, [("tscodec/chunk.decode", 415, .unit), ("tscodec/chunk.encode", 421, (.pair .unit .unit))]⟩ :=
 ⟨⟨t187,_,by kernel_rfl,by kernel_rfl,by kernel_rfl,rfl,by kernel_rfl⟩,⟨_,underlying187,⟨rfl,⟨⟨.unit,0,0,[]⟩,by unfold Cx.row?; rw [h]; kernel_rfl,rfl⟩,by decide,trivial⟩,by kernel_rfl⟩,(fun _=>by kernel_rfl),by decide,(List.forall_mem_cons.2 ⟨fun w=>by kernel_rfl,List.forall_mem_cons.2 ⟨fun w=>by kernel_rfl,fun _ h=>by cases h⟩⟩)⟩
theorem D1z(cx:Cx)(h:cx.types=tys):RowOk prog cx 188 ⟨.unit,0,0,[]⟩ :=
 ⟨⟨t188,_,by kernel_rfl,by kernel_rfl,by kernel_rfl,rfl,by kernel_rfl⟩,⟨_,underlying188,trivial,by kernel_rfl⟩,(fun _=>by kernel_rfl),by decide,(fun _ h=>by cases h)⟩
theorem D1A(cx:Cx)(h:cx.types=tys):RowOk prog cx 225 ⟨(.int .u32),0,4,[]⟩ :=
 ⟨⟨t225,_,by kernel_rfl,by kernel_rfl,by kernel_rfl,rfl,by kernel_rfl⟩,underlying225,(fun h=>Bool.noConfusion h),by decide,(fun _ h=>by cases h)⟩
theorem D1B(cx:Cx)(h:cx.types=tys):RowOk prog cx 240 ⟨(.pair tyV (.pair tyV .unit)),0,80,[]⟩ :=
 ⟨⟨t240,_,by kernel_rfl,by kernel_rfl,by kernel_rfl,rfl,by kernel_rfl⟩,⟨_,underlying240,⟨rfl,⟨⟨tyV,0,40,[]⟩,by unfold Cx.row?; rw [h]; kernel_rfl,rfl⟩,by decide,⟨rfl,⟨⟨tyV,0,40,[]⟩,by unfold Cx.row?; rw [h]; kernel_rfl,rfl⟩,by decide,trivial⟩⟩,by kernel_rfl⟩,(fun _=>by kernel_rfl),by decide,(fun _ h=>by cases h)⟩
theorem D1C(cx:Cx)(h:cx.types=tys):RowOk prog cx 270 ⟨.ptr,0,8,[]⟩ :=
 ⟨⟨t270,_,by kernel_rfl,by kernel_rfl,by kernel_rfl,rfl,by kernel_rfl⟩,⟨_,underlying270⟩,(fun h=>Bool.noConfusion h),by decide,(fun _ h=>by cases h)⟩
theorem D1D(cx:Cx)(h:cx.types=tys):RowOk prog cx 271 ⟨(.slice .ptr),270,24,[]⟩ :=
 ⟨⟨t271,_,by kernel_rfl,by kernel_rfl,by kernel_rfl,rfl,by kernel_rfl⟩,⟨underlying271,⟨⟨.ptr,0,8,[]⟩,by unfold Cx.row?; rw [h]; kernel_rfl,rfl⟩⟩,(fun h=>Bool.noConfusion h),by decide,(fun _ h=>by cases h)⟩
theorem D1E(cx:Cx)(h:cx.types=tys):RowOk prog cx 281 ⟨(.arr 8 (.int .u64)),0,64,[]⟩ :=
 ⟨⟨t281,_,by kernel_rfl,by kernel_rfl,by kernel_rfl,rfl,by kernel_rfl⟩,⟨55,underlying281,⟨⟨(.int .u64),0,8,[]⟩,by unfold Cx.row?; rw [h]; kernel_rfl,rfl⟩⟩,(fun _=>by kernel_rfl),by decide,(fun _ h=>by cases h)⟩
theorem D1F(cx:Cx)(h:cx.types=tys):RowOk prog cx 309 ⟨(.arr 256 (.int .u32)),0,1024,[]⟩ :=
 ⟨⟨t309,_,by kernel_rfl,by kernel_rfl,by kernel_rfl,rfl,by kernel_rfl⟩,⟨225,underlying309,⟨⟨(.int .u32),0,4,[]⟩,by unfold Cx.row?; rw [h]; kernel_rfl,rfl⟩⟩,(fun _=>by kernel_rfl),by decide,(fun _ h=>by cases h)⟩
theorem D1G(cx:Cx)(h:cx.types=tys):RowOk prog cx 312 ⟨(.arr 5 (.int .u64)),0,40,[]⟩ :=
 ⟨⟨t312,_,by kernel_rfl,by kernel_rfl,by kernel_rfl,rfl,by kernel_rfl⟩,⟨55,underlying312,⟨⟨(.int .u64),0,8,[]⟩,by unfold Cx.row?; rw [h]; kernel_rfl,rfl⟩⟩,(fun _=>by kernel_rfl),by decide,(fun _ h=>by cases h)⟩
theorem D1H(cx:Cx)(h:cx.types=tys):RowOk prog cx 340 ⟨(.pair .bool (.pair (.pair tyV (.pair tyV .unit)) (.pair (.pair tyV (.pair tyV .unit)) .unit))),0,168,[]⟩ :=
 ⟨⟨t340,_,by kernel_rfl,by kernel_rfl,by kernel_rfl,rfl,by kernel_rfl⟩,⟨_,underlying340,⟨rfl,⟨⟨.bool,0,1,[]⟩,by unfold Cx.row?; rw [h]; kernel_rfl,rfl⟩,by decide,⟨rfl,⟨⟨(.pair tyV (.pair tyV .unit)),0,80,[]⟩,by unfold Cx.row?; rw [h]; kernel_rfl,rfl⟩,by decide,⟨rfl,⟨⟨(.pair tyV (.pair tyV .unit)),0,80,[]⟩,by unfold Cx.row?; rw [h]; kernel_rfl,rfl⟩,by decide,trivial⟩⟩⟩,by kernel_rfl⟩,(fun _=>by kernel_rfl),by decide,(fun _ h=>by cases h)⟩
theorem D1I(cx:Cx)(h:cx.types=tys):RowOk prog cx 355 ⟨(.pair (.int .i64) (.pair (.int .i64) (.pair (.int .i64) (.pair (.int .i64) (.pair tyV .unit))))),0,72,[]⟩ :=
 ⟨⟨t355,_,by kernel_rfl,by kernel_rfl,by kernel_rfl,rfl,by kernel_rfl⟩,⟨_,underlying355,⟨rfl,⟨⟨(.int .i64),0,8,[]⟩,by unfold Cx.row?; rw [h]; kernel_rfl,rfl⟩,by decide,⟨rfl,⟨⟨(.int .i64),0,8,[]⟩,by unfold Cx.row?; rw [h]; kernel_rfl,rfl⟩,by decide,⟨rfl,⟨⟨(.int .i64),0,8,[]⟩,by unfold Cx.row?; rw [h]; kernel_rfl,rfl⟩,by decide,⟨rfl,⟨⟨(.int .i64),0,8,[]⟩,by unfold Cx.row?; rw [h]; kernel_rfl,rfl⟩,by decide,⟨rfl,⟨⟨tyV,0,40,[]⟩,by unfold Cx.row?; rw [h]; kernel_rfl,rfl⟩,by decide,trivial⟩⟩⟩⟩⟩,by kernel_rfl⟩,(fun _=>by kernel_rfl),by decide,(fun _ h=>by cases h)⟩
theorem D1J(cx:Cx)(h:cx.types=tys):RowOk prog cx 438 ⟨.fnc,0,8,[]⟩ :=
 ⟨⟨t438,_,by kernel_rfl,by kernel_rfl,by kernel_rfl,rfl,by kernel_rfl⟩,⟨_,_,_,underlying438⟩,(fun h=>Bool.noConfusion h),by decide,(fun _ h=>by cases h)⟩
theorem D1K(cx:Cx)(h:cx.types=tys):RowOk prog cx 439 ⟨.fnc,0,8,[]⟩ :=
 ⟨⟨t439,_,by kernel_rfl,by kernel_rfl,by kernel_rfl,rfl,by kernel_rfl⟩,⟨_,_,_,underlying439⟩,(fun h=>Bool.noConfusion h),by decide,(fun _ h=>by cases h)⟩
theorem D1L(cx:Cx)(h:cx.types=tys):RowOk prog cx 441 ⟨(.pair .fnc (.pair .fnc .unit)),0,16,[]⟩ :=
 ⟨⟨t441,_,by kernel_rfl,by kernel_rfl,by kernel_rfl,rfl,by kernel_rfl⟩,⟨_,underlying441,⟨rfl,⟨⟨.fnc,0,8,[]⟩,by unfold Cx.row?; rw [h]; kernel_rfl,rfl⟩,by decide,⟨rfl,⟨⟨.fnc,0,8,[]⟩,by unfold Cx.row?; rw [h]; kernel_rfl,rfl⟩,by decide,trivial⟩⟩,by kernel_rfl⟩,(fun _=>by kernel_rfl),by decide,(fun _ h=>by cases h)⟩
theorem A0a(cx:Cx)(h:cx.types=tys):T3 prog cx:=B5a h (C3 (D9L cx h) (C3 (D9N cx h) (C3 (D9O cx h) (C3 (D9P cx h) (C3 (D54 cx h) (C3 (D55 cx h) (C3 (D56 cx h) (C3 (D57 cx h) (C3 (D58 cx h) (C3 (D59 cx h) (C3 (D5a cx h) (C3 (D5b cx h) (C3 (D5c cx h) (C3 (D5d cx h) (C3 (D5e cx h) (C3 (D5f cx h) (C3 (D1k cx h) (C3 (D1l cx h) (C3 (D1m cx h) (C3 (D1n cx h) (C3 (D1o cx h) (C3 (D1p cx h) (C3 (D1q cx h) (C3 (D1r cx h) (C3 (D1s cx h) (C3 (D1t cx h) (C3 (D1u cx h) (C3 (D1v cx h) (C3 (D1w cx h) (C3 (D1x cx h) (C3 (D1y cx h) (C3 (D1z cx h) (C3 (D1A cx h) (C3 (D1B cx h) (C3 (D1C cx h) (C3 (D1D cx h) (C3 (D1E cx h) (C3 (D1F cx h) (C3 (D1G cx h) (C3 (D1H cx h) (C3 (D1I cx h) (C3 (D1J cx h) (C3 (D1K cx h) (C3 (D1L cx h) C41))))))))))))))))))))))))))))))))))))))))))))
theorem mix:prog.follows .mixedOrders=true:=by kernel_rfl
abbrev A0:Ty:=.int .i64
abbrev B0:Ty:=.int .u64
abbrev Y6:Ty:=.int .u8
abbrev O3:Ty:=.slice (.int .u64)
abbrev E0:Ty:=.slice (.int .i64)
abbrev C9:Ty:=.slice (.int .u8)
abbrev A3c:Ty:=.pair tyV (.pair tyV .unit)
abbrev D5g:Ty:=.pair A0 (.pair A3c (.pair E0 .unit))
abbrev D5h:Ty:=.pair .bool (.pair A3c (.pair A3c .unit))
abbrev I8:Ty:=.pair E0 (.pair A0 .unit)
abbrev C2:Ty:=.pair A0 (.pair A0 .unit)
abbrev A6(x:Cx):Prop:=∀ f c,x.call f=some c→A8G prog f c
abbrev B5(c:List (Nat×Contract))(o:List Nat)(n:Nat×Nat):Cx:={types:=tys,call:=A5n c,own:=o,ntmps:=n}
abbrev E4(s:Sig):=Nat→Option (Hint (A8H s.rtys))
abbrev D7(s:A5):=∀{R:Type},A5.den s→(Ex→St→Option R)→Option R
abbrev G0(s:Sig)(f:Func)(fr:Frm)(p:List Nat)(sh:A5)(m:A5.den sh→(Ex→St→Option (A8H s.rtys))→Option (A8H s.rtys)):Prop:=A3A prog fr (.loop (sub (C6 f) p)) sh m
abbrev Z7(s:Sig)(f:Func)(fr:Frm)(p:List Nat)(sh:A5)(m:A5.den sh→(Ex→St→Option (A8H s.rtys))→Option (A8H s.rtys)):Prop:=A3A prog fr (sub (C6 f) p) sh m
theorem B3{cx:Cx}{f:FuncId}{fn:Func}{sg:Sig}{model:A5.den sg.sh→Option (A8H sg.rtys)}(hs js:E4 sg)(ht:cx.types=tys)(hf:prog.funcs[f]? =some fn)(h:(fn.body,(fn.name != "runtime.NumGoroutine"),cx.ntmps.2,B0o sg cx.ntmps)=(some (C6 fn),true,fn.ntmps,true))(hc:A6 cx)(ho:∀ fr:Frm,cx.ntmps=fr.n→HOk prog fr hs js (C6 fn))(hr:∀ x,model x=run cx hs js (C6 fn) (C3Z sg cx.ntmps.1 x) (D0x cx sg fn.results.toList)):CSound prog f (B7 sg model) :=
 C40 hf (congrArg (·.1) h) (congrArg (·.2.1) h) (A0a cx ht) hc mix (congrArg (·.2.2.1) h) (congrArg (·.2.2.2) h) ho hr
theorem G6{R:Type}{cx:Cx}(hs js:Nat→Option (Hint R))(outs:U5){fr:Frm}{c:Code}{sh:A5}{m:Nat→A5.den sh→(Ex→St→Option R)→Option R}(ht:cx.types=tys)(hc:A6 cx)(hn:cx.ntmps=fr.n)(h0:∀ x K,m 0 x K=none)(hm:∀ n x K,m (n+1) x K=run cx hs js c (enc sh x) (C0f sh outs (m n) K))(ho:HOk prog fr hs js c)(n:Nat):A3A prog fr (.loop c) sh (m n) :=
 B8H (A0a cx ht) hc hn mix h0 hm ho n
theorem Z8{R:Type}{cx:Cx}(hs js:Nat→Option (Hint R))(outs:U5){fr:Frm}{c:Code}{sh:A5}{m:A5.den sh→(Ex→St→Option R)→Option R}(ht:cx.types=tys)(hc:A6 cx)(hn:cx.ntmps=fr.n)(hm:∀ x K,m x K=run cx hs js c (enc sh x) (D0I outs K))(ho:HOk prog fr hs js c):A3A prog fr c sh m :=
 B8J (A0a cx ht) hc hn mix hm ho
theorem B1{R:Type}{fr:Frm}{hs js:Nat→Option (Hint R)}{c:Code}(h:C0e hs js c=[]):HOk prog fr hs js c:=E2 h C5
abbrev D8I{R:Type}{fr:Frm}{c:Code}{sh:A5}{m:A5.den sh→(Ex→St→Option R)→Option R}{l:List (Code×Hint R)}(h:A3A prog fr c sh m)(hl:A9j prog fr l):A9j prog fr ((c,⟨sh,m⟩)::l):=B4 h hl
def A9B(F:Nat):Contract:=B7 C0m fun x=>O4 F x.1
theorem D4m(F:Nat):CSound prog 220 (A9B F):=B5g F (by kernel_rfl) fun x w h0 h1=>A6N x w h0 h1
def C1l(F:Nat):Contract:=B7 A3E fun x=>A0m F x.1 x.2.1 x.2.2.1
theorem D8J(F:Nat):CExt prog 136 (C1l F):=C0n F func136 (by kernel_rfl) (by kernel_rfl) (by kernel_rfl) (by kernel_rfl)
def C5P(F:Nat):Contract:=B7 A3E fun x=>A1N F x.1 x.2.1 x.2.2.1
theorem D9Q(F:Nat):CExt prog 137 (C5P F):=C0o F func137 (by kernel_rfl) (by kernel_rfl) (by kernel_rfl) (by kernel_rfl)
def C5Q(F:Nat):Contract:=B7 (A9l Y6 5) fun x=>A06 F x.1 x.2.1
def D1N:Cx:=B5 [] [] (0,0)
theorem D9S(F:Nat):CSound prog 108 (C5Q F):=B8O (cx:=D1N) (A0a _ rfl) (by kernel_rfl:D1N.row? 5=some ⟨Y6,0,1,[]⟩) rfl (by kernel_rfl) (by decide) (fun base l c n w=>A1n base l c n w) (fun i0 z hi hz hs base l c n cs w=>A1o i0 z hi hz hs base l c n cs w)
def D5i:Sig:=⟨[.ro],[(0,.d tyV)],true,none,[.bool]⟩
def C1m(F:Nat):Contract:=B7 D5i fun x=>A1O F x.1
def D5j(F:Nat):Cx:=B5 [] [] (0,12)
theorem D5k(F:Nat):A6 (D5j F):=A2 A3
theorem D8K(F:Nat):CSound prog 188 (C1m F) :=
 B3 (fn:=f188) (A4 []) (A4 []) rfl func188 (by kernel_rfl) (D5k F) (fun fr hn=>(B1 (by kernel_rfl))) (fun x=>by kernel_rfl)
def D5l:Sig:=⟨[.ro],[(0,.d tyV)],true,none,[tyV]⟩
def A6A(F:Nat):Contract:=B7 D5l fun x=>J1 F x.1
def D5m(F:Nat):Cx:=B5 [(188,C1m F)] [] (0,8)
theorem D5n(F:Nat):A6 (D5m F):=A2 (A1 (D8K F) A3)
theorem C88(F:Nat):CSound prog 130 (A6A F) :=
 B3 (fn:=f130) (A4 []) (A4 []) rfl func130 (by kernel_rfl) (D5n F) (fun fr hn=>(B1 (by kernel_rfl))) (fun x=>by kernel_rfl)
def D5o:Sig:=⟨[.ro,.ro],[(0,.d B0),(1,.d B0)],true,none,[B0,B0]⟩
def C1n(F:Nat):Contract:=B7 D5o fun x=>A4n F x.1 x.2.1
def D5p(F:Nat):Cx:=B5 [] [] (0,51)
theorem D5q(F:Nat):A6 (D5p F):=A2 A3
theorem D8L(F:Nat):CSound prog 189 (C1n F) :=
 B3 (fn:=f189) (A4 []) (A4 []) rfl func189 (by kernel_rfl) (D5q F) (fun fr hn=>(B1 (by kernel_rfl))) (fun x=>by kernel_rfl)
def C4v:Sig:=⟨[.ro,.ro],[(0,.d (.arr 4 B0)),(1,.d (.arr 4 B0))],true,none,[(.arr 4 B0),.bool]⟩
def C5S(F:Nat):Contract:=B7 C4v fun x=>B6I F x.1 x.2.1
def C89(F:Nat):Cx:={ types:=tys,call:=A5n [(189,C1n F),(136,C1l F)],own:=[],ntmps:=(0,74),cuts:=[65,66,69] }
theorem C8a(F:Nat):A6 (C89 F):=A2 (A1 (D8L F) (A2o (D8J F) A3))
def B0X:A5:=[(3,.box 3 (.arr 4 B0)),(4,.box 4 (.arr 4 B0)),(6,.box 6 (.arr 8 B0)),(7,.d A0),(8,.d B0),(9,.d B0),(16,.d (.arr 4 B0)),(17,.d A0),(21,.d (.arr 4 B0)),(22,.d A0)]
def B38:A5:=[(3,.box 3 (.arr 4 B0)),(4,.box 4 (.arr 4 B0)),(6,.box 6 (.arr 8 B0)),(7,.d A0),(9,.d B0),(16,.d (.arr 4 B0)),(17,.d A0)]
def C1o:U5:=[(4,B38)]
def B6L(F n:Nat):D7 B0X:=fun x K=>A53 F (fun y3 y4 y6 y7 y9 y16 y17=>K (.exit 2) (enc B38 (y3,y4,y6,y7,y9,y16,y17,()))) n x.1 x.2.1 x.2.2.1 x.2.2.2.1 x.2.2.2.2.1 x.2.2.2.2.2.1 x.2.2.2.2.2.2.1 x.2.2.2.2.2.2.2.1 x.2.2.2.2.2.2.2.2.1 x.2.2.2.2.2.2.2.2.2.1
def B0Y:A5:=[(3,.box 3 (.arr 4 B0)),(4,.box 4 (.arr 4 B0)),(6,.box 6 (.arr 8 B0)),(16,.d (.arr 4 B0)),(17,.d A0)]
def B39:A5:=[(4,.box 4 (.arr 4 B0)),(6,.box 6 (.arr 8 B0))]
def C1p:U5:=[(2,B39)]
def B6N(F n:Nat):D7 B0Y:=fun x K=>A54 F (fun y4 y6=>K (.exit 0) (enc B39 (y4,y6,()))) n x.1 x.2.1 x.2.2.1 x.2.2.2.1 x.2.2.2.2.1
def C8b(F:Nat):E4 C4v:=A4 [(7,⟨B0X,B6L F F⟩),(3,⟨B0Y,B6N F F⟩)]
theorem C8c(F:Nat)(fr:Frm)(hn:(C89 F).ntmps=fr.n)(n:Nat):G0 C4v f131 fr [1,1,0,1,0,0,1,1,0,0,1,1,0,1,0,0] B0X (B6L F n) :=
 G6 (C8b F) (A4 []) C1o rfl (C8a F) hn (m:=fun n=>B6L F n) (fun _ _=>rfl) (fun n x K=>by kernel_rfl) (B1 (by kernel_rfl)) n
theorem C8d(F:Nat)(fr:Frm)(hn:(C89 F).ntmps=fr.n)(n:Nat):G0 C4v f131 fr [1,1,0,1,0,0] B0Y (B6N F n) :=
 G6 (C8b F) (A4 []) C1p rfl (C8a F) hn (m:=fun n=>B6N F n) (fun _ _=>rfl) (fun n x K=>by kernel_rfl) (E2 (l:=[((.loop (sub (C6 f131) [1,1,0,1,0,0,1,1,0,0,1,1,0,1,0,0])),⟨B0X,B6L F F⟩)]) (by kernel_rfl) (B4 (C8c F fr hn F) C5)) n
theorem D9T(F:Nat):CSound prog 131 (C5S F) :=
 B3 (fn:=f131) (C8b F) (A4 []) rfl func131 (by kernel_rfl) (C8a F) (fun fr hn=>(E2 (l:=[((.loop (sub (C6 f131) [1,1,0,1,0,0])),⟨B0Y,B6N F F⟩)]) (by kernel_rfl) (B4 (C8d F fr hn F) C5))) (fun x=>by kernel_rfl)
def D5r:Sig:=⟨[.ro,.ro],[(0,.d .bool),(1,.d (.arr 4 B0))],true,none,[tyV]⟩
def B6O(F:Nat):Contract:=B7 D5r fun x=>T8 F x.1 x.2.1
def D5s(F:Nat):Cx:=B5 [(130,A6A F)] [] (0,9)
theorem D5t(F:Nat):A6 (D5s F):=A2 (A1 (C88 F) A3)
theorem D5u(F:Nat):CSound prog 132 (B6O F) :=
 B3 (fn:=f132) (A4 []) (A4 []) rfl func132 (by kernel_rfl) (D5t F) (fun fr hn=>(B1 (by kernel_rfl))) (fun x=>by kernel_rfl)
def D9U:Sig:=⟨[.ro,.ro],[(0,.d tyV),(1,.d tyV)],true,none,[tyV,.bool]⟩
def C4w(F:Nat):Contract:=B7 D9U fun x=>B6J F x.1 x.2.1
def D9V(F:Nat):Cx:=B5 [(130,A6A F),(131,C5S F),(132,B6O F)] [] (0,30)
theorem D9W(F:Nat):A6 (D9V F):=A2 (A1 (C88 F) (A1 (D9T F) (A1 (D5u F) A3)))
theorem s70(F:Nat):CSound prog 70 (C4w F) :=
 B3 (fn:=f70) (A4 []) (A4 []) rfl func70 (by kernel_rfl) (D9W F) (fun fr hn=>(B1 (by kernel_rfl))) (fun x=>by kernel_rfl)
def C8e:Sig:=⟨[.ro,.ro],[(0,.d (.arr 4 B0)),(1,.d (.arr 4 B0))],true,none,[(.arr 4 B0),B0]⟩
def C1q(F:Nat):Contract:=B7 C8e fun x=>A73 F x.1 x.2.1
def D1O(F:Nat):Cx:=B5 [(136,C1l F)] [] (0,26)
theorem D1P(F:Nat):A6 (D1O F):=A2 (A2o (D8J F) A3)
def B0Z:A5:=[(2,.box 2 (.arr 4 B0)),(3,.box 3 (.arr 4 B0)),(4,.box 4 (.arr 4 B0)),(5,.d B0),(7,.d A0)]
def B3a:A5:=[(4,.box 4 (.arr 4 B0)),(5,.d B0)]
def C1r:U5:=[(2,B3a)]
def B6P(F n:Nat):D7 B0Z:=fun x K=>A0W F (fun y4 y5=>K (.exit 0) (enc B3a (y4,y5,()))) n x.1 x.2.1 x.2.2.1 x.2.2.2.1 x.2.2.2.2.1
def D1Q(F:Nat):E4 C8e:=A4 [(2,⟨B0Z,B6P F F⟩)]
theorem C8f(F:Nat)(fr:Frm)(hn:(D1O F).ntmps=fr.n)(n:Nat):G0 C8e f190 fr [1,0,1,0,0] B0Z (B6P F n) :=
 G6 (D1Q F) (A4 []) C1r rfl (D1P F) hn (m:=fun n=>B6P F n) (fun _ _=>rfl) (fun n x K=>by kernel_rfl) (B1 (by kernel_rfl)) n
theorem D8N(F:Nat):CSound prog 190 (C1q F) :=
 B3 (fn:=f190) (D1Q F) (A4 []) rfl func190 (by kernel_rfl) (D1P F) (fun fr hn=>(E2 (l:=[((.loop (sub (C6 f190) [1,0,1,0,0])),⟨B0Z,B6P F F⟩)]) (by kernel_rfl) (B4 (C8f F fr hn F) C5))) (fun x=>by kernel_rfl)
def D5v:Sig:=⟨[.ro],[(0,.d B0)],true,none,[.bool]⟩
def C5T(F:Nat):Contract:=B7 D5v fun x=>A07 F x.1
def D5w(F:Nat):Cx:=B5 [] [] (0,6)
theorem D5x(F:Nat):A6 (D5w F):=A2 A3
theorem D9X(F:Nat):CSound prog 245 (C5T F) :=
 B3 (fn:=f245) (A4 []) (A4 []) rfl func245 (by kernel_rfl) (D5x F) (fun fr hn=>(B1 (by kernel_rfl))) (fun x=>by kernel_rfl)
def D5y:Sig:=⟨[.ro,.ro],[(0,.d B0),(1,.d B0)],true,none,[A0]⟩
def C5U(F:Nat):Contract:=B7 D5y fun x=>I1 F x.1 x.2.1
def D5z(F:Nat):Cx:=B5 [(245,C5T F)] [] (0,20)
theorem D5A(F:Nat):A6 (D5z F):=A2 (A1 (D9X F) A3)
theorem D9Y(F:Nat):CSound prog 228 (C5U F) :=
 B3 (fn:=f228) (A4 []) (A4 []) rfl func228 (by kernel_rfl) (D5A F) (fun fr hn=>(B1 (by kernel_rfl))) (fun x=>by kernel_rfl)
def C8g:Sig:=⟨[.ro],[(0,.d E0)],true,none,[A0]⟩
def C5V(F:Nat):Contract:=B7 C8g fun x=>A4o F x.1
def D1S(F:Nat):Cx:=B5 [] [] (0,18)
theorem D1T(F:Nat):A6 (D1S F):=A2 A3
def B10:A5:=[(3,.d A0),(6,.d E0),(7,.d A0),(8,.d A0)]
def B3b:A5:=[(3,.d A0)]
def A83:A5:=[(2,.d A0)]
def C1s:U5:=[(2,B3b),(1,A83)]
def B6Q(F n:Nat):D7 B10:=fun x K=>P2 F (fun y3=>K (.exit 0) (enc B3b (y3,()))) (fun y2=>K .ret (enc A83 (y2,()))) n x.1 x.2.1 x.2.2.1 x.2.2.2.1
def D1U(F:Nat):E4 C8g:=A4 [(3,⟨B10,B6Q F F⟩)]
theorem C8h(F:Nat)(fr:Frm)(hn:(D1S F).ntmps=fr.n)(n:Nat):G0 C8g f227 fr [1,1,0,1,0,0] B10 (B6Q F n) :=
 G6 (D1U F) (A4 []) C1s rfl (D1T F) hn (m:=fun n=>B6Q F n) (fun _ _=>rfl) (fun n x K=>by kernel_rfl) (B1 (by kernel_rfl)) n
theorem D9Z(F:Nat):CSound prog 227 (C5V F) :=
 B3 (fn:=f227) (D1U F) (A4 []) rfl func227 (by kernel_rfl) (D1T F) (fun fr hn=>(E2 (l:=[((.loop (sub (C6 f227) [1,1,0,1,0,0])),⟨B10,B6Q F F⟩)]) (by kernel_rfl) (B4 (C8h F fr hn F) C5))) (fun x=>by kernel_rfl)
def D5B:Sig:=⟨[.ro,.ro],[(0,.d (.arr 4 B0)),(1,.d (.arr 4 B0))],true,none,[A0]⟩
def B6S(F:Nat):Contract:=B7 D5B fun x=>X5 F x.1 x.2.1
def D5C(F:Nat):Cx:=B5 [(228,C5U F),(227,C5V F)] [] (0,27)
theorem D5D(F:Nat):A6 (D5C F):=A2 (A1 (D9Y F) (A1 (D9Z F) A3))
theorem D5E(F:Nat):CSound prog 191 (B6S F) :=
 B3 (fn:=f191) (A4 []) (A4 []) rfl func191 (by kernel_rfl) (D5D F) (fun fr hn=>(B1 (by kernel_rfl))) (fun x=>by kernel_rfl)
def C8i:Sig:=⟨[.ro,.ro],[(0,.d (.arr 4 B0)),(1,.d (.arr 4 B0))],true,none,[(.arr 4 B0)]⟩
def B6T(F:Nat):Contract:=B7 C8i fun x=>A38 F x.1 x.2.1
def D1V(F:Nat):Cx:=B5 [(137,C5P F)] [] (0,25)
theorem D1W(F:Nat):A6 (D1V F):=A2 (A2o (D9Q F) A3)
def B11:A5:=[(2,.box 2 (.arr 4 B0)),(3,.box 3 (.arr 4 B0)),(4,.box 4 (.arr 4 B0)),(5,.d B0),(7,.d A0)]
def B3c:A5:=[(4,.box 4 (.arr 4 B0))]
def C1t:U5:=[(2,B3c)]
def B6U(F n:Nat):D7 B11:=fun x K=>X6 F (fun y4=>K (.exit 0) (enc B3c (y4,()))) n x.1 x.2.1 x.2.2.1 x.2.2.2.1 x.2.2.2.2.1
def D1X(F:Nat):E4 C8i:=A4 [(3,⟨B11,B6U F F⟩)]
theorem C8j(F:Nat)(fr:Frm)(hn:(D1V F).ntmps=fr.n)(n:Nat):G0 C8i f192 fr [1,1,0,1,0,0] B11 (B6U F n) :=
 G6 (D1X F) (A4 []) C1t rfl (D1W F) hn (m:=fun n=>B6U F n) (fun _ _=>rfl) (fun n x K=>by kernel_rfl) (B1 (by kernel_rfl)) n
theorem D5F(F:Nat):CSound prog 192 (B6T F) :=
 B3 (fn:=f192) (D1X F) (A4 []) rfl func192 (by kernel_rfl) (D1W F) (fun fr hn=>(E2 (l:=[((.loop (sub (C6 f192) [1,1,0,1,0,0])),⟨B11,B6U F F⟩)]) (by kernel_rfl) (B4 (C8j F fr hn F) C5))) (fun x=>by kernel_rfl)
def D5G:Sig:=⟨[.ro,.ro],[(0,.d tyV),(1,.d tyV)],true,none,[tyV,.bool]⟩
def B6V(F:Nat):Contract:=B7 D5G fun x=>A74 F x.1 x.2.1
def D5H(F:Nat):Cx:=B5 [(130,A6A F),(190,C1q F),(132,B6O F),(191,B6S F),(192,B6T F)] [] (0,54)
theorem D5I(F:Nat):A6 (D5H F):=A2 (A1 (C88 F) (A1 (D8N F) (A1 (D5u F) (A1 (D5E F) (A1 (D5F F) A3)))))
theorem D8O(F:Nat):CSound prog 133 (B6V F) :=
 B3 (fn:=f133) (A4 []) (A4 []) rfl func133 (by kernel_rfl) (D5I F) (fun fr hn=>(B1 (by kernel_rfl))) (fun x=>by kernel_rfl)
def D5J:Sig:=⟨[.ro],[(0,.d tyV)],true,none,[A0]⟩
def B6W(F:Nat):Contract:=B7 D5J fun x=>A2E F x.1
def D5K(F:Nat):Cx:=B5 [(130,A6A F)] [] (0,13)
theorem D5L(F:Nat):A6 (D5K F):=A2 (A1 (C88 F) A3)
theorem D5N(F:Nat):CSound prog 207 (B6W F) :=
 B3 (fn:=f207) (A4 []) (A4 []) rfl func207 (by kernel_rfl) (D5L F) (fun fr hn=>(B1 (by kernel_rfl))) (fun x=>by kernel_rfl)
def C8k:Sig:=⟨[.ro],[(0,.d (.arr 4 B0))],true,none,[A0]⟩
def C5W(F:Nat):Contract:=B7 C8k fun x=>A1W F x.1
def D1Y(F:Nat):Cx:=B5 [(220,A9B F)] [] (0,19)
theorem D1Z(F:Nat):A6 (D1Y F):=A2 (A1 (D4m F) A3)
def B12:A5:=[(1,.box 1 (.arr 4 B0)),(3,.d A0)]
def B3d:A5:=[]
def A84:A5:=[(2,.d A0)]
def C1u:U5:=[(2,B3d),(1,A84)]
def B6X(F n:Nat):D7 B12:=fun x K=>L5 F (K (.exit 0) (enc B3d (()))) (fun y2=>K .ret (enc A84 (y2,()))) n x.1 x.2.1
def D20(F:Nat):E4 C8k:=A4 [(2,⟨B12,B6X F F⟩)]
theorem C8l(F:Nat)(fr:Frm)(hn:(D1Y F).ntmps=fr.n)(n:Nat):G0 C8k f318 fr [1,0,1,0,0] B12 (B6X F n) :=
 G6 (D20 F) (A4 []) C1u rfl (D1Z F) hn (m:=fun n=>B6X F n) (fun _ _=>rfl) (fun n x K=>by kernel_rfl) (B1 (by kernel_rfl)) n
theorem E00(F:Nat):CSound prog 318 (C5W F) :=
 B3 (fn:=f318) (D20 F) (A4 []) rfl func318 (by kernel_rfl) (D1Z F) (fun fr hn=>(E2 (l:=[((.loop (sub (C6 f318) [1,0,1,0,0])),⟨B12,B6X F F⟩)]) (by kernel_rfl) (B4 (C8l F fr hn F) C5))) (fun x=>by kernel_rfl)
def C1v:Sig:=⟨[.ro,.ro],[(0,.d (.arr 4 B0)),(1,.d A0)],true,none,[(.arr 4 B0)]⟩
def C5X(F:Nat):Contract:=B7 C1v fun x=>A5w F x.1 x.2.1
def C8m(F:Nat):Cx:=B5 [] [] (0,48)
theorem C8n(F:Nat):A6 (C8m F):=A2 A3
def B13:A5:=[(2,.box 2 (.arr 4 B0)),(4,.box 4 (.arr 4 B0)),(5,.d A0),(6,.d A0),(7,.d A0),(32,.d .bool)]
def B3e:A5:=[(2,.box 2 (.arr 4 B0)),(4,.box 4 (.arr 4 B0)),(5,.d A0),(6,.d A0),(7,.d A0)]
def C1w:U5:=[(0,B3e)]
def C1x(F:Nat):D7 B13:=fun x K=>A2h F (fun y2 y4 y5 y6 y7=>K .normal (enc B3e (y2,y4,y5,y6,y7,()))) x.1 x.2.1 x.2.2.1 x.2.2.2.1 x.2.2.2.2.1 x.2.2.2.2.2.1
def B14:A5:=[(2,.box 2 (.arr 4 B0)),(4,.box 4 (.arr 4 B0)),(5,.d A0),(6,.d A0),(7,.d A0)]
def B3f:A5:=[(4,.box 4 (.arr 4 B0))]
def C1y:U5:=[(2,B3f)]
def B6Y(F n:Nat):D7 B14:=fun x K=>I6 F (fun y4=>K (.exit 0) (enc B3f (y4,()))) n x.1 x.2.1 x.2.2.1 x.2.2.2.1 x.2.2.2.2.1
def C8o(F:Nat):E4 C1v:=A4 [(3,⟨B14,B6Y F F⟩)]
def C8p(F:Nat):E4 C1v:=A4 [(7,⟨B13,C1x F⟩)]
theorem C8q(F:Nat)(fr:Frm)(hn:(C8m F).ntmps=fr.n):Z7 C1v f319 fr [1,1,0,1,0,0,1,0,0,1,1] B13 (C1x F) :=
 Z8 (C8o F) (C8p F) C1w rfl (C8n F) hn (fun x K=>by kernel_rfl) (B1 (by kernel_rfl))
theorem C8r(F:Nat)(fr:Frm)(hn:(C8m F).ntmps=fr.n)(n:Nat):G0 C1v f319 fr [1,1,0,1,0,0] B14 (B6Y F n) :=
 G6 (C8o F) (C8p F) C1y rfl (C8n F) hn (m:=fun n=>B6Y F n) (fun _ _=>rfl) (fun n x K=>by kernel_rfl) (E2 (l:=[((sub (C6 f319) [1,1,0,1,0,0,1,0,0,1,1]),⟨B13,C1x F⟩)]) (by kernel_rfl) (B4 (C8q F fr hn) C5)) n
theorem E01(F:Nat):CSound prog 319 (C5X F) :=
 B3 (fn:=f319) (C8o F) (C8p F) rfl func319 (by kernel_rfl) (C8n F) (fun fr hn=>(E2 (l:=[((.loop (sub (C6 f319) [1,1,0,1,0,0])),⟨B14,B6Y F F⟩)]) (by kernel_rfl) (B4 (C8r F fr hn F) C5))) (fun x=>by kernel_rfl)
def C8s:Sig:=⟨[.ro],[(0,.d (.arr 4 B0))],true,none,[(.arr 4 B0)]⟩
def C5Y(F:Nat):Contract:=B7 C8s fun x=>A1X F x.1
def D21(F:Nat):Cx:=B5 [] [] (0,27)
theorem D22(F:Nat):A6 (D21 F):=A2 A3
def B15:A5:=[(1,.box 1 (.arr 4 B0)),(2,.box 2 (.arr 4 B0)),(4,.d A0)]
def B3g:A5:=[(2,.box 2 (.arr 4 B0))]
def C1z:U5:=[(2,B3g)]
def B6Z(F n:Nat):D7 B15:=fun x K=>K1 F (fun y2=>K (.exit 0) (enc B3g (y2,()))) n x.1 x.2.1 x.2.2.1
def D23(F:Nat):E4 C8s:=A4 [(2,⟨B15,B6Z F F⟩)]
theorem C8t(F:Nat)(fr:Frm)(hn:(D21 F).ntmps=fr.n)(n:Nat):G0 C8s f320 fr [1,0,1,0,0] B15 (B6Z F n) :=
 G6 (D23 F) (A4 []) C1z rfl (D22 F) hn (m:=fun n=>B6Z F n) (fun _ _=>rfl) (fun n x K=>by kernel_rfl) (B1 (by kernel_rfl)) n
theorem E02(F:Nat):CSound prog 320 (C5Y F) :=
 B3 (fn:=f320) (D23 F) (A4 []) rfl func320 (by kernel_rfl) (D22 F) (fun fr hn=>(E2 (l:=[((.loop (sub (C6 f320) [1,0,1,0,0])),⟨B15,B6Z F F⟩)]) (by kernel_rfl) (B4 (C8t F fr hn F) C5))) (fun x=>by kernel_rfl)
def C8u:Sig:=⟨[.ro,.ro],[(0,.d (.arr 4 B0)),(1,.d (.arr 4 B0))],true,none,[(.arr 4 B0),(.arr 4 B0)]⟩
def C5Z(F:Nat):Contract:=B7 C8u fun x=>A75 F x.1 x.2.1
def D24(F:Nat):Cx:=B5 [(318,C5W F),(319,C5X F),(191,B6S F),(192,B6T F),(320,C5Y F)] [] (0,44)
theorem D25(F:Nat):A6 (D24 F):=A2 (A1 (E00 F) (A1 (E01 F) (A1 (D5E F) (A1 (D5F F) (A1 (E02 F) A3)))))
def B16:A5:=[(2,.box 2 (.arr 4 B0)),(4,.box 4 (.arr 4 B0)),(5,.box 5 (.arr 4 B0)),(6,.d A0),(7,.box 7 (.arr 4 B0))]
def B3h:A5:=[(2,.box 2 (.arr 4 B0)),(4,.box 4 (.arr 4 B0)),(5,.box 5 (.arr 4 B0))]
def C1A:U5:=[(2,B3h)]
def B70(F n:Nat):D7 B16:=fun x K=>A0f F (fun y2 y4 y5=>K (.exit 0) (enc B3h (y2,y4,y5,()))) n x.1 x.2.1 x.2.2.1 x.2.2.2.1 x.2.2.2.2.1
def D26(F:Nat):E4 C8u:=A4 [(5,⟨B16,B70 F F⟩)]
theorem C8v(F:Nat)(fr:Frm)(hn:(D24 F).ntmps=fr.n)(n:Nat):G0 C8u f277 fr [1,1,1,1,0,0,0] B16 (B70 F n) :=
 G6 (D26 F) (A4 []) C1A rfl (D25 F) hn (m:=fun n=>B70 F n) (fun _ _=>rfl) (fun n x K=>by kernel_rfl) (B1 (by kernel_rfl)) n
theorem E03(F:Nat):CSound prog 277 (C5Z F) :=
 B3 (fn:=f277) (D26 F) (A4 []) rfl func277 (by kernel_rfl) (D25 F) (fun fr hn=>(E2 (l:=[((.loop (sub (C6 f277) [1,1,1,1,0,0,0])),⟨B16,B70 F F⟩)]) (by kernel_rfl) (B4 (C8v F fr hn F) C5))) (fun x=>by kernel_rfl)
def C4x:Sig:=⟨[.ro,.ro],[(0,.d tyV),(1,.d tyV)],true,none,[tyV,tyV,.bool]⟩
def B3i(F:Nat):Contract:=B7 C4x fun x=>A1Y F x.1 x.2.1
def C8w(F:Nat):Cx:=B5 [(130,A6A F),(207,B6W F),(277,C5Z F),(190,C1q F),(192,B6T F),(132,B6O F)] [] (0,52)
theorem C8x(F:Nat):A6 (C8w F):=A2 (A1 (C88 F) (A1 (D5N F) (A1 (E03 F) (A1 (D8N F) (A1 (D5F F) (A1 (D5u F) A3))))))
def B17:A5:=[(2,.box 2 tyV),(3,.box 3 tyV),(4,.box 4 tyV),(5,.box 5 tyV),(7,.box 7 (.arr 4 B0)),(8,.box 8 (.arr 4 B0)),(32,.d .bool)]
def B3j:A5:=[(2,.box 2 tyV),(3,.box 3 tyV),(4,.box 4 tyV),(5,.box 5 tyV),(7,.box 7 (.arr 4 B0)),(8,.box 8 (.arr 4 B0))]
def C1B:U5:=[(0,B3j)]
def C1C(F:Nat):D7 B17:=fun x K=>Z3 F (fun y2 y3 y4 y5 y7 y8=>K .normal (enc B3j (y2,y3,y4,y5,y7,y8,()))) x.1 x.2.1 x.2.2.1 x.2.2.2.1 x.2.2.2.2.1 x.2.2.2.2.2.1 x.2.2.2.2.2.2.1
def B18:A5:=[(2,.box 2 tyV),(3,.box 3 tyV),(4,.box 4 tyV),(5,.box 5 tyV),(7,.box 7 (.arr 4 B0)),(8,.box 8 (.arr 4 B0))]
def A85:A5:=[(4,.box 4 tyV),(5,.box 5 tyV),(6,.d .bool)]
def C1D:U5:=[(1,A85)]
def C1E(F:Nat):D7 B18:=fun x K=>V6 F (fun y4 y5 y6=>K .ret (enc A85 (y4,y5,y6,()))) x.1 x.2.1 x.2.2.1 x.2.2.2.1 x.2.2.2.2.1 x.2.2.2.2.2.1
def C8y(F:Nat):E4 C4x:=A4 [(6,⟨B17,C1C F⟩),(8,⟨B18,C1E F⟩)]
theorem C8z(F:Nat)(fr:Frm)(hn:(C8w F).ntmps=fr.n):Z7 C4x f252 fr [1,1,1,1,0,1] B17 (C1C F) :=
 Z8 (A4 []) (C8y F) C1B rfl (C8x F) hn (fun x K=>by kernel_rfl) (B1 (by kernel_rfl))
theorem C8A(F:Nat)(fr:Frm)(hn:(C8w F).ntmps=fr.n):Z7 C4x f252 fr [1,1,1,1,1] B18 (C1E F) :=
 Z8 (A4 []) (C8y F) C1D rfl (C8x F) hn (fun x K=>by kernel_rfl) (B1 (by kernel_rfl))
theorem D5O(F:Nat):CSound prog 252 (B3i F) :=
 B3 (fn:=f252) (A4 []) (C8y F) rfl func252 (by kernel_rfl) (C8x F) (fun fr hn=>(E2 (l:=[((sub (C6 f252) [1,1,1,1,0,1]),⟨B17,C1C F⟩),((sub (C6 f252) [1,1,1,1,1]),⟨B18,C1E F⟩)]) (by kernel_rfl) (B4 (C8z F fr hn) (B4 (C8A F fr hn) C5)))) (fun x=>by kernel_rfl)
def C4y:Sig:=⟨[.ro,.ro],[(0,.d tyV),(1,.d tyV)],true,none,[A0]⟩
def B71(F:Nat):Contract:=B7 C4y fun x=>A6z F x.1 x.2.1
def C8B(F:Nat):Cx:=B5 [(130,A6A F),(191,B6S F)] [] (0,32)
theorem C8C(F:Nat):A6 (C8B F):=A2 (A1 (C88 F) (A1 (D5E F) A3))
def B19:A5:=[(2,.box 2 tyV),(3,.box 3 tyV),(9,.d .bool)]
def B3k:A5:=[(2,.box 2 tyV),(3,.box 3 tyV)]
def A86:A5:=[(4,.d A0)]
def C1F:U5:=[(0,B3k),(1,A86)]
def C1G(F:Nat):D7 B19:=fun x K=>A1Z F (fun y2 y3=>K .normal (enc B3k (y2,y3,()))) (fun y4=>K .ret (enc A86 (y4,()))) x.1 x.2.1 x.2.2.1
def B1a:A5:=[(2,.box 2 tyV),(3,.box 3 tyV)]
def A87:A5:=[(4,.d A0)]
def C1H:U5:=[(1,A87)]
def C1I(F:Nat):D7 B1a:=fun x K=>A20 F (fun y4=>K .ret (enc A87 (y4,()))) x.1 x.2.1
def C8D(F:Nat):E4 C4y:=A4 [(3,⟨B19,C1G F⟩),(8,⟨B1a,C1I F⟩)]
theorem C8E(F:Nat)(fr:Frm)(hn:(C8B F).ntmps=fr.n):Z7 C4y f172 fr [1,1,0,0,1] B19 (C1G F) :=
 Z8 (A4 []) (C8D F) C1F rfl (C8C F) hn (fun x K=>by kernel_rfl) (B1 (by kernel_rfl))
theorem C8F(F:Nat)(fr:Frm)(hn:(C8B F).ntmps=fr.n):Z7 C4y f172 fr [1,1,1] B1a (C1I F) :=
 Z8 (A4 []) (C8D F) C1H rfl (C8C F) hn (fun x K=>by kernel_rfl) (B1 (by kernel_rfl))
theorem D8P(F:Nat):CSound prog 172 (B71 F) :=
 B3 (fn:=f172) (A4 []) (C8D F) rfl func172 (by kernel_rfl) (C8C F) (fun fr hn=>(E2 (l:=[((sub (C6 f172) [1,1,0,0,1]),⟨B19,C1G F⟩),((sub (C6 f172) [1,1,1]),⟨B1a,C1I F⟩)]) (by kernel_rfl) (B4 (C8E F fr hn) (B4 (C8F F fr hn) C5)))) (fun x=>by kernel_rfl)
def C8G:Sig:=⟨[.ro],[(0,.d tyV)],true,none,[A0,.bool]⟩
def B72(F:Nat):Contract:=B7 C8G fun x=>A4p F x.1
def D27(F:Nat):Cx:=B5 [(130,A6A F)] [] (0,37)
theorem D28(F:Nat):A6 (D27 F):=A2 (A1 (C88 F) A3)
def B1b:A5:=[(1,.box 1 tyV),(4,.d B0),(10,.d .bool)]
def B3l:A5:=[(4,.d B0)]
def A88:A5:=[(2,.d A0),(3,.d .bool)]
def C1J:U5:=[(0,B3l),(1,A88)]
def C1K(F:Nat):D7 B1b:=fun x K=>T9 F (fun y4=>K .normal (enc B3l (y4,()))) (fun y2 y3=>K .ret (enc A88 (y2,y3,()))) x.1 x.2.1 x.2.2.1
def D29(F:Nat):E4 C8G:=A4 [(4,⟨B1b,C1K F⟩)]
theorem C8H(F:Nat)(fr:Frm)(hn:(D27 F).ntmps=fr.n):Z7 C8G f408 fr [1,1,1,0,0,1] B1b (C1K F) :=
 Z8 (A4 []) (D29 F) C1J rfl (D28 F) hn (fun x K=>by kernel_rfl) (B1 (by kernel_rfl))
theorem D8Q(F:Nat):CSound prog 408 (B72 F) :=
 B3 (fn:=f408) (A4 []) (D29 F) rfl func408 (by kernel_rfl) (D28 F) (fun fr hn=>(E2 (l:=[((sub (C6 f408) [1,1,1,0,0,1]),⟨B1b,C1K F⟩)]) (by kernel_rfl) (B4 (C8H F fr hn) C5))) (fun x=>by kernel_rfl)
def D5P:Sig:=⟨[.ro],[(0,.d tyV)],true,none,[.bool]⟩
def C60(F:Nat):Contract:=B7 D5P fun x=>A55 F x.1
def D5Q(F:Nat):Cx:=B5 [] [] (0,20)
theorem D5S(F:Nat):A6 (D5Q F):=A2 A3
theorem E04(F:Nat):CSound prog 237 (C60 F) :=
 B3 (fn:=f237) (A4 []) (A4 []) rfl func237 (by kernel_rfl) (D5S F) (fun fr hn=>(B1 (by kernel_rfl))) (fun x=>by kernel_rfl)
def C8I:Sig:=⟨[.ro,.ro],[(0,.d tyV),(1,.d tyV)],true,none,[tyV]⟩
def C61(F:Nat):Contract:=B7 C8I fun x=>A5x F x.1 x.2.1
def D2a(F:Nat):Cx:=B5 [(207,B6W F),(252,B3i F)] [] (0,23)
theorem D2b(F:Nat):A6 (D2a F):=A2 (A1 (D5N F) (A1 (D5O F) A3))
def B1c:A5:=[(2,.box 2 tyV),(3,.box 3 tyV),(4,.box 4 tyV)]
def B3m:A5:=[(2,.box 2 tyV),(4,.box 4 tyV)]
def C1L:U5:=[(2,B3m)]
def B73(F n:Nat):D7 B1c:=fun x K=>A1v F (fun y2 y4=>K (.exit 0) (enc B3m (y2,y4,()))) n x.1 x.2.1 x.2.2.1
def D2c(F:Nat):E4 C8I:=A4 [(2,⟨B1c,B73 F F⟩)]
theorem C8J(F:Nat)(fr:Frm)(hn:(D2a F).ntmps=fr.n)(n:Nat):G0 C8I f238 fr [1,1,0,0,0] B1c (B73 F n) :=
 G6 (D2c F) (A4 []) C1L rfl (D2b F) hn (m:=fun n=>B73 F n) (fun _ _=>rfl) (fun n x K=>by kernel_rfl) (B1 (by kernel_rfl)) n
theorem E05(F:Nat):CSound prog 238 (C61 F) :=
 B3 (fn:=f238) (D2c F) (A4 []) rfl func238 (by kernel_rfl) (D2b F) (fun fr hn=>(E2 (l:=[((.loop (sub (C6 f238) [1,1,0,0,0])),⟨B1c,B73 F F⟩)]) (by kernel_rfl) (B4 (C8J F fr hn F) C5))) (fun x=>by kernel_rfl)
def D5T:Sig:=⟨[.ro],[(0,.d A0)],true,none,[tyV]⟩
def B3n(F:Nat):Contract:=B7 D5T fun x=>A21 F x.1
def D5U(F:Nat):Cx:=B5 [] [] (0,14)
theorem D5V(F:Nat):A6 (D5U F):=A2 A3
theorem D4n(F:Nat):CSound prog 170 (B3n F) :=
 B3 (fn:=f170) (A4 []) (A4 []) rfl func170 (by kernel_rfl) (D5V F) (fun fr hn=>(B1 (by kernel_rfl))) (fun x=>by kernel_rfl)
def D5W:Sig:=⟨[.ro],[(0,.d A3c)],true,none,[.bool]⟩
def B74(F:Nat):Contract:=B7 D5W fun x=>A82 F x.1
def D5X(F:Nat):Cx:=B5 [(188,C1m F),(207,B6W F),(237,C60 F),(238,C61 F),(170,B3n F)] [] (0,36)
theorem D5Y(F:Nat):A6 (D5X F):=A2 (A1 (D8K F) (A1 (D5N F) (A1 (E04 F) (A1 (E05 F) (A1 (D4n F) A3)))))
theorem D8S(F:Nat):CSound prog 208 (B74 F) :=
 B3 (fn:=f208) (A4 []) (A4 []) rfl func208 (by kernel_rfl) (D5Y F) (fun fr hn=>(B1 (by kernel_rfl))) (fun x=>by kernel_rfl)
def D5Z:Sig:=⟨[.ro],[(0,.d A0)],true,none,[A3c]⟩
def C62(F:Nat):Contract:=B7 D5Z fun x=>B6K F x.1
def D60(F:Nat):Cx:=B5 [(170,B3n F)] [] (0,7)
theorem D61(F:Nat):A6 (D60 F):=A2 (A1 (D4n F) A3)
theorem E06(F:Nat):CSound prog 154 (C62 F) :=
 B3 (fn:=f154) (A4 []) (A4 []) rfl func154 (by kernel_rfl) (D61 F) (fun fr hn=>(B1 (by kernel_rfl))) (fun x=>by kernel_rfl)
def D62:Sig:=⟨[.ro],[(0,.d A3c)],true,none,[A3c]⟩
def C63(F:Nat):Contract:=B7 D62 fun x=>A56 F x.1
def D63(F:Nat):Cx:=B5 [(208,B74 F),(154,C62 F)] [] (0,8)
theorem D64(F:Nat):A6 (D63 F):=A2 (A1 (D8S F) (A1 (E06 F) A3))
theorem E07(F:Nat):CSound prog 254 (C63 F) :=
 B3 (fn:=f254) (A4 []) (A4 []) rfl func254 (by kernel_rfl) (D64 F) (fun fr hn=>(B1 (by kernel_rfl))) (fun x=>by kernel_rfl)
def D65:Sig:=⟨[.ro,.ro],[(0,.d tyV),(1,.d tyV)],true,none,[tyV]⟩
def C64(F:Nat):Contract:=B7 D65 fun x=>A39 F x.1 x.2.1
def D66(F:Nat):Cx:=B5 [(70,C4w F)] [] (0,14)
theorem D67(F:Nat):A6 (D66 F):=A2 (A1 (s70 F) A3)
theorem E08(F:Nat):CSound prog 255 (C64 F) :=
 B3 (fn:=f255) (A4 []) (A4 []) rfl func255 (by kernel_rfl) (D67 F) (fun fr hn=>(B1 (by kernel_rfl))) (fun x=>by kernel_rfl)
def D68:Sig:=⟨[.ro,.ro],[(0,.d A3c),(1,.d A3c)],true,none,[A0]⟩
def C1N(F:Nat):Contract:=B7 D68 fun x=>B0T F x.1 x.2.1
def D69(F:Nat):Cx:=B5 [(254,C63 F),(255,C64 F),(172,B71 F)] [] (0,20)
theorem D6a(F:Nat):A6 (D69 F):=A2 (A1 (E07 F) (A1 (E08 F) (A1 (D8P F) A3)))
theorem E09(F:Nat):CSound prog 241 (C1N F) :=
 B3 (fn:=f241) (A4 []) (A4 []) rfl func241 (by kernel_rfl) (D6a F) (fun fr hn=>(B1 (by kernel_rfl))) (fun x=>by kernel_rfl)
def C4z:Sig:=⟨[],[],true,none,[(.arr 256 (.int .u32))]⟩
def C1O(F:Nat):Contract:=B7 C4z fun x=>A0n F 
def C8K(F:Nat):Cx:=B5 [] [] (0,25)
theorem C8L(F:Nat):A6 (C8K F):=A2 A3
def B1d:A5:=[(0,.box 0 (.arr 256 (.int .u32))),(1,.box 1 (.arr 256 (.int .u32))),(2,.d A0),(3,.d (.int .u32)),(5,.d A0),(10,.d A0)]
def B3o:A5:=[(0,.box 0 (.arr 256 (.int .u32))),(1,.box 1 (.arr 256 (.int .u32))),(2,.d A0),(3,.d (.int .u32)),(5,.d A0)]
def C1P:U5:=[(4,B3o)]
def B75(F n:Nat):D7 B1d:=fun x K=>A22 F (fun y0 y1 y2 y3 y5=>K (.exit 2) (enc B3o (y0,y1,y2,y3,y5,()))) n x.1 x.2.1 x.2.2.1 x.2.2.2.1 x.2.2.2.2.1 x.2.2.2.2.2.1
def B1e:A5:=[(0,.box 0 (.arr 256 (.int .u32))),(1,.box 1 (.arr 256 (.int .u32))),(5,.d A0)]
def B3p:A5:=[(0,.box 0 (.arr 256 (.int .u32))),(1,.box 1 (.arr 256 (.int .u32)))]
def C1Q:U5:=[(2,B3p)]
def B76(F n:Nat):D7 B1e:=fun x K=>A23 F (fun y0 y1=>K (.exit 0) (enc B3p (y0,y1,()))) n x.1 x.2.1 x.2.2.1
def C8N(F:Nat):E4 C4z:=A4 [(7,⟨B1d,B75 F F⟩),(3,⟨B1e,B76 F F⟩)]
theorem C8O(F:Nat)(fr:Frm)(hn:(C8K F).ntmps=fr.n)(n:Nat):G0 C4z f234 fr [1,1,0,1,0,0,1,1,0,0,1,1,0,1,0,0] B1d (B75 F n) :=
 G6 (C8N F) (A4 []) C1P rfl (C8L F) hn (m:=fun n=>B75 F n) (fun _ _=>rfl) (fun n x K=>by kernel_rfl) (B1 (by kernel_rfl)) n
theorem C8P(F:Nat)(fr:Frm)(hn:(C8K F).ntmps=fr.n)(n:Nat):G0 C4z f234 fr [1,1,0,1,0,0] B1e (B76 F n) :=
 G6 (C8N F) (A4 []) C1Q rfl (C8L F) hn (m:=fun n=>B76 F n) (fun _ _=>rfl) (fun n x K=>by kernel_rfl) (E2 (l:=[((.loop (sub (C6 f234) [1,1,0,1,0,0,1,1,0,0,1,1,0,1,0,0])),⟨B1d,B75 F F⟩)]) (by kernel_rfl) (B4 (C8O F fr hn F) C5)) n
theorem E0a(F:Nat):CSound prog 234 (C1O F) :=
 B3 (fn:=f234) (C8N F) (A4 []) rfl func234 (by kernel_rfl) (C8L F) (fun fr hn=>(E2 (l:=[((.loop (sub (C6 f234) [1,1,0,1,0,0])),⟨B1e,B76 F F⟩)]) (by kernel_rfl) (B4 (C8P F fr hn F) C5))) (fun x=>by kernel_rfl)
def D6b:Sig:=⟨[.ro],[(0,.d A0)],true,none,[B0]⟩
def A9C(F:Nat):Contract:=B7 D6b fun x=>Y0 F x.1
def D6c(F:Nat):Cx:=B5 [] [] (0,10)
theorem D6d(F:Nat):A6 (D6c F):=A2 A3
theorem D4o(F:Nat):CSound prog 109 (A9C F) :=
 B3 (fn:=f109) (A4 []) (A4 []) rfl func109 (by kernel_rfl) (D6d F) (fun fr hn=>(B1 (by kernel_rfl))) (fun x=>by kernel_rfl)
def D6e:Sig:=⟨[.ro],[(0,.d B0)],true,none,[A0]⟩
def A9D(F:Nat):Contract:=B7 D6e fun x=>S5 F x.1
def D6f(F:Nat):Cx:=B5 [] [] (0,11)
theorem D6g(F:Nat):A6 (D6f F):=A2 A3
theorem D4p(F:Nat):CSound prog 146 (A9D F) :=
 B3 (fn:=f146) (A4 []) (A4 []) rfl func146 (by kernel_rfl) (D6g F) (fun fr hn=>(B1 (by kernel_rfl))) (fun x=>by kernel_rfl)
def E0b:Sig:=⟨[.ro,.ro],[(0,.d A0),(1,.d A0)],true,none,[B0]⟩
def B5x(F:Nat):Contract:=B7 E0b fun x=>G7 F x.1 x.2.1
def E0c(F:Nat):Cx:=B5 [] [] (0,14)
theorem E0d(F:Nat):A6 (E0c F):=A2 A3
theorem s68(F:Nat):CSound prog 68 (B5x F) :=
 B3 (fn:=f68) (A4 []) (A4 []) rfl func68 (by kernel_rfl) (E0d F) (fun fr hn=>(B1 (by kernel_rfl))) (fun x=>by kernel_rfl)
def D6h:Sig:=⟨[.ro,.ro],[(0,.d A0),(1,.d B0)],true,none,[A0]⟩
def B3q(F:Nat):Contract:=B7 D6h fun x=>Y1 F x.1 x.2.1
def D6i(F:Nat):Cx:=B5 [] [] (0,10)
theorem D6j(F:Nat):A6 (D6i F):=A2 A3
theorem D6k(F:Nat):CSound prog 182 (B3q F) :=
 B3 (fn:=f182) (A4 []) (A4 []) rfl func182 (by kernel_rfl) (D6j F) (fun fr hn=>(B1 (by kernel_rfl))) (fun x=>by kernel_rfl)
def sg8:Sig:=⟨[.ro],[(0,.d E0)],false,some (0,0),[I8]⟩
def D8T(F:Nat):Contract:=B7 sg8 fun x=>B0U F x.1
def cx8(F:Nat):Cx:=B5 [] [] (0,6)
theorem cs8(F:Nat):A6 (cx8 F):=A2 A3
theorem s8(F:Nat):CSound prog 8 (D8T F) :=
 B3 (fn:=f8) (A4 []) (A4 []) rfl func8 (by kernel_rfl) (cs8 F) (fun fr hn=>(B1 (by kernel_rfl))) (fun x=>by kernel_rfl)
def E0e:Sig:=⟨[.ro,.ro],[(0,.d A0),(1,.d A0)],true,none,[A0]⟩
def D2d(F:Nat):Contract:=B7 E0e fun x=>A4q F x.1 x.2.1
def E0f(F:Nat):Cx:=B5 [] [] (0,16)
theorem E0g(F:Nat):A6 (E0f F):=A2 A3
theorem s53(F:Nat):CSound prog 53 (D2d F) :=
 B3 (fn:=f53) (A4 []) (A4 []) rfl func53 (by kernel_rfl) (E0g F) (fun fr hn=>(B1 (by kernel_rfl))) (fun x=>by kernel_rfl)
def E0h:Sig:=⟨[.bor,.ro],[(0,.box 0 I8),(1,.d A0)],false,none,[I8,A0]⟩
def B3r(F:Nat):Contract:=B7 E0h fun x=>B6 F x.1 x.2.1
def E0i(F:Nat):Cx:=B5 [(53,D2d F)] [] (1,35)
theorem E0j(F:Nat):A6 (E0i F):=A2 (A1 (s53 F) A3)
theorem s13(F:Nat):CSound prog 13 (B3r F) :=
 B3 (fn:=f13) (A4 []) (A4 []) rfl func13 (by kernel_rfl) (E0j F) (fun fr hn=>(B1 (by kernel_rfl))) (fun x=>by kernel_rfl)
def D6l:Sig:=⟨[.bor],[(0,.box 0 I8)],false,none,[I8,B0]⟩
def C4A(F:Nat):Contract:=B7 D6l fun x=>Q0 F x.1
def D8U(F:Nat):Cx:=B5 [(13,B3r F)] [] (1,16)
theorem D8V(F:Nat):A6 (D8U F):=A2 (A1 (s13 F) A3)
def B77:A5:=[(0,.box 0 I8),(3,.d B0),(4,.d A0)]
def B78:A5:=[(0,.box 0 I8),(3,.d B0)]
def C4B:U5:=[(2,B78)]
def C4C(F n:Nat):D7 B77:=fun x K=>L7 F (fun y0 y3=>K (.exit 0) (enc B78 (y0,y3,()))) n x.1 x.2.1 x.2.2.1
def D8W(F:Nat):E4 D6l:=A4 [(3,⟨B77,C4C F F⟩)]
theorem D2e(F:Nat)(fr:Frm)(hn:(D8U F).ntmps=fr.n)(n:Nat):G0 D6l f45 fr [1,1,0,1,0,0] B77 (C4C F n) :=
 G6 (D8W F) (A4 []) C4B rfl (D8V F) hn (m:=fun n=>C4C F n) (fun _ _=>rfl) (fun n x K=>by kernel_rfl) (B1 (by kernel_rfl)) n
theorem s45(F:Nat):CSound prog 45 (C4A F) :=
 B3 (fn:=f45) (D8W F) (A4 []) rfl func45 (by kernel_rfl) (D8V F) (fun fr hn=>(E2 (l:=[((.loop (sub (C6 f45) [1,1,0,1,0,0])),⟨B77,C4C F F⟩)]) (by kernel_rfl) (B4 (D2e F fr hn F) C5))) (fun x=>by kernel_rfl)
def E0k:Sig:=⟨[.bor],[(0,.box 0 I8)],false,none,[I8,A0]⟩
def C4D(F:Nat):Contract:=B7 E0k fun x=>P3 F x.1
def E0l(F:Nat):Cx:=B5 [(13,B3r F),(45,C4A F)] [] (1,32)
theorem E0m(F:Nat):A6 (E0l F):=A2 (A1 (s13 F) (A1 (s45 F) A3))
theorem s44(F:Nat):CSound prog 44 (C4D F) :=
 B3 (fn:=f44) (A4 []) (A4 []) rfl func44 (by kernel_rfl) (E0m F) (fun fr hn=>(B1 (by kernel_rfl))) (fun x=>by kernel_rfl)
def E0n:Sig:=⟨[.bor,.ro],[(0,.box 0 I8),(1,.d A0)],false,none,[I8,.bool]⟩
def C8Q(F:Nat):Contract:=B7 E0n fun x=>Z4 F x.1 x.2.1
def E0o(F:Nat):Cx:=B5 [(13,B3r F)] [] (1,11)
theorem E0p(F:Nat):A6 (E0o F):=A2 (A1 (s13 F) A3)
theorem s61(F:Nat):CSound prog 61 (C8Q F) :=
 B3 (fn:=f61) (A4 []) (A4 []) rfl func61 (by kernel_rfl) (E0p F) (fun fr hn=>(B1 (by kernel_rfl))) (fun x=>by kernel_rfl)
def D2f:Sig:=⟨[.bor,.ro],[(0,.box 0 I8),(1,.d A0)],false,some (0,2),[I8,E0]⟩
def D2g(F:Nat):Contract:=B7 D2f fun x=>A0z F x.1 x.2.1
def D6m(F:Nat):Cx:=B5 [(13,B3r F),(44,C4D F),(45,C4A F),(61,C8Q F)] [4,5] (1,80)
theorem D6n(F:Nat):A6 (D6m F):=A2 (A1 (s13 F) (A1 (s44 F) (A1 (s45 F) (A1 (s61 F) A3))))
def B1f:A5:=[(0,.box 0 I8),(5,.own 5 A0 2),(6,.d A0),(7,.d A0),(8,.d B0),(9,.d A0),(10,.d B0)]
def B3s:A5:=[(0,.box 0 I8),(5,.own 5 A0 2),(6,.d A0),(7,.d A0),(8,.d B0),(9,.d A0)]
def A89:A5:=[(0,.box 0 I8),(4,.own 4 A0 2)]
def C1S:U5:=[(0,B3s),(1,A89)]
def C1T(F:Nat):D7 B1f:=fun x K=>E6 F (fun y0 y5 y6 y7 y8 y9=>K .normal (enc B3s (y0,y5,y6,y7,y8,y9,()))) (fun y0 y4=>K .ret (enc A89 (y0,y4,()))) x.1 x.2.1 x.2.2.1 x.2.2.2.1 x.2.2.2.2.1 x.2.2.2.2.2.1 x.2.2.2.2.2.2.1
def B79:A5:=[(0,.box 0 I8),(5,.own 5 A0 2),(6,.d A0),(7,.d A0),(8,.d B0),(9,.d A0)]
def B7a:A5:=[(0,.box 0 I8),(5,.own 5 A0 2)]
def A9E:A5:=[(0,.box 0 I8),(4,.own 4 A0 2)]
def C4E:U5:=[(2,B7a),(1,A9E)]
def C4F(F n:Nat):D7 B79:=fun x K=>C0 F (fun y0 y5=>K (.exit 0) (enc B7a (y0,y5,()))) (fun y0 y4=>K .ret (enc A9E (y0,y4,()))) n x.1 x.2.1 x.2.2.1 x.2.2.2.1 x.2.2.2.2.1 x.2.2.2.2.2.1
def D6o(F:Nat):E4 D2f:=A4 [(6,⟨B79,C4F F F⟩)]
def D6p(F:Nat):E4 D2f:=A4 [(20,⟨B1f,C1T F⟩)]
theorem C8S(F:Nat)(fr:Frm)(hn:(D6m F).ntmps=fr.n):Z7 D2f f60 fr [1,1,1,1,1,0,1,0,0,1,0,0,1,1,1] B1f (C1T F) :=
 Z8 (D6o F) (D6p F) C1S rfl (D6n F) hn (fun x K=>by kernel_rfl) (B1 (by kernel_rfl))
theorem D2h(F:Nat)(fr:Frm)(hn:(D6m F).ntmps=fr.n)(n:Nat):G0 D2f f60 fr [1,1,1,1,1,0,1,0,0] B79 (C4F F n) :=
 G6 (D6o F) (D6p F) C4E rfl (D6n F) hn (m:=fun n=>C4F F n) (fun _ _=>rfl) (fun n x K=>by kernel_rfl) (E2 (l:=[((sub (C6 f60) [1,1,1,1,1,0,1,0,0,1,0,0,1,1,1]),⟨B1f,C1T F⟩)]) (by kernel_rfl) (B4 (C8S F fr hn) C5)) n
theorem s60(F:Nat):CSound prog 60 (D2g F) :=
 B3 (fn:=f60) (D6o F) (D6p F) rfl func60 (by kernel_rfl) (D6n F) (fun fr hn=>(E2 (l:=[((.loop (sub (C6 f60) [1,1,1,1,1,0,1,0,0])),⟨B79,C4F F F⟩)]) (by kernel_rfl) (B4 (D2h F fr hn F) C5))) (fun x=>by kernel_rfl)
def D6q:Sig:=⟨[.bor,.ro],[(0,.box 0 I8),(1,.d A0)],false,some (0,38),[I8,(.slice C2)]⟩
def D2i(F:Nat):Contract:=B7 D6q fun x=>Y2 F x.1 x.2.1
def D8X(F:Nat):Cx:=B5 [(60,D2g F),(13,B3r F),(44,C4D F),(61,C8Q F)] [4,6] (1,91)
theorem D8Y(F:Nat):A6 (D8X F):=A2 (A1 (s60 F) (A1 (s13 F) (A1 (s44 F) (A1 (s61 F) A3))))
def B7b:A5:=[(0,.box 0 I8),(5,.d E0),(6,.own 6 C2 38),(7,.d A0),(8,.d A0),(9,.d A0),(10,.d A0)]
def B7c:A5:=[(0,.box 0 I8),(6,.own 6 C2 38)]
def C4G:U5:=[(2,B7c)]
def C4H(F n:Nat):D7 B7b:=fun x K=>A7 F (fun y0 y6=>K (.exit 0) (enc B7c (y0,y6,()))) n x.1 x.2.1 x.2.2.1 x.2.2.2.1 x.2.2.2.2.1 x.2.2.2.2.2.1 x.2.2.2.2.2.2.1
def D8Z(F:Nat):E4 D6q:=A4 [(6,⟨B7b,C4H F F⟩)]
theorem D2j(F:Nat)(fr:Frm)(hn:(D8X F).ntmps=fr.n)(n:Nat):G0 D6q f19 fr [1,1,1,1,1,0,1,0,0] B7b (C4H F n) :=
 G6 (D8Z F) (A4 []) C4G rfl (D8Y F) hn (m:=fun n=>C4H F n) (fun _ _=>rfl) (fun n x K=>by kernel_rfl) (B1 (by kernel_rfl)) n
theorem s19(F:Nat):CSound prog 19 (D2i F) :=
 B3 (fn:=f19) (D8Z F) (A4 []) rfl func19 (by kernel_rfl) (D8Y F) (fun fr hn=>(E2 (l:=[((.loop (sub (C6 f19) [1,1,1,1,1,0,1,0,0])),⟨B7b,C4H F F⟩)]) (by kernel_rfl) (B4 (D2j F fr hn F) C5))) (fun x=>by kernel_rfl)
def sg9:Sig:=⟨[.bor,.ro],[(0,.box 0 I8),(1,.d A0)],false,some (0,38),[I8,(.slice C2)]⟩
def D90(F:Nat):Contract:=B7 sg9 fun x=>A15 F x.1 x.2.1
def cx9(F:Nat):Cx:=B5 [(19,D2i F),(44,C4D F)] [4,8,17] (1,19)
theorem cs9(F:Nat):A6 (cx9 F):=A2 (A1 (s19 F) (A1 (s44 F) A3))
theorem s9(F:Nat):CSound prog 9 (D90 F) :=
 B3 (fn:=f9) (A4 []) (A4 []) rfl func9 (by kernel_rfl) (cs9 F) (fun fr hn=>(B1 (by kernel_rfl))) (fun x=>by kernel_rfl)
def E0q:Sig:=⟨[.bor],[(0,.box 0 I8)],false,none,[I8,A0]⟩
def D2k(F:Nat):Contract:=B7 E0q fun x=>U0 F x.1
def E0r(F:Nat):Cx:=B5 [(13,B3r F),(45,C4A F)] [] (1,24)
theorem E0s(F:Nat):A6 (E0r F):=A2 (A1 (s13 F) (A1 (s45 F) A3))
theorem s10(F:Nat):CSound prog 10 (D2k F) :=
 B3 (fn:=f10) (A4 []) (A4 []) rfl func10 (by kernel_rfl) (E0s F) (fun fr hn=>(B1 (by kernel_rfl))) (fun x=>by kernel_rfl)
def D6r:Sig:=⟨[.ro,.ro,.ro],[(0,.d C9),(1,.d A0),(2,.d A0)],true,none,[.bool]⟩
def C65(F:Nat):Contract:=B7 D6r fun x=>Z5 F x.1 x.2.1 x.2.2.1
def D6s(F:Nat):Cx:=B5 [] [] (0,23)
theorem D6t(F:Nat):A6 (D6s F):=A2 A3
theorem E0t(F:Nat):CSound prog 151 (C65 F) :=
 B3 (fn:=f151) (A4 []) (A4 []) rfl func151 (by kernel_rfl) (D6t F) (fun fr hn=>(B1 (by kernel_rfl))) (fun x=>by kernel_rfl)
def D6u:Sig:=⟨[.ro],[(0,.d Y6)],true,none,[.bool]⟩
def C66(F:Nat):Contract:=B7 D6u fun x=>A24 F x.1
def D6v(F:Nat):Cx:=B5 [] [] (0,5)
theorem D6w(F:Nat):A6 (D6v F):=A2 A3
theorem E0u(F:Nat):CSound prog 244 (C66 F) :=
 B3 (fn:=f244) (A4 []) (A4 []) rfl func244 (by kernel_rfl) (D6w F) (fun fr hn=>(B1 (by kernel_rfl))) (fun x=>by kernel_rfl)
def C8T:Sig:=⟨[.ro,.ro],[(0,.d C9),(1,.fn 244)],true,none,[A0]⟩
def C67(F:Nat):Contract:=B7 C8T fun x=>P4 F x.1
def D2l(F:Nat):Cx:=B5 [(244,C66 F)] [] (0,19)
theorem D2m(F:Nat):A6 (D2l F):=A2 (A1 (E0u F) A3)
def B1g:A5:=[(0,.d C9),(1,.fn 244),(7,.d A0),(8,.d A0)]
def B3t:A5:=[]
def A8a:A5:=[(4,.d A0)]
def C1U:U5:=[(2,B3t),(1,A8a)]
def B7d(F n:Nat):D7 B1g:=fun x K=>F0 F (K (.exit 0) (enc B3t (()))) (fun y4=>K .ret (enc A8a (y4,()))) n x.1 x.2.2.1 x.2.2.2.1
def D2n(F:Nat):E4 C8T:=A4 [(2,⟨B1g,B7d F F⟩)]
theorem C8U(F:Nat)(fr:Frm)(hn:(D2l F).ntmps=fr.n)(n:Nat):G0 C8T f243 fr [1,0,1,0,0] B1g (B7d F n) :=
 G6 (D2n F) (A4 []) C1U rfl (D2m F) hn (m:=fun n=>B7d F n) (fun _ _=>rfl) (fun n x K=>by kernel_rfl) (B1 (by kernel_rfl)) n
theorem E0v(F:Nat):CSound prog 243 (C67 F) :=
 B3 (fn:=f243) (D2n F) (A4 []) rfl func243 (by kernel_rfl) (D2m F) (fun fr hn=>(E2 (l:=[((.loop (sub (C6 f243) [1,0,1,0,0])),⟨B1g,B7d F F⟩)]) (by kernel_rfl) (B4 (C8U F fr hn F) C5))) (fun x=>by kernel_rfl)
def C8V:Sig:=⟨[.ro,.ro,.ro],[(0,.d C9),(1,.d A0),(2,.d A0)],false,none,[C9,A0]⟩
def C68(F:Nat):Contract:=B7 C8V fun x=>A1E F x.1 x.2.1 x.2.2.1
def D2o(F:Nat):Cx:=B5 [(243,C67 F)] [6,25,53] (0,54)
theorem D2p(F:Nat):A6 (D2o F):=A2 (A1 (E0v F) A3)
def B1h:A5:=[(0,.d C9),(8,.d A0),(27,.d .bool)]
def B3u:A5:=[(0,.d C9),(8,.d A0)]
def A8b:A5:=[(6,.own 6 Y6 5),(7,.d A0)]
def C1V:U5:=[(0,B3u),(1,A8b)]
def C1W(F:Nat):D7 B1h:=fun x K=>O5 F (fun y0 y8=>K .normal (enc B3u (y0,y8,()))) (fun y6 y7=>K .ret (enc A8b (y6,y7,()))) x.1 x.2.1 x.2.2.1
def D2q(F:Nat):E4 C8V:=A4 [(6,⟨B1h,C1W F⟩)]
theorem C8W(F:Nat)(fr:Frm)(hn:(D2o F).ntmps=fr.n):Z7 C8V f222 fr [1,1,1,1,0,0,1] B1h (C1W F) :=
 Z8 (A4 []) (D2q F) C1V rfl (D2p F) hn (fun x K=>by kernel_rfl) (B1 (by kernel_rfl))
theorem E0w(F:Nat):CSound prog 222 (C68 F) :=
 B3 (fn:=f222) (A4 []) (D2q F) rfl func222 (by kernel_rfl) (D2p F) (fun fr hn=>(E2 (l:=[((sub (C6 f222) [1,1,1,1,0,0,1]),⟨B1h,C1W F⟩)]) (by kernel_rfl) (B4 (C8W F fr hn) C5))) (fun x=>by kernel_rfl)
def C1X:Sig:=⟨[.ro,.ro],[(0,.d C9),(1,.d A0)],true,none,[B0,A0,A0]⟩
def B3v(F:Nat):Contract:=B7 C1X fun x=>U1 F x.1 x.2.1
def C8X(F:Nat):Cx:=B5 [(222,C68 F)] [] (0,51)
theorem C8Y(F:Nat):A6 (C8X F):=A2 (A1 (E0w F) A3)
def B1i:A5:=[(1,.d A0),(7,.d C9),(9,.d B0),(30,.d C9),(31,.d A0),(32,.d A0)]
def B3w:A5:=[(1,.d A0),(7,.d C9),(9,.d B0)]
def C1Y:U5:=[(2,B3w)]
def B7e(F n:Nat):D7 B1i:=fun x K=>V7 F (fun y1 y7 y9=>K (.exit 0) (enc B3w (y1,y7,y9,()))) n x.1 x.2.1 x.2.2.1 x.2.2.2.1 x.2.2.2.2.1 x.2.2.2.2.2.1
def B1j:A5:=[(1,.d A0),(7,.d C9)]
def A8c:A5:=[(4,.d B0),(5,.d A0),(6,.d A0)]
def C1Z:U5:=[(1,A8c)]
def C20(F:Nat):D7 B1j:=fun x K=>A16 F (fun y4 y5 y6=>K .ret (enc A8c (y4,y5,y6,()))) x.1 x.2.1
def C8Z(F:Nat):E4 C1X:=A4 [(8,⟨B1i,B7e F F⟩)]
def C90(F:Nat):E4 C1X:=A4 [(6,⟨B1j,C20 F⟩)]
theorem C91(F:Nat)(fr:Frm)(hn:(C8X F).ntmps=fr.n)(n:Nat):G0 C1X f180 fr [1,1,1,1,1,0,1,0,0] B1i (B7e F n) :=
 G6 (C8Z F) (C90 F) C1Y rfl (C8Y F) hn (m:=fun n=>B7e F n) (fun _ _=>rfl) (fun n x K=>by kernel_rfl) (B1 (by kernel_rfl)) n
theorem C92(F:Nat)(fr:Frm)(hn:(C8X F).ntmps=fr.n):Z7 C1X f180 fr [1,1,1,1] B1j (C20 F) :=
 Z8 (C8Z F) (C90 F) C1Z rfl (C8Y F) hn (fun x K=>by kernel_rfl) (E2 (l:=[((.loop (sub (C6 f180) [1,1,1,1,1,0,1,0,0])),⟨B1i,B7e F F⟩)]) (by kernel_rfl) (B4 (C91 F fr hn F) C5))
theorem D4q(F:Nat):CSound prog 180 (B3v F) :=
 B3 (fn:=f180) (C8Z F) (C90 F) rfl func180 (by kernel_rfl) (C8Y F) (fun fr hn=>(E2 (l:=[((sub (C6 f180) [1,1,1,1]),⟨B1j,C20 F⟩)]) (by kernel_rfl) (B4 (C92 F fr hn) C5))) (fun x=>by kernel_rfl)
def D6x:Sig:=⟨[.ro,.ro,.ro],[(0,.d C9),(1,.d A0),(2,.d A0)],true,none,[A0,A0,A0]⟩
def C69(F:Nat):Contract:=B7 D6x fun x=>A17 F x.1 x.2.1 x.2.2.1
def D6y(F:Nat):Cx:=B5 [(180,B3v F)] [] (0,31)
theorem D6z(F:Nat):A6 (D6y F):=A2 (A1 (D4q F) A3)
theorem E0x(F:Nat):CSound prog 152 (C69 F) :=
 B3 (fn:=f152) (A4 []) (A4 []) rfl func152 (by kernel_rfl) (D6z F) (fun fr hn=>(B1 (by kernel_rfl))) (fun x=>by kernel_rfl)
def C93:Sig:=⟨[.ro,.ro,.ro],[(0,.d C9),(1,.d A0),(2,.d A0)],false,some (0,55),[O3,A0,A0]⟩
def C6a(F:Nat):Contract:=B7 C93 fun x=>U2 F x.1 x.2.1 x.2.2.1
def D2r(F:Nat):Cx:=B5 [(180,B3v F)] [6,19] (0,41)
theorem D2s(F:Nat):A6 (D2r F):=A2 (A1 (D4q F) A3)
def B1k:A5:=[(0,.d C9),(1,.d A0),(9,.own 9 B0 55),(20,.d A0),(21,.d A0)]
def B3x:A5:=[(1,.d A0),(9,.own 9 B0 55)]
def A8d:A5:=[(6,.own 6 B0 55),(7,.d A0),(8,.d A0)]
def C21:U5:=[(2,B3x),(1,A8d)]
def B7f(F n:Nat):D7 B1k:=fun x K=>O6 F (fun y1 y9=>K (.exit 0) (enc B3x (y1,y9,()))) (fun y6 y7 y8=>K .ret (enc A8d (y6,y7,y8,()))) n x.1 x.2.1 x.2.2.1 x.2.2.2.1 x.2.2.2.2.1
def D2t(F:Nat):E4 C93:=A4 [(3,⟨B1k,B7f F F⟩)]
theorem C94(F:Nat)(fr:Frm)(hn:(D2r F).ntmps=fr.n)(n:Nat):G0 C93 f202 fr [1,1,0,1,0,0] B1k (B7f F n) :=
 G6 (D2t F) (A4 []) C21 rfl (D2s F) hn (m:=fun n=>B7f F n) (fun _ _=>rfl) (fun n x K=>by kernel_rfl) (B1 (by kernel_rfl)) n
theorem E0y(F:Nat):CSound prog 202 (C6a F) :=
 B3 (fn:=f202) (D2t F) (A4 []) rfl func202 (by kernel_rfl) (D2s F) (fun fr hn=>(E2 (l:=[((.loop (sub (C6 f202) [1,1,0,1,0,0])),⟨B1k,B7f F F⟩)]) (by kernel_rfl) (B4 (C94 F fr hn F) C5))) (fun x=>by kernel_rfl)
def D6A:Sig:=⟨[.ro,.ro],[(0,.d A0),(1,.d A0)],true,none,[A0]⟩
def B7g(F:Nat):Contract:=B7 D6A fun x=>Y3 F x.1 x.2.1
def D6B(F:Nat):Cx:=B5 [] [] (0,24)
theorem D6C(F:Nat):A6 (D6B F):=A2 A3
theorem D6D(F:Nat):CSound prog 221 (B7g F) :=
 B3 (fn:=f221) (A4 []) (A4 []) rfl func221 (by kernel_rfl) (D6C F) (fun fr hn=>(B1 (by kernel_rfl))) (fun x=>by kernel_rfl)
def C4I:Sig:=⟨[.ro,.ro,.ro],[(0,.d C9),(1,.d A0),(2,.d A0)],false,some (0,55),[O3,.bool]⟩
def C6b(F:Nat):Contract:=B7 C4I fun x=>V8 F x.1 x.2.1 x.2.2.1
def C95(F:Nat):Cx:=B5 [(221,B7g F)] [6,21] (0,81)
theorem C96(F:Nat):A6 (C95 F):=A2 (A1 (D6D F) A3)
def B1l:A5:=[(0,.d C9),(2,.d A0),(8,.own 8 B0 55),(9,.d A0),(10,.d A0),(11,.d A0),(23,.d A0),(24,.d A0)]
def B3y:A5:=[(0,.d C9),(2,.d A0),(8,.own 8 B0 55),(9,.d A0),(23,.d A0),(24,.d A0)]
def C22:U5:=[(4,B3y)]
def B7h(F n:Nat):D7 B1l:=fun x K=>J2 F (fun y0 y2 y8 y9 y23 y24=>K (.exit 2) (enc B3y (y0,y2,y8,y9,y23,y24,()))) n x.1 x.2.1 x.2.2.1 x.2.2.2.1 x.2.2.2.2.1 x.2.2.2.2.2.1 x.2.2.2.2.2.2.1 x.2.2.2.2.2.2.2.1
def B1m:A5:=[(0,.d C9),(2,.d A0),(8,.own 8 B0 55),(9,.d A0),(23,.d A0),(24,.d A0)]
def B3z:A5:=[(0,.d C9),(8,.own 8 B0 55),(9,.d A0)]
def C23:U5:=[(2,B3z)]
def B7i(F n:Nat):D7 B1m:=fun x K=>J3 F (fun y0 y8 y9=>K (.exit 0) (enc B3z (y0,y8,y9,()))) n x.1 x.2.1 x.2.2.1 x.2.2.2.1 x.2.2.2.2.1 x.2.2.2.2.2.1
def C97(F:Nat):E4 C4I:=A4 [(9,⟨B1l,B7h F F⟩),(6,⟨B1m,B7i F F⟩)]
theorem C98(F:Nat)(fr:Frm)(hn:(C95 F).ntmps=fr.n)(n:Nat):G0 C4I f235 fr [1,1,1,1,0,1,0,0,1,1,0,0,1,1,0,0] B1l (B7h F n) :=
 G6 (C97 F) (A4 []) C22 rfl (C96 F) hn (m:=fun n=>B7h F n) (fun _ _=>rfl) (fun n x K=>by kernel_rfl) (B1 (by kernel_rfl)) n
theorem C99(F:Nat)(fr:Frm)(hn:(C95 F).ntmps=fr.n)(n:Nat):G0 C4I f235 fr [1,1,1,1,0,1,0,0] B1m (B7i F n) :=
 G6 (C97 F) (A4 []) C23 rfl (C96 F) hn (m:=fun n=>B7i F n) (fun _ _=>rfl) (fun n x K=>by kernel_rfl) (E2 (l:=[((.loop (sub (C6 f235) [1,1,1,1,0,1,0,0,1,1,0,0,1,1,0,0])),⟨B1l,B7h F F⟩)]) (by kernel_rfl) (B4 (C98 F fr hn F) C5)) n
theorem E0z(F:Nat):CSound prog 235 (C6b F) :=
 B3 (fn:=f235) (C97 F) (A4 []) rfl func235 (by kernel_rfl) (C96 F) (fun fr hn=>(E2 (l:=[((.loop (sub (C6 f235) [1,1,1,1,0,1,0,0])),⟨B1m,B7i F F⟩)]) (by kernel_rfl) (B4 (C99 F fr hn F) C5))) (fun x=>by kernel_rfl)
def D6E:Sig:=⟨[.ro,.ro,.ro],[(0,.d C9),(1,.d A0),(2,.d A0)],false,some (0,55),[O3,A0,A0]⟩
def C6c(F:Nat):Contract:=B7 D6E fun x=>Q2 F x.1 x.2.1 x.2.2.1
def D6F(F:Nat):Cx:=B5 [(221,B7g F),(235,C6b F)] [6,49] (0,58)
theorem D6G(F:Nat):A6 (D6F F):=A2 (A1 (D6D F) (A1 (E0z F) A3))
theorem E0A(F:Nat):CSound prog 203 (C6c F) :=
 B3 (fn:=f203) (A4 []) (A4 []) rfl func203 (by kernel_rfl) (D6G F) (fun fr hn=>(B1 (by kernel_rfl))) (fun x=>by kernel_rfl)
def D6H:Sig:=⟨[.ro],[(0,.d B0)],true,none,[A0]⟩
def C6d(F:Nat):Contract:=B7 D6H fun x=>A3a F x.1
def D6I(F:Nat):Cx:=B5 [(220,A9B F)] [] (0,8)
theorem D6J(F:Nat):A6 (D6I F):=A2 (A1 (D4m F) A3)
theorem E0B(F:Nat):CSound prog 177 (C6d F) :=
 B3 (fn:=f177) (A4 []) (A4 []) rfl func177 (by kernel_rfl) (D6J F) (fun fr hn=>(B1 (by kernel_rfl))) (fun x=>by kernel_rfl)
def C9a:Sig:=⟨[.ro],[(0,.d O3)],true,none,[A0]⟩
def C24(F:Nat):Contract:=B7 C9a fun x=>A1F F x.1
def D2u(F:Nat):Cx:=B5 [(220,A9B F)] [] (0,18)
theorem D2v(F:Nat):A6 (D2u F):=A2 (A1 (D4m F) A3)
def B1n:A5:=[(3,.d B0),(6,.d O3),(7,.d A0),(8,.d A0)]
def B3A:A5:=[(3,.d B0)]
def C25:U5:=[(2,B3A)]
def B7j(F n:Nat):D7 B1n:=fun x K=>O7 F (fun y3=>K (.exit 0) (enc B3A (y3,()))) n x.1 x.2.1 x.2.2.1 x.2.2.2.1
def D2w(F:Nat):E4 C9a:=A4 [(3,⟨B1n,B7j F F⟩)]
theorem C9b(F:Nat)(fr:Frm)(hn:(D2u F).ntmps=fr.n)(n:Nat):G0 C9a f178 fr [1,1,0,1,0,0] B1n (B7j F n) :=
 G6 (D2w F) (A4 []) C25 rfl (D2v F) hn (m:=fun n=>B7j F n) (fun _ _=>rfl) (fun n x K=>by kernel_rfl) (B1 (by kernel_rfl)) n
theorem D91(F:Nat):CSound prog 178 (C24 F) :=
 B3 (fn:=f178) (D2w F) (A4 []) rfl func178 (by kernel_rfl) (D2v F) (fun fr hn=>(E2 (l:=[((.loop (sub (C6 f178) [1,1,0,1,0,0])),⟨B1n,B7j F F⟩)]) (by kernel_rfl) (B4 (C9b F fr hn F) C5))) (fun x=>by kernel_rfl)
def C4J:Sig:=⟨[.ro,.ro],[(0,.d O3),(1,.d A0)],false,some (0,5),[C9,.bool]⟩
def C6e(F:Nat):Contract:=B7 C4J fun x=>A2i F x.1 x.2.1
def C9c(F:Nat):Cx:=B5 [(221,B7g F),(178,C24 F)] [4,26] (0,64)
theorem C9d(F:Nat):A6 (C9c F):=A2 (A1 (D6D F) (A1 (D91 F) A3))
def A77:A5:=[(1,.d A0),(7,.own 7 Y6 5),(8,.d A0),(10,.d B0),(11,.d A0),(27,.d O3),(28,.d A0),(29,.d A0)]
def A9F:A5:=[(1,.d A0),(7,.own 7 Y6 5),(8,.d A0),(27,.d O3),(28,.d A0),(29,.d A0)]
def B99:U5:=[(4,A9F)]
def B1o(F n:Nat):D7 A77:=fun x K=>L2 F (fun y1 y7 y8 y27 y28 y29=>K (.exit 2) (enc A9F (y1,y7,y8,y27,y28,y29,()))) n x.1 x.2.1 x.2.2.1 x.2.2.2.1 x.2.2.2.2.1 x.2.2.2.2.2.1 x.2.2.2.2.2.2.1 x.2.2.2.2.2.2.2.1
def B1p:A5:=[(1,.d A0),(7,.own 7 Y6 5),(8,.d A0),(27,.d O3),(28,.d A0),(29,.d A0)]
def B3B:A5:=[(7,.own 7 Y6 5)]
def C26:U5:=[(2,B3B)]
def B7k(F n:Nat):D7 B1p:=fun x K=>N4 F (fun y7=>K (.exit 0) (enc B3B (y7,()))) n x.1 x.2.1 x.2.2.1 x.2.2.2.1 x.2.2.2.2.1 x.2.2.2.2.2.1
def C9e(F:Nat):E4 C4J:=A4 [(10,⟨A77,B1o F F⟩),(7,⟨B1p,B7k F F⟩)]
theorem C4K(F:Nat)(fr:Frm)(hn:(C9c F).ntmps=fr.n)(n:Nat):G0 C4J f179 fr [1,1,1,1,1,0,1,0,0,1,1,0,0,1,1,0,0] A77 (B1o F n) :=
 G6 (C9e F) (A4 []) B99 rfl (C9d F) hn (m:=fun n=>B1o F n) (fun _ _=>rfl) (fun n x K=>by kernel_rfl) (B1 (by kernel_rfl)) n
theorem C9f(F:Nat)(fr:Frm)(hn:(C9c F).ntmps=fr.n)(n:Nat):G0 C4J f179 fr [1,1,1,1,1,0,1,0,0] B1p (B7k F n) :=
 G6 (C9e F) (A4 []) C26 rfl (C9d F) hn (m:=fun n=>B7k F n) (fun _ _=>rfl) (fun n x K=>by kernel_rfl) (E2 (l:=[((.loop (sub (C6 f179) [1,1,1,1,1,0,1,0,0,1,1,0,0,1,1,0,0])),⟨A77,B1o F F⟩)]) (by kernel_rfl) (B4 (C4K F fr hn F) C5)) n
theorem E0C(F:Nat):CSound prog 179 (C6e F) :=
 B3 (fn:=f179) (C9e F) (A4 []) rfl func179 (by kernel_rfl) (C9d F) (fun fr hn=>(E2 (l:=[((.loop (sub (C6 f179) [1,1,1,1,1,0,1,0,0])),⟨B1p,B7k F F⟩)]) (by kernel_rfl) (B4 (C9f F fr hn F) C5))) (fun x=>by kernel_rfl)
def E0D:Sig:=A4E Y6 false (some (0,5)) [C9]
def D2x(F:Nat):Contract:=B7 E0D fun x=>Y4 F x.1
def D92(F:Nat):Cx:={ types:=tys,call:=A5n [],own:=[2,5],ntmps:=(0,8),nils:=[3] }
theorem E0E(F:Nat):A6 (D92 F):=A2 A3
theorem s86(F:Nat):CSound prog 86 (D2x F) :=
 A6v (fn:=f86) (code:=(C6 f86)) (cx:=D92 F) (hs:=A4 []) (js:=A4 []) func86 (by kernel_rfl) (by kernel_rfl) (A0a _ rfl) (E0E F) mix (by kernel_rfl) (by kernel_rfl) (fun fr hn=>(B1 (by kernel_rfl))) (fun a l=>by kernel_rfl) (by kernel_rfl) (by kernel_rfl)
def D6K:Sig:=⟨[.ro,.ro],[(0,.d C9),(1,.d B0)],false,some (0,5),[C9]⟩
def C27(F:Nat):Contract:=B7 D6K fun x=>P5 F x.1 x.2.1
def D93(F:Nat):Cx:=B5 [(86,D2x F),(108,C5Q F)] [4,7,8] (0,24)
theorem D94(F:Nat):A6 (D93 F):=A2 (A1 (s86 F) (A1 (D9S F) A3))
def B7l:A5:=[(1,.d B0),(5,.own 5 Y6 5)]
def B7m:A5:=[(1,.d B0),(5,.own 5 Y6 5)]
def C4L:U5:=[(2,B7m)]
def C4N(F n:Nat):D7 B7l:=fun x K=>O8 F (fun y1 y5=>K (.exit 0) (enc B7m (y1,y5,()))) n x.1 x.2.1
def D95(F:Nat):E4 D6K:=A4 [(2,⟨B7l,C4N F F⟩)]
theorem D2y(F:Nat)(fr:Frm)(hn:(D93 F).ntmps=fr.n)(n:Nat):G0 D6K f48 fr [1,1,0,0,0] B7l (C4N F n) :=
 G6 (D95 F) (A4 []) C4L rfl (D94 F) hn (m:=fun n=>C4N F n) (fun _ _=>rfl) (fun n x K=>by kernel_rfl) (B1 (by kernel_rfl)) n
theorem s48(F:Nat):CSound prog 48 (C27 F) :=
 B3 (fn:=f48) (D95 F) (A4 []) rfl func48 (by kernel_rfl) (D94 F) (fun fr hn=>(E2 (l:=[((.loop (sub (C6 f48) [1,1,0,0,0])),⟨B7l,C4N F F⟩)]) (by kernel_rfl) (B4 (D2y F fr hn F) C5))) (fun x=>by kernel_rfl)
def C4O:Sig:=⟨[.ro],[(0,.d O3)],false,some (0,5),[C9,A0]⟩
def B3C(F:Nat):Contract:=B7 C4O fun x=>D4 F x.1
def C9g(F:Nat):Cx:=B5 [(177,C6d F),(178,C24 F),(179,C6e F),(48,C27 F)] [2,42,46] (0,59)
theorem C9h(F:Nat):A6 (C9g F):=A2 (A1 (E0B F) (A1 (D91 F) (A1 (E0C F) (A1 (s48 F) A3))))
def B1q:A5:=[(0,.d O3),(4,.d A0),(16,.d O3),(17,.d A0),(18,.d A0)]
def B3D:A5:=[(0,.d O3),(4,.d A0)]
def C28:U5:=[(2,B3D)]
def B7n(F n:Nat):D7 B1q:=fun x K=>L8 F (fun y0 y4=>K (.exit 0) (enc B3D (y0,y4,()))) n x.1 x.2.1 x.2.2.1 x.2.2.2.1 x.2.2.2.2.1
def A78:A5:=[(10,.own 10 Y6 5),(47,.d O3),(48,.d A0),(49,.d A0)]
def A9G:A5:=[(10,.own 10 Y6 5)]
def B9a:U5:=[(4,A9G)]
def B1r(F n:Nat):D7 A78:=fun x K=>K8 F (fun y10=>K (.exit 2) (enc A9G (y10,()))) n x.1 x.2.1 x.2.2.1 x.2.2.2.1
def C9i(F:Nat):E4 C4O:=A4 [(5,⟨B1q,B7n F F⟩),(15,⟨A78,B1r F F⟩)]
theorem C9j(F:Nat)(fr:Frm)(hn:(C9g F).ntmps=fr.n)(n:Nat):G0 C4O f110 fr [1,1,1,0,1,0,0] B1q (B7n F n) :=
 G6 (C9i F) (A4 []) C28 rfl (C9h F) hn (m:=fun n=>B7n F n) (fun _ _=>rfl) (fun n x K=>by kernel_rfl) (B1 (by kernel_rfl)) n
theorem C4P(F:Nat)(fr:Frm)(hn:(C9g F).ntmps=fr.n)(n:Nat):G0 C4O f110 fr [1,1,1,1,1,1,1,1,0,1,0,0] A78 (B1r F n) :=
 G6 (C9i F) (A4 []) B9a rfl (C9h F) hn (m:=fun n=>B1r F n) (fun _ _=>rfl) (fun n x K=>by kernel_rfl) (B1 (by kernel_rfl)) n
theorem D4r(F:Nat):CSound prog 110 (B3C F) :=
 B3 (fn:=f110) (C9i F) (A4 []) rfl func110 (by kernel_rfl) (C9h F) (fun fr hn=>(E2 (l:=[((.loop (sub (C6 f110) [1,1,1,0,1,0,0])),⟨B1q,B7n F F⟩),((.loop (sub (C6 f110) [1,1,1,1,1,1,1,1,0,1,0,0])),⟨A78,B1r F F⟩)]) (by kernel_rfl) (B4 (C9j F fr hn F) (B4 (C4P F fr hn F) C5)))) (fun x=>by kernel_rfl)
def C9k:Sig:=⟨[.ro,.ro],[(0,.d C9),(1,.d C9)],true,none,[.bool]⟩
def C29(F:Nat):Contract:=B7 C9k fun x=>D0 F x.1 x.2.1
def D2z(F:Nat):Cx:=B5 [] [] (0,26)
theorem D2A(F:Nat):A6 (D2z F):=A2 A3
def B1s:A5:=[(0,.d C9),(1,.d C9),(12,.d A0),(13,.d A0)]
def B3E:A5:=[]
def A8e:A5:=[(4,.d .bool)]
def C2a:U5:=[(2,B3E),(1,A8e)]
def B7o(F n:Nat):D7 B1s:=fun x K=>I3 F (K (.exit 0) (enc B3E (()))) (fun y4=>K .ret (enc A8e (y4,()))) n x.1 x.2.1 x.2.2.1 x.2.2.2.1
def D2B(F:Nat):E4 C9k:=A4 [(4,⟨B1s,B7o F F⟩)]
theorem C9l(F:Nat)(fr:Frm)(hn:(D2z F).ntmps=fr.n)(n:Nat):G0 C9k f149 fr [1,1,0,1,0,0] B1s (B7o F n) :=
 G6 (D2B F) (A4 []) C2a rfl (D2A F) hn (m:=fun n=>B7o F n) (fun _ _=>rfl) (fun n x K=>by kernel_rfl) (B1 (by kernel_rfl)) n
theorem D96(F:Nat):CSound prog 149 (C29 F) :=
 B3 (fn:=f149) (D2B F) (A4 []) rfl func149 (by kernel_rfl) (D2A F) (fun fr hn=>(E2 (l:=[((.loop (sub (C6 f149) [1,1,0,1,0,0])),⟨B1s,B7o F F⟩)]) (by kernel_rfl) (B4 (C9l F fr hn F) C5))) (fun x=>by kernel_rfl)
def C9m:Sig:=⟨[.ro,.ro,.ro],[(0,.d C9),(1,.d A0),(2,.d A0)],false,none,[O3,A0,A0]⟩
def B7p(F:Nat):Contract:=B7 C9m fun x=>H9 F x.1 x.2.1 x.2.2.1
def D2C(F:Nat):Cx:=B5 [(203,C6c F),(110,B3C F),(149,C29 F),(202,C6a F)] [6] (0,78)
theorem D2D(F:Nat):A6 (D2C F):=A2 (A1 (E0A F) (A1 (D4r F) (A1 (D96 F) (A1 (E0y F) A3))))
def B1t:A5:=[(0,.d C9),(1,.d A0),(2,.d A0),(14,.d .bool)]
def B3F:A5:=[(0,.d C9),(1,.d A0),(2,.d A0)]
def A8f:A5:=[(6,.own 6 B0 55),(7,.d A0),(8,.d A0)]
def C2b:U5:=[(0,B3F),(1,A8f)]
def C2c(F:Nat):D7 B1t:=fun x K=>J4 F (fun y0 y1 y2=>K .normal (enc B3F (y0,y1,y2,()))) (fun y6 y7 y8=>K .ret (enc A8f (y6,y7,y8,()))) x.1 x.2.1 x.2.2.1 x.2.2.2.1
def D2E(F:Nat):E4 C9m:=A4 [(2,⟨B1t,C2c F⟩)]
theorem C9n(F:Nat)(fr:Frm)(hn:(D2C F).ntmps=fr.n):Z7 C9m f145 fr [1,0,0,1] B1t (C2c F) :=
 Z8 (A4 []) (D2E F) C2b rfl (D2D F) hn (fun x K=>by kernel_rfl) (B1 (by kernel_rfl))
theorem D6L(F:Nat):CSound prog 145 (B7p F) :=
 B3 (fn:=f145) (A4 []) (D2E F) rfl func145 (by kernel_rfl) (D2D F) (fun fr hn=>(E2 (l:=[((sub (C6 f145) [1,0,0,1]),⟨B1t,C2c F⟩)]) (by kernel_rfl) (B4 (C9n F fr hn) C5))) (fun x=>by kernel_rfl)
def C9o:Sig:=⟨[.ro,.ro,.ro,.ro],[(0,.d C9),(1,.d A0),(2,.d A0),(3,.d A0)],false,some (0,3),[E0,A0,A0,A0]⟩
def C6f(F:Nat):Contract:=B7 C9o fun x=>A18 F x.1 x.2.1 x.2.2.1 x.2.2.2.1
def D2F(F:Nat):Cx:=B5 [(145,B7p F)] [8,31] (0,61)
theorem D2G(F:Nat):A6 (D2F F):=A2 (A1 (D6L F) A3)
def B1u:A5:=[(3,.d A0),(13,.d A0),(15,.own 15 A0 3),(16,.d A0),(32,.d O3),(33,.d A0),(34,.d A0)]
def B3G:A5:=[(13,.d A0),(15,.own 15 A0 3),(16,.d A0)]
def C2d:U5:=[(2,B3G)]
def B7q(F n:Nat):D7 B1u:=fun x K=>L9 F (fun y13 y15 y16=>K (.exit 0) (enc B3G (y13,y15,y16,()))) n x.1 x.2.1 x.2.2.1 x.2.2.2.1 x.2.2.2.2.1 x.2.2.2.2.2.1 x.2.2.2.2.2.2.1
def D2H(F:Nat):E4 C9o:=A4 [(7,⟨B1u,B7q F F⟩)]
theorem C9p(F:Nat)(fr:Frm)(hn:(D2F F).ntmps=fr.n)(n:Nat):G0 C9o f153 fr [1,1,1,1,1,0,1,0,0] B1u (B7q F n) :=
 G6 (D2H F) (A4 []) C2d rfl (D2G F) hn (m:=fun n=>B7q F n) (fun _ _=>rfl) (fun n x K=>by kernel_rfl) (B1 (by kernel_rfl)) n
theorem E0F(F:Nat):CSound prog 153 (C6f F) :=
 B3 (fn:=f153) (D2H F) (A4 []) rfl func153 (by kernel_rfl) (D2G F) (fun fr hn=>(E2 (l:=[((.loop (sub (C6 f153) [1,1,1,1,1,0,1,0,0])),⟨B1u,B7q F F⟩)]) (by kernel_rfl) (B4 (C9p F fr hn F) C5))) (fun x=>by kernel_rfl)
def C9q:Sig:=⟨[.wr 2],[(0,.own 0 A0 2)],false,none,[E0]⟩
def C6g(F:Nat):Contract:=B7 C9q fun x=>A1G F x.1
def D2I(F:Nat):Cx:=B5 [(182,B3q F)] [] (1,23)
theorem D2J(F:Nat):A6 (D2I F):=A2 (A1 (D6k F) A3)
def B1v:A5:=[(0,.own 0 A0 2),(2,.d A0)]
def B3H:A5:=[(0,.own 0 A0 2)]
def C2e:U5:=[(2,B3H)]
def B7r(F n:Nat):D7 B1v:=fun x K=>L3 F (fun y0=>K (.exit 0) (enc B3H (y0,()))) n x.1 x.2.1
def D2K(F:Nat):E4 C9q:=A4 [(1,⟨B1v,B7r F F⟩)]
theorem C9r(F:Nat)(fr:Frm)(hn:(D2I F).ntmps=fr.n)(n:Nat):G0 C9q f148 fr [1,0,0] B1v (B7r F n) :=
 G6 (D2K F) (A4 []) C2e rfl (D2J F) hn (m:=fun n=>B7r F n) (fun _ _=>rfl) (fun n x K=>by kernel_rfl) (B1 (by kernel_rfl)) n
theorem E0G(F:Nat):CSound prog 148 (C6g F) :=
 B3 (fn:=f148) (D2K F) (A4 []) rfl func148 (by kernel_rfl) (D2J F) (fun fr hn=>(E2 (l:=[((.loop (sub (C6 f148) [1,0,0])),⟨B1v,B7r F F⟩)]) (by kernel_rfl) (B4 (C9r F fr hn F) C5))) (fun x=>by kernel_rfl)
def D6N:Sig:=⟨[.ro,.ro],[(0,.d A0),(1,.d A0)],true,none,[B0]⟩
def C6h(F:Nat):Contract:=B7 D6N fun x=>A3N F x.1 x.2.1
def D6O(F:Nat):Cx:=B5 [] [] (0,10)
theorem D6P(F:Nat):A6 (D6O F):=A2 A3
theorem E0H(F:Nat):CSound prog 236 (C6h F) :=
 B3 (fn:=f236) (A4 []) (A4 []) rfl func236 (by kernel_rfl) (D6P F) (fun fr hn=>(B1 (by kernel_rfl))) (fun x=>by kernel_rfl)
def C9s:Sig:=⟨[.wr 2],[(0,.own 0 A0 2)],false,none,[E0]⟩
def C6i(F:Nat):Contract:=B7 C9s fun x=>Q7 F x.1
def D2L(F:Nat):Cx:=B5 [(236,C6h F)] [] (1,24)
theorem D2N(F:Nat):A6 (D2L F):=A2 (A1 (E0H F) A3)
def B1w:A5:=[(0,.own 0 A0 2),(2,.d A0)]
def B3I:A5:=[(0,.own 0 A0 2)]
def C2f:U5:=[(2,B3I)]
def B7s(F n:Nat):D7 B1w:=fun x K=>F2 F (fun y0=>K (.exit 0) (enc B3I (y0,()))) n x.1 x.2.1
def D2O(F:Nat):E4 C9s:=A4 [(1,⟨B1w,B7s F F⟩)]
theorem C9t(F:Nat)(fr:Frm)(hn:(D2L F).ntmps=fr.n)(n:Nat):G0 C9s f205 fr [1,0,0] B1w (B7s F n) :=
 G6 (D2O F) (A4 []) C2f rfl (D2N F) hn (m:=fun n=>B7s F n) (fun _ _=>rfl) (fun n x K=>by kernel_rfl) (B1 (by kernel_rfl)) n
theorem E0I(F:Nat):CSound prog 205 (C6i F) :=
 B3 (fn:=f205) (D2O F) (A4 []) rfl func205 (by kernel_rfl) (D2N F) (fun fr hn=>(E2 (l:=[((.loop (sub (C6 f205) [1,0,0])),⟨B1w,B7s F F⟩)]) (by kernel_rfl) (B4 (C9t F fr hn F) C5))) (fun x=>by kernel_rfl)
def B7t:Sig:=⟨[.wr 2,.ro,.ro],[(0,.own 0 A0 2),(1,.d A0),(2,.fn 205)],false,none,[E0]⟩
def C2g(F:Nat):Contract:=B7 B7t fun x=>A1w F x.1 x.2.1
def C6j(F:Nat):Cx:=B5 [(205,C6i F)] [] (1,13)
theorem C6k(F:Nat):A6 (C6j F):=A2 (A1 (E0I F) A3)
def A79:A5:=[(0,.own 0 A0 2),(2,.fn 205),(6,.d A0),(7,.d A0)]
def A9H:A5:=[(0,.own 0 A0 2)]
def B9b:U5:=[(2,A9H)]
def B1x(F n:Nat):D7 A79:=fun x K=>J5 F (fun y0=>K (.exit 0) (enc A9H (y0,()))) n x.1 x.2.2.1 x.2.2.2.1
def C6l(F:Nat):E4 B7t:=A4 [(1,⟨A79,B1x F F⟩)]
def C6m(F:Nat):E4 B7t:=A4 []
theorem C4Q(F:Nat)(fr:Frm)(hn:(C6j F).ntmps=fr.n)(n:Nat):G0 B7t f147 fr [1,0,0] A79 (B1x F n) :=
 G6 (C6l F) (C6m F) B9b rfl (C6k F) hn (m:=fun n=>B1x F n) (fun _ _=>rfl) (fun n x K=>by kernel_rfl) (B1 (by kernel_rfl)) n
theorem D6Q(F:Nat):CSound prog 147 (C2g F) :=
 B3 (fn:=f147) (C6l F) (C6m F) rfl func147 (by kernel_rfl) (C6k F) (fun fr hn=>(E2 (l:=[((.loop (sub (C6 f147) [1,0,0])),⟨A79,B1x F F⟩)]) (by kernel_rfl) (B4 (C4Q F fr hn F) C5))) (fun x=>by kernel_rfl)
def B7u:Sig:=⟨[.wr 2,.ro,.ro],[(0,.own 0 A0 2),(1,.d A0),(2,.fn 148)],false,none,[E0]⟩
def C2h(F:Nat):Contract:=B7 B7u fun x=>O9 F x.1 x.2.1
def C6n(F:Nat):Cx:=B5 [(148,C6g F)] [] (1,13)
theorem C6o(F:Nat):A6 (C6n F):=A2 (A1 (E0G F) A3)
def A7a:A5:=[(0,.own 0 A0 2),(2,.fn 148),(6,.d A0),(7,.d A0)]
def A9I:A5:=[(0,.own 0 A0 2)]
def B9c:U5:=[(2,A9I)]
def B1y(F n:Nat):D7 A7a:=fun x K=>J6 F (fun y0=>K (.exit 0) (enc A9I (y0,()))) n x.1 x.2.2.1 x.2.2.2.1
def C6p(F:Nat):E4 B7u:=A4 [(1,⟨A7a,B1y F F⟩)]
def C6q(F:Nat):E4 B7u:=A4 []
theorem C4S(F:Nat)(fr:Frm)(hn:(C6n F).ntmps=fr.n)(n:Nat):G0 B7u f147 fr [1,0,0] A7a (B1y F n) :=
 G6 (C6p F) (C6q F) B9c rfl (C6o F) hn (m:=fun n=>B1y F n) (fun _ _=>rfl) (fun n x K=>by kernel_rfl) (B1 (by kernel_rfl)) n
theorem D6S(F:Nat):CSound prog 147 (C2h F) :=
 B3 (fn:=f147) (C6p F) (C6q F) rfl func147 (by kernel_rfl) (C6o F) (fun fr hn=>(E2 (l:=[((.loop (sub (C6 f147) [1,0,0])),⟨A7a,B1y F F⟩)]) (by kernel_rfl) (B4 (C4S F fr hn F) C5))) (fun x=>by kernel_rfl)
def D6T:Sig:=A4E A0 false (some (0,2)) [E0]
def C6r(F:Nat):Contract:=B7 D6T fun x=>W9 F x.1
def D2P(F:Nat):Cx:={ types:=tys,call:=A5n [],own:=[2,5],ntmps:=(0,8),nils:=[3] }
theorem D6U(F:Nat):A6 (D2P F):=A2 A3
theorem E0J(F:Nat):CSound prog 204 (C6r F) :=
 A6v (fn:=f204) (code:=(C6 f204)) (cx:=D2P F) (hs:=A4 []) (js:=A4 []) func204 (by kernel_rfl) (by kernel_rfl) (A0a _ rfl) (D6U F) mix (by kernel_rfl) (by kernel_rfl) (fun fr hn=>(B1 (by kernel_rfl))) (fun a l=>by kernel_rfl) (by kernel_rfl) (by kernel_rfl)
def C9u:Sig:=⟨[.ro,.ro],[(0,.d E0),(1,.d A0)],false,some (0,55),[O3,.bool]⟩
def C6s(F:Nat):Contract:=B7 C9u fun x=>K9 F x.1 x.2.1
def D2Q(F:Nat):Cx:=B5 [(204,C6r F),(147,C2g F),(109,A9C F)] [4,17,23] (0,38)
theorem D2S(F:Nat):A6 (D2Q F):=A2 (A1 (E0J F) (A1 (D6Q F) (A1 (D4o F) A3)))
def B1z:A5:=[(7,.own 7 B0 55),(24,.own 24 A0 2),(25,.d A0),(26,.d A0)]
def B3J:A5:=[(7,.own 7 B0 55)]
def C2i:U5:=[(2,B3J)]
def B7v(F n:Nat):D7 B1z:=fun x K=>H6 F (fun y7=>K (.exit 0) (enc B3J (y7,()))) n x.1 x.2.1 x.2.2.1 x.2.2.2.1
def D2T(F:Nat):E4 C9u:=A4 [(7,⟨B1z,B7v F F⟩)]
theorem C9v(F:Nat)(fr:Frm)(hn:(D2Q F).ntmps=fr.n)(n:Nat):G0 C9u f150 fr [1,1,1,1,1,0,1,0,0] B1z (B7v F n) :=
 G6 (D2T F) (A4 []) C2i rfl (D2S F) hn (m:=fun n=>B7v F n) (fun _ _=>rfl) (fun n x K=>by kernel_rfl) (B1 (by kernel_rfl)) n
theorem E0K(F:Nat):CSound prog 150 (C6s F) :=
 B3 (fn:=f150) (D2T F) (A4 []) rfl func150 (by kernel_rfl) (D2S F) (fun fr hn=>(E2 (l:=[((.loop (sub (C6 f150) [1,1,1,1,1,0,1,0,0])),⟨B1z,B7v F F⟩)]) (by kernel_rfl) (B4 (C9v F fr hn F) C5))) (fun x=>by kernel_rfl)
def D6V:Sig:=⟨[.ro],[(0,.d E0)],false,some (0,5),[C9,A0]⟩
def C9w(F:Nat):Contract:=B7 D6V fun x=>K6 F x.1
def D6W(F:Nat):Cx:={ types:=tys,call:=A5n [(150,C6s F),(110,B3C F)],own:=[2,4,39],ntmps:=(0,44),nils:=[4,27] }
theorem D97(F:Nat):A6 (D6W F):=A2 (A1 (E0K F) (A1 (D4r F) A3))
def D2U:A5:=[(0,.d E0),(4,.own 4 Y6 5),(10,.d A0)]
def B1A:A5:=[(4,.own 4 Y6 5)]
def A6b:A5:=[(2,.own 2 Y6 5),(3,.d A0)]
def C4T:U5:=[(2,B1A),(1,A6b)]
def D6X(F n:Nat):D7 D2U:=fun x K=>F1 F (fun y4=>K (.exit 0) (enc B1A (y4,()))) (fun y2 y3=>K .ret (enc A6b (y2,y3,()))) n x.1 x.2.1 x.2.2.1
def B1B:A5:=[(0,.d E0),(4,.nilS),(10,.d A0)]
def B7w(F n:Nat):D7 B1B:=fun x K=>A0A F (fun y4=>K (.exit 0) (enc B1A (y4,()))) (fun y2 y3=>K .ret (enc A6b (y2,y3,()))) n x.1 x.2.2.1
def D98(F:Nat):E4 D6V:=A4 [(3,⟨B1B,B7w F F⟩)]
theorem D2V(F:Nat)(fr:Frm)(hn:(D6W F).ntmps=fr.n)(n:Nat):G0 D6V f91 fr [1,1,0,1,0,0] B1B (B7w F n) :=
 B8I (cx:=D6W F) (hs:=D98 F) (js:=A4 []) (outs:=C4T) (A0a _ rfl) (D97 F) hn mix (m:=fun n=>D6X F n) (m0:=fun n=>B7w F n) (fun _ _=>rfl) (fun n x K=>by kernel_rfl) (fun n x K=>by kernel_rfl) (B1 (by kernel_rfl)) n
theorem s91(F:Nat):CSound prog 91 (C9w F) :=
 B3 (fn:=f91) (D98 F) (A4 []) rfl func91 (by kernel_rfl) (D97 F) (fun fr hn=>(E2 (l:=[((.loop (sub (C6 f91) [1,1,0,1,0,0])),⟨B1B,B7w F F⟩)]) (by kernel_rfl) (B4 (D2V F fr hn F) C5))) (fun x=>by kernel_rfl)
def D0A:Sig:=⟨[.ro,.ro,.ro],[(0,.d C9),(1,.d A0),(2,.d A0)],false,none,[E0,A0,A0]⟩
def D2W(F:Nat):Contract:=B7 D0A fun x=>X7 F x.1 x.2.1 x.2.2.1
def D4s(F:Nat):Cx:=B5 [(145,B7p F),(146,A9D F),(147,C2h F),(91,C9w F),(149,C29 F)] [6,57] (0,96)
theorem D4t(F:Nat):A6 (D4s F):=A2 (A1 (D6L F) (A1 (D4p F) (A1 (D6S F) (A1 (s91 F) (A1 (D96 F) A3)))))
def B7x:A5:=[(0,.d C9),(1,.d A0),(2,.d A0),(16,.d .bool)]
def B7y:A5:=[(0,.d C9),(1,.d A0),(2,.d A0)]
def A9J:A5:=[(6,.own 6 A0 2),(7,.d A0),(8,.d A0)]
def C4U:U5:=[(0,B7y),(1,A9J)]
def C9x(F:Nat):D7 B7x:=fun x K=>L0 F (fun y0 y1 y2=>K .normal (enc B7y (y0,y1,y2,()))) (fun y6 y7 y8=>K .ret (enc A9J (y6,y7,y8,()))) x.1 x.2.1 x.2.2.1 x.2.2.2.1
def B1C:A5:=[(0,.d C9),(1,.d A0),(10,.d A0),(12,.own 12 A0 2),(58,.d O3),(59,.d A0),(60,.d A0)]
def B3K:A5:=[(0,.d C9),(1,.d A0),(10,.d A0),(12,.own 12 A0 2)]
def C2j:U5:=[(3,B3K)]
def B7z(F n:Nat):D7 B1C:=fun x K=>J7 F (fun y0 y1 y10 y12=>K (.exit 1) (enc B3K (y0,y1,y10,y12,()))) n x.1 x.2.1 x.2.2.1 x.2.2.2.1 x.2.2.2.2.1 x.2.2.2.2.2.1 x.2.2.2.2.2.2.1
def B1D:A5:=[(0,.d C9),(1,.d A0),(10,.d A0),(12,.own 12 A0 2),(58,.d O3),(59,.d A0),(60,.d A0)]
def B3L:A5:=[(0,.d C9),(1,.d A0),(10,.d A0),(12,.own 12 A0 2)]
def C2k:U5:=[(0,B3L)]
def C2l(F:Nat):D7 B1D:=fun x K=>J8 F (fun y0 y1 y10 y12=>K .normal (enc B3L (y0,y1,y10,y12,()))) x.1 x.2.1 x.2.2.1 x.2.2.2.1 x.2.2.2.2.1 x.2.2.2.2.2.1 x.2.2.2.2.2.2.1
def D4u(F:Nat):E4 D0A:=A4 [(12,⟨B1C,B7z F F⟩)]
def D4v(F:Nat):E4 D0A:=A4 [(2,⟨B7x,C9x F⟩),(12,⟨B1D,C2l F⟩)]
theorem D2X(F:Nat)(fr:Frm)(hn:(D4s F).ntmps=fr.n):Z7 D0A f90 fr [1,0,0,1] B7x (C9x F) :=
 Z8 (D4u F) (D4v F) C4U rfl (D4t F) hn (fun x K=>by kernel_rfl) (B1 (by kernel_rfl))
theorem C9y(F:Nat)(fr:Frm)(hn:(D4s F).ntmps=fr.n)(n:Nat):G0 D0A f90 fr [1,1,1,1,1,0,1,0,0] B1C (B7z F n) :=
 G6 (D4u F) (D4v F) C2j rfl (D4t F) hn (m:=fun n=>B7z F n) (fun _ _=>rfl) (fun n x K=>by kernel_rfl) (B1 (by kernel_rfl)) n
theorem C9z(F:Nat)(fr:Frm)(hn:(D4s F).ntmps=fr.n):Z7 D0A f90 fr [1,1,1,1,1,0,1] B1D (C2l F) :=
 Z8 (D4u F) (D4v F) C2k rfl (D4t F) hn (fun x K=>by kernel_rfl) (E2 (l:=[((.loop (sub (C6 f90) [1,1,1,1,1,0,1,0,0])),⟨B1C,B7z F F⟩)]) (by kernel_rfl) (B4 (C9y F fr hn F) C5))
theorem s90(F:Nat):CSound prog 90 (D2W F) :=
 B3 (fn:=f90) (D4u F) (D4v F) rfl func90 (by kernel_rfl) (D4t F) (fun fr hn=>(E2 (l:=[((sub (C6 f90) [1,0,0,1]),⟨B7x,C9x F⟩),((sub (C6 f90) [1,1,1,1,1,0,1]),⟨B1D,C2l F⟩)]) (by kernel_rfl) (B4 (D2X F fr hn) (B4 (C9z F fr hn) C5)))) (fun x=>by kernel_rfl)
def D6Y:Sig:=⟨[.ro,.ro,.ro],[(0,.d C9),(1,.d A0),(2,.d A0)],false,some (0,126),[(.slice C2),A0,A0]⟩
def D2Y(F:Nat):Contract:=B7 D6Y fun x=>A08 F x.1 x.2.1 x.2.2.1
def D99(F:Nat):Cx:=B5 [(151,C65 F),(152,C69 F),(153,C6f F),(90,D2W F)] [6,62] (0,83)
theorem D9a(F:Nat):A6 (D99 F):=A2 (A1 (E0t F) (A1 (E0x F) (A1 (E0F F) (A1 (s90 F) A3))))
def B1E:A5:=[(1,.d A0),(11,.d E0),(13,.d E0),(14,.own 14 C2 126),(64,.d A0),(65,.d A0)]
def B3N:A5:=[(1,.d A0),(14,.own 14 C2 126)]
def C2m:U5:=[(3,B3N)]
def B7A(F n:Nat):D7 B1E:=fun x K=>I4 F (fun y1 y14=>K (.exit 1) (enc B3N (y1,y14,()))) n x.1 x.2.1 x.2.2.1 x.2.2.2.1 x.2.2.2.2.1 x.2.2.2.2.2.1
def D9b(F:Nat):E4 D6Y:=A4 [(16,⟨B1E,B7A F F⟩)]
theorem C9A(F:Nat)(fr:Frm)(hn:(D99 F).ntmps=fr.n)(n:Nat):G0 D6Y f96 fr [1,1,1,1,1,1,1,1,1,0,1,0,0] B1E (B7A F n) :=
 G6 (D9b F) (A4 []) C2m rfl (D9a F) hn (m:=fun n=>B7A F n) (fun _ _=>rfl) (fun n x K=>by kernel_rfl) (B1 (by kernel_rfl)) n
theorem s96(F:Nat):CSound prog 96 (D2Y F) :=
 B3 (fn:=f96) (D9b F) (A4 []) rfl func96 (by kernel_rfl) (D9a F) (fun fr hn=>(E2 (l:=[((.loop (sub (C6 f96) [1,1,1,1,1,1,1,1,1,0,1,0,0])),⟨B1E,B7A F F⟩)]) (by kernel_rfl) (B4 (C9A F fr hn F) C5))) (fun x=>by kernel_rfl)
def D6Z:Sig:=⟨[.ro,.ro],[(0,.d (.int .u32)),(1,.d (.int .u32))],true,none,[(.int .u32),(.int .u32)]⟩
def D2Z(F:Nat):Contract:=B7 D6Z fun x=>B98 F x.1 x.2.1
def D70(F:Nat):Cx:=B5 [] [] (0,17)
theorem D71(F:Nat):A6 (D70 F):=A2 A3
theorem E1U(F:Nat):CSound prog 419 (D2Z F) :=
 B3 (fn:=f419) (A4 []) (A4 []) rfl func419 (by kernel_rfl) (D71 F) (fun fr hn=>(B1 (by kernel_rfl))) (fun x=>by kernel_rfl)
def D72:Sig:=⟨[.ro,.ro],[(0,.d B0),(1,.d B0)],true,none,[B0,B0]⟩
def D30(F:Nat):Contract:=B7 D72 fun x=>B0V F x.1 x.2.1
def D73(F:Nat):Cx:=B5 [(189,C1n F)] [] (0,30)
theorem D74(F:Nat):A6 (D73 F):=A2 (A1 (D8L F) A3)
theorem E0L(F:Nat):CSound prog 418 (D30 F) :=
 B3 (fn:=f418) (A4 []) (A4 []) rfl func418 (by kernel_rfl) (D74 F) (fun fr hn=>(B1 (by kernel_rfl))) (fun x=>by kernel_rfl)
def D75:Sig:=⟨[.ro,.ro],[(0,.d E0),(1,.d A0)],false,some (0,2),[E0]⟩
def C6t(F:Nat):Contract:=B7 D75 fun x=>U3 F x.1 x.2.1
theorem mul_one(F:Nat)(n:Nat)(h:n≤65536):B0V F 1 (n:Int)=some (0,(n:Int),()):=by
 have a1:A0q .u64 1 32=0:=by decide
 have a2:A6I .u64 1 4294967295=1:=by decide
 have a3:A0q .u64 (n:Int) 32=0:=by
  unfold A0q
  rw [Int.fdiv_eq_ediv_of_nonneg _ (by decide)]
  exact Int.ediv_eq_zero_of_lt (by omega) (by show(n:Int) < 4294967296; omega)
 have a4:A6I .u64 (n:Int) 4294967295=n:=by
  unfold A6I
  have e:(BitVec.ofInt 64 (n:Int) &&& BitVec.ofInt 64 4294967295).toNat=n:=by
   rw [BitVec.toNat_and,BitVec.ofInt_natCast,BitVec.toNat_ofNat,Nat.mod_eq_of_lt (by omega),show(BitVec.ofInt 64 4294967295).toNat=2 ^ 32 - 1 from by decide,Nat.and_two_pow_sub_one_eq_mod]
   omega
  show IntKind.u64.wrap ((BitVec.ofInt 64 (n:Int) &&& BitVec.ofInt 64 4294967295).toNat:Int)=n
  rw [e]; exact F5 (by omega)
 have a5:A2H .u64 1 (n:Int)=n:=by unfold A2H; rw [Int.one_mul]; exact F5 (by omega)
 have a6:A2H .u64 0 (n:Int)=0:=by unfold A2H; rw [Int.zero_mul]; decide
 have a7:D5 .u64 0 0=0:=by decide
 have a8:A2H .u64 0 0=0:=by decide
 have a9:A0q .u64 0 32=0:=by decide
 have b1:A6I .u64 0 4294967295=0:=by decide
 have b2:A2H .u64 1 0=0:=by decide
 simp only [B0V,A4n,a1,a2,a3,a4,a5,a6,a7,a8,a9,b1,b2,Option.bind_some]
theorem E0N(F:Nat):CSound prog 417 (C6t F):=B40 (mul_one F) (E0L F)
def C2n:Sig:=⟨[.ro],[(0,.d (.slice C2))],false,some (0,2),[E0]⟩
def C6u(F:Nat):Contract:=B7 C2n fun x=>A0X F x.1
def C9B(F:Nat):Cx:=B5 [(417,C6t F)] [2,3] (0,30)
theorem C9C(F:Nat):A6 (C9B F):=A2 (A1 (E0N F) A3)
def B1F:A5:=[(3,.own 3 A0 2),(5,.box 5 C2),(6,.d (.slice C2)),(7,.d A0),(8,.d A0),(19,.d .bool)]
def B3O:A5:=[(3,.own 3 A0 2),(6,.d (.slice C2)),(7,.d A0),(8,.d A0)]
def C2o:U5:=[(0,B3O)]
def C2p(F:Nat):D7 B1F:=fun x K=>Q8 F (fun y3 y6 y7 y8=>K .normal (enc B3O (y3,y6,y7,y8,()))) x.1 x.2.1 x.2.2.1 x.2.2.2.1 x.2.2.2.2.1 x.2.2.2.2.2.1
def B1G:A5:=[(3,.own 3 A0 2),(6,.d (.slice C2)),(7,.d A0),(8,.d A0)]
def B3P:A5:=[(3,.own 3 A0 2)]
def C2q:U5:=[(2,B3P)]
def B7B(F n:Nat):D7 B1G:=fun x K=>H2 F (fun y3=>K (.exit 0) (enc B3P (y3,()))) n x.1 x.2.1 x.2.2.1 x.2.2.2.1
def C9D(F:Nat):E4 C2n:=A4 [(3,⟨B1G,B7B F F⟩)]
def C9E(F:Nat):E4 C2n:=A4 [(6,⟨B1F,C2p F⟩)]
theorem C9F(F:Nat)(fr:Frm)(hn:(C9B F).ntmps=fr.n):Z7 C2n f416 fr [1,1,0,1,0,0,1,1,0,0,1,1] B1F (C2p F) :=
 Z8 (C9D F) (C9E F) C2o rfl (C9C F) hn (fun x K=>by kernel_rfl) (B1 (by kernel_rfl))
theorem C9G(F:Nat)(fr:Frm)(hn:(C9B F).ntmps=fr.n)(n:Nat):G0 C2n f416 fr [1,1,0,1,0,0] B1G (B7B F n) :=
 G6 (C9D F) (C9E F) C2q rfl (C9C F) hn (m:=fun n=>B7B F n) (fun _ _=>rfl) (fun n x K=>by kernel_rfl) (E2 (l:=[((sub (C6 f416) [1,1,0,1,0,0,1,1,0,0,1,1]),⟨B1F,C2p F⟩)]) (by kernel_rfl) (B4 (C9F F fr hn) C5)) n
theorem E0O(F:Nat):CSound prog 416 (C6u F) :=
 B3 (fn:=f416) (C9D F) (C9E F) rfl func416 (by kernel_rfl) (C9C F) (fun fr hn=>(E2 (l:=[((.loop (sub (C6 f416) [1,1,0,1,0,0])),⟨B1G,B7B F F⟩)]) (by kernel_rfl) (B4 (C9G F fr hn F) C5))) (fun x=>by kernel_rfl)
def D76:Sig:=⟨[.ro,.ro,.ro,.ro,.ro],[(0,.d .unit),(1,.d C9),(2,.d A0),(3,.d E0),(4,.d A0)],false,some (0,2),[E0,A0,A0,A0]⟩
def C6v(F:Nat):Contract:=B7 D76 fun x=>P6 F x.1 x.2.1 x.2.2.1 x.2.2.2.1 x.2.2.2.2.1
def D77(F:Nat):Cx:=B5 [(96,D2Y F),(416,C6u F)] [10,30] (0,34)
theorem D78(F:Nat):A6 (D77 F):=A2 (A1 (s96 F) (A1 (E0O F) A3))
theorem E0P(F:Nat):CSound prog 415 (C6v F) :=
 B3 (fn:=f415) (A4 []) (A4 []) rfl func415 (by kernel_rfl) (D78 F) (fun fr hn=>(B1 (by kernel_rfl))) (fun x=>by kernel_rfl)
def D79:Sig:=⟨[.ro],[(0,.d C2)],true,none,[A0]⟩
def C6w(F:Nat):Contract:=B7 D79 fun x=>A25 F x.1
def D7a(F:Nat):Cx:=B5 [] [] (0,5)
theorem D7b(F:Nat):A6 (D7a F):=A2 A3
theorem E0Q(F:Nat):CSound prog 392 (C6w F) :=
 B3 (fn:=f392) (A4 []) (A4 []) rfl func392 (by kernel_rfl) (D7b F) (fun fr hn=>(B1 (by kernel_rfl))) (fun x=>by kernel_rfl)
def D7c:Sig:=⟨[.ro],[(0,.d C2)],true,none,[A0]⟩
def C6x(F:Nat):Contract:=B7 D7c fun x=>A2q F x.1
def D7d(F:Nat):Cx:=B5 [] [] (0,5)
theorem D7e(F:Nat):A6 (D7d F):=A2 A3
theorem E0S(F:Nat):CSound prog 112 (C6x F) :=
 B3 (fn:=f112) (A4 []) (A4 []) rfl func112 (by kernel_rfl) (D7e F) (fun fr hn=>(B1 (by kernel_rfl))) (fun x=>by kernel_rfl)
def B7C:Sig:=⟨[.ro,.ro],[(0,.d (.slice C2)),(1,.fn 112)],false,some (0,2),[E0]⟩
def C2r(F:Nat):Contract:=B7 B7C fun x=>A0g F x.1
def C6y(F:Nat):Cx:=B5 [(112,C6x F)] [4,10] (0,26)
theorem C6z(F:Nat):A6 (C6y F):=A2 (A1 (E0S F) A3)
def A7b:A5:=[(1,.fn 112),(5,.own 5 A0 2),(11,.d (.slice C2)),(12,.d A0),(13,.d A0)]
def A9K:A5:=[(5,.own 5 A0 2)]
def B9d:U5:=[(2,A9K)]
def B1H(F n:Nat):D7 A7b:=fun x K=>F7 F (fun y5=>K (.exit 0) (enc A9K (y5,()))) n x.2.1 x.2.2.1 x.2.2.2.1 x.2.2.2.2.1
def C6A(F:Nat):E4 B7C:=A4 [(3,⟨A7b,B1H F F⟩)]
def C6B(F:Nat):E4 B7C:=A4 []
theorem C4V(F:Nat)(fr:Frm)(hn:(C6y F).ntmps=fr.n)(n:Nat):G0 B7C f111 fr [1,1,0,1,0,0] A7b (B1H F n) :=
 G6 (C6A F) (C6B F) B9d rfl (C6z F) hn (m:=fun n=>B1H F n) (fun _ _=>rfl) (fun n x K=>by kernel_rfl) (B1 (by kernel_rfl)) n
theorem D7f(F:Nat):CSound prog 111 (C2r F) :=
 B3 (fn:=f111) (C6A F) (C6B F) rfl func111 (by kernel_rfl) (C6z F) (fun fr hn=>(E2 (l:=[((.loop (sub (C6 f111) [1,1,0,1,0,0])),⟨A7b,B1H F F⟩)]) (by kernel_rfl) (B4 (C4V F fr hn F) C5))) (fun x=>by kernel_rfl)
def B7D:Sig:=⟨[.ro,.ro],[(0,.d (.slice C2)),(1,.fn 392)],false,some (0,2),[E0]⟩
def C2s(F:Nat):Contract:=B7 B7D fun x=>A0h F x.1
def C6C(F:Nat):Cx:=B5 [(392,C6w F)] [4,10] (0,26)
theorem C6D(F:Nat):A6 (C6C F):=A2 (A1 (E0Q F) A3)
def A7c:A5:=[(1,.fn 392),(5,.own 5 A0 2),(11,.d (.slice C2)),(12,.d A0),(13,.d A0)]
def A9L:A5:=[(5,.own 5 A0 2)]
def B9e:U5:=[(2,A9L)]
def B1I(F n:Nat):D7 A7c:=fun x K=>F8 F (fun y5=>K (.exit 0) (enc A9L (y5,()))) n x.2.1 x.2.2.1 x.2.2.2.1 x.2.2.2.2.1
def C6E(F:Nat):E4 B7D:=A4 [(3,⟨A7c,B1I F F⟩)]
def C6F(F:Nat):E4 B7D:=A4 []
theorem C4W(F:Nat)(fr:Frm)(hn:(C6C F).ntmps=fr.n)(n:Nat):G0 B7D f111 fr [1,1,0,1,0,0] A7c (B1I F n) :=
 G6 (C6E F) (C6F F) B9e rfl (C6D F) hn (m:=fun n=>B1I F n) (fun _ _=>rfl) (fun n x K=>by kernel_rfl) (B1 (by kernel_rfl)) n
theorem D7g(F:Nat):CSound prog 111 (C2s F) :=
 B3 (fn:=f111) (C6E F) (C6F F) rfl func111 (by kernel_rfl) (C6D F) (fun fr hn=>(E2 (l:=[((.loop (sub (C6 f111) [1,1,0,1,0,0])),⟨A7c,B1I F F⟩)]) (by kernel_rfl) (B4 (C4W F fr hn F) C5))) (fun x=>by kernel_rfl)
def D7h:Sig:=⟨[.ro],[(0,.d (.slice C2))],false,some (0,2),[E0]⟩
def C2t(F:Nat):Contract:=B7 D7h fun x=>A0B F x.1
def D7i(F:Nat):Cx:=B5 [(111,C2s F)] [2,4] (0,5)
theorem D7j(F:Nat):A6 (D7i F):=A2 (A1 (D7g F) A3)
theorem D9c(F:Nat):CSound prog 391 (C2t F) :=
 B3 (fn:=f391) (A4 []) (A4 []) rfl func391 (by kernel_rfl) (D7j F) (fun fr hn=>(B1 (by kernel_rfl))) (fun x=>by kernel_rfl)
def D7k:Sig:=⟨[.ro],[(0,.d A0)],true,none,[.bool]⟩
def C6G(F:Nat):Contract:=B7 D7k fun x=>A0C F x.1
def D7l(F:Nat):Cx:=B5 [] [] (0,9)
theorem D7m(F:Nat):A6 (D7l F):=A2 A3
theorem E0T(F:Nat):CSound prog 116 (C6G F) :=
 B3 (fn:=f116) (A4 []) (A4 []) rfl func116 (by kernel_rfl) (D7m F) (fun fr hn=>(B1 (by kernel_rfl))) (fun x=>by kernel_rfl)
def E0U:Sig:=⟨[.ro],[(0,.d A0)],true,none,[(.pair A0 (.pair A0 C2)),A0]⟩
def D31(F:Nat):Contract:=B7 E0U fun x=>A2r F x.1
def E0V(F:Nat):Cx:=B5 [(116,C6G F)] [] (0,10)
theorem E0W(F:Nat):A6 (E0V F):=A2 (A1 (E0T F) A3)
theorem s55(F:Nat):CSound prog 55 (D31 F) :=
 B3 (fn:=f55) (A4 []) (A4 []) rfl func55 (by kernel_rfl) (E0W F) (fun fr hn=>(B1 (by kernel_rfl))) (fun x=>by kernel_rfl)
def D7n:Sig:=⟨[.ro],[(0,.d (.pair A0 (.pair A0 C2)))],true,none,[.bool]⟩
def C6H(F:Nat):Contract:=B7 D7n fun x=>A0D F x.1
def D7o(F:Nat):Cx:=B5 [(68,B5x F)] [] (0,13)
theorem D7p(F:Nat):A6 (D7o F):=A2 (A1 (s68 F) A3)
theorem E0X(F:Nat):CSound prog 117 (C6H F) :=
 B3 (fn:=f117) (A4 []) (A4 []) rfl func117 (by kernel_rfl) (D7p F) (fun fr hn=>(B1 (by kernel_rfl))) (fun x=>by kernel_rfl)
def D7q:Sig:=⟨[.ro,.ro],[(0,.d A0),(1,.d A0)],true,none,[A0]⟩
def C6I(F:Nat):Contract:=B7 D7q fun x=>A57 F x.1 x.2.1
def D7r(F:Nat):Cx:=B5 [] [] (0,13)
theorem D7s(F:Nat):A6 (D7r F):=A2 A3
theorem E0Y(F:Nat):CSound prog 118 (C6I F) :=
 B3 (fn:=f118) (A4 []) (A4 []) rfl func118 (by kernel_rfl) (D7s F) (fun fr hn=>(B1 (by kernel_rfl))) (fun x=>by kernel_rfl)
def E0Z:Sig:=⟨[.ro],[(0,.d (.pair A0 (.pair A0 C2)))],false,some (0,126),[(.slice C2)]⟩
def D32(F:Nat):Contract:=B7 E0Z fun x=>P7 F x.1
def E10(F:Nat):Cx:=B5 [(118,C6I F)] [2,14] (0,15)
theorem E11(F:Nat):A6 (E10 F):=A2 (A1 (E0Y F) A3)
theorem s57(F:Nat):CSound prog 57 (D32 F) :=
 B3 (fn:=f57) (A4 []) (A4 []) rfl func57 (by kernel_rfl) (E11 F) (fun fr hn=>(B1 (by kernel_rfl))) (fun x=>by kernel_rfl)
def D7t:Sig:=⟨[.ro,.ro],[(0,.d (.pair A0 (.pair A0 C2))),(1,.d A0)],false,some (1,126),[(.pair A0 (.pair A0 C2)),(.slice C2)]⟩
def D7u(F:Nat):Contract:=B7 D7t fun x=>K2 F x.1 x.2.1
def D9d(F:Nat):Cx:=B5 [(117,C6H F),(57,D32 F)] [5,33] (0,34)
theorem D9e(F:Nat):A6 (D9d F):=A2 (A1 (E0X F) (A1 (s57 F) A3))
def B7E:A5:=[(1,.d A0),(2,.box 2 (.pair A0 (.pair A0 C2))),(4,.box 4 (.pair A0 (.pair A0 C2)))]
def A9N:A5:=[(4,.box 4 (.pair A0 (.pair A0 C2))),(5,.own 5 C2 126)]
def C4X:U5:=[(1,A9N)]
def C9H(F:Nat):D7 B7E:=fun x K=>U8 F (fun y4 y5=>K .ret (enc A9N (y4,y5,()))) x.1 x.2.1 x.2.2.1
def D9f(F:Nat):E4 D7t:=A4 [(5,⟨B7E,C9H F⟩)]
theorem D33(F:Nat)(fr:Frm)(hn:(D9d F).ntmps=fr.n):Z7 D7t f56 fr [1,1] B7E (C9H F) :=
 Z8 (A4 []) (D9f F) C4X rfl (D9e F) hn (fun x K=>by kernel_rfl) (B1 (by kernel_rfl))
theorem s56(F:Nat):CSound prog 56 (D7u F) :=
 B3 (fn:=f56) (A4 []) (D9f F) rfl func56 (by kernel_rfl) (D9e F) (fun fr hn=>(E2 (l:=[((sub (C6 f56) [1,1]),⟨B7E,C9H F⟩)]) (by kernel_rfl) (B4 (D33 F fr hn) C5))) (fun x=>by kernel_rfl)
def E12:Sig:=⟨[.ro],[(0,.d E0)],false,none,[.fnc]⟩
def C9I(F:Nat):Contract:=B7 E12 fun x=>N5 F x.1
theorem s59(F:Nat):CSound prog 59 (C9I F):=B3Z
def E13:Sig:=⟨[.ro,.ro,.ro],[(0,.d (.pair .fnc (.pair .fnc .unit))),(1,.d (.pair A0 (.pair A0 C2))),(2,.d .fnc)],false,some (0,126),[(.slice C2)]⟩
noncomputable def D34 (F:Nat):Contract:=B7 E13 fun x=>A58 F x.1 x.2.1 x.2.2.1
theorem s58(F:Nat):CSound prog 58 (D34 F):=B1V (s56 F) (s57 F)
def E14:Sig:=⟨[.ro,.ro],[(0,.d E0),(1,.d A0)],false,some (0,126),[(.slice C2),A0]⟩
noncomputable def C9J (F:Nat):Contract:=B7 E14 fun x=>A0o F x.1 x.2.1
noncomputable def E15 (F:Nat):Cx:=B5 [(55,D31 F),(59,C9I F),(58,D34 F)] [4,27] (0,28)
theorem E16(F:Nat):A6 (E15 F):=A2 (A1 (s55 F) (A1 (s59 F) (A1 (s58 F) A3)))
theorem s16(F:Nat):CSound prog 16 (C9J F) :=
 B3 (fn:=f16) (A4 []) (A4 []) rfl func16 (by kernel_rfl) (E16 F) (fun fr hn=>(B1 (by kernel_rfl))) (fun x=>by kernel_rfl)
def C9K:Sig:=⟨[.ro,.ro],[(0,.d E0),(1,.d A0)],true,none,[A0]⟩
def C6J(F:Nat):Contract:=B7 C9K fun x=>A59 F x.1 x.2.1
def D35(F:Nat):Cx:=B5 [] [] (0,30)
theorem D36(F:Nat):A6 (D35 F):=A2 A3
def B1J:A5:=[(1,.d A0),(5,.d A0),(8,.d E0),(9,.d A0),(10,.d A0)]
def B3Q:A5:=[(5,.d A0)]
def A8g:A5:=[(4,.d A0)]
def C2u:U5:=[(2,B3Q),(1,A8g)]
def B7F(F n:Nat):D7 B1J:=fun x K=>V9 F (fun y5=>K (.exit 0) (enc B3Q (y5,()))) (fun y4=>K .ret (enc A8g (y4,()))) n x.1 x.2.1 x.2.2.1 x.2.2.2.1 x.2.2.2.2.1
def D37(F:Nat):E4 C9K:=A4 [(3,⟨B1J,B7F F F⟩)]
theorem C9L(F:Nat)(fr:Frm)(hn:(D35 F).ntmps=fr.n)(n:Nat):G0 C9K f166 fr [1,1,0,1,0,0] B1J (B7F F n) :=
 G6 (D37 F) (A4 []) C2u rfl (D36 F) hn (m:=fun n=>B7F F n) (fun _ _=>rfl) (fun n x K=>by kernel_rfl) (B1 (by kernel_rfl)) n
theorem E17(F:Nat):CSound prog 166 (C6J F) :=
 B3 (fn:=f166) (D37 F) (A4 []) rfl func166 (by kernel_rfl) (D36 F) (fun fr hn=>(E2 (l:=[((.loop (sub (C6 f166) [1,1,0,1,0,0])),⟨B1J,B7F F F⟩)]) (by kernel_rfl) (B4 (C9L F fr hn F) C5))) (fun x=>by kernel_rfl)
def C9N:Sig:=⟨[.con 5,.ro],[(0,.own 0 Y6 5),(1,.d E0)],false,some (0,5),[C9,A0]⟩
def C6K(F:Nat):Contract:=B7 C9N fun x=>Q9 F x.1 x.2.1
def D38(F:Nat):Cx:=B5 [(110,B3C F)] [4,13] (0,39)
theorem D39(F:Nat):A6 (D38 F):=A2 (A1 (D4r F) A3)
def B1K:A5:=[(0,.own 0 Y6 5),(6,.own 6 B0 55),(14,.d E0),(15,.d A0),(16,.d A0)]
def B3S:A5:=[(0,.own 0 Y6 5),(6,.own 6 B0 55)]
def C2v:U5:=[(2,B3S)]
def B7G(F n:Nat):D7 B1K:=fun x K=>H0 F (fun y0 y6=>K (.exit 0) (enc B3S (y0,y6,()))) n x.1 x.2.1 x.2.2.1 x.2.2.2.1 x.2.2.2.2.1
def D3a(F:Nat):E4 C9N:=A4 [(3,⟨B1K,B7G F F⟩)]
theorem C9O(F:Nat)(fr:Frm)(hn:(D38 F).ntmps=fr.n)(n:Nat):G0 C9N f157 fr [1,1,0,1,0,0] B1K (B7G F n) :=
 G6 (D3a F) (A4 []) C2v rfl (D39 F) hn (m:=fun n=>B7G F n) (fun _ _=>rfl) (fun n x K=>by kernel_rfl) (B1 (by kernel_rfl)) n
theorem E18(F:Nat):CSound prog 157 (C6K F) :=
 B3 (fn:=f157) (D3a F) (A4 []) rfl func157 (by kernel_rfl) (D39 F) (fun fr hn=>(E2 (l:=[((.loop (sub (C6 f157) [1,1,0,1,0,0])),⟨B1K,B7G F F⟩)]) (by kernel_rfl) (B4 (C9O F fr hn F) C5))) (fun x=>by kernel_rfl)
def D7v:Sig:=⟨[.ro],[(0,.d (.slice C2))],false,some (0,5),[C9,A0]⟩
def C9P(F:Nat):Contract:=B7 D7v fun x=>U9 F x.1
def D9g(F:Nat):Cx:=B5 [(166,C6J F),(48,C27 F),(157,C6K F),(91,C9w F)] [2,4,5,38,40] (0,57)
theorem D9h(F:Nat):A6 (D9g F):=A2 (A1 (E17 F) (A1 (s48 F) (A1 (E18 F) (A1 (s91 F) A3))))
def B7H:A5:=[(0,.d (.slice C2)),(4,.own 4 A0 3),(5,.own 5 A0 2),(14,.d (.slice C2)),(15,.d A0),(16,.d A0)]
def B7I:A5:=[(0,.d (.slice C2)),(4,.own 4 A0 3),(5,.own 5 A0 2)]
def C4Y:U5:=[(2,B7I)]
def C4Z(F n:Nat):D7 B7H:=fun x K=>J9 F (fun y0 y4 y5=>K (.exit 0) (enc B7I (y0,y4,y5,()))) n x.1 x.2.1 x.2.2.1 x.2.2.2.1 x.2.2.2.2.1 x.2.2.2.2.2.1
def D9i(F:Nat):E4 D7v:=A4 [(6,⟨B7H,C4Z F F⟩)]
theorem D3b(F:Nat)(fr:Frm)(hn:(D9g F).ntmps=fr.n)(n:Nat):G0 D7v f97 fr [1,1,1,1,0,1,0,0] B7H (C4Z F n) :=
 G6 (D9i F) (A4 []) C4Y rfl (D9h F) hn (m:=fun n=>C4Z F n) (fun _ _=>rfl) (fun n x K=>by kernel_rfl) (B1 (by kernel_rfl)) n
theorem s97(F:Nat):CSound prog 97 (C9P F) :=
 B3 (fn:=f97) (D9i F) (A4 []) rfl func97 (by kernel_rfl) (D9h F) (fun fr hn=>(E2 (l:=[((.loop (sub (C6 f97) [1,1,1,1,0,1,0,0])),⟨B7H,C4Z F F⟩)]) (by kernel_rfl) (B4 (D3b F fr hn F) C5))) (fun x=>by kernel_rfl)
def D7w:Sig:=⟨[.ro,.ro,.ro],[(0,.d (.pair .unit .unit)),(1,.d (.slice C2)),(2,.d A0)],false,some (0,5),[C9,A0]⟩
noncomputable def C6L (F:Nat):Contract:=B7 D7w fun x=>N6 F x.1 x.2.1 x.2.2.1
noncomputable def D7x (F:Nat):Cx:=B5 [(391,C2t F),(16,C9J F),(97,C9P F)] [6,21] (0,24)
theorem D7y(F:Nat):A6 (D7x F):=A2 (A1 (D9c F) (A1 (s16 F) (A1 (s97 F) A3)))
theorem E19(F:Nat):CSound prog 420 (C6L F) :=
 B3 (fn:=f420) (A4 []) (A4 []) rfl func420 (by kernel_rfl) (D7y F) (fun fr hn=>(B1 (by kernel_rfl))) (fun x=>by kernel_rfl)
def D7z:Sig:=⟨[.ro],[(0,.d A0)],true,none,[.bool]⟩
def C6N(F:Nat):Contract:=B7 D7z fun x=>A2s F x.1
def D7A(F:Nat):Cx:=B5 [] [] (0,9)
theorem D7B(F:Nat):A6 (D7A F):=A2 A3
theorem E1a(F:Nat):CSound prog 427 (C6N F) :=
 B3 (fn:=f427) (A4 []) (A4 []) rfl func427 (by kernel_rfl) (D7B F) (fun fr hn=>(B1 (by kernel_rfl))) (fun x=>by kernel_rfl)
def D7C:Sig:=⟨[.ro],[(0,.d A0)],true,none,[(.pair A0 (.pair A0 (.pair A0 (.pair A0 (.pair tyV .unit))))),A0]⟩
def C6O(F:Nat):Contract:=B7 D7C fun x=>A6a F x.1
def D7D(F:Nat):Cx:=B5 [(427,C6N F)] [] (0,10)
theorem D7E(F:Nat):A6 (D7D F):=A2 (A1 (E1a F) A3)
theorem E1b(F:Nat):CSound prog 423 (C6O F) :=
 B3 (fn:=f423) (A4 []) (A4 []) rfl func423 (by kernel_rfl) (D7E F) (fun fr hn=>(B1 (by kernel_rfl))) (fun x=>by kernel_rfl)
def D7F:Sig:=⟨[.ro],[(0,.d (.pair A0 (.pair A0 (.pair A0 (.pair A0 (.pair tyV .unit))))))],true,none,[A0,.bool]⟩
def C2w(F:Nat):Contract:=B7 D7F fun x=>A3O F x.1
def D7G(F:Nat):Cx:=B5 [(170,B3n F),(252,B3i F),(408,B72 F)] [] (0,21)
theorem D7H(F:Nat):A6 (D7G F):=A2 (A1 (D4n F) (A1 (D5O F) (A1 (D8Q F) A3)))
theorem D9j(F:Nat):CSound prog 429 (C2w F) :=
 B3 (fn:=f429) (A4 []) (A4 []) rfl func429 (by kernel_rfl) (D7H F) (fun fr hn=>(B1 (by kernel_rfl))) (fun x=>by kernel_rfl)
def D7I:Sig:=⟨[.ro,.ro,.ro],[(0,.d A0),(1,.d A0),(2,.d A0)],true,none,[.bool]⟩
def C6P(F:Nat):Contract:=B7 D7I fun x=>A1j F x.1 x.2.1 x.2.2.1
def D7J(F:Nat):Cx:=B5 [(68,B5x F)] [] (0,17)
theorem D7K(F:Nat):A6 (D7J F):=A2 (A1 (s68 F) A3)
theorem E1c(F:Nat):CSound prog 225 (C6P F) :=
 B3 (fn:=f225) (A4 []) (A4 []) rfl func225 (by kernel_rfl) (D7K F) (fun fr hn=>(B1 (by kernel_rfl))) (fun x=>by kernel_rfl)
def D7L:Sig:=⟨[.ro],[(0,.d (.pair A0 (.pair A0 (.pair A0 (.pair A0 (.pair tyV .unit))))))],true,none,[.bool]⟩
def C6Q(F:Nat):Contract:=B7 D7L fun x=>A5y F x.1
def D7N(F:Nat):Cx:=B5 [(429,C2w F),(225,C6P F)] [] (0,27)
theorem D7O(F:Nat):A6 (D7N F):=A2 (A1 (D9j F) (A1 (E1c F) A3))
theorem E1d(F:Nat):CSound prog 428 (C6Q F) :=
 B3 (fn:=f428) (A4 []) (A4 []) rfl func428 (by kernel_rfl) (D7O F) (fun fr hn=>(B1 (by kernel_rfl))) (fun x=>by kernel_rfl)
def D7P:Sig:=⟨[.ro],[(0,.d (.pair A0 (.pair A0 (.pair A0 (.pair A0 (.pair tyV .unit))))))],false,some (0,126),[(.slice C2)]⟩
def C6S(F:Nat):Contract:=B7 D7P fun x=>A0E F x.1
def D7Q(F:Nat):Cx:=B5 [(429,C2w F)] [2,17] (0,18)
theorem D7S(F:Nat):A6 (D7Q F):=A2 (A1 (D9j F) A3)
theorem D9k(F:Nat):CSound prog 425 (C6S F) :=
 B3 (fn:=f425) (A4 []) (A4 []) rfl func425 (by kernel_rfl) (D7S F) (fun fr hn=>(B1 (by kernel_rfl))) (fun x=>by kernel_rfl)
def C9Q:Sig:=⟨[.ro,.ro],[(0,.d (.pair A0 (.pair A0 (.pair A0 (.pair A0 (.pair tyV .unit)))))),(1,.d A0)],false,some (1,126),[(.pair A0 (.pair A0 (.pair A0 (.pair A0 (.pair tyV .unit))))),(.slice C2)]⟩
def D3c(F:Nat):Contract:=B7 C9Q fun x=>A0F F x.1 x.2.1
def D3d(F:Nat):Cx:=B5 [(170,B3n F),(133,B6V F),(428,C6Q F),(425,C6S F)] [5,46] (0,47)
theorem D3e(F:Nat):A6 (D3d F):=A2 (A1 (D4n F) (A1 (D8O F) (A1 (E1d F) (A1 (D9k F) A3))))
def B1L:A5:=[(1,.d A0),(2,.box 2 (.pair A0 (.pair A0 (.pair A0 (.pair A0 (.pair tyV .unit)))))),(4,.box 4 (.pair A0 (.pair A0 (.pair A0 (.pair A0 (.pair tyV .unit))))))]
def A8h:A5:=[(4,.box 4 (.pair A0 (.pair A0 (.pair A0 (.pair A0 (.pair tyV .unit)))))),(5,.own 5 C2 126)]
def C2x:U5:=[(1,A8h)]
def C2y(F:Nat):D7 B1L:=fun x K=>A1k F (fun y4 y5=>K .ret (enc A8h (y4,y5,()))) x.1 x.2.1 x.2.2.1
def D3f(F:Nat):E4 C9Q:=A4 [(6,⟨B1L,C2y F⟩)]
theorem C9S(F:Nat)(fr:Frm)(hn:(D3d F).ntmps=fr.n):Z7 C9Q f424 fr [1,1] B1L (C2y F) :=
 Z8 (A4 []) (D3f F) C2x rfl (D3e F) hn (fun x K=>by kernel_rfl) (B1 (by kernel_rfl))
theorem E1e(F:Nat):CSound prog 424 (D3c F) :=
 B3 (fn:=f424) (A4 []) (D3f F) rfl func424 (by kernel_rfl) (D3e F) (fun fr hn=>(E2 (l:=[((sub (C6 f424) [1,1]),⟨B1L,C2y F⟩)]) (by kernel_rfl) (B4 (C9S F fr hn) C5))) (fun x=>by kernel_rfl)
def D7T:Sig:=⟨[.ro,.ro,.ro],[(0,.d (.pair .fnc (.pair .fnc .unit))),(1,.d (.pair A0 (.pair A0 (.pair A0 (.pair A0 (.pair tyV .unit)))))),(2,.d .fnc)],false,some (0,126),[(.slice C2)]⟩
noncomputable def C6T (F:Nat):Contract:=B7 D7T fun x=>A3P F x.1 x.2.1 x.2.2.1
theorem E1f(F:Nat):CSound prog 426 (C6T F):=A8V (E1e F) (D9k F)
def D7U:Sig:=⟨[.ro,.ro],[(0,.d E0),(1,.d A0)],false,some (0,126),[(.slice C2),A0]⟩
noncomputable def C6U (F:Nat):Contract:=B7 D7U fun x=>A76 F x.1 x.2.1
noncomputable def D7V (F:Nat):Cx:=B5 [(423,C6O F),(59,C9I F),(426,C6T F)] [4,27] (0,28)
theorem D7W(F:Nat):A6 (D7V F):=A2 (A1 (E1b F) (A1 (s59 F) (A1 (E1f F) A3)))
theorem E1g(F:Nat):CSound prog 422 (C6U F) :=
 B3 (fn:=f422) (A4 []) (A4 []) rfl func422 (by kernel_rfl) (D7W F) (fun fr hn=>(B1 (by kernel_rfl))) (fun x=>by kernel_rfl)
def D7X:Sig:=⟨[.ro,.ro,.ro],[(0,.d (.pair .unit .unit)),(1,.d (.slice C2)),(2,.d A0)],false,some (0,5),[C9,A0]⟩
noncomputable def C6V (F:Nat):Contract:=B7 D7X fun x=>L4 F x.1 x.2.1 x.2.2.1
noncomputable def D7Y (F:Nat):Cx:=B5 [(391,C2t F),(422,C6U F),(97,C9P F)] [6,21] (0,24)
theorem D7Z(F:Nat):A6 (D7Y F):=A2 (A1 (D9c F) (A1 (E1g F) (A1 (s97 F) A3)))
theorem E1h(F:Nat):CSound prog 421 (C6V F) :=
 B3 (fn:=f421) (A4 []) (A4 []) rfl func421 (by kernel_rfl) (D7Z F) (fun fr hn=>(B1 (by kernel_rfl))) (fun x=>by kernel_rfl)
def E1i:Sig:=⟨[.ro],[(0,.d A0)],false,none,[.ifc,.bool]⟩
def C9T(F:Nat):Contract:=B7 E1i fun x=>A0Y F x.1
def E1j(F:Nat):Cx:=B5 [] [] (0,25)
theorem E1k(F:Nat):A6 (E1j F):=A2 A3
theorem s46(F:Nat):CSound prog 46 (C9T F) :=
 B3 (fn:=f46) (A4 []) (A4 []) rfl func46 (by kernel_rfl) (E1k F) (fun fr hn=>(B1 (by kernel_rfl))) (fun x=>by kernel_rfl)
def E1l:Sig:=⟨[.ro],[(0,.d (.slice C2))],false,some (0,2),[E0]⟩
def C9U(F:Nat):Contract:=B7 E1l fun x=>A1l F x.1
def E1m(F:Nat):Cx:=B5 [(111,C2r F)] [2,4] (0,5)
theorem E1n(F:Nat):A6 (E1m F):=A2 (A1 (D7f F) A3)
theorem s51(F:Nat):CSound prog 51 (C9U F) :=
 B3 (fn:=f51) (A4 []) (A4 []) rfl func51 (by kernel_rfl) (E1n F) (fun fr hn=>(B1 (by kernel_rfl))) (fun x=>by kernel_rfl)
def C9V:Sig:=⟨[.ro],[(0,.d E0)],true,none,[.bool]⟩
def C2z(F:Nat):Contract:=B7 C9V fun x=>S6 F x.1
def D3g(F:Nat):Cx:=B5 [] [] (0,20)
theorem D3h(F:Nat):A6 (D3g F):=A2 A3
def B1N:A5:=[(0,.d E0),(3,.d A0)]
def B3T:A5:=[]
def A8i:A5:=[(2,.d .bool)]
def C2A:U5:=[(2,B3T),(1,A8i)]
def B7J(F n:Nat):D7 B1N:=fun x K=>H3 F (K (.exit 0) (enc B3T (()))) (fun y2=>K .ret (enc A8i (y2,()))) n x.1 x.2.1
def D3i(F:Nat):E4 C9V:=A4 [(2,⟨B1N,B7J F F⟩)]
theorem C9W(F:Nat)(fr:Frm)(hn:(D3g F).ntmps=fr.n)(n:Nat):G0 C9V f107 fr [1,0,1,0,0] B1N (B7J F n) :=
 G6 (D3i F) (A4 []) C2A rfl (D3h F) hn (m:=fun n=>B7J F n) (fun _ _=>rfl) (fun n x K=>by kernel_rfl) (B1 (by kernel_rfl)) n
theorem D9l(F:Nat):CSound prog 107 (C2z F) :=
 B3 (fn:=f107) (D3i F) (A4 []) rfl func107 (by kernel_rfl) (D3h F) (fun fr hn=>(E2 (l:=[((.loop (sub (C6 f107) [1,0,1,0,0])),⟨B1N,B7J F F⟩)]) (by kernel_rfl) (B4 (C9W F fr hn F) C5))) (fun x=>by kernel_rfl)
def E1o:Sig:=⟨[.ro],[(0,.d (.slice C2))],true,none,[A0]⟩
def D3j(F:Nat):Contract:=B7 E1o fun x=>A3Q F x.1
def E1p(F:Nat):Cx:=B5 [(51,C9U F),(107,C2z F)] [] (0,7)
theorem E1q(F:Nat):A6 (E1p F):=A2 (A1 (s51 F) (A1 (D9l F) A3))
theorem s47(F:Nat):CSound prog 47 (D3j F) :=
 B3 (fn:=f47) (A4 []) (A4 []) rfl func47 (by kernel_rfl) (E1q F) (fun fr hn=>(B1 (by kernel_rfl))) (fun x=>by kernel_rfl)
def E1r:Sig:=⟨[.ro,.ro],[(0,.d C9),(1,.d A0)],false,some (0,5),[C9]⟩
def D3k(F:Nat):Contract:=B7 E1r fun x=>N7 F x.1 x.2.1
def E1s(F:Nat):Cx:=B5 [(109,A9C F),(48,C27 F)] [4,8] (0,9)
theorem E1t(F:Nat):A6 (E1s F):=A2 (A1 (D4o F) (A1 (s48 F) A3))
theorem s49(F:Nat):CSound prog 49 (D3k F) :=
 B3 (fn:=f49) (A4 []) (A4 []) rfl func49 (by kernel_rfl) (E1t F) (fun fr hn=>(B1 (by kernel_rfl))) (fun x=>by kernel_rfl)
def D80:Sig:=⟨[.ro],[(0,.d E0)],false,some (0,5),[C9,A0]⟩
def D3l(F:Nat):Contract:=B7 D80 fun x=>A1H F x.1
def D9m(F:Nat):Cx:=B5 [(107,C2z F),(68,B5x F),(109,A9C F),(110,B3C F)] [2,4,49] (0,52)
theorem D9n(F:Nat):A6 (D9m F):=A2 (A1 (D9l F) (A1 (s68 F) (A1 (D4o F) (A1 (D4r F) A3))))
def B7K:A5:=[(0,.d E0),(4,.own 4 B0 55),(5,.d B0),(6,.d A0)]
def B7L:A5:=[(4,.own 4 B0 55)]
def C50:U5:=[(3,B7L)]
def C51(F n:Nat):D7 B7K:=fun x K=>E9 F (fun y4=>K (.exit 1) (enc B7L (y4,()))) n x.1 x.2.1 x.2.2.1 x.2.2.2.1
def D9o(F:Nat):E4 D80:=A4 [(8,⟨B7K,C51 F F⟩)]
theorem D3m(F:Nat)(fr:Frm)(hn:(D9m F).ntmps=fr.n)(n:Nat):G0 D80 f50 fr [1,1,1,1,0,1,0,0] B7K (C51 F n) :=
 G6 (D9o F) (A4 []) C50 rfl (D9n F) hn (m:=fun n=>C51 F n) (fun _ _=>rfl) (fun n x K=>by kernel_rfl) (B1 (by kernel_rfl)) n
theorem s50(F:Nat):CSound prog 50 (D3l F) :=
 B3 (fn:=f50) (D9o F) (A4 []) rfl func50 (by kernel_rfl) (D9n F) (fun fr hn=>(E2 (l:=[((.loop (sub (C6 f50) [1,1,1,1,0,1,0,0])),⟨B7K,C51 F F⟩)]) (by kernel_rfl) (B4 (D3m F fr hn F) C5))) (fun x=>by kernel_rfl)
def D3n:Sig:=⟨[.ro,.ro,.ro],[(0,.d (.slice C2)),(1,.d A0),(2,.d A0)],false,some (0,5),[C9,A0]⟩
noncomputable def D3o (F:Nat):Contract:=B7 D3n fun x=>A1m F x.1 x.2.1 x.2.2.1
noncomputable def D4w (F:Nat):Cx:=B5 [(46,C9T F),(47,D3j F),(48,C27 F),(49,D3k F),(51,C9U F),(50,D3l F),(420,C6L F),(421,C6V F)] [6,55,69] (0,94)
theorem D4x(F:Nat):A6 (D4w F):=A2 (A1 (s46 F) (A1 (s47 F) (A1 (s48 F) (A1 (s49 F) (A1 (s51 F) (A1 (s50 F) (A1 (E19 F) (A1 (E1h F) A3))))))))
def B7N:A5:=[(0,.d (.slice C2)),(1,.d A0),(2,.d A0),(8,.d .ifc),(23,.d .bool)]
def B7O:A5:=[(0,.d (.slice C2)),(1,.d A0),(2,.d A0),(8,.d .ifc)]
def A9O:A5:=[(6,.own 6 Y6 5),(7,.d A0)]
def C52:U5:=[(0,B7O),(1,A9O)]
def C9X(F:Nat):D7 B7N:=fun x K=>A0G F (fun y0 y1 y2 y8=>K .normal (enc B7O (y0,y1,y2,y8,()))) (fun y6 y7=>K .ret (enc A9O (y6,y7,()))) x.1 x.2.1 x.2.2.1 x.2.2.2.1 x.2.2.2.2.1
def B1O:A5:=[(0,.d (.slice C2)),(1,.d A0),(2,.d A0),(8,.d .ifc)]
def A8j:A5:=[(6,.own 6 Y6 5),(7,.d A0)]
def C2B:U5:=[(1,A8j)]
noncomputable def C2C (F:Nat) {R:Type} (x:A5.den B1O) (K:Ex→St→Option R):Option R:=A09 F (fun y6 y7=>K .ret (enc A8j (y6,y7,()))) x.1 x.2.1 x.2.2.1 x.2.2.2.1
def B7P:A5:=[(0,.d (.slice C2)),(1,.d A0),(2,.d A0),(8,.d .ifc)]
def A9P:A5:=[(6,.own 6 Y6 5),(7,.d A0)]
def C53:U5:=[(1,A9P)]
noncomputable def C9Y (F:Nat) {R:Type} (x:A5.den B7P) (K:Ex→St→Option R):Option R:=A0H F (fun y6 y7=>K .ret (enc A9P (y6,y7,()))) x.1 x.2.1 x.2.2.1 x.2.2.2.1
noncomputable def D4y (F:Nat):E4 D3n:=A4 [(5,⟨B7N,C9X F⟩),(13,⟨B1O,C2C F⟩),(8,⟨B7P,C9Y F⟩)]
theorem D3p(F:Nat)(fr:Frm)(hn:(D4w F).ntmps=fr.n):Z7 D3n f11 fr [1,1,0,0,1,1,1] B7N (C9X F) :=
 Z8 (A4 []) (D4y F) C52 rfl (D4x F) hn (fun x K=>by kernel_rfl) (B1 (by kernel_rfl))
theorem C9Z(F:Nat)(fr:Frm)(hn:(D4w F).ntmps=fr.n):Z7 D3n f11 fr [1,1,1,1,1] B1O (C2C F) :=
 Z8 (A4 []) (D4y F) C2B rfl (D4x F) hn (fun x K=>by kernel_rfl) (B1 (by kernel_rfl))
theorem D3q(F:Nat)(fr:Frm)(hn:(D4w F).ntmps=fr.n):Z7 D3n f11 fr [1,1,1] B7P (C9Y F) :=
 Z8 (A4 []) (D4y F) C53 rfl (D4x F) hn (fun x K=>by kernel_rfl) (E2 (l:=[((sub (C6 f11) [1,1,1,1,1]),⟨B1O,C2C F⟩)]) (by kernel_rfl) (B4 (C9Z F fr hn) C5))
theorem s11(F:Nat):CSound prog 11 (D3o F) :=
 B3 (fn:=f11) (A4 []) (D4y F) rfl func11 (by kernel_rfl) (D4x F) (fun fr hn=>(E2 (l:=[((sub (C6 f11) [1,1,0,0,1,1,1]),⟨B7N,C9X F⟩),((sub (C6 f11) [1,1,1]),⟨B7P,C9Y F⟩)]) (by kernel_rfl) (B4 (D3p F fr hn) (B4 (D3q F fr hn) C5)))) (fun x=>by kernel_rfl)
def D81:Sig:=⟨[.ro,.ro],[(0,.d C9),(1,.d A0)],true,none,[A0,A0,A0]⟩
def C6W(F:Nat):Contract:=B7 D81 fun x=>S7 F x.1 x.2.1
def D82(F:Nat):Cx:=B5 [(180,B3v F),(146,A9D F)] [] (0,23)
theorem D83(F:Nat):A6 (D82 F):=A2 (A1 (D4q F) (A1 (D4p F) A3))
theorem E1u(F:Nat):CSound prog 181 (C6W F) :=
 B3 (fn:=f181) (A4 []) (A4 []) rfl func181 (by kernel_rfl) (D83 F) (fun fr hn=>(B1 (by kernel_rfl))) (fun x=>by kernel_rfl)
def D00:Sig:=⟨[.ro],[(0,.d C9)],true,none,[(.pair A0 (.pair A0 (.pair A0 C2))),A0,A0]⟩
def C6X(F:Nat):Contract:=B7 D00 fun x=>A4r F x.1
def D3r(F:Nat):Cx:=B5 [(180,B3v F),(181,C6W F)] [] (0,97)
theorem D3s(F:Nat):A6 (D3r F):=A2 (A1 (D4q F) (A1 (E1u F) A3))
def A7d:A5:=[(0,.d C9),(2,.box 2 (.pair A0 (.pair A0 (.pair A0 C2)))),(3,.d A0),(5,.d B0)]
def A6B:A5:=[(2,.box 2 (.pair A0 (.pair A0 (.pair A0 C2)))),(3,.d A0),(4,.d A0)]
def B9f:U5:=[(1,A6B)]
def B5y(F:Nat):D7 A7d:=fun x K=>A19 F (fun y2 y3 y4=>K .ret (enc A6B (y2,y3,y4,()))) x.1 x.2.1 x.2.2.1 x.2.2.2.1
def D3t(F:Nat):E4 D00:=A4 [(11,⟨A7d,B5y F⟩)]
theorem C54(F:Nat)(fr:Frm)(hn:(D3r F).ntmps=fr.n):Z7 D00 f113 fr [1,1,1,1,1,1] A7d (B5y F) :=
 Z8 (A4 []) (D3t F) B9f rfl (D3s F) hn (fun x K=>by kernel_rfl) (B1 (by kernel_rfl))
theorem E1v(F:Nat):CSound prog 113 (C6X F) :=
 B3 (fn:=f113) (A4 []) (D3t F) rfl func113 (by kernel_rfl) (D3s F) (fun fr hn=>(E2 (l:=[((sub (C6 f113) [1,1,1,1,1,1]),⟨A7d,B5y F⟩)]) (by kernel_rfl) (B4 (C54 F fr hn) C5))) (fun x=>by kernel_rfl)
def C2D:Sig:=⟨[.ro,.ro,.ro,.ro],[(0,.d C9),(1,.d A0),(2,.d A0),(3,.d A0)],false,some (0,2),[E0,A0,A0]⟩
def C6Y(F:Nat):Contract:=B7 C2D fun x=>A0I F x.1 x.2.1 x.2.2.1 x.2.2.2.1
def D01(F:Nat):Cx:=B5 [(145,B7p F),(68,B5x F),(182,B3q F),(146,A9D F)] [8,48] (0,86)
theorem D02(F:Nat):A6 (D01 F):=A2 (A1 (D6L F) (A1 (s68 F) (A1 (D6k F) (A1 (D4p F) A3))))
def A7e:A5:=[(12,.d A0),(14,.own 14 A0 2),(15,.d B0),(16,.d A0),(49,.d O3),(50,.d A0),(51,.d A0)]
def A9Q:A5:=[(12,.d A0),(14,.own 14 A0 2),(15,.d B0),(49,.d O3),(50,.d A0),(51,.d A0)]
def A6C:A5:=[(8,.own 8 A0 2),(9,.d A0),(10,.d A0)]
def B9g:U5:=[(0,A9Q),(1,A6C)]
def B5z(F:Nat):D7 A7e:=fun x K=>S8 F (fun y12 y14 y15 y49 y50 y51=>K .normal (enc A9Q (y12,y14,y15,y49,y50,y51,()))) (fun y8 y9 y10=>K .ret (enc A6C (y8,y9,y10,()))) x.1 x.2.1 x.2.2.1 x.2.2.2.1 x.2.2.2.2.1 x.2.2.2.2.2.1 x.2.2.2.2.2.2.1
def B1P:A5:=[(12,.d A0),(14,.own 14 A0 2),(15,.d B0),(49,.d O3),(50,.d A0),(51,.d A0)]
def B3U:A5:=[(12,.d A0),(14,.own 14 A0 2)]
def A8k:A5:=[(8,.own 8 A0 2),(9,.d A0),(10,.d A0)]
def C2E:U5:=[(2,B3U),(1,A8k)]
def B7Q(F n:Nat):D7 B1P:=fun x K=>D2 F (fun y12 y14=>K (.exit 0) (enc B3U (y12,y14,()))) (fun y8 y9 y10=>K .ret (enc A8k (y8,y9,y10,()))) n x.1 x.2.1 x.2.2.1 x.2.2.2.1 x.2.2.2.2.1 x.2.2.2.2.2.1
def D03(F:Nat):E4 C2D:=A4 [(9,⟨B1P,B7Q F F⟩)]
def D04(F:Nat):E4 C2D:=A4 [(14,⟨A7e,B5z F⟩)]
theorem C55(F:Nat)(fr:Frm)(hn:(D01 F).ntmps=fr.n):Z7 C2D f114 fr [1,1,1,1,1,1,0,1,0,0,1,1,0,0,1,1] A7e (B5z F) :=
 Z8 (D03 F) (D04 F) B9g rfl (D02 F) hn (fun x K=>by kernel_rfl) (B1 (by kernel_rfl))
theorem D05(F:Nat)(fr:Frm)(hn:(D01 F).ntmps=fr.n)(n:Nat):G0 C2D f114 fr [1,1,1,1,1,1,0,1,0,0] B1P (B7Q F n) :=
 G6 (D03 F) (D04 F) C2E rfl (D02 F) hn (m:=fun n=>B7Q F n) (fun _ _=>rfl) (fun n x K=>by kernel_rfl) (E2 (l:=[((sub (C6 f114) [1,1,1,1,1,1,0,1,0,0,1,1,0,0,1,1]),⟨A7e,B5z F⟩)]) (by kernel_rfl) (B4 (C55 F fr hn) C5)) n
theorem E1w(F:Nat):CSound prog 114 (C6Y F) :=
 B3 (fn:=f114) (D03 F) (D04 F) rfl func114 (by kernel_rfl) (D02 F) (fun fr hn=>(E2 (l:=[((.loop (sub (C6 f114) [1,1,1,1,1,1,0,1,0,0])),⟨B1P,B7Q F F⟩)]) (by kernel_rfl) (B4 (D05 F fr hn F) C5))) (fun x=>by kernel_rfl)
def D06:Sig:=⟨[.ro,.ro],[(0,.d E0),(1,.d E0)],false,some (0,38),[(.slice C2),.bool]⟩
def C6Z(F:Nat):Contract:=B7 D06 fun x=>A3b F x.1 x.2.1
def D3u(F:Nat):Cx:=B5 [] [4,15] (0,35)
theorem D3v(F:Nat):A6 (D3u F):=A2 A3
def B1Q:A5:=[(0,.d E0),(1,.d E0),(6,.own 6 C2 38),(17,.d A0),(18,.d A0)]
def B3V:A5:=[(6,.own 6 C2 38)]
def C2F:U5:=[(2,B3V)]
def B7S(F n:Nat):D7 B1Q:=fun x K=>W6 F (fun y6=>K (.exit 0) (enc B3V (y6,()))) n x.1 x.2.1 x.2.2.1 x.2.2.2.1 x.2.2.2.2.1
def D3w(F:Nat):E4 D06:=A4 [(5,⟨B1Q,B7S F F⟩)]
theorem D07(F:Nat)(fr:Frm)(hn:(D3u F).ntmps=fr.n)(n:Nat):G0 D06 f115 fr [1,1,1,0,1,0,0] B1Q (B7S F n) :=
 G6 (D3w F) (A4 []) C2F rfl (D3v F) hn (m:=fun n=>B7S F n) (fun _ _=>rfl) (fun n x K=>by kernel_rfl) (B1 (by kernel_rfl)) n
theorem E1x(F:Nat):CSound prog 115 (C6Z F) :=
 B3 (fn:=f115) (D3w F) (A4 []) rfl func115 (by kernel_rfl) (D3v F) (fun fr hn=>(E2 (l:=[((.loop (sub (C6 f115) [1,1,1,0,1,0,0])),⟨B1Q,B7S F F⟩)]) (by kernel_rfl) (B4 (D07 F fr hn F) C5))) (fun x=>by kernel_rfl)
def D84:Sig:=⟨[.ro],[(0,.d C9)],false,some (0,38),[(.slice C2),(.pair A0 (.pair A0 (.pair A0 C2))),A0,A0]⟩
def D3x(F:Nat):Contract:=B7 D84 fun x=>A3S F x.1
def D9p(F:Nat):Cx:=B5 [(113,C6X F),(114,C6Y F),(46,C9T F),(415,C6v F),(115,C6Z F)] [2,86] (0,92)
theorem D9q(F:Nat):A6 (D9p F):=A2 (A1 (E1v F) (A1 (E1w F) (A1 (s46 F) (A1 (E0P F) (A1 (E1x F) A3)))))
def B1S:A5:=[(0,.d C9),(3,.box 3 (.pair A0 (.pair A0 (.pair A0 C2)))),(6,.box 6 (.pair A0 (.pair A0 (.pair A0 C2)))),(8,.d A0),(9,.d E0),(12,.d E0),(13,.d A0),(14,.d A0)]
def A8l:A5:=[(2,.own 2 C2 38),(3,.box 3 (.pair A0 (.pair A0 (.pair A0 C2)))),(4,.d A0),(5,.d A0)]
def C2G:U5:=[(1,A8l)]
def C2H(F:Nat):D7 B1S:=fun x K=>V0 F (fun y2 y3 y4 y5=>K .ret (enc A8l (y2,y3,y4,y5,()))) x.1 x.2.1 x.2.2.1 x.2.2.2.1 x.2.2.2.2.1 x.2.2.2.2.2.1 x.2.2.2.2.2.2.1 x.2.2.2.2.2.2.2.1
def D9r(F:Nat):E4 D84:=A4 [(11,⟨B1S,C2H F⟩)]
theorem D08(F:Nat)(fr:Frm)(hn:(D9p F).ntmps=fr.n):Z7 D84 f52 fr [1,1,1,1,1,1,1] B1S (C2H F) :=
 Z8 (A4 []) (D9r F) C2G rfl (D9q F) hn (fun x K=>by kernel_rfl) (B1 (by kernel_rfl))
theorem s52(F:Nat):CSound prog 52 (D3x F) :=
 B3 (fn:=f52) (A4 []) (D9r F) rfl func52 (by kernel_rfl) (D9q F) (fun fr hn=>(E2 (l:=[((sub (C6 f52) [1,1,1,1,1,1,1]),⟨B1S,C2H F⟩)]) (by kernel_rfl) (B4 (D08 F fr hn) C5))) (fun x=>by kernel_rfl)
def E1y:Sig:=⟨[.ro],[(0,.d C9)],true,none,[A0,A0]⟩
def D3y(F:Nat):Contract:=B7 E1y fun x=>Z6 F x.1
def E1z(F:Nat):Cx:=B5 [(52,D3x F)] [] (0,17)
theorem E1A(F:Nat):A6 (E1z F):=A2 (A1 (s52 F) A3)
theorem s12(F:Nat):CSound prog 12 (D3y F) :=
 B3 (fn:=f12) (A4 []) (A4 []) rfl func12 (by kernel_rfl) (E1A F) (fun fr hn=>(B1 (by kernel_rfl))) (fun x=>by kernel_rfl)
def E1B:Sig:=⟨[.ro,.ro],[(0,.d A0),(1,.d A0)],true,none,[A0,.bool]⟩
def D3z(F:Nat):Contract:=B7 E1B fun x=>A5z F x.1 x.2.1
def E1C(F:Nat):Cx:=B5 [] [] (0,33)
theorem E1D(F:Nat):A6 (E1C F):=A2 A3
theorem s14(F:Nat):CSound prog 14 (D3z F) :=
 B3 (fn:=f14) (A4 []) (A4 []) rfl func14 (by kernel_rfl) (E1D F) (fun fr hn=>(B1 (by kernel_rfl))) (fun x=>by kernel_rfl)
def E1E:Sig:=⟨[.ro,.ro],[(0,.d A0),(1,.d A0)],true,none,[B0]⟩
def D3A(F:Nat):Contract:=B7 E1E fun x=>A1a F x.1 x.2.1
def E1F(F:Nat):Cx:=B5 [] [] (0,18)
theorem E1G(F:Nat):A6 (E1F F):=A2 A3
theorem s54(F:Nat):CSound prog 54 (D3A F) :=
 B3 (fn:=f54) (A4 []) (A4 []) rfl func54 (by kernel_rfl) (E1G F) (fun fr hn=>(B1 (by kernel_rfl))) (fun x=>by kernel_rfl)
def E1H:Sig:=⟨[.ro,.ro,.ro],[(0,.d A0),(1,.d A0),(2,.d A0)],true,none,[.bool]⟩
def D3B(F:Nat):Contract:=B7 E1H fun x=>A4s F x.1 x.2.1 x.2.2.1
def E1I(F:Nat):Cx:=B5 [(54,D3A F)] [] (0,17)
theorem E1J(F:Nat):A6 (E1I F):=A2 (A1 (s54 F) A3)
theorem s15(F:Nat):CSound prog 15 (D3B F) :=
 B3 (fn:=f15) (A4 []) (A4 []) rfl func15 (by kernel_rfl) (E1J F) (fun fr hn=>(B1 (by kernel_rfl))) (fun x=>by kernel_rfl)
def D85:Sig:=⟨[.ro],[(0,.d (.slice C2))],false,some (0,2),[E0]⟩
def D3C(F:Nat):Contract:=B7 D85 fun x=>A2j F x.1
def D9s(F:Nat):Cx:=B5 [] [2,3] (0,20)
theorem D9t(F:Nat):A6 (D9s F):=A2 A3
def B7T:A5:=[(0,.d (.slice C2)),(3,.own 3 A0 2),(4,.d A0)]
def B7U:A5:=[(3,.own 3 A0 2)]
def C56:U5:=[(2,B7U)]
def C57(F n:Nat):D7 B7T:=fun x K=>S9 F (fun y3=>K (.exit 0) (enc B7U (y3,()))) n x.1 x.2.1 x.2.2.1
def D9u(F:Nat):E4 D85:=A4 [(3,⟨B7T,C57 F F⟩)]
theorem D3D(F:Nat)(fr:Frm)(hn:(D9s F).ntmps=fr.n)(n:Nat):G0 D85 f17 fr [1,1,0,1,0,0] B7T (C57 F n) :=
 G6 (D9u F) (A4 []) C56 rfl (D9t F) hn (m:=fun n=>C57 F n) (fun _ _=>rfl) (fun n x K=>by kernel_rfl) (B1 (by kernel_rfl)) n
theorem s17(F:Nat):CSound prog 17 (D3C F) :=
 B3 (fn:=f17) (D9u F) (A4 []) rfl func17 (by kernel_rfl) (D9t F) (fun fr hn=>(E2 (l:=[((.loop (sub (C6 f17) [1,1,0,1,0,0])),⟨B7T,C57 F F⟩)]) (by kernel_rfl) (B4 (D3D F fr hn F) C5))) (fun x=>by kernel_rfl)
end Go.Proofs.YtppoifpabafdlaaGreat
