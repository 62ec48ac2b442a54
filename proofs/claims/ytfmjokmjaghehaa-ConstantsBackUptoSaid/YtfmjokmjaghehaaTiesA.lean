/- That the code computes the models. Written by program. -/
import Derived.Test.YtfmjokmjaghehaaModels
import Derived.Test.YtfmjokmjaghehaaLibA
import Derived.Test.YtfmjokmjaghehaaLibB
set_option linter.unusedVariables false
set_option linter.unusedSimpArgs false
namespace Go.Proofs.Ytfmjokmjaghehaa
open Go.Eng
def tys : List (Nat × TyRow) := [(2, ⟨(.int .i64), 0, 8⟩), (3, ⟨(.int .i64), 0, 8⟩), (4, ⟨.bool, 0, 1⟩), (5, ⟨(.int .u8), 0, 1⟩), (21, ⟨(.int .i32), 0, 4⟩), (22, ⟨(.slice (.int .u64)), 36, 24⟩), (23, ⟨(.slice (.int .i64)), 3, 24⟩), (27, ⟨(.slice (.slice (.int .u64))), 22, 24⟩), (28, ⟨(.slice (.int .u8)), 5, 24⟩), (29, ⟨(.int .i64), 0, 8⟩), (36, ⟨(.int .u64), 0, 8⟩), (49, ⟨(.slice (.slice (.int .u8))), 28, 24⟩), (53, ⟨(.slice (.int .i64)), 2, 24⟩), (55, ⟨(.slice (.slice (.int .i64))), 53, 24⟩), (66, ⟨(.int .u32), 0, 4⟩), (74, ⟨(.slice (.pair (.int .i64) (.pair (.int .i64) .unit))), 78, 24⟩), (78, ⟨(.pair (.int .i64) (.pair (.int .i64) .unit)), 0, 16⟩), (79, ⟨(.slice (.slice (.pair (.int .i64) (.pair (.int .i64) .unit)))), 74, 24⟩), (85, ⟨(.int .u64), 0, 8⟩), (89, ⟨(.pair (.slice (.int .i64)) (.pair (.int .i64) .unit)), 0, 32⟩), (94, ⟨(.slice (.pair (.int .i64) (.pair (.int .i64) .unit))), 97, 24⟩), (97, ⟨(.pair (.int .i64) (.pair (.int .i64) .unit)), 0, 16⟩)]
theorem row2 (cx : Cx) (h : cx.types = tys) : RowOk Try.prog cx 2 ⟨(.int .i64), 0, 8⟩ :=
  ⟨⟨Try.t2, _, by kernel_rfl, by kernel_rfl, by kernel_rfl, rfl, by kernel_rfl⟩, Try.underlying2, (fun h => Bool.noConfusion h), by decide⟩
theorem row3 (cx : Cx) (h : cx.types = tys) : RowOk Try.prog cx 3 ⟨(.int .i64), 0, 8⟩ :=
  ⟨⟨Try.t3, _, by kernel_rfl, by kernel_rfl, by kernel_rfl, rfl, by kernel_rfl⟩, Try.underlying3, (fun h => Bool.noConfusion h), by decide⟩
theorem row4 (cx : Cx) (h : cx.types = tys) : RowOk Try.prog cx 4 ⟨.bool, 0, 1⟩ :=
  ⟨⟨Try.t4, _, by kernel_rfl, by kernel_rfl, by kernel_rfl, rfl, by kernel_rfl⟩, Try.underlying4, (fun h => Bool.noConfusion h), by decide⟩
theorem row5 (cx : Cx) (h : cx.types = tys) : RowOk Try.prog cx 5 ⟨(.int .u8), 0, 1⟩ :=
  ⟨⟨Try.t5, _, by kernel_rfl, by kernel_rfl, by kernel_rfl, rfl, by kernel_rfl⟩, Try.underlying5, (fun h => Bool.noConfusion h), by decide⟩
theorem row21 (cx : Cx) (h : cx.types = tys) : RowOk Try.prog cx 21 ⟨(.int .i32), 0, 4⟩ :=
  ⟨⟨Try.t21, _, by kernel_rfl, by kernel_rfl, by kernel_rfl, rfl, by kernel_rfl⟩, Try.underlying21, (fun h => Bool.noConfusion h), by decide⟩
theorem row22 (cx : Cx) (h : cx.types = tys) : RowOk Try.prog cx 22 ⟨(.slice (.int .u64)), 36, 24⟩ :=
  ⟨⟨Try.t22, _, by kernel_rfl, by kernel_rfl, by kernel_rfl, rfl, by kernel_rfl⟩, ⟨Try.underlying22, ⟨⟨(.int .u64), 0, 8⟩, by unfold Cx.row?; rw [h]; kernel_rfl, rfl⟩⟩, (fun h => Bool.noConfusion h), by decide⟩
theorem row23 (cx : Cx) (h : cx.types = tys) : RowOk Try.prog cx 23 ⟨(.slice (.int .i64)), 3, 24⟩ :=
  ⟨⟨Try.t23, _, by kernel_rfl, by kernel_rfl, by kernel_rfl, rfl, by kernel_rfl⟩, ⟨Try.underlying23, ⟨⟨(.int .i64), 0, 8⟩, by unfold Cx.row?; rw [h]; kernel_rfl, rfl⟩⟩, (fun h => Bool.noConfusion h), by decide⟩
theorem row27 (cx : Cx) (h : cx.types = tys) : RowOk Try.prog cx 27 ⟨(.slice (.slice (.int .u64))), 22, 24⟩ :=
  ⟨⟨Try.t27, _, by kernel_rfl, by kernel_rfl, by kernel_rfl, rfl, by kernel_rfl⟩, ⟨Try.underlying27, ⟨⟨(.slice (.int .u64)), 36, 24⟩, by unfold Cx.row?; rw [h]; kernel_rfl, rfl⟩⟩, (fun h => Bool.noConfusion h), by decide⟩
theorem row28 (cx : Cx) (h : cx.types = tys) : RowOk Try.prog cx 28 ⟨(.slice (.int .u8)), 5, 24⟩ :=
  ⟨⟨Try.t28, _, by kernel_rfl, by kernel_rfl, by kernel_rfl, rfl, by kernel_rfl⟩, ⟨Try.underlying28, ⟨⟨(.int .u8), 0, 1⟩, by unfold Cx.row?; rw [h]; kernel_rfl, rfl⟩⟩, (fun h => Bool.noConfusion h), by decide⟩
theorem row29 (cx : Cx) (h : cx.types = tys) : RowOk Try.prog cx 29 ⟨(.int .i64), 0, 8⟩ :=
  ⟨⟨Try.t29, _, by kernel_rfl, by kernel_rfl, by kernel_rfl, rfl, by kernel_rfl⟩, Try.underlying29, (fun h => Bool.noConfusion h), by decide⟩
theorem row36 (cx : Cx) (h : cx.types = tys) : RowOk Try.prog cx 36 ⟨(.int .u64), 0, 8⟩ :=
  ⟨⟨Try.t36, _, by kernel_rfl, by kernel_rfl, by kernel_rfl, rfl, by kernel_rfl⟩, Try.underlying36, (fun h => Bool.noConfusion h), by decide⟩
theorem row49 (cx : Cx) (h : cx.types = tys) : RowOk Try.prog cx 49 ⟨(.slice (.slice (.int .u8))), 28, 24⟩ :=
  ⟨⟨Try.t49, _, by kernel_rfl, by kernel_rfl, by kernel_rfl, rfl, by kernel_rfl⟩, ⟨Try.underlying49, ⟨⟨(.slice (.int .u8)), 5, 24⟩, by unfold Cx.row?; rw [h]; kernel_rfl, rfl⟩⟩, (fun h => Bool.noConfusion h), by decide⟩
theorem row53 (cx : Cx) (h : cx.types = tys) : RowOk Try.prog cx 53 ⟨(.slice (.int .i64)), 2, 24⟩ :=
  ⟨⟨Try.t53, _, by kernel_rfl, by kernel_rfl, by kernel_rfl, rfl, by kernel_rfl⟩, ⟨Try.underlying53, ⟨⟨(.int .i64), 0, 8⟩, by unfold Cx.row?; rw [h]; kernel_rfl, rfl⟩⟩, (fun h => Bool.noConfusion h), by decide⟩
theorem row55 (cx : Cx) (h : cx.types = tys) : RowOk Try.prog cx 55 ⟨(.slice (.slice (.int .i64))), 53, 24⟩ :=
  ⟨⟨Try.t55, _, by kernel_rfl, by kernel_rfl, by kernel_rfl, rfl, by kernel_rfl⟩, ⟨Try.underlying55, ⟨⟨(.slice (.int .i64)), 2, 24⟩, by unfold Cx.row?; rw [h]; kernel_rfl, rfl⟩⟩, (fun h => Bool.noConfusion h), by decide⟩
theorem row66 (cx : Cx) (h : cx.types = tys) : RowOk Try.prog cx 66 ⟨(.int .u32), 0, 4⟩ :=
  ⟨⟨Try.t66, _, by kernel_rfl, by kernel_rfl, by kernel_rfl, rfl, by kernel_rfl⟩, Try.underlying66, (fun h => Bool.noConfusion h), by decide⟩
theorem row74 (cx : Cx) (h : cx.types = tys) : RowOk Try.prog cx 74 ⟨(.slice (.pair (.int .i64) (.pair (.int .i64) .unit))), 78, 24⟩ :=
  ⟨⟨Try.t74, _, by kernel_rfl, by kernel_rfl, by kernel_rfl, rfl, by kernel_rfl⟩, ⟨Try.underlying74, ⟨⟨(.pair (.int .i64) (.pair (.int .i64) .unit)), 0, 16⟩, by unfold Cx.row?; rw [h]; kernel_rfl, rfl⟩⟩, (fun h => Bool.noConfusion h), by decide⟩
theorem row78 (cx : Cx) (h : cx.types = tys) : RowOk Try.prog cx 78 ⟨(.pair (.int .i64) (.pair (.int .i64) .unit)), 0, 16⟩ :=
  ⟨⟨Try.t78, _, by kernel_rfl, by kernel_rfl, by kernel_rfl, rfl, by kernel_rfl⟩, ⟨_, Try.underlying78, ⟨rfl, ⟨⟨(.int .i64), 0, 8⟩, by unfold Cx.row?; rw [h]; kernel_rfl, rfl⟩, by decide, by decide, ⟨rfl, ⟨⟨(.int .i64), 0, 8⟩, by unfold Cx.row?; rw [h]; kernel_rfl, rfl⟩, by decide, by decide, trivial⟩⟩, by kernel_rfl⟩, (fun _ => by kernel_rfl), by decide⟩
theorem row79 (cx : Cx) (h : cx.types = tys) : RowOk Try.prog cx 79 ⟨(.slice (.slice (.pair (.int .i64) (.pair (.int .i64) .unit)))), 74, 24⟩ :=
  ⟨⟨Try.t79, _, by kernel_rfl, by kernel_rfl, by kernel_rfl, rfl, by kernel_rfl⟩, ⟨Try.underlying79, ⟨⟨(.slice (.pair (.int .i64) (.pair (.int .i64) .unit))), 78, 24⟩, by unfold Cx.row?; rw [h]; kernel_rfl, rfl⟩⟩, (fun h => Bool.noConfusion h), by decide⟩
theorem row85 (cx : Cx) (h : cx.types = tys) : RowOk Try.prog cx 85 ⟨(.int .u64), 0, 8⟩ :=
  ⟨⟨Try.t85, _, by kernel_rfl, by kernel_rfl, by kernel_rfl, rfl, by kernel_rfl⟩, Try.underlying85, (fun h => Bool.noConfusion h), by decide⟩
theorem row89 (cx : Cx) (h : cx.types = tys) : RowOk Try.prog cx 89 ⟨(.pair (.slice (.int .i64)) (.pair (.int .i64) .unit)), 0, 32⟩ :=
  ⟨⟨Try.t89, _, by kernel_rfl, by kernel_rfl, by kernel_rfl, rfl, by kernel_rfl⟩, ⟨_, Try.underlying89, ⟨rfl, ⟨⟨(.slice (.int .i64)), 3, 24⟩, by unfold Cx.row?; rw [h]; kernel_rfl, rfl⟩, by decide, by decide, ⟨rfl, ⟨⟨(.int .i64), 0, 8⟩, by unfold Cx.row?; rw [h]; kernel_rfl, rfl⟩, by decide, by decide, trivial⟩⟩, by kernel_rfl⟩, (fun _ => by kernel_rfl), by decide⟩
theorem row94 (cx : Cx) (h : cx.types = tys) : RowOk Try.prog cx 94 ⟨(.slice (.pair (.int .i64) (.pair (.int .i64) .unit))), 97, 24⟩ :=
  ⟨⟨Try.t94, _, by kernel_rfl, by kernel_rfl, by kernel_rfl, rfl, by kernel_rfl⟩, ⟨Try.underlying94, ⟨⟨(.pair (.int .i64) (.pair (.int .i64) .unit)), 0, 16⟩, by unfold Cx.row?; rw [h]; kernel_rfl, rfl⟩⟩, (fun h => Bool.noConfusion h), by decide⟩
theorem row97 (cx : Cx) (h : cx.types = tys) : RowOk Try.prog cx 97 ⟨(.pair (.int .i64) (.pair (.int .i64) .unit)), 0, 16⟩ :=
  ⟨⟨Try.t97, _, by kernel_rfl, by kernel_rfl, by kernel_rfl, rfl, by kernel_rfl⟩, ⟨_, Try.underlying97, ⟨rfl, ⟨⟨(.int .i64), 0, 8⟩, by unfold Cx.row?; rw [h]; kernel_rfl, rfl⟩, by decide, by decide, ⟨rfl, ⟨⟨(.int .i64), 0, 8⟩, by unfold Cx.row?; rw [h]; kernel_rfl, rfl⟩, by decide, by decide, trivial⟩⟩, by kernel_rfl⟩, (fun _ => by kernel_rfl), by decide⟩
theorem conf_all (cx : Cx) (h : cx.types = tys) : Conf Try.prog cx := conf_of h (rows_cons (row2 cx h) (rows_cons (row3 cx h) (rows_cons (row4 cx h) (rows_cons (row5 cx h) (rows_cons (row21 cx h) (rows_cons (row22 cx h) (rows_cons (row23 cx h) (rows_cons (row27 cx h) (rows_cons (row28 cx h) (rows_cons (row29 cx h) (rows_cons (row36 cx h) (rows_cons (row49 cx h) (rows_cons (row53 cx h) (rows_cons (row55 cx h) (rows_cons (row66 cx h) (rows_cons (row74 cx h) (rows_cons (row78 cx h) (rows_cons (row79 cx h) (rows_cons (row85 cx h) (rows_cons (row89 cx h) (rows_cons (row94 cx h) (rows_cons (row97 cx h) rows_nil))))))))))))))))))))))
theorem mix : Try.prog.follows .mixedOrders = true := by kernel_rfl
def con97 (F : Nat) : Contract := mkCon sgLen64 fun x => bits_Len64 F x.1
theorem s97 (F : Nat) : CSound Try.prog 97 (con97 F) := len64_sound F (by kernel_rfl) fun x w h0 h1 => bits_Len64_calls x w h0 h1
def con99 (F : Nat) : Contract := mkCon (sgGrow (.int .u8) 5) fun x => slices_Grow_byte F x.1 x.2.1
def cx99 : Cx := { types := tys, call := callsL [], own := [], ntmps := (0, 0) }
theorem s99 (F : Nat) : CSound Try.prog 99 (con99 F) := grow_sound (cx := cx99) (conf_all _ rfl) (by kernel_rfl : cx99.row? 5 = some ⟨(.int .u8), 0, 1⟩) rfl (by kernel_rfl) (by decide) (fun base l c n w => slices_Grow_byte_room base l c n w) (fun i0 z hi hz hs base l c n cs w => slices_Grow_byte_grow i0 z hi hz hs base l c n cs w)
def sg23 : Sig := { modes := [.ro], sh := [(0, .d (.slice (.int .i64)))], keeps := false, fresh := some (0, 0), rtys := [(.pair (.slice (.int .i64)) (.pair (.int .i64) .unit))] }
def con23 (F : Nat) : Contract := mkCon sg23 fun x => made_New F x.1
def cx23 (F : Nat) : Cx := { types := tys, call := callsL [], own := [], ntmps := (0, 6) }
theorem cs23 (F : Nat) : ∀ f c, (cx23 F).call f = some c → CMet Try.prog f c := callsL_sound calls_nil
theorem s23 (F : Nat) : CSound Try.prog 23 (con23 F) :=
  fn_sound (fn := Try.f23) (code := (bodyOf Try.f23)) (cx := cx23 F) (hs := hintL []) (js := hintL []) Try.func23 (by kernel_rfl) (by kernel_rfl) (conf_all _ rfl) (cs23 F) mix (by kernel_rfl) (by kernel_rfl) (fun fr hn => (hok_of (l := []) (by kernel_rfl) obl_nil)) (fun x => by kernel_rfl)
def sg32 : Sig := { modes := [.ro, .ro], sh := [(0, .d (.int .i64)), (1, .d (.int .i64))], keeps := true, fresh := none, rtys := [(.int .i64)] }
def con32 (F : Nat) : Contract := mkCon sg32 fun x => made_Mod F x.1 x.2.1
def cx32 (F : Nat) : Cx := { types := tys, call := callsL [], own := [], ntmps := (0, 16) }
theorem cs32 (F : Nat) : ∀ f c, (cx32 F).call f = some c → CMet Try.prog f c := callsL_sound calls_nil
theorem s32 (F : Nat) : CSound Try.prog 32 (con32 F) :=
  fn_sound (fn := Try.f32) (code := (bodyOf Try.f32)) (cx := cx32 F) (hs := hintL []) (js := hintL []) Try.func32 (by kernel_rfl) (by kernel_rfl) (conf_all _ rfl) (cs32 F) mix (by kernel_rfl) (by kernel_rfl) (fun fr hn => (hok_of (l := []) (by kernel_rfl) obl_nil)) (fun x => by kernel_rfl)
def sg30 : Sig := { modes := [.bor, .ro], sh := [(0, .box 0 (.pair (.slice (.int .i64)) (.pair (.int .i64) .unit))), (1, .d (.int .i64))], keeps := false, fresh := none, rtys := [(.pair (.slice (.int .i64)) (.pair (.int .i64) .unit)), (.int .i64)] }
def con30 (F : Nat) : Contract := mkCon sg30 fun x => made_Tape_Next F x.1 x.2.1
def cx30 (F : Nat) : Cx := { types := tys, call := callsL [(32, con32 F)], own := [], ntmps := (1, 35) }
theorem cs30 (F : Nat) : ∀ f c, (cx30 F).call f = some c → CMet Try.prog f c := callsL_sound (calls_cons (s32 F) calls_nil)
theorem s30 (F : Nat) : CSound Try.prog 30 (con30 F) :=
  fn_sound (fn := Try.f30) (code := (bodyOf Try.f30)) (cx := cx30 F) (hs := hintL []) (js := hintL []) Try.func30 (by kernel_rfl) (by kernel_rfl) (conf_all _ rfl) (cs30 F) mix (by kernel_rfl) (by kernel_rfl) (fun fr hn => (hok_of (l := []) (by kernel_rfl) obl_nil)) (fun x => by kernel_rfl)
def sg64 : Sig := { modes := [.bor], sh := [(0, .box 0 (.pair (.slice (.int .i64)) (.pair (.int .i64) .unit)))], keeps := false, fresh := none, rtys := [(.pair (.slice (.int .i64)) (.pair (.int .i64) .unit)), (.int .u64)] }
def con64 (F : Nat) : Contract := mkCon sg64 fun x => made_Tape_Word F x.1
def cx64 (F : Nat) : Cx := { types := tys, call := callsL [(30, con30 F)], own := [], ntmps := (1, 16) }
theorem cs64 (F : Nat) : ∀ f c, (cx64 F).call f = some c → CMet Try.prog f c := callsL_sound (calls_cons (s30 F) calls_nil)
def sh64l3 : Shape := [(0, .box 0 (.pair (.slice (.int .i64)) (.pair (.int .i64) .unit))), (3, .d (.int .u64)), (4, .d (.int .i64))]
def sh64l3o0 : Shape := [(0, .box 0 (.pair (.slice (.int .i64)) (.pair (.int .i64) .unit))), (3, .d (.int .u64))]
def outs64l3 : Outs := [(2, sh64l3o0)]
def m64l3 (F : Nat) (n : Nat) {R : Type} (x : Shape.den sh64l3) (K : Ex → St → Option R) : Option R := made_Tape_Word_l3 F (fun y0 y3 => K (.exit 0) (enc sh64l3o0 (y0, y3, ()))) n x.1 x.2.1 x.2.2.1
def hs64 (F : Nat) : Nat → Option (Hint (Dens sg64.rtys)) := hintL [(3, { sh := sh64l3, model := m64l3 F F })]
theorem ok64l3 (F : Nat) (fr : Frm) (hn : (cx64 F).ntmps = fr.n) (n : Nat) : MSound (R := (Dens sg64.rtys)) Try.prog fr (.loop (sub (bodyOf Try.f64) [1, 1, 0, 1, 0, 0])) sh64l3 (m64l3 F n) :=
  loop_sound (cx := cx64 F) (hs := hs64 F) (js := hintL []) (outs := outs64l3) (conf_all _ rfl) (cs64 F) hn mix (m := fun n => m64l3 F n) (fun _ _ => rfl) (fun n x K => by kernel_rfl) (hok_of (l := []) (by kernel_rfl) obl_nil) n
theorem s64 (F : Nat) : CSound Try.prog 64 (con64 F) :=
  fn_sound (fn := Try.f64) (code := (bodyOf Try.f64)) (cx := cx64 F) (hs := hs64 F) (js := hintL []) Try.func64 (by kernel_rfl) (by kernel_rfl) (conf_all _ rfl) (cs64 F) mix (by kernel_rfl) (by kernel_rfl) (fun fr hn => (hok_of (l := [((.loop (sub (bodyOf Try.f64) [1, 1, 0, 1, 0, 0])), { sh := sh64l3, model := m64l3 F F })]) (by kernel_rfl) (obl_cons (ok64l3 F fr hn F) obl_nil))) (fun x => by kernel_rfl)
def sg65 : Sig := { modes := [.bor, .ro], sh := [(0, .box 0 (.pair (.slice (.int .i64)) (.pair (.int .i64) .unit))), (1, .d (.int .i64))], keeps := false, fresh := none, rtys := [(.pair (.slice (.int .i64)) (.pair (.int .i64) .unit)), .bool] }
def con65 (F : Nat) : Contract := mkCon sg65 fun x => made_Tape_Bool F x.1 x.2.1
def cx65 (F : Nat) : Cx := { types := tys, call := callsL [(30, con30 F)], own := [], ntmps := (1, 11) }
theorem cs65 (F : Nat) : ∀ f c, (cx65 F).call f = some c → CMet Try.prog f c := callsL_sound (calls_cons (s30 F) calls_nil)
theorem s65 (F : Nat) : CSound Try.prog 65 (con65 F) :=
  fn_sound (fn := Try.f65) (code := (bodyOf Try.f65)) (cx := cx65 F) (hs := hintL []) (js := hintL []) Try.func65 (by kernel_rfl) (by kernel_rfl) (conf_all _ rfl) (cs65 F) mix (by kernel_rfl) (by kernel_rfl) (fun fr hn => (hok_of (l := []) (by kernel_rfl) obl_nil)) (fun x => by kernel_rfl)
def sg22 : Sig := { modes := [.bor], sh := [(0, .box 0 (.pair (.slice (.int .i64)) (.pair (.int .i64) .unit)))], keeps := false, fresh := some (0, 36), rtys := [(.pair (.slice (.int .i64)) (.pair (.int .i64) .unit)), (.slice (.int .u64))] }
def con22 (F : Nat) : Contract := mkCon sg22 fun x => law09_list F x.1
def cx22 (F : Nat) : Cx := { types := tys, call := callsL [(30, con30 F), (64, con64 F), (65, con65 F)], own := [2, 3], ntmps := (1, 32) }
theorem cs22 (F : Nat) : ∀ f c, (cx22 F).call f = some c → CMet Try.prog f c := callsL_sound (calls_cons (s30 F) (calls_cons (s64 F) (calls_cons (s65 F) calls_nil)))
def sh22l4 : Shape := [(0, .box 0 (.pair (.slice (.int .i64)) (.pair (.int .i64) .unit))), (3, .own 3 (.int .u64) 36), (4, .d (.int .u64)), (5, .d (.int .i64))]
def sh22l4o0 : Shape := [(0, .box 0 (.pair (.slice (.int .i64)) (.pair (.int .i64) .unit))), (3, .own 3 (.int .u64) 36)]
def outs22l4 : Outs := [(2, sh22l4o0)]
def m22l4 (F : Nat) (n : Nat) {R : Type} (x : Shape.den sh22l4) (K : Ex → St → Option R) : Option R := law09_list_l4 F (fun y0 y3 => K (.exit 0) (enc sh22l4o0 (y0, y3, ()))) n x.1 x.2.1 x.2.2.1 x.2.2.2.1
def hs22 (F : Nat) : Nat → Option (Hint (Dens sg22.rtys)) := hintL [(4, { sh := sh22l4, model := m22l4 F F })]
theorem ok22l4 (F : Nat) (fr : Frm) (hn : (cx22 F).ntmps = fr.n) (n : Nat) : MSound (R := (Dens sg22.rtys)) Try.prog fr (.loop (sub (bodyOf Try.f22) [1, 1, 1, 0, 1, 0, 0])) sh22l4 (m22l4 F n) :=
  loop_sound (cx := cx22 F) (hs := hs22 F) (js := hintL []) (outs := outs22l4) (conf_all _ rfl) (cs22 F) hn mix (m := fun n => m22l4 F n) (fun _ _ => rfl) (fun n x K => by kernel_rfl) (hok_of (l := []) (by kernel_rfl) obl_nil) n
theorem s22 (F : Nat) : CSound Try.prog 22 (con22 F) :=
  fn_sound (fn := Try.f22) (code := (bodyOf Try.f22)) (cx := cx22 F) (hs := hs22 F) (js := hintL []) Try.func22 (by kernel_rfl) (by kernel_rfl) (conf_all _ rfl) (cs22 F) mix (by kernel_rfl) (by kernel_rfl) (fun fr hn => (hok_of (l := [((.loop (sub (bodyOf Try.f22) [1, 1, 1, 0, 1, 0, 0])), { sh := sh22l4, model := m22l4 F F })]) (by kernel_rfl) (obl_cons (ok22l4 F fr hn F) obl_nil))) (fun x => by kernel_rfl)
def sg66 : Sig := { modes := [.ro], sh := [(0, .d (.int .u64))], keeps := true, fresh := none, rtys := [(.int .i64)] }
def con66 (F : Nat) : Contract := mkCon sg66 fun x => varint_Size F x.1
def cx66 (F : Nat) : Cx := { types := tys, call := callsL [(97, con97 F)], own := [], ntmps := (0, 8) }
theorem cs66 (F : Nat) : ∀ f c, (cx66 F).call f = some c → CMet Try.prog f c := callsL_sound (calls_cons (s97 F) calls_nil)
theorem s66 (F : Nat) : CSound Try.prog 66 (con66 F) :=
  fn_sound (fn := Try.f66) (code := (bodyOf Try.f66)) (cx := cx66 F) (hs := hintL []) (js := hintL []) Try.func66 (by kernel_rfl) (by kernel_rfl) (conf_all _ rfl) (cs66 F) mix (by kernel_rfl) (by kernel_rfl) (fun fr hn => (hok_of (l := []) (by kernel_rfl) obl_nil)) (fun x => by kernel_rfl)
def sg67 : Sig := { modes := [.ro], sh := [(0, .d (.slice (.int .u64)))], keeps := true, fresh := none, rtys := [(.int .i64)] }
def con67 (F : Nat) : Contract := mkCon sg67 fun x => bitpack_Width F x.1
def cx67 (F : Nat) : Cx := { types := tys, call := callsL [(97, con97 F)], own := [], ntmps := (0, 18) }
theorem cs67 (F : Nat) : ∀ f c, (cx67 F).call f = some c → CMet Try.prog f c := callsL_sound (calls_cons (s97 F) calls_nil)
def sh67l3 : Shape := [(3, .d (.int .u64)), (6, .d (.slice (.int .u64))), (7, .d (.int .i64)), (8, .d (.int .i64))]
def sh67l3o0 : Shape := [(3, .d (.int .u64))]
def outs67l3 : Outs := [(2, sh67l3o0)]
def m67l3 (F : Nat) (n : Nat) {R : Type} (x : Shape.den sh67l3) (K : Ex → St → Option R) : Option R := bitpack_Width_l3 F (fun y3 => K (.exit 0) (enc sh67l3o0 (y3, ()))) n x.1 x.2.1 x.2.2.1 x.2.2.2.1
def hs67 (F : Nat) : Nat → Option (Hint (Dens sg67.rtys)) := hintL [(3, { sh := sh67l3, model := m67l3 F F })]
theorem ok67l3 (F : Nat) (fr : Frm) (hn : (cx67 F).ntmps = fr.n) (n : Nat) : MSound (R := (Dens sg67.rtys)) Try.prog fr (.loop (sub (bodyOf Try.f67) [1, 1, 0, 1, 0, 0])) sh67l3 (m67l3 F n) :=
  loop_sound (cx := cx67 F) (hs := hs67 F) (js := hintL []) (outs := outs67l3) (conf_all _ rfl) (cs67 F) hn mix (m := fun n => m67l3 F n) (fun _ _ => rfl) (fun n x K => by kernel_rfl) (hok_of (l := []) (by kernel_rfl) obl_nil) n
theorem s67 (F : Nat) : CSound Try.prog 67 (con67 F) :=
  fn_sound (fn := Try.f67) (code := (bodyOf Try.f67)) (cx := cx67 F) (hs := hs67 F) (js := hintL []) Try.func67 (by kernel_rfl) (by kernel_rfl) (conf_all _ rfl) (cs67 F) mix (by kernel_rfl) (by kernel_rfl) (fun fr hn => (hok_of (l := [((.loop (sub (bodyOf Try.f67) [1, 1, 0, 1, 0, 0])), { sh := sh67l3, model := m67l3 F F })]) (by kernel_rfl) (obl_cons (ok67l3 F fr hn F) obl_nil))) (fun x => by kernel_rfl)
def sg98 : Sig := { modes := [.ro, .ro], sh := [(0, .d (.int .i64)), (1, .d (.int .i64))], keeps := true, fresh := none, rtys := [(.int .i64)] }
def con98 (F : Nat) : Contract := mkCon sg98 fun x => bitpack_Bytes F x.1 x.2.1
def cx98 (F : Nat) : Cx := { types := tys, call := callsL [], own := [], ntmps := (0, 24) }
theorem cs98 (F : Nat) : ∀ f c, (cx98 F).call f = some c → CMet Try.prog f c := callsL_sound calls_nil
theorem s98 (F : Nat) : CSound Try.prog 98 (con98 F) :=
  fn_sound (fn := Try.f98) (code := (bodyOf Try.f98)) (cx := cx98 F) (hs := hintL []) (js := hintL []) Try.func98 (by kernel_rfl) (by kernel_rfl) (conf_all _ rfl) (cs98 F) mix (by kernel_rfl) (by kernel_rfl) (fun fr hn => (hok_of (l := []) (by kernel_rfl) obl_nil)) (fun x => by kernel_rfl)
def sg68 : Sig := { modes := [.ro, .ro], sh := [(0, .d (.slice (.int .u64))), (1, .d (.int .i64))], keeps := false, fresh := some (0, 5), rtys := [(.slice (.int .u8)), .bool] }
def con68 (F : Nat) : Contract := mkCon sg68 fun x => bitpack_Pack F x.1 x.2.1
def cx68 (F : Nat) : Cx := { types := tys, call := callsL [(98, con98 F), (67, con67 F)], own := [4, 26], ntmps := (0, 64) }
theorem cs68 (F : Nat) : ∀ f c, (cx68 F).call f = some c → CMet Try.prog f c := callsL_sound (calls_cons (s98 F) (calls_cons (s67 F) calls_nil))
def sh68l10 : Shape := [(1, .d (.int .i64)), (7, .own 7 (.int .u8) 5), (8, .d (.int .i64)), (10, .d (.int .u64)), (11, .d (.int .i64)), (27, .d (.slice (.int .u64))), (28, .d (.int .i64)), (29, .d (.int .i64))]
def sh68l10o2 : Shape := [(1, .d (.int .i64)), (7, .own 7 (.int .u8) 5), (8, .d (.int .i64)), (27, .d (.slice (.int .u64))), (28, .d (.int .i64)), (29, .d (.int .i64))]
def outs68l10 : Outs := [(4, sh68l10o2)]
def m68l10 (F : Nat) (n : Nat) {R : Type} (x : Shape.den sh68l10) (K : Ex → St → Option R) : Option R := bitpack_Pack_l10 F (fun y1 y7 y8 y27 y28 y29 => K (.exit 2) (enc sh68l10o2 (y1, y7, y8, y27, y28, y29, ()))) n x.1 x.2.1 x.2.2.1 x.2.2.2.1 x.2.2.2.2.1 x.2.2.2.2.2.1 x.2.2.2.2.2.2.1 x.2.2.2.2.2.2.2.1
def sh68l7 : Shape := [(1, .d (.int .i64)), (7, .own 7 (.int .u8) 5), (8, .d (.int .i64)), (27, .d (.slice (.int .u64))), (28, .d (.int .i64)), (29, .d (.int .i64))]
def sh68l7o0 : Shape := [(7, .own 7 (.int .u8) 5)]
def outs68l7 : Outs := [(2, sh68l7o0)]
def m68l7 (F : Nat) (n : Nat) {R : Type} (x : Shape.den sh68l7) (K : Ex → St → Option R) : Option R := bitpack_Pack_l7 F (fun y7 => K (.exit 0) (enc sh68l7o0 (y7, ()))) n x.1 x.2.1 x.2.2.1 x.2.2.2.1 x.2.2.2.2.1 x.2.2.2.2.2.1
def hs68 (F : Nat) : Nat → Option (Hint (Dens sg68.rtys)) := hintL [(10, { sh := sh68l10, model := m68l10 F F }), (7, { sh := sh68l7, model := m68l7 F F })]
theorem ok68l10 (F : Nat) (fr : Frm) (hn : (cx68 F).ntmps = fr.n) (n : Nat) : MSound (R := (Dens sg68.rtys)) Try.prog fr (.loop (sub (bodyOf Try.f68) [1, 1, 1, 1, 1, 0, 1, 0, 0, 1, 1, 0, 0, 1, 1, 0, 0])) sh68l10 (m68l10 F n) :=
  loop_sound (cx := cx68 F) (hs := hs68 F) (js := hintL []) (outs := outs68l10) (conf_all _ rfl) (cs68 F) hn mix (m := fun n => m68l10 F n) (fun _ _ => rfl) (fun n x K => by kernel_rfl) (hok_of (l := []) (by kernel_rfl) obl_nil) n
theorem ok68l7 (F : Nat) (fr : Frm) (hn : (cx68 F).ntmps = fr.n) (n : Nat) : MSound (R := (Dens sg68.rtys)) Try.prog fr (.loop (sub (bodyOf Try.f68) [1, 1, 1, 1, 1, 0, 1, 0, 0])) sh68l7 (m68l7 F n) :=
  loop_sound (cx := cx68 F) (hs := hs68 F) (js := hintL []) (outs := outs68l7) (conf_all _ rfl) (cs68 F) hn mix (m := fun n => m68l7 F n) (fun _ _ => rfl) (fun n x K => by kernel_rfl) (hok_of (l := [((.loop (sub (bodyOf Try.f68) [1, 1, 1, 1, 1, 0, 1, 0, 0, 1, 1, 0, 0, 1, 1, 0, 0])), { sh := sh68l10, model := m68l10 F F })]) (by kernel_rfl) (obl_cons (ok68l10 F fr hn F) obl_nil)) n
theorem s68 (F : Nat) : CSound Try.prog 68 (con68 F) :=
  fn_sound (fn := Try.f68) (code := (bodyOf Try.f68)) (cx := cx68 F) (hs := hs68 F) (js := hintL []) Try.func68 (by kernel_rfl) (by kernel_rfl) (conf_all _ rfl) (cs68 F) mix (by kernel_rfl) (by kernel_rfl) (fun fr hn => (hok_of (l := [((.loop (sub (bodyOf Try.f68) [1, 1, 1, 1, 1, 0, 1, 0, 0])), { sh := sh68l7, model := m68l7 F F })]) (by kernel_rfl) (obl_cons (ok68l7 F fr hn F) obl_nil))) (fun x => by kernel_rfl)
def sg100 : Sig := nilSig (.int .u8) false (some (0, 5)) [(.slice (.int .u8))]
def con100 (F : Nat) : Contract := mkCon sg100 fun x => slices_Clone_byte F x.1
def cx100 (F : Nat) : Cx := { types := tys, call := callsL [], own := [2, 5], ntmps := (0, 8), nils := [3] }
theorem cs100 (F : Nat) : ∀ f c, (cx100 F).call f = some c → CMet Try.prog f c := callsL_sound calls_nil
theorem s100 (F : Nat) : CSound Try.prog 100 (con100 F) :=
  fn_sound_nil (fn := Try.f100) (code := (bodyOf Try.f100)) (cx := cx100 F) (hs := hintL []) (js := hintL []) Try.func100 (by kernel_rfl) (by kernel_rfl) (conf_all _ rfl) (cs100 F) mix (by kernel_rfl) (by kernel_rfl) (fun fr hn => (hok_of (l := []) (by kernel_rfl) obl_nil)) (fun a l => by kernel_rfl) (by kernel_rfl) (by kernel_rfl)
def sg69 : Sig := { modes := [.ro, .ro], sh := [(0, .d (.slice (.int .u8))), (1, .d (.int .u64))], keeps := false, fresh := some (0, 5), rtys := [(.slice (.int .u8))] }
def con69 (F : Nat) : Contract := mkCon sg69 fun x => varint_Append F x.1 x.2.1
def cx69 (F : Nat) : Cx := { types := tys, call := callsL [(100, con100 F), (99, con99 F)], own := [4, 7, 8], ntmps := (0, 24) }
theorem cs69 (F : Nat) : ∀ f c, (cx69 F).call f = some c → CMet Try.prog f c := callsL_sound (calls_cons (s100 F) (calls_cons (s99 F) calls_nil))
def sh69l2 : Shape := [(1, .d (.int .u64)), (5, .own 5 (.int .u8) 5)]
def sh69l2o0 : Shape := [(1, .d (.int .u64)), (5, .own 5 (.int .u8) 5)]
def outs69l2 : Outs := [(2, sh69l2o0)]
def m69l2 (F : Nat) (n : Nat) {R : Type} (x : Shape.den sh69l2) (K : Ex → St → Option R) : Option R := varint_Append_l2 F (fun y1 y5 => K (.exit 0) (enc sh69l2o0 (y1, y5, ()))) n x.1 x.2.1
def hs69 (F : Nat) : Nat → Option (Hint (Dens sg69.rtys)) := hintL [(2, { sh := sh69l2, model := m69l2 F F })]
theorem ok69l2 (F : Nat) (fr : Frm) (hn : (cx69 F).ntmps = fr.n) (n : Nat) : MSound (R := (Dens sg69.rtys)) Try.prog fr (.loop (sub (bodyOf Try.f69) [1, 1, 0, 0, 0])) sh69l2 (m69l2 F n) :=
  loop_sound (cx := cx69 F) (hs := hs69 F) (js := hintL []) (outs := outs69l2) (conf_all _ rfl) (cs69 F) hn mix (m := fun n => m69l2 F n) (fun _ _ => rfl) (fun n x K => by kernel_rfl) (hok_of (l := []) (by kernel_rfl) obl_nil) n
theorem s69 (F : Nat) : CSound Try.prog 69 (con69 F) :=
  fn_sound (fn := Try.f69) (code := (bodyOf Try.f69)) (cx := cx69 F) (hs := hs69 F) (js := hintL []) Try.func69 (by kernel_rfl) (by kernel_rfl) (conf_all _ rfl) (cs69 F) mix (by kernel_rfl) (by kernel_rfl) (fun fr hn => (hok_of (l := [((.loop (sub (bodyOf Try.f69) [1, 1, 0, 0, 0])), { sh := sh69l2, model := m69l2 F F })]) (by kernel_rfl) (obl_cons (ok69l2 F fr hn F) obl_nil))) (fun x => by kernel_rfl)
def sg24 : Sig := { modes := [.ro], sh := [(0, .d (.slice (.int .u64)))], keeps := false, fresh := some (0, 5), rtys := [(.slice (.int .u8)), (.int .i64)] }
def con24 (F : Nat) : Contract := mkCon sg24 fun x => numbers_Encode F x.1
def cx24 (F : Nat) : Cx := { types := tys, call := callsL [(66, con66 F), (67, con67 F), (68, con68 F), (69, con69 F)], own := [2, 42, 46], ntmps := (0, 59) }
theorem cs24 (F : Nat) : ∀ f c, (cx24 F).call f = some c → CMet Try.prog f c := callsL_sound (calls_cons (s66 F) (calls_cons (s67 F) (calls_cons (s68 F) (calls_cons (s69 F) calls_nil))))
def sh24l5 : Shape := [(0, .d (.slice (.int .u64))), (4, .d (.int .i64)), (16, .d (.slice (.int .u64))), (17, .d (.int .i64)), (18, .d (.int .i64))]
def sh24l5o0 : Shape := [(0, .d (.slice (.int .u64))), (4, .d (.int .i64))]
def outs24l5 : Outs := [(2, sh24l5o0)]
def m24l5 (F : Nat) (n : Nat) {R : Type} (x : Shape.den sh24l5) (K : Ex → St → Option R) : Option R := numbers_Encode_l5 F (fun y0 y4 => K (.exit 0) (enc sh24l5o0 (y0, y4, ()))) n x.1 x.2.1 x.2.2.1 x.2.2.2.1 x.2.2.2.2.1
def sh24l15 : Shape := [(10, .own 10 (.int .u8) 5), (47, .d (.slice (.int .u64))), (48, .d (.int .i64)), (49, .d (.int .i64))]
def sh24l15o2 : Shape := [(10, .own 10 (.int .u8) 5)]
def outs24l15 : Outs := [(4, sh24l15o2)]
def m24l15 (F : Nat) (n : Nat) {R : Type} (x : Shape.den sh24l15) (K : Ex → St → Option R) : Option R := numbers_Encode_l15 F (fun y10 => K (.exit 2) (enc sh24l15o2 (y10, ()))) n x.1 x.2.1 x.2.2.1 x.2.2.2.1
def hs24 (F : Nat) : Nat → Option (Hint (Dens sg24.rtys)) := hintL [(5, { sh := sh24l5, model := m24l5 F F }), (15, { sh := sh24l15, model := m24l15 F F })]
theorem ok24l5 (F : Nat) (fr : Frm) (hn : (cx24 F).ntmps = fr.n) (n : Nat) : MSound (R := (Dens sg24.rtys)) Try.prog fr (.loop (sub (bodyOf Try.f24) [1, 1, 1, 0, 1, 0, 0])) sh24l5 (m24l5 F n) :=
  loop_sound (cx := cx24 F) (hs := hs24 F) (js := hintL []) (outs := outs24l5) (conf_all _ rfl) (cs24 F) hn mix (m := fun n => m24l5 F n) (fun _ _ => rfl) (fun n x K => by kernel_rfl) (hok_of (l := []) (by kernel_rfl) obl_nil) n
theorem ok24l15 (F : Nat) (fr : Frm) (hn : (cx24 F).ntmps = fr.n) (n : Nat) : MSound (R := (Dens sg24.rtys)) Try.prog fr (.loop (sub (bodyOf Try.f24) [1, 1, 1, 1, 1, 1, 1, 1, 0, 1, 0, 0])) sh24l15 (m24l15 F n) :=
  loop_sound (cx := cx24 F) (hs := hs24 F) (js := hintL []) (outs := outs24l15) (conf_all _ rfl) (cs24 F) hn mix (m := fun n => m24l15 F n) (fun _ _ => rfl) (fun n x K => by kernel_rfl) (hok_of (l := []) (by kernel_rfl) obl_nil) n
theorem s24 (F : Nat) : CSound Try.prog 24 (con24 F) :=
  fn_sound (fn := Try.f24) (code := (bodyOf Try.f24)) (cx := cx24 F) (hs := hs24 F) (js := hintL []) Try.func24 (by kernel_rfl) (by kernel_rfl) (conf_all _ rfl) (cs24 F) mix (by kernel_rfl) (by kernel_rfl) (fun fr hn => (hok_of (l := [((.loop (sub (bodyOf Try.f24) [1, 1, 1, 0, 1, 0, 0])), { sh := sh24l5, model := m24l5 F F }), ((.loop (sub (bodyOf Try.f24) [1, 1, 1, 1, 1, 1, 1, 1, 0, 1, 0, 0])), { sh := sh24l15, model := m24l15 F F })]) (by kernel_rfl) (obl_cons (ok24l5 F fr hn F) (obl_cons (ok24l15 F fr hn F) obl_nil)))) (fun x => by kernel_rfl)
def sg28 : Sig := { modes := [.ro, .ro], sh := [(0, .d (.slice (.int .u8))), (1, .d (.int .u64))], keeps := false, fresh := some (0, 5), rtys := [(.slice (.int .u8))] }
def con28 (F : Nat) : Contract := mkCon sg28 fun x => ref05_Append F x.1 x.2.1
def cx28 (F : Nat) : Cx := { types := tys, call := callsL [], own := [4, 6], ntmps := (0, 25) }
theorem cs28 (F : Nat) : ∀ f c, (cx28 F).call f = some c → CMet Try.prog f c := callsL_sound calls_nil
def sh28l2 : Shape := [(1, .d (.int .u64)), (5, .own 5 (.int .u8) 5)]
def sh28l2o0 : Shape := [(1, .d (.int .u64)), (5, .own 5 (.int .u8) 5)]
def outs28l2 : Outs := [(2, sh28l2o0)]
def m28l2 (F : Nat) (n : Nat) {R : Type} (x : Shape.den sh28l2) (K : Ex → St → Option R) : Option R := ref05_Append_l2 F (fun y1 y5 => K (.exit 0) (enc sh28l2o0 (y1, y5, ()))) n x.1 x.2.1
def hs28 (F : Nat) : Nat → Option (Hint (Dens sg28.rtys)) := hintL [(2, { sh := sh28l2, model := m28l2 F F })]
theorem ok28l2 (F : Nat) (fr : Frm) (hn : (cx28 F).ntmps = fr.n) (n : Nat) : MSound (R := (Dens sg28.rtys)) Try.prog fr (.loop (sub (bodyOf Try.f28) [1, 1, 0, 0, 0])) sh28l2 (m28l2 F n) :=
  loop_sound (cx := cx28 F) (hs := hs28 F) (js := hintL []) (outs := outs28l2) (conf_all _ rfl) (cs28 F) hn mix (m := fun n => m28l2 F n) (fun _ _ => rfl) (fun n x K => by kernel_rfl) (hok_of (l := []) (by kernel_rfl) obl_nil) n
theorem s28 (F : Nat) : CSound Try.prog 28 (con28 F) :=
  fn_sound (fn := Try.f28) (code := (bodyOf Try.f28)) (cx := cx28 F) (hs := hs28 F) (js := hintL []) Try.func28 (by kernel_rfl) (by kernel_rfl) (conf_all _ rfl) (cs28 F) mix (by kernel_rfl) (by kernel_rfl) (fun fr hn => (hok_of (l := [((.loop (sub (bodyOf Try.f28) [1, 1, 0, 0, 0])), { sh := sh28l2, model := m28l2 F F })]) (by kernel_rfl) (obl_cons (ok28l2 F fr hn F) obl_nil))) (fun x => by kernel_rfl)
def sg37 : Sig := { modes := [.ro], sh := [(0, .d (.int .u64))], keeps := true, fresh := none, rtys := [(.int .i64)] }
def con37 (F : Nat) : Contract := mkCon sg37 fun x => ref05_Size F x.1
def cx37 (F : Nat) : Cx := { types := tys, call := callsL [(28, con28 F)], own := [], ntmps := (0, 6) }
theorem cs37 (F : Nat) : ∀ f c, (cx37 F).call f = some c → CMet Try.prog f c := callsL_sound (calls_cons (s28 F) calls_nil)
theorem s37 (F : Nat) : CSound Try.prog 37 (con37 F) :=
  fn_sound (fn := Try.f37) (code := (bodyOf Try.f37)) (cx := cx37 F) (hs := hintL []) (js := hintL []) Try.func37 (by kernel_rfl) (by kernel_rfl) (conf_all _ rfl) (cs37 F) mix (by kernel_rfl) (by kernel_rfl) (fun fr hn => (hok_of (l := []) (by kernel_rfl) obl_nil)) (fun x => by kernel_rfl)
def sg29 : Sig := { modes := [.ro], sh := [(0, .d (.slice (.int .u64)))], keeps := true, fresh := none, rtys := [(.int .i64)] }
def con29 (F : Nat) : Contract := mkCon sg29 fun x => ref08_Width F x.1
def cx29 (F : Nat) : Cx := { types := tys, call := callsL [], own := [], ntmps := (0, 26) }
theorem cs29 (F : Nat) : ∀ f c, (cx29 F).call f = some c → CMet Try.prog f c := callsL_sound calls_nil
def sh29l5 : Shape := [(0, .d (.slice (.int .u64))), (3, .d (.int .i64)), (4, .d (.int .i64))]
def sh29l5o2 : Shape := [(0, .d (.slice (.int .u64))), (3, .d (.int .i64)), (4, .d (.int .i64))]
def outs29l5 : Outs := [(4, sh29l5o2)]
def m29l5 (F : Nat) (n : Nat) {R : Type} (x : Shape.den sh29l5) (K : Ex → St → Option R) : Option R := ref08_Width_l5 F (fun y0 y3 y4 => K (.exit 2) (enc sh29l5o2 (y0, y3, y4, ()))) n x.1 x.2.1 x.2.2.1
def sh29l3 : Shape := [(0, .d (.slice (.int .u64))), (3, .d (.int .i64)), (4, .d (.int .i64))]
def sh29l3o0 : Shape := [(3, .d (.int .i64))]
def outs29l3 : Outs := [(2, sh29l3o0)]
def m29l3 (F : Nat) (n : Nat) {R : Type} (x : Shape.den sh29l3) (K : Ex → St → Option R) : Option R := ref08_Width_l3 F (fun y3 => K (.exit 0) (enc sh29l3o0 (y3, ()))) n x.1 x.2.1 x.2.2.1
def hs29 (F : Nat) : Nat → Option (Hint (Dens sg29.rtys)) := hintL [(5, { sh := sh29l5, model := m29l5 F F }), (3, { sh := sh29l3, model := m29l3 F F })]
theorem ok29l5 (F : Nat) (fr : Frm) (hn : (cx29 F).ntmps = fr.n) (n : Nat) : MSound (R := (Dens sg29.rtys)) Try.prog fr (.loop (sub (bodyOf Try.f29) [1, 1, 0, 1, 0, 0, 1, 0, 0, 0, 0])) sh29l5 (m29l5 F n) :=
  loop_sound (cx := cx29 F) (hs := hs29 F) (js := hintL []) (outs := outs29l5) (conf_all _ rfl) (cs29 F) hn mix (m := fun n => m29l5 F n) (fun _ _ => rfl) (fun n x K => by kernel_rfl) (hok_of (l := []) (by kernel_rfl) obl_nil) n
theorem ok29l3 (F : Nat) (fr : Frm) (hn : (cx29 F).ntmps = fr.n) (n : Nat) : MSound (R := (Dens sg29.rtys)) Try.prog fr (.loop (sub (bodyOf Try.f29) [1, 1, 0, 1, 0, 0])) sh29l3 (m29l3 F n) :=
  loop_sound (cx := cx29 F) (hs := hs29 F) (js := hintL []) (outs := outs29l3) (conf_all _ rfl) (cs29 F) hn mix (m := fun n => m29l3 F n) (fun _ _ => rfl) (fun n x K => by kernel_rfl) (hok_of (l := [((.loop (sub (bodyOf Try.f29) [1, 1, 0, 1, 0, 0, 1, 0, 0, 0, 0])), { sh := sh29l5, model := m29l5 F F })]) (by kernel_rfl) (obl_cons (ok29l5 F fr hn F) obl_nil)) n
theorem s29 (F : Nat) : CSound Try.prog 29 (con29 F) :=
  fn_sound (fn := Try.f29) (code := (bodyOf Try.f29)) (cx := cx29 F) (hs := hs29 F) (js := hintL []) Try.func29 (by kernel_rfl) (by kernel_rfl) (conf_all _ rfl) (cs29 F) mix (by kernel_rfl) (by kernel_rfl) (fun fr hn => (hok_of (l := [((.loop (sub (bodyOf Try.f29) [1, 1, 0, 1, 0, 0])), { sh := sh29l3, model := m29l3 F F })]) (by kernel_rfl) (obl_cons (ok29l3 F fr hn F) obl_nil))) (fun x => by kernel_rfl)
def sg38 : Sig := { modes := [.ro, .ro], sh := [(0, .d (.int .i64)), (1, .d (.int .i64))], keeps := true, fresh := none, rtys := [(.int .i64)] }
def con38 (F : Nat) : Contract := mkCon sg38 fun x => ref08_Bytes F x.1 x.2.1
def cx38 (F : Nat) : Cx := { types := tys, call := callsL [], own := [], ntmps := (0, 24) }
theorem cs38 (F : Nat) : ∀ f c, (cx38 F).call f = some c → CMet Try.prog f c := callsL_sound calls_nil
theorem s38 (F : Nat) : CSound Try.prog 38 (con38 F) :=
  fn_sound (fn := Try.f38) (code := (bodyOf Try.f38)) (cx := cx38 F) (hs := hintL []) (js := hintL []) Try.func38 (by kernel_rfl) (by kernel_rfl) (conf_all _ rfl) (cs38 F) mix (by kernel_rfl) (by kernel_rfl) (fun fr hn => (hok_of (l := []) (by kernel_rfl) obl_nil)) (fun x => by kernel_rfl)
def sg31 : Sig := { modes := [.ro, .ro], sh := [(0, .d (.slice (.int .u64))), (1, .d (.int .i64))], keeps := false, fresh := some (0, 5), rtys := [(.slice (.int .u8)), .bool] }
def con31 (F : Nat) : Contract := mkCon sg31 fun x => ref08_Pack F x.1 x.2.1
def cx31 (F : Nat) : Cx := { types := tys, call := callsL [(38, con38 F), (29, con29 F)], own := [4, 24], ntmps := (0, 62) }
theorem cs31 (F : Nat) : ∀ f c, (cx31 F).call f = some c → CMet Try.prog f c := callsL_sound (calls_cons (s38 F) (calls_cons (s29 F) calls_nil))
def sh31l9 : Shape := [(0, .d (.slice (.int .u64))), (1, .d (.int .i64)), (7, .own 7 (.int .u8) 5), (8, .d (.int .i64)), (9, .d (.int .i64))]
def sh31l9o2 : Shape := [(0, .d (.slice (.int .u64))), (1, .d (.int .i64)), (7, .own 7 (.int .u8) 5), (8, .d (.int .i64))]
def outs31l9 : Outs := [(4, sh31l9o2)]
def m31l9 (F : Nat) (n : Nat) {R : Type} (x : Shape.den sh31l9) (K : Ex → St → Option R) : Option R := ref08_Pack_l9 F (fun y0 y1 y7 y8 => K (.exit 2) (enc sh31l9o2 (y0, y1, y7, y8, ()))) n x.1 x.2.1 x.2.2.1 x.2.2.2.1 x.2.2.2.2.1
def sh31l6 : Shape := [(0, .d (.slice (.int .u64))), (1, .d (.int .i64)), (7, .own 7 (.int .u8) 5), (8, .d (.int .i64))]
def sh31l6o0 : Shape := [(7, .own 7 (.int .u8) 5)]
def outs31l6 : Outs := [(2, sh31l6o0)]
def m31l6 (F : Nat) (n : Nat) {R : Type} (x : Shape.den sh31l6) (K : Ex → St → Option R) : Option R := ref08_Pack_l6 F (fun y7 => K (.exit 0) (enc sh31l6o0 (y7, ()))) n x.1 x.2.1 x.2.2.1 x.2.2.2.1
def hs31 (F : Nat) : Nat → Option (Hint (Dens sg31.rtys)) := hintL [(9, { sh := sh31l9, model := m31l9 F F }), (6, { sh := sh31l6, model := m31l6 F F })]
theorem ok31l9 (F : Nat) (fr : Frm) (hn : (cx31 F).ntmps = fr.n) (n : Nat) : MSound (R := (Dens sg31.rtys)) Try.prog fr (.loop (sub (bodyOf Try.f31) [1, 1, 1, 1, 0, 1, 0, 0, 1, 0, 0, 1, 0, 0])) sh31l9 (m31l9 F n) :=
  loop_sound (cx := cx31 F) (hs := hs31 F) (js := hintL []) (outs := outs31l9) (conf_all _ rfl) (cs31 F) hn mix (m := fun n => m31l9 F n) (fun _ _ => rfl) (fun n x K => by kernel_rfl) (hok_of (l := []) (by kernel_rfl) obl_nil) n
theorem ok31l6 (F : Nat) (fr : Frm) (hn : (cx31 F).ntmps = fr.n) (n : Nat) : MSound (R := (Dens sg31.rtys)) Try.prog fr (.loop (sub (bodyOf Try.f31) [1, 1, 1, 1, 0, 1, 0, 0])) sh31l6 (m31l6 F n) :=
  loop_sound (cx := cx31 F) (hs := hs31 F) (js := hintL []) (outs := outs31l6) (conf_all _ rfl) (cs31 F) hn mix (m := fun n => m31l6 F n) (fun _ _ => rfl) (fun n x K => by kernel_rfl) (hok_of (l := [((.loop (sub (bodyOf Try.f31) [1, 1, 1, 1, 0, 1, 0, 0, 1, 0, 0, 1, 0, 0])), { sh := sh31l9, model := m31l9 F F })]) (by kernel_rfl) (obl_cons (ok31l9 F fr hn F) obl_nil)) n
theorem s31 (F : Nat) : CSound Try.prog 31 (con31 F) :=
  fn_sound (fn := Try.f31) (code := (bodyOf Try.f31)) (cx := cx31 F) (hs := hs31 F) (js := hintL []) Try.func31 (by kernel_rfl) (by kernel_rfl) (conf_all _ rfl) (cs31 F) mix (by kernel_rfl) (by kernel_rfl) (fun fr hn => (hok_of (l := [((.loop (sub (bodyOf Try.f31) [1, 1, 1, 1, 0, 1, 0, 0])), { sh := sh31l6, model := m31l6 F F })]) (by kernel_rfl) (obl_cons (ok31l6 F fr hn F) obl_nil))) (fun x => by kernel_rfl)
def sg25 : Sig := { modes := [.ro], sh := [(0, .d (.slice (.int .u64)))], keeps := false, fresh := some (0, 5), rtys := [(.slice (.int .u8)), (.int .i64)] }
def con25 (F : Nat) : Contract := mkCon sg25 fun x => ref09_Encode F x.1
def cx25 (F : Nat) : Cx := { types := tys, call := callsL [(37, con37 F), (29, con29 F), (31, con31 F), (28, con28 F)], own := [2, 42, 46], ntmps := (0, 61) }
theorem cs25 (F : Nat) : ∀ f c, (cx25 F).call f = some c → CMet Try.prog f c := callsL_sound (calls_cons (s37 F) (calls_cons (s29 F) (calls_cons (s31 F) (calls_cons (s28 F) calls_nil))))
def sh25l5 : Shape := [(0, .d (.slice (.int .u64))), (4, .d (.int .i64)), (5, .d (.int .i64))]
def sh25l5o0 : Shape := [(0, .d (.slice (.int .u64))), (4, .d (.int .i64))]
def outs25l5 : Outs := [(2, sh25l5o0)]
def m25l5 (F : Nat) (n : Nat) {R : Type} (x : Shape.den sh25l5) (K : Ex → St → Option R) : Option R := ref09_Encode_l5 F (fun y0 y4 => K (.exit 0) (enc sh25l5o0 (y0, y4, ()))) n x.1 x.2.1 x.2.2.1
def sh25l14 : Shape := [(0, .d (.slice (.int .u64))), (9, .own 9 (.int .u8) 5), (10, .d (.int .i64))]
def sh25l14o2 : Shape := [(9, .own 9 (.int .u8) 5)]
def outs25l14 : Outs := [(4, sh25l14o2)]
def m25l14 (F : Nat) (n : Nat) {R : Type} (x : Shape.den sh25l14) (K : Ex → St → Option R) : Option R := ref09_Encode_l14 F (fun y9 => K (.exit 2) (enc sh25l14o2 (y9, ()))) n x.1 x.2.1 x.2.2.1
def hs25 (F : Nat) : Nat → Option (Hint (Dens sg25.rtys)) := hintL [(5, { sh := sh25l5, model := m25l5 F F }), (14, { sh := sh25l14, model := m25l14 F F })]
theorem ok25l5 (F : Nat) (fr : Frm) (hn : (cx25 F).ntmps = fr.n) (n : Nat) : MSound (R := (Dens sg25.rtys)) Try.prog fr (.loop (sub (bodyOf Try.f25) [1, 1, 1, 0, 1, 0, 0])) sh25l5 (m25l5 F n) :=
  loop_sound (cx := cx25 F) (hs := hs25 F) (js := hintL []) (outs := outs25l5) (conf_all _ rfl) (cs25 F) hn mix (m := fun n => m25l5 F n) (fun _ _ => rfl) (fun n x K => by kernel_rfl) (hok_of (l := []) (by kernel_rfl) obl_nil) n
theorem ok25l14 (F : Nat) (fr : Frm) (hn : (cx25 F).ntmps = fr.n) (n : Nat) : MSound (R := (Dens sg25.rtys)) Try.prog fr (.loop (sub (bodyOf Try.f25) [1, 1, 1, 1, 1, 1, 1, 1, 0, 1, 0, 0])) sh25l14 (m25l14 F n) :=
  loop_sound (cx := cx25 F) (hs := hs25 F) (js := hintL []) (outs := outs25l14) (conf_all _ rfl) (cs25 F) hn mix (m := fun n => m25l14 F n) (fun _ _ => rfl) (fun n x K => by kernel_rfl) (hok_of (l := []) (by kernel_rfl) obl_nil) n
theorem s25 (F : Nat) : CSound Try.prog 25 (con25 F) :=
  fn_sound (fn := Try.f25) (code := (bodyOf Try.f25)) (cx := cx25 F) (hs := hs25 F) (js := hintL []) Try.func25 (by kernel_rfl) (by kernel_rfl) (conf_all _ rfl) (cs25 F) mix (by kernel_rfl) (by kernel_rfl) (fun fr hn => (hok_of (l := [((.loop (sub (bodyOf Try.f25) [1, 1, 1, 0, 1, 0, 0])), { sh := sh25l5, model := m25l5 F F }), ((.loop (sub (bodyOf Try.f25) [1, 1, 1, 1, 1, 1, 1, 1, 0, 1, 0, 0])), { sh := sh25l14, model := m25l14 F F })]) (by kernel_rfl) (obl_cons (ok25l5 F fr hn F) (obl_cons (ok25l14 F fr hn F) obl_nil)))) (fun x => by kernel_rfl)
def sg26 : Sig := { modes := [.ro, .ro], sh := [(0, .d (.slice (.int .u8))), (1, .d (.slice (.int .u8)))], keeps := true, fresh := none, rtys := [.bool] }
def con26 (F : Nat) : Contract := mkCon sg26 fun x => ref06_Same F x.1 x.2.1
def cx26 (F : Nat) : Cx := { types := tys, call := callsL [], own := [], ntmps := (0, 26) }
theorem cs26 (F : Nat) : ∀ f c, (cx26 F).call f = some c → CMet Try.prog f c := callsL_sound calls_nil
def sh26l4 : Shape := [(0, .d (.slice (.int .u8))), (1, .d (.slice (.int .u8))), (5, .d (.int .i64))]
def sh26l4o0 : Shape := []
def sh26l4oret : Shape := [(4, .d .bool)]
def outs26l4 : Outs := [(2, sh26l4o0), (1, sh26l4oret)]
def m26l4 (F : Nat) (n : Nat) {R : Type} (x : Shape.den sh26l4) (K : Ex → St → Option R) : Option R := ref06_Same_l4 F (K (.exit 0) (enc sh26l4o0 (()))) (fun y4 => K .ret (enc sh26l4oret (y4, ()))) n x.1 x.2.1 x.2.2.1
def hs26 (F : Nat) : Nat → Option (Hint (Dens sg26.rtys)) := hintL [(4, { sh := sh26l4, model := m26l4 F F })]
theorem ok26l4 (F : Nat) (fr : Frm) (hn : (cx26 F).ntmps = fr.n) (n : Nat) : MSound (R := (Dens sg26.rtys)) Try.prog fr (.loop (sub (bodyOf Try.f26) [1, 1, 0, 1, 0, 0])) sh26l4 (m26l4 F n) :=
  loop_sound (cx := cx26 F) (hs := hs26 F) (js := hintL []) (outs := outs26l4) (conf_all _ rfl) (cs26 F) hn mix (m := fun n => m26l4 F n) (fun _ _ => rfl) (fun n x K => by kernel_rfl) (hok_of (l := []) (by kernel_rfl) obl_nil) n
theorem s26 (F : Nat) : CSound Try.prog 26 (con26 F) :=
  fn_sound (fn := Try.f26) (code := (bodyOf Try.f26)) (cx := cx26 F) (hs := hs26 F) (js := hintL []) Try.func26 (by kernel_rfl) (by kernel_rfl) (conf_all _ rfl) (cs26 F) mix (by kernel_rfl) (by kernel_rfl) (fun fr hn => (hok_of (l := [((.loop (sub (bodyOf Try.f26) [1, 1, 0, 1, 0, 0])), { sh := sh26l4, model := m26l4 F F })]) (by kernel_rfl) (obl_cons (ok26l4 F fr hn F) obl_nil))) (fun x => by kernel_rfl)
def sg117 : Sig := { modes := [.ro], sh := [(0, .d (.int .u8))], keeps := true, fresh := none, rtys := [.bool] }
def con117 (F : Nat) : Contract := mkCon sg117 fun x => varint_groups_1 F x.1
def cx117 (F : Nat) : Cx := { types := tys, call := callsL [], own := [], ntmps := (0, 5) }
theorem cs117 (F : Nat) : ∀ f c, (cx117 F).call f = some c → CMet Try.prog f c := callsL_sound calls_nil
theorem s117 (F : Nat) : CSound Try.prog 117 (con117 F) :=
  fn_sound (fn := Try.f117) (code := (bodyOf Try.f117)) (cx := cx117 F) (hs := hintL []) (js := hintL []) Try.func117 (by kernel_rfl) (by kernel_rfl) (conf_all _ rfl) (cs117 F) mix (by kernel_rfl) (by kernel_rfl) (fun fr hn => (hok_of (l := []) (by kernel_rfl) obl_nil)) (fun x => by kernel_rfl)
def sg116 : Sig := { modes := [.ro, .ro], sh := [(0, .d (.slice (.int .u8))), (1, .fn 117)], keeps := true, fresh := none, rtys := [(.int .i64)] }
def con116 (F : Nat) : Contract := mkCon sg116 fun x => slices_IndexFunc_byte F x.1
def cx116 (F : Nat) : Cx := { types := tys, call := callsL [(117, con117 F)], own := [], ntmps := (0, 19) }
theorem cs116 (F : Nat) : ∀ f c, (cx116 F).call f = some c → CMet Try.prog f c := callsL_sound (calls_cons (s117 F) calls_nil)
def sh116l2 : Shape := [(0, .d (.slice (.int .u8))), (1, .fn 117), (7, .d (.int .i64)), (8, .d (.int .i64))]
def sh116l2o0 : Shape := []
def sh116l2oret : Shape := [(4, .d (.int .i64))]
def outs116l2 : Outs := [(2, sh116l2o0), (1, sh116l2oret)]
def m116l2 (F : Nat) (n : Nat) {R : Type} (x : Shape.den sh116l2) (K : Ex → St → Option R) : Option R := slices_IndexFunc_byte_l2 F (K (.exit 0) (enc sh116l2o0 (()))) (fun y4 => K .ret (enc sh116l2oret (y4, ()))) n x.1 x.2.2.1 x.2.2.2.1
def hs116 (F : Nat) : Nat → Option (Hint (Dens sg116.rtys)) := hintL [(2, { sh := sh116l2, model := m116l2 F F })]
theorem ok116l2 (F : Nat) (fr : Frm) (hn : (cx116 F).ntmps = fr.n) (n : Nat) : MSound (R := (Dens sg116.rtys)) Try.prog fr (.loop (sub (bodyOf Try.f116) [1, 0, 1, 0, 0])) sh116l2 (m116l2 F n) :=
  loop_sound (cx := cx116 F) (hs := hs116 F) (js := hintL []) (outs := outs116l2) (conf_all _ rfl) (cs116 F) hn mix (m := fun n => m116l2 F n) (fun _ _ => rfl) (fun n x K => by kernel_rfl) (hok_of (l := []) (by kernel_rfl) obl_nil) n
theorem s116 (F : Nat) : CSound Try.prog 116 (con116 F) :=
  fn_sound (fn := Try.f116) (code := (bodyOf Try.f116)) (cx := cx116 F) (hs := hs116 F) (js := hintL []) Try.func116 (by kernel_rfl) (by kernel_rfl) (conf_all _ rfl) (cs116 F) mix (by kernel_rfl) (by kernel_rfl) (fun fr hn => (hok_of (l := [((.loop (sub (bodyOf Try.f116) [1, 0, 1, 0, 0])), { sh := sh116l2, model := m116l2 F F })]) (by kernel_rfl) (obl_cons (ok116l2 F fr hn F) obl_nil))) (fun x => by kernel_rfl)
def sg114 : Sig := { modes := [.ro, .ro, .ro], sh := [(0, .d (.slice (.int .u8))), (1, .d (.int .i64)), (2, .d (.int .i64))], keeps := false, fresh := none, rtys := [(.slice (.int .u8)), (.int .i64)] }
def con114 (F : Nat) : Contract := mkCon sg114 fun x => varint_groups F x.1 x.2.1 x.2.2.1
def cx114 (F : Nat) : Cx := { types := tys, call := callsL [(116, con116 F)], own := [6, 25, 53], ntmps := (0, 54) }
theorem cs114 (F : Nat) : ∀ f c, (cx114 F).call f = some c → CMet Try.prog f c := callsL_sound (calls_cons (s116 F) calls_nil)
def sh114j6 : Shape := [(0, .d (.slice (.int .u8))), (8, .d (.int .i64)), (27, .d .bool)]
def sh114j6on : Shape := [(0, .d (.slice (.int .u8))), (8, .d (.int .i64))]
def sh114j6oret : Shape := [(6, .own 6 (.int .u8) 5), (7, .d (.int .i64))]
def outs114j6 : Outs := [(0, sh114j6on), (1, sh114j6oret)]
def m114j6 (F : Nat) {R : Type} (x : Shape.den sh114j6) (K : Ex → St → Option R) : Option R := varint_groups_j6 F (fun y0 y8 => K .normal (enc sh114j6on (y0, y8, ()))) (fun y6 y7 => K .ret (enc sh114j6oret (y6, y7, ()))) x.1 x.2.1 x.2.2.1
def js114 (F : Nat) : Nat → Option (Hint (Dens sg114.rtys)) := hintL [(6, { sh := sh114j6, model := m114j6 F })]
theorem ok114j6 (F : Nat) (fr : Frm) (hn : (cx114 F).ntmps = fr.n) : MSound (R := (Dens sg114.rtys)) Try.prog fr (sub (bodyOf Try.f114) [1, 1, 1, 1, 0, 0, 1]) sh114j6 (m114j6 F) :=
  join_sound (cx := cx114 F) (hs := hintL []) (js := js114 F) (outs := outs114j6) (conf_all _ rfl) (cs114 F) hn mix (fun x K => by kernel_rfl) (hok_of (l := []) (by kernel_rfl) obl_nil)
theorem s114 (F : Nat) : CSound Try.prog 114 (con114 F) :=
  fn_sound (fn := Try.f114) (code := (bodyOf Try.f114)) (cx := cx114 F) (hs := hintL []) (js := js114 F) Try.func114 (by kernel_rfl) (by kernel_rfl) (conf_all _ rfl) (cs114 F) mix (by kernel_rfl) (by kernel_rfl) (fun fr hn => (hok_of (l := [((sub (bodyOf Try.f114) [1, 1, 1, 1, 0, 0, 1]), { sh := sh114j6, model := m114j6 F })]) (by kernel_rfl) (obl_cons (ok114j6 F fr hn) obl_nil))) (fun x => by kernel_rfl)
def sg103 : Sig := { modes := [.ro, .ro], sh := [(0, .d (.slice (.int .u8))), (1, .d (.int .i64))], keeps := true, fresh := none, rtys := [(.int .u64), (.int .i64), (.int .i64)] }
def con103 (F : Nat) : Contract := mkCon sg103 fun x => varint_Read F x.1 x.2.1
def cx103 (F : Nat) : Cx := { types := tys, call := callsL [(114, con114 F)], own := [], ntmps := (0, 51) }
theorem cs103 (F : Nat) : ∀ f c, (cx103 F).call f = some c → CMet Try.prog f c := callsL_sound (calls_cons (s114 F) calls_nil)
def sh103l8 : Shape := [(1, .d (.int .i64)), (7, .d (.slice (.int .u8))), (9, .d (.int .u64)), (30, .d (.slice (.int .u8))), (31, .d (.int .i64)), (32, .d (.int .i64))]
def sh103l8o0 : Shape := [(1, .d (.int .i64)), (7, .d (.slice (.int .u8))), (9, .d (.int .u64))]
def outs103l8 : Outs := [(2, sh103l8o0)]
def m103l8 (F : Nat) (n : Nat) {R : Type} (x : Shape.den sh103l8) (K : Ex → St → Option R) : Option R := varint_Read_l8 F (fun y1 y7 y9 => K (.exit 0) (enc sh103l8o0 (y1, y7, y9, ()))) n x.1 x.2.1 x.2.2.1 x.2.2.2.1 x.2.2.2.2.1 x.2.2.2.2.2.1
def sh103j6 : Shape := [(1, .d (.int .i64)), (7, .d (.slice (.int .u8)))]
def sh103j6oret : Shape := [(4, .d (.int .u64)), (5, .d (.int .i64)), (6, .d (.int .i64))]
def outs103j6 : Outs := [(1, sh103j6oret)]
def m103j6 (F : Nat) {R : Type} (x : Shape.den sh103j6) (K : Ex → St → Option R) : Option R := varint_Read_j6 F (fun y4 y5 y6 => K .ret (enc sh103j6oret (y4, y5, y6, ()))) x.1 x.2.1
def hs103 (F : Nat) : Nat → Option (Hint (Dens sg103.rtys)) := hintL [(8, { sh := sh103l8, model := m103l8 F F })]
def js103 (F : Nat) : Nat → Option (Hint (Dens sg103.rtys)) := hintL [(6, { sh := sh103j6, model := m103j6 F })]
theorem ok103l8 (F : Nat) (fr : Frm) (hn : (cx103 F).ntmps = fr.n) (n : Nat) : MSound (R := (Dens sg103.rtys)) Try.prog fr (.loop (sub (bodyOf Try.f103) [1, 1, 1, 1, 1, 0, 1, 0, 0])) sh103l8 (m103l8 F n) :=
  loop_sound (cx := cx103 F) (hs := hs103 F) (js := js103 F) (outs := outs103l8) (conf_all _ rfl) (cs103 F) hn mix (m := fun n => m103l8 F n) (fun _ _ => rfl) (fun n x K => by kernel_rfl) (hok_of (l := []) (by kernel_rfl) obl_nil) n
theorem ok103j6 (F : Nat) (fr : Frm) (hn : (cx103 F).ntmps = fr.n) : MSound (R := (Dens sg103.rtys)) Try.prog fr (sub (bodyOf Try.f103) [1, 1, 1, 1]) sh103j6 (m103j6 F) :=
  join_sound (cx := cx103 F) (hs := hs103 F) (js := js103 F) (outs := outs103j6) (conf_all _ rfl) (cs103 F) hn mix (fun x K => by kernel_rfl) (hok_of (l := [((.loop (sub (bodyOf Try.f103) [1, 1, 1, 1, 1, 0, 1, 0, 0])), { sh := sh103l8, model := m103l8 F F })]) (by kernel_rfl) (obl_cons (ok103l8 F fr hn F) obl_nil))
theorem s103 (F : Nat) : CSound Try.prog 103 (con103 F) :=
  fn_sound (fn := Try.f103) (code := (bodyOf Try.f103)) (cx := cx103 F) (hs := hs103 F) (js := js103 F) Try.func103 (by kernel_rfl) (by kernel_rfl) (conf_all _ rfl) (cs103 F) mix (by kernel_rfl) (by kernel_rfl) (fun fr hn => (hok_of (l := [((sub (bodyOf Try.f103) [1, 1, 1, 1]), { sh := sh103j6, model := m103j6 F })]) (by kernel_rfl) (obl_cons (ok103j6 F fr hn) obl_nil))) (fun x => by kernel_rfl)
def sg71 : Sig := { modes := [.ro, .ro, .ro], sh := [(0, .d (.slice (.int .u8))), (1, .d (.int .i64)), (2, .d (.int .i64))], keeps := false, fresh := some (0, 36), rtys := [(.slice (.int .u64)), (.int .i64), (.int .i64)] }
def con71 (F : Nat) : Contract := mkCon sg71 fun x => numbers_plain F x.1 x.2.1 x.2.2.1
def cx71 (F : Nat) : Cx := { types := tys, call := callsL [(103, con103 F)], own := [6, 19], ntmps := (0, 41) }
theorem cs71 (F : Nat) : ∀ f c, (cx71 F).call f = some c → CMet Try.prog f c := callsL_sound (calls_cons (s103 F) calls_nil)
def sh71l3 : Shape := [(0, .d (.slice (.int .u8))), (1, .d (.int .i64)), (9, .own 9 (.int .u64) 36), (20, .d (.int .i64)), (21, .d (.int .i64))]
def sh71l3o0 : Shape := [(1, .d (.int .i64)), (9, .own 9 (.int .u64) 36)]
def sh71l3oret : Shape := [(6, .own 6 (.int .u64) 36), (7, .d (.int .i64)), (8, .d (.int .i64))]
def outs71l3 : Outs := [(2, sh71l3o0), (1, sh71l3oret)]
def m71l3 (F : Nat) (n : Nat) {R : Type} (x : Shape.den sh71l3) (K : Ex → St → Option R) : Option R := numbers_plain_l3 F (fun y1 y9 => K (.exit 0) (enc sh71l3o0 (y1, y9, ()))) (fun y6 y7 y8 => K .ret (enc sh71l3oret (y6, y7, y8, ()))) n x.1 x.2.1 x.2.2.1 x.2.2.2.1 x.2.2.2.2.1
def hs71 (F : Nat) : Nat → Option (Hint (Dens sg71.rtys)) := hintL [(3, { sh := sh71l3, model := m71l3 F F })]
theorem ok71l3 (F : Nat) (fr : Frm) (hn : (cx71 F).ntmps = fr.n) (n : Nat) : MSound (R := (Dens sg71.rtys)) Try.prog fr (.loop (sub (bodyOf Try.f71) [1, 1, 0, 1, 0, 0])) sh71l3 (m71l3 F n) :=
  loop_sound (cx := cx71 F) (hs := hs71 F) (js := hintL []) (outs := outs71l3) (conf_all _ rfl) (cs71 F) hn mix (m := fun n => m71l3 F n) (fun _ _ => rfl) (fun n x K => by kernel_rfl) (hok_of (l := []) (by kernel_rfl) obl_nil) n
theorem s71 (F : Nat) : CSound Try.prog 71 (con71 F) :=
  fn_sound (fn := Try.f71) (code := (bodyOf Try.f71)) (cx := cx71 F) (hs := hs71 F) (js := hintL []) Try.func71 (by kernel_rfl) (by kernel_rfl) (conf_all _ rfl) (cs71 F) mix (by kernel_rfl) (by kernel_rfl) (fun fr hn => (hok_of (l := [((.loop (sub (bodyOf Try.f71) [1, 1, 0, 1, 0, 0])), { sh := sh71l3, model := m71l3 F F })]) (by kernel_rfl) (obl_cons (ok71l3 F fr hn F) obl_nil))) (fun x => by kernel_rfl)
def sg104 : Sig := { modes := [.ro, .ro, .ro], sh := [(0, .d (.slice (.int .u8))), (1, .d (.int .i64)), (2, .d (.int .i64))], keeps := false, fresh := some (0, 36), rtys := [(.slice (.int .u64)), .bool] }
def con104 (F : Nat) : Contract := mkCon sg104 fun x => bitpack_Unpack F x.1 x.2.1 x.2.2.1
def cx104 (F : Nat) : Cx := { types := tys, call := callsL [(98, con98 F)], own := [6, 21], ntmps := (0, 81) }
theorem cs104 (F : Nat) : ∀ f c, (cx104 F).call f = some c → CMet Try.prog f c := callsL_sound (calls_cons (s98 F) calls_nil)
def sh104l9 : Shape := [(0, .d (.slice (.int .u8))), (2, .d (.int .i64)), (8, .own 8 (.int .u64) 36), (9, .d (.int .i64)), (10, .d (.int .i64)), (11, .d (.int .i64)), (23, .d (.int .i64)), (24, .d (.int .i64))]
def sh104l9o2 : Shape := [(0, .d (.slice (.int .u8))), (2, .d (.int .i64)), (8, .own 8 (.int .u64) 36), (9, .d (.int .i64)), (23, .d (.int .i64)), (24, .d (.int .i64))]
def outs104l9 : Outs := [(4, sh104l9o2)]
def m104l9 (F : Nat) (n : Nat) {R : Type} (x : Shape.den sh104l9) (K : Ex → St → Option R) : Option R := bitpack_Unpack_l9 F (fun y0 y2 y8 y9 y23 y24 => K (.exit 2) (enc sh104l9o2 (y0, y2, y8, y9, y23, y24, ()))) n x.1 x.2.1 x.2.2.1 x.2.2.2.1 x.2.2.2.2.1 x.2.2.2.2.2.1 x.2.2.2.2.2.2.1 x.2.2.2.2.2.2.2.1
def sh104l6 : Shape := [(0, .d (.slice (.int .u8))), (2, .d (.int .i64)), (8, .own 8 (.int .u64) 36), (9, .d (.int .i64)), (23, .d (.int .i64)), (24, .d (.int .i64))]
def sh104l6o0 : Shape := [(0, .d (.slice (.int .u8))), (8, .own 8 (.int .u64) 36), (9, .d (.int .i64))]
def outs104l6 : Outs := [(2, sh104l6o0)]
def m104l6 (F : Nat) (n : Nat) {R : Type} (x : Shape.den sh104l6) (K : Ex → St → Option R) : Option R := bitpack_Unpack_l6 F (fun y0 y8 y9 => K (.exit 0) (enc sh104l6o0 (y0, y8, y9, ()))) n x.1 x.2.1 x.2.2.1 x.2.2.2.1 x.2.2.2.2.1 x.2.2.2.2.2.1
def hs104 (F : Nat) : Nat → Option (Hint (Dens sg104.rtys)) := hintL [(9, { sh := sh104l9, model := m104l9 F F }), (6, { sh := sh104l6, model := m104l6 F F })]
theorem ok104l9 (F : Nat) (fr : Frm) (hn : (cx104 F).ntmps = fr.n) (n : Nat) : MSound (R := (Dens sg104.rtys)) Try.prog fr (.loop (sub (bodyOf Try.f104) [1, 1, 1, 1, 0, 1, 0, 0, 1, 1, 0, 0, 1, 1, 0, 0])) sh104l9 (m104l9 F n) :=
  loop_sound (cx := cx104 F) (hs := hs104 F) (js := hintL []) (outs := outs104l9) (conf_all _ rfl) (cs104 F) hn mix (m := fun n => m104l9 F n) (fun _ _ => rfl) (fun n x K => by kernel_rfl) (hok_of (l := []) (by kernel_rfl) obl_nil) n
theorem ok104l6 (F : Nat) (fr : Frm) (hn : (cx104 F).ntmps = fr.n) (n : Nat) : MSound (R := (Dens sg104.rtys)) Try.prog fr (.loop (sub (bodyOf Try.f104) [1, 1, 1, 1, 0, 1, 0, 0])) sh104l6 (m104l6 F n) :=
  loop_sound (cx := cx104 F) (hs := hs104 F) (js := hintL []) (outs := outs104l6) (conf_all _ rfl) (cs104 F) hn mix (m := fun n => m104l6 F n) (fun _ _ => rfl) (fun n x K => by kernel_rfl) (hok_of (l := [((.loop (sub (bodyOf Try.f104) [1, 1, 1, 1, 0, 1, 0, 0, 1, 1, 0, 0, 1, 1, 0, 0])), { sh := sh104l9, model := m104l9 F F })]) (by kernel_rfl) (obl_cons (ok104l9 F fr hn F) obl_nil)) n
theorem s104 (F : Nat) : CSound Try.prog 104 (con104 F) :=
  fn_sound (fn := Try.f104) (code := (bodyOf Try.f104)) (cx := cx104 F) (hs := hs104 F) (js := hintL []) Try.func104 (by kernel_rfl) (by kernel_rfl) (conf_all _ rfl) (cs104 F) mix (by kernel_rfl) (by kernel_rfl) (fun fr hn => (hok_of (l := [((.loop (sub (bodyOf Try.f104) [1, 1, 1, 1, 0, 1, 0, 0])), { sh := sh104l6, model := m104l6 F F })]) (by kernel_rfl) (obl_cons (ok104l6 F fr hn F) obl_nil))) (fun x => by kernel_rfl)
def sg72 : Sig := { modes := [.ro, .ro, .ro], sh := [(0, .d (.slice (.int .u8))), (1, .d (.int .i64)), (2, .d (.int .i64))], keeps := false, fresh := some (0, 36), rtys := [(.slice (.int .u64)), (.int .i64), (.int .i64)] }
def con72 (F : Nat) : Contract := mkCon sg72 fun x => numbers_packed F x.1 x.2.1 x.2.2.1
def cx72 (F : Nat) : Cx := { types := tys, call := callsL [(98, con98 F), (104, con104 F)], own := [6, 49], ntmps := (0, 58) }
theorem cs72 (F : Nat) : ∀ f c, (cx72 F).call f = some c → CMet Try.prog f c := callsL_sound (calls_cons (s98 F) (calls_cons (s104 F) calls_nil))
theorem s72 (F : Nat) : CSound Try.prog 72 (con72 F) :=
  fn_sound (fn := Try.f72) (code := (bodyOf Try.f72)) (cx := cx72 F) (hs := hintL []) (js := hintL []) Try.func72 (by kernel_rfl) (by kernel_rfl) (conf_all _ rfl) (cs72 F) mix (by kernel_rfl) (by kernel_rfl) (fun fr hn => (hok_of (l := []) (by kernel_rfl) obl_nil)) (fun x => by kernel_rfl)
def sg73 : Sig := { modes := [.ro, .ro], sh := [(0, .d (.slice (.int .u8))), (1, .d (.slice (.int .u8)))], keeps := true, fresh := none, rtys := [.bool] }
def con73 (F : Nat) : Contract := mkCon sg73 fun x => slices_Equal_byte F x.1 x.2.1
def cx73 (F : Nat) : Cx := { types := tys, call := callsL [], own := [], ntmps := (0, 26) }
theorem cs73 (F : Nat) : ∀ f c, (cx73 F).call f = some c → CMet Try.prog f c := callsL_sound calls_nil
def sh73l4 : Shape := [(0, .d (.slice (.int .u8))), (1, .d (.slice (.int .u8))), (12, .d (.int .i64)), (13, .d (.int .i64))]
def sh73l4o0 : Shape := []
def sh73l4oret : Shape := [(4, .d .bool)]
def outs73l4 : Outs := [(2, sh73l4o0), (1, sh73l4oret)]
def m73l4 (F : Nat) (n : Nat) {R : Type} (x : Shape.den sh73l4) (K : Ex → St → Option R) : Option R := slices_Equal_byte_l4 F (K (.exit 0) (enc sh73l4o0 (()))) (fun y4 => K .ret (enc sh73l4oret (y4, ()))) n x.1 x.2.1 x.2.2.1 x.2.2.2.1
def hs73 (F : Nat) : Nat → Option (Hint (Dens sg73.rtys)) := hintL [(4, { sh := sh73l4, model := m73l4 F F })]
theorem ok73l4 (F : Nat) (fr : Frm) (hn : (cx73 F).ntmps = fr.n) (n : Nat) : MSound (R := (Dens sg73.rtys)) Try.prog fr (.loop (sub (bodyOf Try.f73) [1, 1, 0, 1, 0, 0])) sh73l4 (m73l4 F n) :=
  loop_sound (cx := cx73 F) (hs := hs73 F) (js := hintL []) (outs := outs73l4) (conf_all _ rfl) (cs73 F) hn mix (m := fun n => m73l4 F n) (fun _ _ => rfl) (fun n x K => by kernel_rfl) (hok_of (l := []) (by kernel_rfl) obl_nil) n
theorem s73 (F : Nat) : CSound Try.prog 73 (con73 F) :=
  fn_sound (fn := Try.f73) (code := (bodyOf Try.f73)) (cx := cx73 F) (hs := hs73 F) (js := hintL []) Try.func73 (by kernel_rfl) (by kernel_rfl) (conf_all _ rfl) (cs73 F) mix (by kernel_rfl) (by kernel_rfl) (fun fr hn => (hok_of (l := [((.loop (sub (bodyOf Try.f73) [1, 1, 0, 1, 0, 0])), { sh := sh73l4, model := m73l4 F F })]) (by kernel_rfl) (obl_cons (ok73l4 F fr hn F) obl_nil))) (fun x => by kernel_rfl)
def sg35 : Sig := { modes := [.ro, .ro, .ro], sh := [(0, .d (.slice (.int .u8))), (1, .d (.int .i64)), (2, .d (.int .i64))], keeps := false, fresh := none, rtys := [(.slice (.int .u64)), (.int .i64), (.int .i64)] }
def con35 (F : Nat) : Contract := mkCon sg35 fun x => numbers_Decode F x.1 x.2.1 x.2.2.1
def cx35 (F : Nat) : Cx := { types := tys, call := callsL [(72, con72 F), (24, con24 F), (73, con73 F), (71, con71 F)], own := [6], ntmps := (0, 78) }
theorem cs35 (F : Nat) : ∀ f c, (cx35 F).call f = some c → CMet Try.prog f c := callsL_sound (calls_cons (s72 F) (calls_cons (s24 F) (calls_cons (s73 F) (calls_cons (s71 F) calls_nil))))
def sh35j2 : Shape := [(0, .d (.slice (.int .u8))), (1, .d (.int .i64)), (2, .d (.int .i64)), (14, .d .bool)]
def sh35j2on : Shape := [(0, .d (.slice (.int .u8))), (1, .d (.int .i64)), (2, .d (.int .i64))]
def sh35j2oret : Shape := [(6, .own 6 (.int .u64) 36), (7, .d (.int .i64)), (8, .d (.int .i64))]
def outs35j2 : Outs := [(0, sh35j2on), (1, sh35j2oret)]
def m35j2 (F : Nat) {R : Type} (x : Shape.den sh35j2) (K : Ex → St → Option R) : Option R := numbers_Decode_j2 F (fun y0 y1 y2 => K .normal (enc sh35j2on (y0, y1, y2, ()))) (fun y6 y7 y8 => K .ret (enc sh35j2oret (y6, y7, y8, ()))) x.1 x.2.1 x.2.2.1 x.2.2.2.1
def js35 (F : Nat) : Nat → Option (Hint (Dens sg35.rtys)) := hintL [(2, { sh := sh35j2, model := m35j2 F })]
theorem ok35j2 (F : Nat) (fr : Frm) (hn : (cx35 F).ntmps = fr.n) : MSound (R := (Dens sg35.rtys)) Try.prog fr (sub (bodyOf Try.f35) [1, 0, 0, 1]) sh35j2 (m35j2 F) :=
  join_sound (cx := cx35 F) (hs := hintL []) (js := js35 F) (outs := outs35j2) (conf_all _ rfl) (cs35 F) hn mix (fun x K => by kernel_rfl) (hok_of (l := []) (by kernel_rfl) obl_nil)
theorem s35 (F : Nat) : CSound Try.prog 35 (con35 F) :=
  fn_sound (fn := Try.f35) (code := (bodyOf Try.f35)) (cx := cx35 F) (hs := hintL []) (js := js35 F) Try.func35 (by kernel_rfl) (by kernel_rfl) (conf_all _ rfl) (cs35 F) mix (by kernel_rfl) (by kernel_rfl) (fun fr hn => (hok_of (l := [((sub (bodyOf Try.f35) [1, 0, 0, 1]), { sh := sh35j2, model := m35j2 F })]) (by kernel_rfl) (obl_cons (ok35j2 F fr hn) obl_nil))) (fun x => by kernel_rfl)
def sg27 : Sig := { modes := [], sh := [], keeps := true, fresh := none, rtys := [.bool] }
def con27 (F : Nat) : Contract := mkCon sg27 fun x => law09_known F 
def cx27 (F : Nat) : Cx := { types := tys, call := callsL [(24, con24 F), (35, con35 F), (26, con26 F)], own := [], ntmps := (0, 43) }
theorem cs27 (F : Nat) : ∀ f c, (cx27 F).call f = some c → CMet Try.prog f c := callsL_sound (calls_cons (s24 F) (calls_cons (s35 F) (calls_cons (s26 F) calls_nil)))
theorem s27 (F : Nat) : CSound Try.prog 27 (con27 F) :=
  fn_sound (fn := Try.f27) (code := (bodyOf Try.f27)) (cx := cx27 F) (hs := hintL []) (js := hintL []) Try.func27 (by kernel_rfl) (by kernel_rfl) (conf_all _ rfl) (cs27 F) mix (by kernel_rfl) (by kernel_rfl) (fun fr hn => (hok_of (l := []) (by kernel_rfl) obl_nil)) (fun x => by kernel_rfl)
def sg3 : Sig := { modes := [.ro, .ro], sh := [(0, .d (.slice (.int .u64))), (1, .d (.slice (.int .i64)))], keeps := true, fresh := none, rtys := [.bool] }
def con3 (F : Nat) : Contract := mkCon sg3 fun x => law09_NumbersForms F x.1 x.2.1
def cx3 (F : Nat) : Cx := { types := tys, call := callsL [(23, con23 F), (22, con22 F), (24, con24 F), (25, con25 F), (26, con26 F), (27, con27 F)], own := [13], ntmps := (0, 46) }
theorem cs3 (F : Nat) : ∀ f c, (cx3 F).call f = some c → CMet Try.prog f c := callsL_sound (calls_cons (s23 F) (calls_cons (s22 F) (calls_cons (s24 F) (calls_cons (s25 F) (calls_cons (s26 F) (calls_cons (s27 F) calls_nil))))))
def sh3l3 : Shape := [(5, .d (.slice (.slice (.int .u64)))), (6, .d (.int .i64))]
def sh3l3o0 : Shape := []
def sh3l3oret : Shape := [(4, .d .bool)]
def outs3l3 : Outs := [(2, sh3l3o0), (1, sh3l3oret)]
def m3l3 (F : Nat) (n : Nat) {R : Type} (x : Shape.den sh3l3) (K : Ex → St → Option R) : Option R := law09_NumbersForms_l3 F (K (.exit 0) (enc sh3l3o0 (()))) (fun y4 => K .ret (enc sh3l3oret (y4, ()))) n x.1 x.2.1
def hs3 (F : Nat) : Nat → Option (Hint (Dens sg3.rtys)) := hintL [(3, { sh := sh3l3, model := m3l3 F F })]
theorem ok3l3 (F : Nat) (fr : Frm) (hn : (cx3 F).ntmps = fr.n) (n : Nat) : MSound (R := (Dens sg3.rtys)) Try.prog fr (.loop (sub (bodyOf Try.f3) [1, 1, 0, 1, 0, 0])) sh3l3 (m3l3 F n) :=
  loop_sound (cx := cx3 F) (hs := hs3 F) (js := hintL []) (outs := outs3l3) (conf_all _ rfl) (cs3 F) hn mix (m := fun n => m3l3 F n) (fun _ _ => rfl) (fun n x K => by kernel_rfl) (hok_of (l := []) (by kernel_rfl) obl_nil) n
theorem s3 (F : Nat) : CSound Try.prog 3 (con3 F) :=
  fn_sound (fn := Try.f3) (code := (bodyOf Try.f3)) (cx := cx3 F) (hs := hs3 F) (js := hintL []) Try.func3 (by kernel_rfl) (by kernel_rfl) (conf_all _ rfl) (cs3 F) mix (by kernel_rfl) (by kernel_rfl) (fun fr hn => (hok_of (l := [((.loop (sub (bodyOf Try.f3) [1, 1, 0, 1, 0, 0])), { sh := sh3l3, model := m3l3 F F })]) (by kernel_rfl) (obl_cons (ok3l3 F fr hn F) obl_nil))) (fun x => by kernel_rfl)
def sg46 : Sig := { modes := [.bor], sh := [(0, .box 0 (.pair (.slice (.int .i64)) (.pair (.int .i64) .unit)))], keeps := false, fresh := none, rtys := [(.pair (.slice (.int .i64)) (.pair (.int .i64) .unit)), (.int .i64)] }
def con46 (F : Nat) : Contract := mkCon sg46 fun x => made_Tape_Int F x.1
def cx46 (F : Nat) : Cx := { types := tys, call := callsL [(30, con30 F), (64, con64 F)], own := [], ntmps := (1, 32) }
theorem cs46 (F : Nat) : ∀ f c, (cx46 F).call f = some c → CMet Try.prog f c := callsL_sound (calls_cons (s30 F) (calls_cons (s64 F) calls_nil))
theorem s46 (F : Nat) : CSound Try.prog 46 (con46 F) :=
  fn_sound (fn := Try.f46) (code := (bodyOf Try.f46)) (cx := cx46 F) (hs := hintL []) (js := hintL []) Try.func46 (by kernel_rfl) (by kernel_rfl) (conf_all _ rfl) (cs46 F) mix (by kernel_rfl) (by kernel_rfl) (fun fr hn => (hok_of (l := []) (by kernel_rfl) obl_nil)) (fun x => by kernel_rfl)
def sg39 : Sig := { modes := [.bor, .ro], sh := [(0, .box 0 (.pair (.slice (.int .i64)) (.pair (.int .i64) .unit))), (1, .d (.int .i64))], keeps := false, fresh := some (0, 2), rtys := [(.pair (.slice (.int .i64)) (.pair (.int .i64) .unit)), (.slice (.int .i64))] }
def con39 (F : Nat) : Contract := mkCon sg39 fun x => made_Tape_Times F x.1 x.2.1
def cx39 (F : Nat) : Cx := { types := tys, call := callsL [(30, con30 F), (46, con46 F), (64, con64 F), (65, con65 F)], own := [4, 5], ntmps := (1, 80) }
theorem cs39 (F : Nat) : ∀ f c, (cx39 F).call f = some c → CMet Try.prog f c := callsL_sound (calls_cons (s30 F) (calls_cons (s46 F) (calls_cons (s64 F) (calls_cons (s65 F) calls_nil))))
def sh39j20 : Shape := [(0, .box 0 (.pair (.slice (.int .i64)) (.pair (.int .i64) .unit))), (5, .own 5 (.int .i64) 2), (6, .d (.int .i64)), (7, .d (.int .i64)), (8, .d (.int .u64)), (9, .d (.int .i64)), (10, .d (.int .u64))]
def sh39j20on : Shape := [(0, .box 0 (.pair (.slice (.int .i64)) (.pair (.int .i64) .unit))), (5, .own 5 (.int .i64) 2), (6, .d (.int .i64)), (7, .d (.int .i64)), (8, .d (.int .u64)), (9, .d (.int .i64))]
def sh39j20oret : Shape := [(0, .box 0 (.pair (.slice (.int .i64)) (.pair (.int .i64) .unit))), (4, .own 4 (.int .i64) 2)]
def outs39j20 : Outs := [(0, sh39j20on), (1, sh39j20oret)]
def m39j20 (F : Nat) {R : Type} (x : Shape.den sh39j20) (K : Ex → St → Option R) : Option R := made_Tape_Times_j20 F (fun y0 y5 y6 y7 y8 y9 => K .normal (enc sh39j20on (y0, y5, y6, y7, y8, y9, ()))) (fun y0 y4 => K .ret (enc sh39j20oret (y0, y4, ()))) x.1 x.2.1 x.2.2.1 x.2.2.2.1 x.2.2.2.2.1 x.2.2.2.2.2.1 x.2.2.2.2.2.2.1
def sh39l6 : Shape := [(0, .box 0 (.pair (.slice (.int .i64)) (.pair (.int .i64) .unit))), (5, .own 5 (.int .i64) 2), (6, .d (.int .i64)), (7, .d (.int .i64)), (8, .d (.int .u64)), (9, .d (.int .i64))]
def sh39l6o0 : Shape := [(0, .box 0 (.pair (.slice (.int .i64)) (.pair (.int .i64) .unit))), (5, .own 5 (.int .i64) 2)]
def sh39l6oret : Shape := [(0, .box 0 (.pair (.slice (.int .i64)) (.pair (.int .i64) .unit))), (4, .own 4 (.int .i64) 2)]
def outs39l6 : Outs := [(2, sh39l6o0), (1, sh39l6oret)]
def m39l6 (F : Nat) (n : Nat) {R : Type} (x : Shape.den sh39l6) (K : Ex → St → Option R) : Option R := made_Tape_Times_l6 F (fun y0 y5 => K (.exit 0) (enc sh39l6o0 (y0, y5, ()))) (fun y0 y4 => K .ret (enc sh39l6oret (y0, y4, ()))) n x.1 x.2.1 x.2.2.1 x.2.2.2.1 x.2.2.2.2.1 x.2.2.2.2.2.1
def hs39 (F : Nat) : Nat → Option (Hint (Dens sg39.rtys)) := hintL [(6, { sh := sh39l6, model := m39l6 F F })]
def js39 (F : Nat) : Nat → Option (Hint (Dens sg39.rtys)) := hintL [(20, { sh := sh39j20, model := m39j20 F })]
theorem ok39j20 (F : Nat) (fr : Frm) (hn : (cx39 F).ntmps = fr.n) : MSound (R := (Dens sg39.rtys)) Try.prog fr (sub (bodyOf Try.f39) [1, 1, 1, 1, 1, 0, 1, 0, 0, 1, 0, 0, 1, 1, 1]) sh39j20 (m39j20 F) :=
  join_sound (cx := cx39 F) (hs := hs39 F) (js := js39 F) (outs := outs39j20) (conf_all _ rfl) (cs39 F) hn mix (fun x K => by kernel_rfl) (hok_of (l := []) (by kernel_rfl) obl_nil)
theorem ok39l6 (F : Nat) (fr : Frm) (hn : (cx39 F).ntmps = fr.n) (n : Nat) : MSound (R := (Dens sg39.rtys)) Try.prog fr (.loop (sub (bodyOf Try.f39) [1, 1, 1, 1, 1, 0, 1, 0, 0])) sh39l6 (m39l6 F n) :=
  loop_sound (cx := cx39 F) (hs := hs39 F) (js := js39 F) (outs := outs39l6) (conf_all _ rfl) (cs39 F) hn mix (m := fun n => m39l6 F n) (fun _ _ => rfl) (fun n x K => by kernel_rfl) (hok_of (l := [((sub (bodyOf Try.f39) [1, 1, 1, 1, 1, 0, 1, 0, 0, 1, 0, 0, 1, 1, 1]), { sh := sh39j20, model := m39j20 F })]) (by kernel_rfl) (obl_cons (ok39j20 F fr hn) obl_nil)) n
theorem s39 (F : Nat) : CSound Try.prog 39 (con39 F) :=
  fn_sound (fn := Try.f39) (code := (bodyOf Try.f39)) (cx := cx39 F) (hs := hs39 F) (js := js39 F) Try.func39 (by kernel_rfl) (by kernel_rfl) (conf_all _ rfl) (cs39 F) mix (by kernel_rfl) (by kernel_rfl) (fun fr hn => (hok_of (l := [((.loop (sub (bodyOf Try.f39) [1, 1, 1, 1, 1, 0, 1, 0, 0])), { sh := sh39l6, model := m39l6 F F })]) (by kernel_rfl) (obl_cons (ok39l6 F fr hn F) obl_nil))) (fun x => by kernel_rfl)
def sg81 : Sig := { modes := [.bor, .ro], sh := [(0, .box 0 (.pair (.slice (.int .i64)) (.pair (.int .i64) .unit))), (1, .d (.int .i64))], keeps := false, fresh := some (0, 97), rtys := [(.pair (.slice (.int .i64)) (.pair (.int .i64) .unit)), (.slice (.pair (.int .i64) (.pair (.int .i64) .unit)))] }
def con81 (F : Nat) : Contract := mkCon sg81 fun x => made_Tape_Samples F x.1 x.2.1
def cx81 (F : Nat) : Cx := { types := tys, call := callsL [(39, con39 F), (30, con30 F), (46, con46 F), (65, con65 F)], own := [4, 6], ntmps := (1, 91) }
theorem cs81 (F : Nat) : ∀ f c, (cx81 F).call f = some c → CMet Try.prog f c := callsL_sound (calls_cons (s39 F) (calls_cons (s30 F) (calls_cons (s46 F) (calls_cons (s65 F) calls_nil))))
def sh81l6 : Shape := [(0, .box 0 (.pair (.slice (.int .i64)) (.pair (.int .i64) .unit))), (5, .d (.slice (.int .i64))), (6, .own 6 (.pair (.int .i64) (.pair (.int .i64) .unit)) 97), (7, .d (.int .i64)), (8, .d (.int .i64)), (9, .d (.int .i64)), (10, .d (.int .i64))]
def sh81l6o0 : Shape := [(0, .box 0 (.pair (.slice (.int .i64)) (.pair (.int .i64) .unit))), (6, .own 6 (.pair (.int .i64) (.pair (.int .i64) .unit)) 97)]
def outs81l6 : Outs := [(2, sh81l6o0)]
def m81l6 (F : Nat) (n : Nat) {R : Type} (x : Shape.den sh81l6) (K : Ex → St → Option R) : Option R := made_Tape_Samples_l6 F (fun y0 y6 => K (.exit 0) (enc sh81l6o0 (y0, y6, ()))) n x.1 x.2.1 x.2.2.1 x.2.2.2.1 x.2.2.2.2.1 x.2.2.2.2.2.1 x.2.2.2.2.2.2.1
def hs81 (F : Nat) : Nat → Option (Hint (Dens sg81.rtys)) := hintL [(6, { sh := sh81l6, model := m81l6 F F })]
theorem ok81l6 (F : Nat) (fr : Frm) (hn : (cx81 F).ntmps = fr.n) (n : Nat) : MSound (R := (Dens sg81.rtys)) Try.prog fr (.loop (sub (bodyOf Try.f81) [1, 1, 1, 1, 1, 0, 1, 0, 0])) sh81l6 (m81l6 F n) :=
  loop_sound (cx := cx81 F) (hs := hs81 F) (js := hintL []) (outs := outs81l6) (conf_all _ rfl) (cs81 F) hn mix (m := fun n => m81l6 F n) (fun _ _ => rfl) (fun n x K => by kernel_rfl) (hok_of (l := []) (by kernel_rfl) obl_nil) n
theorem s81 (F : Nat) : CSound Try.prog 81 (con81 F) :=
  fn_sound (fn := Try.f81) (code := (bodyOf Try.f81)) (cx := cx81 F) (hs := hs81 F) (js := hintL []) Try.func81 (by kernel_rfl) (by kernel_rfl) (conf_all _ rfl) (cs81 F) mix (by kernel_rfl) (by kernel_rfl) (fun fr hn => (hok_of (l := [((.loop (sub (bodyOf Try.f81) [1, 1, 1, 1, 1, 0, 1, 0, 0])), { sh := sh81l6, model := m81l6 F F })]) (by kernel_rfl) (obl_cons (ok81l6 F fr hn F) obl_nil))) (fun x => by kernel_rfl)
def sg49 : Sig := { modes := [.bor, .ro], sh := [(0, .box 0 (.pair (.slice (.int .i64)) (.pair (.int .i64) .unit))), (1, .d (.int .i64))], keeps := false, fresh := some (0, 2), rtys := [(.pair (.slice (.int .i64)) (.pair (.int .i64) .unit)), (.slice (.int .i64))] }
def con49 (F : Nat) : Contract := mkCon sg49 fun x => made_Tape_Values F x.1 x.2.1
def cx49 (F : Nat) : Cx := { types := tys, call := callsL [(81, con81 F)], own := [4, 6], ntmps := (1, 26) }
theorem cs49 (F : Nat) : ∀ f c, (cx49 F).call f = some c → CMet Try.prog f c := callsL_sound (calls_cons (s81 F) calls_nil)
def sh49l4 : Shape := [(0, .box 0 (.pair (.slice (.int .i64)) (.pair (.int .i64) .unit))), (5, .d (.slice (.pair (.int .i64) (.pair (.int .i64) .unit)))), (6, .own 6 (.int .i64) 2), (7, .d (.int .i64))]
def sh49l4o0 : Shape := [(0, .box 0 (.pair (.slice (.int .i64)) (.pair (.int .i64) .unit))), (6, .own 6 (.int .i64) 2)]
def outs49l4 : Outs := [(2, sh49l4o0)]
def m49l4 (F : Nat) (n : Nat) {R : Type} (x : Shape.den sh49l4) (K : Ex → St → Option R) : Option R := made_Tape_Values_l4 F (fun y0 y6 => K (.exit 0) (enc sh49l4o0 (y0, y6, ()))) n x.1 x.2.1 x.2.2.1 x.2.2.2.1
def hs49 (F : Nat) : Nat → Option (Hint (Dens sg49.rtys)) := hintL [(4, { sh := sh49l4, model := m49l4 F F })]
theorem ok49l4 (F : Nat) (fr : Frm) (hn : (cx49 F).ntmps = fr.n) (n : Nat) : MSound (R := (Dens sg49.rtys)) Try.prog fr (.loop (sub (bodyOf Try.f49) [1, 1, 1, 0, 1, 0, 0])) sh49l4 (m49l4 F n) :=
  loop_sound (cx := cx49 F) (hs := hs49 F) (js := hintL []) (outs := outs49l4) (conf_all _ rfl) (cs49 F) hn mix (m := fun n => m49l4 F n) (fun _ _ => rfl) (fun n x K => by kernel_rfl) (hok_of (l := []) (by kernel_rfl) obl_nil) n
theorem s49 (F : Nat) : CSound Try.prog 49 (con49 F) :=
  fn_sound (fn := Try.f49) (code := (bodyOf Try.f49)) (cx := cx49 F) (hs := hs49 F) (js := hintL []) Try.func49 (by kernel_rfl) (by kernel_rfl) (conf_all _ rfl) (cs49 F) mix (by kernel_rfl) (by kernel_rfl) (fun fr hn => (hok_of (l := [((.loop (sub (bodyOf Try.f49) [1, 1, 1, 0, 1, 0, 0])), { sh := sh49l4, model := m49l4 F F })]) (by kernel_rfl) (obl_cons (ok49l4 F fr hn F) obl_nil))) (fun x => by kernel_rfl)
def sg82 : Sig := nilSig (.int .i64) false (some (0, 2)) [(.slice (.int .i64))]
def con82 (F : Nat) : Contract := mkCon sg82 fun x => slices_Clone_int64 F x.1
def cx82 (F : Nat) : Cx := { types := tys, call := callsL [], own := [2, 5], ntmps := (0, 8), nils := [3] }
theorem cs82 (F : Nat) : ∀ f c, (cx82 F).call f = some c → CMet Try.prog f c := callsL_sound calls_nil
theorem s82 (F : Nat) : CSound Try.prog 82 (con82 F) :=
  fn_sound_nil (fn := Try.f82) (code := (bodyOf Try.f82)) (cx := cx82 F) (hs := hintL []) (js := hintL []) Try.func82 (by kernel_rfl) (by kernel_rfl) (conf_all _ rfl) (cs82 F) mix (by kernel_rfl) (by kernel_rfl) (fun fr hn => (hok_of (l := []) (by kernel_rfl) obl_nil)) (fun a l => by kernel_rfl) (by kernel_rfl) (by kernel_rfl)
def sg107 : Sig := { modes := [.ro, .ro], sh := [(0, .d (.int .i64)), (1, .d (.int .i64))], keeps := true, fresh := none, rtys := [(.int .u64)] }
def con107 (F : Nat) : Contract := mkCon sg107 fun x => checked_Diff F x.1 x.2.1
def cx107 (F : Nat) : Cx := { types := tys, call := callsL [], own := [], ntmps := (0, 10) }
theorem cs107 (F : Nat) : ∀ f c, (cx107 F).call f = some c → CMet Try.prog f c := callsL_sound calls_nil
theorem s107 (F : Nat) : CSound Try.prog 107 (con107 F) :=
  fn_sound (fn := Try.f107) (code := (bodyOf Try.f107)) (cx := cx107 F) (hs := hintL []) (js := hintL []) Try.func107 (by kernel_rfl) (by kernel_rfl) (conf_all _ rfl) (cs107 F) mix (by kernel_rfl) (by kernel_rfl) (fun fr hn => (hok_of (l := []) (by kernel_rfl) obl_nil)) (fun x => by kernel_rfl)
def sg84 : Sig := { modes := [.wr 2], sh := [(0, .own 0 (.int .i64) 2)], keeps := false, fresh := none, rtys := [(.slice (.int .i64))] }
def con84 (F : Nat) : Contract := mkCon sg84 fun x => residual_differences F x.1
def cx84 (F : Nat) : Cx := { types := tys, call := callsL [(107, con107 F)], own := [], ntmps := (1, 24) }
theorem cs84 (F : Nat) : ∀ f c, (cx84 F).call f = some c → CMet Try.prog f c := callsL_sound (calls_cons (s107 F) calls_nil)
def sh84l1 : Shape := [(0, .own 0 (.int .i64) 2), (2, .d (.int .i64))]
def sh84l1o0 : Shape := [(0, .own 0 (.int .i64) 2)]
def outs84l1 : Outs := [(2, sh84l1o0)]
def m84l1 (F : Nat) (n : Nat) {R : Type} (x : Shape.den sh84l1) (K : Ex → St → Option R) : Option R := residual_differences_l1 F (fun y0 => K (.exit 0) (enc sh84l1o0 (y0, ()))) n x.1 x.2.1
def hs84 (F : Nat) : Nat → Option (Hint (Dens sg84.rtys)) := hintL [(1, { sh := sh84l1, model := m84l1 F F })]
theorem ok84l1 (F : Nat) (fr : Frm) (hn : (cx84 F).ntmps = fr.n) (n : Nat) : MSound (R := (Dens sg84.rtys)) Try.prog fr (.loop (sub (bodyOf Try.f84) [1, 0, 0])) sh84l1 (m84l1 F n) :=
  loop_sound (cx := cx84 F) (hs := hs84 F) (js := hintL []) (outs := outs84l1) (conf_all _ rfl) (cs84 F) hn mix (m := fun n => m84l1 F n) (fun _ _ => rfl) (fun n x K => by kernel_rfl) (hok_of (l := []) (by kernel_rfl) obl_nil) n
theorem s84 (F : Nat) : CSound Try.prog 84 (con84 F) :=
  fn_sound (fn := Try.f84) (code := (bodyOf Try.f84)) (cx := cx84 F) (hs := hs84 F) (js := hintL []) Try.func84 (by kernel_rfl) (by kernel_rfl) (conf_all _ rfl) (cs84 F) mix (by kernel_rfl) (by kernel_rfl) (fun fr hn => (hok_of (l := [((.loop (sub (bodyOf Try.f84) [1, 0, 0])), { sh := sh84l1, model := m84l1 F F })]) (by kernel_rfl) (obl_cons (ok84l1 F fr hn F) obl_nil))) (fun x => by kernel_rfl)
def sg80 : Sig := { modes := [.ro, .ro], sh := [(0, .d (.int .i64)), (1, .d (.int .u64))], keeps := true, fresh := none, rtys := [(.int .i64)] }
def con80 (F : Nat) : Contract := mkCon sg80 fun x => checked_Apply F x.1 x.2.1
def cx80 (F : Nat) : Cx := { types := tys, call := callsL [], own := [], ntmps := (0, 10) }
theorem cs80 (F : Nat) : ∀ f c, (cx80 F).call f = some c → CMet Try.prog f c := callsL_sound calls_nil
theorem s80 (F : Nat) : CSound Try.prog 80 (con80 F) :=
  fn_sound (fn := Try.f80) (code := (bodyOf Try.f80)) (cx := cx80 F) (hs := hintL []) (js := hintL []) Try.func80 (by kernel_rfl) (by kernel_rfl) (conf_all _ rfl) (cs80 F) mix (by kernel_rfl) (by kernel_rfl) (fun fr hn => (hok_of (l := []) (by kernel_rfl) obl_nil)) (fun x => by kernel_rfl)
def sg87 : Sig := { modes := [.wr 2], sh := [(0, .own 0 (.int .i64) 2)], keeps := false, fresh := none, rtys := [(.slice (.int .i64))] }
def con87 (F : Nat) : Contract := mkCon sg87 fun x => residual_sums F x.1
def cx87 (F : Nat) : Cx := { types := tys, call := callsL [(80, con80 F)], own := [], ntmps := (1, 23) }
theorem cs87 (F : Nat) : ∀ f c, (cx87 F).call f = some c → CMet Try.prog f c := callsL_sound (calls_cons (s80 F) calls_nil)
def sh87l1 : Shape := [(0, .own 0 (.int .i64) 2), (2, .d (.int .i64))]
def sh87l1o0 : Shape := [(0, .own 0 (.int .i64) 2)]
def outs87l1 : Outs := [(2, sh87l1o0)]
def m87l1 (F : Nat) (n : Nat) {R : Type} (x : Shape.den sh87l1) (K : Ex → St → Option R) : Option R := residual_sums_l1 F (fun y0 => K (.exit 0) (enc sh87l1o0 (y0, ()))) n x.1 x.2.1
def hs87 (F : Nat) : Nat → Option (Hint (Dens sg87.rtys)) := hintL [(1, { sh := sh87l1, model := m87l1 F F })]
theorem ok87l1 (F : Nat) (fr : Frm) (hn : (cx87 F).ntmps = fr.n) (n : Nat) : MSound (R := (Dens sg87.rtys)) Try.prog fr (.loop (sub (bodyOf Try.f87) [1, 0, 0])) sh87l1 (m87l1 F n) :=
  loop_sound (cx := cx87 F) (hs := hs87 F) (js := hintL []) (outs := outs87l1) (conf_all _ rfl) (cs87 F) hn mix (m := fun n => m87l1 F n) (fun _ _ => rfl) (fun n x K => by kernel_rfl) (hok_of (l := []) (by kernel_rfl) obl_nil) n
theorem s87 (F : Nat) : CSound Try.prog 87 (con87 F) :=
  fn_sound (fn := Try.f87) (code := (bodyOf Try.f87)) (cx := cx87 F) (hs := hs87 F) (js := hintL []) Try.func87 (by kernel_rfl) (by kernel_rfl) (conf_all _ rfl) (cs87 F) mix (by kernel_rfl) (by kernel_rfl) (fun fr hn => (hok_of (l := [((.loop (sub (bodyOf Try.f87) [1, 0, 0])), { sh := sh87l1, model := m87l1 F F })]) (by kernel_rfl) (obl_cons (ok87l1 F fr hn F) obl_nil))) (fun x => by kernel_rfl)
def sg83d : Sig := { modes := [.wr 2, .ro, .ro], sh := [(0, .own 0 (.int .i64) 2), (1, .d (.int .i64)), (2, .fn 84)], keeps := false, fresh := none, rtys := [(.slice (.int .i64))] }
def con83d (F : Nat) : Contract := mkCon sg83d fun x => residual_repeatd F x.1 x.2.1
def cx83d (F : Nat) : Cx := { types := tys, call := callsL [(84, con84 F)], own := [], ntmps := (1, 13) }
theorem cs83d (F : Nat) : ∀ f c, (cx83d F).call f = some c → CMet Try.prog f c := callsL_sound (calls_cons (s84 F) calls_nil)
def sh83dl1 : Shape := [(0, .own 0 (.int .i64) 2), (2, .fn 84), (6, .d (.int .i64)), (7, .d (.int .i64))]
def sh83dl1o0 : Shape := [(0, .own 0 (.int .i64) 2)]
def outs83dl1 : Outs := [(2, sh83dl1o0)]
def m83dl1 (F : Nat) (n : Nat) {R : Type} (x : Shape.den sh83dl1) (K : Ex → St → Option R) : Option R := residual_repeatd_l1 F (fun y0 => K (.exit 0) (enc sh83dl1o0 (y0, ()))) n x.1 x.2.2.1 x.2.2.2.1
def hs83d (F : Nat) : Nat → Option (Hint (Dens sg83d.rtys)) := hintL [(1, { sh := sh83dl1, model := m83dl1 F F })]
def js83d (F : Nat) : Nat → Option (Hint (Dens sg83d.rtys)) := hintL []
theorem ok83dl1 (F : Nat) (fr : Frm) (hn : (cx83d F).ntmps = fr.n) (n : Nat) : MSound (R := (Dens sg83d.rtys)) Try.prog fr (.loop (sub (bodyOf Try.f83) [1, 0, 0])) sh83dl1 (m83dl1 F n) :=
  loop_sound (cx := cx83d F) (hs := hs83d F) (js := js83d F) (outs := outs83dl1) (conf_all _ rfl) (cs83d F) hn mix (m := fun n => m83dl1 F n) (fun _ _ => rfl) (fun n x K => by kernel_rfl) (hok_of (l := []) (by kernel_rfl) obl_nil) n
theorem s83d (F : Nat) : CSound Try.prog 83 (con83d F) :=
  fn_sound (fn := Try.f83) (code := (bodyOf Try.f83)) (cx := cx83d F) (hs := hs83d F) (js := js83d F) Try.func83 (by kernel_rfl) (by kernel_rfl) (conf_all _ rfl) (cs83d F) mix (by kernel_rfl) (by kernel_rfl) (fun fr hn => (hok_of (l := [((.loop (sub (bodyOf Try.f83) [1, 0, 0])), { sh := sh83dl1, model := m83dl1 F F })]) (by kernel_rfl) (obl_cons (ok83dl1 F fr hn F) obl_nil))) (fun x => by kernel_rfl)
def sg83s : Sig := { modes := [.wr 2, .ro, .ro], sh := [(0, .own 0 (.int .i64) 2), (1, .d (.int .i64)), (2, .fn 87)], keeps := false, fresh := none, rtys := [(.slice (.int .i64))] }
def con83s (F : Nat) : Contract := mkCon sg83s fun x => residual_repeats F x.1 x.2.1
def cx83s (F : Nat) : Cx := { types := tys, call := callsL [(87, con87 F)], own := [], ntmps := (1, 13) }
theorem cs83s (F : Nat) : ∀ f c, (cx83s F).call f = some c → CMet Try.prog f c := callsL_sound (calls_cons (s87 F) calls_nil)
def sh83sl1 : Shape := [(0, .own 0 (.int .i64) 2), (2, .fn 87), (6, .d (.int .i64)), (7, .d (.int .i64))]
def sh83sl1o0 : Shape := [(0, .own 0 (.int .i64) 2)]
def outs83sl1 : Outs := [(2, sh83sl1o0)]
def m83sl1 (F : Nat) (n : Nat) {R : Type} (x : Shape.den sh83sl1) (K : Ex → St → Option R) : Option R := residual_repeats_l1 F (fun y0 => K (.exit 0) (enc sh83sl1o0 (y0, ()))) n x.1 x.2.2.1 x.2.2.2.1
def hs83s (F : Nat) : Nat → Option (Hint (Dens sg83s.rtys)) := hintL [(1, { sh := sh83sl1, model := m83sl1 F F })]
def js83s (F : Nat) : Nat → Option (Hint (Dens sg83s.rtys)) := hintL []
theorem ok83sl1 (F : Nat) (fr : Frm) (hn : (cx83s F).ntmps = fr.n) (n : Nat) : MSound (R := (Dens sg83s.rtys)) Try.prog fr (.loop (sub (bodyOf Try.f83) [1, 0, 0])) sh83sl1 (m83sl1 F n) :=
  loop_sound (cx := cx83s F) (hs := hs83s F) (js := js83s F) (outs := outs83sl1) (conf_all _ rfl) (cs83s F) hn mix (m := fun n => m83sl1 F n) (fun _ _ => rfl) (fun n x K => by kernel_rfl) (hok_of (l := []) (by kernel_rfl) obl_nil) n
theorem s83s (F : Nat) : CSound Try.prog 83 (con83s F) :=
  fn_sound (fn := Try.f83) (code := (bodyOf Try.f83)) (cx := cx83s F) (hs := hs83s F) (js := js83s F) Try.func83 (by kernel_rfl) (by kernel_rfl) (conf_all _ rfl) (cs83s F) mix (by kernel_rfl) (by kernel_rfl) (fun fr hn => (hok_of (l := [((.loop (sub (bodyOf Try.f83) [1, 0, 0])), { sh := sh83sl1, model := m83sl1 F F })]) (by kernel_rfl) (obl_cons (ok83sl1 F fr hn F) obl_nil))) (fun x => by kernel_rfl)
def sg75 : Sig := { modes := [.ro], sh := [(0, .d (.int .i64))], keeps := true, fresh := none, rtys := [(.int .u64)] }
def con75 (F : Nat) : Contract := mkCon sg75 fun x => varint_Zigzag F x.1
def cx75 (F : Nat) : Cx := { types := tys, call := callsL [], own := [], ntmps := (0, 10) }
theorem cs75 (F : Nat) : ∀ f c, (cx75 F).call f = some c → CMet Try.prog f c := callsL_sound calls_nil
theorem s75 (F : Nat) : CSound Try.prog 75 (con75 F) :=
  fn_sound (fn := Try.f75) (code := (bodyOf Try.f75)) (cx := cx75 F) (hs := hintL []) (js := hintL []) Try.func75 (by kernel_rfl) (by kernel_rfl) (conf_all _ rfl) (cs75 F) mix (by kernel_rfl) (by kernel_rfl) (fun fr hn => (hok_of (l := []) (by kernel_rfl) obl_nil)) (fun x => by kernel_rfl)
def sg52 : Sig := { modes := [.ro, .ro], sh := [(0, .d (.slice (.int .i64))), (1, .d (.int .i64))], keeps := false, fresh := some (0, 36), rtys := [(.slice (.int .u64)), .bool] }
def con52 (F : Nat) : Contract := mkCon sg52 fun x => residual_Residuals F x.1 x.2.1
def cx52 (F : Nat) : Cx := { types := tys, call := callsL [(82, con82 F), (83, con83d F), (75, con75 F)], own := [4, 17, 23], ntmps := (0, 38) }
theorem cs52 (F : Nat) : ∀ f c, (cx52 F).call f = some c → CMet Try.prog f c := callsL_sound (calls_cons (s82 F) (calls_cons (s83d F) (calls_cons (s75 F) calls_nil)))
def sh52l7 : Shape := [(7, .own 7 (.int .u64) 36), (24, .own 24 (.int .i64) 2), (25, .d (.int .i64)), (26, .d (.int .i64))]
def sh52l7o0 : Shape := [(7, .own 7 (.int .u64) 36)]
def outs52l7 : Outs := [(2, sh52l7o0)]
def m52l7 (F : Nat) (n : Nat) {R : Type} (x : Shape.den sh52l7) (K : Ex → St → Option R) : Option R := residual_Residuals_l7 F (fun y7 => K (.exit 0) (enc sh52l7o0 (y7, ()))) n x.1 x.2.1 x.2.2.1 x.2.2.2.1
def hs52 (F : Nat) : Nat → Option (Hint (Dens sg52.rtys)) := hintL [(7, { sh := sh52l7, model := m52l7 F F })]
theorem ok52l7 (F : Nat) (fr : Frm) (hn : (cx52 F).ntmps = fr.n) (n : Nat) : MSound (R := (Dens sg52.rtys)) Try.prog fr (.loop (sub (bodyOf Try.f52) [1, 1, 1, 1, 1, 0, 1, 0, 0])) sh52l7 (m52l7 F n) :=
  loop_sound (cx := cx52 F) (hs := hs52 F) (js := hintL []) (outs := outs52l7) (conf_all _ rfl) (cs52 F) hn mix (m := fun n => m52l7 F n) (fun _ _ => rfl) (fun n x K => by kernel_rfl) (hok_of (l := []) (by kernel_rfl) obl_nil) n
theorem s52 (F : Nat) : CSound Try.prog 52 (con52 F) :=
  fn_sound (fn := Try.f52) (code := (bodyOf Try.f52)) (cx := cx52 F) (hs := hs52 F) (js := hintL []) Try.func52 (by kernel_rfl) (by kernel_rfl) (conf_all _ rfl) (cs52 F) mix (by kernel_rfl) (by kernel_rfl) (fun fr hn => (hok_of (l := [((.loop (sub (bodyOf Try.f52) [1, 1, 1, 1, 1, 0, 1, 0, 0])), { sh := sh52l7, model := m52l7 F F })]) (by kernel_rfl) (obl_cons (ok52l7 F fr hn F) obl_nil))) (fun x => by kernel_rfl)
def sg50 : Sig := { modes := [.ro], sh := [(0, .d (.slice (.int .i64)))], keeps := false, fresh := some (0, 5), rtys := [(.slice (.int .u8)), (.int .i64)] }
def con50 (F : Nat) : Contract := mkCon sg50 fun x => residual_Encode F x.1
def cx50 (F : Nat) : Cx := { types := tys, call := callsL [(52, con52 F), (24, con24 F)], own := [2, 4, 39], ntmps := (0, 44), nils := [4, 27] }
theorem cs50 (F : Nat) : ∀ f c, (cx50 F).call f = some c → CMet Try.prog f c := callsL_sound (calls_cons (s52 F) (calls_cons (s24 F) calls_nil))
def sh50l3 : Shape := [(0, .d (.slice (.int .i64))), (4, .own 4 (.int .u8) 5), (10, .d (.int .i64))]
def sh50l3o0 : Shape := [(4, .own 4 (.int .u8) 5)]
def sh50l3oret : Shape := [(2, .own 2 (.int .u8) 5), (3, .d (.int .i64))]
def outs50l3 : Outs := [(2, sh50l3o0), (1, sh50l3oret)]
def m50l3 (F : Nat) (n : Nat) {R : Type} (x : Shape.den sh50l3) (K : Ex → St → Option R) : Option R := residual_Encode_l3 F (fun y4 => K (.exit 0) (enc sh50l3o0 (y4, ()))) (fun y2 y3 => K .ret (enc sh50l3oret (y2, y3, ()))) n x.1 x.2.1 x.2.2.1
def sh50l3p : Shape := [(0, .d (.slice (.int .i64))), (4, .nilS), (10, .d (.int .i64))]
def m50l3p (F : Nat) (n : Nat) {R : Type} (x : Shape.den sh50l3p) (K : Ex → St → Option R) : Option R := residual_Encode_p3 F (fun y4 => K (.exit 0) (enc sh50l3o0 (y4, ()))) (fun y2 y3 => K .ret (enc sh50l3oret (y2, y3, ()))) n x.1 x.2.2.1
def hs50 (F : Nat) : Nat → Option (Hint (Dens sg50.rtys)) := hintL [(3, { sh := sh50l3p, model := m50l3p F F })]
theorem ok50l3 (F : Nat) (fr : Frm) (hn : (cx50 F).ntmps = fr.n) (n : Nat) : MSound (R := (Dens sg50.rtys)) Try.prog fr (.loop (sub (bodyOf Try.f50) [1, 1, 0, 1, 0, 0])) sh50l3p (m50l3p F n) :=
  peel_sound (cx := cx50 F) (hs := hs50 F) (js := hintL []) (outs := outs50l3) (conf_all _ rfl) (cs50 F) hn mix (m := fun n => m50l3 F n) (m0 := fun n => m50l3p F n) (fun _ _ => rfl) (fun n x K => by kernel_rfl) (fun n x K => by kernel_rfl) (hok_of (l := []) (by kernel_rfl) obl_nil) n
theorem s50 (F : Nat) : CSound Try.prog 50 (con50 F) :=
  fn_sound (fn := Try.f50) (code := (bodyOf Try.f50)) (cx := cx50 F) (hs := hs50 F) (js := hintL []) Try.func50 (by kernel_rfl) (by kernel_rfl) (conf_all _ rfl) (cs50 F) mix (by kernel_rfl) (by kernel_rfl) (fun fr hn => (hok_of (l := [((.loop (sub (bodyOf Try.f50) [1, 1, 0, 1, 0, 0])), { sh := sh50l3p, model := m50l3p F F })]) (by kernel_rfl) (obl_cons (ok50l3 F fr hn F) obl_nil))) (fun x => by kernel_rfl)
def sg79 : Sig := { modes := [.ro], sh := [(0, .d (.int .u64))], keeps := true, fresh := none, rtys := [(.int .i64)] }
def con79 (F : Nat) : Contract := mkCon sg79 fun x => varint_Unzigzag F x.1
def cx79 (F : Nat) : Cx := { types := tys, call := callsL [], own := [], ntmps := (0, 11) }
theorem cs79 (F : Nat) : ∀ f c, (cx79 F).call f = some c → CMet Try.prog f c := callsL_sound calls_nil
theorem s79 (F : Nat) : CSound Try.prog 79 (con79 F) :=
  fn_sound (fn := Try.f79) (code := (bodyOf Try.f79)) (cx := cx79 F) (hs := hintL []) (js := hintL []) Try.func79 (by kernel_rfl) (by kernel_rfl) (conf_all _ rfl) (cs79 F) mix (by kernel_rfl) (by kernel_rfl) (fun fr hn => (hok_of (l := []) (by kernel_rfl) obl_nil)) (fun x => by kernel_rfl)
def sg56 : Sig := { modes := [.ro, .ro, .ro], sh := [(0, .d (.slice (.int .u8))), (1, .d (.int .i64)), (2, .d (.int .i64))], keeps := false, fresh := none, rtys := [(.slice (.int .i64)), (.int .i64), (.int .i64)] }
def con56 (F : Nat) : Contract := mkCon sg56 fun x => residual_Decode F x.1 x.2.1 x.2.2.1
def cx56 (F : Nat) : Cx := { types := tys, call := callsL [(35, con35 F), (79, con79 F), (83, con83s F), (50, con50 F), (73, con73 F)], own := [6, 57], ntmps := (0, 96) }
theorem cs56 (F : Nat) : ∀ f c, (cx56 F).call f = some c → CMet Try.prog f c := callsL_sound (calls_cons (s35 F) (calls_cons (s79 F) (calls_cons (s83s F) (calls_cons (s50 F) (calls_cons (s73 F) calls_nil)))))
def sh56j2 : Shape := [(0, .d (.slice (.int .u8))), (1, .d (.int .i64)), (2, .d (.int .i64)), (16, .d .bool)]
def sh56j2on : Shape := [(0, .d (.slice (.int .u8))), (1, .d (.int .i64)), (2, .d (.int .i64))]
def sh56j2oret : Shape := [(6, .own 6 (.int .i64) 2), (7, .d (.int .i64)), (8, .d (.int .i64))]
def outs56j2 : Outs := [(0, sh56j2on), (1, sh56j2oret)]
def m56j2 (F : Nat) {R : Type} (x : Shape.den sh56j2) (K : Ex → St → Option R) : Option R := residual_Decode_j2 F (fun y0 y1 y2 => K .normal (enc sh56j2on (y0, y1, y2, ()))) (fun y6 y7 y8 => K .ret (enc sh56j2oret (y6, y7, y8, ()))) x.1 x.2.1 x.2.2.1 x.2.2.2.1
def sh56l12 : Shape := [(0, .d (.slice (.int .u8))), (1, .d (.int .i64)), (10, .d (.int .i64)), (12, .own 12 (.int .i64) 2), (58, .d (.slice (.int .u64))), (59, .d (.int .i64)), (60, .d (.int .i64))]
def sh56l12o1 : Shape := [(0, .d (.slice (.int .u8))), (1, .d (.int .i64)), (10, .d (.int .i64)), (12, .own 12 (.int .i64) 2)]
def outs56l12 : Outs := [(3, sh56l12o1)]
def m56l12 (F : Nat) (n : Nat) {R : Type} (x : Shape.den sh56l12) (K : Ex → St → Option R) : Option R := residual_Decode_l12 F (fun y0 y1 y10 y12 => K (.exit 1) (enc sh56l12o1 (y0, y1, y10, y12, ()))) n x.1 x.2.1 x.2.2.1 x.2.2.2.1 x.2.2.2.2.1 x.2.2.2.2.2.1 x.2.2.2.2.2.2.1
def sh56j12 : Shape := [(0, .d (.slice (.int .u8))), (1, .d (.int .i64)), (10, .d (.int .i64)), (12, .own 12 (.int .i64) 2), (58, .d (.slice (.int .u64))), (59, .d (.int .i64)), (60, .d (.int .i64))]
def sh56j12on : Shape := [(0, .d (.slice (.int .u8))), (1, .d (.int .i64)), (10, .d (.int .i64)), (12, .own 12 (.int .i64) 2)]
def outs56j12 : Outs := [(0, sh56j12on)]
def m56j12 (F : Nat) {R : Type} (x : Shape.den sh56j12) (K : Ex → St → Option R) : Option R := residual_Decode_j12 F (fun y0 y1 y10 y12 => K .normal (enc sh56j12on (y0, y1, y10, y12, ()))) x.1 x.2.1 x.2.2.1 x.2.2.2.1 x.2.2.2.2.1 x.2.2.2.2.2.1 x.2.2.2.2.2.2.1
def hs56 (F : Nat) : Nat → Option (Hint (Dens sg56.rtys)) := hintL [(12, { sh := sh56l12, model := m56l12 F F })]
def js56 (F : Nat) : Nat → Option (Hint (Dens sg56.rtys)) := hintL [(2, { sh := sh56j2, model := m56j2 F }), (12, { sh := sh56j12, model := m56j12 F })]
theorem ok56j2 (F : Nat) (fr : Frm) (hn : (cx56 F).ntmps = fr.n) : MSound (R := (Dens sg56.rtys)) Try.prog fr (sub (bodyOf Try.f56) [1, 0, 0, 1]) sh56j2 (m56j2 F) :=
  join_sound (cx := cx56 F) (hs := hs56 F) (js := js56 F) (outs := outs56j2) (conf_all _ rfl) (cs56 F) hn mix (fun x K => by kernel_rfl) (hok_of (l := []) (by kernel_rfl) obl_nil)
theorem ok56l12 (F : Nat) (fr : Frm) (hn : (cx56 F).ntmps = fr.n) (n : Nat) : MSound (R := (Dens sg56.rtys)) Try.prog fr (.loop (sub (bodyOf Try.f56) [1, 1, 1, 1, 1, 0, 1, 0, 0])) sh56l12 (m56l12 F n) :=
  loop_sound (cx := cx56 F) (hs := hs56 F) (js := js56 F) (outs := outs56l12) (conf_all _ rfl) (cs56 F) hn mix (m := fun n => m56l12 F n) (fun _ _ => rfl) (fun n x K => by kernel_rfl) (hok_of (l := []) (by kernel_rfl) obl_nil) n
theorem ok56j12 (F : Nat) (fr : Frm) (hn : (cx56 F).ntmps = fr.n) : MSound (R := (Dens sg56.rtys)) Try.prog fr (sub (bodyOf Try.f56) [1, 1, 1, 1, 1, 0, 1]) sh56j12 (m56j12 F) :=
  join_sound (cx := cx56 F) (hs := hs56 F) (js := js56 F) (outs := outs56j12) (conf_all _ rfl) (cs56 F) hn mix (fun x K => by kernel_rfl) (hok_of (l := [((.loop (sub (bodyOf Try.f56) [1, 1, 1, 1, 1, 0, 1, 0, 0])), { sh := sh56l12, model := m56l12 F F })]) (by kernel_rfl) (obl_cons (ok56l12 F fr hn F) obl_nil))
theorem s56 (F : Nat) : CSound Try.prog 56 (con56 F) :=
  fn_sound (fn := Try.f56) (code := (bodyOf Try.f56)) (cx := cx56 F) (hs := hs56 F) (js := js56 F) Try.func56 (by kernel_rfl) (by kernel_rfl) (conf_all _ rfl) (cs56 F) mix (by kernel_rfl) (by kernel_rfl) (fun fr hn => (hok_of (l := [((sub (bodyOf Try.f56) [1, 0, 0, 1]), { sh := sh56j2, model := m56j2 F }), ((sub (bodyOf Try.f56) [1, 1, 1, 1, 1, 0, 1]), { sh := sh56j12, model := m56j12 F })]) (by kernel_rfl) (obl_cons (ok56j2 F fr hn) (obl_cons (ok56j12 F fr hn) obl_nil)))) (fun x => by kernel_rfl)
def sg48 : Sig := { modes := [.ro, .ro], sh := [(0, .d (.slice (.int .i64))), (1, .d (.slice (.int .i64)))], keeps := true, fresh := none, rtys := [.bool] }
def con48 (F : Nat) : Contract := mkCon sg48 fun x => ref10_Same F x.1 x.2.1
def cx48 (F : Nat) : Cx := { types := tys, call := callsL [], own := [], ntmps := (0, 26) }
theorem cs48 (F : Nat) : ∀ f c, (cx48 F).call f = some c → CMet Try.prog f c := callsL_sound calls_nil
def sh48l4 : Shape := [(0, .d (.slice (.int .i64))), (1, .d (.slice (.int .i64))), (5, .d (.int .i64))]
def sh48l4o0 : Shape := []
def sh48l4oret : Shape := [(4, .d .bool)]
def outs48l4 : Outs := [(2, sh48l4o0), (1, sh48l4oret)]
def m48l4 (F : Nat) (n : Nat) {R : Type} (x : Shape.den sh48l4) (K : Ex → St → Option R) : Option R := ref10_Same_l4 F (K (.exit 0) (enc sh48l4o0 (()))) (fun y4 => K .ret (enc sh48l4oret (y4, ()))) n x.1 x.2.1 x.2.2.1
def hs48 (F : Nat) : Nat → Option (Hint (Dens sg48.rtys)) := hintL [(4, { sh := sh48l4, model := m48l4 F F })]
theorem ok48l4 (F : Nat) (fr : Frm) (hn : (cx48 F).ntmps = fr.n) (n : Nat) : MSound (R := (Dens sg48.rtys)) Try.prog fr (.loop (sub (bodyOf Try.f48) [1, 1, 0, 1, 0, 0])) sh48l4 (m48l4 F n) :=
  loop_sound (cx := cx48 F) (hs := hs48 F) (js := hintL []) (outs := outs48l4) (conf_all _ rfl) (cs48 F) hn mix (m := fun n => m48l4 F n) (fun _ _ => rfl) (fun n x K => by kernel_rfl) (hok_of (l := []) (by kernel_rfl) obl_nil) n
theorem s48 (F : Nat) : CSound Try.prog 48 (con48 F) :=
  fn_sound (fn := Try.f48) (code := (bodyOf Try.f48)) (cx := cx48 F) (hs := hs48 F) (js := hintL []) Try.func48 (by kernel_rfl) (by kernel_rfl) (conf_all _ rfl) (cs48 F) mix (by kernel_rfl) (by kernel_rfl) (fun fr hn => (hok_of (l := [((.loop (sub (bodyOf Try.f48) [1, 1, 0, 1, 0, 0])), { sh := sh48l4, model := m48l4 F F })]) (by kernel_rfl) (obl_cons (ok48l4 F fr hn F) obl_nil))) (fun x => by kernel_rfl)
def sg54 : Sig := { modes := [], sh := [], keeps := true, fresh := none, rtys := [.bool] }
def con54 (F : Nat) : Contract := mkCon sg54 fun x => law11_known F 
def cx54 (F : Nat) : Cx := { types := tys, call := callsL [(50, con50 F), (56, con56 F), (48, con48 F)], own := [], ntmps := (0, 45) }
theorem cs54 (F : Nat) : ∀ f c, (cx54 F).call f = some c → CMet Try.prog f c := callsL_sound (calls_cons (s50 F) (calls_cons (s56 F) (calls_cons (s48 F) calls_nil)))
theorem s54 (F : Nat) : CSound Try.prog 54 (con54 F) :=
  fn_sound (fn := Try.f54) (code := (bodyOf Try.f54)) (cx := cx54 F) (hs := hintL []) (js := hintL []) Try.func54 (by kernel_rfl) (by kernel_rfl) (conf_all _ rfl) (cs54 F) mix (by kernel_rfl) (by kernel_rfl) (fun fr hn => (hok_of (l := []) (by kernel_rfl) obl_nil)) (fun x => by kernel_rfl)
def sg17 : Sig := { modes := [.ro, .ro, .ro, .ro], sh := [(0, .d (.slice (.int .i64))), (1, .d (.int .i64)), (2, .d (.int .i32)), (3, .d (.int .i64))], keeps := true, fresh := none, rtys := [.bool] }
def con17 (F : Nat) : Contract := mkCon sg17 fun x => law11_ResidualShortest F x.1 x.2.1 x.2.2.1 x.2.2.2.1
def cx17 (F : Nat) : Cx := { types := tys, call := callsL [(23, con23 F), (49, con49 F), (50, con50 F), (52, con52 F), (25, con25 F), (32, con32 F), (54, con54 F)], own := [17, 22], ntmps := (0, 93) }
theorem cs17 (F : Nat) : ∀ f c, (cx17 F).call f = some c → CMet Try.prog f c := callsL_sound (calls_cons (s23 F) (calls_cons (s49 F) (calls_cons (s50 F) (calls_cons (s52 F) (calls_cons (s25 F) (calls_cons (s32 F) (calls_cons (s54 F) calls_nil)))))))
def sh17l4 : Shape := [(1, .d (.int .i64)), (2, .d (.int .i32)), (3, .d (.int .i64)), (9, .d (.slice (.int .i64))), (10, .d (.slice (.int .u8))), (11, .d (.int .i64)), (12, .d (.int .i64))]
def sh17l4o0 : Shape := [(1, .d (.int .i64)), (2, .d (.int .i32)), (3, .d (.int .i64)), (11, .d (.int .i64))]
def sh17l4oret : Shape := [(8, .d .bool)]
def outs17l4 : Outs := [(2, sh17l4o0), (1, sh17l4oret)]
def m17l4 (F : Nat) (n : Nat) {R : Type} (x : Shape.den sh17l4) (K : Ex → St → Option R) : Option R := law11_ResidualShortest_l4 F (fun y1 y2 y3 y11 => K (.exit 0) (enc sh17l4o0 (y1, y2, y3, y11, ()))) (fun y8 => K .ret (enc sh17l4oret (y8, ()))) n x.1 x.2.1 x.2.2.1 x.2.2.2.1 x.2.2.2.2.1 x.2.2.2.2.2.1 x.2.2.2.2.2.2.1
def sh17l13 : Shape := [(1, .d (.int .i64)), (2, .d (.int .i32)), (3, .d (.int .i64)), (11, .d (.int .i64)), (17, .own 17 (.int .i64) 2), (18, .d (.int .i64))]
def sh17l13o2 : Shape := [(3, .d (.int .i64)), (11, .d (.int .i64)), (17, .own 17 (.int .i64) 2)]
def outs17l13 : Outs := [(4, sh17l13o2)]
def m17l13 (F : Nat) (n : Nat) {R : Type} (x : Shape.den sh17l13) (K : Ex → St → Option R) : Option R := law11_ResidualShortest_l13 F (fun y3 y11 y17 => K (.exit 2) (enc sh17l13o2 (y3, y11, y17, ()))) n x.1 x.2.1 x.2.2.1 x.2.2.2.1 x.2.2.2.2.1 x.2.2.2.2.2.1
def hs17 (F : Nat) : Nat → Option (Hint (Dens sg17.rtys)) := hintL [(4, { sh := sh17l4, model := m17l4 F F }), (13, { sh := sh17l13, model := m17l13 F F })]
theorem ok17l4 (F : Nat) (fr : Frm) (hn : (cx17 F).ntmps = fr.n) (n : Nat) : MSound (R := (Dens sg17.rtys)) Try.prog fr (.loop (sub (bodyOf Try.f17) [1, 1, 1, 0, 1, 0, 0])) sh17l4 (m17l4 F n) :=
  loop_sound (cx := cx17 F) (hs := hs17 F) (js := hintL []) (outs := outs17l4) (conf_all _ rfl) (cs17 F) hn mix (m := fun n => m17l4 F n) (fun _ _ => rfl) (fun n x K => by kernel_rfl) (hok_of (l := []) (by kernel_rfl) obl_nil) n
theorem ok17l13 (F : Nat) (fr : Frm) (hn : (cx17 F).ntmps = fr.n) (n : Nat) : MSound (R := (Dens sg17.rtys)) Try.prog fr (.loop (sub (bodyOf Try.f17) [1, 1, 1, 1, 1, 1, 0, 1, 0, 0])) sh17l13 (m17l13 F n) :=
  loop_sound (cx := cx17 F) (hs := hs17 F) (js := hintL []) (outs := outs17l13) (conf_all _ rfl) (cs17 F) hn mix (m := fun n => m17l13 F n) (fun _ _ => rfl) (fun n x K => by kernel_rfl) (hok_of (l := []) (by kernel_rfl) obl_nil) n
theorem s17 (F : Nat) : CSound Try.prog 17 (con17 F) :=
  fn_sound (fn := Try.f17) (code := (bodyOf Try.f17)) (cx := cx17 F) (hs := hs17 F) (js := hintL []) Try.func17 (by kernel_rfl) (by kernel_rfl) (conf_all _ rfl) (cs17 F) mix (by kernel_rfl) (by kernel_rfl) (fun fr hn => (hok_of (l := [((.loop (sub (bodyOf Try.f17) [1, 1, 1, 0, 1, 0, 0])), { sh := sh17l4, model := m17l4 F F }), ((.loop (sub (bodyOf Try.f17) [1, 1, 1, 1, 1, 1, 0, 1, 0, 0])), { sh := sh17l13, model := m17l13 F F })]) (by kernel_rfl) (obl_cons (ok17l4 F fr hn F) (obl_cons (ok17l13 F fr hn F) obl_nil)))) (fun x => by kernel_rfl)
def sg15 : Sig := { modes := [.ro, .ro, .ro, .ro], sh := [(0, .d (.slice (.int .i64))), (1, .d (.slice (.int .i64))), (2, .d (.slice (.int .u8))), (3, .d (.slice (.int .u8)))], keeps := true, fresh := none, rtys := [.bool] }
def con15 (F : Nat) : Contract := mkCon sg15 fun x => law11_ResidualBack F x.1 x.2.1 x.2.2.1 x.2.2.2.1
def cx15 (F : Nat) : Cx := { types := tys, call := callsL [(23, con23 F), (49, con49 F), (50, con50 F), (56, con56 F), (48, con48 F), (54, con54 F)], own := [24, 39], ntmps := (0, 84) }
theorem cs15 (F : Nat) : ∀ f c, (cx15 F).call f = some c → CMet Try.prog f c := callsL_sound (calls_cons (s23 F) (calls_cons (s49 F) (calls_cons (s50 F) (calls_cons (s56 F) (calls_cons (s48 F) (calls_cons (s54 F) calls_nil))))))
def sh15l5 : Shape := [(2, .d (.slice (.int .u8))), (3, .d (.slice (.int .u8))), (9, .d (.slice (.slice (.int .i64)))), (10, .d (.int .i64))]
def sh15l5o0 : Shape := []
def sh15l5oret : Shape := [(8, .d .bool)]
def outs15l5 : Outs := [(2, sh15l5o0), (1, sh15l5oret)]
def m15l5 (F : Nat) (n : Nat) {R : Type} (x : Shape.den sh15l5) (K : Ex → St → Option R) : Option R := law11_ResidualBack_l5 F (K (.exit 0) (enc sh15l5o0 (()))) (fun y8 => K .ret (enc sh15l5oret (y8, ()))) n x.1 x.2.1 x.2.2.1 x.2.2.2.1
def sh15j3 : Shape := [(0, .d (.slice (.int .i64))), (1, .d (.slice (.int .i64))), (2, .d (.slice (.int .u8))), (3, .d (.slice (.int .u8)))]
def sh15j3oret : Shape := [(8, .d .bool)]
def outs15j3 : Outs := [(1, sh15j3oret)]
def m15j3 (F : Nat) {R : Type} (x : Shape.den sh15j3) (K : Ex → St → Option R) : Option R := law11_ResidualBack_j3 F (fun y8 => K .ret (enc sh15j3oret (y8, ()))) x.1 x.2.1 x.2.2.1 x.2.2.2.1
def hs15 (F : Nat) : Nat → Option (Hint (Dens sg15.rtys)) := hintL [(5, { sh := sh15l5, model := m15l5 F F })]
def js15 (F : Nat) : Nat → Option (Hint (Dens sg15.rtys)) := hintL [(3, { sh := sh15j3, model := m15j3 F })]
theorem ok15l5 (F : Nat) (fr : Frm) (hn : (cx15 F).ntmps = fr.n) (n : Nat) : MSound (R := (Dens sg15.rtys)) Try.prog fr (.loop (sub (bodyOf Try.f15) [1, 1, 1, 0, 1, 0, 0])) sh15l5 (m15l5 F n) :=
  loop_sound (cx := cx15 F) (hs := hs15 F) (js := js15 F) (outs := outs15l5) (conf_all _ rfl) (cs15 F) hn mix (m := fun n => m15l5 F n) (fun _ _ => rfl) (fun n x K => by kernel_rfl) (hok_of (l := []) (by kernel_rfl) obl_nil) n
theorem ok15j3 (F : Nat) (fr : Frm) (hn : (cx15 F).ntmps = fr.n) : MSound (R := (Dens sg15.rtys)) Try.prog fr (sub (bodyOf Try.f15) [1, 1]) sh15j3 (m15j3 F) :=
  join_sound (cx := cx15 F) (hs := hs15 F) (js := js15 F) (outs := outs15j3) (conf_all _ rfl) (cs15 F) hn mix (fun x K => by kernel_rfl) (hok_of (l := [((.loop (sub (bodyOf Try.f15) [1, 1, 1, 0, 1, 0, 0])), { sh := sh15l5, model := m15l5 F F })]) (by kernel_rfl) (obl_cons (ok15l5 F fr hn F) obl_nil))
theorem s15 (F : Nat) : CSound Try.prog 15 (con15 F) :=
  fn_sound (fn := Try.f15) (code := (bodyOf Try.f15)) (cx := cx15 F) (hs := hs15 F) (js := js15 F) Try.func15 (by kernel_rfl) (by kernel_rfl) (conf_all _ rfl) (cs15 F) mix (by kernel_rfl) (by kernel_rfl) (fun fr hn => (hok_of (l := [((sub (bodyOf Try.f15) [1, 1]), { sh := sh15j3, model := m15j3 F })]) (by kernel_rfl) (obl_cons (ok15j3 F fr hn) obl_nil))) (fun x => by kernel_rfl)
def sg7 : Sig := { modes := [.ro], sh := [(0, .d (.slice (.int .i64)))], keeps := true, fresh := none, rtys := [.bool] }
def con7 (F : Nat) : Contract := mkCon sg7 fun x => law09_NumbersShort F x.1
def cx7 (F : Nat) : Cx := { types := tys, call := callsL [(23, con23 F), (22, con22 F), (24, con24 F), (37, con37 F), (27, con27 F), (29, con29 F), (38, con38 F)], own := [9], ntmps := (0, 56) }
theorem cs7 (F : Nat) : ∀ f c, (cx7 F).call f = some c → CMet Try.prog f c := callsL_sound (calls_cons (s23 F) (calls_cons (s22 F) (calls_cons (s24 F) (calls_cons (s37 F) (calls_cons (s27 F) (calls_cons (s29 F) (calls_cons (s38 F) calls_nil)))))))
def sh7l5 : Shape := [(3, .d (.slice (.int .u64))), (4, .d (.slice (.int .u8))), (5, .d (.int .i64)), (6, .d (.int .i64)), (7, .d (.int .i64))]
def sh7l5o0 : Shape := [(3, .d (.slice (.int .u64))), (4, .d (.slice (.int .u8))), (5, .d (.int .i64)), (6, .d (.int .i64))]
def outs7l5 : Outs := [(2, sh7l5o0)]
def m7l5 (F : Nat) (n : Nat) {R : Type} (x : Shape.den sh7l5) (K : Ex → St → Option R) : Option R := law09_NumbersShort_l5 F (fun y3 y4 y5 y6 => K (.exit 0) (enc sh7l5o0 (y3, y4, y5, y6, ()))) n x.1 x.2.1 x.2.2.1 x.2.2.2.1 x.2.2.2.2.1
def hs7 (F : Nat) : Nat → Option (Hint (Dens sg7.rtys)) := hintL [(5, { sh := sh7l5, model := m7l5 F F })]
theorem ok7l5 (F : Nat) (fr : Frm) (hn : (cx7 F).ntmps = fr.n) (n : Nat) : MSound (R := (Dens sg7.rtys)) Try.prog fr (.loop (sub (bodyOf Try.f7) [1, 1, 1, 1, 0, 1, 0, 0])) sh7l5 (m7l5 F n) :=
  loop_sound (cx := cx7 F) (hs := hs7 F) (js := hintL []) (outs := outs7l5) (conf_all _ rfl) (cs7 F) hn mix (m := fun n => m7l5 F n) (fun _ _ => rfl) (fun n x K => by kernel_rfl) (hok_of (l := []) (by kernel_rfl) obl_nil) n
theorem s7 (F : Nat) : CSound Try.prog 7 (con7 F) :=
  fn_sound (fn := Try.f7) (code := (bodyOf Try.f7)) (cx := cx7 F) (hs := hs7 F) (js := hintL []) Try.func7 (by kernel_rfl) (by kernel_rfl) (conf_all _ rfl) (cs7 F) mix (by kernel_rfl) (by kernel_rfl) (fun fr hn => (hok_of (l := [((.loop (sub (bodyOf Try.f7) [1, 1, 1, 1, 0, 1, 0, 0])), { sh := sh7l5, model := m7l5 F F })]) (by kernel_rfl) (obl_cons (ok7l5 F fr hn F) obl_nil))) (fun x => by kernel_rfl)
def sg34 : Sig := { modes := [.bor, .ro], sh := [(0, .box 0 (.pair (.slice (.int .i64)) (.pair (.int .i64) .unit))), (1, .d (.slice (.int .u8)))], keeps := false, fresh := some (0, 5), rtys := [(.pair (.slice (.int .i64)) (.pair (.int .i64) .unit)), (.slice (.int .u8))] }
def con34 (F : Nat) : Contract := mkCon sg34 fun x => made_Tape_Spoiled F x.1 x.2.1
def cx34 (F : Nat) : Cx := { types := tys, call := callsL [(30, con30 F)], own := [4, 6, 36, 52], ntmps := (1, 59), cuts := [52, 56] }
theorem cs34 (F : Nat) : ∀ f c, (cx34 F).call f = some c → CMet Try.prog f c := callsL_sound (calls_cons (s30 F) calls_nil)
theorem s34 (F : Nat) : CSound Try.prog 34 (con34 F) :=
  fn_sound (fn := Try.f34) (code := (bodyOf Try.f34)) (cx := cx34 F) (hs := hintL []) (js := hintL []) Try.func34 (by kernel_rfl) (by kernel_rfl) (conf_all _ rfl) (cs34 F) mix (by kernel_rfl) (by kernel_rfl) (fun fr hn => (hok_of (l := []) (by kernel_rfl) obl_nil)) (fun x => by kernel_rfl)
def sg34w : Sig := { modes := [.bor, .wr 5], sh := [(0, .box 0 (.pair (.slice (.int .i64)) (.pair (.int .i64) .unit))), (1, .own 1 (.int .u8) 5)], keeps := false, fresh := some (0, 5), rtys := [(.pair (.slice (.int .i64)) (.pair (.int .i64) .unit)), (.slice (.int .u8)), (.slice (.int .u8))] }
def con34w (F : Nat) : Contract := mkCon sg34w fun x => made_Tape_Spoiledw F x.1 x.2.1
def cx34w (F : Nat) : Cx := { types := tys, call := callsL [(30, con30 F)], own := [4, 6, 36, 52], ntmps := (1, 59), cuts := [52, 56] }
theorem cs34w (F : Nat) : ∀ f c, (cx34w F).call f = some c → CMet Try.prog f c := callsL_sound (calls_cons (s30 F) calls_nil)
def hs34w (F : Nat) : Nat → Option (Hint (Dens sg34w.rtys)) := hintL []
def js34w (F : Nat) : Nat → Option (Hint (Dens sg34w.rtys)) := hintL []
theorem s34w (F : Nat) : CSound Try.prog 34 (con34w F) :=
  fn_sound (fn := Try.f34) (code := (bodyOf Try.f34)) (cx := cx34w F) (hs := hs34w F) (js := js34w F) Try.func34 (by kernel_rfl) (by kernel_rfl) (conf_all _ rfl) (cs34w F) mix (by kernel_rfl) (by kernel_rfl) (fun fr hn => (hok_of (l := []) (by kernel_rfl) obl_nil)) (fun x => by kernel_rfl)
def sg6 : Sig := { modes := [.ro, .ro, .ro], sh := [(0, .d (.slice (.int .u8))), (1, .d (.int .i64)), (2, .d (.slice (.int .i64)))], keeps := true, fresh := none, rtys := [.bool] }
def con6 (F : Nat) : Contract := mkCon sg6 fun x => law09_NumbersCanonical F x.1 x.2.1 x.2.2.1
def cx6 (F : Nat) : Cx := { types := tys, call := callsL [(23, con23 F), (22, con22 F), (24, con24 F), (32, con32 F), (34, con34 F), (30, con30 F), (35, con35 F), (26, con26 F), (27, con27 F)], own := [20, 34, 40], ntmps := (0, 99) }
theorem cs6 (F : Nat) : ∀ f c, (cx6 F).call f = some c → CMet Try.prog f c := callsL_sound (calls_cons (s23 F) (calls_cons (s22 F) (calls_cons (s24 F) (calls_cons (s32 F) (calls_cons (s34 F) (calls_cons (s30 F) (calls_cons (s35 F) (calls_cons (s26 F) (calls_cons (s27 F) calls_nil)))))))))
def sh6l8 : Shape := [(11, .d (.slice (.slice (.int .u8)))), (12, .d (.slice (.int .i64))), (13, .d (.int .i64))]
def sh6l8o0 : Shape := []
def sh6l8oret : Shape := [(6, .d .bool)]
def outs6l8 : Outs := [(2, sh6l8o0), (1, sh6l8oret)]
def m6l8 (F : Nat) (n : Nat) {R : Type} (x : Shape.den sh6l8) (K : Ex → St → Option R) : Option R := law09_NumbersCanonical_l8 F (K (.exit 0) (enc sh6l8o0 (()))) (fun y6 => K .ret (enc sh6l8oret (y6, ()))) n x.1 x.2.1 x.2.2.1
def hs6 (F : Nat) : Nat → Option (Hint (Dens sg6.rtys)) := hintL [(8, { sh := sh6l8, model := m6l8 F F })]
theorem ok6l8 (F : Nat) (fr : Frm) (hn : (cx6 F).ntmps = fr.n) (n : Nat) : MSound (R := (Dens sg6.rtys)) Try.prog fr (.loop (sub (bodyOf Try.f6) [1, 1, 1, 1, 1, 1, 1, 0, 1, 0, 0])) sh6l8 (m6l8 F n) :=
  loop_sound (cx := cx6 F) (hs := hs6 F) (js := hintL []) (outs := outs6l8) (conf_all _ rfl) (cs6 F) hn mix (m := fun n => m6l8 F n) (fun _ _ => rfl) (fun n x K => by kernel_rfl) (hok_of (l := []) (by kernel_rfl) obl_nil) n
theorem s6 (F : Nat) : CSound Try.prog 6 (con6 F) :=
  fn_sound (fn := Try.f6) (code := (bodyOf Try.f6)) (cx := cx6 F) (hs := hs6 F) (js := hintL []) Try.func6 (by kernel_rfl) (by kernel_rfl) (conf_all _ rfl) (cs6 F) mix (by kernel_rfl) (by kernel_rfl) (fun fr hn => (hok_of (l := [((.loop (sub (bodyOf Try.f6) [1, 1, 1, 1, 1, 1, 1, 0, 1, 0, 0])), { sh := sh6l8, model := m6l8 F F })]) (by kernel_rfl) (obl_cons (ok6l8 F fr hn F) obl_nil))) (fun x => by kernel_rfl)
def sg115 : Sig := { modes := [.ro, .ro, .ro], sh := [(0, .d (.slice (.int .u8))), (1, .d (.int .i64)), (2, .d (.int .i64))], keeps := false, fresh := none, rtys := [(.slice (.int .u8)), (.int .i64)] }
def con115 (F : Nat) : Contract := mkCon sg115 fun x => ref05_groups F x.1 x.2.1 x.2.2.1
def cx115 (F : Nat) : Cx := { types := tys, call := callsL [], own := [6], ntmps := (0, 47) }
theorem cs115 (F : Nat) : ∀ f c, (cx115 F).call f = some c → CMet Try.prog f c := callsL_sound calls_nil
def sh115l4 : Shape := [(0, .d (.slice (.int .u8))), (1, .d (.int .i64)), (2, .d (.int .i64)), (8, .d (.int .i64))]
def sh115l4o0 : Shape := [(2, .d (.int .i64)), (8, .d (.int .i64))]
def sh115l4oret : Shape := [(6, .d (.slice (.int .u8))), (7, .d (.int .i64))]
def outs115l4 : Outs := [(2, sh115l4o0), (1, sh115l4oret)]
def m115l4 (F : Nat) (n : Nat) {R : Type} (x : Shape.den sh115l4) (K : Ex → St → Option R) : Option R := ref05_groups_l4 F (fun y2 y8 => K (.exit 0) (enc sh115l4o0 (y2, y8, ()))) (fun y6 y7 => K .ret (enc sh115l4oret (y6, y7, ()))) n x.1 x.2.1 x.2.2.1 x.2.2.2.1
def hs115 (F : Nat) : Nat → Option (Hint (Dens sg115.rtys)) := hintL [(4, { sh := sh115l4, model := m115l4 F F })]
theorem ok115l4 (F : Nat) (fr : Frm) (hn : (cx115 F).ntmps = fr.n) (n : Nat) : MSound (R := (Dens sg115.rtys)) Try.prog fr (.loop (sub (bodyOf Try.f115) [1, 1, 1, 0, 0, 0])) sh115l4 (m115l4 F n) :=
  loop_sound (cx := cx115 F) (hs := hs115 F) (js := hintL []) (outs := outs115l4) (conf_all _ rfl) (cs115 F) hn mix (m := fun n => m115l4 F n) (fun _ _ => rfl) (fun n x K => by kernel_rfl) (hok_of (l := []) (by kernel_rfl) obl_nil) n
theorem s115 (F : Nat) : CSound Try.prog 115 (con115 F) :=
  fn_sound (fn := Try.f115) (code := (bodyOf Try.f115)) (cx := cx115 F) (hs := hs115 F) (js := hintL []) Try.func115 (by kernel_rfl) (by kernel_rfl) (conf_all _ rfl) (cs115 F) mix (by kernel_rfl) (by kernel_rfl) (fun fr hn => (hok_of (l := [((.loop (sub (bodyOf Try.f115) [1, 1, 1, 0, 0, 0])), { sh := sh115l4, model := m115l4 F F })]) (by kernel_rfl) (obl_cons (ok115l4 F fr hn F) obl_nil))) (fun x => by kernel_rfl)
def sg112 : Sig := { modes := [.ro, .ro], sh := [(0, .d (.slice (.int .u8))), (1, .d (.int .i64))], keeps := true, fresh := none, rtys := [(.int .u64), (.int .i64), (.int .i64)] }
def con112 (F : Nat) : Contract := mkCon sg112 fun x => ref05_Read F x.1 x.2.1
def cx112 (F : Nat) : Cx := { types := tys, call := callsL [(115, con115 F)], own := [], ntmps := (0, 64) }
theorem cs112 (F : Nat) : ∀ f c, (cx112 F).call f = some c → CMet Try.prog f c := callsL_sound (calls_cons (s115 F) calls_nil)
def sh112l9 : Shape := [(1, .d (.int .i64)), (7, .d (.slice (.int .u8))), (10, .d (.int .u64)), (11, .d (.int .i64))]
def sh112l9o0 : Shape := [(1, .d (.int .i64)), (7, .d (.slice (.int .u8))), (10, .d (.int .u64))]
def outs112l9 : Outs := [(2, sh112l9o0)]
def m112l9 (F : Nat) (n : Nat) {R : Type} (x : Shape.den sh112l9) (K : Ex → St → Option R) : Option R := ref05_Read_l9 F (fun y1 y7 y10 => K (.exit 0) (enc sh112l9o0 (y1, y7, y10, ()))) n x.1 x.2.1 x.2.2.1 x.2.2.2.1
def sh112j7 : Shape := [(1, .d (.int .i64)), (7, .d (.slice (.int .u8)))]
def sh112j7oret : Shape := [(4, .d (.int .u64)), (5, .d (.int .i64)), (6, .d (.int .i64))]
def outs112j7 : Outs := [(1, sh112j7oret)]
def m112j7 (F : Nat) {R : Type} (x : Shape.den sh112j7) (K : Ex → St → Option R) : Option R := ref05_Read_j7 F (fun y4 y5 y6 => K .ret (enc sh112j7oret (y4, y5, y6, ()))) x.1 x.2.1
def hs112 (F : Nat) : Nat → Option (Hint (Dens sg112.rtys)) := hintL [(9, { sh := sh112l9, model := m112l9 F F })]
def js112 (F : Nat) : Nat → Option (Hint (Dens sg112.rtys)) := hintL [(7, { sh := sh112j7, model := m112j7 F })]
theorem ok112l9 (F : Nat) (fr : Frm) (hn : (cx112 F).ntmps = fr.n) (n : Nat) : MSound (R := (Dens sg112.rtys)) Try.prog fr (.loop (sub (bodyOf Try.f112) [1, 1, 1, 1, 1, 1, 0, 1, 0, 0])) sh112l9 (m112l9 F n) :=
  loop_sound (cx := cx112 F) (hs := hs112 F) (js := js112 F) (outs := outs112l9) (conf_all _ rfl) (cs112 F) hn mix (m := fun n => m112l9 F n) (fun _ _ => rfl) (fun n x K => by kernel_rfl) (hok_of (l := []) (by kernel_rfl) obl_nil) n
theorem ok112j7 (F : Nat) (fr : Frm) (hn : (cx112 F).ntmps = fr.n) : MSound (R := (Dens sg112.rtys)) Try.prog fr (sub (bodyOf Try.f112) [1, 1, 1, 1, 1]) sh112j7 (m112j7 F) :=
  join_sound (cx := cx112 F) (hs := hs112 F) (js := js112 F) (outs := outs112j7) (conf_all _ rfl) (cs112 F) hn mix (fun x K => by kernel_rfl) (hok_of (l := [((.loop (sub (bodyOf Try.f112) [1, 1, 1, 1, 1, 1, 0, 1, 0, 0])), { sh := sh112l9, model := m112l9 F F })]) (by kernel_rfl) (obl_cons (ok112l9 F fr hn F) obl_nil))
theorem s112 (F : Nat) : CSound Try.prog 112 (con112 F) :=
  fn_sound (fn := Try.f112) (code := (bodyOf Try.f112)) (cx := cx112 F) (hs := hs112 F) (js := js112 F) Try.func112 (by kernel_rfl) (by kernel_rfl) (conf_all _ rfl) (cs112 F) mix (by kernel_rfl) (by kernel_rfl) (fun fr hn => (hok_of (l := [((sub (bodyOf Try.f112) [1, 1, 1, 1, 1]), { sh := sh112j7, model := m112j7 F })]) (by kernel_rfl) (obl_cons (ok112j7 F fr hn) obl_nil))) (fun x => by kernel_rfl)
def sg101 : Sig := { modes := [.ro, .ro, .ro], sh := [(0, .d (.slice (.int .u8))), (1, .d (.int .i64)), (2, .d (.int .i64))], keeps := false, fresh := some (0, 36), rtys := [(.slice (.int .u64)), (.int .i64), (.int .i64)] }
def con101 (F : Nat) : Contract := mkCon sg101 fun x => ref09_plain F x.1 x.2.1 x.2.2.1
def cx101 (F : Nat) : Cx := { types := tys, call := callsL [(112, con112 F)], own := [6, 9], ntmps := (0, 36) }
theorem cs101 (F : Nat) : ∀ f c, (cx101 F).call f = some c → CMet Try.prog f c := callsL_sound (calls_cons (s112 F) calls_nil)
def sh101l3 : Shape := [(0, .d (.slice (.int .u8))), (1, .d (.int .i64)), (2, .d (.int .i64)), (9, .own 9 (.int .u64) 36), (10, .d (.int .i64))]
def sh101l3o0 : Shape := [(1, .d (.int .i64)), (9, .own 9 (.int .u64) 36)]
def sh101l3oret : Shape := [(6, .own 6 (.int .u64) 36), (7, .d (.int .i64)), (8, .d (.int .i64))]
def outs101l3 : Outs := [(2, sh101l3o0), (1, sh101l3oret)]
def m101l3 (F : Nat) (n : Nat) {R : Type} (x : Shape.den sh101l3) (K : Ex → St → Option R) : Option R := ref09_plain_l3 F (fun y1 y9 => K (.exit 0) (enc sh101l3o0 (y1, y9, ()))) (fun y6 y7 y8 => K .ret (enc sh101l3oret (y6, y7, y8, ()))) n x.1 x.2.1 x.2.2.1 x.2.2.2.1 x.2.2.2.2.1
def hs101 (F : Nat) : Nat → Option (Hint (Dens sg101.rtys)) := hintL [(3, { sh := sh101l3, model := m101l3 F F })]
theorem ok101l3 (F : Nat) (fr : Frm) (hn : (cx101 F).ntmps = fr.n) (n : Nat) : MSound (R := (Dens sg101.rtys)) Try.prog fr (.loop (sub (bodyOf Try.f101) [1, 1, 0, 1, 0, 0])) sh101l3 (m101l3 F n) :=
  loop_sound (cx := cx101 F) (hs := hs101 F) (js := hintL []) (outs := outs101l3) (conf_all _ rfl) (cs101 F) hn mix (m := fun n => m101l3 F n) (fun _ _ => rfl) (fun n x K => by kernel_rfl) (hok_of (l := []) (by kernel_rfl) obl_nil) n
theorem s101 (F : Nat) : CSound Try.prog 101 (con101 F) :=
  fn_sound (fn := Try.f101) (code := (bodyOf Try.f101)) (cx := cx101 F) (hs := hs101 F) (js := hintL []) Try.func101 (by kernel_rfl) (by kernel_rfl) (conf_all _ rfl) (cs101 F) mix (by kernel_rfl) (by kernel_rfl) (fun fr hn => (hok_of (l := [((.loop (sub (bodyOf Try.f101) [1, 1, 0, 1, 0, 0])), { sh := sh101l3, model := m101l3 F F })]) (by kernel_rfl) (obl_cons (ok101l3 F fr hn F) obl_nil))) (fun x => by kernel_rfl)
def sg113 : Sig := { modes := [.ro, .ro, .ro], sh := [(0, .d (.slice (.int .u8))), (1, .d (.int .i64)), (2, .d (.int .i64))], keeps := false, fresh := none, rtys := [(.slice (.int .u64)), .bool] }
def con113 (F : Nat) : Contract := mkCon sg113 fun x => ref08_Unpack F x.1 x.2.1 x.2.2.1
def cx113 (F : Nat) : Cx := { types := tys, call := callsL [(38, con38 F), (31, con31 F), (26, con26 F)], own := [6, 25], ntmps := (0, 72) }
theorem cs113 (F : Nat) : ∀ f c, (cx113 F).call f = some c → CMet Try.prog f c := callsL_sound (calls_cons (s38 F) (calls_cons (s31 F) (calls_cons (s26 F) calls_nil)))
def sh113l6 : Shape := [(0, .d (.slice (.int .u8))), (1, .d (.int .i64)), (2, .d (.int .i64)), (9, .own 9 (.int .u64) 36), (10, .d (.int .i64))]
def sh113l6o0 : Shape := [(0, .d (.slice (.int .u8))), (2, .d (.int .i64)), (9, .own 9 (.int .u64) 36)]
def outs113l6 : Outs := [(2, sh113l6o0)]
def m113l6 (F : Nat) (n : Nat) {R : Type} (x : Shape.den sh113l6) (K : Ex → St → Option R) : Option R := ref08_Unpack_l6 F (fun y0 y2 y9 => K (.exit 0) (enc sh113l6o0 (y0, y2, y9, ()))) n x.1 x.2.1 x.2.2.1 x.2.2.2.1 x.2.2.2.2.1
def hs113 (F : Nat) : Nat → Option (Hint (Dens sg113.rtys)) := hintL [(6, { sh := sh113l6, model := m113l6 F F })]
theorem ok113l6 (F : Nat) (fr : Frm) (hn : (cx113 F).ntmps = fr.n) (n : Nat) : MSound (R := (Dens sg113.rtys)) Try.prog fr (.loop (sub (bodyOf Try.f113) [1, 1, 1, 1, 0, 1, 0, 0])) sh113l6 (m113l6 F n) :=
  loop_sound (cx := cx113 F) (hs := hs113 F) (js := hintL []) (outs := outs113l6) (conf_all _ rfl) (cs113 F) hn mix (m := fun n => m113l6 F n) (fun _ _ => rfl) (fun n x K => by kernel_rfl) (hok_of (l := []) (by kernel_rfl) obl_nil) n
theorem s113 (F : Nat) : CSound Try.prog 113 (con113 F) :=
  fn_sound (fn := Try.f113) (code := (bodyOf Try.f113)) (cx := cx113 F) (hs := hs113 F) (js := hintL []) Try.func113 (by kernel_rfl) (by kernel_rfl) (conf_all _ rfl) (cs113 F) mix (by kernel_rfl) (by kernel_rfl) (fun fr hn => (hok_of (l := [((.loop (sub (bodyOf Try.f113) [1, 1, 1, 1, 0, 1, 0, 0])), { sh := sh113l6, model := m113l6 F F })]) (by kernel_rfl) (obl_cons (ok113l6 F fr hn F) obl_nil))) (fun x => by kernel_rfl)
def sg102 : Sig := { modes := [.ro, .ro, .ro], sh := [(0, .d (.slice (.int .u8))), (1, .d (.int .i64)), (2, .d (.int .i64))], keeps := false, fresh := none, rtys := [(.slice (.int .u64)), (.int .i64), (.int .i64)] }
def con102 (F : Nat) : Contract := mkCon sg102 fun x => ref09_packed F x.1 x.2.1 x.2.2.1
def cx102 (F : Nat) : Cx := { types := tys, call := callsL [(38, con38 F), (113, con113 F)], own := [6], ntmps := (0, 55) }
theorem cs102 (F : Nat) : ∀ f c, (cx102 F).call f = some c → CMet Try.prog f c := callsL_sound (calls_cons (s38 F) (calls_cons (s113 F) calls_nil))
theorem s102 (F : Nat) : CSound Try.prog 102 (con102 F) :=
  fn_sound (fn := Try.f102) (code := (bodyOf Try.f102)) (cx := cx102 F) (hs := hintL []) (js := hintL []) Try.func102 (by kernel_rfl) (by kernel_rfl) (conf_all _ rfl) (cs102 F) mix (by kernel_rfl) (by kernel_rfl) (fun fr hn => (hok_of (l := []) (by kernel_rfl) obl_nil)) (fun x => by kernel_rfl)
def sg70 : Sig := { modes := [.ro, .ro, .ro], sh := [(0, .d (.slice (.int .u8))), (1, .d (.int .i64)), (2, .d (.int .i64))], keeps := false, fresh := none, rtys := [(.slice (.int .u64)), (.int .i64), (.int .i64)] }
def con70 (F : Nat) : Contract := mkCon sg70 fun x => ref09_Decode F x.1 x.2.1 x.2.2.1
def cx70 (F : Nat) : Cx := { types := tys, call := callsL [(101, con101 F), (25, con25 F), (26, con26 F), (102, con102 F)], own := [6, 9, 45], ntmps := (0, 77) }
theorem cs70 (F : Nat) : ∀ f c, (cx70 F).call f = some c → CMet Try.prog f c := callsL_sound (calls_cons (s101 F) (calls_cons (s25 F) (calls_cons (s26 F) (calls_cons (s102 F) calls_nil))))
theorem s70 (F : Nat) : CSound Try.prog 70 (con70 F) :=
  fn_sound (fn := Try.f70) (code := (bodyOf Try.f70)) (cx := cx70 F) (hs := hintL []) (js := hintL []) Try.func70 (by kernel_rfl) (by kernel_rfl) (conf_all _ rfl) (cs70 F) mix (by kernel_rfl) (by kernel_rfl) (fun fr hn => (hok_of (l := []) (by kernel_rfl) obl_nil)) (fun x => by kernel_rfl)
def sg36 : Sig := { modes := [.ro, .ro], sh := [(0, .d (.slice (.int .u64))), (1, .d (.slice (.int .u64)))], keeps := true, fresh := none, rtys := [.bool] }
def con36 (F : Nat) : Contract := mkCon sg36 fun x => ref08_Same F x.1 x.2.1
def cx36 (F : Nat) : Cx := { types := tys, call := callsL [], own := [], ntmps := (0, 26) }
theorem cs36 (F : Nat) : ∀ f c, (cx36 F).call f = some c → CMet Try.prog f c := callsL_sound calls_nil
def sh36l4 : Shape := [(0, .d (.slice (.int .u64))), (1, .d (.slice (.int .u64))), (5, .d (.int .i64))]
def sh36l4o0 : Shape := []
def sh36l4oret : Shape := [(4, .d .bool)]
def outs36l4 : Outs := [(2, sh36l4o0), (1, sh36l4oret)]
def m36l4 (F : Nat) (n : Nat) {R : Type} (x : Shape.den sh36l4) (K : Ex → St → Option R) : Option R := ref08_Same_l4 F (K (.exit 0) (enc sh36l4o0 (()))) (fun y4 => K .ret (enc sh36l4oret (y4, ()))) n x.1 x.2.1 x.2.2.1
def hs36 (F : Nat) : Nat → Option (Hint (Dens sg36.rtys)) := hintL [(4, { sh := sh36l4, model := m36l4 F F })]
theorem ok36l4 (F : Nat) (fr : Frm) (hn : (cx36 F).ntmps = fr.n) (n : Nat) : MSound (R := (Dens sg36.rtys)) Try.prog fr (.loop (sub (bodyOf Try.f36) [1, 1, 0, 1, 0, 0])) sh36l4 (m36l4 F n) :=
  loop_sound (cx := cx36 F) (hs := hs36 F) (js := hintL []) (outs := outs36l4) (conf_all _ rfl) (cs36 F) hn mix (m := fun n => m36l4 F n) (fun _ _ => rfl) (fun n x K => by kernel_rfl) (hok_of (l := []) (by kernel_rfl) obl_nil) n
theorem s36 (F : Nat) : CSound Try.prog 36 (con36 F) :=
  fn_sound (fn := Try.f36) (code := (bodyOf Try.f36)) (cx := cx36 F) (hs := hs36 F) (js := hintL []) Try.func36 (by kernel_rfl) (by kernel_rfl) (conf_all _ rfl) (cs36 F) mix (by kernel_rfl) (by kernel_rfl) (fun fr hn => (hok_of (l := [((.loop (sub (bodyOf Try.f36) [1, 1, 0, 1, 0, 0])), { sh := sh36l4, model := m36l4 F F })]) (by kernel_rfl) (obl_cons (ok36l4 F fr hn F) obl_nil))) (fun x => by kernel_rfl)
def sg33 : Sig := { modes := [.ro, .ro, .ro], sh := [(0, .d (.slice (.int .u8))), (1, .d (.int .i64)), (2, .d (.int .i64))], keeps := true, fresh := none, rtys := [.bool] }
def con33 (F : Nat) : Contract := mkCon sg33 fun x => law09_reads F x.1 x.2.1 x.2.2.1
def cx33 (F : Nat) : Cx := { types := tys, call := callsL [(35, con35 F), (70, con70 F), (36, con36 F)], own := [], ntmps := (0, 42) }
theorem cs33 (F : Nat) : ∀ f c, (cx33 F).call f = some c → CMet Try.prog f c := callsL_sound (calls_cons (s35 F) (calls_cons (s70 F) (calls_cons (s36 F) calls_nil)))
theorem s33 (F : Nat) : CSound Try.prog 33 (con33 F) :=
  fn_sound (fn := Try.f33) (code := (bodyOf Try.f33)) (cx := cx33 F) (hs := hintL []) (js := hintL []) Try.func33 (by kernel_rfl) (by kernel_rfl) (conf_all _ rfl) (cs33 F) mix (by kernel_rfl) (by kernel_rfl) (fun fr hn => (hok_of (l := []) (by kernel_rfl) obl_nil)) (fun x => by kernel_rfl)
def sg4 : Sig := { modes := [.ro, .ro, .ro, .ro], sh := [(0, .d (.slice (.int .u8))), (1, .d (.int .i64)), (2, .d (.int .i64)), (3, .d (.slice (.int .i64)))], keeps := true, fresh := none, rtys := [.bool] }
def con4 (F : Nat) : Contract := mkCon sg4 fun x => law09_NumbersReads F x.1 x.2.1 x.2.2.1 x.2.2.2.1
def cx4 (F : Nat) : Cx := { types := tys, call := callsL [(23, con23 F), (22, con22 F), (25, con25 F), (28, con28 F), (29, con29 F), (30, con30 F), (31, con31 F), (32, con32 F), (27, con27 F), (33, con33 F), (34, con34w F)], own := [21, 26, 56, 76, 83], ntmps := (0, 127) }
theorem cs4 (F : Nat) : ∀ f c, (cx4 F).call f = some c → CMet Try.prog f c := callsL_sound (calls_cons (s23 F) (calls_cons (s22 F) (calls_cons (s25 F) (calls_cons (s28 F) (calls_cons (s29 F) (calls_cons (s30 F) (calls_cons (s31 F) (calls_cons (s32 F) (calls_cons (s27 F) (calls_cons (s33 F) (calls_cons (s34w F) calls_nil)))))))))))
def sh4l6 : Shape := [(0, .d (.slice (.int .u8))), (1, .d (.int .i64)), (2, .d (.int .i64)), (9, .box 9 (.pair (.slice (.int .i64)) (.pair (.int .i64) .unit))), (10, .d (.slice (.int .u64))), (11, .own 11 (.int .u8) 5), (13, .d (.slice (.int .u8))), (14, .d (.int .i64))]
def sh4l6o0 : Shape := [(0, .d (.slice (.int .u8))), (1, .d (.int .i64)), (2, .d (.int .i64)), (9, .box 9 (.pair (.slice (.int .i64)) (.pair (.int .i64) .unit))), (10, .d (.slice (.int .u64))), (11, .own 11 (.int .u8) 5), (13, .d (.slice (.int .u8)))]
def outs4l6 : Outs := [(2, sh4l6o0)]
def m4l6 (F : Nat) (n : Nat) {R : Type} (x : Shape.den sh4l6) (K : Ex → St → Option R) : Option R := law09_NumbersReads_l6 F (fun y0 y1 y2 y9 y10 y11 y13 => K (.exit 0) (enc sh4l6o0 (y0, y1, y2, y9, y10, y11, y13, ()))) n x.1 x.2.1 x.2.2.1 x.2.2.2.1 x.2.2.2.2.1 x.2.2.2.2.2.1 x.2.2.2.2.2.2.1 x.2.2.2.2.2.2.2.1
def hs4 (F : Nat) : Nat → Option (Hint (Dens sg4.rtys)) := hintL [(6, { sh := sh4l6, model := m4l6 F F })]
theorem ok4l6 (F : Nat) (fr : Frm) (hn : (cx4 F).ntmps = fr.n) (n : Nat) : MSound (R := (Dens sg4.rtys)) Try.prog fr (.loop (sub (bodyOf Try.f4) [1, 1, 1, 1, 1, 0, 1, 0, 0])) sh4l6 (m4l6 F n) :=
  loop_sound (cx := cx4 F) (hs := hs4 F) (js := hintL []) (outs := outs4l6) (conf_all _ rfl) (cs4 F) hn mix (m := fun n => m4l6 F n) (fun _ _ => rfl) (fun n x K => by kernel_rfl) (hok_of (l := []) (by kernel_rfl) obl_nil) n
theorem s4 (F : Nat) : CSound Try.prog 4 (con4 F) :=
  fn_sound (fn := Try.f4) (code := (bodyOf Try.f4)) (cx := cx4 F) (hs := hs4 F) (js := hintL []) Try.func4 (by kernel_rfl) (by kernel_rfl) (conf_all _ rfl) (cs4 F) mix (by kernel_rfl) (by kernel_rfl) (fun fr hn => (hok_of (l := [((.loop (sub (bodyOf Try.f4) [1, 1, 1, 1, 1, 0, 1, 0, 0])), { sh := sh4l6, model := m4l6 F F })]) (by kernel_rfl) (obl_cons (ok4l6 F fr hn F) obl_nil))) (fun x => by kernel_rfl)
def sg57 : Sig := { modes := [.bor], sh := [(0, .box 0 (.pair (.slice (.int .i64)) (.pair (.int .i64) .unit)))], keeps := false, fresh := some (0, 78), rtys := [(.pair (.slice (.int .i64)) (.pair (.int .i64) .unit)), (.slice (.pair (.int .i64) (.pair (.int .i64) .unit))), (.int .i64)] }
def con57 (F : Nat) : Contract := mkCon sg57 fun x => law17_list F x.1
def cx57 (F : Nat) : Cx := { types := tys, call := callsL [(49, con49 F), (30, con30 F)], own := [2, 4], ntmps := (1, 34) }
theorem cs57 (F : Nat) : ∀ f c, (cx57 F).call f = some c → CMet Try.prog f c := callsL_sound (calls_cons (s49 F) (calls_cons (s30 F) calls_nil))
def sh57l5 : Shape := [(0, .box 0 (.pair (.slice (.int .i64)) (.pair (.int .i64) .unit))), (4, .own 4 (.pair (.int .i64) (.pair (.int .i64) .unit)) 78), (5, .d (.int .i64)), (6, .d (.slice (.int .i64))), (7, .d (.int .i64))]
def sh57l5o0 : Shape := [(0, .box 0 (.pair (.slice (.int .i64)) (.pair (.int .i64) .unit))), (4, .own 4 (.pair (.int .i64) (.pair (.int .i64) .unit)) 78), (5, .d (.int .i64))]
def outs57l5 : Outs := [(2, sh57l5o0)]
def m57l5 (F : Nat) (n : Nat) {R : Type} (x : Shape.den sh57l5) (K : Ex → St → Option R) : Option R := law17_list_l5 F (fun y0 y4 y5 => K (.exit 0) (enc sh57l5o0 (y0, y4, y5, ()))) n x.1 x.2.1 x.2.2.1 x.2.2.2.1 x.2.2.2.2.1
def hs57 (F : Nat) : Nat → Option (Hint (Dens sg57.rtys)) := hintL [(5, { sh := sh57l5, model := m57l5 F F })]
theorem ok57l5 (F : Nat) (fr : Frm) (hn : (cx57 F).ntmps = fr.n) (n : Nat) : MSound (R := (Dens sg57.rtys)) Try.prog fr (.loop (sub (bodyOf Try.f57) [1, 1, 1, 1, 0, 1, 0, 0])) sh57l5 (m57l5 F n) :=
  loop_sound (cx := cx57 F) (hs := hs57 F) (js := hintL []) (outs := outs57l5) (conf_all _ rfl) (cs57 F) hn mix (m := fun n => m57l5 F n) (fun _ _ => rfl) (fun n x K => by kernel_rfl) (hok_of (l := []) (by kernel_rfl) obl_nil) n
theorem s57 (F : Nat) : CSound Try.prog 57 (con57 F) :=
  fn_sound (fn := Try.f57) (code := (bodyOf Try.f57)) (cx := cx57 F) (hs := hs57 F) (js := hintL []) Try.func57 (by kernel_rfl) (by kernel_rfl) (conf_all _ rfl) (cs57 F) mix (by kernel_rfl) (by kernel_rfl) (fun fr hn => (hok_of (l := [((.loop (sub (bodyOf Try.f57) [1, 1, 1, 1, 0, 1, 0, 0])), { sh := sh57l5, model := m57l5 F F })]) (by kernel_rfl) (obl_cons (ok57l5 F fr hn F) obl_nil))) (fun x => by kernel_rfl)
def sg88 : Sig := { modes := [.ro, .ro], sh := [(0, .d (.slice (.int .i64))), (1, .d (.int .i64))], keeps := true, fresh := none, rtys := [(.int .i64)] }
def con88 (F : Nat) : Contract := mkCon sg88 fun x => records_Sum F x.1 x.2.1
def cx88 (F : Nat) : Cx := { types := tys, call := callsL [], own := [], ntmps := (0, 30) }
theorem cs88 (F : Nat) : ∀ f c, (cx88 F).call f = some c → CMet Try.prog f c := callsL_sound calls_nil
def sh88l3 : Shape := [(1, .d (.int .i64)), (5, .d (.int .i64)), (8, .d (.slice (.int .i64))), (9, .d (.int .i64)), (10, .d (.int .i64))]
def sh88l3o0 : Shape := [(5, .d (.int .i64))]
def sh88l3oret : Shape := [(4, .d (.int .i64))]
def outs88l3 : Outs := [(2, sh88l3o0), (1, sh88l3oret)]
def m88l3 (F : Nat) (n : Nat) {R : Type} (x : Shape.den sh88l3) (K : Ex → St → Option R) : Option R := records_Sum_l3 F (fun y5 => K (.exit 0) (enc sh88l3o0 (y5, ()))) (fun y4 => K .ret (enc sh88l3oret (y4, ()))) n x.1 x.2.1 x.2.2.1 x.2.2.2.1 x.2.2.2.2.1
def hs88 (F : Nat) : Nat → Option (Hint (Dens sg88.rtys)) := hintL [(3, { sh := sh88l3, model := m88l3 F F })]
theorem ok88l3 (F : Nat) (fr : Frm) (hn : (cx88 F).ntmps = fr.n) (n : Nat) : MSound (R := (Dens sg88.rtys)) Try.prog fr (.loop (sub (bodyOf Try.f88) [1, 1, 0, 1, 0, 0])) sh88l3 (m88l3 F n) :=
  loop_sound (cx := cx88 F) (hs := hs88 F) (js := hintL []) (outs := outs88l3) (conf_all _ rfl) (cs88 F) hn mix (m := fun n => m88l3 F n) (fun _ _ => rfl) (fun n x K => by kernel_rfl) (hok_of (l := []) (by kernel_rfl) obl_nil) n
theorem s88 (F : Nat) : CSound Try.prog 88 (con88 F) :=
  fn_sound (fn := Try.f88) (code := (bodyOf Try.f88)) (cx := cx88 F) (hs := hs88 F) (js := hintL []) Try.func88 (by kernel_rfl) (by kernel_rfl) (conf_all _ rfl) (cs88 F) mix (by kernel_rfl) (by kernel_rfl) (fun fr hn => (hok_of (l := [((.loop (sub (bodyOf Try.f88) [1, 1, 0, 1, 0, 0])), { sh := sh88l3, model := m88l3 F F })]) (by kernel_rfl) (obl_cons (ok88l3 F fr hn F) obl_nil))) (fun x => by kernel_rfl)
def sg89 : Sig := { modes := [.con 5, .ro], sh := [(0, .own 0 (.int .u8) 5), (1, .d (.slice (.int .i64)))], keeps := false, fresh := some (0, 5), rtys := [(.slice (.int .u8)), (.int .i64)] }
def con89 (F : Nat) : Contract := mkCon sg89 fun x => records_AppendCounts F x.1 x.2.1
def cx89 (F : Nat) : Cx := { types := tys, call := callsL [(24, con24 F)], own := [4, 13], ntmps := (0, 39) }
theorem cs89 (F : Nat) : ∀ f c, (cx89 F).call f = some c → CMet Try.prog f c := callsL_sound (calls_cons (s24 F) calls_nil)
def sh89l3 : Shape := [(0, .own 0 (.int .u8) 5), (6, .own 6 (.int .u64) 36), (14, .d (.slice (.int .i64))), (15, .d (.int .i64)), (16, .d (.int .i64))]
def sh89l3o0 : Shape := [(0, .own 0 (.int .u8) 5), (6, .own 6 (.int .u64) 36)]
def outs89l3 : Outs := [(2, sh89l3o0)]
def m89l3 (F : Nat) (n : Nat) {R : Type} (x : Shape.den sh89l3) (K : Ex → St → Option R) : Option R := records_AppendCounts_l3 F (fun y0 y6 => K (.exit 0) (enc sh89l3o0 (y0, y6, ()))) n x.1 x.2.1 x.2.2.1 x.2.2.2.1 x.2.2.2.2.1
def hs89 (F : Nat) : Nat → Option (Hint (Dens sg89.rtys)) := hintL [(3, { sh := sh89l3, model := m89l3 F F })]
theorem ok89l3 (F : Nat) (fr : Frm) (hn : (cx89 F).ntmps = fr.n) (n : Nat) : MSound (R := (Dens sg89.rtys)) Try.prog fr (.loop (sub (bodyOf Try.f89) [1, 1, 0, 1, 0, 0])) sh89l3 (m89l3 F n) :=
  loop_sound (cx := cx89 F) (hs := hs89 F) (js := hintL []) (outs := outs89l3) (conf_all _ rfl) (cs89 F) hn mix (m := fun n => m89l3 F n) (fun _ _ => rfl) (fun n x K => by kernel_rfl) (hok_of (l := []) (by kernel_rfl) obl_nil) n
theorem s89 (F : Nat) : CSound Try.prog 89 (con89 F) :=
  fn_sound (fn := Try.f89) (code := (bodyOf Try.f89)) (cx := cx89 F) (hs := hs89 F) (js := hintL []) Try.func89 (by kernel_rfl) (by kernel_rfl) (conf_all _ rfl) (cs89 F) mix (by kernel_rfl) (by kernel_rfl) (fun fr hn => (hok_of (l := [((.loop (sub (bodyOf Try.f89) [1, 1, 0, 1, 0, 0])), { sh := sh89l3, model := m89l3 F F })]) (by kernel_rfl) (obl_cons (ok89l3 F fr hn F) obl_nil))) (fun x => by kernel_rfl)
def sg58 : Sig := { modes := [.ro], sh := [(0, .d (.slice (.pair (.int .i64) (.pair (.int .i64) .unit))))], keeps := false, fresh := some (0, 5), rtys := [(.slice (.int .u8)), (.int .i64)] }
def con58 (F : Nat) : Contract := mkCon sg58 fun x => constants_Encode F x.1
def cx58 (F : Nat) : Cx := { types := tys, call := callsL [(88, con88 F), (69, con69 F), (89, con89 F), (50, con50 F)], own := [2, 4, 5, 38, 40], ntmps := (0, 57) }
theorem cs58 (F : Nat) : ∀ f c, (cx58 F).call f = some c → CMet Try.prog f c := callsL_sound (calls_cons (s88 F) (calls_cons (s69 F) (calls_cons (s89 F) (calls_cons (s50 F) calls_nil))))
def sh58l6 : Shape := [(0, .d (.slice (.pair (.int .i64) (.pair (.int .i64) .unit)))), (4, .own 4 (.int .i64) 3), (5, .own 5 (.int .i64) 2), (14, .d (.slice (.pair (.int .i64) (.pair (.int .i64) .unit)))), (15, .d (.int .i64)), (16, .d (.int .i64))]
def sh58l6o0 : Shape := [(0, .d (.slice (.pair (.int .i64) (.pair (.int .i64) .unit)))), (4, .own 4 (.int .i64) 3), (5, .own 5 (.int .i64) 2)]
def outs58l6 : Outs := [(2, sh58l6o0)]
def m58l6 (F : Nat) (n : Nat) {R : Type} (x : Shape.den sh58l6) (K : Ex → St → Option R) : Option R := constants_Encode_l6 F (fun y0 y4 y5 => K (.exit 0) (enc sh58l6o0 (y0, y4, y5, ()))) n x.1 x.2.1 x.2.2.1 x.2.2.2.1 x.2.2.2.2.1 x.2.2.2.2.2.1
def hs58 (F : Nat) : Nat → Option (Hint (Dens sg58.rtys)) := hintL [(6, { sh := sh58l6, model := m58l6 F F })]
theorem ok58l6 (F : Nat) (fr : Frm) (hn : (cx58 F).ntmps = fr.n) (n : Nat) : MSound (R := (Dens sg58.rtys)) Try.prog fr (.loop (sub (bodyOf Try.f58) [1, 1, 1, 1, 0, 1, 0, 0])) sh58l6 (m58l6 F n) :=
  loop_sound (cx := cx58 F) (hs := hs58 F) (js := hintL []) (outs := outs58l6) (conf_all _ rfl) (cs58 F) hn mix (m := fun n => m58l6 F n) (fun _ _ => rfl) (fun n x K => by kernel_rfl) (hok_of (l := []) (by kernel_rfl) obl_nil) n
theorem s58 (F : Nat) : CSound Try.prog 58 (con58 F) :=
  fn_sound (fn := Try.f58) (code := (bodyOf Try.f58)) (cx := cx58 F) (hs := hs58 F) (js := hintL []) Try.func58 (by kernel_rfl) (by kernel_rfl) (conf_all _ rfl) (cs58 F) mix (by kernel_rfl) (by kernel_rfl) (fun fr hn => (hok_of (l := [((.loop (sub (bodyOf Try.f58) [1, 1, 1, 1, 0, 1, 0, 0])), { sh := sh58l6, model := m58l6 F F })]) (by kernel_rfl) (obl_cons (ok58l6 F fr hn F) obl_nil))) (fun x => by kernel_rfl)
def sg94 : Sig := { modes := [.ro, .ro, .ro], sh := [(0, .d (.slice (.int .u8))), (1, .d (.int .i64)), (2, .d (.int .i64))], keeps := true, fresh := none, rtys := [.bool] }
def con94 (F : Nat) : Contract := mkCon sg94 fun x => records_Placed F x.1 x.2.1 x.2.2.1
def cx94 (F : Nat) : Cx := { types := tys, call := callsL [], own := [], ntmps := (0, 23) }
theorem cs94 (F : Nat) : ∀ f c, (cx94 F).call f = some c → CMet Try.prog f c := callsL_sound calls_nil
theorem s94 (F : Nat) : CSound Try.prog 94 (con94 F) :=
  fn_sound (fn := Try.f94) (code := (bodyOf Try.f94)) (cx := cx94 F) (hs := hintL []) (js := hintL []) Try.func94 (by kernel_rfl) (by kernel_rfl) (conf_all _ rfl) (cs94 F) mix (by kernel_rfl) (by kernel_rfl) (fun fr hn => (hok_of (l := []) (by kernel_rfl) obl_nil)) (fun x => by kernel_rfl)
def sg95 : Sig := { modes := [.ro, .ro, .ro], sh := [(0, .d (.slice (.int .u8))), (1, .d (.int .i64)), (2, .d (.int .i64))], keeps := true, fresh := none, rtys := [(.int .i64), (.int .i64), (.int .i64)] }
def con95 (F : Nat) : Contract := mkCon sg95 fun x => records_Number F x.1 x.2.1 x.2.2.1
def cx95 (F : Nat) : Cx := { types := tys, call := callsL [(103, con103 F)], own := [], ntmps := (0, 31) }
theorem cs95 (F : Nat) : ∀ f c, (cx95 F).call f = some c → CMet Try.prog f c := callsL_sound (calls_cons (s103 F) calls_nil)
theorem s95 (F : Nat) : CSound Try.prog 95 (con95 F) :=
  fn_sound (fn := Try.f95) (code := (bodyOf Try.f95)) (cx := cx95 F) (hs := hintL []) (js := hintL []) Try.func95 (by kernel_rfl) (by kernel_rfl) (conf_all _ rfl) (cs95 F) mix (by kernel_rfl) (by kernel_rfl) (fun fr hn => (hok_of (l := []) (by kernel_rfl) obl_nil)) (fun x => by kernel_rfl)
def sg96 : Sig := { modes := [.ro, .ro, .ro, .ro], sh := [(0, .d (.slice (.int .u8))), (1, .d (.int .i64)), (2, .d (.int .i64)), (3, .d (.int .i64))], keeps := false, fresh := some (0, 3), rtys := [(.slice (.int .i64)), (.int .i64), (.int .i64), (.int .i64)] }
def con96 (F : Nat) : Contract := mkCon sg96 fun x => records_Counts F x.1 x.2.1 x.2.2.1 x.2.2.2.1
def cx96 (F : Nat) : Cx := { types := tys, call := callsL [(35, con35 F)], own := [8, 31], ntmps := (0, 61) }
theorem cs96 (F : Nat) : ∀ f c, (cx96 F).call f = some c → CMet Try.prog f c := callsL_sound (calls_cons (s35 F) calls_nil)
def sh96l7 : Shape := [(3, .d (.int .i64)), (13, .d (.int .i64)), (15, .own 15 (.int .i64) 3), (16, .d (.int .i64)), (32, .d (.slice (.int .u64))), (33, .d (.int .i64)), (34, .d (.int .i64))]
def sh96l7o0 : Shape := [(13, .d (.int .i64)), (15, .own 15 (.int .i64) 3), (16, .d (.int .i64))]
def outs96l7 : Outs := [(2, sh96l7o0)]
def m96l7 (F : Nat) (n : Nat) {R : Type} (x : Shape.den sh96l7) (K : Ex → St → Option R) : Option R := records_Counts_l7 F (fun y13 y15 y16 => K (.exit 0) (enc sh96l7o0 (y13, y15, y16, ()))) n x.1 x.2.1 x.2.2.1 x.2.2.2.1 x.2.2.2.2.1 x.2.2.2.2.2.1 x.2.2.2.2.2.2.1
def hs96 (F : Nat) : Nat → Option (Hint (Dens sg96.rtys)) := hintL [(7, { sh := sh96l7, model := m96l7 F F })]
theorem ok96l7 (F : Nat) (fr : Frm) (hn : (cx96 F).ntmps = fr.n) (n : Nat) : MSound (R := (Dens sg96.rtys)) Try.prog fr (.loop (sub (bodyOf Try.f96) [1, 1, 1, 1, 1, 0, 1, 0, 0])) sh96l7 (m96l7 F n) :=
  loop_sound (cx := cx96 F) (hs := hs96 F) (js := hintL []) (outs := outs96l7) (conf_all _ rfl) (cs96 F) hn mix (m := fun n => m96l7 F n) (fun _ _ => rfl) (fun n x K => by kernel_rfl) (hok_of (l := []) (by kernel_rfl) obl_nil) n
theorem s96 (F : Nat) : CSound Try.prog 96 (con96 F) :=
  fn_sound (fn := Try.f96) (code := (bodyOf Try.f96)) (cx := cx96 F) (hs := hs96 F) (js := hintL []) Try.func96 (by kernel_rfl) (by kernel_rfl) (conf_all _ rfl) (cs96 F) mix (by kernel_rfl) (by kernel_rfl) (fun fr hn => (hok_of (l := [((.loop (sub (bodyOf Try.f96) [1, 1, 1, 1, 1, 0, 1, 0, 0])), { sh := sh96l7, model := m96l7 F F })]) (by kernel_rfl) (obl_cons (ok96l7 F fr hn F) obl_nil))) (fun x => by kernel_rfl)
def sg62 : Sig := { modes := [.ro, .ro, .ro], sh := [(0, .d (.slice (.int .u8))), (1, .d (.int .i64)), (2, .d (.int .i64))], keeps := false, fresh := some (0, 78), rtys := [(.slice (.pair (.int .i64) (.pair (.int .i64) .unit))), (.int .i64), (.int .i64)] }
def con62 (F : Nat) : Contract := mkCon sg62 fun x => constants_Decode F x.1 x.2.1 x.2.2.1
def cx62 (F : Nat) : Cx := { types := tys, call := callsL [(94, con94 F), (95, con95 F), (96, con96 F), (56, con56 F)], own := [6, 62], ntmps := (0, 83) }
theorem cs62 (F : Nat) : ∀ f c, (cx62 F).call f = some c → CMet Try.prog f c := callsL_sound (calls_cons (s94 F) (calls_cons (s95 F) (calls_cons (s96 F) (calls_cons (s56 F) calls_nil))))
def sh62l16 : Shape := [(1, .d (.int .i64)), (11, .d (.slice (.int .i64))), (13, .d (.slice (.int .i64))), (14, .own 14 (.pair (.int .i64) (.pair (.int .i64) .unit)) 78), (64, .d (.int .i64)), (65, .d (.int .i64))]
def sh62l16o1 : Shape := [(1, .d (.int .i64)), (14, .own 14 (.pair (.int .i64) (.pair (.int .i64) .unit)) 78)]
def outs62l16 : Outs := [(3, sh62l16o1)]
def m62l16 (F : Nat) (n : Nat) {R : Type} (x : Shape.den sh62l16) (K : Ex → St → Option R) : Option R := constants_Decode_l16 F (fun y1 y14 => K (.exit 1) (enc sh62l16o1 (y1, y14, ()))) n x.1 x.2.1 x.2.2.1 x.2.2.2.1 x.2.2.2.2.1 x.2.2.2.2.2.1
def hs62 (F : Nat) : Nat → Option (Hint (Dens sg62.rtys)) := hintL [(16, { sh := sh62l16, model := m62l16 F F })]
theorem ok62l16 (F : Nat) (fr : Frm) (hn : (cx62 F).ntmps = fr.n) (n : Nat) : MSound (R := (Dens sg62.rtys)) Try.prog fr (.loop (sub (bodyOf Try.f62) [1, 1, 1, 1, 1, 1, 1, 1, 1, 0, 1, 0, 0])) sh62l16 (m62l16 F n) :=
  loop_sound (cx := cx62 F) (hs := hs62 F) (js := hintL []) (outs := outs62l16) (conf_all _ rfl) (cs62 F) hn mix (m := fun n => m62l16 F n) (fun _ _ => rfl) (fun n x K => by kernel_rfl) (hok_of (l := []) (by kernel_rfl) obl_nil) n
theorem s62 (F : Nat) : CSound Try.prog 62 (con62 F) :=
  fn_sound (fn := Try.f62) (code := (bodyOf Try.f62)) (cx := cx62 F) (hs := hs62 F) (js := hintL []) Try.func62 (by kernel_rfl) (by kernel_rfl) (conf_all _ rfl) (cs62 F) mix (by kernel_rfl) (by kernel_rfl) (fun fr hn => (hok_of (l := [((.loop (sub (bodyOf Try.f62) [1, 1, 1, 1, 1, 1, 1, 1, 1, 0, 1, 0, 0])), { sh := sh62l16, model := m62l16 F F })]) (by kernel_rfl) (obl_cons (ok62l16 F fr hn F) obl_nil))) (fun x => by kernel_rfl)
def sg60 : Sig := { modes := [], sh := [], keeps := true, fresh := none, rtys := [.bool] }
def con60 (F : Nat) : Contract := mkCon sg60 fun x => law17_known F 
def cx60 (F : Nat) : Cx := { types := tys, call := callsL [(58, con58 F), (62, con62 F), (26, con26 F)], own := [], ntmps := (0, 46) }
theorem cs60 (F : Nat) : ∀ f c, (cx60 F).call f = some c → CMet Try.prog f c := callsL_sound (calls_cons (s58 F) (calls_cons (s62 F) (calls_cons (s26 F) calls_nil)))
theorem s60 (F : Nat) : CSound Try.prog 60 (con60 F) :=
  fn_sound (fn := Try.f60) (code := (bodyOf Try.f60)) (cx := cx60 F) (hs := hintL []) (js := hintL []) Try.func60 (by kernel_rfl) (by kernel_rfl) (conf_all _ rfl) (cs60 F) mix (by kernel_rfl) (by kernel_rfl) (fun fr hn => (hok_of (l := []) (by kernel_rfl) obl_nil)) (fun x => by kernel_rfl)
def sg21 : Sig := { modes := [.ro, .ro, .ro], sh := [(0, .d (.slice (.int .u8))), (1, .d (.int .i64)), (2, .d (.slice (.int .i64)))], keeps := true, fresh := none, rtys := [.bool] }
def con21 (F : Nat) : Contract := mkCon sg21 fun x => law17_ConstantsCanonical F x.1 x.2.1 x.2.2.1
def cx21 (F : Nat) : Cx := { types := tys, call := callsL [(23, con23 F), (57, con57 F), (58, con58 F), (32, con32 F), (30, con30 F), (34, con34 F), (62, con62 F), (26, con26 F), (60, con60 F)], own := [24, 41], ntmps := (0, 124) }
theorem cs21 (F : Nat) : ∀ f c, (cx21 F).call f = some c → CMet Try.prog f c := callsL_sound (calls_cons (s23 F) (calls_cons (s57 F) (calls_cons (s58 F) (calls_cons (s32 F) (calls_cons (s30 F) (calls_cons (s34 F) (calls_cons (s62 F) (calls_cons (s26 F) (calls_cons (s60 F) calls_nil)))))))))
def sh21l14 : Shape := [(13, .d (.slice (.slice (.int .u8)))), (14, .d (.slice (.int .i64))), (15, .d (.int .i64)), (16, .d (.slice (.pair (.int .i64) (.pair (.int .i64) .unit)))), (17, .d (.int .i64)), (19, .d (.int .i64)), (20, .d (.int .i64))]
def sh21l14o2 : Shape := [(13, .d (.slice (.slice (.int .u8)))), (14, .d (.slice (.int .i64))), (15, .d (.int .i64)), (16, .d (.slice (.pair (.int .i64) (.pair (.int .i64) .unit)))), (17, .d (.int .i64)), (19, .d (.int .i64))]
def outs21l14 : Outs := [(4, sh21l14o2)]
def m21l14 (F : Nat) (n : Nat) {R : Type} (x : Shape.den sh21l14) (K : Ex → St → Option R) : Option R := law17_ConstantsCanonical_l14 F (fun y13 y14 y15 y16 y17 y19 => K (.exit 2) (enc sh21l14o2 (y13, y14, y15, y16, y17, y19, ()))) n x.1 x.2.1 x.2.2.1 x.2.2.2.1 x.2.2.2.2.1 x.2.2.2.2.2.1 x.2.2.2.2.2.2.1
def sh21l8 : Shape := [(13, .d (.slice (.slice (.int .u8)))), (14, .d (.slice (.int .i64))), (15, .d (.int .i64))]
def sh21l8o0 : Shape := []
def sh21l8oret : Shape := [(6, .d .bool)]
def outs21l8 : Outs := [(2, sh21l8o0), (1, sh21l8oret)]
def m21l8 (F : Nat) (n : Nat) {R : Type} (x : Shape.den sh21l8) (K : Ex → St → Option R) : Option R := law17_ConstantsCanonical_l8 F (K (.exit 0) (enc sh21l8o0 (()))) (fun y6 => K .ret (enc sh21l8oret (y6, ()))) n x.1 x.2.1 x.2.2.1
def hs21 (F : Nat) : Nat → Option (Hint (Dens sg21.rtys)) := hintL [(14, { sh := sh21l14, model := m21l14 F F }), (8, { sh := sh21l8, model := m21l8 F F })]
theorem ok21l14 (F : Nat) (fr : Frm) (hn : (cx21 F).ntmps = fr.n) (n : Nat) : MSound (R := (Dens sg21.rtys)) Try.prog fr (.loop (sub (bodyOf Try.f21) [1, 1, 1, 1, 1, 1, 1, 0, 1, 0, 0, 1, 0, 0, 1, 1, 1, 0, 1, 0, 0])) sh21l14 (m21l14 F n) :=
  loop_sound (cx := cx21 F) (hs := hs21 F) (js := hintL []) (outs := outs21l14) (conf_all _ rfl) (cs21 F) hn mix (m := fun n => m21l14 F n) (fun _ _ => rfl) (fun n x K => by kernel_rfl) (hok_of (l := []) (by kernel_rfl) obl_nil) n
theorem ok21l8 (F : Nat) (fr : Frm) (hn : (cx21 F).ntmps = fr.n) (n : Nat) : MSound (R := (Dens sg21.rtys)) Try.prog fr (.loop (sub (bodyOf Try.f21) [1, 1, 1, 1, 1, 1, 1, 0, 1, 0, 0])) sh21l8 (m21l8 F n) :=
  loop_sound (cx := cx21 F) (hs := hs21 F) (js := hintL []) (outs := outs21l8) (conf_all _ rfl) (cs21 F) hn mix (m := fun n => m21l8 F n) (fun _ _ => rfl) (fun n x K => by kernel_rfl) (hok_of (l := [((.loop (sub (bodyOf Try.f21) [1, 1, 1, 1, 1, 1, 1, 0, 1, 0, 0, 1, 0, 0, 1, 1, 1, 0, 1, 0, 0])), { sh := sh21l14, model := m21l14 F F })]) (by kernel_rfl) (obl_cons (ok21l14 F fr hn F) obl_nil)) n
theorem s21 (F : Nat) : CSound Try.prog 21 (con21 F) :=
  fn_sound (fn := Try.f21) (code := (bodyOf Try.f21)) (cx := cx21 F) (hs := hs21 F) (js := hintL []) Try.func21 (by kernel_rfl) (by kernel_rfl) (conf_all _ rfl) (cs21 F) mix (by kernel_rfl) (by kernel_rfl) (fun fr hn => (hok_of (l := [((.loop (sub (bodyOf Try.f21) [1, 1, 1, 1, 1, 1, 1, 0, 1, 0, 0])), { sh := sh21l8, model := m21l8 F F })]) (by kernel_rfl) (obl_cons (ok21l8 F fr hn F) obl_nil))) (fun x => by kernel_rfl)
def sg42 : Sig := { modes := [.ro], sh := [(0, .d (.slice (.int .i64)))], keeps := true, fresh := none, rtys := [.bool] }
def con42 (F : Nat) : Contract := mkCon sg42 fun x => stamps_Increasing F x.1
def cx42 (F : Nat) : Cx := { types := tys, call := callsL [], own := [], ntmps := (0, 20) }
theorem cs42 (F : Nat) : ∀ f c, (cx42 F).call f = some c → CMet Try.prog f c := callsL_sound calls_nil
def sh42l2 : Shape := [(0, .d (.slice (.int .i64))), (3, .d (.int .i64))]
def sh42l2o0 : Shape := []
def sh42l2oret : Shape := [(2, .d .bool)]
def outs42l2 : Outs := [(2, sh42l2o0), (1, sh42l2oret)]
def m42l2 (F : Nat) (n : Nat) {R : Type} (x : Shape.den sh42l2) (K : Ex → St → Option R) : Option R := stamps_Increasing_l2 F (K (.exit 0) (enc sh42l2o0 (()))) (fun y2 => K .ret (enc sh42l2oret (y2, ()))) n x.1 x.2.1
def hs42 (F : Nat) : Nat → Option (Hint (Dens sg42.rtys)) := hintL [(2, { sh := sh42l2, model := m42l2 F F })]
theorem ok42l2 (F : Nat) (fr : Frm) (hn : (cx42 F).ntmps = fr.n) (n : Nat) : MSound (R := (Dens sg42.rtys)) Try.prog fr (.loop (sub (bodyOf Try.f42) [1, 0, 1, 0, 0])) sh42l2 (m42l2 F n) :=
  loop_sound (cx := cx42 F) (hs := hs42 F) (js := hintL []) (outs := outs42l2) (conf_all _ rfl) (cs42 F) hn mix (m := fun n => m42l2 F n) (fun _ _ => rfl) (fun n x K => by kernel_rfl) (hok_of (l := []) (by kernel_rfl) obl_nil) n
theorem s42 (F : Nat) : CSound Try.prog 42 (con42 F) :=
  fn_sound (fn := Try.f42) (code := (bodyOf Try.f42)) (cx := cx42 F) (hs := hs42 F) (js := hintL []) Try.func42 (by kernel_rfl) (by kernel_rfl) (conf_all _ rfl) (cs42 F) mix (by kernel_rfl) (by kernel_rfl) (fun fr hn => (hok_of (l := [((.loop (sub (bodyOf Try.f42) [1, 0, 1, 0, 0])), { sh := sh42l2, model := m42l2 F F })]) (by kernel_rfl) (obl_cons (ok42l2 F fr hn F) obl_nil))) (fun x => by kernel_rfl)
def sg74 : Sig := { modes := [.ro, .ro], sh := [(0, .d (.int .i64)), (1, .d (.int .i64))], keeps := true, fresh := none, rtys := [(.int .u64)] }
def con74 (F : Nat) : Contract := mkCon sg74 fun x => checked_Distance F x.1 x.2.1
def cx74 (F : Nat) : Cx := { types := tys, call := callsL [], own := [], ntmps := (0, 14) }
theorem cs74 (F : Nat) : ∀ f c, (cx74 F).call f = some c → CMet Try.prog f c := callsL_sound calls_nil
theorem s74 (F : Nat) : CSound Try.prog 74 (con74 F) :=
  fn_sound (fn := Try.f74) (code := (bodyOf Try.f74)) (cx := cx74 F) (hs := hintL []) (js := hintL []) Try.func74 (by kernel_rfl) (by kernel_rfl) (conf_all _ rfl) (cs74 F) mix (by kernel_rfl) (by kernel_rfl) (fun fr hn => (hok_of (l := []) (by kernel_rfl) obl_nil)) (fun x => by kernel_rfl)
def sg40 : Sig := { modes := [.ro], sh := [(0, .d (.slice (.int .i64)))], keeps := false, fresh := some (0, 5), rtys := [(.slice (.int .u8)), (.int .i64)] }
def con40 (F : Nat) : Contract := mkCon sg40 fun x => stamps_Encode F x.1
def cx40 (F : Nat) : Cx := { types := tys, call := callsL [(42, con42 F), (74, con74 F), (75, con75 F), (24, con24 F)], own := [2, 4, 49], ntmps := (0, 52) }
theorem cs40 (F : Nat) : ∀ f c, (cx40 F).call f = some c → CMet Try.prog f c := callsL_sound (calls_cons (s42 F) (calls_cons (s74 F) (calls_cons (s75 F) (calls_cons (s24 F) calls_nil))))
def sh40l8 : Shape := [(0, .d (.slice (.int .i64))), (4, .own 4 (.int .u64) 36), (5, .d (.int .u64)), (6, .d (.int .i64))]
def sh40l8o1 : Shape := [(4, .own 4 (.int .u64) 36)]
def outs40l8 : Outs := [(3, sh40l8o1)]
def m40l8 (F : Nat) (n : Nat) {R : Type} (x : Shape.den sh40l8) (K : Ex → St → Option R) : Option R := stamps_Encode_l8 F (fun y4 => K (.exit 1) (enc sh40l8o1 (y4, ()))) n x.1 x.2.1 x.2.2.1 x.2.2.2.1
def hs40 (F : Nat) : Nat → Option (Hint (Dens sg40.rtys)) := hintL [(8, { sh := sh40l8, model := m40l8 F F })]
theorem ok40l8 (F : Nat) (fr : Frm) (hn : (cx40 F).ntmps = fr.n) (n : Nat) : MSound (R := (Dens sg40.rtys)) Try.prog fr (.loop (sub (bodyOf Try.f40) [1, 1, 1, 1, 0, 1, 0, 0])) sh40l8 (m40l8 F n) :=
  loop_sound (cx := cx40 F) (hs := hs40 F) (js := hintL []) (outs := outs40l8) (conf_all _ rfl) (cs40 F) hn mix (m := fun n => m40l8 F n) (fun _ _ => rfl) (fun n x K => by kernel_rfl) (hok_of (l := []) (by kernel_rfl) obl_nil) n
theorem s40 (F : Nat) : CSound Try.prog 40 (con40 F) :=
  fn_sound (fn := Try.f40) (code := (bodyOf Try.f40)) (cx := cx40 F) (hs := hs40 F) (js := hintL []) Try.func40 (by kernel_rfl) (by kernel_rfl) (conf_all _ rfl) (cs40 F) mix (by kernel_rfl) (by kernel_rfl) (fun fr hn => (hok_of (l := [((.loop (sub (bodyOf Try.f40) [1, 1, 1, 1, 0, 1, 0, 0])), { sh := sh40l8, model := m40l8 F F })]) (by kernel_rfl) (obl_cons (ok40l8 F fr hn F) obl_nil))) (fun x => by kernel_rfl)
def sg47 : Sig := { modes := [.ro, .ro, .ro, .ro], sh := [(0, .d (.slice (.int .u8))), (1, .d (.int .i64)), (2, .d (.int .i64)), (3, .d (.int .i64))], keeps := false, fresh := some (0, 2), rtys := [(.slice (.int .i64)), (.int .i64), (.int .i64)] }
def con47 (F : Nat) : Contract := mkCon sg47 fun x => stamps_Decode F x.1 x.2.1 x.2.2.1 x.2.2.2.1
def cx47 (F : Nat) : Cx := { types := tys, call := callsL [(35, con35 F), (74, con74 F), (80, con80 F), (79, con79 F)], own := [8, 48], ntmps := (0, 86) }
theorem cs47 (F : Nat) : ∀ f c, (cx47 F).call f = some c → CMet Try.prog f c := callsL_sound (calls_cons (s35 F) (calls_cons (s74 F) (calls_cons (s80 F) (calls_cons (s79 F) calls_nil))))
def sh47j14 : Shape := [(12, .d (.int .i64)), (14, .own 14 (.int .i64) 2), (15, .d (.int .u64)), (16, .d (.int .i64)), (49, .d (.slice (.int .u64))), (50, .d (.int .i64)), (51, .d (.int .i64))]
def sh47j14on : Shape := [(12, .d (.int .i64)), (14, .own 14 (.int .i64) 2), (15, .d (.int .u64)), (49, .d (.slice (.int .u64))), (50, .d (.int .i64)), (51, .d (.int .i64))]
def sh47j14oret : Shape := [(8, .own 8 (.int .i64) 2), (9, .d (.int .i64)), (10, .d (.int .i64))]
def outs47j14 : Outs := [(0, sh47j14on), (1, sh47j14oret)]
def m47j14 (F : Nat) {R : Type} (x : Shape.den sh47j14) (K : Ex → St → Option R) : Option R := stamps_Decode_j14 F (fun y12 y14 y15 y49 y50 y51 => K .normal (enc sh47j14on (y12, y14, y15, y49, y50, y51, ()))) (fun y8 y9 y10 => K .ret (enc sh47j14oret (y8, y9, y10, ()))) x.1 x.2.1 x.2.2.1 x.2.2.2.1 x.2.2.2.2.1 x.2.2.2.2.2.1 x.2.2.2.2.2.2.1
def sh47l9 : Shape := [(12, .d (.int .i64)), (14, .own 14 (.int .i64) 2), (15, .d (.int .u64)), (49, .d (.slice (.int .u64))), (50, .d (.int .i64)), (51, .d (.int .i64))]
def sh47l9o0 : Shape := [(12, .d (.int .i64)), (14, .own 14 (.int .i64) 2)]
def sh47l9oret : Shape := [(8, .own 8 (.int .i64) 2), (9, .d (.int .i64)), (10, .d (.int .i64))]
def outs47l9 : Outs := [(2, sh47l9o0), (1, sh47l9oret)]
def m47l9 (F : Nat) (n : Nat) {R : Type} (x : Shape.den sh47l9) (K : Ex → St → Option R) : Option R := stamps_Decode_l9 F (fun y12 y14 => K (.exit 0) (enc sh47l9o0 (y12, y14, ()))) (fun y8 y9 y10 => K .ret (enc sh47l9oret (y8, y9, y10, ()))) n x.1 x.2.1 x.2.2.1 x.2.2.2.1 x.2.2.2.2.1 x.2.2.2.2.2.1
def hs47 (F : Nat) : Nat → Option (Hint (Dens sg47.rtys)) := hintL [(9, { sh := sh47l9, model := m47l9 F F })]
def js47 (F : Nat) : Nat → Option (Hint (Dens sg47.rtys)) := hintL [(14, { sh := sh47j14, model := m47j14 F })]
theorem ok47j14 (F : Nat) (fr : Frm) (hn : (cx47 F).ntmps = fr.n) : MSound (R := (Dens sg47.rtys)) Try.prog fr (sub (bodyOf Try.f47) [1, 1, 1, 1, 1, 1, 0, 1, 0, 0, 1, 1, 0, 0, 1, 1]) sh47j14 (m47j14 F) :=
  join_sound (cx := cx47 F) (hs := hs47 F) (js := js47 F) (outs := outs47j14) (conf_all _ rfl) (cs47 F) hn mix (fun x K => by kernel_rfl) (hok_of (l := []) (by kernel_rfl) obl_nil)
theorem ok47l9 (F : Nat) (fr : Frm) (hn : (cx47 F).ntmps = fr.n) (n : Nat) : MSound (R := (Dens sg47.rtys)) Try.prog fr (.loop (sub (bodyOf Try.f47) [1, 1, 1, 1, 1, 1, 0, 1, 0, 0])) sh47l9 (m47l9 F n) :=
  loop_sound (cx := cx47 F) (hs := hs47 F) (js := js47 F) (outs := outs47l9) (conf_all _ rfl) (cs47 F) hn mix (m := fun n => m47l9 F n) (fun _ _ => rfl) (fun n x K => by kernel_rfl) (hok_of (l := [((sub (bodyOf Try.f47) [1, 1, 1, 1, 1, 1, 0, 1, 0, 0, 1, 1, 0, 0, 1, 1]), { sh := sh47j14, model := m47j14 F })]) (by kernel_rfl) (obl_cons (ok47j14 F fr hn) obl_nil)) n
theorem s47 (F : Nat) : CSound Try.prog 47 (con47 F) :=
  fn_sound (fn := Try.f47) (code := (bodyOf Try.f47)) (cx := cx47 F) (hs := hs47 F) (js := js47 F) Try.func47 (by kernel_rfl) (by kernel_rfl) (conf_all _ rfl) (cs47 F) mix (by kernel_rfl) (by kernel_rfl) (fun fr hn => (hok_of (l := [((.loop (sub (bodyOf Try.f47) [1, 1, 1, 1, 1, 1, 0, 1, 0, 0])), { sh := sh47l9, model := m47l9 F F })]) (by kernel_rfl) (obl_cons (ok47l9 F fr hn F) obl_nil))) (fun x => by kernel_rfl)
def sg44 : Sig := { modes := [], sh := [], keeps := true, fresh := none, rtys := [.bool] }
def con44 (F : Nat) : Contract := mkCon sg44 fun x => law10_known F 
def cx44 (F : Nat) : Cx := { types := tys, call := callsL [(40, con40 F), (47, con47 F), (26, con26 F), (48, con48 F)], own := [], ntmps := (0, 37) }
theorem cs44 (F : Nat) : ∀ f c, (cx44 F).call f = some c → CMet Try.prog f c := callsL_sound (calls_cons (s40 F) (calls_cons (s47 F) (calls_cons (s26 F) (calls_cons (s48 F) calls_nil))))
theorem s44 (F : Nat) : CSound Try.prog 44 (con44 F) :=
  fn_sound (fn := Try.f44) (code := (bodyOf Try.f44)) (cx := cx44 F) (hs := hintL []) (js := hintL []) Try.func44 (by kernel_rfl) (by kernel_rfl) (conf_all _ rfl) (cs44 F) mix (by kernel_rfl) (by kernel_rfl) (fun fr hn => (hok_of (l := []) (by kernel_rfl) obl_nil)) (fun x => by kernel_rfl)
def sg11 : Sig := { modes := [.ro, .ro, .ro, .ro], sh := [(0, .d (.slice (.int .u8))), (1, .d (.int .i64)), (2, .d (.int .i64)), (3, .d (.slice (.int .i64)))], keeps := true, fresh := none, rtys := [.bool] }
def con11 (F : Nat) : Contract := mkCon sg11 fun x => law10_StampsCanonical F x.1 x.2.1 x.2.2.1 x.2.2.2.1
def cx11 (F : Nat) : Cx := { types := tys, call := callsL [(23, con23 F), (39, con39 F), (40, con40 F), (32, con32 F), (34, con34 F), (47, con47 F), (26, con26 F), (42, con42 F), (44, con44 F)], own := [23, 35], ntmps := (0, 123) }
theorem cs11 (F : Nat) : ∀ f c, (cx11 F).call f = some c → CMet Try.prog f c := callsL_sound (calls_cons (s23 F) (calls_cons (s39 F) (calls_cons (s40 F) (calls_cons (s32 F) (calls_cons (s34 F) (calls_cons (s47 F) (calls_cons (s26 F) (calls_cons (s42 F) (calls_cons (s44 F) calls_nil)))))))))
def sh11l8 : Shape := [(1, .d (.int .i64)), (14, .d (.slice (.slice (.int .u8)))), (15, .d (.slice (.int .i64))), (16, .d (.int .i64))]
def sh11l8o0 : Shape := []
def sh11l8oret : Shape := [(8, .d .bool)]
def outs11l8 : Outs := [(2, sh11l8o0), (1, sh11l8oret)]
def m11l8 (F : Nat) (n : Nat) {R : Type} (x : Shape.den sh11l8) (K : Ex → St → Option R) : Option R := law10_StampsCanonical_l8 F (K (.exit 0) (enc sh11l8o0 (()))) (fun y8 => K .ret (enc sh11l8oret (y8, ()))) n x.1 x.2.1 x.2.2.1 x.2.2.2.1
def hs11 (F : Nat) : Nat → Option (Hint (Dens sg11.rtys)) := hintL [(8, { sh := sh11l8, model := m11l8 F F })]
theorem ok11l8 (F : Nat) (fr : Frm) (hn : (cx11 F).ntmps = fr.n) (n : Nat) : MSound (R := (Dens sg11.rtys)) Try.prog fr (.loop (sub (bodyOf Try.f11) [1, 1, 1, 1, 1, 1, 1, 0, 1, 0, 0])) sh11l8 (m11l8 F n) :=
  loop_sound (cx := cx11 F) (hs := hs11 F) (js := hintL []) (outs := outs11l8) (conf_all _ rfl) (cs11 F) hn mix (m := fun n => m11l8 F n) (fun _ _ => rfl) (fun n x K => by kernel_rfl) (hok_of (l := []) (by kernel_rfl) obl_nil) n
theorem s11 (F : Nat) : CSound Try.prog 11 (con11 F) :=
  fn_sound (fn := Try.f11) (code := (bodyOf Try.f11)) (cx := cx11 F) (hs := hs11 F) (js := hintL []) Try.func11 (by kernel_rfl) (by kernel_rfl) (conf_all _ rfl) (cs11 F) mix (by kernel_rfl) (by kernel_rfl) (fun fr hn => (hok_of (l := [((.loop (sub (bodyOf Try.f11) [1, 1, 1, 1, 1, 1, 1, 0, 1, 0, 0])), { sh := sh11l8, model := m11l8 F F })]) (by kernel_rfl) (obl_cons (ok11l8 F fr hn F) obl_nil))) (fun x => by kernel_rfl)
def sg108 : Sig := { modes := [.ro, .ro], sh := [(0, .d (.int .i64)), (1, .d (.int .i64))], keeps := true, fresh := none, rtys := [(.int .u64)] }
def con108 (F : Nat) : Contract := mkCon sg108 fun x => ref01_Diff F x.1 x.2.1
def cx108 (F : Nat) : Cx := { types := tys, call := callsL [], own := [], ntmps := (0, 10) }
theorem cs108 (F : Nat) : ∀ f c, (cx108 F).call f = some c → CMet Try.prog f c := callsL_sound calls_nil
theorem s108 (F : Nat) : CSound Try.prog 108 (con108 F) :=
  fn_sound (fn := Try.f108) (code := (bodyOf Try.f108)) (cx := cx108 F) (hs := hintL []) (js := hintL []) Try.func108 (by kernel_rfl) (by kernel_rfl) (conf_all _ rfl) (cs108 F) mix (by kernel_rfl) (by kernel_rfl) (fun fr hn => (hok_of (l := []) (by kernel_rfl) obl_nil)) (fun x => by kernel_rfl)
def sg85 : Sig := { modes := [.ro], sh := [(0, .d (.slice (.int .i64)))], keeps := false, fresh := some (0, 2), rtys := [(.slice (.int .i64))] }
def con85 (F : Nat) : Contract := mkCon sg85 fun x => ref11_differences F x.1
def cx85 (F : Nat) : Cx := { types := tys, call := callsL [(108, con108 F)], own := [2, 3], ntmps := (0, 34) }
theorem cs85 (F : Nat) : ∀ f c, (cx85 F).call f = some c → CMet Try.prog f c := callsL_sound (calls_cons (s108 F) calls_nil)
def sh85l3 : Shape := [(0, .d (.slice (.int .i64))), (3, .own 3 (.int .i64) 2), (4, .d (.int .i64))]
def sh85l3o0 : Shape := [(3, .own 3 (.int .i64) 2)]
def outs85l3 : Outs := [(2, sh85l3o0)]
def m85l3 (F : Nat) (n : Nat) {R : Type} (x : Shape.den sh85l3) (K : Ex → St → Option R) : Option R := ref11_differences_l3 F (fun y3 => K (.exit 0) (enc sh85l3o0 (y3, ()))) n x.1 x.2.1 x.2.2.1
def hs85 (F : Nat) : Nat → Option (Hint (Dens sg85.rtys)) := hintL [(3, { sh := sh85l3, model := m85l3 F F })]
theorem ok85l3 (F : Nat) (fr : Frm) (hn : (cx85 F).ntmps = fr.n) (n : Nat) : MSound (R := (Dens sg85.rtys)) Try.prog fr (.loop (sub (bodyOf Try.f85) [1, 1, 0, 1, 0, 0])) sh85l3 (m85l3 F n) :=
  loop_sound (cx := cx85 F) (hs := hs85 F) (js := hintL []) (outs := outs85l3) (conf_all _ rfl) (cs85 F) hn mix (m := fun n => m85l3 F n) (fun _ _ => rfl) (fun n x K => by kernel_rfl) (hok_of (l := []) (by kernel_rfl) obl_nil) n
theorem s85 (F : Nat) : CSound Try.prog 85 (con85 F) :=
  fn_sound (fn := Try.f85) (code := (bodyOf Try.f85)) (cx := cx85 F) (hs := hs85 F) (js := hintL []) Try.func85 (by kernel_rfl) (by kernel_rfl) (conf_all _ rfl) (cs85 F) mix (by kernel_rfl) (by kernel_rfl) (fun fr hn => (hok_of (l := [((.loop (sub (bodyOf Try.f85) [1, 1, 0, 1, 0, 0])), { sh := sh85l3, model := m85l3 F F })]) (by kernel_rfl) (obl_cons (ok85l3 F fr hn F) obl_nil))) (fun x => by kernel_rfl)
def sg77 : Sig := { modes := [.ro], sh := [(0, .d (.int .i64))], keeps := true, fresh := none, rtys := [(.int .u64)] }
def con77 (F : Nat) : Contract := mkCon sg77 fun x => ref05_Zigzag F x.1
def cx77 (F : Nat) : Cx := { types := tys, call := callsL [], own := [], ntmps := (0, 14) }
theorem cs77 (F : Nat) : ∀ f c, (cx77 F).call f = some c → CMet Try.prog f c := callsL_sound calls_nil
theorem s77 (F : Nat) : CSound Try.prog 77 (con77 F) :=
  fn_sound (fn := Try.f77) (code := (bodyOf Try.f77)) (cx := cx77 F) (hs := hintL []) (js := hintL []) Try.func77 (by kernel_rfl) (by kernel_rfl) (conf_all _ rfl) (cs77 F) mix (by kernel_rfl) (by kernel_rfl) (fun fr hn => (hok_of (l := []) (by kernel_rfl) obl_nil)) (fun x => by kernel_rfl)
def sg53 : Sig := { modes := [.ro, .ro], sh := [(0, .d (.slice (.int .i64))), (1, .d (.int .i64))], keeps := false, fresh := some (0, 36), rtys := [(.slice (.int .u64)), .bool] }
def con53 (F : Nat) : Contract := mkCon sg53 fun x => ref11_Residuals F x.1 x.2.1
def cx53 (F : Nat) : Cx := { types := tys, call := callsL [(85, con85 F), (77, con77 F)], own := [4, 24], ntmps := (0, 40) }
theorem cs53 (F : Nat) : ∀ f c, (cx53 F).call f = some c → CMet Try.prog f c := callsL_sound (calls_cons (s85 F) (calls_cons (s77 F) calls_nil))
def sh53l4 : Shape := [(0, .d (.slice (.int .i64))), (1, .d (.int .i64)), (6, .d (.int .i64))]
def sh53l4o0 : Shape := [(0, .d (.slice (.int .i64)))]
def outs53l4 : Outs := [(2, sh53l4o0)]
def m53l4 (F : Nat) (n : Nat) {R : Type} (x : Shape.den sh53l4) (K : Ex → St → Option R) : Option R := ref11_Residuals_l4 F (fun y0 => K (.exit 0) (enc sh53l4o0 (y0, ()))) n x.1 x.2.1 x.2.2.1
def sh53l9 : Shape := [(0, .d (.slice (.int .i64))), (7, .own 7 (.int .u64) 36), (8, .d (.int .i64))]
def sh53l9o2 : Shape := [(7, .own 7 (.int .u64) 36)]
def outs53l9 : Outs := [(4, sh53l9o2)]
def m53l9 (F : Nat) (n : Nat) {R : Type} (x : Shape.den sh53l9) (K : Ex → St → Option R) : Option R := ref11_Residuals_l9 F (fun y7 => K (.exit 2) (enc sh53l9o2 (y7, ()))) n x.1 x.2.1 x.2.2.1
def hs53 (F : Nat) : Nat → Option (Hint (Dens sg53.rtys)) := hintL [(4, { sh := sh53l4, model := m53l4 F F }), (9, { sh := sh53l9, model := m53l9 F F })]
theorem ok53l4 (F : Nat) (fr : Frm) (hn : (cx53 F).ntmps = fr.n) (n : Nat) : MSound (R := (Dens sg53.rtys)) Try.prog fr (.loop (sub (bodyOf Try.f53) [1, 1, 0, 1, 0, 0])) sh53l4 (m53l4 F n) :=
  loop_sound (cx := cx53 F) (hs := hs53 F) (js := hintL []) (outs := outs53l4) (conf_all _ rfl) (cs53 F) hn mix (m := fun n => m53l4 F n) (fun _ _ => rfl) (fun n x K => by kernel_rfl) (hok_of (l := []) (by kernel_rfl) obl_nil) n
theorem ok53l9 (F : Nat) (fr : Frm) (hn : (cx53 F).ntmps = fr.n) (n : Nat) : MSound (R := (Dens sg53.rtys)) Try.prog fr (.loop (sub (bodyOf Try.f53) [1, 1, 1, 1, 0, 1, 0, 0])) sh53l9 (m53l9 F n) :=
  loop_sound (cx := cx53 F) (hs := hs53 F) (js := hintL []) (outs := outs53l9) (conf_all _ rfl) (cs53 F) hn mix (m := fun n => m53l9 F n) (fun _ _ => rfl) (fun n x K => by kernel_rfl) (hok_of (l := []) (by kernel_rfl) obl_nil) n
theorem s53 (F : Nat) : CSound Try.prog 53 (con53 F) :=
  fn_sound (fn := Try.f53) (code := (bodyOf Try.f53)) (cx := cx53 F) (hs := hs53 F) (js := hintL []) Try.func53 (by kernel_rfl) (by kernel_rfl) (conf_all _ rfl) (cs53 F) mix (by kernel_rfl) (by kernel_rfl) (fun fr hn => (hok_of (l := [((.loop (sub (bodyOf Try.f53) [1, 1, 0, 1, 0, 0])), { sh := sh53l4, model := m53l4 F F }), ((.loop (sub (bodyOf Try.f53) [1, 1, 1, 1, 0, 1, 0, 0])), { sh := sh53l9, model := m53l9 F F })]) (by kernel_rfl) (obl_cons (ok53l4 F fr hn F) (obl_cons (ok53l9 F fr hn F) obl_nil)))) (fun x => by kernel_rfl)
def sg51 : Sig := { modes := [.ro], sh := [(0, .d (.slice (.int .i64)))], keeps := false, fresh := some (0, 5), rtys := [(.slice (.int .u8)), (.int .i64)] }
def con51 (F : Nat) : Contract := mkCon sg51 fun x => ref11_Encode F x.1
def cx51 (F : Nat) : Cx := { types := tys, call := callsL [(53, con53 F), (25, con25 F)], own := [2, 4, 40], ntmps := (0, 44) }
theorem cs51 (F : Nat) : ∀ f c, (cx51 F).call f = some c → CMet Try.prog f c := callsL_sound (calls_cons (s53 F) (calls_cons (s25 F) calls_nil))
def sh51l5 : Shape := [(0, .d (.slice (.int .i64))), (4, .own 4 (.int .u8) 5), (5, .d (.int .i64))]
def sh51l5o0 : Shape := [(4, .own 4 (.int .u8) 5)]
def outs51l5 : Outs := [(2, sh51l5o0)]
def m51l5 (F : Nat) (n : Nat) {R : Type} (x : Shape.den sh51l5) (K : Ex → St → Option R) : Option R := ref11_Encode_l5 F (fun y4 => K (.exit 0) (enc sh51l5o0 (y4, ()))) n x.1 x.2.1 x.2.2.1
def hs51 (F : Nat) : Nat → Option (Hint (Dens sg51.rtys)) := hintL [(5, { sh := sh51l5, model := m51l5 F F })]
theorem ok51l5 (F : Nat) (fr : Frm) (hn : (cx51 F).ntmps = fr.n) (n : Nat) : MSound (R := (Dens sg51.rtys)) Try.prog fr (.loop (sub (bodyOf Try.f51) [1, 1, 1, 0, 1, 0, 0])) sh51l5 (m51l5 F n) :=
  loop_sound (cx := cx51 F) (hs := hs51 F) (js := hintL []) (outs := outs51l5) (conf_all _ rfl) (cs51 F) hn mix (m := fun n => m51l5 F n) (fun _ _ => rfl) (fun n x K => by kernel_rfl) (hok_of (l := []) (by kernel_rfl) obl_nil) n
theorem s51 (F : Nat) : CSound Try.prog 51 (con51 F) :=
  fn_sound (fn := Try.f51) (code := (bodyOf Try.f51)) (cx := cx51 F) (hs := hs51 F) (js := hintL []) Try.func51 (by kernel_rfl) (by kernel_rfl) (conf_all _ rfl) (cs51 F) mix (by kernel_rfl) (by kernel_rfl) (fun fr hn => (hok_of (l := [((.loop (sub (bodyOf Try.f51) [1, 1, 1, 0, 1, 0, 0])), { sh := sh51l5, model := m51l5 F F })]) (by kernel_rfl) (obl_cons (ok51l5 F fr hn F) obl_nil))) (fun x => by kernel_rfl)
def sg13 : Sig := { modes := [.ro, .ro, .ro], sh := [(0, .d (.slice (.int .i64))), (1, .d (.int .i64)), (2, .d (.slice (.int .i64)))], keeps := true, fresh := none, rtys := [.bool] }
def con13 (F : Nat) : Contract := mkCon sg13 fun x => law11_ResidualForms F x.1 x.2.1 x.2.2.1
def cx13 (F : Nat) : Cx := { types := tys, call := callsL [(23, con23 F), (49, con49 F), (50, con50 F), (51, con51 F), (26, con26 F), (52, con52 F), (53, con53 F), (36, con36 F), (54, con54 F)], own := [21], ntmps := (0, 97) }
theorem cs13 (F : Nat) : ∀ f c, (cx13 F).call f = some c → CMet Try.prog f c := callsL_sound (calls_cons (s23 F) (calls_cons (s49 F) (calls_cons (s50 F) (calls_cons (s51 F) (calls_cons (s26 F) (calls_cons (s52 F) (calls_cons (s53 F) (calls_cons (s36 F) (calls_cons (s54 F) calls_nil)))))))))
def sh13l12 : Shape := [(8, .d (.slice (.slice (.int .i64)))), (9, .d (.slice (.int .i64))), (10, .d (.int .i64)), (15, .d (.int .i64))]
def sh13l12o2 : Shape := [(8, .d (.slice (.slice (.int .i64)))), (9, .d (.slice (.int .i64))), (10, .d (.int .i64))]
def sh13l12oret : Shape := [(6, .d .bool)]
def outs13l12 : Outs := [(4, sh13l12o2), (1, sh13l12oret)]
def m13l12 (F : Nat) (n : Nat) {R : Type} (x : Shape.den sh13l12) (K : Ex → St → Option R) : Option R := law11_ResidualForms_l12 F (fun y8 y9 y10 => K (.exit 2) (enc sh13l12o2 (y8, y9, y10, ()))) (fun y6 => K .ret (enc sh13l12oret (y6, ()))) n x.1 x.2.1 x.2.2.1 x.2.2.2.1
def sh13l5 : Shape := [(8, .d (.slice (.slice (.int .i64)))), (9, .d (.slice (.int .i64))), (10, .d (.int .i64))]
def sh13l5o0 : Shape := []
def sh13l5oret : Shape := [(6, .d .bool)]
def outs13l5 : Outs := [(2, sh13l5o0), (1, sh13l5oret)]
def m13l5 (F : Nat) (n : Nat) {R : Type} (x : Shape.den sh13l5) (K : Ex → St → Option R) : Option R := law11_ResidualForms_l5 F (K (.exit 0) (enc sh13l5o0 (()))) (fun y6 => K .ret (enc sh13l5oret (y6, ()))) n x.1 x.2.1 x.2.2.1
def hs13 (F : Nat) : Nat → Option (Hint (Dens sg13.rtys)) := hintL [(12, { sh := sh13l12, model := m13l12 F F }), (5, { sh := sh13l5, model := m13l5 F F })]
theorem ok13l12 (F : Nat) (fr : Frm) (hn : (cx13 F).ntmps = fr.n) (n : Nat) : MSound (R := (Dens sg13.rtys)) Try.prog fr (.loop (sub (bodyOf Try.f13) [1, 1, 1, 1, 0, 1, 0, 0, 1, 0, 0, 1, 1, 1, 1, 0, 0])) sh13l12 (m13l12 F n) :=
  loop_sound (cx := cx13 F) (hs := hs13 F) (js := hintL []) (outs := outs13l12) (conf_all _ rfl) (cs13 F) hn mix (m := fun n => m13l12 F n) (fun _ _ => rfl) (fun n x K => by kernel_rfl) (hok_of (l := []) (by kernel_rfl) obl_nil) n
theorem ok13l5 (F : Nat) (fr : Frm) (hn : (cx13 F).ntmps = fr.n) (n : Nat) : MSound (R := (Dens sg13.rtys)) Try.prog fr (.loop (sub (bodyOf Try.f13) [1, 1, 1, 1, 0, 1, 0, 0])) sh13l5 (m13l5 F n) :=
  loop_sound (cx := cx13 F) (hs := hs13 F) (js := hintL []) (outs := outs13l5) (conf_all _ rfl) (cs13 F) hn mix (m := fun n => m13l5 F n) (fun _ _ => rfl) (fun n x K => by kernel_rfl) (hok_of (l := [((.loop (sub (bodyOf Try.f13) [1, 1, 1, 1, 0, 1, 0, 0, 1, 0, 0, 1, 1, 1, 1, 0, 0])), { sh := sh13l12, model := m13l12 F F })]) (by kernel_rfl) (obl_cons (ok13l12 F fr hn F) obl_nil)) n
theorem s13 (F : Nat) : CSound Try.prog 13 (con13 F) :=
  fn_sound (fn := Try.f13) (code := (bodyOf Try.f13)) (cx := cx13 F) (hs := hs13 F) (js := hintL []) Try.func13 (by kernel_rfl) (by kernel_rfl) (conf_all _ rfl) (cs13 F) mix (by kernel_rfl) (by kernel_rfl) (fun fr hn => (hok_of (l := [((.loop (sub (bodyOf Try.f13) [1, 1, 1, 1, 0, 1, 0, 0])), { sh := sh13l5, model := m13l5 F F })]) (by kernel_rfl) (obl_cons (ok13l5 F fr hn F) obl_nil))) (fun x => by kernel_rfl)
def sg63 : Sig := { modes := [.ro, .ro], sh := [(0, .d (.slice (.pair (.int .i64) (.pair (.int .i64) .unit)))), (1, .d (.slice (.pair (.int .i64) (.pair (.int .i64) .unit))))], keeps := true, fresh := none, rtys := [.bool] }
def con63 (F : Nat) : Contract := mkCon sg63 fun x => ref15_Same F x.1 x.2.1
def cx63 (F : Nat) : Cx := { types := tys, call := callsL [], own := [], ntmps := (0, 26) }
theorem cs63 (F : Nat) : ∀ f c, (cx63 F).call f = some c → CMet Try.prog f c := callsL_sound calls_nil
def sh63l4 : Shape := [(0, .d (.slice (.pair (.int .i64) (.pair (.int .i64) .unit)))), (1, .d (.slice (.pair (.int .i64) (.pair (.int .i64) .unit)))), (5, .d (.int .i64))]
def sh63l4o0 : Shape := []
def sh63l4oret : Shape := [(4, .d .bool)]
def outs63l4 : Outs := [(2, sh63l4o0), (1, sh63l4oret)]
def m63l4 (F : Nat) (n : Nat) {R : Type} (x : Shape.den sh63l4) (K : Ex → St → Option R) : Option R := ref15_Same_l4 F (K (.exit 0) (enc sh63l4o0 (()))) (fun y4 => K .ret (enc sh63l4oret (y4, ()))) n x.1 x.2.1 x.2.2.1
def hs63 (F : Nat) : Nat → Option (Hint (Dens sg63.rtys)) := hintL [(4, { sh := sh63l4, model := m63l4 F F })]
theorem ok63l4 (F : Nat) (fr : Frm) (hn : (cx63 F).ntmps = fr.n) (n : Nat) : MSound (R := (Dens sg63.rtys)) Try.prog fr (.loop (sub (bodyOf Try.f63) [1, 1, 0, 1, 0, 0])) sh63l4 (m63l4 F n) :=
  loop_sound (cx := cx63 F) (hs := hs63 F) (js := hintL []) (outs := outs63l4) (conf_all _ rfl) (cs63 F) hn mix (m := fun n => m63l4 F n) (fun _ _ => rfl) (fun n x K => by kernel_rfl) (hok_of (l := []) (by kernel_rfl) obl_nil) n
theorem s63 (F : Nat) : CSound Try.prog 63 (con63 F) :=
  fn_sound (fn := Try.f63) (code := (bodyOf Try.f63)) (cx := cx63 F) (hs := hs63 F) (js := hintL []) Try.func63 (by kernel_rfl) (by kernel_rfl) (conf_all _ rfl) (cs63 F) mix (by kernel_rfl) (by kernel_rfl) (fun fr hn => (hok_of (l := [((.loop (sub (bodyOf Try.f63) [1, 1, 0, 1, 0, 0])), { sh := sh63l4, model := m63l4 F F })]) (by kernel_rfl) (obl_cons (ok63l4 F fr hn F) obl_nil))) (fun x => by kernel_rfl)
def sg20 : Sig := { modes := [.ro, .ro, .ro], sh := [(0, .d (.slice (.int .i64))), (1, .d (.slice (.int .u8))), (2, .d (.slice (.int .u8)))], keeps := true, fresh := none, rtys := [.bool] }
def con20 (F : Nat) : Contract := mkCon sg20 fun x => law17_ConstantsBack F x.1 x.2.1 x.2.2.1
def cx20 (F : Nat) : Cx := { types := tys, call := callsL [(23, con23 F), (57, con57 F), (58, con58 F), (62, con62 F), (60, con60 F), (63, con63 F)], own := [17, 26], ntmps := (0, 65) }
theorem cs20 (F : Nat) : ∀ f c, (cx20 F).call f = some c → CMet Try.prog f c := callsL_sound (calls_cons (s23 F) (calls_cons (s57 F) (calls_cons (s58 F) (calls_cons (s62 F) (calls_cons (s60 F) (calls_cons (s63 F) calls_nil))))))
theorem s20 (F : Nat) : CSound Try.prog 20 (con20 F) :=
  fn_sound (fn := Try.f20) (code := (bodyOf Try.f20)) (cx := cx20 F) (hs := hintL []) (js := hintL []) Try.func20 (by kernel_rfl) (by kernel_rfl) (conf_all _ rfl) (cs20 F) mix (by kernel_rfl) (by kernel_rfl) (fun fr hn => (hok_of (l := []) (by kernel_rfl) obl_nil)) (fun x => by kernel_rfl)
def sg43 : Sig := { modes := [.ro], sh := [(0, .d (.slice (.int .i64)))], keeps := true, fresh := none, rtys := [.bool] }
def con43 (F : Nat) : Contract := mkCon sg43 fun x => ref10_Increasing F x.1
def cx43 (F : Nat) : Cx := { types := tys, call := callsL [], own := [], ntmps := (0, 20) }
theorem cs43 (F : Nat) : ∀ f c, (cx43 F).call f = some c → CMet Try.prog f c := callsL_sound calls_nil
def sh43l2 : Shape := [(0, .d (.slice (.int .i64))), (3, .d (.int .i64))]
def sh43l2o0 : Shape := []
def sh43l2oret : Shape := [(2, .d .bool)]
def outs43l2 : Outs := [(2, sh43l2o0), (1, sh43l2oret)]
def m43l2 (F : Nat) (n : Nat) {R : Type} (x : Shape.den sh43l2) (K : Ex → St → Option R) : Option R := ref10_Increasing_l2 F (K (.exit 0) (enc sh43l2o0 (()))) (fun y2 => K .ret (enc sh43l2oret (y2, ()))) n x.1 x.2.1
def hs43 (F : Nat) : Nat → Option (Hint (Dens sg43.rtys)) := hintL [(2, { sh := sh43l2, model := m43l2 F F })]
theorem ok43l2 (F : Nat) (fr : Frm) (hn : (cx43 F).ntmps = fr.n) (n : Nat) : MSound (R := (Dens sg43.rtys)) Try.prog fr (.loop (sub (bodyOf Try.f43) [1, 0, 1, 0, 0])) sh43l2 (m43l2 F n) :=
  loop_sound (cx := cx43 F) (hs := hs43 F) (js := hintL []) (outs := outs43l2) (conf_all _ rfl) (cs43 F) hn mix (m := fun n => m43l2 F n) (fun _ _ => rfl) (fun n x K => by kernel_rfl) (hok_of (l := []) (by kernel_rfl) obl_nil) n
theorem s43 (F : Nat) : CSound Try.prog 43 (con43 F) :=
  fn_sound (fn := Try.f43) (code := (bodyOf Try.f43)) (cx := cx43 F) (hs := hs43 F) (js := hintL []) Try.func43 (by kernel_rfl) (by kernel_rfl) (conf_all _ rfl) (cs43 F) mix (by kernel_rfl) (by kernel_rfl) (fun fr hn => (hok_of (l := [((.loop (sub (bodyOf Try.f43) [1, 0, 1, 0, 0])), { sh := sh43l2, model := m43l2 F F })]) (by kernel_rfl) (obl_cons (ok43l2 F fr hn F) obl_nil))) (fun x => by kernel_rfl)
def sg76 : Sig := { modes := [.ro, .ro], sh := [(0, .d (.int .i64)), (1, .d (.int .i64))], keeps := true, fresh := none, rtys := [(.int .u64)] }
def con76 (F : Nat) : Contract := mkCon sg76 fun x => ref01_Distance F x.1 x.2.1
def cx76 (F : Nat) : Cx := { types := tys, call := callsL [], own := [], ntmps := (0, 18) }
theorem cs76 (F : Nat) : ∀ f c, (cx76 F).call f = some c → CMet Try.prog f c := callsL_sound calls_nil
theorem s76 (F : Nat) : CSound Try.prog 76 (con76 F) :=
  fn_sound (fn := Try.f76) (code := (bodyOf Try.f76)) (cx := cx76 F) (hs := hintL []) (js := hintL []) Try.func76 (by kernel_rfl) (by kernel_rfl) (conf_all _ rfl) (cs76 F) mix (by kernel_rfl) (by kernel_rfl) (fun fr hn => (hok_of (l := []) (by kernel_rfl) obl_nil)) (fun x => by kernel_rfl)
def sg41 : Sig := { modes := [.ro], sh := [(0, .d (.slice (.int .i64)))], keeps := false, fresh := some (0, 5), rtys := [(.slice (.int .u8)), (.int .i64)] }
def con41 (F : Nat) : Contract := mkCon sg41 fun x => ref10_Encode F x.1
def cx41 (F : Nat) : Cx := { types := tys, call := callsL [(43, con43 F), (76, con76 F), (77, con77 F), (25, con25 F)], own := [2, 4, 47], ntmps := (0, 50) }
theorem cs41 (F : Nat) : ∀ f c, (cx41 F).call f = some c → CMet Try.prog f c := callsL_sound (calls_cons (s43 F) (calls_cons (s76 F) (calls_cons (s77 F) (calls_cons (s25 F) calls_nil))))
def sh41l8 : Shape := [(0, .d (.slice (.int .i64))), (4, .own 4 (.int .u64) 36), (5, .d (.int .u64)), (6, .d (.int .i64))]
def sh41l8o0 : Shape := [(4, .own 4 (.int .u64) 36)]
def outs41l8 : Outs := [(2, sh41l8o0)]
def m41l8 (F : Nat) (n : Nat) {R : Type} (x : Shape.den sh41l8) (K : Ex → St → Option R) : Option R := ref10_Encode_l8 F (fun y4 => K (.exit 0) (enc sh41l8o0 (y4, ()))) n x.1 x.2.1 x.2.2.1 x.2.2.2.1
def hs41 (F : Nat) : Nat → Option (Hint (Dens sg41.rtys)) := hintL [(8, { sh := sh41l8, model := m41l8 F F })]
theorem ok41l8 (F : Nat) (fr : Frm) (hn : (cx41 F).ntmps = fr.n) (n : Nat) : MSound (R := (Dens sg41.rtys)) Try.prog fr (.loop (sub (bodyOf Try.f41) [1, 1, 1, 1, 1, 0, 1, 0, 0])) sh41l8 (m41l8 F n) :=
  loop_sound (cx := cx41 F) (hs := hs41 F) (js := hintL []) (outs := outs41l8) (conf_all _ rfl) (cs41 F) hn mix (m := fun n => m41l8 F n) (fun _ _ => rfl) (fun n x K => by kernel_rfl) (hok_of (l := []) (by kernel_rfl) obl_nil) n
theorem s41 (F : Nat) : CSound Try.prog 41 (con41 F) :=
  fn_sound (fn := Try.f41) (code := (bodyOf Try.f41)) (cx := cx41 F) (hs := hs41 F) (js := hintL []) Try.func41 (by kernel_rfl) (by kernel_rfl) (conf_all _ rfl) (cs41 F) mix (by kernel_rfl) (by kernel_rfl) (fun fr hn => (hok_of (l := [((.loop (sub (bodyOf Try.f41) [1, 1, 1, 1, 1, 0, 1, 0, 0])), { sh := sh41l8, model := m41l8 F F })]) (by kernel_rfl) (obl_cons (ok41l8 F fr hn F) obl_nil))) (fun x => by kernel_rfl)
def sg8 : Sig := { modes := [.ro, .ro], sh := [(0, .d (.slice (.int .i64))), (1, .d (.slice (.int .i64)))], keeps := true, fresh := none, rtys := [.bool] }
def con8 (F : Nat) : Contract := mkCon sg8 fun x => law10_StampsForms F x.1 x.2.1
def cx8 (F : Nat) : Cx := { types := tys, call := callsL [(23, con23 F), (39, con39 F), (30, con30 F), (40, con40 F), (41, con41 F), (26, con26 F), (42, con42 F), (43, con43 F), (44, con44 F)], own := [15, 18], ntmps := (0, 83) }
theorem cs8 (F : Nat) : ∀ f c, (cx8 F).call f = some c → CMet Try.prog f c := callsL_sound (calls_cons (s23 F) (calls_cons (s39 F) (calls_cons (s30 F) (calls_cons (s40 F) (calls_cons (s41 F) (calls_cons (s26 F) (calls_cons (s42 F) (calls_cons (s43 F) (calls_cons (s44 F) calls_nil)))))))))
def sh8l8 : Shape := [(8, .d (.slice (.slice (.int .i64)))), (9, .d (.int .i64))]
def sh8l8o0 : Shape := []
def sh8l8oret : Shape := [(4, .d .bool)]
def outs8l8 : Outs := [(2, sh8l8o0), (1, sh8l8oret)]
def m8l8 (F : Nat) (n : Nat) {R : Type} (x : Shape.den sh8l8) (K : Ex → St → Option R) : Option R := law10_StampsForms_l8 F (K (.exit 0) (enc sh8l8o0 (()))) (fun y4 => K .ret (enc sh8l8oret (y4, ()))) n x.1 x.2.1
def sh8j6 : Shape := [(0, .d (.slice (.int .i64))), (6, .d (.slice (.int .i64))), (7, .own 7 (.int .i64) 2)]
def sh8j6oret : Shape := [(4, .d .bool)]
def outs8j6 : Outs := [(1, sh8j6oret)]
def m8j6 (F : Nat) {R : Type} (x : Shape.den sh8j6) (K : Ex → St → Option R) : Option R := law10_StampsForms_j6 F (fun y4 => K .ret (enc sh8j6oret (y4, ()))) x.1 x.2.1 x.2.2.1
def hs8 (F : Nat) : Nat → Option (Hint (Dens sg8.rtys)) := hintL [(8, { sh := sh8l8, model := m8l8 F F })]
def js8 (F : Nat) : Nat → Option (Hint (Dens sg8.rtys)) := hintL [(6, { sh := sh8j6, model := m8j6 F })]
theorem ok8l8 (F : Nat) (fr : Frm) (hn : (cx8 F).ntmps = fr.n) (n : Nat) : MSound (R := (Dens sg8.rtys)) Try.prog fr (.loop (sub (bodyOf Try.f8) [1, 1, 1, 1, 1, 1, 0, 1, 0, 0])) sh8l8 (m8l8 F n) :=
  loop_sound (cx := cx8 F) (hs := hs8 F) (js := js8 F) (outs := outs8l8) (conf_all _ rfl) (cs8 F) hn mix (m := fun n => m8l8 F n) (fun _ _ => rfl) (fun n x K => by kernel_rfl) (hok_of (l := []) (by kernel_rfl) obl_nil) n
theorem ok8j6 (F : Nat) (fr : Frm) (hn : (cx8 F).ntmps = fr.n) : MSound (R := (Dens sg8.rtys)) Try.prog fr (sub (bodyOf Try.f8) [1, 1, 1, 1, 1]) sh8j6 (m8j6 F) :=
  join_sound (cx := cx8 F) (hs := hs8 F) (js := js8 F) (outs := outs8j6) (conf_all _ rfl) (cs8 F) hn mix (fun x K => by kernel_rfl) (hok_of (l := [((.loop (sub (bodyOf Try.f8) [1, 1, 1, 1, 1, 1, 0, 1, 0, 0])), { sh := sh8l8, model := m8l8 F F })]) (by kernel_rfl) (obl_cons (ok8l8 F fr hn F) obl_nil))
theorem s8 (F : Nat) : CSound Try.prog 8 (con8 F) :=
  fn_sound (fn := Try.f8) (code := (bodyOf Try.f8)) (cx := cx8 F) (hs := hs8 F) (js := js8 F) Try.func8 (by kernel_rfl) (by kernel_rfl) (conf_all _ rfl) (cs8 F) mix (by kernel_rfl) (by kernel_rfl) (fun fr hn => (hok_of (l := [((sub (bodyOf Try.f8) [1, 1, 1, 1, 1]), { sh := sh8j6, model := m8j6 F })]) (by kernel_rfl) (obl_cons (ok8j6 F fr hn) obl_nil))) (fun x => by kernel_rfl)
def sg10 : Sig := { modes := [.ro, .ro, .ro], sh := [(0, .d (.slice (.int .i64))), (1, .d (.slice (.int .u8))), (2, .d (.slice (.int .u8)))], keeps := true, fresh := none, rtys := [.bool] }
def con10 (F : Nat) : Contract := mkCon sg10 fun x => law10_StampsBack F x.1 x.2.1 x.2.2.1
def cx10 (F : Nat) : Cx := { types := tys, call := callsL [(23, con23 F), (39, con39 F), (40, con40 F), (47, con47 F), (44, con44 F), (48, con48 F)], own := [15, 26], ntmps := (0, 69) }
theorem cs10 (F : Nat) : ∀ f c, (cx10 F).call f = some c → CMet Try.prog f c := callsL_sound (calls_cons (s23 F) (calls_cons (s39 F) (calls_cons (s40 F) (calls_cons (s47 F) (calls_cons (s44 F) (calls_cons (s48 F) calls_nil))))))
def sh10j4 : Shape := [(1, .d (.slice (.int .u8))), (2, .d (.slice (.int .u8))), (7, .d (.slice (.int .i64)))]
def sh10j4oret : Shape := [(6, .d .bool)]
def outs10j4 : Outs := [(1, sh10j4oret)]
def m10j4 (F : Nat) {R : Type} (x : Shape.den sh10j4) (K : Ex → St → Option R) : Option R := law10_StampsBack_j4 F (fun y6 => K .ret (enc sh10j4oret (y6, ()))) x.1 x.2.1 x.2.2.1
def js10 (F : Nat) : Nat → Option (Hint (Dens sg10.rtys)) := hintL [(4, { sh := sh10j4, model := m10j4 F })]
theorem ok10j4 (F : Nat) (fr : Frm) (hn : (cx10 F).ntmps = fr.n) : MSound (R := (Dens sg10.rtys)) Try.prog fr (sub (bodyOf Try.f10) [1, 1, 1]) sh10j4 (m10j4 F) :=
  join_sound (cx := cx10 F) (hs := hintL []) (js := js10 F) (outs := outs10j4) (conf_all _ rfl) (cs10 F) hn mix (fun x K => by kernel_rfl) (hok_of (l := []) (by kernel_rfl) obl_nil)
theorem s10 (F : Nat) : CSound Try.prog 10 (con10 F) :=
  fn_sound (fn := Try.f10) (code := (bodyOf Try.f10)) (cx := cx10 F) (hs := hintL []) (js := js10 F) Try.func10 (by kernel_rfl) (by kernel_rfl) (conf_all _ rfl) (cs10 F) mix (by kernel_rfl) (by kernel_rfl) (fun fr hn => (hok_of (l := [((sub (bodyOf Try.f10) [1, 1, 1]), { sh := sh10j4, model := m10j4 F })]) (by kernel_rfl) (obl_cons (ok10j4 F fr hn) obl_nil))) (fun x => by kernel_rfl)
def sg91 : Sig := { modes := [.ro], sh := [(0, .d (.slice (.pair (.int .i64) (.pair (.int .i64) .unit))))], keeps := false, fresh := some (0, 3), rtys := [(.slice (.int .i64))] }
def con91 (F : Nat) : Contract := mkCon sg91 fun x => ref17_counts F x.1
def cx91 (F : Nat) : Cx := { types := tys, call := callsL [], own := [2, 3], ntmps := (0, 20) }
theorem cs91 (F : Nat) : ∀ f c, (cx91 F).call f = some c → CMet Try.prog f c := callsL_sound calls_nil
def sh91l3 : Shape := [(0, .d (.slice (.pair (.int .i64) (.pair (.int .i64) .unit)))), (3, .own 3 (.int .i64) 3), (4, .d (.int .i64))]
def sh91l3o0 : Shape := [(3, .own 3 (.int .i64) 3)]
def outs91l3 : Outs := [(2, sh91l3o0)]
def m91l3 (F : Nat) (n : Nat) {R : Type} (x : Shape.den sh91l3) (K : Ex → St → Option R) : Option R := ref17_counts_l3 F (fun y3 => K (.exit 0) (enc sh91l3o0 (y3, ()))) n x.1 x.2.1 x.2.2.1
def hs91 (F : Nat) : Nat → Option (Hint (Dens sg91.rtys)) := hintL [(3, { sh := sh91l3, model := m91l3 F F })]
theorem ok91l3 (F : Nat) (fr : Frm) (hn : (cx91 F).ntmps = fr.n) (n : Nat) : MSound (R := (Dens sg91.rtys)) Try.prog fr (.loop (sub (bodyOf Try.f91) [1, 1, 0, 1, 0, 0])) sh91l3 (m91l3 F n) :=
  loop_sound (cx := cx91 F) (hs := hs91 F) (js := hintL []) (outs := outs91l3) (conf_all _ rfl) (cs91 F) hn mix (m := fun n => m91l3 F n) (fun _ _ => rfl) (fun n x K => by kernel_rfl) (hok_of (l := []) (by kernel_rfl) obl_nil) n
theorem s91 (F : Nat) : CSound Try.prog 91 (con91 F) :=
  fn_sound (fn := Try.f91) (code := (bodyOf Try.f91)) (cx := cx91 F) (hs := hs91 F) (js := hintL []) Try.func91 (by kernel_rfl) (by kernel_rfl) (conf_all _ rfl) (cs91 F) mix (by kernel_rfl) (by kernel_rfl) (fun fr hn => (hok_of (l := [((.loop (sub (bodyOf Try.f91) [1, 1, 0, 1, 0, 0])), { sh := sh91l3, model := m91l3 F F })]) (by kernel_rfl) (obl_cons (ok91l3 F fr hn F) obl_nil))) (fun x => by kernel_rfl)
def sg90 : Sig := { modes := [.ro], sh := [(0, .d (.slice (.int .i64)))], keeps := true, fresh := none, rtys := [(.int .i64)] }
def con90 (F : Nat) : Contract := mkCon sg90 fun x => ref17_Counts F x.1
def cx90 (F : Nat) : Cx := { types := tys, call := callsL [], own := [], ntmps := (0, 33) }
theorem cs90 (F : Nat) : ∀ f c, (cx90 F).call f = some c → CMet Try.prog f c := callsL_sound calls_nil
def sh90l5 : Shape := [(0, .d (.slice (.int .i64))), (3, .d (.int .i64)), (4, .d (.int .i64))]
def sh90l5o0 : Shape := []
def sh90l5oret : Shape := [(2, .d (.int .i64))]
def outs90l5 : Outs := [(2, sh90l5o0), (1, sh90l5oret)]
def m90l5 (F : Nat) (n : Nat) {R : Type} (x : Shape.den sh90l5) (K : Ex → St → Option R) : Option R := ref17_Counts_l5 F (K (.exit 0) (enc sh90l5o0 (()))) (fun y2 => K .ret (enc sh90l5oret (y2, ()))) n x.1 x.2.1 x.2.2.1
def hs90 (F : Nat) : Nat → Option (Hint (Dens sg90.rtys)) := hintL [(5, { sh := sh90l5, model := m90l5 F F })]
theorem ok90l5 (F : Nat) (fr : Frm) (hn : (cx90 F).ntmps = fr.n) (n : Nat) : MSound (R := (Dens sg90.rtys)) Try.prog fr (.loop (sub (bodyOf Try.f90) [1, 1, 1, 0, 1, 0, 0])) sh90l5 (m90l5 F n) :=
  loop_sound (cx := cx90 F) (hs := hs90 F) (js := hintL []) (outs := outs90l5) (conf_all _ rfl) (cs90 F) hn mix (m := fun n => m90l5 F n) (fun _ _ => rfl) (fun n x K => by kernel_rfl) (hok_of (l := []) (by kernel_rfl) obl_nil) n
theorem s90 (F : Nat) : CSound Try.prog 90 (con90 F) :=
  fn_sound (fn := Try.f90) (code := (bodyOf Try.f90)) (cx := cx90 F) (hs := hs90 F) (js := hintL []) Try.func90 (by kernel_rfl) (by kernel_rfl) (conf_all _ rfl) (cs90 F) mix (by kernel_rfl) (by kernel_rfl) (fun fr hn => (hok_of (l := [((.loop (sub (bodyOf Try.f90) [1, 1, 1, 0, 1, 0, 0])), { sh := sh90l5, model := m90l5 F F })]) (by kernel_rfl) (obl_cons (ok90l5 F fr hn F) obl_nil))) (fun x => by kernel_rfl)
def sg110 : Sig := { modes := [.ro], sh := [(0, .d (.slice (.int .i64)))], keeps := false, fresh := some (0, 36), rtys := [(.slice (.int .u64))] }
def con110 (F : Nat) : Contract := mkCon sg110 fun x => ref17_Less F x.1
def cx110 (F : Nat) : Cx := { types := tys, call := callsL [], own := [2, 3], ntmps := (0, 21) }
theorem cs110 (F : Nat) : ∀ f c, (cx110 F).call f = some c → CMet Try.prog f c := callsL_sound calls_nil
def sh110l3 : Shape := [(0, .d (.slice (.int .i64))), (3, .own 3 (.int .u64) 36), (4, .d (.int .i64))]
def sh110l3o0 : Shape := [(3, .own 3 (.int .u64) 36)]
def outs110l3 : Outs := [(2, sh110l3o0)]
def m110l3 (F : Nat) (n : Nat) {R : Type} (x : Shape.den sh110l3) (K : Ex → St → Option R) : Option R := ref17_Less_l3 F (fun y3 => K (.exit 0) (enc sh110l3o0 (y3, ()))) n x.1 x.2.1 x.2.2.1
def hs110 (F : Nat) : Nat → Option (Hint (Dens sg110.rtys)) := hintL [(3, { sh := sh110l3, model := m110l3 F F })]
theorem ok110l3 (F : Nat) (fr : Frm) (hn : (cx110 F).ntmps = fr.n) (n : Nat) : MSound (R := (Dens sg110.rtys)) Try.prog fr (.loop (sub (bodyOf Try.f110) [1, 1, 0, 1, 0, 0])) sh110l3 (m110l3 F n) :=
  loop_sound (cx := cx110 F) (hs := hs110 F) (js := hintL []) (outs := outs110l3) (conf_all _ rfl) (cs110 F) hn mix (m := fun n => m110l3 F n) (fun _ _ => rfl) (fun n x K => by kernel_rfl) (hok_of (l := []) (by kernel_rfl) obl_nil) n
theorem s110 (F : Nat) : CSound Try.prog 110 (con110 F) :=
  fn_sound (fn := Try.f110) (code := (bodyOf Try.f110)) (cx := cx110 F) (hs := hs110 F) (js := hintL []) Try.func110 (by kernel_rfl) (by kernel_rfl) (conf_all _ rfl) (cs110 F) mix (by kernel_rfl) (by kernel_rfl) (fun fr hn => (hok_of (l := [((.loop (sub (bodyOf Try.f110) [1, 1, 0, 1, 0, 0])), { sh := sh110l3, model := m110l3 F F })]) (by kernel_rfl) (obl_cons (ok110l3 F fr hn F) obl_nil))) (fun x => by kernel_rfl)
def sg92 : Sig := { modes := [.ro, .ro], sh := [(0, .d (.slice (.int .i64))), (1, .d (.slice (.int .i64)))], keeps := false, fresh := some (0, 5), rtys := [(.slice (.int .u8))] }
def con92 (F : Nat) : Contract := mkCon sg92 fun x => ref17_Head F x.1 x.2.1
def cx92 (F : Nat) : Cx := { types := tys, call := callsL [(110, con110 F), (25, con25 F), (51, con51 F), (28, con28 F)], own := [4, 23], ntmps := (0, 28) }
theorem cs92 (F : Nat) : ∀ f c, (cx92 F).call f = some c → CMet Try.prog f c := callsL_sound (calls_cons (s110 F) (calls_cons (s25 F) (calls_cons (s51 F) (calls_cons (s28 F) calls_nil))))
theorem s92 (F : Nat) : CSound Try.prog 92 (con92 F) :=
  fn_sound (fn := Try.f92) (code := (bodyOf Try.f92)) (cx := cx92 F) (hs := hintL []) (js := hintL []) Try.func92 (by kernel_rfl) (by kernel_rfl) (conf_all _ rfl) (cs92 F) mix (by kernel_rfl) (by kernel_rfl) (fun fr hn => (hok_of (l := []) (by kernel_rfl) obl_nil)) (fun x => by kernel_rfl)
def sg59 : Sig := { modes := [.ro], sh := [(0, .d (.slice (.pair (.int .i64) (.pair (.int .i64) .unit))))], keeps := false, fresh := some (0, 5), rtys := [(.slice (.int .u8)), (.int .i64)] }
def con59 (F : Nat) : Contract := mkCon sg59 fun x => ref17_Encode F x.1
def cx59 (F : Nat) : Cx := { types := tys, call := callsL [(91, con91 F), (90, con90 F), (92, con92 F)], own := [2, 5, 30], ntmps := (0, 31) }
theorem cs59 (F : Nat) : ∀ f c, (cx59 F).call f = some c → CMet Try.prog f c := callsL_sound (calls_cons (s91 F) (calls_cons (s90 F) (calls_cons (s92 F) calls_nil)))
def sh59l6 : Shape := [(0, .d (.slice (.pair (.int .i64) (.pair (.int .i64) .unit)))), (5, .own 5 (.int .i64) 2), (6, .d (.int .i64))]
def sh59l6o0 : Shape := [(0, .d (.slice (.pair (.int .i64) (.pair (.int .i64) .unit)))), (5, .own 5 (.int .i64) 2)]
def outs59l6 : Outs := [(2, sh59l6o0)]
def m59l6 (F : Nat) (n : Nat) {R : Type} (x : Shape.den sh59l6) (K : Ex → St → Option R) : Option R := ref17_Encode_l6 F (fun y0 y5 => K (.exit 0) (enc sh59l6o0 (y0, y5, ()))) n x.1 x.2.1 x.2.2.1
def hs59 (F : Nat) : Nat → Option (Hint (Dens sg59.rtys)) := hintL [(6, { sh := sh59l6, model := m59l6 F F })]
theorem ok59l6 (F : Nat) (fr : Frm) (hn : (cx59 F).ntmps = fr.n) (n : Nat) : MSound (R := (Dens sg59.rtys)) Try.prog fr (.loop (sub (bodyOf Try.f59) [1, 1, 1, 0, 1, 0, 0])) sh59l6 (m59l6 F n) :=
  loop_sound (cx := cx59 F) (hs := hs59 F) (js := hintL []) (outs := outs59l6) (conf_all _ rfl) (cs59 F) hn mix (m := fun n => m59l6 F n) (fun _ _ => rfl) (fun n x K => by kernel_rfl) (hok_of (l := []) (by kernel_rfl) obl_nil) n
theorem s59 (F : Nat) : CSound Try.prog 59 (con59 F) :=
  fn_sound (fn := Try.f59) (code := (bodyOf Try.f59)) (cx := cx59 F) (hs := hs59 F) (js := hintL []) Try.func59 (by kernel_rfl) (by kernel_rfl) (conf_all _ rfl) (cs59 F) mix (by kernel_rfl) (by kernel_rfl) (fun fr hn => (hok_of (l := [((.loop (sub (bodyOf Try.f59) [1, 1, 1, 0, 1, 0, 0])), { sh := sh59l6, model := m59l6 F F })]) (by kernel_rfl) (obl_cons (ok59l6 F fr hn F) obl_nil))) (fun x => by kernel_rfl)
def sg105 : Sig := { modes := [.ro], sh := [(0, .d (.int .u64))], keeps := true, fresh := none, rtys := [(.int .i64)] }
def con105 (F : Nat) : Contract := mkCon sg105 fun x => ref05_Unzigzag F x.1
def cx105 (F : Nat) : Cx := { types := tys, call := callsL [], own := [], ntmps := (0, 14) }
theorem cs105 (F : Nat) : ∀ f c, (cx105 F).call f = some c → CMet Try.prog f c := callsL_sound calls_nil
theorem s105 (F : Nat) : CSound Try.prog 105 (con105 F) :=
  fn_sound (fn := Try.f105) (code := (bodyOf Try.f105)) (cx := cx105 F) (hs := hintL []) (js := hintL []) Try.func105 (by kernel_rfl) (by kernel_rfl) (conf_all _ rfl) (cs105 F) mix (by kernel_rfl) (by kernel_rfl) (fun fr hn => (hok_of (l := []) (by kernel_rfl) obl_nil)) (fun x => by kernel_rfl)
def sg106 : Sig := { modes := [.ro, .ro], sh := [(0, .d (.int .i64)), (1, .d (.int .u64))], keeps := true, fresh := none, rtys := [(.int .i64)] }
def con106 (F : Nat) : Contract := mkCon sg106 fun x => ref01_Apply F x.1 x.2.1
def cx106 (F : Nat) : Cx := { types := tys, call := callsL [], own := [], ntmps := (0, 10) }
theorem cs106 (F : Nat) : ∀ f c, (cx106 F).call f = some c → CMet Try.prog f c := callsL_sound calls_nil
theorem s106 (F : Nat) : CSound Try.prog 106 (con106 F) :=
  fn_sound (fn := Try.f106) (code := (bodyOf Try.f106)) (cx := cx106 F) (hs := hintL []) (js := hintL []) Try.func106 (by kernel_rfl) (by kernel_rfl) (conf_all _ rfl) (cs106 F) mix (by kernel_rfl) (by kernel_rfl) (fun fr hn => (hok_of (l := []) (by kernel_rfl) obl_nil)) (fun x => by kernel_rfl)
def sg109 : Sig := { modes := [.ro], sh := [(0, .d (.slice (.int .i64)))], keeps := false, fresh := some (0, 2), rtys := [(.slice (.int .i64))] }
def con109 (F : Nat) : Contract := mkCon sg109 fun x => ref11_sums F x.1
def cx109 (F : Nat) : Cx := { types := tys, call := callsL [(106, con106 F)], own := [2, 3], ntmps := (0, 34) }
theorem cs109 (F : Nat) : ∀ f c, (cx109 F).call f = some c → CMet Try.prog f c := callsL_sound (calls_cons (s106 F) calls_nil)
def sh109l3 : Shape := [(0, .d (.slice (.int .i64))), (3, .own 3 (.int .i64) 2), (4, .d (.int .i64))]
def sh109l3o0 : Shape := [(3, .own 3 (.int .i64) 2)]
def outs109l3 : Outs := [(2, sh109l3o0)]
def m109l3 (F : Nat) (n : Nat) {R : Type} (x : Shape.den sh109l3) (K : Ex → St → Option R) : Option R := ref11_sums_l3 F (fun y3 => K (.exit 0) (enc sh109l3o0 (y3, ()))) n x.1 x.2.1 x.2.2.1
def hs109 (F : Nat) : Nat → Option (Hint (Dens sg109.rtys)) := hintL [(3, { sh := sh109l3, model := m109l3 F F })]
theorem ok109l3 (F : Nat) (fr : Frm) (hn : (cx109 F).ntmps = fr.n) (n : Nat) : MSound (R := (Dens sg109.rtys)) Try.prog fr (.loop (sub (bodyOf Try.f109) [1, 1, 0, 1, 0, 0])) sh109l3 (m109l3 F n) :=
  loop_sound (cx := cx109 F) (hs := hs109 F) (js := hintL []) (outs := outs109l3) (conf_all _ rfl) (cs109 F) hn mix (m := fun n => m109l3 F n) (fun _ _ => rfl) (fun n x K => by kernel_rfl) (hok_of (l := []) (by kernel_rfl) obl_nil) n
theorem s109 (F : Nat) : CSound Try.prog 109 (con109 F) :=
  fn_sound (fn := Try.f109) (code := (bodyOf Try.f109)) (cx := cx109 F) (hs := hs109 F) (js := hintL []) Try.func109 (by kernel_rfl) (by kernel_rfl) (conf_all _ rfl) (cs109 F) mix (by kernel_rfl) (by kernel_rfl) (fun fr hn => (hok_of (l := [((.loop (sub (bodyOf Try.f109) [1, 1, 0, 1, 0, 0])), { sh := sh109l3, model := m109l3 F F })]) (by kernel_rfl) (obl_cons (ok109l3 F fr hn F) obl_nil))) (fun x => by kernel_rfl)
def sg86 : Sig := { modes := [.ro, .ro, .ro], sh := [(0, .d (.slice (.int .u8))), (1, .d (.int .i64)), (2, .d (.int .i64))], keeps := false, fresh := none, rtys := [(.slice (.int .i64)), (.int .i64), (.int .i64)] }
def con86 (F : Nat) : Contract := mkCon sg86 fun x => ref11_Decode F x.1 x.2.1 x.2.2.1
def cx86 (F : Nat) : Cx := { types := tys, call := callsL [(70, con70 F), (105, con105 F), (109, con109 F), (51, con51 F), (26, con26 F)], own := [6, 55, 79], ntmps := (0, 94) }
theorem cs86 (F : Nat) : ∀ f c, (cx86 F).call f = some c → CMet Try.prog f c := callsL_sound (calls_cons (s70 F) (calls_cons (s105 F) (calls_cons (s109 F) (calls_cons (s51 F) (calls_cons (s26 F) calls_nil)))))
def sh86l12 : Shape := [(0, .d (.slice (.int .u8))), (1, .d (.int .i64)), (2, .d (.int .i64)), (9, .d (.slice (.int .u64))), (10, .d (.int .i64)), (12, .own 12 (.int .i64) 2), (13, .d (.int .i64))]
def sh86l12o0 : Shape := [(0, .d (.slice (.int .u8))), (1, .d (.int .i64)), (10, .d (.int .i64)), (12, .own 12 (.int .i64) 2)]
def outs86l12 : Outs := [(2, sh86l12o0)]
def m86l12 (F : Nat) (n : Nat) {R : Type} (x : Shape.den sh86l12) (K : Ex → St → Option R) : Option R := ref11_Decode_l12 F (fun y0 y1 y10 y12 => K (.exit 0) (enc sh86l12o0 (y0, y1, y10, y12, ()))) n x.1 x.2.1 x.2.2.1 x.2.2.2.1 x.2.2.2.2.1 x.2.2.2.2.2.1 x.2.2.2.2.2.2.1
def sh86l16 : Shape := [(0, .d (.slice (.int .u8))), (1, .d (.int .i64)), (10, .d (.int .i64)), (12, .own 12 (.int .i64) 2), (14, .d (.int .i64))]
def sh86l16o2 : Shape := [(0, .d (.slice (.int .u8))), (1, .d (.int .i64)), (10, .d (.int .i64)), (12, .own 12 (.int .i64) 2)]
def outs86l16 : Outs := [(4, sh86l16o2)]
def m86l16 (F : Nat) (n : Nat) {R : Type} (x : Shape.den sh86l16) (K : Ex → St → Option R) : Option R := ref11_Decode_l16 F (fun y0 y1 y10 y12 => K (.exit 2) (enc sh86l16o2 (y0, y1, y10, y12, ()))) n x.1 x.2.1 x.2.2.1 x.2.2.2.1 x.2.2.2.2.1
def hs86 (F : Nat) : Nat → Option (Hint (Dens sg86.rtys)) := hintL [(12, { sh := sh86l12, model := m86l12 F F }), (16, { sh := sh86l16, model := m86l16 F F })]
theorem ok86l12 (F : Nat) (fr : Frm) (hn : (cx86 F).ntmps = fr.n) (n : Nat) : MSound (R := (Dens sg86.rtys)) Try.prog fr (.loop (sub (bodyOf Try.f86) [1, 1, 1, 1, 1, 1, 1, 0, 1, 0, 0])) sh86l12 (m86l12 F n) :=
  loop_sound (cx := cx86 F) (hs := hs86 F) (js := hintL []) (outs := outs86l12) (conf_all _ rfl) (cs86 F) hn mix (m := fun n => m86l12 F n) (fun _ _ => rfl) (fun n x K => by kernel_rfl) (hok_of (l := []) (by kernel_rfl) obl_nil) n
theorem ok86l16 (F : Nat) (fr : Frm) (hn : (cx86 F).ntmps = fr.n) (n : Nat) : MSound (R := (Dens sg86.rtys)) Try.prog fr (.loop (sub (bodyOf Try.f86) [1, 1, 1, 1, 1, 1, 1, 1, 0, 1, 0, 0])) sh86l16 (m86l16 F n) :=
  loop_sound (cx := cx86 F) (hs := hs86 F) (js := hintL []) (outs := outs86l16) (conf_all _ rfl) (cs86 F) hn mix (m := fun n => m86l16 F n) (fun _ _ => rfl) (fun n x K => by kernel_rfl) (hok_of (l := []) (by kernel_rfl) obl_nil) n
theorem s86 (F : Nat) : CSound Try.prog 86 (con86 F) :=
  fn_sound (fn := Try.f86) (code := (bodyOf Try.f86)) (cx := cx86 F) (hs := hs86 F) (js := hintL []) Try.func86 (by kernel_rfl) (by kernel_rfl) (conf_all _ rfl) (cs86 F) mix (by kernel_rfl) (by kernel_rfl) (fun fr hn => (hok_of (l := [((.loop (sub (bodyOf Try.f86) [1, 1, 1, 1, 1, 1, 1, 0, 1, 0, 0])), { sh := sh86l12, model := m86l12 F F }), ((.loop (sub (bodyOf Try.f86) [1, 1, 1, 1, 1, 1, 1, 1, 0, 1, 0, 0])), { sh := sh86l16, model := m86l16 F F })]) (by kernel_rfl) (obl_cons (ok86l12 F fr hn F) (obl_cons (ok86l16 F fr hn F) obl_nil)))) (fun x => by kernel_rfl)
def sg111 : Sig := { modes := [.ro, .ro, .ro], sh := [(0, .d (.slice (.int .u8))), (1, .d (.int .i64)), (2, .d (.int .i64))], keeps := false, fresh := some (0, 3), rtys := [(.slice (.int .i64)), (.slice (.int .i64)), (.int .i64), (.int .i64)] }
def con111 (F : Nat) : Contract := mkCon sg111 fun x => ref17_ReadHead F x.1 x.2.1 x.2.2.1
def cx111 (F : Nat) : Cx := { types := tys, call := callsL [(112, con112 F), (70, con70 F), (86, con86 F)], own := [6, 7, 14], ntmps := (0, 106) }
theorem cs111 (F : Nat) : ∀ f c, (cx111 F).call f = some c → CMet Try.prog f c := callsL_sound (calls_cons (s112 F) (calls_cons (s70 F) (calls_cons (s86 F) calls_nil)))
def sh111l17 : Shape := [(1, .d (.int .i64)), (12, .d (.slice (.int .u64))), (13, .d (.slice (.int .i64))), (14, .own 14 (.int .i64) 3), (15, .d (.int .u64)), (16, .d (.int .i64))]
def sh111l17o0 : Shape := [(1, .d (.int .i64)), (13, .d (.slice (.int .i64))), (14, .own 14 (.int .i64) 3), (15, .d (.int .u64))]
def sh111l17oret : Shape := [(6, .own 6 (.int .i64) 3), (7, .own 7 (.int .i64) 2), (8, .d (.int .i64)), (9, .d (.int .i64))]
def outs111l17 : Outs := [(2, sh111l17o0), (1, sh111l17oret)]
def m111l17 (F : Nat) (n : Nat) {R : Type} (x : Shape.den sh111l17) (K : Ex → St → Option R) : Option R := ref17_ReadHead_l17 F (fun y1 y13 y14 y15 => K (.exit 0) (enc sh111l17o0 (y1, y13, y14, y15, ()))) (fun y6 y7 y8 y9 => K .ret (enc sh111l17oret (y6, y7, y8, y9, ()))) n x.1 x.2.1 x.2.2.1 x.2.2.2.1 x.2.2.2.2.1 x.2.2.2.2.2.1
def hs111 (F : Nat) : Nat → Option (Hint (Dens sg111.rtys)) := hintL [(17, { sh := sh111l17, model := m111l17 F F })]
theorem ok111l17 (F : Nat) (fr : Frm) (hn : (cx111 F).ntmps = fr.n) (n : Nat) : MSound (R := (Dens sg111.rtys)) Try.prog fr (.loop (sub (bodyOf Try.f111) [1, 1, 1, 1, 1, 1, 1, 1, 1, 1, 1, 0, 1, 0, 0])) sh111l17 (m111l17 F n) :=
  loop_sound (cx := cx111 F) (hs := hs111 F) (js := hintL []) (outs := outs111l17) (conf_all _ rfl) (cs111 F) hn mix (m := fun n => m111l17 F n) (fun _ _ => rfl) (fun n x K => by kernel_rfl) (hok_of (l := []) (by kernel_rfl) obl_nil) n
theorem s111 (F : Nat) : CSound Try.prog 111 (con111 F) :=
  fn_sound (fn := Try.f111) (code := (bodyOf Try.f111)) (cx := cx111 F) (hs := hs111 F) (js := hintL []) Try.func111 (by kernel_rfl) (by kernel_rfl) (conf_all _ rfl) (cs111 F) mix (by kernel_rfl) (by kernel_rfl) (fun fr hn => (hok_of (l := [((.loop (sub (bodyOf Try.f111) [1, 1, 1, 1, 1, 1, 1, 1, 1, 1, 1, 0, 1, 0, 0])), { sh := sh111l17, model := m111l17 F F })]) (by kernel_rfl) (obl_cons (ok111l17 F fr hn F) obl_nil))) (fun x => by kernel_rfl)
def sg93 : Sig := { modes := [.ro, .ro, .ro], sh := [(0, .d (.slice (.int .u8))), (1, .d (.int .i64)), (2, .d (.int .i64))], keeps := false, fresh := some (0, 78), rtys := [(.slice (.pair (.int .i64) (.pair (.int .i64) .unit))), (.int .i64), (.int .i64)] }
def con93 (F : Nat) : Contract := mkCon sg93 fun x => ref17_Decode F x.1 x.2.1 x.2.2.1
def cx93 (F : Nat) : Cx := { types := tys, call := callsL [(111, con111 F)], own := [6, 13], ntmps := (0, 47) }
theorem cs93 (F : Nat) : ∀ f c, (cx93 F).call f = some c → CMet Try.prog f c := callsL_sound (calls_cons (s111 F) calls_nil)
def sh93l6 : Shape := [(9, .d (.slice (.int .i64))), (10, .d (.slice (.int .i64))), (11, .d (.int .i64)), (13, .own 13 (.pair (.int .i64) (.pair (.int .i64) .unit)) 78), (14, .d (.int .i64))]
def sh93l6o0 : Shape := [(11, .d (.int .i64)), (13, .own 13 (.pair (.int .i64) (.pair (.int .i64) .unit)) 78)]
def outs93l6 : Outs := [(2, sh93l6o0)]
def m93l6 (F : Nat) (n : Nat) {R : Type} (x : Shape.den sh93l6) (K : Ex → St → Option R) : Option R := ref17_Decode_l6 F (fun y11 y13 => K (.exit 0) (enc sh93l6o0 (y11, y13, ()))) n x.1 x.2.1 x.2.2.1 x.2.2.2.1 x.2.2.2.2.1
def hs93 (F : Nat) : Nat → Option (Hint (Dens sg93.rtys)) := hintL [(6, { sh := sh93l6, model := m93l6 F F })]
theorem ok93l6 (F : Nat) (fr : Frm) (hn : (cx93 F).ntmps = fr.n) (n : Nat) : MSound (R := (Dens sg93.rtys)) Try.prog fr (.loop (sub (bodyOf Try.f93) [1, 1, 1, 1, 0, 1, 0, 0])) sh93l6 (m93l6 F n) :=
  loop_sound (cx := cx93 F) (hs := hs93 F) (js := hintL []) (outs := outs93l6) (conf_all _ rfl) (cs93 F) hn mix (m := fun n => m93l6 F n) (fun _ _ => rfl) (fun n x K => by kernel_rfl) (hok_of (l := []) (by kernel_rfl) obl_nil) n
theorem s93 (F : Nat) : CSound Try.prog 93 (con93 F) :=
  fn_sound (fn := Try.f93) (code := (bodyOf Try.f93)) (cx := cx93 F) (hs := hs93 F) (js := hintL []) Try.func93 (by kernel_rfl) (by kernel_rfl) (conf_all _ rfl) (cs93 F) mix (by kernel_rfl) (by kernel_rfl) (fun fr hn => (hok_of (l := [((.loop (sub (bodyOf Try.f93) [1, 1, 1, 1, 0, 1, 0, 0])), { sh := sh93l6, model := m93l6 F F })]) (by kernel_rfl) (obl_cons (ok93l6 F fr hn F) obl_nil))) (fun x => by kernel_rfl)
def sg61 : Sig := { modes := [.ro, .ro, .ro], sh := [(0, .d (.slice (.int .u8))), (1, .d (.int .i64)), (2, .d (.int .i64))], keeps := true, fresh := none, rtys := [.bool] }
def con61 (F : Nat) : Contract := mkCon sg61 fun x => law17_reads F x.1 x.2.1 x.2.2.1
def cx61 (F : Nat) : Cx := { types := tys, call := callsL [(62, con62 F), (93, con93 F), (63, con63 F)], own := [], ntmps := (0, 42) }
theorem cs61 (F : Nat) : ∀ f c, (cx61 F).call f = some c → CMet Try.prog f c := callsL_sound (calls_cons (s62 F) (calls_cons (s93 F) (calls_cons (s63 F) calls_nil)))
theorem s61 (F : Nat) : CSound Try.prog 61 (con61 F) :=
  fn_sound (fn := Try.f61) (code := (bodyOf Try.f61)) (cx := cx61 F) (hs := hintL []) (js := hintL []) Try.func61 (by kernel_rfl) (by kernel_rfl) (conf_all _ rfl) (cs61 F) mix (by kernel_rfl) (by kernel_rfl) (fun fr hn => (hok_of (l := []) (by kernel_rfl) obl_nil)) (fun x => by kernel_rfl)
def sg19 : Sig := { modes := [.ro, .ro, .ro, .ro], sh := [(0, .d (.slice (.int .u8))), (1, .d (.int .i64)), (2, .d (.int .i64)), (3, .d (.slice (.int .i64)))], keeps := true, fresh := none, rtys := [.bool] }
def con19 (F : Nat) : Contract := mkCon sg19 fun x => law17_ConstantsReads F x.1 x.2.1 x.2.2.1 x.2.2.2.1
def cx19 (F : Nat) : Cx := { types := tys, call := callsL [(23, con23 F), (57, con57 F), (59, con59 F), (32, con32 F), (60, con60 F), (61, con61 F), (30, con30 F), (34, con34w F)], own := [16, 24, 45], ntmps := (0, 79) }
theorem cs19 (F : Nat) : ∀ f c, (cx19 F).call f = some c → CMet Try.prog f c := callsL_sound (calls_cons (s23 F) (calls_cons (s57 F) (calls_cons (s59 F) (calls_cons (s32 F) (calls_cons (s60 F) (calls_cons (s61 F) (calls_cons (s30 F) (calls_cons (s34w F) calls_nil))))))))
theorem s19 (F : Nat) : CSound Try.prog 19 (con19 F) :=
  fn_sound (fn := Try.f19) (code := (bodyOf Try.f19)) (cx := cx19 F) (hs := hintL []) (js := hintL []) Try.func19 (by kernel_rfl) (by kernel_rfl) (conf_all _ rfl) (cs19 F) mix (by kernel_rfl) (by kernel_rfl) (fun fr hn => (hok_of (l := []) (by kernel_rfl) obl_nil)) (fun x => by kernel_rfl)
def sg12 : Sig := { modes := [.ro, .ro, .ro], sh := [(0, .d (.int .i64)), (1, .d (.int .u32)), (2, .d (.int .i64))], keeps := true, fresh := none, rtys := [.bool] }
def con12 (F : Nat) : Contract := mkCon sg12 fun x => law10_StampsRegular F x.1 x.2.1 x.2.2.1
def cx12 (F : Nat) : Cx := { types := tys, call := callsL [(32, con32 F), (40, con40 F), (44, con44 F)], own := [21, 46], ntmps := (0, 69) }
theorem cs12 (F : Nat) : ∀ f c, (cx12 F).call f = some c → CMet Try.prog f c := callsL_sound (calls_cons (s32 F) (calls_cons (s40 F) (calls_cons (s44 F) calls_nil)))
def sh12l6 : Shape := [(1, .d (.int .u32)), (2, .d (.int .i64)), (7, .own 7 (.int .i64) 2), (8, .d (.int .i64))]
def sh12l6o0 : Shape := [(2, .d (.int .i64)), (7, .own 7 (.int .i64) 2)]
def outs12l6 : Outs := [(2, sh12l6o0)]
def m12l6 (F : Nat) (n : Nat) {R : Type} (x : Shape.den sh12l6) (K : Ex → St → Option R) : Option R := law10_StampsRegular_l6 F (fun y2 y7 => K (.exit 0) (enc sh12l6o0 (y2, y7, ()))) n x.1 x.2.1 x.2.2.1 x.2.2.2.1
def sh12j4 : Shape := [(0, .d (.int .i64)), (1, .d (.int .u32)), (2, .d (.int .i64))]
def sh12j4oret : Shape := [(6, .d .bool)]
def outs12j4 : Outs := [(1, sh12j4oret)]
def m12j4 (F : Nat) {R : Type} (x : Shape.den sh12j4) (K : Ex → St → Option R) : Option R := law10_StampsRegular_j4 F (fun y6 => K .ret (enc sh12j4oret (y6, ()))) x.1 x.2.1 x.2.2.1
def hs12 (F : Nat) : Nat → Option (Hint (Dens sg12.rtys)) := hintL [(6, { sh := sh12l6, model := m12l6 F F })]
def js12 (F : Nat) : Nat → Option (Hint (Dens sg12.rtys)) := hintL [(4, { sh := sh12j4, model := m12j4 F })]
theorem ok12l6 (F : Nat) (fr : Frm) (hn : (cx12 F).ntmps = fr.n) (n : Nat) : MSound (R := (Dens sg12.rtys)) Try.prog fr (.loop (sub (bodyOf Try.f12) [1, 1, 1, 1, 0, 1, 0, 0])) sh12l6 (m12l6 F n) :=
  loop_sound (cx := cx12 F) (hs := hs12 F) (js := js12 F) (outs := outs12l6) (conf_all _ rfl) (cs12 F) hn mix (m := fun n => m12l6 F n) (fun _ _ => rfl) (fun n x K => by kernel_rfl) (hok_of (l := []) (by kernel_rfl) obl_nil) n
theorem ok12j4 (F : Nat) (fr : Frm) (hn : (cx12 F).ntmps = fr.n) : MSound (R := (Dens sg12.rtys)) Try.prog fr (sub (bodyOf Try.f12) [1, 1, 1]) sh12j4 (m12j4 F) :=
  join_sound (cx := cx12 F) (hs := hs12 F) (js := js12 F) (outs := outs12j4) (conf_all _ rfl) (cs12 F) hn mix (fun x K => by kernel_rfl) (hok_of (l := [((.loop (sub (bodyOf Try.f12) [1, 1, 1, 1, 0, 1, 0, 0])), { sh := sh12l6, model := m12l6 F F })]) (by kernel_rfl) (obl_cons (ok12l6 F fr hn F) obl_nil))
theorem s12 (F : Nat) : CSound Try.prog 12 (con12 F) :=
  fn_sound (fn := Try.f12) (code := (bodyOf Try.f12)) (cx := cx12 F) (hs := hs12 F) (js := js12 F) Try.func12 (by kernel_rfl) (by kernel_rfl) (conf_all _ rfl) (cs12 F) mix (by kernel_rfl) (by kernel_rfl) (fun fr hn => (hok_of (l := [((sub (bodyOf Try.f12) [1, 1, 1]), { sh := sh12j4, model := m12j4 F })]) (by kernel_rfl) (obl_cons (ok12j4 F fr hn) obl_nil))) (fun x => by kernel_rfl)
def sg16 : Sig := { modes := [.ro, .ro, .ro], sh := [(0, .d (.slice (.int .u8))), (1, .d (.int .i64)), (2, .d (.slice (.int .i64)))], keeps := true, fresh := none, rtys := [.bool] }
def con16 (F : Nat) : Contract := mkCon sg16 fun x => law11_ResidualCanonical F x.1 x.2.1 x.2.2.1
def cx16 (F : Nat) : Cx := { types := tys, call := callsL [(23, con23 F), (49, con49 F), (50, con50 F), (32, con32 F), (30, con30 F), (34, con34 F), (56, con56 F), (26, con26 F), (54, con54 F)], own := [21, 35], ntmps := (0, 99) }
theorem cs16 (F : Nat) : ∀ f c, (cx16 F).call f = some c → CMet Try.prog f c := callsL_sound (calls_cons (s23 F) (calls_cons (s49 F) (calls_cons (s50 F) (calls_cons (s32 F) (calls_cons (s30 F) (calls_cons (s34 F) (calls_cons (s56 F) (calls_cons (s26 F) (calls_cons (s54 F) calls_nil)))))))))
def sh16l8 : Shape := [(12, .d (.slice (.slice (.int .u8)))), (13, .d (.slice (.int .i64))), (14, .d (.int .i64))]
def sh16l8o0 : Shape := []
def sh16l8oret : Shape := [(6, .d .bool)]
def outs16l8 : Outs := [(2, sh16l8o0), (1, sh16l8oret)]
def m16l8 (F : Nat) (n : Nat) {R : Type} (x : Shape.den sh16l8) (K : Ex → St → Option R) : Option R := law11_ResidualCanonical_l8 F (K (.exit 0) (enc sh16l8o0 (()))) (fun y6 => K .ret (enc sh16l8oret (y6, ()))) n x.1 x.2.1 x.2.2.1
def hs16 (F : Nat) : Nat → Option (Hint (Dens sg16.rtys)) := hintL [(8, { sh := sh16l8, model := m16l8 F F })]
theorem ok16l8 (F : Nat) (fr : Frm) (hn : (cx16 F).ntmps = fr.n) (n : Nat) : MSound (R := (Dens sg16.rtys)) Try.prog fr (.loop (sub (bodyOf Try.f16) [1, 1, 1, 1, 1, 1, 1, 0, 1, 0, 0])) sh16l8 (m16l8 F n) :=
  loop_sound (cx := cx16 F) (hs := hs16 F) (js := hintL []) (outs := outs16l8) (conf_all _ rfl) (cs16 F) hn mix (m := fun n => m16l8 F n) (fun _ _ => rfl) (fun n x K => by kernel_rfl) (hok_of (l := []) (by kernel_rfl) obl_nil) n
theorem s16 (F : Nat) : CSound Try.prog 16 (con16 F) :=
  fn_sound (fn := Try.f16) (code := (bodyOf Try.f16)) (cx := cx16 F) (hs := hs16 F) (js := hintL []) Try.func16 (by kernel_rfl) (by kernel_rfl) (conf_all _ rfl) (cs16 F) mix (by kernel_rfl) (by kernel_rfl) (fun fr hn => (hok_of (l := [((.loop (sub (bodyOf Try.f16) [1, 1, 1, 1, 1, 1, 1, 0, 1, 0, 0])), { sh := sh16l8, model := m16l8 F F })]) (by kernel_rfl) (obl_cons (ok16l8 F fr hn F) obl_nil))) (fun x => by kernel_rfl)
def sg18 : Sig := { modes := [.ro, .ro, .ro], sh := [(0, .d (.slice (.pair (.int .i64) (.pair (.int .i64) .unit)))), (1, .d (.slice (.int .i64))), (2, .d (.int .i64))], keeps := true, fresh := none, rtys := [.bool] }
def con18 (F : Nat) : Contract := mkCon sg18 fun x => law17_ConstantsForms F x.1 x.2.1 x.2.2.1
def cx18 (F : Nat) : Cx := { types := tys, call := callsL [(23, con23 F), (57, con57 F), (30, con30 F), (32, con32 F), (58, con58 F), (59, con59 F), (26, con26 F), (60, con60 F)], own := [18, 24], ntmps := (0, 74) }
theorem cs18 (F : Nat) : ∀ f c, (cx18 F).call f = some c → CMet Try.prog f c := callsL_sound (calls_cons (s23 F) (calls_cons (s57 F) (calls_cons (s30 F) (calls_cons (s32 F) (calls_cons (s58 F) (calls_cons (s59 F) (calls_cons (s26 F) (calls_cons (s60 F) calls_nil))))))))
def sh18l8 : Shape := [(11, .d (.slice (.slice (.pair (.int .i64) (.pair (.int .i64) .unit))))), (12, .d (.int .i64))]
def sh18l8o0 : Shape := []
def sh18l8oret : Shape := [(6, .d .bool)]
def outs18l8 : Outs := [(2, sh18l8o0), (1, sh18l8oret)]
def m18l8 (F : Nat) (n : Nat) {R : Type} (x : Shape.den sh18l8) (K : Ex → St → Option R) : Option R := law17_ConstantsForms_l8 F (K (.exit 0) (enc sh18l8o0 (()))) (fun y6 => K .ret (enc sh18l8oret (y6, ()))) n x.1 x.2.1
def sh18j6 : Shape := [(0, .d (.slice (.pair (.int .i64) (.pair (.int .i64) .unit)))), (8, .d (.slice (.pair (.int .i64) (.pair (.int .i64) .unit)))), (10, .own 10 (.pair (.int .i64) (.pair (.int .i64) .unit)) 78)]
def sh18j6oret : Shape := [(6, .d .bool)]
def outs18j6 : Outs := [(1, sh18j6oret)]
def m18j6 (F : Nat) {R : Type} (x : Shape.den sh18j6) (K : Ex → St → Option R) : Option R := law17_ConstantsForms_j6 F (fun y6 => K .ret (enc sh18j6oret (y6, ()))) x.1 x.2.1 x.2.2.1
def hs18 (F : Nat) : Nat → Option (Hint (Dens sg18.rtys)) := hintL [(8, { sh := sh18l8, model := m18l8 F F })]
def js18 (F : Nat) : Nat → Option (Hint (Dens sg18.rtys)) := hintL [(6, { sh := sh18j6, model := m18j6 F })]
theorem ok18l8 (F : Nat) (fr : Frm) (hn : (cx18 F).ntmps = fr.n) (n : Nat) : MSound (R := (Dens sg18.rtys)) Try.prog fr (.loop (sub (bodyOf Try.f18) [1, 1, 1, 1, 1, 1, 0, 1, 0, 0])) sh18l8 (m18l8 F n) :=
  loop_sound (cx := cx18 F) (hs := hs18 F) (js := js18 F) (outs := outs18l8) (conf_all _ rfl) (cs18 F) hn mix (m := fun n => m18l8 F n) (fun _ _ => rfl) (fun n x K => by kernel_rfl) (hok_of (l := []) (by kernel_rfl) obl_nil) n
theorem ok18j6 (F : Nat) (fr : Frm) (hn : (cx18 F).ntmps = fr.n) : MSound (R := (Dens sg18.rtys)) Try.prog fr (sub (bodyOf Try.f18) [1, 1, 1, 1, 1]) sh18j6 (m18j6 F) :=
  join_sound (cx := cx18 F) (hs := hs18 F) (js := js18 F) (outs := outs18j6) (conf_all _ rfl) (cs18 F) hn mix (fun x K => by kernel_rfl) (hok_of (l := [((.loop (sub (bodyOf Try.f18) [1, 1, 1, 1, 1, 1, 0, 1, 0, 0])), { sh := sh18l8, model := m18l8 F F })]) (by kernel_rfl) (obl_cons (ok18l8 F fr hn F) obl_nil))
theorem s18 (F : Nat) : CSound Try.prog 18 (con18 F) :=
  fn_sound (fn := Try.f18) (code := (bodyOf Try.f18)) (cx := cx18 F) (hs := hs18 F) (js := js18 F) Try.func18 (by kernel_rfl) (by kernel_rfl) (conf_all _ rfl) (cs18 F) mix (by kernel_rfl) (by kernel_rfl) (fun fr hn => (hok_of (l := [((sub (bodyOf Try.f18) [1, 1, 1, 1, 1]), { sh := sh18j6, model := m18j6 F })]) (by kernel_rfl) (obl_cons (ok18j6 F fr hn) obl_nil))) (fun x => by kernel_rfl)
def sg55 : Sig := { modes := [.ro, .ro, .ro], sh := [(0, .d (.slice (.int .u8))), (1, .d (.int .i64)), (2, .d (.int .i64))], keeps := true, fresh := none, rtys := [.bool] }
def con55 (F : Nat) : Contract := mkCon sg55 fun x => law11_reads F x.1 x.2.1 x.2.2.1
def cx55 (F : Nat) : Cx := { types := tys, call := callsL [(56, con56 F), (86, con86 F), (48, con48 F)], own := [], ntmps := (0, 42) }
theorem cs55 (F : Nat) : ∀ f c, (cx55 F).call f = some c → CMet Try.prog f c := callsL_sound (calls_cons (s56 F) (calls_cons (s86 F) (calls_cons (s48 F) calls_nil)))
theorem s55 (F : Nat) : CSound Try.prog 55 (con55 F) :=
  fn_sound (fn := Try.f55) (code := (bodyOf Try.f55)) (cx := cx55 F) (hs := hintL []) (js := hintL []) Try.func55 (by kernel_rfl) (by kernel_rfl) (conf_all _ rfl) (cs55 F) mix (by kernel_rfl) (by kernel_rfl) (fun fr hn => (hok_of (l := []) (by kernel_rfl) obl_nil)) (fun x => by kernel_rfl)
def sg14 : Sig := { modes := [.ro, .ro, .ro, .ro], sh := [(0, .d (.slice (.int .u8))), (1, .d (.int .i64)), (2, .d (.int .i64)), (3, .d (.slice (.int .i64)))], keeps := true, fresh := none, rtys := [.bool] }
def con14 (F : Nat) : Contract := mkCon sg14 fun x => law11_ResidualReads F x.1 x.2.1 x.2.2.1 x.2.2.2.1
def cx14 (F : Nat) : Cx := { types := tys, call := callsL [(23, con23 F), (49, con49 F), (51, con51 F), (53, con53 F), (25, con25 F), (55, con55 F), (32, con32 F), (54, con54 F), (30, con30 F), (34, con34w F)], own := [20, 25, 45, 70], ntmps := (0, 101) }
theorem cs14 (F : Nat) : ∀ f c, (cx14 F).call f = some c → CMet Try.prog f c := callsL_sound (calls_cons (s23 F) (calls_cons (s49 F) (calls_cons (s51 F) (calls_cons (s53 F) (calls_cons (s25 F) (calls_cons (s55 F) (calls_cons (s32 F) (calls_cons (s54 F) (calls_cons (s30 F) (calls_cons (s34w F) calls_nil))))))))))
def sh14l5 : Shape := [(0, .d (.slice (.int .u8))), (1, .d (.int .i64)), (2, .d (.int .i64)), (9, .box 9 (.pair (.slice (.int .i64)) (.pair (.int .i64) .unit))), (10, .d (.slice (.int .i64))), (11, .own 11 (.int .u8) 5), (13, .d (.int .i64))]
def sh14l5o0 : Shape := [(0, .d (.slice (.int .u8))), (1, .d (.int .i64)), (2, .d (.int .i64)), (9, .box 9 (.pair (.slice (.int .i64)) (.pair (.int .i64) .unit))), (10, .d (.slice (.int .i64))), (11, .own 11 (.int .u8) 5)]
def sh14l5oret : Shape := [(8, .d .bool)]
def outs14l5 : Outs := [(2, sh14l5o0), (1, sh14l5oret)]
def m14l5 (F : Nat) (n : Nat) {R : Type} (x : Shape.den sh14l5) (K : Ex → St → Option R) : Option R := law11_ResidualReads_l5 F (fun y0 y1 y2 y9 y10 y11 => K (.exit 0) (enc sh14l5o0 (y0, y1, y2, y9, y10, y11, ()))) (fun y8 => K .ret (enc sh14l5oret (y8, ()))) n x.1 x.2.1 x.2.2.1 x.2.2.2.1 x.2.2.2.2.1 x.2.2.2.2.2.1 x.2.2.2.2.2.2.1
def hs14 (F : Nat) : Nat → Option (Hint (Dens sg14.rtys)) := hintL [(5, { sh := sh14l5, model := m14l5 F F })]
theorem ok14l5 (F : Nat) (fr : Frm) (hn : (cx14 F).ntmps = fr.n) (n : Nat) : MSound (R := (Dens sg14.rtys)) Try.prog fr (.loop (sub (bodyOf Try.f14) [1, 1, 1, 1, 0, 1, 0, 0])) sh14l5 (m14l5 F n) :=
  loop_sound (cx := cx14 F) (hs := hs14 F) (js := hintL []) (outs := outs14l5) (conf_all _ rfl) (cs14 F) hn mix (m := fun n => m14l5 F n) (fun _ _ => rfl) (fun n x K => by kernel_rfl) (hok_of (l := []) (by kernel_rfl) obl_nil) n
theorem s14 (F : Nat) : CSound Try.prog 14 (con14 F) :=
  fn_sound (fn := Try.f14) (code := (bodyOf Try.f14)) (cx := cx14 F) (hs := hs14 F) (js := hintL []) Try.func14 (by kernel_rfl) (by kernel_rfl) (conf_all _ rfl) (cs14 F) mix (by kernel_rfl) (by kernel_rfl) (fun fr hn => (hok_of (l := [((.loop (sub (bodyOf Try.f14) [1, 1, 1, 1, 0, 1, 0, 0])), { sh := sh14l5, model := m14l5 F F })]) (by kernel_rfl) (obl_cons (ok14l5 F fr hn F) obl_nil))) (fun x => by kernel_rfl)
def sg78 : Sig := { modes := [.ro, .ro, .ro, .ro], sh := [(0, .d (.slice (.int .u8))), (1, .d (.int .i64)), (2, .d (.int .i64)), (3, .d (.int .i64))], keeps := false, fresh := some (0, 2), rtys := [(.slice (.int .i64)), (.int .i64), (.int .i64)] }
def con78 (F : Nat) : Contract := mkCon sg78 fun x => ref10_Decode F x.1 x.2.1 x.2.2.1 x.2.2.2.1
def cx78 (F : Nat) : Cx := { types := tys, call := callsL [(70, con70 F), (76, con76 F), (106, con106 F), (105, con105 F)], own := [8, 47], ntmps := (0, 88) }
theorem cs78 (F : Nat) : ∀ f c, (cx78 F).call f = some c → CMet Try.prog f c := callsL_sound (calls_cons (s70 F) (calls_cons (s76 F) (calls_cons (s106 F) (calls_cons (s105 F) calls_nil))))
def sh78j14 : Shape := [(11, .d (.slice (.int .u64))), (12, .d (.int .i64)), (14, .own 14 (.int .i64) 2), (15, .d (.int .u64)), (16, .d (.int .i64))]
def sh78j14on : Shape := [(11, .d (.slice (.int .u64))), (12, .d (.int .i64)), (14, .own 14 (.int .i64) 2), (15, .d (.int .u64)), (16, .d (.int .i64))]
def sh78j14oret : Shape := [(8, .own 8 (.int .i64) 2), (9, .d (.int .i64)), (10, .d (.int .i64))]
def outs78j14 : Outs := [(0, sh78j14on), (1, sh78j14oret)]
def m78j14 (F : Nat) {R : Type} (x : Shape.den sh78j14) (K : Ex → St → Option R) : Option R := ref10_Decode_j14 F (fun y11 y12 y14 y15 y16 => K .normal (enc sh78j14on (y11, y12, y14, y15, y16, ()))) (fun y8 y9 y10 => K .ret (enc sh78j14oret (y8, y9, y10, ()))) x.1 x.2.1 x.2.2.1 x.2.2.2.1 x.2.2.2.2.1
def sh78l9 : Shape := [(11, .d (.slice (.int .u64))), (12, .d (.int .i64)), (14, .own 14 (.int .i64) 2), (15, .d (.int .u64)), (16, .d (.int .i64))]
def sh78l9o0 : Shape := [(12, .d (.int .i64)), (14, .own 14 (.int .i64) 2)]
def sh78l9oret : Shape := [(8, .own 8 (.int .i64) 2), (9, .d (.int .i64)), (10, .d (.int .i64))]
def outs78l9 : Outs := [(2, sh78l9o0), (1, sh78l9oret)]
def m78l9 (F : Nat) (n : Nat) {R : Type} (x : Shape.den sh78l9) (K : Ex → St → Option R) : Option R := ref10_Decode_l9 F (fun y12 y14 => K (.exit 0) (enc sh78l9o0 (y12, y14, ()))) (fun y8 y9 y10 => K .ret (enc sh78l9oret (y8, y9, y10, ()))) n x.1 x.2.1 x.2.2.1 x.2.2.2.1 x.2.2.2.2.1
def hs78 (F : Nat) : Nat → Option (Hint (Dens sg78.rtys)) := hintL [(9, { sh := sh78l9, model := m78l9 F F })]
def js78 (F : Nat) : Nat → Option (Hint (Dens sg78.rtys)) := hintL [(14, { sh := sh78j14, model := m78j14 F })]
theorem ok78j14 (F : Nat) (fr : Frm) (hn : (cx78 F).ntmps = fr.n) : MSound (R := (Dens sg78.rtys)) Try.prog fr (sub (bodyOf Try.f78) [1, 1, 1, 1, 1, 1, 0, 1, 0, 0, 1, 0, 0, 1]) sh78j14 (m78j14 F) :=
  join_sound (cx := cx78 F) (hs := hs78 F) (js := js78 F) (outs := outs78j14) (conf_all _ rfl) (cs78 F) hn mix (fun x K => by kernel_rfl) (hok_of (l := []) (by kernel_rfl) obl_nil)
theorem ok78l9 (F : Nat) (fr : Frm) (hn : (cx78 F).ntmps = fr.n) (n : Nat) : MSound (R := (Dens sg78.rtys)) Try.prog fr (.loop (sub (bodyOf Try.f78) [1, 1, 1, 1, 1, 1, 0, 1, 0, 0])) sh78l9 (m78l9 F n) :=
  loop_sound (cx := cx78 F) (hs := hs78 F) (js := js78 F) (outs := outs78l9) (conf_all _ rfl) (cs78 F) hn mix (m := fun n => m78l9 F n) (fun _ _ => rfl) (fun n x K => by kernel_rfl) (hok_of (l := [((sub (bodyOf Try.f78) [1, 1, 1, 1, 1, 1, 0, 1, 0, 0, 1, 0, 0, 1]), { sh := sh78j14, model := m78j14 F })]) (by kernel_rfl) (obl_cons (ok78j14 F fr hn) obl_nil)) n
theorem s78 (F : Nat) : CSound Try.prog 78 (con78 F) :=
  fn_sound (fn := Try.f78) (code := (bodyOf Try.f78)) (cx := cx78 F) (hs := hs78 F) (js := js78 F) Try.func78 (by kernel_rfl) (by kernel_rfl) (conf_all _ rfl) (cs78 F) mix (by kernel_rfl) (by kernel_rfl) (fun fr hn => (hok_of (l := [((.loop (sub (bodyOf Try.f78) [1, 1, 1, 1, 1, 1, 0, 1, 0, 0])), { sh := sh78l9, model := m78l9 F F })]) (by kernel_rfl) (obl_cons (ok78l9 F fr hn F) obl_nil))) (fun x => by kernel_rfl)
def sg45 : Sig := { modes := [.ro, .ro, .ro, .ro], sh := [(0, .d (.slice (.int .u8))), (1, .d (.int .i64)), (2, .d (.int .i64)), (3, .d (.int .i64))], keeps := true, fresh := none, rtys := [.bool] }
def con45 (F : Nat) : Contract := mkCon sg45 fun x => law10_reads F x.1 x.2.1 x.2.2.1 x.2.2.2.1
def cx45 (F : Nat) : Cx := { types := tys, call := callsL [(47, con47 F), (78, con78 F), (48, con48 F)], own := [], ntmps := (0, 46) }
theorem cs45 (F : Nat) : ∀ f c, (cx45 F).call f = some c → CMet Try.prog f c := callsL_sound (calls_cons (s47 F) (calls_cons (s78 F) (calls_cons (s48 F) calls_nil)))
theorem s45 (F : Nat) : CSound Try.prog 45 (con45 F) :=
  fn_sound (fn := Try.f45) (code := (bodyOf Try.f45)) (cx := cx45 F) (hs := hintL []) (js := hintL []) Try.func45 (by kernel_rfl) (by kernel_rfl) (conf_all _ rfl) (cs45 F) mix (by kernel_rfl) (by kernel_rfl) (fun fr hn => (hok_of (l := []) (by kernel_rfl) obl_nil)) (fun x => by kernel_rfl)
def sg9 : Sig := { modes := [.ro, .ro, .ro, .ro, .ro], sh := [(0, .d (.slice (.int .u8))), (1, .d (.int .i64)), (2, .d (.int .i64)), (3, .d (.int .i64)), (4, .d (.slice (.int .i64)))], keeps := true, fresh := none, rtys := [.bool] }
def con9 (F : Nat) : Contract := mkCon sg9 fun x => law10_StampsReads F x.1 x.2.1 x.2.2.1 x.2.2.2.1 x.2.2.2.2.1
def cx9 (F : Nat) : Cx := { types := tys, call := callsL [(23, con23 F), (39, con39 F), (41, con41 F), (32, con32 F), (44, con44 F), (45, con45 F), (30, con30 F), (34, con34w F), (46, con46 F)], own := [18, 23, 47], ntmps := (0, 85) }
theorem cs9 (F : Nat) : ∀ f c, (cx9 F).call f = some c → CMet Try.prog f c := callsL_sound (calls_cons (s23 F) (calls_cons (s39 F) (calls_cons (s41 F) (calls_cons (s32 F) (calls_cons (s44 F) (calls_cons (s45 F) (calls_cons (s30 F) (calls_cons (s34w F) (calls_cons (s46 F) calls_nil)))))))))
theorem s9 (F : Nat) : CSound Try.prog 9 (con9 F) :=
  fn_sound (fn := Try.f9) (code := (bodyOf Try.f9)) (cx := cx9 F) (hs := hintL []) (js := hintL []) Try.func9 (by kernel_rfl) (by kernel_rfl) (conf_all _ rfl) (cs9 F) mix (by kernel_rfl) (by kernel_rfl) (fun fr hn => (hok_of (l := []) (by kernel_rfl) obl_nil)) (fun x => by kernel_rfl)
def sg5 : Sig := { modes := [.ro, .ro, .ro], sh := [(0, .d (.slice (.int .i64))), (1, .d (.slice (.int .u8))), (2, .d (.slice (.int .u8)))], keeps := true, fresh := none, rtys := [.bool] }
def con5 (F : Nat) : Contract := mkCon sg5 fun x => law09_NumbersBack F x.1 x.2.1 x.2.2.1
def cx5 (F : Nat) : Cx := { types := tys, call := callsL [(23, con23 F), (22, con22 F), (24, con24 F), (35, con35 F), (27, con27 F), (36, con36 F)], own := [15, 22], ntmps := (0, 62) }
theorem cs5 (F : Nat) : ∀ f c, (cx5 F).call f = some c → CMet Try.prog f c := callsL_sound (calls_cons (s23 F) (calls_cons (s22 F) (calls_cons (s24 F) (calls_cons (s35 F) (calls_cons (s27 F) (calls_cons (s36 F) calls_nil))))))
theorem s5 (F : Nat) : CSound Try.prog 5 (con5 F) :=
  fn_sound (fn := Try.f5) (code := (bodyOf Try.f5)) (cx := cx5 F) (hs := hintL []) (js := hintL []) Try.func5 (by kernel_rfl) (by kernel_rfl) (conf_all _ rfl) (cs5 F) mix (by kernel_rfl) (by kernel_rfl) (fun fr hn => (hok_of (l := []) (by kernel_rfl) obl_nil)) (fun x => by kernel_rfl)
end Go.Proofs.Ytfmjokmjaghehaa
