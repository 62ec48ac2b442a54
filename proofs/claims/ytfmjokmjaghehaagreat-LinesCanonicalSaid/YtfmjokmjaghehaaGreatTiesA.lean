/- That the code computes the models. Written by program. -/
import Derived.Test.YtfmjokmjaghehaaGreatModels
import Derived.Test.YtfmjokmjaghehaaGreatLibA
import Derived.Test.YtfmjokmjaghehaaGreatLibB
set_option linter.unusedVariables false
set_option linter.unusedSimpArgs false
namespace Go.Proofs.YtfmjokmjaghehaaGreat
open Go.Eng
abbrev tyV : Ty := .pair .bool (.pair (.arr 4 (.int .u64)) .unit)
def tys : List (Nat × TyRow) := [(2, ⟨(.int .i64), 0, 8⟩), (3, ⟨(.int .i64), 0, 8⟩), (4, ⟨.bool, 0, 1⟩), (5, ⟨(.int .u8), 0, 1⟩), (22, ⟨(.slice (.pair (.int .i64) (.pair (.int .i64) (.pair (.pair tyV (.pair tyV .unit)) .unit)))), 35, 24⟩), (23, ⟨(.slice (.int .i64)), 3, 24⟩), (28, ⟨(.int .u64), 0, 8⟩), (29, ⟨(.arr 4 (.int .u64)), 0, 32⟩), (31, ⟨tyV, 0, 40⟩), (33, ⟨(.pair tyV (.pair tyV .unit)), 0, 80⟩), (35, ⟨(.pair (.int .i64) (.pair (.int .i64) (.pair (.pair tyV (.pair tyV .unit)) .unit))), 0, 96⟩), (39, ⟨(.slice (.int .u8)), 5, 24⟩), (40, ⟨(.int .i64), 0, 8⟩), (55, ⟨(.slice (.slice (.int .u8))), 39, 24⟩), (72, ⟨(.pair (.slice (.int .i64)) (.pair (.int .i64) .unit)), 0, 32⟩), (73, ⟨(.slice (.int .i64)), 2, 24⟩), (79, ⟨(.slice (.int .u64)), 28, 24⟩), (95, ⟨(.int .u64), 0, 8⟩), (104, ⟨(.slice (.pair (.int .i64) (.pair (.int .i64) .unit))), 125, 24⟩), (125, ⟨(.pair (.int .i64) (.pair (.int .i64) .unit)), 0, 16⟩), (132, ⟨(.slice (.int .u64)), 28, 24⟩), (148, ⟨(.arr 2 tyV), 0, 80⟩), (184, ⟨(.arr 5 (.int .u64)), 0, 40⟩)]
theorem row2 (cx : Cx) (h : cx.types = tys) : RowOk Tryz.prog cx 2 ⟨(.int .i64), 0, 8⟩ :=
  ⟨⟨Tryz.t2, _, by kernel_rfl, by kernel_rfl, by kernel_rfl, rfl, by kernel_rfl⟩, Tryz.underlying2, (fun h => Bool.noConfusion h), by decide⟩
theorem row3 (cx : Cx) (h : cx.types = tys) : RowOk Tryz.prog cx 3 ⟨(.int .i64), 0, 8⟩ :=
  ⟨⟨Tryz.t3, _, by kernel_rfl, by kernel_rfl, by kernel_rfl, rfl, by kernel_rfl⟩, Tryz.underlying3, (fun h => Bool.noConfusion h), by decide⟩
theorem row4 (cx : Cx) (h : cx.types = tys) : RowOk Tryz.prog cx 4 ⟨.bool, 0, 1⟩ :=
  ⟨⟨Tryz.t4, _, by kernel_rfl, by kernel_rfl, by kernel_rfl, rfl, by kernel_rfl⟩, Tryz.underlying4, (fun h => Bool.noConfusion h), by decide⟩
theorem row5 (cx : Cx) (h : cx.types = tys) : RowOk Tryz.prog cx 5 ⟨(.int .u8), 0, 1⟩ :=
  ⟨⟨Tryz.t5, _, by kernel_rfl, by kernel_rfl, by kernel_rfl, rfl, by kernel_rfl⟩, Tryz.underlying5, (fun h => Bool.noConfusion h), by decide⟩
theorem row22 (cx : Cx) (h : cx.types = tys) : RowOk Tryz.prog cx 22 ⟨(.slice (.pair (.int .i64) (.pair (.int .i64) (.pair (.pair tyV (.pair tyV .unit)) .unit)))), 35, 24⟩ :=
  ⟨⟨Tryz.t22, _, by kernel_rfl, by kernel_rfl, by kernel_rfl, rfl, by kernel_rfl⟩, ⟨Tryz.underlying22, ⟨⟨(.pair (.int .i64) (.pair (.int .i64) (.pair (.pair tyV (.pair tyV .unit)) .unit))), 0, 96⟩, by unfold Cx.row?; rw [h]; kernel_rfl, rfl⟩⟩, (fun h => Bool.noConfusion h), by decide⟩
theorem row23 (cx : Cx) (h : cx.types = tys) : RowOk Tryz.prog cx 23 ⟨(.slice (.int .i64)), 3, 24⟩ :=
  ⟨⟨Tryz.t23, _, by kernel_rfl, by kernel_rfl, by kernel_rfl, rfl, by kernel_rfl⟩, ⟨Tryz.underlying23, ⟨⟨(.int .i64), 0, 8⟩, by unfold Cx.row?; rw [h]; kernel_rfl, rfl⟩⟩, (fun h => Bool.noConfusion h), by decide⟩
theorem row28 (cx : Cx) (h : cx.types = tys) : RowOk Tryz.prog cx 28 ⟨(.int .u64), 0, 8⟩ :=
  ⟨⟨Tryz.t28, _, by kernel_rfl, by kernel_rfl, by kernel_rfl, rfl, by kernel_rfl⟩, Tryz.underlying28, (fun h => Bool.noConfusion h), by decide⟩
theorem row29 (cx : Cx) (h : cx.types = tys) : RowOk Tryz.prog cx 29 ⟨(.arr 4 (.int .u64)), 0, 32⟩ :=
  ⟨⟨Tryz.t29, _, by kernel_rfl, by kernel_rfl, by kernel_rfl, rfl, by kernel_rfl⟩, ⟨28, Tryz.underlying29, ⟨⟨(.int .u64), 0, 8⟩, by unfold Cx.row?; rw [h]; kernel_rfl, rfl⟩⟩, (fun _ => by kernel_rfl), by decide⟩
theorem row31 (cx : Cx) (h : cx.types = tys) : RowOk Tryz.prog cx 31 ⟨tyV, 0, 40⟩ :=
  ⟨⟨Tryz.t31, _, by kernel_rfl, by kernel_rfl, by kernel_rfl, rfl, by kernel_rfl⟩, ⟨_, Tryz.underlying31, ⟨rfl, ⟨⟨.bool, 0, 1⟩, by unfold Cx.row?; rw [h]; kernel_rfl, rfl⟩, by decide, by decide, ⟨rfl, ⟨⟨(.arr 4 (.int .u64)), 0, 32⟩, by unfold Cx.row?; rw [h]; kernel_rfl, rfl⟩, by decide, by decide, trivial⟩⟩, by kernel_rfl⟩, (fun _ => by kernel_rfl), by decide⟩
theorem row33 (cx : Cx) (h : cx.types = tys) : RowOk Tryz.prog cx 33 ⟨(.pair tyV (.pair tyV .unit)), 0, 80⟩ :=
  ⟨⟨Tryz.t33, _, by kernel_rfl, by kernel_rfl, by kernel_rfl, rfl, by kernel_rfl⟩, ⟨_, Tryz.underlying33, ⟨rfl, ⟨⟨tyV, 0, 40⟩, by unfold Cx.row?; rw [h]; kernel_rfl, rfl⟩, by decide, by decide, ⟨rfl, ⟨⟨tyV, 0, 40⟩, by unfold Cx.row?; rw [h]; kernel_rfl, rfl⟩, by decide, by decide, trivial⟩⟩, by kernel_rfl⟩, (fun _ => by kernel_rfl), by decide⟩
theorem row35 (cx : Cx) (h : cx.types = tys) : RowOk Tryz.prog cx 35 ⟨(.pair (.int .i64) (.pair (.int .i64) (.pair (.pair tyV (.pair tyV .unit)) .unit))), 0, 96⟩ :=
  ⟨⟨Tryz.t35, _, by kernel_rfl, by kernel_rfl, by kernel_rfl, rfl, by kernel_rfl⟩, ⟨_, Tryz.underlying35, ⟨rfl, ⟨⟨(.int .i64), 0, 8⟩, by unfold Cx.row?; rw [h]; kernel_rfl, rfl⟩, by decide, by decide, ⟨rfl, ⟨⟨(.int .i64), 0, 8⟩, by unfold Cx.row?; rw [h]; kernel_rfl, rfl⟩, by decide, by decide, ⟨rfl, ⟨⟨(.pair tyV (.pair tyV .unit)), 0, 80⟩, by unfold Cx.row?; rw [h]; kernel_rfl, rfl⟩, by decide, by decide, trivial⟩⟩⟩, by kernel_rfl⟩, (fun _ => by kernel_rfl), by decide⟩
theorem row39 (cx : Cx) (h : cx.types = tys) : RowOk Tryz.prog cx 39 ⟨(.slice (.int .u8)), 5, 24⟩ :=
  ⟨⟨Tryz.t39, _, by kernel_rfl, by kernel_rfl, by kernel_rfl, rfl, by kernel_rfl⟩, ⟨Tryz.underlying39, ⟨⟨(.int .u8), 0, 1⟩, by unfold Cx.row?; rw [h]; kernel_rfl, rfl⟩⟩, (fun h => Bool.noConfusion h), by decide⟩
theorem row40 (cx : Cx) (h : cx.types = tys) : RowOk Tryz.prog cx 40 ⟨(.int .i64), 0, 8⟩ :=
  ⟨⟨Tryz.t40, _, by kernel_rfl, by kernel_rfl, by kernel_rfl, rfl, by kernel_rfl⟩, Tryz.underlying40, (fun h => Bool.noConfusion h), by decide⟩
theorem row55 (cx : Cx) (h : cx.types = tys) : RowOk Tryz.prog cx 55 ⟨(.slice (.slice (.int .u8))), 39, 24⟩ :=
  ⟨⟨Tryz.t55, _, by kernel_rfl, by kernel_rfl, by kernel_rfl, rfl, by kernel_rfl⟩, ⟨Tryz.underlying55, ⟨⟨(.slice (.int .u8)), 5, 24⟩, by unfold Cx.row?; rw [h]; kernel_rfl, rfl⟩⟩, (fun h => Bool.noConfusion h), by decide⟩
theorem row72 (cx : Cx) (h : cx.types = tys) : RowOk Tryz.prog cx 72 ⟨(.pair (.slice (.int .i64)) (.pair (.int .i64) .unit)), 0, 32⟩ :=
  ⟨⟨Tryz.t72, _, by kernel_rfl, by kernel_rfl, by kernel_rfl, rfl, by kernel_rfl⟩, ⟨_, Tryz.underlying72, ⟨rfl, ⟨⟨(.slice (.int .i64)), 3, 24⟩, by unfold Cx.row?; rw [h]; kernel_rfl, rfl⟩, by decide, by decide, ⟨rfl, ⟨⟨(.int .i64), 0, 8⟩, by unfold Cx.row?; rw [h]; kernel_rfl, rfl⟩, by decide, by decide, trivial⟩⟩, by kernel_rfl⟩, (fun _ => by kernel_rfl), by decide⟩
theorem row73 (cx : Cx) (h : cx.types = tys) : RowOk Tryz.prog cx 73 ⟨(.slice (.int .i64)), 2, 24⟩ :=
  ⟨⟨Tryz.t73, _, by kernel_rfl, by kernel_rfl, by kernel_rfl, rfl, by kernel_rfl⟩, ⟨Tryz.underlying73, ⟨⟨(.int .i64), 0, 8⟩, by unfold Cx.row?; rw [h]; kernel_rfl, rfl⟩⟩, (fun h => Bool.noConfusion h), by decide⟩
theorem row79 (cx : Cx) (h : cx.types = tys) : RowOk Tryz.prog cx 79 ⟨(.slice (.int .u64)), 28, 24⟩ :=
  ⟨⟨Tryz.t79, _, by kernel_rfl, by kernel_rfl, by kernel_rfl, rfl, by kernel_rfl⟩, ⟨Tryz.underlying79, ⟨⟨(.int .u64), 0, 8⟩, by unfold Cx.row?; rw [h]; kernel_rfl, rfl⟩⟩, (fun h => Bool.noConfusion h), by decide⟩
theorem row95 (cx : Cx) (h : cx.types = tys) : RowOk Tryz.prog cx 95 ⟨(.int .u64), 0, 8⟩ :=
  ⟨⟨Tryz.t95, _, by kernel_rfl, by kernel_rfl, by kernel_rfl, rfl, by kernel_rfl⟩, Tryz.underlying95, (fun h => Bool.noConfusion h), by decide⟩
theorem row104 (cx : Cx) (h : cx.types = tys) : RowOk Tryz.prog cx 104 ⟨(.slice (.pair (.int .i64) (.pair (.int .i64) .unit))), 125, 24⟩ :=
  ⟨⟨Tryz.t104, _, by kernel_rfl, by kernel_rfl, by kernel_rfl, rfl, by kernel_rfl⟩, ⟨Tryz.underlying104, ⟨⟨(.pair (.int .i64) (.pair (.int .i64) .unit)), 0, 16⟩, by unfold Cx.row?; rw [h]; kernel_rfl, rfl⟩⟩, (fun h => Bool.noConfusion h), by decide⟩
theorem row125 (cx : Cx) (h : cx.types = tys) : RowOk Tryz.prog cx 125 ⟨(.pair (.int .i64) (.pair (.int .i64) .unit)), 0, 16⟩ :=
  ⟨⟨Tryz.t125, _, by kernel_rfl, by kernel_rfl, by kernel_rfl, rfl, by kernel_rfl⟩, ⟨_, Tryz.underlying125, ⟨rfl, ⟨⟨(.int .i64), 0, 8⟩, by unfold Cx.row?; rw [h]; kernel_rfl, rfl⟩, by decide, by decide, ⟨rfl, ⟨⟨(.int .i64), 0, 8⟩, by unfold Cx.row?; rw [h]; kernel_rfl, rfl⟩, by decide, by decide, trivial⟩⟩, by kernel_rfl⟩, (fun _ => by kernel_rfl), by decide⟩
theorem row132 (cx : Cx) (h : cx.types = tys) : RowOk Tryz.prog cx 132 ⟨(.slice (.int .u64)), 28, 24⟩ :=
  ⟨⟨Tryz.t132, _, by kernel_rfl, by kernel_rfl, by kernel_rfl, rfl, by kernel_rfl⟩, ⟨Tryz.underlying132, ⟨⟨(.int .u64), 0, 8⟩, by unfold Cx.row?; rw [h]; kernel_rfl, rfl⟩⟩, (fun h => Bool.noConfusion h), by decide⟩
theorem row148 (cx : Cx) (h : cx.types = tys) : RowOk Tryz.prog cx 148 ⟨(.arr 2 tyV), 0, 80⟩ :=
  ⟨⟨Tryz.t148, _, by kernel_rfl, by kernel_rfl, by kernel_rfl, rfl, by kernel_rfl⟩, ⟨31, Tryz.underlying148, ⟨⟨tyV, 0, 40⟩, by unfold Cx.row?; rw [h]; kernel_rfl, rfl⟩⟩, (fun _ => by kernel_rfl), by decide⟩
theorem row184 (cx : Cx) (h : cx.types = tys) : RowOk Tryz.prog cx 184 ⟨(.arr 5 (.int .u64)), 0, 40⟩ :=
  ⟨⟨Tryz.t184, _, by kernel_rfl, by kernel_rfl, by kernel_rfl, rfl, by kernel_rfl⟩, ⟨28, Tryz.underlying184, ⟨⟨(.int .u64), 0, 8⟩, by unfold Cx.row?; rw [h]; kernel_rfl, rfl⟩⟩, (fun _ => by kernel_rfl), by decide⟩
theorem conf_all (cx : Cx) (h : cx.types = tys) : Conf Tryz.prog cx := conf_of h (rows_cons (row2 cx h) (rows_cons (row3 cx h) (rows_cons (row4 cx h) (rows_cons (row5 cx h) (rows_cons (row22 cx h) (rows_cons (row23 cx h) (rows_cons (row28 cx h) (rows_cons (row29 cx h) (rows_cons (row31 cx h) (rows_cons (row33 cx h) (rows_cons (row35 cx h) (rows_cons (row39 cx h) (rows_cons (row40 cx h) (rows_cons (row55 cx h) (rows_cons (row72 cx h) (rows_cons (row73 cx h) (rows_cons (row79 cx h) (rows_cons (row95 cx h) (rows_cons (row104 cx h) (rows_cons (row125 cx h) (rows_cons (row132 cx h) (rows_cons (row148 cx h) (rows_cons (row184 cx h) rows_nil)))))))))))))))))))))))
theorem mix : Tryz.prog.follows .mixedOrders = true := by kernel_rfl
def con187 (F : Nat) : Contract := mkCon sgLen64 fun x => bits_Len64 F x.1
theorem s187 (F : Nat) : CSound Tryz.prog 187 (con187 F) := len64_sound F (by kernel_rfl) fun x w h0 h1 => bits_Len64_calls x w h0 h1
def con183 (F : Nat) : Contract := mkCon sgCarry fun x => bits_Add64 F x.1 x.2.1 x.2.2.1
theorem s183 (F : Nat) : CExt Tryz.prog 183 (con183 F) := add64_ext F Tryz.func183 (by kernel_rfl) (by kernel_rfl) (by kernel_rfl) (by kernel_rfl)
def con210 (F : Nat) : Contract := mkCon sgCarry fun x => bits_Sub64 F x.1 x.2.1 x.2.2.1
theorem s210 (F : Nat) : CExt Tryz.prog 210 (con210 F) := sub64_ext F Tryz.func210 (by kernel_rfl) (by kernel_rfl) (by kernel_rfl) (by kernel_rfl)
def con93 (F : Nat) : Contract := mkCon (sgGrow (.int .u8) 5) fun x => slices_Grow_byte F x.1 x.2.1
def cx93 : Cx := { types := tys, call := callsL [], own := [], ntmps := (0, 0) }
theorem s93 (F : Nat) : CSound Tryz.prog 93 (con93 F) := grow_sound (cx := cx93) (conf_all _ rfl) (by kernel_rfl : cx93.row? 5 = some ⟨(.int .u8), 0, 1⟩) rfl (by kernel_rfl) (by decide) (fun base l c n w => slices_Grow_byte_room base l c n w) (fun i0 z hi hz hs base l c n cs w => slices_Grow_byte_grow i0 z hi hz hs base l c n cs w)
def sg11 : Sig := { modes := [.ro], sh := [(0, .d (.slice (.int .i64)))], keeps := false, fresh := some (0, 0), rtys := [(.pair (.slice (.int .i64)) (.pair (.int .i64) .unit))] }
def con11 (F : Nat) : Contract := mkCon sg11 fun x => made_New F x.1
def cx11 (F : Nat) : Cx := { types := tys, call := callsL [], own := [], ntmps := (0, 6) }
theorem cs11 (F : Nat) : ∀ f c, (cx11 F).call f = some c → CMet Tryz.prog f c := callsL_sound calls_nil
theorem s11 (F : Nat) : CSound Tryz.prog 11 (con11 F) :=
  fn_sound (fn := Tryz.f11) (code := (bodyOf Tryz.f11)) (cx := cx11 F) (hs := hintL []) (js := hintL []) Tryz.func11 (by kernel_rfl) (by kernel_rfl) (conf_all _ rfl) (cs11 F) mix (by kernel_rfl) (by kernel_rfl) (fun fr hn => (hok_of (l := []) (by kernel_rfl) obl_nil)) (fun x => by kernel_rfl)
def sg21 : Sig := { modes := [.ro, .ro], sh := [(0, .d (.int .i64)), (1, .d (.int .i64))], keeps := true, fresh := none, rtys := [(.int .i64)] }
def con21 (F : Nat) : Contract := mkCon sg21 fun x => made_Mod F x.1 x.2.1
def cx21 (F : Nat) : Cx := { types := tys, call := callsL [], own := [], ntmps := (0, 16) }
theorem cs21 (F : Nat) : ∀ f c, (cx21 F).call f = some c → CMet Tryz.prog f c := callsL_sound calls_nil
theorem s21 (F : Nat) : CSound Tryz.prog 21 (con21 F) :=
  fn_sound (fn := Tryz.f21) (code := (bodyOf Tryz.f21)) (cx := cx21 F) (hs := hintL []) (js := hintL []) Tryz.func21 (by kernel_rfl) (by kernel_rfl) (conf_all _ rfl) (cs21 F) mix (by kernel_rfl) (by kernel_rfl) (fun fr hn => (hok_of (l := []) (by kernel_rfl) obl_nil)) (fun x => by kernel_rfl)
def sg13 : Sig := { modes := [.bor, .ro], sh := [(0, .box 0 (.pair (.slice (.int .i64)) (.pair (.int .i64) .unit))), (1, .d (.int .i64))], keeps := false, fresh := none, rtys := [(.pair (.slice (.int .i64)) (.pair (.int .i64) .unit)), (.int .i64)] }
def con13 (F : Nat) : Contract := mkCon sg13 fun x => made_Tape_Next F x.1 x.2.1
def cx13 (F : Nat) : Cx := { types := tys, call := callsL [(21, con21 F)], own := [], ntmps := (1, 35) }
theorem cs13 (F : Nat) : ∀ f c, (cx13 F).call f = some c → CMet Tryz.prog f c := callsL_sound (calls_cons (s21 F) calls_nil)
theorem s13 (F : Nat) : CSound Tryz.prog 13 (con13 F) :=
  fn_sound (fn := Tryz.f13) (code := (bodyOf Tryz.f13)) (cx := cx13 F) (hs := hintL []) (js := hintL []) Tryz.func13 (by kernel_rfl) (by kernel_rfl) (conf_all _ rfl) (cs13 F) mix (by kernel_rfl) (by kernel_rfl) (fun fr hn => (hok_of (l := []) (by kernel_rfl) obl_nil)) (fun x => by kernel_rfl)
def sg40 : Sig := { modes := [.bor], sh := [(0, .box 0 (.pair (.slice (.int .i64)) (.pair (.int .i64) .unit)))], keeps := false, fresh := none, rtys := [(.pair (.slice (.int .i64)) (.pair (.int .i64) .unit)), (.int .u64)] }
def con40 (F : Nat) : Contract := mkCon sg40 fun x => made_Tape_Word F x.1
def cx40 (F : Nat) : Cx := { types := tys, call := callsL [(13, con13 F)], own := [], ntmps := (1, 16) }
theorem cs40 (F : Nat) : ∀ f c, (cx40 F).call f = some c → CMet Tryz.prog f c := callsL_sound (calls_cons (s13 F) calls_nil)
def sh40l3 : Shape := [(0, .box 0 (.pair (.slice (.int .i64)) (.pair (.int .i64) .unit))), (3, .d (.int .u64)), (4, .d (.int .i64))]
def sh40l3o0 : Shape := [(0, .box 0 (.pair (.slice (.int .i64)) (.pair (.int .i64) .unit))), (3, .d (.int .u64))]
def outs40l3 : Outs := [(2, sh40l3o0)]
def m40l3 (F : Nat) (n : Nat) {R : Type} (x : Shape.den sh40l3) (K : Ex → St → Option R) : Option R := made_Tape_Word_l3 F (fun y0 y3 => K (.exit 0) (enc sh40l3o0 (y0, y3, ()))) n x.1 x.2.1 x.2.2.1
def hs40 (F : Nat) : Nat → Option (Hint (Dens sg40.rtys)) := hintL [(3, { sh := sh40l3, model := m40l3 F F })]
theorem ok40l3 (F : Nat) (fr : Frm) (hn : (cx40 F).ntmps = fr.n) (n : Nat) : MSound (R := (Dens sg40.rtys)) Tryz.prog fr (.loop (sub (bodyOf Tryz.f40) [1, 1, 0, 1, 0, 0])) sh40l3 (m40l3 F n) :=
  loop_sound (cx := cx40 F) (hs := hs40 F) (js := hintL []) (outs := outs40l3) (conf_all _ rfl) (cs40 F) hn mix (m := fun n => m40l3 F n) (fun _ _ => rfl) (fun n x K => by kernel_rfl) (hok_of (l := []) (by kernel_rfl) obl_nil) n
theorem s40 (F : Nat) : CSound Tryz.prog 40 (con40 F) :=
  fn_sound (fn := Tryz.f40) (code := (bodyOf Tryz.f40)) (cx := cx40 F) (hs := hs40 F) (js := hintL []) Tryz.func40 (by kernel_rfl) (by kernel_rfl) (conf_all _ rfl) (cs40 F) mix (by kernel_rfl) (by kernel_rfl) (fun fr hn => (hok_of (l := [((.loop (sub (bodyOf Tryz.f40) [1, 1, 0, 1, 0, 0])), { sh := sh40l3, model := m40l3 F F })]) (by kernel_rfl) (obl_cons (ok40l3 F fr hn F) obl_nil))) (fun x => by kernel_rfl)
def sg43 : Sig := { modes := [.bor], sh := [(0, .box 0 (.pair (.slice (.int .i64)) (.pair (.int .i64) .unit)))], keeps := false, fresh := none, rtys := [(.pair (.slice (.int .i64)) (.pair (.int .i64) .unit)), (.int .i64)] }
def con43 (F : Nat) : Contract := mkCon sg43 fun x => made_Tape_Int F x.1
def cx43 (F : Nat) : Cx := { types := tys, call := callsL [(13, con13 F), (40, con40 F)], own := [], ntmps := (1, 32) }
theorem cs43 (F : Nat) : ∀ f c, (cx43 F).call f = some c → CMet Tryz.prog f c := callsL_sound (calls_cons (s13 F) (calls_cons (s40 F) calls_nil))
theorem s43 (F : Nat) : CSound Tryz.prog 43 (con43 F) :=
  fn_sound (fn := Tryz.f43) (code := (bodyOf Tryz.f43)) (cx := cx43 F) (hs := hintL []) (js := hintL []) Tryz.func43 (by kernel_rfl) (by kernel_rfl) (conf_all _ rfl) (cs43 F) mix (by kernel_rfl) (by kernel_rfl) (fun fr hn => (hok_of (l := []) (by kernel_rfl) obl_nil)) (fun x => by kernel_rfl)
def sg41 : Sig := { modes := [.bor, .ro], sh := [(0, .box 0 (.pair (.slice (.int .i64)) (.pair (.int .i64) .unit))), (1, .d (.int .i64))], keeps := false, fresh := none, rtys := [(.pair (.slice (.int .i64)) (.pair (.int .i64) .unit)), .bool] }
def con41 (F : Nat) : Contract := mkCon sg41 fun x => made_Tape_Bool F x.1 x.2.1
def cx41 (F : Nat) : Cx := { types := tys, call := callsL [(13, con13 F)], own := [], ntmps := (1, 11) }
theorem cs41 (F : Nat) : ∀ f c, (cx41 F).call f = some c → CMet Tryz.prog f c := callsL_sound (calls_cons (s13 F) calls_nil)
theorem s41 (F : Nat) : CSound Tryz.prog 41 (con41 F) :=
  fn_sound (fn := Tryz.f41) (code := (bodyOf Tryz.f41)) (cx := cx41 F) (hs := hintL []) (js := hintL []) Tryz.func41 (by kernel_rfl) (by kernel_rfl) (conf_all _ rfl) (cs41 F) mix (by kernel_rfl) (by kernel_rfl) (fun fr hn => (hok_of (l := []) (by kernel_rfl) obl_nil)) (fun x => by kernel_rfl)
def sg140 : Sig := { modes := [.bor, .ro], sh := [(0, .box 0 (.pair (.slice (.int .i64)) (.pair (.int .i64) .unit))), (1, .d (.int .i64))], keeps := false, fresh := some (0, 2), rtys := [(.pair (.slice (.int .i64)) (.pair (.int .i64) .unit)), (.slice (.int .i64))] }
def con140 (F : Nat) : Contract := mkCon sg140 fun x => made_Tape_Times F x.1 x.2.1
def cx140 (F : Nat) : Cx := { types := tys, call := callsL [(13, con13 F), (43, con43 F), (40, con40 F), (41, con41 F)], own := [4, 5], ntmps := (1, 80) }
theorem cs140 (F : Nat) : ∀ f c, (cx140 F).call f = some c → CMet Tryz.prog f c := callsL_sound (calls_cons (s13 F) (calls_cons (s43 F) (calls_cons (s40 F) (calls_cons (s41 F) calls_nil))))
def sh140j20 : Shape := [(0, .box 0 (.pair (.slice (.int .i64)) (.pair (.int .i64) .unit))), (5, .own 5 (.int .i64) 2), (6, .d (.int .i64)), (7, .d (.int .i64)), (8, .d (.int .u64)), (9, .d (.int .i64)), (10, .d (.int .u64))]
def sh140j20on : Shape := [(0, .box 0 (.pair (.slice (.int .i64)) (.pair (.int .i64) .unit))), (5, .own 5 (.int .i64) 2), (6, .d (.int .i64)), (7, .d (.int .i64)), (8, .d (.int .u64)), (9, .d (.int .i64))]
def sh140j20oret : Shape := [(0, .box 0 (.pair (.slice (.int .i64)) (.pair (.int .i64) .unit))), (4, .own 4 (.int .i64) 2)]
def outs140j20 : Outs := [(0, sh140j20on), (1, sh140j20oret)]
def m140j20 (F : Nat) {R : Type} (x : Shape.den sh140j20) (K : Ex → St → Option R) : Option R := made_Tape_Times_j20 F (fun y0 y5 y6 y7 y8 y9 => K .normal (enc sh140j20on (y0, y5, y6, y7, y8, y9, ()))) (fun y0 y4 => K .ret (enc sh140j20oret (y0, y4, ()))) x.1 x.2.1 x.2.2.1 x.2.2.2.1 x.2.2.2.2.1 x.2.2.2.2.2.1 x.2.2.2.2.2.2.1
def sh140l6 : Shape := [(0, .box 0 (.pair (.slice (.int .i64)) (.pair (.int .i64) .unit))), (5, .own 5 (.int .i64) 2), (6, .d (.int .i64)), (7, .d (.int .i64)), (8, .d (.int .u64)), (9, .d (.int .i64))]
def sh140l6o0 : Shape := [(0, .box 0 (.pair (.slice (.int .i64)) (.pair (.int .i64) .unit))), (5, .own 5 (.int .i64) 2)]
def sh140l6oret : Shape := [(0, .box 0 (.pair (.slice (.int .i64)) (.pair (.int .i64) .unit))), (4, .own 4 (.int .i64) 2)]
def outs140l6 : Outs := [(2, sh140l6o0), (1, sh140l6oret)]
def m140l6 (F : Nat) (n : Nat) {R : Type} (x : Shape.den sh140l6) (K : Ex → St → Option R) : Option R := made_Tape_Times_l6 F (fun y0 y5 => K (.exit 0) (enc sh140l6o0 (y0, y5, ()))) (fun y0 y4 => K .ret (enc sh140l6oret (y0, y4, ()))) n x.1 x.2.1 x.2.2.1 x.2.2.2.1 x.2.2.2.2.1 x.2.2.2.2.2.1
def hs140 (F : Nat) : Nat → Option (Hint (Dens sg140.rtys)) := hintL [(6, { sh := sh140l6, model := m140l6 F F })]
def js140 (F : Nat) : Nat → Option (Hint (Dens sg140.rtys)) := hintL [(20, { sh := sh140j20, model := m140j20 F })]
theorem ok140j20 (F : Nat) (fr : Frm) (hn : (cx140 F).ntmps = fr.n) : MSound (R := (Dens sg140.rtys)) Tryz.prog fr (sub (bodyOf Tryz.f140) [1, 1, 1, 1, 1, 0, 1, 0, 0, 1, 0, 0, 1, 1, 1]) sh140j20 (m140j20 F) :=
  join_sound (cx := cx140 F) (hs := hs140 F) (js := js140 F) (outs := outs140j20) (conf_all _ rfl) (cs140 F) hn mix (fun x K => by kernel_rfl) (hok_of (l := []) (by kernel_rfl) obl_nil)
theorem ok140l6 (F : Nat) (fr : Frm) (hn : (cx140 F).ntmps = fr.n) (n : Nat) : MSound (R := (Dens sg140.rtys)) Tryz.prog fr (.loop (sub (bodyOf Tryz.f140) [1, 1, 1, 1, 1, 0, 1, 0, 0])) sh140l6 (m140l6 F n) :=
  loop_sound (cx := cx140 F) (hs := hs140 F) (js := js140 F) (outs := outs140l6) (conf_all _ rfl) (cs140 F) hn mix (m := fun n => m140l6 F n) (fun _ _ => rfl) (fun n x K => by kernel_rfl) (hok_of (l := [((sub (bodyOf Tryz.f140) [1, 1, 1, 1, 1, 0, 1, 0, 0, 1, 0, 0, 1, 1, 1]), { sh := sh140j20, model := m140j20 F })]) (by kernel_rfl) (obl_cons (ok140j20 F fr hn) obl_nil)) n
theorem s140 (F : Nat) : CSound Tryz.prog 140 (con140 F) :=
  fn_sound (fn := Tryz.f140) (code := (bodyOf Tryz.f140)) (cx := cx140 F) (hs := hs140 F) (js := js140 F) Tryz.func140 (by kernel_rfl) (by kernel_rfl) (conf_all _ rfl) (cs140 F) mix (by kernel_rfl) (by kernel_rfl) (fun fr hn => (hok_of (l := [((.loop (sub (bodyOf Tryz.f140) [1, 1, 1, 1, 1, 0, 1, 0, 0])), { sh := sh140l6, model := m140l6 F F })]) (by kernel_rfl) (obl_cons (ok140l6 F fr hn F) obl_nil))) (fun x => by kernel_rfl)
def sg85 : Sig := { modes := [.bor, .ro], sh := [(0, .box 0 (.pair (.slice (.int .i64)) (.pair (.int .i64) .unit))), (1, .d (.int .i64))], keeps := false, fresh := some (0, 125), rtys := [(.pair (.slice (.int .i64)) (.pair (.int .i64) .unit)), (.slice (.pair (.int .i64) (.pair (.int .i64) .unit)))] }
def con85 (F : Nat) : Contract := mkCon sg85 fun x => made_Tape_Samples F x.1 x.2.1
def cx85 (F : Nat) : Cx := { types := tys, call := callsL [(140, con140 F), (13, con13 F), (43, con43 F), (41, con41 F)], own := [4, 6], ntmps := (1, 91) }
theorem cs85 (F : Nat) : ∀ f c, (cx85 F).call f = some c → CMet Tryz.prog f c := callsL_sound (calls_cons (s140 F) (calls_cons (s13 F) (calls_cons (s43 F) (calls_cons (s41 F) calls_nil))))
def sh85l6 : Shape := [(0, .box 0 (.pair (.slice (.int .i64)) (.pair (.int .i64) .unit))), (5, .d (.slice (.int .i64))), (6, .own 6 (.pair (.int .i64) (.pair (.int .i64) .unit)) 125), (7, .d (.int .i64)), (8, .d (.int .i64)), (9, .d (.int .i64)), (10, .d (.int .i64))]
def sh85l6o0 : Shape := [(0, .box 0 (.pair (.slice (.int .i64)) (.pair (.int .i64) .unit))), (6, .own 6 (.pair (.int .i64) (.pair (.int .i64) .unit)) 125)]
def outs85l6 : Outs := [(2, sh85l6o0)]
def m85l6 (F : Nat) (n : Nat) {R : Type} (x : Shape.den sh85l6) (K : Ex → St → Option R) : Option R := made_Tape_Samples_l6 F (fun y0 y6 => K (.exit 0) (enc sh85l6o0 (y0, y6, ()))) n x.1 x.2.1 x.2.2.1 x.2.2.2.1 x.2.2.2.2.1 x.2.2.2.2.2.1 x.2.2.2.2.2.2.1
def hs85 (F : Nat) : Nat → Option (Hint (Dens sg85.rtys)) := hintL [(6, { sh := sh85l6, model := m85l6 F F })]
theorem ok85l6 (F : Nat) (fr : Frm) (hn : (cx85 F).ntmps = fr.n) (n : Nat) : MSound (R := (Dens sg85.rtys)) Tryz.prog fr (.loop (sub (bodyOf Tryz.f85) [1, 1, 1, 1, 1, 0, 1, 0, 0])) sh85l6 (m85l6 F n) :=
  loop_sound (cx := cx85 F) (hs := hs85 F) (js := hintL []) (outs := outs85l6) (conf_all _ rfl) (cs85 F) hn mix (m := fun n => m85l6 F n) (fun _ _ => rfl) (fun n x K => by kernel_rfl) (hok_of (l := []) (by kernel_rfl) obl_nil) n
theorem s85 (F : Nat) : CSound Tryz.prog 85 (con85 F) :=
  fn_sound (fn := Tryz.f85) (code := (bodyOf Tryz.f85)) (cx := cx85 F) (hs := hs85 F) (js := hintL []) Tryz.func85 (by kernel_rfl) (by kernel_rfl) (conf_all _ rfl) (cs85 F) mix (by kernel_rfl) (by kernel_rfl) (fun fr hn => (hok_of (l := [((.loop (sub (bodyOf Tryz.f85) [1, 1, 1, 1, 1, 0, 1, 0, 0])), { sh := sh85l6, model := m85l6 F F })]) (by kernel_rfl) (obl_cons (ok85l6 F fr hn F) obl_nil))) (fun x => by kernel_rfl)
def sg37 : Sig := { modes := [.bor, .ro], sh := [(0, .box 0 (.pair (.slice (.int .i64)) (.pair (.int .i64) .unit))), (1, .d (.int .i64))], keeps := false, fresh := some (0, 2), rtys := [(.pair (.slice (.int .i64)) (.pair (.int .i64) .unit)), (.slice (.int .i64))] }
def con37 (F : Nat) : Contract := mkCon sg37 fun x => made_Tape_Values F x.1 x.2.1
def cx37 (F : Nat) : Cx := { types := tys, call := callsL [(85, con85 F)], own := [4, 6], ntmps := (1, 26) }
theorem cs37 (F : Nat) : ∀ f c, (cx37 F).call f = some c → CMet Tryz.prog f c := callsL_sound (calls_cons (s85 F) calls_nil)
def sh37l4 : Shape := [(0, .box 0 (.pair (.slice (.int .i64)) (.pair (.int .i64) .unit))), (5, .d (.slice (.pair (.int .i64) (.pair (.int .i64) .unit)))), (6, .own 6 (.int .i64) 2), (7, .d (.int .i64))]
def sh37l4o0 : Shape := [(0, .box 0 (.pair (.slice (.int .i64)) (.pair (.int .i64) .unit))), (6, .own 6 (.int .i64) 2)]
def outs37l4 : Outs := [(2, sh37l4o0)]
def m37l4 (F : Nat) (n : Nat) {R : Type} (x : Shape.den sh37l4) (K : Ex → St → Option R) : Option R := made_Tape_Values_l4 F (fun y0 y6 => K (.exit 0) (enc sh37l4o0 (y0, y6, ()))) n x.1 x.2.1 x.2.2.1 x.2.2.2.1
def hs37 (F : Nat) : Nat → Option (Hint (Dens sg37.rtys)) := hintL [(4, { sh := sh37l4, model := m37l4 F F })]
theorem ok37l4 (F : Nat) (fr : Frm) (hn : (cx37 F).ntmps = fr.n) (n : Nat) : MSound (R := (Dens sg37.rtys)) Tryz.prog fr (.loop (sub (bodyOf Tryz.f37) [1, 1, 1, 0, 1, 0, 0])) sh37l4 (m37l4 F n) :=
  loop_sound (cx := cx37 F) (hs := hs37 F) (js := hintL []) (outs := outs37l4) (conf_all _ rfl) (cs37 F) hn mix (m := fun n => m37l4 F n) (fun _ _ => rfl) (fun n x K => by kernel_rfl) (hok_of (l := []) (by kernel_rfl) obl_nil) n
theorem s37 (F : Nat) : CSound Tryz.prog 37 (con37 F) :=
  fn_sound (fn := Tryz.f37) (code := (bodyOf Tryz.f37)) (cx := cx37 F) (hs := hs37 F) (js := hintL []) Tryz.func37 (by kernel_rfl) (by kernel_rfl) (conf_all _ rfl) (cs37 F) mix (by kernel_rfl) (by kernel_rfl) (fun fr hn => (hok_of (l := [((.loop (sub (bodyOf Tryz.f37) [1, 1, 1, 0, 1, 0, 0])), { sh := sh37l4, model := m37l4 F F })]) (by kernel_rfl) (obl_cons (ok37l4 F fr hn F) obl_nil))) (fun x => by kernel_rfl)
def sg42 : Sig := { modes := [.ro], sh := [(0, .d (.int .i64))], keeps := true, fresh := none, rtys := [tyV] }
def con42 (F : Nat) : Contract := mkCon sg42 fun x => ref02_Of F x.1
def cx42 (F : Nat) : Cx := { types := tys, call := callsL [], own := [], ntmps := (0, 14) }
theorem cs42 (F : Nat) : ∀ f c, (cx42 F).call f = some c → CMet Tryz.prog f c := callsL_sound calls_nil
theorem s42 (F : Nat) : CSound Tryz.prog 42 (con42 F) :=
  fn_sound (fn := Tryz.f42) (code := (bodyOf Tryz.f42)) (cx := cx42 F) (hs := hintL []) (js := hintL []) Tryz.func42 (by kernel_rfl) (by kernel_rfl) (conf_all _ rfl) (cs42 F) mix (by kernel_rfl) (by kernel_rfl) (fun fr hn => (hok_of (l := []) (by kernel_rfl) obl_nil)) (fun x => by kernel_rfl)
def sg86 : Sig := { modes := [.ro], sh := [(0, .d (.int .u64))], keeps := true, fresh := none, rtys := [tyV] }
def con86 (F : Nat) : Contract := mkCon sg86 fun x => ref02_OfUnsigned F x.1
def cx86 (F : Nat) : Cx := { types := tys, call := callsL [], own := [], ntmps := (0, 6) }
theorem cs86 (F : Nat) : ∀ f c, (cx86 F).call f = some c → CMet Tryz.prog f c := callsL_sound calls_nil
theorem s86 (F : Nat) : CSound Tryz.prog 86 (con86 F) :=
  fn_sound (fn := Tryz.f86) (code := (bodyOf Tryz.f86)) (cx := cx86 F) (hs := hintL []) (js := hintL []) Tryz.func86 (by kernel_rfl) (by kernel_rfl) (conf_all _ rfl) (cs86 F) mix (by kernel_rfl) (by kernel_rfl) (fun fr hn => (hok_of (l := []) (by kernel_rfl) obl_nil)) (fun x => by kernel_rfl)
def sg144 : Sig := { modes := [.ro], sh := [(0, .d (.slice (.int .u64)))], keeps := false, fresh := none, rtys := [(.slice (.int .u64))] }
def con144 (F : Nat) : Contract := mkCon sg144 fun x => ref02_trim F x.1
def cx144 (F : Nat) : Cx := { types := tys, call := callsL [], own := [2, 19], ntmps := (0, 21) }
theorem cs144 (F : Nat) : ∀ f c, (cx144 F).call f = some c → CMet Tryz.prog f c := callsL_sound calls_nil
def sh144l1 : Shape := [(0, .d (.slice (.int .u64)))]
def sh144l1o0 : Shape := [(0, .d (.slice (.int .u64)))]
def outs144l1 : Outs := [(2, sh144l1o0)]
def m144l1 (F : Nat) (n : Nat) {R : Type} (x : Shape.den sh144l1) (K : Ex → St → Option R) : Option R := ref02_trim_l1 F (fun y0 => K (.exit 0) (enc sh144l1o0 (y0, ()))) n x.1
def hs144 (F : Nat) : Nat → Option (Hint (Dens sg144.rtys)) := hintL [(1, { sh := sh144l1, model := m144l1 F F })]
theorem ok144l1 (F : Nat) (fr : Frm) (hn : (cx144 F).ntmps = fr.n) (n : Nat) : MSound (R := (Dens sg144.rtys)) Tryz.prog fr (.loop (sub (bodyOf Tryz.f144) [1, 0, 0, 0])) sh144l1 (m144l1 F n) :=
  loop_sound (cx := cx144 F) (hs := hs144 F) (js := hintL []) (outs := outs144l1) (conf_all _ rfl) (cs144 F) hn mix (m := fun n => m144l1 F n) (fun _ _ => rfl) (fun n x K => by kernel_rfl) (hok_of (l := []) (by kernel_rfl) obl_nil) n
theorem s144 (F : Nat) : CSound Tryz.prog 144 (con144 F) :=
  fn_sound (fn := Tryz.f144) (code := (bodyOf Tryz.f144)) (cx := cx144 F) (hs := hs144 F) (js := hintL []) Tryz.func144 (by kernel_rfl) (by kernel_rfl) (conf_all _ rfl) (cs144 F) mix (by kernel_rfl) (by kernel_rfl) (fun fr hn => (hok_of (l := [((.loop (sub (bodyOf Tryz.f144) [1, 0, 0, 0])), { sh := sh144l1, model := m144l1 F F })]) (by kernel_rfl) (obl_cons (ok144l1 F fr hn F) obl_nil))) (fun x => by kernel_rfl)
def sg144c : Sig := { modes := [.con 28], sh := [(0, .own 0 (.int .u64) 28)], keeps := false, fresh := some (0, 28), rtys := [(.slice (.int .u64))] }
def con144c (F : Nat) : Contract := mkCon sg144c fun x => ref02_trimc F x.1
def cx144c (F : Nat) : Cx := { types := tys, call := callsL [], own := [2, 19], ntmps := (0, 21) }
theorem cs144c (F : Nat) : ∀ f c, (cx144c F).call f = some c → CMet Tryz.prog f c := callsL_sound calls_nil
def sh144cl1 : Shape := [(0, .own 0 (.int .u64) 28)]
def sh144cl1o0 : Shape := [(0, .own 0 (.int .u64) 28)]
def outs144cl1 : Outs := [(2, sh144cl1o0)]
def m144cl1 (F : Nat) (n : Nat) {R : Type} (x : Shape.den sh144cl1) (K : Ex → St → Option R) : Option R := ref02_trimc_l1 F (fun y0 => K (.exit 0) (enc sh144cl1o0 (y0, ()))) n x.1
def hs144c (F : Nat) : Nat → Option (Hint (Dens sg144c.rtys)) := hintL [(1, { sh := sh144cl1, model := m144cl1 F F })]
def js144c (F : Nat) : Nat → Option (Hint (Dens sg144c.rtys)) := hintL []
theorem ok144cl1 (F : Nat) (fr : Frm) (hn : (cx144c F).ntmps = fr.n) (n : Nat) : MSound (R := (Dens sg144c.rtys)) Tryz.prog fr (.loop (sub (bodyOf Tryz.f144) [1, 0, 0, 0])) sh144cl1 (m144cl1 F n) :=
  loop_sound (cx := cx144c F) (hs := hs144c F) (js := js144c F) (outs := outs144cl1) (conf_all _ rfl) (cs144c F) hn mix (m := fun n => m144cl1 F n) (fun _ _ => rfl) (fun n x K => by kernel_rfl) (hok_of (l := []) (by kernel_rfl) obl_nil) n
theorem s144c (F : Nat) : CSound Tryz.prog 144 (con144c F) :=
  fn_sound (fn := Tryz.f144) (code := (bodyOf Tryz.f144)) (cx := cx144c F) (hs := hs144c F) (js := js144c F) Tryz.func144 (by kernel_rfl) (by kernel_rfl) (conf_all _ rfl) (cs144c F) mix (by kernel_rfl) (by kernel_rfl) (fun fr hn => (hok_of (l := [((.loop (sub (bodyOf Tryz.f144) [1, 0, 0, 0])), { sh := sh144cl1, model := m144cl1 F F })]) (by kernel_rfl) (obl_cons (ok144cl1 F fr hn F) obl_nil))) (fun x => by kernel_rfl)
def sg91 : Sig := { modes := [.ro], sh := [(0, .d tyV)], keeps := false, fresh := none, rtys := [(.slice (.int .u64))] }
def con91 (F : Nat) : Contract := mkCon sg91 fun x => ref02_of F x.1
def cx91 (F : Nat) : Cx := { types := tys, call := callsL [(144, con144 F)], own := [2, 3], ntmps := (0, 8) }
theorem cs91 (F : Nat) : ∀ f c, (cx91 F).call f = some c → CMet Tryz.prog f c := callsL_sound (calls_cons (s144 F) calls_nil)
theorem s91 (F : Nat) : CSound Tryz.prog 91 (con91 F) :=
  fn_sound (fn := Tryz.f91) (code := (bodyOf Tryz.f91)) (cx := cx91 F) (hs := hintL []) (js := hintL []) Tryz.func91 (by kernel_rfl) (by kernel_rfl) (conf_all _ rfl) (cs91 F) mix (by kernel_rfl) (by kernel_rfl) (fun fr hn => (hok_of (l := []) (by kernel_rfl) obl_nil)) (fun x => by kernel_rfl)
def sg99 : Sig := { modes := [.ro], sh := [(0, .d tyV)], keeps := true, fresh := none, rtys := [.bool] }
def con99 (F : Nat) : Contract := mkCon sg99 fun x => ref02_Valid F x.1
def cx99 (F : Nat) : Cx := { types := tys, call := callsL [(91, con91 F)], own := [], ntmps := (0, 12) }
theorem cs99 (F : Nat) : ∀ f c, (cx99 F).call f = some c → CMet Tryz.prog f c := callsL_sound (calls_cons (s91 F) calls_nil)
theorem s99 (F : Nat) : CSound Tryz.prog 99 (con99 F) :=
  fn_sound (fn := Tryz.f99) (code := (bodyOf Tryz.f99)) (cx := cx99 F) (hs := hintL []) (js := hintL []) Tryz.func99 (by kernel_rfl) (by kernel_rfl) (conf_all _ rfl) (cs99 F) mix (by kernel_rfl) (by kernel_rfl) (fun fr hn => (hok_of (l := []) (by kernel_rfl) obl_nil)) (fun x => by kernel_rfl)
def sg141 : Sig := { modes := [.ro], sh := [(0, .d tyV)], keeps := true, fresh := none, rtys := [tyV] }
def con141 (F : Nat) : Contract := mkCon sg141 fun x => ref02_clean F x.1
def cx141 (F : Nat) : Cx := { types := tys, call := callsL [(99, con99 F)], own := [], ntmps := (0, 8) }
theorem cs141 (F : Nat) : ∀ f c, (cx141 F).call f = some c → CMet Tryz.prog f c := callsL_sound (calls_cons (s99 F) calls_nil)
theorem s141 (F : Nat) : CSound Tryz.prog 141 (con141 F) :=
  fn_sound (fn := Tryz.f141) (code := (bodyOf Tryz.f141)) (cx := cx141 F) (hs := hintL []) (js := hintL []) Tryz.func141 (by kernel_rfl) (by kernel_rfl) (conf_all _ rfl) (cs141 F) mix (by kernel_rfl) (by kernel_rfl) (fun fr hn => (hok_of (l := []) (by kernel_rfl) obl_nil)) (fun x => by kernel_rfl)
def sg182 : Sig := { modes := [.ro, .ro], sh := [(0, .d (.int .u64)), (1, .d (.int .u64))], keeps := true, fresh := none, rtys := [(.int .u64), (.int .u64)] }
def con182 (F : Nat) : Contract := mkCon sg182 fun x => bits_Mul64 F x.1 x.2.1
def cx182 (F : Nat) : Cx := { types := tys, call := callsL [], own := [], ntmps := (0, 51) }
theorem cs182 (F : Nat) : ∀ f c, (cx182 F).call f = some c → CMet Tryz.prog f c := callsL_sound calls_nil
theorem s182 (F : Nat) : CSound Tryz.prog 182 (con182 F) :=
  fn_sound (fn := Tryz.f182) (code := (bodyOf Tryz.f182)) (cx := cx182 F) (hs := hintL []) (js := hintL []) Tryz.func182 (by kernel_rfl) (by kernel_rfl) (conf_all _ rfl) (cs182 F) mix (by kernel_rfl) (by kernel_rfl) (fun fr hn => (hok_of (l := []) (by kernel_rfl) obl_nil)) (fun x => by kernel_rfl)
def sg142 : Sig := { modes := [.ro, .ro], sh := [(0, .d (.slice (.int .u64))), (1, .d (.slice (.int .u64)))], keeps := false, fresh := none, rtys := [(.slice (.int .u64))] }
def con142 (F : Nat) : Contract := mkCon sg142 fun x => ref02_mul F x.1 x.2.1
def cx142 (F : Nat) : Cx := { types := tys, call := callsL [(182, con182 F), (183, con183 F), (144, con144 F)], own := [4, 18], ntmps := (0, 81) }
theorem cs142 (F : Nat) : ∀ f c, (cx142 F).call f = some c → CMet Tryz.prog f c := callsL_sound (calls_cons (s182 F) (calls_cons_ext (s183 F) (calls_cons (s144 F) calls_nil)))
def sh142l7 : Shape := [(0, .d (.slice (.int .u64))), (1, .d (.slice (.int .u64))), (5, .own 5 (.int .u64) 28), (6, .d (.int .i64)), (7, .d (.int .u64)), (8, .d (.int .i64))]
def sh142l7o2 : Shape := [(0, .d (.slice (.int .u64))), (1, .d (.slice (.int .u64))), (5, .own 5 (.int .u64) 28), (6, .d (.int .i64)), (7, .d (.int .u64))]
def outs142l7 : Outs := [(4, sh142l7o2)]
def m142l7 (F : Nat) (n : Nat) {R : Type} (x : Shape.den sh142l7) (K : Ex → St → Option R) : Option R := ref02_mul_l7 F (fun y0 y1 y5 y6 y7 => K (.exit 2) (enc sh142l7o2 (y0, y1, y5, y6, y7, ()))) n x.1 x.2.1 x.2.2.1 x.2.2.2.1 x.2.2.2.2.1 x.2.2.2.2.2.1
def sh142l3 : Shape := [(0, .d (.slice (.int .u64))), (1, .d (.slice (.int .u64))), (5, .own 5 (.int .u64) 28), (6, .d (.int .i64))]
def sh142l3o0 : Shape := [(5, .own 5 (.int .u64) 28)]
def outs142l3 : Outs := [(2, sh142l3o0)]
def m142l3 (F : Nat) (n : Nat) {R : Type} (x : Shape.den sh142l3) (K : Ex → St → Option R) : Option R := ref02_mul_l3 F (fun y5 => K (.exit 0) (enc sh142l3o0 (y5, ()))) n x.1 x.2.1 x.2.2.1 x.2.2.2.1
def hs142 (F : Nat) : Nat → Option (Hint (Dens sg142.rtys)) := hintL [(7, { sh := sh142l7, model := m142l7 F F }), (3, { sh := sh142l3, model := m142l3 F F })]
theorem ok142l7 (F : Nat) (fr : Frm) (hn : (cx142 F).ntmps = fr.n) (n : Nat) : MSound (R := (Dens sg142.rtys)) Tryz.prog fr (.loop (sub (bodyOf Tryz.f142) [1, 1, 0, 1, 0, 0, 1, 0, 0, 1, 0, 1, 0, 0])) sh142l7 (m142l7 F n) :=
  loop_sound (cx := cx142 F) (hs := hs142 F) (js := hintL []) (outs := outs142l7) (conf_all _ rfl) (cs142 F) hn mix (m := fun n => m142l7 F n) (fun _ _ => rfl) (fun n x K => by kernel_rfl) (hok_of (l := []) (by kernel_rfl) obl_nil) n
theorem ok142l3 (F : Nat) (fr : Frm) (hn : (cx142 F).ntmps = fr.n) (n : Nat) : MSound (R := (Dens sg142.rtys)) Tryz.prog fr (.loop (sub (bodyOf Tryz.f142) [1, 1, 0, 1, 0, 0])) sh142l3 (m142l3 F n) :=
  loop_sound (cx := cx142 F) (hs := hs142 F) (js := hintL []) (outs := outs142l3) (conf_all _ rfl) (cs142 F) hn mix (m := fun n => m142l3 F n) (fun _ _ => rfl) (fun n x K => by kernel_rfl) (hok_of (l := [((.loop (sub (bodyOf Tryz.f142) [1, 1, 0, 1, 0, 0, 1, 0, 0, 1, 0, 1, 0, 0])), { sh := sh142l7, model := m142l7 F F })]) (by kernel_rfl) (obl_cons (ok142l7 F fr hn F) obl_nil)) n
theorem s142 (F : Nat) : CSound Tryz.prog 142 (con142 F) :=
  fn_sound (fn := Tryz.f142) (code := (bodyOf Tryz.f142)) (cx := cx142 F) (hs := hs142 F) (js := hintL []) Tryz.func142 (by kernel_rfl) (by kernel_rfl) (conf_all _ rfl) (cs142 F) mix (by kernel_rfl) (by kernel_rfl) (fun fr hn => (hok_of (l := [((.loop (sub (bodyOf Tryz.f142) [1, 1, 0, 1, 0, 0])), { sh := sh142l3, model := m142l3 F F })]) (by kernel_rfl) (obl_cons (ok142l3 F fr hn F) obl_nil))) (fun x => by kernel_rfl)
def sg90 : Sig := { modes := [.ro, .ro], sh := [(0, .d .bool), (1, .d (.slice (.int .u64)))], keeps := true, fresh := none, rtys := [tyV, .bool] }
def con90 (F : Nat) : Contract := mkCon sg90 fun x => ref02_wide F x.1 x.2.1
def cx90 (F : Nat) : Cx := { types := tys, call := callsL [(144, con144 F)], own := [], ntmps := (0, 35) }
theorem cs90 (F : Nat) : ∀ f c, (cx90 F).call f = some c → CMet Tryz.prog f c := callsL_sound (calls_cons (s144 F) calls_nil)
def sh90l6 : Shape := [(1, .d (.slice (.int .u64))), (4, .box 4 tyV), (6, .box 6 tyV), (7, .d (.int .i64))]
def sh90l6o0 : Shape := [(4, .box 4 tyV), (6, .box 6 tyV)]
def outs90l6 : Outs := [(2, sh90l6o0)]
def m90l6 (F : Nat) (n : Nat) {R : Type} (x : Shape.den sh90l6) (K : Ex → St → Option R) : Option R := ref02_wide_l6 F (fun y4 y6 => K (.exit 0) (enc sh90l6o0 (y4, y6, ()))) n x.1 x.2.1 x.2.2.1 x.2.2.2.1
def sh90j5 : Shape := [(1, .d (.slice (.int .u64))), (4, .box 4 tyV), (6, .box 6 tyV)]
def sh90j5oret : Shape := [(4, .box 4 tyV), (5, .d .bool)]
def outs90j5 : Outs := [(1, sh90j5oret)]
def m90j5 (F : Nat) {R : Type} (x : Shape.den sh90j5) (K : Ex → St → Option R) : Option R := ref02_wide_j5 F (fun y4 y5 => K .ret (enc sh90j5oret (y4, y5, ()))) x.1 x.2.1 x.2.2.1
def hs90 (F : Nat) : Nat → Option (Hint (Dens sg90.rtys)) := hintL [(6, { sh := sh90l6, model := m90l6 F F })]
def js90 (F : Nat) : Nat → Option (Hint (Dens sg90.rtys)) := hintL [(5, { sh := sh90j5, model := m90j5 F })]
theorem ok90l6 (F : Nat) (fr : Frm) (hn : (cx90 F).ntmps = fr.n) (n : Nat) : MSound (R := (Dens sg90.rtys)) Tryz.prog fr (.loop (sub (bodyOf Tryz.f90) [1, 1, 1, 1, 0, 1, 0, 0])) sh90l6 (m90l6 F n) :=
  loop_sound (cx := cx90 F) (hs := hs90 F) (js := js90 F) (outs := outs90l6) (conf_all _ rfl) (cs90 F) hn mix (m := fun n => m90l6 F n) (fun _ _ => rfl) (fun n x K => by kernel_rfl) (hok_of (l := []) (by kernel_rfl) obl_nil) n
theorem ok90j5 (F : Nat) (fr : Frm) (hn : (cx90 F).ntmps = fr.n) : MSound (R := (Dens sg90.rtys)) Tryz.prog fr (sub (bodyOf Tryz.f90) [1, 1, 1, 1]) sh90j5 (m90j5 F) :=
  join_sound (cx := cx90 F) (hs := hs90 F) (js := js90 F) (outs := outs90j5) (conf_all _ rfl) (cs90 F) hn mix (fun x K => by kernel_rfl) (hok_of (l := [((.loop (sub (bodyOf Tryz.f90) [1, 1, 1, 1, 0, 1, 0, 0])), { sh := sh90l6, model := m90l6 F F })]) (by kernel_rfl) (obl_cons (ok90l6 F fr hn F) obl_nil))
theorem s90 (F : Nat) : CSound Tryz.prog 90 (con90 F) :=
  fn_sound (fn := Tryz.f90) (code := (bodyOf Tryz.f90)) (cx := cx90 F) (hs := hs90 F) (js := js90 F) Tryz.func90 (by kernel_rfl) (by kernel_rfl) (conf_all _ rfl) (cs90 F) mix (by kernel_rfl) (by kernel_rfl) (fun fr hn => (hok_of (l := [((sub (bodyOf Tryz.f90) [1, 1, 1, 1]), { sh := sh90j5, model := m90j5 F })]) (by kernel_rfl) (obl_cons (ok90j5 F fr hn) obl_nil))) (fun x => by kernel_rfl)
def sg87 : Sig := { modes := [.ro, .ro], sh := [(0, .d tyV), (1, .d tyV)], keeps := true, fresh := none, rtys := [tyV, .bool] }
def con87 (F : Nat) : Contract := mkCon sg87 fun x => ref02_Mul F x.1 x.2.1
def cx87 (F : Nat) : Cx := { types := tys, call := callsL [(141, con141 F), (91, con91 F), (142, con142 F), (90, con90 F)], own := [], ntmps := (0, 23) }
theorem cs87 (F : Nat) : ∀ f c, (cx87 F).call f = some c → CMet Tryz.prog f c := callsL_sound (calls_cons (s141 F) (calls_cons (s91 F) (calls_cons (s142 F) (calls_cons (s90 F) calls_nil))))
theorem s87 (F : Nat) : CSound Tryz.prog 87 (con87 F) :=
  fn_sound (fn := Tryz.f87) (code := (bodyOf Tryz.f87)) (cx := cx87 F) (hs := hintL []) (js := hintL []) Tryz.func87 (by kernel_rfl) (by kernel_rfl) (conf_all _ rfl) (cs87 F) mix (by kernel_rfl) (by kernel_rfl) (fun fr hn => (hok_of (l := []) (by kernel_rfl) obl_nil)) (fun x => by kernel_rfl)
def sg58 : Sig := { modes := [.ro], sh := [(0, .d tyV)], keeps := true, fresh := none, rtys := [(.int .i64)] }
def con58 (F : Nat) : Contract := mkCon sg58 fun x => ref02_Sign F x.1
def cx58 (F : Nat) : Cx := { types := tys, call := callsL [(91, con91 F)], own := [], ntmps := (0, 9) }
theorem cs58 (F : Nat) : ∀ f c, (cx58 F).call f = some c → CMet Tryz.prog f c := callsL_sound (calls_cons (s91 F) calls_nil)
theorem s58 (F : Nat) : CSound Tryz.prog 58 (con58 F) :=
  fn_sound (fn := Tryz.f58) (code := (bodyOf Tryz.f58)) (cx := cx58 F) (hs := hintL []) (js := hintL []) Tryz.func58 (by kernel_rfl) (by kernel_rfl) (conf_all _ rfl) (cs58 F) mix (by kernel_rfl) (by kernel_rfl) (fun fr hn => (hok_of (l := []) (by kernel_rfl) obl_nil)) (fun x => by kernel_rfl)
def sg102 : Sig := { modes := [.ro], sh := [(0, .d tyV)], keeps := true, fresh := none, rtys := [tyV] }
def con102 (F : Nat) : Contract := mkCon sg102 fun x => ref03_abs F x.1
def cx102 (F : Nat) : Cx := { types := tys, call := callsL [], own := [], ntmps := (0, 5) }
theorem cs102 (F : Nat) : ∀ f c, (cx102 F).call f = some c → CMet Tryz.prog f c := callsL_sound calls_nil
theorem s102 (F : Nat) : CSound Tryz.prog 102 (con102 F) :=
  fn_sound (fn := Tryz.f102) (code := (bodyOf Tryz.f102)) (cx := cx102 F) (hs := hintL []) (js := hintL []) Tryz.func102 (by kernel_rfl) (by kernel_rfl) (conf_all _ rfl) (cs102 F) mix (by kernel_rfl) (by kernel_rfl) (fun fr hn => (hok_of (l := []) (by kernel_rfl) obl_nil)) (fun x => by kernel_rfl)
def sg151 : Sig := { modes := [.ro], sh := [(0, .d tyV)], keeps := true, fresh := none, rtys := [(.int .u64), .bool] }
def con151 (F : Nat) : Contract := mkCon sg151 fun x => ref02_Unsigned F x.1
def cx151 (F : Nat) : Cx := { types := tys, call := callsL [(141, con141 F), (91, con91 F)], own := [], ntmps := (0, 19) }
theorem cs151 (F : Nat) : ∀ f c, (cx151 F).call f = some c → CMet Tryz.prog f c := callsL_sound (calls_cons (s141 F) (calls_cons (s91 F) calls_nil))
theorem s151 (F : Nat) : CSound Tryz.prog 151 (con151 F) :=
  fn_sound (fn := Tryz.f151) (code := (bodyOf Tryz.f151)) (cx := cx151 F) (hs := hintL []) (js := hintL []) Tryz.func151 (by kernel_rfl) (by kernel_rfl) (conf_all _ rfl) (cs151 F) mix (by kernel_rfl) (by kernel_rfl) (fun fr hn => (hok_of (l := []) (by kernel_rfl) obl_nil)) (fun x => by kernel_rfl)
def sg217 : Sig := { modes := [.ro], sh := [(0, .d (.int .u64))], keeps := true, fresh := none, rtys := [(.int .i64)] }
def con217 (F : Nat) : Contract := mkCon sg217 fun x => bits_LeadingZeros64 F x.1
def cx217 (F : Nat) : Cx := { types := tys, call := callsL [(187, con187 F)], own := [], ntmps := (0, 6) }
theorem cs217 (F : Nat) : ∀ f c, (cx217 F).call f = some c → CMet Tryz.prog f c := callsL_sound (calls_cons (s187 F) calls_nil)
theorem s217 (F : Nat) : CSound Tryz.prog 217 (con217 F) :=
  fn_sound (fn := Tryz.f217) (code := (bodyOf Tryz.f217)) (cx := cx217 F) (hs := hintL []) (js := hintL []) Tryz.func217 (by kernel_rfl) (by kernel_rfl) (conf_all _ rfl) (cs217 F) mix (by kernel_rfl) (by kernel_rfl) (fun fr hn => (hok_of (l := []) (by kernel_rfl) obl_nil)) (fun x => by kernel_rfl)
def sg206 : Sig := { modes := [.ro, .ro, .ro], sh := [(0, .d (.int .u64)), (1, .d (.int .u64)), (2, .d (.int .u64))], keeps := true, fresh := none, rtys := [(.int .u64), (.int .u64)] }
def con206 (F : Nat) : Contract := mkCon sg206 fun x => bits_Div64 F x.1 x.2.1 x.2.2.1
def cx206 (F : Nat) : Cx := { types := tys, call := callsL [(217, con217 F)], own := [], ntmps := (0, 135) }
theorem cs206 (F : Nat) : ∀ f c, (cx206 F).call f = some c → CMet Tryz.prog f c := callsL_sound (calls_cons (s217 F) calls_nil)
def sh206l17 : Shape := [(2, .d (.int .u64)), (8, .d (.int .u64)), (9, .d (.int .u64)), (10, .d (.int .u64)), (11, .d (.int .u64)), (13, .d (.int .u64)), (14, .d (.int .u64)), (15, .d (.int .u64)), (16, .d (.int .u64))]
def sh206l17o0 : Shape := [(2, .d (.int .u64)), (8, .d (.int .u64)), (9, .d (.int .u64)), (10, .d (.int .u64)), (11, .d (.int .u64)), (13, .d (.int .u64)), (14, .d (.int .u64)), (15, .d (.int .u64))]
def outs206l17 : Outs := [(2, sh206l17o0)]
def m206l17 (F : Nat) (n : Nat) {R : Type} (x : Shape.den sh206l17) (K : Ex → St → Option R) : Option R := bits_Div64_l17 F (fun y2 y8 y9 y10 y11 y13 y14 y15 => K (.exit 0) (enc sh206l17o0 (y2, y8, y9, y10, y11, y13, y14, y15, ()))) n x.1 x.2.1 x.2.2.1 x.2.2.2.1 x.2.2.2.2.1 x.2.2.2.2.2.1 x.2.2.2.2.2.2.1 x.2.2.2.2.2.2.2.1 x.2.2.2.2.2.2.2.2.1
def sh206l24 : Shape := [(2, .d (.int .u64)), (8, .d (.int .u64)), (9, .d (.int .u64)), (10, .d (.int .u64)), (14, .d (.int .u64)), (15, .d (.int .u64)), (16, .d (.int .u64)), (17, .d (.int .u64)), (18, .d (.int .u64))]
def sh206l24o2 : Shape := [(2, .d (.int .u64)), (8, .d (.int .u64)), (14, .d (.int .u64)), (15, .d (.int .u64)), (17, .d (.int .u64)), (18, .d (.int .u64))]
def outs206l24 : Outs := [(4, sh206l24o2)]
def m206l24 (F : Nat) (n : Nat) {R : Type} (x : Shape.den sh206l24) (K : Ex → St → Option R) : Option R := bits_Div64_l24 F (fun y2 y8 y14 y15 y17 y18 => K (.exit 2) (enc sh206l24o2 (y2, y8, y14, y15, y17, y18, ()))) n x.1 x.2.1 x.2.2.1 x.2.2.2.1 x.2.2.2.2.1 x.2.2.2.2.2.1 x.2.2.2.2.2.2.1 x.2.2.2.2.2.2.2.1 x.2.2.2.2.2.2.2.2.1
def hs206 (F : Nat) : Nat → Option (Hint (Dens sg206.rtys)) := hintL [(17, { sh := sh206l17, model := m206l17 F F }), (24, { sh := sh206l24, model := m206l24 F F })]
theorem ok206l17 (F : Nat) (fr : Frm) (hn : (cx206 F).ntmps = fr.n) (n : Nat) : MSound (R := (Dens sg206.rtys)) Tryz.prog fr (.loop (sub (bodyOf Tryz.f206) [1, 1, 1, 1, 1, 1, 1, 1, 1, 1, 1, 1, 1, 1, 0, 0, 0])) sh206l17 (m206l17 F n) :=
  loop_sound (cx := cx206 F) (hs := hs206 F) (js := hintL []) (outs := outs206l17) (conf_all _ rfl) (cs206 F) hn mix (m := fun n => m206l17 F n) (fun _ _ => rfl) (fun n x K => by kernel_rfl) (hok_of (l := []) (by kernel_rfl) obl_nil) n
theorem ok206l24 (F : Nat) (fr : Frm) (hn : (cx206 F).ntmps = fr.n) (n : Nat) : MSound (R := (Dens sg206.rtys)) Tryz.prog fr (.loop (sub (bodyOf Tryz.f206) [1, 1, 1, 1, 1, 1, 1, 1, 1, 1, 1, 1, 1, 1, 1, 1, 1, 1, 0, 0, 0])) sh206l24 (m206l24 F n) :=
  loop_sound (cx := cx206 F) (hs := hs206 F) (js := hintL []) (outs := outs206l24) (conf_all _ rfl) (cs206 F) hn mix (m := fun n => m206l24 F n) (fun _ _ => rfl) (fun n x K => by kernel_rfl) (hok_of (l := []) (by kernel_rfl) obl_nil) n
theorem s206 (F : Nat) : CSound Tryz.prog 206 (con206 F) :=
  fn_sound (fn := Tryz.f206) (code := (bodyOf Tryz.f206)) (cx := cx206 F) (hs := hs206 F) (js := hintL []) Tryz.func206 (by kernel_rfl) (by kernel_rfl) (conf_all _ rfl) (cs206 F) mix (by kernel_rfl) (by kernel_rfl) (fun fr hn => (hok_of (l := [((.loop (sub (bodyOf Tryz.f206) [1, 1, 1, 1, 1, 1, 1, 1, 1, 1, 1, 1, 1, 1, 0, 0, 0])), { sh := sh206l17, model := m206l17 F F }), ((.loop (sub (bodyOf Tryz.f206) [1, 1, 1, 1, 1, 1, 1, 1, 1, 1, 1, 1, 1, 1, 1, 1, 1, 1, 0, 0, 0])), { sh := sh206l24, model := m206l24 F F })]) (by kernel_rfl) (obl_cons (ok206l17 F fr hn F) (obl_cons (ok206l24 F fr hn F) obl_nil)))) (fun x => by kernel_rfl)
def sg207 : Sig := { modes := [.ro], sh := [(0, .d (.slice (.int .u64)))], keeps := true, fresh := none, rtys := [(.int .i64)] }
def con207 (F : Nat) : Contract := mkCon sg207 fun x => ref02_size F x.1
def cx207 (F : Nat) : Cx := { types := tys, call := callsL [(187, con187 F)], own := [], ntmps := (0, 18) }
theorem cs207 (F : Nat) : ∀ f c, (cx207 F).call f = some c → CMet Tryz.prog f c := callsL_sound (calls_cons (s187 F) calls_nil)
theorem s207 (F : Nat) : CSound Tryz.prog 207 (con207 F) :=
  fn_sound (fn := Tryz.f207) (code := (bodyOf Tryz.f207)) (cx := cx207 F) (hs := hintL []) (js := hintL []) Tryz.func207 (by kernel_rfl) (by kernel_rfl) (conf_all _ rfl) (cs207 F) mix (by kernel_rfl) (by kernel_rfl) (fun fr hn => (hok_of (l := []) (by kernel_rfl) obl_nil)) (fun x => by kernel_rfl)
def sg208 : Sig := { modes := [.ro, .ro], sh := [(0, .d (.slice (.int .u64))), (1, .d (.int .i64))], keeps := false, fresh := some (0, 28), rtys := [(.slice (.int .u64))] }
def con208 (F : Nat) : Contract := mkCon sg208 fun x => ref02_up F x.1 x.2.1
def cx208 (F : Nat) : Cx := { types := tys, call := callsL [(144, con144c F)], own := [4, 13, 60], ntmps := (0, 61) }
theorem cs208 (F : Nat) : ∀ f c, (cx208 F).call f = some c → CMet Tryz.prog f c := callsL_sound (calls_cons (s144c F) calls_nil)
def sh208l3 : Shape := [(0, .d (.slice (.int .u64))), (1, .d (.int .i64)), (5, .own 5 (.int .u64) 28), (6, .d (.int .i64))]
def sh208l3o0 : Shape := [(5, .own 5 (.int .u64) 28)]
def outs208l3 : Outs := [(2, sh208l3o0)]
def m208l3 (F : Nat) (n : Nat) {R : Type} (x : Shape.den sh208l3) (K : Ex → St → Option R) : Option R := ref02_up_l3 F (fun y5 => K (.exit 0) (enc sh208l3o0 (y5, ()))) n x.1 x.2.1 x.2.2.1 x.2.2.2.1
def hs208 (F : Nat) : Nat → Option (Hint (Dens sg208.rtys)) := hintL [(3, { sh := sh208l3, model := m208l3 F F })]
theorem ok208l3 (F : Nat) (fr : Frm) (hn : (cx208 F).ntmps = fr.n) (n : Nat) : MSound (R := (Dens sg208.rtys)) Tryz.prog fr (.loop (sub (bodyOf Tryz.f208) [1, 1, 0, 1, 0, 0])) sh208l3 (m208l3 F n) :=
  loop_sound (cx := cx208 F) (hs := hs208 F) (js := hintL []) (outs := outs208l3) (conf_all _ rfl) (cs208 F) hn mix (m := fun n => m208l3 F n) (fun _ _ => rfl) (fun n x K => by kernel_rfl) (hok_of (l := []) (by kernel_rfl) obl_nil) n
theorem s208 (F : Nat) : CSound Tryz.prog 208 (con208 F) :=
  fn_sound (fn := Tryz.f208) (code := (bodyOf Tryz.f208)) (cx := cx208 F) (hs := hs208 F) (js := hintL []) Tryz.func208 (by kernel_rfl) (by kernel_rfl) (conf_all _ rfl) (cs208 F) mix (by kernel_rfl) (by kernel_rfl) (fun fr hn => (hok_of (l := [((.loop (sub (bodyOf Tryz.f208) [1, 1, 0, 1, 0, 0])), { sh := sh208l3, model := m208l3 F F })]) (by kernel_rfl) (obl_cons (ok208l3 F fr hn F) obl_nil))) (fun x => by kernel_rfl)
def sg174 : Sig := { modes := [.ro, .ro], sh := [(0, .d (.slice (.int .u64))), (1, .d (.slice (.int .u64)))], keeps := true, fresh := none, rtys := [(.int .i64)] }
def con174 (F : Nat) : Contract := mkCon sg174 fun x => ref02_compare F x.1 x.2.1
def cx174 (F : Nat) : Cx := { types := tys, call := callsL [], own := [], ntmps := (0, 41) }
theorem cs174 (F : Nat) : ∀ f c, (cx174 F).call f = some c → CMet Tryz.prog f c := callsL_sound calls_nil
def sh174l6 : Shape := [(0, .d (.slice (.int .u64))), (1, .d (.slice (.int .u64))), (5, .d (.int .i64))]
def sh174l6o0 : Shape := []
def sh174l6oret : Shape := [(4, .d (.int .i64))]
def outs174l6 : Outs := [(2, sh174l6o0), (1, sh174l6oret)]
def m174l6 (F : Nat) (n : Nat) {R : Type} (x : Shape.den sh174l6) (K : Ex → St → Option R) : Option R := ref02_compare_l6 F (K (.exit 0) (enc sh174l6o0 (()))) (fun y4 => K .ret (enc sh174l6oret (y4, ()))) n x.1 x.2.1 x.2.2.1
def hs174 (F : Nat) : Nat → Option (Hint (Dens sg174.rtys)) := hintL [(6, { sh := sh174l6, model := m174l6 F F })]
theorem ok174l6 (F : Nat) (fr : Frm) (hn : (cx174 F).ntmps = fr.n) (n : Nat) : MSound (R := (Dens sg174.rtys)) Tryz.prog fr (.loop (sub (bodyOf Tryz.f174) [1, 1, 0, 1, 0, 0])) sh174l6 (m174l6 F n) :=
  loop_sound (cx := cx174 F) (hs := hs174 F) (js := hintL []) (outs := outs174l6) (conf_all _ rfl) (cs174 F) hn mix (m := fun n => m174l6 F n) (fun _ _ => rfl) (fun n x K => by kernel_rfl) (hok_of (l := []) (by kernel_rfl) obl_nil) n
theorem s174 (F : Nat) : CSound Tryz.prog 174 (con174 F) :=
  fn_sound (fn := Tryz.f174) (code := (bodyOf Tryz.f174)) (cx := cx174 F) (hs := hs174 F) (js := hintL []) Tryz.func174 (by kernel_rfl) (by kernel_rfl) (conf_all _ rfl) (cs174 F) mix (by kernel_rfl) (by kernel_rfl) (fun fr hn => (hok_of (l := [((.loop (sub (bodyOf Tryz.f174) [1, 1, 0, 1, 0, 0])), { sh := sh174l6, model := m174l6 F F })]) (by kernel_rfl) (obl_cons (ok174l6 F fr hn F) obl_nil))) (fun x => by kernel_rfl)
def sg186 : Sig := { modes := [.ro, .ro], sh := [(0, .d (.slice (.int .u64))), (1, .d (.slice (.int .u64)))], keeps := false, fresh := none, rtys := [(.slice (.int .u64))] }
def con186 (F : Nat) : Contract := mkCon sg186 fun x => ref02_sub F x.1 x.2.1
def cx186 (F : Nat) : Cx := { types := tys, call := callsL [(210, con210 F), (144, con144 F)], own := [4, 9], ntmps := (0, 41) }
theorem cs186 (F : Nat) : ∀ f c, (cx186 F).call f = some c → CMet Tryz.prog f c := callsL_sound (calls_cons_ext (s210 F) (calls_cons (s144 F) calls_nil))
def sh186j9 : Shape := [(1, .d (.slice (.int .u64))), (5, .own 5 (.int .u64) 28), (6, .d (.int .u64)), (7, .d (.int .i64)), (8, .d (.int .u64))]
def sh186j9on : Shape := [(1, .d (.slice (.int .u64))), (5, .own 5 (.int .u64) 28), (6, .d (.int .u64)), (7, .d (.int .i64))]
def outs186j9 : Outs := [(0, sh186j9on)]
def m186j9 (F : Nat) {R : Type} (x : Shape.den sh186j9) (K : Ex → St → Option R) : Option R := ref02_sub_j9 F (fun y1 y5 y6 y7 => K .normal (enc sh186j9on (y1, y5, y6, y7, ()))) x.1 x.2.1 x.2.2.1 x.2.2.2.1 x.2.2.2.2.1
def sh186l4 : Shape := [(1, .d (.slice (.int .u64))), (5, .own 5 (.int .u64) 28), (6, .d (.int .u64)), (7, .d (.int .i64))]
def sh186l4o0 : Shape := [(5, .own 5 (.int .u64) 28)]
def outs186l4 : Outs := [(2, sh186l4o0)]
def m186l4 (F : Nat) (n : Nat) {R : Type} (x : Shape.den sh186l4) (K : Ex → St → Option R) : Option R := ref02_sub_l4 F (fun y5 => K (.exit 0) (enc sh186l4o0 (y5, ()))) n x.1 x.2.1 x.2.2.1 x.2.2.2.1
def hs186 (F : Nat) : Nat → Option (Hint (Dens sg186.rtys)) := hintL [(4, { sh := sh186l4, model := m186l4 F F })]
def js186 (F : Nat) : Nat → Option (Hint (Dens sg186.rtys)) := hintL [(9, { sh := sh186j9, model := m186j9 F })]
theorem ok186j9 (F : Nat) (fr : Frm) (hn : (cx186 F).ntmps = fr.n) : MSound (R := (Dens sg186.rtys)) Tryz.prog fr (sub (bodyOf Tryz.f186) [1, 1, 1, 0, 1, 0, 0, 1, 0, 0, 1, 1]) sh186j9 (m186j9 F) :=
  join_sound (cx := cx186 F) (hs := hs186 F) (js := js186 F) (outs := outs186j9) (conf_all _ rfl) (cs186 F) hn mix (fun x K => by kernel_rfl) (hok_of (l := []) (by kernel_rfl) obl_nil)
theorem ok186l4 (F : Nat) (fr : Frm) (hn : (cx186 F).ntmps = fr.n) (n : Nat) : MSound (R := (Dens sg186.rtys)) Tryz.prog fr (.loop (sub (bodyOf Tryz.f186) [1, 1, 1, 0, 1, 0, 0])) sh186l4 (m186l4 F n) :=
  loop_sound (cx := cx186 F) (hs := hs186 F) (js := js186 F) (outs := outs186l4) (conf_all _ rfl) (cs186 F) hn mix (m := fun n => m186l4 F n) (fun _ _ => rfl) (fun n x K => by kernel_rfl) (hok_of (l := [((sub (bodyOf Tryz.f186) [1, 1, 1, 0, 1, 0, 0, 1, 0, 0, 1, 1]), { sh := sh186j9, model := m186j9 F })]) (by kernel_rfl) (obl_cons (ok186j9 F fr hn) obl_nil)) n
theorem s186 (F : Nat) : CSound Tryz.prog 186 (con186 F) :=
  fn_sound (fn := Tryz.f186) (code := (bodyOf Tryz.f186)) (cx := cx186 F) (hs := hs186 F) (js := js186 F) Tryz.func186 (by kernel_rfl) (by kernel_rfl) (conf_all _ rfl) (cs186 F) mix (by kernel_rfl) (by kernel_rfl) (fun fr hn => (hok_of (l := [((.loop (sub (bodyOf Tryz.f186) [1, 1, 1, 0, 1, 0, 0])), { sh := sh186l4, model := m186l4 F F })]) (by kernel_rfl) (obl_cons (ok186l4 F fr hn F) obl_nil))) (fun x => by kernel_rfl)
def sg186w : Sig := { modes := [.ro, .wr 28], sh := [(0, .d (.slice (.int .u64))), (1, .own 1 (.int .u64) 28)], keeps := false, fresh := none, rtys := [(.slice (.int .u64)), (.slice (.int .u64))] }
def con186w (F : Nat) : Contract := mkCon sg186w fun x => ref02_subw F x.1 x.2.1
def cx186w (F : Nat) : Cx := { types := tys, call := callsL [(210, con210 F), (144, con144 F)], own := [4, 9], ntmps := (2, 41) }
theorem cs186w (F : Nat) : ∀ f c, (cx186w F).call f = some c → CMet Tryz.prog f c := callsL_sound (calls_cons_ext (s210 F) (calls_cons (s144 F) calls_nil))
def sh186wj9 : Shape := [(1, .own 1 (.int .u64) 28), (5, .own 5 (.int .u64) 28), (6, .d (.int .u64)), (7, .d (.int .i64)), (8, .d (.int .u64))]
def sh186wj9on : Shape := [(1, .own 1 (.int .u64) 28), (5, .own 5 (.int .u64) 28), (6, .d (.int .u64)), (7, .d (.int .i64))]
def outs186wj9 : Outs := [(0, sh186wj9on)]
def m186wj9 (F : Nat) {R : Type} (x : Shape.den sh186wj9) (K : Ex → St → Option R) : Option R := ref02_subw_j9 F (fun y1 y5 y6 y7 => K .normal (enc sh186wj9on (y1, y5, y6, y7, ()))) x.1 x.2.1 x.2.2.1 x.2.2.2.1 x.2.2.2.2.1
def sh186wl4 : Shape := [(1, .own 1 (.int .u64) 28), (5, .own 5 (.int .u64) 28), (6, .d (.int .u64)), (7, .d (.int .i64))]
def sh186wl4o0 : Shape := [(1, .own 1 (.int .u64) 28), (5, .own 5 (.int .u64) 28)]
def outs186wl4 : Outs := [(2, sh186wl4o0)]
def m186wl4 (F : Nat) (n : Nat) {R : Type} (x : Shape.den sh186wl4) (K : Ex → St → Option R) : Option R := ref02_subw_l4 F (fun y1 y5 => K (.exit 0) (enc sh186wl4o0 (y1, y5, ()))) n x.1 x.2.1 x.2.2.1 x.2.2.2.1
def hs186w (F : Nat) : Nat → Option (Hint (Dens sg186w.rtys)) := hintL [(4, { sh := sh186wl4, model := m186wl4 F F })]
def js186w (F : Nat) : Nat → Option (Hint (Dens sg186w.rtys)) := hintL [(9, { sh := sh186wj9, model := m186wj9 F })]
theorem ok186wj9 (F : Nat) (fr : Frm) (hn : (cx186w F).ntmps = fr.n) : MSound (R := (Dens sg186w.rtys)) Tryz.prog fr (sub (bodyOf Tryz.f186) [1, 1, 1, 0, 1, 0, 0, 1, 0, 0, 1, 1]) sh186wj9 (m186wj9 F) :=
  join_sound (cx := cx186w F) (hs := hs186w F) (js := js186w F) (outs := outs186wj9) (conf_all _ rfl) (cs186w F) hn mix (fun x K => by kernel_rfl) (hok_of (l := []) (by kernel_rfl) obl_nil)
theorem ok186wl4 (F : Nat) (fr : Frm) (hn : (cx186w F).ntmps = fr.n) (n : Nat) : MSound (R := (Dens sg186w.rtys)) Tryz.prog fr (.loop (sub (bodyOf Tryz.f186) [1, 1, 1, 0, 1, 0, 0])) sh186wl4 (m186wl4 F n) :=
  loop_sound (cx := cx186w F) (hs := hs186w F) (js := js186w F) (outs := outs186wl4) (conf_all _ rfl) (cs186w F) hn mix (m := fun n => m186wl4 F n) (fun _ _ => rfl) (fun n x K => by kernel_rfl) (hok_of (l := [((sub (bodyOf Tryz.f186) [1, 1, 1, 0, 1, 0, 0, 1, 0, 0, 1, 1]), { sh := sh186wj9, model := m186wj9 F })]) (by kernel_rfl) (obl_cons (ok186wj9 F fr hn) obl_nil)) n
theorem s186w (F : Nat) : CSound Tryz.prog 186 (con186w F) :=
  fn_sound (fn := Tryz.f186) (code := (bodyOf Tryz.f186)) (cx := cx186w F) (hs := hs186w F) (js := js186w F) Tryz.func186 (by kernel_rfl) (by kernel_rfl) (conf_all _ rfl) (cs186w F) mix (by kernel_rfl) (by kernel_rfl) (fun fr hn => (hok_of (l := [((.loop (sub (bodyOf Tryz.f186) [1, 1, 1, 0, 1, 0, 0])), { sh := sh186wl4, model := m186wl4 F F })]) (by kernel_rfl) (obl_cons (ok186wl4 F fr hn F) obl_nil))) (fun x => by kernel_rfl)
def sg209 : Sig := { modes := [.con 28], sh := [(0, .own 0 (.int .u64) 28)], keeps := false, fresh := some (0, 28), rtys := [(.slice (.int .u64))] }
def con209 (F : Nat) : Contract := mkCon sg209 fun x => ref02_half F x.1
def cx209 (F : Nat) : Cx := { types := tys, call := callsL [(144, con144c F)], own := [2, 34], ntmps := (0, 35) }
theorem cs209 (F : Nat) : ∀ f c, (cx209 F).call f = some c → CMet Tryz.prog f c := callsL_sound (calls_cons (s144c F) calls_nil)
def sh209l2 : Shape := [(0, .own 0 (.int .u64) 28), (3, .d (.int .i64))]
def sh209l2o0 : Shape := [(0, .own 0 (.int .u64) 28)]
def outs209l2 : Outs := [(2, sh209l2o0)]
def m209l2 (F : Nat) (n : Nat) {R : Type} (x : Shape.den sh209l2) (K : Ex → St → Option R) : Option R := ref02_half_l2 F (fun y0 => K (.exit 0) (enc sh209l2o0 (y0, ()))) n x.1 x.2.1
def hs209 (F : Nat) : Nat → Option (Hint (Dens sg209.rtys)) := hintL [(2, { sh := sh209l2, model := m209l2 F F })]
theorem ok209l2 (F : Nat) (fr : Frm) (hn : (cx209 F).ntmps = fr.n) (n : Nat) : MSound (R := (Dens sg209.rtys)) Tryz.prog fr (.loop (sub (bodyOf Tryz.f209) [1, 0, 1, 0, 0])) sh209l2 (m209l2 F n) :=
  loop_sound (cx := cx209 F) (hs := hs209 F) (js := hintL []) (outs := outs209l2) (conf_all _ rfl) (cs209 F) hn mix (m := fun n => m209l2 F n) (fun _ _ => rfl) (fun n x K => by kernel_rfl) (hok_of (l := []) (by kernel_rfl) obl_nil) n
theorem s209 (F : Nat) : CSound Tryz.prog 209 (con209 F) :=
  fn_sound (fn := Tryz.f209) (code := (bodyOf Tryz.f209)) (cx := cx209 F) (hs := hs209 F) (js := hintL []) Tryz.func209 (by kernel_rfl) (by kernel_rfl) (conf_all _ rfl) (cs209 F) mix (by kernel_rfl) (by kernel_rfl) (fun fr hn => (hok_of (l := [((.loop (sub (bodyOf Tryz.f209) [1, 0, 1, 0, 0])), { sh := sh209l2, model := m209l2 F F })]) (by kernel_rfl) (obl_cons (ok209l2 F fr hn F) obl_nil))) (fun x => by kernel_rfl)
def sg184 : Sig := { modes := [.ro, .ro], sh := [(0, .d (.slice (.int .u64))), (1, .d (.slice (.int .u64)))], keeps := false, fresh := none, rtys := [(.slice (.int .u64)), (.slice (.int .u64))] }
def con184 (F : Nat) : Contract := mkCon sg184 fun x => ref02_divmod F x.1 x.2.1
def cx184 (F : Nat) : Cx := { types := tys, call := callsL [(206, con206 F), (144, con144 F), (207, con207 F), (208, con208 F), (174, con174 F), (186, con186w F), (209, con209 F)], own := [4, 5, 15, 46, 60, 85], ntmps := (0, 89) }
theorem cs184 (F : Nat) : ∀ f c, (cx184 F).call f = some c → CMet Tryz.prog f c := callsL_sound (calls_cons (s206 F) (calls_cons (s144 F) (calls_cons (s207 F) (calls_cons (s208 F) (calls_cons (s174 F) (calls_cons (s186w F) (calls_cons (s209 F) calls_nil)))))))
def sh184l5 : Shape := [(0, .d (.slice (.int .u64))), (1, .d (.slice (.int .u64))), (6, .own 6 (.int .u64) 28), (7, .d (.int .u64)), (8, .d (.int .i64))]
def sh184l5o0 : Shape := [(6, .own 6 (.int .u64) 28), (7, .d (.int .u64))]
def outs184l5 : Outs := [(2, sh184l5o0)]
def m184l5 (F : Nat) (n : Nat) {R : Type} (x : Shape.den sh184l5) (K : Ex → St → Option R) : Option R := ref02_divmod_l5 F (fun y6 y7 => K (.exit 0) (enc sh184l5o0 (y6, y7, ()))) n x.1 x.2.1 x.2.2.1 x.2.2.2.1 x.2.2.2.2.1
def sh184l15 : Shape := [(6, .own 6 (.int .u64) 28), (9, .d (.slice (.int .u64))), (11, .own 11 (.int .u64) 28), (12, .d (.int .i64))]
def sh184l15o2 : Shape := [(6, .own 6 (.int .u64) 28), (9, .d (.slice (.int .u64)))]
def outs184l15 : Outs := [(4, sh184l15o2)]
def m184l15 (F : Nat) (n : Nat) {R : Type} (x : Shape.den sh184l15) (K : Ex → St → Option R) : Option R := ref02_divmod_l15 F (fun y6 y9 => K (.exit 2) (enc sh184l15o2 (y6, y9, ()))) n x.1 x.2.1 x.2.2.1 x.2.2.2.1
def hs184 (F : Nat) : Nat → Option (Hint (Dens sg184.rtys)) := hintL [(5, { sh := sh184l5, model := m184l5 F F }), (15, { sh := sh184l15, model := m184l15 F F })]
theorem ok184l5 (F : Nat) (fr : Frm) (hn : (cx184 F).ntmps = fr.n) (n : Nat) : MSound (R := (Dens sg184.rtys)) Tryz.prog fr (.loop (sub (bodyOf Tryz.f184) [1, 1, 0, 1, 0, 1, 0, 1, 0, 0])) sh184l5 (m184l5 F n) :=
  loop_sound (cx := cx184 F) (hs := hs184 F) (js := hintL []) (outs := outs184l5) (conf_all _ rfl) (cs184 F) hn mix (m := fun n => m184l5 F n) (fun _ _ => rfl) (fun n x K => by kernel_rfl) (hok_of (l := []) (by kernel_rfl) obl_nil) n
theorem ok184l15 (F : Nat) (fr : Frm) (hn : (cx184 F).ntmps = fr.n) (n : Nat) : MSound (R := (Dens sg184.rtys)) Tryz.prog fr (.loop (sub (bodyOf Tryz.f184) [1, 1, 1, 1, 1, 1, 1, 0, 1, 0, 0])) sh184l15 (m184l15 F n) :=
  loop_sound (cx := cx184 F) (hs := hs184 F) (js := hintL []) (outs := outs184l15) (conf_all _ rfl) (cs184 F) hn mix (m := fun n => m184l15 F n) (fun _ _ => rfl) (fun n x K => by kernel_rfl) (hok_of (l := []) (by kernel_rfl) obl_nil) n
theorem s184 (F : Nat) : CSound Tryz.prog 184 (con184 F) :=
  fn_sound (fn := Tryz.f184) (code := (bodyOf Tryz.f184)) (cx := cx184 F) (hs := hs184 F) (js := hintL []) Tryz.func184 (by kernel_rfl) (by kernel_rfl) (conf_all _ rfl) (cs184 F) mix (by kernel_rfl) (by kernel_rfl) (fun fr hn => (hok_of (l := [((.loop (sub (bodyOf Tryz.f184) [1, 1, 0, 1, 0, 1, 0, 1, 0, 0])), { sh := sh184l5, model := m184l5 F F }), ((.loop (sub (bodyOf Tryz.f184) [1, 1, 1, 1, 1, 1, 1, 0, 1, 0, 0])), { sh := sh184l15, model := m184l15 F F })]) (by kernel_rfl) (obl_cons (ok184l5 F fr hn F) (obl_cons (ok184l15 F fr hn F) obl_nil)))) (fun x => by kernel_rfl)
def sg185 : Sig := { modes := [.ro, .ro], sh := [(0, .d (.slice (.int .u64))), (1, .d (.slice (.int .u64)))], keeps := false, fresh := none, rtys := [(.slice (.int .u64))] }
def con185 (F : Nat) : Contract := mkCon sg185 fun x => ref02_add F x.1 x.2.1
def cx185 (F : Nat) : Cx := { types := tys, call := callsL [(183, con183 F), (144, con144 F)], own := [4, 16], ntmps := (0, 51) }
theorem cs185 (F : Nat) : ∀ f c, (cx185 F).call f = some c → CMet Tryz.prog f c := callsL_sound (calls_cons_ext (s183 F) (calls_cons (s144 F) calls_nil))
def sh185j11 : Shape := [(1, .d (.slice (.int .u64))), (5, .own 5 (.int .u64) 28), (6, .d (.int .u64)), (7, .d (.int .i64)), (8, .d (.int .u64))]
def sh185j11on : Shape := [(1, .d (.slice (.int .u64))), (5, .own 5 (.int .u64) 28), (6, .d (.int .u64)), (7, .d (.int .i64))]
def outs185j11 : Outs := [(0, sh185j11on)]
def m185j11 (F : Nat) {R : Type} (x : Shape.den sh185j11) (K : Ex → St → Option R) : Option R := ref02_add_j11 F (fun y1 y5 y6 y7 => K .normal (enc sh185j11on (y1, y5, y6, y7, ()))) x.1 x.2.1 x.2.2.1 x.2.2.2.1 x.2.2.2.2.1
def sh185l6 : Shape := [(1, .d (.slice (.int .u64))), (5, .own 5 (.int .u64) 28), (6, .d (.int .u64)), (7, .d (.int .i64))]
def sh185l6o0 : Shape := [(5, .own 5 (.int .u64) 28), (6, .d (.int .u64))]
def outs185l6 : Outs := [(2, sh185l6o0)]
def m185l6 (F : Nat) (n : Nat) {R : Type} (x : Shape.den sh185l6) (K : Ex → St → Option R) : Option R := ref02_add_l6 F (fun y5 y6 => K (.exit 0) (enc sh185l6o0 (y5, y6, ()))) n x.1 x.2.1 x.2.2.1 x.2.2.2.1
def sh185j3 : Shape := [(0, .d (.slice (.int .u64))), (1, .d (.slice (.int .u64)))]
def sh185j3oret : Shape := [(4, .d (.slice (.int .u64)))]
def outs185j3 : Outs := [(1, sh185j3oret)]
def m185j3 (F : Nat) {R : Type} (x : Shape.den sh185j3) (K : Ex → St → Option R) : Option R := ref02_add_j3 F (fun y4 => K .ret (enc sh185j3oret (y4, ()))) x.1 x.2.1
def hs185 (F : Nat) : Nat → Option (Hint (Dens sg185.rtys)) := hintL [(6, { sh := sh185l6, model := m185l6 F F })]
def js185 (F : Nat) : Nat → Option (Hint (Dens sg185.rtys)) := hintL [(11, { sh := sh185j11, model := m185j11 F }), (3, { sh := sh185j3, model := m185j3 F })]
theorem ok185j11 (F : Nat) (fr : Frm) (hn : (cx185 F).ntmps = fr.n) : MSound (R := (Dens sg185.rtys)) Tryz.prog fr (sub (bodyOf Tryz.f185) [1, 1, 1, 1, 0, 1, 0, 0, 1, 0, 0, 1, 1]) sh185j11 (m185j11 F) :=
  join_sound (cx := cx185 F) (hs := hs185 F) (js := js185 F) (outs := outs185j11) (conf_all _ rfl) (cs185 F) hn mix (fun x K => by kernel_rfl) (hok_of (l := []) (by kernel_rfl) obl_nil)
theorem ok185l6 (F : Nat) (fr : Frm) (hn : (cx185 F).ntmps = fr.n) (n : Nat) : MSound (R := (Dens sg185.rtys)) Tryz.prog fr (.loop (sub (bodyOf Tryz.f185) [1, 1, 1, 1, 0, 1, 0, 0])) sh185l6 (m185l6 F n) :=
  loop_sound (cx := cx185 F) (hs := hs185 F) (js := js185 F) (outs := outs185l6) (conf_all _ rfl) (cs185 F) hn mix (m := fun n => m185l6 F n) (fun _ _ => rfl) (fun n x K => by kernel_rfl) (hok_of (l := [((sub (bodyOf Tryz.f185) [1, 1, 1, 1, 0, 1, 0, 0, 1, 0, 0, 1, 1]), { sh := sh185j11, model := m185j11 F })]) (by kernel_rfl) (obl_cons (ok185j11 F fr hn) obl_nil)) n
theorem ok185j3 (F : Nat) (fr : Frm) (hn : (cx185 F).ntmps = fr.n) : MSound (R := (Dens sg185.rtys)) Tryz.prog fr (sub (bodyOf Tryz.f185) [1, 1]) sh185j3 (m185j3 F) :=
  join_sound (cx := cx185 F) (hs := hs185 F) (js := js185 F) (outs := outs185j3) (conf_all _ rfl) (cs185 F) hn mix (fun x K => by kernel_rfl) (hok_of (l := [((.loop (sub (bodyOf Tryz.f185) [1, 1, 1, 1, 0, 1, 0, 0])), { sh := sh185l6, model := m185l6 F F })]) (by kernel_rfl) (obl_cons (ok185l6 F fr hn F) obl_nil))
theorem s185 (F : Nat) : CSound Tryz.prog 185 (con185 F) :=
  fn_sound (fn := Tryz.f185) (code := (bodyOf Tryz.f185)) (cx := cx185 F) (hs := hs185 F) (js := js185 F) Tryz.func185 (by kernel_rfl) (by kernel_rfl) (conf_all _ rfl) (cs185 F) mix (by kernel_rfl) (by kernel_rfl) (fun fr hn => (hok_of (l := [((sub (bodyOf Tryz.f185) [1, 1]), { sh := sh185j3, model := m185j3 F })]) (by kernel_rfl) (obl_cons (ok185j3 F fr hn) obl_nil))) (fun x => by kernel_rfl)
def sg143 : Sig := { modes := [.ro, .ro], sh := [(0, .d tyV), (1, .d tyV)], keeps := true, fresh := none, rtys := [tyV, tyV, .bool] }
def con143 (F : Nat) : Contract := mkCon sg143 fun x => ref02_DivMod F x.1 x.2.1
def cx143 (F : Nat) : Cx := { types := tys, call := callsL [(141, con141 F), (58, con58 F), (91, con91 F), (184, con184 F), (185, con185 F), (186, con186 F), (90, con90 F)], own := [], ntmps := (0, 61) }
theorem cs143 (F : Nat) : ∀ f c, (cx143 F).call f = some c → CMet Tryz.prog f c := callsL_sound (calls_cons (s141 F) (calls_cons (s58 F) (calls_cons (s91 F) (calls_cons (s184 F) (calls_cons (s185 F) (calls_cons (s186 F) (calls_cons (s90 F) calls_nil)))))))
def sh143j6 : Shape := [(2, .box 2 tyV), (3, .box 3 tyV), (4, .box 4 tyV), (5, .box 5 tyV), (7, .d (.slice (.int .u64))), (8, .d (.slice (.int .u64))), (32, .d .bool)]
def sh143j6on : Shape := [(2, .box 2 tyV), (3, .box 3 tyV), (4, .box 4 tyV), (5, .box 5 tyV), (7, .d (.slice (.int .u64))), (8, .d (.slice (.int .u64)))]
def outs143j6 : Outs := [(0, sh143j6on)]
def m143j6 (F : Nat) {R : Type} (x : Shape.den sh143j6) (K : Ex → St → Option R) : Option R := ref02_DivMod_j6 F (fun y2 y3 y4 y5 y7 y8 => K .normal (enc sh143j6on (y2, y3, y4, y5, y7, y8, ()))) x.1 x.2.1 x.2.2.1 x.2.2.2.1 x.2.2.2.2.1 x.2.2.2.2.2.1 x.2.2.2.2.2.2.1
def sh143j7 : Shape := [(2, .box 2 tyV), (3, .box 3 tyV), (4, .box 4 tyV), (5, .box 5 tyV), (7, .d (.slice (.int .u64))), (8, .d (.slice (.int .u64)))]
def sh143j7oret : Shape := [(4, .box 4 tyV), (5, .box 5 tyV), (6, .d .bool)]
def outs143j7 : Outs := [(1, sh143j7oret)]
def m143j7 (F : Nat) {R : Type} (x : Shape.den sh143j7) (K : Ex → St → Option R) : Option R := ref02_DivMod_j7 F (fun y4 y5 y6 => K .ret (enc sh143j7oret (y4, y5, y6, ()))) x.1 x.2.1 x.2.2.1 x.2.2.2.1 x.2.2.2.2.1 x.2.2.2.2.2.1
def js143 (F : Nat) : Nat → Option (Hint (Dens sg143.rtys)) := hintL [(6, { sh := sh143j6, model := m143j6 F }), (7, { sh := sh143j7, model := m143j7 F })]
theorem ok143j6 (F : Nat) (fr : Frm) (hn : (cx143 F).ntmps = fr.n) : MSound (R := (Dens sg143.rtys)) Tryz.prog fr (sub (bodyOf Tryz.f143) [1, 1, 1, 1, 0, 1]) sh143j6 (m143j6 F) :=
  join_sound (cx := cx143 F) (hs := hintL []) (js := js143 F) (outs := outs143j6) (conf_all _ rfl) (cs143 F) hn mix (fun x K => by kernel_rfl) (hok_of (l := []) (by kernel_rfl) obl_nil)
theorem ok143j7 (F : Nat) (fr : Frm) (hn : (cx143 F).ntmps = fr.n) : MSound (R := (Dens sg143.rtys)) Tryz.prog fr (sub (bodyOf Tryz.f143) [1, 1, 1, 1, 1]) sh143j7 (m143j7 F) :=
  join_sound (cx := cx143 F) (hs := hintL []) (js := js143 F) (outs := outs143j7) (conf_all _ rfl) (cs143 F) hn mix (fun x K => by kernel_rfl) (hok_of (l := []) (by kernel_rfl) obl_nil)
theorem s143 (F : Nat) : CSound Tryz.prog 143 (con143 F) :=
  fn_sound (fn := Tryz.f143) (code := (bodyOf Tryz.f143)) (cx := cx143 F) (hs := hintL []) (js := js143 F) Tryz.func143 (by kernel_rfl) (by kernel_rfl) (conf_all _ rfl) (cs143 F) mix (by kernel_rfl) (by kernel_rfl) (fun fr hn => (hok_of (l := [((sub (bodyOf Tryz.f143) [1, 1, 1, 1, 0, 1]), { sh := sh143j6, model := m143j6 F }), ((sub (bodyOf Tryz.f143) [1, 1, 1, 1, 1]), { sh := sh143j7, model := m143j7 F })]) (by kernel_rfl) (obl_cons (ok143j6 F fr hn) (obl_cons (ok143j7 F fr hn) obl_nil)))) (fun x => by kernel_rfl)
def sg101 : Sig := { modes := [.ro, .ro], sh := [(0, .d tyV), (1, .d tyV)], keeps := true, fresh := none, rtys := [tyV] }
def con101 (F : Nat) : Contract := mkCon sg101 fun x => ref03_gcd F x.1 x.2.1
def cx101 (F : Nat) : Cx := { types := tys, call := callsL [(58, con58 F), (151, con151 F), (86, con86 F), (143, con143 F)], own := [], ntmps := (0, 47) }
theorem cs101 (F : Nat) : ∀ f c, (cx101 F).call f = some c → CMet Tryz.prog f c := callsL_sound (calls_cons (s58 F) (calls_cons (s151 F) (calls_cons (s86 F) (calls_cons (s143 F) calls_nil))))
def sh101l5 : Shape := [(4, .box 4 tyV), (5, .d (.int .u64)), (7, .d (.int .u64))]
def sh101l5o2 : Shape := [(4, .box 4 tyV), (5, .d (.int .u64))]
def outs101l5 : Outs := [(4, sh101l5o2)]
def m101l5 (F : Nat) (n : Nat) {R : Type} (x : Shape.den sh101l5) (K : Ex → St → Option R) : Option R := ref03_gcd_l5 F (fun y4 y5 => K (.exit 2) (enc sh101l5o2 (y4, y5, ()))) n x.1 x.2.1 x.2.2.1
def sh101j5 : Shape := [(2, .box 2 tyV), (3, .box 3 tyV), (4, .box 4 tyV), (5, .d (.int .u64)), (7, .d (.int .u64)), (28, .d .bool)]
def sh101j5on : Shape := [(2, .box 2 tyV), (3, .box 3 tyV), (4, .box 4 tyV)]
def sh101j5oret : Shape := [(4, .box 4 tyV)]
def outs101j5 : Outs := [(0, sh101j5on), (1, sh101j5oret)]
def m101j5 (F : Nat) {R : Type} (x : Shape.den sh101j5) (K : Ex → St → Option R) : Option R := ref03_gcd_j5 F (fun y2 y3 y4 => K .normal (enc sh101j5on (y2, y3, y4, ()))) (fun y4 => K .ret (enc sh101j5oret (y4, ()))) x.1 x.2.1 x.2.2.1 x.2.2.2.1 x.2.2.2.2.1 x.2.2.2.2.2.1
def sh101j8 : Shape := [(2, .box 2 tyV), (3, .box 3 tyV), (4, .box 4 tyV)]
def sh101j8on : Shape := [(2, .box 2 tyV), (3, .box 3 tyV), (4, .box 4 tyV)]
def outs101j8 : Outs := [(0, sh101j8on)]
def m101j8 (F : Nat) {R : Type} (x : Shape.den sh101j8) (K : Ex → St → Option R) : Option R := ref03_gcd_j8 F (fun y2 y3 y4 => K .normal (enc sh101j8on (y2, y3, y4, ()))) x.1 x.2.1 x.2.2.1
def sh101l1 : Shape := [(2, .box 2 tyV), (3, .box 3 tyV), (4, .box 4 tyV)]
def sh101l1o0 : Shape := [(2, .box 2 tyV), (4, .box 4 tyV)]
def sh101l1oret : Shape := [(4, .box 4 tyV)]
def outs101l1 : Outs := [(2, sh101l1o0), (1, sh101l1oret)]
def m101l1 (F : Nat) (n : Nat) {R : Type} (x : Shape.den sh101l1) (K : Ex → St → Option R) : Option R := ref03_gcd_l1 F (fun y2 y4 => K (.exit 0) (enc sh101l1o0 (y2, y4, ()))) (fun y4 => K .ret (enc sh101l1oret (y4, ()))) n x.1 x.2.1 x.2.2.1
def hs101 (F : Nat) : Nat → Option (Hint (Dens sg101.rtys)) := hintL [(5, { sh := sh101l5, model := m101l5 F F }), (1, { sh := sh101l1, model := m101l1 F F })]
def js101 (F : Nat) : Nat → Option (Hint (Dens sg101.rtys)) := hintL [(5, { sh := sh101j5, model := m101j5 F }), (8, { sh := sh101j8, model := m101j8 F })]
theorem ok101l5 (F : Nat) (fr : Frm) (hn : (cx101 F).ntmps = fr.n) (n : Nat) : MSound (R := (Dens sg101.rtys)) Tryz.prog fr (.loop (sub (bodyOf Tryz.f101) [1, 0, 0, 0, 1, 0, 1, 1, 0, 1, 0, 0, 0, 0])) sh101l5 (m101l5 F n) :=
  loop_sound (cx := cx101 F) (hs := hs101 F) (js := js101 F) (outs := outs101l5) (conf_all _ rfl) (cs101 F) hn mix (m := fun n => m101l5 F n) (fun _ _ => rfl) (fun n x K => by kernel_rfl) (hok_of (l := []) (by kernel_rfl) obl_nil) n
theorem ok101j5 (F : Nat) (fr : Frm) (hn : (cx101 F).ntmps = fr.n) : MSound (R := (Dens sg101.rtys)) Tryz.prog fr (sub (bodyOf Tryz.f101) [1, 0, 0, 0, 1, 0, 1, 1, 0, 1]) sh101j5 (m101j5 F) :=
  join_sound (cx := cx101 F) (hs := hs101 F) (js := js101 F) (outs := outs101j5) (conf_all _ rfl) (cs101 F) hn mix (fun x K => by kernel_rfl) (hok_of (l := [((.loop (sub (bodyOf Tryz.f101) [1, 0, 0, 0, 1, 0, 1, 1, 0, 1, 0, 0, 0, 0])), { sh := sh101l5, model := m101l5 F F })]) (by kernel_rfl) (obl_cons (ok101l5 F fr hn F) obl_nil))
theorem ok101j8 (F : Nat) (fr : Frm) (hn : (cx101 F).ntmps = fr.n) : MSound (R := (Dens sg101.rtys)) Tryz.prog fr (sub (bodyOf Tryz.f101) [1, 0, 0, 0, 1, 0, 1, 1, 1]) sh101j8 (m101j8 F) :=
  join_sound (cx := cx101 F) (hs := hs101 F) (js := js101 F) (outs := outs101j8) (conf_all _ rfl) (cs101 F) hn mix (fun x K => by kernel_rfl) (hok_of (l := []) (by kernel_rfl) obl_nil)
theorem ok101l1 (F : Nat) (fr : Frm) (hn : (cx101 F).ntmps = fr.n) (n : Nat) : MSound (R := (Dens sg101.rtys)) Tryz.prog fr (.loop (sub (bodyOf Tryz.f101) [1, 0, 0, 0])) sh101l1 (m101l1 F n) :=
  loop_sound (cx := cx101 F) (hs := hs101 F) (js := js101 F) (outs := outs101l1) (conf_all _ rfl) (cs101 F) hn mix (m := fun n => m101l1 F n) (fun _ _ => rfl) (fun n x K => by kernel_rfl) (hok_of (l := [((sub (bodyOf Tryz.f101) [1, 0, 0, 0, 1, 0, 1, 1, 0, 1]), { sh := sh101j5, model := m101j5 F }), ((sub (bodyOf Tryz.f101) [1, 0, 0, 0, 1, 0, 1, 1, 1]), { sh := sh101j8, model := m101j8 F })]) (by kernel_rfl) (obl_cons (ok101j5 F fr hn) (obl_cons (ok101j8 F fr hn) obl_nil))) n
theorem s101 (F : Nat) : CSound Tryz.prog 101 (con101 F) :=
  fn_sound (fn := Tryz.f101) (code := (bodyOf Tryz.f101)) (cx := cx101 F) (hs := hs101 F) (js := js101 F) Tryz.func101 (by kernel_rfl) (by kernel_rfl) (conf_all _ rfl) (cs101 F) mix (by kernel_rfl) (by kernel_rfl) (fun fr hn => (hok_of (l := [((.loop (sub (bodyOf Tryz.f101) [1, 0, 0, 0])), { sh := sh101l1, model := m101l1 F F })]) (by kernel_rfl) (obl_cons (ok101l1 F fr hn F) obl_nil))) (fun x => by kernel_rfl)
def sg44 : Sig := { modes := [.ro], sh := [(0, .d tyV)], keeps := true, fresh := none, rtys := [tyV] }
def con44 (F : Nat) : Contract := mkCon sg44 fun x => ref02_Neg F x.1
def cx44 (F : Nat) : Cx := { types := tys, call := callsL [(91, con91 F), (90, con90 F)], own := [], ntmps := (0, 15) }
theorem cs44 (F : Nat) : ∀ f c, (cx44 F).call f = some c → CMet Tryz.prog f c := callsL_sound (calls_cons (s91 F) (calls_cons (s90 F) calls_nil))
theorem s44 (F : Nat) : CSound Tryz.prog 44 (con44 F) :=
  fn_sound (fn := Tryz.f44) (code := (bodyOf Tryz.f44)) (cx := cx44 F) (hs := hintL []) (js := hintL []) Tryz.func44 (by kernel_rfl) (by kernel_rfl) (conf_all _ rfl) (cs44 F) mix (by kernel_rfl) (by kernel_rfl) (fun fr hn => (hok_of (l := []) (by kernel_rfl) obl_nil)) (fun x => by kernel_rfl)
def sg100 : Sig := { modes := [.ro], sh := [(0, .d tyV)], keeps := true, fresh := none, rtys := [.bool] }
def con100 (F : Nat) : Contract := mkCon sg100 fun x => ref03_small F x.1
def cx100 (F : Nat) : Cx := { types := tys, call := callsL [], own := [], ntmps := (0, 19) }
theorem cs100 (F : Nat) : ∀ f c, (cx100 F).call f = some c → CMet Tryz.prog f c := callsL_sound calls_nil
theorem s100 (F : Nat) : CSound Tryz.prog 100 (con100 F) :=
  fn_sound (fn := Tryz.f100) (code := (bodyOf Tryz.f100)) (cx := cx100 F) (hs := hintL []) (js := hintL []) Tryz.func100 (by kernel_rfl) (by kernel_rfl) (conf_all _ rfl) (cs100 F) mix (by kernel_rfl) (by kernel_rfl) (fun fr hn => (hok_of (l := []) (by kernel_rfl) obl_nil)) (fun x => by kernel_rfl)
def sg89 : Sig := { modes := [], sh := [], keeps := true, fresh := none, rtys := [tyV] }
def con89 (F : Nat) : Contract := mkCon sg89 fun x => ref03_one F 
def cx89 (F : Nat) : Cx := { types := tys, call := callsL [(42, con42 F)], own := [], ntmps := (0, 2) }
theorem cs89 (F : Nat) : ∀ f c, (cx89 F).call f = some c → CMet Tryz.prog f c := callsL_sound (calls_cons (s42 F) calls_nil)
theorem s89 (F : Nat) : CSound Tryz.prog 89 (con89 F) :=
  fn_sound (fn := Tryz.f89) (code := (bodyOf Tryz.f89)) (cx := cx89 F) (hs := hintL []) (js := hintL []) Tryz.func89 (by kernel_rfl) (by kernel_rfl) (conf_all _ rfl) (cs89 F) mix (by kernel_rfl) (by kernel_rfl) (fun fr hn => (hok_of (l := []) (by kernel_rfl) obl_nil)) (fun x => by kernel_rfl)
def sg57 : Sig := { modes := [.ro], sh := [(0, .d (.pair tyV (.pair tyV .unit)))], keeps := true, fresh := none, rtys := [.bool] }
def con57 (F : Nat) : Contract := mkCon sg57 fun x => ref03_Valid F x.1
def cx57 (F : Nat) : Cx := { types := tys, call := callsL [(99, con99 F), (58, con58 F), (100, con100 F), (102, con102 F), (101, con101 F), (89, con89 F)], own := [], ntmps := (0, 39) }
theorem cs57 (F : Nat) : ∀ f c, (cx57 F).call f = some c → CMet Tryz.prog f c := callsL_sound (calls_cons (s99 F) (calls_cons (s58 F) (calls_cons (s100 F) (calls_cons (s102 F) (calls_cons (s101 F) (calls_cons (s89 F) calls_nil))))))
theorem s57 (F : Nat) : CSound Tryz.prog 57 (con57 F) :=
  fn_sound (fn := Tryz.f57) (code := (bodyOf Tryz.f57)) (cx := cx57 F) (hs := hintL []) (js := hintL []) Tryz.func57 (by kernel_rfl) (by kernel_rfl) (conf_all _ rfl) (cs57 F) mix (by kernel_rfl) (by kernel_rfl) (fun fr hn => (hok_of (l := []) (by kernel_rfl) obl_nil)) (fun x => by kernel_rfl)
def sg88 : Sig := { modes := [.ro, .ro], sh := [(0, .d tyV), (1, .d tyV)], keeps := true, fresh := none, rtys := [(.pair tyV (.pair tyV .unit)), .bool] }
def con88 (F : Nat) : Contract := mkCon sg88 fun x => ref03_Make F x.1 x.2.1
def cx88 (F : Nat) : Cx := { types := tys, call := callsL [(99, con99 F), (58, con58 F), (102, con102 F), (101, con101 F), (143, con143 F), (44, con44 F), (57, con57 F)], own := [], ntmps := (0, 64) }
theorem cs88 (F : Nat) : ∀ f c, (cx88 F).call f = some c → CMet Tryz.prog f c := callsL_sound (calls_cons (s99 F) (calls_cons (s58 F) (calls_cons (s102 F) (calls_cons (s101 F) (calls_cons (s143 F) (calls_cons (s44 F) (calls_cons (s57 F) calls_nil)))))))
def sh88j8 : Shape := [(4, .box 4 (.pair tyV (.pair tyV .unit))), (7, .box 7 tyV), (10, .box 10 tyV)]
def sh88j8oret : Shape := [(4, .box 4 (.pair tyV (.pair tyV .unit))), (5, .d .bool)]
def outs88j8 : Outs := [(1, sh88j8oret)]
def m88j8 (F : Nat) {R : Type} (x : Shape.den sh88j8) (K : Ex → St → Option R) : Option R := ref03_Make_j8 F (fun y4 y5 => K .ret (enc sh88j8oret (y4, y5, ()))) x.1 x.2.1 x.2.2.1
def js88 (F : Nat) : Nat → Option (Hint (Dens sg88.rtys)) := hintL [(8, { sh := sh88j8, model := m88j8 F })]
theorem ok88j8 (F : Nat) (fr : Frm) (hn : (cx88 F).ntmps = fr.n) : MSound (R := (Dens sg88.rtys)) Tryz.prog fr (sub (bodyOf Tryz.f88) [1, 1, 1, 1, 1, 1]) sh88j8 (m88j8 F) :=
  join_sound (cx := cx88 F) (hs := hintL []) (js := js88 F) (outs := outs88j8) (conf_all _ rfl) (cs88 F) hn mix (fun x K => by kernel_rfl) (hok_of (l := []) (by kernel_rfl) obl_nil)
theorem s88 (F : Nat) : CSound Tryz.prog 88 (con88 F) :=
  fn_sound (fn := Tryz.f88) (code := (bodyOf Tryz.f88)) (cx := cx88 F) (hs := hintL []) (js := js88 F) Tryz.func88 (by kernel_rfl) (by kernel_rfl) (conf_all _ rfl) (cs88 F) mix (by kernel_rfl) (by kernel_rfl) (fun fr hn => (hok_of (l := [((sub (bodyOf Tryz.f88) [1, 1, 1, 1, 1, 1]), { sh := sh88j8, model := m88j8 F })]) (by kernel_rfl) (obl_cons (ok88j8 F fr hn) obl_nil))) (fun x => by kernel_rfl)
def sg39 : Sig := { modes := [.ro], sh := [(0, .d (.int .i64))], keeps := true, fresh := none, rtys := [(.pair tyV (.pair tyV .unit))] }
def con39 (F : Nat) : Contract := mkCon sg39 fun x => ref03_Of F x.1
def cx39 (F : Nat) : Cx := { types := tys, call := callsL [(42, con42 F), (89, con89 F)], own := [], ntmps := (0, 7) }
theorem cs39 (F : Nat) : ∀ f c, (cx39 F).call f = some c → CMet Tryz.prog f c := callsL_sound (calls_cons (s42 F) (calls_cons (s89 F) calls_nil))
theorem s39 (F : Nat) : CSound Tryz.prog 39 (con39 F) :=
  fn_sound (fn := Tryz.f39) (code := (bodyOf Tryz.f39)) (cx := cx39 F) (hs := hintL []) (js := hintL []) Tryz.func39 (by kernel_rfl) (by kernel_rfl) (conf_all _ rfl) (cs39 F) mix (by kernel_rfl) (by kernel_rfl) (fun fr hn => (hok_of (l := []) (by kernel_rfl) obl_nil)) (fun x => by kernel_rfl)
def sg38 : Sig := { modes := [.bor], sh := [(0, .box 0 (.pair (.slice (.int .i64)) (.pair (.int .i64) .unit)))], keeps := false, fresh := none, rtys := [(.pair (.slice (.int .i64)) (.pair (.int .i64) .unit)), (.pair tyV (.pair tyV .unit))] }
def con38 (F : Nat) : Contract := mkCon sg38 fun x => made_Tape_Ratio F x.1
def cx38 (F : Nat) : Cx := { types := tys, call := callsL [(13, con13 F), (42, con42 F), (41, con41 F), (43, con43 F), (40, con40 F), (86, con86 F), (87, con87 F), (88, con88 F), (39, con39 F)], own := [], ntmps := (1, 42) }
theorem cs38 (F : Nat) : ∀ f c, (cx38 F).call f = some c → CMet Tryz.prog f c := callsL_sound (calls_cons (s13 F) (calls_cons (s42 F) (calls_cons (s41 F) (calls_cons (s43 F) (calls_cons (s40 F) (calls_cons (s86 F) (calls_cons (s87 F) (calls_cons (s88 F) (calls_cons (s39 F) calls_nil)))))))))
def sh38j6 : Shape := [(0, .box 0 (.pair (.slice (.int .i64)) (.pair (.int .i64) .unit))), (2, .box 2 (.pair tyV (.pair tyV .unit))), (3, .box 3 tyV), (4, .box 4 tyV)]
def sh38j6oret : Shape := [(0, .box 0 (.pair (.slice (.int .i64)) (.pair (.int .i64) .unit))), (2, .box 2 (.pair tyV (.pair tyV .unit)))]
def outs38j6 : Outs := [(1, sh38j6oret)]
def m38j6 (F : Nat) {R : Type} (x : Shape.den sh38j6) (K : Ex → St → Option R) : Option R := made_Tape_Ratio_j6 F (fun y0 y2 => K .ret (enc sh38j6oret (y0, y2, ()))) x.1 x.2.1 x.2.2.1 x.2.2.2.1
def sh38j4 : Shape := [(0, .box 0 (.pair (.slice (.int .i64)) (.pair (.int .i64) .unit))), (2, .box 2 (.pair tyV (.pair tyV .unit))), (3, .box 3 tyV), (4, .box 4 tyV)]
def sh38j4oret : Shape := [(0, .box 0 (.pair (.slice (.int .i64)) (.pair (.int .i64) .unit))), (2, .box 2 (.pair tyV (.pair tyV .unit)))]
def outs38j4 : Outs := [(1, sh38j4oret)]
def m38j4 (F : Nat) {R : Type} (x : Shape.den sh38j4) (K : Ex → St → Option R) : Option R := made_Tape_Ratio_j4 F (fun y0 y2 => K .ret (enc sh38j4oret (y0, y2, ()))) x.1 x.2.1 x.2.2.1 x.2.2.2.1
def js38 (F : Nat) : Nat → Option (Hint (Dens sg38.rtys)) := hintL [(6, { sh := sh38j6, model := m38j6 F }), (4, { sh := sh38j4, model := m38j4 F })]
theorem ok38j6 (F : Nat) (fr : Frm) (hn : (cx38 F).ntmps = fr.n) : MSound (R := (Dens sg38.rtys)) Tryz.prog fr (sub (bodyOf Tryz.f38) [1, 1, 1, 1]) sh38j6 (m38j6 F) :=
  join_sound (cx := cx38 F) (hs := hintL []) (js := js38 F) (outs := outs38j6) (conf_all _ rfl) (cs38 F) hn mix (fun x K => by kernel_rfl) (hok_of (l := []) (by kernel_rfl) obl_nil)
theorem ok38j4 (F : Nat) (fr : Frm) (hn : (cx38 F).ntmps = fr.n) : MSound (R := (Dens sg38.rtys)) Tryz.prog fr (sub (bodyOf Tryz.f38) [1, 1, 1]) sh38j4 (m38j4 F) :=
  join_sound (cx := cx38 F) (hs := hintL []) (js := js38 F) (outs := outs38j4) (conf_all _ rfl) (cs38 F) hn mix (fun x K => by kernel_rfl) (hok_of (l := [((sub (bodyOf Tryz.f38) [1, 1, 1, 1]), { sh := sh38j6, model := m38j6 F })]) (by kernel_rfl) (obl_cons (ok38j6 F fr hn) obl_nil))
theorem s38 (F : Nat) : CSound Tryz.prog 38 (con38 F) :=
  fn_sound (fn := Tryz.f38) (code := (bodyOf Tryz.f38)) (cx := cx38 F) (hs := hintL []) (js := js38 F) Tryz.func38 (by kernel_rfl) (by kernel_rfl) (conf_all _ rfl) (cs38 F) mix (by kernel_rfl) (by kernel_rfl) (fun fr hn => (hok_of (l := [((sub (bodyOf Tryz.f38) [1, 1, 1]), { sh := sh38j4, model := m38j4 F })]) (by kernel_rfl) (obl_cons (ok38j4 F fr hn) obl_nil))) (fun x => by kernel_rfl)
def sg12 : Sig := { modes := [.bor], sh := [(0, .box 0 (.pair (.slice (.int .i64)) (.pair (.int .i64) .unit)))], keeps := false, fresh := some (0, 35), rtys := [(.pair (.slice (.int .i64)) (.pair (.int .i64) .unit)), (.slice (.pair (.int .i64) (.pair (.int .i64) (.pair (.pair tyV (.pair tyV .unit)) .unit)))), (.int .i64)] }
def con12 (F : Nat) : Contract := mkCon sg12 fun x => law18_list F x.1
def cx12 (F : Nat) : Cx := { types := tys, call := callsL [(37, con37 F), (13, con13 F), (38, con38 F), (39, con39 F)], own := [2, 4], ntmps := (1, 42) }
theorem cs12 (F : Nat) : ∀ f c, (cx12 F).call f = some c → CMet Tryz.prog f c := callsL_sound (calls_cons (s37 F) (calls_cons (s13 F) (calls_cons (s38 F) (calls_cons (s39 F) calls_nil))))
def sh12l5 : Shape := [(0, .box 0 (.pair (.slice (.int .i64)) (.pair (.int .i64) .unit))), (4, .own 4 (.pair (.int .i64) (.pair (.int .i64) (.pair (.pair tyV (.pair tyV .unit)) .unit))) 35), (5, .d (.int .i64)), (6, .d (.slice (.int .i64))), (7, .d (.int .i64))]
def sh12l5o0 : Shape := [(0, .box 0 (.pair (.slice (.int .i64)) (.pair (.int .i64) .unit))), (4, .own 4 (.pair (.int .i64) (.pair (.int .i64) (.pair (.pair tyV (.pair tyV .unit)) .unit))) 35), (5, .d (.int .i64))]
def outs12l5 : Outs := [(2, sh12l5o0)]
def m12l5 (F : Nat) (n : Nat) {R : Type} (x : Shape.den sh12l5) (K : Ex → St → Option R) : Option R := law18_list_l5 F (fun y0 y4 y5 => K (.exit 0) (enc sh12l5o0 (y0, y4, y5, ()))) n x.1 x.2.1 x.2.2.1 x.2.2.2.1 x.2.2.2.2.1
def hs12 (F : Nat) : Nat → Option (Hint (Dens sg12.rtys)) := hintL [(5, { sh := sh12l5, model := m12l5 F F })]
theorem ok12l5 (F : Nat) (fr : Frm) (hn : (cx12 F).ntmps = fr.n) (n : Nat) : MSound (R := (Dens sg12.rtys)) Tryz.prog fr (.loop (sub (bodyOf Tryz.f12) [1, 1, 1, 1, 0, 1, 0, 0])) sh12l5 (m12l5 F n) :=
  loop_sound (cx := cx12 F) (hs := hs12 F) (js := hintL []) (outs := outs12l5) (conf_all _ rfl) (cs12 F) hn mix (m := fun n => m12l5 F n) (fun _ _ => rfl) (fun n x K => by kernel_rfl) (hok_of (l := []) (by kernel_rfl) obl_nil) n
theorem s12 (F : Nat) : CSound Tryz.prog 12 (con12 F) :=
  fn_sound (fn := Tryz.f12) (code := (bodyOf Tryz.f12)) (cx := cx12 F) (hs := hs12 F) (js := hintL []) Tryz.func12 (by kernel_rfl) (by kernel_rfl) (conf_all _ rfl) (cs12 F) mix (by kernel_rfl) (by kernel_rfl) (fun fr hn => (hok_of (l := [((.loop (sub (bodyOf Tryz.f12) [1, 1, 1, 1, 0, 1, 0, 0])), { sh := sh12l5, model := m12l5 F F })]) (by kernel_rfl) (obl_cons (ok12l5 F fr hn F) obl_nil))) (fun x => by kernel_rfl)
def sg47 : Sig := { modes := [.ro], sh := [(0, .d (.slice (.pair (.int .i64) (.pair (.int .i64) (.pair (.pair tyV (.pair tyV .unit)) .unit)))))], keeps := false, fresh := some (0, 3), rtys := [(.slice (.int .i64))] }
def con47 (F : Nat) : Contract := mkCon sg47 fun x => lines_counts F x.1
def cx47 (F : Nat) : Cx := { types := tys, call := callsL [], own := [2, 8], ntmps := (0, 23) }
theorem cs47 (F : Nat) : ∀ f c, (cx47 F).call f = some c → CMet Tryz.prog f c := callsL_sound calls_nil
def sh47l3 : Shape := [(3, .own 3 (.int .i64) 3), (9, .d (.slice (.pair (.int .i64) (.pair (.int .i64) (.pair (.pair tyV (.pair tyV .unit)) .unit))))), (10, .d (.int .i64)), (11, .d (.int .i64))]
def sh47l3o0 : Shape := [(3, .own 3 (.int .i64) 3)]
def outs47l3 : Outs := [(2, sh47l3o0)]
def m47l3 (F : Nat) (n : Nat) {R : Type} (x : Shape.den sh47l3) (K : Ex → St → Option R) : Option R := lines_counts_l3 F (fun y3 => K (.exit 0) (enc sh47l3o0 (y3, ()))) n x.1 x.2.1 x.2.2.1 x.2.2.2.1
def hs47 (F : Nat) : Nat → Option (Hint (Dens sg47.rtys)) := hintL [(3, { sh := sh47l3, model := m47l3 F F })]
theorem ok47l3 (F : Nat) (fr : Frm) (hn : (cx47 F).ntmps = fr.n) (n : Nat) : MSound (R := (Dens sg47.rtys)) Tryz.prog fr (.loop (sub (bodyOf Tryz.f47) [1, 1, 0, 1, 0, 0])) sh47l3 (m47l3 F n) :=
  loop_sound (cx := cx47 F) (hs := hs47 F) (js := hintL []) (outs := outs47l3) (conf_all _ rfl) (cs47 F) hn mix (m := fun n => m47l3 F n) (fun _ _ => rfl) (fun n x K => by kernel_rfl) (hok_of (l := []) (by kernel_rfl) obl_nil) n
theorem s47 (F : Nat) : CSound Tryz.prog 47 (con47 F) :=
  fn_sound (fn := Tryz.f47) (code := (bodyOf Tryz.f47)) (cx := cx47 F) (hs := hs47 F) (js := hintL []) Tryz.func47 (by kernel_rfl) (by kernel_rfl) (conf_all _ rfl) (cs47 F) mix (by kernel_rfl) (by kernel_rfl) (fun fr hn => (hok_of (l := [((.loop (sub (bodyOf Tryz.f47) [1, 1, 0, 1, 0, 0])), { sh := sh47l3, model := m47l3 F F })]) (by kernel_rfl) (obl_cons (ok47l3 F fr hn F) obl_nil))) (fun x => by kernel_rfl)
def sg53 : Sig := { modes := [.ro, .ro], sh := [(0, .d (.slice (.int .i64))), (1, .d (.int .i64))], keeps := true, fresh := none, rtys := [(.int .i64)] }
def con53 (F : Nat) : Contract := mkCon sg53 fun x => records_Sum F x.1 x.2.1
def cx53 (F : Nat) : Cx := { types := tys, call := callsL [], own := [], ntmps := (0, 30) }
theorem cs53 (F : Nat) : ∀ f c, (cx53 F).call f = some c → CMet Tryz.prog f c := callsL_sound calls_nil
def sh53l3 : Shape := [(1, .d (.int .i64)), (5, .d (.int .i64)), (8, .d (.slice (.int .i64))), (9, .d (.int .i64)), (10, .d (.int .i64))]
def sh53l3o0 : Shape := [(5, .d (.int .i64))]
def sh53l3oret : Shape := [(4, .d (.int .i64))]
def outs53l3 : Outs := [(2, sh53l3o0), (1, sh53l3oret)]
def m53l3 (F : Nat) (n : Nat) {R : Type} (x : Shape.den sh53l3) (K : Ex → St → Option R) : Option R := records_Sum_l3 F (fun y5 => K (.exit 0) (enc sh53l3o0 (y5, ()))) (fun y4 => K .ret (enc sh53l3oret (y4, ()))) n x.1 x.2.1 x.2.2.1 x.2.2.2.1 x.2.2.2.2.1
def hs53 (F : Nat) : Nat → Option (Hint (Dens sg53.rtys)) := hintL [(3, { sh := sh53l3, model := m53l3 F F })]
theorem ok53l3 (F : Nat) (fr : Frm) (hn : (cx53 F).ntmps = fr.n) (n : Nat) : MSound (R := (Dens sg53.rtys)) Tryz.prog fr (.loop (sub (bodyOf Tryz.f53) [1, 1, 0, 1, 0, 0])) sh53l3 (m53l3 F n) :=
  loop_sound (cx := cx53 F) (hs := hs53 F) (js := hintL []) (outs := outs53l3) (conf_all _ rfl) (cs53 F) hn mix (m := fun n => m53l3 F n) (fun _ _ => rfl) (fun n x K => by kernel_rfl) (hok_of (l := []) (by kernel_rfl) obl_nil) n
theorem s53 (F : Nat) : CSound Tryz.prog 53 (con53 F) :=
  fn_sound (fn := Tryz.f53) (code := (bodyOf Tryz.f53)) (cx := cx53 F) (hs := hs53 F) (js := hintL []) Tryz.func53 (by kernel_rfl) (by kernel_rfl) (conf_all _ rfl) (cs53 F) mix (by kernel_rfl) (by kernel_rfl) (fun fr hn => (hok_of (l := [((.loop (sub (bodyOf Tryz.f53) [1, 1, 0, 1, 0, 0])), { sh := sh53l3, model := m53l3 F F })]) (by kernel_rfl) (obl_cons (ok53l3 F fr hn F) obl_nil))) (fun x => by kernel_rfl)
def sg126 : Sig := { modes := [.ro], sh := [(0, .d tyV)], keeps := true, fresh := none, rtys := [.bool] }
def con126 (F : Nat) : Contract := mkCon sg126 fun x => wide_Valid F x.1
def cx126 (F : Nat) : Cx := { types := tys, call := callsL [], own := [], ntmps := (0, 12) }
theorem cs126 (F : Nat) : ∀ f c, (cx126 F).call f = some c → CMet Tryz.prog f c := callsL_sound calls_nil
theorem s126 (F : Nat) : CSound Tryz.prog 126 (con126 F) :=
  fn_sound (fn := Tryz.f126) (code := (bodyOf Tryz.f126)) (cx := cx126 F) (hs := hintL []) (js := hintL []) Tryz.func126 (by kernel_rfl) (by kernel_rfl) (conf_all _ rfl) (cs126 F) mix (by kernel_rfl) (by kernel_rfl) (fun fr hn => (hok_of (l := []) (by kernel_rfl) obl_nil)) (fun x => by kernel_rfl)
def sg155 : Sig := { modes := [.ro], sh := [(0, .d tyV)], keeps := true, fresh := none, rtys := [tyV] }
def con155 (F : Nat) : Contract := mkCon sg155 fun x => wide_clean F x.1
def cx155 (F : Nat) : Cx := { types := tys, call := callsL [(126, con126 F)], own := [], ntmps := (0, 8) }
theorem cs155 (F : Nat) : ∀ f c, (cx155 F).call f = some c → CMet Tryz.prog f c := callsL_sound (calls_cons (s126 F) calls_nil)
theorem s155 (F : Nat) : CSound Tryz.prog 155 (con155 F) :=
  fn_sound (fn := Tryz.f155) (code := (bodyOf Tryz.f155)) (cx := cx155 F) (hs := hintL []) (js := hintL []) Tryz.func155 (by kernel_rfl) (by kernel_rfl) (conf_all _ rfl) (cs155 F) mix (by kernel_rfl) (by kernel_rfl) (fun fr hn => (hok_of (l := []) (by kernel_rfl) obl_nil)) (fun x => by kernel_rfl)
def sg112 : Sig := { modes := [.ro], sh := [(0, .d tyV)], keeps := true, fresh := none, rtys := [(.int .i64)] }
def con112 (F : Nat) : Contract := mkCon sg112 fun x => wide_Sign F x.1
def cx112 (F : Nat) : Cx := { types := tys, call := callsL [(155, con155 F)], own := [], ntmps := (0, 13) }
theorem cs112 (F : Nat) : ∀ f c, (cx112 F).call f = some c → CMet Tryz.prog f c := callsL_sound (calls_cons (s155 F) calls_nil)
theorem s112 (F : Nat) : CSound Tryz.prog 112 (con112 F) :=
  fn_sound (fn := Tryz.f112) (code := (bodyOf Tryz.f112)) (cx := cx112 F) (hs := hintL []) (js := hintL []) Tryz.func112 (by kernel_rfl) (by kernel_rfl) (conf_all _ rfl) (cs112 F) mix (by kernel_rfl) (by kernel_rfl) (fun fr hn => (hok_of (l := []) (by kernel_rfl) obl_nil)) (fun x => by kernel_rfl)
def sg127 : Sig := { modes := [.ro], sh := [(0, .d tyV)], keeps := true, fresh := none, rtys := [.bool] }
def con127 (F : Nat) : Contract := mkCon sg127 fun x => ratio_small F x.1
def cx127 (F : Nat) : Cx := { types := tys, call := callsL [], own := [], ntmps := (0, 20) }
theorem cs127 (F : Nat) : ∀ f c, (cx127 F).call f = some c → CMet Tryz.prog f c := callsL_sound calls_nil
theorem s127 (F : Nat) : CSound Tryz.prog 127 (con127 F) :=
  fn_sound (fn := Tryz.f127) (code := (bodyOf Tryz.f127)) (cx := cx127 F) (hs := hintL []) (js := hintL []) Tryz.func127 (by kernel_rfl) (by kernel_rfl) (conf_all _ rfl) (cs127 F) mix (by kernel_rfl) (by kernel_rfl) (fun fr hn => (hok_of (l := []) (by kernel_rfl) obl_nil)) (fun x => by kernel_rfl)
def sg212 : Sig := { modes := [.ro], sh := [(0, .d (.arr 4 (.int .u64)))], keeps := true, fresh := none, rtys := [(.int .i64)] }
def con212 (F : Nat) : Contract := mkCon sg212 fun x => wide_length F x.1
def cx212 (F : Nat) : Cx := { types := tys, call := callsL [(187, con187 F)], own := [], ntmps := (0, 19) }
theorem cs212 (F : Nat) : ∀ f c, (cx212 F).call f = some c → CMet Tryz.prog f c := callsL_sound (calls_cons (s187 F) calls_nil)
def sh212l2 : Shape := [(1, .box 1 (.arr 4 (.int .u64))), (3, .d (.int .i64))]
def sh212l2o0 : Shape := []
def sh212l2oret : Shape := [(2, .d (.int .i64))]
def outs212l2 : Outs := [(2, sh212l2o0), (1, sh212l2oret)]
def m212l2 (F : Nat) (n : Nat) {R : Type} (x : Shape.den sh212l2) (K : Ex → St → Option R) : Option R := wide_length_l2 F (K (.exit 0) (enc sh212l2o0 (()))) (fun y2 => K .ret (enc sh212l2oret (y2, ()))) n x.1 x.2.1
def hs212 (F : Nat) : Nat → Option (Hint (Dens sg212.rtys)) := hintL [(2, { sh := sh212l2, model := m212l2 F F })]
theorem ok212l2 (F : Nat) (fr : Frm) (hn : (cx212 F).ntmps = fr.n) (n : Nat) : MSound (R := (Dens sg212.rtys)) Tryz.prog fr (.loop (sub (bodyOf Tryz.f212) [1, 0, 1, 0, 0])) sh212l2 (m212l2 F n) :=
  loop_sound (cx := cx212 F) (hs := hs212 F) (js := hintL []) (outs := outs212l2) (conf_all _ rfl) (cs212 F) hn mix (m := fun n => m212l2 F n) (fun _ _ => rfl) (fun n x K => by kernel_rfl) (hok_of (l := []) (by kernel_rfl) obl_nil) n
theorem s212 (F : Nat) : CSound Tryz.prog 212 (con212 F) :=
  fn_sound (fn := Tryz.f212) (code := (bodyOf Tryz.f212)) (cx := cx212 F) (hs := hs212 F) (js := hintL []) Tryz.func212 (by kernel_rfl) (by kernel_rfl) (conf_all _ rfl) (cs212 F) mix (by kernel_rfl) (by kernel_rfl) (fun fr hn => (hok_of (l := [((.loop (sub (bodyOf Tryz.f212) [1, 0, 1, 0, 0])), { sh := sh212l2, model := m212l2 F F })]) (by kernel_rfl) (obl_cons (ok212l2 F fr hn F) obl_nil))) (fun x => by kernel_rfl)
def sg213 : Sig := { modes := [.ro, .ro], sh := [(0, .d (.arr 4 (.int .u64))), (1, .d (.int .i64))], keeps := true, fresh := none, rtys := [(.arr 4 (.int .u64))] }
def con213 (F : Nat) : Contract := mkCon sg213 fun x => wide_left F x.1 x.2.1
def cx213 (F : Nat) : Cx := { types := tys, call := callsL [], own := [], ntmps := (0, 48) }
theorem cs213 (F : Nat) : ∀ f c, (cx213 F).call f = some c → CMet Tryz.prog f c := callsL_sound calls_nil
def sh213j7 : Shape := [(2, .box 2 (.arr 4 (.int .u64))), (4, .box 4 (.arr 4 (.int .u64))), (5, .d (.int .i64)), (6, .d (.int .i64)), (7, .d (.int .i64)), (32, .d .bool)]
def sh213j7on : Shape := [(2, .box 2 (.arr 4 (.int .u64))), (4, .box 4 (.arr 4 (.int .u64))), (5, .d (.int .i64)), (6, .d (.int .i64)), (7, .d (.int .i64))]
def outs213j7 : Outs := [(0, sh213j7on)]
def m213j7 (F : Nat) {R : Type} (x : Shape.den sh213j7) (K : Ex → St → Option R) : Option R := wide_left_j7 F (fun y2 y4 y5 y6 y7 => K .normal (enc sh213j7on (y2, y4, y5, y6, y7, ()))) x.1 x.2.1 x.2.2.1 x.2.2.2.1 x.2.2.2.2.1 x.2.2.2.2.2.1
def sh213l3 : Shape := [(2, .box 2 (.arr 4 (.int .u64))), (4, .box 4 (.arr 4 (.int .u64))), (5, .d (.int .i64)), (6, .d (.int .i64)), (7, .d (.int .i64))]
def sh213l3o0 : Shape := [(4, .box 4 (.arr 4 (.int .u64)))]
def outs213l3 : Outs := [(2, sh213l3o0)]
def m213l3 (F : Nat) (n : Nat) {R : Type} (x : Shape.den sh213l3) (K : Ex → St → Option R) : Option R := wide_left_l3 F (fun y4 => K (.exit 0) (enc sh213l3o0 (y4, ()))) n x.1 x.2.1 x.2.2.1 x.2.2.2.1 x.2.2.2.2.1
def hs213 (F : Nat) : Nat → Option (Hint (Dens sg213.rtys)) := hintL [(3, { sh := sh213l3, model := m213l3 F F })]
def js213 (F : Nat) : Nat → Option (Hint (Dens sg213.rtys)) := hintL [(7, { sh := sh213j7, model := m213j7 F })]
theorem ok213j7 (F : Nat) (fr : Frm) (hn : (cx213 F).ntmps = fr.n) : MSound (R := (Dens sg213.rtys)) Tryz.prog fr (sub (bodyOf Tryz.f213) [1, 1, 0, 1, 0, 0, 1, 0, 0, 1, 1]) sh213j7 (m213j7 F) :=
  join_sound (cx := cx213 F) (hs := hs213 F) (js := js213 F) (outs := outs213j7) (conf_all _ rfl) (cs213 F) hn mix (fun x K => by kernel_rfl) (hok_of (l := []) (by kernel_rfl) obl_nil)
theorem ok213l3 (F : Nat) (fr : Frm) (hn : (cx213 F).ntmps = fr.n) (n : Nat) : MSound (R := (Dens sg213.rtys)) Tryz.prog fr (.loop (sub (bodyOf Tryz.f213) [1, 1, 0, 1, 0, 0])) sh213l3 (m213l3 F n) :=
  loop_sound (cx := cx213 F) (hs := hs213 F) (js := js213 F) (outs := outs213l3) (conf_all _ rfl) (cs213 F) hn mix (m := fun n => m213l3 F n) (fun _ _ => rfl) (fun n x K => by kernel_rfl) (hok_of (l := [((sub (bodyOf Tryz.f213) [1, 1, 0, 1, 0, 0, 1, 0, 0, 1, 1]), { sh := sh213j7, model := m213j7 F })]) (by kernel_rfl) (obl_cons (ok213j7 F fr hn) obl_nil)) n
theorem s213 (F : Nat) : CSound Tryz.prog 213 (con213 F) :=
  fn_sound (fn := Tryz.f213) (code := (bodyOf Tryz.f213)) (cx := cx213 F) (hs := hs213 F) (js := js213 F) Tryz.func213 (by kernel_rfl) (by kernel_rfl) (conf_all _ rfl) (cs213 F) mix (by kernel_rfl) (by kernel_rfl) (fun fr hn => (hok_of (l := [((.loop (sub (bodyOf Tryz.f213) [1, 1, 0, 1, 0, 0])), { sh := sh213l3, model := m213l3 F F })]) (by kernel_rfl) (obl_cons (ok213l3 F fr hn F) obl_nil))) (fun x => by kernel_rfl)
def sg218 : Sig := { modes := [.ro], sh := [(0, .d (.int .u64))], keeps := true, fresh := none, rtys := [.bool] }
def con218 (F : Nat) : Contract := mkCon sg218 fun x => cmp_isNaN_uint64 F x.1
def cx218 (F : Nat) : Cx := { types := tys, call := callsL [], own := [], ntmps := (0, 6) }
theorem cs218 (F : Nat) : ∀ f c, (cx218 F).call f = some c → CMet Tryz.prog f c := callsL_sound calls_nil
theorem s218 (F : Nat) : CSound Tryz.prog 218 (con218 F) :=
  fn_sound (fn := Tryz.f218) (code := (bodyOf Tryz.f218)) (cx := cx218 F) (hs := hintL []) (js := hintL []) Tryz.func218 (by kernel_rfl) (by kernel_rfl) (conf_all _ rfl) (cs218 F) mix (by kernel_rfl) (by kernel_rfl) (fun fr hn => (hok_of (l := []) (by kernel_rfl) obl_nil)) (fun x => by kernel_rfl)
def sg215 : Sig := { modes := [.ro, .ro], sh := [(0, .d (.int .u64)), (1, .d (.int .u64))], keeps := true, fresh := none, rtys := [(.int .i64)] }
def con215 (F : Nat) : Contract := mkCon sg215 fun x => cmp_Compare_uint64 F x.1 x.2.1
def cx215 (F : Nat) : Cx := { types := tys, call := callsL [(218, con218 F)], own := [], ntmps := (0, 20) }
theorem cs215 (F : Nat) : ∀ f c, (cx215 F).call f = some c → CMet Tryz.prog f c := callsL_sound (calls_cons (s218 F) calls_nil)
theorem s215 (F : Nat) : CSound Tryz.prog 215 (con215 F) :=
  fn_sound (fn := Tryz.f215) (code := (bodyOf Tryz.f215)) (cx := cx215 F) (hs := hintL []) (js := hintL []) Tryz.func215 (by kernel_rfl) (by kernel_rfl) (conf_all _ rfl) (cs215 F) mix (by kernel_rfl) (by kernel_rfl) (fun fr hn => (hok_of (l := []) (by kernel_rfl) obl_nil)) (fun x => by kernel_rfl)
def sg129 : Sig := { modes := [.ro], sh := [(0, .d (.slice (.int .i64)))], keeps := true, fresh := none, rtys := [(.int .i64)] }
def con129 (F : Nat) : Contract := mkCon sg129 fun x => cmp_Or_int F x.1
def cx129 (F : Nat) : Cx := { types := tys, call := callsL [], own := [], ntmps := (0, 18) }
theorem cs129 (F : Nat) : ∀ f c, (cx129 F).call f = some c → CMet Tryz.prog f c := callsL_sound calls_nil
def sh129l3 : Shape := [(3, .d (.int .i64)), (6, .d (.slice (.int .i64))), (7, .d (.int .i64)), (8, .d (.int .i64))]
def sh129l3o0 : Shape := [(3, .d (.int .i64))]
def sh129l3oret : Shape := [(2, .d (.int .i64))]
def outs129l3 : Outs := [(2, sh129l3o0), (1, sh129l3oret)]
def m129l3 (F : Nat) (n : Nat) {R : Type} (x : Shape.den sh129l3) (K : Ex → St → Option R) : Option R := cmp_Or_int_l3 F (fun y3 => K (.exit 0) (enc sh129l3o0 (y3, ()))) (fun y2 => K .ret (enc sh129l3oret (y2, ()))) n x.1 x.2.1 x.2.2.1 x.2.2.2.1
def hs129 (F : Nat) : Nat → Option (Hint (Dens sg129.rtys)) := hintL [(3, { sh := sh129l3, model := m129l3 F F })]
theorem ok129l3 (F : Nat) (fr : Frm) (hn : (cx129 F).ntmps = fr.n) (n : Nat) : MSound (R := (Dens sg129.rtys)) Tryz.prog fr (.loop (sub (bodyOf Tryz.f129) [1, 1, 0, 1, 0, 0])) sh129l3 (m129l3 F n) :=
  loop_sound (cx := cx129 F) (hs := hs129 F) (js := hintL []) (outs := outs129l3) (conf_all _ rfl) (cs129 F) hn mix (m := fun n => m129l3 F n) (fun _ _ => rfl) (fun n x K => by kernel_rfl) (hok_of (l := []) (by kernel_rfl) obl_nil) n
theorem s129 (F : Nat) : CSound Tryz.prog 129 (con129 F) :=
  fn_sound (fn := Tryz.f129) (code := (bodyOf Tryz.f129)) (cx := cx129 F) (hs := hs129 F) (js := hintL []) Tryz.func129 (by kernel_rfl) (by kernel_rfl) (conf_all _ rfl) (cs129 F) mix (by kernel_rfl) (by kernel_rfl) (fun fr hn => (hok_of (l := [((.loop (sub (bodyOf Tryz.f129) [1, 1, 0, 1, 0, 0])), { sh := sh129l3, model := m129l3 F F })]) (by kernel_rfl) (obl_cons (ok129l3 F fr hn F) obl_nil))) (fun x => by kernel_rfl)
def sg202 : Sig := { modes := [.ro, .ro], sh := [(0, .d (.arr 4 (.int .u64))), (1, .d (.arr 4 (.int .u64)))], keeps := true, fresh := none, rtys := [(.int .i64)] }
def con202 (F : Nat) : Contract := mkCon sg202 fun x => wide_compare F x.1 x.2.1
def cx202 (F : Nat) : Cx := { types := tys, call := callsL [(215, con215 F), (129, con129 F)], own := [], ntmps := (0, 27) }
theorem cs202 (F : Nat) : ∀ f c, (cx202 F).call f = some c → CMet Tryz.prog f c := callsL_sound (calls_cons (s215 F) (calls_cons (s129 F) calls_nil))
theorem s202 (F : Nat) : CSound Tryz.prog 202 (con202 F) :=
  fn_sound (fn := Tryz.f202) (code := (bodyOf Tryz.f202)) (cx := cx202 F) (hs := hintL []) (js := hintL []) Tryz.func202 (by kernel_rfl) (by kernel_rfl) (conf_all _ rfl) (cs202 F) mix (by kernel_rfl) (by kernel_rfl) (fun fr hn => (hok_of (l := []) (by kernel_rfl) obl_nil)) (fun x => by kernel_rfl)
def sg200 : Sig := { modes := [.ro, .ro], sh := [(0, .d (.arr 4 (.int .u64))), (1, .d (.arr 4 (.int .u64)))], keeps := true, fresh := none, rtys := [(.arr 4 (.int .u64))] }
def con200 (F : Nat) : Contract := mkCon sg200 fun x => wide_sub F x.1 x.2.1
def cx200 (F : Nat) : Cx := { types := tys, call := callsL [(210, con210 F)], own := [], ntmps := (0, 25) }
theorem cs200 (F : Nat) : ∀ f c, (cx200 F).call f = some c → CMet Tryz.prog f c := callsL_sound (calls_cons_ext (s210 F) calls_nil)
def sh200l3 : Shape := [(2, .box 2 (.arr 4 (.int .u64))), (3, .box 3 (.arr 4 (.int .u64))), (4, .box 4 (.arr 4 (.int .u64))), (5, .d (.int .u64)), (7, .d (.int .i64))]
def sh200l3o0 : Shape := [(4, .box 4 (.arr 4 (.int .u64)))]
def outs200l3 : Outs := [(2, sh200l3o0)]
def m200l3 (F : Nat) (n : Nat) {R : Type} (x : Shape.den sh200l3) (K : Ex → St → Option R) : Option R := wide_sub_l3 F (fun y4 => K (.exit 0) (enc sh200l3o0 (y4, ()))) n x.1 x.2.1 x.2.2.1 x.2.2.2.1 x.2.2.2.2.1
def hs200 (F : Nat) : Nat → Option (Hint (Dens sg200.rtys)) := hintL [(3, { sh := sh200l3, model := m200l3 F F })]
theorem ok200l3 (F : Nat) (fr : Frm) (hn : (cx200 F).ntmps = fr.n) (n : Nat) : MSound (R := (Dens sg200.rtys)) Tryz.prog fr (.loop (sub (bodyOf Tryz.f200) [1, 1, 0, 1, 0, 0])) sh200l3 (m200l3 F n) :=
  loop_sound (cx := cx200 F) (hs := hs200 F) (js := hintL []) (outs := outs200l3) (conf_all _ rfl) (cs200 F) hn mix (m := fun n => m200l3 F n) (fun _ _ => rfl) (fun n x K => by kernel_rfl) (hok_of (l := []) (by kernel_rfl) obl_nil) n
theorem s200 (F : Nat) : CSound Tryz.prog 200 (con200 F) :=
  fn_sound (fn := Tryz.f200) (code := (bodyOf Tryz.f200)) (cx := cx200 F) (hs := hs200 F) (js := hintL []) Tryz.func200 (by kernel_rfl) (by kernel_rfl) (conf_all _ rfl) (cs200 F) mix (by kernel_rfl) (by kernel_rfl) (fun fr hn => (hok_of (l := [((.loop (sub (bodyOf Tryz.f200) [1, 1, 0, 1, 0, 0])), { sh := sh200l3, model := m200l3 F F })]) (by kernel_rfl) (obl_cons (ok200l3 F fr hn F) obl_nil))) (fun x => by kernel_rfl)
def sg214 : Sig := { modes := [.ro], sh := [(0, .d (.arr 4 (.int .u64)))], keeps := true, fresh := none, rtys := [(.arr 4 (.int .u64))] }
def con214 (F : Nat) : Contract := mkCon sg214 fun x => wide_halved F x.1
def cx214 (F : Nat) : Cx := { types := tys, call := callsL [], own := [], ntmps := (0, 27) }
theorem cs214 (F : Nat) : ∀ f c, (cx214 F).call f = some c → CMet Tryz.prog f c := callsL_sound calls_nil
def sh214l2 : Shape := [(1, .box 1 (.arr 4 (.int .u64))), (2, .box 2 (.arr 4 (.int .u64))), (4, .d (.int .i64))]
def sh214l2o0 : Shape := [(2, .box 2 (.arr 4 (.int .u64)))]
def outs214l2 : Outs := [(2, sh214l2o0)]
def m214l2 (F : Nat) (n : Nat) {R : Type} (x : Shape.den sh214l2) (K : Ex → St → Option R) : Option R := wide_halved_l2 F (fun y2 => K (.exit 0) (enc sh214l2o0 (y2, ()))) n x.1 x.2.1 x.2.2.1
def hs214 (F : Nat) : Nat → Option (Hint (Dens sg214.rtys)) := hintL [(2, { sh := sh214l2, model := m214l2 F F })]
theorem ok214l2 (F : Nat) (fr : Frm) (hn : (cx214 F).ntmps = fr.n) (n : Nat) : MSound (R := (Dens sg214.rtys)) Tryz.prog fr (.loop (sub (bodyOf Tryz.f214) [1, 0, 1, 0, 0])) sh214l2 (m214l2 F n) :=
  loop_sound (cx := cx214 F) (hs := hs214 F) (js := hintL []) (outs := outs214l2) (conf_all _ rfl) (cs214 F) hn mix (m := fun n => m214l2 F n) (fun _ _ => rfl) (fun n x K => by kernel_rfl) (hok_of (l := []) (by kernel_rfl) obl_nil) n
theorem s214 (F : Nat) : CSound Tryz.prog 214 (con214 F) :=
  fn_sound (fn := Tryz.f214) (code := (bodyOf Tryz.f214)) (cx := cx214 F) (hs := hs214 F) (js := hintL []) Tryz.func214 (by kernel_rfl) (by kernel_rfl) (conf_all _ rfl) (cs214 F) mix (by kernel_rfl) (by kernel_rfl) (fun fr hn => (hok_of (l := [((.loop (sub (bodyOf Tryz.f214) [1, 0, 1, 0, 0])), { sh := sh214l2, model := m214l2 F F })]) (by kernel_rfl) (obl_cons (ok214l2 F fr hn F) obl_nil))) (fun x => by kernel_rfl)
def sg198 : Sig := { modes := [.ro, .ro], sh := [(0, .d (.arr 4 (.int .u64))), (1, .d (.arr 4 (.int .u64)))], keeps := true, fresh := none, rtys := [(.arr 4 (.int .u64)), (.arr 4 (.int .u64))] }
def con198 (F : Nat) : Contract := mkCon sg198 fun x => wide_div F x.1 x.2.1
def cx198 (F : Nat) : Cx := { types := tys, call := callsL [(212, con212 F), (213, con213 F), (202, con202 F), (200, con200 F), (214, con214 F)], own := [], ntmps := (0, 44) }
theorem cs198 (F : Nat) : ∀ f c, (cx198 F).call f = some c → CMet Tryz.prog f c := callsL_sound (calls_cons (s212 F) (calls_cons (s213 F) (calls_cons (s202 F) (calls_cons (s200 F) (calls_cons (s214 F) calls_nil)))))
def sh198l5 : Shape := [(2, .box 2 (.arr 4 (.int .u64))), (4, .box 4 (.arr 4 (.int .u64))), (5, .box 5 (.arr 4 (.int .u64))), (6, .d (.int .i64)), (7, .box 7 (.arr 4 (.int .u64)))]
def sh198l5o0 : Shape := [(2, .box 2 (.arr 4 (.int .u64))), (4, .box 4 (.arr 4 (.int .u64))), (5, .box 5 (.arr 4 (.int .u64)))]
def outs198l5 : Outs := [(2, sh198l5o0)]
def m198l5 (F : Nat) (n : Nat) {R : Type} (x : Shape.den sh198l5) (K : Ex → St → Option R) : Option R := wide_div_l5 F (fun y2 y4 y5 => K (.exit 0) (enc sh198l5o0 (y2, y4, y5, ()))) n x.1 x.2.1 x.2.2.1 x.2.2.2.1 x.2.2.2.2.1
def hs198 (F : Nat) : Nat → Option (Hint (Dens sg198.rtys)) := hintL [(5, { sh := sh198l5, model := m198l5 F F })]
theorem ok198l5 (F : Nat) (fr : Frm) (hn : (cx198 F).ntmps = fr.n) (n : Nat) : MSound (R := (Dens sg198.rtys)) Tryz.prog fr (.loop (sub (bodyOf Tryz.f198) [1, 1, 1, 1, 0, 0, 0])) sh198l5 (m198l5 F n) :=
  loop_sound (cx := cx198 F) (hs := hs198 F) (js := hintL []) (outs := outs198l5) (conf_all _ rfl) (cs198 F) hn mix (m := fun n => m198l5 F n) (fun _ _ => rfl) (fun n x K => by kernel_rfl) (hok_of (l := []) (by kernel_rfl) obl_nil) n
theorem s198 (F : Nat) : CSound Tryz.prog 198 (con198 F) :=
  fn_sound (fn := Tryz.f198) (code := (bodyOf Tryz.f198)) (cx := cx198 F) (hs := hs198 F) (js := hintL []) Tryz.func198 (by kernel_rfl) (by kernel_rfl) (conf_all _ rfl) (cs198 F) mix (by kernel_rfl) (by kernel_rfl) (fun fr hn => (hok_of (l := [((.loop (sub (bodyOf Tryz.f198) [1, 1, 1, 1, 0, 0, 0])), { sh := sh198l5, model := m198l5 F F })]) (by kernel_rfl) (obl_cons (ok198l5 F fr hn F) obl_nil))) (fun x => by kernel_rfl)
def sg199 : Sig := { modes := [.ro, .ro], sh := [(0, .d (.arr 4 (.int .u64))), (1, .d (.arr 4 (.int .u64)))], keeps := true, fresh := none, rtys := [(.arr 4 (.int .u64)), (.int .u64)] }
def con199 (F : Nat) : Contract := mkCon sg199 fun x => wide_add F x.1 x.2.1
def cx199 (F : Nat) : Cx := { types := tys, call := callsL [(183, con183 F)], own := [], ntmps := (0, 26) }
theorem cs199 (F : Nat) : ∀ f c, (cx199 F).call f = some c → CMet Tryz.prog f c := callsL_sound (calls_cons_ext (s183 F) calls_nil)
def sh199l2 : Shape := [(2, .box 2 (.arr 4 (.int .u64))), (3, .box 3 (.arr 4 (.int .u64))), (4, .box 4 (.arr 4 (.int .u64))), (5, .d (.int .u64)), (7, .d (.int .i64))]
def sh199l2o0 : Shape := [(4, .box 4 (.arr 4 (.int .u64))), (5, .d (.int .u64))]
def outs199l2 : Outs := [(2, sh199l2o0)]
def m199l2 (F : Nat) (n : Nat) {R : Type} (x : Shape.den sh199l2) (K : Ex → St → Option R) : Option R := wide_add_l2 F (fun y4 y5 => K (.exit 0) (enc sh199l2o0 (y4, y5, ()))) n x.1 x.2.1 x.2.2.1 x.2.2.2.1 x.2.2.2.2.1
def hs199 (F : Nat) : Nat → Option (Hint (Dens sg199.rtys)) := hintL [(2, { sh := sh199l2, model := m199l2 F F })]
theorem ok199l2 (F : Nat) (fr : Frm) (hn : (cx199 F).ntmps = fr.n) (n : Nat) : MSound (R := (Dens sg199.rtys)) Tryz.prog fr (.loop (sub (bodyOf Tryz.f199) [1, 0, 1, 0, 0])) sh199l2 (m199l2 F n) :=
  loop_sound (cx := cx199 F) (hs := hs199 F) (js := hintL []) (outs := outs199l2) (conf_all _ rfl) (cs199 F) hn mix (m := fun n => m199l2 F n) (fun _ _ => rfl) (fun n x K => by kernel_rfl) (hok_of (l := []) (by kernel_rfl) obl_nil) n
theorem s199 (F : Nat) : CSound Tryz.prog 199 (con199 F) :=
  fn_sound (fn := Tryz.f199) (code := (bodyOf Tryz.f199)) (cx := cx199 F) (hs := hs199 F) (js := hintL []) Tryz.func199 (by kernel_rfl) (by kernel_rfl) (conf_all _ rfl) (cs199 F) mix (by kernel_rfl) (by kernel_rfl) (fun fr hn => (hok_of (l := [((.loop (sub (bodyOf Tryz.f199) [1, 0, 1, 0, 0])), { sh := sh199l2, model := m199l2 F F })]) (by kernel_rfl) (obl_cons (ok199l2 F fr hn F) obl_nil))) (fun x => by kernel_rfl)
def sg201 : Sig := { modes := [.ro, .ro], sh := [(0, .d .bool), (1, .d (.arr 4 (.int .u64)))], keeps := true, fresh := none, rtys := [tyV] }
def con201 (F : Nat) : Contract := mkCon sg201 fun x => wide_signed F x.1 x.2.1
def cx201 (F : Nat) : Cx := { types := tys, call := callsL [(155, con155 F)], own := [], ntmps := (0, 9) }
theorem cs201 (F : Nat) : ∀ f c, (cx201 F).call f = some c → CMet Tryz.prog f c := callsL_sound (calls_cons (s155 F) calls_nil)
theorem s201 (F : Nat) : CSound Tryz.prog 201 (con201 F) :=
  fn_sound (fn := Tryz.f201) (code := (bodyOf Tryz.f201)) (cx := cx201 F) (hs := hintL []) (js := hintL []) Tryz.func201 (by kernel_rfl) (by kernel_rfl) (conf_all _ rfl) (cs201 F) mix (by kernel_rfl) (by kernel_rfl) (fun fr hn => (hok_of (l := []) (by kernel_rfl) obl_nil)) (fun x => by kernel_rfl)
def sg169 : Sig := { modes := [.ro, .ro], sh := [(0, .d tyV), (1, .d tyV)], keeps := true, fresh := none, rtys := [tyV, tyV, .bool] }
def con169 (F : Nat) : Contract := mkCon sg169 fun x => wide_DivMod F x.1 x.2.1
def cx169 (F : Nat) : Cx := { types := tys, call := callsL [(155, con155 F), (112, con112 F), (198, con198 F), (199, con199 F), (200, con200 F), (201, con201 F)], own := [], ntmps := (0, 52) }
theorem cs169 (F : Nat) : ∀ f c, (cx169 F).call f = some c → CMet Tryz.prog f c := callsL_sound (calls_cons (s155 F) (calls_cons (s112 F) (calls_cons (s198 F) (calls_cons (s199 F) (calls_cons (s200 F) (calls_cons (s201 F) calls_nil))))))
def sh169j6 : Shape := [(2, .box 2 tyV), (3, .box 3 tyV), (4, .box 4 tyV), (5, .box 5 tyV), (7, .box 7 (.arr 4 (.int .u64))), (8, .box 8 (.arr 4 (.int .u64))), (32, .d .bool)]
def sh169j6on : Shape := [(2, .box 2 tyV), (3, .box 3 tyV), (4, .box 4 tyV), (5, .box 5 tyV), (7, .box 7 (.arr 4 (.int .u64))), (8, .box 8 (.arr 4 (.int .u64)))]
def outs169j6 : Outs := [(0, sh169j6on)]
def m169j6 (F : Nat) {R : Type} (x : Shape.den sh169j6) (K : Ex → St → Option R) : Option R := wide_DivMod_j6 F (fun y2 y3 y4 y5 y7 y8 => K .normal (enc sh169j6on (y2, y3, y4, y5, y7, y8, ()))) x.1 x.2.1 x.2.2.1 x.2.2.2.1 x.2.2.2.2.1 x.2.2.2.2.2.1 x.2.2.2.2.2.2.1
def sh169j8 : Shape := [(2, .box 2 tyV), (3, .box 3 tyV), (4, .box 4 tyV), (5, .box 5 tyV), (7, .box 7 (.arr 4 (.int .u64))), (8, .box 8 (.arr 4 (.int .u64)))]
def sh169j8oret : Shape := [(4, .box 4 tyV), (5, .box 5 tyV), (6, .d .bool)]
def outs169j8 : Outs := [(1, sh169j8oret)]
def m169j8 (F : Nat) {R : Type} (x : Shape.den sh169j8) (K : Ex → St → Option R) : Option R := wide_DivMod_j8 F (fun y4 y5 y6 => K .ret (enc sh169j8oret (y4, y5, y6, ()))) x.1 x.2.1 x.2.2.1 x.2.2.2.1 x.2.2.2.2.1 x.2.2.2.2.2.1
def js169 (F : Nat) : Nat → Option (Hint (Dens sg169.rtys)) := hintL [(6, { sh := sh169j6, model := m169j6 F }), (8, { sh := sh169j8, model := m169j8 F })]
theorem ok169j6 (F : Nat) (fr : Frm) (hn : (cx169 F).ntmps = fr.n) : MSound (R := (Dens sg169.rtys)) Tryz.prog fr (sub (bodyOf Tryz.f169) [1, 1, 1, 1, 0, 1]) sh169j6 (m169j6 F) :=
  join_sound (cx := cx169 F) (hs := hintL []) (js := js169 F) (outs := outs169j6) (conf_all _ rfl) (cs169 F) hn mix (fun x K => by kernel_rfl) (hok_of (l := []) (by kernel_rfl) obl_nil)
theorem ok169j8 (F : Nat) (fr : Frm) (hn : (cx169 F).ntmps = fr.n) : MSound (R := (Dens sg169.rtys)) Tryz.prog fr (sub (bodyOf Tryz.f169) [1, 1, 1, 1, 1]) sh169j8 (m169j8 F) :=
  join_sound (cx := cx169 F) (hs := hintL []) (js := js169 F) (outs := outs169j8) (conf_all _ rfl) (cs169 F) hn mix (fun x K => by kernel_rfl) (hok_of (l := []) (by kernel_rfl) obl_nil)
theorem s169 (F : Nat) : CSound Tryz.prog 169 (con169 F) :=
  fn_sound (fn := Tryz.f169) (code := (bodyOf Tryz.f169)) (cx := cx169 F) (hs := hintL []) (js := js169 F) Tryz.func169 (by kernel_rfl) (by kernel_rfl) (conf_all _ rfl) (cs169 F) mix (by kernel_rfl) (by kernel_rfl) (fun fr hn => (hok_of (l := [((sub (bodyOf Tryz.f169) [1, 1, 1, 1, 0, 1]), { sh := sh169j6, model := m169j6 F }), ((sub (bodyOf Tryz.f169) [1, 1, 1, 1, 1]), { sh := sh169j8, model := m169j8 F })]) (by kernel_rfl) (obl_cons (ok169j6 F fr hn) (obl_cons (ok169j8 F fr hn) obl_nil)))) (fun x => by kernel_rfl)
def sg128 : Sig := { modes := [.ro, .ro], sh := [(0, .d tyV), (1, .d tyV)], keeps := true, fresh := none, rtys := [tyV] }
def con128 (F : Nat) : Contract := mkCon sg128 fun x => ratio_divisor F x.1 x.2.1
def cx128 (F : Nat) : Cx := { types := tys, call := callsL [(112, con112 F), (169, con169 F)], own := [], ntmps := (0, 23) }
theorem cs128 (F : Nat) : ∀ f c, (cx128 F).call f = some c → CMet Tryz.prog f c := callsL_sound (calls_cons (s112 F) (calls_cons (s169 F) calls_nil))
def sh128l2 : Shape := [(2, .box 2 tyV), (3, .box 3 tyV), (4, .box 4 tyV)]
def sh128l2o0 : Shape := [(2, .box 2 tyV), (4, .box 4 tyV)]
def outs128l2 : Outs := [(2, sh128l2o0)]
def m128l2 (F : Nat) (n : Nat) {R : Type} (x : Shape.den sh128l2) (K : Ex → St → Option R) : Option R := ratio_divisor_l2 F (fun y2 y4 => K (.exit 0) (enc sh128l2o0 (y2, y4, ()))) n x.1 x.2.1 x.2.2.1
def hs128 (F : Nat) : Nat → Option (Hint (Dens sg128.rtys)) := hintL [(2, { sh := sh128l2, model := m128l2 F F })]
theorem ok128l2 (F : Nat) (fr : Frm) (hn : (cx128 F).ntmps = fr.n) (n : Nat) : MSound (R := (Dens sg128.rtys)) Tryz.prog fr (.loop (sub (bodyOf Tryz.f128) [1, 1, 0, 0, 0])) sh128l2 (m128l2 F n) :=
  loop_sound (cx := cx128 F) (hs := hs128 F) (js := hintL []) (outs := outs128l2) (conf_all _ rfl) (cs128 F) hn mix (m := fun n => m128l2 F n) (fun _ _ => rfl) (fun n x K => by kernel_rfl) (hok_of (l := []) (by kernel_rfl) obl_nil) n
theorem s128 (F : Nat) : CSound Tryz.prog 128 (con128 F) :=
  fn_sound (fn := Tryz.f128) (code := (bodyOf Tryz.f128)) (cx := cx128 F) (hs := hs128 F) (js := hintL []) Tryz.func128 (by kernel_rfl) (by kernel_rfl) (conf_all _ rfl) (cs128 F) mix (by kernel_rfl) (by kernel_rfl) (fun fr hn => (hok_of (l := [((.loop (sub (bodyOf Tryz.f128) [1, 1, 0, 0, 0])), { sh := sh128l2, model := m128l2 F F })]) (by kernel_rfl) (obl_cons (ok128l2 F fr hn F) obl_nil))) (fun x => by kernel_rfl)
def sg110 : Sig := { modes := [.ro], sh := [(0, .d (.int .i64))], keeps := true, fresh := none, rtys := [tyV] }
def con110 (F : Nat) : Contract := mkCon sg110 fun x => wide_Of F x.1
def cx110 (F : Nat) : Cx := { types := tys, call := callsL [], own := [], ntmps := (0, 14) }
theorem cs110 (F : Nat) : ∀ f c, (cx110 F).call f = some c → CMet Tryz.prog f c := callsL_sound calls_nil
theorem s110 (F : Nat) : CSound Tryz.prog 110 (con110 F) :=
  fn_sound (fn := Tryz.f110) (code := (bodyOf Tryz.f110)) (cx := cx110 F) (hs := hintL []) (js := hintL []) Tryz.func110 (by kernel_rfl) (by kernel_rfl) (conf_all _ rfl) (cs110 F) mix (by kernel_rfl) (by kernel_rfl) (fun fr hn => (hok_of (l := []) (by kernel_rfl) obl_nil)) (fun x => by kernel_rfl)
def sg76 : Sig := { modes := [.ro], sh := [(0, .d (.pair tyV (.pair tyV .unit)))], keeps := true, fresh := none, rtys := [.bool] }
def con76 (F : Nat) : Contract := mkCon sg76 fun x => ratio_Valid F x.1
def cx76 (F : Nat) : Cx := { types := tys, call := callsL [(126, con126 F), (112, con112 F), (127, con127 F), (128, con128 F), (110, con110 F)], own := [], ntmps := (0, 36) }
theorem cs76 (F : Nat) : ∀ f c, (cx76 F).call f = some c → CMet Tryz.prog f c := callsL_sound (calls_cons (s126 F) (calls_cons (s112 F) (calls_cons (s127 F) (calls_cons (s128 F) (calls_cons (s110 F) calls_nil)))))
theorem s76 (F : Nat) : CSound Tryz.prog 76 (con76 F) :=
  fn_sound (fn := Tryz.f76) (code := (bodyOf Tryz.f76)) (cx := cx76 F) (hs := hintL []) (js := hintL []) Tryz.func76 (by kernel_rfl) (by kernel_rfl) (conf_all _ rfl) (cs76 F) mix (by kernel_rfl) (by kernel_rfl) (fun fr hn => (hok_of (l := []) (by kernel_rfl) obl_nil)) (fun x => by kernel_rfl)
def sg64 : Sig := { modes := [.ro], sh := [(0, .d (.int .i64))], keeps := true, fresh := none, rtys := [(.pair tyV (.pair tyV .unit))] }
def con64 (F : Nat) : Contract := mkCon sg64 fun x => ratio_Of F x.1
def cx64 (F : Nat) : Cx := { types := tys, call := callsL [(110, con110 F)], own := [], ntmps := (0, 7) }
theorem cs64 (F : Nat) : ∀ f c, (cx64 F).call f = some c → CMet Tryz.prog f c := callsL_sound (calls_cons (s110 F) calls_nil)
theorem s64 (F : Nat) : CSound Tryz.prog 64 (con64 F) :=
  fn_sound (fn := Tryz.f64) (code := (bodyOf Tryz.f64)) (cx := cx64 F) (hs := hintL []) (js := hintL []) Tryz.func64 (by kernel_rfl) (by kernel_rfl) (conf_all _ rfl) (cs64 F) mix (by kernel_rfl) (by kernel_rfl) (fun fr hn => (hok_of (l := []) (by kernel_rfl) obl_nil)) (fun x => by kernel_rfl)
def sg55 : Sig := { modes := [.ro], sh := [(0, .d (.pair (.int .i64) (.pair (.int .i64) (.pair (.pair tyV (.pair tyV .unit)) .unit))))], keeps := true, fresh := none, rtys := [.bool] }
def con55 (F : Nat) : Contract := mkCon sg55 fun x => lines_bent F x.1
def cx55 (F : Nat) : Cx := { types := tys, call := callsL [(76, con76 F), (64, con64 F)], own := [], ntmps := (0, 18) }
theorem cs55 (F : Nat) : ∀ f c, (cx55 F).call f = some c → CMet Tryz.prog f c := callsL_sound (calls_cons (s76 F) (calls_cons (s64 F) calls_nil))
theorem s55 (F : Nat) : CSound Tryz.prog 55 (con55 F) :=
  fn_sound (fn := Tryz.f55) (code := (bodyOf Tryz.f55)) (cx := cx55 F) (hs := hintL []) (js := hintL []) Tryz.func55 (by kernel_rfl) (by kernel_rfl) (conf_all _ rfl) (cs55 F) mix (by kernel_rfl) (by kernel_rfl) (fun fr hn => (hok_of (l := []) (by kernel_rfl) obl_nil)) (fun x => by kernel_rfl)
def sg98 : Sig := { modes := [.ro, .ro], sh := [(0, .d (.slice (.pair (.int .i64) (.pair (.int .i64) (.pair (.pair tyV (.pair tyV .unit)) .unit))))), (1, .fn 55)], keeps := true, fresh := none, rtys := [(.int .i64)] }
def con98 (F : Nat) : Contract := mkCon sg98 fun x => slices_IndexFunc_apiLine F x.1
def cx98 (F : Nat) : Cx := { types := tys, call := callsL [(55, con55 F)], own := [], ntmps := (0, 19) }
theorem cs98 (F : Nat) : ∀ f c, (cx98 F).call f = some c → CMet Tryz.prog f c := callsL_sound (calls_cons (s55 F) calls_nil)
def sh98l2 : Shape := [(0, .d (.slice (.pair (.int .i64) (.pair (.int .i64) (.pair (.pair tyV (.pair tyV .unit)) .unit))))), (1, .fn 55), (7, .d (.int .i64)), (8, .d (.int .i64))]
def sh98l2o0 : Shape := []
def sh98l2oret : Shape := [(4, .d (.int .i64))]
def outs98l2 : Outs := [(2, sh98l2o0), (1, sh98l2oret)]
def m98l2 (F : Nat) (n : Nat) {R : Type} (x : Shape.den sh98l2) (K : Ex → St → Option R) : Option R := slices_IndexFunc_apiLine_l2 F (K (.exit 0) (enc sh98l2o0 (()))) (fun y4 => K .ret (enc sh98l2oret (y4, ()))) n x.1 x.2.2.1 x.2.2.2.1
def hs98 (F : Nat) : Nat → Option (Hint (Dens sg98.rtys)) := hintL [(2, { sh := sh98l2, model := m98l2 F F })]
theorem ok98l2 (F : Nat) (fr : Frm) (hn : (cx98 F).ntmps = fr.n) (n : Nat) : MSound (R := (Dens sg98.rtys)) Tryz.prog fr (.loop (sub (bodyOf Tryz.f98) [1, 0, 1, 0, 0])) sh98l2 (m98l2 F n) :=
  loop_sound (cx := cx98 F) (hs := hs98 F) (js := hintL []) (outs := outs98l2) (conf_all _ rfl) (cs98 F) hn mix (m := fun n => m98l2 F n) (fun _ _ => rfl) (fun n x K => by kernel_rfl) (hok_of (l := []) (by kernel_rfl) obl_nil) n
theorem s98 (F : Nat) : CSound Tryz.prog 98 (con98 F) :=
  fn_sound (fn := Tryz.f98) (code := (bodyOf Tryz.f98)) (cx := cx98 F) (hs := hs98 F) (js := hintL []) Tryz.func98 (by kernel_rfl) (by kernel_rfl) (conf_all _ rfl) (cs98 F) mix (by kernel_rfl) (by kernel_rfl) (fun fr hn => (hok_of (l := [((.loop (sub (bodyOf Tryz.f98) [1, 0, 1, 0, 0])), { sh := sh98l2, model := m98l2 F F })]) (by kernel_rfl) (obl_cons (ok98l2 F fr hn F) obl_nil))) (fun x => by kernel_rfl)
def sg54 : Sig := { modes := [.ro, .ro], sh := [(0, .d (.slice (.pair (.int .i64) (.pair (.int .i64) (.pair (.pair tyV (.pair tyV .unit)) .unit))))), (1, .fn 55)], keeps := true, fresh := none, rtys := [.bool] }
def con54 (F : Nat) : Contract := mkCon sg54 fun x => slices_ContainsFunc_apiLine F x.1
def cx54 (F : Nat) : Cx := { types := tys, call := callsL [(98, con98 F)], own := [], ntmps := (0, 9) }
theorem cs54 (F : Nat) : ∀ f c, (cx54 F).call f = some c → CMet Tryz.prog f c := callsL_sound (calls_cons (s98 F) calls_nil)
theorem s54 (F : Nat) : CSound Tryz.prog 54 (con54 F) :=
  fn_sound (fn := Tryz.f54) (code := (bodyOf Tryz.f54)) (cx := cx54 F) (hs := hintL []) (js := hintL []) Tryz.func54 (by kernel_rfl) (by kernel_rfl) (conf_all _ rfl) (cs54 F) mix (by kernel_rfl) (by kernel_rfl) (fun fr hn => (hok_of (l := []) (by kernel_rfl) obl_nil)) (fun x => by kernel_rfl)
def sg18 : Sig := { modes := [.ro], sh := [(0, .d (.slice (.pair (.int .i64) (.pair (.int .i64) (.pair (.pair tyV (.pair tyV .unit)) .unit)))))], keeps := true, fresh := none, rtys := [(.int .i64)] }
def con18 (F : Nat) : Contract := mkCon sg18 fun x => lines_Valid F x.1
def cx18 (F : Nat) : Cx := { types := tys, call := callsL [(47, con47 F), (53, con53 F), (54, con54 F)], own := [], ntmps := (0, 15) }
theorem cs18 (F : Nat) : ∀ f c, (cx18 F).call f = some c → CMet Tryz.prog f c := callsL_sound (calls_cons (s47 F) (calls_cons (s53 F) (calls_cons (s54 F) calls_nil)))
theorem s18 (F : Nat) : CSound Tryz.prog 18 (con18 F) :=
  fn_sound (fn := Tryz.f18) (code := (bodyOf Tryz.f18)) (cx := cx18 F) (hs := hintL []) (js := hintL []) Tryz.func18 (by kernel_rfl) (by kernel_rfl) (conf_all _ rfl) (cs18 F) mix (by kernel_rfl) (by kernel_rfl) (fun fr hn => (hok_of (l := []) (by kernel_rfl) obl_nil)) (fun x => by kernel_rfl)
def sg94 : Sig := nilSig (.int .u8) false (some (0, 5)) [(.slice (.int .u8))]
def con94 (F : Nat) : Contract := mkCon sg94 fun x => slices_Clone_byte F x.1
def cx94 (F : Nat) : Cx := { types := tys, call := callsL [], own := [2, 5], ntmps := (0, 8), nils := [3] }
theorem cs94 (F : Nat) : ∀ f c, (cx94 F).call f = some c → CMet Tryz.prog f c := callsL_sound calls_nil
theorem s94 (F : Nat) : CSound Tryz.prog 94 (con94 F) :=
  fn_sound_nil (fn := Tryz.f94) (code := (bodyOf Tryz.f94)) (cx := cx94 F) (hs := hintL []) (js := hintL []) Tryz.func94 (by kernel_rfl) (by kernel_rfl) (conf_all _ rfl) (cs94 F) mix (by kernel_rfl) (by kernel_rfl) (fun fr hn => (hok_of (l := []) (by kernel_rfl) obl_nil)) (fun a l => by kernel_rfl) (by kernel_rfl) (by kernel_rfl)
def sg46 : Sig := { modes := [.ro, .ro], sh := [(0, .d (.slice (.int .u8))), (1, .d (.int .u64))], keeps := false, fresh := some (0, 5), rtys := [(.slice (.int .u8))] }
def con46 (F : Nat) : Contract := mkCon sg46 fun x => varint_Append F x.1 x.2.1
def cx46 (F : Nat) : Cx := { types := tys, call := callsL [(94, con94 F), (93, con93 F)], own := [4, 7, 8], ntmps := (0, 24) }
theorem cs46 (F : Nat) : ∀ f c, (cx46 F).call f = some c → CMet Tryz.prog f c := callsL_sound (calls_cons (s94 F) (calls_cons (s93 F) calls_nil))
def sh46l2 : Shape := [(1, .d (.int .u64)), (5, .own 5 (.int .u8) 5)]
def sh46l2o0 : Shape := [(1, .d (.int .u64)), (5, .own 5 (.int .u8) 5)]
def outs46l2 : Outs := [(2, sh46l2o0)]
def m46l2 (F : Nat) (n : Nat) {R : Type} (x : Shape.den sh46l2) (K : Ex → St → Option R) : Option R := varint_Append_l2 F (fun y1 y5 => K (.exit 0) (enc sh46l2o0 (y1, y5, ()))) n x.1 x.2.1
def hs46 (F : Nat) : Nat → Option (Hint (Dens sg46.rtys)) := hintL [(2, { sh := sh46l2, model := m46l2 F F })]
theorem ok46l2 (F : Nat) (fr : Frm) (hn : (cx46 F).ntmps = fr.n) (n : Nat) : MSound (R := (Dens sg46.rtys)) Tryz.prog fr (.loop (sub (bodyOf Tryz.f46) [1, 1, 0, 0, 0])) sh46l2 (m46l2 F n) :=
  loop_sound (cx := cx46 F) (hs := hs46 F) (js := hintL []) (outs := outs46l2) (conf_all _ rfl) (cs46 F) hn mix (m := fun n => m46l2 F n) (fun _ _ => rfl) (fun n x K => by kernel_rfl) (hok_of (l := []) (by kernel_rfl) obl_nil) n
theorem s46 (F : Nat) : CSound Tryz.prog 46 (con46 F) :=
  fn_sound (fn := Tryz.f46) (code := (bodyOf Tryz.f46)) (cx := cx46 F) (hs := hs46 F) (js := hintL []) Tryz.func46 (by kernel_rfl) (by kernel_rfl) (conf_all _ rfl) (cs46 F) mix (by kernel_rfl) (by kernel_rfl) (fun fr hn => (hok_of (l := [((.loop (sub (bodyOf Tryz.f46) [1, 1, 0, 0, 0])), { sh := sh46l2, model := m46l2 F F })]) (by kernel_rfl) (obl_cons (ok46l2 F fr hn F) obl_nil))) (fun x => by kernel_rfl)
def sg145 : Sig := { modes := [.ro], sh := [(0, .d (.int .u64))], keeps := true, fresh := none, rtys := [(.int .i64)] }
def con145 (F : Nat) : Contract := mkCon sg145 fun x => varint_Size F x.1
def cx145 (F : Nat) : Cx := { types := tys, call := callsL [(187, con187 F)], own := [], ntmps := (0, 8) }
theorem cs145 (F : Nat) : ∀ f c, (cx145 F).call f = some c → CMet Tryz.prog f c := callsL_sound (calls_cons (s187 F) calls_nil)
theorem s145 (F : Nat) : CSound Tryz.prog 145 (con145 F) :=
  fn_sound (fn := Tryz.f145) (code := (bodyOf Tryz.f145)) (cx := cx145 F) (hs := hintL []) (js := hintL []) Tryz.func145 (by kernel_rfl) (by kernel_rfl) (conf_all _ rfl) (cs145 F) mix (by kernel_rfl) (by kernel_rfl) (fun fr hn => (hok_of (l := []) (by kernel_rfl) obl_nil)) (fun x => by kernel_rfl)
def sg146 : Sig := { modes := [.ro], sh := [(0, .d (.slice (.int .u64)))], keeps := true, fresh := none, rtys := [(.int .i64)] }
def con146 (F : Nat) : Contract := mkCon sg146 fun x => bitpack_Width F x.1
def cx146 (F : Nat) : Cx := { types := tys, call := callsL [(187, con187 F)], own := [], ntmps := (0, 18) }
theorem cs146 (F : Nat) : ∀ f c, (cx146 F).call f = some c → CMet Tryz.prog f c := callsL_sound (calls_cons (s187 F) calls_nil)
def sh146l3 : Shape := [(3, .d (.int .u64)), (6, .d (.slice (.int .u64))), (7, .d (.int .i64)), (8, .d (.int .i64))]
def sh146l3o0 : Shape := [(3, .d (.int .u64))]
def outs146l3 : Outs := [(2, sh146l3o0)]
def m146l3 (F : Nat) (n : Nat) {R : Type} (x : Shape.den sh146l3) (K : Ex → St → Option R) : Option R := bitpack_Width_l3 F (fun y3 => K (.exit 0) (enc sh146l3o0 (y3, ()))) n x.1 x.2.1 x.2.2.1 x.2.2.2.1
def hs146 (F : Nat) : Nat → Option (Hint (Dens sg146.rtys)) := hintL [(3, { sh := sh146l3, model := m146l3 F F })]
theorem ok146l3 (F : Nat) (fr : Frm) (hn : (cx146 F).ntmps = fr.n) (n : Nat) : MSound (R := (Dens sg146.rtys)) Tryz.prog fr (.loop (sub (bodyOf Tryz.f146) [1, 1, 0, 1, 0, 0])) sh146l3 (m146l3 F n) :=
  loop_sound (cx := cx146 F) (hs := hs146 F) (js := hintL []) (outs := outs146l3) (conf_all _ rfl) (cs146 F) hn mix (m := fun n => m146l3 F n) (fun _ _ => rfl) (fun n x K => by kernel_rfl) (hok_of (l := []) (by kernel_rfl) obl_nil) n
theorem s146 (F : Nat) : CSound Tryz.prog 146 (con146 F) :=
  fn_sound (fn := Tryz.f146) (code := (bodyOf Tryz.f146)) (cx := cx146 F) (hs := hs146 F) (js := hintL []) Tryz.func146 (by kernel_rfl) (by kernel_rfl) (conf_all _ rfl) (cs146 F) mix (by kernel_rfl) (by kernel_rfl) (fun fr hn => (hok_of (l := [((.loop (sub (bodyOf Tryz.f146) [1, 1, 0, 1, 0, 0])), { sh := sh146l3, model := m146l3 F F })]) (by kernel_rfl) (obl_cons (ok146l3 F fr hn F) obl_nil))) (fun x => by kernel_rfl)
def sg180 : Sig := { modes := [.ro, .ro], sh := [(0, .d (.int .i64)), (1, .d (.int .i64))], keeps := true, fresh := none, rtys := [(.int .i64)] }
def con180 (F : Nat) : Contract := mkCon sg180 fun x => bitpack_Bytes F x.1 x.2.1
def cx180 (F : Nat) : Cx := { types := tys, call := callsL [], own := [], ntmps := (0, 24) }
theorem cs180 (F : Nat) : ∀ f c, (cx180 F).call f = some c → CMet Tryz.prog f c := callsL_sound calls_nil
theorem s180 (F : Nat) : CSound Tryz.prog 180 (con180 F) :=
  fn_sound (fn := Tryz.f180) (code := (bodyOf Tryz.f180)) (cx := cx180 F) (hs := hintL []) (js := hintL []) Tryz.func180 (by kernel_rfl) (by kernel_rfl) (conf_all _ rfl) (cs180 F) mix (by kernel_rfl) (by kernel_rfl) (fun fr hn => (hok_of (l := []) (by kernel_rfl) obl_nil)) (fun x => by kernel_rfl)
def sg147 : Sig := { modes := [.ro, .ro], sh := [(0, .d (.slice (.int .u64))), (1, .d (.int .i64))], keeps := false, fresh := some (0, 5), rtys := [(.slice (.int .u8)), .bool] }
def con147 (F : Nat) : Contract := mkCon sg147 fun x => bitpack_Pack F x.1 x.2.1
def cx147 (F : Nat) : Cx := { types := tys, call := callsL [(180, con180 F), (146, con146 F)], own := [4, 26], ntmps := (0, 64) }
theorem cs147 (F : Nat) : ∀ f c, (cx147 F).call f = some c → CMet Tryz.prog f c := callsL_sound (calls_cons (s180 F) (calls_cons (s146 F) calls_nil))
def sh147l10 : Shape := [(1, .d (.int .i64)), (7, .own 7 (.int .u8) 5), (8, .d (.int .i64)), (10, .d (.int .u64)), (11, .d (.int .i64)), (27, .d (.slice (.int .u64))), (28, .d (.int .i64)), (29, .d (.int .i64))]
def sh147l10o2 : Shape := [(1, .d (.int .i64)), (7, .own 7 (.int .u8) 5), (8, .d (.int .i64)), (27, .d (.slice (.int .u64))), (28, .d (.int .i64)), (29, .d (.int .i64))]
def outs147l10 : Outs := [(4, sh147l10o2)]
def m147l10 (F : Nat) (n : Nat) {R : Type} (x : Shape.den sh147l10) (K : Ex → St → Option R) : Option R := bitpack_Pack_l10 F (fun y1 y7 y8 y27 y28 y29 => K (.exit 2) (enc sh147l10o2 (y1, y7, y8, y27, y28, y29, ()))) n x.1 x.2.1 x.2.2.1 x.2.2.2.1 x.2.2.2.2.1 x.2.2.2.2.2.1 x.2.2.2.2.2.2.1 x.2.2.2.2.2.2.2.1
def sh147l7 : Shape := [(1, .d (.int .i64)), (7, .own 7 (.int .u8) 5), (8, .d (.int .i64)), (27, .d (.slice (.int .u64))), (28, .d (.int .i64)), (29, .d (.int .i64))]
def sh147l7o0 : Shape := [(7, .own 7 (.int .u8) 5)]
def outs147l7 : Outs := [(2, sh147l7o0)]
def m147l7 (F : Nat) (n : Nat) {R : Type} (x : Shape.den sh147l7) (K : Ex → St → Option R) : Option R := bitpack_Pack_l7 F (fun y7 => K (.exit 0) (enc sh147l7o0 (y7, ()))) n x.1 x.2.1 x.2.2.1 x.2.2.2.1 x.2.2.2.2.1 x.2.2.2.2.2.1
def hs147 (F : Nat) : Nat → Option (Hint (Dens sg147.rtys)) := hintL [(10, { sh := sh147l10, model := m147l10 F F }), (7, { sh := sh147l7, model := m147l7 F F })]
theorem ok147l10 (F : Nat) (fr : Frm) (hn : (cx147 F).ntmps = fr.n) (n : Nat) : MSound (R := (Dens sg147.rtys)) Tryz.prog fr (.loop (sub (bodyOf Tryz.f147) [1, 1, 1, 1, 1, 0, 1, 0, 0, 1, 1, 0, 0, 1, 1, 0, 0])) sh147l10 (m147l10 F n) :=
  loop_sound (cx := cx147 F) (hs := hs147 F) (js := hintL []) (outs := outs147l10) (conf_all _ rfl) (cs147 F) hn mix (m := fun n => m147l10 F n) (fun _ _ => rfl) (fun n x K => by kernel_rfl) (hok_of (l := []) (by kernel_rfl) obl_nil) n
theorem ok147l7 (F : Nat) (fr : Frm) (hn : (cx147 F).ntmps = fr.n) (n : Nat) : MSound (R := (Dens sg147.rtys)) Tryz.prog fr (.loop (sub (bodyOf Tryz.f147) [1, 1, 1, 1, 1, 0, 1, 0, 0])) sh147l7 (m147l7 F n) :=
  loop_sound (cx := cx147 F) (hs := hs147 F) (js := hintL []) (outs := outs147l7) (conf_all _ rfl) (cs147 F) hn mix (m := fun n => m147l7 F n) (fun _ _ => rfl) (fun n x K => by kernel_rfl) (hok_of (l := [((.loop (sub (bodyOf Tryz.f147) [1, 1, 1, 1, 1, 0, 1, 0, 0, 1, 1, 0, 0, 1, 1, 0, 0])), { sh := sh147l10, model := m147l10 F F })]) (by kernel_rfl) (obl_cons (ok147l10 F fr hn F) obl_nil)) n
theorem s147 (F : Nat) : CSound Tryz.prog 147 (con147 F) :=
  fn_sound (fn := Tryz.f147) (code := (bodyOf Tryz.f147)) (cx := cx147 F) (hs := hs147 F) (js := hintL []) Tryz.func147 (by kernel_rfl) (by kernel_rfl) (conf_all _ rfl) (cs147 F) mix (by kernel_rfl) (by kernel_rfl) (fun fr hn => (hok_of (l := [((.loop (sub (bodyOf Tryz.f147) [1, 1, 1, 1, 1, 0, 1, 0, 0])), { sh := sh147l7, model := m147l7 F F })]) (by kernel_rfl) (obl_cons (ok147l7 F fr hn F) obl_nil))) (fun x => by kernel_rfl)
def sg92 : Sig := { modes := [.ro], sh := [(0, .d (.slice (.int .u64)))], keeps := false, fresh := some (0, 5), rtys := [(.slice (.int .u8)), (.int .i64)] }
def con92 (F : Nat) : Contract := mkCon sg92 fun x => numbers_Encode F x.1
def cx92 (F : Nat) : Cx := { types := tys, call := callsL [(145, con145 F), (146, con146 F), (147, con147 F), (46, con46 F)], own := [2, 42, 46], ntmps := (0, 59) }
theorem cs92 (F : Nat) : ∀ f c, (cx92 F).call f = some c → CMet Tryz.prog f c := callsL_sound (calls_cons (s145 F) (calls_cons (s146 F) (calls_cons (s147 F) (calls_cons (s46 F) calls_nil))))
def sh92l5 : Shape := [(0, .d (.slice (.int .u64))), (4, .d (.int .i64)), (16, .d (.slice (.int .u64))), (17, .d (.int .i64)), (18, .d (.int .i64))]
def sh92l5o0 : Shape := [(0, .d (.slice (.int .u64))), (4, .d (.int .i64))]
def outs92l5 : Outs := [(2, sh92l5o0)]
def m92l5 (F : Nat) (n : Nat) {R : Type} (x : Shape.den sh92l5) (K : Ex → St → Option R) : Option R := numbers_Encode_l5 F (fun y0 y4 => K (.exit 0) (enc sh92l5o0 (y0, y4, ()))) n x.1 x.2.1 x.2.2.1 x.2.2.2.1 x.2.2.2.2.1
def sh92l15 : Shape := [(10, .own 10 (.int .u8) 5), (47, .d (.slice (.int .u64))), (48, .d (.int .i64)), (49, .d (.int .i64))]
def sh92l15o2 : Shape := [(10, .own 10 (.int .u8) 5)]
def outs92l15 : Outs := [(4, sh92l15o2)]
def m92l15 (F : Nat) (n : Nat) {R : Type} (x : Shape.den sh92l15) (K : Ex → St → Option R) : Option R := numbers_Encode_l15 F (fun y10 => K (.exit 2) (enc sh92l15o2 (y10, ()))) n x.1 x.2.1 x.2.2.1 x.2.2.2.1
def hs92 (F : Nat) : Nat → Option (Hint (Dens sg92.rtys)) := hintL [(5, { sh := sh92l5, model := m92l5 F F }), (15, { sh := sh92l15, model := m92l15 F F })]
theorem ok92l5 (F : Nat) (fr : Frm) (hn : (cx92 F).ntmps = fr.n) (n : Nat) : MSound (R := (Dens sg92.rtys)) Tryz.prog fr (.loop (sub (bodyOf Tryz.f92) [1, 1, 1, 0, 1, 0, 0])) sh92l5 (m92l5 F n) :=
  loop_sound (cx := cx92 F) (hs := hs92 F) (js := hintL []) (outs := outs92l5) (conf_all _ rfl) (cs92 F) hn mix (m := fun n => m92l5 F n) (fun _ _ => rfl) (fun n x K => by kernel_rfl) (hok_of (l := []) (by kernel_rfl) obl_nil) n
theorem ok92l15 (F : Nat) (fr : Frm) (hn : (cx92 F).ntmps = fr.n) (n : Nat) : MSound (R := (Dens sg92.rtys)) Tryz.prog fr (.loop (sub (bodyOf Tryz.f92) [1, 1, 1, 1, 1, 1, 1, 1, 0, 1, 0, 0])) sh92l15 (m92l15 F n) :=
  loop_sound (cx := cx92 F) (hs := hs92 F) (js := hintL []) (outs := outs92l15) (conf_all _ rfl) (cs92 F) hn mix (m := fun n => m92l15 F n) (fun _ _ => rfl) (fun n x K => by kernel_rfl) (hok_of (l := []) (by kernel_rfl) obl_nil) n
theorem s92 (F : Nat) : CSound Tryz.prog 92 (con92 F) :=
  fn_sound (fn := Tryz.f92) (code := (bodyOf Tryz.f92)) (cx := cx92 F) (hs := hs92 F) (js := hintL []) Tryz.func92 (by kernel_rfl) (by kernel_rfl) (conf_all _ rfl) (cs92 F) mix (by kernel_rfl) (by kernel_rfl) (fun fr hn => (hok_of (l := [((.loop (sub (bodyOf Tryz.f92) [1, 1, 1, 0, 1, 0, 0])), { sh := sh92l5, model := m92l5 F F }), ((.loop (sub (bodyOf Tryz.f92) [1, 1, 1, 1, 1, 1, 1, 1, 0, 1, 0, 0])), { sh := sh92l15, model := m92l15 F F })]) (by kernel_rfl) (obl_cons (ok92l5 F fr hn F) (obl_cons (ok92l15 F fr hn F) obl_nil)))) (fun x => by kernel_rfl)
def sg45 : Sig := { modes := [.con 5, .ro], sh := [(0, .own 0 (.int .u8) 5), (1, .d (.slice (.int .i64)))], keeps := false, fresh := some (0, 5), rtys := [(.slice (.int .u8)), (.int .i64)] }
def con45 (F : Nat) : Contract := mkCon sg45 fun x => records_AppendCounts F x.1 x.2.1
def cx45 (F : Nat) : Cx := { types := tys, call := callsL [(92, con92 F)], own := [4, 13], ntmps := (0, 39) }
theorem cs45 (F : Nat) : ∀ f c, (cx45 F).call f = some c → CMet Tryz.prog f c := callsL_sound (calls_cons (s92 F) calls_nil)
def sh45l3 : Shape := [(0, .own 0 (.int .u8) 5), (6, .own 6 (.int .u64) 28), (14, .d (.slice (.int .i64))), (15, .d (.int .i64)), (16, .d (.int .i64))]
def sh45l3o0 : Shape := [(0, .own 0 (.int .u8) 5), (6, .own 6 (.int .u64) 28)]
def outs45l3 : Outs := [(2, sh45l3o0)]
def m45l3 (F : Nat) (n : Nat) {R : Type} (x : Shape.den sh45l3) (K : Ex → St → Option R) : Option R := records_AppendCounts_l3 F (fun y0 y6 => K (.exit 0) (enc sh45l3o0 (y0, y6, ()))) n x.1 x.2.1 x.2.2.1 x.2.2.2.1 x.2.2.2.2.1
def hs45 (F : Nat) : Nat → Option (Hint (Dens sg45.rtys)) := hintL [(3, { sh := sh45l3, model := m45l3 F F })]
theorem ok45l3 (F : Nat) (fr : Frm) (hn : (cx45 F).ntmps = fr.n) (n : Nat) : MSound (R := (Dens sg45.rtys)) Tryz.prog fr (.loop (sub (bodyOf Tryz.f45) [1, 1, 0, 1, 0, 0])) sh45l3 (m45l3 F n) :=
  loop_sound (cx := cx45 F) (hs := hs45 F) (js := hintL []) (outs := outs45l3) (conf_all _ rfl) (cs45 F) hn mix (m := fun n => m45l3 F n) (fun _ _ => rfl) (fun n x K => by kernel_rfl) (hok_of (l := []) (by kernel_rfl) obl_nil) n
theorem s45 (F : Nat) : CSound Tryz.prog 45 (con45 F) :=
  fn_sound (fn := Tryz.f45) (code := (bodyOf Tryz.f45)) (cx := cx45 F) (hs := hs45 F) (js := hintL []) Tryz.func45 (by kernel_rfl) (by kernel_rfl) (conf_all _ rfl) (cs45 F) mix (by kernel_rfl) (by kernel_rfl) (fun fr hn => (hok_of (l := [((.loop (sub (bodyOf Tryz.f45) [1, 1, 0, 1, 0, 0])), { sh := sh45l3, model := m45l3 F F })]) (by kernel_rfl) (obl_cons (ok45l3 F fr hn F) obl_nil))) (fun x => by kernel_rfl)
def sg148 : Sig := nilSig (.int .i64) false (some (0, 2)) [(.slice (.int .i64))]
def con148 (F : Nat) : Contract := mkCon sg148 fun x => slices_Clone_int64 F x.1
def cx148 (F : Nat) : Cx := { types := tys, call := callsL [], own := [2, 5], ntmps := (0, 8), nils := [3] }
theorem cs148 (F : Nat) : ∀ f c, (cx148 F).call f = some c → CMet Tryz.prog f c := callsL_sound calls_nil
theorem s148 (F : Nat) : CSound Tryz.prog 148 (con148 F) :=
  fn_sound_nil (fn := Tryz.f148) (code := (bodyOf Tryz.f148)) (cx := cx148 F) (hs := hintL []) (js := hintL []) Tryz.func148 (by kernel_rfl) (by kernel_rfl) (conf_all _ rfl) (cs148 F) mix (by kernel_rfl) (by kernel_rfl) (fun fr hn => (hok_of (l := []) (by kernel_rfl) obl_nil)) (fun a l => by kernel_rfl) (by kernel_rfl) (by kernel_rfl)
def sg188 : Sig := { modes := [.ro, .ro], sh := [(0, .d (.int .i64)), (1, .d (.int .i64))], keeps := true, fresh := none, rtys := [(.int .u64)] }
def con188 (F : Nat) : Contract := mkCon sg188 fun x => checked_Diff F x.1 x.2.1
def cx188 (F : Nat) : Cx := { types := tys, call := callsL [], own := [], ntmps := (0, 10) }
theorem cs188 (F : Nat) : ∀ f c, (cx188 F).call f = some c → CMet Tryz.prog f c := callsL_sound calls_nil
theorem s188 (F : Nat) : CSound Tryz.prog 188 (con188 F) :=
  fn_sound (fn := Tryz.f188) (code := (bodyOf Tryz.f188)) (cx := cx188 F) (hs := hintL []) (js := hintL []) Tryz.func188 (by kernel_rfl) (by kernel_rfl) (conf_all _ rfl) (cs188 F) mix (by kernel_rfl) (by kernel_rfl) (fun fr hn => (hok_of (l := []) (by kernel_rfl) obl_nil)) (fun x => by kernel_rfl)
def sg149 : Sig := { modes := [.wr 2], sh := [(0, .own 0 (.int .i64) 2)], keeps := false, fresh := none, rtys := [(.slice (.int .i64))] }
def con149 (F : Nat) : Contract := mkCon sg149 fun x => residual_differences F x.1
def cx149 (F : Nat) : Cx := { types := tys, call := callsL [(188, con188 F)], own := [], ntmps := (1, 24) }
theorem cs149 (F : Nat) : ∀ f c, (cx149 F).call f = some c → CMet Tryz.prog f c := callsL_sound (calls_cons (s188 F) calls_nil)
def sh149l1 : Shape := [(0, .own 0 (.int .i64) 2), (2, .d (.int .i64))]
def sh149l1o0 : Shape := [(0, .own 0 (.int .i64) 2)]
def outs149l1 : Outs := [(2, sh149l1o0)]
def m149l1 (F : Nat) (n : Nat) {R : Type} (x : Shape.den sh149l1) (K : Ex → St → Option R) : Option R := residual_differences_l1 F (fun y0 => K (.exit 0) (enc sh149l1o0 (y0, ()))) n x.1 x.2.1
def hs149 (F : Nat) : Nat → Option (Hint (Dens sg149.rtys)) := hintL [(1, { sh := sh149l1, model := m149l1 F F })]
theorem ok149l1 (F : Nat) (fr : Frm) (hn : (cx149 F).ntmps = fr.n) (n : Nat) : MSound (R := (Dens sg149.rtys)) Tryz.prog fr (.loop (sub (bodyOf Tryz.f149) [1, 0, 0])) sh149l1 (m149l1 F n) :=
  loop_sound (cx := cx149 F) (hs := hs149 F) (js := hintL []) (outs := outs149l1) (conf_all _ rfl) (cs149 F) hn mix (m := fun n => m149l1 F n) (fun _ _ => rfl) (fun n x K => by kernel_rfl) (hok_of (l := []) (by kernel_rfl) obl_nil) n
theorem s149 (F : Nat) : CSound Tryz.prog 149 (con149 F) :=
  fn_sound (fn := Tryz.f149) (code := (bodyOf Tryz.f149)) (cx := cx149 F) (hs := hs149 F) (js := hintL []) Tryz.func149 (by kernel_rfl) (by kernel_rfl) (conf_all _ rfl) (cs149 F) mix (by kernel_rfl) (by kernel_rfl) (fun fr hn => (hok_of (l := [((.loop (sub (bodyOf Tryz.f149) [1, 0, 0])), { sh := sh149l1, model := m149l1 F F })]) (by kernel_rfl) (obl_cons (ok149l1 F fr hn F) obl_nil))) (fun x => by kernel_rfl)
def sg154 : Sig := { modes := [.ro, .ro], sh := [(0, .d (.int .i64)), (1, .d (.int .u64))], keeps := true, fresh := none, rtys := [(.int .i64)] }
def con154 (F : Nat) : Contract := mkCon sg154 fun x => checked_Apply F x.1 x.2.1
def cx154 (F : Nat) : Cx := { types := tys, call := callsL [], own := [], ntmps := (0, 10) }
theorem cs154 (F : Nat) : ∀ f c, (cx154 F).call f = some c → CMet Tryz.prog f c := callsL_sound calls_nil
theorem s154 (F : Nat) : CSound Tryz.prog 154 (con154 F) :=
  fn_sound (fn := Tryz.f154) (code := (bodyOf Tryz.f154)) (cx := cx154 F) (hs := hintL []) (js := hintL []) Tryz.func154 (by kernel_rfl) (by kernel_rfl) (conf_all _ rfl) (cs154 F) mix (by kernel_rfl) (by kernel_rfl) (fun fr hn => (hok_of (l := []) (by kernel_rfl) obl_nil)) (fun x => by kernel_rfl)
def sg108 : Sig := { modes := [.wr 2], sh := [(0, .own 0 (.int .i64) 2)], keeps := false, fresh := none, rtys := [(.slice (.int .i64))] }
def con108 (F : Nat) : Contract := mkCon sg108 fun x => residual_sums F x.1
def cx108 (F : Nat) : Cx := { types := tys, call := callsL [(154, con154 F)], own := [], ntmps := (1, 23) }
theorem cs108 (F : Nat) : ∀ f c, (cx108 F).call f = some c → CMet Tryz.prog f c := callsL_sound (calls_cons (s154 F) calls_nil)
def sh108l1 : Shape := [(0, .own 0 (.int .i64) 2), (2, .d (.int .i64))]
def sh108l1o0 : Shape := [(0, .own 0 (.int .i64) 2)]
def outs108l1 : Outs := [(2, sh108l1o0)]
def m108l1 (F : Nat) (n : Nat) {R : Type} (x : Shape.den sh108l1) (K : Ex → St → Option R) : Option R := residual_sums_l1 F (fun y0 => K (.exit 0) (enc sh108l1o0 (y0, ()))) n x.1 x.2.1
def hs108 (F : Nat) : Nat → Option (Hint (Dens sg108.rtys)) := hintL [(1, { sh := sh108l1, model := m108l1 F F })]
theorem ok108l1 (F : Nat) (fr : Frm) (hn : (cx108 F).ntmps = fr.n) (n : Nat) : MSound (R := (Dens sg108.rtys)) Tryz.prog fr (.loop (sub (bodyOf Tryz.f108) [1, 0, 0])) sh108l1 (m108l1 F n) :=
  loop_sound (cx := cx108 F) (hs := hs108 F) (js := hintL []) (outs := outs108l1) (conf_all _ rfl) (cs108 F) hn mix (m := fun n => m108l1 F n) (fun _ _ => rfl) (fun n x K => by kernel_rfl) (hok_of (l := []) (by kernel_rfl) obl_nil) n
theorem s108 (F : Nat) : CSound Tryz.prog 108 (con108 F) :=
  fn_sound (fn := Tryz.f108) (code := (bodyOf Tryz.f108)) (cx := cx108 F) (hs := hs108 F) (js := hintL []) Tryz.func108 (by kernel_rfl) (by kernel_rfl) (conf_all _ rfl) (cs108 F) mix (by kernel_rfl) (by kernel_rfl) (fun fr hn => (hok_of (l := [((.loop (sub (bodyOf Tryz.f108) [1, 0, 0])), { sh := sh108l1, model := m108l1 F F })]) (by kernel_rfl) (obl_cons (ok108l1 F fr hn F) obl_nil))) (fun x => by kernel_rfl)
def sg107d : Sig := { modes := [.wr 2, .ro, .ro], sh := [(0, .own 0 (.int .i64) 2), (1, .d (.int .i64)), (2, .fn 149)], keeps := false, fresh := none, rtys := [(.slice (.int .i64))] }
def con107d (F : Nat) : Contract := mkCon sg107d fun x => residual_repeatd F x.1 x.2.1
def cx107d (F : Nat) : Cx := { types := tys, call := callsL [(149, con149 F)], own := [], ntmps := (1, 13) }
theorem cs107d (F : Nat) : ∀ f c, (cx107d F).call f = some c → CMet Tryz.prog f c := callsL_sound (calls_cons (s149 F) calls_nil)
def sh107dl1 : Shape := [(0, .own 0 (.int .i64) 2), (2, .fn 149), (6, .d (.int .i64)), (7, .d (.int .i64))]
def sh107dl1o0 : Shape := [(0, .own 0 (.int .i64) 2)]
def outs107dl1 : Outs := [(2, sh107dl1o0)]
def m107dl1 (F : Nat) (n : Nat) {R : Type} (x : Shape.den sh107dl1) (K : Ex → St → Option R) : Option R := residual_repeatd_l1 F (fun y0 => K (.exit 0) (enc sh107dl1o0 (y0, ()))) n x.1 x.2.2.1 x.2.2.2.1
def hs107d (F : Nat) : Nat → Option (Hint (Dens sg107d.rtys)) := hintL [(1, { sh := sh107dl1, model := m107dl1 F F })]
def js107d (F : Nat) : Nat → Option (Hint (Dens sg107d.rtys)) := hintL []
theorem ok107dl1 (F : Nat) (fr : Frm) (hn : (cx107d F).ntmps = fr.n) (n : Nat) : MSound (R := (Dens sg107d.rtys)) Tryz.prog fr (.loop (sub (bodyOf Tryz.f107) [1, 0, 0])) sh107dl1 (m107dl1 F n) :=
  loop_sound (cx := cx107d F) (hs := hs107d F) (js := js107d F) (outs := outs107dl1) (conf_all _ rfl) (cs107d F) hn mix (m := fun n => m107dl1 F n) (fun _ _ => rfl) (fun n x K => by kernel_rfl) (hok_of (l := []) (by kernel_rfl) obl_nil) n
theorem s107d (F : Nat) : CSound Tryz.prog 107 (con107d F) :=
  fn_sound (fn := Tryz.f107) (code := (bodyOf Tryz.f107)) (cx := cx107d F) (hs := hs107d F) (js := js107d F) Tryz.func107 (by kernel_rfl) (by kernel_rfl) (conf_all _ rfl) (cs107d F) mix (by kernel_rfl) (by kernel_rfl) (fun fr hn => (hok_of (l := [((.loop (sub (bodyOf Tryz.f107) [1, 0, 0])), { sh := sh107dl1, model := m107dl1 F F })]) (by kernel_rfl) (obl_cons (ok107dl1 F fr hn F) obl_nil))) (fun x => by kernel_rfl)
def sg107s : Sig := { modes := [.wr 2, .ro, .ro], sh := [(0, .own 0 (.int .i64) 2), (1, .d (.int .i64)), (2, .fn 108)], keeps := false, fresh := none, rtys := [(.slice (.int .i64))] }
def con107s (F : Nat) : Contract := mkCon sg107s fun x => residual_repeats F x.1 x.2.1
def cx107s (F : Nat) : Cx := { types := tys, call := callsL [(108, con108 F)], own := [], ntmps := (1, 13) }
theorem cs107s (F : Nat) : ∀ f c, (cx107s F).call f = some c → CMet Tryz.prog f c := callsL_sound (calls_cons (s108 F) calls_nil)
def sh107sl1 : Shape := [(0, .own 0 (.int .i64) 2), (2, .fn 108), (6, .d (.int .i64)), (7, .d (.int .i64))]
def sh107sl1o0 : Shape := [(0, .own 0 (.int .i64) 2)]
def outs107sl1 : Outs := [(2, sh107sl1o0)]
def m107sl1 (F : Nat) (n : Nat) {R : Type} (x : Shape.den sh107sl1) (K : Ex → St → Option R) : Option R := residual_repeats_l1 F (fun y0 => K (.exit 0) (enc sh107sl1o0 (y0, ()))) n x.1 x.2.2.1 x.2.2.2.1
def hs107s (F : Nat) : Nat → Option (Hint (Dens sg107s.rtys)) := hintL [(1, { sh := sh107sl1, model := m107sl1 F F })]
def js107s (F : Nat) : Nat → Option (Hint (Dens sg107s.rtys)) := hintL []
theorem ok107sl1 (F : Nat) (fr : Frm) (hn : (cx107s F).ntmps = fr.n) (n : Nat) : MSound (R := (Dens sg107s.rtys)) Tryz.prog fr (.loop (sub (bodyOf Tryz.f107) [1, 0, 0])) sh107sl1 (m107sl1 F n) :=
  loop_sound (cx := cx107s F) (hs := hs107s F) (js := js107s F) (outs := outs107sl1) (conf_all _ rfl) (cs107s F) hn mix (m := fun n => m107sl1 F n) (fun _ _ => rfl) (fun n x K => by kernel_rfl) (hok_of (l := []) (by kernel_rfl) obl_nil) n
theorem s107s (F : Nat) : CSound Tryz.prog 107 (con107s F) :=
  fn_sound (fn := Tryz.f107) (code := (bodyOf Tryz.f107)) (cx := cx107s F) (hs := hs107s F) (js := js107s F) Tryz.func107 (by kernel_rfl) (by kernel_rfl) (conf_all _ rfl) (cs107s F) mix (by kernel_rfl) (by kernel_rfl) (fun fr hn => (hok_of (l := [((.loop (sub (bodyOf Tryz.f107) [1, 0, 0])), { sh := sh107sl1, model := m107sl1 F F })]) (by kernel_rfl) (obl_cons (ok107sl1 F fr hn F) obl_nil))) (fun x => by kernel_rfl)
def sg150 : Sig := { modes := [.ro], sh := [(0, .d (.int .i64))], keeps := true, fresh := none, rtys := [(.int .u64)] }
def con150 (F : Nat) : Contract := mkCon sg150 fun x => varint_Zigzag F x.1
def cx150 (F : Nat) : Cx := { types := tys, call := callsL [], own := [], ntmps := (0, 10) }
theorem cs150 (F : Nat) : ∀ f c, (cx150 F).call f = some c → CMet Tryz.prog f c := callsL_sound calls_nil
theorem s150 (F : Nat) : CSound Tryz.prog 150 (con150 F) :=
  fn_sound (fn := Tryz.f150) (code := (bodyOf Tryz.f150)) (cx := cx150 F) (hs := hintL []) (js := hintL []) Tryz.func150 (by kernel_rfl) (by kernel_rfl) (conf_all _ rfl) (cs150 F) mix (by kernel_rfl) (by kernel_rfl) (fun fr hn => (hok_of (l := []) (by kernel_rfl) obl_nil)) (fun x => by kernel_rfl)
def sg95 : Sig := { modes := [.ro, .ro], sh := [(0, .d (.slice (.int .i64))), (1, .d (.int .i64))], keeps := false, fresh := some (0, 28), rtys := [(.slice (.int .u64)), .bool] }
def con95 (F : Nat) : Contract := mkCon sg95 fun x => residual_Residuals F x.1 x.2.1
def cx95 (F : Nat) : Cx := { types := tys, call := callsL [(148, con148 F), (107, con107d F), (150, con150 F)], own := [4, 17, 23], ntmps := (0, 38) }
theorem cs95 (F : Nat) : ∀ f c, (cx95 F).call f = some c → CMet Tryz.prog f c := callsL_sound (calls_cons (s148 F) (calls_cons (s107d F) (calls_cons (s150 F) calls_nil)))
def sh95l7 : Shape := [(7, .own 7 (.int .u64) 28), (24, .own 24 (.int .i64) 2), (25, .d (.int .i64)), (26, .d (.int .i64))]
def sh95l7o0 : Shape := [(7, .own 7 (.int .u64) 28)]
def outs95l7 : Outs := [(2, sh95l7o0)]
def m95l7 (F : Nat) (n : Nat) {R : Type} (x : Shape.den sh95l7) (K : Ex → St → Option R) : Option R := residual_Residuals_l7 F (fun y7 => K (.exit 0) (enc sh95l7o0 (y7, ()))) n x.1 x.2.1 x.2.2.1 x.2.2.2.1
def hs95 (F : Nat) : Nat → Option (Hint (Dens sg95.rtys)) := hintL [(7, { sh := sh95l7, model := m95l7 F F })]
theorem ok95l7 (F : Nat) (fr : Frm) (hn : (cx95 F).ntmps = fr.n) (n : Nat) : MSound (R := (Dens sg95.rtys)) Tryz.prog fr (.loop (sub (bodyOf Tryz.f95) [1, 1, 1, 1, 1, 0, 1, 0, 0])) sh95l7 (m95l7 F n) :=
  loop_sound (cx := cx95 F) (hs := hs95 F) (js := hintL []) (outs := outs95l7) (conf_all _ rfl) (cs95 F) hn mix (m := fun n => m95l7 F n) (fun _ _ => rfl) (fun n x K => by kernel_rfl) (hok_of (l := []) (by kernel_rfl) obl_nil) n
theorem s95 (F : Nat) : CSound Tryz.prog 95 (con95 F) :=
  fn_sound (fn := Tryz.f95) (code := (bodyOf Tryz.f95)) (cx := cx95 F) (hs := hs95 F) (js := hintL []) Tryz.func95 (by kernel_rfl) (by kernel_rfl) (conf_all _ rfl) (cs95 F) mix (by kernel_rfl) (by kernel_rfl) (fun fr hn => (hok_of (l := [((.loop (sub (bodyOf Tryz.f95) [1, 1, 1, 1, 1, 0, 1, 0, 0])), { sh := sh95l7, model := m95l7 F F })]) (by kernel_rfl) (obl_cons (ok95l7 F fr hn F) obl_nil))) (fun x => by kernel_rfl)
def sg48 : Sig := { modes := [.ro], sh := [(0, .d (.slice (.int .i64)))], keeps := false, fresh := some (0, 5), rtys := [(.slice (.int .u8)), (.int .i64)] }
def con48 (F : Nat) : Contract := mkCon sg48 fun x => residual_Encode F x.1
def cx48 (F : Nat) : Cx := { types := tys, call := callsL [(95, con95 F), (92, con92 F)], own := [2, 4, 39], ntmps := (0, 44), nils := [4, 27] }
theorem cs48 (F : Nat) : ∀ f c, (cx48 F).call f = some c → CMet Tryz.prog f c := callsL_sound (calls_cons (s95 F) (calls_cons (s92 F) calls_nil))
def sh48l3 : Shape := [(0, .d (.slice (.int .i64))), (4, .own 4 (.int .u8) 5), (10, .d (.int .i64))]
def sh48l3o0 : Shape := [(4, .own 4 (.int .u8) 5)]
def sh48l3oret : Shape := [(2, .own 2 (.int .u8) 5), (3, .d (.int .i64))]
def outs48l3 : Outs := [(2, sh48l3o0), (1, sh48l3oret)]
def m48l3 (F : Nat) (n : Nat) {R : Type} (x : Shape.den sh48l3) (K : Ex → St → Option R) : Option R := residual_Encode_l3 F (fun y4 => K (.exit 0) (enc sh48l3o0 (y4, ()))) (fun y2 y3 => K .ret (enc sh48l3oret (y2, y3, ()))) n x.1 x.2.1 x.2.2.1
def sh48l3p : Shape := [(0, .d (.slice (.int .i64))), (4, .nilS), (10, .d (.int .i64))]
def m48l3p (F : Nat) (n : Nat) {R : Type} (x : Shape.den sh48l3p) (K : Ex → St → Option R) : Option R := residual_Encode_p3 F (fun y4 => K (.exit 0) (enc sh48l3o0 (y4, ()))) (fun y2 y3 => K .ret (enc sh48l3oret (y2, y3, ()))) n x.1 x.2.2.1
def hs48 (F : Nat) : Nat → Option (Hint (Dens sg48.rtys)) := hintL [(3, { sh := sh48l3p, model := m48l3p F F })]
theorem ok48l3 (F : Nat) (fr : Frm) (hn : (cx48 F).ntmps = fr.n) (n : Nat) : MSound (R := (Dens sg48.rtys)) Tryz.prog fr (.loop (sub (bodyOf Tryz.f48) [1, 1, 0, 1, 0, 0])) sh48l3p (m48l3p F n) :=
  peel_sound (cx := cx48 F) (hs := hs48 F) (js := hintL []) (outs := outs48l3) (conf_all _ rfl) (cs48 F) hn mix (m := fun n => m48l3 F n) (m0 := fun n => m48l3p F n) (fun _ _ => rfl) (fun n x K => by kernel_rfl) (fun n x K => by kernel_rfl) (hok_of (l := []) (by kernel_rfl) obl_nil) n
theorem s48 (F : Nat) : CSound Tryz.prog 48 (con48 F) :=
  fn_sound (fn := Tryz.f48) (code := (bodyOf Tryz.f48)) (cx := cx48 F) (hs := hs48 F) (js := hintL []) Tryz.func48 (by kernel_rfl) (by kernel_rfl) (conf_all _ rfl) (cs48 F) mix (by kernel_rfl) (by kernel_rfl) (fun fr hn => (hok_of (l := [((.loop (sub (bodyOf Tryz.f48) [1, 1, 0, 1, 0, 0])), { sh := sh48l3p, model := m48l3p F F })]) (by kernel_rfl) (obl_cons (ok48l3 F fr hn F) obl_nil))) (fun x => by kernel_rfl)
def sg96 : Sig := { modes := [.ro, .ro], sh := [(0, .d (.slice (.int .u8))), (1, .d tyV)], keeps := false, fresh := some (0, 5), rtys := [(.slice (.int .u8))] }
def con96 (F : Nat) : Contract := mkCon sg96 fun x => varint_AppendWide F x.1 x.2.1
def cx96 (F : Nat) : Cx := { types := tys, call := callsL [(126, con126 F), (94, con94 F), (93, con93 F)], own := [4, 41, 42], ntmps := (0, 80) }
theorem cs96 (F : Nat) : ∀ f c, (cx96 F).call f = some c → CMet Tryz.prog f c := callsL_sound (calls_cons (s126 F) (calls_cons (s94 F) (calls_cons (s93 F) calls_nil)))
def sh96l5 : Shape := [(0, .d (.slice (.int .u8))), (3, .box 3 tyV), (5, .box 5 (.arr 5 (.int .u64))), (16, .d (.arr 4 (.int .u64))), (17, .d (.int .i64))]
def sh96l5o0 : Shape := [(0, .d (.slice (.int .u8))), (3, .box 3 tyV), (5, .box 5 (.arr 5 (.int .u64)))]
def outs96l5 : Outs := [(2, sh96l5o0)]
def m96l5 (F : Nat) (n : Nat) {R : Type} (x : Shape.den sh96l5) (K : Ex → St → Option R) : Option R := varint_AppendWide_l5 F (fun y0 y3 y5 => K (.exit 0) (enc sh96l5o0 (y0, y3, y5, ()))) n x.1 x.2.1 x.2.2.1 x.2.2.2.1 x.2.2.2.2.1
def sh96l15 : Shape := [(5, .box 5 (.arr 5 (.int .u64))), (8, .own 8 (.int .u8) 5), (9, .d (.int .u8)), (47, .d (.int .i64))]
def sh96l15o4 : Shape := [(5, .box 5 (.arr 5 (.int .u64))), (8, .own 8 (.int .u8) 5), (9, .d (.int .u8))]
def outs96l15 : Outs := [(6, sh96l15o4)]
def m96l15 (F : Nat) (n : Nat) {R : Type} (x : Shape.den sh96l15) (K : Ex → St → Option R) : Option R := varint_AppendWide_l15 F (fun y5 y8 y9 => K (.exit 4) (enc sh96l15o4 (y5, y8, y9, ()))) n x.1 x.2.1 x.2.2.1 x.2.2.2.1
def sh96l13 : Shape := [(5, .box 5 (.arr 5 (.int .u64))), (8, .own 8 (.int .u8) 5)]
def sh96l13oret : Shape := [(4, .own 4 (.int .u8) 5)]
def outs96l13 : Outs := [(1, sh96l13oret)]
def m96l13 (F : Nat) (n : Nat) {R : Type} (x : Shape.den sh96l13) (K : Ex → St → Option R) : Option R := varint_AppendWide_l13 F (fun y4 => K .ret (enc sh96l13oret (y4, ()))) n x.1 x.2.1
def sh96j12 : Shape := [(0, .d (.slice (.int .u8))), (5, .box 5 (.arr 5 (.int .u64)))]
def sh96j12oret : Shape := [(4, .own 4 (.int .u8) 5)]
def outs96j12 : Outs := [(1, sh96j12oret)]
def m96j12 (F : Nat) {R : Type} (x : Shape.den sh96j12) (K : Ex → St → Option R) : Option R := varint_AppendWide_j12 F (fun y4 => K .ret (enc sh96j12oret (y4, ()))) x.1 x.2.1
def sh96j3 : Shape := [(0, .d (.slice (.int .u8))), (3, .box 3 tyV)]
def sh96j3oret : Shape := [(4, .own 4 (.int .u8) 5)]
def outs96j3 : Outs := [(1, sh96j3oret)]
def m96j3 (F : Nat) {R : Type} (x : Shape.den sh96j3) (K : Ex → St → Option R) : Option R := varint_AppendWide_j3 F (fun y4 => K .ret (enc sh96j3oret (y4, ()))) x.1 x.2.1
def hs96 (F : Nat) : Nat → Option (Hint (Dens sg96.rtys)) := hintL [(5, { sh := sh96l5, model := m96l5 F F }), (15, { sh := sh96l15, model := m96l15 F F }), (13, { sh := sh96l13, model := m96l13 F F })]
def js96 (F : Nat) : Nat → Option (Hint (Dens sg96.rtys)) := hintL [(12, { sh := sh96j12, model := m96j12 F }), (3, { sh := sh96j3, model := m96j3 F })]
theorem ok96l5 (F : Nat) (fr : Frm) (hn : (cx96 F).ntmps = fr.n) (n : Nat) : MSound (R := (Dens sg96.rtys)) Tryz.prog fr (.loop (sub (bodyOf Tryz.f96) [1, 1, 1, 0, 1, 0, 0])) sh96l5 (m96l5 F n) :=
  loop_sound (cx := cx96 F) (hs := hs96 F) (js := js96 F) (outs := outs96l5) (conf_all _ rfl) (cs96 F) hn mix (m := fun n => m96l5 F n) (fun _ _ => rfl) (fun n x K => by kernel_rfl) (hok_of (l := []) (by kernel_rfl) obl_nil) n
theorem ok96l15 (F : Nat) (fr : Frm) (hn : (cx96 F).ntmps = fr.n) (n : Nat) : MSound (R := (Dens sg96.rtys)) Tryz.prog fr (.loop (sub (bodyOf Tryz.f96) [1, 1, 1, 1, 1, 1, 0, 0, 0, 1, 0, 1, 0, 0])) sh96l15 (m96l15 F n) :=
  loop_sound (cx := cx96 F) (hs := hs96 F) (js := js96 F) (outs := outs96l15) (conf_all _ rfl) (cs96 F) hn mix (m := fun n => m96l15 F n) (fun _ _ => rfl) (fun n x K => by kernel_rfl) (hok_of (l := []) (by kernel_rfl) obl_nil) n
theorem ok96l13 (F : Nat) (fr : Frm) (hn : (cx96 F).ntmps = fr.n) (n : Nat) : MSound (R := (Dens sg96.rtys)) Tryz.prog fr (.loop (sub (bodyOf Tryz.f96) [1, 1, 1, 1, 1, 1, 0, 0])) sh96l13 (m96l13 F n) :=
  loop_sound (cx := cx96 F) (hs := hs96 F) (js := js96 F) (outs := outs96l13) (conf_all _ rfl) (cs96 F) hn mix (m := fun n => m96l13 F n) (fun _ _ => rfl) (fun n x K => by kernel_rfl) (hok_of (l := [((.loop (sub (bodyOf Tryz.f96) [1, 1, 1, 1, 1, 1, 0, 0, 0, 1, 0, 1, 0, 0])), { sh := sh96l15, model := m96l15 F F })]) (by kernel_rfl) (obl_cons (ok96l15 F fr hn F) obl_nil)) n
theorem ok96j12 (F : Nat) (fr : Frm) (hn : (cx96 F).ntmps = fr.n) : MSound (R := (Dens sg96.rtys)) Tryz.prog fr (sub (bodyOf Tryz.f96) [1, 1, 1, 1, 1]) sh96j12 (m96j12 F) :=
  join_sound (cx := cx96 F) (hs := hs96 F) (js := js96 F) (outs := outs96j12) (conf_all _ rfl) (cs96 F) hn mix (fun x K => by kernel_rfl) (hok_of (l := [((.loop (sub (bodyOf Tryz.f96) [1, 1, 1, 1, 1, 1, 0, 0])), { sh := sh96l13, model := m96l13 F F })]) (by kernel_rfl) (obl_cons (ok96l13 F fr hn F) obl_nil))
theorem ok96j3 (F : Nat) (fr : Frm) (hn : (cx96 F).ntmps = fr.n) : MSound (R := (Dens sg96.rtys)) Tryz.prog fr (sub (bodyOf Tryz.f96) [1, 1]) sh96j3 (m96j3 F) :=
  join_sound (cx := cx96 F) (hs := hs96 F) (js := js96 F) (outs := outs96j3) (conf_all _ rfl) (cs96 F) hn mix (fun x K => by kernel_rfl) (hok_of (l := [((.loop (sub (bodyOf Tryz.f96) [1, 1, 1, 0, 1, 0, 0])), { sh := sh96l5, model := m96l5 F F }), ((sub (bodyOf Tryz.f96) [1, 1, 1, 1, 1]), { sh := sh96j12, model := m96j12 F })]) (by kernel_rfl) (obl_cons (ok96l5 F fr hn F) (obl_cons (ok96j12 F fr hn) obl_nil)))
theorem s96 (F : Nat) : CSound Tryz.prog 96 (con96 F) :=
  fn_sound (fn := Tryz.f96) (code := (bodyOf Tryz.f96)) (cx := cx96 F) (hs := hs96 F) (js := js96 F) Tryz.func96 (by kernel_rfl) (by kernel_rfl) (conf_all _ rfl) (cs96 F) mix (by kernel_rfl) (by kernel_rfl) (fun fr hn => (hok_of (l := [((sub (bodyOf Tryz.f96) [1, 1]), { sh := sh96j3, model := m96j3 F })]) (by kernel_rfl) (obl_cons (ok96j3 F fr hn) obl_nil))) (fun x => by kernel_rfl)
def sg49 : Sig := { modes := [.con 5, .ro], sh := [(0, .own 0 (.int .u8) 5), (1, .d (.pair tyV (.pair tyV .unit)))], keeps := false, fresh := some (0, 5), rtys := [(.slice (.int .u8))] }
def con49 (F : Nat) : Contract := mkCon sg49 fun x => records_AppendSlope F x.1 x.2.1
def cx49 (F : Nat) : Cx := { types := tys, call := callsL [(96, con96 F)], own := [4, 11], ntmps := (0, 12) }
theorem cs49 (F : Nat) : ∀ f c, (cx49 F).call f = some c → CMet Tryz.prog f c := callsL_sound (calls_cons (s96 F) calls_nil)
theorem s49 (F : Nat) : CSound Tryz.prog 49 (con49 F) :=
  fn_sound (fn := Tryz.f49) (code := (bodyOf Tryz.f49)) (cx := cx49 F) (hs := hintL []) (js := hintL []) Tryz.func49 (by kernel_rfl) (by kernel_rfl) (conf_all _ rfl) (cs49 F) mix (by kernel_rfl) (by kernel_rfl) (fun fr hn => (hok_of (l := []) (by kernel_rfl) obl_nil)) (fun x => by kernel_rfl)
def sg15 : Sig := { modes := [.ro], sh := [(0, .d (.slice (.pair (.int .i64) (.pair (.int .i64) (.pair (.pair tyV (.pair tyV .unit)) .unit)))))], keeps := false, fresh := some (0, 5), rtys := [(.slice (.int .u8)), (.int .i64)] }
def con15 (F : Nat) : Contract := mkCon sg15 fun x => lines_Encode F x.1
def cx15 (F : Nat) : Cx := { types := tys, call := callsL [(18, con18 F), (46, con46 F), (47, con47 F), (45, con45 F), (48, con48 F), (49, con49 F)], own := [2, 22, 25, 33, 70], ntmps := (0, 73) }
theorem cs15 (F : Nat) : ∀ f c, (cx15 F).call f = some c → CMet Tryz.prog f c := callsL_sound (calls_cons (s18 F) (calls_cons (s46 F) (calls_cons (s47 F) (calls_cons (s45 F) (calls_cons (s48 F) (calls_cons (s49 F) calls_nil))))))
def sh15l9 : Shape := [(0, .d (.slice (.pair (.int .i64) (.pair (.int .i64) (.pair (.pair tyV (.pair tyV .unit)) .unit))))), (5, .own 5 (.int .u8) 5), (7, .own 7 (.int .i64) 2), (34, .d (.slice (.pair (.int .i64) (.pair (.int .i64) (.pair (.pair tyV (.pair tyV .unit)) .unit))))), (35, .d (.int .i64)), (36, .d (.int .i64))]
def sh15l9o0 : Shape := [(0, .d (.slice (.pair (.int .i64) (.pair (.int .i64) (.pair (.pair tyV (.pair tyV .unit)) .unit))))), (5, .own 5 (.int .u8) 5), (7, .own 7 (.int .i64) 2)]
def outs15l9 : Outs := [(2, sh15l9o0)]
def m15l9 (F : Nat) (n : Nat) {R : Type} (x : Shape.den sh15l9) (K : Ex → St → Option R) : Option R := lines_Encode_l9 F (fun y0 y5 y7 => K (.exit 0) (enc sh15l9o0 (y0, y5, y7, ()))) n x.1 x.2.1 x.2.2.1 x.2.2.2.1 x.2.2.2.2.1 x.2.2.2.2.2.1
def sh15l18 : Shape := [(5, .own 5 (.int .u8) 5), (58, .d (.slice (.pair (.int .i64) (.pair (.int .i64) (.pair (.pair tyV (.pair tyV .unit)) .unit))))), (59, .d (.int .i64)), (60, .d (.int .i64))]
def sh15l18o2 : Shape := [(5, .own 5 (.int .u8) 5)]
def outs15l18 : Outs := [(4, sh15l18o2)]
def m15l18 (F : Nat) (n : Nat) {R : Type} (x : Shape.den sh15l18) (K : Ex → St → Option R) : Option R := lines_Encode_l18 F (fun y5 => K (.exit 2) (enc sh15l18o2 (y5, ()))) n x.1 x.2.1 x.2.2.1 x.2.2.2.1
def hs15 (F : Nat) : Nat → Option (Hint (Dens sg15.rtys)) := hintL [(9, { sh := sh15l9, model := m15l9 F F }), (18, { sh := sh15l18, model := m15l18 F F })]
theorem ok15l9 (F : Nat) (fr : Frm) (hn : (cx15 F).ntmps = fr.n) (n : Nat) : MSound (R := (Dens sg15.rtys)) Tryz.prog fr (.loop (sub (bodyOf Tryz.f15) [1, 1, 1, 1, 1, 0, 1, 0, 0])) sh15l9 (m15l9 F n) :=
  loop_sound (cx := cx15 F) (hs := hs15 F) (js := hintL []) (outs := outs15l9) (conf_all _ rfl) (cs15 F) hn mix (m := fun n => m15l9 F n) (fun _ _ => rfl) (fun n x K => by kernel_rfl) (hok_of (l := []) (by kernel_rfl) obl_nil) n
theorem ok15l18 (F : Nat) (fr : Frm) (hn : (cx15 F).ntmps = fr.n) (n : Nat) : MSound (R := (Dens sg15.rtys)) Tryz.prog fr (.loop (sub (bodyOf Tryz.f15) [1, 1, 1, 1, 1, 1, 1, 1, 1, 0, 1, 0, 0])) sh15l18 (m15l18 F n) :=
  loop_sound (cx := cx15 F) (hs := hs15 F) (js := hintL []) (outs := outs15l18) (conf_all _ rfl) (cs15 F) hn mix (m := fun n => m15l18 F n) (fun _ _ => rfl) (fun n x K => by kernel_rfl) (hok_of (l := []) (by kernel_rfl) obl_nil) n
theorem s15 (F : Nat) : CSound Tryz.prog 15 (con15 F) :=
  fn_sound (fn := Tryz.f15) (code := (bodyOf Tryz.f15)) (cx := cx15 F) (hs := hs15 F) (js := hintL []) Tryz.func15 (by kernel_rfl) (by kernel_rfl) (conf_all _ rfl) (cs15 F) mix (by kernel_rfl) (by kernel_rfl) (fun fr hn => (hok_of (l := [((.loop (sub (bodyOf Tryz.f15) [1, 1, 1, 1, 1, 0, 1, 0, 0])), { sh := sh15l9, model := m15l9 F F }), ((.loop (sub (bodyOf Tryz.f15) [1, 1, 1, 1, 1, 1, 1, 1, 1, 0, 1, 0, 0])), { sh := sh15l18, model := m15l18 F F })]) (by kernel_rfl) (obl_cons (ok15l9 F fr hn F) (obl_cons (ok15l18 F fr hn F) obl_nil)))) (fun x => by kernel_rfl)
def sg23 : Sig := { modes := [.bor, .ro], sh := [(0, .box 0 (.pair (.slice (.int .i64)) (.pair (.int .i64) .unit))), (1, .d (.slice (.int .u8)))], keeps := false, fresh := some (0, 5), rtys := [(.pair (.slice (.int .i64)) (.pair (.int .i64) .unit)), (.slice (.int .u8))] }
def con23 (F : Nat) : Contract := mkCon sg23 fun x => made_Tape_Spoiled F x.1 x.2.1
def cx23 (F : Nat) : Cx := { types := tys, call := callsL [(13, con13 F)], own := [4, 6, 36, 52], ntmps := (1, 59), cuts := [52, 56] }
theorem cs23 (F : Nat) : ∀ f c, (cx23 F).call f = some c → CMet Tryz.prog f c := callsL_sound (calls_cons (s13 F) calls_nil)
theorem s23 (F : Nat) : CSound Tryz.prog 23 (con23 F) :=
  fn_sound (fn := Tryz.f23) (code := (bodyOf Tryz.f23)) (cx := cx23 F) (hs := hintL []) (js := hintL []) Tryz.func23 (by kernel_rfl) (by kernel_rfl) (conf_all _ rfl) (cs23 F) mix (by kernel_rfl) (by kernel_rfl) (fun fr hn => (hok_of (l := []) (by kernel_rfl) obl_nil)) (fun x => by kernel_rfl)
def sg23w : Sig := { modes := [.bor, .wr 5], sh := [(0, .box 0 (.pair (.slice (.int .i64)) (.pair (.int .i64) .unit))), (1, .own 1 (.int .u8) 5)], keeps := false, fresh := some (0, 5), rtys := [(.pair (.slice (.int .i64)) (.pair (.int .i64) .unit)), (.slice (.int .u8)), (.slice (.int .u8))] }
def con23w (F : Nat) : Contract := mkCon sg23w fun x => made_Tape_Spoiledw F x.1 x.2.1
def cx23w (F : Nat) : Cx := { types := tys, call := callsL [(13, con13 F)], own := [4, 6, 36, 52], ntmps := (1, 59), cuts := [52, 56] }
theorem cs23w (F : Nat) : ∀ f c, (cx23w F).call f = some c → CMet Tryz.prog f c := callsL_sound (calls_cons (s13 F) calls_nil)
def hs23w (F : Nat) : Nat → Option (Hint (Dens sg23w.rtys)) := hintL []
def js23w (F : Nat) : Nat → Option (Hint (Dens sg23w.rtys)) := hintL []
theorem s23w (F : Nat) : CSound Tryz.prog 23 (con23w F) :=
  fn_sound (fn := Tryz.f23) (code := (bodyOf Tryz.f23)) (cx := cx23w F) (hs := hs23w F) (js := js23w F) Tryz.func23 (by kernel_rfl) (by kernel_rfl) (conf_all _ rfl) (cs23w F) mix (by kernel_rfl) (by kernel_rfl) (fun fr hn => (hok_of (l := []) (by kernel_rfl) obl_nil)) (fun x => by kernel_rfl)
def sg60 : Sig := { modes := [.ro, .ro, .ro], sh := [(0, .d (.slice (.int .u8))), (1, .d (.int .i64)), (2, .d (.int .i64))], keeps := true, fresh := none, rtys := [.bool] }
def con60 (F : Nat) : Contract := mkCon sg60 fun x => records_Placed F x.1 x.2.1 x.2.2.1
def cx60 (F : Nat) : Cx := { types := tys, call := callsL [], own := [], ntmps := (0, 23) }
theorem cs60 (F : Nat) : ∀ f c, (cx60 F).call f = some c → CMet Tryz.prog f c := callsL_sound calls_nil
theorem s60 (F : Nat) : CSound Tryz.prog 60 (con60 F) :=
  fn_sound (fn := Tryz.f60) (code := (bodyOf Tryz.f60)) (cx := cx60 F) (hs := hintL []) (js := hintL []) Tryz.func60 (by kernel_rfl) (by kernel_rfl) (conf_all _ rfl) (cs60 F) mix (by kernel_rfl) (by kernel_rfl) (fun fr hn => (hok_of (l := []) (by kernel_rfl) obl_nil)) (fun x => by kernel_rfl)
def sg191 : Sig := { modes := [.ro], sh := [(0, .d (.int .u8))], keeps := true, fresh := none, rtys := [.bool] }
def con191 (F : Nat) : Contract := mkCon sg191 fun x => varint_groups_1 F x.1
def cx191 (F : Nat) : Cx := { types := tys, call := callsL [], own := [], ntmps := (0, 5) }
theorem cs191 (F : Nat) : ∀ f c, (cx191 F).call f = some c → CMet Tryz.prog f c := callsL_sound calls_nil
theorem s191 (F : Nat) : CSound Tryz.prog 191 (con191 F) :=
  fn_sound (fn := Tryz.f191) (code := (bodyOf Tryz.f191)) (cx := cx191 F) (hs := hintL []) (js := hintL []) Tryz.func191 (by kernel_rfl) (by kernel_rfl) (conf_all _ rfl) (cs191 F) mix (by kernel_rfl) (by kernel_rfl) (fun fr hn => (hok_of (l := []) (by kernel_rfl) obl_nil)) (fun x => by kernel_rfl)
def sg190 : Sig := { modes := [.ro, .ro], sh := [(0, .d (.slice (.int .u8))), (1, .fn 191)], keeps := true, fresh := none, rtys := [(.int .i64)] }
def con190 (F : Nat) : Contract := mkCon sg190 fun x => slices_IndexFunc_byte F x.1
def cx190 (F : Nat) : Cx := { types := tys, call := callsL [(191, con191 F)], own := [], ntmps := (0, 19) }
theorem cs190 (F : Nat) : ∀ f c, (cx190 F).call f = some c → CMet Tryz.prog f c := callsL_sound (calls_cons (s191 F) calls_nil)
def sh190l2 : Shape := [(0, .d (.slice (.int .u8))), (1, .fn 191), (7, .d (.int .i64)), (8, .d (.int .i64))]
def sh190l2o0 : Shape := []
def sh190l2oret : Shape := [(4, .d (.int .i64))]
def outs190l2 : Outs := [(2, sh190l2o0), (1, sh190l2oret)]
def m190l2 (F : Nat) (n : Nat) {R : Type} (x : Shape.den sh190l2) (K : Ex → St → Option R) : Option R := slices_IndexFunc_byte_l2 F (K (.exit 0) (enc sh190l2o0 (()))) (fun y4 => K .ret (enc sh190l2oret (y4, ()))) n x.1 x.2.2.1 x.2.2.2.1
def hs190 (F : Nat) : Nat → Option (Hint (Dens sg190.rtys)) := hintL [(2, { sh := sh190l2, model := m190l2 F F })]
theorem ok190l2 (F : Nat) (fr : Frm) (hn : (cx190 F).ntmps = fr.n) (n : Nat) : MSound (R := (Dens sg190.rtys)) Tryz.prog fr (.loop (sub (bodyOf Tryz.f190) [1, 0, 1, 0, 0])) sh190l2 (m190l2 F n) :=
  loop_sound (cx := cx190 F) (hs := hs190 F) (js := hintL []) (outs := outs190l2) (conf_all _ rfl) (cs190 F) hn mix (m := fun n => m190l2 F n) (fun _ _ => rfl) (fun n x K => by kernel_rfl) (hok_of (l := []) (by kernel_rfl) obl_nil) n
theorem s190 (F : Nat) : CSound Tryz.prog 190 (con190 F) :=
  fn_sound (fn := Tryz.f190) (code := (bodyOf Tryz.f190)) (cx := cx190 F) (hs := hs190 F) (js := hintL []) Tryz.func190 (by kernel_rfl) (by kernel_rfl) (conf_all _ rfl) (cs190 F) mix (by kernel_rfl) (by kernel_rfl) (fun fr hn => (hok_of (l := [((.loop (sub (bodyOf Tryz.f190) [1, 0, 1, 0, 0])), { sh := sh190l2, model := m190l2 F F })]) (by kernel_rfl) (obl_cons (ok190l2 F fr hn F) obl_nil))) (fun x => by kernel_rfl)
def sg153 : Sig := { modes := [.ro, .ro, .ro], sh := [(0, .d (.slice (.int .u8))), (1, .d (.int .i64)), (2, .d (.int .i64))], keeps := false, fresh := none, rtys := [(.slice (.int .u8)), (.int .i64)] }
def con153 (F : Nat) : Contract := mkCon sg153 fun x => varint_groups F x.1 x.2.1 x.2.2.1
def cx153 (F : Nat) : Cx := { types := tys, call := callsL [(190, con190 F)], own := [6, 25, 53], ntmps := (0, 54) }
theorem cs153 (F : Nat) : ∀ f c, (cx153 F).call f = some c → CMet Tryz.prog f c := callsL_sound (calls_cons (s190 F) calls_nil)
def sh153j6 : Shape := [(0, .d (.slice (.int .u8))), (8, .d (.int .i64)), (27, .d .bool)]
def sh153j6on : Shape := [(0, .d (.slice (.int .u8))), (8, .d (.int .i64))]
def sh153j6oret : Shape := [(6, .own 6 (.int .u8) 5), (7, .d (.int .i64))]
def outs153j6 : Outs := [(0, sh153j6on), (1, sh153j6oret)]
def m153j6 (F : Nat) {R : Type} (x : Shape.den sh153j6) (K : Ex → St → Option R) : Option R := varint_groups_j6 F (fun y0 y8 => K .normal (enc sh153j6on (y0, y8, ()))) (fun y6 y7 => K .ret (enc sh153j6oret (y6, y7, ()))) x.1 x.2.1 x.2.2.1
def js153 (F : Nat) : Nat → Option (Hint (Dens sg153.rtys)) := hintL [(6, { sh := sh153j6, model := m153j6 F })]
theorem ok153j6 (F : Nat) (fr : Frm) (hn : (cx153 F).ntmps = fr.n) : MSound (R := (Dens sg153.rtys)) Tryz.prog fr (sub (bodyOf Tryz.f153) [1, 1, 1, 1, 0, 0, 1]) sh153j6 (m153j6 F) :=
  join_sound (cx := cx153 F) (hs := hintL []) (js := js153 F) (outs := outs153j6) (conf_all _ rfl) (cs153 F) hn mix (fun x K => by kernel_rfl) (hok_of (l := []) (by kernel_rfl) obl_nil)
theorem s153 (F : Nat) : CSound Tryz.prog 153 (con153 F) :=
  fn_sound (fn := Tryz.f153) (code := (bodyOf Tryz.f153)) (cx := cx153 F) (hs := hintL []) (js := js153 F) Tryz.func153 (by kernel_rfl) (by kernel_rfl) (conf_all _ rfl) (cs153 F) mix (by kernel_rfl) (by kernel_rfl) (fun fr hn => (hok_of (l := [((sub (bodyOf Tryz.f153) [1, 1, 1, 1, 0, 0, 1]), { sh := sh153j6, model := m153j6 F })]) (by kernel_rfl) (obl_cons (ok153j6 F fr hn) obl_nil))) (fun x => by kernel_rfl)
def sg105 : Sig := { modes := [.ro, .ro], sh := [(0, .d (.slice (.int .u8))), (1, .d (.int .i64))], keeps := true, fresh := none, rtys := [(.int .u64), (.int .i64), (.int .i64)] }
def con105 (F : Nat) : Contract := mkCon sg105 fun x => varint_Read F x.1 x.2.1
def cx105 (F : Nat) : Cx := { types := tys, call := callsL [(153, con153 F)], own := [], ntmps := (0, 51) }
theorem cs105 (F : Nat) : ∀ f c, (cx105 F).call f = some c → CMet Tryz.prog f c := callsL_sound (calls_cons (s153 F) calls_nil)
def sh105l8 : Shape := [(1, .d (.int .i64)), (7, .d (.slice (.int .u8))), (9, .d (.int .u64)), (30, .d (.slice (.int .u8))), (31, .d (.int .i64)), (32, .d (.int .i64))]
def sh105l8o0 : Shape := [(1, .d (.int .i64)), (7, .d (.slice (.int .u8))), (9, .d (.int .u64))]
def outs105l8 : Outs := [(2, sh105l8o0)]
def m105l8 (F : Nat) (n : Nat) {R : Type} (x : Shape.den sh105l8) (K : Ex → St → Option R) : Option R := varint_Read_l8 F (fun y1 y7 y9 => K (.exit 0) (enc sh105l8o0 (y1, y7, y9, ()))) n x.1 x.2.1 x.2.2.1 x.2.2.2.1 x.2.2.2.2.1 x.2.2.2.2.2.1
def sh105j6 : Shape := [(1, .d (.int .i64)), (7, .d (.slice (.int .u8)))]
def sh105j6oret : Shape := [(4, .d (.int .u64)), (5, .d (.int .i64)), (6, .d (.int .i64))]
def outs105j6 : Outs := [(1, sh105j6oret)]
def m105j6 (F : Nat) {R : Type} (x : Shape.den sh105j6) (K : Ex → St → Option R) : Option R := varint_Read_j6 F (fun y4 y5 y6 => K .ret (enc sh105j6oret (y4, y5, y6, ()))) x.1 x.2.1
def hs105 (F : Nat) : Nat → Option (Hint (Dens sg105.rtys)) := hintL [(8, { sh := sh105l8, model := m105l8 F F })]
def js105 (F : Nat) : Nat → Option (Hint (Dens sg105.rtys)) := hintL [(6, { sh := sh105j6, model := m105j6 F })]
theorem ok105l8 (F : Nat) (fr : Frm) (hn : (cx105 F).ntmps = fr.n) (n : Nat) : MSound (R := (Dens sg105.rtys)) Tryz.prog fr (.loop (sub (bodyOf Tryz.f105) [1, 1, 1, 1, 1, 0, 1, 0, 0])) sh105l8 (m105l8 F n) :=
  loop_sound (cx := cx105 F) (hs := hs105 F) (js := js105 F) (outs := outs105l8) (conf_all _ rfl) (cs105 F) hn mix (m := fun n => m105l8 F n) (fun _ _ => rfl) (fun n x K => by kernel_rfl) (hok_of (l := []) (by kernel_rfl) obl_nil) n
theorem ok105j6 (F : Nat) (fr : Frm) (hn : (cx105 F).ntmps = fr.n) : MSound (R := (Dens sg105.rtys)) Tryz.prog fr (sub (bodyOf Tryz.f105) [1, 1, 1, 1]) sh105j6 (m105j6 F) :=
  join_sound (cx := cx105 F) (hs := hs105 F) (js := js105 F) (outs := outs105j6) (conf_all _ rfl) (cs105 F) hn mix (fun x K => by kernel_rfl) (hok_of (l := [((.loop (sub (bodyOf Tryz.f105) [1, 1, 1, 1, 1, 0, 1, 0, 0])), { sh := sh105l8, model := m105l8 F F })]) (by kernel_rfl) (obl_cons (ok105l8 F fr hn F) obl_nil))
theorem s105 (F : Nat) : CSound Tryz.prog 105 (con105 F) :=
  fn_sound (fn := Tryz.f105) (code := (bodyOf Tryz.f105)) (cx := cx105 F) (hs := hs105 F) (js := js105 F) Tryz.func105 (by kernel_rfl) (by kernel_rfl) (conf_all _ rfl) (cs105 F) mix (by kernel_rfl) (by kernel_rfl) (fun fr hn => (hok_of (l := [((sub (bodyOf Tryz.f105) [1, 1, 1, 1]), { sh := sh105j6, model := m105j6 F })]) (by kernel_rfl) (obl_cons (ok105j6 F fr hn) obl_nil))) (fun x => by kernel_rfl)
def sg61 : Sig := { modes := [.ro, .ro, .ro], sh := [(0, .d (.slice (.int .u8))), (1, .d (.int .i64)), (2, .d (.int .i64))], keeps := true, fresh := none, rtys := [(.int .i64), (.int .i64), (.int .i64)] }
def con61 (F : Nat) : Contract := mkCon sg61 fun x => records_Number F x.1 x.2.1 x.2.2.1
def cx61 (F : Nat) : Cx := { types := tys, call := callsL [(105, con105 F)], own := [], ntmps := (0, 31) }
theorem cs61 (F : Nat) : ∀ f c, (cx61 F).call f = some c → CMet Tryz.prog f c := callsL_sound (calls_cons (s105 F) calls_nil)
theorem s61 (F : Nat) : CSound Tryz.prog 61 (con61 F) :=
  fn_sound (fn := Tryz.f61) (code := (bodyOf Tryz.f61)) (cx := cx61 F) (hs := hintL []) (js := hintL []) Tryz.func61 (by kernel_rfl) (by kernel_rfl) (conf_all _ rfl) (cs61 F) mix (by kernel_rfl) (by kernel_rfl) (fun fr hn => (hok_of (l := []) (by kernel_rfl) obl_nil)) (fun x => by kernel_rfl)
def sg137 : Sig := { modes := [.ro, .ro, .ro], sh := [(0, .d (.slice (.int .u8))), (1, .d (.int .i64)), (2, .d (.int .i64))], keeps := false, fresh := some (0, 28), rtys := [(.slice (.int .u64)), (.int .i64), (.int .i64)] }
def con137 (F : Nat) : Contract := mkCon sg137 fun x => numbers_plain F x.1 x.2.1 x.2.2.1
def cx137 (F : Nat) : Cx := { types := tys, call := callsL [(105, con105 F)], own := [6, 19], ntmps := (0, 41) }
theorem cs137 (F : Nat) : ∀ f c, (cx137 F).call f = some c → CMet Tryz.prog f c := callsL_sound (calls_cons (s105 F) calls_nil)
def sh137l3 : Shape := [(0, .d (.slice (.int .u8))), (1, .d (.int .i64)), (9, .own 9 (.int .u64) 28), (20, .d (.int .i64)), (21, .d (.int .i64))]
def sh137l3o0 : Shape := [(1, .d (.int .i64)), (9, .own 9 (.int .u64) 28)]
def sh137l3oret : Shape := [(6, .own 6 (.int .u64) 28), (7, .d (.int .i64)), (8, .d (.int .i64))]
def outs137l3 : Outs := [(2, sh137l3o0), (1, sh137l3oret)]
def m137l3 (F : Nat) (n : Nat) {R : Type} (x : Shape.den sh137l3) (K : Ex → St → Option R) : Option R := numbers_plain_l3 F (fun y1 y9 => K (.exit 0) (enc sh137l3o0 (y1, y9, ()))) (fun y6 y7 y8 => K .ret (enc sh137l3oret (y6, y7, y8, ()))) n x.1 x.2.1 x.2.2.1 x.2.2.2.1 x.2.2.2.2.1
def hs137 (F : Nat) : Nat → Option (Hint (Dens sg137.rtys)) := hintL [(3, { sh := sh137l3, model := m137l3 F F })]
theorem ok137l3 (F : Nat) (fr : Frm) (hn : (cx137 F).ntmps = fr.n) (n : Nat) : MSound (R := (Dens sg137.rtys)) Tryz.prog fr (.loop (sub (bodyOf Tryz.f137) [1, 1, 0, 1, 0, 0])) sh137l3 (m137l3 F n) :=
  loop_sound (cx := cx137 F) (hs := hs137 F) (js := hintL []) (outs := outs137l3) (conf_all _ rfl) (cs137 F) hn mix (m := fun n => m137l3 F n) (fun _ _ => rfl) (fun n x K => by kernel_rfl) (hok_of (l := []) (by kernel_rfl) obl_nil) n
theorem s137 (F : Nat) : CSound Tryz.prog 137 (con137 F) :=
  fn_sound (fn := Tryz.f137) (code := (bodyOf Tryz.f137)) (cx := cx137 F) (hs := hs137 F) (js := hintL []) Tryz.func137 (by kernel_rfl) (by kernel_rfl) (conf_all _ rfl) (cs137 F) mix (by kernel_rfl) (by kernel_rfl) (fun fr hn => (hok_of (l := [((.loop (sub (bodyOf Tryz.f137) [1, 1, 0, 1, 0, 0])), { sh := sh137l3, model := m137l3 F F })]) (by kernel_rfl) (obl_cons (ok137l3 F fr hn F) obl_nil))) (fun x => by kernel_rfl)
def sg181 : Sig := { modes := [.ro, .ro, .ro], sh := [(0, .d (.slice (.int .u8))), (1, .d (.int .i64)), (2, .d (.int .i64))], keeps := false, fresh := some (0, 28), rtys := [(.slice (.int .u64)), .bool] }
def con181 (F : Nat) : Contract := mkCon sg181 fun x => bitpack_Unpack F x.1 x.2.1 x.2.2.1
def cx181 (F : Nat) : Cx := { types := tys, call := callsL [(180, con180 F)], own := [6, 21], ntmps := (0, 81) }
theorem cs181 (F : Nat) : ∀ f c, (cx181 F).call f = some c → CMet Tryz.prog f c := callsL_sound (calls_cons (s180 F) calls_nil)
def sh181l9 : Shape := [(0, .d (.slice (.int .u8))), (2, .d (.int .i64)), (8, .own 8 (.int .u64) 28), (9, .d (.int .i64)), (10, .d (.int .i64)), (11, .d (.int .i64)), (23, .d (.int .i64)), (24, .d (.int .i64))]
def sh181l9o2 : Shape := [(0, .d (.slice (.int .u8))), (2, .d (.int .i64)), (8, .own 8 (.int .u64) 28), (9, .d (.int .i64)), (23, .d (.int .i64)), (24, .d (.int .i64))]
def outs181l9 : Outs := [(4, sh181l9o2)]
def m181l9 (F : Nat) (n : Nat) {R : Type} (x : Shape.den sh181l9) (K : Ex → St → Option R) : Option R := bitpack_Unpack_l9 F (fun y0 y2 y8 y9 y23 y24 => K (.exit 2) (enc sh181l9o2 (y0, y2, y8, y9, y23, y24, ()))) n x.1 x.2.1 x.2.2.1 x.2.2.2.1 x.2.2.2.2.1 x.2.2.2.2.2.1 x.2.2.2.2.2.2.1 x.2.2.2.2.2.2.2.1
def sh181l6 : Shape := [(0, .d (.slice (.int .u8))), (2, .d (.int .i64)), (8, .own 8 (.int .u64) 28), (9, .d (.int .i64)), (23, .d (.int .i64)), (24, .d (.int .i64))]
def sh181l6o0 : Shape := [(0, .d (.slice (.int .u8))), (8, .own 8 (.int .u64) 28), (9, .d (.int .i64))]
def outs181l6 : Outs := [(2, sh181l6o0)]
def m181l6 (F : Nat) (n : Nat) {R : Type} (x : Shape.den sh181l6) (K : Ex → St → Option R) : Option R := bitpack_Unpack_l6 F (fun y0 y8 y9 => K (.exit 0) (enc sh181l6o0 (y0, y8, y9, ()))) n x.1 x.2.1 x.2.2.1 x.2.2.2.1 x.2.2.2.2.1 x.2.2.2.2.2.1
def hs181 (F : Nat) : Nat → Option (Hint (Dens sg181.rtys)) := hintL [(9, { sh := sh181l9, model := m181l9 F F }), (6, { sh := sh181l6, model := m181l6 F F })]
theorem ok181l9 (F : Nat) (fr : Frm) (hn : (cx181 F).ntmps = fr.n) (n : Nat) : MSound (R := (Dens sg181.rtys)) Tryz.prog fr (.loop (sub (bodyOf Tryz.f181) [1, 1, 1, 1, 0, 1, 0, 0, 1, 1, 0, 0, 1, 1, 0, 0])) sh181l9 (m181l9 F n) :=
  loop_sound (cx := cx181 F) (hs := hs181 F) (js := hintL []) (outs := outs181l9) (conf_all _ rfl) (cs181 F) hn mix (m := fun n => m181l9 F n) (fun _ _ => rfl) (fun n x K => by kernel_rfl) (hok_of (l := []) (by kernel_rfl) obl_nil) n
theorem ok181l6 (F : Nat) (fr : Frm) (hn : (cx181 F).ntmps = fr.n) (n : Nat) : MSound (R := (Dens sg181.rtys)) Tryz.prog fr (.loop (sub (bodyOf Tryz.f181) [1, 1, 1, 1, 0, 1, 0, 0])) sh181l6 (m181l6 F n) :=
  loop_sound (cx := cx181 F) (hs := hs181 F) (js := hintL []) (outs := outs181l6) (conf_all _ rfl) (cs181 F) hn mix (m := fun n => m181l6 F n) (fun _ _ => rfl) (fun n x K => by kernel_rfl) (hok_of (l := [((.loop (sub (bodyOf Tryz.f181) [1, 1, 1, 1, 0, 1, 0, 0, 1, 1, 0, 0, 1, 1, 0, 0])), { sh := sh181l9, model := m181l9 F F })]) (by kernel_rfl) (obl_cons (ok181l9 F fr hn F) obl_nil)) n
theorem s181 (F : Nat) : CSound Tryz.prog 181 (con181 F) :=
  fn_sound (fn := Tryz.f181) (code := (bodyOf Tryz.f181)) (cx := cx181 F) (hs := hs181 F) (js := hintL []) Tryz.func181 (by kernel_rfl) (by kernel_rfl) (conf_all _ rfl) (cs181 F) mix (by kernel_rfl) (by kernel_rfl) (fun fr hn => (hok_of (l := [((.loop (sub (bodyOf Tryz.f181) [1, 1, 1, 1, 0, 1, 0, 0])), { sh := sh181l6, model := m181l6 F F })]) (by kernel_rfl) (obl_cons (ok181l6 F fr hn F) obl_nil))) (fun x => by kernel_rfl)
def sg138 : Sig := { modes := [.ro, .ro, .ro], sh := [(0, .d (.slice (.int .u8))), (1, .d (.int .i64)), (2, .d (.int .i64))], keeps := false, fresh := some (0, 28), rtys := [(.slice (.int .u64)), (.int .i64), (.int .i64)] }
def con138 (F : Nat) : Contract := mkCon sg138 fun x => numbers_packed F x.1 x.2.1 x.2.2.1
def cx138 (F : Nat) : Cx := { types := tys, call := callsL [(180, con180 F), (181, con181 F)], own := [6, 49], ntmps := (0, 58) }
theorem cs138 (F : Nat) : ∀ f c, (cx138 F).call f = some c → CMet Tryz.prog f c := callsL_sound (calls_cons (s180 F) (calls_cons (s181 F) calls_nil))
theorem s138 (F : Nat) : CSound Tryz.prog 138 (con138 F) :=
  fn_sound (fn := Tryz.f138) (code := (bodyOf Tryz.f138)) (cx := cx138 F) (hs := hintL []) (js := hintL []) Tryz.func138 (by kernel_rfl) (by kernel_rfl) (conf_all _ rfl) (cs138 F) mix (by kernel_rfl) (by kernel_rfl) (fun fr hn => (hok_of (l := []) (by kernel_rfl) obl_nil)) (fun x => by kernel_rfl)
def sg109 : Sig := { modes := [.ro, .ro], sh := [(0, .d (.slice (.int .u8))), (1, .d (.slice (.int .u8)))], keeps := true, fresh := none, rtys := [.bool] }
def con109 (F : Nat) : Contract := mkCon sg109 fun x => slices_Equal_byte F x.1 x.2.1
def cx109 (F : Nat) : Cx := { types := tys, call := callsL [], own := [], ntmps := (0, 26) }
theorem cs109 (F : Nat) : ∀ f c, (cx109 F).call f = some c → CMet Tryz.prog f c := callsL_sound calls_nil
def sh109l4 : Shape := [(0, .d (.slice (.int .u8))), (1, .d (.slice (.int .u8))), (12, .d (.int .i64)), (13, .d (.int .i64))]
def sh109l4o0 : Shape := []
def sh109l4oret : Shape := [(4, .d .bool)]
def outs109l4 : Outs := [(2, sh109l4o0), (1, sh109l4oret)]
def m109l4 (F : Nat) (n : Nat) {R : Type} (x : Shape.den sh109l4) (K : Ex → St → Option R) : Option R := slices_Equal_byte_l4 F (K (.exit 0) (enc sh109l4o0 (()))) (fun y4 => K .ret (enc sh109l4oret (y4, ()))) n x.1 x.2.1 x.2.2.1 x.2.2.2.1
def hs109 (F : Nat) : Nat → Option (Hint (Dens sg109.rtys)) := hintL [(4, { sh := sh109l4, model := m109l4 F F })]
theorem ok109l4 (F : Nat) (fr : Frm) (hn : (cx109 F).ntmps = fr.n) (n : Nat) : MSound (R := (Dens sg109.rtys)) Tryz.prog fr (.loop (sub (bodyOf Tryz.f109) [1, 1, 0, 1, 0, 0])) sh109l4 (m109l4 F n) :=
  loop_sound (cx := cx109 F) (hs := hs109 F) (js := hintL []) (outs := outs109l4) (conf_all _ rfl) (cs109 F) hn mix (m := fun n => m109l4 F n) (fun _ _ => rfl) (fun n x K => by kernel_rfl) (hok_of (l := []) (by kernel_rfl) obl_nil) n
theorem s109 (F : Nat) : CSound Tryz.prog 109 (con109 F) :=
  fn_sound (fn := Tryz.f109) (code := (bodyOf Tryz.f109)) (cx := cx109 F) (hs := hs109 F) (js := hintL []) Tryz.func109 (by kernel_rfl) (by kernel_rfl) (conf_all _ rfl) (cs109 F) mix (by kernel_rfl) (by kernel_rfl) (fun fr hn => (hok_of (l := [((.loop (sub (bodyOf Tryz.f109) [1, 1, 0, 1, 0, 0])), { sh := sh109l4, model := m109l4 F F })]) (by kernel_rfl) (obl_cons (ok109l4 F fr hn F) obl_nil))) (fun x => by kernel_rfl)
def sg81 : Sig := { modes := [.ro, .ro, .ro], sh := [(0, .d (.slice (.int .u8))), (1, .d (.int .i64)), (2, .d (.int .i64))], keeps := false, fresh := none, rtys := [(.slice (.int .u64)), (.int .i64), (.int .i64)] }
def con81 (F : Nat) : Contract := mkCon sg81 fun x => numbers_Decode F x.1 x.2.1 x.2.2.1
def cx81 (F : Nat) : Cx := { types := tys, call := callsL [(138, con138 F), (92, con92 F), (109, con109 F), (137, con137 F)], own := [6], ntmps := (0, 78) }
theorem cs81 (F : Nat) : ∀ f c, (cx81 F).call f = some c → CMet Tryz.prog f c := callsL_sound (calls_cons (s138 F) (calls_cons (s92 F) (calls_cons (s109 F) (calls_cons (s137 F) calls_nil))))
def sh81j2 : Shape := [(0, .d (.slice (.int .u8))), (1, .d (.int .i64)), (2, .d (.int .i64)), (14, .d .bool)]
def sh81j2on : Shape := [(0, .d (.slice (.int .u8))), (1, .d (.int .i64)), (2, .d (.int .i64))]
def sh81j2oret : Shape := [(6, .own 6 (.int .u64) 28), (7, .d (.int .i64)), (8, .d (.int .i64))]
def outs81j2 : Outs := [(0, sh81j2on), (1, sh81j2oret)]
def m81j2 (F : Nat) {R : Type} (x : Shape.den sh81j2) (K : Ex → St → Option R) : Option R := numbers_Decode_j2 F (fun y0 y1 y2 => K .normal (enc sh81j2on (y0, y1, y2, ()))) (fun y6 y7 y8 => K .ret (enc sh81j2oret (y6, y7, y8, ()))) x.1 x.2.1 x.2.2.1 x.2.2.2.1
def js81 (F : Nat) : Nat → Option (Hint (Dens sg81.rtys)) := hintL [(2, { sh := sh81j2, model := m81j2 F })]
theorem ok81j2 (F : Nat) (fr : Frm) (hn : (cx81 F).ntmps = fr.n) : MSound (R := (Dens sg81.rtys)) Tryz.prog fr (sub (bodyOf Tryz.f81) [1, 0, 0, 1]) sh81j2 (m81j2 F) :=
  join_sound (cx := cx81 F) (hs := hintL []) (js := js81 F) (outs := outs81j2) (conf_all _ rfl) (cs81 F) hn mix (fun x K => by kernel_rfl) (hok_of (l := []) (by kernel_rfl) obl_nil)
theorem s81 (F : Nat) : CSound Tryz.prog 81 (con81 F) :=
  fn_sound (fn := Tryz.f81) (code := (bodyOf Tryz.f81)) (cx := cx81 F) (hs := hintL []) (js := js81 F) Tryz.func81 (by kernel_rfl) (by kernel_rfl) (conf_all _ rfl) (cs81 F) mix (by kernel_rfl) (by kernel_rfl) (fun fr hn => (hok_of (l := [((sub (bodyOf Tryz.f81) [1, 0, 0, 1]), { sh := sh81j2, model := m81j2 F })]) (by kernel_rfl) (obl_cons (ok81j2 F fr hn) obl_nil))) (fun x => by kernel_rfl)
def sg62 : Sig := { modes := [.ro, .ro, .ro, .ro], sh := [(0, .d (.slice (.int .u8))), (1, .d (.int .i64)), (2, .d (.int .i64)), (3, .d (.int .i64))], keeps := false, fresh := some (0, 3), rtys := [(.slice (.int .i64)), (.int .i64), (.int .i64), (.int .i64)] }
def con62 (F : Nat) : Contract := mkCon sg62 fun x => records_Counts F x.1 x.2.1 x.2.2.1 x.2.2.2.1
def cx62 (F : Nat) : Cx := { types := tys, call := callsL [(81, con81 F)], own := [8, 31], ntmps := (0, 61) }
theorem cs62 (F : Nat) : ∀ f c, (cx62 F).call f = some c → CMet Tryz.prog f c := callsL_sound (calls_cons (s81 F) calls_nil)
def sh62l7 : Shape := [(3, .d (.int .i64)), (13, .d (.int .i64)), (15, .own 15 (.int .i64) 3), (16, .d (.int .i64)), (32, .d (.slice (.int .u64))), (33, .d (.int .i64)), (34, .d (.int .i64))]
def sh62l7o0 : Shape := [(13, .d (.int .i64)), (15, .own 15 (.int .i64) 3), (16, .d (.int .i64))]
def outs62l7 : Outs := [(2, sh62l7o0)]
def m62l7 (F : Nat) (n : Nat) {R : Type} (x : Shape.den sh62l7) (K : Ex → St → Option R) : Option R := records_Counts_l7 F (fun y13 y15 y16 => K (.exit 0) (enc sh62l7o0 (y13, y15, y16, ()))) n x.1 x.2.1 x.2.2.1 x.2.2.2.1 x.2.2.2.2.1 x.2.2.2.2.2.1 x.2.2.2.2.2.2.1
def hs62 (F : Nat) : Nat → Option (Hint (Dens sg62.rtys)) := hintL [(7, { sh := sh62l7, model := m62l7 F F })]
theorem ok62l7 (F : Nat) (fr : Frm) (hn : (cx62 F).ntmps = fr.n) (n : Nat) : MSound (R := (Dens sg62.rtys)) Tryz.prog fr (.loop (sub (bodyOf Tryz.f62) [1, 1, 1, 1, 1, 0, 1, 0, 0])) sh62l7 (m62l7 F n) :=
  loop_sound (cx := cx62 F) (hs := hs62 F) (js := hintL []) (outs := outs62l7) (conf_all _ rfl) (cs62 F) hn mix (m := fun n => m62l7 F n) (fun _ _ => rfl) (fun n x K => by kernel_rfl) (hok_of (l := []) (by kernel_rfl) obl_nil) n
theorem s62 (F : Nat) : CSound Tryz.prog 62 (con62 F) :=
  fn_sound (fn := Tryz.f62) (code := (bodyOf Tryz.f62)) (cx := cx62 F) (hs := hs62 F) (js := hintL []) Tryz.func62 (by kernel_rfl) (by kernel_rfl) (conf_all _ rfl) (cs62 F) mix (by kernel_rfl) (by kernel_rfl) (fun fr hn => (hok_of (l := [((.loop (sub (bodyOf Tryz.f62) [1, 1, 1, 1, 1, 0, 1, 0, 0])), { sh := sh62l7, model := m62l7 F F })]) (by kernel_rfl) (obl_cons (ok62l7 F fr hn F) obl_nil))) (fun x => by kernel_rfl)
def sg106 : Sig := { modes := [.ro], sh := [(0, .d (.int .u64))], keeps := true, fresh := none, rtys := [(.int .i64)] }
def con106 (F : Nat) : Contract := mkCon sg106 fun x => varint_Unzigzag F x.1
def cx106 (F : Nat) : Cx := { types := tys, call := callsL [], own := [], ntmps := (0, 11) }
theorem cs106 (F : Nat) : ∀ f c, (cx106 F).call f = some c → CMet Tryz.prog f c := callsL_sound calls_nil
theorem s106 (F : Nat) : CSound Tryz.prog 106 (con106 F) :=
  fn_sound (fn := Tryz.f106) (code := (bodyOf Tryz.f106)) (cx := cx106 F) (hs := hintL []) (js := hintL []) Tryz.func106 (by kernel_rfl) (by kernel_rfl) (conf_all _ rfl) (cs106 F) mix (by kernel_rfl) (by kernel_rfl) (fun fr hn => (hok_of (l := []) (by kernel_rfl) obl_nil)) (fun x => by kernel_rfl)
def sg63 : Sig := { modes := [.ro, .ro, .ro], sh := [(0, .d (.slice (.int .u8))), (1, .d (.int .i64)), (2, .d (.int .i64))], keeps := false, fresh := none, rtys := [(.slice (.int .i64)), (.int .i64), (.int .i64)] }
def con63 (F : Nat) : Contract := mkCon sg63 fun x => residual_Decode F x.1 x.2.1 x.2.2.1
def cx63 (F : Nat) : Cx := { types := tys, call := callsL [(81, con81 F), (106, con106 F), (107, con107s F), (48, con48 F), (109, con109 F)], own := [6, 57], ntmps := (0, 96) }
theorem cs63 (F : Nat) : ∀ f c, (cx63 F).call f = some c → CMet Tryz.prog f c := callsL_sound (calls_cons (s81 F) (calls_cons (s106 F) (calls_cons (s107s F) (calls_cons (s48 F) (calls_cons (s109 F) calls_nil)))))
def sh63j2 : Shape := [(0, .d (.slice (.int .u8))), (1, .d (.int .i64)), (2, .d (.int .i64)), (16, .d .bool)]
def sh63j2on : Shape := [(0, .d (.slice (.int .u8))), (1, .d (.int .i64)), (2, .d (.int .i64))]
def sh63j2oret : Shape := [(6, .own 6 (.int .i64) 2), (7, .d (.int .i64)), (8, .d (.int .i64))]
def outs63j2 : Outs := [(0, sh63j2on), (1, sh63j2oret)]
def m63j2 (F : Nat) {R : Type} (x : Shape.den sh63j2) (K : Ex → St → Option R) : Option R := residual_Decode_j2 F (fun y0 y1 y2 => K .normal (enc sh63j2on (y0, y1, y2, ()))) (fun y6 y7 y8 => K .ret (enc sh63j2oret (y6, y7, y8, ()))) x.1 x.2.1 x.2.2.1 x.2.2.2.1
def sh63l12 : Shape := [(0, .d (.slice (.int .u8))), (1, .d (.int .i64)), (10, .d (.int .i64)), (12, .own 12 (.int .i64) 2), (58, .d (.slice (.int .u64))), (59, .d (.int .i64)), (60, .d (.int .i64))]
def sh63l12o1 : Shape := [(0, .d (.slice (.int .u8))), (1, .d (.int .i64)), (10, .d (.int .i64)), (12, .own 12 (.int .i64) 2)]
def outs63l12 : Outs := [(3, sh63l12o1)]
def m63l12 (F : Nat) (n : Nat) {R : Type} (x : Shape.den sh63l12) (K : Ex → St → Option R) : Option R := residual_Decode_l12 F (fun y0 y1 y10 y12 => K (.exit 1) (enc sh63l12o1 (y0, y1, y10, y12, ()))) n x.1 x.2.1 x.2.2.1 x.2.2.2.1 x.2.2.2.2.1 x.2.2.2.2.2.1 x.2.2.2.2.2.2.1
def sh63j12 : Shape := [(0, .d (.slice (.int .u8))), (1, .d (.int .i64)), (10, .d (.int .i64)), (12, .own 12 (.int .i64) 2), (58, .d (.slice (.int .u64))), (59, .d (.int .i64)), (60, .d (.int .i64))]
def sh63j12on : Shape := [(0, .d (.slice (.int .u8))), (1, .d (.int .i64)), (10, .d (.int .i64)), (12, .own 12 (.int .i64) 2)]
def outs63j12 : Outs := [(0, sh63j12on)]
def m63j12 (F : Nat) {R : Type} (x : Shape.den sh63j12) (K : Ex → St → Option R) : Option R := residual_Decode_j12 F (fun y0 y1 y10 y12 => K .normal (enc sh63j12on (y0, y1, y10, y12, ()))) x.1 x.2.1 x.2.2.1 x.2.2.2.1 x.2.2.2.2.1 x.2.2.2.2.2.1 x.2.2.2.2.2.2.1
def hs63 (F : Nat) : Nat → Option (Hint (Dens sg63.rtys)) := hintL [(12, { sh := sh63l12, model := m63l12 F F })]
def js63 (F : Nat) : Nat → Option (Hint (Dens sg63.rtys)) := hintL [(2, { sh := sh63j2, model := m63j2 F }), (12, { sh := sh63j12, model := m63j12 F })]
theorem ok63j2 (F : Nat) (fr : Frm) (hn : (cx63 F).ntmps = fr.n) : MSound (R := (Dens sg63.rtys)) Tryz.prog fr (sub (bodyOf Tryz.f63) [1, 0, 0, 1]) sh63j2 (m63j2 F) :=
  join_sound (cx := cx63 F) (hs := hs63 F) (js := js63 F) (outs := outs63j2) (conf_all _ rfl) (cs63 F) hn mix (fun x K => by kernel_rfl) (hok_of (l := []) (by kernel_rfl) obl_nil)
theorem ok63l12 (F : Nat) (fr : Frm) (hn : (cx63 F).ntmps = fr.n) (n : Nat) : MSound (R := (Dens sg63.rtys)) Tryz.prog fr (.loop (sub (bodyOf Tryz.f63) [1, 1, 1, 1, 1, 0, 1, 0, 0])) sh63l12 (m63l12 F n) :=
  loop_sound (cx := cx63 F) (hs := hs63 F) (js := js63 F) (outs := outs63l12) (conf_all _ rfl) (cs63 F) hn mix (m := fun n => m63l12 F n) (fun _ _ => rfl) (fun n x K => by kernel_rfl) (hok_of (l := []) (by kernel_rfl) obl_nil) n
theorem ok63j12 (F : Nat) (fr : Frm) (hn : (cx63 F).ntmps = fr.n) : MSound (R := (Dens sg63.rtys)) Tryz.prog fr (sub (bodyOf Tryz.f63) [1, 1, 1, 1, 1, 0, 1]) sh63j12 (m63j12 F) :=
  join_sound (cx := cx63 F) (hs := hs63 F) (js := js63 F) (outs := outs63j12) (conf_all _ rfl) (cs63 F) hn mix (fun x K => by kernel_rfl) (hok_of (l := [((.loop (sub (bodyOf Tryz.f63) [1, 1, 1, 1, 1, 0, 1, 0, 0])), { sh := sh63l12, model := m63l12 F F })]) (by kernel_rfl) (obl_cons (ok63l12 F fr hn F) obl_nil))
theorem s63 (F : Nat) : CSound Tryz.prog 63 (con63 F) :=
  fn_sound (fn := Tryz.f63) (code := (bodyOf Tryz.f63)) (cx := cx63 F) (hs := hs63 F) (js := js63 F) Tryz.func63 (by kernel_rfl) (by kernel_rfl) (conf_all _ rfl) (cs63 F) mix (by kernel_rfl) (by kernel_rfl) (fun fr hn => (hok_of (l := [((sub (bodyOf Tryz.f63) [1, 0, 0, 1]), { sh := sh63j2, model := m63j2 F }), ((sub (bodyOf Tryz.f63) [1, 1, 1, 1, 1, 0, 1]), { sh := sh63j12, model := m63j12 F })]) (by kernel_rfl) (obl_cons (ok63j2 F fr hn) (obl_cons (ok63j12 F fr hn) obl_nil)))) (fun x => by kernel_rfl)
def sg111 : Sig := { modes := [.ro, .ro], sh := [(0, .d (.slice (.int .u8))), (1, .d (.int .i64))], keeps := true, fresh := none, rtys := [tyV, (.int .i64), (.int .i64)] }
def con111 (F : Nat) : Contract := mkCon sg111 fun x => varint_ReadWide F x.1 x.2.1
def cx111 (F : Nat) : Cx := { types := tys, call := callsL [(153, con153 F), (126, con126 F)], own := [], ntmps := (0, 94) }
theorem cs111 (F : Nat) : ∀ f c, (cx111 F).call f = some c → CMet Tryz.prog f c := callsL_sound (calls_cons (s153 F) (calls_cons (s126 F) calls_nil))
def sh111l9 : Shape := [(1, .d (.int .i64)), (4, .box 4 tyV), (7, .d (.slice (.int .u8))), (9, .box 9 (.arr 5 (.int .u64))), (10, .d (.int .i64)), (11, .d (.int .i64))]
def sh111l9o2 : Shape := [(1, .d (.int .i64)), (4, .box 4 tyV), (7, .d (.slice (.int .u8))), (9, .box 9 (.arr 5 (.int .u64))), (10, .d (.int .i64))]
def outs111l9 : Outs := [(4, sh111l9o2)]
def m111l9 (F : Nat) (n : Nat) {R : Type} (x : Shape.den sh111l9) (K : Ex → St → Option R) : Option R := varint_ReadWide_l9 F (fun y1 y4 y7 y9 y10 => K (.exit 2) (enc sh111l9o2 (y1, y4, y7, y9, y10, ()))) n x.1 x.2.1 x.2.2.1 x.2.2.2.1 x.2.2.2.2.1 x.2.2.2.2.2.1
def sh111l6 : Shape := [(1, .d (.int .i64)), (4, .box 4 tyV), (7, .d (.slice (.int .u8))), (9, .box 9 (.arr 5 (.int .u64))), (10, .d (.int .i64))]
def sh111l6o0 : Shape := [(1, .d (.int .i64)), (4, .box 4 tyV), (7, .d (.slice (.int .u8))), (9, .box 9 (.arr 5 (.int .u64)))]
def outs111l6 : Outs := [(2, sh111l6o0)]
def m111l6 (F : Nat) (n : Nat) {R : Type} (x : Shape.den sh111l6) (K : Ex → St → Option R) : Option R := varint_ReadWide_l6 F (fun y1 y4 y7 y9 => K (.exit 0) (enc sh111l6o0 (y1, y4, y7, y9, ()))) n x.1 x.2.1 x.2.2.1 x.2.2.2.1 x.2.2.2.2.1
def sh111l15 : Shape := [(1, .d (.int .i64)), (4, .box 4 tyV), (7, .d (.slice (.int .u8))), (9, .box 9 (.arr 5 (.int .u64))), (12, .box 12 tyV), (63, .d (.int .i64))]
def sh111l15o4 : Shape := [(1, .d (.int .i64)), (4, .box 4 tyV), (7, .d (.slice (.int .u8))), (9, .box 9 (.arr 5 (.int .u64))), (12, .box 12 tyV)]
def outs111l15 : Outs := [(6, sh111l15o4)]
def m111l15 (F : Nat) (n : Nat) {R : Type} (x : Shape.den sh111l15) (K : Ex → St → Option R) : Option R := varint_ReadWide_l15 F (fun y1 y4 y7 y9 y12 => K (.exit 4) (enc sh111l15o4 (y1, y4, y7, y9, y12, ()))) n x.1 x.2.1 x.2.2.1 x.2.2.2.1 x.2.2.2.2.1 x.2.2.2.2.2.1
def hs111 (F : Nat) : Nat → Option (Hint (Dens sg111.rtys)) := hintL [(9, { sh := sh111l9, model := m111l9 F F }), (6, { sh := sh111l6, model := m111l6 F F }), (15, { sh := sh111l15, model := m111l15 F F })]
theorem ok111l9 (F : Nat) (fr : Frm) (hn : (cx111 F).ntmps = fr.n) (n : Nat) : MSound (R := (Dens sg111.rtys)) Tryz.prog fr (.loop (sub (bodyOf Tryz.f111) [1, 1, 1, 1, 0, 1, 0, 0, 1, 0, 0, 0, 1, 0, 0])) sh111l9 (m111l9 F n) :=
  loop_sound (cx := cx111 F) (hs := hs111 F) (js := hintL []) (outs := outs111l9) (conf_all _ rfl) (cs111 F) hn mix (m := fun n => m111l9 F n) (fun _ _ => rfl) (fun n x K => by kernel_rfl) (hok_of (l := []) (by kernel_rfl) obl_nil) n
theorem ok111l6 (F : Nat) (fr : Frm) (hn : (cx111 F).ntmps = fr.n) (n : Nat) : MSound (R := (Dens sg111.rtys)) Tryz.prog fr (.loop (sub (bodyOf Tryz.f111) [1, 1, 1, 1, 0, 1, 0, 0])) sh111l6 (m111l6 F n) :=
  loop_sound (cx := cx111 F) (hs := hs111 F) (js := hintL []) (outs := outs111l6) (conf_all _ rfl) (cs111 F) hn mix (m := fun n => m111l6 F n) (fun _ _ => rfl) (fun n x K => by kernel_rfl) (hok_of (l := [((.loop (sub (bodyOf Tryz.f111) [1, 1, 1, 1, 0, 1, 0, 0, 1, 0, 0, 0, 1, 0, 0])), { sh := sh111l9, model := m111l9 F F })]) (by kernel_rfl) (obl_cons (ok111l9 F fr hn F) obl_nil)) n
theorem ok111l15 (F : Nat) (fr : Frm) (hn : (cx111 F).ntmps = fr.n) (n : Nat) : MSound (R := (Dens sg111.rtys)) Tryz.prog fr (.loop (sub (bodyOf Tryz.f111) [1, 1, 1, 1, 1, 1, 0, 1, 0, 0])) sh111l15 (m111l15 F n) :=
  loop_sound (cx := cx111 F) (hs := hs111 F) (js := hintL []) (outs := outs111l15) (conf_all _ rfl) (cs111 F) hn mix (m := fun n => m111l15 F n) (fun _ _ => rfl) (fun n x K => by kernel_rfl) (hok_of (l := []) (by kernel_rfl) obl_nil) n
theorem s111 (F : Nat) : CSound Tryz.prog 111 (con111 F) :=
  fn_sound (fn := Tryz.f111) (code := (bodyOf Tryz.f111)) (cx := cx111 F) (hs := hs111 F) (js := hintL []) Tryz.func111 (by kernel_rfl) (by kernel_rfl) (conf_all _ rfl) (cs111 F) mix (by kernel_rfl) (by kernel_rfl) (fun fr hn => (hok_of (l := [((.loop (sub (bodyOf Tryz.f111) [1, 1, 1, 1, 0, 1, 0, 0])), { sh := sh111l6, model := m111l6 F F }), ((.loop (sub (bodyOf Tryz.f111) [1, 1, 1, 1, 1, 1, 0, 1, 0, 0])), { sh := sh111l15, model := m111l15 F F })]) (by kernel_rfl) (obl_cons (ok111l6 F fr hn F) (obl_cons (ok111l15 F fr hn F) obl_nil)))) (fun x => by kernel_rfl)
def sg65 : Sig := { modes := [.ro, .ro], sh := [(0, .d (.slice (.int .u8))), (1, .d (.int .i64))], keeps := true, fresh := none, rtys := [(.pair tyV (.pair tyV .unit)), (.int .i64), (.int .i64)] }
def con65 (F : Nat) : Contract := mkCon sg65 fun x => records_Slope F x.1 x.2.1
def cx65 (F : Nat) : Cx := { types := tys, call := callsL [(111, con111 F), (112, con112 F), (76, con76 F)], own := [], ntmps := (0, 49) }
theorem cs65 (F : Nat) : ∀ f c, (cx65 F).call f = some c → CMet Tryz.prog f c := callsL_sound (calls_cons (s111 F) (calls_cons (s112 F) (calls_cons (s76 F) calls_nil)))
def sh65l3 : Shape := [(0, .d (.slice (.int .u8))), (1, .d (.int .i64)), (4, .box 4 (.pair tyV (.pair tyV .unit))), (7, .box 7 (.arr 2 tyV)), (13, .d (.int .i64))]
def sh65l3o0 : Shape := [(1, .d (.int .i64)), (4, .box 4 (.pair tyV (.pair tyV .unit))), (7, .box 7 (.arr 2 tyV))]
def sh65l3oret : Shape := [(4, .box 4 (.pair tyV (.pair tyV .unit))), (5, .d (.int .i64)), (6, .d (.int .i64))]
def outs65l3 : Outs := [(2, sh65l3o0), (1, sh65l3oret)]
def m65l3 (F : Nat) (n : Nat) {R : Type} (x : Shape.den sh65l3) (K : Ex → St → Option R) : Option R := records_Slope_l3 F (fun y1 y4 y7 => K (.exit 0) (enc sh65l3o0 (y1, y4, y7, ()))) (fun y4 y5 y6 => K .ret (enc sh65l3oret (y4, y5, y6, ()))) n x.1 x.2.1 x.2.2.1 x.2.2.2.1 x.2.2.2.2.1
def hs65 (F : Nat) : Nat → Option (Hint (Dens sg65.rtys)) := hintL [(3, { sh := sh65l3, model := m65l3 F F })]
theorem ok65l3 (F : Nat) (fr : Frm) (hn : (cx65 F).ntmps = fr.n) (n : Nat) : MSound (R := (Dens sg65.rtys)) Tryz.prog fr (.loop (sub (bodyOf Tryz.f65) [1, 1, 0, 1, 0, 0])) sh65l3 (m65l3 F n) :=
  loop_sound (cx := cx65 F) (hs := hs65 F) (js := hintL []) (outs := outs65l3) (conf_all _ rfl) (cs65 F) hn mix (m := fun n => m65l3 F n) (fun _ _ => rfl) (fun n x K => by kernel_rfl) (hok_of (l := []) (by kernel_rfl) obl_nil) n
theorem s65 (F : Nat) : CSound Tryz.prog 65 (con65 F) :=
  fn_sound (fn := Tryz.f65) (code := (bodyOf Tryz.f65)) (cx := cx65 F) (hs := hs65 F) (js := hintL []) Tryz.func65 (by kernel_rfl) (by kernel_rfl) (conf_all _ rfl) (cs65 F) mix (by kernel_rfl) (by kernel_rfl) (fun fr hn => (hok_of (l := [((.loop (sub (bodyOf Tryz.f65) [1, 1, 0, 1, 0, 0])), { sh := sh65l3, model := m65l3 F F })]) (by kernel_rfl) (obl_cons (ok65l3 F fr hn F) obl_nil))) (fun x => by kernel_rfl)
def sg24 : Sig := { modes := [.ro, .ro, .ro], sh := [(0, .d (.slice (.int .u8))), (1, .d (.int .i64)), (2, .d (.int .i64))], keeps := false, fresh := some (0, 35), rtys := [(.slice (.pair (.int .i64) (.pair (.int .i64) (.pair (.pair tyV (.pair tyV .unit)) .unit)))), (.int .i64), (.int .i64)] }
def con24 (F : Nat) : Contract := mkCon sg24 fun x => lines_Decode F x.1 x.2.1 x.2.2.1
def cx24 (F : Nat) : Cx := { types := tys, call := callsL [(60, con60 F), (61, con61 F), (62, con62 F), (63, con63 F), (64, con64 F), (65, con65 F)], own := [6, 65], ntmps := (0, 108) }
theorem cs24 (F : Nat) : ∀ f c, (cx24 F).call f = some c → CMet Tryz.prog f c := callsL_sound (calls_cons (s60 F) (calls_cons (s61 F) (calls_cons (s62 F) (calls_cons (s63 F) (calls_cons (s64 F) (calls_cons (s65 F) calls_nil))))))
def sh24l16 : Shape := [(0, .d (.slice (.int .u8))), (1, .d (.int .i64)), (11, .d (.slice (.int .i64))), (13, .d (.slice (.int .i64))), (14, .own 14 (.pair (.int .i64) (.pair (.int .i64) (.pair (.pair tyV (.pair tyV .unit)) .unit))) 35), (67, .d (.int .i64)), (68, .d (.int .i64))]
def sh24l16o1 : Shape := [(1, .d (.int .i64)), (14, .own 14 (.pair (.int .i64) (.pair (.int .i64) (.pair (.pair tyV (.pair tyV .unit)) .unit))) 35)]
def sh24l16oret : Shape := [(6, .own 6 (.pair (.int .i64) (.pair (.int .i64) (.pair (.pair tyV (.pair tyV .unit)) .unit))) 35), (7, .d (.int .i64)), (8, .d (.int .i64))]
def outs24l16 : Outs := [(3, sh24l16o1), (1, sh24l16oret)]
def m24l16 (F : Nat) (n : Nat) {R : Type} (x : Shape.den sh24l16) (K : Ex → St → Option R) : Option R := lines_Decode_l16 F (fun y1 y14 => K (.exit 1) (enc sh24l16o1 (y1, y14, ()))) (fun y6 y7 y8 => K .ret (enc sh24l16oret (y6, y7, y8, ()))) n x.1 x.2.1 x.2.2.1 x.2.2.2.1 x.2.2.2.2.1 x.2.2.2.2.2.1 x.2.2.2.2.2.2.1
def hs24 (F : Nat) : Nat → Option (Hint (Dens sg24.rtys)) := hintL [(16, { sh := sh24l16, model := m24l16 F F })]
theorem ok24l16 (F : Nat) (fr : Frm) (hn : (cx24 F).ntmps = fr.n) (n : Nat) : MSound (R := (Dens sg24.rtys)) Tryz.prog fr (.loop (sub (bodyOf Tryz.f24) [1, 1, 1, 1, 1, 1, 1, 1, 1, 0, 1, 0, 0])) sh24l16 (m24l16 F n) :=
  loop_sound (cx := cx24 F) (hs := hs24 F) (js := hintL []) (outs := outs24l16) (conf_all _ rfl) (cs24 F) hn mix (m := fun n => m24l16 F n) (fun _ _ => rfl) (fun n x K => by kernel_rfl) (hok_of (l := []) (by kernel_rfl) obl_nil) n
theorem s24 (F : Nat) : CSound Tryz.prog 24 (con24 F) :=
  fn_sound (fn := Tryz.f24) (code := (bodyOf Tryz.f24)) (cx := cx24 F) (hs := hs24 F) (js := hintL []) Tryz.func24 (by kernel_rfl) (by kernel_rfl) (conf_all _ rfl) (cs24 F) mix (by kernel_rfl) (by kernel_rfl) (fun fr hn => (hok_of (l := [((.loop (sub (bodyOf Tryz.f24) [1, 1, 1, 1, 1, 1, 1, 1, 1, 0, 1, 0, 0])), { sh := sh24l16, model := m24l16 F F })]) (by kernel_rfl) (obl_cons (ok24l16 F fr hn F) obl_nil))) (fun x => by kernel_rfl)
def sg17 : Sig := { modes := [.ro, .ro], sh := [(0, .d (.slice (.int .u8))), (1, .d (.slice (.int .u8)))], keeps := true, fresh := none, rtys := [.bool] }
def con17 (F : Nat) : Contract := mkCon sg17 fun x => ref06_Same F x.1 x.2.1
def cx17 (F : Nat) : Cx := { types := tys, call := callsL [], own := [], ntmps := (0, 26) }
theorem cs17 (F : Nat) : ∀ f c, (cx17 F).call f = some c → CMet Tryz.prog f c := callsL_sound calls_nil
def sh17l4 : Shape := [(0, .d (.slice (.int .u8))), (1, .d (.slice (.int .u8))), (5, .d (.int .i64))]
def sh17l4o0 : Shape := []
def sh17l4oret : Shape := [(4, .d .bool)]
def outs17l4 : Outs := [(2, sh17l4o0), (1, sh17l4oret)]
def m17l4 (F : Nat) (n : Nat) {R : Type} (x : Shape.den sh17l4) (K : Ex → St → Option R) : Option R := ref06_Same_l4 F (K (.exit 0) (enc sh17l4o0 (()))) (fun y4 => K .ret (enc sh17l4oret (y4, ()))) n x.1 x.2.1 x.2.2.1
def hs17 (F : Nat) : Nat → Option (Hint (Dens sg17.rtys)) := hintL [(4, { sh := sh17l4, model := m17l4 F F })]
theorem ok17l4 (F : Nat) (fr : Frm) (hn : (cx17 F).ntmps = fr.n) (n : Nat) : MSound (R := (Dens sg17.rtys)) Tryz.prog fr (.loop (sub (bodyOf Tryz.f17) [1, 1, 0, 1, 0, 0])) sh17l4 (m17l4 F n) :=
  loop_sound (cx := cx17 F) (hs := hs17 F) (js := hintL []) (outs := outs17l4) (conf_all _ rfl) (cs17 F) hn mix (m := fun n => m17l4 F n) (fun _ _ => rfl) (fun n x K => by kernel_rfl) (hok_of (l := []) (by kernel_rfl) obl_nil) n
theorem s17 (F : Nat) : CSound Tryz.prog 17 (con17 F) :=
  fn_sound (fn := Tryz.f17) (code := (bodyOf Tryz.f17)) (cx := cx17 F) (hs := hs17 F) (js := hintL []) Tryz.func17 (by kernel_rfl) (by kernel_rfl) (conf_all _ rfl) (cs17 F) mix (by kernel_rfl) (by kernel_rfl) (fun fr hn => (hok_of (l := [((.loop (sub (bodyOf Tryz.f17) [1, 1, 0, 1, 0, 0])), { sh := sh17l4, model := m17l4 F F })]) (by kernel_rfl) (obl_cons (ok17l4 F fr hn F) obl_nil))) (fun x => by kernel_rfl)
def sg20 : Sig := { modes := [], sh := [], keeps := true, fresh := none, rtys := [.bool] }
def con20 (F : Nat) : Contract := mkCon sg20 fun x => law18_known F 
def cx20 (F : Nat) : Cx := { types := tys, call := callsL [(39, con39 F), (15, con15 F), (24, con24 F), (17, con17 F)], own := [], ntmps := (0, 49) }
theorem cs20 (F : Nat) : ∀ f c, (cx20 F).call f = some c → CMet Tryz.prog f c := callsL_sound (calls_cons (s39 F) (calls_cons (s15 F) (calls_cons (s24 F) (calls_cons (s17 F) calls_nil))))
theorem s20 (F : Nat) : CSound Tryz.prog 20 (con20 F) :=
  fn_sound (fn := Tryz.f20) (code := (bodyOf Tryz.f20)) (cx := cx20 F) (hs := hintL []) (js := hintL []) Tryz.func20 (by kernel_rfl) (by kernel_rfl) (conf_all _ rfl) (cs20 F) mix (by kernel_rfl) (by kernel_rfl) (fun fr hn => (hok_of (l := []) (by kernel_rfl) obl_nil)) (fun x => by kernel_rfl)
def sg6 : Sig := { modes := [.ro, .ro, .ro], sh := [(0, .d (.slice (.int .u8))), (1, .d (.int .i64)), (2, .d (.slice (.int .i64)))], keeps := true, fresh := none, rtys := [.bool] }
def con6 (F : Nat) : Contract := mkCon sg6 fun x => law18_LinesCanonical F x.1 x.2.1 x.2.2.1
def cx6 (F : Nat) : Cx := { types := tys, call := callsL [(11, con11 F), (12, con12 F), (15, con15 F), (21, con21 F), (23, con23 F), (24, con24 F), (18, con18 F), (17, con17 F), (20, con20 F)], own := [24, 40], ntmps := (0, 127) }
theorem cs6 (F : Nat) : ∀ f c, (cx6 F).call f = some c → CMet Tryz.prog f c := callsL_sound (calls_cons (s11 F) (calls_cons (s12 F) (calls_cons (s15 F) (calls_cons (s21 F) (calls_cons (s23 F) (calls_cons (s24 F) (calls_cons (s18 F) (calls_cons (s17 F) (calls_cons (s20 F) calls_nil)))))))))
def sh6l14 : Shape := [(13, .d (.slice (.slice (.int .u8)))), (14, .d (.slice (.int .i64))), (15, .d (.int .i64)), (16, .d (.slice (.pair (.int .i64) (.pair (.int .i64) (.pair (.pair tyV (.pair tyV .unit)) .unit))))), (17, .d (.int .i64)), (19, .d (.int .i64)), (20, .d (.int .i64))]
def sh6l14o2 : Shape := [(13, .d (.slice (.slice (.int .u8)))), (14, .d (.slice (.int .i64))), (15, .d (.int .i64)), (16, .d (.slice (.pair (.int .i64) (.pair (.int .i64) (.pair (.pair tyV (.pair tyV .unit)) .unit))))), (17, .d (.int .i64)), (19, .d (.int .i64))]
def outs6l14 : Outs := [(4, sh6l14o2)]
def m6l14 (F : Nat) (n : Nat) {R : Type} (x : Shape.den sh6l14) (K : Ex → St → Option R) : Option R := law18_LinesCanonical_l14 F (fun y13 y14 y15 y16 y17 y19 => K (.exit 2) (enc sh6l14o2 (y13, y14, y15, y16, y17, y19, ()))) n x.1 x.2.1 x.2.2.1 x.2.2.2.1 x.2.2.2.2.1 x.2.2.2.2.2.1 x.2.2.2.2.2.2.1
def sh6l8 : Shape := [(13, .d (.slice (.slice (.int .u8)))), (14, .d (.slice (.int .i64))), (15, .d (.int .i64))]
def sh6l8o0 : Shape := []
def sh6l8oret : Shape := [(6, .d .bool)]
def outs6l8 : Outs := [(2, sh6l8o0), (1, sh6l8oret)]
def m6l8 (F : Nat) (n : Nat) {R : Type} (x : Shape.den sh6l8) (K : Ex → St → Option R) : Option R := law18_LinesCanonical_l8 F (K (.exit 0) (enc sh6l8o0 (()))) (fun y6 => K .ret (enc sh6l8oret (y6, ()))) n x.1 x.2.1 x.2.2.1
def hs6 (F : Nat) : Nat → Option (Hint (Dens sg6.rtys)) := hintL [(14, { sh := sh6l14, model := m6l14 F F }), (8, { sh := sh6l8, model := m6l8 F F })]
theorem ok6l14 (F : Nat) (fr : Frm) (hn : (cx6 F).ntmps = fr.n) (n : Nat) : MSound (R := (Dens sg6.rtys)) Tryz.prog fr (.loop (sub (bodyOf Tryz.f6) [1, 1, 1, 1, 1, 1, 1, 0, 1, 0, 0, 1, 0, 0, 1, 1, 1, 0, 1, 0, 0])) sh6l14 (m6l14 F n) :=
  loop_sound (cx := cx6 F) (hs := hs6 F) (js := hintL []) (outs := outs6l14) (conf_all _ rfl) (cs6 F) hn mix (m := fun n => m6l14 F n) (fun _ _ => rfl) (fun n x K => by kernel_rfl) (hok_of (l := []) (by kernel_rfl) obl_nil) n
theorem ok6l8 (F : Nat) (fr : Frm) (hn : (cx6 F).ntmps = fr.n) (n : Nat) : MSound (R := (Dens sg6.rtys)) Tryz.prog fr (.loop (sub (bodyOf Tryz.f6) [1, 1, 1, 1, 1, 1, 1, 0, 1, 0, 0])) sh6l8 (m6l8 F n) :=
  loop_sound (cx := cx6 F) (hs := hs6 F) (js := hintL []) (outs := outs6l8) (conf_all _ rfl) (cs6 F) hn mix (m := fun n => m6l8 F n) (fun _ _ => rfl) (fun n x K => by kernel_rfl) (hok_of (l := [((.loop (sub (bodyOf Tryz.f6) [1, 1, 1, 1, 1, 1, 1, 0, 1, 0, 0, 1, 0, 0, 1, 1, 1, 0, 1, 0, 0])), { sh := sh6l14, model := m6l14 F F })]) (by kernel_rfl) (obl_cons (ok6l14 F fr hn F) obl_nil)) n
theorem s6 (F : Nat) : CSound Tryz.prog 6 (con6 F) :=
  fn_sound (fn := Tryz.f6) (code := (bodyOf Tryz.f6)) (cx := cx6 F) (hs := hs6 F) (js := hintL []) Tryz.func6 (by kernel_rfl) (by kernel_rfl) (conf_all _ rfl) (cs6 F) mix (by kernel_rfl) (by kernel_rfl) (fun fr hn => (hok_of (l := [((.loop (sub (bodyOf Tryz.f6) [1, 1, 1, 1, 1, 1, 1, 0, 1, 0, 0])), { sh := sh6l8, model := m6l8 F F })]) (by kernel_rfl) (obl_cons (ok6l8 F fr hn F) obl_nil))) (fun x => by kernel_rfl)
end Go.Proofs.YtfmjokmjaghehaaGreat
