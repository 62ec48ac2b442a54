/- That the code computes the models. Written by program. -/
import Derived.Test.YtlgfiljadnafeaaModels
import Derived.Test.YtlgfiljadnafeaaLibA
import Derived.Test.YtlgfiljadnafeaaLibB
set_option linter.unusedVariables false
set_option linter.unusedSimpArgs false
namespace Go.Proofs.Ytlgfiljadnafeaa
open Go.Eng
def tys : List (Nat × TyRow) := [(2, ⟨(.int .i64), 0, 8⟩), (3, ⟨(.int .i64), 0, 8⟩), (4, ⟨.bool, 0, 1⟩), (5, ⟨(.int .u8), 0, 1⟩), (25, ⟨(.slice (.int .i64)), 3, 24⟩), (28, ⟨(.slice (.int .u64)), 48, 24⟩), (36, ⟨(.slice (.int .u8)), 5, 24⟩), (48, ⟨(.int .u64), 0, 8⟩), (49, ⟨(.arr 4 (.int .u64)), 0, 32⟩), (51, ⟨(.pair .bool (.pair (.arr 4 (.int .u64)) .unit)), 0, 40⟩), (61, ⟨(.int .i64), 0, 8⟩), (71, ⟨(.int .u64), 0, 8⟩), (75, ⟨(.slice (.slice (.int .u8))), 36, 24⟩), (78, ⟨(.pair (.slice (.int .i64)) (.pair (.int .i64) .unit)), 0, 32⟩), (81, ⟨(.slice (.int .u64)), 48, 24⟩), (88, ⟨(.arr 5 (.int .u64)), 0, 40⟩)]
theorem row2 (cx : Cx) (h : cx.types = tys) : RowOk Try.prog cx 2 ⟨(.int .i64), 0, 8⟩ :=
  ⟨⟨Try.t2, _, by kernel_rfl, by kernel_rfl, by kernel_rfl, rfl, by kernel_rfl⟩, Try.underlying2, (fun h => Bool.noConfusion h), by decide⟩
theorem row3 (cx : Cx) (h : cx.types = tys) : RowOk Try.prog cx 3 ⟨(.int .i64), 0, 8⟩ :=
  ⟨⟨Try.t3, _, by kernel_rfl, by kernel_rfl, by kernel_rfl, rfl, by kernel_rfl⟩, Try.underlying3, (fun h => Bool.noConfusion h), by decide⟩
theorem row4 (cx : Cx) (h : cx.types = tys) : RowOk Try.prog cx 4 ⟨.bool, 0, 1⟩ :=
  ⟨⟨Try.t4, _, by kernel_rfl, by kernel_rfl, by kernel_rfl, rfl, by kernel_rfl⟩, Try.underlying4, (fun h => Bool.noConfusion h), by decide⟩
theorem row5 (cx : Cx) (h : cx.types = tys) : RowOk Try.prog cx 5 ⟨(.int .u8), 0, 1⟩ :=
  ⟨⟨Try.t5, _, by kernel_rfl, by kernel_rfl, by kernel_rfl, rfl, by kernel_rfl⟩, Try.underlying5, (fun h => Bool.noConfusion h), by decide⟩
theorem row25 (cx : Cx) (h : cx.types = tys) : RowOk Try.prog cx 25 ⟨(.slice (.int .i64)), 3, 24⟩ :=
  ⟨⟨Try.t25, _, by kernel_rfl, by kernel_rfl, by kernel_rfl, rfl, by kernel_rfl⟩, ⟨Try.underlying25, ⟨⟨(.int .i64), 0, 8⟩, by unfold Cx.row?; rw [h]; kernel_rfl, rfl⟩⟩, (fun h => Bool.noConfusion h), by decide⟩
theorem row28 (cx : Cx) (h : cx.types = tys) : RowOk Try.prog cx 28 ⟨(.slice (.int .u64)), 48, 24⟩ :=
  ⟨⟨Try.t28, _, by kernel_rfl, by kernel_rfl, by kernel_rfl, rfl, by kernel_rfl⟩, ⟨Try.underlying28, ⟨⟨(.int .u64), 0, 8⟩, by unfold Cx.row?; rw [h]; kernel_rfl, rfl⟩⟩, (fun h => Bool.noConfusion h), by decide⟩
theorem row36 (cx : Cx) (h : cx.types = tys) : RowOk Try.prog cx 36 ⟨(.slice (.int .u8)), 5, 24⟩ :=
  ⟨⟨Try.t36, _, by kernel_rfl, by kernel_rfl, by kernel_rfl, rfl, by kernel_rfl⟩, ⟨Try.underlying36, ⟨⟨(.int .u8), 0, 1⟩, by unfold Cx.row?; rw [h]; kernel_rfl, rfl⟩⟩, (fun h => Bool.noConfusion h), by decide⟩
theorem row48 (cx : Cx) (h : cx.types = tys) : RowOk Try.prog cx 48 ⟨(.int .u64), 0, 8⟩ :=
  ⟨⟨Try.t48, _, by kernel_rfl, by kernel_rfl, by kernel_rfl, rfl, by kernel_rfl⟩, Try.underlying48, (fun h => Bool.noConfusion h), by decide⟩
theorem row49 (cx : Cx) (h : cx.types = tys) : RowOk Try.prog cx 49 ⟨(.arr 4 (.int .u64)), 0, 32⟩ :=
  ⟨⟨Try.t49, _, by kernel_rfl, by kernel_rfl, by kernel_rfl, rfl, by kernel_rfl⟩, ⟨48, Try.underlying49, ⟨⟨(.int .u64), 0, 8⟩, by unfold Cx.row?; rw [h]; kernel_rfl, rfl⟩⟩, (fun _ => by kernel_rfl), by decide⟩
theorem row51 (cx : Cx) (h : cx.types = tys) : RowOk Try.prog cx 51 ⟨(.pair .bool (.pair (.arr 4 (.int .u64)) .unit)), 0, 40⟩ :=
  ⟨⟨Try.t51, _, by kernel_rfl, by kernel_rfl, by kernel_rfl, rfl, by kernel_rfl⟩, ⟨_, Try.underlying51, ⟨rfl, ⟨⟨.bool, 0, 1⟩, by unfold Cx.row?; rw [h]; kernel_rfl, rfl⟩, by decide, by decide, ⟨rfl, ⟨⟨(.arr 4 (.int .u64)), 0, 32⟩, by unfold Cx.row?; rw [h]; kernel_rfl, rfl⟩, by decide, by decide, trivial⟩⟩, by kernel_rfl⟩, (fun _ => by kernel_rfl), by decide⟩
theorem row61 (cx : Cx) (h : cx.types = tys) : RowOk Try.prog cx 61 ⟨(.int .i64), 0, 8⟩ :=
  ⟨⟨Try.t61, _, by kernel_rfl, by kernel_rfl, by kernel_rfl, rfl, by kernel_rfl⟩, Try.underlying61, (fun h => Bool.noConfusion h), by decide⟩
theorem row71 (cx : Cx) (h : cx.types = tys) : RowOk Try.prog cx 71 ⟨(.int .u64), 0, 8⟩ :=
  ⟨⟨Try.t71, _, by kernel_rfl, by kernel_rfl, by kernel_rfl, rfl, by kernel_rfl⟩, Try.underlying71, (fun h => Bool.noConfusion h), by decide⟩
theorem row75 (cx : Cx) (h : cx.types = tys) : RowOk Try.prog cx 75 ⟨(.slice (.slice (.int .u8))), 36, 24⟩ :=
  ⟨⟨Try.t75, _, by kernel_rfl, by kernel_rfl, by kernel_rfl, rfl, by kernel_rfl⟩, ⟨Try.underlying75, ⟨⟨(.slice (.int .u8)), 5, 24⟩, by unfold Cx.row?; rw [h]; kernel_rfl, rfl⟩⟩, (fun h => Bool.noConfusion h), by decide⟩
theorem row78 (cx : Cx) (h : cx.types = tys) : RowOk Try.prog cx 78 ⟨(.pair (.slice (.int .i64)) (.pair (.int .i64) .unit)), 0, 32⟩ :=
  ⟨⟨Try.t78, _, by kernel_rfl, by kernel_rfl, by kernel_rfl, rfl, by kernel_rfl⟩, ⟨_, Try.underlying78, ⟨rfl, ⟨⟨(.slice (.int .i64)), 3, 24⟩, by unfold Cx.row?; rw [h]; kernel_rfl, rfl⟩, by decide, by decide, ⟨rfl, ⟨⟨(.int .i64), 0, 8⟩, by unfold Cx.row?; rw [h]; kernel_rfl, rfl⟩, by decide, by decide, trivial⟩⟩, by kernel_rfl⟩, (fun _ => by kernel_rfl), by decide⟩
theorem row81 (cx : Cx) (h : cx.types = tys) : RowOk Try.prog cx 81 ⟨(.slice (.int .u64)), 48, 24⟩ :=
  ⟨⟨Try.t81, _, by kernel_rfl, by kernel_rfl, by kernel_rfl, rfl, by kernel_rfl⟩, ⟨Try.underlying81, ⟨⟨(.int .u64), 0, 8⟩, by unfold Cx.row?; rw [h]; kernel_rfl, rfl⟩⟩, (fun h => Bool.noConfusion h), by decide⟩
theorem row88 (cx : Cx) (h : cx.types = tys) : RowOk Try.prog cx 88 ⟨(.arr 5 (.int .u64)), 0, 40⟩ :=
  ⟨⟨Try.t88, _, by kernel_rfl, by kernel_rfl, by kernel_rfl, rfl, by kernel_rfl⟩, ⟨48, Try.underlying88, ⟨⟨(.int .u64), 0, 8⟩, by unfold Cx.row?; rw [h]; kernel_rfl, rfl⟩⟩, (fun _ => by kernel_rfl), by decide⟩
theorem conf_all (cx : Cx) (h : cx.types = tys) : Conf Try.prog cx := conf_of h (rows_cons (row2 cx h) (rows_cons (row3 cx h) (rows_cons (row4 cx h) (rows_cons (row5 cx h) (rows_cons (row25 cx h) (rows_cons (row28 cx h) (rows_cons (row36 cx h) (rows_cons (row48 cx h) (rows_cons (row49 cx h) (rows_cons (row51 cx h) (rows_cons (row61 cx h) (rows_cons (row71 cx h) (rows_cons (row75 cx h) (rows_cons (row78 cx h) (rows_cons (row81 cx h) (rows_cons (row88 cx h) rows_nil))))))))))))))))
theorem mix : Try.prog.follows .mixedOrders = true := by kernel_rfl
def con58 (F : Nat) : Contract := mkCon sgLen64 fun x => bits_Len64 F x.1
theorem s58 (F : Nat) : CSound Try.prog 58 (con58 F) := len64_sound F (by kernel_rfl) fun x w h0 h1 => bits_Len64_calls x w h0 h1
def con89 (F : Nat) : Contract := mkCon sgCarry fun x => bits_Add64 F x.1 x.2.1 x.2.2.1
theorem s89 (F : Nat) : CExt Try.prog 89 (con89 F) := add64_ext F Try.func89 (by kernel_rfl) (by kernel_rfl) (by kernel_rfl) (by kernel_rfl)
def con90 (F : Nat) : Contract := mkCon sgCarry fun x => bits_Sub64 F x.1 x.2.1 x.2.2.1
theorem s90 (F : Nat) : CExt Try.prog 90 (con90 F) := sub64_ext F Try.func90 (by kernel_rfl) (by kernel_rfl) (by kernel_rfl) (by kernel_rfl)
def con65 (F : Nat) : Contract := mkCon (sgGrow (.int .u8) 5) fun x => slices_Grow_byte F x.1 x.2.1
def cx65 : Cx := { types := tys, call := callsL [], own := [], ntmps := (0, 0) }
theorem s65 (F : Nat) : CSound Try.prog 65 (con65 F) := grow_sound (cx := cx65) (conf_all _ rfl) (by kernel_rfl : cx65.row? 5 = some ⟨(.int .u8), 0, 1⟩) rfl (by kernel_rfl) (by decide) (fun base l c n w => slices_Grow_byte_room base l c n w) (fun i0 z hi hz hs base l c n cs w => slices_Grow_byte_grow i0 z hi hz hs base l c n cs w)
def sg15 : Sig := { modes := [.ro, .ro], sh := [(0, .d (.int .i64)), (1, .d (.int .i64))], keeps := true, fresh := none, rtys := [(.int .i64)] }
def con15 (F : Nat) : Contract := mkCon sg15 fun x => made_Mod F x.1 x.2.1
def cx15 (F : Nat) : Cx := { types := tys, call := callsL [], own := [], ntmps := (0, 16) }
theorem cs15 (F : Nat) : ∀ f c, (cx15 F).call f = some c → CMet Try.prog f c := callsL_sound calls_nil
def hs15 (F : Nat) : Nat → Option (Hint (Dens sg15.rtys)) := hintL []
def js15 (F : Nat) : Nat → Option (Hint (Dens sg15.rtys)) := hintL []
theorem s15 (F : Nat) : CSound Try.prog 15 (con15 F) :=
  fn_sound (fn := Try.f15) (code := (bodyOf Try.f15)) (cx := cx15 F) (hs := hs15 F) (js := js15 F) Try.func15 (by kernel_rfl) (by kernel_rfl) (conf_all _ rfl) (cs15 F) mix (by kernel_rfl) (by kernel_rfl) (fun fr hn => (hok_of (l := []) (by kernel_rfl) obl_nil)) (fun x => by kernel_rfl)
def sg18 : Sig := { modes := [.ro, .ro], sh := [(0, .d (.int .i64)), (1, .d (.int .i64))], keeps := false, fresh := some (0, 3), rtys := [(.slice (.int .i64)), .bool] }
def con18 (F : Nat) : Contract := mkCon sg18 fun x => buckets_Bounds F x.1 x.2.1
def cx18 (F : Nat) : Cx := { types := tys, call := callsL [], own := [4, 21], ntmps := (0, 40) }
theorem cs18 (F : Nat) : ∀ f c, (cx18 F).call f = some c → CMet Try.prog f c := callsL_sound calls_nil
def sh18l5 : Shape := [(0, .d (.int .i64)), (1, .d (.int .i64)), (6, .own 6 (.int .i64) 3), (23, .d (.int .i64)), (24, .d (.int .i64))]
def sh18l5o0 : Shape := [(6, .own 6 (.int .i64) 3)]
def outs18l5 : Outs := [(2, sh18l5o0)]
def m18l5 (F : Nat) (n : Nat) {R : Type} (x : Shape.den sh18l5) (K : Ex → St → Option R) : Option R := buckets_Bounds_l5 F (fun y6 => K (.exit 0) (enc sh18l5o0 (y6, ()))) n x.1 x.2.1 x.2.2.1 x.2.2.2.1 x.2.2.2.2.1
def hs18 (F : Nat) : Nat → Option (Hint (Dens sg18.rtys)) := hintL [(5, { sh := sh18l5, model := m18l5 F F })]
def js18 (F : Nat) : Nat → Option (Hint (Dens sg18.rtys)) := hintL []
theorem ok18l5 (F : Nat) (fr : Frm) (hn : (cx18 F).ntmps = fr.n) (n : Nat) : MSound (R := (Dens sg18.rtys)) Try.prog fr (.loop (sub (bodyOf Try.f18) [1, 1, 1, 0, 1, 0, 0])) sh18l5 (m18l5 F n) :=
  loop_sound (cx := cx18 F) (hs := hs18 F) (js := js18 F) (outs := outs18l5) (conf_all _ rfl) (cs18 F) hn mix (m := fun n => m18l5 F n) (fun _ _ => rfl) (fun n x K => by kernel_rfl) (hok_of (l := []) (by kernel_rfl) obl_nil) n
theorem s18 (F : Nat) : CSound Try.prog 18 (con18 F) :=
  fn_sound (fn := Try.f18) (code := (bodyOf Try.f18)) (cx := cx18 F) (hs := hs18 F) (js := js18 F) Try.func18 (by kernel_rfl) (by kernel_rfl) (conf_all _ rfl) (cs18 F) mix (by kernel_rfl) (by kernel_rfl) (fun fr hn => (hok_of (l := [((.loop (sub (bodyOf Try.f18) [1, 1, 1, 0, 1, 0, 0])), { sh := sh18l5, model := m18l5 F F })]) (by kernel_rfl) (obl_cons (ok18l5 F fr hn F) obl_nil))) (fun x => by kernel_rfl)
def sg16 : Sig := { modes := [], sh := [], keeps := true, fresh := none, rtys := [.bool] }
def con16 (F : Nat) : Contract := mkCon sg16 fun x => law24_known F 
def cx16 (F : Nat) : Cx := { types := tys, call := callsL [(18, con18 F)], own := [], ntmps := (0, 37) }
theorem cs16 (F : Nat) : ∀ f c, (cx16 F).call f = some c → CMet Try.prog f c := callsL_sound (calls_cons (s18 F) calls_nil)
def hs16 (F : Nat) : Nat → Option (Hint (Dens sg16.rtys)) := hintL []
def js16 (F : Nat) : Nat → Option (Hint (Dens sg16.rtys)) := hintL []
theorem s16 (F : Nat) : CSound Try.prog 16 (con16 F) :=
  fn_sound (fn := Try.f16) (code := (bodyOf Try.f16)) (cx := cx16 F) (hs := hs16 F) (js := js16 F) Try.func16 (by kernel_rfl) (by kernel_rfl) (conf_all _ rfl) (cs16 F) mix (by kernel_rfl) (by kernel_rfl) (fun fr hn => (hok_of (l := []) (by kernel_rfl) obl_nil)) (fun x => by kernel_rfl)
def sg56 : Sig := { modes := [.ro, .ro], sh := [(0, .d (.int .i64)), (1, .d (.int .i64))], keeps := false, fresh := some (0, 3), rtys := [(.slice (.int .i64)), .bool] }
def con56 (F : Nat) : Contract := mkCon sg56 fun x => ref24_Bounds F x.1 x.2.1
def cx56 (F : Nat) : Cx := { types := tys, call := callsL [], own := [4, 6], ntmps := (0, 37) }
theorem cs56 (F : Nat) : ∀ f c, (cx56 F).call f = some c → CMet Try.prog f c := callsL_sound calls_nil
def sh56l5 : Shape := [(0, .d (.int .i64)), (1, .d (.int .i64)), (6, .own 6 (.int .i64) 3), (7, .d (.int .i64))]
def sh56l5o0 : Shape := [(6, .own 6 (.int .i64) 3)]
def outs56l5 : Outs := [(2, sh56l5o0)]
def m56l5 (F : Nat) (n : Nat) {R : Type} (x : Shape.den sh56l5) (K : Ex → St → Option R) : Option R := ref24_Bounds_l5 F (fun y6 => K (.exit 0) (enc sh56l5o0 (y6, ()))) n x.1 x.2.1 x.2.2.1 x.2.2.2.1
def hs56 (F : Nat) : Nat → Option (Hint (Dens sg56.rtys)) := hintL [(5, { sh := sh56l5, model := m56l5 F F })]
def js56 (F : Nat) : Nat → Option (Hint (Dens sg56.rtys)) := hintL []
theorem ok56l5 (F : Nat) (fr : Frm) (hn : (cx56 F).ntmps = fr.n) (n : Nat) : MSound (R := (Dens sg56.rtys)) Try.prog fr (.loop (sub (bodyOf Try.f56) [1, 1, 1, 0, 1, 0, 0])) sh56l5 (m56l5 F n) :=
  loop_sound (cx := cx56 F) (hs := hs56 F) (js := js56 F) (outs := outs56l5) (conf_all _ rfl) (cs56 F) hn mix (m := fun n => m56l5 F n) (fun _ _ => rfl) (fun n x K => by kernel_rfl) (hok_of (l := []) (by kernel_rfl) obl_nil) n
theorem s56 (F : Nat) : CSound Try.prog 56 (con56 F) :=
  fn_sound (fn := Try.f56) (code := (bodyOf Try.f56)) (cx := cx56 F) (hs := hs56 F) (js := js56 F) Try.func56 (by kernel_rfl) (by kernel_rfl) (conf_all _ rfl) (cs56 F) mix (by kernel_rfl) (by kernel_rfl) (fun fr hn => (hok_of (l := [((.loop (sub (bodyOf Try.f56) [1, 1, 1, 0, 1, 0, 0])), { sh := sh56l5, model := m56l5 F F })]) (by kernel_rfl) (obl_cons (ok56l5 F fr hn F) obl_nil))) (fun x => by kernel_rfl)
def sg17 : Sig := { modes := [.ro, .ro], sh := [(0, .d (.int .i64)), (1, .d (.int .i64))], keeps := true, fresh := none, rtys := [.bool] }
def con17 (F : Nat) : Contract := mkCon sg17 fun x => law24_alike F x.1 x.2.1
def cx17 (F : Nat) : Cx := { types := tys, call := callsL [(18, con18 F), (56, con56 F)], own := [], ntmps := (0, 47) }
theorem cs17 (F : Nat) : ∀ f c, (cx17 F).call f = some c → CMet Try.prog f c := callsL_sound (calls_cons (s18 F) (calls_cons (s56 F) calls_nil))
def sh17l6 : Shape := [(5, .d (.slice (.int .i64))), (7, .d (.slice (.int .i64))), (9, .d (.int .i64))]
def sh17l6o0 : Shape := []
def sh17l6oret : Shape := [(4, .d .bool)]
def outs17l6 : Outs := [(2, sh17l6o0), (1, sh17l6oret)]
def m17l6 (F : Nat) (n : Nat) {R : Type} (x : Shape.den sh17l6) (K : Ex → St → Option R) : Option R := law24_alike_l6 F (K (.exit 0) (enc sh17l6o0 (()))) (fun y4 => K .ret (enc sh17l6oret (y4, ()))) n x.1 x.2.1 x.2.2.1
def hs17 (F : Nat) : Nat → Option (Hint (Dens sg17.rtys)) := hintL [(6, { sh := sh17l6, model := m17l6 F F })]
def js17 (F : Nat) : Nat → Option (Hint (Dens sg17.rtys)) := hintL []
theorem ok17l6 (F : Nat) (fr : Frm) (hn : (cx17 F).ntmps = fr.n) (n : Nat) : MSound (R := (Dens sg17.rtys)) Try.prog fr (.loop (sub (bodyOf Try.f17) [1, 1, 1, 1, 0, 1, 0, 0])) sh17l6 (m17l6 F n) :=
  loop_sound (cx := cx17 F) (hs := hs17 F) (js := js17 F) (outs := outs17l6) (conf_all _ rfl) (cs17 F) hn mix (m := fun n => m17l6 F n) (fun _ _ => rfl) (fun n x K => by kernel_rfl) (hok_of (l := []) (by kernel_rfl) obl_nil) n
theorem s17 (F : Nat) : CSound Try.prog 17 (con17 F) :=
  fn_sound (fn := Try.f17) (code := (bodyOf Try.f17)) (cx := cx17 F) (hs := hs17 F) (js := js17 F) Try.func17 (by kernel_rfl) (by kernel_rfl) (conf_all _ rfl) (cs17 F) mix (by kernel_rfl) (by kernel_rfl) (fun fr hn => (hok_of (l := [((.loop (sub (bodyOf Try.f17) [1, 1, 1, 1, 0, 1, 0, 0])), { sh := sh17l6, model := m17l6 F F })]) (by kernel_rfl) (obl_cons (ok17l6 F fr hn F) obl_nil))) (fun x => by kernel_rfl)
def sg3 : Sig := { modes := [.ro, .ro], sh := [(0, .d (.int .i64)), (1, .d (.int .i64))], keeps := true, fresh := none, rtys := [.bool] }
def con3 (F : Nat) : Contract := mkCon sg3 fun x => law24_BucketsForms F x.1 x.2.1
def cx3 (F : Nat) : Cx := { types := tys, call := callsL [(15, con15 F), (16, con16 F), (17, con17 F)], own := [], ntmps := (0, 41) }
theorem cs3 (F : Nat) : ∀ f c, (cx3 F).call f = some c → CMet Try.prog f c := callsL_sound (calls_cons (s15 F) (calls_cons (s16 F) (calls_cons (s17 F) calls_nil)))
def sh3j7 : Shape := [(0, .d (.int .i64)), (1, .d (.int .i64)), (5, .d (.int .i64)), (6, .d (.int .i64))]
def sh3j7oret : Shape := [(4, .d .bool)]
def outs3j7 : Outs := [(1, sh3j7oret)]
def m3j7 (F : Nat) {R : Type} (x : Shape.den sh3j7) (K : Ex → St → Option R) : Option R := law24_BucketsForms_j7 F (fun y4 => K .ret (enc sh3j7oret (y4, ()))) x.1 x.2.1 x.2.2.1 x.2.2.2.1
def sh3j5 : Shape := [(0, .d (.int .i64)), (1, .d (.int .i64)), (5, .d (.int .i64)), (6, .d (.int .i64))]
def sh3j5oret : Shape := [(4, .d .bool)]
def outs3j5 : Outs := [(1, sh3j5oret)]
def m3j5 (F : Nat) {R : Type} (x : Shape.den sh3j5) (K : Ex → St → Option R) : Option R := law24_BucketsForms_j5 F (fun y4 => K .ret (enc sh3j5oret (y4, ()))) x.1 x.2.1 x.2.2.1 x.2.2.2.1
def hs3 (F : Nat) : Nat → Option (Hint (Dens sg3.rtys)) := hintL []
def js3 (F : Nat) : Nat → Option (Hint (Dens sg3.rtys)) := hintL [(7, { sh := sh3j7, model := m3j7 F }), (5, { sh := sh3j5, model := m3j5 F })]
theorem ok3j7 (F : Nat) (fr : Frm) (hn : (cx3 F).ntmps = fr.n) : MSound (R := (Dens sg3.rtys)) Try.prog fr (sub (bodyOf Try.f3) [1, 1, 1, 1, 1]) sh3j7 (m3j7 F) :=
  join_sound (cx := cx3 F) (hs := hs3 F) (js := js3 F) (outs := outs3j7) (conf_all _ rfl) (cs3 F) hn mix (fun x K => by kernel_rfl) (hok_of (l := []) (by kernel_rfl) obl_nil)
theorem ok3j5 (F : Nat) (fr : Frm) (hn : (cx3 F).ntmps = fr.n) : MSound (R := (Dens sg3.rtys)) Try.prog fr (sub (bodyOf Try.f3) [1, 1, 1, 1]) sh3j5 (m3j5 F) :=
  join_sound (cx := cx3 F) (hs := hs3 F) (js := js3 F) (outs := outs3j5) (conf_all _ rfl) (cs3 F) hn mix (fun x K => by kernel_rfl) (hok_of (l := [((sub (bodyOf Try.f3) [1, 1, 1, 1, 1]), { sh := sh3j7, model := m3j7 F })]) (by kernel_rfl) (obl_cons (ok3j7 F fr hn) obl_nil))
theorem s3 (F : Nat) : CSound Try.prog 3 (con3 F) :=
  fn_sound (fn := Try.f3) (code := (bodyOf Try.f3)) (cx := cx3 F) (hs := hs3 F) (js := js3 F) Try.func3 (by kernel_rfl) (by kernel_rfl) (conf_all _ rfl) (cs3 F) mix (by kernel_rfl) (by kernel_rfl) (fun fr hn => (hok_of (l := [((sub (bodyOf Try.f3) [1, 1, 1, 1]), { sh := sh3j5, model := m3j5 F })]) (by kernel_rfl) (obl_cons (ok3j5 F fr hn) obl_nil))) (fun x => by kernel_rfl)
def sg19 : Sig := { modes := [.ro], sh := [(0, .d (.slice (.int .i64)))], keeps := false, fresh := some (0, 0), rtys := [(.pair (.slice (.int .i64)) (.pair (.int .i64) .unit))] }
def con19 (F : Nat) : Contract := mkCon sg19 fun x => made_New F x.1
def cx19 (F : Nat) : Cx := { types := tys, call := callsL [], own := [], ntmps := (0, 6) }
theorem cs19 (F : Nat) : ∀ f c, (cx19 F).call f = some c → CMet Try.prog f c := callsL_sound calls_nil
def hs19 (F : Nat) : Nat → Option (Hint (Dens sg19.rtys)) := hintL []
def js19 (F : Nat) : Nat → Option (Hint (Dens sg19.rtys)) := hintL []
theorem s19 (F : Nat) : CSound Try.prog 19 (con19 F) :=
  fn_sound (fn := Try.f19) (code := (bodyOf Try.f19)) (cx := cx19 F) (hs := hs19 F) (js := js19 F) Try.func19 (by kernel_rfl) (by kernel_rfl) (conf_all _ rfl) (cs19 F) mix (by kernel_rfl) (by kernel_rfl) (fun fr hn => (hok_of (l := []) (by kernel_rfl) obl_nil)) (fun x => by kernel_rfl)
def sg24 : Sig := { modes := [.bor, .ro], sh := [(0, .box 0 (.pair (.slice (.int .i64)) (.pair (.int .i64) .unit))), (1, .d (.int .i64))], keeps := false, fresh := none, rtys := [(.pair (.slice (.int .i64)) (.pair (.int .i64) .unit)), (.int .i64)] }
def con24 (F : Nat) : Contract := mkCon sg24 fun x => made_Tape_Next F x.1 x.2.1
def cx24 (F : Nat) : Cx := { types := tys, call := callsL [(15, con15 F)], own := [], ntmps := (1, 35) }
theorem cs24 (F : Nat) : ∀ f c, (cx24 F).call f = some c → CMet Try.prog f c := callsL_sound (calls_cons (s15 F) calls_nil)
def hs24 (F : Nat) : Nat → Option (Hint (Dens sg24.rtys)) := hintL []
def js24 (F : Nat) : Nat → Option (Hint (Dens sg24.rtys)) := hintL []
theorem s24 (F : Nat) : CSound Try.prog 24 (con24 F) :=
  fn_sound (fn := Try.f24) (code := (bodyOf Try.f24)) (cx := cx24 F) (hs := hs24 F) (js := js24 F) Try.func24 (by kernel_rfl) (by kernel_rfl) (conf_all _ rfl) (cs24 F) mix (by kernel_rfl) (by kernel_rfl) (fun fr hn => (hok_of (l := []) (by kernel_rfl) obl_nil)) (fun x => by kernel_rfl)
def sg48 : Sig := { modes := [.bor], sh := [(0, .box 0 (.pair (.slice (.int .i64)) (.pair (.int .i64) .unit)))], keeps := false, fresh := none, rtys := [(.pair (.slice (.int .i64)) (.pair (.int .i64) .unit)), (.int .u64)] }
def con48 (F : Nat) : Contract := mkCon sg48 fun x => made_Tape_Word F x.1
def cx48 (F : Nat) : Cx := { types := tys, call := callsL [(24, con24 F)], own := [], ntmps := (1, 16) }
theorem cs48 (F : Nat) : ∀ f c, (cx48 F).call f = some c → CMet Try.prog f c := callsL_sound (calls_cons (s24 F) calls_nil)
def sh48l3 : Shape := [(0, .box 0 (.pair (.slice (.int .i64)) (.pair (.int .i64) .unit))), (3, .d (.int .u64)), (4, .d (.int .i64))]
def sh48l3o0 : Shape := [(0, .box 0 (.pair (.slice (.int .i64)) (.pair (.int .i64) .unit))), (3, .d (.int .u64))]
def outs48l3 : Outs := [(2, sh48l3o0)]
def m48l3 (F : Nat) (n : Nat) {R : Type} (x : Shape.den sh48l3) (K : Ex → St → Option R) : Option R := made_Tape_Word_l3 F (fun y0 y3 => K (.exit 0) (enc sh48l3o0 (y0, y3, ()))) n x.1 x.2.1 x.2.2.1
def hs48 (F : Nat) : Nat → Option (Hint (Dens sg48.rtys)) := hintL [(3, { sh := sh48l3, model := m48l3 F F })]
def js48 (F : Nat) : Nat → Option (Hint (Dens sg48.rtys)) := hintL []
theorem ok48l3 (F : Nat) (fr : Frm) (hn : (cx48 F).ntmps = fr.n) (n : Nat) : MSound (R := (Dens sg48.rtys)) Try.prog fr (.loop (sub (bodyOf Try.f48) [1, 1, 0, 1, 0, 0])) sh48l3 (m48l3 F n) :=
  loop_sound (cx := cx48 F) (hs := hs48 F) (js := js48 F) (outs := outs48l3) (conf_all _ rfl) (cs48 F) hn mix (m := fun n => m48l3 F n) (fun _ _ => rfl) (fun n x K => by kernel_rfl) (hok_of (l := []) (by kernel_rfl) obl_nil) n
theorem s48 (F : Nat) : CSound Try.prog 48 (con48 F) :=
  fn_sound (fn := Try.f48) (code := (bodyOf Try.f48)) (cx := cx48 F) (hs := hs48 F) (js := js48 F) Try.func48 (by kernel_rfl) (by kernel_rfl) (conf_all _ rfl) (cs48 F) mix (by kernel_rfl) (by kernel_rfl) (fun fr hn => (hok_of (l := [((.loop (sub (bodyOf Try.f48) [1, 1, 0, 1, 0, 0])), { sh := sh48l3, model := m48l3 F F })]) (by kernel_rfl) (obl_cons (ok48l3 F fr hn F) obl_nil))) (fun x => by kernel_rfl)
def sg20 : Sig := { modes := [.bor], sh := [(0, .box 0 (.pair (.slice (.int .i64)) (.pair (.int .i64) .unit)))], keeps := false, fresh := some (0, 48), rtys := [(.pair (.slice (.int .i64)) (.pair (.int .i64) .unit)), (.slice (.int .u64))] }
def con20 (F : Nat) : Contract := mkCon sg20 fun x => law08_list F x.1
def cx20 (F : Nat) : Cx := { types := tys, call := callsL [(24, con24 F), (48, con48 F)], own := [2, 3], ntmps := (1, 23) }
theorem cs20 (F : Nat) : ∀ f c, (cx20 F).call f = some c → CMet Try.prog f c := callsL_sound (calls_cons (s24 F) (calls_cons (s48 F) calls_nil))
def sh20l4 : Shape := [(0, .box 0 (.pair (.slice (.int .i64)) (.pair (.int .i64) .unit))), (3, .own 3 (.int .u64) 48), (4, .d (.int .u64)), (5, .d (.int .i64))]
def sh20l4o0 : Shape := [(0, .box 0 (.pair (.slice (.int .i64)) (.pair (.int .i64) .unit))), (3, .own 3 (.int .u64) 48)]
def outs20l4 : Outs := [(2, sh20l4o0)]
def m20l4 (F : Nat) (n : Nat) {R : Type} (x : Shape.den sh20l4) (K : Ex → St → Option R) : Option R := law08_list_l4 F (fun y0 y3 => K (.exit 0) (enc sh20l4o0 (y0, y3, ()))) n x.1 x.2.1 x.2.2.1 x.2.2.2.1
def hs20 (F : Nat) : Nat → Option (Hint (Dens sg20.rtys)) := hintL [(4, { sh := sh20l4, model := m20l4 F F })]
def js20 (F : Nat) : Nat → Option (Hint (Dens sg20.rtys)) := hintL []
theorem ok20l4 (F : Nat) (fr : Frm) (hn : (cx20 F).ntmps = fr.n) (n : Nat) : MSound (R := (Dens sg20.rtys)) Try.prog fr (.loop (sub (bodyOf Try.f20) [1, 1, 1, 0, 1, 0, 0])) sh20l4 (m20l4 F n) :=
  loop_sound (cx := cx20 F) (hs := hs20 F) (js := js20 F) (outs := outs20l4) (conf_all _ rfl) (cs20 F) hn mix (m := fun n => m20l4 F n) (fun _ _ => rfl) (fun n x K => by kernel_rfl) (hok_of (l := []) (by kernel_rfl) obl_nil) n
theorem s20 (F : Nat) : CSound Try.prog 20 (con20 F) :=
  fn_sound (fn := Try.f20) (code := (bodyOf Try.f20)) (cx := cx20 F) (hs := hs20 F) (js := js20 F) Try.func20 (by kernel_rfl) (by kernel_rfl) (conf_all _ rfl) (cs20 F) mix (by kernel_rfl) (by kernel_rfl) (fun fr hn => (hok_of (l := [((.loop (sub (bodyOf Try.f20) [1, 1, 1, 0, 1, 0, 0])), { sh := sh20l4, model := m20l4 F F })]) (by kernel_rfl) (obl_cons (ok20l4 F fr hn F) obl_nil))) (fun x => by kernel_rfl)
def sg30 : Sig := { modes := [.ro], sh := [(0, .d (.slice (.int .u64)))], keeps := true, fresh := none, rtys := [(.int .i64)] }
def con30 (F : Nat) : Contract := mkCon sg30 fun x => bitpack_Width F x.1
def cx30 (F : Nat) : Cx := { types := tys, call := callsL [(58, con58 F)], own := [], ntmps := (0, 18) }
theorem cs30 (F : Nat) : ∀ f c, (cx30 F).call f = some c → CMet Try.prog f c := callsL_sound (calls_cons (s58 F) calls_nil)
def sh30l3 : Shape := [(3, .d (.int .u64)), (6, .d (.slice (.int .u64))), (7, .d (.int .i64)), (8, .d (.int .i64))]
def sh30l3o0 : Shape := [(3, .d (.int .u64))]
def outs30l3 : Outs := [(2, sh30l3o0)]
def m30l3 (F : Nat) (n : Nat) {R : Type} (x : Shape.den sh30l3) (K : Ex → St → Option R) : Option R := bitpack_Width_l3 F (fun y3 => K (.exit 0) (enc sh30l3o0 (y3, ()))) n x.1 x.2.1 x.2.2.1 x.2.2.2.1
def hs30 (F : Nat) : Nat → Option (Hint (Dens sg30.rtys)) := hintL [(3, { sh := sh30l3, model := m30l3 F F })]
def js30 (F : Nat) : Nat → Option (Hint (Dens sg30.rtys)) := hintL []
theorem ok30l3 (F : Nat) (fr : Frm) (hn : (cx30 F).ntmps = fr.n) (n : Nat) : MSound (R := (Dens sg30.rtys)) Try.prog fr (.loop (sub (bodyOf Try.f30) [1, 1, 0, 1, 0, 0])) sh30l3 (m30l3 F n) :=
  loop_sound (cx := cx30 F) (hs := hs30 F) (js := js30 F) (outs := outs30l3) (conf_all _ rfl) (cs30 F) hn mix (m := fun n => m30l3 F n) (fun _ _ => rfl) (fun n x K => by kernel_rfl) (hok_of (l := []) (by kernel_rfl) obl_nil) n
theorem s30 (F : Nat) : CSound Try.prog 30 (con30 F) :=
  fn_sound (fn := Try.f30) (code := (bodyOf Try.f30)) (cx := cx30 F) (hs := hs30 F) (js := js30 F) Try.func30 (by kernel_rfl) (by kernel_rfl) (conf_all _ rfl) (cs30 F) mix (by kernel_rfl) (by kernel_rfl) (fun fr hn => (hok_of (l := [((.loop (sub (bodyOf Try.f30) [1, 1, 0, 1, 0, 0])), { sh := sh30l3, model := m30l3 F F })]) (by kernel_rfl) (obl_cons (ok30l3 F fr hn F) obl_nil))) (fun x => by kernel_rfl)
def sg25 : Sig := { modes := [.ro, .ro], sh := [(0, .d (.int .i64)), (1, .d (.int .i64))], keeps := true, fresh := none, rtys := [(.int .i64)] }
def con25 (F : Nat) : Contract := mkCon sg25 fun x => bitpack_Bytes F x.1 x.2.1
def cx25 (F : Nat) : Cx := { types := tys, call := callsL [], own := [], ntmps := (0, 24) }
theorem cs25 (F : Nat) : ∀ f c, (cx25 F).call f = some c → CMet Try.prog f c := callsL_sound calls_nil
def hs25 (F : Nat) : Nat → Option (Hint (Dens sg25.rtys)) := hintL []
def js25 (F : Nat) : Nat → Option (Hint (Dens sg25.rtys)) := hintL []
theorem s25 (F : Nat) : CSound Try.prog 25 (con25 F) :=
  fn_sound (fn := Try.f25) (code := (bodyOf Try.f25)) (cx := cx25 F) (hs := hs25 F) (js := js25 F) Try.func25 (by kernel_rfl) (by kernel_rfl) (conf_all _ rfl) (cs25 F) mix (by kernel_rfl) (by kernel_rfl) (fun fr hn => (hok_of (l := []) (by kernel_rfl) obl_nil)) (fun x => by kernel_rfl)
def sg31 : Sig := { modes := [.ro, .ro], sh := [(0, .d (.slice (.int .u64))), (1, .d (.int .i64))], keeps := false, fresh := some (0, 5), rtys := [(.slice (.int .u8)), .bool] }
def con31 (F : Nat) : Contract := mkCon sg31 fun x => bitpack_Pack F x.1 x.2.1
def cx31 (F : Nat) : Cx := { types := tys, call := callsL [(25, con25 F), (30, con30 F)], own := [4, 26], ntmps := (0, 64) }
theorem cs31 (F : Nat) : ∀ f c, (cx31 F).call f = some c → CMet Try.prog f c := callsL_sound (calls_cons (s25 F) (calls_cons (s30 F) calls_nil))
def sh31l10 : Shape := [(1, .d (.int .i64)), (7, .own 7 (.int .u8) 5), (8, .d (.int .i64)), (10, .d (.int .u64)), (11, .d (.int .i64)), (27, .d (.slice (.int .u64))), (28, .d (.int .i64)), (29, .d (.int .i64))]
def sh31l10o2 : Shape := [(1, .d (.int .i64)), (7, .own 7 (.int .u8) 5), (8, .d (.int .i64)), (27, .d (.slice (.int .u64))), (28, .d (.int .i64)), (29, .d (.int .i64))]
def outs31l10 : Outs := [(4, sh31l10o2)]
def m31l10 (F : Nat) (n : Nat) {R : Type} (x : Shape.den sh31l10) (K : Ex → St → Option R) : Option R := bitpack_Pack_l10 F (fun y1 y7 y8 y27 y28 y29 => K (.exit 2) (enc sh31l10o2 (y1, y7, y8, y27, y28, y29, ()))) n x.1 x.2.1 x.2.2.1 x.2.2.2.1 x.2.2.2.2.1 x.2.2.2.2.2.1 x.2.2.2.2.2.2.1 x.2.2.2.2.2.2.2.1
def sh31l7 : Shape := [(1, .d (.int .i64)), (7, .own 7 (.int .u8) 5), (8, .d (.int .i64)), (27, .d (.slice (.int .u64))), (28, .d (.int .i64)), (29, .d (.int .i64))]
def sh31l7o0 : Shape := [(7, .own 7 (.int .u8) 5)]
def outs31l7 : Outs := [(2, sh31l7o0)]
def m31l7 (F : Nat) (n : Nat) {R : Type} (x : Shape.den sh31l7) (K : Ex → St → Option R) : Option R := bitpack_Pack_l7 F (fun y7 => K (.exit 0) (enc sh31l7o0 (y7, ()))) n x.1 x.2.1 x.2.2.1 x.2.2.2.1 x.2.2.2.2.1 x.2.2.2.2.2.1
def hs31 (F : Nat) : Nat → Option (Hint (Dens sg31.rtys)) := hintL [(10, { sh := sh31l10, model := m31l10 F F }), (7, { sh := sh31l7, model := m31l7 F F })]
def js31 (F : Nat) : Nat → Option (Hint (Dens sg31.rtys)) := hintL []
theorem ok31l10 (F : Nat) (fr : Frm) (hn : (cx31 F).ntmps = fr.n) (n : Nat) : MSound (R := (Dens sg31.rtys)) Try.prog fr (.loop (sub (bodyOf Try.f31) [1, 1, 1, 1, 1, 0, 1, 0, 0, 1, 1, 0, 0, 1, 1, 0, 0])) sh31l10 (m31l10 F n) :=
  loop_sound (cx := cx31 F) (hs := hs31 F) (js := js31 F) (outs := outs31l10) (conf_all _ rfl) (cs31 F) hn mix (m := fun n => m31l10 F n) (fun _ _ => rfl) (fun n x K => by kernel_rfl) (hok_of (l := []) (by kernel_rfl) obl_nil) n
theorem ok31l7 (F : Nat) (fr : Frm) (hn : (cx31 F).ntmps = fr.n) (n : Nat) : MSound (R := (Dens sg31.rtys)) Try.prog fr (.loop (sub (bodyOf Try.f31) [1, 1, 1, 1, 1, 0, 1, 0, 0])) sh31l7 (m31l7 F n) :=
  loop_sound (cx := cx31 F) (hs := hs31 F) (js := js31 F) (outs := outs31l7) (conf_all _ rfl) (cs31 F) hn mix (m := fun n => m31l7 F n) (fun _ _ => rfl) (fun n x K => by kernel_rfl) (hok_of (l := [((.loop (sub (bodyOf Try.f31) [1, 1, 1, 1, 1, 0, 1, 0, 0, 1, 1, 0, 0, 1, 1, 0, 0])), { sh := sh31l10, model := m31l10 F F })]) (by kernel_rfl) (obl_cons (ok31l10 F fr hn F) obl_nil)) n
theorem s31 (F : Nat) : CSound Try.prog 31 (con31 F) :=
  fn_sound (fn := Try.f31) (code := (bodyOf Try.f31)) (cx := cx31 F) (hs := hs31 F) (js := js31 F) Try.func31 (by kernel_rfl) (by kernel_rfl) (conf_all _ rfl) (cs31 F) mix (by kernel_rfl) (by kernel_rfl) (fun fr hn => (hok_of (l := [((.loop (sub (bodyOf Try.f31) [1, 1, 1, 1, 1, 0, 1, 0, 0])), { sh := sh31l7, model := m31l7 F F })]) (by kernel_rfl) (obl_cons (ok31l7 F fr hn F) obl_nil))) (fun x => by kernel_rfl)
def sg32 : Sig := { modes := [.ro, .ro, .ro], sh := [(0, .d (.slice (.int .u8))), (1, .d (.int .i64)), (2, .d (.int .i64))], keeps := false, fresh := some (0, 48), rtys := [(.slice (.int .u64)), .bool] }
def con32 (F : Nat) : Contract := mkCon sg32 fun x => bitpack_Unpack F x.1 x.2.1 x.2.2.1
def cx32 (F : Nat) : Cx := { types := tys, call := callsL [(25, con25 F)], own := [6, 21], ntmps := (0, 81) }
theorem cs32 (F : Nat) : ∀ f c, (cx32 F).call f = some c → CMet Try.prog f c := callsL_sound (calls_cons (s25 F) calls_nil)
def sh32l9 : Shape := [(0, .d (.slice (.int .u8))), (2, .d (.int .i64)), (8, .own 8 (.int .u64) 48), (9, .d (.int .i64)), (10, .d (.int .i64)), (11, .d (.int .i64)), (23, .d (.int .i64)), (24, .d (.int .i64))]
def sh32l9o2 : Shape := [(0, .d (.slice (.int .u8))), (2, .d (.int .i64)), (8, .own 8 (.int .u64) 48), (9, .d (.int .i64)), (23, .d (.int .i64)), (24, .d (.int .i64))]
def outs32l9 : Outs := [(4, sh32l9o2)]
def m32l9 (F : Nat) (n : Nat) {R : Type} (x : Shape.den sh32l9) (K : Ex → St → Option R) : Option R := bitpack_Unpack_l9 F (fun y0 y2 y8 y9 y23 y24 => K (.exit 2) (enc sh32l9o2 (y0, y2, y8, y9, y23, y24, ()))) n x.1 x.2.1 x.2.2.1 x.2.2.2.1 x.2.2.2.2.1 x.2.2.2.2.2.1 x.2.2.2.2.2.2.1 x.2.2.2.2.2.2.2.1
def sh32l6 : Shape := [(0, .d (.slice (.int .u8))), (2, .d (.int .i64)), (8, .own 8 (.int .u64) 48), (9, .d (.int .i64)), (23, .d (.int .i64)), (24, .d (.int .i64))]
def sh32l6o0 : Shape := [(0, .d (.slice (.int .u8))), (8, .own 8 (.int .u64) 48), (9, .d (.int .i64))]
def outs32l6 : Outs := [(2, sh32l6o0)]
def m32l6 (F : Nat) (n : Nat) {R : Type} (x : Shape.den sh32l6) (K : Ex → St → Option R) : Option R := bitpack_Unpack_l6 F (fun y0 y8 y9 => K (.exit 0) (enc sh32l6o0 (y0, y8, y9, ()))) n x.1 x.2.1 x.2.2.1 x.2.2.2.1 x.2.2.2.2.1 x.2.2.2.2.2.1
def hs32 (F : Nat) : Nat → Option (Hint (Dens sg32.rtys)) := hintL [(9, { sh := sh32l9, model := m32l9 F F }), (6, { sh := sh32l6, model := m32l6 F F })]
def js32 (F : Nat) : Nat → Option (Hint (Dens sg32.rtys)) := hintL []
theorem ok32l9 (F : Nat) (fr : Frm) (hn : (cx32 F).ntmps = fr.n) (n : Nat) : MSound (R := (Dens sg32.rtys)) Try.prog fr (.loop (sub (bodyOf Try.f32) [1, 1, 1, 1, 0, 1, 0, 0, 1, 1, 0, 0, 1, 1, 0, 0])) sh32l9 (m32l9 F n) :=
  loop_sound (cx := cx32 F) (hs := hs32 F) (js := js32 F) (outs := outs32l9) (conf_all _ rfl) (cs32 F) hn mix (m := fun n => m32l9 F n) (fun _ _ => rfl) (fun n x K => by kernel_rfl) (hok_of (l := []) (by kernel_rfl) obl_nil) n
theorem ok32l6 (F : Nat) (fr : Frm) (hn : (cx32 F).ntmps = fr.n) (n : Nat) : MSound (R := (Dens sg32.rtys)) Try.prog fr (.loop (sub (bodyOf Try.f32) [1, 1, 1, 1, 0, 1, 0, 0])) sh32l6 (m32l6 F n) :=
  loop_sound (cx := cx32 F) (hs := hs32 F) (js := js32 F) (outs := outs32l6) (conf_all _ rfl) (cs32 F) hn mix (m := fun n => m32l6 F n) (fun _ _ => rfl) (fun n x K => by kernel_rfl) (hok_of (l := [((.loop (sub (bodyOf Try.f32) [1, 1, 1, 1, 0, 1, 0, 0, 1, 1, 0, 0, 1, 1, 0, 0])), { sh := sh32l9, model := m32l9 F F })]) (by kernel_rfl) (obl_cons (ok32l9 F fr hn F) obl_nil)) n
theorem s32 (F : Nat) : CSound Try.prog 32 (con32 F) :=
  fn_sound (fn := Try.f32) (code := (bodyOf Try.f32)) (cx := cx32 F) (hs := hs32 F) (js := js32 F) Try.func32 (by kernel_rfl) (by kernel_rfl) (conf_all _ rfl) (cs32 F) mix (by kernel_rfl) (by kernel_rfl) (fun fr hn => (hok_of (l := [((.loop (sub (bodyOf Try.f32) [1, 1, 1, 1, 0, 1, 0, 0])), { sh := sh32l6, model := m32l6 F F })]) (by kernel_rfl) (obl_cons (ok32l6 F fr hn F) obl_nil))) (fun x => by kernel_rfl)
def sg34 : Sig := { modes := [.ro, .ro], sh := [(0, .d (.slice (.int .u8))), (1, .d (.slice (.int .u8)))], keeps := true, fresh := none, rtys := [.bool] }
def con34 (F : Nat) : Contract := mkCon sg34 fun x => ref06_Same F x.1 x.2.1
def cx34 (F : Nat) : Cx := { types := tys, call := callsL [], own := [], ntmps := (0, 26) }
theorem cs34 (F : Nat) : ∀ f c, (cx34 F).call f = some c → CMet Try.prog f c := callsL_sound calls_nil
def sh34l4 : Shape := [(0, .d (.slice (.int .u8))), (1, .d (.slice (.int .u8))), (5, .d (.int .i64))]
def sh34l4o0 : Shape := []
def sh34l4oret : Shape := [(4, .d .bool)]
def outs34l4 : Outs := [(2, sh34l4o0), (1, sh34l4oret)]
def m34l4 (F : Nat) (n : Nat) {R : Type} (x : Shape.den sh34l4) (K : Ex → St → Option R) : Option R := ref06_Same_l4 F (K (.exit 0) (enc sh34l4o0 (()))) (fun y4 => K .ret (enc sh34l4oret (y4, ()))) n x.1 x.2.1 x.2.2.1
def hs34 (F : Nat) : Nat → Option (Hint (Dens sg34.rtys)) := hintL [(4, { sh := sh34l4, model := m34l4 F F })]
def js34 (F : Nat) : Nat → Option (Hint (Dens sg34.rtys)) := hintL []
theorem ok34l4 (F : Nat) (fr : Frm) (hn : (cx34 F).ntmps = fr.n) (n : Nat) : MSound (R := (Dens sg34.rtys)) Try.prog fr (.loop (sub (bodyOf Try.f34) [1, 1, 0, 1, 0, 0])) sh34l4 (m34l4 F n) :=
  loop_sound (cx := cx34 F) (hs := hs34 F) (js := js34 F) (outs := outs34l4) (conf_all _ rfl) (cs34 F) hn mix (m := fun n => m34l4 F n) (fun _ _ => rfl) (fun n x K => by kernel_rfl) (hok_of (l := []) (by kernel_rfl) obl_nil) n
theorem s34 (F : Nat) : CSound Try.prog 34 (con34 F) :=
  fn_sound (fn := Try.f34) (code := (bodyOf Try.f34)) (cx := cx34 F) (hs := hs34 F) (js := js34 F) Try.func34 (by kernel_rfl) (by kernel_rfl) (conf_all _ rfl) (cs34 F) mix (by kernel_rfl) (by kernel_rfl) (fun fr hn => (hok_of (l := [((.loop (sub (bodyOf Try.f34) [1, 1, 0, 1, 0, 0])), { sh := sh34l4, model := m34l4 F F })]) (by kernel_rfl) (obl_cons (ok34l4 F fr hn F) obl_nil))) (fun x => by kernel_rfl)
def sg33 : Sig := { modes := [.ro, .ro], sh := [(0, .d (.slice (.int .u64))), (1, .d (.slice (.int .u64)))], keeps := true, fresh := none, rtys := [.bool] }
def con33 (F : Nat) : Contract := mkCon sg33 fun x => ref08_Same F x.1 x.2.1
def cx33 (F : Nat) : Cx := { types := tys, call := callsL [], own := [], ntmps := (0, 26) }
theorem cs33 (F : Nat) : ∀ f c, (cx33 F).call f = some c → CMet Try.prog f c := callsL_sound calls_nil
def sh33l4 : Shape := [(0, .d (.slice (.int .u64))), (1, .d (.slice (.int .u64))), (5, .d (.int .i64))]
def sh33l4o0 : Shape := []
def sh33l4oret : Shape := [(4, .d .bool)]
def outs33l4 : Outs := [(2, sh33l4o0), (1, sh33l4oret)]
def m33l4 (F : Nat) (n : Nat) {R : Type} (x : Shape.den sh33l4) (K : Ex → St → Option R) : Option R := ref08_Same_l4 F (K (.exit 0) (enc sh33l4o0 (()))) (fun y4 => K .ret (enc sh33l4oret (y4, ()))) n x.1 x.2.1 x.2.2.1
def hs33 (F : Nat) : Nat → Option (Hint (Dens sg33.rtys)) := hintL [(4, { sh := sh33l4, model := m33l4 F F })]
def js33 (F : Nat) : Nat → Option (Hint (Dens sg33.rtys)) := hintL []
theorem ok33l4 (F : Nat) (fr : Frm) (hn : (cx33 F).ntmps = fr.n) (n : Nat) : MSound (R := (Dens sg33.rtys)) Try.prog fr (.loop (sub (bodyOf Try.f33) [1, 1, 0, 1, 0, 0])) sh33l4 (m33l4 F n) :=
  loop_sound (cx := cx33 F) (hs := hs33 F) (js := js33 F) (outs := outs33l4) (conf_all _ rfl) (cs33 F) hn mix (m := fun n => m33l4 F n) (fun _ _ => rfl) (fun n x K => by kernel_rfl) (hok_of (l := []) (by kernel_rfl) obl_nil) n
theorem s33 (F : Nat) : CSound Try.prog 33 (con33 F) :=
  fn_sound (fn := Try.f33) (code := (bodyOf Try.f33)) (cx := cx33 F) (hs := hs33 F) (js := js33 F) Try.func33 (by kernel_rfl) (by kernel_rfl) (conf_all _ rfl) (cs33 F) mix (by kernel_rfl) (by kernel_rfl) (fun fr hn => (hok_of (l := [((.loop (sub (bodyOf Try.f33) [1, 1, 0, 1, 0, 0])), { sh := sh33l4, model := m33l4 F F })]) (by kernel_rfl) (obl_cons (ok33l4 F fr hn F) obl_nil))) (fun x => by kernel_rfl)
def sg22 : Sig := { modes := [], sh := [], keeps := true, fresh := none, rtys := [.bool] }
def con22 (F : Nat) : Contract := mkCon sg22 fun x => law08_known F 
def cx22 (F : Nat) : Cx := { types := tys, call := callsL [(31, con31 F), (32, con32 F), (34, con34 F), (33, con33 F)], own := [], ntmps := (0, 29) }
theorem cs22 (F : Nat) : ∀ f c, (cx22 F).call f = some c → CMet Try.prog f c := callsL_sound (calls_cons (s31 F) (calls_cons (s32 F) (calls_cons (s34 F) (calls_cons (s33 F) calls_nil))))
def hs22 (F : Nat) : Nat → Option (Hint (Dens sg22.rtys)) := hintL []
def js22 (F : Nat) : Nat → Option (Hint (Dens sg22.rtys)) := hintL []
theorem s22 (F : Nat) : CSound Try.prog 22 (con22 F) :=
  fn_sound (fn := Try.f22) (code := (bodyOf Try.f22)) (cx := cx22 F) (hs := hs22 F) (js := js22 F) Try.func22 (by kernel_rfl) (by kernel_rfl) (conf_all _ rfl) (cs22 F) mix (by kernel_rfl) (by kernel_rfl) (fun fr hn => (hok_of (l := []) (by kernel_rfl) obl_nil)) (fun x => by kernel_rfl)
def sg7 : Sig := { modes := [.ro, .ro], sh := [(0, .d (.slice (.int .i64))), (1, .d (.int .i64))], keeps := true, fresh := none, rtys := [.bool] }
def con7 (F : Nat) : Contract := mkCon sg7 fun x => law08_BitpackBack F x.1 x.2.1
def cx7 (F : Nat) : Cx := { types := tys, call := callsL [(19, con19 F), (20, con20 F), (30, con30 F), (15, con15 F), (31, con31 F), (32, con32 F), (22, con22 F), (33, con33 F), (25, con25 F)], own := [15], ntmps := (0, 70) }
theorem cs7 (F : Nat) : ∀ f c, (cx7 F).call f = some c → CMet Try.prog f c := callsL_sound (calls_cons (s19 F) (calls_cons (s20 F) (calls_cons (s30 F) (calls_cons (s15 F) (calls_cons (s31 F) (calls_cons (s32 F) (calls_cons (s22 F) (calls_cons (s33 F) (calls_cons (s25 F) calls_nil)))))))))
def hs7 (F : Nat) : Nat → Option (Hint (Dens sg7.rtys)) := hintL []
def js7 (F : Nat) : Nat → Option (Hint (Dens sg7.rtys)) := hintL []
theorem s7 (F : Nat) : CSound Try.prog 7 (con7 F) :=
  fn_sound (fn := Try.f7) (code := (bodyOf Try.f7)) (cx := cx7 F) (hs := hs7 F) (js := js7 F) Try.func7 (by kernel_rfl) (by kernel_rfl) (conf_all _ rfl) (cs7 F) mix (by kernel_rfl) (by kernel_rfl) (fun fr hn => (hok_of (l := []) (by kernel_rfl) obl_nil)) (fun x => by kernel_rfl)
def sg21 : Sig := { modes := [.ro], sh := [(0, .d (.slice (.int .u64)))], keeps := true, fresh := none, rtys := [(.int .i64)] }
def con21 (F : Nat) : Contract := mkCon sg21 fun x => ref08_Width F x.1
def cx21 (F : Nat) : Cx := { types := tys, call := callsL [], own := [], ntmps := (0, 26) }
theorem cs21 (F : Nat) : ∀ f c, (cx21 F).call f = some c → CMet Try.prog f c := callsL_sound calls_nil
def sh21l5 : Shape := [(0, .d (.slice (.int .u64))), (3, .d (.int .i64)), (4, .d (.int .i64))]
def sh21l5o2 : Shape := [(0, .d (.slice (.int .u64))), (3, .d (.int .i64)), (4, .d (.int .i64))]
def outs21l5 : Outs := [(4, sh21l5o2)]
def m21l5 (F : Nat) (n : Nat) {R : Type} (x : Shape.den sh21l5) (K : Ex → St → Option R) : Option R := ref08_Width_l5 F (fun y0 y3 y4 => K (.exit 2) (enc sh21l5o2 (y0, y3, y4, ()))) n x.1 x.2.1 x.2.2.1
def sh21l3 : Shape := [(0, .d (.slice (.int .u64))), (3, .d (.int .i64)), (4, .d (.int .i64))]
def sh21l3o0 : Shape := [(3, .d (.int .i64))]
def outs21l3 : Outs := [(2, sh21l3o0)]
def m21l3 (F : Nat) (n : Nat) {R : Type} (x : Shape.den sh21l3) (K : Ex → St → Option R) : Option R := ref08_Width_l3 F (fun y3 => K (.exit 0) (enc sh21l3o0 (y3, ()))) n x.1 x.2.1 x.2.2.1
def hs21 (F : Nat) : Nat → Option (Hint (Dens sg21.rtys)) := hintL [(5, { sh := sh21l5, model := m21l5 F F }), (3, { sh := sh21l3, model := m21l3 F F })]
def js21 (F : Nat) : Nat → Option (Hint (Dens sg21.rtys)) := hintL []
theorem ok21l5 (F : Nat) (fr : Frm) (hn : (cx21 F).ntmps = fr.n) (n : Nat) : MSound (R := (Dens sg21.rtys)) Try.prog fr (.loop (sub (bodyOf Try.f21) [1, 1, 0, 1, 0, 0, 1, 0, 0, 0, 0])) sh21l5 (m21l5 F n) :=
  loop_sound (cx := cx21 F) (hs := hs21 F) (js := js21 F) (outs := outs21l5) (conf_all _ rfl) (cs21 F) hn mix (m := fun n => m21l5 F n) (fun _ _ => rfl) (fun n x K => by kernel_rfl) (hok_of (l := []) (by kernel_rfl) obl_nil) n
theorem ok21l3 (F : Nat) (fr : Frm) (hn : (cx21 F).ntmps = fr.n) (n : Nat) : MSound (R := (Dens sg21.rtys)) Try.prog fr (.loop (sub (bodyOf Try.f21) [1, 1, 0, 1, 0, 0])) sh21l3 (m21l3 F n) :=
  loop_sound (cx := cx21 F) (hs := hs21 F) (js := js21 F) (outs := outs21l3) (conf_all _ rfl) (cs21 F) hn mix (m := fun n => m21l3 F n) (fun _ _ => rfl) (fun n x K => by kernel_rfl) (hok_of (l := [((.loop (sub (bodyOf Try.f21) [1, 1, 0, 1, 0, 0, 1, 0, 0, 0, 0])), { sh := sh21l5, model := m21l5 F F })]) (by kernel_rfl) (obl_cons (ok21l5 F fr hn F) obl_nil)) n
theorem s21 (F : Nat) : CSound Try.prog 21 (con21 F) :=
  fn_sound (fn := Try.f21) (code := (bodyOf Try.f21)) (cx := cx21 F) (hs := hs21 F) (js := js21 F) Try.func21 (by kernel_rfl) (by kernel_rfl) (conf_all _ rfl) (cs21 F) mix (by kernel_rfl) (by kernel_rfl) (fun fr hn => (hok_of (l := [((.loop (sub (bodyOf Try.f21) [1, 1, 0, 1, 0, 0])), { sh := sh21l3, model := m21l3 F F })]) (by kernel_rfl) (obl_cons (ok21l3 F fr hn F) obl_nil))) (fun x => by kernel_rfl)
def sg26 : Sig := { modes := [.ro, .ro], sh := [(0, .d (.int .i64)), (1, .d (.int .i64))], keeps := true, fresh := none, rtys := [(.int .i64)] }
def con26 (F : Nat) : Contract := mkCon sg26 fun x => ref08_Bytes F x.1 x.2.1
def cx26 (F : Nat) : Cx := { types := tys, call := callsL [], own := [], ntmps := (0, 24) }
theorem cs26 (F : Nat) : ∀ f c, (cx26 F).call f = some c → CMet Try.prog f c := callsL_sound calls_nil
def hs26 (F : Nat) : Nat → Option (Hint (Dens sg26.rtys)) := hintL []
def js26 (F : Nat) : Nat → Option (Hint (Dens sg26.rtys)) := hintL []
theorem s26 (F : Nat) : CSound Try.prog 26 (con26 F) :=
  fn_sound (fn := Try.f26) (code := (bodyOf Try.f26)) (cx := cx26 F) (hs := hs26 F) (js := js26 F) Try.func26 (by kernel_rfl) (by kernel_rfl) (conf_all _ rfl) (cs26 F) mix (by kernel_rfl) (by kernel_rfl) (fun fr hn => (hok_of (l := []) (by kernel_rfl) obl_nil)) (fun x => by kernel_rfl)
def sg27 : Sig := { modes := [.ro, .ro], sh := [(0, .d (.slice (.int .u64))), (1, .d (.int .i64))], keeps := false, fresh := some (0, 5), rtys := [(.slice (.int .u8)), .bool] }
def con27 (F : Nat) : Contract := mkCon sg27 fun x => ref08_Pack F x.1 x.2.1
def cx27 (F : Nat) : Cx := { types := tys, call := callsL [(26, con26 F), (21, con21 F)], own := [4, 24], ntmps := (0, 62) }
theorem cs27 (F : Nat) : ∀ f c, (cx27 F).call f = some c → CMet Try.prog f c := callsL_sound (calls_cons (s26 F) (calls_cons (s21 F) calls_nil))
def sh27l9 : Shape := [(0, .d (.slice (.int .u64))), (1, .d (.int .i64)), (7, .own 7 (.int .u8) 5), (8, .d (.int .i64)), (9, .d (.int .i64))]
def sh27l9o2 : Shape := [(0, .d (.slice (.int .u64))), (1, .d (.int .i64)), (7, .own 7 (.int .u8) 5), (8, .d (.int .i64))]
def outs27l9 : Outs := [(4, sh27l9o2)]
def m27l9 (F : Nat) (n : Nat) {R : Type} (x : Shape.den sh27l9) (K : Ex → St → Option R) : Option R := ref08_Pack_l9 F (fun y0 y1 y7 y8 => K (.exit 2) (enc sh27l9o2 (y0, y1, y7, y8, ()))) n x.1 x.2.1 x.2.2.1 x.2.2.2.1 x.2.2.2.2.1
def sh27l6 : Shape := [(0, .d (.slice (.int .u64))), (1, .d (.int .i64)), (7, .own 7 (.int .u8) 5), (8, .d (.int .i64))]
def sh27l6o0 : Shape := [(7, .own 7 (.int .u8) 5)]
def outs27l6 : Outs := [(2, sh27l6o0)]
def m27l6 (F : Nat) (n : Nat) {R : Type} (x : Shape.den sh27l6) (K : Ex → St → Option R) : Option R := ref08_Pack_l6 F (fun y7 => K (.exit 0) (enc sh27l6o0 (y7, ()))) n x.1 x.2.1 x.2.2.1 x.2.2.2.1
def hs27 (F : Nat) : Nat → Option (Hint (Dens sg27.rtys)) := hintL [(9, { sh := sh27l9, model := m27l9 F F }), (6, { sh := sh27l6, model := m27l6 F F })]
def js27 (F : Nat) : Nat → Option (Hint (Dens sg27.rtys)) := hintL []
theorem ok27l9 (F : Nat) (fr : Frm) (hn : (cx27 F).ntmps = fr.n) (n : Nat) : MSound (R := (Dens sg27.rtys)) Try.prog fr (.loop (sub (bodyOf Try.f27) [1, 1, 1, 1, 0, 1, 0, 0, 1, 0, 0, 1, 0, 0])) sh27l9 (m27l9 F n) :=
  loop_sound (cx := cx27 F) (hs := hs27 F) (js := js27 F) (outs := outs27l9) (conf_all _ rfl) (cs27 F) hn mix (m := fun n => m27l9 F n) (fun _ _ => rfl) (fun n x K => by kernel_rfl) (hok_of (l := []) (by kernel_rfl) obl_nil) n
theorem ok27l6 (F : Nat) (fr : Frm) (hn : (cx27 F).ntmps = fr.n) (n : Nat) : MSound (R := (Dens sg27.rtys)) Try.prog fr (.loop (sub (bodyOf Try.f27) [1, 1, 1, 1, 0, 1, 0, 0])) sh27l6 (m27l6 F n) :=
  loop_sound (cx := cx27 F) (hs := hs27 F) (js := js27 F) (outs := outs27l6) (conf_all _ rfl) (cs27 F) hn mix (m := fun n => m27l6 F n) (fun _ _ => rfl) (fun n x K => by kernel_rfl) (hok_of (l := [((.loop (sub (bodyOf Try.f27) [1, 1, 1, 1, 0, 1, 0, 0, 1, 0, 0, 1, 0, 0])), { sh := sh27l9, model := m27l9 F F })]) (by kernel_rfl) (obl_cons (ok27l9 F fr hn F) obl_nil)) n
theorem s27 (F : Nat) : CSound Try.prog 27 (con27 F) :=
  fn_sound (fn := Try.f27) (code := (bodyOf Try.f27)) (cx := cx27 F) (hs := hs27 F) (js := js27 F) Try.func27 (by kernel_rfl) (by kernel_rfl) (conf_all _ rfl) (cs27 F) mix (by kernel_rfl) (by kernel_rfl) (fun fr hn => (hok_of (l := [((.loop (sub (bodyOf Try.f27) [1, 1, 1, 1, 0, 1, 0, 0])), { sh := sh27l6, model := m27l6 F F })]) (by kernel_rfl) (obl_cons (ok27l6 F fr hn F) obl_nil))) (fun x => by kernel_rfl)
def sg57 : Sig := { modes := [.ro, .ro, .ro], sh := [(0, .d (.slice (.int .u8))), (1, .d (.int .i64)), (2, .d (.int .i64))], keeps := false, fresh := none, rtys := [(.slice (.int .u64)), .bool] }
def con57 (F : Nat) : Contract := mkCon sg57 fun x => ref08_Unpack F x.1 x.2.1 x.2.2.1
def cx57 (F : Nat) : Cx := { types := tys, call := callsL [(26, con26 F), (27, con27 F), (34, con34 F)], own := [6, 25], ntmps := (0, 72) }
theorem cs57 (F : Nat) : ∀ f c, (cx57 F).call f = some c → CMet Try.prog f c := callsL_sound (calls_cons (s26 F) (calls_cons (s27 F) (calls_cons (s34 F) calls_nil)))
def sh57l6 : Shape := [(0, .d (.slice (.int .u8))), (1, .d (.int .i64)), (2, .d (.int .i64)), (9, .own 9 (.int .u64) 48), (10, .d (.int .i64))]
def sh57l6o0 : Shape := [(0, .d (.slice (.int .u8))), (2, .d (.int .i64)), (9, .own 9 (.int .u64) 48)]
def outs57l6 : Outs := [(2, sh57l6o0)]
def m57l6 (F : Nat) (n : Nat) {R : Type} (x : Shape.den sh57l6) (K : Ex → St → Option R) : Option R := ref08_Unpack_l6 F (fun y0 y2 y9 => K (.exit 0) (enc sh57l6o0 (y0, y2, y9, ()))) n x.1 x.2.1 x.2.2.1 x.2.2.2.1 x.2.2.2.2.1
def hs57 (F : Nat) : Nat → Option (Hint (Dens sg57.rtys)) := hintL [(6, { sh := sh57l6, model := m57l6 F F })]
def js57 (F : Nat) : Nat → Option (Hint (Dens sg57.rtys)) := hintL []
theorem ok57l6 (F : Nat) (fr : Frm) (hn : (cx57 F).ntmps = fr.n) (n : Nat) : MSound (R := (Dens sg57.rtys)) Try.prog fr (.loop (sub (bodyOf Try.f57) [1, 1, 1, 1, 0, 1, 0, 0])) sh57l6 (m57l6 F n) :=
  loop_sound (cx := cx57 F) (hs := hs57 F) (js := js57 F) (outs := outs57l6) (conf_all _ rfl) (cs57 F) hn mix (m := fun n => m57l6 F n) (fun _ _ => rfl) (fun n x K => by kernel_rfl) (hok_of (l := []) (by kernel_rfl) obl_nil) n
theorem s57 (F : Nat) : CSound Try.prog 57 (con57 F) :=
  fn_sound (fn := Try.f57) (code := (bodyOf Try.f57)) (cx := cx57 F) (hs := hs57 F) (js := js57 F) Try.func57 (by kernel_rfl) (by kernel_rfl) (conf_all _ rfl) (cs57 F) mix (by kernel_rfl) (by kernel_rfl) (fun fr hn => (hok_of (l := [((.loop (sub (bodyOf Try.f57) [1, 1, 1, 1, 0, 1, 0, 0])), { sh := sh57l6, model := m57l6 F F })]) (by kernel_rfl) (obl_cons (ok57l6 F fr hn F) obl_nil))) (fun x => by kernel_rfl)
def sg28 : Sig := { modes := [.ro, .ro, .ro], sh := [(0, .d (.slice (.int .u8))), (1, .d (.int .i64)), (2, .d (.int .i64))], keeps := true, fresh := none, rtys := [.bool] }
def con28 (F : Nat) : Contract := mkCon sg28 fun x => law08_unpacks F x.1 x.2.1 x.2.2.1
def cx28 (F : Nat) : Cx := { types := tys, call := callsL [(32, con32 F), (57, con57 F), (33, con33 F)], own := [], ntmps := (0, 33) }
theorem cs28 (F : Nat) : ∀ f c, (cx28 F).call f = some c → CMet Try.prog f c := callsL_sound (calls_cons (s32 F) (calls_cons (s57 F) (calls_cons (s33 F) calls_nil)))
def hs28 (F : Nat) : Nat → Option (Hint (Dens sg28.rtys)) := hintL []
def js28 (F : Nat) : Nat → Option (Hint (Dens sg28.rtys)) := hintL []
theorem s28 (F : Nat) : CSound Try.prog 28 (con28 F) :=
  fn_sound (fn := Try.f28) (code := (bodyOf Try.f28)) (cx := cx28 F) (hs := hs28 F) (js := js28 F) Try.func28 (by kernel_rfl) (by kernel_rfl) (conf_all _ rfl) (cs28 F) mix (by kernel_rfl) (by kernel_rfl) (fun fr hn => (hok_of (l := []) (by kernel_rfl) obl_nil)) (fun x => by kernel_rfl)
def sg29 : Sig := { modes := [.bor, .ro], sh := [(0, .box 0 (.pair (.slice (.int .i64)) (.pair (.int .i64) .unit))), (1, .d (.slice (.int .u8)))], keeps := false, fresh := some (0, 5), rtys := [(.pair (.slice (.int .i64)) (.pair (.int .i64) .unit)), (.slice (.int .u8))] }
def con29 (F : Nat) : Contract := mkCon sg29 fun x => made_Tape_Spoiled F x.1 x.2.1
def cx29 (F : Nat) : Cx := { types := tys, call := callsL [(24, con24 F)], own := [4, 6, 36, 52], ntmps := (1, 59), cuts := [52, 56] }
theorem cs29 (F : Nat) : ∀ f c, (cx29 F).call f = some c → CMet Try.prog f c := callsL_sound (calls_cons (s24 F) calls_nil)
def hs29 (F : Nat) : Nat → Option (Hint (Dens sg29.rtys)) := hintL []
def js29 (F : Nat) : Nat → Option (Hint (Dens sg29.rtys)) := hintL []
theorem s29 (F : Nat) : CSound Try.prog 29 (con29 F) :=
  fn_sound (fn := Try.f29) (code := (bodyOf Try.f29)) (cx := cx29 F) (hs := hs29 F) (js := js29 F) Try.func29 (by kernel_rfl) (by kernel_rfl) (conf_all _ rfl) (cs29 F) mix (by kernel_rfl) (by kernel_rfl) (fun fr hn => (hok_of (l := []) (by kernel_rfl) obl_nil)) (fun x => by kernel_rfl)
def sg6 : Sig := { modes := [.ro, .ro, .ro, .ro], sh := [(0, .d (.slice (.int .u8))), (1, .d (.int .i64)), (2, .d (.int .i64)), (3, .d (.slice (.int .i64)))], keeps := true, fresh := none, rtys := [.bool] }
def con6 (F : Nat) : Contract := mkCon sg6 fun x => law08_BitpackReads F x.1 x.2.1 x.2.2.1 x.2.2.2.1
def cx6 (F : Nat) : Cx := { types := tys, call := callsL [(19, con19 F), (20, con20 F), (21, con21 F), (27, con27 F), (15, con15 F), (22, con22 F), (28, con28 F), (29, con29 F), (24, con24 F)], own := [17], ntmps := (0, 84) }
theorem cs6 (F : Nat) : ∀ f c, (cx6 F).call f = some c → CMet Try.prog f c := callsL_sound (calls_cons (s19 F) (calls_cons (s20 F) (calls_cons (s21 F) (calls_cons (s27 F) (calls_cons (s15 F) (calls_cons (s22 F) (calls_cons (s28 F) (calls_cons (s29 F) (calls_cons (s24 F) calls_nil)))))))))
def sh6j9 : Shape := [(0, .d (.slice (.int .u8))), (1, .d (.int .i64)), (2, .d (.int .i64)), (9, .box 9 (.pair (.slice (.int .i64)) (.pair (.int .i64) .unit))), (10, .d (.slice (.int .u64))), (11, .d (.int .i64)), (12, .d (.slice (.int .u8))), (14, .d (.int .i64)), (15, .d (.int .i64))]
def sh6j9oret : Shape := [(8, .d .bool)]
def outs6j9 : Outs := [(1, sh6j9oret)]
def m6j9 (F : Nat) {R : Type} (x : Shape.den sh6j9) (K : Ex → St → Option R) : Option R := law08_BitpackReads_j9 F (fun y8 => K .ret (enc sh6j9oret (y8, ()))) x.1 x.2.1 x.2.2.1 x.2.2.2.1 x.2.2.2.2.1 x.2.2.2.2.2.1 x.2.2.2.2.2.2.1 x.2.2.2.2.2.2.2.1 x.2.2.2.2.2.2.2.2.1
def hs6 (F : Nat) : Nat → Option (Hint (Dens sg6.rtys)) := hintL []
def js6 (F : Nat) : Nat → Option (Hint (Dens sg6.rtys)) := hintL [(9, { sh := sh6j9, model := m6j9 F })]
theorem ok6j9 (F : Nat) (fr : Frm) (hn : (cx6 F).ntmps = fr.n) : MSound (R := (Dens sg6.rtys)) Try.prog fr (sub (bodyOf Try.f6) [1, 1, 1, 1, 1, 1, 1, 1]) sh6j9 (m6j9 F) :=
  join_sound (cx := cx6 F) (hs := hs6 F) (js := js6 F) (outs := outs6j9) (conf_all _ rfl) (cs6 F) hn mix (fun x K => by kernel_rfl) (hok_of (l := []) (by kernel_rfl) obl_nil)
theorem s6 (F : Nat) : CSound Try.prog 6 (con6 F) :=
  fn_sound (fn := Try.f6) (code := (bodyOf Try.f6)) (cx := cx6 F) (hs := hs6 F) (js := js6 F) Try.func6 (by kernel_rfl) (by kernel_rfl) (conf_all _ rfl) (cs6 F) mix (by kernel_rfl) (by kernel_rfl) (fun fr hn => (hok_of (l := [((sub (bodyOf Try.f6) [1, 1, 1, 1, 1, 1, 1, 1]), { sh := sh6j9, model := m6j9 F })]) (by kernel_rfl) (obl_cons (ok6j9 F fr hn) obl_nil))) (fun x => by kernel_rfl)
def sg4 : Sig := { modes := [.ro, .ro], sh := [(0, .d (.int .i64)), (1, .d (.int .i64))], keeps := true, fresh := none, rtys := [.bool] }
def con4 (F : Nat) : Contract := mkCon sg4 fun x => law24_BucketsCover F x.1 x.2.1
def cx4 (F : Nat) : Cx := { types := tys, call := callsL [(15, con15 F), (18, con18 F), (16, con16 F)], own := [], ntmps := (0, 91) }
theorem cs4 (F : Nat) : ∀ f c, (cx4 F).call f = some c → CMet Try.prog f c := callsL_sound (calls_cons (s15 F) (calls_cons (s18 F) (calls_cons (s16 F) calls_nil)))
def sh4l8 : Shape := [(5, .d (.slice (.int .i64))), (7, .d (.int .i64)), (8, .d (.int .i64)), (9, .d (.int .i64))]
def sh4l8o0 : Shape := [(7, .d (.int .i64)), (8, .d (.int .i64))]
def outs4l8 : Outs := [(2, sh4l8o0)]
def m4l8 (F : Nat) (n : Nat) {R : Type} (x : Shape.den sh4l8) (K : Ex → St → Option R) : Option R := law24_BucketsCover_l8 F (fun y7 y8 => K (.exit 0) (enc sh4l8o0 (y7, y8, ()))) n x.1 x.2.1 x.2.2.1 x.2.2.2.1
def hs4 (F : Nat) : Nat → Option (Hint (Dens sg4.rtys)) := hintL [(8, { sh := sh4l8, model := m4l8 F F })]
def js4 (F : Nat) : Nat → Option (Hint (Dens sg4.rtys)) := hintL []
theorem ok4l8 (F : Nat) (fr : Frm) (hn : (cx4 F).ntmps = fr.n) (n : Nat) : MSound (R := (Dens sg4.rtys)) Try.prog fr (.loop (sub (bodyOf Try.f4) [1, 1, 1, 1, 1, 1, 0, 1, 0, 0])) sh4l8 (m4l8 F n) :=
  loop_sound (cx := cx4 F) (hs := hs4 F) (js := js4 F) (outs := outs4l8) (conf_all _ rfl) (cs4 F) hn mix (m := fun n => m4l8 F n) (fun _ _ => rfl) (fun n x K => by kernel_rfl) (hok_of (l := []) (by kernel_rfl) obl_nil) n
theorem s4 (F : Nat) : CSound Try.prog 4 (con4 F) :=
  fn_sound (fn := Try.f4) (code := (bodyOf Try.f4)) (cx := cx4 F) (hs := hs4 F) (js := js4 F) Try.func4 (by kernel_rfl) (by kernel_rfl) (conf_all _ rfl) (cs4 F) mix (by kernel_rfl) (by kernel_rfl) (fun fr hn => (hok_of (l := [((.loop (sub (bodyOf Try.f4) [1, 1, 1, 1, 1, 1, 0, 1, 0, 0])), { sh := sh4l8, model := m4l8 F F })]) (by kernel_rfl) (obl_cons (ok4l8 F fr hn F) obl_nil))) (fun x => by kernel_rfl)
def sg62 : Sig := { modes := [.bor, .ro], sh := [(0, .box 0 (.pair (.slice (.int .i64)) (.pair (.int .i64) .unit))), (1, .d (.int .i64))], keeps := false, fresh := none, rtys := [(.pair (.slice (.int .i64)) (.pair (.int .i64) .unit)), .bool] }
def con62 (F : Nat) : Contract := mkCon sg62 fun x => made_Tape_Bool F x.1 x.2.1
def cx62 (F : Nat) : Cx := { types := tys, call := callsL [(24, con24 F)], own := [], ntmps := (1, 11) }
theorem cs62 (F : Nat) : ∀ f c, (cx62 F).call f = some c → CMet Try.prog f c := callsL_sound (calls_cons (s24 F) calls_nil)
def hs62 (F : Nat) : Nat → Option (Hint (Dens sg62.rtys)) := hintL []
def js62 (F : Nat) : Nat → Option (Hint (Dens sg62.rtys)) := hintL []
theorem s62 (F : Nat) : CSound Try.prog 62 (con62 F) :=
  fn_sound (fn := Try.f62) (code := (bodyOf Try.f62)) (cx := cx62 F) (hs := hs62 F) (js := js62 F) Try.func62 (by kernel_rfl) (by kernel_rfl) (conf_all _ rfl) (cs62 F) mix (by kernel_rfl) (by kernel_rfl) (fun fr hn => (hok_of (l := []) (by kernel_rfl) obl_nil)) (fun x => by kernel_rfl)
def sg63 : Sig := { modes := [.bor], sh := [(0, .box 0 (.pair (.slice (.int .i64)) (.pair (.int .i64) .unit)))], keeps := false, fresh := none, rtys := [(.pair (.slice (.int .i64)) (.pair (.int .i64) .unit)), (.int .i64)] }
def con63 (F : Nat) : Contract := mkCon sg63 fun x => made_Tape_Int F x.1
def cx63 (F : Nat) : Cx := { types := tys, call := callsL [(24, con24 F), (48, con48 F)], own := [], ntmps := (1, 32) }
theorem cs63 (F : Nat) : ∀ f c, (cx63 F).call f = some c → CMet Try.prog f c := callsL_sound (calls_cons (s24 F) (calls_cons (s48 F) calls_nil))
def hs63 (F : Nat) : Nat → Option (Hint (Dens sg63.rtys)) := hintL []
def js63 (F : Nat) : Nat → Option (Hint (Dens sg63.rtys)) := hintL []
theorem s63 (F : Nat) : CSound Try.prog 63 (con63 F) :=
  fn_sound (fn := Try.f63) (code := (bodyOf Try.f63)) (cx := cx63 F) (hs := hs63 F) (js := js63 F) Try.func63 (by kernel_rfl) (by kernel_rfl) (conf_all _ rfl) (cs63 F) mix (by kernel_rfl) (by kernel_rfl) (fun fr hn => (hok_of (l := []) (by kernel_rfl) obl_nil)) (fun x => by kernel_rfl)
def sg35 : Sig := { modes := [.ro], sh := [(0, .d (.int .i64))], keeps := true, fresh := none, rtys := [(.pair .bool (.pair (.arr 4 (.int .u64)) .unit))] }
def con35 (F : Nat) : Contract := mkCon sg35 fun x => ref02_Of F x.1
def cx35 (F : Nat) : Cx := { types := tys, call := callsL [], own := [], ntmps := (0, 14) }
theorem cs35 (F : Nat) : ∀ f c, (cx35 F).call f = some c → CMet Try.prog f c := callsL_sound calls_nil
def hs35 (F : Nat) : Nat → Option (Hint (Dens sg35.rtys)) := hintL []
def js35 (F : Nat) : Nat → Option (Hint (Dens sg35.rtys)) := hintL []
theorem s35 (F : Nat) : CSound Try.prog 35 (con35 F) :=
  fn_sound (fn := Try.f35) (code := (bodyOf Try.f35)) (cx := cx35 F) (hs := hs35 F) (js := js35 F) Try.func35 (by kernel_rfl) (by kernel_rfl) (conf_all _ rfl) (cs35 F) mix (by kernel_rfl) (by kernel_rfl) (fun fr hn => (hok_of (l := []) (by kernel_rfl) obl_nil)) (fun x => by kernel_rfl)
def sg74 : Sig := { modes := [.ro], sh := [(0, .d (.slice (.int .u64)))], keeps := false, fresh := none, rtys := [(.slice (.int .u64))] }
def con74 (F : Nat) : Contract := mkCon sg74 fun x => ref02_trim F x.1
def cx74 (F : Nat) : Cx := { types := tys, call := callsL [], own := [2, 19], ntmps := (0, 21) }
theorem cs74 (F : Nat) : ∀ f c, (cx74 F).call f = some c → CMet Try.prog f c := callsL_sound calls_nil
def sh74l1 : Shape := [(0, .d (.slice (.int .u64)))]
def sh74l1o0 : Shape := [(0, .d (.slice (.int .u64)))]
def outs74l1 : Outs := [(2, sh74l1o0)]
def m74l1 (F : Nat) (n : Nat) {R : Type} (x : Shape.den sh74l1) (K : Ex → St → Option R) : Option R := ref02_trim_l1 F (fun y0 => K (.exit 0) (enc sh74l1o0 (y0, ()))) n x.1
def hs74 (F : Nat) : Nat → Option (Hint (Dens sg74.rtys)) := hintL [(1, { sh := sh74l1, model := m74l1 F F })]
def js74 (F : Nat) : Nat → Option (Hint (Dens sg74.rtys)) := hintL []
theorem ok74l1 (F : Nat) (fr : Frm) (hn : (cx74 F).ntmps = fr.n) (n : Nat) : MSound (R := (Dens sg74.rtys)) Try.prog fr (.loop (sub (bodyOf Try.f74) [1, 0, 0, 0])) sh74l1 (m74l1 F n) :=
  loop_sound (cx := cx74 F) (hs := hs74 F) (js := js74 F) (outs := outs74l1) (conf_all _ rfl) (cs74 F) hn mix (m := fun n => m74l1 F n) (fun _ _ => rfl) (fun n x K => by kernel_rfl) (hok_of (l := []) (by kernel_rfl) obl_nil) n
theorem s74 (F : Nat) : CSound Try.prog 74 (con74 F) :=
  fn_sound (fn := Try.f74) (code := (bodyOf Try.f74)) (cx := cx74 F) (hs := hs74 F) (js := js74 F) Try.func74 (by kernel_rfl) (by kernel_rfl) (conf_all _ rfl) (cs74 F) mix (by kernel_rfl) (by kernel_rfl) (fun fr hn => (hok_of (l := [((.loop (sub (bodyOf Try.f74) [1, 0, 0, 0])), { sh := sh74l1, model := m74l1 F F })]) (by kernel_rfl) (obl_cons (ok74l1 F fr hn F) obl_nil))) (fun x => by kernel_rfl)
def sg74c : Sig := { modes := [.con 48], sh := [(0, .own 0 (.int .u64) 48)], keeps := false, fresh := some (0, 48), rtys := [(.slice (.int .u64))] }
def con74c (F : Nat) : Contract := mkCon sg74c fun x => ref02_trimc F x.1
def cx74c (F : Nat) : Cx := { types := tys, call := callsL [], own := [2, 19], ntmps := (0, 21) }
theorem cs74c (F : Nat) : ∀ f c, (cx74c F).call f = some c → CMet Try.prog f c := callsL_sound calls_nil
def sh74cl1 : Shape := [(0, .own 0 (.int .u64) 48)]
def sh74cl1o0 : Shape := [(0, .own 0 (.int .u64) 48)]
def outs74cl1 : Outs := [(2, sh74cl1o0)]
def m74cl1 (F : Nat) (n : Nat) {R : Type} (x : Shape.den sh74cl1) (K : Ex → St → Option R) : Option R := ref02_trimc_l1 F (fun y0 => K (.exit 0) (enc sh74cl1o0 (y0, ()))) n x.1
def hs74c (F : Nat) : Nat → Option (Hint (Dens sg74c.rtys)) := hintL [(1, { sh := sh74cl1, model := m74cl1 F F })]
def js74c (F : Nat) : Nat → Option (Hint (Dens sg74c.rtys)) := hintL []
theorem ok74cl1 (F : Nat) (fr : Frm) (hn : (cx74c F).ntmps = fr.n) (n : Nat) : MSound (R := (Dens sg74c.rtys)) Try.prog fr (.loop (sub (bodyOf Try.f74) [1, 0, 0, 0])) sh74cl1 (m74cl1 F n) :=
  loop_sound (cx := cx74c F) (hs := hs74c F) (js := js74c F) (outs := outs74cl1) (conf_all _ rfl) (cs74c F) hn mix (m := fun n => m74cl1 F n) (fun _ _ => rfl) (fun n x K => by kernel_rfl) (hok_of (l := []) (by kernel_rfl) obl_nil) n
theorem s74c (F : Nat) : CSound Try.prog 74 (con74c F) :=
  fn_sound (fn := Try.f74) (code := (bodyOf Try.f74)) (cx := cx74c F) (hs := hs74c F) (js := js74c F) Try.func74 (by kernel_rfl) (by kernel_rfl) (conf_all _ rfl) (cs74c F) mix (by kernel_rfl) (by kernel_rfl) (fun fr hn => (hok_of (l := [((.loop (sub (bodyOf Try.f74) [1, 0, 0, 0])), { sh := sh74cl1, model := m74cl1 F F })]) (by kernel_rfl) (obl_cons (ok74cl1 F fr hn F) obl_nil))) (fun x => by kernel_rfl)
def sg61 : Sig := { modes := [.ro], sh := [(0, .d (.pair .bool (.pair (.arr 4 (.int .u64)) .unit)))], keeps := false, fresh := none, rtys := [(.slice (.int .u64))] }
def con61 (F : Nat) : Contract := mkCon sg61 fun x => ref02_of F x.1
def cx61 (F : Nat) : Cx := { types := tys, call := callsL [(74, con74 F)], own := [2, 3], ntmps := (0, 8) }
theorem cs61 (F : Nat) : ∀ f c, (cx61 F).call f = some c → CMet Try.prog f c := callsL_sound (calls_cons (s74 F) calls_nil)
def hs61 (F : Nat) : Nat → Option (Hint (Dens sg61.rtys)) := hintL []
def js61 (F : Nat) : Nat → Option (Hint (Dens sg61.rtys)) := hintL []
theorem s61 (F : Nat) : CSound Try.prog 61 (con61 F) :=
  fn_sound (fn := Try.f61) (code := (bodyOf Try.f61)) (cx := cx61 F) (hs := hs61 F) (js := js61 F) Try.func61 (by kernel_rfl) (by kernel_rfl) (conf_all _ rfl) (cs61 F) mix (by kernel_rfl) (by kernel_rfl) (fun fr hn => (hok_of (l := []) (by kernel_rfl) obl_nil)) (fun x => by kernel_rfl)
def sg75 : Sig := { modes := [.ro, .ro], sh := [(0, .d .bool), (1, .d (.slice (.int .u64)))], keeps := true, fresh := none, rtys := [(.pair .bool (.pair (.arr 4 (.int .u64)) .unit)), .bool] }
def con75 (F : Nat) : Contract := mkCon sg75 fun x => ref02_wide F x.1 x.2.1
def cx75 (F : Nat) : Cx := { types := tys, call := callsL [(74, con74 F)], own := [], ntmps := (0, 35) }
theorem cs75 (F : Nat) : ∀ f c, (cx75 F).call f = some c → CMet Try.prog f c := callsL_sound (calls_cons (s74 F) calls_nil)
def sh75l6 : Shape := [(1, .d (.slice (.int .u64))), (4, .box 4 (.pair .bool (.pair (.arr 4 (.int .u64)) .unit))), (6, .box 6 (.pair .bool (.pair (.arr 4 (.int .u64)) .unit))), (7, .d (.int .i64))]
def sh75l6o0 : Shape := [(4, .box 4 (.pair .bool (.pair (.arr 4 (.int .u64)) .unit))), (6, .box 6 (.pair .bool (.pair (.arr 4 (.int .u64)) .unit)))]
def outs75l6 : Outs := [(2, sh75l6o0)]
def m75l6 (F : Nat) (n : Nat) {R : Type} (x : Shape.den sh75l6) (K : Ex → St → Option R) : Option R := ref02_wide_l6 F (fun y4 y6 => K (.exit 0) (enc sh75l6o0 (y4, y6, ()))) n x.1 x.2.1 x.2.2.1 x.2.2.2.1
def sh75j5 : Shape := [(1, .d (.slice (.int .u64))), (4, .box 4 (.pair .bool (.pair (.arr 4 (.int .u64)) .unit))), (6, .box 6 (.pair .bool (.pair (.arr 4 (.int .u64)) .unit)))]
def sh75j5oret : Shape := [(4, .box 4 (.pair .bool (.pair (.arr 4 (.int .u64)) .unit))), (5, .d .bool)]
def outs75j5 : Outs := [(1, sh75j5oret)]
def m75j5 (F : Nat) {R : Type} (x : Shape.den sh75j5) (K : Ex → St → Option R) : Option R := ref02_wide_j5 F (fun y4 y5 => K .ret (enc sh75j5oret (y4, y5, ()))) x.1 x.2.1 x.2.2.1
def hs75 (F : Nat) : Nat → Option (Hint (Dens sg75.rtys)) := hintL [(6, { sh := sh75l6, model := m75l6 F F })]
def js75 (F : Nat) : Nat → Option (Hint (Dens sg75.rtys)) := hintL [(5, { sh := sh75j5, model := m75j5 F })]
theorem ok75l6 (F : Nat) (fr : Frm) (hn : (cx75 F).ntmps = fr.n) (n : Nat) : MSound (R := (Dens sg75.rtys)) Try.prog fr (.loop (sub (bodyOf Try.f75) [1, 1, 1, 1, 0, 1, 0, 0])) sh75l6 (m75l6 F n) :=
  loop_sound (cx := cx75 F) (hs := hs75 F) (js := js75 F) (outs := outs75l6) (conf_all _ rfl) (cs75 F) hn mix (m := fun n => m75l6 F n) (fun _ _ => rfl) (fun n x K => by kernel_rfl) (hok_of (l := []) (by kernel_rfl) obl_nil) n
theorem ok75j5 (F : Nat) (fr : Frm) (hn : (cx75 F).ntmps = fr.n) : MSound (R := (Dens sg75.rtys)) Try.prog fr (sub (bodyOf Try.f75) [1, 1, 1, 1]) sh75j5 (m75j5 F) :=
  join_sound (cx := cx75 F) (hs := hs75 F) (js := js75 F) (outs := outs75j5) (conf_all _ rfl) (cs75 F) hn mix (fun x K => by kernel_rfl) (hok_of (l := [((.loop (sub (bodyOf Try.f75) [1, 1, 1, 1, 0, 1, 0, 0])), { sh := sh75l6, model := m75l6 F F })]) (by kernel_rfl) (obl_cons (ok75l6 F fr hn F) obl_nil))
theorem s75 (F : Nat) : CSound Try.prog 75 (con75 F) :=
  fn_sound (fn := Try.f75) (code := (bodyOf Try.f75)) (cx := cx75 F) (hs := hs75 F) (js := js75 F) Try.func75 (by kernel_rfl) (by kernel_rfl) (conf_all _ rfl) (cs75 F) mix (by kernel_rfl) (by kernel_rfl) (fun fr hn => (hok_of (l := [((sub (bodyOf Try.f75) [1, 1, 1, 1]), { sh := sh75j5, model := m75j5 F })]) (by kernel_rfl) (obl_cons (ok75j5 F fr hn) obl_nil))) (fun x => by kernel_rfl)
def sg64 : Sig := { modes := [.ro], sh := [(0, .d (.pair .bool (.pair (.arr 4 (.int .u64)) .unit)))], keeps := true, fresh := none, rtys := [(.pair .bool (.pair (.arr 4 (.int .u64)) .unit))] }
def con64 (F : Nat) : Contract := mkCon sg64 fun x => ref02_Neg F x.1
def cx64 (F : Nat) : Cx := { types := tys, call := callsL [(61, con61 F), (75, con75 F)], own := [], ntmps := (0, 15) }
theorem cs64 (F : Nat) : ∀ f c, (cx64 F).call f = some c → CMet Try.prog f c := callsL_sound (calls_cons (s61 F) (calls_cons (s75 F) calls_nil))
def hs64 (F : Nat) : Nat → Option (Hint (Dens sg64.rtys)) := hintL []
def js64 (F : Nat) : Nat → Option (Hint (Dens sg64.rtys)) := hintL []
theorem s64 (F : Nat) : CSound Try.prog 64 (con64 F) :=
  fn_sound (fn := Try.f64) (code := (bodyOf Try.f64)) (cx := cx64 F) (hs := hs64 F) (js := js64 F) Try.func64 (by kernel_rfl) (by kernel_rfl) (conf_all _ rfl) (cs64 F) mix (by kernel_rfl) (by kernel_rfl) (fun fr hn => (hok_of (l := []) (by kernel_rfl) obl_nil)) (fun x => by kernel_rfl)
def sg41 : Sig := { modes := [.bor], sh := [(0, .box 0 (.pair (.slice (.int .i64)) (.pair (.int .i64) .unit)))], keeps := false, fresh := none, rtys := [(.pair (.slice (.int .i64)) (.pair (.int .i64) .unit)), (.pair .bool (.pair (.arr 4 (.int .u64)) .unit))] }
def con41 (F : Nat) : Contract := mkCon sg41 fun x => made_Tape_Wide F x.1
def cx41 (F : Nat) : Cx := { types := tys, call := callsL [(24, con24 F), (48, con48 F), (62, con62 F), (63, con63 F), (35, con35 F), (64, con64 F)], own := [], ntmps := (1, 39) }
theorem cs41 (F : Nat) : ∀ f c, (cx41 F).call f = some c → CMet Try.prog f c := callsL_sound (calls_cons (s24 F) (calls_cons (s48 F) (calls_cons (s62 F) (calls_cons (s63 F) (calls_cons (s35 F) (calls_cons (s64 F) calls_nil))))))
def sh41l3 : Shape := [(0, .box 0 (.pair (.slice (.int .i64)) (.pair (.int .i64) .unit))), (2, .box 2 (.pair .bool (.pair (.arr 4 (.int .u64)) .unit))), (3, .box 3 (.pair .bool (.pair (.arr 4 (.int .u64)) .unit))), (4, .d (.int .i64))]
def sh41l3o0 : Shape := [(0, .box 0 (.pair (.slice (.int .i64)) (.pair (.int .i64) .unit))), (2, .box 2 (.pair .bool (.pair (.arr 4 (.int .u64)) .unit))), (3, .box 3 (.pair .bool (.pair (.arr 4 (.int .u64)) .unit)))]
def outs41l3 : Outs := [(2, sh41l3o0)]
def m41l3 (F : Nat) (n : Nat) {R : Type} (x : Shape.den sh41l3) (K : Ex → St → Option R) : Option R := made_Tape_Wide_l3 F (fun y0 y2 y3 => K (.exit 0) (enc sh41l3o0 (y0, y2, y3, ()))) n x.1 x.2.1 x.2.2.1 x.2.2.2.1
def sh41j10 : Shape := [(0, .box 0 (.pair (.slice (.int .i64)) (.pair (.int .i64) .unit))), (2, .box 2 (.pair .bool (.pair (.arr 4 (.int .u64)) .unit))), (3, .box 3 (.pair .bool (.pair (.arr 4 (.int .u64)) .unit)))]
def sh41j10oret : Shape := [(0, .box 0 (.pair (.slice (.int .i64)) (.pair (.int .i64) .unit))), (2, .box 2 (.pair .bool (.pair (.arr 4 (.int .u64)) .unit)))]
def outs41j10 : Outs := [(1, sh41j10oret)]
def m41j10 (F : Nat) {R : Type} (x : Shape.den sh41j10) (K : Ex → St → Option R) : Option R := made_Tape_Wide_j10 F (fun y0 y2 => K .ret (enc sh41j10oret (y0, y2, ()))) x.1 x.2.1 x.2.2.1
def hs41 (F : Nat) : Nat → Option (Hint (Dens sg41.rtys)) := hintL [(3, { sh := sh41l3, model := m41l3 F F })]
def js41 (F : Nat) : Nat → Option (Hint (Dens sg41.rtys)) := hintL [(10, { sh := sh41j10, model := m41j10 F })]
theorem ok41l3 (F : Nat) (fr : Frm) (hn : (cx41 F).ntmps = fr.n) (n : Nat) : MSound (R := (Dens sg41.rtys)) Try.prog fr (.loop (sub (bodyOf Try.f41) [1, 1, 0, 1, 0, 0])) sh41l3 (m41l3 F n) :=
  loop_sound (cx := cx41 F) (hs := hs41 F) (js := js41 F) (outs := outs41l3) (conf_all _ rfl) (cs41 F) hn mix (m := fun n => m41l3 F n) (fun _ _ => rfl) (fun n x K => by kernel_rfl) (hok_of (l := []) (by kernel_rfl) obl_nil) n
theorem ok41j10 (F : Nat) (fr : Frm) (hn : (cx41 F).ntmps = fr.n) : MSound (R := (Dens sg41.rtys)) Try.prog fr (sub (bodyOf Try.f41) [1, 1, 1, 1]) sh41j10 (m41j10 F) :=
  join_sound (cx := cx41 F) (hs := hs41 F) (js := js41 F) (outs := outs41j10) (conf_all _ rfl) (cs41 F) hn mix (fun x K => by kernel_rfl) (hok_of (l := []) (by kernel_rfl) obl_nil)
theorem s41 (F : Nat) : CSound Try.prog 41 (con41 F) :=
  fn_sound (fn := Try.f41) (code := (bodyOf Try.f41)) (cx := cx41 F) (hs := hs41 F) (js := js41 F) Try.func41 (by kernel_rfl) (by kernel_rfl) (conf_all _ rfl) (cs41 F) mix (by kernel_rfl) (by kernel_rfl) (fun fr hn => (hok_of (l := [((.loop (sub (bodyOf Try.f41) [1, 1, 0, 1, 0, 0])), { sh := sh41l3, model := m41l3 F F }), ((sub (bodyOf Try.f41) [1, 1, 1, 1]), { sh := sh41j10, model := m41j10 F })]) (by kernel_rfl) (obl_cons (ok41l3 F fr hn F) (obl_cons (ok41j10 F fr hn) obl_nil)))) (fun x => by kernel_rfl)
def sg66 : Sig := nilSig (.int .u8) false (some (0, 5)) [(.slice (.int .u8))]
def con66 (F : Nat) : Contract := mkCon sg66 fun x => slices_Clone_byte F x.1
def cx66 (F : Nat) : Cx := { types := tys, call := callsL [], own := [2, 5], ntmps := (0, 8), nils := [3] }
theorem cs66 (F : Nat) : ∀ f c, (cx66 F).call f = some c → CMet Try.prog f c := callsL_sound calls_nil
theorem s66 (F : Nat) : CSound Try.prog 66 (con66 F) :=
  fn_sound_nil (fn := Try.f66) (code := (bodyOf Try.f66)) (cx := cx66 F) (hs := hintL []) (js := hintL []) Try.func66 (by kernel_rfl) (by kernel_rfl) (conf_all _ rfl) (cs66 F) mix (by kernel_rfl) (by kernel_rfl) (fun fr hn => (hok_of (l := []) (by kernel_rfl) obl_nil)) (fun a l => by kernel_rfl) (by kernel_rfl) (by kernel_rfl)
def sg42 : Sig := { modes := [.ro, .ro], sh := [(0, .d (.slice (.int .u8))), (1, .d (.int .u64))], keeps := false, fresh := some (0, 5), rtys := [(.slice (.int .u8))] }
def con42 (F : Nat) : Contract := mkCon sg42 fun x => varint_Append F x.1 x.2.1
def cx42 (F : Nat) : Cx := { types := tys, call := callsL [(66, con66 F), (65, con65 F)], own := [4, 7, 8], ntmps := (0, 24) }
theorem cs42 (F : Nat) : ∀ f c, (cx42 F).call f = some c → CMet Try.prog f c := callsL_sound (calls_cons (s66 F) (calls_cons (s65 F) calls_nil))
def sh42l2 : Shape := [(1, .d (.int .u64)), (5, .own 5 (.int .u8) 5)]
def sh42l2o0 : Shape := [(1, .d (.int .u64)), (5, .own 5 (.int .u8) 5)]
def outs42l2 : Outs := [(2, sh42l2o0)]
def m42l2 (F : Nat) (n : Nat) {R : Type} (x : Shape.den sh42l2) (K : Ex → St → Option R) : Option R := varint_Append_l2 F (fun y1 y5 => K (.exit 0) (enc sh42l2o0 (y1, y5, ()))) n x.1 x.2.1
def hs42 (F : Nat) : Nat → Option (Hint (Dens sg42.rtys)) := hintL [(2, { sh := sh42l2, model := m42l2 F F })]
def js42 (F : Nat) : Nat → Option (Hint (Dens sg42.rtys)) := hintL []
theorem ok42l2 (F : Nat) (fr : Frm) (hn : (cx42 F).ntmps = fr.n) (n : Nat) : MSound (R := (Dens sg42.rtys)) Try.prog fr (.loop (sub (bodyOf Try.f42) [1, 1, 0, 0, 0])) sh42l2 (m42l2 F n) :=
  loop_sound (cx := cx42 F) (hs := hs42 F) (js := js42 F) (outs := outs42l2) (conf_all _ rfl) (cs42 F) hn mix (m := fun n => m42l2 F n) (fun _ _ => rfl) (fun n x K => by kernel_rfl) (hok_of (l := []) (by kernel_rfl) obl_nil) n
theorem s42 (F : Nat) : CSound Try.prog 42 (con42 F) :=
  fn_sound (fn := Try.f42) (code := (bodyOf Try.f42)) (cx := cx42 F) (hs := hs42 F) (js := js42 F) Try.func42 (by kernel_rfl) (by kernel_rfl) (conf_all _ rfl) (cs42 F) mix (by kernel_rfl) (by kernel_rfl) (fun fr hn => (hok_of (l := [((.loop (sub (bodyOf Try.f42) [1, 1, 0, 0, 0])), { sh := sh42l2, model := m42l2 F F })]) (by kernel_rfl) (obl_cons (ok42l2 F fr hn F) obl_nil))) (fun x => by kernel_rfl)
def sg39 : Sig := { modes := [.ro], sh := [(0, .d (.int .i64))], keeps := true, fresh := none, rtys := [(.int .u64)] }
def con39 (F : Nat) : Contract := mkCon sg39 fun x => varint_Zigzag F x.1
def cx39 (F : Nat) : Cx := { types := tys, call := callsL [], own := [], ntmps := (0, 10) }
theorem cs39 (F : Nat) : ∀ f c, (cx39 F).call f = some c → CMet Try.prog f c := callsL_sound calls_nil
def hs39 (F : Nat) : Nat → Option (Hint (Dens sg39.rtys)) := hintL []
def js39 (F : Nat) : Nat → Option (Hint (Dens sg39.rtys)) := hintL []
theorem s39 (F : Nat) : CSound Try.prog 39 (con39 F) :=
  fn_sound (fn := Try.f39) (code := (bodyOf Try.f39)) (cx := cx39 F) (hs := hs39 F) (js := js39 F) Try.func39 (by kernel_rfl) (by kernel_rfl) (conf_all _ rfl) (cs39 F) mix (by kernel_rfl) (by kernel_rfl) (fun fr hn => (hok_of (l := []) (by kernel_rfl) obl_nil)) (fun x => by kernel_rfl)
def sg46 : Sig := { modes := [.ro, .ro], sh := [(0, .d (.slice (.int .u8))), (1, .d (.int .i64))], keeps := false, fresh := some (0, 5), rtys := [(.slice (.int .u8))] }
def con46 (F : Nat) : Contract := mkCon sg46 fun x => varint_AppendSigned F x.1 x.2.1
def cx46 (F : Nat) : Cx := { types := tys, call := callsL [(39, con39 F), (42, con42 F)], own := [4, 8], ntmps := (0, 9) }
theorem cs46 (F : Nat) : ∀ f c, (cx46 F).call f = some c → CMet Try.prog f c := callsL_sound (calls_cons (s39 F) (calls_cons (s42 F) calls_nil))
def hs46 (F : Nat) : Nat → Option (Hint (Dens sg46.rtys)) := hintL []
def js46 (F : Nat) : Nat → Option (Hint (Dens sg46.rtys)) := hintL []
theorem s46 (F : Nat) : CSound Try.prog 46 (con46 F) :=
  fn_sound (fn := Try.f46) (code := (bodyOf Try.f46)) (cx := cx46 F) (hs := hs46 F) (js := js46 F) Try.func46 (by kernel_rfl) (by kernel_rfl) (conf_all _ rfl) (cs46 F) mix (by kernel_rfl) (by kernel_rfl) (fun fr hn => (hok_of (l := []) (by kernel_rfl) obl_nil)) (fun x => by kernel_rfl)
def sg67 : Sig := { modes := [.ro], sh := [(0, .d (.pair .bool (.pair (.arr 4 (.int .u64)) .unit)))], keeps := true, fresh := none, rtys := [.bool] }
def con67 (F : Nat) : Contract := mkCon sg67 fun x => wide_Valid F x.1
def cx67 (F : Nat) : Cx := { types := tys, call := callsL [], own := [], ntmps := (0, 12) }
theorem cs67 (F : Nat) : ∀ f c, (cx67 F).call f = some c → CMet Try.prog f c := callsL_sound calls_nil
def hs67 (F : Nat) : Nat → Option (Hint (Dens sg67.rtys)) := hintL []
def js67 (F : Nat) : Nat → Option (Hint (Dens sg67.rtys)) := hintL []
theorem s67 (F : Nat) : CSound Try.prog 67 (con67 F) :=
  fn_sound (fn := Try.f67) (code := (bodyOf Try.f67)) (cx := cx67 F) (hs := hs67 F) (js := js67 F) Try.func67 (by kernel_rfl) (by kernel_rfl) (conf_all _ rfl) (cs67 F) mix (by kernel_rfl) (by kernel_rfl) (fun fr hn => (hok_of (l := []) (by kernel_rfl) obl_nil)) (fun x => by kernel_rfl)
def sg43 : Sig := { modes := [.ro, .ro], sh := [(0, .d (.slice (.int .u8))), (1, .d (.pair .bool (.pair (.arr 4 (.int .u64)) .unit)))], keeps := false, fresh := some (0, 5), rtys := [(.slice (.int .u8))] }
def con43 (F : Nat) : Contract := mkCon sg43 fun x => varint_AppendWide F x.1 x.2.1
def cx43 (F : Nat) : Cx := { types := tys, call := callsL [(67, con67 F), (66, con66 F), (65, con65 F)], own := [4, 41, 42], ntmps := (0, 80) }
theorem cs43 (F : Nat) : ∀ f c, (cx43 F).call f = some c → CMet Try.prog f c := callsL_sound (calls_cons (s67 F) (calls_cons (s66 F) (calls_cons (s65 F) calls_nil)))
def sh43l5 : Shape := [(0, .d (.slice (.int .u8))), (3, .box 3 (.pair .bool (.pair (.arr 4 (.int .u64)) .unit))), (5, .box 5 (.arr 5 (.int .u64))), (16, .d (.arr 4 (.int .u64))), (17, .d (.int .i64))]
def sh43l5o0 : Shape := [(0, .d (.slice (.int .u8))), (3, .box 3 (.pair .bool (.pair (.arr 4 (.int .u64)) .unit))), (5, .box 5 (.arr 5 (.int .u64)))]
def outs43l5 : Outs := [(2, sh43l5o0)]
def m43l5 (F : Nat) (n : Nat) {R : Type} (x : Shape.den sh43l5) (K : Ex → St → Option R) : Option R := varint_AppendWide_l5 F (fun y0 y3 y5 => K (.exit 0) (enc sh43l5o0 (y0, y3, y5, ()))) n x.1 x.2.1 x.2.2.1 x.2.2.2.1 x.2.2.2.2.1
def sh43l15 : Shape := [(5, .box 5 (.arr 5 (.int .u64))), (8, .own 8 (.int .u8) 5), (9, .d (.int .u8)), (47, .d (.int .i64))]
def sh43l15o4 : Shape := [(5, .box 5 (.arr 5 (.int .u64))), (8, .own 8 (.int .u8) 5), (9, .d (.int .u8))]
def outs43l15 : Outs := [(6, sh43l15o4)]
def m43l15 (F : Nat) (n : Nat) {R : Type} (x : Shape.den sh43l15) (K : Ex → St → Option R) : Option R := varint_AppendWide_l15 F (fun y5 y8 y9 => K (.exit 4) (enc sh43l15o4 (y5, y8, y9, ()))) n x.1 x.2.1 x.2.2.1 x.2.2.2.1
def sh43l13 : Shape := [(5, .box 5 (.arr 5 (.int .u64))), (8, .own 8 (.int .u8) 5)]
def sh43l13oret : Shape := [(4, .own 4 (.int .u8) 5)]
def outs43l13 : Outs := [(1, sh43l13oret)]
def m43l13 (F : Nat) (n : Nat) {R : Type} (x : Shape.den sh43l13) (K : Ex → St → Option R) : Option R := varint_AppendWide_l13 F (fun y4 => K .ret (enc sh43l13oret (y4, ()))) n x.1 x.2.1
def sh43j12 : Shape := [(0, .d (.slice (.int .u8))), (5, .box 5 (.arr 5 (.int .u64)))]
def sh43j12oret : Shape := [(4, .own 4 (.int .u8) 5)]
def outs43j12 : Outs := [(1, sh43j12oret)]
def m43j12 (F : Nat) {R : Type} (x : Shape.den sh43j12) (K : Ex → St → Option R) : Option R := varint_AppendWide_j12 F (fun y4 => K .ret (enc sh43j12oret (y4, ()))) x.1 x.2.1
def sh43j3 : Shape := [(0, .d (.slice (.int .u8))), (3, .box 3 (.pair .bool (.pair (.arr 4 (.int .u64)) .unit)))]
def sh43j3oret : Shape := [(4, .own 4 (.int .u8) 5)]
def outs43j3 : Outs := [(1, sh43j3oret)]
def m43j3 (F : Nat) {R : Type} (x : Shape.den sh43j3) (K : Ex → St → Option R) : Option R := varint_AppendWide_j3 F (fun y4 => K .ret (enc sh43j3oret (y4, ()))) x.1 x.2.1
def hs43 (F : Nat) : Nat → Option (Hint (Dens sg43.rtys)) := hintL [(5, { sh := sh43l5, model := m43l5 F F }), (15, { sh := sh43l15, model := m43l15 F F }), (13, { sh := sh43l13, model := m43l13 F F })]
def js43 (F : Nat) : Nat → Option (Hint (Dens sg43.rtys)) := hintL [(12, { sh := sh43j12, model := m43j12 F }), (3, { sh := sh43j3, model := m43j3 F })]
theorem ok43l5 (F : Nat) (fr : Frm) (hn : (cx43 F).ntmps = fr.n) (n : Nat) : MSound (R := (Dens sg43.rtys)) Try.prog fr (.loop (sub (bodyOf Try.f43) [1, 1, 1, 0, 1, 0, 0])) sh43l5 (m43l5 F n) :=
  loop_sound (cx := cx43 F) (hs := hs43 F) (js := js43 F) (outs := outs43l5) (conf_all _ rfl) (cs43 F) hn mix (m := fun n => m43l5 F n) (fun _ _ => rfl) (fun n x K => by kernel_rfl) (hok_of (l := []) (by kernel_rfl) obl_nil) n
theorem ok43l15 (F : Nat) (fr : Frm) (hn : (cx43 F).ntmps = fr.n) (n : Nat) : MSound (R := (Dens sg43.rtys)) Try.prog fr (.loop (sub (bodyOf Try.f43) [1, 1, 1, 1, 1, 1, 0, 0, 0, 1, 0, 1, 0, 0])) sh43l15 (m43l15 F n) :=
  loop_sound (cx := cx43 F) (hs := hs43 F) (js := js43 F) (outs := outs43l15) (conf_all _ rfl) (cs43 F) hn mix (m := fun n => m43l15 F n) (fun _ _ => rfl) (fun n x K => by kernel_rfl) (hok_of (l := []) (by kernel_rfl) obl_nil) n
theorem ok43l13 (F : Nat) (fr : Frm) (hn : (cx43 F).ntmps = fr.n) (n : Nat) : MSound (R := (Dens sg43.rtys)) Try.prog fr (.loop (sub (bodyOf Try.f43) [1, 1, 1, 1, 1, 1, 0, 0])) sh43l13 (m43l13 F n) :=
  loop_sound (cx := cx43 F) (hs := hs43 F) (js := js43 F) (outs := outs43l13) (conf_all _ rfl) (cs43 F) hn mix (m := fun n => m43l13 F n) (fun _ _ => rfl) (fun n x K => by kernel_rfl) (hok_of (l := [((.loop (sub (bodyOf Try.f43) [1, 1, 1, 1, 1, 1, 0, 0, 0, 1, 0, 1, 0, 0])), { sh := sh43l15, model := m43l15 F F })]) (by kernel_rfl) (obl_cons (ok43l15 F fr hn F) obl_nil)) n
theorem ok43j12 (F : Nat) (fr : Frm) (hn : (cx43 F).ntmps = fr.n) : MSound (R := (Dens sg43.rtys)) Try.prog fr (sub (bodyOf Try.f43) [1, 1, 1, 1, 1]) sh43j12 (m43j12 F) :=
  join_sound (cx := cx43 F) (hs := hs43 F) (js := js43 F) (outs := outs43j12) (conf_all _ rfl) (cs43 F) hn mix (fun x K => by kernel_rfl) (hok_of (l := [((.loop (sub (bodyOf Try.f43) [1, 1, 1, 1, 1, 1, 0, 0])), { sh := sh43l13, model := m43l13 F F })]) (by kernel_rfl) (obl_cons (ok43l13 F fr hn F) obl_nil))
theorem ok43j3 (F : Nat) (fr : Frm) (hn : (cx43 F).ntmps = fr.n) : MSound (R := (Dens sg43.rtys)) Try.prog fr (sub (bodyOf Try.f43) [1, 1]) sh43j3 (m43j3 F) :=
  join_sound (cx := cx43 F) (hs := hs43 F) (js := js43 F) (outs := outs43j3) (conf_all _ rfl) (cs43 F) hn mix (fun x K => by kernel_rfl) (hok_of (l := [((.loop (sub (bodyOf Try.f43) [1, 1, 1, 0, 1, 0, 0])), { sh := sh43l5, model := m43l5 F F }), ((sub (bodyOf Try.f43) [1, 1, 1, 1, 1]), { sh := sh43j12, model := m43j12 F })]) (by kernel_rfl) (obl_cons (ok43l5 F fr hn F) (obl_cons (ok43j12 F fr hn) obl_nil)))
theorem s43 (F : Nat) : CSound Try.prog 43 (con43 F) :=
  fn_sound (fn := Try.f43) (code := (bodyOf Try.f43)) (cx := cx43 F) (hs := hs43 F) (js := js43 F) Try.func43 (by kernel_rfl) (by kernel_rfl) (conf_all _ rfl) (cs43 F) mix (by kernel_rfl) (by kernel_rfl) (fun fr hn => (hok_of (l := [((sub (bodyOf Try.f43) [1, 1]), { sh := sh43j3, model := m43j3 F })]) (by kernel_rfl) (obl_cons (ok43j3 F fr hn) obl_nil))) (fun x => by kernel_rfl)
def sg77 : Sig := { modes := [.ro], sh := [(0, .d (.int .u8))], keeps := true, fresh := none, rtys := [.bool] }
def con77 (F : Nat) : Contract := mkCon sg77 fun x => varint_groups_1 F x.1
def cx77 (F : Nat) : Cx := { types := tys, call := callsL [], own := [], ntmps := (0, 5) }
theorem cs77 (F : Nat) : ∀ f c, (cx77 F).call f = some c → CMet Try.prog f c := callsL_sound calls_nil
def hs77 (F : Nat) : Nat → Option (Hint (Dens sg77.rtys)) := hintL []
def js77 (F : Nat) : Nat → Option (Hint (Dens sg77.rtys)) := hintL []
theorem s77 (F : Nat) : CSound Try.prog 77 (con77 F) :=
  fn_sound (fn := Try.f77) (code := (bodyOf Try.f77)) (cx := cx77 F) (hs := hs77 F) (js := js77 F) Try.func77 (by kernel_rfl) (by kernel_rfl) (conf_all _ rfl) (cs77 F) mix (by kernel_rfl) (by kernel_rfl) (fun fr hn => (hok_of (l := []) (by kernel_rfl) obl_nil)) (fun x => by kernel_rfl)
def sg76 : Sig := { modes := [.ro, .ro], sh := [(0, .d (.slice (.int .u8))), (1, .fn 77)], keeps := true, fresh := none, rtys := [(.int .i64)] }
def con76 (F : Nat) : Contract := mkCon sg76 fun x => slices_IndexFunc_byte F x.1
def cx76 (F : Nat) : Cx := { types := tys, call := callsL [(77, con77 F)], own := [], ntmps := (0, 19) }
theorem cs76 (F : Nat) : ∀ f c, (cx76 F).call f = some c → CMet Try.prog f c := callsL_sound (calls_cons (s77 F) calls_nil)
def sh76l2 : Shape := [(0, .d (.slice (.int .u8))), (1, .fn 77), (7, .d (.int .i64)), (8, .d (.int .i64))]
def sh76l2o0 : Shape := []
def sh76l2oret : Shape := [(4, .d (.int .i64))]
def outs76l2 : Outs := [(2, sh76l2o0), (1, sh76l2oret)]
def m76l2 (F : Nat) (n : Nat) {R : Type} (x : Shape.den sh76l2) (K : Ex → St → Option R) : Option R := slices_IndexFunc_byte_l2 F (K (.exit 0) (enc sh76l2o0 (()))) (fun y4 => K .ret (enc sh76l2oret (y4, ()))) n x.1 x.2.2.1 x.2.2.2.1
def hs76 (F : Nat) : Nat → Option (Hint (Dens sg76.rtys)) := hintL [(2, { sh := sh76l2, model := m76l2 F F })]
def js76 (F : Nat) : Nat → Option (Hint (Dens sg76.rtys)) := hintL []
theorem ok76l2 (F : Nat) (fr : Frm) (hn : (cx76 F).ntmps = fr.n) (n : Nat) : MSound (R := (Dens sg76.rtys)) Try.prog fr (.loop (sub (bodyOf Try.f76) [1, 0, 1, 0, 0])) sh76l2 (m76l2 F n) :=
  loop_sound (cx := cx76 F) (hs := hs76 F) (js := js76 F) (outs := outs76l2) (conf_all _ rfl) (cs76 F) hn mix (m := fun n => m76l2 F n) (fun _ _ => rfl) (fun n x K => by kernel_rfl) (hok_of (l := []) (by kernel_rfl) obl_nil) n
theorem s76 (F : Nat) : CSound Try.prog 76 (con76 F) :=
  fn_sound (fn := Try.f76) (code := (bodyOf Try.f76)) (cx := cx76 F) (hs := hs76 F) (js := js76 F) Try.func76 (by kernel_rfl) (by kernel_rfl) (conf_all _ rfl) (cs76 F) mix (by kernel_rfl) (by kernel_rfl) (fun fr hn => (hok_of (l := [((.loop (sub (bodyOf Try.f76) [1, 0, 1, 0, 0])), { sh := sh76l2, model := m76l2 F F })]) (by kernel_rfl) (obl_cons (ok76l2 F fr hn F) obl_nil))) (fun x => by kernel_rfl)
def sg68 : Sig := { modes := [.ro, .ro, .ro], sh := [(0, .d (.slice (.int .u8))), (1, .d (.int .i64)), (2, .d (.int .i64))], keeps := false, fresh := none, rtys := [(.slice (.int .u8)), (.int .i64)] }
def con68 (F : Nat) : Contract := mkCon sg68 fun x => varint_groups F x.1 x.2.1 x.2.2.1
def cx68 (F : Nat) : Cx := { types := tys, call := callsL [(76, con76 F)], own := [6, 25, 53], ntmps := (0, 54) }
theorem cs68 (F : Nat) : ∀ f c, (cx68 F).call f = some c → CMet Try.prog f c := callsL_sound (calls_cons (s76 F) calls_nil)
def sh68j6 : Shape := [(0, .d (.slice (.int .u8))), (8, .d (.int .i64)), (27, .d .bool)]
def sh68j6on : Shape := [(0, .d (.slice (.int .u8))), (8, .d (.int .i64))]
def sh68j6oret : Shape := [(6, .own 6 (.int .u8) 5), (7, .d (.int .i64))]
def outs68j6 : Outs := [(0, sh68j6on), (1, sh68j6oret)]
def m68j6 (F : Nat) {R : Type} (x : Shape.den sh68j6) (K : Ex → St → Option R) : Option R := varint_groups_j6 F (fun y0 y8 => K .normal (enc sh68j6on (y0, y8, ()))) (fun y6 y7 => K .ret (enc sh68j6oret (y6, y7, ()))) x.1 x.2.1 x.2.2.1
def hs68 (F : Nat) : Nat → Option (Hint (Dens sg68.rtys)) := hintL []
def js68 (F : Nat) : Nat → Option (Hint (Dens sg68.rtys)) := hintL [(6, { sh := sh68j6, model := m68j6 F })]
theorem ok68j6 (F : Nat) (fr : Frm) (hn : (cx68 F).ntmps = fr.n) : MSound (R := (Dens sg68.rtys)) Try.prog fr (sub (bodyOf Try.f68) [1, 1, 1, 1, 0, 0, 1]) sh68j6 (m68j6 F) :=
  join_sound (cx := cx68 F) (hs := hs68 F) (js := js68 F) (outs := outs68j6) (conf_all _ rfl) (cs68 F) hn mix (fun x K => by kernel_rfl) (hok_of (l := []) (by kernel_rfl) obl_nil)
theorem s68 (F : Nat) : CSound Try.prog 68 (con68 F) :=
  fn_sound (fn := Try.f68) (code := (bodyOf Try.f68)) (cx := cx68 F) (hs := hs68 F) (js := js68 F) Try.func68 (by kernel_rfl) (by kernel_rfl) (conf_all _ rfl) (cs68 F) mix (by kernel_rfl) (by kernel_rfl) (fun fr hn => (hok_of (l := [((sub (bodyOf Try.f68) [1, 1, 1, 1, 0, 0, 1]), { sh := sh68j6, model := m68j6 F })]) (by kernel_rfl) (obl_cons (ok68j6 F fr hn) obl_nil))) (fun x => by kernel_rfl)
def sg44 : Sig := { modes := [.ro, .ro], sh := [(0, .d (.slice (.int .u8))), (1, .d (.int .i64))], keeps := true, fresh := none, rtys := [(.int .u64), (.int .i64), (.int .i64)] }
def con44 (F : Nat) : Contract := mkCon sg44 fun x => varint_Read F x.1 x.2.1
def cx44 (F : Nat) : Cx := { types := tys, call := callsL [(68, con68 F)], own := [], ntmps := (0, 51) }
theorem cs44 (F : Nat) : ∀ f c, (cx44 F).call f = some c → CMet Try.prog f c := callsL_sound (calls_cons (s68 F) calls_nil)
def sh44l8 : Shape := [(1, .d (.int .i64)), (7, .d (.slice (.int .u8))), (9, .d (.int .u64)), (30, .d (.slice (.int .u8))), (31, .d (.int .i64)), (32, .d (.int .i64))]
def sh44l8o0 : Shape := [(1, .d (.int .i64)), (7, .d (.slice (.int .u8))), (9, .d (.int .u64))]
def outs44l8 : Outs := [(2, sh44l8o0)]
def m44l8 (F : Nat) (n : Nat) {R : Type} (x : Shape.den sh44l8) (K : Ex → St → Option R) : Option R := varint_Read_l8 F (fun y1 y7 y9 => K (.exit 0) (enc sh44l8o0 (y1, y7, y9, ()))) n x.1 x.2.1 x.2.2.1 x.2.2.2.1 x.2.2.2.2.1 x.2.2.2.2.2.1
def sh44j6 : Shape := [(1, .d (.int .i64)), (7, .d (.slice (.int .u8)))]
def sh44j6oret : Shape := [(4, .d (.int .u64)), (5, .d (.int .i64)), (6, .d (.int .i64))]
def outs44j6 : Outs := [(1, sh44j6oret)]
def m44j6 (F : Nat) {R : Type} (x : Shape.den sh44j6) (K : Ex → St → Option R) : Option R := varint_Read_j6 F (fun y4 y5 y6 => K .ret (enc sh44j6oret (y4, y5, y6, ()))) x.1 x.2.1
def hs44 (F : Nat) : Nat → Option (Hint (Dens sg44.rtys)) := hintL [(8, { sh := sh44l8, model := m44l8 F F })]
def js44 (F : Nat) : Nat → Option (Hint (Dens sg44.rtys)) := hintL [(6, { sh := sh44j6, model := m44j6 F })]
theorem ok44l8 (F : Nat) (fr : Frm) (hn : (cx44 F).ntmps = fr.n) (n : Nat) : MSound (R := (Dens sg44.rtys)) Try.prog fr (.loop (sub (bodyOf Try.f44) [1, 1, 1, 1, 1, 0, 1, 0, 0])) sh44l8 (m44l8 F n) :=
  loop_sound (cx := cx44 F) (hs := hs44 F) (js := js44 F) (outs := outs44l8) (conf_all _ rfl) (cs44 F) hn mix (m := fun n => m44l8 F n) (fun _ _ => rfl) (fun n x K => by kernel_rfl) (hok_of (l := []) (by kernel_rfl) obl_nil) n
theorem ok44j6 (F : Nat) (fr : Frm) (hn : (cx44 F).ntmps = fr.n) : MSound (R := (Dens sg44.rtys)) Try.prog fr (sub (bodyOf Try.f44) [1, 1, 1, 1]) sh44j6 (m44j6 F) :=
  join_sound (cx := cx44 F) (hs := hs44 F) (js := js44 F) (outs := outs44j6) (conf_all _ rfl) (cs44 F) hn mix (fun x K => by kernel_rfl) (hok_of (l := [((.loop (sub (bodyOf Try.f44) [1, 1, 1, 1, 1, 0, 1, 0, 0])), { sh := sh44l8, model := m44l8 F F })]) (by kernel_rfl) (obl_cons (ok44l8 F fr hn F) obl_nil))
theorem s44 (F : Nat) : CSound Try.prog 44 (con44 F) :=
  fn_sound (fn := Try.f44) (code := (bodyOf Try.f44)) (cx := cx44 F) (hs := hs44 F) (js := js44 F) Try.func44 (by kernel_rfl) (by kernel_rfl) (conf_all _ rfl) (cs44 F) mix (by kernel_rfl) (by kernel_rfl) (fun fr hn => (hok_of (l := [((sub (bodyOf Try.f44) [1, 1, 1, 1]), { sh := sh44j6, model := m44j6 F })]) (by kernel_rfl) (obl_cons (ok44j6 F fr hn) obl_nil))) (fun x => by kernel_rfl)
def sg38 : Sig := { modes := [.ro], sh := [(0, .d (.int .u64))], keeps := true, fresh := none, rtys := [(.int .i64)] }
def con38 (F : Nat) : Contract := mkCon sg38 fun x => varint_Unzigzag F x.1
def cx38 (F : Nat) : Cx := { types := tys, call := callsL [], own := [], ntmps := (0, 11) }
theorem cs38 (F : Nat) : ∀ f c, (cx38 F).call f = some c → CMet Try.prog f c := callsL_sound calls_nil
def hs38 (F : Nat) : Nat → Option (Hint (Dens sg38.rtys)) := hintL []
def js38 (F : Nat) : Nat → Option (Hint (Dens sg38.rtys)) := hintL []
theorem s38 (F : Nat) : CSound Try.prog 38 (con38 F) :=
  fn_sound (fn := Try.f38) (code := (bodyOf Try.f38)) (cx := cx38 F) (hs := hs38 F) (js := js38 F) Try.func38 (by kernel_rfl) (by kernel_rfl) (conf_all _ rfl) (cs38 F) mix (by kernel_rfl) (by kernel_rfl) (fun fr hn => (hok_of (l := []) (by kernel_rfl) obl_nil)) (fun x => by kernel_rfl)
def sg47 : Sig := { modes := [.ro, .ro], sh := [(0, .d (.slice (.int .u8))), (1, .d (.int .i64))], keeps := true, fresh := none, rtys := [(.int .i64), (.int .i64), (.int .i64)] }
def con47 (F : Nat) : Contract := mkCon sg47 fun x => varint_ReadSigned F x.1 x.2.1
def cx47 (F : Nat) : Cx := { types := tys, call := callsL [(44, con44 F), (38, con38 F)], own := [], ntmps := (0, 23) }
theorem cs47 (F : Nat) : ∀ f c, (cx47 F).call f = some c → CMet Try.prog f c := callsL_sound (calls_cons (s44 F) (calls_cons (s38 F) calls_nil))
def hs47 (F : Nat) : Nat → Option (Hint (Dens sg47.rtys)) := hintL []
def js47 (F : Nat) : Nat → Option (Hint (Dens sg47.rtys)) := hintL []
theorem s47 (F : Nat) : CSound Try.prog 47 (con47 F) :=
  fn_sound (fn := Try.f47) (code := (bodyOf Try.f47)) (cx := cx47 F) (hs := hs47 F) (js := js47 F) Try.func47 (by kernel_rfl) (by kernel_rfl) (conf_all _ rfl) (cs47 F) mix (by kernel_rfl) (by kernel_rfl) (fun fr hn => (hok_of (l := []) (by kernel_rfl) obl_nil)) (fun x => by kernel_rfl)
def sg45 : Sig := { modes := [.ro, .ro], sh := [(0, .d (.slice (.int .u8))), (1, .d (.int .i64))], keeps := true, fresh := none, rtys := [(.pair .bool (.pair (.arr 4 (.int .u64)) .unit)), (.int .i64), (.int .i64)] }
def con45 (F : Nat) : Contract := mkCon sg45 fun x => varint_ReadWide F x.1 x.2.1
def cx45 (F : Nat) : Cx := { types := tys, call := callsL [(68, con68 F), (67, con67 F)], own := [], ntmps := (0, 94) }
theorem cs45 (F : Nat) : ∀ f c, (cx45 F).call f = some c → CMet Try.prog f c := callsL_sound (calls_cons (s68 F) (calls_cons (s67 F) calls_nil))
def sh45l9 : Shape := [(1, .d (.int .i64)), (4, .box 4 (.pair .bool (.pair (.arr 4 (.int .u64)) .unit))), (7, .d (.slice (.int .u8))), (9, .box 9 (.arr 5 (.int .u64))), (10, .d (.int .i64)), (11, .d (.int .i64))]
def sh45l9o2 : Shape := [(1, .d (.int .i64)), (4, .box 4 (.pair .bool (.pair (.arr 4 (.int .u64)) .unit))), (7, .d (.slice (.int .u8))), (9, .box 9 (.arr 5 (.int .u64))), (10, .d (.int .i64))]
def outs45l9 : Outs := [(4, sh45l9o2)]
def m45l9 (F : Nat) (n : Nat) {R : Type} (x : Shape.den sh45l9) (K : Ex → St → Option R) : Option R := varint_ReadWide_l9 F (fun y1 y4 y7 y9 y10 => K (.exit 2) (enc sh45l9o2 (y1, y4, y7, y9, y10, ()))) n x.1 x.2.1 x.2.2.1 x.2.2.2.1 x.2.2.2.2.1 x.2.2.2.2.2.1
def sh45l6 : Shape := [(1, .d (.int .i64)), (4, .box 4 (.pair .bool (.pair (.arr 4 (.int .u64)) .unit))), (7, .d (.slice (.int .u8))), (9, .box 9 (.arr 5 (.int .u64))), (10, .d (.int .i64))]
def sh45l6o0 : Shape := [(1, .d (.int .i64)), (4, .box 4 (.pair .bool (.pair (.arr 4 (.int .u64)) .unit))), (7, .d (.slice (.int .u8))), (9, .box 9 (.arr 5 (.int .u64)))]
def outs45l6 : Outs := [(2, sh45l6o0)]
def m45l6 (F : Nat) (n : Nat) {R : Type} (x : Shape.den sh45l6) (K : Ex → St → Option R) : Option R := varint_ReadWide_l6 F (fun y1 y4 y7 y9 => K (.exit 0) (enc sh45l6o0 (y1, y4, y7, y9, ()))) n x.1 x.2.1 x.2.2.1 x.2.2.2.1 x.2.2.2.2.1
def sh45l15 : Shape := [(1, .d (.int .i64)), (4, .box 4 (.pair .bool (.pair (.arr 4 (.int .u64)) .unit))), (7, .d (.slice (.int .u8))), (9, .box 9 (.arr 5 (.int .u64))), (12, .box 12 (.pair .bool (.pair (.arr 4 (.int .u64)) .unit))), (63, .d (.int .i64))]
def sh45l15o4 : Shape := [(1, .d (.int .i64)), (4, .box 4 (.pair .bool (.pair (.arr 4 (.int .u64)) .unit))), (7, .d (.slice (.int .u8))), (9, .box 9 (.arr 5 (.int .u64))), (12, .box 12 (.pair .bool (.pair (.arr 4 (.int .u64)) .unit)))]
def outs45l15 : Outs := [(6, sh45l15o4)]
def m45l15 (F : Nat) (n : Nat) {R : Type} (x : Shape.den sh45l15) (K : Ex → St → Option R) : Option R := varint_ReadWide_l15 F (fun y1 y4 y7 y9 y12 => K (.exit 4) (enc sh45l15o4 (y1, y4, y7, y9, y12, ()))) n x.1 x.2.1 x.2.2.1 x.2.2.2.1 x.2.2.2.2.1 x.2.2.2.2.2.1
def hs45 (F : Nat) : Nat → Option (Hint (Dens sg45.rtys)) := hintL [(9, { sh := sh45l9, model := m45l9 F F }), (6, { sh := sh45l6, model := m45l6 F F }), (15, { sh := sh45l15, model := m45l15 F F })]
def js45 (F : Nat) : Nat → Option (Hint (Dens sg45.rtys)) := hintL []
theorem ok45l9 (F : Nat) (fr : Frm) (hn : (cx45 F).ntmps = fr.n) (n : Nat) : MSound (R := (Dens sg45.rtys)) Try.prog fr (.loop (sub (bodyOf Try.f45) [1, 1, 1, 1, 0, 1, 0, 0, 1, 0, 0, 0, 1, 0, 0])) sh45l9 (m45l9 F n) :=
  loop_sound (cx := cx45 F) (hs := hs45 F) (js := js45 F) (outs := outs45l9) (conf_all _ rfl) (cs45 F) hn mix (m := fun n => m45l9 F n) (fun _ _ => rfl) (fun n x K => by kernel_rfl) (hok_of (l := []) (by kernel_rfl) obl_nil) n
theorem ok45l6 (F : Nat) (fr : Frm) (hn : (cx45 F).ntmps = fr.n) (n : Nat) : MSound (R := (Dens sg45.rtys)) Try.prog fr (.loop (sub (bodyOf Try.f45) [1, 1, 1, 1, 0, 1, 0, 0])) sh45l6 (m45l6 F n) :=
  loop_sound (cx := cx45 F) (hs := hs45 F) (js := js45 F) (outs := outs45l6) (conf_all _ rfl) (cs45 F) hn mix (m := fun n => m45l6 F n) (fun _ _ => rfl) (fun n x K => by kernel_rfl) (hok_of (l := [((.loop (sub (bodyOf Try.f45) [1, 1, 1, 1, 0, 1, 0, 0, 1, 0, 0, 0, 1, 0, 0])), { sh := sh45l9, model := m45l9 F F })]) (by kernel_rfl) (obl_cons (ok45l9 F fr hn F) obl_nil)) n
theorem ok45l15 (F : Nat) (fr : Frm) (hn : (cx45 F).ntmps = fr.n) (n : Nat) : MSound (R := (Dens sg45.rtys)) Try.prog fr (.loop (sub (bodyOf Try.f45) [1, 1, 1, 1, 1, 1, 0, 1, 0, 0])) sh45l15 (m45l15 F n) :=
  loop_sound (cx := cx45 F) (hs := hs45 F) (js := js45 F) (outs := outs45l15) (conf_all _ rfl) (cs45 F) hn mix (m := fun n => m45l15 F n) (fun _ _ => rfl) (fun n x K => by kernel_rfl) (hok_of (l := []) (by kernel_rfl) obl_nil) n
theorem s45 (F : Nat) : CSound Try.prog 45 (con45 F) :=
  fn_sound (fn := Try.f45) (code := (bodyOf Try.f45)) (cx := cx45 F) (hs := hs45 F) (js := js45 F) Try.func45 (by kernel_rfl) (by kernel_rfl) (conf_all _ rfl) (cs45 F) mix (by kernel_rfl) (by kernel_rfl) (fun fr hn => (hok_of (l := [((.loop (sub (bodyOf Try.f45) [1, 1, 1, 1, 0, 1, 0, 0])), { sh := sh45l6, model := m45l6 F F }), ((.loop (sub (bodyOf Try.f45) [1, 1, 1, 1, 1, 1, 0, 1, 0, 0])), { sh := sh45l15, model := m45l15 F F })]) (by kernel_rfl) (obl_cons (ok45l6 F fr hn F) (obl_cons (ok45l15 F fr hn F) obl_nil)))) (fun x => by kernel_rfl)
def sg40 : Sig := { modes := [.ro], sh := [(0, .d (.int .u64))], keeps := true, fresh := none, rtys := [(.int .i64)] }
def con40 (F : Nat) : Contract := mkCon sg40 fun x => varint_Size F x.1
def cx40 (F : Nat) : Cx := { types := tys, call := callsL [(58, con58 F)], own := [], ntmps := (0, 8) }
theorem cs40 (F : Nat) : ∀ f c, (cx40 F).call f = some c → CMet Try.prog f c := callsL_sound (calls_cons (s58 F) calls_nil)
def hs40 (F : Nat) : Nat → Option (Hint (Dens sg40.rtys)) := hintL []
def js40 (F : Nat) : Nat → Option (Hint (Dens sg40.rtys)) := hintL []
theorem s40 (F : Nat) : CSound Try.prog 40 (con40 F) :=
  fn_sound (fn := Try.f40) (code := (bodyOf Try.f40)) (cx := cx40 F) (hs := hs40 F) (js := js40 F) Try.func40 (by kernel_rfl) (by kernel_rfl) (conf_all _ rfl) (cs40 F) mix (by kernel_rfl) (by kernel_rfl) (fun fr hn => (hok_of (l := []) (by kernel_rfl) obl_nil)) (fun x => by kernel_rfl)
def sg37 : Sig := { modes := [], sh := [], keeps := true, fresh := none, rtys := [.bool] }
def con37 (F : Nat) : Contract := mkCon sg37 fun x => law05_known F 
def cx37 (F : Nat) : Cx := { types := tys, call := callsL [(42, con42 F), (44, con44 F), (39, con39 F), (40, con40 F)], own := [], ntmps := (0, 36) }
theorem cs37 (F : Nat) : ∀ f c, (cx37 F).call f = some c → CMet Try.prog f c := callsL_sound (calls_cons (s42 F) (calls_cons (s44 F) (calls_cons (s39 F) (calls_cons (s40 F) calls_nil))))
def hs37 (F : Nat) : Nat → Option (Hint (Dens sg37.rtys)) := hintL []
def js37 (F : Nat) : Nat → Option (Hint (Dens sg37.rtys)) := hintL []
theorem s37 (F : Nat) : CSound Try.prog 37 (con37 F) :=
  fn_sound (fn := Try.f37) (code := (bodyOf Try.f37)) (cx := cx37 F) (hs := hs37 F) (js := js37 F) Try.func37 (by kernel_rfl) (by kernel_rfl) (conf_all _ rfl) (cs37 F) mix (by kernel_rfl) (by kernel_rfl) (fun fr hn => (hok_of (l := []) (by kernel_rfl) obl_nil)) (fun x => by kernel_rfl)
def sg11 : Sig := { modes := [.ro, .ro, .ro, .ro, .ro], sh := [(0, .d (.slice (.int .u8))), (1, .d (.slice (.int .u8))), (2, .d (.int .u64)), (3, .d (.int .i64)), (4, .d (.slice (.int .i64)))], keeps := true, fresh := none, rtys := [.bool] }
def con11 (F : Nat) : Contract := mkCon sg11 fun x => law05_VarintBack F x.1 x.2.1 x.2.2.1 x.2.2.2.1 x.2.2.2.2.1
def cx11 (F : Nat) : Cx := { types := tys, call := callsL [(19, con19 F), (41, con41 F), (42, con42 F), (46, con46 F), (43, con43 F), (44, con44 F), (47, con47 F), (45, con45 F), (37, con37 F), (40, con40 F)], own := [25, 29, 34, 39], ntmps := (0, 130) }
theorem cs11 (F : Nat) : ∀ f c, (cx11 F).call f = some c → CMet Try.prog f c := callsL_sound (calls_cons (s19 F) (calls_cons (s41 F) (calls_cons (s42 F) (calls_cons (s46 F) (calls_cons (s43 F) (calls_cons (s44 F) (calls_cons (s47 F) (calls_cons (s45 F) (calls_cons (s37 F) (calls_cons (s40 F) calls_nil))))))))))
def hs11 (F : Nat) : Nat → Option (Hint (Dens sg11.rtys)) := hintL []
def js11 (F : Nat) : Nat → Option (Hint (Dens sg11.rtys)) := hintL []
theorem s11 (F : Nat) : CSound Try.prog 11 (con11 F) :=
  fn_sound (fn := Try.f11) (code := (bodyOf Try.f11)) (cx := cx11 F) (hs := hs11 F) (js := js11 F) Try.func11 (by kernel_rfl) (by kernel_rfl) (conf_all _ rfl) (cs11 F) mix (by kernel_rfl) (by kernel_rfl) (fun fr hn => (hok_of (l := []) (by kernel_rfl) obl_nil)) (fun x => by kernel_rfl)
def sg49 : Sig := { modes := [.ro, .ro], sh := [(0, .d (.slice (.int .u8))), (1, .d (.int .u64))], keeps := false, fresh := some (0, 5), rtys := [(.slice (.int .u8))] }
def con49 (F : Nat) : Contract := mkCon sg49 fun x => ref05_Append F x.1 x.2.1
def cx49 (F : Nat) : Cx := { types := tys, call := callsL [], own := [4, 6], ntmps := (0, 25) }
theorem cs49 (F : Nat) : ∀ f c, (cx49 F).call f = some c → CMet Try.prog f c := callsL_sound calls_nil
def sh49l2 : Shape := [(1, .d (.int .u64)), (5, .own 5 (.int .u8) 5)]
def sh49l2o0 : Shape := [(1, .d (.int .u64)), (5, .own 5 (.int .u8) 5)]
def outs49l2 : Outs := [(2, sh49l2o0)]
def m49l2 (F : Nat) (n : Nat) {R : Type} (x : Shape.den sh49l2) (K : Ex → St → Option R) : Option R := ref05_Append_l2 F (fun y1 y5 => K (.exit 0) (enc sh49l2o0 (y1, y5, ()))) n x.1 x.2.1
def hs49 (F : Nat) : Nat → Option (Hint (Dens sg49.rtys)) := hintL [(2, { sh := sh49l2, model := m49l2 F F })]
def js49 (F : Nat) : Nat → Option (Hint (Dens sg49.rtys)) := hintL []
theorem ok49l2 (F : Nat) (fr : Frm) (hn : (cx49 F).ntmps = fr.n) (n : Nat) : MSound (R := (Dens sg49.rtys)) Try.prog fr (.loop (sub (bodyOf Try.f49) [1, 1, 0, 0, 0])) sh49l2 (m49l2 F n) :=
  loop_sound (cx := cx49 F) (hs := hs49 F) (js := js49 F) (outs := outs49l2) (conf_all _ rfl) (cs49 F) hn mix (m := fun n => m49l2 F n) (fun _ _ => rfl) (fun n x K => by kernel_rfl) (hok_of (l := []) (by kernel_rfl) obl_nil) n
theorem s49 (F : Nat) : CSound Try.prog 49 (con49 F) :=
  fn_sound (fn := Try.f49) (code := (bodyOf Try.f49)) (cx := cx49 F) (hs := hs49 F) (js := js49 F) Try.func49 (by kernel_rfl) (by kernel_rfl) (conf_all _ rfl) (cs49 F) mix (by kernel_rfl) (by kernel_rfl) (fun fr hn => (hok_of (l := [((.loop (sub (bodyOf Try.f49) [1, 1, 0, 0, 0])), { sh := sh49l2, model := m49l2 F F })]) (by kernel_rfl) (obl_cons (ok49l2 F fr hn F) obl_nil))) (fun x => by kernel_rfl)
def sg84 : Sig := { modes := [.ro], sh := [(0, .d (.pair .bool (.pair (.arr 4 (.int .u64)) .unit)))], keeps := true, fresh := none, rtys := [.bool] }
def con84 (F : Nat) : Contract := mkCon sg84 fun x => ref02_Valid F x.1
def cx84 (F : Nat) : Cx := { types := tys, call := callsL [(61, con61 F)], own := [], ntmps := (0, 12) }
theorem cs84 (F : Nat) : ∀ f c, (cx84 F).call f = some c → CMet Try.prog f c := callsL_sound (calls_cons (s61 F) calls_nil)
def hs84 (F : Nat) : Nat → Option (Hint (Dens sg84.rtys)) := hintL []
def js84 (F : Nat) : Nat → Option (Hint (Dens sg84.rtys)) := hintL []
theorem s84 (F : Nat) : CSound Try.prog 84 (con84 F) :=
  fn_sound (fn := Try.f84) (code := (bodyOf Try.f84)) (cx := cx84 F) (hs := hs84 F) (js := js84 F) Try.func84 (by kernel_rfl) (by kernel_rfl) (conf_all _ rfl) (cs84 F) mix (by kernel_rfl) (by kernel_rfl) (fun fr hn => (hok_of (l := []) (by kernel_rfl) obl_nil)) (fun x => by kernel_rfl)
def sg78 : Sig := { modes := [.ro], sh := [(0, .d (.pair .bool (.pair (.arr 4 (.int .u64)) .unit)))], keeps := true, fresh := none, rtys := [(.pair .bool (.pair (.arr 4 (.int .u64)) .unit))] }
def con78 (F : Nat) : Contract := mkCon sg78 fun x => ref02_clean F x.1
def cx78 (F : Nat) : Cx := { types := tys, call := callsL [(84, con84 F)], own := [], ntmps := (0, 8) }
theorem cs78 (F : Nat) : ∀ f c, (cx78 F).call f = some c → CMet Try.prog f c := callsL_sound (calls_cons (s84 F) calls_nil)
def hs78 (F : Nat) : Nat → Option (Hint (Dens sg78.rtys)) := hintL []
def js78 (F : Nat) : Nat → Option (Hint (Dens sg78.rtys)) := hintL []
theorem s78 (F : Nat) : CSound Try.prog 78 (con78 F) :=
  fn_sound (fn := Try.f78) (code := (bodyOf Try.f78)) (cx := cx78 F) (hs := hs78 F) (js := js78 F) Try.func78 (by kernel_rfl) (by kernel_rfl) (conf_all _ rfl) (cs78 F) mix (by kernel_rfl) (by kernel_rfl) (fun fr hn => (hok_of (l := []) (by kernel_rfl) obl_nil)) (fun x => by kernel_rfl)
def sg59 : Sig := { modes := [.ro], sh := [(0, .d (.pair .bool (.pair (.arr 4 (.int .u64)) .unit)))], keeps := true, fresh := none, rtys := [(.int .i64)] }
def con59 (F : Nat) : Contract := mkCon sg59 fun x => ref02_Sign F x.1
def cx59 (F : Nat) : Cx := { types := tys, call := callsL [(61, con61 F)], own := [], ntmps := (0, 9) }
theorem cs59 (F : Nat) : ∀ f c, (cx59 F).call f = some c → CMet Try.prog f c := callsL_sound (calls_cons (s61 F) calls_nil)
def hs59 (F : Nat) : Nat → Option (Hint (Dens sg59.rtys)) := hintL []
def js59 (F : Nat) : Nat → Option (Hint (Dens sg59.rtys)) := hintL []
theorem s59 (F : Nat) : CSound Try.prog 59 (con59 F) :=
  fn_sound (fn := Try.f59) (code := (bodyOf Try.f59)) (cx := cx59 F) (hs := hs59 F) (js := js59 F) Try.func59 (by kernel_rfl) (by kernel_rfl) (conf_all _ rfl) (cs59 F) mix (by kernel_rfl) (by kernel_rfl) (fun fr hn => (hok_of (l := []) (by kernel_rfl) obl_nil)) (fun x => by kernel_rfl)
def sg94 : Sig := { modes := [.ro], sh := [(0, .d (.int .u64))], keeps := true, fresh := none, rtys := [(.int .i64)] }
def con94 (F : Nat) : Contract := mkCon sg94 fun x => bits_LeadingZeros64 F x.1
def cx94 (F : Nat) : Cx := { types := tys, call := callsL [(58, con58 F)], own := [], ntmps := (0, 6) }
theorem cs94 (F : Nat) : ∀ f c, (cx94 F).call f = some c → CMet Try.prog f c := callsL_sound (calls_cons (s58 F) calls_nil)
def hs94 (F : Nat) : Nat → Option (Hint (Dens sg94.rtys)) := hintL []
def js94 (F : Nat) : Nat → Option (Hint (Dens sg94.rtys)) := hintL []
theorem s94 (F : Nat) : CSound Try.prog 94 (con94 F) :=
  fn_sound (fn := Try.f94) (code := (bodyOf Try.f94)) (cx := cx94 F) (hs := hs94 F) (js := js94 F) Try.func94 (by kernel_rfl) (by kernel_rfl) (conf_all _ rfl) (cs94 F) mix (by kernel_rfl) (by kernel_rfl) (fun fr hn => (hok_of (l := []) (by kernel_rfl) obl_nil)) (fun x => by kernel_rfl)
def sg85 : Sig := { modes := [.ro, .ro, .ro], sh := [(0, .d (.int .u64)), (1, .d (.int .u64)), (2, .d (.int .u64))], keeps := true, fresh := none, rtys := [(.int .u64), (.int .u64)] }
def con85 (F : Nat) : Contract := mkCon sg85 fun x => bits_Div64 F x.1 x.2.1 x.2.2.1
def cx85 (F : Nat) : Cx := { types := tys, call := callsL [(94, con94 F)], own := [], ntmps := (0, 135) }
theorem cs85 (F : Nat) : ∀ f c, (cx85 F).call f = some c → CMet Try.prog f c := callsL_sound (calls_cons (s94 F) calls_nil)
def sh85l17 : Shape := [(2, .d (.int .u64)), (8, .d (.int .u64)), (9, .d (.int .u64)), (10, .d (.int .u64)), (11, .d (.int .u64)), (13, .d (.int .u64)), (14, .d (.int .u64)), (15, .d (.int .u64)), (16, .d (.int .u64))]
def sh85l17o0 : Shape := [(2, .d (.int .u64)), (8, .d (.int .u64)), (9, .d (.int .u64)), (10, .d (.int .u64)), (11, .d (.int .u64)), (13, .d (.int .u64)), (14, .d (.int .u64)), (15, .d (.int .u64))]
def outs85l17 : Outs := [(2, sh85l17o0)]
def m85l17 (F : Nat) (n : Nat) {R : Type} (x : Shape.den sh85l17) (K : Ex → St → Option R) : Option R := bits_Div64_l17 F (fun y2 y8 y9 y10 y11 y13 y14 y15 => K (.exit 0) (enc sh85l17o0 (y2, y8, y9, y10, y11, y13, y14, y15, ()))) n x.1 x.2.1 x.2.2.1 x.2.2.2.1 x.2.2.2.2.1 x.2.2.2.2.2.1 x.2.2.2.2.2.2.1 x.2.2.2.2.2.2.2.1 x.2.2.2.2.2.2.2.2.1
def sh85l24 : Shape := [(2, .d (.int .u64)), (8, .d (.int .u64)), (9, .d (.int .u64)), (10, .d (.int .u64)), (14, .d (.int .u64)), (15, .d (.int .u64)), (16, .d (.int .u64)), (17, .d (.int .u64)), (18, .d (.int .u64))]
def sh85l24o2 : Shape := [(2, .d (.int .u64)), (8, .d (.int .u64)), (14, .d (.int .u64)), (15, .d (.int .u64)), (17, .d (.int .u64)), (18, .d (.int .u64))]
def outs85l24 : Outs := [(4, sh85l24o2)]
def m85l24 (F : Nat) (n : Nat) {R : Type} (x : Shape.den sh85l24) (K : Ex → St → Option R) : Option R := bits_Div64_l24 F (fun y2 y8 y14 y15 y17 y18 => K (.exit 2) (enc sh85l24o2 (y2, y8, y14, y15, y17, y18, ()))) n x.1 x.2.1 x.2.2.1 x.2.2.2.1 x.2.2.2.2.1 x.2.2.2.2.2.1 x.2.2.2.2.2.2.1 x.2.2.2.2.2.2.2.1 x.2.2.2.2.2.2.2.2.1
def hs85 (F : Nat) : Nat → Option (Hint (Dens sg85.rtys)) := hintL [(17, { sh := sh85l17, model := m85l17 F F }), (24, { sh := sh85l24, model := m85l24 F F })]
def js85 (F : Nat) : Nat → Option (Hint (Dens sg85.rtys)) := hintL []
theorem ok85l17 (F : Nat) (fr : Frm) (hn : (cx85 F).ntmps = fr.n) (n : Nat) : MSound (R := (Dens sg85.rtys)) Try.prog fr (.loop (sub (bodyOf Try.f85) [1, 1, 1, 1, 1, 1, 1, 1, 1, 1, 1, 1, 1, 1, 0, 0, 0])) sh85l17 (m85l17 F n) :=
  loop_sound (cx := cx85 F) (hs := hs85 F) (js := js85 F) (outs := outs85l17) (conf_all _ rfl) (cs85 F) hn mix (m := fun n => m85l17 F n) (fun _ _ => rfl) (fun n x K => by kernel_rfl) (hok_of (l := []) (by kernel_rfl) obl_nil) n
theorem ok85l24 (F : Nat) (fr : Frm) (hn : (cx85 F).ntmps = fr.n) (n : Nat) : MSound (R := (Dens sg85.rtys)) Try.prog fr (.loop (sub (bodyOf Try.f85) [1, 1, 1, 1, 1, 1, 1, 1, 1, 1, 1, 1, 1, 1, 1, 1, 1, 1, 0, 0, 0])) sh85l24 (m85l24 F n) :=
  loop_sound (cx := cx85 F) (hs := hs85 F) (js := js85 F) (outs := outs85l24) (conf_all _ rfl) (cs85 F) hn mix (m := fun n => m85l24 F n) (fun _ _ => rfl) (fun n x K => by kernel_rfl) (hok_of (l := []) (by kernel_rfl) obl_nil) n
theorem s85 (F : Nat) : CSound Try.prog 85 (con85 F) :=
  fn_sound (fn := Try.f85) (code := (bodyOf Try.f85)) (cx := cx85 F) (hs := hs85 F) (js := js85 F) Try.func85 (by kernel_rfl) (by kernel_rfl) (conf_all _ rfl) (cs85 F) mix (by kernel_rfl) (by kernel_rfl) (fun fr hn => (hok_of (l := [((.loop (sub (bodyOf Try.f85) [1, 1, 1, 1, 1, 1, 1, 1, 1, 1, 1, 1, 1, 1, 0, 0, 0])), { sh := sh85l17, model := m85l17 F F }), ((.loop (sub (bodyOf Try.f85) [1, 1, 1, 1, 1, 1, 1, 1, 1, 1, 1, 1, 1, 1, 1, 1, 1, 1, 0, 0, 0])), { sh := sh85l24, model := m85l24 F F })]) (by kernel_rfl) (obl_cons (ok85l17 F fr hn F) (obl_cons (ok85l24 F fr hn F) obl_nil)))) (fun x => by kernel_rfl)
def sg86 : Sig := { modes := [.ro], sh := [(0, .d (.slice (.int .u64)))], keeps := true, fresh := none, rtys := [(.int .i64)] }
def con86 (F : Nat) : Contract := mkCon sg86 fun x => ref02_size F x.1
def cx86 (F : Nat) : Cx := { types := tys, call := callsL [(58, con58 F)], own := [], ntmps := (0, 18) }
theorem cs86 (F : Nat) : ∀ f c, (cx86 F).call f = some c → CMet Try.prog f c := callsL_sound (calls_cons (s58 F) calls_nil)
def hs86 (F : Nat) : Nat → Option (Hint (Dens sg86.rtys)) := hintL []
def js86 (F : Nat) : Nat → Option (Hint (Dens sg86.rtys)) := hintL []
theorem s86 (F : Nat) : CSound Try.prog 86 (con86 F) :=
  fn_sound (fn := Try.f86) (code := (bodyOf Try.f86)) (cx := cx86 F) (hs := hs86 F) (js := js86 F) Try.func86 (by kernel_rfl) (by kernel_rfl) (conf_all _ rfl) (cs86 F) mix (by kernel_rfl) (by kernel_rfl) (fun fr hn => (hok_of (l := []) (by kernel_rfl) obl_nil)) (fun x => by kernel_rfl)
def sg87 : Sig := { modes := [.ro, .ro], sh := [(0, .d (.slice (.int .u64))), (1, .d (.int .i64))], keeps := false, fresh := some (0, 48), rtys := [(.slice (.int .u64))] }
def con87 (F : Nat) : Contract := mkCon sg87 fun x => ref02_up F x.1 x.2.1
def cx87 (F : Nat) : Cx := { types := tys, call := callsL [(74, con74c F)], own := [4, 13, 60], ntmps := (0, 61) }
theorem cs87 (F : Nat) : ∀ f c, (cx87 F).call f = some c → CMet Try.prog f c := callsL_sound (calls_cons (s74c F) calls_nil)
def sh87l3 : Shape := [(0, .d (.slice (.int .u64))), (1, .d (.int .i64)), (5, .own 5 (.int .u64) 48), (6, .d (.int .i64))]
def sh87l3o0 : Shape := [(5, .own 5 (.int .u64) 48)]
def outs87l3 : Outs := [(2, sh87l3o0)]
def m87l3 (F : Nat) (n : Nat) {R : Type} (x : Shape.den sh87l3) (K : Ex → St → Option R) : Option R := ref02_up_l3 F (fun y5 => K (.exit 0) (enc sh87l3o0 (y5, ()))) n x.1 x.2.1 x.2.2.1 x.2.2.2.1
def hs87 (F : Nat) : Nat → Option (Hint (Dens sg87.rtys)) := hintL [(3, { sh := sh87l3, model := m87l3 F F })]
def js87 (F : Nat) : Nat → Option (Hint (Dens sg87.rtys)) := hintL []
theorem ok87l3 (F : Nat) (fr : Frm) (hn : (cx87 F).ntmps = fr.n) (n : Nat) : MSound (R := (Dens sg87.rtys)) Try.prog fr (.loop (sub (bodyOf Try.f87) [1, 1, 0, 1, 0, 0])) sh87l3 (m87l3 F n) :=
  loop_sound (cx := cx87 F) (hs := hs87 F) (js := js87 F) (outs := outs87l3) (conf_all _ rfl) (cs87 F) hn mix (m := fun n => m87l3 F n) (fun _ _ => rfl) (fun n x K => by kernel_rfl) (hok_of (l := []) (by kernel_rfl) obl_nil) n
theorem s87 (F : Nat) : CSound Try.prog 87 (con87 F) :=
  fn_sound (fn := Try.f87) (code := (bodyOf Try.f87)) (cx := cx87 F) (hs := hs87 F) (js := js87 F) Try.func87 (by kernel_rfl) (by kernel_rfl) (conf_all _ rfl) (cs87 F) mix (by kernel_rfl) (by kernel_rfl) (fun fr hn => (hok_of (l := [((.loop (sub (bodyOf Try.f87) [1, 1, 0, 1, 0, 0])), { sh := sh87l3, model := m87l3 F F })]) (by kernel_rfl) (obl_cons (ok87l3 F fr hn F) obl_nil))) (fun x => by kernel_rfl)
def sg60 : Sig := { modes := [.ro, .ro], sh := [(0, .d (.slice (.int .u64))), (1, .d (.slice (.int .u64)))], keeps := true, fresh := none, rtys := [(.int .i64)] }
def con60 (F : Nat) : Contract := mkCon sg60 fun x => ref02_compare F x.1 x.2.1
def cx60 (F : Nat) : Cx := { types := tys, call := callsL [], own := [], ntmps := (0, 41) }
theorem cs60 (F : Nat) : ∀ f c, (cx60 F).call f = some c → CMet Try.prog f c := callsL_sound calls_nil
def sh60l6 : Shape := [(0, .d (.slice (.int .u64))), (1, .d (.slice (.int .u64))), (5, .d (.int .i64))]
def sh60l6o0 : Shape := []
def sh60l6oret : Shape := [(4, .d (.int .i64))]
def outs60l6 : Outs := [(2, sh60l6o0), (1, sh60l6oret)]
def m60l6 (F : Nat) (n : Nat) {R : Type} (x : Shape.den sh60l6) (K : Ex → St → Option R) : Option R := ref02_compare_l6 F (K (.exit 0) (enc sh60l6o0 (()))) (fun y4 => K .ret (enc sh60l6oret (y4, ()))) n x.1 x.2.1 x.2.2.1
def hs60 (F : Nat) : Nat → Option (Hint (Dens sg60.rtys)) := hintL [(6, { sh := sh60l6, model := m60l6 F F })]
def js60 (F : Nat) : Nat → Option (Hint (Dens sg60.rtys)) := hintL []
theorem ok60l6 (F : Nat) (fr : Frm) (hn : (cx60 F).ntmps = fr.n) (n : Nat) : MSound (R := (Dens sg60.rtys)) Try.prog fr (.loop (sub (bodyOf Try.f60) [1, 1, 0, 1, 0, 0])) sh60l6 (m60l6 F n) :=
  loop_sound (cx := cx60 F) (hs := hs60 F) (js := js60 F) (outs := outs60l6) (conf_all _ rfl) (cs60 F) hn mix (m := fun n => m60l6 F n) (fun _ _ => rfl) (fun n x K => by kernel_rfl) (hok_of (l := []) (by kernel_rfl) obl_nil) n
theorem s60 (F : Nat) : CSound Try.prog 60 (con60 F) :=
  fn_sound (fn := Try.f60) (code := (bodyOf Try.f60)) (cx := cx60 F) (hs := hs60 F) (js := js60 F) Try.func60 (by kernel_rfl) (by kernel_rfl) (conf_all _ rfl) (cs60 F) mix (by kernel_rfl) (by kernel_rfl) (fun fr hn => (hok_of (l := [((.loop (sub (bodyOf Try.f60) [1, 1, 0, 1, 0, 0])), { sh := sh60l6, model := m60l6 F F })]) (by kernel_rfl) (obl_cons (ok60l6 F fr hn F) obl_nil))) (fun x => by kernel_rfl)
def sg81 : Sig := { modes := [.ro, .ro], sh := [(0, .d (.slice (.int .u64))), (1, .d (.slice (.int .u64)))], keeps := false, fresh := none, rtys := [(.slice (.int .u64))] }
def con81 (F : Nat) : Contract := mkCon sg81 fun x => ref02_sub F x.1 x.2.1
def cx81 (F : Nat) : Cx := { types := tys, call := callsL [(90, con90 F), (74, con74 F)], own := [4, 9], ntmps := (0, 41) }
theorem cs81 (F : Nat) : ∀ f c, (cx81 F).call f = some c → CMet Try.prog f c := callsL_sound (calls_cons_ext (s90 F) (calls_cons (s74 F) calls_nil))
def sh81j9 : Shape := [(1, .d (.slice (.int .u64))), (5, .own 5 (.int .u64) 48), (6, .d (.int .u64)), (7, .d (.int .i64)), (8, .d (.int .u64))]
def sh81j9on : Shape := [(1, .d (.slice (.int .u64))), (5, .own 5 (.int .u64) 48), (6, .d (.int .u64)), (7, .d (.int .i64))]
def outs81j9 : Outs := [(0, sh81j9on)]
def m81j9 (F : Nat) {R : Type} (x : Shape.den sh81j9) (K : Ex → St → Option R) : Option R := ref02_sub_j9 F (fun y1 y5 y6 y7 => K .normal (enc sh81j9on (y1, y5, y6, y7, ()))) x.1 x.2.1 x.2.2.1 x.2.2.2.1 x.2.2.2.2.1
def sh81l4 : Shape := [(1, .d (.slice (.int .u64))), (5, .own 5 (.int .u64) 48), (6, .d (.int .u64)), (7, .d (.int .i64))]
def sh81l4o0 : Shape := [(5, .own 5 (.int .u64) 48)]
def outs81l4 : Outs := [(2, sh81l4o0)]
def m81l4 (F : Nat) (n : Nat) {R : Type} (x : Shape.den sh81l4) (K : Ex → St → Option R) : Option R := ref02_sub_l4 F (fun y5 => K (.exit 0) (enc sh81l4o0 (y5, ()))) n x.1 x.2.1 x.2.2.1 x.2.2.2.1
def hs81 (F : Nat) : Nat → Option (Hint (Dens sg81.rtys)) := hintL [(4, { sh := sh81l4, model := m81l4 F F })]
def js81 (F : Nat) : Nat → Option (Hint (Dens sg81.rtys)) := hintL [(9, { sh := sh81j9, model := m81j9 F })]
theorem ok81j9 (F : Nat) (fr : Frm) (hn : (cx81 F).ntmps = fr.n) : MSound (R := (Dens sg81.rtys)) Try.prog fr (sub (bodyOf Try.f81) [1, 1, 1, 0, 1, 0, 0, 1, 0, 0, 1, 1]) sh81j9 (m81j9 F) :=
  join_sound (cx := cx81 F) (hs := hs81 F) (js := js81 F) (outs := outs81j9) (conf_all _ rfl) (cs81 F) hn mix (fun x K => by kernel_rfl) (hok_of (l := []) (by kernel_rfl) obl_nil)
theorem ok81l4 (F : Nat) (fr : Frm) (hn : (cx81 F).ntmps = fr.n) (n : Nat) : MSound (R := (Dens sg81.rtys)) Try.prog fr (.loop (sub (bodyOf Try.f81) [1, 1, 1, 0, 1, 0, 0])) sh81l4 (m81l4 F n) :=
  loop_sound (cx := cx81 F) (hs := hs81 F) (js := js81 F) (outs := outs81l4) (conf_all _ rfl) (cs81 F) hn mix (m := fun n => m81l4 F n) (fun _ _ => rfl) (fun n x K => by kernel_rfl) (hok_of (l := [((sub (bodyOf Try.f81) [1, 1, 1, 0, 1, 0, 0, 1, 0, 0, 1, 1]), { sh := sh81j9, model := m81j9 F })]) (by kernel_rfl) (obl_cons (ok81j9 F fr hn) obl_nil)) n
theorem s81 (F : Nat) : CSound Try.prog 81 (con81 F) :=
  fn_sound (fn := Try.f81) (code := (bodyOf Try.f81)) (cx := cx81 F) (hs := hs81 F) (js := js81 F) Try.func81 (by kernel_rfl) (by kernel_rfl) (conf_all _ rfl) (cs81 F) mix (by kernel_rfl) (by kernel_rfl) (fun fr hn => (hok_of (l := [((.loop (sub (bodyOf Try.f81) [1, 1, 1, 0, 1, 0, 0])), { sh := sh81l4, model := m81l4 F F })]) (by kernel_rfl) (obl_cons (ok81l4 F fr hn F) obl_nil))) (fun x => by kernel_rfl)
def sg81w : Sig := { modes := [.ro, .wr 48], sh := [(0, .d (.slice (.int .u64))), (1, .own 1 (.int .u64) 48)], keeps := false, fresh := none, rtys := [(.slice (.int .u64)), (.slice (.int .u64))] }
def con81w (F : Nat) : Contract := mkCon sg81w fun x => ref02_subw F x.1 x.2.1
def cx81w (F : Nat) : Cx := { types := tys, call := callsL [(90, con90 F), (74, con74 F)], own := [4, 9], ntmps := (2, 41) }
theorem cs81w (F : Nat) : ∀ f c, (cx81w F).call f = some c → CMet Try.prog f c := callsL_sound (calls_cons_ext (s90 F) (calls_cons (s74 F) calls_nil))
def sh81wj9 : Shape := [(1, .own 1 (.int .u64) 48), (5, .own 5 (.int .u64) 48), (6, .d (.int .u64)), (7, .d (.int .i64)), (8, .d (.int .u64))]
def sh81wj9on : Shape := [(1, .own 1 (.int .u64) 48), (5, .own 5 (.int .u64) 48), (6, .d (.int .u64)), (7, .d (.int .i64))]
def outs81wj9 : Outs := [(0, sh81wj9on)]
def m81wj9 (F : Nat) {R : Type} (x : Shape.den sh81wj9) (K : Ex → St → Option R) : Option R := ref02_subw_j9 F (fun y1 y5 y6 y7 => K .normal (enc sh81wj9on (y1, y5, y6, y7, ()))) x.1 x.2.1 x.2.2.1 x.2.2.2.1 x.2.2.2.2.1
def sh81wl4 : Shape := [(1, .own 1 (.int .u64) 48), (5, .own 5 (.int .u64) 48), (6, .d (.int .u64)), (7, .d (.int .i64))]
def sh81wl4o0 : Shape := [(1, .own 1 (.int .u64) 48), (5, .own 5 (.int .u64) 48)]
def outs81wl4 : Outs := [(2, sh81wl4o0)]
def m81wl4 (F : Nat) (n : Nat) {R : Type} (x : Shape.den sh81wl4) (K : Ex → St → Option R) : Option R := ref02_subw_l4 F (fun y1 y5 => K (.exit 0) (enc sh81wl4o0 (y1, y5, ()))) n x.1 x.2.1 x.2.2.1 x.2.2.2.1
def hs81w (F : Nat) : Nat → Option (Hint (Dens sg81w.rtys)) := hintL [(4, { sh := sh81wl4, model := m81wl4 F F })]
def js81w (F : Nat) : Nat → Option (Hint (Dens sg81w.rtys)) := hintL [(9, { sh := sh81wj9, model := m81wj9 F })]
theorem ok81wj9 (F : Nat) (fr : Frm) (hn : (cx81w F).ntmps = fr.n) : MSound (R := (Dens sg81w.rtys)) Try.prog fr (sub (bodyOf Try.f81) [1, 1, 1, 0, 1, 0, 0, 1, 0, 0, 1, 1]) sh81wj9 (m81wj9 F) :=
  join_sound (cx := cx81w F) (hs := hs81w F) (js := js81w F) (outs := outs81wj9) (conf_all _ rfl) (cs81w F) hn mix (fun x K => by kernel_rfl) (hok_of (l := []) (by kernel_rfl) obl_nil)
theorem ok81wl4 (F : Nat) (fr : Frm) (hn : (cx81w F).ntmps = fr.n) (n : Nat) : MSound (R := (Dens sg81w.rtys)) Try.prog fr (.loop (sub (bodyOf Try.f81) [1, 1, 1, 0, 1, 0, 0])) sh81wl4 (m81wl4 F n) :=
  loop_sound (cx := cx81w F) (hs := hs81w F) (js := js81w F) (outs := outs81wl4) (conf_all _ rfl) (cs81w F) hn mix (m := fun n => m81wl4 F n) (fun _ _ => rfl) (fun n x K => by kernel_rfl) (hok_of (l := [((sub (bodyOf Try.f81) [1, 1, 1, 0, 1, 0, 0, 1, 0, 0, 1, 1]), { sh := sh81wj9, model := m81wj9 F })]) (by kernel_rfl) (obl_cons (ok81wj9 F fr hn) obl_nil)) n
theorem s81w (F : Nat) : CSound Try.prog 81 (con81w F) :=
  fn_sound (fn := Try.f81) (code := (bodyOf Try.f81)) (cx := cx81w F) (hs := hs81w F) (js := js81w F) Try.func81 (by kernel_rfl) (by kernel_rfl) (conf_all _ rfl) (cs81w F) mix (by kernel_rfl) (by kernel_rfl) (fun fr hn => (hok_of (l := [((.loop (sub (bodyOf Try.f81) [1, 1, 1, 0, 1, 0, 0])), { sh := sh81wl4, model := m81wl4 F F })]) (by kernel_rfl) (obl_cons (ok81wl4 F fr hn F) obl_nil))) (fun x => by kernel_rfl)
def sg88 : Sig := { modes := [.con 48], sh := [(0, .own 0 (.int .u64) 48)], keeps := false, fresh := some (0, 48), rtys := [(.slice (.int .u64))] }
def con88 (F : Nat) : Contract := mkCon sg88 fun x => ref02_half F x.1
def cx88 (F : Nat) : Cx := { types := tys, call := callsL [(74, con74c F)], own := [2, 34], ntmps := (0, 35) }
theorem cs88 (F : Nat) : ∀ f c, (cx88 F).call f = some c → CMet Try.prog f c := callsL_sound (calls_cons (s74c F) calls_nil)
def sh88l2 : Shape := [(0, .own 0 (.int .u64) 48), (3, .d (.int .i64))]
def sh88l2o0 : Shape := [(0, .own 0 (.int .u64) 48)]
def outs88l2 : Outs := [(2, sh88l2o0)]
def m88l2 (F : Nat) (n : Nat) {R : Type} (x : Shape.den sh88l2) (K : Ex → St → Option R) : Option R := ref02_half_l2 F (fun y0 => K (.exit 0) (enc sh88l2o0 (y0, ()))) n x.1 x.2.1
def hs88 (F : Nat) : Nat → Option (Hint (Dens sg88.rtys)) := hintL [(2, { sh := sh88l2, model := m88l2 F F })]
def js88 (F : Nat) : Nat → Option (Hint (Dens sg88.rtys)) := hintL []
theorem ok88l2 (F : Nat) (fr : Frm) (hn : (cx88 F).ntmps = fr.n) (n : Nat) : MSound (R := (Dens sg88.rtys)) Try.prog fr (.loop (sub (bodyOf Try.f88) [1, 0, 1, 0, 0])) sh88l2 (m88l2 F n) :=
  loop_sound (cx := cx88 F) (hs := hs88 F) (js := js88 F) (outs := outs88l2) (conf_all _ rfl) (cs88 F) hn mix (m := fun n => m88l2 F n) (fun _ _ => rfl) (fun n x K => by kernel_rfl) (hok_of (l := []) (by kernel_rfl) obl_nil) n
theorem s88 (F : Nat) : CSound Try.prog 88 (con88 F) :=
  fn_sound (fn := Try.f88) (code := (bodyOf Try.f88)) (cx := cx88 F) (hs := hs88 F) (js := js88 F) Try.func88 (by kernel_rfl) (by kernel_rfl) (conf_all _ rfl) (cs88 F) mix (by kernel_rfl) (by kernel_rfl) (fun fr hn => (hok_of (l := [((.loop (sub (bodyOf Try.f88) [1, 0, 1, 0, 0])), { sh := sh88l2, model := m88l2 F F })]) (by kernel_rfl) (obl_cons (ok88l2 F fr hn F) obl_nil))) (fun x => by kernel_rfl)
def sg79 : Sig := { modes := [.ro, .ro], sh := [(0, .d (.slice (.int .u64))), (1, .d (.slice (.int .u64)))], keeps := false, fresh := none, rtys := [(.slice (.int .u64)), (.slice (.int .u64))] }
def con79 (F : Nat) : Contract := mkCon sg79 fun x => ref02_divmod F x.1 x.2.1
def cx79 (F : Nat) : Cx := { types := tys, call := callsL [(85, con85 F), (74, con74 F), (86, con86 F), (87, con87 F), (60, con60 F), (81, con81w F), (88, con88 F)], own := [4, 5, 15, 46, 60, 85], ntmps := (0, 89) }
theorem cs79 (F : Nat) : ∀ f c, (cx79 F).call f = some c → CMet Try.prog f c := callsL_sound (calls_cons (s85 F) (calls_cons (s74 F) (calls_cons (s86 F) (calls_cons (s87 F) (calls_cons (s60 F) (calls_cons (s81w F) (calls_cons (s88 F) calls_nil)))))))
def sh79l5 : Shape := [(0, .d (.slice (.int .u64))), (1, .d (.slice (.int .u64))), (6, .own 6 (.int .u64) 48), (7, .d (.int .u64)), (8, .d (.int .i64))]
def sh79l5o0 : Shape := [(6, .own 6 (.int .u64) 48), (7, .d (.int .u64))]
def outs79l5 : Outs := [(2, sh79l5o0)]
def m79l5 (F : Nat) (n : Nat) {R : Type} (x : Shape.den sh79l5) (K : Ex → St → Option R) : Option R := ref02_divmod_l5 F (fun y6 y7 => K (.exit 0) (enc sh79l5o0 (y6, y7, ()))) n x.1 x.2.1 x.2.2.1 x.2.2.2.1 x.2.2.2.2.1
def sh79l15 : Shape := [(6, .own 6 (.int .u64) 48), (9, .d (.slice (.int .u64))), (11, .own 11 (.int .u64) 48), (12, .d (.int .i64))]
def sh79l15o2 : Shape := [(6, .own 6 (.int .u64) 48), (9, .d (.slice (.int .u64)))]
def outs79l15 : Outs := [(4, sh79l15o2)]
def m79l15 (F : Nat) (n : Nat) {R : Type} (x : Shape.den sh79l15) (K : Ex → St → Option R) : Option R := ref02_divmod_l15 F (fun y6 y9 => K (.exit 2) (enc sh79l15o2 (y6, y9, ()))) n x.1 x.2.1 x.2.2.1 x.2.2.2.1
def hs79 (F : Nat) : Nat → Option (Hint (Dens sg79.rtys)) := hintL [(5, { sh := sh79l5, model := m79l5 F F }), (15, { sh := sh79l15, model := m79l15 F F })]
def js79 (F : Nat) : Nat → Option (Hint (Dens sg79.rtys)) := hintL []
theorem ok79l5 (F : Nat) (fr : Frm) (hn : (cx79 F).ntmps = fr.n) (n : Nat) : MSound (R := (Dens sg79.rtys)) Try.prog fr (.loop (sub (bodyOf Try.f79) [1, 1, 0, 1, 0, 1, 0, 1, 0, 0])) sh79l5 (m79l5 F n) :=
  loop_sound (cx := cx79 F) (hs := hs79 F) (js := js79 F) (outs := outs79l5) (conf_all _ rfl) (cs79 F) hn mix (m := fun n => m79l5 F n) (fun _ _ => rfl) (fun n x K => by kernel_rfl) (hok_of (l := []) (by kernel_rfl) obl_nil) n
theorem ok79l15 (F : Nat) (fr : Frm) (hn : (cx79 F).ntmps = fr.n) (n : Nat) : MSound (R := (Dens sg79.rtys)) Try.prog fr (.loop (sub (bodyOf Try.f79) [1, 1, 1, 1, 1, 1, 1, 0, 1, 0, 0])) sh79l15 (m79l15 F n) :=
  loop_sound (cx := cx79 F) (hs := hs79 F) (js := js79 F) (outs := outs79l15) (conf_all _ rfl) (cs79 F) hn mix (m := fun n => m79l15 F n) (fun _ _ => rfl) (fun n x K => by kernel_rfl) (hok_of (l := []) (by kernel_rfl) obl_nil) n
theorem s79 (F : Nat) : CSound Try.prog 79 (con79 F) :=
  fn_sound (fn := Try.f79) (code := (bodyOf Try.f79)) (cx := cx79 F) (hs := hs79 F) (js := js79 F) Try.func79 (by kernel_rfl) (by kernel_rfl) (conf_all _ rfl) (cs79 F) mix (by kernel_rfl) (by kernel_rfl) (fun fr hn => (hok_of (l := [((.loop (sub (bodyOf Try.f79) [1, 1, 0, 1, 0, 1, 0, 1, 0, 0])), { sh := sh79l5, model := m79l5 F F }), ((.loop (sub (bodyOf Try.f79) [1, 1, 1, 1, 1, 1, 1, 0, 1, 0, 0])), { sh := sh79l15, model := m79l15 F F })]) (by kernel_rfl) (obl_cons (ok79l5 F fr hn F) (obl_cons (ok79l15 F fr hn F) obl_nil)))) (fun x => by kernel_rfl)
def sg80 : Sig := { modes := [.ro, .ro], sh := [(0, .d (.slice (.int .u64))), (1, .d (.slice (.int .u64)))], keeps := false, fresh := none, rtys := [(.slice (.int .u64))] }
def con80 (F : Nat) : Contract := mkCon sg80 fun x => ref02_add F x.1 x.2.1
def cx80 (F : Nat) : Cx := { types := tys, call := callsL [(89, con89 F), (74, con74 F)], own := [4, 16], ntmps := (0, 51) }
theorem cs80 (F : Nat) : ∀ f c, (cx80 F).call f = some c → CMet Try.prog f c := callsL_sound (calls_cons_ext (s89 F) (calls_cons (s74 F) calls_nil))
def sh80j11 : Shape := [(1, .d (.slice (.int .u64))), (5, .own 5 (.int .u64) 48), (6, .d (.int .u64)), (7, .d (.int .i64)), (8, .d (.int .u64))]
def sh80j11on : Shape := [(1, .d (.slice (.int .u64))), (5, .own 5 (.int .u64) 48), (6, .d (.int .u64)), (7, .d (.int .i64))]
def outs80j11 : Outs := [(0, sh80j11on)]
def m80j11 (F : Nat) {R : Type} (x : Shape.den sh80j11) (K : Ex → St → Option R) : Option R := ref02_add_j11 F (fun y1 y5 y6 y7 => K .normal (enc sh80j11on (y1, y5, y6, y7, ()))) x.1 x.2.1 x.2.2.1 x.2.2.2.1 x.2.2.2.2.1
def sh80l6 : Shape := [(1, .d (.slice (.int .u64))), (5, .own 5 (.int .u64) 48), (6, .d (.int .u64)), (7, .d (.int .i64))]
def sh80l6o0 : Shape := [(5, .own 5 (.int .u64) 48), (6, .d (.int .u64))]
def outs80l6 : Outs := [(2, sh80l6o0)]
def m80l6 (F : Nat) (n : Nat) {R : Type} (x : Shape.den sh80l6) (K : Ex → St → Option R) : Option R := ref02_add_l6 F (fun y5 y6 => K (.exit 0) (enc sh80l6o0 (y5, y6, ()))) n x.1 x.2.1 x.2.2.1 x.2.2.2.1
def sh80j3 : Shape := [(0, .d (.slice (.int .u64))), (1, .d (.slice (.int .u64)))]
def sh80j3oret : Shape := [(4, .d (.slice (.int .u64)))]
def outs80j3 : Outs := [(1, sh80j3oret)]
def m80j3 (F : Nat) {R : Type} (x : Shape.den sh80j3) (K : Ex → St → Option R) : Option R := ref02_add_j3 F (fun y4 => K .ret (enc sh80j3oret (y4, ()))) x.1 x.2.1
def hs80 (F : Nat) : Nat → Option (Hint (Dens sg80.rtys)) := hintL [(6, { sh := sh80l6, model := m80l6 F F })]
def js80 (F : Nat) : Nat → Option (Hint (Dens sg80.rtys)) := hintL [(11, { sh := sh80j11, model := m80j11 F }), (3, { sh := sh80j3, model := m80j3 F })]
theorem ok80j11 (F : Nat) (fr : Frm) (hn : (cx80 F).ntmps = fr.n) : MSound (R := (Dens sg80.rtys)) Try.prog fr (sub (bodyOf Try.f80) [1, 1, 1, 1, 0, 1, 0, 0, 1, 0, 0, 1, 1]) sh80j11 (m80j11 F) :=
  join_sound (cx := cx80 F) (hs := hs80 F) (js := js80 F) (outs := outs80j11) (conf_all _ rfl) (cs80 F) hn mix (fun x K => by kernel_rfl) (hok_of (l := []) (by kernel_rfl) obl_nil)
theorem ok80l6 (F : Nat) (fr : Frm) (hn : (cx80 F).ntmps = fr.n) (n : Nat) : MSound (R := (Dens sg80.rtys)) Try.prog fr (.loop (sub (bodyOf Try.f80) [1, 1, 1, 1, 0, 1, 0, 0])) sh80l6 (m80l6 F n) :=
  loop_sound (cx := cx80 F) (hs := hs80 F) (js := js80 F) (outs := outs80l6) (conf_all _ rfl) (cs80 F) hn mix (m := fun n => m80l6 F n) (fun _ _ => rfl) (fun n x K => by kernel_rfl) (hok_of (l := [((sub (bodyOf Try.f80) [1, 1, 1, 1, 0, 1, 0, 0, 1, 0, 0, 1, 1]), { sh := sh80j11, model := m80j11 F })]) (by kernel_rfl) (obl_cons (ok80j11 F fr hn) obl_nil)) n
theorem ok80j3 (F : Nat) (fr : Frm) (hn : (cx80 F).ntmps = fr.n) : MSound (R := (Dens sg80.rtys)) Try.prog fr (sub (bodyOf Try.f80) [1, 1]) sh80j3 (m80j3 F) :=
  join_sound (cx := cx80 F) (hs := hs80 F) (js := js80 F) (outs := outs80j3) (conf_all _ rfl) (cs80 F) hn mix (fun x K => by kernel_rfl) (hok_of (l := [((.loop (sub (bodyOf Try.f80) [1, 1, 1, 1, 0, 1, 0, 0])), { sh := sh80l6, model := m80l6 F F })]) (by kernel_rfl) (obl_cons (ok80l6 F fr hn F) obl_nil))
theorem s80 (F : Nat) : CSound Try.prog 80 (con80 F) :=
  fn_sound (fn := Try.f80) (code := (bodyOf Try.f80)) (cx := cx80 F) (hs := hs80 F) (js := js80 F) Try.func80 (by kernel_rfl) (by kernel_rfl) (conf_all _ rfl) (cs80 F) mix (by kernel_rfl) (by kernel_rfl) (fun fr hn => (hok_of (l := [((sub (bodyOf Try.f80) [1, 1]), { sh := sh80j3, model := m80j3 F })]) (by kernel_rfl) (obl_cons (ok80j3 F fr hn) obl_nil))) (fun x => by kernel_rfl)
def sg69 : Sig := { modes := [.ro, .ro], sh := [(0, .d (.pair .bool (.pair (.arr 4 (.int .u64)) .unit))), (1, .d (.pair .bool (.pair (.arr 4 (.int .u64)) .unit)))], keeps := true, fresh := none, rtys := [(.pair .bool (.pair (.arr 4 (.int .u64)) .unit)), (.pair .bool (.pair (.arr 4 (.int .u64)) .unit)), .bool] }
def con69 (F : Nat) : Contract := mkCon sg69 fun x => ref02_DivMod F x.1 x.2.1
def cx69 (F : Nat) : Cx := { types := tys, call := callsL [(78, con78 F), (59, con59 F), (61, con61 F), (79, con79 F), (80, con80 F), (81, con81 F), (75, con75 F)], own := [], ntmps := (0, 61) }
theorem cs69 (F : Nat) : ∀ f c, (cx69 F).call f = some c → CMet Try.prog f c := callsL_sound (calls_cons (s78 F) (calls_cons (s59 F) (calls_cons (s61 F) (calls_cons (s79 F) (calls_cons (s80 F) (calls_cons (s81 F) (calls_cons (s75 F) calls_nil)))))))
def sh69j6 : Shape := [(2, .box 2 (.pair .bool (.pair (.arr 4 (.int .u64)) .unit))), (3, .box 3 (.pair .bool (.pair (.arr 4 (.int .u64)) .unit))), (4, .box 4 (.pair .bool (.pair (.arr 4 (.int .u64)) .unit))), (5, .box 5 (.pair .bool (.pair (.arr 4 (.int .u64)) .unit))), (7, .d (.slice (.int .u64))), (8, .d (.slice (.int .u64))), (32, .d .bool)]
def sh69j6on : Shape := [(2, .box 2 (.pair .bool (.pair (.arr 4 (.int .u64)) .unit))), (3, .box 3 (.pair .bool (.pair (.arr 4 (.int .u64)) .unit))), (4, .box 4 (.pair .bool (.pair (.arr 4 (.int .u64)) .unit))), (5, .box 5 (.pair .bool (.pair (.arr 4 (.int .u64)) .unit))), (7, .d (.slice (.int .u64))), (8, .d (.slice (.int .u64)))]
def outs69j6 : Outs := [(0, sh69j6on)]
def m69j6 (F : Nat) {R : Type} (x : Shape.den sh69j6) (K : Ex → St → Option R) : Option R := ref02_DivMod_j6 F (fun y2 y3 y4 y5 y7 y8 => K .normal (enc sh69j6on (y2, y3, y4, y5, y7, y8, ()))) x.1 x.2.1 x.2.2.1 x.2.2.2.1 x.2.2.2.2.1 x.2.2.2.2.2.1 x.2.2.2.2.2.2.1
def sh69j7 : Shape := [(2, .box 2 (.pair .bool (.pair (.arr 4 (.int .u64)) .unit))), (3, .box 3 (.pair .bool (.pair (.arr 4 (.int .u64)) .unit))), (4, .box 4 (.pair .bool (.pair (.arr 4 (.int .u64)) .unit))), (5, .box 5 (.pair .bool (.pair (.arr 4 (.int .u64)) .unit))), (7, .d (.slice (.int .u64))), (8, .d (.slice (.int .u64)))]
def sh69j7oret : Shape := [(4, .box 4 (.pair .bool (.pair (.arr 4 (.int .u64)) .unit))), (5, .box 5 (.pair .bool (.pair (.arr 4 (.int .u64)) .unit))), (6, .d .bool)]
def outs69j7 : Outs := [(1, sh69j7oret)]
def m69j7 (F : Nat) {R : Type} (x : Shape.den sh69j7) (K : Ex → St → Option R) : Option R := ref02_DivMod_j7 F (fun y4 y5 y6 => K .ret (enc sh69j7oret (y4, y5, y6, ()))) x.1 x.2.1 x.2.2.1 x.2.2.2.1 x.2.2.2.2.1 x.2.2.2.2.2.1
def hs69 (F : Nat) : Nat → Option (Hint (Dens sg69.rtys)) := hintL []
def js69 (F : Nat) : Nat → Option (Hint (Dens sg69.rtys)) := hintL [(6, { sh := sh69j6, model := m69j6 F }), (7, { sh := sh69j7, model := m69j7 F })]
theorem ok69j6 (F : Nat) (fr : Frm) (hn : (cx69 F).ntmps = fr.n) : MSound (R := (Dens sg69.rtys)) Try.prog fr (sub (bodyOf Try.f69) [1, 1, 1, 1, 0, 1]) sh69j6 (m69j6 F) :=
  join_sound (cx := cx69 F) (hs := hs69 F) (js := js69 F) (outs := outs69j6) (conf_all _ rfl) (cs69 F) hn mix (fun x K => by kernel_rfl) (hok_of (l := []) (by kernel_rfl) obl_nil)
theorem ok69j7 (F : Nat) (fr : Frm) (hn : (cx69 F).ntmps = fr.n) : MSound (R := (Dens sg69.rtys)) Try.prog fr (sub (bodyOf Try.f69) [1, 1, 1, 1, 1]) sh69j7 (m69j7 F) :=
  join_sound (cx := cx69 F) (hs := hs69 F) (js := js69 F) (outs := outs69j7) (conf_all _ rfl) (cs69 F) hn mix (fun x K => by kernel_rfl) (hok_of (l := []) (by kernel_rfl) obl_nil)
theorem s69 (F : Nat) : CSound Try.prog 69 (con69 F) :=
  fn_sound (fn := Try.f69) (code := (bodyOf Try.f69)) (cx := cx69 F) (hs := hs69 F) (js := js69 F) Try.func69 (by kernel_rfl) (by kernel_rfl) (conf_all _ rfl) (cs69 F) mix (by kernel_rfl) (by kernel_rfl) (fun fr hn => (hok_of (l := [((sub (bodyOf Try.f69) [1, 1, 1, 1, 0, 1]), { sh := sh69j6, model := m69j6 F }), ((sub (bodyOf Try.f69) [1, 1, 1, 1, 1]), { sh := sh69j7, model := m69j7 F })]) (by kernel_rfl) (obl_cons (ok69j6 F fr hn) (obl_cons (ok69j7 F fr hn) obl_nil)))) (fun x => by kernel_rfl)
def sg70 : Sig := { modes := [.ro], sh := [(0, .d (.pair .bool (.pair (.arr 4 (.int .u64)) .unit)))], keeps := true, fresh := none, rtys := [(.int .u64), .bool] }
def con70 (F : Nat) : Contract := mkCon sg70 fun x => ref02_Unsigned F x.1
def cx70 (F : Nat) : Cx := { types := tys, call := callsL [(78, con78 F), (61, con61 F)], own := [], ntmps := (0, 19) }
theorem cs70 (F : Nat) : ∀ f c, (cx70 F).call f = some c → CMet Try.prog f c := callsL_sound (calls_cons (s78 F) (calls_cons (s61 F) calls_nil))
def hs70 (F : Nat) : Nat → Option (Hint (Dens sg70.rtys)) := hintL []
def js70 (F : Nat) : Nat → Option (Hint (Dens sg70.rtys)) := hintL []
theorem s70 (F : Nat) : CSound Try.prog 70 (con70 F) :=
  fn_sound (fn := Try.f70) (code := (bodyOf Try.f70)) (cx := cx70 F) (hs := hs70 F) (js := js70 F) Try.func70 (by kernel_rfl) (by kernel_rfl) (conf_all _ rfl) (cs70 F) mix (by kernel_rfl) (by kernel_rfl) (fun fr hn => (hok_of (l := []) (by kernel_rfl) obl_nil)) (fun x => by kernel_rfl)
def sg54 : Sig := { modes := [.ro, .ro], sh := [(0, .d (.slice (.int .u8))), (1, .d (.pair .bool (.pair (.arr 4 (.int .u64)) .unit)))], keeps := false, fresh := some (0, 5), rtys := [(.slice (.int .u8))] }
def con54 (F : Nat) : Contract := mkCon sg54 fun x => ref05_AppendWide F x.1 x.2.1
def cx54 (F : Nat) : Cx := { types := tys, call := callsL [(35, con35 F), (69, con69 F), (70, con70 F), (59, con59 F)], own := [4, 14], ntmps := (0, 65) }
theorem cs54 (F : Nat) : ∀ f c, (cx54 F).call f = some c → CMet Try.prog f c := callsL_sound (calls_cons (s35 F) (calls_cons (s69 F) (calls_cons (s70 F) (calls_cons (s59 F) calls_nil))))
def sh54l9 : Shape := [(5, .own 5 (.int .u8) 5), (7, .box 7 (.pair .bool (.pair (.arr 4 (.int .u64)) .unit))), (8, .box 8 (.pair .bool (.pair (.arr 4 (.int .u64)) .unit))), (12, .d (.int .u8))]
def sh54l9o0 : Shape := [(5, .own 5 (.int .u8) 5), (12, .d (.int .u8))]
def outs54l9 : Outs := [(2, sh54l9o0)]
def m54l9 (F : Nat) (n : Nat) {R : Type} (x : Shape.den sh54l9) (K : Ex → St → Option R) : Option R := ref05_AppendWide_l9 F (fun y5 y12 => K (.exit 0) (enc sh54l9o0 (y5, y12, ()))) n x.1 x.2.1 x.2.2.1 x.2.2.2.1
def sh54j9 : Shape := [(5, .own 5 (.int .u8) 5), (7, .box 7 (.pair .bool (.pair (.arr 4 (.int .u64)) .unit))), (8, .box 8 (.pair .bool (.pair (.arr 4 (.int .u64)) .unit))), (12, .d (.int .u8))]
def sh54j9oret : Shape := [(4, .own 4 (.int .u8) 5)]
def outs54j9 : Outs := [(1, sh54j9oret)]
def m54j9 (F : Nat) {R : Type} (x : Shape.den sh54j9) (K : Ex → St → Option R) : Option R := ref05_AppendWide_j9 F (fun y4 => K .ret (enc sh54j9oret (y4, ()))) x.1 x.2.1 x.2.2.1 x.2.2.2.1
def hs54 (F : Nat) : Nat → Option (Hint (Dens sg54.rtys)) := hintL [(9, { sh := sh54l9, model := m54l9 F F })]
def js54 (F : Nat) : Nat → Option (Hint (Dens sg54.rtys)) := hintL [(9, { sh := sh54j9, model := m54j9 F })]
theorem ok54l9 (F : Nat) (fr : Frm) (hn : (cx54 F).ntmps = fr.n) (n : Nat) : MSound (R := (Dens sg54.rtys)) Try.prog fr (.loop (sub (bodyOf Try.f54) [1, 1, 1, 1, 1, 1, 1, 1, 0, 0, 0])) sh54l9 (m54l9 F n) :=
  loop_sound (cx := cx54 F) (hs := hs54 F) (js := js54 F) (outs := outs54l9) (conf_all _ rfl) (cs54 F) hn mix (m := fun n => m54l9 F n) (fun _ _ => rfl) (fun n x K => by kernel_rfl) (hok_of (l := []) (by kernel_rfl) obl_nil) n
theorem ok54j9 (F : Nat) (fr : Frm) (hn : (cx54 F).ntmps = fr.n) : MSound (R := (Dens sg54.rtys)) Try.prog fr (sub (bodyOf Try.f54) [1, 1, 1, 1, 1, 1, 1, 1]) sh54j9 (m54j9 F) :=
  join_sound (cx := cx54 F) (hs := hs54 F) (js := js54 F) (outs := outs54j9) (conf_all _ rfl) (cs54 F) hn mix (fun x K => by kernel_rfl) (hok_of (l := [((.loop (sub (bodyOf Try.f54) [1, 1, 1, 1, 1, 1, 1, 1, 0, 0, 0])), { sh := sh54l9, model := m54l9 F F })]) (by kernel_rfl) (obl_cons (ok54l9 F fr hn F) obl_nil))
theorem s54 (F : Nat) : CSound Try.prog 54 (con54 F) :=
  fn_sound (fn := Try.f54) (code := (bodyOf Try.f54)) (cx := cx54 F) (hs := hs54 F) (js := js54 F) Try.func54 (by kernel_rfl) (by kernel_rfl) (conf_all _ rfl) (cs54 F) mix (by kernel_rfl) (by kernel_rfl) (fun fr hn => (hok_of (l := [((sub (bodyOf Try.f54) [1, 1, 1, 1, 1, 1, 1, 1]), { sh := sh54j9, model := m54j9 F })]) (by kernel_rfl) (obl_cons (ok54j9 F fr hn) obl_nil))) (fun x => by kernel_rfl)
def sg82 : Sig := { modes := [.ro, .ro, .ro], sh := [(0, .d (.slice (.int .u8))), (1, .d (.int .i64)), (2, .d (.int .i64))], keeps := false, fresh := none, rtys := [(.slice (.int .u8)), (.int .i64)] }
def con82 (F : Nat) : Contract := mkCon sg82 fun x => ref05_groups F x.1 x.2.1 x.2.2.1
def cx82 (F : Nat) : Cx := { types := tys, call := callsL [], own := [6], ntmps := (0, 47) }
theorem cs82 (F : Nat) : ∀ f c, (cx82 F).call f = some c → CMet Try.prog f c := callsL_sound calls_nil
def sh82l4 : Shape := [(0, .d (.slice (.int .u8))), (1, .d (.int .i64)), (2, .d (.int .i64)), (8, .d (.int .i64))]
def sh82l4o0 : Shape := [(2, .d (.int .i64)), (8, .d (.int .i64))]
def sh82l4oret : Shape := [(6, .d (.slice (.int .u8))), (7, .d (.int .i64))]
def outs82l4 : Outs := [(2, sh82l4o0), (1, sh82l4oret)]
def m82l4 (F : Nat) (n : Nat) {R : Type} (x : Shape.den sh82l4) (K : Ex → St → Option R) : Option R := ref05_groups_l4 F (fun y2 y8 => K (.exit 0) (enc sh82l4o0 (y2, y8, ()))) (fun y6 y7 => K .ret (enc sh82l4oret (y6, y7, ()))) n x.1 x.2.1 x.2.2.1 x.2.2.2.1
def hs82 (F : Nat) : Nat → Option (Hint (Dens sg82.rtys)) := hintL [(4, { sh := sh82l4, model := m82l4 F F })]
def js82 (F : Nat) : Nat → Option (Hint (Dens sg82.rtys)) := hintL []
theorem ok82l4 (F : Nat) (fr : Frm) (hn : (cx82 F).ntmps = fr.n) (n : Nat) : MSound (R := (Dens sg82.rtys)) Try.prog fr (.loop (sub (bodyOf Try.f82) [1, 1, 1, 0, 0, 0])) sh82l4 (m82l4 F n) :=
  loop_sound (cx := cx82 F) (hs := hs82 F) (js := js82 F) (outs := outs82l4) (conf_all _ rfl) (cs82 F) hn mix (m := fun n => m82l4 F n) (fun _ _ => rfl) (fun n x K => by kernel_rfl) (hok_of (l := []) (by kernel_rfl) obl_nil) n
theorem s82 (F : Nat) : CSound Try.prog 82 (con82 F) :=
  fn_sound (fn := Try.f82) (code := (bodyOf Try.f82)) (cx := cx82 F) (hs := hs82 F) (js := js82 F) Try.func82 (by kernel_rfl) (by kernel_rfl) (conf_all _ rfl) (cs82 F) mix (by kernel_rfl) (by kernel_rfl) (fun fr hn => (hok_of (l := [((.loop (sub (bodyOf Try.f82) [1, 1, 1, 0, 0, 0])), { sh := sh82l4, model := m82l4 F F })]) (by kernel_rfl) (obl_cons (ok82l4 F fr hn F) obl_nil))) (fun x => by kernel_rfl)
def sg71 : Sig := { modes := [.ro, .ro], sh := [(0, .d (.slice (.int .u8))), (1, .d (.int .i64))], keeps := true, fresh := none, rtys := [(.int .u64), (.int .i64), (.int .i64)] }
def con71 (F : Nat) : Contract := mkCon sg71 fun x => ref05_Read F x.1 x.2.1
def cx71 (F : Nat) : Cx := { types := tys, call := callsL [(82, con82 F)], own := [], ntmps := (0, 64) }
theorem cs71 (F : Nat) : ∀ f c, (cx71 F).call f = some c → CMet Try.prog f c := callsL_sound (calls_cons (s82 F) calls_nil)
def sh71l9 : Shape := [(1, .d (.int .i64)), (7, .d (.slice (.int .u8))), (10, .d (.int .u64)), (11, .d (.int .i64))]
def sh71l9o0 : Shape := [(1, .d (.int .i64)), (7, .d (.slice (.int .u8))), (10, .d (.int .u64))]
def outs71l9 : Outs := [(2, sh71l9o0)]
def m71l9 (F : Nat) (n : Nat) {R : Type} (x : Shape.den sh71l9) (K : Ex → St → Option R) : Option R := ref05_Read_l9 F (fun y1 y7 y10 => K (.exit 0) (enc sh71l9o0 (y1, y7, y10, ()))) n x.1 x.2.1 x.2.2.1 x.2.2.2.1
def sh71j7 : Shape := [(1, .d (.int .i64)), (7, .d (.slice (.int .u8)))]
def sh71j7oret : Shape := [(4, .d (.int .u64)), (5, .d (.int .i64)), (6, .d (.int .i64))]
def outs71j7 : Outs := [(1, sh71j7oret)]
def m71j7 (F : Nat) {R : Type} (x : Shape.den sh71j7) (K : Ex → St → Option R) : Option R := ref05_Read_j7 F (fun y4 y5 y6 => K .ret (enc sh71j7oret (y4, y5, y6, ()))) x.1 x.2.1
def hs71 (F : Nat) : Nat → Option (Hint (Dens sg71.rtys)) := hintL [(9, { sh := sh71l9, model := m71l9 F F })]
def js71 (F : Nat) : Nat → Option (Hint (Dens sg71.rtys)) := hintL [(7, { sh := sh71j7, model := m71j7 F })]
theorem ok71l9 (F : Nat) (fr : Frm) (hn : (cx71 F).ntmps = fr.n) (n : Nat) : MSound (R := (Dens sg71.rtys)) Try.prog fr (.loop (sub (bodyOf Try.f71) [1, 1, 1, 1, 1, 1, 0, 1, 0, 0])) sh71l9 (m71l9 F n) :=
  loop_sound (cx := cx71 F) (hs := hs71 F) (js := js71 F) (outs := outs71l9) (conf_all _ rfl) (cs71 F) hn mix (m := fun n => m71l9 F n) (fun _ _ => rfl) (fun n x K => by kernel_rfl) (hok_of (l := []) (by kernel_rfl) obl_nil) n
theorem ok71j7 (F : Nat) (fr : Frm) (hn : (cx71 F).ntmps = fr.n) : MSound (R := (Dens sg71.rtys)) Try.prog fr (sub (bodyOf Try.f71) [1, 1, 1, 1, 1]) sh71j7 (m71j7 F) :=
  join_sound (cx := cx71 F) (hs := hs71 F) (js := js71 F) (outs := outs71j7) (conf_all _ rfl) (cs71 F) hn mix (fun x K => by kernel_rfl) (hok_of (l := [((.loop (sub (bodyOf Try.f71) [1, 1, 1, 1, 1, 1, 0, 1, 0, 0])), { sh := sh71l9, model := m71l9 F F })]) (by kernel_rfl) (obl_cons (ok71l9 F fr hn F) obl_nil))
theorem s71 (F : Nat) : CSound Try.prog 71 (con71 F) :=
  fn_sound (fn := Try.f71) (code := (bodyOf Try.f71)) (cx := cx71 F) (hs := hs71 F) (js := js71 F) Try.func71 (by kernel_rfl) (by kernel_rfl) (conf_all _ rfl) (cs71 F) mix (by kernel_rfl) (by kernel_rfl) (fun fr hn => (hok_of (l := [((sub (bodyOf Try.f71) [1, 1, 1, 1, 1]), { sh := sh71j7, model := m71j7 F })]) (by kernel_rfl) (obl_cons (ok71j7 F fr hn) obl_nil))) (fun x => by kernel_rfl)
def sg51 : Sig := { modes := [.ro], sh := [(0, .d (.int .u64))], keeps := true, fresh := none, rtys := [(.int .i64)] }
def con51 (F : Nat) : Contract := mkCon sg51 fun x => ref05_Unzigzag F x.1
def cx51 (F : Nat) : Cx := { types := tys, call := callsL [], own := [], ntmps := (0, 14) }
theorem cs51 (F : Nat) : ∀ f c, (cx51 F).call f = some c → CMet Try.prog f c := callsL_sound calls_nil
def hs51 (F : Nat) : Nat → Option (Hint (Dens sg51.rtys)) := hintL []
def js51 (F : Nat) : Nat → Option (Hint (Dens sg51.rtys)) := hintL []
theorem s51 (F : Nat) : CSound Try.prog 51 (con51 F) :=
  fn_sound (fn := Try.f51) (code := (bodyOf Try.f51)) (cx := cx51 F) (hs := hs51 F) (js := js51 F) Try.func51 (by kernel_rfl) (by kernel_rfl) (conf_all _ rfl) (cs51 F) mix (by kernel_rfl) (by kernel_rfl) (fun fr hn => (hok_of (l := []) (by kernel_rfl) obl_nil)) (fun x => by kernel_rfl)
def sg72 : Sig := { modes := [.ro, .ro], sh := [(0, .d (.slice (.int .u8))), (1, .d (.int .i64))], keeps := true, fresh := none, rtys := [(.int .i64), (.int .i64), (.int .i64)] }
def con72 (F : Nat) : Contract := mkCon sg72 fun x => ref05_ReadSigned F x.1 x.2.1
def cx72 (F : Nat) : Cx := { types := tys, call := callsL [(71, con71 F), (51, con51 F)], own := [], ntmps := (0, 23) }
theorem cs72 (F : Nat) : ∀ f c, (cx72 F).call f = some c → CMet Try.prog f c := callsL_sound (calls_cons (s71 F) (calls_cons (s51 F) calls_nil))
def hs72 (F : Nat) : Nat → Option (Hint (Dens sg72.rtys)) := hintL []
def js72 (F : Nat) : Nat → Option (Hint (Dens sg72.rtys)) := hintL []
theorem s72 (F : Nat) : CSound Try.prog 72 (con72 F) :=
  fn_sound (fn := Try.f72) (code := (bodyOf Try.f72)) (cx := cx72 F) (hs := hs72 F) (js := js72 F) Try.func72 (by kernel_rfl) (by kernel_rfl) (conf_all _ rfl) (cs72 F) mix (by kernel_rfl) (by kernel_rfl) (fun fr hn => (hok_of (l := []) (by kernel_rfl) obl_nil)) (fun x => by kernel_rfl)
def sg96 : Sig := { modes := [.ro, .ro], sh := [(0, .d (.int .u64)), (1, .d (.int .u64))], keeps := true, fresh := none, rtys := [(.int .u64), (.int .u64)] }
def con96 (F : Nat) : Contract := mkCon sg96 fun x => bits_Mul64 F x.1 x.2.1
def cx96 (F : Nat) : Cx := { types := tys, call := callsL [], own := [], ntmps := (0, 51) }
theorem cs96 (F : Nat) : ∀ f c, (cx96 F).call f = some c → CMet Try.prog f c := callsL_sound calls_nil
def hs96 (F : Nat) : Nat → Option (Hint (Dens sg96.rtys)) := hintL []
def js96 (F : Nat) : Nat → Option (Hint (Dens sg96.rtys)) := hintL []
theorem s96 (F : Nat) : CSound Try.prog 96 (con96 F) :=
  fn_sound (fn := Try.f96) (code := (bodyOf Try.f96)) (cx := cx96 F) (hs := hs96 F) (js := js96 F) Try.func96 (by kernel_rfl) (by kernel_rfl) (conf_all _ rfl) (cs96 F) mix (by kernel_rfl) (by kernel_rfl) (fun fr hn => (hok_of (l := []) (by kernel_rfl) obl_nil)) (fun x => by kernel_rfl)
def sg95 : Sig := { modes := [.ro, .ro], sh := [(0, .d (.slice (.int .u64))), (1, .d (.slice (.int .u64)))], keeps := false, fresh := none, rtys := [(.slice (.int .u64))] }
def con95 (F : Nat) : Contract := mkCon sg95 fun x => ref02_mul F x.1 x.2.1
def cx95 (F : Nat) : Cx := { types := tys, call := callsL [(96, con96 F), (89, con89 F), (74, con74 F)], own := [4, 18], ntmps := (0, 81) }
theorem cs95 (F : Nat) : ∀ f c, (cx95 F).call f = some c → CMet Try.prog f c := callsL_sound (calls_cons (s96 F) (calls_cons_ext (s89 F) (calls_cons (s74 F) calls_nil)))
def sh95l7 : Shape := [(0, .d (.slice (.int .u64))), (1, .d (.slice (.int .u64))), (5, .own 5 (.int .u64) 48), (6, .d (.int .i64)), (7, .d (.int .u64)), (8, .d (.int .i64))]
def sh95l7o2 : Shape := [(0, .d (.slice (.int .u64))), (1, .d (.slice (.int .u64))), (5, .own 5 (.int .u64) 48), (6, .d (.int .i64)), (7, .d (.int .u64))]
def outs95l7 : Outs := [(4, sh95l7o2)]
def m95l7 (F : Nat) (n : Nat) {R : Type} (x : Shape.den sh95l7) (K : Ex → St → Option R) : Option R := ref02_mul_l7 F (fun y0 y1 y5 y6 y7 => K (.exit 2) (enc sh95l7o2 (y0, y1, y5, y6, y7, ()))) n x.1 x.2.1 x.2.2.1 x.2.2.2.1 x.2.2.2.2.1 x.2.2.2.2.2.1
def sh95l3 : Shape := [(0, .d (.slice (.int .u64))), (1, .d (.slice (.int .u64))), (5, .own 5 (.int .u64) 48), (6, .d (.int .i64))]
def sh95l3o0 : Shape := [(5, .own 5 (.int .u64) 48)]
def outs95l3 : Outs := [(2, sh95l3o0)]
def m95l3 (F : Nat) (n : Nat) {R : Type} (x : Shape.den sh95l3) (K : Ex → St → Option R) : Option R := ref02_mul_l3 F (fun y5 => K (.exit 0) (enc sh95l3o0 (y5, ()))) n x.1 x.2.1 x.2.2.1 x.2.2.2.1
def hs95 (F : Nat) : Nat → Option (Hint (Dens sg95.rtys)) := hintL [(7, { sh := sh95l7, model := m95l7 F F }), (3, { sh := sh95l3, model := m95l3 F F })]
def js95 (F : Nat) : Nat → Option (Hint (Dens sg95.rtys)) := hintL []
theorem ok95l7 (F : Nat) (fr : Frm) (hn : (cx95 F).ntmps = fr.n) (n : Nat) : MSound (R := (Dens sg95.rtys)) Try.prog fr (.loop (sub (bodyOf Try.f95) [1, 1, 0, 1, 0, 0, 1, 0, 0, 1, 0, 1, 0, 0])) sh95l7 (m95l7 F n) :=
  loop_sound (cx := cx95 F) (hs := hs95 F) (js := js95 F) (outs := outs95l7) (conf_all _ rfl) (cs95 F) hn mix (m := fun n => m95l7 F n) (fun _ _ => rfl) (fun n x K => by kernel_rfl) (hok_of (l := []) (by kernel_rfl) obl_nil) n
theorem ok95l3 (F : Nat) (fr : Frm) (hn : (cx95 F).ntmps = fr.n) (n : Nat) : MSound (R := (Dens sg95.rtys)) Try.prog fr (.loop (sub (bodyOf Try.f95) [1, 1, 0, 1, 0, 0])) sh95l3 (m95l3 F n) :=
  loop_sound (cx := cx95 F) (hs := hs95 F) (js := js95 F) (outs := outs95l3) (conf_all _ rfl) (cs95 F) hn mix (m := fun n => m95l3 F n) (fun _ _ => rfl) (fun n x K => by kernel_rfl) (hok_of (l := [((.loop (sub (bodyOf Try.f95) [1, 1, 0, 1, 0, 0, 1, 0, 0, 1, 0, 1, 0, 0])), { sh := sh95l7, model := m95l7 F F })]) (by kernel_rfl) (obl_cons (ok95l7 F fr hn F) obl_nil)) n
theorem s95 (F : Nat) : CSound Try.prog 95 (con95 F) :=
  fn_sound (fn := Try.f95) (code := (bodyOf Try.f95)) (cx := cx95 F) (hs := hs95 F) (js := js95 F) Try.func95 (by kernel_rfl) (by kernel_rfl) (conf_all _ rfl) (cs95 F) mix (by kernel_rfl) (by kernel_rfl) (fun fr hn => (hok_of (l := [((.loop (sub (bodyOf Try.f95) [1, 1, 0, 1, 0, 0])), { sh := sh95l3, model := m95l3 F F })]) (by kernel_rfl) (obl_cons (ok95l3 F fr hn F) obl_nil))) (fun x => by kernel_rfl)
def sg91 : Sig := { modes := [.ro, .ro], sh := [(0, .d (.pair .bool (.pair (.arr 4 (.int .u64)) .unit))), (1, .d (.pair .bool (.pair (.arr 4 (.int .u64)) .unit)))], keeps := true, fresh := none, rtys := [(.pair .bool (.pair (.arr 4 (.int .u64)) .unit)), .bool] }
def con91 (F : Nat) : Contract := mkCon sg91 fun x => ref02_Mul F x.1 x.2.1
def cx91 (F : Nat) : Cx := { types := tys, call := callsL [(78, con78 F), (61, con61 F), (95, con95 F), (75, con75 F)], own := [], ntmps := (0, 23) }
theorem cs91 (F : Nat) : ∀ f c, (cx91 F).call f = some c → CMet Try.prog f c := callsL_sound (calls_cons (s78 F) (calls_cons (s61 F) (calls_cons (s95 F) (calls_cons (s75 F) calls_nil))))
def hs91 (F : Nat) : Nat → Option (Hint (Dens sg91.rtys)) := hintL []
def js91 (F : Nat) : Nat → Option (Hint (Dens sg91.rtys)) := hintL []
theorem s91 (F : Nat) : CSound Try.prog 91 (con91 F) :=
  fn_sound (fn := Try.f91) (code := (bodyOf Try.f91)) (cx := cx91 F) (hs := hs91 F) (js := js91 F) Try.func91 (by kernel_rfl) (by kernel_rfl) (conf_all _ rfl) (cs91 F) mix (by kernel_rfl) (by kernel_rfl) (fun fr hn => (hok_of (l := []) (by kernel_rfl) obl_nil)) (fun x => by kernel_rfl)
def sg93 : Sig := { modes := [.ro], sh := [(0, .d (.int .u64))], keeps := true, fresh := none, rtys := [(.pair .bool (.pair (.arr 4 (.int .u64)) .unit))] }
def con93 (F : Nat) : Contract := mkCon sg93 fun x => ref02_OfUnsigned F x.1
def cx93 (F : Nat) : Cx := { types := tys, call := callsL [], own := [], ntmps := (0, 6) }
theorem cs93 (F : Nat) : ∀ f c, (cx93 F).call f = some c → CMet Try.prog f c := callsL_sound calls_nil
def hs93 (F : Nat) : Nat → Option (Hint (Dens sg93.rtys)) := hintL []
def js93 (F : Nat) : Nat → Option (Hint (Dens sg93.rtys)) := hintL []
theorem s93 (F : Nat) : CSound Try.prog 93 (con93 F) :=
  fn_sound (fn := Try.f93) (code := (bodyOf Try.f93)) (cx := cx93 F) (hs := hs93 F) (js := js93 F) Try.func93 (by kernel_rfl) (by kernel_rfl) (conf_all _ rfl) (cs93 F) mix (by kernel_rfl) (by kernel_rfl) (fun fr hn => (hok_of (l := []) (by kernel_rfl) obl_nil)) (fun x => by kernel_rfl)
def sg92 : Sig := { modes := [.ro, .ro], sh := [(0, .d (.pair .bool (.pair (.arr 4 (.int .u64)) .unit))), (1, .d (.pair .bool (.pair (.arr 4 (.int .u64)) .unit)))], keeps := true, fresh := none, rtys := [(.pair .bool (.pair (.arr 4 (.int .u64)) .unit)), .bool] }
def con92 (F : Nat) : Contract := mkCon sg92 fun x => ref02_Add F x.1 x.2.1
def cx92 (F : Nat) : Cx := { types := tys, call := callsL [(78, con78 F), (61, con61 F), (80, con80 F), (75, con75 F), (60, con60 F), (81, con81 F)], own := [], ntmps := (0, 51) }
theorem cs92 (F : Nat) : ∀ f c, (cx92 F).call f = some c → CMet Try.prog f c := callsL_sound (calls_cons (s78 F) (calls_cons (s61 F) (calls_cons (s80 F) (calls_cons (s75 F) (calls_cons (s60 F) (calls_cons (s81 F) calls_nil))))))
def hs92 (F : Nat) : Nat → Option (Hint (Dens sg92.rtys)) := hintL []
def js92 (F : Nat) : Nat → Option (Hint (Dens sg92.rtys)) := hintL []
theorem s92 (F : Nat) : CSound Try.prog 92 (con92 F) :=
  fn_sound (fn := Try.f92) (code := (bodyOf Try.f92)) (cx := cx92 F) (hs := hs92 F) (js := js92 F) Try.func92 (by kernel_rfl) (by kernel_rfl) (conf_all _ rfl) (cs92 F) mix (by kernel_rfl) (by kernel_rfl) (fun fr hn => (hok_of (l := []) (by kernel_rfl) obl_nil)) (fun x => by kernel_rfl)
def sg83 : Sig := { modes := [.ro, .ro, .ro], sh := [(0, .d (.pair .bool (.pair (.arr 4 (.int .u64)) .unit))), (1, .d (.int .i64)), (2, .d (.int .u64))], keeps := true, fresh := none, rtys := [(.pair .bool (.pair (.arr 4 (.int .u64)) .unit)), .bool] }
def con83 (F : Nat) : Contract := mkCon sg83 fun x => ref05_shifted F x.1 x.2.1 x.2.2.1
def cx83 (F : Nat) : Cx := { types := tys, call := callsL [(35, con35 F), (91, con91 F), (93, con93 F), (92, con92 F)], own := [], ntmps := (0, 26) }
theorem cs83 (F : Nat) : ∀ f c, (cx83 F).call f = some c → CMet Try.prog f c := callsL_sound (calls_cons (s35 F) (calls_cons (s91 F) (calls_cons (s93 F) (calls_cons (s92 F) calls_nil))))
def hs83 (F : Nat) : Nat → Option (Hint (Dens sg83.rtys)) := hintL []
def js83 (F : Nat) : Nat → Option (Hint (Dens sg83.rtys)) := hintL []
theorem s83 (F : Nat) : CSound Try.prog 83 (con83 F) :=
  fn_sound (fn := Try.f83) (code := (bodyOf Try.f83)) (cx := cx83 F) (hs := hs83 F) (js := js83 F) Try.func83 (by kernel_rfl) (by kernel_rfl) (conf_all _ rfl) (cs83 F) mix (by kernel_rfl) (by kernel_rfl) (fun fr hn => (hok_of (l := []) (by kernel_rfl) obl_nil)) (fun x => by kernel_rfl)
def sg73 : Sig := { modes := [.ro, .ro], sh := [(0, .d (.slice (.int .u8))), (1, .d (.int .i64))], keeps := true, fresh := none, rtys := [(.pair .bool (.pair (.arr 4 (.int .u64)) .unit)), (.int .i64), (.int .i64)] }
def con73 (F : Nat) : Contract := mkCon sg73 fun x => ref05_ReadWide F x.1 x.2.1
def cx73 (F : Nat) : Cx := { types := tys, call := callsL [(82, con82 F), (83, con83 F), (64, con64 F)], own := [], ntmps := (0, 95) }
theorem cs73 (F : Nat) : ∀ f c, (cx73 F).call f = some c → CMet Try.prog f c := callsL_sound (calls_cons (s82 F) (calls_cons (s83 F) (calls_cons (s64 F) calls_nil)))
def sh73l10 : Shape := [(1, .d (.int .i64)), (4, .box 4 (.pair .bool (.pair (.arr 4 (.int .u64)) .unit))), (7, .d (.slice (.int .u8))), (10, .box 10 (.pair .bool (.pair (.arr 4 (.int .u64)) .unit))), (11, .d .bool), (12, .d (.int .i64))]
def sh73l10o0 : Shape := [(1, .d (.int .i64)), (4, .box 4 (.pair .bool (.pair (.arr 4 (.int .u64)) .unit))), (7, .d (.slice (.int .u8))), (10, .box 10 (.pair .bool (.pair (.arr 4 (.int .u64)) .unit))), (11, .d .bool)]
def outs73l10 : Outs := [(2, sh73l10o0)]
def m73l10 (F : Nat) (n : Nat) {R : Type} (x : Shape.den sh73l10) (K : Ex → St → Option R) : Option R := ref05_ReadWide_l10 F (fun y1 y4 y7 y10 y11 => K (.exit 0) (enc sh73l10o0 (y1, y4, y7, y10, y11, ()))) n x.1 x.2.1 x.2.2.1 x.2.2.2.1 x.2.2.2.2.1 x.2.2.2.2.2.1
def sh73j15 : Shape := [(1, .d (.int .i64)), (4, .box 4 (.pair .bool (.pair (.arr 4 (.int .u64)) .unit))), (7, .d (.slice (.int .u8))), (10, .box 10 (.pair .bool (.pair (.arr 4 (.int .u64)) .unit))), (11, .d .bool)]
def sh73j15oret : Shape := [(4, .box 4 (.pair .bool (.pair (.arr 4 (.int .u64)) .unit))), (5, .d (.int .i64)), (6, .d (.int .i64))]
def outs73j15 : Outs := [(1, sh73j15oret)]
def m73j15 (F : Nat) {R : Type} (x : Shape.den sh73j15) (K : Ex → St → Option R) : Option R := ref05_ReadWide_j15 F (fun y4 y5 y6 => K .ret (enc sh73j15oret (y4, y5, y6, ()))) x.1 x.2.1 x.2.2.1 x.2.2.2.1 x.2.2.2.2.1
def sh73j7 : Shape := [(1, .d (.int .i64)), (4, .box 4 (.pair .bool (.pair (.arr 4 (.int .u64)) .unit))), (7, .d (.slice (.int .u8)))]
def sh73j7oret : Shape := [(4, .box 4 (.pair .bool (.pair (.arr 4 (.int .u64)) .unit))), (5, .d (.int .i64)), (6, .d (.int .i64))]
def outs73j7 : Outs := [(1, sh73j7oret)]
def m73j7 (F : Nat) {R : Type} (x : Shape.den sh73j7) (K : Ex → St → Option R) : Option R := ref05_ReadWide_j7 F (fun y4 y5 y6 => K .ret (enc sh73j7oret (y4, y5, y6, ()))) x.1 x.2.1 x.2.2.1
def hs73 (F : Nat) : Nat → Option (Hint (Dens sg73.rtys)) := hintL [(10, { sh := sh73l10, model := m73l10 F F })]
def js73 (F : Nat) : Nat → Option (Hint (Dens sg73.rtys)) := hintL [(15, { sh := sh73j15, model := m73j15 F }), (7, { sh := sh73j7, model := m73j7 F })]
theorem ok73l10 (F : Nat) (fr : Frm) (hn : (cx73 F).ntmps = fr.n) (n : Nat) : MSound (R := (Dens sg73.rtys)) Try.prog fr (.loop (sub (bodyOf Try.f73) [1, 1, 1, 1, 1, 1, 1, 0, 1, 0, 0])) sh73l10 (m73l10 F n) :=
  loop_sound (cx := cx73 F) (hs := hs73 F) (js := js73 F) (outs := outs73l10) (conf_all _ rfl) (cs73 F) hn mix (m := fun n => m73l10 F n) (fun _ _ => rfl) (fun n x K => by kernel_rfl) (hok_of (l := []) (by kernel_rfl) obl_nil) n
theorem ok73j15 (F : Nat) (fr : Frm) (hn : (cx73 F).ntmps = fr.n) : MSound (R := (Dens sg73.rtys)) Try.prog fr (sub (bodyOf Try.f73) [1, 1, 1, 1, 1, 1, 1, 1, 1]) sh73j15 (m73j15 F) :=
  join_sound (cx := cx73 F) (hs := hs73 F) (js := js73 F) (outs := outs73j15) (conf_all _ rfl) (cs73 F) hn mix (fun x K => by kernel_rfl) (hok_of (l := []) (by kernel_rfl) obl_nil)
theorem ok73j7 (F : Nat) (fr : Frm) (hn : (cx73 F).ntmps = fr.n) : MSound (R := (Dens sg73.rtys)) Try.prog fr (sub (bodyOf Try.f73) [1, 1, 1, 1, 1]) sh73j7 (m73j7 F) :=
  join_sound (cx := cx73 F) (hs := hs73 F) (js := js73 F) (outs := outs73j7) (conf_all _ rfl) (cs73 F) hn mix (fun x K => by kernel_rfl) (hok_of (l := [((.loop (sub (bodyOf Try.f73) [1, 1, 1, 1, 1, 1, 1, 0, 1, 0, 0])), { sh := sh73l10, model := m73l10 F F }), ((sub (bodyOf Try.f73) [1, 1, 1, 1, 1, 1, 1, 1, 1]), { sh := sh73j15, model := m73j15 F })]) (by kernel_rfl) (obl_cons (ok73l10 F fr hn F) (obl_cons (ok73j15 F fr hn) obl_nil)))
theorem s73 (F : Nat) : CSound Try.prog 73 (con73 F) :=
  fn_sound (fn := Try.f73) (code := (bodyOf Try.f73)) (cx := cx73 F) (hs := hs73 F) (js := js73 F) Try.func73 (by kernel_rfl) (by kernel_rfl) (conf_all _ rfl) (cs73 F) mix (by kernel_rfl) (by kernel_rfl) (fun fr hn => (hok_of (l := [((sub (bodyOf Try.f73) [1, 1, 1, 1, 1]), { sh := sh73j7, model := m73j7 F })]) (by kernel_rfl) (obl_cons (ok73j7 F fr hn) obl_nil))) (fun x => by kernel_rfl)
def sg55 : Sig := { modes := [.ro, .ro], sh := [(0, .d (.slice (.int .u8))), (1, .d (.int .i64))], keeps := true, fresh := none, rtys := [.bool] }
def con55 (F : Nat) : Contract := mkCon sg55 fun x => law05_reads F x.1 x.2.1
def cx55 (F : Nat) : Cx := { types := tys, call := callsL [(44, con44 F), (71, con71 F), (47, con47 F), (72, con72 F), (45, con45 F), (73, con73 F)], own := [], ntmps := (0, 108) }
theorem cs55 (F : Nat) : ∀ f c, (cx55 F).call f = some c → CMet Try.prog f c := callsL_sound (calls_cons (s44 F) (calls_cons (s71 F) (calls_cons (s47 F) (calls_cons (s72 F) (calls_cons (s45 F) (calls_cons (s73 F) calls_nil))))))
def hs55 (F : Nat) : Nat → Option (Hint (Dens sg55.rtys)) := hintL []
def js55 (F : Nat) : Nat → Option (Hint (Dens sg55.rtys)) := hintL []
theorem s55 (F : Nat) : CSound Try.prog 55 (con55 F) :=
  fn_sound (fn := Try.f55) (code := (bodyOf Try.f55)) (cx := cx55 F) (hs := hs55 F) (js := js55 F) Try.func55 (by kernel_rfl) (by kernel_rfl) (conf_all _ rfl) (cs55 F) mix (by kernel_rfl) (by kernel_rfl) (fun fr hn => (hok_of (l := []) (by kernel_rfl) obl_nil)) (fun x => by kernel_rfl)
def sg13 : Sig := { modes := [.ro, .ro, .ro, .ro, .ro], sh := [(0, .d (.slice (.int .u8))), (1, .d (.int .i64)), (2, .d (.slice (.int .i64))), (3, .d (.int .u8)), (4, .d (.int .i64))], keeps := true, fresh := none, rtys := [.bool] }
def con13 (F : Nat) : Contract := mkCon sg13 fun x => law05_VarintReads F x.1 x.2.1 x.2.2.1 x.2.2.2.1 x.2.2.2.2.1
def cx13 (F : Nat) : Cx := { types := tys, call := callsL [(19, con19 F), (48, con48 F), (49, con49 F), (41, con41 F), (54, con54 F), (15, con15 F), (29, con29 F), (37, con37 F), (55, con55 F), (24, con24 F)], own := [17, 24], ntmps := (0, 94) }
theorem cs13 (F : Nat) : ∀ f c, (cx13 F).call f = some c → CMet Try.prog f c := callsL_sound (calls_cons (s19 F) (calls_cons (s48 F) (calls_cons (s49 F) (calls_cons (s41 F) (calls_cons (s54 F) (calls_cons (s15 F) (calls_cons (s29 F) (calls_cons (s37 F) (calls_cons (s55 F) (calls_cons (s24 F) calls_nil))))))))))
def sh13l5 : Shape := [(0, .d (.slice (.int .u8))), (1, .d (.int .i64)), (3, .d (.int .u8)), (11, .box 11 (.pair (.slice (.int .i64)) (.pair (.int .i64) .unit))), (12, .d (.slice (.int .u8))), (13, .own 13 (.int .u8) 5), (14, .d (.int .i64))]
def sh13l5o0 : Shape := [(0, .d (.slice (.int .u8))), (1, .d (.int .i64)), (3, .d (.int .u8)), (11, .box 11 (.pair (.slice (.int .i64)) (.pair (.int .i64) .unit))), (12, .d (.slice (.int .u8))), (13, .own 13 (.int .u8) 5)]
def outs13l5 : Outs := [(2, sh13l5o0)]
def m13l5 (F : Nat) (n : Nat) {R : Type} (x : Shape.den sh13l5) (K : Ex → St → Option R) : Option R := law05_VarintReads_l5 F (fun y0 y1 y3 y11 y12 y13 => K (.exit 0) (enc sh13l5o0 (y0, y1, y3, y11, y12, y13, ()))) n x.1 x.2.1 x.2.2.1 x.2.2.2.1 x.2.2.2.2.1 x.2.2.2.2.2.1 x.2.2.2.2.2.2.1
def hs13 (F : Nat) : Nat → Option (Hint (Dens sg13.rtys)) := hintL [(5, { sh := sh13l5, model := m13l5 F F })]
def js13 (F : Nat) : Nat → Option (Hint (Dens sg13.rtys)) := hintL []
theorem ok13l5 (F : Nat) (fr : Frm) (hn : (cx13 F).ntmps = fr.n) (n : Nat) : MSound (R := (Dens sg13.rtys)) Try.prog fr (.loop (sub (bodyOf Try.f13) [1, 1, 1, 1, 0, 1, 0, 0])) sh13l5 (m13l5 F n) :=
  loop_sound (cx := cx13 F) (hs := hs13 F) (js := js13 F) (outs := outs13l5) (conf_all _ rfl) (cs13 F) hn mix (m := fun n => m13l5 F n) (fun _ _ => rfl) (fun n x K => by kernel_rfl) (hok_of (l := []) (by kernel_rfl) obl_nil) n
theorem s13 (F : Nat) : CSound Try.prog 13 (con13 F) :=
  fn_sound (fn := Try.f13) (code := (bodyOf Try.f13)) (cx := cx13 F) (hs := hs13 F) (js := js13 F) Try.func13 (by kernel_rfl) (by kernel_rfl) (conf_all _ rfl) (cs13 F) mix (by kernel_rfl) (by kernel_rfl) (fun fr hn => (hok_of (l := [((.loop (sub (bodyOf Try.f13) [1, 1, 1, 1, 0, 1, 0, 0])), { sh := sh13l5, model := m13l5 F F })]) (by kernel_rfl) (obl_cons (ok13l5 F fr hn F) obl_nil))) (fun x => by kernel_rfl)
def sg8 : Sig := { modes := [.ro, .ro], sh := [(0, .d (.slice (.int .u8))), (1, .d (.int .i64))], keeps := true, fresh := none, rtys := [.bool] }
def con8 (F : Nat) : Contract := mkCon sg8 fun x => law08_BitpackCanonical F x.1 x.2.1
def cx8 (F : Nat) : Cx := { types := tys, call := callsL [(15, con15 F), (32, con32 F), (22, con22 F), (31, con31 F), (34, con34 F)], own := [], ntmps := (0, 43) }
theorem cs8 (F : Nat) : ∀ f c, (cx8 F).call f = some c → CMet Try.prog f c := callsL_sound (calls_cons (s15 F) (calls_cons (s32 F) (calls_cons (s22 F) (calls_cons (s31 F) (calls_cons (s34 F) calls_nil)))))
def hs8 (F : Nat) : Nat → Option (Hint (Dens sg8.rtys)) := hintL []
def js8 (F : Nat) : Nat → Option (Hint (Dens sg8.rtys)) := hintL []
theorem s8 (F : Nat) : CSound Try.prog 8 (con8 F) :=
  fn_sound (fn := Try.f8) (code := (bodyOf Try.f8)) (cx := cx8 F) (hs := hs8 F) (js := js8 F) Try.func8 (by kernel_rfl) (by kernel_rfl) (conf_all _ rfl) (cs8 F) mix (by kernel_rfl) (by kernel_rfl) (fun fr hn => (hok_of (l := []) (by kernel_rfl) obl_nil)) (fun x => by kernel_rfl)
def sg10 : Sig := { modes := [.ro, .ro, .ro], sh := [(0, .d (.int .u64)), (1, .d (.slice (.int .i64))), (2, .d (.int .i64))], keeps := true, fresh := none, rtys := [.bool] }
def con10 (F : Nat) : Contract := mkCon sg10 fun x => law05_VarintCut F x.1 x.2.1 x.2.2.1
def cx10 (F : Nat) : Cx := { types := tys, call := callsL [(19, con19 F), (41, con41 F), (42, con42 F), (43, con43 F), (15, con15 F), (44, con44 F), (45, con45 F), (37, con37 F)], own := [17], ntmps := (0, 62) }
theorem cs10 (F : Nat) : ∀ f c, (cx10 F).call f = some c → CMet Try.prog f c := callsL_sound (calls_cons (s19 F) (calls_cons (s41 F) (calls_cons (s42 F) (calls_cons (s43 F) (calls_cons (s15 F) (calls_cons (s44 F) (calls_cons (s45 F) (calls_cons (s37 F) calls_nil))))))))
def hs10 (F : Nat) : Nat → Option (Hint (Dens sg10.rtys)) := hintL []
def js10 (F : Nat) : Nat → Option (Hint (Dens sg10.rtys)) := hintL []
theorem s10 (F : Nat) : CSound Try.prog 10 (con10 F) :=
  fn_sound (fn := Try.f10) (code := (bodyOf Try.f10)) (cx := cx10 F) (hs := hs10 F) (js := js10 F) Try.func10 (by kernel_rfl) (by kernel_rfl) (conf_all _ rfl) (cs10 F) mix (by kernel_rfl) (by kernel_rfl) (fun fr hn => (hok_of (l := []) (by kernel_rfl) obl_nil)) (fun x => by kernel_rfl)
def sg50 : Sig := { modes := [.ro], sh := [(0, .d (.int .u64))], keeps := true, fresh := none, rtys := [(.int .i64)] }
def con50 (F : Nat) : Contract := mkCon sg50 fun x => ref05_Size F x.1
def cx50 (F : Nat) : Cx := { types := tys, call := callsL [(49, con49 F)], own := [], ntmps := (0, 6) }
theorem cs50 (F : Nat) : ∀ f c, (cx50 F).call f = some c → CMet Try.prog f c := callsL_sound (calls_cons (s49 F) calls_nil)
def hs50 (F : Nat) : Nat → Option (Hint (Dens sg50.rtys)) := hintL []
def js50 (F : Nat) : Nat → Option (Hint (Dens sg50.rtys)) := hintL []
theorem s50 (F : Nat) : CSound Try.prog 50 (con50 F) :=
  fn_sound (fn := Try.f50) (code := (bodyOf Try.f50)) (cx := cx50 F) (hs := hs50 F) (js := js50 F) Try.func50 (by kernel_rfl) (by kernel_rfl) (conf_all _ rfl) (cs50 F) mix (by kernel_rfl) (by kernel_rfl) (fun fr hn => (hok_of (l := []) (by kernel_rfl) obl_nil)) (fun x => by kernel_rfl)
def sg52 : Sig := { modes := [.ro], sh := [(0, .d (.int .i64))], keeps := true, fresh := none, rtys := [(.int .u64)] }
def con52 (F : Nat) : Contract := mkCon sg52 fun x => ref05_Zigzag F x.1
def cx52 (F : Nat) : Cx := { types := tys, call := callsL [], own := [], ntmps := (0, 14) }
theorem cs52 (F : Nat) : ∀ f c, (cx52 F).call f = some c → CMet Try.prog f c := callsL_sound calls_nil
def hs52 (F : Nat) : Nat → Option (Hint (Dens sg52.rtys)) := hintL []
def js52 (F : Nat) : Nat → Option (Hint (Dens sg52.rtys)) := hintL []
theorem s52 (F : Nat) : CSound Try.prog 52 (con52 F) :=
  fn_sound (fn := Try.f52) (code := (bodyOf Try.f52)) (cx := cx52 F) (hs := hs52 F) (js := js52 F) Try.func52 (by kernel_rfl) (by kernel_rfl) (conf_all _ rfl) (cs52 F) mix (by kernel_rfl) (by kernel_rfl) (fun fr hn => (hok_of (l := []) (by kernel_rfl) obl_nil)) (fun x => by kernel_rfl)
def sg53 : Sig := { modes := [.ro, .ro], sh := [(0, .d (.slice (.int .u8))), (1, .d (.int .i64))], keeps := false, fresh := some (0, 5), rtys := [(.slice (.int .u8))] }
def con53 (F : Nat) : Contract := mkCon sg53 fun x => ref05_AppendSigned F x.1 x.2.1
def cx53 (F : Nat) : Cx := { types := tys, call := callsL [(52, con52 F), (49, con49 F)], own := [4, 8], ntmps := (0, 9) }
theorem cs53 (F : Nat) : ∀ f c, (cx53 F).call f = some c → CMet Try.prog f c := callsL_sound (calls_cons (s52 F) (calls_cons (s49 F) calls_nil))
def hs53 (F : Nat) : Nat → Option (Hint (Dens sg53.rtys)) := hintL []
def js53 (F : Nat) : Nat → Option (Hint (Dens sg53.rtys)) := hintL []
theorem s53 (F : Nat) : CSound Try.prog 53 (con53 F) :=
  fn_sound (fn := Try.f53) (code := (bodyOf Try.f53)) (cx := cx53 F) (hs := hs53 F) (js := js53 F) Try.func53 (by kernel_rfl) (by kernel_rfl) (conf_all _ rfl) (cs53 F) mix (by kernel_rfl) (by kernel_rfl) (fun fr hn => (hok_of (l := []) (by kernel_rfl) obl_nil)) (fun x => by kernel_rfl)
def sg12 : Sig := { modes := [.ro, .ro, .ro, .ro, .ro], sh := [(0, .d (.slice (.int .u8))), (1, .d (.int .u64)), (2, .d (.int .i64)), (3, .d (.pair .bool (.pair (.arr 4 (.int .u64)) .unit))), (4, .d (.slice (.int .i64)))], keeps := true, fresh := none, rtys := [.bool] }
def con12 (F : Nat) : Contract := mkCon sg12 fun x => law05_VarintForms F x.1 x.2.1 x.2.2.1 x.2.2.2.1 x.2.2.2.2.1
def cx12 (F : Nat) : Cx := { types := tys, call := callsL [(19, con19 F), (48, con48 F), (24, con24 F), (42, con42 F), (49, con49 F), (34, con34 F), (40, con40 F), (50, con50 F), (38, con38 F), (51, con51 F), (41, con41 F), (37, con37 F), (39, con39 F), (52, con52 F), (46, con46 F), (53, con53 F), (43, con43 F), (54, con54 F)], own := [16], ntmps := (0, 110) }
theorem cs12 (F : Nat) : ∀ f c, (cx12 F).call f = some c → CMet Try.prog f c := callsL_sound (calls_cons (s19 F) (calls_cons (s48 F) (calls_cons (s24 F) (calls_cons (s42 F) (calls_cons (s49 F) (calls_cons (s34 F) (calls_cons (s40 F) (calls_cons (s50 F) (calls_cons (s38 F) (calls_cons (s51 F) (calls_cons (s41 F) (calls_cons (s37 F) (calls_cons (s39 F) (calls_cons (s52 F) (calls_cons (s46 F) (calls_cons (s53 F) (calls_cons (s43 F) (calls_cons (s54 F) calls_nil))))))))))))))))))
def sh12l4 : Shape := [(0, .d (.slice (.int .u8))), (2, .d (.int .i64)), (8, .box 8 (.pair .bool (.pair (.arr 4 (.int .u64)) .unit))), (11, .box 11 (.pair (.slice (.int .i64)) (.pair (.int .i64) .unit))), (12, .d (.slice (.int .u64))), (13, .d (.int .i64))]
def sh12l4o0 : Shape := [(0, .d (.slice (.int .u8))), (2, .d (.int .i64)), (8, .box 8 (.pair .bool (.pair (.arr 4 (.int .u64)) .unit))), (11, .box 11 (.pair (.slice (.int .i64)) (.pair (.int .i64) .unit)))]
def sh12l4oret : Shape := [(10, .d .bool)]
def outs12l4 : Outs := [(2, sh12l4o0), (1, sh12l4oret)]
def m12l4 (F : Nat) (n : Nat) {R : Type} (x : Shape.den sh12l4) (K : Ex → St → Option R) : Option R := law05_VarintForms_l4 F (fun y0 y2 y8 y11 => K (.exit 0) (enc sh12l4o0 (y0, y2, y8, y11, ()))) (fun y10 => K .ret (enc sh12l4oret (y10, ()))) n x.1 x.2.1 x.2.2.1 x.2.2.2.1 x.2.2.2.2.1 x.2.2.2.2.2.1
def hs12 (F : Nat) : Nat → Option (Hint (Dens sg12.rtys)) := hintL [(4, { sh := sh12l4, model := m12l4 F F })]
def js12 (F : Nat) : Nat → Option (Hint (Dens sg12.rtys)) := hintL []
theorem ok12l4 (F : Nat) (fr : Frm) (hn : (cx12 F).ntmps = fr.n) (n : Nat) : MSound (R := (Dens sg12.rtys)) Try.prog fr (.loop (sub (bodyOf Try.f12) [1, 1, 1, 0, 1, 0, 0])) sh12l4 (m12l4 F n) :=
  loop_sound (cx := cx12 F) (hs := hs12 F) (js := js12 F) (outs := outs12l4) (conf_all _ rfl) (cs12 F) hn mix (m := fun n => m12l4 F n) (fun _ _ => rfl) (fun n x K => by kernel_rfl) (hok_of (l := []) (by kernel_rfl) obl_nil) n
theorem s12 (F : Nat) : CSound Try.prog 12 (con12 F) :=
  fn_sound (fn := Try.f12) (code := (bodyOf Try.f12)) (cx := cx12 F) (hs := hs12 F) (js := js12 F) Try.func12 (by kernel_rfl) (by kernel_rfl) (conf_all _ rfl) (cs12 F) mix (by kernel_rfl) (by kernel_rfl) (fun fr hn => (hok_of (l := [((.loop (sub (bodyOf Try.f12) [1, 1, 1, 0, 1, 0, 0])), { sh := sh12l4, model := m12l4 F F })]) (by kernel_rfl) (obl_cons (ok12l4 F fr hn F) obl_nil))) (fun x => by kernel_rfl)
def sg14 : Sig := { modes := [.ro, .ro], sh := [(0, .d (.slice (.int .u8))), (1, .d (.slice (.int .i64)))], keeps := true, fresh := none, rtys := [.bool] }
def con14 (F : Nat) : Contract := mkCon sg14 fun x => law05_VarintCanonical F x.1 x.2.1
def cx14 (F : Nat) : Cx := { types := tys, call := callsL [(19, con19 F), (48, con48 F), (24, con24 F), (49, con49 F), (29, con29 F), (41, con41 F), (54, con54 F), (44, con44 F), (42, con42 F), (34, con34 F), (45, con45 F), (43, con43 F), (37, con37 F)], own := [15], ntmps := (0, 111) }
theorem cs14 (F : Nat) : ∀ f c, (cx14 F).call f = some c → CMet Try.prog f c := callsL_sound (calls_cons (s19 F) (calls_cons (s48 F) (calls_cons (s24 F) (calls_cons (s49 F) (calls_cons (s29 F) (calls_cons (s41 F) (calls_cons (s54 F) (calls_cons (s44 F) (calls_cons (s42 F) (calls_cons (s34 F) (calls_cons (s45 F) (calls_cons (s43 F) (calls_cons (s37 F) calls_nil)))))))))))))
def sh14j9 : Shape := [(6, .d (.slice (.slice (.int .u8)))), (7, .d (.int .i64))]
def sh14j9on : Shape := [(6, .d (.slice (.slice (.int .u8)))), (7, .d (.int .i64))]
def sh14j9oret : Shape := [(4, .d .bool)]
def outs14j9 : Outs := [(0, sh14j9on), (1, sh14j9oret)]
def m14j9 (F : Nat) {R : Type} (x : Shape.den sh14j9) (K : Ex → St → Option R) : Option R := law05_VarintCanonical_j9 F (fun y6 y7 => K .normal (enc sh14j9on (y6, y7, ()))) (fun y4 => K .ret (enc sh14j9oret (y4, ()))) x.1 x.2.1
def sh14l4 : Shape := [(6, .d (.slice (.slice (.int .u8)))), (7, .d (.int .i64))]
def sh14l4o0 : Shape := []
def sh14l4oret : Shape := [(4, .d .bool)]
def outs14l4 : Outs := [(2, sh14l4o0), (1, sh14l4oret)]
def m14l4 (F : Nat) (n : Nat) {R : Type} (x : Shape.den sh14l4) (K : Ex → St → Option R) : Option R := law05_VarintCanonical_l4 F (K (.exit 0) (enc sh14l4o0 (()))) (fun y4 => K .ret (enc sh14l4oret (y4, ()))) n x.1 x.2.1
def hs14 (F : Nat) : Nat → Option (Hint (Dens sg14.rtys)) := hintL [(4, { sh := sh14l4, model := m14l4 F F })]
def js14 (F : Nat) : Nat → Option (Hint (Dens sg14.rtys)) := hintL [(9, { sh := sh14j9, model := m14j9 F })]
theorem ok14j9 (F : Nat) (fr : Frm) (hn : (cx14 F).ntmps = fr.n) : MSound (R := (Dens sg14.rtys)) Try.prog fr (sub (bodyOf Try.f14) [1, 1, 1, 0, 1, 0, 0, 1, 0, 0, 1]) sh14j9 (m14j9 F) :=
  join_sound (cx := cx14 F) (hs := hs14 F) (js := js14 F) (outs := outs14j9) (conf_all _ rfl) (cs14 F) hn mix (fun x K => by kernel_rfl) (hok_of (l := []) (by kernel_rfl) obl_nil)
theorem ok14l4 (F : Nat) (fr : Frm) (hn : (cx14 F).ntmps = fr.n) (n : Nat) : MSound (R := (Dens sg14.rtys)) Try.prog fr (.loop (sub (bodyOf Try.f14) [1, 1, 1, 0, 1, 0, 0])) sh14l4 (m14l4 F n) :=
  loop_sound (cx := cx14 F) (hs := hs14 F) (js := js14 F) (outs := outs14l4) (conf_all _ rfl) (cs14 F) hn mix (m := fun n => m14l4 F n) (fun _ _ => rfl) (fun n x K => by kernel_rfl) (hok_of (l := [((sub (bodyOf Try.f14) [1, 1, 1, 0, 1, 0, 0, 1, 0, 0, 1]), { sh := sh14j9, model := m14j9 F })]) (by kernel_rfl) (obl_cons (ok14j9 F fr hn) obl_nil)) n
theorem s14 (F : Nat) : CSound Try.prog 14 (con14 F) :=
  fn_sound (fn := Try.f14) (code := (bodyOf Try.f14)) (cx := cx14 F) (hs := hs14 F) (js := js14 F) Try.func14 (by kernel_rfl) (by kernel_rfl) (conf_all _ rfl) (cs14 F) mix (by kernel_rfl) (by kernel_rfl) (fun fr hn => (hok_of (l := [((.loop (sub (bodyOf Try.f14) [1, 1, 1, 0, 1, 0, 0])), { sh := sh14l4, model := m14l4 F F })]) (by kernel_rfl) (obl_cons (ok14l4 F fr hn F) obl_nil))) (fun x => by kernel_rfl)
def sg36 : Sig := { modes := [.ro, .ro], sh := [(0, .d (.pair .bool (.pair (.arr 4 (.int .u64)) .unit))), (1, .d (.pair .bool (.pair (.arr 4 (.int .u64)) .unit)))], keeps := true, fresh := none, rtys := [(.int .i64)] }
def con36 (F : Nat) : Contract := mkCon sg36 fun x => ref02_Compare F x.1 x.2.1
def cx36 (F : Nat) : Cx := { types := tys, call := callsL [(59, con59 F), (61, con61 F), (60, con60 F)], own := [], ntmps := (0, 24) }
theorem cs36 (F : Nat) : ∀ f c, (cx36 F).call f = some c → CMet Try.prog f c := callsL_sound (calls_cons (s59 F) (calls_cons (s61 F) (calls_cons (s60 F) calls_nil)))
def hs36 (F : Nat) : Nat → Option (Hint (Dens sg36.rtys)) := hintL []
def js36 (F : Nat) : Nat → Option (Hint (Dens sg36.rtys)) := hintL []
theorem s36 (F : Nat) : CSound Try.prog 36 (con36 F) :=
  fn_sound (fn := Try.f36) (code := (bodyOf Try.f36)) (cx := cx36 F) (hs := hs36 F) (js := js36 F) Try.func36 (by kernel_rfl) (by kernel_rfl) (conf_all _ rfl) (cs36 F) mix (by kernel_rfl) (by kernel_rfl) (fun fr hn => (hok_of (l := []) (by kernel_rfl) obl_nil)) (fun x => by kernel_rfl)
def sg9 : Sig := { modes := [.ro, .ro, .ro], sh := [(0, .d (.int .i64)), (1, .d (.int .i64)), (2, .d (.int .u64))], keeps := true, fresh := none, rtys := [.bool] }
def con9 (F : Nat) : Contract := mkCon sg9 fun x => law05_VarintZigzag F x.1 x.2.1 x.2.2.1
def cx9 (F : Nat) : Cx := { types := tys, call := callsL [(35, con35 F), (36, con36 F), (37, con37 F), (39, con39 F), (38, con38 F), (40, con40 F)], own := [], ntmps := (0, 48) }
theorem cs9 (F : Nat) : ∀ f c, (cx9 F).call f = some c → CMet Try.prog f c := callsL_sound (calls_cons (s35 F) (calls_cons (s36 F) (calls_cons (s37 F) (calls_cons (s39 F) (calls_cons (s38 F) (calls_cons (s40 F) calls_nil))))))
def hs9 (F : Nat) : Nat → Option (Hint (Dens sg9.rtys)) := hintL []
def js9 (F : Nat) : Nat → Option (Hint (Dens sg9.rtys)) := hintL []
theorem s9 (F : Nat) : CSound Try.prog 9 (con9 F) :=
  fn_sound (fn := Try.f9) (code := (bodyOf Try.f9)) (cx := cx9 F) (hs := hs9 F) (js := js9 F) Try.func9 (by kernel_rfl) (by kernel_rfl) (conf_all _ rfl) (cs9 F) mix (by kernel_rfl) (by kernel_rfl) (fun fr hn => (hok_of (l := []) (by kernel_rfl) obl_nil)) (fun x => by kernel_rfl)
def sg23 : Sig := { modes := [.ro, .ro], sh := [(0, .d (.slice (.int .u64))), (1, .d (.int .i64))], keeps := true, fresh := none, rtys := [.bool] }
def con23 (F : Nat) : Contract := mkCon sg23 fun x => law08_packs F x.1 x.2.1
def cx23 (F : Nat) : Cx := { types := tys, call := callsL [(31, con31 F), (27, con27 F), (34, con34 F), (30, con30 F), (21, con21 F)], own := [], ntmps := (0, 36) }
theorem cs23 (F : Nat) : ∀ f c, (cx23 F).call f = some c → CMet Try.prog f c := callsL_sound (calls_cons (s31 F) (calls_cons (s27 F) (calls_cons (s34 F) (calls_cons (s30 F) (calls_cons (s21 F) calls_nil)))))
def hs23 (F : Nat) : Nat → Option (Hint (Dens sg23.rtys)) := hintL []
def js23 (F : Nat) : Nat → Option (Hint (Dens sg23.rtys)) := hintL []
theorem s23 (F : Nat) : CSound Try.prog 23 (con23 F) :=
  fn_sound (fn := Try.f23) (code := (bodyOf Try.f23)) (cx := cx23 F) (hs := hs23 F) (js := js23 F) Try.func23 (by kernel_rfl) (by kernel_rfl) (conf_all _ rfl) (cs23 F) mix (by kernel_rfl) (by kernel_rfl) (fun fr hn => (hok_of (l := []) (by kernel_rfl) obl_nil)) (fun x => by kernel_rfl)
def sg5 : Sig := { modes := [.ro, .ro, .ro, .ro], sh := [(0, .d (.slice (.int .u64))), (1, .d (.int .i64)), (2, .d (.int .i64)), (3, .d (.slice (.int .i64)))], keeps := true, fresh := none, rtys := [.bool] }
def con5 (F : Nat) : Contract := mkCon sg5 fun x => law08_BitpackForms F x.1 x.2.1 x.2.2.1 x.2.2.2.1
def cx5 (F : Nat) : Cx := { types := tys, call := callsL [(19, con19 F), (20, con20 F), (21, con21 F), (15, con15 F), (22, con22 F), (23, con23 F), (24, con24 F), (25, con25 F), (26, con26 F)], own := [15], ntmps := (0, 74) }
theorem cs5 (F : Nat) : ∀ f c, (cx5 F).call f = some c → CMet Try.prog f c := callsL_sound (calls_cons (s19 F) (calls_cons (s20 F) (calls_cons (s21 F) (calls_cons (s15 F) (calls_cons (s22 F) (calls_cons (s23 F) (calls_cons (s24 F) (calls_cons (s25 F) (calls_cons (s26 F) calls_nil)))))))))
def hs5 (F : Nat) : Nat → Option (Hint (Dens sg5.rtys)) := hintL []
def js5 (F : Nat) : Nat → Option (Hint (Dens sg5.rtys)) := hintL []
theorem s5 (F : Nat) : CSound Try.prog 5 (con5 F) :=
  fn_sound (fn := Try.f5) (code := (bodyOf Try.f5)) (cx := cx5 F) (hs := hs5 F) (js := js5 F) Try.func5 (by kernel_rfl) (by kernel_rfl) (conf_all _ rfl) (cs5 F) mix (by kernel_rfl) (by kernel_rfl) (fun fr hn => (hok_of (l := []) (by kernel_rfl) obl_nil)) (fun x => by kernel_rfl)
end Go.Proofs.Ytlgfiljadnafeaa
