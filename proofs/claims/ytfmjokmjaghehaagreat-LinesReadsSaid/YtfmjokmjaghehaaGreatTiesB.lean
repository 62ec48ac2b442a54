/- That the code computes the models. Written by program. -/
import Derived.Test.YtfmjokmjaghehaaGreatTiesA
set_option linter.unusedVariables false
set_option linter.unusedSimpArgs false
namespace Go.Proofs.YtfmjokmjaghehaaGreat
open Go.Eng
def sg24 : Sig := { modes := [.ro, .ro, .ro], sh := [(0, .d (.slice (.int .u8))), (1, .d (.int .i64)), (2, .d (.int .i64))], keeps := false, fresh := some (0, 35), rtys := [(.slice (.pair (.int .i64) (.pair (.int .i64) (.pair (.pair tyV (.pair tyV .unit)) .unit)))), (.int .i64), (.int .i64)] }
def con24 (F : Nat) : Contract := mkCon sg24 fun x => lines_Decode F x.1 x.2.1 x.2.2.1
def cx24 (F : Nat) : Cx := { types := tys, call := callsL [(60, con60 F), (61, con61 F), (62, con62 F), (63, con63 F), (64, con64 F), (65, con65 F)], own := [6, 65], ntmps := (0, 108) }
theorem cs24 (F : Nat) : ∀ f c, (cx24 F).call f = some c → CMet Tryz.prog f c := callsL_sound (calls_cons (s60 F) (calls_cons (s61 F) (calls_cons (s62 F) (calls_cons (s63 F) (calls_cons (s64 F) (calls_cons (s65 F) calls_nil))))))
def sh24l16 : Shape := [(0, .d (.slice (.int .u8))), (1, .d (.int .i64)), (11, .d (.slice (.int .i64))), (13, .d (.slice (.int .i64))), (14, .own 14 (.pair (.int .i64) (.pair (.int .i64) (.pair (.pair tyV (.pair tyV .unit)) .unit))) 35), (67, .d (.int .i64)), (68, .d (.int .i64))]
def sh24l16o1 : Shape := [(1, .d (.int .i64)), (14, .own 14 (.pair (.int .i64) (.pair (.int .i64) (.pair (.pair tyV (.pair tyV .unit)) .unit))) 35)]
def sh24l16oret : Shape := [(6, .own 6 (.pair (.int .i64) (.pair (.int .i64) (.pair (.pair tyV (.pair tyV .unit)) .unit))) 35), (7, .d (.int .i64)), (8, .d (.int .i64))]
def outs24l16 : Outs := [(3, sh24l16o1), (1, sh24l16oret)]
def m24l16 (F : Nat) (n : Nat) {R : Type} (x : Shape.den sh24l16) (K : Ex → St → Option R) : Option R := lines_Decode_l16 F (fun y1 y14 => K (.exit 1) (enc sh24l16o1 (y1, y14, ()))) (fun y6 y7 y8 => K .ret (enc sh24l16oret (y6, y7, y8, ()))) n x.1 x.2.1 x.2.2.1 x.2.2.2.1 x.2.2.2.2.1 x.2.2.2.2.2.1 x.2.2.2.2.2.2.1
def hs24 (F : Nat) : Nat → Option (Hint (Dens sg24.rtys)) := hintL [(16, { sh := sh24l16, model := m24l16 F F })]
theorem ok24l16 (F : Nat) (fr : Frm) (hn : (cx24 F).ntmps = fr.n) (n : Nat) : MSound (R := (Dens sg24.rtys)) Tryz.prog fr (.loop (sub (bodyOf Tryz.f24) [1, 1, 1, 1, 1, 1, 1, 1, 1, 0, 1, 0, 0])) sh24l16 (m24l16 F n) :=
  loop_sound (cx := cx24 F) (hs := hs24 F) (js := hintL []) (outs := outs24l16) (conf_all _ rfl) (cs24 F) hn mix (m := fun n => m24l16 F n) (fun _ _ => rfl) (fun n x K => by kernel_rfl) (hok_of (l := []) (by kernel_rfl) obl_nil) n
theorem s24 (F : Nat) : CSound Tryz.prog 24 (con24 F) :=
  fn_sound (fn := Tryz.f24) (code := (bodyOf Tryz.f24)) (cx := cx24 F) (hs := hs24 F) (js := hintL []) Tryz.func24 (by kernel_rfl) (by kernel_rfl) (conf_all _ rfl) (cs24 F) mix (by kernel_rfl) (by kernel_rfl) (fun fr hn => (hok_of (l := [((.loop (sub (bodyOf Tryz.f24) [1, 1, 1, 1, 1, 1, 1, 1, 1, 0, 1, 0, 0])), { sh := sh24l16, model := m24l16 F F })]) (by kernel_rfl) (obl_cons (ok24l16 F fr hn F) obl_nil))) (fun x => by kernel_rfl)
def sg17 : Sig := { modes := [.ro, .ro], sh := [(0, .d (.slice (.int .u8))), (1, .d (.slice (.int .u8)))], keeps := true, fresh := none, rtys := [.bool] }
def con17 (F : Nat) : Contract := mkCon sg17 fun x => ref06_Same F x.1 x.2.1
def cx17 (F : Nat) : Cx := { types := tys, call := callsL [], own := [], ntmps := (0, 26) }
theorem cs17 (F : Nat) : ∀ f c, (cx17 F).call f = some c → CMet Tryz.prog f c := callsL_sound calls_nil
def sh17l4 : Shape := [(0, .d (.slice (.int .u8))), (1, .d (.slice (.int .u8))), (5, .d (.int .i64))]
def sh17l4o0 : Shape := []
def sh17l4oret : Shape := [(4, .d .bool)]
def outs17l4 : Outs := [(2, sh17l4o0), (1, sh17l4oret)]
def m17l4 (F : Nat) (n : Nat) {R : Type} (x : Shape.den sh17l4) (K : Ex → St → Option R) : Option R := ref06_Same_l4 F (K (.exit 0) (enc sh17l4o0 (()))) (fun y4 => K .ret (enc sh17l4oret (y4, ()))) n x.1 x.2.1 x.2.2.1
def hs17 (F : Nat) : Nat → Option (Hint (Dens sg17.rtys)) := hintL [(4, { sh := sh17l4, model := m17l4 F F })]
theorem ok17l4 (F : Nat) (fr : Frm) (hn : (cx17 F).ntmps = fr.n) (n : Nat) : MSound (R := (Dens sg17.rtys)) Tryz.prog fr (.loop (sub (bodyOf Tryz.f17) [1, 1, 0, 1, 0, 0])) sh17l4 (m17l4 F n) :=
  loop_sound (cx := cx17 F) (hs := hs17 F) (js := hintL []) (outs := outs17l4) (conf_all _ rfl) (cs17 F) hn mix (m := fun n => m17l4 F n) (fun _ _ => rfl) (fun n x K => by kernel_rfl) (hok_of (l := []) (by kernel_rfl) obl_nil) n
theorem s17 (F : Nat) : CSound Tryz.prog 17 (con17 F) :=
  fn_sound (fn := Tryz.f17) (code := (bodyOf Tryz.f17)) (cx := cx17 F) (hs := hs17 F) (js := hintL []) Tryz.func17 (by kernel_rfl) (by kernel_rfl) (conf_all _ rfl) (cs17 F) mix (by kernel_rfl) (by kernel_rfl) (fun fr hn => (hok_of (l := [((.loop (sub (bodyOf Tryz.f17) [1, 1, 0, 1, 0, 0])), { sh := sh17l4, model := m17l4 F F })]) (by kernel_rfl) (obl_cons (ok17l4 F fr hn F) obl_nil))) (fun x => by kernel_rfl)
def sg20 : Sig := { modes := [], sh := [], keeps := true, fresh := none, rtys := [.bool] }
def con20 (F : Nat) : Contract := mkCon sg20 fun x => law18_known F 
def cx20 (F : Nat) : Cx := { types := tys, call := callsL [(39, con39 F), (15, con15 F), (24, con24 F), (17, con17 F)], own := [], ntmps := (0, 49) }
theorem cs20 (F : Nat) : ∀ f c, (cx20 F).call f = some c → CMet Tryz.prog f c := callsL_sound (calls_cons (s39 F) (calls_cons (s15 F) (calls_cons (s24 F) (calls_cons (s17 F) calls_nil))))
theorem s20 (F : Nat) : CSound Tryz.prog 20 (con20 F) :=
  fn_sound (fn := Tryz.f20) (code := (bodyOf Tryz.f20)) (cx := cx20 F) (hs := hintL []) (js := hintL []) Tryz.func20 (by kernel_rfl) (by kernel_rfl) (conf_all _ rfl) (cs20 F) mix (by kernel_rfl) (by kernel_rfl) (fun fr hn => (hok_of (l := []) (by kernel_rfl) obl_nil)) (fun x => by kernel_rfl)
def sg175 : Sig := { modes := [.ro, .ro, .ro], sh := [(0, .d (.slice (.int .u8))), (1, .d (.int .i64)), (2, .d (.int .i64))], keeps := false, fresh := none, rtys := [(.slice (.int .u8)), (.int .i64)] }
def con175 (F : Nat) : Contract := mkCon sg175 fun x => ref05_groups F x.1 x.2.1 x.2.2.1
def cx175 (F : Nat) : Cx := { types := tys, call := callsL [], own := [6], ntmps := (0, 47) }
theorem cs175 (F : Nat) : ∀ f c, (cx175 F).call f = some c → CMet Tryz.prog f c := callsL_sound calls_nil
def sh175l4 : Shape := [(0, .d (.slice (.int .u8))), (1, .d (.int .i64)), (2, .d (.int .i64)), (8, .d (.int .i64))]
def sh175l4o0 : Shape := [(2, .d (.int .i64)), (8, .d (.int .i64))]
def sh175l4oret : Shape := [(6, .d (.slice (.int .u8))), (7, .d (.int .i64))]
def outs175l4 : Outs := [(2, sh175l4o0), (1, sh175l4oret)]
def m175l4 (F : Nat) (n : Nat) {R : Type} (x : Shape.den sh175l4) (K : Ex → St → Option R) : Option R := ref05_groups_l4 F (fun y2 y8 => K (.exit 0) (enc sh175l4o0 (y2, y8, ()))) (fun y6 y7 => K .ret (enc sh175l4oret (y6, y7, ()))) n x.1 x.2.1 x.2.2.1 x.2.2.2.1
def hs175 (F : Nat) : Nat → Option (Hint (Dens sg175.rtys)) := hintL [(4, { sh := sh175l4, model := m175l4 F F })]
theorem ok175l4 (F : Nat) (fr : Frm) (hn : (cx175 F).ntmps = fr.n) (n : Nat) : MSound (R := (Dens sg175.rtys)) Tryz.prog fr (.loop (sub (bodyOf Tryz.f175) [1, 1, 1, 0, 0, 0])) sh175l4 (m175l4 F n) :=
  loop_sound (cx := cx175 F) (hs := hs175 F) (js := hintL []) (outs := outs175l4) (conf_all _ rfl) (cs175 F) hn mix (m := fun n => m175l4 F n) (fun _ _ => rfl) (fun n x K => by kernel_rfl) (hok_of (l := []) (by kernel_rfl) obl_nil) n
theorem s175 (F : Nat) : CSound Tryz.prog 175 (con175 F) :=
  fn_sound (fn := Tryz.f175) (code := (bodyOf Tryz.f175)) (cx := cx175 F) (hs := hs175 F) (js := hintL []) Tryz.func175 (by kernel_rfl) (by kernel_rfl) (conf_all _ rfl) (cs175 F) mix (by kernel_rfl) (by kernel_rfl) (fun fr hn => (hok_of (l := [((.loop (sub (bodyOf Tryz.f175) [1, 1, 1, 0, 0, 0])), { sh := sh175l4, model := m175l4 F F })]) (by kernel_rfl) (obl_cons (ok175l4 F fr hn F) obl_nil))) (fun x => by kernel_rfl)
def sg134 : Sig := { modes := [.ro, .ro], sh := [(0, .d (.slice (.int .u8))), (1, .d (.int .i64))], keeps := true, fresh := none, rtys := [(.int .u64), (.int .i64), (.int .i64)] }
def con134 (F : Nat) : Contract := mkCon sg134 fun x => ref05_Read F x.1 x.2.1
def cx134 (F : Nat) : Cx := { types := tys, call := callsL [(175, con175 F)], own := [], ntmps := (0, 64) }
theorem cs134 (F : Nat) : ∀ f c, (cx134 F).call f = some c → CMet Tryz.prog f c := callsL_sound (calls_cons (s175 F) calls_nil)
def sh134l9 : Shape := [(1, .d (.int .i64)), (7, .d (.slice (.int .u8))), (10, .d (.int .u64)), (11, .d (.int .i64))]
def sh134l9o0 : Shape := [(1, .d (.int .i64)), (7, .d (.slice (.int .u8))), (10, .d (.int .u64))]
def outs134l9 : Outs := [(2, sh134l9o0)]
def m134l9 (F : Nat) (n : Nat) {R : Type} (x : Shape.den sh134l9) (K : Ex → St → Option R) : Option R := ref05_Read_l9 F (fun y1 y7 y10 => K (.exit 0) (enc sh134l9o0 (y1, y7, y10, ()))) n x.1 x.2.1 x.2.2.1 x.2.2.2.1
def sh134j7 : Shape := [(1, .d (.int .i64)), (7, .d (.slice (.int .u8)))]
def sh134j7oret : Shape := [(4, .d (.int .u64)), (5, .d (.int .i64)), (6, .d (.int .i64))]
def outs134j7 : Outs := [(1, sh134j7oret)]
def m134j7 (F : Nat) {R : Type} (x : Shape.den sh134j7) (K : Ex → St → Option R) : Option R := ref05_Read_j7 F (fun y4 y5 y6 => K .ret (enc sh134j7oret (y4, y5, y6, ()))) x.1 x.2.1
def hs134 (F : Nat) : Nat → Option (Hint (Dens sg134.rtys)) := hintL [(9, { sh := sh134l9, model := m134l9 F F })]
def js134 (F : Nat) : Nat → Option (Hint (Dens sg134.rtys)) := hintL [(7, { sh := sh134j7, model := m134j7 F })]
theorem ok134l9 (F : Nat) (fr : Frm) (hn : (cx134 F).ntmps = fr.n) (n : Nat) : MSound (R := (Dens sg134.rtys)) Tryz.prog fr (.loop (sub (bodyOf Tryz.f134) [1, 1, 1, 1, 1, 1, 0, 1, 0, 0])) sh134l9 (m134l9 F n) :=
  loop_sound (cx := cx134 F) (hs := hs134 F) (js := js134 F) (outs := outs134l9) (conf_all _ rfl) (cs134 F) hn mix (m := fun n => m134l9 F n) (fun _ _ => rfl) (fun n x K => by kernel_rfl) (hok_of (l := []) (by kernel_rfl) obl_nil) n
theorem ok134j7 (F : Nat) (fr : Frm) (hn : (cx134 F).ntmps = fr.n) : MSound (R := (Dens sg134.rtys)) Tryz.prog fr (sub (bodyOf Tryz.f134) [1, 1, 1, 1, 1]) sh134j7 (m134j7 F) :=
  join_sound (cx := cx134 F) (hs := hs134 F) (js := js134 F) (outs := outs134j7) (conf_all _ rfl) (cs134 F) hn mix (fun x K => by kernel_rfl) (hok_of (l := [((.loop (sub (bodyOf Tryz.f134) [1, 1, 1, 1, 1, 1, 0, 1, 0, 0])), { sh := sh134l9, model := m134l9 F F })]) (by kernel_rfl) (obl_cons (ok134l9 F fr hn F) obl_nil))
theorem s134 (F : Nat) : CSound Tryz.prog 134 (con134 F) :=
  fn_sound (fn := Tryz.f134) (code := (bodyOf Tryz.f134)) (cx := cx134 F) (hs := hs134 F) (js := js134 F) Tryz.func134 (by kernel_rfl) (by kernel_rfl) (conf_all _ rfl) (cs134 F) mix (by kernel_rfl) (by kernel_rfl) (fun fr hn => (hok_of (l := [((sub (bodyOf Tryz.f134) [1, 1, 1, 1, 1]), { sh := sh134j7, model := m134j7 F })]) (by kernel_rfl) (obl_cons (ok134j7 F fr hn) obl_nil))) (fun x => by kernel_rfl)
def sg178 : Sig := { modes := [.ro, .ro, .ro], sh := [(0, .d (.slice (.int .u8))), (1, .d (.int .i64)), (2, .d (.int .i64))], keeps := false, fresh := some (0, 28), rtys := [(.slice (.int .u64)), (.int .i64), (.int .i64)] }
def con178 (F : Nat) : Contract := mkCon sg178 fun x => ref09_plain F x.1 x.2.1 x.2.2.1
def cx178 (F : Nat) : Cx := { types := tys, call := callsL [(134, con134 F)], own := [6, 9], ntmps := (0, 36) }
theorem cs178 (F : Nat) : ∀ f c, (cx178 F).call f = some c → CMet Tryz.prog f c := callsL_sound (calls_cons (s134 F) calls_nil)
def sh178l3 : Shape := [(0, .d (.slice (.int .u8))), (1, .d (.int .i64)), (2, .d (.int .i64)), (9, .own 9 (.int .u64) 28), (10, .d (.int .i64))]
def sh178l3o0 : Shape := [(1, .d (.int .i64)), (9, .own 9 (.int .u64) 28)]
def sh178l3oret : Shape := [(6, .own 6 (.int .u64) 28), (7, .d (.int .i64)), (8, .d (.int .i64))]
def outs178l3 : Outs := [(2, sh178l3o0), (1, sh178l3oret)]
def m178l3 (F : Nat) (n : Nat) {R : Type} (x : Shape.den sh178l3) (K : Ex → St → Option R) : Option R := ref09_plain_l3 F (fun y1 y9 => K (.exit 0) (enc sh178l3o0 (y1, y9, ()))) (fun y6 y7 y8 => K .ret (enc sh178l3oret (y6, y7, y8, ()))) n x.1 x.2.1 x.2.2.1 x.2.2.2.1 x.2.2.2.2.1
def hs178 (F : Nat) : Nat → Option (Hint (Dens sg178.rtys)) := hintL [(3, { sh := sh178l3, model := m178l3 F F })]
theorem ok178l3 (F : Nat) (fr : Frm) (hn : (cx178 F).ntmps = fr.n) (n : Nat) : MSound (R := (Dens sg178.rtys)) Tryz.prog fr (.loop (sub (bodyOf Tryz.f178) [1, 1, 0, 1, 0, 0])) sh178l3 (m178l3 F n) :=
  loop_sound (cx := cx178 F) (hs := hs178 F) (js := hintL []) (outs := outs178l3) (conf_all _ rfl) (cs178 F) hn mix (m := fun n => m178l3 F n) (fun _ _ => rfl) (fun n x K => by kernel_rfl) (hok_of (l := []) (by kernel_rfl) obl_nil) n
theorem s178 (F : Nat) : CSound Tryz.prog 178 (con178 F) :=
  fn_sound (fn := Tryz.f178) (code := (bodyOf Tryz.f178)) (cx := cx178 F) (hs := hs178 F) (js := hintL []) Tryz.func178 (by kernel_rfl) (by kernel_rfl) (conf_all _ rfl) (cs178 F) mix (by kernel_rfl) (by kernel_rfl) (fun fr hn => (hok_of (l := [((.loop (sub (bodyOf Tryz.f178) [1, 1, 0, 1, 0, 0])), { sh := sh178l3, model := m178l3 F F })]) (by kernel_rfl) (obl_cons (ok178l3 F fr hn F) obl_nil))) (fun x => by kernel_rfl)
def sg205 : Sig := { modes := [.ro, .ro, .ro], sh := [(0, .d (.slice (.int .u8))), (1, .d (.int .i64)), (2, .d (.int .i64))], keeps := false, fresh := none, rtys := [(.slice (.int .u64)), .bool] }
def con205 (F : Nat) : Contract := mkCon sg205 fun x => ref08_Unpack F x.1 x.2.1 x.2.2.1
def cx205 (F : Nat) : Cx := { types := tys, call := callsL [(168, con168 F), (125, con125 F), (17, con17 F)], own := [6, 25], ntmps := (0, 72) }
theorem cs205 (F : Nat) : ∀ f c, (cx205 F).call f = some c → CMet Tryz.prog f c := callsL_sound (calls_cons (s168 F) (calls_cons (s125 F) (calls_cons (s17 F) calls_nil)))
def sh205l6 : Shape := [(0, .d (.slice (.int .u8))), (1, .d (.int .i64)), (2, .d (.int .i64)), (9, .own 9 (.int .u64) 28), (10, .d (.int .i64))]
def sh205l6o0 : Shape := [(0, .d (.slice (.int .u8))), (2, .d (.int .i64)), (9, .own 9 (.int .u64) 28)]
def outs205l6 : Outs := [(2, sh205l6o0)]
def m205l6 (F : Nat) (n : Nat) {R : Type} (x : Shape.den sh205l6) (K : Ex → St → Option R) : Option R := ref08_Unpack_l6 F (fun y0 y2 y9 => K (.exit 0) (enc sh205l6o0 (y0, y2, y9, ()))) n x.1 x.2.1 x.2.2.1 x.2.2.2.1 x.2.2.2.2.1
def hs205 (F : Nat) : Nat → Option (Hint (Dens sg205.rtys)) := hintL [(6, { sh := sh205l6, model := m205l6 F F })]
theorem ok205l6 (F : Nat) (fr : Frm) (hn : (cx205 F).ntmps = fr.n) (n : Nat) : MSound (R := (Dens sg205.rtys)) Tryz.prog fr (.loop (sub (bodyOf Tryz.f205) [1, 1, 1, 1, 0, 1, 0, 0])) sh205l6 (m205l6 F n) :=
  loop_sound (cx := cx205 F) (hs := hs205 F) (js := hintL []) (outs := outs205l6) (conf_all _ rfl) (cs205 F) hn mix (m := fun n => m205l6 F n) (fun _ _ => rfl) (fun n x K => by kernel_rfl) (hok_of (l := []) (by kernel_rfl) obl_nil) n
theorem s205 (F : Nat) : CSound Tryz.prog 205 (con205 F) :=
  fn_sound (fn := Tryz.f205) (code := (bodyOf Tryz.f205)) (cx := cx205 F) (hs := hs205 F) (js := hintL []) Tryz.func205 (by kernel_rfl) (by kernel_rfl) (conf_all _ rfl) (cs205 F) mix (by kernel_rfl) (by kernel_rfl) (fun fr hn => (hok_of (l := [((.loop (sub (bodyOf Tryz.f205) [1, 1, 1, 1, 0, 1, 0, 0])), { sh := sh205l6, model := m205l6 F F })]) (by kernel_rfl) (obl_cons (ok205l6 F fr hn F) obl_nil))) (fun x => by kernel_rfl)
def sg179 : Sig := { modes := [.ro, .ro, .ro], sh := [(0, .d (.slice (.int .u8))), (1, .d (.int .i64)), (2, .d (.int .i64))], keeps := false, fresh := none, rtys := [(.slice (.int .u64)), (.int .i64), (.int .i64)] }
def con179 (F : Nat) : Contract := mkCon sg179 fun x => ref09_packed F x.1 x.2.1 x.2.2.1
def cx179 (F : Nat) : Cx := { types := tys, call := callsL [(168, con168 F), (205, con205 F)], own := [6], ntmps := (0, 55) }
theorem cs179 (F : Nat) : ∀ f c, (cx179 F).call f = some c → CMet Tryz.prog f c := callsL_sound (calls_cons (s168 F) (calls_cons (s205 F) calls_nil))
theorem s179 (F : Nat) : CSound Tryz.prog 179 (con179 F) :=
  fn_sound (fn := Tryz.f179) (code := (bodyOf Tryz.f179)) (cx := cx179 F) (hs := hintL []) (js := hintL []) Tryz.func179 (by kernel_rfl) (by kernel_rfl) (conf_all _ rfl) (cs179 F) mix (by kernel_rfl) (by kernel_rfl) (fun fr hn => (hok_of (l := []) (by kernel_rfl) obl_nil)) (fun x => by kernel_rfl)
def sg136 : Sig := { modes := [.ro, .ro, .ro], sh := [(0, .d (.slice (.int .u8))), (1, .d (.int .i64)), (2, .d (.int .i64))], keeps := false, fresh := none, rtys := [(.slice (.int .u64)), (.int .i64), (.int .i64)] }
def con136 (F : Nat) : Contract := mkCon sg136 fun x => ref09_Decode F x.1 x.2.1 x.2.2.1
def cx136 (F : Nat) : Cx := { types := tys, call := callsL [(178, con178 F), (73, con73 F), (17, con17 F), (179, con179 F)], own := [6, 9, 45], ntmps := (0, 77) }
theorem cs136 (F : Nat) : ∀ f c, (cx136 F).call f = some c → CMet Tryz.prog f c := callsL_sound (calls_cons (s178 F) (calls_cons (s73 F) (calls_cons (s17 F) (calls_cons (s179 F) calls_nil))))
theorem s136 (F : Nat) : CSound Tryz.prog 136 (con136 F) :=
  fn_sound (fn := Tryz.f136) (code := (bodyOf Tryz.f136)) (cx := cx136 F) (hs := hintL []) (js := hintL []) Tryz.func136 (by kernel_rfl) (by kernel_rfl) (conf_all _ rfl) (cs136 F) mix (by kernel_rfl) (by kernel_rfl) (fun fr hn => (hok_of (l := []) (by kernel_rfl) obl_nil)) (fun x => by kernel_rfl)
def sg176 : Sig := { modes := [.ro], sh := [(0, .d (.int .u64))], keeps := true, fresh := none, rtys := [(.int .i64)] }
def con176 (F : Nat) : Contract := mkCon sg176 fun x => ref05_Unzigzag F x.1
def cx176 (F : Nat) : Cx := { types := tys, call := callsL [], own := [], ntmps := (0, 14) }
theorem cs176 (F : Nat) : ∀ f c, (cx176 F).call f = some c → CMet Tryz.prog f c := callsL_sound calls_nil
theorem s176 (F : Nat) : CSound Tryz.prog 176 (con176 F) :=
  fn_sound (fn := Tryz.f176) (code := (bodyOf Tryz.f176)) (cx := cx176 F) (hs := hintL []) (js := hintL []) Tryz.func176 (by kernel_rfl) (by kernel_rfl) (conf_all _ rfl) (cs176 F) mix (by kernel_rfl) (by kernel_rfl) (fun fr hn => (hok_of (l := []) (by kernel_rfl) obl_nil)) (fun x => by kernel_rfl)
def sg204 : Sig := { modes := [.ro, .ro], sh := [(0, .d (.int .i64)), (1, .d (.int .u64))], keeps := true, fresh := none, rtys := [(.int .i64)] }
def con204 (F : Nat) : Contract := mkCon sg204 fun x => ref01_Apply F x.1 x.2.1
def cx204 (F : Nat) : Cx := { types := tys, call := callsL [], own := [], ntmps := (0, 10) }
theorem cs204 (F : Nat) : ∀ f c, (cx204 F).call f = some c → CMet Tryz.prog f c := callsL_sound calls_nil
theorem s204 (F : Nat) : CSound Tryz.prog 204 (con204 F) :=
  fn_sound (fn := Tryz.f204) (code := (bodyOf Tryz.f204)) (cx := cx204 F) (hs := hintL []) (js := hintL []) Tryz.func204 (by kernel_rfl) (by kernel_rfl) (conf_all _ rfl) (cs204 F) mix (by kernel_rfl) (by kernel_rfl) (fun fr hn => (hok_of (l := []) (by kernel_rfl) obl_nil)) (fun x => by kernel_rfl)
def sg177 : Sig := { modes := [.ro], sh := [(0, .d (.slice (.int .i64)))], keeps := false, fresh := some (0, 2), rtys := [(.slice (.int .i64))] }
def con177 (F : Nat) : Contract := mkCon sg177 fun x => ref11_sums F x.1
def cx177 (F : Nat) : Cx := { types := tys, call := callsL [(204, con204 F)], own := [2, 3], ntmps := (0, 34) }
theorem cs177 (F : Nat) : ∀ f c, (cx177 F).call f = some c → CMet Tryz.prog f c := callsL_sound (calls_cons (s204 F) calls_nil)
def sh177l3 : Shape := [(0, .d (.slice (.int .i64))), (3, .own 3 (.int .i64) 2), (4, .d (.int .i64))]
def sh177l3o0 : Shape := [(3, .own 3 (.int .i64) 2)]
def outs177l3 : Outs := [(2, sh177l3o0)]
def m177l3 (F : Nat) (n : Nat) {R : Type} (x : Shape.den sh177l3) (K : Ex → St → Option R) : Option R := ref11_sums_l3 F (fun y3 => K (.exit 0) (enc sh177l3o0 (y3, ()))) n x.1 x.2.1 x.2.2.1
def hs177 (F : Nat) : Nat → Option (Hint (Dens sg177.rtys)) := hintL [(3, { sh := sh177l3, model := m177l3 F F })]
theorem ok177l3 (F : Nat) (fr : Frm) (hn : (cx177 F).ntmps = fr.n) (n : Nat) : MSound (R := (Dens sg177.rtys)) Tryz.prog fr (.loop (sub (bodyOf Tryz.f177) [1, 1, 0, 1, 0, 0])) sh177l3 (m177l3 F n) :=
  loop_sound (cx := cx177 F) (hs := hs177 F) (js := hintL []) (outs := outs177l3) (conf_all _ rfl) (cs177 F) hn mix (m := fun n => m177l3 F n) (fun _ _ => rfl) (fun n x K => by kernel_rfl) (hok_of (l := []) (by kernel_rfl) obl_nil) n
theorem s177 (F : Nat) : CSound Tryz.prog 177 (con177 F) :=
  fn_sound (fn := Tryz.f177) (code := (bodyOf Tryz.f177)) (cx := cx177 F) (hs := hs177 F) (js := hintL []) Tryz.func177 (by kernel_rfl) (by kernel_rfl) (conf_all _ rfl) (cs177 F) mix (by kernel_rfl) (by kernel_rfl) (fun fr hn => (hok_of (l := [((.loop (sub (bodyOf Tryz.f177) [1, 1, 0, 1, 0, 0])), { sh := sh177l3, model := m177l3 F F })]) (by kernel_rfl) (obl_cons (ok177l3 F fr hn F) obl_nil))) (fun x => by kernel_rfl)
def sg135 : Sig := { modes := [.ro, .ro, .ro], sh := [(0, .d (.slice (.int .u8))), (1, .d (.int .i64)), (2, .d (.int .i64))], keeps := false, fresh := none, rtys := [(.slice (.int .i64)), (.int .i64), (.int .i64)] }
def con135 (F : Nat) : Contract := mkCon sg135 fun x => ref11_Decode F x.1 x.2.1 x.2.2.1
def cx135 (F : Nat) : Cx := { types := tys, call := callsL [(136, con136 F), (176, con176 F), (177, con177 F), (72, con72 F), (17, con17 F)], own := [6, 55, 79], ntmps := (0, 94) }
theorem cs135 (F : Nat) : ∀ f c, (cx135 F).call f = some c → CMet Tryz.prog f c := callsL_sound (calls_cons (s136 F) (calls_cons (s176 F) (calls_cons (s177 F) (calls_cons (s72 F) (calls_cons (s17 F) calls_nil)))))
def sh135l12 : Shape := [(0, .d (.slice (.int .u8))), (1, .d (.int .i64)), (2, .d (.int .i64)), (9, .d (.slice (.int .u64))), (10, .d (.int .i64)), (12, .own 12 (.int .i64) 2), (13, .d (.int .i64))]
def sh135l12o0 : Shape := [(0, .d (.slice (.int .u8))), (1, .d (.int .i64)), (10, .d (.int .i64)), (12, .own 12 (.int .i64) 2)]
def outs135l12 : Outs := [(2, sh135l12o0)]
def m135l12 (F : Nat) (n : Nat) {R : Type} (x : Shape.den sh135l12) (K : Ex → St → Option R) : Option R := ref11_Decode_l12 F (fun y0 y1 y10 y12 => K (.exit 0) (enc sh135l12o0 (y0, y1, y10, y12, ()))) n x.1 x.2.1 x.2.2.1 x.2.2.2.1 x.2.2.2.2.1 x.2.2.2.2.2.1 x.2.2.2.2.2.2.1
def sh135l16 : Shape := [(0, .d (.slice (.int .u8))), (1, .d (.int .i64)), (10, .d (.int .i64)), (12, .own 12 (.int .i64) 2), (14, .d (.int .i64))]
def sh135l16o2 : Shape := [(0, .d (.slice (.int .u8))), (1, .d (.int .i64)), (10, .d (.int .i64)), (12, .own 12 (.int .i64) 2)]
def outs135l16 : Outs := [(4, sh135l16o2)]
def m135l16 (F : Nat) (n : Nat) {R : Type} (x : Shape.den sh135l16) (K : Ex → St → Option R) : Option R := ref11_Decode_l16 F (fun y0 y1 y10 y12 => K (.exit 2) (enc sh135l16o2 (y0, y1, y10, y12, ()))) n x.1 x.2.1 x.2.2.1 x.2.2.2.1 x.2.2.2.2.1
def hs135 (F : Nat) : Nat → Option (Hint (Dens sg135.rtys)) := hintL [(12, { sh := sh135l12, model := m135l12 F F }), (16, { sh := sh135l16, model := m135l16 F F })]
theorem ok135l12 (F : Nat) (fr : Frm) (hn : (cx135 F).ntmps = fr.n) (n : Nat) : MSound (R := (Dens sg135.rtys)) Tryz.prog fr (.loop (sub (bodyOf Tryz.f135) [1, 1, 1, 1, 1, 1, 1, 0, 1, 0, 0])) sh135l12 (m135l12 F n) :=
  loop_sound (cx := cx135 F) (hs := hs135 F) (js := hintL []) (outs := outs135l12) (conf_all _ rfl) (cs135 F) hn mix (m := fun n => m135l12 F n) (fun _ _ => rfl) (fun n x K => by kernel_rfl) (hok_of (l := []) (by kernel_rfl) obl_nil) n
theorem ok135l16 (F : Nat) (fr : Frm) (hn : (cx135 F).ntmps = fr.n) (n : Nat) : MSound (R := (Dens sg135.rtys)) Tryz.prog fr (.loop (sub (bodyOf Tryz.f135) [1, 1, 1, 1, 1, 1, 1, 1, 0, 1, 0, 0])) sh135l16 (m135l16 F n) :=
  loop_sound (cx := cx135 F) (hs := hs135 F) (js := hintL []) (outs := outs135l16) (conf_all _ rfl) (cs135 F) hn mix (m := fun n => m135l16 F n) (fun _ _ => rfl) (fun n x K => by kernel_rfl) (hok_of (l := []) (by kernel_rfl) obl_nil) n
theorem s135 (F : Nat) : CSound Tryz.prog 135 (con135 F) :=
  fn_sound (fn := Tryz.f135) (code := (bodyOf Tryz.f135)) (cx := cx135 F) (hs := hs135 F) (js := hintL []) Tryz.func135 (by kernel_rfl) (by kernel_rfl) (conf_all _ rfl) (cs135 F) mix (by kernel_rfl) (by kernel_rfl) (fun fr hn => (hok_of (l := [((.loop (sub (bodyOf Tryz.f135) [1, 1, 1, 1, 1, 1, 1, 0, 1, 0, 0])), { sh := sh135l12, model := m135l12 F F }), ((.loop (sub (bodyOf Tryz.f135) [1, 1, 1, 1, 1, 1, 1, 1, 0, 1, 0, 0])), { sh := sh135l16, model := m135l16 F F })]) (by kernel_rfl) (obl_cons (ok135l12 F fr hn F) (obl_cons (ok135l16 F fr hn F) obl_nil)))) (fun x => by kernel_rfl)
def sg103 : Sig := { modes := [.ro, .ro, .ro], sh := [(0, .d (.slice (.int .u8))), (1, .d (.int .i64)), (2, .d (.int .i64))], keeps := false, fresh := some (0, 3), rtys := [(.slice (.int .i64)), (.slice (.int .i64)), (.int .i64), (.int .i64)] }
def con103 (F : Nat) : Contract := mkCon sg103 fun x => ref17_ReadHead F x.1 x.2.1 x.2.2.1
def cx103 (F : Nat) : Cx := { types := tys, call := callsL [(134, con134 F), (136, con136 F), (135, con135 F)], own := [6, 7, 14], ntmps := (0, 106) }
theorem cs103 (F : Nat) : ∀ f c, (cx103 F).call f = some c → CMet Tryz.prog f c := callsL_sound (calls_cons (s134 F) (calls_cons (s136 F) (calls_cons (s135 F) calls_nil)))
def sh103l17 : Shape := [(1, .d (.int .i64)), (12, .d (.slice (.int .u64))), (13, .d (.slice (.int .i64))), (14, .own 14 (.int .i64) 3), (15, .d (.int .u64)), (16, .d (.int .i64))]
def sh103l17o0 : Shape := [(1, .d (.int .i64)), (13, .d (.slice (.int .i64))), (14, .own 14 (.int .i64) 3), (15, .d (.int .u64))]
def sh103l17oret : Shape := [(6, .own 6 (.int .i64) 3), (7, .own 7 (.int .i64) 2), (8, .d (.int .i64)), (9, .d (.int .i64))]
def outs103l17 : Outs := [(2, sh103l17o0), (1, sh103l17oret)]
def m103l17 (F : Nat) (n : Nat) {R : Type} (x : Shape.den sh103l17) (K : Ex → St → Option R) : Option R := ref17_ReadHead_l17 F (fun y1 y13 y14 y15 => K (.exit 0) (enc sh103l17o0 (y1, y13, y14, y15, ()))) (fun y6 y7 y8 y9 => K .ret (enc sh103l17oret (y6, y7, y8, y9, ()))) n x.1 x.2.1 x.2.2.1 x.2.2.2.1 x.2.2.2.2.1 x.2.2.2.2.2.1
def hs103 (F : Nat) : Nat → Option (Hint (Dens sg103.rtys)) := hintL [(17, { sh := sh103l17, model := m103l17 F F })]
theorem ok103l17 (F : Nat) (fr : Frm) (hn : (cx103 F).ntmps = fr.n) (n : Nat) : MSound (R := (Dens sg103.rtys)) Tryz.prog fr (.loop (sub (bodyOf Tryz.f103) [1, 1, 1, 1, 1, 1, 1, 1, 1, 1, 1, 0, 1, 0, 0])) sh103l17 (m103l17 F n) :=
  loop_sound (cx := cx103 F) (hs := hs103 F) (js := hintL []) (outs := outs103l17) (conf_all _ rfl) (cs103 F) hn mix (m := fun n => m103l17 F n) (fun _ _ => rfl) (fun n x K => by kernel_rfl) (hok_of (l := []) (by kernel_rfl) obl_nil) n
theorem s103 (F : Nat) : CSound Tryz.prog 103 (con103 F) :=
  fn_sound (fn := Tryz.f103) (code := (bodyOf Tryz.f103)) (cx := cx103 F) (hs := hs103 F) (js := hintL []) Tryz.func103 (by kernel_rfl) (by kernel_rfl) (conf_all _ rfl) (cs103 F) mix (by kernel_rfl) (by kernel_rfl) (fun fr hn => (hok_of (l := [((.loop (sub (bodyOf Tryz.f103) [1, 1, 1, 1, 1, 1, 1, 1, 1, 1, 1, 0, 1, 0, 0])), { sh := sh103l17, model := m103l17 F F })]) (by kernel_rfl) (obl_cons (ok103l17 F fr hn F) obl_nil))) (fun x => by kernel_rfl)
def sg194 : Sig := { modes := [.ro, .ro], sh := [(0, .d tyV), (1, .d tyV)], keeps := true, fresh := none, rtys := [tyV, .bool] }
def con194 (F : Nat) : Contract := mkCon sg194 fun x => ref02_Add F x.1 x.2.1
def cx194 (F : Nat) : Cx := { types := tys, call := callsL [(141, con141 F), (91, con91 F), (185, con185 F), (90, con90 F), (174, con174 F), (186, con186 F)], own := [], ntmps := (0, 51) }
theorem cs194 (F : Nat) : ∀ f c, (cx194 F).call f = some c → CMet Tryz.prog f c := callsL_sound (calls_cons (s141 F) (calls_cons (s91 F) (calls_cons (s185 F) (calls_cons (s90 F) (calls_cons (s174 F) (calls_cons (s186 F) calls_nil))))))
theorem s194 (F : Nat) : CSound Tryz.prog 194 (con194 F) :=
  fn_sound (fn := Tryz.f194) (code := (bodyOf Tryz.f194)) (cx := cx194 F) (hs := hintL []) (js := hintL []) Tryz.func194 (by kernel_rfl) (by kernel_rfl) (conf_all _ rfl) (cs194 F) mix (by kernel_rfl) (by kernel_rfl) (fun fr hn => (hok_of (l := []) (by kernel_rfl) obl_nil)) (fun x => by kernel_rfl)
def sg189 : Sig := { modes := [.ro, .ro, .ro], sh := [(0, .d tyV), (1, .d (.int .i64)), (2, .d (.int .u64))], keeps := true, fresh := none, rtys := [tyV, .bool] }
def con189 (F : Nat) : Contract := mkCon sg189 fun x => ref05_shifted F x.1 x.2.1 x.2.2.1
def cx189 (F : Nat) : Cx := { types := tys, call := callsL [(42, con42 F), (87, con87 F), (86, con86 F), (194, con194 F)], own := [], ntmps := (0, 26) }
theorem cs189 (F : Nat) : ∀ f c, (cx189 F).call f = some c → CMet Tryz.prog f c := callsL_sound (calls_cons (s42 F) (calls_cons (s87 F) (calls_cons (s86 F) (calls_cons (s194 F) calls_nil))))
theorem s189 (F : Nat) : CSound Tryz.prog 189 (con189 F) :=
  fn_sound (fn := Tryz.f189) (code := (bodyOf Tryz.f189)) (cx := cx189 F) (hs := hintL []) (js := hintL []) Tryz.func189 (by kernel_rfl) (by kernel_rfl) (conf_all _ rfl) (cs189 F) mix (by kernel_rfl) (by kernel_rfl) (fun fr hn => (hok_of (l := []) (by kernel_rfl) obl_nil)) (fun x => by kernel_rfl)
def sg152 : Sig := { modes := [.ro, .ro], sh := [(0, .d (.slice (.int .u8))), (1, .d (.int .i64))], keeps := true, fresh := none, rtys := [tyV, (.int .i64), (.int .i64)] }
def con152 (F : Nat) : Contract := mkCon sg152 fun x => ref05_ReadWide F x.1 x.2.1
def cx152 (F : Nat) : Cx := { types := tys, call := callsL [(175, con175 F), (189, con189 F), (44, con44 F)], own := [], ntmps := (0, 95) }
theorem cs152 (F : Nat) : ∀ f c, (cx152 F).call f = some c → CMet Tryz.prog f c := callsL_sound (calls_cons (s175 F) (calls_cons (s189 F) (calls_cons (s44 F) calls_nil)))
def sh152l10 : Shape := [(1, .d (.int .i64)), (4, .box 4 tyV), (7, .d (.slice (.int .u8))), (10, .box 10 tyV), (11, .d .bool), (12, .d (.int .i64))]
def sh152l10o0 : Shape := [(1, .d (.int .i64)), (4, .box 4 tyV), (7, .d (.slice (.int .u8))), (10, .box 10 tyV), (11, .d .bool)]
def outs152l10 : Outs := [(2, sh152l10o0)]
def m152l10 (F : Nat) (n : Nat) {R : Type} (x : Shape.den sh152l10) (K : Ex → St → Option R) : Option R := ref05_ReadWide_l10 F (fun y1 y4 y7 y10 y11 => K (.exit 0) (enc sh152l10o0 (y1, y4, y7, y10, y11, ()))) n x.1 x.2.1 x.2.2.1 x.2.2.2.1 x.2.2.2.2.1 x.2.2.2.2.2.1
def sh152j15 : Shape := [(1, .d (.int .i64)), (4, .box 4 tyV), (7, .d (.slice (.int .u8))), (10, .box 10 tyV), (11, .d .bool)]
def sh152j15oret : Shape := [(4, .box 4 tyV), (5, .d (.int .i64)), (6, .d (.int .i64))]
def outs152j15 : Outs := [(1, sh152j15oret)]
def m152j15 (F : Nat) {R : Type} (x : Shape.den sh152j15) (K : Ex → St → Option R) : Option R := ref05_ReadWide_j15 F (fun y4 y5 y6 => K .ret (enc sh152j15oret (y4, y5, y6, ()))) x.1 x.2.1 x.2.2.1 x.2.2.2.1 x.2.2.2.2.1
def sh152j7 : Shape := [(1, .d (.int .i64)), (4, .box 4 tyV), (7, .d (.slice (.int .u8)))]
def sh152j7oret : Shape := [(4, .box 4 tyV), (5, .d (.int .i64)), (6, .d (.int .i64))]
def outs152j7 : Outs := [(1, sh152j7oret)]
def m152j7 (F : Nat) {R : Type} (x : Shape.den sh152j7) (K : Ex → St → Option R) : Option R := ref05_ReadWide_j7 F (fun y4 y5 y6 => K .ret (enc sh152j7oret (y4, y5, y6, ()))) x.1 x.2.1 x.2.2.1
def hs152 (F : Nat) : Nat → Option (Hint (Dens sg152.rtys)) := hintL [(10, { sh := sh152l10, model := m152l10 F F })]
def js152 (F : Nat) : Nat → Option (Hint (Dens sg152.rtys)) := hintL [(15, { sh := sh152j15, model := m152j15 F }), (7, { sh := sh152j7, model := m152j7 F })]
theorem ok152l10 (F : Nat) (fr : Frm) (hn : (cx152 F).ntmps = fr.n) (n : Nat) : MSound (R := (Dens sg152.rtys)) Tryz.prog fr (.loop (sub (bodyOf Tryz.f152) [1, 1, 1, 1, 1, 1, 1, 0, 1, 0, 0])) sh152l10 (m152l10 F n) :=
  loop_sound (cx := cx152 F) (hs := hs152 F) (js := js152 F) (outs := outs152l10) (conf_all _ rfl) (cs152 F) hn mix (m := fun n => m152l10 F n) (fun _ _ => rfl) (fun n x K => by kernel_rfl) (hok_of (l := []) (by kernel_rfl) obl_nil) n
theorem ok152j15 (F : Nat) (fr : Frm) (hn : (cx152 F).ntmps = fr.n) : MSound (R := (Dens sg152.rtys)) Tryz.prog fr (sub (bodyOf Tryz.f152) [1, 1, 1, 1, 1, 1, 1, 1, 1]) sh152j15 (m152j15 F) :=
  join_sound (cx := cx152 F) (hs := hs152 F) (js := js152 F) (outs := outs152j15) (conf_all _ rfl) (cs152 F) hn mix (fun x K => by kernel_rfl) (hok_of (l := []) (by kernel_rfl) obl_nil)
theorem ok152j7 (F : Nat) (fr : Frm) (hn : (cx152 F).ntmps = fr.n) : MSound (R := (Dens sg152.rtys)) Tryz.prog fr (sub (bodyOf Tryz.f152) [1, 1, 1, 1, 1]) sh152j7 (m152j7 F) :=
  join_sound (cx := cx152 F) (hs := hs152 F) (js := js152 F) (outs := outs152j7) (conf_all _ rfl) (cs152 F) hn mix (fun x K => by kernel_rfl) (hok_of (l := [((.loop (sub (bodyOf Tryz.f152) [1, 1, 1, 1, 1, 1, 1, 0, 1, 0, 0])), { sh := sh152l10, model := m152l10 F F }), ((sub (bodyOf Tryz.f152) [1, 1, 1, 1, 1, 1, 1, 1, 1]), { sh := sh152j15, model := m152j15 F })]) (by kernel_rfl) (obl_cons (ok152l10 F fr hn F) (obl_cons (ok152j15 F fr hn) obl_nil)))
theorem s152 (F : Nat) : CSound Tryz.prog 152 (con152 F) :=
  fn_sound (fn := Tryz.f152) (code := (bodyOf Tryz.f152)) (cx := cx152 F) (hs := hs152 F) (js := js152 F) Tryz.func152 (by kernel_rfl) (by kernel_rfl) (conf_all _ rfl) (cs152 F) mix (by kernel_rfl) (by kernel_rfl) (fun fr hn => (hok_of (l := [((sub (bodyOf Tryz.f152) [1, 1, 1, 1, 1]), { sh := sh152j7, model := m152j7 F })]) (by kernel_rfl) (obl_cons (ok152j7 F fr hn) obl_nil))) (fun x => by kernel_rfl)
def sg104 : Sig := { modes := [.ro, .ro], sh := [(0, .d (.slice (.int .u8))), (1, .d (.int .i64))], keeps := true, fresh := none, rtys := [(.pair tyV (.pair tyV .unit)), (.int .i64), (.int .i64)] }
def con104 (F : Nat) : Contract := mkCon sg104 fun x => ref18_ReadSlope F x.1 x.2.1
def cx104 (F : Nat) : Cx := { types := tys, call := callsL [(152, con152 F), (57, con57 F)], own := [], ntmps := (0, 42) }
theorem cs104 (F : Nat) : ∀ f c, (cx104 F).call f = some c → CMet Tryz.prog f c := callsL_sound (calls_cons (s152 F) (calls_cons (s57 F) calls_nil))
theorem s104 (F : Nat) : CSound Tryz.prog 104 (con104 F) :=
  fn_sound (fn := Tryz.f104) (code := (bodyOf Tryz.f104)) (cx := cx104 F) (hs := hintL []) (js := hintL []) Tryz.func104 (by kernel_rfl) (by kernel_rfl) (conf_all _ rfl) (cs104 F) mix (by kernel_rfl) (by kernel_rfl) (fun fr hn => (hok_of (l := []) (by kernel_rfl) obl_nil)) (fun x => by kernel_rfl)
def sg59 : Sig := { modes := [.ro, .ro, .ro], sh := [(0, .d (.slice (.int .u8))), (1, .d (.int .i64)), (2, .d (.int .i64))], keeps := false, fresh := some (0, 35), rtys := [(.slice (.pair (.int .i64) (.pair (.int .i64) (.pair (.pair tyV (.pair tyV .unit)) .unit)))), (.int .i64), (.int .i64)] }
def con59 (F : Nat) : Contract := mkCon sg59 fun x => ref18_Decode F x.1 x.2.1 x.2.2.1
def cx59 (F : Nat) : Cx := { types := tys, call := callsL [(103, con103 F), (39, con39 F), (104, con104 F)], own := [6, 12], ntmps := (0, 63) }
theorem cs59 (F : Nat) : ∀ f c, (cx59 F).call f = some c → CMet Tryz.prog f c := callsL_sound (calls_cons (s103 F) (calls_cons (s39 F) (calls_cons (s104 F) calls_nil)))
def sh59l6 : Shape := [(0, .d (.slice (.int .u8))), (1, .d (.int .i64)), (9, .d (.slice (.int .i64))), (10, .d (.slice (.int .i64))), (12, .own 12 (.pair (.int .i64) (.pair (.int .i64) (.pair (.pair tyV (.pair tyV .unit)) .unit))) 35), (13, .d (.int .i64))]
def sh59l6o0 : Shape := [(1, .d (.int .i64)), (12, .own 12 (.pair (.int .i64) (.pair (.int .i64) (.pair (.pair tyV (.pair tyV .unit)) .unit))) 35)]
def sh59l6oret : Shape := [(6, .own 6 (.pair (.int .i64) (.pair (.int .i64) (.pair (.pair tyV (.pair tyV .unit)) .unit))) 35), (7, .d (.int .i64)), (8, .d (.int .i64))]
def outs59l6 : Outs := [(2, sh59l6o0), (1, sh59l6oret)]
def m59l6 (F : Nat) (n : Nat) {R : Type} (x : Shape.den sh59l6) (K : Ex → St → Option R) : Option R := ref18_Decode_l6 F (fun y1 y12 => K (.exit 0) (enc sh59l6o0 (y1, y12, ()))) (fun y6 y7 y8 => K .ret (enc sh59l6oret (y6, y7, y8, ()))) n x.1 x.2.1 x.2.2.1 x.2.2.2.1 x.2.2.2.2.1 x.2.2.2.2.2.1
def hs59 (F : Nat) : Nat → Option (Hint (Dens sg59.rtys)) := hintL [(6, { sh := sh59l6, model := m59l6 F F })]
theorem ok59l6 (F : Nat) (fr : Frm) (hn : (cx59 F).ntmps = fr.n) (n : Nat) : MSound (R := (Dens sg59.rtys)) Tryz.prog fr (.loop (sub (bodyOf Tryz.f59) [1, 1, 1, 1, 0, 1, 0, 0])) sh59l6 (m59l6 F n) :=
  loop_sound (cx := cx59 F) (hs := hs59 F) (js := hintL []) (outs := outs59l6) (conf_all _ rfl) (cs59 F) hn mix (m := fun n => m59l6 F n) (fun _ _ => rfl) (fun n x K => by kernel_rfl) (hok_of (l := []) (by kernel_rfl) obl_nil) n
theorem s59 (F : Nat) : CSound Tryz.prog 59 (con59 F) :=
  fn_sound (fn := Tryz.f59) (code := (bodyOf Tryz.f59)) (cx := cx59 F) (hs := hs59 F) (js := hintL []) Tryz.func59 (by kernel_rfl) (by kernel_rfl) (conf_all _ rfl) (cs59 F) mix (by kernel_rfl) (by kernel_rfl) (fun fr hn => (hok_of (l := [((.loop (sub (bodyOf Tryz.f59) [1, 1, 1, 1, 0, 1, 0, 0])), { sh := sh59l6, model := m59l6 F F })]) (by kernel_rfl) (obl_cons (ok59l6 F fr hn F) obl_nil))) (fun x => by kernel_rfl)
def sg25 : Sig := { modes := [.ro, .ro], sh := [(0, .d (.slice (.pair (.int .i64) (.pair (.int .i64) (.pair (.pair tyV (.pair tyV .unit)) .unit))))), (1, .d (.slice (.pair (.int .i64) (.pair (.int .i64) (.pair (.pair tyV (.pair tyV .unit)) .unit)))))], keeps := true, fresh := none, rtys := [.bool] }
def con25 (F : Nat) : Contract := mkCon sg25 fun x => ref14_Same F x.1 x.2.1
def cx25 (F : Nat) : Cx := { types := tys, call := callsL [], own := [], ntmps := (0, 26) }
theorem cs25 (F : Nat) : ∀ f c, (cx25 F).call f = some c → CMet Tryz.prog f c := callsL_sound calls_nil
def sh25l4 : Shape := [(0, .d (.slice (.pair (.int .i64) (.pair (.int .i64) (.pair (.pair tyV (.pair tyV .unit)) .unit))))), (1, .d (.slice (.pair (.int .i64) (.pair (.int .i64) (.pair (.pair tyV (.pair tyV .unit)) .unit))))), (5, .d (.int .i64))]
def sh25l4o0 : Shape := []
def sh25l4oret : Shape := [(4, .d .bool)]
def outs25l4 : Outs := [(2, sh25l4o0), (1, sh25l4oret)]
def m25l4 (F : Nat) (n : Nat) {R : Type} (x : Shape.den sh25l4) (K : Ex → St → Option R) : Option R := ref14_Same_l4 F (K (.exit 0) (enc sh25l4o0 (()))) (fun y4 => K .ret (enc sh25l4oret (y4, ()))) n x.1 x.2.1 x.2.2.1
def hs25 (F : Nat) : Nat → Option (Hint (Dens sg25.rtys)) := hintL [(4, { sh := sh25l4, model := m25l4 F F })]
theorem ok25l4 (F : Nat) (fr : Frm) (hn : (cx25 F).ntmps = fr.n) (n : Nat) : MSound (R := (Dens sg25.rtys)) Tryz.prog fr (.loop (sub (bodyOf Tryz.f25) [1, 1, 0, 1, 0, 0])) sh25l4 (m25l4 F n) :=
  loop_sound (cx := cx25 F) (hs := hs25 F) (js := hintL []) (outs := outs25l4) (conf_all _ rfl) (cs25 F) hn mix (m := fun n => m25l4 F n) (fun _ _ => rfl) (fun n x K => by kernel_rfl) (hok_of (l := []) (by kernel_rfl) obl_nil) n
theorem s25 (F : Nat) : CSound Tryz.prog 25 (con25 F) :=
  fn_sound (fn := Tryz.f25) (code := (bodyOf Tryz.f25)) (cx := cx25 F) (hs := hs25 F) (js := hintL []) Tryz.func25 (by kernel_rfl) (by kernel_rfl) (conf_all _ rfl) (cs25 F) mix (by kernel_rfl) (by kernel_rfl) (fun fr hn => (hok_of (l := [((.loop (sub (bodyOf Tryz.f25) [1, 1, 0, 1, 0, 0])), { sh := sh25l4, model := m25l4 F F })]) (by kernel_rfl) (obl_cons (ok25l4 F fr hn F) obl_nil))) (fun x => by kernel_rfl)
def sg22 : Sig := { modes := [.ro, .ro, .ro], sh := [(0, .d (.slice (.int .u8))), (1, .d (.int .i64)), (2, .d (.int .i64))], keeps := true, fresh := none, rtys := [.bool] }
def con22 (F : Nat) : Contract := mkCon sg22 fun x => law18_reads F x.1 x.2.1 x.2.2.1
def cx22 (F : Nat) : Cx := { types := tys, call := callsL [(24, con24 F), (59, con59 F), (25, con25 F)], own := [], ntmps := (0, 42) }
theorem cs22 (F : Nat) : ∀ f c, (cx22 F).call f = some c → CMet Tryz.prog f c := callsL_sound (calls_cons (s24 F) (calls_cons (s59 F) (calls_cons (s25 F) calls_nil)))
theorem s22 (F : Nat) : CSound Tryz.prog 22 (con22 F) :=
  fn_sound (fn := Tryz.f22) (code := (bodyOf Tryz.f22)) (cx := cx22 F) (hs := hintL []) (js := hintL []) Tryz.func22 (by kernel_rfl) (by kernel_rfl) (conf_all _ rfl) (cs22 F) mix (by kernel_rfl) (by kernel_rfl) (fun fr hn => (hok_of (l := []) (by kernel_rfl) obl_nil)) (fun x => by kernel_rfl)
def sg23 : Sig := { modes := [.bor, .ro], sh := [(0, .box 0 (.pair (.slice (.int .i64)) (.pair (.int .i64) .unit))), (1, .d (.slice (.int .u8)))], keeps := false, fresh := some (0, 5), rtys := [(.pair (.slice (.int .i64)) (.pair (.int .i64) .unit)), (.slice (.int .u8))] }
def con23 (F : Nat) : Contract := mkCon sg23 fun x => made_Tape_Spoiled F x.1 x.2.1
def cx23 (F : Nat) : Cx := { types := tys, call := callsL [(13, con13 F)], own := [4, 6, 36, 52], ntmps := (1, 59), cuts := [52, 56] }
theorem cs23 (F : Nat) : ∀ f c, (cx23 F).call f = some c → CMet Tryz.prog f c := callsL_sound (calls_cons (s13 F) calls_nil)
theorem s23 (F : Nat) : CSound Tryz.prog 23 (con23 F) :=
  fn_sound (fn := Tryz.f23) (code := (bodyOf Tryz.f23)) (cx := cx23 F) (hs := hintL []) (js := hintL []) Tryz.func23 (by kernel_rfl) (by kernel_rfl) (conf_all _ rfl) (cs23 F) mix (by kernel_rfl) (by kernel_rfl) (fun fr hn => (hok_of (l := []) (by kernel_rfl) obl_nil)) (fun x => by kernel_rfl)
def sg23w : Sig := { modes := [.bor, .wr 5], sh := [(0, .box 0 (.pair (.slice (.int .i64)) (.pair (.int .i64) .unit))), (1, .own 1 (.int .u8) 5)], keeps := false, fresh := some (0, 5), rtys := [(.pair (.slice (.int .i64)) (.pair (.int .i64) .unit)), (.slice (.int .u8)), (.slice (.int .u8))] }
def con23w (F : Nat) : Contract := mkCon sg23w fun x => made_Tape_Spoiledw F x.1 x.2.1
def cx23w (F : Nat) : Cx := { types := tys, call := callsL [(13, con13 F)], own := [4, 6, 36, 52], ntmps := (1, 59), cuts := [52, 56] }
theorem cs23w (F : Nat) : ∀ f c, (cx23w F).call f = some c → CMet Tryz.prog f c := callsL_sound (calls_cons (s13 F) calls_nil)
def hs23w (F : Nat) : Nat → Option (Hint (Dens sg23w.rtys)) := hintL []
def js23w (F : Nat) : Nat → Option (Hint (Dens sg23w.rtys)) := hintL []
theorem s23w (F : Nat) : CSound Tryz.prog 23 (con23w F) :=
  fn_sound (fn := Tryz.f23) (code := (bodyOf Tryz.f23)) (cx := cx23w F) (hs := hs23w F) (js := js23w F) Tryz.func23 (by kernel_rfl) (by kernel_rfl) (conf_all _ rfl) (cs23w F) mix (by kernel_rfl) (by kernel_rfl) (fun fr hn => (hok_of (l := []) (by kernel_rfl) obl_nil)) (fun x => by kernel_rfl)
def sg4 : Sig := { modes := [.ro, .ro, .ro, .ro], sh := [(0, .d (.slice (.int .u8))), (1, .d (.int .i64)), (2, .d (.int .i64)), (3, .d (.slice (.int .i64)))], keeps := true, fresh := none, rtys := [.bool] }
def con4 (F : Nat) : Contract := mkCon sg4 fun x => law18_LinesReads F x.1 x.2.1 x.2.2.1 x.2.2.2.1
def cx4 (F : Nat) : Cx := { types := tys, call := callsL [(11, con11 F), (12, con12 F), (16, con16 F), (21, con21 F), (20, con20 F), (22, con22 F), (13, con13 F), (23, con23w F)], own := [17, 25, 32, 51], ntmps := (0, 89) }
theorem cs4 (F : Nat) : ∀ f c, (cx4 F).call f = some c → CMet Tryz.prog f c := callsL_sound (calls_cons (s11 F) (calls_cons (s12 F) (calls_cons (s16 F) (calls_cons (s21 F) (calls_cons (s20 F) (calls_cons (s22 F) (calls_cons (s13 F) (calls_cons (s23w F) calls_nil))))))))
theorem s4 (F : Nat) : CSound Tryz.prog 4 (con4 F) :=
  fn_sound (fn := Tryz.f4) (code := (bodyOf Tryz.f4)) (cx := cx4 F) (hs := hintL []) (js := hintL []) Tryz.func4 (by kernel_rfl) (by kernel_rfl) (conf_all _ rfl) (cs4 F) mix (by kernel_rfl) (by kernel_rfl) (fun fr hn => (hok_of (l := []) (by kernel_rfl) obl_nil)) (fun x => by kernel_rfl)
end Go.Proofs.YtfmjokmjaghehaaGreat
