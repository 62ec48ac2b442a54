/- That the code computes the models. Written by program. -/
import Derived.Test.YtfmjokmjaghehaaGreatTiesA
set_option linter.unusedVariables false
set_option linter.unusedSimpArgs false
namespace Go.Proofs.YtfmjokmjaghehaaGreat
open Go.Eng
def sg111 : Sig := { modes := [.ro, .ro], sh := [(0, .d (.slice (.int .u8))), (1, .d (.int .i64))], keeps := true, fresh := none, rtys := [tyV, (.int .i64), (.int .i64)] }
def con111 (F : Nat) : Contract := mkCon sg111 fun x => varint_ReadWide F x.1 x.2.1
def cx111 (F : Nat) : Cx := { types := tys, call := callsL [(153, con153 F), (126, con126 F)], own := [], ntmps := (0, 94) }
theorem cs111 (F : Nat) : ∀ f c, (cx111 F).call f = some c → CMet Tryz.prog f c := callsL_sound (calls_cons (s153 F) (calls_cons (s126 F) calls_nil))
def sh111l9 : Shape := [(1, .d (.int .i64)), (4, .box 4 tyV), (7, .d (.slice (.int .u8))), (9, .box 9 (.arr 5 (.int .u64))), (10, .d (.int .i64)), (11, .d (.int .i64))]
def sh111l9o2 : Shape := [(1, .d (.int .i64)), (4, .box 4 tyV), (7, .d (.slice (.int .u8))), (9, .box 9 (.arr 5 (.int .u64))), (10, .d (.int .i64))]
def outs111l9 : Outs := [(4, sh111l9o2)]
def m111l9 (F : Nat) (n : Nat) {R : Type} (x : Shape.den sh111l9) (K : Ex → St → Option R) : Option R := varint_ReadWide_l9 F (fun y1 y4 y7 y9 y10 => K (.exit 2) (enc sh111l9o2 (y1, y4, y7, y9, y10, ()))) n x.1 x.2.1 x.2.2.1 x.2.2.2.1 x.2.2.2.2.1 x.2.2.2.2.2.1
def sh111l6 : Shape := [(1, .d (.int .i64)), (4, .box 4 tyV), (7, .d (.slice (.int .u8))), (9, .box 9 (.arr 5 (.int .u64))), (10, .d (.int .i64))]
def sh111l6o0 : Shape := [(1, .d (.int .i64)), (4, .box 4 tyV), (7, .d (.slice (.int .u8))), (9, .box 9 (.arr 5 (.int .u64)))]
def outs111l6 : Outs := [(2, sh111l6o0)]
def m111l6 (F : Nat) (n : Nat) {R : Type} (x : Shape.den sh111l6) (K : Ex → St → Option R) : Option R := varint_ReadWide_l6 F (fun y1 y4 y7 y9 => K (.exit 0) (enc sh111l6o0 (y1, y4, y7, y9, ()))) n x.1 x.2.1 x.2.2.1 x.2.2.2.1 x.2.2.2.2.1
def sh111l15 : Shape := [(1, .d (.int .i64)), (4, .box 4 tyV), (7, .d (.slice (.int .u8))), (9, .box 9 (.arr 5 (.int .u64))), (12, .box 12 tyV), (63, .d (.int .i64))]
def sh111l15o4 : Shape := [(1, .d (.int .i64)), (4, .box 4 tyV), (7, .d (.slice (.int .u8))), (9, .box 9 (.arr 5 (.int .u64))), (12, .box 12 tyV)]
def outs111l15 : Outs := [(6, sh111l15o4)]
def m111l15 (F : Nat) (n : Nat) {R : Type} (x : Shape.den sh111l15) (K : Ex → St → Option R) : Option R := varint_ReadWide_l15 F (fun y1 y4 y7 y9 y12 => K (.exit 4) (enc sh111l15o4 (y1, y4, y7, y9, y12, ()))) n x.1 x.2.1 x.2.2.1 x.2.2.2.1 x.2.2.2.2.1 x.2.2.2.2.2.1
def hs111 (F : Nat) : Nat → Option (Hint (Dens sg111.rtys)) := hintL [(9, { sh := sh111l9, model := m111l9 F F }), (6, { sh := sh111l6, model := m111l6 F F }), (15, { sh := sh111l15, model := m111l15 F F })]
theorem ok111l9 (F : Nat) (fr : Frm) (hn : (cx111 F).ntmps = fr.n) (n : Nat) : MSound (R := (Dens sg111.rtys)) Tryz.prog fr (.loop (sub (bodyOf Tryz.f111) [1, 1, 1, 1, 0, 1, 0, 0, 1, 0, 0, 0, 1, 0, 0])) sh111l9 (m111l9 F n) :=
  loop_sound (cx := cx111 F) (hs := hs111 F) (js := hintL []) (outs := outs111l9) (conf_all _ rfl) (cs111 F) hn mix (m := fun n => m111l9 F n) (fun _ _ => rfl) (fun n x K => by kernel_rfl) (hok_of (l := []) (by kernel_rfl) obl_nil) n
theorem ok111l6 (F : Nat) (fr : Frm) (hn : (cx111 F).ntmps = fr.n) (n : Nat) : MSound (R := (Dens sg111.rtys)) Tryz.prog fr (.loop (sub (bodyOf Tryz.f111) [1, 1, 1, 1, 0, 1, 0, 0])) sh111l6 (m111l6 F n) :=
  loop_sound (cx := cx111 F) (hs := hs111 F) (js := hintL []) (outs := outs111l6) (conf_all _ rfl) (cs111 F) hn mix (m := fun n => m111l6 F n) (fun _ _ => rfl) (fun n x K => by kernel_rfl) (hok_of (l := [((.loop (sub (bodyOf Tryz.f111) [1, 1, 1, 1, 0, 1, 0, 0, 1, 0, 0, 0, 1, 0, 0])), { sh := sh111l9, model := m111l9 F F })]) (by kernel_rfl) (obl_cons (ok111l9 F fr hn F) obl_nil)) n
theorem ok111l15 (F : Nat) (fr : Frm) (hn : (cx111 F).ntmps = fr.n) (n : Nat) : MSound (R := (Dens sg111.rtys)) Tryz.prog fr (.loop (sub (bodyOf Tryz.f111) [1, 1, 1, 1, 1, 1, 0, 1, 0, 0])) sh111l15 (m111l15 F n) :=
  loop_sound (cx := cx111 F) (hs := hs111 F) (js := hintL []) (outs := outs111l15) (conf_all _ rfl) (cs111 F) hn mix (m := fun n => m111l15 F n) (fun _ _ => rfl) (fun n x K => by kernel_rfl) (hok_of (l := []) (by kernel_rfl) obl_nil) n
theorem s111 (F : Nat) : CSound Tryz.prog 111 (con111 F) :=
  fn_sound (fn := Tryz.f111) (code := (bodyOf Tryz.f111)) (cx := cx111 F) (hs := hs111 F) (js := hintL []) Tryz.func111 (by kernel_rfl) (by kernel_rfl) (conf_all _ rfl) (cs111 F) mix (by kernel_rfl) (by kernel_rfl) (fun fr hn => (hok_of (l := [((.loop (sub (bodyOf Tryz.f111) [1, 1, 1, 1, 0, 1, 0, 0])), { sh := sh111l6, model := m111l6 F F }), ((.loop (sub (bodyOf Tryz.f111) [1, 1, 1, 1, 1, 1, 0, 1, 0, 0])), { sh := sh111l15, model := m111l15 F F })]) (by kernel_rfl) (obl_cons (ok111l6 F fr hn F) (obl_cons (ok111l15 F fr hn F) obl_nil)))) (fun x => by kernel_rfl)
def sg65 : Sig := { modes := [.ro, .ro], sh := [(0, .d (.slice (.int .u8))), (1, .d (.int .i64))], keeps := true, fresh := none, rtys := [(.pair tyV (.pair tyV .unit)), (.int .i64), (.int .i64)] }
def con65 (F : Nat) : Contract := mkCon sg65 fun x => records_Slope F x.1 x.2.1
def cx65 (F : Nat) : Cx := { types := tys, call := callsL [(111, con111 F), (112, con112 F), (76, con76 F)], own := [], ntmps := (0, 49) }
theorem cs65 (F : Nat) : ∀ f c, (cx65 F).call f = some c → CMet Tryz.prog f c := callsL_sound (calls_cons (s111 F) (calls_cons (s112 F) (calls_cons (s76 F) calls_nil)))
def sh65l3 : Shape := [(0, .d (.slice (.int .u8))), (1, .d (.int .i64)), (4, .box 4 (.pair tyV (.pair tyV .unit))), (7, .box 7 (.arr 2 tyV)), (13, .d (.int .i64))]
def sh65l3o0 : Shape := [(1, .d (.int .i64)), (4, .box 4 (.pair tyV (.pair tyV .unit))), (7, .box 7 (.arr 2 tyV))]
def sh65l3oret : Shape := [(4, .box 4 (.pair tyV (.pair tyV .unit))), (5, .d (.int .i64)), (6, .d (.int .i64))]
def outs65l3 : Outs := [(2, sh65l3o0), (1, sh65l3oret)]
def m65l3 (F : Nat) (n : Nat) {R : Type} (x : Shape.den sh65l3) (K : Ex → St → Option R) : Option R := records_Slope_l3 F (fun y1 y4 y7 => K (.exit 0) (enc sh65l3o0 (y1, y4, y7, ()))) (fun y4 y5 y6 => K .ret (enc sh65l3oret (y4, y5, y6, ()))) n x.1 x.2.1 x.2.2.1 x.2.2.2.1 x.2.2.2.2.1
def hs65 (F : Nat) : Nat → Option (Hint (Dens sg65.rtys)) := hintL [(3, { sh := sh65l3, model := m65l3 F F })]
theorem ok65l3 (F : Nat) (fr : Frm) (hn : (cx65 F).ntmps = fr.n) (n : Nat) : MSound (R := (Dens sg65.rtys)) Tryz.prog fr (.loop (sub (bodyOf Tryz.f65) [1, 1, 0, 1, 0, 0])) sh65l3 (m65l3 F n) :=
  loop_sound (cx := cx65 F) (hs := hs65 F) (js := hintL []) (outs := outs65l3) (conf_all _ rfl) (cs65 F) hn mix (m := fun n => m65l3 F n) (fun _ _ => rfl) (fun n x K => by kernel_rfl) (hok_of (l := []) (by kernel_rfl) obl_nil) n
theorem s65 (F : Nat) : CSound Tryz.prog 65 (con65 F) :=
  fn_sound (fn := Tryz.f65) (code := (bodyOf Tryz.f65)) (cx := cx65 F) (hs := hs65 F) (js := hintL []) Tryz.func65 (by kernel_rfl) (by kernel_rfl) (conf_all _ rfl) (cs65 F) mix (by kernel_rfl) (by kernel_rfl) (fun fr hn => (hok_of (l := [((.loop (sub (bodyOf Tryz.f65) [1, 1, 0, 1, 0, 0])), { sh := sh65l3, model := m65l3 F F })]) (by kernel_rfl) (obl_cons (ok65l3 F fr hn F) obl_nil))) (fun x => by kernel_rfl)
def sg24 : Sig := { modes := [.ro, .ro, .ro], sh := [(0, .d (.slice (.int .u8))), (1, .d (.int .i64)), (2, .d (.int .i64))], keeps := false, fresh := some (0, 35), rtys := [(.slice (.pair (.int .i64) (.pair (.int .i64) (.pair (.pair tyV (.pair tyV .unit)) .unit)))), (.int .i64), (.int .i64)] }
def con24 (F : Nat) : Contract := mkCon sg24 fun x => lines_Decode F x.1 x.2.1 x.2.2.1
def cx24 (F : Nat) : Cx := { types := tys, call := callsL [(60, con60 F), (61, con61 F), (62, con62 F), (63, con63 F), (64, con64 F), (65, con65 F)], own := [6, 65], ntmps := (0, 108) }
theorem cs24 (F : Nat) : ∀ f c, (cx24 F).call f = some c → CMet Tryz.prog f c := callsL_sound (calls_cons (s60 F) (calls_cons (s61 F) (calls_cons (s62 F) (calls_cons (s63 F) (calls_cons (s64 F) (calls_cons (s65 F) calls_nil))))))
def sh24l16 : Shape := [(0, .d (.slice (.int .u8))), (1, .d (.int .i64)), (11, .d (.slice (.int .i64))), (13, .d (.slice (.int .i64))), (14, .own 14 (.pair (.int .i64) (.pair (.int .i64) (.pair (.pair tyV (.pair tyV .unit)) .unit))) 35), (67, .d (.int .i64)), (68, .d (.int .i64))]
def sh24l16o1 : Shape := [(1, .d (.int .i64)), (14, .own 14 (.pair (.int .i64) (.pair (.int .i64) (.pair (.pair tyV (.pair tyV .unit)) .unit))) 35)]
def sh24l16oret : Shape := [(6, .own 6 (.pair (.int .i64) (.pair (.int .i64) (.pair (.pair tyV (.pair tyV .unit)) .unit))) 35), (7, .d (.int .i64)), (8, .d (.int .i64))]
def outs24l16 : Outs := [(3, sh24l16o1), (1, sh24l16oret)]
def m24l16 (F : Nat) (n : Nat) {R : Type} (x : Shape.den sh24l16) (K : Ex → St → Option R) : Option R := lines_Decode_l16 F (fun y1 y14 => K (.exit 1) (enc sh24l16o1 (y1, y14, ()))) (fun y6 y7 y8 => K .ret (enc sh24l16oret (y6, y7, y8, ()))) n x.1 x.2.1 x.2.2.1 x.2.2.2.1 x.2.2.2.2.1 x.2.2.2.2.2.1 x.2.2.2.2.2.2.1
def hs24 (F : Nat) : Nat → Option (Hint (Dens sg24.rtys)) := hintL [(16, { sh := sh24l16, model := m24l16 F F })]
theorem ok24l16 (F : Nat) (fr : Frm) (hn : (cx24 F).ntmps = fr.n) (n : Nat) : MSound (R := (Dens sg24.rtys)) Tryz.prog fr (.loop (sub (bodyOf Tryz.f24) [1, 1, 1, 1, 1, 1, 1, 1, 1, 0, 1, 0, 0])) sh24l16 (m24l16 F n) :=
  loop_sound (cx := cx24 F) (hs := hs24 F) (js := hintL []) (outs := outs24l16) (conf_all _ rfl) (cs24 F) hn mix (m := fun n => m24l16 F n) (fun _ _ => rfl) (fun n x K => by kernel_rfl) (hok_of (l := []) (by kernel_rfl) obl_nil) n
theorem s24 (F : Nat) : CSound Tryz.prog 24 (con24 F) :=
  fn_sound (fn := Tryz.f24) (code := (bodyOf Tryz.f24)) (cx := cx24 F) (hs := hs24 F) (js := hintL []) Tryz.func24 (by kernel_rfl) (by kernel_rfl) (conf_all _ rfl) (cs24 F) mix (by kernel_rfl) (by kernel_rfl) (fun fr hn => (hok_of (l := [((.loop (sub (bodyOf Tryz.f24) [1, 1, 1, 1, 1, 1, 1, 1, 1, 0, 1, 0, 0])), { sh := sh24l16, model := m24l16 F F })]) (by kernel_rfl) (obl_cons (ok24l16 F fr hn F) obl_nil))) (fun x => by kernel_rfl)
def sg20 : Sig := { modes := [], sh := [], keeps := true, fresh := none, rtys := [.bool] }
def con20 (F : Nat) : Contract := mkCon sg20 fun x => law18_known F 
def cx20 (F : Nat) : Cx := { types := tys, call := callsL [(39, con39 F), (15, con15 F), (24, con24 F), (17, con17 F)], own := [], ntmps := (0, 49) }
theorem cs20 (F : Nat) : ∀ f c, (cx20 F).call f = some c → CMet Tryz.prog f c := callsL_sound (calls_cons (s39 F) (calls_cons (s15 F) (calls_cons (s24 F) (calls_cons (s17 F) calls_nil))))
theorem s20 (F : Nat) : CSound Tryz.prog 20 (con20 F) :=
  fn_sound (fn := Tryz.f20) (code := (bodyOf Tryz.f20)) (cx := cx20 F) (hs := hintL []) (js := hintL []) Tryz.func20 (by kernel_rfl) (by kernel_rfl) (conf_all _ rfl) (cs20 F) mix (by kernel_rfl) (by kernel_rfl) (fun fr hn => (hok_of (l := []) (by kernel_rfl) obl_nil)) (fun x => by kernel_rfl)
def sg3 : Sig := { modes := [.ro, .ro], sh := [(0, .d (.slice (.pair (.int .i64) (.pair (.int .i64) (.pair (.pair tyV (.pair tyV .unit)) .unit))))), (1, .d (.slice (.int .i64)))], keeps := true, fresh := none, rtys := [.bool] }
def con3 (F : Nat) : Contract := mkCon sg3 fun x => law18_LinesForms F x.1 x.2.1
def cx3 (F : Nat) : Cx := { types := tys, call := callsL [(11, con11 F), (12, con12 F), (13, con13 F), (15, con15 F), (16, con16 F), (17, con17 F), (18, con18 F), (19, con19 F), (20, con20 F), (14, con14 F)], own := [17, 23], ntmps := (0, 115) }
theorem cs3 (F : Nat) : ∀ f c, (cx3 F).call f = some c → CMet Tryz.prog f c := callsL_sound (calls_cons (s11 F) (calls_cons (s12 F) (calls_cons (s13 F) (calls_cons (s15 F) (calls_cons (s16 F) (calls_cons (s17 F) (calls_cons (s18 F) (calls_cons (s19 F) (calls_cons (s20 F) (calls_cons (s14 F) calls_nil))))))))))
def sh3l17 : Shape := [(10, .d (.slice (.slice (.pair (.int .i64) (.pair (.int .i64) (.pair (.pair tyV (.pair tyV .unit)) .unit)))))), (11, .d (.int .i64))]
def sh3l17o1 : Shape := []
def sh3l17oret : Shape := [(4, .d .bool)]
def outs3l17 : Outs := [(3, sh3l17o1), (1, sh3l17oret)]
def m3l17 (F : Nat) (n : Nat) {R : Type} (x : Shape.den sh3l17) (K : Ex → St → Option R) : Option R := law18_LinesForms_l17 F (K (.exit 1) (enc sh3l17o1 (()))) (fun y4 => K .ret (enc sh3l17oret (y4, ()))) n x.1 x.2.1
def sh3j15 : Shape := [(0, .d (.slice (.pair (.int .i64) (.pair (.int .i64) (.pair (.pair tyV (.pair tyV .unit)) .unit))))), (6, .d (.slice (.pair (.int .i64) (.pair (.int .i64) (.pair (.pair tyV (.pair tyV .unit)) .unit))))), (8, .own 8 (.pair (.int .i64) (.pair (.int .i64) (.pair (.pair tyV (.pair tyV .unit)) .unit))) 35)]
def sh3j15oret : Shape := [(4, .d .bool)]
def outs3j15 : Outs := [(1, sh3j15oret)]
def m3j15 (F : Nat) {R : Type} (x : Shape.den sh3j15) (K : Ex → St → Option R) : Option R := law18_LinesForms_j15 F (fun y4 => K .ret (enc sh3j15oret (y4, ()))) x.1 x.2.1 x.2.2.1
def hs3 (F : Nat) : Nat → Option (Hint (Dens sg3.rtys)) := hintL [(17, { sh := sh3l17, model := m3l17 F F })]
def js3 (F : Nat) : Nat → Option (Hint (Dens sg3.rtys)) := hintL [(15, { sh := sh3j15, model := m3j15 F })]
theorem ok3l17 (F : Nat) (fr : Frm) (hn : (cx3 F).ntmps = fr.n) (n : Nat) : MSound (R := (Dens sg3.rtys)) Tryz.prog fr (.loop (sub (bodyOf Tryz.f3) [1, 1, 1, 1, 1, 1, 0, 1, 0, 0])) sh3l17 (m3l17 F n) :=
  loop_sound (cx := cx3 F) (hs := hs3 F) (js := js3 F) (outs := outs3l17) (conf_all _ rfl) (cs3 F) hn mix (m := fun n => m3l17 F n) (fun _ _ => rfl) (fun n x K => by kernel_rfl) (hok_of (l := []) (by kernel_rfl) obl_nil) n
theorem ok3j15 (F : Nat) (fr : Frm) (hn : (cx3 F).ntmps = fr.n) : MSound (R := (Dens sg3.rtys)) Tryz.prog fr (sub (bodyOf Tryz.f3) [1, 1, 1, 1, 1]) sh3j15 (m3j15 F) :=
  join_sound (cx := cx3 F) (hs := hs3 F) (js := js3 F) (outs := outs3j15) (conf_all _ rfl) (cs3 F) hn mix (fun x K => by kernel_rfl) (hok_of (l := [((.loop (sub (bodyOf Tryz.f3) [1, 1, 1, 1, 1, 1, 0, 1, 0, 0])), { sh := sh3l17, model := m3l17 F F })]) (by kernel_rfl) (obl_cons (ok3l17 F fr hn F) obl_nil))
theorem s3 (F : Nat) : CSound Tryz.prog 3 (con3 F) :=
  fn_sound (fn := Tryz.f3) (code := (bodyOf Tryz.f3)) (cx := cx3 F) (hs := hs3 F) (js := js3 F) Tryz.func3 (by kernel_rfl) (by kernel_rfl) (conf_all _ rfl) (cs3 F) mix (by kernel_rfl) (by kernel_rfl) (fun fr hn => (hok_of (l := [((sub (bodyOf Tryz.f3) [1, 1, 1, 1, 1]), { sh := sh3j15, model := m3j15 F })]) (by kernel_rfl) (obl_cons (ok3j15 F fr hn) obl_nil))) (fun x => by kernel_rfl)
end Go.Proofs.YtfmjokmjaghehaaGreat
