/- The functions of layer 24: their plain models, and that the code computes them. Written by program. -/
import Derived.Test.YtlgfiljadnafeaaEngC
import Derived.Test.YtlgfiljadnafeaaChecked
set_option linter.unusedVariables false
set_option linter.unusedSimpArgs false
namespace Go.Proofs.Ytlgfiljadnafeaa
open Go.Eng
def tys : List (Nat × TyRow) := [(3, ⟨(.int .i64), 0, 8⟩), (4, ⟨.bool, 0, 1⟩), (25, ⟨(.slice (.int .i64)), 3, 24⟩)]
theorem row3 (cx : Cx) (h : cx.types = tys) : RowOk Try.prog cx 3 ⟨(.int .i64), 0, 8⟩ :=
  ⟨⟨Try.t3, _, by kernel_rfl, by kernel_rfl, by kernel_rfl, rfl, by kernel_rfl⟩, Try.underlying3, (fun h => Bool.noConfusion h), by decide⟩
theorem row4 (cx : Cx) (h : cx.types = tys) : RowOk Try.prog cx 4 ⟨.bool, 0, 1⟩ :=
  ⟨⟨Try.t4, _, by kernel_rfl, by kernel_rfl, by kernel_rfl, rfl, by kernel_rfl⟩, Try.underlying4, (fun h => Bool.noConfusion h), by decide⟩
theorem row25 (cx : Cx) (h : cx.types = tys) : RowOk Try.prog cx 25 ⟨(.slice (.int .i64)), 3, 24⟩ :=
  ⟨⟨Try.t25, _, by kernel_rfl, by kernel_rfl, by kernel_rfl, rfl, by kernel_rfl⟩, ⟨Try.underlying25, ⟨⟨(.int .i64), 0, 8⟩, by unfold Cx.row?; rw [h]; kernel_rfl, rfl⟩⟩, (fun h => Bool.noConfusion h), by decide⟩
theorem conf_all (cx : Cx) (h : cx.types = tys) : Conf Try.prog cx := conf_of h (rows_cons (row3 cx h) (rows_cons (row4 cx h) (rows_cons (row25 cx h) rows_nil)))
theorem mix : Try.prog.follows .mixedOrders = true := by kernel_rfl
/- 18: tscodec/buckets.Bounds -/
def f18l5 (F : Nat) {R : Type} (k0 : (List Int) → Option R) : Nat → Int → Int → (List Int) → Int → Int → Option R
  | 0, _, _, _, _, _ => none
  | n + 1, x0, x1, x6, x23, x24 =>
    bif ltI x24 x23 then
      bif eqI (subI .i64 x1 2) 0 then
        none
      else
        bif inI x24 (List.length x6) then
          f18l5 F k0 n x0 x1 (setL x6 x24 (addI .i64 1 (quoI .i64 (mulI .i64 x24 (subI .i64 x0 2)) (subI .i64 x1 2)))) x23 (addI .i64 x24 1)
        else
          none
    else
      k0 x6
def f18 (F : Nat) (x0 : Int) (x1 : Int) : Option ((List Int) × Bool × Unit) :=
  bif ltI x1 3 then
    some ([], (false, ()))
  else
    bif ltI x0 x1 then
      some ([], (false, ()))
    else
      bif ltI 1073741824 x0 then
        some ([], (false, ()))
      else
        bif makeB (subI .i64 x1 1) (subI .i64 x1 1) 8 then
          f18l5 F
            (fun z15 =>
              some (z15, (true, ())))
            F x0 x1 (replI (subI .i64 x1 1) (0 : Int)) (lenI (replI (subI .i64 x1 1) (0 : Int))) 0
        else
          none
def sg18 : Sig := { modes := [.ro, .ro], sh := [(0, .d (.int .i64)), (1, .d (.int .i64))], keeps := false, fresh := some (0, 3), rtys := [(.slice (.int .i64)), .bool] }
def con18 (F : Nat) : Contract := mkCon sg18 fun x => f18 F x.1 x.2.1
def cx18 (F : Nat) : Cx := { types := tys, call := callsL [], own := [4, 21], ntmps := (0, 40) }
theorem cs18 (F : Nat) : ∀ f c, (cx18 F).call f = some c → CSound Try.prog f c := callsL_sound calls_nil
def sh18l5 : Shape := [(0, .d (.int .i64)), (1, .d (.int .i64)), (6, .own 6 (.int .i64) 3), (23, .d (.int .i64)), (24, .d (.int .i64))]
def sh18l5o0 : Shape := [(6, .own 6 (.int .i64) 3)]
def outs18l5 : Outs := [(2, sh18l5o0)]
def m18l5 (F : Nat) (n : Nat) {R : Type} (x : Shape.den sh18l5) (K : Ex → St → Option R) : Option R := f18l5 F (fun y6 => K (.exit 0) (enc sh18l5o0 (y6, ()))) n x.1 x.2.1 x.2.2.1 x.2.2.2.1 x.2.2.2.2.1
def hs18 (F : Nat) : Nat → Option (Hint (Dens sg18.rtys)) := hintL [(5, { sh := sh18l5, model := m18l5 F F })]
def js18 (F : Nat) : Nat → Option (Hint (Dens sg18.rtys)) := hintL []
theorem ok18l5 (F : Nat) (fr : Frm) (hn : (cx18 F).ntmps = fr.n) (n : Nat) : MSound (R := (Dens sg18.rtys)) Try.prog fr (.loop (sub (bodyOf Try.f18) [1, 1, 1, 0, 1, 0, 0])) sh18l5 (m18l5 F n) :=
  loop_sound (cx := cx18 F) (hs := hs18 F) (js := js18 F) (outs := outs18l5) (conf_all _ rfl) (cs18 F) hn mix (m := fun n => m18l5 F n) (fun _ _ => rfl) (fun n x K => by kernel_rfl) (hok_of (l := []) (by kernel_rfl) obl_nil) n
theorem s18 (F : Nat) : CSound Try.prog 18 (con18 F) :=
  fn_sound (fn := Try.f18) (code := (bodyOf Try.f18)) (cx := cx18 F) (hs := hs18 F) (js := js18 F) Try.func18 (by kernel_rfl) (by kernel_rfl) (conf_all _ rfl) (cs18 F) mix (by kernel_rfl) (by kernel_rfl) (fun fr hn => (hok_of (l := [((.loop (sub (bodyOf Try.f18) [1, 1, 1, 0, 1, 0, 0])), { sh := sh18l5, model := m18l5 F F })]) (by kernel_rfl) (obl_cons (ok18l5 F fr hn F) obl_nil))) (fun x => by kernel_rfl)
/- 15: tscodec/tscodecmade.Mod -/
def f15 (F : Nat) (x0 : Int) (x1 : Int) : Option (Int × Unit) :=
  bif ltI x1 1 then
    some (0, ())
  else
    bif eqI x1 0 then
      none
    else
      bif ltI (remI x0 x1) 0 then
        some (addI .i64 (remI x0 x1) x1, ())
      else
        some (remI x0 x1, ())
def sg15 : Sig := { modes := [.ro, .ro], sh := [(0, .d (.int .i64)), (1, .d (.int .i64))], keeps := true, fresh := none, rtys := [(.int .i64)] }
def con15 (F : Nat) : Contract := mkCon sg15 fun x => f15 F x.1 x.2.1
def cx15 (F : Nat) : Cx := { types := tys, call := callsL [], own := [], ntmps := (0, 16) }
theorem cs15 (F : Nat) : ∀ f c, (cx15 F).call f = some c → CSound Try.prog f c := callsL_sound calls_nil
def hs15 (F : Nat) : Nat → Option (Hint (Dens sg15.rtys)) := hintL []
def js15 (F : Nat) : Nat → Option (Hint (Dens sg15.rtys)) := hintL []
theorem s15 (F : Nat) : CSound Try.prog 15 (con15 F) :=
  fn_sound (fn := Try.f15) (code := (bodyOf Try.f15)) (cx := cx15 F) (hs := hs15 F) (js := js15 F) Try.func15 (by kernel_rfl) (by kernel_rfl) (conf_all _ rfl) (cs15 F) mix (by kernel_rfl) (by kernel_rfl) (fun fr hn => (hok_of (l := []) (by kernel_rfl) obl_nil)) (fun x => by kernel_rfl)
/- 16: tscodec/tscodeclaw24.known -/
def f16 (F : Nat)  : Option (Bool × Unit) :=
  (f18 F 10 5).bind fun r1 =>
  bif r1.2.1 then
    bif eqI (lenI r1.1) 4 then
      bif inI 0 (List.length r1.1) then
        bif eqI (getL 0 r1.1 0) 1 then
          bif inI 1 (List.length r1.1) then
            bif eqI (getL 0 r1.1 1) 3 then
              bif inI 2 (List.length r1.1) then
                bif eqI (getL 0 r1.1 2) 6 then
                  bif inI 3 (List.length r1.1) then
                    some (eqI (getL 0 r1.1 3) 9, ())
                  else
                    none
                else
                  some (false, ())
              else
                none
            else
              some (false, ())
          else
            none
        else
          some (false, ())
      else
        none
    else
      some (false, ())
  else
    some (false, ())
def sg16 : Sig := { modes := [], sh := [], keeps := true, fresh := none, rtys := [.bool] }
def con16 (F : Nat) : Contract := mkCon sg16 fun x => f16 F 
def cx16 (F : Nat) : Cx := { types := tys, call := callsL [(18, con18 F)], own := [], ntmps := (0, 37) }
theorem cs16 (F : Nat) : ∀ f c, (cx16 F).call f = some c → CSound Try.prog f c := callsL_sound (calls_cons (s18 F) calls_nil)
def hs16 (F : Nat) : Nat → Option (Hint (Dens sg16.rtys)) := hintL []
def js16 (F : Nat) : Nat → Option (Hint (Dens sg16.rtys)) := hintL []
theorem s16 (F : Nat) : CSound Try.prog 16 (con16 F) :=
  fn_sound (fn := Try.f16) (code := (bodyOf Try.f16)) (cx := cx16 F) (hs := hs16 F) (js := js16 F) Try.func16 (by kernel_rfl) (by kernel_rfl) (conf_all _ rfl) (cs16 F) mix (by kernel_rfl) (by kernel_rfl) (fun fr hn => (hok_of (l := []) (by kernel_rfl) obl_nil)) (fun x => by kernel_rfl)
/- 56: tscodec/tscodecref24.Bounds -/
def f56l5 (F : Nat) {R : Type} (k0 : (List Int) → Option R) : Nat → Int → Int → (List Int) → Int → Option R
  | 0, _, _, _, _ => none
  | n + 1, x0, x1, x6, x7 =>
    bif leI x7 (subI .i64 x1 2) then
      bif eqI (subI .i64 x1 2) 0 then
        none
      else
        bif roomB ((List.length x6) + 1) 8 then
          f56l5 F k0 n x0 x1 (x6 ++ [addI .i64 1 (quoI .i64 (mulI .i64 x7 (subI .i64 x0 2)) (subI .i64 x1 2))]) (addI .i64 x7 1)
        else
          none
    else
      k0 x6
def f56 (F : Nat) (x0 : Int) (x1 : Int) : Option ((List Int) × Bool × Unit) :=
  bif ltI x1 3 then
    some ([], (false, ()))
  else
    bif ltI x0 x1 then
      some ([], (false, ()))
    else
      bif ltI 1073741824 x0 then
        some ([], (false, ()))
      else
        f56l5 F
          (fun z13 =>
            some (z13, (true, ())))
          F x0 x1 [] 0
def sg56 : Sig := { modes := [.ro, .ro], sh := [(0, .d (.int .i64)), (1, .d (.int .i64))], keeps := false, fresh := some (0, 3), rtys := [(.slice (.int .i64)), .bool] }
def con56 (F : Nat) : Contract := mkCon sg56 fun x => f56 F x.1 x.2.1
def cx56 (F : Nat) : Cx := { types := tys, call := callsL [], own := [4, 6], ntmps := (0, 37) }
theorem cs56 (F : Nat) : ∀ f c, (cx56 F).call f = some c → CSound Try.prog f c := callsL_sound calls_nil
def sh56l5 : Shape := [(0, .d (.int .i64)), (1, .d (.int .i64)), (6, .own 6 (.int .i64) 3), (7, .d (.int .i64))]
def sh56l5o0 : Shape := [(6, .own 6 (.int .i64) 3)]
def outs56l5 : Outs := [(2, sh56l5o0)]
def m56l5 (F : Nat) (n : Nat) {R : Type} (x : Shape.den sh56l5) (K : Ex → St → Option R) : Option R := f56l5 F (fun y6 => K (.exit 0) (enc sh56l5o0 (y6, ()))) n x.1 x.2.1 x.2.2.1 x.2.2.2.1
def hs56 (F : Nat) : Nat → Option (Hint (Dens sg56.rtys)) := hintL [(5, { sh := sh56l5, model := m56l5 F F })]
def js56 (F : Nat) : Nat → Option (Hint (Dens sg56.rtys)) := hintL []
theorem ok56l5 (F : Nat) (fr : Frm) (hn : (cx56 F).ntmps = fr.n) (n : Nat) : MSound (R := (Dens sg56.rtys)) Try.prog fr (.loop (sub (bodyOf Try.f56) [1, 1, 1, 0, 1, 0, 0])) sh56l5 (m56l5 F n) :=
  loop_sound (cx := cx56 F) (hs := hs56 F) (js := js56 F) (outs := outs56l5) (conf_all _ rfl) (cs56 F) hn mix (m := fun n => m56l5 F n) (fun _ _ => rfl) (fun n x K => by kernel_rfl) (hok_of (l := []) (by kernel_rfl) obl_nil) n
theorem s56 (F : Nat) : CSound Try.prog 56 (con56 F) :=
  fn_sound (fn := Try.f56) (code := (bodyOf Try.f56)) (cx := cx56 F) (hs := hs56 F) (js := js56 F) Try.func56 (by kernel_rfl) (by kernel_rfl) (conf_all _ rfl) (cs56 F) mix (by kernel_rfl) (by kernel_rfl) (fun fr hn => (hok_of (l := [((.loop (sub (bodyOf Try.f56) [1, 1, 1, 0, 1, 0, 0])), { sh := sh56l5, model := m56l5 F F })]) (by kernel_rfl) (obl_cons (ok56l5 F fr hn F) obl_nil))) (fun x => by kernel_rfl)
/- 17: tscodec/tscodeclaw24.alike -/
def f17l6 (F : Nat) {R : Type} (k0 : Option R) (kret : Bool → Option R) : Nat → (List Int) → (List Int) → Int → Option R
  | 0, _, _, _ => none
  | n + 1, x5, x7, x9 =>
    bif ltI x9 (lenI x5) then
      bif inI x9 (List.length x5) then
        bif inI x9 (List.length x7) then
          bif not (eqI (getL 0 x5 x9) (getL 0 x7 x9)) then
            kret false
          else
            f17l6 F k0 kret n x5 x7 (addI .i64 x9 1)
        else
          none
      else
        none
    else
      k0
def f17 (F : Nat) (x0 : Int) (x1 : Int) : Option (Bool × Unit) :=
  (f18 F x0 x1).bind fun r1 =>
  (f56 F x0 x1).bind fun r2 =>
  bif not (eqT .bool r1.2.1 r2.2.1) then
    some (false, ())
  else
    bif not (eqI (lenI r1.1) (lenI r2.1)) then
      some (false, ())
    else
      f17l6 F
        (
          some (true, ()))
        (fun z13 =>
          some (z13, ()))
        F r1.1 r2.1 0
def sg17 : Sig := { modes := [.ro, .ro], sh := [(0, .d (.int .i64)), (1, .d (.int .i64))], keeps := true, fresh := none, rtys := [.bool] }
def con17 (F : Nat) : Contract := mkCon sg17 fun x => f17 F x.1 x.2.1
def cx17 (F : Nat) : Cx := { types := tys, call := callsL [(18, con18 F), (56, con56 F)], own := [], ntmps := (0, 47) }
theorem cs17 (F : Nat) : ∀ f c, (cx17 F).call f = some c → CSound Try.prog f c := callsL_sound (calls_cons (s18 F) (calls_cons (s56 F) calls_nil))
def sh17l6 : Shape := [(5, .d (.slice (.int .i64))), (7, .d (.slice (.int .i64))), (9, .d (.int .i64))]
def sh17l6o0 : Shape := []
def sh17l6oret : Shape := [(4, .d .bool)]
def outs17l6 : Outs := [(2, sh17l6o0), (1, sh17l6oret)]
def m17l6 (F : Nat) (n : Nat) {R : Type} (x : Shape.den sh17l6) (K : Ex → St → Option R) : Option R := f17l6 F (K (.exit 0) (enc sh17l6o0 (()))) (fun y4 => K .ret (enc sh17l6oret (y4, ()))) n x.1 x.2.1 x.2.2.1
def hs17 (F : Nat) : Nat → Option (Hint (Dens sg17.rtys)) := hintL [(6, { sh := sh17l6, model := m17l6 F F })]
def js17 (F : Nat) : Nat → Option (Hint (Dens sg17.rtys)) := hintL []
theorem ok17l6 (F : Nat) (fr : Frm) (hn : (cx17 F).ntmps = fr.n) (n : Nat) : MSound (R := (Dens sg17.rtys)) Try.prog fr (.loop (sub (bodyOf Try.f17) [1, 1, 1, 1, 0, 1, 0, 0])) sh17l6 (m17l6 F n) :=
  loop_sound (cx := cx17 F) (hs := hs17 F) (js := js17 F) (outs := outs17l6) (conf_all _ rfl) (cs17 F) hn mix (m := fun n => m17l6 F n) (fun _ _ => rfl) (fun n x K => by kernel_rfl) (hok_of (l := []) (by kernel_rfl) obl_nil) n
theorem s17 (F : Nat) : CSound Try.prog 17 (con17 F) :=
  fn_sound (fn := Try.f17) (code := (bodyOf Try.f17)) (cx := cx17 F) (hs := hs17 F) (js := js17 F) Try.func17 (by kernel_rfl) (by kernel_rfl) (conf_all _ rfl) (cs17 F) mix (by kernel_rfl) (by kernel_rfl) (fun fr hn => (hok_of (l := [((.loop (sub (bodyOf Try.f17) [1, 1, 1, 1, 0, 1, 0, 0])), { sh := sh17l6, model := m17l6 F F })]) (by kernel_rfl) (obl_cons (ok17l6 F fr hn F) obl_nil))) (fun x => by kernel_rfl)
/- 4: tscodec/tscodeclaw24.BucketsCover -/
def f4l8 (F : Nat) {R : Type} (k0 : Int → Int → Option R) : Nat → (List Int) → Int → Int → Int → Option R
  | 0, _, _, _, _ => none
  | n + 1, x5, x7, x8, x9 =>
    bif ltI x9 (lenI x5) then
      bif inI x9 (List.length x5) then
        bif inI (subI .i64 x9 1) (List.length x5) then
          bif inI x9 (List.length x5) then
            bif inI (subI .i64 x9 1) (List.length x5) then
              f4l8 F k0 n x5 (minI x7 (subI .i64 (getL 0 x5 x9) (getL 0 x5 (subI .i64 x9 1)))) (maxI x8 (subI .i64 (getL 0 x5 x9) (getL 0 x5 (subI .i64 x9 1)))) (addI .i64 x9 1)
            else
              none
          else
            none
        else
          none
      else
        none
    else
      k0 x7 x8
def f4 (F : Nat) (x0 : Int) (x1 : Int) : Option (Bool × Unit) :=
  (f15 F x0 1000).bind fun r1 =>
  let x12v2 := addI .i64 3 r1.1
  (f15 F x1 (subI .i64 x12v2 2)).bind fun r4 =>
  let x17v5 := addI .i64 3 r4.1
  (f18 F x12v2 x17v5).bind fun r6 =>
  bif not r6.2.1 then
    some (false, ())
  else
    bif not (eqI (lenI r6.1) (subI .i64 x17v5 1)) then
      some (false, ())
    else
      bif inI 0 (List.length r6.1) then
        bif not (eqI (getL 0 r6.1 0) 1) then
          some (false, ())
        else
          bif inI (subI .i64 x17v5 2) (List.length r6.1) then
            bif not (eqI (getL 0 r6.1 (subI .i64 x17v5 2)) (subI .i64 x12v2 1)) then
              some (false, ())
            else
              f4l8 F
                (fun z30 z31 =>
                  (f16 F).bind fun r32 =>
                  bif r32.1 then
                    bif leI 1 z30 then
                      some (leI z31 (addI .i64 z30 1), ())
                    else
                      some (false, ())
                  else
                    some (false, ()))
                F r6.1 x12v2 0 1
          else
            none
      else
        none
def sg4 : Sig := { modes := [.ro, .ro], sh := [(0, .d (.int .i64)), (1, .d (.int .i64))], keeps := true, fresh := none, rtys := [.bool] }
def con4 (F : Nat) : Contract := mkCon sg4 fun x => f4 F x.1 x.2.1
def cx4 (F : Nat) : Cx := { types := tys, call := callsL [(15, con15 F), (18, con18 F), (16, con16 F)], own := [], ntmps := (0, 91) }
theorem cs4 (F : Nat) : ∀ f c, (cx4 F).call f = some c → CSound Try.prog f c := callsL_sound (calls_cons (s15 F) (calls_cons (s18 F) (calls_cons (s16 F) calls_nil)))
def sh4l8 : Shape := [(5, .d (.slice (.int .i64))), (7, .d (.int .i64)), (8, .d (.int .i64)), (9, .d (.int .i64))]
def sh4l8o0 : Shape := [(7, .d (.int .i64)), (8, .d (.int .i64))]
def outs4l8 : Outs := [(2, sh4l8o0)]
def m4l8 (F : Nat) (n : Nat) {R : Type} (x : Shape.den sh4l8) (K : Ex → St → Option R) : Option R := f4l8 F (fun y7 y8 => K (.exit 0) (enc sh4l8o0 (y7, y8, ()))) n x.1 x.2.1 x.2.2.1 x.2.2.2.1
def hs4 (F : Nat) : Nat → Option (Hint (Dens sg4.rtys)) := hintL [(8, { sh := sh4l8, model := m4l8 F F })]
def js4 (F : Nat) : Nat → Option (Hint (Dens sg4.rtys)) := hintL []
theorem ok4l8 (F : Nat) (fr : Frm) (hn : (cx4 F).ntmps = fr.n) (n : Nat) : MSound (R := (Dens sg4.rtys)) Try.prog fr (.loop (sub (bodyOf Try.f4) [1, 1, 1, 1, 1, 1, 0, 1, 0, 0])) sh4l8 (m4l8 F n) :=
  loop_sound (cx := cx4 F) (hs := hs4 F) (js := js4 F) (outs := outs4l8) (conf_all _ rfl) (cs4 F) hn mix (m := fun n => m4l8 F n) (fun _ _ => rfl) (fun n x K => by kernel_rfl) (hok_of (l := []) (by kernel_rfl) obl_nil) n
theorem s4 (F : Nat) : CSound Try.prog 4 (con4 F) :=
  fn_sound (fn := Try.f4) (code := (bodyOf Try.f4)) (cx := cx4 F) (hs := hs4 F) (js := js4 F) Try.func4 (by kernel_rfl) (by kernel_rfl) (conf_all _ rfl) (cs4 F) mix (by kernel_rfl) (by kernel_rfl) (fun fr hn => (hok_of (l := [((.loop (sub (bodyOf Try.f4) [1, 1, 1, 1, 1, 1, 0, 1, 0, 0])), { sh := sh4l8, model := m4l8 F F })]) (by kernel_rfl) (obl_cons (ok4l8 F fr hn F) obl_nil))) (fun x => by kernel_rfl)
/- 3: tscodec/tscodeclaw24.BucketsForms -/
def f3 (F : Nat) (x0 : Int) (x1 : Int) : Option (Bool × Unit) :=
  (f15 F x0 400).bind fun r1 =>
  (f15 F x1 300).bind fun r2 =>
  bif ltI 5000 x1 then
    (f15 F x1 2).bind fun r5 =>
    let x17v6 := subI .i64 (addI .i64 x0 1) r5.1
    bif ltI 5000 x17v6 then
      (f16 F).bind fun r8 =>
      bif r8.1 then
        (f17 F x0 5000).bind fun r9 =>
        bif r9.1 then
          (f17 F r1.1 r2.1).bind fun r10 =>
          bif r10.1 then
            (f17 F x0 r2.1).bind fun r11 =>
            bif r11.1 then
              (f17 F r1.1 r1.1).bind fun r12 =>
              some (r12.1, ())
            else
              some (false, ())
          else
            some (false, ())
        else
          some (false, ())
      else
        some (false, ())
    else
      (f16 F).bind fun r13 =>
      bif r13.1 then
        (f17 F x0 x17v6).bind fun r14 =>
        bif r14.1 then
          (f17 F r1.1 r2.1).bind fun r15 =>
          bif r15.1 then
            (f17 F x0 r2.1).bind fun r16 =>
            bif r16.1 then
              (f17 F r1.1 r1.1).bind fun r17 =>
              some (r17.1, ())
            else
              some (false, ())
          else
            some (false, ())
        else
          some (false, ())
      else
        some (false, ())
  else
    bif ltI 5000 x1 then
      (f16 F).bind fun r19 =>
      bif r19.1 then
        (f17 F x0 5000).bind fun r20 =>
        bif r20.1 then
          (f17 F r1.1 r2.1).bind fun r21 =>
          bif r21.1 then
            (f17 F x0 r2.1).bind fun r22 =>
            bif r22.1 then
              (f17 F r1.1 r1.1).bind fun r23 =>
              some (r23.1, ())
            else
              some (false, ())
          else
            some (false, ())
        else
          some (false, ())
      else
        some (false, ())
    else
      (f16 F).bind fun r24 =>
      bif r24.1 then
        (f17 F x0 x1).bind fun r25 =>
        bif r25.1 then
          (f17 F r1.1 r2.1).bind fun r26 =>
          bif r26.1 then
            (f17 F x0 r2.1).bind fun r27 =>
            bif r27.1 then
              (f17 F r1.1 r1.1).bind fun r28 =>
              some (r28.1, ())
            else
              some (false, ())
          else
            some (false, ())
        else
          some (false, ())
      else
        some (false, ())
def sg3 : Sig := { modes := [.ro, .ro], sh := [(0, .d (.int .i64)), (1, .d (.int .i64))], keeps := true, fresh := none, rtys := [.bool] }
def con3 (F : Nat) : Contract := mkCon sg3 fun x => f3 F x.1 x.2.1
def cx3 (F : Nat) : Cx := { types := tys, call := callsL [(15, con15 F), (16, con16 F), (17, con17 F)], own := [], ntmps := (0, 41) }
theorem cs3 (F : Nat) : ∀ f c, (cx3 F).call f = some c → CSound Try.prog f c := callsL_sound (calls_cons (s15 F) (calls_cons (s16 F) (calls_cons (s17 F) calls_nil)))
def hs3 (F : Nat) : Nat → Option (Hint (Dens sg3.rtys)) := hintL []
def js3 (F : Nat) : Nat → Option (Hint (Dens sg3.rtys)) := hintL []
theorem s3 (F : Nat) : CSound Try.prog 3 (con3 F) :=
  fn_sound (fn := Try.f3) (code := (bodyOf Try.f3)) (cx := cx3 F) (hs := hs3 F) (js := js3 F) Try.func3 (by kernel_rfl) (by kernel_rfl) (conf_all _ rfl) (cs3 F) mix (by kernel_rfl) (by kernel_rfl) (fun fr hn => (hok_of (l := []) (by kernel_rfl) obl_nil)) (fun x => by kernel_rfl)
end Go.Proofs.Ytlgfiljadnafeaa
