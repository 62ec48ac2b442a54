/- Code that is stepped through by hand: spoiled. -/
import Derived.Test.YtdhfajmcakneiaaGreatTiesA
set_option linter.unusedVariables false
set_option linter.unusedSimpArgs false
namespace Go.Proofs.YtdhfajmcakneiaaGreat
open Go.Eng Tryz
def A10(F:Nat):Cx:={ types:=C2B,call:=A4c [(19,A9Z F)],own:=[],ntmps:=(1,109) }
def A3C(F:Nat):Cx:={ types:=tys,call:=A4c [(19,A9Z F),(27,D84 F),(28,D88 F),(29,B8f F)],own:=[19,22,32],ntmps:=(1,109) }
theorem A5j(F:Nat):∀ f c,(A10 F).call f=some c→A5D prog f c:=A2 (A0 (s19 F) A3)
theorem A9X(F:Nat):∀ f c,(A3C F).call f=some c→A5D prog f c:=A2 (A0 (s19 F) (A0 (s27 F) (A0 (s28 F) (A0 (s29 F) A3))))
abbrev D6T:A4:=[(0,.box 0 (.pair (.slice (.int .i64)) (.pair (.int .i64) .unit))),(1,.d (.slice (.pair (.int .i64) (.pair (.pair tyV (.pair tyV .unit)) (.pair (.slice (.int .i64)) .unit))))),(5,.own 5 (.pair (.int .i64) (.pair (.pair tyV (.pair tyV .unit)) (.pair (.slice (.int .i64)) .unit))) 56)]
abbrev D6U:A4:=[(0,.box 0 (.pair (.slice (.int .i64)) (.pair (.int .i64) .unit))),(1,.d (.slice (.pair (.int .i64) (.pair (.pair tyV (.pair tyV .unit)) (.pair (.slice (.int .i64)) .unit))))),(5,.own 5 (.pair (.int .i64) (.pair (.pair tyV (.pair tyV .unit)) (.pair (.slice (.int .i64)) .unit))) 56),(6,.d (.int .i64))]
abbrev B2P:A4:=[(12192,.own 12192 (.int .i64) 3),(0,.box 0 (.pair (.slice (.int .i64)) (.pair (.int .i64) .unit))),(1,.d (.slice (.pair (.int .i64) (.pair (.pair tyV (.pair tyV .unit)) (.pair (.slice (.int .i64)) .unit))))),(5,.own 5 (.pair (.int .i64) (.pair (.pair tyV (.pair tyV .unit)) (.pair .val .unit))) 56),(6,.d (.int .i64))]
abbrev D6V:A4:=[(12192,.own 12192 (.int .i64) 3),(0,.box 0 (.pair (.slice (.int .i64)) (.pair (.int .i64) .unit))),(1,.d (.slice (.pair (.int .i64) (.pair (.pair tyV (.pair tyV .unit)) (.pair (.slice (.int .i64)) .unit))))),(5,.own 5 (.pair (.int .i64) (.pair (.pair tyV (.pair tyV .unit)) (.pair .val .unit))) 56),(6,.d (.int .i64)),(12,.d .bool)]
abbrev C85:A4:=[(12192,.own 12192 (.int .i64) 3),(0,.box 0 (.pair (.slice (.int .i64)) (.pair (.int .i64) .unit))),(1,.d (.slice (.pair (.int .i64) (.pair (.pair tyV (.pair tyV .unit)) (.pair (.slice (.int .i64)) .unit))))),(5,.own 5 (.pair (.int .i64) (.pair (.pair tyV (.pair tyV .unit)) (.pair .val .unit))) 56),(6,.d (.int .i64)),(7,.box 7 (.pair (.int .i64) (.pair (.pair tyV (.pair tyV .unit)) (.pair (.slice (.int .i64)) .unit))))]
abbrev D6W:A4:=[(12192,.own 12192 (.int .i64) 3),(0,.box 0 (.pair (.slice (.int .i64)) (.pair (.int .i64) .unit))),(1,.d (.slice (.pair (.int .i64) (.pair (.pair tyV (.pair tyV .unit)) (.pair (.slice (.int .i64)) .unit))))),(5,.own 5 (.pair (.int .i64) (.pair (.pair tyV (.pair tyV .unit)) (.pair .val .unit))) 56),(6,.d (.int .i64)),(7,.box 7 (.pair (.int .i64) (.pair (.pair tyV (.pair tyV .unit)) (.pair (.slice (.int .i64)) .unit)))),(22,.own 22 (.int .i64) 3)]
abbrev D6X:A4:=[(0,.box 0 (.pair (.slice (.int .i64)) (.pair (.int .i64) .unit))),(1,.d (.slice (.pair (.int .i64) (.pair (.pair tyV (.pair tyV .unit)) (.pair (.slice (.int .i64)) .unit))))),(5,.own 5 (.pair (.int .i64) (.pair (.pair tyV (.pair tyV .unit)) (.pair .val .unit))) 56),(6,.d (.int .i64)),(7,.box 7 (.pair (.int .i64) (.pair (.pair tyV (.pair tyV .unit)) (.pair (.slice (.int .i64)) .unit)))),(22,.own 12192 (.int .i64) 3)]
abbrev C4o:A4:=[(12192,.own 12192 (.int .i64) 3),(0,.box 0 (.pair (.slice (.int .i64)) (.pair (.int .i64) .unit))),(1,.d (.slice (.pair (.int .i64) (.pair (.pair tyV (.pair tyV .unit)) (.pair (.slice (.int .i64)) .unit))))),(5,.own 5 (.pair (.int .i64) (.pair (.pair tyV (.pair tyV .unit)) (.pair .val .unit))) 56),(6,.d (.int .i64)),(7,.box 7 (.pair (.int .i64) (.pair (.pair tyV (.pair tyV .unit)) (.pair .val .unit)))),(22,.d .val)]
abbrev D2E:A4:=[(12192,.own 12192 (.int .i64) 3),(0,.box 0 (.pair (.slice (.int .i64)) (.pair (.int .i64) .unit))),(1,.d (.slice (.pair (.int .i64) (.pair (.pair tyV (.pair tyV .unit)) (.pair (.slice (.int .i64)) .unit))))),(5,.own 5 (.pair (.int .i64) (.pair (.pair tyV (.pair tyV .unit)) (.pair .val .unit))) 56),(6,.d (.int .i64)),(7,.box 7 (.pair (.int .i64) (.pair (.pair tyV (.pair tyV .unit)) (.pair .val .unit))))]
abbrev B2Q:A4:=[(12192,.own 12192 (.int .i64) 3),(0,.box 0 (.pair (.slice (.int .i64)) (.pair (.int .i64) .unit))),(5,.own 5 (.pair (.int .i64) (.pair (.pair tyV (.pair tyV .unit)) (.pair .val .unit))) 56)]
abbrev D6Y:A4:=[(12192,.own 12192 (.int .i64) 3),(0,.box 0 (.pair (.slice (.int .i64)) (.pair (.int .i64) .unit))),(5,.own 5 (.pair (.int .i64) (.pair (.pair tyV (.pair tyV .unit)) (.pair .val .unit))) 56),(30,.d .bool)]
abbrev D6Z:A4:=[(0,.box 0 (.pair (.slice (.int .i64)) (.pair (.int .i64) .unit)))]
abbrev C2E:A4:=[(0,.box 0 (.pair (.slice (.int .i64)) (.pair (.int .i64) .unit))),(4,.own 4 (.pair (.int .i64) (.pair (.pair tyV (.pair tyV .unit)) (.pair (.slice (.int .i64)) .unit))) 56)]
abbrev C4p:A4:=[(12192,.own 12192 (.int .i64) 3),(0,.box 0 (.pair (.slice (.int .i64)) (.pair (.int .i64) .unit))),(5,.own 5 (.pair (.int .i64) (.pair (.pair tyV (.pair tyV .unit)) (.pair .val .unit))) 56),(8,.d (.int .i64))]
abbrev A0v:A4:=[(12192,.own 12192 (.int .i64) 3),(0,.box 0 (.pair (.slice (.int .i64)) (.pair (.int .i64) .unit))),(5,.own 5 (.pair (.int .i64) (.pair (.pair tyV (.pair tyV .unit)) (.pair .val .unit))) 56),(8,.d (.int .i64)),(38,.d (.int .i64))]
abbrev C4q:A4:=[(0,.box 0 (.pair (.slice (.int .i64)) (.pair (.int .i64) .unit))),(5,.own 5 (.pair (.int .i64) (.pair (.pair tyV (.pair tyV .unit)) (.pair (.slice (.int .i64)) .unit))) 56),(8,.d (.int .i64)),(38,.d (.int .i64))]
abbrev A9Y:A4:=[(0,.box 0 (.pair (.slice (.int .i64)) (.pair (.int .i64) .unit))),(5,.own 5 (.pair (.int .i64) (.pair (.pair tyV (.pair tyV .unit)) (.pair (.slice (.int .i64)) .unit))) 56)]
abbrev D2F:A4:=[(12192,.own 12192 (.int .i64) 3),(0,.box 0 (.pair (.slice (.int .i64)) (.pair (.int .i64) .unit))),(5,.own 5 (.pair (.int .i64) (.pair (.pair tyV (.pair tyV .unit)) (.pair .val .unit))) 56),(8,.d (.int .i64)),(38,.d (.int .i64)),(45,.d .bool)]
abbrev D2G:A4:=[(12192,.own 12192 (.int .i64) 3),(0,.box 0 (.pair (.slice (.int .i64)) (.pair (.int .i64) .unit))),(5,.own 5 (.pair (.int .i64) (.pair (.pair tyV (.pair tyV .unit)) (.pair .val .unit))) 56),(8,.d (.int .i64)),(38,.d (.int .i64)),(65,.d .bool)]
abbrev D2H:A4:=[(12192,.own 12192 (.int .i64) 3),(0,.box 0 (.pair (.slice (.int .i64)) (.pair (.int .i64) .unit))),(5,.own 5 (.pair (.int .i64) (.pair (.pair tyV (.pair tyV .unit)) (.pair .val .unit))) 56),(8,.d (.int .i64)),(38,.d (.int .i64)),(71,.d .bool)]
abbrev D2I:A4:=[(12192,.own 12192 (.int .i64) 3),(0,.box 0 (.pair (.slice (.int .i64)) (.pair (.int .i64) .unit))),(5,.own 5 (.pair (.int .i64) (.pair (.pair tyV (.pair tyV .unit)) (.pair .val .unit))) 56),(8,.d (.int .i64)),(38,.d (.int .i64)),(79,.d .bool)]
abbrev D2J:A4:=[(12192,.own 12192 (.int .i64) 3),(0,.box 0 (.pair (.slice (.int .i64)) (.pair (.int .i64) .unit))),(5,.own 5 (.pair (.int .i64) (.pair (.pair tyV (.pair tyV .unit)) (.pair .val .unit))) 56),(8,.d (.int .i64)),(38,.d (.int .i64)),(88,.d .bool)]
abbrev D2K:A4:=[(12192,.own 12192 (.int .i64) 3),(0,.box 0 (.pair (.slice (.int .i64)) (.pair (.int .i64) .unit))),(5,.own 5 (.pair (.int .i64) (.pair (.pair tyV (.pair tyV .unit)) (.pair .val .unit))) 56),(8,.d (.int .i64)),(38,.d (.int .i64)),(97,.d .bool)]
abbrev C4r:A4:=[(0,.box 0 (.pair (.slice (.int .i64)) (.pair (.int .i64) .unit))),(5,.own 5 (.pair (.int .i64) (.pair (.pair tyV (.pair tyV .unit)) (.pair .val .unit))) 56),(47,.again 5),(48,.d (.int .i64)),(62,.own 12192 (.int .i64) 3)]
abbrev B94:A4:=[(12192,.own 12192 (.int .i64) 3),(0,.box 0 (.pair (.slice (.int .i64)) (.pair (.int .i64) .unit))),(5,.own 5 (.pair (.int .i64) (.pair (.pair tyV (.pair tyV .unit)) (.pair .val .unit))) 56),(47,.again 5),(48,.d (.int .i64)),(62,.d .val)]
abbrev B8c:A4:=[(12192,.own 12192 (.int .i64) 3),(0,.box 0 (.pair (.slice (.int .i64)) (.pair (.int .i64) .unit))),(5,.own 5 (.pair (.int .i64) (.pair (.pair tyV (.pair tyV .unit)) (.pair .val .unit))) 56),(103,.again 12192),(106,.d (.int .i64))]
theorem E6u(F:Nat)(x0:((List Int)×(Int×Unit)))(x1:(List (Int×(((Bool×((List Int)×Unit))×((Bool×((List Int)×Unit))×Unit))×((List Int)×Unit)))))(x5:(List (Int×(((Bool×((List Int)×Unit))×((Bool×((List Int)×Unit))×Unit))×((List Int)×Unit))))):A3m (A3C F) (E6 (sub (A7 f9) [1,1,0,0])) (E6 (sub (A7 f9) [1,1,0,0])) (enc D6T (x0,x1,x5,())) (fun s=>A2K D6U s some) =
 some (x0,(x1,(x5,(0,())))):=by kernel_rfl
theorem E6v(F:Nat)(x12192:(List Int))(x0:((List Int)×(Int×Unit)))(x1:(List (Int×(((Bool×((List Int)×Unit))×((Bool×((List Int)×Unit))×Unit))×((List Int)×Unit)))))(x5:(List (Int×(((Bool×((List Int)×Unit))×((Bool×((List Int)×Unit))×Unit))×(Go.Value×Unit)))))(x6:Int):A3m (A3C F) (E6 (sub (A7 f9) [1,1,0,1,0,0,0,0])) (E6 (sub (A7 f9) [1,1,0,1,0,0,0,0])) (enc B2P (x12192,x0,x1,x5,x6,())) (fun s=>A2K D6V s some) =
 some (x12192,(x0,(x1,(x5,(x6,(ltI x6 (C7 x1),())))))):=by kernel_rfl
theorem E6w(F:Nat)(x12192:(List Int))(x0:((List Int)×(Int×Unit)))(x1:(List (Int×(((Bool×((List Int)×Unit))×((Bool×((List Int)×Unit))×Unit))×((List Int)×Unit)))))(x5:(List (Int×(((Bool×((List Int)×Unit))×((Bool×((List Int)×Unit))×Unit))×(Go.Value×Unit)))))(x6:Int):A3m (A3C F) (E6 (sub (A7 f9) [1,1,0,1,0,0,1,0,0,0])) (E6 (sub (A7 f9) [1,1,0,1,0,0,1,0,0,0])) (enc B2P (x12192,x0,x1,x5,x6,())) (fun s=>A2K C85 s some) =
 bif inI x6 (List.length x1) then
  some (x12192,(x0,(x1,(x5,(x6,(B1 (0,(((false,([0,0,0,0],())),((false,([0,0,0,0],())),())),([],()))) x1 x6,()))))))
 else
  none:=by kernel_rfl
theorem E1p(F:Nat)(x12192:(List Int))(x0:((List Int)×(Int×Unit)))(x1:(List (Int×(((Bool×((List Int)×Unit))×((Bool×((List Int)×Unit))×Unit))×((List Int)×Unit)))))(x5:(List (Int×(((Bool×((List Int)×Unit))×((Bool×((List Int)×Unit))×Unit))×(Go.Value×Unit)))))(x6:Int)(x7:(Int×(((Bool×((List Int)×Unit))×((Bool×((List Int)×Unit))×Unit))×((List Int)×Unit)))):A3m (A3C F) (E6 (sub (A7 f9) [1,1,0,1,0,0,1,0,0,1,0])) (((E6 (sub (A7 f9) [1,1,0,1,0,0,1,0,0,1,0])).drop 0).take 4) (enc C85 (x12192,x0,x1,x5,x6,x7,())) (fun s=>A2K D6W s some) =
 bif D8 (0+(List.length x7.2.2.1)) 8 then
  some (x12192,(x0,(x1,(x5,(x6,(x7,(([]++x7.2.2.1),())))))))
 else
  none:=by kernel_rfl
theorem E1q(F:Nat)(x12192:(List Int))(x0:((List Int)×(Int×Unit)))(x1:(List (Int×(((Bool×((List Int)×Unit))×((Bool×((List Int)×Unit))×Unit))×((List Int)×Unit)))))(x5:(List (Int×(((Bool×((List Int)×Unit))×((Bool×((List Int)×Unit))×Unit))×(Go.Value×Unit)))))(x6:Int)(x7:(Int×(((Bool×((List Int)×Unit))×((Bool×((List Int)×Unit))×Unit))×((List Int)×Unit)))):A3m (A3C F) (E6 (sub (A7 f9) [1,1,0,1,0,0,1,0,0,1,0])) (((E6 (sub (A7 f9) [1,1,0,1,0,0,1,0,0,1,0])).drop 0).take 4) (enc C85 (x12192,x0,x1,x5,x6,x7,())) (fun s=>A2K D6X s some) =
 bif D8 (0+(List.length x7.2.2.1)) 8 then
  some (x0,(x1,(x5,(x6,(x7,(([]++x7.2.2.1),()))))))
 else
  none:=by kernel_rfl
theorem D70(F:Nat)(x12192:(List Int))(x0:((List Int)×(Int×Unit)))(x1:(List (Int×(((Bool×((List Int)×Unit))×((Bool×((List Int)×Unit))×Unit))×((List Int)×Unit)))))(x5:(List (Int×(((Bool×((List Int)×Unit))×((Bool×((List Int)×Unit))×Unit))×(Go.Value×Unit)))))(x6:Int)(x7:(Int×(((Bool×((List Int)×Unit))×((Bool×((List Int)×Unit))×Unit))×(Go.Value×Unit))))(x22:Go.Value):A3m (A10 F) (E6 (sub (A7 f9) [1,1,0,1,0,0,1,0,0,1,0])) (((E6 (sub (A7 f9) [1,1,0,1,0,0,1,0,0,1,0])).drop 4).take 2) (enc C4o (x12192,x0,x1,x5,x6,x7,x22,())) (fun s=>A2K D2E s some) =
 some (x12192,(x0,(x1,(x5,(x6,((x7.1,(x7.2.1,(x22,x7.2.2.2))),())))))):=by kernel_rfl
theorem E6x(F:Nat)(x12192:(List Int))(x0:((List Int)×(Int×Unit)))(x1:(List (Int×(((Bool×((List Int)×Unit))×((Bool×((List Int)×Unit))×Unit))×((List Int)×Unit)))))(x5:(List (Int×(((Bool×((List Int)×Unit))×((Bool×((List Int)×Unit))×Unit))×(Go.Value×Unit)))))(x6:Int)(x7:(Int×(((Bool×((List Int)×Unit))×((Bool×((List Int)×Unit))×Unit))×(Go.Value×Unit)))):A3m (A10 F) (E6 (sub (A7 f9) [1,1,0,1,0,0,1,0,0,1,1])) (E6 (sub (A7 f9) [1,1,0,1,0,0,1,0,0,1,1])) (enc D2E (x12192,x0,x1,x5,x6,x7,())) (fun s=>A2K B2P s some) =
 bif D8 ((List.length x5)+1) 112 then
  some (x12192,(x0,(x1,((x5++[x7]),(x6,())))))
 else
  none:=by kernel_rfl
theorem E6y(F:Nat)(x12192:(List Int))(x0:((List Int)×(Int×Unit)))(x1:(List (Int×(((Bool×((List Int)×Unit))×((Bool×((List Int)×Unit))×Unit))×((List Int)×Unit)))))(x5:(List (Int×(((Bool×((List Int)×Unit))×((Bool×((List Int)×Unit))×Unit))×(Go.Value×Unit)))))(x6:Int):A3m (A3C F) (E6 (sub (A7 f9) [1,1,0,1,0,0,1,1])) (E6 (sub (A7 f9) [1,1,0,1,0,0,1,1])) (enc B2P (x12192,x0,x1,x5,x6,())) (fun s=>A2K B2P s some) =
 some (x12192,(x0,(x1,(x5,(C2 .i64 x6 1,()))))):=by kernel_rfl
theorem E6z(F:Nat)(x12192:(List Int))(x0:((List Int)×(Int×Unit)))(x5:(List (Int×(((Bool×((List Int)×Unit))×((Bool×((List Int)×Unit))×Unit))×(Go.Value×Unit))))):A3m (A10 F) (E6 (sub (A7 f9) [1,1,1,0,0])) (E6 (sub (A7 f9) [1,1,1,0,0])) (enc B2Q (x12192,x0,x5,())) (fun s=>A2K D6Y s some) =
 some (x12192,(x0,(x5,(eqI (C7 x5) 0,())))):=by kernel_rfl
theorem E6A(F:Nat)(x0:((List Int)×(Int×Unit))):A3m (A3C F) (E6 (sub (A7 f9) [1,1,1,0,1,0,0])) (E6 (sub (A7 f9) [1,1,1,0,1,0,0])) (enc D6Z (x0,())) (fun s=>A2K C2E s some) =
 some (x0,([(0,(((false,([0,0,0,0],())),((false,([0,0,0,0],())),())),([],())))],())):=by kernel_rfl
theorem E1r(F:Nat)(x12192:(List Int))(x0:((List Int)×(Int×Unit)))(x5:(List (Int×(((Bool×((List Int)×Unit))×((Bool×((List Int)×Unit))×Unit))×(Go.Value×Unit))))):A3m (A10 F) (E6 (sub (A7 f9) [1,1,1,1,0])) (E6 (sub (A7 f9) [1,1,1,1,0])) (enc B2Q (x12192,x0,x5,())) (fun s=>A2K C4p s some) =
 (B4 F x0 (C7 x5)).bind fun r2 =>
 some (x12192,(r2.1,(x5,(r2.2.1,())))):=by kernel_rfl
theorem E1s(F:Nat)(x12192:(List Int))(x0:((List Int)×(Int×Unit)))(x5:(List (Int×(((Bool×((List Int)×Unit))×((Bool×((List Int)×Unit))×Unit))×(Go.Value×Unit)))))(x8:Int):A3m (A10 F) (E6 (sub (A7 f9) [1,1,1,1,1,0,0])) (E6 (sub (A7 f9) [1,1,1,1,1,0,0])) (enc C4p (x12192,x0,x5,x8,())) (fun s=>A2K A0v s some) =
 (B4 F x0 7).bind fun r1 =>
 some (x12192,(r1.1,(x5,(x8,(r1.2.1,()))))):=by kernel_rfl
theorem D0K(F:Nat)(x12192:(List Int))(x0:((List Int)×(Int×Unit)))(x5:(List (Int×(((Bool×((List Int)×Unit))×((Bool×((List Int)×Unit))×Unit))×(Go.Value×Unit)))))(x8:Int)(x38:Int):A3m (A10 F) (E6 (sub (A7 f9) [1,1,1,1,1,0,1,0,0])) (E6 (sub (A7 f9) [1,1,1,1,1,0,1,0,0])) (enc A0v (x12192,x0,x5,x8,x38,())) (fun s=>A2K D2F s some) =
 some (x12192,(x0,(x5,(x8,(x38,(eqI x38 0,())))))):=by kernel_rfl
theorem D71(F:Nat)(x12192:(List Int))(x0:((List Int)×(Int×Unit)))(x5:(List (Int×(((Bool×((List Int)×Unit))×((Bool×((List Int)×Unit))×Unit))×(Go.Value×Unit)))))(x8:Int)(x38:Int):A3m (A10 F) (E6 (sub (A7 f9) [1,1,1,1,1,0,1,0,1,1,0])) (E6 (sub (A7 f9) [1,1,1,1,1,0,1,0,1,1,0])) (enc A0v (x12192,x0,x5,x8,x38,())) (fun s=>A2K D2G s some) =
 some (x12192,(x0,(x5,(x8,(x38,(eqI x38 1,())))))):=by kernel_rfl
theorem D72(F:Nat)(x12192:(List Int))(x0:((List Int)×(Int×Unit)))(x5:(List (Int×(((Bool×((List Int)×Unit))×((Bool×((List Int)×Unit))×Unit))×(Go.Value×Unit)))))(x8:Int)(x38:Int):A3m (A10 F) (E6 (sub (A7 f9) [1,1,1,1,1,0,1,0,1,1,1,1,0])) (E6 (sub (A7 f9) [1,1,1,1,1,0,1,0,1,1,1,1,0])) (enc A0v (x12192,x0,x5,x8,x38,())) (fun s=>A2K D2H s some) =
 some (x12192,(x0,(x5,(x8,(x38,(eqI x38 2,())))))):=by kernel_rfl
theorem D73(F:Nat)(x12192:(List Int))(x0:((List Int)×(Int×Unit)))(x5:(List (Int×(((Bool×((List Int)×Unit))×((Bool×((List Int)×Unit))×Unit))×(Go.Value×Unit)))))(x8:Int)(x38:Int):A3m (A10 F) (E6 (sub (A7 f9) [1,1,1,1,1,0,1,0,1,1,1,1,1,1,0])) (E6 (sub (A7 f9) [1,1,1,1,1,0,1,0,1,1,1,1,1,1,0])) (enc A0v (x12192,x0,x5,x8,x38,())) (fun s=>A2K D2I s some) =
 some (x12192,(x0,(x5,(x8,(x38,(eqI x38 3,())))))):=by kernel_rfl
theorem D74(F:Nat)(x12192:(List Int))(x0:((List Int)×(Int×Unit)))(x5:(List (Int×(((Bool×((List Int)×Unit))×((Bool×((List Int)×Unit))×Unit))×(Go.Value×Unit)))))(x8:Int)(x38:Int):A3m (A10 F) (E6 (sub (A7 f9) [1,1,1,1,1,0,1,0,1,1,1,1,1,1,1,1,0])) (E6 (sub (A7 f9) [1,1,1,1,1,0,1,0,1,1,1,1,1,1,1,1,0])) (enc A0v (x12192,x0,x5,x8,x38,())) (fun s=>A2K D2J s some) =
 some (x12192,(x0,(x5,(x8,(x38,(eqI x38 4,())))))):=by kernel_rfl
theorem D75(F:Nat)(x12192:(List Int))(x0:((List Int)×(Int×Unit)))(x5:(List (Int×(((Bool×((List Int)×Unit))×((Bool×((List Int)×Unit))×Unit))×(Go.Value×Unit)))))(x8:Int)(x38:Int):A3m (A10 F) (E6 (sub (A7 f9) [1,1,1,1,1,0,1,0,1,1,1,1,1,1,1,1,1,1,0])) (E6 (sub (A7 f9) [1,1,1,1,1,0,1,0,1,1,1,1,1,1,1,1,1,1,0])) (enc A0v (x12192,x0,x5,x8,x38,())) (fun s=>A2K D2K s some) =
 some (x12192,(x0,(x5,(x8,(x38,(eqI x38 5,())))))):=by kernel_rfl
theorem E1t(F:Nat)(v:Go.Value)(x12192:(List Int))(x0:((List Int)×(Int×Unit)))(x5:(List (Int×(((Bool×((List Int)×Unit))×((Bool×((List Int)×Unit))×Unit))×(Go.Value×Unit)))))(x8:Int)(x38:Int):(B19 (A10 F) (A3C F) [53,58] [59,60,61,62] 12192 v (E6 (sub (A7 f9) [1,1,1,1,1,0,1,0,1,0])) ((E6 (sub (A7 f9) [1,1,1,1,1,0,1,0,1,0])).take 16) (enc A0v (x12192,x0,x5,x8,x38,())) [] fun s rs=>bif A6P (enc A0v (x12192,x0,x5,x8,x38,())).env ((E6 (sub (A7 f9) [1,1,1,1,1,0,1,0,1,0])).take 16) rs then A2K C4r s some else none) =
 bif inI x8 (List.length x5) then
  bif isV (B1 (0,(((false,([0,0,0,0],())),((false,([0,0,0,0],())),())),((Go.Value.slice none 0 0),()))) x5 x8).2.2.1 v then
   bif inI x8 (List.length x5) then
    bif isV (B1 (0,(((false,([0,0,0,0],())),((false,([0,0,0,0],())),())),((Go.Value.slice none 0 0),()))) x5 x8).2.2.1 v then
     bif inI 0 (List.length x12192) then
      bif D8 ((List.length x12192)+1) 8 then
       some (x0,(x5,((),(x8,((x12192++[B1 0 x12192 0]),())))))
      else
       none
     else
      none
    else
     none
   else
    none
  else
   none
 else
  none:=by kernel_rfl
theorem D76(F:Nat)(x12192:(List Int))(x0:((List Int)×(Int×Unit)))(x5:(List (Int×(((Bool×((List Int)×Unit))×((Bool×((List Int)×Unit))×Unit))×(Go.Value×Unit)))))(x48:Int)(x62:Go.Value):A3m (A10 F) (E6 (sub (A7 f9) [1,1,1,1,1,0,1,0,1,0])) (((E6 (sub (A7 f9) [1,1,1,1,1,0,1,0,1,0])).drop 16).take 3) (enc B94 (x12192,x0,x5,(),x48,x62,())) (fun s=>A2K B2Q s some) =
 bif inI x48 (List.length x5) then
  some (x12192,(x0,(F1 x5 x48 ((B1 (0,(((false,([0,0,0,0],())),((false,([0,0,0,0],())),())),((Go.Value.slice none 0 0),()))) x5 x48).1,((B1 (0,(((false,([0,0,0,0],())),((false,([0,0,0,0],())),())),((Go.Value.slice none 0 0),()))) x5 x48).2.1,(x62,(B1 (0,(((false,([0,0,0,0],())),((false,([0,0,0,0],())),())),((Go.Value.slice none 0 0),()))) x5 x48).2.2.2))),())))
 else
  none:=by kernel_rfl
theorem E1u(F:Nat)(v:Go.Value)(x12192:(List Int))(x0:((List Int)×(Int×Unit)))(x5:(List (Int×(((Bool×((List Int)×Unit))×((Bool×((List Int)×Unit))×Unit))×(Go.Value×Unit)))))(x8:Int)(x38:Int):(B19 (A10 F) (A10 F) [103] [] 12192 v (E6 (sub (A7 f9) [1,1,1,1,1,0,1,0,1,1,1,1,1,1,1,1,1,1,1,0])) ((E6 (sub (A7 f9) [1,1,1,1,1,0,1,0,1,1,1,1,1,1,1,1,1,1,1,0])).take 8) (enc A0v (x12192,x0,x5,x8,x38,())) [] fun s rs=>bif A6P (enc A0v (x12192,x0,x5,x8,x38,())).env ((E6 (sub (A7 f9) [1,1,1,1,1,0,1,0,1,1,1,1,1,1,1,1,1,1,1,0])).take 8) rs then A2K B8c s some else none) =
 bif inI x8 (List.length x5) then
  bif isV (B1 (0,(((false,([0,0,0,0],())),((false,([0,0,0,0],())),())),((Go.Value.slice none 0 0),()))) x5 x8).2.2.1 v then
   (B4 F x0 2).bind fun r2 =>
   some (x12192,(r2.1,(x5,((),(E7 .i64 4096 r2.2.1,())))))
  else
   none
 else
  none:=by kernel_rfl
theorem D77(F:Nat)(x12192:(List Int))(x0:((List Int)×(Int×Unit)))(x5:(List (Int×(((Bool×((List Int)×Unit))×((Bool×((List Int)×Unit))×Unit))×(Go.Value×Unit)))))(x106:Int):A3m (A3C F) (E6 (sub (A7 f9) [1,1,1,1,1,0,1,0,1,1,1,1,1,1,1,1,1,1,1,0])) (((E6 (sub (A7 f9) [1,1,1,1,1,0,1,0,1,1,1,1,1,1,1,1,1,1,1,0])).drop 8).take 2) (enc B8c (x12192,x0,x5,(),x106,())) (fun s=>A2K B2Q s some) =
 bif inI 0 (List.length x12192) then
  some (F1 x12192 0 x106,(x0,(x5,())))
 else
  none:=by kernel_rfl
theorem D78(F:Nat)(x0:((List Int)×(Int×Unit)))(x5:(List (Int×(((Bool×((List Int)×Unit))×((Bool×((List Int)×Unit))×Unit))×((List Int)×Unit)))))(x8:Int)(x38:Int):run (R:=A4.den A9Y) (A3C F) (A5 []) (A5 []) (sub (A7 f9) [1,1,1,1,1,0,1]) (enc C4q (x0,x5,x8,x38,())) (E50 A9Y) =
 A2b F x0 x5 x8 x38:=by kernel_rfl
theorem E1v(F:Nat)(x0:((List Int)×(Int×Unit)))(x5:(List (Int×(((Bool×((List Int)×Unit))×((Bool×((List Int)×Unit))×Unit))×((List Int)×Unit))))):A3m (A3C F) (E6 (sub (A7 f9) [1,1,1,1,1,1,0])) (E6 (sub (A7 f9) [1,1,1,1,1,1,0])) (enc A9Y (x0,x5,())) (fun s=>A2K C2E s some) =
 some (x0,(x5,())):=by kernel_rfl
abbrev zV0:eVT.den:=(0,(((false,([0,0,0,0],())),((false,([0,0,0,0],())),())),((Go.Value.slice none 0 0),())))
abbrev zS0:eST.den:=(0,(((false,([0,0,0,0],())),((false,([0,0,0,0],())),())),([],())))
def A20(M:Mem)(t:Nat)(G:List eST.den)(L:List eVT.den)(v:Go.Value)(xs:List Int):Prop :=
 L.length=G.length∧∀ (k:Nat) (x:eST.den) (y:eVT.den),G[k]?=some x→L[k]?=some y→y.1=x.1∧y.2.1=x.2.1∧(k≠t→B13 M (G5 M (.int .i64)) x.2.2.1 y.2.2.1)∧(k=t→y.2.2.1=v∧x.2.2.1=xs)
section
variable {M M':Mem} {t:Nat} {G:List eST.den} {L:List eVT.den} {v:Go.Value} {xs:List Int}
theorem A20.mono(hM:M.le M')(h:A20 M t G L v xs):A20 M' t G L v xs :=
 ⟨h.1,fun k x y hx hy=>⟨(h.2 k x y hx hy).1,(h.2 k x y hx hy).2.1,fun hk=>((h.2 k x y hx hy).2.2.1 hk).mono hM fun _ _ k=>G5.mono (t:=.int .i64) hM k,(h.2 k x y hx hy).2.2.2⟩⟩
theorem A20.push(h:A20 M t G L v xs)(x:eST.den)(u:Go.Value)(ht:G.length≠t)(hs:B13 M (G5 M (.int .i64)) x.2.2.1 u):A20 M t (G++[x]) (L++[(x.1,(x.2.1,(u,())))]) v xs:=by
 refine ⟨by simp [h.1],fun k a b ha hb=>?_⟩
 rcases Nat.lt_or_ge k G.length with hk | hk
 ·rw [List.getElem?_append_left hk] at ha
  rw [List.getElem?_append_left (by rw [h.1]; exact hk)] at hb
  exact h.2 k a b ha hb
 ·rw [List.getElem?_append_right hk] at ha
  rw [List.getElem?_append_right (by rw [h.1]; exact hk),h.1] at hb
  have hk':k=G.length:=by
   have:=(List.getElem?_eq_some_iff.1 ha).1
   simp at this; omega
  subst hk'
  simp at ha hb
  subst ha; subst hb
  exact ⟨rfl,rfl,fun _=>hs,fun e=>absurd e ht⟩
theorem A20.pushT(h:A20 M t G L v xs)(x:eST.den)(u:Go.Value)(ht:G.length=t):A20 M t (G++[x]) (L++[(x.1,(x.2.1,(u,())))]) u x.2.2.1:=by
 refine ⟨by simp [h.1],fun k a b ha hb=>?_⟩
 rcases Nat.lt_or_ge k G.length with hk | hk
 ·rw [List.getElem?_append_left hk] at ha
  rw [List.getElem?_append_left (by rw [h.1]; exact hk)] at hb
  have h0:=h.2 k a b ha hb
  exact ⟨h0.1,h0.2.1,h0.2.2.1,fun e=>by omega⟩
 ·rw [List.getElem?_append_right hk] at ha
  rw [List.getElem?_append_right (by rw [h.1]; exact hk),h.1] at hb
  have hk':k=G.length:=by
   have:=(List.getElem?_eq_some_iff.1 ha).1
   simp at this; omega
  subst hk'
  simp at ha hb
  subst ha; subst hb
  exact ⟨rfl,rfl,fun e=>absurd ht e,fun _=>⟨rfl,rfl⟩⟩
theorem B8d{α:Type}{d:α}{l:List α}{i:Int}(hi:inI i l.length=true):l[i.toNat]?=some (B1 d l i):=by
 have h:=of_decide_eq_true hi
 have hlt:i.toNat < l.length:=by omega
 simp only [B1]
 rw [X1 d hlt]
 exact List.getElem?_eq_getElem hlt
theorem A20.at{i:Int}(h:A20 M i.toNat G L v xs)(hi:inI i L.length=true):(B1 zV0 L i).2.2.1=v∧(B1 zS0 G i).2.2.1=xs∧(B1 zV0 L i).1=(B1 zS0 G i).1∧(B1 zV0 L i).2.1=(B1 zS0 G i).2.1:=by
 have h0:=h.2 i.toNat _ _ (B8d (d:=zS0) (by rw [← h.1]; exact hi)) (B8d (d:=zV0) hi)
 exact ⟨(h0.2.2.2 rfl).1,(h0.2.2.2 rfl).2,h0.1,h0.2.1⟩
theorem A20.put{i:Int}(h:A20 M i.toNat G L v xs)(hi:inI i L.length=true)(u:Go.Value)(zs:List Int) :
  A20 M i.toNat (F1 G i ((B1 zS0 G i).1,((B1 zS0 G i).2.1,(zs,())))) (F1 L i ((B1 zV0 L i).1,((B1 zV0 L i).2.1,(u,(B1 zV0 L i).2.2.2)))) u zs:=by
 have h1:=h.at hi
 have hlt:i.toNat < L.length:=by have:=of_decide_eq_true hi; omega
 have hlt2:i.toNat < G.length:=by rw [← h.1]; exact hlt
 refine ⟨by simp [F1,h.1],fun k a b ha hb=>?_⟩
 simp only [F1] at ha hb
 rw [List.getElem?_set] at ha hb
 by_cases hk:i.toNat=k
 ·rw [if_pos hk,if_pos hlt2] at ha
  rw [if_pos hk,if_pos hlt] at hb
  cases ha; cases hb
  exact ⟨h1.2.2.1,h1.2.2.2,fun e=>absurd hk.symm e,fun _=>⟨rfl,rfl⟩⟩
 ·rw [if_neg hk] at ha hb
  have h0:=h.2 k a b ha hb
  exact ⟨h0.1,h0.2.1,h0.2.2.1,fun e=>absurd e.symm hk⟩
theorem A20.putX{i:Int}(h:A20 M i.toNat G L v xs)(hi:inI i L.length=true)(zs:List Int):A20 M i.toNat (F1 G i ((B1 zS0 G i).1,((B1 zS0 G i).2.1,(zs,())))) L v zs:=by
 have h1:=h.at hi
 have hlt:i.toNat < L.length:=by have:=of_decide_eq_true hi; omega
 have hlt2:i.toNat < G.length:=by rw [← h.1]; exact hlt
 refine ⟨by simp [F1,h.1],fun k a b ha hb=>?_⟩
 simp only [F1] at ha
 rw [List.getElem?_set] at ha
 by_cases hk:i.toNat=k
 ·rw [if_pos hk,if_pos hlt2] at ha
  cases ha
  subst hk
  rw [B8d (d:=zV0) hi] at hb
  cases hb
  exact ⟨h1.2.2.1,h1.2.2.2,fun e=>absurd rfl e,fun _=>⟨h1.1,rfl⟩⟩
 ·rw [if_neg hk] at ha
  have h0:=h.2 k a b ha hb
  exact ⟨h0.1,h0.2.1,h0.2.2.1,fun e=>absurd e.symm hk⟩
theorem C4s{w:Go.World}{pl:Eng.Place}{tid:Nat}(hl:A20 M t G L v xs)(hs:B13 M (G5 M (.int .i64)) xs v)(h:N4 M w pl (.sl eVT tid L)):N4 M w pl (.sl eST tid G):=by
 refine h.conv rfl (by rw [hl.1]) fun k x y cs hx hy hf=>?_
 obtain ⟨k1,k2,k3,k4⟩:=hl.2 k y x hy hx
 obtain ⟨c1,c2,e1,h1,c3,c4,e2,h2,c5,c6,e3,⟨h3,_⟩,h4⟩:=hf
 refine ⟨c1,c2,e1,by rw [← k1]; exact h1,c3,c4,e2,by rw [← k2]; exact h2,c5,c6,e3,⟨x.2.2.1,h3,?_⟩,h4⟩
 by_cases hk:k=t
 ·rw [(k4 hk).1,(k4 hk).2]; exact hs
 ·exact k3 hk
theorem D0L{w:Go.World}{pl:Eng.Place}{x:eST.den}(h:N4 M w pl (.bx eST x)):∃ u:Go.Value,N4 M w pl (.bx eVT (x.1,(x.2.1,(u,())))):=by
 cases pl with
 | no=>exact h.elim
 | «at» b cap =>
  obtain ⟨cur,tid,hb,c1,c2,e1,h1,c3,c4,e2,h2,c5,c6,e3,⟨u,h3,h5⟩,h4⟩:=h
  obtain ⟨ao,cp,hu,_⟩:=h5
  exact ⟨u,cur,tid,hb,c1,c2,e1,h1,c3,c4,e2,h2,c5,c6,e3,⟨h3,ao,_,cp,hu⟩,h4⟩
end
section
variable {fr:Frm} {M:Mem} {ρ:Nat→Eng.Place} {a:Go.Act} {w:Go.World}
theorem B5G{Mb:Mem}{v:Go.Value}{s:St}{xs:List Int}(g:Eng.Good (fr.re Mb 12192 v) M ρ s a w)(h1:s.get 12192=.one (.own 12192))(h2:s.obj 12192=.sl (.int .i64) 3 xs):v=(ρ 12192).slice xs.length:=by
 have h:=g.env 12192
 rw [h1] at h
 obtain ⟨e,tid,l,ho,hv⟩:=h
 rw [h2] at ho
 cases ho
 rw [← hv,A7a (by omega)]
theorem B5H{Mb:Mem}{v:Go.Value}{t:Nat}{G:List eST.den}{L:List eVT.den}{xs:List Int}{x0:List Int×Int×Unit}(g:Eng.Good (fr.re Mb 12192 v) M ρ (enc B2Q (xs,x0,L,())) a w)(hB:fr.Base Mb)(hL:A20 M t G L v xs) :
  ∃ M2,Eng.Good fr M2 ρ (enc A9Y (x0,G,())) a w:=by
 have hv:=B5G (xs:=xs) g rfl rfl
 obtain ⟨M8,hM8,g8,hs8⟩:=A4n g (i:=12192) (e:=.int .i64) (tid:=3) (l:=xs) rfl hv
 refine ⟨M8,g8.tell ρ rfl rfl rfl rfl (hB.trans g8.base) ⟨?_,?_,trivial⟩ ⟨g8.objs 0,C4s (hL.mono hM8) hs8 (g8.objs 5),trivial⟩ ⟨fun b hb=>⟨(fun h=>by cases h),hb⟩,fun b hb=>⟨(fun h=>by cases h),hb⟩,trivial⟩⟩
 ·obtain ⟨b,t',h1,h2,h3,h4⟩:=g8.env 0
  exact ⟨b,t',h1,h2,h3,h4⟩
 ·obtain ⟨e,tid,l,ho,hv⟩:=g8.env 5
  cases ho
  exact ⟨eST,56,G,rfl,by rw [← hL.1]; exact hv⟩
theorem B8e{Mb:Mem}{v:Go.Value}{t:Nat}{G:List eST.den}{L:List eVT.den}{xs:List Int}{x0:List Int×Int×Unit}{x8 x38:Int}(g:Eng.Good (fr.re Mb 12192 v) M ρ (enc A0v (xs,x0,L,x8,x38,())) a w)(hB:fr.Base Mb)(hL:A20 M t G L v xs) :
  ∃ M2,Eng.Good fr M2 ρ (enc C4q (x0,G,x8,x38,())) a w:=by
 have hv:=B5G (xs:=xs) g rfl rfl
 obtain ⟨M8,hM8,g8,hs8⟩:=A4n g (i:=12192) (e:=.int .i64) (tid:=3) (l:=xs) rfl hv
 refine ⟨M8,g8.tell ρ rfl rfl rfl rfl (hB.trans g8.base) ⟨?_,?_,g8.env 8,g8.env 38,trivial⟩ ⟨g8.objs 0,C4s (hL.mono hM8) hs8 (g8.objs 5),trivial⟩ ⟨fun b hb=>⟨(fun h=>by cases h),hb⟩,fun b hb=>⟨(fun h=>by cases h),hb⟩,trivial⟩⟩
 ·obtain ⟨b,t',h1,h2,h3,h4⟩:=g8.env 0
  exact ⟨b,t',h1,h2,h3,h4⟩
 ·obtain ⟨e,tid,l,ho,hv⟩:=g8.env 5
  cases ho
  exact ⟨eST,56,G,rfl,by rw [← hL.1]; exact hv⟩
theorem C4t{Q:Exit→Go.Act→Go.World→Prop}(F:Nat)(hn:((1,109):Nat×Nat)=fr.n){Mb:Mem}{v:Go.Value}{t:Nat}{G x1:List eST.den}{L:List eVT.den}{xs:List Int}{x0:List Int×Int×Unit}{x6:Int}{x7:eST.den}
  (g:Eng.Good (fr.re Mb 12192 v) M ρ (enc C85 (xs,x0,x1,L,x6,x7,())) a w) (hB:fr.Base Mb) (hL:A20 M t G L v xs) (hr:D8 (0+(List.length x7.2.2.1)) 8=true)
  (hQ:∀ (M':Mem) (ρ':Nat→Eng.Place) (v' u:Go.Value) (xs':List Int) (a':Go.Act) (w':Go.World),Eng.Good (fr.re M' 12192 v') M' ρ' (enc D2E (xs',x0,x1,L,x6,(x7.1,(x7.2.1,(u,()))),())) a' w'→fr.Base M'→A20 M' t (G++[(x7.1,(x7.2.1,(x7.2.2.1,())))]) (L++[(x7.1,(x7.2.1,(u,())))]) v' xs'→Q .normal a' w') :
  (sub (A7 f9) [1,1,0,1,0,0,1,0,0,1,0]).wp prog Q a w:=by
 have hB:=hB.trans g.base
 have g:=g.recast (fr2:=fr.re M 12192 v) rfl rfl rfl rfl (Frm.Base.re fr M) g.env g.objs fun id b h1 h2=>⟨h1,h2⟩
 refine D0E (by kernel_rfl) ?_
 by_cases ht:G.length=t
 ·refine A79 (fr:=fr.re M 12192 v) (n:=4) (cx:=A3C F) (H1 _ rfl) (A9X F) hn ((E1q F _ _ _ _ _ _).trans (by rw [hr]; rfl)) (by kernel_rfl) g fun M1 ρ1 a1 w1 g1=>?_
  have hv1:a1.tmps.getD 22 undef=(ρ1 12192).slice x7.2.2.1.length:=by
   obtain ⟨e,tid,l,ho,hv⟩:=g1.env 22
   cases ho
   exact hv
  obtain ⟨u0,ho7⟩:=D0L (g1.objs 7)
  have g2:Eng.Good (fr.re M1 12192 (a1.tmps.getD 22 undef)) M1 ρ1 (enc C4o (x7.2.2.1,x0,x1,L,x6,(x7.1,(x7.2.1,(u0,()))),a1.tmps.getD 22 undef,())) a1 w1:=by
   refine g1.tell ρ1 rfl rfl rfl rfl (Frm.Base.re fr M1) ⟨⟨.int .i64,3,x7.2.2.1,rfl,?_⟩,?_,g1.env 1,?_,g1.env 6,?_,?_,trivial⟩ ⟨g1.objs 12192,g1.objs 0,g1.objs 5,ho7,trivial⟩ ⟨fun b hb=>⟨(fun h=>by cases h),hb⟩,fun b hb=>⟨(fun h=>by cases h),hb⟩,fun b hb=>⟨(fun h=>by cases h),hb⟩,fun b hb=>⟨(fun h=>by cases h),hb⟩,trivial⟩
   ·rw [A7a (by omega)]; exact hv1
   ·obtain ⟨b,t',h1,h2,h3,h4⟩:=g1.env 0
    exact ⟨b,t',h1,h2,h3,h4⟩
   ·obtain ⟨e,tid,l,ho,hv⟩:=g1.env 5
    cases ho
    exact ⟨eVT,56,L,rfl,hv⟩
   ·obtain ⟨b,t',h1,h2,h3,h4⟩:=g1.env 7
    exact ⟨b,eVT,h1,h2,rfl,h4⟩
   ·refine ⟨[a1.tmps.getD 22 undef],⟨rfl,?_⟩,rfl⟩
    rw [hv1]; exact A7l _ _
  refine A79 (fr:=fr.re M1 12192 (a1.tmps.getD 22 undef)) (n:=2) (cx:=A10 F) (K3 _ rfl) (A5j F) hn (D70 F _ _ _ _ _ _ _) (by kernel_rfl) g2 fun M3 ρ3 a3 w3 g3=>?_
  have g4:=g3.recast (fr2:=fr.re M3 12192 (a1.tmps.getD 22 undef)) rfl rfl rfl rfl (Frm.Base.re fr M3) g3.env g3.objs fun id b h1 h2=>⟨h1,h2⟩
  exact B5x (k:=0+4+2) (by kernel_rfl) (hQ M3 ρ3 _ _ _ a3 w3 g4 ((hB.trans g1.base).trans g3.base) ((hL.mono (g1.old.trans g3.old)).pushT (x7.1,(x7.2.1,(x7.2.2.1,()))) _ ht))
 ·refine A79 (fr:=fr.re M 12192 v) (n:=4) (cx:=A3C F) (H1 _ rfl) (A9X F) hn ((E1p F _ _ _ _ _ _).trans (by rw [hr]; rfl)) (by kernel_rfl) g fun M1 ρ1 a1 w1 g1=>?_
  have hv1:a1.tmps.getD 22 undef=(ρ1 22).slice x7.2.2.1.length:=by
   obtain ⟨e,tid,l,ho,hv⟩:=g1.env 22
   cases ho
   exact hv
  obtain ⟨M2,hM2,g2,hs2⟩:=A4n g1 (i:=22) (e:=.int .i64) (tid:=3) (l:=x7.2.2.1) rfl hv1
  obtain ⟨u0,ho7⟩:=D0L (g2.objs 7)
  have g3:Eng.Good (fr.re M2 12192 v) M2 ρ1 (enc C4o (xs,x0,x1,L,x6,(x7.1,(x7.2.1,(u0,()))),a1.tmps.getD 22 undef,())) a1 w1:=by
   refine g2.tell ρ1 rfl rfl rfl rfl (Frm.Base.re fr M2) ⟨?_,?_,g2.env 1,?_,g2.env 6,?_,?_,trivial⟩ ⟨g2.objs 12192,g2.objs 0,g2.objs 5,ho7,trivial⟩ ⟨fun b hb=>⟨(fun h=>by cases h),hb⟩,fun b hb=>⟨(fun h=>by cases h),hb⟩,fun b hb=>⟨(fun h=>by cases h),hb⟩,fun b hb=>⟨(fun h=>by cases h),hb⟩,trivial⟩
   ·obtain ⟨e,tid,l,ho,hv⟩:=g2.env 12192
    cases ho
    exact ⟨.int .i64,3,xs,rfl,hv⟩
   ·obtain ⟨b,t',h1,h2,h3,h4⟩:=g2.env 0
    exact ⟨b,t',h1,h2,h3,h4⟩
   ·obtain ⟨e,tid,l,ho,hv⟩:=g2.env 5
    cases ho
    exact ⟨eVT,56,L,rfl,hv⟩
   ·obtain ⟨b,t',h1,h2,h3,h4⟩:=g2.env 7
    exact ⟨b,eVT,h1,h2,rfl,h4⟩
   ·refine ⟨[a1.tmps.getD 22 undef],⟨rfl,?_⟩,rfl⟩
    rw [hv1]; exact A7l _ _
  refine A79 (fr:=fr.re M2 12192 v) (n:=2) (cx:=A10 F) (K3 _ rfl) (A5j F) hn (D70 F _ _ _ _ _ _ _) (by kernel_rfl) g3 fun M4 ρ4 a4 w4 g4=>?_
  have g5:=g4.recast (fr2:=fr.re M4 12192 v) rfl rfl rfl rfl (Frm.Base.re fr M4) g4.env g4.objs fun id b h1 h2=>⟨h1,h2⟩
  exact B5x (k:=0+4+2) (by kernel_rfl) (hQ M4 ρ4 _ _ _ a4 w4 g5 ((hB.trans g2.base).trans g4.base) (((hL.mono g2.old).push (x7.1,(x7.2.1,(x7.2.2.1,()))) _ ht hs2).mono g4.old))
theorem C2F{Q:Exit→Go.Act→Go.World→Prop}(F:Nat)(hn:((1,109):Nat×Nat)=fr.n){t:Nat}{x1 res:List eST.den}{x0:List Int×Int×Unit}
  (hQ:∀ (M':Mem) (ρ':Nat→Eng.Place) (L:List eVT.den) (v:Go.Value) (xs:List Int) (x6:Int) (a':Go.Act) (w':Go.World),Eng.Good (fr.re M' 12192 v) M' ρ' (enc B2Q (xs,x0,L,())) a' w'→fr.Base M'→A20 M' t res L v xs→Q (.exit 0) a' w')
  {n:Nat} {G:List eST.den} {v:Go.Value} {xs:List Int} {L:List eVT.den} {x6:Int}
  (g:Eng.Good (fr.re M 12192 v) M ρ (enc B2P (xs,x0,x1,L,x6,())) a w) (hB:fr.Base M) (hL:A20 M t G L v xs) (h6:x6=(G.length:Int)) (h:H6 x1 n x6 G=some res) :
  (sub (A7 f9) [1,1,0,1,0]).wp prog Q a w:=by
 refine C47 (by kernel_rfl) (J:=fun n a w=>∃ M ρ v xs L x6 G,Eng.Good (fr.re M 12192 v) M ρ (enc B2P (xs,x0,x1,L,x6,())) a w∧fr.Base M∧A20 M t G L v xs∧x6=(G.length:Int)∧H6 x1 n x6 G=some res) ?_ ?_ (n:=n) ⟨M,ρ,v,xs,L,x6,G,g,hB,hL,h6,h⟩
 ·rintro a w ⟨M,ρ,v,xs,L,x6,G,_,_,_,_,h⟩
  cases h
 clear g hB hL h6 h
 rintro n a w ⟨M,ρ,v,xs,L,x6,G,g,hB,hL,h6,h⟩
 rw [H6] at h
 refine O3 (by kernel_rfl) (O3 (by kernel_rfl) (U8 (fr:=fr.re M 12192 v) (cx:=A3C F) (H1 _ rfl) (A9X F) hn (by kernel_rfl) (E6v F _ _ _ _ _) g fun M1 ρ1 a1 w1 g1=>?_))
 have hB1:=hB.trans g1.base
 have hL1:=hL.mono g1.old
 refine A2O (t:=12) (b:=ltI x6 (C7 x1)) g1 (by kernel_rfl) rfl (fun hb=>A9Q (by kernel_rfl) ?_) (fun hb=>B84 (i:=0) (by kernel_rfl) ?_)
 rotate_left
 ·rw [hb] at h
  simp only [cond_false,Option.some.injEq] at h
  subst h
  refine hQ M1 ρ1 L v xs x6 a1 w1 (g1.tell ρ1 rfl rfl rfl rfl (Frm.Base.re fr M1) ⟨g1.env 12192,g1.env 0,g1.env 5,trivial⟩ ⟨g1.objs 12192,g1.objs 0,g1.objs 5,trivial⟩ ⟨fun b hb=>⟨(fun h=>by cases h),hb⟩,fun b hb=>⟨(fun h=>by cases h),hb⟩,fun b hb=>⟨(fun h=>by cases h),hb⟩,trivial⟩) hB1 hL1
 rw [hb] at h
 simp only [cond_true] at h
 cases hi:inI x6 (List.length x1) <;> rw [hi] at h <;> simp only [cond_true,cond_false,reduceCtorEq] at h
 cases hr:D8 (0+List.length (B1 zS0 x1 x6).2.2.1) 8 <;> rw [hr] at h <;> simp only [cond_true,cond_false,reduceCtorEq] at h
 cases hr2:D8 (List.length G+1) 112 <;> rw [hr2] at h <;> simp only [cond_true,cond_false,reduceCtorEq] at h
 cases he:eqI (C2 .i64 x6 1) (C7 G+1) <;> rw [he] at h <;> simp only [cond_true,cond_false,reduceCtorEq] at h
 have he:C2 .i64 x6 1=(G.length:Int)+1:=of_decide_eq_true he
 have g2:Eng.Good (fr.re M1 12192 v) M1 ρ1 (enc B2P (xs,x0,x1,L,x6,())) a1 w1 :=
  g1.tell ρ1 rfl rfl rfl rfl (Frm.Base.re fr M1) ⟨g1.env 12192,g1.env 0,g1.env 1,g1.env 5,g1.env 6,trivial⟩ ⟨g1.objs 12192,g1.objs 0,g1.objs 5,trivial⟩ ⟨fun b hb=>⟨(fun h=>by cases h),hb⟩,fun b hb=>⟨(fun h=>by cases h),hb⟩,fun b hb=>⟨(fun h=>by cases h),hb⟩,trivial⟩
 clear g g1 hB hL
 refine O3 (by kernel_rfl) (A4z (i:=1) (by kernel_rfl) ?_)
 refine O3 (by kernel_rfl) (U8 (fr:=fr.re M1 12192 v) (cx:=A3C F) (H1 _ rfl) (A9X F) hn (by kernel_rfl) ((E6w F _ _ _ _ _).trans (by rw [hi]; rfl)) g2 fun M3 ρ3 a3 w3 g3=>?_)
 refine O3 (by kernel_rfl) (C4t F hn g3 hB1 (hL1.mono g3.old) hr fun M5 ρ5 v5 u xs5 a5 w5 g5 hB5 hL5=>?_)
 have hlen:L.length=G.length:=hL1.1
 refine U8 (fr:=fr.re M5 12192 v5) (cx:=A10 F) (K3 _ rfl) (A5j F) hn (by kernel_rfl) ((E6x F _ _ _ _ _ _).trans (by rw [hlen,hr2]; rfl)) g5 fun M6 ρ6 a6 w6 g6=>?_
 refine U8 (fr:=fr.re M5 12192 v5) (cx:=A3C F) (H1 _ rfl) (A9X F) hn (by kernel_rfl) (E6y F _ _ _ _ _) g6 fun M7 ρ7 a7 w7 g7=>?_
 have g8:=g7.recast (fr2:=fr.re M7 12192 v5) rfl rfl rfl rfl (Frm.Base.re fr M7) g7.env g7.objs fun id b h1 h2=>⟨h1,h2⟩
 exact ⟨M7,ρ7,v5,xs5,_,_,_,g8,hB5.trans g7.base,hL5.mono g7.old,by rw [he]; simp,h⟩
theorem C86{Q:Exit→Go.Act→Go.World→Prop}(F:Nat)(hn:((1,109):Nat×Nat)=fr.n){Mb:Mem}{v:Go.Value}{G:List eST.den}{L:List eVT.den}{xs:List Int}{x0:List Int×Int×Unit}{i c:Int}
  (g:Eng.Good (fr.re Mb 12192 v) M ρ (enc A0v (xs,x0,L,i,c,())) a w) (hB:fr.Base Mb) (hL:A20 M i.toNat G L v xs) (hin:inI i L.length=true) (h0:inI 0 (List.length xs)=true) (hr:D8 (List.length xs+1) 8=true)
  (hQ:∀ (M':Mem) (ρ':Nat→Eng.Place) (L':List eVT.den) (v':Go.Value) (a':Go.Act) (w':Go.World),Eng.Good (fr.re M' 12192 v') M' ρ' (enc B2Q (xs++[B1 0 xs 0],x0,L',())) a' w'→fr.Base M'→A20 M' i.toNat (F1 G i ((B1 zS0 G i).1,((B1 zS0 G i).2.1,(xs++[B1 0 xs 0],())))) L' v' (xs++[B1 0 xs 0])→Q .normal a' w') :
  (sub (A7 f9) [1,1,1,1,1,0,1,0,1,0]).wp prog Q a w:=by
 have hB:=hB.trans g.base
 have g:=g.recast (fr2:=fr.re M 12192 v) rfl rfl rfl rfl (Frm.Base.re fr M) g.env g.objs fun id b h1 h2=>⟨h1,h2⟩
 have hiv:isV (B1 zV0 L i).2.2.1 v=true:=D0F (hL.at hin).1
 refine C4a (fr:=fr.re M 12192 v) (cx:=A10 F) (cx2:=A3C F) (K3 _ rfl) (A5j F) hn (H1 _ rfl) (A9X F) hn mix (by kernel_rfl) (al:=[53,58]) (sl:=[59,60,61,62]) (g:=12192) (v:=v) (by omega) (by simp [Frm.re]) 16 (sh1:=C4r) (x1:=(x0,(L,((),(i,((xs++[B1 0 xs 0]),())))))) ((E1t F v _ _ _ _ _).trans (by rw [hin,hiv,h0,hr]; rfl)) (by kernel_rfl) g fun M1 ρ1 a1 w1 g1=>?_
 have hv1:a1.tmps.getD 62 undef=(ρ1 12192).slice (xs++[B1 0 xs 0]).length:=by
  obtain ⟨e,tid,l,ho,hv⟩:=g1.env 62
  cases ho
  exact hv
 have g2:Eng.Good (fr.re M1 12192 (a1.tmps.getD 62 undef)) M1 ρ1 (enc B94 (xs++[B1 0 xs 0],x0,L,(),i,a1.tmps.getD 62 undef,())) a1 w1:=by
  refine g1.tell ρ1 rfl rfl rfl rfl (Frm.Base.re fr M1) ⟨⟨.int .i64,3,xs++[B1 0 xs 0],rfl,?_⟩,g1.env 0,g1.env 5,g1.env 47,g1.env 48,?_,trivial⟩ ⟨g1.objs 12192,g1.objs 0,g1.objs 5,trivial⟩ ⟨fun b hb=>⟨(fun h=>by cases h),hb⟩,fun b hb=>⟨(fun h=>by cases h),hb⟩,fun b hb=>⟨(fun h=>by cases h),hb⟩,trivial⟩
  ·rw [A7a (by omega)]; exact hv1
  ·refine ⟨[a1.tmps.getD 62 undef],⟨rfl,?_⟩,rfl⟩
   rw [hv1]; exact A7l _ _
 refine A79 (fr:=fr.re M1 12192 (a1.tmps.getD 62 undef)) (n:=3) (cx:=A10 F) (K3 _ rfl) (A5j F) hn ((D76 F _ _ _ _ _).trans (by rw [hin]; rfl)) (by kernel_rfl) g2 fun M3 ρ3 a3 w3 g3=>?_
 have g4:=g3.recast (fr2:=fr.re M3 12192 (a1.tmps.getD 62 undef)) rfl rfl rfl rfl (Frm.Base.re fr M3) g3.env g3.objs fun id b h1 h2=>⟨h1,h2⟩
 exact B5x (k:=16+3) (by kernel_rfl) (hQ M3 ρ3 _ _ a3 w3 g4 ((hB.trans g1.base).trans g3.base) ((hL.mono (g1.old.trans g3.old)).put hin _ _))
theorem C87{Q:Exit→Go.Act→Go.World→Prop}(F:Nat)(hn:((1,109):Nat×Nat)=fr.n){Mb:Mem}{v:Go.Value}{G:List eST.den}{L:List eVT.den}{xs:List Int}{x0:List Int×Int×Unit}{i c:Int}{r:(List Int×Int×Unit)×Int×Unit}
  (g:Eng.Good (fr.re Mb 12192 v) M ρ (enc A0v (xs,x0,L,i,c,())) a w) (hB:fr.Base Mb) (hL:A20 M i.toNat G L v xs) (hin:inI i L.length=true) (hr:B4 F x0 2=some r) (h0:inI 0 (List.length xs)=true)
  (hQ:∀ (M':Mem) (ρ':Nat→Eng.Place) (a':Go.Act) (w':Go.World),Eng.Good (fr.re M' 12192 v) M' ρ' (enc B2Q (F1 xs 0 (E7 .i64 4096 r.2.1),r.1,L,())) a' w'→fr.Base M'→A20 M' i.toNat (F1 G i ((B1 zS0 G i).1,((B1 zS0 G i).2.1,(F1 xs 0 (E7 .i64 4096 r.2.1),())))) L v (F1 xs 0 (E7 .i64 4096 r.2.1))→Q .normal a' w') :
  (sub (A7 f9) [1,1,1,1,1,0,1,0,1,1,1,1,1,1,1,1,1,1,1,0]).wp prog Q a w:=by
 have hB:=hB.trans g.base
 have g:=g.recast (fr2:=fr.re M 12192 v) rfl rfl rfl rfl (Frm.Base.re fr M) g.env g.objs fun id b h1 h2=>⟨h1,h2⟩
 have hiv:isV (B1 zV0 L i).2.2.1 v=true:=D0F (hL.at hin).1
 refine C4a (fr:=fr.re M 12192 v) (cx:=A10 F) (cx2:=A10 F) (K3 _ rfl) (A5j F) hn (K3 _ rfl) (A5j F) hn mix (by kernel_rfl) (al:=[103]) (sl:=[]) (g:=12192) (v:=v) (by omega) (by simp [Frm.re]) 8 (sh1:=B8c) (x1:=(xs,(r.1,(L,((),(E7 .i64 4096 r.2.1,())))))) ((E1u F v _ _ _ _ _).trans (by rw [hin,hiv,hr]; rfl)) (by kernel_rfl) g fun M1 ρ1 a1 w1 g1=>?_
 refine A79 (fr:=fr.re M 12192 v) (n:=2) (cx:=A3C F) (H1 _ rfl) (A9X F) hn ((D77 F _ _ _ _).trans (by rw [h0]; rfl)) (by kernel_rfl) g1 fun M3 ρ3 a3 w3 g3=>?_
 have g4:=g3.recast (fr2:=fr.re M3 12192 v) rfl rfl rfl rfl (Frm.Base.re fr M3) g3.env g3.objs fun id b h1 h2=>⟨h1,h2⟩
 exact B5x (k:=8+2) (by kernel_rfl) (hQ M3 ρ3 a3 w3 g4 (hB.trans g3.base) ((hL.mono g3.old).putX hin _))
end
theorem C2G{R:Type}(F:Nat)(fr:Frm)(hn:((1,109):Nat×Nat)=fr.n):A48 (R:=R) prog fr (sub (A7 f9) [1,1]) D6T
  (fun x K=>A01 F (fun y0 y4=>K .ret (enc C2E (y0,y4,()))) x.1 x.2.1 x.2.2.1):=by
 rintro ⟨x0,x1,x5,⟨⟩⟩ K res h M ρ a w Q g hQ
 simp only [A01] at h
 cases h5:eqI (C7 x5) 0 <;> rw [h5] at h <;> simp only [cond_true,cond_false,reduceCtorEq] at h
 have h5:x5=[]:=by
  have:=of_decide_eq_true h5
  unfold C7 at this
  exact List.eq_nil_of_length_eq_zero (by omega)
 subst h5
 obtain ⟨out,hout,h⟩:=A1p h
 obtain ⟨t,ht⟩:∃ t:Nat,∀ r,B4 F x0 (C7 out)=some r→r.2.1.toNat=t:=by
  cases hm:B4 F x0 (C7 out) with
  | none=>exact ⟨0,fun r hr=>by cases hr⟩
  | some r=>exact ⟨r.2.1.toNat,fun r' hr=>by cases hr; rfl⟩
 have tail:∀ {M:Mem} {ρ:Nat→Eng.Place} {a:Go.Act} {w:Go.World} {y0:List Int×Int×Unit} {G:List eST.den},Eng.Good fr M ρ (enc A9Y (y0,G,())) a w→K .ret (enc C2E (y0,G,()))=some res→(sub (A7 f9) [1,1,1,1,1,1]).wp prog Q a w:=by
  intro M ρ a w y0 G g hK
  refine O3 (by kernel_rfl) (U8 (fr:=fr) (cx:=A3C F) (H1 _ rfl) (A9X F) hn (by kernel_rfl) (E1v F _ _) g fun M1 ρ1 a1 w1 g1=>C46 (by kernel_rfl) ?_)
  exact hQ .ret M1 ρ1 _ a1 w1 g1 hK
 refine O3 (by kernel_rfl) (O3 (by kernel_rfl) (U8 (fr:=fr) (cx:=A3C F) (H1 _ rfl) (A9X F) hn (by kernel_rfl) (E6u F _ _ _) g fun M1 ρ1 a1 w1 g1=>?_))
 have g2:Eng.Good (fr.re M1 12192 B4U) M1 (Place.upd ρ1 12192 .no) (enc B2P ([],x0,x1,[],0,())) a1 w1:=by
  refine g1.tell _ rfl rfl rfl rfl (Frm.Base.re fr M1) ⟨⟨.int .i64,3,[],rfl,by rw [A7a (by omega)]; rfl⟩,?_,g1.env 1,?_,g1.env 6,trivial⟩ ⟨rfl,g1.objs 0,?_,trivial⟩ ⟨(fun b hb=>by cases hb),fun b hb=>⟨(fun h=>by cases h),hb⟩,fun b hb=>⟨(fun h=>by cases h),hb⟩,trivial⟩
  ·obtain ⟨b,t',h1,h2,h3,h4⟩:=g1.env 0
   exact ⟨b,t',h1,h2,h3,h4⟩
  ·obtain ⟨e,tid,l,ho,hv⟩:=g1.env 5
   cases ho
   exact ⟨eVT,56,[],rfl,hv⟩
  ·exact N4.conv (g1.objs 5) rfl rfl fun k x y cs hx=>by simp at hx
 refine A4z (i:=0) (by kernel_rfl) (C2F F hn (t:=t) (res:=out) (fun M3 ρ3 L v xs x6 a3 w3 g3 hB3 hL3=>?_) g2 g1.base ⟨rfl,fun k x y hx=>by simp at hx⟩ rfl hout)
 clear g g1 g2 hout
 have hlen:C7 L=C7 out:=by unfold C7; rw [hL3.1]
 refine O3 (by kernel_rfl) (O3 (by kernel_rfl) (U8 (fr:=fr.re M3 12192 v) (cx:=A10 F) (K3 _ rfl) (A5j F) hn (by kernel_rfl) (E6z F _ _ _) g3 fun M5 ρ5 a5 w5 g5=>?_))
 have hB5:=hB3.trans g5.base
 have hL5:=hL3.mono g5.old
 refine A2O (t:=30) (b:=eqI (C7 L) 0) g5 (by kernel_rfl) rfl (fun hb=>?_) (fun hb=>A9Q (by kernel_rfl) ?_)
 ·rw [hlen] at hb
  rw [hb] at h
  simp only [cond_true] at h
  have g6:Eng.Good fr M5 ρ5 (enc D6Z (x0,())) a5 w5:=by
   refine g5.tell ρ5 rfl rfl rfl rfl hB5 ⟨?_,trivial⟩ ⟨g5.objs 0,trivial⟩ ⟨fun b hb=>⟨(fun h=>by cases h),hb⟩,trivial⟩
   obtain ⟨b,t',h1,h2,h3,h4⟩:=g5.env 0
   exact ⟨b,t',h1,h2,h3,h4⟩
  refine O3 (by kernel_rfl) (U8 (fr:=fr) (cx:=A3C F) (H1 _ rfl) (A9X F) hn (by kernel_rfl) (E6A F _) g6 fun M7 ρ7 a7 w7 g7=>C46 (by kernel_rfl) ?_)
  exact hQ .ret M7 ρ7 _ a7 w7 g7 h
 rw [hlen] at hb
 rw [hb] at h
 simp only [cond_false] at h
 obtain ⟨r1,hr1,h⟩:=A1p h
 obtain ⟨r2,hr2,h⟩:=A1p h
 have ht1:=ht r1 hr1
 subst ht1
 cases hi:inI r1.2.1 (List.length out) <;> rw [hi] at h <;> simp only [cond_true,cond_false,reduceCtorEq] at h
 have g6:Eng.Good (fr.re M5 12192 v) M5 ρ5 (enc B2Q (xs,x0,L,())) a5 w5 :=
  g5.tell ρ5 rfl rfl rfl rfl (Frm.Base.re fr M5) ⟨g5.env 12192,g5.env 0,g5.env 5,trivial⟩ ⟨g5.objs 12192,g5.objs 0,g5.objs 5,trivial⟩ ⟨fun b hb=>⟨(fun h=>by cases h),hb⟩,fun b hb=>⟨(fun h=>by cases h),hb⟩,fun b hb=>⟨(fun h=>by cases h),hb⟩,trivial⟩
 clear g3 g5 hB3 hL3
 refine O3 (by kernel_rfl) (U8 (fr:=fr.re M5 12192 v) (cx:=A10 F) (K3 _ rfl) (A5j F) hn (by kernel_rfl) ((E1r F _ _ _).trans (by rw [hlen,hr1]; rfl)) g6 fun M7 ρ7 a7 w7 g7=>?_)
 refine O3 (by kernel_rfl) (O3 (by kernel_rfl) (U8 (fr:=fr.re M5 12192 v) (cx:=A10 F) (K3 _ rfl) (A5j F) hn (by kernel_rfl) ((E1s F _ _ _ _).trans (by rw [hr2]; rfl)) g7 fun M8 ρ8 a8 w8 g8=>?_))
 have hL8:=hL5.mono g8.old
 have hin:inI r1.2.1 L.length=true:=by rw [hL8.1]; exact hi
 have hat:=hL8.at hin
 clear g6 g7 hL5
 cases hc0:eqI r2.2.1 0
 rotate_left
 ·rw [hc0] at h
  simp only [cond_true] at h
  have e1:(B1 zS0 out r1.2.1).2.2.1=xs:=hat.2.1
  have h:(bif inI 0 (List.length (B1 zS0 out r1.2.1).2.2.1) then bif D8 (List.length (B1 zS0 out r1.2.1).2.2.1+1) 8 then K .ret (enc C2E (r2.1,F1 out r1.2.1 ((B1 zS0 out r1.2.1).1,((B1 zS0 out r1.2.1).2.1,((B1 zS0 out r1.2.1).2.2.1++[B1 0 (B1 zS0 out r1.2.1).2.2.1 0],()))),())) else none else none)=some res:=h
  rw [e1] at h
  cases h0:inI 0 (List.length xs) <;> rw [h0] at h <;> simp only [cond_true,cond_false,reduceCtorEq] at h
  cases hr:D8 (List.length xs+1) 8 <;> rw [hr] at h <;> simp only [cond_true,cond_false,reduceCtorEq] at h
  have hB8:=hB5.trans g8.base
  have g8:=g8.recast (fr2:=fr.re M8 12192 v) rfl rfl rfl rfl (Frm.Base.re fr M8) g8.env g8.objs fun id b h1 h2=>⟨h1,h2⟩
  refine A4z (i:=2) (by kernel_rfl) (O3 (by kernel_rfl) (U8 (fr:=fr.re M8 12192 v) (cx:=A10 F) (K3 _ rfl) (A5j F) hn (by kernel_rfl) (D0K F _ _ _ _ _) g8 fun M9 ρ9 a9 w9 g9=>?_))
  refine A2O (t:=45) (b:=eqI r2.2.1 0) g9 (by kernel_rfl) rfl (fun hb=>?_) (fun hb=>by rw [hc0] at hb; cases hb)
  have g10:Eng.Good (fr.re M8 12192 v) M9 ρ9 (enc A0v (xs,r2.1,L,r1.2.1,r2.2.1,())) a9 w9 :=
   g9.tell ρ9 rfl rfl rfl rfl g9.base ⟨g9.env 12192,g9.env 0,g9.env 5,g9.env 8,g9.env 38,trivial⟩ ⟨g9.objs 12192,g9.objs 0,g9.objs 5,trivial⟩ ⟨fun b hb=>⟨(fun h=>by cases h),hb⟩,fun b hb=>⟨(fun h=>by cases h),hb⟩,fun b hb=>⟨(fun h=>by cases h),hb⟩,trivial⟩
  refine C86 F hn g10 hB8 (hL8.mono g10.old) hin h0 hr fun M11 ρ11 L' v' a11 w11 g11 hB11 hL11=>?_
  obtain ⟨M12,g12⟩:=B5H g11 hB11 hL11
  exact tail g12 h
 rw [hc0] at h
 simp only [cond_false] at h
 cases hc5:eqI r2.2.1 5
 rotate_left
 ·rw [hc5] at h
  simp only [cond_true] at h
  obtain ⟨r3,hr3,h⟩:=A1p h
  have hc:r2.2.1=5:=of_decide_eq_true hc5
  have e1:(B1 zS0 out r1.2.1).2.2.1=xs:=hat.2.1
  have h:(bif inI 0 (List.length (B1 zS0 out r1.2.1).2.2.1) then K .ret (enc C2E (r3.1,F1 out r1.2.1 ((B1 zS0 out r1.2.1).1,((B1 zS0 out r1.2.1).2.1,(F1 (B1 zS0 out r1.2.1).2.2.1 0 (E7 .i64 4096 r3.2.1),()))),())) else none)=some res:=h
  rw [e1] at h
  cases h0:inI 0 (List.length xs) <;> rw [h0] at h <;> simp only [cond_true,cond_false,reduceCtorEq] at h
  rw [hc] at g8
  have wk:∀ {M:Mem} {ρ:Nat→Eng.Place} {a:Go.Act} {w:Go.World} {u:Nat} {b:Bool},Nat.blt 38 u=true→Nat.blt u 8192=true→Eng.Good (fr.re M8 12192 v) M ρ (enc (A0v++[(u,.d .bool)]) (xs,r2.1,L,r1.2.1,5,b,())) a w→Eng.Good (fr.re M8 12192 v) M ρ (enc A0v (xs,r2.1,L,r1.2.1,5,())) a w:=fun hu hu2 g =>
   g.tell _ rfl rfl rfl rfl g.base ⟨g.env 12192,g.env 0,g.env 5,g.env 8,g.env 38,trivial⟩ ⟨g.objs 12192,g.objs 0,g.objs 5,trivial⟩ ⟨fun b hb=>⟨(fun h=>by cases h),hb⟩,fun b hb=>⟨(fun h=>by cases h),hb⟩,fun b hb=>⟨(fun h=>by cases h),hb⟩,trivial⟩
  have hB8:=hB5.trans g8.base
  have g8:=g8.recast (fr2:=fr.re M8 12192 v) rfl rfl rfl rfl (Frm.Base.re fr M8) g8.env g8.objs fun id b h1 h2=>⟨h1,h2⟩
  refine A4z (i:=2) (by kernel_rfl) (O3 (by kernel_rfl) (U8 (fr:=fr.re M8 12192 v) (cx:=A10 F) (K3 _ rfl) (A5j F) hn (by kernel_rfl) (D0K F _ _ _ _ _) g8 fun M9 ρ9 a9 w9 g9=>?_))
  refine A2O (t:=45) (b:=eqI 5 0) g9 (by kernel_rfl) rfl (fun hb=>by cases hb) (fun _=>?_)
  refine O3 (by kernel_rfl) (U8 (fr:=fr.re M8 12192 v) (cx:=A10 F) (K3 _ rfl) (A5j F) hn (by kernel_rfl) (D71 F _ _ _ _ _) (wk (u:=45) rfl rfl g9) fun M10 ρ10 a10 w10 g10=>?_)
  refine A2O (t:=65) (b:=eqI 5 1) g10 (by kernel_rfl) rfl (fun hb=>by cases hb) (fun _=>?_)
  refine O3 (by kernel_rfl) (U8 (fr:=fr.re M8 12192 v) (cx:=A10 F) (K3 _ rfl) (A5j F) hn (by kernel_rfl) (D72 F _ _ _ _ _) (wk (u:=65) rfl rfl g10) fun M11 ρ11 a11 w11 g11=>?_)
  refine A2O (t:=71) (b:=eqI 5 2) g11 (by kernel_rfl) rfl (fun hb=>by cases hb) (fun _=>?_)
  refine O3 (by kernel_rfl) (U8 (fr:=fr.re M8 12192 v) (cx:=A10 F) (K3 _ rfl) (A5j F) hn (by kernel_rfl) (D73 F _ _ _ _ _) (wk (u:=71) rfl rfl g11) fun M12 ρ12 a12 w12 g12=>?_)
  refine A2O (t:=79) (b:=eqI 5 3) g12 (by kernel_rfl) rfl (fun hb=>by cases hb) (fun _=>?_)
  refine O3 (by kernel_rfl) (U8 (fr:=fr.re M8 12192 v) (cx:=A10 F) (K3 _ rfl) (A5j F) hn (by kernel_rfl) (D74 F _ _ _ _ _) (wk (u:=79) rfl rfl g12) fun M13 ρ13 a13 w13 g13=>?_)
  refine A2O (t:=88) (b:=eqI 5 4) g13 (by kernel_rfl) rfl (fun hb=>by cases hb) (fun _=>?_)
  refine O3 (by kernel_rfl) (U8 (fr:=fr.re M8 12192 v) (cx:=A10 F) (K3 _ rfl) (A5j F) hn (by kernel_rfl) (D75 F _ _ _ _ _) (wk (u:=88) rfl rfl g13) fun M14 ρ14 a14 w14 g14=>?_)
  refine A2O (t:=97) (b:=eqI 5 5) g14 (by kernel_rfl) rfl (fun _=>?_) (fun hb=>by cases hb)
  have g15:=wk (u:=97) rfl rfl g14
  refine C87 F hn g15 hB8 (hL8.mono g15.old) hin hr3 h0 fun M16 ρ16 a16 w16 g16 hB16 hL16=>?_
  obtain ⟨M17,g17⟩:=B5H g16 hB16 hL16
  exact tail g17 h
 rw [hc5] at h
 simp only [cond_false] at h
 obtain ⟨r3,hr3,h⟩:=A1p h
 obtain ⟨M9,g9⟩:=B8e g8 hB5 hL8
 refine A49 (cx:=A3C F) (hs:=A5 []) (js:=A5 []) (R:=A4.den A9Y) (res:=r3) (H1 _ rfl) (A9X F) hn mix _ _ (E50 A9Y) (C3 (l:=[]) (by kernel_rfl) B6) ((D78 F _ _ _ _).trans hr3) M9 ρ8 a8 w8 _ g9 fun ex M10 ρ10 s10 a10 w10 g10 hK=>?_
 cases ex with
 | normal =>
  obtain ⟨x,ρ11,hx,g11⟩:=A0B hK g10
  cases hx
  exact tail g11 h
 | _=>cases hK
end Go.Proofs.YtdhfajmcakneiaaGreat
