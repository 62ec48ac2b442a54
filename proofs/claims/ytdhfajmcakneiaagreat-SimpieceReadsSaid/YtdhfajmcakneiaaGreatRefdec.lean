/- Loops that are stepped through by hand: refdec. -/
import Derived.Test.YtdhfajmcakneiaaGreatShare
set_option linter.unusedVariables false
set_option linter.unusedSimpArgs false
namespace Go.Proofs.YtdhfajmcakneiaaGreat
open Go.Eng Tryz
def Ak7(F:Nat):Cx:={ types:=Ap5,call:=Ot [],own:=[],ntmps:=(0,209) }
def K2(F:Nat):Cx:={ types:=tys,call:=Ot [],own:=[],ntmps:=(0,209) }
theorem AzY(F:Nat):∀ f c,(Ak7 F).call f=some c→Wx prog f c:=Ac Ad
theorem Wg(F:Nat):∀ f c,(K2 F).call f=some c→Wx prog f c:=Ac Ad
abbrev Ak8:Ae:=[(12,.own 12 (.pair (.int .i64) (.pair (.pair tyV (.pair tyV .unit)) (.pair .val .unit))) 56),(1,.d (.int .i64)),(2,.d (.int .i64)),(14,.d (.slice (.int .u64))),(17,.d (.slice (.int .u64))),(18,.d .bool),(19,.d (.int .i64)),(20,.d (.int .i64))]
abbrev A4v:Ae:=[(12,.own 12 (.pair (.int .i64) (.pair (.pair tyV (.pair tyV .unit)) (.pair .val .unit))) 56),(1,.d (.int .i64)),(2,.d (.int .i64)),(14,.d (.slice (.int .u64))),(17,.d (.slice (.int .u64))),(18,.d .bool),(19,.d (.int .i64)),(20,.d (.int .i64)),(148,.d .bool)]
abbrev AxK:Ae:=[(12,.own 12 (.pair (.int .i64) (.pair (.pair tyV (.pair tyV .unit)) (.pair .val .unit))) 56),(1,.d (.int .i64)),(2,.d (.int .i64)),(14,.d (.slice (.int .u64))),(17,.d (.slice (.int .u64))),(18,.d .bool),(19,.d (.int .i64)),(20,.d (.int .i64)),(21,.d (.int .u64))]
abbrev AxL:Ae:=[(12,.own 12 (.pair (.int .i64) (.pair (.pair tyV (.pair tyV .unit)) (.pair .val .unit))) 56),(1,.d (.int .i64)),(2,.d (.int .i64)),(14,.d (.slice (.int .u64))),(17,.d (.slice (.int .u64))),(18,.d .bool),(19,.d (.int .i64)),(20,.d (.int .i64)),(21,.d (.int .u64)),(22,.d (.int .i64))]
abbrev Wh:Ae:=[(12192,.own 12192 (.int .i64) 3),(12,.own 12 (.pair (.int .i64) (.pair (.pair tyV (.pair tyV .unit)) (.pair .val .unit))) 56),(1,.d (.int .i64)),(2,.d (.int .i64)),(14,.d (.slice (.int .u64))),(17,.d (.slice (.int .u64))),(18,.d .bool),(19,.d (.int .i64)),(20,.d (.int .i64)),(21,.d (.int .u64)),(22,.d (.int .i64))]
abbrev A4w:Ae:=[(12192,.own 12192 (.int .i64) 3),(12,.own 12 (.pair (.int .i64) (.pair (.pair tyV (.pair tyV .unit)) (.pair .val .unit))) 56),(1,.d (.int .i64)),(2,.d (.int .i64)),(14,.d (.slice (.int .u64))),(17,.d (.slice (.int .u64))),(18,.d .bool),(19,.d (.int .i64)),(20,.d (.int .i64)),(21,.d (.int .u64)),(22,.d (.int .i64)),(157,.d .bool)]
abbrev A4x:Ae:=[(12192,.own 12192 (.int .i64) 3),(12,.own 12 (.pair (.int .i64) (.pair (.pair tyV (.pair tyV .unit)) (.pair .val .unit))) 56),(1,.d (.int .i64)),(2,.d (.int .i64)),(14,.d (.slice (.int .u64))),(17,.d (.slice (.int .u64))),(18,.d .bool),(19,.d (.int .i64)),(20,.d (.int .i64)),(21,.d (.int .u64)),(22,.d (.int .i64)),(166,.d .bool)]
abbrev Ale:Ae:=[(12,.own 12 (.pair (.int .i64) (.pair (.pair tyV (.pair tyV .unit)) (.pair .val .unit))) 56),(12192,.own 12192 (.int .i64) 3),(6,.d (.slice (.pair (.int .i64) (.pair (.pair tyV (.pair tyV .unit)) (.pair (.slice (.int .i64)) .unit))))),(7,.d (.int .i64)),(8,.d (.int .i64))]
abbrev Tj:Ae:=[(12192,.own 12192 (.int .i64) 3),(12,.own 12 (.pair (.int .i64) (.pair (.pair tyV (.pair tyV .unit)) (.pair .val .unit))) 56),(1,.d (.int .i64)),(2,.d (.int .i64)),(14,.d (.slice (.int .u64))),(17,.d (.slice (.int .u64))),(18,.d .bool),(19,.d (.int .i64)),(20,.d (.int .i64)),(21,.d (.int .u64)),(22,.d (.int .i64)),(23,.d (.int .u64))]
abbrev A4y:Ae:=[(12192,.own 12192 (.int .i64) 3),(12,.own 12 (.pair (.int .i64) (.pair (.pair tyV (.pair tyV .unit)) (.pair .val .unit))) 56),(1,.d (.int .i64)),(2,.d (.int .i64)),(14,.d (.slice (.int .u64))),(17,.d (.slice (.int .u64))),(18,.d .bool),(19,.d (.int .i64)),(20,.d (.int .i64)),(21,.d (.int .u64)),(22,.d (.int .i64)),(23,.d (.int .u64)),(172,.d .bool)]
abbrev A4z:Ae:=[(12192,.own 12192 (.int .i64) 3),(12,.own 12 (.pair (.int .i64) (.pair (.pair tyV (.pair tyV .unit)) (.pair .val .unit))) 56),(1,.d (.int .i64)),(2,.d (.int .i64)),(14,.d (.slice (.int .u64))),(17,.d (.slice (.int .u64))),(18,.d .bool),(19,.d (.int .i64)),(20,.d (.int .i64)),(21,.d (.int .u64)),(22,.d (.int .i64)),(23,.d (.int .u64)),(180,.d .bool)]
abbrev AzZ:Ae:=[(12192,.own 12192 (.int .i64) 3),(12,.own 12 (.pair (.int .i64) (.pair (.pair tyV (.pair tyV .unit)) (.pair .val .unit))) 56),(1,.d (.int .i64)),(2,.d (.int .i64)),(14,.d (.slice (.int .u64))),(17,.d (.slice (.int .u64))),(18,.d .bool),(19,.d (.int .i64)),(20,.d (.int .i64)),(21,.d (.int .u64)),(22,.d (.int .i64)),(23,.d (.int .u64)),(186,.again 12),(187,.d (.int .i64)),(192,.d .val),(194,.d (.int .i64))]
abbrev AqK:Ae:=[(12192,.own 12192 (.int .i64) 3),(12,.own 12 (.pair (.int .i64) (.pair (.pair tyV (.pair tyV .unit)) (.pair .val .unit))) 56),(1,.d (.int .i64)),(2,.d (.int .i64)),(14,.d (.slice (.int .u64))),(17,.d (.slice (.int .u64))),(18,.d .bool),(19,.d (.int .i64)),(20,.d (.int .i64)),(21,.d (.int .u64)),(22,.d (.int .i64)),(23,.d (.int .u64)),(186,.again 12),(187,.d (.int .i64)),(192,.again 12192),(194,.d (.int .i64))]
abbrev A00:Ae:=[(12,.own 12 (.pair (.int .i64) (.pair (.pair tyV (.pair tyV .unit)) (.pair .val .unit))) 56),(1,.d (.int .i64)),(2,.d (.int .i64)),(14,.d (.slice (.int .u64))),(17,.d (.slice (.int .u64))),(18,.d .bool),(19,.d (.int .i64)),(20,.d (.int .i64)),(21,.d (.int .u64)),(22,.d (.int .i64)),(23,.d (.int .u64)),(186,.again 12),(187,.d (.int .i64)),(196,.own 12192 (.int .i64) 3)]
abbrev AqL:Ae:=[(12192,.own 12192 (.int .i64) 3),(12,.own 12 (.pair (.int .i64) (.pair (.pair tyV (.pair tyV .unit)) (.pair .val .unit))) 56),(1,.d (.int .i64)),(2,.d (.int .i64)),(14,.d (.slice (.int .u64))),(17,.d (.slice (.int .u64))),(18,.d .bool),(19,.d (.int .i64)),(20,.d (.int .i64)),(21,.d (.int .u64)),(22,.d (.int .i64)),(23,.d (.int .u64)),(186,.again 12),(187,.d (.int .i64)),(196,.d .val)]
theorem A9n(F:Nat)(x12:(List (Int×(((Bool×((List Int)×Unit))×((Bool×((List Int)×Unit))×Unit))×(Go.Value×Unit)))))(x1:Int)(x2:Int)(x14:(List Int))(x17:(List Int))(x18:Bool)(x19:Int)(x20:Int):P8 (Ak7 F) (Ci (sub (Ak f45) [1,1,1,1,1,1,1,1,1,1,1,1,1,1,1,1,0,1,0,0,0,0])) (Ci (sub (Ak f45) [1,1,1,1,1,1,1,1,1,1,1,1,1,1,1,1,0,1,0,0,0,0])) (enc Ak8 (x12,x1,x2,x14,x17,x18,x19,x20,())) (fun s=>P9 A4v s some) =
 some (x12,(x1,(x2,(x14,(x17,(x18,(x19,(x20,(ltI x19 (Az x12),()))))))))):=by kernel_rfl
theorem A9o(F:Nat)(x12:(List (Int×(((Bool×((List Int)×Unit))×((Bool×((List Int)×Unit))×Unit))×(Go.Value×Unit)))))(x1:Int)(x2:Int)(x14:(List Int))(x17:(List Int))(x18:Bool)(x19:Int)(x20:Int):P8 (K2 F) (Ci (sub (Ak f45) [1,1,1,1,1,1,1,1,1,1,1,1,1,1,1,1,0,1,0,0,1,0,0,0])) (Ci (sub (Ak f45) [1,1,1,1,1,1,1,1,1,1,1,1,1,1,1,1,0,1,0,0,1,0,0,0])) (enc Ak8 (x12,x1,x2,x14,x17,x18,x19,x20,())) (fun s=>P9 AxK s some) =
 some (x12,(x1,(x2,(x14,(x17,(x18,(x19,(x20,(0,()))))))))):=by kernel_rfl
theorem A9p(F:Nat)(x12:(List (Int×(((Bool×((List Int)×Unit))×((Bool×((List Int)×Unit))×Unit))×(Go.Value×Unit)))))(x1:Int)(x2:Int)(x14:(List Int))(x17:(List Int))(x18:Bool)(x19:Int)(x20:Int)(x21:Int):P8 (K2 F) (Ci (sub (Ak f45) [1,1,1,1,1,1,1,1,1,1,1,1,1,1,1,1,0,1,0,0,1,0,0,1,0])) (Ci (sub (Ak f45) [1,1,1,1,1,1,1,1,1,1,1,1,1,1,1,1,0,1,0,0,1,0,0,1,0])) (enc AxK (x12,x1,x2,x14,x17,x18,x19,x20,x21,())) (fun s=>P9 AxL s some) =
 some (x12,(x1,(x2,(x14,(x17,(x18,(x19,(x20,(x21,(0,())))))))))):=by kernel_rfl
theorem A9q(F:Nat)(x12192:(List Int))(x12:(List (Int×(((Bool×((List Int)×Unit))×((Bool×((List Int)×Unit))×Unit))×(Go.Value×Unit)))))(x1:Int)(x2:Int)(x14:(List Int))(x17:(List Int))(x18:Bool)(x19:Int)(x20:Int)(x21:Int)(x22:Int):P8 (K2 F) (Ci (sub (Ak f45) [1,1,1,1,1,1,1,1,1,1,1,1,1,1,1,1,0,1,0,0,1,0,0,1,1,0,0,0,0])) (Ci (sub (Ak f45) [1,1,1,1,1,1,1,1,1,1,1,1,1,1,1,1,0,1,0,0,1,0,0,1,1,0,0,0,0])) (enc Wh (x12192,x12,x1,x2,x14,x17,x18,x19,x20,x21,x22,())) (fun s=>P9 A4w s some) =
 bif inI x19 (List.length x14) then
  some (x12192,(x12,(x1,(x2,(x14,(x17,(x18,(x19,(x20,(x21,(x22,(leI x22 (IntKind.wrap .i64 (An 0 x14 x19)),()))))))))))))
 else
  none:=by kernel_rfl
theorem A9r(F:Nat)(x12192:(List Int))(x12:(List (Int×(((Bool×((List Int)×Unit))×((Bool×((List Int)×Unit))×Unit))×(Go.Value×Unit)))))(x1:Int)(x2:Int)(x14:(List Int))(x17:(List Int))(x18:Bool)(x19:Int)(x20:Int)(x21:Int)(x22:Int):P8 (K2 F) (Ci (sub (Ak f45) [1,1,1,1,1,1,1,1,1,1,1,1,1,1,1,1,0,1,0,0,1,0,0,1,1,0,0,1,0,0,0,0])) (Ci (sub (Ak f45) [1,1,1,1,1,1,1,1,1,1,1,1,1,1,1,1,0,1,0,0,1,0,0,1,1,0,0,1,0,0,0,0])) (enc Wh (x12192,x12,x1,x2,x14,x17,x18,x19,x20,x21,x22,())) (fun s=>P9 A4x s some) =
 bif inI x20 (List.length x17) then
  some (x12192,(x12,(x1,(x2,(x14,(x17,(x18,(x19,(x20,(x21,(x22,(leI (IntKind.wrap .u64 x2) (An 0 x17 x20),()))))))))))))
 else
  none:=by kernel_rfl
theorem A9s(F:Nat)(x12192:(List Int))(x12:(List (Int×(((Bool×((List Int)×Unit))×((Bool×((List Int)×Unit))×Unit))×(Go.Value×Unit)))))(x1:Int)(x2:Int)(x14:(List Int))(x17:(List Int))(x18:Bool)(x19:Int)(x20:Int)(x21:Int)(x22:Int):P8 (K2 F) (Ci (sub (Ak f45) [1,1,1,1,1,1,1,1,1,1,1,1,1,1,1,1,0,1,0,0,1,0,0,1,1,0,0,1,0,0,0,1,0,0])) (Ci (sub (Ak f45) [1,1,1,1,1,1,1,1,1,1,1,1,1,1,1,1,0,1,0,0,1,0,0,1,1,0,0,1,0,0,0,1,0,0])) (enc Wh (x12192,x12,x1,x2,x14,x17,x18,x19,x20,x21,x22,())) (fun s=>P9 Ale s some) =
 some (x12,(x12192,([],(0,(10,()))))):=by kernel_rfl
theorem A9t(F:Nat)(x12192:(List Int))(x12:(List (Int×(((Bool×((List Int)×Unit))×((Bool×((List Int)×Unit))×Unit))×(Go.Value×Unit)))))(x1:Int)(x2:Int)(x14:(List Int))(x17:(List Int))(x18:Bool)(x19:Int)(x20:Int)(x21:Int)(x22:Int):P8 (K2 F) (Ci (sub (Ak f45) [1,1,1,1,1,1,1,1,1,1,1,1,1,1,1,1,0,1,0,0,1,0,0,1,1,0,0,1,0,0,1,0])) (Ci (sub (Ak f45) [1,1,1,1,1,1,1,1,1,1,1,1,1,1,1,1,0,1,0,0,1,0,0,1,1,0,0,1,0,0,1,0])) (enc Wh (x12192,x12,x1,x2,x14,x17,x18,x19,x20,x21,x22,())) (fun s=>P9 Tj s some) =
 bif inI x20 (List.length x17) then
  some (x12192,(x12,(x1,(x2,(x14,(x17,(x18,(x19,(x20,(x21,(x22,(An 0 x17 x20,()))))))))))))
 else
  none:=by kernel_rfl
theorem A9u(F:Nat)(x12192:(List Int))(x12:(List (Int×(((Bool×((List Int)×Unit))×((Bool×((List Int)×Unit))×Unit))×(Go.Value×Unit)))))(x1:Int)(x2:Int)(x14:(List Int))(x17:(List Int))(x18:Bool)(x19:Int)(x20:Int)(x21:Int)(x22:Int)(x23:Int):P8 (K2 F) (Ci (sub (Ak f45) [1,1,1,1,1,1,1,1,1,1,1,1,1,1,1,1,0,1,0,0,1,0,0,1,1,0,0,1,0,0,1,1,0,0])) (Ci (sub (Ak f45) [1,1,1,1,1,1,1,1,1,1,1,1,1,1,1,1,0,1,0,0,1,0,0,1,1,0,0,1,0,0,1,1,0,0])) (enc Tj (x12192,x12,x1,x2,x14,x17,x18,x19,x20,x21,x22,x23,())) (fun s=>P9 A4y s some) =
 some (x12192,(x12,(x1,(x2,(x14,(x17,(x18,(x19,(x20,(x21,(x22,(x23,(ltI 0 x22,()))))))))))))):=by kernel_rfl
theorem A9v(F:Nat)(x12192:(List Int))(x12:(List (Int×(((Bool×((List Int)×Unit))×((Bool×((List Int)×Unit))×Unit))×(Go.Value×Unit)))))(x1:Int)(x2:Int)(x14:(List Int))(x17:(List Int))(x18:Bool)(x19:Int)(x20:Int)(x21:Int)(x22:Int)(x23:Int):P8 (K2 F) (Ci (sub (Ak f45) [1,1,1,1,1,1,1,1,1,1,1,1,1,1,1,1,0,1,0,0,1,0,0,1,1,0,0,1,0,0,1,1,0,1,0])) (Ci (sub (Ak f45) [1,1,1,1,1,1,1,1,1,1,1,1,1,1,1,1,0,1,0,0,1,0,0,1,1,0,0,1,0,0,1,1,0,1,0])) (enc Tj (x12192,x12,x1,x2,x14,x17,x18,x19,x20,x21,x22,x23,())) (fun s=>P9 Tj s some) =
 some (x12192,(x12,(x1,(x2,(x14,(x17,(x18,(x19,(x20,(x21,(x22,(Av .u64 x23 (Av .u64 x21 1),())))))))))))):=by kernel_rfl
theorem A9w(F:Nat)(x12192:(List Int))(x12:(List (Int×(((Bool×((List Int)×Unit))×((Bool×((List Int)×Unit))×Unit))×(Go.Value×Unit)))))(x1:Int)(x2:Int)(x14:(List Int))(x17:(List Int))(x18:Bool)(x19:Int)(x20:Int)(x21:Int)(x22:Int)(x23:Int):P8 (K2 F) (Ci (sub (Ak f45) [1,1,1,1,1,1,1,1,1,1,1,1,1,1,1,1,0,1,0,0,1,0,0,1,1,0,0,1,0,0,1,1,1,0,0])) (Ci (sub (Ak f45) [1,1,1,1,1,1,1,1,1,1,1,1,1,1,1,1,0,1,0,0,1,0,0,1,1,0,0,1,0,0,1,1,1,0,0])) (enc Tj (x12192,x12,x1,x2,x14,x17,x18,x19,x20,x21,x22,x23,())) (fun s=>P9 A4z s some) =
 some (x12192,(x12,(x1,(x2,(x14,(x17,(x18,(x19,(x20,(x21,(x22,(x23,(leI (IntKind.wrap .u64 x2) x23,()))))))))))))):=by kernel_rfl
theorem A9x(F:Nat)(x12192:(List Int))(x12:(List (Int×(((Bool×((List Int)×Unit))×((Bool×((List Int)×Unit))×Unit))×(Go.Value×Unit)))))(x1:Int)(x2:Int)(x14:(List Int))(x17:(List Int))(x18:Bool)(x19:Int)(x20:Int)(x21:Int)(x22:Int)(x23:Int):P8 (K2 F) (Ci (sub (Ak f45) [1,1,1,1,1,1,1,1,1,1,1,1,1,1,1,1,0,1,0,0,1,0,0,1,1,0,0,1,0,0,1,1,1,0,1,0,0])) (Ci (sub (Ak f45) [1,1,1,1,1,1,1,1,1,1,1,1,1,1,1,1,0,1,0,0,1,0,0,1,1,0,0,1,0,0,1,1,1,0,1,0,0])) (enc Tj (x12192,x12,x1,x2,x14,x17,x18,x19,x20,x21,x22,x23,())) (fun s=>P9 Ale s some) =
 some (x12,(x12192,([],(0,(10,()))))):=by kernel_rfl
theorem A9y(F:Nat)(x12192:(List Int))(x12:(List (Int×(((Bool×((List Int)×Unit))×((Bool×((List Int)×Unit))×Unit))×(Go.Value×Unit)))))(x1:Int)(x2:Int)(x14:(List Int))(x17:(List Int))(x18:Bool)(x19:Int)(x20:Int)(x21:Int)(x22:Int)(x23:Int):P8 (K2 F) (Ci (sub (Ak f45) [1,1,1,1,1,1,1,1,1,1,1,1,1,1,1,1,0,1,0,0,1,0,0,1,1,0,0,1,0,0,1,1,1,1,0])) (Ci (sub (Ak f45) [1,1,1,1,1,1,1,1,1,1,1,1,1,1,1,1,0,1,0,0,1,0,0,1,1,0,0,1,0,0,1,1,1,1,0])) (enc Tj (x12192,x12,x1,x2,x14,x17,x18,x19,x20,x21,x22,x23,())) (fun s=>P9 Tj s some) =
 bif x18 then
  some (x12192,(x12,(x1,(x2,(x14,(x17,(true,(x19,(x20,(x21,(x22,(x23,()))))))))))))
 else
  some (x12192,(x12,(x1,(x2,(x14,(x17,(eqI x23 0,(x19,(x20,(x21,(x22,(x23,())))))))))))):=by kernel_rfl
theorem A4A(F:Nat)(x12192:(List Int))(x12:(List (Int×(((Bool×((List Int)×Unit))×((Bool×((List Int)×Unit))×Unit))×(Go.Value×Unit)))))(x1:Int)(x2:Int)(x14:(List Int))(x17:(List Int))(x18:Bool)(x19:Int)(x20:Int)(x21:Int)(x22:Int)(x23:Int):P8 (Ak7 F) (Ci (sub (Ak f45) [1,1,1,1,1,1,1,1,1,1,1,1,1,1,1,1,0,1,0,0,1,0,0,1,1,0,0,1,0,0,1,1,1,1,1,0])) (((Ci (sub (Ak f45) [1,1,1,1,1,1,1,1,1,1,1,1,1,1,1,1,0,1,0,0,1,0,0,1,1,0,0,1,0,0,1,1,1,1,1,0])).drop 0).take 9) (enc Tj (x12192,x12,x1,x2,x14,x17,x18,x19,x20,x21,x22,x23,())) (fun s=>P9 AzZ s some) =
 bif inI x19 (List.length x12) then
  some (x12192,(x12,(x1,(x2,(x14,(x17,(x18,(x19,(x20,(x21,(x22,(x23,((),(x19,((An (0,(((false,([0,0,0,0],())),((false,([0,0,0,0],())),())),((Go.Value.slice none 0 0),()))) x12 x19).2.2.1,(IntKind.wrap .i64 x23,()))))))))))))))))
 else
  none:=by kernel_rfl
theorem A4B(F:Nat)(x12192:(List Int))(x12:(List (Int×(((Bool×((List Int)×Unit))×((Bool×((List Int)×Unit))×Unit))×(Go.Value×Unit)))))(x1:Int)(x2:Int)(x14:(List Int))(x17:(List Int))(x18:Bool)(x19:Int)(x20:Int)(x21:Int)(x22:Int)(x23:Int)(x187:Int)(x194:Int):P8 (K2 F) (Ci (sub (Ak f45) [1,1,1,1,1,1,1,1,1,1,1,1,1,1,1,1,0,1,0,0,1,0,0,1,1,0,0,1,0,0,1,1,1,1,1,0])) (((Ci (sub (Ak f45) [1,1,1,1,1,1,1,1,1,1,1,1,1,1,1,1,0,1,0,0,1,0,0,1,1,0,0,1,0,0,1,1,1,1,1,0])).drop 9).take 2) (enc AqK (x12192,x12,x1,x2,x14,x17,x18,x19,x20,x21,x22,x23,(),x187,(),x194,())) (fun s=>P9 A00 s some) =
 bif Bf ((List.length x12192)+1) 8 then
  some (x12,(x1,(x2,(x14,(x17,(x18,(x19,(x20,(x21,(x22,(x23,((),(x187,((x12192++[x194]),()))))))))))))))
 else
  none:=by kernel_rfl
theorem A4C(F:Nat)(x12192:(List Int))(x12:(List (Int×(((Bool×((List Int)×Unit))×((Bool×((List Int)×Unit))×Unit))×(Go.Value×Unit)))))(x1:Int)(x2:Int)(x14:(List Int))(x17:(List Int))(x18:Bool)(x19:Int)(x20:Int)(x21:Int)(x22:Int)(x23:Int)(x187:Int)(x196:Go.Value):P8 (Ak7 F) (Ci (sub (Ak f45) [1,1,1,1,1,1,1,1,1,1,1,1,1,1,1,1,0,1,0,0,1,0,0,1,1,0,0,1,0,0,1,1,1,1,1,0])) (((Ci (sub (Ak f45) [1,1,1,1,1,1,1,1,1,1,1,1,1,1,1,1,0,1,0,0,1,0,0,1,1,0,0,1,0,0,1,1,1,1,1,0])).drop 11).take 3) (enc AqL (x12192,x12,x1,x2,x14,x17,x18,x19,x20,x21,x22,x23,(),x187,x196,())) (fun s=>P9 Tj s some) =
 bif inI x187 (List.length x12) then
  some (x12192,(Cd x12 x187 ((An (0,(((false,([0,0,0,0],())),((false,([0,0,0,0],())),())),((Go.Value.slice none 0 0),()))) x12 x187).1,((An (0,(((false,([0,0,0,0],())),((false,([0,0,0,0],())),())),((Go.Value.slice none 0 0),()))) x12 x187).2.1,(x196,(An (0,(((false,([0,0,0,0],())),((false,([0,0,0,0],())),())),((Go.Value.slice none 0 0),()))) x12 x187).2.2.2))),(x1,(x2,(x14,(x17,(x18,(x19,(x20,(x21,(x22,(x23,()))))))))))))
 else
  none:=by kernel_rfl
theorem A9z(F:Nat)(x12192:(List Int))(x12:(List (Int×(((Bool×((List Int)×Unit))×((Bool×((List Int)×Unit))×Unit))×(Go.Value×Unit)))))(x1:Int)(x2:Int)(x14:(List Int))(x17:(List Int))(x18:Bool)(x19:Int)(x20:Int)(x21:Int)(x22:Int)(x23:Int):P8 (K2 F) (Ci (sub (Ak f45) [1,1,1,1,1,1,1,1,1,1,1,1,1,1,1,1,0,1,0,0,1,0,0,1,1,0,0,1,0,0,1,1,1,1,1,1])) (Ci (sub (Ak f45) [1,1,1,1,1,1,1,1,1,1,1,1,1,1,1,1,0,1,0,0,1,0,0,1,1,0,0,1,0,0,1,1,1,1,1,1])) (enc Tj (x12192,x12,x1,x2,x14,x17,x18,x19,x20,x21,x22,x23,())) (fun s=>P9 Wh s some) =
 some (x12192,(x12,(x1,(x2,(x14,(x17,(x18,(x19,(Av .i64 x20 1,(x23,(x22,()))))))))))):=by kernel_rfl
theorem A9A(F:Nat)(x12192:(List Int))(x12:(List (Int×(((Bool×((List Int)×Unit))×((Bool×((List Int)×Unit))×Unit))×(Go.Value×Unit)))))(x1:Int)(x2:Int)(x14:(List Int))(x17:(List Int))(x18:Bool)(x19:Int)(x20:Int)(x21:Int)(x22:Int):P8 (K2 F) (Ci (sub (Ak f45) [1,1,1,1,1,1,1,1,1,1,1,1,1,1,1,1,0,1,0,0,1,0,0,1,1,0,0,1,1])) (Ci (sub (Ak f45) [1,1,1,1,1,1,1,1,1,1,1,1,1,1,1,1,0,1,0,0,1,0,0,1,1,0,0,1,1])) (enc Wh (x12192,x12,x1,x2,x14,x17,x18,x19,x20,x21,x22,())) (fun s=>P9 Wh s some) =
 some (x12192,(x12,(x1,(x2,(x14,(x17,(x18,(x19,(x20,(x21,(Av .i64 x22 1,()))))))))))):=by kernel_rfl
theorem A9B(F:Nat)(x12:(List (Int×(((Bool×((List Int)×Unit))×((Bool×((List Int)×Unit))×Unit))×(Go.Value×Unit)))))(x1:Int)(x2:Int)(x14:(List Int))(x17:(List Int))(x18:Bool)(x19:Int)(x20:Int):P8 (K2 F) (Ci (sub (Ak f45) [1,1,1,1,1,1,1,1,1,1,1,1,1,1,1,1,0,1,0,0,1,1])) (Ci (sub (Ak f45) [1,1,1,1,1,1,1,1,1,1,1,1,1,1,1,1,0,1,0,0,1,1])) (enc Ak8 (x12,x1,x2,x14,x17,x18,x19,x20,())) (fun s=>P9 Ak8 s some) =
 some (x12,(x1,(x2,(x14,(x17,(x18,(Av .i64 x19 1,(x20,())))))))):=by kernel_rfl
abbrev AxN:Ae:=[(1,.d (.int .i64)),(2,.d (.int .i64)),(12,.own 12 eNT 56),(14,.d (.slice (.int .u64))),(17,.d (.slice (.int .u64))),(18,.d .bool),(19,.d (.int .i64)),(20,.d (.int .i64))]
abbrev Alf:Ae:=[(1,.d (.int .i64)),(12,.own 12 eST 56),(18,.d .bool)]
abbrev Ad4:Ae:=[(6,.d (.slice eST)),(7,.d (.int .i64)),(8,.d (.int .i64))]
section
variable {fr:Frm} {M:Mem} {ρ:Nat→Eng.Place} {a:Go.Act} {w:Go.World}
theorem Ak9{Q:Exit→Go.Act→Go.World→Prop}(F:Nat)(hn:((0,209):Nat×Nat)=fr.n){Mb:Mem}{v:Go.Value}{x0:List eNT.den}{D:List (List Int)}
  {xs:List Int} {L:List eVT.den} {x14 x17:List Int} {x1 x2 x19 x20 x21 x22 x23:Int} {x18:Bool}
  (g:Eng.Good (fr.re Mb 12192 v) M ρ (enc Tj (xs,L,x1,x2,x14,x17,x18,x19,x20,x21,x22,x23,())) a w) (hB:fr.Base Mb) (hL:Laid M x0 L D v) (h9:x19=(D.length:Int)) (hin:inI x19 L.length=true) (hr:Bf (xs.length+1) 8=true)
  (hQ:∀ (M':Mem) (ρ':Nat→Eng.Place) (L':List eVT.den) (v':Go.Value) (a':Go.Act) (w':Go.World),Eng.Good (fr.re M' 12192 v') M' ρ' (enc Tj (xs++[IntKind.wrap .i64 x23],L',x1,x2,x14,x17,x18,x19,x20,x21,x22,x23,())) a' w'→fr.Base M'→Laid M' x0 L' D v'→Q .normal a' w') :
  (sub (Ak f45) [1,1,1,1,1,1,1,1,1,1,1,1,1,1,1,1,0,1,0,0,1,0,0,1,1,0,0,1,0,0,1,1,1,1,1,0]).wp prog Q a w:=by
 have g0:Eng.Good (fr.re M 12192 v) M ρ (enc Tj (xs,L,x1,x2,x14,x17,x18,x19,x20,x21,x22,x23,())) a w:=by
  refine g.recast rfl rfl rfl rfl (Frm.Base.re fr M) (fun t=>?_) g.objs fun id b h1 h2=>⟨h1,h2⟩
  exact g.env t
 have hBM:fr.Base M:=hB.trans g.base
 clear g hB
 refine AxH (by kernel_rfl) ?_
 refine AcY (fr:=fr.re M 12192 v) (n:=9) (cx:=Ak7 F) (Sc _ rfl) (AzY F) hn ((A4A F _ _ _ _ _ _ _ _ _ _ _ _).trans (by rw [hin]; rfl)) (by kernel_rfl) g0 fun M1 ρ1 a1 w1 g1=>?_
 have hL1:=hL.mono g1.old
 have hlt:D.length < L.length:=by rw [h9] at hin; have:=of_decide_eq_true hin; omega
 have hcell:(An (0,(((false,([0,0,0,0],())),((false,([0,0,0,0],())),())),((Go.Value.slice none 0 0),()))) L x19).2.2.1=v:=by
  rw [h9]
  simp only [An,Int.toNat_natCast]
  have e1:=(hL.2 D.length L[D.length] (List.getElem?_eq_getElem hlt)).2.2.2 rfl
  rw [Ii _ hlt]; exact e1
 have hv1:v=(ρ1 12192).slice xs.length:=by
  obtain ⟨e,tid,l,ho,hv⟩:=g1.env 12192
  cases ho
  rw [← hv,W6 (by omega)]
 have g2:Eng.Good (fr.re M 12192 v) M1 ρ1 (enc AqK (xs,L,x1,x2,x14,x17,x18,x19,x20,x21,x22,x23,(),x19,(),IntKind.wrap .i64 x23,())) a1 w1:=by
  refine g1.tell ρ1 rfl rfl rfl rfl g1.base ⟨g1.env 12192,g1.env 12,g1.env 1,g1.env 2,g1.env 14,g1.env 17,g1.env 18,g1.env 19,g1.env 20,g1.env 21,g1.env 22,g1.env 23,g1.env 186,g1.env 187,?_,g1.env 194,trivial⟩ ⟨g1.objs 12192,g1.objs 12,trivial⟩ ⟨fun b hb=>⟨(fun h=>by cases h),hb⟩,fun b hb=>⟨(fun h=>by cases h),hb⟩,trivial⟩
  obtain ⟨cs,⟨h1,h2⟩,h3⟩:=g1.env 192
  refine ⟨.int .i64,3,xs,rfl,?_⟩
  rw [h3,h1]
  exact hcell.trans hv1
 refine AcY (fr:=fr.re M 12192 v) (n:=2) (cx:=K2 F) (Bz _ rfl) (Wg F) hn ((A4B F _ _ _ _ _ _ _ _ _ _ _ _ _ _).trans (by rw [hr]; rfl)) (by kernel_rfl) g2 fun M3 ρ3 a3 w3 g3=>?_
 have hL3:=hL.mono g3.old
 have hv3:a3.tmps.getD 196 undef=(ρ3 12192).slice (xs++[IntKind.wrap .i64 x23]).length:=by
  obtain ⟨e,tid,l,ho,hv⟩:=g3.env 196
  cases ho
  exact hv
 have g4:Eng.Good (fr.re M3 12192 (a3.tmps.getD 196 undef)) M3 ρ3 (enc AqL (xs++[IntKind.wrap .i64 x23],L,x1,x2,x14,x17,x18,x19,x20,x21,x22,x23,(),x19,a3.tmps.getD 196 undef,())) a3 w3:=by
  refine g3.tell ρ3 rfl rfl rfl rfl (Frm.Base.re fr M3) ⟨⟨.int .i64,3,xs++[IntKind.wrap .i64 x23],rfl,?_⟩,g3.env 12,g3.env 1,g3.env 2,g3.env 14,g3.env 17,g3.env 18,g3.env 19,g3.env 20,g3.env 21,g3.env 22,g3.env 23,g3.env 186,g3.env 187,?_,trivial⟩ ⟨g3.objs 12192,g3.objs 12,trivial⟩ ⟨fun b hb=>⟨(fun h=>by cases h),hb⟩,fun b hb=>⟨(fun h=>by cases h),hb⟩,trivial⟩
  ·rw [W6 (by omega)]; exact hv3
  ·refine ⟨[a3.tmps.getD 196 undef],⟨rfl,?_⟩,rfl⟩
   rw [hv3]; exact Ahl _ _
 refine AcY (fr:=fr.re M3 12192 (a3.tmps.getD 196 undef)) (n:=3) (cx:=Ak7 F) (Sc _ rfl) (AzY F) hn ((A4C F _ _ _ _ _ _ _ _ _ _ _ _ _ _).trans (by rw [hin]; rfl)) (by kernel_rfl) g4 fun M5 ρ5 a5 w5 g5=>?_
 have g6:=g5.recast (fr2:=fr.re M5 12192 (a3.tmps.getD 196 undef)) rfl rfl rfl rfl (Frm.Base.re fr M5) g5.env g5.objs fun id b h1 h2=>⟨h1,h2⟩
 exact AxI (k:=0+9+2+3) (by kernel_rfl) (hQ M5 ρ5 _ (a3.tmps.getD 196 undef) a5 w5 g6 ((hBM.trans g3.base).trans g5.base) ((hL3.mono g5.old).put h9 hin))
theorem Ad5{Mb:Mem}{v:Go.Value}{xs:List Int}{L:List eVT.den}{x14 x17:List Int}{x1 x2 x19 x20 x21 x22:Int}{x18 b:Bool}{u:Nat}(hu:Nat.blt 23 u=true)(g:Eng.Good (fr.re Mb 12192 v) M ρ (enc ((12192,.own 12192 (.int .i64) 3)::AxL++[(u,.d .bool)]) (xs,L,x1,x2,x14,x17,x18,x19,x20,x21,x22,b,())) a w) :
  Eng.Good (fr.re M 12192 v) M ρ (enc Wh (xs,L,x1,x2,x14,x17,x18,x19,x20,x21,x22,())) a w :=
 g.tell ρ rfl rfl rfl rfl (Frm.Base.re fr M) ⟨g.env 12192,g.env 12,g.env 1,g.env 2,g.env 14,g.env 17,g.env 18,g.env 19,g.env 20,g.env 21,g.env 22,trivial⟩ ⟨g.objs 12192,g.objs 12,trivial⟩ ⟨fun b hb=>⟨(fun h=>by cases h),hb⟩,fun b hb=>⟨(fun h=>by cases h),hb⟩,trivial⟩
theorem Ad6{Mb:Mem}{v:Go.Value}{xs:List Int}{L:List eVT.den}{x14 x17:List Int}{x1 x2 x19 x20 x21 x22 x23:Int}{x18 b:Bool}{u:Nat}(hu:Nat.blt 23 u=true)(g:Eng.Good (fr.re Mb 12192 v) M ρ (enc (Tj++[(u,.d .bool)]) (xs,L,x1,x2,x14,x17,x18,x19,x20,x21,x22,x23,b,())) a w) :
  Eng.Good (fr.re M 12192 v) M ρ (enc Tj (xs,L,x1,x2,x14,x17,x18,x19,x20,x21,x22,x23,())) a w :=
 g.tell ρ rfl rfl rfl rfl (Frm.Base.re fr M) ⟨g.env 12192,g.env 12,g.env 1,g.env 2,g.env 14,g.env 17,g.env 18,g.env 19,g.env 20,g.env 21,g.env 22,g.env 23,trivial⟩ ⟨g.objs 12192,g.objs 12,trivial⟩ ⟨fun b hb=>⟨(fun h=>by cases h),hb⟩,fun b hb=>⟨(fun h=>by cases h),hb⟩,trivial⟩
theorem Aka{Q:Exit→Go.Act→Go.World→Prop}(F:Nat)(hn:((0,209):Nat×Nat)=fr.n){v:Go.Value}{x0:List eNT.den}{D:List (List Int)}
  {xs:List Int} {L:List eVT.den} {x14 x17:List Int} {x1 x2 x19 x20 x21 x22 x23:Int} {x18:Bool}
  (g:Eng.Good (fr.re M 12192 v) M ρ (enc Tj (xs,L,x1,x2,x14,x17,x18,x19,x20,x21,x22,x23,())) a w) (hB:fr.Base M) (hL:Laid M x0 L D v) (h9:x19=(D.length:Int))
  {n:Nat} {r:Bool×Int×Bool×List Int}
  (h:(bif leI (IntKind.wrap .u64 x2) x23 then some (false,x20,x18,xs) else bif inI x19 (List.length x0) then bif Bf (List.length xs+1) 8 then Cj F (inI x19 (List.length x0)) x2 x14 x17 x19 n (Av .i64 x22 1) x23 (Av .i64 x20 1) (bif x18 then true else eqI x23 0) (xs++[IntKind.wrap .i64 x23]) else none else none)=some r)
  (hQ2:∀ (M':Mem) (ρ':Nat→Eng.Place) (L':List eVT.den) (v':Go.Value) (ys:List Int) (a':Go.Act) (w':Go.World),r.1=false→Eng.Good (fr.re M' 12192 v') M' ρ' (enc Ale (L',ys,[],0,10,())) a' w'→fr.Base M'→Q .ret a' w')
  (hQ:∀ (M':Mem) (ρ':Nat→Eng.Place) (L':List eVT.den) (v':Go.Value) (a':Go.Act) (w':Go.World),Eng.Good (fr.re M' 12192 v') M' ρ' (enc Wh (xs++[IntKind.wrap .i64 x23],L',x1,x2,x14,x17,(bif x18 then true else eqI x23 0),x19,Av .i64 x20 1,x23,x22,())) a' w'→fr.Base M'→Laid M' x0 L' D v' →
   Cj F (inI x19 (List.length x0)) x2 x14 x17 x19 n (Av .i64 x22 1) x23 (Av .i64 x20 1) (bif x18 then true else eqI x23 0) (xs++[IntKind.wrap .i64 x23])=some r→Q .normal a' w') :
  (sub (Ak f45) [1,1,1,1,1,1,1,1,1,1,1,1,1,1,1,1,0,1,0,0,1,0,0,1,1,0,0,1,0,0,1,1,1]).wp prog Q a w:=by
 refine En (by kernel_rfl) (En (by kernel_rfl) ?_)
 refine Hd (fr:=fr.re M 12192 v) (cx:=K2 F) (Bz _ rfl) (Wg F) hn (by kernel_rfl) (A9w F _ _ _ _ _ _ _ _ _ _ _ _) g fun M1 ρ1 a1 w1 g1=>?_
 have hB1:=hB.trans g1.base
 have hL1:=hL.mono g1.old
 have g2:=Ad6 (u:=180) rfl g1
 refine Tv (t:=180) (b:=leI (IntKind.wrap .u64 x2) x23) g1 (by kernel_rfl) rfl (fun hb=>?_) (fun hb=>Tu (by kernel_rfl) ?_)
 ·rw [hb] at h
  simp only [cond_true,Option.some.injEq] at h
  subst h
  refine En (by kernel_rfl) (Hd (fr:=fr.re M1 12192 v) (cx:=K2 F) (Bz _ rfl) (Wg F) hn (by kernel_rfl) (A9x F _ _ _ _ _ _ _ _ _ _ _ _) g2 fun M5 ρ5 a5 w5 g5=>Aqw (by kernel_rfl) ?_)
  have g6:=g5.recast (fr2:=fr.re M5 12192 v) rfl rfl rfl rfl (Frm.Base.re fr M5) g5.env g5.objs fun id b h1 h2=>⟨h1,h2⟩
  exact hQ2 M5 ρ5 L v xs a5 w5 rfl g6 (hB1.trans g5.base)
 rw [hb] at h
 simp only [cond_false] at h
 cases hok:inI x19 (List.length x0) <;> rw [hok] at h <;> simp only [cond_true,cond_false,reduceCtorEq] at h
 cases hr:Bf (List.length xs+1) 8 <;> rw [hr] at h <;> simp only [cond_true,cond_false,reduceCtorEq] at h
 refine En (by kernel_rfl) (Hd (fr:=fr.re M1 12192 v) (cx:=K2 F) (Bz _ rfl) (Wg F) hn (by kernel_rfl) (x1:=(xs,L,x1,x2,x14,x17,(bif x18 then true else eqI x23 0),x19,x20,x21,x22,x23,())) ((A9y F _ _ _ _ _ _ _ _ _ _ _ _).trans (by cases x18 <;> rfl)) g2 fun M3 ρ3 a3 w3 g3=>?_)
 refine En (by kernel_rfl) (Ak9 F hn g3 hB1 (hL1.mono g3.old) h9 (by rw [hL1.1]; exact hok) hr fun M6 ρ6 L6 v6 a6 w6 g6 hB6 hL6=>?_)
 refine Hd (fr:=fr.re M6 12192 v6) (cx:=K2 F) (Bz _ rfl) (Wg F) hn (by kernel_rfl) (A9z F _ _ _ _ _ _ _ _ _ _ _ _) g6 fun M7 ρ7 a7 w7 g7=>?_
 have g8:=g7.recast (fr2:=fr.re M7 12192 v6) rfl rfl rfl rfl (Frm.Base.re fr M7) g7.env g7.objs fun id b h1 h2=>⟨h1,h2⟩
 exact hQ M7 ρ7 L6 v6 a7 w7 g8 (hB6.trans g7.base) (hL6.mono g7.old) (by rw [hok]; exact h)
theorem Ahn{Q:Exit→Go.Act→Go.World→Prop}(F:Nat)(hn:((0,209):Nat×Nat)=fr.n){x0:List eNT.den}{D:List (List Int)}{x14 x17:List Int}{x1 x2 x19:Int}(h9:x19=(D.length:Int)){r:Bool×Int×Bool×List Int}
  (hQ1:∀ (M':Mem) (ρ':Nat→Eng.Place) (L':List eVT.den) (v':Go.Value) (y z:Int) (a':Go.Act) (w':Go.World),r.1=true→Eng.Good (fr.re M' 12192 v') M' ρ' (enc Wh (r.2.2.2,L',x1,x2,x14,x17,r.2.2.1,x19,r.2.1,y,z,())) a' w'→fr.Base M'→Laid M' x0 L' D v'→Q (.exit 6) a' w')
  (hQ2:∀ (M':Mem) (ρ':Nat→Eng.Place) (L':List eVT.den) (v':Go.Value) (ys:List Int) (a':Go.Act) (w':Go.World),r.1=false→Eng.Good (fr.re M' 12192 v') M' ρ' (enc Ale (L',ys,[],0,10,())) a' w'→fr.Base M'→Q .ret a' w')
  {n:Nat} {v:Go.Value} {xs:List Int} {L:List eVT.den} {x20 x21 x22:Int} {x18:Bool}
  (g:Eng.Good (fr.re M 12192 v) M ρ (enc Wh (xs,L,x1,x2,x14,x17,x18,x19,x20,x21,x22,())) a w) (hB:fr.Base M) (hL:Laid M x0 L D v) (h:Cj F (inI x19 (List.length x0)) x2 x14 x17 x19 n x22 x21 x20 x18 xs=some r) :
  (sub (Ak f45) [1,1,1,1,1,1,1,1,1,1,1,1,1,1,1,1,0,1,0,0,1,0,0,1,1,0]).wp prog Q a w:=by
 refine Aqx (by kernel_rfl) (J:=fun n a w=>∃ M ρ v xs L x18 x20 x21 x22,Eng.Good (fr.re M 12192 v) M ρ (enc Wh (xs,L,x1,x2,x14,x17,x18,x19,x20,x21,x22,())) a w∧fr.Base M∧Laid M x0 L D v∧Cj F (inI x19 (List.length x0)) x2 x14 x17 x19 n x22 x21 x20 x18 xs=some r) ?_ ?_ (n:=n) ⟨M,ρ,v,xs,L,x18,x20,x21,x22,g,hB,hL,h⟩
 ·rintro a w ⟨M,ρ,v,xs,L,x18,x20,x21,x22,_,_,_,h⟩
  cases h
 clear g hB hL h
 rintro n a w ⟨M,ρ,v,xs,L,x18,x20,x21,x22,g,hB,hL,h⟩
 rw [Cj] at h
 cases hi:inI x19 (List.length x14) <;> rw [hi] at h <;> simp only [cond_true,cond_false,reduceCtorEq] at h
 refine En (by kernel_rfl) (En (by kernel_rfl) (Hd (fr:=fr.re M 12192 v) (cx:=K2 F) (Bz _ rfl) (Wg F) hn (by kernel_rfl) ((A9q F _ _ _ _ _ _ _ _ _ _ _).trans (by rw [hi]; rfl)) g fun M1 ρ1 a1 w1 g1=>?_))
 have hB1:=hB.trans g1.base
 have hL1:=hL.mono g1.old
 have g2:=Ad5 (u:=157) rfl g1
 refine Tv (t:=157) (b:=leI x22 (IntKind.wrap .i64 (An 0 x14 x19))) g1 (by kernel_rfl) rfl (fun hb=>Tu (by kernel_rfl) ?_) (fun hb=>Aeo (i:=6) (by kernel_rfl) ?_)
 rotate_left
 ·rw [hb] at h
  simp only [cond_false,Option.some.injEq] at h
  subst h
  exact hQ1 M1 ρ1 L v x21 x22 a1 w1 rfl g2 hB1 hL1
 rw [hb] at h
 simp only [cond_true] at h
 clear g g1 hB hL
 cases hk:inI x20 (List.length x17) <;> rw [hk] at h <;> simp only [cond_true,cond_false,reduceCtorEq] at h
 refine En (by kernel_rfl) (Uv (i:=7) (by kernel_rfl) ?_)
 refine En (by kernel_rfl) (En (by kernel_rfl) ?_)
 refine Hd (fr:=fr.re M1 12192 v) (cx:=K2 F) (Bz _ rfl) (Wg F) hn (by kernel_rfl) ((A9r F _ _ _ _ _ _ _ _ _ _ _).trans (by rw [hk]; rfl)) g2 fun M3 ρ3 a3 w3 g3=>?_
 have hB3:=hB1.trans g3.base
 have hL3:=hL1.mono g3.old
 have g4:=Ad5 (u:=166) rfl g3
 refine Tv (t:=166) (b:=leI (IntKind.wrap .u64 x2) (An 0 x17 x20)) g3 (by kernel_rfl) rfl (fun hb=>?_) (fun hb=>Tu (by kernel_rfl) ?_)
 ·rw [hb] at h
  simp only [cond_true,Option.some.injEq] at h
  subst h
  refine En (by kernel_rfl) (Hd (fr:=fr.re M3 12192 v) (cx:=K2 F) (Bz _ rfl) (Wg F) hn (by kernel_rfl) (A9s F _ _ _ _ _ _ _ _ _ _ _) g4 fun M5 ρ5 a5 w5 g5=>Aqw (by kernel_rfl) ?_)
  have g6:=g5.recast (fr2:=fr.re M5 12192 v) rfl rfl rfl rfl (Frm.Base.re fr M5) g5.env g5.objs fun id b h1 h2=>⟨h1,h2⟩
  exact hQ2 M5 ρ5 L v xs a5 w5 rfl g6 (hB3.trans g5.base)
 rw [hb] at h
 simp only [cond_false] at h
 clear g3
 refine En (by kernel_rfl) (Hd (fr:=fr.re M3 12192 v) (cx:=K2 F) (Bz _ rfl) (Wg F) hn (by kernel_rfl) ((A9t F _ _ _ _ _ _ _ _ _ _ _).trans (by rw [hk]; rfl)) g4 fun M5 ρ5 a5 w5 g5=>?_)
 refine En (by kernel_rfl) (En (by kernel_rfl) (Hd (fr:=fr.re M3 12192 v) (cx:=K2 F) (Bz _ rfl) (Wg F) hn (by kernel_rfl) (A9u F _ _ _ _ _ _ _ _ _ _ _ _) g5 fun M6 ρ6 a6 w6 g6=>?_))
 have hB6:=hB3.trans g6.base
 have hL6:=hL3.mono g6.old
 have g7:=Ad6 (u:=172) rfl g6
 have fin:∀ {M8:Mem} {ρ8:Nat→Eng.Place} {a8:Go.Act} {w8:Go.World},Eng.Good (fr.re M8 12192 v) M8 ρ8 (enc Tj (xs,L,x1,x2,x14,x17,x18,x19,x20,x21,x22,(bif ltI 0 x22 then Av .u64 (An 0 x17 x20) (Av .u64 x21 1) else An 0 x17 x20),())) a8 w8→fr.Base M8→Laid M8 x0 L D v →
   (sub (Ak f45) [1,1,1,1,1,1,1,1,1,1,1,1,1,1,1,1,0,1,0,0,1,0,0,1,1,0,0,1,0,0,1,1,1]).wp prog (Exit.inBlock 7 (Exit.then ((sub (Ak f45) [1,1,1,1,1,1,1,1,1,1,1,1,1,1,1,1,0,1,0,0,1,0,0,1,1,0,0,1,1]).wp prog (Exit.then (fun a w=>∃ M ρ v xs L x18 x20 x21 x22,Eng.Good (fr.re M 12192 v) M ρ (enc Wh (xs,L,x1,x2,x14,x17,x18,x19,x20,x21,x22,())) a w∧fr.Base M∧Laid M x0 L D v∧Cj F (inI x19 (List.length x0)) x2 x14 x17 x19 n x22 x21 x20 x18 xs=some r) Q))
    (Exit.then (fun a w=>∃ M ρ v xs L x18 x20 x21 x22,Eng.Good (fr.re M 12192 v) M ρ (enc Wh (xs,L,x1,x2,x14,x17,x18,x19,x20,x21,x22,())) a w∧fr.Base M∧Laid M x0 L D v∧Cj F (inI x19 (List.length x0)) x2 x14 x17 x19 n x22 x21 x20 x18 xs=some r) Q))) a8 w8:=by
  intro M8 ρ8 a8 w8 g8 hB8 hL8
  refine Aka F hn g8 hB8 hL8 h9 (n:=n) (r:=r) h (fun M' ρ' L' v' ys a' w' hr g' hB'=>hQ2 M' ρ' L' v' ys a' w' hr g' hB') (fun M' ρ' L' v' a' w' g' hB' hL' h'=>?_)
  refine Hd (fr:=fr.re M' 12192 v') (cx:=K2 F) (Bz _ rfl) (Wg F) hn (by kernel_rfl) (A9A F _ _ _ _ _ _ _ _ _ _ _) g' fun M9 ρ9 a9 w9 g9=>?_
  have g10:=g9.recast (fr2:=fr.re M9 12192 v') rfl rfl rfl rfl (Frm.Base.re fr M9) g9.env g9.objs fun id b h1 h2=>⟨h1,h2⟩
  exact ⟨M9,ρ9,v',_,L',_,_,_,_,g10,hB'.trans g9.base,hL'.mono g9.old,h'⟩
 refine Tv (t:=172) (b:=ltI 0 x22) g6 (by kernel_rfl) rfl (fun hb=>?_) (fun hb=>Tu (by kernel_rfl) ?_)
 ·refine Hd (fr:=fr.re M6 12192 v) (cx:=K2 F) (Bz _ rfl) (Wg F) hn (by kernel_rfl) (A9v F _ _ _ _ _ _ _ _ _ _ _ _) g7 fun M8 ρ8 a8 w8 g8=>?_
  have g9:=g8.recast (fr2:=fr.re M8 12192 v) rfl rfl rfl rfl (Frm.Base.re fr M8) g8.env g8.objs fun id b h1 h2=>⟨h1,h2⟩
  rw [hb] at fin
  exact fin g9 (hB6.trans g8.base) (hL6.mono g8.old)
 ·rw [hb] at fin
  exact fin g7 hB6 hL6
theorem Aho{Q:Exit→Go.Act→Go.World→Prop}(F:Nat)(hn:((0,209):Nat×Nat)=fr.n){x0:List eNT.den}{x14 x17:List Int}{x1 x2:Int}{r:Bool×Bool×List (List Int)}
  (hQ1:∀ (M':Mem) (ρ':Nat→Eng.Place) (a':Go.Act) (w':Go.World),r.1=true→Eng.Good fr M' ρ' (enc Alf (x1,D4 x0 r.2.2,r.2.1,())) a' w'→Q (.exit 4) a' w')
  (hQ2:∀ (M':Mem) (ρ':Nat→Eng.Place) (a':Go.Act) (w':Go.World),r.1=false→Eng.Good fr M' ρ' (enc Ad4 ([],0,10,())) a' w'→Q .ret a' w')
  {n:Nat} {x20:Int} {x18:Bool} (g:Eng.Good fr M ρ (enc AxN (x1,x2,x0,x14,x17,x18,0,x20,())) a w) (h:Db F (List.length x0) x2 x14 x17 n 0 x20 x18 []=some r) :
  (Code.loop (sub (Ak f45) [1,1,1,1,1,1,1,1,1,1,1,1,1,1,1,1,0,1,0,0])).wp prog Q a w:=by
 refine Tr (J:=fun n a w=>∃ M ρ L x18 x19 x20 D,Eng.Good (fr.re M 12192 Yh) M ρ (enc Ak8 (L,x1,x2,x14,x17,x18,x19,x20,())) a w∧fr.Base M∧Laid M x0 L D Yh∧x19=(D.length:Int)∧Db F (List.length x0) x2 x14 x17 n x19 x20 x18 D=some r) ?_ ?_ (n:=n) ⟨M,ρ,Qm x0,x18,0,x20,[],?_,g.base,Laid.start M x0,rfl,h⟩
 ·rintro a w ⟨M,ρ,L,x18,x19,x20,D,_,_,_,_,h⟩
  cases h
 rotate_left
 ·refine g.tell ρ rfl rfl rfl rfl (Frm.Base.re fr M) ⟨?_,g.env 1,g.env 2,g.env 14,g.env 17,g.env 18,g.env 19,g.env 20,trivial⟩ ⟨Alc (g.objs 12),trivial⟩ ⟨fun b hb=>⟨(fun h=>by cases h),hb⟩,trivial⟩
  obtain ⟨e,tid,l,ho,hv⟩:=g.env 12
  cases ho
  exact ⟨eVT,56,Qm x0,rfl,by rw [show(Qm x0).length=x0.length by simp [Qm]]; exact hv⟩
 clear g h
 rintro n a w ⟨M,ρ,L,x18,x19,x20,D,g,hB,hL,h14,h⟩
 rw [Db] at h
 refine En (by kernel_rfl) (En (by kernel_rfl) (Hd (fr:=fr.re M 12192 Yh) (cx:=Ak7 F) (Sc _ rfl) (AzY F) hn (by kernel_rfl) (A9n F _ _ _ _ _ _ _ _) g fun M1 ρ1 a1 w1 g1=>?_))
 have hB1:=hB.trans g1.base
 have hL1:=hL.mono g1.old
 have hlen:Az L=(List.length x0:Int):=by unfold Az; rw [hL.1]
 refine Tv (t:=148) (b:=ltI x19 (Az L)) g1 (by kernel_rfl) rfl (fun hb=>Tu (by kernel_rfl) ?_) (fun hb=>Aeo (i:=4) (by kernel_rfl) ?_)
 rotate_left
 ·rw [hlen] at hb
  rw [hb] at h
  simp only [cond_false,Option.some.injEq] at h
  subst h
  refine hQ1 M1 ρ1 a1 w1 rfl (g1.tell ρ1 rfl rfl rfl rfl hB1 ⟨g1.env 1,?_,g1.env 18,trivial⟩ ⟨AqG hL1 (g1.objs 12),trivial⟩ ⟨fun b hb=>⟨(fun h=>by cases h),hb⟩,trivial⟩)
  obtain ⟨e,tid,l,ho,hv⟩:=g1.env 12
  cases ho
  exact ⟨eST,56,D4 x0 D,rfl,by rw [Po,← hL1.1]; exact hv⟩
 rw [hlen] at hb
 rw [hb] at h
 simp only [cond_true] at h
 obtain ⟨r1,hr1,h⟩:=Qx h
 have g2:Eng.Good (fr.re M1 12192 Yh) M1 ρ1 (enc Ak8 (L,x1,x2,x14,x17,x18,x19,x20,())) a1 w1 :=
  g1.tell ρ1 rfl rfl rfl rfl (Frm.Base.re fr M1) ⟨g1.env 12,g1.env 1,g1.env 2,g1.env 14,g1.env 17,g1.env 18,g1.env 19,g1.env 20,trivial⟩ ⟨g1.objs 12,trivial⟩ ⟨fun b hb=>⟨(fun h=>by cases h),hb⟩,trivial⟩
 clear g g1 hB hL
 refine En (by kernel_rfl) (Uv (i:=5) (by kernel_rfl) ?_)
 refine En (by kernel_rfl) (Hd (fr:=fr.re M1 12192 Yh) (cx:=K2 F) (Bz _ rfl) (Wg F) hn (by kernel_rfl) (A9o F _ _ _ _ _ _ _ _) g2 fun M3 ρ3 a3 w3 g3=>?_)
 refine En (by kernel_rfl) (Hd (fr:=fr.re M1 12192 Yh) (cx:=K2 F) (Bz _ rfl) (Wg F) hn (by kernel_rfl) (A9p F _ _ _ _ _ _ _ _ _) g3 fun M5 ρ5 a5 w5 g5=>?_)
 have hB5:=hB1.trans g5.base
 have hL5:=hL1.mono g5.old
 have g6:Eng.Good (fr.re M5 12192 Yh) M5 (Place.upd ρ5 12192 .no) (enc Wh ([],L,x1,x2,x14,x17,x18,x19,x20,0,0,())) a5 w5:=by
  refine g5.tell _ rfl rfl rfl rfl (Frm.Base.re fr M5) ⟨⟨.int .i64,3,[],rfl,by rw [W6 (by omega)]; rfl⟩,?_,g5.env 1,g5.env 2,g5.env 14,g5.env 17,g5.env 18,g5.env 19,g5.env 20,g5.env 21,g5.env 22,trivial⟩ ⟨rfl,g5.objs 12,trivial⟩ ⟨(fun b hb=>by cases hb),fun b hb=>⟨(fun h=>by cases h),hb⟩,trivial⟩
  obtain ⟨e,tid,l,ho,hv⟩:=g5.env 12
  cases ho
  exact ⟨eVT,56,L,rfl,hv⟩
 clear g2 g3 g5
 refine Uv (i:=6) (by kernel_rfl) (Ahn F hn h14 (r:=r1) (fun M7 ρ7 L7 v7 y z a7 w7 hr g7 hB7 hL7=>?_) (fun M7 ρ7 L7 v7 ys a7 w7 hr g7 hB7=>?_) g6 hB5 hL5 hr1)
 ·rw [hr] at h
  simp only [cond_true] at h
  cases he:eqI (Av .i64 x19 1) (Az D+1) <;> rw [he] at h <;> simp only [cond_true,cond_false,reduceCtorEq] at h
  have he:Av .i64 x19 1=(D.length:Int)+1:=of_decide_eq_true he
  have hv7:v7=(ρ7 12192).slice r1.2.2.2.length:=by
   obtain ⟨e,tid,l,ho,hv⟩:=g7.env 12192
   cases ho
   rw [← hv,W6 (by omega)]
  obtain ⟨M8,hM8,g8,hs8⟩:=Yi g7 (i:=12192) (e:=.int .i64) (tid:=3) (l:=r1.2.2.2) rfl hv7
  have g9:Eng.Good (fr.re M8 12192 Yh) M8 ρ7 (enc Ak8 (L7,x1,x2,x14,x17,r1.2.2.1,x19,r1.2.1,())) a7 w7:=by
   refine g8.tell ρ7 rfl rfl rfl rfl (Frm.Base.re fr M8) ⟨?_,g8.env 1,g8.env 2,g8.env 14,g8.env 17,g8.env 18,g8.env 19,g8.env 20,trivial⟩ ⟨g8.objs 12,trivial⟩ ⟨fun b hb=>⟨(fun h=>by cases h),hb⟩,trivial⟩
   obtain ⟨e,tid,l,ho,hv⟩:=g8.env 12
   cases ho
   exact ⟨eVT,56,L7,rfl,hv⟩
  refine Hd (fr:=fr.re M8 12192 Yh) (cx:=K2 F) (Bz _ rfl) (Wg F) hn (by kernel_rfl) (A9B F _ _ _ _ _ _ _ _) g9 fun M10 ρ10 a10 w10 g10=>?_
  have g11:=g10.recast (fr2:=fr.re M10 12192 Yh) rfl rfl rfl rfl (Frm.Base.re fr M10) g10.env g10.objs fun id b h1 h2=>⟨h1,h2⟩
  exact ⟨M10,ρ10,L7,r1.2.2.1,_,r1.2.1,D++[r1.2.2.2],g11,(hB7.trans g8.base).trans g10.base,((hL7.mono hM8).close hs8).mono g10.old,by rw [he]; simp,h⟩
 ·rw [hr] at h
  simp only [cond_false,Option.some.injEq] at h
  subst h
  exact hQ2 M7 ρ7 a7 w7 rfl (g7.tell ρ7 rfl rfl rfl rfl hB7 ⟨g7.env 6,g7.env 7,g7.env 8,trivial⟩ trivial trivial)
end
theorem Akb{R:Type}(F:Nat)(fr:Frm)(hn:((0,209):Nat×Nat)=fr.n)(n:Nat):Qy (R:=R) prog fr (.loop (sub (Ak f45) [1,1,1,1,1,1,1,1,1,1,1,1,1,1,1,1,0,1,0,0])) AxN
  (fun x K=>E7 F (fun y1 y12 y18=>K (.exit 4) (enc Alf (y1,y12,y18,()))) (fun y6 y7 y8=>K .ret (enc Ad4 (y6,y7,y8,()))) n x.1 x.2.1 x.2.2.1 x.2.2.2.1 x.2.2.2.2.1 x.2.2.2.2.2.1 x.2.2.2.2.2.2.1 x.2.2.2.2.2.2.2.1):=by
 rintro ⟨x1,x2,x12,x14,x17,x18,x19,x20,⟨⟩⟩ K res h M ρ a w Q g hQ
 simp only [E7] at h
 cases h14:eqI x19 0 <;> rw [h14] at h <;> simp only [cond_true,cond_false,reduceCtorEq] at h
 have h14:x19=0:=of_decide_eq_true h14
 subst h14
 obtain ⟨r,hr,h⟩:=Qx h
 refine Aho F hn (r:=r) (fun M' ρ' a' w' h1 g'=>?_) (fun M' ρ' a' w' h1 g'=>?_) g hr
 ·rw [h1] at h
  exact hQ (.exit 4) M' ρ' _ a' w' g' h
 ·rw [h1] at h
  exact hQ .ret M' ρ' _ a' w' g' h
end Go.Proofs.YtdhfajmcakneiaaGreat
