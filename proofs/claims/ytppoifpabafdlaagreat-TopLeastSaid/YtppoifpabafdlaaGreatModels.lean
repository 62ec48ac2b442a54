/- The plain models of the functions. Written by program. -/
import Derived.Test.YtppoifpabafdlaaGreatEngD
set_option linter.unusedVariables false
set_option linter.unusedSimpArgs false
namespace Go.Proofs.YtppoifpabafdlaaGreat
open Go.Eng
theorem iP.{u}{c:Prop}{h:Decidable c}(hc:c){α:Sort u}{t e:α}:@ite α c h t e=t:=if_pos hc
theorem iN.{u}{c:Prop}{h:Decidable c}(hc:¬c){α:Sort u}{t e:α}:@ite α c h t e=e:=if_neg hc
theorem cT.{u}{α:Sort u}{a b:α}:cond true a b=a:=rfl
theorem cF.{u}{α:Sort u}{a b:α}:cond false a b=b:=rfl
theorem bS.{u,v}{α:Type u}{β:Type v}(a:α)(f:α→Option β):(some a).bind f=f a:=rfl
abbrev qL:=List Int
abbrev qW:=(Bool×((List Int)×Unit))
abbrev qR:=((Bool×((List Int)×Unit))×((Bool×((List Int)×Unit))×Unit))
abbrev qSM:=(Int×(Int×Unit))
abbrev qTP:=((List Int)×(Int×Unit))
def A06(F:Nat)(x0:qL)(x1:Int):Option (qL×Unit):=A0e 1 x0 x1
def A1O(F:Nat)(x0:qW):Option (Bool×Unit) :=
 bif not x0.1 then
 some (true,())
 else
 some (not (eqT (.arr 4 (.int .u64)) x0.2.1 [0,0,0,0]),())
def J1(F:Nat)(x0:qW):Option (qW×Unit) :=
 (A1O F x0).bind fun r1 =>
 bif not r1.1 then
 some ((false,([0,0,0,0],())),())
 else
 some (x0,())
def A4n(F:Nat)(x0:Int)(x1:Int):Option (Int×Int×Unit) :=
 some (D5 .u64 (D5 .u64 (A2H .u64 (A0q .u64 x0 32) (A0q .u64 x1 32)) (A0q .u64 (D5 .u64 (A2H .u64 (A0q .u64 x0 32) (A6I .u64 x1 4294967295)) (A0q .u64 (A2H .u64 (A6I .u64 x0 4294967295) (A6I .u64 x1 4294967295)) 32)) 32)) (A0q .u64 (D5 .u64 (A6I .u64 (D5 .u64 (A2H .u64 (A0q .u64 x0 32) (A6I .u64 x1 4294967295)) (A0q .u64 (A2H .u64 (A6I .u64 x0 4294967295) (A6I .u64 x1 4294967295)) 32)) 4294967295) (A2H .u64 (A6I .u64 x0 4294967295) (A0q .u64 x1 32))) 32),(A2H .u64 x0 x1,()))
def A53(F:Nat){R:Type}(k2:qL→qL→qL→Int→Int→qL→Int→Option R):Nat→qL→qL→qL→Int→Int→Int→qL→Int→qL→Int→Option R
 | 0,_,_,_,_,_,_,_,_,_,_=>none
 | n+1,x3,x4,x6,x7,x8,x9,x16,x17,x21,x22 =>
 bif ltI x22 4 then
 bif inI x22 4 then
 (A4n F x8 (B9 0 x21 x22)).bind fun r5 =>
 bif inI (D5 .i64 x7 x22) 8 then
 (A0m F (B9 0 x6 (D5 .i64 x7 x22)) r5.2.1 0).bind fun r8 =>
 (A0m F r8.1 x9 0).bind fun r10 =>
 bif inI (D5 .i64 x7 x22) 8 then
 A53 F k2 n x3 x4 (T2 x6 (D5 .i64 x7 x22) r10.1) x7 x8 (D5 .u64 (D5 .u64 r5.1 r8.2.1) r10.2.1) x16 x17 x21 (D5 .i64 x22 1)
 else
 none
 else
 none
 else
 none
 else
 k2 x3 x4 x6 x7 x9 x16 x17
def A54(F:Nat){R:Type}(k0:qL→qL→Option R):Nat→qL→qL→qL→qL→Int→Option R
 | 0,_,_,_,_,_=>none
 | n+1,x3,x4,x6,x16,x17 =>
 bif ltI x17 4 then
 bif inI x17 4 then
 A53 F (fun z15 z16 z17 z18 z19 z20 z21 =>
 bif inI (D5 .i64 z18 4) 8 then
 A54 F k0 n z15 z16 (T2 z17 (D5 .i64 z18 4) z19) z20 (D5 .i64 z21 1)
 else
 none) F x3 x4 x6 x17 (B9 0 x16 x17) 0 x16 x17 x3 0
 else
 none
 else
 k0 x4 x6
def B6I(F:Nat)(x0:qL)(x1:qL):Option (qL×Bool×Unit) :=
 A54 F (fun z25 z26 =>
 some ((((List.take 0 z25)++(List.take 4 (List.drop 0 z26)))++(List.drop 4 z25)),(eqT (.arr 4 (.int .u64)) (List.take 4 (List.drop 4 z26)) [0,0,0,0],()))) F x1 [0,0,0,0] [0,0,0,0,0,0,0,0] x0 0
def T8(F:Nat)(x0:Bool)(x1:qL):Option (qW×Unit) :=
 (J1 F (x0,(x1,()))).bind fun r1 =>
 some (r1.1,())
def B6J(F:Nat)(x0:qW)(x1:qW):Option (qW×Bool×Unit) :=
 (J1 F x0).bind fun r1 =>
 (J1 F x1).bind fun r2 =>
 (B6I F r1.1.2.1 r2.1.2.1).bind fun r3 =>
 bif not r3.2.1 then
 some ((false,([0,0,0,0],())),(false,()))
 else
 (T8 F (not (eqT .bool r1.1.1 r2.1.1)) r3.1).bind fun r6 =>
 some (r6.1,(true,()))
def A0W(F:Nat){R:Type}(k0:qL→Int→Option R):Nat→qL→qL→qL→Int→Int→Option R
 | 0,_,_,_,_,_=>none
 | n+1,x2,x3,x4,x5,x7 =>
 bif ltI x7 4 then
 bif inI x7 4 then
 bif inI x7 4 then
 (A0m F (B9 0 x2 x7) (B9 0 x3 x7) x5).bind fun r4 =>
 bif inI x7 4 then
 A0W F k0 n x2 x3 (T2 x4 x7 r4.1) r4.2.1 (D5 .i64 x7 1)
 else
 none
 else
 none
 else
 none
 else
 k0 x4 x5
def A73(F:Nat)(x0:qL)(x1:qL):Option (qL×Int×Unit) :=
 A0W F (fun z7 z8 =>
 some (z7,(z8,()))) F x0 x1 [0,0,0,0] 0 0
def A07(F:Nat)(x0:Int):Option (Bool×Unit) :=
 some (not (eqI x0 x0),())
def I1(F:Nat)(x0:Int)(x1:Int):Option (Int×Unit) :=
 (A07 F x0).bind fun r1 =>
 (A07 F x1).bind fun r2 =>
 bif r1.1 then
 bif r2.1 then
 some (0,())
 else
 some ((-1),())
 else
 bif r2.1 then
 some (1,())
 else
 bif ltI x0 x1 then
 some ((-1),())
 else
 bif ltI x1 x0 then
 some (1,())
 else
 some (0,())
def P2(F:Nat){R:Type}(k0:Int→Option R)(kret:Int→Option R):Nat→Int→qL→Int→Int→Option R
 | 0,_,_,_,_=>none
 | n+1,x3,x6,x7,x8 =>
 bif ltI x8 x7 then
 bif inI x8 (List.length x6) then
 bif not (eqI (B9 0 x6 x8) x3) then
 kret (B9 0 x6 x8)
 else
 P2 F k0 kret n x3 x6 x7 (D5 .i64 x8 1)
 else
 none
 else
 k0 x3
def A4o(F:Nat)(x0:qL):Option (Int×Unit) :=
 P2 F (fun z6 =>
 some (z6,())) (fun z7 =>
 some (z7,())) F 0 x0 (C7 x0) 0
def X5(F:Nat)(x0:qL)(x1:qL):Option (Int×Unit) :=
 (I1 F (B9 0 x0 3) (B9 0 x1 3)).bind fun r3 =>
 (I1 F (B9 0 x0 2) (B9 0 x1 2)).bind fun r6 =>
 (I1 F (B9 0 x0 1) (B9 0 x1 1)).bind fun r9 =>
 (I1 F (B9 0 x0 0) (B9 0 x1 0)).bind fun r12 =>
 (A4o F [r3.1,r6.1,r9.1,r12.1]).bind fun r13 =>
 some (r13.1,())
def X6(F:Nat){R:Type}(k0:qL→Option R):Nat→qL→qL→qL→Int→Int→Option R
 | 0,_,_,_,_,_=>none
 | n+1,x2,x3,x4,x5,x7 =>
 bif ltI x7 4 then
 bif inI x7 4 then
 bif inI x7 4 then
 (A1N F (B9 0 x2 x7) (B9 0 x3 x7) x5).bind fun r4 =>
 bif inI x7 4 then
 X6 F k0 n x2 x3 (T2 x4 x7 r4.1) r4.2.1 (D5 .i64 x7 1)
 else
 none
 else
 none
 else
 none
 else
 k0 x4
def A38(F:Nat)(x0:qL)(x1:qL):Option (qL×Unit) :=
 X6 F (fun z7 =>
 some (z7,())) F x0 x1 [0,0,0,0] 0 0
def A74(F:Nat)(x0:qW)(x1:qW):Option (qW×Bool×Unit) :=
 (J1 F x0).bind fun r1 =>
 (J1 F x1).bind fun r2 =>
 bif eqT .bool r1.1.1 r2.1.1 then
 (A73 F r1.1.2.1 r2.1.2.1).bind fun r4 =>
 bif not (eqI r4.2.1 0) then
 some ((false,([0,0,0,0],())),(false,()))
 else
 (T8 F r1.1.1 r4.1).bind fun r6 =>
 some (r6.1,(true,()))
 else
 (X5 F r1.1.2.1 r2.1.2.1).bind fun r7 =>
 bif leI 0 r7.1 then
 (A38 F r1.1.2.1 r2.1.2.1).bind fun r9 =>
 (T8 F r1.1.1 r9.1).bind fun r10 =>
 some (r10.1,(true,()))
 else
 (A38 F r2.1.2.1 r1.1.2.1).bind fun r11 =>
 (T8 F r2.1.1 r11.1).bind fun r12 =>
 some (r12.1,(true,()))
def A2E(F:Nat)(x0:qW):Option (Int×Unit) :=
 (J1 F x0).bind fun r1 =>
 bif r1.1.1 then
 some ((-1),())
 else
 bif eqT (.arr 4 (.int .u64)) r1.1.2.1 [0,0,0,0] then
 some (0,())
 else
 some (1,())
def L5(F:Nat){R:Type}(k0:Option R)(kret:Int→Option R):Nat→qL→Int→Option R
 | 0,_,_=>none
 | n+1,x1,x3 =>
 bif leI 0 x3 then
 bif inI x3 4 then
 bif not (eqI (B9 0 x1 x3) 0) then
 bif inI x3 4 then
 (O4 F (B9 0 x1 x3)).bind fun r6 =>
 kret (D5 .i64 (A2H .i64 64 x3) r6.1)
 else
 none
 else
 L5 F k0 kret n x1 (I5 .i64 x3 1)
 else
 none
 else
 k0
def A1W(F:Nat)(x0:qL):Option (Int×Unit) :=
 L5 F (
 some (0,())) (fun z9 =>
 some (z9,())) F x0 3
def A2h(F:Nat){R:Type}(kn:qL→qL→Int→Int→Int→Option R)(x2:qL)(x4:qL)(x5:Int)(x6:Int)(x7:Int)(x32:Bool):Option R :=
 bif x32 then
 bif inI x7 4 then
 bif inI (I5 .i64 (I5 .i64 x7 x5) 1) 4 then
 bif ltI (I5 .i64 64 x6) 0 then
 none
 else
 bif inI x7 4 then
 kn x2 (T2 x4 x7 (orI .u64 (B9 0 x4 x7) (A0q .u64 (B9 0 x2 (I5 .i64 (I5 .i64 x7 x5) 1)) (I5 .i64 64 x6)))) x5 x6 x7
 else
 none
 else
 none
 else
 none
 else
 kn x2 x4 x5 x6 x7
def I6(F:Nat){R:Type}(k0:qL→Option R):Nat→qL→qL→Int→Int→Int→Option R
 | 0,_,_,_,_,_=>none
 | n+1,x2,x4,x5,x6,x7 =>
 bif ltI x7 4 then
 bif inI (I5 .i64 x7 x5) 4 then
 bif ltI x6 0 then
 none
 else
 bif inI x7 4 then
 bif ltI 0 x6 then
 A2h F (fun z18 z19 z20 z21 z22 =>
 I6 F k0 n z18 z19 z20 z21 (D5 .i64 z22 1)) x2 (T2 x4 x7 (A2v .u64 (B9 0 x2 (I5 .i64 x7 x5)) x6)) x5 x6 x7 (ltI x5 x7)
 else
 A2h F (fun z24 z25 z26 z27 z28 =>
 I6 F k0 n z24 z25 z26 z27 (D5 .i64 z28 1)) x2 (T2 x4 x7 (A2v .u64 (B9 0 x2 (I5 .i64 x7 x5)) x6)) x5 x6 x7 false
 else
 none
 else
 none
 else
 k0 x4
def A5w(F:Nat)(x0:qL)(x1:Int):Option (qL×Unit) :=
 I6 F (fun z30 =>
 some (z30,())) F x0 [0,0,0,0] (A4L .i64 x1 64) (A3j x1 64) (A4L .i64 x1 64)
def K1(F:Nat){R:Type}(k0:qL→Option R):Nat→qL→qL→Int→Option R
 | 0,_,_,_=>none
 | n+1,x1,x2,x4 =>
 bif ltI x4 4 then
 bif inI x4 4 then
 bif inI x4 4 then
 bif ltI x4 3 then
 bif inI x4 4 then
 bif inI (D5 .i64 x4 1) 4 then
 bif inI x4 4 then
 K1 F k0 n x1 (T2 (T2 x2 x4 (A0q .u64 (B9 0 x1 x4) 1)) x4 (orI .u64 (B9 0 (T2 x2 x4 (A0q .u64 (B9 0 x1 x4) 1)) x4) (A2v .u64 (B9 0 x1 (D5 .i64 x4 1)) 63))) (D5 .i64 x4 1)
 else
 none
 else
 none
 else
 none
 else
 K1 F k0 n x1 (T2 x2 x4 (A0q .u64 (B9 0 x1 x4) 1)) (D5 .i64 x4 1)
 else
 none
 else
 none
 else
 k0 x2
def A1X(F:Nat)(x0:qL):Option (qL×Unit) :=
 K1 F (fun z14 =>
 some (z14,())) F x0 [0,0,0,0] 0
def A0f(F:Nat){R:Type}(k0:qL→qL→qL→Option R):Nat→qL→qL→qL→Int→qL→Option R
 | 0,_,_,_,_,_=>none
 | n+1,x2,x4,x5,x6,x7 =>
 bif leI 0 x6 then
 (X5 F x2 x7).bind fun r7 =>
 bif leI 0 r7.1 then
 (A38 F x2 x7).bind fun r9 =>
 bif inI (A4L .i64 x6 64) 4 then
 bif ltI (A3j x6 64) 0 then
 none
 else
 bif inI (A4L .i64 x6 64) 4 then
 (A1X F x7).bind fun r16 =>
 A0f F k0 n r9.1 (T2 x4 (A4L .i64 x6 64) (orI .u64 (B9 0 x4 (A4L .i64 x6 64)) (A2v .u64 1 (A3j x6 64)))) x5 (I5 .i64 x6 1) r16.1
 else
 none
 else
 none
 else
 (A1X F x7).bind fun r18 =>
 A0f F k0 n x2 x4 x5 (I5 .i64 x6 1) r18.1
 else
 k0 x2 x4 x5
def A75(F:Nat)(x0:qL)(x1:qL):Option (qL×qL×Unit) :=
 (A1W F x0).bind fun r1 =>
 (A1W F x1).bind fun r2 =>
 let x12v3:=I5 .i64 r1.1 r2.1
 bif ltI x12v3 0 then
 some ([0,0,0,0],(x0,()))
 else
 (A5w F x1 x12v3).bind fun r5 =>
 A0f F (fun z20 z21 z22 =>
 some (z21,(z20,()))) F x0 [0,0,0,0] [0,0,0,0] x12v3 r5.1
def Z3(F:Nat){R:Type}(kn:qW→qW→qW→qW→qL→qL→Option R)(x2:qW)(x3:qW)(x4:qW)(x5:qW)(x7:qL)(x8:qL)(x32:Bool):Option R :=
 bif x32 then
 (A73 F x7 [1,0,0,0]).bind fun r7 =>
 (A38 F x3.2.1 x8).bind fun r8 =>
 kn x2 x3 x4 x5 r7.1 r8.1
 else
 kn x2 x3 x4 x5 x7 x8
def V6(F:Nat){R:Type}(kret:qW→qW→Bool→Option R)(x2:qW)(x3:qW)(x4:qW)(x5:qW)(x7:qL)(x8:qL):Option R :=
 (T8 F (not (eqT .bool x2.1 x3.1)) x7).bind fun r16 =>
 (T8 F false x8).bind fun r17 =>
 kret r16.1 r17.1 true
def A1Y(F:Nat)(x0:qW)(x1:qW):Option (qW×qW×Bool×Unit) :=
 (J1 F x0).bind fun r1 =>
 (J1 F x1).bind fun r2 =>
 (A2E F r2.1).bind fun r3 =>
 bif eqI r3.1 0 then
 some ((false,([0,0,0,0],())),((false,([0,0,0,0],())),(false,())))
 else
 (A75 F r1.1.2.1 r2.1.2.1).bind fun r5 =>
 bif r1.1.1 then
 Z3 F (fun z9 z10 z11 z12 z13 z14 =>
 V6 F (fun z18 z19 z20 =>
 some (z18,(z19,(z20,())))) z9 z10 z11 z12 z13 z14) r1.1 r2.1 (false,([0,0,0,0],())) (false,([0,0,0,0],())) r5.1 r5.2.1 (not (eqT (.arr 4 (.int .u64)) r5.2.1 [0,0,0,0]))
 else
 Z3 F (fun z21 z22 z23 z24 z25 z26 =>
 V6 F (fun z27 z28 z29 =>
 some (z27,(z28,(z29,())))) z21 z22 z23 z24 z25 z26) r1.1 r2.1 (false,([0,0,0,0],())) (false,([0,0,0,0],())) r5.1 r5.2.1 false
def A1Z(F:Nat){R:Type}(kn:qW→qW→Option R)(kret:Int→Option R)(x2:qW)(x3:qW)(x9:Bool):Option R :=
 bif x9 then
 (X5 F x3.2.1 x2.2.1).bind fun r3 =>
 kret r3.1
 else
 bif x2.1 then
 kret (-1)
 else
 bif x3.1 then
 kret 1
 else
 kn x2 x3
def A20(F:Nat){R:Type}(kret:Int→Option R)(x2:qW)(x3:qW):Option R :=
 (X5 F x2.2.1 x3.2.1).bind fun r6 =>
 kret r6.1
def A6z(F:Nat)(x0:qW)(x1:qW):Option (Int×Unit) :=
 (J1 F x0).bind fun r1 =>
 (J1 F x1).bind fun r2 =>
 bif r1.1.1 then
 A1Z F (fun z4 z5 =>
 A20 F (fun z7 =>
 some (z7,())) z4 z5) (fun z8 =>
 some (z8,())) r1.1 r2.1 r2.1.1
 else
 A1Z F (fun z9 z10 =>
 A20 F (fun z11 =>
 some (z11,())) z9 z10) (fun z12 =>
 some (z12,())) r1.1 r2.1 false
def T9(F:Nat){R:Type}(kn:Int→Option R)(kret:Int→Bool→Option R)(x1:qW)(x4:Int)(x10:Bool):Option R :=
 bif x10 then
 kret 0 false
 else
 bif x1.1 then
 kret (IntKind.wrap .i64 (I5 .u64 0 x4)) true
 else
 kn x4
def A4p(F:Nat)(x0:qW):Option (Int×Bool×Unit) :=
 (J1 F x0).bind fun r1 =>
 let x9v2:=B9 0 r1.1.2.1 0
 bif not (eqT (.arr 4 (.int .u64)) r1.1.2.1 [x9v2,0,0,0]) then
 T9 F (fun z6 =>
 some (IntKind.wrap .i64 z6,(true,()))) (fun z8 z9 =>
 some (z8,(z9,()))) r1.1 x9v2 true
 else
 bif ltI 9223372036854775808 x9v2 then
 T9 F (fun z11 =>
 some (IntKind.wrap .i64 z11,(true,()))) (fun z13 z14 =>
 some (z13,(z14,()))) r1.1 x9v2 true
 else
 bif eqI x9v2 9223372036854775808 then
 T9 F (fun z17 =>
 some (IntKind.wrap .i64 z17,(true,()))) (fun z19 z20 =>
 some (z19,(z20,()))) r1.1 x9v2 (not r1.1.1)
 else
 T9 F (fun z21 =>
 some (IntKind.wrap .i64 z21,(true,()))) (fun z23 z24 =>
 some (z23,(z24,()))) r1.1 x9v2 false
def A55(F:Nat)(x0:qW):Option (Bool×Unit) :=
 bif eqI (B9 0 x0.2.1 3) 0 then
 bif eqI (B9 0 x0.2.1 2) 0 then
 some (eqI (A0q .u64 (B9 0 x0.2.1 1) 63) 0,())
 else
 some (false,())
 else
 some (false,())
def A1v(F:Nat){R:Type}(k0:qW→qW→Option R):Nat→qW→qW→qW→Option R
 | 0,_,_,_=>none
 | n+1,x2,x3,x4 =>
 (A2E F x3).bind fun r1 =>
 bif not (eqI r1.1 0) then
 (A1Y F x2 x3).bind fun r3 =>
 A1v F k0 n x3 r3.2.1 x4
 else
 k0 x2 x4
def A5x(F:Nat)(x0:qW)(x1:qW):Option (qW×Unit) :=
 A1v F (fun z4 z5 =>
 some (z4,())) F (false,x0.2) (false,x1.2) (false,([0,0,0,0],()))
def A21(F:Nat)(x0:Int):Option (qW×Unit) :=
 bif ltI x0 0 then
 some ((true,([I5 .u64 0 (IntKind.wrap .u64 x0),0,0,0],())),())
 else
 some ((false,([IntKind.wrap .u64 x0,0,0,0],())),())
def A82(F:Nat)(x0:qR):Option (Bool×Unit) :=
 (A1O F x0.1).bind fun r1 =>
 bif r1.1 then
 (A1O F x0.2.1).bind fun r2 =>
 bif r2.1 then
 (A2E F x0.2.1).bind fun r3 =>
 bif ltI 0 r3.1 then
 (A55 F x0.1).bind fun r5 =>
 bif r5.1 then
 (A55 F x0.2.1).bind fun r6 =>
 bif r6.1 then
 (A5x F x0.1 x0.2.1).bind fun r7 =>
 (A21 F 1).bind fun r8 =>
 some (eqT (.pair .bool (.pair (.arr 4 (.int .u64)) .unit)) r7.1 r8.1,())
 else
 some (false,())
 else
 some (false,())
 else
 some (false,())
 else
 some (false,())
 else
 some (false,())
def B6K(F:Nat)(x0:Int):Option (qR×Unit) :=
 (A21 F x0).bind fun r1 =>
 (A21 F 1).bind fun r2 =>
 some ((r1.1,(r2.1,())),())
def A56(F:Nat)(x0:qR):Option (qR×Unit) :=
 (A82 F x0).bind fun r1 =>
 bif not r1.1 then
 (B6K F 0).bind fun r3 =>
 some (r3.1,())
 else
 some (x0,())
def A39(F:Nat)(x0:qW)(x1:qW):Option (qW×Unit) :=
 (B6J F x0 x1).bind fun r1 =>
 some (r1.1,())
def B0T(F:Nat)(x0:qR)(x1:qR):Option (Int×Unit) :=
 (A56 F x0).bind fun r1 =>
 (A56 F x1).bind fun r2 =>
 (A39 F r1.1.1 r2.1.2.1).bind fun r3 =>
 (A39 F r2.1.1 r1.1.2.1).bind fun r4 =>
 (A6z F r3.1 r4.1).bind fun r5 =>
 some (r5.1,())
def A22(F:Nat){R:Type}(k2:qL→qL→Int→Int→Int→Option R):Nat→qL→qL→Int→Int→Int→Int→Option R
 | 0,_,_,_,_,_,_=>none
 | n+1,x0,x1,x2,x3,x5,x10 =>
 bif ltI x10 8 then
 A22 F k2 n x0 x1 x2 (B2d .u32 (A0q .u32 x3 1) (A2H .u32 2197175160 (A6I .u32 x3 1))) x5 (D5 .i64 x10 1)
 else
 k2 x0 x1 x2 x3 x5
def A23(F:Nat){R:Type}(k0:qL→qL→Option R):Nat→qL→qL→Int→Option R
 | 0,_,_,_=>none
 | n+1,x0,x1,x5 =>
 bif ltI x5 256 then
 A22 F (fun z9 z10 z11 z12 z13 =>
 bif inI z11 256 then
 A23 F k0 n z9 (T2 z10 z11 z12) (D5 .i64 z13 1)
 else
 none) F x0 x1 x5 (IntKind.wrap .u32 x5) x5 0
 else
 k0 x0 x1
def A0n(F:Nat) :Option (qL×Unit) :=
 A23 F (fun z16 z17 =>
 some (z17,())) F (List.replicate 256 0) (List.replicate 256 0) 0
def Y0(F:Nat)(x0:Int):Option (Int×Unit) :=
 some (B2d .u64 (A2v .u64 (IntKind.wrap .u64 x0) 1) (IntKind.wrap .u64 (A0q .i64 x0 63)),())
def S5(F:Nat)(x0:Int):Option (Int×Unit) :=
 some (B2d .i64 (IntKind.wrap .i64 (A0q .u64 x0 1)) (I5 .i64 0 (IntKind.wrap .i64 (A6I .u64 x0 1))),())
def G7(F:Nat)(x0:Int)(x1:Int):Option (Int×Unit) :=
 some (I5 .u64 (IntKind.wrap .u64 (B2b x0 x1)) (IntKind.wrap .u64 (A3u x0 x1)),())
def Y1(F:Nat)(x0:Int)(x1:Int):Option (Int×Unit) :=
 some (IntKind.wrap .i64 (D5 .u64 (IntKind.wrap .u64 x0) x1),())
def B0U(F:Nat)(x0:qL):Option (qTP×Unit) :=
 some ((x0,(0,())),())
def A4q(F:Nat)(x0:Int)(x1:Int):Option (Int×Unit) :=
 bif ltI x1 1 then
 some (0,())
 else
 bif eqI x1 0 then
 none
 else
 bif ltI (A3j x0 x1) 0 then
 some (D5 .i64 (A3j x0 x1) x1,())
 else
 some (A3j x0 x1,())
def B6(F:Nat)(x0:qTP)(x1:Int):Option (qTP×Int×Unit) :=
 bif leI (C7 x0.1) x0.2.1 then
 some (x0,(0,()))
 else
 let x19v3:=D5 .i64 x0.2.1 1
 bif inI (I5 .i64 x19v3 1) (List.length x0.1) then
 (A4q F (B9 0 x0.1 (I5 .i64 x19v3 1)) x1).bind fun r6 =>
 some ((x0.1,(x19v3,x0.2.2)),(r6.1,()))
 else
 none
def L7(F:Nat){R:Type}(k0:qTP→Int→Option R):Nat→qTP→Int→Int→Option R
 | 0,_,_,_=>none
 | n+1,x0,x3,x4 =>
 bif ltI x4 4 then
 (B6 F x0 65536).bind fun r3 =>
 L7 F k0 n r3.1 (D5 .u64 (A2v .u64 x3 16) (IntKind.wrap .u64 r3.2.1)) (D5 .i64 x4 1)
 else
 k0 x0 x3
def Q0(F:Nat)(x0:qTP):Option (qTP×Int×Unit) :=
 L7 F (fun z7 z8 =>
 some (z7,(z8,()))) F x0 0 0
def P3(F:Nat)(x0:qTP):Option (qTP×Int×Unit) :=
 (B6 F x0 8).bind fun r1 =>
 bif eqI r1.2.1 0 then
 (Q0 F r1.1).bind fun r3 =>
 some (r3.1,(IntKind.wrap .i64 r3.2.1,()))
 else
 bif eqI r1.2.1 1 then
 (B6 F r1.1 4).bind fun r6 =>
 some (r6.1,(I5 .i64 9223372036854775807 r6.2.1,()))
 else
 bif eqI r1.2.1 2 then
 (B6 F r1.1 4).bind fun r9 =>
 some (r9.1,(D5 .i64 (-9223372036854775808) r9.2.1,()))
 else
 bif eqI r1.2.1 3 then
 (Q0 F r1.1).bind fun r12 =>
 (B6 F r12.1 64).bind fun r13 =>
 let x26v14:=IntKind.wrap .u64 r13.2.1
 bif ltI x26v14 0 then
 none
 else
 some (r13.1,(IntKind.wrap .i64 (A0q .u64 r12.2.1 x26v14),()))
 else
 (B6 F r1.1 2000).bind fun r17 =>
 some (r17.1,(I5 .i64 r17.2.1 1000,()))
def Z4(F:Nat)(x0:qTP)(x1:Int):Option (qTP×Bool×Unit) :=
 (B6 F x0 x1).bind fun r1 =>
 bif eqI x1 0 then
 none
 else
 some (r1.1,(eqI r1.2.1 (A3j 1 x1),()))
def E6(F:Nat){R:Type}(kn:qTP→qL→Int→Int→Int→Int→Option R)(kret:qTP→qL→Option R)(x0:qTP)(x5:qL)(x6:Int)(x7:Int)(x8:Int)(x9:Int)(x10:Int):Option R :=
 bif ltI (I5 .u64 9223372036854775807 (IntKind.wrap .u64 x7)) x10 then
 kret x0 x5
 else
 kn x0 x5 x6 (IntKind.wrap .i64 (D5 .u64 (IntKind.wrap .u64 x7) x10)) x8 x9
def C0(F:Nat){R:Type}(k0:qTP→qL→Option R)(kret:qTP→qL→Option R):Nat→qTP→qL→Int→Int→Int→Int→Option R
 | 0,_,_,_,_,_,_=>none
 | n+1,x0,x5,x6,x7,x8,x9 =>
 bif ltI 0 x9 then
 bif K3 ((List.length x5)+1) 8 then
 bif eqI x6 1 then
 (B6 F x0 9).bind fun r11 =>
 E6 F (fun z20 z21 z22 z23 z24 z25 =>
 C0 F k0 kret n z20 z21 z22 z23 z24 (I5 .i64 z25 1)) (fun z27 z28 =>
 kret z27 z28) r11.1 (x5++[x7]) x6 x7 x8 x9 (IntKind.wrap .u64 (D5 .i64 1 r11.2.1))
 else
 bif eqI x6 2 then
 (B6 F x0 3).bind fun r30 =>
 E6 F (fun z33 z34 z35 z36 z37 z38 =>
 C0 F k0 kret n z33 z34 z35 z36 z37 (I5 .i64 z38 1)) (fun z40 z41 =>
 kret z40 z41) r30.1 (x5++[x7]) x6 x7 x8 x9 (D5 .u64 x8 (IntKind.wrap .u64 r30.2.1))
 else
 bif eqI x6 3 then
 (Q0 F x0).bind fun r43 =>
 (B6 F r43.1 56).bind fun r44 =>
 let x52v45:=D5 .i64 4 r44.2.1
 bif ltI (IntKind.wrap .u64 x52v45) 0 then
 none
 else
 E6 F (fun z49 z50 z51 z52 z53 z54 =>
 C0 F k0 kret n z49 z50 z51 z52 z53 (I5 .i64 z54 1)) (fun z56 z57 =>
 kret z56 z57) r44.1 (x5++[x7]) x6 x7 x8 x9 (D5 .u64 1 (A0q .u64 r43.2.1 (IntKind.wrap .u64 x52v45)))
 else
 bif eqI x6 4 then
 (Z4 F x0 4).bind fun r59 =>
 bif r59.2.1 then
 (Q0 F r59.1).bind fun r60 =>
 (B6 F r60.1 8).bind fun r61 =>
 let x64v62:=D5 .i64 1 r61.2.1
 bif ltI (IntKind.wrap .u64 x64v62) 0 then
 none
 else
 E6 F (fun z66 z67 z68 z69 z70 z71 =>
 C0 F k0 kret n z66 z67 z68 z69 z70 (I5 .i64 z71 1)) (fun z73 z74 =>
 kret z73 z74) r61.1 (x5++[x7]) x6 x7 x8 x9 (D5 .u64 1 (A0q .u64 r60.2.1 (IntKind.wrap .u64 x64v62)))
 else
 E6 F (fun z75 z76 z77 z78 z79 z80 =>
 C0 F k0 kret n z75 z76 z77 z78 z79 (I5 .i64 z80 1)) (fun z82 z83 =>
 kret z82 z83) r59.1 (x5++[x7]) x6 x7 x8 x9 x8
 else
 E6 F (fun z84 z85 z86 z87 z88 z89 =>
 C0 F k0 kret n z84 z85 z86 z87 z88 (I5 .i64 z89 1)) (fun z91 z92 =>
 kret z91 z92) x0 (x5++[x7]) x6 x7 x8 x9 x8
 else
 none
 else
 k0 x0 x5
def A0z(F:Nat)(x0:qTP)(x1:Int):Option (qTP×qL×Unit) :=
 (B6 F x0 5).bind fun r1 =>
 (P3 F r1.1).bind fun r2 =>
 (B6 F r2.1 50).bind fun r3 =>
 (B6 F r3.1 (D5 .i64 x1 1)).bind fun r7 =>
 C0 F (fun z93 z94 =>
 some (z93,(z94,()))) (fun z95 z96 =>
 some (z95,(z96,()))) F r7.1 [] r1.2.1 r2.2.1 (IntKind.wrap .u64 (D5 .i64 1 r3.2.1)) r7.2.1
def A7(F:Nat){R:Type}(k0:qTP→(List qSM)→Option R):Nat→qTP→qL→(List qSM)→Int→Int→Int→Int→Option R
 | 0,_,_,_,_,_,_,_=>none
 | n+1,x0,x5,x6,x7,x8,x9,x10 =>
 bif ltI x10 (C7 x5) then
 bif eqI x7 1 then
 bif inI x10 (List.length x5) then
 bif K3 ((List.length x6)+1) 16 then
 A7 F k0 n x0 x5 (x6++[(B9 0 x5 x10,(D5 .i64 x8 (A2H .i64 x10 x9),()))]) x7 x8 x9 (D5 .i64 x10 1)
 else
 none
 else
 none
 else
 bif eqI x7 2 then
 (B6 F x0 7).bind fun r17 =>
 bif inI x10 (List.length x5) then
 bif K3 ((List.length x6)+1) 16 then
 A7 F k0 n r17.1 x5 (x6++[(B9 0 x5 x10,(D5 .i64 (D5 .i64 x8 (A2H .i64 x10 x9)) (I5 .i64 r17.2.1 3),()))]) x7 x8 x9 (D5 .i64 x10 1)
 else
 none
 else
 none
 else
 bif eqI x7 3 then
 (B6 F x0 9).bind fun r24 =>
 bif inI x10 (List.length x5) then
 bif K3 ((List.length x6)+1) 16 then
 A7 F k0 n r24.1 x5 (x6++[(B9 0 x5 x10,(D5 .i64 x8 (I5 .i64 r24.2.1 4),()))]) x7 x8 x9 (D5 .i64 x10 1)
 else
 none
 else
 none
 else
 bif eqI x7 4 then
 (P3 F x0).bind fun r31 =>
 bif inI x10 (List.length x5) then
 bif K3 ((List.length x6)+1) 16 then
 A7 F k0 n r31.1 x5 (x6++[(B9 0 x5 x10,(r31.2.1,()))]) x7 x8 x9 (D5 .i64 x10 1)
 else
 none
 else
 none
 else
 bif eqI x7 5 then
 (Z4 F x0 5).bind fun r36 =>
 bif r36.2.1 then
 (B6 F r36.1 400).bind fun r37 =>
 let x66v38:=I5 .i64 r37.2.1 200
 (B6 F r37.1 3).bind fun r40 =>
 bif inI x10 (List.length x5) then
 bif K3 ((List.length x6)+1) 16 then
 A7 F k0 n r40.1 x5 (x6++[(B9 0 x5 x10,(D5 .i64 (D5 .i64 x8 x66v38) r40.2.1,()))]) x7 (D5 .i64 x8 x66v38) x9 (D5 .i64 x10 1)
 else
 none
 else
 none
 else
 (B6 F r36.1 3).bind fun r45 =>
 bif inI x10 (List.length x5) then
 bif K3 ((List.length x6)+1) 16 then
 A7 F k0 n r45.1 x5 (x6++[(B9 0 x5 x10,(D5 .i64 x8 r45.2.1,()))]) x7 x8 x9 (D5 .i64 x10 1)
 else
 none
 else
 none
 else
 bif eqI x7 6 then
 (B6 F x0 50).bind fun r51 =>
 (B6 F r51.1 50).bind fun r52 =>
 bif inI x10 (List.length x5) then
 bif K3 ((List.length x6)+1) 16 then
 A7 F k0 n r52.1 x5 (x6++[(B9 0 x5 x10,(A2H .i64 (A2H .i64 r51.2.1 r52.2.1) x9,()))]) x7 x8 x9 (D5 .i64 x10 1)
 else
 none
 else
 none
 else
 bif inI x10 (List.length x5) then
 bif K3 ((List.length x6)+1) 16 then
 A7 F k0 n x0 x5 (x6++[(B9 0 x5 x10,(x8,()))]) x7 x8 x9 (D5 .i64 x10 1)
 else
 none
 else
 none
 else
 k0 x0 x6
def Y2(F:Nat)(x0:qTP)(x1:Int):Option (qTP×(List qSM)×Unit) :=
 (A0z F x0 x1).bind fun r1 =>
 (B6 F r1.1 7).bind fun r2 =>
 (P3 F r2.1).bind fun r3 =>
 (B6 F r3.1 41).bind fun r4 =>
 A7 F (fun z61 z62 =>
 some (z61,(z62,()))) F r4.1 r1.2.1 [] r2.2.1 r3.2.1 (I5 .i64 r4.2.1 20) 0
def A15(F:Nat)(x0:qTP)(x1:Int):Option (qTP×(List qSM)×Unit) :=
 (Y2 F x0 x1).bind fun r1 =>
 bif eqI (C7 r1.2.1) 0 then
 (P3 F r1.1).bind fun r4 =>
 (P3 F r4.1).bind fun r5 =>
 some (r5.1,([(r4.2.1,(r5.2.1,()))],()))
 else
 some (r1.1,(r1.2.1,()))
def U0(F:Nat)(x0:qTP):Option (qTP×Int×Unit) :=
 (B6 F x0 8).bind fun r1 =>
 bif eqI r1.2.1 0 then
 some (r1.1,(0,()))
 else
 bif eqI r1.2.1 1 then
 (B6 F r1.1 2).bind fun r4 =>
 some (r4.1,(I5 .i64 4611686018427387904 r4.2.1,()))
 else
 bif eqI r1.2.1 2 then
 (Q0 F r1.1).bind fun r7 =>
 (B6 F r7.1 60).bind fun r8 =>
 let x18v9:=D5 .i64 2 r8.2.1
 bif ltI (IntKind.wrap .u64 x18v9) 0 then
 none
 else
 some (r8.1,(IntKind.wrap .i64 (A0q .u64 r7.2.1 (IntKind.wrap .u64 x18v9)),()))
 else
 (B6 F r1.1 30).bind fun r13 =>
 some (r13.1,(r13.2.1,()))
def Z5(F:Nat)(x0:qL)(x1:Int)(x2:Int):Option (Bool×Unit) :=
 bif leI 0 x1 then
 bif leI x1 (C7 x0) then
 bif leI 0 x2 then
 some (leI x2 4096,())
 else
 some (false,())
 else
 some (false,())
 else
 some (false,())
def A24(F:Nat)(x0:Int):Option (Bool×Unit) :=
 some (ltI x0 128,())
def F0(F:Nat){R:Type}(k0:Option R)(kret:Int→Option R):Nat→qL→Int→Int→Option R
 | 0,_,_,_=>none
 | n+1,x0,x7,x8 =>
 bif ltI x8 x7 then
 bif inI x8 (List.length x0) then
 (A24 F (B9 0 x0 x8)).bind fun r4 =>
 bif r4.1 then
 kret x8
 else
 F0 F k0 kret n x0 x7 (D5 .i64 x8 1)
 else
 none
 else
 k0
def P4(F:Nat)(x0:qL):Option (Int×Unit) :=
 F0 F (
 some ((-1),())) (fun z6 =>
 some (z6,())) F x0 (C7 x0) 0
def O5(F:Nat){R:Type}(kn:qL→Int→Option R)(kret:qL→Int→Option R)(x0:qL)(x8:Int)(x27:Bool):Option R :=
 bif x27 then
 kret [] 4
 else
 bif ltI x8 0 then
 kret [] 5
 else
 bif ltI 0 x8 then
 bif inI x8 (List.length x0) then
 bif eqI (B9 0 x0 x8) 0 then
 kret [] 5
 else
 kn x0 x8
 else
 none
 else
 kn x0 x8
def A1E(F:Nat)(x0:qL)(x1:Int)(x2:Int):Option (qL×Int×Unit) :=
 bif ltI x1 0 then
 some ([],(2,()))
 else
 bif ltI (C7 x0) x1 then
 some ([],(2,()))
 else
 bif A29 x1 (C7 x0) (List.length x0) then
 bif A29 0 (A3u (C7 (S0 x0 x1)) x2) (List.length (S0 x0 x1)) then
 (P4 F (N9 (S0 x0 x1) (A3u (C7 (S0 x0 x1)) x2))).bind fun r8 =>
 bif ltI r8.1 0 then
 O5 F (fun z16 z17 =>
 bif A29 0 (D5 .i64 z17 1) (List.length z16) then
 some (N9 z16 (D5 .i64 z17 1),(0,()))
 else
 none) (fun z20 z21 =>
 some (z20,(z21,()))) (S0 x0 x1) r8.1 (ltI (C7 (S0 x0 x1)) x2)
 else
 O5 F (fun z22 z23 =>
 bif A29 0 (D5 .i64 z23 1) (List.length z22) then
 some (N9 z22 (D5 .i64 z23 1),(0,()))
 else
 none) (fun z26 z27 =>
 some (z26,(z27,()))) (S0 x0 x1) r8.1 false
 else
 none
 else
 none
def V7(F:Nat){R:Type}(k0:Int→qL→Int→Option R):Nat→Int→qL→Int→qL→Int→Int→Option R
 | 0,_,_,_,_,_,_=>none
 | n+1,x1,x7,x9,x30,x31,x32 =>
 bif ltI x32 x31 then
 bif inI x32 (List.length x30) then
 bif ltI (A2H .i64 7 x32) 0 then
 none
 else
 V7 F k0 n x1 x7 (orI .u64 x9 (A2v .u64 (IntKind.wrap .u64 (A3j (B9 0 x30 x32) 128)) (A2H .i64 7 x32))) x30 x31 (D5 .i64 x32 1)
 else
 none
 else
 k0 x1 x7 x9
def A16(F:Nat){R:Type}(kret:Int→Int→Int→Option R)(x1:Int)(x7:qL):Option R :=
 V7 F (fun z16 z17 z18 =>
 kret z18 (D5 .i64 z16 (C7 z17)) 0) F x1 x7 0 x7 (C7 x7) 0
def U1(F:Nat)(x0:qL)(x1:Int):Option (Int×Int×Int×Unit) :=
 (A1E F x0 x1 10).bind fun r1 =>
 bif not (eqI r1.2.1 0) then
 some (0,(0,(r1.2.1,())))
 else
 bif eqI (C7 r1.1) 10 then
 bif inI 9 (List.length r1.1) then
 bif ltI 1 (B9 0 r1.1 9) then
 some (0,(0,(5,())))
 else
 A16 F (fun z21 z22 z23 =>
 some (z21,(z22,(z23,())))) x1 r1.1
 else
 none
 else
 A16 F (fun z24 z25 z26 =>
 some (z24,(z25,(z26,())))) x1 r1.1
def A17(F:Nat)(x0:qL)(x1:Int)(x2:Int):Option (Int×Int×Int×Unit) :=
 (U1 F x0 x1).bind fun r1 =>
 bif not (eqI r1.2.2.1 0) then
 some (0,(0,(r1.2.2.1,())))
 else
 bif ltI (IntKind.wrap .u64 x2) r1.1 then
 some (0,(0,(10,())))
 else
 some (IntKind.wrap .i64 r1.1,(r1.2.1,(0,())))
def O6(F:Nat){R:Type}(k0:Int→qL→Option R)(kret:qL→Int→Int→Option R):Nat→qL→Int→qL→Int→Int→Option R
 | 0,_,_,_,_,_=>none
 | n+1,x0,x1,x9,x20,x21 =>
 bif ltI x21 x20 then
 (U1 F x0 x1).bind fun r6 =>
 bif not (eqI r6.2.2.1 0) then
 kret [] 0 r6.2.2.1
 else
 bif K3 ((List.length x9)+1) 8 then
 O6 F k0 kret n x0 r6.2.1 (x9++[r6.1]) x20 (D5 .i64 x21 1)
 else
 none
 else
 k0 x1 x9
def U2(F:Nat)(x0:qL)(x1:Int)(x2:Int):Option (qL×Int×Int×Unit) :=
 bif Y8 0 (A3u x2 (I5 .i64 (C7 x0) x1)) 8 then
 O6 F (fun z10 z11 =>
 some (z11,(z10,(0,())))) (fun z12 z13 z14 =>
 some (z12,(z13,(z14,())))) F x0 x1 (I7 0 (0:Int)) x2 0
 else
 none
def Y3(F:Nat)(x0:Int)(x1:Int):Option (Int×Unit) :=
 bif ltI x0 0 then
 some ((-1),())
 else
 bif ltI 65536 x0 then
 some ((-1),())
 else
 bif ltI x1 0 then
 some ((-1),())
 else
 bif ltI 64 x1 then
 some ((-1),())
 else
 some (A4L .i64 (D5 .i64 (A2H .i64 x0 x1) 7) 8,())
def J2(F:Nat){R:Type}(k2:qL→Int→qL→Int→Int→Int→Option R):Nat→qL→Int→qL→Int→Int→Int→Int→Int→Option R
 | 0,_,_,_,_,_,_,_,_=>none
 | n+1,x0,x2,x8,x9,x10,x11,x23,x24 =>
 bif ltI x11 x2 then
 bif inI (A4L .i64 x9 8) (List.length x0) then
 bif ltI (A3j x9 8) 0 then
 none
 else
 bif ltI (A3u (I5 .i64 8 (A3j x9 8)) (I5 .i64 x2 x11)) 0 then
 none
 else
 bif inI x10 (List.length x8) then
 bif ltI x11 0 then
 none
 else
 bif inI x10 (List.length x8) then
 J2 F k2 n x0 x2 (T2 x8 x10 (orI .u64 (B9 0 x8 x10) (A2v .u64 (A6I .u64 (IntKind.wrap .u64 (A0q .u8 (B9 0 x0 (A4L .i64 x9 8)) (A3j x9 8))) (I5 .u64 (A2v .u64 1 (A3u (I5 .i64 8 (A3j x9 8)) (I5 .i64 x2 x11))) 1)) x11))) (D5 .i64 x9 (A3u (I5 .i64 8 (A3j x9 8)) (I5 .i64 x2 x11))) x10 (D5 .i64 x11 (A3u (I5 .i64 8 (A3j x9 8)) (I5 .i64 x2 x11))) x23 x24
 else
 none
 else
 none
 else
 none
 else
 k2 x0 x2 x8 x9 x23 x24
def J3(F:Nat){R:Type}(k0:qL→qL→Int→Option R):Nat→qL→Int→qL→Int→Int→Int→Option R
 | 0,_,_,_,_,_,_=>none
 | n+1,x0,x2,x8,x9,x23,x24 =>
 bif ltI x24 x23 then
 J2 F (fun z26 z27 z28 z29 z30 z31 =>
 J3 F k0 n z26 z27 z28 z29 z30 (D5 .i64 z31 1)) F x0 x2 x8 x9 x24 0 x23 x24
 else
 k0 x0 x8 x9
def V8(F:Nat)(x0:qL)(x1:Int)(x2:Int):Option (qL×Bool×Unit) :=
 (Y3 F x1 x2).bind fun r1 =>
 bif not (eqI r1.1 (C7 x0)) then
 some ([],(false,()))
 else
 bif Y8 x1 x1 8 then
 J3 F (fun z33 z34 z35 =>
 bif ltI 0 (A3j z35 8) then
 bif inI (A4L .i64 z35 8) (List.length z33) then
 bif ltI (A3j z35 8) 0 then
 none
 else
 bif not (eqI (A0q .u8 (B9 0 z33 (A4L .i64 z35 8)) (A3j z35 8)) 0) then
 some ([],(false,()))
 else
 some (z34,(true,()))
 else
 none
 else
 some (z34,(true,()))) F x0 x2 (I7 x1 (0:Int)) 0 (C7 (I7 x1 (0:Int))) 0
 else
 none
def Q2(F:Nat)(x0:qL)(x1:Int)(x2:Int):Option (qL×Int×Int×Unit) :=
 bif leI (C7 x0) x1 then
 some ([],(0,(4,())))
 else
 bif inI x1 (List.length x0) then
 bif ltI 64 (B9 0 x0 x1) then
 some ([],(0,(5,())))
 else
 bif inI x1 (List.length x0) then
 (Y3 F x2 (IntKind.wrap .i64 (B9 0 x0 x1))).bind fun r8 =>
 bif ltI (I5 .i64 (C7 x0) (D5 .i64 x1 1)) r8.1 then
 some ([],(0,(4,())))
 else
 let x45v12:=D5 .i64 (D5 .i64 x1 1) r8.1
 bif A29 (D5 .i64 x1 1) x45v12 (List.length x0) then
 (V8 F (S0 (N9 x0 x45v12) (D5 .i64 x1 1)) x2 (IntKind.wrap .i64 (B9 0 x0 x1))).bind fun r14 =>
 bif not r14.2.1 then
 some ([],(0,(5,())))
 else
 some (r14.1,(D5 .i64 (D5 .i64 x1 1) r8.1,(0,())))
 else
 none
 else
 none
 else
 none
def A3a(F:Nat)(x0:Int):Option (Int×Unit) :=
 (O4 F x0).bind fun r1 =>
 some (B2b (A4L .i64 (D5 .i64 r1.1 6) 7) 1,())
def O7(F:Nat){R:Type}(k0:Int→Option R):Nat→Int→qL→Int→Int→Option R
 | 0,_,_,_,_=>none
 | n+1,x3,x6,x7,x8 =>
 bif ltI x8 x7 then
 bif inI x8 (List.length x6) then
 O7 F k0 n (orI .u64 x3 (B9 0 x6 x8)) x6 x7 (D5 .i64 x8 1)
 else
 none
 else
 k0 x3
def A1F(F:Nat)(x0:qL):Option (Int×Unit) :=
 O7 F (fun z6 =>
 (O4 F z6).bind fun r7 =>
 some (r7.1,())) F 0 x0 (C7 x0) 0
def L2(F:Nat){R:Type}(k2:Int→qL→Int→qL→Int→Int→Option R):Nat→Int→qL→Int→Int→Int→qL→Int→Int→Option R
 | 0,_,_,_,_,_,_,_,_=>none
 | n+1,x1,x7,x8,x10,x11,x27,x28,x29 =>
 bif ltI 0 x11 then
 bif inI (A4L .i64 x8 8) (List.length x7) then
 bif ltI (A3j x8 8) 0 then
 none
 else
 bif inI (A4L .i64 x8 8) (List.length x7) then
 bif ltI (A3u (I5 .i64 8 (A3j x8 8)) x11) 0 then
 none
 else
 L2 F k2 n x1 (T2 x7 (A4L .i64 x8 8) (orI .u8 (B9 0 x7 (A4L .i64 x8 8)) (A2v .u8 (IntKind.wrap .u8 x10) (A3j x8 8)))) (D5 .i64 x8 (A3u (I5 .i64 8 (A3j x8 8)) x11)) (A0q .u64 x10 (A3u (I5 .i64 8 (A3j x8 8)) x11)) (I5 .i64 x11 (A3u (I5 .i64 8 (A3j x8 8)) x11)) x27 x28 x29
 else
 none
 else
 none
 else
 k2 x1 x7 x8 x27 x28 x29
def N4(F:Nat){R:Type}(k0:qL→Option R):Nat→Int→qL→Int→qL→Int→Int→Option R
 | 0,_,_,_,_,_,_=>none
 | n+1,x1,x7,x8,x27,x28,x29 =>
 bif ltI x29 x28 then
 bif inI x29 (List.length x27) then
 L2 F (fun z24 z25 z26 z27 z28 z29 =>
 N4 F k0 n z24 z25 z26 z27 z28 (D5 .i64 z29 1)) F x1 x7 x8 (B9 0 x27 x29) x1 x27 x28 x29
 else
 none
 else
 k0 x7
def A2i(F:Nat)(x0:qL)(x1:Int):Option (qL×Bool×Unit) :=
 (Y3 F (C7 x0) x1).bind fun r2 =>
 bif ltI r2.1 0 then
 some ([],(false,()))
 else
 (A1F F x0).bind fun r4 =>
 bif ltI x1 r4.1 then
 some ([],(false,()))
 else
 bif Y8 r2.1 r2.1 1 then
 N4 F (fun z31 =>
 some (z31,(true,()))) F x1 (I7 r2.1 (0:Int)) 0 x0 (C7 x0) 0
 else
 none
def Y4(F:Nat)(x0:qL):Option (qL×Unit) :=
 bif K3 (0+List.length x0) 1 then some (x0,()) else none
def O8(F:Nat){R:Type}(k0:Int→qL→Option R):Nat→Int→qL→Option R
 | 0,_,_=>none
 | n+1,x1,x5 =>
 bif leI 128 x1 then
 bif K3 ((List.length x5)+1) 1 then
 O8 F k0 n (A0q .u64 x1 7) (x5++[orI .u8 (IntKind.wrap .u8 x1) 128])
 else
 none
 else
 k0 x1 x5
def P5(F:Nat)(x0:qL)(x1:Int):Option (qL×Unit) :=
 (Y4 F x0).bind fun r1 =>
 (A06 F r1.1 10).bind fun r2 =>
 O8 F (fun z8 z9 =>
 bif K3 ((List.length z9)+1) 1 then
 some ((z9++[IntKind.wrap .u8 z8]),())
 else
 none) F x1 r2.1
def L8(F:Nat){R:Type}(k0:qL→Int→Option R):Nat→qL→Int→qL→Int→Int→Option R
 | 0,_,_,_,_,_=>none
 | n+1,x0,x4,x16,x17,x18 =>
 bif ltI x18 x17 then
 bif inI x18 (List.length x16) then
 (A3a F (B9 0 x16 x18)).bind fun r6 =>
 L8 F k0 n x0 (D5 .i64 x4 r6.1) x16 x17 (D5 .i64 x18 1)
 else
 none
 else
 k0 x0 x4
def K8(F:Nat){R:Type}(k2:qL→Option R):Nat→qL→qL→Int→Int→Option R
 | 0,_,_,_,_=>none
 | n+1,x10,x47,x48,x49 =>
 bif ltI x49 x48 then
 bif inI x49 (List.length x47) then
 (P5 F [] (B9 0 x47 x49)).bind fun r22 =>
 bif K3 ((List.length x10)+(List.length r22.1)) 1 then
 K8 F k2 n (x10++r22.1) x47 x48 (D5 .i64 x49 1)
 else
 none
 else
 none
 else
 k2 x10
def D4(F:Nat)(x0:qL):Option (qL×Int×Unit) :=
 bif ltI 65536 (C7 x0) then
 some ([],(3,()))
 else
 L8 F (fun z9 z10 =>
 (A1F F z9).bind fun r11 =>
 (A2i F z9 r11.1).bind fun r12 =>
 bif ltI (D5 .i64 2 (C7 r12.1)) z10 then
 bif K3 (2+(List.length r12.1)) 1 then
 some (([1,IntKind.wrap .u8 r11.1]++r12.1),(0,()))
 else
 none
 else
 bif Y8 1 z10 1 then
 K8 F (fun z25 =>
 some (z25,(0,()))) F (I7 1 (0:Int)) z9 (C7 z9) 0
 else
 none) F x0 1 x0 (C7 x0) 0
def I3(F:Nat){R:Type}(k0:Option R)(kret:Bool→Option R):Nat→qL→qL→Int→Int→Option R
 | 0,_,_,_,_=>none
 | n+1,x0,x1,x12,x13 =>
 bif ltI x13 x12 then
 bif inI x13 (List.length x0) then
 bif inI x13 (List.length x1) then
 bif not (eqI (B9 0 x0 x13) (B9 0 x1 x13)) then
 kret false
 else
 I3 F k0 kret n x0 x1 x12 (D5 .i64 x13 1)
 else
 none
 else
 none
 else
 k0
def D0(F:Nat)(x0:qL)(x1:qL):Option (Bool×Unit) :=
 bif not (eqI (C7 x0) (C7 x1)) then
 some (false,())
 else
 I3 F (
 some (true,())) (fun z10 =>
 some (z10,())) F x0 x1 (C7 x0) 0
def J4(F:Nat){R:Type}(kn:qL→Int→Int→Option R)(kret:qL→Int→Int→Option R)(x0:qL)(x1:Int)(x2:Int)(x14:Bool):Option R :=
 bif x14 then
 kret [] 0 2
 else
 bif eqI x1 (C7 x0) then
 kret [] 0 4
 else
 bif inI x1 (List.length x0) then
 bif ltI 1 (B9 0 x0 x1) then
 kret [] 0 5
 else
 kn x0 x1 x2
 else
 none
def H9(F:Nat)(x0:qL)(x1:Int)(x2:Int):Option (qL×Int×Int×Unit) :=
 bif ltI x1 0 then
 J4 F (fun z6 z7 z8 =>
 bif inI z7 (List.length z6) then
 bif eqI (B9 0 z6 z7) 1 then
 (Q2 F z6 (D5 .i64 z7 1) z8).bind fun r12 =>
 bif not (eqI r12.2.2.1 0) then
 some ([],(0,(r12.2.2.1,())))
 else
 (D4 F r12.1).bind fun r14 =>
 bif not (eqI r14.2.1 0) then
 some ([],(0,(5,())))
 else
 bif A29 z7 r12.2.1 (List.length z6) then
 (D0 F r14.1 (S0 (N9 z6 r12.2.1) z7)).bind fun r17 =>
 bif not r17.1 then
 some ([],(0,(5,())))
 else
 some (r12.1,(r12.2.1,(0,())))
 else
 none
 else
 (U2 F z6 (D5 .i64 z7 1) z8).bind fun r20 =>
 bif not (eqI r20.2.2.1 0) then
 some ([],(0,(r20.2.2.1,())))
 else
 (D4 F r20.1).bind fun r22 =>
 bif not (eqI r22.2.1 0) then
 some ([],(0,(5,())))
 else
 bif A29 z7 r20.2.1 (List.length z6) then
 (D0 F r22.1 (S0 (N9 z6 r20.2.1) z7)).bind fun r25 =>
 bif not r25.1 then
 some ([],(0,(5,())))
 else
 some (r20.1,(r20.2.1,(0,())))
 else
 none
 else
 none) (fun z27 z28 z29 =>
 some (z27,(z28,(z29,())))) x0 x1 x2 true
 else
 bif ltI (C7 x0) x1 then
 J4 F (fun z32 z33 z34 =>
 bif inI z33 (List.length z32) then
 bif eqI (B9 0 z32 z33) 1 then
 (Q2 F z32 (D5 .i64 z33 1) z34).bind fun r38 =>
 bif not (eqI r38.2.2.1 0) then
 some ([],(0,(r38.2.2.1,())))
 else
 (D4 F r38.1).bind fun r40 =>
 bif not (eqI r40.2.1 0) then
 some ([],(0,(5,())))
 else
 bif A29 z33 r38.2.1 (List.length z32) then
 (D0 F r40.1 (S0 (N9 z32 r38.2.1) z33)).bind fun r43 =>
 bif not r43.1 then
 some ([],(0,(5,())))
 else
 some (r38.1,(r38.2.1,(0,())))
 else
 none
 else
 (U2 F z32 (D5 .i64 z33 1) z34).bind fun r46 =>
 bif not (eqI r46.2.2.1 0) then
 some ([],(0,(r46.2.2.1,())))
 else
 (D4 F r46.1).bind fun r48 =>
 bif not (eqI r48.2.1 0) then
 some ([],(0,(5,())))
 else
 bif A29 z33 r46.2.1 (List.length z32) then
 (D0 F r48.1 (S0 (N9 z32 r46.2.1) z33)).bind fun r51 =>
 bif not r51.1 then
 some ([],(0,(5,())))
 else
 some (r46.1,(r46.2.1,(0,())))
 else
 none
 else
 none) (fun z53 z54 z55 =>
 some (z53,(z54,(z55,())))) x0 x1 x2 true
 else
 bif ltI x2 0 then
 J4 F (fun z57 z58 z59 =>
 bif inI z58 (List.length z57) then
 bif eqI (B9 0 z57 z58) 1 then
 (Q2 F z57 (D5 .i64 z58 1) z59).bind fun r63 =>
 bif not (eqI r63.2.2.1 0) then
 some ([],(0,(r63.2.2.1,())))
 else
 (D4 F r63.1).bind fun r65 =>
 bif not (eqI r65.2.1 0) then
 some ([],(0,(5,())))
 else
 bif A29 z58 r63.2.1 (List.length z57) then
 (D0 F r65.1 (S0 (N9 z57 r63.2.1) z58)).bind fun r68 =>
 bif not r68.1 then
 some ([],(0,(5,())))
 else
 some (r63.1,(r63.2.1,(0,())))
 else
 none
 else
 (U2 F z57 (D5 .i64 z58 1) z59).bind fun r71 =>
 bif not (eqI r71.2.2.1 0) then
 some ([],(0,(r71.2.2.1,())))
 else
 (D4 F r71.1).bind fun r73 =>
 bif not (eqI r73.2.1 0) then
 some ([],(0,(5,())))
 else
 bif A29 z58 r71.2.1 (List.length z57) then
 (D0 F r73.1 (S0 (N9 z57 r71.2.1) z58)).bind fun r76 =>
 bif not r76.1 then
 some ([],(0,(5,())))
 else
 some (r71.1,(r71.2.1,(0,())))
 else
 none
 else
 none) (fun z78 z79 z80 =>
 some (z78,(z79,(z80,())))) x0 x1 x2 true
 else
 J4 F (fun z82 z83 z84 =>
 bif inI z83 (List.length z82) then
 bif eqI (B9 0 z82 z83) 1 then
 (Q2 F z82 (D5 .i64 z83 1) z84).bind fun r88 =>
 bif not (eqI r88.2.2.1 0) then
 some ([],(0,(r88.2.2.1,())))
 else
 (D4 F r88.1).bind fun r90 =>
 bif not (eqI r90.2.1 0) then
 some ([],(0,(5,())))
 else
 bif A29 z83 r88.2.1 (List.length z82) then
 (D0 F r90.1 (S0 (N9 z82 r88.2.1) z83)).bind fun r93 =>
 bif not r93.1 then
 some ([],(0,(5,())))
 else
 some (r88.1,(r88.2.1,(0,())))
 else
 none
 else
 (U2 F z82 (D5 .i64 z83 1) z84).bind fun r96 =>
 bif not (eqI r96.2.2.1 0) then
 some ([],(0,(r96.2.2.1,())))
 else
 (D4 F r96.1).bind fun r98 =>
 bif not (eqI r98.2.1 0) then
 some ([],(0,(5,())))
 else
 bif A29 z83 r96.2.1 (List.length z82) then
 (D0 F r98.1 (S0 (N9 z82 r96.2.1) z83)).bind fun r101 =>
 bif not r101.1 then
 some ([],(0,(5,())))
 else
 some (r96.1,(r96.2.1,(0,())))
 else
 none
 else
 none) (fun z103 z104 z105 =>
 some (z103,(z104,(z105,())))) x0 x1 x2 (ltI 65536 x2)
def L9(F:Nat){R:Type}(k0:Int→qL→Int→Option R):Nat→Int→Int→qL→Int→qL→Int→Int→Option R
 | 0,_,_,_,_,_,_,_=>none
 | n+1,x3,x13,x15,x16,x32,x33,x34 =>
 bif ltI x34 x33 then
 bif inI x34 (List.length x32) then
 bif inI x34 (List.length x15) then
 bif inI x34 (List.length (T2 x15 x34 (D5 .i64 (IntKind.wrap .i64 (A3u (B9 0 x32 x34) (IntKind.wrap .u64 x3))) 1))) then
 L9 F k0 n x3 x13 (T2 x15 x34 (D5 .i64 (IntKind.wrap .i64 (A3u (B9 0 x32 x34) (IntKind.wrap .u64 x3))) 1)) (A3u (D5 .i64 x16 (B9 0 (T2 x15 x34 (D5 .i64 (IntKind.wrap .i64 (A3u (B9 0 x32 x34) (IntKind.wrap .u64 x3))) 1)) x34)) (D5 .i64 x3 1)) x32 x33 (D5 .i64 x34 1)
 else
 none
 else
 none
 else
 none
 else
 k0 x13 x15 x16
def A18(F:Nat)(x0:qL)(x1:Int)(x2:Int)(x3:Int):Option (qL×Int×Int×Int×Unit) :=
 (H9 F x0 x1 x2).bind fun r1 =>
 bif not (eqI r1.2.2.1 0) then
 some ([],(0,(0,(r1.2.2.1,()))))
 else
 bif Y8 x2 x2 8 then
 L9 F (fun z17 z18 z19 =>
 some (z18,(z19,(z17,(0,()))))) F x3 r1.2.1 (I7 x2 (0:Int)) 0 r1.1 (C7 r1.1) 0
 else
 none
def L3(F:Nat){R:Type}(k0:qL→Option R):Nat→qL→Int→Option R
 | 0,_,_=>none
 | n+1,x0,x2 =>
 bif ltI x2 (C7 x0) then
 bif inI x2 (List.length x0) then
 bif inI (I5 .i64 x2 1) (List.length x0) then
 (Y1 F (B9 0 x0 x2) (IntKind.wrap .u64 (B9 0 x0 (I5 .i64 x2 1)))).bind fun r7 =>
 bif inI x2 (List.length x0) then
 L3 F k0 n (T2 x0 x2 r7.1) (D5 .i64 x2 1)
 else
 none
 else
 none
 else
 none
 else
 k0 x0
def A1G(F:Nat)(x0:qL):Option (qL×Unit) :=
 L3 F (fun z10 =>
 some (z10,())) F x0 1
def A3N(F:Nat)(x0:Int)(x1:Int):Option (Int×Unit) :=
 some (I5 .u64 (IntKind.wrap .u64 x0) (IntKind.wrap .u64 x1),())
def F2(F:Nat){R:Type}(k0:qL→Option R):Nat→qL→Int→Option R
 | 0,_,_=>none
 | n+1,x0,x2 =>
 bif ltI 0 x2 then
 bif inI x2 (List.length x0) then
 bif inI (I5 .i64 x2 1) (List.length x0) then
 (A3N F (B9 0 x0 x2) (B9 0 x0 (I5 .i64 x2 1))).bind fun r7 =>
 bif inI x2 (List.length x0) then
 F2 F k0 n (T2 x0 x2 (IntKind.wrap .i64 r7.1)) (I5 .i64 x2 1)
 else
 none
 else
 none
 else
 none
 else
 k0 x0
def Q7(F:Nat)(x0:qL):Option (qL×Unit) :=
 F2 F (fun z11 =>
 some (z11,())) F x0 (I5 .i64 (C7 x0) 1)
def J5(F:Nat){R:Type}(k0:qL→Option R):Nat→qL→Int→Int→Option R
 | 0,_,_,_=>none
 | n+1,x0,x6,x7 =>
 bif ltI x7 x6 then
 (Q7 F x0).bind fun r2 =>
 J5 F k0 n r2.1 x6 (D5 .i64 x7 1)
 else
 k0 x0
def A1w(F:Nat)(x0:qL)(x1:Int):Option (qL×Unit) :=
 J5 F (fun z4 =>
 some (z4,())) F x0 x1 0
def J6(F:Nat){R:Type}(k0:qL→Option R):Nat→qL→Int→Int→Option R
 | 0,_,_,_=>none
 | n+1,x0,x6,x7 =>
 bif ltI x7 x6 then
 (A1G F x0).bind fun r2 =>
 J6 F k0 n r2.1 x6 (D5 .i64 x7 1)
 else
 k0 x0
def O9(F:Nat)(x0:qL)(x1:Int):Option (qL×Unit) :=
 J6 F (fun z4 =>
 some (z4,())) F x0 x1 0
def W9(F:Nat)(x0:qL):Option (qL×Unit) :=
 bif K3 (0+List.length x0) 8 then some (x0,()) else none
def H6(F:Nat){R:Type}(k0:qL→Option R):Nat→qL→qL→Int→Int→Option R
 | 0,_,_,_,_=>none
 | n+1,x7,x24,x25,x26 =>
 bif ltI x26 x25 then
 bif inI x26 (List.length x24) then
 (Y0 F (B9 0 x24 x26)).bind fun r10 =>
 bif inI x26 (List.length x7) then
 H6 F k0 n (T2 x7 x26 r10.1) x24 x25 (D5 .i64 x26 1)
 else
 none
 else
 none
 else
 k0 x7
def K9(F:Nat)(x0:qL)(x1:Int):Option (qL×Bool×Unit) :=
 bif ltI x1 0 then
 some ([],(false,()))
 else
 bif ltI 2 x1 then
 some ([],(false,()))
 else
 (W9 F x0).bind fun r3 =>
 (A1w F r3.1 x1).bind fun r4 =>
 bif Y8 (C7 r4.1) (C7 r4.1) 8 then
 H6 F (fun z13 =>
 some (z13,(true,()))) F (I7 (C7 r4.1) (0:Int)) r4.1 (C7 r4.1) 0
 else
 none
def F1(F:Nat){R:Type}(k0:qL→Option R)(kret:qL→Int→Option R):Nat→qL→qL→Int→Option R
 | 0,_,_,_=>none
 | n+1,x0,x4,x10 =>
 bif ltI x10 3 then
 (K9 F x0 x10).bind fun r9 =>
 (D4 F r9.1).bind fun r10 =>
 bif not (eqI r10.2.1 0) then
 kret [] r10.2.1
 else
 bif List.isEmpty x4 then
 none
 else
 bif ltI (D5 .i64 (C7 r10.1) 1) (C7 x4) then
 bif K3 (1+(List.length r10.1)) 1 then
 F1 F k0 kret n x0 ([IntKind.wrap .u8 x10]++r10.1) (D5 .i64 x10 1)
 else
 none
 else
 F1 F k0 kret n x0 x4 (D5 .i64 x10 1)
 else
 k0 x4
def A0A(F:Nat){R:Type}(k0:qL→Option R)(kret:qL→Int→Option R)(n:Nat)(x0:qL)(x10:Int):Option R :=
 bif ltI x10 3 then
 (K9 F x0 x10).bind fun r21 =>
 (D4 F r21.1).bind fun r22 =>
 bif not (eqI r22.2.1 0) then
 kret [] r22.2.1
 else
 bif K3 (1+(List.length r22.1)) 1 then
 F1 F k0 kret n x0 ([IntKind.wrap .u8 x10]++r22.1) (D5 .i64 x10 1)
 else
 none
 else
 none
def K6(F:Nat)(x0:qL):Option (qL×Int×Unit) :=
 A0A F (fun z27 =>
 some (z27,(0,()))) (fun z28 z29 =>
 some (z28,(z29,()))) F x0 0
def L0(F:Nat){R:Type}(kn:qL→Int→Int→Option R)(kret:qL→Int→Int→Option R)(x0:qL)(x1:Int)(x2:Int)(x16:Bool):Option R :=
 bif x16 then
 kret [] 0 2
 else
 bif eqI x1 (C7 x0) then
 kret [] 0 4
 else
 bif inI x1 (List.length x0) then
 bif ltI 2 (B9 0 x0 x1) then
 kret [] 0 5
 else
 kn x0 x1 x2
 else
 none
def J7(F:Nat){R:Type}(k1:qL→Int→Int→qL→Option R):Nat→qL→Int→Int→qL→qL→Int→Int→Option R
 | 0,_,_,_,_,_,_,_=>none
 | n+1,x0,x1,x10,x12,x58,x59,x60 =>
 bif ltI x60 x59 then
 bif inI x60 (List.length x58) then
 (S5 F (B9 0 x58 x60)).bind fun r16 =>
 bif inI x60 (List.length x12) then
 J7 F k1 n x0 x1 x10 (T2 x12 x60 r16.1) x58 x59 (D5 .i64 x60 1)
 else
 none
 else
 none
 else
 k1 x0 x1 x10 x12
def J8(F:Nat){R:Type}(kn:qL→Int→Int→qL→Option R)(x0:qL)(x1:Int)(x10:Int)(x12:qL)(x58:qL)(x59:Int)(x60:Int):Option R :=
 J7 F (fun z19 z20 z21 z22 =>
 kn z19 z20 z21 z22) F x0 x1 x10 x12 x58 x59 x60
def X7(F:Nat)(x0:qL)(x1:Int)(x2:Int):Option (qL×Int×Int×Unit) :=
 bif ltI x1 0 then
 L0 F (fun z6 z7 z8 =>
 (H9 F z6 (D5 .i64 z7 1) z8).bind fun r10 =>
 bif not (eqI r10.2.2.1 0) then
 some ([],(0,(r10.2.2.1,())))
 else
 bif Y8 z8 z8 8 then
 J8 F (fun z23 z24 z25 z26 =>
 bif inI z24 (List.length z23) then
 (O9 F z26 (IntKind.wrap .i64 (B9 0 z23 z24))).bind fun r29 =>
 (K6 F r29.1).bind fun r30 =>
 bif not (eqI r30.2.1 0) then
 some ([],(0,(5,())))
 else
 bif A29 z24 z25 (List.length z23) then
 (D0 F r30.1 (S0 (N9 z23 z25) z24)).bind fun r33 =>
 bif not r33.1 then
 some ([],(0,(5,())))
 else
 some (r29.1,(z25,(0,())))
 else
 none
 else
 none) z6 z7 r10.2.1 (I7 z8 (0:Int)) r10.1 (C7 r10.1) 0
 else
 none) (fun z35 z36 z37 =>
 some (z35,(z36,(z37,())))) x0 x1 x2 true
 else
 bif ltI (C7 x0) x1 then
 L0 F (fun z40 z41 z42 =>
 (H9 F z40 (D5 .i64 z41 1) z42).bind fun r44 =>
 bif not (eqI r44.2.2.1 0) then
 some ([],(0,(r44.2.2.1,())))
 else
 bif Y8 z42 z42 8 then
 J8 F (fun z48 z49 z50 z51 =>
 bif inI z49 (List.length z48) then
 (O9 F z51 (IntKind.wrap .i64 (B9 0 z48 z49))).bind fun r54 =>
 (K6 F r54.1).bind fun r55 =>
 bif not (eqI r55.2.1 0) then
 some ([],(0,(5,())))
 else
 bif A29 z49 z50 (List.length z48) then
 (D0 F r55.1 (S0 (N9 z48 z50) z49)).bind fun r58 =>
 bif not r58.1 then
 some ([],(0,(5,())))
 else
 some (r54.1,(z50,(0,())))
 else
 none
 else
 none) z40 z41 r44.2.1 (I7 z42 (0:Int)) r44.1 (C7 r44.1) 0
 else
 none) (fun z60 z61 z62 =>
 some (z60,(z61,(z62,())))) x0 x1 x2 true
 else
 bif ltI x2 0 then
 L0 F (fun z64 z65 z66 =>
 (H9 F z64 (D5 .i64 z65 1) z66).bind fun r68 =>
 bif not (eqI r68.2.2.1 0) then
 some ([],(0,(r68.2.2.1,())))
 else
 bif Y8 z66 z66 8 then
 J8 F (fun z72 z73 z74 z75 =>
 bif inI z73 (List.length z72) then
 (O9 F z75 (IntKind.wrap .i64 (B9 0 z72 z73))).bind fun r78 =>
 (K6 F r78.1).bind fun r79 =>
 bif not (eqI r79.2.1 0) then
 some ([],(0,(5,())))
 else
 bif A29 z73 z74 (List.length z72) then
 (D0 F r79.1 (S0 (N9 z72 z74) z73)).bind fun r82 =>
 bif not r82.1 then
 some ([],(0,(5,())))
 else
 some (r78.1,(z74,(0,())))
 else
 none
 else
 none) z64 z65 r68.2.1 (I7 z66 (0:Int)) r68.1 (C7 r68.1) 0
 else
 none) (fun z84 z85 z86 =>
 some (z84,(z85,(z86,())))) x0 x1 x2 true
 else
 L0 F (fun z88 z89 z90 =>
 (H9 F z88 (D5 .i64 z89 1) z90).bind fun r92 =>
 bif not (eqI r92.2.2.1 0) then
 some ([],(0,(r92.2.2.1,())))
 else
 bif Y8 z90 z90 8 then
 J8 F (fun z96 z97 z98 z99 =>
 bif inI z97 (List.length z96) then
 (O9 F z99 (IntKind.wrap .i64 (B9 0 z96 z97))).bind fun r102 =>
 (K6 F r102.1).bind fun r103 =>
 bif not (eqI r103.2.1 0) then
 some ([],(0,(5,())))
 else
 bif A29 z97 z98 (List.length z96) then
 (D0 F r103.1 (S0 (N9 z96 z98) z97)).bind fun r106 =>
 bif not r106.1 then
 some ([],(0,(5,())))
 else
 some (r102.1,(z98,(0,())))
 else
 none
 else
 none) z88 z89 r92.2.1 (I7 z90 (0:Int)) r92.1 (C7 r92.1) 0
 else
 none) (fun z108 z109 z110 =>
 some (z108,(z109,(z110,())))) x0 x1 x2 (ltI 65536 x2)
def I4(F:Nat){R:Type}(k1:Int→(List qSM)→Option R):Nat→Int→qL→qL→(List qSM)→Int→Int→Option R
 | 0,_,_,_,_,_,_=>none
 | n+1,x1,x11,x13,x14,x64,x65 =>
 bif ltI x65 x64 then
 bif inI x65 (List.length x11) then
 bif inI x65 (List.length x13) then
 bif inI x65 (List.length x14) then
 I4 F k1 n x1 x11 x13 (T2 x14 x65 (B9 0 x11 x65,(B9 0 x13 x65,()))) x64 (D5 .i64 x65 1)
 else
 none
 else
 none
 else
 none
 else
 k1 x1 x14
def A08(F:Nat)(x0:qL)(x1:Int)(x2:Int):Option ((List qSM)×Int×Int×Unit) :=
 (Z5 F x0 x1 x2).bind fun r1 =>
 bif not r1.1 then
 some ([],(0,(2,())))
 else
 (A17 F x0 x1 x2).bind fun r3 =>
 bif not (eqI r3.2.2.1 0) then
 some ([],(0,(r3.2.2.1,())))
 else
 (A18 F x0 r3.2.1 r3.1 x2).bind fun r5 =>
 bif not (eqI r5.2.2.2.1 0) then
 some ([],(0,(r5.2.2.2.1,())))
 else
 (X7 F x0 r5.2.2.1 r3.1).bind fun r7 =>
 bif not (eqI r7.2.2.1 0) then
 some ([],(0,(r7.2.2.1,())))
 else
 bif not (eqI r5.2.1 x2) then
 some ([],(0,(10,())))
 else
 bif Y8 r3.1 r3.1 16 then
 I4 F (fun z17 z18 =>
 some (z18,(z17,(0,())))) F r7.2.1 r5.1 r7.1 (I7 r3.1 ((0,(0,())):qSM)) (C7 (I7 r3.1 ((0,(0,())):qSM))) 0
 else
 none
def B98(F:Nat)(x0:Int)(x1:Int):Option (Int×Int×Unit) :=
 some (IntKind.wrap .u32 (A0q .u64 (A2H .u64 (IntKind.wrap .u64 x0) (IntKind.wrap .u64 x1)) 32),(IntKind.wrap .u32 (A2H .u64 (IntKind.wrap .u64 x0) (IntKind.wrap .u64 x1)),()))
def B0V(F:Nat)(x0:Int)(x1:Int):Option (Int×Int×Unit) :=
 (A4n F x0 x1).bind fun r1 =>
 some (r1.1,(r1.2.1,()))
def U3(F:Nat)(x0:List Int)(x1:Int):Option (List Int×Unit):=bif Nat.beq x0.length 1 && leI 0 x1 && leI x1 65536 then some (List.replicate x1.toNat (x0.headD 0),()) else none
def Q8(F:Nat){R:Type}(kn:qL→(List qSM)→Int→Int→Option R)(x3:qL)(x5:qSM)(x6:(List qSM))(x7:Int)(x8:Int)(x19:Bool):Option R :=
 bif x19 then
 (U3 F [x5.2.1] x5.1).bind fun r6 =>
 bif K3 ((List.length x3)+(List.length r6.1)) 8 then
 kn (x3++r6.1) x6 x7 x8
 else
 none
 else
 kn x3 x6 x7 x8
def H2(F:Nat){R:Type}(k0:qL→Option R):Nat→qL→(List qSM)→Int→Int→Option R
 | 0,_,_,_,_=>none
 | n+1,x3,x6,x7,x8 =>
 bif ltI x8 x7 then
 bif inI x8 (List.length x6) then
 let x11v3:=B9 (0,(0,())) x6 x8
 bif leI 1 x11v3.1 then
 Q8 F (fun z8 z9 z10 z11 =>
 H2 F k0 n z8 z9 z10 (D5 .i64 z11 1)) x3 x11v3 x6 x7 x8 (leI x11v3.1 1073741824)
 else
 Q8 F (fun z13 z14 z15 z16 =>
 H2 F k0 n z13 z14 z15 (D5 .i64 z16 1)) x3 x11v3 x6 x7 x8 false
 else
 none
 else
 k0 x3
def A0X(F:Nat)(x0:(List qSM)):Option (qL×Unit) :=
 H2 F (fun z18 =>
 some (z18,())) F [] x0 (C7 x0) 0
def P6(F:Nat)(x0:Unit)(x1:qL)(x2:Int)(x3:qL)(x4:Int):Option (qL×Int×Int×Int×Unit) :=
 (A08 F x1 x2 (C7 x3)).bind fun r2 =>
 bif not (eqI r2.2.2.1 0) then
 some ([],(0,(0,(r2.2.2.1,()))))
 else
 (A0X F r2.1).bind fun r4 =>
 some (r4.1,(C7 r2.1,(r2.2.1,(0,()))))
def A25(F:Nat)(x0:qSM):Option (Int×Unit) :=
 some (x0.2.1,())
def A2q(F:Nat)(x0:qSM):Option (Int×Unit) :=
 some (x0.1,())
def F7(F:Nat){R:Type}(k0:qL→Option R):Nat→qL→(List qSM)→Int→Int→Option R
 | 0,_,_,_,_=>none
 | n+1,x5,x11,x12,x13 =>
 bif ltI x13 x12 then
 bif inI x13 (List.length x11) then
 (A2q F (B9 (0,(0,())) x11 x13)).bind fun r6 =>
 bif inI x13 (List.length x5) then
 F7 F k0 n (T2 x5 x13 r6.1) x11 x12 (D5 .i64 x13 1)
 else
 none
 else
 none
 else
 k0 x5
def A0g(F:Nat)(x0:(List qSM)):Option (qL×Unit) :=
 bif Y8 (C7 x0) (C7 x0) 8 then
 F7 F (fun z9 =>
 some (z9,())) F (I7 (C7 x0) (0:Int)) x0 (C7 x0) 0
 else
 none
def F8(F:Nat){R:Type}(k0:qL→Option R):Nat→qL→(List qSM)→Int→Int→Option R
 | 0,_,_,_,_=>none
 | n+1,x5,x11,x12,x13 =>
 bif ltI x13 x12 then
 bif inI x13 (List.length x11) then
 (A25 F (B9 (0,(0,())) x11 x13)).bind fun r6 =>
 bif inI x13 (List.length x5) then
 F8 F k0 n (T2 x5 x13 r6.1) x11 x12 (D5 .i64 x13 1)
 else
 none
 else
 none
 else
 k0 x5
def A0h(F:Nat)(x0:(List qSM)):Option (qL×Unit) :=
 bif Y8 (C7 x0) (C7 x0) 8 then
 F8 F (fun z9 =>
 some (z9,())) F (I7 (C7 x0) (0:Int)) x0 (C7 x0) 0
 else
 none
def A0B(F:Nat)(x0:(List qSM)):Option (qL×Unit) :=
 (A0h F x0).bind fun r1 =>
 some (r1.1,())
def A0C(F:Nat)(x0:Int):Option (Bool×Unit) :=
 bif leI 0 x0 then
 some (leI x0 4611686018427387904,())
 else
 some (false,())
def A2r(F:Nat)(x0:Int):Option ((Int×(Int×qSM))×Int×Unit) :=
 (A0C F x0).bind fun r1 =>
 bif not r1.1 then
 some ((0,(0,(0,(0,())))),(9,()))
 else
 some ((x0,(0,(0,(0,())))),(0,()))
def A0D(F:Nat)(x0:(Int×(Int×qSM))):Option (Bool×Unit) :=
 (G7 F x0.2.2.2.1 x0.2.2.1).bind fun r1 =>
 some (leI r1.1 (A2H .u64 2 (IntKind.wrap .u64 x0.1)),())
def A57(F:Nat)(x0:Int)(x1:Int):Option (Int×Unit) :=
 some (D5 .i64 (A6I .i64 x0 x1) (A0q .i64 (B2d .i64 x0 x1) 1),())
def P7(F:Nat)(x0:(Int×(Int×qSM))):Option ((List qSM)×Unit) :=
 bif eqI x0.2.1 0 then
 some ([],())
 else
 (A57 F x0.2.2.1 x0.2.2.2.1).bind fun r2 =>
 some ([(x0.2.1,(r2.1,()))],())
def U8(F:Nat){R:Type}(kret:(Int×(Int×qSM))→(List qSM)→Option R)(x1:Int)(x2:(Int×(Int×qSM)))(x4:(Int×(Int×qSM))):Option R :=
 (P7 F x2).bind fun r6 =>
 kret (x2.1,(1,(x1,(x1,())))) r6.1
def K2(F:Nat)(x0:(Int×(Int×qSM)))(x1:Int):Option ((Int×(Int×qSM))×(List qSM)×Unit) :=
 bif ltI 0 x0.2.1 then
 let x14v2:=D5 .i64 x0.2.1 1
 let x18v3:=A3u x0.2.2.1 x1
 let x22v4:=B2b x0.2.2.2.1 x1
 (A0D F (x0.1,(x14v2,(x18v3,(x22v4,()))))).bind fun r5 =>
 bif r5.1 then
 some ((x0.1,(x14v2,(x18v3,(x22v4,())))),([],()))
 else
 U8 F (fun z7 z8 =>
 some (z7,(z8,()))) x1 x0 (0,(0,(0,(0,()))))
 else
 U8 F (fun z9 z10 =>
 some (z9,(z10,()))) x1 x0 (0,(0,(0,(0,()))))
def N5(F:Nat)(x0:List Int):Option (Fv×Unit):=some (.itr 119 x0,())
noncomputable def A58 (F:Nat) (x0:(Fv×(Fv×Unit))) (x1:(Int×(Int×qSM))) (x2:Fv):Option ((List qSM)×Unit):=A5p 56 57 119 (fun _=>True) (K2 F) (P7 F) x0 x1 x2
noncomputable def A0o (F:Nat) (x0:qL) (x1:Int):Option ((List qSM)×Int×Unit) :=
 (A2r F x1).bind fun r1 =>
 bif not (eqI r1.2.1 0) then
 some ([],(r1.2.1,()))
 else
 bif ltI 1073741824 (C7 x0) then
 some ([],(3,()))
 else
 (N5 F x0).bind fun r5 =>
 (A58 F ((Fv.fn 56),((Fv.fn 57),())) r1.1 r5.1).bind fun r6 =>
 some (r6.1,(0,()))
def V9(F:Nat){R:Type}(k0:Int→Option R)(kret:Int→Option R):Nat→Int→Int→qL→Int→Int→Option R
 | 0,_,_,_,_,_=>none
 | n+1,x1,x5,x8,x9,x10 =>
 bif ltI x10 x9 then
 bif inI x10 (List.length x8) then
 bif ltI (B9 0 x8 x10) 1 then
 kret (D5 .i64 x1 1)
 else
 bif ltI (I5 .i64 x1 x5) (B9 0 x8 x10) then
 kret (D5 .i64 x1 1)
 else
 V9 F k0 kret n x1 (D5 .i64 x5 (B9 0 x8 x10)) x8 x9 (D5 .i64 x10 1)
 else
 none
 else
 k0 x5
def A59(F:Nat)(x0:qL)(x1:Int):Option (Int×Unit) :=
 V9 F (fun z11 =>
 some (z11,())) (fun z12 =>
 some (z12,())) F x1 0 x0 (C7 x0) 0
def H0(F:Nat){R:Type}(k0:qL→qL→Option R):Nat→qL→qL→qL→Int→Int→Option R
 | 0,_,_,_,_,_=>none
 | n+1,x0,x6,x14,x15,x16 =>
 bif ltI x16 x15 then
 bif inI x16 (List.length x14) then
 bif inI x16 (List.length x6) then
 H0 F k0 n x0 (T2 x6 x16 (IntKind.wrap .u64 (I5 .i64 (B9 0 x14 x16) 1))) x14 x15 (D5 .i64 x16 1)
 else
 none
 else
 none
 else
 k0 x0 x6
def Q9(F:Nat)(x0:qL)(x1:qL):Option (qL×Int×Unit) :=
 bif Y8 (C7 x1) (C7 x1) 8 then
 H0 F (fun z10 z11 =>
 (D4 F z11).bind fun r12 =>
 bif not (eqI r12.2.1 0) then
 some ([],(r12.2.1,()))
 else
 bif K3 ((List.length z10)+(List.length r12.1)) 1 then
 some ((z10++r12.1),(0,()))
 else
 none) F x0 (I7 (C7 x1) (0:Int)) x1 (C7 x1) 0
 else
 none
def J9(F:Nat){R:Type}(k0:(List qSM)→qL→qL→Option R):Nat→(List qSM)→qL→qL→(List qSM)→Int→Int→Option R
 | 0,_,_,_,_,_,_=>none
 | n+1,x0,x4,x5,x14,x15,x16 =>
 bif ltI x16 x15 then
 bif inI x16 (List.length x14) then
 let x19v5:=B9 (0,(0,())) x14 x16
 bif K3 ((List.length x4)+1) 8 then
 bif K3 ((List.length x5)+1) 8 then
 J9 F k0 n x0 (x4++[x19v5.1]) (x5++[x19v5.2.1]) x14 x15 (D5 .i64 x16 1)
 else
 none
 else
 none
 else
 none
 else
 k0 x0 x4 x5
def U9(F:Nat)(x0:(List qSM)):Option (qL×Int×Unit) :=
 bif ltI 4096 (C7 x0) then
 some ([],(3,()))
 else
 J9 F (fun z9 z10 z11 =>
 (A59 F z10 4096).bind fun r12 =>
 bif ltI 4096 r12.1 then
 some ([],(10,()))
 else
 (P5 F [] (IntKind.wrap .u64 (C7 z9))).bind fun r16 =>
 (Q9 F r16.1 z10).bind fun r17 =>
 bif not (eqI r17.2.1 0) then
 some ([],(r17.2.1,()))
 else
 (K6 F z11).bind fun r19 =>
 bif not (eqI r19.2.1 0) then
 some ([],(r19.2.1,()))
 else
 bif K3 ((List.length r17.1)+(List.length r19.1)) 1 then
 some ((r17.1++r19.1),(0,()))
 else
 none) F x0 [] [] x0 (C7 x0) 0
noncomputable def N6 (F:Nat) (x0:(Unit×Unit)) (x1:(List qSM)) (x2:Int):Option (qL×Int×Unit) :=
 (A0B F x1).bind fun r1 =>
 (A0o F r1.1 x2).bind fun r2 =>
 bif not (eqI r2.2.1 0) then
 some ([],(r2.2.1,()))
 else
 (U9 F r2.1).bind fun r4 =>
 some (r4.1,(r4.2.1,()))
def A2s(F:Nat)(x0:Int):Option (Bool×Unit) :=
 bif leI 0 x0 then
 some (leI x0 4611686018427387904,())
 else
 some (false,())
def A6a(F:Nat)(x0:Int):Option ((Int×(Int×(Int×(Int×(qW×Unit)))))×Int×Unit) :=
 (A2s F x0).bind fun r1 =>
 bif not r1.1 then
 some ((0,(0,(0,(0,((false,([0,0,0,0],())),()))))),(9,()))
 else
 some ((x0,(0,(0,(0,((false,([0,0,0,0],())),()))))),(0,()))
def A3O(F:Nat)(x0:(Int×(Int×(Int×(Int×(qW×Unit)))))):Option (Int×Bool×Unit) :=
 (A21 F x0.2.1).bind fun r1 =>
 (A1Y F x0.2.2.2.2.1 r1.1).bind fun r2 =>
 (A4p F r2.1).bind fun r3 =>
 some (r3.1,(r3.2.1,()))
def A1j(F:Nat)(x0:Int)(x1:Int)(x2:Int):Option (Bool×Unit) :=
 bif leI 0 x2 then
 (G7 F x0 x1).bind fun r2 =>
 some (leI r2.1 (IntKind.wrap .u64 x2),())
 else
 some (false,())
def A5y(F:Nat)(x0:(Int×(Int×(Int×(Int×(qW×Unit)))))):Option (Bool×Unit) :=
 (A3O F x0).bind fun r1 =>
 bif r1.2.1 then
 (A1j F r1.1 x0.2.2.1 x0.1).bind fun r2 =>
 bif r2.1 then
 (A1j F r1.1 x0.2.2.2.1 x0.1).bind fun r3 =>
 some (r3.1,())
 else
 some (false,())
 else
 some (false,())
def A0E(F:Nat)(x0:(Int×(Int×(Int×(Int×(qW×Unit)))))):Option ((List qSM)×Unit) :=
 bif eqI x0.2.1 0 then
 some ([],())
 else
 (A3O F x0).bind fun r2 =>
 some ([(x0.2.1,(r2.1,()))],())
def A1k(F:Nat){R:Type}(kret:(Int×(Int×(Int×(Int×(qW×Unit)))))→(List qSM)→Option R)(x1:Int)(x2:(Int×(Int×(Int×(Int×(qW×Unit))))))(x4:(Int×(Int×(Int×(Int×(qW×Unit)))))):Option R :=
 (A21 F x1).bind fun r8 =>
 (A0E F x2).bind fun r9 =>
 kret (x2.1,(1,(x1,(x1,(r8.1,()))))) r9.1
def A0F(F:Nat)(x0:(Int×(Int×(Int×(Int×(qW×Unit))))))(x1:Int):Option ((Int×(Int×(Int×(Int×(qW×Unit)))))×(List qSM)×Unit) :=
 bif ltI 0 x0.2.1 then
 (A21 F x1).bind fun r2 =>
 (A74 F x0.2.2.2.2.1 r2.1).bind fun r3 =>
 let x24v4:=D5 .i64 x0.2.1 1
 let x28v5:=A3u x0.2.2.1 x1
 let x32v6:=B2b x0.2.2.2.1 x1
 (A5y F (x0.1,(x24v4,(x28v5,(x32v6,(r3.1,())))))).bind fun r7 =>
 bif r7.1 then
 some ((x0.1,(x24v4,(x28v5,(x32v6,(r3.1,()))))),([],()))
 else
 A1k F (fun z10 z11 =>
 some (z10,(z11,()))) x1 x0 (0,(0,(0,(0,((false,([0,0,0,0],())),())))))
 else
 A1k F (fun z12 z13 =>
 some (z12,(z13,()))) x1 x0 (0,(0,(0,(0,((false,([0,0,0,0],())),())))))
noncomputable def A3P (F:Nat) (x0:(Fv×(Fv×Unit))) (x1:(Int×(Int×(Int×(Int×(qW×Unit)))))) (x2:Fv):Option ((List qSM)×Unit):=A5p 424 425 119 C5B (A0F F) (A0E F) x0 x1 x2
noncomputable def A76 (F:Nat) (x0:qL) (x1:Int):Option ((List qSM)×Int×Unit) :=
 (A6a F x1).bind fun r1 =>
 bif not (eqI r1.2.1 0) then
 some ([],(r1.2.1,()))
 else
 bif ltI 1073741824 (C7 x0) then
 some ([],(3,()))
 else
 (N5 F x0).bind fun r5 =>
 (A3P F ((Fv.fn 424),((Fv.fn 425),())) r1.1 r5.1).bind fun r6 =>
 some (r6.1,(0,()))
noncomputable def L4 (F:Nat) (x0:(Unit×Unit)) (x1:(List qSM)) (x2:Int):Option (qL×Int×Unit) :=
 (A0B F x1).bind fun r1 =>
 (A76 F r1.1 x2).bind fun r2 =>
 bif not (eqI r2.2.1 0) then
 some ([],(r2.2.1,()))
 else
 (U9 F r2.1).bind fun r4 =>
 some (r4.1,(r4.2.1,()))
def A0Y(F:Nat)(x0:Int):Option ((Option Nat)×Bool×Unit) :=
 bif eqI x0 0 then
 some ((some 182:Option Nat),(true,()))
 else
 bif eqI x0 1 then
 some ((some 183:Option Nat),(true,()))
 else
 bif eqI x0 2 then
 some ((some 186:Option Nat),(true,()))
 else
 bif eqI x0 3 then
 some ((some 187:Option Nat),(true,()))
 else
 bif eqI x0 4 then
 some ((some 188:Option Nat),(true,()))
 else
 some ((none:Option Nat),(false,()))
def A1l(F:Nat)(x0:(List qSM)):Option (qL×Unit) :=
 (A0g F x0).bind fun r1 =>
 some (r1.1,())
def H3(F:Nat){R:Type}(k0:Option R)(kret:Bool→Option R):Nat→qL→Int→Option R
 | 0,_,_=>none
 | n+1,x0,x3 =>
 bif ltI x3 (C7 x0) then
 bif inI x3 (List.length x0) then
 bif inI (I5 .i64 x3 1) (List.length x0) then
 bif leI (B9 0 x0 x3) (B9 0 x0 (I5 .i64 x3 1)) then
 kret false
 else
 H3 F k0 kret n x0 (D5 .i64 x3 1)
 else
 none
 else
 none
 else
 k0
def S6(F:Nat)(x0:qL):Option (Bool×Unit) :=
 H3 F (
 some (true,())) (fun z8 =>
 some (z8,())) F x0 1
def A3Q(F:Nat)(x0:(List qSM)):Option (Int×Unit) :=
 (A1l F x0).bind fun r1 =>
 (S6 F r1.1).bind fun r2 =>
 bif not r2.1 then
 some (7,())
 else
 some (0,())
def N7(F:Nat)(x0:qL)(x1:Int):Option (qL×Unit) :=
 (Y0 F x1).bind fun r1 =>
 (P5 F x0 r1.1).bind fun r2 =>
 some (r2.1,())
def E9(F:Nat){R:Type}(k1:qL→Option R):Nat→qL→qL→Int→Int→Option R
 | 0,_,_,_,_=>none
 | n+1,x0,x4,x5,x6 =>
 bif ltI x6 (C7 x0) then
 bif inI x6 (List.length x0) then
 bif inI (I5 .i64 x6 1) (List.length x0) then
 (G7 F (B9 0 x0 x6) (B9 0 x0 (I5 .i64 x6 1))).bind fun r10 =>
 bif eqI x6 1 then
 bif K3 ((List.length x4)+1) 8 then
 E9 F k1 n x0 (x4++[I5 .u64 r10.1 1]) r10.1 (D5 .i64 x6 1)
 else
 none
 else
 (Y0 F (IntKind.wrap .i64 (I5 .u64 r10.1 x5))).bind fun r17 =>
 bif K3 ((List.length x4)+1) 8 then
 E9 F k1 n x0 (x4++[r17.1]) r10.1 (D5 .i64 x6 1)
 else
 none
 else
 none
 else
 none
 else
 k1 x4
def A1H(F:Nat)(x0:qL):Option (qL×Int×Unit) :=
 bif ltI 65536 (C7 x0) then
 some ([],(3,()))
 else
 (S6 F x0).bind fun r3 =>
 bif not r3.1 then
 some ([],(7,()))
 else
 E9 F (fun z20 =>
 (D4 F z20).bind fun r21 =>
 some (r21.1,(r21.2.1,()))) F x0 [] 0 1
def A0G(F:Nat){R:Type}(kn:(List qSM)→Int→Int→(Option Nat)→Option R)(kret:qL→Int→Option R)(x0:(List qSM))(x1:Int)(x2:Int)(x8:(Option Nat))(x23:Bool):Option R :=
 bif x23 then
 kret [] 9
 else
 bif ltI (C7 x0) 1 then
 kret [] 10
 else
 bif ltI 4096 (C7 x0) then
 kret [] 10
 else
 kn x0 x1 x2 x8
noncomputable def A09 (F:Nat) {R:Type} (kret:qL→Int→Option R) (x0:(List qSM)) (x1:Int) (x2:Int) (x8:(Option Nat)):Option R :=
 (P5 F [IntKind.wrap .u8 x1] (IntKind.wrap .u64 x2)).bind fun r17 =>
 (P5 F r17.1 (IntKind.wrap .u64 (C7 x0))).bind fun r20 =>
 bif inI 0 (List.length x0) then
 (N7 F r20.1 (B9 (0,(0,())) x0 0).1).bind fun r22 =>
 bif inI (I5 .i64 (C7 x0) 1) (List.length x0) then
 (N7 F r22.1 (B9 (0,(0,())) x0 (I5 .i64 (C7 x0) 1)).1).bind fun r26 =>
 (A1l F x0).bind fun r27 =>
 (A1H F r27.1).bind fun r28 =>
 bif not (eqI r28.2.1 0) then
 kret [] r28.2.1
 else
 bif B8j x8 186 then
 (N6 F ((),()) x0 x2).bind fun r30 =>
 bif not (eqI r30.2.1 0) then
 kret [] r30.2.1
 else
 bif K3 ((List.length r26.1)+(List.length r28.1)) 1 then
 let x69v32:=(r26.1++r28.1)
 bif K3 ((List.length x69v32)+(List.length r30.1)) 1 then
 kret (x69v32++r30.1) 0
 else
 none
 else
 none
 else
 bif B8j x8 187 then
 (L4 F ((),()) x0 x2).bind fun r34 =>
 bif not (eqI r34.2.1 0) then
 kret [] r34.2.1
 else
 bif K3 ((List.length r26.1)+(List.length r28.1)) 1 then
 let x69v36:=(r26.1++r28.1)
 bif K3 ((List.length x69v36)+(List.length r34.1)) 1 then
 kret (x69v36++r34.1) 0
 else
 none
 else
 none
 else
 none
 else
 none
 else
 none
noncomputable def A0H (F:Nat) {R:Type} (kret:qL→Int→Option R) (x0:(List qSM)) (x1:Int) (x2:Int) (x8:(Option Nat)):Option R :=
 (A3Q F x0).bind fun r12 =>
 bif not (eqI r12.1 0) then
 kret [] r12.1
 else
 bif eqI x1 0 then
 A09 F (fun z38 z39 =>
 kret z38 z39) x0 x1 0 x8
 else
 A09 F (fun z40 z41 =>
 kret z40 z41) x0 x1 x2 x8
noncomputable def A1m (F:Nat) (x0:(List qSM)) (x1:Int) (x2:Int):Option (qL×Int×Unit) :=
 (A0Y F x1).bind fun r1 =>
 bif not r1.2.1 then
 some ([],(8,()))
 else
 bif ltI x2 0 then
 A0G F (fun z8 z9 z10 z11 =>
 A0H F (fun z42 z43 =>
 some (z42,(z43,()))) z8 z9 z10 z11) (fun z44 z45 =>
 some (z44,(z45,()))) x0 x1 x2 r1.1 true
 else
 A0G F (fun z47 z48 z49 z50 =>
 A0H F (fun z51 z52 =>
 some (z51,(z52,()))) z47 z48 z49 z50) (fun z53 z54 =>
 some (z53,(z54,()))) x0 x1 x2 r1.1 (ltI 4611686018427387904 x2)
def S7(F:Nat)(x0:qL)(x1:Int):Option (Int×Int×Int×Unit) :=
 (U1 F x0 x1).bind fun r1 =>
 bif not (eqI r1.2.2.1 0) then
 some (0,(0,(r1.2.2.1,())))
 else
 (S5 F r1.1).bind fun r3 =>
 some (r3.1,(r1.2.1,(0,())))
def A19(F:Nat){R:Type}(kret:(Int×(Int×(Int×qSM)))→Int→Int→Option R)(x0:qL)(x2:(Int×(Int×(Int×qSM))))(x3:Int)(x5:Int):Option R :=
 (U1 F x0 x3).bind fun r13 =>
 bif not (eqI r13.2.2.1 0) then
 kret (x2.1,(IntKind.wrap .i64 x5,x2.2.2)) 0 r13.2.2.1
 else
 bif ltI r13.1 1 then
 kret (x2.1,(IntKind.wrap .i64 x5,x2.2.2)) 0 10
 else
 bif ltI 4096 r13.1 then
 kret (x2.1,(IntKind.wrap .i64 x5,x2.2.2)) 0 10
 else
 (S7 F x0 r13.2.1).bind fun r18 =>
 bif not (eqI r18.2.2.1 0) then
 kret (x2.1,(IntKind.wrap .i64 x5,(IntKind.wrap .i64 r13.1,(r18.1,x2.2.2.2.2)))) 0 r18.2.2.1
 else
 (S7 F x0 r18.2.1).bind fun r20 =>
 bif not (eqI r20.2.2.1 0) then
 kret (x2.1,(IntKind.wrap .i64 x5,(IntKind.wrap .i64 r13.1,(r18.1,(r20.1,x2.2.2.2.2.2))))) 0 r20.2.2.1
 else
 kret (x2.1,(IntKind.wrap .i64 x5,(IntKind.wrap .i64 r13.1,(r18.1,(r20.1,x2.2.2.2.2.2))))) r20.2.1 0
def A4r(F:Nat)(x0:qL):Option ((Int×(Int×(Int×qSM)))×Int×Int×Unit) :=
 bif eqI (C7 x0) 0 then
 some ((0,(0,(0,(0,(0,()))))),(0,(4,())))
 else
 bif inI 0 (List.length x0) then
 bif ltI 4 (B9 0 x0 0) then
 some ((0,(0,(0,(0,(0,()))))),(0,(8,())))
 else
 bif inI 0 (List.length x0) then
 (U1 F x0 1).bind fun r7 =>
 bif not (eqI r7.2.2.1 0) then
 some ((IntKind.wrap .i64 (B9 0 x0 0),(0,(0,(0,(0,()))))),(0,(r7.2.2.1,())))
 else
 bif ltI 4611686018427387904 r7.1 then
 some ((IntKind.wrap .i64 (B9 0 x0 0),(0,(0,(0,(0,()))))),(0,(9,())))
 else
 bif eqI (IntKind.wrap .i64 (B9 0 x0 0)) 0 then
 bif not (eqI r7.1 0) then
 some ((IntKind.wrap .i64 (B9 0 x0 0),(0,(0,(0,(0,()))))),(0,(9,())))
 else
 A19 F (fun z22 z23 z24 =>
 some (z22,(z23,(z24,())))) x0 (IntKind.wrap .i64 (B9 0 x0 0),(0,(0,(0,(0,()))))) r7.2.1 r7.1
 else
 A19 F (fun z25 z26 z27 =>
 some (z25,(z26,(z27,())))) x0 (IntKind.wrap .i64 (B9 0 x0 0),(0,(0,(0,(0,()))))) r7.2.1 r7.1
 else
 none
 else
 none
def S8(F:Nat){R:Type}(kn:Int→qL→Int→qL→Int→Int→Option R)(kret:qL→Int→Int→Option R)(x12:Int)(x14:qL)(x15:Int)(x16:Int)(x49:qL)(x50:Int)(x51:Int):Option R :=
 bif inI x16 (List.length x14) then
 bif eqI x15 0 then
 kret [] 0 7
 else
 (G7 F 9223372036854775807 (B9 0 x14 x16)).bind fun r16 =>
 bif ltI r16.1 x15 then
 kret [] 0 7
 else
 (Y1 F (B9 0 x14 x16) x15).bind fun r18 =>
 bif K3 ((List.length x14)+1) 8 then
 kn x12 (x14++[r18.1]) x15 x49 x50 x51
 else
 none
 else
 none
def D2(F:Nat){R:Type}(k0:Int→qL→Option R)(kret:qL→Int→Int→Option R):Nat→Int→qL→Int→qL→Int→Int→Option R
 | 0,_,_,_,_,_,_=>none
 | n+1,x12,x14,x15,x49,x50,x51 =>
 bif ltI x51 x50 then
 bif inI x51 (List.length x49) then
 bif eqI x51 0 then
 S8 F (fun z20 z21 z22 z23 z24 z25 =>
 D2 F k0 kret n z20 z21 z22 z23 z24 (D5 .i64 z25 1)) (fun z27 z28 z29 =>
 kret z27 z28 z29) x12 x14 (D5 .u64 (B9 0 x49 x51) 1) x51 x49 x50 x51
 else
 (S5 F (B9 0 x49 x51)).bind fun r30 =>
 S8 F (fun z33 z34 z35 z36 z37 z38 =>
 D2 F k0 kret n z33 z34 z35 z36 z37 (D5 .i64 z38 1)) (fun z40 z41 z42 =>
 kret z40 z41 z42) x12 x14 (D5 .u64 x15 (IntKind.wrap .u64 r30.1)) x51 x49 x50 x51
 else
 none
 else
 k0 x12 x14
def A0I(F:Nat)(x0:qL)(x1:Int)(x2:Int)(x3:Int):Option (qL×Int×Int×Unit) :=
 bif ltI x1 0 then
 some ([],(0,(2,())))
 else
 bif ltI (C7 x0) x1 then
 some ([],(0,(2,())))
 else
 bif ltI x3 1 then
 some ([],(0,(2,())))
 else
 bif ltI 65536 x3 then
 some ([],(0,(2,())))
 else
 (H9 F x0 x1 (I5 .i64 x3 1)).bind fun r7 =>
 bif not (eqI r7.2.2.1 0) then
 some ([],(0,(r7.2.2.1,())))
 else
 D2 F (fun z43 z44 =>
 some (z44,(z43,(0,())))) (fun z45 z46 z47 =>
 some (z45,(z46,(z47,())))) F r7.2.1 [x2] 0 r7.1 (C7 r7.1) 0
def W6(F:Nat){R:Type}(k0:(List qSM)→Option R):Nat→qL→qL→(List qSM)→Int→Int→Option R
 | 0,_,_,_,_,_=>none
 | n+1,x0,x1,x6,x17,x18 =>
 bif ltI x18 x17 then
 bif inI x18 (List.length x0) then
 bif inI x18 (List.length x1) then
 bif inI x18 (List.length x6) then
 W6 F k0 n x0 x1 (T2 x6 x18 (B9 0 x0 x18,(B9 0 x1 x18,()))) x17 (D5 .i64 x18 1)
 else
 none
 else
 none
 else
 none
 else
 k0 x6
def A3b(F:Nat)(x0:qL)(x1:qL):Option ((List qSM)×Bool×Unit) :=
 bif not (eqI (C7 x0) (C7 x1)) then
 some ([],(false,()))
 else
 bif Y8 (C7 x0) (C7 x0) 16 then
 W6 F (fun z12 =>
 some (z12,(true,()))) F x0 x1 (I7 (C7 x0) ((0,(0,())):qSM)) (C7 (I7 (C7 x0) ((0,(0,())):qSM))) 0
 else
 none
def V0(F:Nat){R:Type}(kret:(List qSM)→(Int×(Int×(Int×qSM)))→Int→Int→Option R)(x0:qL)(x3:(Int×(Int×(Int×qSM))))(x6:(Int×(Int×(Int×qSM))))(x8:Int)(x9:qL)(x12:qL)(x13:Int)(x14:Int):Option R :=
 bif not (eqI x8 0) then
 kret [] (0,(0,(0,(0,(0,()))))) 0 x8
 else
 bif ltI x14 (C7 x0) then
 kret [] (0,(0,(0,(0,(0,()))))) 0 13
 else
 (A3b F x9 x12).bind fun r14 =>
 kret r14.1 x6 x13 0
def A3S(F:Nat)(x0:qL):Option ((List qSM)×(Int×(Int×(Int×qSM)))×Int×Int×Unit) :=
 (A4r F x0).bind fun r1 =>
 bif not (eqI r1.2.2.1 0) then
 some ([],((0,(0,(0,(0,(0,()))))),(0,(r1.2.2.1,()))))
 else
 (A0I F x0 r1.2.1 r1.1.2.2.2.1 r1.1.2.2.1).bind fun r3 =>
 bif not (eqI r3.2.2.1 0) then
 some ([],((0,(0,(0,(0,(0,()))))),(0,(r3.2.2.1,()))))
 else
 bif inI (I5 .i64 (C7 r3.1) 1) (List.length r3.1) then
 bif not (eqI (B9 0 r3.1 (I5 .i64 (C7 r3.1) 1)) r1.1.2.2.2.2.1) then
 some ([],((0,(0,(0,(0,(0,()))))),(0,(7,()))))
 else
 (A0Y F r1.1.1).bind fun r9 =>
 bif B8j r9.1 186 then
 (P6 F () x0 r3.2.1 r3.1 r1.1.2.1).bind fun r10 =>
 V0 F (fun z15 z16 z17 z18 =>
 some (z15,(z16,(z17,(z18,()))))) x0 (0,(0,(0,(0,(0,()))))) r1.1 r10.2.2.2.1 r3.1 r10.1 r10.2.1 r10.2.2.1
 else
 bif B8j r9.1 187 then
 (P6 F () x0 r3.2.1 r3.1 r1.1.2.1).bind fun r19 =>
 V0 F (fun z20 z21 z22 z23 =>
 some (z20,(z21,(z22,(z23,()))))) x0 (0,(0,(0,(0,(0,()))))) r1.1 r19.2.2.2.1 r3.1 r19.1 r19.2.1 r19.2.2.1
 else
 none
 else
 none
def Z6(F:Nat)(x0:qL):Option (Int×Int×Unit) :=
 (A3S F x0).bind fun r1 =>
 some (r1.2.2.1,(r1.2.2.2.1,()))
def A5z(F:Nat)(x0:Int)(x1:Int):Option (Int×Bool×Unit) :=
 bif ltI 0 x0 then
 bif ltI 0 x1 then
 bif leI (D5 .i64 x0 x1) 0 then
 some (0,(false,()))
 else
 bif ltI x0 0 then
 bif ltI x1 0 then
 bif leI 0 (D5 .i64 x0 x1) then
 some (0,(false,()))
 else
 some (D5 .i64 x0 x1,(true,()))
 else
 some (D5 .i64 x0 x1,(true,()))
 else
 some (D5 .i64 x0 x1,(true,()))
 else
 bif ltI x0 0 then
 bif ltI x1 0 then
 bif leI 0 (D5 .i64 x0 x1) then
 some (0,(false,()))
 else
 some (D5 .i64 x0 x1,(true,()))
 else
 some (D5 .i64 x0 x1,(true,()))
 else
 some (D5 .i64 x0 x1,(true,()))
 else
 bif ltI x0 0 then
 bif ltI x1 0 then
 bif leI 0 (D5 .i64 x0 x1) then
 some (0,(false,()))
 else
 some (D5 .i64 x0 x1,(true,()))
 else
 some (D5 .i64 x0 x1,(true,()))
 else
 some (D5 .i64 x0 x1,(true,()))
def A1a(F:Nat)(x0:Int)(x1:Int):Option (Int×Unit) :=
 bif ltI x0 x1 then
 some (I5 .u64 (IntKind.wrap .u64 x1) (IntKind.wrap .u64 x0),())
 else
 some (I5 .u64 (IntKind.wrap .u64 x0) (IntKind.wrap .u64 x1),())
def A4s(F:Nat)(x0:Int)(x1:Int)(x2:Int):Option (Bool×Unit) :=
 bif leI 0 x2 then
 (A1a F x0 x1).bind fun r2 =>
 some (leI r2.1 (IntKind.wrap .u64 x2),())
 else
 some (false,())
def S9(F:Nat){R:Type}(k0:qL→Option R):Nat→(List qSM)→qL→Int→Option R
 | 0,_,_,_=>none
 | n+1,x0,x3,x4 =>
 bif ltI x4 (C7 x0) then
 bif inI x4 (List.length x0) then
 bif K3 ((List.length x3)+1) 8 then
 S9 F k0 n x0 (x3++[(B9 (0,(0,())) x0 x4).2.1]) (D5 .i64 x4 1)
 else
 none
 else
 none
 else
 k0 x3
def A2j(F:Nat)(x0:(List qSM)):Option (qL×Unit) :=
 S9 F (fun z6 =>
 some (z6,())) F x0 [] 0
def B0W(F:Nat):Option (Bool×Unit):=some (true,())
def D3(F:Nat){R:Type}(k0:Int→Int→Int→(List qSM)→Option R):Nat→qTP→Int→Int→Int→(List qSM)→Int→Option R
 | 0,_,_,_,_,_,_=>none
 | n+1,x3,x5,x10,x14,x15,x16 =>
 bif ltI x16 (C7 x15) then
 (B6 F x3 9).bind fun r17 =>
 bif inI x16 (List.length x15) then
 (A5z F (B9 (0,(0,())) x15 x16).2.1 (I5 .i64 r17.2.1 4)).bind fun r20 =>
 bif r20.2.1 then
 bif inI x16 (List.length x15) then
 (A4s F r20.1 (B9 (0,(0,())) x15 x16).2.1 x14).bind fun r22 =>
 bif r22.1 then
 bif inI x16 (List.length x15) then
 D3 F k0 n r17.1 x5 x10 x14 (T2 x15 x16 ((B9 (0,(0,())) x15 x16).1,(r20.1,(B9 (0,(0,())) x15 x16).2.2))) (D5 .i64 x16 1)
 else
 none
 else
 D3 F k0 n r17.1 x5 x10 x14 x15 (D5 .i64 x16 1)
 else
 none
 else
 D3 F k0 n r17.1 x5 x10 x14 x15 (D5 .i64 x16 1)
 else
 none
 else
 k0 x5 x10 x14 x15
noncomputable def A3T (F:Nat) (x0:qL):Option (Bool×Unit) :=
 (B0U F x0).bind fun r1 =>
 (A15 F r1.1 40).bind fun r2 =>
 (U0 F r2.1).bind fun r3 =>
 (A1m F r2.2.1 2 r3.2.1).bind fun r4 =>
 (A1m F r2.2.1 3 r3.2.1).bind fun r5 =>
 (Z6 F r4.1).bind fun r6 =>
 (Z6 F r5.1).bind fun r7 =>
 bif not (eqI r4.2.1 0) then
 some (false,())
 else
 bif not (eqI r5.2.1 0) then
 some (false,())
 else
 bif not (eqI r6.2.1 0) then
 some (false,())
 else
 bif not (eqI r7.2.1 0) then
 some (false,())
 else
 bif ltI r7.1 r6.1 then
 some (false,())
 else
 bif K3 (0+(List.length r2.2.1)) 16 then
 D3 F (fun z27 z28 z29 z30 =>
 (A2j F z30).bind fun r31 =>
 (A0o F r31.1 (I5 .i64 z27 z29)).bind fun r33 =>
 (B0W F).bind fun r34 =>
 bif r34.1 then
 bif eqI r33.2.1 0 then
 some (leI z28 (C7 r33.1),())
 else
 some (false,())
 else
 some (false,())) F r3.1 r3.2.1 r6.1 (A4L .i64 r3.2.1 2) ([]++r2.2.1) 0
 else
 none
end Go.Proofs.YtppoifpabafdlaaGreat
