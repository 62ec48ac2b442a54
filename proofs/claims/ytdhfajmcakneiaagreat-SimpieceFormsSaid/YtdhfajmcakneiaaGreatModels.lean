/- The plain models of the functions. Written by program. -/
import Derived.Test.YtdhfajmcakneiaaGreatEngD
set_option linter.unusedVariables false
set_option linter.unusedSimpArgs false
namespace Go.Proofs.YtdhfajmcakneiaaGreat
open Go.Eng
theorem iP.{u}{c:Prop}{h:Decidable c}(hc:c){α:Sort u}{t e:α}:@ite α c h t e=t:=if_pos hc
theorem iN.{u}{c:Prop}{h:Decidable c}(hc:¬c){α:Sort u}{t e:α}:@ite α c h t e=e:=if_neg hc
theorem cT.{u}{α:Sort u}{a b:α}:cond true a b=a:=rfl
theorem cF.{u}{α:Sort u}{a b:α}:cond false a b=b:=rfl
theorem bS.{u,v}{α:Type u}{β:Type v}(a:α)(f:α→Option β):(some a).bind f=f a:=rfl
abbrev qL:=List Int
abbrev qW:=(Bool×((List Int)×Unit))
abbrev qR:=((Bool×((List Int)×Unit))×((Bool×((List Int)×Unit))×Unit))
abbrev qG:=(Int×(((Bool×((List Int)×Unit))×((Bool×((List Int)×Unit))×Unit))×((List Int)×Unit)))
abbrev qGN:=(Int×(((Bool×((List Int)×Unit))×((Bool×((List Int)×Unit))×Unit))×(Unit×Unit)))
abbrev qCO:=(Bool×(((Bool×((List Int)×Unit))×((Bool×((List Int)×Unit))×Unit))×(((Bool×((List Int)×Unit))×((Bool×((List Int)×Unit))×Unit))×Unit)))
abbrev qPI:=(Int×(Int×(Int×((Bool×(((Bool×((List Int)×Unit))×((Bool×((List Int)×Unit))×Unit))×(((Bool×((List Int)×Unit))×((Bool×((List Int)×Unit))×Unit))×Unit)))×Unit))))
abbrev qSM:=(Int×(Int×Unit))
abbrev qPS:=(Int×(Int×(Int×((Int×(Int×Unit))×(Int×(Int×((Bool×(((Bool×((List Int)×Unit))×((Bool×((List Int)×Unit))×Unit))×(((Bool×((List Int)×Unit))×((Bool×((List Int)×Unit))×Unit))×Unit)))×Unit)))))))
abbrev qTP:=((List Int)×(Int×Unit))
def Z7(F:Nat)(x0:qL)(x1:Int):Option (qL×Unit):=A1e 1 x0 x1
def B2O(F:Nat)(x0:qL):Option (qTP×Unit) :=
 some ((x0,(0,())),())
def A5J(F:Nat)(x0:Int)(x1:Int):Option (Int×Unit) :=
 bif ltI x1 1 then
 some (0,())
 else
 bif eqI x1 0 then
 none
 else
 bif ltI (A1y x0 x1) 0 then
 some (C2 .i64 (A1y x0 x1) x1,())
 else
 some (A1y x0 x1,())
def B4(F:Nat)(x0:qTP)(x1:Int):Option (qTP×Int×Unit) :=
 bif leI (C7 x0.1) x0.2.1 then
 some (x0,(0,()))
 else
 let x19v3:=C2 .i64 x0.2.1 1
 bif inI (E7 .i64 x19v3 1) (List.length x0.1) then
 (A5J F (B1 0 x0.1 (E7 .i64 x19v3 1)) x1).bind fun r6 =>
 some ((x0.1,(x19v3,x0.2.2)),(r6.1,()))
 else
 none
def S8(F:Nat){R:Type}(k0:qTP→Int→Option R):Nat→qTP→Int→Int→Option R
 | 0,_,_,_=>none
 | n+1,x0,x3,x4 =>
 bif ltI x4 4 then
 (B4 F x0 65536).bind fun r3 =>
 S8 F k0 n r3.1 (C2 .u64 (A0Y .u64 x3 16) (IntKind.wrap .u64 r3.2.1)) (C2 .i64 x4 1)
 else
 k0 x0 x3
def O4(F:Nat)(x0:qTP):Option (qTP×Int×Unit) :=
 S8 F (fun z7 z8 =>
 some (z7,(z8,()))) F x0 0 0
def K7(F:Nat)(x0:qTP):Option (qTP×Int×Unit) :=
 (B4 F x0 8).bind fun r1 =>
 bif eqI r1.2.1 0 then
 (O4 F r1.1).bind fun r3 =>
 some (r3.1,(IntKind.wrap .i64 r3.2.1,()))
 else
 bif eqI r1.2.1 1 then
 (B4 F r1.1 4).bind fun r6 =>
 some (r6.1,(E7 .i64 9223372036854775807 r6.2.1,()))
 else
 bif eqI r1.2.1 2 then
 (B4 F r1.1 4).bind fun r9 =>
 some (r9.1,(C2 .i64 (-9223372036854775808) r9.2.1,()))
 else
 bif eqI r1.2.1 3 then
 (O4 F r1.1).bind fun r12 =>
 (B4 F r12.1 64).bind fun r13 =>
 let x26v14:=IntKind.wrap .u64 r13.2.1
 bif ltI x26v14 0 then
 none
 else
 some (r13.1,(IntKind.wrap .i64 (T8 .u64 r12.2.1 x26v14),()))
 else
 (B4 F r1.1 2000).bind fun r17 =>
 some (r17.1,(E7 .i64 r17.2.1 1000,()))
def K5(F:Nat)(x0:qTP)(x1:Int):Option (qTP×Bool×Unit) :=
 (B4 F x0 x1).bind fun r1 =>
 bif eqI x1 0 then
 none
 else
 some (r1.1,(eqI r1.2.1 (A1y 1 x1),()))
def F4(F:Nat){R:Type}(kn:qTP→qL→Int→Int→Int→Int→Option R)(kret:qTP→qL→Option R)(x0:qTP)(x5:qL)(x6:Int)(x7:Int)(x8:Int)(x9:Int)(x10:Int):Option R :=
 bif ltI (E7 .u64 9223372036854775807 (IntKind.wrap .u64 x7)) x10 then
 kret x0 x5
 else
 kn x0 x5 x6 (IntKind.wrap .i64 (C2 .u64 (IntKind.wrap .u64 x7) x10)) x8 x9
def D0(F:Nat){R:Type}(k0:qTP→qL→Option R)(kret:qTP→qL→Option R):Nat→qTP→qL→Int→Int→Int→Int→Option R
 | 0,_,_,_,_,_,_=>none
 | n+1,x0,x5,x6,x7,x8,x9 =>
 bif ltI 0 x9 then
 bif D8 ((List.length x5)+1) 8 then
 bif eqI x6 1 then
 (B4 F x0 9).bind fun r11 =>
 F4 F (fun z20 z21 z22 z23 z24 z25 =>
 D0 F k0 kret n z20 z21 z22 z23 z24 (E7 .i64 z25 1)) (fun z27 z28 =>
 kret z27 z28) r11.1 (x5++[x7]) x6 x7 x8 x9 (IntKind.wrap .u64 (C2 .i64 1 r11.2.1))
 else
 bif eqI x6 2 then
 (B4 F x0 3).bind fun r30 =>
 F4 F (fun z33 z34 z35 z36 z37 z38 =>
 D0 F k0 kret n z33 z34 z35 z36 z37 (E7 .i64 z38 1)) (fun z40 z41 =>
 kret z40 z41) r30.1 (x5++[x7]) x6 x7 x8 x9 (C2 .u64 x8 (IntKind.wrap .u64 r30.2.1))
 else
 bif eqI x6 3 then
 (O4 F x0).bind fun r43 =>
 (B4 F r43.1 56).bind fun r44 =>
 let x52v45:=C2 .i64 4 r44.2.1
 bif ltI (IntKind.wrap .u64 x52v45) 0 then
 none
 else
 F4 F (fun z49 z50 z51 z52 z53 z54 =>
 D0 F k0 kret n z49 z50 z51 z52 z53 (E7 .i64 z54 1)) (fun z56 z57 =>
 kret z56 z57) r44.1 (x5++[x7]) x6 x7 x8 x9 (C2 .u64 1 (T8 .u64 r43.2.1 (IntKind.wrap .u64 x52v45)))
 else
 bif eqI x6 4 then
 (K5 F x0 4).bind fun r59 =>
 bif r59.2.1 then
 (O4 F r59.1).bind fun r60 =>
 (B4 F r60.1 8).bind fun r61 =>
 let x64v62:=C2 .i64 1 r61.2.1
 bif ltI (IntKind.wrap .u64 x64v62) 0 then
 none
 else
 F4 F (fun z66 z67 z68 z69 z70 z71 =>
 D0 F k0 kret n z66 z67 z68 z69 z70 (E7 .i64 z71 1)) (fun z73 z74 =>
 kret z73 z74) r61.1 (x5++[x7]) x6 x7 x8 x9 (C2 .u64 1 (T8 .u64 r60.2.1 (IntKind.wrap .u64 x64v62)))
 else
 F4 F (fun z75 z76 z77 z78 z79 z80 =>
 D0 F k0 kret n z75 z76 z77 z78 z79 (E7 .i64 z80 1)) (fun z82 z83 =>
 kret z82 z83) r59.1 (x5++[x7]) x6 x7 x8 x9 x8
 else
 F4 F (fun z84 z85 z86 z87 z88 z89 =>
 D0 F k0 kret n z84 z85 z86 z87 z88 (E7 .i64 z89 1)) (fun z91 z92 =>
 kret z91 z92) x0 (x5++[x7]) x6 x7 x8 x9 x8
 else
 none
 else
 k0 x0 x5
def A1G(F:Nat)(x0:qTP)(x1:Int):Option (qTP×qL×Unit) :=
 (B4 F x0 5).bind fun r1 =>
 (K7 F r1.1).bind fun r2 =>
 (B4 F r2.1 50).bind fun r3 =>
 (B4 F r3.1 (C2 .i64 x1 1)).bind fun r7 =>
 D0 F (fun z93 z94 =>
 some (z93,(z94,()))) (fun z95 z96 =>
 some (z95,(z96,()))) F r7.1 [] r1.2.1 r2.2.1 (IntKind.wrap .u64 (C2 .i64 1 r3.2.1)) r7.2.1
def B7(F:Nat){R:Type}(k0:qTP→(List qSM)→Option R):Nat→qTP→qL→(List qSM)→Int→Int→Int→Int→Option R
 | 0,_,_,_,_,_,_,_=>none
 | n+1,x0,x5,x6,x7,x8,x9,x10 =>
 bif ltI x10 (C7 x5) then
 bif eqI x7 1 then
 bif inI x10 (List.length x5) then
 bif D8 ((List.length x6)+1) 16 then
 B7 F k0 n x0 x5 (x6++[(B1 0 x5 x10,(C2 .i64 x8 (A0X .i64 x10 x9),()))]) x7 x8 x9 (C2 .i64 x10 1)
 else
 none
 else
 none
 else
 bif eqI x7 2 then
 (B4 F x0 7).bind fun r17 =>
 bif inI x10 (List.length x5) then
 bif D8 ((List.length x6)+1) 16 then
 B7 F k0 n r17.1 x5 (x6++[(B1 0 x5 x10,(C2 .i64 (C2 .i64 x8 (A0X .i64 x10 x9)) (E7 .i64 r17.2.1 3),()))]) x7 x8 x9 (C2 .i64 x10 1)
 else
 none
 else
 none
 else
 bif eqI x7 3 then
 (B4 F x0 9).bind fun r24 =>
 bif inI x10 (List.length x5) then
 bif D8 ((List.length x6)+1) 16 then
 B7 F k0 n r24.1 x5 (x6++[(B1 0 x5 x10,(C2 .i64 x8 (E7 .i64 r24.2.1 4),()))]) x7 x8 x9 (C2 .i64 x10 1)
 else
 none
 else
 none
 else
 bif eqI x7 4 then
 (K7 F x0).bind fun r31 =>
 bif inI x10 (List.length x5) then
 bif D8 ((List.length x6)+1) 16 then
 B7 F k0 n r31.1 x5 (x6++[(B1 0 x5 x10,(r31.2.1,()))]) x7 x8 x9 (C2 .i64 x10 1)
 else
 none
 else
 none
 else
 bif eqI x7 5 then
 (K5 F x0 5).bind fun r36 =>
 bif r36.2.1 then
 (B4 F r36.1 400).bind fun r37 =>
 let x66v38:=E7 .i64 r37.2.1 200
 (B4 F r37.1 3).bind fun r40 =>
 bif inI x10 (List.length x5) then
 bif D8 ((List.length x6)+1) 16 then
 B7 F k0 n r40.1 x5 (x6++[(B1 0 x5 x10,(C2 .i64 (C2 .i64 x8 x66v38) r40.2.1,()))]) x7 (C2 .i64 x8 x66v38) x9 (C2 .i64 x10 1)
 else
 none
 else
 none
 else
 (B4 F r36.1 3).bind fun r45 =>
 bif inI x10 (List.length x5) then
 bif D8 ((List.length x6)+1) 16 then
 B7 F k0 n r45.1 x5 (x6++[(B1 0 x5 x10,(C2 .i64 x8 r45.2.1,()))]) x7 x8 x9 (C2 .i64 x10 1)
 else
 none
 else
 none
 else
 bif eqI x7 6 then
 (B4 F x0 50).bind fun r51 =>
 (B4 F r51.1 50).bind fun r52 =>
 bif inI x10 (List.length x5) then
 bif D8 ((List.length x6)+1) 16 then
 B7 F k0 n r52.1 x5 (x6++[(B1 0 x5 x10,(A0X .i64 (A0X .i64 r51.2.1 r52.2.1) x9,()))]) x7 x8 x9 (C2 .i64 x10 1)
 else
 none
 else
 none
 else
 bif inI x10 (List.length x5) then
 bif D8 ((List.length x6)+1) 16 then
 B7 F k0 n x0 x5 (x6++[(B1 0 x5 x10,(x8,()))]) x7 x8 x9 (C2 .i64 x10 1)
 else
 none
 else
 none
 else
 k0 x0 x6
def A0F(F:Nat)(x0:qTP)(x1:Int):Option (qTP×(List qSM)×Unit) :=
 (A1G F x0 x1).bind fun r1 =>
 (B4 F r1.1 7).bind fun r2 =>
 (K7 F r2.1).bind fun r3 =>
 (B4 F r3.1 41).bind fun r4 =>
 B7 F (fun z61 z62 =>
 some (z61,(z62,()))) F r4.1 r1.2.1 [] r2.2.1 r3.2.1 (E7 .i64 r4.2.1 20) 0
def A2q(F:Nat)(x0:qTP)(x1:Int):Option (qTP×(List qSM)×Unit) :=
 (A0F F x0 x1).bind fun r1 =>
 bif eqI (C7 r1.2.1) 0 then
 (K7 F r1.1).bind fun r4 =>
 (K7 F r4.1).bind fun r5 =>
 some (r5.1,([(r4.2.1,(r5.2.1,()))],()))
 else
 some (r1.1,(r1.2.1,()))
def Y7(F:Nat)(x0:qTP):Option (qTP×Int×Unit) :=
 (B4 F x0 8).bind fun r1 =>
 bif eqI r1.2.1 0 then
 some (r1.1,(0,()))
 else
 bif eqI r1.2.1 1 then
 (B4 F r1.1 2).bind fun r4 =>
 some (r4.1,(E7 .i64 4611686018427387904 r4.2.1,()))
 else
 bif eqI r1.2.1 2 then
 (O4 F r1.1).bind fun r7 =>
 (B4 F r7.1 60).bind fun r8 =>
 let x18v9:=C2 .i64 2 r8.2.1
 bif ltI (IntKind.wrap .u64 x18v9) 0 then
 none
 else
 some (r8.1,(IntKind.wrap .i64 (T8 .u64 r7.2.1 (IntKind.wrap .u64 x18v9)),()))
 else
 (B4 F r1.1 30).bind fun r13 =>
 some (r13.1,(r13.2.1,()))
def X2(F:Nat)(x0:Int):Option (Bool×Unit) :=
 bif leI 0 x0 then
 some (leI x0 4611686018427387904,())
 else
 some (false,())
def A4B(F:Nat)(x0:Int):Option (qPS×Int×Unit) :=
 (X2 F x0).bind fun r1 =>
 bif not r1.1 then
 some ((0,(0,(0,((0,(0,())),(0,(0,((false,(((false,([0,0,0,0],())),((false,([0,0,0,0],())),())),(((false,([0,0,0,0],())),((false,([0,0,0,0],())),())),()))),()))))))),(9,()))
 else
 some ((x0,(0,(0,((0,(0,())),(0,(0,((false,(((false,([0,0,0,0],())),((false,([0,0,0,0],())),())),(((false,([0,0,0,0],())),((false,([0,0,0,0],())),())),()))),()))))))),(0,()))
def A05(F:Nat){R:Type}(k0:qL→Option R):Nat→(List qSM)→qL→Int→Option R
 | 0,_,_,_=>none
 | n+1,x0,x3,x4 =>
 bif ltI x4 (C7 x0) then
 bif inI x4 (List.length x0) then
 bif D8 ((List.length x3)+1) 8 then
 A05 F k0 n x0 (x3++[(B1 (0,(0,())) x0 x4).1]) (C2 .i64 x4 1)
 else
 none
 else
 none
 else
 k0 x3
def A4C(F:Nat)(x0:(List qSM)):Option (qL×Unit) :=
 A05 F (fun z6 =>
 some (z6,())) F x0 [] 0
def J5(F:Nat){R:Type}(k0:Option R)(kret:Bool→Option R):Nat→qL→Int→Option R
 | 0,_,_=>none
 | n+1,x0,x3 =>
 bif ltI x3 (C7 x0) then
 bif inI x3 (List.length x0) then
 bif inI (E7 .i64 x3 1) (List.length x0) then
 bif leI (B1 0 x0 x3) (B1 0 x0 (E7 .i64 x3 1)) then
 kret false
 else
 J5 F k0 kret n x0 (C2 .i64 x3 1)
 else
 none
 else
 none
 else
 k0
def A17(F:Nat)(x0:qL):Option (Bool×Unit) :=
 J5 F (
 some (true,())) (fun z8 =>
 some (z8,())) F x0 1
def A4D(F:Nat)(x0:(List qSM)):Option (Int×Unit) :=
 (A4C F x0).bind fun r1 =>
 (A17 F r1.1).bind fun r2 =>
 bif not r2.1 then
 some (7,())
 else
 some (0,())
def A5K(F:Nat)(x0:Int):Option (Int×Unit) :=
 some (C7x x0 1,())
def X3(F:Nat){R:Type}(kret:Int→Bool→Option R)(x0:Int)(x1:Int):Option R :=
 bif eqI x1 0 then
 none
 else
 bif eqI x1 0 then
 none
 else
 bif not (eqI (A1y x0 x1) 0) then
 bif not (eqT .bool (ltI x0 0) (ltI x1 0)) then
 kret (E7 .i64 (A0W .i64 x0 x1) 1) true
 else
 kret (A0W .i64 x0 x1) true
 else
 kret (A0W .i64 x0 x1) true
def A42(F:Nat)(x0:Int)(x1:Int):Option (Int×Bool×Unit) :=
 bif eqI x1 0 then
 some (0,(false,()))
 else
 bif eqI x0 (-9223372036854775808) then
 bif eqI x1 (-1) then
 some (0,(false,()))
 else
 X3 F (fun z11 z12 =>
 some (z11,(z12,()))) x0 x1
 else
 X3 F (fun z13 z14 =>
 some (z13,(z14,()))) x0 x1
def A4e(F:Nat)(x0:Int)(x1:Int):Option (Int×Unit) :=
 (A5K F x1).bind fun r1 =>
 (A42 F x0 r1.1).bind fun r2 =>
 some (r2.1,())
def A1f(F:Nat) :Option (qCO×Unit) :=
 some ((true,(((false,([0,0,0,0],())),((false,([0,0,0,0],())),())),(((false,([0,0,0,0],())),((false,([0,0,0,0],())),())),()))),())
def U9(F:Nat){R:Type}(k0:qL→Option R):Nat→qL→Option R
 | 0,_=>none
 | n+1,x0 =>
 bif ltI 0 (C7 x0) then
 bif inI (E7 .i64 (C7 x0) 1) (List.length x0) then
 bif eqI (B1 0 x0 (E7 .i64 (C7 x0) 1)) 0 then
 bif A30 0 (E7 .i64 (C7 x0) 1) (List.length x0) then
 U9 F k0 n (A0A x0 (E7 .i64 (C7 x0) 1))
 else
 none
 else
 k0 x0
 else
 none
 else
 k0 x0
def J1(F:Nat)(x0:qL):Option (qL×Unit) :=
 U9 F (fun z10 =>
 some (z10,())) F x0
def A11(F:Nat){R:Type}(k0:qL→Option R):Nat→qL→Option R
 | 0,_=>none
 | n+1,x0 =>
 bif ltI 0 (C7 x0) then
 bif inI (E7 .i64 (C7 x0) 1) (List.length x0) then
 bif eqI (B1 0 x0 (E7 .i64 (C7 x0) 1)) 0 then
 bif A30 0 (E7 .i64 (C7 x0) 1) (List.length x0) then
 A11 F k0 n (A0A x0 (E7 .i64 (C7 x0) 1))
 else
 none
 else
 k0 x0
 else
 none
 else
 k0 x0
def A1g(F:Nat)(x0:qL):Option (qL×Unit) :=
 A11 F (fun z10 =>
 some (z10,())) F x0
def W9(F:Nat)(x0:qW):Option (qL×Unit) :=
 bif D8 (0+(List.length x0.2.1)) 8 then
 (J1 F ([]++x0.2.1)).bind fun r2 =>
 some (r2.1,())
 else
 none
def Y8(F:Nat)(x0:qW):Option (Bool×Unit) :=
 bif not x0.1 then
 some (true,())
 else
 (W9 F x0).bind fun r2 =>
 some (ltI 0 (C7 r2.1),())
def J7(F:Nat)(x0:qW):Option (Int×Unit) :=
 (W9 F x0).bind fun r1 =>
 bif eqI (C7 r1.1) 0 then
 some (0,())
 else
 bif x0.1 then
 some ((-1),())
 else
 some (1,())
def A3u(F:Nat)(x0:qW):Option (Bool×Unit) :=
 bif eqI (B1 0 x0.2.1 3) 0 then
 bif eqI (B1 0 x0.2.1 2) 0 then
 some (ltI (B1 0 x0.2.1 1) 9223372036854775808,())
 else
 some (false,())
 else
 some (false,())
def A2A(F:Nat)(x0:qW):Option (qW×Unit) :=
 some ((false,x0.2),())
def V8(F:Nat)(x0:qW):Option (qW×Unit) :=
 (Y8 F x0).bind fun r1 =>
 bif not r1.1 then
 some ((false,([0,0,0,0],())),())
 else
 some (x0,())
def S2(F:Nat)(x0:qW):Option (Int×Bool×Unit) :=
 (V8 F x0).bind fun r1 =>
 (W9 F r1.1).bind fun r2 =>
 bif r1.1.1 then
 some (0,(false,()))
 else
 bif ltI 1 (C7 r2.1) then
 some (0,(false,()))
 else
 some (B1 0 r1.1.2.1 0,(true,()))
def Q2(F:Nat)(x0:Int):Option (qW×Unit) :=
 some ((false,([x0,0,0,0],())),())
def Y9(F:Nat)(x0:Int):Option (Int×Unit) :=
 (N7 F x0).bind fun r1 =>
 some (E7 .i64 64 r1.1,())
def V9(F:Nat){R:Type}(k0:Int→Int→Int→Int→Int→Int→Int→Int→Option R):Nat→Int→Int→Int→Int→Int→Int→Int→Int→Int→Option R
 | 0,_,_,_,_,_,_,_,_,_=>none
 | n+1,x2,x8,x9,x10,x11,x13,x14,x15,x16 =>
 bif leI 4294967296 x15 then
 bif leI 4294967296 (C2 .u64 x16 x9) then
 k0 x2 x8 x9 x10 x11 x13 x14 (E7 .u64 x15 1)
 else
 V9 F k0 n x2 x8 x9 x10 x11 x13 x14 (E7 .u64 x15 1) (C2 .u64 x16 x9)
 else
 bif ltI (C2 .u64 (A0X .u64 4294967296 x16) x13) (A0X .u64 x15 x10) then
 bif leI 4294967296 (C2 .u64 x16 x9) then
 k0 x2 x8 x9 x10 x11 x13 x14 (E7 .u64 x15 1)
 else
 V9 F k0 n x2 x8 x9 x10 x11 x13 x14 (E7 .u64 x15 1) (C2 .u64 x16 x9)
 else
 k0 x2 x8 x9 x10 x11 x13 x14 x15
def W0(F:Nat){R:Type}(k2:Int→Int→Int→Int→Int→Int→Option R):Nat→Int→Int→Int→Int→Int→Int→Int→Int→Int→Option R
 | 0,_,_,_,_,_,_,_,_,_=>none
 | n+1,x2,x8,x9,x10,x14,x15,x16,x17,x18 =>
 bif leI 4294967296 x18 then
 bif leI 4294967296 (C2 .u64 x16 x9) then
 k2 x2 x8 x14 x15 x17 (E7 .u64 x18 1)
 else
 W0 F k2 n x2 x8 x9 x10 x14 x15 (C2 .u64 x16 x9) x17 (E7 .u64 x18 1)
 else
 bif ltI (C2 .u64 (A0X .u64 4294967296 x16) x14) (A0X .u64 x18 x10) then
 bif leI 4294967296 (C2 .u64 x16 x9) then
 k2 x2 x8 x14 x15 x17 (E7 .u64 x18 1)
 else
 W0 F k2 n x2 x8 x9 x10 x14 x15 (C2 .u64 x16 x9) x17 (E7 .u64 x18 1)
 else
 k2 x2 x8 x14 x15 x17 x18
def A4f(F:Nat)(x0:Int)(x1:Int)(x2:Int):Option (Int×Int×Unit) :=
 bif eqI x2 0 then
 none
 else
 bif leI x2 x0 then
 none
 else
 bif eqI x0 0 then
 bif eqI x2 0 then
 none
 else
 bif eqI x2 0 then
 none
 else
 some (A0W .u64 x1 x2,(A1y x1 x2,()))
 else
 (Y9 F x2).bind fun r6 =>
 bif ltI (IntKind.wrap .u64 r6.1) 0 then
 none
 else
 bif ltI (IntKind.wrap .u64 r6.1) 0 then
 none
 else
 bif ltI (E7 .u64 64 (IntKind.wrap .u64 r6.1)) 0 then
 none
 else
 bif ltI (IntKind.wrap .u64 r6.1) 0 then
 none
 else
 bif eqI (T8 .u64 (A0Y .u64 x2 (IntKind.wrap .u64 r6.1)) 32) 0 then
 none
 else
 V9 F (fun z32 z33 z34 z35 z36 z37 z38 z39 =>
 bif eqI z34 0 then
 none
 else
 W0 F (fun z58 z59 z60 z61 z62 z63 =>
 bif ltI z59 0 then
 none
 else
 some (C2 .u64 (A0X .u64 z61 4294967296) z63,(T8 .u64 (E7 .u64 (C2 .u64 (A0X .u64 z62 4294967296) z60) (A0X .u64 z63 z58)) z59,()))) F z32 z33 z34 z35 z38 z39 (E7 .u64 (E7 .u64 (C2 .u64 (A0X .u64 z36 4294967296) z37) (A0X .u64 z39 z32)) (A0X .u64 (A0W .u64 (E7 .u64 (C2 .u64 (A0X .u64 z36 4294967296) z37) (A0X .u64 z39 z32)) z34) z34)) (E7 .u64 (C2 .u64 (A0X .u64 z36 4294967296) z37) (A0X .u64 z39 z32)) (A0W .u64 (E7 .u64 (C2 .u64 (A0X .u64 z36 4294967296) z37) (A0X .u64 z39 z32)) z34)) F (A0Y .u64 x2 (IntKind.wrap .u64 r6.1)) (IntKind.wrap .u64 r6.1) (T8 .u64 (A0Y .u64 x2 (IntKind.wrap .u64 r6.1)) 32) (B15 .u64 (A0Y .u64 x2 (IntKind.wrap .u64 r6.1)) 4294967295) (orI .u64 (A0Y .u64 x0 (IntKind.wrap .u64 r6.1)) (T8 .u64 x1 (E7 .u64 64 (IntKind.wrap .u64 r6.1)))) (T8 .u64 (A0Y .u64 x1 (IntKind.wrap .u64 r6.1)) 32) (B15 .u64 (A0Y .u64 x1 (IntKind.wrap .u64 r6.1)) 4294967295) (A0W .u64 (orI .u64 (A0Y .u64 x0 (IntKind.wrap .u64 r6.1)) (T8 .u64 x1 (E7 .u64 64 (IntKind.wrap .u64 r6.1)))) (T8 .u64 (A0Y .u64 x2 (IntKind.wrap .u64 r6.1)) 32)) (E7 .u64 (orI .u64 (A0Y .u64 x0 (IntKind.wrap .u64 r6.1)) (T8 .u64 x1 (E7 .u64 64 (IntKind.wrap .u64 r6.1)))) (A0X .u64 (A0W .u64 (orI .u64 (A0Y .u64 x0 (IntKind.wrap .u64 r6.1)) (T8 .u64 x1 (E7 .u64 64 (IntKind.wrap .u64 r6.1)))) (T8 .u64 (A0Y .u64 x2 (IntKind.wrap .u64 r6.1)) 32)) (T8 .u64 (A0Y .u64 x2 (IntKind.wrap .u64 r6.1)) 32)))
def A3h(F:Nat)(x0:qL):Option (Int×Unit) :=
 bif eqI (C7 x0) 0 then
 some (0,())
 else
 bif inI (E7 .i64 (C7 x0) 1) (List.length x0) then
 (N7 F (B1 0 x0 (E7 .i64 (C7 x0) 1))).bind fun r9 =>
 some (C2 .i64 (A0X .i64 64 (E7 .i64 (C7 x0) 1)) r9.1,())
 else
 none
def A1h(F:Nat){R:Type}(k0:qL→Option R):Nat→qL→Int→qL→Int→Option R
 | 0,_,_,_,_=>none
 | n+1,x0,x1,x5,x6 =>
 bif ltI x6 (C7 x0) then
 bif inI (C2 .i64 x6 (A0W .i64 x1 64)) (List.length x5) then
 bif inI x6 (List.length x0) then
 bif ltI (IntKind.wrap .u64 (A1y x1 64)) 0 then
 none
 else
 bif inI (C2 .i64 x6 (A0W .i64 x1 64)) (List.length x5) then
 bif ltI 0 (A1y x1 64) then
 bif inI (C2 .i64 (C2 .i64 x6 (A0W .i64 x1 64)) 1) (List.length (F1 x5 (C2 .i64 x6 (A0W .i64 x1 64)) (orI .u64 (B1 0 x5 (C2 .i64 x6 (A0W .i64 x1 64))) (A0Y .u64 (B1 0 x0 x6) (IntKind.wrap .u64 (A1y x1 64)))))) then
 bif inI x6 (List.length x0) then
 bif ltI (IntKind.wrap .u64 (E7 .i64 64 (A1y x1 64))) 0 then
 none
 else
 bif inI (C2 .i64 (C2 .i64 x6 (A0W .i64 x1 64)) 1) (List.length (F1 x5 (C2 .i64 x6 (A0W .i64 x1 64)) (orI .u64 (B1 0 x5 (C2 .i64 x6 (A0W .i64 x1 64))) (A0Y .u64 (B1 0 x0 x6) (IntKind.wrap .u64 (A1y x1 64)))))) then
 A1h F k0 n x0 x1 (F1 (F1 x5 (C2 .i64 x6 (A0W .i64 x1 64)) (orI .u64 (B1 0 x5 (C2 .i64 x6 (A0W .i64 x1 64))) (A0Y .u64 (B1 0 x0 x6) (IntKind.wrap .u64 (A1y x1 64))))) (C2 .i64 (C2 .i64 x6 (A0W .i64 x1 64)) 1) (orI .u64 (B1 0 (F1 x5 (C2 .i64 x6 (A0W .i64 x1 64)) (orI .u64 (B1 0 x5 (C2 .i64 x6 (A0W .i64 x1 64))) (A0Y .u64 (B1 0 x0 x6) (IntKind.wrap .u64 (A1y x1 64))))) (C2 .i64 (C2 .i64 x6 (A0W .i64 x1 64)) 1)) (T8 .u64 (B1 0 x0 x6) (IntKind.wrap .u64 (E7 .i64 64 (A1y x1 64)))))) (C2 .i64 x6 1)
 else
 none
 else
 none
 else
 none
 else
 A1h F k0 n x0 x1 (F1 x5 (C2 .i64 x6 (A0W .i64 x1 64)) (orI .u64 (B1 0 x5 (C2 .i64 x6 (A0W .i64 x1 64))) (A0Y .u64 (B1 0 x0 x6) (IntKind.wrap .u64 (A1y x1 64))))) (C2 .i64 x6 1)
 else
 none
 else
 none
 else
 none
 else
 k0 x5
def A8W(F:Nat)(x0:qL)(x1:Int):Option (qL×Unit) :=
 bif A1x (C2 .i64 (C2 .i64 (C7 x0) (A0W .i64 x1 64)) 1) (C2 .i64 (C2 .i64 (C7 x0) (A0W .i64 x1 64)) 1) 8 then
 A1h F (fun z32 =>
 (A1g F z32).bind fun r33 =>
 some (r33.1,())) F x0 x1 (I5 (C2 .i64 (C2 .i64 (C7 x0) (A0W .i64 x1 64)) 1) (0:Int)) 0
 else
 none
def U2(F:Nat){R:Type}(k0:Option R)(kret:Int→Option R):Nat→qL→qL→Int→Option R
 | 0,_,_,_=>none
 | n+1,x0,x1,x5 =>
 bif leI 0 x5 then
 bif inI x5 (List.length x0) then
 bif inI x5 (List.length x1) then
 bif ltI (B1 0 x0 x5) (B1 0 x1 x5) then
 kret (-1)
 else
 bif inI x5 (List.length x0) then
 bif inI x5 (List.length x1) then
 bif ltI (B1 0 x1 x5) (B1 0 x0 x5) then
 kret 1
 else
 U2 F k0 kret n x0 x1 (E7 .i64 x5 1)
 else
 none
 else
 none
 else
 none
 else
 none
 else
 k0
def A0G(F:Nat)(x0:qL)(x1:qL):Option (Int×Unit) :=
 bif not (eqI (C7 x0) (C7 x1)) then
 bif ltI (C7 x0) (C7 x1) then
 some ((-1),())
 else
 some (1,())
 else
 U2 F (
 some (0,())) (fun z17 =>
 some (z17,())) F x0 x1 (E7 .i64 (C7 x0) 1)
def A1s(F:Nat){R:Type}(kn:qL→qL→Int→Int→Option R)(x1:qL)(x5:qL)(x6:Int)(x7:Int)(x8:Int):Option R :=
 bif inI x7 (List.length x5) then
 (A0C F (B1 0 x5 x7) x8 x6).bind fun r8 =>
 bif inI x7 (List.length x5) then
 kn x1 (F1 x5 x7 r8.1) r8.2.1 x7
 else
 none
 else
 none
def J8(F:Nat){R:Type}(k0:qL→Option R):Nat→qL→qL→Int→Int→Option R
 | 0,_,_,_,_=>none
 | n+1,x1,x5,x6,x7 =>
 bif ltI x7 (C7 x5) then
 bif ltI x7 (C7 x1) then
 bif inI x7 (List.length x1) then
 A1s F (fun z10 z11 z12 z13 =>
 J8 F k0 n z10 z11 z12 (C2 .i64 z13 1)) x1 x5 x6 x7 (B1 0 x1 x7)
 else
 none
 else
 A1s F (fun z15 z16 z17 z18 =>
 J8 F k0 n z15 z16 z17 (C2 .i64 z18 1)) x1 x5 x6 x7 0
 else
 k0 x5
def A2B(F:Nat)(x0:qL)(x1:qL):Option (qL×Unit) :=
 bif D8 (0+(List.length x0)) 8 then
 J8 F (fun z20 =>
 (J1 F z20).bind fun r21 =>
 some (r21.1,())) F x1 ([]++x0) 0 0
 else
 none
def A33(F:Nat){R:Type}(kn:qL→qL→Int→Int→Option R)(x1:qL)(x5:qL)(x6:Int)(x7:Int)(x8:Int):Option R :=
 bif inI x7 (List.length x5) then
 (A0C F (B1 0 x5 x7) x8 x6).bind fun r8 =>
 bif inI x7 (List.length x5) then
 kn x1 (F1 x5 x7 r8.1) r8.2.1 x7
 else
 none
 else
 none
def A0H(F:Nat){R:Type}(k0:qL→qL→Option R):Nat→qL→qL→Int→Int→Option R
 | 0,_,_,_,_=>none
 | n+1,x1,x5,x6,x7 =>
 bif ltI x7 (C7 x5) then
 bif ltI x7 (C7 x1) then
 bif inI x7 (List.length x1) then
 A33 F (fun z10 z11 z12 z13 =>
 A0H F k0 n z10 z11 z12 (C2 .i64 z13 1)) x1 x5 x6 x7 (B1 0 x1 x7)
 else
 none
 else
 A33 F (fun z15 z16 z17 z18 =>
 A0H F k0 n z15 z16 z17 (C2 .i64 z18 1)) x1 x5 x6 x7 0
 else
 k0 x1 x5
def A5L(F:Nat)(x0:qL)(x1:qL):Option (qL×qL×Unit) :=
 bif D8 (0+(List.length x0)) 8 then
 A0H F (fun z20 z21 =>
 (J1 F z21).bind fun r22 =>
 some (z20,(r22.1,()))) F x1 ([]++x0) 0 0
 else
 none
def V0(F:Nat){R:Type}(k0:qL→Option R):Nat→qL→Int→Option R
 | 0,_,_=>none
 | n+1,x0,x3 =>
 bif ltI x3 (C7 x0) then
 bif inI x3 (List.length x0) then
 bif inI x3 (List.length x0) then
 bif ltI (C2 .i64 x3 1) (C7 (F1 x0 x3 (T8 .u64 (B1 0 x0 x3) 1))) then
 bif inI x3 (List.length (F1 x0 x3 (T8 .u64 (B1 0 x0 x3) 1))) then
 bif inI (C2 .i64 x3 1) (List.length (F1 x0 x3 (T8 .u64 (B1 0 x0 x3) 1))) then
 bif inI x3 (List.length (F1 x0 x3 (T8 .u64 (B1 0 x0 x3) 1))) then
 V0 F k0 n (F1 (F1 x0 x3 (T8 .u64 (B1 0 x0 x3) 1)) x3 (orI .u64 (B1 0 (F1 x0 x3 (T8 .u64 (B1 0 x0 x3) 1)) x3) (A0Y .u64 (B1 0 (F1 x0 x3 (T8 .u64 (B1 0 x0 x3) 1)) (C2 .i64 x3 1)) 63))) (C2 .i64 x3 1)
 else
 none
 else
 none
 else
 none
 else
 V0 F k0 n (F1 x0 x3 (T8 .u64 (B1 0 x0 x3) 1)) (C2 .i64 x3 1)
 else
 none
 else
 none
 else
 k0 x0
def A4g(F:Nat)(x0:qL):Option (qL×Unit) :=
 V0 F (fun z17 =>
 (A1g F z17).bind fun r18 =>
 some (r18.1,())) F x0 0
def X4(F:Nat){R:Type}(k0:qL→Int→Option R):Nat→qL→qL→qL→Int→Int→Option R
 | 0,_,_,_,_,_=>none
 | n+1,x0,x1,x6,x7,x8 =>
 bif leI 0 x8 then
 bif inI x8 (List.length x0) then
 bif inI 0 (List.length x1) then
 (A4f F x7 (B1 0 x0 x8) (B1 0 x1 0)).bind fun r10 =>
 bif inI x8 (List.length x6) then
 X4 F k0 n x0 x1 (F1 x6 x8 r10.1) r10.2.1 (E7 .i64 x8 1)
 else
 none
 else
 none
 else
 none
 else
 k0 x6 x7
def Q3(F:Nat){R:Type}(k2:qL→qL→Option R):Nat→qL→qL→qL→Int→Option R
 | 0,_,_,_,_=>none
 | n+1,x6,x9,x11,x12 =>
 bif leI 0 x12 then
 (A0G F x9 x11).bind fun r25 =>
 bif leI 0 r25.1 then
 (A5L F x9 x11).bind fun r27 =>
 bif inI (A0W .i64 x12 64) (List.length x6) then
 bif ltI (IntKind.wrap .u64 (A1y x12 64)) 0 then
 none
 else
 bif inI (A0W .i64 x12 64) (List.length x6) then
 (A4g F r27.1).bind fun r35 =>
 Q3 F k2 n (F1 x6 (A0W .i64 x12 64) (orI .u64 (B1 0 x6 (A0W .i64 x12 64)) (A0Y .u64 1 (IntKind.wrap .u64 (A1y x12 64))))) r27.2.1 r35.1 (E7 .i64 x12 1)
 else
 none
 else
 none
 else
 (A4g F x11).bind fun r37 =>
 Q3 F k2 n x6 x9 r37.1 (E7 .i64 x12 1)
 else
 k2 x6 x9
def A1t(F:Nat)(x0:qL)(x1:qL):Option (qL×qL×Unit) :=
 bif A1x (C7 x0) (C7 x0) 8 then
 bif eqI (C7 x1) 1 then
 X4 F (fun z13 z14 =>
 (J1 F z13).bind fun r15 =>
 (J1 F [z14]).bind fun r16 =>
 some (r15.1,(r16.1,()))) F x0 x1 (I5 (C7 x0) (0:Int)) 0 (E7 .i64 (C7 x0) 1)
 else
 bif D8 (0+(List.length x0)) 8 then
 (J1 F ([]++x0)).bind fun r18 =>
 (A3h F r18.1).bind fun r19 =>
 (A3h F x1).bind fun r20 =>
 let x54v21:=E7 .i64 r19.1 r20.1
 bif ltI x54v21 0 then
 some ([],(r18.1,()))
 else
 (A8W F x1 x54v21).bind fun r23 =>
 Q3 F (fun z39 z40 =>
 (J1 F z39).bind fun r41 =>
 some (r41.1,(z40,()))) F (I5 (C7 x0) (0:Int)) r18.1 r23.1 x54v21
 else
 none
 else
 none
def A1H(F:Nat){R:Type}(kn:qL→qL→Int→Int→Option R)(x1:qL)(x5:qL)(x6:Int)(x7:Int)(x8:Int):Option R :=
 bif inI x7 (List.length x5) then
 (U1 F (B1 0 x5 x7) x8 x6).bind fun r11 =>
 bif inI x7 (List.length x5) then
 kn x1 (F1 x5 x7 r11.1) r11.2.1 x7
 else
 none
 else
 none
def S3(F:Nat){R:Type}(k0:qL→Int→Option R):Nat→qL→qL→Int→Int→Option R
 | 0,_,_,_,_=>none
 | n+1,x1,x5,x6,x7 =>
 bif ltI x7 (C7 x5) then
 bif ltI x7 (C7 x1) then
 bif inI x7 (List.length x1) then
 A1H F (fun z13 z14 z15 z16 =>
 S3 F k0 n z13 z14 z15 (C2 .i64 z16 1)) x1 x5 x6 x7 (B1 0 x1 x7)
 else
 none
 else
 A1H F (fun z18 z19 z20 z21 =>
 S3 F k0 n z18 z19 z20 (C2 .i64 z21 1)) x1 x5 x6 x7 0
 else
 k0 x5 x6
def A2C(F:Nat){R:Type}(kret:qL→Option R)(x0:qL)(x1:qL):Option R :=
 bif D8 (0+(List.length x0)) 8 then
 S3 F (fun z23 z24 =>
 bif D8 ((List.length z23)+1) 8 then
 (J1 F (z23++[z24])).bind fun r26 =>
 kret r26.1
 else
 none) F x1 ([]++x0) 0 0
 else
 none
def A59(F:Nat)(x0:qL)(x1:qL):Option (qL×Unit) :=
 bif ltI (C7 x0) (C7 x1) then
 A2C F (fun z27 =>
 some (z27,())) x1 x0
 else
 A2C F (fun z28 =>
 some (z28,())) x0 x1
def Z0(F:Nat){R:Type}(k0:qW→qW→Option R):Nat→qL→qW→qW→Int→Option R
 | 0,_,_,_,_=>none
 | n+1,x1,x4,x6,x7 =>
 bif ltI x7 (C7 x1) then
 bif inI x7 (List.length x1) then
 bif inI x7 4 then
 Z0 F k0 n x1 x4 (x6.1,(F1 x6.2.1 x7 (B1 0 x1 x7),x6.2.2)) (C2 .i64 x7 1)
 else
 none
 else
 none
 else
 k0 x4 x6
def A34(F:Nat){R:Type}(kret:qW→Bool→Option R)(x1:qL)(x4:qW)(x6:qW):Option R :=
 Z0 F (fun z10 z11 =>
 kret z11 true) F x1 x4 x6 0
def S9(F:Nat)(x0:Bool)(x1:qL):Option (qW×Bool×Unit) :=
 (J1 F x1).bind fun r1 =>
 bif ltI 4 (C7 r1.1) then
 some ((false,([0,0,0,0],())),(false,()))
 else
 bif x0 then
 A34 F (fun z12 z13 =>
 some (z12,(z13,()))) r1.1 (false,([0,0,0,0],())) (ltI 0 (C7 r1.1),([0,0,0,0],()))
 else
 A34 F (fun z14 z15 =>
 some (z14,(z15,()))) r1.1 (false,([0,0,0,0],())) (false,([0,0,0,0],()))
def A0l(F:Nat){R:Type}(kn:qW→qW→qW→qW→qL→qL→Option R)(x2:qW)(x3:qW)(x4:qW)(x5:qW)(x7:qL)(x8:qL)(x32:Bool):Option R :=
 bif x32 then
 (A59 F x7 [1]).bind fun r10 =>
 (W9 F x3).bind fun r11 =>
 (A2B F r11.1 x8).bind fun r12 =>
 kn x2 x3 x4 x5 r10.1 r12.1
 else
 kn x2 x3 x4 x5 x7 x8
def A0m(F:Nat){R:Type}(kret:qW→qW→Bool→Option R)(x2:qW)(x3:qW)(x4:qW)(x5:qW)(x7:qL)(x8:qL):Option R :=
 (S9 F (not (eqT .bool x2.1 x3.1)) x7).bind fun r20 =>
 bif not r20.2.1 then
 kret (false,([0,0,0,0],())) (false,([0,0,0,0],())) false
 else
 (S9 F false x8).bind fun r22 =>
 kret r20.1 r22.1 true
def J9(F:Nat)(x0:qW)(x1:qW):Option (qW×qW×Bool×Unit) :=
 (V8 F x0).bind fun r1 =>
 (V8 F x1).bind fun r2 =>
 (J7 F r2.1).bind fun r3 =>
 bif eqI r3.1 0 then
 some ((false,([0,0,0,0],())),((false,([0,0,0,0],())),(false,())))
 else
 (W9 F r1.1).bind fun r5 =>
 (W9 F r2.1).bind fun r6 =>
 (A1t F r5.1 r6.1).bind fun r7 =>
 bif r1.1.1 then
 A0l F (fun z13 z14 z15 z16 z17 z18 =>
 A0m F (fun z23 z24 z25 =>
 some (z23,(z24,(z25,())))) z13 z14 z15 z16 z17 z18) r1.1 r2.1 (false,([0,0,0,0],())) (false,([0,0,0,0],())) r7.1 r7.2.1 (ltI 0 (C7 r7.2.1))
 else
 A0l F (fun z26 z27 z28 z29 z30 z31 =>
 A0m F (fun z32 z33 z34 =>
 some (z32,(z33,(z34,())))) z26 z27 z28 z29 z30 z31) r1.1 r2.1 (false,([0,0,0,0],())) (false,([0,0,0,0],())) r7.1 r7.2.1 false
def A0n(F:Nat){R:Type}(k2:qW→Int→Option R):Nat→qW→Int→Int→Option R
 | 0,_,_,_=>none
 | n+1,x4,x5,x7 =>
 bif not (eqI x7 0) then
 bif eqI x7 0 then
 none
 else
 A0n F k2 n x4 x7 (A1y x5 x7)
 else
 k2 x4 x5
def A3K(F:Nat){R:Type}(kn:qW→qW→qW→Option R)(kret:qW→Option R)(x2:qW)(x3:qW)(x4:qW)(x5:Int)(x7:Int)(x28:Bool):Option R :=
 bif x28 then
 A0n F (fun z7 z8 =>
 (Q2 F z8).bind fun r9 =>
 kret r9.1) F x4 x5 x7
 else
 kn x2 x3 x4
def A3L(F:Nat){R:Type}(kn:qW→qW→qW→Option R)(x2:qW)(x3:qW)(x4:qW):Option R :=
 (J9 F x2 x3).bind fun r13 =>
 kn x3 r13.2.1 x4
def Y5(F:Nat){R:Type}(k0:qW→qW→Option R)(kret:qW→Option R):Nat→qW→qW→qW→Option R
 | 0,_,_,_=>none
 | n+1,x2,x3,x4 =>
 (J7 F x3).bind fun r1 =>
 bif not (eqI r1.1 0) then
 (S2 F x2).bind fun r3 =>
 (S2 F x3).bind fun r4 =>
 bif r3.2.1 then
 A3K F (fun z10 z11 z12 =>
 A3L F (fun z14 z15 z16 =>
 Y5 F k0 kret n z14 z15 z16) z10 z11 z12) (fun z17 =>
 kret z17) x2 x3 x4 r3.1 r4.1 r4.2.1
 else
 A3K F (fun z18 z19 z20 =>
 A3L F (fun z21 z22 z23 =>
 Y5 F k0 kret n z21 z22 z23) z18 z19 z20) (fun z24 =>
 kret z24) x2 x3 x4 r3.1 r4.1 false
 else
 k0 x2 x4
def A4h(F:Nat)(x0:qW)(x1:qW):Option (qW×Unit) :=
 Y5 F (fun z25 z26 =>
 some (z25,())) (fun z27 =>
 some (z27,())) F x0 x1 (false,([0,0,0,0],()))
def O5(F:Nat)(x0:Int):Option (qW×Unit) :=
 bif ltI x0 0 then
 some ((true,([E7 .u64 0 (IntKind.wrap .u64 x0),0,0,0],())),())
 else
 some ((false,([IntKind.wrap .u64 x0,0,0,0],())),())
def A4i(F:Nat) :Option (qW×Unit) :=
 (O5 F 1).bind fun r1 =>
 some (r1.1,())
def W1(F:Nat)(x0:qR):Option (Bool×Unit) :=
 (Y8 F x0.1).bind fun r1 =>
 bif not r1.1 then
 some (false,())
 else
 (Y8 F x0.2.1).bind fun r3 =>
 bif not r3.1 then
 some (false,())
 else
 (J7 F x0.2.1).bind fun r5 =>
 bif leI r5.1 0 then
 some (false,())
 else
 (A3u F x0.1).bind fun r7 =>
 bif not r7.1 then
 some (false,())
 else
 (A3u F x0.2.1).bind fun r9 =>
 bif not r9.1 then
 some (false,())
 else
 (A2A F x0.1).bind fun r11 =>
 (A4h F r11.1 x0.2.1).bind fun r12 =>
 (A4i F).bind fun r13 =>
 some (eqT (.pair .bool (.pair (.arr 4 (.int .u64)) .unit)) r12.1 r13.1,())
def A4E(F:Nat)(x0:qR):Option (qR×Unit) :=
 (W1 F x0).bind fun r1 =>
 bif not r1.1 then
 (A4i F).bind fun r3 =>
 some (((false,([0,0,0,0],())),(r3.1,())),())
 else
 some (x0,())
def A4j(F:Nat)(x0:Int)(x1:Int):Option (Int×Int×Unit) :=
 some (C2 .u64 (C2 .u64 (A0X .u64 (T8 .u64 x0 32) (T8 .u64 x1 32)) (T8 .u64 (C2 .u64 (A0X .u64 (T8 .u64 x0 32) (B15 .u64 x1 4294967295)) (T8 .u64 (A0X .u64 (B15 .u64 x0 4294967295) (B15 .u64 x1 4294967295)) 32)) 32)) (T8 .u64 (C2 .u64 (B15 .u64 (C2 .u64 (A0X .u64 (T8 .u64 x0 32) (B15 .u64 x1 4294967295)) (T8 .u64 (A0X .u64 (B15 .u64 x0 4294967295) (B15 .u64 x1 4294967295)) 32)) 4294967295) (A0X .u64 (B15 .u64 x0 4294967295) (T8 .u64 x1 32))) 32),(A0X .u64 x0 x1,()))
def A0o(F:Nat){R:Type}(k2:qL→qL→qL→Int→Int→Option R):Nat→qL→qL→qL→Int→Int→Int→Option R
 | 0,_,_,_,_,_,_=>none
 | n+1,x0,x1,x5,x6,x7,x8 =>
 bif ltI x8 (C7 x1) then
 bif inI x6 (List.length x0) then
 bif inI x8 (List.length x1) then
 (A4j F (B1 0 x0 x6) (B1 0 x1 x8)).bind fun r12 =>
 bif inI (C2 .i64 x6 x8) (List.length x5) then
 (U1 F r12.2.1 (B1 0 x5 (C2 .i64 x6 x8)) 0).bind fun r15 =>
 (U1 F r15.1 x7 0).bind fun r17 =>
 bif inI (C2 .i64 x6 x8) (List.length x5) then
 A0o F k2 n x0 x1 (F1 x5 (C2 .i64 x6 x8) r17.1) x6 (C2 .u64 (C2 .u64 r12.1 r15.2.1) r17.2.1) (C2 .i64 x8 1)
 else
 none
 else
 none
 else
 none
 else
 none
 else
 k2 x0 x1 x5 x6 x7
def A1u(F:Nat){R:Type}(k0:qL→Option R):Nat→qL→qL→qL→Int→Option R
 | 0,_,_,_,_=>none
 | n+1,x0,x1,x5,x6 =>
 bif ltI x6 (C7 x0) then
 A0o F (fun z22 z23 z24 z25 z26 =>
 bif inI (C2 .i64 z25 (C7 z23)) (List.length z24) then
 A1u F k0 n z22 z23 (F1 z24 (C2 .i64 z25 (C7 z23)) z26) (C2 .i64 z25 1)
 else
 none) F x0 x1 x5 x6 0 0
 else
 k0 x5
def A7e(F:Nat)(x0:qL)(x1:qL):Option (qL×Unit) :=
 bif A1x (C2 .i64 (C2 .i64 (C7 x0) (C7 x1)) 1) (C2 .i64 (C2 .i64 (C7 x0) (C7 x1)) 1) 8 then
 A1u F (fun z31 =>
 (J1 F z31).bind fun r32 =>
 some (r32.1,())) F x0 x1 (I5 (C2 .i64 (C2 .i64 (C7 x0) (C7 x1)) 1) (0:Int)) 0
 else
 none
def Q6(F:Nat)(x0:qW)(x1:qW):Option (qW×Bool×Unit) :=
 (V8 F x0).bind fun r1 =>
 (V8 F x1).bind fun r2 =>
 (W9 F r1.1).bind fun r4 =>
 (W9 F r2.1).bind fun r5 =>
 (A7e F r4.1 r5.1).bind fun r6 =>
 (S9 F (not (eqT .bool r1.1.1 r2.1.1)) r6.1).bind fun r7 =>
 some (r7.1,(r7.2.1,()))
def V1(F:Nat)(x0:qW)(x1:qW):Option (Int×Unit) :=
 (J7 F x0).bind fun r1 =>
 (J7 F x1).bind fun r2 =>
 bif not (eqI r1.1 r2.1) then
 bif ltI r1.1 r2.1 then
 some ((-1),())
 else
 some (1,())
 else
 (W9 F x0).bind fun r5 =>
 (W9 F x1).bind fun r6 =>
 (A0G F r5.1 r6.1).bind fun r7 =>
 some (A0X .i64 r1.1 r7.1,())
def K8(F:Nat)(x0:qR)(x1:qR):Option (Int×Unit) :=
 (A4E F x0).bind fun r1 =>
 (A4E F x1).bind fun r2 =>
 (Q6 F r1.1.1 r2.1.2.1).bind fun r3 =>
 (Q6 F r2.1.1 r1.1.2.1).bind fun r4 =>
 (V1 F r3.1 r4.1).bind fun r5 =>
 some (r5.1,())
def A0p(F:Nat)(x0:qCO):Option (Bool×Unit) :=
 bif x0.1 then
 (A1f F).bind fun r1 =>
 some (eqT (.pair .bool (.pair (.pair (.pair .bool (.pair (.arr 4 (.int .u64)) .unit)) (.pair (.pair .bool (.pair (.arr 4 (.int .u64)) .unit)) .unit)) (.pair (.pair (.pair .bool (.pair (.arr 4 (.int .u64)) .unit)) (.pair (.pair .bool (.pair (.arr 4 (.int .u64)) .unit)) .unit)) .unit))) x0 r1.1,())
 else
 (W1 F x0.2.1).bind fun r3 =>
 bif r3.1 then
 (W1 F x0.2.2.1).bind fun r4 =>
 bif r4.1 then
 (K8 F x0.2.1 x0.2.2.1).bind fun r5 =>
 some (leI r5.1 0,())
 else
 some (false,())
 else
 some (false,())
def A3v(F:Nat)(x0:qPS):Option (Bool×Unit) :=
 (X2 F x0.1).bind fun r1 =>
 bif not r1.1 then
 some (false,())
 else
 bif ltI x0.2.1 0 then
 some (false,())
 else
 bif ltI 1073741824 x0.2.1 then
 some (false,())
 else
 bif eqI x0.2.2.1 0 then
 some (eqT (.pair (.int .i64) (.pair (.int .i64) (.pair (.int .i64) (.pair (.pair (.int .i64) (.pair (.int .i64) .unit)) (.pair (.int .i64) (.pair (.int .i64) (.pair (.pair .bool (.pair (.pair (.pair .bool (.pair (.arr 4 (.int .u64)) .unit)) (.pair (.pair .bool (.pair (.arr 4 (.int .u64)) .unit)) .unit)) (.pair (.pair (.pair .bool (.pair (.arr 4 (.int .u64)) .unit)) (.pair (.pair .bool (.pair (.arr 4 (.int .u64)) .unit)) .unit)) .unit))) .unit))))))) x0 (x0.1,(x0.2.1,(0,((0,(0,())),(0,(0,((false,(((false,([0,0,0,0],())),((false,([0,0,0,0],())),())),(((false,([0,0,0,0],())),((false,([0,0,0,0],())),())),()))),()))))))),())
 else
 (A4e F x0.2.2.2.1.2.1 x0.1).bind fun r7 =>
 bif not (eqI x0.2.2.2.2.2.1 r7.1) then
 some (false,())
 else
 bif eqI x0.2.2.1 1 then
 bif eqI x0.2.2.2.2.1 x0.2.2.2.1.1 then
 (A1f F).bind fun r11 =>
 some (eqT (.pair .bool (.pair (.pair (.pair .bool (.pair (.arr 4 (.int .u64)) .unit)) (.pair (.pair .bool (.pair (.arr 4 (.int .u64)) .unit)) .unit)) (.pair (.pair (.pair .bool (.pair (.arr 4 (.int .u64)) .unit)) (.pair (.pair .bool (.pair (.arr 4 (.int .u64)) .unit)) .unit)) .unit))) x0.2.2.2.2.2.2.1 r11.1,())
 else
 some (false,())
 else
 bif ltI 1 x0.2.2.1 then
 bif leI x0.2.2.1 1073741824 then
 bif ltI x0.2.2.2.1.1 x0.2.2.2.2.1 then
 (A0p F x0.2.2.2.2.2.2.1).bind fun r16 =>
 bif r16.1 then
 some (not x0.2.2.2.2.2.2.1.1,())
 else
 some (false,())
 else
 some (false,())
 else
 some (false,())
 else
 some (false,())
def A3w(F:Nat)(x0:qPS)(x1:qSM):Option (qPS×Unit) :=
 (A4e F x1.2.1 x0.1).bind fun r2 =>
 (A1f F).bind fun r3 =>
 some ((x0.1,(C2 .i64 x0.2.1 x0.2.2.1,(1,(x1,(x1.1,(r2.1,(r3.1,()))))))),())
def A5N(F:Nat)(x0:Int)(x1:Int):Option (qW×Unit) :=
 (O5 F x0).bind fun r1 =>
 (A5K F x1).bind fun r2 =>
 (O5 F r2.1).bind fun r3 =>
 (Q6 F r1.1 r3.1).bind fun r4 =>
 some (r4.1,())
def A2r(F:Nat)(x0:Int)(x1:Int):Option (Int×Unit) :=
 bif ltI x0 x1 then
 some (E7 .u64 (IntKind.wrap .u64 x1) (IntKind.wrap .u64 x0),())
 else
 some (E7 .u64 (IntKind.wrap .u64 x0) (IntKind.wrap .u64 x1),())
def A1I(F:Nat)(x0:qW):Option (qW×Unit) :=
 (W9 F x0).bind fun r2 =>
 (S9 F (not x0.1) r2.1).bind fun r3 =>
 some (r3.1,())
def Z8(F:Nat)(x0:qW)(x1:qW):Option (qW×Bool×Unit) :=
 (V8 F x0).bind fun r1 =>
 (V8 F x1).bind fun r2 =>
 (W9 F r1.1).bind fun r3 =>
 (W9 F r2.1).bind fun r4 =>
 bif eqT .bool r1.1.1 r2.1.1 then
 (A59 F r3.1 r4.1).bind fun r6 =>
 (S9 F r1.1.1 r6.1).bind fun r7 =>
 some (r7.1,(r7.2.1,()))
 else
 (A0G F r3.1 r4.1).bind fun r8 =>
 bif leI 0 r8.1 then
 (A2B F r3.1 r4.1).bind fun r10 =>
 (S9 F r1.1.1 r10.1).bind fun r11 =>
 some (r11.1,(r11.2.1,()))
 else
 (A2B F r4.1 r3.1).bind fun r12 =>
 (S9 F r2.1.1 r12.1).bind fun r13 =>
 some (r13.1,(r13.2.1,()))
def A1J(F:Nat)(x0:qW)(x1:qW):Option (qW×Bool×Unit) :=
 (A1I F x1).bind fun r1 =>
 (Z8 F x0 r1.1).bind fun r2 =>
 some (r2.1,(r2.2.1,()))
def A1K(F:Nat){R:Type}(kret:qR→Bool→Option R)(x4:qR)(x7:qW)(x10:qW):Option R :=
 (W1 F (x7,(x10,()))).bind fun r16 =>
 bif not r16.1 then
 kret ((false,([0,0,0,0],())),((false,([0,0,0,0],())),())) false
 else
 kret (x7,(x10,())) true
def A3i(F:Nat)(x0:qW)(x1:qW):Option (qR×Bool×Unit) :=
 (Y8 F x0).bind fun r1 =>
 bif not r1.1 then
 some (((false,([0,0,0,0],())),((false,([0,0,0,0],())),())),(false,()))
 else
 (Y8 F x1).bind fun r3 =>
 bif not r3.1 then
 some (((false,([0,0,0,0],())),((false,([0,0,0,0],())),())),(false,()))
 else
 (J7 F x1).bind fun r5 =>
 bif eqI r5.1 0 then
 some (((false,([0,0,0,0],())),((false,([0,0,0,0],())),())),(false,()))
 else
 (A2A F x0).bind fun r7 =>
 (A2A F x1).bind fun r8 =>
 (A4h F r7.1 r8.1).bind fun r9 =>
 (A2A F x0).bind fun r10 =>
 (J9 F r10.1 r9.1).bind fun r11 =>
 (A2A F x1).bind fun r12 =>
 (J9 F r12.1 r9.1).bind fun r13 =>
 bif not (eqT .bool x0.1 x1.1) then
 (A1I F r11.1).bind fun r15 =>
 A1K F (fun z18 z19 =>
 some (z18,(z19,()))) ((false,([0,0,0,0],())),((false,([0,0,0,0],())),())) r15.1 r13.1
 else
 A1K F (fun z20 z21 =>
 some (z20,(z21,()))) ((false,([0,0,0,0],())),((false,([0,0,0,0],())),())) r11.1 r13.1
def A35(F:Nat)(x0:qW)(x1:Int)(x2:Int)(x3:Int):Option (qCO×Bool×Unit) :=
 (Y8 F x0).bind fun r1 =>
 bif not r1.1 then
 some ((false,(((false,([0,0,0,0],())),((false,([0,0,0,0],())),())),(((false,([0,0,0,0],())),((false,([0,0,0,0],())),())),()))),(false,()))
 else
 (V1 F (false,x0.2) (false,([0,4,0,0],()))).bind fun r3 =>
 bif leI 0 r3.1 then
 some ((false,(((false,([0,0,0,0],())),((false,([0,0,0,0],())),())),(((false,([0,0,0,0],())),((false,([0,0,0,0],())),())),()))),(false,()))
 else
 (X2 F x2).bind fun r5 =>
 bif not r5.1 then
 some ((false,(((false,([0,0,0,0],())),((false,([0,0,0,0],())),())),(((false,([0,0,0,0],())),((false,([0,0,0,0],())),())),()))),(false,()))
 else
 bif eqI x3 0 then
 some ((false,(((false,([0,0,0,0],())),((false,([0,0,0,0],())),())),(((false,([0,0,0,0],())),((false,([0,0,0,0],())),())),()))),(false,()))
 else
 (O5 F x1).bind fun r8 =>
 (A1J F r8.1 x0).bind fun r9 =>
 (O5 F x2).bind fun r10 =>
 (A1J F r9.1 r10.1).bind fun r11 =>
 (O5 F x2).bind fun r12 =>
 (Z8 F r9.1 r12.1).bind fun r13 =>
 (Q2 F x3).bind fun r14 =>
 (A3i F r11.1 r14.1).bind fun r15 =>
 (Q2 F x3).bind fun r16 =>
 (A3i F r13.1 r16.1).bind fun r17 =>
 some ((false,(r15.1,(r17.1,()))),(true,()))
def A12(F:Nat){R:Type}(kret:qCO→Bool→Option R)(x2:qCO)(x4:qCO):Option R :=
 (K8 F x2.2.1 x2.2.2.1).bind fun r9 =>
 bif ltI 0 r9.1 then
 kret (false,(((false,([0,0,0,0],())),((false,([0,0,0,0],())),())),(((false,([0,0,0,0],())),((false,([0,0,0,0],())),())),()))) false
 else
 kret x2 true
def A1L(F:Nat){R:Type}(kret:qCO→Bool→Option R)(x2:qCO)(x3:qCO)(x4:qCO):Option R :=
 (K8 F x3.2.2.1 x2.2.2.1).bind fun r7 =>
 bif ltI r7.1 0 then
 A12 F (fun z11 z12 =>
 kret z11 z12) (x2.1,(x2.2.1,(x3.2.2.1,x2.2.2.2))) x4
 else
 A12 F (fun z13 z14 =>
 kret z13 z14) x2 x4
def A4k(F:Nat)(x0:qCO)(x1:qCO):Option (qCO×Bool×Unit) :=
 (A0p F x0).bind fun r1 =>
 bif not r1.1 then
 some ((false,(((false,([0,0,0,0],())),((false,([0,0,0,0],())),())),(((false,([0,0,0,0],())),((false,([0,0,0,0],())),())),()))),(false,()))
 else
 (A0p F x1).bind fun r3 =>
 bif not r3.1 then
 some ((false,(((false,([0,0,0,0],())),((false,([0,0,0,0],())),())),(((false,([0,0,0,0],())),((false,([0,0,0,0],())),())),()))),(false,()))
 else
 bif x0.1 then
 some (x1,(true,()))
 else
 bif x1.1 then
 some (x0,(true,()))
 else
 (K8 F x1.2.1 x0.2.1).bind fun r5 =>
 bif ltI 0 r5.1 then
 A1L F (fun z15 z16 =>
 some (z15,(z16,()))) (x0.1,(x1.2.1,x0.2.2)) x1 (false,(((false,([0,0,0,0],())),((false,([0,0,0,0],())),())),(((false,([0,0,0,0],())),((false,([0,0,0,0],())),())),())))
 else
 A1L F (fun z17 z18 =>
 some (z17,(z18,()))) x0 x1 (false,(((false,([0,0,0,0],())),((false,([0,0,0,0],())),())),(((false,([0,0,0,0],())),((false,([0,0,0,0],())),())),())))
def A2D(F:Nat)(x0:qPS):Option ((List qPI)×Int×Unit) :=
 (A3v F x0).bind fun r1 =>
 bif not r1.1 then
 some ([],(1,()))
 else
 bif eqI x0.2.2.1 0 then
 some ([],(0,()))
 else
 some ([(x0.2.1,(x0.2.2.1,(x0.2.2.2.2.2.1,(x0.2.2.2.2.2.2.1,()))))],(0,()))
def A1N(F:Nat){R:Type}(kret:qPS→(List qPI)→Int→Option R)(x2:qPS)(x3:qSM)(x4:qPS):Option R :=
 bif leI 1073741824 (C2 .i64 x2.2.1 x2.2.2.1) then
 kret (0,(0,(0,((0,(0,())),(0,(0,((false,(((false,([0,0,0,0],())),((false,([0,0,0,0],())),())),(((false,([0,0,0,0],())),((false,([0,0,0,0],())),())),()))),()))))))) [] 3
 else
 bif eqI x2.2.2.1 0 then
 (A3w F x2 x3).bind fun r8 =>
 kret r8.1 [] 0
 else
 (A5N F x2.2.2.2.2.2.1 x2.1).bind fun r9 =>
 (A2r F x3.1 x2.2.2.2.1.1).bind fun r10 =>
 (A35 F r9.1 x3.2.1 x2.1 r10.1).bind fun r11 =>
 (A4k F x2.2.2.2.2.2.2.1 r11.1).bind fun r12 =>
 bif not r12.2.1 then
 (A2D F x2).bind fun r14 =>
 (A3w F x2 x3).bind fun r15 =>
 kret r15.1 r14.1 0
 else
 kret (x2.1,(x2.2.1,(C2 .i64 x2.2.2.1 1,(x2.2.2.2.1,(x3.1,(x2.2.2.2.2.2.1,(r12.1,x2.2.2.2.2.2.2.2))))))) [] 0
def A5O(F:Nat)(x0:qPS)(x1:qSM):Option (qPS×(List qPI)×Int×Unit) :=
 (A3v F x0).bind fun r1 =>
 bif not r1.1 then
 some ((0,(0,(0,((0,(0,())),(0,(0,((false,(((false,([0,0,0,0],())),((false,([0,0,0,0],())),())),(((false,([0,0,0,0],())),((false,([0,0,0,0],())),())),()))),()))))))),([],(1,())))
 else
 bif ltI 0 x0.2.2.1 then
 bif leI x1.1 x0.2.2.2.2.1 then
 some ((0,(0,(0,((0,(0,())),(0,(0,((false,(((false,([0,0,0,0],())),((false,([0,0,0,0],())),())),(((false,([0,0,0,0],())),((false,([0,0,0,0],())),())),()))),()))))))),([],(7,())))
 else
 A1N F (fun z17 z18 z19 =>
 some (z17,(z18,(z19,())))) x0 x1 (0,(0,(0,((0,(0,())),(0,(0,((false,(((false,([0,0,0,0],())),((false,([0,0,0,0],())),())),(((false,([0,0,0,0],())),((false,([0,0,0,0],())),())),()))),())))))))
 else
 A1N F (fun z20 z21 z22 =>
 some (z20,(z21,(z22,())))) x0 x1 (0,(0,(0,((0,(0,())),(0,(0,((false,(((false,([0,0,0,0],())),((false,([0,0,0,0],())),())),(((false,([0,0,0,0],())),((false,([0,0,0,0],())),())),()))),())))))))
def A0I(F:Nat){R:Type}(k0:qPS→(List qPI)→Option R):Nat→(List qSM)→qPS→(List qPI)→Int→Option R
 | 0,_,_,_,_=>none
 | n+1,x0,x6,x8,x9 =>
 bif ltI x9 (C7 x0) then
 bif inI x9 (List.length x0) then
 (A5O F x6 (B1 (0,(0,())) x0 x9)).bind fun r10 =>
 bif D8 ((List.length x8)+(List.length r10.2.1)) 192 then
 A0I F k0 n x0 r10.1 (x8++r10.2.1) (C2 .i64 x9 1)
 else
 none
 else
 none
 else
 k0 x6 x8
def A7f(F:Nat)(x0:(List qSM))(x1:Int):Option ((List qPI)×Int×Unit) :=
 (A4B F x1).bind fun r1 =>
 bif not (eqI r1.2.1 0) then
 some ([],(r1.2.1,()))
 else
 (A4D F x0).bind fun r3 =>
 bif not (eqI r3.1 0) then
 some ([],(7,()))
 else
 bif ltI 1073741824 (C7 x0) then
 some ([],(3,()))
 else
 A0I F (fun z13 z14 =>
 (A2D F z13).bind fun r15 =>
 bif D8 ((List.length z14)+(List.length r15.1)) 192 then
 some ((z14++r15.1),(0,()))
 else
 none) F x0 r1.1 [] 0
def A3N(F:Nat)(x0:qPI)(x1:qPI):Option (Bool×Unit) :=
 bif not (eqI x0.2.2.1 x1.2.2.1) then
 some (ltI x0.2.2.1 x1.2.2.1,())
 else
 bif not (eqT .bool x0.2.2.2.1.1 x1.2.2.2.1.1) then
 some (x0.2.2.2.1.1,())
 else
 bif not x0.2.2.2.1.1 then
 (K8 F x0.2.2.2.1.2.1 x1.2.2.2.1.2.1).bind fun r5 =>
 bif not (eqI r5.1 0) then
 some (ltI r5.1 0,())
 else
 (K8 F x0.2.2.2.1.2.2.1 x1.2.2.2.1.2.2.1).bind fun r8 =>
 bif not (eqI r8.1 0) then
 some (ltI r8.1 0,())
 else
 some (ltI x0.1 x1.1,())
 else
 some (ltI x0.1 x1.1,())
def I1(F:Nat){R:Type}(k0:Int→qL→Bool→Option R):Nat→qL→Int→qL→Bool→Int→Option R
 | 0,_,_,_,_,_=>none
 | n+1,x0,x1,x5,x6,x7 =>
 bif ltI x7 (C7 x0) then
 bif not x6 then
 bif inI x7 (List.length x0) then
 bif ltI x1 (B1 0 x0 x7) then
 bif D8 ((List.length x5)+1) 8 then
 bif inI x7 (List.length x0) then
 bif D8 ((List.length (x5++[x1]))+1) 8 then
 I1 F k0 n x0 x1 ((x5++[x1])++[B1 0 x0 x7]) true (C2 .i64 x7 1)
 else
 none
 else
 none
 else
 none
 else
 bif inI x7 (List.length x0) then
 bif D8 ((List.length x5)+1) 8 then
 I1 F k0 n x0 x1 (x5++[B1 0 x0 x7]) x6 (C2 .i64 x7 1)
 else
 none
 else
 none
 else
 none
 else
 bif inI x7 (List.length x0) then
 bif D8 ((List.length x5)+1) 8 then
 I1 F k0 n x0 x1 (x5++[B1 0 x0 x7]) x6 (C2 .i64 x7 1)
 else
 none
 else
 none
 else
 k0 x1 x5 x6
def A3O(F:Nat)(x0:qL)(x1:Int):Option (qL×Unit) :=
 I1 F (fun z16 z17 z18 =>
 bif not z18 then
 bif D8 ((List.length z17)+1) 8 then
 some ((z17++[z16]),())
 else
 none
 else
 some (z17,())) F x0 x1 [] false 0
def A3P(F:Nat)(x0:Int):Option (qR×Unit) :=
 (O5 F x0).bind fun r1 =>
 (A4i F).bind fun r2 =>
 some ((r1.1,(r2.1,())),())
def G0:Nat→Nat→qW→qW→qW→qW→Option (qW×qW×Unit)
 | 0,_,_,_,_,_=>none
 | n+1,F,x0,x1,x2,x3 =>
 (J9 F x0 x1).bind fun r1 =>
 (J7 F r1.2.1).bind fun r2 =>
 bif not (eqI r2.1 0) then
 (O5 F 1).bind fun r4 =>
 (Z8 F r1.1 r4.1).bind fun r5 =>
 (Q6 F r5.1 x3).bind fun r6 =>
 (V1 F r6.1 x2).bind fun r7 =>
 bif leI r7.1 0 then
 (O5 F 1).bind fun r9 =>
 some (r5.1,(r9.1,()))
 else
 (J9 F x0 x1).bind fun r10 =>
 (Q6 F r10.1 x3).bind fun r11 =>
 (A1J F x2 r11.1).bind fun r12 =>
 ((G0 n) F x3 r12.1 x1 r10.2.1).bind fun r13 =>
 (Q6 F r10.1 r13.1).bind fun r14 =>
 (Z8 F r14.1 r13.2.1).bind fun r15 =>
 some (r15.1,(r13.1,()))
 else
 (Q6 F r1.1 x3).bind fun r16 =>
 (V1 F r16.1 x2).bind fun r17 =>
 bif leI r17.1 0 then
 (O5 F 1).bind fun r19 =>
 some (r1.1,(r19.1,()))
 else
 (J9 F x0 x1).bind fun r20 =>
 (Q6 F r20.1 x3).bind fun r21 =>
 (A1J F x2 r21.1).bind fun r22 =>
 ((G0 n) F x3 r22.1 x1 r20.2.1).bind fun r23 =>
 (Q6 F r20.1 r23.1).bind fun r24 =>
 (Z8 F r24.1 r23.2.1).bind fun r25 =>
 some (r25.1,(r23.1,()))
def A13(F:Nat)(x0:qW)(x1:qW)(x2:qW)(x3:qW):Option (qW×qW×Unit) :=
 G0 F F x0 x1 x2 x3
def Z9(F:Nat){R:Type}(kn:qR→qR→qR→Option R)(kret:qR→Bool→Option R)(x2:qR)(x3:qR)(x4:qR)(x36:Bool):Option R :=
 bif x36 then
 (A3P F 0).bind fun r11 =>
 kret r11.1 true
 else
 kn x2 x3 x4
def A00(F:Nat){R:Type}(kret:qR→Bool→Option R)(x2:qR)(x3:qR)(x4:qR):Option R :=
 (J7 F x3.1).bind fun r15 =>
 bif ltI r15.1 0 then
 (A1I F x3.1).bind fun r17 =>
 (A1I F x2.1).bind fun r18 =>
 (A13 F r17.1 x3.2.1 r18.1 x2.2.1).bind fun r19 =>
 (A1I F r19.1).bind fun r20 =>
 kret (r20.1,(r19.2.1,())) true
 else
 (A13 F x2.1 x2.2.1 x3.1 x3.2.1).bind fun r21 =>
 kret (r21.1,(r21.2.1,())) true
def A36(F:Nat)(x0:qR)(x1:qR):Option (qR×Bool×Unit) :=
 (W1 F x0).bind fun r1 =>
 bif not r1.1 then
 some (((false,([0,0,0,0],())),((false,([0,0,0,0],())),())),(false,()))
 else
 (W1 F x1).bind fun r3 =>
 bif not r3.1 then
 some (((false,([0,0,0,0],())),((false,([0,0,0,0],())),())),(false,()))
 else
 (K8 F x0 x1).bind fun r5 =>
 bif ltI 0 r5.1 then
 some (((false,([0,0,0,0],())),((false,([0,0,0,0],())),())),(false,()))
 else
 (J7 F x0.1).bind fun r7 =>
 bif leI r7.1 0 then
 (J7 F x1.1).bind fun r9 =>
 Z9 F (fun z12 z13 z14 =>
 A00 F (fun z22 z23 =>
 some (z22,(z23,()))) z12 z13 z14) (fun z24 z25 =>
 some (z24,(z25,()))) x0 x1 ((false,([0,0,0,0],())),((false,([0,0,0,0],())),())) (leI 0 r9.1)
 else
 Z9 F (fun z26 z27 z28 =>
 A00 F (fun z29 z30 =>
 some (z29,(z30,()))) z26 z27 z28) (fun z31 z32 =>
 some (z31,(z32,()))) x0 x1 ((false,([0,0,0,0],())),((false,([0,0,0,0],())),())) false
def A2E(F:Nat)(x0:qCO):Option (qR×Unit) :=
 (A0p F x0).bind fun r1 =>
 bif not r1.1 then
 some (((false,([0,0,0,0],())),((false,([0,0,0,0],())),())),())
 else
 bif x0.1 then
 (A3P F 0).bind fun r3 =>
 some (r3.1,())
 else
 (A36 F x0.2.1 x0.2.2.1).bind fun r4 =>
 some (r4.1,())
def Z1(F:Nat){R:Type}(k2:(List qPI)→Int→Option R)(kret:(List qG)→Int→Option R):Nat→(List qPI)→Int→Int→Option R
 | 0,_,_,_=>none
 | n+1,x0,x4,x5 =>
 bif ltI x5 x4 then
 bif inI x5 (List.length x0) then
 bif inI x4 (List.length x0) then
 bif eqI (B1 (0,(0,(0,((false,(((false,([0,0,0,0],())),((false,([0,0,0,0],())),())),(((false,([0,0,0,0],())),((false,([0,0,0,0],())),())),()))),())))) x0 x5).1 (B1 (0,(0,(0,((false,(((false,([0,0,0,0],())),((false,([0,0,0,0],())),())),(((false,([0,0,0,0],())),((false,([0,0,0,0],())),())),()))),())))) x0 x4).1 then
 kret [] 1
 else
 Z1 F k2 kret n x0 x4 (C2 .i64 x5 1)
 else
 none
 else
 none
 else
 k2 x0 x4
def V2(F:Nat){R:Type}(k0:(List qPI)→Option R)(kret:(List qG)→Int→Option R):Nat→(List qPI)→Int→Option R
 | 0,_,_=>none
 | n+1,x0,x4 =>
 bif ltI x4 (C7 x0) then
 bif inI x4 (List.length x0) then
 (A0p F (B1 (0,(0,(0,((false,(((false,([0,0,0,0],())),((false,([0,0,0,0],())),())),(((false,([0,0,0,0],())),((false,([0,0,0,0],())),())),()))),())))) x0 x4).2.2.2.1).bind fun r4 =>
 bif not r4.1 then
 kret [] 1
 else
 bif inI x4 (List.length x0) then
 bif ltI (B1 (0,(0,(0,((false,(((false,([0,0,0,0],())),((false,([0,0,0,0],())),())),(((false,([0,0,0,0],())),((false,([0,0,0,0],())),())),()))),())))) x0 x4).1 0 then
 kret [] 1
 else
 Z1 F (fun z13 z14 =>
 V2 F k0 kret n z13 (C2 .i64 z14 1)) (fun z16 z17 =>
 kret z16 z17) F x0 x4 0
 else
 none
 else
 none
 else
 k0 x0
def W2(F:Nat){R:Type}(k6:(List qPI)→Int→Option R):Nat→(List qPI)→Int→Int→Option R
 | 0,_,_,_=>none
 | n+1,x0,x6,x7 =>
 bif ltI 0 x7 then
 bif inI x7 (List.length x0) then
 bif inI (E7 .i64 x7 1) (List.length x0) then
 (A3N F (B1 (0,(0,(0,((false,(((false,([0,0,0,0],())),((false,([0,0,0,0],())),())),(((false,([0,0,0,0],())),((false,([0,0,0,0],())),())),()))),())))) x0 x7) (B1 (0,(0,(0,((false,(((false,([0,0,0,0],())),((false,([0,0,0,0],())),())),(((false,([0,0,0,0],())),((false,([0,0,0,0],())),())),()))),())))) x0 (E7 .i64 x7 1))).bind fun r26 =>
 bif r26.1 then
 bif inI (E7 .i64 x7 1) (List.length x0) then
 let x86v29:=B1 (0,(0,(0,((false,(((false,([0,0,0,0],())),((false,([0,0,0,0],())),())),(((false,([0,0,0,0],())),((false,([0,0,0,0],())),())),()))),())))) x0 (E7 .i64 x7 1)
 bif inI x7 (List.length x0) then
 bif inI x7 (List.length x0) then
 bif inI (E7 .i64 x7 1) (List.length (F1 x0 x7 x86v29)) then
 W2 F k6 n (F1 (F1 x0 x7 x86v29) (E7 .i64 x7 1) (B1 (0,(0,(0,((false,(((false,([0,0,0,0],())),((false,([0,0,0,0],())),())),(((false,([0,0,0,0],())),((false,([0,0,0,0],())),())),()))),())))) x0 x7)) x6 (E7 .i64 x7 1)
 else
 none
 else
 none
 else
 none
 else
 none
 else
 k6 x0 x6
 else
 none
 else
 none
 else
 k6 x0 x6
def S4(F:Nat){R:Type}(k4:(List qPI)→Option R):Nat→(List qPI)→Int→Option R
 | 0,_,_=>none
 | n+1,x0,x6 =>
 bif ltI x6 (C7 x0) then
 W2 F (fun z34 z35 =>
 S4 F k4 n z34 (C2 .i64 z35 1)) F x0 x6 x6
 else
 k4 x0
def S5(F:Nat){R:Type}(k9:(List qPI)→(List qG)→qCO→Int→Option R)(kn:(List qPI)→(List qG)→qCO→Int→Option R)(x0:(List qPI))(x8:(List qG))(x9:qCO)(x10:Int)(x11:qCO)(x13:Int)(x130:Bool):Option R :=
 bif x130 then
 bif inI x13 (List.length x8) then
 bif inI x10 (List.length x0) then
 (A3O F (B1 (0,(((false,([0,0,0,0],())),((false,([0,0,0,0],())),())),([],()))) x8 x13).2.2.1 (B1 (0,(0,(0,((false,(((false,([0,0,0,0],())),((false,([0,0,0,0],())),())),(((false,([0,0,0,0],())),((false,([0,0,0,0],())),())),()))),())))) x0 x10).1).bind fun r50 =>
 bif inI x13 (List.length x8) then
 let x8v51:=F1 x8 x13 ((B1 (0,(((false,([0,0,0,0],())),((false,([0,0,0,0],())),())),([],()))) x8 x13).1,((B1 (0,(((false,([0,0,0,0],())),((false,([0,0,0,0],())),())),([],()))) x8 x13).2.1,(r50.1,(B1 (0,(((false,([0,0,0,0],())),((false,([0,0,0,0],())),())),([],()))) x8 x13).2.2.2)))
 (A2E F x11).bind fun r52 =>
 bif inI x13 (List.length x8v51) then
 k9 x0 (F1 x8v51 x13 ((B1 (0,(((false,([0,0,0,0],())),((false,([0,0,0,0],())),())),([],()))) x8v51 x13).1,(r52.1,(B1 (0,(((false,([0,0,0,0],())),((false,([0,0,0,0],())),())),([],()))) x8v51 x13).2.2))) x11 x10
 else
 none
 else
 none
 else
 none
 else
 none
 else
 kn x0 x8 x9 x10
def A06(F:Nat){R:Type}(kn:(List qPI)→(List qG)→qCO→Int→Option R)(x0:(List qPI))(x8:(List qG))(x9:qCO)(x10:Int):Option R :=
 bif inI x10 (List.length x0) then
 let x157v63:=(B1 (0,(0,(0,((false,(((false,([0,0,0,0],())),((false,([0,0,0,0],())),())),(((false,([0,0,0,0],())),((false,([0,0,0,0],())),())),()))),())))) x0 x10).2.2.2.1
 bif inI x10 (List.length x0) then
 (A2E F x157v63).bind fun r65 =>
 bif inI x10 (List.length x0) then
 bif D8 ((List.length x8)+1) 112 then
 kn x0 (x8++[((B1 (0,(0,(0,((false,(((false,([0,0,0,0],())),((false,([0,0,0,0],())),())),(((false,([0,0,0,0],())),((false,([0,0,0,0],())),())),()))),())))) x0 x10).2.2.1,(r65.1,([(B1 (0,(0,(0,((false,(((false,([0,0,0,0],())),((false,([0,0,0,0],())),())),(((false,([0,0,0,0],())),((false,([0,0,0,0],())),())),()))),())))) x0 x10).1],())))]) x157v63 x10
 else
 none
 else
 none
 else
 none
 else
 none
def F5(F:Nat){R:Type}(k8:(List qG)→Option R):Nat→(List qPI)→(List qG)→qCO→Int→Option R
 | 0,_,_,_,_=>none
 | n+1,x0,x8,x9,x10 =>
 bif ltI x10 (C7 x0) then
 bif inI x10 (List.length x0) then
 (A4k F x9 (B1 (0,(0,(0,((false,(((false,([0,0,0,0],())),((false,([0,0,0,0],())),())),(((false,([0,0,0,0],())),((false,([0,0,0,0],())),())),()))),())))) x0 x10).2.2.2.1).bind fun r41 =>
 bif ltI 0 x10 then
 bif r41.2.1 then
 bif inI (E7 .i64 (C7 x8) 1) (List.length x8) then
 bif inI x10 (List.length x0) then
 S5 F (fun z54 z55 z56 z57 =>
 F5 F k8 n z54 z55 z56 (C2 .i64 z57 1)) (fun z59 z60 z61 z62 =>
 A06 F (fun z68 z69 z70 z71 =>
 F5 F k8 n z68 z69 z70 (C2 .i64 z71 1)) z59 z60 z61 z62) x0 x8 x9 x10 r41.1 (E7 .i64 (C7 x8) 1) (eqI (B1 (0,(((false,([0,0,0,0],())),((false,([0,0,0,0],())),())),([],()))) x8 (E7 .i64 (C7 x8) 1)).1 (B1 (0,(0,(0,((false,(((false,([0,0,0,0],())),((false,([0,0,0,0],())),())),(((false,([0,0,0,0],())),((false,([0,0,0,0],())),())),()))),())))) x0 x10).2.2.1)
 else
 none
 else
 none
 else
 S5 F (fun z73 z74 z75 z76 =>
 F5 F k8 n z73 z74 z75 (C2 .i64 z76 1)) (fun z78 z79 z80 z81 =>
 A06 F (fun z82 z83 z84 z85 =>
 F5 F k8 n z82 z83 z84 (C2 .i64 z85 1)) z78 z79 z80 z81) x0 x8 x9 x10 r41.1 (E7 .i64 (C7 x8) 1) false
 else
 S5 F (fun z87 z88 z89 z90 =>
 F5 F k8 n z87 z88 z89 (C2 .i64 z90 1)) (fun z92 z93 z94 z95 =>
 A06 F (fun z96 z97 z98 z99 =>
 F5 F k8 n z96 z97 z98 (C2 .i64 z99 1)) z92 z93 z94 z95) x0 x8 x9 x10 r41.1 (E7 .i64 (C7 x8) 1) false
 else
 none
 else
 k8 x8
def A5P(F:Nat)(x0:(List qPI)):Option ((List qG)×Int×Unit) :=
 V2 F (fun z18 =>
 bif D8 (0+(List.length z18)) 192 then
 S4 F (fun z37 =>
 F5 F (fun z101 =>
 some (z101,(0,()))) F z37 [] (false,(((false,([0,0,0,0],())),((false,([0,0,0,0],())),())),(((false,([0,0,0,0],())),((false,([0,0,0,0],())),())),()))) 0) F ([]++z18) 0
 else
 none) (fun z102 z103 =>
 some (z102,(z103,()))) F x0 0
def A5Q(F:Nat)(x0:qTP):Option (qTP×(List qG)×Int×Unit) :=
 (A2q F x0 30).bind fun r1 =>
 (Y7 F r1.1).bind fun r2 =>
 (A7f F r1.2.1 r2.2.1).bind fun r3 =>
 (A5P F r3.1).bind fun r4 =>
 some (r2.1,(r4.1,(C7 r1.2.1,())))
def P4(F:Nat){R:Type}(kret:qTP→qR→Option R)(x0:qTP)(x2:qR)(x3:qW)(x4:qW):Option R :=
 (A3i F x3 x4).bind fun r16 =>
 bif not r16.2.1 then
 (A3P F 1).bind fun r18 =>
 kret x0 r18.1
 else
 kret x0 r16.1
def P5(F:Nat){R:Type}(kret:qTP→qR→Option R)(x0:qTP)(x2:qR)(x3:qW)(x4:qW):Option R :=
 (K5 F x0 8).bind fun r13 =>
 bif r13.2.1 then
 (O5 F 4611686018427387904).bind fun r14 =>
 (Q6 F x3 r14.1).bind fun r15 =>
 P4 F (fun z19 z20 =>
 kret z19 z20) r13.1 x2 r15.1 x4
 else
 P4 F (fun z21 z22 =>
 kret z21 z22) r13.1 x2 x3 x4
def A1O(F:Nat)(x0:qTP):Option (qTP×qR×Unit) :=
 (B4 F x0 200).bind fun r1 =>
 (O5 F (E7 .i64 r1.2.1 100)).bind fun r3 =>
 (B4 F r1.1 60).bind fun r4 =>
 (O5 F (C2 .i64 1 r4.2.1)).bind fun r6 =>
 (K5 F r4.1 4).bind fun r7 =>
 bif r7.2.1 then
 (K7 F r7.1).bind fun r8 =>
 (O5 F r8.2.1).bind fun r9 =>
 (O4 F r8.1).bind fun r10 =>
 (Q2 F (orI .u64 r10.2.1 1)).bind fun r12 =>
 P5 F (fun z23 z24 =>
 some (z23,(z24,()))) r10.1 ((false,([0,0,0,0],())),((false,([0,0,0,0],())),())) r9.1 r12.1
 else
 P5 F (fun z25 z26 =>
 some (z25,(z26,()))) r7.1 ((false,([0,0,0,0],())),((false,([0,0,0,0],())),())) r3.1 r6.1
def K0(F:Nat){R:Type}(k0:qTP→qW→qW→Option R):Nat→qTP→qW→qW→Int→Option R
 | 0,_,_,_,_=>none
 | n+1,x0,x2,x3,x4 =>
 bif ltI 0 x4 then
 (O4 F x0).bind fun r4 =>
 bif inI (E7 .i64 x4 1) 4 then
 (K5 F r4.1 4).bind fun r5 =>
 bif r5.2.1 then
 (B4 F r5.1 4).bind fun r7 =>
 bif inI r7.2.1 4 then
 bif inI (E7 .i64 x4 1) 4 then
 K0 F k0 n r7.1 x2 (x3.1,(F1 (F1 x3.2.1 (E7 .i64 x4 1) r4.2.1) (E7 .i64 x4 1) (B1 0 [0,1,9223372036854775808,18446744073709551615] r7.2.1),x3.2.2)) (E7 .i64 x4 1)
 else
 none
 else
 none
 else
 K0 F k0 n r5.1 x2 (x3.1,(F1 x3.2.1 (E7 .i64 x4 1) r4.2.1,x3.2.2)) (E7 .i64 x4 1)
 else
 none
 else
 k0 x0 x2 x3
def V3(F:Nat){R:Type}(kret:qTP→qW→Option R)(x0:qTP)(x2:qW)(x3:qW):Option R :=
 (K5 F x0 2).bind fun r17 =>
 bif r17.2.1 then
 (A1I F x3).bind fun r18 =>
 kret r17.1 r18.1
 else
 kret r17.1 x3
def A2s(F:Nat)(x0:qTP):Option (qTP×qW×Unit) :=
 (B4 F x0 5).bind fun r1 =>
 K0 F (fun z11 z12 z13 =>
 (K5 F z11 3).bind fun r14 =>
 bif r14.2.1 then
 (K7 F r14.1).bind fun r15 =>
 (O5 F r15.2.1).bind fun r16 =>
 V3 F (fun z19 z20 =>
 some (z19,(z20,()))) r15.1 z12 r16.1
 else
 V3 F (fun z21 z22 =>
 some (z21,(z22,()))) r14.1 z12 z13) F r1.1 (false,([0,0,0,0],())) (false,([0,0,0,0],())) r1.2.1
def A2b(F:Nat)(x0:qTP)(x5:(List qG))(x8:Int)(x38:Int):Option (qTP×((List qG)×Unit)) :=
 bif eqI x38 0 then
 bif inI x8 (List.length x5) then
 bif inI x8 (List.length x5) then
 bif inI 0 (List.length (B1 (0,(((false,([0,0,0,0],())),((false,([0,0,0,0],())),())),([],()))) x5 x8).2.2.1) then
 none
 else
 none
 else
 none
 else
 none
 else
 bif eqI x38 1 then
 bif inI x8 (List.length x5) then
 some (x0,(F1 x5 x8 ((B1 (0,(((false,([0,0,0,0],())),((false,([0,0,0,0],())),())),([],()))) x5 x8).1,((B1 (0,(((false,([0,0,0,0],())),((false,([0,0,0,0],())),())),([],()))) x5 x8).2.1,([],(B1 (0,(((false,([0,0,0,0],())),((false,([0,0,0,0],())),())),([],()))) x5 x8).2.2.2))),()))
 else
 none
 else
 bif eqI x38 2 then
 (A1O F x0).bind fun r8 =>
 bif inI x8 (List.length x5) then
 some (r8.1,(F1 x5 x8 ((B1 (0,(((false,([0,0,0,0],())),((false,([0,0,0,0],())),())),([],()))) x5 x8).1,(r8.2.1,(B1 (0,(((false,([0,0,0,0],())),((false,([0,0,0,0],())),())),([],()))) x5 x8).2.2)),()))
 else
 none
 else
 bif eqI x38 3 then
 (A2s F x0).bind fun r11 =>
 bif inI x8 (List.length x5) then
 some (r11.1,(F1 x5 x8 ((B1 (0,(((false,([0,0,0,0],())),((false,([0,0,0,0],())),())),([],()))) x5 x8).1,(((B1 (0,(((false,([0,0,0,0],())),((false,([0,0,0,0],())),())),([],()))) x5 x8).2.1.1,(r11.2.1,(B1 (0,(((false,([0,0,0,0],())),((false,([0,0,0,0],())),())),([],()))) x5 x8).2.1.2.2)),(B1 (0,(((false,([0,0,0,0],())),((false,([0,0,0,0],())),())),([],()))) x5 x8).2.2)),()))
 else
 none
 else
 bif eqI x38 4 then
 bif inI x8 (List.length x5) then
 bif D8 ((List.length x5)+1) 112 then
 some (x0,((x5++[B1 (0,(((false,([0,0,0,0],())),((false,([0,0,0,0],())),())),([],()))) x5 x8]),()))
 else
 none
 else
 none
 else
 bif eqI x38 5 then
 bif inI x8 (List.length x5) then
 (B4 F x0 2).bind fun r18 =>
 bif inI 0 (List.length (B1 (0,(((false,([0,0,0,0],())),((false,([0,0,0,0],())),())),([],()))) x5 x8).2.2.1) then
 none
 else
 none
 else
 none
 else
 (K7 F x0).bind fun r20 =>
 bif inI x8 (List.length x5) then
 some (r20.1,(F1 x5 x8 (r20.2.1,(B1 (0,(((false,([0,0,0,0],())),((false,([0,0,0,0],())),())),([],()))) x5 x8).2),()))
 else
 none
def H6(l:List qG):Nat→Int→List qG→Option (List qG)
 | 0,_,_=>none
 | n+1,i,out =>
 bif ltI i (C7 l) then
 bif inI i (List.length l) then
 bif D8 (0+List.length (B1 (0,(((false,([0,0,0,0],())),((false,([0,0,0,0],())),())),([],()))) l i).2.2.1) 8 then
 bif D8 (List.length out+1) 112 then
 bif eqI (C2 .i64 i 1) (C7 out+1) then
 H6 l n (C2 .i64 i 1) (out++[((B1 (0,(((false,([0,0,0,0],())),((false,([0,0,0,0],())),())),([],()))) l i).1,((B1 (0,(((false,([0,0,0,0],())),((false,([0,0,0,0],())),())),([],()))) l i).2.1,((B1 (0,(((false,([0,0,0,0],())),((false,([0,0,0,0],())),())),([],()))) l i).2.2.1,())))])
 else none
 else none
 else none
 else none
 else
 some out
def A01(F:Nat){R:Type}(kret:qTP→List qG→Option R)(x0:qTP)(x1:List qG)(x5:List qG):Option R :=
 bif eqI (C7 x5) 0 then
 (H6 x1 F 0 []).bind fun out =>
 bif eqI (C7 out) 0 then
 kret x0 [(0,(((false,([0,0,0,0],())),((false,([0,0,0,0],())),())),([],())))]
 else
 (B4 F x0 (C7 out)).bind fun r1 =>
 (B4 F r1.1 7).bind fun r2 =>
 bif inI r1.2.1 (List.length out) then
 bif eqI r2.2.1 0 then
 bif inI 0 (List.length (B1 (0,(((false,([0,0,0,0],())),((false,([0,0,0,0],())),())),([],()))) out r1.2.1).2.2.1) then
 bif D8 (List.length (B1 (0,(((false,([0,0,0,0],())),((false,([0,0,0,0],())),())),([],()))) out r1.2.1).2.2.1+1) 8 then
 kret r2.1 (F1 out r1.2.1 ((B1 (0,(((false,([0,0,0,0],())),((false,([0,0,0,0],())),())),([],()))) out r1.2.1).1,((B1 (0,(((false,([0,0,0,0],())),((false,([0,0,0,0],())),())),([],()))) out r1.2.1).2.1,((B1 (0,(((false,([0,0,0,0],())),((false,([0,0,0,0],())),())),([],()))) out r1.2.1).2.2.1++[B1 0 (B1 (0,(((false,([0,0,0,0],())),((false,([0,0,0,0],())),())),([],()))) out r1.2.1).2.2.1 0],()))))
 else none
 else none
 else
 bif eqI r2.2.1 5 then
 (B4 F r2.1 2).bind fun r3 =>
 bif inI 0 (List.length (B1 (0,(((false,([0,0,0,0],())),((false,([0,0,0,0],())),())),([],()))) out r1.2.1).2.2.1) then
 kret r3.1 (F1 out r1.2.1 ((B1 (0,(((false,([0,0,0,0],())),((false,([0,0,0,0],())),())),([],()))) out r1.2.1).1,((B1 (0,(((false,([0,0,0,0],())),((false,([0,0,0,0],())),())),([],()))) out r1.2.1).2.1,(F1 (B1 (0,(((false,([0,0,0,0],())),((false,([0,0,0,0],())),())),([],()))) out r1.2.1).2.2.1 0 (E7 .i64 4096 r3.2.1),()))))
 else none
 else
 (A2b F r2.1 out r1.2.1 r2.2.1).bind fun r=>kret r.1 r.2.1
 else none
 else none
def A37(F:Nat)(x0:qTP)(x1:(List qG)):Option (qTP×(List qG)×Unit) :=
 A01 F (fun z1 z2 =>
 some (z1,(z2,()))) x0 x1 []
def P6(F:Nat){R:Type}(k0:Int→Option R):Nat→Int→(List qG)→Int→Int→Option R
 | 0,_,_,_,_=>none
 | n+1,x3,x6,x7,x8 =>
 bif ltI x8 x7 then
 bif inI x8 (List.length x6) then
 P6 F k0 n (C2 .i64 x3 (C7 (B1 (0,(((false,([0,0,0,0],())),((false,([0,0,0,0],())),())),([],()))) x6 x8).2.2.1)) x6 x7 (C2 .i64 x8 1)
 else
 none
 else
 k0 x3
def A0q(F:Nat)(x0:(List qG)):Option (Int×Unit) :=
 P6 F (fun z7 =>
 some (z7,())) F 0 x0 (C7 x0) 0
def A0J(F:Nat)(x0:qW):Option (Bool×Unit) :=
 bif not x0.1 then
 some (true,())
 else
 some (not (eqT (.arr 4 (.int .u64)) x0.2.1 [0,0,0,0]),())
def U3(F:Nat)(x0:qW):Option (qW×Unit) :=
 (A0J F x0).bind fun r1 =>
 bif not r1.1 then
 some ((false,([0,0,0,0],())),())
 else
 some (x0,())
def A3x(F:Nat)(x0:qW):Option (Int×Unit) :=
 (U3 F x0).bind fun r1 =>
 bif r1.1.1 then
 some ((-1),())
 else
 bif eqT (.arr 4 (.int .u64)) r1.1.2.1 [0,0,0,0] then
 some (0,())
 else
 some (1,())
def A3y(F:Nat)(x0:qW):Option (Bool×Unit) :=
 bif eqI (B1 0 x0.2.1 3) 0 then
 bif eqI (B1 0 x0.2.1 2) 0 then
 some (eqI (T8 .u64 (B1 0 x0.2.1 1) 63) 0,())
 else
 some (false,())
 else
 some (false,())
def S6(F:Nat){R:Type}(k0:Option R)(kret:Int→Option R):Nat→qL→Int→Option R
 | 0,_,_=>none
 | n+1,x1,x3 =>
 bif leI 0 x3 then
 bif inI x3 4 then
 bif not (eqI (B1 0 x1 x3) 0) then
 bif inI x3 4 then
 (N7 F (B1 0 x1 x3)).bind fun r6 =>
 kret (C2 .i64 (A0X .i64 64 x3) r6.1)
 else
 none
 else
 S6 F k0 kret n x1 (E7 .i64 x3 1)
 else
 none
 else
 k0
def A3z(F:Nat)(x0:qL):Option (Int×Unit) :=
 S6 F (
 some (0,())) (fun z9 =>
 some (z9,())) F x0 3
def A3Q(F:Nat){R:Type}(kn:qL→qL→Int→Int→Int→Option R)(x2:qL)(x4:qL)(x5:Int)(x6:Int)(x7:Int)(x32:Bool):Option R :=
 bif x32 then
 bif inI x7 4 then
 bif inI (E7 .i64 (E7 .i64 x7 x5) 1) 4 then
 bif ltI (E7 .i64 64 x6) 0 then
 none
 else
 bif inI x7 4 then
 kn x2 (F1 x4 x7 (orI .u64 (B1 0 x4 x7) (T8 .u64 (B1 0 x2 (E7 .i64 (E7 .i64 x7 x5) 1)) (E7 .i64 64 x6)))) x5 x6 x7
 else
 none
 else
 none
 else
 none
 else
 kn x2 x4 x5 x6 x7
def L5(F:Nat){R:Type}(k0:qL→Option R):Nat→qL→qL→Int→Int→Int→Option R
 | 0,_,_,_,_,_=>none
 | n+1,x2,x4,x5,x6,x7 =>
 bif ltI x7 4 then
 bif inI (E7 .i64 x7 x5) 4 then
 bif ltI x6 0 then
 none
 else
 bif inI x7 4 then
 bif ltI 0 x6 then
 A3Q F (fun z18 z19 z20 z21 z22 =>
 L5 F k0 n z18 z19 z20 z21 (C2 .i64 z22 1)) x2 (F1 x4 x7 (A0Y .u64 (B1 0 x2 (E7 .i64 x7 x5)) x6)) x5 x6 x7 (ltI x5 x7)
 else
 A3Q F (fun z24 z25 z26 z27 z28 =>
 L5 F k0 n z24 z25 z26 z27 (C2 .i64 z28 1)) x2 (F1 x4 x7 (A0Y .u64 (B1 0 x2 (E7 .i64 x7 x5)) x6)) x5 x6 x7 false
 else
 none
 else
 none
 else
 k0 x4
def A7g(F:Nat)(x0:qL)(x1:Int):Option (qL×Unit) :=
 L5 F (fun z30 =>
 some (z30,())) F x0 [0,0,0,0] (A0W .i64 x1 64) (A1y x1 64) (A0W .i64 x1 64)
def A18(F:Nat)(x0:Int):Option (Bool×Unit) :=
 some (not (eqI x0 x0),())
def K9(F:Nat)(x0:Int)(x1:Int):Option (Int×Unit) :=
 (A18 F x0).bind fun r1 =>
 (A18 F x1).bind fun r2 =>
 bif r1.1 then
 bif r2.1 then
 some (0,())
 else
 some ((-1),())
 else
 bif r2.1 then
 some (1,())
 else
 bif ltI x0 x1 then
 some ((-1),())
 else
 bif ltI x1 x0 then
 some (1,())
 else
 some (0,())
def O6(F:Nat){R:Type}(k0:Int→Option R)(kret:Int→Option R):Nat→Int→qL→Int→Int→Option R
 | 0,_,_,_,_=>none
 | n+1,x3,x6,x7,x8 =>
 bif ltI x8 x7 then
 bif inI x8 (List.length x6) then
 bif not (eqI (B1 0 x6 x8) x3) then
 kret (B1 0 x6 x8)
 else
 O6 F k0 kret n x3 x6 x7 (C2 .i64 x8 1)
 else
 none
 else
 k0 x3
def A2c(F:Nat)(x0:qL):Option (Int×Unit) :=
 O6 F (fun z6 =>
 some (z6,())) (fun z7 =>
 some (z7,())) F 0 x0 (C7 x0) 0
def A1v(F:Nat)(x0:qL)(x1:qL):Option (Int×Unit) :=
 (K9 F (B1 0 x0 3) (B1 0 x1 3)).bind fun r3 =>
 (K9 F (B1 0 x0 2) (B1 0 x1 2)).bind fun r6 =>
 (K9 F (B1 0 x0 1) (B1 0 x1 1)).bind fun r9 =>
 (K9 F (B1 0 x0 0) (B1 0 x1 0)).bind fun r12 =>
 (A2c F [r3.1,r6.1,r9.1,r12.1]).bind fun r13 =>
 some (r13.1,())
def A0r(F:Nat){R:Type}(k0:qL→Option R):Nat→qL→qL→qL→Int→Int→Option R
 | 0,_,_,_,_,_=>none
 | n+1,x2,x3,x4,x5,x7 =>
 bif ltI x7 4 then
 bif inI x7 4 then
 bif inI x7 4 then
 (A0C F (B1 0 x2 x7) (B1 0 x3 x7) x5).bind fun r4 =>
 bif inI x7 4 then
 A0r F k0 n x2 x3 (F1 x4 x7 r4.1) r4.2.1 (C2 .i64 x7 1)
 else
 none
 else
 none
 else
 none
 else
 k0 x4
def A7h(F:Nat)(x0:qL)(x1:qL):Option (qL×Unit) :=
 A0r F (fun z7 =>
 some (z7,())) F x0 x1 [0,0,0,0] 0 0
def O7(F:Nat){R:Type}(k0:qL→Option R):Nat→qL→qL→Int→Option R
 | 0,_,_,_=>none
 | n+1,x1,x2,x4 =>
 bif ltI x4 4 then
 bif inI x4 4 then
 bif inI x4 4 then
 bif ltI x4 3 then
 bif inI x4 4 then
 bif inI (C2 .i64 x4 1) 4 then
 bif inI x4 4 then
 O7 F k0 n x1 (F1 (F1 x2 x4 (T8 .u64 (B1 0 x1 x4) 1)) x4 (orI .u64 (B1 0 (F1 x2 x4 (T8 .u64 (B1 0 x1 x4) 1)) x4) (A0Y .u64 (B1 0 x1 (C2 .i64 x4 1)) 63))) (C2 .i64 x4 1)
 else
 none
 else
 none
 else
 none
 else
 O7 F k0 n x1 (F1 x2 x4 (T8 .u64 (B1 0 x1 x4) 1)) (C2 .i64 x4 1)
 else
 none
 else
 none
 else
 k0 x2
def A3A(F:Nat)(x0:qL):Option (qL×Unit) :=
 O7 F (fun z14 =>
 some (z14,())) F x0 [0,0,0,0] 0
def A1i(F:Nat){R:Type}(k0:qL→qL→qL→Option R):Nat→qL→qL→qL→Int→qL→Option R
 | 0,_,_,_,_,_=>none
 | n+1,x2,x4,x5,x6,x7 =>
 bif leI 0 x6 then
 (A1v F x2 x7).bind fun r7 =>
 bif leI 0 r7.1 then
 (A7h F x2 x7).bind fun r9 =>
 bif inI (A0W .i64 x6 64) 4 then
 bif ltI (A1y x6 64) 0 then
 none
 else
 bif inI (A0W .i64 x6 64) 4 then
 (A3A F x7).bind fun r16 =>
 A1i F k0 n r9.1 (F1 x4 (A0W .i64 x6 64) (orI .u64 (B1 0 x4 (A0W .i64 x6 64)) (A0Y .u64 1 (A1y x6 64)))) x5 (E7 .i64 x6 1) r16.1
 else
 none
 else
 none
 else
 (A3A F x7).bind fun r18 =>
 A1i F k0 n x2 x4 x5 (E7 .i64 x6 1) r18.1
 else
 k0 x2 x4 x5
def A8X(F:Nat)(x0:qL)(x1:qL):Option (qL×qL×Unit) :=
 (A3z F x0).bind fun r1 =>
 (A3z F x1).bind fun r2 =>
 let x12v3:=E7 .i64 r1.1 r2.1
 bif ltI x12v3 0 then
 some ([0,0,0,0],(x0,()))
 else
 (A7g F x1 x12v3).bind fun r5 =>
 A1i F (fun z20 z21 z22 =>
 some (z21,(z20,()))) F x0 [0,0,0,0] [0,0,0,0] x12v3 r5.1
def A6B(F:Nat){R:Type}(k0:qL→Int→Option R):Nat→qL→qL→qL→Int→Int→Option R
 | 0,_,_,_,_,_=>none
 | n+1,x2,x3,x4,x5,x7 =>
 bif ltI x7 4 then
 bif inI x7 4 then
 bif inI x7 4 then
 (U1 F (B1 0 x2 x7) (B1 0 x3 x7) x5).bind fun r4 =>
 bif inI x7 4 then
 A6B F k0 n x2 x3 (F1 x4 x7 r4.1) r4.2.1 (C2 .i64 x7 1)
 else
 none
 else
 none
 else
 none
 else
 k0 x4 x5
def B91(F:Nat)(x0:qL)(x1:qL):Option (qL×Int×Unit) :=
 A6B F (fun z7 z8 =>
 some (z7,(z8,()))) F x0 x1 [0,0,0,0] 0 0
def A2d(F:Nat)(x0:Bool)(x1:qL):Option (qW×Unit) :=
 (U3 F (x0,(x1,()))).bind fun r1 =>
 some (r1.1,())
def A2t(F:Nat){R:Type}(kn:qW→qW→qW→qW→qL→qL→Option R)(x2:qW)(x3:qW)(x4:qW)(x5:qW)(x7:qL)(x8:qL)(x32:Bool):Option R :=
 bif x32 then
 (B91 F x7 [1,0,0,0]).bind fun r7 =>
 (A7h F x3.2.1 x8).bind fun r8 =>
 kn x2 x3 x4 x5 r7.1 r8.1
 else
 kn x2 x3 x4 x5 x7 x8
def A2u(F:Nat){R:Type}(kret:qW→qW→Bool→Option R)(x2:qW)(x3:qW)(x4:qW)(x5:qW)(x7:qL)(x8:qL):Option R :=
 (A2d F (not (eqT .bool x2.1 x3.1)) x7).bind fun r16 =>
 (A2d F false x8).bind fun r17 =>
 kret r16.1 r17.1 true
def A4F(F:Nat)(x0:qW)(x1:qW):Option (qW×qW×Bool×Unit) :=
 (U3 F x0).bind fun r1 =>
 (U3 F x1).bind fun r2 =>
 (A3x F r2.1).bind fun r3 =>
 bif eqI r3.1 0 then
 some ((false,([0,0,0,0],())),((false,([0,0,0,0],())),(false,())))
 else
 (A8X F r1.1.2.1 r2.1.2.1).bind fun r5 =>
 bif r1.1.1 then
 A2t F (fun z9 z10 z11 z12 z13 z14 =>
 A2u F (fun z18 z19 z20 =>
 some (z18,(z19,(z20,())))) z9 z10 z11 z12 z13 z14) r1.1 r2.1 (false,([0,0,0,0],())) (false,([0,0,0,0],())) r5.1 r5.2.1 (not (eqT (.arr 4 (.int .u64)) r5.2.1 [0,0,0,0]))
 else
 A2t F (fun z21 z22 z23 z24 z25 z26 =>
 A2u F (fun z27 z28 z29 =>
 some (z27,(z28,(z29,())))) z21 z22 z23 z24 z25 z26) r1.1 r2.1 (false,([0,0,0,0],())) (false,([0,0,0,0],())) r5.1 r5.2.1 false
def Q4(F:Nat){R:Type}(k0:qW→qW→Option R):Nat→qW→qW→qW→Option R
 | 0,_,_,_=>none
 | n+1,x2,x3,x4 =>
 (A3x F x3).bind fun r1 =>
 bif not (eqI r1.1 0) then
 (A4F F x2 x3).bind fun r3 =>
 Q4 F k0 n x3 r3.2.1 x4
 else
 k0 x2 x4
def A38(F:Nat)(x0:qW)(x1:qW):Option (qW×Unit) :=
 Q4 F (fun z4 z5 =>
 some (z4,())) F (false,x0.2) (false,x1.2) (false,([0,0,0,0],()))
def A9W(F:Nat)(x0:Int):Option (qW×Unit) :=
 bif ltI x0 0 then
 some ((true,([E7 .u64 0 (IntKind.wrap .u64 x0),0,0,0],())),())
 else
 some ((false,([IntKind.wrap .u64 x0,0,0,0],())),())
def A2e(F:Nat)(x0:qR):Option (Bool×Unit) :=
 (A0J F x0.1).bind fun r1 =>
 bif r1.1 then
 (A0J F x0.2.1).bind fun r2 =>
 bif r2.1 then
 (A3x F x0.2.1).bind fun r3 =>
 bif ltI 0 r3.1 then
 (A3y F x0.1).bind fun r5 =>
 bif r5.1 then
 (A3y F x0.2.1).bind fun r6 =>
 bif r6.1 then
 (A38 F x0.1 x0.2.1).bind fun r7 =>
 (A9W F 1).bind fun r8 =>
 some (eqT (.pair .bool (.pair (.arr 4 (.int .u64)) .unit)) r7.1 r8.1,())
 else
 some (false,())
 else
 some (false,())
 else
 some (false,())
 else
 some (false,())
 else
 some (false,())
def A1P(F:Nat)(x0:Int):Option (Bool×Unit) :=
 some (not (eqI x0 x0),())
def A0K(F:Nat)(x0:Int)(x1:Int):Option (Int×Unit) :=
 (A1P F x0).bind fun r1 =>
 (A1P F x1).bind fun r2 =>
 bif r1.1 then
 bif r2.1 then
 some (0,())
 else
 some ((-1),())
 else
 bif r2.1 then
 some (1,())
 else
 bif ltI x0 x1 then
 some ((-1),())
 else
 bif ltI x1 x0 then
 some (1,())
 else
 some (0,())
def B92(F:Nat)(x0:Int):Option (qR×Unit) :=
 (A9W F x0).bind fun r1 =>
 (A9W F 1).bind fun r2 =>
 some ((r1.1,(r2.1,())),())
def A4G(F:Nat)(x0:qR):Option (qR×Unit) :=
 (A2e F x0).bind fun r1 =>
 bif not r1.1 then
 (B92 F 0).bind fun r3 =>
 some (r3.1,())
 else
 some (x0,())
def A1j(F:Nat){R:Type}(k2:qL→qL→qL→Int→Int→qL→Int→Option R):Nat→qL→qL→qL→Int→Int→Int→qL→Int→qL→Int→Option R
 | 0,_,_,_,_,_,_,_,_,_,_=>none
 | n+1,x3,x4,x6,x7,x8,x9,x16,x17,x21,x22 =>
 bif ltI x22 4 then
 bif inI x22 4 then
 (A4j F x8 (B1 0 x21 x22)).bind fun r5 =>
 bif inI (C2 .i64 x7 x22) 8 then
 (U1 F (B1 0 x6 (C2 .i64 x7 x22)) r5.2.1 0).bind fun r8 =>
 (U1 F r8.1 x9 0).bind fun r10 =>
 bif inI (C2 .i64 x7 x22) 8 then
 A1j F k2 n x3 x4 (F1 x6 (C2 .i64 x7 x22) r10.1) x7 x8 (C2 .u64 (C2 .u64 r5.1 r8.2.1) r10.2.1) x16 x17 x21 (C2 .i64 x22 1)
 else
 none
 else
 none
 else
 none
 else
 k2 x3 x4 x6 x7 x9 x16 x17
def A2f(F:Nat){R:Type}(k0:qL→qL→Option R):Nat→qL→qL→qL→qL→Int→Option R
 | 0,_,_,_,_,_=>none
 | n+1,x3,x4,x6,x16,x17 =>
 bif ltI x17 4 then
 bif inI x17 4 then
 A1j F (fun z15 z16 z17 z18 z19 z20 z21 =>
 bif inI (C2 .i64 z18 4) 8 then
 A2f F k0 n z15 z16 (F1 z17 (C2 .i64 z18 4) z19) z20 (C2 .i64 z21 1)
 else
 none) F x3 x4 x6 x17 (B1 0 x16 x17) 0 x16 x17 x3 0
 else
 none
 else
 k0 x4 x6
def A8Y(F:Nat)(x0:qL)(x1:qL):Option (qL×Bool×Unit) :=
 A2f F (fun z25 z26 =>
 some ((((List.take 0 z25)++(List.take 4 (List.drop 0 z26)))++(List.drop 4 z25)),(eqT (.arr 4 (.int .u64)) (List.take 4 (List.drop 4 z26)) [0,0,0,0],()))) F x1 [0,0,0,0] [0,0,0,0,0,0,0,0] x0 0
def A8Z(F:Nat)(x0:qW)(x1:qW):Option (qW×Bool×Unit) :=
 (U3 F x0).bind fun r1 =>
 (U3 F x1).bind fun r2 =>
 (A8Y F r1.1.2.1 r2.1.2.1).bind fun r3 =>
 bif not r3.2.1 then
 some ((false,([0,0,0,0],())),(false,()))
 else
 (A2d F (not (eqT .bool r1.1.1 r2.1.1)) r3.1).bind fun r6 =>
 some (r6.1,(true,()))
def A39(F:Nat)(x0:qW)(x1:qW):Option (qW×Unit) :=
 (A8Z F x0 x1).bind fun r1 =>
 some (r1.1,())
def A1Q(F:Nat){R:Type}(kn:qW→qW→Option R)(kret:Int→Option R)(x2:qW)(x3:qW)(x9:Bool):Option R :=
 bif x9 then
 (A1v F x3.2.1 x2.2.1).bind fun r3 =>
 kret r3.1
 else
 bif x2.1 then
 kret (-1)
 else
 bif x3.1 then
 kret 1
 else
 kn x2 x3
def A1S(F:Nat){R:Type}(kret:Int→Option R)(x2:qW)(x3:qW):Option R :=
 (A1v F x2.2.1 x3.2.1).bind fun r6 =>
 kret r6.1
def A3S(F:Nat)(x0:qW)(x1:qW):Option (Int×Unit) :=
 (U3 F x0).bind fun r1 =>
 (U3 F x1).bind fun r2 =>
 bif r1.1.1 then
 A1Q F (fun z4 z5 =>
 A1S F (fun z7 =>
 some (z7,())) z4 z5) (fun z8 =>
 some (z8,())) r1.1 r2.1 r2.1.1
 else
 A1Q F (fun z9 z10 =>
 A1S F (fun z11 =>
 some (z11,())) z9 z10) (fun z12 =>
 some (z12,())) r1.1 r2.1 false
def A3a(F:Nat)(x0:qR)(x1:qR):Option (Int×Unit) :=
 (A4G F x0).bind fun r1 =>
 (A4G F x1).bind fun r2 =>
 (A39 F r1.1.1 r2.1.2.1).bind fun r3 =>
 (A39 F r2.1.1 r1.1.2.1).bind fun r4 =>
 (A3S F r3.1 r4.1).bind fun r5 =>
 some (r5.1,())
def A19(F:Nat)(x0:qG)(x1:qG):Option (Int×Unit) :=
 (A0K F x0.1 x1.1).bind fun r1 =>
 (A3a F x0.2.1 x1.2.1).bind fun r2 =>
 (A2c F [r1.1,r2.1]).bind fun r3 =>
 some (r3.1,())
def L0(F:Nat){R:Type}(k2:(List qG)→(List Bool)→(List qG)→Int→Int→Option R)(kret:Int→Option R):Nat→(List qG)→(List Bool)→qG→(List qG)→Int→Int→qL→Int→Int→Option R
 | 0,_,_,_,_,_,_,_,_,_=>none
 | n+1,x0,x3,x5,x16,x17,x18,x48,x49,x50 =>
 bif ltI x50 x49 then
 bif inI x50 (List.length x48) then
 bif ltI (B1 0 x48 x50) 0 then
 kret 1
 else
 bif leI 4096 (B1 0 x48 x50) then
 kret 1
 else
 bif inI (B1 0 x48 x50) 4096 then
 bif B1 false x3 (B1 0 x48 x50) then
 kret 1
 else
 bif ltI 0 x50 then
 bif inI (E7 .i64 x50 1) (List.length x5.2.2.1) then
 bif leI (B1 0 x48 x50) (B1 0 x5.2.2.1 (E7 .i64 x50 1)) then
 kret 1
 else
 bif inI (B1 0 x48 x50) 4096 then
 L0 F k2 kret n x0 (F1 x3 (B1 0 x48 x50) true) x5 x16 x17 x18 x48 x49 (C2 .i64 x50 1)
 else
 none
 else
 none
 else
 bif inI (B1 0 x48 x50) 4096 then
 L0 F k2 kret n x0 (F1 x3 (B1 0 x48 x50) true) x5 x16 x17 x18 x48 x49 (C2 .i64 x50 1)
 else
 none
 else
 none
 else
 none
 else
 k2 x0 x3 x16 x17 x18
def X5(F:Nat){R:Type}(kn:(List qG)→(List Bool)→(List qG)→Int→Int→Option R)(kret:Int→Option R)(x0:(List qG))(x3:(List Bool))(x5:qG)(x16:(List qG))(x17:Int)(x18:Int):Option R :=
 L0 F (fun z31 z32 z33 z34 z35 =>
 kn z31 z32 z33 z34 z35) (fun z36 =>
 kret z36) F x0 x3 x5 x16 x17 x18 x5.2.2.1 (C7 x5.2.2.1) 0
def H4(F:Nat){R:Type}(k0:Option R)(kret:Int→Option R):Nat→(List qG)→(List Bool)→(List qG)→Int→Int→Option R
 | 0,_,_,_,_,_=>none
 | n+1,x0,x3,x16,x17,x18 =>
 bif ltI x18 x17 then
 bif inI x18 (List.length x16) then
 let x22v7:=B1 (0,(((false,([0,0,0,0],())),((false,([0,0,0,0],())),())),([],()))) x16 x18
 (A2e F x22v7.2.1).bind fun r8 =>
 bif not r8.1 then
 kret 1
 else
 bif eqI (C7 x22v7.2.2.1) 0 then
 kret 1
 else
 bif ltI 0 x18 then
 bif inI (E7 .i64 x18 1) (List.length x0) then
 (A19 F (B1 (0,(((false,([0,0,0,0],())),((false,([0,0,0,0],())),())),([],()))) x0 (E7 .i64 x18 1)) x22v7).bind fun r15 =>
 bif leI 0 r15.1 then
 kret 1
 else
 X5 F (fun z37 z38 z39 z40 z41 =>
 H4 F k0 kret n z37 z38 z39 z40 (C2 .i64 z41 1)) (fun z43 =>
 kret z43) x0 x3 x22v7 x16 x17 x18
 else
 none
 else
 X5 F (fun z44 z45 z46 z47 z48 =>
 H4 F k0 kret n z44 z45 z46 z47 (C2 .i64 z48 1)) (fun z50 =>
 kret z50) x0 x3 x22v7 x16 x17 x18
 else
 none
 else
 k0
def A07(F:Nat)(x0:(List qG)):Option (Int×Unit) :=
 bif ltI 4096 (C7 x0) then
 some (3,())
 else
 (A0q F x0).bind fun r3 =>
 bif ltI 4096 r3.1 then
 some (3,())
 else
 H4 F (
 some (0,())) (fun z51 =>
 some (z51,())) F x0 (List.replicate 4096 false) x0 (C7 x0) 0
def A0e(F:Nat)(x0:qL):Option (qL×Unit) :=
 bif D8 (0+List.length x0) 8 then some (x0,()) else none
def A5a(F:Nat)(x0:Int)(x1:Int):Option (Int×Unit) :=
 some (E7 .u64 (IntKind.wrap .u64 x0) (IntKind.wrap .u64 x1),())
def H0(F:Nat){R:Type}(k0:qL→Option R):Nat→qL→Int→Option R
 | 0,_,_=>none
 | n+1,x0,x2 =>
 bif ltI 0 x2 then
 bif inI x2 (List.length x0) then
 bif inI (E7 .i64 x2 1) (List.length x0) then
 (A5a F (B1 0 x0 x2) (B1 0 x0 (E7 .i64 x2 1))).bind fun r7 =>
 bif inI x2 (List.length x0) then
 H0 F k0 n (F1 x0 x2 (IntKind.wrap .i64 r7.1)) (E7 .i64 x2 1)
 else
 none
 else
 none
 else
 none
 else
 k0 x0
def X0(F:Nat)(x0:qL):Option (qL×Unit) :=
 H0 F (fun z11 =>
 some (z11,())) F x0 (E7 .i64 (C7 x0) 1)
def A7i(F:Nat)(x0:Int)(x1:Int):Option (Int×Unit) :=
 some (IntKind.wrap .i64 (C2 .u64 (IntKind.wrap .u64 x0) x1),())
def A2P(F:Nat){R:Type}(k0:qL→Option R):Nat→qL→Int→Option R
 | 0,_,_=>none
 | n+1,x0,x2 =>
 bif ltI x2 (C7 x0) then
 bif inI x2 (List.length x0) then
 bif inI (E7 .i64 x2 1) (List.length x0) then
 (A7i F (B1 0 x0 x2) (IntKind.wrap .u64 (B1 0 x0 (E7 .i64 x2 1)))).bind fun r7 =>
 bif inI x2 (List.length x0) then
 A2P F k0 n (F1 x0 x2 r7.1) (C2 .i64 x2 1)
 else
 none
 else
 none
 else
 none
 else
 k0 x0
def A7j(F:Nat)(x0:qL):Option (qL×Unit) :=
 A2P F (fun z10 =>
 some (z10,())) F x0 1
def N8(F:Nat){R:Type}(k0:qL→Option R):Nat→qL→Int→Int→Option R
 | 0,_,_,_=>none
 | n+1,x0,x6,x7 =>
 bif ltI x7 x6 then
 (X0 F x0).bind fun r2 =>
 N8 F k0 n r2.1 x6 (C2 .i64 x7 1)
 else
 k0 x0
def A2Q(F:Nat)(x0:qL)(x1:Int):Option (qL×Unit) :=
 N8 F (fun z4 =>
 some (z4,())) F x0 x1 0
def A1k(F:Nat){R:Type}(k0:qL→Option R):Nat→qL→Int→Int→Option R
 | 0,_,_,_=>none
 | n+1,x0,x6,x7 =>
 bif ltI x7 x6 then
 (A7j F x0).bind fun r2 =>
 A1k F k0 n r2.1 x6 (C2 .i64 x7 1)
 else
 k0 x0
def A02(F:Nat)(x0:qL)(x1:Int):Option (qL×Unit) :=
 A1k F (fun z4 =>
 some (z4,())) F x0 x1 0
def A3b(F:Nat)(x0:Int):Option (Int×Unit) :=
 some (D0z .u64 (A0Y .u64 (IntKind.wrap .u64 x0) 1) (IntKind.wrap .u64 (T8 .i64 x0 63)),())
def K1(F:Nat){R:Type}(k0:qL→Option R):Nat→qL→qL→Int→Int→Option R
 | 0,_,_,_,_=>none
 | n+1,x7,x24,x25,x26 =>
 bif ltI x26 x25 then
 bif inI x26 (List.length x24) then
 (A3b F (B1 0 x24 x26)).bind fun r10 =>
 bif inI x26 (List.length x7) then
 K1 F k0 n (F1 x7 x26 r10.1) x24 x25 (C2 .i64 x26 1)
 else
 none
 else
 none
 else
 k0 x7
def P7(F:Nat)(x0:qL)(x1:Int):Option (qL×Bool×Unit) :=
 bif ltI x1 0 then
 some ([],(false,()))
 else
 bif ltI 2 x1 then
 some ([],(false,()))
 else
 (A0e F x0).bind fun r3 =>
 (A2Q F r3.1 x1).bind fun r4 =>
 bif A1x (C7 r4.1) (C7 r4.1) 8 then
 K1 F (fun z13 =>
 some (z13,(true,()))) F (I5 (C7 r4.1) (0:Int)) r4.1 (C7 r4.1) 0
 else
 none
def A4H(F:Nat)(x0:Int):Option (Int×Unit) :=
 (N7 F x0).bind fun r1 =>
 some (C7x (A0W .i64 (C2 .i64 r1.1 6) 7) 1,())
def U4(F:Nat){R:Type}(k0:Int→Option R):Nat→Int→qL→Int→Int→Option R
 | 0,_,_,_,_=>none
 | n+1,x3,x6,x7,x8 =>
 bif ltI x8 x7 then
 bif inI x8 (List.length x6) then
 U4 F k0 n (orI .u64 x3 (B1 0 x6 x8)) x6 x7 (C2 .i64 x8 1)
 else
 none
 else
 k0 x3
def A3c(F:Nat)(x0:qL):Option (Int×Unit) :=
 U4 F (fun z6 =>
 (N7 F z6).bind fun r7 =>
 some (r7.1,())) F 0 x0 (C7 x0) 0
def A0L(F:Nat)(x0:Int)(x1:Int):Option (Int×Unit) :=
 bif ltI x0 0 then
 some ((-1),())
 else
 bif ltI 65536 x0 then
 some ((-1),())
 else
 bif ltI x1 0 then
 some ((-1),())
 else
 bif ltI 64 x1 then
 some ((-1),())
 else
 some (A0W .i64 (C2 .i64 (A0X .i64 x0 x1) 7) 8,())
def Q5(F:Nat){R:Type}(k2:Int→qL→Int→qL→Int→Int→Option R):Nat→Int→qL→Int→Int→Int→qL→Int→Int→Option R
 | 0,_,_,_,_,_,_,_,_=>none
 | n+1,x1,x7,x8,x10,x11,x27,x28,x29 =>
 bif ltI 0 x11 then
 bif inI (A0W .i64 x8 8) (List.length x7) then
 bif ltI (A1y x8 8) 0 then
 none
 else
 bif inI (A0W .i64 x8 8) (List.length x7) then
 bif ltI (B12 (E7 .i64 8 (A1y x8 8)) x11) 0 then
 none
 else
 Q5 F k2 n x1 (F1 x7 (A0W .i64 x8 8) (orI .u8 (B1 0 x7 (A0W .i64 x8 8)) (A0Y .u8 (IntKind.wrap .u8 x10) (A1y x8 8)))) (C2 .i64 x8 (B12 (E7 .i64 8 (A1y x8 8)) x11)) (T8 .u64 x10 (B12 (E7 .i64 8 (A1y x8 8)) x11)) (E7 .i64 x11 (B12 (E7 .i64 8 (A1y x8 8)) x11)) x27 x28 x29
 else
 none
 else
 none
 else
 k2 x1 x7 x8 x27 x28 x29
def T4(F:Nat){R:Type}(k0:qL→Option R):Nat→Int→qL→Int→qL→Int→Int→Option R
 | 0,_,_,_,_,_,_=>none
 | n+1,x1,x7,x8,x27,x28,x29 =>
 bif ltI x29 x28 then
 bif inI x29 (List.length x27) then
 Q5 F (fun z24 z25 z26 z27 z28 z29 =>
 T4 F k0 n z24 z25 z26 z27 z28 (C2 .i64 z29 1)) F x1 x7 x8 (B1 0 x27 x29) x1 x27 x28 x29
 else
 none
 else
 k0 x7
def A3T(F:Nat)(x0:qL)(x1:Int):Option (qL×Bool×Unit) :=
 (A0L F (C7 x0) x1).bind fun r2 =>
 bif ltI r2.1 0 then
 some ([],(false,()))
 else
 (A3c F x0).bind fun r4 =>
 bif ltI x1 r4.1 then
 some ([],(false,()))
 else
 bif A1x r2.1 r2.1 1 then
 T4 F (fun z31 =>
 some (z31,(true,()))) F x1 (I5 r2.1 (0:Int)) 0 x0 (C7 x0) 0
 else
 none
def X6(F:Nat)(x0:qL):Option (qL×Unit) :=
 bif D8 (0+List.length x0) 1 then some (x0,()) else none
def U5(F:Nat){R:Type}(k0:Int→qL→Option R):Nat→Int→qL→Option R
 | 0,_,_=>none
 | n+1,x1,x5 =>
 bif leI 128 x1 then
 bif D8 ((List.length x5)+1) 1 then
 U5 F k0 n (T8 .u64 x1 7) (x5++[orI .u8 (IntKind.wrap .u8 x1) 128])
 else
 none
 else
 k0 x1 x5
def A1T(F:Nat)(x0:qL)(x1:Int):Option (qL×Unit) :=
 (X6 F x0).bind fun r1 =>
 (Z7 F r1.1 10).bind fun r2 =>
 U5 F (fun z8 z9 =>
 bif D8 ((List.length z9)+1) 1 then
 some ((z9++[IntKind.wrap .u8 z8]),())
 else
 none) F x1 r2.1
def T0(F:Nat){R:Type}(k0:qL→Int→Option R):Nat→qL→Int→qL→Int→Int→Option R
 | 0,_,_,_,_,_=>none
 | n+1,x0,x4,x16,x17,x18 =>
 bif ltI x18 x17 then
 bif inI x18 (List.length x16) then
 (A4H F (B1 0 x16 x18)).bind fun r6 =>
 T0 F k0 n x0 (C2 .i64 x4 r6.1) x16 x17 (C2 .i64 x18 1)
 else
 none
 else
 k0 x0 x4
def P8(F:Nat){R:Type}(k2:qL→Option R):Nat→qL→qL→Int→Int→Option R
 | 0,_,_,_,_=>none
 | n+1,x10,x47,x48,x49 =>
 bif ltI x49 x48 then
 bif inI x49 (List.length x47) then
 (A1T F [] (B1 0 x47 x49)).bind fun r22 =>
 bif D8 ((List.length x10)+(List.length r22.1)) 1 then
 P8 F k2 n (x10++r22.1) x47 x48 (C2 .i64 x49 1)
 else
 none
 else
 none
 else
 k2 x10
def E8(F:Nat)(x0:qL):Option (qL×Int×Unit) :=
 bif ltI 65536 (C7 x0) then
 some ([],(3,()))
 else
 T0 F (fun z9 z10 =>
 (A3c F z9).bind fun r11 =>
 (A3T F z9 r11.1).bind fun r12 =>
 bif ltI (C2 .i64 2 (C7 r12.1)) z10 then
 bif D8 (2+(List.length r12.1)) 1 then
 some (([1,IntKind.wrap .u8 r11.1]++r12.1),(0,()))
 else
 none
 else
 bif A1x 1 z10 1 then
 P8 F (fun z25 =>
 some (z25,(0,()))) F (I5 1 (0:Int)) z9 (C7 z9) 0
 else
 none) F x0 1 x0 (C7 x0) 0
def G9(F:Nat){R:Type}(k0:qL→Option R)(kret:qL→Int→Option R):Nat→qL→qL→Int→Option R
 | 0,_,_,_=>none
 | n+1,x0,x4,x10 =>
 bif ltI x10 3 then
 (P7 F x0 x10).bind fun r9 =>
 (E8 F r9.1).bind fun r10 =>
 bif not (eqI r10.2.1 0) then
 kret [] r10.2.1
 else
 bif List.isEmpty x4 then
 none
 else
 bif ltI (C2 .i64 (C7 r10.1) 1) (C7 x4) then
 bif D8 (1+(List.length r10.1)) 1 then
 G9 F k0 kret n x0 ([IntKind.wrap .u8 x10]++r10.1) (C2 .i64 x10 1)
 else
 none
 else
 G9 F k0 kret n x0 x4 (C2 .i64 x10 1)
 else
 k0 x4
def A1U(F:Nat){R:Type}(k0:qL→Option R)(kret:qL→Int→Option R)(n:Nat)(x0:qL)(x10:Int):Option R :=
 bif ltI x10 3 then
 (P7 F x0 x10).bind fun r21 =>
 (E8 F r21.1).bind fun r22 =>
 bif not (eqI r22.2.1 0) then
 kret [] r22.2.1
 else
 bif D8 (1+(List.length r22.1)) 1 then
 G9 F k0 kret n x0 ([IntKind.wrap .u8 x10]++r22.1) (C2 .i64 x10 1)
 else
 none
 else
 none
def P0(F:Nat)(x0:qL):Option (qL×Int×Unit) :=
 A1U F (fun z27 =>
 some (z27,(0,()))) (fun z28 z29 =>
 some (z28,(z29,()))) F x0 0
def L4(F:Nat){R:Type}(k0:qL→qW→qL→Option R):Nat→qL→qW→qL→qL→Int→Option R
 | 0,_,_,_,_,_=>none
 | n+1,x0,x3,x5,x16,x17 =>
 bif ltI x17 4 then
 bif inI x17 4 then
 bif inI x17 5 then
 bif inI x17 5 then
 bif inI (C2 .i64 x17 1) 5 then
 L4 F k0 n x0 x3 (F1 (F1 x5 x17 (orI .u64 (B1 0 x5 x17) (A0Y .u64 (B1 0 x16 x17) 1))) (C2 .i64 x17 1) (T8 .u64 (B1 0 x16 x17) 63)) x16 (C2 .i64 x17 1)
 else
 none
 else
 none
 else
 none
 else
 none
 else
 k0 x0 x3 x5
def I2(F:Nat){R:Type}(k4:qL→qL→Int→Option R):Nat→qL→qL→Int→Int→Option R
 | 0,_,_,_,_=>none
 | n+1,x5,x8,x9,x47 =>
 bif ltI x47 5 then
 bif inI x47 5 then
 bif inI x47 5 then
 bif ltI x47 4 then
 bif inI x47 5 then
 bif inI (C2 .i64 x47 1) 5 then
 bif inI x47 5 then
 I2 F k4 n (F1 (F1 x5 x47 (T8 .u64 (B1 0 x5 x47) 7)) x47 (orI .u64 (B1 0 (F1 x5 x47 (T8 .u64 (B1 0 x5 x47) 7)) x47) (A0Y .u64 (B1 0 (F1 x5 x47 (T8 .u64 (B1 0 x5 x47) 7)) (C2 .i64 x47 1)) 57))) x8 x9 (C2 .i64 x47 1)
 else
 none
 else
 none
 else
 none
 else
 I2 F k4 n (F1 x5 x47 (T8 .u64 (B1 0 x5 x47) 7)) x8 x9 (C2 .i64 x47 1)
 else
 none
 else
 none
 else
 k4 x5 x8 x9
def K2(F:Nat){R:Type}(kret:qL→Option R):Nat→qL→qL→Option R
 | 0,_,_=>none
 | n+1,x5,x8 =>
 I2 F (fun z37 z38 z39 =>
 bif eqT (.arr 5 (.int .u64)) z37 [0,0,0,0,0] then
 bif D8 ((List.length z38)+1) 1 then
 kret (z38++[z39])
 else
 none
 else
 bif D8 ((List.length z38)+1) 1 then
 K2 F kret n z37 (z38++[orI .u8 z39 128])
 else
 none) F x5 x8 (IntKind.wrap .u8 (A1y (B1 0 x5 0) 128)) 0
def P1(F:Nat){R:Type}(kret:qL→Option R)(x0:qL)(x5:qL):Option R :=
 (X6 F x0).bind fun r19 =>
 (Z7 F r19.1 37).bind fun r20 =>
 K2 F (fun z44 =>
 kret z44) F x5 r20.1
def Q7(F:Nat){R:Type}(kret:qL→Option R)(x0:qL)(x3:qW):Option R :=
 L4 F (fun z13 z14 z15 =>
 bif z14.1 then
 P1 F (fun z45 =>
 kret z45) z13 (F1 z15 0 (C2 .u64 (B1 0 z15 0) 1))
 else
 P1 F (fun z46 =>
 kret z46) z13 z15) F x0 x3 [0,0,0,0,0] x3.2.1 0
def X7(F:Nat)(x0:qL)(x1:qW):Option (qL×Unit) :=
 (A0J F x1).bind fun r1 =>
 bif not r1.1 then
 Q7 F (fun z47 =>
 some (z47,())) x0 (false,([0,0,0,0],()))
 else
 Q7 F (fun z48 =>
 some (z48,())) x0 x1
def Z2(F:Nat)(x0:qL)(x1:qR):Option (qL×Unit) :=
 (X7 F x0 x1.1).bind fun r1 =>
 (X7 F r1.1 x1.2.1).bind fun r2 =>
 some (r2.1,())
def A1V(F:Nat)(x0:qL)(x1:qL):Option (qL×Unit) :=
 (E8 F x1).bind fun r1 =>
 bif D8 ((List.length x0)+(List.length r1.1)) 1 then
 some ((x0++r1.1),())
 else
 none
def I3(F:Nat){R:Type}(k2:(List qG)→qL→qL→qL→(List qG)→Int→Int→Option R):Nat→(List qG)→qL→qL→qL→qG→(List qG)→Int→Int→qL→Int→Int→Option R
 | 0,_,_,_,_,_,_,_,_,_,_,_=>none
 | n+1,x0,x5,x6,x7,x9,x28,x29,x30,x49,x50,x51 =>
 bif ltI x51 x50 then
 bif inI x51 (List.length x49) then
 bif ltI 0 x51 then
 bif inI (E7 .i64 x51 1) (List.length x9.2.2.1) then
 bif D8 ((List.length x7)+1) 8 then
 I3 F k2 n x0 x5 x6 (x7++[IntKind.wrap .u64 (E7 .i64 (B1 0 x49 x51) (C2 .i64 (B1 0 x9.2.2.1 (E7 .i64 x51 1)) 1))]) x9 x28 x29 x30 x49 x50 (C2 .i64 x51 1)
 else
 none
 else
 none
 else
 bif D8 ((List.length x7)+1) 8 then
 I3 F k2 n x0 x5 x6 (x7++[IntKind.wrap .u64 (B1 0 x49 x51)]) x9 x28 x29 x30 x49 x50 (C2 .i64 x51 1)
 else
 none
 else
 none
 else
 k2 x0 x5 x6 x7 x28 x29 x30
def J0(F:Nat){R:Type}(k0:(List qG)→qL→qL→qL→Option R):Nat→(List qG)→qL→qL→qL→(List qG)→Int→Int→Option R
 | 0,_,_,_,_,_,_,_=>none
 | n+1,x0,x5,x6,x7,x28,x29,x30 =>
 bif ltI x30 x29 then
 bif inI x30 (List.length x28) then
 let x34v9:=B1 (0,(((false,([0,0,0,0],())),((false,([0,0,0,0],())),())),([],()))) x28 x30
 bif inI x30 (List.length x5) then
 bif inI x30 (List.length x6) then
 I3 F (fun z29 z30 z31 z32 z33 z34 z35 =>
 J0 F k0 n z29 z30 z31 z32 z33 z34 (C2 .i64 z35 1)) F x0 (F1 x5 x30 x34v9.1) (F1 x6 x30 (IntKind.wrap .u64 (E7 .i64 (C7 x34v9.2.2.1) 1))) x7 x34v9 x28 x29 x30 x34v9.2.2.1 (C7 x34v9.2.2.1) 0
 else
 none
 else
 none
 else
 none
 else
 k0 x0 x5 x6 x7
def N9(F:Nat){R:Type}(k4:qL→qL→qL→Option R):Nat→qL→qL→qL→(List qG)→Int→Int→Option R
 | 0,_,_,_,_,_,_=>none
 | n+1,x6,x7,x14,x88,x89,x90 =>
 bif ltI x90 x89 then
 bif inI x90 (List.length x88) then
 (Z2 F x14 (B1 (0,(((false,([0,0,0,0],())),((false,([0,0,0,0],())),())),([],()))) x88 x90).2.1).bind fun r50 =>
 N9 F k4 n x6 x7 r50.1 x88 x89 (C2 .i64 x90 1)
 else
 none
 else
 k4 x6 x7 x14
def A0s(F:Nat)(x0:(List qG)):Option (qL×Int×Unit) :=
 (A07 F x0).bind fun r1 =>
 bif not (eqI r1.1 0) then
 some ([],(r1.1,()))
 else
 bif A1x (C7 x0) (C7 x0) 8 then
 bif A1x (C7 x0) (C7 x0) 8 then
 J0 F (fun z37 z38 z39 z40 =>
 (P0 F z38).bind fun r41 =>
 bif not (eqI r41.2.1 0) then
 some ([],(r41.2.1,()))
 else
 (A1T F [] (IntKind.wrap .u64 (C7 z37))).bind fun r45 =>
 bif D8 ((List.length r45.1)+(List.length r41.1)) 1 then
 N9 F (fun z52 z53 z54 =>
 (A1V F z54 z52).bind fun r55 =>
 (A1V F r55.1 z53).bind fun r56 =>
 some (r56.1,(0,()))) F z39 z40 (r45.1++r41.1) z37 (C7 z37) 0
 else
 none) F x0 (I5 (C7 x0) (0:Int)) (I5 (C7 x0) (0:Int)) [] x0 (C7 x0) 0
 else
 none
 else
 none
def A08(F:Nat){R:Type}(k0:(List qG)→Option R)(kret:Int→Option R):Nat→(List qG)→Int→Int→Option R
 | 0,_,_,_=>none
 | n+1,x0,x3,x4 =>
 bif ltI x4 (C7 x0) then
 bif inI x4 (List.length x0) then
 bif ltI x3 (C7 (B1 (0,(((false,([0,0,0,0],())),((false,([0,0,0,0],())),())),([],()))) x0 x4).2.2.1) then
 kret 3
 else
 bif inI x4 (List.length x0) then
 A08 F k0 kret n x0 (E7 .i64 x3 (C7 (B1 (0,(((false,([0,0,0,0],())),((false,([0,0,0,0],())),())),([],()))) x0 x4).2.2.1)) (C2 .i64 x4 1)
 else
 none
 else
 none
 else
 k0 x0
def P2(F:Nat){R:Type}(k4:(List qG)→(List Bool)→Int→Option R)(kret:Int→Option R):Nat→(List qG)→(List Bool)→Int→qG→Int→Option R
 | 0,_,_,_,_,_=>none
 | n+1,x0,x5,x6,x7,x8 =>
 bif ltI x8 (C7 x7.2.2.1) then
 bif inI x8 (List.length x7.2.2.1) then
 let x103v34:=B1 0 x7.2.2.1 x8
 bif ltI x103v34 0 then
 kret 1
 else
 bif leI 4096 x103v34 then
 kret 1
 else
 bif ltI 0 x8 then
 bif inI (E7 .i64 x8 1) (List.length x7.2.2.1) then
 bif leI x103v34 (B1 0 x7.2.2.1 (E7 .i64 x8 1)) then
 kret 1
 else
 bif inI x103v34 (List.length x5) then
 bif B1 false x5 x103v34 then
 kret 1
 else
 bif inI x103v34 (List.length x5) then
 P2 F k4 kret n x0 (F1 x5 x103v34 true) x6 x7 (C2 .i64 x8 1)
 else
 none
 else
 none
 else
 none
 else
 bif inI x103v34 (List.length x5) then
 bif B1 false x5 x103v34 then
 kret 1
 else
 bif inI x103v34 (List.length x5) then
 P2 F k4 kret n x0 (F1 x5 x103v34 true) x6 x7 (C2 .i64 x8 1)
 else
 none
 else
 none
 else
 none
 else
 k4 x0 x5 x6
def X8(F:Nat){R:Type}(kn:(List qG)→(List Bool)→Int→Option R)(kret:Int→Option R)(x0:(List qG))(x5:(List Bool))(x6:Int)(x7:qG):Option R :=
 P2 F (fun z47 z48 z49 =>
 kn z47 z48 z49) (fun z50 =>
 kret z50) F x0 x5 x6 x7 0
def J3(F:Nat){R:Type}(k2:Option R)(kret:Int→Option R):Nat→(List qG)→(List Bool)→Int→Option R
 | 0,_,_,_=>none
 | n+1,x0,x5,x6 =>
 bif ltI x6 (C7 x0) then
 bif inI x6 (List.length x0) then
 let x45v16:=B1 (0,(((false,([0,0,0,0],())),((false,([0,0,0,0],())),())),([],()))) x0 x6
 (W1 F x45v16.2.1).bind fun r17 =>
 bif not r17.1 then
 kret 1
 else
 bif eqI (C7 x45v16.2.2.1) 0 then
 kret 1
 else
 bif ltI 0 x6 then
 bif inI (E7 .i64 x6 1) (List.length x0) then
 bif ltI x45v16.1 (B1 (0,(((false,([0,0,0,0],())),((false,([0,0,0,0],())),())),([],()))) x0 (E7 .i64 x6 1)).1 then
 kret 1
 else
 bif inI (E7 .i64 x6 1) (List.length x0) then
 bif eqI (B1 (0,(((false,([0,0,0,0],())),((false,([0,0,0,0],())),())),([],()))) x0 (E7 .i64 x6 1)).1 x45v16.1 then
 bif inI (E7 .i64 x6 1) (List.length x0) then
 (K8 F (B1 (0,(((false,([0,0,0,0],())),((false,([0,0,0,0],())),())),([],()))) x0 (E7 .i64 x6 1)).2.1 x45v16.2.1).bind fun r30 =>
 bif leI 0 r30.1 then
 kret 1
 else
 X8 F (fun z51 z52 z53 =>
 J3 F k2 kret n z51 z52 (C2 .i64 z53 1)) (fun z55 =>
 kret z55) x0 x5 x6 x45v16
 else
 none
 else
 X8 F (fun z56 z57 z58 =>
 J3 F k2 kret n z56 z57 (C2 .i64 z58 1)) (fun z60 =>
 kret z60) x0 x5 x6 x45v16
 else
 none
 else
 none
 else
 X8 F (fun z61 z62 z63 =>
 J3 F k2 kret n z61 z62 (C2 .i64 z63 1)) (fun z65 =>
 kret z65) x0 x5 x6 x45v16
 else
 none
 else
 k2
def A3B(F:Nat)(x0:(List qG)):Option (Int×Unit) :=
 bif ltI 4096 (C7 x0) then
 some (3,())
 else
 A08 F (fun z12 =>
 bif A1x 4096 4096 1 then
 J3 F (
 some (0,())) (fun z66 =>
 some (z66,())) F z12 (I5 4096 (false:Bool)) 0
 else
 none) (fun z67 =>
 some (z67,())) F x0 4096 0
def O0(F:Nat){R:Type}(k0:qL→Int→Option R):Nat→qL→qW→qW→Int→Option R
 | 0,_,_,_,_=>none
 | n+1,x5,x7,x8,x12 =>
 (J7 F x7).bind fun r10 =>
 bif not (eqI r10.1 0) then
 bif D8 ((List.length x5)+1) 1 then
 (O5 F 128).bind fun r14 =>
 (J9 F x7 r14.1).bind fun r15 =>
 (S2 F r15.2.1).bind fun r16 =>
 O0 F k0 n (x5++[C2 .u8 x12 128]) r15.1 r15.2.1 (IntKind.wrap .u8 r16.1)
 else
 none
 else
 k0 x5 x12
def T5(F:Nat){R:Type}(kret:qL→Option R)(x5:qL)(x7:qW)(x8:qW)(x12:Int):Option R :=
 O0 F (fun z18 z19 =>
 bif D8 ((List.length z18)+1) 1 then
 kret (z18++[z19])
 else
 none) F x5 x7 x8 x12
def A03(F:Nat)(x0:qL)(x1:qW):Option (qL×Unit) :=
 bif D8 (0+(List.length x0)) 1 then
 (O5 F 64).bind fun r2 =>
 (J9 F (false,x1.2) r2.1).bind fun r3 =>
 (S2 F r3.2.1).bind fun r4 =>
 let x32v5:=A0X .u64 2 r4.1
 (J7 F x1).bind fun r7 =>
 bif ltI r7.1 0 then
 T5 F (fun z21 =>
 some (z21,())) ([]++x0) r3.1 r3.2.1 (C2 .u8 (IntKind.wrap .u8 x32v5) 1)
 else
 T5 F (fun z22 =>
 some (z22,())) ([]++x0) r3.1 r3.2.1 (IntKind.wrap .u8 x32v5)
 else
 none
def A0N(F:Nat)(x0:qL)(x1:qR):Option (qL×Unit) :=
 (A03 F x0 x1.1).bind fun r1 =>
 (A03 F r1.1 x1.2.1).bind fun r2 =>
 some (r2.1,())
def X9(F:Nat){R:Type}(k0:Int→qL→Option R):Nat→Int→qL→Option R
 | 0,_,_=>none
 | n+1,x1,x5 =>
 bif leI 128 x1 then
 bif D8 ((List.length x5)+1) 1 then
 X9 F k0 n (A0W .u64 x1 128) (x5++[C2 .u8 (IntKind.wrap .u8 (A1y x1 128)) 128])
 else
 none
 else
 k0 x1 x5
def A1w(F:Nat)(x0:qL)(x1:Int):Option (qL×Unit) :=
 bif D8 (0+(List.length x0)) 1 then
 X9 F (fun z8 z9 =>
 bif D8 ((List.length z9)+1) 1 then
 some ((z9++[IntKind.wrap .u8 z8]),())
 else
 none) F x1 ([]++x0)
 else
 none
def A7Z(F:Nat)(x0:Int)(x1:Int):Option (Int×Unit) :=
 some (E7 .u64 (IntKind.wrap .u64 x0) (IntKind.wrap .u64 x1),())
def D7(F:Nat){R:Type}(k0:qL→Option R):Nat→qL→qL→Int→Option R
 | 0,_,_,_=>none
 | n+1,x0,x3,x4 =>
 bif ltI x4 (C7 x0) then
 bif eqI x4 0 then
 bif inI 0 (List.length x0) then
 bif D8 ((List.length x3)+1) 8 then
 D7 F k0 n x0 (x3++[B1 0 x0 0]) (C2 .i64 x4 1)
 else
 none
 else
 none
 else
 bif inI x4 (List.length x0) then
 bif inI (E7 .i64 x4 1) (List.length x0) then
 (A7Z F (B1 0 x0 x4) (B1 0 x0 (E7 .i64 x4 1))).bind fun r10 =>
 bif D8 ((List.length x3)+1) 8 then
 D7 F k0 n x0 (x3++[IntKind.wrap .i64 r10.1]) (C2 .i64 x4 1)
 else
 none
 else
 none
 else
 none
 else
 k0 x3
def A0O(F:Nat)(x0:qL):Option (qL×Unit) :=
 D7 F (fun z14 =>
 some (z14,())) F x0 [] 0
def A3U(F:Nat)(x0:Int):Option (Int×Unit) :=
 bif leI 0 x0 then
 some (A0X .u64 2 (IntKind.wrap .u64 x0),())
 else
 some (C2 .u64 (A0X .u64 2 (IntKind.wrap .u64 (E7 .i64 0 (C2 .i64 x0 1)))) 1,())
def P9(F:Nat){R:Type}(k0:qL→Option R):Nat→qL→Int→Int→Option R
 | 0,_,_,_=>none
 | n+1,x0,x1,x6 =>
 bif ltI x6 x1 then
 (A0O F x0).bind fun r4 =>
 P9 F k0 n r4.1 x1 (C2 .i64 x6 1)
 else
 k0 x0
def Q0(F:Nat){R:Type}(k2:qL→Option R):Nat→qL→qL→Int→Option R
 | 0,_,_,_=>none
 | n+1,x0,x7,x8 =>
 bif ltI x8 (C7 x0) then
 bif inI x8 (List.length x0) then
 (A3U F (B1 0 x0 x8)).bind fun r12 =>
 bif inI x8 (List.length x7) then
 Q0 F k2 n x0 (F1 x7 x8 r12.1) (C2 .i64 x8 1)
 else
 none
 else
 none
 else
 k2 x7
def A0t(F:Nat)(x0:qL)(x1:Int):Option (qL×Bool×Unit) :=
 bif ltI x1 0 then
 some ([],(false,()))
 else
 bif ltI 2 x1 then
 some ([],(false,()))
 else
 P9 F (fun z6 =>
 bif A1x (C7 z6) (C7 z6) 8 then
 Q0 F (fun z15 =>
 some (z15,(true,()))) F z6 (I5 (C7 z6) (0:Int)) 0
 else
 none) F x0 x1 0
def A5S(F:Nat)(x0:Int):Option (Int×Unit) :=
 (A1w F [] x0).bind fun r1 =>
 some (C7 r1.1,())
def W3(F:Nat){R:Type}(k2:qL→Int→Int→Option R):Nat→qL→Int→Int→Option R
 | 0,_,_,_=>none
 | n+1,x0,x3,x4 =>
 bif ltI x3 64 then
 bif inI x4 (List.length x0) then
 bif ltI (IntKind.wrap .u64 x3) 0 then
 none
 else
 bif not (eqI (T8 .u64 (B1 0 x0 x4) (IntKind.wrap .u64 x3)) 0) then
 W3 F k2 n x0 (C2 .i64 x3 1) x4
 else
 k2 x0 x3 x4
 else
 none
 else
 k2 x0 x3 x4
def W4(F:Nat){R:Type}(k0:Int→Option R):Nat→qL→Int→Int→Option R
 | 0,_,_,_=>none
 | n+1,x0,x3,x4 =>
 bif ltI x4 (C7 x0) then
 W3 F (fun z9 z10 z11 =>
 W4 F k0 n z9 z10 (C2 .i64 z11 1)) F x0 x3 x4
 else
 k0 x3
def A4I(F:Nat)(x0:qL):Option (Int×Unit) :=
 W4 F (fun z13 =>
 some (z13,())) F x0 0 0
def A6C(F:Nat)(x0:Int)(x1:Int):Option (Int×Unit) :=
 bif ltI x0 0 then
 some ((-1),())
 else
 bif ltI 65536 x0 then
 some ((-1),())
 else
 bif ltI x1 0 then
 some ((-1),())
 else
 bif ltI 64 x1 then
 some ((-1),())
 else
 some (A0W .i64 (C2 .i64 (A0X .i64 x0 x1) 7) 8,())
def A0P(F:Nat){R:Type}(k2:qL→Int→qL→Int→Option R):Nat→qL→Int→qL→Int→Int→Option R
 | 0,_,_,_,_,_=>none
 | n+1,x0,x1,x7,x8,x9 =>
 bif ltI x9 x1 then
 bif inI (A0W .i64 (C2 .i64 (A0X .i64 x8 x1) x9) 8) (List.length x7) then
 bif inI x8 (List.length x0) then
 bif ltI (IntKind.wrap .u64 x9) 0 then
 none
 else
 bif ltI (IntKind.wrap .u64 (A1y (C2 .i64 (A0X .i64 x8 x1) x9) 8)) 0 then
 none
 else
 bif inI (A0W .i64 (C2 .i64 (A0X .i64 x8 x1) x9) 8) (List.length x7) then
 A0P F k2 n x0 x1 (F1 x7 (A0W .i64 (C2 .i64 (A0X .i64 x8 x1) x9) 8) (orI .u8 (B1 0 x7 (A0W .i64 (C2 .i64 (A0X .i64 x8 x1) x9) 8)) (A0Y .u8 (IntKind.wrap .u8 (B15 .u64 (T8 .u64 (B1 0 x0 x8) (IntKind.wrap .u64 x9)) 1)) (IntKind.wrap .u64 (A1y (C2 .i64 (A0X .i64 x8 x1) x9) 8))))) x8 (C2 .i64 x9 1)
 else
 none
 else
 none
 else
 none
 else
 k2 x0 x1 x7 x8
def Z3(F:Nat){R:Type}(k0:qL→Option R):Nat→qL→Int→qL→Int→Option R
 | 0,_,_,_,_=>none
 | n+1,x0,x1,x7,x8 =>
 bif ltI x8 (C7 x0) then
 A0P F (fun z25 z26 z27 z28 =>
 Z3 F k0 n z25 z26 z27 (C2 .i64 z28 1)) F x0 x1 x7 x8 0
 else
 k0 x7
def A5T(F:Nat)(x0:qL)(x1:Int):Option (qL×Bool×Unit) :=
 (A6C F (C7 x0) x1).bind fun r2 =>
 bif ltI r2.1 0 then
 some ([],(false,()))
 else
 (A4I F x0).bind fun r4 =>
 bif ltI x1 r4.1 then
 some ([],(false,()))
 else
 bif A1x r2.1 r2.1 1 then
 Z3 F (fun z30 =>
 some (z30,(true,()))) F x0 x1 (I5 r2.1 (0:Int)) 0
 else
 none
def Y0(F:Nat){R:Type}(k0:qL→Int→Option R):Nat→qL→Int→Int→Option R
 | 0,_,_,_=>none
 | n+1,x0,x4,x5 =>
 bif ltI x5 (C7 x0) then
 bif inI x5 (List.length x0) then
 (A5S F (B1 0 x0 x5)).bind fun r6 =>
 Y0 F k0 n x0 (C2 .i64 x4 r6.1) (C2 .i64 x5 1)
 else
 none
 else
 k0 x0 x4
def U6(F:Nat){R:Type}(k2:qL→Option R):Nat→qL→qL→Int→Option R
 | 0,_,_,_=>none
 | n+1,x0,x9,x10 =>
 bif ltI x10 (C7 x0) then
 bif inI x10 (List.length x0) then
 (A1w F [] (B1 0 x0 x10)).bind fun r22 =>
 bif D8 ((List.length x9)+(List.length r22.1)) 1 then
 U6 F k2 n x0 (x9++r22.1) (C2 .i64 x10 1)
 else
 none
 else
 none
 else
 k2 x9
def A0u(F:Nat)(x0:qL):Option (qL×Int×Unit) :=
 bif ltI 65536 (C7 x0) then
 some ([],(3,()))
 else
 Y0 F (fun z9 z10 =>
 (A4I F z9).bind fun r11 =>
 (A5T F z9 r11.1).bind fun r12 =>
 bif ltI (C2 .i64 2 (C7 r12.1)) z10 then
 bif D8 (2+(List.length r12.1)) 1 then
 some (([1,IntKind.wrap .u8 r11.1]++r12.1),(0,()))
 else
 none
 else
 bif A1x 1 z10 1 then
 U6 F (fun z25 =>
 some (z25,(0,()))) F z9 (I5 1 (0:Int)) 0
 else
 none) F x0 1 0
def F3(F:Nat){R:Type}(k0:qL→Option R):Nat→qL→qL→Int→Option R
 | 0,_,_,_=>none
 | n+1,x0,x4,x5 =>
 bif leI x5 2 then
 (A0t F x0 x5).bind fun r4 =>
 (A0u F r4.1).bind fun r5 =>
 bif eqI x5 0 then
 bif D8 (1+(List.length r5.1)) 1 then
 F3 F k0 n x0 ([IntKind.wrap .u8 x5]++r5.1) (C2 .i64 x5 1)
 else
 none
 else
 bif ltI (C2 .i64 1 (C7 r5.1)) (C7 x4) then
 bif D8 (1+(List.length r5.1)) 1 then
 F3 F k0 n x0 ([IntKind.wrap .u8 x5]++r5.1) (C2 .i64 x5 1)
 else
 none
 else
 F3 F k0 n x0 x4 (C2 .i64 x5 1)
 else
 k0 x4
def A3V(F:Nat)(x0:qL):Option (qL×Int×Unit) :=
 bif ltI 65536 (C7 x0) then
 some ([],(3,()))
 else
 F3 F (fun z18 =>
 some (z18,(0,()))) F x0 [] 0
def A0Q(F:Nat){R:Type}(k0:qL→Option R):Nat→qL→qL→Int→Option R
 | 0,_,_,_=>none
 | n+1,x0,x3,x4 =>
 bif ltI x4 (C7 x0) then
 bif inI x4 (List.length x0) then
 bif D8 ((List.length x3)+1) 8 then
 A0Q F k0 n x0 (x3++[IntKind.wrap .u64 (E7 .i64 (B1 0 x0 x4) 1)]) (C2 .i64 x4 1)
 else
 none
 else
 none
 else
 k0 x3
def A5U(F:Nat)(x0:qL):Option (qL×Unit) :=
 A0Q F (fun z8 =>
 some (z8,())) F x0 [] 0
def L8(F:Nat){R:Type}(k2:(List qG)→qL→qL→qL→qL→Int→Option R):Nat→(List qG)→qL→qL→qL→qL→Int→Int→Option R
 | 0,_,_,_,_,_,_,_=>none
 | n+1,x0,x5,x6,x7,x8,x9,x10 =>
 bif inI x9 (List.length x0) then
 bif ltI x10 (C7 (B1 (0,(((false,([0,0,0,0],())),((false,([0,0,0,0],())),())),([],()))) x0 x9).2.2.1) then
 bif inI x9 (List.length x0) then
 let x68v15:=(B1 (0,(((false,([0,0,0,0],())),((false,([0,0,0,0],())),())),([],()))) x0 x9).2.2.1
 bif inI x10 (List.length x68v15) then
 bif ltI 0 x10 then
 bif inI x9 (List.length x0) then
 let x79v18:=(B1 (0,(((false,([0,0,0,0],())),((false,([0,0,0,0],())),())),([],()))) x0 x9).2.2.1
 bif inI (E7 .i64 x10 1) (List.length x79v18) then
 bif D8 ((List.length x7)+1) 8 then
 L8 F k2 n x0 x5 x6 (x7++[IntKind.wrap .u64 (E7 .i64 (B1 0 x68v15 x10) (C2 .i64 (B1 0 x79v18 (E7 .i64 x10 1)) 1))]) x8 x9 (C2 .i64 x10 1)
 else
 none
 else
 none
 else
 none
 else
 bif D8 ((List.length x7)+1) 8 then
 L8 F k2 n x0 x5 x6 (x7++[IntKind.wrap .u64 (B1 0 x68v15 x10)]) x8 x9 (C2 .i64 x10 1)
 else
 none
 else
 none
 else
 none
 else
 k2 x0 x5 x6 x7 x8 x9
 else
 none
def P3(F:Nat){R:Type}(k0:(List qG)→qL→qL→qL→qL→Option R):Nat→(List qG)→qL→qL→qL→qL→Int→Option R
 | 0,_,_,_,_,_,_=>none
 | n+1,x0,x5,x6,x7,x8,x9 =>
 bif ltI x9 (C7 x0) then
 bif inI x9 (List.length x0) then
 bif D8 ((List.length x5)+1) 8 then
 bif inI x9 (List.length x0) then
 bif D8 ((List.length x6)+1) 8 then
 bif inI x9 (List.length x0) then
 (A0N F x8 (B1 (0,(((false,([0,0,0,0],())),((false,([0,0,0,0],())),())),([],()))) x0 x9).2.1).bind fun r11 =>
 L8 F (fun z29 z30 z31 z32 z33 z34 =>
 P3 F k0 n z29 z30 z31 z32 z33 (C2 .i64 z34 1)) F x0 (x5++[(B1 (0,(((false,([0,0,0,0],())),((false,([0,0,0,0],())),())),([],()))) x0 x9).1]) (x6++[C7 (B1 (0,(((false,([0,0,0,0],())),((false,([0,0,0,0],())),())),([],()))) x0 x9).2.2.1]) x7 r11.1 x9 0
 else
 none
 else
 none
 else
 none
 else
 none
 else
 none
 else
 k0 x0 x5 x6 x7 x8
def A3W(F:Nat)(x0:(List qG)):Option (qL×Int×Unit) :=
 (A3B F x0).bind fun r1 =>
 bif not (eqI r1.1 0) then
 some ([],(r1.1,()))
 else
 P3 F (fun z36 z37 z38 z39 z40 =>
 (A1w F [] (IntKind.wrap .u64 (C7 z36))).bind fun r43 =>
 (A3V F z37).bind fun r44 =>
 (A5U F z38).bind fun r45 =>
 (A0u F r45.1).bind fun r46 =>
 (A0u F z39).bind fun r47 =>
 bif D8 ((List.length r43.1)+(List.length r44.1)) 1 then
 let x94v48:=(r43.1++r44.1)
 bif D8 ((List.length x94v48)+(List.length z40)) 1 then
 bif D8 ((List.length (x94v48++z40))+(List.length r46.1)) 1 then
 bif D8 ((List.length ((x94v48++z40)++r46.1))+(List.length r47.1)) 1 then
 some ((((x94v48++z40)++r46.1)++r47.1),(0,()))
 else
 none
 else
 none
 else
 none
 else
 none) F x0 [] [] [] [] 0
def A0S(F:Nat){R:Type}(k0:Option R)(kret:Bool→Option R):Nat→qL→qL→Int→Option R
 | 0,_,_,_=>none
 | n+1,x0,x1,x5 =>
 bif ltI x5 (C7 x0) then
 bif inI x5 (List.length x0) then
 bif inI x5 (List.length x1) then
 bif not (eqI (B1 0 x0 x5) (B1 0 x1 x5)) then
 kret false
 else
 A0S F k0 kret n x0 x1 (C2 .i64 x5 1)
 else
 none
 else
 none
 else
 k0
def A4l(F:Nat)(x0:qL)(x1:qL):Option (Bool×Unit) :=
 bif not (eqI (C7 x0) (C7 x1)) then
 some (false,())
 else
 A0S F (
 some (true,())) (fun z10 =>
 some (z10,())) F x0 x1 0
def A6d(F:Nat)(x0:qL)(x1:Int)(x2:Int):Option (Bool×Unit) :=
 bif leI 0 x1 then
 bif leI x1 (C7 x0) then
 bif leI 0 x2 then
 some (leI x2 4096,())
 else
 some (false,())
 else
 some (false,())
 else
 some (false,())
def A5b(F:Nat)(x0:Int):Option (Bool×Unit) :=
 some (ltI x0 128,())
def Y1(F:Nat){R:Type}(k0:Option R)(kret:Int→Option R):Nat→qL→Int→Int→Option R
 | 0,_,_,_=>none
 | n+1,x0,x7,x8 =>
 bif ltI x8 x7 then
 bif inI x8 (List.length x0) then
 (A5b F (B1 0 x0 x8)).bind fun r4 =>
 bif r4.1 then
 kret x8
 else
 Y1 F k0 kret n x0 x7 (C2 .i64 x8 1)
 else
 none
 else
 k0
def A2F(F:Nat)(x0:qL):Option (Int×Unit) :=
 Y1 F (
 some ((-1),())) (fun z6 =>
 some (z6,())) F x0 (C7 x0) 0
def A2S(F:Nat){R:Type}(kn:qL→Int→Option R)(kret:qL→Int→Option R)(x0:qL)(x8:Int)(x27:Bool):Option R :=
 bif x27 then
 kret [] 4
 else
 bif ltI x8 0 then
 kret [] 5
 else
 bif ltI 0 x8 then
 bif inI x8 (List.length x0) then
 bif eqI (B1 0 x0 x8) 0 then
 kret [] 5
 else
 kn x0 x8
 else
 none
 else
 kn x0 x8
def A4J(F:Nat)(x0:qL)(x1:Int)(x2:Int):Option (qL×Int×Unit) :=
 bif ltI x1 0 then
 some ([],(2,()))
 else
 bif ltI (C7 x0) x1 then
 some ([],(2,()))
 else
 bif A30 x1 (C7 x0) (List.length x0) then
 bif A30 0 (B12 (C7 (A1d x0 x1)) x2) (List.length (A1d x0 x1)) then
 (A2F F (A0A (A1d x0 x1) (B12 (C7 (A1d x0 x1)) x2))).bind fun r8 =>
 bif ltI r8.1 0 then
 A2S F (fun z16 z17 =>
 bif A30 0 (C2 .i64 z17 1) (List.length z16) then
 some (A0A z16 (C2 .i64 z17 1),(0,()))
 else
 none) (fun z20 z21 =>
 some (z20,(z21,()))) (A1d x0 x1) r8.1 (ltI (C7 (A1d x0 x1)) x2)
 else
 A2S F (fun z22 z23 =>
 bif A30 0 (C2 .i64 z23 1) (List.length z22) then
 some (A0A z22 (C2 .i64 z23 1),(0,()))
 else
 none) (fun z26 z27 =>
 some (z26,(z27,()))) (A1d x0 x1) r8.1 false
 else
 none
 else
 none
def A43(F:Nat){R:Type}(k0:Int→qL→Int→Option R):Nat→Int→qL→Int→qL→Int→Int→Option R
 | 0,_,_,_,_,_,_=>none
 | n+1,x1,x7,x9,x30,x31,x32 =>
 bif ltI x32 x31 then
 bif inI x32 (List.length x30) then
 bif ltI (A0X .i64 7 x32) 0 then
 none
 else
 A43 F k0 n x1 x7 (orI .u64 x9 (A0Y .u64 (IntKind.wrap .u64 (A1y (B1 0 x30 x32) 128)) (A0X .i64 7 x32))) x30 x31 (C2 .i64 x32 1)
 else
 none
 else
 k0 x1 x7 x9
def A44(F:Nat){R:Type}(kret:Int→Int→Int→Option R)(x1:Int)(x7:qL):Option R :=
 A43 F (fun z16 z17 z18 =>
 kret z18 (C2 .i64 z16 (C7 z17)) 0) F x1 x7 0 x7 (C7 x7) 0
def A6D(F:Nat)(x0:qL)(x1:Int):Option (Int×Int×Int×Unit) :=
 (A4J F x0 x1 10).bind fun r1 =>
 bif not (eqI r1.2.1 0) then
 some (0,(0,(r1.2.1,())))
 else
 bif eqI (C7 r1.1) 10 then
 bif inI 9 (List.length r1.1) then
 bif ltI 1 (B1 0 r1.1 9) then
 some (0,(0,(5,())))
 else
 A44 F (fun z21 z22 z23 =>
 some (z21,(z22,(z23,())))) x1 r1.1
 else
 none
 else
 A44 F (fun z24 z25 z26 =>
 some (z24,(z25,(z26,())))) x1 r1.1
def A6e(F:Nat)(x0:qL)(x1:Int)(x2:Int):Option (Int×Int×Int×Unit) :=
 (A6D F x0 x1).bind fun r1 =>
 bif not (eqI r1.2.2.1 0) then
 some (0,(0,(r1.2.2.1,())))
 else
 bif ltI (IntKind.wrap .u64 x2) r1.1 then
 some (0,(0,(10,())))
 else
 some (IntKind.wrap .i64 r1.1,(r1.2.1,(0,())))
def A2T(F:Nat){R:Type}(k0:Int→qL→Option R)(kret:qL→Int→Int→Option R):Nat→qL→Int→qL→Int→Int→Option R
 | 0,_,_,_,_,_=>none
 | n+1,x0,x1,x9,x20,x21 =>
 bif ltI x21 x20 then
 (A6D F x0 x1).bind fun r6 =>
 bif not (eqI r6.2.2.1 0) then
 kret [] 0 r6.2.2.1
 else
 bif D8 ((List.length x9)+1) 8 then
 A2T F k0 kret n x0 r6.2.1 (x9++[r6.1]) x20 (C2 .i64 x21 1)
 else
 none
 else
 k0 x1 x9
def A1W(F:Nat)(x0:qL)(x1:Int)(x2:Int):Option (qL×Int×Int×Unit) :=
 bif A1x 0 (B12 x2 (E7 .i64 (C7 x0) x1)) 8 then
 A2T F (fun z10 z11 =>
 some (z11,(z10,(0,())))) (fun z12 z13 z14 =>
 some (z12,(z13,(z14,())))) F x0 x1 (I5 0 (0:Int)) x2 0
 else
 none
def A2g(F:Nat){R:Type}(k2:qL→Int→qL→Int→Int→Int→Option R):Nat→qL→Int→qL→Int→Int→Int→Int→Int→Option R
 | 0,_,_,_,_,_,_,_,_=>none
 | n+1,x0,x2,x8,x9,x10,x11,x23,x24 =>
 bif ltI x11 x2 then
 bif inI (A0W .i64 x9 8) (List.length x0) then
 bif ltI (A1y x9 8) 0 then
 none
 else
 bif ltI (B12 (E7 .i64 8 (A1y x9 8)) (E7 .i64 x2 x11)) 0 then
 none
 else
 bif inI x10 (List.length x8) then
 bif ltI x11 0 then
 none
 else
 bif inI x10 (List.length x8) then
 A2g F k2 n x0 x2 (F1 x8 x10 (orI .u64 (B1 0 x8 x10) (A0Y .u64 (B15 .u64 (IntKind.wrap .u64 (T8 .u8 (B1 0 x0 (A0W .i64 x9 8)) (A1y x9 8))) (E7 .u64 (A0Y .u64 1 (B12 (E7 .i64 8 (A1y x9 8)) (E7 .i64 x2 x11))) 1)) x11))) (C2 .i64 x9 (B12 (E7 .i64 8 (A1y x9 8)) (E7 .i64 x2 x11))) x10 (C2 .i64 x11 (B12 (E7 .i64 8 (A1y x9 8)) (E7 .i64 x2 x11))) x23 x24
 else
 none
 else
 none
 else
 none
 else
 k2 x0 x2 x8 x9 x23 x24
def A2h(F:Nat){R:Type}(k0:qL→qL→Int→Option R):Nat→qL→Int→qL→Int→Int→Int→Option R
 | 0,_,_,_,_,_,_=>none
 | n+1,x0,x2,x8,x9,x23,x24 =>
 bif ltI x24 x23 then
 A2g F (fun z26 z27 z28 z29 z30 z31 =>
 A2h F k0 n z26 z27 z28 z29 z30 (C2 .i64 z31 1)) F x0 x2 x8 x9 x24 0 x23 x24
 else
 k0 x0 x8 x9
def A6f(F:Nat)(x0:qL)(x1:Int)(x2:Int):Option (qL×Bool×Unit) :=
 (A0L F x1 x2).bind fun r1 =>
 bif not (eqI r1.1 (C7 x0)) then
 some ([],(false,()))
 else
 bif A1x x1 x1 8 then
 A2h F (fun z33 z34 z35 =>
 bif ltI 0 (A1y z35 8) then
 bif inI (A0W .i64 z35 8) (List.length z33) then
 bif ltI (A1y z35 8) 0 then
 none
 else
 bif not (eqI (T8 .u8 (B1 0 z33 (A0W .i64 z35 8)) (A1y z35 8)) 0) then
 some ([],(false,()))
 else
 some (z34,(true,()))
 else
 none
 else
 some (z34,(true,()))) F x0 x2 (I5 x1 (0:Int)) 0 (C7 (I5 x1 (0:Int))) 0
 else
 none
def A14(F:Nat)(x0:qL)(x1:Int)(x2:Int):Option (qL×Int×Int×Unit) :=
 bif leI (C7 x0) x1 then
 some ([],(0,(4,())))
 else
 bif inI x1 (List.length x0) then
 bif ltI 64 (B1 0 x0 x1) then
 some ([],(0,(5,())))
 else
 bif inI x1 (List.length x0) then
 (A0L F x2 (IntKind.wrap .i64 (B1 0 x0 x1))).bind fun r8 =>
 bif ltI (E7 .i64 (C7 x0) (C2 .i64 x1 1)) r8.1 then
 some ([],(0,(4,())))
 else
 let x45v12:=C2 .i64 (C2 .i64 x1 1) r8.1
 bif A30 (C2 .i64 x1 1) x45v12 (List.length x0) then
 (A6f F (A1d (A0A x0 x45v12) (C2 .i64 x1 1)) x2 (IntKind.wrap .i64 (B1 0 x0 x1))).bind fun r14 =>
 bif not r14.2.1 then
 some ([],(0,(5,())))
 else
 some (r14.1,(C2 .i64 (C2 .i64 x1 1) r8.1,(0,())))
 else
 none
 else
 none
 else
 none
def A0Z(F:Nat){R:Type}(k0:Option R)(kret:Bool→Option R):Nat→qL→qL→Int→Int→Option R
 | 0,_,_,_,_=>none
 | n+1,x0,x1,x12,x13 =>
 bif ltI x13 x12 then
 bif inI x13 (List.length x0) then
 bif inI x13 (List.length x1) then
 bif not (eqI (B1 0 x0 x13) (B1 0 x1 x13)) then
 kret false
 else
 A0Z F k0 kret n x0 x1 x12 (C2 .i64 x13 1)
 else
 none
 else
 none
 else
 k0
def E9(F:Nat)(x0:qL)(x1:qL):Option (Bool×Unit) :=
 bif not (eqI (C7 x0) (C7 x1)) then
 some (false,())
 else
 A0Z F (
 some (true,())) (fun z10 =>
 some (z10,())) F x0 x1 (C7 x0) 0
def Y2(F:Nat){R:Type}(kn:qL→Int→Int→Option R)(kret:qL→Int→Int→Option R)(x0:qL)(x1:Int)(x2:Int)(x14:Bool):Option R :=
 bif x14 then
 kret [] 0 2
 else
 bif eqI x1 (C7 x0) then
 kret [] 0 4
 else
 bif inI x1 (List.length x0) then
 bif ltI 1 (B1 0 x0 x1) then
 kret [] 0 5
 else
 kn x0 x1 x2
 else
 none
def W5(F:Nat)(x0:qL)(x1:Int)(x2:Int):Option (qL×Int×Int×Unit) :=
 bif ltI x1 0 then
 Y2 F (fun z6 z7 z8 =>
 bif inI z7 (List.length z6) then
 bif eqI (B1 0 z6 z7) 1 then
 (A14 F z6 (C2 .i64 z7 1) z8).bind fun r12 =>
 bif not (eqI r12.2.2.1 0) then
 some ([],(0,(r12.2.2.1,())))
 else
 (E8 F r12.1).bind fun r14 =>
 bif not (eqI r14.2.1 0) then
 some ([],(0,(5,())))
 else
 bif A30 z7 r12.2.1 (List.length z6) then
 (E9 F r14.1 (A1d (A0A z6 r12.2.1) z7)).bind fun r17 =>
 bif not r17.1 then
 some ([],(0,(5,())))
 else
 some (r12.1,(r12.2.1,(0,())))
 else
 none
 else
 (A1W F z6 (C2 .i64 z7 1) z8).bind fun r20 =>
 bif not (eqI r20.2.2.1 0) then
 some ([],(0,(r20.2.2.1,())))
 else
 (E8 F r20.1).bind fun r22 =>
 bif not (eqI r22.2.1 0) then
 some ([],(0,(5,())))
 else
 bif A30 z7 r20.2.1 (List.length z6) then
 (E9 F r22.1 (A1d (A0A z6 r20.2.1) z7)).bind fun r25 =>
 bif not r25.1 then
 some ([],(0,(5,())))
 else
 some (r20.1,(r20.2.1,(0,())))
 else
 none
 else
 none) (fun z27 z28 z29 =>
 some (z27,(z28,(z29,())))) x0 x1 x2 true
 else
 bif ltI (C7 x0) x1 then
 Y2 F (fun z32 z33 z34 =>
 bif inI z33 (List.length z32) then
 bif eqI (B1 0 z32 z33) 1 then
 (A14 F z32 (C2 .i64 z33 1) z34).bind fun r38 =>
 bif not (eqI r38.2.2.1 0) then
 some ([],(0,(r38.2.2.1,())))
 else
 (E8 F r38.1).bind fun r40 =>
 bif not (eqI r40.2.1 0) then
 some ([],(0,(5,())))
 else
 bif A30 z33 r38.2.1 (List.length z32) then
 (E9 F r40.1 (A1d (A0A z32 r38.2.1) z33)).bind fun r43 =>
 bif not r43.1 then
 some ([],(0,(5,())))
 else
 some (r38.1,(r38.2.1,(0,())))
 else
 none
 else
 (A1W F z32 (C2 .i64 z33 1) z34).bind fun r46 =>
 bif not (eqI r46.2.2.1 0) then
 some ([],(0,(r46.2.2.1,())))
 else
 (E8 F r46.1).bind fun r48 =>
 bif not (eqI r48.2.1 0) then
 some ([],(0,(5,())))
 else
 bif A30 z33 r46.2.1 (List.length z32) then
 (E9 F r48.1 (A1d (A0A z32 r46.2.1) z33)).bind fun r51 =>
 bif not r51.1 then
 some ([],(0,(5,())))
 else
 some (r46.1,(r46.2.1,(0,())))
 else
 none
 else
 none) (fun z53 z54 z55 =>
 some (z53,(z54,(z55,())))) x0 x1 x2 true
 else
 bif ltI x2 0 then
 Y2 F (fun z57 z58 z59 =>
 bif inI z58 (List.length z57) then
 bif eqI (B1 0 z57 z58) 1 then
 (A14 F z57 (C2 .i64 z58 1) z59).bind fun r63 =>
 bif not (eqI r63.2.2.1 0) then
 some ([],(0,(r63.2.2.1,())))
 else
 (E8 F r63.1).bind fun r65 =>
 bif not (eqI r65.2.1 0) then
 some ([],(0,(5,())))
 else
 bif A30 z58 r63.2.1 (List.length z57) then
 (E9 F r65.1 (A1d (A0A z57 r63.2.1) z58)).bind fun r68 =>
 bif not r68.1 then
 some ([],(0,(5,())))
 else
 some (r63.1,(r63.2.1,(0,())))
 else
 none
 else
 (A1W F z57 (C2 .i64 z58 1) z59).bind fun r71 =>
 bif not (eqI r71.2.2.1 0) then
 some ([],(0,(r71.2.2.1,())))
 else
 (E8 F r71.1).bind fun r73 =>
 bif not (eqI r73.2.1 0) then
 some ([],(0,(5,())))
 else
 bif A30 z58 r71.2.1 (List.length z57) then
 (E9 F r73.1 (A1d (A0A z57 r71.2.1) z58)).bind fun r76 =>
 bif not r76.1 then
 some ([],(0,(5,())))
 else
 some (r71.1,(r71.2.1,(0,())))
 else
 none
 else
 none) (fun z78 z79 z80 =>
 some (z78,(z79,(z80,())))) x0 x1 x2 true
 else
 Y2 F (fun z82 z83 z84 =>
 bif inI z83 (List.length z82) then
 bif eqI (B1 0 z82 z83) 1 then
 (A14 F z82 (C2 .i64 z83 1) z84).bind fun r88 =>
 bif not (eqI r88.2.2.1 0) then
 some ([],(0,(r88.2.2.1,())))
 else
 (E8 F r88.1).bind fun r90 =>
 bif not (eqI r90.2.1 0) then
 some ([],(0,(5,())))
 else
 bif A30 z83 r88.2.1 (List.length z82) then
 (E9 F r90.1 (A1d (A0A z82 r88.2.1) z83)).bind fun r93 =>
 bif not r93.1 then
 some ([],(0,(5,())))
 else
 some (r88.1,(r88.2.1,(0,())))
 else
 none
 else
 (A1W F z82 (C2 .i64 z83 1) z84).bind fun r96 =>
 bif not (eqI r96.2.2.1 0) then
 some ([],(0,(r96.2.2.1,())))
 else
 (E8 F r96.1).bind fun r98 =>
 bif not (eqI r98.2.1 0) then
 some ([],(0,(5,())))
 else
 bif A30 z83 r96.2.1 (List.length z82) then
 (E9 F r98.1 (A1d (A0A z82 r96.2.1) z83)).bind fun r101 =>
 bif not r101.1 then
 some ([],(0,(5,())))
 else
 some (r96.1,(r96.2.1,(0,())))
 else
 none
 else
 none) (fun z103 z104 z105 =>
 some (z103,(z104,(z105,())))) x0 x1 x2 (ltI 65536 x2)
def A5c(F:Nat)(x0:Int):Option (Int×Unit) :=
 some (D0z .i64 (IntKind.wrap .i64 (T8 .u64 x0 1)) (E7 .i64 0 (IntKind.wrap .i64 (B15 .u64 x0 1))),())
def V4(F:Nat){R:Type}(kn:qL→Int→Int→Option R)(kret:qL→Int→Int→Option R)(x0:qL)(x1:Int)(x2:Int)(x16:Bool):Option R :=
 bif x16 then
 kret [] 0 2
 else
 bif eqI x1 (C7 x0) then
 kret [] 0 4
 else
 bif inI x1 (List.length x0) then
 bif ltI 2 (B1 0 x0 x1) then
 kret [] 0 5
 else
 kn x0 x1 x2
 else
 none
def A1l(F:Nat){R:Type}(k1:qL→Int→Int→qL→Option R):Nat→qL→Int→Int→qL→qL→Int→Int→Option R
 | 0,_,_,_,_,_,_,_=>none
 | n+1,x0,x1,x10,x12,x58,x59,x60 =>
 bif ltI x60 x59 then
 bif inI x60 (List.length x58) then
 (A5c F (B1 0 x58 x60)).bind fun r16 =>
 bif inI x60 (List.length x12) then
 A1l F k1 n x0 x1 x10 (F1 x12 x60 r16.1) x58 x59 (C2 .i64 x60 1)
 else
 none
 else
 none
 else
 k1 x0 x1 x10 x12
def T6(F:Nat){R:Type}(kn:qL→Int→Int→qL→Option R)(x0:qL)(x1:Int)(x10:Int)(x12:qL)(x58:qL)(x59:Int)(x60:Int):Option R :=
 A1l F (fun z19 z20 z21 z22 =>
 kn z19 z20 z21 z22) F x0 x1 x10 x12 x58 x59 x60
def A5d(F:Nat)(x0:qL)(x1:Int)(x2:Int):Option (qL×Int×Int×Unit) :=
 bif ltI x1 0 then
 V4 F (fun z6 z7 z8 =>
 (W5 F z6 (C2 .i64 z7 1) z8).bind fun r10 =>
 bif not (eqI r10.2.2.1 0) then
 some ([],(0,(r10.2.2.1,())))
 else
 bif A1x z8 z8 8 then
 T6 F (fun z23 z24 z25 z26 =>
 bif inI z24 (List.length z23) then
 (A02 F z26 (IntKind.wrap .i64 (B1 0 z23 z24))).bind fun r29 =>
 (P0 F r29.1).bind fun r30 =>
 bif not (eqI r30.2.1 0) then
 some ([],(0,(5,())))
 else
 bif A30 z24 z25 (List.length z23) then
 (E9 F r30.1 (A1d (A0A z23 z25) z24)).bind fun r33 =>
 bif not r33.1 then
 some ([],(0,(5,())))
 else
 some (r29.1,(z25,(0,())))
 else
 none
 else
 none) z6 z7 r10.2.1 (I5 z8 (0:Int)) r10.1 (C7 r10.1) 0
 else
 none) (fun z35 z36 z37 =>
 some (z35,(z36,(z37,())))) x0 x1 x2 true
 else
 bif ltI (C7 x0) x1 then
 V4 F (fun z40 z41 z42 =>
 (W5 F z40 (C2 .i64 z41 1) z42).bind fun r44 =>
 bif not (eqI r44.2.2.1 0) then
 some ([],(0,(r44.2.2.1,())))
 else
 bif A1x z42 z42 8 then
 T6 F (fun z48 z49 z50 z51 =>
 bif inI z49 (List.length z48) then
 (A02 F z51 (IntKind.wrap .i64 (B1 0 z48 z49))).bind fun r54 =>
 (P0 F r54.1).bind fun r55 =>
 bif not (eqI r55.2.1 0) then
 some ([],(0,(5,())))
 else
 bif A30 z49 z50 (List.length z48) then
 (E9 F r55.1 (A1d (A0A z48 z50) z49)).bind fun r58 =>
 bif not r58.1 then
 some ([],(0,(5,())))
 else
 some (r54.1,(z50,(0,())))
 else
 none
 else
 none) z40 z41 r44.2.1 (I5 z42 (0:Int)) r44.1 (C7 r44.1) 0
 else
 none) (fun z60 z61 z62 =>
 some (z60,(z61,(z62,())))) x0 x1 x2 true
 else
 bif ltI x2 0 then
 V4 F (fun z64 z65 z66 =>
 (W5 F z64 (C2 .i64 z65 1) z66).bind fun r68 =>
 bif not (eqI r68.2.2.1 0) then
 some ([],(0,(r68.2.2.1,())))
 else
 bif A1x z66 z66 8 then
 T6 F (fun z72 z73 z74 z75 =>
 bif inI z73 (List.length z72) then
 (A02 F z75 (IntKind.wrap .i64 (B1 0 z72 z73))).bind fun r78 =>
 (P0 F r78.1).bind fun r79 =>
 bif not (eqI r79.2.1 0) then
 some ([],(0,(5,())))
 else
 bif A30 z73 z74 (List.length z72) then
 (E9 F r79.1 (A1d (A0A z72 z74) z73)).bind fun r82 =>
 bif not r82.1 then
 some ([],(0,(5,())))
 else
 some (r78.1,(z74,(0,())))
 else
 none
 else
 none) z64 z65 r68.2.1 (I5 z66 (0:Int)) r68.1 (C7 r68.1) 0
 else
 none) (fun z84 z85 z86 =>
 some (z84,(z85,(z86,())))) x0 x1 x2 true
 else
 V4 F (fun z88 z89 z90 =>
 (W5 F z88 (C2 .i64 z89 1) z90).bind fun r92 =>
 bif not (eqI r92.2.2.1 0) then
 some ([],(0,(r92.2.2.1,())))
 else
 bif A1x z90 z90 8 then
 T6 F (fun z96 z97 z98 z99 =>
 bif inI z97 (List.length z96) then
 (A02 F z99 (IntKind.wrap .i64 (B1 0 z96 z97))).bind fun r102 =>
 (P0 F r102.1).bind fun r103 =>
 bif not (eqI r103.2.1 0) then
 some ([],(0,(5,())))
 else
 bif A30 z97 z98 (List.length z96) then
 (E9 F r103.1 (A1d (A0A z96 z98) z97)).bind fun r106 =>
 bif not r106.1 then
 some ([],(0,(5,())))
 else
 some (r102.1,(z98,(0,())))
 else
 none
 else
 none) z88 z89 r92.2.1 (I5 z90 (0:Int)) r92.1 (C7 r92.1) 0
 else
 none) (fun z108 z109 z110 =>
 some (z108,(z109,(z110,())))) x0 x1 x2 (ltI 65536 x2)
def A1X(F:Nat){R:Type}(k2:Int→qW→qL→qL→Int→Option R):Nat→Int→qW→qL→qL→Int→Int→Option R
 | 0,_,_,_,_,_,_=>none
 | n+1,x1,x4,x7,x9,x10,x11 =>
 bif ltI 0 x11 then
 bif inI x11 5 then
 bif inI (E7 .i64 x11 1) 5 then
 bif inI x11 5 then
 A1X F k2 n x1 x4 x7 (F1 x9 x11 (orI .u64 (A0Y .u64 (B1 0 x9 x11) 7) (T8 .u64 (B1 0 x9 (E7 .i64 x11 1)) 57))) x10 (E7 .i64 x11 1)
 else
 none
 else
 none
 else
 none
 else
 k2 x1 x4 x7 x9 x10
def A1Y(F:Nat){R:Type}(k0:Int→qW→qL→qL→Option R):Nat→Int→qW→qL→qL→Int→Option R
 | 0,_,_,_,_,_=>none
 | n+1,x1,x4,x7,x9,x10 =>
 bif leI 0 x10 then
 A1X F (fun z15 z16 z17 z18 z19 =>
 bif inI z19 (List.length z17) then
 A1Y F k0 n z15 z16 z17 (F1 z18 0 (orI .u64 (A0Y .u64 (B1 0 z18 0) 7) (IntKind.wrap .u64 (A1y (B1 0 z17 z19) 128)))) (E7 .i64 z19 1)
 else
 none) F x1 x4 x7 x9 x10 4
 else
 k0 x1 x4 x7 x9
def A1m(F:Nat){R:Type}(k4:Int→qW→qL→qL→qW→Option R):Nat→Int→qW→qL→qL→qW→Int→Option R
 | 0,_,_,_,_,_,_=>none
 | n+1,x1,x4,x7,x9,x12,x63 =>
 bif ltI x63 4 then
 bif inI x63 5 then
 bif inI (C2 .i64 x63 1) 5 then
 bif inI x63 4 then
 A1m F k4 n x1 x4 x7 x9 (x12.1,(F1 x12.2.1 x63 (orI .u64 (T8 .u64 (B1 0 x9 x63) 1) (A0Y .u64 (B1 0 x9 (C2 .i64 x63 1)) 63)),x12.2.2)) (C2 .i64 x63 1)
 else
 none
 else
 none
 else
 none
 else
 k4 x1 x4 x7 x9 x12
def A5e(F:Nat)(x0:qL)(x1:Int):Option (qW×Int×Int×Unit) :=
 (A4J F x0 x1 37).bind fun r1 =>
 bif not (eqI r1.2.1 0) then
 some ((false,([0,0,0,0],())),(0,(r1.2.1,())))
 else
 A1Y F (fun z28 z29 z30 z31 =>
 A1m F (fun z43 z44 z45 z46 z47 =>
 bif ltI 1 (B1 0 z46 4) then
 some ((false,([0,0,0,0],())),(0,(5,())))
 else
 (A0J F z47).bind fun r50 =>
 bif not r50.1 then
 some ((false,([0,0,0,0],())),(0,(5,())))
 else
 some (z47,(C2 .i64 z43 (C7 z45),(0,())))) F z28 z29 z30 z31 (eqI (A1y (B1 0 z31 0) 2) 1,([0,0,0,0],())) 0) F x1 (false,([0,0,0,0],())) r1.1 [0,0,0,0,0] (E7 .i64 (C7 r1.1) 1)
def A2U(F:Nat){R:Type}(k0:Int→qR→(List qW)→Option R)(kret:qR→Int→Int→Option R):Nat→qL→Int→qR→(List qW)→Int→Option R
 | 0,_,_,_,_,_=>none
 | n+1,x0,x1,x4,x7,x13 =>
 bif ltI x13 2 then
 (A5e F x0 x1).bind fun r2 =>
 bif not (eqI r2.2.2.1 0) then
 kret ((false,([0,0,0,0],())),((false,([0,0,0,0],())),())) 0 r2.2.2.1
 else
 bif inI x13 2 then
 A2U F k0 kret n x0 r2.2.1 x4 (F1 x7 x13 r2.1) (C2 .i64 x13 1)
 else
 none
 else
 k0 x1 x4 x7
def A7k(F:Nat)(x0:qL)(x1:Int):Option (qR×Int×Int×Unit) :=
 A2U F (fun z6 z7 z8 =>
 let x33v9:=B1 (false,([0,0,0,0],())) z8 0
 let x35v10:=B1 (false,([0,0,0,0],())) z8 1
 (A3x F x35v10).bind fun r11 =>
 bif leI r11.1 0 then
 some (((false,([0,0,0,0],())),((false,([0,0,0,0],())),())),(0,(5,())))
 else
 (A2e F (x33v9,(x35v10,()))).bind fun r13 =>
 bif not r13.1 then
 some (((false,([0,0,0,0],())),((false,([0,0,0,0],())),())),(0,(5,())))
 else
 some ((x33v9,(x35v10,())),(z6,(0,())))) (fun z15 z16 z17 =>
 some (z15,(z16,(z17,())))) F x0 x1 ((false,([0,0,0,0],())),((false,([0,0,0,0],())),())) [(false,([0,0,0,0],())),(false,([0,0,0,0],()))] 0
def A1Z(F:Nat){R:Type}(k0:Int→(List qGN)→Option R)(kret:(List qGN)→Int→Int→Option R):Nat→qL→Int→(List qGN)→qL→Int→Int→Option R
 | 0,_,_,_,_,_,_=>none
 | n+1,x0,x1,x11,x30,x31,x32 =>
 bif ltI x32 x31 then
 bif inI x32 (List.length x30) then
 (A7k F x0 x1).bind fun r7 =>
 bif not (eqI r7.2.2.1 0) then
 kret [] 0 r7.2.2.1
 else
 bif inI x32 (List.length x11) then
 A1Z F k0 kret n x0 r7.2.1 (F1 x11 x32 (B1 0 x30 x32,(r7.1,((),())))) x30 x31 (C2 .i64 x32 1)
 else
 none
 else
 none
 else
 k0 x1 x11
def A5f(F:Nat)(x0:qL)(x1:Int)(x2:Int):Option ((List qGN)×Int×Int×Unit) :=
 (A5d F x0 x1 x2).bind fun r1 =>
 bif not (eqI r1.2.2.1 0) then
 some ([],(0,(r1.2.2.1,())))
 else
 bif A1x x2 x2 112 then
 A1Z F (fun z11 z12 =>
 some (z12,(z11,(0,())))) (fun z13 z14 z15 =>
 some (z13,(z14,(z15,())))) F x0 r1.2.1 (I5 x2 ((0,(((false,([0,0,0,0],())),((false,([0,0,0,0],())),())),((),()))):qGN)) r1.1 (C7 r1.1) 0
 else
 none
def A2i(F:Nat){R:Type}(k0:Int→qL→Int→Option R):Nat→Int→Int→qL→Int→qL→Int→Int→Option R
 | 0,_,_,_,_,_,_,_=>none
 | n+1,x3,x13,x15,x16,x32,x33,x34 =>
 bif ltI x34 x33 then
 bif inI x34 (List.length x32) then
 bif inI x34 (List.length x15) then
 bif inI x34 (List.length (F1 x15 x34 (C2 .i64 (IntKind.wrap .i64 (B12 (B1 0 x32 x34) (IntKind.wrap .u64 x3))) 1))) then
 A2i F k0 n x3 x13 (F1 x15 x34 (C2 .i64 (IntKind.wrap .i64 (B12 (B1 0 x32 x34) (IntKind.wrap .u64 x3))) 1)) (B12 (C2 .i64 x16 (B1 0 (F1 x15 x34 (C2 .i64 (IntKind.wrap .i64 (B12 (B1 0 x32 x34) (IntKind.wrap .u64 x3))) 1)) x34)) (C2 .i64 x3 1)) x32 x33 (C2 .i64 x34 1)
 else
 none
 else
 none
 else
 none
 else
 k0 x13 x15 x16
def A6g(F:Nat)(x0:qL)(x1:Int)(x2:Int)(x3:Int):Option (qL×Int×Int×Int×Unit) :=
 (W5 F x0 x1 x2).bind fun r1 =>
 bif not (eqI r1.2.2.1 0) then
 some ([],(0,(0,(r1.2.2.1,()))))
 else
 bif A1x x2 x2 8 then
 A2i F (fun z17 z18 z19 =>
 some (z18,(z19,(z17,(0,()))))) F x3 r1.2.1 (I5 x2 (0:Int)) 0 r1.1 (C7 r1.1) 0
 else
 none
def Y3(F:Nat)(ok:Bool)(total size:Int):Nat→Int→Int→List Int→List Int→Option (Bool×List Int×List Int)
 | 0,_,_,_,_=>none
 | n+1,j,next,steps,xs =>
 bif ltI j size then
 bif inI 0 (List.length steps) then
 bif leI (IntKind.wrap .u64 (E7 .i64 total next)) (B1 0 steps 0) then
 some (false,steps,xs)
 else
 bif ok then
 bif D8 (List.length xs+1) 8 then
 bif A30 1 (C7 steps) (List.length steps) then
 Y3 F ok total size n (C2 .i64 j 1) (C2 .i64 (C2 .i64 next (IntKind.wrap .i64 (B1 0 steps 0))) 1) (A1d steps 1) (xs++[C2 .i64 next (IntKind.wrap .i64 (B1 0 steps 0))])
 else none
 else none
 else none
 else none
 else
 some (true,steps,xs)
def V5(F:Nat)(m:Nat)(total:Int)(sizes:List Int)(top:Int):Nat→Int→List Int→List qL→Option (Bool×List qL)
 | 0,_,_,_=>none
 | n+1,i,steps,D =>
 bif ltI i top then
 bif inI i (List.length sizes) then
 (Y3 F (inI i m) total (B1 0 sizes i) F 0 0 steps []).bind fun r =>
 bif r.1 then(bif eqI (C2 .i64 i 1) (C7 D+1) then V5 F m total sizes top n (C2 .i64 i 1) r.2.1 (D++[r.2.2]) else none) else some (false,D++[r.2.2])
 else none
 else
 some (true,D)
def A0T(F:Nat){R:Type}{A:Type}(k0:List (Int×(A×(List Int×Unit)))→Option R)(kret:List (Int×(A×(List Int×Unit)))→Bool→Option R)(n:Nat)(x0:List (Int×(A×(Unit×Unit))))(x2:List Int)(x3:Int)(x12:List Int)(x13 x14:Int):Option R :=
 bif eqI x14 0 then
 (V5 F (List.length x0) x3 x12 x13 n 0 x2 []).bind fun r=>bif r.1 then k0 (A4X x0 r.2) else kret (A4X x0 r.2) false
 else none
def A6h(F:Nat)(x0:(List qGN))(x1:qL)(x2:qL)(x3:Int):Option ((List qG)×Bool×Unit) :=
 A0T F (fun z2 =>
 some (z2,(true,()))) (fun z3 z4 =>
 some (z3,(z4,()))) F x0 x2 x3 x1 (C7 x1) 0
def A4m(F:Nat)(x0:qG):Option (Bool×Unit) :=
 bif inI 0 (List.length x0.2.2.1) then
 some (eqI (B1 0 x0.2.2.1 0) 0,())
 else
 none
def Q9(F:Nat){R:Type}(k0:Option R)(kret:Int→Option R):Nat→(List qG)→Int→Int→Option R
 | 0,_,_,_=>none
 | n+1,x0,x7,x8 =>
 bif ltI x8 x7 then
 bif inI x8 (List.length x0) then
 (A4m F (B1 (0,(((false,([0,0,0,0],())),((false,([0,0,0,0],())),())),([],()))) x0 x8)).bind fun r4 =>
 bif r4.1 then
 kret x8
 else
 Q9 F k0 kret n x0 x7 (C2 .i64 x8 1)
 else
 none
 else
 k0
def A15(F:Nat)(x0:(List qG)):Option (Int×Unit) :=
 Q9 F (
 some ((-1),())) (fun z6 =>
 some (z6,())) F x0 (C7 x0) 0
def A0f(F:Nat)(x0:(List qG)):Option (Bool×Unit) :=
 (A15 F x0).bind fun r1 =>
 some (leI 0 r1.1,())
def A5g(F:Nat)(x0:qL)(x1:Int)(x2:Int):Option ((List qG)×Int×Int×Unit) :=
 (A6d F x0 x1 x2).bind fun r1 =>
 bif not r1.1 then
 some ([],(0,(2,())))
 else
 (A6e F x0 x1 x2).bind fun r3 =>
 bif not (eqI r3.2.2.1 0) then
 some ([],(0,(r3.2.2.1,())))
 else
 (A5f F x0 r3.2.1 r3.1).bind fun r5 =>
 bif not (eqI r5.2.2.1 0) then
 some ([],(0,(r5.2.2.1,())))
 else
 (A6g F x0 r5.2.1 r3.1 x2).bind fun r7 =>
 bif not (eqI r7.2.2.2.1 0) then
 some ([],(0,(r7.2.2.2.1,())))
 else
 bif ltI x2 r7.2.1 then
 some ([],(0,(10,())))
 else
 (W5 F x0 r7.2.2.1 r7.2.1).bind fun r10 =>
 bif not (eqI r10.2.2.1 0) then
 some ([],(0,(r10.2.2.1,())))
 else
 (A6h F r5.1 r7.1 r10.1 x2).bind fun r12 =>
 bif not r12.2.1 then
 some ([],(0,(10,())))
 else
 (A07 F r12.1).bind fun r14 =>
 bif not (eqI r14.1 0) then
 some ([],(0,(5,())))
 else
 bif ltI 0 x2 then
 (A0f F r12.1).bind fun r17 =>
 bif not r17.1 then
 some ([],(0,(10,())))
 else
 some (r12.1,(r10.2.1,(0,())))
 else
 some (r12.1,(r10.2.1,(0,())))
def A6E(F:Nat) :Option (Bool×Unit) :=
 (A3P F 2).bind fun r1 =>
 (A3P F 4).bind fun r2 =>
 (A0s F [(0,(r1.1,([0,5],()))),(0,(r2.1,([9],())))]).bind fun r3 =>
 (A5g F r3.1 0 10).bind fun r4 =>
 bif eqI r3.2.1 0 then
 bif eqI r4.2.2.1 0 then
 bif eqI r4.2.1 (C7 r3.1) then
 (A4l F r3.1 [2,0,1,0,4,2,8,2,0,1,0,0,0,4,9]).bind fun r9 =>
 bif r9.1 then
 bif eqI (C7 r4.1) 2 then
 bif inI 0 (List.length r4.1) then
 some (eqI (C7 (B1 (0,(((false,([0,0,0,0],())),((false,([0,0,0,0],())),())),([],()))) r4.1 0).2.2.1) 2,())
 else
 none
 else
 some (false,())
 else
 some (false,())
 else
 some (false,())
 else
 some (false,())
 else
 some (false,())
def F0(F:Nat){R:Type}(k0:Option R)(kret:Bool→Option R):Nat→(List (List qG))→Int→Option R
 | 0,_,_=>none
 | n+1,x8,x9 =>
 bif ltI x9 3 then
 bif inI x9 (List.length x8) then
 (A0s F (B1 [] x8 x9)).bind fun r6 =>
 bif inI x9 (List.length x8) then
 (A3W F (B1 [] x8 x9)).bind fun r8 =>
 bif not (eqI r6.2.1 r8.2.1) then
 kret false
 else
 (A4l F r6.1 r8.1).bind fun r10 =>
 bif not r10.1 then
 kret false
 else
 bif inI x9 (List.length x8) then
 (A07 F (B1 [] x8 x9)).bind fun r13 =>
 bif inI x9 (List.length x8) then
 (A3B F (B1 [] x8 x9)).bind fun r15 =>
 bif not (eqI r13.1 r15.1) then
 kret false
 else
 F0 F k0 kret n x8 (C2 .i64 x9 1)
 else
 none
 else
 none
 else
 none
 else
 none
 else
 k0
def A1n(F:Nat)(x0:(List qG))(x1:qL):Option (Bool×Unit) :=
 (B2O F x1).bind fun r1 =>
 (A5Q F r1.1).bind fun r2 =>
 (A37 F r2.1 r2.2.1).bind fun r3 =>
 F0 F (
 (A6E F).bind fun r18 =>
 some (r18.1,())) (fun z19 =>
 some (z19,())) F [x0,r2.2.1,r3.2.1] 0
end Go.Proofs.YtdhfajmcakneiaaGreat
