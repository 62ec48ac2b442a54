/- The plain models of the functions. Written by program. -/
import Derived.Test.YtdhfajmcakneiaaGreatEngD
set_option linter.unusedVariables false
set_option linter.unusedSimpArgs false
namespace Go.Proofs.YtdhfajmcakneiaaGreat
open Go.Eng
theorem iP.{u}{c:Prop}{h:Decidable c}(hc:c){α:Sort u}{t e:α}:@ite α c h t e=t:=if_pos hc
theorem iN.{u}{c:Prop}{h:Decidable c}(hc:¬c){α:Sort u}{t e:α}:@ite α c h t e=e:=if_neg hc
theorem cT.{u}{α:Sort u}{a b:α}:cond true a b=a:=rfl
theorem cF.{u}{α:Sort u}{a b:α}:cond false a b=b:=rfl
theorem bS.{u,v}{α:Type u}{β:Type v}(a:α)(f:α→Option β):(some a).bind f=f a:=rfl
abbrev qL:=List Int
abbrev qW:=(Bool×((List Int)×Unit))
abbrev qR:=((Bool×((List Int)×Unit))×((Bool×((List Int)×Unit))×Unit))
abbrev qG:=(Int×(((Bool×((List Int)×Unit))×((Bool×((List Int)×Unit))×Unit))×((List Int)×Unit)))
abbrev qGN:=(Int×(((Bool×((List Int)×Unit))×((Bool×((List Int)×Unit))×Unit))×(Unit×Unit)))
abbrev qCO:=(Bool×(((Bool×((List Int)×Unit))×((Bool×((List Int)×Unit))×Unit))×(((Bool×((List Int)×Unit))×((Bool×((List Int)×Unit))×Unit))×Unit)))
abbrev qPI:=(Int×(Int×(Int×((Bool×(((Bool×((List Int)×Unit))×((Bool×((List Int)×Unit))×Unit))×(((Bool×((List Int)×Unit))×((Bool×((List Int)×Unit))×Unit))×Unit)))×Unit))))
abbrev qSM:=(Int×(Int×Unit))
abbrev qPS:=(Int×(Int×(Int×((Int×(Int×Unit))×(Int×(Int×((Bool×(((Bool×((List Int)×Unit))×((Bool×((List Int)×Unit))×Unit))×(((Bool×((List Int)×Unit))×((Bool×((List Int)×Unit))×Unit))×Unit)))×Unit)))))))
abbrev qTP:=((List Int)×(Int×Unit))
def H2(F:Nat)(x0:qL)(x1:Int):Option (qL×Unit):=Kh 1 x0 x1
def Wp(F:Nat)(x0:qL):Option (qTP×Unit) :=
 some ((x0,(0,())),())
def Py(F:Nat)(x0:Int)(x1:Int):Option (Int×Unit) :=
 bif ltI x1 1 then
 some (0,())
 else
 bif eqI x1 0 then
 none
 else
 bif ltI (Iw x0 x1) 0 then
 some (As .i64 (Iw x0 x1) x1,())
 else
 some (Iw x0 x1,())
def Al(F:Nat)(x0:qTP)(x1:Int):Option (qTP×Int×Unit) :=
 bif leI (Au x0.1) x0.2.1 then
 some (x0,(0,()))
 else
 let x19v3:=As .i64 x0.2.1 1
 bif inI (Bl .i64 x19v3 1) (List.length x0.1) then
 (Py F (Ak 0 x0.1 (Bl .i64 x19v3 1)) x1).bind fun r6 =>
 some ((x0.1,(x19v3,x0.2.2)),(r6.1,()))
 else
 none
def Fe(F:Nat){R:Type}(k0:qTP→Int→Option R):Nat→qTP→Int→Int→Option R
 | 0,_,_,_=>none
 | n+1,x0,x3,x4 =>
 bif ltI x4 4 then
 (Al F x0 65536).bind fun r3 =>
 Fe F k0 n r3.1 (As .u64 (Fs .u64 x3 16) (IntKind.wrap .u64 r3.2.1)) (As .i64 x4 1)
 else
 k0 x0 x3
def Gk(F:Nat)(x0:qTP):Option (qTP×Int×Unit) :=
 Fe F (fun z7 z8 =>
 some (z7,(z8,()))) F x0 0 0
def F4(F:Nat)(x0:qTP):Option (qTP×Int×Unit) :=
 (Al F x0 8).bind fun r1 =>
 bif eqI r1.2.1 0 then
 (Gk F r1.1).bind fun r3 =>
 some (r3.1,(IntKind.wrap .i64 r3.2.1,()))
 else
 bif eqI r1.2.1 1 then
 (Al F r1.1 4).bind fun r6 =>
 some (r6.1,(Bl .i64 9223372036854775807 r6.2.1,()))
 else
 bif eqI r1.2.1 2 then
 (Al F r1.1 4).bind fun r9 =>
 some (r9.1,(As .i64 (-9223372036854775808) r9.2.1,()))
 else
 bif eqI r1.2.1 3 then
 (Gk F r1.1).bind fun r12 =>
 (Al F r12.1 64).bind fun r13 =>
 let x26v14:=IntKind.wrap .u64 r13.2.1
 bif ltI x26v14 0 then
 none
 else
 some (r13.1,(IntKind.wrap .i64 (D6 .u64 r12.2.1 x26v14),()))
 else
 (Al F r1.1 2000).bind fun r17 =>
 some (r17.1,(Bl .i64 r17.2.1 1000,()))
def J2(F:Nat)(x0:qTP)(x1:Int):Option (qTP×Bool×Unit) :=
 (Al F x0 x1).bind fun r1 =>
 bif eqI x1 0 then
 none
 else
 some (r1.1,(eqI r1.2.1 (Iw 1 x1),()))
def Bw(F:Nat){R:Type}(kn:qTP→qL→Int→Int→Int→Int→Option R)(kret:qTP→qL→Option R)(x0:qTP)(x5:qL)(x6:Int)(x7:Int)(x8:Int)(x9:Int)(x10:Int):Option R :=
 bif ltI (Bl .u64 9223372036854775807 (IntKind.wrap .u64 x7)) x10 then
 kret x0 x5
 else
 kn x0 x5 x6 (IntKind.wrap .i64 (As .u64 (IntKind.wrap .u64 x7) x10)) x8 x9
def A2(F:Nat){R:Type}(k0:qTP→qL→Option R)(kret:qTP→qL→Option R):Nat→qTP→qL→Int→Int→Int→Int→Option R
 | 0,_,_,_,_,_,_=>none
 | n+1,x0,x5,x6,x7,x8,x9 =>
 bif ltI 0 x9 then
 bif Bh ((List.length x5)+1) 8 then
 bif eqI x6 1 then
 (Al F x0 9).bind fun r11 =>
 Bw F (fun z20 z21 z22 z23 z24 z25 =>
 A2 F k0 kret n z20 z21 z22 z23 z24 (Bl .i64 z25 1)) (fun z27 z28 =>
 kret z27 z28) r11.1 (x5++[x7]) x6 x7 x8 x9 (IntKind.wrap .u64 (As .i64 1 r11.2.1))
 else
 bif eqI x6 2 then
 (Al F x0 3).bind fun r30 =>
 Bw F (fun z33 z34 z35 z36 z37 z38 =>
 A2 F k0 kret n z33 z34 z35 z36 z37 (Bl .i64 z38 1)) (fun z40 z41 =>
 kret z40 z41) r30.1 (x5++[x7]) x6 x7 x8 x9 (As .u64 x8 (IntKind.wrap .u64 r30.2.1))
 else
 bif eqI x6 3 then
 (Gk F x0).bind fun r43 =>
 (Al F r43.1 56).bind fun r44 =>
 let x52v45:=As .i64 4 r44.2.1
 bif ltI (IntKind.wrap .u64 x52v45) 0 then
 none
 else
 Bw F (fun z49 z50 z51 z52 z53 z54 =>
 A2 F k0 kret n z49 z50 z51 z52 z53 (Bl .i64 z54 1)) (fun z56 z57 =>
 kret z56 z57) r44.1 (x5++[x7]) x6 x7 x8 x9 (As .u64 1 (D6 .u64 r43.2.1 (IntKind.wrap .u64 x52v45)))
 else
 bif eqI x6 4 then
 (J2 F x0 4).bind fun r59 =>
 bif r59.2.1 then
 (Gk F r59.1).bind fun r60 =>
 (Al F r60.1 8).bind fun r61 =>
 let x64v62:=As .i64 1 r61.2.1
 bif ltI (IntKind.wrap .u64 x64v62) 0 then
 none
 else
 Bw F (fun z66 z67 z68 z69 z70 z71 =>
 A2 F k0 kret n z66 z67 z68 z69 z70 (Bl .i64 z71 1)) (fun z73 z74 =>
 kret z73 z74) r61.1 (x5++[x7]) x6 x7 x8 x9 (As .u64 1 (D6 .u64 r60.2.1 (IntKind.wrap .u64 x64v62)))
 else
 Bw F (fun z75 z76 z77 z78 z79 z80 =>
 A2 F k0 kret n z75 z76 z77 z78 z79 (Bl .i64 z80 1)) (fun z82 z83 =>
 kret z82 z83) r59.1 (x5++[x7]) x6 x7 x8 x9 x8
 else
 Bw F (fun z84 z85 z86 z87 z88 z89 =>
 A2 F k0 kret n z84 z85 z86 z87 z88 (Bl .i64 z89 1)) (fun z91 z92 =>
 kret z91 z92) x0 (x5++[x7]) x6 x7 x8 x9 x8
 else
 none
 else
 k0 x0 x5
def K2(F:Nat)(x0:qTP)(x1:Int):Option (qTP×qL×Unit) :=
 (Al F x0 5).bind fun r1 =>
 (F4 F r1.1).bind fun r2 =>
 (Al F r2.1 50).bind fun r3 =>
 (Al F r3.1 (As .i64 x1 1)).bind fun r7 =>
 A2 F (fun z93 z94 =>
 some (z93,(z94,()))) (fun z95 z96 =>
 some (z95,(z96,()))) F r7.1 [] r1.2.1 r2.2.1 (IntKind.wrap .u64 (As .i64 1 r3.2.1)) r7.2.1
def At(F:Nat){R:Type}(k0:qTP→(List qSM)→Option R):Nat→qTP→qL→(List qSM)→Int→Int→Int→Int→Option R
 | 0,_,_,_,_,_,_,_=>none
 | n+1,x0,x5,x6,x7,x8,x9,x10 =>
 bif ltI x10 (Au x5) then
 bif eqI x7 1 then
 bif inI x10 (List.length x5) then
 bif Bh ((List.length x6)+1) 16 then
 At F k0 n x0 x5 (x6++[(Ak 0 x5 x10,(As .i64 x8 (Iv .i64 x10 x9),()))]) x7 x8 x9 (As .i64 x10 1)
 else
 none
 else
 none
 else
 bif eqI x7 2 then
 (Al F x0 7).bind fun r17 =>
 bif inI x10 (List.length x5) then
 bif Bh ((List.length x6)+1) 16 then
 At F k0 n r17.1 x5 (x6++[(Ak 0 x5 x10,(As .i64 (As .i64 x8 (Iv .i64 x10 x9)) (Bl .i64 r17.2.1 3),()))]) x7 x8 x9 (As .i64 x10 1)
 else
 none
 else
 none
 else
 bif eqI x7 3 then
 (Al F x0 9).bind fun r24 =>
 bif inI x10 (List.length x5) then
 bif Bh ((List.length x6)+1) 16 then
 At F k0 n r24.1 x5 (x6++[(Ak 0 x5 x10,(As .i64 x8 (Bl .i64 r24.2.1 4),()))]) x7 x8 x9 (As .i64 x10 1)
 else
 none
 else
 none
 else
 bif eqI x7 4 then
 (F4 F x0).bind fun r31 =>
 bif inI x10 (List.length x5) then
 bif Bh ((List.length x6)+1) 16 then
 At F k0 n r31.1 x5 (x6++[(Ak 0 x5 x10,(r31.2.1,()))]) x7 x8 x9 (As .i64 x10 1)
 else
 none
 else
 none
 else
 bif eqI x7 5 then
 (J2 F x0 5).bind fun r36 =>
 bif r36.2.1 then
 (Al F r36.1 400).bind fun r37 =>
 let x66v38:=Bl .i64 r37.2.1 200
 (Al F r37.1 3).bind fun r40 =>
 bif inI x10 (List.length x5) then
 bif Bh ((List.length x6)+1) 16 then
 At F k0 n r40.1 x5 (x6++[(Ak 0 x5 x10,(As .i64 (As .i64 x8 x66v38) r40.2.1,()))]) x7 (As .i64 x8 x66v38) x9 (As .i64 x10 1)
 else
 none
 else
 none
 else
 (Al F r36.1 3).bind fun r45 =>
 bif inI x10 (List.length x5) then
 bif Bh ((List.length x6)+1) 16 then
 At F k0 n r45.1 x5 (x6++[(Ak 0 x5 x10,(As .i64 x8 r45.2.1,()))]) x7 x8 x9 (As .i64 x10 1)
 else
 none
 else
 none
 else
 bif eqI x7 6 then
 (Al F x0 50).bind fun r51 =>
 (Al F r51.1 50).bind fun r52 =>
 bif inI x10 (List.length x5) then
 bif Bh ((List.length x6)+1) 16 then
 At F k0 n r52.1 x5 (x6++[(Ak 0 x5 x10,(Iv .i64 (Iv .i64 r51.2.1 r52.2.1) x9,()))]) x7 x8 x9 (As .i64 x10 1)
 else
 none
 else
 none
 else
 bif inI x10 (List.length x5) then
 bif Bh ((List.length x6)+1) 16 then
 At F k0 n x0 x5 (x6++[(Ak 0 x5 x10,(x8,()))]) x7 x8 x9 (As .i64 x10 1)
 else
 none
 else
 none
 else
 k0 x0 x6
def Jo(F:Nat)(x0:qTP)(x1:Int):Option (qTP×(List qSM)×Unit) :=
 (K2 F x0 x1).bind fun r1 =>
 (Al F r1.1 7).bind fun r2 =>
 (F4 F r2.1).bind fun r3 =>
 (Al F r3.1 41).bind fun r4 =>
 At F (fun z61 z62 =>
 some (z61,(z62,()))) F r4.1 r1.2.1 [] r2.2.1 r3.2.1 (Bl .i64 r4.2.1 20) 0
def Nm(F:Nat)(x0:qTP)(x1:Int):Option (qTP×(List qSM)×Unit) :=
 (Jo F x0 x1).bind fun r1 =>
 bif eqI (Au r1.2.1) 0 then
 (F4 F r1.1).bind fun r4 =>
 (F4 F r4.1).bind fun r5 =>
 some (r5.1,([(r4.2.1,(r5.2.1,()))],()))
 else
 some (r1.1,(r1.2.1,()))
def Hq(F:Nat)(x0:qTP):Option (qTP×Int×Unit) :=
 (Al F x0 8).bind fun r1 =>
 bif eqI r1.2.1 0 then
 some (r1.1,(0,()))
 else
 bif eqI r1.2.1 1 then
 (Al F r1.1 2).bind fun r4 =>
 some (r4.1,(Bl .i64 4611686018427387904 r4.2.1,()))
 else
 bif eqI r1.2.1 2 then
 (Gk F r1.1).bind fun r7 =>
 (Al F r7.1 60).bind fun r8 =>
 let x18v9:=As .i64 2 r8.2.1
 bif ltI (IntKind.wrap .u64 x18v9) 0 then
 none
 else
 some (r8.1,(IntKind.wrap .i64 (D6 .u64 r7.2.1 (IntKind.wrap .u64 x18v9)),()))
 else
 (Al F r1.1 30).bind fun r13 =>
 some (r13.1,(r13.2.1,()))
def G6(F:Nat)(x0:Int):Option (Bool×Unit) :=
 bif leI 0 x0 then
 some (leI x0 4611686018427387904,())
 else
 some (false,())
def Si(F:Nat)(x0:Int):Option (qPS×Int×Unit) :=
 (G6 F x0).bind fun r1 =>
 bif not r1.1 then
 some ((0,(0,(0,((0,(0,())),(0,(0,((false,(((false,([0,0,0,0],())),((false,([0,0,0,0],())),())),(((false,([0,0,0,0],())),((false,([0,0,0,0],())),())),()))),()))))))),(9,()))
 else
 some ((x0,(0,(0,((0,(0,())),(0,(0,((false,(((false,([0,0,0,0],())),((false,([0,0,0,0],())),())),(((false,([0,0,0,0],())),((false,([0,0,0,0],())),())),()))),()))))))),(0,()))
def Ia(F:Nat){R:Type}(k0:qL→Option R):Nat→(List qSM)→qL→Int→Option R
 | 0,_,_,_=>none
 | n+1,x0,x3,x4 =>
 bif ltI x4 (Au x0) then
 bif inI x4 (List.length x0) then
 bif Bh ((List.length x3)+1) 8 then
 Ia F k0 n x0 (x3++[(Ak (0,(0,())) x0 x4).1]) (As .i64 x4 1)
 else
 none
 else
 none
 else
 k0 x3
def Sj(F:Nat)(x0:(List qSM)):Option (qL×Unit) :=
 Ia F (fun z6 =>
 some (z6,())) F x0 [] 0
def C6(F:Nat){R:Type}(k0:Option R)(kret:Bool→Option R):Nat→qL→Int→Option R
 | 0,_,_=>none
 | n+1,x0,x3 =>
 bif ltI x3 (Au x0) then
 bif inI x3 (List.length x0) then
 bif inI (Bl .i64 x3 1) (List.length x0) then
 bif leI (Ak 0 x0 x3) (Ak 0 x0 (Bl .i64 x3 1)) then
 kret false
 else
 C6 F k0 kret n x0 (As .i64 x3 1)
 else
 none
 else
 none
 else
 k0
def Kb(F:Nat)(x0:qL):Option (Bool×Unit) :=
 C6 F (
 some (true,())) (fun z8 =>
 some (z8,())) F x0 1
def Sk(F:Nat)(x0:(List qSM)):Option (Int×Unit) :=
 (Sj F x0).bind fun r1 =>
 (Kb F r1.1).bind fun r2 =>
 bif not r2.1 then
 some (7,())
 else
 some (0,())
def Ul(F:Nat)(x0:Int):Option (Int×Unit) :=
 some (Asj x0 1,())
def G7(F:Nat){R:Type}(kret:Int→Bool→Option R)(x0:Int)(x1:Int):Option R :=
 bif eqI x1 0 then
 none
 else
 bif eqI x1 0 then
 none
 else
 bif not (eqI (Iw x0 x1) 0) then
 bif not (eqT .bool (ltI x0 0) (ltI x1 0)) then
 kret (Bl .i64 (Hi .i64 x0 x1) 1) true
 else
 kret (Hi .i64 x0 x1) true
 else
 kret (Hi .i64 x0 x1) true
def Qj(F:Nat)(x0:Int)(x1:Int):Option (Int×Bool×Unit) :=
 bif eqI x1 0 then
 some (0,(false,()))
 else
 bif eqI x0 (-9223372036854775808) then
 bif eqI x1 (-1) then
 some (0,(false,()))
 else
 G7 F (fun z11 z12 =>
 some (z11,(z12,()))) x0 x1
 else
 G7 F (fun z13 z14 =>
 some (z13,(z14,()))) x0 x1
def Qs(F:Nat)(x0:Int)(x1:Int):Option (Int×Unit) :=
 (Ul F x1).bind fun r1 =>
 (Qj F x0 r1.1).bind fun r2 =>
 some (r2.1,())
def Ki(F:Nat) :Option (qCO×Unit) :=
 some ((true,(((false,([0,0,0,0],())),((false,([0,0,0,0],())),())),(((false,([0,0,0,0],())),((false,([0,0,0,0],())),())),()))),())
def F5(F:Nat){R:Type}(k0:qL→Option R):Nat→qL→Option R
 | 0,_=>none
 | n+1,x0 =>
 bif ltI 0 (Au x0) then
 bif inI (Bl .i64 (Au x0) 1) (List.length x0) then
 bif eqI (Ak 0 x0 (Bl .i64 (Au x0) 1)) 0 then
 bif J1 0 (Bl .i64 (Au x0) 1) (List.length x0) then
 F5 F k0 n (B0 x0 (Bl .i64 (Au x0) 1))
 else
 none
 else
 k0 x0
 else
 none
 else
 k0 x0
def C2(F:Nat)(x0:qL):Option (qL×Unit) :=
 F5 F (fun z10 =>
 some (z10,())) F x0
def J3(F:Nat){R:Type}(k0:qL→Option R):Nat→qL→Option R
 | 0,_=>none
 | n+1,x0 =>
 bif ltI 0 (Au x0) then
 bif inI (Bl .i64 (Au x0) 1) (List.length x0) then
 bif eqI (Ak 0 x0 (Bl .i64 (Au x0) 1)) 0 then
 bif J1 0 (Bl .i64 (Au x0) 1) (List.length x0) then
 J3 F k0 n (B0 x0 (Bl .i64 (Au x0) 1))
 else
 none
 else
 k0 x0
 else
 none
 else
 k0 x0
def Kj(F:Nat)(x0:qL):Option (qL×Unit) :=
 J3 F (fun z10 =>
 some (z10,())) F x0
def G1(F:Nat)(x0:qW):Option (qL×Unit) :=
 bif Bh (0+(List.length x0.2.1)) 8 then
 (C2 F ([]++x0.2.1)).bind fun r2 =>
 some (r2.1,())
 else
 none
def Hr(F:Nat)(x0:qW):Option (Bool×Unit) :=
 bif not x0.1 then
 some (true,())
 else
 (G1 F x0).bind fun r2 =>
 some (ltI 0 (Au r2.1),())
def C9(F:Nat)(x0:qW):Option (Int×Unit) :=
 (G1 F x0).bind fun r1 =>
 bif eqI (Au r1.1) 0 then
 some (0,())
 else
 bif x0.1 then
 some ((-1),())
 else
 some (1,())
def Pc(F:Nat)(x0:qW):Option (Bool×Unit) :=
 bif eqI (Ak 0 x0.2.1 3) 0 then
 bif eqI (Ak 0 x0.2.1 2) 0 then
 some (ltI (Ak 0 x0.2.1 1) 9223372036854775808,())
 else
 some (false,())
 else
 some (false,())
def N0(F:Nat)(x0:qW):Option (qW×Unit) :=
 some ((false,x0.2),())
def Gl(F:Nat)(x0:qW):Option (qW×Unit) :=
 (Hr F x0).bind fun r1 =>
 bif not r1.1 then
 some ((false,([0,0,0,0],())),())
 else
 some (x0,())
def E5(F:Nat)(x0:qW):Option (Int×Bool×Unit) :=
 (Gl F x0).bind fun r1 =>
 (G1 F r1.1).bind fun r2 =>
 bif r1.1.1 then
 some (0,(false,()))
 else
 bif ltI 1 (Au r2.1) then
 some (0,(false,()))
 else
 some (Ak 0 r1.1.2.1 0,(true,()))
def Ep(F:Nat)(x0:Int):Option (qW×Unit) :=
 some ((false,([x0,0,0,0],())),())
def Hs(F:Nat)(x0:Int):Option (Int×Unit) :=
 (Dw F x0).bind fun r1 =>
 some (Bl .i64 64 r1.1,())
def Gm(F:Nat){R:Type}(k0:Int→Int→Int→Int→Int→Int→Int→Int→Option R):Nat→Int→Int→Int→Int→Int→Int→Int→Int→Int→Option R
 | 0,_,_,_,_,_,_,_,_,_=>none
 | n+1,x2,x8,x9,x10,x11,x13,x14,x15,x16 =>
 bif leI 4294967296 x15 then
 bif leI 4294967296 (As .u64 x16 x9) then
 k0 x2 x8 x9 x10 x11 x13 x14 (Bl .u64 x15 1)
 else
 Gm F k0 n x2 x8 x9 x10 x11 x13 x14 (Bl .u64 x15 1) (As .u64 x16 x9)
 else
 bif ltI (As .u64 (Iv .u64 4294967296 x16) x13) (Iv .u64 x15 x10) then
 bif leI 4294967296 (As .u64 x16 x9) then
 k0 x2 x8 x9 x10 x11 x13 x14 (Bl .u64 x15 1)
 else
 Gm F k0 n x2 x8 x9 x10 x11 x13 x14 (Bl .u64 x15 1) (As .u64 x16 x9)
 else
 k0 x2 x8 x9 x10 x11 x13 x14 x15
def Gp(F:Nat){R:Type}(k2:Int→Int→Int→Int→Int→Int→Option R):Nat→Int→Int→Int→Int→Int→Int→Int→Int→Int→Option R
 | 0,_,_,_,_,_,_,_,_,_=>none
 | n+1,x2,x8,x9,x10,x14,x15,x16,x17,x18 =>
 bif leI 4294967296 x18 then
 bif leI 4294967296 (As .u64 x16 x9) then
 k2 x2 x8 x14 x15 x17 (Bl .u64 x18 1)
 else
 Gp F k2 n x2 x8 x9 x10 x14 x15 (As .u64 x16 x9) x17 (Bl .u64 x18 1)
 else
 bif ltI (As .u64 (Iv .u64 4294967296 x16) x14) (Iv .u64 x18 x10) then
 bif leI 4294967296 (As .u64 x16 x9) then
 k2 x2 x8 x14 x15 x17 (Bl .u64 x18 1)
 else
 Gp F k2 n x2 x8 x9 x10 x14 x15 (As .u64 x16 x9) x17 (Bl .u64 x18 1)
 else
 k2 x2 x8 x14 x15 x17 x18
def Qt(F:Nat)(x0:Int)(x1:Int)(x2:Int):Option (Int×Int×Unit) :=
 bif eqI x2 0 then
 none
 else
 bif leI x2 x0 then
 none
 else
 bif eqI x0 0 then
 bif eqI x2 0 then
 none
 else
 bif eqI x2 0 then
 none
 else
 some (Hi .u64 x1 x2,(Iw x1 x2,()))
 else
 (Hs F x2).bind fun r6 =>
 bif ltI (IntKind.wrap .u64 r6.1) 0 then
 none
 else
 bif ltI (IntKind.wrap .u64 r6.1) 0 then
 none
 else
 bif ltI (Bl .u64 64 (IntKind.wrap .u64 r6.1)) 0 then
 none
 else
 bif ltI (IntKind.wrap .u64 r6.1) 0 then
 none
 else
 bif eqI (D6 .u64 (Fs .u64 x2 (IntKind.wrap .u64 r6.1)) 32) 0 then
 none
 else
 Gm F (fun z32 z33 z34 z35 z36 z37 z38 z39 =>
 bif eqI z34 0 then
 none
 else
 Gp F (fun z58 z59 z60 z61 z62 z63 =>
 bif ltI z59 0 then
 none
 else
 some (As .u64 (Iv .u64 z61 4294967296) z63,(D6 .u64 (Bl .u64 (As .u64 (Iv .u64 z62 4294967296) z60) (Iv .u64 z63 z58)) z59,()))) F z32 z33 z34 z35 z38 z39 (Bl .u64 (Bl .u64 (As .u64 (Iv .u64 z36 4294967296) z37) (Iv .u64 z39 z32)) (Iv .u64 (Hi .u64 (Bl .u64 (As .u64 (Iv .u64 z36 4294967296) z37) (Iv .u64 z39 z32)) z34) z34)) (Bl .u64 (As .u64 (Iv .u64 z36 4294967296) z37) (Iv .u64 z39 z32)) (Hi .u64 (Bl .u64 (As .u64 (Iv .u64 z36 4294967296) z37) (Iv .u64 z39 z32)) z34)) F (Fs .u64 x2 (IntKind.wrap .u64 r6.1)) (IntKind.wrap .u64 r6.1) (D6 .u64 (Fs .u64 x2 (IntKind.wrap .u64 r6.1)) 32) (V4 .u64 (Fs .u64 x2 (IntKind.wrap .u64 r6.1)) 4294967295) (orI .u64 (Fs .u64 x0 (IntKind.wrap .u64 r6.1)) (D6 .u64 x1 (Bl .u64 64 (IntKind.wrap .u64 r6.1)))) (D6 .u64 (Fs .u64 x1 (IntKind.wrap .u64 r6.1)) 32) (V4 .u64 (Fs .u64 x1 (IntKind.wrap .u64 r6.1)) 4294967295) (Hi .u64 (orI .u64 (Fs .u64 x0 (IntKind.wrap .u64 r6.1)) (D6 .u64 x1 (Bl .u64 64 (IntKind.wrap .u64 r6.1)))) (D6 .u64 (Fs .u64 x2 (IntKind.wrap .u64 r6.1)) 32)) (Bl .u64 (orI .u64 (Fs .u64 x0 (IntKind.wrap .u64 r6.1)) (D6 .u64 x1 (Bl .u64 64 (IntKind.wrap .u64 r6.1)))) (Iv .u64 (Hi .u64 (orI .u64 (Fs .u64 x0 (IntKind.wrap .u64 r6.1)) (D6 .u64 x1 (Bl .u64 64 (IntKind.wrap .u64 r6.1)))) (D6 .u64 (Fs .u64 x2 (IntKind.wrap .u64 r6.1)) 32)) (D6 .u64 (Fs .u64 x2 (IntKind.wrap .u64 r6.1)) 32)))
def O1(F:Nat)(x0:qL):Option (Int×Unit) :=
 bif eqI (Au x0) 0 then
 some (0,())
 else
 bif inI (Bl .i64 (Au x0) 1) (List.length x0) then
 (Dw F (Ak 0 x0 (Bl .i64 (Au x0) 1))).bind fun r9 =>
 some (As .i64 (Iv .i64 64 (Bl .i64 (Au x0) 1)) r9.1,())
 else
 none
def Kk(F:Nat){R:Type}(k0:qL→Option R):Nat→qL→Int→qL→Int→Option R
 | 0,_,_,_,_=>none
 | n+1,x0,x1,x5,x6 =>
 bif ltI x6 (Au x0) then
 bif inI (As .i64 x6 (Hi .i64 x1 64)) (List.length x5) then
 bif inI x6 (List.length x0) then
 bif ltI (IntKind.wrap .u64 (Iw x1 64)) 0 then
 none
 else
 bif inI (As .i64 x6 (Hi .i64 x1 64)) (List.length x5) then
 bif ltI 0 (Iw x1 64) then
 bif inI (As .i64 (As .i64 x6 (Hi .i64 x1 64)) 1) (List.length (B6 x5 (As .i64 x6 (Hi .i64 x1 64)) (orI .u64 (Ak 0 x5 (As .i64 x6 (Hi .i64 x1 64))) (Fs .u64 (Ak 0 x0 x6) (IntKind.wrap .u64 (Iw x1 64)))))) then
 bif inI x6 (List.length x0) then
 bif ltI (IntKind.wrap .u64 (Bl .i64 64 (Iw x1 64))) 0 then
 none
 else
 bif inI (As .i64 (As .i64 x6 (Hi .i64 x1 64)) 1) (List.length (B6 x5 (As .i64 x6 (Hi .i64 x1 64)) (orI .u64 (Ak 0 x5 (As .i64 x6 (Hi .i64 x1 64))) (Fs .u64 (Ak 0 x0 x6) (IntKind.wrap .u64 (Iw x1 64)))))) then
 Kk F k0 n x0 x1 (B6 (B6 x5 (As .i64 x6 (Hi .i64 x1 64)) (orI .u64 (Ak 0 x5 (As .i64 x6 (Hi .i64 x1 64))) (Fs .u64 (Ak 0 x0 x6) (IntKind.wrap .u64 (Iw x1 64))))) (As .i64 (As .i64 x6 (Hi .i64 x1 64)) 1) (orI .u64 (Ak 0 (B6 x5 (As .i64 x6 (Hi .i64 x1 64)) (orI .u64 (Ak 0 x5 (As .i64 x6 (Hi .i64 x1 64))) (Fs .u64 (Ak 0 x0 x6) (IntKind.wrap .u64 (Iw x1 64))))) (As .i64 (As .i64 x6 (Hi .i64 x1 64)) 1)) (D6 .u64 (Ak 0 x0 x6) (IntKind.wrap .u64 (Bl .i64 64 (Iw x1 64)))))) (As .i64 x6 1)
 else
 none
 else
 none
 else
 none
 else
 Kk F k0 n x0 x1 (B6 x5 (As .i64 x6 (Hi .i64 x1 64)) (orI .u64 (Ak 0 x5 (As .i64 x6 (Hi .i64 x1 64))) (Fs .u64 (Ak 0 x0 x6) (IntKind.wrap .u64 (Iw x1 64))))) (As .i64 x6 1)
 else
 none
 else
 none
 else
 none
 else
 k0 x5
def Z5(F:Nat)(x0:qL)(x1:Int):Option (qL×Unit) :=
 bif Im (As .i64 (As .i64 (Au x0) (Hi .i64 x1 64)) 1) (As .i64 (As .i64 (Au x0) (Hi .i64 x1 64)) 1) 8 then
 Kk F (fun z32 =>
 (Kj F z32).bind fun r33 =>
 some (r33.1,())) F x0 x1 (Cc (As .i64 (As .i64 (Au x0) (Hi .i64 x1 64)) 1) (0:Int)) 0
 else
 none
def Fu(F:Nat){R:Type}(k0:Option R)(kret:Int→Option R):Nat→qL→qL→Int→Option R
 | 0,_,_,_=>none
 | n+1,x0,x1,x5 =>
 bif leI 0 x5 then
 bif inI x5 (List.length x0) then
 bif inI x5 (List.length x1) then
 bif ltI (Ak 0 x0 x5) (Ak 0 x1 x5) then
 kret (-1)
 else
 bif inI x5 (List.length x0) then
 bif inI x5 (List.length x1) then
 bif ltI (Ak 0 x1 x5) (Ak 0 x0 x5) then
 kret 1
 else
 Fu F k0 kret n x0 x1 (Bl .i64 x5 1)
 else
 none
 else
 none
 else
 none
 else
 none
 else
 k0
def Jp(F:Nat)(x0:qL)(x1:qL):Option (Int×Unit) :=
 bif not (eqI (Au x0) (Au x1)) then
 bif ltI (Au x0) (Au x1) then
 some ((-1),())
 else
 some (1,())
 else
 Fu F (
 some (0,())) (fun z17 =>
 some (z17,())) F x0 x1 (Bl .i64 (Au x0) 1)
def Kr(F:Nat){R:Type}(kn:qL→qL→Int→Int→Option R)(x1:qL)(x5:qL)(x6:Int)(x7:Int)(x8:Int):Option R :=
 bif inI x7 (List.length x5) then
 (Jl F (Ak 0 x5 x7) x8 x6).bind fun r8 =>
 bif inI x7 (List.length x5) then
 kn x1 (B6 x5 x7 r8.1) r8.2.1 x7
 else
 none
 else
 none
def Da(F:Nat){R:Type}(k0:qL→Option R):Nat→qL→qL→Int→Int→Option R
 | 0,_,_,_,_=>none
 | n+1,x1,x5,x6,x7 =>
 bif ltI x7 (Au x5) then
 bif ltI x7 (Au x1) then
 bif inI x7 (List.length x1) then
 Kr F (fun z10 z11 z12 z13 =>
 Da F k0 n z10 z11 z12 (As .i64 z13 1)) x1 x5 x6 x7 (Ak 0 x1 x7)
 else
 none
 else
 Kr F (fun z15 z16 z17 z18 =>
 Da F k0 n z15 z16 z17 (As .i64 z18 1)) x1 x5 x6 x7 0
 else
 k0 x5
def Pd(F:Nat)(x0:qL)(x1:qL):Option (qL×Unit) :=
 bif Bh (0+(List.length x0)) 8 then
 Da F (fun z20 =>
 (C2 F z20).bind fun r21 =>
 some (r21.1,())) F x1 ([]++x0) 0 0
 else
 none
def Oj(F:Nat){R:Type}(kn:qL→qL→Int→Int→Option R)(x1:qL)(x5:qL)(x6:Int)(x7:Int)(x8:Int):Option R :=
 bif inI x7 (List.length x5) then
 (Jl F (Ak 0 x5 x7) x8 x6).bind fun r8 =>
 bif inI x7 (List.length x5) then
 kn x1 (B6 x5 x7 r8.1) r8.2.1 x7
 else
 none
 else
 none
def Jq(F:Nat){R:Type}(k0:qL→qL→Option R):Nat→qL→qL→Int→Int→Option R
 | 0,_,_,_,_=>none
 | n+1,x1,x5,x6,x7 =>
 bif ltI x7 (Au x5) then
 bif ltI x7 (Au x1) then
 bif inI x7 (List.length x1) then
 Oj F (fun z10 z11 z12 z13 =>
 Jq F k0 n z10 z11 z12 (As .i64 z13 1)) x1 x5 x6 x7 (Ak 0 x1 x7)
 else
 none
 else
 Oj F (fun z15 z16 z17 z18 =>
 Jq F k0 n z15 z16 z17 (As .i64 z18 1)) x1 x5 x6 x7 0
 else
 k0 x1 x5
def Um(F:Nat)(x0:qL)(x1:qL):Option (qL×qL×Unit) :=
 bif Bh (0+(List.length x0)) 8 then
 Jq F (fun z20 z21 =>
 (C2 F z21).bind fun r22 =>
 some (z20,(r22.1,()))) F x1 ([]++x0) 0 0
 else
 none
def F6(F:Nat){R:Type}(k0:qL→Option R):Nat→qL→Int→Option R
 | 0,_,_=>none
 | n+1,x0,x3 =>
 bif ltI x3 (Au x0) then
 bif inI x3 (List.length x0) then
 bif inI x3 (List.length x0) then
 bif ltI (As .i64 x3 1) (Au (B6 x0 x3 (D6 .u64 (Ak 0 x0 x3) 1))) then
 bif inI x3 (List.length (B6 x0 x3 (D6 .u64 (Ak 0 x0 x3) 1))) then
 bif inI (As .i64 x3 1) (List.length (B6 x0 x3 (D6 .u64 (Ak 0 x0 x3) 1))) then
 bif inI x3 (List.length (B6 x0 x3 (D6 .u64 (Ak 0 x0 x3) 1))) then
 F6 F k0 n (B6 (B6 x0 x3 (D6 .u64 (Ak 0 x0 x3) 1)) x3 (orI .u64 (Ak 0 (B6 x0 x3 (D6 .u64 (Ak 0 x0 x3) 1)) x3) (Fs .u64 (Ak 0 (B6 x0 x3 (D6 .u64 (Ak 0 x0 x3) 1)) (As .i64 x3 1)) 63))) (As .i64 x3 1)
 else
 none
 else
 none
 else
 none
 else
 F6 F k0 n (B6 x0 x3 (D6 .u64 (Ak 0 x0 x3) 1)) (As .i64 x3 1)
 else
 none
 else
 none
 else
 k0 x0
def Qu(F:Nat)(x0:qL):Option (qL×Unit) :=
 F6 F (fun z17 =>
 (Kj F z17).bind fun r18 =>
 some (r18.1,())) F x0 0
def G8(F:Nat){R:Type}(k0:qL→Int→Option R):Nat→qL→qL→qL→Int→Int→Option R
 | 0,_,_,_,_,_=>none
 | n+1,x0,x1,x6,x7,x8 =>
 bif leI 0 x8 then
 bif inI x8 (List.length x0) then
 bif inI 0 (List.length x1) then
 (Qt F x7 (Ak 0 x0 x8) (Ak 0 x1 0)).bind fun r10 =>
 bif inI x8 (List.length x6) then
 G8 F k0 n x0 x1 (B6 x6 x8 r10.1) r10.2.1 (Bl .i64 x8 1)
 else
 none
 else
 none
 else
 none
 else
 k0 x6 x7
def Er(F:Nat){R:Type}(k2:qL→qL→Option R):Nat→qL→qL→qL→Int→Option R
 | 0,_,_,_,_=>none
 | n+1,x6,x9,x11,x12 =>
 bif leI 0 x12 then
 (Jp F x9 x11).bind fun r25 =>
 bif leI 0 r25.1 then
 (Um F x9 x11).bind fun r27 =>
 bif inI (Hi .i64 x12 64) (List.length x6) then
 bif ltI (IntKind.wrap .u64 (Iw x12 64)) 0 then
 none
 else
 bif inI (Hi .i64 x12 64) (List.length x6) then
 (Qu F r27.1).bind fun r35 =>
 Er F k2 n (B6 x6 (Hi .i64 x12 64) (orI .u64 (Ak 0 x6 (Hi .i64 x12 64)) (Fs .u64 1 (IntKind.wrap .u64 (Iw x12 64))))) r27.2.1 r35.1 (Bl .i64 x12 1)
 else
 none
 else
 none
 else
 (Qu F x11).bind fun r37 =>
 Er F k2 n x6 x9 r37.1 (Bl .i64 x12 1)
 else
 k2 x6 x9
def Ks(F:Nat)(x0:qL)(x1:qL):Option (qL×qL×Unit) :=
 bif Im (Au x0) (Au x0) 8 then
 bif eqI (Au x1) 1 then
 G8 F (fun z13 z14 =>
 (C2 F z13).bind fun r15 =>
 (C2 F [z14]).bind fun r16 =>
 some (r15.1,(r16.1,()))) F x0 x1 (Cc (Au x0) (0:Int)) 0 (Bl .i64 (Au x0) 1)
 else
 bif Bh (0+(List.length x0)) 8 then
 (C2 F ([]++x0)).bind fun r18 =>
 (O1 F r18.1).bind fun r19 =>
 (O1 F x1).bind fun r20 =>
 let x54v21:=Bl .i64 r19.1 r20.1
 bif ltI x54v21 0 then
 some ([],(r18.1,()))
 else
 (Z5 F x1 x54v21).bind fun r23 =>
 Er F (fun z39 z40 =>
 (C2 F z39).bind fun r41 =>
 some (r41.1,(z40,()))) F (Cc (Au x0) (0:Int)) r18.1 r23.1 x54v21
 else
 none
 else
 none
def K3(F:Nat){R:Type}(kn:qL→qL→Int→Int→Option R)(x1:qL)(x5:qL)(x6:Int)(x7:Int)(x8:Int):Option R :=
 bif inI x7 (List.length x5) then
 (Ft F (Ak 0 x5 x7) x8 x6).bind fun r11 =>
 bif inI x7 (List.length x5) then
 kn x1 (B6 x5 x7 r11.1) r11.2.1 x7
 else
 none
 else
 none
def E6(F:Nat){R:Type}(k0:qL→Int→Option R):Nat→qL→qL→Int→Int→Option R
 | 0,_,_,_,_=>none
 | n+1,x1,x5,x6,x7 =>
 bif ltI x7 (Au x5) then
 bif ltI x7 (Au x1) then
 bif inI x7 (List.length x1) then
 K3 F (fun z13 z14 z15 z16 =>
 E6 F k0 n z13 z14 z15 (As .i64 z16 1)) x1 x5 x6 x7 (Ak 0 x1 x7)
 else
 none
 else
 K3 F (fun z18 z19 z20 z21 =>
 E6 F k0 n z18 z19 z20 (As .i64 z21 1)) x1 x5 x6 x7 0
 else
 k0 x5 x6
def N1(F:Nat){R:Type}(kret:qL→Option R)(x0:qL)(x1:qL):Option R :=
 bif Bh (0+(List.length x0)) 8 then
 E6 F (fun z23 z24 =>
 bif Bh ((List.length z23)+1) 8 then
 (C2 F (z23++[z24])).bind fun r26 =>
 kret r26.1
 else
 none) F x1 ([]++x0) 0 0
 else
 none
def Tp(F:Nat)(x0:qL)(x1:qL):Option (qL×Unit) :=
 bif ltI (Au x0) (Au x1) then
 N1 F (fun z27 =>
 some (z27,())) x1 x0
 else
 N1 F (fun z28 =>
 some (z28,())) x0 x1
def Ht(F:Nat){R:Type}(k0:qW→qW→Option R):Nat→qL→qW→qW→Int→Option R
 | 0,_,_,_,_=>none
 | n+1,x1,x4,x6,x7 =>
 bif ltI x7 (Au x1) then
 bif inI x7 (List.length x1) then
 bif inI x7 4 then
 Ht F k0 n x1 x4 (x6.1,(B6 x6.2.1 x7 (Ak 0 x1 x7),x6.2.2)) (As .i64 x7 1)
 else
 none
 else
 none
 else
 k0 x4 x6
def Ok(F:Nat){R:Type}(kret:qW→Bool→Option R)(x1:qL)(x4:qW)(x6:qW):Option R :=
 Ht F (fun z10 z11 =>
 kret z11 true) F x1 x4 x6 0
def G9(F:Nat)(x0:Bool)(x1:qL):Option (qW×Bool×Unit) :=
 (C2 F x1).bind fun r1 =>
 bif ltI 4 (Au r1.1) then
 some ((false,([0,0,0,0],())),(false,()))
 else
 bif x0 then
 Ok F (fun z12 z13 =>
 some (z12,(z13,()))) r1.1 (false,([0,0,0,0],())) (ltI 0 (Au r1.1),([0,0,0,0],()))
 else
 Ok F (fun z14 z15 =>
 some (z14,(z15,()))) r1.1 (false,([0,0,0,0],())) (false,([0,0,0,0],()))
def K4(F:Nat){R:Type}(kn:qW→qW→qW→qW→qL→qL→Option R)(x2:qW)(x3:qW)(x4:qW)(x5:qW)(x7:qL)(x8:qL)(x32:Bool):Option R :=
 bif x32 then
 (Tp F x7 [1]).bind fun r10 =>
 (G1 F x3).bind fun r11 =>
 (Pd F r11.1 x8).bind fun r12 =>
 kn x2 x3 x4 x5 r10.1 r12.1
 else
 kn x2 x3 x4 x5 x7 x8
def K5(F:Nat){R:Type}(kret:qW→qW→Bool→Option R)(x2:qW)(x3:qW)(x4:qW)(x5:qW)(x7:qL)(x8:qL):Option R :=
 (G9 F (not (eqT .bool x2.1 x3.1)) x7).bind fun r20 =>
 bif not r20.2.1 then
 kret (false,([0,0,0,0],())) (false,([0,0,0,0],())) false
 else
 (G9 F false x8).bind fun r22 =>
 kret r20.1 r22.1 true
def Ed(F:Nat)(x0:qW)(x1:qW):Option (qW×qW×Bool×Unit) :=
 (Gl F x0).bind fun r1 =>
 (Gl F x1).bind fun r2 =>
 (C9 F r2.1).bind fun r3 =>
 bif eqI r3.1 0 then
 some ((false,([0,0,0,0],())),((false,([0,0,0,0],())),(false,())))
 else
 (G1 F r1.1).bind fun r5 =>
 (G1 F r2.1).bind fun r6 =>
 (Ks F r5.1 r6.1).bind fun r7 =>
 bif r1.1.1 then
 K4 F (fun z13 z14 z15 z16 z17 z18 =>
 K5 F (fun z23 z24 z25 =>
 some (z23,(z24,(z25,())))) z13 z14 z15 z16 z17 z18) r1.1 r2.1 (false,([0,0,0,0],())) (false,([0,0,0,0],())) r7.1 r7.2.1 (ltI 0 (Au r7.2.1))
 else
 K4 F (fun z26 z27 z28 z29 z30 z31 =>
 K5 F (fun z32 z33 z34 =>
 some (z32,(z33,(z34,())))) z26 z27 z28 z29 z30 z31) r1.1 r2.1 (false,([0,0,0,0],())) (false,([0,0,0,0],())) r7.1 r7.2.1 false
def I3(F:Nat){R:Type}(k2:qW→Int→Option R):Nat→qW→Int→Int→Option R
 | 0,_,_,_=>none
 | n+1,x4,x5,x7 =>
 bif not (eqI x7 0) then
 bif eqI x7 0 then
 none
 else
 I3 F k2 n x4 x7 (Iw x5 x7)
 else
 k2 x4 x5
def P0(F:Nat){R:Type}(kn:qW→qW→qW→Option R)(kret:qW→Option R)(x2:qW)(x3:qW)(x4:qW)(x5:Int)(x7:Int)(x28:Bool):Option R :=
 bif x28 then
 I3 F (fun z7 z8 =>
 (Ep F z8).bind fun r9 =>
 kret r9.1) F x4 x5 x7
 else
 kn x2 x3 x4
def P1(F:Nat){R:Type}(kn:qW→qW→qW→Option R)(x2:qW)(x3:qW)(x4:qW):Option R :=
 (Ed F x2 x3).bind fun r13 =>
 kn x3 r13.2.1 x4
def Hk(F:Nat){R:Type}(k0:qW→qW→Option R)(kret:qW→Option R):Nat→qW→qW→qW→Option R
 | 0,_,_,_=>none
 | n+1,x2,x3,x4 =>
 (C9 F x3).bind fun r1 =>
 bif not (eqI r1.1 0) then
 (E5 F x2).bind fun r3 =>
 (E5 F x3).bind fun r4 =>
 bif r3.2.1 then
 P0 F (fun z10 z11 z12 =>
 P1 F (fun z14 z15 z16 =>
 Hk F k0 kret n z14 z15 z16) z10 z11 z12) (fun z17 =>
 kret z17) x2 x3 x4 r3.1 r4.1 r4.2.1
 else
 P0 F (fun z18 z19 z20 =>
 P1 F (fun z21 z22 z23 =>
 Hk F k0 kret n z21 z22 z23) z18 z19 z20) (fun z24 =>
 kret z24) x2 x3 x4 r3.1 r4.1 false
 else
 k0 x2 x4
def Qv(F:Nat)(x0:qW)(x1:qW):Option (qW×Unit) :=
 Hk F (fun z25 z26 =>
 some (z25,())) (fun z27 =>
 some (z27,())) F x0 x1 (false,([0,0,0,0],()))
def F7(F:Nat)(x0:Int):Option (qW×Unit) :=
 bif ltI x0 0 then
 some ((true,([Bl .u64 0 (IntKind.wrap .u64 x0),0,0,0],())),())
 else
 some ((false,([IntKind.wrap .u64 x0,0,0,0],())),())
def Qw(F:Nat) :Option (qW×Unit) :=
 (F7 F 1).bind fun r1 =>
 some (r1.1,())
def Fk(F:Nat)(x0:qR):Option (Bool×Unit) :=
 (Hr F x0.1).bind fun r1 =>
 bif not r1.1 then
 some (false,())
 else
 (Hr F x0.2.1).bind fun r3 =>
 bif not r3.1 then
 some (false,())
 else
 (C9 F x0.2.1).bind fun r5 =>
 bif leI r5.1 0 then
 some (false,())
 else
 (Pc F x0.1).bind fun r7 =>
 bif not r7.1 then
 some (false,())
 else
 (Pc F x0.2.1).bind fun r9 =>
 bif not r9.1 then
 some (false,())
 else
 (N0 F x0.1).bind fun r11 =>
 (Qv F r11.1 x0.2.1).bind fun r12 =>
 (Qw F).bind fun r13 =>
 some (eqT (.pair .bool (.pair (.arr 4 (.int .u64)) .unit)) r12.1 r13.1,())
def Sl(F:Nat)(x0:qR):Option (qR×Unit) :=
 (Fk F x0).bind fun r1 =>
 bif not r1.1 then
 (Qw F).bind fun r3 =>
 some (((false,([0,0,0,0],())),(r3.1,())),())
 else
 some (x0,())
def Qx(F:Nat)(x0:Int)(x1:Int):Option (Int×Int×Unit) :=
 some (As .u64 (As .u64 (Iv .u64 (D6 .u64 x0 32) (D6 .u64 x1 32)) (D6 .u64 (As .u64 (Iv .u64 (D6 .u64 x0 32) (V4 .u64 x1 4294967295)) (D6 .u64 (Iv .u64 (V4 .u64 x0 4294967295) (V4 .u64 x1 4294967295)) 32)) 32)) (D6 .u64 (As .u64 (V4 .u64 (As .u64 (Iv .u64 (D6 .u64 x0 32) (V4 .u64 x1 4294967295)) (D6 .u64 (Iv .u64 (V4 .u64 x0 4294967295) (V4 .u64 x1 4294967295)) 32)) 4294967295) (Iv .u64 (V4 .u64 x0 4294967295) (D6 .u64 x1 32))) 32),(Iv .u64 x0 x1,()))
def I4(F:Nat){R:Type}(k2:qL→qL→qL→Int→Int→Option R):Nat→qL→qL→qL→Int→Int→Int→Option R
 | 0,_,_,_,_,_,_=>none
 | n+1,x0,x1,x5,x6,x7,x8 =>
 bif ltI x8 (Au x1) then
 bif inI x6 (List.length x0) then
 bif inI x8 (List.length x1) then
 (Qx F (Ak 0 x0 x6) (Ak 0 x1 x8)).bind fun r12 =>
 bif inI (As .i64 x6 x8) (List.length x5) then
 (Ft F r12.2.1 (Ak 0 x5 (As .i64 x6 x8)) 0).bind fun r15 =>
 (Ft F r15.1 x7 0).bind fun r17 =>
 bif inI (As .i64 x6 x8) (List.length x5) then
 I4 F k2 n x0 x1 (B6 x5 (As .i64 x6 x8) r17.1) x6 (As .u64 (As .u64 r12.1 r15.2.1) r17.2.1) (As .i64 x8 1)
 else
 none
 else
 none
 else
 none
 else
 none
 else
 k2 x0 x1 x5 x6 x7
def Kt(F:Nat){R:Type}(k0:qL→Option R):Nat→qL→qL→qL→Int→Option R
 | 0,_,_,_,_=>none
 | n+1,x0,x1,x5,x6 =>
 bif ltI x6 (Au x0) then
 I4 F (fun z22 z23 z24 z25 z26 =>
 bif inI (As .i64 z25 (Au z23)) (List.length z24) then
 Kt F k0 n z22 z23 (B6 z24 (As .i64 z25 (Au z23)) z26) (As .i64 z25 1)
 else
 none) F x0 x1 x5 x6 0 0
 else
 k0 x5
def Wq(F:Nat)(x0:qL)(x1:qL):Option (qL×Unit) :=
 bif Im (As .i64 (As .i64 (Au x0) (Au x1)) 1) (As .i64 (As .i64 (Au x0) (Au x1)) 1) 8 then
 Kt F (fun z31 =>
 (C2 F z31).bind fun r32 =>
 some (r32.1,())) F x0 x1 (Cc (As .i64 (As .i64 (Au x0) (Au x1)) 1) (0:Int)) 0
 else
 none
def Ey(F:Nat)(x0:qW)(x1:qW):Option (qW×Bool×Unit) :=
 (Gl F x0).bind fun r1 =>
 (Gl F x1).bind fun r2 =>
 (G1 F r1.1).bind fun r4 =>
 (G1 F r2.1).bind fun r5 =>
 (Wq F r4.1 r5.1).bind fun r6 =>
 (G9 F (not (eqT .bool r1.1.1 r2.1.1)) r6.1).bind fun r7 =>
 some (r7.1,(r7.2.1,()))
def F8(F:Nat)(x0:qW)(x1:qW):Option (Int×Unit) :=
 (C9 F x0).bind fun r1 =>
 (C9 F x1).bind fun r2 =>
 bif not (eqI r1.1 r2.1) then
 bif ltI r1.1 r2.1 then
 some ((-1),())
 else
 some (1,())
 else
 (G1 F x0).bind fun r5 =>
 (G1 F x1).bind fun r6 =>
 (Jp F r5.1 r6.1).bind fun r7 =>
 some (Iv .i64 r1.1 r7.1,())
def Dh(F:Nat)(x0:qR)(x1:qR):Option (Int×Unit) :=
 (Sl F x0).bind fun r1 =>
 (Sl F x1).bind fun r2 =>
 (Ey F r1.1.1 r2.1.2.1).bind fun r3 =>
 (Ey F r2.1.1 r1.1.2.1).bind fun r4 =>
 (F8 F r3.1 r4.1).bind fun r5 =>
 some (r5.1,())
def I5(F:Nat)(x0:qCO):Option (Bool×Unit) :=
 bif x0.1 then
 (Ki F).bind fun r1 =>
 some (eqT (.pair .bool (.pair (.pair (.pair .bool (.pair (.arr 4 (.int .u64)) .unit)) (.pair (.pair .bool (.pair (.arr 4 (.int .u64)) .unit)) .unit)) (.pair (.pair (.pair .bool (.pair (.arr 4 (.int .u64)) .unit)) (.pair (.pair .bool (.pair (.arr 4 (.int .u64)) .unit)) .unit)) .unit))) x0 r1.1,())
 else
 (Fk F x0.2.1).bind fun r3 =>
 bif r3.1 then
 (Fk F x0.2.2.1).bind fun r4 =>
 bif r4.1 then
 (Dh F x0.2.1 x0.2.2.1).bind fun r5 =>
 some (leI r5.1 0,())
 else
 some (false,())
 else
 some (false,())
def Pe(F:Nat)(x0:qPS):Option (Bool×Unit) :=
 (G6 F x0.1).bind fun r1 =>
 bif not r1.1 then
 some (false,())
 else
 bif ltI x0.2.1 0 then
 some (false,())
 else
 bif ltI 1073741824 x0.2.1 then
 some (false,())
 else
 bif eqI x0.2.2.1 0 then
 some (eqT (.pair (.int .i64) (.pair (.int .i64) (.pair (.int .i64) (.pair (.pair (.int .i64) (.pair (.int .i64) .unit)) (.pair (.int .i64) (.pair (.int .i64) (.pair (.pair .bool (.pair (.pair (.pair .bool (.pair (.arr 4 (.int .u64)) .unit)) (.pair (.pair .bool (.pair (.arr 4 (.int .u64)) .unit)) .unit)) (.pair (.pair (.pair .bool (.pair (.arr 4 (.int .u64)) .unit)) (.pair (.pair .bool (.pair (.arr 4 (.int .u64)) .unit)) .unit)) .unit))) .unit))))))) x0 (x0.1,(x0.2.1,(0,((0,(0,())),(0,(0,((false,(((false,([0,0,0,0],())),((false,([0,0,0,0],())),())),(((false,([0,0,0,0],())),((false,([0,0,0,0],())),())),()))),()))))))),())
 else
 (Qs F x0.2.2.2.1.2.1 x0.1).bind fun r7 =>
 bif not (eqI x0.2.2.2.2.2.1 r7.1) then
 some (false,())
 else
 bif eqI x0.2.2.1 1 then
 bif eqI x0.2.2.2.2.1 x0.2.2.2.1.1 then
 (Ki F).bind fun r11 =>
 some (eqT (.pair .bool (.pair (.pair (.pair .bool (.pair (.arr 4 (.int .u64)) .unit)) (.pair (.pair .bool (.pair (.arr 4 (.int .u64)) .unit)) .unit)) (.pair (.pair (.pair .bool (.pair (.arr 4 (.int .u64)) .unit)) (.pair (.pair .bool (.pair (.arr 4 (.int .u64)) .unit)) .unit)) .unit))) x0.2.2.2.2.2.2.1 r11.1,())
 else
 some (false,())
 else
 bif ltI 1 x0.2.2.1 then
 bif leI x0.2.2.1 1073741824 then
 bif ltI x0.2.2.2.1.1 x0.2.2.2.2.1 then
 (I5 F x0.2.2.2.2.2.2.1).bind fun r16 =>
 bif r16.1 then
 some (not x0.2.2.2.2.2.2.1.1,())
 else
 some (false,())
 else
 some (false,())
 else
 some (false,())
 else
 some (false,())
def Pf(F:Nat)(x0:qPS)(x1:qSM):Option (qPS×Unit) :=
 (Qs F x1.2.1 x0.1).bind fun r2 =>
 (Ki F).bind fun r3 =>
 some ((x0.1,(As .i64 x0.2.1 x0.2.2.1,(1,(x1,(x1.1,(r2.1,(r3.1,()))))))),())
def Un(F:Nat)(x0:Int)(x1:Int):Option (qW×Unit) :=
 (F7 F x0).bind fun r1 =>
 (Ul F x1).bind fun r2 =>
 (F7 F r2.1).bind fun r3 =>
 (Ey F r1.1 r3.1).bind fun r4 =>
 some (r4.1,())
def Nn(F:Nat)(x0:Int)(x1:Int):Option (Int×Unit) :=
 bif ltI x0 x1 then
 some (Bl .u64 (IntKind.wrap .u64 x1) (IntKind.wrap .u64 x0),())
 else
 some (Bl .u64 (IntKind.wrap .u64 x0) (IntKind.wrap .u64 x1),())
def K6(F:Nat)(x0:qW):Option (qW×Unit) :=
 (G1 F x0).bind fun r2 =>
 (G9 F (not x0.1) r2.1).bind fun r3 =>
 some (r3.1,())
def Ha(F:Nat)(x0:qW)(x1:qW):Option (qW×Bool×Unit) :=
 (Gl F x0).bind fun r1 =>
 (Gl F x1).bind fun r2 =>
 (G1 F r1.1).bind fun r3 =>
 (G1 F r2.1).bind fun r4 =>
 bif eqT .bool r1.1.1 r2.1.1 then
 (Tp F r3.1 r4.1).bind fun r6 =>
 (G9 F r1.1.1 r6.1).bind fun r7 =>
 some (r7.1,(r7.2.1,()))
 else
 (Jp F r3.1 r4.1).bind fun r8 =>
 bif leI 0 r8.1 then
 (Pd F r3.1 r4.1).bind fun r10 =>
 (G9 F r1.1.1 r10.1).bind fun r11 =>
 some (r11.1,(r11.2.1,()))
 else
 (Pd F r4.1 r3.1).bind fun r12 =>
 (G9 F r2.1.1 r12.1).bind fun r13 =>
 some (r13.1,(r13.2.1,()))
def K7(F:Nat)(x0:qW)(x1:qW):Option (qW×Bool×Unit) :=
 (K6 F x1).bind fun r1 =>
 (Ha F x0 r1.1).bind fun r2 =>
 some (r2.1,(r2.2.1,()))
def K8(F:Nat){R:Type}(kret:qR→Bool→Option R)(x4:qR)(x7:qW)(x10:qW):Option R :=
 (Fk F (x7,(x10,()))).bind fun r16 =>
 bif not r16.1 then
 kret ((false,([0,0,0,0],())),((false,([0,0,0,0],())),())) false
 else
 kret (x7,(x10,())) true
def Qy(F:Nat)(x0:qW)(x1:qW):Option (qR×Bool×Unit) :=
 (Hr F x0).bind fun r1 =>
 bif not r1.1 then
 some (((false,([0,0,0,0],())),((false,([0,0,0,0],())),())),(false,()))
 else
 (Hr F x1).bind fun r3 =>
 bif not r3.1 then
 some (((false,([0,0,0,0],())),((false,([0,0,0,0],())),())),(false,()))
 else
 (C9 F x1).bind fun r5 =>
 bif eqI r5.1 0 then
 some (((false,([0,0,0,0],())),((false,([0,0,0,0],())),())),(false,()))
 else
 (N0 F x0).bind fun r7 =>
 (N0 F x1).bind fun r8 =>
 (Qv F r7.1 r8.1).bind fun r9 =>
 (N0 F x0).bind fun r10 =>
 (Ed F r10.1 r9.1).bind fun r11 =>
 (N0 F x1).bind fun r12 =>
 (Ed F r12.1 r9.1).bind fun r13 =>
 bif not (eqT .bool x0.1 x1.1) then
 (K6 F r11.1).bind fun r15 =>
 K8 F (fun z18 z19 =>
 some (z18,(z19,()))) ((false,([0,0,0,0],())),((false,([0,0,0,0],())),())) r15.1 r13.1
 else
 K8 F (fun z20 z21 =>
 some (z20,(z21,()))) ((false,([0,0,0,0],())),((false,([0,0,0,0],())),())) r11.1 r13.1
def Ol(F:Nat)(x0:qW)(x1:Int)(x2:Int)(x3:Int):Option (qCO×Bool×Unit) :=
 (Hr F x0).bind fun r1 =>
 bif not r1.1 then
 some ((false,(((false,([0,0,0,0],())),((false,([0,0,0,0],())),())),(((false,([0,0,0,0],())),((false,([0,0,0,0],())),())),()))),(false,()))
 else
 (F8 F (false,x0.2) (false,([0,4,0,0],()))).bind fun r3 =>
 bif leI 0 r3.1 then
 some ((false,(((false,([0,0,0,0],())),((false,([0,0,0,0],())),())),(((false,([0,0,0,0],())),((false,([0,0,0,0],())),())),()))),(false,()))
 else
 (G6 F x2).bind fun r5 =>
 bif not r5.1 then
 some ((false,(((false,([0,0,0,0],())),((false,([0,0,0,0],())),())),(((false,([0,0,0,0],())),((false,([0,0,0,0],())),())),()))),(false,()))
 else
 bif eqI x3 0 then
 some ((false,(((false,([0,0,0,0],())),((false,([0,0,0,0],())),())),(((false,([0,0,0,0],())),((false,([0,0,0,0],())),())),()))),(false,()))
 else
 (F7 F x1).bind fun r8 =>
 (K7 F r8.1 x0).bind fun r9 =>
 (F7 F x2).bind fun r10 =>
 (K7 F r9.1 r10.1).bind fun r11 =>
 (F7 F x2).bind fun r12 =>
 (Ha F r9.1 r12.1).bind fun r13 =>
 (Ep F x3).bind fun r14 =>
 (Qy F r11.1 r14.1).bind fun r15 =>
 (Ep F x3).bind fun r16 =>
 (Qy F r13.1 r16.1).bind fun r17 =>
 some ((false,(r15.1,(r17.1,()))),(true,()))
def J4(F:Nat){R:Type}(kret:qCO→Bool→Option R)(x2:qCO)(x4:qCO):Option R :=
 (Dh F x2.2.1 x2.2.2.1).bind fun r9 =>
 bif ltI 0 r9.1 then
 kret (false,(((false,([0,0,0,0],())),((false,([0,0,0,0],())),())),(((false,([0,0,0,0],())),((false,([0,0,0,0],())),())),()))) false
 else
 kret x2 true
def K9(F:Nat){R:Type}(kret:qCO→Bool→Option R)(x2:qCO)(x3:qCO)(x4:qCO):Option R :=
 (Dh F x3.2.2.1 x2.2.2.1).bind fun r7 =>
 bif ltI r7.1 0 then
 J4 F (fun z11 z12 =>
 kret z11 z12) (x2.1,(x2.2.1,(x3.2.2.1,x2.2.2.2))) x4
 else
 J4 F (fun z13 z14 =>
 kret z13 z14) x2 x4
def Qz(F:Nat)(x0:qCO)(x1:qCO):Option (qCO×Bool×Unit) :=
 (I5 F x0).bind fun r1 =>
 bif not r1.1 then
 some ((false,(((false,([0,0,0,0],())),((false,([0,0,0,0],())),())),(((false,([0,0,0,0],())),((false,([0,0,0,0],())),())),()))),(false,()))
 else
 (I5 F x1).bind fun r3 =>
 bif not r3.1 then
 some ((false,(((false,([0,0,0,0],())),((false,([0,0,0,0],())),())),(((false,([0,0,0,0],())),((false,([0,0,0,0],())),())),()))),(false,()))
 else
 bif x0.1 then
 some (x1,(true,()))
 else
 bif x1.1 then
 some (x0,(true,()))
 else
 (Dh F x1.2.1 x0.2.1).bind fun r5 =>
 bif ltI 0 r5.1 then
 K9 F (fun z15 z16 =>
 some (z15,(z16,()))) (x0.1,(x1.2.1,x0.2.2)) x1 (false,(((false,([0,0,0,0],())),((false,([0,0,0,0],())),())),(((false,([0,0,0,0],())),((false,([0,0,0,0],())),())),())))
 else
 K9 F (fun z17 z18 =>
 some (z17,(z18,()))) x0 x1 (false,(((false,([0,0,0,0],())),((false,([0,0,0,0],())),())),(((false,([0,0,0,0],())),((false,([0,0,0,0],())),())),())))
def N2(F:Nat)(x0:qPS):Option ((List qPI)×Int×Unit) :=
 (Pe F x0).bind fun r1 =>
 bif not r1.1 then
 some ([],(1,()))
 else
 bif eqI x0.2.2.1 0 then
 some ([],(0,()))
 else
 some ([(x0.2.1,(x0.2.2.1,(x0.2.2.2.2.2.1,(x0.2.2.2.2.2.2.1,()))))],(0,()))
def La(F:Nat){R:Type}(kret:qPS→(List qPI)→Int→Option R)(x2:qPS)(x3:qSM)(x4:qPS):Option R :=
 bif leI 1073741824 (As .i64 x2.2.1 x2.2.2.1) then
 kret (0,(0,(0,((0,(0,())),(0,(0,((false,(((false,([0,0,0,0],())),((false,([0,0,0,0],())),())),(((false,([0,0,0,0],())),((false,([0,0,0,0],())),())),()))),()))))))) [] 3
 else
 bif eqI x2.2.2.1 0 then
 (Pf F x2 x3).bind fun r8 =>
 kret r8.1 [] 0
 else
 (Un F x2.2.2.2.2.2.1 x2.1).bind fun r9 =>
 (Nn F x3.1 x2.2.2.2.1.1).bind fun r10 =>
 (Ol F r9.1 x3.2.1 x2.1 r10.1).bind fun r11 =>
 (Qz F x2.2.2.2.2.2.2.1 r11.1).bind fun r12 =>
 bif not r12.2.1 then
 (N2 F x2).bind fun r14 =>
 (Pf F x2 x3).bind fun r15 =>
 kret r15.1 r14.1 0
 else
 kret (x2.1,(x2.2.1,(As .i64 x2.2.2.1 1,(x2.2.2.2.1,(x3.1,(x2.2.2.2.2.2.1,(r12.1,x2.2.2.2.2.2.2.2))))))) [] 0
def Uo(F:Nat)(x0:qPS)(x1:qSM):Option (qPS×(List qPI)×Int×Unit) :=
 (Pe F x0).bind fun r1 =>
 bif not r1.1 then
 some ((0,(0,(0,((0,(0,())),(0,(0,((false,(((false,([0,0,0,0],())),((false,([0,0,0,0],())),())),(((false,([0,0,0,0],())),((false,([0,0,0,0],())),())),()))),()))))))),([],(1,())))
 else
 bif ltI 0 x0.2.2.1 then
 bif leI x1.1 x0.2.2.2.2.1 then
 some ((0,(0,(0,((0,(0,())),(0,(0,((false,(((false,([0,0,0,0],())),((false,([0,0,0,0],())),())),(((false,([0,0,0,0],())),((false,([0,0,0,0],())),())),()))),()))))))),([],(7,())))
 else
 La F (fun z17 z18 z19 =>
 some (z17,(z18,(z19,())))) x0 x1 (0,(0,(0,((0,(0,())),(0,(0,((false,(((false,([0,0,0,0],())),((false,([0,0,0,0],())),())),(((false,([0,0,0,0],())),((false,([0,0,0,0],())),())),()))),())))))))
 else
 La F (fun z20 z21 z22 =>
 some (z20,(z21,(z22,())))) x0 x1 (0,(0,(0,((0,(0,())),(0,(0,((false,(((false,([0,0,0,0],())),((false,([0,0,0,0],())),())),(((false,([0,0,0,0],())),((false,([0,0,0,0],())),())),()))),())))))))
def Jr(F:Nat){R:Type}(k0:qPS→(List qPI)→Option R):Nat→(List qSM)→qPS→(List qPI)→Int→Option R
 | 0,_,_,_,_=>none
 | n+1,x0,x6,x8,x9 =>
 bif ltI x9 (Au x0) then
 bif inI x9 (List.length x0) then
 (Uo F x6 (Ak (0,(0,())) x0 x9)).bind fun r10 =>
 bif Bh ((List.length x8)+(List.length r10.2.1)) 192 then
 Jr F k0 n x0 r10.1 (x8++r10.2.1) (As .i64 x9 1)
 else
 none
 else
 none
 else
 k0 x6 x8
def Wr(F:Nat)(x0:(List qSM))(x1:Int):Option ((List qPI)×Int×Unit) :=
 (Si F x1).bind fun r1 =>
 bif not (eqI r1.2.1 0) then
 some ([],(r1.2.1,()))
 else
 (Sk F x0).bind fun r3 =>
 bif not (eqI r3.1 0) then
 some ([],(7,()))
 else
 bif ltI 1073741824 (Au x0) then
 some ([],(3,()))
 else
 Jr F (fun z13 z14 =>
 (N2 F z13).bind fun r15 =>
 bif Bh ((List.length z14)+(List.length r15.1)) 192 then
 some ((z14++r15.1),(0,()))
 else
 none) F x0 r1.1 [] 0
def P2(F:Nat)(x0:qPI)(x1:qPI):Option (Bool×Unit) :=
 bif not (eqI x0.2.2.1 x1.2.2.1) then
 some (ltI x0.2.2.1 x1.2.2.1,())
 else
 bif not (eqT .bool x0.2.2.2.1.1 x1.2.2.2.1.1) then
 some (x0.2.2.2.1.1,())
 else
 bif not x0.2.2.2.1.1 then
 (Dh F x0.2.2.2.1.2.1 x1.2.2.2.1.2.1).bind fun r5 =>
 bif not (eqI r5.1 0) then
 some (ltI r5.1 0,())
 else
 (Dh F x0.2.2.2.1.2.2.1 x1.2.2.2.1.2.2.1).bind fun r8 =>
 bif not (eqI r8.1 0) then
 some (ltI r8.1 0,())
 else
 some (ltI x0.1 x1.1,())
 else
 some (ltI x0.1 x1.1,())
def Cq(F:Nat){R:Type}(k0:Int→qL→Bool→Option R):Nat→qL→Int→qL→Bool→Int→Option R
 | 0,_,_,_,_,_=>none
 | n+1,x0,x1,x5,x6,x7 =>
 bif ltI x7 (Au x0) then
 bif not x6 then
 bif inI x7 (List.length x0) then
 bif ltI x1 (Ak 0 x0 x7) then
 bif Bh ((List.length x5)+1) 8 then
 bif inI x7 (List.length x0) then
 bif Bh ((List.length (x5++[x1]))+1) 8 then
 Cq F k0 n x0 x1 ((x5++[x1])++[Ak 0 x0 x7]) true (As .i64 x7 1)
 else
 none
 else
 none
 else
 none
 else
 bif inI x7 (List.length x0) then
 bif Bh ((List.length x5)+1) 8 then
 Cq F k0 n x0 x1 (x5++[Ak 0 x0 x7]) x6 (As .i64 x7 1)
 else
 none
 else
 none
 else
 none
 else
 bif inI x7 (List.length x0) then
 bif Bh ((List.length x5)+1) 8 then
 Cq F k0 n x0 x1 (x5++[Ak 0 x0 x7]) x6 (As .i64 x7 1)
 else
 none
 else
 none
 else
 k0 x1 x5 x6
def P3(F:Nat)(x0:qL)(x1:Int):Option (qL×Unit) :=
 Cq F (fun z16 z17 z18 =>
 bif not z18 then
 bif Bh ((List.length z17)+1) 8 then
 some ((z17++[z16]),())
 else
 none
 else
 some (z17,())) F x0 x1 [] false 0
def Sn(F:Nat)(x0:Int):Option (qR×Unit) :=
 (F7 F x0).bind fun r1 =>
 (Qw F).bind fun r2 =>
 some ((r1.1,(r2.1,())),())
def B1:Nat→Nat→qW→qW→qW→qW→Option (qW×qW×Unit)
 | 0,_,_,_,_,_=>none
 | n+1,F,x0,x1,x2,x3 =>
 (Ed F x0 x1).bind fun r1 =>
 (C9 F r1.2.1).bind fun r2 =>
 bif not (eqI r2.1 0) then
 (F7 F 1).bind fun r4 =>
 (Ha F r1.1 r4.1).bind fun r5 =>
 (Ey F r5.1 x3).bind fun r6 =>
 (F8 F r6.1 x2).bind fun r7 =>
 bif leI r7.1 0 then
 (F7 F 1).bind fun r9 =>
 some (r5.1,(r9.1,()))
 else
 (Ed F x0 x1).bind fun r10 =>
 (Ey F r10.1 x3).bind fun r11 =>
 (K7 F x2 r11.1).bind fun r12 =>
 ((B1 n) F x3 r12.1 x1 r10.2.1).bind fun r13 =>
 (Ey F r10.1 r13.1).bind fun r14 =>
 (Ha F r14.1 r13.2.1).bind fun r15 =>
 some (r15.1,(r13.1,()))
 else
 (Ey F r1.1 x3).bind fun r16 =>
 (F8 F r16.1 x2).bind fun r17 =>
 bif leI r17.1 0 then
 (F7 F 1).bind fun r19 =>
 some (r1.1,(r19.1,()))
 else
 (Ed F x0 x1).bind fun r20 =>
 (Ey F r20.1 x3).bind fun r21 =>
 (K7 F x2 r21.1).bind fun r22 =>
 ((B1 n) F x3 r22.1 x1 r20.2.1).bind fun r23 =>
 (Ey F r20.1 r23.1).bind fun r24 =>
 (Ha F r24.1 r23.2.1).bind fun r25 =>
 some (r25.1,(r23.1,()))
def J5(F:Nat)(x0:qW)(x1:qW)(x2:qW)(x3:qW):Option (qW×qW×Unit) :=
 B1 F F x0 x1 x2 x3
def H3(F:Nat){R:Type}(kn:qR→qR→qR→Option R)(kret:qR→Bool→Option R)(x2:qR)(x3:qR)(x4:qR)(x36:Bool):Option R :=
 bif x36 then
 (Sn F 0).bind fun r11 =>
 kret r11.1 true
 else
 kn x2 x3 x4
def H4(F:Nat){R:Type}(kret:qR→Bool→Option R)(x2:qR)(x3:qR)(x4:qR):Option R :=
 (C9 F x3.1).bind fun r15 =>
 bif ltI r15.1 0 then
 (K6 F x3.1).bind fun r17 =>
 (K6 F x2.1).bind fun r18 =>
 (J5 F r17.1 x3.2.1 r18.1 x2.2.1).bind fun r19 =>
 (K6 F r19.1).bind fun r20 =>
 kret (r20.1,(r19.2.1,())) true
 else
 (J5 F x2.1 x2.2.1 x3.1 x3.2.1).bind fun r21 =>
 kret (r21.1,(r21.2.1,())) true
def Om(F:Nat)(x0:qR)(x1:qR):Option (qR×Bool×Unit) :=
 (Fk F x0).bind fun r1 =>
 bif not r1.1 then
 some (((false,([0,0,0,0],())),((false,([0,0,0,0],())),())),(false,()))
 else
 (Fk F x1).bind fun r3 =>
 bif not r3.1 then
 some (((false,([0,0,0,0],())),((false,([0,0,0,0],())),())),(false,()))
 else
 (Dh F x0 x1).bind fun r5 =>
 bif ltI 0 r5.1 then
 some (((false,([0,0,0,0],())),((false,([0,0,0,0],())),())),(false,()))
 else
 (C9 F x0.1).bind fun r7 =>
 bif leI r7.1 0 then
 (C9 F x1.1).bind fun r9 =>
 H3 F (fun z12 z13 z14 =>
 H4 F (fun z22 z23 =>
 some (z22,(z23,()))) z12 z13 z14) (fun z24 z25 =>
 some (z24,(z25,()))) x0 x1 ((false,([0,0,0,0],())),((false,([0,0,0,0],())),())) (leI 0 r9.1)
 else
 H3 F (fun z26 z27 z28 =>
 H4 F (fun z29 z30 =>
 some (z29,(z30,()))) z26 z27 z28) (fun z31 z32 =>
 some (z31,(z32,()))) x0 x1 ((false,([0,0,0,0],())),((false,([0,0,0,0],())),())) false
def N3(F:Nat)(x0:qCO):Option (qR×Unit) :=
 (I5 F x0).bind fun r1 =>
 bif not r1.1 then
 some (((false,([0,0,0,0],())),((false,([0,0,0,0],())),())),())
 else
 bif x0.1 then
 (Sn F 0).bind fun r3 =>
 some (r3.1,())
 else
 (Om F x0.2.1 x0.2.2.1).bind fun r4 =>
 some (r4.1,())
def Hu(F:Nat){R:Type}(k2:(List qPI)→Int→Option R)(kret:(List qG)→Int→Option R):Nat→(List qPI)→Int→Int→Option R
 | 0,_,_,_=>none
 | n+1,x0,x4,x5 =>
 bif ltI x5 x4 then
 bif inI x5 (List.length x0) then
 bif inI x4 (List.length x0) then
 bif eqI (Ak (0,(0,(0,((false,(((false,([0,0,0,0],())),((false,([0,0,0,0],())),())),(((false,([0,0,0,0],())),((false,([0,0,0,0],())),())),()))),())))) x0 x5).1 (Ak (0,(0,(0,((false,(((false,([0,0,0,0],())),((false,([0,0,0,0],())),())),(((false,([0,0,0,0],())),((false,([0,0,0,0],())),())),()))),())))) x0 x4).1 then
 kret [] 1
 else
 Hu F k2 kret n x0 x4 (As .i64 x5 1)
 else
 none
 else
 none
 else
 k2 x0 x4
def F9(F:Nat){R:Type}(k0:(List qPI)→Option R)(kret:(List qG)→Int→Option R):Nat→(List qPI)→Int→Option R
 | 0,_,_=>none
 | n+1,x0,x4 =>
 bif ltI x4 (Au x0) then
 bif inI x4 (List.length x0) then
 (I5 F (Ak (0,(0,(0,((false,(((false,([0,0,0,0],())),((false,([0,0,0,0],())),())),(((false,([0,0,0,0],())),((false,([0,0,0,0],())),())),()))),())))) x0 x4).2.2.2.1).bind fun r4 =>
 bif not r4.1 then
 kret [] 1
 else
 bif inI x4 (List.length x0) then
 bif ltI (Ak (0,(0,(0,((false,(((false,([0,0,0,0],())),((false,([0,0,0,0],())),())),(((false,([0,0,0,0],())),((false,([0,0,0,0],())),())),()))),())))) x0 x4).1 0 then
 kret [] 1
 else
 Hu F (fun z13 z14 =>
 F9 F k0 kret n z13 (As .i64 z14 1)) (fun z16 z17 =>
 kret z16 z17) F x0 x4 0
 else
 none
 else
 none
 else
 k0 x0
def Gq(F:Nat){R:Type}(k6:(List qPI)→Int→Option R):Nat→(List qPI)→Int→Int→Option R
 | 0,_,_,_=>none
 | n+1,x0,x6,x7 =>
 bif ltI 0 x7 then
 bif inI x7 (List.length x0) then
 bif inI (Bl .i64 x7 1) (List.length x0) then
 (P2 F (Ak (0,(0,(0,((false,(((false,([0,0,0,0],())),((false,([0,0,0,0],())),())),(((false,([0,0,0,0],())),((false,([0,0,0,0],())),())),()))),())))) x0 x7) (Ak (0,(0,(0,((false,(((false,([0,0,0,0],())),((false,([0,0,0,0],())),())),(((false,([0,0,0,0],())),((false,([0,0,0,0],())),())),()))),())))) x0 (Bl .i64 x7 1))).bind fun r26 =>
 bif r26.1 then
 bif inI (Bl .i64 x7 1) (List.length x0) then
 let x86v29:=Ak (0,(0,(0,((false,(((false,([0,0,0,0],())),((false,([0,0,0,0],())),())),(((false,([0,0,0,0],())),((false,([0,0,0,0],())),())),()))),())))) x0 (Bl .i64 x7 1)
 bif inI x7 (List.length x0) then
 bif inI x7 (List.length x0) then
 bif inI (Bl .i64 x7 1) (List.length (B6 x0 x7 x86v29)) then
 Gq F k6 n (B6 (B6 x0 x7 x86v29) (Bl .i64 x7 1) (Ak (0,(0,(0,((false,(((false,([0,0,0,0],())),((false,([0,0,0,0],())),())),(((false,([0,0,0,0],())),((false,([0,0,0,0],())),())),()))),())))) x0 x7)) x6 (Bl .i64 x7 1)
 else
 none
 else
 none
 else
 none
 else
 none
 else
 k6 x0 x6
 else
 none
 else
 none
 else
 k6 x0 x6
def E7(F:Nat){R:Type}(k4:(List qPI)→Option R):Nat→(List qPI)→Int→Option R
 | 0,_,_=>none
 | n+1,x0,x6 =>
 bif ltI x6 (Au x0) then
 Gq F (fun z34 z35 =>
 E7 F k4 n z34 (As .i64 z35 1)) F x0 x6 x6
 else
 k4 x0
def E8(F:Nat){R:Type}(k9:(List qPI)→(List qG)→qCO→Int→Option R)(kn:(List qPI)→(List qG)→qCO→Int→Option R)(x0:(List qPI))(x8:(List qG))(x9:qCO)(x10:Int)(x11:qCO)(x13:Int)(x130:Bool):Option R :=
 bif x130 then
 bif inI x13 (List.length x8) then
 bif inI x10 (List.length x0) then
 (P3 F (Ak (0,(((false,([0,0,0,0],())),((false,([0,0,0,0],())),())),([],()))) x8 x13).2.2.1 (Ak (0,(0,(0,((false,(((false,([0,0,0,0],())),((false,([0,0,0,0],())),())),(((false,([0,0,0,0],())),((false,([0,0,0,0],())),())),()))),())))) x0 x10).1).bind fun r50 =>
 bif inI x13 (List.length x8) then
 let x8v51:=B6 x8 x13 ((Ak (0,(((false,([0,0,0,0],())),((false,([0,0,0,0],())),())),([],()))) x8 x13).1,((Ak (0,(((false,([0,0,0,0],())),((false,([0,0,0,0],())),())),([],()))) x8 x13).2.1,(r50.1,(Ak (0,(((false,([0,0,0,0],())),((false,([0,0,0,0],())),())),([],()))) x8 x13).2.2.2)))
 (N3 F x11).bind fun r52 =>
 bif inI x13 (List.length x8v51) then
 k9 x0 (B6 x8v51 x13 ((Ak (0,(((false,([0,0,0,0],())),((false,([0,0,0,0],())),())),([],()))) x8v51 x13).1,(r52.1,(Ak (0,(((false,([0,0,0,0],())),((false,([0,0,0,0],())),())),([],()))) x8v51 x13).2.2))) x11 x10
 else
 none
 else
 none
 else
 none
 else
 none
 else
 kn x0 x8 x9 x10
def Ib(F:Nat){R:Type}(kn:(List qPI)→(List qG)→qCO→Int→Option R)(x0:(List qPI))(x8:(List qG))(x9:qCO)(x10:Int):Option R :=
 bif inI x10 (List.length x0) then
 let x157v63:=(Ak (0,(0,(0,((false,(((false,([0,0,0,0],())),((false,([0,0,0,0],())),())),(((false,([0,0,0,0],())),((false,([0,0,0,0],())),())),()))),())))) x0 x10).2.2.2.1
 bif inI x10 (List.length x0) then
 (N3 F x157v63).bind fun r65 =>
 bif inI x10 (List.length x0) then
 bif Bh ((List.length x8)+1) 112 then
 kn x0 (x8++[((Ak (0,(0,(0,((false,(((false,([0,0,0,0],())),((false,([0,0,0,0],())),())),(((false,([0,0,0,0],())),((false,([0,0,0,0],())),())),()))),())))) x0 x10).2.2.1,(r65.1,([(Ak (0,(0,(0,((false,(((false,([0,0,0,0],())),((false,([0,0,0,0],())),())),(((false,([0,0,0,0],())),((false,([0,0,0,0],())),())),()))),())))) x0 x10).1],())))]) x157v63 x10
 else
 none
 else
 none
 else
 none
 else
 none
def Bx(F:Nat){R:Type}(k8:(List qG)→Option R):Nat→(List qPI)→(List qG)→qCO→Int→Option R
 | 0,_,_,_,_=>none
 | n+1,x0,x8,x9,x10 =>
 bif ltI x10 (Au x0) then
 bif inI x10 (List.length x0) then
 (Qz F x9 (Ak (0,(0,(0,((false,(((false,([0,0,0,0],())),((false,([0,0,0,0],())),())),(((false,([0,0,0,0],())),((false,([0,0,0,0],())),())),()))),())))) x0 x10).2.2.2.1).bind fun r41 =>
 bif ltI 0 x10 then
 bif r41.2.1 then
 bif inI (Bl .i64 (Au x8) 1) (List.length x8) then
 bif inI x10 (List.length x0) then
 E8 F (fun z54 z55 z56 z57 =>
 Bx F k8 n z54 z55 z56 (As .i64 z57 1)) (fun z59 z60 z61 z62 =>
 Ib F (fun z68 z69 z70 z71 =>
 Bx F k8 n z68 z69 z70 (As .i64 z71 1)) z59 z60 z61 z62) x0 x8 x9 x10 r41.1 (Bl .i64 (Au x8) 1) (eqI (Ak (0,(((false,([0,0,0,0],())),((false,([0,0,0,0],())),())),([],()))) x8 (Bl .i64 (Au x8) 1)).1 (Ak (0,(0,(0,((false,(((false,([0,0,0,0],())),((false,([0,0,0,0],())),())),(((false,([0,0,0,0],())),((false,([0,0,0,0],())),())),()))),())))) x0 x10).2.2.1)
 else
 none
 else
 none
 else
 E8 F (fun z73 z74 z75 z76 =>
 Bx F k8 n z73 z74 z75 (As .i64 z76 1)) (fun z78 z79 z80 z81 =>
 Ib F (fun z82 z83 z84 z85 =>
 Bx F k8 n z82 z83 z84 (As .i64 z85 1)) z78 z79 z80 z81) x0 x8 x9 x10 r41.1 (Bl .i64 (Au x8) 1) false
 else
 E8 F (fun z87 z88 z89 z90 =>
 Bx F k8 n z87 z88 z89 (As .i64 z90 1)) (fun z92 z93 z94 z95 =>
 Ib F (fun z96 z97 z98 z99 =>
 Bx F k8 n z96 z97 z98 (As .i64 z99 1)) z92 z93 z94 z95) x0 x8 x9 x10 r41.1 (Bl .i64 (Au x8) 1) false
 else
 none
 else
 k8 x8
def Up(F:Nat)(x0:(List qPI)):Option ((List qG)×Int×Unit) :=
 F9 F (fun z18 =>
 bif Bh (0+(List.length z18)) 192 then
 E7 F (fun z37 =>
 Bx F (fun z101 =>
 some (z101,(0,()))) F z37 [] (false,(((false,([0,0,0,0],())),((false,([0,0,0,0],())),())),(((false,([0,0,0,0],())),((false,([0,0,0,0],())),())),()))) 0) F ([]++z18) 0
 else
 none) (fun z102 z103 =>
 some (z102,(z103,()))) F x0 0
def O2(F:Nat)(x0:qTP):Option (qTP×(List qG)×Int×Unit) :=
 (Nm F x0 30).bind fun r1 =>
 (Hq F r1.1).bind fun r2 =>
 (Wr F r1.2.1 r2.2.1).bind fun r3 =>
 (Up F r3.1).bind fun r4 =>
 some (r2.1,(r4.1,(Au r1.2.1,())))
def Ei(F:Nat){R:Type}(k0:Int→Option R):Nat→Int→(List qG)→Int→Int→Option R
 | 0,_,_,_,_=>none
 | n+1,x3,x6,x7,x8 =>
 bif ltI x8 x7 then
 bif inI x8 (List.length x6) then
 Ei F k0 n (As .i64 x3 (Au (Ak (0,(((false,([0,0,0,0],())),((false,([0,0,0,0],())),())),([],()))) x6 x8).2.2.1)) x6 x7 (As .i64 x8 1)
 else
 none
 else
 k0 x3
def I6(F:Nat)(x0:(List qG)):Option (Int×Unit) :=
 Ei F (fun z7 =>
 some (z7,())) F 0 x0 (Au x0) 0
def Js(F:Nat)(x0:qW):Option (Bool×Unit) :=
 bif not x0.1 then
 some (true,())
 else
 some (not (eqT (.arr 4 (.int .u64)) x0.2.1 [0,0,0,0]),())
def Fv(F:Nat)(x0:qW):Option (qW×Unit) :=
 (Js F x0).bind fun r1 =>
 bif not r1.1 then
 some ((false,([0,0,0,0],())),())
 else
 some (x0,())
def Lb(F:Nat)(x0:qW):Option (Int×Unit) :=
 (Fv F x0).bind fun r1 =>
 bif r1.1.1 then
 some ((-1),())
 else
 bif eqT (.arr 4 (.int .u64)) r1.1.2.1 [0,0,0,0] then
 some (0,())
 else
 some (1,())
def Pg(F:Nat)(x0:qW):Option (Bool×Unit) :=
 bif eqI (Ak 0 x0.2.1 3) 0 then
 bif eqI (Ak 0 x0.2.1 2) 0 then
 some (eqI (D6 .u64 (Ak 0 x0.2.1 1) 63) 0,())
 else
 some (false,())
 else
 some (false,())
def E9(F:Nat){R:Type}(k0:Option R)(kret:Int→Option R):Nat→qL→Int→Option R
 | 0,_,_=>none
 | n+1,x1,x3 =>
 bif leI 0 x3 then
 bif inI x3 4 then
 bif not (eqI (Ak 0 x1 x3) 0) then
 bif inI x3 4 then
 (Dw F (Ak 0 x1 x3)).bind fun r6 =>
 kret (As .i64 (Iv .i64 64 x3) r6.1)
 else
 none
 else
 E9 F k0 kret n x1 (Bl .i64 x3 1)
 else
 none
 else
 k0
def Ph(F:Nat)(x0:qL):Option (Int×Unit) :=
 E9 F (
 some (0,())) (fun z9 =>
 some (z9,())) F x0 3
def P4(F:Nat){R:Type}(kn:qL→qL→Int→Int→Int→Option R)(x2:qL)(x4:qL)(x5:Int)(x6:Int)(x7:Int)(x32:Bool):Option R :=
 bif x32 then
 bif inI x7 4 then
 bif inI (Bl .i64 (Bl .i64 x7 x5) 1) 4 then
 bif ltI (Bl .i64 64 x6) 0 then
 none
 else
 bif inI x7 4 then
 kn x2 (B6 x4 x7 (orI .u64 (Ak 0 x4 x7) (D6 .u64 (Ak 0 x2 (Bl .i64 (Bl .i64 x7 x5) 1)) (Bl .i64 64 x6)))) x5 x6 x7
 else
 none
 else
 none
 else
 none
 else
 kn x2 x4 x5 x6 x7
def Ds(F:Nat){R:Type}(k0:qL→Option R):Nat→qL→qL→Int→Int→Int→Option R
 | 0,_,_,_,_,_=>none
 | n+1,x2,x4,x5,x6,x7 =>
 bif ltI x7 4 then
 bif inI (Bl .i64 x7 x5) 4 then
 bif ltI x6 0 then
 none
 else
 bif inI x7 4 then
 bif ltI 0 x6 then
 P4 F (fun z18 z19 z20 z21 z22 =>
 Ds F k0 n z18 z19 z20 z21 (As .i64 z22 1)) x2 (B6 x4 x7 (Fs .u64 (Ak 0 x2 (Bl .i64 x7 x5)) x6)) x5 x6 x7 (ltI x5 x7)
 else
 P4 F (fun z24 z25 z26 z27 z28 =>
 Ds F k0 n z24 z25 z26 z27 (As .i64 z28 1)) x2 (B6 x4 x7 (Fs .u64 (Ak 0 x2 (Bl .i64 x7 x5)) x6)) x5 x6 x7 false
 else
 none
 else
 none
 else
 k0 x4
def Ws(F:Nat)(x0:qL)(x1:Int):Option (qL×Unit) :=
 Ds F (fun z30 =>
 some (z30,())) F x0 [0,0,0,0] (Hi .i64 x1 64) (Iw x1 64) (Hi .i64 x1 64)
def Kc(F:Nat)(x0:Int):Option (Bool×Unit) :=
 some (not (eqI x0 x0),())
def Di(F:Nat)(x0:Int)(x1:Int):Option (Int×Unit) :=
 (Kc F x0).bind fun r1 =>
 (Kc F x1).bind fun r2 =>
 bif r1.1 then
 bif r2.1 then
 some (0,())
 else
 some ((-1),())
 else
 bif r2.1 then
 some (1,())
 else
 bif ltI x0 x1 then
 some ((-1),())
 else
 bif ltI x1 x0 then
 some (1,())
 else
 some (0,())
def D7(F:Nat){R:Type}(k0:Int→Option R)(kret:Int→Option R):Nat→Int→qL→Int→Int→Option R
 | 0,_,_,_,_=>none
 | n+1,x3,x6,x7,x8 =>
 bif ltI x8 x7 then
 bif inI x8 (List.length x6) then
 bif not (eqI (Ak 0 x6 x8) x3) then
 kret (Ak 0 x6 x8)
 else
 D7 F k0 kret n x3 x6 x7 (As .i64 x8 1)
 else
 none
 else
 k0 x3
def Nb(F:Nat)(x0:qL):Option (Int×Unit) :=
 D7 F (fun z6 =>
 some (z6,())) (fun z7 =>
 some (z7,())) F 0 x0 (Au x0) 0
def Ku(F:Nat)(x0:qL)(x1:qL):Option (Int×Unit) :=
 (Di F (Ak 0 x0 3) (Ak 0 x1 3)).bind fun r3 =>
 (Di F (Ak 0 x0 2) (Ak 0 x1 2)).bind fun r6 =>
 (Di F (Ak 0 x0 1) (Ak 0 x1 1)).bind fun r9 =>
 (Di F (Ak 0 x0 0) (Ak 0 x1 0)).bind fun r12 =>
 (Nb F [r3.1,r6.1,r9.1,r12.1]).bind fun r13 =>
 some (r13.1,())
def I7(F:Nat){R:Type}(k0:qL→Option R):Nat→qL→qL→qL→Int→Int→Option R
 | 0,_,_,_,_,_=>none
 | n+1,x2,x3,x4,x5,x7 =>
 bif ltI x7 4 then
 bif inI x7 4 then
 bif inI x7 4 then
 (Jl F (Ak 0 x2 x7) (Ak 0 x3 x7) x5).bind fun r4 =>
 bif inI x7 4 then
 I7 F k0 n x2 x3 (B6 x4 x7 r4.1) r4.2.1 (As .i64 x7 1)
 else
 none
 else
 none
 else
 none
 else
 k0 x4
def Wt(F:Nat)(x0:qL)(x1:qL):Option (qL×Unit) :=
 I7 F (fun z7 =>
 some (z7,())) F x0 x1 [0,0,0,0] 0 0
def D8(F:Nat){R:Type}(k0:qL→Option R):Nat→qL→qL→Int→Option R
 | 0,_,_,_=>none
 | n+1,x1,x2,x4 =>
 bif ltI x4 4 then
 bif inI x4 4 then
 bif inI x4 4 then
 bif ltI x4 3 then
 bif inI x4 4 then
 bif inI (As .i64 x4 1) 4 then
 bif inI x4 4 then
 D8 F k0 n x1 (B6 (B6 x2 x4 (D6 .u64 (Ak 0 x1 x4) 1)) x4 (orI .u64 (Ak 0 (B6 x2 x4 (D6 .u64 (Ak 0 x1 x4) 1)) x4) (Fs .u64 (Ak 0 x1 (As .i64 x4 1)) 63))) (As .i64 x4 1)
 else
 none
 else
 none
 else
 none
 else
 D8 F k0 n x1 (B6 x2 x4 (D6 .u64 (Ak 0 x1 x4) 1)) (As .i64 x4 1)
 else
 none
 else
 none
 else
 k0 x2
def Pj(F:Nat)(x0:qL):Option (qL×Unit) :=
 D8 F (fun z14 =>
 some (z14,())) F x0 [0,0,0,0] 0
def Kl(F:Nat){R:Type}(k0:qL→qL→qL→Option R):Nat→qL→qL→qL→Int→qL→Option R
 | 0,_,_,_,_,_=>none
 | n+1,x2,x4,x5,x6,x7 =>
 bif leI 0 x6 then
 (Ku F x2 x7).bind fun r7 =>
 bif leI 0 r7.1 then
 (Wt F x2 x7).bind fun r9 =>
 bif inI (Hi .i64 x6 64) 4 then
 bif ltI (Iw x6 64) 0 then
 none
 else
 bif inI (Hi .i64 x6 64) 4 then
 (Pj F x7).bind fun r16 =>
 Kl F k0 n r9.1 (B6 x4 (Hi .i64 x6 64) (orI .u64 (Ak 0 x4 (Hi .i64 x6 64)) (Fs .u64 1 (Iw x6 64)))) x5 (Bl .i64 x6 1) r16.1
 else
 none
 else
 none
 else
 (Pj F x7).bind fun r18 =>
 Kl F k0 n x2 x4 x5 (Bl .i64 x6 1) r18.1
 else
 k0 x2 x4 x5
def Z6(F:Nat)(x0:qL)(x1:qL):Option (qL×qL×Unit) :=
 (Ph F x0).bind fun r1 =>
 (Ph F x1).bind fun r2 =>
 let x12v3:=Bl .i64 r1.1 r2.1
 bif ltI x12v3 0 then
 some ([0,0,0,0],(x0,()))
 else
 (Ws F x1 x12v3).bind fun r5 =>
 Kl F (fun z20 z21 z22 =>
 some (z21,(z20,()))) F x0 [0,0,0,0] [0,0,0,0] x12v3 r5.1
def Vv(F:Nat){R:Type}(k0:qL→Int→Option R):Nat→qL→qL→qL→Int→Int→Option R
 | 0,_,_,_,_,_=>none
 | n+1,x2,x3,x4,x5,x7 =>
 bif ltI x7 4 then
 bif inI x7 4 then
 bif inI x7 4 then
 (Ft F (Ak 0 x2 x7) (Ak 0 x3 x7) x5).bind fun r4 =>
 bif inI x7 4 then
 Vv F k0 n x2 x3 (B6 x4 x7 r4.1) r4.2.1 (As .i64 x7 1)
 else
 none
 else
 none
 else
 none
 else
 k0 x4 x5
def Aka(F:Nat)(x0:qL)(x1:qL):Option (qL×Int×Unit) :=
 Vv F (fun z7 z8 =>
 some (z7,(z8,()))) F x0 x1 [0,0,0,0] 0 0
def Nc(F:Nat)(x0:Bool)(x1:qL):Option (qW×Unit) :=
 (Fv F (x0,(x1,()))).bind fun r1 =>
 some (r1.1,())
def Np(F:Nat){R:Type}(kn:qW→qW→qW→qW→qL→qL→Option R)(x2:qW)(x3:qW)(x4:qW)(x5:qW)(x7:qL)(x8:qL)(x32:Bool):Option R :=
 bif x32 then
 (Aka F x7 [1,0,0,0]).bind fun r7 =>
 (Wt F x3.2.1 x8).bind fun r8 =>
 kn x2 x3 x4 x5 r7.1 r8.1
 else
 kn x2 x3 x4 x5 x7 x8
def Nq(F:Nat){R:Type}(kret:qW→qW→Bool→Option R)(x2:qW)(x3:qW)(x4:qW)(x5:qW)(x7:qL)(x8:qL):Option R :=
 (Nc F (not (eqT .bool x2.1 x3.1)) x7).bind fun r16 =>
 (Nc F false x8).bind fun r17 =>
 kret r16.1 r17.1 true
def So(F:Nat)(x0:qW)(x1:qW):Option (qW×qW×Bool×Unit) :=
 (Fv F x0).bind fun r1 =>
 (Fv F x1).bind fun r2 =>
 (Lb F r2.1).bind fun r3 =>
 bif eqI r3.1 0 then
 some ((false,([0,0,0,0],())),((false,([0,0,0,0],())),(false,())))
 else
 (Z6 F r1.1.2.1 r2.1.2.1).bind fun r5 =>
 bif r1.1.1 then
 Np F (fun z9 z10 z11 z12 z13 z14 =>
 Nq F (fun z18 z19 z20 =>
 some (z18,(z19,(z20,())))) z9 z10 z11 z12 z13 z14) r1.1 r2.1 (false,([0,0,0,0],())) (false,([0,0,0,0],())) r5.1 r5.2.1 (not (eqT (.arr 4 (.int .u64)) r5.2.1 [0,0,0,0]))
 else
 Np F (fun z21 z22 z23 z24 z25 z26 =>
 Nq F (fun z27 z28 z29 =>
 some (z27,(z28,(z29,())))) z21 z22 z23 z24 z25 z26) r1.1 r2.1 (false,([0,0,0,0],())) (false,([0,0,0,0],())) r5.1 r5.2.1 false
def Es(F:Nat){R:Type}(k0:qW→qW→Option R):Nat→qW→qW→qW→Option R
 | 0,_,_,_=>none
 | n+1,x2,x3,x4 =>
 (Lb F x3).bind fun r1 =>
 bif not (eqI r1.1 0) then
 (So F x2 x3).bind fun r3 =>
 Es F k0 n x3 r3.2.1 x4
 else
 k0 x2 x4
def On(F:Nat)(x0:qW)(x1:qW):Option (qW×Unit) :=
 Es F (fun z4 z5 =>
 some (z4,())) F (false,x0.2) (false,x1.2) (false,([0,0,0,0],()))
def AaU(F:Nat)(x0:Int):Option (qW×Unit) :=
 bif ltI x0 0 then
 some ((true,([Bl .u64 0 (IntKind.wrap .u64 x0),0,0,0],())),())
 else
 some ((false,([IntKind.wrap .u64 x0,0,0,0],())),())
def I8(F:Nat)(x0:qR):Option (Bool×Unit) :=
 (Js F x0.1).bind fun r1 =>
 bif r1.1 then
 (Js F x0.2.1).bind fun r2 =>
 bif r2.1 then
 (Lb F x0.2.1).bind fun r3 =>
 bif ltI 0 r3.1 then
 (Pg F x0.1).bind fun r5 =>
 bif r5.1 then
 (Pg F x0.2.1).bind fun r6 =>
 bif r6.1 then
 (On F x0.1 x0.2.1).bind fun r7 =>
 (AaU F 1).bind fun r8 =>
 some (eqT (.pair .bool (.pair (.arr 4 (.int .u64)) .unit)) r7.1 r8.1,())
 else
 some (false,())
 else
 some (false,())
 else
 some (false,())
 else
 some (false,())
 else
 some (false,())
def Lc(F:Nat)(x0:Int):Option (Bool×Unit) :=
 some (not (eqI x0 x0),())
def Jt(F:Nat)(x0:Int)(x1:Int):Option (Int×Unit) :=
 (Lc F x0).bind fun r1 =>
 (Lc F x1).bind fun r2 =>
 bif r1.1 then
 bif r2.1 then
 some (0,())
 else
 some ((-1),())
 else
 bif r2.1 then
 some (1,())
 else
 bif ltI x0 x1 then
 some ((-1),())
 else
 bif ltI x1 x0 then
 some (1,())
 else
 some (0,())
def Akb(F:Nat)(x0:Int):Option (qR×Unit) :=
 (AaU F x0).bind fun r1 =>
 (AaU F 1).bind fun r2 =>
 some ((r1.1,(r2.1,())),())
def Sp(F:Nat)(x0:qR):Option (qR×Unit) :=
 (I8 F x0).bind fun r1 =>
 bif not r1.1 then
 (Akb F 0).bind fun r3 =>
 some (r3.1,())
 else
 some (x0,())
def Km(F:Nat){R:Type}(k2:qL→qL→qL→Int→Int→qL→Int→Option R):Nat→qL→qL→qL→Int→Int→Int→qL→Int→qL→Int→Option R
 | 0,_,_,_,_,_,_,_,_,_,_=>none
 | n+1,x3,x4,x6,x7,x8,x9,x16,x17,x21,x22 =>
 bif ltI x22 4 then
 bif inI x22 4 then
 (Qx F x8 (Ak 0 x21 x22)).bind fun r5 =>
 bif inI (As .i64 x7 x22) 8 then
 (Ft F (Ak 0 x6 (As .i64 x7 x22)) r5.2.1 0).bind fun r8 =>
 (Ft F r8.1 x9 0).bind fun r10 =>
 bif inI (As .i64 x7 x22) 8 then
 Km F k2 n x3 x4 (B6 x6 (As .i64 x7 x22) r10.1) x7 x8 (As .u64 (As .u64 r5.1 r8.2.1) r10.2.1) x16 x17 x21 (As .i64 x22 1)
 else
 none
 else
 none
 else
 none
 else
 k2 x3 x4 x6 x7 x9 x16 x17
def Nd(F:Nat){R:Type}(k0:qL→qL→Option R):Nat→qL→qL→qL→qL→Int→Option R
 | 0,_,_,_,_,_=>none
 | n+1,x3,x4,x6,x16,x17 =>
 bif ltI x17 4 then
 bif inI x17 4 then
 Km F (fun z15 z16 z17 z18 z19 z20 z21 =>
 bif inI (As .i64 z18 4) 8 then
 Nd F k0 n z15 z16 (B6 z17 (As .i64 z18 4) z19) z20 (As .i64 z21 1)
 else
 none) F x3 x4 x6 x17 (Ak 0 x16 x17) 0 x16 x17 x3 0
 else
 none
 else
 k0 x4 x6
def Z7(F:Nat)(x0:qL)(x1:qL):Option (qL×Bool×Unit) :=
 Nd F (fun z25 z26 =>
 some ((((List.take 0 z25)++(List.take 4 (List.drop 0 z26)))++(List.drop 4 z25)),(eqT (.arr 4 (.int .u64)) (List.take 4 (List.drop 4 z26)) [0,0,0,0],()))) F x1 [0,0,0,0] [0,0,0,0,0,0,0,0] x0 0
def Z8(F:Nat)(x0:qW)(x1:qW):Option (qW×Bool×Unit) :=
 (Fv F x0).bind fun r1 =>
 (Fv F x1).bind fun r2 =>
 (Z7 F r1.1.2.1 r2.1.2.1).bind fun r3 =>
 bif not r3.2.1 then
 some ((false,([0,0,0,0],())),(false,()))
 else
 (Nc F (not (eqT .bool r1.1.1 r2.1.1)) r3.1).bind fun r6 =>
 some (r6.1,(true,()))
def Oo(F:Nat)(x0:qW)(x1:qW):Option (qW×Unit) :=
 (Z8 F x0 x1).bind fun r1 =>
 some (r1.1,())
def Ld(F:Nat){R:Type}(kn:qW→qW→Option R)(kret:Int→Option R)(x2:qW)(x3:qW)(x9:Bool):Option R :=
 bif x9 then
 (Ku F x3.2.1 x2.2.1).bind fun r3 =>
 kret r3.1
 else
 bif x2.1 then
 kret (-1)
 else
 bif x3.1 then
 kret 1
 else
 kn x2 x3
def Lf(F:Nat){R:Type}(kret:Int→Option R)(x2:qW)(x3:qW):Option R :=
 (Ku F x2.2.1 x3.2.1).bind fun r6 =>
 kret r6.1
def P5(F:Nat)(x0:qW)(x1:qW):Option (Int×Unit) :=
 (Fv F x0).bind fun r1 =>
 (Fv F x1).bind fun r2 =>
 bif r1.1.1 then
 Ld F (fun z4 z5 =>
 Lf F (fun z7 =>
 some (z7,())) z4 z5) (fun z8 =>
 some (z8,())) r1.1 r2.1 r2.1.1
 else
 Ld F (fun z9 z10 =>
 Lf F (fun z11 =>
 some (z11,())) z9 z10) (fun z12 =>
 some (z12,())) r1.1 r2.1 false
def Oq(F:Nat)(x0:qR)(x1:qR):Option (Int×Unit) :=
 (Sp F x0).bind fun r1 =>
 (Sp F x1).bind fun r2 =>
 (Oo F r1.1.1 r2.1.2.1).bind fun r3 =>
 (Oo F r2.1.1 r1.1.2.1).bind fun r4 =>
 (P5 F r3.1 r4.1).bind fun r5 =>
 some (r5.1,())
def Kd(F:Nat)(x0:qG)(x1:qG):Option (Int×Unit) :=
 (Jt F x0.1 x1.1).bind fun r1 =>
 (Oq F x0.2.1 x1.2.1).bind fun r2 =>
 (Nb F [r1.1,r2.1]).bind fun r3 =>
 some (r3.1,())
def Dj(F:Nat){R:Type}(k2:(List qG)→(List Bool)→(List qG)→Int→Int→Option R)(kret:Int→Option R):Nat→(List qG)→(List Bool)→qG→(List qG)→Int→Int→qL→Int→Int→Option R
 | 0,_,_,_,_,_,_,_,_,_=>none
 | n+1,x0,x3,x5,x16,x17,x18,x48,x49,x50 =>
 bif ltI x50 x49 then
 bif inI x50 (List.length x48) then
 bif ltI (Ak 0 x48 x50) 0 then
 kret 1
 else
 bif leI 4096 (Ak 0 x48 x50) then
 kret 1
 else
 bif inI (Ak 0 x48 x50) 4096 then
 bif Ak false x3 (Ak 0 x48 x50) then
 kret 1
 else
 bif ltI 0 x50 then
 bif inI (Bl .i64 x50 1) (List.length x5.2.2.1) then
 bif leI (Ak 0 x48 x50) (Ak 0 x5.2.2.1 (Bl .i64 x50 1)) then
 kret 1
 else
 bif inI (Ak 0 x48 x50) 4096 then
 Dj F k2 kret n x0 (B6 x3 (Ak 0 x48 x50) true) x5 x16 x17 x18 x48 x49 (As .i64 x50 1)
 else
 none
 else
 none
 else
 bif inI (Ak 0 x48 x50) 4096 then
 Dj F k2 kret n x0 (B6 x3 (Ak 0 x48 x50) true) x5 x16 x17 x18 x48 x49 (As .i64 x50 1)
 else
 none
 else
 none
 else
 none
 else
 k2 x0 x3 x16 x17 x18
def Hb(F:Nat){R:Type}(kn:(List qG)→(List Bool)→(List qG)→Int→Int→Option R)(kret:Int→Option R)(x0:(List qG))(x3:(List Bool))(x5:qG)(x16:(List qG))(x17:Int)(x18:Int):Option R :=
 Dj F (fun z31 z32 z33 z34 z35 =>
 kn z31 z32 z33 z34 z35) (fun z36 =>
 kret z36) F x0 x3 x5 x16 x17 x18 x5.2.2.1 (Au x5.2.2.1) 0
def Cg(F:Nat){R:Type}(k0:Option R)(kret:Int→Option R):Nat→(List qG)→(List Bool)→(List qG)→Int→Int→Option R
 | 0,_,_,_,_,_=>none
 | n+1,x0,x3,x16,x17,x18 =>
 bif ltI x18 x17 then
 bif inI x18 (List.length x16) then
 let x22v7:=Ak (0,(((false,([0,0,0,0],())),((false,([0,0,0,0],())),())),([],()))) x16 x18
 (I8 F x22v7.2.1).bind fun r8 =>
 bif not r8.1 then
 kret 1
 else
 bif eqI (Au x22v7.2.2.1) 0 then
 kret 1
 else
 bif ltI 0 x18 then
 bif inI (Bl .i64 x18 1) (List.length x0) then
 (Kd F (Ak (0,(((false,([0,0,0,0],())),((false,([0,0,0,0],())),())),([],()))) x0 (Bl .i64 x18 1)) x22v7).bind fun r15 =>
 bif leI 0 r15.1 then
 kret 1
 else
 Hb F (fun z37 z38 z39 z40 z41 =>
 Cg F k0 kret n z37 z38 z39 z40 (As .i64 z41 1)) (fun z43 =>
 kret z43) x0 x3 x22v7 x16 x17 x18
 else
 none
 else
 Hb F (fun z44 z45 z46 z47 z48 =>
 Cg F k0 kret n z44 z45 z46 z47 (As .i64 z48 1)) (fun z50 =>
 kret z50) x0 x3 x22v7 x16 x17 x18
 else
 none
 else
 k0
def Gs(F:Nat)(x0:(List qG)):Option (Int×Unit) :=
 bif ltI 4096 (Au x0) then
 some (3,())
 else
 (I6 F x0).bind fun r3 =>
 bif ltI 4096 r3.1 then
 some (3,())
 else
 Cg F (
 some (0,())) (fun z51 =>
 some (z51,())) F x0 (List.replicate 4096 false) x0 (Au x0) 0
def It(F:Nat)(x0:qL):Option (qL×Unit) :=
 bif Bh (0+List.length x0) 8 then some (x0,()) else none
def Tq(F:Nat)(x0:Int)(x1:Int):Option (Int×Unit) :=
 some (Bl .u64 (IntKind.wrap .u64 x0) (IntKind.wrap .u64 x1),())
def Cd(F:Nat){R:Type}(k0:qL→Option R):Nat→qL→Int→Option R
 | 0,_,_=>none
 | n+1,x0,x2 =>
 bif ltI 0 x2 then
 bif inI x2 (List.length x0) then
 bif inI (Bl .i64 x2 1) (List.length x0) then
 (Tq F (Ak 0 x0 x2) (Ak 0 x0 (Bl .i64 x2 1))).bind fun r7 =>
 bif inI x2 (List.length x0) then
 Cd F k0 n (B6 x0 x2 (IntKind.wrap .i64 r7.1)) (Bl .i64 x2 1)
 else
 none
 else
 none
 else
 none
 else
 k0 x0
def G4(F:Nat)(x0:qL):Option (qL×Unit) :=
 Cd F (fun z11 =>
 some (z11,())) F x0 (Bl .i64 (Au x0) 1)
def Sq(F:Nat)(x0:Int)(x1:Int):Option (Int×Unit) :=
 some (IntKind.wrap .i64 (As .u64 (IntKind.wrap .u64 x0) x1),())
def Et(F:Nat){R:Type}(k0:qL→Option R):Nat→qL→Int→Option R
 | 0,_,_=>none
 | n+1,x0,x2 =>
 bif ltI x2 (Au x0) then
 bif inI x2 (List.length x0) then
 bif inI (Bl .i64 x2 1) (List.length x0) then
 (Sq F (Ak 0 x0 x2) (IntKind.wrap .u64 (Ak 0 x0 (Bl .i64 x2 1)))).bind fun r7 =>
 bif inI x2 (List.length x0) then
 Et F k0 n (B6 x0 x2 r7.1) (As .i64 x2 1)
 else
 none
 else
 none
 else
 none
 else
 k0 x0
def Ot(F:Nat)(x0:qL):Option (qL×Unit) :=
 Et F (fun z10 =>
 some (z10,())) F x0 1
def Dx(F:Nat){R:Type}(k0:qL→Option R):Nat→qL→Int→Int→Option R
 | 0,_,_,_=>none
 | n+1,x0,x6,x7 =>
 bif ltI x7 x6 then
 (G4 F x0).bind fun r2 =>
 Dx F k0 n r2.1 x6 (As .i64 x7 1)
 else
 k0 x0
def Ob(F:Nat)(x0:qL)(x1:Int):Option (qL×Unit) :=
 Dx F (fun z4 =>
 some (z4,())) F x0 x1 0
def Dy(F:Nat){R:Type}(k0:qL→Option R):Nat→qL→Int→Int→Option R
 | 0,_,_,_=>none
 | n+1,x0,x6,x7 =>
 bif ltI x7 x6 then
 (Ot F x0).bind fun r2 =>
 Dy F k0 n r2.1 x6 (As .i64 x7 1)
 else
 k0 x0
def Fw(F:Nat)(x0:qL)(x1:Int):Option (qL×Unit) :=
 Dy F (fun z4 =>
 some (z4,())) F x0 x1 0
def Ou(F:Nat)(x0:Int):Option (Int×Unit) :=
 some (AjO .u64 (Fs .u64 (IntKind.wrap .u64 x0) 1) (IntKind.wrap .u64 (D6 .i64 x0 63)),())
def Db(F:Nat){R:Type}(k0:qL→Option R):Nat→qL→qL→Int→Int→Option R
 | 0,_,_,_,_=>none
 | n+1,x7,x24,x25,x26 =>
 bif ltI x26 x25 then
 bif inI x26 (List.length x24) then
 (Ou F (Ak 0 x24 x26)).bind fun r10 =>
 bif inI x26 (List.length x7) then
 Db F k0 n (B6 x7 x26 r10.1) x24 x25 (As .i64 x26 1)
 else
 none
 else
 none
 else
 k0 x7
def Ej(F:Nat)(x0:qL)(x1:Int):Option (qL×Bool×Unit) :=
 bif ltI x1 0 then
 some ([],(false,()))
 else
 bif ltI 2 x1 then
 some ([],(false,()))
 else
 (It F x0).bind fun r3 =>
 (Ob F r3.1 x1).bind fun r4 =>
 bif Im (Au r4.1) (Au r4.1) 8 then
 Db F (fun z13 =>
 some (z13,(true,()))) F (Cc (Au r4.1) (0:Int)) r4.1 (Au r4.1) 0
 else
 none
def Sr(F:Nat)(x0:Int):Option (Int×Unit) :=
 (Dw F x0).bind fun r1 =>
 some (Asj (Hi .i64 (As .i64 r1.1 6) 7) 1,())
def Fx(F:Nat){R:Type}(k0:Int→Option R):Nat→Int→qL→Int→Int→Option R
 | 0,_,_,_,_=>none
 | n+1,x3,x6,x7,x8 =>
 bif ltI x8 x7 then
 bif inI x8 (List.length x6) then
 Fx F k0 n (orI .u64 x3 (Ak 0 x6 x8)) x6 x7 (As .i64 x8 1)
 else
 none
 else
 k0 x3
def Ov(F:Nat)(x0:qL):Option (Int×Unit) :=
 Fx F (fun z6 =>
 (Dw F z6).bind fun r7 =>
 some (r7.1,())) F 0 x0 (Au x0) 0
def Ju(F:Nat)(x0:Int)(x1:Int):Option (Int×Unit) :=
 bif ltI x0 0 then
 some ((-1),())
 else
 bif ltI 65536 x0 then
 some ((-1),())
 else
 bif ltI x1 0 then
 some ((-1),())
 else
 bif ltI 64 x1 then
 some ((-1),())
 else
 some (Hi .i64 (As .i64 (Iv .i64 x0 x1) 7) 8,())
def Eu(F:Nat){R:Type}(k2:Int→qL→Int→qL→Int→Int→Option R):Nat→Int→qL→Int→Int→Int→qL→Int→Int→Option R
 | 0,_,_,_,_,_,_,_,_=>none
 | n+1,x1,x7,x8,x10,x11,x27,x28,x29 =>
 bif ltI 0 x11 then
 bif inI (Hi .i64 x8 8) (List.length x7) then
 bif ltI (Iw x8 8) 0 then
 none
 else
 bif inI (Hi .i64 x8 8) (List.length x7) then
 bif ltI (Ze (Bl .i64 8 (Iw x8 8)) x11) 0 then
 none
 else
 Eu F k2 n x1 (B6 x7 (Hi .i64 x8 8) (orI .u8 (Ak 0 x7 (Hi .i64 x8 8)) (Fs .u8 (IntKind.wrap .u8 x10) (Iw x8 8)))) (As .i64 x8 (Ze (Bl .i64 8 (Iw x8 8)) x11)) (D6 .u64 x10 (Ze (Bl .i64 8 (Iw x8 8)) x11)) (Bl .i64 x11 (Ze (Bl .i64 8 (Iw x8 8)) x11)) x27 x28 x29
 else
 none
 else
 none
 else
 k2 x1 x7 x8 x27 x28 x29
def Fl(F:Nat){R:Type}(k0:qL→Option R):Nat→Int→qL→Int→qL→Int→Int→Option R
 | 0,_,_,_,_,_,_=>none
 | n+1,x1,x7,x8,x27,x28,x29 =>
 bif ltI x29 x28 then
 bif inI x29 (List.length x27) then
 Eu F (fun z24 z25 z26 z27 z28 z29 =>
 Fl F k0 n z24 z25 z26 z27 z28 (As .i64 z29 1)) F x1 x7 x8 (Ak 0 x27 x29) x1 x27 x28 x29
 else
 none
 else
 k0 x7
def P6(F:Nat)(x0:qL)(x1:Int):Option (qL×Bool×Unit) :=
 (Ju F (Au x0) x1).bind fun r2 =>
 bif ltI r2.1 0 then
 some ([],(false,()))
 else
 (Ov F x0).bind fun r4 =>
 bif ltI x1 r4.1 then
 some ([],(false,()))
 else
 bif Im r2.1 r2.1 1 then
 Fl F (fun z31 =>
 some (z31,(true,()))) F x1 (Cc r2.1 (0:Int)) 0 x0 (Au x0) 0
 else
 none
def Hc(F:Nat)(x0:qL):Option (qL×Unit) :=
 bif Bh (0+List.length x0) 1 then some (x0,()) else none
def Fy(F:Nat){R:Type}(k0:Int→qL→Option R):Nat→Int→qL→Option R
 | 0,_,_=>none
 | n+1,x1,x5 =>
 bif leI 128 x1 then
 bif Bh ((List.length x5)+1) 1 then
 Fy F k0 n (D6 .u64 x1 7) (x5++[orI .u8 (IntKind.wrap .u8 x1) 128])
 else
 none
 else
 k0 x1 x5
def Lg(F:Nat)(x0:qL)(x1:Int):Option (qL×Unit) :=
 (Hc F x0).bind fun r1 =>
 (H2 F r1.1 10).bind fun r2 =>
 Fy F (fun z8 z9 =>
 bif Bh ((List.length z9)+1) 1 then
 some ((z9++[IntKind.wrap .u8 z8]),())
 else
 none) F x1 r2.1
def Ff(F:Nat){R:Type}(k0:qL→Int→Option R):Nat→qL→Int→qL→Int→Int→Option R
 | 0,_,_,_,_,_=>none
 | n+1,x0,x4,x16,x17,x18 =>
 bif ltI x18 x17 then
 bif inI x18 (List.length x16) then
 (Sr F (Ak 0 x16 x18)).bind fun r6 =>
 Ff F k0 n x0 (As .i64 x4 r6.1) x16 x17 (As .i64 x18 1)
 else
 none
 else
 k0 x0 x4
def Ek(F:Nat){R:Type}(k2:qL→Option R):Nat→qL→qL→Int→Int→Option R
 | 0,_,_,_,_=>none
 | n+1,x10,x47,x48,x49 =>
 bif ltI x49 x48 then
 bif inI x49 (List.length x47) then
 (Lg F [] (Ak 0 x47 x49)).bind fun r22 =>
 bif Bh ((List.length x10)+(List.length r22.1)) 1 then
 Ek F k2 n (x10++r22.1) x47 x48 (As .i64 x49 1)
 else
 none
 else
 none
 else
 k2 x10
def Bn(F:Nat)(x0:qL):Option (qL×Int×Unit) :=
 bif ltI 65536 (Au x0) then
 some ([],(3,()))
 else
 Ff F (fun z9 z10 =>
 (Ov F z9).bind fun r11 =>
 (P6 F z9 r11.1).bind fun r12 =>
 bif ltI (As .i64 2 (Au r12.1)) z10 then
 bif Bh (2+(List.length r12.1)) 1 then
 some (([1,IntKind.wrap .u8 r11.1]++r12.1),(0,()))
 else
 none
 else
 bif Im 1 z10 1 then
 Ek F (fun z25 =>
 some (z25,(0,()))) F (Cc 1 (0:Int)) z9 (Au z9) 0
 else
 none) F x0 1 x0 (Au x0) 0
def B9(F:Nat){R:Type}(k0:qL→Option R)(kret:qL→Int→Option R):Nat→qL→qL→Int→Option R
 | 0,_,_,_=>none
 | n+1,x0,x4,x10 =>
 bif ltI x10 3 then
 (Ej F x0 x10).bind fun r9 =>
 (Bn F r9.1).bind fun r10 =>
 bif not (eqI r10.2.1 0) then
 kret [] r10.2.1
 else
 bif List.isEmpty x4 then
 none
 else
 bif ltI (As .i64 (Au r10.1) 1) (Au x4) then
 bif Bh (1+(List.length r10.1)) 1 then
 B9 F k0 kret n x0 ([IntKind.wrap .u8 x10]++r10.1) (As .i64 x10 1)
 else
 none
 else
 B9 F k0 kret n x0 x4 (As .i64 x10 1)
 else
 k0 x4
def Lh(F:Nat){R:Type}(k0:qL→Option R)(kret:qL→Int→Option R)(n:Nat)(x0:qL)(x10:Int):Option R :=
 bif ltI x10 3 then
 (Ej F x0 x10).bind fun r21 =>
 (Bn F r21.1).bind fun r22 =>
 bif not (eqI r22.2.1 0) then
 kret [] r22.2.1
 else
 bif Bh (1+(List.length r22.1)) 1 then
 B9 F k0 kret n x0 ([IntKind.wrap .u8 x10]++r22.1) (As .i64 x10 1)
 else
 none
 else
 none
def Ee(F:Nat)(x0:qL):Option (qL×Int×Unit) :=
 Lh F (fun z27 =>
 some (z27,(0,()))) (fun z28 z29 =>
 some (z28,(z29,()))) F x0 0
def Dq(F:Nat){R:Type}(k0:qL→qW→qL→Option R):Nat→qL→qW→qL→qL→Int→Option R
 | 0,_,_,_,_,_=>none
 | n+1,x0,x3,x5,x16,x17 =>
 bif ltI x17 4 then
 bif inI x17 4 then
 bif inI x17 5 then
 bif inI x17 5 then
 bif inI (As .i64 x17 1) 5 then
 Dq F k0 n x0 x3 (B6 (B6 x5 x17 (orI .u64 (Ak 0 x5 x17) (Fs .u64 (Ak 0 x16 x17) 1))) (As .i64 x17 1) (D6 .u64 (Ak 0 x16 x17) 63)) x16 (As .i64 x17 1)
 else
 none
 else
 none
 else
 none
 else
 none
 else
 k0 x0 x3 x5
def Cr(F:Nat){R:Type}(k4:qL→qL→Int→Option R):Nat→qL→qL→Int→Int→Option R
 | 0,_,_,_,_=>none
 | n+1,x5,x8,x9,x47 =>
 bif ltI x47 5 then
 bif inI x47 5 then
 bif inI x47 5 then
 bif ltI x47 4 then
 bif inI x47 5 then
 bif inI (As .i64 x47 1) 5 then
 bif inI x47 5 then
 Cr F k4 n (B6 (B6 x5 x47 (D6 .u64 (Ak 0 x5 x47) 7)) x47 (orI .u64 (Ak 0 (B6 x5 x47 (D6 .u64 (Ak 0 x5 x47) 7)) x47) (Fs .u64 (Ak 0 (B6 x5 x47 (D6 .u64 (Ak 0 x5 x47) 7)) (As .i64 x47 1)) 57))) x8 x9 (As .i64 x47 1)
 else
 none
 else
 none
 else
 none
 else
 Cr F k4 n (B6 x5 x47 (D6 .u64 (Ak 0 x5 x47) 7)) x8 x9 (As .i64 x47 1)
 else
 none
 else
 none
 else
 k4 x5 x8 x9
def Dc(F:Nat){R:Type}(kret:qL→Option R):Nat→qL→qL→Option R
 | 0,_,_=>none
 | n+1,x5,x8 =>
 Cr F (fun z37 z38 z39 =>
 bif eqT (.arr 5 (.int .u64)) z37 [0,0,0,0,0] then
 bif Bh ((List.length z38)+1) 1 then
 kret (z38++[z39])
 else
 none
 else
 bif Bh ((List.length z38)+1) 1 then
 Dc F kret n z37 (z38++[orI .u8 z39 128])
 else
 none) F x5 x8 (IntKind.wrap .u8 (Iw (Ak 0 x5 0) 128)) 0
def Ef(F:Nat){R:Type}(kret:qL→Option R)(x0:qL)(x5:qL):Option R :=
 (Hc F x0).bind fun r19 =>
 (H2 F r19.1 37).bind fun r20 =>
 Dc F (fun z44 =>
 kret z44) F x5 r20.1
def Ez(F:Nat){R:Type}(kret:qL→Option R)(x0:qL)(x3:qW):Option R :=
 Dq F (fun z13 z14 z15 =>
 bif z14.1 then
 Ef F (fun z45 =>
 kret z45) z13 (B6 z15 0 (As .u64 (Ak 0 z15 0) 1))
 else
 Ef F (fun z46 =>
 kret z46) z13 z15) F x0 x3 [0,0,0,0,0] x3.2.1 0
def Hd(F:Nat)(x0:qL)(x1:qW):Option (qL×Unit) :=
 (Js F x1).bind fun r1 =>
 bif not r1.1 then
 Ez F (fun z47 =>
 some (z47,())) x0 (false,([0,0,0,0],()))
 else
 Ez F (fun z48 =>
 some (z48,())) x0 x1
def Hv(F:Nat)(x0:qL)(x1:qR):Option (qL×Unit) :=
 (Hd F x0 x1.1).bind fun r1 =>
 (Hd F r1.1 x1.2.1).bind fun r2 =>
 some (r2.1,())
def Li(F:Nat)(x0:qL)(x1:qL):Option (qL×Unit) :=
 (Bn F x1).bind fun r1 =>
 bif Bh ((List.length x0)+(List.length r1.1)) 1 then
 some ((x0++r1.1),())
 else
 none
def Cs(F:Nat){R:Type}(k2:(List qG)→qL→qL→qL→(List qG)→Int→Int→Option R):Nat→(List qG)→qL→qL→qL→qG→(List qG)→Int→Int→qL→Int→Int→Option R
 | 0,_,_,_,_,_,_,_,_,_,_,_=>none
 | n+1,x0,x5,x6,x7,x9,x28,x29,x30,x49,x50,x51 =>
 bif ltI x51 x50 then
 bif inI x51 (List.length x49) then
 bif ltI 0 x51 then
 bif inI (Bl .i64 x51 1) (List.length x9.2.2.1) then
 bif Bh ((List.length x7)+1) 8 then
 Cs F k2 n x0 x5 x6 (x7++[IntKind.wrap .u64 (Bl .i64 (Ak 0 x49 x51) (As .i64 (Ak 0 x9.2.2.1 (Bl .i64 x51 1)) 1))]) x9 x28 x29 x30 x49 x50 (As .i64 x51 1)
 else
 none
 else
 none
 else
 bif Bh ((List.length x7)+1) 8 then
 Cs F k2 n x0 x5 x6 (x7++[IntKind.wrap .u64 (Ak 0 x49 x51)]) x9 x28 x29 x30 x49 x50 (As .i64 x51 1)
 else
 none
 else
 none
 else
 k2 x0 x5 x6 x7 x28 x29 x30
def C1(F:Nat){R:Type}(k0:(List qG)→qL→qL→qL→Option R):Nat→(List qG)→qL→qL→qL→(List qG)→Int→Int→Option R
 | 0,_,_,_,_,_,_,_=>none
 | n+1,x0,x5,x6,x7,x28,x29,x30 =>
 bif ltI x30 x29 then
 bif inI x30 (List.length x28) then
 let x34v9:=Ak (0,(((false,([0,0,0,0],())),((false,([0,0,0,0],())),())),([],()))) x28 x30
 bif inI x30 (List.length x5) then
 bif inI x30 (List.length x6) then
 Cs F (fun z29 z30 z31 z32 z33 z34 z35 =>
 C1 F k0 n z29 z30 z31 z32 z33 z34 (As .i64 z35 1)) F x0 (B6 x5 x30 x34v9.1) (B6 x6 x30 (IntKind.wrap .u64 (Bl .i64 (Au x34v9.2.2.1) 1))) x7 x34v9 x28 x29 x30 x34v9.2.2.1 (Au x34v9.2.2.1) 0
 else
 none
 else
 none
 else
 none
 else
 k0 x0 x5 x6 x7
def Dz(F:Nat){R:Type}(k4:qL→qL→qL→Option R):Nat→qL→qL→qL→(List qG)→Int→Int→Option R
 | 0,_,_,_,_,_,_=>none
 | n+1,x6,x7,x14,x88,x89,x90 =>
 bif ltI x90 x89 then
 bif inI x90 (List.length x88) then
 (Hv F x14 (Ak (0,(((false,([0,0,0,0],())),((false,([0,0,0,0],())),())),([],()))) x88 x90).2.1).bind fun r50 =>
 Dz F k4 n x6 x7 r50.1 x88 x89 (As .i64 x90 1)
 else
 none
 else
 k4 x6 x7 x14
def Fm(F:Nat)(x0:(List qG)):Option (qL×Int×Unit) :=
 (Gs F x0).bind fun r1 =>
 bif not (eqI r1.1 0) then
 some ([],(r1.1,()))
 else
 bif Im (Au x0) (Au x0) 8 then
 bif Im (Au x0) (Au x0) 8 then
 C1 F (fun z37 z38 z39 z40 =>
 (Ee F z38).bind fun r41 =>
 bif not (eqI r41.2.1 0) then
 some ([],(r41.2.1,()))
 else
 (Lg F [] (IntKind.wrap .u64 (Au z37))).bind fun r45 =>
 bif Bh ((List.length r45.1)+(List.length r41.1)) 1 then
 Dz F (fun z52 z53 z54 =>
 (Li F z54 z52).bind fun r55 =>
 (Li F r55.1 z53).bind fun r56 =>
 some (r56.1,(0,()))) F z39 z40 (r45.1++r41.1) z37 (Au z37) 0
 else
 none) F x0 (Cc (Au x0) (0:Int)) (Cc (Au x0) (0:Int)) [] x0 (Au x0) 0
 else
 none
 else
 none
def Nr(F:Nat)(x0:qL)(x1:Int)(x2:Int):Option (Bool×Unit) :=
 bif leI 0 x1 then
 bif leI x1 (Au x0) then
 bif leI 0 x2 then
 some (leI x2 4096,())
 else
 some (false,())
 else
 some (false,())
 else
 some (false,())
def Pk(F:Nat)(x0:Int):Option (Bool×Unit) :=
 some (ltI x0 128,())
def B3(F:Nat){R:Type}(k0:Option R)(kret:Int→Option R):Nat→qL→Int→Int→Option R
 | 0,_,_,_=>none
 | n+1,x0,x7,x8 =>
 bif ltI x8 x7 then
 bif inI x8 (List.length x0) then
 (Pk F (Ak 0 x0 x8)).bind fun r4 =>
 bif r4.1 then
 kret x8
 else
 B3 F k0 kret n x0 x7 (As .i64 x8 1)
 else
 none
 else
 k0
def Ga(F:Nat)(x0:qL):Option (Int×Unit) :=
 B3 F (
 some ((-1),())) (fun z6 =>
 some (z6,())) F x0 (Au x0) 0
def Fz(F:Nat){R:Type}(kn:qL→Int→Option R)(kret:qL→Int→Option R)(x0:qL)(x8:Int)(x27:Bool):Option R :=
 bif x27 then
 kret [] 4
 else
 bif ltI x8 0 then
 kret [] 5
 else
 bif ltI 0 x8 then
 bif inI x8 (List.length x0) then
 bif eqI (Ak 0 x0 x8) 0 then
 kret [] 5
 else
 kn x0 x8
 else
 none
 else
 kn x0 x8
def Lj(F:Nat)(x0:qL)(x1:Int)(x2:Int):Option (qL×Int×Unit) :=
 bif ltI x1 0 then
 some ([],(2,()))
 else
 bif ltI (Au x0) x1 then
 some ([],(2,()))
 else
 bif J1 x1 (Au x0) (List.length x0) then
 bif J1 0 (Ze (Au (Cj x0 x1)) x2) (List.length (Cj x0 x1)) then
 (Ga F (B0 (Cj x0 x1) (Ze (Au (Cj x0 x1)) x2))).bind fun r8 =>
 bif ltI r8.1 0 then
 Fz F (fun z16 z17 =>
 bif J1 0 (As .i64 z17 1) (List.length z16) then
 some (B0 z16 (As .i64 z17 1),(0,()))
 else
 none) (fun z20 z21 =>
 some (z20,(z21,()))) (Cj x0 x1) r8.1 (ltI (Au (Cj x0 x1)) x2)
 else
 Fz F (fun z22 z23 =>
 bif J1 0 (As .i64 z23 1) (List.length z22) then
 some (B0 z22 (As .i64 z23 1),(0,()))
 else
 none) (fun z26 z27 =>
 some (z26,(z27,()))) (Cj x0 x1) r8.1 false
 else
 none
 else
 none
def Ic(F:Nat){R:Type}(k0:Int→qL→Int→Option R):Nat→Int→qL→Int→qL→Int→Int→Option R
 | 0,_,_,_,_,_,_=>none
 | n+1,x1,x7,x9,x30,x31,x32 =>
 bif ltI x32 x31 then
 bif inI x32 (List.length x30) then
 bif ltI (Iv .i64 7 x32) 0 then
 none
 else
 Ic F k0 n x1 x7 (orI .u64 x9 (Fs .u64 (IntKind.wrap .u64 (Iw (Ak 0 x30 x32) 128)) (Iv .i64 7 x32))) x30 x31 (As .i64 x32 1)
 else
 none
 else
 k0 x1 x7 x9
def Ns(F:Nat){R:Type}(kret:Int→Int→Int→Option R)(x1:Int)(x7:qL):Option R :=
 Ic F (fun z16 z17 z18 =>
 kret z18 (As .i64 z16 (Au z17)) 0) F x1 x7 0 x7 (Au x7) 0
def Pl(F:Nat)(x0:qL)(x1:Int):Option (Int×Int×Int×Unit) :=
 (Lj F x0 x1 10).bind fun r1 =>
 bif not (eqI r1.2.1 0) then
 some (0,(0,(r1.2.1,())))
 else
 bif eqI (Au r1.1) 10 then
 bif inI 9 (List.length r1.1) then
 bif ltI 1 (Ak 0 r1.1 9) then
 some (0,(0,(5,())))
 else
 Ns F (fun z21 z22 z23 =>
 some (z21,(z22,(z23,())))) x1 r1.1
 else
 none
 else
 Ns F (fun z24 z25 z26 =>
 some (z24,(z25,(z26,())))) x1 r1.1
def Ie(F:Nat)(x0:qL)(x1:Int)(x2:Int):Option (Int×Int×Int×Unit) :=
 (Pl F x0 x1).bind fun r1 =>
 bif not (eqI r1.2.2.1 0) then
 some (0,(0,(r1.2.2.1,())))
 else
 bif ltI (IntKind.wrap .u64 x2) r1.1 then
 some (0,(0,(10,())))
 else
 some (IntKind.wrap .i64 r1.1,(r1.2.1,(0,())))
def F0(F:Nat){R:Type}(k0:Int→qL→Option R)(kret:qL→Int→Int→Option R):Nat→qL→Int→qL→Int→Int→Option R
 | 0,_,_,_,_,_=>none
 | n+1,x0,x1,x9,x20,x21 =>
 bif ltI x21 x20 then
 (Pl F x0 x1).bind fun r6 =>
 bif not (eqI r6.2.2.1 0) then
 kret [] 0 r6.2.2.1
 else
 bif Bh ((List.length x9)+1) 8 then
 F0 F k0 kret n x0 r6.2.1 (x9++[r6.1]) x20 (As .i64 x21 1)
 else
 none
 else
 k0 x1 x9
def Hw(F:Nat)(x0:qL)(x1:Int)(x2:Int):Option (qL×Int×Int×Unit) :=
 bif Im 0 (Ze x2 (Bl .i64 (Au x0) x1)) 8 then
 F0 F (fun z10 z11 =>
 some (z11,(z10,(0,())))) (fun z12 z13 z14 =>
 some (z12,(z13,(z14,())))) F x0 x1 (Cc 0 (0:Int)) x2 0
 else
 none
def D0(F:Nat){R:Type}(k2:qL→Int→qL→Int→Int→Int→Option R):Nat→qL→Int→qL→Int→Int→Int→Int→Int→Option R
 | 0,_,_,_,_,_,_,_,_=>none
 | n+1,x0,x2,x8,x9,x10,x11,x23,x24 =>
 bif ltI x11 x2 then
 bif inI (Hi .i64 x9 8) (List.length x0) then
 bif ltI (Iw x9 8) 0 then
 none
 else
 bif ltI (Ze (Bl .i64 8 (Iw x9 8)) (Bl .i64 x2 x11)) 0 then
 none
 else
 bif inI x10 (List.length x8) then
 bif ltI x11 0 then
 none
 else
 bif inI x10 (List.length x8) then
 D0 F k2 n x0 x2 (B6 x8 x10 (orI .u64 (Ak 0 x8 x10) (Fs .u64 (V4 .u64 (IntKind.wrap .u64 (D6 .u8 (Ak 0 x0 (Hi .i64 x9 8)) (Iw x9 8))) (Bl .u64 (Fs .u64 1 (Ze (Bl .i64 8 (Iw x9 8)) (Bl .i64 x2 x11))) 1)) x11))) (As .i64 x9 (Ze (Bl .i64 8 (Iw x9 8)) (Bl .i64 x2 x11))) x10 (As .i64 x11 (Ze (Bl .i64 8 (Iw x9 8)) (Bl .i64 x2 x11))) x23 x24
 else
 none
 else
 none
 else
 none
 else
 k2 x0 x2 x8 x9 x23 x24
def D1(F:Nat){R:Type}(k0:qL→qL→Int→Option R):Nat→qL→Int→qL→Int→Int→Int→Option R
 | 0,_,_,_,_,_,_=>none
 | n+1,x0,x2,x8,x9,x23,x24 =>
 bif ltI x24 x23 then
 D0 F (fun z26 z27 z28 z29 z30 z31 =>
 D1 F k0 n z26 z27 z28 z29 z30 (As .i64 z31 1)) F x0 x2 x8 x9 x24 0 x23 x24
 else
 k0 x0 x8 x9
def D9(F:Nat)(x0:qL)(x1:Int)(x2:Int):Option (qL×Bool×Unit) :=
 (Ju F x1 x2).bind fun r1 =>
 bif not (eqI r1.1 (Au x0)) then
 some ([],(false,()))
 else
 bif Im x1 x1 8 then
 D1 F (fun z33 z34 z35 =>
 bif ltI 0 (Iw z35 8) then
 bif inI (Hi .i64 z35 8) (List.length z33) then
 bif ltI (Iw z35 8) 0 then
 none
 else
 bif not (eqI (D6 .u8 (Ak 0 z33 (Hi .i64 z35 8)) (Iw z35 8)) 0) then
 some ([],(false,()))
 else
 some (z34,(true,()))
 else
 none
 else
 some (z34,(true,()))) F x0 x2 (Cc x1 (0:Int)) 0 (Au (Cc x1 (0:Int))) 0
 else
 none
def Gu(F:Nat)(x0:qL)(x1:Int)(x2:Int):Option (qL×Int×Int×Unit) :=
 bif leI (Au x0) x1 then
 some ([],(0,(4,())))
 else
 bif inI x1 (List.length x0) then
 bif ltI 64 (Ak 0 x0 x1) then
 some ([],(0,(5,())))
 else
 bif inI x1 (List.length x0) then
 (Ju F x2 (IntKind.wrap .i64 (Ak 0 x0 x1))).bind fun r8 =>
 bif ltI (Bl .i64 (Au x0) (As .i64 x1 1)) r8.1 then
 some ([],(0,(4,())))
 else
 let x45v12:=As .i64 (As .i64 x1 1) r8.1
 bif J1 (As .i64 x1 1) x45v12 (List.length x0) then
 (D9 F (Cj (B0 x0 x45v12) (As .i64 x1 1)) x2 (IntKind.wrap .i64 (Ak 0 x0 x1))).bind fun r14 =>
 bif not r14.2.1 then
 some ([],(0,(5,())))
 else
 some (r14.1,(As .i64 (As .i64 x1 1) r8.1,(0,())))
 else
 none
 else
 none
 else
 none
def Dr(F:Nat){R:Type}(k0:Option R)(kret:Bool→Option R):Nat→qL→qL→Int→Int→Option R
 | 0,_,_,_,_=>none
 | n+1,x0,x1,x12,x13 =>
 bif ltI x13 x12 then
 bif inI x13 (List.length x0) then
 bif inI x13 (List.length x1) then
 bif not (eqI (Ak 0 x0 x13) (Ak 0 x1 x13)) then
 kret false
 else
 Dr F k0 kret n x0 x1 x12 (As .i64 x13 1)
 else
 none
 else
 none
 else
 k0
def Bb(F:Nat)(x0:qL)(x1:qL):Option (Bool×Unit) :=
 bif not (eqI (Au x0) (Au x1)) then
 some (false,())
 else
 Dr F (
 some (true,())) (fun z10 =>
 some (z10,())) F x0 x1 (Au x0) 0
def Cw(F:Nat){R:Type}(kn:qL→Int→Int→Option R)(kret:qL→Int→Int→Option R)(x0:qL)(x1:Int)(x2:Int)(x14:Bool):Option R :=
 bif x14 then
 kret [] 0 2
 else
 bif eqI x1 (Au x0) then
 kret [] 0 4
 else
 bif inI x1 (List.length x0) then
 bif ltI 1 (Ak 0 x0 x1) then
 kret [] 0 5
 else
 kn x0 x1 x2
 else
 none
def Ch(F:Nat)(x0:qL)(x1:Int)(x2:Int):Option (qL×Int×Int×Unit) :=
 bif ltI x1 0 then
 Cw F (fun z6 z7 z8 =>
 bif inI z7 (List.length z6) then
 bif eqI (Ak 0 z6 z7) 1 then
 (Gu F z6 (As .i64 z7 1) z8).bind fun r12 =>
 bif not (eqI r12.2.2.1 0) then
 some ([],(0,(r12.2.2.1,())))
 else
 (Bn F r12.1).bind fun r14 =>
 bif not (eqI r14.2.1 0) then
 some ([],(0,(5,())))
 else
 bif J1 z7 r12.2.1 (List.length z6) then
 (Bb F r14.1 (Cj (B0 z6 r12.2.1) z7)).bind fun r17 =>
 bif not r17.1 then
 some ([],(0,(5,())))
 else
 some (r12.1,(r12.2.1,(0,())))
 else
 none
 else
 (Hw F z6 (As .i64 z7 1) z8).bind fun r20 =>
 bif not (eqI r20.2.2.1 0) then
 some ([],(0,(r20.2.2.1,())))
 else
 (Bn F r20.1).bind fun r22 =>
 bif not (eqI r22.2.1 0) then
 some ([],(0,(5,())))
 else
 bif J1 z7 r20.2.1 (List.length z6) then
 (Bb F r22.1 (Cj (B0 z6 r20.2.1) z7)).bind fun r25 =>
 bif not r25.1 then
 some ([],(0,(5,())))
 else
 some (r20.1,(r20.2.1,(0,())))
 else
 none
 else
 none) (fun z27 z28 z29 =>
 some (z27,(z28,(z29,())))) x0 x1 x2 true
 else
 bif ltI (Au x0) x1 then
 Cw F (fun z32 z33 z34 =>
 bif inI z33 (List.length z32) then
 bif eqI (Ak 0 z32 z33) 1 then
 (Gu F z32 (As .i64 z33 1) z34).bind fun r38 =>
 bif not (eqI r38.2.2.1 0) then
 some ([],(0,(r38.2.2.1,())))
 else
 (Bn F r38.1).bind fun r40 =>
 bif not (eqI r40.2.1 0) then
 some ([],(0,(5,())))
 else
 bif J1 z33 r38.2.1 (List.length z32) then
 (Bb F r40.1 (Cj (B0 z32 r38.2.1) z33)).bind fun r43 =>
 bif not r43.1 then
 some ([],(0,(5,())))
 else
 some (r38.1,(r38.2.1,(0,())))
 else
 none
 else
 (Hw F z32 (As .i64 z33 1) z34).bind fun r46 =>
 bif not (eqI r46.2.2.1 0) then
 some ([],(0,(r46.2.2.1,())))
 else
 (Bn F r46.1).bind fun r48 =>
 bif not (eqI r48.2.1 0) then
 some ([],(0,(5,())))
 else
 bif J1 z33 r46.2.1 (List.length z32) then
 (Bb F r48.1 (Cj (B0 z32 r46.2.1) z33)).bind fun r51 =>
 bif not r51.1 then
 some ([],(0,(5,())))
 else
 some (r46.1,(r46.2.1,(0,())))
 else
 none
 else
 none) (fun z53 z54 z55 =>
 some (z53,(z54,(z55,())))) x0 x1 x2 true
 else
 bif ltI x2 0 then
 Cw F (fun z57 z58 z59 =>
 bif inI z58 (List.length z57) then
 bif eqI (Ak 0 z57 z58) 1 then
 (Gu F z57 (As .i64 z58 1) z59).bind fun r63 =>
 bif not (eqI r63.2.2.1 0) then
 some ([],(0,(r63.2.2.1,())))
 else
 (Bn F r63.1).bind fun r65 =>
 bif not (eqI r65.2.1 0) then
 some ([],(0,(5,())))
 else
 bif J1 z58 r63.2.1 (List.length z57) then
 (Bb F r65.1 (Cj (B0 z57 r63.2.1) z58)).bind fun r68 =>
 bif not r68.1 then
 some ([],(0,(5,())))
 else
 some (r63.1,(r63.2.1,(0,())))
 else
 none
 else
 (Hw F z57 (As .i64 z58 1) z59).bind fun r71 =>
 bif not (eqI r71.2.2.1 0) then
 some ([],(0,(r71.2.2.1,())))
 else
 (Bn F r71.1).bind fun r73 =>
 bif not (eqI r73.2.1 0) then
 some ([],(0,(5,())))
 else
 bif J1 z58 r71.2.1 (List.length z57) then
 (Bb F r73.1 (Cj (B0 z57 r71.2.1) z58)).bind fun r76 =>
 bif not r76.1 then
 some ([],(0,(5,())))
 else
 some (r71.1,(r71.2.1,(0,())))
 else
 none
 else
 none) (fun z78 z79 z80 =>
 some (z78,(z79,(z80,())))) x0 x1 x2 true
 else
 Cw F (fun z82 z83 z84 =>
 bif inI z83 (List.length z82) then
 bif eqI (Ak 0 z82 z83) 1 then
 (Gu F z82 (As .i64 z83 1) z84).bind fun r88 =>
 bif not (eqI r88.2.2.1 0) then
 some ([],(0,(r88.2.2.1,())))
 else
 (Bn F r88.1).bind fun r90 =>
 bif not (eqI r90.2.1 0) then
 some ([],(0,(5,())))
 else
 bif J1 z83 r88.2.1 (List.length z82) then
 (Bb F r90.1 (Cj (B0 z82 r88.2.1) z83)).bind fun r93 =>
 bif not r93.1 then
 some ([],(0,(5,())))
 else
 some (r88.1,(r88.2.1,(0,())))
 else
 none
 else
 (Hw F z82 (As .i64 z83 1) z84).bind fun r96 =>
 bif not (eqI r96.2.2.1 0) then
 some ([],(0,(r96.2.2.1,())))
 else
 (Bn F r96.1).bind fun r98 =>
 bif not (eqI r98.2.1 0) then
 some ([],(0,(5,())))
 else
 bif J1 z83 r96.2.1 (List.length z82) then
 (Bb F r98.1 (Cj (B0 z82 r96.2.1) z83)).bind fun r101 =>
 bif not r101.1 then
 some ([],(0,(5,())))
 else
 some (r96.1,(r96.2.1,(0,())))
 else
 none
 else
 none) (fun z103 z104 z105 =>
 some (z103,(z104,(z105,())))) x0 x1 x2 (ltI 65536 x2)
def Lk(F:Nat)(x0:Int):Option (Int×Unit) :=
 some (AjO .i64 (IntKind.wrap .i64 (D6 .u64 x0 1)) (Bl .i64 0 (IntKind.wrap .i64 (V4 .u64 x0 1))),())
def Ca(F:Nat){R:Type}(kn:qL→Int→Int→Option R)(kret:qL→Int→Int→Option R)(x0:qL)(x1:Int)(x2:Int)(x16:Bool):Option R :=
 bif x16 then
 kret [] 0 2
 else
 bif eqI x1 (Au x0) then
 kret [] 0 4
 else
 bif inI x1 (List.length x0) then
 bif ltI 2 (Ak 0 x0 x1) then
 kret [] 0 5
 else
 kn x0 x1 x2
 else
 none
def D3(F:Nat){R:Type}(k1:qL→Int→Int→qL→Option R):Nat→qL→Int→Int→qL→qL→Int→Int→Option R
 | 0,_,_,_,_,_,_,_=>none
 | n+1,x0,x1,x10,x12,x58,x59,x60 =>
 bif ltI x60 x59 then
 bif inI x60 (List.length x58) then
 (Lk F (Ak 0 x58 x60)).bind fun r16 =>
 bif inI x60 (List.length x12) then
 D3 F k1 n x0 x1 x10 (B6 x12 x60 r16.1) x58 x59 (As .i64 x60 1)
 else
 none
 else
 none
 else
 k1 x0 x1 x10 x12
def C7(F:Nat){R:Type}(kn:qL→Int→Int→qL→Option R)(x0:qL)(x1:Int)(x10:Int)(x12:qL)(x58:qL)(x59:Int)(x60:Int):Option R :=
 D3 F (fun z19 z20 z21 z22 =>
 kn z19 z20 z21 z22) F x0 x1 x10 x12 x58 x59 x60
def Dk(F:Nat)(x0:qL)(x1:Int)(x2:Int):Option (qL×Int×Int×Unit) :=
 bif ltI x1 0 then
 Ca F (fun z6 z7 z8 =>
 (Ch F z6 (As .i64 z7 1) z8).bind fun r10 =>
 bif not (eqI r10.2.2.1 0) then
 some ([],(0,(r10.2.2.1,())))
 else
 bif Im z8 z8 8 then
 C7 F (fun z23 z24 z25 z26 =>
 bif inI z24 (List.length z23) then
 (Fw F z26 (IntKind.wrap .i64 (Ak 0 z23 z24))).bind fun r29 =>
 (Ee F r29.1).bind fun r30 =>
 bif not (eqI r30.2.1 0) then
 some ([],(0,(5,())))
 else
 bif J1 z24 z25 (List.length z23) then
 (Bb F r30.1 (Cj (B0 z23 z25) z24)).bind fun r33 =>
 bif not r33.1 then
 some ([],(0,(5,())))
 else
 some (r29.1,(z25,(0,())))
 else
 none
 else
 none) z6 z7 r10.2.1 (Cc z8 (0:Int)) r10.1 (Au r10.1) 0
 else
 none) (fun z35 z36 z37 =>
 some (z35,(z36,(z37,())))) x0 x1 x2 true
 else
 bif ltI (Au x0) x1 then
 Ca F (fun z40 z41 z42 =>
 (Ch F z40 (As .i64 z41 1) z42).bind fun r44 =>
 bif not (eqI r44.2.2.1 0) then
 some ([],(0,(r44.2.2.1,())))
 else
 bif Im z42 z42 8 then
 C7 F (fun z48 z49 z50 z51 =>
 bif inI z49 (List.length z48) then
 (Fw F z51 (IntKind.wrap .i64 (Ak 0 z48 z49))).bind fun r54 =>
 (Ee F r54.1).bind fun r55 =>
 bif not (eqI r55.2.1 0) then
 some ([],(0,(5,())))
 else
 bif J1 z49 z50 (List.length z48) then
 (Bb F r55.1 (Cj (B0 z48 z50) z49)).bind fun r58 =>
 bif not r58.1 then
 some ([],(0,(5,())))
 else
 some (r54.1,(z50,(0,())))
 else
 none
 else
 none) z40 z41 r44.2.1 (Cc z42 (0:Int)) r44.1 (Au r44.1) 0
 else
 none) (fun z60 z61 z62 =>
 some (z60,(z61,(z62,())))) x0 x1 x2 true
 else
 bif ltI x2 0 then
 Ca F (fun z64 z65 z66 =>
 (Ch F z64 (As .i64 z65 1) z66).bind fun r68 =>
 bif not (eqI r68.2.2.1 0) then
 some ([],(0,(r68.2.2.1,())))
 else
 bif Im z66 z66 8 then
 C7 F (fun z72 z73 z74 z75 =>
 bif inI z73 (List.length z72) then
 (Fw F z75 (IntKind.wrap .i64 (Ak 0 z72 z73))).bind fun r78 =>
 (Ee F r78.1).bind fun r79 =>
 bif not (eqI r79.2.1 0) then
 some ([],(0,(5,())))
 else
 bif J1 z73 z74 (List.length z72) then
 (Bb F r79.1 (Cj (B0 z72 z74) z73)).bind fun r82 =>
 bif not r82.1 then
 some ([],(0,(5,())))
 else
 some (r78.1,(z74,(0,())))
 else
 none
 else
 none) z64 z65 r68.2.1 (Cc z66 (0:Int)) r68.1 (Au r68.1) 0
 else
 none) (fun z84 z85 z86 =>
 some (z84,(z85,(z86,())))) x0 x1 x2 true
 else
 Ca F (fun z88 z89 z90 =>
 (Ch F z88 (As .i64 z89 1) z90).bind fun r92 =>
 bif not (eqI r92.2.2.1 0) then
 some ([],(0,(r92.2.2.1,())))
 else
 bif Im z90 z90 8 then
 C7 F (fun z96 z97 z98 z99 =>
 bif inI z97 (List.length z96) then
 (Fw F z99 (IntKind.wrap .i64 (Ak 0 z96 z97))).bind fun r102 =>
 (Ee F r102.1).bind fun r103 =>
 bif not (eqI r103.2.1 0) then
 some ([],(0,(5,())))
 else
 bif J1 z97 z98 (List.length z96) then
 (Bb F r103.1 (Cj (B0 z96 z98) z97)).bind fun r106 =>
 bif not r106.1 then
 some ([],(0,(5,())))
 else
 some (r102.1,(z98,(0,())))
 else
 none
 else
 none) z88 z89 r92.2.1 (Cc z90 (0:Int)) r92.1 (Au r92.1) 0
 else
 none) (fun z108 z109 z110 =>
 some (z108,(z109,(z110,())))) x0 x1 x2 (ltI 65536 x2)
def Iu(F:Nat){R:Type}(k2:Int→qW→qL→qL→Int→Option R):Nat→Int→qW→qL→qL→Int→Int→Option R
 | 0,_,_,_,_,_,_=>none
 | n+1,x1,x4,x7,x9,x10,x11 =>
 bif ltI 0 x11 then
 bif inI x11 5 then
 bif inI (Bl .i64 x11 1) 5 then
 bif inI x11 5 then
 Iu F k2 n x1 x4 x7 (B6 x9 x11 (orI .u64 (Fs .u64 (Ak 0 x9 x11) 7) (D6 .u64 (Ak 0 x9 (Bl .i64 x11 1)) 57))) x10 (Bl .i64 x11 1)
 else
 none
 else
 none
 else
 none
 else
 k2 x1 x4 x7 x9 x10
def El(F:Nat){R:Type}(k0:Int→qW→qL→qL→Option R):Nat→Int→qW→qL→qL→Int→Option R
 | 0,_,_,_,_,_=>none
 | n+1,x1,x4,x7,x9,x10 =>
 bif leI 0 x10 then
 Iu F (fun z15 z16 z17 z18 z19 =>
 bif inI z19 (List.length z17) then
 El F k0 n z15 z16 z17 (B6 z18 0 (orI .u64 (Fs .u64 (Ak 0 z18 0) 7) (IntKind.wrap .u64 (Iw (Ak 0 z17 z19) 128)))) (Bl .i64 z19 1)
 else
 none) F x1 x4 x7 x9 x10 4
 else
 k0 x1 x4 x7 x9
def Hx(F:Nat){R:Type}(k4:Int→qW→qL→qL→qW→Option R):Nat→Int→qW→qL→qL→qW→Int→Option R
 | 0,_,_,_,_,_,_=>none
 | n+1,x1,x4,x7,x9,x12,x63 =>
 bif ltI x63 4 then
 bif inI x63 5 then
 bif inI (As .i64 x63 1) 5 then
 bif inI x63 4 then
 Hx F k4 n x1 x4 x7 x9 (x12.1,(B6 x12.2.1 x63 (orI .u64 (D6 .u64 (Ak 0 x9 x63) 1) (Fs .u64 (Ak 0 x9 (As .i64 x63 1)) 63)),x12.2.2)) (As .i64 x63 1)
 else
 none
 else
 none
 else
 none
 else
 k4 x1 x4 x7 x9 x12
def Ll(F:Nat)(x0:qL)(x1:Int):Option (qW×Int×Int×Unit) :=
 (Lj F x0 x1 37).bind fun r1 =>
 bif not (eqI r1.2.1 0) then
 some ((false,([0,0,0,0],())),(0,(r1.2.1,())))
 else
 El F (fun z28 z29 z30 z31 =>
 Hx F (fun z43 z44 z45 z46 z47 =>
 bif ltI 1 (Ak 0 z46 4) then
 some ((false,([0,0,0,0],())),(0,(5,())))
 else
 (Js F z47).bind fun r50 =>
 bif not r50.1 then
 some ((false,([0,0,0,0],())),(0,(5,())))
 else
 some (z47,(As .i64 z43 (Au z45),(0,())))) F z28 z29 z30 z31 (eqI (Iw (Ak 0 z31 0) 2) 1,([0,0,0,0],())) 0) F x1 (false,([0,0,0,0],())) r1.1 [0,0,0,0,0] (Bl .i64 (Au r1.1) 1)
def B2(F:Nat){R:Type}(k0:Int→qR→(List qW)→Option R)(kret:qR→Int→Int→Option R):Nat→qL→Int→qR→(List qW)→Int→Option R
 | 0,_,_,_,_,_=>none
 | n+1,x0,x1,x4,x7,x13 =>
 bif ltI x13 2 then
 (Ll F x0 x1).bind fun r2 =>
 bif not (eqI r2.2.2.1 0) then
 kret ((false,([0,0,0,0],())),((false,([0,0,0,0],())),())) 0 r2.2.2.1
 else
 bif inI x13 2 then
 B2 F k0 kret n x0 r2.2.1 x4 (B6 x7 x13 r2.1) (As .i64 x13 1)
 else
 none
 else
 k0 x1 x4 x7
def Ow(F:Nat)(x0:qL)(x1:Int):Option (qR×Int×Int×Unit) :=
 B2 F (fun z6 z7 z8 =>
 let x33v9:=Ak (false,([0,0,0,0],())) z8 0
 let x35v10:=Ak (false,([0,0,0,0],())) z8 1
 (Lb F x35v10).bind fun r11 =>
 bif leI r11.1 0 then
 some (((false,([0,0,0,0],())),((false,([0,0,0,0],())),())),(0,(5,())))
 else
 (I8 F (x33v9,(x35v10,()))).bind fun r13 =>
 bif not r13.1 then
 some (((false,([0,0,0,0],())),((false,([0,0,0,0],())),())),(0,(5,())))
 else
 some ((x33v9,(x35v10,())),(z6,(0,())))) (fun z15 z16 z17 =>
 some (z15,(z16,(z17,())))) F x0 x1 ((false,([0,0,0,0],())),((false,([0,0,0,0],())),())) [(false,([0,0,0,0],())),(false,([0,0,0,0],()))] 0
def Em(F:Nat){R:Type}(k0:Int→(List qGN)→Option R)(kret:(List qGN)→Int→Int→Option R):Nat→qL→Int→(List qGN)→qL→Int→Int→Option R
 | 0,_,_,_,_,_,_=>none
 | n+1,x0,x1,x11,x30,x31,x32 =>
 bif ltI x32 x31 then
 bif inI x32 (List.length x30) then
 (Ow F x0 x1).bind fun r7 =>
 bif not (eqI r7.2.2.1 0) then
 kret [] 0 r7.2.2.1
 else
 bif inI x32 (List.length x11) then
 Em F k0 kret n x0 r7.2.1 (B6 x11 x32 (Ak 0 x30 x32,(r7.1,((),())))) x30 x31 (As .i64 x32 1)
 else
 none
 else
 none
 else
 k0 x1 x11
def I9(F:Nat)(x0:qL)(x1:Int)(x2:Int):Option ((List qGN)×Int×Int×Unit) :=
 (Dk F x0 x1 x2).bind fun r1 =>
 bif not (eqI r1.2.2.1 0) then
 some ([],(0,(r1.2.2.1,())))
 else
 bif Im x2 x2 112 then
 Em F (fun z11 z12 =>
 some (z12,(z11,(0,())))) (fun z13 z14 z15 =>
 some (z13,(z14,(z15,())))) F x0 r1.2.1 (Cc x2 ((0,(((false,([0,0,0,0],())),((false,([0,0,0,0],())),())),((),()))):qGN)) r1.1 (Au r1.1) 0
 else
 none
def Fg(F:Nat){R:Type}(k0:Int→qL→Int→Option R):Nat→Int→Int→qL→Int→qL→Int→Int→Option R
 | 0,_,_,_,_,_,_,_=>none
 | n+1,x3,x13,x15,x16,x32,x33,x34 =>
 bif ltI x34 x33 then
 bif inI x34 (List.length x32) then
 bif inI x34 (List.length x15) then
 bif inI x34 (List.length (B6 x15 x34 (As .i64 (IntKind.wrap .i64 (Ze (Ak 0 x32 x34) (IntKind.wrap .u64 x3))) 1))) then
 Fg F k0 n x3 x13 (B6 x15 x34 (As .i64 (IntKind.wrap .i64 (Ze (Ak 0 x32 x34) (IntKind.wrap .u64 x3))) 1)) (Ze (As .i64 x16 (Ak 0 (B6 x15 x34 (As .i64 (IntKind.wrap .i64 (Ze (Ak 0 x32 x34) (IntKind.wrap .u64 x3))) 1)) x34)) (As .i64 x3 1)) x32 x33 (As .i64 x34 1)
 else
 none
 else
 none
 else
 none
 else
 k0 x13 x15 x16
def J6(F:Nat)(x0:qL)(x1:Int)(x2:Int)(x3:Int):Option (qL×Int×Int×Int×Unit) :=
 (Ch F x0 x1 x2).bind fun r1 =>
 bif not (eqI r1.2.2.1 0) then
 some ([],(0,(0,(r1.2.2.1,()))))
 else
 bif Im x2 x2 8 then
 Fg F (fun z17 z18 z19 =>
 some (z18,(z19,(z17,(0,()))))) F x3 r1.2.1 (Cc x2 (0:Int)) 0 r1.1 (Au r1.1) 0
 else
 none
def Dd(F:Nat)(ok:Bool)(total size:Int):Nat→Int→Int→List Int→List Int→Option (Bool×List Int×List Int)
 | 0,_,_,_,_=>none
 | n+1,j,next,steps,xs =>
 bif ltI j size then
 bif inI 0 (List.length steps) then
 bif leI (IntKind.wrap .u64 (Bl .i64 total next)) (Ak 0 steps 0) then
 some (false,steps,xs)
 else
 bif ok then
 bif Bh (List.length xs+1) 8 then
 bif J1 1 (Au steps) (List.length steps) then
 Dd F ok total size n (As .i64 j 1) (As .i64 (As .i64 next (IntKind.wrap .i64 (Ak 0 steps 0))) 1) (Cj steps 1) (xs++[As .i64 next (IntKind.wrap .i64 (Ak 0 steps 0))])
 else none
 else none
 else none
 else none
 else
 some (true,steps,xs)
def Ck(F:Nat)(m:Nat)(total:Int)(sizes:List Int)(top:Int):Nat→Int→List Int→List qL→Option (Bool×List qL)
 | 0,_,_,_=>none
 | n+1,i,steps,D =>
 bif ltI i top then
 bif inI i (List.length sizes) then
 (Dd F (inI i m) total (Ak 0 sizes i) F 0 0 steps []).bind fun r =>
 bif r.1 then(bif eqI (As .i64 i 1) (Au D+1) then Ck F m total sizes top n (As .i64 i 1) r.2.1 (D++[r.2.2]) else none) else some (false,D++[r.2.2])
 else none
 else
 some (true,D)
def He(F:Nat){R:Type}{A:Type}(k0:List (Int×(A×(List Int×Unit)))→Option R)(kret:List (Int×(A×(List Int×Unit)))→Bool→Option R)(n:Nat)(x0:List (Int×(A×(Unit×Unit))))(x2:List Int)(x3:Int)(x12:List Int)(x13 x14:Int):Option R :=
 bif eqI x14 0 then
 (Ck F (List.length x0) x3 x12 x13 n 0 x2 []).bind fun r=>bif r.1 then k0 (Ec x0 r.2) else kret (Ec x0 r.2) false
 else none
def Nt(F:Nat)(x0:(List qGN))(x1:qL)(x2:qL)(x3:Int):Option ((List qG)×Bool×Unit) :=
 He F (fun z2 =>
 some (z2,(true,()))) (fun z3 z4 =>
 some (z3,(z4,()))) F x0 x2 x3 x1 (Au x1) 0
def Jv(F:Nat)(x0:qG):Option (Bool×Unit) :=
 bif inI 0 (List.length x0.2.2.1) then
 some (eqI (Ak 0 x0.2.2.1 0) 0,())
 else
 none
def Bf(F:Nat){R:Type}(k0:Option R)(kret:Int→Option R):Nat→(List qG)→Int→Int→Option R
 | 0,_,_,_=>none
 | n+1,x0,x7,x8 =>
 bif ltI x8 x7 then
 bif inI x8 (List.length x0) then
 (Jv F (Ak (0,(((false,([0,0,0,0],())),((false,([0,0,0,0],())),())),([],()))) x0 x8)).bind fun r4 =>
 bif r4.1 then
 kret x8
 else
 Bf F k0 kret n x0 x7 (As .i64 x8 1)
 else
 none
 else
 k0
def Gv(F:Nat)(x0:(List qG)):Option (Int×Unit) :=
 Bf F (
 some ((-1),())) (fun z6 =>
 some (z6,())) F x0 (Au x0) 0
def Cl(F:Nat)(x0:(List qG)):Option (Bool×Unit) :=
 (Gv F x0).bind fun r1 =>
 some (leI 0 r1.1,())
def Bi(F:Nat)(x0:qL)(x1:Int)(x2:Int):Option ((List qG)×Int×Int×Unit) :=
 (Nr F x0 x1 x2).bind fun r1 =>
 bif not r1.1 then
 some ([],(0,(2,())))
 else
 (Ie F x0 x1 x2).bind fun r3 =>
 bif not (eqI r3.2.2.1 0) then
 some ([],(0,(r3.2.2.1,())))
 else
 (I9 F x0 r3.2.1 r3.1).bind fun r5 =>
 bif not (eqI r5.2.2.1 0) then
 some ([],(0,(r5.2.2.1,())))
 else
 (J6 F x0 r5.2.1 r3.1 x2).bind fun r7 =>
 bif not (eqI r7.2.2.2.1 0) then
 some ([],(0,(r7.2.2.2.1,())))
 else
 bif ltI x2 r7.2.1 then
 some ([],(0,(10,())))
 else
 (Ch F x0 r7.2.2.1 r7.2.1).bind fun r10 =>
 bif not (eqI r10.2.2.1 0) then
 some ([],(0,(r10.2.2.1,())))
 else
 (Nt F r5.1 r7.1 r10.1 x2).bind fun r12 =>
 bif not r12.2.1 then
 some ([],(0,(10,())))
 else
 (Gs F r12.1).bind fun r14 =>
 bif not (eqI r14.1 0) then
 some ([],(0,(5,())))
 else
 bif ltI 0 x2 then
 (Cl F r12.1).bind fun r17 =>
 bif not r17.1 then
 some ([],(0,(10,())))
 else
 some (r12.1,(r10.2.1,(0,())))
 else
 some (r12.1,(r10.2.1,(0,())))
def Jw(F:Nat){R:Type}(k0:Option R)(kret:Bool→Option R):Nat→qL→qL→Int→Option R
 | 0,_,_,_=>none
 | n+1,x0,x1,x5 =>
 bif ltI x5 (Au x0) then
 bif inI x5 (List.length x0) then
 bif inI x5 (List.length x1) then
 bif not (eqI (Ak 0 x0 x5) (Ak 0 x1 x5)) then
 kret false
 else
 Jw F k0 kret n x0 x1 (As .i64 x5 1)
 else
 none
 else
 none
 else
 k0
def Hf(F:Nat)(x0:qL)(x1:qL):Option (Bool×Unit) :=
 bif not (eqI (Au x0) (Au x1)) then
 some (false,())
 else
 Jw F (
 some (true,())) (fun z10 =>
 some (z10,())) F x0 x1 0
def Pm(F:Nat) :Option (Bool×Unit) :=
 (Sn F 2).bind fun r1 =>
 (Sn F 4).bind fun r2 =>
 (Fm F [(0,(r1.1,([0,5],()))),(0,(r2.1,([9],())))]).bind fun r3 =>
 (Bi F r3.1 0 10).bind fun r4 =>
 bif eqI r3.2.1 0 then
 bif eqI r4.2.2.1 0 then
 bif eqI r4.2.1 (Au r3.1) then
 (Hf F r3.1 [2,0,1,0,4,2,8,2,0,1,0,0,0,4,9]).bind fun r9 =>
 bif r9.1 then
 bif eqI (Au r4.1) 2 then
 bif inI 0 (List.length r4.1) then
 some (eqI (Au (Ak (0,(((false,([0,0,0,0],())),((false,([0,0,0,0],())),())),([],()))) r4.1 0).2.2.1) 2,())
 else
 none
 else
 some (false,())
 else
 some (false,())
 else
 some (false,())
 else
 some (false,())
 else
 some (false,())
def Wu(F:Nat){R:Type}(k2:(List qG)→(List qG)→Int→Option R)(kret:Bool→Option R):Nat→(List qG)→(List qG)→Int→Int→Option R
 | 0,_,_,_,_=>none
 | n+1,x0,x1,x5,x6 =>
 bif inI x5 (List.length x0) then
 bif ltI x6 (Au (Ak (0,(((false,([0,0,0,0],())),((false,([0,0,0,0],())),())),([],()))) x0 x5).2.2.1) then
 bif inI x5 (List.length x0) then
 let x71v20:=(Ak (0,(((false,([0,0,0,0],())),((false,([0,0,0,0],())),())),([],()))) x0 x5).2.2.1
 bif inI x6 (List.length x71v20) then
 bif inI x5 (List.length x1) then
 let x79v22:=(Ak (0,(((false,([0,0,0,0],())),((false,([0,0,0,0],())),())),([],()))) x1 x5).2.2.1
 bif inI x6 (List.length x79v22) then
 bif not (eqI (Ak 0 x71v20 x6) (Ak 0 x79v22 x6)) then
 kret false
 else
 Wu F k2 kret n x0 x1 x5 (As .i64 x6 1)
 else
 none
 else
 none
 else
 none
 else
 none
 else
 k2 x0 x1 x5
 else
 none
def Wv(F:Nat){R:Type}(k0:Option R)(kret:Bool→Option R):Nat→(List qG)→(List qG)→Int→Option R
 | 0,_,_,_=>none
 | n+1,x0,x1,x5 =>
 bif ltI x5 (Au x0) then
 bif inI x5 (List.length x0) then
 bif inI x5 (List.length x1) then
 bif not (eqI (Ak (0,(((false,([0,0,0,0],())),((false,([0,0,0,0],())),())),([],()))) x0 x5).1 (Ak (0,(((false,([0,0,0,0],())),((false,([0,0,0,0],())),())),([],()))) x1 x5).1) then
 kret false
 else
 bif inI x5 (List.length x0) then
 bif inI x5 (List.length x1) then
 bif not (eqT (.pair (.pair .bool (.pair (.arr 4 (.int .u64)) .unit)) (.pair (.pair .bool (.pair (.arr 4 (.int .u64)) .unit)) .unit)) (Ak (0,(((false,([0,0,0,0],())),((false,([0,0,0,0],())),())),([],()))) x0 x5).2.1 (Ak (0,(((false,([0,0,0,0],())),((false,([0,0,0,0],())),())),([],()))) x1 x5).2.1) then
 kret false
 else
 bif inI x5 (List.length x0) then
 bif inI x5 (List.length x1) then
 bif not (eqI (Au (Ak (0,(((false,([0,0,0,0],())),((false,([0,0,0,0],())),())),([],()))) x0 x5).2.2.1) (Au (Ak (0,(((false,([0,0,0,0],())),((false,([0,0,0,0],())),())),([],()))) x1 x5).2.2.1)) then
 kret false
 else
 Wu F (fun z26 z27 z28 =>
 Wv F k0 kret n z26 z27 (As .i64 z28 1)) (fun z30 =>
 kret z30) F x0 x1 x5 0
 else
 none
 else
 none
 else
 none
 else
 none
 else
 none
 else
 none
 else
 k0
def AcL(F:Nat)(x0:(List qG))(x1:(List qG)):Option (Bool×Unit) :=
 bif not (eqI (Au x0) (Au x1)) then
 some (false,())
 else
 Wv F (
 some (true,())) (fun z31 =>
 some (z31,())) F x0 x1 0
def Akc(F:Nat)(x0:qL)(x1:qL)(x2:qL):Option (Bool×Unit) :=
 (Wp F x0).bind fun r1 =>
 (O2 F r1.1).bind fun r2 =>
 (Fm F r2.2.1).bind fun r3 =>
 bif Bh (0+(List.length x1)) 1 then
 bif Bh ((List.length ([]++x1))+(List.length r3.1)) 1 then
 bif Bh ((List.length (([]++x1)++r3.1))+(List.length x2)) 1 then
 (Bi F ((([]++x1)++r3.1)++x2) (Au x1) r2.2.2.1).bind fun r8 =>
 (Pm F).bind fun r9 =>
 bif r9.1 then
 bif eqI r3.2.1 0 then
 bif eqI r8.2.2.1 0 then
 bif eqI r8.2.1 (As .i64 (Au x1) (Au r3.1)) then
 (AcL F r2.2.1 r8.1).bind fun r16 =>
 some (r16.1,())
 else
 some (false,())
 else
 some (false,())
 else
 some (false,())
 else
 some (false,())
 else
 none
 else
 none
 else
 none
def Ig(F:Nat){R:Type}(k0:qTP→qL→Option R):Nat→qTP→Int→qL→Int→Option R
 | 0,_,_,_,_=>none
 | n+1,x0,x3,x4,x5 =>
 bif leI x5 x3 then
 (Al F x0 4).bind fun r11 =>
 bif Bh ((List.length x4)+1) 1 then
 Ig F k0 n r11.1 x3 (x4++[IntKind.wrap .u8 r11.2.1]) (As .i64 x5 1)
 else
 none
 else
 k0 x0 x4
def Pn(F:Nat)(x0:qTP):Option (qTP×qL×Unit) :=
 (Al F x0 3).bind fun r1 =>
 (Al F r1.1 6).bind fun r2 =>
 (Al F r2.1 5).bind fun r4 =>
 (Al F r4.1 3).bind fun r6 =>
 Ig F (fun z15 z16 =>
 some (z15,(z16,()))) F r6.1 r1.2.1 [1,0,0,IntKind.wrap .u8 r2.2.1,IntKind.wrap .u8 r4.2.1,IntKind.wrap .u8 (Iv .i64 2 r6.2.1),0,IntKind.wrap .u8 r1.2.1,0] 0
def Jx(F:Nat)(x0:qTP)(x1:qL):Option (qTP×qL×Unit) :=
 bif Bh (0+(List.length x1)) 1 then
 (Al F x0 (Au ([]++x1))).bind fun r3 =>
 (Al F r3.1 6).bind fun r4 =>
 bif eqI r4.2.1 0 then
 (Al F r4.1 (As .i64 (Au ([]++x1)) 1)).bind fun r8 =>
 bif J1 0 r8.2.1 (List.length ([]++x1)) then
 some (r8.1,(B0 ([]++x1) r8.2.1,()))
 else
 none
 else
 bif eqI r4.2.1 1 then
 (Al F r4.1 256).bind fun r11 =>
 bif Bh ((List.length ([]++x1))+1) 1 then
 some (r11.1,((([]++x1)++[IntKind.wrap .u8 r11.2.1]),()))
 else
 none
 else
 bif eqI r4.2.1 2 then
 bif ltI 0 (Au ([]++x1)) then
 bif J1 0 r3.2.1 (List.length ([]++x1)) then
 let x55v17:=As .i64 r3.2.1 1
 bif J1 x55v17 (Au ([]++x1)) (List.length ([]++x1)) then
 bif Nat.ble ((Int.toNat r3.2.1)+((List.length ([]++x1)) - (Int.toNat x55v17))) (List.length ([]++x1)) then
 some (r4.1,(((List.take (Int.toNat r3.2.1) ([]++x1))++(List.drop (Int.toNat x55v17) (List.take (List.length ([]++x1)) ([]++x1)))),()))
 else
 none
 else
 none
 else
 none
 else
 some (r4.1,(([]++x1),()))
 else
 bif ltI 0 (Au ([]++x1)) then
 bif inI r3.2.1 (List.length ([]++x1)) then
 (Al F r4.1 8).bind fun r22 =>
 let x24v23:=IntKind.wrap .u64 r22.2.1
 bif ltI x24v23 0 then
 none
 else
 bif inI r3.2.1 (List.length ([]++x1)) then
 some (r22.1,(B6 ([]++x1) r3.2.1 (AjO .u8 (Ak 0 ([]++x1) r3.2.1) (Fs .u8 1 x24v23)),()))
 else
 none
 else
 none
 else
 some (r4.1,(([]++x1),()))
 else
 none
def P7(F:Nat)(x0:qTP)(x1:qL):Option (qTP×qL×qL×Unit) :=
 bif Bh (0+(List.length x1)) 1 then
 (Al F x0 (Au ([]++x1))).bind fun r3 =>
 (Al F r3.1 6).bind fun r4 =>
 bif eqI r4.2.1 0 then
 (Al F r4.1 (As .i64 (Au ([]++x1)) 1)).bind fun r8 =>
 bif J1 0 r8.2.1 (List.length ([]++x1)) then
 some (r8.1,(x1,(B0 ([]++x1) r8.2.1,())))
 else
 none
 else
 bif eqI r4.2.1 1 then
 (Al F r4.1 256).bind fun r11 =>
 bif Bh ((List.length ([]++x1))+1) 1 then
 some (r11.1,(x1,((([]++x1)++[IntKind.wrap .u8 r11.2.1]),())))
 else
 none
 else
 bif eqI r4.2.1 2 then
 bif ltI 0 (Au ([]++x1)) then
 bif J1 0 r3.2.1 (List.length ([]++x1)) then
 let x55v17:=As .i64 r3.2.1 1
 bif J1 x55v17 (Au ([]++x1)) (List.length ([]++x1)) then
 bif Nat.ble ((Int.toNat r3.2.1)+((List.length ([]++x1)) - (Int.toNat x55v17))) (List.length ([]++x1)) then
 some (r4.1,(x1,(((List.take (Int.toNat r3.2.1) ([]++x1))++(List.drop (Int.toNat x55v17) (List.take (List.length ([]++x1)) ([]++x1)))),())))
 else
 none
 else
 none
 else
 none
 else
 some (r4.1,(x1,(([]++x1),())))
 else
 bif ltI 0 (Au ([]++x1)) then
 bif inI r3.2.1 (List.length ([]++x1)) then
 (Al F r4.1 8).bind fun r22 =>
 let x24v23:=IntKind.wrap .u64 r22.2.1
 bif ltI x24v23 0 then
 none
 else
 bif inI r3.2.1 (List.length ([]++x1)) then
 some (r22.1,(x1,(B6 ([]++x1) r3.2.1 (AjO .u8 (Ak 0 ([]++x1) r3.2.1) (Fs .u8 1 x24v23)),())))
 else
 none
 else
 none
 else
 some (r4.1,(x1,(([]++x1),())))
 else
 none
def Bj(F:Nat){R:Type}(k2:(List qL)→qL→Int→(List qG)→Int→Bool→Option R):Nat→(List qL)→qL→Int→(List qG)→Int→Bool→Int→Option R
 | 0,_,_,_,_,_,_,_=>none
 | n+1,x13,x14,x15,x16,x17,x19,x20 =>
 bif ltI x20 (Au x16) then
 bif x19 then
 Bj F k2 n x13 x14 x15 x16 x17 true (As .i64 x20 1)
 else
 bif inI x20 (List.length x16) then
 bif ltI 0 (Au (Ak (0,(((false,([0,0,0,0],())),((false,([0,0,0,0],())),())),([],()))) x16 x20).2.2.1) then
 bif inI x20 (List.length x16) then
 let x98v24:=(Ak (0,(((false,([0,0,0,0],())),((false,([0,0,0,0],())),())),([],()))) x16 x20).2.2.1
 bif inI 0 (List.length x98v24) then
 Bj F k2 n x13 x14 x15 x16 x17 (eqI (Ak 0 x98v24 0) 0) (As .i64 x20 1)
 else
 none
 else
 none
 else
 Bj F k2 n x13 x14 x15 x16 x17 false (As .i64 x20 1)
 else
 none
 else
 k2 x13 x14 x15 x16 x17 x19
def A9(F:Nat){R:Type}(k0:Option R)(kret:Bool→Option R):Nat→(List qL)→qL→Int→Option R
 | 0,_,_,_=>none
 | n+1,x13,x14,x15 =>
 bif ltI x15 (Au x13) then
 bif inI x15 (List.length x13) then
 bif inI x15 (List.length x14) then
 (Bi F (Ak [] x13 x15) 0 (Ak 0 x14 x15)).bind fun r13 =>
 bif not (eqI r13.2.2.1 0) then
 A9 F k0 kret n x13 x14 (As .i64 x15 1)
 else
 bif inI x15 (List.length x14) then
 Bj F (fun z29 z30 z31 z32 z33 z34 =>
 (Fm F z32).bind fun r35 =>
 bif not (eqI r35.2.1 0) then
 kret false
 else
 bif not z34 then
 kret false
 else
 (Gs F z32).bind fun r38 =>
 bif not (eqI r38.1 0) then
 kret false
 else
 bif inI z31 (List.length z29) then
 bif ltI (Au (Ak [] z29 z31)) z33 then
 kret false
 else
 bif inI z31 (List.length z29) then
 bif J1 0 z33 (List.length (Ak [] z29 z31)) then
 (Hf F r35.1 (B0 (Ak [] z29 z31) z33)).bind fun r45 =>
 bif not r45.1 then
 kret false
 else
 A9 F k0 kret n z29 z30 (As .i64 z31 1)
 else
 none
 else
 none
 else
 none) F x13 x14 x15 r13.1 r13.2.1 (eqI (Ak 0 x14 x15) 0) 0
 else
 none
 else
 none
 else
 none
 else
 k0
def Hy(F:Nat)(x0:qL)(x1:Int)(x2:qL):Option (Bool×Unit) :=
 (Wp F x2).bind fun r1 =>
 (O2 F r1.1).bind fun r2 =>
 (Fm F r2.2.1).bind fun r3 =>
 (Py F x1 20).bind fun r4 =>
 (Pn F r2.1).bind fun r5 =>
 (Jx F r5.1 r3.1).bind fun r6 =>
 (Al F r6.1 6).bind fun r7 =>
 A9 F (
 (Pm F).bind fun r48 =>
 some (r48.1,())) (fun z49 =>
 some (z49,())) F [x0,r5.2.1,r6.2.1,r3.1] [r4.1,As .i64 3 r7.2.1,r2.2.2.1,r2.2.2.1] 0
def J7(F:Nat){R:Type}(k0:(List qG)→Option R)(kret:Int→Option R):Nat→(List qG)→Int→Int→Option R
 | 0,_,_,_=>none
 | n+1,x0,x3,x4 =>
 bif ltI x4 (Au x0) then
 bif inI x4 (List.length x0) then
 bif ltI x3 (Au (Ak (0,(((false,([0,0,0,0],())),((false,([0,0,0,0],())),())),([],()))) x0 x4).2.2.1) then
 kret 3
 else
 bif inI x4 (List.length x0) then
 J7 F k0 kret n x0 (Bl .i64 x3 (Au (Ak (0,(((false,([0,0,0,0],())),((false,([0,0,0,0],())),())),([],()))) x0 x4).2.2.1)) (As .i64 x4 1)
 else
 none
 else
 none
 else
 k0 x0
def Fo(F:Nat){R:Type}(k4:(List qG)→(List Bool)→Int→Option R)(kret:Int→Option R):Nat→(List qG)→(List Bool)→Int→qG→Int→Option R
 | 0,_,_,_,_,_=>none
 | n+1,x0,x5,x6,x7,x8 =>
 bif ltI x8 (Au x7.2.2.1) then
 bif inI x8 (List.length x7.2.2.1) then
 let x103v34:=Ak 0 x7.2.2.1 x8
 bif ltI x103v34 0 then
 kret 1
 else
 bif leI 4096 x103v34 then
 kret 1
 else
 bif ltI 0 x8 then
 bif inI (Bl .i64 x8 1) (List.length x7.2.2.1) then
 bif leI x103v34 (Ak 0 x7.2.2.1 (Bl .i64 x8 1)) then
 kret 1
 else
 bif inI x103v34 (List.length x5) then
 bif Ak false x5 x103v34 then
 kret 1
 else
 bif inI x103v34 (List.length x5) then
 Fo F k4 kret n x0 (B6 x5 x103v34 true) x6 x7 (As .i64 x8 1)
 else
 none
 else
 none
 else
 none
 else
 bif inI x103v34 (List.length x5) then
 bif Ak false x5 x103v34 then
 kret 1
 else
 bif inI x103v34 (List.length x5) then
 Fo F k4 kret n x0 (B6 x5 x103v34 true) x6 x7 (As .i64 x8 1)
 else
 none
 else
 none
 else
 none
 else
 k4 x0 x5 x6
def Ja(F:Nat){R:Type}(kn:(List qG)→(List Bool)→Int→Option R)(kret:Int→Option R)(x0:(List qG))(x5:(List Bool))(x6:Int)(x7:qG):Option R :=
 Fo F (fun z47 z48 z49 =>
 kn z47 z48 z49) (fun z50 =>
 kret z50) F x0 x5 x6 x7 0
def Dl(F:Nat){R:Type}(k2:Option R)(kret:Int→Option R):Nat→(List qG)→(List Bool)→Int→Option R
 | 0,_,_,_=>none
 | n+1,x0,x5,x6 =>
 bif ltI x6 (Au x0) then
 bif inI x6 (List.length x0) then
 let x45v16:=Ak (0,(((false,([0,0,0,0],())),((false,([0,0,0,0],())),())),([],()))) x0 x6
 (Fk F x45v16.2.1).bind fun r17 =>
 bif not r17.1 then
 kret 1
 else
 bif eqI (Au x45v16.2.2.1) 0 then
 kret 1
 else
 bif ltI 0 x6 then
 bif inI (Bl .i64 x6 1) (List.length x0) then
 bif ltI x45v16.1 (Ak (0,(((false,([0,0,0,0],())),((false,([0,0,0,0],())),())),([],()))) x0 (Bl .i64 x6 1)).1 then
 kret 1
 else
 bif inI (Bl .i64 x6 1) (List.length x0) then
 bif eqI (Ak (0,(((false,([0,0,0,0],())),((false,([0,0,0,0],())),())),([],()))) x0 (Bl .i64 x6 1)).1 x45v16.1 then
 bif inI (Bl .i64 x6 1) (List.length x0) then
 (Dh F (Ak (0,(((false,([0,0,0,0],())),((false,([0,0,0,0],())),())),([],()))) x0 (Bl .i64 x6 1)).2.1 x45v16.2.1).bind fun r30 =>
 bif leI 0 r30.1 then
 kret 1
 else
 Ja F (fun z51 z52 z53 =>
 Dl F k2 kret n z51 z52 (As .i64 z53 1)) (fun z55 =>
 kret z55) x0 x5 x6 x45v16
 else
 none
 else
 Ja F (fun z56 z57 z58 =>
 Dl F k2 kret n z56 z57 (As .i64 z58 1)) (fun z60 =>
 kret z60) x0 x5 x6 x45v16
 else
 none
 else
 none
 else
 Ja F (fun z61 z62 z63 =>
 Dl F k2 kret n z61 z62 (As .i64 z63 1)) (fun z65 =>
 kret z65) x0 x5 x6 x45v16
 else
 none
 else
 k2
def Kn(F:Nat)(x0:(List qG)):Option (Int×Unit) :=
 bif ltI 4096 (Au x0) then
 some (3,())
 else
 J7 F (fun z12 =>
 bif Im 4096 4096 1 then
 Dl F (
 some (0,())) (fun z66 =>
 some (z66,())) F z12 (Cc 4096 (false:Bool)) 0
 else
 none) (fun z67 =>
 some (z67,())) F x0 4096 0
def Po(F:Nat){R:Type}(k0:qL→Int→Option R):Nat→qL→qW→qW→Int→Option R
 | 0,_,_,_,_=>none
 | n+1,x5,x7,x8,x12 =>
 (C9 F x7).bind fun r10 =>
 bif not (eqI r10.1 0) then
 bif Bh ((List.length x5)+1) 1 then
 (F7 F 128).bind fun r14 =>
 (Ed F x7 r14.1).bind fun r15 =>
 (E5 F r15.2.1).bind fun r16 =>
 Po F k0 n (x5++[As .u8 x12 128]) r15.1 r15.2.1 (IntKind.wrap .u8 r16.1)
 else
 none
 else
 k0 x5 x12
def Pp(F:Nat){R:Type}(kret:qL→Option R)(x5:qL)(x7:qW)(x8:qW)(x12:Int):Option R :=
 Po F (fun z18 z19 =>
 bif Bh ((List.length z18)+1) 1 then
 kret (z18++[z19])
 else
 none) F x5 x7 x8 x12
def S5(F:Nat)(x0:qL)(x1:qW):Option (qL×Unit) :=
 bif Bh (0+(List.length x0)) 1 then
 (F7 F 64).bind fun r2 =>
 (Ed F (false,x1.2) r2.1).bind fun r3 =>
 (E5 F r3.2.1).bind fun r4 =>
 let x32v5:=Iv .u64 2 r4.1
 (C9 F x1).bind fun r7 =>
 bif ltI r7.1 0 then
 Pp F (fun z21 =>
 some (z21,())) ([]++x0) r3.1 r3.2.1 (As .u8 (IntKind.wrap .u8 x32v5) 1)
 else
 Pp F (fun z22 =>
 some (z22,())) ([]++x0) r3.1 r3.2.1 (IntKind.wrap .u8 x32v5)
 else
 none
def X2(F:Nat)(x0:qL)(x1:qR):Option (qL×Unit) :=
 (S5 F x0 x1.1).bind fun r1 =>
 (S5 F r1.1 x1.2.1).bind fun r2 =>
 some (r2.1,())
def Jb(F:Nat){R:Type}(k0:Int→qL→Option R):Nat→Int→qL→Option R
 | 0,_,_=>none
 | n+1,x1,x5 =>
 bif leI 128 x1 then
 bif Bh ((List.length x5)+1) 1 then
 Jb F k0 n (Hi .u64 x1 128) (x5++[As .u8 (IntKind.wrap .u8 (Iw x1 128)) 128])
 else
 none
 else
 k0 x1 x5
def N4(F:Nat)(x0:qL)(x1:Int):Option (qL×Unit) :=
 bif Bh (0+(List.length x0)) 1 then
 Jb F (fun z8 z9 =>
 bif Bh ((List.length z9)+1) 1 then
 some ((z9++[IntKind.wrap .u8 z8]),())
 else
 none) F x1 ([]++x0)
 else
 none
def AcN(F:Nat)(x0:Int)(x1:Int):Option (Int×Unit) :=
 some (Bl .u64 (IntKind.wrap .u64 x0) (IntKind.wrap .u64 x1),())
def Bg(F:Nat){R:Type}(k0:qL→Option R):Nat→qL→qL→Int→Option R
 | 0,_,_,_=>none
 | n+1,x0,x3,x4 =>
 bif ltI x4 (Au x0) then
 bif eqI x4 0 then
 bif inI 0 (List.length x0) then
 bif Bh ((List.length x3)+1) 8 then
 Bg F k0 n x0 (x3++[Ak 0 x0 0]) (As .i64 x4 1)
 else
 none
 else
 none
 else
 bif inI x4 (List.length x0) then
 bif inI (Bl .i64 x4 1) (List.length x0) then
 (AcN F (Ak 0 x0 x4) (Ak 0 x0 (Bl .i64 x4 1))).bind fun r10 =>
 bif Bh ((List.length x3)+1) 8 then
 Bg F k0 n x0 (x3++[IntKind.wrap .i64 r10.1]) (As .i64 x4 1)
 else
 none
 else
 none
 else
 none
 else
 k0 x3
def Ng(F:Nat)(x0:qL):Option (qL×Unit) :=
 Bg F (fun z14 =>
 some (z14,())) F x0 [] 0
def Tr(F:Nat)(x0:Int):Option (Int×Unit) :=
 bif leI 0 x0 then
 some (Iv .u64 2 (IntKind.wrap .u64 x0),())
 else
 some (As .u64 (Iv .u64 2 (IntKind.wrap .u64 (Bl .i64 0 (As .i64 x0 1)))) 1,())
def Gb(F:Nat){R:Type}(k0:qL→Option R):Nat→qL→Int→Int→Option R
 | 0,_,_,_=>none
 | n+1,x0,x1,x6 =>
 bif ltI x6 x1 then
 (Ng F x0).bind fun r4 =>
 Gb F k0 n r4.1 x1 (As .i64 x6 1)
 else
 k0 x0
def Gc(F:Nat){R:Type}(k2:qL→Option R):Nat→qL→qL→Int→Option R
 | 0,_,_,_=>none
 | n+1,x0,x7,x8 =>
 bif ltI x8 (Au x0) then
 bif inI x8 (List.length x0) then
 (Tr F (Ak 0 x0 x8)).bind fun r12 =>
 bif inI x8 (List.length x7) then
 Gc F k2 n x0 (B6 x7 x8 r12.1) (As .i64 x8 1)
 else
 none
 else
 none
 else
 k2 x7
def Lm(F:Nat)(x0:qL)(x1:Int):Option (qL×Bool×Unit) :=
 bif ltI x1 0 then
 some ([],(false,()))
 else
 bif ltI 2 x1 then
 some ([],(false,()))
 else
 Gb F (fun z6 =>
 bif Im (Au z6) (Au z6) 8 then
 Gc F (fun z15 =>
 some (z15,(true,()))) F z6 (Cc (Au z6) (0:Int)) 0
 else
 none) F x0 x1 0
def X3(F:Nat)(x0:Int):Option (Int×Unit) :=
 (N4 F [] x0).bind fun r1 =>
 some (Au r1.1,())
def Ih(F:Nat){R:Type}(k2:qL→Int→Int→Option R):Nat→qL→Int→Int→Option R
 | 0,_,_,_=>none
 | n+1,x0,x3,x4 =>
 bif ltI x3 64 then
 bif inI x4 (List.length x0) then
 bif ltI (IntKind.wrap .u64 x3) 0 then
 none
 else
 bif not (eqI (D6 .u64 (Ak 0 x0 x4) (IntKind.wrap .u64 x3)) 0) then
 Ih F k2 n x0 (As .i64 x3 1) x4
 else
 k2 x0 x3 x4
 else
 none
 else
 k2 x0 x3 x4
def Ii(F:Nat){R:Type}(k0:Int→Option R):Nat→qL→Int→Int→Option R
 | 0,_,_,_=>none
 | n+1,x0,x3,x4 =>
 bif ltI x4 (Au x0) then
 Ih F (fun z9 z10 z11 =>
 Ii F k0 n z9 z10 (As .i64 z11 1)) F x0 x3 x4
 else
 k0 x3
def Vw(F:Nat)(x0:qL):Option (Int×Unit) :=
 Ii F (fun z13 =>
 some (z13,())) F x0 0 0
def Ss(F:Nat)(x0:Int)(x1:Int):Option (Int×Unit) :=
 bif ltI x0 0 then
 some ((-1),())
 else
 bif ltI 65536 x0 then
 some ((-1),())
 else
 bif ltI x1 0 then
 some ((-1),())
 else
 bif ltI 64 x1 then
 some ((-1),())
 else
 some (Hi .i64 (As .i64 (Iv .i64 x0 x1) 7) 8,())
def Lo(F:Nat){R:Type}(k2:qL→Int→qL→Int→Option R):Nat→qL→Int→qL→Int→Int→Option R
 | 0,_,_,_,_,_=>none
 | n+1,x0,x1,x7,x8,x9 =>
 bif ltI x9 x1 then
 bif inI (Hi .i64 (As .i64 (Iv .i64 x8 x1) x9) 8) (List.length x7) then
 bif inI x8 (List.length x0) then
 bif ltI (IntKind.wrap .u64 x9) 0 then
 none
 else
 bif ltI (IntKind.wrap .u64 (Iw (As .i64 (Iv .i64 x8 x1) x9) 8)) 0 then
 none
 else
 bif inI (Hi .i64 (As .i64 (Iv .i64 x8 x1) x9) 8) (List.length x7) then
 Lo F k2 n x0 x1 (B6 x7 (Hi .i64 (As .i64 (Iv .i64 x8 x1) x9) 8) (orI .u8 (Ak 0 x7 (Hi .i64 (As .i64 (Iv .i64 x8 x1) x9) 8)) (Fs .u8 (IntKind.wrap .u8 (V4 .u64 (D6 .u64 (Ak 0 x0 x8) (IntKind.wrap .u64 x9)) 1)) (IntKind.wrap .u64 (Iw (As .i64 (Iv .i64 x8 x1) x9) 8))))) x8 (As .i64 x9 1)
 else
 none
 else
 none
 else
 none
 else
 k2 x0 x1 x7 x8
def Jy(F:Nat){R:Type}(k0:qL→Option R):Nat→qL→Int→qL→Int→Option R
 | 0,_,_,_,_=>none
 | n+1,x0,x1,x7,x8 =>
 bif ltI x8 (Au x0) then
 Lo F (fun z25 z26 z27 z28 =>
 Jy F k0 n z25 z26 z27 (As .i64 z28 1)) F x0 x1 x7 x8 0
 else
 k0 x7
def Q0(F:Nat)(x0:qL)(x1:Int):Option (qL×Bool×Unit) :=
 (Ss F (Au x0) x1).bind fun r2 =>
 bif ltI r2.1 0 then
 some ([],(false,()))
 else
 (Vw F x0).bind fun r4 =>
 bif ltI x1 r4.1 then
 some ([],(false,()))
 else
 bif Im r2.1 r2.1 1 then
 Jy F (fun z30 =>
 some (z30,(true,()))) F x0 x1 (Cc r2.1 (0:Int)) 0
 else
 none
def Jc(F:Nat){R:Type}(k0:qL→Int→Option R):Nat→qL→Int→Int→Option R
 | 0,_,_,_=>none
 | n+1,x0,x4,x5 =>
 bif ltI x5 (Au x0) then
 bif inI x5 (List.length x0) then
 (X3 F (Ak 0 x0 x5)).bind fun r6 =>
 Jc F k0 n x0 (As .i64 x4 r6.1) (As .i64 x5 1)
 else
 none
 else
 k0 x0 x4
def H5(F:Nat){R:Type}(k2:qL→Option R):Nat→qL→qL→Int→Option R
 | 0,_,_,_=>none
 | n+1,x0,x9,x10 =>
 bif ltI x10 (Au x0) then
 bif inI x10 (List.length x0) then
 (N4 F [] (Ak 0 x0 x10)).bind fun r22 =>
 bif Bh ((List.length x9)+(List.length r22.1)) 1 then
 H5 F k2 n x0 (x9++r22.1) (As .i64 x10 1)
 else
 none
 else
 none
 else
 k2 x9
def Gd(F:Nat)(x0:qL):Option (qL×Int×Unit) :=
 bif ltI 65536 (Au x0) then
 some ([],(3,()))
 else
 Jc F (fun z9 z10 =>
 (Vw F z9).bind fun r11 =>
 (Q0 F z9 r11.1).bind fun r12 =>
 bif ltI (As .i64 2 (Au r12.1)) z10 then
 bif Bh (2+(List.length r12.1)) 1 then
 some (([1,IntKind.wrap .u8 r11.1]++r12.1),(0,()))
 else
 none
 else
 bif Im 1 z10 1 then
 H5 F (fun z25 =>
 some (z25,(0,()))) F z9 (Cc 1 (0:Int)) 0
 else
 none) F x0 1 0
def B4(F:Nat){R:Type}(k0:qL→Option R):Nat→qL→qL→Int→Option R
 | 0,_,_,_=>none
 | n+1,x0,x4,x5 =>
 bif leI x5 2 then
 (Lm F x0 x5).bind fun r4 =>
 (Gd F r4.1).bind fun r5 =>
 bif eqI x5 0 then
 bif Bh (1+(List.length r5.1)) 1 then
 B4 F k0 n x0 ([IntKind.wrap .u8 x5]++r5.1) (As .i64 x5 1)
 else
 none
 else
 bif ltI (As .i64 1 (Au r5.1)) (Au x4) then
 bif Bh (1+(List.length r5.1)) 1 then
 B4 F k0 n x0 ([IntKind.wrap .u8 x5]++r5.1) (As .i64 x5 1)
 else
 none
 else
 B4 F k0 n x0 x4 (As .i64 x5 1)
 else
 k0 x4
def P8(F:Nat)(x0:qL):Option (qL×Int×Unit) :=
 bif ltI 65536 (Au x0) then
 some ([],(3,()))
 else
 B4 F (fun z18 =>
 some (z18,(0,()))) F x0 [] 0
def Ww(F:Nat){R:Type}(k0:qL→Option R):Nat→qL→qL→Int→Option R
 | 0,_,_,_=>none
 | n+1,x0,x3,x4 =>
 bif ltI x4 (Au x0) then
 bif inI x4 (List.length x0) then
 bif Bh ((List.length x3)+1) 8 then
 Ww F k0 n x0 (x3++[IntKind.wrap .u64 (Bl .i64 (Ak 0 x0 x4) 1)]) (As .i64 x4 1)
 else
 none
 else
 none
 else
 k0 x3
def Ani(F:Nat)(x0:qL):Option (qL×Unit) :=
 Ww F (fun z8 =>
 some (z8,())) F x0 [] 0
def Oc(F:Nat){R:Type}(k2:(List qG)→qL→qL→qL→qL→Int→Option R):Nat→(List qG)→qL→qL→qL→qL→Int→Int→Option R
 | 0,_,_,_,_,_,_,_=>none
 | n+1,x0,x5,x6,x7,x8,x9,x10 =>
 bif inI x9 (List.length x0) then
 bif ltI x10 (Au (Ak (0,(((false,([0,0,0,0],())),((false,([0,0,0,0],())),())),([],()))) x0 x9).2.2.1) then
 bif inI x9 (List.length x0) then
 let x68v15:=(Ak (0,(((false,([0,0,0,0],())),((false,([0,0,0,0],())),())),([],()))) x0 x9).2.2.1
 bif inI x10 (List.length x68v15) then
 bif ltI 0 x10 then
 bif inI x9 (List.length x0) then
 let x79v18:=(Ak (0,(((false,([0,0,0,0],())),((false,([0,0,0,0],())),())),([],()))) x0 x9).2.2.1
 bif inI (Bl .i64 x10 1) (List.length x79v18) then
 bif Bh ((List.length x7)+1) 8 then
 Oc F k2 n x0 x5 x6 (x7++[IntKind.wrap .u64 (Bl .i64 (Ak 0 x68v15 x10) (As .i64 (Ak 0 x79v18 (Bl .i64 x10 1)) 1))]) x8 x9 (As .i64 x10 1)
 else
 none
 else
 none
 else
 none
 else
 bif Bh ((List.length x7)+1) 8 then
 Oc F k2 n x0 x5 x6 (x7++[IntKind.wrap .u64 (Ak 0 x68v15 x10)]) x8 x9 (As .i64 x10 1)
 else
 none
 else
 none
 else
 none
 else
 k2 x0 x5 x6 x7 x8 x9
 else
 none
def Ts(F:Nat){R:Type}(k0:(List qG)→qL→qL→qL→qL→Option R):Nat→(List qG)→qL→qL→qL→qL→Int→Option R
 | 0,_,_,_,_,_,_=>none
 | n+1,x0,x5,x6,x7,x8,x9 =>
 bif ltI x9 (Au x0) then
 bif inI x9 (List.length x0) then
 bif Bh ((List.length x5)+1) 8 then
 bif inI x9 (List.length x0) then
 bif Bh ((List.length x6)+1) 8 then
 bif inI x9 (List.length x0) then
 (X2 F x8 (Ak (0,(((false,([0,0,0,0],())),((false,([0,0,0,0],())),())),([],()))) x0 x9).2.1).bind fun r11 =>
 Oc F (fun z29 z30 z31 z32 z33 z34 =>
 Ts F k0 n z29 z30 z31 z32 z33 (As .i64 z34 1)) F x0 (x5++[(Ak (0,(((false,([0,0,0,0],())),((false,([0,0,0,0],())),())),([],()))) x0 x9).1]) (x6++[Au (Ak (0,(((false,([0,0,0,0],())),((false,([0,0,0,0],())),())),([],()))) x0 x9).2.2.1]) x7 r11.1 x9 0
 else
 none
 else
 none
 else
 none
 else
 none
 else
 none
 else
 k0 x0 x5 x6 x7 x8
def AgF(F:Nat)(x0:(List qG)):Option (qL×Int×Unit) :=
 (Kn F x0).bind fun r1 =>
 bif not (eqI r1.1 0) then
 some ([],(r1.1,()))
 else
 Ts F (fun z36 z37 z38 z39 z40 =>
 (N4 F [] (IntKind.wrap .u64 (Au z36))).bind fun r43 =>
 (P8 F z37).bind fun r44 =>
 (Ani F z38).bind fun r45 =>
 (Gd F r45.1).bind fun r46 =>
 (Gd F z39).bind fun r47 =>
 bif Bh ((List.length r43.1)+(List.length r44.1)) 1 then
 let x94v48:=(r43.1++r44.1)
 bif Bh ((List.length x94v48)+(List.length z40)) 1 then
 bif Bh ((List.length (x94v48++z40))+(List.length r46.1)) 1 then
 bif Bh ((List.length ((x94v48++z40)++r46.1))+(List.length r47.1)) 1 then
 some ((((x94v48++z40)++r46.1)++r47.1),(0,()))
 else
 none
 else
 none
 else
 none
 else
 none) F x0 [] [] [] [] 0
def Jd(F:Nat){R:Type}(k0:Int→Int→Option R)(kret:qL→Int→Option R):Nat→qL→Int→Int→Int→Option R
 | 0,_,_,_,_=>none
 | n+1,x0,x1,x2,x8 =>
 bif ltI (As .i64 x1 x8) (Au x0) then
 bif ltI x8 x2 then
 bif inI (Bl .i64 (As .i64 x1 (As .i64 x8 1)) 1) (List.length x0) then
 bif ltI (Ak 0 x0 (Bl .i64 (As .i64 x1 (As .i64 x8 1)) 1)) 128 then
 bif J1 x1 (As .i64 x1 (As .i64 x8 1)) (List.length x0) then
 kret (Cj (B0 x0 (As .i64 x1 (As .i64 x8 1))) x1) 0
 else
 none
 else
 Jd F k0 kret n x0 x1 x2 (As .i64 x8 1)
 else
 none
 else
 k0 x2 x8
 else
 k0 x2 x8
def P9(F:Nat)(x0:qL)(x1:Int)(x2:Int):Option (qL×Int×Unit) :=
 bif ltI x1 0 then
 some ([],(2,()))
 else
 bif ltI (Au x0) x1 then
 some ([],(2,()))
 else
 Jd F (fun z15 z16 =>
 bif eqI z16 z15 then
 some ([],(5,()))
 else
 some ([],(4,()))) (fun z18 z19 =>
 some (z18,(z19,()))) F x0 x1 x2 0
def Lp(F:Nat){R:Type}(k0:Int→qL→Int→Option R):Nat→Int→qL→Int→Int→Option R
 | 0,_,_,_,_=>none
 | n+1,x1,x7,x10,x11 =>
 bif leI 0 x11 then
 bif inI x11 (List.length x7) then
 Lp F k0 n x1 x7 (As .u64 (Iv .u64 x10 128) (IntKind.wrap .u64 (Iw (Ak 0 x7 x11) 128))) (Bl .i64 x11 1)
 else
 none
 else
 k0 x1 x7 x10
def Lq(F:Nat){R:Type}(kret:Int→Int→Int→Option R)(x1:Int)(x7:qL):Option R :=
 Lp F (fun z21 z22 z23 =>
 kret z23 (As .i64 z21 (Au z22)) 0) F x1 x7 0 (Bl .i64 (Au x7) 1)
def Uq(F:Nat)(x0:qL)(x1:Int):Option (Int×Int×Int×Unit) :=
 (P9 F x0 x1 10).bind fun r1 =>
 bif not (eqI r1.2.1 0) then
 some (0,(0,(r1.2.1,())))
 else
 bif inI (Bl .i64 (Au r1.1) 1) (List.length r1.1) then
 let x26v5:=Ak 0 r1.1 (Bl .i64 (Au r1.1) 1)
 bif eqI x26v5 0 then
 bif ltI 1 (Au r1.1) then
 some (0,(0,(5,())))
 else
 bif eqI (Au r1.1) 10 then
 bif ltI 1 x26v5 then
 some (0,(0,(5,())))
 else
 Lq F (fun z26 z27 z28 =>
 some (z26,(z27,(z28,())))) x1 r1.1
 else
 Lq F (fun z29 z30 z31 =>
 some (z29,(z30,(z31,())))) x1 r1.1
 else
 bif eqI (Au r1.1) 10 then
 bif ltI 1 x26v5 then
 some (0,(0,(5,())))
 else
 Lq F (fun z35 z36 z37 =>
 some (z35,(z36,(z37,())))) x1 r1.1
 else
 Lq F (fun z38 z39 z40 =>
 some (z38,(z39,(z40,())))) x1 r1.1
 else
 none
def J8(F:Nat){R:Type}(k0:Int→qL→Option R)(kret:qL→Int→Int→Option R):Nat→qL→Int→Int→qL→Int→Option R
 | 0,_,_,_,_,_=>none
 | n+1,x0,x1,x2,x9,x10 =>
 bif ltI x10 x2 then
 (Uq F x0 x1).bind fun r2 =>
 bif not (eqI r2.2.2.1 0) then
 kret [] 0 r2.2.2.1
 else
 bif Bh ((List.length x9)+1) 8 then
 J8 F k0 kret n x0 r2.2.1 x2 (x9++[r2.1]) (As .i64 x10 1)
 else
 none
 else
 k0 x1 x9
def Vx(F:Nat)(x0:qL)(x1:Int)(x2:Int):Option (qL×Int×Int×Unit) :=
 J8 F (fun z6 z7 =>
 some (z7,(z6,(0,())))) (fun z8 z9 z10 =>
 some (z8,(z9,(z10,())))) F x0 x1 x2 [] 0
def Je(F:Nat){R:Type}(k0:qL→Int→qL→Option R):Nat→qL→Int→Int→qL→Int→Option R
 | 0,_,_,_,_,_=>none
 | n+1,x0,x1,x2,x9,x10 =>
 bif ltI x10 (Iv .i64 x1 x2) then
 bif eqI x2 0 then
 none
 else
 bif inI (Hi .i64 x10 x2) (List.length x9) then
 bif inI (Hi .i64 x10 8) (List.length x0) then
 bif ltI (IntKind.wrap .u64 (Iw x10 8)) 0 then
 none
 else
 bif eqI x2 0 then
 none
 else
 bif ltI (IntKind.wrap .u64 (Iw x10 x2)) 0 then
 none
 else
 bif inI (Hi .i64 x10 x2) (List.length x9) then
 Je F k0 n x0 x1 x2 (B6 x9 (Hi .i64 x10 x2) (orI .u64 (Ak 0 x9 (Hi .i64 x10 x2)) (Fs .u64 (IntKind.wrap .u64 (V4 .u8 (D6 .u8 (Ak 0 x0 (Hi .i64 x10 8)) (IntKind.wrap .u64 (Iw x10 8))) 1)) (IntKind.wrap .u64 (Iw x10 x2))))) (As .i64 x10 1)
 else
 none
 else
 none
 else
 none
 else
 k0 x0 x2 x9
def Hl(F:Nat)(x0:qL)(x1:Int)(x2:Int):Option (qL×Bool×Unit) :=
 (Ss F x1 x2).bind fun r1 =>
 bif ltI r1.1 0 then
 some ([],(false,()))
 else
 bif not (eqI (Au x0) r1.1) then
 some ([],(false,()))
 else
 bif Im x1 x1 8 then
 Je F (fun z23 z24 z25 =>
 (Q0 F z25 z24).bind fun r26 =>
 bif not r26.2.1 then
 some ([],(false,()))
 else
 (Hf F z23 r26.1).bind fun r28 =>
 bif not r28.1 then
 some ([],(false,()))
 else
 some (z25,(true,()))) F x0 x1 x2 (Cc x1 (0:Int)) 0
 else
 none
def Tt(F:Nat)(x0:qL)(x1:Int)(x2:Int):Option (qL×Int×Int×Unit) :=
 bif eqI x1 (Au x0) then
 some ([],(0,(4,())))
 else
 bif inI x1 (List.length x0) then
 bif ltI 64 (IntKind.wrap .i64 (Ak 0 x0 x1)) then
 some ([],(0,(5,())))
 else
 (Ss F x2 (IntKind.wrap .i64 (Ak 0 x0 x1))).bind fun r6 =>
 bif ltI (Bl .i64 (Bl .i64 (Au x0) x1) 1) r6.1 then
 some ([],(0,(4,())))
 else
 let x41v13:=As .i64 (As .i64 x1 1) r6.1
 bif J1 (As .i64 x1 1) x41v13 (List.length x0) then
 (Hl F (Cj (B0 x0 x41v13) (As .i64 x1 1)) x2 (IntKind.wrap .i64 (Ak 0 x0 x1))).bind fun r15 =>
 bif not r15.2.1 then
 some ([],(0,(5,())))
 else
 some (r15.1,(As .i64 (As .i64 x1 1) r6.1,(0,())))
 else
 none
 else
 none
def Fa(F:Nat)(x0:qL)(x1:Int)(x2:Int):Option (qL×Int×Int×Unit) :=
 bif ltI x1 0 then
 some ([],(0,(2,())))
 else
 bif ltI (Au x0) x1 then
 some ([],(0,(2,())))
 else
 bif ltI x2 0 then
 some ([],(0,(2,())))
 else
 bif ltI 65536 x2 then
 some ([],(0,(2,())))
 else
 bif eqI x1 (Au x0) then
 some ([],(0,(4,())))
 else
 bif inI x1 (List.length x0) then
 bif eqI (Ak 0 x0 x1) 0 then
 (Vx F x0 (As .i64 x1 1) x2).bind fun r11 =>
 bif not (eqI r11.2.2.1 0) then
 some ([],(0,(r11.2.2.1,())))
 else
 (Gd F r11.1).bind fun r13 =>
 bif J1 x1 r11.2.1 (List.length x0) then
 (Hf F r13.1 (Cj (B0 x0 r11.2.1) x1)).bind fun r15 =>
 bif not r15.1 then
 some ([],(0,(5,())))
 else
 some (r11.1,(r11.2.1,(0,())))
 else
 none
 else
 bif eqI (Ak 0 x0 x1) 1 then
 (Tt F x0 (As .i64 x1 1) x2).bind fun r19 =>
 bif not (eqI r19.2.2.1 0) then
 some ([],(0,(r19.2.2.1,())))
 else
 (Gd F r19.1).bind fun r21 =>
 bif J1 x1 r19.2.1 (List.length x0) then
 (Hf F r21.1 (Cj (B0 x0 r19.2.1) x1)).bind fun r23 =>
 bif not r23.1 then
 some ([],(0,(5,())))
 else
 some (r19.1,(r19.2.1,(0,())))
 else
 none
 else
 some ([],(0,(5,())))
 else
 none
def Qk(F:Nat)(x0:Int):Option (Int×Unit) :=
 bif eqI (Iw x0 2) 0 then
 some (IntKind.wrap .i64 (Hi .u64 x0 2),())
 else
 some (Bl .i64 (Bl .i64 0 (IntKind.wrap .i64 (Hi .u64 x0 2))) 1,())
def AaV(F:Nat)(x0:Int)(x1:Int):Option (Int×Unit) :=
 some (IntKind.wrap .i64 (As .u64 (IntKind.wrap .u64 x0) x1),())
def C5(F:Nat){R:Type}(k0:qL→Option R):Nat→qL→qL→Int→Option R
 | 0,_,_,_=>none
 | n+1,x0,x3,x4 =>
 bif ltI x4 (Au x0) then
 bif eqI x4 0 then
 bif inI 0 (List.length x0) then
 bif Bh ((List.length x3)+1) 8 then
 C5 F k0 n x0 (x3++[Ak 0 x0 0]) (As .i64 x4 1)
 else
 none
 else
 none
 else
 bif inI (Bl .i64 x4 1) (List.length x3) then
 bif inI x4 (List.length x0) then
 (AaV F (Ak 0 x3 (Bl .i64 x4 1)) (IntKind.wrap .u64 (Ak 0 x0 x4))).bind fun r11 =>
 bif Bh ((List.length x3)+1) 8 then
 C5 F k0 n x0 (x3++[r11.1]) (As .i64 x4 1)
 else
 none
 else
 none
 else
 none
 else
 k0 x3
def X4(F:Nat)(x0:qL):Option (qL×Unit) :=
 C5 F (fun z14 =>
 some (z14,())) F x0 [] 0
def H6(F:Nat){R:Type}(k0:qL→Int→Int→qL→Option R):Nat→qL→Int→Int→qL→Int→qL→Int→Option R
 | 0,_,_,_,_,_,_,_=>none
 | n+1,x0,x1,x2,x9,x10,x12,x13 =>
 bif ltI x13 x2 then
 bif inI x13 (List.length x9) then
 (Qk F (Ak 0 x9 x13)).bind fun r16 =>
 bif inI x13 (List.length x12) then
 H6 F k0 n x0 x1 x2 x9 x10 (B6 x12 x13 r16.1) (As .i64 x13 1)
 else
 none
 else
 none
 else
 k0 x0 x1 x10 x12
def H7(F:Nat){R:Type}(k2:qL→Int→Int→qL→Option R):Nat→qL→Int→Int→qL→Int→Option R
 | 0,_,_,_,_,_=>none
 | n+1,x0,x1,x10,x12,x14 =>
 bif inI x1 (List.length x0) then
 bif ltI x14 (IntKind.wrap .i64 (Ak 0 x0 x1)) then
 (X4 F x12).bind fun r26 =>
 H7 F k2 n x0 x1 x10 r26.1 (As .i64 x14 1)
 else
 k2 x0 x1 x10 x12
 else
 none
def Hm(F:Nat)(x0:qL)(x1:Int)(x2:Int):Option (qL×Int×Int×Unit) :=
 bif ltI x1 0 then
 some ([],(0,(2,())))
 else
 bif ltI (Au x0) x1 then
 some ([],(0,(2,())))
 else
 bif ltI x2 0 then
 some ([],(0,(2,())))
 else
 bif ltI 65536 x2 then
 some ([],(0,(2,())))
 else
 bif eqI x1 (Au x0) then
 some ([],(0,(4,())))
 else
 bif inI x1 (List.length x0) then
 bif ltI 2 (Ak 0 x0 x1) then
 some ([],(0,(5,())))
 else
 (Fa F x0 (As .i64 x1 1) x2).bind fun r11 =>
 bif not (eqI r11.2.2.1 0) then
 some ([],(0,(r11.2.2.1,())))
 else
 bif Im x2 x2 8 then
 H6 F (fun z19 z20 z21 z22 =>
 H7 F (fun z28 z29 z30 z31 =>
 (P8 F z31).bind fun r32 =>
 bif J1 z29 z30 (List.length z28) then
 (Hf F r32.1 (Cj (B0 z28 z30) z29)).bind fun r34 =>
 bif not r34.1 then
 some ([],(0,(5,())))
 else
 some (z31,(z30,(0,())))
 else
 none) F z19 z20 z21 z22 0) F x0 x1 x2 r11.1 r11.2.1 (Cc x2 (0:Int)) 0
 else
 none
 else
 none
def Ox(F:Nat)(x0:qW)(x1:Int)(x2:Int):Option (qW×Bool×Unit) :=
 (F7 F x1).bind fun r1 =>
 (Ey F x0 r1.1).bind fun r2 =>
 bif not r2.2.1 then
 some ((false,([0,0,0,0],())),(false,()))
 else
 (Ep F x2).bind fun r4 =>
 (Ha F r2.1 r4.1).bind fun r5 =>
 some (r5.1,(r5.2.1,()))
def Dm(F:Nat){R:Type}(k0:Int→qW→qL→qW→Bool→Option R):Nat→Int→qW→qL→qW→Bool→Int→Option R
 | 0,_,_,_,_,_,_=>none
 | n+1,x1,x4,x7,x10,x11,x12 =>
 bif leI 1 x12 then
 bif x11 then
 bif inI x12 (List.length x7) then
 (Ox F x10 128 (IntKind.wrap .u64 (Iw (Ak 0 x7 x12) 128))).bind fun r18 =>
 Dm F k0 n x1 x4 x7 r18.1 r18.2.1 (Bl .i64 x12 1)
 else
 none
 else
 k0 x1 x4 x7 x10 x11
 else
 k0 x1 x4 x7 x10 x11
def Lr(F:Nat){R:Type}(kret:qW→Int→Int→Option R)(x1:Int)(x4:qW)(x7:qL)(x10:qW)(x11:Bool):Option R :=
 bif not x11 then
 kret (false,([0,0,0,0],())) 0 5
 else
 bif inI 0 (List.length x7) then
 bif eqI (Iw (Ak 0 x7 0) 2) 1 then
 (K6 F x10).bind fun r34 =>
 kret r34.1 (As .i64 x1 (Au x7)) 0
 else
 kret x10 (As .i64 x1 (Au x7)) 0
 else
 none
def D4(F:Nat){R:Type}(kret:qW→Int→Int→Option R)(x1:Int)(x4:qW)(x7:qL):Option R :=
 Dm F (fun z20 z21 z22 z23 z24 =>
 bif z24 then
 bif inI 0 (List.length z22) then
 (Ox F z23 64 (IntKind.wrap .u64 (Hi .u8 (Iw (Ak 0 z22 0) 128) 2))).bind fun r29 =>
 Lr F (fun z39 z40 z41 =>
 kret z39 z40 z41) z20 z21 z22 r29.1 r29.2.1
 else
 none
 else
 Lr F (fun z42 z43 z44 =>
 kret z42 z43 z44) z20 z21 z22 z23 z24) F x1 x4 x7 (false,([0,0,0,0],())) true (Bl .i64 (Au x7) 1)
def Ij(F:Nat)(x0:qL)(x1:Int):Option (qW×Int×Int×Unit) :=
 (P9 F x0 x1 37).bind fun r1 =>
 bif not (eqI r1.2.1 0) then
 some ((false,([0,0,0,0],())),(0,(r1.2.1,())))
 else
 bif inI (Bl .i64 (Au r1.1) 1) (List.length r1.1) then
 let x28v5:=Ak 0 r1.1 (Bl .i64 (Au r1.1) 1)
 bif eqI x28v5 0 then
 bif ltI 1 (Au r1.1) then
 some ((false,([0,0,0,0],())),(0,(5,())))
 else
 bif eqI (Au r1.1) 1 then
 bif eqI x28v5 1 then
 some ((false,([0,0,0,0],())),(0,(5,())))
 else
 D4 F (fun z45 z46 z47 =>
 some (z45,(z46,(z47,())))) x1 (false,([0,0,0,0],())) r1.1
 else
 D4 F (fun z48 z49 z50 =>
 some (z48,(z49,(z50,())))) x1 (false,([0,0,0,0],())) r1.1
 else
 bif eqI (Au r1.1) 1 then
 bif eqI x28v5 1 then
 some ((false,([0,0,0,0],())),(0,(5,())))
 else
 D4 F (fun z54 z55 z56 =>
 some (z54,(z55,(z56,())))) x1 (false,([0,0,0,0],())) r1.1
 else
 D4 F (fun z57 z58 z59 =>
 some (z57,(z58,(z59,())))) x1 (false,([0,0,0,0],())) r1.1
 else
 none
def Pq(F:Nat)(x0:qL)(x1:Int):Option (qR×Int×Int×Unit) :=
 (Ij F x0 x1).bind fun r1 =>
 bif not (eqI r1.2.2.1 0) then
 some (((false,([0,0,0,0],())),((false,([0,0,0,0],())),())),(0,(r1.2.2.1,())))
 else
 (Ij F x0 r1.2.1).bind fun r3 =>
 bif not (eqI r3.2.2.1 0) then
 some (((false,([0,0,0,0],())),((false,([0,0,0,0],())),())),(0,(r3.2.2.1,())))
 else
 (Fk F (r1.1,(r3.1,()))).bind fun r5 =>
 bif not r5.1 then
 some (((false,([0,0,0,0],())),((false,([0,0,0,0],())),())),(0,(5,())))
 else
 some ((r1.1,(r3.1,())),(r3.2.1,(0,())))
def F1(F:Nat){R:Type}(k0:qL→Int→Int→Int→(List qGN)→Option R)(kret:Int→Int→Option R):Nat→qL→Int→Int→Int→qL→(List qGN)→Int→Option R
 | 0,_,_,_,_,_,_,_=>none
 | n+1,x0,x1,x2,x9,x11,x12,x13 =>
 bif ltI x13 (Au x12) then
 bif inI x13 (List.length x11) then
 bif inI x13 (List.length x12) then
 let x12v17:=B6 x12 x13 (Ak 0 x11 x13,(Ak (0,(((false,([0,0,0,0],())),((false,([0,0,0,0],())),())),((),()))) x12 x13).2)
 (Pq F x0 x1).bind fun r18 =>
 bif inI x13 (List.length x12v17) then
 bif not (eqI r18.2.2.1 0) then
 kret 0 r18.2.2.1
 else
 F1 F k0 kret n x0 r18.2.1 x2 x9 x11 (B6 x12v17 x13 ((Ak (0,(((false,([0,0,0,0],())),((false,([0,0,0,0],())),())),((),()))) x12v17 x13).1,(r18.1,(Ak (0,(((false,([0,0,0,0],())),((false,([0,0,0,0],())),())),((),()))) x12v17 x13).2.2))) (As .i64 x13 1)
 else
 none
 else
 none
 else
 none
 else
 k0 x0 x1 x2 x9 x12
def F2(F:Nat){R:Type}(k2:qL→Int→Int→(List qGN)→qL→Int→Option R)(kret:Int→Int→Option R):Nat→qL→Int→Int→(List qGN)→qL→Int→Int→Option R
 | 0,_,_,_,_,_,_,_=>none
 | n+1,x0,x1,x2,x12,x14,x15,x16 =>
 bif ltI x16 (Au x14) then
 bif inI x16 (List.length x14) then
 bif leI x15 (Ak 0 x14 x16) then
 kret 0 10
 else
 bif inI x16 (List.length x14) then
 F2 F k2 kret n x0 x1 x2 x12 x14 (Bl .u64 x15 (As .u64 (Ak 0 x14 x16) 1)) (As .i64 x16 1)
 else
 none
 else
 none
 else
 k2 x0 x1 x2 x12 x14 x15
def Jf(F:Nat)(ok:Bool)(total:Int)(sizes starts:List Int)(i:Int):Nat→Int→Int→Int→Bool→List Int→Option (Bool×Int×Bool×List Int)
 | 0,_,_,_,_,_=>none
 | n+1,j,last,k,zero,xs =>
 bif inI i (List.length sizes) then
 bif leI j (IntKind.wrap .i64 (Ak 0 sizes i)) then
 bif inI k (List.length starts) then
 bif leI (IntKind.wrap .u64 total) (Ak 0 starts k) then
 some (false,k,zero,xs)
 else
 bif leI (IntKind.wrap .u64 total) (bif ltI 0 j then As .u64 (Ak 0 starts k) (As .u64 last 1) else Ak 0 starts k) then
 some (false,k,zero,xs)
 else
 bif ok then
 bif Bh (List.length xs+1) 8 then
 Jf F ok total sizes starts i n (As .i64 j 1) (bif ltI 0 j then As .u64 (Ak 0 starts k) (As .u64 last 1) else Ak 0 starts k) (As .i64 k 1) (bif zero then true else eqI (bif ltI 0 j then As .u64 (Ak 0 starts k) (As .u64 last 1) else Ak 0 starts k) 0) (xs++[IntKind.wrap .i64 (bif ltI 0 j then As .u64 (Ak 0 starts k) (As .u64 last 1) else Ak 0 starts k)])
 else none
 else none
 else none
 else
 some (true,k,zero,xs)
 else none
def F3(F:Nat)(m:Nat)(total:Int)(sizes starts:List Int):Nat→Int→Int→Bool→List qL→Option (Bool×Bool×List qL)
 | 0,_,_,_,_=>none
 | n+1,i,k,zero,D =>
 bif ltI i (m:Int) then
 (Jf F (inI i m) total sizes starts i F 0 0 k zero []).bind fun r =>
 bif r.1 then(bif eqI (As .i64 i 1) (Au D+1) then F3 F m total sizes starts n (As .i64 i 1) r.2.1 r.2.2.1 (D++[r.2.2.2]) else none) else some (false,zero,D)
 else
 some (true,zero,D)
def Ke(F:Nat){R:Type}{A:Type}(k4:Int→List (Int×(A×(List Int×Unit)))→Bool→Option R)(kret:List (Int×(A×(List Int×Unit)))→Int→Int→Option R)(n:Nat)(x1 x2:Int)(x12:List (Int×(A×(Unit×Unit))))(x14 x17:List Int)(x18:Bool)(x19 x20:Int):Option R :=
 bif eqI x19 0 then
 (F3 F (List.length x12) x2 x14 x17 n 0 x20 x18 []).bind fun r=>bif r.1 then k4 x1 (Ec x12 r.2.2) r.2.1 else kret [] 0 10
 else none
def Eg(F:Nat)(x0:qL)(x1:Int)(x2:Int):Option ((List qG)×Int×Int×Unit) :=
 bif ltI x1 0 then
 some ([],(0,(2,())))
 else
 bif ltI (Au x0) x1 then
 some ([],(0,(2,())))
 else
 bif ltI x2 0 then
 some ([],(0,(2,())))
 else
 bif ltI 4096 x2 then
 some ([],(0,(2,())))
 else
 (Uq F x0 x1).bind fun r6 =>
 bif not (eqI r6.2.2.1 0) then
 some ([],(0,(r6.2.2.1,())))
 else
 bif ltI (IntKind.wrap .u64 x2) r6.1 then
 some ([],(0,(10,())))
 else
 (Hm F x0 r6.2.1 (IntKind.wrap .i64 r6.1)).bind fun r11 =>
 bif not (eqI r11.2.2.1 0) then
 some ([],(0,(r11.2.2.1,())))
 else
 bif Im r6.1 r6.1 112 then
 F1 F (fun z22 z23 z24 z25 z26 =>
 (Fa F z22 z23 (IntKind.wrap .i64 z25)).bind fun r28 =>
 bif not (eqI r28.2.2.1 0) then
 some ([],(0,(r28.2.2.1,())))
 else
 F2 F (fun z39 z40 z41 z42 z43 z44 =>
 (Fa F z39 z40 (Bl .i64 z41 (IntKind.wrap .i64 z44))).bind fun r47 =>
 bif not (eqI r47.2.2.1 0) then
 some ([],(0,(r47.2.2.1,())))
 else
 Ke F (fun z50 z51 z52 =>
 (Kn F z51).bind fun r53 =>
 bif not (eqI r53.1 0) then
 some ([],(0,(5,())))
 else
 bif not z52 then
 some ([],(0,(10,())))
 else
 some (z51,(z50,(0,())))) (fun z56 z57 z58 =>
 some (z56,(z57,(z58,())))) F r47.2.1 z41 z42 z43 r47.1 (eqI z41 0) 0 0) (fun z59 z60 =>
 some ([],(z59,(z60,())))) F z22 r28.2.1 z24 z26 r28.1 (IntKind.wrap .u64 z24) 0) (fun z61 z62 =>
 some ([],(z61,(z62,())))) F x0 r11.2.1 x2 r6.1 r11.1 (Cc r6.1 ((0,(((false,([0,0,0,0],())),((false,([0,0,0,0],())),())),((),()))):qGN)) 0
 else
 none
def Hz(F:Nat)(x0:qL)(x1:Int)(x2:Int):Option (Bool×Unit) :=
 (Bi F x0 x1 x2).bind fun r1 =>
 (Eg F x0 x1 x2).bind fun r2 =>
 bif eqI r1.2.2.1 r2.2.2.1 then
 bif eqI r1.2.1 r2.2.1 then
 (AcL F r1.1 r2.1).bind fun r5 =>
 some (r5.1,())
 else
 some (false,())
 else
 some (false,())
def Aj8(F:Nat)(x0:qL)(x1:Int)(x2:Int)(x3:qL):Option (Bool×Unit) :=
 (Wp F x3).bind fun r1 =>
 (O2 F r1.1).bind fun r2 =>
 (AgF F r2.2.1).bind fun r3 =>
 (Py F x2 20).bind fun r4 =>
 (Pn F r2.1).bind fun r5 =>
 (Pm F).bind fun r6 =>
 bif r6.1 then
 (Hz F x0 x1 x2).bind fun r7 =>
 bif r7.1 then
 (Hz F x0 0 r4.1).bind fun r8 =>
 bif r8.1 then
 (Al F r5.1 4).bind fun r9 =>
 bif Bh (3+(List.length x0)) 1 then
 (Hz F ([IntKind.wrap .u8 r9.2.1,0,0]++x0) 0 r4.1).bind fun r12 =>
 bif r12.1 then
 (Hz F r5.2.1 0 r4.1).bind fun r13 =>
 bif r13.1 then
 (Al F r9.1 6).bind fun r14 =>
 (Hz F r5.2.1 0 (As .i64 3 r14.2.1)).bind fun r16 =>
 bif r16.1 then
 (Hz F r3.1 0 r2.2.2.1).bind fun r17 =>
 bif r17.1 then
 (Al F r14.1 3).bind fun r18 =>
 (Hz F r3.1 0 (Bl .i64 (As .i64 r2.2.2.1 r18.2.1) 1)).bind fun r21 =>
 bif r21.1 then
 (P7 F r18.1 r3.1).bind fun r22 =>
 (Hz F r22.2.2.1 0 r2.2.2.1).bind fun r23 =>
 bif r23.1 then
 bif Bh ((List.length r22.2.1)+(List.length x0)) 1 then
 (Hz F (r22.2.1++x0) 0 r2.2.2.1).bind fun r25 =>
 some (r25.1,())
 else
 none
 else
 some (false,())
 else
 some (false,())
 else
 some (false,())
 else
 some (false,())
 else
 some (false,())
 else
 some (false,())
 else
 none
 else
 some (false,())
 else
 some (false,())
 else
 some (false,())
end Go.Proofs.YtdhfajmcakneiaaGreat
