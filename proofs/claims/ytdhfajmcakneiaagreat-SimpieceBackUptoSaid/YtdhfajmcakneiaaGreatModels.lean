/- The plain models of the functions. Written by program. -/
import Derived.Test.YtdhfajmcakneiaaGreatEngD
set_option linter.unusedVariables false
set_option linter.unusedSimpArgs false
namespace Go.Proofs.YtdhfajmcakneiaaGreat
open Go.Eng
abbrev qL:=List Int
abbrev qW:=(Bool×((List Int)×Unit))
abbrev qR:=((Bool×((List Int)×Unit))×((Bool×((List Int)×Unit))×Unit))
abbrev qG:=(Int×(((Bool×((List Int)×Unit))×((Bool×((List Int)×Unit))×Unit))×((List Int)×Unit)))
abbrev qGN:=(Int×(((Bool×((List Int)×Unit))×((Bool×((List Int)×Unit))×Unit))×(Unit×Unit)))
abbrev qCO:=(Bool×(((Bool×((List Int)×Unit))×((Bool×((List Int)×Unit))×Unit))×(((Bool×((List Int)×Unit))×((Bool×((List Int)×Unit))×Unit))×Unit)))
abbrev qPI:=(Int×(Int×(Int×((Bool×(((Bool×((List Int)×Unit))×((Bool×((List Int)×Unit))×Unit))×(((Bool×((List Int)×Unit))×((Bool×((List Int)×Unit))×Unit))×Unit)))×Unit))))
abbrev qSM:=(Int×(Int×Unit))
abbrev qPS:=(Int×(Int×(Int×((Int×(Int×Unit))×(Int×(Int×((Bool×(((Bool×((List Int)×Unit))×((Bool×((List Int)×Unit))×Unit))×(((Bool×((List Int)×Unit))×((Bool×((List Int)×Unit))×Unit))×Unit)))×Unit)))))))
abbrev qTP:=((List Int)×(Int×Unit))
def slices_Grow_byte(F:Nat)(x0:qL)(x1:Int):Option (qL×Unit):=slices_Grow 1 x0 x1
def made_New(F:Nat)(x0:qL):Option (qTP×Unit) :=
 some ((x0,(0,())),())
def made_Mod(F:Nat)(x0:Int)(x1:Int):Option (Int×Unit) :=
 bif ltI x1 1 then
 some (0,())
 else
 bif eqI x1 0 then
 none
 else
 bif ltI (remI x0 x1) 0 then
 some (addI .i64 (remI x0 x1) x1,())
 else
 some (remI x0 x1,())
def made_Tape_Next(F:Nat)(x0:qTP)(x1:Int):Option (qTP×Int×Unit) :=
 bif leI (lenI x0.1) x0.2.1 then
 some (x0,(0,()))
 else
 let x19v3:=addI .i64 x0.2.1 1
 bif inI (subI .i64 x19v3 1) (List.length x0.1) then
 (made_Mod F (getL 0 x0.1 (subI .i64 x19v3 1)) x1).bind fun r6 =>
 some ((x0.1,(x19v3,x0.2.2)),(r6.1,()))
 else
 none
def made_Tape_Word_l3(F:Nat){R:Type}(k0:qTP→Int→Option R):Nat→qTP→Int→Int→Option R
 | 0,_,_,_=>none
 | n+1,x0,x3,x4 =>
 bif ltI x4 4 then
 (made_Tape_Next F x0 65536).bind fun r3 =>
 made_Tape_Word_l3 F k0 n r3.1 (addI .u64 (shlI .u64 x3 16) (IntKind.wrap .u64 r3.2.1)) (addI .i64 x4 1)
 else
 k0 x0 x3
def made_Tape_Word(F:Nat)(x0:qTP):Option (qTP×Int×Unit) :=
 made_Tape_Word_l3 F (fun z7 z8 =>
 some (z7,(z8,()))) F x0 0 0
def made_Tape_Int(F:Nat)(x0:qTP):Option (qTP×Int×Unit) :=
 (made_Tape_Next F x0 8).bind fun r1 =>
 bif eqI r1.2.1 0 then
 (made_Tape_Word F r1.1).bind fun r3 =>
 some (r3.1,(IntKind.wrap .i64 r3.2.1,()))
 else
 bif eqI r1.2.1 1 then
 (made_Tape_Next F r1.1 4).bind fun r6 =>
 some (r6.1,(subI .i64 9223372036854775807 r6.2.1,()))
 else
 bif eqI r1.2.1 2 then
 (made_Tape_Next F r1.1 4).bind fun r9 =>
 some (r9.1,(addI .i64 (-9223372036854775808) r9.2.1,()))
 else
 bif eqI r1.2.1 3 then
 (made_Tape_Word F r1.1).bind fun r12 =>
 (made_Tape_Next F r12.1 64).bind fun r13 =>
 let x26v14:=IntKind.wrap .u64 r13.2.1
 bif ltI x26v14 0 then
 none
 else
 some (r13.1,(IntKind.wrap .i64 (shrI .u64 r12.2.1 x26v14),()))
 else
 (made_Tape_Next F r1.1 2000).bind fun r17 =>
 some (r17.1,(subI .i64 r17.2.1 1000,()))
def made_Tape_Bool(F:Nat)(x0:qTP)(x1:Int):Option (qTP×Bool×Unit) :=
 (made_Tape_Next F x0 x1).bind fun r1 =>
 bif eqI x1 0 then
 none
 else
 some (r1.1,(eqI r1.2.1 (remI 1 x1),()))
def made_Tape_Times_j20(F:Nat){R:Type}(kn:qTP→qL→Int→Int→Int→Int→Option R)(kret:qTP→qL→Option R)(x0:qTP)(x5:qL)(x6:Int)(x7:Int)(x8:Int)(x9:Int)(x10:Int):Option R :=
 bif ltI (subI .u64 9223372036854775807 (IntKind.wrap .u64 x7)) x10 then
 kret x0 x5
 else
 kn x0 x5 x6 (IntKind.wrap .i64 (addI .u64 (IntKind.wrap .u64 x7) x10)) x8 x9
def made_Tape_Times_l6(F:Nat){R:Type}(k0:qTP→qL→Option R)(kret:qTP→qL→Option R):Nat→qTP→qL→Int→Int→Int→Int→Option R
 | 0,_,_,_,_,_,_=>none
 | n+1,x0,x5,x6,x7,x8,x9 =>
 bif ltI 0 x9 then
 bif roomB ((List.length x5)+1) 8 then
 bif eqI x6 1 then
 (made_Tape_Next F x0 9).bind fun r11 =>
 made_Tape_Times_j20 F (fun z20 z21 z22 z23 z24 z25 =>
 made_Tape_Times_l6 F k0 kret n z20 z21 z22 z23 z24 (subI .i64 z25 1)) (fun z27 z28 =>
 kret z27 z28) r11.1 (x5++[x7]) x6 x7 x8 x9 (IntKind.wrap .u64 (addI .i64 1 r11.2.1))
 else
 bif eqI x6 2 then
 (made_Tape_Next F x0 3).bind fun r30 =>
 made_Tape_Times_j20 F (fun z33 z34 z35 z36 z37 z38 =>
 made_Tape_Times_l6 F k0 kret n z33 z34 z35 z36 z37 (subI .i64 z38 1)) (fun z40 z41 =>
 kret z40 z41) r30.1 (x5++[x7]) x6 x7 x8 x9 (addI .u64 x8 (IntKind.wrap .u64 r30.2.1))
 else
 bif eqI x6 3 then
 (made_Tape_Word F x0).bind fun r43 =>
 (made_Tape_Next F r43.1 56).bind fun r44 =>
 let x52v45:=addI .i64 4 r44.2.1
 bif ltI (IntKind.wrap .u64 x52v45) 0 then
 none
 else
 made_Tape_Times_j20 F (fun z49 z50 z51 z52 z53 z54 =>
 made_Tape_Times_l6 F k0 kret n z49 z50 z51 z52 z53 (subI .i64 z54 1)) (fun z56 z57 =>
 kret z56 z57) r44.1 (x5++[x7]) x6 x7 x8 x9 (addI .u64 1 (shrI .u64 r43.2.1 (IntKind.wrap .u64 x52v45)))
 else
 bif eqI x6 4 then
 (made_Tape_Bool F x0 4).bind fun r59 =>
 bif r59.2.1 then
 (made_Tape_Word F r59.1).bind fun r60 =>
 (made_Tape_Next F r60.1 8).bind fun r61 =>
 let x64v62:=addI .i64 1 r61.2.1
 bif ltI (IntKind.wrap .u64 x64v62) 0 then
 none
 else
 made_Tape_Times_j20 F (fun z66 z67 z68 z69 z70 z71 =>
 made_Tape_Times_l6 F k0 kret n z66 z67 z68 z69 z70 (subI .i64 z71 1)) (fun z73 z74 =>
 kret z73 z74) r61.1 (x5++[x7]) x6 x7 x8 x9 (addI .u64 1 (shrI .u64 r60.2.1 (IntKind.wrap .u64 x64v62)))
 else
 made_Tape_Times_j20 F (fun z75 z76 z77 z78 z79 z80 =>
 made_Tape_Times_l6 F k0 kret n z75 z76 z77 z78 z79 (subI .i64 z80 1)) (fun z82 z83 =>
 kret z82 z83) r59.1 (x5++[x7]) x6 x7 x8 x9 x8
 else
 made_Tape_Times_j20 F (fun z84 z85 z86 z87 z88 z89 =>
 made_Tape_Times_l6 F k0 kret n z84 z85 z86 z87 z88 (subI .i64 z89 1)) (fun z91 z92 =>
 kret z91 z92) x0 (x5++[x7]) x6 x7 x8 x9 x8
 else
 none
 else
 k0 x0 x5
def made_Tape_Times(F:Nat)(x0:qTP)(x1:Int):Option (qTP×qL×Unit) :=
 (made_Tape_Next F x0 5).bind fun r1 =>
 (made_Tape_Int F r1.1).bind fun r2 =>
 (made_Tape_Next F r2.1 50).bind fun r3 =>
 (made_Tape_Next F r3.1 (addI .i64 x1 1)).bind fun r7 =>
 made_Tape_Times_l6 F (fun z93 z94 =>
 some (z93,(z94,()))) (fun z95 z96 =>
 some (z95,(z96,()))) F r7.1 [] r1.2.1 r2.2.1 (IntKind.wrap .u64 (addI .i64 1 r3.2.1)) r7.2.1
def made_Tape_Samples_l6(F:Nat){R:Type}(k0:qTP→(List qSM)→Option R):Nat→qTP→qL→(List qSM)→Int→Int→Int→Int→Option R
 | 0,_,_,_,_,_,_,_=>none
 | n+1,x0,x5,x6,x7,x8,x9,x10 =>
 bif ltI x10 (lenI x5) then
 bif eqI x7 1 then
 bif inI x10 (List.length x5) then
 bif roomB ((List.length x6)+1) 16 then
 made_Tape_Samples_l6 F k0 n x0 x5 (x6++[(getL 0 x5 x10,(addI .i64 x8 (mulI .i64 x10 x9),()))]) x7 x8 x9 (addI .i64 x10 1)
 else
 none
 else
 none
 else
 bif eqI x7 2 then
 (made_Tape_Next F x0 7).bind fun r17 =>
 bif inI x10 (List.length x5) then
 bif roomB ((List.length x6)+1) 16 then
 made_Tape_Samples_l6 F k0 n r17.1 x5 (x6++[(getL 0 x5 x10,(addI .i64 (addI .i64 x8 (mulI .i64 x10 x9)) (subI .i64 r17.2.1 3),()))]) x7 x8 x9 (addI .i64 x10 1)
 else
 none
 else
 none
 else
 bif eqI x7 3 then
 (made_Tape_Next F x0 9).bind fun r24 =>
 bif inI x10 (List.length x5) then
 bif roomB ((List.length x6)+1) 16 then
 made_Tape_Samples_l6 F k0 n r24.1 x5 (x6++[(getL 0 x5 x10,(addI .i64 x8 (subI .i64 r24.2.1 4),()))]) x7 x8 x9 (addI .i64 x10 1)
 else
 none
 else
 none
 else
 bif eqI x7 4 then
 (made_Tape_Int F x0).bind fun r31 =>
 bif inI x10 (List.length x5) then
 bif roomB ((List.length x6)+1) 16 then
 made_Tape_Samples_l6 F k0 n r31.1 x5 (x6++[(getL 0 x5 x10,(r31.2.1,()))]) x7 x8 x9 (addI .i64 x10 1)
 else
 none
 else
 none
 else
 bif eqI x7 5 then
 (made_Tape_Bool F x0 5).bind fun r36 =>
 bif r36.2.1 then
 (made_Tape_Next F r36.1 400).bind fun r37 =>
 let x66v38:=subI .i64 r37.2.1 200
 (made_Tape_Next F r37.1 3).bind fun r40 =>
 bif inI x10 (List.length x5) then
 bif roomB ((List.length x6)+1) 16 then
 made_Tape_Samples_l6 F k0 n r40.1 x5 (x6++[(getL 0 x5 x10,(addI .i64 (addI .i64 x8 x66v38) r40.2.1,()))]) x7 (addI .i64 x8 x66v38) x9 (addI .i64 x10 1)
 else
 none
 else
 none
 else
 (made_Tape_Next F r36.1 3).bind fun r45 =>
 bif inI x10 (List.length x5) then
 bif roomB ((List.length x6)+1) 16 then
 made_Tape_Samples_l6 F k0 n r45.1 x5 (x6++[(getL 0 x5 x10,(addI .i64 x8 r45.2.1,()))]) x7 x8 x9 (addI .i64 x10 1)
 else
 none
 else
 none
 else
 bif eqI x7 6 then
 (made_Tape_Next F x0 50).bind fun r51 =>
 (made_Tape_Next F r51.1 50).bind fun r52 =>
 bif inI x10 (List.length x5) then
 bif roomB ((List.length x6)+1) 16 then
 made_Tape_Samples_l6 F k0 n r52.1 x5 (x6++[(getL 0 x5 x10,(mulI .i64 (mulI .i64 r51.2.1 r52.2.1) x9,()))]) x7 x8 x9 (addI .i64 x10 1)
 else
 none
 else
 none
 else
 bif inI x10 (List.length x5) then
 bif roomB ((List.length x6)+1) 16 then
 made_Tape_Samples_l6 F k0 n x0 x5 (x6++[(getL 0 x5 x10,(x8,()))]) x7 x8 x9 (addI .i64 x10 1)
 else
 none
 else
 none
 else
 k0 x0 x6
def made_Tape_Samples(F:Nat)(x0:qTP)(x1:Int):Option (qTP×(List qSM)×Unit) :=
 (made_Tape_Times F x0 x1).bind fun r1 =>
 (made_Tape_Next F r1.1 7).bind fun r2 =>
 (made_Tape_Int F r2.1).bind fun r3 =>
 (made_Tape_Next F r3.1 41).bind fun r4 =>
 made_Tape_Samples_l6 F (fun z61 z62 =>
 some (z61,(z62,()))) F r4.1 r1.2.1 [] r2.2.1 r3.2.1 (subI .i64 r4.2.1 20) 0
def made_Tape_Some(F:Nat)(x0:qTP)(x1:Int):Option (qTP×(List qSM)×Unit) :=
 (made_Tape_Samples F x0 x1).bind fun r1 =>
 bif eqI (lenI r1.2.1) 0 then
 (made_Tape_Int F r1.1).bind fun r4 =>
 (made_Tape_Int F r4.1).bind fun r5 =>
 some (r5.1,([(r4.2.1,(r5.2.1,()))],()))
 else
 some (r1.1,(r1.2.1,()))
def made_Tape_Tolerance(F:Nat)(x0:qTP):Option (qTP×Int×Unit) :=
 (made_Tape_Next F x0 8).bind fun r1 =>
 bif eqI r1.2.1 0 then
 some (r1.1,(0,()))
 else
 bif eqI r1.2.1 1 then
 (made_Tape_Next F r1.1 2).bind fun r4 =>
 some (r4.1,(subI .i64 4611686018427387904 r4.2.1,()))
 else
 bif eqI r1.2.1 2 then
 (made_Tape_Word F r1.1).bind fun r7 =>
 (made_Tape_Next F r7.1 60).bind fun r8 =>
 let x18v9:=addI .i64 2 r8.2.1
 bif ltI (IntKind.wrap .u64 x18v9) 0 then
 none
 else
 some (r8.1,(IntKind.wrap .i64 (shrI .u64 r7.2.1 (IntKind.wrap .u64 x18v9)),()))
 else
 (made_Tape_Next F r1.1 30).bind fun r13 =>
 some (r13.1,(r13.2.1,()))
def ref13_Tolerance(F:Nat)(x0:Int):Option (Bool×Unit) :=
 bif leI 0 x0 then
 some (leI x0 4611686018427387904,())
 else
 some (false,())
def ref19_Start(F:Nat)(x0:Int):Option (qPS×Int×Unit) :=
 (ref13_Tolerance F x0).bind fun r1 =>
 bif not r1.1 then
 some ((0,(0,(0,((0,(0,())),(0,(0,((false,(((false,([0,0,0,0],())),((false,([0,0,0,0],())),())),(((false,([0,0,0,0],())),((false,([0,0,0,0],())),())),()))),()))))))),(9,()))
 else
 some ((x0,(0,(0,((0,(0,())),(0,(0,((false,(((false,([0,0,0,0],())),((false,([0,0,0,0],())),())),(((false,([0,0,0,0],())),((false,([0,0,0,0],())),())),()))),()))))))),(0,()))
def ref12_Times_l3(F:Nat){R:Type}(k0:qL→Option R):Nat→(List qSM)→qL→Int→Option R
 | 0,_,_,_=>none
 | n+1,x0,x3,x4 =>
 bif ltI x4 (lenI x0) then
 bif inI x4 (List.length x0) then
 bif roomB ((List.length x3)+1) 8 then
 ref12_Times_l3 F k0 n x0 (x3++[(getL (0,(0,())) x0 x4).1]) (addI .i64 x4 1)
 else
 none
 else
 none
 else
 k0 x3
def ref12_Times(F:Nat)(x0:(List qSM)):Option (qL×Unit) :=
 ref12_Times_l3 F (fun z6 =>
 some (z6,())) F x0 [] 0
def ref10_Increasing_l2(F:Nat){R:Type}(k0:Option R)(kret:Bool→Option R):Nat→qL→Int→Option R
 | 0,_,_=>none
 | n+1,x0,x3 =>
 bif ltI x3 (lenI x0) then
 bif inI x3 (List.length x0) then
 bif inI (subI .i64 x3 1) (List.length x0) then
 bif leI (getL 0 x0 x3) (getL 0 x0 (subI .i64 x3 1)) then
 kret false
 else
 ref10_Increasing_l2 F k0 kret n x0 (addI .i64 x3 1)
 else
 none
 else
 none
 else
 k0
def ref10_Increasing(F:Nat)(x0:qL):Option (Bool×Unit) :=
 ref10_Increasing_l2 F (
 some (true,())) (fun z8 =>
 some (z8,())) F x0 1
def ref12_Check(F:Nat)(x0:(List qSM)):Option (Int×Unit) :=
 (ref12_Times F x0).bind fun r1 =>
 (ref10_Increasing F r1.1).bind fun r2 =>
 bif not r2.1 then
 some (7,())
 else
 some (0,())
def ref19_unit(F:Nat)(x0:Int):Option (Int×Unit) :=
 some (maxI x0 1,())
def ref01_FloorDiv_j3(F:Nat){R:Type}(kret:Int→Bool→Option R)(x0:Int)(x1:Int):Option R :=
 bif eqI x1 0 then
 none
 else
 bif eqI x1 0 then
 none
 else
 bif not (eqI (remI x0 x1) 0) then
 bif not (eqT .bool (ltI x0 0) (ltI x1 0)) then
 kret (subI .i64 (quoI .i64 x0 x1) 1) true
 else
 kret (quoI .i64 x0 x1) true
 else
 kret (quoI .i64 x0 x1) true
def ref01_FloorDiv(F:Nat)(x0:Int)(x1:Int):Option (Int×Bool×Unit) :=
 bif eqI x1 0 then
 some (0,(false,()))
 else
 bif eqI x0 (-9223372036854775808) then
 bif eqI x1 (-1) then
 some (0,(false,()))
 else
 ref01_FloorDiv_j3 F (fun z11 z12 =>
 some (z11,(z12,()))) x0 x1
 else
 ref01_FloorDiv_j3 F (fun z13 z14 =>
 some (z13,(z14,()))) x0 x1
def ref19_Key(F:Nat)(x0:Int)(x1:Int):Option (Int×Unit) :=
 (ref19_unit F x1).bind fun r1 =>
 (ref01_FloorDiv F x0 r1.1).bind fun r2 =>
 some (r2.1,())
def ref13_Start(F:Nat) :Option (qCO×Unit) :=
 some ((true,(((false,([0,0,0,0],())),((false,([0,0,0,0],())),())),(((false,([0,0,0,0],())),((false,([0,0,0,0],())),())),()))),())
def ref02_trim_l1(F:Nat){R:Type}(k0:qL→Option R):Nat→qL→Option R
 | 0,_=>none
 | n+1,x0 =>
 bif ltI 0 (lenI x0) then
 bif inI (subI .i64 (lenI x0) 1) (List.length x0) then
 bif eqI (getL 0 x0 (subI .i64 (lenI x0) 1)) 0 then
 bif cutB 0 (subI .i64 (lenI x0) 1) (List.length x0) then
 ref02_trim_l1 F k0 n (takeL x0 (subI .i64 (lenI x0) 1))
 else
 none
 else
 k0 x0
 else
 none
 else
 k0 x0
def ref02_trim(F:Nat)(x0:qL):Option (qL×Unit) :=
 ref02_trim_l1 F (fun z10 =>
 some (z10,())) F x0
def ref02_trimc_l1(F:Nat){R:Type}(k0:qL→Option R):Nat→qL→Option R
 | 0,_=>none
 | n+1,x0 =>
 bif ltI 0 (lenI x0) then
 bif inI (subI .i64 (lenI x0) 1) (List.length x0) then
 bif eqI (getL 0 x0 (subI .i64 (lenI x0) 1)) 0 then
 bif cutB 0 (subI .i64 (lenI x0) 1) (List.length x0) then
 ref02_trimc_l1 F k0 n (takeL x0 (subI .i64 (lenI x0) 1))
 else
 none
 else
 k0 x0
 else
 none
 else
 k0 x0
def ref02_trimc(F:Nat)(x0:qL):Option (qL×Unit) :=
 ref02_trimc_l1 F (fun z10 =>
 some (z10,())) F x0
def ref02_of(F:Nat)(x0:qW):Option (qL×Unit) :=
 bif roomB (0+(List.length x0.2.1)) 8 then
 (ref02_trim F ([]++x0.2.1)).bind fun r2 =>
 some (r2.1,())
 else
 none
def ref02_Valid(F:Nat)(x0:qW):Option (Bool×Unit) :=
 bif not x0.1 then
 some (true,())
 else
 (ref02_of F x0).bind fun r2 =>
 some (ltI 0 (lenI r2.1),())
def ref02_Sign(F:Nat)(x0:qW):Option (Int×Unit) :=
 (ref02_of F x0).bind fun r1 =>
 bif eqI (lenI r1.1) 0 then
 some (0,())
 else
 bif x0.1 then
 some ((-1),())
 else
 some (1,())
def ref03_small(F:Nat)(x0:qW):Option (Bool×Unit) :=
 bif eqI (getL 0 x0.2.1 3) 0 then
 bif eqI (getL 0 x0.2.1 2) 0 then
 some (ltI (getL 0 x0.2.1 1) 9223372036854775808,())
 else
 some (false,())
 else
 some (false,())
def ref03_abs(F:Nat)(x0:qW):Option (qW×Unit) :=
 some ((false,x0.2),())
def ref02_clean(F:Nat)(x0:qW):Option (qW×Unit) :=
 (ref02_Valid F x0).bind fun r1 =>
 bif not r1.1 then
 some ((false,([0,0,0,0],())),())
 else
 some (x0,())
def ref02_Unsigned(F:Nat)(x0:qW):Option (Int×Bool×Unit) :=
 (ref02_clean F x0).bind fun r1 =>
 (ref02_of F r1.1).bind fun r2 =>
 bif r1.1.1 then
 some (0,(false,()))
 else
 bif ltI 1 (lenI r2.1) then
 some (0,(false,()))
 else
 some (getL 0 r1.1.2.1 0,(true,()))
def ref02_OfUnsigned(F:Nat)(x0:Int):Option (qW×Unit) :=
 some ((false,([x0,0,0,0],())),())
def bits_LeadingZeros64(F:Nat)(x0:Int):Option (Int×Unit) :=
 (bits_Len64 F x0).bind fun r1 =>
 some (subI .i64 64 r1.1,())
def bits_Div64_l17(F:Nat){R:Type}(k0:Int→Int→Int→Int→Int→Int→Int→Int→Option R):Nat→Int→Int→Int→Int→Int→Int→Int→Int→Int→Option R
 | 0,_,_,_,_,_,_,_,_,_=>none
 | n+1,x2,x8,x9,x10,x11,x13,x14,x15,x16 =>
 bif leI 4294967296 x15 then
 bif leI 4294967296 (addI .u64 x16 x9) then
 k0 x2 x8 x9 x10 x11 x13 x14 (subI .u64 x15 1)
 else
 bits_Div64_l17 F k0 n x2 x8 x9 x10 x11 x13 x14 (subI .u64 x15 1) (addI .u64 x16 x9)
 else
 bif ltI (addI .u64 (mulI .u64 4294967296 x16) x13) (mulI .u64 x15 x10) then
 bif leI 4294967296 (addI .u64 x16 x9) then
 k0 x2 x8 x9 x10 x11 x13 x14 (subI .u64 x15 1)
 else
 bits_Div64_l17 F k0 n x2 x8 x9 x10 x11 x13 x14 (subI .u64 x15 1) (addI .u64 x16 x9)
 else
 k0 x2 x8 x9 x10 x11 x13 x14 x15
def bits_Div64_l24(F:Nat){R:Type}(k2:Int→Int→Int→Int→Int→Int→Option R):Nat→Int→Int→Int→Int→Int→Int→Int→Int→Int→Option R
 | 0,_,_,_,_,_,_,_,_,_=>none
 | n+1,x2,x8,x9,x10,x14,x15,x16,x17,x18 =>
 bif leI 4294967296 x18 then
 bif leI 4294967296 (addI .u64 x16 x9) then
 k2 x2 x8 x14 x15 x17 (subI .u64 x18 1)
 else
 bits_Div64_l24 F k2 n x2 x8 x9 x10 x14 x15 (addI .u64 x16 x9) x17 (subI .u64 x18 1)
 else
 bif ltI (addI .u64 (mulI .u64 4294967296 x16) x14) (mulI .u64 x18 x10) then
 bif leI 4294967296 (addI .u64 x16 x9) then
 k2 x2 x8 x14 x15 x17 (subI .u64 x18 1)
 else
 bits_Div64_l24 F k2 n x2 x8 x9 x10 x14 x15 (addI .u64 x16 x9) x17 (subI .u64 x18 1)
 else
 k2 x2 x8 x14 x15 x17 x18
def bits_Div64(F:Nat)(x0:Int)(x1:Int)(x2:Int):Option (Int×Int×Unit) :=
 bif eqI x2 0 then
 none
 else
 bif leI x2 x0 then
 none
 else
 bif eqI x0 0 then
 bif eqI x2 0 then
 none
 else
 bif eqI x2 0 then
 none
 else
 some (quoI .u64 x1 x2,(remI x1 x2,()))
 else
 (bits_LeadingZeros64 F x2).bind fun r6 =>
 bif ltI (IntKind.wrap .u64 r6.1) 0 then
 none
 else
 bif ltI (IntKind.wrap .u64 r6.1) 0 then
 none
 else
 bif ltI (subI .u64 64 (IntKind.wrap .u64 r6.1)) 0 then
 none
 else
 bif ltI (IntKind.wrap .u64 r6.1) 0 then
 none
 else
 bif eqI (shrI .u64 (shlI .u64 x2 (IntKind.wrap .u64 r6.1)) 32) 0 then
 none
 else
 bits_Div64_l17 F (fun z32 z33 z34 z35 z36 z37 z38 z39 =>
 bif eqI z34 0 then
 none
 else
 bits_Div64_l24 F (fun z58 z59 z60 z61 z62 z63 =>
 bif ltI z59 0 then
 none
 else
 some (addI .u64 (mulI .u64 z61 4294967296) z63,(shrI .u64 (subI .u64 (addI .u64 (mulI .u64 z62 4294967296) z60) (mulI .u64 z63 z58)) z59,()))) F z32 z33 z34 z35 z38 z39 (subI .u64 (subI .u64 (addI .u64 (mulI .u64 z36 4294967296) z37) (mulI .u64 z39 z32)) (mulI .u64 (quoI .u64 (subI .u64 (addI .u64 (mulI .u64 z36 4294967296) z37) (mulI .u64 z39 z32)) z34) z34)) (subI .u64 (addI .u64 (mulI .u64 z36 4294967296) z37) (mulI .u64 z39 z32)) (quoI .u64 (subI .u64 (addI .u64 (mulI .u64 z36 4294967296) z37) (mulI .u64 z39 z32)) z34)) F (shlI .u64 x2 (IntKind.wrap .u64 r6.1)) (IntKind.wrap .u64 r6.1) (shrI .u64 (shlI .u64 x2 (IntKind.wrap .u64 r6.1)) 32) (andI .u64 (shlI .u64 x2 (IntKind.wrap .u64 r6.1)) 4294967295) (orI .u64 (shlI .u64 x0 (IntKind.wrap .u64 r6.1)) (shrI .u64 x1 (subI .u64 64 (IntKind.wrap .u64 r6.1)))) (shrI .u64 (shlI .u64 x1 (IntKind.wrap .u64 r6.1)) 32) (andI .u64 (shlI .u64 x1 (IntKind.wrap .u64 r6.1)) 4294967295) (quoI .u64 (orI .u64 (shlI .u64 x0 (IntKind.wrap .u64 r6.1)) (shrI .u64 x1 (subI .u64 64 (IntKind.wrap .u64 r6.1)))) (shrI .u64 (shlI .u64 x2 (IntKind.wrap .u64 r6.1)) 32)) (subI .u64 (orI .u64 (shlI .u64 x0 (IntKind.wrap .u64 r6.1)) (shrI .u64 x1 (subI .u64 64 (IntKind.wrap .u64 r6.1)))) (mulI .u64 (quoI .u64 (orI .u64 (shlI .u64 x0 (IntKind.wrap .u64 r6.1)) (shrI .u64 x1 (subI .u64 64 (IntKind.wrap .u64 r6.1)))) (shrI .u64 (shlI .u64 x2 (IntKind.wrap .u64 r6.1)) 32)) (shrI .u64 (shlI .u64 x2 (IntKind.wrap .u64 r6.1)) 32)))
def ref02_size(F:Nat)(x0:qL):Option (Int×Unit) :=
 bif eqI (lenI x0) 0 then
 some (0,())
 else
 bif inI (subI .i64 (lenI x0) 1) (List.length x0) then
 (bits_Len64 F (getL 0 x0 (subI .i64 (lenI x0) 1))).bind fun r9 =>
 some (addI .i64 (mulI .i64 64 (subI .i64 (lenI x0) 1)) r9.1,())
 else
 none
def ref02_up_l3(F:Nat){R:Type}(k0:qL→Option R):Nat→qL→Int→qL→Int→Option R
 | 0,_,_,_,_=>none
 | n+1,x0,x1,x5,x6 =>
 bif ltI x6 (lenI x0) then
 bif inI (addI .i64 x6 (quoI .i64 x1 64)) (List.length x5) then
 bif inI x6 (List.length x0) then
 bif ltI (IntKind.wrap .u64 (remI x1 64)) 0 then
 none
 else
 bif inI (addI .i64 x6 (quoI .i64 x1 64)) (List.length x5) then
 bif ltI 0 (remI x1 64) then
 bif inI (addI .i64 (addI .i64 x6 (quoI .i64 x1 64)) 1) (List.length (setL x5 (addI .i64 x6 (quoI .i64 x1 64)) (orI .u64 (getL 0 x5 (addI .i64 x6 (quoI .i64 x1 64))) (shlI .u64 (getL 0 x0 x6) (IntKind.wrap .u64 (remI x1 64)))))) then
 bif inI x6 (List.length x0) then
 bif ltI (IntKind.wrap .u64 (subI .i64 64 (remI x1 64))) 0 then
 none
 else
 bif inI (addI .i64 (addI .i64 x6 (quoI .i64 x1 64)) 1) (List.length (setL x5 (addI .i64 x6 (quoI .i64 x1 64)) (orI .u64 (getL 0 x5 (addI .i64 x6 (quoI .i64 x1 64))) (shlI .u64 (getL 0 x0 x6) (IntKind.wrap .u64 (remI x1 64)))))) then
 ref02_up_l3 F k0 n x0 x1 (setL (setL x5 (addI .i64 x6 (quoI .i64 x1 64)) (orI .u64 (getL 0 x5 (addI .i64 x6 (quoI .i64 x1 64))) (shlI .u64 (getL 0 x0 x6) (IntKind.wrap .u64 (remI x1 64))))) (addI .i64 (addI .i64 x6 (quoI .i64 x1 64)) 1) (orI .u64 (getL 0 (setL x5 (addI .i64 x6 (quoI .i64 x1 64)) (orI .u64 (getL 0 x5 (addI .i64 x6 (quoI .i64 x1 64))) (shlI .u64 (getL 0 x0 x6) (IntKind.wrap .u64 (remI x1 64))))) (addI .i64 (addI .i64 x6 (quoI .i64 x1 64)) 1)) (shrI .u64 (getL 0 x0 x6) (IntKind.wrap .u64 (subI .i64 64 (remI x1 64)))))) (addI .i64 x6 1)
 else
 none
 else
 none
 else
 none
 else
 ref02_up_l3 F k0 n x0 x1 (setL x5 (addI .i64 x6 (quoI .i64 x1 64)) (orI .u64 (getL 0 x5 (addI .i64 x6 (quoI .i64 x1 64))) (shlI .u64 (getL 0 x0 x6) (IntKind.wrap .u64 (remI x1 64))))) (addI .i64 x6 1)
 else
 none
 else
 none
 else
 none
 else
 k0 x5
def ref02_up(F:Nat)(x0:qL)(x1:Int):Option (qL×Unit) :=
 bif makeB (addI .i64 (addI .i64 (lenI x0) (quoI .i64 x1 64)) 1) (addI .i64 (addI .i64 (lenI x0) (quoI .i64 x1 64)) 1) 8 then
 ref02_up_l3 F (fun z32 =>
 (ref02_trimc F z32).bind fun r33 =>
 some (r33.1,())) F x0 x1 (replI (addI .i64 (addI .i64 (lenI x0) (quoI .i64 x1 64)) 1) (0:Int)) 0
 else
 none
def ref02_compare_l6(F:Nat){R:Type}(k0:Option R)(kret:Int→Option R):Nat→qL→qL→Int→Option R
 | 0,_,_,_=>none
 | n+1,x0,x1,x5 =>
 bif leI 0 x5 then
 bif inI x5 (List.length x0) then
 bif inI x5 (List.length x1) then
 bif ltI (getL 0 x0 x5) (getL 0 x1 x5) then
 kret (-1)
 else
 bif inI x5 (List.length x0) then
 bif inI x5 (List.length x1) then
 bif ltI (getL 0 x1 x5) (getL 0 x0 x5) then
 kret 1
 else
 ref02_compare_l6 F k0 kret n x0 x1 (subI .i64 x5 1)
 else
 none
 else
 none
 else
 none
 else
 none
 else
 k0
def ref02_compare(F:Nat)(x0:qL)(x1:qL):Option (Int×Unit) :=
 bif not (eqI (lenI x0) (lenI x1)) then
 bif ltI (lenI x0) (lenI x1) then
 some ((-1),())
 else
 some (1,())
 else
 ref02_compare_l6 F (
 some (0,())) (fun z17 =>
 some (z17,())) F x0 x1 (subI .i64 (lenI x0) 1)
def ref02_sub_j9(F:Nat){R:Type}(kn:qL→qL→Int→Int→Option R)(x1:qL)(x5:qL)(x6:Int)(x7:Int)(x8:Int):Option R :=
 bif inI x7 (List.length x5) then
 (bits_Sub64 F (getL 0 x5 x7) x8 x6).bind fun r8 =>
 bif inI x7 (List.length x5) then
 kn x1 (setL x5 x7 r8.1) r8.2.1 x7
 else
 none
 else
 none
def ref02_sub_l4(F:Nat){R:Type}(k0:qL→Option R):Nat→qL→qL→Int→Int→Option R
 | 0,_,_,_,_=>none
 | n+1,x1,x5,x6,x7 =>
 bif ltI x7 (lenI x5) then
 bif ltI x7 (lenI x1) then
 bif inI x7 (List.length x1) then
 ref02_sub_j9 F (fun z10 z11 z12 z13 =>
 ref02_sub_l4 F k0 n z10 z11 z12 (addI .i64 z13 1)) x1 x5 x6 x7 (getL 0 x1 x7)
 else
 none
 else
 ref02_sub_j9 F (fun z15 z16 z17 z18 =>
 ref02_sub_l4 F k0 n z15 z16 z17 (addI .i64 z18 1)) x1 x5 x6 x7 0
 else
 k0 x5
def ref02_sub(F:Nat)(x0:qL)(x1:qL):Option (qL×Unit) :=
 bif roomB (0+(List.length x0)) 8 then
 ref02_sub_l4 F (fun z20 =>
 (ref02_trim F z20).bind fun r21 =>
 some (r21.1,())) F x1 ([]++x0) 0 0
 else
 none
def ref02_subw_j9(F:Nat){R:Type}(kn:qL→qL→Int→Int→Option R)(x1:qL)(x5:qL)(x6:Int)(x7:Int)(x8:Int):Option R :=
 bif inI x7 (List.length x5) then
 (bits_Sub64 F (getL 0 x5 x7) x8 x6).bind fun r8 =>
 bif inI x7 (List.length x5) then
 kn x1 (setL x5 x7 r8.1) r8.2.1 x7
 else
 none
 else
 none
def ref02_subw_l4(F:Nat){R:Type}(k0:qL→qL→Option R):Nat→qL→qL→Int→Int→Option R
 | 0,_,_,_,_=>none
 | n+1,x1,x5,x6,x7 =>
 bif ltI x7 (lenI x5) then
 bif ltI x7 (lenI x1) then
 bif inI x7 (List.length x1) then
 ref02_subw_j9 F (fun z10 z11 z12 z13 =>
 ref02_subw_l4 F k0 n z10 z11 z12 (addI .i64 z13 1)) x1 x5 x6 x7 (getL 0 x1 x7)
 else
 none
 else
 ref02_subw_j9 F (fun z15 z16 z17 z18 =>
 ref02_subw_l4 F k0 n z15 z16 z17 (addI .i64 z18 1)) x1 x5 x6 x7 0
 else
 k0 x1 x5
def ref02_subw(F:Nat)(x0:qL)(x1:qL):Option (qL×qL×Unit) :=
 bif roomB (0+(List.length x0)) 8 then
 ref02_subw_l4 F (fun z20 z21 =>
 (ref02_trim F z21).bind fun r22 =>
 some (z20,(r22.1,()))) F x1 ([]++x0) 0 0
 else
 none
def ref02_half_l2(F:Nat){R:Type}(k0:qL→Option R):Nat→qL→Int→Option R
 | 0,_,_=>none
 | n+1,x0,x3 =>
 bif ltI x3 (lenI x0) then
 bif inI x3 (List.length x0) then
 bif inI x3 (List.length x0) then
 bif ltI (addI .i64 x3 1) (lenI (setL x0 x3 (shrI .u64 (getL 0 x0 x3) 1))) then
 bif inI x3 (List.length (setL x0 x3 (shrI .u64 (getL 0 x0 x3) 1))) then
 bif inI (addI .i64 x3 1) (List.length (setL x0 x3 (shrI .u64 (getL 0 x0 x3) 1))) then
 bif inI x3 (List.length (setL x0 x3 (shrI .u64 (getL 0 x0 x3) 1))) then
 ref02_half_l2 F k0 n (setL (setL x0 x3 (shrI .u64 (getL 0 x0 x3) 1)) x3 (orI .u64 (getL 0 (setL x0 x3 (shrI .u64 (getL 0 x0 x3) 1)) x3) (shlI .u64 (getL 0 (setL x0 x3 (shrI .u64 (getL 0 x0 x3) 1)) (addI .i64 x3 1)) 63))) (addI .i64 x3 1)
 else
 none
 else
 none
 else
 none
 else
 ref02_half_l2 F k0 n (setL x0 x3 (shrI .u64 (getL 0 x0 x3) 1)) (addI .i64 x3 1)
 else
 none
 else
 none
 else
 k0 x0
def ref02_half(F:Nat)(x0:qL):Option (qL×Unit) :=
 ref02_half_l2 F (fun z17 =>
 (ref02_trimc F z17).bind fun r18 =>
 some (r18.1,())) F x0 0
def ref02_divmod_l5(F:Nat){R:Type}(k0:qL→Int→Option R):Nat→qL→qL→qL→Int→Int→Option R
 | 0,_,_,_,_,_=>none
 | n+1,x0,x1,x6,x7,x8 =>
 bif leI 0 x8 then
 bif inI x8 (List.length x0) then
 bif inI 0 (List.length x1) then
 (bits_Div64 F x7 (getL 0 x0 x8) (getL 0 x1 0)).bind fun r10 =>
 bif inI x8 (List.length x6) then
 ref02_divmod_l5 F k0 n x0 x1 (setL x6 x8 r10.1) r10.2.1 (subI .i64 x8 1)
 else
 none
 else
 none
 else
 none
 else
 k0 x6 x7
def ref02_divmod_l15(F:Nat){R:Type}(k2:qL→qL→Option R):Nat→qL→qL→qL→Int→Option R
 | 0,_,_,_,_=>none
 | n+1,x6,x9,x11,x12 =>
 bif leI 0 x12 then
 (ref02_compare F x9 x11).bind fun r25 =>
 bif leI 0 r25.1 then
 (ref02_subw F x9 x11).bind fun r27 =>
 bif inI (quoI .i64 x12 64) (List.length x6) then
 bif ltI (IntKind.wrap .u64 (remI x12 64)) 0 then
 none
 else
 bif inI (quoI .i64 x12 64) (List.length x6) then
 (ref02_half F r27.1).bind fun r35 =>
 ref02_divmod_l15 F k2 n (setL x6 (quoI .i64 x12 64) (orI .u64 (getL 0 x6 (quoI .i64 x12 64)) (shlI .u64 1 (IntKind.wrap .u64 (remI x12 64))))) r27.2.1 r35.1 (subI .i64 x12 1)
 else
 none
 else
 none
 else
 (ref02_half F x11).bind fun r37 =>
 ref02_divmod_l15 F k2 n x6 x9 r37.1 (subI .i64 x12 1)
 else
 k2 x6 x9
def ref02_divmod(F:Nat)(x0:qL)(x1:qL):Option (qL×qL×Unit) :=
 bif makeB (lenI x0) (lenI x0) 8 then
 bif eqI (lenI x1) 1 then
 ref02_divmod_l5 F (fun z13 z14 =>
 (ref02_trim F z13).bind fun r15 =>
 (ref02_trim F [z14]).bind fun r16 =>
 some (r15.1,(r16.1,()))) F x0 x1 (replI (lenI x0) (0:Int)) 0 (subI .i64 (lenI x0) 1)
 else
 bif roomB (0+(List.length x0)) 8 then
 (ref02_trim F ([]++x0)).bind fun r18 =>
 (ref02_size F r18.1).bind fun r19 =>
 (ref02_size F x1).bind fun r20 =>
 let x54v21:=subI .i64 r19.1 r20.1
 bif ltI x54v21 0 then
 some ([],(r18.1,()))
 else
 (ref02_up F x1 x54v21).bind fun r23 =>
 ref02_divmod_l15 F (fun z39 z40 =>
 (ref02_trim F z39).bind fun r41 =>
 some (r41.1,(z40,()))) F (replI (lenI x0) (0:Int)) r18.1 r23.1 x54v21
 else
 none
 else
 none
def ref02_add_j11(F:Nat){R:Type}(kn:qL→qL→Int→Int→Option R)(x1:qL)(x5:qL)(x6:Int)(x7:Int)(x8:Int):Option R :=
 bif inI x7 (List.length x5) then
 (bits_Add64 F (getL 0 x5 x7) x8 x6).bind fun r11 =>
 bif inI x7 (List.length x5) then
 kn x1 (setL x5 x7 r11.1) r11.2.1 x7
 else
 none
 else
 none
def ref02_add_l6(F:Nat){R:Type}(k0:qL→Int→Option R):Nat→qL→qL→Int→Int→Option R
 | 0,_,_,_,_=>none
 | n+1,x1,x5,x6,x7 =>
 bif ltI x7 (lenI x5) then
 bif ltI x7 (lenI x1) then
 bif inI x7 (List.length x1) then
 ref02_add_j11 F (fun z13 z14 z15 z16 =>
 ref02_add_l6 F k0 n z13 z14 z15 (addI .i64 z16 1)) x1 x5 x6 x7 (getL 0 x1 x7)
 else
 none
 else
 ref02_add_j11 F (fun z18 z19 z20 z21 =>
 ref02_add_l6 F k0 n z18 z19 z20 (addI .i64 z21 1)) x1 x5 x6 x7 0
 else
 k0 x5 x6
def ref02_add_j3(F:Nat){R:Type}(kret:qL→Option R)(x0:qL)(x1:qL):Option R :=
 bif roomB (0+(List.length x0)) 8 then
 ref02_add_l6 F (fun z23 z24 =>
 bif roomB ((List.length z23)+1) 8 then
 (ref02_trim F (z23++[z24])).bind fun r26 =>
 kret r26.1
 else
 none) F x1 ([]++x0) 0 0
 else
 none
def ref02_add(F:Nat)(x0:qL)(x1:qL):Option (qL×Unit) :=
 bif ltI (lenI x0) (lenI x1) then
 ref02_add_j3 F (fun z27 =>
 some (z27,())) x1 x0
 else
 ref02_add_j3 F (fun z28 =>
 some (z28,())) x0 x1
def ref02_wide_l6(F:Nat){R:Type}(k0:qW→qW→Option R):Nat→qL→qW→qW→Int→Option R
 | 0,_,_,_,_=>none
 | n+1,x1,x4,x6,x7 =>
 bif ltI x7 (lenI x1) then
 bif inI x7 (List.length x1) then
 bif inI x7 4 then
 ref02_wide_l6 F k0 n x1 x4 (x6.1,(setL x6.2.1 x7 (getL 0 x1 x7),x6.2.2)) (addI .i64 x7 1)
 else
 none
 else
 none
 else
 k0 x4 x6
def ref02_wide_j5(F:Nat){R:Type}(kret:qW→Bool→Option R)(x1:qL)(x4:qW)(x6:qW):Option R :=
 ref02_wide_l6 F (fun z10 z11 =>
 kret z11 true) F x1 x4 x6 0
def ref02_wide(F:Nat)(x0:Bool)(x1:qL):Option (qW×Bool×Unit) :=
 (ref02_trim F x1).bind fun r1 =>
 bif ltI 4 (lenI r1.1) then
 some ((false,([0,0,0,0],())),(false,()))
 else
 bif x0 then
 ref02_wide_j5 F (fun z12 z13 =>
 some (z12,(z13,()))) r1.1 (false,([0,0,0,0],())) (ltI 0 (lenI r1.1),([0,0,0,0],()))
 else
 ref02_wide_j5 F (fun z14 z15 =>
 some (z14,(z15,()))) r1.1 (false,([0,0,0,0],())) (false,([0,0,0,0],()))
def ref02_DivMod_j6(F:Nat){R:Type}(kn:qW→qW→qW→qW→qL→qL→Option R)(x2:qW)(x3:qW)(x4:qW)(x5:qW)(x7:qL)(x8:qL)(x32:Bool):Option R :=
 bif x32 then
 (ref02_add F x7 [1]).bind fun r10 =>
 (ref02_of F x3).bind fun r11 =>
 (ref02_sub F r11.1 x8).bind fun r12 =>
 kn x2 x3 x4 x5 r10.1 r12.1
 else
 kn x2 x3 x4 x5 x7 x8
def ref02_DivMod_j7(F:Nat){R:Type}(kret:qW→qW→Bool→Option R)(x2:qW)(x3:qW)(x4:qW)(x5:qW)(x7:qL)(x8:qL):Option R :=
 (ref02_wide F (not (eqT .bool x2.1 x3.1)) x7).bind fun r20 =>
 bif not r20.2.1 then
 kret (false,([0,0,0,0],())) (false,([0,0,0,0],())) false
 else
 (ref02_wide F false x8).bind fun r22 =>
 kret r20.1 r22.1 true
def ref02_DivMod(F:Nat)(x0:qW)(x1:qW):Option (qW×qW×Bool×Unit) :=
 (ref02_clean F x0).bind fun r1 =>
 (ref02_clean F x1).bind fun r2 =>
 (ref02_Sign F r2.1).bind fun r3 =>
 bif eqI r3.1 0 then
 some ((false,([0,0,0,0],())),((false,([0,0,0,0],())),(false,())))
 else
 (ref02_of F r1.1).bind fun r5 =>
 (ref02_of F r2.1).bind fun r6 =>
 (ref02_divmod F r5.1 r6.1).bind fun r7 =>
 bif r1.1.1 then
 ref02_DivMod_j6 F (fun z13 z14 z15 z16 z17 z18 =>
 ref02_DivMod_j7 F (fun z23 z24 z25 =>
 some (z23,(z24,(z25,())))) z13 z14 z15 z16 z17 z18) r1.1 r2.1 (false,([0,0,0,0],())) (false,([0,0,0,0],())) r7.1 r7.2.1 (ltI 0 (lenI r7.2.1))
 else
 ref02_DivMod_j6 F (fun z26 z27 z28 z29 z30 z31 =>
 ref02_DivMod_j7 F (fun z32 z33 z34 =>
 some (z32,(z33,(z34,())))) z26 z27 z28 z29 z30 z31) r1.1 r2.1 (false,([0,0,0,0],())) (false,([0,0,0,0],())) r7.1 r7.2.1 false
def ref03_gcd_l5(F:Nat){R:Type}(k2:qW→Int→Option R):Nat→qW→Int→Int→Option R
 | 0,_,_,_=>none
 | n+1,x4,x5,x7 =>
 bif not (eqI x7 0) then
 bif eqI x7 0 then
 none
 else
 ref03_gcd_l5 F k2 n x4 x7 (remI x5 x7)
 else
 k2 x4 x5
def ref03_gcd_j5(F:Nat){R:Type}(kn:qW→qW→qW→Option R)(kret:qW→Option R)(x2:qW)(x3:qW)(x4:qW)(x5:Int)(x7:Int)(x28:Bool):Option R :=
 bif x28 then
 ref03_gcd_l5 F (fun z7 z8 =>
 (ref02_OfUnsigned F z8).bind fun r9 =>
 kret r9.1) F x4 x5 x7
 else
 kn x2 x3 x4
def ref03_gcd_j8(F:Nat){R:Type}(kn:qW→qW→qW→Option R)(x2:qW)(x3:qW)(x4:qW):Option R :=
 (ref02_DivMod F x2 x3).bind fun r13 =>
 kn x3 r13.2.1 x4
def ref03_gcd_l1(F:Nat){R:Type}(k0:qW→qW→Option R)(kret:qW→Option R):Nat→qW→qW→qW→Option R
 | 0,_,_,_=>none
 | n+1,x2,x3,x4 =>
 (ref02_Sign F x3).bind fun r1 =>
 bif not (eqI r1.1 0) then
 (ref02_Unsigned F x2).bind fun r3 =>
 (ref02_Unsigned F x3).bind fun r4 =>
 bif r3.2.1 then
 ref03_gcd_j5 F (fun z10 z11 z12 =>
 ref03_gcd_j8 F (fun z14 z15 z16 =>
 ref03_gcd_l1 F k0 kret n z14 z15 z16) z10 z11 z12) (fun z17 =>
 kret z17) x2 x3 x4 r3.1 r4.1 r4.2.1
 else
 ref03_gcd_j5 F (fun z18 z19 z20 =>
 ref03_gcd_j8 F (fun z21 z22 z23 =>
 ref03_gcd_l1 F k0 kret n z21 z22 z23) z18 z19 z20) (fun z24 =>
 kret z24) x2 x3 x4 r3.1 r4.1 false
 else
 k0 x2 x4
def ref03_gcd(F:Nat)(x0:qW)(x1:qW):Option (qW×Unit) :=
 ref03_gcd_l1 F (fun z25 z26 =>
 some (z25,())) (fun z27 =>
 some (z27,())) F x0 x1 (false,([0,0,0,0],()))
def ref02_Of(F:Nat)(x0:Int):Option (qW×Unit) :=
 bif ltI x0 0 then
 some ((true,([subI .u64 0 (IntKind.wrap .u64 x0),0,0,0],())),())
 else
 some ((false,([IntKind.wrap .u64 x0,0,0,0],())),())
def ref03_one(F:Nat) :Option (qW×Unit) :=
 (ref02_Of F 1).bind fun r1 =>
 some (r1.1,())
def ref03_Valid(F:Nat)(x0:qR):Option (Bool×Unit) :=
 (ref02_Valid F x0.1).bind fun r1 =>
 bif not r1.1 then
 some (false,())
 else
 (ref02_Valid F x0.2.1).bind fun r3 =>
 bif not r3.1 then
 some (false,())
 else
 (ref02_Sign F x0.2.1).bind fun r5 =>
 bif leI r5.1 0 then
 some (false,())
 else
 (ref03_small F x0.1).bind fun r7 =>
 bif not r7.1 then
 some (false,())
 else
 (ref03_small F x0.2.1).bind fun r9 =>
 bif not r9.1 then
 some (false,())
 else
 (ref03_abs F x0.1).bind fun r11 =>
 (ref03_gcd F r11.1 x0.2.1).bind fun r12 =>
 (ref03_one F).bind fun r13 =>
 some (eqT (.pair .bool (.pair (.arr 4 (.int .u64)) .unit)) r12.1 r13.1,())
def ref03_clean(F:Nat)(x0:qR):Option (qR×Unit) :=
 (ref03_Valid F x0).bind fun r1 =>
 bif not r1.1 then
 (ref03_one F).bind fun r3 =>
 some (((false,([0,0,0,0],())),(r3.1,())),())
 else
 some (x0,())
def bits_Mul64(F:Nat)(x0:Int)(x1:Int):Option (Int×Int×Unit) :=
 some (addI .u64 (addI .u64 (mulI .u64 (shrI .u64 x0 32) (shrI .u64 x1 32)) (shrI .u64 (addI .u64 (mulI .u64 (shrI .u64 x0 32) (andI .u64 x1 4294967295)) (shrI .u64 (mulI .u64 (andI .u64 x0 4294967295) (andI .u64 x1 4294967295)) 32)) 32)) (shrI .u64 (addI .u64 (andI .u64 (addI .u64 (mulI .u64 (shrI .u64 x0 32) (andI .u64 x1 4294967295)) (shrI .u64 (mulI .u64 (andI .u64 x0 4294967295) (andI .u64 x1 4294967295)) 32)) 4294967295) (mulI .u64 (andI .u64 x0 4294967295) (shrI .u64 x1 32))) 32),(mulI .u64 x0 x1,()))
def ref02_mul_l7(F:Nat){R:Type}(k2:qL→qL→qL→Int→Int→Option R):Nat→qL→qL→qL→Int→Int→Int→Option R
 | 0,_,_,_,_,_,_=>none
 | n+1,x0,x1,x5,x6,x7,x8 =>
 bif ltI x8 (lenI x1) then
 bif inI x6 (List.length x0) then
 bif inI x8 (List.length x1) then
 (bits_Mul64 F (getL 0 x0 x6) (getL 0 x1 x8)).bind fun r12 =>
 bif inI (addI .i64 x6 x8) (List.length x5) then
 (bits_Add64 F r12.2.1 (getL 0 x5 (addI .i64 x6 x8)) 0).bind fun r15 =>
 (bits_Add64 F r15.1 x7 0).bind fun r17 =>
 bif inI (addI .i64 x6 x8) (List.length x5) then
 ref02_mul_l7 F k2 n x0 x1 (setL x5 (addI .i64 x6 x8) r17.1) x6 (addI .u64 (addI .u64 r12.1 r15.2.1) r17.2.1) (addI .i64 x8 1)
 else
 none
 else
 none
 else
 none
 else
 none
 else
 k2 x0 x1 x5 x6 x7
def ref02_mul_l3(F:Nat){R:Type}(k0:qL→Option R):Nat→qL→qL→qL→Int→Option R
 | 0,_,_,_,_=>none
 | n+1,x0,x1,x5,x6 =>
 bif ltI x6 (lenI x0) then
 ref02_mul_l7 F (fun z22 z23 z24 z25 z26 =>
 bif inI (addI .i64 z25 (lenI z23)) (List.length z24) then
 ref02_mul_l3 F k0 n z22 z23 (setL z24 (addI .i64 z25 (lenI z23)) z26) (addI .i64 z25 1)
 else
 none) F x0 x1 x5 x6 0 0
 else
 k0 x5
def ref02_mul(F:Nat)(x0:qL)(x1:qL):Option (qL×Unit) :=
 bif makeB (addI .i64 (addI .i64 (lenI x0) (lenI x1)) 1) (addI .i64 (addI .i64 (lenI x0) (lenI x1)) 1) 8 then
 ref02_mul_l3 F (fun z31 =>
 (ref02_trim F z31).bind fun r32 =>
 some (r32.1,())) F x0 x1 (replI (addI .i64 (addI .i64 (lenI x0) (lenI x1)) 1) (0:Int)) 0
 else
 none
def ref02_Mul(F:Nat)(x0:qW)(x1:qW):Option (qW×Bool×Unit) :=
 (ref02_clean F x0).bind fun r1 =>
 (ref02_clean F x1).bind fun r2 =>
 (ref02_of F r1.1).bind fun r4 =>
 (ref02_of F r2.1).bind fun r5 =>
 (ref02_mul F r4.1 r5.1).bind fun r6 =>
 (ref02_wide F (not (eqT .bool r1.1.1 r2.1.1)) r6.1).bind fun r7 =>
 some (r7.1,(r7.2.1,()))
def ref02_Compare(F:Nat)(x0:qW)(x1:qW):Option (Int×Unit) :=
 (ref02_Sign F x0).bind fun r1 =>
 (ref02_Sign F x1).bind fun r2 =>
 bif not (eqI r1.1 r2.1) then
 bif ltI r1.1 r2.1 then
 some ((-1),())
 else
 some (1,())
 else
 (ref02_of F x0).bind fun r5 =>
 (ref02_of F x1).bind fun r6 =>
 (ref02_compare F r5.1 r6.1).bind fun r7 =>
 some (mulI .i64 r1.1 r7.1,())
def ref03_Compare(F:Nat)(x0:qR)(x1:qR):Option (Int×Unit) :=
 (ref03_clean F x0).bind fun r1 =>
 (ref03_clean F x1).bind fun r2 =>
 (ref02_Mul F r1.1.1 r2.1.2.1).bind fun r3 =>
 (ref02_Mul F r2.1.1 r1.1.2.1).bind fun r4 =>
 (ref02_Compare F r3.1 r4.1).bind fun r5 =>
 some (r5.1,())
def ref13_Valid(F:Nat)(x0:qCO):Option (Bool×Unit) :=
 bif x0.1 then
 (ref13_Start F).bind fun r1 =>
 some (eqT (.pair .bool (.pair (.pair (.pair .bool (.pair (.arr 4 (.int .u64)) .unit)) (.pair (.pair .bool (.pair (.arr 4 (.int .u64)) .unit)) .unit)) (.pair (.pair (.pair .bool (.pair (.arr 4 (.int .u64)) .unit)) (.pair (.pair .bool (.pair (.arr 4 (.int .u64)) .unit)) .unit)) .unit))) x0 r1.1,())
 else
 (ref03_Valid F x0.2.1).bind fun r3 =>
 bif r3.1 then
 (ref03_Valid F x0.2.2.1).bind fun r4 =>
 bif r4.1 then
 (ref03_Compare F x0.2.1 x0.2.2.1).bind fun r5 =>
 some (leI r5.1 0,())
 else
 some (false,())
 else
 some (false,())
def ref19_Valid(F:Nat)(x0:qPS):Option (Bool×Unit) :=
 (ref13_Tolerance F x0.1).bind fun r1 =>
 bif not r1.1 then
 some (false,())
 else
 bif ltI x0.2.1 0 then
 some (false,())
 else
 bif ltI 1073741824 x0.2.1 then
 some (false,())
 else
 bif eqI x0.2.2.1 0 then
 some (eqT (.pair (.int .i64) (.pair (.int .i64) (.pair (.int .i64) (.pair (.pair (.int .i64) (.pair (.int .i64) .unit)) (.pair (.int .i64) (.pair (.int .i64) (.pair (.pair .bool (.pair (.pair (.pair .bool (.pair (.arr 4 (.int .u64)) .unit)) (.pair (.pair .bool (.pair (.arr 4 (.int .u64)) .unit)) .unit)) (.pair (.pair (.pair .bool (.pair (.arr 4 (.int .u64)) .unit)) (.pair (.pair .bool (.pair (.arr 4 (.int .u64)) .unit)) .unit)) .unit))) .unit))))))) x0 (x0.1,(x0.2.1,(0,((0,(0,())),(0,(0,((false,(((false,([0,0,0,0],())),((false,([0,0,0,0],())),())),(((false,([0,0,0,0],())),((false,([0,0,0,0],())),())),()))),()))))))),())
 else
 (ref19_Key F x0.2.2.2.1.2.1 x0.1).bind fun r7 =>
 bif not (eqI x0.2.2.2.2.2.1 r7.1) then
 some (false,())
 else
 bif eqI x0.2.2.1 1 then
 bif eqI x0.2.2.2.2.1 x0.2.2.2.1.1 then
 (ref13_Start F).bind fun r11 =>
 some (eqT (.pair .bool (.pair (.pair (.pair .bool (.pair (.arr 4 (.int .u64)) .unit)) (.pair (.pair .bool (.pair (.arr 4 (.int .u64)) .unit)) .unit)) (.pair (.pair (.pair .bool (.pair (.arr 4 (.int .u64)) .unit)) (.pair (.pair .bool (.pair (.arr 4 (.int .u64)) .unit)) .unit)) .unit))) x0.2.2.2.2.2.2.1 r11.1,())
 else
 some (false,())
 else
 bif ltI 1 x0.2.2.1 then
 bif leI x0.2.2.1 1073741824 then
 bif ltI x0.2.2.2.1.1 x0.2.2.2.2.1 then
 (ref13_Valid F x0.2.2.2.2.2.2.1).bind fun r16 =>
 bif r16.1 then
 some (not x0.2.2.2.2.2.2.1.1,())
 else
 some (false,())
 else
 some (false,())
 else
 some (false,())
 else
 some (false,())
def ref19_begin(F:Nat)(x0:qPS)(x1:qSM):Option (qPS×Unit) :=
 (ref19_Key F x1.2.1 x0.1).bind fun r2 =>
 (ref13_Start F).bind fun r3 =>
 some ((x0.1,(addI .i64 x0.2.1 x0.2.2.1,(1,(x1,(x1.1,(r2.1,(r3.1,()))))))),())
def ref19_Base(F:Nat)(x0:Int)(x1:Int):Option (qW×Unit) :=
 (ref02_Of F x0).bind fun r1 =>
 (ref19_unit F x1).bind fun r2 =>
 (ref02_Of F r2.1).bind fun r3 =>
 (ref02_Mul F r1.1 r3.1).bind fun r4 =>
 some (r4.1,())
def ref01_Distance(F:Nat)(x0:Int)(x1:Int):Option (Int×Unit) :=
 bif ltI x0 x1 then
 some (subI .u64 (IntKind.wrap .u64 x1) (IntKind.wrap .u64 x0),())
 else
 some (subI .u64 (IntKind.wrap .u64 x0) (IntKind.wrap .u64 x1),())
def ref02_Neg(F:Nat)(x0:qW):Option (qW×Unit) :=
 (ref02_of F x0).bind fun r2 =>
 (ref02_wide F (not x0.1) r2.1).bind fun r3 =>
 some (r3.1,())
def ref02_Add(F:Nat)(x0:qW)(x1:qW):Option (qW×Bool×Unit) :=
 (ref02_clean F x0).bind fun r1 =>
 (ref02_clean F x1).bind fun r2 =>
 (ref02_of F r1.1).bind fun r3 =>
 (ref02_of F r2.1).bind fun r4 =>
 bif eqT .bool r1.1.1 r2.1.1 then
 (ref02_add F r3.1 r4.1).bind fun r6 =>
 (ref02_wide F r1.1.1 r6.1).bind fun r7 =>
 some (r7.1,(r7.2.1,()))
 else
 (ref02_compare F r3.1 r4.1).bind fun r8 =>
 bif leI 0 r8.1 then
 (ref02_sub F r3.1 r4.1).bind fun r10 =>
 (ref02_wide F r1.1.1 r10.1).bind fun r11 =>
 some (r11.1,(r11.2.1,()))
 else
 (ref02_sub F r4.1 r3.1).bind fun r12 =>
 (ref02_wide F r2.1.1 r12.1).bind fun r13 =>
 some (r13.1,(r13.2.1,()))
def ref02_Sub(F:Nat)(x0:qW)(x1:qW):Option (qW×Bool×Unit) :=
 (ref02_Neg F x1).bind fun r1 =>
 (ref02_Add F x0 r1.1).bind fun r2 =>
 some (r2.1,(r2.2.1,()))
def ref03_Make_j8(F:Nat){R:Type}(kret:qR→Bool→Option R)(x4:qR)(x7:qW)(x10:qW):Option R :=
 (ref03_Valid F (x7,(x10,()))).bind fun r16 =>
 bif not r16.1 then
 kret ((false,([0,0,0,0],())),((false,([0,0,0,0],())),())) false
 else
 kret (x7,(x10,())) true
def ref03_Make(F:Nat)(x0:qW)(x1:qW):Option (qR×Bool×Unit) :=
 (ref02_Valid F x0).bind fun r1 =>
 bif not r1.1 then
 some (((false,([0,0,0,0],())),((false,([0,0,0,0],())),())),(false,()))
 else
 (ref02_Valid F x1).bind fun r3 =>
 bif not r3.1 then
 some (((false,([0,0,0,0],())),((false,([0,0,0,0],())),())),(false,()))
 else
 (ref02_Sign F x1).bind fun r5 =>
 bif eqI r5.1 0 then
 some (((false,([0,0,0,0],())),((false,([0,0,0,0],())),())),(false,()))
 else
 (ref03_abs F x0).bind fun r7 =>
 (ref03_abs F x1).bind fun r8 =>
 (ref03_gcd F r7.1 r8.1).bind fun r9 =>
 (ref03_abs F x0).bind fun r10 =>
 (ref02_DivMod F r10.1 r9.1).bind fun r11 =>
 (ref03_abs F x1).bind fun r12 =>
 (ref02_DivMod F r12.1 r9.1).bind fun r13 =>
 bif not (eqT .bool x0.1 x1.1) then
 (ref02_Neg F r11.1).bind fun r15 =>
 ref03_Make_j8 F (fun z18 z19 =>
 some (z18,(z19,()))) ((false,([0,0,0,0],())),((false,([0,0,0,0],())),())) r15.1 r13.1
 else
 ref03_Make_j8 F (fun z20 z21 =>
 some (z20,(z21,()))) ((false,([0,0,0,0],())),((false,([0,0,0,0],())),())) r11.1 r13.1
def ref13_Through(F:Nat)(x0:qW)(x1:Int)(x2:Int)(x3:Int):Option (qCO×Bool×Unit) :=
 (ref02_Valid F x0).bind fun r1 =>
 bif not r1.1 then
 some ((false,(((false,([0,0,0,0],())),((false,([0,0,0,0],())),())),(((false,([0,0,0,0],())),((false,([0,0,0,0],())),())),()))),(false,()))
 else
 (ref02_Compare F (false,x0.2) (false,([0,4,0,0],()))).bind fun r3 =>
 bif leI 0 r3.1 then
 some ((false,(((false,([0,0,0,0],())),((false,([0,0,0,0],())),())),(((false,([0,0,0,0],())),((false,([0,0,0,0],())),())),()))),(false,()))
 else
 (ref13_Tolerance F x2).bind fun r5 =>
 bif not r5.1 then
 some ((false,(((false,([0,0,0,0],())),((false,([0,0,0,0],())),())),(((false,([0,0,0,0],())),((false,([0,0,0,0],())),())),()))),(false,()))
 else
 bif eqI x3 0 then
 some ((false,(((false,([0,0,0,0],())),((false,([0,0,0,0],())),())),(((false,([0,0,0,0],())),((false,([0,0,0,0],())),())),()))),(false,()))
 else
 (ref02_Of F x1).bind fun r8 =>
 (ref02_Sub F r8.1 x0).bind fun r9 =>
 (ref02_Of F x2).bind fun r10 =>
 (ref02_Sub F r9.1 r10.1).bind fun r11 =>
 (ref02_Of F x2).bind fun r12 =>
 (ref02_Add F r9.1 r12.1).bind fun r13 =>
 (ref02_OfUnsigned F x3).bind fun r14 =>
 (ref03_Make F r11.1 r14.1).bind fun r15 =>
 (ref02_OfUnsigned F x3).bind fun r16 =>
 (ref03_Make F r13.1 r16.1).bind fun r17 =>
 some ((false,(r15.1,(r17.1,()))),(true,()))
def ref13_Meet_j11(F:Nat){R:Type}(kret:qCO→Bool→Option R)(x2:qCO)(x4:qCO):Option R :=
 (ref03_Compare F x2.2.1 x2.2.2.1).bind fun r9 =>
 bif ltI 0 r9.1 then
 kret (false,(((false,([0,0,0,0],())),((false,([0,0,0,0],())),())),(((false,([0,0,0,0],())),((false,([0,0,0,0],())),())),()))) false
 else
 kret x2 true
def ref13_Meet_j9(F:Nat){R:Type}(kret:qCO→Bool→Option R)(x2:qCO)(x3:qCO)(x4:qCO):Option R :=
 (ref03_Compare F x3.2.2.1 x2.2.2.1).bind fun r7 =>
 bif ltI r7.1 0 then
 ref13_Meet_j11 F (fun z11 z12 =>
 kret z11 z12) (x2.1,(x2.2.1,(x3.2.2.1,x2.2.2.2))) x4
 else
 ref13_Meet_j11 F (fun z13 z14 =>
 kret z13 z14) x2 x4
def ref13_Meet(F:Nat)(x0:qCO)(x1:qCO):Option (qCO×Bool×Unit) :=
 (ref13_Valid F x0).bind fun r1 =>
 bif not r1.1 then
 some ((false,(((false,([0,0,0,0],())),((false,([0,0,0,0],())),())),(((false,([0,0,0,0],())),((false,([0,0,0,0],())),())),()))),(false,()))
 else
 (ref13_Valid F x1).bind fun r3 =>
 bif not r3.1 then
 some ((false,(((false,([0,0,0,0],())),((false,([0,0,0,0],())),())),(((false,([0,0,0,0],())),((false,([0,0,0,0],())),())),()))),(false,()))
 else
 bif x0.1 then
 some (x1,(true,()))
 else
 bif x1.1 then
 some (x0,(true,()))
 else
 (ref03_Compare F x1.2.1 x0.2.1).bind fun r5 =>
 bif ltI 0 r5.1 then
 ref13_Meet_j9 F (fun z15 z16 =>
 some (z15,(z16,()))) (x0.1,(x1.2.1,x0.2.2)) x1 (false,(((false,([0,0,0,0],())),((false,([0,0,0,0],())),())),(((false,([0,0,0,0],())),((false,([0,0,0,0],())),())),())))
 else
 ref13_Meet_j9 F (fun z17 z18 =>
 some (z17,(z18,()))) x0 x1 (false,(((false,([0,0,0,0],())),((false,([0,0,0,0],())),())),(((false,([0,0,0,0],())),((false,([0,0,0,0],())),())),())))
def ref19_Finish(F:Nat)(x0:qPS):Option ((List qPI)×Int×Unit) :=
 (ref19_Valid F x0).bind fun r1 =>
 bif not r1.1 then
 some ([],(1,()))
 else
 bif eqI x0.2.2.1 0 then
 some ([],(0,()))
 else
 some ([(x0.2.1,(x0.2.2.1,(x0.2.2.2.2.2.1,(x0.2.2.2.2.2.2.1,()))))],(0,()))
def ref19_Step_j5(F:Nat){R:Type}(kret:qPS→(List qPI)→Int→Option R)(x2:qPS)(x3:qSM)(x4:qPS):Option R :=
 bif leI 1073741824 (addI .i64 x2.2.1 x2.2.2.1) then
 kret (0,(0,(0,((0,(0,())),(0,(0,((false,(((false,([0,0,0,0],())),((false,([0,0,0,0],())),())),(((false,([0,0,0,0],())),((false,([0,0,0,0],())),())),()))),()))))))) [] 3
 else
 bif eqI x2.2.2.1 0 then
 (ref19_begin F x2 x3).bind fun r8 =>
 kret r8.1 [] 0
 else
 (ref19_Base F x2.2.2.2.2.2.1 x2.1).bind fun r9 =>
 (ref01_Distance F x3.1 x2.2.2.2.1.1).bind fun r10 =>
 (ref13_Through F r9.1 x3.2.1 x2.1 r10.1).bind fun r11 =>
 (ref13_Meet F x2.2.2.2.2.2.2.1 r11.1).bind fun r12 =>
 bif not r12.2.1 then
 (ref19_Finish F x2).bind fun r14 =>
 (ref19_begin F x2 x3).bind fun r15 =>
 kret r15.1 r14.1 0
 else
 kret (x2.1,(x2.2.1,(addI .i64 x2.2.2.1 1,(x2.2.2.2.1,(x3.1,(x2.2.2.2.2.2.1,(r12.1,x2.2.2.2.2.2.2.2))))))) [] 0
def ref19_Step(F:Nat)(x0:qPS)(x1:qSM):Option (qPS×(List qPI)×Int×Unit) :=
 (ref19_Valid F x0).bind fun r1 =>
 bif not r1.1 then
 some ((0,(0,(0,((0,(0,())),(0,(0,((false,(((false,([0,0,0,0],())),((false,([0,0,0,0],())),())),(((false,([0,0,0,0],())),((false,([0,0,0,0],())),())),()))),()))))))),([],(1,())))
 else
 bif ltI 0 x0.2.2.1 then
 bif leI x1.1 x0.2.2.2.2.1 then
 some ((0,(0,(0,((0,(0,())),(0,(0,((false,(((false,([0,0,0,0],())),((false,([0,0,0,0],())),())),(((false,([0,0,0,0],())),((false,([0,0,0,0],())),())),()))),()))))))),([],(7,())))
 else
 ref19_Step_j5 F (fun z17 z18 z19 =>
 some (z17,(z18,(z19,())))) x0 x1 (0,(0,(0,((0,(0,())),(0,(0,((false,(((false,([0,0,0,0],())),((false,([0,0,0,0],())),())),(((false,([0,0,0,0],())),((false,([0,0,0,0],())),())),()))),())))))))
 else
 ref19_Step_j5 F (fun z20 z21 z22 =>
 some (z20,(z21,(z22,())))) x0 x1 (0,(0,(0,((0,(0,())),(0,(0,((false,(((false,([0,0,0,0],())),((false,([0,0,0,0],())),())),(((false,([0,0,0,0],())),((false,([0,0,0,0],())),())),()))),())))))))
def ref19_All_l10(F:Nat){R:Type}(k0:qPS→(List qPI)→Option R):Nat→(List qSM)→qPS→(List qPI)→Int→Option R
 | 0,_,_,_,_=>none
 | n+1,x0,x6,x8,x9 =>
 bif ltI x9 (lenI x0) then
 bif inI x9 (List.length x0) then
 (ref19_Step F x6 (getL (0,(0,())) x0 x9)).bind fun r10 =>
 bif roomB ((List.length x8)+(List.length r10.2.1)) 192 then
 ref19_All_l10 F k0 n x0 r10.1 (x8++r10.2.1) (addI .i64 x9 1)
 else
 none
 else
 none
 else
 k0 x6 x8
def ref19_All(F:Nat)(x0:(List qSM))(x1:Int):Option ((List qPI)×Int×Unit) :=
 (ref19_Start F x1).bind fun r1 =>
 bif not (eqI r1.2.1 0) then
 some ([],(r1.2.1,()))
 else
 (ref12_Check F x0).bind fun r3 =>
 bif not (eqI r3.1 0) then
 some ([],(7,()))
 else
 bif ltI 1073741824 (lenI x0) then
 some ([],(3,()))
 else
 ref19_All_l10 F (fun z13 z14 =>
 (ref19_Finish F z13).bind fun r15 =>
 bif roomB ((List.length z14)+(List.length r15.1)) 192 then
 some ((z14++r15.1),(0,()))
 else
 none) F x0 r1.1 [] 0
def ref21_Before(F:Nat)(x0:qPI)(x1:qPI):Option (Bool×Unit) :=
 bif not (eqI x0.2.2.1 x1.2.2.1) then
 some (ltI x0.2.2.1 x1.2.2.1,())
 else
 bif not (eqT .bool x0.2.2.2.1.1 x1.2.2.2.1.1) then
 some (x0.2.2.2.1.1,())
 else
 bif not x0.2.2.2.1.1 then
 (ref03_Compare F x0.2.2.2.1.2.1 x1.2.2.2.1.2.1).bind fun r5 =>
 bif not (eqI r5.1 0) then
 some (ltI r5.1 0,())
 else
 (ref03_Compare F x0.2.2.2.1.2.2.1 x1.2.2.2.1.2.2.1).bind fun r8 =>
 bif not (eqI r8.1 0) then
 some (ltI r8.1 0,())
 else
 some (ltI x0.1 x1.1,())
 else
 some (ltI x0.1 x1.1,())
def ref21_insert_l4(F:Nat){R:Type}(k0:Int→qL→Bool→Option R):Nat→qL→Int→qL→Bool→Int→Option R
 | 0,_,_,_,_,_=>none
 | n+1,x0,x1,x5,x6,x7 =>
 bif ltI x7 (lenI x0) then
 bif not x6 then
 bif inI x7 (List.length x0) then
 bif ltI x1 (getL 0 x0 x7) then
 bif roomB ((List.length x5)+1) 8 then
 bif inI x7 (List.length x0) then
 bif roomB ((List.length (x5++[x1]))+1) 8 then
 ref21_insert_l4 F k0 n x0 x1 ((x5++[x1])++[getL 0 x0 x7]) true (addI .i64 x7 1)
 else
 none
 else
 none
 else
 none
 else
 bif inI x7 (List.length x0) then
 bif roomB ((List.length x5)+1) 8 then
 ref21_insert_l4 F k0 n x0 x1 (x5++[getL 0 x0 x7]) x6 (addI .i64 x7 1)
 else
 none
 else
 none
 else
 none
 else
 bif inI x7 (List.length x0) then
 bif roomB ((List.length x5)+1) 8 then
 ref21_insert_l4 F k0 n x0 x1 (x5++[getL 0 x0 x7]) x6 (addI .i64 x7 1)
 else
 none
 else
 none
 else
 k0 x1 x5 x6
def ref21_insert(F:Nat)(x0:qL)(x1:Int):Option (qL×Unit) :=
 ref21_insert_l4 F (fun z16 z17 z18 =>
 bif not z18 then
 bif roomB ((List.length z17)+1) 8 then
 some ((z17++[z16]),())
 else
 none
 else
 some (z17,())) F x0 x1 [] false 0
def ref03_Of(F:Nat)(x0:Int):Option (qR×Unit) :=
 (ref02_Of F x0).bind fun r1 =>
 (ref03_one F).bind fun r2 =>
 some ((r1.1,(r2.1,())),())
def ref04_positive_r:Nat→Nat→qW→qW→qW→qW→Option (qW×qW×Unit)
 | 0,_,_,_,_,_=>none
 | n+1,F,x0,x1,x2,x3 =>
 (ref02_DivMod F x0 x1).bind fun r1 =>
 (ref02_Sign F r1.2.1).bind fun r2 =>
 bif not (eqI r2.1 0) then
 (ref02_Of F 1).bind fun r4 =>
 (ref02_Add F r1.1 r4.1).bind fun r5 =>
 (ref02_Mul F r5.1 x3).bind fun r6 =>
 (ref02_Compare F r6.1 x2).bind fun r7 =>
 bif leI r7.1 0 then
 (ref02_Of F 1).bind fun r9 =>
 some (r5.1,(r9.1,()))
 else
 (ref02_DivMod F x0 x1).bind fun r10 =>
 (ref02_Mul F r10.1 x3).bind fun r11 =>
 (ref02_Sub F x2 r11.1).bind fun r12 =>
 ((ref04_positive_r n) F x3 r12.1 x1 r10.2.1).bind fun r13 =>
 (ref02_Mul F r10.1 r13.1).bind fun r14 =>
 (ref02_Add F r14.1 r13.2.1).bind fun r15 =>
 some (r15.1,(r13.1,()))
 else
 (ref02_Mul F r1.1 x3).bind fun r16 =>
 (ref02_Compare F r16.1 x2).bind fun r17 =>
 bif leI r17.1 0 then
 (ref02_Of F 1).bind fun r19 =>
 some (r1.1,(r19.1,()))
 else
 (ref02_DivMod F x0 x1).bind fun r20 =>
 (ref02_Mul F r20.1 x3).bind fun r21 =>
 (ref02_Sub F x2 r21.1).bind fun r22 =>
 ((ref04_positive_r n) F x3 r22.1 x1 r20.2.1).bind fun r23 =>
 (ref02_Mul F r20.1 r23.1).bind fun r24 =>
 (ref02_Add F r24.1 r23.2.1).bind fun r25 =>
 some (r25.1,(r23.1,()))
def ref04_positive(F:Nat)(x0:qW)(x1:qW)(x2:qW)(x3:qW):Option (qW×qW×Unit) :=
 ref04_positive_r F F x0 x1 x2 x3
def ref04_Between_j4(F:Nat){R:Type}(kn:qR→qR→qR→Option R)(kret:qR→Bool→Option R)(x2:qR)(x3:qR)(x4:qR)(x36:Bool):Option R :=
 bif x36 then
 (ref03_Of F 0).bind fun r11 =>
 kret r11.1 true
 else
 kn x2 x3 x4
def ref04_Between_j5(F:Nat){R:Type}(kret:qR→Bool→Option R)(x2:qR)(x3:qR)(x4:qR):Option R :=
 (ref02_Sign F x3.1).bind fun r15 =>
 bif ltI r15.1 0 then
 (ref02_Neg F x3.1).bind fun r17 =>
 (ref02_Neg F x2.1).bind fun r18 =>
 (ref04_positive F r17.1 x3.2.1 r18.1 x2.2.1).bind fun r19 =>
 (ref02_Neg F r19.1).bind fun r20 =>
 kret (r20.1,(r19.2.1,())) true
 else
 (ref04_positive F x2.1 x2.2.1 x3.1 x3.2.1).bind fun r21 =>
 kret (r21.1,(r21.2.1,())) true
def ref04_Between(F:Nat)(x0:qR)(x1:qR):Option (qR×Bool×Unit) :=
 (ref03_Valid F x0).bind fun r1 =>
 bif not r1.1 then
 some (((false,([0,0,0,0],())),((false,([0,0,0,0],())),())),(false,()))
 else
 (ref03_Valid F x1).bind fun r3 =>
 bif not r3.1 then
 some (((false,([0,0,0,0],())),((false,([0,0,0,0],())),())),(false,()))
 else
 (ref03_Compare F x0 x1).bind fun r5 =>
 bif ltI 0 r5.1 then
 some (((false,([0,0,0,0],())),((false,([0,0,0,0],())),())),(false,()))
 else
 (ref02_Sign F x0.1).bind fun r7 =>
 bif leI r7.1 0 then
 (ref02_Sign F x1.1).bind fun r9 =>
 ref04_Between_j4 F (fun z12 z13 z14 =>
 ref04_Between_j5 F (fun z22 z23 =>
 some (z22,(z23,()))) z12 z13 z14) (fun z24 z25 =>
 some (z24,(z25,()))) x0 x1 ((false,([0,0,0,0],())),((false,([0,0,0,0],())),())) (leI 0 r9.1)
 else
 ref04_Between_j4 F (fun z26 z27 z28 =>
 ref04_Between_j5 F (fun z29 z30 =>
 some (z29,(z30,()))) z26 z27 z28) (fun z31 z32 =>
 some (z31,(z32,()))) x0 x1 ((false,([0,0,0,0],())),((false,([0,0,0,0],())),())) false
def ref13_Choose(F:Nat)(x0:qCO):Option (qR×Unit) :=
 (ref13_Valid F x0).bind fun r1 =>
 bif not r1.1 then
 some (((false,([0,0,0,0],())),((false,([0,0,0,0],())),())),())
 else
 bif x0.1 then
 (ref03_Of F 0).bind fun r3 =>
 some (r3.1,())
 else
 (ref04_Between F x0.2.1 x0.2.2.1).bind fun r4 =>
 some (r4.1,())
def ref21_Join_l7(F:Nat){R:Type}(k2:(List qPI)→Int→Option R)(kret:(List qG)→Int→Option R):Nat→(List qPI)→Int→Int→Option R
 | 0,_,_,_=>none
 | n+1,x0,x4,x5 =>
 bif ltI x5 x4 then
 bif inI x5 (List.length x0) then
 bif inI x4 (List.length x0) then
 bif eqI (getL (0,(0,(0,((false,(((false,([0,0,0,0],())),((false,([0,0,0,0],())),())),(((false,([0,0,0,0],())),((false,([0,0,0,0],())),())),()))),())))) x0 x5).1 (getL (0,(0,(0,((false,(((false,([0,0,0,0],())),((false,([0,0,0,0],())),())),(((false,([0,0,0,0],())),((false,([0,0,0,0],())),())),()))),())))) x0 x4).1 then
 kret [] 1
 else
 ref21_Join_l7 F k2 kret n x0 x4 (addI .i64 x5 1)
 else
 none
 else
 none
 else
 k2 x0 x4
def ref21_Join_l2(F:Nat){R:Type}(k0:(List qPI)→Option R)(kret:(List qG)→Int→Option R):Nat→(List qPI)→Int→Option R
 | 0,_,_=>none
 | n+1,x0,x4 =>
 bif ltI x4 (lenI x0) then
 bif inI x4 (List.length x0) then
 (ref13_Valid F (getL (0,(0,(0,((false,(((false,([0,0,0,0],())),((false,([0,0,0,0],())),())),(((false,([0,0,0,0],())),((false,([0,0,0,0],())),())),()))),())))) x0 x4).2.2.2.1).bind fun r4 =>
 bif not r4.1 then
 kret [] 1
 else
 bif inI x4 (List.length x0) then
 bif ltI (getL (0,(0,(0,((false,(((false,([0,0,0,0],())),((false,([0,0,0,0],())),())),(((false,([0,0,0,0],())),((false,([0,0,0,0],())),())),()))),())))) x0 x4).1 0 then
 kret [] 1
 else
 ref21_Join_l7 F (fun z13 z14 =>
 ref21_Join_l2 F k0 kret n z13 (addI .i64 z14 1)) (fun z16 z17 =>
 kret z16 z17) F x0 x4 0
 else
 none
 else
 none
 else
 k0 x0
def ref21_Join_l16(F:Nat){R:Type}(k6:(List qPI)→Int→Option R):Nat→(List qPI)→Int→Int→Option R
 | 0,_,_,_=>none
 | n+1,x0,x6,x7 =>
 bif ltI 0 x7 then
 bif inI x7 (List.length x0) then
 bif inI (subI .i64 x7 1) (List.length x0) then
 (ref21_Before F (getL (0,(0,(0,((false,(((false,([0,0,0,0],())),((false,([0,0,0,0],())),())),(((false,([0,0,0,0],())),((false,([0,0,0,0],())),())),()))),())))) x0 x7) (getL (0,(0,(0,((false,(((false,([0,0,0,0],())),((false,([0,0,0,0],())),())),(((false,([0,0,0,0],())),((false,([0,0,0,0],())),())),()))),())))) x0 (subI .i64 x7 1))).bind fun r26 =>
 bif r26.1 then
 bif inI (subI .i64 x7 1) (List.length x0) then
 let x86v29:=getL (0,(0,(0,((false,(((false,([0,0,0,0],())),((false,([0,0,0,0],())),())),(((false,([0,0,0,0],())),((false,([0,0,0,0],())),())),()))),())))) x0 (subI .i64 x7 1)
 bif inI x7 (List.length x0) then
 bif inI x7 (List.length x0) then
 bif inI (subI .i64 x7 1) (List.length (setL x0 x7 x86v29)) then
 ref21_Join_l16 F k6 n (setL (setL x0 x7 x86v29) (subI .i64 x7 1) (getL (0,(0,(0,((false,(((false,([0,0,0,0],())),((false,([0,0,0,0],())),())),(((false,([0,0,0,0],())),((false,([0,0,0,0],())),())),()))),())))) x0 x7)) x6 (subI .i64 x7 1)
 else
 none
 else
 none
 else
 none
 else
 none
 else
 k6 x0 x6
 else
 none
 else
 none
 else
 k6 x0 x6
def ref21_Join_l13(F:Nat){R:Type}(k4:(List qPI)→Option R):Nat→(List qPI)→Int→Option R
 | 0,_,_=>none
 | n+1,x0,x6 =>
 bif ltI x6 (lenI x0) then
 ref21_Join_l16 F (fun z34 z35 =>
 ref21_Join_l13 F k4 n z34 (addI .i64 z35 1)) F x0 x6 x6
 else
 k4 x0
def ref21_Join_j27(F:Nat){R:Type}(k9:(List qPI)→(List qG)→qCO→Int→Option R)(kn:(List qPI)→(List qG)→qCO→Int→Option R)(x0:(List qPI))(x8:(List qG))(x9:qCO)(x10:Int)(x11:qCO)(x13:Int)(x130:Bool):Option R :=
 bif x130 then
 bif inI x13 (List.length x8) then
 bif inI x10 (List.length x0) then
 (ref21_insert F (getL (0,(((false,([0,0,0,0],())),((false,([0,0,0,0],())),())),([],()))) x8 x13).2.2.1 (getL (0,(0,(0,((false,(((false,([0,0,0,0],())),((false,([0,0,0,0],())),())),(((false,([0,0,0,0],())),((false,([0,0,0,0],())),())),()))),())))) x0 x10).1).bind fun r50 =>
 bif inI x13 (List.length x8) then
 let x8v51:=setL x8 x13 ((getL (0,(((false,([0,0,0,0],())),((false,([0,0,0,0],())),())),([],()))) x8 x13).1,((getL (0,(((false,([0,0,0,0],())),((false,([0,0,0,0],())),())),([],()))) x8 x13).2.1,(r50.1,(getL (0,(((false,([0,0,0,0],())),((false,([0,0,0,0],())),())),([],()))) x8 x13).2.2.2)))
 (ref13_Choose F x11).bind fun r52 =>
 bif inI x13 (List.length x8v51) then
 k9 x0 (setL x8v51 x13 ((getL (0,(((false,([0,0,0,0],())),((false,([0,0,0,0],())),())),([],()))) x8v51 x13).1,(r52.1,(getL (0,(((false,([0,0,0,0],())),((false,([0,0,0,0],())),())),([],()))) x8v51 x13).2.2))) x11 x10
 else
 none
 else
 none
 else
 none
 else
 none
 else
 kn x0 x8 x9 x10
def ref21_Join_j30(F:Nat){R:Type}(kn:(List qPI)→(List qG)→qCO→Int→Option R)(x0:(List qPI))(x8:(List qG))(x9:qCO)(x10:Int):Option R :=
 bif inI x10 (List.length x0) then
 let x157v63:=(getL (0,(0,(0,((false,(((false,([0,0,0,0],())),((false,([0,0,0,0],())),())),(((false,([0,0,0,0],())),((false,([0,0,0,0],())),())),()))),())))) x0 x10).2.2.2.1
 bif inI x10 (List.length x0) then
 (ref13_Choose F x157v63).bind fun r65 =>
 bif inI x10 (List.length x0) then
 bif roomB ((List.length x8)+1) 112 then
 kn x0 (x8++[((getL (0,(0,(0,((false,(((false,([0,0,0,0],())),((false,([0,0,0,0],())),())),(((false,([0,0,0,0],())),((false,([0,0,0,0],())),())),()))),())))) x0 x10).2.2.1,(r65.1,([(getL (0,(0,(0,((false,(((false,([0,0,0,0],())),((false,([0,0,0,0],())),())),(((false,([0,0,0,0],())),((false,([0,0,0,0],())),())),()))),())))) x0 x10).1],())))]) x157v63 x10
 else
 none
 else
 none
 else
 none
 else
 none
def ref21_Join_l22(F:Nat){R:Type}(k8:(List qG)→Option R):Nat→(List qPI)→(List qG)→qCO→Int→Option R
 | 0,_,_,_,_=>none
 | n+1,x0,x8,x9,x10 =>
 bif ltI x10 (lenI x0) then
 bif inI x10 (List.length x0) then
 (ref13_Meet F x9 (getL (0,(0,(0,((false,(((false,([0,0,0,0],())),((false,([0,0,0,0],())),())),(((false,([0,0,0,0],())),((false,([0,0,0,0],())),())),()))),())))) x0 x10).2.2.2.1).bind fun r41 =>
 bif ltI 0 x10 then
 bif r41.2.1 then
 bif inI (subI .i64 (lenI x8) 1) (List.length x8) then
 bif inI x10 (List.length x0) then
 ref21_Join_j27 F (fun z54 z55 z56 z57 =>
 ref21_Join_l22 F k8 n z54 z55 z56 (addI .i64 z57 1)) (fun z59 z60 z61 z62 =>
 ref21_Join_j30 F (fun z68 z69 z70 z71 =>
 ref21_Join_l22 F k8 n z68 z69 z70 (addI .i64 z71 1)) z59 z60 z61 z62) x0 x8 x9 x10 r41.1 (subI .i64 (lenI x8) 1) (eqI (getL (0,(((false,([0,0,0,0],())),((false,([0,0,0,0],())),())),([],()))) x8 (subI .i64 (lenI x8) 1)).1 (getL (0,(0,(0,((false,(((false,([0,0,0,0],())),((false,([0,0,0,0],())),())),(((false,([0,0,0,0],())),((false,([0,0,0,0],())),())),()))),())))) x0 x10).2.2.1)
 else
 none
 else
 none
 else
 ref21_Join_j27 F (fun z73 z74 z75 z76 =>
 ref21_Join_l22 F k8 n z73 z74 z75 (addI .i64 z76 1)) (fun z78 z79 z80 z81 =>
 ref21_Join_j30 F (fun z82 z83 z84 z85 =>
 ref21_Join_l22 F k8 n z82 z83 z84 (addI .i64 z85 1)) z78 z79 z80 z81) x0 x8 x9 x10 r41.1 (subI .i64 (lenI x8) 1) false
 else
 ref21_Join_j27 F (fun z87 z88 z89 z90 =>
 ref21_Join_l22 F k8 n z87 z88 z89 (addI .i64 z90 1)) (fun z92 z93 z94 z95 =>
 ref21_Join_j30 F (fun z96 z97 z98 z99 =>
 ref21_Join_l22 F k8 n z96 z97 z98 (addI .i64 z99 1)) z92 z93 z94 z95) x0 x8 x9 x10 r41.1 (subI .i64 (lenI x8) 1) false
 else
 none
 else
 k8 x8
def ref21_Join(F:Nat)(x0:(List qPI)):Option ((List qG)×Int×Unit) :=
 ref21_Join_l2 F (fun z18 =>
 bif roomB (0+(List.length z18)) 192 then
 ref21_Join_l13 F (fun z37 =>
 ref21_Join_l22 F (fun z101 =>
 some (z101,(0,()))) F z37 [] (false,(((false,([0,0,0,0],())),((false,([0,0,0,0],())),())),(((false,([0,0,0,0],())),((false,([0,0,0,0],())),())),()))) 0) F ([]++z18) 0
 else
 none) (fun z102 z103 =>
 some (z102,(z103,()))) F x0 0
def law22_list(F:Nat)(x0:qTP):Option (qTP×(List qG)×Int×Unit) :=
 (made_Tape_Some F x0 30).bind fun r1 =>
 (made_Tape_Tolerance F r1.1).bind fun r2 =>
 (ref19_All F r1.2.1 r2.2.1).bind fun r3 =>
 (ref21_Join F r3.1).bind fun r4 =>
 some (r2.1,(r4.1,(lenI r1.2.1,())))
def simpiece_starts_l3(F:Nat){R:Type}(k0:Int→Option R):Nat→Int→(List qG)→Int→Int→Option R
 | 0,_,_,_,_=>none
 | n+1,x3,x6,x7,x8 =>
 bif ltI x8 x7 then
 bif inI x8 (List.length x6) then
 simpiece_starts_l3 F k0 n (addI .i64 x3 (lenI (getL (0,(((false,([0,0,0,0],())),((false,([0,0,0,0],())),())),([],()))) x6 x8).2.2.1)) x6 x7 (addI .i64 x8 1)
 else
 none
 else
 k0 x3
def simpiece_starts(F:Nat)(x0:(List qG)):Option (Int×Unit) :=
 simpiece_starts_l3 F (fun z7 =>
 some (z7,())) F 0 x0 (lenI x0) 0
def wide_Valid(F:Nat)(x0:qW):Option (Bool×Unit) :=
 bif not x0.1 then
 some (true,())
 else
 some (not (eqT (.arr 4 (.int .u64)) x0.2.1 [0,0,0,0]),())
def wide_clean(F:Nat)(x0:qW):Option (qW×Unit) :=
 (wide_Valid F x0).bind fun r1 =>
 bif not r1.1 then
 some ((false,([0,0,0,0],())),())
 else
 some (x0,())
def wide_Sign(F:Nat)(x0:qW):Option (Int×Unit) :=
 (wide_clean F x0).bind fun r1 =>
 bif r1.1.1 then
 some ((-1),())
 else
 bif eqT (.arr 4 (.int .u64)) r1.1.2.1 [0,0,0,0] then
 some (0,())
 else
 some (1,())
def ratio_small(F:Nat)(x0:qW):Option (Bool×Unit) :=
 bif eqI (getL 0 x0.2.1 3) 0 then
 bif eqI (getL 0 x0.2.1 2) 0 then
 some (eqI (shrI .u64 (getL 0 x0.2.1 1) 63) 0,())
 else
 some (false,())
 else
 some (false,())
def wide_length_l2(F:Nat){R:Type}(k0:Option R)(kret:Int→Option R):Nat→qL→Int→Option R
 | 0,_,_=>none
 | n+1,x1,x3 =>
 bif leI 0 x3 then
 bif inI x3 4 then
 bif not (eqI (getL 0 x1 x3) 0) then
 bif inI x3 4 then
 (bits_Len64 F (getL 0 x1 x3)).bind fun r6 =>
 kret (addI .i64 (mulI .i64 64 x3) r6.1)
 else
 none
 else
 wide_length_l2 F k0 kret n x1 (subI .i64 x3 1)
 else
 none
 else
 k0
def wide_length(F:Nat)(x0:qL):Option (Int×Unit) :=
 wide_length_l2 F (
 some (0,())) (fun z9 =>
 some (z9,())) F x0 3
def wide_left_j7(F:Nat){R:Type}(kn:qL→qL→Int→Int→Int→Option R)(x2:qL)(x4:qL)(x5:Int)(x6:Int)(x7:Int)(x32:Bool):Option R :=
 bif x32 then
 bif inI x7 4 then
 bif inI (subI .i64 (subI .i64 x7 x5) 1) 4 then
 bif ltI (subI .i64 64 x6) 0 then
 none
 else
 bif inI x7 4 then
 kn x2 (setL x4 x7 (orI .u64 (getL 0 x4 x7) (shrI .u64 (getL 0 x2 (subI .i64 (subI .i64 x7 x5) 1)) (subI .i64 64 x6)))) x5 x6 x7
 else
 none
 else
 none
 else
 none
 else
 kn x2 x4 x5 x6 x7
def wide_left_l3(F:Nat){R:Type}(k0:qL→Option R):Nat→qL→qL→Int→Int→Int→Option R
 | 0,_,_,_,_,_=>none
 | n+1,x2,x4,x5,x6,x7 =>
 bif ltI x7 4 then
 bif inI (subI .i64 x7 x5) 4 then
 bif ltI x6 0 then
 none
 else
 bif inI x7 4 then
 bif ltI 0 x6 then
 wide_left_j7 F (fun z18 z19 z20 z21 z22 =>
 wide_left_l3 F k0 n z18 z19 z20 z21 (addI .i64 z22 1)) x2 (setL x4 x7 (shlI .u64 (getL 0 x2 (subI .i64 x7 x5)) x6)) x5 x6 x7 (ltI x5 x7)
 else
 wide_left_j7 F (fun z24 z25 z26 z27 z28 =>
 wide_left_l3 F k0 n z24 z25 z26 z27 (addI .i64 z28 1)) x2 (setL x4 x7 (shlI .u64 (getL 0 x2 (subI .i64 x7 x5)) x6)) x5 x6 x7 false
 else
 none
 else
 none
 else
 k0 x4
def wide_left(F:Nat)(x0:qL)(x1:Int):Option (qL×Unit) :=
 wide_left_l3 F (fun z30 =>
 some (z30,())) F x0 [0,0,0,0] (quoI .i64 x1 64) (remI x1 64) (quoI .i64 x1 64)
def cmp_isNaN_uint64(F:Nat)(x0:Int):Option (Bool×Unit) :=
 some (not (eqI x0 x0),())
def cmp_Compare_uint64(F:Nat)(x0:Int)(x1:Int):Option (Int×Unit) :=
 (cmp_isNaN_uint64 F x0).bind fun r1 =>
 (cmp_isNaN_uint64 F x1).bind fun r2 =>
 bif r1.1 then
 bif r2.1 then
 some (0,())
 else
 some ((-1),())
 else
 bif r2.1 then
 some (1,())
 else
 bif ltI x0 x1 then
 some ((-1),())
 else
 bif ltI x1 x0 then
 some (1,())
 else
 some (0,())
def cmp_Or_int_l3(F:Nat){R:Type}(k0:Int→Option R)(kret:Int→Option R):Nat→Int→qL→Int→Int→Option R
 | 0,_,_,_,_=>none
 | n+1,x3,x6,x7,x8 =>
 bif ltI x8 x7 then
 bif inI x8 (List.length x6) then
 bif not (eqI (getL 0 x6 x8) x3) then
 kret (getL 0 x6 x8)
 else
 cmp_Or_int_l3 F k0 kret n x3 x6 x7 (addI .i64 x8 1)
 else
 none
 else
 k0 x3
def cmp_Or_int(F:Nat)(x0:qL):Option (Int×Unit) :=
 cmp_Or_int_l3 F (fun z6 =>
 some (z6,())) (fun z7 =>
 some (z7,())) F 0 x0 (lenI x0) 0
def wide_compare(F:Nat)(x0:qL)(x1:qL):Option (Int×Unit) :=
 (cmp_Compare_uint64 F (getL 0 x0 3) (getL 0 x1 3)).bind fun r3 =>
 (cmp_Compare_uint64 F (getL 0 x0 2) (getL 0 x1 2)).bind fun r6 =>
 (cmp_Compare_uint64 F (getL 0 x0 1) (getL 0 x1 1)).bind fun r9 =>
 (cmp_Compare_uint64 F (getL 0 x0 0) (getL 0 x1 0)).bind fun r12 =>
 (cmp_Or_int F [r3.1,r6.1,r9.1,r12.1]).bind fun r13 =>
 some (r13.1,())
def wide_sub_l3(F:Nat){R:Type}(k0:qL→Option R):Nat→qL→qL→qL→Int→Int→Option R
 | 0,_,_,_,_,_=>none
 | n+1,x2,x3,x4,x5,x7 =>
 bif ltI x7 4 then
 bif inI x7 4 then
 bif inI x7 4 then
 (bits_Sub64 F (getL 0 x2 x7) (getL 0 x3 x7) x5).bind fun r4 =>
 bif inI x7 4 then
 wide_sub_l3 F k0 n x2 x3 (setL x4 x7 r4.1) r4.2.1 (addI .i64 x7 1)
 else
 none
 else
 none
 else
 none
 else
 k0 x4
def wide_sub(F:Nat)(x0:qL)(x1:qL):Option (qL×Unit) :=
 wide_sub_l3 F (fun z7 =>
 some (z7,())) F x0 x1 [0,0,0,0] 0 0
def wide_halved_l2(F:Nat){R:Type}(k0:qL→Option R):Nat→qL→qL→Int→Option R
 | 0,_,_,_=>none
 | n+1,x1,x2,x4 =>
 bif ltI x4 4 then
 bif inI x4 4 then
 bif inI x4 4 then
 bif ltI x4 3 then
 bif inI x4 4 then
 bif inI (addI .i64 x4 1) 4 then
 bif inI x4 4 then
 wide_halved_l2 F k0 n x1 (setL (setL x2 x4 (shrI .u64 (getL 0 x1 x4) 1)) x4 (orI .u64 (getL 0 (setL x2 x4 (shrI .u64 (getL 0 x1 x4) 1)) x4) (shlI .u64 (getL 0 x1 (addI .i64 x4 1)) 63))) (addI .i64 x4 1)
 else
 none
 else
 none
 else
 none
 else
 wide_halved_l2 F k0 n x1 (setL x2 x4 (shrI .u64 (getL 0 x1 x4) 1)) (addI .i64 x4 1)
 else
 none
 else
 none
 else
 k0 x2
def wide_halved(F:Nat)(x0:qL):Option (qL×Unit) :=
 wide_halved_l2 F (fun z14 =>
 some (z14,())) F x0 [0,0,0,0] 0
def wide_div_l5(F:Nat){R:Type}(k0:qL→qL→qL→Option R):Nat→qL→qL→qL→Int→qL→Option R
 | 0,_,_,_,_,_=>none
 | n+1,x2,x4,x5,x6,x7 =>
 bif leI 0 x6 then
 (wide_compare F x2 x7).bind fun r7 =>
 bif leI 0 r7.1 then
 (wide_sub F x2 x7).bind fun r9 =>
 bif inI (quoI .i64 x6 64) 4 then
 bif ltI (remI x6 64) 0 then
 none
 else
 bif inI (quoI .i64 x6 64) 4 then
 (wide_halved F x7).bind fun r16 =>
 wide_div_l5 F k0 n r9.1 (setL x4 (quoI .i64 x6 64) (orI .u64 (getL 0 x4 (quoI .i64 x6 64)) (shlI .u64 1 (remI x6 64)))) x5 (subI .i64 x6 1) r16.1
 else
 none
 else
 none
 else
 (wide_halved F x7).bind fun r18 =>
 wide_div_l5 F k0 n x2 x4 x5 (subI .i64 x6 1) r18.1
 else
 k0 x2 x4 x5
def wide_div(F:Nat)(x0:qL)(x1:qL):Option (qL×qL×Unit) :=
 (wide_length F x0).bind fun r1 =>
 (wide_length F x1).bind fun r2 =>
 let x12v3:=subI .i64 r1.1 r2.1
 bif ltI x12v3 0 then
 some ([0,0,0,0],(x0,()))
 else
 (wide_left F x1 x12v3).bind fun r5 =>
 wide_div_l5 F (fun z20 z21 z22 =>
 some (z21,(z20,()))) F x0 [0,0,0,0] [0,0,0,0] x12v3 r5.1
def wide_add_l2(F:Nat){R:Type}(k0:qL→Int→Option R):Nat→qL→qL→qL→Int→Int→Option R
 | 0,_,_,_,_,_=>none
 | n+1,x2,x3,x4,x5,x7 =>
 bif ltI x7 4 then
 bif inI x7 4 then
 bif inI x7 4 then
 (bits_Add64 F (getL 0 x2 x7) (getL 0 x3 x7) x5).bind fun r4 =>
 bif inI x7 4 then
 wide_add_l2 F k0 n x2 x3 (setL x4 x7 r4.1) r4.2.1 (addI .i64 x7 1)
 else
 none
 else
 none
 else
 none
 else
 k0 x4 x5
def wide_add(F:Nat)(x0:qL)(x1:qL):Option (qL×Int×Unit) :=
 wide_add_l2 F (fun z7 z8 =>
 some (z7,(z8,()))) F x0 x1 [0,0,0,0] 0 0
def wide_signed(F:Nat)(x0:Bool)(x1:qL):Option (qW×Unit) :=
 (wide_clean F (x0,(x1,()))).bind fun r1 =>
 some (r1.1,())
def wide_DivMod_j6(F:Nat){R:Type}(kn:qW→qW→qW→qW→qL→qL→Option R)(x2:qW)(x3:qW)(x4:qW)(x5:qW)(x7:qL)(x8:qL)(x32:Bool):Option R :=
 bif x32 then
 (wide_add F x7 [1,0,0,0]).bind fun r7 =>
 (wide_sub F x3.2.1 x8).bind fun r8 =>
 kn x2 x3 x4 x5 r7.1 r8.1
 else
 kn x2 x3 x4 x5 x7 x8
def wide_DivMod_j8(F:Nat){R:Type}(kret:qW→qW→Bool→Option R)(x2:qW)(x3:qW)(x4:qW)(x5:qW)(x7:qL)(x8:qL):Option R :=
 (wide_signed F (not (eqT .bool x2.1 x3.1)) x7).bind fun r16 =>
 (wide_signed F false x8).bind fun r17 =>
 kret r16.1 r17.1 true
def wide_DivMod(F:Nat)(x0:qW)(x1:qW):Option (qW×qW×Bool×Unit) :=
 (wide_clean F x0).bind fun r1 =>
 (wide_clean F x1).bind fun r2 =>
 (wide_Sign F r2.1).bind fun r3 =>
 bif eqI r3.1 0 then
 some ((false,([0,0,0,0],())),((false,([0,0,0,0],())),(false,())))
 else
 (wide_div F r1.1.2.1 r2.1.2.1).bind fun r5 =>
 bif r1.1.1 then
 wide_DivMod_j6 F (fun z9 z10 z11 z12 z13 z14 =>
 wide_DivMod_j8 F (fun z18 z19 z20 =>
 some (z18,(z19,(z20,())))) z9 z10 z11 z12 z13 z14) r1.1 r2.1 (false,([0,0,0,0],())) (false,([0,0,0,0],())) r5.1 r5.2.1 (not (eqT (.arr 4 (.int .u64)) r5.2.1 [0,0,0,0]))
 else
 wide_DivMod_j6 F (fun z21 z22 z23 z24 z25 z26 =>
 wide_DivMod_j8 F (fun z27 z28 z29 =>
 some (z27,(z28,(z29,())))) z21 z22 z23 z24 z25 z26) r1.1 r2.1 (false,([0,0,0,0],())) (false,([0,0,0,0],())) r5.1 r5.2.1 false
def ratio_divisor_l2(F:Nat){R:Type}(k0:qW→qW→Option R):Nat→qW→qW→qW→Option R
 | 0,_,_,_=>none
 | n+1,x2,x3,x4 =>
 (wide_Sign F x3).bind fun r1 =>
 bif not (eqI r1.1 0) then
 (wide_DivMod F x2 x3).bind fun r3 =>
 ratio_divisor_l2 F k0 n x3 r3.2.1 x4
 else
 k0 x2 x4
def ratio_divisor(F:Nat)(x0:qW)(x1:qW):Option (qW×Unit) :=
 ratio_divisor_l2 F (fun z4 z5 =>
 some (z4,())) F (false,x0.2) (false,x1.2) (false,([0,0,0,0],()))
def wide_Of(F:Nat)(x0:Int):Option (qW×Unit) :=
 bif ltI x0 0 then
 some ((true,([subI .u64 0 (IntKind.wrap .u64 x0),0,0,0],())),())
 else
 some ((false,([IntKind.wrap .u64 x0,0,0,0],())),())
def ratio_Valid(F:Nat)(x0:qR):Option (Bool×Unit) :=
 (wide_Valid F x0.1).bind fun r1 =>
 bif r1.1 then
 (wide_Valid F x0.2.1).bind fun r2 =>
 bif r2.1 then
 (wide_Sign F x0.2.1).bind fun r3 =>
 bif ltI 0 r3.1 then
 (ratio_small F x0.1).bind fun r5 =>
 bif r5.1 then
 (ratio_small F x0.2.1).bind fun r6 =>
 bif r6.1 then
 (ratio_divisor F x0.1 x0.2.1).bind fun r7 =>
 (wide_Of F 1).bind fun r8 =>
 some (eqT (.pair .bool (.pair (.arr 4 (.int .u64)) .unit)) r7.1 r8.1,())
 else
 some (false,())
 else
 some (false,())
 else
 some (false,())
 else
 some (false,())
 else
 some (false,())
def cmp_isNaN_int64(F:Nat)(x0:Int):Option (Bool×Unit) :=
 some (not (eqI x0 x0),())
def cmp_Compare_int64(F:Nat)(x0:Int)(x1:Int):Option (Int×Unit) :=
 (cmp_isNaN_int64 F x0).bind fun r1 =>
 (cmp_isNaN_int64 F x1).bind fun r2 =>
 bif r1.1 then
 bif r2.1 then
 some (0,())
 else
 some ((-1),())
 else
 bif r2.1 then
 some (1,())
 else
 bif ltI x0 x1 then
 some ((-1),())
 else
 bif ltI x1 x0 then
 some (1,())
 else
 some (0,())
def ratio_Of(F:Nat)(x0:Int):Option (qR×Unit) :=
 (wide_Of F x0).bind fun r1 =>
 (wide_Of F 1).bind fun r2 =>
 some ((r1.1,(r2.1,())),())
def ratio_clean(F:Nat)(x0:qR):Option (qR×Unit) :=
 (ratio_Valid F x0).bind fun r1 =>
 bif not r1.1 then
 (ratio_Of F 0).bind fun r3 =>
 some (r3.1,())
 else
 some (x0,())
def wide_mul_l7(F:Nat){R:Type}(k2:qL→qL→qL→Int→Int→qL→Int→Option R):Nat→qL→qL→qL→Int→Int→Int→qL→Int→qL→Int→Option R
 | 0,_,_,_,_,_,_,_,_,_,_=>none
 | n+1,x3,x4,x6,x7,x8,x9,x16,x17,x21,x22 =>
 bif ltI x22 4 then
 bif inI x22 4 then
 (bits_Mul64 F x8 (getL 0 x21 x22)).bind fun r5 =>
 bif inI (addI .i64 x7 x22) 8 then
 (bits_Add64 F (getL 0 x6 (addI .i64 x7 x22)) r5.2.1 0).bind fun r8 =>
 (bits_Add64 F r8.1 x9 0).bind fun r10 =>
 bif inI (addI .i64 x7 x22) 8 then
 wide_mul_l7 F k2 n x3 x4 (setL x6 (addI .i64 x7 x22) r10.1) x7 x8 (addI .u64 (addI .u64 r5.1 r8.2.1) r10.2.1) x16 x17 x21 (addI .i64 x22 1)
 else
 none
 else
 none
 else
 none
 else
 k2 x3 x4 x6 x7 x9 x16 x17
def wide_mul_l3(F:Nat){R:Type}(k0:qL→qL→Option R):Nat→qL→qL→qL→qL→Int→Option R
 | 0,_,_,_,_,_=>none
 | n+1,x3,x4,x6,x16,x17 =>
 bif ltI x17 4 then
 bif inI x17 4 then
 wide_mul_l7 F (fun z15 z16 z17 z18 z19 z20 z21 =>
 bif inI (addI .i64 z18 4) 8 then
 wide_mul_l3 F k0 n z15 z16 (setL z17 (addI .i64 z18 4) z19) z20 (addI .i64 z21 1)
 else
 none) F x3 x4 x6 x17 (getL 0 x16 x17) 0 x16 x17 x3 0
 else
 none
 else
 k0 x4 x6
def wide_mul(F:Nat)(x0:qL)(x1:qL):Option (qL×Bool×Unit) :=
 wide_mul_l3 F (fun z25 z26 =>
 some ((((List.take 0 z25)++(List.take 4 (List.drop 0 z26)))++(List.drop 4 z25)),(eqT (.arr 4 (.int .u64)) (List.take 4 (List.drop 4 z26)) [0,0,0,0],()))) F x1 [0,0,0,0] [0,0,0,0,0,0,0,0] x0 0
def wide_Mul(F:Nat)(x0:qW)(x1:qW):Option (qW×Bool×Unit) :=
 (wide_clean F x0).bind fun r1 =>
 (wide_clean F x1).bind fun r2 =>
 (wide_mul F r1.1.2.1 r2.1.2.1).bind fun r3 =>
 bif not r3.2.1 then
 some ((false,([0,0,0,0],())),(false,()))
 else
 (wide_signed F (not (eqT .bool r1.1.1 r2.1.1)) r3.1).bind fun r6 =>
 some (r6.1,(true,()))
def ratio_product(F:Nat)(x0:qW)(x1:qW):Option (qW×Unit) :=
 (wide_Mul F x0 x1).bind fun r1 =>
 some (r1.1,())
def wide_Compare_j3(F:Nat){R:Type}(kn:qW→qW→Option R)(kret:Int→Option R)(x2:qW)(x3:qW)(x9:Bool):Option R :=
 bif x9 then
 (wide_compare F x3.2.1 x2.2.1).bind fun r3 =>
 kret r3.1
 else
 bif x2.1 then
 kret (-1)
 else
 bif x3.1 then
 kret 1
 else
 kn x2 x3
def wide_Compare_j8(F:Nat){R:Type}(kret:Int→Option R)(x2:qW)(x3:qW):Option R :=
 (wide_compare F x2.2.1 x3.2.1).bind fun r6 =>
 kret r6.1
def wide_Compare(F:Nat)(x0:qW)(x1:qW):Option (Int×Unit) :=
 (wide_clean F x0).bind fun r1 =>
 (wide_clean F x1).bind fun r2 =>
 bif r1.1.1 then
 wide_Compare_j3 F (fun z4 z5 =>
 wide_Compare_j8 F (fun z7 =>
 some (z7,())) z4 z5) (fun z8 =>
 some (z8,())) r1.1 r2.1 r2.1.1
 else
 wide_Compare_j3 F (fun z9 z10 =>
 wide_Compare_j8 F (fun z11 =>
 some (z11,())) z9 z10) (fun z12 =>
 some (z12,())) r1.1 r2.1 false
def ratio_Compare(F:Nat)(x0:qR)(x1:qR):Option (Int×Unit) :=
 (ratio_clean F x0).bind fun r1 =>
 (ratio_clean F x1).bind fun r2 =>
 (ratio_product F r1.1.1 r2.1.2.1).bind fun r3 =>
 (ratio_product F r2.1.1 r1.1.2.1).bind fun r4 =>
 (wide_Compare F r3.1 r4.1).bind fun r5 =>
 some (r5.1,())
def simpiece_compare(F:Nat)(x0:qG)(x1:qG):Option (Int×Unit) :=
 (cmp_Compare_int64 F x0.1 x1.1).bind fun r1 =>
 (ratio_Compare F x0.2.1 x1.2.1).bind fun r2 =>
 (cmp_Or_int F [r1.1,r2.1]).bind fun r3 =>
 some (r3.1,())
def simpiece_Valid_l10(F:Nat){R:Type}(k2:(List qG)→(List Bool)→(List qG)→Int→Int→Option R)(kret:Int→Option R):Nat→(List qG)→(List Bool)→qG→(List qG)→Int→Int→qL→Int→Int→Option R
 | 0,_,_,_,_,_,_,_,_,_=>none
 | n+1,x0,x3,x5,x16,x17,x18,x48,x49,x50 =>
 bif ltI x50 x49 then
 bif inI x50 (List.length x48) then
 bif ltI (getL 0 x48 x50) 0 then
 kret 1
 else
 bif leI 4096 (getL 0 x48 x50) then
 kret 1
 else
 bif inI (getL 0 x48 x50) 4096 then
 bif getL false x3 (getL 0 x48 x50) then
 kret 1
 else
 bif ltI 0 x50 then
 bif inI (subI .i64 x50 1) (List.length x5.2.2.1) then
 bif leI (getL 0 x48 x50) (getL 0 x5.2.2.1 (subI .i64 x50 1)) then
 kret 1
 else
 bif inI (getL 0 x48 x50) 4096 then
 simpiece_Valid_l10 F k2 kret n x0 (setL x3 (getL 0 x48 x50) true) x5 x16 x17 x18 x48 x49 (addI .i64 x50 1)
 else
 none
 else
 none
 else
 bif inI (getL 0 x48 x50) 4096 then
 simpiece_Valid_l10 F k2 kret n x0 (setL x3 (getL 0 x48 x50) true) x5 x16 x17 x18 x48 x49 (addI .i64 x50 1)
 else
 none
 else
 none
 else
 none
 else
 k2 x0 x3 x16 x17 x18
def simpiece_Valid_j9(F:Nat){R:Type}(kn:(List qG)→(List Bool)→(List qG)→Int→Int→Option R)(kret:Int→Option R)(x0:(List qG))(x3:(List Bool))(x5:qG)(x16:(List qG))(x17:Int)(x18:Int):Option R :=
 simpiece_Valid_l10 F (fun z31 z32 z33 z34 z35 =>
 kn z31 z32 z33 z34 z35) (fun z36 =>
 kret z36) F x0 x3 x5 x16 x17 x18 x5.2.2.1 (lenI x5.2.2.1) 0
def simpiece_Valid_l5(F:Nat){R:Type}(k0:Option R)(kret:Int→Option R):Nat→(List qG)→(List Bool)→(List qG)→Int→Int→Option R
 | 0,_,_,_,_,_=>none
 | n+1,x0,x3,x16,x17,x18 =>
 bif ltI x18 x17 then
 bif inI x18 (List.length x16) then
 let x22v7:=getL (0,(((false,([0,0,0,0],())),((false,([0,0,0,0],())),())),([],()))) x16 x18
 (ratio_Valid F x22v7.2.1).bind fun r8 =>
 bif not r8.1 then
 kret 1
 else
 bif eqI (lenI x22v7.2.2.1) 0 then
 kret 1
 else
 bif ltI 0 x18 then
 bif inI (subI .i64 x18 1) (List.length x0) then
 (simpiece_compare F (getL (0,(((false,([0,0,0,0],())),((false,([0,0,0,0],())),())),([],()))) x0 (subI .i64 x18 1)) x22v7).bind fun r15 =>
 bif leI 0 r15.1 then
 kret 1
 else
 simpiece_Valid_j9 F (fun z37 z38 z39 z40 z41 =>
 simpiece_Valid_l5 F k0 kret n z37 z38 z39 z40 (addI .i64 z41 1)) (fun z43 =>
 kret z43) x0 x3 x22v7 x16 x17 x18
 else
 none
 else
 simpiece_Valid_j9 F (fun z44 z45 z46 z47 z48 =>
 simpiece_Valid_l5 F k0 kret n z44 z45 z46 z47 (addI .i64 z48 1)) (fun z50 =>
 kret z50) x0 x3 x22v7 x16 x17 x18
 else
 none
 else
 k0
def simpiece_Valid(F:Nat)(x0:(List qG)):Option (Int×Unit) :=
 bif ltI 4096 (lenI x0) then
 some (3,())
 else
 (simpiece_starts F x0).bind fun r3 =>
 bif ltI 4096 r3.1 then
 some (3,())
 else
 simpiece_Valid_l5 F (
 some (0,())) (fun z51 =>
 some (z51,())) F x0 [false,false,false,false,false,false,false,false,false,false,false,false,false,false,false,false,false,false,false,false,false,false,false,false,false,false,false,false,false,false,false,false,false,false,false,false,false,false,false,false,false,false,false,false,false,false,false,false,false,false,false,false,false,false,false,false,false,false,false,false,false,false,false,false,false,false,false,false,false,false,false,false,false,false,false,false,false,false,false,false,false,false,false,false,false,false,false,false,false,false,false,false,false,false,false,false,false,false,false,false,false,false,false,false,false,false,false,false,false,false,false,false,false,false,false,false,false,false,false,false,false,false,false,false,false,false,false,false,false,false,false,false,false,false,false,false,false,false,false,false,false,false,false,false,false,false,false,false,false,false,false,false,false,false,false,false,false,false,false,false,false,false,false,false,false,false,false,false,false,false,false,false,false,false,false,false,false,false,false,false,false,false,false,false,false,false,false,false,false,false,false,false,false,false,false,false,false,false,false,false,false,false,false,false,false,false,false,false,false,false,false,false,false,false,false,false,false,false,false,false,false,false,false,false,false,false,false,false,false,false,false,false,false,false,false,false,false,false,false,false,false,false,false,false,false,false,false,false,false,false,false,false,false,false,false,false,false,false,false,false,false,false,false,false,false,false,false,false,false,false,false,false,false,false,false,false,false,false,false,false,false,false,false,false,false,false,false,false,false,false,false,false,false,false,false,false,false,false,false,false,false,false,false,false,false,false,false,false,false,false,false,false,false,false,false,false,false,false,false,false,false,false,false,false,false,false,false,false,false,false,false,false,false,false,false,false,false,false,false,false,false,false,false,false,false,false,false,false,false,false,false,false,false,false,false,false,false,false,false,false,false,false,false,false,false,false,false,false,false,false,false,false,false,false,false,false,false,false,false,false,false,false,false,false,false,false,false,false,false,false,false,false,false,false,false,false,false,false,false,false,false,false,false,false,false,false,false,false,false,false,false,false,false,false,false,false,false,false,false,false,false,false,false,false,false,false,false,false,false,false,false,false,false,false,false,false,false,false,false,false,false,false,false,false,false,false,false,false,false,false,false,false,false,false,false,false,false,false,false,false,false,false,false,false,false,false,false,false,false,false,false,false,false,false,false,false,false,false,false,false,false,false,false,false,false,false,false,false,false,false,false,false,false,false,false,false,false,false,false,false,false,false,false,false,false,false,false,false,false,false,false,false,false,false,false,false,false,false,false,false,false,false,false,false,false,false,false,false,false,false,false,false,false,false,false,false,false,false,false,false,false,false,false,false,false,false,false,false,false,false,false,false,false,false,false,false,false,false,false,false,false,false,false,false,false,false,false,false,false,false,false,false,false,false,false,false,false,false,false,false,false,false,false,false,false,false,false,false,false,false,false,false,false,false,false,false,false,false,false,false,false,false,false,false,false,false,false,false,false,false,false,false,false,false,false,false,false,false,false,false,false,false,false,false,false,false,false,false,false,false,false,false,false,false,false,false,false,false,false,false,false,false,false,false,false,false,false,false,false,false,false,false,false,false,false,false,false,false,false,false,false,false,false,false,false,false,false,false,false,false,false,false,false,false,false,false,false,false,false,false,false,false,false,false,false,false,false,false,false,false,false,false,false,false,false,false,false,false,false,false,false,false,false,false,false,false,false,false,false,false,false,false,false,false,false,false,false,false,false,false,false,false,false,false,false,false,false,false,false,false,false,false,false,false,false,false,false,false,false,false,false,false,false,false,false,false,false,false,false,false,false,false,false,false,false,false,false,false,false,false,false,false,false,false,false,false,false,false,false,false,false,false,false,false,false,false,false,false,false,false,false,false,false,false,false,false,false,false,false,false,false,false,false,false,false,false,false,false,false,false,false,false,false,false,false,false,false,false,false,false,false,false,false,false,false,false,false,false,false,false,false,false,false,false,false,false,false,false,false,false,false,false,false,false,false,false,false,false,false,false,false,false,false,false,false,false,false,false,false,false,false,false,false,false,false,false,false,false,false,false,false,false,false,false,false,false,false,false,false,false,false,false,false,false,false,false,false,false,false,false,false,false,false,false,false,false,false,false,false,false,false,false,false,false,false,false,false,false,false,false,false,false,false,false,false,false,false,false,false,false,false,false,false,false,false,false,false,false,false,false,false,false,false,false,false,false,false,false,false,false,false,false,false,false,false,false,false,false,false,false,false,false,false,false,false,false,false,false,false,false,false,false,false,false,false,false,false,false,false,false,false,false,false,false,false,false,false,false,false,false,false,false,false,false,false,false,false,false,false,false,false,false,false,false,false,false,false,false,false,false,false,false,false,false,false,false,false,false,false,false,false,false,false,false,false,false,false,false,false,false,false,false,false,false,false,false,false,false,false,false,false,false,false,false,false,false,false,false,false,false,false,false,false,false,false,false,false,false,false,false,false,false,false,false,false,false,false,false,false,false,false,false,false,false,false,false,false,false,false,false,false,false,false,false,false,false,false,false,false,false,false,false,false,false,false,false,false,false,false,false,false,false,false,false,false,false,false,false,false,false,false,false,false,false,false,false,false,false,false,false,false,false,false,false,false,false,false,false,false,false,false,false,false,false,false,false,false,false,false,false,false,false,false,false,false,false,false,false,false,false,false,false,false,false,false,false,false,false,false,false,false,false,false,false,false,false,false,false,false,false,false,false,false,false,false,false,false,false,false,false,false,false,false,false,false,false,false,false,false,false,false,false,false,false,false,false,false,false,false,false,false,false,false,false,false,false,false,false,false,false,false,false,false,false,false,false,false,false,false,false,false,false,false,false,false,false,false,false,false,false,false,false,false,false,false,false,false,false,false,false,false,false,false,false,false,false,false,false,false,false,false,false,false,false,false,false,false,false,false,false,false,false,false,false,false,false,false,false,false,false,false,false,false,false,false,false,false,false,false,false,false,false,false,false,false,false,false,false,false,false,false,false,false,false,false,false,false,false,false,false,false,false,false,false,false,false,false,false,false,false,false,false,false,false,false,false,false,false,false,false,false,false,false,false,false,false,false,false,false,false,false,false,false,false,false,false,false,false,false,false,false,false,false,false,false,false,false,false,false,false,false,false,false,false,false,false,false,false,false,false,false,false,false,false,false,false,false,false,false,false,false,false,false,false,false,false,false,false,false,false,false,false,false,false,false,false,false,false,false,false,false,false,false,false,false,false,false,false,false,false,false,false,false,false,false,false,false,false,false,false,false,false,false,false,false,false,false,false,false,false,false,false,false,false,false,false,false,false,false,false,false,false,false,false,false,false,false,false,false,false,false,false,false,false,false,false,false,false,false,false,false,false,false,false,false,false,false,false,false,false,false,false,false,false,false,false,false,false,false,false,false,false,false,false,false,false,false,false,false,false,false,false,false,false,false,false,false,false,false,false,false,false,false,false,false,false,false,false,false,false,false,false,false,false,false,false,false,false,false,false,false,false,false,false,false,false,false,false,false,false,false,false,false,false,false,false,false,false,false,false,false,false,false,false,false,false,false,false,false,false,false,false,false,false,false,false,false,false,false,false,false,false,false,false,false,false,false,false,false,false,false,false,false,false,false,false,false,false,false,false,false,false,false,false,false,false,false,false,false,false,false,false,false,false,false,false,false,false,false,false,false,false,false,false,false,false,false,false,false,false,false,false,false,false,false,false,false,false,false,false,false,false,false,false,false,false,false,false,false,false,false,false,false,false,false,false,false,false,false,false,false,false,false,false,false,false,false,false,false,false,false,false,false,false,false,false,false,false,false,false,false,false,false,false,false,false,false,false,false,false,false,false,false,false,false,false,false,false,false,false,false,false,false,false,false,false,false,false,false,false,false,false,false,false,false,false,false,false,false,false,false,false,false,false,false,false,false,false,false,false,false,false,false,false,false,false,false,false,false,false,false,false,false,false,false,false,false,false,false,false,false,false,false,false,false,false,false,false,false,false,false,false,false,false,false,false,false,false,false,false,false,false,false,false,false,false,false,false,false,false,false,false,false,false,false,false,false,false,false,false,false,false,false,false,false,false,false,false,false,false,false,false,false,false,false,false,false,false,false,false,false,false,false,false,false,false,false,false,false,false,false,false,false,false,false,false,false,false,false,false,false,false,false,false,false,false,false,false,false,false,false,false,false,false,false,false,false,false,false,false,false,false,false,false,false,false,false,false,false,false,false,false,false,false,false,false,false,false,false,false,false,false,false,false,false,false,false,false,false,false,false,false,false,false,false,false,false,false,false,false,false,false,false,false,false,false,false,false,false,false,false,false,false,false,false,false,false,false,false,false,false,false,false,false,false,false,false,false,false,false,false,false,false,false,false,false,false,false,false,false,false,false,false,false,false,false,false,false,false,false,false,false,false,false,false,false,false,false,false,false,false,false,false,false,false,false,false,false,false,false,false,false,false,false,false,false,false,false,false,false,false,false,false,false,false,false,false,false,false,false,false,false,false,false,false,false,false,false,false,false,false,false,false,false,false,false,false,false,false,false,false,false,false,false,false,false,false,false,false,false,false,false,false,false,false,false,false,false,false,false,false,false,false,false,false,false,false,false,false,false,false,false,false,false,false,false,false,false,false,false,false,false,false,false,false,false,false,false,false,false,false,false,false,false,false,false,false,false,false,false,false,false,false,false,false,false,false,false,false,false,false,false,false,false,false,false,false,false,false,false,false,false,false,false,false,false,false,false,false,false,false,false,false,false,false,false,false,false,false,false,false,false,false,false,false,false,false,false,false,false,false,false,false,false,false,false,false,false,false,false,false,false,false,false,false,false,false,false,false,false,false,false,false,false,false,false,false,false,false,false,false,false,false,false,false,false,false,false,false,false,false,false,false,false,false,false,false,false,false,false,false,false,false,false,false,false,false,false,false,false,false,false,false,false,false,false,false,false,false,false,false,false,false,false,false,false,false,false,false,false,false,false,false,false,false,false,false,false,false,false,false,false,false,false,false,false,false,false,false,false,false,false,false,false,false,false,false,false,false,false,false,false,false,false,false,false,false,false,false,false,false,false,false,false,false,false,false,false,false,false,false,false,false,false,false,false,false,false,false,false,false,false,false,false,false,false,false,false,false,false,false,false,false,false,false,false,false,false,false,false,false,false,false,false,false,false,false,false,false,false,false,false,false,false,false,false,false,false,false,false,false,false,false,false,false,false,false,false,false,false,false,false,false,false,false,false,false,false,false,false,false,false,false,false,false,false,false,false,false,false,false,false,false,false,false,false,false,false,false,false,false,false,false,false,false,false,false,false,false,false,false,false,false,false,false,false,false,false,false,false,false,false,false,false,false,false,false,false,false,false,false,false,false,false,false,false,false,false,false,false,false,false,false,false,false,false,false,false,false,false,false,false,false,false,false,false,false,false,false,false,false,false,false,false,false,false,false,false,false,false,false,false,false,false,false,false,false,false,false,false,false,false,false,false,false,false,false,false,false,false,false,false,false,false,false,false,false,false,false,false,false,false,false,false,false,false,false,false,false,false,false,false,false,false,false,false,false,false,false,false,false,false,false,false,false,false,false,false,false,false,false,false,false,false,false,false,false,false,false,false,false,false,false,false,false,false,false,false,false,false,false,false,false,false,false,false,false,false,false,false,false,false,false,false,false,false,false,false,false,false,false,false,false,false,false,false,false,false,false,false,false,false,false,false,false,false,false,false,false,false,false,false,false,false,false,false,false,false,false,false,false,false,false,false,false,false,false,false,false,false,false,false,false,false,false,false,false,false,false,false,false,false,false,false,false,false,false,false,false,false,false,false,false,false,false,false,false,false,false,false,false,false,false,false,false,false,false,false,false,false,false,false,false,false,false,false,false,false,false,false,false,false,false,false,false,false,false,false,false,false,false,false,false,false,false,false,false,false,false,false,false,false,false,false,false,false,false,false,false,false,false,false,false,false,false,false,false,false,false,false,false,false,false,false,false,false,false,false,false,false,false,false,false,false,false,false,false,false,false,false,false,false,false,false,false,false,false,false,false,false,false,false,false,false,false,false,false,false,false,false,false,false,false,false,false,false,false,false,false,false,false,false,false,false,false,false,false,false,false,false,false,false,false,false,false,false,false,false,false,false,false,false,false,false,false,false,false,false,false,false,false,false,false,false,false,false,false,false,false,false,false,false,false,false,false,false,false,false,false,false,false,false,false,false,false,false,false,false,false,false,false,false,false,false,false,false,false,false,false,false,false,false,false,false,false,false,false,false,false,false,false,false,false,false,false,false,false,false,false,false,false,false,false,false,false,false,false,false,false,false,false,false,false,false,false,false,false,false,false,false,false,false,false,false,false,false,false,false,false,false,false,false,false,false,false,false,false,false,false,false,false,false,false,false,false,false,false,false,false,false,false,false,false,false,false,false,false,false,false,false,false,false,false,false,false,false,false,false,false,false,false,false,false,false,false,false,false,false,false,false,false,false,false,false,false,false,false,false,false,false,false,false,false,false,false,false,false,false,false,false,false,false,false,false,false,false,false,false,false,false,false,false,false,false,false,false,false,false,false,false,false,false,false,false,false,false,false,false,false,false,false,false,false,false,false,false,false,false,false,false,false,false,false,false,false,false,false,false,false,false,false,false,false,false,false,false,false,false,false,false,false,false,false,false,false,false,false,false,false,false,false,false,false,false,false,false,false,false,false,false,false,false,false,false,false,false,false,false,false,false,false,false,false,false,false,false,false,false,false,false,false,false,false,false,false,false,false,false,false,false,false,false,false,false,false,false,false,false,false,false,false,false,false,false,false,false,false,false,false,false,false,false,false,false,false,false,false,false,false,false,false,false,false,false,false,false,false,false,false,false,false,false,false,false,false,false,false,false,false,false,false,false,false,false,false,false,false,false,false,false,false,false,false,false,false,false,false,false,false,false,false,false,false,false,false,false,false,false,false,false,false,false,false,false,false,false,false,false,false,false,false,false,false,false,false,false,false,false,false,false,false,false,false,false,false,false,false,false,false,false,false,false,false,false,false,false,false,false,false,false,false,false,false,false,false,false,false,false,false,false,false,false,false,false,false,false,false,false,false,false,false,false,false,false,false,false,false,false,false,false,false,false,false,false,false,false,false,false,false,false,false,false,false,false,false,false,false,false,false,false,false,false,false,false,false,false,false,false,false,false,false,false,false,false,false,false,false,false,false,false,false,false,false,false,false,false,false,false,false,false,false,false,false,false,false,false,false,false,false,false,false,false,false,false,false,false,false,false,false,false,false,false,false,false,false,false,false,false,false,false,false,false,false,false,false,false,false,false,false,false,false,false,false,false,false,false,false,false,false,false,false,false,false,false,false,false,false,false,false,false,false,false,false,false,false,false,false,false,false,false,false,false,false,false,false,false,false,false,false,false,false,false,false,false,false,false,false,false,false,false,false,false,false,false,false,false,false,false,false,false,false,false,false,false,false,false,false,false,false,false,false,false,false,false,false,false,false,false,false,false,false,false,false,false,false,false,false,false,false,false,false,false,false,false,false,false,false,false,false,false,false,false,false,false,false,false,false,false,false,false,false,false,false,false,false,false,false,false,false,false,false,false,false,false,false,false,false,false,false,false,false,false,false,false,false,false,false,false,false,false,false,false,false,false,false,false,false,false,false,false,false,false,false,false,false,false,false,false,false,false,false,false,false,false,false,false,false,false,false,false,false,false,false,false,false,false,false,false,false,false,false,false,false,false,false,false,false,false,false,false,false,false,false,false,false,false,false,false,false,false,false,false,false,false,false,false,false,false,false,false,false,false,false,false,false,false,false,false,false,false,false,false,false,false,false,false,false,false,false,false,false,false,false,false,false,false,false,false,false,false,false,false,false,false,false,false,false,false,false,false,false,false,false,false,false,false,false,false,false,false,false,false,false,false,false,false,false,false,false,false,false,false,false,false,false,false,false,false,false,false,false,false,false,false,false,false,false,false,false,false,false,false,false,false,false,false,false,false,false,false,false,false,false,false,false,false,false,false,false,false,false,false,false,false,false,false,false,false,false,false,false,false,false,false,false,false,false,false,false,false,false,false,false,false,false,false,false,false,false,false,false,false,false,false,false,false,false,false,false,false,false,false,false,false,false,false,false,false,false,false,false,false,false,false,false,false,false,false,false,false,false,false,false,false,false,false,false,false,false,false,false,false,false,false,false,false,false,false,false,false,false,false,false,false,false,false,false,false,false,false,false,false,false,false,false,false,false,false,false,false,false,false,false,false,false,false,false,false,false,false,false,false,false,false,false,false,false,false,false,false,false,false,false,false,false,false,false,false,false,false,false,false,false,false,false,false,false,false,false,false,false,false,false,false,false,false,false,false,false,false,false,false,false,false,false,false,false,false,false,false,false,false,false,false,false,false,false,false,false,false,false,false,false,false,false,false,false,false,false,false,false,false,false,false,false,false,false,false,false,false,false,false,false,false,false,false,false,false,false,false,false,false,false,false,false,false,false,false,false,false,false,false,false,false,false,false,false,false,false,false,false,false,false,false,false,false,false,false,false,false,false,false,false,false,false,false,false,false,false,false,false,false,false,false,false,false,false,false,false,false,false,false,false,false,false,false,false,false,false,false,false,false,false,false,false,false,false,false,false,false,false,false,false,false,false,false,false,false,false,false,false,false,false,false,false,false,false,false,false,false,false,false,false,false,false,false,false,false,false,false,false,false,false,false,false,false,false,false,false,false,false,false,false,false,false,false,false,false,false,false,false,false,false,false,false,false,false,false,false,false,false,false,false,false,false,false,false,false,false,false,false,false,false,false,false,false,false,false,false,false,false,false,false,false,false,false,false,false,false,false,false,false,false,false,false,false,false,false,false,false,false,false,false,false,false,false,false,false,false,false,false,false,false,false,false,false,false,false,false,false,false,false,false,false,false,false,false,false,false,false,false,false,false,false,false,false,false,false,false,false,false,false,false,false,false,false,false,false,false,false,false,false,false,false,false,false,false,false,false,false,false,false,false,false,false,false,false,false,false,false,false,false,false,false,false,false,false,false,false,false,false,false,false,false,false,false,false,false,false,false,false,false,false,false,false,false,false,false,false,false,false,false,false,false,false,false,false,false,false,false,false,false,false,false,false,false,false,false,false,false,false,false,false,false,false,false,false,false,false,false,false,false,false,false,false,false,false,false,false,false,false,false,false,false,false,false,false,false,false,false,false,false,false,false,false,false,false,false,false,false,false,false,false,false,false,false,false,false,false,false,false,false,false,false,false,false,false,false,false,false,false,false,false,false,false,false,false,false,false,false,false,false,false,false,false,false,false,false,false,false,false,false,false,false,false,false,false,false,false,false,false,false,false,false,false,false,false,false,false,false,false,false,false,false,false,false,false,false,false,false,false,false,false,false,false,false,false,false,false,false,false,false,false,false,false,false] x0 (lenI x0) 0
def slices_Clone_int64(F:Nat)(x0:qL):Option (qL×Unit) :=
 bif roomB (0+List.length x0) 8 then some (x0,()) else none
def checked_Diff(F:Nat)(x0:Int)(x1:Int):Option (Int×Unit) :=
 some (subI .u64 (IntKind.wrap .u64 x0) (IntKind.wrap .u64 x1),())
def residual_differences_l1(F:Nat){R:Type}(k0:qL→Option R):Nat→qL→Int→Option R
 | 0,_,_=>none
 | n+1,x0,x2 =>
 bif ltI 0 x2 then
 bif inI x2 (List.length x0) then
 bif inI (subI .i64 x2 1) (List.length x0) then
 (checked_Diff F (getL 0 x0 x2) (getL 0 x0 (subI .i64 x2 1))).bind fun r7 =>
 bif inI x2 (List.length x0) then
 residual_differences_l1 F k0 n (setL x0 x2 (IntKind.wrap .i64 r7.1)) (subI .i64 x2 1)
 else
 none
 else
 none
 else
 none
 else
 k0 x0
def residual_differences(F:Nat)(x0:qL):Option (qL×Unit) :=
 residual_differences_l1 F (fun z11 =>
 some (z11,())) F x0 (subI .i64 (lenI x0) 1)
def checked_Apply(F:Nat)(x0:Int)(x1:Int):Option (Int×Unit) :=
 some (IntKind.wrap .i64 (addI .u64 (IntKind.wrap .u64 x0) x1),())
def residual_sums_l1(F:Nat){R:Type}(k0:qL→Option R):Nat→qL→Int→Option R
 | 0,_,_=>none
 | n+1,x0,x2 =>
 bif ltI x2 (lenI x0) then
 bif inI x2 (List.length x0) then
 bif inI (subI .i64 x2 1) (List.length x0) then
 (checked_Apply F (getL 0 x0 x2) (IntKind.wrap .u64 (getL 0 x0 (subI .i64 x2 1)))).bind fun r7 =>
 bif inI x2 (List.length x0) then
 residual_sums_l1 F k0 n (setL x0 x2 r7.1) (addI .i64 x2 1)
 else
 none
 else
 none
 else
 none
 else
 k0 x0
def residual_sums(F:Nat)(x0:qL):Option (qL×Unit) :=
 residual_sums_l1 F (fun z10 =>
 some (z10,())) F x0 1
def residual_repeatd_l1(F:Nat){R:Type}(k0:qL→Option R):Nat→qL→Int→Int→Option R
 | 0,_,_,_=>none
 | n+1,x0,x6,x7 =>
 bif ltI x7 x6 then
 (residual_differences F x0).bind fun r2 =>
 residual_repeatd_l1 F k0 n r2.1 x6 (addI .i64 x7 1)
 else
 k0 x0
def residual_repeatd(F:Nat)(x0:qL)(x1:Int):Option (qL×Unit) :=
 residual_repeatd_l1 F (fun z4 =>
 some (z4,())) F x0 x1 0
def residual_repeats_l1(F:Nat){R:Type}(k0:qL→Option R):Nat→qL→Int→Int→Option R
 | 0,_,_,_=>none
 | n+1,x0,x6,x7 =>
 bif ltI x7 x6 then
 (residual_sums F x0).bind fun r2 =>
 residual_repeats_l1 F k0 n r2.1 x6 (addI .i64 x7 1)
 else
 k0 x0
def residual_repeats(F:Nat)(x0:qL)(x1:Int):Option (qL×Unit) :=
 residual_repeats_l1 F (fun z4 =>
 some (z4,())) F x0 x1 0
def varint_Zigzag(F:Nat)(x0:Int):Option (Int×Unit) :=
 some (xorI .u64 (shlI .u64 (IntKind.wrap .u64 x0) 1) (IntKind.wrap .u64 (shrI .i64 x0 63)),())
def residual_Residuals_l7(F:Nat){R:Type}(k0:qL→Option R):Nat→qL→qL→Int→Int→Option R
 | 0,_,_,_,_=>none
 | n+1,x7,x24,x25,x26 =>
 bif ltI x26 x25 then
 bif inI x26 (List.length x24) then
 (varint_Zigzag F (getL 0 x24 x26)).bind fun r10 =>
 bif inI x26 (List.length x7) then
 residual_Residuals_l7 F k0 n (setL x7 x26 r10.1) x24 x25 (addI .i64 x26 1)
 else
 none
 else
 none
 else
 k0 x7
def residual_Residuals(F:Nat)(x0:qL)(x1:Int):Option (qL×Bool×Unit) :=
 bif ltI x1 0 then
 some ([],(false,()))
 else
 bif ltI 2 x1 then
 some ([],(false,()))
 else
 (slices_Clone_int64 F x0).bind fun r3 =>
 (residual_repeatd F r3.1 x1).bind fun r4 =>
 bif makeB (lenI r4.1) (lenI r4.1) 8 then
 residual_Residuals_l7 F (fun z13 =>
 some (z13,(true,()))) F (replI (lenI r4.1) (0:Int)) r4.1 (lenI r4.1) 0
 else
 none
def varint_Size(F:Nat)(x0:Int):Option (Int×Unit) :=
 (bits_Len64 F x0).bind fun r1 =>
 some (maxI (quoI .i64 (addI .i64 r1.1 6) 7) 1,())
def bitpack_Width_l3(F:Nat){R:Type}(k0:Int→Option R):Nat→Int→qL→Int→Int→Option R
 | 0,_,_,_,_=>none
 | n+1,x3,x6,x7,x8 =>
 bif ltI x8 x7 then
 bif inI x8 (List.length x6) then
 bitpack_Width_l3 F k0 n (orI .u64 x3 (getL 0 x6 x8)) x6 x7 (addI .i64 x8 1)
 else
 none
 else
 k0 x3
def bitpack_Width(F:Nat)(x0:qL):Option (Int×Unit) :=
 bitpack_Width_l3 F (fun z6 =>
 (bits_Len64 F z6).bind fun r7 =>
 some (r7.1,())) F 0 x0 (lenI x0) 0
def bitpack_Bytes(F:Nat)(x0:Int)(x1:Int):Option (Int×Unit) :=
 bif ltI x0 0 then
 some ((-1),())
 else
 bif ltI 65536 x0 then
 some ((-1),())
 else
 bif ltI x1 0 then
 some ((-1),())
 else
 bif ltI 64 x1 then
 some ((-1),())
 else
 some (quoI .i64 (addI .i64 (mulI .i64 x0 x1) 7) 8,())
def bitpack_Pack_l10(F:Nat){R:Type}(k2:Int→qL→Int→qL→Int→Int→Option R):Nat→Int→qL→Int→Int→Int→qL→Int→Int→Option R
 | 0,_,_,_,_,_,_,_,_=>none
 | n+1,x1,x7,x8,x10,x11,x27,x28,x29 =>
 bif ltI 0 x11 then
 bif inI (quoI .i64 x8 8) (List.length x7) then
 bif ltI (remI x8 8) 0 then
 none
 else
 bif inI (quoI .i64 x8 8) (List.length x7) then
 bif ltI (minI (subI .i64 8 (remI x8 8)) x11) 0 then
 none
 else
 bitpack_Pack_l10 F k2 n x1 (setL x7 (quoI .i64 x8 8) (orI .u8 (getL 0 x7 (quoI .i64 x8 8)) (shlI .u8 (IntKind.wrap .u8 x10) (remI x8 8)))) (addI .i64 x8 (minI (subI .i64 8 (remI x8 8)) x11)) (shrI .u64 x10 (minI (subI .i64 8 (remI x8 8)) x11)) (subI .i64 x11 (minI (subI .i64 8 (remI x8 8)) x11)) x27 x28 x29
 else
 none
 else
 none
 else
 k2 x1 x7 x8 x27 x28 x29
def bitpack_Pack_l7(F:Nat){R:Type}(k0:qL→Option R):Nat→Int→qL→Int→qL→Int→Int→Option R
 | 0,_,_,_,_,_,_=>none
 | n+1,x1,x7,x8,x27,x28,x29 =>
 bif ltI x29 x28 then
 bif inI x29 (List.length x27) then
 bitpack_Pack_l10 F (fun z24 z25 z26 z27 z28 z29 =>
 bitpack_Pack_l7 F k0 n z24 z25 z26 z27 z28 (addI .i64 z29 1)) F x1 x7 x8 (getL 0 x27 x29) x1 x27 x28 x29
 else
 none
 else
 k0 x7
def bitpack_Pack(F:Nat)(x0:qL)(x1:Int):Option (qL×Bool×Unit) :=
 (bitpack_Bytes F (lenI x0) x1).bind fun r2 =>
 bif ltI r2.1 0 then
 some ([],(false,()))
 else
 (bitpack_Width F x0).bind fun r4 =>
 bif ltI x1 r4.1 then
 some ([],(false,()))
 else
 bif makeB r2.1 r2.1 1 then
 bitpack_Pack_l7 F (fun z31 =>
 some (z31,(true,()))) F x1 (replI r2.1 (0:Int)) 0 x0 (lenI x0) 0
 else
 none
def slices_Clone_byte(F:Nat)(x0:qL):Option (qL×Unit) :=
 bif roomB (0+List.length x0) 1 then some (x0,()) else none
def varint_Append_l2(F:Nat){R:Type}(k0:Int→qL→Option R):Nat→Int→qL→Option R
 | 0,_,_=>none
 | n+1,x1,x5 =>
 bif leI 128 x1 then
 bif roomB ((List.length x5)+1) 1 then
 varint_Append_l2 F k0 n (shrI .u64 x1 7) (x5++[orI .u8 (IntKind.wrap .u8 x1) 128])
 else
 none
 else
 k0 x1 x5
def varint_Append(F:Nat)(x0:qL)(x1:Int):Option (qL×Unit) :=
 (slices_Clone_byte F x0).bind fun r1 =>
 (slices_Grow_byte F r1.1 10).bind fun r2 =>
 varint_Append_l2 F (fun z8 z9 =>
 bif roomB ((List.length z9)+1) 1 then
 some ((z9++[IntKind.wrap .u8 z8]),())
 else
 none) F x1 r2.1
def numbers_Encode_l5(F:Nat){R:Type}(k0:qL→Int→Option R):Nat→qL→Int→qL→Int→Int→Option R
 | 0,_,_,_,_,_=>none
 | n+1,x0,x4,x16,x17,x18 =>
 bif ltI x18 x17 then
 bif inI x18 (List.length x16) then
 (varint_Size F (getL 0 x16 x18)).bind fun r6 =>
 numbers_Encode_l5 F k0 n x0 (addI .i64 x4 r6.1) x16 x17 (addI .i64 x18 1)
 else
 none
 else
 k0 x0 x4
def numbers_Encode_l15(F:Nat){R:Type}(k2:qL→Option R):Nat→qL→qL→Int→Int→Option R
 | 0,_,_,_,_=>none
 | n+1,x10,x47,x48,x49 =>
 bif ltI x49 x48 then
 bif inI x49 (List.length x47) then
 (varint_Append F [] (getL 0 x47 x49)).bind fun r22 =>
 bif roomB ((List.length x10)+(List.length r22.1)) 1 then
 numbers_Encode_l15 F k2 n (x10++r22.1) x47 x48 (addI .i64 x49 1)
 else
 none
 else
 none
 else
 k2 x10
def numbers_Encode(F:Nat)(x0:qL):Option (qL×Int×Unit) :=
 bif ltI 65536 (lenI x0) then
 some ([],(3,()))
 else
 numbers_Encode_l5 F (fun z9 z10 =>
 (bitpack_Width F z9).bind fun r11 =>
 (bitpack_Pack F z9 r11.1).bind fun r12 =>
 bif ltI (addI .i64 2 (lenI r12.1)) z10 then
 bif roomB (2+(List.length r12.1)) 1 then
 some (([1,IntKind.wrap .u8 r11.1]++r12.1),(0,()))
 else
 none
 else
 bif makeB 1 z10 1 then
 numbers_Encode_l15 F (fun z25 =>
 some (z25,(0,()))) F (replI 1 (0:Int)) z9 (lenI z9) 0
 else
 none) F x0 1 x0 (lenI x0) 0
def residual_Encode_l3(F:Nat){R:Type}(k0:qL→Option R)(kret:qL→Int→Option R):Nat→qL→qL→Int→Option R
 | 0,_,_,_=>none
 | n+1,x0,x4,x10 =>
 bif ltI x10 3 then
 (residual_Residuals F x0 x10).bind fun r9 =>
 (numbers_Encode F r9.1).bind fun r10 =>
 bif not (eqI r10.2.1 0) then
 kret [] r10.2.1
 else
 bif List.isEmpty x4 then
 none
 else
 bif ltI (addI .i64 (lenI r10.1) 1) (lenI x4) then
 bif roomB (1+(List.length r10.1)) 1 then
 residual_Encode_l3 F k0 kret n x0 ([IntKind.wrap .u8 x10]++r10.1) (addI .i64 x10 1)
 else
 none
 else
 residual_Encode_l3 F k0 kret n x0 x4 (addI .i64 x10 1)
 else
 k0 x4
def residual_Encode_p3(F:Nat){R:Type}(k0:qL→Option R)(kret:qL→Int→Option R)(n:Nat)(x0:qL)(x10:Int):Option R :=
 bif ltI x10 3 then
 (residual_Residuals F x0 x10).bind fun r21 =>
 (numbers_Encode F r21.1).bind fun r22 =>
 bif not (eqI r22.2.1 0) then
 kret [] r22.2.1
 else
 bif roomB (1+(List.length r22.1)) 1 then
 residual_Encode_l3 F k0 kret n x0 ([IntKind.wrap .u8 x10]++r22.1) (addI .i64 x10 1)
 else
 none
 else
 none
def residual_Encode(F:Nat)(x0:qL):Option (qL×Int×Unit) :=
 residual_Encode_p3 F (fun z27 =>
 some (z27,(0,()))) (fun z28 z29 =>
 some (z28,(z29,()))) F x0 0
def varint_AppendWide_l5(F:Nat){R:Type}(k0:qL→qW→qL→Option R):Nat→qL→qW→qL→qL→Int→Option R
 | 0,_,_,_,_,_=>none
 | n+1,x0,x3,x5,x16,x17 =>
 bif ltI x17 4 then
 bif inI x17 4 then
 bif inI x17 5 then
 bif inI x17 5 then
 bif inI (addI .i64 x17 1) 5 then
 varint_AppendWide_l5 F k0 n x0 x3 (setL (setL x5 x17 (orI .u64 (getL 0 x5 x17) (shlI .u64 (getL 0 x16 x17) 1))) (addI .i64 x17 1) (shrI .u64 (getL 0 x16 x17) 63)) x16 (addI .i64 x17 1)
 else
 none
 else
 none
 else
 none
 else
 none
 else
 k0 x0 x3 x5
def varint_AppendWide_l15(F:Nat){R:Type}(k4:qL→qL→Int→Option R):Nat→qL→qL→Int→Int→Option R
 | 0,_,_,_,_=>none
 | n+1,x5,x8,x9,x47 =>
 bif ltI x47 5 then
 bif inI x47 5 then
 bif inI x47 5 then
 bif ltI x47 4 then
 bif inI x47 5 then
 bif inI (addI .i64 x47 1) 5 then
 bif inI x47 5 then
 varint_AppendWide_l15 F k4 n (setL (setL x5 x47 (shrI .u64 (getL 0 x5 x47) 7)) x47 (orI .u64 (getL 0 (setL x5 x47 (shrI .u64 (getL 0 x5 x47) 7)) x47) (shlI .u64 (getL 0 (setL x5 x47 (shrI .u64 (getL 0 x5 x47) 7)) (addI .i64 x47 1)) 57))) x8 x9 (addI .i64 x47 1)
 else
 none
 else
 none
 else
 none
 else
 varint_AppendWide_l15 F k4 n (setL x5 x47 (shrI .u64 (getL 0 x5 x47) 7)) x8 x9 (addI .i64 x47 1)
 else
 none
 else
 none
 else
 k4 x5 x8 x9
def varint_AppendWide_l13(F:Nat){R:Type}(kret:qL→Option R):Nat→qL→qL→Option R
 | 0,_,_=>none
 | n+1,x5,x8 =>
 varint_AppendWide_l15 F (fun z37 z38 z39 =>
 bif eqT (.arr 5 (.int .u64)) z37 [0,0,0,0,0] then
 bif roomB ((List.length z38)+1) 1 then
 kret (z38++[z39])
 else
 none
 else
 bif roomB ((List.length z38)+1) 1 then
 varint_AppendWide_l13 F kret n z37 (z38++[orI .u8 z39 128])
 else
 none) F x5 x8 (IntKind.wrap .u8 (remI (getL 0 x5 0) 128)) 0
def varint_AppendWide_j12(F:Nat){R:Type}(kret:qL→Option R)(x0:qL)(x5:qL):Option R :=
 (slices_Clone_byte F x0).bind fun r19 =>
 (slices_Grow_byte F r19.1 37).bind fun r20 =>
 varint_AppendWide_l13 F (fun z44 =>
 kret z44) F x5 r20.1
def varint_AppendWide_j3(F:Nat){R:Type}(kret:qL→Option R)(x0:qL)(x3:qW):Option R :=
 varint_AppendWide_l5 F (fun z13 z14 z15 =>
 bif z14.1 then
 varint_AppendWide_j12 F (fun z45 =>
 kret z45) z13 (setL z15 0 (addI .u64 (getL 0 z15 0) 1))
 else
 varint_AppendWide_j12 F (fun z46 =>
 kret z46) z13 z15) F x0 x3 [0,0,0,0,0] x3.2.1 0
def varint_AppendWide(F:Nat)(x0:qL)(x1:qW):Option (qL×Unit) :=
 (wide_Valid F x1).bind fun r1 =>
 bif not r1.1 then
 varint_AppendWide_j3 F (fun z47 =>
 some (z47,())) x0 (false,([0,0,0,0],()))
 else
 varint_AppendWide_j3 F (fun z48 =>
 some (z48,())) x0 x1
def records_AppendSlope(F:Nat)(x0:qL)(x1:qR):Option (qL×Unit) :=
 (varint_AppendWide F x0 x1.1).bind fun r1 =>
 (varint_AppendWide F r1.1 x1.2.1).bind fun r2 =>
 some (r2.1,())
def simpiece_list(F:Nat)(x0:qL)(x1:qL):Option (qL×Unit) :=
 (numbers_Encode F x1).bind fun r1 =>
 bif roomB ((List.length x0)+(List.length r1.1)) 1 then
 some ((x0++r1.1),())
 else
 none
def simpiece_Encode_l12(F:Nat){R:Type}(k2:(List qG)→qL→qL→qL→(List qG)→Int→Int→Option R):Nat→(List qG)→qL→qL→qL→qG→(List qG)→Int→Int→qL→Int→Int→Option R
 | 0,_,_,_,_,_,_,_,_,_,_,_=>none
 | n+1,x0,x5,x6,x7,x9,x28,x29,x30,x49,x50,x51 =>
 bif ltI x51 x50 then
 bif inI x51 (List.length x49) then
 bif ltI 0 x51 then
 bif inI (subI .i64 x51 1) (List.length x9.2.2.1) then
 bif roomB ((List.length x7)+1) 8 then
 simpiece_Encode_l12 F k2 n x0 x5 x6 (x7++[IntKind.wrap .u64 (subI .i64 (getL 0 x49 x51) (addI .i64 (getL 0 x9.2.2.1 (subI .i64 x51 1)) 1))]) x9 x28 x29 x30 x49 x50 (addI .i64 x51 1)
 else
 none
 else
 none
 else
 bif roomB ((List.length x7)+1) 8 then
 simpiece_Encode_l12 F k2 n x0 x5 x6 (x7++[IntKind.wrap .u64 (getL 0 x49 x51)]) x9 x28 x29 x30 x49 x50 (addI .i64 x51 1)
 else
 none
 else
 none
 else
 k2 x0 x5 x6 x7 x28 x29 x30
def simpiece_Encode_l8(F:Nat){R:Type}(k0:(List qG)→qL→qL→qL→Option R):Nat→(List qG)→qL→qL→qL→(List qG)→Int→Int→Option R
 | 0,_,_,_,_,_,_,_=>none
 | n+1,x0,x5,x6,x7,x28,x29,x30 =>
 bif ltI x30 x29 then
 bif inI x30 (List.length x28) then
 let x34v9:=getL (0,(((false,([0,0,0,0],())),((false,([0,0,0,0],())),())),([],()))) x28 x30
 bif inI x30 (List.length x5) then
 bif inI x30 (List.length x6) then
 simpiece_Encode_l12 F (fun z29 z30 z31 z32 z33 z34 z35 =>
 simpiece_Encode_l8 F k0 n z29 z30 z31 z32 z33 z34 (addI .i64 z35 1)) F x0 (setL x5 x30 x34v9.1) (setL x6 x30 (IntKind.wrap .u64 (subI .i64 (lenI x34v9.2.2.1) 1))) x7 x34v9 x28 x29 x30 x34v9.2.2.1 (lenI x34v9.2.2.1) 0
 else
 none
 else
 none
 else
 none
 else
 k0 x0 x5 x6 x7
def simpiece_Encode_l24(F:Nat){R:Type}(k4:qL→qL→qL→Option R):Nat→qL→qL→qL→(List qG)→Int→Int→Option R
 | 0,_,_,_,_,_,_=>none
 | n+1,x6,x7,x14,x88,x89,x90 =>
 bif ltI x90 x89 then
 bif inI x90 (List.length x88) then
 (records_AppendSlope F x14 (getL (0,(((false,([0,0,0,0],())),((false,([0,0,0,0],())),())),([],()))) x88 x90).2.1).bind fun r50 =>
 simpiece_Encode_l24 F k4 n x6 x7 r50.1 x88 x89 (addI .i64 x90 1)
 else
 none
 else
 k4 x6 x7 x14
def simpiece_Encode(F:Nat)(x0:(List qG)):Option (qL×Int×Unit) :=
 (simpiece_Valid F x0).bind fun r1 =>
 bif not (eqI r1.1 0) then
 some ([],(r1.1,()))
 else
 bif makeB (lenI x0) (lenI x0) 8 then
 bif makeB (lenI x0) (lenI x0) 8 then
 simpiece_Encode_l8 F (fun z37 z38 z39 z40 =>
 (residual_Encode F z38).bind fun r41 =>
 bif not (eqI r41.2.1 0) then
 some ([],(r41.2.1,()))
 else
 (varint_Append F [] (IntKind.wrap .u64 (lenI z37))).bind fun r45 =>
 bif roomB ((List.length r45.1)+(List.length r41.1)) 1 then
 simpiece_Encode_l24 F (fun z52 z53 z54 =>
 (simpiece_list F z54 z52).bind fun r55 =>
 (simpiece_list F r55.1 z53).bind fun r56 =>
 some (r56.1,(0,()))) F z39 z40 (r45.1++r41.1) z37 (lenI z37) 0
 else
 none) F x0 (replI (lenI x0) (0:Int)) (replI (lenI x0) (0:Int)) [] x0 (lenI x0) 0
 else
 none
 else
 none
def records_Placed(F:Nat)(x0:qL)(x1:Int)(x2:Int):Option (Bool×Unit) :=
 bif leI 0 x1 then
 bif leI x1 (lenI x0) then
 bif leI 0 x2 then
 some (leI x2 4096,())
 else
 some (false,())
 else
 some (false,())
 else
 some (false,())
def varint_groups_1(F:Nat)(x0:Int):Option (Bool×Unit) :=
 some (ltI x0 128,())
def slices_IndexFunc_byte_l2(F:Nat){R:Type}(k0:Option R)(kret:Int→Option R):Nat→qL→Int→Int→Option R
 | 0,_,_,_=>none
 | n+1,x0,x7,x8 =>
 bif ltI x8 x7 then
 bif inI x8 (List.length x0) then
 (varint_groups_1 F (getL 0 x0 x8)).bind fun r4 =>
 bif r4.1 then
 kret x8
 else
 slices_IndexFunc_byte_l2 F k0 kret n x0 x7 (addI .i64 x8 1)
 else
 none
 else
 k0
def slices_IndexFunc_byte(F:Nat)(x0:qL):Option (Int×Unit) :=
 slices_IndexFunc_byte_l2 F (
 some ((-1),())) (fun z6 =>
 some (z6,())) F x0 (lenI x0) 0
def varint_groups_j6(F:Nat){R:Type}(kn:qL→Int→Option R)(kret:qL→Int→Option R)(x0:qL)(x8:Int)(x27:Bool):Option R :=
 bif x27 then
 kret [] 4
 else
 bif ltI x8 0 then
 kret [] 5
 else
 bif ltI 0 x8 then
 bif inI x8 (List.length x0) then
 bif eqI (getL 0 x0 x8) 0 then
 kret [] 5
 else
 kn x0 x8
 else
 none
 else
 kn x0 x8
def varint_groups(F:Nat)(x0:qL)(x1:Int)(x2:Int):Option (qL×Int×Unit) :=
 bif ltI x1 0 then
 some ([],(2,()))
 else
 bif ltI (lenI x0) x1 then
 some ([],(2,()))
 else
 bif cutB x1 (lenI x0) (List.length x0) then
 bif cutB 0 (minI (lenI (dropL x0 x1)) x2) (List.length (dropL x0 x1)) then
 (slices_IndexFunc_byte F (takeL (dropL x0 x1) (minI (lenI (dropL x0 x1)) x2))).bind fun r8 =>
 bif ltI r8.1 0 then
 varint_groups_j6 F (fun z16 z17 =>
 bif cutB 0 (addI .i64 z17 1) (List.length z16) then
 some (takeL z16 (addI .i64 z17 1),(0,()))
 else
 none) (fun z20 z21 =>
 some (z20,(z21,()))) (dropL x0 x1) r8.1 (ltI (lenI (dropL x0 x1)) x2)
 else
 varint_groups_j6 F (fun z22 z23 =>
 bif cutB 0 (addI .i64 z23 1) (List.length z22) then
 some (takeL z22 (addI .i64 z23 1),(0,()))
 else
 none) (fun z26 z27 =>
 some (z26,(z27,()))) (dropL x0 x1) r8.1 false
 else
 none
 else
 none
def varint_Read_l8(F:Nat){R:Type}(k0:Int→qL→Int→Option R):Nat→Int→qL→Int→qL→Int→Int→Option R
 | 0,_,_,_,_,_,_=>none
 | n+1,x1,x7,x9,x30,x31,x32 =>
 bif ltI x32 x31 then
 bif inI x32 (List.length x30) then
 bif ltI (mulI .i64 7 x32) 0 then
 none
 else
 varint_Read_l8 F k0 n x1 x7 (orI .u64 x9 (shlI .u64 (IntKind.wrap .u64 (remI (getL 0 x30 x32) 128)) (mulI .i64 7 x32))) x30 x31 (addI .i64 x32 1)
 else
 none
 else
 k0 x1 x7 x9
def varint_Read_j6(F:Nat){R:Type}(kret:Int→Int→Int→Option R)(x1:Int)(x7:qL):Option R :=
 varint_Read_l8 F (fun z16 z17 z18 =>
 kret z18 (addI .i64 z16 (lenI z17)) 0) F x1 x7 0 x7 (lenI x7) 0
def varint_Read(F:Nat)(x0:qL)(x1:Int):Option (Int×Int×Int×Unit) :=
 (varint_groups F x0 x1 10).bind fun r1 =>
 bif not (eqI r1.2.1 0) then
 some (0,(0,(r1.2.1,())))
 else
 bif eqI (lenI r1.1) 10 then
 bif inI 9 (List.length r1.1) then
 bif ltI 1 (getL 0 r1.1 9) then
 some (0,(0,(5,())))
 else
 varint_Read_j6 F (fun z21 z22 z23 =>
 some (z21,(z22,(z23,())))) x1 r1.1
 else
 none
 else
 varint_Read_j6 F (fun z24 z25 z26 =>
 some (z24,(z25,(z26,())))) x1 r1.1
def records_Number(F:Nat)(x0:qL)(x1:Int)(x2:Int):Option (Int×Int×Int×Unit) :=
 (varint_Read F x0 x1).bind fun r1 =>
 bif not (eqI r1.2.2.1 0) then
 some (0,(0,(r1.2.2.1,())))
 else
 bif ltI (IntKind.wrap .u64 x2) r1.1 then
 some (0,(0,(10,())))
 else
 some (IntKind.wrap .i64 r1.1,(r1.2.1,(0,())))
def numbers_plain_l3(F:Nat){R:Type}(k0:Int→qL→Option R)(kret:qL→Int→Int→Option R):Nat→qL→Int→qL→Int→Int→Option R
 | 0,_,_,_,_,_=>none
 | n+1,x0,x1,x9,x20,x21 =>
 bif ltI x21 x20 then
 (varint_Read F x0 x1).bind fun r6 =>
 bif not (eqI r6.2.2.1 0) then
 kret [] 0 r6.2.2.1
 else
 bif roomB ((List.length x9)+1) 8 then
 numbers_plain_l3 F k0 kret n x0 r6.2.1 (x9++[r6.1]) x20 (addI .i64 x21 1)
 else
 none
 else
 k0 x1 x9
def numbers_plain(F:Nat)(x0:qL)(x1:Int)(x2:Int):Option (qL×Int×Int×Unit) :=
 bif makeB 0 (minI x2 (subI .i64 (lenI x0) x1)) 8 then
 numbers_plain_l3 F (fun z10 z11 =>
 some (z11,(z10,(0,())))) (fun z12 z13 z14 =>
 some (z12,(z13,(z14,())))) F x0 x1 (replI 0 (0:Int)) x2 0
 else
 none
def bitpack_Unpack_l9(F:Nat){R:Type}(k2:qL→Int→qL→Int→Int→Int→Option R):Nat→qL→Int→qL→Int→Int→Int→Int→Int→Option R
 | 0,_,_,_,_,_,_,_,_=>none
 | n+1,x0,x2,x8,x9,x10,x11,x23,x24 =>
 bif ltI x11 x2 then
 bif inI (quoI .i64 x9 8) (List.length x0) then
 bif ltI (remI x9 8) 0 then
 none
 else
 bif ltI (minI (subI .i64 8 (remI x9 8)) (subI .i64 x2 x11)) 0 then
 none
 else
 bif inI x10 (List.length x8) then
 bif ltI x11 0 then
 none
 else
 bif inI x10 (List.length x8) then
 bitpack_Unpack_l9 F k2 n x0 x2 (setL x8 x10 (orI .u64 (getL 0 x8 x10) (shlI .u64 (andI .u64 (IntKind.wrap .u64 (shrI .u8 (getL 0 x0 (quoI .i64 x9 8)) (remI x9 8))) (subI .u64 (shlI .u64 1 (minI (subI .i64 8 (remI x9 8)) (subI .i64 x2 x11))) 1)) x11))) (addI .i64 x9 (minI (subI .i64 8 (remI x9 8)) (subI .i64 x2 x11))) x10 (addI .i64 x11 (minI (subI .i64 8 (remI x9 8)) (subI .i64 x2 x11))) x23 x24
 else
 none
 else
 none
 else
 none
 else
 k2 x0 x2 x8 x9 x23 x24
def bitpack_Unpack_l6(F:Nat){R:Type}(k0:qL→qL→Int→Option R):Nat→qL→Int→qL→Int→Int→Int→Option R
 | 0,_,_,_,_,_,_=>none
 | n+1,x0,x2,x8,x9,x23,x24 =>
 bif ltI x24 x23 then
 bitpack_Unpack_l9 F (fun z26 z27 z28 z29 z30 z31 =>
 bitpack_Unpack_l6 F k0 n z26 z27 z28 z29 z30 (addI .i64 z31 1)) F x0 x2 x8 x9 x24 0 x23 x24
 else
 k0 x0 x8 x9
def bitpack_Unpack(F:Nat)(x0:qL)(x1:Int)(x2:Int):Option (qL×Bool×Unit) :=
 (bitpack_Bytes F x1 x2).bind fun r1 =>
 bif not (eqI r1.1 (lenI x0)) then
 some ([],(false,()))
 else
 bif makeB x1 x1 8 then
 bitpack_Unpack_l6 F (fun z33 z34 z35 =>
 bif ltI 0 (remI z35 8) then
 bif inI (quoI .i64 z35 8) (List.length z33) then
 bif ltI (remI z35 8) 0 then
 none
 else
 bif not (eqI (shrI .u8 (getL 0 z33 (quoI .i64 z35 8)) (remI z35 8)) 0) then
 some ([],(false,()))
 else
 some (z34,(true,()))
 else
 none
 else
 some (z34,(true,()))) F x0 x2 (replI x1 (0:Int)) 0 (lenI (replI x1 (0:Int))) 0
 else
 none
def numbers_packed(F:Nat)(x0:qL)(x1:Int)(x2:Int):Option (qL×Int×Int×Unit) :=
 bif leI (lenI x0) x1 then
 some ([],(0,(4,())))
 else
 bif inI x1 (List.length x0) then
 bif ltI 64 (getL 0 x0 x1) then
 some ([],(0,(5,())))
 else
 bif inI x1 (List.length x0) then
 (bitpack_Bytes F x2 (IntKind.wrap .i64 (getL 0 x0 x1))).bind fun r8 =>
 bif ltI (subI .i64 (lenI x0) (addI .i64 x1 1)) r8.1 then
 some ([],(0,(4,())))
 else
 let x45v12:=addI .i64 (addI .i64 x1 1) r8.1
 bif cutB (addI .i64 x1 1) x45v12 (List.length x0) then
 (bitpack_Unpack F (dropL (takeL x0 x45v12) (addI .i64 x1 1)) x2 (IntKind.wrap .i64 (getL 0 x0 x1))).bind fun r14 =>
 bif not r14.2.1 then
 some ([],(0,(5,())))
 else
 some (r14.1,(addI .i64 (addI .i64 x1 1) r8.1,(0,())))
 else
 none
 else
 none
 else
 none
def slices_Equal_byte_l4(F:Nat){R:Type}(k0:Option R)(kret:Bool→Option R):Nat→qL→qL→Int→Int→Option R
 | 0,_,_,_,_=>none
 | n+1,x0,x1,x12,x13 =>
 bif ltI x13 x12 then
 bif inI x13 (List.length x0) then
 bif inI x13 (List.length x1) then
 bif not (eqI (getL 0 x0 x13) (getL 0 x1 x13)) then
 kret false
 else
 slices_Equal_byte_l4 F k0 kret n x0 x1 x12 (addI .i64 x13 1)
 else
 none
 else
 none
 else
 k0
def slices_Equal_byte(F:Nat)(x0:qL)(x1:qL):Option (Bool×Unit) :=
 bif not (eqI (lenI x0) (lenI x1)) then
 some (false,())
 else
 slices_Equal_byte_l4 F (
 some (true,())) (fun z10 =>
 some (z10,())) F x0 x1 (lenI x0) 0
def numbers_Decode_j2(F:Nat){R:Type}(kn:qL→Int→Int→Option R)(kret:qL→Int→Int→Option R)(x0:qL)(x1:Int)(x2:Int)(x14:Bool):Option R :=
 bif x14 then
 kret [] 0 2
 else
 bif eqI x1 (lenI x0) then
 kret [] 0 4
 else
 bif inI x1 (List.length x0) then
 bif ltI 1 (getL 0 x0 x1) then
 kret [] 0 5
 else
 kn x0 x1 x2
 else
 none
def numbers_Decode(F:Nat)(x0:qL)(x1:Int)(x2:Int):Option (qL×Int×Int×Unit) :=
 bif ltI x1 0 then
 numbers_Decode_j2 F (fun z6 z7 z8 =>
 bif inI z7 (List.length z6) then
 bif eqI (getL 0 z6 z7) 1 then
 (numbers_packed F z6 (addI .i64 z7 1) z8).bind fun r12 =>
 bif not (eqI r12.2.2.1 0) then
 some ([],(0,(r12.2.2.1,())))
 else
 (numbers_Encode F r12.1).bind fun r14 =>
 bif not (eqI r14.2.1 0) then
 some ([],(0,(5,())))
 else
 bif cutB z7 r12.2.1 (List.length z6) then
 (slices_Equal_byte F r14.1 (dropL (takeL z6 r12.2.1) z7)).bind fun r17 =>
 bif not r17.1 then
 some ([],(0,(5,())))
 else
 some (r12.1,(r12.2.1,(0,())))
 else
 none
 else
 (numbers_plain F z6 (addI .i64 z7 1) z8).bind fun r20 =>
 bif not (eqI r20.2.2.1 0) then
 some ([],(0,(r20.2.2.1,())))
 else
 (numbers_Encode F r20.1).bind fun r22 =>
 bif not (eqI r22.2.1 0) then
 some ([],(0,(5,())))
 else
 bif cutB z7 r20.2.1 (List.length z6) then
 (slices_Equal_byte F r22.1 (dropL (takeL z6 r20.2.1) z7)).bind fun r25 =>
 bif not r25.1 then
 some ([],(0,(5,())))
 else
 some (r20.1,(r20.2.1,(0,())))
 else
 none
 else
 none) (fun z27 z28 z29 =>
 some (z27,(z28,(z29,())))) x0 x1 x2 true
 else
 bif ltI (lenI x0) x1 then
 numbers_Decode_j2 F (fun z32 z33 z34 =>
 bif inI z33 (List.length z32) then
 bif eqI (getL 0 z32 z33) 1 then
 (numbers_packed F z32 (addI .i64 z33 1) z34).bind fun r38 =>
 bif not (eqI r38.2.2.1 0) then
 some ([],(0,(r38.2.2.1,())))
 else
 (numbers_Encode F r38.1).bind fun r40 =>
 bif not (eqI r40.2.1 0) then
 some ([],(0,(5,())))
 else
 bif cutB z33 r38.2.1 (List.length z32) then
 (slices_Equal_byte F r40.1 (dropL (takeL z32 r38.2.1) z33)).bind fun r43 =>
 bif not r43.1 then
 some ([],(0,(5,())))
 else
 some (r38.1,(r38.2.1,(0,())))
 else
 none
 else
 (numbers_plain F z32 (addI .i64 z33 1) z34).bind fun r46 =>
 bif not (eqI r46.2.2.1 0) then
 some ([],(0,(r46.2.2.1,())))
 else
 (numbers_Encode F r46.1).bind fun r48 =>
 bif not (eqI r48.2.1 0) then
 some ([],(0,(5,())))
 else
 bif cutB z33 r46.2.1 (List.length z32) then
 (slices_Equal_byte F r48.1 (dropL (takeL z32 r46.2.1) z33)).bind fun r51 =>
 bif not r51.1 then
 some ([],(0,(5,())))
 else
 some (r46.1,(r46.2.1,(0,())))
 else
 none
 else
 none) (fun z53 z54 z55 =>
 some (z53,(z54,(z55,())))) x0 x1 x2 true
 else
 bif ltI x2 0 then
 numbers_Decode_j2 F (fun z57 z58 z59 =>
 bif inI z58 (List.length z57) then
 bif eqI (getL 0 z57 z58) 1 then
 (numbers_packed F z57 (addI .i64 z58 1) z59).bind fun r63 =>
 bif not (eqI r63.2.2.1 0) then
 some ([],(0,(r63.2.2.1,())))
 else
 (numbers_Encode F r63.1).bind fun r65 =>
 bif not (eqI r65.2.1 0) then
 some ([],(0,(5,())))
 else
 bif cutB z58 r63.2.1 (List.length z57) then
 (slices_Equal_byte F r65.1 (dropL (takeL z57 r63.2.1) z58)).bind fun r68 =>
 bif not r68.1 then
 some ([],(0,(5,())))
 else
 some (r63.1,(r63.2.1,(0,())))
 else
 none
 else
 (numbers_plain F z57 (addI .i64 z58 1) z59).bind fun r71 =>
 bif not (eqI r71.2.2.1 0) then
 some ([],(0,(r71.2.2.1,())))
 else
 (numbers_Encode F r71.1).bind fun r73 =>
 bif not (eqI r73.2.1 0) then
 some ([],(0,(5,())))
 else
 bif cutB z58 r71.2.1 (List.length z57) then
 (slices_Equal_byte F r73.1 (dropL (takeL z57 r71.2.1) z58)).bind fun r76 =>
 bif not r76.1 then
 some ([],(0,(5,())))
 else
 some (r71.1,(r71.2.1,(0,())))
 else
 none
 else
 none) (fun z78 z79 z80 =>
 some (z78,(z79,(z80,())))) x0 x1 x2 true
 else
 numbers_Decode_j2 F (fun z82 z83 z84 =>
 bif inI z83 (List.length z82) then
 bif eqI (getL 0 z82 z83) 1 then
 (numbers_packed F z82 (addI .i64 z83 1) z84).bind fun r88 =>
 bif not (eqI r88.2.2.1 0) then
 some ([],(0,(r88.2.2.1,())))
 else
 (numbers_Encode F r88.1).bind fun r90 =>
 bif not (eqI r90.2.1 0) then
 some ([],(0,(5,())))
 else
 bif cutB z83 r88.2.1 (List.length z82) then
 (slices_Equal_byte F r90.1 (dropL (takeL z82 r88.2.1) z83)).bind fun r93 =>
 bif not r93.1 then
 some ([],(0,(5,())))
 else
 some (r88.1,(r88.2.1,(0,())))
 else
 none
 else
 (numbers_plain F z82 (addI .i64 z83 1) z84).bind fun r96 =>
 bif not (eqI r96.2.2.1 0) then
 some ([],(0,(r96.2.2.1,())))
 else
 (numbers_Encode F r96.1).bind fun r98 =>
 bif not (eqI r98.2.1 0) then
 some ([],(0,(5,())))
 else
 bif cutB z83 r96.2.1 (List.length z82) then
 (slices_Equal_byte F r98.1 (dropL (takeL z82 r96.2.1) z83)).bind fun r101 =>
 bif not r101.1 then
 some ([],(0,(5,())))
 else
 some (r96.1,(r96.2.1,(0,())))
 else
 none
 else
 none) (fun z103 z104 z105 =>
 some (z103,(z104,(z105,())))) x0 x1 x2 (ltI 65536 x2)
def varint_Unzigzag(F:Nat)(x0:Int):Option (Int×Unit) :=
 some (xorI .i64 (IntKind.wrap .i64 (shrI .u64 x0 1)) (subI .i64 0 (IntKind.wrap .i64 (andI .u64 x0 1))),())
def residual_Decode_j2(F:Nat){R:Type}(kn:qL→Int→Int→Option R)(kret:qL→Int→Int→Option R)(x0:qL)(x1:Int)(x2:Int)(x16:Bool):Option R :=
 bif x16 then
 kret [] 0 2
 else
 bif eqI x1 (lenI x0) then
 kret [] 0 4
 else
 bif inI x1 (List.length x0) then
 bif ltI 2 (getL 0 x0 x1) then
 kret [] 0 5
 else
 kn x0 x1 x2
 else
 none
def residual_Decode_l12(F:Nat){R:Type}(k1:qL→Int→Int→qL→Option R):Nat→qL→Int→Int→qL→qL→Int→Int→Option R
 | 0,_,_,_,_,_,_,_=>none
 | n+1,x0,x1,x10,x12,x58,x59,x60 =>
 bif ltI x60 x59 then
 bif inI x60 (List.length x58) then
 (varint_Unzigzag F (getL 0 x58 x60)).bind fun r16 =>
 bif inI x60 (List.length x12) then
 residual_Decode_l12 F k1 n x0 x1 x10 (setL x12 x60 r16.1) x58 x59 (addI .i64 x60 1)
 else
 none
 else
 none
 else
 k1 x0 x1 x10 x12
def residual_Decode_j12(F:Nat){R:Type}(kn:qL→Int→Int→qL→Option R)(x0:qL)(x1:Int)(x10:Int)(x12:qL)(x58:qL)(x59:Int)(x60:Int):Option R :=
 residual_Decode_l12 F (fun z19 z20 z21 z22 =>
 kn z19 z20 z21 z22) F x0 x1 x10 x12 x58 x59 x60
def residual_Decode(F:Nat)(x0:qL)(x1:Int)(x2:Int):Option (qL×Int×Int×Unit) :=
 bif ltI x1 0 then
 residual_Decode_j2 F (fun z6 z7 z8 =>
 (numbers_Decode F z6 (addI .i64 z7 1) z8).bind fun r10 =>
 bif not (eqI r10.2.2.1 0) then
 some ([],(0,(r10.2.2.1,())))
 else
 bif makeB z8 z8 8 then
 residual_Decode_j12 F (fun z23 z24 z25 z26 =>
 bif inI z24 (List.length z23) then
 (residual_repeats F z26 (IntKind.wrap .i64 (getL 0 z23 z24))).bind fun r29 =>
 (residual_Encode F r29.1).bind fun r30 =>
 bif not (eqI r30.2.1 0) then
 some ([],(0,(5,())))
 else
 bif cutB z24 z25 (List.length z23) then
 (slices_Equal_byte F r30.1 (dropL (takeL z23 z25) z24)).bind fun r33 =>
 bif not r33.1 then
 some ([],(0,(5,())))
 else
 some (r29.1,(z25,(0,())))
 else
 none
 else
 none) z6 z7 r10.2.1 (replI z8 (0:Int)) r10.1 (lenI r10.1) 0
 else
 none) (fun z35 z36 z37 =>
 some (z35,(z36,(z37,())))) x0 x1 x2 true
 else
 bif ltI (lenI x0) x1 then
 residual_Decode_j2 F (fun z40 z41 z42 =>
 (numbers_Decode F z40 (addI .i64 z41 1) z42).bind fun r44 =>
 bif not (eqI r44.2.2.1 0) then
 some ([],(0,(r44.2.2.1,())))
 else
 bif makeB z42 z42 8 then
 residual_Decode_j12 F (fun z48 z49 z50 z51 =>
 bif inI z49 (List.length z48) then
 (residual_repeats F z51 (IntKind.wrap .i64 (getL 0 z48 z49))).bind fun r54 =>
 (residual_Encode F r54.1).bind fun r55 =>
 bif not (eqI r55.2.1 0) then
 some ([],(0,(5,())))
 else
 bif cutB z49 z50 (List.length z48) then
 (slices_Equal_byte F r55.1 (dropL (takeL z48 z50) z49)).bind fun r58 =>
 bif not r58.1 then
 some ([],(0,(5,())))
 else
 some (r54.1,(z50,(0,())))
 else
 none
 else
 none) z40 z41 r44.2.1 (replI z42 (0:Int)) r44.1 (lenI r44.1) 0
 else
 none) (fun z60 z61 z62 =>
 some (z60,(z61,(z62,())))) x0 x1 x2 true
 else
 bif ltI x2 0 then
 residual_Decode_j2 F (fun z64 z65 z66 =>
 (numbers_Decode F z64 (addI .i64 z65 1) z66).bind fun r68 =>
 bif not (eqI r68.2.2.1 0) then
 some ([],(0,(r68.2.2.1,())))
 else
 bif makeB z66 z66 8 then
 residual_Decode_j12 F (fun z72 z73 z74 z75 =>
 bif inI z73 (List.length z72) then
 (residual_repeats F z75 (IntKind.wrap .i64 (getL 0 z72 z73))).bind fun r78 =>
 (residual_Encode F r78.1).bind fun r79 =>
 bif not (eqI r79.2.1 0) then
 some ([],(0,(5,())))
 else
 bif cutB z73 z74 (List.length z72) then
 (slices_Equal_byte F r79.1 (dropL (takeL z72 z74) z73)).bind fun r82 =>
 bif not r82.1 then
 some ([],(0,(5,())))
 else
 some (r78.1,(z74,(0,())))
 else
 none
 else
 none) z64 z65 r68.2.1 (replI z66 (0:Int)) r68.1 (lenI r68.1) 0
 else
 none) (fun z84 z85 z86 =>
 some (z84,(z85,(z86,())))) x0 x1 x2 true
 else
 residual_Decode_j2 F (fun z88 z89 z90 =>
 (numbers_Decode F z88 (addI .i64 z89 1) z90).bind fun r92 =>
 bif not (eqI r92.2.2.1 0) then
 some ([],(0,(r92.2.2.1,())))
 else
 bif makeB z90 z90 8 then
 residual_Decode_j12 F (fun z96 z97 z98 z99 =>
 bif inI z97 (List.length z96) then
 (residual_repeats F z99 (IntKind.wrap .i64 (getL 0 z96 z97))).bind fun r102 =>
 (residual_Encode F r102.1).bind fun r103 =>
 bif not (eqI r103.2.1 0) then
 some ([],(0,(5,())))
 else
 bif cutB z97 z98 (List.length z96) then
 (slices_Equal_byte F r103.1 (dropL (takeL z96 z98) z97)).bind fun r106 =>
 bif not r106.1 then
 some ([],(0,(5,())))
 else
 some (r102.1,(z98,(0,())))
 else
 none
 else
 none) z88 z89 r92.2.1 (replI z90 (0:Int)) r92.1 (lenI r92.1) 0
 else
 none) (fun z108 z109 z110 =>
 some (z108,(z109,(z110,())))) x0 x1 x2 (ltI 65536 x2)
def varint_ReadWide_l9(F:Nat){R:Type}(k2:Int→qW→qL→qL→Int→Option R):Nat→Int→qW→qL→qL→Int→Int→Option R
 | 0,_,_,_,_,_,_=>none
 | n+1,x1,x4,x7,x9,x10,x11 =>
 bif ltI 0 x11 then
 bif inI x11 5 then
 bif inI (subI .i64 x11 1) 5 then
 bif inI x11 5 then
 varint_ReadWide_l9 F k2 n x1 x4 x7 (setL x9 x11 (orI .u64 (shlI .u64 (getL 0 x9 x11) 7) (shrI .u64 (getL 0 x9 (subI .i64 x11 1)) 57))) x10 (subI .i64 x11 1)
 else
 none
 else
 none
 else
 none
 else
 k2 x1 x4 x7 x9 x10
def varint_ReadWide_l6(F:Nat){R:Type}(k0:Int→qW→qL→qL→Option R):Nat→Int→qW→qL→qL→Int→Option R
 | 0,_,_,_,_,_=>none
 | n+1,x1,x4,x7,x9,x10 =>
 bif leI 0 x10 then
 varint_ReadWide_l9 F (fun z15 z16 z17 z18 z19 =>
 bif inI z19 (List.length z17) then
 varint_ReadWide_l6 F k0 n z15 z16 z17 (setL z18 0 (orI .u64 (shlI .u64 (getL 0 z18 0) 7) (IntKind.wrap .u64 (remI (getL 0 z17 z19) 128)))) (subI .i64 z19 1)
 else
 none) F x1 x4 x7 x9 x10 4
 else
 k0 x1 x4 x7 x9
def varint_ReadWide_l15(F:Nat){R:Type}(k4:Int→qW→qL→qL→qW→Option R):Nat→Int→qW→qL→qL→qW→Int→Option R
 | 0,_,_,_,_,_,_=>none
 | n+1,x1,x4,x7,x9,x12,x63 =>
 bif ltI x63 4 then
 bif inI x63 5 then
 bif inI (addI .i64 x63 1) 5 then
 bif inI x63 4 then
 varint_ReadWide_l15 F k4 n x1 x4 x7 x9 (x12.1,(setL x12.2.1 x63 (orI .u64 (shrI .u64 (getL 0 x9 x63) 1) (shlI .u64 (getL 0 x9 (addI .i64 x63 1)) 63)),x12.2.2)) (addI .i64 x63 1)
 else
 none
 else
 none
 else
 none
 else
 k4 x1 x4 x7 x9 x12
def varint_ReadWide(F:Nat)(x0:qL)(x1:Int):Option (qW×Int×Int×Unit) :=
 (varint_groups F x0 x1 37).bind fun r1 =>
 bif not (eqI r1.2.1 0) then
 some ((false,([0,0,0,0],())),(0,(r1.2.1,())))
 else
 varint_ReadWide_l6 F (fun z28 z29 z30 z31 =>
 varint_ReadWide_l15 F (fun z43 z44 z45 z46 z47 =>
 bif ltI 1 (getL 0 z46 4) then
 some ((false,([0,0,0,0],())),(0,(5,())))
 else
 (wide_Valid F z47).bind fun r50 =>
 bif not r50.1 then
 some ((false,([0,0,0,0],())),(0,(5,())))
 else
 some (z47,(addI .i64 z43 (lenI z45),(0,())))) F z28 z29 z30 z31 (eqI (remI (getL 0 z31 0) 2) 1,([0,0,0,0],())) 0) F x1 (false,([0,0,0,0],())) r1.1 [0,0,0,0,0] (subI .i64 (lenI r1.1) 1)
def records_Slope_l3(F:Nat){R:Type}(k0:Int→qR→(List qW)→Option R)(kret:qR→Int→Int→Option R):Nat→qL→Int→qR→(List qW)→Int→Option R
 | 0,_,_,_,_,_=>none
 | n+1,x0,x1,x4,x7,x13 =>
 bif ltI x13 2 then
 (varint_ReadWide F x0 x1).bind fun r2 =>
 bif not (eqI r2.2.2.1 0) then
 kret ((false,([0,0,0,0],())),((false,([0,0,0,0],())),())) 0 r2.2.2.1
 else
 bif inI x13 2 then
 records_Slope_l3 F k0 kret n x0 r2.2.1 x4 (setL x7 x13 r2.1) (addI .i64 x13 1)
 else
 none
 else
 k0 x1 x4 x7
def records_Slope(F:Nat)(x0:qL)(x1:Int):Option (qR×Int×Int×Unit) :=
 records_Slope_l3 F (fun z6 z7 z8 =>
 let x33v9:=getL (false,([0,0,0,0],())) z8 0
 let x35v10:=getL (false,([0,0,0,0],())) z8 1
 (wide_Sign F x35v10).bind fun r11 =>
 bif leI r11.1 0 then
 some (((false,([0,0,0,0],())),((false,([0,0,0,0],())),())),(0,(5,())))
 else
 (ratio_Valid F (x33v9,(x35v10,()))).bind fun r13 =>
 bif not r13.1 then
 some (((false,([0,0,0,0],())),((false,([0,0,0,0],())),())),(0,(5,())))
 else
 some ((x33v9,(x35v10,())),(z6,(0,())))) (fun z15 z16 z17 =>
 some (z15,(z16,(z17,())))) F x0 x1 ((false,([0,0,0,0],())),((false,([0,0,0,0],())),())) [(false,([0,0,0,0],())),(false,([0,0,0,0],()))] 0
def simpiece_groups_l6(F:Nat){R:Type}(k0:Int→(List qGN)→Option R)(kret:(List qGN)→Int→Int→Option R):Nat→qL→Int→(List qGN)→qL→Int→Int→Option R
 | 0,_,_,_,_,_,_=>none
 | n+1,x0,x1,x11,x30,x31,x32 =>
 bif ltI x32 x31 then
 bif inI x32 (List.length x30) then
 (records_Slope F x0 x1).bind fun r7 =>
 bif not (eqI r7.2.2.1 0) then
 kret [] 0 r7.2.2.1
 else
 bif inI x32 (List.length x11) then
 simpiece_groups_l6 F k0 kret n x0 r7.2.1 (setL x11 x32 (getL 0 x30 x32,(r7.1,((),())))) x30 x31 (addI .i64 x32 1)
 else
 none
 else
 none
 else
 k0 x1 x11
def simpiece_groups(F:Nat)(x0:qL)(x1:Int)(x2:Int):Option ((List qGN)×Int×Int×Unit) :=
 (residual_Decode F x0 x1 x2).bind fun r1 =>
 bif not (eqI r1.2.2.1 0) then
 some ([],(0,(r1.2.2.1,())))
 else
 bif makeB x2 x2 112 then
 simpiece_groups_l6 F (fun z11 z12 =>
 some (z12,(z11,(0,())))) (fun z13 z14 z15 =>
 some (z13,(z14,(z15,())))) F x0 r1.2.1 (replI x2 ((0,(((false,([0,0,0,0],())),((false,([0,0,0,0],())),())),((),()))):qGN)) r1.1 (lenI r1.1) 0
 else
 none
def records_Counts_l7(F:Nat){R:Type}(k0:Int→qL→Int→Option R):Nat→Int→Int→qL→Int→qL→Int→Int→Option R
 | 0,_,_,_,_,_,_,_=>none
 | n+1,x3,x13,x15,x16,x32,x33,x34 =>
 bif ltI x34 x33 then
 bif inI x34 (List.length x32) then
 bif inI x34 (List.length x15) then
 bif inI x34 (List.length (setL x15 x34 (addI .i64 (IntKind.wrap .i64 (minI (getL 0 x32 x34) (IntKind.wrap .u64 x3))) 1))) then
 records_Counts_l7 F k0 n x3 x13 (setL x15 x34 (addI .i64 (IntKind.wrap .i64 (minI (getL 0 x32 x34) (IntKind.wrap .u64 x3))) 1)) (minI (addI .i64 x16 (getL 0 (setL x15 x34 (addI .i64 (IntKind.wrap .i64 (minI (getL 0 x32 x34) (IntKind.wrap .u64 x3))) 1)) x34)) (addI .i64 x3 1)) x32 x33 (addI .i64 x34 1)
 else
 none
 else
 none
 else
 none
 else
 k0 x13 x15 x16
def records_Counts(F:Nat)(x0:qL)(x1:Int)(x2:Int)(x3:Int):Option (qL×Int×Int×Int×Unit) :=
 (numbers_Decode F x0 x1 x2).bind fun r1 =>
 bif not (eqI r1.2.2.1 0) then
 some ([],(0,(0,(r1.2.2.1,()))))
 else
 bif makeB x2 x2 8 then
 records_Counts_l7 F (fun z17 z18 z19 =>
 some (z18,(z19,(z17,(0,()))))) F x3 r1.2.1 (replI x2 (0:Int)) 0 r1.1 (lenI r1.1) 0
 else
 none
def simpiece_share_in(F:Nat)(ok:Bool)(total size:Int):Nat→Int→Int→List Int→List Int→Option (Bool×List Int×List Int)
 | 0,_,_,_,_=>none
 | n+1,j,next,steps,xs =>
 bif ltI j size then
 bif inI 0 (List.length steps) then
 bif leI (IntKind.wrap .u64 (subI .i64 total next)) (getL 0 steps 0) then
 some (false,steps,xs)
 else
 bif ok then
 bif roomB (List.length xs+1) 8 then
 bif cutB 1 (lenI steps) (List.length steps) then
 simpiece_share_in F ok total size n (addI .i64 j 1) (addI .i64 (addI .i64 next (IntKind.wrap .i64 (getL 0 steps 0))) 1) (dropL steps 1) (xs++[addI .i64 next (IntKind.wrap .i64 (getL 0 steps 0))])
 else none
 else none
 else none
 else none
 else
 some (true,steps,xs)
def simpiece_share_out(F:Nat)(m:Nat)(total:Int)(sizes:List Int)(top:Int):Nat→Int→List Int→List qL→Option (Bool×List qL)
 | 0,_,_,_=>none
 | n+1,i,steps,D =>
 bif ltI i top then
 bif inI i (List.length sizes) then
 (simpiece_share_in F (inI i m) total (getL 0 sizes i) F 0 0 steps []).bind fun r =>
 bif r.1 then(bif eqI (addI .i64 i 1) (lenI D+1) then simpiece_share_out F m total sizes top n (addI .i64 i 1) r.2.1 (D++[r.2.2]) else none) else some (false,D++[r.2.2])
 else none
 else
 some (true,D)
def simpiece_share_l2(F:Nat){R:Type}{A:Type}(k0:List (Int×(A×(List Int×Unit)))→Option R)(kret:List (Int×(A×(List Int×Unit)))→Bool→Option R)(n:Nat)(x0:List (Int×(A×(Unit×Unit))))(x2:List Int)(x3:Int)(x12:List Int)(x13 x14:Int):Option R :=
 bif eqI x14 0 then
 (simpiece_share_out F (List.length x0) x3 x12 x13 n 0 x2 []).bind fun r=>bif r.1 then k0 (fillG x0 r.2) else kret (fillG x0 r.2) false
 else none
def simpiece_share(F:Nat)(x0:(List qGN))(x1:qL)(x2:qL)(x3:Int):Option ((List qG)×Bool×Unit) :=
 simpiece_share_l2 F (fun z2 =>
 some (z2,(true,()))) (fun z3 z4 =>
 some (z3,(z4,()))) F x0 x2 x3 x1 (lenI x1) 0
def simpiece_Decode_1(F:Nat)(x0:qG):Option (Bool×Unit) :=
 bif inI 0 (List.length x0.2.2.1) then
 some (eqI (getL 0 x0.2.2.1 0) 0,())
 else
 none
def slices_IndexFunc_apiGroup_l2(F:Nat){R:Type}(k0:Option R)(kret:Int→Option R):Nat→(List qG)→Int→Int→Option R
 | 0,_,_,_=>none
 | n+1,x0,x7,x8 =>
 bif ltI x8 x7 then
 bif inI x8 (List.length x0) then
 (simpiece_Decode_1 F (getL (0,(((false,([0,0,0,0],())),((false,([0,0,0,0],())),())),([],()))) x0 x8)).bind fun r4 =>
 bif r4.1 then
 kret x8
 else
 slices_IndexFunc_apiGroup_l2 F k0 kret n x0 x7 (addI .i64 x8 1)
 else
 none
 else
 k0
def slices_IndexFunc_apiGroup(F:Nat)(x0:(List qG)):Option (Int×Unit) :=
 slices_IndexFunc_apiGroup_l2 F (
 some ((-1),())) (fun z6 =>
 some (z6,())) F x0 (lenI x0) 0
def slices_ContainsFunc_apiGroup(F:Nat)(x0:(List qG)):Option (Bool×Unit) :=
 (slices_IndexFunc_apiGroup F x0).bind fun r1 =>
 some (leI 0 r1.1,())
def simpiece_Decode(F:Nat)(x0:qL)(x1:Int)(x2:Int):Option ((List qG)×Int×Int×Unit) :=
 (records_Placed F x0 x1 x2).bind fun r1 =>
 bif not r1.1 then
 some ([],(0,(2,())))
 else
 (records_Number F x0 x1 x2).bind fun r3 =>
 bif not (eqI r3.2.2.1 0) then
 some ([],(0,(r3.2.2.1,())))
 else
 (simpiece_groups F x0 r3.2.1 r3.1).bind fun r5 =>
 bif not (eqI r5.2.2.1 0) then
 some ([],(0,(r5.2.2.1,())))
 else
 (records_Counts F x0 r5.2.1 r3.1 x2).bind fun r7 =>
 bif not (eqI r7.2.2.2.1 0) then
 some ([],(0,(r7.2.2.2.1,())))
 else
 bif ltI x2 r7.2.1 then
 some ([],(0,(10,())))
 else
 (numbers_Decode F x0 r7.2.2.1 r7.2.1).bind fun r10 =>
 bif not (eqI r10.2.2.1 0) then
 some ([],(0,(r10.2.2.1,())))
 else
 (simpiece_share F r5.1 r7.1 r10.1 x2).bind fun r12 =>
 bif not r12.2.1 then
 some ([],(0,(10,())))
 else
 (simpiece_Valid F r12.1).bind fun r14 =>
 bif not (eqI r14.1 0) then
 some ([],(0,(5,())))
 else
 bif ltI 0 x2 then
 (slices_ContainsFunc_apiGroup F r12.1).bind fun r17 =>
 bif not r17.1 then
 some ([],(0,(10,())))
 else
 some (r12.1,(r10.2.1,(0,())))
 else
 some (r12.1,(r10.2.1,(0,())))
def ref06_Same_l4(F:Nat){R:Type}(k0:Option R)(kret:Bool→Option R):Nat→qL→qL→Int→Option R
 | 0,_,_,_=>none
 | n+1,x0,x1,x5 =>
 bif ltI x5 (lenI x0) then
 bif inI x5 (List.length x0) then
 bif inI x5 (List.length x1) then
 bif not (eqI (getL 0 x0 x5) (getL 0 x1 x5)) then
 kret false
 else
 ref06_Same_l4 F k0 kret n x0 x1 (addI .i64 x5 1)
 else
 none
 else
 none
 else
 k0
def ref06_Same(F:Nat)(x0:qL)(x1:qL):Option (Bool×Unit) :=
 bif not (eqI (lenI x0) (lenI x1)) then
 some (false,())
 else
 ref06_Same_l4 F (
 some (true,())) (fun z10 =>
 some (z10,())) F x0 x1 0
def law22_known(F:Nat) :Option (Bool×Unit) :=
 (ref03_Of F 2).bind fun r1 =>
 (ref03_Of F 4).bind fun r2 =>
 (simpiece_Encode F [(0,(r1.1,([0,5],()))),(0,(r2.1,([9],())))]).bind fun r3 =>
 (simpiece_Decode F r3.1 0 10).bind fun r4 =>
 bif eqI r3.2.1 0 then
 bif eqI r4.2.2.1 0 then
 bif eqI r4.2.1 (lenI r3.1) then
 (ref06_Same F r3.1 [2,0,1,0,4,2,8,2,0,1,0,0,0,4,9]).bind fun r9 =>
 bif r9.1 then
 bif eqI (lenI r4.1) 2 then
 bif inI 0 (List.length r4.1) then
 some (eqI (lenI (getL (0,(((false,([0,0,0,0],())),((false,([0,0,0,0],())),())),([],()))) r4.1 0).2.2.1) 2,())
 else
 none
 else
 some (false,())
 else
 some (false,())
 else
 some (false,())
 else
 some (false,())
 else
 some (false,())
def ref21_Same_l9(F:Nat){R:Type}(k2:(List qG)→(List qG)→Int→Option R)(kret:Bool→Option R):Nat→(List qG)→(List qG)→Int→Int→Option R
 | 0,_,_,_,_=>none
 | n+1,x0,x1,x5,x6 =>
 bif inI x5 (List.length x0) then
 bif ltI x6 (lenI (getL (0,(((false,([0,0,0,0],())),((false,([0,0,0,0],())),())),([],()))) x0 x5).2.2.1) then
 bif inI x5 (List.length x0) then
 let x71v20:=(getL (0,(((false,([0,0,0,0],())),((false,([0,0,0,0],())),())),([],()))) x0 x5).2.2.1
 bif inI x6 (List.length x71v20) then
 bif inI x5 (List.length x1) then
 let x79v22:=(getL (0,(((false,([0,0,0,0],())),((false,([0,0,0,0],())),())),([],()))) x1 x5).2.2.1
 bif inI x6 (List.length x79v22) then
 bif not (eqI (getL 0 x71v20 x6) (getL 0 x79v22 x6)) then
 kret false
 else
 ref21_Same_l9 F k2 kret n x0 x1 x5 (addI .i64 x6 1)
 else
 none
 else
 none
 else
 none
 else
 none
 else
 k2 x0 x1 x5
 else
 none
def ref21_Same_l4(F:Nat){R:Type}(k0:Option R)(kret:Bool→Option R):Nat→(List qG)→(List qG)→Int→Option R
 | 0,_,_,_=>none
 | n+1,x0,x1,x5 =>
 bif ltI x5 (lenI x0) then
 bif inI x5 (List.length x0) then
 bif inI x5 (List.length x1) then
 bif not (eqI (getL (0,(((false,([0,0,0,0],())),((false,([0,0,0,0],())),())),([],()))) x0 x5).1 (getL (0,(((false,([0,0,0,0],())),((false,([0,0,0,0],())),())),([],()))) x1 x5).1) then
 kret false
 else
 bif inI x5 (List.length x0) then
 bif inI x5 (List.length x1) then
 bif not (eqT (.pair (.pair .bool (.pair (.arr 4 (.int .u64)) .unit)) (.pair (.pair .bool (.pair (.arr 4 (.int .u64)) .unit)) .unit)) (getL (0,(((false,([0,0,0,0],())),((false,([0,0,0,0],())),())),([],()))) x0 x5).2.1 (getL (0,(((false,([0,0,0,0],())),((false,([0,0,0,0],())),())),([],()))) x1 x5).2.1) then
 kret false
 else
 bif inI x5 (List.length x0) then
 bif inI x5 (List.length x1) then
 bif not (eqI (lenI (getL (0,(((false,([0,0,0,0],())),((false,([0,0,0,0],())),())),([],()))) x0 x5).2.2.1) (lenI (getL (0,(((false,([0,0,0,0],())),((false,([0,0,0,0],())),())),([],()))) x1 x5).2.2.1)) then
 kret false
 else
 ref21_Same_l9 F (fun z26 z27 z28 =>
 ref21_Same_l4 F k0 kret n z26 z27 (addI .i64 z28 1)) (fun z30 =>
 kret z30) F x0 x1 x5 0
 else
 none
 else
 none
 else
 none
 else
 none
 else
 none
 else
 none
 else
 k0
def ref21_Same(F:Nat)(x0:(List qG))(x1:(List qG)):Option (Bool×Unit) :=
 bif not (eqI (lenI x0) (lenI x1)) then
 some (false,())
 else
 ref21_Same_l4 F (
 some (true,())) (fun z31 =>
 some (z31,())) F x0 x1 0
def law22_SimpieceBack(F:Nat)(x0:qL)(x1:qL)(x2:qL):Option (Bool×Unit) :=
 (made_New F x0).bind fun r1 =>
 (law22_list F r1.1).bind fun r2 =>
 (simpiece_Encode F r2.2.1).bind fun r3 =>
 bif roomB (0+(List.length x1)) 1 then
 bif roomB ((List.length ([]++x1))+(List.length r3.1)) 1 then
 bif roomB ((List.length (([]++x1)++r3.1))+(List.length x2)) 1 then
 (simpiece_Decode F ((([]++x1)++r3.1)++x2) (lenI x1) r2.2.2.1).bind fun r8 =>
 (law22_known F).bind fun r9 =>
 bif r9.1 then
 bif eqI r3.2.1 0 then
 bif eqI r8.2.2.1 0 then
 bif eqI r8.2.1 (addI .i64 (lenI x1) (lenI r3.1)) then
 (ref21_Same F r2.2.1 r8.1).bind fun r16 =>
 some (r16.1,())
 else
 some (false,())
 else
 some (false,())
 else
 some (false,())
 else
 some (false,())
 else
 none
 else
 none
 else
 none
end Go.Proofs.YtdhfajmcakneiaaGreat
