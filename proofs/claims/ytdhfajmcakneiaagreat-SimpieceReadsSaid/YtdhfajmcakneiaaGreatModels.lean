/- The plain models of the functions. Written by program. -/
import Derived.Test.YtdhfajmcakneiaaGreatEngD
set_option linter.unusedVariables false
set_option linter.unusedSimpArgs false
namespace Go.Proofs.YtdhfajmcakneiaaGreat
open Go.Eng
theorem iP.{u}{c:Prop}{h:Decidable c}(hc:c){α:Sort u}{t e:α}:@ite α c h t e=t:=if_pos hc
theorem iN.{u}{c:Prop}{h:Decidable c}(hc:¬c){α:Sort u}{t e:α}:@ite α c h t e=e:=if_neg hc
theorem cT.{u}{α:Sort u}{a b:α}:cond true a b=a:=rfl
theorem cF.{u}{α:Sort u}{a b:α}:cond false a b=b:=rfl
theorem bS.{u,v}{α:Type u}{β:Type v}(a:α)(f:α→Option β):(some a).bind f=f a:=rfl
abbrev qL:=List Int
abbrev qW:=(Bool×((List Int)×Unit))
abbrev qR:=((Bool×((List Int)×Unit))×((Bool×((List Int)×Unit))×Unit))
abbrev qG:=(Int×(((Bool×((List Int)×Unit))×((Bool×((List Int)×Unit))×Unit))×((List Int)×Unit)))
abbrev qGN:=(Int×(((Bool×((List Int)×Unit))×((Bool×((List Int)×Unit))×Unit))×(Unit×Unit)))
abbrev qCO:=(Bool×(((Bool×((List Int)×Unit))×((Bool×((List Int)×Unit))×Unit))×(((Bool×((List Int)×Unit))×((Bool×((List Int)×Unit))×Unit))×Unit)))
abbrev qPI:=(Int×(Int×(Int×((Bool×(((Bool×((List Int)×Unit))×((Bool×((List Int)×Unit))×Unit))×(((Bool×((List Int)×Unit))×((Bool×((List Int)×Unit))×Unit))×Unit)))×Unit))))
abbrev qSM:=(Int×(Int×Unit))
abbrev qPS:=(Int×(Int×(Int×((Int×(Int×Unit))×(Int×(Int×((Bool×(((Bool×((List Int)×Unit))×((Bool×((List Int)×Unit))×Unit))×(((Bool×((List Int)×Unit))×((Bool×((List Int)×Unit))×Unit))×Unit)))×Unit)))))))
abbrev qTP:=((List Int)×(Int×Unit))
def Ib(F:Nat)(x0:qL)(x1:Int):Option (qL×Unit):=Ku 1 x0 x1
def Aeu(F:Nat)(x0:qL):Option (qTP×Unit) :=
 some ((x0,(0,())),())
def Sr(F:Nat)(x0:Int)(x1:Int):Option (Int×Unit) :=
 bif ltI x1 1 then
 some (0,())
 else
 bif eqI x1 0 then
 none
 else
 bif ltI (I9 x0 x1) 0 then
 some (Av .i64 (I9 x0 x1) x1,())
 else
 some (I9 x0 x1,())
def Ap(F:Nat)(x0:qTP)(x1:Int):Option (qTP×Int×Unit) :=
 bif leI (Az x0.1) x0.2.1 then
 some (x0,(0,()))
 else
 let x19v3:=Av .i64 x0.2.1 1
 bif inI (Bj .i64 x19v3 1) (List.length x0.1) then
 (Sr F (An 0 x0.1 (Bj .i64 x19v3 1)) x1).bind fun r6 =>
 some ((x0.1,(x19v3,x0.2.2)),(r6.1,()))
 else
 none
def Fo(F:Nat){R:Type}(k0:qTP→Int→Option R):Nat→qTP→Int→Int→Option R
 | 0,_,_,_=>none
 | n+1,x0,x3,x4 =>
 bif ltI x4 4 then
 (Ap F x0 65536).bind fun r3 =>
 Fo F k0 n r3.1 (Av .u64 (Hv .u64 x3 16) (IntKind.wrap .u64 r3.2.1)) (Av .i64 x4 1)
 else
 k0 x0 x3
def Gw(F:Nat)(x0:qTP):Option (qTP×Int×Unit) :=
 Fo F (fun z7 z8 =>
 some (z7,(z8,()))) F x0 0 0
def Gb(F:Nat)(x0:qTP):Option (qTP×Int×Unit) :=
 (Ap F x0 8).bind fun r1 =>
 bif eqI r1.2.1 0 then
 (Gw F r1.1).bind fun r3 =>
 some (r3.1,(IntKind.wrap .i64 r3.2.1,()))
 else
 bif eqI r1.2.1 1 then
 (Ap F r1.1 4).bind fun r6 =>
 some (r6.1,(Bj .i64 9223372036854775807 r6.2.1,()))
 else
 bif eqI r1.2.1 2 then
 (Ap F r1.1 4).bind fun r9 =>
 some (r9.1,(Av .i64 (-9223372036854775808) r9.2.1,()))
 else
 bif eqI r1.2.1 3 then
 (Gw F r1.1).bind fun r12 =>
 (Ap F r12.1 64).bind fun r13 =>
 let x26v14:=IntKind.wrap .u64 r13.2.1
 bif ltI x26v14 0 then
 none
 else
 some (r13.1,(IntKind.wrap .i64 (Fg .u64 r12.2.1 x26v14),()))
 else
 (Ap F r1.1 2000).bind fun r17 =>
 some (r17.1,(Bj .i64 r17.2.1 1000,()))
def Kf(F:Nat)(x0:qTP)(x1:Int):Option (qTP×Bool×Unit) :=
 (Ap F x0 x1).bind fun r1 =>
 bif eqI x1 0 then
 none
 else
 some (r1.1,(eqI r1.2.1 (I9 1 x1),()))
def B1(F:Nat){R:Type}(kn:qTP→qL→Int→Int→Int→Int→Option R)(kret:qTP→qL→Option R)(x0:qTP)(x5:qL)(x6:Int)(x7:Int)(x8:Int)(x9:Int)(x10:Int):Option R :=
 bif ltI (Bj .u64 9223372036854775807 (IntKind.wrap .u64 x7)) x10 then
 kret x0 x5
 else
 kn x0 x5 x6 (IntKind.wrap .i64 (Av .u64 (IntKind.wrap .u64 x7) x10)) x8 x9
def A6(F:Nat){R:Type}(k0:qTP→qL→Option R)(kret:qTP→qL→Option R):Nat→qTP→qL→Int→Int→Int→Int→Option R
 | 0,_,_,_,_,_,_=>none
 | n+1,x0,x5,x6,x7,x8,x9 =>
 bif ltI 0 x9 then
 bif Bf ((List.length x5)+1) 8 then
 bif eqI x6 1 then
 (Ap F x0 9).bind fun r11 =>
 B1 F (fun z20 z21 z22 z23 z24 z25 =>
 A6 F k0 kret n z20 z21 z22 z23 z24 (Bj .i64 z25 1)) (fun z27 z28 =>
 kret z27 z28) r11.1 (x5++[x7]) x6 x7 x8 x9 (IntKind.wrap .u64 (Av .i64 1 r11.2.1))
 else
 bif eqI x6 2 then
 (Ap F x0 3).bind fun r30 =>
 B1 F (fun z33 z34 z35 z36 z37 z38 =>
 A6 F k0 kret n z33 z34 z35 z36 z37 (Bj .i64 z38 1)) (fun z40 z41 =>
 kret z40 z41) r30.1 (x5++[x7]) x6 x7 x8 x9 (Av .u64 x8 (IntKind.wrap .u64 r30.2.1))
 else
 bif eqI x6 3 then
 (Gw F x0).bind fun r43 =>
 (Ap F r43.1 56).bind fun r44 =>
 let x52v45:=Av .i64 4 r44.2.1
 bif ltI (IntKind.wrap .u64 x52v45) 0 then
 none
 else
 B1 F (fun z49 z50 z51 z52 z53 z54 =>
 A6 F k0 kret n z49 z50 z51 z52 z53 (Bj .i64 z54 1)) (fun z56 z57 =>
 kret z56 z57) r44.1 (x5++[x7]) x6 x7 x8 x9 (Av .u64 1 (Fg .u64 r43.2.1 (IntKind.wrap .u64 x52v45)))
 else
 bif eqI x6 4 then
 (Kf F x0 4).bind fun r59 =>
 bif r59.2.1 then
 (Gw F r59.1).bind fun r60 =>
 (Ap F r60.1 8).bind fun r61 =>
 let x64v62:=Av .i64 1 r61.2.1
 bif ltI (IntKind.wrap .u64 x64v62) 0 then
 none
 else
 B1 F (fun z66 z67 z68 z69 z70 z71 =>
 A6 F k0 kret n z66 z67 z68 z69 z70 (Bj .i64 z71 1)) (fun z73 z74 =>
 kret z73 z74) r61.1 (x5++[x7]) x6 x7 x8 x9 (Av .u64 1 (Fg .u64 r60.2.1 (IntKind.wrap .u64 x64v62)))
 else
 B1 F (fun z75 z76 z77 z78 z79 z80 =>
 A6 F k0 kret n z75 z76 z77 z78 z79 (Bj .i64 z80 1)) (fun z82 z83 =>
 kret z82 z83) r59.1 (x5++[x7]) x6 x7 x8 x9 x8
 else
 B1 F (fun z84 z85 z86 z87 z88 z89 =>
 A6 F k0 kret n z84 z85 z86 z87 z88 (Bj .i64 z89 1)) (fun z91 z92 =>
 kret z91 z92) x0 (x5++[x7]) x6 x7 x8 x9 x8
 else
 none
 else
 k0 x0 x5
def Lk(F:Nat)(x0:qTP)(x1:Int):Option (qTP×qL×Unit) :=
 (Ap F x0 5).bind fun r1 =>
 (Gb F r1.1).bind fun r2 =>
 (Ap F r2.1 50).bind fun r3 =>
 (Ap F r3.1 (Av .i64 x1 1)).bind fun r7 =>
 A6 F (fun z93 z94 =>
 some (z93,(z94,()))) (fun z95 z96 =>
 some (z95,(z96,()))) F r7.1 [] r1.2.1 r2.2.1 (IntKind.wrap .u64 (Av .i64 1 r3.2.1)) r7.2.1
def Ay(F:Nat){R:Type}(k0:qTP→(List qSM)→Option R):Nat→qTP→qL→(List qSM)→Int→Int→Int→Int→Option R
 | 0,_,_,_,_,_,_,_=>none
 | n+1,x0,x5,x6,x7,x8,x9,x10 =>
 bif ltI x10 (Az x5) then
 bif eqI x7 1 then
 bif inI x10 (List.length x5) then
 bif Bf ((List.length x6)+1) 16 then
 Ay F k0 n x0 x5 (x6++[(An 0 x5 x10,(Av .i64 x8 (I6 .i64 x10 x9),()))]) x7 x8 x9 (Av .i64 x10 1)
 else
 none
 else
 none
 else
 bif eqI x7 2 then
 (Ap F x0 7).bind fun r17 =>
 bif inI x10 (List.length x5) then
 bif Bf ((List.length x6)+1) 16 then
 Ay F k0 n r17.1 x5 (x6++[(An 0 x5 x10,(Av .i64 (Av .i64 x8 (I6 .i64 x10 x9)) (Bj .i64 r17.2.1 3),()))]) x7 x8 x9 (Av .i64 x10 1)
 else
 none
 else
 none
 else
 bif eqI x7 3 then
 (Ap F x0 9).bind fun r24 =>
 bif inI x10 (List.length x5) then
 bif Bf ((List.length x6)+1) 16 then
 Ay F k0 n r24.1 x5 (x6++[(An 0 x5 x10,(Av .i64 x8 (Bj .i64 r24.2.1 4),()))]) x7 x8 x9 (Av .i64 x10 1)
 else
 none
 else
 none
 else
 bif eqI x7 4 then
 (Gb F x0).bind fun r31 =>
 bif inI x10 (List.length x5) then
 bif Bf ((List.length x6)+1) 16 then
 Ay F k0 n r31.1 x5 (x6++[(An 0 x5 x10,(r31.2.1,()))]) x7 x8 x9 (Av .i64 x10 1)
 else
 none
 else
 none
 else
 bif eqI x7 5 then
 (Kf F x0 5).bind fun r36 =>
 bif r36.2.1 then
 (Ap F r36.1 400).bind fun r37 =>
 let x66v38:=Bj .i64 r37.2.1 200
 (Ap F r37.1 3).bind fun r40 =>
 bif inI x10 (List.length x5) then
 bif Bf ((List.length x6)+1) 16 then
 Ay F k0 n r40.1 x5 (x6++[(An 0 x5 x10,(Av .i64 (Av .i64 x8 x66v38) r40.2.1,()))]) x7 (Av .i64 x8 x66v38) x9 (Av .i64 x10 1)
 else
 none
 else
 none
 else
 (Ap F r36.1 3).bind fun r45 =>
 bif inI x10 (List.length x5) then
 bif Bf ((List.length x6)+1) 16 then
 Ay F k0 n r45.1 x5 (x6++[(An 0 x5 x10,(Av .i64 x8 r45.2.1,()))]) x7 x8 x9 (Av .i64 x10 1)
 else
 none
 else
 none
 else
 bif eqI x7 6 then
 (Ap F x0 50).bind fun r51 =>
 (Ap F r51.1 50).bind fun r52 =>
 bif inI x10 (List.length x5) then
 bif Bf ((List.length x6)+1) 16 then
 Ay F k0 n r52.1 x5 (x6++[(An 0 x5 x10,(I6 .i64 (I6 .i64 r51.2.1 r52.2.1) x9,()))]) x7 x8 x9 (Av .i64 x10 1)
 else
 none
 else
 none
 else
 bif inI x10 (List.length x5) then
 bif Bf ((List.length x6)+1) 16 then
 Ay F k0 n x0 x5 (x6++[(An 0 x5 x10,(x8,()))]) x7 x8 x9 (Av .i64 x10 1)
 else
 none
 else
 none
 else
 k0 x0 x6
def Jw(F:Nat)(x0:qTP)(x1:Int):Option (qTP×(List qSM)×Unit) :=
 (Lk F x0 x1).bind fun r1 =>
 (Ap F r1.1 7).bind fun r2 =>
 (Gb F r2.1).bind fun r3 =>
 (Ap F r3.1 41).bind fun r4 =>
 Ay F (fun z61 z62 =>
 some (z61,(z62,()))) F r4.1 r1.2.1 [] r2.2.1 r3.2.1 (Bj .i64 r4.2.1 20) 0
def Nt(F:Nat)(x0:qTP)(x1:Int):Option (qTP×(List qSM)×Unit) :=
 (Jw F x0 x1).bind fun r1 =>
 bif eqI (Az r1.2.1) 0 then
 (Gb F r1.1).bind fun r4 =>
 (Gb F r4.1).bind fun r5 =>
 some (r5.1,([(r4.2.1,(r5.2.1,()))],()))
 else
 some (r1.1,(r1.2.1,()))
def Hx(F:Nat)(x0:qTP):Option (qTP×Int×Unit) :=
 (Ap F x0 8).bind fun r1 =>
 bif eqI r1.2.1 0 then
 some (r1.1,(0,()))
 else
 bif eqI r1.2.1 1 then
 (Ap F r1.1 2).bind fun r4 =>
 some (r4.1,(Bj .i64 4611686018427387904 r4.2.1,()))
 else
 bif eqI r1.2.1 2 then
 (Gw F r1.1).bind fun r7 =>
 (Ap F r7.1 60).bind fun r8 =>
 let x18v9:=Av .i64 2 r8.2.1
 bif ltI (IntKind.wrap .u64 x18v9) 0 then
 none
 else
 some (r8.1,(IntKind.wrap .i64 (Fg .u64 r7.2.1 (IntKind.wrap .u64 x18v9)),()))
 else
 (Ap F r1.1 30).bind fun r13 =>
 some (r13.1,(r13.2.1,()))
def He(F:Nat)(x0:Int):Option (Bool×Unit) :=
 bif leI 0 x0 then
 some (leI x0 4611686018427387904,())
 else
 some (false,())
def Ss(F:Nat)(x0:Int):Option (qPS×Int×Unit) :=
 (He F x0).bind fun r1 =>
 bif not r1.1 then
 some ((0,(0,(0,((0,(0,())),(0,(0,((false,(((false,([0,0,0,0],())),((false,([0,0,0,0],())),())),(((false,([0,0,0,0],())),((false,([0,0,0,0],())),())),()))),()))))))),(9,()))
 else
 some ((x0,(0,(0,((0,(0,())),(0,(0,((false,(((false,([0,0,0,0],())),((false,([0,0,0,0],())),())),(((false,([0,0,0,0],())),((false,([0,0,0,0],())),())),()))),()))))))),(0,()))
def Ik(F:Nat){R:Type}(k0:qL→Option R):Nat→(List qSM)→qL→Int→Option R
 | 0,_,_,_=>none
 | n+1,x0,x3,x4 =>
 bif ltI x4 (Az x0) then
 bif inI x4 (List.length x0) then
 bif Bf ((List.length x3)+1) 8 then
 Ik F k0 n x0 (x3++[(An (0,(0,())) x0 x4).1]) (Av .i64 x4 1)
 else
 none
 else
 none
 else
 k0 x3
def Su(F:Nat)(x0:(List qSM)):Option (qL×Unit) :=
 Ik F (fun z6 =>
 some (z6,())) F x0 [] 0
def Dc(F:Nat){R:Type}(k0:Option R)(kret:Bool→Option R):Nat→qL→Int→Option R
 | 0,_,_=>none
 | n+1,x0,x3 =>
 bif ltI x3 (Az x0) then
 bif inI x3 (List.length x0) then
 bif inI (Bj .i64 x3 1) (List.length x0) then
 bif leI (An 0 x0 x3) (An 0 x0 (Bj .i64 x3 1)) then
 kret false
 else
 Dc F k0 kret n x0 (Av .i64 x3 1)
 else
 none
 else
 none
 else
 k0
def Ko(F:Nat)(x0:qL):Option (Bool×Unit) :=
 Dc F (
 some (true,())) (fun z8 =>
 some (z8,())) F x0 1
def Sw(F:Nat)(x0:(List qSM)):Option (Int×Unit) :=
 (Su F x0).bind fun r1 =>
 (Ko F r1.1).bind fun r2 =>
 bif not r2.1 then
 some (7,())
 else
 some (0,())
def Ux(F:Nat)(x0:Int):Option (Int×Unit) :=
 some (Aun x0 1,())
def Hf(F:Nat){R:Type}(kret:Int→Bool→Option R)(x0:Int)(x1:Int):Option R :=
 bif eqI x1 0 then
 none
 else
 bif eqI x1 0 then
 none
 else
 bif not (eqI (I9 x0 x1) 0) then
 bif not (eqT .bool (ltI x0 0) (ltI x1 0)) then
 kret (Bj .i64 (Ht .i64 x0 x1) 1) true
 else
 kret (Ht .i64 x0 x1) true
 else
 kret (Ht .i64 x0 x1) true
def Qt(F:Nat)(x0:Int)(x1:Int):Option (Int×Bool×Unit) :=
 bif eqI x1 0 then
 some (0,(false,()))
 else
 bif eqI x0 (-9223372036854775808) then
 bif eqI x1 (-1) then
 some (0,(false,()))
 else
 Hf F (fun z11 z12 =>
 some (z11,(z12,()))) x0 x1
 else
 Hf F (fun z13 z14 =>
 some (z13,(z14,()))) x0 x1
def Q3(F:Nat)(x0:Int)(x1:Int):Option (Int×Unit) :=
 (Ux F x1).bind fun r1 =>
 (Qt F x0 r1.1).bind fun r2 =>
 some (r2.1,())
def Kv(F:Nat) :Option (qCO×Unit) :=
 some ((true,(((false,([0,0,0,0],())),((false,([0,0,0,0],())),())),(((false,([0,0,0,0],())),((false,([0,0,0,0],())),())),()))),())
def Gc(F:Nat){R:Type}(k0:qL→Option R):Nat→qL→Option R
 | 0,_=>none
 | n+1,x0 =>
 bif ltI 0 (Az x0) then
 bif inI (Bj .i64 (Az x0) 1) (List.length x0) then
 bif eqI (An 0 x0 (Bj .i64 (Az x0) 1)) 0 then
 bif Km 0 (Bj .i64 (Az x0) 1) (List.length x0) then
 Gc F k0 n (Ce x0 (Bj .i64 (Az x0) 1))
 else
 none
 else
 k0 x0
 else
 none
 else
 k0 x0
def C7(F:Nat)(x0:qL):Option (qL×Unit) :=
 Gc F (fun z10 =>
 some (z10,())) F x0
def Kg(F:Nat){R:Type}(k0:qL→Option R):Nat→qL→Option R
 | 0,_=>none
 | n+1,x0 =>
 bif ltI 0 (Az x0) then
 bif inI (Bj .i64 (Az x0) 1) (List.length x0) then
 bif eqI (An 0 x0 (Bj .i64 (Az x0) 1)) 0 then
 bif Km 0 (Bj .i64 (Az x0) 1) (List.length x0) then
 Kg F k0 n (Ce x0 (Bj .i64 (Az x0) 1))
 else
 none
 else
 k0 x0
 else
 none
 else
 k0 x0
def Kw(F:Nat)(x0:qL):Option (qL×Unit) :=
 Kg F (fun z10 =>
 some (z10,())) F x0
def Ha(F:Nat)(x0:qW):Option (qL×Unit) :=
 bif Bf (0+(List.length x0.2.1)) 8 then
 (C7 F ([]++x0.2.1)).bind fun r2 =>
 some (r2.1,())
 else
 none
def Hy(F:Nat)(x0:qW):Option (Bool×Unit) :=
 bif not x0.1 then
 some (true,())
 else
 (Ha F x0).bind fun r2 =>
 some (ltI 0 (Az r2.1),())
def Df(F:Nat)(x0:qW):Option (Int×Unit) :=
 (Ha F x0).bind fun r1 =>
 bif eqI (Az r1.1) 0 then
 some (0,())
 else
 bif x0.1 then
 some ((-1),())
 else
 some (1,())
def Pq(F:Nat)(x0:qW):Option (Bool×Unit) :=
 bif eqI (An 0 x0.2.1 3) 0 then
 bif eqI (An 0 x0.2.1 2) 0 then
 some (ltI (An 0 x0.2.1 1) 9223372036854775808,())
 else
 some (false,())
 else
 some (false,())
def N7(F:Nat)(x0:qW):Option (qW×Unit) :=
 some ((false,x0.2),())
def Gx(F:Nat)(x0:qW):Option (qW×Unit) :=
 (Hy F x0).bind fun r1 =>
 bif not r1.1 then
 some ((false,([0,0,0,0],())),())
 else
 some (x0,())
def Fh(F:Nat)(x0:qW):Option (Int×Bool×Unit) :=
 (Gx F x0).bind fun r1 =>
 (Ha F r1.1).bind fun r2 =>
 bif r1.1.1 then
 some (0,(false,()))
 else
 bif ltI 1 (Az r2.1) then
 some (0,(false,()))
 else
 some (An 0 r1.1.2.1 0,(true,()))
def Ey(F:Nat)(x0:Int):Option (qW×Unit) :=
 some ((false,([x0,0,0,0],())),())
def Hz(F:Nat)(x0:Int):Option (Int×Unit) :=
 (D3 F x0).bind fun r1 =>
 some (Bj .i64 64 r1.1,())
def Gy(F:Nat){R:Type}(k0:Int→Int→Int→Int→Int→Int→Int→Int→Option R):Nat→Int→Int→Int→Int→Int→Int→Int→Int→Int→Option R
 | 0,_,_,_,_,_,_,_,_,_=>none
 | n+1,x2,x8,x9,x10,x11,x13,x14,x15,x16 =>
 bif leI 4294967296 x15 then
 bif leI 4294967296 (Av .u64 x16 x9) then
 k0 x2 x8 x9 x10 x11 x13 x14 (Bj .u64 x15 1)
 else
 Gy F k0 n x2 x8 x9 x10 x11 x13 x14 (Bj .u64 x15 1) (Av .u64 x16 x9)
 else
 bif ltI (Av .u64 (I6 .u64 4294967296 x16) x13) (I6 .u64 x15 x10) then
 bif leI 4294967296 (Av .u64 x16 x9) then
 k0 x2 x8 x9 x10 x11 x13 x14 (Bj .u64 x15 1)
 else
 Gy F k0 n x2 x8 x9 x10 x11 x13 x14 (Bj .u64 x15 1) (Av .u64 x16 x9)
 else
 k0 x2 x8 x9 x10 x11 x13 x14 x15
def Gz(F:Nat){R:Type}(k2:Int→Int→Int→Int→Int→Int→Option R):Nat→Int→Int→Int→Int→Int→Int→Int→Int→Int→Option R
 | 0,_,_,_,_,_,_,_,_,_=>none
 | n+1,x2,x8,x9,x10,x14,x15,x16,x17,x18 =>
 bif leI 4294967296 x18 then
 bif leI 4294967296 (Av .u64 x16 x9) then
 k2 x2 x8 x14 x15 x17 (Bj .u64 x18 1)
 else
 Gz F k2 n x2 x8 x9 x10 x14 x15 (Av .u64 x16 x9) x17 (Bj .u64 x18 1)
 else
 bif ltI (Av .u64 (I6 .u64 4294967296 x16) x14) (I6 .u64 x18 x10) then
 bif leI 4294967296 (Av .u64 x16 x9) then
 k2 x2 x8 x14 x15 x17 (Bj .u64 x18 1)
 else
 Gz F k2 n x2 x8 x9 x10 x14 x15 (Av .u64 x16 x9) x17 (Bj .u64 x18 1)
 else
 k2 x2 x8 x14 x15 x17 x18
def Q4(F:Nat)(x0:Int)(x1:Int)(x2:Int):Option (Int×Int×Unit) :=
 bif eqI x2 0 then
 none
 else
 bif leI x2 x0 then
 none
 else
 bif eqI x0 0 then
 bif eqI x2 0 then
 none
 else
 bif eqI x2 0 then
 none
 else
 some (Ht .u64 x1 x2,(I9 x1 x2,()))
 else
 (Hz F x2).bind fun r6 =>
 bif ltI (IntKind.wrap .u64 r6.1) 0 then
 none
 else
 bif ltI (IntKind.wrap .u64 r6.1) 0 then
 none
 else
 bif ltI (Bj .u64 64 (IntKind.wrap .u64 r6.1)) 0 then
 none
 else
 bif ltI (IntKind.wrap .u64 r6.1) 0 then
 none
 else
 bif eqI (Fg .u64 (Hv .u64 x2 (IntKind.wrap .u64 r6.1)) 32) 0 then
 none
 else
 Gy F (fun z32 z33 z34 z35 z36 z37 z38 z39 =>
 bif eqI z34 0 then
 none
 else
 Gz F (fun z58 z59 z60 z61 z62 z63 =>
 bif ltI z59 0 then
 none
 else
 some (Av .u64 (I6 .u64 z61 4294967296) z63,(Fg .u64 (Bj .u64 (Av .u64 (I6 .u64 z62 4294967296) z60) (I6 .u64 z63 z58)) z59,()))) F z32 z33 z34 z35 z38 z39 (Bj .u64 (Bj .u64 (Av .u64 (I6 .u64 z36 4294967296) z37) (I6 .u64 z39 z32)) (I6 .u64 (Ht .u64 (Bj .u64 (Av .u64 (I6 .u64 z36 4294967296) z37) (I6 .u64 z39 z32)) z34) z34)) (Bj .u64 (Av .u64 (I6 .u64 z36 4294967296) z37) (I6 .u64 z39 z32)) (Ht .u64 (Bj .u64 (Av .u64 (I6 .u64 z36 4294967296) z37) (I6 .u64 z39 z32)) z34)) F (Hv .u64 x2 (IntKind.wrap .u64 r6.1)) (IntKind.wrap .u64 r6.1) (Fg .u64 (Hv .u64 x2 (IntKind.wrap .u64 r6.1)) 32) (Wp .u64 (Hv .u64 x2 (IntKind.wrap .u64 r6.1)) 4294967295) (orI .u64 (Hv .u64 x0 (IntKind.wrap .u64 r6.1)) (Fg .u64 x1 (Bj .u64 64 (IntKind.wrap .u64 r6.1)))) (Fg .u64 (Hv .u64 x1 (IntKind.wrap .u64 r6.1)) 32) (Wp .u64 (Hv .u64 x1 (IntKind.wrap .u64 r6.1)) 4294967295) (Ht .u64 (orI .u64 (Hv .u64 x0 (IntKind.wrap .u64 r6.1)) (Fg .u64 x1 (Bj .u64 64 (IntKind.wrap .u64 r6.1)))) (Fg .u64 (Hv .u64 x2 (IntKind.wrap .u64 r6.1)) 32)) (Bj .u64 (orI .u64 (Hv .u64 x0 (IntKind.wrap .u64 r6.1)) (Fg .u64 x1 (Bj .u64 64 (IntKind.wrap .u64 r6.1)))) (I6 .u64 (Ht .u64 (orI .u64 (Hv .u64 x0 (IntKind.wrap .u64 r6.1)) (Fg .u64 x1 (Bj .u64 64 (IntKind.wrap .u64 r6.1)))) (Fg .u64 (Hv .u64 x2 (IntKind.wrap .u64 r6.1)) 32)) (Fg .u64 (Hv .u64 x2 (IntKind.wrap .u64 r6.1)) 32)))
def Pa(F:Nat)(x0:qL):Option (Int×Unit) :=
 bif eqI (Az x0) 0 then
 some (0,())
 else
 bif inI (Bj .i64 (Az x0) 1) (List.length x0) then
 (D3 F (An 0 x0 (Bj .i64 (Az x0) 1))).bind fun r9 =>
 some (Av .i64 (I6 .i64 64 (Bj .i64 (Az x0) 1)) r9.1,())
 else
 none
def Kx(F:Nat){R:Type}(k0:qL→Option R):Nat→qL→Int→qL→Int→Option R
 | 0,_,_,_,_=>none
 | n+1,x0,x1,x5,x6 =>
 bif ltI x6 (Az x0) then
 bif inI (Av .i64 x6 (Ht .i64 x1 64)) (List.length x5) then
 bif inI x6 (List.length x0) then
 bif ltI (IntKind.wrap .u64 (I9 x1 64)) 0 then
 none
 else
 bif inI (Av .i64 x6 (Ht .i64 x1 64)) (List.length x5) then
 bif ltI 0 (I9 x1 64) then
 bif inI (Av .i64 (Av .i64 x6 (Ht .i64 x1 64)) 1) (List.length (Cd x5 (Av .i64 x6 (Ht .i64 x1 64)) (orI .u64 (An 0 x5 (Av .i64 x6 (Ht .i64 x1 64))) (Hv .u64 (An 0 x0 x6) (IntKind.wrap .u64 (I9 x1 64)))))) then
 bif inI x6 (List.length x0) then
 bif ltI (IntKind.wrap .u64 (Bj .i64 64 (I9 x1 64))) 0 then
 none
 else
 bif inI (Av .i64 (Av .i64 x6 (Ht .i64 x1 64)) 1) (List.length (Cd x5 (Av .i64 x6 (Ht .i64 x1 64)) (orI .u64 (An 0 x5 (Av .i64 x6 (Ht .i64 x1 64))) (Hv .u64 (An 0 x0 x6) (IntKind.wrap .u64 (I9 x1 64)))))) then
 Kx F k0 n x0 x1 (Cd (Cd x5 (Av .i64 x6 (Ht .i64 x1 64)) (orI .u64 (An 0 x5 (Av .i64 x6 (Ht .i64 x1 64))) (Hv .u64 (An 0 x0 x6) (IntKind.wrap .u64 (I9 x1 64))))) (Av .i64 (Av .i64 x6 (Ht .i64 x1 64)) 1) (orI .u64 (An 0 (Cd x5 (Av .i64 x6 (Ht .i64 x1 64)) (orI .u64 (An 0 x5 (Av .i64 x6 (Ht .i64 x1 64))) (Hv .u64 (An 0 x0 x6) (IntKind.wrap .u64 (I9 x1 64))))) (Av .i64 (Av .i64 x6 (Ht .i64 x1 64)) 1)) (Fg .u64 (An 0 x0 x6) (IntKind.wrap .u64 (Bj .i64 64 (I9 x1 64)))))) (Av .i64 x6 1)
 else
 none
 else
 none
 else
 none
 else
 Kx F k0 n x0 x1 (Cd x5 (Av .i64 x6 (Ht .i64 x1 64)) (orI .u64 (An 0 x5 (Av .i64 x6 (Ht .i64 x1 64))) (Hv .u64 (An 0 x0 x6) (IntKind.wrap .u64 (I9 x1 64))))) (Av .i64 x6 1)
 else
 none
 else
 none
 else
 none
 else
 k0 x5
def Aa7(F:Nat)(x0:qL)(x1:Int):Option (qL×Unit) :=
 bif I7 (Av .i64 (Av .i64 (Az x0) (Ht .i64 x1 64)) 1) (Av .i64 (Av .i64 (Az x0) (Ht .i64 x1 64)) 1) 8 then
 Kx F (fun z32 =>
 (Kw F z32).bind fun r33 =>
 some (r33.1,())) F x0 x1 (Cl (Av .i64 (Av .i64 (Az x0) (Ht .i64 x1 64)) 1) (0:Int)) 0
 else
 none
def F1(F:Nat){R:Type}(k0:Option R)(kret:Int→Option R):Nat→qL→qL→Int→Option R
 | 0,_,_,_=>none
 | n+1,x0,x1,x5 =>
 bif leI 0 x5 then
 bif inI x5 (List.length x0) then
 bif inI x5 (List.length x1) then
 bif ltI (An 0 x0 x5) (An 0 x1 x5) then
 kret (-1)
 else
 bif inI x5 (List.length x0) then
 bif inI x5 (List.length x1) then
 bif ltI (An 0 x1 x5) (An 0 x0 x5) then
 kret 1
 else
 F1 F k0 kret n x0 x1 (Bj .i64 x5 1)
 else
 none
 else
 none
 else
 none
 else
 none
 else
 k0
def Jx(F:Nat)(x0:qL)(x1:qL):Option (Int×Unit) :=
 bif not (eqI (Az x0) (Az x1)) then
 bif ltI (Az x0) (Az x1) then
 some ((-1),())
 else
 some (1,())
 else
 F1 F (
 some (0,())) (fun z17 =>
 some (z17,())) F x0 x1 (Bj .i64 (Az x0) 1)
def K7(F:Nat){R:Type}(kn:qL→qL→Int→Int→Option R)(x1:qL)(x5:qL)(x6:Int)(x7:Int)(x8:Int):Option R :=
 bif inI x7 (List.length x5) then
 (Ju F (An 0 x5 x7) x8 x6).bind fun r8 =>
 bif inI x7 (List.length x5) then
 kn x1 (Cd x5 x7 r8.1) r8.2.1 x7
 else
 none
 else
 none
def Dg(F:Nat){R:Type}(k0:qL→Option R):Nat→qL→qL→Int→Int→Option R
 | 0,_,_,_,_=>none
 | n+1,x1,x5,x6,x7 =>
 bif ltI x7 (Az x5) then
 bif ltI x7 (Az x1) then
 bif inI x7 (List.length x1) then
 K7 F (fun z10 z11 z12 z13 =>
 Dg F k0 n z10 z11 z12 (Av .i64 z13 1)) x1 x5 x6 x7 (An 0 x1 x7)
 else
 none
 else
 K7 F (fun z15 z16 z17 z18 =>
 Dg F k0 n z15 z16 z17 (Av .i64 z18 1)) x1 x5 x6 x7 0
 else
 k0 x5
def N8(F:Nat)(x0:qL)(x1:qL):Option (qL×Unit) :=
 bif Bf (0+(List.length x0)) 8 then
 Dg F (fun z20 =>
 (C7 F z20).bind fun r21 =>
 some (r21.1,())) F x1 ([]++x0) 0 0
 else
 none
def Ov(F:Nat){R:Type}(kn:qL→qL→Int→Int→Option R)(x1:qL)(x5:qL)(x6:Int)(x7:Int)(x8:Int):Option R :=
 bif inI x7 (List.length x5) then
 (Ju F (An 0 x5 x7) x8 x6).bind fun r8 =>
 bif inI x7 (List.length x5) then
 kn x1 (Cd x5 x7 r8.1) r8.2.1 x7
 else
 none
 else
 none
def Jy(F:Nat){R:Type}(k0:qL→qL→Option R):Nat→qL→qL→Int→Int→Option R
 | 0,_,_,_,_=>none
 | n+1,x1,x5,x6,x7 =>
 bif ltI x7 (Az x5) then
 bif ltI x7 (Az x1) then
 bif inI x7 (List.length x1) then
 Ov F (fun z10 z11 z12 z13 =>
 Jy F k0 n z10 z11 z12 (Av .i64 z13 1)) x1 x5 x6 x7 (An 0 x1 x7)
 else
 none
 else
 Ov F (fun z15 z16 z17 z18 =>
 Jy F k0 n z15 z16 z17 (Av .i64 z18 1)) x1 x5 x6 x7 0
 else
 k0 x1 x5
def Uy(F:Nat)(x0:qL)(x1:qL):Option (qL×qL×Unit) :=
 bif Bf (0+(List.length x0)) 8 then
 Jy F (fun z20 z21 =>
 (C7 F z21).bind fun r22 =>
 some (z20,(r22.1,()))) F x1 ([]++x0) 0 0
 else
 none
def Gd(F:Nat){R:Type}(k0:qL→Option R):Nat→qL→Int→Option R
 | 0,_,_=>none
 | n+1,x0,x3 =>
 bif ltI x3 (Az x0) then
 bif inI x3 (List.length x0) then
 bif inI x3 (List.length x0) then
 bif ltI (Av .i64 x3 1) (Az (Cd x0 x3 (Fg .u64 (An 0 x0 x3) 1))) then
 bif inI x3 (List.length (Cd x0 x3 (Fg .u64 (An 0 x0 x3) 1))) then
 bif inI (Av .i64 x3 1) (List.length (Cd x0 x3 (Fg .u64 (An 0 x0 x3) 1))) then
 bif inI x3 (List.length (Cd x0 x3 (Fg .u64 (An 0 x0 x3) 1))) then
 Gd F k0 n (Cd (Cd x0 x3 (Fg .u64 (An 0 x0 x3) 1)) x3 (orI .u64 (An 0 (Cd x0 x3 (Fg .u64 (An 0 x0 x3) 1)) x3) (Hv .u64 (An 0 (Cd x0 x3 (Fg .u64 (An 0 x0 x3) 1)) (Av .i64 x3 1)) 63))) (Av .i64 x3 1)
 else
 none
 else
 none
 else
 none
 else
 Gd F k0 n (Cd x0 x3 (Fg .u64 (An 0 x0 x3) 1)) (Av .i64 x3 1)
 else
 none
 else
 none
 else
 k0 x0
def Q5(F:Nat)(x0:qL):Option (qL×Unit) :=
 Gd F (fun z17 =>
 (Kw F z17).bind fun r18 =>
 some (r18.1,())) F x0 0
def Hg(F:Nat){R:Type}(k0:qL→Int→Option R):Nat→qL→qL→qL→Int→Int→Option R
 | 0,_,_,_,_,_=>none
 | n+1,x0,x1,x6,x7,x8 =>
 bif leI 0 x8 then
 bif inI x8 (List.length x0) then
 bif inI 0 (List.length x1) then
 (Q4 F x7 (An 0 x0 x8) (An 0 x1 0)).bind fun r10 =>
 bif inI x8 (List.length x6) then
 Hg F k0 n x0 x1 (Cd x6 x8 r10.1) r10.2.1 (Bj .i64 x8 1)
 else
 none
 else
 none
 else
 none
 else
 k0 x6 x7
def Ez(F:Nat){R:Type}(k2:qL→qL→Option R):Nat→qL→qL→qL→Int→Option R
 | 0,_,_,_,_=>none
 | n+1,x6,x9,x11,x12 =>
 bif leI 0 x12 then
 (Jx F x9 x11).bind fun r25 =>
 bif leI 0 r25.1 then
 (Uy F x9 x11).bind fun r27 =>
 bif inI (Ht .i64 x12 64) (List.length x6) then
 bif ltI (IntKind.wrap .u64 (I9 x12 64)) 0 then
 none
 else
 bif inI (Ht .i64 x12 64) (List.length x6) then
 (Q5 F r27.1).bind fun r35 =>
 Ez F k2 n (Cd x6 (Ht .i64 x12 64) (orI .u64 (An 0 x6 (Ht .i64 x12 64)) (Hv .u64 1 (IntKind.wrap .u64 (I9 x12 64))))) r27.2.1 r35.1 (Bj .i64 x12 1)
 else
 none
 else
 none
 else
 (Q5 F x11).bind fun r37 =>
 Ez F k2 n x6 x9 r37.1 (Bj .i64 x12 1)
 else
 k2 x6 x9
def K8(F:Nat)(x0:qL)(x1:qL):Option (qL×qL×Unit) :=
 bif I7 (Az x0) (Az x0) 8 then
 bif eqI (Az x1) 1 then
 Hg F (fun z13 z14 =>
 (C7 F z13).bind fun r15 =>
 (C7 F [z14]).bind fun r16 =>
 some (r15.1,(r16.1,()))) F x0 x1 (Cl (Az x0) (0:Int)) 0 (Bj .i64 (Az x0) 1)
 else
 bif Bf (0+(List.length x0)) 8 then
 (C7 F ([]++x0)).bind fun r18 =>
 (Pa F r18.1).bind fun r19 =>
 (Pa F x1).bind fun r20 =>
 let x54v21:=Bj .i64 r19.1 r20.1
 bif ltI x54v21 0 then
 some ([],(r18.1,()))
 else
 (Aa7 F x1 x54v21).bind fun r23 =>
 Ez F (fun z39 z40 =>
 (C7 F z39).bind fun r41 =>
 some (r41.1,(z40,()))) F (Cl (Az x0) (0:Int)) r18.1 r23.1 x54v21
 else
 none
 else
 none
def Ll(F:Nat){R:Type}(kn:qL→qL→Int→Int→Option R)(x1:qL)(x5:qL)(x6:Int)(x7:Int)(x8:Int):Option R :=
 bif inI x7 (List.length x5) then
 (F0 F (An 0 x5 x7) x8 x6).bind fun r11 =>
 bif inI x7 (List.length x5) then
 kn x1 (Cd x5 x7 r11.1) r11.2.1 x7
 else
 none
 else
 none
def Fi(F:Nat){R:Type}(k0:qL→Int→Option R):Nat→qL→qL→Int→Int→Option R
 | 0,_,_,_,_=>none
 | n+1,x1,x5,x6,x7 =>
 bif ltI x7 (Az x5) then
 bif ltI x7 (Az x1) then
 bif inI x7 (List.length x1) then
 Ll F (fun z13 z14 z15 z16 =>
 Fi F k0 n z13 z14 z15 (Av .i64 z16 1)) x1 x5 x6 x7 (An 0 x1 x7)
 else
 none
 else
 Ll F (fun z18 z19 z20 z21 =>
 Fi F k0 n z18 z19 z20 (Av .i64 z21 1)) x1 x5 x6 x7 0
 else
 k0 x5 x6
def N9(F:Nat){R:Type}(kret:qL→Option R)(x0:qL)(x1:qL):Option R :=
 bif Bf (0+(List.length x0)) 8 then
 Fi F (fun z23 z24 =>
 bif Bf ((List.length z23)+1) 8 then
 (C7 F (z23++[z24])).bind fun r26 =>
 kret r26.1
 else
 none) F x1 ([]++x0) 0 0
 else
 none
def T1(F:Nat)(x0:qL)(x1:qL):Option (qL×Unit) :=
 bif ltI (Az x0) (Az x1) then
 N9 F (fun z27 =>
 some (z27,())) x1 x0
 else
 N9 F (fun z28 =>
 some (z28,())) x0 x1
def H0(F:Nat){R:Type}(k0:qW→qW→Option R):Nat→qL→qW→qW→Int→Option R
 | 0,_,_,_,_=>none
 | n+1,x1,x4,x6,x7 =>
 bif ltI x7 (Az x1) then
 bif inI x7 (List.length x1) then
 bif inI x7 4 then
 H0 F k0 n x1 x4 (x6.1,(Cd x6.2.1 x7 (An 0 x1 x7),x6.2.2)) (Av .i64 x7 1)
 else
 none
 else
 none
 else
 k0 x4 x6
def Ow(F:Nat){R:Type}(kret:qW→Bool→Option R)(x1:qL)(x4:qW)(x6:qW):Option R :=
 H0 F (fun z10 z11 =>
 kret z11 true) F x1 x4 x6 0
def Fp(F:Nat)(x0:Bool)(x1:qL):Option (qW×Bool×Unit) :=
 (C7 F x1).bind fun r1 =>
 bif ltI 4 (Az r1.1) then
 some ((false,([0,0,0,0],())),(false,()))
 else
 bif x0 then
 Ow F (fun z12 z13 =>
 some (z12,(z13,()))) r1.1 (false,([0,0,0,0],())) (ltI 0 (Az r1.1),([0,0,0,0],()))
 else
 Ow F (fun z14 z15 =>
 some (z14,(z15,()))) r1.1 (false,([0,0,0,0],())) (false,([0,0,0,0],()))
def Jf(F:Nat){R:Type}(kn:qW→qW→qW→qW→qL→qL→Option R)(x2:qW)(x3:qW)(x4:qW)(x5:qW)(x7:qL)(x8:qL)(x32:Bool):Option R :=
 bif x32 then
 (T1 F x7 [1]).bind fun r10 =>
 (Ha F x3).bind fun r11 =>
 (N8 F r11.1 x8).bind fun r12 =>
 kn x2 x3 x4 x5 r10.1 r12.1
 else
 kn x2 x3 x4 x5 x7 x8
def Jg(F:Nat){R:Type}(kret:qW→qW→Bool→Option R)(x2:qW)(x3:qW)(x4:qW)(x5:qW)(x7:qL)(x8:qL):Option R :=
 (Fp F (not (eqT .bool x2.1 x3.1)) x7).bind fun r20 =>
 bif not r20.2.1 then
 kret (false,([0,0,0,0],())) (false,([0,0,0,0],())) false
 else
 (Fp F false x8).bind fun r22 =>
 kret r20.1 r22.1 true
def Dh(F:Nat)(x0:qW)(x1:qW):Option (qW×qW×Bool×Unit) :=
 (Gx F x0).bind fun r1 =>
 (Gx F x1).bind fun r2 =>
 (Df F r2.1).bind fun r3 =>
 bif eqI r3.1 0 then
 some ((false,([0,0,0,0],())),((false,([0,0,0,0],())),(false,())))
 else
 (Ha F r1.1).bind fun r5 =>
 (Ha F r2.1).bind fun r6 =>
 (K8 F r5.1 r6.1).bind fun r7 =>
 bif r1.1.1 then
 Jf F (fun z13 z14 z15 z16 z17 z18 =>
 Jg F (fun z23 z24 z25 =>
 some (z23,(z24,(z25,())))) z13 z14 z15 z16 z17 z18) r1.1 r2.1 (false,([0,0,0,0],())) (false,([0,0,0,0],())) r7.1 r7.2.1 (ltI 0 (Az r7.2.1))
 else
 Jf F (fun z26 z27 z28 z29 z30 z31 =>
 Jg F (fun z32 z33 z34 =>
 some (z32,(z33,(z34,())))) z26 z27 z28 z29 z30 z31) r1.1 r2.1 (false,([0,0,0,0],())) (false,([0,0,0,0],())) r7.1 r7.2.1 false
def Jh(F:Nat){R:Type}(k2:qW→Int→Option R):Nat→qW→Int→Int→Option R
 | 0,_,_,_=>none
 | n+1,x4,x5,x7 =>
 bif not (eqI x7 0) then
 bif eqI x7 0 then
 none
 else
 Jh F k2 n x4 x7 (I9 x5 x7)
 else
 k2 x4 x5
def Qc(F:Nat){R:Type}(kn:qW→qW→qW→Option R)(kret:qW→Option R)(x2:qW)(x3:qW)(x4:qW)(x5:Int)(x7:Int)(x28:Bool):Option R :=
 bif x28 then
 Jh F (fun z7 z8 =>
 (Ey F z8).bind fun r9 =>
 kret r9.1) F x4 x5 x7
 else
 kn x2 x3 x4
def Qd(F:Nat){R:Type}(kn:qW→qW→qW→Option R)(x2:qW)(x3:qW)(x4:qW):Option R :=
 (Dh F x2 x3).bind fun r13 =>
 kn x3 r13.2.1 x4
def Hw(F:Nat){R:Type}(k0:qW→qW→Option R)(kret:qW→Option R):Nat→qW→qW→qW→Option R
 | 0,_,_,_=>none
 | n+1,x2,x3,x4 =>
 (Df F x3).bind fun r1 =>
 bif not (eqI r1.1 0) then
 (Fh F x2).bind fun r3 =>
 (Fh F x3).bind fun r4 =>
 bif r3.2.1 then
 Qc F (fun z10 z11 z12 =>
 Qd F (fun z14 z15 z16 =>
 Hw F k0 kret n z14 z15 z16) z10 z11 z12) (fun z17 =>
 kret z17) x2 x3 x4 r3.1 r4.1 r4.2.1
 else
 Qc F (fun z18 z19 z20 =>
 Qd F (fun z21 z22 z23 =>
 Hw F k0 kret n z21 z22 z23) z18 z19 z20) (fun z24 =>
 kret z24) x2 x3 x4 r3.1 r4.1 false
 else
 k0 x2 x4
def Q6(F:Nat)(x0:qW)(x1:qW):Option (qW×Unit) :=
 Hw F (fun z25 z26 =>
 some (z25,())) (fun z27 =>
 some (z27,())) F x0 x1 (false,([0,0,0,0],()))
def Gf(F:Nat)(x0:Int):Option (qW×Unit) :=
 bif ltI x0 0 then
 some ((true,([Bj .u64 0 (IntKind.wrap .u64 x0),0,0,0],())),())
 else
 some ((false,([IntKind.wrap .u64 x0,0,0,0],())),())
def Q7(F:Nat) :Option (qW×Unit) :=
 (Gf F 1).bind fun r1 =>
 some (r1.1,())
def Fu(F:Nat)(x0:qR):Option (Bool×Unit) :=
 (Hy F x0.1).bind fun r1 =>
 bif not r1.1 then
 some (false,())
 else
 (Hy F x0.2.1).bind fun r3 =>
 bif not r3.1 then
 some (false,())
 else
 (Df F x0.2.1).bind fun r5 =>
 bif leI r5.1 0 then
 some (false,())
 else
 (Pq F x0.1).bind fun r7 =>
 bif not r7.1 then
 some (false,())
 else
 (Pq F x0.2.1).bind fun r9 =>
 bif not r9.1 then
 some (false,())
 else
 (N7 F x0.1).bind fun r11 =>
 (Q6 F r11.1 x0.2.1).bind fun r12 =>
 (Q7 F).bind fun r13 =>
 some (eqT (.pair .bool (.pair (.arr 4 (.int .u64)) .unit)) r12.1 r13.1,())
def Sx(F:Nat)(x0:qR):Option (qR×Unit) :=
 (Fu F x0).bind fun r1 =>
 bif not r1.1 then
 (Q7 F).bind fun r3 =>
 some (((false,([0,0,0,0],())),(r3.1,())),())
 else
 some (x0,())
def Q8(F:Nat)(x0:Int)(x1:Int):Option (Int×Int×Unit) :=
 some (Av .u64 (Av .u64 (I6 .u64 (Fg .u64 x0 32) (Fg .u64 x1 32)) (Fg .u64 (Av .u64 (I6 .u64 (Fg .u64 x0 32) (Wp .u64 x1 4294967295)) (Fg .u64 (I6 .u64 (Wp .u64 x0 4294967295) (Wp .u64 x1 4294967295)) 32)) 32)) (Fg .u64 (Av .u64 (Wp .u64 (Av .u64 (I6 .u64 (Fg .u64 x0 32) (Wp .u64 x1 4294967295)) (Fg .u64 (I6 .u64 (Wp .u64 x0 4294967295) (Wp .u64 x1 4294967295)) 32)) 4294967295) (I6 .u64 (Wp .u64 x0 4294967295) (Fg .u64 x1 32))) 32),(I6 .u64 x0 x1,()))
def Ji(F:Nat){R:Type}(k2:qL→qL→qL→Int→Int→Option R):Nat→qL→qL→qL→Int→Int→Int→Option R
 | 0,_,_,_,_,_,_=>none
 | n+1,x0,x1,x5,x6,x7,x8 =>
 bif ltI x8 (Az x1) then
 bif inI x6 (List.length x0) then
 bif inI x8 (List.length x1) then
 (Q8 F (An 0 x0 x6) (An 0 x1 x8)).bind fun r12 =>
 bif inI (Av .i64 x6 x8) (List.length x5) then
 (F0 F r12.2.1 (An 0 x5 (Av .i64 x6 x8)) 0).bind fun r15 =>
 (F0 F r15.1 x7 0).bind fun r17 =>
 bif inI (Av .i64 x6 x8) (List.length x5) then
 Ji F k2 n x0 x1 (Cd x5 (Av .i64 x6 x8) r17.1) x6 (Av .u64 (Av .u64 r12.1 r15.2.1) r17.2.1) (Av .i64 x8 1)
 else
 none
 else
 none
 else
 none
 else
 none
 else
 k2 x0 x1 x5 x6 x7
def K9(F:Nat){R:Type}(k0:qL→Option R):Nat→qL→qL→qL→Int→Option R
 | 0,_,_,_,_=>none
 | n+1,x0,x1,x5,x6 =>
 bif ltI x6 (Az x0) then
 Ji F (fun z22 z23 z24 z25 z26 =>
 bif inI (Av .i64 z25 (Az z23)) (List.length z24) then
 K9 F k0 n z22 z23 (Cd z24 (Av .i64 z25 (Az z23)) z26) (Av .i64 z25 1)
 else
 none) F x0 x1 x5 x6 0 0
 else
 k0 x5
def W8(F:Nat)(x0:qL)(x1:qL):Option (qL×Unit) :=
 bif I7 (Av .i64 (Av .i64 (Az x0) (Az x1)) 1) (Av .i64 (Av .i64 (Az x0) (Az x1)) 1) 8 then
 K9 F (fun z31 =>
 (C7 F z31).bind fun r32 =>
 some (r32.1,())) F x0 x1 (Cl (Av .i64 (Av .i64 (Az x0) (Az x1)) 1) (0:Int)) 0
 else
 none
def Fc(F:Nat)(x0:qW)(x1:qW):Option (qW×Bool×Unit) :=
 (Gx F x0).bind fun r1 =>
 (Gx F x1).bind fun r2 =>
 (Ha F r1.1).bind fun r4 =>
 (Ha F r2.1).bind fun r5 =>
 (W8 F r4.1 r5.1).bind fun r6 =>
 (Fp F (not (eqT .bool r1.1.1 r2.1.1)) r6.1).bind fun r7 =>
 some (r7.1,(r7.2.1,()))
def Gg(F:Nat)(x0:qW)(x1:qW):Option (Int×Unit) :=
 (Df F x0).bind fun r1 =>
 (Df F x1).bind fun r2 =>
 bif not (eqI r1.1 r2.1) then
 bif ltI r1.1 r2.1 then
 some ((-1),())
 else
 some (1,())
 else
 (Ha F x0).bind fun r5 =>
 (Ha F x1).bind fun r6 =>
 (Jx F r5.1 r6.1).bind fun r7 =>
 some (I6 .i64 r1.1 r7.1,())
def Dn(F:Nat)(x0:qR)(x1:qR):Option (Int×Unit) :=
 (Sx F x0).bind fun r1 =>
 (Sx F x1).bind fun r2 =>
 (Fc F r1.1.1 r2.1.2.1).bind fun r3 =>
 (Fc F r2.1.1 r1.1.2.1).bind fun r4 =>
 (Gg F r3.1 r4.1).bind fun r5 =>
 some (r5.1,())
def Jj(F:Nat)(x0:qCO):Option (Bool×Unit) :=
 bif x0.1 then
 (Kv F).bind fun r1 =>
 some (eqT (.pair .bool (.pair (.pair (.pair .bool (.pair (.arr 4 (.int .u64)) .unit)) (.pair (.pair .bool (.pair (.arr 4 (.int .u64)) .unit)) .unit)) (.pair (.pair (.pair .bool (.pair (.arr 4 (.int .u64)) .unit)) (.pair (.pair .bool (.pair (.arr 4 (.int .u64)) .unit)) .unit)) .unit))) x0 r1.1,())
 else
 (Fu F x0.2.1).bind fun r3 =>
 bif r3.1 then
 (Fu F x0.2.2.1).bind fun r4 =>
 bif r4.1 then
 (Dn F x0.2.1 x0.2.2.1).bind fun r5 =>
 some (leI r5.1 0,())
 else
 some (false,())
 else
 some (false,())
def Pr(F:Nat)(x0:qPS):Option (Bool×Unit) :=
 (He F x0.1).bind fun r1 =>
 bif not r1.1 then
 some (false,())
 else
 bif ltI x0.2.1 0 then
 some (false,())
 else
 bif ltI 1073741824 x0.2.1 then
 some (false,())
 else
 bif eqI x0.2.2.1 0 then
 some (eqT (.pair (.int .i64) (.pair (.int .i64) (.pair (.int .i64) (.pair (.pair (.int .i64) (.pair (.int .i64) .unit)) (.pair (.int .i64) (.pair (.int .i64) (.pair (.pair .bool (.pair (.pair (.pair .bool (.pair (.arr 4 (.int .u64)) .unit)) (.pair (.pair .bool (.pair (.arr 4 (.int .u64)) .unit)) .unit)) (.pair (.pair (.pair .bool (.pair (.arr 4 (.int .u64)) .unit)) (.pair (.pair .bool (.pair (.arr 4 (.int .u64)) .unit)) .unit)) .unit))) .unit))))))) x0 (x0.1,(x0.2.1,(0,((0,(0,())),(0,(0,((false,(((false,([0,0,0,0],())),((false,([0,0,0,0],())),())),(((false,([0,0,0,0],())),((false,([0,0,0,0],())),())),()))),()))))))),())
 else
 (Q3 F x0.2.2.2.1.2.1 x0.1).bind fun r7 =>
 bif not (eqI x0.2.2.2.2.2.1 r7.1) then
 some (false,())
 else
 bif eqI x0.2.2.1 1 then
 bif eqI x0.2.2.2.2.1 x0.2.2.2.1.1 then
 (Kv F).bind fun r11 =>
 some (eqT (.pair .bool (.pair (.pair (.pair .bool (.pair (.arr 4 (.int .u64)) .unit)) (.pair (.pair .bool (.pair (.arr 4 (.int .u64)) .unit)) .unit)) (.pair (.pair (.pair .bool (.pair (.arr 4 (.int .u64)) .unit)) (.pair (.pair .bool (.pair (.arr 4 (.int .u64)) .unit)) .unit)) .unit))) x0.2.2.2.2.2.2.1 r11.1,())
 else
 some (false,())
 else
 bif ltI 1 x0.2.2.1 then
 bif leI x0.2.2.1 1073741824 then
 bif ltI x0.2.2.2.1.1 x0.2.2.2.2.1 then
 (Jj F x0.2.2.2.2.2.2.1).bind fun r16 =>
 bif r16.1 then
 some (not x0.2.2.2.2.2.2.1.1,())
 else
 some (false,())
 else
 some (false,())
 else
 some (false,())
 else
 some (false,())
def Ps(F:Nat)(x0:qPS)(x1:qSM):Option (qPS×Unit) :=
 (Q3 F x1.2.1 x0.1).bind fun r2 =>
 (Kv F).bind fun r3 =>
 some ((x0.1,(Av .i64 x0.2.1 x0.2.2.1,(1,(x1,(x1.1,(r2.1,(r3.1,()))))))),())
def Uz(F:Nat)(x0:Int)(x1:Int):Option (qW×Unit) :=
 (Gf F x0).bind fun r1 =>
 (Ux F x1).bind fun r2 =>
 (Gf F r2.1).bind fun r3 =>
 (Fc F r1.1 r3.1).bind fun r4 =>
 some (r4.1,())
def Nu(F:Nat)(x0:Int)(x1:Int):Option (Int×Unit) :=
 bif ltI x0 x1 then
 some (Bj .u64 (IntKind.wrap .u64 x1) (IntKind.wrap .u64 x0),())
 else
 some (Bj .u64 (IntKind.wrap .u64 x0) (IntKind.wrap .u64 x1),())
def Lm(F:Nat)(x0:qW):Option (qW×Unit) :=
 (Ha F x0).bind fun r2 =>
 (Fp F (not x0.1) r2.1).bind fun r3 =>
 some (r3.1,())
def Hh(F:Nat)(x0:qW)(x1:qW):Option (qW×Bool×Unit) :=
 (Gx F x0).bind fun r1 =>
 (Gx F x1).bind fun r2 =>
 (Ha F r1.1).bind fun r3 =>
 (Ha F r2.1).bind fun r4 =>
 bif eqT .bool r1.1.1 r2.1.1 then
 (T1 F r3.1 r4.1).bind fun r6 =>
 (Fp F r1.1.1 r6.1).bind fun r7 =>
 some (r7.1,(r7.2.1,()))
 else
 (Jx F r3.1 r4.1).bind fun r8 =>
 bif leI 0 r8.1 then
 (N8 F r3.1 r4.1).bind fun r10 =>
 (Fp F r1.1.1 r10.1).bind fun r11 =>
 some (r11.1,(r11.2.1,()))
 else
 (N8 F r4.1 r3.1).bind fun r12 =>
 (Fp F r2.1.1 r12.1).bind fun r13 =>
 some (r13.1,(r13.2.1,()))
def Lo(F:Nat)(x0:qW)(x1:qW):Option (qW×Bool×Unit) :=
 (Lm F x1).bind fun r1 =>
 (Hh F x0 r1.1).bind fun r2 =>
 some (r2.1,(r2.2.1,()))
def Lp(F:Nat){R:Type}(kret:qR→Bool→Option R)(x4:qR)(x7:qW)(x10:qW):Option R :=
 (Fu F (x7,(x10,()))).bind fun r16 =>
 bif not r16.1 then
 kret ((false,([0,0,0,0],())),((false,([0,0,0,0],())),())) false
 else
 kret (x7,(x10,())) true
def Q9(F:Nat)(x0:qW)(x1:qW):Option (qR×Bool×Unit) :=
 (Hy F x0).bind fun r1 =>
 bif not r1.1 then
 some (((false,([0,0,0,0],())),((false,([0,0,0,0],())),())),(false,()))
 else
 (Hy F x1).bind fun r3 =>
 bif not r3.1 then
 some (((false,([0,0,0,0],())),((false,([0,0,0,0],())),())),(false,()))
 else
 (Df F x1).bind fun r5 =>
 bif eqI r5.1 0 then
 some (((false,([0,0,0,0],())),((false,([0,0,0,0],())),())),(false,()))
 else
 (N7 F x0).bind fun r7 =>
 (N7 F x1).bind fun r8 =>
 (Q6 F r7.1 r8.1).bind fun r9 =>
 (N7 F x0).bind fun r10 =>
 (Dh F r10.1 r9.1).bind fun r11 =>
 (N7 F x1).bind fun r12 =>
 (Dh F r12.1 r9.1).bind fun r13 =>
 bif not (eqT .bool x0.1 x1.1) then
 (Lm F r11.1).bind fun r15 =>
 Lp F (fun z18 z19 =>
 some (z18,(z19,()))) ((false,([0,0,0,0],())),((false,([0,0,0,0],())),())) r15.1 r13.1
 else
 Lp F (fun z20 z21 =>
 some (z20,(z21,()))) ((false,([0,0,0,0],())),((false,([0,0,0,0],())),())) r11.1 r13.1
def Ox(F:Nat)(x0:qW)(x1:Int)(x2:Int)(x3:Int):Option (qCO×Bool×Unit) :=
 (Hy F x0).bind fun r1 =>
 bif not r1.1 then
 some ((false,(((false,([0,0,0,0],())),((false,([0,0,0,0],())),())),(((false,([0,0,0,0],())),((false,([0,0,0,0],())),())),()))),(false,()))
 else
 (Gg F (false,x0.2) (false,([0,4,0,0],()))).bind fun r3 =>
 bif leI 0 r3.1 then
 some ((false,(((false,([0,0,0,0],())),((false,([0,0,0,0],())),())),(((false,([0,0,0,0],())),((false,([0,0,0,0],())),())),()))),(false,()))
 else
 (He F x2).bind fun r5 =>
 bif not r5.1 then
 some ((false,(((false,([0,0,0,0],())),((false,([0,0,0,0],())),())),(((false,([0,0,0,0],())),((false,([0,0,0,0],())),())),()))),(false,()))
 else
 bif eqI x3 0 then
 some ((false,(((false,([0,0,0,0],())),((false,([0,0,0,0],())),())),(((false,([0,0,0,0],())),((false,([0,0,0,0],())),())),()))),(false,()))
 else
 (Gf F x1).bind fun r8 =>
 (Lo F r8.1 x0).bind fun r9 =>
 (Gf F x2).bind fun r10 =>
 (Lo F r9.1 r10.1).bind fun r11 =>
 (Gf F x2).bind fun r12 =>
 (Hh F r9.1 r12.1).bind fun r13 =>
 (Ey F x3).bind fun r14 =>
 (Q9 F r11.1 r14.1).bind fun r15 =>
 (Ey F x3).bind fun r16 =>
 (Q9 F r13.1 r16.1).bind fun r17 =>
 some ((false,(r15.1,(r17.1,()))),(true,()))
def Kh(F:Nat){R:Type}(kret:qCO→Bool→Option R)(x2:qCO)(x4:qCO):Option R :=
 (Dn F x2.2.1 x2.2.2.1).bind fun r9 =>
 bif ltI 0 r9.1 then
 kret (false,(((false,([0,0,0,0],())),((false,([0,0,0,0],())),())),(((false,([0,0,0,0],())),((false,([0,0,0,0],())),())),()))) false
 else
 kret x2 true
def Lq(F:Nat){R:Type}(kret:qCO→Bool→Option R)(x2:qCO)(x3:qCO)(x4:qCO):Option R :=
 (Dn F x3.2.2.1 x2.2.2.1).bind fun r7 =>
 bif ltI r7.1 0 then
 Kh F (fun z11 z12 =>
 kret z11 z12) (x2.1,(x2.2.1,(x3.2.2.1,x2.2.2.2))) x4
 else
 Kh F (fun z13 z14 =>
 kret z13 z14) x2 x4
def Sa(F:Nat)(x0:qCO)(x1:qCO):Option (qCO×Bool×Unit) :=
 (Jj F x0).bind fun r1 =>
 bif not r1.1 then
 some ((false,(((false,([0,0,0,0],())),((false,([0,0,0,0],())),())),(((false,([0,0,0,0],())),((false,([0,0,0,0],())),())),()))),(false,()))
 else
 (Jj F x1).bind fun r3 =>
 bif not r3.1 then
 some ((false,(((false,([0,0,0,0],())),((false,([0,0,0,0],())),())),(((false,([0,0,0,0],())),((false,([0,0,0,0],())),())),()))),(false,()))
 else
 bif x0.1 then
 some (x1,(true,()))
 else
 bif x1.1 then
 some (x0,(true,()))
 else
 (Dn F x1.2.1 x0.2.1).bind fun r5 =>
 bif ltI 0 r5.1 then
 Lq F (fun z15 z16 =>
 some (z15,(z16,()))) (x0.1,(x1.2.1,x0.2.2)) x1 (false,(((false,([0,0,0,0],())),((false,([0,0,0,0],())),())),(((false,([0,0,0,0],())),((false,([0,0,0,0],())),())),())))
 else
 Lq F (fun z17 z18 =>
 some (z17,(z18,()))) x0 x1 (false,(((false,([0,0,0,0],())),((false,([0,0,0,0],())),())),(((false,([0,0,0,0],())),((false,([0,0,0,0],())),())),())))
def Oa(F:Nat)(x0:qPS):Option ((List qPI)×Int×Unit) :=
 (Pr F x0).bind fun r1 =>
 bif not r1.1 then
 some ([],(1,()))
 else
 bif eqI x0.2.2.1 0 then
 some ([],(0,()))
 else
 some ([(x0.2.1,(x0.2.2.1,(x0.2.2.2.2.2.1,(x0.2.2.2.2.2.2.1,()))))],(0,()))
def Lr(F:Nat){R:Type}(kret:qPS→(List qPI)→Int→Option R)(x2:qPS)(x3:qSM)(x4:qPS):Option R :=
 bif leI 1073741824 (Av .i64 x2.2.1 x2.2.2.1) then
 kret (0,(0,(0,((0,(0,())),(0,(0,((false,(((false,([0,0,0,0],())),((false,([0,0,0,0],())),())),(((false,([0,0,0,0],())),((false,([0,0,0,0],())),())),()))),()))))))) [] 3
 else
 bif eqI x2.2.2.1 0 then
 (Ps F x2 x3).bind fun r8 =>
 kret r8.1 [] 0
 else
 (Uz F x2.2.2.2.2.2.1 x2.1).bind fun r9 =>
 (Nu F x3.1 x2.2.2.2.1.1).bind fun r10 =>
 (Ox F r9.1 x3.2.1 x2.1 r10.1).bind fun r11 =>
 (Sa F x2.2.2.2.2.2.2.1 r11.1).bind fun r12 =>
 bif not r12.2.1 then
 (Oa F x2).bind fun r14 =>
 (Ps F x2 x3).bind fun r15 =>
 kret r15.1 r14.1 0
 else
 kret (x2.1,(x2.2.1,(Av .i64 x2.2.2.1 1,(x2.2.2.2.1,(x3.1,(x2.2.2.2.2.2.1,(r12.1,x2.2.2.2.2.2.2.2))))))) [] 0
def U0(F:Nat)(x0:qPS)(x1:qSM):Option (qPS×(List qPI)×Int×Unit) :=
 (Pr F x0).bind fun r1 =>
 bif not r1.1 then
 some ((0,(0,(0,((0,(0,())),(0,(0,((false,(((false,([0,0,0,0],())),((false,([0,0,0,0],())),())),(((false,([0,0,0,0],())),((false,([0,0,0,0],())),())),()))),()))))))),([],(1,())))
 else
 bif ltI 0 x0.2.2.1 then
 bif leI x1.1 x0.2.2.2.2.1 then
 some ((0,(0,(0,((0,(0,())),(0,(0,((false,(((false,([0,0,0,0],())),((false,([0,0,0,0],())),())),(((false,([0,0,0,0],())),((false,([0,0,0,0],())),())),()))),()))))))),([],(7,())))
 else
 Lr F (fun z17 z18 z19 =>
 some (z17,(z18,(z19,())))) x0 x1 (0,(0,(0,((0,(0,())),(0,(0,((false,(((false,([0,0,0,0],())),((false,([0,0,0,0],())),())),(((false,([0,0,0,0],())),((false,([0,0,0,0],())),())),()))),())))))))
 else
 Lr F (fun z20 z21 z22 =>
 some (z20,(z21,(z22,())))) x0 x1 (0,(0,(0,((0,(0,())),(0,(0,((false,(((false,([0,0,0,0],())),((false,([0,0,0,0],())),())),(((false,([0,0,0,0],())),((false,([0,0,0,0],())),())),()))),())))))))
def Jz(F:Nat){R:Type}(k0:qPS→(List qPI)→Option R):Nat→(List qSM)→qPS→(List qPI)→Int→Option R
 | 0,_,_,_,_=>none
 | n+1,x0,x6,x8,x9 =>
 bif ltI x9 (Az x0) then
 bif inI x9 (List.length x0) then
 (U0 F x6 (An (0,(0,())) x0 x9)).bind fun r10 =>
 bif Bf ((List.length x8)+(List.length r10.2.1)) 192 then
 Jz F k0 n x0 r10.1 (x8++r10.2.1) (Av .i64 x9 1)
 else
 none
 else
 none
 else
 k0 x6 x8
def W9(F:Nat)(x0:(List qSM))(x1:Int):Option ((List qPI)×Int×Unit) :=
 (Ss F x1).bind fun r1 =>
 bif not (eqI r1.2.1 0) then
 some ([],(r1.2.1,()))
 else
 (Sw F x0).bind fun r3 =>
 bif not (eqI r3.1 0) then
 some ([],(7,()))
 else
 bif ltI 1073741824 (Az x0) then
 some ([],(3,()))
 else
 Jz F (fun z13 z14 =>
 (Oa F z13).bind fun r15 =>
 bif Bf ((List.length z14)+(List.length r15.1)) 192 then
 some ((z14++r15.1),(0,()))
 else
 none) F x0 r1.1 [] 0
def Qe(F:Nat)(x0:qPI)(x1:qPI):Option (Bool×Unit) :=
 bif not (eqI x0.2.2.1 x1.2.2.1) then
 some (ltI x0.2.2.1 x1.2.2.1,())
 else
 bif not (eqT .bool x0.2.2.2.1.1 x1.2.2.2.1.1) then
 some (x0.2.2.2.1.1,())
 else
 bif not x0.2.2.2.1.1 then
 (Dn F x0.2.2.2.1.2.1 x1.2.2.2.1.2.1).bind fun r5 =>
 bif not (eqI r5.1 0) then
 some (ltI r5.1 0,())
 else
 (Dn F x0.2.2.2.1.2.2.1 x1.2.2.2.1.2.2.1).bind fun r8 =>
 bif not (eqI r8.1 0) then
 some (ltI r8.1 0,())
 else
 some (ltI x0.1 x1.1,())
 else
 some (ltI x0.1 x1.1,())
def Cw(F:Nat){R:Type}(k0:Int→qL→Bool→Option R):Nat→qL→Int→qL→Bool→Int→Option R
 | 0,_,_,_,_,_=>none
 | n+1,x0,x1,x5,x6,x7 =>
 bif ltI x7 (Az x0) then
 bif not x6 then
 bif inI x7 (List.length x0) then
 bif ltI x1 (An 0 x0 x7) then
 bif Bf ((List.length x5)+1) 8 then
 bif inI x7 (List.length x0) then
 bif Bf ((List.length (x5++[x1]))+1) 8 then
 Cw F k0 n x0 x1 ((x5++[x1])++[An 0 x0 x7]) true (Av .i64 x7 1)
 else
 none
 else
 none
 else
 none
 else
 bif inI x7 (List.length x0) then
 bif Bf ((List.length x5)+1) 8 then
 Cw F k0 n x0 x1 (x5++[An 0 x0 x7]) x6 (Av .i64 x7 1)
 else
 none
 else
 none
 else
 none
 else
 bif inI x7 (List.length x0) then
 bif Bf ((List.length x5)+1) 8 then
 Cw F k0 n x0 x1 (x5++[An 0 x0 x7]) x6 (Av .i64 x7 1)
 else
 none
 else
 none
 else
 k0 x1 x5 x6
def Qf(F:Nat)(x0:qL)(x1:Int):Option (qL×Unit) :=
 Cw F (fun z16 z17 z18 =>
 bif not z18 then
 bif Bf ((List.length z17)+1) 8 then
 some ((z17++[z16]),())
 else
 none
 else
 some (z17,())) F x0 x1 [] false 0
def Sy(F:Nat)(x0:Int):Option (qR×Unit) :=
 (Gf F x0).bind fun r1 =>
 (Q7 F).bind fun r2 =>
 some ((r1.1,(r2.1,())),())
def B4:Nat→Nat→qW→qW→qW→qW→Option (qW×qW×Unit)
 | 0,_,_,_,_,_=>none
 | n+1,F,x0,x1,x2,x3 =>
 (Dh F x0 x1).bind fun r1 =>
 (Df F r1.2.1).bind fun r2 =>
 bif not (eqI r2.1 0) then
 (Gf F 1).bind fun r4 =>
 (Hh F r1.1 r4.1).bind fun r5 =>
 (Fc F r5.1 x3).bind fun r6 =>
 (Gg F r6.1 x2).bind fun r7 =>
 bif leI r7.1 0 then
 (Gf F 1).bind fun r9 =>
 some (r5.1,(r9.1,()))
 else
 (Dh F x0 x1).bind fun r10 =>
 (Fc F r10.1 x3).bind fun r11 =>
 (Lo F x2 r11.1).bind fun r12 =>
 ((B4 n) F x3 r12.1 x1 r10.2.1).bind fun r13 =>
 (Fc F r10.1 r13.1).bind fun r14 =>
 (Hh F r14.1 r13.2.1).bind fun r15 =>
 some (r15.1,(r13.1,()))
 else
 (Fc F r1.1 x3).bind fun r16 =>
 (Gg F r16.1 x2).bind fun r17 =>
 bif leI r17.1 0 then
 (Gf F 1).bind fun r19 =>
 some (r1.1,(r19.1,()))
 else
 (Dh F x0 x1).bind fun r20 =>
 (Fc F r20.1 x3).bind fun r21 =>
 (Lo F x2 r21.1).bind fun r22 =>
 ((B4 n) F x3 r22.1 x1 r20.2.1).bind fun r23 =>
 (Fc F r20.1 r23.1).bind fun r24 =>
 (Hh F r24.1 r23.2.1).bind fun r25 =>
 some (r25.1,(r23.1,()))
def Ki(F:Nat)(x0:qW)(x1:qW)(x2:qW)(x3:qW):Option (qW×qW×Unit) :=
 B4 F F x0 x1 x2 x3
def Ic(F:Nat){R:Type}(kn:qR→qR→qR→Option R)(kret:qR→Bool→Option R)(x2:qR)(x3:qR)(x4:qR)(x36:Bool):Option R :=
 bif x36 then
 (Sy F 0).bind fun r11 =>
 kret r11.1 true
 else
 kn x2 x3 x4
def Ie(F:Nat){R:Type}(kret:qR→Bool→Option R)(x2:qR)(x3:qR)(x4:qR):Option R :=
 (Df F x3.1).bind fun r15 =>
 bif ltI r15.1 0 then
 (Lm F x3.1).bind fun r17 =>
 (Lm F x2.1).bind fun r18 =>
 (Ki F r17.1 x3.2.1 r18.1 x2.2.1).bind fun r19 =>
 (Lm F r19.1).bind fun r20 =>
 kret (r20.1,(r19.2.1,())) true
 else
 (Ki F x2.1 x2.2.1 x3.1 x3.2.1).bind fun r21 =>
 kret (r21.1,(r21.2.1,())) true
def Oy(F:Nat)(x0:qR)(x1:qR):Option (qR×Bool×Unit) :=
 (Fu F x0).bind fun r1 =>
 bif not r1.1 then
 some (((false,([0,0,0,0],())),((false,([0,0,0,0],())),())),(false,()))
 else
 (Fu F x1).bind fun r3 =>
 bif not r3.1 then
 some (((false,([0,0,0,0],())),((false,([0,0,0,0],())),())),(false,()))
 else
 (Dn F x0 x1).bind fun r5 =>
 bif ltI 0 r5.1 then
 some (((false,([0,0,0,0],())),((false,([0,0,0,0],())),())),(false,()))
 else
 (Df F x0.1).bind fun r7 =>
 bif leI r7.1 0 then
 (Df F x1.1).bind fun r9 =>
 Ic F (fun z12 z13 z14 =>
 Ie F (fun z22 z23 =>
 some (z22,(z23,()))) z12 z13 z14) (fun z24 z25 =>
 some (z24,(z25,()))) x0 x1 ((false,([0,0,0,0],())),((false,([0,0,0,0],())),())) (leI 0 r9.1)
 else
 Ic F (fun z26 z27 z28 =>
 Ie F (fun z29 z30 =>
 some (z29,(z30,()))) z26 z27 z28) (fun z31 z32 =>
 some (z31,(z32,()))) x0 x1 ((false,([0,0,0,0],())),((false,([0,0,0,0],())),())) false
def Ob(F:Nat)(x0:qCO):Option (qR×Unit) :=
 (Jj F x0).bind fun r1 =>
 bif not r1.1 then
 some (((false,([0,0,0,0],())),((false,([0,0,0,0],())),())),())
 else
 bif x0.1 then
 (Sy F 0).bind fun r3 =>
 some (r3.1,())
 else
 (Oy F x0.2.1 x0.2.2.1).bind fun r4 =>
 some (r4.1,())
def H1(F:Nat){R:Type}(k2:(List qPI)→Int→Option R)(kret:(List qG)→Int→Option R):Nat→(List qPI)→Int→Int→Option R
 | 0,_,_,_=>none
 | n+1,x0,x4,x5 =>
 bif ltI x5 x4 then
 bif inI x5 (List.length x0) then
 bif inI x4 (List.length x0) then
 bif eqI (An (0,(0,(0,((false,(((false,([0,0,0,0],())),((false,([0,0,0,0],())),())),(((false,([0,0,0,0],())),((false,([0,0,0,0],())),())),()))),())))) x0 x5).1 (An (0,(0,(0,((false,(((false,([0,0,0,0],())),((false,([0,0,0,0],())),())),(((false,([0,0,0,0],())),((false,([0,0,0,0],())),())),()))),())))) x0 x4).1 then
 kret [] 1
 else
 H1 F k2 kret n x0 x4 (Av .i64 x5 1)
 else
 none
 else
 none
 else
 k2 x0 x4
def Gh(F:Nat){R:Type}(k0:(List qPI)→Option R)(kret:(List qG)→Int→Option R):Nat→(List qPI)→Int→Option R
 | 0,_,_=>none
 | n+1,x0,x4 =>
 bif ltI x4 (Az x0) then
 bif inI x4 (List.length x0) then
 (Jj F (An (0,(0,(0,((false,(((false,([0,0,0,0],())),((false,([0,0,0,0],())),())),(((false,([0,0,0,0],())),((false,([0,0,0,0],())),())),()))),())))) x0 x4).2.2.2.1).bind fun r4 =>
 bif not r4.1 then
 kret [] 1
 else
 bif inI x4 (List.length x0) then
 bif ltI (An (0,(0,(0,((false,(((false,([0,0,0,0],())),((false,([0,0,0,0],())),())),(((false,([0,0,0,0],())),((false,([0,0,0,0],())),())),()))),())))) x0 x4).1 0 then
 kret [] 1
 else
 H1 F (fun z13 z14 =>
 Gh F k0 kret n z13 (Av .i64 z14 1)) (fun z16 z17 =>
 kret z16 z17) F x0 x4 0
 else
 none
 else
 none
 else
 k0 x0
def G0(F:Nat){R:Type}(k6:(List qPI)→Int→Option R):Nat→(List qPI)→Int→Int→Option R
 | 0,_,_,_=>none
 | n+1,x0,x6,x7 =>
 bif ltI 0 x7 then
 bif inI x7 (List.length x0) then
 bif inI (Bj .i64 x7 1) (List.length x0) then
 (Qe F (An (0,(0,(0,((false,(((false,([0,0,0,0],())),((false,([0,0,0,0],())),())),(((false,([0,0,0,0],())),((false,([0,0,0,0],())),())),()))),())))) x0 x7) (An (0,(0,(0,((false,(((false,([0,0,0,0],())),((false,([0,0,0,0],())),())),(((false,([0,0,0,0],())),((false,([0,0,0,0],())),())),()))),())))) x0 (Bj .i64 x7 1))).bind fun r26 =>
 bif r26.1 then
 bif inI (Bj .i64 x7 1) (List.length x0) then
 let x86v29:=An (0,(0,(0,((false,(((false,([0,0,0,0],())),((false,([0,0,0,0],())),())),(((false,([0,0,0,0],())),((false,([0,0,0,0],())),())),()))),())))) x0 (Bj .i64 x7 1)
 bif inI x7 (List.length x0) then
 bif inI x7 (List.length x0) then
 bif inI (Bj .i64 x7 1) (List.length (Cd x0 x7 x86v29)) then
 G0 F k6 n (Cd (Cd x0 x7 x86v29) (Bj .i64 x7 1) (An (0,(0,(0,((false,(((false,([0,0,0,0],())),((false,([0,0,0,0],())),())),(((false,([0,0,0,0],())),((false,([0,0,0,0],())),())),()))),())))) x0 x7)) x6 (Bj .i64 x7 1)
 else
 none
 else
 none
 else
 none
 else
 none
 else
 k6 x0 x6
 else
 none
 else
 none
 else
 k6 x0 x6
def Fj(F:Nat){R:Type}(k4:(List qPI)→Option R):Nat→(List qPI)→Int→Option R
 | 0,_,_=>none
 | n+1,x0,x6 =>
 bif ltI x6 (Az x0) then
 G0 F (fun z34 z35 =>
 Fj F k4 n z34 (Av .i64 z35 1)) F x0 x6 x6
 else
 k4 x0
def Fk(F:Nat){R:Type}(k9:(List qPI)→(List qG)→qCO→Int→Option R)(kn:(List qPI)→(List qG)→qCO→Int→Option R)(x0:(List qPI))(x8:(List qG))(x9:qCO)(x10:Int)(x11:qCO)(x13:Int)(x130:Bool):Option R :=
 bif x130 then
 bif inI x13 (List.length x8) then
 bif inI x10 (List.length x0) then
 (Qf F (An (0,(((false,([0,0,0,0],())),((false,([0,0,0,0],())),())),([],()))) x8 x13).2.2.1 (An (0,(0,(0,((false,(((false,([0,0,0,0],())),((false,([0,0,0,0],())),())),(((false,([0,0,0,0],())),((false,([0,0,0,0],())),())),()))),())))) x0 x10).1).bind fun r50 =>
 bif inI x13 (List.length x8) then
 let x8v51:=Cd x8 x13 ((An (0,(((false,([0,0,0,0],())),((false,([0,0,0,0],())),())),([],()))) x8 x13).1,((An (0,(((false,([0,0,0,0],())),((false,([0,0,0,0],())),())),([],()))) x8 x13).2.1,(r50.1,(An (0,(((false,([0,0,0,0],())),((false,([0,0,0,0],())),())),([],()))) x8 x13).2.2.2)))
 (Ob F x11).bind fun r52 =>
 bif inI x13 (List.length x8v51) then
 k9 x0 (Cd x8v51 x13 ((An (0,(((false,([0,0,0,0],())),((false,([0,0,0,0],())),())),([],()))) x8v51 x13).1,(r52.1,(An (0,(((false,([0,0,0,0],())),((false,([0,0,0,0],())),())),([],()))) x8v51 x13).2.2))) x11 x10
 else
 none
 else
 none
 else
 none
 else
 none
 else
 kn x0 x8 x9 x10
def Il(F:Nat){R:Type}(kn:(List qPI)→(List qG)→qCO→Int→Option R)(x0:(List qPI))(x8:(List qG))(x9:qCO)(x10:Int):Option R :=
 bif inI x10 (List.length x0) then
 let x157v63:=(An (0,(0,(0,((false,(((false,([0,0,0,0],())),((false,([0,0,0,0],())),())),(((false,([0,0,0,0],())),((false,([0,0,0,0],())),())),()))),())))) x0 x10).2.2.2.1
 bif inI x10 (List.length x0) then
 (Ob F x157v63).bind fun r65 =>
 bif inI x10 (List.length x0) then
 bif Bf ((List.length x8)+1) 112 then
 kn x0 (x8++[((An (0,(0,(0,((false,(((false,([0,0,0,0],())),((false,([0,0,0,0],())),())),(((false,([0,0,0,0],())),((false,([0,0,0,0],())),())),()))),())))) x0 x10).2.2.1,(r65.1,([(An (0,(0,(0,((false,(((false,([0,0,0,0],())),((false,([0,0,0,0],())),())),(((false,([0,0,0,0],())),((false,([0,0,0,0],())),())),()))),())))) x0 x10).1],())))]) x157v63 x10
 else
 none
 else
 none
 else
 none
 else
 none
def B2(F:Nat){R:Type}(k8:(List qG)→Option R):Nat→(List qPI)→(List qG)→qCO→Int→Option R
 | 0,_,_,_,_=>none
 | n+1,x0,x8,x9,x10 =>
 bif ltI x10 (Az x0) then
 bif inI x10 (List.length x0) then
 (Sa F x9 (An (0,(0,(0,((false,(((false,([0,0,0,0],())),((false,([0,0,0,0],())),())),(((false,([0,0,0,0],())),((false,([0,0,0,0],())),())),()))),())))) x0 x10).2.2.2.1).bind fun r41 =>
 bif ltI 0 x10 then
 bif r41.2.1 then
 bif inI (Bj .i64 (Az x8) 1) (List.length x8) then
 bif inI x10 (List.length x0) then
 Fk F (fun z54 z55 z56 z57 =>
 B2 F k8 n z54 z55 z56 (Av .i64 z57 1)) (fun z59 z60 z61 z62 =>
 Il F (fun z68 z69 z70 z71 =>
 B2 F k8 n z68 z69 z70 (Av .i64 z71 1)) z59 z60 z61 z62) x0 x8 x9 x10 r41.1 (Bj .i64 (Az x8) 1) (eqI (An (0,(((false,([0,0,0,0],())),((false,([0,0,0,0],())),())),([],()))) x8 (Bj .i64 (Az x8) 1)).1 (An (0,(0,(0,((false,(((false,([0,0,0,0],())),((false,([0,0,0,0],())),())),(((false,([0,0,0,0],())),((false,([0,0,0,0],())),())),()))),())))) x0 x10).2.2.1)
 else
 none
 else
 none
 else
 Fk F (fun z73 z74 z75 z76 =>
 B2 F k8 n z73 z74 z75 (Av .i64 z76 1)) (fun z78 z79 z80 z81 =>
 Il F (fun z82 z83 z84 z85 =>
 B2 F k8 n z82 z83 z84 (Av .i64 z85 1)) z78 z79 z80 z81) x0 x8 x9 x10 r41.1 (Bj .i64 (Az x8) 1) false
 else
 Fk F (fun z87 z88 z89 z90 =>
 B2 F k8 n z87 z88 z89 (Av .i64 z90 1)) (fun z92 z93 z94 z95 =>
 Il F (fun z96 z97 z98 z99 =>
 B2 F k8 n z96 z97 z98 (Av .i64 z99 1)) z92 z93 z94 z95) x0 x8 x9 x10 r41.1 (Bj .i64 (Az x8) 1) false
 else
 none
 else
 k8 x8
def U1(F:Nat)(x0:(List qPI)):Option ((List qG)×Int×Unit) :=
 Gh F (fun z18 =>
 bif Bf (0+(List.length z18)) 192 then
 Fj F (fun z37 =>
 B2 F (fun z101 =>
 some (z101,(0,()))) F z37 [] (false,(((false,([0,0,0,0],())),((false,([0,0,0,0],())),())),(((false,([0,0,0,0],())),((false,([0,0,0,0],())),())),()))) 0) F ([]++z18) 0
 else
 none) (fun z102 z103 =>
 some (z102,(z103,()))) F x0 0
def U2(F:Nat)(x0:qTP):Option (qTP×(List qG)×Int×Unit) :=
 (Nt F x0 30).bind fun r1 =>
 (Hx F r1.1).bind fun r2 =>
 (W9 F r1.2.1 r2.2.1).bind fun r3 =>
 (U1 F r3.1).bind fun r4 =>
 some (r2.1,(r4.1,(Az r1.2.1,())))
def Im(F:Nat){R:Type}(k0:(List qG)→Option R)(kret:Int→Option R):Nat→(List qG)→Int→Int→Option R
 | 0,_,_,_=>none
 | n+1,x0,x3,x4 =>
 bif ltI x4 (Az x0) then
 bif inI x4 (List.length x0) then
 bif ltI x3 (Az (An (0,(((false,([0,0,0,0],())),((false,([0,0,0,0],())),())),([],()))) x0 x4).2.2.1) then
 kret 3
 else
 bif inI x4 (List.length x0) then
 Im F k0 kret n x0 (Bj .i64 x3 (Az (An (0,(((false,([0,0,0,0],())),((false,([0,0,0,0],())),())),([],()))) x0 x4).2.2.1)) (Av .i64 x4 1)
 else
 none
 else
 none
 else
 k0 x0
def Ei(F:Nat){R:Type}(k4:(List qG)→(List Bool)→Int→Option R)(kret:Int→Option R):Nat→(List qG)→(List Bool)→Int→qG→Int→Option R
 | 0,_,_,_,_,_=>none
 | n+1,x0,x5,x6,x7,x8 =>
 bif ltI x8 (Az x7.2.2.1) then
 bif inI x8 (List.length x7.2.2.1) then
 let x103v34:=An 0 x7.2.2.1 x8
 bif ltI x103v34 0 then
 kret 1
 else
 bif leI 4096 x103v34 then
 kret 1
 else
 bif ltI 0 x8 then
 bif inI (Bj .i64 x8 1) (List.length x7.2.2.1) then
 bif leI x103v34 (An 0 x7.2.2.1 (Bj .i64 x8 1)) then
 kret 1
 else
 bif inI x103v34 (List.length x5) then
 bif An false x5 x103v34 then
 kret 1
 else
 bif inI x103v34 (List.length x5) then
 Ei F k4 kret n x0 (Cd x5 x103v34 true) x6 x7 (Av .i64 x8 1)
 else
 none
 else
 none
 else
 none
 else
 bif inI x103v34 (List.length x5) then
 bif An false x5 x103v34 then
 kret 1
 else
 bif inI x103v34 (List.length x5) then
 Ei F k4 kret n x0 (Cd x5 x103v34 true) x6 x7 (Av .i64 x8 1)
 else
 none
 else
 none
 else
 none
 else
 k4 x0 x5 x6
def Hi(F:Nat){R:Type}(kn:(List qG)→(List Bool)→Int→Option R)(kret:Int→Option R)(x0:(List qG))(x5:(List Bool))(x6:Int)(x7:qG):Option R :=
 Ei F (fun z47 z48 z49 =>
 kn z47 z48 z49) (fun z50 =>
 kret z50) F x0 x5 x6 x7 0
def C9(F:Nat){R:Type}(k2:Option R)(kret:Int→Option R):Nat→(List qG)→(List Bool)→Int→Option R
 | 0,_,_,_=>none
 | n+1,x0,x5,x6 =>
 bif ltI x6 (Az x0) then
 bif inI x6 (List.length x0) then
 let x45v16:=An (0,(((false,([0,0,0,0],())),((false,([0,0,0,0],())),())),([],()))) x0 x6
 (Fu F x45v16.2.1).bind fun r17 =>
 bif not r17.1 then
 kret 1
 else
 bif eqI (Az x45v16.2.2.1) 0 then
 kret 1
 else
 bif ltI 0 x6 then
 bif inI (Bj .i64 x6 1) (List.length x0) then
 bif ltI x45v16.1 (An (0,(((false,([0,0,0,0],())),((false,([0,0,0,0],())),())),([],()))) x0 (Bj .i64 x6 1)).1 then
 kret 1
 else
 bif inI (Bj .i64 x6 1) (List.length x0) then
 bif eqI (An (0,(((false,([0,0,0,0],())),((false,([0,0,0,0],())),())),([],()))) x0 (Bj .i64 x6 1)).1 x45v16.1 then
 bif inI (Bj .i64 x6 1) (List.length x0) then
 (Dn F (An (0,(((false,([0,0,0,0],())),((false,([0,0,0,0],())),())),([],()))) x0 (Bj .i64 x6 1)).2.1 x45v16.2.1).bind fun r30 =>
 bif leI 0 r30.1 then
 kret 1
 else
 Hi F (fun z51 z52 z53 =>
 C9 F k2 kret n z51 z52 (Av .i64 z53 1)) (fun z55 =>
 kret z55) x0 x5 x6 x45v16
 else
 none
 else
 Hi F (fun z56 z57 z58 =>
 C9 F k2 kret n z56 z57 (Av .i64 z58 1)) (fun z60 =>
 kret z60) x0 x5 x6 x45v16
 else
 none
 else
 none
 else
 Hi F (fun z61 z62 z63 =>
 C9 F k2 kret n z61 z62 (Av .i64 z63 1)) (fun z65 =>
 kret z65) x0 x5 x6 x45v16
 else
 none
 else
 k2
def Jk(F:Nat)(x0:(List qG)):Option (Int×Unit) :=
 bif ltI 4096 (Az x0) then
 some (3,())
 else
 Im F (fun z12 =>
 bif I7 4096 4096 1 then
 C9 F (
 some (0,())) (fun z66 =>
 some (z66,())) F z12 (Cl 4096 (false:Bool)) 0
 else
 none) (fun z67 =>
 some (z67,())) F x0 4096 0
def D5(F:Nat){R:Type}(k0:qL→Int→Option R):Nat→qL→qW→qW→Int→Option R
 | 0,_,_,_,_=>none
 | n+1,x5,x7,x8,x12 =>
 (Df F x7).bind fun r10 =>
 bif not (eqI r10.1 0) then
 bif Bf ((List.length x5)+1) 1 then
 (Gf F 128).bind fun r14 =>
 (Dh F x7 r14.1).bind fun r15 =>
 (Fh F r15.2.1).bind fun r16 =>
 D5 F k0 n (x5++[Av .u8 x12 128]) r15.1 r15.2.1 (IntKind.wrap .u8 r16.1)
 else
 none
 else
 k0 x5 x12
def Fv(F:Nat){R:Type}(kret:qL→Option R)(x5:qL)(x7:qW)(x8:qW)(x12:Int):Option R :=
 D5 F (fun z18 z19 =>
 bif Bf ((List.length z18)+1) 1 then
 kret (z18++[z19])
 else
 none) F x5 x7 x8 x12
def Ig(F:Nat)(x0:qL)(x1:qW):Option (qL×Unit) :=
 bif Bf (0+(List.length x0)) 1 then
 (Gf F 64).bind fun r2 =>
 (Dh F (false,x1.2) r2.1).bind fun r3 =>
 (Fh F r3.2.1).bind fun r4 =>
 let x32v5:=I6 .u64 2 r4.1
 (Df F x1).bind fun r7 =>
 bif ltI r7.1 0 then
 Fv F (fun z21 =>
 some (z21,())) ([]++x0) r3.1 r3.2.1 (Av .u8 (IntKind.wrap .u8 x32v5) 1)
 else
 Fv F (fun z22 =>
 some (z22,())) ([]++x0) r3.1 r3.2.1 (IntKind.wrap .u8 x32v5)
 else
 none
def J0(F:Nat)(x0:qL)(x1:qR):Option (qL×Unit) :=
 (Ig F x0 x1.1).bind fun r1 =>
 (Ig F r1.1 x1.2.1).bind fun r2 =>
 some (r2.1,())
def Hj(F:Nat){R:Type}(k0:Int→qL→Option R):Nat→Int→qL→Option R
 | 0,_,_=>none
 | n+1,x1,x5 =>
 bif leI 128 x1 then
 bif Bf ((List.length x5)+1) 1 then
 Hj F k0 n (Ht .u64 x1 128) (x5++[Av .u8 (IntKind.wrap .u8 (I9 x1 128)) 128])
 else
 none
 else
 k0 x1 x5
def La(F:Nat)(x0:qL)(x1:Int):Option (qL×Unit) :=
 bif Bf (0+(List.length x0)) 1 then
 Hj F (fun z8 z9 =>
 bif Bf ((List.length z9)+1) 1 then
 some ((z9++[IntKind.wrap .u8 z8]),())
 else
 none) F x1 ([]++x0)
 else
 none
def Yf(F:Nat)(x0:Int)(x1:Int):Option (Int×Unit) :=
 some (Bj .u64 (IntKind.wrap .u64 x0) (IntKind.wrap .u64 x1),())
def Bd(F:Nat){R:Type}(k0:qL→Option R):Nat→qL→qL→Int→Option R
 | 0,_,_,_=>none
 | n+1,x0,x3,x4 =>
 bif ltI x4 (Az x0) then
 bif eqI x4 0 then
 bif inI 0 (List.length x0) then
 bif Bf ((List.length x3)+1) 8 then
 Bd F k0 n x0 (x3++[An 0 x0 0]) (Av .i64 x4 1)
 else
 none
 else
 none
 else
 bif inI x4 (List.length x0) then
 bif inI (Bj .i64 x4 1) (List.length x0) then
 (Yf F (An 0 x0 x4) (An 0 x0 (Bj .i64 x4 1))).bind fun r10 =>
 bif Bf ((List.length x3)+1) 8 then
 Bd F k0 n x0 (x3++[IntKind.wrap .i64 r10.1]) (Av .i64 x4 1)
 else
 none
 else
 none
 else
 none
 else
 k0 x3
def J1(F:Nat)(x0:qL):Option (qL×Unit) :=
 Bd F (fun z14 =>
 some (z14,())) F x0 [] 0
def Qg(F:Nat)(x0:Int):Option (Int×Unit) :=
 bif leI 0 x0 then
 some (I6 .u64 2 (IntKind.wrap .u64 x0),())
 else
 some (Av .u64 (I6 .u64 2 (IntKind.wrap .u64 (Bj .i64 0 (Av .i64 x0 1)))) 1,())
def Eo(F:Nat){R:Type}(k0:qL→Option R):Nat→qL→Int→Int→Option R
 | 0,_,_,_=>none
 | n+1,x0,x1,x6 =>
 bif ltI x6 x1 then
 (J1 F x0).bind fun r4 =>
 Eo F k0 n r4.1 x1 (Av .i64 x6 1)
 else
 k0 x0
def Ep(F:Nat){R:Type}(k2:qL→Option R):Nat→qL→qL→Int→Option R
 | 0,_,_,_=>none
 | n+1,x0,x7,x8 =>
 bif ltI x8 (Az x0) then
 bif inI x8 (List.length x0) then
 (Qg F (An 0 x0 x8)).bind fun r12 =>
 bif inI x8 (List.length x7) then
 Ep F k2 n x0 (Cd x7 x8 r12.1) (Av .i64 x8 1)
 else
 none
 else
 none
 else
 k2 x7
def Jl(F:Nat)(x0:qL)(x1:Int):Option (qL×Bool×Unit) :=
 bif ltI x1 0 then
 some ([],(false,()))
 else
 bif ltI 2 x1 then
 some ([],(false,()))
 else
 Eo F (fun z6 =>
 bif I7 (Az z6) (Az z6) 8 then
 Ep F (fun z15 =>
 some (z15,(true,()))) F z6 (Cl (Az z6) (0:Int)) 0
 else
 none) F x0 x1 0
def U3(F:Nat)(x0:Int):Option (Int×Unit) :=
 (La F [] x0).bind fun r1 =>
 some (Az r1.1,())
def G1(F:Nat){R:Type}(k2:qL→Int→Int→Option R):Nat→qL→Int→Int→Option R
 | 0,_,_,_=>none
 | n+1,x0,x3,x4 =>
 bif ltI x3 64 then
 bif inI x4 (List.length x0) then
 bif ltI (IntKind.wrap .u64 x3) 0 then
 none
 else
 bif not (eqI (Fg .u64 (An 0 x0 x4) (IntKind.wrap .u64 x3)) 0) then
 G1 F k2 n x0 (Av .i64 x3 1) x4
 else
 k2 x0 x3 x4
 else
 none
 else
 k2 x0 x3 x4
def G4(F:Nat){R:Type}(k0:Int→Option R):Nat→qL→Int→Int→Option R
 | 0,_,_,_=>none
 | n+1,x0,x3,x4 =>
 bif ltI x4 (Az x0) then
 G1 F (fun z9 z10 z11 =>
 G4 F k0 n z9 z10 (Av .i64 z11 1)) F x0 x3 x4
 else
 k0 x3
def S0(F:Nat)(x0:qL):Option (Int×Unit) :=
 G4 F (fun z13 =>
 some (z13,())) F x0 0 0
def Pt(F:Nat)(x0:Int)(x1:Int):Option (Int×Unit) :=
 bif ltI x0 0 then
 some ((-1),())
 else
 bif ltI 65536 x0 then
 some ((-1),())
 else
 bif ltI x1 0 then
 some ((-1),())
 else
 bif ltI 64 x1 then
 some ((-1),())
 else
 some (Ht .i64 (Av .i64 (I6 .i64 x0 x1) 7) 8,())
def J2(F:Nat){R:Type}(k2:qL→Int→qL→Int→Option R):Nat→qL→Int→qL→Int→Int→Option R
 | 0,_,_,_,_,_=>none
 | n+1,x0,x1,x7,x8,x9 =>
 bif ltI x9 x1 then
 bif inI (Ht .i64 (Av .i64 (I6 .i64 x8 x1) x9) 8) (List.length x7) then
 bif inI x8 (List.length x0) then
 bif ltI (IntKind.wrap .u64 x9) 0 then
 none
 else
 bif ltI (IntKind.wrap .u64 (I9 (Av .i64 (I6 .i64 x8 x1) x9) 8)) 0 then
 none
 else
 bif inI (Ht .i64 (Av .i64 (I6 .i64 x8 x1) x9) 8) (List.length x7) then
 J2 F k2 n x0 x1 (Cd x7 (Ht .i64 (Av .i64 (I6 .i64 x8 x1) x9) 8) (orI .u8 (An 0 x7 (Ht .i64 (Av .i64 (I6 .i64 x8 x1) x9) 8)) (Hv .u8 (IntKind.wrap .u8 (Wp .u64 (Fg .u64 (An 0 x0 x8) (IntKind.wrap .u64 x9)) 1)) (IntKind.wrap .u64 (I9 (Av .i64 (I6 .i64 x8 x1) x9) 8))))) x8 (Av .i64 x9 1)
 else
 none
 else
 none
 else
 none
 else
 k2 x0 x1 x7 x8
def H2(F:Nat){R:Type}(k0:qL→Option R):Nat→qL→Int→qL→Int→Option R
 | 0,_,_,_,_=>none
 | n+1,x0,x1,x7,x8 =>
 bif ltI x8 (Az x0) then
 J2 F (fun z25 z26 z27 z28 =>
 H2 F k0 n z25 z26 z27 (Av .i64 z28 1)) F x0 x1 x7 x8 0
 else
 k0 x7
def Pb(F:Nat)(x0:qL)(x1:Int):Option (qL×Bool×Unit) :=
 (Pt F (Az x0) x1).bind fun r2 =>
 bif ltI r2.1 0 then
 some ([],(false,()))
 else
 (S0 F x0).bind fun r4 =>
 bif ltI x1 r4.1 then
 some ([],(false,()))
 else
 bif I7 r2.1 r2.1 1 then
 H2 F (fun z30 =>
 some (z30,(true,()))) F x0 x1 (Cl r2.1 (0:Int)) 0
 else
 none
def Hk(F:Nat){R:Type}(k0:qL→Int→Option R):Nat→qL→Int→Int→Option R
 | 0,_,_,_=>none
 | n+1,x0,x4,x5 =>
 bif ltI x5 (Az x0) then
 bif inI x5 (List.length x0) then
 (U3 F (An 0 x0 x5)).bind fun r6 =>
 Hk F k0 n x0 (Av .i64 x4 r6.1) (Av .i64 x5 1)
 else
 none
 else
 k0 x0 x4
def F2(F:Nat){R:Type}(k2:qL→Option R):Nat→qL→qL→Int→Option R
 | 0,_,_,_=>none
 | n+1,x0,x9,x10 =>
 bif ltI x10 (Az x0) then
 bif inI x10 (List.length x0) then
 (La F [] (An 0 x0 x10)).bind fun r22 =>
 bif Bf ((List.length x9)+(List.length r22.1)) 1 then
 F2 F k2 n x0 (x9++r22.1) (Av .i64 x10 1)
 else
 none
 else
 none
 else
 k2 x9
def Fl(F:Nat)(x0:qL):Option (qL×Int×Unit) :=
 bif ltI 65536 (Az x0) then
 some ([],(3,()))
 else
 Hk F (fun z9 z10 =>
 (S0 F z9).bind fun r11 =>
 (Pb F z9 r11.1).bind fun r12 =>
 bif ltI (Av .i64 2 (Az r12.1)) z10 then
 bif Bf (2+(List.length r12.1)) 1 then
 some (([1,IntKind.wrap .u8 r11.1]++r12.1),(0,()))
 else
 none
 else
 bif I7 1 z10 1 then
 F2 F (fun z25 =>
 some (z25,(0,()))) F z9 (Cl 1 (0:Int)) 0
 else
 none) F x0 1 0
def Bx(F:Nat){R:Type}(k0:qL→Option R):Nat→qL→qL→Int→Option R
 | 0,_,_,_=>none
 | n+1,x0,x4,x5 =>
 bif leI x5 2 then
 (Jl F x0 x5).bind fun r4 =>
 (Fl F r4.1).bind fun r5 =>
 bif eqI x5 0 then
 bif Bf (1+(List.length r5.1)) 1 then
 Bx F k0 n x0 ([IntKind.wrap .u8 x5]++r5.1) (Av .i64 x5 1)
 else
 none
 else
 bif ltI (Av .i64 1 (Az r5.1)) (Az x4) then
 bif Bf (1+(List.length r5.1)) 1 then
 Bx F k0 n x0 ([IntKind.wrap .u8 x5]++r5.1) (Av .i64 x5 1)
 else
 none
 else
 Bx F k0 n x0 x4 (Av .i64 x5 1)
 else
 k0 x4
def Oc(F:Nat)(x0:qL):Option (qL×Int×Unit) :=
 bif ltI 65536 (Az x0) then
 some ([],(3,()))
 else
 Bx F (fun z18 =>
 some (z18,(0,()))) F x0 [] 0
def J3(F:Nat){R:Type}(k0:qL→Option R):Nat→qL→qL→Int→Option R
 | 0,_,_,_=>none
 | n+1,x0,x3,x4 =>
 bif ltI x4 (Az x0) then
 bif inI x4 (List.length x0) then
 bif Bf ((List.length x3)+1) 8 then
 J3 F k0 n x0 (x3++[IntKind.wrap .u64 (Bj .i64 (An 0 x0 x4) 1)]) (Av .i64 x4 1)
 else
 none
 else
 none
 else
 k0 x3
def U4(F:Nat)(x0:qL):Option (qL×Unit) :=
 J3 F (fun z8 =>
 some (z8,())) F x0 [] 0
def Dt(F:Nat){R:Type}(k2:(List qG)→qL→qL→qL→qL→Int→Option R):Nat→(List qG)→qL→qL→qL→qL→Int→Int→Option R
 | 0,_,_,_,_,_,_,_=>none
 | n+1,x0,x5,x6,x7,x8,x9,x10 =>
 bif inI x9 (List.length x0) then
 bif ltI x10 (Az (An (0,(((false,([0,0,0,0],())),((false,([0,0,0,0],())),())),([],()))) x0 x9).2.2.1) then
 bif inI x9 (List.length x0) then
 let x68v15:=(An (0,(((false,([0,0,0,0],())),((false,([0,0,0,0],())),())),([],()))) x0 x9).2.2.1
 bif inI x10 (List.length x68v15) then
 bif ltI 0 x10 then
 bif inI x9 (List.length x0) then
 let x79v18:=(An (0,(((false,([0,0,0,0],())),((false,([0,0,0,0],())),())),([],()))) x0 x9).2.2.1
 bif inI (Bj .i64 x10 1) (List.length x79v18) then
 bif Bf ((List.length x7)+1) 8 then
 Dt F k2 n x0 x5 x6 (x7++[IntKind.wrap .u64 (Bj .i64 (An 0 x68v15 x10) (Av .i64 (An 0 x79v18 (Bj .i64 x10 1)) 1))]) x8 x9 (Av .i64 x10 1)
 else
 none
 else
 none
 else
 none
 else
 bif Bf ((List.length x7)+1) 8 then
 Dt F k2 n x0 x5 x6 (x7++[IntKind.wrap .u64 (An 0 x68v15 x10)]) x8 x9 (Av .i64 x10 1)
 else
 none
 else
 none
 else
 none
 else
 k2 x0 x5 x6 x7 x8 x9
 else
 none
def Ej(F:Nat){R:Type}(k0:(List qG)→qL→qL→qL→qL→Option R):Nat→(List qG)→qL→qL→qL→qL→Int→Option R
 | 0,_,_,_,_,_,_=>none
 | n+1,x0,x5,x6,x7,x8,x9 =>
 bif ltI x9 (Az x0) then
 bif inI x9 (List.length x0) then
 bif Bf ((List.length x5)+1) 8 then
 bif inI x9 (List.length x0) then
 bif Bf ((List.length x6)+1) 8 then
 bif inI x9 (List.length x0) then
 (J0 F x8 (An (0,(((false,([0,0,0,0],())),((false,([0,0,0,0],())),())),([],()))) x0 x9).2.1).bind fun r11 =>
 Dt F (fun z29 z30 z31 z32 z33 z34 =>
 Ej F k0 n z29 z30 z31 z32 z33 (Av .i64 z34 1)) F x0 (x5++[(An (0,(((false,([0,0,0,0],())),((false,([0,0,0,0],())),())),([],()))) x0 x9).1]) (x6++[Az (An (0,(((false,([0,0,0,0],())),((false,([0,0,0,0],())),())),([],()))) x0 x9).2.2.1]) x7 r11.1 x9 0
 else
 none
 else
 none
 else
 none
 else
 none
 else
 none
 else
 k0 x0 x5 x6 x7 x8
def Qh(F:Nat)(x0:(List qG)):Option (qL×Int×Unit) :=
 (Jk F x0).bind fun r1 =>
 bif not (eqI r1.1 0) then
 some ([],(r1.1,()))
 else
 Ej F (fun z36 z37 z38 z39 z40 =>
 (La F [] (IntKind.wrap .u64 (Az z36))).bind fun r43 =>
 (Oc F z37).bind fun r44 =>
 (U4 F z38).bind fun r45 =>
 (Fl F r45.1).bind fun r46 =>
 (Fl F z39).bind fun r47 =>
 bif Bf ((List.length r43.1)+(List.length r44.1)) 1 then
 let x94v48:=(r43.1++r44.1)
 bif Bf ((List.length x94v48)+(List.length z40)) 1 then
 bif Bf ((List.length (x94v48++z40))+(List.length r46.1)) 1 then
 bif Bf ((List.length ((x94v48++z40)++r46.1))+(List.length r47.1)) 1 then
 some ((((x94v48++z40)++r46.1)++r47.1),(0,()))
 else
 none
 else
 none
 else
 none
 else
 none) F x0 [] [] [] [] 0
def Ip(F:Nat){R:Type}(k0:qTP→qL→Option R):Nat→qTP→Int→qL→Int→Option R
 | 0,_,_,_,_=>none
 | n+1,x0,x3,x4,x5 =>
 bif leI x5 x3 then
 (Ap F x0 4).bind fun r11 =>
 bif Bf ((List.length x4)+1) 1 then
 Ip F k0 n r11.1 x3 (x4++[IntKind.wrap .u8 r11.2.1]) (Av .i64 x5 1)
 else
 none
 else
 k0 x0 x4
def S1(F:Nat)(x0:qTP):Option (qTP×qL×Unit) :=
 (Ap F x0 3).bind fun r1 =>
 (Ap F r1.1 6).bind fun r2 =>
 (Ap F r2.1 5).bind fun r4 =>
 (Ap F r4.1 3).bind fun r6 =>
 Ip F (fun z15 z16 =>
 some (z15,(z16,()))) F r6.1 r1.2.1 [1,0,0,IntKind.wrap .u8 r2.2.1,IntKind.wrap .u8 r4.2.1,IntKind.wrap .u8 (I6 .i64 2 r6.2.1),0,IntKind.wrap .u8 r1.2.1,0] 0
def Er(F:Nat){R:Type}(k0:Int→Option R):Nat→Int→(List qG)→Int→Int→Option R
 | 0,_,_,_,_=>none
 | n+1,x3,x6,x7,x8 =>
 bif ltI x8 x7 then
 bif inI x8 (List.length x6) then
 Er F k0 n (Av .i64 x3 (Az (An (0,(((false,([0,0,0,0],())),((false,([0,0,0,0],())),())),([],()))) x6 x8).2.2.1)) x6 x7 (Av .i64 x8 1)
 else
 none
 else
 k0 x3
def Jm(F:Nat)(x0:(List qG)):Option (Int×Unit) :=
 Er F (fun z7 =>
 some (z7,())) F 0 x0 (Az x0) 0
def J4(F:Nat)(x0:qW):Option (Bool×Unit) :=
 bif not x0.1 then
 some (true,())
 else
 some (not (eqT (.arr 4 (.int .u64)) x0.2.1 [0,0,0,0]),())
def F3(F:Nat)(x0:qW):Option (qW×Unit) :=
 (J4 F x0).bind fun r1 =>
 bif not r1.1 then
 some ((false,([0,0,0,0],())),())
 else
 some (x0,())
def Ls(F:Nat)(x0:qW):Option (Int×Unit) :=
 (F3 F x0).bind fun r1 =>
 bif r1.1.1 then
 some ((-1),())
 else
 bif eqT (.arr 4 (.int .u64)) r1.1.2.1 [0,0,0,0] then
 some (0,())
 else
 some (1,())
def Pu(F:Nat)(x0:qW):Option (Bool×Unit) :=
 bif eqI (An 0 x0.2.1 3) 0 then
 bif eqI (An 0 x0.2.1 2) 0 then
 some (eqI (Fg .u64 (An 0 x0.2.1 1) 63) 0,())
 else
 some (false,())
 else
 some (false,())
def Fm(F:Nat){R:Type}(k0:Option R)(kret:Int→Option R):Nat→qL→Int→Option R
 | 0,_,_=>none
 | n+1,x1,x3 =>
 bif leI 0 x3 then
 bif inI x3 4 then
 bif not (eqI (An 0 x1 x3) 0) then
 bif inI x3 4 then
 (D3 F (An 0 x1 x3)).bind fun r6 =>
 kret (Av .i64 (I6 .i64 64 x3) r6.1)
 else
 none
 else
 Fm F k0 kret n x1 (Bj .i64 x3 1)
 else
 none
 else
 k0
def Pv(F:Nat)(x0:qL):Option (Int×Unit) :=
 Fm F (
 some (0,())) (fun z9 =>
 some (z9,())) F x0 3
def Qi(F:Nat){R:Type}(kn:qL→qL→Int→Int→Int→Option R)(x2:qL)(x4:qL)(x5:Int)(x6:Int)(x7:Int)(x32:Bool):Option R :=
 bif x32 then
 bif inI x7 4 then
 bif inI (Bj .i64 (Bj .i64 x7 x5) 1) 4 then
 bif ltI (Bj .i64 64 x6) 0 then
 none
 else
 bif inI x7 4 then
 kn x2 (Cd x4 x7 (orI .u64 (An 0 x4 x7) (Fg .u64 (An 0 x2 (Bj .i64 (Bj .i64 x7 x5) 1)) (Bj .i64 64 x6)))) x5 x6 x7
 else
 none
 else
 none
 else
 none
 else
 kn x2 x4 x5 x6 x7
def Du(F:Nat){R:Type}(k0:qL→Option R):Nat→qL→qL→Int→Int→Int→Option R
 | 0,_,_,_,_,_=>none
 | n+1,x2,x4,x5,x6,x7 =>
 bif ltI x7 4 then
 bif inI (Bj .i64 x7 x5) 4 then
 bif ltI x6 0 then
 none
 else
 bif inI x7 4 then
 bif ltI 0 x6 then
 Qi F (fun z18 z19 z20 z21 z22 =>
 Du F k0 n z18 z19 z20 z21 (Av .i64 z22 1)) x2 (Cd x4 x7 (Hv .u64 (An 0 x2 (Bj .i64 x7 x5)) x6)) x5 x6 x7 (ltI x5 x7)
 else
 Qi F (fun z24 z25 z26 z27 z28 =>
 Du F k0 n z24 z25 z26 z27 (Av .i64 z28 1)) x2 (Cd x4 x7 (Hv .u64 (An 0 x2 (Bj .i64 x7 x5)) x6)) x5 x6 x7 false
 else
 none
 else
 none
 else
 k0 x4
def Xa(F:Nat)(x0:qL)(x1:Int):Option (qL×Unit) :=
 Du F (fun z30 =>
 some (z30,())) F x0 [0,0,0,0] (Ht .i64 x1 64) (I9 x1 64) (Ht .i64 x1 64)
def Kp(F:Nat)(x0:Int):Option (Bool×Unit) :=
 some (not (eqI x0 x0),())
def Do(F:Nat)(x0:Int)(x1:Int):Option (Int×Unit) :=
 (Kp F x0).bind fun r1 =>
 (Kp F x1).bind fun r2 =>
 bif r1.1 then
 bif r2.1 then
 some (0,())
 else
 some ((-1),())
 else
 bif r2.1 then
 some (1,())
 else
 bif ltI x0 x1 then
 some ((-1),())
 else
 bif ltI x1 x0 then
 some (1,())
 else
 some (0,())
def Ec(F:Nat){R:Type}(k0:Int→Option R)(kret:Int→Option R):Nat→Int→qL→Int→Int→Option R
 | 0,_,_,_,_=>none
 | n+1,x3,x6,x7,x8 =>
 bif ltI x8 x7 then
 bif inI x8 (List.length x6) then
 bif not (eqI (An 0 x6 x8) x3) then
 kret (An 0 x6 x8)
 else
 Ec F k0 kret n x3 x6 x7 (Av .i64 x8 1)
 else
 none
 else
 k0 x3
def Ni(F:Nat)(x0:qL):Option (Int×Unit) :=
 Ec F (fun z6 =>
 some (z6,())) (fun z7 =>
 some (z7,())) F 0 x0 (Az x0) 0
def Lb(F:Nat)(x0:qL)(x1:qL):Option (Int×Unit) :=
 (Do F (An 0 x0 3) (An 0 x1 3)).bind fun r3 =>
 (Do F (An 0 x0 2) (An 0 x1 2)).bind fun r6 =>
 (Do F (An 0 x0 1) (An 0 x1 1)).bind fun r9 =>
 (Do F (An 0 x0 0) (An 0 x1 0)).bind fun r12 =>
 (Ni F [r3.1,r6.1,r9.1,r12.1]).bind fun r13 =>
 some (r13.1,())
def Jn(F:Nat){R:Type}(k0:qL→Option R):Nat→qL→qL→qL→Int→Int→Option R
 | 0,_,_,_,_,_=>none
 | n+1,x2,x3,x4,x5,x7 =>
 bif ltI x7 4 then
 bif inI x7 4 then
 bif inI x7 4 then
 (Ju F (An 0 x2 x7) (An 0 x3 x7) x5).bind fun r4 =>
 bif inI x7 4 then
 Jn F k0 n x2 x3 (Cd x4 x7 r4.1) r4.2.1 (Av .i64 x7 1)
 else
 none
 else
 none
 else
 none
 else
 k0 x4
def Xb(F:Nat)(x0:qL)(x1:qL):Option (qL×Unit) :=
 Jn F (fun z7 =>
 some (z7,())) F x0 x1 [0,0,0,0] 0 0
def Ed(F:Nat){R:Type}(k0:qL→Option R):Nat→qL→qL→Int→Option R
 | 0,_,_,_=>none
 | n+1,x1,x2,x4 =>
 bif ltI x4 4 then
 bif inI x4 4 then
 bif inI x4 4 then
 bif ltI x4 3 then
 bif inI x4 4 then
 bif inI (Av .i64 x4 1) 4 then
 bif inI x4 4 then
 Ed F k0 n x1 (Cd (Cd x2 x4 (Fg .u64 (An 0 x1 x4) 1)) x4 (orI .u64 (An 0 (Cd x2 x4 (Fg .u64 (An 0 x1 x4) 1)) x4) (Hv .u64 (An 0 x1 (Av .i64 x4 1)) 63))) (Av .i64 x4 1)
 else
 none
 else
 none
 else
 none
 else
 Ed F k0 n x1 (Cd x2 x4 (Fg .u64 (An 0 x1 x4) 1)) (Av .i64 x4 1)
 else
 none
 else
 none
 else
 k0 x2
def Pw(F:Nat)(x0:qL):Option (qL×Unit) :=
 Ed F (fun z14 =>
 some (z14,())) F x0 [0,0,0,0] 0
def Ky(F:Nat){R:Type}(k0:qL→qL→qL→Option R):Nat→qL→qL→qL→Int→qL→Option R
 | 0,_,_,_,_,_=>none
 | n+1,x2,x4,x5,x6,x7 =>
 bif leI 0 x6 then
 (Lb F x2 x7).bind fun r7 =>
 bif leI 0 r7.1 then
 (Xb F x2 x7).bind fun r9 =>
 bif inI (Ht .i64 x6 64) 4 then
 bif ltI (I9 x6 64) 0 then
 none
 else
 bif inI (Ht .i64 x6 64) 4 then
 (Pw F x7).bind fun r16 =>
 Ky F k0 n r9.1 (Cd x4 (Ht .i64 x6 64) (orI .u64 (An 0 x4 (Ht .i64 x6 64)) (Hv .u64 1 (I9 x6 64)))) x5 (Bj .i64 x6 1) r16.1
 else
 none
 else
 none
 else
 (Pw F x7).bind fun r18 =>
 Ky F k0 n x2 x4 x5 (Bj .i64 x6 1) r18.1
 else
 k0 x2 x4 x5
def Aa8(F:Nat)(x0:qL)(x1:qL):Option (qL×qL×Unit) :=
 (Pv F x0).bind fun r1 =>
 (Pv F x1).bind fun r2 =>
 let x12v3:=Bj .i64 r1.1 r2.1
 bif ltI x12v3 0 then
 some ([0,0,0,0],(x0,()))
 else
 (Xa F x1 x12v3).bind fun r5 =>
 Ky F (fun z20 z21 z22 =>
 some (z21,(z20,()))) F x0 [0,0,0,0] [0,0,0,0] x12v3 r5.1
def Wc(F:Nat){R:Type}(k0:qL→Int→Option R):Nat→qL→qL→qL→Int→Int→Option R
 | 0,_,_,_,_,_=>none
 | n+1,x2,x3,x4,x5,x7 =>
 bif ltI x7 4 then
 bif inI x7 4 then
 bif inI x7 4 then
 (F0 F (An 0 x2 x7) (An 0 x3 x7) x5).bind fun r4 =>
 bif inI x7 4 then
 Wc F k0 n x2 x3 (Cd x4 x7 r4.1) r4.2.1 (Av .i64 x7 1)
 else
 none
 else
 none
 else
 none
 else
 k0 x4 x5
def Ala(F:Nat)(x0:qL)(x1:qL):Option (qL×Int×Unit) :=
 Wc F (fun z7 z8 =>
 some (z7,(z8,()))) F x0 x1 [0,0,0,0] 0 0
def Nj(F:Nat)(x0:Bool)(x1:qL):Option (qW×Unit) :=
 (F3 F (x0,(x1,()))).bind fun r1 =>
 some (r1.1,())
def Nv(F:Nat){R:Type}(kn:qW→qW→qW→qW→qL→qL→Option R)(x2:qW)(x3:qW)(x4:qW)(x5:qW)(x7:qL)(x8:qL)(x32:Bool):Option R :=
 bif x32 then
 (Ala F x7 [1,0,0,0]).bind fun r7 =>
 (Xb F x3.2.1 x8).bind fun r8 =>
 kn x2 x3 x4 x5 r7.1 r8.1
 else
 kn x2 x3 x4 x5 x7 x8
def Nw(F:Nat){R:Type}(kret:qW→qW→Bool→Option R)(x2:qW)(x3:qW)(x4:qW)(x5:qW)(x7:qL)(x8:qL):Option R :=
 (Nj F (not (eqT .bool x2.1 x3.1)) x7).bind fun r16 =>
 (Nj F false x8).bind fun r17 =>
 kret r16.1 r17.1 true
def S2(F:Nat)(x0:qW)(x1:qW):Option (qW×qW×Bool×Unit) :=
 (F3 F x0).bind fun r1 =>
 (F3 F x1).bind fun r2 =>
 (Ls F r2.1).bind fun r3 =>
 bif eqI r3.1 0 then
 some ((false,([0,0,0,0],())),((false,([0,0,0,0],())),(false,())))
 else
 (Aa8 F r1.1.2.1 r2.1.2.1).bind fun r5 =>
 bif r1.1.1 then
 Nv F (fun z9 z10 z11 z12 z13 z14 =>
 Nw F (fun z18 z19 z20 =>
 some (z18,(z19,(z20,())))) z9 z10 z11 z12 z13 z14) r1.1 r2.1 (false,([0,0,0,0],())) (false,([0,0,0,0],())) r5.1 r5.2.1 (not (eqT (.arr 4 (.int .u64)) r5.2.1 [0,0,0,0]))
 else
 Nv F (fun z21 z22 z23 z24 z25 z26 =>
 Nw F (fun z27 z28 z29 =>
 some (z27,(z28,(z29,())))) z21 z22 z23 z24 z25 z26) r1.1 r2.1 (false,([0,0,0,0],())) (false,([0,0,0,0],())) r5.1 r5.2.1 false
def E0(F:Nat){R:Type}(k0:qW→qW→Option R):Nat→qW→qW→qW→Option R
 | 0,_,_,_=>none
 | n+1,x2,x3,x4 =>
 (Ls F x3).bind fun r1 =>
 bif not (eqI r1.1 0) then
 (S2 F x2 x3).bind fun r3 =>
 E0 F k0 n x3 r3.2.1 x4
 else
 k0 x2 x4
def Oz(F:Nat)(x0:qW)(x1:qW):Option (qW×Unit) :=
 E0 F (fun z4 z5 =>
 some (z4,())) F (false,x0.2) (false,x1.2) (false,([0,0,0,0],()))
def Ab9(F:Nat)(x0:Int):Option (qW×Unit) :=
 bif ltI x0 0 then
 some ((true,([Bj .u64 0 (IntKind.wrap .u64 x0),0,0,0],())),())
 else
 some ((false,([IntKind.wrap .u64 x0,0,0,0],())),())
def Jo(F:Nat)(x0:qR):Option (Bool×Unit) :=
 (J4 F x0.1).bind fun r1 =>
 bif r1.1 then
 (J4 F x0.2.1).bind fun r2 =>
 bif r2.1 then
 (Ls F x0.2.1).bind fun r3 =>
 bif ltI 0 r3.1 then
 (Pu F x0.1).bind fun r5 =>
 bif r5.1 then
 (Pu F x0.2.1).bind fun r6 =>
 bif r6.1 then
 (Oz F x0.1 x0.2.1).bind fun r7 =>
 (Ab9 F 1).bind fun r8 =>
 some (eqT (.pair .bool (.pair (.arr 4 (.int .u64)) .unit)) r7.1 r8.1,())
 else
 some (false,())
 else
 some (false,())
 else
 some (false,())
 else
 some (false,())
 else
 some (false,())
def Lu(F:Nat)(x0:Int):Option (Bool×Unit) :=
 some (not (eqI x0 x0),())
def J5(F:Nat)(x0:Int)(x1:Int):Option (Int×Unit) :=
 (Lu F x0).bind fun r1 =>
 (Lu F x1).bind fun r2 =>
 bif r1.1 then
 bif r2.1 then
 some (0,())
 else
 some ((-1),())
 else
 bif r2.1 then
 some (1,())
 else
 bif ltI x0 x1 then
 some ((-1),())
 else
 bif ltI x1 x0 then
 some (1,())
 else
 some (0,())
def Alb(F:Nat)(x0:Int):Option (qR×Unit) :=
 (Ab9 F x0).bind fun r1 =>
 (Ab9 F 1).bind fun r2 =>
 some ((r1.1,(r2.1,())),())
def S3(F:Nat)(x0:qR):Option (qR×Unit) :=
 (Jo F x0).bind fun r1 =>
 bif not r1.1 then
 (Alb F 0).bind fun r3 =>
 some (r3.1,())
 else
 some (x0,())
def Kz(F:Nat){R:Type}(k2:qL→qL→qL→Int→Int→qL→Int→Option R):Nat→qL→qL→qL→Int→Int→Int→qL→Int→qL→Int→Option R
 | 0,_,_,_,_,_,_,_,_,_,_=>none
 | n+1,x3,x4,x6,x7,x8,x9,x16,x17,x21,x22 =>
 bif ltI x22 4 then
 bif inI x22 4 then
 (Q8 F x8 (An 0 x21 x22)).bind fun r5 =>
 bif inI (Av .i64 x7 x22) 8 then
 (F0 F (An 0 x6 (Av .i64 x7 x22)) r5.2.1 0).bind fun r8 =>
 (F0 F r8.1 x9 0).bind fun r10 =>
 bif inI (Av .i64 x7 x22) 8 then
 Kz F k2 n x3 x4 (Cd x6 (Av .i64 x7 x22) r10.1) x7 x8 (Av .u64 (Av .u64 r5.1 r8.2.1) r10.2.1) x16 x17 x21 (Av .i64 x22 1)
 else
 none
 else
 none
 else
 none
 else
 k2 x3 x4 x6 x7 x9 x16 x17
def Nk(F:Nat){R:Type}(k0:qL→qL→Option R):Nat→qL→qL→qL→qL→Int→Option R
 | 0,_,_,_,_,_=>none
 | n+1,x3,x4,x6,x16,x17 =>
 bif ltI x17 4 then
 bif inI x17 4 then
 Kz F (fun z15 z16 z17 z18 z19 z20 z21 =>
 bif inI (Av .i64 z18 4) 8 then
 Nk F k0 n z15 z16 (Cd z17 (Av .i64 z18 4) z19) z20 (Av .i64 z21 1)
 else
 none) F x3 x4 x6 x17 (An 0 x16 x17) 0 x16 x17 x3 0
 else
 none
 else
 k0 x4 x6
def Aa9(F:Nat)(x0:qL)(x1:qL):Option (qL×Bool×Unit) :=
 Nk F (fun z25 z26 =>
 some ((((List.take 0 z25)++(List.take 4 (List.drop 0 z26)))++(List.drop 4 z25)),(eqT (.arr 4 (.int .u64)) (List.take 4 (List.drop 4 z26)) [0,0,0,0],()))) F x1 [0,0,0,0] [0,0,0,0,0,0,0,0] x0 0
def Aaa(F:Nat)(x0:qW)(x1:qW):Option (qW×Bool×Unit) :=
 (F3 F x0).bind fun r1 =>
 (F3 F x1).bind fun r2 =>
 (Aa9 F r1.1.2.1 r2.1.2.1).bind fun r3 =>
 bif not r3.2.1 then
 some ((false,([0,0,0,0],())),(false,()))
 else
 (Nj F (not (eqT .bool r1.1.1 r2.1.1)) r3.1).bind fun r6 =>
 some (r6.1,(true,()))
def O0(F:Nat)(x0:qW)(x1:qW):Option (qW×Unit) :=
 (Aaa F x0 x1).bind fun r1 =>
 some (r1.1,())
def Lv(F:Nat){R:Type}(kn:qW→qW→Option R)(kret:Int→Option R)(x2:qW)(x3:qW)(x9:Bool):Option R :=
 bif x9 then
 (Lb F x3.2.1 x2.2.1).bind fun r3 =>
 kret r3.1
 else
 bif x2.1 then
 kret (-1)
 else
 bif x3.1 then
 kret 1
 else
 kn x2 x3
def Lw(F:Nat){R:Type}(kret:Int→Option R)(x2:qW)(x3:qW):Option R :=
 (Lb F x2.2.1 x3.2.1).bind fun r6 =>
 kret r6.1
def Qj(F:Nat)(x0:qW)(x1:qW):Option (Int×Unit) :=
 (F3 F x0).bind fun r1 =>
 (F3 F x1).bind fun r2 =>
 bif r1.1.1 then
 Lv F (fun z4 z5 =>
 Lw F (fun z7 =>
 some (z7,())) z4 z5) (fun z8 =>
 some (z8,())) r1.1 r2.1 r2.1.1
 else
 Lv F (fun z9 z10 =>
 Lw F (fun z11 =>
 some (z11,())) z9 z10) (fun z12 =>
 some (z12,())) r1.1 r2.1 false
def O1(F:Nat)(x0:qR)(x1:qR):Option (Int×Unit) :=
 (S3 F x0).bind fun r1 =>
 (S3 F x1).bind fun r2 =>
 (O0 F r1.1.1 r2.1.2.1).bind fun r3 =>
 (O0 F r2.1.1 r1.1.2.1).bind fun r4 =>
 (Qj F r3.1 r4.1).bind fun r5 =>
 some (r5.1,())
def Kq(F:Nat)(x0:qG)(x1:qG):Option (Int×Unit) :=
 (J5 F x0.1 x1.1).bind fun r1 =>
 (O1 F x0.2.1 x1.2.1).bind fun r2 =>
 (Ni F [r1.1,r2.1]).bind fun r3 =>
 some (r3.1,())
def Dp(F:Nat){R:Type}(k2:(List qG)→(List Bool)→(List qG)→Int→Int→Option R)(kret:Int→Option R):Nat→(List qG)→(List Bool)→qG→(List qG)→Int→Int→qL→Int→Int→Option R
 | 0,_,_,_,_,_,_,_,_,_=>none
 | n+1,x0,x3,x5,x16,x17,x18,x48,x49,x50 =>
 bif ltI x50 x49 then
 bif inI x50 (List.length x48) then
 bif ltI (An 0 x48 x50) 0 then
 kret 1
 else
 bif leI 4096 (An 0 x48 x50) then
 kret 1
 else
 bif inI (An 0 x48 x50) 4096 then
 bif An false x3 (An 0 x48 x50) then
 kret 1
 else
 bif ltI 0 x50 then
 bif inI (Bj .i64 x50 1) (List.length x5.2.2.1) then
 bif leI (An 0 x48 x50) (An 0 x5.2.2.1 (Bj .i64 x50 1)) then
 kret 1
 else
 bif inI (An 0 x48 x50) 4096 then
 Dp F k2 kret n x0 (Cd x3 (An 0 x48 x50) true) x5 x16 x17 x18 x48 x49 (Av .i64 x50 1)
 else
 none
 else
 none
 else
 bif inI (An 0 x48 x50) 4096 then
 Dp F k2 kret n x0 (Cd x3 (An 0 x48 x50) true) x5 x16 x17 x18 x48 x49 (Av .i64 x50 1)
 else
 none
 else
 none
 else
 none
 else
 k2 x0 x3 x16 x17 x18
def Hl(F:Nat){R:Type}(kn:(List qG)→(List Bool)→(List qG)→Int→Int→Option R)(kret:Int→Option R)(x0:(List qG))(x3:(List Bool))(x5:qG)(x16:(List qG))(x17:Int)(x18:Int):Option R :=
 Dp F (fun z31 z32 z33 z34 z35 =>
 kn z31 z32 z33 z34 z35) (fun z36 =>
 kret z36) F x0 x3 x5 x16 x17 x18 x5.2.2.1 (Az x5.2.2.1) 0
def Cm(F:Nat){R:Type}(k0:Option R)(kret:Int→Option R):Nat→(List qG)→(List Bool)→(List qG)→Int→Int→Option R
 | 0,_,_,_,_,_=>none
 | n+1,x0,x3,x16,x17,x18 =>
 bif ltI x18 x17 then
 bif inI x18 (List.length x16) then
 let x22v7:=An (0,(((false,([0,0,0,0],())),((false,([0,0,0,0],())),())),([],()))) x16 x18
 (Jo F x22v7.2.1).bind fun r8 =>
 bif not r8.1 then
 kret 1
 else
 bif eqI (Az x22v7.2.2.1) 0 then
 kret 1
 else
 bif ltI 0 x18 then
 bif inI (Bj .i64 x18 1) (List.length x0) then
 (Kq F (An (0,(((false,([0,0,0,0],())),((false,([0,0,0,0],())),())),([],()))) x0 (Bj .i64 x18 1)) x22v7).bind fun r15 =>
 bif leI 0 r15.1 then
 kret 1
 else
 Hl F (fun z37 z38 z39 z40 z41 =>
 Cm F k0 kret n z37 z38 z39 z40 (Av .i64 z41 1)) (fun z43 =>
 kret z43) x0 x3 x22v7 x16 x17 x18
 else
 none
 else
 Hl F (fun z44 z45 z46 z47 z48 =>
 Cm F k0 kret n z44 z45 z46 z47 (Av .i64 z48 1)) (fun z50 =>
 kret z50) x0 x3 x22v7 x16 x17 x18
 else
 none
 else
 k0
def Iq(F:Nat)(x0:(List qG)):Option (Int×Unit) :=
 bif ltI 4096 (Az x0) then
 some (3,())
 else
 (Jm F x0).bind fun r3 =>
 bif ltI 4096 r3.1 then
 some (3,())
 else
 Cm F (
 some (0,())) (fun z51 =>
 some (z51,())) F x0 (List.replicate 4096 false) x0 (Az x0) 0
def I2(F:Nat)(x0:qL):Option (qL×Unit) :=
 bif Bf (0+List.length x0) 8 then some (x0,()) else none
def T2(F:Nat)(x0:Int)(x1:Int):Option (Int×Unit) :=
 some (Bj .u64 (IntKind.wrap .u64 x0) (IntKind.wrap .u64 x1),())
def Cf(F:Nat){R:Type}(k0:qL→Option R):Nat→qL→Int→Option R
 | 0,_,_=>none
 | n+1,x0,x2 =>
 bif ltI 0 x2 then
 bif inI x2 (List.length x0) then
 bif inI (Bj .i64 x2 1) (List.length x0) then
 (T2 F (An 0 x0 x2) (An 0 x0 (Bj .i64 x2 1))).bind fun r7 =>
 bif inI x2 (List.length x0) then
 Cf F k0 n (Cd x0 x2 (IntKind.wrap .i64 r7.1)) (Bj .i64 x2 1)
 else
 none
 else
 none
 else
 none
 else
 k0 x0
def Hb(F:Nat)(x0:qL):Option (qL×Unit) :=
 Cf F (fun z11 =>
 some (z11,())) F x0 (Bj .i64 (Az x0) 1)
def S4(F:Nat)(x0:Int)(x1:Int):Option (Int×Unit) :=
 some (IntKind.wrap .i64 (Av .u64 (IntKind.wrap .u64 x0) x1),())
def E3(F:Nat){R:Type}(k0:qL→Option R):Nat→qL→Int→Option R
 | 0,_,_=>none
 | n+1,x0,x2 =>
 bif ltI x2 (Az x0) then
 bif inI x2 (List.length x0) then
 bif inI (Bj .i64 x2 1) (List.length x0) then
 (S4 F (An 0 x0 x2) (IntKind.wrap .u64 (An 0 x0 (Bj .i64 x2 1)))).bind fun r7 =>
 bif inI x2 (List.length x0) then
 E3 F k0 n (Cd x0 x2 r7.1) (Av .i64 x2 1)
 else
 none
 else
 none
 else
 none
 else
 k0 x0
def O2(F:Nat)(x0:qL):Option (qL×Unit) :=
 E3 F (fun z10 =>
 some (z10,())) F x0 1
def D6(F:Nat){R:Type}(k0:qL→Option R):Nat→qL→Int→Int→Option R
 | 0,_,_,_=>none
 | n+1,x0,x6,x7 =>
 bif ltI x7 x6 then
 (Hb F x0).bind fun r2 =>
 D6 F k0 n r2.1 x6 (Av .i64 x7 1)
 else
 k0 x0
def Ol(F:Nat)(x0:qL)(x1:Int):Option (qL×Unit) :=
 D6 F (fun z4 =>
 some (z4,())) F x0 x1 0
def D7(F:Nat){R:Type}(k0:qL→Option R):Nat→qL→Int→Int→Option R
 | 0,_,_,_=>none
 | n+1,x0,x6,x7 =>
 bif ltI x7 x6 then
 (O2 F x0).bind fun r2 =>
 D7 F k0 n r2.1 x6 (Av .i64 x7 1)
 else
 k0 x0
def F4(F:Nat)(x0:qL)(x1:Int):Option (qL×Unit) :=
 D7 F (fun z4 =>
 some (z4,())) F x0 x1 0
def O3(F:Nat)(x0:Int):Option (Int×Unit) :=
 some (AkO .u64 (Hv .u64 (IntKind.wrap .u64 x0) 1) (IntKind.wrap .u64 (Fg .i64 x0 63)),())
def Di(F:Nat){R:Type}(k0:qL→Option R):Nat→qL→qL→Int→Int→Option R
 | 0,_,_,_,_=>none
 | n+1,x7,x24,x25,x26 =>
 bif ltI x26 x25 then
 bif inI x26 (List.length x24) then
 (O3 F (An 0 x24 x26)).bind fun r10 =>
 bif inI x26 (List.length x7) then
 Di F k0 n (Cd x7 x26 r10.1) x24 x25 (Av .i64 x26 1)
 else
 none
 else
 none
 else
 k0 x7
def Es(F:Nat)(x0:qL)(x1:Int):Option (qL×Bool×Unit) :=
 bif ltI x1 0 then
 some ([],(false,()))
 else
 bif ltI 2 x1 then
 some ([],(false,()))
 else
 (I2 F x0).bind fun r3 =>
 (Ol F r3.1 x1).bind fun r4 =>
 bif I7 (Az r4.1) (Az r4.1) 8 then
 Di F (fun z13 =>
 some (z13,(true,()))) F (Cl (Az r4.1) (0:Int)) r4.1 (Az r4.1) 0
 else
 none
def S5(F:Nat)(x0:Int):Option (Int×Unit) :=
 (D3 F x0).bind fun r1 =>
 some (Aun (Ht .i64 (Av .i64 r1.1 6) 7) 1,())
def F5(F:Nat){R:Type}(k0:Int→Option R):Nat→Int→qL→Int→Int→Option R
 | 0,_,_,_,_=>none
 | n+1,x3,x6,x7,x8 =>
 bif ltI x8 x7 then
 bif inI x8 (List.length x6) then
 F5 F k0 n (orI .u64 x3 (An 0 x6 x8)) x6 x7 (Av .i64 x8 1)
 else
 none
 else
 k0 x3
def O4(F:Nat)(x0:qL):Option (Int×Unit) :=
 F5 F (fun z6 =>
 (D3 F z6).bind fun r7 =>
 some (r7.1,())) F 0 x0 (Az x0) 0
def J6(F:Nat)(x0:Int)(x1:Int):Option (Int×Unit) :=
 bif ltI x0 0 then
 some ((-1),())
 else
 bif ltI 65536 x0 then
 some ((-1),())
 else
 bif ltI x1 0 then
 some ((-1),())
 else
 bif ltI 64 x1 then
 some ((-1),())
 else
 some (Ht .i64 (Av .i64 (I6 .i64 x0 x1) 7) 8,())
def E4(F:Nat){R:Type}(k2:Int→qL→Int→qL→Int→Int→Option R):Nat→Int→qL→Int→Int→Int→qL→Int→Int→Option R
 | 0,_,_,_,_,_,_,_,_=>none
 | n+1,x1,x7,x8,x10,x11,x27,x28,x29 =>
 bif ltI 0 x11 then
 bif inI (Ht .i64 x8 8) (List.length x7) then
 bif ltI (I9 x8 8) 0 then
 none
 else
 bif inI (Ht .i64 x8 8) (List.length x7) then
 bif ltI (Zo (Bj .i64 8 (I9 x8 8)) x11) 0 then
 none
 else
 E4 F k2 n x1 (Cd x7 (Ht .i64 x8 8) (orI .u8 (An 0 x7 (Ht .i64 x8 8)) (Hv .u8 (IntKind.wrap .u8 x10) (I9 x8 8)))) (Av .i64 x8 (Zo (Bj .i64 8 (I9 x8 8)) x11)) (Fg .u64 x10 (Zo (Bj .i64 8 (I9 x8 8)) x11)) (Bj .i64 x11 (Zo (Bj .i64 8 (I9 x8 8)) x11)) x27 x28 x29
 else
 none
 else
 none
 else
 k2 x1 x7 x8 x27 x28 x29
def Fw(F:Nat){R:Type}(k0:qL→Option R):Nat→Int→qL→Int→qL→Int→Int→Option R
 | 0,_,_,_,_,_,_=>none
 | n+1,x1,x7,x8,x27,x28,x29 =>
 bif ltI x29 x28 then
 bif inI x29 (List.length x27) then
 E4 F (fun z24 z25 z26 z27 z28 z29 =>
 Fw F k0 n z24 z25 z26 z27 z28 (Av .i64 z29 1)) F x1 x7 x8 (An 0 x27 x29) x1 x27 x28 x29
 else
 none
 else
 k0 x7
def Qk(F:Nat)(x0:qL)(x1:Int):Option (qL×Bool×Unit) :=
 (J6 F (Az x0) x1).bind fun r2 =>
 bif ltI r2.1 0 then
 some ([],(false,()))
 else
 (O4 F x0).bind fun r4 =>
 bif ltI x1 r4.1 then
 some ([],(false,()))
 else
 bif I7 r2.1 r2.1 1 then
 Fw F (fun z31 =>
 some (z31,(true,()))) F x1 (Cl r2.1 (0:Int)) 0 x0 (Az x0) 0
 else
 none
def Hm(F:Nat)(x0:qL):Option (qL×Unit) :=
 bif Bf (0+List.length x0) 1 then some (x0,()) else none
def F6(F:Nat){R:Type}(k0:Int→qL→Option R):Nat→Int→qL→Option R
 | 0,_,_=>none
 | n+1,x1,x5 =>
 bif leI 128 x1 then
 bif Bf ((List.length x5)+1) 1 then
 F6 F k0 n (Fg .u64 x1 7) (x5++[orI .u8 (IntKind.wrap .u8 x1) 128])
 else
 none
 else
 k0 x1 x5
def Lx(F:Nat)(x0:qL)(x1:Int):Option (qL×Unit) :=
 (Hm F x0).bind fun r1 =>
 (Ib F r1.1 10).bind fun r2 =>
 F6 F (fun z8 z9 =>
 bif Bf ((List.length z9)+1) 1 then
 some ((z9++[IntKind.wrap .u8 z8]),())
 else
 none) F x1 r2.1
def Fq(F:Nat){R:Type}(k0:qL→Int→Option R):Nat→qL→Int→qL→Int→Int→Option R
 | 0,_,_,_,_,_=>none
 | n+1,x0,x4,x16,x17,x18 =>
 bif ltI x18 x17 then
 bif inI x18 (List.length x16) then
 (S5 F (An 0 x16 x18)).bind fun r6 =>
 Fq F k0 n x0 (Av .i64 x4 r6.1) x16 x17 (Av .i64 x18 1)
 else
 none
 else
 k0 x0 x4
def Et(F:Nat){R:Type}(k2:qL→Option R):Nat→qL→qL→Int→Int→Option R
 | 0,_,_,_,_=>none
 | n+1,x10,x47,x48,x49 =>
 bif ltI x49 x48 then
 bif inI x49 (List.length x47) then
 (Lx F [] (An 0 x47 x49)).bind fun r22 =>
 bif Bf ((List.length x10)+(List.length r22.1)) 1 then
 Et F k2 n (x10++r22.1) x47 x48 (Av .i64 x49 1)
 else
 none
 else
 none
 else
 k2 x10
def Bm(F:Nat)(x0:qL):Option (qL×Int×Unit) :=
 bif ltI 65536 (Az x0) then
 some ([],(3,()))
 else
 Fq F (fun z9 z10 =>
 (O4 F z9).bind fun r11 =>
 (Qk F z9 r11.1).bind fun r12 =>
 bif ltI (Av .i64 2 (Az r12.1)) z10 then
 bif Bf (2+(List.length r12.1)) 1 then
 some (([1,IntKind.wrap .u8 r11.1]++r12.1),(0,()))
 else
 none
 else
 bif I7 1 z10 1 then
 Et F (fun z25 =>
 some (z25,(0,()))) F (Cl 1 (0:Int)) z9 (Az z9) 0
 else
 none) F x0 1 x0 (Az x0) 0
def Cb(F:Nat){R:Type}(k0:qL→Option R)(kret:qL→Int→Option R):Nat→qL→qL→Int→Option R
 | 0,_,_,_=>none
 | n+1,x0,x4,x10 =>
 bif ltI x10 3 then
 (Es F x0 x10).bind fun r9 =>
 (Bm F r9.1).bind fun r10 =>
 bif not (eqI r10.2.1 0) then
 kret [] r10.2.1
 else
 bif List.isEmpty x4 then
 none
 else
 bif ltI (Av .i64 (Az r10.1) 1) (Az x4) then
 bif Bf (1+(List.length r10.1)) 1 then
 Cb F k0 kret n x0 ([IntKind.wrap .u8 x10]++r10.1) (Av .i64 x10 1)
 else
 none
 else
 Cb F k0 kret n x0 x4 (Av .i64 x10 1)
 else
 k0 x4
def Ly(F:Nat){R:Type}(k0:qL→Option R)(kret:qL→Int→Option R)(n:Nat)(x0:qL)(x10:Int):Option R :=
 bif ltI x10 3 then
 (Es F x0 x10).bind fun r21 =>
 (Bm F r21.1).bind fun r22 =>
 bif not (eqI r22.2.1 0) then
 kret [] r22.2.1
 else
 bif Bf (1+(List.length r22.1)) 1 then
 Cb F k0 kret n x0 ([IntKind.wrap .u8 x10]++r22.1) (Av .i64 x10 1)
 else
 none
 else
 none
def Ek(F:Nat)(x0:qL):Option (qL×Int×Unit) :=
 Ly F (fun z27 =>
 some (z27,(0,()))) (fun z28 z29 =>
 some (z28,(z29,()))) F x0 0
def Kd(F:Nat){R:Type}(k0:qL→qW→qL→Option R):Nat→qL→qW→qL→qL→Int→Option R
 | 0,_,_,_,_,_=>none
 | n+1,x0,x3,x5,x16,x17 =>
 bif ltI x17 4 then
 bif inI x17 4 then
 bif inI x17 5 then
 bif inI x17 5 then
 bif inI (Av .i64 x17 1) 5 then
 Kd F k0 n x0 x3 (Cd (Cd x5 x17 (orI .u64 (An 0 x5 x17) (Hv .u64 (An 0 x16 x17) 1))) (Av .i64 x17 1) (Fg .u64 (An 0 x16 x17) 63)) x16 (Av .i64 x17 1)
 else
 none
 else
 none
 else
 none
 else
 none
 else
 k0 x0 x3 x5
def Gi(F:Nat){R:Type}(k4:qL→qL→Int→Option R):Nat→qL→qL→Int→Int→Option R
 | 0,_,_,_,_=>none
 | n+1,x5,x8,x9,x47 =>
 bif ltI x47 5 then
 bif inI x47 5 then
 bif inI x47 5 then
 bif ltI x47 4 then
 bif inI x47 5 then
 bif inI (Av .i64 x47 1) 5 then
 bif inI x47 5 then
 Gi F k4 n (Cd (Cd x5 x47 (Fg .u64 (An 0 x5 x47) 7)) x47 (orI .u64 (An 0 (Cd x5 x47 (Fg .u64 (An 0 x5 x47) 7)) x47) (Hv .u64 (An 0 (Cd x5 x47 (Fg .u64 (An 0 x5 x47) 7)) (Av .i64 x47 1)) 57))) x8 x9 (Av .i64 x47 1)
 else
 none
 else
 none
 else
 none
 else
 Gi F k4 n (Cd x5 x47 (Fg .u64 (An 0 x5 x47) 7)) x8 x9 (Av .i64 x47 1)
 else
 none
 else
 none
 else
 k4 x5 x8 x9
def Jp(F:Nat){R:Type}(kret:qL→Option R):Nat→qL→qL→Option R
 | 0,_,_=>none
 | n+1,x5,x8 =>
 Gi F (fun z37 z38 z39 =>
 bif eqT (.arr 5 (.int .u64)) z37 [0,0,0,0,0] then
 bif Bf ((List.length z38)+1) 1 then
 kret (z38++[z39])
 else
 none
 else
 bif Bf ((List.length z38)+1) 1 then
 Jp F kret n z37 (z38++[orI .u8 z39 128])
 else
 none) F x5 x8 (IntKind.wrap .u8 (I9 (An 0 x5 0) 128)) 0
def Jq(F:Nat){R:Type}(kret:qL→Option R)(x0:qL)(x5:qL):Option R :=
 (Hm F x0).bind fun r19 =>
 (Ib F r19.1 37).bind fun r20 =>
 Jp F (fun z44 =>
 kret z44) F x5 r20.1
def Ke(F:Nat){R:Type}(kret:qL→Option R)(x0:qL)(x3:qW):Option R :=
 Kd F (fun z13 z14 z15 =>
 bif z14.1 then
 Jq F (fun z45 =>
 kret z45) z13 (Cd z15 0 (Av .u64 (An 0 z15 0) 1))
 else
 Jq F (fun z46 =>
 kret z46) z13 z15) F x0 x3 [0,0,0,0,0] x3.2.1 0
def Nl(F:Nat)(x0:qL)(x1:qW):Option (qL×Unit) :=
 (J4 F x1).bind fun r1 =>
 bif not r1.1 then
 Ke F (fun z47 =>
 some (z47,())) x0 (false,([0,0,0,0],()))
 else
 Ke F (fun z48 =>
 some (z48,())) x0 x1
def Px(F:Nat)(x0:qL)(x1:qR):Option (qL×Unit) :=
 (Nl F x0 x1.1).bind fun r1 =>
 (Nl F r1.1 x1.2.1).bind fun r2 =>
 some (r2.1,())
def S6(F:Nat)(x0:qL)(x1:qL):Option (qL×Unit) :=
 (Bm F x1).bind fun r1 =>
 bif Bf ((List.length x0)+(List.length r1.1)) 1 then
 some ((x0++r1.1),())
 else
 none
def H3(F:Nat){R:Type}(k2:(List qG)→qL→qL→qL→(List qG)→Int→Int→Option R):Nat→(List qG)→qL→qL→qL→qG→(List qG)→Int→Int→qL→Int→Int→Option R
 | 0,_,_,_,_,_,_,_,_,_,_,_=>none
 | n+1,x0,x5,x6,x7,x9,x28,x29,x30,x49,x50,x51 =>
 bif ltI x51 x50 then
 bif inI x51 (List.length x49) then
 bif ltI 0 x51 then
 bif inI (Bj .i64 x51 1) (List.length x9.2.2.1) then
 bif Bf ((List.length x7)+1) 8 then
 H3 F k2 n x0 x5 x6 (x7++[IntKind.wrap .u64 (Bj .i64 (An 0 x49 x51) (Av .i64 (An 0 x9.2.2.1 (Bj .i64 x51 1)) 1))]) x9 x28 x29 x30 x49 x50 (Av .i64 x51 1)
 else
 none
 else
 none
 else
 bif Bf ((List.length x7)+1) 8 then
 H3 F k2 n x0 x5 x6 (x7++[IntKind.wrap .u64 (An 0 x49 x51)]) x9 x28 x29 x30 x49 x50 (Av .i64 x51 1)
 else
 none
 else
 none
 else
 k2 x0 x5 x6 x7 x28 x29 x30
def Lz(F:Nat){R:Type}(k0:(List qG)→qL→qL→qL→Option R):Nat→(List qG)→qL→qL→qL→(List qG)→Int→Int→Option R
 | 0,_,_,_,_,_,_,_=>none
 | n+1,x0,x5,x6,x7,x28,x29,x30 =>
 bif ltI x30 x29 then
 bif inI x30 (List.length x28) then
 let x34v9:=An (0,(((false,([0,0,0,0],())),((false,([0,0,0,0],())),())),([],()))) x28 x30
 bif inI x30 (List.length x5) then
 bif inI x30 (List.length x6) then
 H3 F (fun z29 z30 z31 z32 z33 z34 z35 =>
 Lz F k0 n z29 z30 z31 z32 z33 z34 (Av .i64 z35 1)) F x0 (Cd x5 x30 x34v9.1) (Cd x6 x30 (IntKind.wrap .u64 (Bj .i64 (Az x34v9.2.2.1) 1))) x7 x34v9 x28 x29 x30 x34v9.2.2.1 (Az x34v9.2.2.1) 0
 else
 none
 else
 none
 else
 none
 else
 k0 x0 x5 x6 x7
def K0(F:Nat){R:Type}(k4:qL→qL→qL→Option R):Nat→qL→qL→qL→(List qG)→Int→Int→Option R
 | 0,_,_,_,_,_,_=>none
 | n+1,x6,x7,x14,x88,x89,x90 =>
 bif ltI x90 x89 then
 bif inI x90 (List.length x88) then
 (Px F x14 (An (0,(((false,([0,0,0,0],())),((false,([0,0,0,0],())),())),([],()))) x88 x90).2.1).bind fun r50 =>
 K0 F k4 n x6 x7 r50.1 x88 x89 (Av .i64 x90 1)
 else
 none
 else
 k4 x6 x7 x14
def T3(F:Nat)(x0:(List qG)):Option (qL×Int×Unit) :=
 (Iq F x0).bind fun r1 =>
 bif not (eqI r1.1 0) then
 some ([],(r1.1,()))
 else
 bif I7 (Az x0) (Az x0) 8 then
 bif I7 (Az x0) (Az x0) 8 then
 Lz F (fun z37 z38 z39 z40 =>
 (Ek F z38).bind fun r41 =>
 bif not (eqI r41.2.1 0) then
 some ([],(r41.2.1,()))
 else
 (Lx F [] (IntKind.wrap .u64 (Az z37))).bind fun r45 =>
 bif Bf ((List.length r45.1)+(List.length r41.1)) 1 then
 K0 F (fun z52 z53 z54 =>
 (S6 F z54 z52).bind fun r55 =>
 (S6 F r55.1 z53).bind fun r56 =>
 some (r56.1,(0,()))) F z39 z40 (r45.1++r41.1) z37 (Az z37) 0
 else
 none) F x0 (Cl (Az x0) (0:Int)) (Cl (Az x0) (0:Int)) [] x0 (Az x0) 0
 else
 none
 else
 none
def Nx(F:Nat)(x0:qL)(x1:Int)(x2:Int):Option (Bool×Unit) :=
 bif leI 0 x1 then
 bif leI x1 (Az x0) then
 bif leI 0 x2 then
 some (leI x2 4096,())
 else
 some (false,())
 else
 some (false,())
 else
 some (false,())
def Py(F:Nat)(x0:Int):Option (Bool×Unit) :=
 some (ltI x0 128,())
def B6(F:Nat){R:Type}(k0:Option R)(kret:Int→Option R):Nat→qL→Int→Int→Option R
 | 0,_,_,_=>none
 | n+1,x0,x7,x8 =>
 bif ltI x8 x7 then
 bif inI x8 (List.length x0) then
 (Py F (An 0 x0 x8)).bind fun r4 =>
 bif r4.1 then
 kret x8
 else
 B6 F k0 kret n x0 x7 (Av .i64 x8 1)
 else
 none
 else
 k0
def Gj(F:Nat)(x0:qL):Option (Int×Unit) :=
 B6 F (
 some ((-1),())) (fun z6 =>
 some (z6,())) F x0 (Az x0) 0
def F7(F:Nat){R:Type}(kn:qL→Int→Option R)(kret:qL→Int→Option R)(x0:qL)(x8:Int)(x27:Bool):Option R :=
 bif x27 then
 kret [] 4
 else
 bif ltI x8 0 then
 kret [] 5
 else
 bif ltI 0 x8 then
 bif inI x8 (List.length x0) then
 bif eqI (An 0 x0 x8) 0 then
 kret [] 5
 else
 kn x0 x8
 else
 none
 else
 kn x0 x8
def L0(F:Nat)(x0:qL)(x1:Int)(x2:Int):Option (qL×Int×Unit) :=
 bif ltI x1 0 then
 some ([],(2,()))
 else
 bif ltI (Az x0) x1 then
 some ([],(2,()))
 else
 bif Km x1 (Az x0) (List.length x0) then
 bif Km 0 (Zo (Az (Cu x0 x1)) x2) (List.length (Cu x0 x1)) then
 (Gj F (Ce (Cu x0 x1) (Zo (Az (Cu x0 x1)) x2))).bind fun r8 =>
 bif ltI r8.1 0 then
 F7 F (fun z16 z17 =>
 bif Km 0 (Av .i64 z17 1) (List.length z16) then
 some (Ce z16 (Av .i64 z17 1),(0,()))
 else
 none) (fun z20 z21 =>
 some (z20,(z21,()))) (Cu x0 x1) r8.1 (ltI (Az (Cu x0 x1)) x2)
 else
 F7 F (fun z22 z23 =>
 bif Km 0 (Av .i64 z23 1) (List.length z22) then
 some (Ce z22 (Av .i64 z23 1),(0,()))
 else
 none) (fun z26 z27 =>
 some (z26,(z27,()))) (Cu x0 x1) r8.1 false
 else
 none
 else
 none
def Ir(F:Nat){R:Type}(k0:Int→qL→Int→Option R):Nat→Int→qL→Int→qL→Int→Int→Option R
 | 0,_,_,_,_,_,_=>none
 | n+1,x1,x7,x9,x30,x31,x32 =>
 bif ltI x32 x31 then
 bif inI x32 (List.length x30) then
 bif ltI (I6 .i64 7 x32) 0 then
 none
 else
 Ir F k0 n x1 x7 (orI .u64 x9 (Hv .u64 (IntKind.wrap .u64 (I9 (An 0 x30 x32) 128)) (I6 .i64 7 x32))) x30 x31 (Av .i64 x32 1)
 else
 none
 else
 k0 x1 x7 x9
def Ny(F:Nat){R:Type}(kret:Int→Int→Int→Option R)(x1:Int)(x7:qL):Option R :=
 Ir F (fun z16 z17 z18 =>
 kret z18 (Av .i64 z16 (Az z17)) 0) F x1 x7 0 x7 (Az x7) 0
def P0(F:Nat)(x0:qL)(x1:Int):Option (Int×Int×Int×Unit) :=
 (L0 F x0 x1 10).bind fun r1 =>
 bif not (eqI r1.2.1 0) then
 some (0,(0,(r1.2.1,())))
 else
 bif eqI (Az r1.1) 10 then
 bif inI 9 (List.length r1.1) then
 bif ltI 1 (An 0 r1.1 9) then
 some (0,(0,(5,())))
 else
 Ny F (fun z21 z22 z23 =>
 some (z21,(z22,(z23,())))) x1 r1.1
 else
 none
 else
 Ny F (fun z24 z25 z26 =>
 some (z24,(z25,(z26,())))) x1 r1.1
def It(F:Nat)(x0:qL)(x1:Int)(x2:Int):Option (Int×Int×Int×Unit) :=
 (P0 F x0 x1).bind fun r1 =>
 bif not (eqI r1.2.2.1 0) then
 some (0,(0,(r1.2.2.1,())))
 else
 bif ltI (IntKind.wrap .u64 x2) r1.1 then
 some (0,(0,(10,())))
 else
 some (IntKind.wrap .i64 r1.1,(r1.2.1,(0,())))
def F8(F:Nat){R:Type}(k0:Int→qL→Option R)(kret:qL→Int→Int→Option R):Nat→qL→Int→qL→Int→Int→Option R
 | 0,_,_,_,_,_=>none
 | n+1,x0,x1,x9,x20,x21 =>
 bif ltI x21 x20 then
 (P0 F x0 x1).bind fun r6 =>
 bif not (eqI r6.2.2.1 0) then
 kret [] 0 r6.2.2.1
 else
 bif Bf ((List.length x9)+1) 8 then
 F8 F k0 kret n x0 r6.2.1 (x9++[r6.1]) x20 (Av .i64 x21 1)
 else
 none
 else
 k0 x1 x9
def H4(F:Nat)(x0:qL)(x1:Int)(x2:Int):Option (qL×Int×Int×Unit) :=
 bif I7 0 (Zo x2 (Bj .i64 (Az x0) x1)) 8 then
 F8 F (fun z10 z11 =>
 some (z11,(z10,(0,())))) (fun z12 z13 z14 =>
 some (z12,(z13,(z14,())))) F x0 x1 (Cl 0 (0:Int)) x2 0
 else
 none
def D8(F:Nat){R:Type}(k2:qL→Int→qL→Int→Int→Int→Option R):Nat→qL→Int→qL→Int→Int→Int→Int→Int→Option R
 | 0,_,_,_,_,_,_,_,_=>none
 | n+1,x0,x2,x8,x9,x10,x11,x23,x24 =>
 bif ltI x11 x2 then
 bif inI (Ht .i64 x9 8) (List.length x0) then
 bif ltI (I9 x9 8) 0 then
 none
 else
 bif ltI (Zo (Bj .i64 8 (I9 x9 8)) (Bj .i64 x2 x11)) 0 then
 none
 else
 bif inI x10 (List.length x8) then
 bif ltI x11 0 then
 none
 else
 bif inI x10 (List.length x8) then
 D8 F k2 n x0 x2 (Cd x8 x10 (orI .u64 (An 0 x8 x10) (Hv .u64 (Wp .u64 (IntKind.wrap .u64 (Fg .u8 (An 0 x0 (Ht .i64 x9 8)) (I9 x9 8))) (Bj .u64 (Hv .u64 1 (Zo (Bj .i64 8 (I9 x9 8)) (Bj .i64 x2 x11))) 1)) x11))) (Av .i64 x9 (Zo (Bj .i64 8 (I9 x9 8)) (Bj .i64 x2 x11))) x10 (Av .i64 x11 (Zo (Bj .i64 8 (I9 x9 8)) (Bj .i64 x2 x11))) x23 x24
 else
 none
 else
 none
 else
 none
 else
 k2 x0 x2 x8 x9 x23 x24
def D9(F:Nat){R:Type}(k0:qL→qL→Int→Option R):Nat→qL→Int→qL→Int→Int→Int→Option R
 | 0,_,_,_,_,_,_=>none
 | n+1,x0,x2,x8,x9,x23,x24 =>
 bif ltI x24 x23 then
 D8 F (fun z26 z27 z28 z29 z30 z31 =>
 D9 F k0 n z26 z27 z28 z29 z30 (Av .i64 z31 1)) F x0 x2 x8 x9 x24 0 x23 x24
 else
 k0 x0 x8 x9
def Ee(F:Nat)(x0:qL)(x1:Int)(x2:Int):Option (qL×Bool×Unit) :=
 (J6 F x1 x2).bind fun r1 =>
 bif not (eqI r1.1 (Az x0)) then
 some ([],(false,()))
 else
 bif I7 x1 x1 8 then
 D9 F (fun z33 z34 z35 =>
 bif ltI 0 (I9 z35 8) then
 bif inI (Ht .i64 z35 8) (List.length z33) then
 bif ltI (I9 z35 8) 0 then
 none
 else
 bif not (eqI (Fg .u8 (An 0 z33 (Ht .i64 z35 8)) (I9 z35 8)) 0) then
 some ([],(false,()))
 else
 some (z34,(true,()))
 else
 none
 else
 some (z34,(true,()))) F x0 x2 (Cl x1 (0:Int)) 0 (Az (Cl x1 (0:Int))) 0
 else
 none
def G5(F:Nat)(x0:qL)(x1:Int)(x2:Int):Option (qL×Int×Int×Unit) :=
 bif leI (Az x0) x1 then
 some ([],(0,(4,())))
 else
 bif inI x1 (List.length x0) then
 bif ltI 64 (An 0 x0 x1) then
 some ([],(0,(5,())))
 else
 bif inI x1 (List.length x0) then
 (J6 F x2 (IntKind.wrap .i64 (An 0 x0 x1))).bind fun r8 =>
 bif ltI (Bj .i64 (Az x0) (Av .i64 x1 1)) r8.1 then
 some ([],(0,(4,())))
 else
 let x45v12:=Av .i64 (Av .i64 x1 1) r8.1
 bif Km (Av .i64 x1 1) x45v12 (List.length x0) then
 (Ee F (Cu (Ce x0 x45v12) (Av .i64 x1 1)) x2 (IntKind.wrap .i64 (An 0 x0 x1))).bind fun r14 =>
 bif not r14.2.1 then
 some ([],(0,(5,())))
 else
 some (r14.1,(Av .i64 (Av .i64 x1 1) r8.1,(0,())))
 else
 none
 else
 none
 else
 none
def Ds(F:Nat){R:Type}(k0:Option R)(kret:Bool→Option R):Nat→qL→qL→Int→Int→Option R
 | 0,_,_,_,_=>none
 | n+1,x0,x1,x12,x13 =>
 bif ltI x13 x12 then
 bif inI x13 (List.length x0) then
 bif inI x13 (List.length x1) then
 bif not (eqI (An 0 x0 x13) (An 0 x1 x13)) then
 kret false
 else
 Ds F k0 kret n x0 x1 x12 (Av .i64 x13 1)
 else
 none
 else
 none
 else
 k0
def Be(F:Nat)(x0:qL)(x1:qL):Option (Bool×Unit) :=
 bif not (eqI (Az x0) (Az x1)) then
 some (false,())
 else
 Ds F (
 some (true,())) (fun z10 =>
 some (z10,())) F x0 x1 (Az x0) 0
def C0(F:Nat){R:Type}(kn:qL→Int→Int→Option R)(kret:qL→Int→Int→Option R)(x0:qL)(x1:Int)(x2:Int)(x14:Bool):Option R :=
 bif x14 then
 kret [] 0 2
 else
 bif eqI x1 (Az x0) then
 kret [] 0 4
 else
 bif inI x1 (List.length x0) then
 bif ltI 1 (An 0 x0 x1) then
 kret [] 0 5
 else
 kn x0 x1 x2
 else
 none
def Cn(F:Nat)(x0:qL)(x1:Int)(x2:Int):Option (qL×Int×Int×Unit) :=
 bif ltI x1 0 then
 C0 F (fun z6 z7 z8 =>
 bif inI z7 (List.length z6) then
 bif eqI (An 0 z6 z7) 1 then
 (G5 F z6 (Av .i64 z7 1) z8).bind fun r12 =>
 bif not (eqI r12.2.2.1 0) then
 some ([],(0,(r12.2.2.1,())))
 else
 (Bm F r12.1).bind fun r14 =>
 bif not (eqI r14.2.1 0) then
 some ([],(0,(5,())))
 else
 bif Km z7 r12.2.1 (List.length z6) then
 (Be F r14.1 (Cu (Ce z6 r12.2.1) z7)).bind fun r17 =>
 bif not r17.1 then
 some ([],(0,(5,())))
 else
 some (r12.1,(r12.2.1,(0,())))
 else
 none
 else
 (H4 F z6 (Av .i64 z7 1) z8).bind fun r20 =>
 bif not (eqI r20.2.2.1 0) then
 some ([],(0,(r20.2.2.1,())))
 else
 (Bm F r20.1).bind fun r22 =>
 bif not (eqI r22.2.1 0) then
 some ([],(0,(5,())))
 else
 bif Km z7 r20.2.1 (List.length z6) then
 (Be F r22.1 (Cu (Ce z6 r20.2.1) z7)).bind fun r25 =>
 bif not r25.1 then
 some ([],(0,(5,())))
 else
 some (r20.1,(r20.2.1,(0,())))
 else
 none
 else
 none) (fun z27 z28 z29 =>
 some (z27,(z28,(z29,())))) x0 x1 x2 true
 else
 bif ltI (Az x0) x1 then
 C0 F (fun z32 z33 z34 =>
 bif inI z33 (List.length z32) then
 bif eqI (An 0 z32 z33) 1 then
 (G5 F z32 (Av .i64 z33 1) z34).bind fun r38 =>
 bif not (eqI r38.2.2.1 0) then
 some ([],(0,(r38.2.2.1,())))
 else
 (Bm F r38.1).bind fun r40 =>
 bif not (eqI r40.2.1 0) then
 some ([],(0,(5,())))
 else
 bif Km z33 r38.2.1 (List.length z32) then
 (Be F r40.1 (Cu (Ce z32 r38.2.1) z33)).bind fun r43 =>
 bif not r43.1 then
 some ([],(0,(5,())))
 else
 some (r38.1,(r38.2.1,(0,())))
 else
 none
 else
 (H4 F z32 (Av .i64 z33 1) z34).bind fun r46 =>
 bif not (eqI r46.2.2.1 0) then
 some ([],(0,(r46.2.2.1,())))
 else
 (Bm F r46.1).bind fun r48 =>
 bif not (eqI r48.2.1 0) then
 some ([],(0,(5,())))
 else
 bif Km z33 r46.2.1 (List.length z32) then
 (Be F r48.1 (Cu (Ce z32 r46.2.1) z33)).bind fun r51 =>
 bif not r51.1 then
 some ([],(0,(5,())))
 else
 some (r46.1,(r46.2.1,(0,())))
 else
 none
 else
 none) (fun z53 z54 z55 =>
 some (z53,(z54,(z55,())))) x0 x1 x2 true
 else
 bif ltI x2 0 then
 C0 F (fun z57 z58 z59 =>
 bif inI z58 (List.length z57) then
 bif eqI (An 0 z57 z58) 1 then
 (G5 F z57 (Av .i64 z58 1) z59).bind fun r63 =>
 bif not (eqI r63.2.2.1 0) then
 some ([],(0,(r63.2.2.1,())))
 else
 (Bm F r63.1).bind fun r65 =>
 bif not (eqI r65.2.1 0) then
 some ([],(0,(5,())))
 else
 bif Km z58 r63.2.1 (List.length z57) then
 (Be F r65.1 (Cu (Ce z57 r63.2.1) z58)).bind fun r68 =>
 bif not r68.1 then
 some ([],(0,(5,())))
 else
 some (r63.1,(r63.2.1,(0,())))
 else
 none
 else
 (H4 F z57 (Av .i64 z58 1) z59).bind fun r71 =>
 bif not (eqI r71.2.2.1 0) then
 some ([],(0,(r71.2.2.1,())))
 else
 (Bm F r71.1).bind fun r73 =>
 bif not (eqI r73.2.1 0) then
 some ([],(0,(5,())))
 else
 bif Km z58 r71.2.1 (List.length z57) then
 (Be F r73.1 (Cu (Ce z57 r71.2.1) z58)).bind fun r76 =>
 bif not r76.1 then
 some ([],(0,(5,())))
 else
 some (r71.1,(r71.2.1,(0,())))
 else
 none
 else
 none) (fun z78 z79 z80 =>
 some (z78,(z79,(z80,())))) x0 x1 x2 true
 else
 C0 F (fun z82 z83 z84 =>
 bif inI z83 (List.length z82) then
 bif eqI (An 0 z82 z83) 1 then
 (G5 F z82 (Av .i64 z83 1) z84).bind fun r88 =>
 bif not (eqI r88.2.2.1 0) then
 some ([],(0,(r88.2.2.1,())))
 else
 (Bm F r88.1).bind fun r90 =>
 bif not (eqI r90.2.1 0) then
 some ([],(0,(5,())))
 else
 bif Km z83 r88.2.1 (List.length z82) then
 (Be F r90.1 (Cu (Ce z82 r88.2.1) z83)).bind fun r93 =>
 bif not r93.1 then
 some ([],(0,(5,())))
 else
 some (r88.1,(r88.2.1,(0,())))
 else
 none
 else
 (H4 F z82 (Av .i64 z83 1) z84).bind fun r96 =>
 bif not (eqI r96.2.2.1 0) then
 some ([],(0,(r96.2.2.1,())))
 else
 (Bm F r96.1).bind fun r98 =>
 bif not (eqI r98.2.1 0) then
 some ([],(0,(5,())))
 else
 bif Km z83 r96.2.1 (List.length z82) then
 (Be F r98.1 (Cu (Ce z82 r96.2.1) z83)).bind fun r101 =>
 bif not r101.1 then
 some ([],(0,(5,())))
 else
 some (r96.1,(r96.2.1,(0,())))
 else
 none
 else
 none) (fun z103 z104 z105 =>
 some (z103,(z104,(z105,())))) x0 x1 x2 (ltI 65536 x2)
def L1(F:Nat)(x0:Int):Option (Int×Unit) :=
 some (AkO .i64 (IntKind.wrap .i64 (Fg .u64 x0 1)) (Bj .i64 0 (IntKind.wrap .i64 (Wp .u64 x0 1))),())
def Cc(F:Nat){R:Type}(kn:qL→Int→Int→Option R)(kret:qL→Int→Int→Option R)(x0:qL)(x1:Int)(x2:Int)(x16:Bool):Option R :=
 bif x16 then
 kret [] 0 2
 else
 bif eqI x1 (Az x0) then
 kret [] 0 4
 else
 bif inI x1 (List.length x0) then
 bif ltI 2 (An 0 x0 x1) then
 kret [] 0 5
 else
 kn x0 x1 x2
 else
 none
def Ea(F:Nat){R:Type}(k1:qL→Int→Int→qL→Option R):Nat→qL→Int→Int→qL→qL→Int→Int→Option R
 | 0,_,_,_,_,_,_,_=>none
 | n+1,x0,x1,x10,x12,x58,x59,x60 =>
 bif ltI x60 x59 then
 bif inI x60 (List.length x58) then
 (L1 F (An 0 x58 x60)).bind fun r16 =>
 bif inI x60 (List.length x12) then
 Ea F k1 n x0 x1 x10 (Cd x12 x60 r16.1) x58 x59 (Av .i64 x60 1)
 else
 none
 else
 none
 else
 k1 x0 x1 x10 x12
def Dd(F:Nat){R:Type}(kn:qL→Int→Int→qL→Option R)(x0:qL)(x1:Int)(x10:Int)(x12:qL)(x58:qL)(x59:Int)(x60:Int):Option R :=
 Ea F (fun z19 z20 z21 z22 =>
 kn z19 z20 z21 z22) F x0 x1 x10 x12 x58 x59 x60
def Dq(F:Nat)(x0:qL)(x1:Int)(x2:Int):Option (qL×Int×Int×Unit) :=
 bif ltI x1 0 then
 Cc F (fun z6 z7 z8 =>
 (Cn F z6 (Av .i64 z7 1) z8).bind fun r10 =>
 bif not (eqI r10.2.2.1 0) then
 some ([],(0,(r10.2.2.1,())))
 else
 bif I7 z8 z8 8 then
 Dd F (fun z23 z24 z25 z26 =>
 bif inI z24 (List.length z23) then
 (F4 F z26 (IntKind.wrap .i64 (An 0 z23 z24))).bind fun r29 =>
 (Ek F r29.1).bind fun r30 =>
 bif not (eqI r30.2.1 0) then
 some ([],(0,(5,())))
 else
 bif Km z24 z25 (List.length z23) then
 (Be F r30.1 (Cu (Ce z23 z25) z24)).bind fun r33 =>
 bif not r33.1 then
 some ([],(0,(5,())))
 else
 some (r29.1,(z25,(0,())))
 else
 none
 else
 none) z6 z7 r10.2.1 (Cl z8 (0:Int)) r10.1 (Az r10.1) 0
 else
 none) (fun z35 z36 z37 =>
 some (z35,(z36,(z37,())))) x0 x1 x2 true
 else
 bif ltI (Az x0) x1 then
 Cc F (fun z40 z41 z42 =>
 (Cn F z40 (Av .i64 z41 1) z42).bind fun r44 =>
 bif not (eqI r44.2.2.1 0) then
 some ([],(0,(r44.2.2.1,())))
 else
 bif I7 z42 z42 8 then
 Dd F (fun z48 z49 z50 z51 =>
 bif inI z49 (List.length z48) then
 (F4 F z51 (IntKind.wrap .i64 (An 0 z48 z49))).bind fun r54 =>
 (Ek F r54.1).bind fun r55 =>
 bif not (eqI r55.2.1 0) then
 some ([],(0,(5,())))
 else
 bif Km z49 z50 (List.length z48) then
 (Be F r55.1 (Cu (Ce z48 z50) z49)).bind fun r58 =>
 bif not r58.1 then
 some ([],(0,(5,())))
 else
 some (r54.1,(z50,(0,())))
 else
 none
 else
 none) z40 z41 r44.2.1 (Cl z42 (0:Int)) r44.1 (Az r44.1) 0
 else
 none) (fun z60 z61 z62 =>
 some (z60,(z61,(z62,())))) x0 x1 x2 true
 else
 bif ltI x2 0 then
 Cc F (fun z64 z65 z66 =>
 (Cn F z64 (Av .i64 z65 1) z66).bind fun r68 =>
 bif not (eqI r68.2.2.1 0) then
 some ([],(0,(r68.2.2.1,())))
 else
 bif I7 z66 z66 8 then
 Dd F (fun z72 z73 z74 z75 =>
 bif inI z73 (List.length z72) then
 (F4 F z75 (IntKind.wrap .i64 (An 0 z72 z73))).bind fun r78 =>
 (Ek F r78.1).bind fun r79 =>
 bif not (eqI r79.2.1 0) then
 some ([],(0,(5,())))
 else
 bif Km z73 z74 (List.length z72) then
 (Be F r79.1 (Cu (Ce z72 z74) z73)).bind fun r82 =>
 bif not r82.1 then
 some ([],(0,(5,())))
 else
 some (r78.1,(z74,(0,())))
 else
 none
 else
 none) z64 z65 r68.2.1 (Cl z66 (0:Int)) r68.1 (Az r68.1) 0
 else
 none) (fun z84 z85 z86 =>
 some (z84,(z85,(z86,())))) x0 x1 x2 true
 else
 Cc F (fun z88 z89 z90 =>
 (Cn F z88 (Av .i64 z89 1) z90).bind fun r92 =>
 bif not (eqI r92.2.2.1 0) then
 some ([],(0,(r92.2.2.1,())))
 else
 bif I7 z90 z90 8 then
 Dd F (fun z96 z97 z98 z99 =>
 bif inI z97 (List.length z96) then
 (F4 F z99 (IntKind.wrap .i64 (An 0 z96 z97))).bind fun r102 =>
 (Ek F r102.1).bind fun r103 =>
 bif not (eqI r103.2.1 0) then
 some ([],(0,(5,())))
 else
 bif Km z97 z98 (List.length z96) then
 (Be F r103.1 (Cu (Ce z96 z98) z97)).bind fun r106 =>
 bif not r106.1 then
 some ([],(0,(5,())))
 else
 some (r102.1,(z98,(0,())))
 else
 none
 else
 none) z88 z89 r92.2.1 (Cl z90 (0:Int)) r92.1 (Az r92.1) 0
 else
 none) (fun z108 z109 z110 =>
 some (z108,(z109,(z110,())))) x0 x1 x2 (ltI 65536 x2)
def I3(F:Nat){R:Type}(k2:Int→qW→qL→qL→Int→Option R):Nat→Int→qW→qL→qL→Int→Int→Option R
 | 0,_,_,_,_,_,_=>none
 | n+1,x1,x4,x7,x9,x10,x11 =>
 bif ltI 0 x11 then
 bif inI x11 5 then
 bif inI (Bj .i64 x11 1) 5 then
 bif inI x11 5 then
 I3 F k2 n x1 x4 x7 (Cd x9 x11 (orI .u64 (Hv .u64 (An 0 x9 x11) 7) (Fg .u64 (An 0 x9 (Bj .i64 x11 1)) 57))) x10 (Bj .i64 x11 1)
 else
 none
 else
 none
 else
 none
 else
 k2 x1 x4 x7 x9 x10
def Eu(F:Nat){R:Type}(k0:Int→qW→qL→qL→Option R):Nat→Int→qW→qL→qL→Int→Option R
 | 0,_,_,_,_,_=>none
 | n+1,x1,x4,x7,x9,x10 =>
 bif leI 0 x10 then
 I3 F (fun z15 z16 z17 z18 z19 =>
 bif inI z19 (List.length z17) then
 Eu F k0 n z15 z16 z17 (Cd z18 0 (orI .u64 (Hv .u64 (An 0 z18 0) 7) (IntKind.wrap .u64 (I9 (An 0 z17 z19) 128)))) (Bj .i64 z19 1)
 else
 none) F x1 x4 x7 x9 x10 4
 else
 k0 x1 x4 x7 x9
def H5(F:Nat){R:Type}(k4:Int→qW→qL→qL→qW→Option R):Nat→Int→qW→qL→qL→qW→Int→Option R
 | 0,_,_,_,_,_,_=>none
 | n+1,x1,x4,x7,x9,x12,x63 =>
 bif ltI x63 4 then
 bif inI x63 5 then
 bif inI (Av .i64 x63 1) 5 then
 bif inI x63 4 then
 H5 F k4 n x1 x4 x7 x9 (x12.1,(Cd x12.2.1 x63 (orI .u64 (Fg .u64 (An 0 x9 x63) 1) (Hv .u64 (An 0 x9 (Av .i64 x63 1)) 63)),x12.2.2)) (Av .i64 x63 1)
 else
 none
 else
 none
 else
 none
 else
 k4 x1 x4 x7 x9 x12
def L2(F:Nat)(x0:qL)(x1:Int):Option (qW×Int×Int×Unit) :=
 (L0 F x0 x1 37).bind fun r1 =>
 bif not (eqI r1.2.1 0) then
 some ((false,([0,0,0,0],())),(0,(r1.2.1,())))
 else
 Eu F (fun z28 z29 z30 z31 =>
 H5 F (fun z43 z44 z45 z46 z47 =>
 bif ltI 1 (An 0 z46 4) then
 some ((false,([0,0,0,0],())),(0,(5,())))
 else
 (J4 F z47).bind fun r50 =>
 bif not r50.1 then
 some ((false,([0,0,0,0],())),(0,(5,())))
 else
 some (z47,(Av .i64 z43 (Az z45),(0,())))) F z28 z29 z30 z31 (eqI (I9 (An 0 z31 0) 2) 1,([0,0,0,0],())) 0) F x1 (false,([0,0,0,0],())) r1.1 [0,0,0,0,0] (Bj .i64 (Az r1.1) 1)
def B5(F:Nat){R:Type}(k0:Int→qR→(List qW)→Option R)(kret:qR→Int→Int→Option R):Nat→qL→Int→qR→(List qW)→Int→Option R
 | 0,_,_,_,_,_=>none
 | n+1,x0,x1,x4,x7,x13 =>
 bif ltI x13 2 then
 (L2 F x0 x1).bind fun r2 =>
 bif not (eqI r2.2.2.1 0) then
 kret ((false,([0,0,0,0],())),((false,([0,0,0,0],())),())) 0 r2.2.2.1
 else
 bif inI x13 2 then
 B5 F k0 kret n x0 r2.2.1 x4 (Cd x7 x13 r2.1) (Av .i64 x13 1)
 else
 none
 else
 k0 x1 x4 x7
def O5(F:Nat)(x0:qL)(x1:Int):Option (qR×Int×Int×Unit) :=
 B5 F (fun z6 z7 z8 =>
 let x33v9:=An (false,([0,0,0,0],())) z8 0
 let x35v10:=An (false,([0,0,0,0],())) z8 1
 (Ls F x35v10).bind fun r11 =>
 bif leI r11.1 0 then
 some (((false,([0,0,0,0],())),((false,([0,0,0,0],())),())),(0,(5,())))
 else
 (Jo F (x33v9,(x35v10,()))).bind fun r13 =>
 bif not r13.1 then
 some (((false,([0,0,0,0],())),((false,([0,0,0,0],())),())),(0,(5,())))
 else
 some ((x33v9,(x35v10,())),(z6,(0,())))) (fun z15 z16 z17 =>
 some (z15,(z16,(z17,())))) F x0 x1 ((false,([0,0,0,0],())),((false,([0,0,0,0],())),())) [(false,([0,0,0,0],())),(false,([0,0,0,0],()))] 0
def Ev(F:Nat){R:Type}(k0:Int→(List qGN)→Option R)(kret:(List qGN)→Int→Int→Option R):Nat→qL→Int→(List qGN)→qL→Int→Int→Option R
 | 0,_,_,_,_,_,_=>none
 | n+1,x0,x1,x11,x30,x31,x32 =>
 bif ltI x32 x31 then
 bif inI x32 (List.length x30) then
 (O5 F x0 x1).bind fun r7 =>
 bif not (eqI r7.2.2.1 0) then
 kret [] 0 r7.2.2.1
 else
 bif inI x32 (List.length x11) then
 Ev F k0 kret n x0 r7.2.1 (Cd x11 x32 (An 0 x30 x32,(r7.1,((),())))) x30 x31 (Av .i64 x32 1)
 else
 none
 else
 none
 else
 k0 x1 x11
def Jr(F:Nat)(x0:qL)(x1:Int)(x2:Int):Option ((List qGN)×Int×Int×Unit) :=
 (Dq F x0 x1 x2).bind fun r1 =>
 bif not (eqI r1.2.2.1 0) then
 some ([],(0,(r1.2.2.1,())))
 else
 bif I7 x2 x2 112 then
 Ev F (fun z11 z12 =>
 some (z12,(z11,(0,())))) (fun z13 z14 z15 =>
 some (z13,(z14,(z15,())))) F x0 r1.2.1 (Cl x2 ((0,(((false,([0,0,0,0],())),((false,([0,0,0,0],())),())),((),()))):qGN)) r1.1 (Az r1.1) 0
 else
 none
def Fr(F:Nat){R:Type}(k0:Int→qL→Int→Option R):Nat→Int→Int→qL→Int→qL→Int→Int→Option R
 | 0,_,_,_,_,_,_,_=>none
 | n+1,x3,x13,x15,x16,x32,x33,x34 =>
 bif ltI x34 x33 then
 bif inI x34 (List.length x32) then
 bif inI x34 (List.length x15) then
 bif inI x34 (List.length (Cd x15 x34 (Av .i64 (IntKind.wrap .i64 (Zo (An 0 x32 x34) (IntKind.wrap .u64 x3))) 1))) then
 Fr F k0 n x3 x13 (Cd x15 x34 (Av .i64 (IntKind.wrap .i64 (Zo (An 0 x32 x34) (IntKind.wrap .u64 x3))) 1)) (Zo (Av .i64 x16 (An 0 (Cd x15 x34 (Av .i64 (IntKind.wrap .i64 (Zo (An 0 x32 x34) (IntKind.wrap .u64 x3))) 1)) x34)) (Av .i64 x3 1)) x32 x33 (Av .i64 x34 1)
 else
 none
 else
 none
 else
 none
 else
 k0 x13 x15 x16
def Kj(F:Nat)(x0:qL)(x1:Int)(x2:Int)(x3:Int):Option (qL×Int×Int×Int×Unit) :=
 (Cn F x0 x1 x2).bind fun r1 =>
 bif not (eqI r1.2.2.1 0) then
 some ([],(0,(0,(r1.2.2.1,()))))
 else
 bif I7 x2 x2 8 then
 Fr F (fun z17 z18 z19 =>
 some (z18,(z19,(z17,(0,()))))) F x3 r1.2.1 (Cl x2 (0:Int)) 0 r1.1 (Az r1.1) 0
 else
 none
def Dj(F:Nat)(ok:Bool)(total size:Int):Nat→Int→Int→List Int→List Int→Option (Bool×List Int×List Int)
 | 0,_,_,_,_=>none
 | n+1,j,next,steps,xs =>
 bif ltI j size then
 bif inI 0 (List.length steps) then
 bif leI (IntKind.wrap .u64 (Bj .i64 total next)) (An 0 steps 0) then
 some (false,steps,xs)
 else
 bif ok then
 bif Bf (List.length xs+1) 8 then
 bif Km 1 (Az steps) (List.length steps) then
 Dj F ok total size n (Av .i64 j 1) (Av .i64 (Av .i64 next (IntKind.wrap .i64 (An 0 steps 0))) 1) (Cu steps 1) (xs++[Av .i64 next (IntKind.wrap .i64 (An 0 steps 0))])
 else none
 else none
 else none
 else none
 else
 some (true,steps,xs)
def Cq(F:Nat)(m:Nat)(total:Int)(sizes:List Int)(top:Int):Nat→Int→List Int→List qL→Option (Bool×List qL)
 | 0,_,_,_=>none
 | n+1,i,steps,D =>
 bif ltI i top then
 bif inI i (List.length sizes) then
 (Dj F (inI i m) total (An 0 sizes i) F 0 0 steps []).bind fun r =>
 bif r.1 then(bif eqI (Av .i64 i 1) (Az D+1) then Cq F m total sizes top n (Av .i64 i 1) r.2.1 (D++[r.2.2]) else none) else some (false,D++[r.2.2])
 else none
 else
 some (true,D)
def Hn(F:Nat){R:Type}{A:Type}(k0:List (Int×(A×(List Int×Unit)))→Option R)(kret:List (Int×(A×(List Int×Unit)))→Bool→Option R)(n:Nat)(x0:List (Int×(A×(Unit×Unit))))(x2:List Int)(x3:Int)(x12:List Int)(x13 x14:Int):Option R :=
 bif eqI x14 0 then
 (Cq F (List.length x0) x3 x12 x13 n 0 x2 []).bind fun r=>bif r.1 then k0 (D4 x0 r.2) else kret (D4 x0 r.2) false
 else none
def Nz(F:Nat)(x0:(List qGN))(x1:qL)(x2:qL)(x3:Int):Option ((List qG)×Bool×Unit) :=
 Hn F (fun z2 =>
 some (z2,(true,()))) (fun z3 z4 =>
 some (z3,(z4,()))) F x0 x2 x3 x1 (Az x1) 0
def J7(F:Nat)(x0:qG):Option (Bool×Unit) :=
 bif inI 0 (List.length x0.2.2.1) then
 some (eqI (An 0 x0.2.2.1 0) 0,())
 else
 none
def Bh(F:Nat){R:Type}(k0:Option R)(kret:Int→Option R):Nat→(List qG)→Int→Int→Option R
 | 0,_,_,_=>none
 | n+1,x0,x7,x8 =>
 bif ltI x8 x7 then
 bif inI x8 (List.length x0) then
 (J7 F (An (0,(((false,([0,0,0,0],())),((false,([0,0,0,0],())),())),([],()))) x0 x8)).bind fun r4 =>
 bif r4.1 then
 kret x8
 else
 Bh F k0 kret n x0 x7 (Av .i64 x8 1)
 else
 none
 else
 k0
def G6(F:Nat)(x0:(List qG)):Option (Int×Unit) :=
 Bh F (
 some ((-1),())) (fun z6 =>
 some (z6,())) F x0 (Az x0) 0
def Cr(F:Nat)(x0:(List qG)):Option (Bool×Unit) :=
 (G6 F x0).bind fun r1 =>
 some (leI 0 r1.1,())
def Br(F:Nat)(x0:qL)(x1:Int)(x2:Int):Option ((List qG)×Int×Int×Unit) :=
 (Nx F x0 x1 x2).bind fun r1 =>
 bif not r1.1 then
 some ([],(0,(2,())))
 else
 (It F x0 x1 x2).bind fun r3 =>
 bif not (eqI r3.2.2.1 0) then
 some ([],(0,(r3.2.2.1,())))
 else
 (Jr F x0 r3.2.1 r3.1).bind fun r5 =>
 bif not (eqI r5.2.2.1 0) then
 some ([],(0,(r5.2.2.1,())))
 else
 (Kj F x0 r5.2.1 r3.1 x2).bind fun r7 =>
 bif not (eqI r7.2.2.2.1 0) then
 some ([],(0,(r7.2.2.2.1,())))
 else
 bif ltI x2 r7.2.1 then
 some ([],(0,(10,())))
 else
 (Cn F x0 r7.2.2.1 r7.2.1).bind fun r10 =>
 bif not (eqI r10.2.2.1 0) then
 some ([],(0,(r10.2.2.1,())))
 else
 (Nz F r5.1 r7.1 r10.1 x2).bind fun r12 =>
 bif not r12.2.1 then
 some ([],(0,(10,())))
 else
 (Iq F r12.1).bind fun r14 =>
 bif not (eqI r14.1 0) then
 some ([],(0,(5,())))
 else
 bif ltI 0 x2 then
 (Cr F r12.1).bind fun r17 =>
 bif not r17.1 then
 some ([],(0,(10,())))
 else
 some (r12.1,(r10.2.1,(0,())))
 else
 some (r12.1,(r10.2.1,(0,())))
def J8(F:Nat){R:Type}(k0:Option R)(kret:Bool→Option R):Nat→qL→qL→Int→Option R
 | 0,_,_,_=>none
 | n+1,x0,x1,x5 =>
 bif ltI x5 (Az x0) then
 bif inI x5 (List.length x0) then
 bif inI x5 (List.length x1) then
 bif not (eqI (An 0 x0 x5) (An 0 x1 x5)) then
 kret false
 else
 J8 F k0 kret n x0 x1 (Av .i64 x5 1)
 else
 none
 else
 none
 else
 k0
def Iu(F:Nat)(x0:qL)(x1:qL):Option (Bool×Unit) :=
 bif not (eqI (Az x0) (Az x1)) then
 some (false,())
 else
 J8 F (
 some (true,())) (fun z10 =>
 some (z10,())) F x0 x1 0
def We(F:Nat) :Option (Bool×Unit) :=
 (Sy F 2).bind fun r1 =>
 (Sy F 4).bind fun r2 =>
 (T3 F [(0,(r1.1,([0,5],()))),(0,(r2.1,([9],())))]).bind fun r3 =>
 (Br F r3.1 0 10).bind fun r4 =>
 bif eqI r3.2.1 0 then
 bif eqI r4.2.2.1 0 then
 bif eqI r4.2.1 (Az r3.1) then
 (Iu F r3.1 [2,0,1,0,4,2,8,2,0,1,0,0,0,4,9]).bind fun r9 =>
 bif r9.1 then
 bif eqI (Az r4.1) 2 then
 bif inI 0 (List.length r4.1) then
 some (eqI (Az (An (0,(((false,([0,0,0,0],())),((false,([0,0,0,0],())),())),([],()))) r4.1 0).2.2.1) 2,())
 else
 none
 else
 some (false,())
 else
 some (false,())
 else
 some (false,())
 else
 some (false,())
 else
 some (false,())
def Ho(F:Nat){R:Type}(k0:Int→Int→Option R)(kret:qL→Int→Option R):Nat→qL→Int→Int→Int→Option R
 | 0,_,_,_,_=>none
 | n+1,x0,x1,x2,x8 =>
 bif ltI (Av .i64 x1 x8) (Az x0) then
 bif ltI x8 x2 then
 bif inI (Bj .i64 (Av .i64 x1 (Av .i64 x8 1)) 1) (List.length x0) then
 bif ltI (An 0 x0 (Bj .i64 (Av .i64 x1 (Av .i64 x8 1)) 1)) 128 then
 bif Km x1 (Av .i64 x1 (Av .i64 x8 1)) (List.length x0) then
 kret (Cu (Ce x0 (Av .i64 x1 (Av .i64 x8 1))) x1) 0
 else
 none
 else
 Ho F k0 kret n x0 x1 x2 (Av .i64 x8 1)
 else
 none
 else
 k0 x2 x8
 else
 k0 x2 x8
def Od(F:Nat)(x0:qL)(x1:Int)(x2:Int):Option (qL×Int×Unit) :=
 bif ltI x1 0 then
 some ([],(2,()))
 else
 bif ltI (Az x0) x1 then
 some ([],(2,()))
 else
 Ho F (fun z15 z16 =>
 bif eqI z16 z15 then
 some ([],(5,()))
 else
 some ([],(4,()))) (fun z18 z19 =>
 some (z18,(z19,()))) F x0 x1 x2 0
def J9(F:Nat){R:Type}(k0:Int→qL→Int→Option R):Nat→Int→qL→Int→Int→Option R
 | 0,_,_,_,_=>none
 | n+1,x1,x7,x10,x11 =>
 bif leI 0 x11 then
 bif inI x11 (List.length x7) then
 J9 F k0 n x1 x7 (Av .u64 (I6 .u64 x10 128) (IntKind.wrap .u64 (I9 (An 0 x7 x11) 128))) (Bj .i64 x11 1)
 else
 none
 else
 k0 x1 x7 x10
def Ka(F:Nat){R:Type}(kret:Int→Int→Int→Option R)(x1:Int)(x7:qL):Option R :=
 J9 F (fun z21 z22 z23 =>
 kret z23 (Av .i64 z21 (Az z22)) 0) F x1 x7 0 (Bj .i64 (Az x7) 1)
def Sb(F:Nat)(x0:qL)(x1:Int):Option (Int×Int×Int×Unit) :=
 (Od F x0 x1 10).bind fun r1 =>
 bif not (eqI r1.2.1 0) then
 some (0,(0,(r1.2.1,())))
 else
 bif inI (Bj .i64 (Az r1.1) 1) (List.length r1.1) then
 let x26v5:=An 0 r1.1 (Bj .i64 (Az r1.1) 1)
 bif eqI x26v5 0 then
 bif ltI 1 (Az r1.1) then
 some (0,(0,(5,())))
 else
 bif eqI (Az r1.1) 10 then
 bif ltI 1 x26v5 then
 some (0,(0,(5,())))
 else
 Ka F (fun z26 z27 z28 =>
 some (z26,(z27,(z28,())))) x1 r1.1
 else
 Ka F (fun z29 z30 z31 =>
 some (z29,(z30,(z31,())))) x1 r1.1
 else
 bif eqI (Az r1.1) 10 then
 bif ltI 1 x26v5 then
 some (0,(0,(5,())))
 else
 Ka F (fun z35 z36 z37 =>
 some (z35,(z36,(z37,())))) x1 r1.1
 else
 Ka F (fun z38 z39 z40 =>
 some (z38,(z39,(z40,())))) x1 r1.1
 else
 none
def Iv(F:Nat){R:Type}(k0:Int→qL→Option R)(kret:qL→Int→Int→Option R):Nat→qL→Int→Int→qL→Int→Option R
 | 0,_,_,_,_,_=>none
 | n+1,x0,x1,x2,x9,x10 =>
 bif ltI x10 x2 then
 (Sb F x0 x1).bind fun r2 =>
 bif not (eqI r2.2.2.1 0) then
 kret [] 0 r2.2.2.1
 else
 bif Bf ((List.length x9)+1) 8 then
 Iv F k0 kret n x0 r2.2.1 x2 (x9++[r2.1]) (Av .i64 x10 1)
 else
 none
 else
 k0 x1 x9
def S7(F:Nat)(x0:qL)(x1:Int)(x2:Int):Option (qL×Int×Int×Unit) :=
 Iv F (fun z6 z7 =>
 some (z7,(z6,(0,())))) (fun z8 z9 z10 =>
 some (z8,(z9,(z10,())))) F x0 x1 x2 [] 0
def Hp(F:Nat){R:Type}(k0:qL→Int→qL→Option R):Nat→qL→Int→Int→qL→Int→Option R
 | 0,_,_,_,_,_=>none
 | n+1,x0,x1,x2,x9,x10 =>
 bif ltI x10 (I6 .i64 x1 x2) then
 bif eqI x2 0 then
 none
 else
 bif inI (Ht .i64 x10 x2) (List.length x9) then
 bif inI (Ht .i64 x10 8) (List.length x0) then
 bif ltI (IntKind.wrap .u64 (I9 x10 8)) 0 then
 none
 else
 bif eqI x2 0 then
 none
 else
 bif ltI (IntKind.wrap .u64 (I9 x10 x2)) 0 then
 none
 else
 bif inI (Ht .i64 x10 x2) (List.length x9) then
 Hp F k0 n x0 x1 x2 (Cd x9 (Ht .i64 x10 x2) (orI .u64 (An 0 x9 (Ht .i64 x10 x2)) (Hv .u64 (IntKind.wrap .u64 (Wp .u8 (Fg .u8 (An 0 x0 (Ht .i64 x10 8)) (IntKind.wrap .u64 (I9 x10 8))) 1)) (IntKind.wrap .u64 (I9 x10 x2))))) (Av .i64 x10 1)
 else
 none
 else
 none
 else
 none
 else
 k0 x0 x2 x9
def Gk(F:Nat)(x0:qL)(x1:Int)(x2:Int):Option (qL×Bool×Unit) :=
 (Pt F x1 x2).bind fun r1 =>
 bif ltI r1.1 0 then
 some ([],(false,()))
 else
 bif not (eqI (Az x0) r1.1) then
 some ([],(false,()))
 else
 bif I7 x1 x1 8 then
 Hp F (fun z23 z24 z25 =>
 (Pb F z25 z24).bind fun r26 =>
 bif not r26.2.1 then
 some ([],(false,()))
 else
 (Iu F z23 r26.1).bind fun r28 =>
 bif not r28.1 then
 some ([],(false,()))
 else
 some (z25,(true,()))) F x0 x1 x2 (Cl x1 (0:Int)) 0
 else
 none
def Ql(F:Nat)(x0:qL)(x1:Int)(x2:Int):Option (qL×Int×Int×Unit) :=
 bif eqI x1 (Az x0) then
 some ([],(0,(4,())))
 else
 bif inI x1 (List.length x0) then
 bif ltI 64 (IntKind.wrap .i64 (An 0 x0 x1)) then
 some ([],(0,(5,())))
 else
 (Pt F x2 (IntKind.wrap .i64 (An 0 x0 x1))).bind fun r6 =>
 bif ltI (Bj .i64 (Bj .i64 (Az x0) x1) 1) r6.1 then
 some ([],(0,(4,())))
 else
 let x41v13:=Av .i64 (Av .i64 x1 1) r6.1
 bif Km (Av .i64 x1 1) x41v13 (List.length x0) then
 (Gk F (Cu (Ce x0 x41v13) (Av .i64 x1 1)) x2 (IntKind.wrap .i64 (An 0 x0 x1))).bind fun r15 =>
 bif not r15.2.1 then
 some ([],(0,(5,())))
 else
 some (r15.1,(Av .i64 (Av .i64 x1 1) r6.1,(0,())))
 else
 none
 else
 none
def El(F:Nat)(x0:qL)(x1:Int)(x2:Int):Option (qL×Int×Int×Unit) :=
 bif ltI x1 0 then
 some ([],(0,(2,())))
 else
 bif ltI (Az x0) x1 then
 some ([],(0,(2,())))
 else
 bif ltI x2 0 then
 some ([],(0,(2,())))
 else
 bif ltI 65536 x2 then
 some ([],(0,(2,())))
 else
 bif eqI x1 (Az x0) then
 some ([],(0,(4,())))
 else
 bif inI x1 (List.length x0) then
 bif eqI (An 0 x0 x1) 0 then
 (S7 F x0 (Av .i64 x1 1) x2).bind fun r11 =>
 bif not (eqI r11.2.2.1 0) then
 some ([],(0,(r11.2.2.1,())))
 else
 (Fl F r11.1).bind fun r13 =>
 bif Km x1 r11.2.1 (List.length x0) then
 (Iu F r13.1 (Cu (Ce x0 r11.2.1) x1)).bind fun r15 =>
 bif not r15.1 then
 some ([],(0,(5,())))
 else
 some (r11.1,(r11.2.1,(0,())))
 else
 none
 else
 bif eqI (An 0 x0 x1) 1 then
 (Ql F x0 (Av .i64 x1 1) x2).bind fun r19 =>
 bif not (eqI r19.2.2.1 0) then
 some ([],(0,(r19.2.2.1,())))
 else
 (Fl F r19.1).bind fun r21 =>
 bif Km x1 r19.2.1 (List.length x0) then
 (Iu F r21.1 (Cu (Ce x0 r19.2.1) x1)).bind fun r23 =>
 bif not r23.1 then
 some ([],(0,(5,())))
 else
 some (r19.1,(r19.2.1,(0,())))
 else
 none
 else
 some ([],(0,(5,())))
 else
 none
def N0(F:Nat)(x0:Int):Option (Int×Unit) :=
 bif eqI (I9 x0 2) 0 then
 some (IntKind.wrap .i64 (Ht .u64 x0 2),())
 else
 some (Bj .i64 (Bj .i64 0 (IntKind.wrap .i64 (Ht .u64 x0 2))) 1,())
def Wf(F:Nat)(x0:Int)(x1:Int):Option (Int×Unit) :=
 some (IntKind.wrap .i64 (Av .u64 (IntKind.wrap .u64 x0) x1),())
def C1(F:Nat){R:Type}(k0:qL→Option R):Nat→qL→qL→Int→Option R
 | 0,_,_,_=>none
 | n+1,x0,x3,x4 =>
 bif ltI x4 (Az x0) then
 bif eqI x4 0 then
 bif inI 0 (List.length x0) then
 bif Bf ((List.length x3)+1) 8 then
 C1 F k0 n x0 (x3++[An 0 x0 0]) (Av .i64 x4 1)
 else
 none
 else
 none
 else
 bif inI (Bj .i64 x4 1) (List.length x3) then
 bif inI x4 (List.length x0) then
 (Wf F (An 0 x3 (Bj .i64 x4 1)) (IntKind.wrap .u64 (An 0 x0 x4))).bind fun r11 =>
 bif Bf ((List.length x3)+1) 8 then
 C1 F k0 n x0 (x3++[r11.1]) (Av .i64 x4 1)
 else
 none
 else
 none
 else
 none
 else
 k0 x3
def U5(F:Nat)(x0:qL):Option (qL×Unit) :=
 C1 F (fun z14 =>
 some (z14,())) F x0 [] 0
def F9(F:Nat){R:Type}(k0:qL→Int→Int→qL→Option R):Nat→qL→Int→Int→qL→Int→qL→Int→Option R
 | 0,_,_,_,_,_,_,_=>none
 | n+1,x0,x1,x2,x9,x10,x12,x13 =>
 bif ltI x13 x2 then
 bif inI x13 (List.length x9) then
 (N0 F (An 0 x9 x13)).bind fun r16 =>
 bif inI x13 (List.length x12) then
 F9 F k0 n x0 x1 x2 x9 x10 (Cd x12 x13 r16.1) (Av .i64 x13 1)
 else
 none
 else
 none
 else
 k0 x0 x1 x10 x12
def Ga(F:Nat){R:Type}(k2:qL→Int→Int→qL→Option R):Nat→qL→Int→Int→qL→Int→Option R
 | 0,_,_,_,_,_=>none
 | n+1,x0,x1,x10,x12,x14 =>
 bif inI x1 (List.length x0) then
 bif ltI x14 (IntKind.wrap .i64 (An 0 x0 x1)) then
 (U5 F x12).bind fun r26 =>
 Ga F k2 n x0 x1 x10 r26.1 (Av .i64 x14 1)
 else
 k2 x0 x1 x10 x12
 else
 none
def Gl(F:Nat)(x0:qL)(x1:Int)(x2:Int):Option (qL×Int×Int×Unit) :=
 bif ltI x1 0 then
 some ([],(0,(2,())))
 else
 bif ltI (Az x0) x1 then
 some ([],(0,(2,())))
 else
 bif ltI x2 0 then
 some ([],(0,(2,())))
 else
 bif ltI 65536 x2 then
 some ([],(0,(2,())))
 else
 bif eqI x1 (Az x0) then
 some ([],(0,(4,())))
 else
 bif inI x1 (List.length x0) then
 bif ltI 2 (An 0 x0 x1) then
 some ([],(0,(5,())))
 else
 (El F x0 (Av .i64 x1 1) x2).bind fun r11 =>
 bif not (eqI r11.2.2.1 0) then
 some ([],(0,(r11.2.2.1,())))
 else
 bif I7 x2 x2 8 then
 F9 F (fun z19 z20 z21 z22 =>
 Ga F (fun z28 z29 z30 z31 =>
 (Oc F z31).bind fun r32 =>
 bif Km z29 z30 (List.length z28) then
 (Iu F r32.1 (Cu (Ce z28 z30) z29)).bind fun r34 =>
 bif not r34.1 then
 some ([],(0,(5,())))
 else
 some (z31,(z30,(0,())))
 else
 none) F z19 z20 z21 z22 0) F x0 x1 x2 r11.1 r11.2.1 (Cl x2 (0:Int)) 0
 else
 none
 else
 none
def L3(F:Nat)(x0:qW)(x1:Int)(x2:Int):Option (qW×Bool×Unit) :=
 (Gf F x1).bind fun r1 =>
 (Fc F x0 r1.1).bind fun r2 =>
 bif not r2.2.1 then
 some ((false,([0,0,0,0],())),(false,()))
 else
 (Ey F x2).bind fun r4 =>
 (Hh F r2.1 r4.1).bind fun r5 =>
 some (r5.1,(r5.2.1,()))
def C5(F:Nat){R:Type}(k0:Int→qW→qL→qW→Bool→Option R):Nat→Int→qW→qL→qW→Bool→Int→Option R
 | 0,_,_,_,_,_,_=>none
 | n+1,x1,x4,x7,x10,x11,x12 =>
 bif leI 1 x12 then
 bif x11 then
 bif inI x12 (List.length x7) then
 (L3 F x10 128 (IntKind.wrap .u64 (I9 (An 0 x7 x12) 128))).bind fun r18 =>
 C5 F k0 n x1 x4 x7 r18.1 r18.2.1 (Bj .i64 x12 1)
 else
 none
 else
 k0 x1 x4 x7 x10 x11
 else
 k0 x1 x4 x7 x10 x11
def I4(F:Nat){R:Type}(kret:qW→Int→Int→Option R)(x1:Int)(x4:qW)(x7:qL)(x10:qW)(x11:Bool):Option R :=
 bif not x11 then
 kret (false,([0,0,0,0],())) 0 5
 else
 bif inI 0 (List.length x7) then
 bif eqI (I9 (An 0 x7 0) 2) 1 then
 (Lm F x10).bind fun r34 =>
 kret r34.1 (Av .i64 x1 (Az x7)) 0
 else
 kret x10 (Av .i64 x1 (Az x7)) 0
 else
 none
def Dk(F:Nat){R:Type}(kret:qW→Int→Int→Option R)(x1:Int)(x4:qW)(x7:qL):Option R :=
 C5 F (fun z20 z21 z22 z23 z24 =>
 bif z24 then
 bif inI 0 (List.length z22) then
 (L3 F z23 64 (IntKind.wrap .u64 (Ht .u8 (I9 (An 0 z22 0) 128) 2))).bind fun r29 =>
 I4 F (fun z39 z40 z41 =>
 kret z39 z40 z41) z20 z21 z22 r29.1 r29.2.1
 else
 none
 else
 I4 F (fun z42 z43 z44 =>
 kret z42 z43 z44) z20 z21 z22 z23 z24) F x1 x4 x7 (false,([0,0,0,0],())) true (Bj .i64 (Az x7) 1)
def G7(F:Nat)(x0:qL)(x1:Int):Option (qW×Int×Int×Unit) :=
 (Od F x0 x1 37).bind fun r1 =>
 bif not (eqI r1.2.1 0) then
 some ((false,([0,0,0,0],())),(0,(r1.2.1,())))
 else
 bif inI (Bj .i64 (Az r1.1) 1) (List.length r1.1) then
 let x28v5:=An 0 r1.1 (Bj .i64 (Az r1.1) 1)
 bif eqI x28v5 0 then
 bif ltI 1 (Az r1.1) then
 some ((false,([0,0,0,0],())),(0,(5,())))
 else
 bif eqI (Az r1.1) 1 then
 bif eqI x28v5 1 then
 some ((false,([0,0,0,0],())),(0,(5,())))
 else
 Dk F (fun z45 z46 z47 =>
 some (z45,(z46,(z47,())))) x1 (false,([0,0,0,0],())) r1.1
 else
 Dk F (fun z48 z49 z50 =>
 some (z48,(z49,(z50,())))) x1 (false,([0,0,0,0],())) r1.1
 else
 bif eqI (Az r1.1) 1 then
 bif eqI x28v5 1 then
 some ((false,([0,0,0,0],())),(0,(5,())))
 else
 Dk F (fun z54 z55 z56 =>
 some (z54,(z55,(z56,())))) x1 (false,([0,0,0,0],())) r1.1
 else
 Dk F (fun z57 z58 z59 =>
 some (z57,(z58,(z59,())))) x1 (false,([0,0,0,0],())) r1.1
 else
 none
def L4(F:Nat)(x0:qL)(x1:Int):Option (qR×Int×Int×Unit) :=
 (G7 F x0 x1).bind fun r1 =>
 bif not (eqI r1.2.2.1 0) then
 some (((false,([0,0,0,0],())),((false,([0,0,0,0],())),())),(0,(r1.2.2.1,())))
 else
 (G7 F x0 r1.2.1).bind fun r3 =>
 bif not (eqI r3.2.2.1 0) then
 some (((false,([0,0,0,0],())),((false,([0,0,0,0],())),())),(0,(r3.2.2.1,())))
 else
 (Fu F (r1.1,(r3.1,()))).bind fun r5 =>
 bif not r5.1 then
 some (((false,([0,0,0,0],())),((false,([0,0,0,0],())),())),(0,(5,())))
 else
 some ((r1.1,(r3.1,())),(r3.2.1,(0,())))
def E5(F:Nat){R:Type}(k0:qL→Int→Int→Int→(List qGN)→Option R)(kret:Int→Int→Option R):Nat→qL→Int→Int→Int→qL→(List qGN)→Int→Option R
 | 0,_,_,_,_,_,_,_=>none
 | n+1,x0,x1,x2,x9,x11,x12,x13 =>
 bif ltI x13 (Az x12) then
 bif inI x13 (List.length x11) then
 bif inI x13 (List.length x12) then
 let x12v17:=Cd x12 x13 (An 0 x11 x13,(An (0,(((false,([0,0,0,0],())),((false,([0,0,0,0],())),())),((),()))) x12 x13).2)
 (L4 F x0 x1).bind fun r18 =>
 bif inI x13 (List.length x12v17) then
 bif not (eqI r18.2.2.1 0) then
 kret 0 r18.2.2.1
 else
 E5 F k0 kret n x0 r18.2.1 x2 x9 x11 (Cd x12v17 x13 ((An (0,(((false,([0,0,0,0],())),((false,([0,0,0,0],())),())),((),()))) x12v17 x13).1,(r18.1,(An (0,(((false,([0,0,0,0],())),((false,([0,0,0,0],())),())),((),()))) x12v17 x13).2.2))) (Av .i64 x13 1)
 else
 none
 else
 none
 else
 none
 else
 k0 x0 x1 x2 x9 x12
def E6(F:Nat){R:Type}(k2:qL→Int→Int→(List qGN)→qL→Int→Option R)(kret:Int→Int→Option R):Nat→qL→Int→Int→(List qGN)→qL→Int→Int→Option R
 | 0,_,_,_,_,_,_,_=>none
 | n+1,x0,x1,x2,x12,x14,x15,x16 =>
 bif ltI x16 (Az x14) then
 bif inI x16 (List.length x14) then
 bif leI x15 (An 0 x14 x16) then
 kret 0 10
 else
 bif inI x16 (List.length x14) then
 E6 F k2 kret n x0 x1 x2 x12 x14 (Bj .u64 x15 (Av .u64 (An 0 x14 x16) 1)) (Av .i64 x16 1)
 else
 none
 else
 none
 else
 k2 x0 x1 x2 x12 x14 x15
def Cj(F:Nat)(ok:Bool)(total:Int)(sizes starts:List Int)(i:Int):Nat→Int→Int→Int→Bool→List Int→Option (Bool×Int×Bool×List Int)
 | 0,_,_,_,_,_=>none
 | n+1,j,last,k,zero,xs =>
 bif inI i (List.length sizes) then
 bif leI j (IntKind.wrap .i64 (An 0 sizes i)) then
 bif inI k (List.length starts) then
 bif leI (IntKind.wrap .u64 total) (An 0 starts k) then
 some (false,k,zero,xs)
 else
 bif leI (IntKind.wrap .u64 total) (bif ltI 0 j then Av .u64 (An 0 starts k) (Av .u64 last 1) else An 0 starts k) then
 some (false,k,zero,xs)
 else
 bif ok then
 bif Bf (List.length xs+1) 8 then
 Cj F ok total sizes starts i n (Av .i64 j 1) (bif ltI 0 j then Av .u64 (An 0 starts k) (Av .u64 last 1) else An 0 starts k) (Av .i64 k 1) (bif zero then true else eqI (bif ltI 0 j then Av .u64 (An 0 starts k) (Av .u64 last 1) else An 0 starts k) 0) (xs++[IntKind.wrap .i64 (bif ltI 0 j then Av .u64 (An 0 starts k) (Av .u64 last 1) else An 0 starts k)])
 else none
 else none
 else none
 else
 some (true,k,zero,xs)
 else none
def Db(F:Nat)(m:Nat)(total:Int)(sizes starts:List Int):Nat→Int→Int→Bool→List qL→Option (Bool×Bool×List qL)
 | 0,_,_,_,_=>none
 | n+1,i,k,zero,D =>
 bif ltI i (m:Int) then
 (Cj F (inI i m) total sizes starts i F 0 0 k zero []).bind fun r =>
 bif r.1 then(bif eqI (Av .i64 i 1) (Az D+1) then Db F m total sizes starts n (Av .i64 i 1) r.2.1 r.2.2.1 (D++[r.2.2.2]) else none) else some (false,zero,D)
 else
 some (true,zero,D)
def E7(F:Nat){R:Type}{A:Type}(k4:Int→List (Int×(A×(List Int×Unit)))→Bool→Option R)(kret:List (Int×(A×(List Int×Unit)))→Int→Int→Option R)(n:Nat)(x1 x2:Int)(x12:List (Int×(A×(Unit×Unit))))(x14 x17:List Int)(x18:Bool)(x19 x20:Int):Option R :=
 bif eqI x19 0 then
 (Db F (List.length x12) x2 x14 x17 n 0 x20 x18 []).bind fun r=>bif r.1 then k4 x1 (D4 x12 r.2.2) r.2.1 else kret [] 0 10
 else none
def Dw(F:Nat)(x0:qL)(x1:Int)(x2:Int):Option ((List qG)×Int×Int×Unit) :=
 bif ltI x1 0 then
 some ([],(0,(2,())))
 else
 bif ltI (Az x0) x1 then
 some ([],(0,(2,())))
 else
 bif ltI x2 0 then
 some ([],(0,(2,())))
 else
 bif ltI 4096 x2 then
 some ([],(0,(2,())))
 else
 (Sb F x0 x1).bind fun r6 =>
 bif not (eqI r6.2.2.1 0) then
 some ([],(0,(r6.2.2.1,())))
 else
 bif ltI (IntKind.wrap .u64 x2) r6.1 then
 some ([],(0,(10,())))
 else
 (Gl F x0 r6.2.1 (IntKind.wrap .i64 r6.1)).bind fun r11 =>
 bif not (eqI r11.2.2.1 0) then
 some ([],(0,(r11.2.2.1,())))
 else
 bif I7 r6.1 r6.1 112 then
 E5 F (fun z22 z23 z24 z25 z26 =>
 (El F z22 z23 (IntKind.wrap .i64 z25)).bind fun r28 =>
 bif not (eqI r28.2.2.1 0) then
 some ([],(0,(r28.2.2.1,())))
 else
 E6 F (fun z39 z40 z41 z42 z43 z44 =>
 (El F z39 z40 (Bj .i64 z41 (IntKind.wrap .i64 z44))).bind fun r47 =>
 bif not (eqI r47.2.2.1 0) then
 some ([],(0,(r47.2.2.1,())))
 else
 E7 F (fun z50 z51 z52 =>
 (Jk F z51).bind fun r53 =>
 bif not (eqI r53.1 0) then
 some ([],(0,(5,())))
 else
 bif not z52 then
 some ([],(0,(10,())))
 else
 some (z51,(z50,(0,())))) (fun z56 z57 z58 =>
 some (z56,(z57,(z58,())))) F r47.2.1 z41 z42 z43 r47.1 (eqI z41 0) 0 0) (fun z59 z60 =>
 some ([],(z59,(z60,())))) F z22 r28.2.1 z24 z26 r28.1 (IntKind.wrap .u64 z24) 0) (fun z61 z62 =>
 some ([],(z61,(z62,())))) F x0 r11.2.1 x2 r6.1 r11.1 (Cl r6.1 ((0,(((false,([0,0,0,0],())),((false,([0,0,0,0],())),())),((),()))):qGN)) 0
 else
 none
def H6(F:Nat){R:Type}(k2:(List qG)→(List qG)→Int→Option R)(kret:Bool→Option R):Nat→(List qG)→(List qG)→Int→Int→Option R
 | 0,_,_,_,_=>none
 | n+1,x0,x1,x5,x6 =>
 bif inI x5 (List.length x0) then
 bif ltI x6 (Az (An (0,(((false,([0,0,0,0],())),((false,([0,0,0,0],())),())),([],()))) x0 x5).2.2.1) then
 bif inI x5 (List.length x0) then
 let x71v20:=(An (0,(((false,([0,0,0,0],())),((false,([0,0,0,0],())),())),([],()))) x0 x5).2.2.1
 bif inI x6 (List.length x71v20) then
 bif inI x5 (List.length x1) then
 let x79v22:=(An (0,(((false,([0,0,0,0],())),((false,([0,0,0,0],())),())),([],()))) x1 x5).2.2.1
 bif inI x6 (List.length x79v22) then
 bif not (eqI (An 0 x71v20 x6) (An 0 x79v22 x6)) then
 kret false
 else
 H6 F k2 kret n x0 x1 x5 (Av .i64 x6 1)
 else
 none
 else
 none
 else
 none
 else
 none
 else
 k2 x0 x1 x5
 else
 none
def Gm(F:Nat){R:Type}(k0:Option R)(kret:Bool→Option R):Nat→(List qG)→(List qG)→Int→Option R
 | 0,_,_,_=>none
 | n+1,x0,x1,x5 =>
 bif ltI x5 (Az x0) then
 bif inI x5 (List.length x0) then
 bif inI x5 (List.length x1) then
 bif not (eqI (An (0,(((false,([0,0,0,0],())),((false,([0,0,0,0],())),())),([],()))) x0 x5).1 (An (0,(((false,([0,0,0,0],())),((false,([0,0,0,0],())),())),([],()))) x1 x5).1) then
 kret false
 else
 bif inI x5 (List.length x0) then
 bif inI x5 (List.length x1) then
 bif not (eqT (.pair (.pair .bool (.pair (.arr 4 (.int .u64)) .unit)) (.pair (.pair .bool (.pair (.arr 4 (.int .u64)) .unit)) .unit)) (An (0,(((false,([0,0,0,0],())),((false,([0,0,0,0],())),())),([],()))) x0 x5).2.1 (An (0,(((false,([0,0,0,0],())),((false,([0,0,0,0],())),())),([],()))) x1 x5).2.1) then
 kret false
 else
 bif inI x5 (List.length x0) then
 bif inI x5 (List.length x1) then
 bif not (eqI (Az (An (0,(((false,([0,0,0,0],())),((false,([0,0,0,0],())),())),([],()))) x0 x5).2.2.1) (Az (An (0,(((false,([0,0,0,0],())),((false,([0,0,0,0],())),())),([],()))) x1 x5).2.2.1)) then
 kret false
 else
 H6 F (fun z26 z27 z28 =>
 Gm F k0 kret n z26 z27 (Av .i64 z28 1)) (fun z30 =>
 kret z30) F x0 x1 x5 0
 else
 none
 else
 none
 else
 none
 else
 none
 else
 none
 else
 none
 else
 k0
def U6(F:Nat)(x0:(List qG))(x1:(List qG)):Option (Bool×Unit) :=
 bif not (eqI (Az x0) (Az x1)) then
 some (false,())
 else
 Gm F (
 some (true,())) (fun z31 =>
 some (z31,())) F x0 x1 0
def E8(F:Nat)(x0:qL)(x1:Int)(x2:Int):Option (Bool×Unit) :=
 (Br F x0 x1 x2).bind fun r1 =>
 (Dw F x0 x1 x2).bind fun r2 =>
 bif eqI r1.2.2.1 r2.2.2.1 then
 bif eqI r1.2.1 r2.2.1 then
 (U6 F r1.1 r2.1).bind fun r5 =>
 some (r5.1,())
 else
 some (false,())
 else
 some (false,())
def Yg(F:Nat)(x0:qTP)(x1:qL):Option (qTP×qL×Unit) :=
 bif Bf (0+(List.length x1)) 1 then
 (Ap F x0 (Az ([]++x1))).bind fun r3 =>
 (Ap F r3.1 6).bind fun r4 =>
 bif eqI r4.2.1 0 then
 (Ap F r4.1 (Av .i64 (Az ([]++x1)) 1)).bind fun r8 =>
 bif Km 0 r8.2.1 (List.length ([]++x1)) then
 some (r8.1,(Ce ([]++x1) r8.2.1,()))
 else
 none
 else
 bif eqI r4.2.1 1 then
 (Ap F r4.1 256).bind fun r11 =>
 bif Bf ((List.length ([]++x1))+1) 1 then
 some (r11.1,((([]++x1)++[IntKind.wrap .u8 r11.2.1]),()))
 else
 none
 else
 bif eqI r4.2.1 2 then
 bif ltI 0 (Az ([]++x1)) then
 bif Km 0 r3.2.1 (List.length ([]++x1)) then
 let x55v17:=Av .i64 r3.2.1 1
 bif Km x55v17 (Az ([]++x1)) (List.length ([]++x1)) then
 bif Nat.ble ((Int.toNat r3.2.1)+((List.length ([]++x1)) - (Int.toNat x55v17))) (List.length ([]++x1)) then
 some (r4.1,(((List.take (Int.toNat r3.2.1) ([]++x1))++(List.drop (Int.toNat x55v17) (List.take (List.length ([]++x1)) ([]++x1)))),()))
 else
 none
 else
 none
 else
 none
 else
 some (r4.1,(([]++x1),()))
 else
 bif ltI 0 (Az ([]++x1)) then
 bif inI r3.2.1 (List.length ([]++x1)) then
 (Ap F r4.1 8).bind fun r22 =>
 let x24v23:=IntKind.wrap .u64 r22.2.1
 bif ltI x24v23 0 then
 none
 else
 bif inI r3.2.1 (List.length ([]++x1)) then
 some (r22.1,(Cd ([]++x1) r3.2.1 (AkO .u8 (An 0 ([]++x1) r3.2.1) (Hv .u8 1 x24v23)),()))
 else
 none
 else
 none
 else
 some (r4.1,(([]++x1),()))
 else
 none
def I5(F:Nat)(x0:qTP)(x1:qL):Option (qTP×qL×qL×Unit) :=
 bif Bf (0+(List.length x1)) 1 then
 (Ap F x0 (Az ([]++x1))).bind fun r3 =>
 (Ap F r3.1 6).bind fun r4 =>
 bif eqI r4.2.1 0 then
 (Ap F r4.1 (Av .i64 (Az ([]++x1)) 1)).bind fun r8 =>
 bif Km 0 r8.2.1 (List.length ([]++x1)) then
 some (r8.1,(x1,(Ce ([]++x1) r8.2.1,())))
 else
 none
 else
 bif eqI r4.2.1 1 then
 (Ap F r4.1 256).bind fun r11 =>
 bif Bf ((List.length ([]++x1))+1) 1 then
 some (r11.1,(x1,((([]++x1)++[IntKind.wrap .u8 r11.2.1]),())))
 else
 none
 else
 bif eqI r4.2.1 2 then
 bif ltI 0 (Az ([]++x1)) then
 bif Km 0 r3.2.1 (List.length ([]++x1)) then
 let x55v17:=Av .i64 r3.2.1 1
 bif Km x55v17 (Az ([]++x1)) (List.length ([]++x1)) then
 bif Nat.ble ((Int.toNat r3.2.1)+((List.length ([]++x1)) - (Int.toNat x55v17))) (List.length ([]++x1)) then
 some (r4.1,(x1,(((List.take (Int.toNat r3.2.1) ([]++x1))++(List.drop (Int.toNat x55v17) (List.take (List.length ([]++x1)) ([]++x1)))),())))
 else
 none
 else
 none
 else
 none
 else
 some (r4.1,(x1,(([]++x1),())))
 else
 bif ltI 0 (Az ([]++x1)) then
 bif inI r3.2.1 (List.length ([]++x1)) then
 (Ap F r4.1 8).bind fun r22 =>
 let x24v23:=IntKind.wrap .u64 r22.2.1
 bif ltI x24v23 0 then
 none
 else
 bif inI r3.2.1 (List.length ([]++x1)) then
 some (r22.1,(x1,(Cd ([]++x1) r3.2.1 (AkO .u8 (An 0 ([]++x1) r3.2.1) (Hv .u8 1 x24v23)),())))
 else
 none
 else
 none
 else
 some (r4.1,(x1,(([]++x1),())))
 else
 none
def K1(F:Nat)(x0:qL)(x1:Int)(x2:Int)(x3:qL):Option (Bool×Unit) :=
 (Aeu F x3).bind fun r1 =>
 (U2 F r1.1).bind fun r2 =>
 (Qh F r2.2.1).bind fun r3 =>
 (Sr F x2 20).bind fun r4 =>
 (S1 F r2.1).bind fun r5 =>
 (We F).bind fun r6 =>
 bif r6.1 then
 (E8 F x0 x1 x2).bind fun r7 =>
 bif r7.1 then
 (E8 F x0 0 r4.1).bind fun r8 =>
 bif r8.1 then
 (Ap F r5.1 4).bind fun r9 =>
 bif Bf (3+(List.length x0)) 1 then
 (E8 F ([IntKind.wrap .u8 r9.2.1,0,0]++x0) 0 r4.1).bind fun r12 =>
 bif r12.1 then
 (E8 F r5.2.1 0 r4.1).bind fun r13 =>
 bif r13.1 then
 (Ap F r9.1 6).bind fun r14 =>
 (E8 F r5.2.1 0 (Av .i64 3 r14.2.1)).bind fun r16 =>
 bif r16.1 then
 (E8 F r3.1 0 r2.2.2.1).bind fun r17 =>
 bif r17.1 then
 (Ap F r14.1 3).bind fun r18 =>
 (E8 F r3.1 0 (Bj .i64 (Av .i64 r2.2.2.1 r18.2.1) 1)).bind fun r21 =>
 bif r21.1 then
 (I5 F r18.1 r3.1).bind fun r22 =>
 (E8 F r22.2.2.1 0 r2.2.2.1).bind fun r23 =>
 bif r23.1 then
 bif Bf ((List.length r22.2.1)+(List.length x0)) 1 then
 (E8 F (r22.2.1++x0) 0 r2.2.2.1).bind fun r25 =>
 some (r25.1,())
 else
 none
 else
 some (false,())
 else
 some (false,())
 else
 some (false,())
 else
 some (false,())
 else
 some (false,())
 else
 some (false,())
 else
 none
 else
 some (false,())
 else
 some (false,())
 else
 some (false,())
end Go.Proofs.YtdhfajmcakneiaaGreat
