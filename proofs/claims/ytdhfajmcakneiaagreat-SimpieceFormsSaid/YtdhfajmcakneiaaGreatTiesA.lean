/- That the code computes the models. Written by program. -/
import Derived.Test.YtdhfajmcakneiaaGreatShare
set_option linter.unusedVariables false
set_option linter.unusedSimpArgs false
namespace Go.Proofs.YtdhfajmcakneiaaGreat
open Go.Eng Tryz
def B1C(F:Nat):Contract:=C0 C40 fun x=>N7 F x.1
theorem D79(F:Nat):CSound prog 166 (B1C F):=B81 F (by kernel_rfl) fun x w h0 h1=>A8F x w h0 h1
def B5I(F:Nat):Contract:=C0 A56 fun x=>U1 F x.1 x.2.1 x.2.2.1
theorem E0k(F:Nat):CExt prog 161 (B5I F):=C41 F func161 (by kernel_rfl) (by kernel_rfl) (by kernel_rfl) (by kernel_rfl)
def B95(F:Nat):Contract:=C0 A56 fun x=>A0C F x.1 x.2.1 x.2.2.1
theorem E1w(F:Nat):CExt prog 186 (B95 F):=C42 F func186 (by kernel_rfl) (by kernel_rfl) (by kernel_rfl) (by kernel_rfl)
def D2L(F:Nat):Contract:=C0 (B1A I6 5) fun x=>Z7 F x.1 x.2.1
def E52:Cx:=B2 [] [] (0,0)
theorem s73(F:Nat):CSound prog 73 (D2L F):=C2s (cx:=E52) (H1 _ rfl) (by kernel_rfl:E52.row? 5=some ⟨I6,0,1⟩) rfl (by kernel_rfl) (by decide) (fun base l c n w=>A5h base l c n w) (fun i0 z hi hz hs base l c n cs w=>A5i i0 z hi hz hs base l c n cs w)
def sg7:Sig:=⟨[.ro],[(0,.d G1)],false,some (0,0),[F2]⟩
def E53(F:Nat):Contract:=C0 sg7 fun x=>B2O F x.1
def cx7(F:Nat):Cx:=B2 [] [] (0,6)
theorem cs7(F:Nat):A8 (cx7 F):=A2 A3
theorem s7(F:Nat):CSound prog 7 (E53 F) :=
 B3 (fn:=f7) (A5 []) (A5 []) rfl func7 (by kernel_rfl) (cs7 F) (fun fr hn=>(B0 (by kernel_rfl))) (fun x=>by kernel_rfl)
def E6B:Sig:=⟨[.ro,.ro],[(0,.d A1),(1,.d A1)],true,none,[A1]⟩
def D7a(F:Nat):Contract:=C0 E6B fun x=>A5J F x.1 x.2.1
def E6C(F:Nat):Cx:=B2 [] [] (0,16)
theorem E6D(F:Nat):A8 (E6C F):=A2 A3
theorem s16(F:Nat):CSound prog 16 (D7a F) :=
 B3 (fn:=f16) (A5 []) (A5 []) rfl func16 (by kernel_rfl) (E6D F) (fun fr hn=>(B0 (by kernel_rfl))) (fun x=>by kernel_rfl)
def E6E:Sig:=⟨[.bor,.ro],[(0,.box 0 F2),(1,.d A1)],false,none,[F2,A1]⟩
def A9Z(F:Nat):Contract:=C0 E6E fun x=>B4 F x.1 x.2.1
def E6F(F:Nat):Cx:=B2 [(16,D7a F)] [] (1,35)
theorem E6G(F:Nat):A8 (E6F F):=A2 (A0 (s16 F) A3)
theorem s19(F:Nat):CSound prog 19 (A9Z F) :=
 B3 (fn:=f19) (A5 []) (A5 []) rfl func19 (by kernel_rfl) (E6G F) (fun fr hn=>(B0 (by kernel_rfl))) (fun x=>by kernel_rfl)
def E1x:Sig:=⟨[.bor],[(0,.box 0 F2)],false,none,[F2,A6]⟩
def C2H(F:Nat):Contract:=C0 E1x fun x=>O4 F x.1
def E54(F:Nat):Cx:=B2 [(19,A9Z F)] [] (1,16)
theorem E55(F:Nat):A8 (E54 F):=A2 (A0 (s19 F) A3)
def B96:A4:=[(0,.box 0 F2),(3,.d A6),(4,.d A1)]
def B97:A4:=[(0,.box 0 F2),(3,.d A6)]
def C88:I0:=[(2,B97)]
def C89(F n:Nat):B8 B96:=fun x K=>S8 F (fun y0 y3=>K (.exit 0) (enc B97 (y0,y3,()))) n x.1 x.2.1 x.2.2.1
def E56(F:Nat):C8 E1x:=A5 [(3,⟨B96,C89 F F⟩)]
theorem D7b(F:Nat)(fr:Frm)(hn:(E54 F).ntmps=fr.n)(n:Nat):D2 E1x f59 fr [1,1,0,1,0,0] B96 (C89 F n) :=
 D4 (E56 F) (A5 []) C88 rfl (E55 F) hn (m:=fun n=>C89 F n) (fun _ _=>rfl) (fun n x K=>by kernel_rfl) (B0 (by kernel_rfl)) n
theorem s59(F:Nat):CSound prog 59 (C2H F) :=
 B3 (fn:=f59) (E56 F) (A5 []) rfl func59 (by kernel_rfl) (E55 F) (fun fr hn=>(C3 (l:=[((.loop (sub (A7 f59) [1,1,0,1,0,0])),⟨B96,C89 F F⟩)]) (by kernel_rfl) (A9 (D7b F fr hn F) B6))) (fun x=>by kernel_rfl)
def E6H:Sig:=⟨[.bor],[(0,.box 0 F2)],false,none,[F2,A1]⟩
def B8f(F:Nat):Contract:=C0 E6H fun x=>K7 F x.1
def E6I(F:Nat):Cx:=B2 [(19,A9Z F),(59,C2H F)] [] (1,32)
theorem E6J(F:Nat):A8 (E6I F):=A2 (A0 (s19 F) (A0 (s59 F) A3))
theorem s29(F:Nat):CSound prog 29 (B8f F) :=
 B3 (fn:=f29) (A5 []) (A5 []) rfl func29 (by kernel_rfl) (E6J F) (fun fr hn=>(B0 (by kernel_rfl))) (fun x=>by kernel_rfl)
def E6K:Sig:=⟨[.bor,.ro],[(0,.box 0 F2),(1,.d A1)],false,none,[F2,.bool]⟩
def C4u(F:Nat):Contract:=C0 E6K fun x=>K5 F x.1 x.2.1
def E6L(F:Nat):Cx:=B2 [(19,A9Z F)] [] (1,11)
theorem E6N(F:Nat):A8 (E6L F):=A2 (A0 (s19 F) A3)
theorem s66(F:Nat):CSound prog 66 (C4u F) :=
 B3 (fn:=f66) (A5 []) (A5 []) rfl func66 (by kernel_rfl) (E6N F) (fun fr hn=>(B0 (by kernel_rfl))) (fun x=>by kernel_rfl)
def C4v:Sig:=⟨[.bor,.ro],[(0,.box 0 F2),(1,.d A1)],false,some (0,2),[F2,G1]⟩
def D0N(F:Nat):Contract:=C0 C4v fun x=>A1G F x.1 x.2.1
def D2N(F:Nat):Cx:=B2 [(19,A9Z F),(29,B8f F),(59,C2H F),(66,C4u F)] [4,5] (1,80)
theorem D2O(F:Nat):A8 (D2N F):=A2 (A0 (s19 F) (A0 (s29 F) (A0 (s59 F) (A0 (s66 F) A3))))
def A90:A4:=[(0,.box 0 F2),(5,.own 5 A1 2),(6,.d A1),(7,.d A1),(8,.d A6),(9,.d A1),(10,.d A6)]
def B1D:A4:=[(0,.box 0 F2),(5,.own 5 A1 2),(6,.d A1),(7,.d A1),(8,.d A6),(9,.d A1)]
def A8s:A4:=[(0,.box 0 F2),(4,.own 4 A1 2)]
def C2I:I0:=[(0,B1D),(1,A8s)]
def B8g(F:Nat):B8 A90:=fun x K=>F4 F (fun y0 y5 y6 y7 y8 y9=>K .normal (enc B1D (y0,y5,y6,y7,y8,y9,()))) (fun y0 y4=>K .ret (enc A8s (y0,y4,()))) x.1 x.2.1 x.2.2.1 x.2.2.2.1 x.2.2.2.2.1 x.2.2.2.2.2.1 x.2.2.2.2.2.2.1
def B2S:A4:=[(0,.box 0 F2),(5,.own 5 A1 2),(6,.d A1),(7,.d A1),(8,.d A6),(9,.d A1)]
def B5J:A4:=[(0,.box 0 F2),(5,.own 5 A1 2)]
def B00:A4:=[(0,.box 0 F2),(4,.own 4 A1 2)]
def C4w:I0:=[(2,B5J),(1,B00)]
def B98(F n:Nat):B8 B2S:=fun x K=>D0 F (fun y0 y5=>K (.exit 0) (enc B5J (y0,y5,()))) (fun y0 y4=>K .ret (enc B00 (y0,y4,()))) n x.1 x.2.1 x.2.2.1 x.2.2.2.1 x.2.2.2.2.1 x.2.2.2.2.2.1
def D2P(F:Nat):C8 C4v:=A5 [(6,⟨B2S,B98 F F⟩)]
def D2Q(F:Nat):C8 C4v:=A5 [(20,⟨A90,B8g F⟩)]
theorem C8a(F:Nat)(fr:Frm)(hn:(D2N F).ntmps=fr.n):L9 C4v f108 fr [1,1,1,1,1,0,1,0,0,1,0,0,1,1,1] A90 (B8g F) :=
 N5 (D2P F) (D2Q F) C2I rfl (D2O F) hn (fun x K=>by kernel_rfl) (B0 (by kernel_rfl))
theorem D2S(F:Nat)(fr:Frm)(hn:(D2N F).ntmps=fr.n)(n:Nat):D2 C4v f108 fr [1,1,1,1,1,0,1,0,0] B2S (B98 F n) :=
 D4 (D2P F) (D2Q F) C4w rfl (D2O F) hn (m:=fun n=>B98 F n) (fun _ _=>rfl) (fun n x K=>by kernel_rfl) (C3 (l:=[((sub (A7 f108) [1,1,1,1,1,0,1,0,0,1,0,0,1,1,1]),⟨A90,B8g F⟩)]) (by kernel_rfl) (A9 (C8a F fr hn) B6)) n
theorem E6O(F:Nat):CSound prog 108 (D0N F) :=
 B3 (fn:=f108) (D2P F) (D2Q F) rfl func108 (by kernel_rfl) (D2O F) (fun fr hn=>(C3 (l:=[((.loop (sub (A7 f108) [1,1,1,1,1,0,1,0,0])),⟨B2S,B98 F F⟩)]) (by kernel_rfl) (A9 (D2S F fr hn F) B6))) (fun x=>by kernel_rfl)
def E1y:Sig:=⟨[.bor,.ro],[(0,.box 0 F2),(1,.d A1)],false,some (0,96),[F2,(.slice S0)]⟩
def D7c(F:Nat):Contract:=C0 E1y fun x=>A0F F x.1 x.2.1
def E57(F:Nat):Cx:=B2 [(108,D0N F),(19,A9Z F),(29,B8f F),(66,C4u F)] [4,6] (1,91)
theorem E58(F:Nat):A8 (E57 F):=A2 (A0 (E6O F) (A0 (s19 F) (A0 (s29 F) (A0 (s66 F) A3))))
def B99:A4:=[(0,.box 0 F2),(5,.d G1),(6,.own 6 S0 96),(7,.d A1),(8,.d A1),(9,.d A1),(10,.d A1)]
def B9a:A4:=[(0,.box 0 F2),(6,.own 6 S0 96)]
def C8b:I0:=[(2,B9a)]
def C8c(F n:Nat):B8 B99:=fun x K=>B7 F (fun y0 y6=>K (.exit 0) (enc B9a (y0,y6,()))) n x.1 x.2.1 x.2.2.1 x.2.2.2.1 x.2.2.2.2.1 x.2.2.2.2.2.1 x.2.2.2.2.2.2.1
def E59(F:Nat):C8 E1y:=A5 [(6,⟨B99,C8c F F⟩)]
theorem D7d(F:Nat)(fr:Frm)(hn:(E57 F).ntmps=fr.n)(n:Nat):D2 E1y f54 fr [1,1,1,1,1,0,1,0,0] B99 (C8c F n) :=
 D4 (E59 F) (A5 []) C8b rfl (E58 F) hn (m:=fun n=>C8c F n) (fun _ _=>rfl) (fun n x K=>by kernel_rfl) (B0 (by kernel_rfl)) n
theorem s54(F:Nat):CSound prog 54 (D7c F) :=
 B3 (fn:=f54) (E59 F) (A5 []) rfl func54 (by kernel_rfl) (E58 F) (fun fr hn=>(C3 (l:=[((.loop (sub (A7 f54) [1,1,1,1,1,0,1,0,0])),⟨B99,C8c F F⟩)]) (by kernel_rfl) (A9 (D7d F fr hn F) B6))) (fun x=>by kernel_rfl)
def E6P:Sig:=⟨[.bor,.ro],[(0,.box 0 F2),(1,.d A1)],false,some (0,96),[F2,(.slice S0)]⟩
def D7e(F:Nat):Contract:=C0 E6P fun x=>A2q F x.1 x.2.1
def E6Q(F:Nat):Cx:=B2 [(54,D7c F),(29,B8f F)] [4,8,17] (1,19)
theorem E6S(F:Nat):A8 (E6Q F):=A2 (A0 (s54 F) (A0 (s29 F) A3))
theorem s23(F:Nat):CSound prog 23 (D7e F) :=
 B3 (fn:=f23) (A5 []) (A5 []) rfl func23 (by kernel_rfl) (E6S F) (fun fr hn=>(B0 (by kernel_rfl))) (fun x=>by kernel_rfl)
def E6T:Sig:=⟨[.bor],[(0,.box 0 F2)],false,none,[F2,A1]⟩
def D7f(F:Nat):Contract:=C0 E6T fun x=>Y7 F x.1
def E6U(F:Nat):Cx:=B2 [(19,A9Z F),(59,C2H F)] [] (1,24)
theorem E6V(F:Nat):A8 (E6U F):=A2 (A0 (s19 F) (A0 (s59 F) A3))
theorem s25(F:Nat):CSound prog 25 (D7f F) :=
 B3 (fn:=f25) (A5 []) (A5 []) rfl func25 (by kernel_rfl) (E6V F) (fun fr hn=>(B0 (by kernel_rfl))) (fun x=>by kernel_rfl)
def E1z:Sig:=⟨[.ro],[(0,.d A1)],true,none,[.bool]⟩
def B9b(F:Nat):Contract:=C0 E1z fun x=>X2 F x.1
def E1A(F:Nat):Cx:=B2 [] [] (0,9)
theorem E1B(F:Nat):A8 (E1A F):=A2 A3
theorem E1C(F:Nat):CSound prog 109 (B9b F) :=
 B3 (fn:=f109) (A5 []) (A5 []) rfl func109 (by kernel_rfl) (E1B F) (fun fr hn=>(B0 (by kernel_rfl))) (fun x=>by kernel_rfl)
def E6W:Sig:=⟨[.ro],[(0,.d A1)],true,none,[(.pair A1 (.pair A1 (.pair A1 (.pair S0 (.pair A1 (.pair A1 (.pair E0 .unit))))))),A1]⟩
def D7g(F:Nat):Contract:=C0 E6W fun x=>A4B F x.1
def E6X(F:Nat):Cx:=B2 [(109,B9b F)] [] (0,10)
theorem E6Y(F:Nat):A8 (E6X F):=A2 (A0 (E1C F) A3)
theorem s55(F:Nat):CSound prog 55 (D7g F) :=
 B3 (fn:=f55) (A5 []) (A5 []) rfl func55 (by kernel_rfl) (E6Y F) (fun fr hn=>(B0 (by kernel_rfl))) (fun x=>by kernel_rfl)
def D2T:Sig:=⟨[.ro],[(0,.d (.slice S0))],false,some (0,2),[G1]⟩
def D0O(F:Nat):Contract:=C0 D2T fun x=>A4C F x.1
def D7h(F:Nat):Cx:=B2 [] [2,3] (0,20)
theorem D7i(F:Nat):A8 (D7h F):=A2 A3
def B2T:A4:=[(0,.d (.slice S0)),(3,.own 3 A1 2),(4,.d A1)]
def B5K:A4:=[(3,.own 3 A1 2)]
def C4x:I0:=[(2,B5K)]
def B9c(F n:Nat):B8 B2T:=fun x K=>A05 F (fun y3=>K (.exit 0) (enc B5K (y3,()))) n x.1 x.2.1 x.2.2.1
def D7j(F:Nat):C8 D2T:=A5 [(3,⟨B2T,B9c F F⟩)]
theorem D2U(F:Nat)(fr:Frm)(hn:(D7h F).ntmps=fr.n)(n:Nat):D2 D2T f111 fr [1,1,0,1,0,0] B2T (B9c F n) :=
 D4 (D7j F) (A5 []) C4x rfl (D7i F) hn (m:=fun n=>B9c F n) (fun _ _=>rfl) (fun n x K=>by kernel_rfl) (B0 (by kernel_rfl)) n
theorem E6Z(F:Nat):CSound prog 111 (D0O F) :=
 B3 (fn:=f111) (D7j F) (A5 []) rfl func111 (by kernel_rfl) (D7i F) (fun fr hn=>(C3 (l:=[((.loop (sub (A7 f111) [1,1,0,1,0,0])),⟨B2T,B9c F F⟩)]) (by kernel_rfl) (A9 (D2U F fr hn F) B6))) (fun x=>by kernel_rfl)
def D2V:Sig:=⟨[.ro],[(0,.d G1)],true,none,[.bool]⟩
def D0P(F:Nat):Contract:=C0 D2V fun x=>A17 F x.1
def D7k(F:Nat):Cx:=B2 [] [] (0,20)
theorem D7l(F:Nat):A8 (D7k F):=A2 A3
def B2U:A4:=[(0,.d G1),(3,.d A1)]
def B5L:A4:=[]
def B01:A4:=[(2,.d .bool)]
def C4y:I0:=[(2,B5L),(1,B01)]
def B9d(F n:Nat):B8 B2U:=fun x K=>J5 F (K (.exit 0) (enc B5L (()))) (fun y2=>K .ret (enc B01 (y2,()))) n x.1 x.2.1
def D7m(F:Nat):C8 D2V:=A5 [(2,⟨B2U,B9d F F⟩)]
theorem D2W(F:Nat)(fr:Frm)(hn:(D7k F).ntmps=fr.n)(n:Nat):D2 D2V f110 fr [1,0,1,0,0] B2U (B9d F n) :=
 D4 (D7m F) (A5 []) C4y rfl (D7l F) hn (m:=fun n=>B9d F n) (fun _ _=>rfl) (fun n x K=>by kernel_rfl) (B0 (by kernel_rfl)) n
theorem E70(F:Nat):CSound prog 110 (D0P F) :=
 B3 (fn:=f110) (D7m F) (A5 []) rfl func110 (by kernel_rfl) (D7l F) (fun fr hn=>(C3 (l:=[((.loop (sub (A7 f110) [1,0,1,0,0])),⟨B2U,B9d F F⟩)]) (by kernel_rfl) (A9 (D2W F fr hn F) B6))) (fun x=>by kernel_rfl)
def E71:Sig:=⟨[.ro],[(0,.d (.slice S0))],true,none,[A1]⟩
def D7n(F:Nat):Contract:=C0 E71 fun x=>A4D F x.1
def E72(F:Nat):Cx:=B2 [(111,D0O F),(110,D0P F)] [] (0,7)
theorem E73(F:Nat):A8 (E72 F):=A2 (A0 (E6Z F) (A0 (E70 F) A3))
theorem s56(F:Nat):CSound prog 56 (D7n F) :=
 B3 (fn:=f56) (A5 []) (A5 []) rfl func56 (by kernel_rfl) (E73 F) (fun fr hn=>(B0 (by kernel_rfl))) (fun x=>by kernel_rfl)
def E1D:Sig:=⟨[.ro],[(0,.d A1)],true,none,[A1]⟩
def C4z(F:Nat):Contract:=C0 E1D fun x=>A5K F x.1
def E1E(F:Nat):Cx:=B2 [] [] (0,5)
theorem E1F(F:Nat):A8 (E1E F):=A2 A3
theorem E5a(F:Nat):CSound prog 157 (C4z F) :=
 B3 (fn:=f157) (A5 []) (A5 []) rfl func157 (by kernel_rfl) (E1F F) (fun fr hn=>(B0 (by kernel_rfl))) (fun x=>by kernel_rfl)
def D2X:Sig:=⟨[.ro,.ro],[(0,.d A1),(1,.d A1)],true,none,[A1,.bool]⟩
def D0Q(F:Nat):Contract:=C0 D2X fun x=>A42 F x.1 x.2.1
def D7o(F:Nat):Cx:=B2 [] [] (0,34)
theorem D7p(F:Nat):A8 (D7o F):=A2 A3
def B2V:A4:=[(0,.d A1),(1,.d A1)]
def B02:A4:=[(4,.d A1),(5,.d .bool)]
def C4A:I0:=[(1,B02)]
def C4B(F:Nat):B8 B2V:=fun x K=>X3 F (fun y4 y5=>K .ret (enc B02 (y4,y5,()))) x.1 x.2.1
def D7q(F:Nat):C8 D2X:=A5 [(3,⟨B2V,C4B F⟩)]
theorem D2Y(F:Nat)(fr:Frm)(hn:(D7o F).ntmps=fr.n):L9 D2X f181 fr [1,1] B2V (C4B F) :=
 N5 (A5 []) (D7q F) C4A rfl (D7p F) hn (fun x K=>by kernel_rfl) (B0 (by kernel_rfl))
theorem E74(F:Nat):CSound prog 181 (D0Q F) :=
 B3 (fn:=f181) (A5 []) (D7q F) rfl func181 (by kernel_rfl) (D7p F) (fun fr hn=>(C3 (l:=[((sub (A7 f181) [1,1]),⟨B2V,C4B F⟩)]) (by kernel_rfl) (A9 (D2Y F fr hn) B6))) (fun x=>by kernel_rfl)
def E1G:Sig:=⟨[.ro,.ro],[(0,.d A1),(1,.d A1)],true,none,[A1]⟩
def C4C(F:Nat):Contract:=C0 E1G fun x=>A4e F x.1 x.2.1
def E1H(F:Nat):Cx:=B2 [(157,C4z F),(181,D0Q F)] [] (0,15)
theorem E1I(F:Nat):A8 (E1H F):=A2 (A0 (E5a F) (A0 (E74 F) A3))
theorem E5b(F:Nat):CSound prog 154 (C4C F) :=
 B3 (fn:=f154) (A5 []) (A5 []) rfl func154 (by kernel_rfl) (E1I F) (fun fr hn=>(B0 (by kernel_rfl))) (fun x=>by kernel_rfl)
def E1J:Sig:=⟨[],[],true,none,[E0]⟩
def B9e(F:Nat):Contract:=C0 E1J fun x=>A1f F 
def E1K(F:Nat):Cx:=B2 [] [] (0,2)
theorem E1L(F:Nat):A8 (E1K F):=A2 A3
theorem E1N(F:Nat):CSound prog 117 (B9e F) :=
 B3 (fn:=f117) (A5 []) (A5 []) rfl func117 (by kernel_rfl) (E1L F) (fun fr hn=>(B0 (by kernel_rfl))) (fun x=>by kernel_rfl)
def D2Z:Sig:=⟨[.ro],[(0,.d C1)],false,none,[C1]⟩
def A8t(F:Nat):Contract:=C0 D2Z fun x=>J1 F x.1
def D7r(F:Nat):Cx:=B2 [] [2,19] (0,21)
theorem D7s(F:Nat):A8 (D7r F):=A2 A3
def B2W:A4:=[(0,.d C1)]
def B5N:A4:=[(0,.d C1)]
def C4D:I0:=[(2,B5N)]
def B9f(F n:Nat):B8 B2W:=fun x K=>U9 F (fun y0=>K (.exit 0) (enc B5N (y0,()))) n x.1
def D7t(F:Nat):C8 D2Z:=A5 [(1,⟨B2W,B9f F F⟩)]
theorem D30(F:Nat)(fr:Frm)(hn:(D7r F).ntmps=fr.n)(n:Nat):D2 D2Z f159 fr [1,0,0,0] B2W (B9f F n) :=
 D4 (D7t F) (A5 []) C4D rfl (D7s F) hn (m:=fun n=>B9f F n) (fun _ _=>rfl) (fun n x K=>by kernel_rfl) (B0 (by kernel_rfl)) n
theorem D31(F:Nat):CSound prog 159 (A8t F) :=
 B3 (fn:=f159) (D7t F) (A5 []) rfl func159 (by kernel_rfl) (D7s F) (fun fr hn=>(C3 (l:=[((.loop (sub (A7 f159) [1,0,0,0])),⟨B2W,B9f F F⟩)]) (by kernel_rfl) (A9 (D30 F fr hn F) B6))) (fun x=>by kernel_rfl)
def B9g:Sig:=⟨[.con 49],[(0,.own 0 A6 49)],false,some (0,49),[C1]⟩
def B8h(F:Nat):Contract:=C0 B9g fun x=>A1g F x.1
def D0S(F:Nat):Cx:=B2 [] [2,19] (0,21)
theorem D0T(F:Nat):A8 (D0S F):=A2 A3
def A91:A4:=[(0,.own 0 A6 49)]
def B1E:A4:=[(0,.own 0 A6 49)]
def C2J:I0:=[(2,B1E)]
def B2X(F n:Nat):B8 A91:=fun x K=>A11 F (fun y0=>K (.exit 0) (enc B1E (y0,()))) n x.1
def D0U(F:Nat):C8 B9g:=A5 [(1,⟨A91,B2X F F⟩)]
def D0V(F:Nat):C8 B9g:=A5 []
theorem C8d(F:Nat)(fr:Frm)(hn:(D0S F).ntmps=fr.n)(n:Nat):D2 B9g f159 fr [1,0,0,0] A91 (B2X F n) :=
 D4 (D0U F) (D0V F) C2J rfl (D0T F) hn (m:=fun n=>B2X F n) (fun _ _=>rfl) (fun n x K=>by kernel_rfl) (B0 (by kernel_rfl)) n
theorem D7u(F:Nat):CSound prog 159 (B8h F) :=
 B3 (fn:=f159) (D0U F) (D0V F) rfl func159 (by kernel_rfl) (D0T F) (fun fr hn=>(C3 (l:=[((.loop (sub (A7 f159) [1,0,0,0])),⟨A91,B2X F F⟩)]) (by kernel_rfl) (A9 (C8d F fr hn F) B6))) (fun x=>by kernel_rfl)
def E1O:Sig:=⟨[.ro],[(0,.d tyV)],false,none,[C1]⟩
def A7m(F:Nat):Contract:=C0 E1O fun x=>W9 F x.1
def E1P(F:Nat):Cx:=B2 [(159,A8t F)] [2,3] (0,8)
theorem E1Q(F:Nat):A8 (E1P F):=A2 (A0 (D31 F) A3)
theorem D0W(F:Nat):CSound prog 122 (A7m F) :=
 B3 (fn:=f122) (A5 []) (A5 []) rfl func122 (by kernel_rfl) (E1Q F) (fun fr hn=>(B0 (by kernel_rfl))) (fun x=>by kernel_rfl)
def E75:Sig:=⟨[.ro],[(0,.d tyV)],true,none,[.bool]⟩
def C4E(F:Nat):Contract:=C0 E75 fun x=>Y8 F x.1
def E76(F:Nat):Cx:=B2 [(122,A7m F)] [] (0,12)
theorem E77(F:Nat):A8 (E76 F):=A2 (A0 (D0W F) A3)
theorem s89(F:Nat):CSound prog 89 (C4E F) :=
 B3 (fn:=f89) (A5 []) (A5 []) rfl func89 (by kernel_rfl) (E77 F) (fun fr hn=>(B0 (by kernel_rfl))) (fun x=>by kernel_rfl)
def E78:Sig:=⟨[.ro],[(0,.d tyV)],true,none,[A1]⟩
def B2Y(F:Nat):Contract:=C0 E78 fun x=>J7 F x.1
def E79(F:Nat):Cx:=B2 [(122,A7m F)] [] (0,9)
theorem E7a(F:Nat):A8 (E79 F):=A2 (A0 (D0W F) A3)
theorem s90(F:Nat):CSound prog 90 (B2Y F) :=
 B3 (fn:=f90) (A5 []) (A5 []) rfl func90 (by kernel_rfl) (E7a F) (fun fr hn=>(B0 (by kernel_rfl))) (fun x=>by kernel_rfl)
def E7b:Sig:=⟨[.ro],[(0,.d tyV)],true,none,[.bool]⟩
def D7v(F:Nat):Contract:=C0 E7b fun x=>A3u F x.1
def E7c(F:Nat):Cx:=B2 [] [] (0,19)
theorem E7d(F:Nat):A8 (E7c F):=A2 A3
theorem s91(F:Nat):CSound prog 91 (D7v F) :=
 B3 (fn:=f91) (A5 []) (A5 []) rfl func91 (by kernel_rfl) (E7d F) (fun fr hn=>(B0 (by kernel_rfl))) (fun x=>by kernel_rfl)
def E7e:Sig:=⟨[.ro],[(0,.d tyV)],true,none,[tyV]⟩
def D32(F:Nat):Contract:=C0 E7e fun x=>A2A F x.1
def E7f(F:Nat):Cx:=B2 [] [] (0,5)
theorem E7g(F:Nat):A8 (E7f F):=A2 A3
theorem s93(F:Nat):CSound prog 93 (D32 F) :=
 B3 (fn:=f93) (A5 []) (A5 []) rfl func93 (by kernel_rfl) (E7g F) (fun fr hn=>(B0 (by kernel_rfl))) (fun x=>by kernel_rfl)
def E1S:Sig:=⟨[.ro],[(0,.d tyV)],true,none,[tyV]⟩
def B5O(F:Nat):Contract:=C0 E1S fun x=>V8 F x.1
def E1T(F:Nat):Cx:=B2 [(89,C4E F)] [] (0,8)
theorem E1U(F:Nat):A8 (E1T F):=A2 (A0 (s89 F) A3)
theorem E0l(F:Nat):CSound prog 119 (B5O F) :=
 B3 (fn:=f119) (A5 []) (A5 []) rfl func119 (by kernel_rfl) (E1U F) (fun fr hn=>(B0 (by kernel_rfl))) (fun x=>by kernel_rfl)
def E1V:Sig:=⟨[.ro],[(0,.d tyV)],true,none,[A6,.bool]⟩
def C4F(F:Nat):Contract:=C0 E1V fun x=>S2 F x.1
def E1W(F:Nat):Cx:=B2 [(119,B5O F),(122,A7m F)] [] (0,19)
theorem E1X(F:Nat):A8 (E1W F):=A2 (A0 (E0l F) (A0 (D0W F) A3))
theorem E5c(F:Nat):CSound prog 131 (C4F F) :=
 B3 (fn:=f131) (A5 []) (A5 []) rfl func131 (by kernel_rfl) (E1X F) (fun fr hn=>(B0 (by kernel_rfl))) (fun x=>by kernel_rfl)
def E7h:Sig:=⟨[.ro],[(0,.d A6)],true,none,[tyV]⟩
def C8e(F:Nat):Contract:=C0 E7h fun x=>Q2 F x.1
def E7i(F:Nat):Cx:=B2 [] [] (0,6)
theorem E7j(F:Nat):A8 (E7i F):=A2 A3
theorem s67(F:Nat):CSound prog 67 (C8e F) :=
 B3 (fn:=f67) (A5 []) (A5 []) rfl func67 (by kernel_rfl) (E7j F) (fun fr hn=>(B0 (by kernel_rfl))) (fun x=>by kernel_rfl)
def E1Y:Sig:=⟨[.ro],[(0,.d A6)],true,none,[A1]⟩
def D0X(F:Nat):Contract:=C0 E1Y fun x=>Y9 F x.1
def E1Z(F:Nat):Cx:=B2 [(166,B1C F)] [] (0,6)
theorem E20(F:Nat):A8 (E1Z F):=A2 (A0 (D79 F) A3)
theorem E7k(F:Nat):CSound prog 192 (D0X F) :=
 B3 (fn:=f192) (A5 []) (A5 []) rfl func192 (by kernel_rfl) (E20 F) (fun fr hn=>(B0 (by kernel_rfl))) (fun x=>by kernel_rfl)
def C8f:Sig:=⟨[.ro,.ro,.ro],[(0,.d A6),(1,.d A6),(2,.d A6)],true,none,[A6,A6]⟩
def D0Y(F:Nat):Contract:=C0 C8f fun x=>A4f F x.1 x.2.1 x.2.2.1
def D33(F:Nat):Cx:=B2 [(192,D0X F)] [] (0,135)
theorem D34(F:Nat):A8 (D33 F):=A2 (A0 (E7k F) A3)
def A92:A4:=[(2,.d A6),(8,.d A6),(9,.d A6),(10,.d A6),(11,.d A6),(13,.d A6),(14,.d A6),(15,.d A6),(16,.d A6)]
def B1F:A4:=[(2,.d A6),(8,.d A6),(9,.d A6),(10,.d A6),(11,.d A6),(13,.d A6),(14,.d A6),(15,.d A6)]
def C2K:I0:=[(2,B1F)]
def B2Z(F n:Nat):B8 A92:=fun x K=>V9 F (fun y2 y8 y9 y10 y11 y13 y14 y15=>K (.exit 0) (enc B1F (y2,y8,y9,y10,y11,y13,y14,y15,()))) n x.1 x.2.1 x.2.2.1 x.2.2.2.1 x.2.2.2.2.1 x.2.2.2.2.2.1 x.2.2.2.2.2.2.1 x.2.2.2.2.2.2.2.1 x.2.2.2.2.2.2.2.2.1
def A93:A4:=[(2,.d A6),(8,.d A6),(9,.d A6),(10,.d A6),(14,.d A6),(15,.d A6),(16,.d A6),(17,.d A6),(18,.d A6)]
def B1G:A4:=[(2,.d A6),(8,.d A6),(14,.d A6),(15,.d A6),(17,.d A6),(18,.d A6)]
def C2L:I0:=[(4,B1G)]
def B30(F n:Nat):B8 A93:=fun x K=>W0 F (fun y2 y8 y14 y15 y17 y18=>K (.exit 2) (enc B1G (y2,y8,y14,y15,y17,y18,()))) n x.1 x.2.1 x.2.2.1 x.2.2.2.1 x.2.2.2.2.1 x.2.2.2.2.2.1 x.2.2.2.2.2.2.1 x.2.2.2.2.2.2.2.1 x.2.2.2.2.2.2.2.2.1
def D35(F:Nat):C8 C8f:=A5 [(17,⟨A92,B2Z F F⟩),(24,⟨A93,B30 F F⟩)]
theorem C8g(F:Nat)(fr:Frm)(hn:(D33 F).ntmps=fr.n)(n:Nat):D2 C8f f182 fr [1,1,1,1,1,1,1,1,1,1,1,1,1,1,0,0,0] A92 (B2Z F n) :=
 D4 (D35 F) (A5 []) C2K rfl (D34 F) hn (m:=fun n=>B2Z F n) (fun _ _=>rfl) (fun n x K=>by kernel_rfl) (B0 (by kernel_rfl)) n
theorem C8h(F:Nat)(fr:Frm)(hn:(D33 F).ntmps=fr.n)(n:Nat):D2 C8f f182 fr [1,1,1,1,1,1,1,1,1,1,1,1,1,1,1,1,1,1,0,0,0] A93 (B30 F n) :=
 D4 (D35 F) (A5 []) C2L rfl (D34 F) hn (m:=fun n=>B30 F n) (fun _ _=>rfl) (fun n x K=>by kernel_rfl) (B0 (by kernel_rfl)) n
theorem E7l(F:Nat):CSound prog 182 (D0Y F) :=
 B3 (fn:=f182) (D35 F) (A5 []) rfl func182 (by kernel_rfl) (D34 F) (fun fr hn=>(C3 (l:=[((.loop (sub (A7 f182) [1,1,1,1,1,1,1,1,1,1,1,1,1,1,0,0,0])),⟨A92,B2Z F F⟩),((.loop (sub (A7 f182) [1,1,1,1,1,1,1,1,1,1,1,1,1,1,1,1,1,1,0,0,0])),⟨A93,B30 F F⟩)]) (by kernel_rfl) (A9 (C8g F fr hn F) (A9 (C8h F fr hn F) B6)))) (fun x=>by kernel_rfl)
def E21:Sig:=⟨[.ro],[(0,.d C1)],true,none,[A1]⟩
def D0Z(F:Nat):Contract:=C0 E21 fun x=>A3h F x.1
def E22(F:Nat):Cx:=B2 [(166,B1C F)] [] (0,18)
theorem E23(F:Nat):A8 (E22 F):=A2 (A0 (D79 F) A3)
theorem E7m(F:Nat):CSound prog 183 (D0Z F) :=
 B3 (fn:=f183) (A5 []) (A5 []) rfl func183 (by kernel_rfl) (E23 F) (fun fr hn=>(B0 (by kernel_rfl))) (fun x=>by kernel_rfl)
def D36:Sig:=⟨[.ro,.ro],[(0,.d C1),(1,.d A1)],false,some (0,49),[C1]⟩
def D10(F:Nat):Contract:=C0 D36 fun x=>A8W F x.1 x.2.1
def D7w(F:Nat):Cx:=B2 [(159,B8h F)] [4,13,60] (0,61)
theorem D7x(F:Nat):A8 (D7w F):=A2 (A0 (D7u F) A3)
def B31:A4:=[(0,.d C1),(1,.d A1),(5,.own 5 A6 49),(6,.d A1)]
def B5P:A4:=[(5,.own 5 A6 49)]
def C4G:I0:=[(2,B5P)]
def B9h(F n:Nat):B8 B31:=fun x K=>A1h F (fun y5=>K (.exit 0) (enc B5P (y5,()))) n x.1 x.2.1 x.2.2.1 x.2.2.2.1
def D7y(F:Nat):C8 D36:=A5 [(3,⟨B31,B9h F F⟩)]
theorem D37(F:Nat)(fr:Frm)(hn:(D7w F).ntmps=fr.n)(n:Nat):D2 D36 f184 fr [1,1,0,1,0,0] B31 (B9h F n) :=
 D4 (D7y F) (A5 []) C4G rfl (D7x F) hn (m:=fun n=>B9h F n) (fun _ _=>rfl) (fun n x K=>by kernel_rfl) (B0 (by kernel_rfl)) n
theorem E7n(F:Nat):CSound prog 184 (D10 F) :=
 B3 (fn:=f184) (D7y F) (A5 []) rfl func184 (by kernel_rfl) (D7x F) (fun fr hn=>(C3 (l:=[((.loop (sub (A7 f184) [1,1,0,1,0,0])),⟨B31,B9h F F⟩)]) (by kernel_rfl) (A9 (D37 F fr hn F) B6))) (fun x=>by kernel_rfl)
def D38:Sig:=⟨[.ro,.ro],[(0,.d C1),(1,.d C1)],true,none,[A1]⟩
def B9i(F:Nat):Contract:=C0 D38 fun x=>A0G F x.1 x.2.1
def D7z(F:Nat):Cx:=B2 [] [] (0,41)
theorem D7A(F:Nat):A8 (D7z F):=A2 A3
def B32:A4:=[(0,.d C1),(1,.d C1),(5,.d A1)]
def B5Q:A4:=[]
def B03:A4:=[(4,.d A1)]
def C4H:I0:=[(2,B5Q),(1,B03)]
def B9j(F n:Nat):B8 B32:=fun x K=>U2 F (K (.exit 0) (enc B5Q (()))) (fun y4=>K .ret (enc B03 (y4,()))) n x.1 x.2.1 x.2.2.1
def D7B(F:Nat):C8 D38:=A5 [(6,⟨B32,B9j F F⟩)]
theorem D39(F:Nat)(fr:Frm)(hn:(D7z F).ntmps=fr.n)(n:Nat):D2 D38 f141 fr [1,1,0,1,0,0] B32 (B9j F n) :=
 D4 (D7B F) (A5 []) C4H rfl (D7A F) hn (m:=fun n=>B9j F n) (fun _ _=>rfl) (fun n x K=>by kernel_rfl) (B0 (by kernel_rfl)) n
theorem E24(F:Nat):CSound prog 141 (B9i F) :=
 B3 (fn:=f141) (D7B F) (A5 []) rfl func141 (by kernel_rfl) (D7A F) (fun fr hn=>(C3 (l:=[((.loop (sub (A7 f141) [1,1,0,1,0,0])),⟨B32,B9j F F⟩)]) (by kernel_rfl) (A9 (D39 F fr hn F) B6))) (fun x=>by kernel_rfl)
def C4I:Sig:=⟨[.ro,.ro],[(0,.d C1),(1,.d C1)],false,none,[C1]⟩
def C4J(F:Nat):Contract:=C0 C4I fun x=>A2B F x.1 x.2.1
def D3a(F:Nat):Cx:=B2 [(186,B95 F),(159,A8t F)] [4,9] (0,41)
theorem D3b(F:Nat):A8 (D3a F):=A2 (V7 (E1w F) (A0 (D31 F) A3))
def B33:A4:=[(1,.d C1),(5,.own 5 A6 49),(6,.d A6),(7,.d A1),(8,.d A6)]
def B5S:A4:=[(1,.d C1),(5,.own 5 A6 49),(6,.d A6),(7,.d A1)]
def C4K:I0:=[(0,B5S)]
def C4L(F:Nat):B8 B33:=fun x K=>A1s F (fun y1 y5 y6 y7=>K .normal (enc B5S (y1,y5,y6,y7,()))) x.1 x.2.1 x.2.2.1 x.2.2.2.1 x.2.2.2.2.1
def B34:A4:=[(1,.d C1),(5,.own 5 A6 49),(6,.d A6),(7,.d A1)]
def B5T:A4:=[(5,.own 5 A6 49)]
def C4N:I0:=[(2,B5T)]
def B9k(F n:Nat):B8 B34:=fun x K=>J8 F (fun y5=>K (.exit 0) (enc B5T (y5,()))) n x.1 x.2.1 x.2.2.1 x.2.2.2.1
def D3c(F:Nat):C8 C4I:=A5 [(4,⟨B34,B9k F F⟩)]
def D3d(F:Nat):C8 C4I:=A5 [(9,⟨B33,C4L F⟩)]
theorem D3e(F:Nat)(fr:Frm)(hn:(D3a F).ntmps=fr.n):L9 C4I f164 fr [1,1,1,0,1,0,0,1,0,0,1,1] B33 (C4L F) :=
 N5 (D3c F) (D3d F) C4K rfl (D3b F) hn (fun x K=>by kernel_rfl) (B0 (by kernel_rfl))
theorem D3f(F:Nat)(fr:Frm)(hn:(D3a F).ntmps=fr.n)(n:Nat):D2 C4I f164 fr [1,1,1,0,1,0,0] B34 (B9k F n) :=
 D4 (D3c F) (D3d F) C4N rfl (D3b F) hn (m:=fun n=>B9k F n) (fun _ _=>rfl) (fun n x K=>by kernel_rfl) (C3 (l:=[((sub (A7 f164) [1,1,1,0,1,0,0,1,0,0,1,1]),⟨B33,C4L F⟩)]) (by kernel_rfl) (A9 (D3e F fr hn) B6)) n
theorem E5d(F:Nat):CSound prog 164 (C4J F) :=
 B3 (fn:=f164) (D3c F) (D3d F) rfl func164 (by kernel_rfl) (D3b F) (fun fr hn=>(C3 (l:=[((.loop (sub (A7 f164) [1,1,1,0,1,0,0])),⟨B34,B9k F F⟩)]) (by kernel_rfl) (A9 (D3f F fr hn F) B6))) (fun x=>by kernel_rfl)
def B5U:Sig:=⟨[.ro,.wr 49],[(0,.d C1),(1,.own 1 A6 49)],false,none,[C1,C1]⟩
def C4O(F:Nat):Contract:=C0 B5U fun x=>A5L F x.1 x.2.1
def C4P(F:Nat):Cx:=B2 [(186,B95 F),(159,A8t F)] [4,9] (2,41)
theorem C4Q(F:Nat):A8 (C4P F):=A2 (V7 (E1w F) (A0 (D31 F) A3))
def A94:A4:=[(1,.own 1 A6 49),(5,.own 5 A6 49),(6,.d A6),(7,.d A1),(8,.d A6)]
def B1H:A4:=[(1,.own 1 A6 49),(5,.own 5 A6 49),(6,.d A6),(7,.d A1)]
def C2N:I0:=[(0,B1H)]
def B8i(F:Nat):B8 A94:=fun x K=>A33 F (fun y1 y5 y6 y7=>K .normal (enc B1H (y1,y5,y6,y7,()))) x.1 x.2.1 x.2.2.1 x.2.2.2.1 x.2.2.2.2.1
def A95:A4:=[(1,.own 1 A6 49),(5,.own 5 A6 49),(6,.d A6),(7,.d A1)]
def B1I:A4:=[(1,.own 1 A6 49),(5,.own 5 A6 49)]
def C2O:I0:=[(2,B1I)]
def B35(F n:Nat):B8 A95:=fun x K=>A0H F (fun y1 y5=>K (.exit 0) (enc B1I (y1,y5,()))) n x.1 x.2.1 x.2.2.1 x.2.2.2.1
def C4S(F:Nat):C8 B5U:=A5 [(4,⟨A95,B35 F F⟩)]
def C4T(F:Nat):C8 B5U:=A5 [(9,⟨A94,B8i F⟩)]
theorem C8i(F:Nat)(fr:Frm)(hn:(C4P F).ntmps=fr.n):L9 B5U f164 fr [1,1,1,0,1,0,0,1,0,0,1,1] A94 (B8i F) :=
 N5 (C4S F) (C4T F) C2N rfl (C4Q F) hn (fun x K=>by kernel_rfl) (B0 (by kernel_rfl))
theorem C8j(F:Nat)(fr:Frm)(hn:(C4P F).ntmps=fr.n)(n:Nat):D2 B5U f164 fr [1,1,1,0,1,0,0] A95 (B35 F n) :=
 D4 (C4S F) (C4T F) C2O rfl (C4Q F) hn (m:=fun n=>B35 F n) (fun _ _=>rfl) (fun n x K=>by kernel_rfl) (C3 (l:=[((sub (A7 f164) [1,1,1,0,1,0,0,1,0,0,1,1]),⟨A94,B8i F⟩)]) (by kernel_rfl) (A9 (C8i F fr hn) B6)) n
theorem E25(F:Nat):CSound prog 164 (C4O F) :=
 B3 (fn:=f164) (C4S F) (C4T F) rfl func164 (by kernel_rfl) (C4Q F) (fun fr hn=>(C3 (l:=[((.loop (sub (A7 f164) [1,1,1,0,1,0,0])),⟨A95,B35 F F⟩)]) (by kernel_rfl) (A9 (C8j F fr hn F) B6))) (fun x=>by kernel_rfl)
def D3g:Sig:=⟨[.con 49],[(0,.own 0 A6 49)],false,some (0,49),[C1]⟩
def D11(F:Nat):Contract:=C0 D3g fun x=>A4g F x.1
def D7C(F:Nat):Cx:=B2 [(159,B8h F)] [2,34] (0,35)
theorem D7D(F:Nat):A8 (D7C F):=A2 (A0 (D7u F) A3)
def B36:A4:=[(0,.own 0 A6 49),(3,.d A1)]
def B5V:A4:=[(0,.own 0 A6 49)]
def C4U:I0:=[(2,B5V)]
def B9l(F n:Nat):B8 B36:=fun x K=>V0 F (fun y0=>K (.exit 0) (enc B5V (y0,()))) n x.1 x.2.1
def D7E(F:Nat):C8 D3g:=A5 [(2,⟨B36,B9l F F⟩)]
theorem D3h(F:Nat)(fr:Frm)(hn:(D7C F).ntmps=fr.n)(n:Nat):D2 D3g f185 fr [1,0,1,0,0] B36 (B9l F n) :=
 D4 (D7E F) (A5 []) C4U rfl (D7D F) hn (m:=fun n=>B9l F n) (fun _ _=>rfl) (fun n x K=>by kernel_rfl) (B0 (by kernel_rfl)) n
theorem E7o(F:Nat):CSound prog 185 (D11 F) :=
 B3 (fn:=f185) (D7E F) (A5 []) rfl func185 (by kernel_rfl) (D7D F) (fun fr hn=>(C3 (l:=[((.loop (sub (A7 f185) [1,0,1,0,0])),⟨B36,B9l F F⟩)]) (by kernel_rfl) (A9 (D3h F fr hn F) B6))) (fun x=>by kernel_rfl)
def C8k:Sig:=⟨[.ro,.ro],[(0,.d C1),(1,.d C1)],false,none,[C1,C1]⟩
def D12(F:Nat):Contract:=C0 C8k fun x=>A1t F x.1 x.2.1
def D3i(F:Nat):Cx:=B2 [(182,D0Y F),(159,A8t F),(183,D0Z F),(184,D10 F),(141,B9i F),(164,C4O F),(185,D11 F)] [4,5,15,46,60,85] (0,89)
theorem D3j(F:Nat):A8 (D3i F):=A2 (A0 (E7l F) (A0 (D31 F) (A0 (E7m F) (A0 (E7n F) (A0 (E24 F) (A0 (E25 F) (A0 (E7o F) A3)))))))
def B37:A4:=[(0,.d C1),(1,.d C1),(6,.own 6 A6 49),(7,.d A6),(8,.d A1)]
def B5W:A4:=[(6,.own 6 A6 49),(7,.d A6)]
def C4V:I0:=[(2,B5W)]
def B9m(F n:Nat):B8 B37:=fun x K=>X4 F (fun y6 y7=>K (.exit 0) (enc B5W (y6,y7,()))) n x.1 x.2.1 x.2.2.1 x.2.2.2.1 x.2.2.2.2.1
def A96:A4:=[(6,.own 6 A6 49),(9,.d C1),(11,.own 11 A6 49),(12,.d A1)]
def B1J:A4:=[(6,.own 6 A6 49),(9,.d C1)]
def C2P:I0:=[(4,B1J)]
def B38(F n:Nat):B8 A96:=fun x K=>Q3 F (fun y6 y9=>K (.exit 2) (enc B1J (y6,y9,()))) n x.1 x.2.1 x.2.2.1 x.2.2.2.1
def D3k(F:Nat):C8 C8k:=A5 [(5,⟨B37,B9m F F⟩),(15,⟨A96,B38 F F⟩)]
theorem D3l(F:Nat)(fr:Frm)(hn:(D3i F).ntmps=fr.n)(n:Nat):D2 C8k f162 fr [1,1,0,1,0,1,0,1,0,0] B37 (B9m F n) :=
 D4 (D3k F) (A5 []) C4V rfl (D3j F) hn (m:=fun n=>B9m F n) (fun _ _=>rfl) (fun n x K=>by kernel_rfl) (B0 (by kernel_rfl)) n
theorem C8l(F:Nat)(fr:Frm)(hn:(D3i F).ntmps=fr.n)(n:Nat):D2 C8k f162 fr [1,1,1,1,1,1,1,0,1,0,0] A96 (B38 F n) :=
 D4 (D3k F) (A5 []) C2P rfl (D3j F) hn (m:=fun n=>B38 F n) (fun _ _=>rfl) (fun n x K=>by kernel_rfl) (B0 (by kernel_rfl)) n
theorem E7p(F:Nat):CSound prog 162 (D12 F) :=
 B3 (fn:=f162) (D3k F) (A5 []) rfl func162 (by kernel_rfl) (D3j F) (fun fr hn=>(C3 (l:=[((.loop (sub (A7 f162) [1,1,0,1,0,1,0,1,0,0])),⟨B37,B9m F F⟩),((.loop (sub (A7 f162) [1,1,1,1,1,1,1,0,1,0,0])),⟨A96,B38 F F⟩)]) (by kernel_rfl) (A9 (D3l F fr hn F) (A9 (C8l F fr hn F) B6)))) (fun x=>by kernel_rfl)
def C2Q:Sig:=⟨[.ro,.ro],[(0,.d C1),(1,.d C1)],false,none,[C1]⟩
def C4W(F:Nat):Contract:=C0 C2Q fun x=>A59 F x.1 x.2.1
def C8m(F:Nat):Cx:=B2 [(161,B5I F),(159,A8t F)] [4,16] (0,51)
theorem C8n(F:Nat):A8 (C8m F):=A2 (V7 (E0k F) (A0 (D31 F) A3))
def A97:A4:=[(1,.d C1),(5,.own 5 A6 49),(6,.d A6),(7,.d A1),(8,.d A6)]
def B1K:A4:=[(1,.d C1),(5,.own 5 A6 49),(6,.d A6),(7,.d A1)]
def C2S:I0:=[(0,B1K)]
def B8j(F:Nat):B8 A97:=fun x K=>A1H F (fun y1 y5 y6 y7=>K .normal (enc B1K (y1,y5,y6,y7,()))) x.1 x.2.1 x.2.2.1 x.2.2.2.1 x.2.2.2.2.1
def B39:A4:=[(1,.d C1),(5,.own 5 A6 49),(6,.d A6),(7,.d A1)]
def B5X:A4:=[(5,.own 5 A6 49),(6,.d A6)]
def C4X:I0:=[(2,B5X)]
def B9n(F n:Nat):B8 B39:=fun x K=>S3 F (fun y5 y6=>K (.exit 0) (enc B5X (y5,y6,()))) n x.1 x.2.1 x.2.2.1 x.2.2.2.1
def B3a:A4:=[(0,.d C1),(1,.d C1)]
def B04:A4:=[(4,.d C1)]
def C4Y:I0:=[(1,B04)]
def C4Z(F:Nat):B8 B3a:=fun x K=>A2C F (fun y4=>K .ret (enc B04 (y4,()))) x.1 x.2.1
def C8o(F:Nat):C8 C2Q:=A5 [(6,⟨B39,B9n F F⟩)]
def C8p(F:Nat):C8 C2Q:=A5 [(11,⟨A97,B8j F⟩),(3,⟨B3a,C4Z F⟩)]
theorem C8q(F:Nat)(fr:Frm)(hn:(C8m F).ntmps=fr.n):L9 C2Q f163 fr [1,1,1,1,0,1,0,0,1,0,0,1,1] A97 (B8j F) :=
 N5 (C8o F) (C8p F) C2S rfl (C8n F) hn (fun x K=>by kernel_rfl) (B0 (by kernel_rfl))
theorem D3m(F:Nat)(fr:Frm)(hn:(C8m F).ntmps=fr.n)(n:Nat):D2 C2Q f163 fr [1,1,1,1,0,1,0,0] B39 (B9n F n) :=
 D4 (C8o F) (C8p F) C4X rfl (C8n F) hn (m:=fun n=>B9n F n) (fun _ _=>rfl) (fun n x K=>by kernel_rfl) (C3 (l:=[((sub (A7 f163) [1,1,1,1,0,1,0,0,1,0,0,1,1]),⟨A97,B8j F⟩)]) (by kernel_rfl) (A9 (C8q F fr hn) B6)) n
theorem D3n(F:Nat)(fr:Frm)(hn:(C8m F).ntmps=fr.n):L9 C2Q f163 fr [1,1] B3a (C4Z F) :=
 N5 (C8o F) (C8p F) C4Y rfl (C8n F) hn (fun x K=>by kernel_rfl) (C3 (l:=[((.loop (sub (A7 f163) [1,1,1,1,0,1,0,0])),⟨B39,B9n F F⟩)]) (by kernel_rfl) (A9 (D3m F fr hn F) B6))
theorem E5e(F:Nat):CSound prog 163 (C4W F) :=
 B3 (fn:=f163) (C8o F) (C8p F) rfl func163 (by kernel_rfl) (C8n F) (fun fr hn=>(C3 (l:=[((sub (A7 f163) [1,1]),⟨B3a,C4Z F⟩)]) (by kernel_rfl) (A9 (D3n F fr hn) B6))) (fun x=>by kernel_rfl)
def C50:Sig:=⟨[.ro,.ro],[(0,.d .bool),(1,.d C1)],true,none,[tyV,.bool]⟩
def B5Y(F:Nat):Contract:=C0 C50 fun x=>S9 F x.1 x.2.1
def D3o(F:Nat):Cx:=B2 [(159,A8t F)] [] (0,35)
theorem D3p(F:Nat):A8 (D3o F):=A2 (A0 (D31 F) A3)
def B3b:A4:=[(1,.d C1),(4,.box 4 tyV),(6,.box 6 tyV),(7,.d A1)]
def B5Z:A4:=[(4,.box 4 tyV),(6,.box 6 tyV)]
def C51:I0:=[(2,B5Z)]
def B9o(F n:Nat):B8 B3b:=fun x K=>Z0 F (fun y4 y6=>K (.exit 0) (enc B5Z (y4,y6,()))) n x.1 x.2.1 x.2.2.1 x.2.2.2.1
def B3c:A4:=[(1,.d C1),(4,.box 4 tyV),(6,.box 6 tyV)]
def B05:A4:=[(4,.box 4 tyV),(5,.d .bool)]
def C52:I0:=[(1,B05)]
def C53(F:Nat):B8 B3c:=fun x K=>A34 F (fun y4 y5=>K .ret (enc B05 (y4,y5,()))) x.1 x.2.1 x.2.2.1
def D3q(F:Nat):C8 C50:=A5 [(6,⟨B3b,B9o F F⟩)]
def D3r(F:Nat):C8 C50:=A5 [(5,⟨B3c,C53 F⟩)]
theorem D3s(F:Nat)(fr:Frm)(hn:(D3o F).ntmps=fr.n)(n:Nat):D2 C50 f120 fr [1,1,1,1,0,1,0,0] B3b (B9o F n) :=
 D4 (D3q F) (D3r F) C51 rfl (D3p F) hn (m:=fun n=>B9o F n) (fun _ _=>rfl) (fun n x K=>by kernel_rfl) (B0 (by kernel_rfl)) n
theorem D3t(F:Nat)(fr:Frm)(hn:(D3o F).ntmps=fr.n):L9 C50 f120 fr [1,1,1,1] B3c (C53 F) :=
 N5 (D3q F) (D3r F) C52 rfl (D3p F) hn (fun x K=>by kernel_rfl) (C3 (l:=[((.loop (sub (A7 f120) [1,1,1,1,0,1,0,0])),⟨B3b,B9o F F⟩)]) (by kernel_rfl) (A9 (D3s F fr hn F) B6))
theorem E0m(F:Nat):CSound prog 120 (B5Y F) :=
 B3 (fn:=f120) (D3q F) (D3r F) rfl func120 (by kernel_rfl) (D3p F) (fun fr hn=>(C3 (l:=[((sub (A7 f120) [1,1,1,1]),⟨B3c,C53 F⟩)]) (by kernel_rfl) (A9 (D3t F fr hn) B6))) (fun x=>by kernel_rfl)
def C8r:Sig:=⟨[.ro,.ro],[(0,.d tyV),(1,.d tyV)],true,none,[tyV,tyV,.bool]⟩
def B60(F:Nat):Contract:=C0 C8r fun x=>J9 F x.1 x.2.1
def D3u(F:Nat):Cx:=B2 [(119,B5O F),(90,B2Y F),(122,A7m F),(162,D12 F),(163,C4W F),(164,C4J F),(120,B5Y F)] [] (0,61)
theorem D3v(F:Nat):A8 (D3u F):=A2 (A0 (E0l F) (A0 (s90 F) (A0 (D0W F) (A0 (E7p F) (A0 (E5e F) (A0 (E5d F) (A0 (E0m F) A3)))))))
def B3d:A4:=[(2,.box 2 tyV),(3,.box 3 tyV),(4,.box 4 tyV),(5,.box 5 tyV),(7,.d C1),(8,.d C1),(32,.d .bool)]
def B61:A4:=[(2,.box 2 tyV),(3,.box 3 tyV),(4,.box 4 tyV),(5,.box 5 tyV),(7,.d C1),(8,.d C1)]
def C54:I0:=[(0,B61)]
def C55(F:Nat):B8 B3d:=fun x K=>A0l F (fun y2 y3 y4 y5 y7 y8=>K .normal (enc B61 (y2,y3,y4,y5,y7,y8,()))) x.1 x.2.1 x.2.2.1 x.2.2.2.1 x.2.2.2.2.1 x.2.2.2.2.2.1 x.2.2.2.2.2.2.1
def B3e:A4:=[(2,.box 2 tyV),(3,.box 3 tyV),(4,.box 4 tyV),(5,.box 5 tyV),(7,.d C1),(8,.d C1)]
def B06:A4:=[(4,.box 4 tyV),(5,.box 5 tyV),(6,.d .bool)]
def C56:I0:=[(1,B06)]
def C57(F:Nat):B8 B3e:=fun x K=>A0m F (fun y4 y5 y6=>K .ret (enc B06 (y4,y5,y6,()))) x.1 x.2.1 x.2.2.1 x.2.2.2.1 x.2.2.2.2.1 x.2.2.2.2.2.1
def D3w(F:Nat):C8 C8r:=A5 [(6,⟨B3d,C55 F⟩),(7,⟨B3e,C57 F⟩)]
theorem D3x(F:Nat)(fr:Frm)(hn:(D3u F).ntmps=fr.n):L9 C8r f123 fr [1,1,1,1,0,1] B3d (C55 F) :=
 N5 (A5 []) (D3w F) C54 rfl (D3v F) hn (fun x K=>by kernel_rfl) (B0 (by kernel_rfl))
theorem D3y(F:Nat)(fr:Frm)(hn:(D3u F).ntmps=fr.n):L9 C8r f123 fr [1,1,1,1,1] B3e (C57 F) :=
 N5 (A5 []) (D3w F) C56 rfl (D3v F) hn (fun x K=>by kernel_rfl) (B0 (by kernel_rfl))
theorem E0n(F:Nat):CSound prog 123 (B60 F) :=
 B3 (fn:=f123) (A5 []) (D3w F) rfl func123 (by kernel_rfl) (D3v F) (fun fr hn=>(C3 (l:=[((sub (A7 f123) [1,1,1,1,0,1]),⟨B3d,C55 F⟩),((sub (A7 f123) [1,1,1,1,1]),⟨B3e,C57 F⟩)]) (by kernel_rfl) (A9 (D3x F fr hn) (A9 (D3y F fr hn) B6)))) (fun x=>by kernel_rfl)
def D3z:Sig:=⟨[.ro,.ro],[(0,.d tyV),(1,.d tyV)],true,none,[tyV]⟩
def D3A(F:Nat):Contract:=C0 D3z fun x=>A4h F x.1 x.2.1
def D7F(F:Nat):Cx:=B2 [(90,B2Y F),(131,C4F F),(67,C8e F),(123,B60 F)] [] (0,47)
theorem D7G(F:Nat):A8 (D7F F):=A2 (A0 (s90 F) (A0 (E5c F) (A0 (s67 F) (A0 (E0n F) A3))))
def B9p:A4:=[(4,.box 4 tyV),(5,.d A6),(7,.d A6)]
def B9q:A4:=[(4,.box 4 tyV),(5,.d A6)]
def C8s:I0:=[(4,B9q)]
def C8t(F n:Nat):B8 B9p:=fun x K=>A0n F (fun y4 y5=>K (.exit 2) (enc B9q (y4,y5,()))) n x.1 x.2.1 x.2.2.1
def B9r:A4:=[(2,.box 2 tyV),(3,.box 3 tyV),(4,.box 4 tyV),(5,.d A6),(7,.d A6),(28,.d .bool)]
def B9s:A4:=[(2,.box 2 tyV),(3,.box 3 tyV),(4,.box 4 tyV)]
def B1L:A4:=[(4,.box 4 tyV)]
def C8u:I0:=[(0,B9s),(1,B1L)]
def D3B(F:Nat):B8 B9r:=fun x K=>A3K F (fun y2 y3 y4=>K .normal (enc B9s (y2,y3,y4,()))) (fun y4=>K .ret (enc B1L (y4,()))) x.1 x.2.1 x.2.2.1 x.2.2.2.1 x.2.2.2.2.1 x.2.2.2.2.2.1
def B9t:A4:=[(2,.box 2 tyV),(3,.box 3 tyV),(4,.box 4 tyV)]
def B9u:A4:=[(2,.box 2 tyV),(3,.box 3 tyV),(4,.box 4 tyV)]
def C8v:I0:=[(0,B9u)]
def D3C(F:Nat):B8 B9t:=fun x K=>A3L F (fun y2 y3 y4=>K .normal (enc B9u (y2,y3,y4,()))) x.1 x.2.1 x.2.2.1
def B9v:A4:=[(2,.box 2 tyV),(3,.box 3 tyV),(4,.box 4 tyV)]
def B9w:A4:=[(2,.box 2 tyV),(4,.box 4 tyV)]
def B1N:A4:=[(4,.box 4 tyV)]
def C8w:I0:=[(2,B9w),(1,B1N)]
def C8x(F n:Nat):B8 B9v:=fun x K=>Y5 F (fun y2 y4=>K (.exit 0) (enc B9w (y2,y4,()))) (fun y4=>K .ret (enc B1N (y4,()))) n x.1 x.2.1 x.2.2.1
def D7H(F:Nat):C8 D3z:=A5 [(5,⟨B9p,C8t F F⟩),(1,⟨B9v,C8x F F⟩)]
def D7I(F:Nat):C8 D3z:=A5 [(5,⟨B9r,D3B F⟩),(8,⟨B9t,D3C F⟩)]
theorem D7J(F:Nat)(fr:Frm)(hn:(D7F F).ntmps=fr.n)(n:Nat):D2 D3z f92 fr [1,0,0,0,1,0,1,1,0,1,0,0,0,0] B9p (C8t F n) :=
 D4 (D7H F) (D7I F) C8s rfl (D7G F) hn (m:=fun n=>C8t F n) (fun _ _=>rfl) (fun n x K=>by kernel_rfl) (B0 (by kernel_rfl)) n
theorem D7K(F:Nat)(fr:Frm)(hn:(D7F F).ntmps=fr.n):L9 D3z f92 fr [1,0,0,0,1,0,1,1,0,1] B9r (D3B F) :=
 N5 (D7H F) (D7I F) C8u rfl (D7G F) hn (fun x K=>by kernel_rfl) (C3 (l:=[((.loop (sub (A7 f92) [1,0,0,0,1,0,1,1,0,1,0,0,0,0])),⟨B9p,C8t F F⟩)]) (by kernel_rfl) (A9 (D7J F fr hn F) B6))
theorem D7L(F:Nat)(fr:Frm)(hn:(D7F F).ntmps=fr.n):L9 D3z f92 fr [1,0,0,0,1,0,1,1,1] B9t (D3C F) :=
 N5 (D7H F) (D7I F) C8v rfl (D7G F) hn (fun x K=>by kernel_rfl) (B0 (by kernel_rfl))
theorem D7N(F:Nat)(fr:Frm)(hn:(D7F F).ntmps=fr.n)(n:Nat):D2 D3z f92 fr [1,0,0,0] B9v (C8x F n) :=
 D4 (D7H F) (D7I F) C8w rfl (D7G F) hn (m:=fun n=>C8x F n) (fun _ _=>rfl) (fun n x K=>by kernel_rfl) (C3 (l:=[((sub (A7 f92) [1,0,0,0,1,0,1,1,0,1]),⟨B9r,D3B F⟩),((sub (A7 f92) [1,0,0,0,1,0,1,1,1]),⟨B9t,D3C F⟩)]) (by kernel_rfl) (A9 (D7K F fr hn) (A9 (D7L F fr hn) B6))) n
theorem s92(F:Nat):CSound prog 92 (D3A F) :=
 B3 (fn:=f92) (D7H F) (D7I F) rfl func92 (by kernel_rfl) (D7G F) (fun fr hn=>(C3 (l:=[((.loop (sub (A7 f92) [1,0,0,0])),⟨B9v,C8x F F⟩)]) (by kernel_rfl) (A9 (D7N F fr hn F) B6))) (fun x=>by kernel_rfl)
def E7q:Sig:=⟨[.ro],[(0,.d A1)],true,none,[tyV]⟩
def B3f(F:Nat):Contract:=C0 E7q fun x=>O5 F x.1
def E7r(F:Nat):Cx:=B2 [] [] (0,14)
theorem E7s(F:Nat):A8 (E7r F):=A2 A3
theorem s65(F:Nat):CSound prog 65 (B3f F) :=
 B3 (fn:=f65) (A5 []) (A5 []) rfl func65 (by kernel_rfl) (E7s F) (fun fr hn=>(B0 (by kernel_rfl))) (fun x=>by kernel_rfl)
def E7t:Sig:=⟨[],[],true,none,[tyV]⟩
def C8y(F:Nat):Contract:=C0 E7t fun x=>A4i F 
def E7u(F:Nat):Cx:=B2 [(65,B3f F)] [] (0,2)
theorem E7v(F:Nat):A8 (E7u F):=A2 (A0 (s65 F) A3)
theorem s94(F:Nat):CSound prog 94 (C8y F) :=
 B3 (fn:=f94) (A5 []) (A5 []) rfl func94 (by kernel_rfl) (E7v F) (fun fr hn=>(B0 (by kernel_rfl))) (fun x=>by kernel_rfl)
def E7w:Sig:=⟨[.ro],[(0,.d E4)],true,none,[.bool]⟩
def C2T(F:Nat):Contract:=C0 E7w fun x=>W1 F x.1
def E7x(F:Nat):Cx:=B2 [(89,C4E F),(90,B2Y F),(91,D7v F),(93,D32 F),(92,D3A F),(94,C8y F)] [] (0,39)
theorem E7y(F:Nat):A8 (E7x F):=A2 (A0 (s89 F) (A0 (s90 F) (A0 (s91 F) (A0 (s93 F) (A0 (s92 F) (A0 (s94 F) A3))))))
theorem s42(F:Nat):CSound prog 42 (C2T F) :=
 B3 (fn:=f42) (A5 []) (A5 []) rfl func42 (by kernel_rfl) (E7y F) (fun fr hn=>(B0 (by kernel_rfl))) (fun x=>by kernel_rfl)
def E7z:Sig:=⟨[.ro],[(0,.d E4)],true,none,[E4]⟩
def D7O(F:Nat):Contract:=C0 E7z fun x=>A4E F x.1
def E7A(F:Nat):Cx:=B2 [(42,C2T F),(94,C8y F)] [] (0,9)
theorem E7B(F:Nat):A8 (E7A F):=A2 (A0 (s42 F) (A0 (s94 F) A3))
theorem s95(F:Nat):CSound prog 95 (D7O F) :=
 B3 (fn:=f95) (A5 []) (A5 []) rfl func95 (by kernel_rfl) (E7B F) (fun fr hn=>(B0 (by kernel_rfl))) (fun x=>by kernel_rfl)
def E26:Sig:=⟨[.ro,.ro],[(0,.d A6),(1,.d A6)],true,none,[A6,A6]⟩
def C58(F:Nat):Contract:=C0 E26 fun x=>A4j F x.1 x.2.1
def E27(F:Nat):Cx:=B2 [] [] (0,51)
theorem E28(F:Nat):A8 (E27 F):=A2 A3
theorem E5f(F:Nat):CSound prog 160 (C58 F) :=
 B3 (fn:=f160) (A5 []) (A5 []) rfl func160 (by kernel_rfl) (E28 F) (fun fr hn=>(B0 (by kernel_rfl))) (fun x=>by kernel_rfl)
def C8z:Sig:=⟨[.ro,.ro],[(0,.d C1),(1,.d C1)],false,none,[C1]⟩
def D13(F:Nat):Contract:=C0 C8z fun x=>A7e F x.1 x.2.1
def D3D(F:Nat):Cx:=B2 [(160,C58 F),(161,B5I F),(159,A8t F)] [4,18] (0,81)
theorem D3E(F:Nat):A8 (D3D F):=A2 (A0 (E5f F) (V7 (E0k F) (A0 (D31 F) A3)))
def B3g:A4:=[(0,.d C1),(1,.d C1),(5,.own 5 A6 49),(6,.d A1),(7,.d A6),(8,.d A1)]
def B62:A4:=[(0,.d C1),(1,.d C1),(5,.own 5 A6 49),(6,.d A1),(7,.d A6)]
def C59:I0:=[(4,B62)]
def B9x(F n:Nat):B8 B3g:=fun x K=>A0o F (fun y0 y1 y5 y6 y7=>K (.exit 2) (enc B62 (y0,y1,y5,y6,y7,()))) n x.1 x.2.1 x.2.2.1 x.2.2.2.1 x.2.2.2.2.1 x.2.2.2.2.2.1
def B3h:A4:=[(0,.d C1),(1,.d C1),(5,.own 5 A6 49),(6,.d A1)]
def B63:A4:=[(5,.own 5 A6 49)]
def C5a:I0:=[(2,B63)]
def B9y(F n:Nat):B8 B3h:=fun x K=>A1u F (fun y5=>K (.exit 0) (enc B63 (y5,()))) n x.1 x.2.1 x.2.2.1 x.2.2.2.1
def D3F(F:Nat):C8 C8z:=A5 [(7,⟨B3g,B9x F F⟩),(3,⟨B3h,B9y F F⟩)]
theorem D3G(F:Nat)(fr:Frm)(hn:(D3D F).ntmps=fr.n)(n:Nat):D2 C8z f121 fr [1,1,0,1,0,0,1,0,0,1,0,1,0,0] B3g (B9x F n) :=
 D4 (D3F F) (A5 []) C59 rfl (D3E F) hn (m:=fun n=>B9x F n) (fun _ _=>rfl) (fun n x K=>by kernel_rfl) (B0 (by kernel_rfl)) n
theorem D3H(F:Nat)(fr:Frm)(hn:(D3D F).ntmps=fr.n)(n:Nat):D2 C8z f121 fr [1,1,0,1,0,0] B3h (B9y F n) :=
 D4 (D3F F) (A5 []) C5a rfl (D3E F) hn (m:=fun n=>B9y F n) (fun _ _=>rfl) (fun n x K=>by kernel_rfl) (C3 (l:=[((.loop (sub (A7 f121) [1,1,0,1,0,0,1,0,0,1,0,1,0,0])),⟨B3g,B9x F F⟩)]) (by kernel_rfl) (A9 (D3G F fr hn F) B6)) n
theorem E7C(F:Nat):CSound prog 121 (D13 F) :=
 B3 (fn:=f121) (D3F F) (A5 []) rfl func121 (by kernel_rfl) (D3E F) (fun fr hn=>(C3 (l:=[((.loop (sub (A7 f121) [1,1,0,1,0,0])),⟨B3h,B9y F F⟩)]) (by kernel_rfl) (A9 (D3H F fr hn F) B6))) (fun x=>by kernel_rfl)
def E7D:Sig:=⟨[.ro,.ro],[(0,.d tyV),(1,.d tyV)],true,none,[tyV,.bool]⟩
def C5b(F:Nat):Contract:=C0 E7D fun x=>Q6 F x.1 x.2.1
def E7E(F:Nat):Cx:=B2 [(119,B5O F),(122,A7m F),(121,D13 F),(120,B5Y F)] [] (0,23)
theorem E7F(F:Nat):A8 (E7E F):=A2 (A0 (E0l F) (A0 (D0W F) (A0 (E7C F) (A0 (E0m F) A3))))
theorem s68(F:Nat):CSound prog 68 (C5b F) :=
 B3 (fn:=f68) (A5 []) (A5 []) rfl func68 (by kernel_rfl) (E7F F) (fun fr hn=>(B0 (by kernel_rfl))) (fun x=>by kernel_rfl)
def E7G:Sig:=⟨[.ro,.ro],[(0,.d tyV),(1,.d tyV)],true,none,[A1]⟩
def C8A(F:Nat):Contract:=C0 E7G fun x=>V1 F x.1 x.2.1
def E7H(F:Nat):Cx:=B2 [(90,B2Y F),(122,A7m F),(141,B9i F)] [] (0,24)
theorem E7I(F:Nat):A8 (E7H F):=A2 (A0 (s90 F) (A0 (D0W F) (A0 (E24 F) A3)))
theorem s96(F:Nat):CSound prog 96 (C8A F) :=
 B3 (fn:=f96) (A5 []) (A5 []) rfl func96 (by kernel_rfl) (E7I F) (fun fr hn=>(B0 (by kernel_rfl))) (fun x=>by kernel_rfl)
def E7J:Sig:=⟨[.ro,.ro],[(0,.d E4),(1,.d E4)],true,none,[A1]⟩
def C2U(F:Nat):Contract:=C0 E7J fun x=>K8 F x.1 x.2.1
def E7K(F:Nat):Cx:=B2 [(95,D7O F),(68,C5b F),(96,C8A F)] [] (0,32)
theorem E7L(F:Nat):A8 (E7K F):=A2 (A0 (s95 F) (A0 (s68 F) (A0 (s96 F) A3)))
theorem s43(F:Nat):CSound prog 43 (C2U F) :=
 B3 (fn:=f43) (A5 []) (A5 []) rfl func43 (by kernel_rfl) (E7L F) (fun fr hn=>(B0 (by kernel_rfl))) (fun x=>by kernel_rfl)
def E7N:Sig:=⟨[.ro],[(0,.d E0)],true,none,[.bool]⟩
def C5c(F:Nat):Contract:=C0 E7N fun x=>A0p F x.1
def E7O(F:Nat):Cx:=B2 [(117,B9e F),(42,C2T F),(43,C2U F)] [] (0,24)
theorem E7P(F:Nat):A8 (E7O F):=A2 (A0 (E1N F) (A0 (s42 F) (A0 (s43 F) A3)))
theorem s60(F:Nat):CSound prog 60 (C5c F) :=
 B3 (fn:=f60) (A5 []) (A5 []) rfl func60 (by kernel_rfl) (E7P F) (fun fr hn=>(B0 (by kernel_rfl))) (fun x=>by kernel_rfl)
def E29:Sig:=⟨[.ro],[(0,.d (.pair A1 (.pair A1 (.pair A1 (.pair S0 (.pair A1 (.pair A1 (.pair E0 .unit))))))))],true,none,[.bool]⟩
def C5d(F:Nat):Contract:=C0 E29 fun x=>A3v F x.1
def E2a(F:Nat):Cx:=B2 [(109,B9b F),(154,C4C F),(117,B9e F),(60,C5c F)] [] (0,78)
theorem E2b(F:Nat):A8 (E2a F):=A2 (A0 (E1C F) (A0 (E5b F) (A0 (E1N F) (A0 (s60 F) A3))))
theorem E5g(F:Nat):CSound prog 112 (C5d F) :=
 B3 (fn:=f112) (A5 []) (A5 []) rfl func112 (by kernel_rfl) (E2b F) (fun fr hn=>(B0 (by kernel_rfl))) (fun x=>by kernel_rfl)
def E2c:Sig:=⟨[.ro,.ro],[(0,.d (.pair A1 (.pair A1 (.pair A1 (.pair S0 (.pair A1 (.pair A1 (.pair E0 .unit)))))))),(1,.d S0)],true,none,[(.pair A1 (.pair A1 (.pair A1 (.pair S0 (.pair A1 (.pair A1 (.pair E0 .unit)))))))]⟩
def D14(F:Nat):Contract:=C0 E2c fun x=>A3w F x.1 x.2.1
def E2d(F:Nat):Cx:=B2 [(154,C4C F),(117,B9e F)] [] (0,22)
theorem E2e(F:Nat):A8 (E2d F):=A2 (A0 (E5b F) (A0 (E1N F) A3))
theorem E7Q(F:Nat):CSound prog 113 (D14 F) :=
 B3 (fn:=f113) (A5 []) (A5 []) rfl func113 (by kernel_rfl) (E2e F) (fun fr hn=>(B0 (by kernel_rfl))) (fun x=>by kernel_rfl)
def E2f:Sig:=⟨[.ro,.ro],[(0,.d A1),(1,.d A1)],true,none,[tyV]⟩
def D15(F:Nat):Contract:=C0 E2f fun x=>A5N F x.1 x.2.1
def E2g(F:Nat):Cx:=B2 [(65,B3f F),(157,C4z F),(68,C5b F)] [] (0,17)
theorem E2h(F:Nat):A8 (E2g F):=A2 (A0 (s65 F) (A0 (E5a F) (A0 (s68 F) A3)))
theorem E7S(F:Nat):CSound prog 115 (D15 F) :=
 B3 (fn:=f115) (A5 []) (A5 []) rfl func115 (by kernel_rfl) (E2h F) (fun fr hn=>(B0 (by kernel_rfl))) (fun x=>by kernel_rfl)
def E2i:Sig:=⟨[.ro,.ro],[(0,.d A1),(1,.d A1)],true,none,[A6]⟩
def D16(F:Nat):Contract:=C0 E2i fun x=>A2r F x.1 x.2.1
def E2j(F:Nat):Cx:=B2 [] [] (0,18)
theorem E2k(F:Nat):A8 (E2j F):=A2 A3
theorem E7T(F:Nat):CSound prog 116 (D16 F) :=
 B3 (fn:=f116) (A5 []) (A5 []) rfl func116 (by kernel_rfl) (E2k F) (fun fr hn=>(B0 (by kernel_rfl))) (fun x=>by kernel_rfl)
def E7U:Sig:=⟨[.ro],[(0,.d tyV)],true,none,[tyV]⟩
def C5e(F:Nat):Contract:=C0 E7U fun x=>A1I F x.1
def E7V(F:Nat):Cx:=B2 [(122,A7m F),(120,B5Y F)] [] (0,15)
theorem E7W(F:Nat):A8 (E7V F):=A2 (A0 (D0W F) (A0 (E0m F) A3))
theorem s70(F:Nat):CSound prog 70 (C5e F) :=
 B3 (fn:=f70) (A5 []) (A5 []) rfl func70 (by kernel_rfl) (E7W F) (fun fr hn=>(B0 (by kernel_rfl))) (fun x=>by kernel_rfl)
def E2l:Sig:=⟨[.ro,.ro],[(0,.d tyV),(1,.d tyV)],true,none,[tyV,.bool]⟩
def B9z(F:Nat):Contract:=C0 E2l fun x=>Z8 F x.1 x.2.1
def E2m(F:Nat):Cx:=B2 [(119,B5O F),(122,A7m F),(163,C4W F),(120,B5Y F),(141,B9i F),(164,C4J F)] [] (0,51)
theorem E2n(F:Nat):A8 (E2m F):=A2 (A0 (E0l F) (A0 (D0W F) (A0 (E5e F) (A0 (E0m F) (A0 (E24 F) (A0 (E5d F) A3))))))
theorem E2o(F:Nat):CSound prog 156 (B9z F) :=
 B3 (fn:=f156) (A5 []) (A5 []) rfl func156 (by kernel_rfl) (E2n F) (fun fr hn=>(B0 (by kernel_rfl))) (fun x=>by kernel_rfl)
def E2p:Sig:=⟨[.ro,.ro],[(0,.d tyV),(1,.d tyV)],true,none,[tyV,.bool]⟩
def C5f(F:Nat):Contract:=C0 E2p fun x=>A1J F x.1 x.2.1
def E2q(F:Nat):Cx:=B2 [(70,C5e F),(156,B9z F)] [] (0,12)
theorem E2r(F:Nat):A8 (E2q F):=A2 (A0 (s70 F) (A0 (E2o F) A3))
theorem E5h(F:Nat):CSound prog 155 (C5f F) :=
 B3 (fn:=f155) (A5 []) (A5 []) rfl func155 (by kernel_rfl) (E2r F) (fun fr hn=>(B0 (by kernel_rfl))) (fun x=>by kernel_rfl)
def E2s:Sig:=⟨[.ro,.ro],[(0,.d tyV),(1,.d tyV)],true,none,[E4,.bool]⟩
def D3I(F:Nat):Contract:=C0 E2s fun x=>A3i F x.1 x.2.1
def E5i(F:Nat):Cx:=B2 [(89,C4E F),(90,B2Y F),(93,D32 F),(92,D3A F),(123,B60 F),(70,C5e F),(42,C2T F)] [] (0,64)
theorem E5j(F:Nat):A8 (E5i F):=A2 (A0 (s89 F) (A0 (s90 F) (A0 (s93 F) (A0 (s92 F) (A0 (E0n F) (A0 (s70 F) (A0 (s42 F) A3)))))))
def B9A:A4:=[(4,.box 4 E4),(7,.box 7 tyV),(10,.box 10 tyV)]
def B1O:A4:=[(4,.box 4 E4),(5,.d .bool)]
def C8B:I0:=[(1,B1O)]
def D3J(F:Nat):B8 B9A:=fun x K=>A1K F (fun y4 y5=>K .ret (enc B1O (y4,y5,()))) x.1 x.2.1 x.2.2.1
def E5k(F:Nat):C8 E2s:=A5 [(8,⟨B9A,D3J F⟩)]
theorem D7P(F:Nat)(fr:Frm)(hn:(E5i F).ntmps=fr.n):L9 E2s f69 fr [1,1,1,1,1,1] B9A (D3J F) :=
 N5 (A5 []) (E5k F) C8B rfl (E5j F) hn (fun x K=>by kernel_rfl) (B0 (by kernel_rfl))
theorem s69(F:Nat):CSound prog 69 (D3I F) :=
 B3 (fn:=f69) (A5 []) (E5k F) rfl func69 (by kernel_rfl) (E5j F) (fun fr hn=>(C3 (l:=[((sub (A7 f69) [1,1,1,1,1,1]),⟨B9A,D3J F⟩)]) (by kernel_rfl) (A9 (D7P F fr hn) B6))) (fun x=>by kernel_rfl)
def E2t:Sig:=⟨[.ro,.ro,.ro,.ro],[(0,.d tyV),(1,.d A1),(2,.d A1),(3,.d A6)],true,none,[E0,.bool]⟩
def D17(F:Nat):Contract:=C0 E2t fun x=>A35 F x.1 x.2.1 x.2.2.1 x.2.2.2.1
def E2u(F:Nat):Cx:=B2 [(89,C4E F),(96,C8A F),(109,B9b F),(65,B3f F),(155,C5f F),(156,B9z F),(67,C8e F),(69,D3I F)] [] (0,81)
theorem E2v(F:Nat):A8 (E2u F):=A2 (A0 (s89 F) (A0 (s96 F) (A0 (E1C F) (A0 (s65 F) (A0 (E5h F) (A0 (E2o F) (A0 (s67 F) (A0 (s69 F) A3))))))))
theorem E7X(F:Nat):CSound prog 114 (D17 F) :=
 B3 (fn:=f114) (A5 []) (A5 []) rfl func114 (by kernel_rfl) (E2v F) (fun fr hn=>(B0 (by kernel_rfl))) (fun x=>by kernel_rfl)
def E0o:Sig:=⟨[.ro,.ro],[(0,.d E0),(1,.d E0)],true,none,[E0,.bool]⟩
def D3K(F:Nat):Contract:=C0 E0o fun x=>A4k F x.1 x.2.1
def E2w(F:Nat):Cx:=B2 [(60,C5c F),(43,C2U F)] [] (0,47)
theorem E2x(F:Nat):A8 (E2w F):=A2 (A0 (s60 F) (A0 (s43 F) A3))
def B3i:A4:=[(2,.box 2 E0),(4,.box 4 E0)]
def B07:A4:=[(4,.box 4 E0),(5,.d .bool)]
def C5g:I0:=[(1,B07)]
def C5h(F:Nat):B8 B3i:=fun x K=>A12 F (fun y4 y5=>K .ret (enc B07 (y4,y5,()))) x.1 x.2.1
def B9B:A4:=[(2,.box 2 E0),(3,.box 3 E0),(4,.box 4 E0)]
def B1P:A4:=[(4,.box 4 E0),(5,.d .bool)]
def C8C:I0:=[(1,B1P)]
def D3L(F:Nat):B8 B9B:=fun x K=>A1L F (fun y4 y5=>K .ret (enc B1P (y4,y5,()))) x.1 x.2.1 x.2.2.1
def E2y(F:Nat):C8 E0o:=A5 [(11,⟨B3i,C5h F⟩),(9,⟨B9B,D3L F⟩)]
theorem D3N(F:Nat)(fr:Frm)(hn:(E2w F).ntmps=fr.n):L9 E0o f62 fr [1,1,1,1,1,1] B3i (C5h F) :=
 N5 (A5 []) (E2y F) C5g rfl (E2x F) hn (fun x K=>by kernel_rfl) (B0 (by kernel_rfl))
theorem D7Q(F:Nat)(fr:Frm)(hn:(E2w F).ntmps=fr.n):L9 E0o f62 fr [1,1,1,1,1] B9B (D3L F) :=
 N5 (A5 []) (E2y F) C8C rfl (E2x F) hn (fun x K=>by kernel_rfl) (C3 (l:=[((sub (A7 f62) [1,1,1,1,1,1]),⟨B3i,C5h F⟩)]) (by kernel_rfl) (A9 (D3N F fr hn) B6))
theorem s62(F:Nat):CSound prog 62 (D3K F) :=
 B3 (fn:=f62) (A5 []) (E2y F) rfl func62 (by kernel_rfl) (E2x F) (fun fr hn=>(C3 (l:=[((sub (A7 f62) [1,1,1,1,1]),⟨B9B,D3L F⟩)]) (by kernel_rfl) (A9 (D7Q F fr hn) B6))) (fun x=>by kernel_rfl)
def E7Y:Sig:=⟨[.ro],[(0,.d (.pair A1 (.pair A1 (.pair A1 (.pair S0 (.pair A1 (.pair A1 (.pair E0 .unit))))))))],false,some (0,110),[(.slice (.pair A1 (.pair A1 (.pair A1 (.pair E0 .unit))))),A1]⟩
def D3O(F:Nat):Contract:=C0 E7Y fun x=>A2D F x.1
def E7Z(F:Nat):Cx:=B2 [(112,C5d F)] [2,19] (0,20)
theorem E80(F:Nat):A8 (E7Z F):=A2 (A0 (E5g F) A3)
theorem s58(F:Nat):CSound prog 58 (D3O F) :=
 B3 (fn:=f58) (A5 []) (A5 []) rfl func58 (by kernel_rfl) (E80 F) (fun fr hn=>(B0 (by kernel_rfl))) (fun x=>by kernel_rfl)
def E2z:Sig:=⟨[.ro,.ro],[(0,.d (.pair A1 (.pair A1 (.pair A1 (.pair S0 (.pair A1 (.pair A1 (.pair E0 .unit)))))))),(1,.d S0)],false,some (1,110),[(.pair A1 (.pair A1 (.pair A1 (.pair S0 (.pair A1 (.pair A1 (.pair E0 .unit))))))),(.slice (.pair A1 (.pair A1 (.pair A1 (.pair E0 .unit))))),A1]⟩
def D7S(F:Nat):Contract:=C0 E2z fun x=>A5O F x.1 x.2.1
def E5l(F:Nat):Cx:=B2 [(112,C5d F),(113,D14 F),(115,D15 F),(116,D16 F),(114,D17 F),(62,D3K F),(58,D3O F)] [5,71] (0,88)
theorem E5m(F:Nat):A8 (E5l F):=A2 (A0 (E5g F) (A0 (E7Q F) (A0 (E7S F) (A0 (E7T F) (A0 (E7X F) (A0 (s62 F) (A0 (s58 F) A3)))))))
def B9C:A4:=[(2,.box 2 (.pair A1 (.pair A1 (.pair A1 (.pair S0 (.pair A1 (.pair A1 (.pair E0 .unit)))))))),(3,.box 3 S0),(4,.box 4 (.pair A1 (.pair A1 (.pair A1 (.pair S0 (.pair A1 (.pair A1 (.pair E0 .unit))))))))]
def B1Q:A4:=[(4,.box 4 (.pair A1 (.pair A1 (.pair A1 (.pair S0 (.pair A1 (.pair A1 (.pair E0 .unit)))))))),(5,.own 5 (.pair A1 (.pair A1 (.pair A1 (.pair E0 .unit)))) 110),(6,.d A1)]
def C8D:I0:=[(1,B1Q)]
def D3P(F:Nat):B8 B9C:=fun x K=>A1N F (fun y4 y5 y6=>K .ret (enc B1Q (y4,y5,y6,()))) x.1 x.2.1 x.2.2.1
def E5n(F:Nat):C8 E2z:=A5 [(5,⟨B9C,D3P F⟩)]
theorem D7T(F:Nat)(fr:Frm)(hn:(E5l F).ntmps=fr.n):L9 E2z f57 fr [1,1,1] B9C (D3P F) :=
 N5 (A5 []) (E5n F) C8D rfl (E5m F) hn (fun x K=>by kernel_rfl) (B0 (by kernel_rfl))
theorem s57(F:Nat):CSound prog 57 (D7S F) :=
 B3 (fn:=f57) (A5 []) (E5n F) rfl func57 (by kernel_rfl) (E5m F) (fun fr hn=>(C3 (l:=[((sub (A7 f57) [1,1,1]),⟨B9C,D3P F⟩)]) (by kernel_rfl) (A9 (D7T F fr hn) B6))) (fun x=>by kernel_rfl)
def E2A:Sig:=⟨[.ro,.ro],[(0,.d (.slice S0)),(1,.d A1)],false,some (0,110),[(.slice (.pair A1 (.pair A1 (.pair A1 (.pair E0 .unit))))),A1]⟩
def D7U(F:Nat):Contract:=C0 E2A fun x=>A7f F x.1 x.2.1
def E5o(F:Nat):Cx:=B2 [(55,D7g F),(56,D7n F),(57,D7S F),(58,D3O F)] [4,8] (0,54)
theorem E5p(F:Nat):A8 (E5o F):=A2 (A0 (s55 F) (A0 (s56 F) (A0 (s57 F) (A0 (s58 F) A3))))
def B3j:A4:=[(0,.d (.slice S0)),(6,.box 6 (.pair A1 (.pair A1 (.pair A1 (.pair S0 (.pair A1 (.pair A1 (.pair E0 .unit)))))))),(8,.own 8 (.pair A1 (.pair A1 (.pair A1 (.pair E0 .unit)))) 110),(9,.d A1)]
def B64:A4:=[(6,.box 6 (.pair A1 (.pair A1 (.pair A1 (.pair S0 (.pair A1 (.pair A1 (.pair E0 .unit)))))))),(8,.own 8 (.pair A1 (.pair A1 (.pair A1 (.pair E0 .unit)))) 110)]
def C5i:I0:=[(2,B64)]
def B9D(F n:Nat):B8 B3j:=fun x K=>A0I F (fun y6 y8=>K (.exit 0) (enc B64 (y6,y8,()))) n x.1 x.2.1 x.2.2.1 x.2.2.2.1
def E5q(F:Nat):C8 E2A:=A5 [(10,⟨B3j,B9D F F⟩)]
theorem D3Q(F:Nat)(fr:Frm)(hn:(E5o F).ntmps=fr.n)(n:Nat):D2 E2A f24 fr [1,1,1,1,1,1,0,1,0,0] B3j (B9D F n) :=
 D4 (E5q F) (A5 []) C5i rfl (E5p F) hn (m:=fun n=>B9D F n) (fun _ _=>rfl) (fun n x K=>by kernel_rfl) (B0 (by kernel_rfl)) n
theorem s24(F:Nat):CSound prog 24 (D7U F) :=
 B3 (fn:=f24) (E5q F) (A5 []) rfl func24 (by kernel_rfl) (E5p F) (fun fr hn=>(C3 (l:=[((.loop (sub (A7 f24) [1,1,1,1,1,1,0,1,0,0])),⟨B3j,B9D F F⟩)]) (by kernel_rfl) (A9 (D3Q F fr hn F) B6))) (fun x=>by kernel_rfl)
def E81:Sig:=⟨[.ro,.ro],[(0,.d (.pair A1 (.pair A1 (.pair A1 (.pair E0 .unit))))),(1,.d (.pair A1 (.pair A1 (.pair A1 (.pair E0 .unit)))))],true,none,[.bool]⟩
def D7V(F:Nat):Contract:=C0 E81 fun x=>A3N F x.1 x.2.1
def E82(F:Nat):Cx:=B2 [(43,C2U F)] [] (0,58)
theorem E83(F:Nat):A8 (E82 F):=A2 (A0 (s43 F) A3)
theorem s61(F:Nat):CSound prog 61 (D7V F) :=
 B3 (fn:=f61) (A5 []) (A5 []) rfl func61 (by kernel_rfl) (E83 F) (fun fr hn=>(B0 (by kernel_rfl))) (fun x=>by kernel_rfl)
def E2B:Sig:=⟨[.ro,.ro],[(0,.d G1),(1,.d A1)],false,some (0,3),[G1]⟩
def D7W(F:Nat):Contract:=C0 E2B fun x=>A3O F x.1 x.2.1
def E5r(F:Nat):Cx:=B2 [] [4,5] (0,42)
theorem E5s(F:Nat):A8 (E5r F):=A2 A3
def B9E:A4:=[(0,.d G1),(1,.d A1),(5,.own 5 A1 3),(6,.d .bool),(7,.d A1)]
def B9F:A4:=[(1,.d A1),(5,.own 5 A1 3),(6,.d .bool)]
def C8E:I0:=[(2,B9F)]
def C8F(F n:Nat):B8 B9E:=fun x K=>I1 F (fun y1 y5 y6=>K (.exit 0) (enc B9F (y1,y5,y6,()))) n x.1 x.2.1 x.2.2.1 x.2.2.2.1 x.2.2.2.2.1
def E5t(F:Nat):C8 E2B:=A5 [(4,⟨B9E,C8F F F⟩)]
theorem D7X(F:Nat)(fr:Frm)(hn:(E5r F).ntmps=fr.n)(n:Nat):D2 E2B f63 fr [1,1,1,0,1,0,0] B9E (C8F F n) :=
 D4 (E5t F) (A5 []) C8E rfl (E5s F) hn (m:=fun n=>C8F F n) (fun _ _=>rfl) (fun n x K=>by kernel_rfl) (B0 (by kernel_rfl)) n
theorem s63(F:Nat):CSound prog 63 (D7W F) :=
 B3 (fn:=f63) (E5t F) (A5 []) rfl func63 (by kernel_rfl) (E5s F) (fun fr hn=>(C3 (l:=[((.loop (sub (A7 f63) [1,1,1,0,1,0,0])),⟨B9E,C8F F F⟩)]) (by kernel_rfl) (A9 (D7X F fr hn F) B6))) (fun x=>by kernel_rfl)
def E84:Sig:=⟨[.ro],[(0,.d A1)],true,none,[E4]⟩
def C5j(F:Nat):Contract:=C0 E84 fun x=>A3P F x.1
def E85(F:Nat):Cx:=B2 [(65,B3f F),(94,C8y F)] [] (0,7)
theorem E86(F:Nat):A8 (E85 F):=A2 (A0 (s65 F) (A0 (s94 F) A3))
theorem s44(F:Nat):CSound prog 44 (C5j F) :=
 B3 (fn:=f44) (A5 []) (A5 []) rfl func44 (by kernel_rfl) (E86 F) (fun fr hn=>(B0 (by kernel_rfl))) (fun x=>by kernel_rfl)
def D7Y:Sig:=⟨[.ro,.ro,.ro,.ro],[(0,.d tyV),(1,.d tyV),(2,.d tyV),(3,.d tyV)],true,none,[tyV,tyV]⟩
def D18(F:Nat):Contract:=C0 D7Y fun x=>A13 F x.1 x.2.1 x.2.2.1 x.2.2.2.1
def B8k(F n:Nat):Contract:=C0 D7Y fun x=>G0 n F x.1 x.2.1 x.2.2.1 x.2.2.2.1
def D3S(F:Nat)(n:Nat):Cx:=B2 [(123,B60 F),(90,B2Y F),(65,B3f F),(156,B9z F),(68,C5b F),(96,C8A F),(155,C5f F),(158,B8k F n)] [] (0,95)
theorem E2C(F n:Nat)(ih:CSound prog 158 (B8k F n)):∀ f c,(D3S F n).call f=some c→A5D prog f c:=A2 (A0 (E0n F) (A0 (s90 F) (A0 (s65 F) (A0 (E2o F) (A0 (s68 F) (A0 (s96 F) (A0 (E5h F) (A0 ih A3))))))))
theorem D7Z(F:Nat):∀ n,CSound prog 158 (B8k F n)
 | 0=>C2t (fn:=f158) (code:=(A7 f158)) (cx:=D3S F 0) func158 (by kernel_rfl) (by kernel_rfl) (by kernel_rfl) (fun x=>rfl)
 | n+1 =>
  B2F (fn:=f158) (code:=(A7 f158)) (cx:=D3S F n) (hs:=A5 []) (js:=A5 []) func158 (by kernel_rfl) (by kernel_rfl) (H1 _ rfl) (E2C F n (D7Z F n)) mix (by kernel_rfl) (by kernel_rfl) (fun fr hn=>(B0 (by kernel_rfl))) (fun x=>by kernel_rfl)
theorem E87(F:Nat):CSound prog 158 (D18 F):=D7Z F F
def C8G:Sig:=⟨[.ro,.ro],[(0,.d E4),(1,.d E4)],true,none,[E4,.bool]⟩
def D19(F:Nat):Contract:=C0 C8G fun x=>A36 F x.1 x.2.1
def D3T(F:Nat):Cx:=B2 [(42,C2T F),(43,C2U F),(90,B2Y F),(44,C5j F),(70,C5e F),(158,D18 F)] [] (0,83)
theorem D3U(F:Nat):A8 (D3T F):=A2 (A0 (s42 F) (A0 (s43 F) (A0 (s90 F) (A0 (s44 F) (A0 (s70 F) (A0 (E87 F) A3))))))
def B3k:A4:=[(2,.box 2 E4),(3,.box 3 E4),(4,.box 4 E4),(36,.d .bool)]
def B65:A4:=[(2,.box 2 E4),(3,.box 3 E4),(4,.box 4 E4)]
def B08:A4:=[(4,.box 4 E4),(5,.d .bool)]
def C5k:I0:=[(0,B65),(1,B08)]
def C5l(F:Nat):B8 B3k:=fun x K=>Z9 F (fun y2 y3 y4=>K .normal (enc B65 (y2,y3,y4,()))) (fun y4 y5=>K .ret (enc B08 (y4,y5,()))) x.1 x.2.1 x.2.2.1 x.2.2.2.1
def B3l:A4:=[(2,.box 2 E4),(3,.box 3 E4),(4,.box 4 E4)]
def B09:A4:=[(4,.box 4 E4),(5,.d .bool)]
def C5m:I0:=[(1,B09)]
def C5n(F:Nat):B8 B3l:=fun x K=>A00 F (fun y4 y5=>K .ret (enc B09 (y4,y5,()))) x.1 x.2.1 x.2.2.1
def D3V(F:Nat):C8 C8G:=A5 [(4,⟨B3k,C5l F⟩),(5,⟨B3l,C5n F⟩)]
theorem D3W(F:Nat)(fr:Frm)(hn:(D3T F).ntmps=fr.n):L9 C8G f118 fr [1,1,0,1] B3k (C5l F) :=
 N5 (A5 []) (D3V F) C5k rfl (D3U F) hn (fun x K=>by kernel_rfl) (B0 (by kernel_rfl))
theorem D3X(F:Nat)(fr:Frm)(hn:(D3T F).ntmps=fr.n):L9 C8G f118 fr [1,1,1] B3l (C5n F) :=
 N5 (A5 []) (D3V F) C5m rfl (D3U F) hn (fun x K=>by kernel_rfl) (B0 (by kernel_rfl))
theorem E88(F:Nat):CSound prog 118 (D19 F) :=
 B3 (fn:=f118) (A5 []) (D3V F) rfl func118 (by kernel_rfl) (D3U F) (fun fr hn=>(C3 (l:=[((sub (A7 f118) [1,1,0,1]),⟨B3k,C5l F⟩),((sub (A7 f118) [1,1,1]),⟨B3l,C5n F⟩)]) (by kernel_rfl) (A9 (D3W F fr hn) (A9 (D3X F fr hn) B6)))) (fun x=>by kernel_rfl)
def E89:Sig:=⟨[.ro],[(0,.d E0)],true,none,[E4]⟩
def D80(F:Nat):Contract:=C0 E89 fun x=>A2E F x.1
def E8a(F:Nat):Cx:=B2 [(60,C5c F),(44,C5j F),(118,D19 F)] [] (0,21)
theorem E8b(F:Nat):A8 (E8a F):=A2 (A0 (s60 F) (A0 (s44 F) (A0 (E88 F) A3)))
theorem s64(F:Nat):CSound prog 64 (D80 F) :=
 B3 (fn:=f64) (A5 []) (A5 []) rfl func64 (by kernel_rfl) (E8b F) (fun fr hn=>(B0 (by kernel_rfl))) (fun x=>by kernel_rfl)
def C7y:Sig:=⟨[.ro],[(0,.d (.slice (.pair A1 (.pair A1 (.pair A1 (.pair E0 .unit))))))],false,some (0,56),[(.slice D5),A1]⟩
def D81(F:Nat):Contract:=C0 C7y fun x=>A5P F x.1
def D1a(F:Nat):Cx:=B2 [(60,C5c F),(61,D7V F),(62,D3K F),(63,D7W F),(64,D80 F)] [2,8,51] (0,176)
theorem D1b(F:Nat):A8 (D1a F):=A2 (A0 (s60 F) (A0 (s61 F) (A0 (s62 F) (A0 (s63 F) (A0 (s64 F) A3)))))
def B9G:A4:=[(0,.d (.slice (.pair A1 (.pair A1 (.pair A1 (.pair E0 .unit)))))),(4,.d A1),(5,.d A1)]
def B9H:A4:=[(0,.d (.slice (.pair A1 (.pair A1 (.pair A1 (.pair E0 .unit)))))),(4,.d A1)]
def B1S:A4:=[(2,.own 2 D5 56),(3,.d A1)]
def C8H:I0:=[(4,B9H),(1,B1S)]
def C8I(F n:Nat):B8 B9G:=fun x K=>Z1 F (fun y0 y4=>K (.exit 2) (enc B9H (y0,y4,()))) (fun y2 y3=>K .ret (enc B1S (y2,y3,()))) n x.1 x.2.1 x.2.2.1
def B9I:A4:=[(0,.d (.slice (.pair A1 (.pair A1 (.pair A1 (.pair E0 .unit)))))),(4,.d A1)]
def B9J:A4:=[(0,.d (.slice (.pair A1 (.pair A1 (.pair A1 (.pair E0 .unit))))))]
def B1T:A4:=[(2,.own 2 D5 56),(3,.d A1)]
def C8J:I0:=[(2,B9J),(1,B1T)]
def C8K(F n:Nat):B8 B9I:=fun x K=>V2 F (fun y0=>K (.exit 0) (enc B9J (y0,()))) (fun y2 y3=>K .ret (enc B1T (y2,y3,()))) n x.1 x.2.1
def B3m:A4:=[(0,.own 0 (.pair A1 (.pair A1 (.pair A1 (.pair E0 .unit)))) 110),(6,.d A1),(7,.d A1)]
def B66:A4:=[(0,.own 0 (.pair A1 (.pair A1 (.pair A1 (.pair E0 .unit)))) 110),(6,.d A1)]
def C5o:I0:=[(8,B66)]
def B9K(F n:Nat):B8 B3m:=fun x K=>W2 F (fun y0 y6=>K (.exit 6) (enc B66 (y0,y6,()))) n x.1 x.2.1 x.2.2.1
def B3n:A4:=[(0,.own 0 (.pair A1 (.pair A1 (.pair A1 (.pair E0 .unit)))) 110),(6,.d A1)]
def B67:A4:=[(0,.own 0 (.pair A1 (.pair A1 (.pair A1 (.pair E0 .unit)))) 110)]
def C5p:I0:=[(6,B67)]
def B9L(F n:Nat):B8 B3n:=fun x K=>S4 F (fun y0=>K (.exit 4) (enc B67 (y0,()))) n x.1 x.2.1
def B3o:A4:=[(0,.own 0 (.pair A1 (.pair A1 (.pair A1 (.pair E0 .unit)))) 110),(8,.own 8 D5 56),(9,.box 9 E0),(10,.d A1),(11,.box 11 E0),(13,.d A1),(130,.d .bool)]
def B68:A4:=[(0,.own 0 (.pair A1 (.pair A1 (.pair A1 (.pair E0 .unit)))) 110),(8,.own 8 D5 56),(9,.box 9 E0),(10,.d A1)]
def B69:A4:=[(0,.own 0 (.pair A1 (.pair A1 (.pair A1 (.pair E0 .unit)))) 110),(8,.own 8 D5 56),(9,.box 9 E0),(10,.d A1)]
def C5q:I0:=[(11,B68),(0,B69)]
def C5r(F:Nat):B8 B3o:=fun x K=>S5 F (fun y0 y8 y9 y10=>K (.exit 9) (enc B68 (y0,y8,y9,y10,()))) (fun y0 y8 y9 y10=>K .normal (enc B69 (y0,y8,y9,y10,()))) x.1 x.2.1 x.2.2.1 x.2.2.2.1 x.2.2.2.2.1 x.2.2.2.2.2.1 x.2.2.2.2.2.2.1
def B3p:A4:=[(0,.own 0 (.pair A1 (.pair A1 (.pair A1 (.pair E0 .unit)))) 110),(8,.own 8 D5 56),(9,.box 9 E0),(10,.d A1)]
def B6a:A4:=[(0,.own 0 (.pair A1 (.pair A1 (.pair A1 (.pair E0 .unit)))) 110),(8,.own 8 D5 56),(9,.box 9 E0),(10,.d A1)]
def C5s:I0:=[(0,B6a)]
def C5t(F:Nat):B8 B3p:=fun x K=>A06 F (fun y0 y8 y9 y10=>K .normal (enc B6a (y0,y8,y9,y10,()))) x.1 x.2.1 x.2.2.1 x.2.2.2.1
def B3q:A4:=[(0,.own 0 (.pair A1 (.pair A1 (.pair A1 (.pair E0 .unit)))) 110),(8,.own 8 D5 56),(9,.box 9 E0),(10,.d A1)]
def B6b:A4:=[(8,.own 8 D5 56)]
def C5u:I0:=[(10,B6b)]
def B9N(F n:Nat):B8 B3q:=fun x K=>F5 F (fun y8=>K (.exit 8) (enc B6b (y8,()))) n x.1 x.2.1 x.2.2.1 x.2.2.2.1
def D1c(F:Nat):C8 C7y:=A5 [(7,⟨B9G,C8I F F⟩),(2,⟨B9I,C8K F F⟩),(16,⟨B3m,B9K F F⟩),(13,⟨B3n,B9L F F⟩),(22,⟨B3q,B9N F F⟩)]
def D1d(F:Nat):C8 C7y:=A5 [(27,⟨B3o,C5r F⟩),(30,⟨B3p,C5t F⟩)]
theorem D82(F:Nat)(fr:Frm)(hn:(D1a F).ntmps=fr.n)(n:Nat):D2 C7y f26 fr [1,0,1,0,0,1,0,0,1,1,0,0] B9G (C8I F n) :=
 D4 (D1c F) (D1d F) C8H rfl (D1b F) hn (m:=fun n=>C8I F n) (fun _ _=>rfl) (fun n x K=>by kernel_rfl) (B0 (by kernel_rfl)) n
theorem D83(F:Nat)(fr:Frm)(hn:(D1a F).ntmps=fr.n)(n:Nat):D2 C7y f26 fr [1,0,1,0,0] B9I (C8K F n) :=
 D4 (D1c F) (D1d F) C8J rfl (D1b F) hn (m:=fun n=>C8K F n) (fun _ _=>rfl) (fun n x K=>by kernel_rfl) (C3 (l:=[((.loop (sub (A7 f26) [1,0,1,0,0,1,0,0,1,1,0,0])),⟨B9G,C8I F F⟩)]) (by kernel_rfl) (A9 (D82 F fr hn F) B6)) n
theorem D3Y(F:Nat)(fr:Frm)(hn:(D1a F).ntmps=fr.n)(n:Nat):D2 C7y f26 fr [1,1,1,0,1,0,0,1,0,0,1,0,0] B3m (B9K F n) :=
 D4 (D1c F) (D1d F) C5o rfl (D1b F) hn (m:=fun n=>B9K F n) (fun _ _=>rfl) (fun n x K=>by kernel_rfl) (B0 (by kernel_rfl)) n
theorem D3Z(F:Nat)(fr:Frm)(hn:(D1a F).ntmps=fr.n)(n:Nat):D2 C7y f26 fr [1,1,1,0,1,0,0] B3n (B9L F n) :=
 D4 (D1c F) (D1d F) C5p rfl (D1b F) hn (m:=fun n=>B9L F n) (fun _ _=>rfl) (fun n x K=>by kernel_rfl) (C3 (l:=[((.loop (sub (A7 f26) [1,1,1,0,1,0,0,1,0,0,1,0,0])),⟨B3m,B9K F F⟩)]) (by kernel_rfl) (A9 (D3Y F fr hn F) B6)) n
theorem D40(F:Nat)(fr:Frm)(hn:(D1a F).ntmps=fr.n):L9 C7y f26 fr [1,1,1,1,1,1,0,1,0,0,1,0,0,1,1,0,1] B3o (C5r F) :=
 N5 (D1c F) (D1d F) C5q rfl (D1b F) hn (fun x K=>by kernel_rfl) (B0 (by kernel_rfl))
theorem D41(F:Nat)(fr:Frm)(hn:(D1a F).ntmps=fr.n):L9 C7y f26 fr [1,1,1,1,1,1,0,1,0,0,1,0,0,1,1,1] B3p (C5t F) :=
 N5 (D1c F) (D1d F) C5s rfl (D1b F) hn (fun x K=>by kernel_rfl) (B0 (by kernel_rfl))
theorem D42(F:Nat)(fr:Frm)(hn:(D1a F).ntmps=fr.n)(n:Nat):D2 C7y f26 fr [1,1,1,1,1,1,0,1,0,0] B3q (B9N F n) :=
 D4 (D1c F) (D1d F) C5u rfl (D1b F) hn (m:=fun n=>B9N F n) (fun _ _=>rfl) (fun n x K=>by kernel_rfl) (C3 (l:=[((sub (A7 f26) [1,1,1,1,1,1,0,1,0,0,1,0,0,1,1,0,1]),⟨B3o,C5r F⟩),((sub (A7 f26) [1,1,1,1,1,1,0,1,0,0,1,0,0,1,1,1]),⟨B3p,C5t F⟩)]) (by kernel_rfl) (A9 (D40 F fr hn) (A9 (D41 F fr hn) B6))) n
theorem s26(F:Nat):CSound prog 26 (D81 F) :=
 B3 (fn:=f26) (D1c F) (D1d F) rfl func26 (by kernel_rfl) (D1b F) (fun fr hn=>(C3 (l:=[((.loop (sub (A7 f26) [1,0,1,0,0])),⟨B9I,C8K F F⟩),((.loop (sub (A7 f26) [1,1,1,0,1,0,0])),⟨B3n,B9L F F⟩),((.loop (sub (A7 f26) [1,1,1,1,1,1,0,1,0,0])),⟨B3q,B9N F F⟩)]) (by kernel_rfl) (A9 (D83 F fr hn F) (A9 (D3Z F fr hn F) (A9 (D42 F fr hn F) B6))))) (fun x=>by kernel_rfl)
def sg8:Sig:=⟨[.bor],[(0,.box 0 F2)],false,some (0,56),[F2,(.slice D5),A1]⟩
def E5u(F:Nat):Contract:=C0 sg8 fun x=>A5Q F x.1
def cx8(F:Nat):Cx:=B2 [(23,D7e F),(25,D7f F),(24,D7U F),(26,D81 F)] [2,20] (1,26)
theorem cs8(F:Nat):A8 (cx8 F):=A2 (A0 (s23 F) (A0 (s25 F) (A0 (s24 F) (A0 (s26 F) A3))))
theorem s8(F:Nat):CSound prog 8 (E5u F) :=
 B3 (fn:=f8) (A5 []) (A5 []) rfl func8 (by kernel_rfl) (cs8 F) (fun fr hn=>(B0 (by kernel_rfl))) (fun x=>by kernel_rfl)
def E0p:Sig:=⟨[.bor],[(0,.box 0 F2)],false,none,[F2,E4]⟩
def D84(F:Nat):Contract:=C0 E0p fun x=>A1O F x.1
def E2D(F:Nat):Cx:=B2 [(19,A9Z F),(65,B3f F),(66,C4u F),(29,B8f F),(59,C2H F),(67,C8e F),(68,C5b F),(69,D3I F),(44,C5j F)] [] (1,42)
theorem E2E(F:Nat):A8 (E2D F):=A2 (A0 (s19 F) (A0 (s65 F) (A0 (s66 F) (A0 (s29 F) (A0 (s59 F) (A0 (s67 F) (A0 (s68 F) (A0 (s69 F) (A0 (s44 F) A3)))))))))
def B9O:A4:=[(0,.box 0 F2),(2,.box 2 E4),(3,.box 3 tyV),(4,.box 4 tyV)]
def B1U:A4:=[(0,.box 0 F2),(2,.box 2 E4)]
def C8L:I0:=[(1,B1U)]
def D43(F:Nat):B8 B9O:=fun x K=>P4 F (fun y0 y2=>K .ret (enc B1U (y0,y2,()))) x.1 x.2.1 x.2.2.1 x.2.2.2.1
def B9P:A4:=[(0,.box 0 F2),(2,.box 2 E4),(3,.box 3 tyV),(4,.box 4 tyV)]
def B1V:A4:=[(0,.box 0 F2),(2,.box 2 E4)]
def C8N:I0:=[(1,B1V)]
def D44(F:Nat):B8 B9P:=fun x K=>P5 F (fun y0 y2=>K .ret (enc B1V (y0,y2,()))) x.1 x.2.1 x.2.2.1 x.2.2.2.1
def E2F(F:Nat):C8 E0p:=A5 [(6,⟨B9O,D43 F⟩),(4,⟨B9P,D44 F⟩)]
theorem D85(F:Nat)(fr:Frm)(hn:(E2D F).ntmps=fr.n):L9 E0p f27 fr [1,1,1,1] B9O (D43 F) :=
 N5 (A5 []) (E2F F) C8L rfl (E2E F) hn (fun x K=>by kernel_rfl) (B0 (by kernel_rfl))
theorem D86(F:Nat)(fr:Frm)(hn:(E2D F).ntmps=fr.n):L9 E0p f27 fr [1,1,1] B9P (D44 F) :=
 N5 (A5 []) (E2F F) C8N rfl (E2E F) hn (fun x K=>by kernel_rfl) (C3 (l:=[((sub (A7 f27) [1,1,1,1]),⟨B9O,D43 F⟩)]) (by kernel_rfl) (A9 (D85 F fr hn) B6))
theorem s27(F:Nat):CSound prog 27 (D84 F) :=
 B3 (fn:=f27) (A5 []) (E2F F) rfl func27 (by kernel_rfl) (E2E F) (fun fr hn=>(C3 (l:=[((sub (A7 f27) [1,1,1]),⟨B9P,D44 F⟩)]) (by kernel_rfl) (A9 (D86 F fr hn) B6))) (fun x=>by kernel_rfl)
def D87:Sig:=⟨[.bor],[(0,.box 0 F2)],false,none,[F2,tyV]⟩
def D88(F:Nat):Contract:=C0 D87 fun x=>A2s F x.1
def E2G(F:Nat):Cx:=B2 [(19,A9Z F),(59,C2H F),(66,C4u F),(29,B8f F),(65,B3f F),(70,C5e F)] [] (1,39)
theorem E2H(F:Nat):A8 (E2G F):=A2 (A0 (s19 F) (A0 (s59 F) (A0 (s66 F) (A0 (s29 F) (A0 (s65 F) (A0 (s70 F) A3))))))
def B9Q:A4:=[(0,.box 0 F2),(2,.box 2 tyV),(3,.box 3 tyV),(4,.d A1)]
def B9S:A4:=[(0,.box 0 F2),(2,.box 2 tyV),(3,.box 3 tyV)]
def C8O:I0:=[(2,B9S)]
def C8P(F n:Nat):B8 B9Q:=fun x K=>K0 F (fun y0 y2 y3=>K (.exit 0) (enc B9S (y0,y2,y3,()))) n x.1 x.2.1 x.2.2.1 x.2.2.2.1
def B3r:A4:=[(0,.box 0 F2),(2,.box 2 tyV),(3,.box 3 tyV)]
def B0a:A4:=[(0,.box 0 F2),(2,.box 2 tyV)]
def C5v:I0:=[(1,B0a)]
def C5w(F:Nat):B8 B3r:=fun x K=>V3 F (fun y0 y2=>K .ret (enc B0a (y0,y2,()))) x.1 x.2.1 x.2.2.1
def E2I(F:Nat):C8 D87:=A5 [(3,⟨B9Q,C8P F F⟩)]
def E2J(F:Nat):C8 D87:=A5 [(10,⟨B3r,C5w F⟩)]
theorem D89(F:Nat)(fr:Frm)(hn:(E2G F).ntmps=fr.n)(n:Nat):D2 D87 f28 fr [1,1,0,1,0,0] B9Q (C8P F n) :=
 D4 (E2I F) (E2J F) C8O rfl (E2H F) hn (m:=fun n=>C8P F n) (fun _ _=>rfl) (fun n x K=>by kernel_rfl) (B0 (by kernel_rfl)) n
theorem D45(F:Nat)(fr:Frm)(hn:(E2G F).ntmps=fr.n):L9 D87 f28 fr [1,1,1,1] B3r (C5w F) :=
 N5 (E2I F) (E2J F) C5v rfl (E2H F) hn (fun x K=>by kernel_rfl) (B0 (by kernel_rfl))
theorem s28(F:Nat):CSound prog 28 (D88 F) :=
 B3 (fn:=f28) (E2I F) (E2J F) rfl func28 (by kernel_rfl) (E2H F) (fun fr hn=>(C3 (l:=[((.loop (sub (A7 f28) [1,1,0,1,0,0])),⟨B9Q,C8P F F⟩),((sub (A7 f28) [1,1,1,1]),⟨B3r,C5w F⟩)]) (by kernel_rfl) (A9 (D89 F fr hn F) (A9 (D45 F fr hn) B6)))) (fun x=>by kernel_rfl)
end Go.Proofs.YtdhfajmcakneiaaGreat
