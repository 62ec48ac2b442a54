/- That the code computes the models. Written by program. -/
import Derived.Test.YtdhfajmcakneiaaGreatSpoil
set_option linter.unusedVariables false
set_option linter.unusedSimpArgs false
namespace Go.Proofs.YtdhfajmcakneiaaGreat
open Go.Eng Tryz
def sg9:Sig:=⟨[.bor,.ro],[(0,.box 0 F2),(1,.d (.slice D5))],false,some (0,56),[F2,(.slice D5)]⟩
def E5v(F:Nat):Contract:=C0 sg9 fun x=>A37 F x.1 x.2.1
def cx9(F:Nat):Cx:=B2 [] [4,5,19,32] (1,109)
theorem cs9(F:Nat):A8 (cx9 F):=A2 A3
def C8Q:A4:=[(0,.box 0 F2),(1,.d (.slice D5)),(5,.own 5 D5 56)]
def B6c:A4:=[(0,.box 0 F2),(4,.own 4 D5 56)]
def E2K:I0:=[(1,B6c)]
def E2L(F:Nat):B8 C8Q:=fun x K=>A01 F (fun y0 y4=>K .ret (enc B6c (y0,y4,()))) x.1 x.2.1 x.2.2.1
def js9(F:Nat):C8 sg9:=A5 [(2,⟨C8Q,E2L F⟩)]
theorem E2N(F:Nat)(fr:Frm)(hn:(cx9 F).ntmps=fr.n):L9 sg9 f9 fr [1,1] C8Q (E2L F):=C2G F fr hn
theorem s9(F:Nat):CSound prog 9 (E5v F) :=
 B3 (fn:=f9) (A5 []) (js9 F) rfl func9 (by kernel_rfl) (cs9 F) (fun fr hn=>(C3 (l:=[((sub (A7 f9) [1,1]),⟨C8Q,E2L F⟩)]) (by kernel_rfl) (A9 (E2N F fr hn) B6))) (fun x=>by kernel_rfl)
def E2O:Sig:=⟨[.ro],[(0,.d (.slice D5))],true,none,[A1]⟩
def D8a(F:Nat):Contract:=C0 E2O fun x=>A0q F x.1
def E5w(F:Nat):Cx:=B2 [] [] (0,19)
theorem E5x(F:Nat):A8 (E5w F):=A2 A3
def B9T:A4:=[(3,.d A1),(6,.d (.slice D5)),(7,.d A1),(8,.d A1)]
def B9U:A4:=[(3,.d A1)]
def C8S:I0:=[(2,B9U)]
def C8T(F n:Nat):B8 B9T:=fun x K=>P6 F (fun y3=>K (.exit 0) (enc B9U (y3,()))) n x.1 x.2.1 x.2.2.1 x.2.2.2.1
def E5y(F:Nat):C8 E2O:=A5 [(3,⟨B9T,C8T F F⟩)]
theorem D8b(F:Nat)(fr:Frm)(hn:(E5w F).ntmps=fr.n)(n:Nat):D2 E2O f39 fr [1,1,0,1,0,0] B9T (C8T F n) :=
 D4 (E5y F) (A5 []) C8S rfl (E5x F) hn (m:=fun n=>C8T F n) (fun _ _=>rfl) (fun n x K=>by kernel_rfl) (B0 (by kernel_rfl)) n
theorem s39(F:Nat):CSound prog 39 (D8a F) :=
 B3 (fn:=f39) (E5y F) (A5 []) rfl func39 (by kernel_rfl) (E5x F) (fun fr hn=>(C3 (l:=[((.loop (sub (A7 f39) [1,1,0,1,0,0])),⟨B9T,C8T F F⟩)]) (by kernel_rfl) (A9 (D8b F fr hn F) B6))) (fun x=>by kernel_rfl)
def E8c:Sig:=⟨[.ro],[(0,.d tyV)],true,none,[.bool]⟩
def C5x(F:Nat):Contract:=C0 E8c fun x=>A0J F x.1
def E8d(F:Nat):Cx:=B2 [] [] (0,12)
theorem E8e(F:Nat):A8 (E8d F):=A2 A3
theorem s81(F:Nat):CSound prog 81 (C5x F) :=
 B3 (fn:=f81) (A5 []) (A5 []) rfl func81 (by kernel_rfl) (E8e F) (fun fr hn=>(B0 (by kernel_rfl))) (fun x=>by kernel_rfl)
def E2P:Sig:=⟨[.ro],[(0,.d tyV)],true,none,[tyV]⟩
def B1W(F:Nat):Contract:=C0 E2P fun x=>U3 F x.1
def E2Q(F:Nat):Cx:=B2 [(81,C5x F)] [] (0,8)
theorem E2S(F:Nat):A8 (E2Q F):=A2 (A0 (s81 F) A3)
theorem D8c(F:Nat):CSound prog 135 (B1W F) :=
 B3 (fn:=f135) (A5 []) (A5 []) rfl func135 (by kernel_rfl) (E2S F) (fun fr hn=>(B0 (by kernel_rfl))) (fun x=>by kernel_rfl)
def E8f:Sig:=⟨[.ro],[(0,.d tyV)],true,none,[A1]⟩
def C5y(F:Nat):Contract:=C0 E8f fun x=>A3x F x.1
def E8g(F:Nat):Cx:=B2 [(135,B1W F)] [] (0,13)
theorem E8h(F:Nat):A8 (E8g F):=A2 (A0 (D8c F) A3)
theorem s82(F:Nat):CSound prog 82 (C5y F) :=
 B3 (fn:=f82) (A5 []) (A5 []) rfl func82 (by kernel_rfl) (E8h F) (fun fr hn=>(B0 (by kernel_rfl))) (fun x=>by kernel_rfl)
def E8i:Sig:=⟨[.ro],[(0,.d tyV)],true,none,[.bool]⟩
def D8d(F:Nat):Contract:=C0 E8i fun x=>A3y F x.1
def E8j(F:Nat):Cx:=B2 [] [] (0,20)
theorem E8k(F:Nat):A8 (E8j F):=A2 A3
theorem s83(F:Nat):CSound prog 83 (D8d F) :=
 B3 (fn:=f83) (A5 []) (A5 []) rfl func83 (by kernel_rfl) (E8k F) (fun fr hn=>(B0 (by kernel_rfl))) (fun x=>by kernel_rfl)
def D46:Sig:=⟨[.ro],[(0,.d (.arr 4 A6))],true,none,[A1]⟩
def D1e(F:Nat):Contract:=C0 D46 fun x=>A3z F x.1
def D8e(F:Nat):Cx:=B2 [(166,B1C F)] [] (0,19)
theorem D8f(F:Nat):A8 (D8e F):=A2 (A0 (D79 F) A3)
def B3s:A4:=[(1,.box 1 (.arr 4 A6)),(3,.d A1)]
def B6d:A4:=[]
def B0b:A4:=[(2,.d A1)]
def C5z:I0:=[(2,B6d),(1,B0b)]
def B9V(F n:Nat):B8 B3s:=fun x K=>S6 F (K (.exit 0) (enc B6d (()))) (fun y2=>K .ret (enc B0b (y2,()))) n x.1 x.2.1
def D8g(F:Nat):C8 D46:=A5 [(2,⟨B3s,B9V F F⟩)]
theorem D47(F:Nat)(fr:Frm)(hn:(D8e F).ntmps=fr.n)(n:Nat):D2 D46 f187 fr [1,0,1,0,0] B3s (B9V F n) :=
 D4 (D8g F) (A5 []) C5z rfl (D8f F) hn (m:=fun n=>B9V F n) (fun _ _=>rfl) (fun n x K=>by kernel_rfl) (B0 (by kernel_rfl)) n
theorem E8l(F:Nat):CSound prog 187 (D1e F) :=
 B3 (fn:=f187) (D8g F) (A5 []) rfl func187 (by kernel_rfl) (D8f F) (fun fr hn=>(C3 (l:=[((.loop (sub (A7 f187) [1,0,1,0,0])),⟨B3s,B9V F F⟩)]) (by kernel_rfl) (A9 (D47 F fr hn F) B6))) (fun x=>by kernel_rfl)
def C5A:Sig:=⟨[.ro,.ro],[(0,.d (.arr 4 A6)),(1,.d A1)],true,none,[(.arr 4 A6)]⟩
def D1f(F:Nat):Contract:=C0 C5A fun x=>A7g F x.1 x.2.1
def D48(F:Nat):Cx:=B2 [] [] (0,48)
theorem D49(F:Nat):A8 (D48 F):=A2 A3
def B3t:A4:=[(2,.box 2 (.arr 4 A6)),(4,.box 4 (.arr 4 A6)),(5,.d A1),(6,.d A1),(7,.d A1),(32,.d .bool)]
def B6e:A4:=[(2,.box 2 (.arr 4 A6)),(4,.box 4 (.arr 4 A6)),(5,.d A1),(6,.d A1),(7,.d A1)]
def C5B:I0:=[(0,B6e)]
def C5C(F:Nat):B8 B3t:=fun x K=>A3Q F (fun y2 y4 y5 y6 y7=>K .normal (enc B6e (y2,y4,y5,y6,y7,()))) x.1 x.2.1 x.2.2.1 x.2.2.2.1 x.2.2.2.2.1 x.2.2.2.2.2.1
def B3u:A4:=[(2,.box 2 (.arr 4 A6)),(4,.box 4 (.arr 4 A6)),(5,.d A1),(6,.d A1),(7,.d A1)]
def B6f:A4:=[(4,.box 4 (.arr 4 A6))]
def C5D:I0:=[(2,B6f)]
def B9W(F n:Nat):B8 B3u:=fun x K=>L5 F (fun y4=>K (.exit 0) (enc B6f (y4,()))) n x.1 x.2.1 x.2.2.1 x.2.2.2.1 x.2.2.2.2.1
def D4a(F:Nat):C8 C5A:=A5 [(3,⟨B3u,B9W F F⟩)]
def D4b(F:Nat):C8 C5A:=A5 [(7,⟨B3t,C5C F⟩)]
theorem D4c(F:Nat)(fr:Frm)(hn:(D48 F).ntmps=fr.n):L9 C5A f188 fr [1,1,0,1,0,0,1,0,0,1,1] B3t (C5C F) :=
 N5 (D4a F) (D4b F) C5B rfl (D49 F) hn (fun x K=>by kernel_rfl) (B0 (by kernel_rfl))
theorem D4d(F:Nat)(fr:Frm)(hn:(D48 F).ntmps=fr.n)(n:Nat):D2 C5A f188 fr [1,1,0,1,0,0] B3u (B9W F n) :=
 D4 (D4a F) (D4b F) C5D rfl (D49 F) hn (m:=fun n=>B9W F n) (fun _ _=>rfl) (fun n x K=>by kernel_rfl) (C3 (l:=[((sub (A7 f188) [1,1,0,1,0,0,1,0,0,1,1]),⟨B3t,C5C F⟩)]) (by kernel_rfl) (A9 (D4c F fr hn) B6)) n
theorem E8m(F:Nat):CSound prog 188 (D1f F) :=
 B3 (fn:=f188) (D4a F) (D4b F) rfl func188 (by kernel_rfl) (D49 F) (fun fr hn=>(C3 (l:=[((.loop (sub (A7 f188) [1,1,0,1,0,0])),⟨B3u,B9W F F⟩)]) (by kernel_rfl) (A9 (D4d F fr hn F) B6))) (fun x=>by kernel_rfl)
def E2T:Sig:=⟨[.ro],[(0,.d A6)],true,none,[.bool]⟩
def D1g(F:Nat):Contract:=C0 E2T fun x=>A18 F x.1
def E2U(F:Nat):Cx:=B2 [] [] (0,6)
theorem E2V(F:Nat):A8 (E2U F):=A2 A3
theorem E8n(F:Nat):CSound prog 193 (D1g F) :=
 B3 (fn:=f193) (A5 []) (A5 []) rfl func193 (by kernel_rfl) (E2V F) (fun fr hn=>(B0 (by kernel_rfl))) (fun x=>by kernel_rfl)
def E2W:Sig:=⟨[.ro,.ro],[(0,.d A6),(1,.d A6)],true,none,[A1]⟩
def D1h(F:Nat):Contract:=C0 E2W fun x=>K9 F x.1 x.2.1
def E2X(F:Nat):Cx:=B2 [(193,D1g F)] [] (0,20)
theorem E2Y(F:Nat):A8 (E2X F):=A2 (A0 (E8n F) A3)
theorem E8o(F:Nat):CSound prog 190 (D1h F) :=
 B3 (fn:=f190) (A5 []) (A5 []) rfl func190 (by kernel_rfl) (E2Y F) (fun fr hn=>(B0 (by kernel_rfl))) (fun x=>by kernel_rfl)
def E2Z:Sig:=⟨[.ro],[(0,.d G1)],true,none,[A1]⟩
def D4e(F:Nat):Contract:=C0 E2Z fun x=>A2c F x.1
def E5z(F:Nat):Cx:=B2 [] [] (0,18)
theorem E5A(F:Nat):A8 (E5z F):=A2 A3
def B9X:A4:=[(3,.d A1),(6,.d G1),(7,.d A1),(8,.d A1)]
def B9Y:A4:=[(3,.d A1)]
def B1X:A4:=[(2,.d A1)]
def C8U:I0:=[(2,B9Y),(1,B1X)]
def C8V(F n:Nat):B8 B9X:=fun x K=>O6 F (fun y3=>K (.exit 0) (enc B9Y (y3,()))) (fun y2=>K .ret (enc B1X (y2,()))) n x.1 x.2.1 x.2.2.1 x.2.2.2.1
def E5B(F:Nat):C8 E2Z:=A5 [(3,⟨B9X,C8V F F⟩)]
theorem D8h(F:Nat)(fr:Frm)(hn:(E5z F).ntmps=fr.n)(n:Nat):D2 E2Z f86 fr [1,1,0,1,0,0] B9X (C8V F n) :=
 D4 (E5B F) (A5 []) C8U rfl (E5A F) hn (m:=fun n=>C8V F n) (fun _ _=>rfl) (fun n x K=>by kernel_rfl) (B0 (by kernel_rfl)) n
theorem s86(F:Nat):CSound prog 86 (D4e F) :=
 B3 (fn:=f86) (E5B F) (A5 []) rfl func86 (by kernel_rfl) (E5A F) (fun fr hn=>(C3 (l:=[((.loop (sub (A7 f86) [1,1,0,1,0,0])),⟨B9X,C8V F F⟩)]) (by kernel_rfl) (A9 (D8h F fr hn F) B6))) (fun x=>by kernel_rfl)
def E30:Sig:=⟨[.ro,.ro],[(0,.d (.arr 4 A6)),(1,.d (.arr 4 A6))],true,none,[A1]⟩
def C5E(F:Nat):Contract:=C0 E30 fun x=>A1v F x.1 x.2.1
def E31(F:Nat):Cx:=B2 [(190,D1h F),(86,D4e F)] [] (0,27)
theorem E32(F:Nat):A8 (E31 F):=A2 (A0 (E8o F) (A0 (s86 F) A3))
theorem E5C(F:Nat):CSound prog 173 (C5E F) :=
 B3 (fn:=f173) (A5 []) (A5 []) rfl func173 (by kernel_rfl) (E32 F) (fun fr hn=>(B0 (by kernel_rfl))) (fun x=>by kernel_rfl)
def D4f:Sig:=⟨[.ro,.ro],[(0,.d (.arr 4 A6)),(1,.d (.arr 4 A6))],true,none,[(.arr 4 A6)]⟩
def C5F(F:Nat):Contract:=C0 D4f fun x=>A7h F x.1 x.2.1
def D8i(F:Nat):Cx:=B2 [(186,B95 F)] [] (0,25)
theorem D8j(F:Nat):A8 (D8i F):=A2 (V7 (E1w F) A3)
def B3v:A4:=[(2,.box 2 (.arr 4 A6)),(3,.box 3 (.arr 4 A6)),(4,.box 4 (.arr 4 A6)),(5,.d A6),(7,.d A1)]
def B6g:A4:=[(4,.box 4 (.arr 4 A6))]
def C5G:I0:=[(2,B6g)]
def B9Z(F n:Nat):B8 B3v:=fun x K=>A0r F (fun y4=>K (.exit 0) (enc B6g (y4,()))) n x.1 x.2.1 x.2.2.1 x.2.2.2.1 x.2.2.2.2.1
def D8k(F:Nat):C8 D4f:=A5 [(3,⟨B3v,B9Z F F⟩)]
theorem D4g(F:Nat)(fr:Frm)(hn:(D8i F).ntmps=fr.n)(n:Nat):D2 D4f f170 fr [1,1,0,1,0,0] B3v (B9Z F n) :=
 D4 (D8k F) (A5 []) C5G rfl (D8j F) hn (m:=fun n=>B9Z F n) (fun _ _=>rfl) (fun n x K=>by kernel_rfl) (B0 (by kernel_rfl)) n
theorem E5D(F:Nat):CSound prog 170 (C5F F) :=
 B3 (fn:=f170) (D8k F) (A5 []) rfl func170 (by kernel_rfl) (D8j F) (fun fr hn=>(C3 (l:=[((.loop (sub (A7 f170) [1,1,0,1,0,0])),⟨B3v,B9Z F F⟩)]) (by kernel_rfl) (A9 (D4g F fr hn F) B6))) (fun x=>by kernel_rfl)
def D4h:Sig:=⟨[.ro],[(0,.d (.arr 4 A6))],true,none,[(.arr 4 A6)]⟩
def D1i(F:Nat):Contract:=C0 D4h fun x=>A3A F x.1
def D8l(F:Nat):Cx:=B2 [] [] (0,27)
theorem D8m(F:Nat):A8 (D8l F):=A2 A3
def B3w:A4:=[(1,.box 1 (.arr 4 A6)),(2,.box 2 (.arr 4 A6)),(4,.d A1)]
def B6h:A4:=[(2,.box 2 (.arr 4 A6))]
def C5H:I0:=[(2,B6h)]
def C00(F n:Nat):B8 B3w:=fun x K=>O7 F (fun y2=>K (.exit 0) (enc B6h (y2,()))) n x.1 x.2.1 x.2.2.1
def D8n(F:Nat):C8 D4h:=A5 [(2,⟨B3w,C00 F F⟩)]
theorem D4i(F:Nat)(fr:Frm)(hn:(D8l F).ntmps=fr.n)(n:Nat):D2 D4h f189 fr [1,0,1,0,0] B3w (C00 F n) :=
 D4 (D8n F) (A5 []) C5H rfl (D8m F) hn (m:=fun n=>C00 F n) (fun _ _=>rfl) (fun n x K=>by kernel_rfl) (B0 (by kernel_rfl)) n
theorem E8p(F:Nat):CSound prog 189 (D1i F) :=
 B3 (fn:=f189) (D8n F) (A5 []) rfl func189 (by kernel_rfl) (D8m F) (fun fr hn=>(C3 (l:=[((.loop (sub (A7 f189) [1,0,1,0,0])),⟨B3w,C00 F F⟩)]) (by kernel_rfl) (A9 (D4i F fr hn F) B6))) (fun x=>by kernel_rfl)
def D4j:Sig:=⟨[.ro,.ro],[(0,.d (.arr 4 A6)),(1,.d (.arr 4 A6))],true,none,[(.arr 4 A6),(.arr 4 A6)]⟩
def D1j(F:Nat):Contract:=C0 D4j fun x=>A8X F x.1 x.2.1
def D8o(F:Nat):Cx:=B2 [(187,D1e F),(188,D1f F),(173,C5E F),(170,C5F F),(189,D1i F)] [] (0,44)
theorem D8p(F:Nat):A8 (D8o F):=A2 (A0 (E8l F) (A0 (E8m F) (A0 (E5C F) (A0 (E5D F) (A0 (E8p F) A3)))))
def B3x:A4:=[(2,.box 2 (.arr 4 A6)),(4,.box 4 (.arr 4 A6)),(5,.box 5 (.arr 4 A6)),(6,.d A1),(7,.box 7 (.arr 4 A6))]
def B6i:A4:=[(2,.box 2 (.arr 4 A6)),(4,.box 4 (.arr 4 A6)),(5,.box 5 (.arr 4 A6))]
def C5I:I0:=[(2,B6i)]
def C01(F n:Nat):B8 B3x:=fun x K=>A1i F (fun y2 y4 y5=>K (.exit 0) (enc B6i (y2,y4,y5,()))) n x.1 x.2.1 x.2.2.1 x.2.2.2.1 x.2.2.2.2.1
def D8q(F:Nat):C8 D4j:=A5 [(5,⟨B3x,C01 F F⟩)]
theorem D4k(F:Nat)(fr:Frm)(hn:(D8o F).ntmps=fr.n)(n:Nat):D2 D4j f168 fr [1,1,1,1,0,0,0] B3x (C01 F n) :=
 D4 (D8q F) (A5 []) C5I rfl (D8p F) hn (m:=fun n=>C01 F n) (fun _ _=>rfl) (fun n x K=>by kernel_rfl) (B0 (by kernel_rfl)) n
theorem E8q(F:Nat):CSound prog 168 (D1j F) :=
 B3 (fn:=f168) (D8q F) (A5 []) rfl func168 (by kernel_rfl) (D8p F) (fun fr hn=>(C3 (l:=[((.loop (sub (A7 f168) [1,1,1,1,0,0,0])),⟨B3x,C01 F F⟩)]) (by kernel_rfl) (A9 (D4k F fr hn F) B6))) (fun x=>by kernel_rfl)
def D4l:Sig:=⟨[.ro,.ro],[(0,.d (.arr 4 A6)),(1,.d (.arr 4 A6))],true,none,[(.arr 4 A6),A6]⟩
def D1k(F:Nat):Contract:=C0 D4l fun x=>B91 F x.1 x.2.1
def D8r(F:Nat):Cx:=B2 [(161,B5I F)] [] (0,26)
theorem D8s(F:Nat):A8 (D8r F):=A2 (V7 (E0k F) A3)
def B3y:A4:=[(2,.box 2 (.arr 4 A6)),(3,.box 3 (.arr 4 A6)),(4,.box 4 (.arr 4 A6)),(5,.d A6),(7,.d A1)]
def B6j:A4:=[(4,.box 4 (.arr 4 A6)),(5,.d A6)]
def C5J:I0:=[(2,B6j)]
def C02(F n:Nat):B8 B3y:=fun x K=>A6B F (fun y4 y5=>K (.exit 0) (enc B6j (y4,y5,()))) n x.1 x.2.1 x.2.2.1 x.2.2.2.1 x.2.2.2.2.1
def D8t(F:Nat):C8 D4l:=A5 [(2,⟨B3y,C02 F F⟩)]
theorem D4m(F:Nat)(fr:Frm)(hn:(D8r F).ntmps=fr.n)(n:Nat):D2 D4l f169 fr [1,0,1,0,0] B3y (C02 F n) :=
 D4 (D8t F) (A5 []) C5J rfl (D8s F) hn (m:=fun n=>C02 F n) (fun _ _=>rfl) (fun n x K=>by kernel_rfl) (B0 (by kernel_rfl)) n
theorem E8r(F:Nat):CSound prog 169 (D1k F) :=
 B3 (fn:=f169) (D8t F) (A5 []) rfl func169 (by kernel_rfl) (D8s F) (fun fr hn=>(C3 (l:=[((.loop (sub (A7 f169) [1,0,1,0,0])),⟨B3y,C02 F F⟩)]) (by kernel_rfl) (A9 (D4m F fr hn F) B6))) (fun x=>by kernel_rfl)
def E33:Sig:=⟨[.ro,.ro],[(0,.d .bool),(1,.d (.arr 4 A6))],true,none,[tyV]⟩
def C5K(F:Nat):Contract:=C0 E33 fun x=>A2d F x.1 x.2.1
def E34(F:Nat):Cx:=B2 [(135,B1W F)] [] (0,9)
theorem E35(F:Nat):A8 (E34 F):=A2 (A0 (D8c F) A3)
theorem E5E(F:Nat):CSound prog 171 (C5K F) :=
 B3 (fn:=f171) (A5 []) (A5 []) rfl func171 (by kernel_rfl) (E35 F) (fun fr hn=>(B0 (by kernel_rfl))) (fun x=>by kernel_rfl)
def C8W:Sig:=⟨[.ro,.ro],[(0,.d tyV),(1,.d tyV)],true,none,[tyV,tyV,.bool]⟩
def D1l(F:Nat):Contract:=C0 C8W fun x=>A4F F x.1 x.2.1
def D4n(F:Nat):Cx:=B2 [(135,B1W F),(82,C5y F),(168,D1j F),(169,D1k F),(170,C5F F),(171,C5K F)] [] (0,52)
theorem D4o(F:Nat):A8 (D4n F):=A2 (A0 (D8c F) (A0 (s82 F) (A0 (E8q F) (A0 (E8r F) (A0 (E5D F) (A0 (E5E F) A3))))))
def B3z:A4:=[(2,.box 2 tyV),(3,.box 3 tyV),(4,.box 4 tyV),(5,.box 5 tyV),(7,.box 7 (.arr 4 A6)),(8,.box 8 (.arr 4 A6)),(32,.d .bool)]
def B6k:A4:=[(2,.box 2 tyV),(3,.box 3 tyV),(4,.box 4 tyV),(5,.box 5 tyV),(7,.box 7 (.arr 4 A6)),(8,.box 8 (.arr 4 A6))]
def C5L:I0:=[(0,B6k)]
def C5N(F:Nat):B8 B3z:=fun x K=>A2t F (fun y2 y3 y4 y5 y7 y8=>K .normal (enc B6k (y2,y3,y4,y5,y7,y8,()))) x.1 x.2.1 x.2.2.1 x.2.2.2.1 x.2.2.2.2.1 x.2.2.2.2.2.1 x.2.2.2.2.2.2.1
def B3A:A4:=[(2,.box 2 tyV),(3,.box 3 tyV),(4,.box 4 tyV),(5,.box 5 tyV),(7,.box 7 (.arr 4 A6)),(8,.box 8 (.arr 4 A6))]
def B0c:A4:=[(4,.box 4 tyV),(5,.box 5 tyV),(6,.d .bool)]
def C5O:I0:=[(1,B0c)]
def C5P(F:Nat):B8 B3A:=fun x K=>A2u F (fun y4 y5 y6=>K .ret (enc B0c (y4,y5,y6,()))) x.1 x.2.1 x.2.2.1 x.2.2.2.1 x.2.2.2.2.1 x.2.2.2.2.2.1
def D4p(F:Nat):C8 C8W:=A5 [(6,⟨B3z,C5N F⟩),(8,⟨B3A,C5P F⟩)]
theorem D4q(F:Nat)(fr:Frm)(hn:(D4n F).ntmps=fr.n):L9 C8W f136 fr [1,1,1,1,0,1] B3z (C5N F) :=
 N5 (A5 []) (D4p F) C5L rfl (D4o F) hn (fun x K=>by kernel_rfl) (B0 (by kernel_rfl))
theorem D4r(F:Nat)(fr:Frm)(hn:(D4n F).ntmps=fr.n):L9 C8W f136 fr [1,1,1,1,1] B3A (C5P F) :=
 N5 (A5 []) (D4p F) C5O rfl (D4o F) hn (fun x K=>by kernel_rfl) (B0 (by kernel_rfl))
theorem E8s(F:Nat):CSound prog 136 (D1l F) :=
 B3 (fn:=f136) (A5 []) (D4p F) rfl func136 (by kernel_rfl) (D4o F) (fun fr hn=>(C3 (l:=[((sub (A7 f136) [1,1,1,1,0,1]),⟨B3z,C5N F⟩),((sub (A7 f136) [1,1,1,1,1]),⟨B3A,C5P F⟩)]) (by kernel_rfl) (A9 (D4q F fr hn) (A9 (D4r F fr hn) B6)))) (fun x=>by kernel_rfl)
def E36:Sig:=⟨[.ro,.ro],[(0,.d tyV),(1,.d tyV)],true,none,[tyV]⟩
def D8u(F:Nat):Contract:=C0 E36 fun x=>A38 F x.1 x.2.1
def E5F(F:Nat):Cx:=B2 [(82,C5y F),(136,D1l F)] [] (0,23)
theorem E5G(F:Nat):A8 (E5F F):=A2 (A0 (s82 F) (A0 (E8s F) A3))
def C03:A4:=[(2,.box 2 tyV),(3,.box 3 tyV),(4,.box 4 tyV)]
def C04:A4:=[(2,.box 2 tyV),(4,.box 4 tyV)]
def C8X:I0:=[(2,C04)]
def C8Y(F n:Nat):B8 C03:=fun x K=>Q4 F (fun y2 y4=>K (.exit 0) (enc C04 (y2,y4,()))) n x.1 x.2.1 x.2.2.1
def E5H(F:Nat):C8 E36:=A5 [(2,⟨C03,C8Y F F⟩)]
theorem D8v(F:Nat)(fr:Frm)(hn:(E5F F).ntmps=fr.n)(n:Nat):D2 E36 f84 fr [1,1,0,0,0] C03 (C8Y F n) :=
 D4 (E5H F) (A5 []) C8X rfl (E5G F) hn (m:=fun n=>C8Y F n) (fun _ _=>rfl) (fun n x K=>by kernel_rfl) (B0 (by kernel_rfl)) n
theorem s84(F:Nat):CSound prog 84 (D8u F) :=
 B3 (fn:=f84) (E5H F) (A5 []) rfl func84 (by kernel_rfl) (E5G F) (fun fr hn=>(C3 (l:=[((.loop (sub (A7 f84) [1,1,0,0,0])),⟨C03,C8Y F F⟩)]) (by kernel_rfl) (A9 (D8v F fr hn F) B6))) (fun x=>by kernel_rfl)
def E8t:Sig:=⟨[.ro],[(0,.d A1)],true,none,[tyV]⟩
def D4s(F:Nat):Contract:=C0 E8t fun x=>A9W F x.1
def E8u(F:Nat):Cx:=B2 [] [] (0,14)
theorem E8v(F:Nat):A8 (E8u F):=A2 A3
theorem s85(F:Nat):CSound prog 85 (D4s F) :=
 B3 (fn:=f85) (A5 []) (A5 []) rfl func85 (by kernel_rfl) (E8v F) (fun fr hn=>(B0 (by kernel_rfl))) (fun x=>by kernel_rfl)
def E8w:Sig:=⟨[.ro],[(0,.d E4)],true,none,[.bool]⟩
def C8Z(F:Nat):Contract:=C0 E8w fun x=>A2e F x.1
def E8x(F:Nat):Cx:=B2 [(81,C5x F),(82,C5y F),(83,D8d F),(84,D8u F),(85,D4s F)] [] (0,36)
theorem E8y(F:Nat):A8 (E8x F):=A2 (A0 (s81 F) (A0 (s82 F) (A0 (s83 F) (A0 (s84 F) (A0 (s85 F) A3)))))
theorem s40(F:Nat):CSound prog 40 (C8Z F) :=
 B3 (fn:=f40) (A5 []) (A5 []) rfl func40 (by kernel_rfl) (E8y F) (fun fr hn=>(B0 (by kernel_rfl))) (fun x=>by kernel_rfl)
def E37:Sig:=⟨[.ro],[(0,.d A1)],true,none,[.bool]⟩
def D1m(F:Nat):Contract:=C0 E37 fun x=>A1P F x.1
def E38(F:Nat):Cx:=B2 [] [] (0,6)
theorem E39(F:Nat):A8 (E38 F):=A2 A3
theorem E8z(F:Nat):CSound prog 137 (D1m F) :=
 B3 (fn:=f137) (A5 []) (A5 []) rfl func137 (by kernel_rfl) (E39 F) (fun fr hn=>(B0 (by kernel_rfl))) (fun x=>by kernel_rfl)
def E8A:Sig:=⟨[.ro,.ro],[(0,.d A1),(1,.d A1)],true,none,[A1]⟩
def D8w(F:Nat):Contract:=C0 E8A fun x=>A0K F x.1 x.2.1
def E8B(F:Nat):Cx:=B2 [(137,D1m F)] [] (0,20)
theorem E8C(F:Nat):A8 (E8B F):=A2 (A0 (E8z F) A3)
theorem s87(F:Nat):CSound prog 87 (D8w F) :=
 B3 (fn:=f87) (A5 []) (A5 []) rfl func87 (by kernel_rfl) (E8C F) (fun fr hn=>(B0 (by kernel_rfl))) (fun x=>by kernel_rfl)
def E3a:Sig:=⟨[.ro],[(0,.d A1)],true,none,[E4]⟩
def D1n(F:Nat):Contract:=C0 E3a fun x=>B92 F x.1
def E3b(F:Nat):Cx:=B2 [(85,D4s F)] [] (0,7)
theorem E3c(F:Nat):A8 (E3b F):=A2 (A0 (s85 F) A3)
theorem E8D(F:Nat):CSound prog 172 (D1n F) :=
 B3 (fn:=f172) (A5 []) (A5 []) rfl func172 (by kernel_rfl) (E3c F) (fun fr hn=>(B0 (by kernel_rfl))) (fun x=>by kernel_rfl)
def E3d:Sig:=⟨[.ro],[(0,.d E4)],true,none,[E4]⟩
def D1o(F:Nat):Contract:=C0 E3d fun x=>A4G F x.1
def E3e(F:Nat):Cx:=B2 [(40,C8Z F),(172,D1n F)] [] (0,8)
theorem E3f(F:Nat):A8 (E3e F):=A2 (A0 (s40 F) (A0 (E8D F) A3))
theorem E8E(F:Nat):CSound prog 138 (D1o F) :=
 B3 (fn:=f138) (A5 []) (A5 []) rfl func138 (by kernel_rfl) (E3f F) (fun fr hn=>(B0 (by kernel_rfl))) (fun x=>by kernel_rfl)
def C90:Sig:=⟨[.ro,.ro],[(0,.d (.arr 4 A6)),(1,.d (.arr 4 A6))],true,none,[(.arr 4 A6),.bool]⟩
def D1p(F:Nat):Contract:=C0 C90 fun x=>A8Y F x.1 x.2.1
def D4t(F:Nat):Cx:={ types:=tys,call:=A4c [(160,C58 F),(161,B5I F)],own:=[],ntmps:=(0,74),cuts:=[65,66,69] }
theorem D4u(F:Nat):A8 (D4t F):=A2 (A0 (E5f F) (V7 (E0k F) A3))
def B3B:A4:=[(3,.box 3 (.arr 4 A6)),(4,.box 4 (.arr 4 A6)),(6,.box 6 (.arr 8 A6)),(7,.d A1),(8,.d A6),(9,.d A6),(16,.d (.arr 4 A6)),(17,.d A1),(21,.d (.arr 4 A6)),(22,.d A1)]
def B6l:A4:=[(3,.box 3 (.arr 4 A6)),(4,.box 4 (.arr 4 A6)),(6,.box 6 (.arr 8 A6)),(7,.d A1),(9,.d A6),(16,.d (.arr 4 A6)),(17,.d A1)]
def C5Q:I0:=[(4,B6l)]
def C05(F n:Nat):B8 B3B:=fun x K=>A1j F (fun y3 y4 y6 y7 y9 y16 y17=>K (.exit 2) (enc B6l (y3,y4,y6,y7,y9,y16,y17,()))) n x.1 x.2.1 x.2.2.1 x.2.2.2.1 x.2.2.2.2.1 x.2.2.2.2.2.1 x.2.2.2.2.2.2.1 x.2.2.2.2.2.2.2.1 x.2.2.2.2.2.2.2.2.1 x.2.2.2.2.2.2.2.2.2.1
def B3C:A4:=[(3,.box 3 (.arr 4 A6)),(4,.box 4 (.arr 4 A6)),(6,.box 6 (.arr 8 A6)),(16,.d (.arr 4 A6)),(17,.d A1)]
def B6m:A4:=[(4,.box 4 (.arr 4 A6)),(6,.box 6 (.arr 8 A6))]
def C5S:I0:=[(2,B6m)]
def C06(F n:Nat):B8 B3C:=fun x K=>A2f F (fun y4 y6=>K (.exit 0) (enc B6m (y4,y6,()))) n x.1 x.2.1 x.2.2.1 x.2.2.2.1 x.2.2.2.2.1
def D4v(F:Nat):C8 C90:=A5 [(7,⟨B3B,C05 F F⟩),(3,⟨B3C,C06 F F⟩)]
theorem D4w(F:Nat)(fr:Frm)(hn:(D4t F).ntmps=fr.n)(n:Nat):D2 C90 f191 fr [1,1,0,1,0,0,1,1,0,0,1,1,0,1,0,0] B3B (C05 F n) :=
 D4 (D4v F) (A5 []) C5Q rfl (D4u F) hn (m:=fun n=>C05 F n) (fun _ _=>rfl) (fun n x K=>by kernel_rfl) (B0 (by kernel_rfl)) n
theorem D4x(F:Nat)(fr:Frm)(hn:(D4t F).ntmps=fr.n)(n:Nat):D2 C90 f191 fr [1,1,0,1,0,0] B3C (C06 F n) :=
 D4 (D4v F) (A5 []) C5S rfl (D4u F) hn (m:=fun n=>C06 F n) (fun _ _=>rfl) (fun n x K=>by kernel_rfl) (C3 (l:=[((.loop (sub (A7 f191) [1,1,0,1,0,0,1,1,0,0,1,1,0,1,0,0])),⟨B3B,C05 F F⟩)]) (by kernel_rfl) (A9 (D4w F fr hn F) B6)) n
theorem E8F(F:Nat):CSound prog 191 (D1p F) :=
 B3 (fn:=f191) (D4v F) (A5 []) rfl func191 (by kernel_rfl) (D4u F) (fun fr hn=>(C3 (l:=[((.loop (sub (A7 f191) [1,1,0,1,0,0])),⟨B3C,C06 F F⟩)]) (by kernel_rfl) (A9 (D4x F fr hn F) B6))) (fun x=>by kernel_rfl)
def E3g:Sig:=⟨[.ro,.ro],[(0,.d tyV),(1,.d tyV)],true,none,[tyV,.bool]⟩
def D1q(F:Nat):Contract:=C0 E3g fun x=>A8Z F x.1 x.2.1
def E3h(F:Nat):Cx:=B2 [(135,B1W F),(191,D1p F),(171,C5K F)] [] (0,30)
theorem E3i(F:Nat):A8 (E3h F):=A2 (A0 (D8c F) (A0 (E8F F) (A0 (E5E F) A3)))
theorem E8G(F:Nat):CSound prog 174 (D1q F) :=
 B3 (fn:=f174) (A5 []) (A5 []) rfl func174 (by kernel_rfl) (E3i F) (fun fr hn=>(B0 (by kernel_rfl))) (fun x=>by kernel_rfl)
def E3j:Sig:=⟨[.ro,.ro],[(0,.d tyV),(1,.d tyV)],true,none,[tyV]⟩
def D1r(F:Nat):Contract:=C0 E3j fun x=>A39 F x.1 x.2.1
def E3k(F:Nat):Cx:=B2 [(174,D1q F)] [] (0,14)
theorem E3l(F:Nat):A8 (E3k F):=A2 (A0 (E8G F) A3)
theorem E8H(F:Nat):CSound prog 140 (D1r F) :=
 B3 (fn:=f140) (A5 []) (A5 []) rfl func140 (by kernel_rfl) (E3l F) (fun fr hn=>(B0 (by kernel_rfl))) (fun x=>by kernel_rfl)
def C91:Sig:=⟨[.ro,.ro],[(0,.d tyV),(1,.d tyV)],true,none,[A1]⟩
def D1s(F:Nat):Contract:=C0 C91 fun x=>A3S F x.1 x.2.1
def D4y(F:Nat):Cx:=B2 [(135,B1W F),(173,C5E F)] [] (0,32)
theorem D4z(F:Nat):A8 (D4y F):=A2 (A0 (D8c F) (A0 (E5C F) A3))
def B3D:A4:=[(2,.box 2 tyV),(3,.box 3 tyV),(9,.d .bool)]
def B6n:A4:=[(2,.box 2 tyV),(3,.box 3 tyV)]
def B0d:A4:=[(4,.d A1)]
def C5T:I0:=[(0,B6n),(1,B0d)]
def C5U(F:Nat):B8 B3D:=fun x K=>A1Q F (fun y2 y3=>K .normal (enc B6n (y2,y3,()))) (fun y4=>K .ret (enc B0d (y4,()))) x.1 x.2.1 x.2.2.1
def B3E:A4:=[(2,.box 2 tyV),(3,.box 3 tyV)]
def B0e:A4:=[(4,.d A1)]
def C5V:I0:=[(1,B0e)]
def C5W(F:Nat):B8 B3E:=fun x K=>A1S F (fun y4=>K .ret (enc B0e (y4,()))) x.1 x.2.1
def D4A(F:Nat):C8 C91:=A5 [(3,⟨B3D,C5U F⟩),(8,⟨B3E,C5W F⟩)]
theorem D4B(F:Nat)(fr:Frm)(hn:(D4y F).ntmps=fr.n):L9 C91 f139 fr [1,1,0,0,1] B3D (C5U F) :=
 N5 (A5 []) (D4A F) C5T rfl (D4z F) hn (fun x K=>by kernel_rfl) (B0 (by kernel_rfl))
theorem D4C(F:Nat)(fr:Frm)(hn:(D4y F).ntmps=fr.n):L9 C91 f139 fr [1,1,1] B3E (C5W F) :=
 N5 (A5 []) (D4A F) C5V rfl (D4z F) hn (fun x K=>by kernel_rfl) (B0 (by kernel_rfl))
theorem E8I(F:Nat):CSound prog 139 (D1s F) :=
 B3 (fn:=f139) (A5 []) (D4A F) rfl func139 (by kernel_rfl) (D4z F) (fun fr hn=>(C3 (l:=[((sub (A7 f139) [1,1,0,0,1]),⟨B3D,C5U F⟩),((sub (A7 f139) [1,1,1]),⟨B3E,C5W F⟩)]) (by kernel_rfl) (A9 (D4B F fr hn) (A9 (D4C F fr hn) B6)))) (fun x=>by kernel_rfl)
def E8J:Sig:=⟨[.ro,.ro],[(0,.d E4),(1,.d E4)],true,none,[A1]⟩
def D8x(F:Nat):Contract:=C0 E8J fun x=>A3a F x.1 x.2.1
def E8K(F:Nat):Cx:=B2 [(138,D1o F),(140,D1r F),(139,D1s F)] [] (0,20)
theorem E8L(F:Nat):A8 (E8K F):=A2 (A0 (E8E F) (A0 (E8H F) (A0 (E8I F) A3)))
theorem s88(F:Nat):CSound prog 88 (D8x F) :=
 B3 (fn:=f88) (A5 []) (A5 []) rfl func88 (by kernel_rfl) (E8L F) (fun fr hn=>(B0 (by kernel_rfl))) (fun x=>by kernel_rfl)
def E8N:Sig:=⟨[.ro,.ro],[(0,.d D5),(1,.d D5)],true,none,[A1]⟩
def D8y(F:Nat):Contract:=C0 E8N fun x=>A19 F x.1 x.2.1
def E8O(F:Nat):Cx:=B2 [(87,D8w F),(88,D8x F),(86,D4e F)] [] (0,17)
theorem E8P(F:Nat):A8 (E8O F):=A2 (A0 (s87 F) (A0 (s88 F) (A0 (s86 F) A3)))
theorem s41(F:Nat):CSound prog 41 (D8y F) :=
 B3 (fn:=f41) (A5 []) (A5 []) rfl func41 (by kernel_rfl) (E8P F) (fun fr hn=>(B0 (by kernel_rfl))) (fun x=>by kernel_rfl)
def D5Z:Sig:=⟨[.ro],[(0,.d (.slice D5))],true,none,[A1]⟩
def C92(F:Nat):Contract:=C0 D5Z fun x=>A07 F x.1
def E0q(F:Nat):Cx:=B2 [(39,D8a F),(40,C8Z F),(41,D8y F)] [] (0,84)
theorem E0r(F:Nat):A8 (E0q F):=A2 (A0 (s39 F) (A0 (s40 F) (A0 (s41 F) A3)))
def B3F:A4:=[(0,.d (.slice D5)),(3,.box 3 (.arr 4096 .bool)),(5,.box 5 D5),(16,.d (.slice D5)),(17,.d A1),(18,.d A1),(48,.d G1),(49,.d A1),(50,.d A1)]
def B6o:A4:=[(0,.d (.slice D5)),(3,.box 3 (.arr 4096 .bool)),(16,.d (.slice D5)),(17,.d A1),(18,.d A1)]
def B0f:A4:=[(2,.d A1)]
def C5X:I0:=[(4,B6o),(1,B0f)]
def C07(F n:Nat):B8 B3F:=fun x K=>L0 F (fun y0 y3 y16 y17 y18=>K (.exit 2) (enc B6o (y0,y3,y16,y17,y18,()))) (fun y2=>K .ret (enc B0f (y2,()))) n x.1 x.2.1 x.2.2.1 x.2.2.2.1 x.2.2.2.2.1 x.2.2.2.2.2.1 x.2.2.2.2.2.2.1 x.2.2.2.2.2.2.2.1 x.2.2.2.2.2.2.2.2.1
def C08:A4:=[(0,.d (.slice D5)),(3,.box 3 (.arr 4096 .bool)),(5,.box 5 D5),(16,.d (.slice D5)),(17,.d A1),(18,.d A1)]
def C09:A4:=[(0,.d (.slice D5)),(3,.box 3 (.arr 4096 .bool)),(16,.d (.slice D5)),(17,.d A1),(18,.d A1)]
def B1Y:A4:=[(2,.d A1)]
def C93:I0:=[(0,C09),(1,B1Y)]
def D4D(F:Nat):B8 C08:=fun x K=>X5 F (fun y0 y3 y16 y17 y18=>K .normal (enc C09 (y0,y3,y16,y17,y18,()))) (fun y2=>K .ret (enc B1Y (y2,()))) x.1 x.2.1 x.2.2.1 x.2.2.2.1 x.2.2.2.2.1 x.2.2.2.2.2.1
def C0a:A4:=[(0,.d (.slice D5)),(3,.box 3 (.arr 4096 .bool)),(16,.d (.slice D5)),(17,.d A1),(18,.d A1)]
def C0b:A4:=[]
def B1Z:A4:=[(2,.d A1)]
def C94:I0:=[(2,C0b),(1,B1Z)]
def C95(F n:Nat):B8 C0a:=fun x K=>H4 F (K (.exit 0) (enc C0b (()))) (fun y2=>K .ret (enc B1Z (y2,()))) n x.1 x.2.1 x.2.2.1 x.2.2.2.1 x.2.2.2.2.1
def E0s(F:Nat):C8 D5Z:=A5 [(10,⟨B3F,C07 F F⟩),(5,⟨C0a,C95 F F⟩)]
def E0t(F:Nat):C8 D5Z:=A5 [(9,⟨C08,D4D F⟩)]
theorem D4E(F:Nat)(fr:Frm)(hn:(E0q F).ntmps=fr.n)(n:Nat):D2 D5Z f13 fr [1,1,1,0,1,0,0,1,1,0,0,1,1,1,0,0] B3F (C07 F n) :=
 D4 (E0s F) (E0t F) C5X rfl (E0r F) hn (m:=fun n=>C07 F n) (fun _ _=>rfl) (fun n x K=>by kernel_rfl) (B0 (by kernel_rfl)) n
theorem D8z(F:Nat)(fr:Frm)(hn:(E0q F).ntmps=fr.n):L9 D5Z f13 fr [1,1,1,0,1,0,0,1,1,0,0,1,1] C08 (D4D F) :=
 N5 (E0s F) (E0t F) C93 rfl (E0r F) hn (fun x K=>by kernel_rfl) (C3 (l:=[((.loop (sub (A7 f13) [1,1,1,0,1,0,0,1,1,0,0,1,1,1,0,0])),⟨B3F,C07 F F⟩)]) (by kernel_rfl) (A9 (D4E F fr hn F) B6))
theorem D8A(F:Nat)(fr:Frm)(hn:(E0q F).ntmps=fr.n)(n:Nat):D2 D5Z f13 fr [1,1,1,0,1,0,0] C0a (C95 F n) :=
 D4 (E0s F) (E0t F) C94 rfl (E0r F) hn (m:=fun n=>C95 F n) (fun _ _=>rfl) (fun n x K=>by kernel_rfl) (C3 (l:=[((sub (A7 f13) [1,1,1,0,1,0,0,1,1,0,0,1,1]),⟨C08,D4D F⟩)]) (by kernel_rfl) (A9 (D8z F fr hn) B6)) n
theorem s13(F:Nat):CSound prog 13 (C92 F) :=
 B3 (fn:=f13) (E0s F) (E0t F) rfl func13 (by kernel_rfl) (E0r F) (fun fr hn=>(C3 (l:=[((.loop (sub (A7 f13) [1,1,1,0,1,0,0])),⟨C0a,C95 F F⟩)]) (by kernel_rfl) (A9 (D8A F fr hn F) B6))) (fun x=>by kernel_rfl)
def E3m:Sig:=A6b A1 false (some (0,2)) [G1]
def D1t(F:Nat):Contract:=C0 E3m fun x=>A0e F x.1
def D8B(F:Nat):Cx:={ types:=tys,call:=A4c [],own:=[2,5],ntmps:=(0,8),nils:=[3] }
theorem E3n(F:Nat):A8 (D8B F):=A2 A3
theorem E8Q(F:Nat):CSound prog 124 (D1t F) :=
 A8o (fn:=f124) (code:=(A7 f124)) (cx:=D8B F) (hs:=A5 []) (js:=A5 []) func124 (by kernel_rfl) (by kernel_rfl) (H1 _ rfl) (E3n F) mix (by kernel_rfl) (by kernel_rfl) (fun fr hn=>(B0 (by kernel_rfl))) (fun a l=>by kernel_rfl) (by kernel_rfl) (by kernel_rfl)
def E3o:Sig:=⟨[.ro,.ro],[(0,.d A1),(1,.d A1)],true,none,[A6]⟩
def D1u(F:Nat):Contract:=C0 E3o fun x=>A5a F x.1 x.2.1
def E3p(F:Nat):Cx:=B2 [] [] (0,10)
theorem E3q(F:Nat):A8 (E3p F):=A2 A3
theorem E8S(F:Nat):CSound prog 165 (D1u F) :=
 B3 (fn:=f165) (A5 []) (A5 []) rfl func165 (by kernel_rfl) (E3q F) (fun fr hn=>(B0 (by kernel_rfl))) (fun x=>by kernel_rfl)
def D4F:Sig:=⟨[.wr 2],[(0,.own 0 A1 2)],false,none,[G1]⟩
def D1v(F:Nat):Contract:=C0 D4F fun x=>X0 F x.1
def D8C(F:Nat):Cx:=B2 [(165,D1u F)] [] (1,24)
theorem D8D(F:Nat):A8 (D8C F):=A2 (A0 (E8S F) A3)
def B3G:A4:=[(0,.own 0 A1 2),(2,.d A1)]
def B6p:A4:=[(0,.own 0 A1 2)]
def C5Y:I0:=[(2,B6p)]
def C0c(F n:Nat):B8 B3G:=fun x K=>H0 F (fun y0=>K (.exit 0) (enc B6p (y0,()))) n x.1 x.2.1
def D8E(F:Nat):C8 D4F:=A5 [(1,⟨B3G,C0c F F⟩)]
theorem D4G(F:Nat)(fr:Frm)(hn:(D8C F).ntmps=fr.n)(n:Nat):D2 D4F f126 fr [1,0,0] B3G (C0c F n) :=
 D4 (D8E F) (A5 []) C5Y rfl (D8D F) hn (m:=fun n=>C0c F n) (fun _ _=>rfl) (fun n x K=>by kernel_rfl) (B0 (by kernel_rfl)) n
theorem E8T(F:Nat):CSound prog 126 (D1v F) :=
 B3 (fn:=f126) (D8E F) (A5 []) rfl func126 (by kernel_rfl) (D8D F) (fun fr hn=>(C3 (l:=[((.loop (sub (A7 f126) [1,0,0])),⟨B3G,C0c F F⟩)]) (by kernel_rfl) (A9 (D4G F fr hn F) B6))) (fun x=>by kernel_rfl)
def E3r:Sig:=⟨[.ro,.ro],[(0,.d A1),(1,.d A6)],true,none,[A1]⟩
def D1w(F:Nat):Contract:=C0 E3r fun x=>A7i F x.1 x.2.1
def E3s(F:Nat):Cx:=B2 [] [] (0,10)
theorem E3t(F:Nat):A8 (E3s F):=A2 A3
theorem E8U(F:Nat):CSound prog 180 (D1w F) :=
 B3 (fn:=f180) (A5 []) (A5 []) rfl func180 (by kernel_rfl) (E3t F) (fun fr hn=>(B0 (by kernel_rfl))) (fun x=>by kernel_rfl)
def D4H:Sig:=⟨[.wr 2],[(0,.own 0 A1 2)],false,none,[G1]⟩
def D1x(F:Nat):Contract:=C0 D4H fun x=>A7j F x.1
def D8F(F:Nat):Cx:=B2 [(180,D1w F)] [] (1,23)
theorem D8G(F:Nat):A8 (D8F F):=A2 (A0 (E8U F) A3)
def B3H:A4:=[(0,.own 0 A1 2),(2,.d A1)]
def B6q:A4:=[(0,.own 0 A1 2)]
def C5Z:I0:=[(2,B6q)]
def C0d(F n:Nat):B8 B3H:=fun x K=>A2P F (fun y0=>K (.exit 0) (enc B6q (y0,()))) n x.1 x.2.1
def D8H(F:Nat):C8 D4H:=A5 [(1,⟨B3H,C0d F F⟩)]
theorem D4I(F:Nat)(fr:Frm)(hn:(D8F F).ntmps=fr.n)(n:Nat):D2 D4H f150 fr [1,0,0] B3H (C0d F n) :=
 D4 (D8H F) (A5 []) C5Z rfl (D8G F) hn (m:=fun n=>C0d F n) (fun _ _=>rfl) (fun n x K=>by kernel_rfl) (B0 (by kernel_rfl)) n
theorem E8V(F:Nat):CSound prog 150 (D1x F) :=
 B3 (fn:=f150) (D8H F) (A5 []) rfl func150 (by kernel_rfl) (D8G F) (fun fr hn=>(C3 (l:=[((.loop (sub (A7 f150) [1,0,0])),⟨B3H,C0d F F⟩)]) (by kernel_rfl) (A9 (D4I F fr hn F) B6))) (fun x=>by kernel_rfl)
def C0e:Sig:=⟨[.wr 2,.ro,.ro],[(0,.own 0 A1 2),(1,.d A1),(2,.fn 126)],false,none,[G1]⟩
def C60(F:Nat):Contract:=C0 C0e fun x=>A2Q F x.1 x.2.1
def D1y(F:Nat):Cx:=B2 [(126,D1v F)] [] (1,13)
theorem D1z(F:Nat):A8 (D1y F):=A2 (A0 (E8T F) A3)
def A98:A4:=[(0,.own 0 A1 2),(2,.fn 126),(6,.d A1),(7,.d A1)]
def B20:A4:=[(0,.own 0 A1 2)]
def C2V:I0:=[(2,B20)]
def B3I(F n:Nat):B8 A98:=fun x K=>N8 F (fun y0=>K (.exit 0) (enc B20 (y0,()))) n x.1 x.2.2.1 x.2.2.2.1
def D1A(F:Nat):C8 C0e:=A5 [(1,⟨A98,B3I F F⟩)]
def D1B(F:Nat):C8 C0e:=A5 []
theorem C96(F:Nat)(fr:Frm)(hn:(D1y F).ntmps=fr.n)(n:Nat):D2 C0e f125 fr [1,0,0] A98 (B3I F n) :=
 D4 (D1A F) (D1B F) C2V rfl (D1z F) hn (m:=fun n=>B3I F n) (fun _ _=>rfl) (fun n x K=>by kernel_rfl) (B0 (by kernel_rfl)) n
theorem E3u(F:Nat):CSound prog 125 (C60 F) :=
 B3 (fn:=f125) (D1A F) (D1B F) rfl func125 (by kernel_rfl) (D1z F) (fun fr hn=>(C3 (l:=[((.loop (sub (A7 f125) [1,0,0])),⟨A98,B3I F F⟩)]) (by kernel_rfl) (A9 (C96 F fr hn F) B6))) (fun x=>by kernel_rfl)
def C0f:Sig:=⟨[.wr 2,.ro,.ro],[(0,.own 0 A1 2),(1,.d A1),(2,.fn 150)],false,none,[G1]⟩
def C61(F:Nat):Contract:=C0 C0f fun x=>A02 F x.1 x.2.1
def D1C(F:Nat):Cx:=B2 [(150,D1x F)] [] (1,13)
theorem D1D(F:Nat):A8 (D1C F):=A2 (A0 (E8V F) A3)
def A99:A4:=[(0,.own 0 A1 2),(2,.fn 150),(6,.d A1),(7,.d A1)]
def B21:A4:=[(0,.own 0 A1 2)]
def C2W:I0:=[(2,B21)]
def B3J(F n:Nat):B8 A99:=fun x K=>A1k F (fun y0=>K (.exit 0) (enc B21 (y0,()))) n x.1 x.2.2.1 x.2.2.2.1
def D1E(F:Nat):C8 C0f:=A5 [(1,⟨A99,B3J F F⟩)]
def D1F(F:Nat):C8 C0f:=A5 []
theorem C97(F:Nat)(fr:Frm)(hn:(D1C F).ntmps=fr.n)(n:Nat):D2 C0f f125 fr [1,0,0] A99 (B3J F n) :=
 D4 (D1E F) (D1F F) C2W rfl (D1D F) hn (m:=fun n=>B3J F n) (fun _ _=>rfl) (fun n x K=>by kernel_rfl) (B0 (by kernel_rfl)) n
theorem E3v(F:Nat):CSound prog 125 (C61 F) :=
 B3 (fn:=f125) (D1E F) (D1F F) rfl func125 (by kernel_rfl) (D1D F) (fun fr hn=>(C3 (l:=[((.loop (sub (A7 f125) [1,0,0])),⟨A99,B3J F F⟩)]) (by kernel_rfl) (A9 (C97 F fr hn F) B6))) (fun x=>by kernel_rfl)
def E3w:Sig:=⟨[.ro],[(0,.d A1)],true,none,[A6]⟩
def D1G(F:Nat):Contract:=C0 E3w fun x=>A3b F x.1
def E3x(F:Nat):Cx:=B2 [] [] (0,10)
theorem E3y(F:Nat):A8 (E3x F):=A2 A3
theorem E8W(F:Nat):CSound prog 127 (D1G F) :=
 B3 (fn:=f127) (A5 []) (A5 []) rfl func127 (by kernel_rfl) (E3y F) (fun fr hn=>(B0 (by kernel_rfl))) (fun x=>by kernel_rfl)
def E3z:Sig:=⟨[.ro,.ro],[(0,.d G1),(1,.d A1)],false,some (0,49),[C1,.bool]⟩
def D8I(F:Nat):Contract:=C0 E3z fun x=>P7 F x.1 x.2.1
def E5I(F:Nat):Cx:=B2 [(124,D1t F),(125,C60 F),(127,D1G F)] [4,17,23] (0,38)
theorem E5J(F:Nat):A8 (E5I F):=A2 (A0 (E8Q F) (A0 (E3u F) (A0 (E8W F) A3)))
def C0g:A4:=[(7,.own 7 A6 49),(24,.own 24 A1 2),(25,.d A1),(26,.d A1)]
def C0h:A4:=[(7,.own 7 A6 49)]
def C98:I0:=[(2,C0h)]
def C99(F n:Nat):B8 C0g:=fun x K=>K1 F (fun y7=>K (.exit 0) (enc C0h (y7,()))) n x.1 x.2.1 x.2.2.1 x.2.2.2.1
def E5K(F:Nat):C8 E3z:=A5 [(7,⟨C0g,C99 F F⟩)]
theorem D8J(F:Nat)(fr:Frm)(hn:(E5I F).ntmps=fr.n)(n:Nat):D2 E3z f71 fr [1,1,1,1,1,0,1,0,0] C0g (C99 F n) :=
 D4 (E5K F) (A5 []) C98 rfl (E5J F) hn (m:=fun n=>C99 F n) (fun _ _=>rfl) (fun n x K=>by kernel_rfl) (B0 (by kernel_rfl)) n
theorem s71(F:Nat):CSound prog 71 (D8I F) :=
 B3 (fn:=f71) (E5K F) (A5 []) rfl func71 (by kernel_rfl) (E5J F) (fun fr hn=>(C3 (l:=[((.loop (sub (A7 f71) [1,1,1,1,1,0,1,0,0])),⟨C0g,C99 F F⟩)]) (by kernel_rfl) (A9 (D8J F fr hn F) B6))) (fun x=>by kernel_rfl)
def E3A:Sig:=⟨[.ro],[(0,.d A6)],true,none,[A1]⟩
def D1H(F:Nat):Contract:=C0 E3A fun x=>A4H F x.1
def E3B(F:Nat):Cx:=B2 [(166,B1C F)] [] (0,8)
theorem E3C(F:Nat):A8 (E3B F):=A2 (A0 (D79 F) A3)
theorem E8X(F:Nat):CSound prog 128 (D1H F) :=
 B3 (fn:=f128) (A5 []) (A5 []) rfl func128 (by kernel_rfl) (E3C F) (fun fr hn=>(B0 (by kernel_rfl))) (fun x=>by kernel_rfl)
def D4J:Sig:=⟨[.ro],[(0,.d C1)],true,none,[A1]⟩
def C62(F:Nat):Contract:=C0 D4J fun x=>A3c F x.1
def D8K(F:Nat):Cx:=B2 [(166,B1C F)] [] (0,18)
theorem D8L(F:Nat):A8 (D8K F):=A2 (A0 (D79 F) A3)
def B3K:A4:=[(3,.d A6),(6,.d C1),(7,.d A1),(8,.d A1)]
def B6r:A4:=[(3,.d A6)]
def C63:I0:=[(2,B6r)]
def C0i(F n:Nat):B8 B3K:=fun x K=>U4 F (fun y3=>K (.exit 0) (enc B6r (y3,()))) n x.1 x.2.1 x.2.2.1 x.2.2.2.1
def D8N(F:Nat):C8 D4J:=A5 [(3,⟨B3K,C0i F F⟩)]
theorem D4K(F:Nat)(fr:Frm)(hn:(D8K F).ntmps=fr.n)(n:Nat):D2 D4J f129 fr [1,1,0,1,0,0] B3K (C0i F n) :=
 D4 (D8N F) (A5 []) C63 rfl (D8L F) hn (m:=fun n=>C0i F n) (fun _ _=>rfl) (fun n x K=>by kernel_rfl) (B0 (by kernel_rfl)) n
theorem E5L(F:Nat):CSound prog 129 (C62 F) :=
 B3 (fn:=f129) (D8N F) (A5 []) rfl func129 (by kernel_rfl) (D8L F) (fun fr hn=>(C3 (l:=[((.loop (sub (A7 f129) [1,1,0,1,0,0])),⟨B3K,C0i F F⟩)]) (by kernel_rfl) (A9 (D4K F fr hn F) B6))) (fun x=>by kernel_rfl)
def E3D:Sig:=⟨[.ro,.ro],[(0,.d A1),(1,.d A1)],true,none,[A1]⟩
def C0j(F:Nat):Contract:=C0 E3D fun x=>A0L F x.1 x.2.1
def E3E(F:Nat):Cx:=B2 [] [] (0,24)
theorem E3F(F:Nat):A8 (E3E F):=A2 A3
theorem E3G(F:Nat):CSound prog 152 (C0j F) :=
 B3 (fn:=f152) (A5 []) (A5 []) rfl func152 (by kernel_rfl) (E3F F) (fun fr hn=>(B0 (by kernel_rfl))) (fun x=>by kernel_rfl)
def C9a:Sig:=⟨[.ro,.ro],[(0,.d C1),(1,.d A1)],false,some (0,5),[C6,.bool]⟩
def D1I(F:Nat):Contract:=C0 C9a fun x=>A3T F x.1 x.2.1
def D4L(F:Nat):Cx:=B2 [(152,C0j F),(129,C62 F)] [4,26] (0,64)
theorem D4N(F:Nat):A8 (D4L F):=A2 (A0 (E3G F) (A0 (E5L F) A3))
def A9a:A4:=[(1,.d A1),(7,.own 7 I6 5),(8,.d A1),(10,.d A6),(11,.d A1),(27,.d C1),(28,.d A1),(29,.d A1)]
def B22:A4:=[(1,.d A1),(7,.own 7 I6 5),(8,.d A1),(27,.d C1),(28,.d A1),(29,.d A1)]
def C2X:I0:=[(4,B22)]
def B3L(F n:Nat):B8 A9a:=fun x K=>Q5 F (fun y1 y7 y8 y27 y28 y29=>K (.exit 2) (enc B22 (y1,y7,y8,y27,y28,y29,()))) n x.1 x.2.1 x.2.2.1 x.2.2.2.1 x.2.2.2.2.1 x.2.2.2.2.2.1 x.2.2.2.2.2.2.1 x.2.2.2.2.2.2.2.1
def B3N:A4:=[(1,.d A1),(7,.own 7 I6 5),(8,.d A1),(27,.d C1),(28,.d A1),(29,.d A1)]
def B6s:A4:=[(7,.own 7 I6 5)]
def C64:I0:=[(2,B6s)]
def C0k(F n:Nat):B8 B3N:=fun x K=>T4 F (fun y7=>K (.exit 0) (enc B6s (y7,()))) n x.1 x.2.1 x.2.2.1 x.2.2.2.1 x.2.2.2.2.1 x.2.2.2.2.2.1
def D4O(F:Nat):C8 C9a:=A5 [(10,⟨A9a,B3L F F⟩),(7,⟨B3N,C0k F F⟩)]
theorem C9b(F:Nat)(fr:Frm)(hn:(D4L F).ntmps=fr.n)(n:Nat):D2 C9a f130 fr [1,1,1,1,1,0,1,0,0,1,1,0,0,1,1,0,0] A9a (B3L F n) :=
 D4 (D4O F) (A5 []) C2X rfl (D4N F) hn (m:=fun n=>B3L F n) (fun _ _=>rfl) (fun n x K=>by kernel_rfl) (B0 (by kernel_rfl)) n
theorem D4P(F:Nat)(fr:Frm)(hn:(D4L F).ntmps=fr.n)(n:Nat):D2 C9a f130 fr [1,1,1,1,1,0,1,0,0] B3N (C0k F n) :=
 D4 (D4O F) (A5 []) C64 rfl (D4N F) hn (m:=fun n=>C0k F n) (fun _ _=>rfl) (fun n x K=>by kernel_rfl) (C3 (l:=[((.loop (sub (A7 f130) [1,1,1,1,1,0,1,0,0,1,1,0,0,1,1,0,0])),⟨A9a,B3L F F⟩)]) (by kernel_rfl) (A9 (C9b F fr hn F) B6)) n
theorem E8Y(F:Nat):CSound prog 130 (D1I F) :=
 B3 (fn:=f130) (D4O F) (A5 []) rfl func130 (by kernel_rfl) (D4N F) (fun fr hn=>(C3 (l:=[((.loop (sub (A7 f130) [1,1,1,1,1,0,1,0,0])),⟨B3N,C0k F F⟩)]) (by kernel_rfl) (A9 (D4P F fr hn F) B6))) (fun x=>by kernel_rfl)
def E8Z:Sig:=A6b I6 false (some (0,5)) [C6]
def D4Q(F:Nat):Contract:=C0 E8Z fun x=>X6 F x.1
def E5N(F:Nat):Cx:={ types:=tys,call:=A4c [],own:=[2,5],ntmps:=(0,8),nils:=[3] }
theorem E90(F:Nat):A8 (E5N F):=A2 A3
theorem s74(F:Nat):CSound prog 74 (D4Q F) :=
 A8o (fn:=f74) (code:=(A7 f74)) (cx:=E5N F) (hs:=A5 []) (js:=A5 []) func74 (by kernel_rfl) (by kernel_rfl) (H1 _ rfl) (E90 F) mix (by kernel_rfl) (by kernel_rfl) (fun fr hn=>(B0 (by kernel_rfl))) (fun a l=>by kernel_rfl) (by kernel_rfl) (by kernel_rfl)
def E3H:Sig:=⟨[.ro,.ro],[(0,.d C6),(1,.d A6)],false,some (0,5),[C6]⟩
def D4S(F:Nat):Contract:=C0 E3H fun x=>A1T F x.1 x.2.1
def E5O(F:Nat):Cx:=B2 [(74,D4Q F),(73,D2L F)] [4,7,8] (0,24)
theorem E5P(F:Nat):A8 (E5O F):=A2 (A0 (s74 F) (A0 (s73 F) A3))
def C0l:A4:=[(1,.d A6),(5,.own 5 I6 5)]
def C0m:A4:=[(1,.d A6),(5,.own 5 I6 5)]
def C9c:I0:=[(2,C0m)]
def C9d(F n:Nat):B8 C0l:=fun x K=>U5 F (fun y1 y5=>K (.exit 0) (enc C0m (y1,y5,()))) n x.1 x.2.1
def E5Q(F:Nat):C8 E3H:=A5 [(2,⟨C0l,C9d F F⟩)]
theorem D8O(F:Nat)(fr:Frm)(hn:(E5O F).ntmps=fr.n)(n:Nat):D2 E3H f31 fr [1,1,0,0,0] C0l (C9d F n) :=
 D4 (E5Q F) (A5 []) C9c rfl (E5P F) hn (m:=fun n=>C9d F n) (fun _ _=>rfl) (fun n x K=>by kernel_rfl) (B0 (by kernel_rfl)) n
theorem s31(F:Nat):CSound prog 31 (D4S F) :=
 B3 (fn:=f31) (E5Q F) (A5 []) rfl func31 (by kernel_rfl) (E5P F) (fun fr hn=>(C3 (l:=[((.loop (sub (A7 f31) [1,1,0,0,0])),⟨C0l,C9d F F⟩)]) (by kernel_rfl) (A9 (D8O F fr hn F) B6))) (fun x=>by kernel_rfl)
def E0u:Sig:=⟨[.ro],[(0,.d C1)],false,some (0,5),[C6,A1]⟩
def C9e(F:Nat):Contract:=C0 E0u fun x=>E8 F x.1
def E3I(F:Nat):Cx:=B2 [(128,D1H F),(129,C62 F),(130,D1I F),(31,D4S F)] [2,42,46] (0,59)
theorem E3J(F:Nat):A8 (E3I F):=A2 (A0 (E8X F) (A0 (E5L F) (A0 (E8Y F) (A0 (s31 F) A3))))
def C0n:A4:=[(0,.d C1),(4,.d A1),(16,.d C1),(17,.d A1),(18,.d A1)]
def C0o:A4:=[(0,.d C1),(4,.d A1)]
def C9f:I0:=[(2,C0o)]
def C9g(F n:Nat):B8 C0n:=fun x K=>T0 F (fun y0 y4=>K (.exit 0) (enc C0o (y0,y4,()))) n x.1 x.2.1 x.2.2.1 x.2.2.2.1 x.2.2.2.2.1
def B3O:A4:=[(10,.own 10 I6 5),(47,.d C1),(48,.d A1),(49,.d A1)]
def B6t:A4:=[(10,.own 10 I6 5)]
def C65:I0:=[(4,B6t)]
def C0p(F n:Nat):B8 B3O:=fun x K=>P8 F (fun y10=>K (.exit 2) (enc B6t (y10,()))) n x.1 x.2.1 x.2.2.1 x.2.2.2.1
def E3K(F:Nat):C8 E0u:=A5 [(5,⟨C0n,C9g F F⟩),(15,⟨B3O,C0p F F⟩)]
theorem D8P(F:Nat)(fr:Frm)(hn:(E3I F).ntmps=fr.n)(n:Nat):D2 E0u f72 fr [1,1,1,0,1,0,0] C0n (C9g F n) :=
 D4 (E3K F) (A5 []) C9f rfl (E3J F) hn (m:=fun n=>C9g F n) (fun _ _=>rfl) (fun n x K=>by kernel_rfl) (B0 (by kernel_rfl)) n
theorem D4T(F:Nat)(fr:Frm)(hn:(E3I F).ntmps=fr.n)(n:Nat):D2 E0u f72 fr [1,1,1,1,1,1,1,1,0,1,0,0] B3O (C0p F n) :=
 D4 (E3K F) (A5 []) C65 rfl (E3J F) hn (m:=fun n=>C0p F n) (fun _ _=>rfl) (fun n x K=>by kernel_rfl) (B0 (by kernel_rfl)) n
theorem s72(F:Nat):CSound prog 72 (C9e F) :=
 B3 (fn:=f72) (E3K F) (A5 []) rfl func72 (by kernel_rfl) (E3J F) (fun fr hn=>(C3 (l:=[((.loop (sub (A7 f72) [1,1,1,0,1,0,0])),⟨C0n,C9g F F⟩),((.loop (sub (A7 f72) [1,1,1,1,1,1,1,1,0,1,0,0])),⟨B3O,C0p F F⟩)]) (by kernel_rfl) (A9 (D8P F fr hn F) (A9 (D4T F fr hn F) B6)))) (fun x=>by kernel_rfl)
def E3L:Sig:=⟨[.ro],[(0,.d G1)],false,some (0,5),[C6,A1]⟩
def D4U(F:Nat):Contract:=C0 E3L fun x=>P0 F x.1
def E3N(F:Nat):Cx:={ types:=tys,call:=A4c [(71,D8I F),(72,C9e F)],own:=[2,4,39],ntmps:=(0,44),nils:=[4,27] }
theorem E5S(F:Nat):A8 (E3N F):=A2 (A0 (s71 F) (A0 (s72 F) A3))
def D8Q:A4:=[(0,.d G1),(4,.own 4 I6 5),(10,.d A1)]
def B3P:A4:=[(4,.own 4 I6 5)]
def A80:A4:=[(2,.own 2 I6 5),(3,.d A1)]
def C9h:I0:=[(2,B3P),(1,A80)]
def E3O(F n:Nat):B8 D8Q:=fun x K=>G9 F (fun y4=>K (.exit 0) (enc B3P (y4,()))) (fun y2 y3=>K .ret (enc A80 (y2,y3,()))) n x.1 x.2.1 x.2.2.1
def B3Q:A4:=[(0,.d G1),(4,.nilS),(10,.d A1)]
def C0q(F n:Nat):B8 B3Q:=fun x K=>A1U F (fun y4=>K (.exit 0) (enc B3P (y4,()))) (fun y2 y3=>K .ret (enc A80 (y2,y3,()))) n x.1 x.2.2.1
def E5T(F:Nat):C8 E3L:=A5 [(3,⟨B3Q,C0q F F⟩)]
theorem D8S(F:Nat)(fr:Frm)(hn:(E3N F).ntmps=fr.n)(n:Nat):D2 E3L f30 fr [1,1,0,1,0,0] B3Q (C0q F n) :=
 C2p (cx:=E3N F) (hs:=E5T F) (js:=A5 []) (outs:=C9h) (H1 _ rfl) (E5S F) hn mix (m:=fun n=>E3O F n) (m0:=fun n=>C0q F n) (fun _ _=>rfl) (fun n x K=>by kernel_rfl) (fun n x K=>by kernel_rfl) (B0 (by kernel_rfl)) n
theorem s30(F:Nat):CSound prog 30 (D4U F) :=
 B3 (fn:=f30) (E5T F) (A5 []) rfl func30 (by kernel_rfl) (E5S F) (fun fr hn=>(C3 (l:=[((.loop (sub (A7 f30) [1,1,0,1,0,0])),⟨B3Q,C0q F F⟩)]) (by kernel_rfl) (A9 (D8S F fr hn F) B6))) (fun x=>by kernel_rfl)
def D1J:Sig:=⟨[.ro,.ro],[(0,.d C6),(1,.d tyV)],false,some (0,5),[C6]⟩
def D8T(F:Nat):Contract:=C0 D1J fun x=>X7 F x.1 x.2.1
def D60(F:Nat):Cx:=B2 [(81,C5x F),(74,D4Q F),(73,D2L F)] [4,41,42] (0,80)
theorem D61(F:Nat):A8 (D60 F):=A2 (A0 (s81 F) (A0 (s74 F) (A0 (s73 F) A3)))
def C0r:A4:=[(0,.d C6),(3,.box 3 tyV),(5,.box 5 (.arr 5 A6)),(16,.d (.arr 4 A6)),(17,.d A1)]
def C0s:A4:=[(0,.d C6),(3,.box 3 tyV),(5,.box 5 (.arr 5 A6))]
def C9i:I0:=[(2,C0s)]
def C9j(F n:Nat):B8 C0r:=fun x K=>L4 F (fun y0 y3 y5=>K (.exit 0) (enc C0s (y0,y3,y5,()))) n x.1 x.2.1 x.2.2.1 x.2.2.2.1 x.2.2.2.2.1
def B3S:A4:=[(5,.box 5 (.arr 5 A6)),(8,.own 8 I6 5),(9,.d I6),(47,.d A1)]
def B6u:A4:=[(5,.box 5 (.arr 5 A6)),(8,.own 8 I6 5),(9,.d I6)]
def C66:I0:=[(6,B6u)]
def C0t(F n:Nat):B8 B3S:=fun x K=>I2 F (fun y5 y8 y9=>K (.exit 4) (enc B6u (y5,y8,y9,()))) n x.1 x.2.1 x.2.2.1 x.2.2.2.1
def B3T:A4:=[(5,.box 5 (.arr 5 A6)),(8,.own 8 I6 5)]
def B0g:A4:=[(4,.own 4 I6 5)]
def C67:I0:=[(1,B0g)]
def C0u(F n:Nat):B8 B3T:=fun x K=>K2 F (fun y4=>K .ret (enc B0g (y4,()))) n x.1 x.2.1
def B3U:A4:=[(0,.d C6),(5,.box 5 (.arr 5 A6))]
def B0h:A4:=[(4,.own 4 I6 5)]
def C68:I0:=[(1,B0h)]
def C69(F:Nat):B8 B3U:=fun x K=>P1 F (fun y4=>K .ret (enc B0h (y4,()))) x.1 x.2.1
def C0v:A4:=[(0,.d C6),(3,.box 3 tyV)]
def B23:A4:=[(4,.own 4 I6 5)]
def C9k:I0:=[(1,B23)]
def D4V(F:Nat):B8 C0v:=fun x K=>Q7 F (fun y4=>K .ret (enc B23 (y4,()))) x.1 x.2.1
def D62(F:Nat):C8 D1J:=A5 [(5,⟨C0r,C9j F F⟩),(15,⟨B3S,C0t F F⟩),(13,⟨B3T,C0u F F⟩)]
def D63(F:Nat):C8 D1J:=A5 [(12,⟨B3U,C69 F⟩),(3,⟨C0v,D4V F⟩)]
theorem D8U(F:Nat)(fr:Frm)(hn:(D60 F).ntmps=fr.n)(n:Nat):D2 D1J f75 fr [1,1,1,0,1,0,0] C0r (C9j F n) :=
 D4 (D62 F) (D63 F) C9i rfl (D61 F) hn (m:=fun n=>C9j F n) (fun _ _=>rfl) (fun n x K=>by kernel_rfl) (B0 (by kernel_rfl)) n
theorem D4W(F:Nat)(fr:Frm)(hn:(D60 F).ntmps=fr.n)(n:Nat):D2 D1J f75 fr [1,1,1,1,1,1,0,0,0,1,0,1,0,0] B3S (C0t F n) :=
 D4 (D62 F) (D63 F) C66 rfl (D61 F) hn (m:=fun n=>C0t F n) (fun _ _=>rfl) (fun n x K=>by kernel_rfl) (B0 (by kernel_rfl)) n
theorem D4X(F:Nat)(fr:Frm)(hn:(D60 F).ntmps=fr.n)(n:Nat):D2 D1J f75 fr [1,1,1,1,1,1,0,0] B3T (C0u F n) :=
 D4 (D62 F) (D63 F) C67 rfl (D61 F) hn (m:=fun n=>C0u F n) (fun _ _=>rfl) (fun n x K=>by kernel_rfl) (C3 (l:=[((.loop (sub (A7 f75) [1,1,1,1,1,1,0,0,0,1,0,1,0,0])),⟨B3S,C0t F F⟩)]) (by kernel_rfl) (A9 (D4W F fr hn F) B6)) n
theorem D4Y(F:Nat)(fr:Frm)(hn:(D60 F).ntmps=fr.n):L9 D1J f75 fr [1,1,1,1,1] B3U (C69 F) :=
 N5 (D62 F) (D63 F) C68 rfl (D61 F) hn (fun x K=>by kernel_rfl) (C3 (l:=[((.loop (sub (A7 f75) [1,1,1,1,1,1,0,0])),⟨B3T,C0u F F⟩)]) (by kernel_rfl) (A9 (D4X F fr hn F) B6))
theorem D8V(F:Nat)(fr:Frm)(hn:(D60 F).ntmps=fr.n):L9 D1J f75 fr [1,1] C0v (D4V F) :=
 N5 (D62 F) (D63 F) C9k rfl (D61 F) hn (fun x K=>by kernel_rfl) (C3 (l:=[((.loop (sub (A7 f75) [1,1,1,0,1,0,0])),⟨C0r,C9j F F⟩),((sub (A7 f75) [1,1,1,1,1]),⟨B3U,C69 F⟩)]) (by kernel_rfl) (A9 (D8U F fr hn F) (A9 (D4Y F fr hn) B6)))
theorem s75(F:Nat):CSound prog 75 (D8T F) :=
 B3 (fn:=f75) (D62 F) (D63 F) rfl func75 (by kernel_rfl) (D61 F) (fun fr hn=>(C3 (l:=[((sub (A7 f75) [1,1]),⟨C0v,D4V F⟩)]) (by kernel_rfl) (A9 (D8V F fr hn) B6))) (fun x=>by kernel_rfl)
def E91:Sig:=⟨[.con 5,.ro],[(0,.own 0 I6 5),(1,.d E4)],false,some (0,5),[C6]⟩
def D8W(F:Nat):Contract:=C0 E91 fun x=>Z2 F x.1 x.2.1
def E92(F:Nat):Cx:=B2 [(75,D8T F)] [4,11] (0,12)
theorem E93(F:Nat):A8 (E92 F):=A2 (A0 (s75 F) A3)
theorem s32(F:Nat):CSound prog 32 (D8W F) :=
 B3 (fn:=f32) (A5 []) (A5 []) rfl func32 (by kernel_rfl) (E93 F) (fun fr hn=>(B0 (by kernel_rfl))) (fun x=>by kernel_rfl)
def E94:Sig:=⟨[.con 5,.ro],[(0,.own 0 I6 5),(1,.d C1)],false,some (0,5),[C6]⟩
def D8X(F:Nat):Contract:=C0 E94 fun x=>A1V F x.1 x.2.1
def E95(F:Nat):Cx:=B2 [(72,C9e F)] [4] (0,15)
theorem E96(F:Nat):A8 (E95 F):=A2 (A0 (s72 F) A3)
theorem s33(F:Nat):CSound prog 33 (D8X F) :=
 B3 (fn:=f33) (A5 []) (A5 []) rfl func33 (by kernel_rfl) (E96 F) (fun fr hn=>(B0 (by kernel_rfl))) (fun x=>by kernel_rfl)
def D8Y:Sig:=⟨[.ro],[(0,.d (.slice D5))],false,some (0,5),[C6,A1]⟩
def D4Z(F:Nat):Contract:=C0 D8Y fun x=>A0s F x.1
def E0v(F:Nat):Cx:=B2 [(13,C92 F),(30,D4U F),(31,D4S F),(32,D8W F),(33,D8X F)] [2,7,24,27,85,97,101,103] (0,104)
theorem E0w(F:Nat):A8 (E0v F):=A2 (A0 (s13 F) (A0 (s30 F) (A0 (s31 F) (A0 (s32 F) (A0 (s33 F) A3)))))
def B3V:A4:=[(0,.d (.slice D5)),(5,.own 5 A1 2),(6,.own 6 A6 49),(7,.own 7 A6 49),(9,.box 9 D5),(28,.d (.slice D5)),(29,.d A1),(30,.d A1),(49,.d G1),(50,.d A1),(51,.d A1)]
def B6v:A4:=[(0,.d (.slice D5)),(5,.own 5 A1 2),(6,.own 6 A6 49),(7,.own 7 A6 49),(28,.d (.slice D5)),(29,.d A1),(30,.d A1)]
def C6a:I0:=[(4,B6v)]
def C0w(F n:Nat):B8 B3V:=fun x K=>I3 F (fun y0 y5 y6 y7 y28 y29 y30=>K (.exit 2) (enc B6v (y0,y5,y6,y7,y28,y29,y30,()))) n x.1 x.2.1 x.2.2.1 x.2.2.2.1 x.2.2.2.2.1 x.2.2.2.2.2.1 x.2.2.2.2.2.2.1 x.2.2.2.2.2.2.2.1 x.2.2.2.2.2.2.2.2.1 x.2.2.2.2.2.2.2.2.2.1 x.2.2.2.2.2.2.2.2.2.2.1
def C0x:A4:=[(0,.d (.slice D5)),(5,.own 5 A1 2),(6,.own 6 A6 49),(7,.own 7 A6 49),(28,.d (.slice D5)),(29,.d A1),(30,.d A1)]
def C0y:A4:=[(0,.d (.slice D5)),(5,.own 5 A1 2),(6,.own 6 A6 49),(7,.own 7 A6 49)]
def C9l:I0:=[(2,C0y)]
def C9m(F n:Nat):B8 C0x:=fun x K=>J0 F (fun y0 y5 y6 y7=>K (.exit 0) (enc C0y (y0,y5,y6,y7,()))) n x.1 x.2.1 x.2.2.1 x.2.2.2.1 x.2.2.2.2.1 x.2.2.2.2.2.1 x.2.2.2.2.2.2.1
def B3W:A4:=[(6,.own 6 A6 49),(7,.own 7 A6 49),(14,.own 14 I6 5),(88,.d (.slice D5)),(89,.d A1),(90,.d A1)]
def B6w:A4:=[(6,.own 6 A6 49),(7,.own 7 A6 49),(14,.own 14 I6 5)]
def C6b:I0:=[(6,B6w)]
def C0z(F n:Nat):B8 B3W:=fun x K=>N9 F (fun y6 y7 y14=>K (.exit 4) (enc B6w (y6,y7,y14,()))) n x.1 x.2.1 x.2.2.1 x.2.2.2.1 x.2.2.2.2.1 x.2.2.2.2.2.1
def E0x(F:Nat):C8 D8Y:=A5 [(12,⟨B3V,C0w F F⟩),(8,⟨C0x,C9m F F⟩),(24,⟨B3W,C0z F F⟩)]
theorem D50(F:Nat)(fr:Frm)(hn:(E0v F).ntmps=fr.n)(n:Nat):D2 D8Y f10 fr [1,1,1,1,1,0,1,0,0,1,1,0,0,1,1,1,0,0] B3V (C0w F n) :=
 D4 (E0x F) (A5 []) C6a rfl (E0w F) hn (m:=fun n=>C0w F n) (fun _ _=>rfl) (fun n x K=>by kernel_rfl) (B0 (by kernel_rfl)) n
theorem D8Z(F:Nat)(fr:Frm)(hn:(E0v F).ntmps=fr.n)(n:Nat):D2 D8Y f10 fr [1,1,1,1,1,0,1,0,0] C0x (C9m F n) :=
 D4 (E0x F) (A5 []) C9l rfl (E0w F) hn (m:=fun n=>C9m F n) (fun _ _=>rfl) (fun n x K=>by kernel_rfl) (C3 (l:=[((.loop (sub (A7 f10) [1,1,1,1,1,0,1,0,0,1,1,0,0,1,1,1,0,0])),⟨B3V,C0w F F⟩)]) (by kernel_rfl) (A9 (D50 F fr hn F) B6)) n
theorem D51(F:Nat)(fr:Frm)(hn:(E0v F).ntmps=fr.n)(n:Nat):D2 D8Y f10 fr [1,1,1,1,1,1,1,1,1,0,1,0,0] B3W (C0z F n) :=
 D4 (E0x F) (A5 []) C6b rfl (E0w F) hn (m:=fun n=>C0z F n) (fun _ _=>rfl) (fun n x K=>by kernel_rfl) (B0 (by kernel_rfl)) n
theorem s10(F:Nat):CSound prog 10 (D4Z F) :=
 B3 (fn:=f10) (E0x F) (A5 []) rfl func10 (by kernel_rfl) (E0w F) (fun fr hn=>(C3 (l:=[((.loop (sub (A7 f10) [1,1,1,1,1,0,1,0,0])),⟨C0x,C9m F F⟩),((.loop (sub (A7 f10) [1,1,1,1,1,1,1,1,1,0,1,0,0])),⟨B3W,C0z F F⟩)]) (by kernel_rfl) (A9 (D8Z F fr hn F) (A9 (D51 F fr hn F) B6)))) (fun x=>by kernel_rfl)
def D52:Sig:=⟨[.ro],[(0,.d (.slice D5))],true,none,[A1]⟩
def D53(F:Nat):Contract:=C0 D52 fun x=>A3B F x.1
def D90(F:Nat):Cx:=B2 [(42,C2T F),(43,C2U F)] [35] (0,133)
theorem D91(F:Nat):A8 (D90 F):=A2 (A0 (s42 F) (A0 (s43 F) A3))
def C0A:A4:=[(0,.d (.slice D5)),(3,.d A1),(4,.d A1)]
def C0B:A4:=[(0,.d (.slice D5))]
def B24:A4:=[(2,.d A1)]
def C9n:I0:=[(2,C0B),(1,B24)]
def C9o(F n:Nat):B8 C0A:=fun x K=>A08 F (fun y0=>K (.exit 0) (enc C0B (y0,()))) (fun y2=>K .ret (enc B24 (y2,()))) n x.1 x.2.1 x.2.2.1
def B3X:A4:=[(0,.d (.slice D5)),(5,.own 5 .bool 4),(6,.d A1),(7,.box 7 D5),(8,.d A1)]
def B6x:A4:=[(0,.d (.slice D5)),(5,.own 5 .bool 4),(6,.d A1)]
def B0i:A4:=[(2,.d A1)]
def C6c:I0:=[(6,B6x),(1,B0i)]
def C0C(F n:Nat):B8 B3X:=fun x K=>P2 F (fun y0 y5 y6=>K (.exit 4) (enc B6x (y0,y5,y6,()))) (fun y2=>K .ret (enc B0i (y2,()))) n x.1 x.2.1 x.2.2.1 x.2.2.2.1 x.2.2.2.2.1
def B3Y:A4:=[(0,.d (.slice D5)),(5,.own 5 .bool 4),(6,.d A1),(7,.box 7 D5)]
def B6y:A4:=[(0,.d (.slice D5)),(5,.own 5 .bool 4),(6,.d A1)]
def B0j:A4:=[(2,.d A1)]
def C6d:I0:=[(0,B6y),(1,B0j)]
def C6e(F:Nat):B8 B3Y:=fun x K=>X8 F (fun y0 y5 y6=>K .normal (enc B6y (y0,y5,y6,()))) (fun y2=>K .ret (enc B0j (y2,()))) x.1 x.2.1 x.2.2.1 x.2.2.2.1
def B3Z:A4:=[(0,.d (.slice D5)),(5,.own 5 .bool 4),(6,.d A1)]
def B6z:A4:=[]
def B0k:A4:=[(2,.d A1)]
def C6f:I0:=[(4,B6z),(1,B0k)]
def C0D(F n:Nat):B8 B3Z:=fun x K=>J3 F (K (.exit 2) (enc B6z (()))) (fun y2=>K .ret (enc B0k (y2,()))) n x.1 x.2.1 x.2.2.1
def D92(F:Nat):C8 D52:=A5 [(5,⟨C0A,C9o F F⟩),(20,⟨B3X,C0C F F⟩),(12,⟨B3Z,C0D F F⟩)]
def D93(F:Nat):C8 D52:=A5 [(19,⟨B3Y,C6e F⟩)]
theorem D94(F:Nat)(fr:Frm)(hn:(D90 F).ntmps=fr.n)(n:Nat):D2 D52 f14 fr [1,1,1,0,1,0,0] C0A (C9o F n) :=
 D4 (D92 F) (D93 F) C9n rfl (D91 F) hn (m:=fun n=>C9o F n) (fun _ _=>rfl) (fun n x K=>by kernel_rfl) (B0 (by kernel_rfl)) n
theorem D54(F:Nat)(fr:Frm)(hn:(D90 F).ntmps=fr.n)(n:Nat):D2 D52 f14 fr [1,1,1,1,1,0,1,0,0,1,0,0,1,1,1,1,0,0] B3X (C0C F n) :=
 D4 (D92 F) (D93 F) C6c rfl (D91 F) hn (m:=fun n=>C0C F n) (fun _ _=>rfl) (fun n x K=>by kernel_rfl) (B0 (by kernel_rfl)) n
theorem D55(F:Nat)(fr:Frm)(hn:(D90 F).ntmps=fr.n):L9 D52 f14 fr [1,1,1,1,1,0,1,0,0,1,0,0,1,1,1] B3Y (C6e F) :=
 N5 (D92 F) (D93 F) C6d rfl (D91 F) hn (fun x K=>by kernel_rfl) (C3 (l:=[((.loop (sub (A7 f14) [1,1,1,1,1,0,1,0,0,1,0,0,1,1,1,1,0,0])),⟨B3X,C0C F F⟩)]) (by kernel_rfl) (A9 (D54 F fr hn F) B6))
theorem D56(F:Nat)(fr:Frm)(hn:(D90 F).ntmps=fr.n)(n:Nat):D2 D52 f14 fr [1,1,1,1,1,0,1,0,0] B3Z (C0D F n) :=
 D4 (D92 F) (D93 F) C6f rfl (D91 F) hn (m:=fun n=>C0D F n) (fun _ _=>rfl) (fun n x K=>by kernel_rfl) (C3 (l:=[((sub (A7 f14) [1,1,1,1,1,0,1,0,0,1,0,0,1,1,1]),⟨B3Y,C6e F⟩)]) (by kernel_rfl) (A9 (D55 F fr hn) B6)) n
theorem s14(F:Nat):CSound prog 14 (D53 F) :=
 B3 (fn:=f14) (D92 F) (D93 F) rfl func14 (by kernel_rfl) (D91 F) (fun fr hn=>(C3 (l:=[((.loop (sub (A7 f14) [1,1,1,0,1,0,0])),⟨C0A,C9o F F⟩),((.loop (sub (A7 f14) [1,1,1,1,1,0,1,0,0])),⟨B3Z,C0D F F⟩)]) (by kernel_rfl) (A9 (D94 F fr hn F) (A9 (D56 F fr hn F) B6)))) (fun x=>by kernel_rfl)
def D95:Sig:=⟨[.ro,.ro],[(0,.d C6),(1,.d tyV)],false,some (0,5),[C6]⟩
def D96(F:Nat):Contract:=C0 D95 fun x=>A03 F x.1 x.2.1
def E3P(F:Nat):Cx:=B2 [(65,B3f F),(123,B60 F),(131,C4F F),(90,B2Y F)] [4,14] (0,65)
theorem E3Q(F:Nat):A8 (E3P F):=A2 (A0 (s65 F) (A0 (E0n F) (A0 (E5c F) (A0 (s90 F) A3))))
def C0E:A4:=[(5,.own 5 I6 5),(7,.box 7 tyV),(8,.box 8 tyV),(12,.d I6)]
def C0F:A4:=[(5,.own 5 I6 5),(12,.d I6)]
def C9p:I0:=[(2,C0F)]
def C9q(F n:Nat):B8 C0E:=fun x K=>O0 F (fun y5 y12=>K (.exit 0) (enc C0F (y5,y12,()))) n x.1 x.2.1 x.2.2.1 x.2.2.2.1
def C0G:A4:=[(5,.own 5 I6 5),(7,.box 7 tyV),(8,.box 8 tyV),(12,.d I6)]
def B25:A4:=[(4,.own 4 I6 5)]
def C9r:I0:=[(1,B25)]
def D57(F:Nat):B8 C0G:=fun x K=>T5 F (fun y4=>K .ret (enc B25 (y4,()))) x.1 x.2.1 x.2.2.1 x.2.2.2.1
def E3S(F:Nat):C8 D95:=A5 [(9,⟨C0E,C9q F F⟩)]
def E3T(F:Nat):C8 D95:=A5 [(9,⟨C0G,D57 F⟩)]
theorem D97(F:Nat)(fr:Frm)(hn:(E3P F).ntmps=fr.n)(n:Nat):D2 D95 f76 fr [1,1,1,1,1,1,1,1,0,0,0] C0E (C9q F n) :=
 D4 (E3S F) (E3T F) C9p rfl (E3Q F) hn (m:=fun n=>C9q F n) (fun _ _=>rfl) (fun n x K=>by kernel_rfl) (B0 (by kernel_rfl)) n
theorem D98(F:Nat)(fr:Frm)(hn:(E3P F).ntmps=fr.n):L9 D95 f76 fr [1,1,1,1,1,1,1,1] C0G (D57 F) :=
 N5 (E3S F) (E3T F) C9r rfl (E3Q F) hn (fun x K=>by kernel_rfl) (C3 (l:=[((.loop (sub (A7 f76) [1,1,1,1,1,1,1,1,0,0,0])),⟨C0E,C9q F F⟩)]) (by kernel_rfl) (A9 (D97 F fr hn F) B6))
theorem s76(F:Nat):CSound prog 76 (D96 F) :=
 B3 (fn:=f76) (E3S F) (E3T F) rfl func76 (by kernel_rfl) (E3Q F) (fun fr hn=>(C3 (l:=[((sub (A7 f76) [1,1,1,1,1,1,1,1]),⟨C0G,D57 F⟩)]) (by kernel_rfl) (A9 (D98 F fr hn) B6))) (fun x=>by kernel_rfl)
def E97:Sig:=⟨[.ro,.ro],[(0,.d C6),(1,.d E4)],false,some (0,5),[C6]⟩
def D99(F:Nat):Contract:=C0 E97 fun x=>A0N F x.1 x.2.1
def E98(F:Nat):Cx:=B2 [(76,D96 F)] [4,11] (0,12)
theorem E99(F:Nat):A8 (E98 F):=A2 (A0 (s76 F) A3)
theorem s34(F:Nat):CSound prog 34 (D99 F) :=
 B3 (fn:=f34) (A5 []) (A5 []) rfl func34 (by kernel_rfl) (E99 F) (fun fr hn=>(B0 (by kernel_rfl))) (fun x=>by kernel_rfl)
def E3U:Sig:=⟨[.ro,.ro],[(0,.d C6),(1,.d A6)],false,some (0,5),[C6]⟩
def C9s(F:Nat):Contract:=C0 E3U fun x=>A1w F x.1 x.2.1
def E5U(F:Nat):Cx:=B2 [] [4,6] (0,25)
theorem E5V(F:Nat):A8 (E5U F):=A2 A3
def C0H:A4:=[(1,.d A6),(5,.own 5 I6 5)]
def C0I:A4:=[(1,.d A6),(5,.own 5 I6 5)]
def C9t:I0:=[(2,C0I)]
def C9u(F n:Nat):B8 C0H:=fun x K=>X9 F (fun y1 y5=>K (.exit 0) (enc C0I (y1,y5,()))) n x.1 x.2.1
def E5W(F:Nat):C8 E3U:=A5 [(2,⟨C0H,C9u F F⟩)]
theorem D9a(F:Nat)(fr:Frm)(hn:(E5U F).ntmps=fr.n)(n:Nat):D2 E3U f35 fr [1,1,0,0,0] C0H (C9u F n) :=
 D4 (E5W F) (A5 []) C9t rfl (E5V F) hn (m:=fun n=>C9u F n) (fun _ _=>rfl) (fun n x K=>by kernel_rfl) (B0 (by kernel_rfl)) n
theorem s35(F:Nat):CSound prog 35 (C9s F) :=
 B3 (fn:=f35) (E5W F) (A5 []) rfl func35 (by kernel_rfl) (E5V F) (fun fr hn=>(C3 (l:=[((.loop (sub (A7 f35) [1,1,0,0,0])),⟨C0H,C9u F F⟩)]) (by kernel_rfl) (A9 (D9a F fr hn F) B6))) (fun x=>by kernel_rfl)
def E3V:Sig:=⟨[.ro,.ro],[(0,.d A1),(1,.d A1)],true,none,[A6]⟩
def D1K(F:Nat):Contract:=C0 E3V fun x=>A7Z F x.1 x.2.1
def E3W(F:Nat):Cx:=B2 [] [] (0,10)
theorem E3X(F:Nat):A8 (E3W F):=A2 A3
theorem E9a(F:Nat):CSound prog 167 (D1K F) :=
 B3 (fn:=f167) (A5 []) (A5 []) rfl func167 (by kernel_rfl) (E3X F) (fun fr hn=>(B0 (by kernel_rfl))) (fun x=>by kernel_rfl)
def D58:Sig:=⟨[.ro],[(0,.d G1)],false,some (0,2),[G1]⟩
def D1L(F:Nat):Contract:=C0 D58 fun x=>A0O F x.1
def D9b(F:Nat):Cx:=B2 [(167,D1K F)] [2,3] (0,34)
theorem D9c(F:Nat):A8 (D9b F):=A2 (A0 (E9a F) A3)
def B40:A4:=[(0,.d G1),(3,.own 3 A1 2),(4,.d A1)]
def B6A:A4:=[(3,.own 3 A1 2)]
def C6g:I0:=[(2,B6A)]
def C0J(F n:Nat):B8 B40:=fun x K=>D7 F (fun y3=>K (.exit 0) (enc B6A (y3,()))) n x.1 x.2.1 x.2.2.1
def D9d(F:Nat):C8 D58:=A5 [(3,⟨B40,C0J F F⟩)]
theorem D59(F:Nat)(fr:Frm)(hn:(D9b F).ntmps=fr.n)(n:Nat):D2 D58 f132 fr [1,1,0,1,0,0] B40 (C0J F n) :=
 D4 (D9d F) (A5 []) C6g rfl (D9c F) hn (m:=fun n=>C0J F n) (fun _ _=>rfl) (fun n x K=>by kernel_rfl) (B0 (by kernel_rfl)) n
theorem E9b(F:Nat):CSound prog 132 (D1L F) :=
 B3 (fn:=f132) (D9d F) (A5 []) rfl func132 (by kernel_rfl) (D9c F) (fun fr hn=>(C3 (l:=[((.loop (sub (A7 f132) [1,1,0,1,0,0])),⟨B40,C0J F F⟩)]) (by kernel_rfl) (A9 (D59 F fr hn F) B6))) (fun x=>by kernel_rfl)
def E3Y:Sig:=⟨[.ro],[(0,.d A1)],true,none,[A6]⟩
def D1N(F:Nat):Contract:=C0 E3Y fun x=>A3U F x.1
def E3Z(F:Nat):Cx:=B2 [] [] (0,14)
theorem E40(F:Nat):A8 (E3Z F):=A2 A3
theorem E9c(F:Nat):CSound prog 133 (D1N F) :=
 B3 (fn:=f133) (A5 []) (A5 []) rfl func133 (by kernel_rfl) (E40 F) (fun fr hn=>(B0 (by kernel_rfl))) (fun x=>by kernel_rfl)
def E0y:Sig:=⟨[.ro,.ro],[(0,.d G1),(1,.d A1)],false,some (0,49),[C1,.bool]⟩
def D9e(F:Nat):Contract:=C0 E0y fun x=>A0t F x.1 x.2.1
def E41(F:Nat):Cx:=B2 [(132,D1L F),(133,D1N F)] [4,24] (0,40)
theorem E42(F:Nat):A8 (E41 F):=A2 (A0 (E9b F) (A0 (E9c F) A3))
def C0K:A4:=[(0,.d G1),(1,.d A1),(6,.d A1)]
def C0L:A4:=[(0,.d G1)]
def C9v:I0:=[(2,C0L)]
def C9w(F n:Nat):B8 C0K:=fun x K=>P9 F (fun y0=>K (.exit 0) (enc C0L (y0,()))) n x.1 x.2.1 x.2.2.1
def C0N:A4:=[(0,.d G1),(7,.own 7 A6 49),(8,.d A1)]
def C0O:A4:=[(7,.own 7 A6 49)]
def C9x:I0:=[(4,C0O)]
def C9y(F n:Nat):B8 C0N:=fun x K=>Q0 F (fun y7=>K (.exit 2) (enc C0O (y7,()))) n x.1 x.2.1 x.2.2.1
def E43(F:Nat):C8 E0y:=A5 [(4,⟨C0K,C9w F F⟩),(9,⟨C0N,C9y F F⟩)]
theorem D9f(F:Nat)(fr:Frm)(hn:(E41 F).ntmps=fr.n)(n:Nat):D2 E0y f77 fr [1,1,0,1,0,0] C0K (C9w F n) :=
 D4 (E43 F) (A5 []) C9v rfl (E42 F) hn (m:=fun n=>C9w F n) (fun _ _=>rfl) (fun n x K=>by kernel_rfl) (B0 (by kernel_rfl)) n
theorem D9g(F:Nat)(fr:Frm)(hn:(E41 F).ntmps=fr.n)(n:Nat):D2 E0y f77 fr [1,1,1,1,0,1,0,0] C0N (C9y F n) :=
 D4 (E43 F) (A5 []) C9x rfl (E42 F) hn (m:=fun n=>C9y F n) (fun _ _=>rfl) (fun n x K=>by kernel_rfl) (B0 (by kernel_rfl)) n
theorem s77(F:Nat):CSound prog 77 (D9e F) :=
 B3 (fn:=f77) (E43 F) (A5 []) rfl func77 (by kernel_rfl) (E42 F) (fun fr hn=>(C3 (l:=[((.loop (sub (A7 f77) [1,1,0,1,0,0])),⟨C0K,C9w F F⟩),((.loop (sub (A7 f77) [1,1,1,1,0,1,0,0])),⟨C0N,C9y F F⟩)]) (by kernel_rfl) (A9 (D9f F fr hn F) (A9 (D9g F fr hn F) B6)))) (fun x=>by kernel_rfl)
def E9d:Sig:=⟨[.ro],[(0,.d A6)],true,none,[A1]⟩
def D9h(F:Nat):Contract:=C0 E9d fun x=>A5S F x.1
def E9e(F:Nat):Cx:=B2 [(35,C9s F)] [] (0,6)
theorem E9f(F:Nat):A8 (E9e F):=A2 (A0 (s35 F) A3)
theorem s78(F:Nat):CSound prog 78 (D9h F) :=
 B3 (fn:=f78) (A5 []) (A5 []) rfl func78 (by kernel_rfl) (E9f F) (fun fr hn=>(B0 (by kernel_rfl))) (fun x=>by kernel_rfl)
def E0z:Sig:=⟨[.ro],[(0,.d C1)],true,none,[A1]⟩
def D5a(F:Nat):Contract:=C0 E0z fun x=>A4I F x.1
def E44(F:Nat):Cx:=B2 [] [] (0,26)
theorem E45(F:Nat):A8 (E44 F):=A2 A3
def C0P:A4:=[(0,.d C1),(3,.d A1),(4,.d A1)]
def C0Q:A4:=[(0,.d C1),(3,.d A1),(4,.d A1)]
def C9z:I0:=[(4,C0Q)]
def C9A(F n:Nat):B8 C0P:=fun x K=>W3 F (fun y0 y3 y4=>K (.exit 2) (enc C0Q (y0,y3,y4,()))) n x.1 x.2.1 x.2.2.1
def C0S:A4:=[(0,.d C1),(3,.d A1),(4,.d A1)]
def C0T:A4:=[(3,.d A1)]
def C9B:I0:=[(2,C0T)]
def C9C(F n:Nat):B8 C0S:=fun x K=>W4 F (fun y3=>K (.exit 0) (enc C0T (y3,()))) n x.1 x.2.1 x.2.2.1
def E46(F:Nat):C8 E0z:=A5 [(5,⟨C0P,C9A F F⟩),(3,⟨C0S,C9C F F⟩)]
theorem D9i(F:Nat)(fr:Frm)(hn:(E44 F).ntmps=fr.n)(n:Nat):D2 E0z f79 fr [1,1,0,1,0,0,1,0,0,0,0] C0P (C9A F n) :=
 D4 (E46 F) (A5 []) C9z rfl (E45 F) hn (m:=fun n=>C9A F n) (fun _ _=>rfl) (fun n x K=>by kernel_rfl) (B0 (by kernel_rfl)) n
theorem D9j(F:Nat)(fr:Frm)(hn:(E44 F).ntmps=fr.n)(n:Nat):D2 E0z f79 fr [1,1,0,1,0,0] C0S (C9C F n) :=
 D4 (E46 F) (A5 []) C9B rfl (E45 F) hn (m:=fun n=>C9C F n) (fun _ _=>rfl) (fun n x K=>by kernel_rfl) (C3 (l:=[((.loop (sub (A7 f79) [1,1,0,1,0,0,1,0,0,0,0])),⟨C0P,C9A F F⟩)]) (by kernel_rfl) (A9 (D9i F fr hn F) B6)) n
theorem s79(F:Nat):CSound prog 79 (D5a F) :=
 B3 (fn:=f79) (E46 F) (A5 []) rfl func79 (by kernel_rfl) (E45 F) (fun fr hn=>(C3 (l:=[((.loop (sub (A7 f79) [1,1,0,1,0,0])),⟨C0S,C9C F F⟩)]) (by kernel_rfl) (A9 (D9j F fr hn F) B6))) (fun x=>by kernel_rfl)
def E47:Sig:=⟨[.ro,.ro],[(0,.d A1),(1,.d A1)],true,none,[A1]⟩
def D1O(F:Nat):Contract:=C0 E47 fun x=>A6C F x.1 x.2.1
def E48(F:Nat):Cx:=B2 [] [] (0,24)
theorem E49(F:Nat):A8 (E48 F):=A2 A3
theorem E9g(F:Nat):CSound prog 134 (D1O F) :=
 B3 (fn:=f134) (A5 []) (A5 []) rfl func134 (by kernel_rfl) (E49 F) (fun fr hn=>(B0 (by kernel_rfl))) (fun x=>by kernel_rfl)
def E0A:Sig:=⟨[.ro,.ro],[(0,.d C1),(1,.d A1)],false,some (0,5),[C6,.bool]⟩
def D9k(F:Nat):Contract:=C0 E0A fun x=>A5T F x.1 x.2.1
def E4a(F:Nat):Cx:=B2 [(134,D1O F),(79,D5a F)] [4,24] (0,62)
theorem E4b(F:Nat):A8 (E4a F):=A2 (A0 (E9g F) (A0 (s79 F) A3))
def C0U:A4:=[(0,.d C1),(1,.d A1),(7,.own 7 I6 5),(8,.d A1),(9,.d A1)]
def C0V:A4:=[(0,.d C1),(1,.d A1),(7,.own 7 I6 5),(8,.d A1)]
def C9D:I0:=[(4,C0V)]
def C9E(F n:Nat):B8 C0U:=fun x K=>A0P F (fun y0 y1 y7 y8=>K (.exit 2) (enc C0V (y0,y1,y7,y8,()))) n x.1 x.2.1 x.2.2.1 x.2.2.2.1 x.2.2.2.2.1
def C0W:A4:=[(0,.d C1),(1,.d A1),(7,.own 7 I6 5),(8,.d A1)]
def C0X:A4:=[(7,.own 7 I6 5)]
def C9F:I0:=[(2,C0X)]
def C9G(F n:Nat):B8 C0W:=fun x K=>Z3 F (fun y7=>K (.exit 0) (enc C0X (y7,()))) n x.1 x.2.1 x.2.2.1 x.2.2.2.1
def E4c(F:Nat):C8 E0A:=A5 [(9,⟨C0U,C9E F F⟩),(6,⟨C0W,C9G F F⟩)]
theorem D9l(F:Nat)(fr:Frm)(hn:(E4a F).ntmps=fr.n)(n:Nat):D2 E0A f80 fr [1,1,1,1,0,1,0,0,1,0,0,1,0,0] C0U (C9E F n) :=
 D4 (E4c F) (A5 []) C9D rfl (E4b F) hn (m:=fun n=>C9E F n) (fun _ _=>rfl) (fun n x K=>by kernel_rfl) (B0 (by kernel_rfl)) n
theorem D9m(F:Nat)(fr:Frm)(hn:(E4a F).ntmps=fr.n)(n:Nat):D2 E0A f80 fr [1,1,1,1,0,1,0,0] C0W (C9G F n) :=
 D4 (E4c F) (A5 []) C9F rfl (E4b F) hn (m:=fun n=>C9G F n) (fun _ _=>rfl) (fun n x K=>by kernel_rfl) (C3 (l:=[((.loop (sub (A7 f80) [1,1,1,1,0,1,0,0,1,0,0,1,0,0])),⟨C0U,C9E F F⟩)]) (by kernel_rfl) (A9 (D9l F fr hn F) B6)) n
theorem s80(F:Nat):CSound prog 80 (D9k F) :=
 B3 (fn:=f80) (E4c F) (A5 []) rfl func80 (by kernel_rfl) (E4b F) (fun fr hn=>(C3 (l:=[((.loop (sub (A7 f80) [1,1,1,1,0,1,0,0])),⟨C0W,C9G F F⟩)]) (by kernel_rfl) (A9 (D9m F fr hn F) B6))) (fun x=>by kernel_rfl)
def E0B:Sig:=⟨[.ro],[(0,.d C1)],false,some (0,5),[C6,A1]⟩
def D5b(F:Nat):Contract:=C0 E0B fun x=>A0u F x.1
def E4d(F:Nat):Cx:=B2 [(78,D9h F),(79,D5a F),(80,D9k F),(35,C9s F)] [2,42,46] (0,61)
theorem E4e(F:Nat):A8 (E4d F):=A2 (A0 (s78 F) (A0 (s79 F) (A0 (s80 F) (A0 (s35 F) A3))))
def C0Y:A4:=[(0,.d C1),(4,.d A1),(5,.d A1)]
def C0Z:A4:=[(0,.d C1),(4,.d A1)]
def C9H:I0:=[(2,C0Z)]
def C9I(F n:Nat):B8 C0Y:=fun x K=>Y0 F (fun y0 y4=>K (.exit 0) (enc C0Z (y0,y4,()))) n x.1 x.2.1 x.2.2.1
def B41:A4:=[(0,.d C1),(9,.own 9 I6 5),(10,.d A1)]
def B6B:A4:=[(9,.own 9 I6 5)]
def C6h:I0:=[(4,B6B)]
def C10(F n:Nat):B8 B41:=fun x K=>U6 F (fun y9=>K (.exit 2) (enc B6B (y9,()))) n x.1 x.2.1 x.2.2.1
def E4f(F:Nat):C8 E0B:=A5 [(5,⟨C0Y,C9I F F⟩),(14,⟨B41,C10 F F⟩)]
theorem D9n(F:Nat)(fr:Frm)(hn:(E4d F).ntmps=fr.n)(n:Nat):D2 E0B f37 fr [1,1,1,0,1,0,0] C0Y (C9I F n) :=
 D4 (E4f F) (A5 []) C9H rfl (E4e F) hn (m:=fun n=>C9I F n) (fun _ _=>rfl) (fun n x K=>by kernel_rfl) (B0 (by kernel_rfl)) n
theorem D5c(F:Nat)(fr:Frm)(hn:(E4d F).ntmps=fr.n)(n:Nat):D2 E0B f37 fr [1,1,1,1,1,1,1,1,0,1,0,0] B41 (C10 F n) :=
 D4 (E4f F) (A5 []) C6h rfl (E4e F) hn (m:=fun n=>C10 F n) (fun _ _=>rfl) (fun n x K=>by kernel_rfl) (B0 (by kernel_rfl)) n
theorem s37(F:Nat):CSound prog 37 (D5b F) :=
 B3 (fn:=f37) (E4f F) (A5 []) rfl func37 (by kernel_rfl) (E4e F) (fun fr hn=>(C3 (l:=[((.loop (sub (A7 f37) [1,1,1,0,1,0,0])),⟨C0Y,C9I F F⟩),((.loop (sub (A7 f37) [1,1,1,1,1,1,1,1,0,1,0,0])),⟨B41,C10 F F⟩)]) (by kernel_rfl) (A9 (D9n F fr hn F) (A9 (D5c F fr hn F) B6)))) (fun x=>by kernel_rfl)
def E4g:Sig:=⟨[.ro],[(0,.d G1)],false,some (0,5),[C6,A1]⟩
def D9o(F:Nat):Contract:=C0 E4g fun x=>A3V F x.1
def E5X(F:Nat):Cx:=B2 [(77,D9e F),(37,D5b F)] [2,4,40] (0,44)
theorem E5Y(F:Nat):A8 (E5X F):=A2 (A0 (s77 F) (A0 (s37 F) A3))
def C11:A4:=[(0,.d G1),(4,.own 4 I6 5),(5,.d A1)]
def C12:A4:=[(4,.own 4 I6 5)]
def C9J:I0:=[(2,C12)]
def C9K(F n:Nat):B8 C11:=fun x K=>F3 F (fun y4=>K (.exit 0) (enc C12 (y4,()))) n x.1 x.2.1 x.2.2.1
def E5Z(F:Nat):C8 E4g:=A5 [(5,⟨C11,C9K F F⟩)]
theorem D9p(F:Nat)(fr:Frm)(hn:(E5X F).ntmps=fr.n)(n:Nat):D2 E4g f36 fr [1,1,1,0,1,0,0] C11 (C9K F n) :=
 D4 (E5Z F) (A5 []) C9J rfl (E5Y F) hn (m:=fun n=>C9K F n) (fun _ _=>rfl) (fun n x K=>by kernel_rfl) (B0 (by kernel_rfl)) n
theorem s36(F:Nat):CSound prog 36 (D9o F) :=
 B3 (fn:=f36) (E5Z F) (A5 []) rfl func36 (by kernel_rfl) (E5Y F) (fun fr hn=>(C3 (l:=[((.loop (sub (A7 f36) [1,1,1,0,1,0,0])),⟨C11,C9K F F⟩)]) (by kernel_rfl) (A9 (D9p F fr hn F) B6))) (fun x=>by kernel_rfl)
def E4h:Sig:=⟨[.ro],[(0,.d G1)],false,some (0,49),[C1]⟩
def D9q(F:Nat):Contract:=C0 E4h fun x=>A5U F x.1
def E60(F:Nat):Cx:=B2 [] [2,3] (0,21)
theorem E61(F:Nat):A8 (E60 F):=A2 A3
def C13:A4:=[(0,.d G1),(3,.own 3 A6 49),(4,.d A1)]
def C14:A4:=[(3,.own 3 A6 49)]
def C9L:I0:=[(2,C14)]
def C9N(F n:Nat):B8 C13:=fun x K=>A0Q F (fun y3=>K (.exit 0) (enc C14 (y3,()))) n x.1 x.2.1 x.2.2.1
def E62(F:Nat):C8 E4h:=A5 [(3,⟨C13,C9N F F⟩)]
theorem D9r(F:Nat)(fr:Frm)(hn:(E60 F).ntmps=fr.n)(n:Nat):D2 E4h f38 fr [1,1,0,1,0,0] C13 (C9N F n) :=
 D4 (E62 F) (A5 []) C9L rfl (E61 F) hn (m:=fun n=>C9N F n) (fun _ _=>rfl) (fun n x K=>by kernel_rfl) (B0 (by kernel_rfl)) n
theorem s38(F:Nat):CSound prog 38 (D9q F) :=
 B3 (fn:=f38) (E62 F) (A5 []) rfl func38 (by kernel_rfl) (E61 F) (fun fr hn=>(C3 (l:=[((.loop (sub (A7 f38) [1,1,0,1,0,0])),⟨C13,C9N F F⟩)]) (by kernel_rfl) (A9 (D9r F fr hn F) B6))) (fun x=>by kernel_rfl)
def E0C:Sig:=⟨[.ro],[(0,.d (.slice D5))],false,some (0,5),[C6,A1]⟩
def D9s(F:Nat):Contract:=C0 E0C fun x=>A3W F x.1
def E4i(F:Nat):Cx:=B2 [(14,D53 F),(34,D99 F),(35,C9s F),(36,D9o F),(38,D9q F),(37,D5b F)] [2,5,6,7,94] (0,120)
theorem E4j(F:Nat):A8 (E4i F):=A2 (A0 (s14 F) (A0 (s34 F) (A0 (s35 F) (A0 (s36 F) (A0 (s38 F) (A0 (s37 F) A3))))))
def B42:A4:=[(0,.d (.slice D5)),(5,.own 5 A1 2),(6,.own 6 A1 3),(7,.own 7 A6 49),(8,.d C6),(9,.d A1),(10,.d A1)]
def B6C:A4:=[(0,.d (.slice D5)),(5,.own 5 A1 2),(6,.own 6 A1 3),(7,.own 7 A6 49),(8,.d C6),(9,.d A1)]
def C6i:I0:=[(4,B6C)]
def C15(F n:Nat):B8 B42:=fun x K=>L8 F (fun y0 y5 y6 y7 y8 y9=>K (.exit 2) (enc B6C (y0,y5,y6,y7,y8,y9,()))) n x.1 x.2.1 x.2.2.1 x.2.2.2.1 x.2.2.2.2.1 x.2.2.2.2.2.1 x.2.2.2.2.2.2.1
def C16:A4:=[(0,.d (.slice D5)),(5,.own 5 A1 2),(6,.own 6 A1 3),(7,.own 7 A6 49),(8,.d C6),(9,.d A1)]
def C17:A4:=[(0,.d (.slice D5)),(5,.own 5 A1 2),(6,.own 6 A1 3),(7,.own 7 A6 49),(8,.d C6)]
def C9O:I0:=[(2,C17)]
def C9P(F n:Nat):B8 C16:=fun x K=>P3 F (fun y0 y5 y6 y7 y8=>K (.exit 0) (enc C17 (y0,y5,y6,y7,y8,()))) n x.1 x.2.1 x.2.2.1 x.2.2.2.1 x.2.2.2.2.1 x.2.2.2.2.2.1
def E4k(F:Nat):C8 E0C:=A5 [(15,⟨B42,C15 F F⟩),(9,⟨C16,C9P F F⟩)]
theorem D5d(F:Nat)(fr:Frm)(hn:(E4i F).ntmps=fr.n)(n:Nat):D2 E0C f11 fr [1,1,1,1,1,1,0,1,0,0,1,0,0,1,1,1,1,0,0] B42 (C15 F n) :=
 D4 (E4k F) (A5 []) C6i rfl (E4j F) hn (m:=fun n=>C15 F n) (fun _ _=>rfl) (fun n x K=>by kernel_rfl) (B0 (by kernel_rfl)) n
theorem D9t(F:Nat)(fr:Frm)(hn:(E4i F).ntmps=fr.n)(n:Nat):D2 E0C f11 fr [1,1,1,1,1,1,0,1,0,0] C16 (C9P F n) :=
 D4 (E4k F) (A5 []) C9O rfl (E4j F) hn (m:=fun n=>C9P F n) (fun _ _=>rfl) (fun n x K=>by kernel_rfl) (C3 (l:=[((.loop (sub (A7 f11) [1,1,1,1,1,1,0,1,0,0,1,0,0,1,1,1,1,0,0])),⟨B42,C15 F F⟩)]) (by kernel_rfl) (A9 (D5d F fr hn F) B6)) n
theorem s11(F:Nat):CSound prog 11 (D9s F) :=
 B3 (fn:=f11) (E4k F) (A5 []) rfl func11 (by kernel_rfl) (E4j F) (fun fr hn=>(C3 (l:=[((.loop (sub (A7 f11) [1,1,1,1,1,1,0,1,0,0])),⟨C16,C9P F F⟩)]) (by kernel_rfl) (A9 (D9t F fr hn F) B6))) (fun x=>by kernel_rfl)
def E4l:Sig:=⟨[.ro,.ro],[(0,.d C6),(1,.d C6)],true,none,[.bool]⟩
def D5e(F:Nat):Contract:=C0 E4l fun x=>A4l F x.1 x.2.1
def E63(F:Nat):Cx:=B2 [] [] (0,26)
theorem E64(F:Nat):A8 (E63 F):=A2 A3
def C18:A4:=[(0,.d C6),(1,.d C6),(5,.d A1)]
def C19:A4:=[]
def B26:A4:=[(4,.d .bool)]
def C9Q:I0:=[(2,C19),(1,B26)]
def C9S(F n:Nat):B8 C18:=fun x K=>A0S F (K (.exit 0) (enc C19 (()))) (fun y4=>K .ret (enc B26 (y4,()))) n x.1 x.2.1 x.2.2.1
def E65(F:Nat):C8 E4l:=A5 [(4,⟨C18,C9S F F⟩)]
theorem D9u(F:Nat)(fr:Frm)(hn:(E63 F).ntmps=fr.n)(n:Nat):D2 E4l f12 fr [1,1,0,1,0,0] C18 (C9S F n) :=
 D4 (E65 F) (A5 []) C9Q rfl (E64 F) hn (m:=fun n=>C9S F n) (fun _ _=>rfl) (fun n x K=>by kernel_rfl) (B0 (by kernel_rfl)) n
theorem s12(F:Nat):CSound prog 12 (D5e F) :=
 B3 (fn:=f12) (E65 F) (A5 []) rfl func12 (by kernel_rfl) (E64 F) (fun fr hn=>(C3 (l:=[((.loop (sub (A7 f12) [1,1,0,1,0,0])),⟨C18,C9S F F⟩)]) (by kernel_rfl) (A9 (D9u F fr hn F) B6))) (fun x=>by kernel_rfl)
def E9h:Sig:=⟨[.ro,.ro,.ro],[(0,.d C6),(1,.d A1),(2,.d A1)],true,none,[.bool]⟩
def D9v(F:Nat):Contract:=C0 E9h fun x=>A6d F x.1 x.2.1 x.2.2.1
def E9i(F:Nat):Cx:=B2 [] [] (0,23)
theorem E9j(F:Nat):A8 (E9i F):=A2 A3
theorem s46(F:Nat):CSound prog 46 (D9v F) :=
 B3 (fn:=f46) (A5 []) (A5 []) rfl func46 (by kernel_rfl) (E9j F) (fun fr hn=>(B0 (by kernel_rfl))) (fun x=>by kernel_rfl)
def E4m:Sig:=⟨[.ro],[(0,.d I6)],true,none,[.bool]⟩
def D1P(F:Nat):Contract:=C0 E4m fun x=>A5b F x.1
def E4n(F:Nat):Cx:=B2 [] [] (0,5)
theorem E4o(F:Nat):A8 (E4n F):=A2 A3
theorem E9k(F:Nat):CSound prog 179 (D1P F) :=
 B3 (fn:=f179) (A5 []) (A5 []) rfl func179 (by kernel_rfl) (E4o F) (fun fr hn=>(B0 (by kernel_rfl))) (fun x=>by kernel_rfl)
def D5f:Sig:=⟨[.ro,.ro],[(0,.d C6),(1,.fn 179)],true,none,[A1]⟩
def D1Q(F:Nat):Contract:=C0 D5f fun x=>A2F F x.1
def D9w(F:Nat):Cx:=B2 [(179,D1P F)] [] (0,19)
theorem D9x(F:Nat):A8 (D9w F):=A2 (A0 (E9k F) A3)
def B43:A4:=[(0,.d C6),(1,.fn 179),(7,.d A1),(8,.d A1)]
def B6D:A4:=[]
def B0l:A4:=[(4,.d A1)]
def C6j:I0:=[(2,B6D),(1,B0l)]
def C1a(F n:Nat):B8 B43:=fun x K=>Y1 F (K (.exit 0) (enc B6D (()))) (fun y4=>K .ret (enc B0l (y4,()))) n x.1 x.2.2.1 x.2.2.2.1
def D9y(F:Nat):C8 D5f:=A5 [(2,⟨B43,C1a F F⟩)]
theorem D5g(F:Nat)(fr:Frm)(hn:(D9w F).ntmps=fr.n)(n:Nat):D2 D5f f178 fr [1,0,1,0,0] B43 (C1a F n) :=
 D4 (D9y F) (A5 []) C6j rfl (D9x F) hn (m:=fun n=>C1a F n) (fun _ _=>rfl) (fun n x K=>by kernel_rfl) (B0 (by kernel_rfl)) n
theorem E9l(F:Nat):CSound prog 178 (D1Q F) :=
 B3 (fn:=f178) (D9y F) (A5 []) rfl func178 (by kernel_rfl) (D9x F) (fun fr hn=>(C3 (l:=[((.loop (sub (A7 f178) [1,0,1,0,0])),⟨B43,C1a F F⟩)]) (by kernel_rfl) (A9 (D5g F fr hn F) B6))) (fun x=>by kernel_rfl)
def D5h:Sig:=⟨[.ro,.ro,.ro],[(0,.d C6),(1,.d A1),(2,.d A1)],false,none,[C6,A1]⟩
def C6k(F:Nat):Contract:=C0 D5h fun x=>A4J F x.1 x.2.1 x.2.2.1
def D9z(F:Nat):Cx:=B2 [(178,D1Q F)] [6,25,53] (0,54)
theorem D9A(F:Nat):A8 (D9z F):=A2 (A0 (E9l F) A3)
def B44:A4:=[(0,.d C6),(8,.d A1),(27,.d .bool)]
def B6E:A4:=[(0,.d C6),(8,.d A1)]
def B0m:A4:=[(6,.own 6 I6 5),(7,.d A1)]
def C6l:I0:=[(0,B6E),(1,B0m)]
def C6m(F:Nat):B8 B44:=fun x K=>A2S F (fun y0 y8=>K .normal (enc B6E (y0,y8,()))) (fun y6 y7=>K .ret (enc B0m (y6,y7,()))) x.1 x.2.1 x.2.2.1
def D9B(F:Nat):C8 D5h:=A5 [(6,⟨B44,C6m F⟩)]
theorem D5i(F:Nat)(fr:Frm)(hn:(D9z F).ntmps=fr.n):L9 D5h f148 fr [1,1,1,1,0,0,1] B44 (C6m F) :=
 N5 (A5 []) (D9B F) C6l rfl (D9A F) hn (fun x K=>by kernel_rfl) (B0 (by kernel_rfl))
theorem E66(F:Nat):CSound prog 148 (C6k F) :=
 B3 (fn:=f148) (A5 []) (D9B F) rfl func148 (by kernel_rfl) (D9A F) (fun fr hn=>(C3 (l:=[((sub (A7 f148) [1,1,1,1,0,0,1]),⟨B44,C6m F⟩)]) (by kernel_rfl) (A9 (D5i F fr hn) B6))) (fun x=>by kernel_rfl)
def C6n:Sig:=⟨[.ro,.ro],[(0,.d C6),(1,.d A1)],true,none,[A6,A1,A1]⟩
def C6o(F:Nat):Contract:=C0 C6n fun x=>A6D F x.1 x.2.1
def D5j(F:Nat):Cx:=B2 [(148,C6k F)] [] (0,51)
theorem D5k(F:Nat):A8 (D5j F):=A2 (A0 (E66 F) A3)
def B45:A4:=[(1,.d A1),(7,.d C6),(9,.d A6),(30,.d C6),(31,.d A1),(32,.d A1)]
def B6F:A4:=[(1,.d A1),(7,.d C6),(9,.d A6)]
def C6p:I0:=[(2,B6F)]
def C1b(F n:Nat):B8 B45:=fun x K=>A43 F (fun y1 y7 y9=>K (.exit 0) (enc B6F (y1,y7,y9,()))) n x.1 x.2.1 x.2.2.1 x.2.2.2.1 x.2.2.2.2.1 x.2.2.2.2.2.1
def B46:A4:=[(1,.d A1),(7,.d C6)]
def B0n:A4:=[(4,.d A6),(5,.d A1),(6,.d A1)]
def C6q:I0:=[(1,B0n)]
def C6r(F:Nat):B8 B46:=fun x K=>A44 F (fun y4 y5 y6=>K .ret (enc B0n (y4,y5,y6,()))) x.1 x.2.1
def D5l(F:Nat):C8 C6n:=A5 [(8,⟨B45,C1b F F⟩)]
def D5m(F:Nat):C8 C6n:=A5 [(6,⟨B46,C6r F⟩)]
theorem D5n(F:Nat)(fr:Frm)(hn:(D5j F).ntmps=fr.n)(n:Nat):D2 C6n f101 fr [1,1,1,1,1,0,1,0,0] B45 (C1b F n) :=
 D4 (D5l F) (D5m F) C6p rfl (D5k F) hn (m:=fun n=>C1b F n) (fun _ _=>rfl) (fun n x K=>by kernel_rfl) (B0 (by kernel_rfl)) n
theorem D5o(F:Nat)(fr:Frm)(hn:(D5j F).ntmps=fr.n):L9 C6n f101 fr [1,1,1,1] B46 (C6r F) :=
 N5 (D5l F) (D5m F) C6q rfl (D5k F) hn (fun x K=>by kernel_rfl) (C3 (l:=[((.loop (sub (A7 f101) [1,1,1,1,1,0,1,0,0])),⟨B45,C1b F F⟩)]) (by kernel_rfl) (A9 (D5n F fr hn F) B6))
theorem E67(F:Nat):CSound prog 101 (C6o F) :=
 B3 (fn:=f101) (D5l F) (D5m F) rfl func101 (by kernel_rfl) (D5k F) (fun fr hn=>(C3 (l:=[((sub (A7 f101) [1,1,1,1]),⟨B46,C6r F⟩)]) (by kernel_rfl) (A9 (D5o F fr hn) B6))) (fun x=>by kernel_rfl)
def E9m:Sig:=⟨[.ro,.ro,.ro],[(0,.d C6),(1,.d A1),(2,.d A1)],true,none,[A1,A1,A1]⟩
def D9C(F:Nat):Contract:=C0 E9m fun x=>A6e F x.1 x.2.1 x.2.2.1
def E9n(F:Nat):Cx:=B2 [(101,C6o F)] [] (0,31)
theorem E9o(F:Nat):A8 (E9n F):=A2 (A0 (E67 F) A3)
theorem s47(F:Nat):CSound prog 47 (D9C F) :=
 B3 (fn:=f47) (A5 []) (A5 []) rfl func47 (by kernel_rfl) (E9o F) (fun fr hn=>(B0 (by kernel_rfl))) (fun x=>by kernel_rfl)
def D5p:Sig:=⟨[.ro,.ro,.ro],[(0,.d C6),(1,.d A1),(2,.d A1)],false,some (0,49),[C1,A1,A1]⟩
def D1S(F:Nat):Contract:=C0 D5p fun x=>A1W F x.1 x.2.1 x.2.2.1
def D9D(F:Nat):Cx:=B2 [(101,C6o F)] [6,19] (0,41)
theorem D9E(F:Nat):A8 (D9D F):=A2 (A0 (E67 F) A3)
def B47:A4:=[(0,.d C6),(1,.d A1),(9,.own 9 A6 49),(20,.d A1),(21,.d A1)]
def B6G:A4:=[(1,.d A1),(9,.own 9 A6 49)]
def B0o:A4:=[(6,.own 6 A6 49),(7,.d A1),(8,.d A1)]
def C6s:I0:=[(2,B6G),(1,B0o)]
def C1c(F n:Nat):B8 B47:=fun x K=>A2T F (fun y1 y9=>K (.exit 0) (enc B6G (y1,y9,()))) (fun y6 y7 y8=>K .ret (enc B0o (y6,y7,y8,()))) n x.1 x.2.1 x.2.2.1 x.2.2.2.1 x.2.2.2.2.1
def D9F(F:Nat):C8 D5p:=A5 [(3,⟨B47,C1c F F⟩)]
theorem D5q(F:Nat)(fr:Frm)(hn:(D9D F).ntmps=fr.n)(n:Nat):D2 D5p f104 fr [1,1,0,1,0,0] B47 (C1c F n) :=
 D4 (D9F F) (A5 []) C6s rfl (D9E F) hn (m:=fun n=>C1c F n) (fun _ _=>rfl) (fun n x K=>by kernel_rfl) (B0 (by kernel_rfl)) n
theorem E9p(F:Nat):CSound prog 104 (D1S F) :=
 B3 (fn:=f104) (D9F F) (A5 []) rfl func104 (by kernel_rfl) (D9E F) (fun fr hn=>(C3 (l:=[((.loop (sub (A7 f104) [1,1,0,1,0,0])),⟨B47,C1c F F⟩)]) (by kernel_rfl) (A9 (D5q F fr hn F) B6))) (fun x=>by kernel_rfl)
def C9T:Sig:=⟨[.ro,.ro,.ro],[(0,.d C6),(1,.d A1),(2,.d A1)],false,some (0,49),[C1,.bool]⟩
def D1T(F:Nat):Contract:=C0 C9T fun x=>A6f F x.1 x.2.1 x.2.2.1
def D5r(F:Nat):Cx:=B2 [(152,C0j F)] [6,21] (0,81)
theorem D5s(F:Nat):A8 (D5r F):=A2 (A0 (E3G F) A3)
def B48:A4:=[(0,.d C6),(2,.d A1),(8,.own 8 A6 49),(9,.d A1),(10,.d A1),(11,.d A1),(23,.d A1),(24,.d A1)]
def B6H:A4:=[(0,.d C6),(2,.d A1),(8,.own 8 A6 49),(9,.d A1),(23,.d A1),(24,.d A1)]
def C6t:I0:=[(4,B6H)]
def C1d(F n:Nat):B8 B48:=fun x K=>A2g F (fun y0 y2 y8 y9 y23 y24=>K (.exit 2) (enc B6H (y0,y2,y8,y9,y23,y24,()))) n x.1 x.2.1 x.2.2.1 x.2.2.2.1 x.2.2.2.2.1 x.2.2.2.2.2.1 x.2.2.2.2.2.2.1 x.2.2.2.2.2.2.2.1
def B49:A4:=[(0,.d C6),(2,.d A1),(8,.own 8 A6 49),(9,.d A1),(23,.d A1),(24,.d A1)]
def B6I:A4:=[(0,.d C6),(8,.own 8 A6 49),(9,.d A1)]
def C6u:I0:=[(2,B6I)]
def C1e(F n:Nat):B8 B49:=fun x K=>A2h F (fun y0 y8 y9=>K (.exit 0) (enc B6I (y0,y8,y9,()))) n x.1 x.2.1 x.2.2.1 x.2.2.2.1 x.2.2.2.2.1 x.2.2.2.2.2.1
def D5t(F:Nat):C8 C9T:=A5 [(9,⟨B48,C1d F F⟩),(6,⟨B49,C1e F F⟩)]
theorem D5u(F:Nat)(fr:Frm)(hn:(D5r F).ntmps=fr.n)(n:Nat):D2 C9T f153 fr [1,1,1,1,0,1,0,0,1,1,0,0,1,1,0,0] B48 (C1d F n) :=
 D4 (D5t F) (A5 []) C6t rfl (D5s F) hn (m:=fun n=>C1d F n) (fun _ _=>rfl) (fun n x K=>by kernel_rfl) (B0 (by kernel_rfl)) n
theorem D5v(F:Nat)(fr:Frm)(hn:(D5r F).ntmps=fr.n)(n:Nat):D2 C9T f153 fr [1,1,1,1,0,1,0,0] B49 (C1e F n) :=
 D4 (D5t F) (A5 []) C6u rfl (D5s F) hn (m:=fun n=>C1e F n) (fun _ _=>rfl) (fun n x K=>by kernel_rfl) (C3 (l:=[((.loop (sub (A7 f153) [1,1,1,1,0,1,0,0,1,1,0,0,1,1,0,0])),⟨B48,C1d F F⟩)]) (by kernel_rfl) (A9 (D5u F fr hn F) B6)) n
theorem E9q(F:Nat):CSound prog 153 (D1T F) :=
 B3 (fn:=f153) (D5t F) (A5 []) rfl func153 (by kernel_rfl) (D5s F) (fun fr hn=>(C3 (l:=[((.loop (sub (A7 f153) [1,1,1,1,0,1,0,0])),⟨B49,C1e F F⟩)]) (by kernel_rfl) (A9 (D5v F fr hn F) B6))) (fun x=>by kernel_rfl)
def E4p:Sig:=⟨[.ro,.ro,.ro],[(0,.d C6),(1,.d A1),(2,.d A1)],false,some (0,49),[C1,A1,A1]⟩
def D1U(F:Nat):Contract:=C0 E4p fun x=>A14 F x.1 x.2.1 x.2.2.1
def E4q(F:Nat):Cx:=B2 [(152,C0j F),(153,D1T F)] [6,49] (0,58)
theorem E4r(F:Nat):A8 (E4q F):=A2 (A0 (E3G F) (A0 (E9q F) A3))
theorem E9r(F:Nat):CSound prog 105 (D1U F) :=
 B3 (fn:=f105) (A5 []) (A5 []) rfl func105 (by kernel_rfl) (E4r F) (fun fr hn=>(B0 (by kernel_rfl))) (fun x=>by kernel_rfl)
def D5w:Sig:=⟨[.ro,.ro],[(0,.d C6),(1,.d C6)],true,none,[.bool]⟩
def C6v(F:Nat):Contract:=C0 D5w fun x=>E9 F x.1 x.2.1
def D9G(F:Nat):Cx:=B2 [] [] (0,26)
theorem D9H(F:Nat):A8 (D9G F):=A2 A3
def B4a:A4:=[(0,.d C6),(1,.d C6),(12,.d A1),(13,.d A1)]
def B6J:A4:=[]
def B0p:A4:=[(4,.d .bool)]
def C6w:I0:=[(2,B6J),(1,B0p)]
def C1f(F n:Nat):B8 B4a:=fun x K=>A0Z F (K (.exit 0) (enc B6J (()))) (fun y4=>K .ret (enc B0p (y4,()))) n x.1 x.2.1 x.2.2.1 x.2.2.2.1
def D9I(F:Nat):C8 D5w:=A5 [(4,⟨B4a,C1f F F⟩)]
theorem D5x(F:Nat)(fr:Frm)(hn:(D9G F).ntmps=fr.n)(n:Nat):D2 D5w f106 fr [1,1,0,1,0,0] B4a (C1f F n) :=
 D4 (D9I F) (A5 []) C6w rfl (D9H F) hn (m:=fun n=>C1f F n) (fun _ _=>rfl) (fun n x K=>by kernel_rfl) (B0 (by kernel_rfl)) n
theorem E68(F:Nat):CSound prog 106 (C6v F) :=
 B3 (fn:=f106) (D9I F) (A5 []) rfl func106 (by kernel_rfl) (D9H F) (fun fr hn=>(C3 (l:=[((.loop (sub (A7 f106) [1,1,0,1,0,0])),⟨B4a,C1f F F⟩)]) (by kernel_rfl) (A9 (D5x F fr hn F) B6))) (fun x=>by kernel_rfl)
def E4s:Sig:=⟨[.ro,.ro,.ro],[(0,.d C6),(1,.d A1),(2,.d A1)],false,none,[C1,A1,A1]⟩
def C9U(F:Nat):Contract:=C0 E4s fun x=>W5 F x.1 x.2.1 x.2.2.1
def E69(F:Nat):Cx:=B2 [(105,D1U F),(72,C9e F),(106,C6v F),(104,D1S F)] [6] (0,78)
theorem E6a(F:Nat):A8 (E69 F):=A2 (A0 (E9r F) (A0 (s72 F) (A0 (E68 F) (A0 (E9p F) A3))))
def C1g:A4:=[(0,.d C6),(1,.d A1),(2,.d A1),(14,.d .bool)]
def C1h:A4:=[(0,.d C6),(1,.d A1),(2,.d A1)]
def B27:A4:=[(6,.own 6 A6 49),(7,.d A1),(8,.d A1)]
def C9V:I0:=[(0,C1h),(1,B27)]
def D5y(F:Nat):B8 C1g:=fun x K=>Y2 F (fun y0 y1 y2=>K .normal (enc C1h (y0,y1,y2,()))) (fun y6 y7 y8=>K .ret (enc B27 (y6,y7,y8,()))) x.1 x.2.1 x.2.2.1 x.2.2.2.1
def E6b(F:Nat):C8 E4s:=A5 [(2,⟨C1g,D5y F⟩)]
theorem D9J(F:Nat)(fr:Frm)(hn:(E69 F).ntmps=fr.n):L9 E4s f50 fr [1,0,0,1] C1g (D5y F) :=
 N5 (A5 []) (E6b F) C9V rfl (E6a F) hn (fun x K=>by kernel_rfl) (B0 (by kernel_rfl))
theorem s50(F:Nat):CSound prog 50 (C9U F) :=
 B3 (fn:=f50) (A5 []) (E6b F) rfl func50 (by kernel_rfl) (E6a F) (fun fr hn=>(C3 (l:=[((sub (A7 f50) [1,0,0,1]),⟨C1g,D5y F⟩)]) (by kernel_rfl) (A9 (D9J F fr hn) B6))) (fun x=>by kernel_rfl)
def E4t:Sig:=⟨[.ro],[(0,.d A6)],true,none,[A1]⟩
def D1V(F:Nat):Contract:=C0 E4t fun x=>A5c F x.1
def E4u(F:Nat):Cx:=B2 [] [] (0,11)
theorem E4v(F:Nat):A8 (E4u F):=A2 A3
theorem E9s(F:Nat):CSound prog 149 (D1V F) :=
 B3 (fn:=f149) (A5 []) (A5 []) rfl func149 (by kernel_rfl) (E4v F) (fun fr hn=>(B0 (by kernel_rfl))) (fun x=>by kernel_rfl)
def C2Y:Sig:=⟨[.ro,.ro,.ro],[(0,.d C6),(1,.d A1),(2,.d A1)],false,none,[G1,A1,A1]⟩
def D1W(F:Nat):Contract:=C0 C2Y fun x=>A5d F x.1 x.2.1 x.2.2.1
def C9W(F:Nat):Cx:=B2 [(50,C9U F),(149,D1V F),(125,C61 F),(30,D4U F),(106,C6v F)] [6,57] (0,96)
theorem C9X(F:Nat):A8 (C9W F):=A2 (A0 (s50 F) (A0 (E9s F) (A0 (E3v F) (A0 (s30 F) (A0 (E68 F) A3)))))
def B4b:A4:=[(0,.d C6),(1,.d A1),(2,.d A1),(16,.d .bool)]
def B6K:A4:=[(0,.d C6),(1,.d A1),(2,.d A1)]
def B0q:A4:=[(6,.own 6 A1 2),(7,.d A1),(8,.d A1)]
def C6x:I0:=[(0,B6K),(1,B0q)]
def C6y(F:Nat):B8 B4b:=fun x K=>V4 F (fun y0 y1 y2=>K .normal (enc B6K (y0,y1,y2,()))) (fun y6 y7 y8=>K .ret (enc B0q (y6,y7,y8,()))) x.1 x.2.1 x.2.2.1 x.2.2.2.1
def A9b:A4:=[(0,.d C6),(1,.d A1),(10,.d A1),(12,.own 12 A1 2),(58,.d C1),(59,.d A1),(60,.d A1)]
def B28:A4:=[(0,.d C6),(1,.d A1),(10,.d A1),(12,.own 12 A1 2)]
def C2Z:I0:=[(3,B28)]
def B4c(F n:Nat):B8 A9b:=fun x K=>A1l F (fun y0 y1 y10 y12=>K (.exit 1) (enc B28 (y0,y1,y10,y12,()))) n x.1 x.2.1 x.2.2.1 x.2.2.2.1 x.2.2.2.2.1 x.2.2.2.2.2.1 x.2.2.2.2.2.2.1
def A9c:A4:=[(0,.d C6),(1,.d A1),(10,.d A1),(12,.own 12 A1 2),(58,.d C1),(59,.d A1),(60,.d A1)]
def B29:A4:=[(0,.d C6),(1,.d A1),(10,.d A1),(12,.own 12 A1 2)]
def C30:I0:=[(0,B29)]
def B8l(F:Nat):B8 A9c:=fun x K=>T6 F (fun y0 y1 y10 y12=>K .normal (enc B29 (y0,y1,y10,y12,()))) x.1 x.2.1 x.2.2.1 x.2.2.2.1 x.2.2.2.2.1 x.2.2.2.2.2.1 x.2.2.2.2.2.2.1
def C9Y(F:Nat):C8 C2Y:=A5 [(12,⟨A9b,B4c F F⟩)]
def C9Z(F:Nat):C8 C2Y:=A5 [(2,⟨B4b,C6y F⟩),(12,⟨A9c,B8l F⟩)]
theorem D5z(F:Nat)(fr:Frm)(hn:(C9W F).ntmps=fr.n):L9 C2Y f102 fr [1,0,0,1] B4b (C6y F) :=
 N5 (C9Y F) (C9Z F) C6x rfl (C9X F) hn (fun x K=>by kernel_rfl) (B0 (by kernel_rfl))
theorem D00(F:Nat)(fr:Frm)(hn:(C9W F).ntmps=fr.n)(n:Nat):D2 C2Y f102 fr [1,1,1,1,1,0,1,0,0] A9b (B4c F n) :=
 D4 (C9Y F) (C9Z F) C2Z rfl (C9X F) hn (m:=fun n=>B4c F n) (fun _ _=>rfl) (fun n x K=>by kernel_rfl) (B0 (by kernel_rfl)) n
theorem D01(F:Nat)(fr:Frm)(hn:(C9W F).ntmps=fr.n):L9 C2Y f102 fr [1,1,1,1,1,0,1] A9c (B8l F) :=
 N5 (C9Y F) (C9Z F) C30 rfl (C9X F) hn (fun x K=>by kernel_rfl) (C3 (l:=[((.loop (sub (A7 f102) [1,1,1,1,1,0,1,0,0])),⟨A9b,B4c F F⟩)]) (by kernel_rfl) (A9 (D00 F fr hn F) B6))
theorem E9t(F:Nat):CSound prog 102 (D1W F) :=
 B3 (fn:=f102) (C9Y F) (C9Z F) rfl func102 (by kernel_rfl) (C9X F) (fun fr hn=>(C3 (l:=[((sub (A7 f102) [1,0,0,1]),⟨B4b,C6y F⟩),((sub (A7 f102) [1,1,1,1,1,0,1]),⟨A9c,B8l F⟩)]) (by kernel_rfl) (A9 (D5z F fr hn) (A9 (D01 F fr hn) B6)))) (fun x=>by kernel_rfl)
def C6z:Sig:=⟨[.ro,.ro],[(0,.d C6),(1,.d A1)],true,none,[tyV,A1,A1]⟩
def D1X(F:Nat):Contract:=C0 C6z fun x=>A5e F x.1 x.2.1
def D02(F:Nat):Cx:=B2 [(148,C6k F),(81,C5x F)] [] (0,94)
theorem D03(F:Nat):A8 (D02 F):=A2 (A0 (E66 F) (A0 (s81 F) A3))
def B4d:A4:=[(1,.d A1),(4,.box 4 tyV),(7,.d C6),(9,.box 9 (.arr 5 A6)),(10,.d A1),(11,.d A1)]
def B6L:A4:=[(1,.d A1),(4,.box 4 tyV),(7,.d C6),(9,.box 9 (.arr 5 A6)),(10,.d A1)]
def C6A:I0:=[(4,B6L)]
def C1i(F n:Nat):B8 B4d:=fun x K=>A1X F (fun y1 y4 y7 y9 y10=>K (.exit 2) (enc B6L (y1,y4,y7,y9,y10,()))) n x.1 x.2.1 x.2.2.1 x.2.2.2.1 x.2.2.2.2.1 x.2.2.2.2.2.1
def B4e:A4:=[(1,.d A1),(4,.box 4 tyV),(7,.d C6),(9,.box 9 (.arr 5 A6)),(10,.d A1)]
def B6N:A4:=[(1,.d A1),(4,.box 4 tyV),(7,.d C6),(9,.box 9 (.arr 5 A6))]
def C6B:I0:=[(2,B6N)]
def C1j(F n:Nat):B8 B4e:=fun x K=>A1Y F (fun y1 y4 y7 y9=>K (.exit 0) (enc B6N (y1,y4,y7,y9,()))) n x.1 x.2.1 x.2.2.1 x.2.2.2.1 x.2.2.2.2.1
def A9d:A4:=[(1,.d A1),(4,.box 4 tyV),(7,.d C6),(9,.box 9 (.arr 5 A6)),(12,.box 12 tyV),(63,.d A1)]
def B2a:A4:=[(1,.d A1),(4,.box 4 tyV),(7,.d C6),(9,.box 9 (.arr 5 A6)),(12,.box 12 tyV)]
def C31:I0:=[(6,B2a)]
def B4f(F n:Nat):B8 A9d:=fun x K=>A1m F (fun y1 y4 y7 y9 y12=>K (.exit 4) (enc B2a (y1,y4,y7,y9,y12,()))) n x.1 x.2.1 x.2.2.1 x.2.2.2.1 x.2.2.2.2.1 x.2.2.2.2.2.1
def D04(F:Nat):C8 C6z:=A5 [(9,⟨B4d,C1i F F⟩),(6,⟨B4e,C1j F F⟩),(15,⟨A9d,B4f F F⟩)]
theorem D5A(F:Nat)(fr:Frm)(hn:(D02 F).ntmps=fr.n)(n:Nat):D2 C6z f151 fr [1,1,1,1,0,1,0,0,1,0,0,0,1,0,0] B4d (C1i F n) :=
 D4 (D04 F) (A5 []) C6A rfl (D03 F) hn (m:=fun n=>C1i F n) (fun _ _=>rfl) (fun n x K=>by kernel_rfl) (B0 (by kernel_rfl)) n
theorem D5B(F:Nat)(fr:Frm)(hn:(D02 F).ntmps=fr.n)(n:Nat):D2 C6z f151 fr [1,1,1,1,0,1,0,0] B4e (C1j F n) :=
 D4 (D04 F) (A5 []) C6B rfl (D03 F) hn (m:=fun n=>C1j F n) (fun _ _=>rfl) (fun n x K=>by kernel_rfl) (C3 (l:=[((.loop (sub (A7 f151) [1,1,1,1,0,1,0,0,1,0,0,0,1,0,0])),⟨B4d,C1i F F⟩)]) (by kernel_rfl) (A9 (D5A F fr hn F) B6)) n
theorem D05(F:Nat)(fr:Frm)(hn:(D02 F).ntmps=fr.n)(n:Nat):D2 C6z f151 fr [1,1,1,1,1,1,0,1,0,0] A9d (B4f F n) :=
 D4 (D04 F) (A5 []) C31 rfl (D03 F) hn (m:=fun n=>B4f F n) (fun _ _=>rfl) (fun n x K=>by kernel_rfl) (B0 (by kernel_rfl)) n
theorem E9u(F:Nat):CSound prog 151 (D1X F) :=
 B3 (fn:=f151) (D04 F) (A5 []) rfl func151 (by kernel_rfl) (D03 F) (fun fr hn=>(C3 (l:=[((.loop (sub (A7 f151) [1,1,1,1,0,1,0,0])),⟨B4e,C1j F F⟩),((.loop (sub (A7 f151) [1,1,1,1,1,1,0,1,0,0])),⟨A9d,B4f F F⟩)]) (by kernel_rfl) (A9 (D5B F fr hn F) (A9 (D05 F fr hn F) B6)))) (fun x=>by kernel_rfl)
def D5C:Sig:=⟨[.ro,.ro],[(0,.d C6),(1,.d A1)],true,none,[E4,A1,A1]⟩
def D1Y(F:Nat):Contract:=C0 D5C fun x=>A7k F x.1 x.2.1
def D9K(F:Nat):Cx:=B2 [(151,D1X F),(82,C5y F),(40,C8Z F)] [] (0,49)
theorem D9L(F:Nat):A8 (D9K F):=A2 (A0 (E9u F) (A0 (s82 F) (A0 (s40 F) A3)))
def B4g:A4:=[(0,.d C6),(1,.d A1),(4,.box 4 E4),(7,.box 7 (.arr 2 tyV)),(13,.d A1)]
def B6O:A4:=[(1,.d A1),(4,.box 4 E4),(7,.box 7 (.arr 2 tyV))]
def B0r:A4:=[(4,.box 4 E4),(5,.d A1),(6,.d A1)]
def C6C:I0:=[(2,B6O),(1,B0r)]
def C1k(F n:Nat):B8 B4g:=fun x K=>A2U F (fun y1 y4 y7=>K (.exit 0) (enc B6O (y1,y4,y7,()))) (fun y4 y5 y6=>K .ret (enc B0r (y4,y5,y6,()))) n x.1 x.2.1 x.2.2.1 x.2.2.2.1 x.2.2.2.2.1
def D9N(F:Nat):C8 D5C:=A5 [(3,⟨B4g,C1k F F⟩)]
theorem D5D(F:Nat)(fr:Frm)(hn:(D9K F).ntmps=fr.n)(n:Nat):D2 D5C f103 fr [1,1,0,1,0,0] B4g (C1k F n) :=
 D4 (D9N F) (A5 []) C6C rfl (D9L F) hn (m:=fun n=>C1k F n) (fun _ _=>rfl) (fun n x K=>by kernel_rfl) (B0 (by kernel_rfl)) n
theorem E9v(F:Nat):CSound prog 103 (D1Y F) :=
 B3 (fn:=f103) (D9N F) (A5 []) rfl func103 (by kernel_rfl) (D9L F) (fun fr hn=>(C3 (l:=[((.loop (sub (A7 f103) [1,1,0,1,0,0])),⟨B4g,C1k F F⟩)]) (by kernel_rfl) (A9 (D5D F fr hn F) B6))) (fun x=>by kernel_rfl)
def E4w:Sig:=⟨[.ro,.ro,.ro],[(0,.d C6),(1,.d A1),(2,.d A1)],false,some (0,56),[(.slice (.pair A1 (.pair E4 (.pair .nil .unit)))),A1,A1]⟩
def D9O(F:Nat):Contract:=C0 E4w fun x=>A5f F x.1 x.2.1 x.2.2.1
def E0D(F:Nat):Cx:={ types:=B7m,call:=A4c [(102,D1W F),(103,D1Y F)],own:=[6,29],ntmps:=(0,57) }
theorem E6c(F:Nat):A8 (E0D F):=A2 (A0 (E9t F) (A0 (E9v F) A3))
def C1l:A4:=[(0,.d C6),(1,.d A1),(11,.own 11 (.pair A1 (.pair E4 (.pair .nil .unit))) 56),(30,.d G1),(31,.d A1),(32,.d A1)]
def C1m:A4:=[(1,.d A1),(11,.own 11 (.pair A1 (.pair E4 (.pair .nil .unit))) 56)]
def B2b:A4:=[(6,.own 6 (.pair A1 (.pair E4 (.pair .nil .unit))) 56),(7,.d A1),(8,.d A1)]
def D06:I0:=[(2,C1m),(1,B2b)]
def D07(F n:Nat):B8 C1l:=fun x K=>A1Z F (fun y1 y11=>K (.exit 0) (enc C1m (y1,y11,()))) (fun y6 y7 y8=>K .ret (enc B2b (y6,y7,y8,()))) n x.1 x.2.1 x.2.2.1 x.2.2.2.1 x.2.2.2.2.1 x.2.2.2.2.2.1
def E6d(F:Nat):C8 E4w:=A5 [(6,⟨C1l,D07 F F⟩)]
theorem D9P(F:Nat)(fr:Frm)(hn:(E0D F).ntmps=fr.n)(n:Nat):D2 E4w f48 fr [1,1,1,1,0,1,0,0] C1l (D07 F n) :=
 B1u (cx:=E0D F) (hs:=E6d F) (js:=A5 []) (outs:=D06) (B5E _ rfl) (E6c F) hn mix (m:=fun n=>D07 F n) (fun _ _=>rfl) (fun n x K=>by kernel_rfl) (B0 (by kernel_rfl)) n
theorem s48(F:Nat):CSound prog 48 (D9O F) :=
 B2F (fn:=f48) (code:=(A7 f48)) (cx:=E0D F) (hs:=E6d F) (js:=A5 []) func48 (by kernel_rfl) (by kernel_rfl) (B5E _ rfl) (E6c F) mix (by kernel_rfl) (by kernel_rfl) (fun fr hn=>(C3 (l:=[((.loop (sub (A7 f48) [1,1,1,1,0,1,0,0])),⟨C1l,D07 F F⟩)]) (by kernel_rfl) (A9 (D9P F fr hn F) B6))) (fun x=>by kernel_rfl)
def E4x:Sig:=⟨[.ro,.ro,.ro,.ro],[(0,.d C6),(1,.d A1),(2,.d A1),(3,.d A1)],false,some (0,3),[G1,A1,A1,A1]⟩
def D9Q(F:Nat):Contract:=C0 E4x fun x=>A6g F x.1 x.2.1 x.2.2.1 x.2.2.2.1
def E6e(F:Nat):Cx:=B2 [(50,C9U F)] [8,31] (0,61)
theorem E6f(F:Nat):A8 (E6e F):=A2 (A0 (s50 F) A3)
def C1n:A4:=[(3,.d A1),(13,.d A1),(15,.own 15 A1 3),(16,.d A1),(32,.d C1),(33,.d A1),(34,.d A1)]
def C1o:A4:=[(13,.d A1),(15,.own 15 A1 3),(16,.d A1)]
def D08:I0:=[(2,C1o)]
def D09(F n:Nat):B8 C1n:=fun x K=>A2i F (fun y13 y15 y16=>K (.exit 0) (enc C1o (y13,y15,y16,()))) n x.1 x.2.1 x.2.2.1 x.2.2.2.1 x.2.2.2.2.1 x.2.2.2.2.2.1 x.2.2.2.2.2.2.1
def E6g(F:Nat):C8 E4x:=A5 [(7,⟨C1n,D09 F F⟩)]
theorem D9S(F:Nat)(fr:Frm)(hn:(E6e F).ntmps=fr.n)(n:Nat):D2 E4x f49 fr [1,1,1,1,1,0,1,0,0] C1n (D09 F n) :=
 D4 (E6g F) (A5 []) D08 rfl (E6f F) hn (m:=fun n=>D09 F n) (fun _ _=>rfl) (fun n x K=>by kernel_rfl) (B0 (by kernel_rfl)) n
theorem s49(F:Nat):CSound prog 49 (D9Q F) :=
 B3 (fn:=f49) (E6g F) (A5 []) rfl func49 (by kernel_rfl) (E6f F) (fun fr hn=>(C3 (l:=[((.loop (sub (A7 f49) [1,1,1,1,1,0,1,0,0])),⟨C1n,D09 F F⟩)]) (by kernel_rfl) (A9 (D9S F fr hn F) B6))) (fun x=>by kernel_rfl)
def E4y:Sig:=⟨[.wr 56,.ro,.ro,.ro],[(0,.own 0 (.pair A1 (.pair E4 (.pair .nil .unit))) 56),(1,.d G1),(2,.d C1),(3,.d A1)],false,none,[(.slice D5),.bool]⟩
def D9T(F:Nat):Contract:=C0 E4y fun x=>A6h F x.1 x.2.1 x.2.2.1 x.2.2.2.1
def E6h(F:Nat):Cx:=B2 [] [] (1,54)
theorem E9w(F:Nat):A8 (E6h F):=A2 A3
def C1p:A4:=[(0,.own 0 (.pair A1 (.pair E4 (.pair .nil .unit))) 56),(2,.d C1),(3,.d A1),(12,.d G1),(13,.d A1),(14,.d A1)]
def C1q:A4:=[(0,.own 0 D5 56)]
def B2c:A4:=[(0,.own 0 D5 56),(8,.d .bool)]
def E0E:I0:=[(2,C1q),(1,B2c)]
def D5E(F n:Nat):B8 C1p:=fun x K=>A0T F (fun y0=>K (.exit 0) (enc C1q (y0,()))) (fun y0 y8=>K .ret (enc B2c (y0,y8,()))) n x.1 x.2.1 x.2.2.1 x.2.2.2.1 x.2.2.2.2.1 x.2.2.2.2.2.1
def E9x(F:Nat):C8 E4y:=A5 [(2,⟨C1p,D5E F F⟩)]
theorem D9U(F:Nat)(fr:Frm)(hn:(E6h F).ntmps=fr.n)(n:Nat):D2 E4y f51 fr [1,0,1,0,0] C1p (D5E F n):=C2D F fr hn n
theorem s51(F:Nat):CSound prog 51 (D9T F) :=
 B3 (fn:=f51) (E9x F) (A5 []) rfl func51 (by kernel_rfl) (E9w F) (fun fr hn=>(C3 (l:=[((.loop (sub (A7 f51) [1,0,1,0,0])),⟨C1p,D5E F F⟩)]) (by kernel_rfl) (A9 (D9U F fr hn F) B6))) (fun x=>by kernel_rfl)
def E9y:Sig:=⟨[.ro],[(0,.d D5)],true,none,[.bool]⟩
def D9V(F:Nat):Contract:=C0 E9y fun x=>A4m F x.1
def E9z(F:Nat):Cx:=B2 [] [] (0,8)
theorem E9A(F:Nat):A8 (E9z F):=A2 A3
theorem s53(F:Nat):CSound prog 53 (D9V F) :=
 B3 (fn:=f53) (A5 []) (A5 []) rfl func53 (by kernel_rfl) (E9A F) (fun fr hn=>(B0 (by kernel_rfl))) (fun x=>by kernel_rfl)
def D5F:Sig:=⟨[.ro,.ro],[(0,.d (.slice D5)),(1,.fn 53)],true,none,[A1]⟩
def D1Z(F:Nat):Contract:=C0 D5F fun x=>A15 F x.1
def D9W(F:Nat):Cx:=B2 [(53,D9V F)] [] (0,19)
theorem D9X(F:Nat):A8 (D9W F):=A2 (A0 (s53 F) A3)
def B4h:A4:=[(0,.d (.slice D5)),(1,.fn 53),(7,.d A1),(8,.d A1)]
def B6P:A4:=[]
def B0s:A4:=[(4,.d A1)]
def C6D:I0:=[(2,B6P),(1,B0s)]
def C1r(F n:Nat):B8 B4h:=fun x K=>Q9 F (K (.exit 0) (enc B6P (()))) (fun y4=>K .ret (enc B0s (y4,()))) n x.1 x.2.2.1 x.2.2.2.1
def D9Y(F:Nat):C8 D5F:=A5 [(2,⟨B4h,C1r F F⟩)]
theorem D5G(F:Nat)(fr:Frm)(hn:(D9W F).ntmps=fr.n)(n:Nat):D2 D5F f107 fr [1,0,1,0,0] B4h (C1r F n) :=
 D4 (D9Y F) (A5 []) C6D rfl (D9X F) hn (m:=fun n=>C1r F n) (fun _ _=>rfl) (fun n x K=>by kernel_rfl) (B0 (by kernel_rfl)) n
theorem E9B(F:Nat):CSound prog 107 (D1Z F) :=
 B3 (fn:=f107) (D9Y F) (A5 []) rfl func107 (by kernel_rfl) (D9X F) (fun fr hn=>(C3 (l:=[((.loop (sub (A7 f107) [1,0,1,0,0])),⟨B4h,C1r F F⟩)]) (by kernel_rfl) (A9 (D5G F fr hn F) B6))) (fun x=>by kernel_rfl)
def E9C:Sig:=⟨[.ro,.ro],[(0,.d (.slice D5)),(1,.fn 53)],true,none,[.bool]⟩
def D9Z(F:Nat):Contract:=C0 E9C fun x=>A0f F x.1
def E9D(F:Nat):Cx:=B2 [(107,D1Z F)] [] (0,9)
theorem E9E(F:Nat):A8 (E9D F):=A2 (A0 (E9B F) A3)
theorem s52(F:Nat):CSound prog 52 (D9Z F) :=
 B3 (fn:=f52) (A5 []) (A5 []) rfl func52 (by kernel_rfl) (E9E F) (fun fr hn=>(B0 (by kernel_rfl))) (fun x=>by kernel_rfl)
def E9F:Sig:=⟨[.ro,.ro,.ro],[(0,.d C6),(1,.d A1),(2,.d A1)],false,some (0,56),[(.slice D5),A1,A1]⟩
def E00(F:Nat):Contract:=C0 E9F fun x=>A5g F x.1 x.2.1 x.2.2.1
def E9G(F:Nat):Cx:=B2 [(46,D9v F),(47,D9C F),(48,D9O F),(49,D9Q F),(50,C9U F),(51,D9T F),(13,C92 F),(52,D9Z F)] [6,35] (0,93)
theorem E9H(F:Nat):A8 (E9G F):=A2 (A0 (s46 F) (A0 (s47 F) (A0 (s48 F) (A0 (s49 F) (A0 (s50 F) (A0 (s51 F) (A0 (s13 F) (A0 (s52 F) A3))))))))
theorem s21(F:Nat):CSound prog 21 (E00 F) :=
 B3 (fn:=f21) (A5 []) (A5 []) rfl func21 (by kernel_rfl) (E9H F) (fun fr hn=>(B0 (by kernel_rfl))) (fun x=>by kernel_rfl)
def E9I:Sig:=⟨[],[],true,none,[.bool]⟩
def E01(F:Nat):Contract:=C0 E9I fun x=>A6E F 
def E9J(F:Nat):Cx:=B2 [(44,C5j F),(10,D4Z F),(21,E00 F),(12,D5e F)] [] (0,53)
theorem E9K(F:Nat):A8 (E9J F):=A2 (A0 (s44 F) (A0 (s10 F) (A0 (s21 F) (A0 (s12 F) A3))))
theorem s15(F:Nat):CSound prog 15 (E01 F) :=
 B3 (fn:=f15) (A5 []) (A5 []) rfl func15 (by kernel_rfl) (E9K F) (fun fr hn=>(B0 (by kernel_rfl))) (fun x=>by kernel_rfl)
def sg3:Sig:=⟨[.ro,.ro],[(0,.d (.slice D5)),(1,.d G1)],true,none,[.bool]⟩
def E4z(F:Nat):Contract:=C0 sg3 fun x=>A1n F x.1 x.2.1
def cx3(F:Nat):Cx:=B2 [(7,E53 F),(8,E5u F),(9,E5v F),(10,D4Z F),(11,D9s F),(12,D5e F),(13,C92 F),(14,D53 F),(15,E01 F)] [15] (0,70)
theorem cs3(F:Nat):A8 (cx3 F):=A2 (A0 (s7 F) (A0 (s8 F) (A0 (s9 F) (A0 (s10 F) (A0 (s11 F) (A0 (s12 F) (A0 (s13 F) (A0 (s14 F) (A0 (s15 F) A3)))))))))
def D0a:A4:=[(8,.d (.slice (.slice D5))),(9,.d A1)]
def C6E:A4:=[]
def B6Q:A4:=[(4,.d .bool)]
def D5H:I0:=[(2,C6E),(1,B6Q)]
def E0F(F n:Nat):B8 D0a:=fun x K=>F0 F (K (.exit 0) (enc C6E (()))) (fun y4=>K .ret (enc B6Q (y4,()))) n x.1 x.2.1
def hs3(F:Nat):C8 sg3:=A5 [(5,⟨D0a,E0F F F⟩)]
theorem E4A(F:Nat)(fr:Frm)(hn:(cx3 F).ntmps=fr.n)(n:Nat):D2 sg3 f3 fr [1,1,1,1,0,1,0,0] D0a (E0F F n) :=
 D4 (hs3 F) (A5 []) D5H rfl (cs3 F) hn (m:=fun n=>E0F F n) (fun _ _=>rfl) (fun n x K=>by kernel_rfl) (B0 (by kernel_rfl)) n
theorem s3(F:Nat):CSound prog 3 (E4z F) :=
 B3 (fn:=f3) (hs3 F) (A5 []) rfl func3 (by kernel_rfl) (cs3 F) (fun fr hn=>(C3 (l:=[((.loop (sub (A7 f3) [1,1,1,1,0,1,0,0])),⟨D0a,E0F F F⟩)]) (by kernel_rfl) (A9 (E4A F fr hn F) B6))) (fun x=>by kernel_rfl)
end Go.Proofs.YtdhfajmcakneiaaGreat
