/- That the code computes the models. Written by program. -/
import Derived.Test.YtdhfajmcakneiaaGreatShare
set_option linter.unusedVariables false
set_option linter.unusedSimpArgs false
namespace Go.Proofs.YtdhfajmcakneiaaGreat
open Go.Eng Tryz
def AcQ(F:Nat):Contract:=Aw AoF fun x=>Dw F x.1
theorem A18(F:Nat):CSound prog 166 (AcQ F):=Aj3 F (by kernel_rfl) fun x w h0 h1=>Zj x w h0 h1
def AgJ(F:Nat):Contract:=Aw Tl fun x=>Ft F x.1 x.2.1 x.2.2.1
theorem A3Z(F:Nat):CExt prog 161 (AgJ F):=AoG F func161 (by kernel_rfl) (by kernel_rfl) (by kernel_rfl) (by kernel_rfl)
def Ake(F:Nat):Contract:=Aw Tl fun x=>Jl F x.1 x.2.1 x.2.2.1
theorem A4X(F:Nat):CExt prog 186 (Ake F):=AoH F func186 (by kernel_rfl) (by kernel_rfl) (by kernel_rfl) (by kernel_rfl)
def Ax4(F:Nat):Contract:=Aw (AcG Fp 5) fun x=>H2 F x.1 x.2.1
def A7Q:Cx:=Ar [] [] (0,0)
theorem s73(F:Nat):CSound prog 73 (Ax4 F):=Anb (cx:=A7Q) (En _ rfl) (by kernel_rfl:A7Q.row? 5=some ⟨Fp,0,1⟩) rfl (by kernel_rfl) (by decide) (fun base l c n w=>Tu base l c n w) (fun i0 z hi hz hs base l c n cs w=>Tv i0 z hi hz hs base l c n cs w)
def sg7:Sig:=⟨[.ro],[(0,.d Cz)],false,some (0,0),[Ci]⟩
def A7S(F:Nat):Contract:=Aw sg7 fun x=>Wp F x.1
def cx7(F:Nat):Cx:=Ar [] [] (0,6)
theorem cs7(F:Nat):Ai (cx7 F):=Ac Ad
theorem s7(F:Nat):CSound prog 7 (A7S F) :=
 Aq (fn:=f7) (Af []) (Af []) rfl func7 (by kernel_rfl) (cs7 F) (fun fr hn=>(An (by kernel_rfl))) (fun x=>by kernel_rfl)
def A9b:Sig:=⟨[.ro,.ro],[(0,.d Ab),(1,.d Ab)],true,none,[Ab]⟩
def Ax5(F:Nat):Contract:=Aw A9b fun x=>Py F x.1 x.2.1
def A9c(F:Nat):Cx:=Ar [] [] (0,16)
theorem A9d(F:Nat):Ai (A9c F):=Ac Ad
theorem s16(F:Nat):CSound prog 16 (Ax5 F) :=
 Aq (fn:=f16) (Af []) (Af []) rfl func16 (by kernel_rfl) (A9d F) (fun fr hn=>(An (by kernel_rfl))) (fun x=>by kernel_rfl)
def A9e:Sig:=⟨[.bor,.ro],[(0,.box 0 Ci),(1,.d Ab)],false,none,[Ci,Ab]⟩
def AaX(F:Nat):Contract:=Aw A9e fun x=>Al F x.1 x.2.1
def A9f(F:Nat):Cx:=Ar [(16,Ax5 F)] [] (1,35)
theorem A9g(F:Nat):Ai (A9f F):=Ac (Aa (s16 F) Ad)
theorem s19(F:Nat):CSound prog 19 (AaX F) :=
 Aq (fn:=f19) (Af []) (Af []) rfl func19 (by kernel_rfl) (A9g F) (fun fr hn=>(An (by kernel_rfl))) (fun x=>by kernel_rfl)
def A4Y:Sig:=⟨[.bor],[(0,.box 0 Ci)],false,none,[Ci,Ag]⟩
def AsQ(F:Nat):Contract:=Aw A4Y fun x=>Gk F x.1
def A7T(F:Nat):Cx:=Ar [(19,AaX F)] [] (1,16)
theorem A7U(F:Nat):Ai (A7T F):=Ac (Aa (s19 F) Ad)
def Akf:Ae:=[(0,.box 0 Ci),(3,.d Ag),(4,.d Ab)]
def Akg:Ae:=[(0,.box 0 Ci),(3,.d Ag)]
def AsS:Df:=[(2,Akg)]
def AsT(F n:Nat):Ay Akf:=fun x K=>Fe F (fun y0 y3=>K (.exit 0) (enc Akg (y0,y3,()))) n x.1 x.2.1 x.2.2.1
def A7V(F:Nat):A7 A4Y:=Af [(3,⟨Akf,AsT F F⟩)]
theorem A19(F:Nat)(fr:Frm)(hn:(A7T F).ntmps=fr.n)(n:Nat):Ba A4Y f59 fr [1,1,0,1,0,0] Akf (AsT F n) :=
 Bc (A7V F) (Af []) AsS rfl (A7U F) hn (m:=fun n=>AsT F n) (fun _ _=>rfl) (fun n x K=>by kernel_rfl) (An (by kernel_rfl)) n
theorem s59(F:Nat):CSound prog 59 (AsQ F) :=
 Aq (fn:=f59) (A7V F) (Af []) rfl func59 (by kernel_rfl) (A7U F) (fun fr hn=>(A3 (l:=[((.loop (sub (Ap f59) [1,1,0,1,0,0])),⟨Akf,AsT F F⟩)]) (by kernel_rfl) (Aj (A19 F fr hn F) Av))) (fun x=>by kernel_rfl)
def A9h:Sig:=⟨[.bor],[(0,.box 0 Ci)],false,none,[Ci,Ab]⟩
def AsU(F:Nat):Contract:=Aw A9h fun x=>F4 F x.1
def A9i(F:Nat):Cx:=Ar [(19,AaX F),(59,AsQ F)] [] (1,32)
theorem A9j(F:Nat):Ai (A9i F):=Ac (Aa (s19 F) (Aa (s59 F) Ad))
theorem s29(F:Nat):CSound prog 29 (AsU F) :=
 Aq (fn:=f29) (Af []) (Af []) rfl func29 (by kernel_rfl) (A9j F) (fun fr hn=>(An (by kernel_rfl))) (fun x=>by kernel_rfl)
def A9k:Sig:=⟨[.bor,.ro],[(0,.box 0 Ci),(1,.d Ab)],false,none,[Ci,.bool]⟩
def Ax6(F:Nat):Contract:=Aw A9k fun x=>J2 F x.1 x.2.1
def A9l(F:Nat):Cx:=Ar [(19,AaX F)] [] (1,11)
theorem A9m(F:Nat):Ai (A9l F):=Ac (Aa (s19 F) Ad)
theorem s66(F:Nat):CSound prog 66 (Ax6 F) :=
 Aq (fn:=f66) (Af []) (Af []) rfl func66 (by kernel_rfl) (A9m F) (fun fr hn=>(An (by kernel_rfl))) (fun x=>by kernel_rfl)
def Ap1:Sig:=⟨[.bor,.ro],[(0,.box 0 Ci),(1,.d Ab)],false,some (0,2),[Ci,Cz]⟩
def Av4(F:Nat):Contract:=Aw Ap1 fun x=>K2 F x.1 x.2.1
def Ax7(F:Nat):Cx:=Ar [(19,AaX F),(29,AsU F),(59,AsQ F),(66,Ax6 F)] [4,5] (1,80)
theorem Ax8(F:Nat):Ai (Ax7 F):=Ac (Aa (s19 F) (Aa (s29 F) (Aa (s59 F) (Aa (s66 F) Ad))))
def Z9:Ae:=[(0,.box 0 Ci),(5,.own 5 Ab 2),(6,.d Ab),(7,.d Ab),(8,.d Ag),(9,.d Ab),(10,.d Ag)]
def AcS:Ae:=[(0,.box 0 Ci),(5,.own 5 Ab 2),(6,.d Ab),(7,.d Ab),(8,.d Ag),(9,.d Ab)]
def Y3:Ae:=[(0,.box 0 Ci),(4,.own 4 Ab 2)]
def Anl:Df:=[(0,AcS),(1,Y3)]
def Ajd(F:Nat):Ay Z9:=fun x K=>Bw F (fun y0 y5 y6 y7 y8 y9=>K .normal (enc AcS (y0,y5,y6,y7,y8,y9,()))) (fun y0 y4=>K .ret (enc Y3 (y0,y4,()))) x.1 x.2.1 x.2.2.1 x.2.2.2.1 x.2.2.2.2.1 x.2.2.2.2.2.1 x.2.2.2.2.2.2.1
def Ae6:Ae:=[(0,.box 0 Ci),(5,.own 5 Ab 2),(6,.d Ab),(7,.d Ab),(8,.d Ag),(9,.d Ab)]
def AgK:Ae:=[(0,.box 0 Ci),(5,.own 5 Ab 2)]
def AaY:Ae:=[(0,.box 0 Ci),(4,.own 4 Ab 2)]
def Ap2:Df:=[(2,AgK),(1,AaY)]
def Akh(F n:Nat):Ay Ae6:=fun x K=>A2 F (fun y0 y5=>K (.exit 0) (enc AgK (y0,y5,()))) (fun y0 y4=>K .ret (enc AaY (y0,y4,()))) n x.1 x.2.1 x.2.2.1 x.2.2.2.1 x.2.2.2.2.1 x.2.2.2.2.2.1
def Ax9(F:Nat):A7 Ap1:=Af [(6,⟨Ae6,Akh F F⟩)]
def Axa(F:Nat):A7 Ap1:=Af [(20,⟨Z9,Ajd F⟩)]
theorem AsV(F:Nat)(fr:Frm)(hn:(Ax7 F).ntmps=fr.n):Fb Ap1 f108 fr [1,1,1,1,1,0,1,0,0,1,0,0,1,1,1] Z9 (Ajd F) :=
 Fc (Ax9 F) (Axa F) Anl rfl (Ax8 F) hn (fun x K=>by kernel_rfl) (An (by kernel_rfl))
theorem Axb(F:Nat)(fr:Frm)(hn:(Ax7 F).ntmps=fr.n)(n:Nat):Ba Ap1 f108 fr [1,1,1,1,1,0,1,0,0] Ae6 (Akh F n) :=
 Bc (Ax9 F) (Axa F) Ap2 rfl (Ax8 F) hn (m:=fun n=>Akh F n) (fun _ _=>rfl) (fun n x K=>by kernel_rfl) (A3 (l:=[((sub (Ap f108) [1,1,1,1,1,0,1,0,0,1,0,0,1,1,1]),⟨Z9,Ajd F⟩)]) (by kernel_rfl) (Aj (AsV F fr hn) Av)) n
theorem A9n(F:Nat):CSound prog 108 (Av4 F) :=
 Aq (fn:=f108) (Ax9 F) (Axa F) rfl func108 (by kernel_rfl) (Ax8 F) (fun fr hn=>(A3 (l:=[((.loop (sub (Ap f108) [1,1,1,1,1,0,1,0,0])),⟨Ae6,Akh F F⟩)]) (by kernel_rfl) (Aj (Axb F fr hn F) Av))) (fun x=>by kernel_rfl)
def A4Z:Sig:=⟨[.bor,.ro],[(0,.box 0 Ci),(1,.d Ab)],false,some (0,96),[Ci,(.slice E3)]⟩
def A1a(F:Nat):Contract:=Aw A4Z fun x=>Jo F x.1 x.2.1
def A7W(F:Nat):Cx:=Ar [(108,Av4 F),(19,AaX F),(29,AsU F),(66,Ax6 F)] [4,6] (1,91)
theorem A7X(F:Nat):Ai (A7W F):=Ac (Aa (A9n F) (Aa (s19 F) (Aa (s29 F) (Aa (s66 F) Ad))))
def Aki:Ae:=[(0,.box 0 Ci),(5,.d Cz),(6,.own 6 E3 96),(7,.d Ab),(8,.d Ab),(9,.d Ab),(10,.d Ab)]
def Akj:Ae:=[(0,.box 0 Ci),(6,.own 6 E3 96)]
def AsW:Df:=[(2,Akj)]
def AsX(F n:Nat):Ay Aki:=fun x K=>At F (fun y0 y6=>K (.exit 0) (enc Akj (y0,y6,()))) n x.1 x.2.1 x.2.2.1 x.2.2.2.1 x.2.2.2.2.1 x.2.2.2.2.2.1 x.2.2.2.2.2.2.1
def A7Y(F:Nat):A7 A4Z:=Af [(6,⟨Aki,AsX F F⟩)]
theorem A1b(F:Nat)(fr:Frm)(hn:(A7W F).ntmps=fr.n)(n:Nat):Ba A4Z f54 fr [1,1,1,1,1,0,1,0,0] Aki (AsX F n) :=
 Bc (A7Y F) (Af []) AsW rfl (A7X F) hn (m:=fun n=>AsX F n) (fun _ _=>rfl) (fun n x K=>by kernel_rfl) (An (by kernel_rfl)) n
theorem s54(F:Nat):CSound prog 54 (A1a F) :=
 Aq (fn:=f54) (A7Y F) (Af []) rfl func54 (by kernel_rfl) (A7X F) (fun fr hn=>(A3 (l:=[((.loop (sub (Ap f54) [1,1,1,1,1,0,1,0,0])),⟨Aki,AsX F F⟩)]) (by kernel_rfl) (Aj (A1b F fr hn F) Av))) (fun x=>by kernel_rfl)
def A9o:Sig:=⟨[.bor,.ro],[(0,.box 0 Ci),(1,.d Ab)],false,some (0,96),[Ci,(.slice E3)]⟩
def A1c(F:Nat):Contract:=Aw A9o fun x=>Nm F x.1 x.2.1
def A9p(F:Nat):Cx:=Ar [(54,A1a F),(29,AsU F)] [4,8,17] (1,19)
theorem A9q(F:Nat):Ai (A9p F):=Ac (Aa (s54 F) (Aa (s29 F) Ad))
theorem s23(F:Nat):CSound prog 23 (A1c F) :=
 Aq (fn:=f23) (Af []) (Af []) rfl func23 (by kernel_rfl) (A9q F) (fun fr hn=>(An (by kernel_rfl))) (fun x=>by kernel_rfl)
def A9r:Sig:=⟨[.bor],[(0,.box 0 Ci)],false,none,[Ci,Ab]⟩
def A1d(F:Nat):Contract:=Aw A9r fun x=>Hq F x.1
def A9s(F:Nat):Cx:=Ar [(19,AaX F),(59,AsQ F)] [] (1,24)
theorem A9t(F:Nat):Ai (A9s F):=Ac (Aa (s19 F) (Aa (s59 F) Ad))
theorem s25(F:Nat):CSound prog 25 (A1d F) :=
 Aq (fn:=f25) (Af []) (Af []) rfl func25 (by kernel_rfl) (A9t F) (fun fr hn=>(An (by kernel_rfl))) (fun x=>by kernel_rfl)
def A50:Sig:=⟨[.ro],[(0,.d Ab)],true,none,[.bool]⟩
def Akk(F:Nat):Contract:=Aw A50 fun x=>G6 F x.1
def A51(F:Nat):Cx:=Ar [] [] (0,9)
theorem A52(F:Nat):Ai (A51 F):=Ac Ad
theorem A53(F:Nat):CSound prog 109 (Akk F) :=
 Aq (fn:=f109) (Af []) (Af []) rfl func109 (by kernel_rfl) (A52 F) (fun fr hn=>(An (by kernel_rfl))) (fun x=>by kernel_rfl)
def A9u:Sig:=⟨[.ro],[(0,.d Ab)],true,none,[(.pair Ab (.pair Ab (.pair Ab (.pair E3 (.pair Ab (.pair Ab (.pair Be .unit))))))),Ab]⟩
def A1e(F:Nat):Contract:=Aw A9u fun x=>Si F x.1
def A9v(F:Nat):Cx:=Ar [(109,Akk F)] [] (0,10)
theorem A9w(F:Nat):Ai (A9v F):=Ac (Aa (A53 F) Ad)
theorem s55(F:Nat):CSound prog 55 (A1e F) :=
 Aq (fn:=f55) (Af []) (Af []) rfl func55 (by kernel_rfl) (A9w F) (fun fr hn=>(An (by kernel_rfl))) (fun x=>by kernel_rfl)
def Axc:Sig:=⟨[.ro],[(0,.d (.slice E3))],false,some (0,2),[Cz]⟩
def Av5(F:Nat):Contract:=Aw Axc fun x=>Sj F x.1
def A1f(F:Nat):Cx:=Ar [] [2,3] (0,20)
theorem A1g(F:Nat):Ai (A1f F):=Ac Ad
def Ae7:Ae:=[(0,.d (.slice E3)),(3,.own 3 Ab 2),(4,.d Ab)]
def AgL:Ae:=[(3,.own 3 Ab 2)]
def Ap3:Df:=[(2,AgL)]
def Akl(F n:Nat):Ay Ae7:=fun x K=>Ia F (fun y3=>K (.exit 0) (enc AgL (y3,()))) n x.1 x.2.1 x.2.2.1
def A1h(F:Nat):A7 Axc:=Af [(3,⟨Ae7,Akl F F⟩)]
theorem Axd(F:Nat)(fr:Frm)(hn:(A1f F).ntmps=fr.n)(n:Nat):Ba Axc f111 fr [1,1,0,1,0,0] Ae7 (Akl F n) :=
 Bc (A1h F) (Af []) Ap3 rfl (A1g F) hn (m:=fun n=>Akl F n) (fun _ _=>rfl) (fun n x K=>by kernel_rfl) (An (by kernel_rfl)) n
theorem A9x(F:Nat):CSound prog 111 (Av5 F) :=
 Aq (fn:=f111) (A1h F) (Af []) rfl func111 (by kernel_rfl) (A1g F) (fun fr hn=>(A3 (l:=[((.loop (sub (Ap f111) [1,1,0,1,0,0])),⟨Ae7,Akl F F⟩)]) (by kernel_rfl) (Aj (Axd F fr hn F) Av))) (fun x=>by kernel_rfl)
def Axe:Sig:=⟨[.ro],[(0,.d Cz)],true,none,[.bool]⟩
def Av6(F:Nat):Contract:=Aw Axe fun x=>Kb F x.1
def A1i(F:Nat):Cx:=Ar [] [] (0,20)
theorem A1j(F:Nat):Ai (A1i F):=Ac Ad
def Ae8:Ae:=[(0,.d Cz),(3,.d Ab)]
def AgN:Ae:=[]
def AaZ:Ae:=[(2,.d .bool)]
def Ap4:Df:=[(2,AgN),(1,AaZ)]
def Akm(F n:Nat):Ay Ae8:=fun x K=>C6 F (K (.exit 0) (enc AgN (()))) (fun y2=>K .ret (enc AaZ (y2,()))) n x.1 x.2.1
def A1k(F:Nat):A7 Axe:=Af [(2,⟨Ae8,Akm F F⟩)]
theorem Axf(F:Nat)(fr:Frm)(hn:(A1i F).ntmps=fr.n)(n:Nat):Ba Axe f110 fr [1,0,1,0,0] Ae8 (Akm F n) :=
 Bc (A1k F) (Af []) Ap4 rfl (A1j F) hn (m:=fun n=>Akm F n) (fun _ _=>rfl) (fun n x K=>by kernel_rfl) (An (by kernel_rfl)) n
theorem A9y(F:Nat):CSound prog 110 (Av6 F) :=
 Aq (fn:=f110) (A1k F) (Af []) rfl func110 (by kernel_rfl) (A1j F) (fun fr hn=>(A3 (l:=[((.loop (sub (Ap f110) [1,0,1,0,0])),⟨Ae8,Akm F F⟩)]) (by kernel_rfl) (Aj (Axf F fr hn F) Av))) (fun x=>by kernel_rfl)
def A9z:Sig:=⟨[.ro],[(0,.d (.slice E3))],true,none,[Ab]⟩
def A1l(F:Nat):Contract:=Aw A9z fun x=>Sk F x.1
def A9A(F:Nat):Cx:=Ar [(111,Av5 F),(110,Av6 F)] [] (0,7)
theorem A9B(F:Nat):Ai (A9A F):=Ac (Aa (A9x F) (Aa (A9y F) Ad))
theorem s56(F:Nat):CSound prog 56 (A1l F) :=
 Aq (fn:=f56) (Af []) (Af []) rfl func56 (by kernel_rfl) (A9B F) (fun fr hn=>(An (by kernel_rfl))) (fun x=>by kernel_rfl)
def A54:Sig:=⟨[.ro],[(0,.d Ab)],true,none,[Ab]⟩
def Ap5(F:Nat):Contract:=Aw A54 fun x=>Ul F x.1
def A55(F:Nat):Cx:=Ar [] [] (0,5)
theorem A56(F:Nat):Ai (A55 F):=Ac Ad
theorem A7Z(F:Nat):CSound prog 157 (Ap5 F) :=
 Aq (fn:=f157) (Af []) (Af []) rfl func157 (by kernel_rfl) (A56 F) (fun fr hn=>(An (by kernel_rfl))) (fun x=>by kernel_rfl)
def Axg:Sig:=⟨[.ro,.ro],[(0,.d Ab),(1,.d Ab)],true,none,[Ab,.bool]⟩
def Av7(F:Nat):Contract:=Aw Axg fun x=>Qj F x.1 x.2.1
def A1m(F:Nat):Cx:=Ar [] [] (0,34)
theorem A1n(F:Nat):Ai (A1m F):=Ac Ad
def Ae9:Ae:=[(0,.d Ab),(1,.d Ab)]
def Ab0:Ae:=[(4,.d Ab),(5,.d .bool)]
def Ap6:Df:=[(1,Ab0)]
def Ap7(F:Nat):Ay Ae9:=fun x K=>G7 F (fun y4 y5=>K .ret (enc Ab0 (y4,y5,()))) x.1 x.2.1
def A1o(F:Nat):A7 Axg:=Af [(3,⟨Ae9,Ap7 F⟩)]
theorem Axh(F:Nat)(fr:Frm)(hn:(A1m F).ntmps=fr.n):Fb Axg f181 fr [1,1] Ae9 (Ap7 F) :=
 Fc (Af []) (A1o F) Ap6 rfl (A1n F) hn (fun x K=>by kernel_rfl) (An (by kernel_rfl))
theorem A9C(F:Nat):CSound prog 181 (Av7 F) :=
 Aq (fn:=f181) (Af []) (A1o F) rfl func181 (by kernel_rfl) (A1n F) (fun fr hn=>(A3 (l:=[((sub (Ap f181) [1,1]),⟨Ae9,Ap7 F⟩)]) (by kernel_rfl) (Aj (Axh F fr hn) Av))) (fun x=>by kernel_rfl)
def A57:Sig:=⟨[.ro,.ro],[(0,.d Ab),(1,.d Ab)],true,none,[Ab]⟩
def Ap8(F:Nat):Contract:=Aw A57 fun x=>Qs F x.1 x.2.1
def A58(F:Nat):Cx:=Ar [(157,Ap5 F),(181,Av7 F)] [] (0,15)
theorem A59(F:Nat):Ai (A58 F):=Ac (Aa (A7Z F) (Aa (A9C F) Ad))
theorem A80(F:Nat):CSound prog 154 (Ap8 F) :=
 Aq (fn:=f154) (Af []) (Af []) rfl func154 (by kernel_rfl) (A59 F) (fun fr hn=>(An (by kernel_rfl))) (fun x=>by kernel_rfl)
def A5a:Sig:=⟨[],[],true,none,[Be]⟩
def Akn(F:Nat):Contract:=Aw A5a fun x=>Ki F 
def A5b(F:Nat):Cx:=Ar [] [] (0,2)
theorem A5c(F:Nat):Ai (A5b F):=Ac Ad
theorem A5d(F:Nat):CSound prog 117 (Akn F) :=
 Aq (fn:=f117) (Af []) (Af []) rfl func117 (by kernel_rfl) (A5c F) (fun fr hn=>(An (by kernel_rfl))) (fun x=>by kernel_rfl)
def Axi:Sig:=⟨[.ro],[(0,.d Az)],false,none,[Az]⟩
def Y4(F:Nat):Contract:=Aw Axi fun x=>C2 F x.1
def A1p(F:Nat):Cx:=Ar [] [2,19] (0,21)
theorem A1q(F:Nat):Ai (A1p F):=Ac Ad
def Aea:Ae:=[(0,.d Az)]
def AgO:Ae:=[(0,.d Az)]
def Ap9:Df:=[(2,AgO)]
def Ako(F n:Nat):Ay Aea:=fun x K=>F5 F (fun y0=>K (.exit 0) (enc AgO (y0,()))) n x.1
def A1r(F:Nat):A7 Axi:=Af [(1,⟨Aea,Ako F F⟩)]
theorem Axj(F:Nat)(fr:Frm)(hn:(A1p F).ntmps=fr.n)(n:Nat):Ba Axi f159 fr [1,0,0,0] Aea (Ako F n) :=
 Bc (A1r F) (Af []) Ap9 rfl (A1q F) hn (m:=fun n=>Ako F n) (fun _ _=>rfl) (fun n x K=>by kernel_rfl) (An (by kernel_rfl)) n
theorem Axk(F:Nat):CSound prog 159 (Y4 F) :=
 Aq (fn:=f159) (A1r F) (Af []) rfl func159 (by kernel_rfl) (A1q F) (fun fr hn=>(A3 (l:=[((.loop (sub (Ap f159) [1,0,0,0])),⟨Aea,Ako F F⟩)]) (by kernel_rfl) (Aj (Axj F fr hn F) Av))) (fun x=>by kernel_rfl)
def Akp:Sig:=⟨[.con 49],[(0,.own 0 Ag 49)],false,some (0,49),[Az]⟩
def Aje(F:Nat):Contract:=Aw Akp fun x=>Kj F x.1
def Av8(F:Nat):Cx:=Ar [] [2,19] (0,21)
theorem Av9(F:Nat):Ai (Av8 F):=Ac Ad
def Aa0:Ae:=[(0,.own 0 Ag 49)]
def AcT:Ae:=[(0,.own 0 Ag 49)]
def Anm:Df:=[(2,AcT)]
def Aeb(F n:Nat):Ay Aa0:=fun x K=>J3 F (fun y0=>K (.exit 0) (enc AcT (y0,()))) n x.1
def Ava(F:Nat):A7 Akp:=Af [(1,⟨Aa0,Aeb F F⟩)]
def Avb(F:Nat):A7 Akp:=Af []
theorem AsY(F:Nat)(fr:Frm)(hn:(Av8 F).ntmps=fr.n)(n:Nat):Ba Akp f159 fr [1,0,0,0] Aa0 (Aeb F n) :=
 Bc (Ava F) (Avb F) Anm rfl (Av9 F) hn (m:=fun n=>Aeb F n) (fun _ _=>rfl) (fun n x K=>by kernel_rfl) (An (by kernel_rfl)) n
theorem A1s(F:Nat):CSound prog 159 (Aje F) :=
 Aq (fn:=f159) (Ava F) (Avb F) rfl func159 (by kernel_rfl) (Av9 F) (fun fr hn=>(A3 (l:=[((.loop (sub (Ap f159) [1,0,0,0])),⟨Aa0,Aeb F F⟩)]) (by kernel_rfl) (Aj (AsY F fr hn F) Av))) (fun x=>by kernel_rfl)
def A5e:Sig:=⟨[.ro],[(0,.d tyV)],false,none,[Az]⟩
def Wx(F:Nat):Contract:=Aw A5e fun x=>G1 F x.1
def A5f(F:Nat):Cx:=Ar [(159,Y4 F)] [2,3] (0,8)
theorem A5g(F:Nat):Ai (A5f F):=Ac (Aa (Axk F) Ad)
theorem Avc(F:Nat):CSound prog 122 (Wx F) :=
 Aq (fn:=f122) (Af []) (Af []) rfl func122 (by kernel_rfl) (A5g F) (fun fr hn=>(An (by kernel_rfl))) (fun x=>by kernel_rfl)
def A9D:Sig:=⟨[.ro],[(0,.d tyV)],true,none,[.bool]⟩
def Apa(F:Nat):Contract:=Aw A9D fun x=>Hr F x.1
def A9E(F:Nat):Cx:=Ar [(122,Wx F)] [] (0,12)
theorem A9F(F:Nat):Ai (A9E F):=Ac (Aa (Avc F) Ad)
theorem s89(F:Nat):CSound prog 89 (Apa F) :=
 Aq (fn:=f89) (Af []) (Af []) rfl func89 (by kernel_rfl) (A9F F) (fun fr hn=>(An (by kernel_rfl))) (fun x=>by kernel_rfl)
def A9G:Sig:=⟨[.ro],[(0,.d tyV)],true,none,[Ab]⟩
def AgP(F:Nat):Contract:=Aw A9G fun x=>C9 F x.1
def A9H(F:Nat):Cx:=Ar [(122,Wx F)] [] (0,9)
theorem A9I(F:Nat):Ai (A9H F):=Ac (Aa (Avc F) Ad)
theorem s90(F:Nat):CSound prog 90 (AgP F) :=
 Aq (fn:=f90) (Af []) (Af []) rfl func90 (by kernel_rfl) (A9I F) (fun fr hn=>(An (by kernel_rfl))) (fun x=>by kernel_rfl)
def A9J:Sig:=⟨[.ro],[(0,.d tyV)],true,none,[.bool]⟩
def A1t(F:Nat):Contract:=Aw A9J fun x=>Pc F x.1
def A9K(F:Nat):Cx:=Ar [] [] (0,19)
theorem A9L(F:Nat):Ai (A9K F):=Ac Ad
theorem s91(F:Nat):CSound prog 91 (A1t F) :=
 Aq (fn:=f91) (Af []) (Af []) rfl func91 (by kernel_rfl) (A9L F) (fun fr hn=>(An (by kernel_rfl))) (fun x=>by kernel_rfl)
def A9N:Sig:=⟨[.ro],[(0,.d tyV)],true,none,[tyV]⟩
def Axl(F:Nat):Contract:=Aw A9N fun x=>N0 F x.1
def A9O(F:Nat):Cx:=Ar [] [] (0,5)
theorem A9P(F:Nat):Ai (A9O F):=Ac Ad
theorem s93(F:Nat):CSound prog 93 (Axl F) :=
 Aq (fn:=f93) (Af []) (Af []) rfl func93 (by kernel_rfl) (A9P F) (fun fr hn=>(An (by kernel_rfl))) (fun x=>by kernel_rfl)
def A5h:Sig:=⟨[.ro],[(0,.d tyV)],true,none,[tyV]⟩
def AgQ(F:Nat):Contract:=Aw A5h fun x=>Gl F x.1
def A5i(F:Nat):Cx:=Ar [(89,Apa F)] [] (0,8)
theorem A5j(F:Nat):Ai (A5i F):=Ac (Aa (s89 F) Ad)
theorem A40(F:Nat):CSound prog 119 (AgQ F) :=
 Aq (fn:=f119) (Af []) (Af []) rfl func119 (by kernel_rfl) (A5j F) (fun fr hn=>(An (by kernel_rfl))) (fun x=>by kernel_rfl)
def A5k:Sig:=⟨[.ro],[(0,.d tyV)],true,none,[Ag,.bool]⟩
def Avd(F:Nat):Contract:=Aw A5k fun x=>E5 F x.1
def A5l(F:Nat):Cx:=Ar [(119,AgQ F),(122,Wx F)] [] (0,19)
theorem A5m(F:Nat):Ai (A5l F):=Ac (Aa (A40 F) (Aa (Avc F) Ad))
theorem A9Q(F:Nat):CSound prog 131 (Avd F) :=
 Aq (fn:=f131) (Af []) (Af []) rfl func131 (by kernel_rfl) (A5m F) (fun fr hn=>(An (by kernel_rfl))) (fun x=>by kernel_rfl)
def A9S:Sig:=⟨[.ro],[(0,.d Ag)],true,none,[tyV]⟩
def Axm(F:Nat):Contract:=Aw A9S fun x=>Ep F x.1
def A9T(F:Nat):Cx:=Ar [] [] (0,6)
theorem A9U(F:Nat):Ai (A9T F):=Ac Ad
theorem s67(F:Nat):CSound prog 67 (Axm F) :=
 Aq (fn:=f67) (Af []) (Af []) rfl func67 (by kernel_rfl) (A9U F) (fun fr hn=>(An (by kernel_rfl))) (fun x=>by kernel_rfl)
def A5n:Sig:=⟨[.ro],[(0,.d Ag)],true,none,[Ab]⟩
def Ave(F:Nat):Contract:=Aw A5n fun x=>Hs F x.1
def A5o(F:Nat):Cx:=Ar [(166,AcQ F)] [] (0,6)
theorem A5p(F:Nat):Ai (A5o F):=Ac (Aa (A18 F) Ad)
theorem A9V(F:Nat):CSound prog 192 (Ave F) :=
 Aq (fn:=f192) (Af []) (Af []) rfl func192 (by kernel_rfl) (A5p F) (fun fr hn=>(An (by kernel_rfl))) (fun x=>by kernel_rfl)
def AsZ:Sig:=⟨[.ro,.ro,.ro],[(0,.d Ag),(1,.d Ag),(2,.d Ag)],true,none,[Ag,Ag]⟩
def Avf(F:Nat):Contract:=Aw AsZ fun x=>Qt F x.1 x.2.1 x.2.2.1
def Axn(F:Nat):Cx:=Ar [(192,Ave F)] [] (0,135)
theorem Axo(F:Nat):Ai (Axn F):=Ac (Aa (A9V F) Ad)
def Aa1:Ae:=[(2,.d Ag),(8,.d Ag),(9,.d Ag),(10,.d Ag),(11,.d Ag),(13,.d Ag),(14,.d Ag),(15,.d Ag),(16,.d Ag)]
def AcU:Ae:=[(2,.d Ag),(8,.d Ag),(9,.d Ag),(10,.d Ag),(11,.d Ag),(13,.d Ag),(14,.d Ag),(15,.d Ag)]
def Ann:Df:=[(2,AcU)]
def Aec(F n:Nat):Ay Aa1:=fun x K=>Gm F (fun y2 y8 y9 y10 y11 y13 y14 y15=>K (.exit 0) (enc AcU (y2,y8,y9,y10,y11,y13,y14,y15,()))) n x.1 x.2.1 x.2.2.1 x.2.2.2.1 x.2.2.2.2.1 x.2.2.2.2.2.1 x.2.2.2.2.2.2.1 x.2.2.2.2.2.2.2.1 x.2.2.2.2.2.2.2.2.1
def Aa2:Ae:=[(2,.d Ag),(8,.d Ag),(9,.d Ag),(10,.d Ag),(14,.d Ag),(15,.d Ag),(16,.d Ag),(17,.d Ag),(18,.d Ag)]
def AcV:Ae:=[(2,.d Ag),(8,.d Ag),(14,.d Ag),(15,.d Ag),(17,.d Ag),(18,.d Ag)]
def Ano:Df:=[(4,AcV)]
def Aed(F n:Nat):Ay Aa2:=fun x K=>Gp F (fun y2 y8 y14 y15 y17 y18=>K (.exit 2) (enc AcV (y2,y8,y14,y15,y17,y18,()))) n x.1 x.2.1 x.2.2.1 x.2.2.2.1 x.2.2.2.2.1 x.2.2.2.2.2.1 x.2.2.2.2.2.2.1 x.2.2.2.2.2.2.2.1 x.2.2.2.2.2.2.2.2.1
def Axp(F:Nat):A7 AsZ:=Af [(17,⟨Aa1,Aec F F⟩),(24,⟨Aa2,Aed F F⟩)]
theorem At0(F:Nat)(fr:Frm)(hn:(Axn F).ntmps=fr.n)(n:Nat):Ba AsZ f182 fr [1,1,1,1,1,1,1,1,1,1,1,1,1,1,0,0,0] Aa1 (Aec F n) :=
 Bc (Axp F) (Af []) Ann rfl (Axo F) hn (m:=fun n=>Aec F n) (fun _ _=>rfl) (fun n x K=>by kernel_rfl) (An (by kernel_rfl)) n
theorem At1(F:Nat)(fr:Frm)(hn:(Axn F).ntmps=fr.n)(n:Nat):Ba AsZ f182 fr [1,1,1,1,1,1,1,1,1,1,1,1,1,1,1,1,1,1,0,0,0] Aa2 (Aed F n) :=
 Bc (Axp F) (Af []) Ano rfl (Axo F) hn (m:=fun n=>Aed F n) (fun _ _=>rfl) (fun n x K=>by kernel_rfl) (An (by kernel_rfl)) n
theorem A9W(F:Nat):CSound prog 182 (Avf F) :=
 Aq (fn:=f182) (Axp F) (Af []) rfl func182 (by kernel_rfl) (Axo F) (fun fr hn=>(A3 (l:=[((.loop (sub (Ap f182) [1,1,1,1,1,1,1,1,1,1,1,1,1,1,0,0,0])),⟨Aa1,Aec F F⟩),((.loop (sub (Ap f182) [1,1,1,1,1,1,1,1,1,1,1,1,1,1,1,1,1,1,0,0,0])),⟨Aa2,Aed F F⟩)]) (by kernel_rfl) (Aj (At0 F fr hn F) (Aj (At1 F fr hn F) Av)))) (fun x=>by kernel_rfl)
def A5q:Sig:=⟨[.ro],[(0,.d Az)],true,none,[Ab]⟩
def Avg(F:Nat):Contract:=Aw A5q fun x=>O1 F x.1
def A5r(F:Nat):Cx:=Ar [(166,AcQ F)] [] (0,18)
theorem A5s(F:Nat):Ai (A5r F):=Ac (Aa (A18 F) Ad)
theorem A9X(F:Nat):CSound prog 183 (Avg F) :=
 Aq (fn:=f183) (Af []) (Af []) rfl func183 (by kernel_rfl) (A5s F) (fun fr hn=>(An (by kernel_rfl))) (fun x=>by kernel_rfl)
def Axq:Sig:=⟨[.ro,.ro],[(0,.d Az),(1,.d Ab)],false,some (0,49),[Az]⟩
def Avh(F:Nat):Contract:=Aw Axq fun x=>Z5 F x.1 x.2.1
def A1u(F:Nat):Cx:=Ar [(159,Aje F)] [4,13,60] (0,61)
theorem A1v(F:Nat):Ai (A1u F):=Ac (Aa (A1s F) Ad)
def Aee:Ae:=[(0,.d Az),(1,.d Ab),(5,.own 5 Ag 49),(6,.d Ab)]
def AgS:Ae:=[(5,.own 5 Ag 49)]
def Apb:Df:=[(2,AgS)]
def Akq(F n:Nat):Ay Aee:=fun x K=>Kk F (fun y5=>K (.exit 0) (enc AgS (y5,()))) n x.1 x.2.1 x.2.2.1 x.2.2.2.1
def A1w(F:Nat):A7 Axq:=Af [(3,⟨Aee,Akq F F⟩)]
theorem Axr(F:Nat)(fr:Frm)(hn:(A1u F).ntmps=fr.n)(n:Nat):Ba Axq f184 fr [1,1,0,1,0,0] Aee (Akq F n) :=
 Bc (A1w F) (Af []) Apb rfl (A1v F) hn (m:=fun n=>Akq F n) (fun _ _=>rfl) (fun n x K=>by kernel_rfl) (An (by kernel_rfl)) n
theorem A9Y(F:Nat):CSound prog 184 (Avh F) :=
 Aq (fn:=f184) (A1w F) (Af []) rfl func184 (by kernel_rfl) (A1v F) (fun fr hn=>(A3 (l:=[((.loop (sub (Ap f184) [1,1,0,1,0,0])),⟨Aee,Akq F F⟩)]) (by kernel_rfl) (Aj (Axr F fr hn F) Av))) (fun x=>by kernel_rfl)
def Axs:Sig:=⟨[.ro,.ro],[(0,.d Az),(1,.d Az)],true,none,[Ab]⟩
def Akr(F:Nat):Contract:=Aw Axs fun x=>Jp F x.1 x.2.1
def A1x(F:Nat):Cx:=Ar [] [] (0,41)
theorem A1y(F:Nat):Ai (A1x F):=Ac Ad
def Aef:Ae:=[(0,.d Az),(1,.d Az),(5,.d Ab)]
def AgT:Ae:=[]
def Ab1:Ae:=[(4,.d Ab)]
def Apc:Df:=[(2,AgT),(1,Ab1)]
def Aks(F n:Nat):Ay Aef:=fun x K=>Fu F (K (.exit 0) (enc AgT (()))) (fun y4=>K .ret (enc Ab1 (y4,()))) n x.1 x.2.1 x.2.2.1
def A1z(F:Nat):A7 Axs:=Af [(6,⟨Aef,Aks F F⟩)]
theorem Axt(F:Nat)(fr:Frm)(hn:(A1x F).ntmps=fr.n)(n:Nat):Ba Axs f141 fr [1,1,0,1,0,0] Aef (Aks F n) :=
 Bc (A1z F) (Af []) Apc rfl (A1y F) hn (m:=fun n=>Aks F n) (fun _ _=>rfl) (fun n x K=>by kernel_rfl) (An (by kernel_rfl)) n
theorem A5t(F:Nat):CSound prog 141 (Akr F) :=
 Aq (fn:=f141) (A1z F) (Af []) rfl func141 (by kernel_rfl) (A1y F) (fun fr hn=>(A3 (l:=[((.loop (sub (Ap f141) [1,1,0,1,0,0])),⟨Aef,Aks F F⟩)]) (by kernel_rfl) (Aj (Axt F fr hn F) Av))) (fun x=>by kernel_rfl)
def Apd:Sig:=⟨[.ro,.ro],[(0,.d Az),(1,.d Az)],false,none,[Az]⟩
def Ape(F:Nat):Contract:=Aw Apd fun x=>Pd F x.1 x.2.1
def Axu(F:Nat):Cx:=Ar [(186,Ake F),(159,Y4 F)] [4,9] (0,41)
theorem Axv(F:Nat):Ai (Axu F):=Ac (Gj (A4X F) (Aa (Axk F) Ad))
def Aeg:Ae:=[(1,.d Az),(5,.own 5 Ag 49),(6,.d Ag),(7,.d Ab),(8,.d Ag)]
def AgU:Ae:=[(1,.d Az),(5,.own 5 Ag 49),(6,.d Ag),(7,.d Ab)]
def Apf:Df:=[(0,AgU)]
def Apg(F:Nat):Ay Aeg:=fun x K=>Kr F (fun y1 y5 y6 y7=>K .normal (enc AgU (y1,y5,y6,y7,()))) x.1 x.2.1 x.2.2.1 x.2.2.2.1 x.2.2.2.2.1
def Aeh:Ae:=[(1,.d Az),(5,.own 5 Ag 49),(6,.d Ag),(7,.d Ab)]
def AgV:Ae:=[(5,.own 5 Ag 49)]
def Aph:Df:=[(2,AgV)]
def Akt(F n:Nat):Ay Aeh:=fun x K=>Da F (fun y5=>K (.exit 0) (enc AgV (y5,()))) n x.1 x.2.1 x.2.2.1 x.2.2.2.1
def Axw(F:Nat):A7 Apd:=Af [(4,⟨Aeh,Akt F F⟩)]
def Axx(F:Nat):A7 Apd:=Af [(9,⟨Aeg,Apg F⟩)]
theorem Axy(F:Nat)(fr:Frm)(hn:(Axu F).ntmps=fr.n):Fb Apd f164 fr [1,1,1,0,1,0,0,1,0,0,1,1] Aeg (Apg F) :=
 Fc (Axw F) (Axx F) Apf rfl (Axv F) hn (fun x K=>by kernel_rfl) (An (by kernel_rfl))
theorem Axz(F:Nat)(fr:Frm)(hn:(Axu F).ntmps=fr.n)(n:Nat):Ba Apd f164 fr [1,1,1,0,1,0,0] Aeh (Akt F n) :=
 Bc (Axw F) (Axx F) Aph rfl (Axv F) hn (m:=fun n=>Akt F n) (fun _ _=>rfl) (fun n x K=>by kernel_rfl) (A3 (l:=[((sub (Ap f164) [1,1,1,0,1,0,0,1,0,0,1,1]),⟨Aeg,Apg F⟩)]) (by kernel_rfl) (Aj (Axy F fr hn) Av)) n
theorem A81(F:Nat):CSound prog 164 (Ape F) :=
 Aq (fn:=f164) (Axw F) (Axx F) rfl func164 (by kernel_rfl) (Axv F) (fun fr hn=>(A3 (l:=[((.loop (sub (Ap f164) [1,1,1,0,1,0,0])),⟨Aeh,Akt F F⟩)]) (by kernel_rfl) (Aj (Axz F fr hn F) Av))) (fun x=>by kernel_rfl)
def AgW:Sig:=⟨[.ro,.wr 49],[(0,.d Az),(1,.own 1 Ag 49)],false,none,[Az,Az]⟩
def Api(F:Nat):Contract:=Aw AgW fun x=>Um F x.1 x.2.1
def Apj(F:Nat):Cx:=Ar [(186,Ake F),(159,Y4 F)] [4,9] (2,41)
theorem Apk(F:Nat):Ai (Apj F):=Ac (Gj (A4X F) (Aa (Axk F) Ad))
def Aa3:Ae:=[(1,.own 1 Ag 49),(5,.own 5 Ag 49),(6,.d Ag),(7,.d Ab),(8,.d Ag)]
def AcW:Ae:=[(1,.own 1 Ag 49),(5,.own 5 Ag 49),(6,.d Ag),(7,.d Ab)]
def Anp:Df:=[(0,AcW)]
def Ajf(F:Nat):Ay Aa3:=fun x K=>Oj F (fun y1 y5 y6 y7=>K .normal (enc AcW (y1,y5,y6,y7,()))) x.1 x.2.1 x.2.2.1 x.2.2.2.1 x.2.2.2.2.1
def Aa4:Ae:=[(1,.own 1 Ag 49),(5,.own 5 Ag 49),(6,.d Ag),(7,.d Ab)]
def AcX:Ae:=[(1,.own 1 Ag 49),(5,.own 5 Ag 49)]
def Anq:Df:=[(2,AcX)]
def Aei(F n:Nat):Ay Aa4:=fun x K=>Jq F (fun y1 y5=>K (.exit 0) (enc AcX (y1,y5,()))) n x.1 x.2.1 x.2.2.1 x.2.2.2.1
def Apl(F:Nat):A7 AgW:=Af [(4,⟨Aa4,Aei F F⟩)]
def Apm(F:Nat):A7 AgW:=Af [(9,⟨Aa3,Ajf F⟩)]
theorem At2(F:Nat)(fr:Frm)(hn:(Apj F).ntmps=fr.n):Fb AgW f164 fr [1,1,1,0,1,0,0,1,0,0,1,1] Aa3 (Ajf F) :=
 Fc (Apl F) (Apm F) Anp rfl (Apk F) hn (fun x K=>by kernel_rfl) (An (by kernel_rfl))
theorem At3(F:Nat)(fr:Frm)(hn:(Apj F).ntmps=fr.n)(n:Nat):Ba AgW f164 fr [1,1,1,0,1,0,0] Aa4 (Aei F n) :=
 Bc (Apl F) (Apm F) Anq rfl (Apk F) hn (m:=fun n=>Aei F n) (fun _ _=>rfl) (fun n x K=>by kernel_rfl) (A3 (l:=[((sub (Ap f164) [1,1,1,0,1,0,0,1,0,0,1,1]),⟨Aa3,Ajf F⟩)]) (by kernel_rfl) (Aj (At2 F fr hn) Av)) n
theorem A5u(F:Nat):CSound prog 164 (Api F) :=
 Aq (fn:=f164) (Apl F) (Apm F) rfl func164 (by kernel_rfl) (Apk F) (fun fr hn=>(A3 (l:=[((.loop (sub (Ap f164) [1,1,1,0,1,0,0])),⟨Aa4,Aei F F⟩)]) (by kernel_rfl) (Aj (At3 F fr hn F) Av))) (fun x=>by kernel_rfl)
def AxA:Sig:=⟨[.con 49],[(0,.own 0 Ag 49)],false,some (0,49),[Az]⟩
def Avi(F:Nat):Contract:=Aw AxA fun x=>Qu F x.1
def A1A(F:Nat):Cx:=Ar [(159,Aje F)] [2,34] (0,35)
theorem A1B(F:Nat):Ai (A1A F):=Ac (Aa (A1s F) Ad)
def Aej:Ae:=[(0,.own 0 Ag 49),(3,.d Ab)]
def AgX:Ae:=[(0,.own 0 Ag 49)]
def Apn:Df:=[(2,AgX)]
def Aku(F n:Nat):Ay Aej:=fun x K=>F6 F (fun y0=>K (.exit 0) (enc AgX (y0,()))) n x.1 x.2.1
def A1C(F:Nat):A7 AxA:=Af [(2,⟨Aej,Aku F F⟩)]
theorem AxB(F:Nat)(fr:Frm)(hn:(A1A F).ntmps=fr.n)(n:Nat):Ba AxA f185 fr [1,0,1,0,0] Aej (Aku F n) :=
 Bc (A1C F) (Af []) Apn rfl (A1B F) hn (m:=fun n=>Aku F n) (fun _ _=>rfl) (fun n x K=>by kernel_rfl) (An (by kernel_rfl)) n
theorem A9Z(F:Nat):CSound prog 185 (Avi F) :=
 Aq (fn:=f185) (A1C F) (Af []) rfl func185 (by kernel_rfl) (A1B F) (fun fr hn=>(A3 (l:=[((.loop (sub (Ap f185) [1,0,1,0,0])),⟨Aej,Aku F F⟩)]) (by kernel_rfl) (Aj (AxB F fr hn F) Av))) (fun x=>by kernel_rfl)
def At4:Sig:=⟨[.ro,.ro],[(0,.d Az),(1,.d Az)],false,none,[Az,Az]⟩
def Avj(F:Nat):Contract:=Aw At4 fun x=>Ks F x.1 x.2.1
def AxC(F:Nat):Cx:=Ar [(182,Avf F),(159,Y4 F),(183,Avg F),(184,Avh F),(141,Akr F),(164,Api F),(185,Avi F)] [4,5,15,46,60,85] (0,89)
theorem AxD(F:Nat):Ai (AxC F):=Ac (Aa (A9W F) (Aa (Axk F) (Aa (A9X F) (Aa (A9Y F) (Aa (A5t F) (Aa (A5u F) (Aa (A9Z F) Ad)))))))
def Aek:Ae:=[(0,.d Az),(1,.d Az),(6,.own 6 Ag 49),(7,.d Ag),(8,.d Ab)]
def AgY:Ae:=[(6,.own 6 Ag 49),(7,.d Ag)]
def Apo:Df:=[(2,AgY)]
def Akv(F n:Nat):Ay Aek:=fun x K=>G8 F (fun y6 y7=>K (.exit 0) (enc AgY (y6,y7,()))) n x.1 x.2.1 x.2.2.1 x.2.2.2.1 x.2.2.2.2.1
def Aa5:Ae:=[(6,.own 6 Ag 49),(9,.d Az),(11,.own 11 Ag 49),(12,.d Ab)]
def AcY:Ae:=[(6,.own 6 Ag 49),(9,.d Az)]
def Anr:Df:=[(4,AcY)]
def Ael(F n:Nat):Ay Aa5:=fun x K=>Er F (fun y6 y9=>K (.exit 2) (enc AcY (y6,y9,()))) n x.1 x.2.1 x.2.2.1 x.2.2.2.1
def AxE(F:Nat):A7 At4:=Af [(5,⟨Aek,Akv F F⟩),(15,⟨Aa5,Ael F F⟩)]
theorem AxF(F:Nat)(fr:Frm)(hn:(AxC F).ntmps=fr.n)(n:Nat):Ba At4 f162 fr [1,1,0,1,0,1,0,1,0,0] Aek (Akv F n) :=
 Bc (AxE F) (Af []) Apo rfl (AxD F) hn (m:=fun n=>Akv F n) (fun _ _=>rfl) (fun n x K=>by kernel_rfl) (An (by kernel_rfl)) n
theorem At5(F:Nat)(fr:Frm)(hn:(AxC F).ntmps=fr.n)(n:Nat):Ba At4 f162 fr [1,1,1,1,1,1,1,0,1,0,0] Aa5 (Ael F n) :=
 Bc (AxE F) (Af []) Anr rfl (AxD F) hn (m:=fun n=>Ael F n) (fun _ _=>rfl) (fun n x K=>by kernel_rfl) (An (by kernel_rfl)) n
theorem Ba0(F:Nat):CSound prog 162 (Avj F) :=
 Aq (fn:=f162) (AxE F) (Af []) rfl func162 (by kernel_rfl) (AxD F) (fun fr hn=>(A3 (l:=[((.loop (sub (Ap f162) [1,1,0,1,0,1,0,1,0,0])),⟨Aek,Akv F F⟩),((.loop (sub (Ap f162) [1,1,1,1,1,1,1,0,1,0,0])),⟨Aa5,Ael F F⟩)]) (by kernel_rfl) (Aj (AxF F fr hn F) (Aj (At5 F fr hn F) Av)))) (fun x=>by kernel_rfl)
def Ans:Sig:=⟨[.ro,.ro],[(0,.d Az),(1,.d Az)],false,none,[Az]⟩
def App(F:Nat):Contract:=Aw Ans fun x=>Tp F x.1 x.2.1
def At6(F:Nat):Cx:=Ar [(161,AgJ F),(159,Y4 F)] [4,16] (0,51)
theorem At7(F:Nat):Ai (At6 F):=Ac (Gj (A3Z F) (Aa (Axk F) Ad))
def Aa6:Ae:=[(1,.d Az),(5,.own 5 Ag 49),(6,.d Ag),(7,.d Ab),(8,.d Ag)]
def AcZ:Ae:=[(1,.d Az),(5,.own 5 Ag 49),(6,.d Ag),(7,.d Ab)]
def Ant:Df:=[(0,AcZ)]
def Ajg(F:Nat):Ay Aa6:=fun x K=>K3 F (fun y1 y5 y6 y7=>K .normal (enc AcZ (y1,y5,y6,y7,()))) x.1 x.2.1 x.2.2.1 x.2.2.2.1 x.2.2.2.2.1
def Aem:Ae:=[(1,.d Az),(5,.own 5 Ag 49),(6,.d Ag),(7,.d Ab)]
def AgZ:Ae:=[(5,.own 5 Ag 49),(6,.d Ag)]
def Apq:Df:=[(2,AgZ)]
def Akw(F n:Nat):Ay Aem:=fun x K=>E6 F (fun y5 y6=>K (.exit 0) (enc AgZ (y5,y6,()))) n x.1 x.2.1 x.2.2.1 x.2.2.2.1
def Aen:Ae:=[(0,.d Az),(1,.d Az)]
def Ab2:Ae:=[(4,.d Az)]
def Apr:Df:=[(1,Ab2)]
def Aps(F:Nat):Ay Aen:=fun x K=>N1 F (fun y4=>K .ret (enc Ab2 (y4,()))) x.1 x.2.1
def At8(F:Nat):A7 Ans:=Af [(6,⟨Aem,Akw F F⟩)]
def At9(F:Nat):A7 Ans:=Af [(11,⟨Aa6,Ajg F⟩),(3,⟨Aen,Aps F⟩)]
theorem Ata(F:Nat)(fr:Frm)(hn:(At6 F).ntmps=fr.n):Fb Ans f163 fr [1,1,1,1,0,1,0,0,1,0,0,1,1] Aa6 (Ajg F) :=
 Fc (At8 F) (At9 F) Ant rfl (At7 F) hn (fun x K=>by kernel_rfl) (An (by kernel_rfl))
theorem AxG(F:Nat)(fr:Frm)(hn:(At6 F).ntmps=fr.n)(n:Nat):Ba Ans f163 fr [1,1,1,1,0,1,0,0] Aem (Akw F n) :=
 Bc (At8 F) (At9 F) Apq rfl (At7 F) hn (m:=fun n=>Akw F n) (fun _ _=>rfl) (fun n x K=>by kernel_rfl) (A3 (l:=[((sub (Ap f163) [1,1,1,1,0,1,0,0,1,0,0,1,1]),⟨Aa6,Ajg F⟩)]) (by kernel_rfl) (Aj (Ata F fr hn) Av)) n
theorem AxH(F:Nat)(fr:Frm)(hn:(At6 F).ntmps=fr.n):Fb Ans f163 fr [1,1] Aen (Aps F) :=
 Fc (At8 F) (At9 F) Apr rfl (At7 F) hn (fun x K=>by kernel_rfl) (A3 (l:=[((.loop (sub (Ap f163) [1,1,1,1,0,1,0,0])),⟨Aem,Akw F F⟩)]) (by kernel_rfl) (Aj (AxG F fr hn F) Av))
theorem A82(F:Nat):CSound prog 163 (App F) :=
 Aq (fn:=f163) (At8 F) (At9 F) rfl func163 (by kernel_rfl) (At7 F) (fun fr hn=>(A3 (l:=[((sub (Ap f163) [1,1]),⟨Aen,Aps F⟩)]) (by kernel_rfl) (Aj (AxH F fr hn) Av))) (fun x=>by kernel_rfl)
def Apt:Sig:=⟨[.ro,.ro],[(0,.d .bool),(1,.d Az)],true,none,[tyV,.bool]⟩
def Ah0(F:Nat):Contract:=Aw Apt fun x=>G9 F x.1 x.2.1
def AxI(F:Nat):Cx:=Ar [(159,Y4 F)] [] (0,35)
theorem AxJ(F:Nat):Ai (AxI F):=Ac (Aa (Axk F) Ad)
def Aeo:Ae:=[(1,.d Az),(4,.box 4 tyV),(6,.box 6 tyV),(7,.d Ab)]
def Ah1:Ae:=[(4,.box 4 tyV),(6,.box 6 tyV)]
def Apu:Df:=[(2,Ah1)]
def Akx(F n:Nat):Ay Aeo:=fun x K=>Ht F (fun y4 y6=>K (.exit 0) (enc Ah1 (y4,y6,()))) n x.1 x.2.1 x.2.2.1 x.2.2.2.1
def Aep:Ae:=[(1,.d Az),(4,.box 4 tyV),(6,.box 6 tyV)]
def Ab3:Ae:=[(4,.box 4 tyV),(5,.d .bool)]
def Apv:Df:=[(1,Ab3)]
def Apw(F:Nat):Ay Aep:=fun x K=>Ok F (fun y4 y5=>K .ret (enc Ab3 (y4,y5,()))) x.1 x.2.1 x.2.2.1
def AxK(F:Nat):A7 Apt:=Af [(6,⟨Aeo,Akx F F⟩)]
def AxL(F:Nat):A7 Apt:=Af [(5,⟨Aep,Apw F⟩)]
theorem AxN(F:Nat)(fr:Frm)(hn:(AxI F).ntmps=fr.n)(n:Nat):Ba Apt f120 fr [1,1,1,1,0,1,0,0] Aeo (Akx F n) :=
 Bc (AxK F) (AxL F) Apu rfl (AxJ F) hn (m:=fun n=>Akx F n) (fun _ _=>rfl) (fun n x K=>by kernel_rfl) (An (by kernel_rfl)) n
theorem AxO(F:Nat)(fr:Frm)(hn:(AxI F).ntmps=fr.n):Fb Apt f120 fr [1,1,1,1] Aep (Apw F) :=
 Fc (AxK F) (AxL F) Apv rfl (AxJ F) hn (fun x K=>by kernel_rfl) (A3 (l:=[((.loop (sub (Ap f120) [1,1,1,1,0,1,0,0])),⟨Aeo,Akx F F⟩)]) (by kernel_rfl) (Aj (AxN F fr hn F) Av))
theorem A41(F:Nat):CSound prog 120 (Ah0 F) :=
 Aq (fn:=f120) (AxK F) (AxL F) rfl func120 (by kernel_rfl) (AxJ F) (fun fr hn=>(A3 (l:=[((sub (Ap f120) [1,1,1,1]),⟨Aep,Apw F⟩)]) (by kernel_rfl) (Aj (AxO F fr hn) Av))) (fun x=>by kernel_rfl)
def Atb:Sig:=⟨[.ro,.ro],[(0,.d tyV),(1,.d tyV)],true,none,[tyV,tyV,.bool]⟩
def Aky(F:Nat):Contract:=Aw Atb fun x=>Ed F x.1 x.2.1
def AxP(F:Nat):Cx:=Ar [(119,AgQ F),(90,AgP F),(122,Wx F),(162,Avj F),(163,App F),(164,Ape F),(120,Ah0 F)] [] (0,61)
theorem AxQ(F:Nat):Ai (AxP F):=Ac (Aa (A40 F) (Aa (s90 F) (Aa (Avc F) (Aa (Ba0 F) (Aa (A82 F) (Aa (A81 F) (Aa (A41 F) Ad)))))))
def Aeq:Ae:=[(2,.box 2 tyV),(3,.box 3 tyV),(4,.box 4 tyV),(5,.box 5 tyV),(7,.d Az),(8,.d Az),(32,.d .bool)]
def Ah2:Ae:=[(2,.box 2 tyV),(3,.box 3 tyV),(4,.box 4 tyV),(5,.box 5 tyV),(7,.d Az),(8,.d Az)]
def Apx:Df:=[(0,Ah2)]
def Apy(F:Nat):Ay Aeq:=fun x K=>K4 F (fun y2 y3 y4 y5 y7 y8=>K .normal (enc Ah2 (y2,y3,y4,y5,y7,y8,()))) x.1 x.2.1 x.2.2.1 x.2.2.2.1 x.2.2.2.2.1 x.2.2.2.2.2.1 x.2.2.2.2.2.2.1
def Aer:Ae:=[(2,.box 2 tyV),(3,.box 3 tyV),(4,.box 4 tyV),(5,.box 5 tyV),(7,.d Az),(8,.d Az)]
def Ab4:Ae:=[(4,.box 4 tyV),(5,.box 5 tyV),(6,.d .bool)]
def Apz:Df:=[(1,Ab4)]
def ApA(F:Nat):Ay Aer:=fun x K=>K5 F (fun y4 y5 y6=>K .ret (enc Ab4 (y4,y5,y6,()))) x.1 x.2.1 x.2.2.1 x.2.2.2.1 x.2.2.2.2.1 x.2.2.2.2.2.1
def AxS(F:Nat):A7 Atb:=Af [(6,⟨Aeq,Apy F⟩),(7,⟨Aer,ApA F⟩)]
theorem AxT(F:Nat)(fr:Frm)(hn:(AxP F).ntmps=fr.n):Fb Atb f123 fr [1,1,1,1,0,1] Aeq (Apy F) :=
 Fc (Af []) (AxS F) Apx rfl (AxQ F) hn (fun x K=>by kernel_rfl) (An (by kernel_rfl))
theorem AxU(F:Nat)(fr:Frm)(hn:(AxP F).ntmps=fr.n):Fb Atb f123 fr [1,1,1,1,1] Aer (ApA F) :=
 Fc (Af []) (AxS F) Apz rfl (AxQ F) hn (fun x K=>by kernel_rfl) (An (by kernel_rfl))
theorem A5v(F:Nat):CSound prog 123 (Aky F) :=
 Aq (fn:=f123) (Af []) (AxS F) rfl func123 (by kernel_rfl) (AxQ F) (fun fr hn=>(A3 (l:=[((sub (Ap f123) [1,1,1,1,0,1]),⟨Aeq,Apy F⟩),((sub (Ap f123) [1,1,1,1,1]),⟨Aer,ApA F⟩)]) (by kernel_rfl) (Aj (AxT F fr hn) (Aj (AxU F fr hn) Av)))) (fun x=>by kernel_rfl)
def AxV:Sig:=⟨[.ro,.ro],[(0,.d tyV),(1,.d tyV)],true,none,[tyV]⟩
def AxW(F:Nat):Contract:=Aw AxV fun x=>Qv F x.1 x.2.1
def A1D(F:Nat):Cx:=Ar [(90,AgP F),(131,Avd F),(67,Axm F),(123,Aky F)] [] (0,47)
theorem A1E(F:Nat):Ai (A1D F):=Ac (Aa (s90 F) (Aa (A9Q F) (Aa (s67 F) (Aa (A5v F) Ad))))
def Akz:Ae:=[(4,.box 4 tyV),(5,.d Ag),(7,.d Ag)]
def AkA:Ae:=[(4,.box 4 tyV),(5,.d Ag)]
def Atc:Df:=[(4,AkA)]
def Atd(F n:Nat):Ay Akz:=fun x K=>I3 F (fun y4 y5=>K (.exit 2) (enc AkA (y4,y5,()))) n x.1 x.2.1 x.2.2.1
def AkB:Ae:=[(2,.box 2 tyV),(3,.box 3 tyV),(4,.box 4 tyV),(5,.d Ag),(7,.d Ag),(28,.d .bool)]
def AkC:Ae:=[(2,.box 2 tyV),(3,.box 3 tyV),(4,.box 4 tyV)]
def Ad0:Ae:=[(4,.box 4 tyV)]
def Ate:Df:=[(0,AkC),(1,Ad0)]
def AxX(F:Nat):Ay AkB:=fun x K=>P0 F (fun y2 y3 y4=>K .normal (enc AkC (y2,y3,y4,()))) (fun y4=>K .ret (enc Ad0 (y4,()))) x.1 x.2.1 x.2.2.1 x.2.2.2.1 x.2.2.2.2.1 x.2.2.2.2.2.1
def AkD:Ae:=[(2,.box 2 tyV),(3,.box 3 tyV),(4,.box 4 tyV)]
def AkE:Ae:=[(2,.box 2 tyV),(3,.box 3 tyV),(4,.box 4 tyV)]
def Atf:Df:=[(0,AkE)]
def AxY(F:Nat):Ay AkD:=fun x K=>P1 F (fun y2 y3 y4=>K .normal (enc AkE (y2,y3,y4,()))) x.1 x.2.1 x.2.2.1
def AkF:Ae:=[(2,.box 2 tyV),(3,.box 3 tyV),(4,.box 4 tyV)]
def AkG:Ae:=[(2,.box 2 tyV),(4,.box 4 tyV)]
def Ad1:Ae:=[(4,.box 4 tyV)]
def Atg:Df:=[(2,AkG),(1,Ad1)]
def Ath(F n:Nat):Ay AkF:=fun x K=>Hk F (fun y2 y4=>K (.exit 0) (enc AkG (y2,y4,()))) (fun y4=>K .ret (enc Ad1 (y4,()))) n x.1 x.2.1 x.2.2.1
def A1F(F:Nat):A7 AxV:=Af [(5,⟨Akz,Atd F F⟩),(1,⟨AkF,Ath F F⟩)]
def A1G(F:Nat):A7 AxV:=Af [(5,⟨AkB,AxX F⟩),(8,⟨AkD,AxY F⟩)]
theorem A1H(F:Nat)(fr:Frm)(hn:(A1D F).ntmps=fr.n)(n:Nat):Ba AxV f92 fr [1,0,0,0,1,0,1,1,0,1,0,0,0,0] Akz (Atd F n) :=
 Bc (A1F F) (A1G F) Atc rfl (A1E F) hn (m:=fun n=>Atd F n) (fun _ _=>rfl) (fun n x K=>by kernel_rfl) (An (by kernel_rfl)) n
theorem A1I(F:Nat)(fr:Frm)(hn:(A1D F).ntmps=fr.n):Fb AxV f92 fr [1,0,0,0,1,0,1,1,0,1] AkB (AxX F) :=
 Fc (A1F F) (A1G F) Ate rfl (A1E F) hn (fun x K=>by kernel_rfl) (A3 (l:=[((.loop (sub (Ap f92) [1,0,0,0,1,0,1,1,0,1,0,0,0,0])),⟨Akz,Atd F F⟩)]) (by kernel_rfl) (Aj (A1H F fr hn F) Av))
theorem A1J(F:Nat)(fr:Frm)(hn:(A1D F).ntmps=fr.n):Fb AxV f92 fr [1,0,0,0,1,0,1,1,1] AkD (AxY F) :=
 Fc (A1F F) (A1G F) Atf rfl (A1E F) hn (fun x K=>by kernel_rfl) (An (by kernel_rfl))
theorem A1K(F:Nat)(fr:Frm)(hn:(A1D F).ntmps=fr.n)(n:Nat):Ba AxV f92 fr [1,0,0,0] AkF (Ath F n) :=
 Bc (A1F F) (A1G F) Atg rfl (A1E F) hn (m:=fun n=>Ath F n) (fun _ _=>rfl) (fun n x K=>by kernel_rfl) (A3 (l:=[((sub (Ap f92) [1,0,0,0,1,0,1,1,0,1]),⟨AkB,AxX F⟩),((sub (Ap f92) [1,0,0,0,1,0,1,1,1]),⟨AkD,AxY F⟩)]) (by kernel_rfl) (Aj (A1I F fr hn) (Aj (A1J F fr hn) Av))) n
theorem s92(F:Nat):CSound prog 92 (AxW F) :=
 Aq (fn:=f92) (A1F F) (A1G F) rfl func92 (by kernel_rfl) (A1E F) (fun fr hn=>(A3 (l:=[((.loop (sub (Ap f92) [1,0,0,0])),⟨AkF,Ath F F⟩)]) (by kernel_rfl) (Aj (A1K F fr hn F) Av))) (fun x=>by kernel_rfl)
def Ba1:Sig:=⟨[.ro],[(0,.d Ab)],true,none,[tyV]⟩
def Anu(F:Nat):Contract:=Aw Ba1 fun x=>F7 F x.1
def Ba2(F:Nat):Cx:=Ar [] [] (0,14)
theorem Ba3(F:Nat):Ai (Ba2 F):=Ac Ad
theorem s65(F:Nat):CSound prog 65 (Anu F) :=
 Aq (fn:=f65) (Af []) (Af []) rfl func65 (by kernel_rfl) (Ba3 F) (fun fr hn=>(An (by kernel_rfl))) (fun x=>by kernel_rfl)
def Ba4:Sig:=⟨[],[],true,none,[tyV]⟩
def Ati(F:Nat):Contract:=Aw Ba4 fun x=>Qw F 
def Ba5(F:Nat):Cx:=Ar [(65,Anu F)] [] (0,2)
theorem Ba6(F:Nat):Ai (Ba5 F):=Ac (Aa (s65 F) Ad)
theorem s94(F:Nat):CSound prog 94 (Ati F) :=
 Aq (fn:=f94) (Af []) (Af []) rfl func94 (by kernel_rfl) (Ba6 F) (fun fr hn=>(An (by kernel_rfl))) (fun x=>by kernel_rfl)
def Ba7:Sig:=⟨[.ro],[(0,.d Bv)],true,none,[.bool]⟩
def ApB(F:Nat):Contract:=Aw Ba7 fun x=>Fk F x.1
def Ba8(F:Nat):Cx:=Ar [(89,Apa F),(90,AgP F),(91,A1t F),(93,Axl F),(92,AxW F),(94,Ati F)] [] (0,39)
theorem Ba9(F:Nat):Ai (Ba8 F):=Ac (Aa (s89 F) (Aa (s90 F) (Aa (s91 F) (Aa (s93 F) (Aa (s92 F) (Aa (s94 F) Ad))))))
theorem s42(F:Nat):CSound prog 42 (ApB F) :=
 Aq (fn:=f42) (Af []) (Af []) rfl func42 (by kernel_rfl) (Ba9 F) (fun fr hn=>(An (by kernel_rfl))) (fun x=>by kernel_rfl)
def Baa:Sig:=⟨[.ro],[(0,.d Bv)],true,none,[Bv]⟩
def A1L(F:Nat):Contract:=Aw Baa fun x=>Sl F x.1
def Bab(F:Nat):Cx:=Ar [(42,ApB F),(94,Ati F)] [] (0,9)
theorem Bac(F:Nat):Ai (Bab F):=Ac (Aa (s42 F) (Aa (s94 F) Ad))
theorem s95(F:Nat):CSound prog 95 (A1L F) :=
 Aq (fn:=f95) (Af []) (Af []) rfl func95 (by kernel_rfl) (Bac F) (fun fr hn=>(An (by kernel_rfl))) (fun x=>by kernel_rfl)
def A5w:Sig:=⟨[.ro,.ro],[(0,.d Ag),(1,.d Ag)],true,none,[Ag,Ag]⟩
def ApC(F:Nat):Contract:=Aw A5w fun x=>Qx F x.1 x.2.1
def A5x(F:Nat):Cx:=Ar [] [] (0,51)
theorem A5y(F:Nat):Ai (A5x F):=Ac Ad
theorem A83(F:Nat):CSound prog 160 (ApC F) :=
 Aq (fn:=f160) (Af []) (Af []) rfl func160 (by kernel_rfl) (A5y F) (fun fr hn=>(An (by kernel_rfl))) (fun x=>by kernel_rfl)
def Atj:Sig:=⟨[.ro,.ro],[(0,.d Az),(1,.d Az)],false,none,[Az]⟩
def Avk(F:Nat):Contract:=Aw Atj fun x=>Wq F x.1 x.2.1
def AxZ(F:Nat):Cx:=Ar [(160,ApC F),(161,AgJ F),(159,Y4 F)] [4,18] (0,81)
theorem Ay0(F:Nat):Ai (AxZ F):=Ac (Aa (A83 F) (Gj (A3Z F) (Aa (Axk F) Ad)))
def Aes:Ae:=[(0,.d Az),(1,.d Az),(5,.own 5 Ag 49),(6,.d Ab),(7,.d Ag),(8,.d Ab)]
def Ah3:Ae:=[(0,.d Az),(1,.d Az),(5,.own 5 Ag 49),(6,.d Ab),(7,.d Ag)]
def ApD:Df:=[(4,Ah3)]
def AkH(F n:Nat):Ay Aes:=fun x K=>I4 F (fun y0 y1 y5 y6 y7=>K (.exit 2) (enc Ah3 (y0,y1,y5,y6,y7,()))) n x.1 x.2.1 x.2.2.1 x.2.2.2.1 x.2.2.2.2.1 x.2.2.2.2.2.1
def Aet:Ae:=[(0,.d Az),(1,.d Az),(5,.own 5 Ag 49),(6,.d Ab)]
def Ah4:Ae:=[(5,.own 5 Ag 49)]
def ApE:Df:=[(2,Ah4)]
def AkI(F n:Nat):Ay Aet:=fun x K=>Kt F (fun y5=>K (.exit 0) (enc Ah4 (y5,()))) n x.1 x.2.1 x.2.2.1 x.2.2.2.1
def Ay1(F:Nat):A7 Atj:=Af [(7,⟨Aes,AkH F F⟩),(3,⟨Aet,AkI F F⟩)]
theorem Ay2(F:Nat)(fr:Frm)(hn:(AxZ F).ntmps=fr.n)(n:Nat):Ba Atj f121 fr [1,1,0,1,0,0,1,0,0,1,0,1,0,0] Aes (AkH F n) :=
 Bc (Ay1 F) (Af []) ApD rfl (Ay0 F) hn (m:=fun n=>AkH F n) (fun _ _=>rfl) (fun n x K=>by kernel_rfl) (An (by kernel_rfl)) n
theorem Ay3(F:Nat)(fr:Frm)(hn:(AxZ F).ntmps=fr.n)(n:Nat):Ba Atj f121 fr [1,1,0,1,0,0] Aet (AkI F n) :=
 Bc (Ay1 F) (Af []) ApE rfl (Ay0 F) hn (m:=fun n=>AkI F n) (fun _ _=>rfl) (fun n x K=>by kernel_rfl) (A3 (l:=[((.loop (sub (Ap f121) [1,1,0,1,0,0,1,0,0,1,0,1,0,0])),⟨Aes,AkH F F⟩)]) (by kernel_rfl) (Aj (Ay2 F fr hn F) Av)) n
theorem Bad(F:Nat):CSound prog 121 (Avk F) :=
 Aq (fn:=f121) (Ay1 F) (Af []) rfl func121 (by kernel_rfl) (Ay0 F) (fun fr hn=>(A3 (l:=[((.loop (sub (Ap f121) [1,1,0,1,0,0])),⟨Aet,AkI F F⟩)]) (by kernel_rfl) (Aj (Ay3 F fr hn F) Av))) (fun x=>by kernel_rfl)
def Bae:Sig:=⟨[.ro,.ro],[(0,.d tyV),(1,.d tyV)],true,none,[tyV,.bool]⟩
def Atk(F:Nat):Contract:=Aw Bae fun x=>Ey F x.1 x.2.1
def Baf(F:Nat):Cx:=Ar [(119,AgQ F),(122,Wx F),(121,Avk F),(120,Ah0 F)] [] (0,23)
theorem Bag(F:Nat):Ai (Baf F):=Ac (Aa (A40 F) (Aa (Avc F) (Aa (Bad F) (Aa (A41 F) Ad))))
theorem s68(F:Nat):CSound prog 68 (Atk F) :=
 Aq (fn:=f68) (Af []) (Af []) rfl func68 (by kernel_rfl) (Bag F) (fun fr hn=>(An (by kernel_rfl))) (fun x=>by kernel_rfl)
def Bah:Sig:=⟨[.ro,.ro],[(0,.d tyV),(1,.d tyV)],true,none,[Ab]⟩
def Atl(F:Nat):Contract:=Aw Bah fun x=>F8 F x.1 x.2.1
def Bai(F:Nat):Cx:=Ar [(90,AgP F),(122,Wx F),(141,Akr F)] [] (0,24)
theorem Baj(F:Nat):Ai (Bai F):=Ac (Aa (s90 F) (Aa (Avc F) (Aa (A5t F) Ad)))
theorem s96(F:Nat):CSound prog 96 (Atl F) :=
 Aq (fn:=f96) (Af []) (Af []) rfl func96 (by kernel_rfl) (Baj F) (fun fr hn=>(An (by kernel_rfl))) (fun x=>by kernel_rfl)
def Bak:Sig:=⟨[.ro,.ro],[(0,.d Bv),(1,.d Bv)],true,none,[Ab]⟩
def ApF(F:Nat):Contract:=Aw Bak fun x=>Dh F x.1 x.2.1
def Bal(F:Nat):Cx:=Ar [(95,A1L F),(68,Atk F),(96,Atl F)] [] (0,32)
theorem Bam(F:Nat):Ai (Bal F):=Ac (Aa (s95 F) (Aa (s68 F) (Aa (s96 F) Ad)))
theorem s43(F:Nat):CSound prog 43 (ApF F) :=
 Aq (fn:=f43) (Af []) (Af []) rfl func43 (by kernel_rfl) (Bam F) (fun fr hn=>(An (by kernel_rfl))) (fun x=>by kernel_rfl)
def Ban:Sig:=⟨[.ro],[(0,.d Be)],true,none,[.bool]⟩
def ApG(F:Nat):Contract:=Aw Ban fun x=>I5 F x.1
def Bao(F:Nat):Cx:=Ar [(117,Akn F),(42,ApB F),(43,ApF F)] [] (0,24)
theorem Bap(F:Nat):Ai (Bao F):=Ac (Aa (A5d F) (Aa (s42 F) (Aa (s43 F) Ad)))
theorem s60(F:Nat):CSound prog 60 (ApG F) :=
 Aq (fn:=f60) (Af []) (Af []) rfl func60 (by kernel_rfl) (Bap F) (fun fr hn=>(An (by kernel_rfl))) (fun x=>by kernel_rfl)
def A5z:Sig:=⟨[.ro],[(0,.d (.pair Ab (.pair Ab (.pair Ab (.pair E3 (.pair Ab (.pair Ab (.pair Be .unit))))))))],true,none,[.bool]⟩
def ApH(F:Nat):Contract:=Aw A5z fun x=>Pe F x.1
def A5A(F:Nat):Cx:=Ar [(109,Akk F),(154,Ap8 F),(117,Akn F),(60,ApG F)] [] (0,78)
theorem A5B(F:Nat):Ai (A5A F):=Ac (Aa (A53 F) (Aa (A80 F) (Aa (A5d F) (Aa (s60 F) Ad))))
theorem A84(F:Nat):CSound prog 112 (ApH F) :=
 Aq (fn:=f112) (Af []) (Af []) rfl func112 (by kernel_rfl) (A5B F) (fun fr hn=>(An (by kernel_rfl))) (fun x=>by kernel_rfl)
def A5C:Sig:=⟨[.ro,.ro],[(0,.d (.pair Ab (.pair Ab (.pair Ab (.pair E3 (.pair Ab (.pair Ab (.pair Be .unit)))))))),(1,.d E3)],true,none,[(.pair Ab (.pair Ab (.pair Ab (.pair E3 (.pair Ab (.pair Ab (.pair Be .unit)))))))]⟩
def Avl(F:Nat):Contract:=Aw A5C fun x=>Pf F x.1 x.2.1
def A5D(F:Nat):Cx:=Ar [(154,Ap8 F),(117,Akn F)] [] (0,22)
theorem A5E(F:Nat):Ai (A5D F):=Ac (Aa (A80 F) (Aa (A5d F) Ad))
theorem Baq(F:Nat):CSound prog 113 (Avl F) :=
 Aq (fn:=f113) (Af []) (Af []) rfl func113 (by kernel_rfl) (A5E F) (fun fr hn=>(An (by kernel_rfl))) (fun x=>by kernel_rfl)
def A5F:Sig:=⟨[.ro,.ro],[(0,.d Ab),(1,.d Ab)],true,none,[tyV]⟩
def Avm(F:Nat):Contract:=Aw A5F fun x=>Un F x.1 x.2.1
def A5G(F:Nat):Cx:=Ar [(65,Anu F),(157,Ap5 F),(68,Atk F)] [] (0,17)
theorem A5H(F:Nat):Ai (A5G F):=Ac (Aa (s65 F) (Aa (A7Z F) (Aa (s68 F) Ad)))
theorem Bar(F:Nat):CSound prog 115 (Avm F) :=
 Aq (fn:=f115) (Af []) (Af []) rfl func115 (by kernel_rfl) (A5H F) (fun fr hn=>(An (by kernel_rfl))) (fun x=>by kernel_rfl)
def A5I:Sig:=⟨[.ro,.ro],[(0,.d Ab),(1,.d Ab)],true,none,[Ag]⟩
def Avn(F:Nat):Contract:=Aw A5I fun x=>Nn F x.1 x.2.1
def A5J(F:Nat):Cx:=Ar [] [] (0,18)
theorem A5K(F:Nat):Ai (A5J F):=Ac Ad
theorem Bas(F:Nat):CSound prog 116 (Avn F) :=
 Aq (fn:=f116) (Af []) (Af []) rfl func116 (by kernel_rfl) (A5K F) (fun fr hn=>(An (by kernel_rfl))) (fun x=>by kernel_rfl)
def Bat:Sig:=⟨[.ro],[(0,.d tyV)],true,none,[tyV]⟩
def Atm(F:Nat):Contract:=Aw Bat fun x=>K6 F x.1
def Bau(F:Nat):Cx:=Ar [(122,Wx F),(120,Ah0 F)] [] (0,15)
theorem Bav(F:Nat):Ai (Bau F):=Ac (Aa (Avc F) (Aa (A41 F) Ad))
theorem s70(F:Nat):CSound prog 70 (Atm F) :=
 Aq (fn:=f70) (Af []) (Af []) rfl func70 (by kernel_rfl) (Bav F) (fun fr hn=>(An (by kernel_rfl))) (fun x=>by kernel_rfl)
def A5L:Sig:=⟨[.ro,.ro],[(0,.d tyV),(1,.d tyV)],true,none,[tyV,.bool]⟩
def AkJ(F:Nat):Contract:=Aw A5L fun x=>Ha F x.1 x.2.1
def A5N(F:Nat):Cx:=Ar [(119,AgQ F),(122,Wx F),(163,App F),(120,Ah0 F),(141,Akr F),(164,Ape F)] [] (0,51)
theorem A5O(F:Nat):Ai (A5N F):=Ac (Aa (A40 F) (Aa (Avc F) (Aa (A82 F) (Aa (A41 F) (Aa (A5t F) (Aa (A81 F) Ad))))))
theorem A5P(F:Nat):CSound prog 156 (AkJ F) :=
 Aq (fn:=f156) (Af []) (Af []) rfl func156 (by kernel_rfl) (A5O F) (fun fr hn=>(An (by kernel_rfl))) (fun x=>by kernel_rfl)
def A5Q:Sig:=⟨[.ro,.ro],[(0,.d tyV),(1,.d tyV)],true,none,[tyV,.bool]⟩
def ApI(F:Nat):Contract:=Aw A5Q fun x=>K7 F x.1 x.2.1
def A5S(F:Nat):Cx:=Ar [(70,Atm F),(156,AkJ F)] [] (0,12)
theorem A5T(F:Nat):Ai (A5S F):=Ac (Aa (s70 F) (Aa (A5P F) Ad))
theorem A85(F:Nat):CSound prog 155 (ApI F) :=
 Aq (fn:=f155) (Af []) (Af []) rfl func155 (by kernel_rfl) (A5T F) (fun fr hn=>(An (by kernel_rfl))) (fun x=>by kernel_rfl)
def A5U:Sig:=⟨[.ro,.ro],[(0,.d tyV),(1,.d tyV)],true,none,[Bv,.bool]⟩
def A1N(F:Nat):Contract:=Aw A5U fun x=>Qy F x.1 x.2.1
def A86(F:Nat):Cx:=Ar [(89,Apa F),(90,AgP F),(93,Axl F),(92,AxW F),(123,Aky F),(70,Atm F),(42,ApB F)] [] (0,64)
theorem A87(F:Nat):Ai (A86 F):=Ac (Aa (s89 F) (Aa (s90 F) (Aa (s93 F) (Aa (s92 F) (Aa (A5v F) (Aa (s70 F) (Aa (s42 F) Ad)))))))
def AkK:Ae:=[(4,.box 4 Bv),(7,.box 7 tyV),(10,.box 10 tyV)]
def Ad2:Ae:=[(4,.box 4 Bv),(5,.d .bool)]
def Atn:Df:=[(1,Ad2)]
def Ay4(F:Nat):Ay AkK:=fun x K=>K8 F (fun y4 y5=>K .ret (enc Ad2 (y4,y5,()))) x.1 x.2.1 x.2.2.1
def A88(F:Nat):A7 A5U:=Af [(8,⟨AkK,Ay4 F⟩)]
theorem A1O(F:Nat)(fr:Frm)(hn:(A86 F).ntmps=fr.n):Fb A5U f69 fr [1,1,1,1,1,1] AkK (Ay4 F) :=
 Fc (Af []) (A88 F) Atn rfl (A87 F) hn (fun x K=>by kernel_rfl) (An (by kernel_rfl))
theorem s69(F:Nat):CSound prog 69 (A1N F) :=
 Aq (fn:=f69) (Af []) (A88 F) rfl func69 (by kernel_rfl) (A87 F) (fun fr hn=>(A3 (l:=[((sub (Ap f69) [1,1,1,1,1,1]),⟨AkK,Ay4 F⟩)]) (by kernel_rfl) (Aj (A1O F fr hn) Av))) (fun x=>by kernel_rfl)
def A5V:Sig:=⟨[.ro,.ro,.ro,.ro],[(0,.d tyV),(1,.d Ab),(2,.d Ab),(3,.d Ag)],true,none,[Be,.bool]⟩
def Avo(F:Nat):Contract:=Aw A5V fun x=>Ol F x.1 x.2.1 x.2.2.1 x.2.2.2.1
def A5W(F:Nat):Cx:=Ar [(89,Apa F),(96,Atl F),(109,Akk F),(65,Anu F),(155,ApI F),(156,AkJ F),(67,Axm F),(69,A1N F)] [] (0,81)
theorem A5X(F:Nat):Ai (A5W F):=Ac (Aa (s89 F) (Aa (s96 F) (Aa (A53 F) (Aa (s65 F) (Aa (A85 F) (Aa (A5P F) (Aa (s67 F) (Aa (s69 F) Ad))))))))
theorem Baw(F:Nat):CSound prog 114 (Avo F) :=
 Aq (fn:=f114) (Af []) (Af []) rfl func114 (by kernel_rfl) (A5X F) (fun fr hn=>(An (by kernel_rfl))) (fun x=>by kernel_rfl)
def A42:Sig:=⟨[.ro,.ro],[(0,.d Be),(1,.d Be)],true,none,[Be,.bool]⟩
def Ay5(F:Nat):Contract:=Aw A42 fun x=>Qz F x.1 x.2.1
def A5Y(F:Nat):Cx:=Ar [(60,ApG F),(43,ApF F)] [] (0,47)
theorem A5Z(F:Nat):Ai (A5Y F):=Ac (Aa (s60 F) (Aa (s43 F) Ad))
def Aeu:Ae:=[(2,.box 2 Be),(4,.box 4 Be)]
def Ab5:Ae:=[(4,.box 4 Be),(5,.d .bool)]
def ApJ:Df:=[(1,Ab5)]
def ApK(F:Nat):Ay Aeu:=fun x K=>J4 F (fun y4 y5=>K .ret (enc Ab5 (y4,y5,()))) x.1 x.2.1
def AkL:Ae:=[(2,.box 2 Be),(3,.box 3 Be),(4,.box 4 Be)]
def Ad3:Ae:=[(4,.box 4 Be),(5,.d .bool)]
def Ato:Df:=[(1,Ad3)]
def Ay6(F:Nat):Ay AkL:=fun x K=>K9 F (fun y4 y5=>K .ret (enc Ad3 (y4,y5,()))) x.1 x.2.1 x.2.2.1
def A60(F:Nat):A7 A42:=Af [(11,⟨Aeu,ApK F⟩),(9,⟨AkL,Ay6 F⟩)]
theorem Ay7(F:Nat)(fr:Frm)(hn:(A5Y F).ntmps=fr.n):Fb A42 f62 fr [1,1,1,1,1,1] Aeu (ApK F) :=
 Fc (Af []) (A60 F) ApJ rfl (A5Z F) hn (fun x K=>by kernel_rfl) (An (by kernel_rfl))
theorem A1P(F:Nat)(fr:Frm)(hn:(A5Y F).ntmps=fr.n):Fb A42 f62 fr [1,1,1,1,1] AkL (Ay6 F) :=
 Fc (Af []) (A60 F) Ato rfl (A5Z F) hn (fun x K=>by kernel_rfl) (A3 (l:=[((sub (Ap f62) [1,1,1,1,1,1]),⟨Aeu,ApK F⟩)]) (by kernel_rfl) (Aj (Ay7 F fr hn) Av))
theorem s62(F:Nat):CSound prog 62 (Ay5 F) :=
 Aq (fn:=f62) (Af []) (A60 F) rfl func62 (by kernel_rfl) (A5Z F) (fun fr hn=>(A3 (l:=[((sub (Ap f62) [1,1,1,1,1]),⟨AkL,Ay6 F⟩)]) (by kernel_rfl) (Aj (A1P F fr hn) Av))) (fun x=>by kernel_rfl)
def Bax:Sig:=⟨[.ro],[(0,.d (.pair Ab (.pair Ab (.pair Ab (.pair E3 (.pair Ab (.pair Ab (.pair Be .unit))))))))],false,some (0,110),[(.slice (.pair Ab (.pair Ab (.pair Ab (.pair Be .unit))))),Ab]⟩
def Ay8(F:Nat):Contract:=Aw Bax fun x=>N2 F x.1
def Bay(F:Nat):Cx:=Ar [(112,ApH F)] [2,19] (0,20)
theorem Baz(F:Nat):Ai (Bay F):=Ac (Aa (A84 F) Ad)
theorem s58(F:Nat):CSound prog 58 (Ay8 F) :=
 Aq (fn:=f58) (Af []) (Af []) rfl func58 (by kernel_rfl) (Baz F) (fun fr hn=>(An (by kernel_rfl))) (fun x=>by kernel_rfl)
def A61:Sig:=⟨[.ro,.ro],[(0,.d (.pair Ab (.pair Ab (.pair Ab (.pair E3 (.pair Ab (.pair Ab (.pair Be .unit)))))))),(1,.d E3)],false,some (1,110),[(.pair Ab (.pair Ab (.pair Ab (.pair E3 (.pair Ab (.pair Ab (.pair Be .unit))))))),(.slice (.pair Ab (.pair Ab (.pair Ab (.pair Be .unit))))),Ab]⟩
def A1Q(F:Nat):Contract:=Aw A61 fun x=>Uo F x.1 x.2.1
def A89(F:Nat):Cx:=Ar [(112,ApH F),(113,Avl F),(115,Avm F),(116,Avn F),(114,Avo F),(62,Ay5 F),(58,Ay8 F)] [5,71] (0,88)
theorem A8a(F:Nat):Ai (A89 F):=Ac (Aa (A84 F) (Aa (Baq F) (Aa (Bar F) (Aa (Bas F) (Aa (Baw F) (Aa (s62 F) (Aa (s58 F) Ad)))))))
def AkN:Ae:=[(2,.box 2 (.pair Ab (.pair Ab (.pair Ab (.pair E3 (.pair Ab (.pair Ab (.pair Be .unit)))))))),(3,.box 3 E3),(4,.box 4 (.pair Ab (.pair Ab (.pair Ab (.pair E3 (.pair Ab (.pair Ab (.pair Be .unit))))))))]
def Ad4:Ae:=[(4,.box 4 (.pair Ab (.pair Ab (.pair Ab (.pair E3 (.pair Ab (.pair Ab (.pair Be .unit)))))))),(5,.own 5 (.pair Ab (.pair Ab (.pair Ab (.pair Be .unit)))) 110),(6,.d Ab)]
def Atp:Df:=[(1,Ad4)]
def Ay9(F:Nat):Ay AkN:=fun x K=>La F (fun y4 y5 y6=>K .ret (enc Ad4 (y4,y5,y6,()))) x.1 x.2.1 x.2.2.1
def A8b(F:Nat):A7 A61:=Af [(5,⟨AkN,Ay9 F⟩)]
theorem A1S(F:Nat)(fr:Frm)(hn:(A89 F).ntmps=fr.n):Fb A61 f57 fr [1,1,1] AkN (Ay9 F) :=
 Fc (Af []) (A8b F) Atp rfl (A8a F) hn (fun x K=>by kernel_rfl) (An (by kernel_rfl))
theorem s57(F:Nat):CSound prog 57 (A1Q F) :=
 Aq (fn:=f57) (Af []) (A8b F) rfl func57 (by kernel_rfl) (A8a F) (fun fr hn=>(A3 (l:=[((sub (Ap f57) [1,1,1]),⟨AkN,Ay9 F⟩)]) (by kernel_rfl) (Aj (A1S F fr hn) Av))) (fun x=>by kernel_rfl)
def A62:Sig:=⟨[.ro,.ro],[(0,.d (.slice E3)),(1,.d Ab)],false,some (0,110),[(.slice (.pair Ab (.pair Ab (.pair Ab (.pair Be .unit))))),Ab]⟩
def A1T(F:Nat):Contract:=Aw A62 fun x=>Wr F x.1 x.2.1
def A8c(F:Nat):Cx:=Ar [(55,A1e F),(56,A1l F),(57,A1Q F),(58,Ay8 F)] [4,8] (0,54)
theorem A8d(F:Nat):Ai (A8c F):=Ac (Aa (s55 F) (Aa (s56 F) (Aa (s57 F) (Aa (s58 F) Ad))))
def Aev:Ae:=[(0,.d (.slice E3)),(6,.box 6 (.pair Ab (.pair Ab (.pair Ab (.pair E3 (.pair Ab (.pair Ab (.pair Be .unit)))))))),(8,.own 8 (.pair Ab (.pair Ab (.pair Ab (.pair Be .unit)))) 110),(9,.d Ab)]
def Ah5:Ae:=[(6,.box 6 (.pair Ab (.pair Ab (.pair Ab (.pair E3 (.pair Ab (.pair Ab (.pair Be .unit)))))))),(8,.own 8 (.pair Ab (.pair Ab (.pair Ab (.pair Be .unit)))) 110)]
def ApL:Df:=[(2,Ah5)]
def AkO(F n:Nat):Ay Aev:=fun x K=>Jr F (fun y6 y8=>K (.exit 0) (enc Ah5 (y6,y8,()))) n x.1 x.2.1 x.2.2.1 x.2.2.2.1
def A8e(F:Nat):A7 A62:=Af [(10,⟨Aev,AkO F F⟩)]
theorem Aya(F:Nat)(fr:Frm)(hn:(A8c F).ntmps=fr.n)(n:Nat):Ba A62 f24 fr [1,1,1,1,1,1,0,1,0,0] Aev (AkO F n) :=
 Bc (A8e F) (Af []) ApL rfl (A8d F) hn (m:=fun n=>AkO F n) (fun _ _=>rfl) (fun n x K=>by kernel_rfl) (An (by kernel_rfl)) n
theorem s24(F:Nat):CSound prog 24 (A1T F) :=
 Aq (fn:=f24) (A8e F) (Af []) rfl func24 (by kernel_rfl) (A8d F) (fun fr hn=>(A3 (l:=[((.loop (sub (Ap f24) [1,1,1,1,1,1,0,1,0,0])),⟨Aev,AkO F F⟩)]) (by kernel_rfl) (Aj (Aya F fr hn F) Av))) (fun x=>by kernel_rfl)
def BaA:Sig:=⟨[.ro,.ro],[(0,.d (.pair Ab (.pair Ab (.pair Ab (.pair Be .unit))))),(1,.d (.pair Ab (.pair Ab (.pair Ab (.pair Be .unit)))))],true,none,[.bool]⟩
def A1U(F:Nat):Contract:=Aw BaA fun x=>P2 F x.1 x.2.1
def BaB(F:Nat):Cx:=Ar [(43,ApF F)] [] (0,58)
theorem BaC(F:Nat):Ai (BaB F):=Ac (Aa (s43 F) Ad)
theorem s61(F:Nat):CSound prog 61 (A1U F) :=
 Aq (fn:=f61) (Af []) (Af []) rfl func61 (by kernel_rfl) (BaC F) (fun fr hn=>(An (by kernel_rfl))) (fun x=>by kernel_rfl)
def A63:Sig:=⟨[.ro,.ro],[(0,.d Cz),(1,.d Ab)],false,some (0,3),[Cz]⟩
def A1V(F:Nat):Contract:=Aw A63 fun x=>P3 F x.1 x.2.1
def A8f(F:Nat):Cx:=Ar [] [4,5] (0,42)
theorem A8g(F:Nat):Ai (A8f F):=Ac Ad
def AkP:Ae:=[(0,.d Cz),(1,.d Ab),(5,.own 5 Ab 3),(6,.d .bool),(7,.d Ab)]
def AkQ:Ae:=[(1,.d Ab),(5,.own 5 Ab 3),(6,.d .bool)]
def Atq:Df:=[(2,AkQ)]
def Atr(F n:Nat):Ay AkP:=fun x K=>Cq F (fun y1 y5 y6=>K (.exit 0) (enc AkQ (y1,y5,y6,()))) n x.1 x.2.1 x.2.2.1 x.2.2.2.1 x.2.2.2.2.1
def A8h(F:Nat):A7 A63:=Af [(4,⟨AkP,Atr F F⟩)]
theorem A1W(F:Nat)(fr:Frm)(hn:(A8f F).ntmps=fr.n)(n:Nat):Ba A63 f63 fr [1,1,1,0,1,0,0] AkP (Atr F n) :=
 Bc (A8h F) (Af []) Atq rfl (A8g F) hn (m:=fun n=>Atr F n) (fun _ _=>rfl) (fun n x K=>by kernel_rfl) (An (by kernel_rfl)) n
theorem s63(F:Nat):CSound prog 63 (A1V F) :=
 Aq (fn:=f63) (A8h F) (Af []) rfl func63 (by kernel_rfl) (A8g F) (fun fr hn=>(A3 (l:=[((.loop (sub (Ap f63) [1,1,1,0,1,0,0])),⟨AkP,Atr F F⟩)]) (by kernel_rfl) (Aj (A1W F fr hn F) Av))) (fun x=>by kernel_rfl)
def BaD:Sig:=⟨[.ro],[(0,.d Ab)],true,none,[Bv]⟩
def Ats(F:Nat):Contract:=Aw BaD fun x=>Sn F x.1
def BaE(F:Nat):Cx:=Ar [(65,Anu F),(94,Ati F)] [] (0,7)
theorem BaF(F:Nat):Ai (BaE F):=Ac (Aa (s65 F) (Aa (s94 F) Ad))
theorem s44(F:Nat):CSound prog 44 (Ats F) :=
 Aq (fn:=f44) (Af []) (Af []) rfl func44 (by kernel_rfl) (BaF F) (fun fr hn=>(An (by kernel_rfl))) (fun x=>by kernel_rfl)
def A1X:Sig:=⟨[.ro,.ro,.ro,.ro],[(0,.d tyV),(1,.d tyV),(2,.d tyV),(3,.d tyV)],true,none,[tyV,tyV]⟩
def Avp(F:Nat):Contract:=Aw A1X fun x=>J5 F x.1 x.2.1 x.2.2.1 x.2.2.2.1
def Ajh(F n:Nat):Contract:=Aw A1X fun x=>B1 n F x.1 x.2.1 x.2.2.1 x.2.2.2.1
def Ayb(F:Nat)(n:Nat):Cx:=Ar [(123,Aky F),(90,AgP F),(65,Anu F),(156,AkJ F),(68,Atk F),(96,Atl F),(155,ApI F),(158,Ajh F n)] [] (0,95)
theorem A64(F n:Nat)(ih:CSound prog 158 (Ajh F n)):∀ f c,(Ayb F n).call f=some c→Xt prog f c:=Ac (Aa (A5v F) (Aa (s90 F) (Aa (s65 F) (Aa (A5P F) (Aa (s68 F) (Aa (s96 F) (Aa (A85 F) (Aa ih Ad))))))))
theorem A1Y(F:Nat):∀ n,CSound prog 158 (Ajh F n)
 | 0=>Anc (fn:=f158) (code:=(Ap f158)) (cx:=Ayb F 0) func158 (by kernel_rfl) (by kernel_rfl) (by kernel_rfl) (fun x=>rfl)
 | n+1 =>
  AdV (fn:=f158) (code:=(Ap f158)) (cx:=Ayb F n) (hs:=Af []) (js:=Af []) func158 (by kernel_rfl) (by kernel_rfl) (En _ rfl) (A64 F n (A1Y F n)) mix (by kernel_rfl) (by kernel_rfl) (fun fr hn=>(An (by kernel_rfl))) (fun x=>by kernel_rfl)
theorem BaG(F:Nat):CSound prog 158 (Avp F):=A1Y F F
def Att:Sig:=⟨[.ro,.ro],[(0,.d Bv),(1,.d Bv)],true,none,[Bv,.bool]⟩
def Avq(F:Nat):Contract:=Aw Att fun x=>Om F x.1 x.2.1
def Ayc(F:Nat):Cx:=Ar [(42,ApB F),(43,ApF F),(90,AgP F),(44,Ats F),(70,Atm F),(158,Avp F)] [] (0,83)
theorem Ayd(F:Nat):Ai (Ayc F):=Ac (Aa (s42 F) (Aa (s43 F) (Aa (s90 F) (Aa (s44 F) (Aa (s70 F) (Aa (BaG F) Ad))))))
def Aew:Ae:=[(2,.box 2 Bv),(3,.box 3 Bv),(4,.box 4 Bv),(36,.d .bool)]
def Ah6:Ae:=[(2,.box 2 Bv),(3,.box 3 Bv),(4,.box 4 Bv)]
def Ab6:Ae:=[(4,.box 4 Bv),(5,.d .bool)]
def ApN:Df:=[(0,Ah6),(1,Ab6)]
def ApO(F:Nat):Ay Aew:=fun x K=>H3 F (fun y2 y3 y4=>K .normal (enc Ah6 (y2,y3,y4,()))) (fun y4 y5=>K .ret (enc Ab6 (y4,y5,()))) x.1 x.2.1 x.2.2.1 x.2.2.2.1
def Aex:Ae:=[(2,.box 2 Bv),(3,.box 3 Bv),(4,.box 4 Bv)]
def Ab7:Ae:=[(4,.box 4 Bv),(5,.d .bool)]
def ApP:Df:=[(1,Ab7)]
def ApQ(F:Nat):Ay Aex:=fun x K=>H4 F (fun y4 y5=>K .ret (enc Ab7 (y4,y5,()))) x.1 x.2.1 x.2.2.1
def Aye(F:Nat):A7 Att:=Af [(4,⟨Aew,ApO F⟩),(5,⟨Aex,ApQ F⟩)]
theorem Ayf(F:Nat)(fr:Frm)(hn:(Ayc F).ntmps=fr.n):Fb Att f118 fr [1,1,0,1] Aew (ApO F) :=
 Fc (Af []) (Aye F) ApN rfl (Ayd F) hn (fun x K=>by kernel_rfl) (An (by kernel_rfl))
theorem Ayg(F:Nat)(fr:Frm)(hn:(Ayc F).ntmps=fr.n):Fb Att f118 fr [1,1,1] Aex (ApQ F) :=
 Fc (Af []) (Aye F) ApP rfl (Ayd F) hn (fun x K=>by kernel_rfl) (An (by kernel_rfl))
theorem BaH(F:Nat):CSound prog 118 (Avq F) :=
 Aq (fn:=f118) (Af []) (Aye F) rfl func118 (by kernel_rfl) (Ayd F) (fun fr hn=>(A3 (l:=[((sub (Ap f118) [1,1,0,1]),⟨Aew,ApO F⟩),((sub (Ap f118) [1,1,1]),⟨Aex,ApQ F⟩)]) (by kernel_rfl) (Aj (Ayf F fr hn) (Aj (Ayg F fr hn) Av)))) (fun x=>by kernel_rfl)
def BaI:Sig:=⟨[.ro],[(0,.d Be)],true,none,[Bv]⟩
def A1Z(F:Nat):Contract:=Aw BaI fun x=>N3 F x.1
def BaJ(F:Nat):Cx:=Ar [(60,ApG F),(44,Ats F),(118,Avq F)] [] (0,21)
theorem BaK(F:Nat):Ai (BaJ F):=Ac (Aa (s60 F) (Aa (s44 F) (Aa (BaH F) Ad)))
theorem s64(F:Nat):CSound prog 64 (A1Z F) :=
 Aq (fn:=f64) (Af []) (Af []) rfl func64 (by kernel_rfl) (BaK F) (fun fr hn=>(An (by kernel_rfl))) (fun x=>by kernel_rfl)
def Ask:Sig:=⟨[.ro],[(0,.d (.slice (.pair Ab (.pair Ab (.pair Ab (.pair Be .unit))))))],false,some (0,56),[(.slice Bq),Ab]⟩
def A20(F:Nat):Contract:=Aw Ask fun x=>Up F x.1
def Avr(F:Nat):Cx:=Ar [(60,ApG F),(61,A1U F),(62,Ay5 F),(63,A1V F),(64,A1Z F)] [2,8,51] (0,176)
theorem Avs(F:Nat):Ai (Avr F):=Ac (Aa (s60 F) (Aa (s61 F) (Aa (s62 F) (Aa (s63 F) (Aa (s64 F) Ad)))))
def AkS:Ae:=[(0,.d (.slice (.pair Ab (.pair Ab (.pair Ab (.pair Be .unit)))))),(4,.d Ab),(5,.d Ab)]
def AkT:Ae:=[(0,.d (.slice (.pair Ab (.pair Ab (.pair Ab (.pair Be .unit)))))),(4,.d Ab)]
def Ad5:Ae:=[(2,.own 2 Bq 56),(3,.d Ab)]
def Atu:Df:=[(4,AkT),(1,Ad5)]
def Atv(F n:Nat):Ay AkS:=fun x K=>Hu F (fun y0 y4=>K (.exit 2) (enc AkT (y0,y4,()))) (fun y2 y3=>K .ret (enc Ad5 (y2,y3,()))) n x.1 x.2.1 x.2.2.1
def AkU:Ae:=[(0,.d (.slice (.pair Ab (.pair Ab (.pair Ab (.pair Be .unit)))))),(4,.d Ab)]
def AkV:Ae:=[(0,.d (.slice (.pair Ab (.pair Ab (.pair Ab (.pair Be .unit))))))]
def Ad6:Ae:=[(2,.own 2 Bq 56),(3,.d Ab)]
def Atw:Df:=[(2,AkV),(1,Ad6)]
def Atx(F n:Nat):Ay AkU:=fun x K=>F9 F (fun y0=>K (.exit 0) (enc AkV (y0,()))) (fun y2 y3=>K .ret (enc Ad6 (y2,y3,()))) n x.1 x.2.1
def Aey:Ae:=[(0,.own 0 (.pair Ab (.pair Ab (.pair Ab (.pair Be .unit)))) 110),(6,.d Ab),(7,.d Ab)]
def Ah7:Ae:=[(0,.own 0 (.pair Ab (.pair Ab (.pair Ab (.pair Be .unit)))) 110),(6,.d Ab)]
def ApS:Df:=[(8,Ah7)]
def AkW(F n:Nat):Ay Aey:=fun x K=>Gq F (fun y0 y6=>K (.exit 6) (enc Ah7 (y0,y6,()))) n x.1 x.2.1 x.2.2.1
def Aez:Ae:=[(0,.own 0 (.pair Ab (.pair Ab (.pair Ab (.pair Be .unit)))) 110),(6,.d Ab)]
def Ah8:Ae:=[(0,.own 0 (.pair Ab (.pair Ab (.pair Ab (.pair Be .unit)))) 110)]
def ApT:Df:=[(6,Ah8)]
def AkX(F n:Nat):Ay Aez:=fun x K=>E7 F (fun y0=>K (.exit 4) (enc Ah8 (y0,()))) n x.1 x.2.1
def AeA:Ae:=[(0,.own 0 (.pair Ab (.pair Ab (.pair Ab (.pair Be .unit)))) 110),(8,.own 8 Bq 56),(9,.box 9 Be),(10,.d Ab),(11,.box 11 Be),(13,.d Ab),(130,.d .bool)]
def Ah9:Ae:=[(0,.own 0 (.pair Ab (.pair Ab (.pair Ab (.pair Be .unit)))) 110),(8,.own 8 Bq 56),(9,.box 9 Be),(10,.d Ab)]
def Aha:Ae:=[(0,.own 0 (.pair Ab (.pair Ab (.pair Ab (.pair Be .unit)))) 110),(8,.own 8 Bq 56),(9,.box 9 Be),(10,.d Ab)]
def ApU:Df:=[(11,Ah9),(0,Aha)]
def ApV(F:Nat):Ay AeA:=fun x K=>E8 F (fun y0 y8 y9 y10=>K (.exit 9) (enc Ah9 (y0,y8,y9,y10,()))) (fun y0 y8 y9 y10=>K .normal (enc Aha (y0,y8,y9,y10,()))) x.1 x.2.1 x.2.2.1 x.2.2.2.1 x.2.2.2.2.1 x.2.2.2.2.2.1 x.2.2.2.2.2.2.1
def AeB:Ae:=[(0,.own 0 (.pair Ab (.pair Ab (.pair Ab (.pair Be .unit)))) 110),(8,.own 8 Bq 56),(9,.box 9 Be),(10,.d Ab)]
def Ahb:Ae:=[(0,.own 0 (.pair Ab (.pair Ab (.pair Ab (.pair Be .unit)))) 110),(8,.own 8 Bq 56),(9,.box 9 Be),(10,.d Ab)]
def ApW:Df:=[(0,Ahb)]
def ApX(F:Nat):Ay AeB:=fun x K=>Ib F (fun y0 y8 y9 y10=>K .normal (enc Ahb (y0,y8,y9,y10,()))) x.1 x.2.1 x.2.2.1 x.2.2.2.1
def AeC:Ae:=[(0,.own 0 (.pair Ab (.pair Ab (.pair Ab (.pair Be .unit)))) 110),(8,.own 8 Bq 56),(9,.box 9 Be),(10,.d Ab)]
def Ahc:Ae:=[(8,.own 8 Bq 56)]
def ApY:Df:=[(10,Ahc)]
def AkY(F n:Nat):Ay AeC:=fun x K=>Bx F (fun y8=>K (.exit 8) (enc Ahc (y8,()))) n x.1 x.2.1 x.2.2.1 x.2.2.2.1
def Avt(F:Nat):A7 Ask:=Af [(7,⟨AkS,Atv F F⟩),(2,⟨AkU,Atx F F⟩),(16,⟨Aey,AkW F F⟩),(13,⟨Aez,AkX F F⟩),(22,⟨AeC,AkY F F⟩)]
def Avu(F:Nat):A7 Ask:=Af [(27,⟨AeA,ApV F⟩),(30,⟨AeB,ApX F⟩)]
theorem A21(F:Nat)(fr:Frm)(hn:(Avr F).ntmps=fr.n)(n:Nat):Ba Ask f26 fr [1,0,1,0,0,1,0,0,1,1,0,0] AkS (Atv F n) :=
 Bc (Avt F) (Avu F) Atu rfl (Avs F) hn (m:=fun n=>Atv F n) (fun _ _=>rfl) (fun n x K=>by kernel_rfl) (An (by kernel_rfl)) n
theorem A22(F:Nat)(fr:Frm)(hn:(Avr F).ntmps=fr.n)(n:Nat):Ba Ask f26 fr [1,0,1,0,0] AkU (Atx F n) :=
 Bc (Avt F) (Avu F) Atw rfl (Avs F) hn (m:=fun n=>Atx F n) (fun _ _=>rfl) (fun n x K=>by kernel_rfl) (A3 (l:=[((.loop (sub (Ap f26) [1,0,1,0,0,1,0,0,1,1,0,0])),⟨AkS,Atv F F⟩)]) (by kernel_rfl) (Aj (A21 F fr hn F) Av)) n
theorem Ayh(F:Nat)(fr:Frm)(hn:(Avr F).ntmps=fr.n)(n:Nat):Ba Ask f26 fr [1,1,1,0,1,0,0,1,0,0,1,0,0] Aey (AkW F n) :=
 Bc (Avt F) (Avu F) ApS rfl (Avs F) hn (m:=fun n=>AkW F n) (fun _ _=>rfl) (fun n x K=>by kernel_rfl) (An (by kernel_rfl)) n
theorem Ayi(F:Nat)(fr:Frm)(hn:(Avr F).ntmps=fr.n)(n:Nat):Ba Ask f26 fr [1,1,1,0,1,0,0] Aez (AkX F n) :=
 Bc (Avt F) (Avu F) ApT rfl (Avs F) hn (m:=fun n=>AkX F n) (fun _ _=>rfl) (fun n x K=>by kernel_rfl) (A3 (l:=[((.loop (sub (Ap f26) [1,1,1,0,1,0,0,1,0,0,1,0,0])),⟨Aey,AkW F F⟩)]) (by kernel_rfl) (Aj (Ayh F fr hn F) Av)) n
theorem Ayj(F:Nat)(fr:Frm)(hn:(Avr F).ntmps=fr.n):Fb Ask f26 fr [1,1,1,1,1,1,0,1,0,0,1,0,0,1,1,0,1] AeA (ApV F) :=
 Fc (Avt F) (Avu F) ApU rfl (Avs F) hn (fun x K=>by kernel_rfl) (An (by kernel_rfl))
theorem Ayk(F:Nat)(fr:Frm)(hn:(Avr F).ntmps=fr.n):Fb Ask f26 fr [1,1,1,1,1,1,0,1,0,0,1,0,0,1,1,1] AeB (ApX F) :=
 Fc (Avt F) (Avu F) ApW rfl (Avs F) hn (fun x K=>by kernel_rfl) (An (by kernel_rfl))
theorem Ayl(F:Nat)(fr:Frm)(hn:(Avr F).ntmps=fr.n)(n:Nat):Ba Ask f26 fr [1,1,1,1,1,1,0,1,0,0] AeC (AkY F n) :=
 Bc (Avt F) (Avu F) ApY rfl (Avs F) hn (m:=fun n=>AkY F n) (fun _ _=>rfl) (fun n x K=>by kernel_rfl) (A3 (l:=[((sub (Ap f26) [1,1,1,1,1,1,0,1,0,0,1,0,0,1,1,0,1]),⟨AeA,ApV F⟩),((sub (Ap f26) [1,1,1,1,1,1,0,1,0,0,1,0,0,1,1,1]),⟨AeB,ApX F⟩)]) (by kernel_rfl) (Aj (Ayj F fr hn) (Aj (Ayk F fr hn) Av))) n
theorem s26(F:Nat):CSound prog 26 (A20 F) :=
 Aq (fn:=f26) (Avt F) (Avu F) rfl func26 (by kernel_rfl) (Avs F) (fun fr hn=>(A3 (l:=[((.loop (sub (Ap f26) [1,0,1,0,0])),⟨AkU,Atx F F⟩),((.loop (sub (Ap f26) [1,1,1,0,1,0,0])),⟨Aez,AkX F F⟩),((.loop (sub (Ap f26) [1,1,1,1,1,1,0,1,0,0])),⟨AeC,AkY F F⟩)]) (by kernel_rfl) (Aj (A22 F fr hn F) (Aj (Ayi F fr hn F) (Aj (Ayl F fr hn F) Av))))) (fun x=>by kernel_rfl)
def sg8:Sig:=⟨[.bor],[(0,.box 0 Ci)],false,some (0,56),[Ci,(.slice Bq),Ab]⟩
def A8i(F:Nat):Contract:=Aw sg8 fun x=>O2 F x.1
def cx8(F:Nat):Cx:=Ar [(23,A1c F),(25,A1d F),(24,A1T F),(26,A20 F)] [2,20] (1,26)
theorem cs8(F:Nat):Ai (cx8 F):=Ac (Aa (s23 F) (Aa (s25 F) (Aa (s24 F) (Aa (s26 F) Ad))))
theorem s8(F:Nat):CSound prog 8 (A8i F) :=
 Aq (fn:=f8) (Af []) (Af []) rfl func8 (by kernel_rfl) (cs8 F) (fun fr hn=>(An (by kernel_rfl))) (fun x=>by kernel_rfl)
def A65:Sig:=⟨[.ro],[(0,.d (.slice Bq))],true,none,[Ab]⟩
def A23(F:Nat):Contract:=Aw A65 fun x=>I6 F x.1
def A8j(F:Nat):Cx:=Ar [] [] (0,19)
theorem A8k(F:Nat):Ai (A8j F):=Ac Ad
def AkZ:Ae:=[(3,.d Ab),(6,.d (.slice Bq)),(7,.d Ab),(8,.d Ab)]
def Al0:Ae:=[(3,.d Ab)]
def Aty:Df:=[(2,Al0)]
def Atz(F n:Nat):Ay AkZ:=fun x K=>Ei F (fun y3=>K (.exit 0) (enc Al0 (y3,()))) n x.1 x.2.1 x.2.2.1 x.2.2.2.1
def A8l(F:Nat):A7 A65:=Af [(3,⟨AkZ,Atz F F⟩)]
theorem A24(F:Nat)(fr:Frm)(hn:(A8j F).ntmps=fr.n)(n:Nat):Ba A65 f39 fr [1,1,0,1,0,0] AkZ (Atz F n) :=
 Bc (A8l F) (Af []) Aty rfl (A8k F) hn (m:=fun n=>Atz F n) (fun _ _=>rfl) (fun n x K=>by kernel_rfl) (An (by kernel_rfl)) n
theorem s39(F:Nat):CSound prog 39 (A23 F) :=
 Aq (fn:=f39) (A8l F) (Af []) rfl func39 (by kernel_rfl) (A8k F) (fun fr hn=>(A3 (l:=[((.loop (sub (Ap f39) [1,1,0,1,0,0])),⟨AkZ,Atz F F⟩)]) (by kernel_rfl) (Aj (A24 F fr hn F) Av))) (fun x=>by kernel_rfl)
def BaL:Sig:=⟨[.ro],[(0,.d tyV)],true,none,[.bool]⟩
def ApZ(F:Nat):Contract:=Aw BaL fun x=>Js F x.1
def BaN(F:Nat):Cx:=Ar [] [] (0,12)
theorem BaO(F:Nat):Ai (BaN F):=Ac Ad
theorem s81(F:Nat):CSound prog 81 (ApZ F) :=
 Aq (fn:=f81) (Af []) (Af []) rfl func81 (by kernel_rfl) (BaO F) (fun fr hn=>(An (by kernel_rfl))) (fun x=>by kernel_rfl)
def A66:Sig:=⟨[.ro],[(0,.d tyV)],true,none,[tyV]⟩
def Ad7(F:Nat):Contract:=Aw A66 fun x=>Fv F x.1
def A67(F:Nat):Cx:=Ar [(81,ApZ F)] [] (0,8)
theorem A68(F:Nat):Ai (A67 F):=Ac (Aa (s81 F) Ad)
theorem A25(F:Nat):CSound prog 135 (Ad7 F) :=
 Aq (fn:=f135) (Af []) (Af []) rfl func135 (by kernel_rfl) (A68 F) (fun fr hn=>(An (by kernel_rfl))) (fun x=>by kernel_rfl)
def BaP:Sig:=⟨[.ro],[(0,.d tyV)],true,none,[Ab]⟩
def Aq0(F:Nat):Contract:=Aw BaP fun x=>Lb F x.1
def BaQ(F:Nat):Cx:=Ar [(135,Ad7 F)] [] (0,13)
theorem BaS(F:Nat):Ai (BaQ F):=Ac (Aa (A25 F) Ad)
theorem s82(F:Nat):CSound prog 82 (Aq0 F) :=
 Aq (fn:=f82) (Af []) (Af []) rfl func82 (by kernel_rfl) (BaS F) (fun fr hn=>(An (by kernel_rfl))) (fun x=>by kernel_rfl)
def BaT:Sig:=⟨[.ro],[(0,.d tyV)],true,none,[.bool]⟩
def A26(F:Nat):Contract:=Aw BaT fun x=>Pg F x.1
def BaU(F:Nat):Cx:=Ar [] [] (0,20)
theorem BaV(F:Nat):Ai (BaU F):=Ac Ad
theorem s83(F:Nat):CSound prog 83 (A26 F) :=
 Aq (fn:=f83) (Af []) (Af []) rfl func83 (by kernel_rfl) (BaV F) (fun fr hn=>(An (by kernel_rfl))) (fun x=>by kernel_rfl)
def Aym:Sig:=⟨[.ro],[(0,.d (.arr 4 Ag))],true,none,[Ab]⟩
def Avv(F:Nat):Contract:=Aw Aym fun x=>Ph F x.1
def A27(F:Nat):Cx:=Ar [(166,AcQ F)] [] (0,19)
theorem A28(F:Nat):Ai (A27 F):=Ac (Aa (A18 F) Ad)
def AeD:Ae:=[(1,.box 1 (.arr 4 Ag)),(3,.d Ab)]
def Ahd:Ae:=[]
def Ab8:Ae:=[(2,.d Ab)]
def Aq1:Df:=[(2,Ahd),(1,Ab8)]
def Al1(F n:Nat):Ay AeD:=fun x K=>E9 F (K (.exit 0) (enc Ahd (()))) (fun y2=>K .ret (enc Ab8 (y2,()))) n x.1 x.2.1
def A29(F:Nat):A7 Aym:=Af [(2,⟨AeD,Al1 F F⟩)]
theorem Ayn(F:Nat)(fr:Frm)(hn:(A27 F).ntmps=fr.n)(n:Nat):Ba Aym f187 fr [1,0,1,0,0] AeD (Al1 F n) :=
 Bc (A29 F) (Af []) Aq1 rfl (A28 F) hn (m:=fun n=>Al1 F n) (fun _ _=>rfl) (fun n x K=>by kernel_rfl) (An (by kernel_rfl)) n
theorem BaW(F:Nat):CSound prog 187 (Avv F) :=
 Aq (fn:=f187) (A29 F) (Af []) rfl func187 (by kernel_rfl) (A28 F) (fun fr hn=>(A3 (l:=[((.loop (sub (Ap f187) [1,0,1,0,0])),⟨AeD,Al1 F F⟩)]) (by kernel_rfl) (Aj (Ayn F fr hn F) Av))) (fun x=>by kernel_rfl)
def Aq2:Sig:=⟨[.ro,.ro],[(0,.d (.arr 4 Ag)),(1,.d Ab)],true,none,[(.arr 4 Ag)]⟩
def Avw(F:Nat):Contract:=Aw Aq2 fun x=>Ws F x.1 x.2.1
def Ayo(F:Nat):Cx:=Ar [] [] (0,48)
theorem Ayp(F:Nat):Ai (Ayo F):=Ac Ad
def AeE:Ae:=[(2,.box 2 (.arr 4 Ag)),(4,.box 4 (.arr 4 Ag)),(5,.d Ab),(6,.d Ab),(7,.d Ab),(32,.d .bool)]
def Ahe:Ae:=[(2,.box 2 (.arr 4 Ag)),(4,.box 4 (.arr 4 Ag)),(5,.d Ab),(6,.d Ab),(7,.d Ab)]
def Aq3:Df:=[(0,Ahe)]
def Aq4(F:Nat):Ay AeE:=fun x K=>P4 F (fun y2 y4 y5 y6 y7=>K .normal (enc Ahe (y2,y4,y5,y6,y7,()))) x.1 x.2.1 x.2.2.1 x.2.2.2.1 x.2.2.2.2.1 x.2.2.2.2.2.1
def AeF:Ae:=[(2,.box 2 (.arr 4 Ag)),(4,.box 4 (.arr 4 Ag)),(5,.d Ab),(6,.d Ab),(7,.d Ab)]
def Ahf:Ae:=[(4,.box 4 (.arr 4 Ag))]
def Aq5:Df:=[(2,Ahf)]
def Al2(F n:Nat):Ay AeF:=fun x K=>Ds F (fun y4=>K (.exit 0) (enc Ahf (y4,()))) n x.1 x.2.1 x.2.2.1 x.2.2.2.1 x.2.2.2.2.1
def Ayq(F:Nat):A7 Aq2:=Af [(3,⟨AeF,Al2 F F⟩)]
def Ayr(F:Nat):A7 Aq2:=Af [(7,⟨AeE,Aq4 F⟩)]
theorem Ays(F:Nat)(fr:Frm)(hn:(Ayo F).ntmps=fr.n):Fb Aq2 f188 fr [1,1,0,1,0,0,1,0,0,1,1] AeE (Aq4 F) :=
 Fc (Ayq F) (Ayr F) Aq3 rfl (Ayp F) hn (fun x K=>by kernel_rfl) (An (by kernel_rfl))
theorem Ayt(F:Nat)(fr:Frm)(hn:(Ayo F).ntmps=fr.n)(n:Nat):Ba Aq2 f188 fr [1,1,0,1,0,0] AeF (Al2 F n) :=
 Bc (Ayq F) (Ayr F) Aq5 rfl (Ayp F) hn (m:=fun n=>Al2 F n) (fun _ _=>rfl) (fun n x K=>by kernel_rfl) (A3 (l:=[((sub (Ap f188) [1,1,0,1,0,0,1,0,0,1,1]),⟨AeE,Aq4 F⟩)]) (by kernel_rfl) (Aj (Ays F fr hn) Av)) n
theorem BaX(F:Nat):CSound prog 188 (Avw F) :=
 Aq (fn:=f188) (Ayq F) (Ayr F) rfl func188 (by kernel_rfl) (Ayp F) (fun fr hn=>(A3 (l:=[((.loop (sub (Ap f188) [1,1,0,1,0,0])),⟨AeF,Al2 F F⟩)]) (by kernel_rfl) (Aj (Ayt F fr hn F) Av))) (fun x=>by kernel_rfl)
def A69:Sig:=⟨[.ro],[(0,.d Ag)],true,none,[.bool]⟩
def Avx(F:Nat):Contract:=Aw A69 fun x=>Kc F x.1
def A6a(F:Nat):Cx:=Ar [] [] (0,6)
theorem A6b(F:Nat):Ai (A6a F):=Ac Ad
theorem BaY(F:Nat):CSound prog 193 (Avx F) :=
 Aq (fn:=f193) (Af []) (Af []) rfl func193 (by kernel_rfl) (A6b F) (fun fr hn=>(An (by kernel_rfl))) (fun x=>by kernel_rfl)
def A6c:Sig:=⟨[.ro,.ro],[(0,.d Ag),(1,.d Ag)],true,none,[Ab]⟩
def Avy(F:Nat):Contract:=Aw A6c fun x=>Di F x.1 x.2.1
def A6d(F:Nat):Cx:=Ar [(193,Avx F)] [] (0,20)
theorem A6e(F:Nat):Ai (A6d F):=Ac (Aa (BaY F) Ad)
theorem BaZ(F:Nat):CSound prog 190 (Avy F) :=
 Aq (fn:=f190) (Af []) (Af []) rfl func190 (by kernel_rfl) (A6e F) (fun fr hn=>(An (by kernel_rfl))) (fun x=>by kernel_rfl)
def A6f:Sig:=⟨[.ro],[(0,.d Cz)],true,none,[Ab]⟩
def Ayu(F:Nat):Contract:=Aw A6f fun x=>Nb F x.1
def A8m(F:Nat):Cx:=Ar [] [] (0,18)
theorem A8n(F:Nat):Ai (A8m F):=Ac Ad
def Al3:Ae:=[(3,.d Ab),(6,.d Cz),(7,.d Ab),(8,.d Ab)]
def Al4:Ae:=[(3,.d Ab)]
def Ad8:Ae:=[(2,.d Ab)]
def AtA:Df:=[(2,Al4),(1,Ad8)]
def AtB(F n:Nat):Ay Al3:=fun x K=>D7 F (fun y3=>K (.exit 0) (enc Al4 (y3,()))) (fun y2=>K .ret (enc Ad8 (y2,()))) n x.1 x.2.1 x.2.2.1 x.2.2.2.1
def A8o(F:Nat):A7 A6f:=Af [(3,⟨Al3,AtB F F⟩)]
theorem A2a(F:Nat)(fr:Frm)(hn:(A8m F).ntmps=fr.n)(n:Nat):Ba A6f f86 fr [1,1,0,1,0,0] Al3 (AtB F n) :=
 Bc (A8o F) (Af []) AtA rfl (A8n F) hn (m:=fun n=>AtB F n) (fun _ _=>rfl) (fun n x K=>by kernel_rfl) (An (by kernel_rfl)) n
theorem s86(F:Nat):CSound prog 86 (Ayu F) :=
 Aq (fn:=f86) (A8o F) (Af []) rfl func86 (by kernel_rfl) (A8n F) (fun fr hn=>(A3 (l:=[((.loop (sub (Ap f86) [1,1,0,1,0,0])),⟨Al3,AtB F F⟩)]) (by kernel_rfl) (Aj (A2a F fr hn F) Av))) (fun x=>by kernel_rfl)
def A6g:Sig:=⟨[.ro,.ro],[(0,.d (.arr 4 Ag)),(1,.d (.arr 4 Ag))],true,none,[Ab]⟩
def Aq6(F:Nat):Contract:=Aw A6g fun x=>Ku F x.1 x.2.1
def A6h(F:Nat):Cx:=Ar [(190,Avy F),(86,Ayu F)] [] (0,27)
theorem A6i(F:Nat):Ai (A6h F):=Ac (Aa (BaZ F) (Aa (s86 F) Ad))
theorem A8p(F:Nat):CSound prog 173 (Aq6 F) :=
 Aq (fn:=f173) (Af []) (Af []) rfl func173 (by kernel_rfl) (A6i F) (fun fr hn=>(An (by kernel_rfl))) (fun x=>by kernel_rfl)
def Ayv:Sig:=⟨[.ro,.ro],[(0,.d (.arr 4 Ag)),(1,.d (.arr 4 Ag))],true,none,[(.arr 4 Ag)]⟩
def Aq7(F:Nat):Contract:=Aw Ayv fun x=>Wt F x.1 x.2.1
def A2b(F:Nat):Cx:=Ar [(186,Ake F)] [] (0,25)
theorem A2c(F:Nat):Ai (A2b F):=Ac (Gj (A4X F) Ad)
def AeG:Ae:=[(2,.box 2 (.arr 4 Ag)),(3,.box 3 (.arr 4 Ag)),(4,.box 4 (.arr 4 Ag)),(5,.d Ag),(7,.d Ab)]
def Ahg:Ae:=[(4,.box 4 (.arr 4 Ag))]
def Aq8:Df:=[(2,Ahg)]
def Al5(F n:Nat):Ay AeG:=fun x K=>I7 F (fun y4=>K (.exit 0) (enc Ahg (y4,()))) n x.1 x.2.1 x.2.2.1 x.2.2.2.1 x.2.2.2.2.1
def A2d(F:Nat):A7 Ayv:=Af [(3,⟨AeG,Al5 F F⟩)]
theorem Ayw(F:Nat)(fr:Frm)(hn:(A2b F).ntmps=fr.n)(n:Nat):Ba Ayv f170 fr [1,1,0,1,0,0] AeG (Al5 F n) :=
 Bc (A2d F) (Af []) Aq8 rfl (A2c F) hn (m:=fun n=>Al5 F n) (fun _ _=>rfl) (fun n x K=>by kernel_rfl) (An (by kernel_rfl)) n
theorem A8q(F:Nat):CSound prog 170 (Aq7 F) :=
 Aq (fn:=f170) (A2d F) (Af []) rfl func170 (by kernel_rfl) (A2c F) (fun fr hn=>(A3 (l:=[((.loop (sub (Ap f170) [1,1,0,1,0,0])),⟨AeG,Al5 F F⟩)]) (by kernel_rfl) (Aj (Ayw F fr hn F) Av))) (fun x=>by kernel_rfl)
def Ayx:Sig:=⟨[.ro],[(0,.d (.arr 4 Ag))],true,none,[(.arr 4 Ag)]⟩
def Avz(F:Nat):Contract:=Aw Ayx fun x=>Pj F x.1
def A2e(F:Nat):Cx:=Ar [] [] (0,27)
theorem A2f(F:Nat):Ai (A2e F):=Ac Ad
def AeH:Ae:=[(1,.box 1 (.arr 4 Ag)),(2,.box 2 (.arr 4 Ag)),(4,.d Ab)]
def Ahh:Ae:=[(2,.box 2 (.arr 4 Ag))]
def Aq9:Df:=[(2,Ahh)]
def Al6(F n:Nat):Ay AeH:=fun x K=>D8 F (fun y2=>K (.exit 0) (enc Ahh (y2,()))) n x.1 x.2.1 x.2.2.1
def A2g(F:Nat):A7 Ayx:=Af [(2,⟨AeH,Al6 F F⟩)]
theorem Ayy(F:Nat)(fr:Frm)(hn:(A2e F).ntmps=fr.n)(n:Nat):Ba Ayx f189 fr [1,0,1,0,0] AeH (Al6 F n) :=
 Bc (A2g F) (Af []) Aq9 rfl (A2f F) hn (m:=fun n=>Al6 F n) (fun _ _=>rfl) (fun n x K=>by kernel_rfl) (An (by kernel_rfl)) n
theorem Bb0(F:Nat):CSound prog 189 (Avz F) :=
 Aq (fn:=f189) (A2g F) (Af []) rfl func189 (by kernel_rfl) (A2f F) (fun fr hn=>(A3 (l:=[((.loop (sub (Ap f189) [1,0,1,0,0])),⟨AeH,Al6 F F⟩)]) (by kernel_rfl) (Aj (Ayy F fr hn F) Av))) (fun x=>by kernel_rfl)
def Ayz:Sig:=⟨[.ro,.ro],[(0,.d (.arr 4 Ag)),(1,.d (.arr 4 Ag))],true,none,[(.arr 4 Ag),(.arr 4 Ag)]⟩
def AvA(F:Nat):Contract:=Aw Ayz fun x=>Z6 F x.1 x.2.1
def A2h(F:Nat):Cx:=Ar [(187,Avv F),(188,Avw F),(173,Aq6 F),(170,Aq7 F),(189,Avz F)] [] (0,44)
theorem A2i(F:Nat):Ai (A2h F):=Ac (Aa (BaW F) (Aa (BaX F) (Aa (A8p F) (Aa (A8q F) (Aa (Bb0 F) Ad)))))
def AeI:Ae:=[(2,.box 2 (.arr 4 Ag)),(4,.box 4 (.arr 4 Ag)),(5,.box 5 (.arr 4 Ag)),(6,.d Ab),(7,.box 7 (.arr 4 Ag))]
def Ahi:Ae:=[(2,.box 2 (.arr 4 Ag)),(4,.box 4 (.arr 4 Ag)),(5,.box 5 (.arr 4 Ag))]
def Aqa:Df:=[(2,Ahi)]
def Al7(F n:Nat):Ay AeI:=fun x K=>Kl F (fun y2 y4 y5=>K (.exit 0) (enc Ahi (y2,y4,y5,()))) n x.1 x.2.1 x.2.2.1 x.2.2.2.1 x.2.2.2.2.1
def A2j(F:Nat):A7 Ayz:=Af [(5,⟨AeI,Al7 F F⟩)]
theorem AyA(F:Nat)(fr:Frm)(hn:(A2h F).ntmps=fr.n)(n:Nat):Ba Ayz f168 fr [1,1,1,1,0,0,0] AeI (Al7 F n) :=
 Bc (A2j F) (Af []) Aqa rfl (A2i F) hn (m:=fun n=>Al7 F n) (fun _ _=>rfl) (fun n x K=>by kernel_rfl) (An (by kernel_rfl)) n
theorem Bb1(F:Nat):CSound prog 168 (AvA F) :=
 Aq (fn:=f168) (A2j F) (Af []) rfl func168 (by kernel_rfl) (A2i F) (fun fr hn=>(A3 (l:=[((.loop (sub (Ap f168) [1,1,1,1,0,0,0])),⟨AeI,Al7 F F⟩)]) (by kernel_rfl) (Aj (AyA F fr hn F) Av))) (fun x=>by kernel_rfl)
def AyB:Sig:=⟨[.ro,.ro],[(0,.d (.arr 4 Ag)),(1,.d (.arr 4 Ag))],true,none,[(.arr 4 Ag),Ag]⟩
def AvB(F:Nat):Contract:=Aw AyB fun x=>Aka F x.1 x.2.1
def A2k(F:Nat):Cx:=Ar [(161,AgJ F)] [] (0,26)
theorem A2l(F:Nat):Ai (A2k F):=Ac (Gj (A3Z F) Ad)
def AeJ:Ae:=[(2,.box 2 (.arr 4 Ag)),(3,.box 3 (.arr 4 Ag)),(4,.box 4 (.arr 4 Ag)),(5,.d Ag),(7,.d Ab)]
def Ahj:Ae:=[(4,.box 4 (.arr 4 Ag)),(5,.d Ag)]
def Aqb:Df:=[(2,Ahj)]
def Al8(F n:Nat):Ay AeJ:=fun x K=>Vv F (fun y4 y5=>K (.exit 0) (enc Ahj (y4,y5,()))) n x.1 x.2.1 x.2.2.1 x.2.2.2.1 x.2.2.2.2.1
def A2m(F:Nat):A7 AyB:=Af [(2,⟨AeJ,Al8 F F⟩)]
theorem AyC(F:Nat)(fr:Frm)(hn:(A2k F).ntmps=fr.n)(n:Nat):Ba AyB f169 fr [1,0,1,0,0] AeJ (Al8 F n) :=
 Bc (A2m F) (Af []) Aqb rfl (A2l F) hn (m:=fun n=>Al8 F n) (fun _ _=>rfl) (fun n x K=>by kernel_rfl) (An (by kernel_rfl)) n
theorem Bb2(F:Nat):CSound prog 169 (AvB F) :=
 Aq (fn:=f169) (A2m F) (Af []) rfl func169 (by kernel_rfl) (A2l F) (fun fr hn=>(A3 (l:=[((.loop (sub (Ap f169) [1,0,1,0,0])),⟨AeJ,Al8 F F⟩)]) (by kernel_rfl) (Aj (AyC F fr hn F) Av))) (fun x=>by kernel_rfl)
def A6j:Sig:=⟨[.ro,.ro],[(0,.d .bool),(1,.d (.arr 4 Ag))],true,none,[tyV]⟩
def Aqc(F:Nat):Contract:=Aw A6j fun x=>Nc F x.1 x.2.1
def A6k(F:Nat):Cx:=Ar [(135,Ad7 F)] [] (0,9)
theorem A6l(F:Nat):Ai (A6k F):=Ac (Aa (A25 F) Ad)
theorem A8r(F:Nat):CSound prog 171 (Aqc F) :=
 Aq (fn:=f171) (Af []) (Af []) rfl func171 (by kernel_rfl) (A6l F) (fun fr hn=>(An (by kernel_rfl))) (fun x=>by kernel_rfl)
def AtC:Sig:=⟨[.ro,.ro],[(0,.d tyV),(1,.d tyV)],true,none,[tyV,tyV,.bool]⟩
def AvC(F:Nat):Contract:=Aw AtC fun x=>So F x.1 x.2.1
def AyD(F:Nat):Cx:=Ar [(135,Ad7 F),(82,Aq0 F),(168,AvA F),(169,AvB F),(170,Aq7 F),(171,Aqc F)] [] (0,52)
theorem AyE(F:Nat):Ai (AyD F):=Ac (Aa (A25 F) (Aa (s82 F) (Aa (Bb1 F) (Aa (Bb2 F) (Aa (A8q F) (Aa (A8r F) Ad))))))
def AeK:Ae:=[(2,.box 2 tyV),(3,.box 3 tyV),(4,.box 4 tyV),(5,.box 5 tyV),(7,.box 7 (.arr 4 Ag)),(8,.box 8 (.arr 4 Ag)),(32,.d .bool)]
def Ahk:Ae:=[(2,.box 2 tyV),(3,.box 3 tyV),(4,.box 4 tyV),(5,.box 5 tyV),(7,.box 7 (.arr 4 Ag)),(8,.box 8 (.arr 4 Ag))]
def Aqd:Df:=[(0,Ahk)]
def Aqe(F:Nat):Ay AeK:=fun x K=>Np F (fun y2 y3 y4 y5 y7 y8=>K .normal (enc Ahk (y2,y3,y4,y5,y7,y8,()))) x.1 x.2.1 x.2.2.1 x.2.2.2.1 x.2.2.2.2.1 x.2.2.2.2.2.1 x.2.2.2.2.2.2.1
def AeL:Ae:=[(2,.box 2 tyV),(3,.box 3 tyV),(4,.box 4 tyV),(5,.box 5 tyV),(7,.box 7 (.arr 4 Ag)),(8,.box 8 (.arr 4 Ag))]
def Ab9:Ae:=[(4,.box 4 tyV),(5,.box 5 tyV),(6,.d .bool)]
def Aqf:Df:=[(1,Ab9)]
def Aqg(F:Nat):Ay AeL:=fun x K=>Nq F (fun y4 y5 y6=>K .ret (enc Ab9 (y4,y5,y6,()))) x.1 x.2.1 x.2.2.1 x.2.2.2.1 x.2.2.2.2.1 x.2.2.2.2.2.1
def AyF(F:Nat):A7 AtC:=Af [(6,⟨AeK,Aqe F⟩),(8,⟨AeL,Aqg F⟩)]
theorem AyG(F:Nat)(fr:Frm)(hn:(AyD F).ntmps=fr.n):Fb AtC f136 fr [1,1,1,1,0,1] AeK (Aqe F) :=
 Fc (Af []) (AyF F) Aqd rfl (AyE F) hn (fun x K=>by kernel_rfl) (An (by kernel_rfl))
theorem AyH(F:Nat)(fr:Frm)(hn:(AyD F).ntmps=fr.n):Fb AtC f136 fr [1,1,1,1,1] AeL (Aqg F) :=
 Fc (Af []) (AyF F) Aqf rfl (AyE F) hn (fun x K=>by kernel_rfl) (An (by kernel_rfl))
theorem Bb3(F:Nat):CSound prog 136 (AvC F) :=
 Aq (fn:=f136) (Af []) (AyF F) rfl func136 (by kernel_rfl) (AyE F) (fun fr hn=>(A3 (l:=[((sub (Ap f136) [1,1,1,1,0,1]),⟨AeK,Aqe F⟩),((sub (Ap f136) [1,1,1,1,1]),⟨AeL,Aqg F⟩)]) (by kernel_rfl) (Aj (AyG F fr hn) (Aj (AyH F fr hn) Av)))) (fun x=>by kernel_rfl)
def A6m:Sig:=⟨[.ro,.ro],[(0,.d tyV),(1,.d tyV)],true,none,[tyV]⟩
def A2n(F:Nat):Contract:=Aw A6m fun x=>On F x.1 x.2.1
def A8s(F:Nat):Cx:=Ar [(82,Aq0 F),(136,AvC F)] [] (0,23)
theorem A8t(F:Nat):Ai (A8s F):=Ac (Aa (s82 F) (Aa (Bb3 F) Ad))
def Al9:Ae:=[(2,.box 2 tyV),(3,.box 3 tyV),(4,.box 4 tyV)]
def Ala:Ae:=[(2,.box 2 tyV),(4,.box 4 tyV)]
def AtD:Df:=[(2,Ala)]
def AtE(F n:Nat):Ay Al9:=fun x K=>Es F (fun y2 y4=>K (.exit 0) (enc Ala (y2,y4,()))) n x.1 x.2.1 x.2.2.1
def A8u(F:Nat):A7 A6m:=Af [(2,⟨Al9,AtE F F⟩)]
theorem A2o(F:Nat)(fr:Frm)(hn:(A8s F).ntmps=fr.n)(n:Nat):Ba A6m f84 fr [1,1,0,0,0] Al9 (AtE F n) :=
 Bc (A8u F) (Af []) AtD rfl (A8t F) hn (m:=fun n=>AtE F n) (fun _ _=>rfl) (fun n x K=>by kernel_rfl) (An (by kernel_rfl)) n
theorem s84(F:Nat):CSound prog 84 (A2n F) :=
 Aq (fn:=f84) (A8u F) (Af []) rfl func84 (by kernel_rfl) (A8t F) (fun fr hn=>(A3 (l:=[((.loop (sub (Ap f84) [1,1,0,0,0])),⟨Al9,AtE F F⟩)]) (by kernel_rfl) (Aj (A2o F fr hn F) Av))) (fun x=>by kernel_rfl)
def Bb4:Sig:=⟨[.ro],[(0,.d Ab)],true,none,[tyV]⟩
def AyI(F:Nat):Contract:=Aw Bb4 fun x=>AaU F x.1
def Bb5(F:Nat):Cx:=Ar [] [] (0,14)
theorem Bb6(F:Nat):Ai (Bb5 F):=Ac Ad
theorem s85(F:Nat):CSound prog 85 (AyI F) :=
 Aq (fn:=f85) (Af []) (Af []) rfl func85 (by kernel_rfl) (Bb6 F) (fun fr hn=>(An (by kernel_rfl))) (fun x=>by kernel_rfl)
def Bb7:Sig:=⟨[.ro],[(0,.d Bv)],true,none,[.bool]⟩
def AtF(F:Nat):Contract:=Aw Bb7 fun x=>I8 F x.1
def Bb8(F:Nat):Cx:=Ar [(81,ApZ F),(82,Aq0 F),(83,A26 F),(84,A2n F),(85,AyI F)] [] (0,36)
theorem Bb9(F:Nat):Ai (Bb8 F):=Ac (Aa (s81 F) (Aa (s82 F) (Aa (s83 F) (Aa (s84 F) (Aa (s85 F) Ad)))))
theorem s40(F:Nat):CSound prog 40 (AtF F) :=
 Aq (fn:=f40) (Af []) (Af []) rfl func40 (by kernel_rfl) (Bb9 F) (fun fr hn=>(An (by kernel_rfl))) (fun x=>by kernel_rfl)
def A6n:Sig:=⟨[.ro],[(0,.d Ab)],true,none,[.bool]⟩
def AvD(F:Nat):Contract:=Aw A6n fun x=>Lc F x.1
def A6o(F:Nat):Cx:=Ar [] [] (0,6)
theorem A6p(F:Nat):Ai (A6o F):=Ac Ad
theorem Bba(F:Nat):CSound prog 137 (AvD F) :=
 Aq (fn:=f137) (Af []) (Af []) rfl func137 (by kernel_rfl) (A6p F) (fun fr hn=>(An (by kernel_rfl))) (fun x=>by kernel_rfl)
def Bbb:Sig:=⟨[.ro,.ro],[(0,.d Ab),(1,.d Ab)],true,none,[Ab]⟩
def A2p(F:Nat):Contract:=Aw Bbb fun x=>Jt F x.1 x.2.1
def Bbc(F:Nat):Cx:=Ar [(137,AvD F)] [] (0,20)
theorem Bbd(F:Nat):Ai (Bbc F):=Ac (Aa (Bba F) Ad)
theorem s87(F:Nat):CSound prog 87 (A2p F) :=
 Aq (fn:=f87) (Af []) (Af []) rfl func87 (by kernel_rfl) (Bbd F) (fun fr hn=>(An (by kernel_rfl))) (fun x=>by kernel_rfl)
def A6q:Sig:=⟨[.ro],[(0,.d Ab)],true,none,[Bv]⟩
def AvE(F:Nat):Contract:=Aw A6q fun x=>Akb F x.1
def A6r(F:Nat):Cx:=Ar [(85,AyI F)] [] (0,7)
theorem A6s(F:Nat):Ai (A6r F):=Ac (Aa (s85 F) Ad)
theorem Bbe(F:Nat):CSound prog 172 (AvE F) :=
 Aq (fn:=f172) (Af []) (Af []) rfl func172 (by kernel_rfl) (A6s F) (fun fr hn=>(An (by kernel_rfl))) (fun x=>by kernel_rfl)
def A6t:Sig:=⟨[.ro],[(0,.d Bv)],true,none,[Bv]⟩
def AvF(F:Nat):Contract:=Aw A6t fun x=>Sp F x.1
def A6u(F:Nat):Cx:=Ar [(40,AtF F),(172,AvE F)] [] (0,8)
theorem A6v(F:Nat):Ai (A6u F):=Ac (Aa (s40 F) (Aa (Bbe F) Ad))
theorem Bbf(F:Nat):CSound prog 138 (AvF F) :=
 Aq (fn:=f138) (Af []) (Af []) rfl func138 (by kernel_rfl) (A6v F) (fun fr hn=>(An (by kernel_rfl))) (fun x=>by kernel_rfl)
def AtG:Sig:=⟨[.ro,.ro],[(0,.d (.arr 4 Ag)),(1,.d (.arr 4 Ag))],true,none,[(.arr 4 Ag),.bool]⟩
def AvG(F:Nat):Contract:=Aw AtG fun x=>Z7 F x.1 x.2.1
def AyJ(F:Nat):Cx:={ types:=tys,call:=Qq [(160,ApC F),(161,AgJ F)],own:=[],ntmps:=(0,74),cuts:=[65,66,69] }
theorem AyK(F:Nat):Ai (AyJ F):=Ac (Aa (A83 F) (Gj (A3Z F) Ad))
def AeN:Ae:=[(3,.box 3 (.arr 4 Ag)),(4,.box 4 (.arr 4 Ag)),(6,.box 6 (.arr 8 Ag)),(7,.d Ab),(8,.d Ag),(9,.d Ag),(16,.d (.arr 4 Ag)),(17,.d Ab),(21,.d (.arr 4 Ag)),(22,.d Ab)]
def Ahl:Ae:=[(3,.box 3 (.arr 4 Ag)),(4,.box 4 (.arr 4 Ag)),(6,.box 6 (.arr 8 Ag)),(7,.d Ab),(9,.d Ag),(16,.d (.arr 4 Ag)),(17,.d Ab)]
def Aqh:Df:=[(4,Ahl)]
def Alb(F n:Nat):Ay AeN:=fun x K=>Km F (fun y3 y4 y6 y7 y9 y16 y17=>K (.exit 2) (enc Ahl (y3,y4,y6,y7,y9,y16,y17,()))) n x.1 x.2.1 x.2.2.1 x.2.2.2.1 x.2.2.2.2.1 x.2.2.2.2.2.1 x.2.2.2.2.2.2.1 x.2.2.2.2.2.2.2.1 x.2.2.2.2.2.2.2.2.1 x.2.2.2.2.2.2.2.2.2.1
def AeO:Ae:=[(3,.box 3 (.arr 4 Ag)),(4,.box 4 (.arr 4 Ag)),(6,.box 6 (.arr 8 Ag)),(16,.d (.arr 4 Ag)),(17,.d Ab)]
def Ahm:Ae:=[(4,.box 4 (.arr 4 Ag)),(6,.box 6 (.arr 8 Ag))]
def Aqi:Df:=[(2,Ahm)]
def Alc(F n:Nat):Ay AeO:=fun x K=>Nd F (fun y4 y6=>K (.exit 0) (enc Ahm (y4,y6,()))) n x.1 x.2.1 x.2.2.1 x.2.2.2.1 x.2.2.2.2.1
def AyL(F:Nat):A7 AtG:=Af [(7,⟨AeN,Alb F F⟩),(3,⟨AeO,Alc F F⟩)]
theorem AyN(F:Nat)(fr:Frm)(hn:(AyJ F).ntmps=fr.n)(n:Nat):Ba AtG f191 fr [1,1,0,1,0,0,1,1,0,0,1,1,0,1,0,0] AeN (Alb F n) :=
 Bc (AyL F) (Af []) Aqh rfl (AyK F) hn (m:=fun n=>Alb F n) (fun _ _=>rfl) (fun n x K=>by kernel_rfl) (An (by kernel_rfl)) n
theorem AyO(F:Nat)(fr:Frm)(hn:(AyJ F).ntmps=fr.n)(n:Nat):Ba AtG f191 fr [1,1,0,1,0,0] AeO (Alc F n) :=
 Bc (AyL F) (Af []) Aqi rfl (AyK F) hn (m:=fun n=>Alc F n) (fun _ _=>rfl) (fun n x K=>by kernel_rfl) (A3 (l:=[((.loop (sub (Ap f191) [1,1,0,1,0,0,1,1,0,0,1,1,0,1,0,0])),⟨AeN,Alb F F⟩)]) (by kernel_rfl) (Aj (AyN F fr hn F) Av)) n
theorem Bbg(F:Nat):CSound prog 191 (AvG F) :=
 Aq (fn:=f191) (AyL F) (Af []) rfl func191 (by kernel_rfl) (AyK F) (fun fr hn=>(A3 (l:=[((.loop (sub (Ap f191) [1,1,0,1,0,0])),⟨AeO,Alc F F⟩)]) (by kernel_rfl) (Aj (AyO F fr hn F) Av))) (fun x=>by kernel_rfl)
def A6w:Sig:=⟨[.ro,.ro],[(0,.d tyV),(1,.d tyV)],true,none,[tyV,.bool]⟩
def AvH(F:Nat):Contract:=Aw A6w fun x=>Z8 F x.1 x.2.1
def A6x(F:Nat):Cx:=Ar [(135,Ad7 F),(191,AvG F),(171,Aqc F)] [] (0,30)
theorem A6y(F:Nat):Ai (A6x F):=Ac (Aa (A25 F) (Aa (Bbg F) (Aa (A8r F) Ad)))
theorem Bbh(F:Nat):CSound prog 174 (AvH F) :=
 Aq (fn:=f174) (Af []) (Af []) rfl func174 (by kernel_rfl) (A6y F) (fun fr hn=>(An (by kernel_rfl))) (fun x=>by kernel_rfl)
def A6z:Sig:=⟨[.ro,.ro],[(0,.d tyV),(1,.d tyV)],true,none,[tyV]⟩
def AvI(F:Nat):Contract:=Aw A6z fun x=>Oo F x.1 x.2.1
def A6A(F:Nat):Cx:=Ar [(174,AvH F)] [] (0,14)
theorem A6B(F:Nat):Ai (A6A F):=Ac (Aa (Bbh F) Ad)
theorem Bbi(F:Nat):CSound prog 140 (AvI F) :=
 Aq (fn:=f140) (Af []) (Af []) rfl func140 (by kernel_rfl) (A6B F) (fun fr hn=>(An (by kernel_rfl))) (fun x=>by kernel_rfl)
def AtH:Sig:=⟨[.ro,.ro],[(0,.d tyV),(1,.d tyV)],true,none,[Ab]⟩
def AvJ(F:Nat):Contract:=Aw AtH fun x=>P5 F x.1 x.2.1
def AyP(F:Nat):Cx:=Ar [(135,Ad7 F),(173,Aq6 F)] [] (0,32)
theorem AyQ(F:Nat):Ai (AyP F):=Ac (Aa (A25 F) (Aa (A8p F) Ad))
def AeP:Ae:=[(2,.box 2 tyV),(3,.box 3 tyV),(9,.d .bool)]
def Ahn:Ae:=[(2,.box 2 tyV),(3,.box 3 tyV)]
def Aba:Ae:=[(4,.d Ab)]
def Aqj:Df:=[(0,Ahn),(1,Aba)]
def Aqk(F:Nat):Ay AeP:=fun x K=>Ld F (fun y2 y3=>K .normal (enc Ahn (y2,y3,()))) (fun y4=>K .ret (enc Aba (y4,()))) x.1 x.2.1 x.2.2.1
def AeQ:Ae:=[(2,.box 2 tyV),(3,.box 3 tyV)]
def Abb:Ae:=[(4,.d Ab)]
def Aql:Df:=[(1,Abb)]
def Aqm(F:Nat):Ay AeQ:=fun x K=>Lf F (fun y4=>K .ret (enc Abb (y4,()))) x.1 x.2.1
def AyS(F:Nat):A7 AtH:=Af [(3,⟨AeP,Aqk F⟩),(8,⟨AeQ,Aqm F⟩)]
theorem AyT(F:Nat)(fr:Frm)(hn:(AyP F).ntmps=fr.n):Fb AtH f139 fr [1,1,0,0,1] AeP (Aqk F) :=
 Fc (Af []) (AyS F) Aqj rfl (AyQ F) hn (fun x K=>by kernel_rfl) (An (by kernel_rfl))
theorem AyU(F:Nat)(fr:Frm)(hn:(AyP F).ntmps=fr.n):Fb AtH f139 fr [1,1,1] AeQ (Aqm F) :=
 Fc (Af []) (AyS F) Aql rfl (AyQ F) hn (fun x K=>by kernel_rfl) (An (by kernel_rfl))
theorem Bbj(F:Nat):CSound prog 139 (AvJ F) :=
 Aq (fn:=f139) (Af []) (AyS F) rfl func139 (by kernel_rfl) (AyQ F) (fun fr hn=>(A3 (l:=[((sub (Ap f139) [1,1,0,0,1]),⟨AeP,Aqk F⟩),((sub (Ap f139) [1,1,1]),⟨AeQ,Aqm F⟩)]) (by kernel_rfl) (Aj (AyT F fr hn) (Aj (AyU F fr hn) Av)))) (fun x=>by kernel_rfl)
def Bbk:Sig:=⟨[.ro,.ro],[(0,.d Bv),(1,.d Bv)],true,none,[Ab]⟩
def A2q(F:Nat):Contract:=Aw Bbk fun x=>Oq F x.1 x.2.1
def Bbl(F:Nat):Cx:=Ar [(138,AvF F),(140,AvI F),(139,AvJ F)] [] (0,20)
theorem Bbm(F:Nat):Ai (Bbl F):=Ac (Aa (Bbf F) (Aa (Bbi F) (Aa (Bbj F) Ad)))
theorem s88(F:Nat):CSound prog 88 (A2q F) :=
 Aq (fn:=f88) (Af []) (Af []) rfl func88 (by kernel_rfl) (Bbm F) (fun fr hn=>(An (by kernel_rfl))) (fun x=>by kernel_rfl)
def Bbn:Sig:=⟨[.ro,.ro],[(0,.d Bq),(1,.d Bq)],true,none,[Ab]⟩
def A2r(F:Nat):Contract:=Aw Bbn fun x=>Kd F x.1 x.2.1
def Bbo(F:Nat):Cx:=Ar [(87,A2p F),(88,A2q F),(86,Ayu F)] [] (0,17)
theorem Bbp(F:Nat):Ai (Bbo F):=Ac (Aa (s87 F) (Aa (s88 F) (Aa (s86 F) Ad)))
theorem s41(F:Nat):CSound prog 41 (A2r F) :=
 Aq (fn:=f41) (Af []) (Af []) rfl func41 (by kernel_rfl) (Bbp F) (fun fr hn=>(An (by kernel_rfl))) (fun x=>by kernel_rfl)
def A0b:Sig:=⟨[.ro],[(0,.d (.slice Bq))],true,none,[Ab]⟩
def AtI(F:Nat):Contract:=Aw A0b fun x=>Gs F x.1
def A43(F:Nat):Cx:=Ar [(39,A23 F),(40,AtF F),(41,A2r F)] [] (0,84)
theorem A44(F:Nat):Ai (A43 F):=Ac (Aa (s39 F) (Aa (s40 F) (Aa (s41 F) Ad)))
def AeS:Ae:=[(0,.d (.slice Bq)),(3,.box 3 (.arr 4096 .bool)),(5,.box 5 Bq),(16,.d (.slice Bq)),(17,.d Ab),(18,.d Ab),(48,.d Cz),(49,.d Ab),(50,.d Ab)]
def Aho:Ae:=[(0,.d (.slice Bq)),(3,.box 3 (.arr 4096 .bool)),(16,.d (.slice Bq)),(17,.d Ab),(18,.d Ab)]
def Abc:Ae:=[(2,.d Ab)]
def Aqn:Df:=[(4,Aho),(1,Abc)]
def Ald(F n:Nat):Ay AeS:=fun x K=>Dj F (fun y0 y3 y16 y17 y18=>K (.exit 2) (enc Aho (y0,y3,y16,y17,y18,()))) (fun y2=>K .ret (enc Abc (y2,()))) n x.1 x.2.1 x.2.2.1 x.2.2.2.1 x.2.2.2.2.1 x.2.2.2.2.2.1 x.2.2.2.2.2.2.1 x.2.2.2.2.2.2.2.1 x.2.2.2.2.2.2.2.2.1
def Ale:Ae:=[(0,.d (.slice Bq)),(3,.box 3 (.arr 4096 .bool)),(5,.box 5 Bq),(16,.d (.slice Bq)),(17,.d Ab),(18,.d Ab)]
def Alf:Ae:=[(0,.d (.slice Bq)),(3,.box 3 (.arr 4096 .bool)),(16,.d (.slice Bq)),(17,.d Ab),(18,.d Ab)]
def Ad9:Ae:=[(2,.d Ab)]
def AtJ:Df:=[(0,Alf),(1,Ad9)]
def AyV(F:Nat):Ay Ale:=fun x K=>Hb F (fun y0 y3 y16 y17 y18=>K .normal (enc Alf (y0,y3,y16,y17,y18,()))) (fun y2=>K .ret (enc Ad9 (y2,()))) x.1 x.2.1 x.2.2.1 x.2.2.2.1 x.2.2.2.2.1 x.2.2.2.2.2.1
def Alg:Ae:=[(0,.d (.slice Bq)),(3,.box 3 (.arr 4096 .bool)),(16,.d (.slice Bq)),(17,.d Ab),(18,.d Ab)]
def Alh:Ae:=[]
def Ada:Ae:=[(2,.d Ab)]
def AtK:Df:=[(2,Alh),(1,Ada)]
def AtL(F n:Nat):Ay Alg:=fun x K=>Cg F (K (.exit 0) (enc Alh (()))) (fun y2=>K .ret (enc Ada (y2,()))) n x.1 x.2.1 x.2.2.1 x.2.2.2.1 x.2.2.2.2.1
def A45(F:Nat):A7 A0b:=Af [(10,⟨AeS,Ald F F⟩),(5,⟨Alg,AtL F F⟩)]
def A46(F:Nat):A7 A0b:=Af [(9,⟨Ale,AyV F⟩)]
theorem AyW(F:Nat)(fr:Frm)(hn:(A43 F).ntmps=fr.n)(n:Nat):Ba A0b f13 fr [1,1,1,0,1,0,0,1,1,0,0,1,1,1,0,0] AeS (Ald F n) :=
 Bc (A45 F) (A46 F) Aqn rfl (A44 F) hn (m:=fun n=>Ald F n) (fun _ _=>rfl) (fun n x K=>by kernel_rfl) (An (by kernel_rfl)) n
theorem A2s(F:Nat)(fr:Frm)(hn:(A43 F).ntmps=fr.n):Fb A0b f13 fr [1,1,1,0,1,0,0,1,1,0,0,1,1] Ale (AyV F) :=
 Fc (A45 F) (A46 F) AtJ rfl (A44 F) hn (fun x K=>by kernel_rfl) (A3 (l:=[((.loop (sub (Ap f13) [1,1,1,0,1,0,0,1,1,0,0,1,1,1,0,0])),⟨AeS,Ald F F⟩)]) (by kernel_rfl) (Aj (AyW F fr hn F) Av))
theorem A2t(F:Nat)(fr:Frm)(hn:(A43 F).ntmps=fr.n)(n:Nat):Ba A0b f13 fr [1,1,1,0,1,0,0] Alg (AtL F n) :=
 Bc (A45 F) (A46 F) AtK rfl (A44 F) hn (m:=fun n=>AtL F n) (fun _ _=>rfl) (fun n x K=>by kernel_rfl) (A3 (l:=[((sub (Ap f13) [1,1,1,0,1,0,0,1,1,0,0,1,1]),⟨Ale,AyV F⟩)]) (by kernel_rfl) (Aj (A2s F fr hn) Av)) n
theorem s13(F:Nat):CSound prog 13 (AtI F) :=
 Aq (fn:=f13) (A45 F) (A46 F) rfl func13 (by kernel_rfl) (A44 F) (fun fr hn=>(A3 (l:=[((.loop (sub (Ap f13) [1,1,1,0,1,0,0])),⟨Alg,AtL F F⟩)]) (by kernel_rfl) (Aj (A2t F fr hn F) Av))) (fun x=>by kernel_rfl)
def A6C:Sig:=U8 Ab false (some (0,2)) [Cz]
def AvK(F:Nat):Contract:=Aw A6C fun x=>It F x.1
def A2u(F:Nat):Cx:={ types:=tys,call:=Qq [],own:=[2,5],ntmps:=(0,8),nils:=[3] }
theorem A6D(F:Nat):Ai (A2u F):=Ac Ad
theorem Bbq(F:Nat):CSound prog 124 (AvK F) :=
 Y1 (fn:=f124) (code:=(Ap f124)) (cx:=A2u F) (hs:=Af []) (js:=Af []) func124 (by kernel_rfl) (by kernel_rfl) (En _ rfl) (A6D F) mix (by kernel_rfl) (by kernel_rfl) (fun fr hn=>(An (by kernel_rfl))) (fun a l=>by kernel_rfl) (by kernel_rfl) (by kernel_rfl)
def A6E:Sig:=⟨[.ro,.ro],[(0,.d Ab),(1,.d Ab)],true,none,[Ag]⟩
def AvL(F:Nat):Contract:=Aw A6E fun x=>Tq F x.1 x.2.1
def A6F(F:Nat):Cx:=Ar [] [] (0,10)
theorem A6G(F:Nat):Ai (A6F F):=Ac Ad
theorem Bbr(F:Nat):CSound prog 165 (AvL F) :=
 Aq (fn:=f165) (Af []) (Af []) rfl func165 (by kernel_rfl) (A6G F) (fun fr hn=>(An (by kernel_rfl))) (fun x=>by kernel_rfl)
def AyX:Sig:=⟨[.wr 2],[(0,.own 0 Ab 2)],false,none,[Cz]⟩
def AvN(F:Nat):Contract:=Aw AyX fun x=>G4 F x.1
def A2v(F:Nat):Cx:=Ar [(165,AvL F)] [] (1,24)
theorem A2w(F:Nat):Ai (A2v F):=Ac (Aa (Bbr F) Ad)
def AeT:Ae:=[(0,.own 0 Ab 2),(2,.d Ab)]
def Ahp:Ae:=[(0,.own 0 Ab 2)]
def Aqo:Df:=[(2,Ahp)]
def Ali(F n:Nat):Ay AeT:=fun x K=>Cd F (fun y0=>K (.exit 0) (enc Ahp (y0,()))) n x.1 x.2.1
def A2x(F:Nat):A7 AyX:=Af [(1,⟨AeT,Ali F F⟩)]
theorem AyY(F:Nat)(fr:Frm)(hn:(A2v F).ntmps=fr.n)(n:Nat):Ba AyX f126 fr [1,0,0] AeT (Ali F n) :=
 Bc (A2x F) (Af []) Aqo rfl (A2w F) hn (m:=fun n=>Ali F n) (fun _ _=>rfl) (fun n x K=>by kernel_rfl) (An (by kernel_rfl)) n
theorem Bbs(F:Nat):CSound prog 126 (AvN F) :=
 Aq (fn:=f126) (A2x F) (Af []) rfl func126 (by kernel_rfl) (A2w F) (fun fr hn=>(A3 (l:=[((.loop (sub (Ap f126) [1,0,0])),⟨AeT,Ali F F⟩)]) (by kernel_rfl) (Aj (AyY F fr hn F) Av))) (fun x=>by kernel_rfl)
def A6H:Sig:=⟨[.ro,.ro],[(0,.d Ab),(1,.d Ag)],true,none,[Ab]⟩
def AvO(F:Nat):Contract:=Aw A6H fun x=>Sq F x.1 x.2.1
def A6I(F:Nat):Cx:=Ar [] [] (0,10)
theorem A6J(F:Nat):Ai (A6I F):=Ac Ad
theorem Bbt(F:Nat):CSound prog 180 (AvO F) :=
 Aq (fn:=f180) (Af []) (Af []) rfl func180 (by kernel_rfl) (A6J F) (fun fr hn=>(An (by kernel_rfl))) (fun x=>by kernel_rfl)
def AyZ:Sig:=⟨[.wr 2],[(0,.own 0 Ab 2)],false,none,[Cz]⟩
def AvP(F:Nat):Contract:=Aw AyZ fun x=>Ot F x.1
def A2y(F:Nat):Cx:=Ar [(180,AvO F)] [] (1,23)
theorem A2z(F:Nat):Ai (A2y F):=Ac (Aa (Bbt F) Ad)
def AeU:Ae:=[(0,.own 0 Ab 2),(2,.d Ab)]
def Ahq:Ae:=[(0,.own 0 Ab 2)]
def Aqp:Df:=[(2,Ahq)]
def Alj(F n:Nat):Ay AeU:=fun x K=>Et F (fun y0=>K (.exit 0) (enc Ahq (y0,()))) n x.1 x.2.1
def A2A(F:Nat):A7 AyZ:=Af [(1,⟨AeU,Alj F F⟩)]
theorem Az0(F:Nat)(fr:Frm)(hn:(A2y F).ntmps=fr.n)(n:Nat):Ba AyZ f150 fr [1,0,0] AeU (Alj F n) :=
 Bc (A2A F) (Af []) Aqp rfl (A2z F) hn (m:=fun n=>Alj F n) (fun _ _=>rfl) (fun n x K=>by kernel_rfl) (An (by kernel_rfl)) n
theorem Bbu(F:Nat):CSound prog 150 (AvP F) :=
 Aq (fn:=f150) (A2A F) (Af []) rfl func150 (by kernel_rfl) (A2z F) (fun fr hn=>(A3 (l:=[((.loop (sub (Ap f150) [1,0,0])),⟨AeU,Alj F F⟩)]) (by kernel_rfl) (Aj (Az0 F fr hn F) Av))) (fun x=>by kernel_rfl)
def Alk:Sig:=⟨[.wr 2,.ro,.ro],[(0,.own 0 Ab 2),(1,.d Ab),(2,.fn 126)],false,none,[Cz]⟩
def Aqq(F:Nat):Contract:=Aw Alk fun x=>Ob F x.1 x.2.1
def AvQ(F:Nat):Cx:=Ar [(126,AvN F)] [] (1,13)
theorem AvS(F:Nat):Ai (AvQ F):=Ac (Aa (Bbs F) Ad)
def Aa7:Ae:=[(0,.own 0 Ab 2),(2,.fn 126),(6,.d Ab),(7,.d Ab)]
def Adb:Ae:=[(0,.own 0 Ab 2)]
def Anv:Df:=[(2,Adb)]
def AeV(F n:Nat):Ay Aa7:=fun x K=>Dx F (fun y0=>K (.exit 0) (enc Adb (y0,()))) n x.1 x.2.2.1 x.2.2.2.1
def AvT(F:Nat):A7 Alk:=Af [(1,⟨Aa7,AeV F F⟩)]
def AvU(F:Nat):A7 Alk:=Af []
theorem AtN(F:Nat)(fr:Frm)(hn:(AvQ F).ntmps=fr.n)(n:Nat):Ba Alk f125 fr [1,0,0] Aa7 (AeV F n) :=
 Bc (AvT F) (AvU F) Anv rfl (AvS F) hn (m:=fun n=>AeV F n) (fun _ _=>rfl) (fun n x K=>by kernel_rfl) (An (by kernel_rfl)) n
theorem A6K(F:Nat):CSound prog 125 (Aqq F) :=
 Aq (fn:=f125) (AvT F) (AvU F) rfl func125 (by kernel_rfl) (AvS F) (fun fr hn=>(A3 (l:=[((.loop (sub (Ap f125) [1,0,0])),⟨Aa7,AeV F F⟩)]) (by kernel_rfl) (Aj (AtN F fr hn F) Av))) (fun x=>by kernel_rfl)
def Alm:Sig:=⟨[.wr 2,.ro,.ro],[(0,.own 0 Ab 2),(1,.d Ab),(2,.fn 150)],false,none,[Cz]⟩
def Aqr(F:Nat):Contract:=Aw Alm fun x=>Fw F x.1 x.2.1
def AvV(F:Nat):Cx:=Ar [(150,AvP F)] [] (1,13)
theorem AvW(F:Nat):Ai (AvV F):=Ac (Aa (Bbu F) Ad)
def Aa8:Ae:=[(0,.own 0 Ab 2),(2,.fn 150),(6,.d Ab),(7,.d Ab)]
def Adc:Ae:=[(0,.own 0 Ab 2)]
def Anw:Df:=[(2,Adc)]
def AeW(F n:Nat):Ay Aa8:=fun x K=>Dy F (fun y0=>K (.exit 0) (enc Adc (y0,()))) n x.1 x.2.2.1 x.2.2.2.1
def AvX(F:Nat):A7 Alm:=Af [(1,⟨Aa8,AeW F F⟩)]
def AvY(F:Nat):A7 Alm:=Af []
theorem AtO(F:Nat)(fr:Frm)(hn:(AvV F).ntmps=fr.n)(n:Nat):Ba Alm f125 fr [1,0,0] Aa8 (AeW F n) :=
 Bc (AvX F) (AvY F) Anw rfl (AvW F) hn (m:=fun n=>AeW F n) (fun _ _=>rfl) (fun n x K=>by kernel_rfl) (An (by kernel_rfl)) n
theorem A6L(F:Nat):CSound prog 125 (Aqr F) :=
 Aq (fn:=f125) (AvX F) (AvY F) rfl func125 (by kernel_rfl) (AvW F) (fun fr hn=>(A3 (l:=[((.loop (sub (Ap f125) [1,0,0])),⟨Aa8,AeW F F⟩)]) (by kernel_rfl) (Aj (AtO F fr hn F) Av))) (fun x=>by kernel_rfl)
def A6N:Sig:=⟨[.ro],[(0,.d Ab)],true,none,[Ag]⟩
def AvZ(F:Nat):Contract:=Aw A6N fun x=>Ou F x.1
def A6O(F:Nat):Cx:=Ar [] [] (0,10)
theorem A6P(F:Nat):Ai (A6O F):=Ac Ad
theorem Bbv(F:Nat):CSound prog 127 (AvZ F) :=
 Aq (fn:=f127) (Af []) (Af []) rfl func127 (by kernel_rfl) (A6P F) (fun fr hn=>(An (by kernel_rfl))) (fun x=>by kernel_rfl)
def A6Q:Sig:=⟨[.ro,.ro],[(0,.d Cz),(1,.d Ab)],false,some (0,49),[Az,.bool]⟩
def A2B(F:Nat):Contract:=Aw A6Q fun x=>Ej F x.1 x.2.1
def A8v(F:Nat):Cx:=Ar [(124,AvK F),(125,Aqq F),(127,AvZ F)] [4,17,23] (0,38)
theorem A8w(F:Nat):Ai (A8v F):=Ac (Aa (Bbq F) (Aa (A6K F) (Aa (Bbv F) Ad)))
def Aln:Ae:=[(7,.own 7 Ag 49),(24,.own 24 Ab 2),(25,.d Ab),(26,.d Ab)]
def Alo:Ae:=[(7,.own 7 Ag 49)]
def AtP:Df:=[(2,Alo)]
def AtQ(F n:Nat):Ay Aln:=fun x K=>Db F (fun y7=>K (.exit 0) (enc Alo (y7,()))) n x.1 x.2.1 x.2.2.1 x.2.2.2.1
def A8x(F:Nat):A7 A6Q:=Af [(7,⟨Aln,AtQ F F⟩)]
theorem A2C(F:Nat)(fr:Frm)(hn:(A8v F).ntmps=fr.n)(n:Nat):Ba A6Q f71 fr [1,1,1,1,1,0,1,0,0] Aln (AtQ F n) :=
 Bc (A8x F) (Af []) AtP rfl (A8w F) hn (m:=fun n=>AtQ F n) (fun _ _=>rfl) (fun n x K=>by kernel_rfl) (An (by kernel_rfl)) n
theorem s71(F:Nat):CSound prog 71 (A2B F) :=
 Aq (fn:=f71) (A8x F) (Af []) rfl func71 (by kernel_rfl) (A8w F) (fun fr hn=>(A3 (l:=[((.loop (sub (Ap f71) [1,1,1,1,1,0,1,0,0])),⟨Aln,AtQ F F⟩)]) (by kernel_rfl) (Aj (A2C F fr hn F) Av))) (fun x=>by kernel_rfl)
def A6S:Sig:=⟨[.ro],[(0,.d Ag)],true,none,[Ab]⟩
def Aw0(F:Nat):Contract:=Aw A6S fun x=>Sr F x.1
def A6T(F:Nat):Cx:=Ar [(166,AcQ F)] [] (0,8)
theorem A6U(F:Nat):Ai (A6T F):=Ac (Aa (A18 F) Ad)
theorem Bbw(F:Nat):CSound prog 128 (Aw0 F) :=
 Aq (fn:=f128) (Af []) (Af []) rfl func128 (by kernel_rfl) (A6U F) (fun fr hn=>(An (by kernel_rfl))) (fun x=>by kernel_rfl)
def Az1:Sig:=⟨[.ro],[(0,.d Az)],true,none,[Ab]⟩
def Aqs(F:Nat):Contract:=Aw Az1 fun x=>Ov F x.1
def A2D(F:Nat):Cx:=Ar [(166,AcQ F)] [] (0,18)
theorem A2E(F:Nat):Ai (A2D F):=Ac (Aa (A18 F) Ad)
def AeX:Ae:=[(3,.d Ag),(6,.d Az),(7,.d Ab),(8,.d Ab)]
def Ahr:Ae:=[(3,.d Ag)]
def Aqt:Df:=[(2,Ahr)]
def Alp(F n:Nat):Ay AeX:=fun x K=>Fx F (fun y3=>K (.exit 0) (enc Ahr (y3,()))) n x.1 x.2.1 x.2.2.1 x.2.2.2.1
def A2F(F:Nat):A7 Az1:=Af [(3,⟨AeX,Alp F F⟩)]
theorem Az2(F:Nat)(fr:Frm)(hn:(A2D F).ntmps=fr.n)(n:Nat):Ba Az1 f129 fr [1,1,0,1,0,0] AeX (Alp F n) :=
 Bc (A2F F) (Af []) Aqt rfl (A2E F) hn (m:=fun n=>Alp F n) (fun _ _=>rfl) (fun n x K=>by kernel_rfl) (An (by kernel_rfl)) n
theorem A8y(F:Nat):CSound prog 129 (Aqs F) :=
 Aq (fn:=f129) (A2F F) (Af []) rfl func129 (by kernel_rfl) (A2E F) (fun fr hn=>(A3 (l:=[((.loop (sub (Ap f129) [1,1,0,1,0,0])),⟨AeX,Alp F F⟩)]) (by kernel_rfl) (Aj (Az2 F fr hn F) Av))) (fun x=>by kernel_rfl)
def A6V:Sig:=⟨[.ro,.ro],[(0,.d Ab),(1,.d Ab)],true,none,[Ab]⟩
def Alq(F:Nat):Contract:=Aw A6V fun x=>Ju F x.1 x.2.1
def A6W(F:Nat):Cx:=Ar [] [] (0,24)
theorem A6X(F:Nat):Ai (A6W F):=Ac Ad
theorem A6Y(F:Nat):CSound prog 152 (Alq F) :=
 Aq (fn:=f152) (Af []) (Af []) rfl func152 (by kernel_rfl) (A6X F) (fun fr hn=>(An (by kernel_rfl))) (fun x=>by kernel_rfl)
def AtS:Sig:=⟨[.ro,.ro],[(0,.d Az),(1,.d Ab)],false,some (0,5),[A1,.bool]⟩
def Aw1(F:Nat):Contract:=Aw AtS fun x=>P6 F x.1 x.2.1
def Az3(F:Nat):Cx:=Ar [(152,Alq F),(129,Aqs F)] [4,26] (0,64)
theorem Az4(F:Nat):Ai (Az3 F):=Ac (Aa (A6Y F) (Aa (A8y F) Ad))
def Aa9:Ae:=[(1,.d Ab),(7,.own 7 Fp 5),(8,.d Ab),(10,.d Ag),(11,.d Ab),(27,.d Az),(28,.d Ab),(29,.d Ab)]
def Ade:Ae:=[(1,.d Ab),(7,.own 7 Fp 5),(8,.d Ab),(27,.d Az),(28,.d Ab),(29,.d Ab)]
def Anx:Df:=[(4,Ade)]
def AeY(F n:Nat):Ay Aa9:=fun x K=>Eu F (fun y1 y7 y8 y27 y28 y29=>K (.exit 2) (enc Ade (y1,y7,y8,y27,y28,y29,()))) n x.1 x.2.1 x.2.2.1 x.2.2.2.1 x.2.2.2.2.1 x.2.2.2.2.2.1 x.2.2.2.2.2.2.1 x.2.2.2.2.2.2.2.1
def AeZ:Ae:=[(1,.d Ab),(7,.own 7 Fp 5),(8,.d Ab),(27,.d Az),(28,.d Ab),(29,.d Ab)]
def Ahs:Ae:=[(7,.own 7 Fp 5)]
def Aqu:Df:=[(2,Ahs)]
def Alr(F n:Nat):Ay AeZ:=fun x K=>Fl F (fun y7=>K (.exit 0) (enc Ahs (y7,()))) n x.1 x.2.1 x.2.2.1 x.2.2.2.1 x.2.2.2.2.1 x.2.2.2.2.2.1
def Az5(F:Nat):A7 AtS:=Af [(10,⟨Aa9,AeY F F⟩),(7,⟨AeZ,Alr F F⟩)]
theorem AtT(F:Nat)(fr:Frm)(hn:(Az3 F).ntmps=fr.n)(n:Nat):Ba AtS f130 fr [1,1,1,1,1,0,1,0,0,1,1,0,0,1,1,0,0] Aa9 (AeY F n) :=
 Bc (Az5 F) (Af []) Anx rfl (Az4 F) hn (m:=fun n=>AeY F n) (fun _ _=>rfl) (fun n x K=>by kernel_rfl) (An (by kernel_rfl)) n
theorem Az6(F:Nat)(fr:Frm)(hn:(Az3 F).ntmps=fr.n)(n:Nat):Ba AtS f130 fr [1,1,1,1,1,0,1,0,0] AeZ (Alr F n) :=
 Bc (Az5 F) (Af []) Aqu rfl (Az4 F) hn (m:=fun n=>Alr F n) (fun _ _=>rfl) (fun n x K=>by kernel_rfl) (A3 (l:=[((.loop (sub (Ap f130) [1,1,1,1,1,0,1,0,0,1,1,0,0,1,1,0,0])),⟨Aa9,AeY F F⟩)]) (by kernel_rfl) (Aj (AtT F fr hn F) Av)) n
theorem Bbx(F:Nat):CSound prog 130 (Aw1 F) :=
 Aq (fn:=f130) (Az5 F) (Af []) rfl func130 (by kernel_rfl) (Az4 F) (fun fr hn=>(A3 (l:=[((.loop (sub (Ap f130) [1,1,1,1,1,0,1,0,0])),⟨AeZ,Alr F F⟩)]) (by kernel_rfl) (Aj (Az6 F fr hn F) Av))) (fun x=>by kernel_rfl)
def Bby:Sig:=U8 Fp false (some (0,5)) [A1]
def Az7(F:Nat):Contract:=Aw Bby fun x=>Hc F x.1
def A8z(F:Nat):Cx:={ types:=tys,call:=Qq [],own:=[2,5],ntmps:=(0,8),nils:=[3] }
theorem Bbz(F:Nat):Ai (A8z F):=Ac Ad
theorem s74(F:Nat):CSound prog 74 (Az7 F) :=
 Y1 (fn:=f74) (code:=(Ap f74)) (cx:=A8z F) (hs:=Af []) (js:=Af []) func74 (by kernel_rfl) (by kernel_rfl) (En _ rfl) (Bbz F) mix (by kernel_rfl) (by kernel_rfl) (fun fr hn=>(An (by kernel_rfl))) (fun a l=>by kernel_rfl) (by kernel_rfl) (by kernel_rfl)
def A6Z:Sig:=⟨[.ro,.ro],[(0,.d A1),(1,.d Ag)],false,some (0,5),[A1]⟩
def Az8(F:Nat):Contract:=Aw A6Z fun x=>Lg F x.1 x.2.1
def A8A(F:Nat):Cx:=Ar [(74,Az7 F),(73,Ax4 F)] [4,7,8] (0,24)
theorem A8B(F:Nat):Ai (A8A F):=Ac (Aa (s74 F) (Aa (s73 F) Ad))
def Als:Ae:=[(1,.d Ag),(5,.own 5 Fp 5)]
def Alt:Ae:=[(1,.d Ag),(5,.own 5 Fp 5)]
def AtU:Df:=[(2,Alt)]
def AtV(F n:Nat):Ay Als:=fun x K=>Fy F (fun y1 y5=>K (.exit 0) (enc Alt (y1,y5,()))) n x.1 x.2.1
def A8C(F:Nat):A7 A6Z:=Af [(2,⟨Als,AtV F F⟩)]
theorem A2G(F:Nat)(fr:Frm)(hn:(A8A F).ntmps=fr.n)(n:Nat):Ba A6Z f31 fr [1,1,0,0,0] Als (AtV F n) :=
 Bc (A8C F) (Af []) AtU rfl (A8B F) hn (m:=fun n=>AtV F n) (fun _ _=>rfl) (fun n x K=>by kernel_rfl) (An (by kernel_rfl)) n
theorem s31(F:Nat):CSound prog 31 (Az8 F) :=
 Aq (fn:=f31) (A8C F) (Af []) rfl func31 (by kernel_rfl) (A8B F) (fun fr hn=>(A3 (l:=[((.loop (sub (Ap f31) [1,1,0,0,0])),⟨Als,AtV F F⟩)]) (by kernel_rfl) (Aj (A2G F fr hn F) Av))) (fun x=>by kernel_rfl)
def A47:Sig:=⟨[.ro],[(0,.d Az)],false,some (0,5),[A1,Ab]⟩
def AtW(F:Nat):Contract:=Aw A47 fun x=>Bn F x.1
def A70(F:Nat):Cx:=Ar [(128,Aw0 F),(129,Aqs F),(130,Aw1 F),(31,Az8 F)] [2,42,46] (0,59)
theorem A71(F:Nat):Ai (A70 F):=Ac (Aa (Bbw F) (Aa (A8y F) (Aa (Bbx F) (Aa (s31 F) Ad))))
def Alu:Ae:=[(0,.d Az),(4,.d Ab),(16,.d Az),(17,.d Ab),(18,.d Ab)]
def Alv:Ae:=[(0,.d Az),(4,.d Ab)]
def AtX:Df:=[(2,Alv)]
def AtY(F n:Nat):Ay Alu:=fun x K=>Ff F (fun y0 y4=>K (.exit 0) (enc Alv (y0,y4,()))) n x.1 x.2.1 x.2.2.1 x.2.2.2.1 x.2.2.2.2.1
def Af0:Ae:=[(10,.own 10 Fp 5),(47,.d Az),(48,.d Ab),(49,.d Ab)]
def Aht:Ae:=[(10,.own 10 Fp 5)]
def Aqv:Df:=[(4,Aht)]
def Alw(F n:Nat):Ay Af0:=fun x K=>Ek F (fun y10=>K (.exit 2) (enc Aht (y10,()))) n x.1 x.2.1 x.2.2.1 x.2.2.2.1
def A72(F:Nat):A7 A47:=Af [(5,⟨Alu,AtY F F⟩),(15,⟨Af0,Alw F F⟩)]
theorem A2H(F:Nat)(fr:Frm)(hn:(A70 F).ntmps=fr.n)(n:Nat):Ba A47 f72 fr [1,1,1,0,1,0,0] Alu (AtY F n) :=
 Bc (A72 F) (Af []) AtX rfl (A71 F) hn (m:=fun n=>AtY F n) (fun _ _=>rfl) (fun n x K=>by kernel_rfl) (An (by kernel_rfl)) n
theorem Az9(F:Nat)(fr:Frm)(hn:(A70 F).ntmps=fr.n)(n:Nat):Ba A47 f72 fr [1,1,1,1,1,1,1,1,0,1,0,0] Af0 (Alw F n) :=
 Bc (A72 F) (Af []) Aqv rfl (A71 F) hn (m:=fun n=>Alw F n) (fun _ _=>rfl) (fun n x K=>by kernel_rfl) (An (by kernel_rfl)) n
theorem s72(F:Nat):CSound prog 72 (AtW F) :=
 Aq (fn:=f72) (A72 F) (Af []) rfl func72 (by kernel_rfl) (A71 F) (fun fr hn=>(A3 (l:=[((.loop (sub (Ap f72) [1,1,1,0,1,0,0])),⟨Alu,AtY F F⟩),((.loop (sub (Ap f72) [1,1,1,1,1,1,1,1,0,1,0,0])),⟨Af0,Alw F F⟩)]) (by kernel_rfl) (Aj (A2H F fr hn F) (Aj (Az9 F fr hn F) Av)))) (fun x=>by kernel_rfl)
def A73:Sig:=⟨[.ro],[(0,.d Cz)],false,some (0,5),[A1,Ab]⟩
def Aza(F:Nat):Contract:=Aw A73 fun x=>Ee F x.1
def A74(F:Nat):Cx:={ types:=tys,call:=Qq [(71,A2B F),(72,AtW F)],own:=[2,4,39],ntmps:=(0,44),nils:=[4,27] }
theorem A8D(F:Nat):Ai (A74 F):=Ac (Aa (s71 F) (Aa (s72 F) Ad))
def A2I:Ae:=[(0,.d Cz),(4,.own 4 Fp 5),(10,.d Ab)]
def Af1:Ae:=[(4,.own 4 Fp 5)]
def X5:Ae:=[(2,.own 2 Fp 5),(3,.d Ab)]
def AtZ:Df:=[(2,Af1),(1,X5)]
def A75(F n:Nat):Ay A2I:=fun x K=>B9 F (fun y4=>K (.exit 0) (enc Af1 (y4,()))) (fun y2 y3=>K .ret (enc X5 (y2,y3,()))) n x.1 x.2.1 x.2.2.1
def Af2:Ae:=[(0,.d Cz),(4,.nilS),(10,.d Ab)]
def Alx(F n:Nat):Ay Af2:=fun x K=>Lh F (fun y4=>K (.exit 0) (enc Af1 (y4,()))) (fun y2 y3=>K .ret (enc X5 (y2,y3,()))) n x.1 x.2.2.1
def A8E(F:Nat):A7 A73:=Af [(3,⟨Af2,Alx F F⟩)]
theorem A2J(F:Nat)(fr:Frm)(hn:(A74 F).ntmps=fr.n)(n:Nat):Ba A73 f30 fr [1,1,0,1,0,0] Af2 (Alx F n) :=
 An8 (cx:=A74 F) (hs:=A8E F) (js:=Af []) (outs:=AtZ) (En _ rfl) (A8D F) hn mix (m:=fun n=>A75 F n) (m0:=fun n=>Alx F n) (fun _ _=>rfl) (fun n x K=>by kernel_rfl) (fun n x K=>by kernel_rfl) (An (by kernel_rfl)) n
theorem s30(F:Nat):CSound prog 30 (Aza F) :=
 Aq (fn:=f30) (A8E F) (Af []) rfl func30 (by kernel_rfl) (A8D F) (fun fr hn=>(A3 (l:=[((.loop (sub (Ap f30) [1,1,0,1,0,0])),⟨Af2,Alx F F⟩)]) (by kernel_rfl) (Aj (A2J F fr hn F) Av))) (fun x=>by kernel_rfl)
def Aw2:Sig:=⟨[.ro,.ro],[(0,.d A1),(1,.d tyV)],false,some (0,5),[A1]⟩
def A2K(F:Nat):Contract:=Aw Aw2 fun x=>Hd F x.1 x.2.1
def A0c(F:Nat):Cx:=Ar [(81,ApZ F),(74,Az7 F),(73,Ax4 F)] [4,41,42] (0,80)
theorem A0d(F:Nat):Ai (A0c F):=Ac (Aa (s81 F) (Aa (s74 F) (Aa (s73 F) Ad)))
def Aly:Ae:=[(0,.d A1),(3,.box 3 tyV),(5,.box 5 (.arr 5 Ag)),(16,.d (.arr 4 Ag)),(17,.d Ab)]
def Alz:Ae:=[(0,.d A1),(3,.box 3 tyV),(5,.box 5 (.arr 5 Ag))]
def Au0:Df:=[(2,Alz)]
def Au1(F n:Nat):Ay Aly:=fun x K=>Dq F (fun y0 y3 y5=>K (.exit 0) (enc Alz (y0,y3,y5,()))) n x.1 x.2.1 x.2.2.1 x.2.2.2.1 x.2.2.2.2.1
def Af3:Ae:=[(5,.box 5 (.arr 5 Ag)),(8,.own 8 Fp 5),(9,.d Fp),(47,.d Ab)]
def Ahu:Ae:=[(5,.box 5 (.arr 5 Ag)),(8,.own 8 Fp 5),(9,.d Fp)]
def Aqw:Df:=[(6,Ahu)]
def AlA(F n:Nat):Ay Af3:=fun x K=>Cr F (fun y5 y8 y9=>K (.exit 4) (enc Ahu (y5,y8,y9,()))) n x.1 x.2.1 x.2.2.1 x.2.2.2.1
def Af4:Ae:=[(5,.box 5 (.arr 5 Ag)),(8,.own 8 Fp 5)]
def Abd:Ae:=[(4,.own 4 Fp 5)]
def Aqx:Df:=[(1,Abd)]
def AlB(F n:Nat):Ay Af4:=fun x K=>Dc F (fun y4=>K .ret (enc Abd (y4,()))) n x.1 x.2.1
def Af5:Ae:=[(0,.d A1),(5,.box 5 (.arr 5 Ag))]
def Abe:Ae:=[(4,.own 4 Fp 5)]
def Aqy:Df:=[(1,Abe)]
def Aqz(F:Nat):Ay Af5:=fun x K=>Ef F (fun y4=>K .ret (enc Abe (y4,()))) x.1 x.2.1
def AlC:Ae:=[(0,.d A1),(3,.box 3 tyV)]
def Adf:Ae:=[(4,.own 4 Fp 5)]
def Au2:Df:=[(1,Adf)]
def Azb(F:Nat):Ay AlC:=fun x K=>Ez F (fun y4=>K .ret (enc Adf (y4,()))) x.1 x.2.1
def A0e(F:Nat):A7 Aw2:=Af [(5,⟨Aly,Au1 F F⟩),(15,⟨Af3,AlA F F⟩),(13,⟨Af4,AlB F F⟩)]
def A0f(F:Nat):A7 Aw2:=Af [(12,⟨Af5,Aqz F⟩),(3,⟨AlC,Azb F⟩)]
theorem A2L(F:Nat)(fr:Frm)(hn:(A0c F).ntmps=fr.n)(n:Nat):Ba Aw2 f75 fr [1,1,1,0,1,0,0] Aly (Au1 F n) :=
 Bc (A0e F) (A0f F) Au0 rfl (A0d F) hn (m:=fun n=>Au1 F n) (fun _ _=>rfl) (fun n x K=>by kernel_rfl) (An (by kernel_rfl)) n
theorem Azc(F:Nat)(fr:Frm)(hn:(A0c F).ntmps=fr.n)(n:Nat):Ba Aw2 f75 fr [1,1,1,1,1,1,0,0,0,1,0,1,0,0] Af3 (AlA F n) :=
 Bc (A0e F) (A0f F) Aqw rfl (A0d F) hn (m:=fun n=>AlA F n) (fun _ _=>rfl) (fun n x K=>by kernel_rfl) (An (by kernel_rfl)) n
theorem Azd(F:Nat)(fr:Frm)(hn:(A0c F).ntmps=fr.n)(n:Nat):Ba Aw2 f75 fr [1,1,1,1,1,1,0,0] Af4 (AlB F n) :=
 Bc (A0e F) (A0f F) Aqx rfl (A0d F) hn (m:=fun n=>AlB F n) (fun _ _=>rfl) (fun n x K=>by kernel_rfl) (A3 (l:=[((.loop (sub (Ap f75) [1,1,1,1,1,1,0,0,0,1,0,1,0,0])),⟨Af3,AlA F F⟩)]) (by kernel_rfl) (Aj (Azc F fr hn F) Av)) n
theorem Aze(F:Nat)(fr:Frm)(hn:(A0c F).ntmps=fr.n):Fb Aw2 f75 fr [1,1,1,1,1] Af5 (Aqz F) :=
 Fc (A0e F) (A0f F) Aqy rfl (A0d F) hn (fun x K=>by kernel_rfl) (A3 (l:=[((.loop (sub (Ap f75) [1,1,1,1,1,1,0,0])),⟨Af4,AlB F F⟩)]) (by kernel_rfl) (Aj (Azd F fr hn F) Av))
theorem A2N(F:Nat)(fr:Frm)(hn:(A0c F).ntmps=fr.n):Fb Aw2 f75 fr [1,1] AlC (Azb F) :=
 Fc (A0e F) (A0f F) Au2 rfl (A0d F) hn (fun x K=>by kernel_rfl) (A3 (l:=[((.loop (sub (Ap f75) [1,1,1,0,1,0,0])),⟨Aly,Au1 F F⟩),((sub (Ap f75) [1,1,1,1,1]),⟨Af5,Aqz F⟩)]) (by kernel_rfl) (Aj (A2L F fr hn F) (Aj (Aze F fr hn) Av)))
theorem s75(F:Nat):CSound prog 75 (A2K F) :=
 Aq (fn:=f75) (A0e F) (A0f F) rfl func75 (by kernel_rfl) (A0d F) (fun fr hn=>(A3 (l:=[((sub (Ap f75) [1,1]),⟨AlC,Azb F⟩)]) (by kernel_rfl) (Aj (A2N F fr hn) Av))) (fun x=>by kernel_rfl)
def BbA:Sig:=⟨[.con 5,.ro],[(0,.own 0 Fp 5),(1,.d Bv)],false,some (0,5),[A1]⟩
def A2O(F:Nat):Contract:=Aw BbA fun x=>Hv F x.1 x.2.1
def BbB(F:Nat):Cx:=Ar [(75,A2K F)] [4,11] (0,12)
theorem BbC(F:Nat):Ai (BbB F):=Ac (Aa (s75 F) Ad)
theorem s32(F:Nat):CSound prog 32 (A2O F) :=
 Aq (fn:=f32) (Af []) (Af []) rfl func32 (by kernel_rfl) (BbC F) (fun fr hn=>(An (by kernel_rfl))) (fun x=>by kernel_rfl)
def BbD:Sig:=⟨[.con 5,.ro],[(0,.own 0 Fp 5),(1,.d Az)],false,some (0,5),[A1]⟩
def A2P(F:Nat):Contract:=Aw BbD fun x=>Li F x.1 x.2.1
def BbE(F:Nat):Cx:=Ar [(72,AtW F)] [4] (0,15)
theorem BbF(F:Nat):Ai (BbE F):=Ac (Aa (s72 F) Ad)
theorem s33(F:Nat):CSound prog 33 (A2P F) :=
 Aq (fn:=f33) (Af []) (Af []) rfl func33 (by kernel_rfl) (BbF F) (fun fr hn=>(An (by kernel_rfl))) (fun x=>by kernel_rfl)
end Go.Proofs.YtdhfajmcakneiaaGreat
