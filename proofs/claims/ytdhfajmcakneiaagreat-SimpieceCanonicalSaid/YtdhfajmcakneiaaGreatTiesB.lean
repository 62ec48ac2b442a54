/- That the code computes the models. Written by program. -/
import Derived.Test.YtdhfajmcakneiaaGreatTiesA
set_option linter.unusedVariables false
set_option linter.unusedSimpArgs false
namespace Go.Proofs.YtdhfajmcakneiaaGreat
open Go.Eng Tryz
def A2Q:Sig:=⟨[.ro],[(0,.d (.slice Bq))],false,some (0,5),[A1,Ab]⟩
def Azf(F:Nat):Contract:=Aw A2Q fun x=>Fm F x.1
def A48(F:Nat):Cx:=Ar [(13,AtI F),(30,Aza F),(31,Az8 F),(32,A2O F),(33,A2P F)] [2,7,24,27,85,97,101,103] (0,104)
theorem A49(F:Nat):Ai (A48 F):=Ac (Aa (s13 F) (Aa (s30 F) (Aa (s31 F) (Aa (s32 F) (Aa (s33 F) Ad)))))
def Af6:Ae:=[(0,.d (.slice Bq)),(5,.own 5 Ab 2),(6,.own 6 Ag 49),(7,.own 7 Ag 49),(9,.box 9 Bq),(28,.d (.slice Bq)),(29,.d Ab),(30,.d Ab),(49,.d Cz),(50,.d Ab),(51,.d Ab)]
def Ahv:Ae:=[(0,.d (.slice Bq)),(5,.own 5 Ab 2),(6,.own 6 Ag 49),(7,.own 7 Ag 49),(28,.d (.slice Bq)),(29,.d Ab),(30,.d Ab)]
def AqA:Df:=[(4,Ahv)]
def AlD(F n:Nat):Ay Af6:=fun x K=>Cs F (fun y0 y5 y6 y7 y28 y29 y30=>K (.exit 2) (enc Ahv (y0,y5,y6,y7,y28,y29,y30,()))) n x.1 x.2.1 x.2.2.1 x.2.2.2.1 x.2.2.2.2.1 x.2.2.2.2.2.1 x.2.2.2.2.2.2.1 x.2.2.2.2.2.2.2.1 x.2.2.2.2.2.2.2.2.1 x.2.2.2.2.2.2.2.2.2.1 x.2.2.2.2.2.2.2.2.2.2.1
def AlE:Ae:=[(0,.d (.slice Bq)),(5,.own 5 Ab 2),(6,.own 6 Ag 49),(7,.own 7 Ag 49),(28,.d (.slice Bq)),(29,.d Ab),(30,.d Ab)]
def AlF:Ae:=[(0,.d (.slice Bq)),(5,.own 5 Ab 2),(6,.own 6 Ag 49),(7,.own 7 Ag 49)]
def Au3:Df:=[(2,AlF)]
def Au4(F n:Nat):Ay AlE:=fun x K=>C1 F (fun y0 y5 y6 y7=>K (.exit 0) (enc AlF (y0,y5,y6,y7,()))) n x.1 x.2.1 x.2.2.1 x.2.2.2.1 x.2.2.2.2.1 x.2.2.2.2.2.1 x.2.2.2.2.2.2.1
def Af7:Ae:=[(6,.own 6 Ag 49),(7,.own 7 Ag 49),(14,.own 14 Fp 5),(88,.d (.slice Bq)),(89,.d Ab),(90,.d Ab)]
def Ahw:Ae:=[(6,.own 6 Ag 49),(7,.own 7 Ag 49),(14,.own 14 Fp 5)]
def AqB:Df:=[(6,Ahw)]
def AlG(F n:Nat):Ay Af7:=fun x K=>Dz F (fun y6 y7 y14=>K (.exit 4) (enc Ahw (y6,y7,y14,()))) n x.1 x.2.1 x.2.2.1 x.2.2.2.1 x.2.2.2.2.1 x.2.2.2.2.2.1
def A4a(F:Nat):A7 A2Q:=Af [(12,⟨Af6,AlD F F⟩),(8,⟨AlE,Au4 F F⟩),(24,⟨Af7,AlG F F⟩)]
theorem Azg(F:Nat)(fr:Frm)(hn:(A48 F).ntmps=fr.n)(n:Nat):Ba A2Q f10 fr [1,1,1,1,1,0,1,0,0,1,1,0,0,1,1,1,0,0] Af6 (AlD F n) :=
 Bc (A4a F) (Af []) AqA rfl (A49 F) hn (m:=fun n=>AlD F n) (fun _ _=>rfl) (fun n x K=>by kernel_rfl) (An (by kernel_rfl)) n
theorem A2S(F:Nat)(fr:Frm)(hn:(A48 F).ntmps=fr.n)(n:Nat):Ba A2Q f10 fr [1,1,1,1,1,0,1,0,0] AlE (Au4 F n) :=
 Bc (A4a F) (Af []) Au3 rfl (A49 F) hn (m:=fun n=>Au4 F n) (fun _ _=>rfl) (fun n x K=>by kernel_rfl) (A3 (l:=[((.loop (sub (Ap f10) [1,1,1,1,1,0,1,0,0,1,1,0,0,1,1,1,0,0])),⟨Af6,AlD F F⟩)]) (by kernel_rfl) (Aj (Azg F fr hn F) Av)) n
theorem Azh(F:Nat)(fr:Frm)(hn:(A48 F).ntmps=fr.n)(n:Nat):Ba A2Q f10 fr [1,1,1,1,1,1,1,1,1,0,1,0,0] Af7 (AlG F n) :=
 Bc (A4a F) (Af []) AqB rfl (A49 F) hn (m:=fun n=>AlG F n) (fun _ _=>rfl) (fun n x K=>by kernel_rfl) (An (by kernel_rfl)) n
theorem s10(F:Nat):CSound prog 10 (Azf F) :=
 Aq (fn:=f10) (A4a F) (Af []) rfl func10 (by kernel_rfl) (A49 F) (fun fr hn=>(A3 (l:=[((.loop (sub (Ap f10) [1,1,1,1,1,0,1,0,0])),⟨AlE,Au4 F F⟩),((.loop (sub (Ap f10) [1,1,1,1,1,1,1,1,1,0,1,0,0])),⟨Af7,AlG F F⟩)]) (by kernel_rfl) (Aj (A2S F fr hn F) (Aj (Azh F fr hn F) Av)))) (fun x=>by kernel_rfl)
def A76:Sig:=⟨[.bor],[(0,.box 0 Ci)],false,some (0,5),[Ci,A1]⟩
def A2T(F:Nat):Contract:=Aw A76 fun x=>Pn F x.1
def A8F(F:Nat):Cx:=Ar [(19,AaX F)] [2,20] (1,33)
theorem A8G(F:Nat):Ai (A8F F):=Ac (Aa (s19 F) Ad)
def AlH:Ae:=[(0,.box 0 Ci),(3,.d Ab),(4,.own 4 Fp 5),(5,.d Ab)]
def AlI:Ae:=[(0,.box 0 Ci),(4,.own 4 Fp 5)]
def Au5:Df:=[(2,AlI)]
def Au6(F n:Nat):Ay AlH:=fun x K=>Ig F (fun y0 y4=>K (.exit 0) (enc AlI (y0,y4,()))) n x.1 x.2.1 x.2.2.1 x.2.2.2.1
def A8H(F:Nat):A7 A76:=Af [(4,⟨AlH,Au6 F F⟩)]
theorem A2U(F:Nat)(fr:Frm)(hn:(A8F F).ntmps=fr.n)(n:Nat):Ba A76 f17 fr [1,1,1,0,1,0,0] AlH (Au6 F n) :=
 Bc (A8H F) (Af []) Au5 rfl (A8G F) hn (m:=fun n=>Au6 F n) (fun _ _=>rfl) (fun n x K=>by kernel_rfl) (An (by kernel_rfl)) n
theorem s17(F:Nat):CSound prog 17 (A2T F) :=
 Aq (fn:=f17) (A8H F) (Af []) rfl func17 (by kernel_rfl) (A8G F) (fun fr hn=>(A3 (l:=[((.loop (sub (Ap f17) [1,1,1,0,1,0,0])),⟨AlH,Au6 F F⟩)]) (by kernel_rfl) (Aj (A2U F fr hn F) Av))) (fun x=>by kernel_rfl)
def BbG:Sig:=⟨[.bor,.ro],[(0,.box 0 Ci),(1,.d A1)],false,some (0,5),[Ci,A1]⟩
def A2V(F:Nat):Contract:=Aw BbG fun x=>Jx F x.1 x.2.1
def BbH(F:Nat):Cx:={ types:=tys,call:=Qq [(19,AaX F)],own:=[4,6,36,52],ntmps:=(1,59),cuts:=[52,56] }
theorem BbI(F:Nat):Ai (BbH F):=Ac (Aa (s19 F) Ad)
theorem s20(F:Nat):CSound prog 20 (A2V F) :=
 Aq (fn:=f20) (Af []) (Af []) rfl func20 (by kernel_rfl) (BbI F) (fun fr hn=>(An (by kernel_rfl))) (fun x=>by kernel_rfl)
def Azi:Sig:=⟨[.bor,.wr 5],[(0,.box 0 Ci),(1,.own 1 Fp 5)],false,some (0,5),[Ci,A1,A1]⟩
def A2W(F:Nat):Contract:=Aw Azi fun x=>P7 F x.1 x.2.1
def A77(F:Nat):Cx:={ types:=tys,call:=Qq [(19,AaX F)],own:=[4,6,36,52],ntmps:=(1,59),cuts:=[52,56] }
theorem A78(F:Nat):Ai (A77 F):=Ac (Aa (s19 F) Ad)
def A79(F:Nat):A7 Azi:=Af []
def A7a(F:Nat):A7 Azi:=Af []
theorem Bch(F:Nat):CSound prog 20 (A2W F) :=
 Aq (fn:=f20) (A79 F) (A7a F) rfl func20 (by kernel_rfl) (A78 F) (fun fr hn=>(An (by kernel_rfl))) (fun x=>by kernel_rfl)
def BbJ:Sig:=⟨[.ro,.ro,.ro],[(0,.d A1),(1,.d Ab),(2,.d Ab)],true,none,[.bool]⟩
def A2X(F:Nat):Contract:=Aw BbJ fun x=>Nr F x.1 x.2.1 x.2.2.1
def BbK(F:Nat):Cx:=Ar [] [] (0,23)
theorem BbL(F:Nat):Ai (BbK F):=Ac Ad
theorem s46(F:Nat):CSound prog 46 (A2X F) :=
 Aq (fn:=f46) (Af []) (Af []) rfl func46 (by kernel_rfl) (BbL F) (fun fr hn=>(An (by kernel_rfl))) (fun x=>by kernel_rfl)
def A7b:Sig:=⟨[.ro],[(0,.d Fp)],true,none,[.bool]⟩
def Aw3(F:Nat):Contract:=Aw A7b fun x=>Pk F x.1
def A7c(F:Nat):Cx:=Ar [] [] (0,5)
theorem A7d(F:Nat):Ai (A7c F):=Ac Ad
theorem BbN(F:Nat):CSound prog 179 (Aw3 F) :=
 Aq (fn:=f179) (Af []) (Af []) rfl func179 (by kernel_rfl) (A7d F) (fun fr hn=>(An (by kernel_rfl))) (fun x=>by kernel_rfl)
def Azj:Sig:=⟨[.ro,.ro],[(0,.d A1),(1,.fn 179)],true,none,[Ab]⟩
def Aw4(F:Nat):Contract:=Aw Azj fun x=>Ga F x.1
def A2Y(F:Nat):Cx:=Ar [(179,Aw3 F)] [] (0,19)
theorem A2Z(F:Nat):Ai (A2Y F):=Ac (Aa (BbN F) Ad)
def Af8:Ae:=[(0,.d A1),(1,.fn 179),(7,.d Ab),(8,.d Ab)]
def Ahx:Ae:=[]
def Abf:Ae:=[(4,.d Ab)]
def AqC:Df:=[(2,Ahx),(1,Abf)]
def AlJ(F n:Nat):Ay Af8:=fun x K=>B3 F (K (.exit 0) (enc Ahx (()))) (fun y4=>K .ret (enc Abf (y4,()))) n x.1 x.2.2.1 x.2.2.2.1
def A30(F:Nat):A7 Azj:=Af [(2,⟨Af8,AlJ F F⟩)]
theorem Azk(F:Nat)(fr:Frm)(hn:(A2Y F).ntmps=fr.n)(n:Nat):Ba Azj f178 fr [1,0,1,0,0] Af8 (AlJ F n) :=
 Bc (A30 F) (Af []) AqC rfl (A2Z F) hn (m:=fun n=>AlJ F n) (fun _ _=>rfl) (fun n x K=>by kernel_rfl) (An (by kernel_rfl)) n
theorem BbO(F:Nat):CSound prog 178 (Aw4 F) :=
 Aq (fn:=f178) (A30 F) (Af []) rfl func178 (by kernel_rfl) (A2Z F) (fun fr hn=>(A3 (l:=[((.loop (sub (Ap f178) [1,0,1,0,0])),⟨Af8,AlJ F F⟩)]) (by kernel_rfl) (Aj (Azk F fr hn F) Av))) (fun x=>by kernel_rfl)
def Azl:Sig:=⟨[.ro,.ro,.ro],[(0,.d A1),(1,.d Ab),(2,.d Ab)],false,none,[A1,Ab]⟩
def AqD(F:Nat):Contract:=Aw Azl fun x=>Lj F x.1 x.2.1 x.2.2.1
def A31(F:Nat):Cx:=Ar [(178,Aw4 F)] [6,25,53] (0,54)
theorem A32(F:Nat):Ai (A31 F):=Ac (Aa (BbO F) Ad)
def Af9:Ae:=[(0,.d A1),(8,.d Ab),(27,.d .bool)]
def Ahy:Ae:=[(0,.d A1),(8,.d Ab)]
def Abg:Ae:=[(6,.own 6 Fp 5),(7,.d Ab)]
def AqE:Df:=[(0,Ahy),(1,Abg)]
def AqF(F:Nat):Ay Af9:=fun x K=>Fz F (fun y0 y8=>K .normal (enc Ahy (y0,y8,()))) (fun y6 y7=>K .ret (enc Abg (y6,y7,()))) x.1 x.2.1 x.2.2.1
def A33(F:Nat):A7 Azl:=Af [(6,⟨Af9,AqF F⟩)]
theorem Azm(F:Nat)(fr:Frm)(hn:(A31 F).ntmps=fr.n):Fb Azl f148 fr [1,1,1,1,0,0,1] Af9 (AqF F) :=
 Fc (Af []) (A33 F) AqE rfl (A32 F) hn (fun x K=>by kernel_rfl) (An (by kernel_rfl))
theorem A8I(F:Nat):CSound prog 148 (AqD F) :=
 Aq (fn:=f148) (Af []) (A33 F) rfl func148 (by kernel_rfl) (A32 F) (fun fr hn=>(A3 (l:=[((sub (Ap f148) [1,1,1,1,0,0,1]),⟨Af9,AqF F⟩)]) (by kernel_rfl) (Aj (Azm F fr hn) Av))) (fun x=>by kernel_rfl)
def AqG:Sig:=⟨[.ro,.ro],[(0,.d A1),(1,.d Ab)],true,none,[Ag,Ab,Ab]⟩
def AqH(F:Nat):Contract:=Aw AqG fun x=>Pl F x.1 x.2.1
def Azn(F:Nat):Cx:=Ar [(148,AqD F)] [] (0,51)
theorem Azo(F:Nat):Ai (Azn F):=Ac (Aa (A8I F) Ad)
def Afa:Ae:=[(1,.d Ab),(7,.d A1),(9,.d Ag),(30,.d A1),(31,.d Ab),(32,.d Ab)]
def Ahz:Ae:=[(1,.d Ab),(7,.d A1),(9,.d Ag)]
def AqI:Df:=[(2,Ahz)]
def AlK(F n:Nat):Ay Afa:=fun x K=>Ic F (fun y1 y7 y9=>K (.exit 0) (enc Ahz (y1,y7,y9,()))) n x.1 x.2.1 x.2.2.1 x.2.2.2.1 x.2.2.2.2.1 x.2.2.2.2.2.1
def Afb:Ae:=[(1,.d Ab),(7,.d A1)]
def Abh:Ae:=[(4,.d Ag),(5,.d Ab),(6,.d Ab)]
def AqJ:Df:=[(1,Abh)]
def AqK(F:Nat):Ay Afb:=fun x K=>Ns F (fun y4 y5 y6=>K .ret (enc Abh (y4,y5,y6,()))) x.1 x.2.1
def Azp(F:Nat):A7 AqG:=Af [(8,⟨Afa,AlK F F⟩)]
def Azq(F:Nat):A7 AqG:=Af [(6,⟨Afb,AqK F⟩)]
theorem Azr(F:Nat)(fr:Frm)(hn:(Azn F).ntmps=fr.n)(n:Nat):Ba AqG f101 fr [1,1,1,1,1,0,1,0,0] Afa (AlK F n) :=
 Bc (Azp F) (Azq F) AqI rfl (Azo F) hn (m:=fun n=>AlK F n) (fun _ _=>rfl) (fun n x K=>by kernel_rfl) (An (by kernel_rfl)) n
theorem Azs(F:Nat)(fr:Frm)(hn:(Azn F).ntmps=fr.n):Fb AqG f101 fr [1,1,1,1] Afb (AqK F) :=
 Fc (Azp F) (Azq F) AqJ rfl (Azo F) hn (fun x K=>by kernel_rfl) (A3 (l:=[((.loop (sub (Ap f101) [1,1,1,1,1,0,1,0,0])),⟨Afa,AlK F F⟩)]) (by kernel_rfl) (Aj (Azr F fr hn F) Av))
theorem A8J(F:Nat):CSound prog 101 (AqH F) :=
 Aq (fn:=f101) (Azp F) (Azq F) rfl func101 (by kernel_rfl) (Azo F) (fun fr hn=>(A3 (l:=[((sub (Ap f101) [1,1,1,1]),⟨Afb,AqK F⟩)]) (by kernel_rfl) (Aj (Azs F fr hn) Av))) (fun x=>by kernel_rfl)
def BbP:Sig:=⟨[.ro,.ro,.ro],[(0,.d A1),(1,.d Ab),(2,.d Ab)],true,none,[Ab,Ab,Ab]⟩
def A34(F:Nat):Contract:=Aw BbP fun x=>Ie F x.1 x.2.1 x.2.2.1
def BbQ(F:Nat):Cx:=Ar [(101,AqH F)] [] (0,31)
theorem BbS(F:Nat):Ai (BbQ F):=Ac (Aa (A8J F) Ad)
theorem s47(F:Nat):CSound prog 47 (A34 F) :=
 Aq (fn:=f47) (Af []) (Af []) rfl func47 (by kernel_rfl) (BbS F) (fun fr hn=>(An (by kernel_rfl))) (fun x=>by kernel_rfl)
def Azt:Sig:=⟨[.ro,.ro,.ro],[(0,.d A1),(1,.d Ab),(2,.d Ab)],false,some (0,49),[Az,Ab,Ab]⟩
def Aw5(F:Nat):Contract:=Aw Azt fun x=>Hw F x.1 x.2.1 x.2.2.1
def A35(F:Nat):Cx:=Ar [(101,AqH F)] [6,19] (0,41)
theorem A36(F:Nat):Ai (A35 F):=Ac (Aa (A8J F) Ad)
def Afc:Ae:=[(0,.d A1),(1,.d Ab),(9,.own 9 Ag 49),(20,.d Ab),(21,.d Ab)]
def AhA:Ae:=[(1,.d Ab),(9,.own 9 Ag 49)]
def Abi:Ae:=[(6,.own 6 Ag 49),(7,.d Ab),(8,.d Ab)]
def AqL:Df:=[(2,AhA),(1,Abi)]
def AlL(F n:Nat):Ay Afc:=fun x K=>F0 F (fun y1 y9=>K (.exit 0) (enc AhA (y1,y9,()))) (fun y6 y7 y8=>K .ret (enc Abi (y6,y7,y8,()))) n x.1 x.2.1 x.2.2.1 x.2.2.2.1 x.2.2.2.2.1
def A37(F:Nat):A7 Azt:=Af [(3,⟨Afc,AlL F F⟩)]
theorem Azu(F:Nat)(fr:Frm)(hn:(A35 F).ntmps=fr.n)(n:Nat):Ba Azt f104 fr [1,1,0,1,0,0] Afc (AlL F n) :=
 Bc (A37 F) (Af []) AqL rfl (A36 F) hn (m:=fun n=>AlL F n) (fun _ _=>rfl) (fun n x K=>by kernel_rfl) (An (by kernel_rfl)) n
theorem BbT(F:Nat):CSound prog 104 (Aw5 F) :=
 Aq (fn:=f104) (A37 F) (Af []) rfl func104 (by kernel_rfl) (A36 F) (fun fr hn=>(A3 (l:=[((.loop (sub (Ap f104) [1,1,0,1,0,0])),⟨Afc,AlL F F⟩)]) (by kernel_rfl) (Aj (Azu F fr hn F) Av))) (fun x=>by kernel_rfl)
def Au7:Sig:=⟨[.ro,.ro,.ro],[(0,.d A1),(1,.d Ab),(2,.d Ab)],false,some (0,49),[Az,.bool]⟩
def Aw6(F:Nat):Contract:=Aw Au7 fun x=>D9 F x.1 x.2.1 x.2.2.1
def Azv(F:Nat):Cx:=Ar [(152,Alq F)] [6,21] (0,81)
theorem Azw(F:Nat):Ai (Azv F):=Ac (Aa (A6Y F) Ad)
def Afd:Ae:=[(0,.d A1),(2,.d Ab),(8,.own 8 Ag 49),(9,.d Ab),(10,.d Ab),(11,.d Ab),(23,.d Ab),(24,.d Ab)]
def AhB:Ae:=[(0,.d A1),(2,.d Ab),(8,.own 8 Ag 49),(9,.d Ab),(23,.d Ab),(24,.d Ab)]
def AqN:Df:=[(4,AhB)]
def AlN(F n:Nat):Ay Afd:=fun x K=>D0 F (fun y0 y2 y8 y9 y23 y24=>K (.exit 2) (enc AhB (y0,y2,y8,y9,y23,y24,()))) n x.1 x.2.1 x.2.2.1 x.2.2.2.1 x.2.2.2.2.1 x.2.2.2.2.2.1 x.2.2.2.2.2.2.1 x.2.2.2.2.2.2.2.1
def Afe:Ae:=[(0,.d A1),(2,.d Ab),(8,.own 8 Ag 49),(9,.d Ab),(23,.d Ab),(24,.d Ab)]
def AhC:Ae:=[(0,.d A1),(8,.own 8 Ag 49),(9,.d Ab)]
def AqO:Df:=[(2,AhC)]
def AlO(F n:Nat):Ay Afe:=fun x K=>D1 F (fun y0 y8 y9=>K (.exit 0) (enc AhC (y0,y8,y9,()))) n x.1 x.2.1 x.2.2.1 x.2.2.2.1 x.2.2.2.2.1 x.2.2.2.2.2.1
def Azx(F:Nat):A7 Au7:=Af [(9,⟨Afd,AlN F F⟩),(6,⟨Afe,AlO F F⟩)]
theorem Azy(F:Nat)(fr:Frm)(hn:(Azv F).ntmps=fr.n)(n:Nat):Ba Au7 f153 fr [1,1,1,1,0,1,0,0,1,1,0,0,1,1,0,0] Afd (AlN F n) :=
 Bc (Azx F) (Af []) AqN rfl (Azw F) hn (m:=fun n=>AlN F n) (fun _ _=>rfl) (fun n x K=>by kernel_rfl) (An (by kernel_rfl)) n
theorem Azz(F:Nat)(fr:Frm)(hn:(Azv F).ntmps=fr.n)(n:Nat):Ba Au7 f153 fr [1,1,1,1,0,1,0,0] Afe (AlO F n) :=
 Bc (Azx F) (Af []) AqO rfl (Azw F) hn (m:=fun n=>AlO F n) (fun _ _=>rfl) (fun n x K=>by kernel_rfl) (A3 (l:=[((.loop (sub (Ap f153) [1,1,1,1,0,1,0,0,1,1,0,0,1,1,0,0])),⟨Afd,AlN F F⟩)]) (by kernel_rfl) (Aj (Azy F fr hn F) Av)) n
theorem BbU(F:Nat):CSound prog 153 (Aw6 F) :=
 Aq (fn:=f153) (Azx F) (Af []) rfl func153 (by kernel_rfl) (Azw F) (fun fr hn=>(A3 (l:=[((.loop (sub (Ap f153) [1,1,1,1,0,1,0,0])),⟨Afe,AlO F F⟩)]) (by kernel_rfl) (Aj (Azz F fr hn F) Av))) (fun x=>by kernel_rfl)
def A7e:Sig:=⟨[.ro,.ro,.ro],[(0,.d A1),(1,.d Ab),(2,.d Ab)],false,some (0,49),[Az,Ab,Ab]⟩
def Aw7(F:Nat):Contract:=Aw A7e fun x=>Gu F x.1 x.2.1 x.2.2.1
def A7f(F:Nat):Cx:=Ar [(152,Alq F),(153,Aw6 F)] [6,49] (0,58)
theorem A7g(F:Nat):Ai (A7f F):=Ac (Aa (A6Y F) (Aa (BbU F) Ad))
theorem BbV(F:Nat):CSound prog 105 (Aw7 F) :=
 Aq (fn:=f105) (Af []) (Af []) rfl func105 (by kernel_rfl) (A7g F) (fun fr hn=>(An (by kernel_rfl))) (fun x=>by kernel_rfl)
def AzA:Sig:=⟨[.ro,.ro],[(0,.d A1),(1,.d A1)],true,none,[.bool]⟩
def AqP(F:Nat):Contract:=Aw AzA fun x=>Bb F x.1 x.2.1
def A38(F:Nat):Cx:=Ar [] [] (0,26)
theorem A39(F:Nat):Ai (A38 F):=Ac Ad
def Aff:Ae:=[(0,.d A1),(1,.d A1),(12,.d Ab),(13,.d Ab)]
def AhD:Ae:=[]
def Abj:Ae:=[(4,.d .bool)]
def AqQ:Df:=[(2,AhD),(1,Abj)]
def AlP(F n:Nat):Ay Aff:=fun x K=>Dr F (K (.exit 0) (enc AhD (()))) (fun y4=>K .ret (enc Abj (y4,()))) n x.1 x.2.1 x.2.2.1 x.2.2.2.1
def A3a(F:Nat):A7 AzA:=Af [(4,⟨Aff,AlP F F⟩)]
theorem AzB(F:Nat)(fr:Frm)(hn:(A38 F).ntmps=fr.n)(n:Nat):Ba AzA f106 fr [1,1,0,1,0,0] Aff (AlP F n) :=
 Bc (A3a F) (Af []) AqQ rfl (A39 F) hn (m:=fun n=>AlP F n) (fun _ _=>rfl) (fun n x K=>by kernel_rfl) (An (by kernel_rfl)) n
theorem A8K(F:Nat):CSound prog 106 (AqP F) :=
 Aq (fn:=f106) (A3a F) (Af []) rfl func106 (by kernel_rfl) (A39 F) (fun fr hn=>(A3 (l:=[((.loop (sub (Ap f106) [1,1,0,1,0,0])),⟨Aff,AlP F F⟩)]) (by kernel_rfl) (Aj (AzB F fr hn F) Av))) (fun x=>by kernel_rfl)
def A7h:Sig:=⟨[.ro,.ro,.ro],[(0,.d A1),(1,.d Ab),(2,.d Ab)],false,none,[Az,Ab,Ab]⟩
def Au8(F:Nat):Contract:=Aw A7h fun x=>Ch F x.1 x.2.1 x.2.2.1
def A8L(F:Nat):Cx:=Ar [(105,Aw7 F),(72,AtW F),(106,AqP F),(104,Aw5 F)] [6] (0,78)
theorem A8N(F:Nat):Ai (A8L F):=Ac (Aa (BbV F) (Aa (s72 F) (Aa (A8K F) (Aa (BbT F) Ad))))
def AlQ:Ae:=[(0,.d A1),(1,.d Ab),(2,.d Ab),(14,.d .bool)]
def AlS:Ae:=[(0,.d A1),(1,.d Ab),(2,.d Ab)]
def Adg:Ae:=[(6,.own 6 Ag 49),(7,.d Ab),(8,.d Ab)]
def Au9:Df:=[(0,AlS),(1,Adg)]
def AzC(F:Nat):Ay AlQ:=fun x K=>Cw F (fun y0 y1 y2=>K .normal (enc AlS (y0,y1,y2,()))) (fun y6 y7 y8=>K .ret (enc Adg (y6,y7,y8,()))) x.1 x.2.1 x.2.2.1 x.2.2.2.1
def A8O(F:Nat):A7 A7h:=Af [(2,⟨AlQ,AzC F⟩)]
theorem A3b(F:Nat)(fr:Frm)(hn:(A8L F).ntmps=fr.n):Fb A7h f50 fr [1,0,0,1] AlQ (AzC F) :=
 Fc (Af []) (A8O F) Au9 rfl (A8N F) hn (fun x K=>by kernel_rfl) (An (by kernel_rfl))
theorem s50(F:Nat):CSound prog 50 (Au8 F) :=
 Aq (fn:=f50) (Af []) (A8O F) rfl func50 (by kernel_rfl) (A8N F) (fun fr hn=>(A3 (l:=[((sub (Ap f50) [1,0,0,1]),⟨AlQ,AzC F⟩)]) (by kernel_rfl) (Aj (A3b F fr hn) Av))) (fun x=>by kernel_rfl)
def A7i:Sig:=⟨[.ro],[(0,.d Ag)],true,none,[Ab]⟩
def Aw8(F:Nat):Contract:=Aw A7i fun x=>Lk F x.1
def A7j(F:Nat):Cx:=Ar [] [] (0,11)
theorem A7k(F:Nat):Ai (A7j F):=Ac Ad
theorem BbW(F:Nat):CSound prog 149 (Aw8 F) :=
 Aq (fn:=f149) (Af []) (Af []) rfl func149 (by kernel_rfl) (A7k F) (fun fr hn=>(An (by kernel_rfl))) (fun x=>by kernel_rfl)
def Anz:Sig:=⟨[.ro,.ro,.ro],[(0,.d A1),(1,.d Ab),(2,.d Ab)],false,none,[Cz,Ab,Ab]⟩
def Aw9(F:Nat):Contract:=Aw Anz fun x=>Dk F x.1 x.2.1 x.2.2.1
def Aua(F:Nat):Cx:=Ar [(50,Au8 F),(149,Aw8 F),(125,Aqr F),(30,Aza F),(106,AqP F)] [6,57] (0,96)
theorem Aub(F:Nat):Ai (Aua F):=Ac (Aa (s50 F) (Aa (BbW F) (Aa (A6L F) (Aa (s30 F) (Aa (A8K F) Ad)))))
def Afg:Ae:=[(0,.d A1),(1,.d Ab),(2,.d Ab),(16,.d .bool)]
def AhE:Ae:=[(0,.d A1),(1,.d Ab),(2,.d Ab)]
def Abk:Ae:=[(6,.own 6 Ab 2),(7,.d Ab),(8,.d Ab)]
def AqS:Df:=[(0,AhE),(1,Abk)]
def AqT(F:Nat):Ay Afg:=fun x K=>Ca F (fun y0 y1 y2=>K .normal (enc AhE (y0,y1,y2,()))) (fun y6 y7 y8=>K .ret (enc Abk (y6,y7,y8,()))) x.1 x.2.1 x.2.2.1 x.2.2.2.1
def Aaa:Ae:=[(0,.d A1),(1,.d Ab),(10,.d Ab),(12,.own 12 Ab 2),(58,.d Az),(59,.d Ab),(60,.d Ab)]
def Adh:Ae:=[(0,.d A1),(1,.d Ab),(10,.d Ab),(12,.own 12 Ab 2)]
def AnA:Df:=[(3,Adh)]
def Afh(F n:Nat):Ay Aaa:=fun x K=>D3 F (fun y0 y1 y10 y12=>K (.exit 1) (enc Adh (y0,y1,y10,y12,()))) n x.1 x.2.1 x.2.2.1 x.2.2.2.1 x.2.2.2.2.1 x.2.2.2.2.2.1 x.2.2.2.2.2.2.1
def Aab:Ae:=[(0,.d A1),(1,.d Ab),(10,.d Ab),(12,.own 12 Ab 2),(58,.d Az),(59,.d Ab),(60,.d Ab)]
def Adi:Ae:=[(0,.d A1),(1,.d Ab),(10,.d Ab),(12,.own 12 Ab 2)]
def AnB:Df:=[(0,Adi)]
def Aji(F:Nat):Ay Aab:=fun x K=>C7 F (fun y0 y1 y10 y12=>K .normal (enc Adi (y0,y1,y10,y12,()))) x.1 x.2.1 x.2.2.1 x.2.2.2.1 x.2.2.2.2.1 x.2.2.2.2.2.1 x.2.2.2.2.2.2.1
def Auc(F:Nat):A7 Anz:=Af [(12,⟨Aaa,Afh F F⟩)]
def Aud(F:Nat):A7 Anz:=Af [(2,⟨Afg,AqT F⟩),(12,⟨Aab,Aji F⟩)]
theorem AzD(F:Nat)(fr:Frm)(hn:(Aua F).ntmps=fr.n):Fb Anz f102 fr [1,0,0,1] Afg (AqT F) :=
 Fc (Auc F) (Aud F) AqS rfl (Aub F) hn (fun x K=>by kernel_rfl) (An (by kernel_rfl))
theorem Aue(F:Nat)(fr:Frm)(hn:(Aua F).ntmps=fr.n)(n:Nat):Ba Anz f102 fr [1,1,1,1,1,0,1,0,0] Aaa (Afh F n) :=
 Bc (Auc F) (Aud F) AnA rfl (Aub F) hn (m:=fun n=>Afh F n) (fun _ _=>rfl) (fun n x K=>by kernel_rfl) (An (by kernel_rfl)) n
theorem Auf(F:Nat)(fr:Frm)(hn:(Aua F).ntmps=fr.n):Fb Anz f102 fr [1,1,1,1,1,0,1] Aab (Aji F) :=
 Fc (Auc F) (Aud F) AnB rfl (Aub F) hn (fun x K=>by kernel_rfl) (A3 (l:=[((.loop (sub (Ap f102) [1,1,1,1,1,0,1,0,0])),⟨Aaa,Afh F F⟩)]) (by kernel_rfl) (Aj (Aue F fr hn F) Av))
theorem BbX(F:Nat):CSound prog 102 (Aw9 F) :=
 Aq (fn:=f102) (Auc F) (Aud F) rfl func102 (by kernel_rfl) (Aub F) (fun fr hn=>(A3 (l:=[((sub (Ap f102) [1,0,0,1]),⟨Afg,AqT F⟩),((sub (Ap f102) [1,1,1,1,1,0,1]),⟨Aab,Aji F⟩)]) (by kernel_rfl) (Aj (AzD F fr hn) (Aj (Auf F fr hn) Av)))) (fun x=>by kernel_rfl)
def AqU:Sig:=⟨[.ro,.ro],[(0,.d A1),(1,.d Ab)],true,none,[tyV,Ab,Ab]⟩
def Awa(F:Nat):Contract:=Aw AqU fun x=>Ll F x.1 x.2.1
def Aug(F:Nat):Cx:=Ar [(148,AqD F),(81,ApZ F)] [] (0,94)
theorem Auh(F:Nat):Ai (Aug F):=Ac (Aa (A8I F) (Aa (s81 F) Ad))
def Afi:Ae:=[(1,.d Ab),(4,.box 4 tyV),(7,.d A1),(9,.box 9 (.arr 5 Ag)),(10,.d Ab),(11,.d Ab)]
def AhF:Ae:=[(1,.d Ab),(4,.box 4 tyV),(7,.d A1),(9,.box 9 (.arr 5 Ag)),(10,.d Ab)]
def AqV:Df:=[(4,AhF)]
def AlT(F n:Nat):Ay Afi:=fun x K=>Iu F (fun y1 y4 y7 y9 y10=>K (.exit 2) (enc AhF (y1,y4,y7,y9,y10,()))) n x.1 x.2.1 x.2.2.1 x.2.2.2.1 x.2.2.2.2.1 x.2.2.2.2.2.1
def Afj:Ae:=[(1,.d Ab),(4,.box 4 tyV),(7,.d A1),(9,.box 9 (.arr 5 Ag)),(10,.d Ab)]
def AhG:Ae:=[(1,.d Ab),(4,.box 4 tyV),(7,.d A1),(9,.box 9 (.arr 5 Ag))]
def AqW:Df:=[(2,AhG)]
def AlU(F n:Nat):Ay Afj:=fun x K=>El F (fun y1 y4 y7 y9=>K (.exit 0) (enc AhG (y1,y4,y7,y9,()))) n x.1 x.2.1 x.2.2.1 x.2.2.2.1 x.2.2.2.2.1
def Aac:Ae:=[(1,.d Ab),(4,.box 4 tyV),(7,.d A1),(9,.box 9 (.arr 5 Ag)),(12,.box 12 tyV),(63,.d Ab)]
def Adj:Ae:=[(1,.d Ab),(4,.box 4 tyV),(7,.d A1),(9,.box 9 (.arr 5 Ag)),(12,.box 12 tyV)]
def AnC:Df:=[(6,Adj)]
def Afk(F n:Nat):Ay Aac:=fun x K=>Hx F (fun y1 y4 y7 y9 y12=>K (.exit 4) (enc Adj (y1,y4,y7,y9,y12,()))) n x.1 x.2.1 x.2.2.1 x.2.2.2.1 x.2.2.2.2.1 x.2.2.2.2.2.1
def Aui(F:Nat):A7 AqU:=Af [(9,⟨Afi,AlT F F⟩),(6,⟨Afj,AlU F F⟩),(15,⟨Aac,Afk F F⟩)]
theorem AzE(F:Nat)(fr:Frm)(hn:(Aug F).ntmps=fr.n)(n:Nat):Ba AqU f151 fr [1,1,1,1,0,1,0,0,1,0,0,0,1,0,0] Afi (AlT F n) :=
 Bc (Aui F) (Af []) AqV rfl (Auh F) hn (m:=fun n=>AlT F n) (fun _ _=>rfl) (fun n x K=>by kernel_rfl) (An (by kernel_rfl)) n
theorem AzF(F:Nat)(fr:Frm)(hn:(Aug F).ntmps=fr.n)(n:Nat):Ba AqU f151 fr [1,1,1,1,0,1,0,0] Afj (AlU F n) :=
 Bc (Aui F) (Af []) AqW rfl (Auh F) hn (m:=fun n=>AlU F n) (fun _ _=>rfl) (fun n x K=>by kernel_rfl) (A3 (l:=[((.loop (sub (Ap f151) [1,1,1,1,0,1,0,0,1,0,0,0,1,0,0])),⟨Afi,AlT F F⟩)]) (by kernel_rfl) (Aj (AzE F fr hn F) Av)) n
theorem Auj(F:Nat)(fr:Frm)(hn:(Aug F).ntmps=fr.n)(n:Nat):Ba AqU f151 fr [1,1,1,1,1,1,0,1,0,0] Aac (Afk F n) :=
 Bc (Aui F) (Af []) AnC rfl (Auh F) hn (m:=fun n=>Afk F n) (fun _ _=>rfl) (fun n x K=>by kernel_rfl) (An (by kernel_rfl)) n
theorem BbY(F:Nat):CSound prog 151 (Awa F) :=
 Aq (fn:=f151) (Aui F) (Af []) rfl func151 (by kernel_rfl) (Auh F) (fun fr hn=>(A3 (l:=[((.loop (sub (Ap f151) [1,1,1,1,0,1,0,0])),⟨Afj,AlU F F⟩),((.loop (sub (Ap f151) [1,1,1,1,1,1,0,1,0,0])),⟨Aac,Afk F F⟩)]) (by kernel_rfl) (Aj (AzF F fr hn F) (Aj (Auj F fr hn F) Av)))) (fun x=>by kernel_rfl)
def AzG:Sig:=⟨[.ro,.ro],[(0,.d A1),(1,.d Ab)],true,none,[Bv,Ab,Ab]⟩
def Awb(F:Nat):Contract:=Aw AzG fun x=>Ow F x.1 x.2.1
def A3c(F:Nat):Cx:=Ar [(151,Awa F),(82,Aq0 F),(40,AtF F)] [] (0,49)
theorem A3d(F:Nat):Ai (A3c F):=Ac (Aa (BbY F) (Aa (s82 F) (Aa (s40 F) Ad)))
def Afl:Ae:=[(0,.d A1),(1,.d Ab),(4,.box 4 Bv),(7,.box 7 (.arr 2 tyV)),(13,.d Ab)]
def AhH:Ae:=[(1,.d Ab),(4,.box 4 Bv),(7,.box 7 (.arr 2 tyV))]
def Abl:Ae:=[(4,.box 4 Bv),(5,.d Ab),(6,.d Ab)]
def AqX:Df:=[(2,AhH),(1,Abl)]
def AlV(F n:Nat):Ay Afl:=fun x K=>B2 F (fun y1 y4 y7=>K (.exit 0) (enc AhH (y1,y4,y7,()))) (fun y4 y5 y6=>K .ret (enc Abl (y4,y5,y6,()))) n x.1 x.2.1 x.2.2.1 x.2.2.2.1 x.2.2.2.2.1
def A3e(F:Nat):A7 AzG:=Af [(3,⟨Afl,AlV F F⟩)]
theorem AzH(F:Nat)(fr:Frm)(hn:(A3c F).ntmps=fr.n)(n:Nat):Ba AzG f103 fr [1,1,0,1,0,0] Afl (AlV F n) :=
 Bc (A3e F) (Af []) AqX rfl (A3d F) hn (m:=fun n=>AlV F n) (fun _ _=>rfl) (fun n x K=>by kernel_rfl) (An (by kernel_rfl)) n
theorem BbZ(F:Nat):CSound prog 103 (Awb F) :=
 Aq (fn:=f103) (A3e F) (Af []) rfl func103 (by kernel_rfl) (A3d F) (fun fr hn=>(A3 (l:=[((.loop (sub (Ap f103) [1,1,0,1,0,0])),⟨Afl,AlV F F⟩)]) (by kernel_rfl) (Aj (AzH F fr hn F) Av))) (fun x=>by kernel_rfl)
def A7l:Sig:=⟨[.ro,.ro,.ro],[(0,.d A1),(1,.d Ab),(2,.d Ab)],false,some (0,56),[(.slice (.pair Ab (.pair Bv (.pair .nil .unit)))),Ab,Ab]⟩
def A3f(F:Nat):Contract:=Aw A7l fun x=>I9 F x.1 x.2.1 x.2.2.1
def A4b(F:Nat):Cx:={ types:=Aiq,call:=Qq [(102,Aw9 F),(103,Awb F)],own:=[6,29],ntmps:=(0,57) }
theorem A8P(F:Nat):Ai (A4b F):=Ac (Aa (BbX F) (Aa (BbZ F) Ad))
def AlW:Ae:=[(0,.d A1),(1,.d Ab),(11,.own 11 (.pair Ab (.pair Bv (.pair .nil .unit))) 56),(30,.d Cz),(31,.d Ab),(32,.d Ab)]
def AlX:Ae:=[(1,.d Ab),(11,.own 11 (.pair Ab (.pair Bv (.pair .nil .unit))) 56)]
def Adk:Ae:=[(6,.own 6 (.pair Ab (.pair Bv (.pair .nil .unit))) 56),(7,.d Ab),(8,.d Ab)]
def Auk:Df:=[(2,AlX),(1,Adk)]
def Aul(F n:Nat):Ay AlW:=fun x K=>Em F (fun y1 y11=>K (.exit 0) (enc AlX (y1,y11,()))) (fun y6 y7 y8=>K .ret (enc Adk (y6,y7,y8,()))) n x.1 x.2.1 x.2.2.1 x.2.2.2.1 x.2.2.2.2.1 x.2.2.2.2.2.1
def A8Q(F:Nat):A7 A7l:=Af [(6,⟨AlW,Aul F F⟩)]
theorem A3g(F:Nat)(fr:Frm)(hn:(A4b F).ntmps=fr.n)(n:Nat):Ba A7l f48 fr [1,1,1,1,0,1,0,0] AlW (Aul F n) :=
 Acz (cx:=A4b F) (hs:=A8Q F) (js:=Af []) (outs:=Auk) (AgG _ rfl) (A8P F) hn mix (m:=fun n=>Aul F n) (fun _ _=>rfl) (fun n x K=>by kernel_rfl) (An (by kernel_rfl)) n
theorem s48(F:Nat):CSound prog 48 (A3f F) :=
 AdV (fn:=f48) (code:=(Ap f48)) (cx:=A4b F) (hs:=A8Q F) (js:=Af []) func48 (by kernel_rfl) (by kernel_rfl) (AgG _ rfl) (A8P F) mix (by kernel_rfl) (by kernel_rfl) (fun fr hn=>(A3 (l:=[((.loop (sub (Ap f48) [1,1,1,1,0,1,0,0])),⟨AlW,Aul F F⟩)]) (by kernel_rfl) (Aj (A3g F fr hn F) Av))) (fun x=>by kernel_rfl)
def A7m:Sig:=⟨[.ro,.ro,.ro,.ro],[(0,.d A1),(1,.d Ab),(2,.d Ab),(3,.d Ab)],false,some (0,3),[Cz,Ab,Ab,Ab]⟩
def A3h(F:Nat):Contract:=Aw A7m fun x=>J6 F x.1 x.2.1 x.2.2.1 x.2.2.2.1
def A8S(F:Nat):Cx:=Ar [(50,Au8 F)] [8,31] (0,61)
theorem A8T(F:Nat):Ai (A8S F):=Ac (Aa (s50 F) Ad)
def AlY:Ae:=[(3,.d Ab),(13,.d Ab),(15,.own 15 Ab 3),(16,.d Ab),(32,.d Az),(33,.d Ab),(34,.d Ab)]
def AlZ:Ae:=[(13,.d Ab),(15,.own 15 Ab 3),(16,.d Ab)]
def Aum:Df:=[(2,AlZ)]
def Aun(F n:Nat):Ay AlY:=fun x K=>Fg F (fun y13 y15 y16=>K (.exit 0) (enc AlZ (y13,y15,y16,()))) n x.1 x.2.1 x.2.2.1 x.2.2.2.1 x.2.2.2.2.1 x.2.2.2.2.2.1 x.2.2.2.2.2.2.1
def A8U(F:Nat):A7 A7m:=Af [(7,⟨AlY,Aun F F⟩)]
theorem A3i(F:Nat)(fr:Frm)(hn:(A8S F).ntmps=fr.n)(n:Nat):Ba A7m f49 fr [1,1,1,1,1,0,1,0,0] AlY (Aun F n) :=
 Bc (A8U F) (Af []) Aum rfl (A8T F) hn (m:=fun n=>Aun F n) (fun _ _=>rfl) (fun n x K=>by kernel_rfl) (An (by kernel_rfl)) n
theorem s49(F:Nat):CSound prog 49 (A3h F) :=
 Aq (fn:=f49) (A8U F) (Af []) rfl func49 (by kernel_rfl) (A8T F) (fun fr hn=>(A3 (l:=[((.loop (sub (Ap f49) [1,1,1,1,1,0,1,0,0])),⟨AlY,Aun F F⟩)]) (by kernel_rfl) (Aj (A3i F fr hn F) Av))) (fun x=>by kernel_rfl)
def A7n:Sig:=⟨[.wr 56,.ro,.ro,.ro],[(0,.own 0 (.pair Ab (.pair Bv (.pair .nil .unit))) 56),(1,.d Cz),(2,.d Az),(3,.d Ab)],false,none,[(.slice Bq),.bool]⟩
def A3j(F:Nat):Contract:=Aw A7n fun x=>Nt F x.1 x.2.1 x.2.2.1 x.2.2.2.1
def A8V(F:Nat):Cx:=Ar [] [] (1,54)
theorem Bc0(F:Nat):Ai (A8V F):=Ac Ad
def Am0:Ae:=[(0,.own 0 (.pair Ab (.pair Bv (.pair .nil .unit))) 56),(2,.d Az),(3,.d Ab),(12,.d Cz),(13,.d Ab),(14,.d Ab)]
def Am1:Ae:=[(0,.own 0 Bq 56)]
def Adl:Ae:=[(0,.own 0 Bq 56),(8,.d .bool)]
def A4c:Df:=[(2,Am1),(1,Adl)]
def AzI(F n:Nat):Ay Am0:=fun x K=>He F (fun y0=>K (.exit 0) (enc Am1 (y0,()))) (fun y0 y8=>K .ret (enc Adl (y0,y8,()))) n x.1 x.2.1 x.2.2.1 x.2.2.2.1 x.2.2.2.2.1 x.2.2.2.2.2.1
def Bc1(F:Nat):A7 A7n:=Af [(2,⟨Am0,AzI F F⟩)]
theorem A3k(F:Nat)(fr:Frm)(hn:(A8V F).ntmps=fr.n)(n:Nat):Ba A7n f51 fr [1,0,1,0,0] Am0 (AzI F n):=Ank F fr hn n
theorem s51(F:Nat):CSound prog 51 (A3j F) :=
 Aq (fn:=f51) (Bc1 F) (Af []) rfl func51 (by kernel_rfl) (Bc0 F) (fun fr hn=>(A3 (l:=[((.loop (sub (Ap f51) [1,0,1,0,0])),⟨Am0,AzI F F⟩)]) (by kernel_rfl) (Aj (A3k F fr hn F) Av))) (fun x=>by kernel_rfl)
def Bc2:Sig:=⟨[.ro],[(0,.d Bq)],true,none,[.bool]⟩
def A3l(F:Nat):Contract:=Aw Bc2 fun x=>Jv F x.1
def Bc3(F:Nat):Cx:=Ar [] [] (0,8)
theorem Bc4(F:Nat):Ai (Bc3 F):=Ac Ad
theorem s53(F:Nat):CSound prog 53 (A3l F) :=
 Aq (fn:=f53) (Af []) (Af []) rfl func53 (by kernel_rfl) (Bc4 F) (fun fr hn=>(An (by kernel_rfl))) (fun x=>by kernel_rfl)
def AzJ:Sig:=⟨[.ro,.ro],[(0,.d (.slice Bq)),(1,.fn 53)],true,none,[Ab]⟩
def Awc(F:Nat):Contract:=Aw AzJ fun x=>Gv F x.1
def A3m(F:Nat):Cx:=Ar [(53,A3l F)] [] (0,19)
theorem A3n(F:Nat):Ai (A3m F):=Ac (Aa (s53 F) Ad)
def Afm:Ae:=[(0,.d (.slice Bq)),(1,.fn 53),(7,.d Ab),(8,.d Ab)]
def AhI:Ae:=[]
def Abm:Ae:=[(4,.d Ab)]
def AqY:Df:=[(2,AhI),(1,Abm)]
def Am2(F n:Nat):Ay Afm:=fun x K=>Bf F (K (.exit 0) (enc AhI (()))) (fun y4=>K .ret (enc Abm (y4,()))) n x.1 x.2.2.1 x.2.2.2.1
def A3o(F:Nat):A7 AzJ:=Af [(2,⟨Afm,Am2 F F⟩)]
theorem AzK(F:Nat)(fr:Frm)(hn:(A3m F).ntmps=fr.n)(n:Nat):Ba AzJ f107 fr [1,0,1,0,0] Afm (Am2 F n) :=
 Bc (A3o F) (Af []) AqY rfl (A3n F) hn (m:=fun n=>Am2 F n) (fun _ _=>rfl) (fun n x K=>by kernel_rfl) (An (by kernel_rfl)) n
theorem Bc5(F:Nat):CSound prog 107 (Awc F) :=
 Aq (fn:=f107) (A3o F) (Af []) rfl func107 (by kernel_rfl) (A3n F) (fun fr hn=>(A3 (l:=[((.loop (sub (Ap f107) [1,0,1,0,0])),⟨Afm,Am2 F F⟩)]) (by kernel_rfl) (Aj (AzK F fr hn F) Av))) (fun x=>by kernel_rfl)
def Bc6:Sig:=⟨[.ro,.ro],[(0,.d (.slice Bq)),(1,.fn 53)],true,none,[.bool]⟩
def A3p(F:Nat):Contract:=Aw Bc6 fun x=>Cl F x.1
def Bc7(F:Nat):Cx:=Ar [(107,Awc F)] [] (0,9)
theorem Bc8(F:Nat):Ai (Bc7 F):=Ac (Aa (Bc5 F) Ad)
theorem s52(F:Nat):CSound prog 52 (A3p F) :=
 Aq (fn:=f52) (Af []) (Af []) rfl func52 (by kernel_rfl) (Bc8 F) (fun fr hn=>(An (by kernel_rfl))) (fun x=>by kernel_rfl)
def Bc9:Sig:=⟨[.ro,.ro,.ro],[(0,.d A1),(1,.d Ab),(2,.d Ab)],false,some (0,56),[(.slice Bq),Ab,Ab]⟩
def AzL(F:Nat):Contract:=Aw Bc9 fun x=>Bi F x.1 x.2.1 x.2.2.1
def Bca(F:Nat):Cx:=Ar [(46,A2X F),(47,A34 F),(48,A3f F),(49,A3h F),(50,Au8 F),(51,A3j F),(13,AtI F),(52,A3p F)] [6,35] (0,93)
theorem Bcb(F:Nat):Ai (Bca F):=Ac (Aa (s46 F) (Aa (s47 F) (Aa (s48 F) (Aa (s49 F) (Aa (s50 F) (Aa (s51 F) (Aa (s13 F) (Aa (s52 F) Ad))))))))
theorem s21(F:Nat):CSound prog 21 (AzL F) :=
 Aq (fn:=f21) (Af []) (Af []) rfl func21 (by kernel_rfl) (Bcb F) (fun fr hn=>(An (by kernel_rfl))) (fun x=>by kernel_rfl)
def A7o:Sig:=⟨[.ro,.ro],[(0,.d A1),(1,.d A1)],true,none,[.bool]⟩
def AzN(F:Nat):Contract:=Aw A7o fun x=>Hf F x.1 x.2.1
def A8W(F:Nat):Cx:=Ar [] [] (0,26)
theorem A8X(F:Nat):Ai (A8W F):=Ac Ad
def Am3:Ae:=[(0,.d A1),(1,.d A1),(5,.d Ab)]
def Am4:Ae:=[]
def Adm:Ae:=[(4,.d .bool)]
def Auo:Df:=[(2,Am4),(1,Adm)]
def Aup(F n:Nat):Ay Am3:=fun x K=>Jw F (K (.exit 0) (enc Am4 (()))) (fun y4=>K .ret (enc Adm (y4,()))) n x.1 x.2.1 x.2.2.1
def A8Y(F:Nat):A7 A7o:=Af [(4,⟨Am3,Aup F F⟩)]
theorem A3q(F:Nat)(fr:Frm)(hn:(A8W F).ntmps=fr.n)(n:Nat):Ba A7o f12 fr [1,1,0,1,0,0] Am3 (Aup F n) :=
 Bc (A8Y F) (Af []) Auo rfl (A8X F) hn (m:=fun n=>Aup F n) (fun _ _=>rfl) (fun n x K=>by kernel_rfl) (An (by kernel_rfl)) n
theorem s12(F:Nat):CSound prog 12 (AzN F) :=
 Aq (fn:=f12) (A8Y F) (Af []) rfl func12 (by kernel_rfl) (A8X F) (fun fr hn=>(A3 (l:=[((.loop (sub (Ap f12) [1,1,0,1,0,0])),⟨Am3,Aup F F⟩)]) (by kernel_rfl) (Aj (A3q F fr hn F) Av))) (fun x=>by kernel_rfl)
def Bcc:Sig:=⟨[],[],true,none,[.bool]⟩
def A3r(F:Nat):Contract:=Aw Bcc fun x=>Pm F 
def Bcd(F:Nat):Cx:=Ar [(44,Ats F),(10,Azf F),(21,AzL F),(12,AzN F)] [] (0,53)
theorem Bce(F:Nat):Ai (Bcd F):=Ac (Aa (s44 F) (Aa (s10 F) (Aa (s21 F) (Aa (s12 F) Ad))))
theorem s15(F:Nat):CSound prog 15 (A3r F) :=
 Aq (fn:=f15) (Af []) (Af []) rfl func15 (by kernel_rfl) (Bce F) (fun fr hn=>(An (by kernel_rfl))) (fun x=>by kernel_rfl)
def sg6:Sig:=⟨[.ro,.ro,.ro],[(0,.d A1),(1,.d Ab),(2,.d Cz)],true,none,[.bool]⟩
def A7p(F:Nat):Contract:=Aw sg6 fun x=>Hy F x.1 x.2.1 x.2.2.1
def cx6(F:Nat):Cx:=Ar [(7,A7S F),(8,A8i F),(10,Azf F),(16,Ax5 F),(17,A2T F),(20,A2V F),(19,AaX F),(21,AzL F),(13,AtI F),(12,AzN F),(15,A3r F)] [24] (0,141)
theorem cs6(F:Nat):Ai (cx6 F):=Ac (Aa (s7 F) (Aa (s8 F) (Aa (s10 F) (Aa (s16 F) (Aa (s17 F) (Aa (s20 F) (Aa (s19 F) (Aa (s21 F) (Aa (s13 F) (Aa (s12 F) (Aa (s15 F) Ad)))))))))))
def Am5:Ae:=[(13,.d (.slice A1)),(14,.d Cz),(15,.d Ab),(16,.d (.slice Bq)),(17,.d Ab),(19,.d .bool),(20,.d Ab)]
def Am6:Ae:=[(13,.d (.slice A1)),(14,.d Cz),(15,.d Ab),(16,.d (.slice Bq)),(17,.d Ab),(19,.d .bool)]
def Auq:Df:=[(4,Am6)]
def Aur(F n:Nat):Ay Am5:=fun x K=>Bj F (fun y13 y14 y15 y16 y17 y19=>K (.exit 2) (enc Am6 (y13,y14,y15,y16,y17,y19,()))) n x.1 x.2.1 x.2.2.1 x.2.2.2.1 x.2.2.2.2.1 x.2.2.2.2.2.1 x.2.2.2.2.2.2.1
def Aus:Ae:=[(13,.d (.slice A1)),(14,.d Cz),(15,.d Ab)]
def AqZ:Ae:=[]
def AhJ:Ae:=[(6,.d .bool)]
def AzO:Df:=[(2,AqZ),(1,AhJ)]
def A4d(F n:Nat):Ay Aus:=fun x K=>A9 F (K (.exit 0) (enc AqZ (()))) (fun y6=>K .ret (enc AhJ (y6,()))) n x.1 x.2.1 x.2.2.1
def hs6(F:Nat):A7 sg6:=Af [(14,⟨Am5,Aur F F⟩),(8,⟨Aus,A4d F F⟩)]
theorem A3s(F:Nat)(fr:Frm)(hn:(cx6 F).ntmps=fr.n)(n:Nat):Ba sg6 f6 fr [1,1,1,1,1,1,1,0,1,0,0,1,0,0,1,1,1,0,1,0,0] Am5 (Aur F n) :=
 Bc (hs6 F) (Af []) Auq rfl (cs6 F) hn (m:=fun n=>Aur F n) (fun _ _=>rfl) (fun n x K=>by kernel_rfl) (An (by kernel_rfl)) n
theorem A7q(F:Nat)(fr:Frm)(hn:(cx6 F).ntmps=fr.n)(n:Nat):Ba sg6 f6 fr [1,1,1,1,1,1,1,0,1,0,0] Aus (A4d F n) :=
 Bc (hs6 F) (Af []) AzO rfl (cs6 F) hn (m:=fun n=>A4d F n) (fun _ _=>rfl) (fun n x K=>by kernel_rfl) (A3 (l:=[((.loop (sub (Ap f6) [1,1,1,1,1,1,1,0,1,0,0,1,0,0,1,1,1,0,1,0,0])),⟨Am5,Aur F F⟩)]) (by kernel_rfl) (Aj (A3s F fr hn F) Av)) n
theorem s6(F:Nat):CSound prog 6 (A7p F) :=
 Aq (fn:=f6) (hs6 F) (Af []) rfl func6 (by kernel_rfl) (cs6 F) (fun fr hn=>(A3 (l:=[((.loop (sub (Ap f6) [1,1,1,1,1,1,1,0,1,0,0])),⟨Aus,A4d F F⟩)]) (by kernel_rfl) (Aj (A7q F fr hn F) Av))) (fun x=>by kernel_rfl)
end Go.Proofs.YtdhfajmcakneiaaGreat
