/- That the code computes the models. Written by program. -/
import Derived.Test.YtdhfajmcakneiaaGreatRefdec
set_option linter.unusedVariables false
set_option linter.unusedSimpArgs false
namespace Go.Proofs.YtdhfajmcakneiaaGreat
open Go.Eng Tryz
def Ad7(F:Nat):Contract:=Ax Aqq fun x=>D3 F x.1
theorem A4D(F:Nat):CSound prog 166 (Ad7 F):=AjZ F (by kernel_rfl) fun x w h0 h1=>Zt x w h0 h1
def Ahp(F:Nat):Contract:=Ax Tt fun x=>F0 F x.1 x.2.1 x.2.2.1
theorem A8h(F:Nat):CExt prog 161 (Ahp F):=Aqr F func161 (by kernel_rfl) (by kernel_rfl) (by kernel_rfl) (by kernel_rfl)
def Alg(F:Nat):Contract:=Ax Tt fun x=>Ju F x.1 x.2.1 x.2.2.1
theorem A9C(F:Nat):CExt prog 186 (Alg F):=Aqs F func186 (by kernel_rfl) (by kernel_rfl) (by kernel_rfl) (by kernel_rfl)
def A01(F:Nat):Contract:=Ax (AcX Ct 5) fun x=>Ib F x.1 x.2.1
def Bdu:Cx:=Aq [] [] (0,0)
theorem s73(F:Nat):CSound prog 73 (A01 F):=AoZ (cx:=Bdu) (Bz _ rfl) (by kernel_rfl:Bdu.row? 5=some ⟨Ct,0,1⟩) rfl (by kernel_rfl) (by decide) (fun base l c n w=>T4 base l c n w) (fun i0 z hi hz hs base l c n cs w=>T5 i0 z hi hz hs base l c n cs w)
def sg7:Sig:=⟨[.ro],[(0,.d Bv)],false,some (0,0),[Cp]⟩
def Bdv(F:Nat):Contract:=Ax sg7 fun x=>Aeu F x.1
def cx7(F:Nat):Cx:=Aq [] [] (0,6)
theorem cs7(F:Nat):Ah (cx7 F):=Ac Ad
theorem s7(F:Nat):CSound prog 7 (Bdv F) :=
 Ao (fn:=f7) (Af []) (Af []) rfl func7 (by kernel_rfl) (cs7 F) (fun fr hn=>(Al (by kernel_rfl))) (fun x=>by kernel_rfl)
def Bf3:Sig:=⟨[.ro,.ro],[(0,.d Ab),(1,.d Ab)],true,none,[Ab]⟩
def A02(F:Nat):Contract:=Ax Bf3 fun x=>Sr F x.1 x.2.1
def Bf4(F:Nat):Cx:=Aq [] [] (0,16)
theorem Bf5(F:Nat):Ah (Bf4 F):=Ac Ad
theorem s16(F:Nat):CSound prog 16 (A02 F) :=
 Ao (fn:=f16) (Af []) (Af []) rfl func16 (by kernel_rfl) (Bf5 F) (fun fr hn=>(Al (by kernel_rfl))) (fun x=>by kernel_rfl)
def Bf6:Sig:=⟨[.bor,.ro],[(0,.box 0 Cp),(1,.d Ab)],false,none,[Cp,Ab]⟩
def Aba(F:Nat):Contract:=Ax Bf6 fun x=>Ap F x.1 x.2.1
def Bf7(F:Nat):Cx:=Aq [(16,A02 F)] [] (1,35)
theorem Bf8(F:Nat):Ah (Bf7 F):=Ac (Aa (s16 F) Ad)
theorem s19(F:Nat):CSound prog 19 (Aba F) :=
 Ao (fn:=f19) (Af []) (Af []) rfl func19 (by kernel_rfl) (Bf8 F) (fun fr hn=>(Al (by kernel_rfl))) (fun x=>by kernel_rfl)
def A9D:Sig:=⟨[.bor],[(0,.box 0 Cp)],false,none,[Cp,Ag]⟩
def AuT(F:Nat):Contract:=Ax A9D fun x=>Gw F x.1
def Bdw(F:Nat):Cx:=Aq [(19,Aba F)] [] (1,16)
theorem Bdx(F:Nat):Ah (Bdw F):=Ac (Aa (s19 F) Ad)
def Alh:Ae:=[(0,.box 0 Cp),(3,.d Ag),(4,.d Ab)]
def Ali:Ae:=[(0,.box 0 Cp),(3,.d Ag)]
def AuU:Ck:=[(2,Ali)]
def AuV(F n:Nat):Au Alh:=fun x K=>Fo F (fun y0 y3=>K (.exit 0) (enc Ali (y0,y3,()))) n x.1 x.2.1 x.2.2.1
def Bdy(F:Nat):A2 A9D:=Af [(3,⟨Alh,AuV F F⟩)]
theorem A4E(F:Nat)(fr:Frm)(hn:(Bdw F).ntmps=fr.n)(n:Nat):A4 A9D f59 fr [1,1,0,1,0,0] Alh (AuV F n) :=
 A5 (Bdy F) (Af []) AuU rfl (Bdx F) hn (m:=fun n=>AuV F n) (fun _ _=>rfl) (fun n x K=>by kernel_rfl) (Al (by kernel_rfl)) n
theorem s59(F:Nat):CSound prog 59 (AuT F) :=
 Ao (fn:=f59) (Bdy F) (Af []) rfl func59 (by kernel_rfl) (Bdx F) (fun fr hn=>(A0 (l:=[((.loop (sub (Ak f59) [1,1,0,1,0,0])),⟨Alh,AuV F F⟩)]) (by kernel_rfl) (Ai (A4E F fr hn F) Ar))) (fun x=>by kernel_rfl)
def Bf9:Sig:=⟨[.bor],[(0,.box 0 Cp)],false,none,[Cp,Ab]⟩
def AuW(F:Nat):Contract:=Ax Bf9 fun x=>Gb F x.1
def Bfa(F:Nat):Cx:=Aq [(19,Aba F),(59,AuT F)] [] (1,32)
theorem Bfb(F:Nat):Ah (Bfa F):=Ac (Aa (s19 F) (Aa (s59 F) Ad))
theorem s29(F:Nat):CSound prog 29 (AuW F) :=
 Ao (fn:=f29) (Af []) (Af []) rfl func29 (by kernel_rfl) (Bfb F) (fun fr hn=>(Al (by kernel_rfl))) (fun x=>by kernel_rfl)
def Bfc:Sig:=⟨[.bor,.ro],[(0,.box 0 Cp),(1,.d Ab)],false,none,[Cp,.bool]⟩
def A03(F:Nat):Contract:=Ax Bfc fun x=>Kf F x.1 x.2.1
def Bfd(F:Nat):Cx:=Aq [(19,Aba F)] [] (1,11)
theorem Bfe(F:Nat):Ah (Bfd F):=Ac (Aa (s19 F) Ad)
theorem s66(F:Nat):CSound prog 66 (A03 F) :=
 Ao (fn:=f66) (Af []) (Af []) rfl func66 (by kernel_rfl) (Bfe F) (fun fr hn=>(Al (by kernel_rfl))) (fun x=>by kernel_rfl)
def AqN:Sig:=⟨[.bor,.ro],[(0,.box 0 Cp),(1,.d Ab)],false,some (0,2),[Cp,Bv]⟩
def AxO(F:Nat):Contract:=Ax AqN fun x=>Lk F x.1 x.2.1
def A04(F:Nat):Cx:=Aq [(19,Aba F),(29,AuW F),(59,AuT F),(66,A03 F)] [4,5] (1,80)
theorem A05(F:Nat):Ah (A04 F):=Ac (Aa (s19 F) (Aa (s29 F) (Aa (s59 F) (Aa (s66 F) Ad))))
def Aab:Ae:=[(0,.box 0 Cp),(5,.own 5 Ab 2),(6,.d Ab),(7,.d Ab),(8,.d Ag),(9,.d Ab),(10,.d Ag)]
def Ad8:Ae:=[(0,.box 0 Cp),(5,.own 5 Ab 2),(6,.d Ab),(7,.d Ab),(8,.d Ag),(9,.d Ab)]
def Zd:Ae:=[(0,.box 0 Cp),(4,.own 4 Ab 2)]
def Ap8:Ck:=[(0,Ad8),(1,Zd)]
def Akc(F:Nat):Au Aab:=fun x K=>B1 F (fun y0 y5 y6 y7 y8 y9=>K .normal (enc Ad8 (y0,y5,y6,y7,y8,y9,()))) (fun y0 y4=>K .ret (enc Zd (y0,y4,()))) x.1 x.2.1 x.2.2.1 x.2.2.2.1 x.2.2.2.2.1 x.2.2.2.2.2.1 x.2.2.2.2.2.2.1
def Aev:Ae:=[(0,.box 0 Cp),(5,.own 5 Ab 2),(6,.d Ab),(7,.d Ab),(8,.d Ag),(9,.d Ab)]
def Ahq:Ae:=[(0,.box 0 Cp),(5,.own 5 Ab 2)]
def Abb:Ae:=[(0,.box 0 Cp),(4,.own 4 Ab 2)]
def AqO:Ck:=[(2,Ahq),(1,Abb)]
def Alj(F n:Nat):Au Aev:=fun x K=>A6 F (fun y0 y5=>K (.exit 0) (enc Ahq (y0,y5,()))) (fun y0 y4=>K .ret (enc Abb (y0,y4,()))) n x.1 x.2.1 x.2.2.1 x.2.2.2.1 x.2.2.2.2.1 x.2.2.2.2.2.1
def A06(F:Nat):A2 AqN:=Af [(6,⟨Aev,Alj F F⟩)]
def A07(F:Nat):A2 AqN:=Af [(20,⟨Aab,Akc F⟩)]
theorem AuX(F:Nat)(fr:Frm)(hn:(A04 F).ntmps=fr.n):Dz AqN f108 fr [1,1,1,1,1,0,1,0,0,1,0,0,1,1,1] Aab (Akc F) :=
 D0 (A06 F) (A07 F) Ap8 rfl (A05 F) hn (fun x K=>by kernel_rfl) (Al (by kernel_rfl))
theorem A08(F:Nat)(fr:Frm)(hn:(A04 F).ntmps=fr.n)(n:Nat):A4 AqN f108 fr [1,1,1,1,1,0,1,0,0] Aev (Alj F n) :=
 A5 (A06 F) (A07 F) AqO rfl (A05 F) hn (m:=fun n=>Alj F n) (fun _ _=>rfl) (fun n x K=>by kernel_rfl) (A0 (l:=[((sub (Ak f108) [1,1,1,1,1,0,1,0,0,1,0,0,1,1,1]),⟨Aab,Akc F⟩)]) (by kernel_rfl) (Ai (AuX F fr hn) Ar)) n
theorem Bff(F:Nat):CSound prog 108 (AxO F) :=
 Ao (fn:=f108) (A06 F) (A07 F) rfl func108 (by kernel_rfl) (A05 F) (fun fr hn=>(A0 (l:=[((.loop (sub (Ak f108) [1,1,1,1,1,0,1,0,0])),⟨Aev,Alj F F⟩)]) (by kernel_rfl) (Ai (A08 F fr hn F) Ar))) (fun x=>by kernel_rfl)
def A9E:Sig:=⟨[.bor,.ro],[(0,.box 0 Cp),(1,.d Ab)],false,some (0,96),[Cp,(.slice Fe)]⟩
def A4F(F:Nat):Contract:=Ax A9E fun x=>Jw F x.1 x.2.1
def Bdz(F:Nat):Cx:=Aq [(108,AxO F),(19,Aba F),(29,AuW F),(66,A03 F)] [4,6] (1,91)
theorem BdA(F:Nat):Ah (Bdz F):=Ac (Aa (Bff F) (Aa (s19 F) (Aa (s29 F) (Aa (s66 F) Ad))))
def Alk:Ae:=[(0,.box 0 Cp),(5,.d Bv),(6,.own 6 Fe 96),(7,.d Ab),(8,.d Ab),(9,.d Ab),(10,.d Ab)]
def Alm:Ae:=[(0,.box 0 Cp),(6,.own 6 Fe 96)]
def AuY:Ck:=[(2,Alm)]
def AuZ(F n:Nat):Au Alk:=fun x K=>Ay F (fun y0 y6=>K (.exit 0) (enc Alm (y0,y6,()))) n x.1 x.2.1 x.2.2.1 x.2.2.2.1 x.2.2.2.2.1 x.2.2.2.2.2.1 x.2.2.2.2.2.2.1
def BdB(F:Nat):A2 A9E:=Af [(6,⟨Alk,AuZ F F⟩)]
theorem A4G(F:Nat)(fr:Frm)(hn:(Bdz F).ntmps=fr.n)(n:Nat):A4 A9E f54 fr [1,1,1,1,1,0,1,0,0] Alk (AuZ F n) :=
 A5 (BdB F) (Af []) AuY rfl (BdA F) hn (m:=fun n=>AuZ F n) (fun _ _=>rfl) (fun n x K=>by kernel_rfl) (Al (by kernel_rfl)) n
theorem s54(F:Nat):CSound prog 54 (A4F F) :=
 Ao (fn:=f54) (BdB F) (Af []) rfl func54 (by kernel_rfl) (BdA F) (fun fr hn=>(A0 (l:=[((.loop (sub (Ak f54) [1,1,1,1,1,0,1,0,0])),⟨Alk,AuZ F F⟩)]) (by kernel_rfl) (Ai (A4G F fr hn F) Ar))) (fun x=>by kernel_rfl)
def Bfg:Sig:=⟨[.bor,.ro],[(0,.box 0 Cp),(1,.d Ab)],false,some (0,96),[Cp,(.slice Fe)]⟩
def A4H(F:Nat):Contract:=Ax Bfg fun x=>Nt F x.1 x.2.1
def Bfh(F:Nat):Cx:=Aq [(54,A4F F),(29,AuW F)] [4,8,17] (1,19)
theorem Bfi(F:Nat):Ah (Bfh F):=Ac (Aa (s54 F) (Aa (s29 F) Ad))
theorem s23(F:Nat):CSound prog 23 (A4H F) :=
 Ao (fn:=f23) (Af []) (Af []) rfl func23 (by kernel_rfl) (Bfi F) (fun fr hn=>(Al (by kernel_rfl))) (fun x=>by kernel_rfl)
def Bfj:Sig:=⟨[.bor],[(0,.box 0 Cp)],false,none,[Cp,Ab]⟩
def A4I(F:Nat):Contract:=Ax Bfj fun x=>Hx F x.1
def Bfk(F:Nat):Cx:=Aq [(19,Aba F),(59,AuT F)] [] (1,24)
theorem Bfl(F:Nat):Ah (Bfk F):=Ac (Aa (s19 F) (Aa (s59 F) Ad))
theorem s25(F:Nat):CSound prog 25 (A4I F) :=
 Ao (fn:=f25) (Af []) (Af []) rfl func25 (by kernel_rfl) (Bfl F) (fun fr hn=>(Al (by kernel_rfl))) (fun x=>by kernel_rfl)
def A9F:Sig:=⟨[.ro],[(0,.d Ab)],true,none,[.bool]⟩
def Aln(F:Nat):Contract:=Ax A9F fun x=>He F x.1
def A9G(F:Nat):Cx:=Aq [] [] (0,9)
theorem A9H(F:Nat):Ah (A9G F):=Ac Ad
theorem A9I(F:Nat):CSound prog 109 (Aln F) :=
 Ao (fn:=f109) (Af []) (Af []) rfl func109 (by kernel_rfl) (A9H F) (fun fr hn=>(Al (by kernel_rfl))) (fun x=>by kernel_rfl)
def Bfm:Sig:=⟨[.ro],[(0,.d Ab)],true,none,[(.pair Ab (.pair Ab (.pair Ab (.pair Fe (.pair Ab (.pair Ab (.pair Bg .unit))))))),Ab]⟩
def A4J(F:Nat):Contract:=Ax Bfm fun x=>Ss F x.1
def Bfn(F:Nat):Cx:=Aq [(109,Aln F)] [] (0,10)
theorem Bfo(F:Nat):Ah (Bfn F):=Ac (Aa (A9I F) Ad)
theorem s55(F:Nat):CSound prog 55 (A4J F) :=
 Ao (fn:=f55) (Af []) (Af []) rfl func55 (by kernel_rfl) (Bfo F) (fun fr hn=>(Al (by kernel_rfl))) (fun x=>by kernel_rfl)
def A09:Sig:=⟨[.ro],[(0,.d (.slice Fe))],false,some (0,2),[Bv]⟩
def AxP(F:Nat):Contract:=Ax A09 fun x=>Su F x.1
def A4K(F:Nat):Cx:=Aq [] [2,3] (0,20)
theorem A4L(F:Nat):Ah (A4K F):=Ac Ad
def Aew:Ae:=[(0,.d (.slice Fe)),(3,.own 3 Ab 2),(4,.d Ab)]
def Ahr:Ae:=[(3,.own 3 Ab 2)]
def AqP:Ck:=[(2,Ahr)]
def Alo(F n:Nat):Au Aew:=fun x K=>Ik F (fun y3=>K (.exit 0) (enc Ahr (y3,()))) n x.1 x.2.1 x.2.2.1
def A4N(F:Nat):A2 A09:=Af [(3,⟨Aew,Alo F F⟩)]
theorem A0a(F:Nat)(fr:Frm)(hn:(A4K F).ntmps=fr.n)(n:Nat):A4 A09 f111 fr [1,1,0,1,0,0] Aew (Alo F n) :=
 A5 (A4N F) (Af []) AqP rfl (A4L F) hn (m:=fun n=>Alo F n) (fun _ _=>rfl) (fun n x K=>by kernel_rfl) (Al (by kernel_rfl)) n
theorem Bfp(F:Nat):CSound prog 111 (AxP F) :=
 Ao (fn:=f111) (A4N F) (Af []) rfl func111 (by kernel_rfl) (A4L F) (fun fr hn=>(A0 (l:=[((.loop (sub (Ak f111) [1,1,0,1,0,0])),⟨Aew,Alo F F⟩)]) (by kernel_rfl) (Ai (A0a F fr hn F) Ar))) (fun x=>by kernel_rfl)
def A0b:Sig:=⟨[.ro],[(0,.d Bv)],true,none,[.bool]⟩
def AxQ(F:Nat):Contract:=Ax A0b fun x=>Ko F x.1
def A4O(F:Nat):Cx:=Aq [] [] (0,20)
theorem A4P(F:Nat):Ah (A4O F):=Ac Ad
def Aex:Ae:=[(0,.d Bv),(3,.d Ab)]
def Ahs:Ae:=[]
def Abc:Ae:=[(2,.d .bool)]
def AqQ:Ck:=[(2,Ahs),(1,Abc)]
def Alp(F n:Nat):Au Aex:=fun x K=>Dc F (K (.exit 0) (enc Ahs (()))) (fun y2=>K .ret (enc Abc (y2,()))) n x.1 x.2.1
def A4Q(F:Nat):A2 A0b:=Af [(2,⟨Aex,Alp F F⟩)]
theorem A0c(F:Nat)(fr:Frm)(hn:(A4O F).ntmps=fr.n)(n:Nat):A4 A0b f110 fr [1,0,1,0,0] Aex (Alp F n) :=
 A5 (A4Q F) (Af []) AqQ rfl (A4P F) hn (m:=fun n=>Alp F n) (fun _ _=>rfl) (fun n x K=>by kernel_rfl) (Al (by kernel_rfl)) n
theorem Bfq(F:Nat):CSound prog 110 (AxQ F) :=
 Ao (fn:=f110) (A4Q F) (Af []) rfl func110 (by kernel_rfl) (A4P F) (fun fr hn=>(A0 (l:=[((.loop (sub (Ak f110) [1,0,1,0,0])),⟨Aex,Alp F F⟩)]) (by kernel_rfl) (Ai (A0c F fr hn F) Ar))) (fun x=>by kernel_rfl)
def Bfr:Sig:=⟨[.ro],[(0,.d (.slice Fe))],true,none,[Ab]⟩
def A4S(F:Nat):Contract:=Ax Bfr fun x=>Sw F x.1
def Bfs(F:Nat):Cx:=Aq [(111,AxP F),(110,AxQ F)] [] (0,7)
theorem Bft(F:Nat):Ah (Bfs F):=Ac (Aa (Bfp F) (Aa (Bfq F) Ad))
theorem s56(F:Nat):CSound prog 56 (A4S F) :=
 Ao (fn:=f56) (Af []) (Af []) rfl func56 (by kernel_rfl) (Bft F) (fun fr hn=>(Al (by kernel_rfl))) (fun x=>by kernel_rfl)
def A9J:Sig:=⟨[.ro],[(0,.d Ab)],true,none,[Ab]⟩
def AqS(F:Nat):Contract:=Ax A9J fun x=>Ux F x.1
def A9K(F:Nat):Cx:=Aq [] [] (0,5)
theorem A9L(F:Nat):Ah (A9K F):=Ac Ad
theorem BdC(F:Nat):CSound prog 157 (AqS F) :=
 Ao (fn:=f157) (Af []) (Af []) rfl func157 (by kernel_rfl) (A9L F) (fun fr hn=>(Al (by kernel_rfl))) (fun x=>by kernel_rfl)
def A0d:Sig:=⟨[.ro,.ro],[(0,.d Ab),(1,.d Ab)],true,none,[Ab,.bool]⟩
def AxS(F:Nat):Contract:=Ax A0d fun x=>Qt F x.1 x.2.1
def A4T(F:Nat):Cx:=Aq [] [] (0,34)
theorem A4U(F:Nat):Ah (A4T F):=Ac Ad
def Aey:Ae:=[(0,.d Ab),(1,.d Ab)]
def Abd:Ae:=[(4,.d Ab),(5,.d .bool)]
def AqT:Ck:=[(1,Abd)]
def AqU(F:Nat):Au Aey:=fun x K=>Hf F (fun y4 y5=>K .ret (enc Abd (y4,y5,()))) x.1 x.2.1
def A4V(F:Nat):A2 A0d:=Af [(3,⟨Aey,AqU F⟩)]
theorem A0e(F:Nat)(fr:Frm)(hn:(A4T F).ntmps=fr.n):Dz A0d f181 fr [1,1] Aey (AqU F) :=
 D0 (Af []) (A4V F) AqT rfl (A4U F) hn (fun x K=>by kernel_rfl) (Al (by kernel_rfl))
theorem Bfu(F:Nat):CSound prog 181 (AxS F) :=
 Ao (fn:=f181) (Af []) (A4V F) rfl func181 (by kernel_rfl) (A4U F) (fun fr hn=>(A0 (l:=[((sub (Ak f181) [1,1]),⟨Aey,AqU F⟩)]) (by kernel_rfl) (Ai (A0e F fr hn) Ar))) (fun x=>by kernel_rfl)
def A9N:Sig:=⟨[.ro,.ro],[(0,.d Ab),(1,.d Ab)],true,none,[Ab]⟩
def AqV(F:Nat):Contract:=Ax A9N fun x=>Q3 F x.1 x.2.1
def A9O(F:Nat):Cx:=Aq [(157,AqS F),(181,AxS F)] [] (0,15)
theorem A9P(F:Nat):Ah (A9O F):=Ac (Aa (BdC F) (Aa (Bfu F) Ad))
theorem BdD(F:Nat):CSound prog 154 (AqV F) :=
 Ao (fn:=f154) (Af []) (Af []) rfl func154 (by kernel_rfl) (A9P F) (fun fr hn=>(Al (by kernel_rfl))) (fun x=>by kernel_rfl)
def A9Q:Sig:=⟨[],[],true,none,[Bg]⟩
def Alq(F:Nat):Contract:=Ax A9Q fun x=>Kv F 
def A9S(F:Nat):Cx:=Aq [] [] (0,2)
theorem A9T(F:Nat):Ah (A9S F):=Ac Ad
theorem A9U(F:Nat):CSound prog 117 (Alq F) :=
 Ao (fn:=f117) (Af []) (Af []) rfl func117 (by kernel_rfl) (A9T F) (fun fr hn=>(Al (by kernel_rfl))) (fun x=>by kernel_rfl)
def A0f:Sig:=⟨[.ro],[(0,.d Aw)],false,none,[Aw]⟩
def Ze(F:Nat):Contract:=Ax A0f fun x=>C7 F x.1
def A4W(F:Nat):Cx:=Aq [] [2,19] (0,21)
theorem A4X(F:Nat):Ah (A4W F):=Ac Ad
def Aez:Ae:=[(0,.d Aw)]
def Aht:Ae:=[(0,.d Aw)]
def AqW:Ck:=[(2,Aht)]
def Alr(F n:Nat):Au Aez:=fun x K=>Gc F (fun y0=>K (.exit 0) (enc Aht (y0,()))) n x.1
def A4Y(F:Nat):A2 A0f:=Af [(1,⟨Aez,Alr F F⟩)]
theorem A0g(F:Nat)(fr:Frm)(hn:(A4W F).ntmps=fr.n)(n:Nat):A4 A0f f159 fr [1,0,0,0] Aez (Alr F n) :=
 A5 (A4Y F) (Af []) AqW rfl (A4X F) hn (m:=fun n=>Alr F n) (fun _ _=>rfl) (fun n x K=>by kernel_rfl) (Al (by kernel_rfl)) n
theorem A0h(F:Nat):CSound prog 159 (Ze F) :=
 Ao (fn:=f159) (A4Y F) (Af []) rfl func159 (by kernel_rfl) (A4X F) (fun fr hn=>(A0 (l:=[((.loop (sub (Ak f159) [1,0,0,0])),⟨Aez,Alr F F⟩)]) (by kernel_rfl) (Ai (A0g F fr hn F) Ar))) (fun x=>by kernel_rfl)
def Als:Sig:=⟨[.con 49],[(0,.own 0 Ag 49)],false,some (0,49),[Aw]⟩
def Akd(F:Nat):Contract:=Ax Als fun x=>Kw F x.1
def AxT(F:Nat):Cx:=Aq [] [2,19] (0,21)
theorem AxU(F:Nat):Ah (AxT F):=Ac Ad
def Aac:Ae:=[(0,.own 0 Ag 49)]
def Ad9:Ae:=[(0,.own 0 Ag 49)]
def Ap9:Ck:=[(2,Ad9)]
def AeA(F n:Nat):Au Aac:=fun x K=>Kg F (fun y0=>K (.exit 0) (enc Ad9 (y0,()))) n x.1
def AxV(F:Nat):A2 Als:=Af [(1,⟨Aac,AeA F F⟩)]
def AxW(F:Nat):A2 Als:=Af []
theorem Av0(F:Nat)(fr:Frm)(hn:(AxT F).ntmps=fr.n)(n:Nat):A4 Als f159 fr [1,0,0,0] Aac (AeA F n) :=
 A5 (AxV F) (AxW F) Ap9 rfl (AxU F) hn (m:=fun n=>AeA F n) (fun _ _=>rfl) (fun n x K=>by kernel_rfl) (Al (by kernel_rfl)) n
theorem A4Z(F:Nat):CSound prog 159 (Akd F) :=
 Ao (fn:=f159) (AxV F) (AxW F) rfl func159 (by kernel_rfl) (AxU F) (fun fr hn=>(A0 (l:=[((.loop (sub (Ak f159) [1,0,0,0])),⟨Aac,AeA F F⟩)]) (by kernel_rfl) (Ai (Av0 F fr hn F) Ar))) (fun x=>by kernel_rfl)
def A9V:Sig:=⟨[.ro],[(0,.d tyV)],false,none,[Aw]⟩
def Xc(F:Nat):Contract:=Ax A9V fun x=>Ha F x.1
def A9W(F:Nat):Cx:=Aq [(159,Ze F)] [2,3] (0,8)
theorem A9X(F:Nat):Ah (A9W F):=Ac (Aa (A0h F) Ad)
theorem AxX(F:Nat):CSound prog 122 (Xc F) :=
 Ao (fn:=f122) (Af []) (Af []) rfl func122 (by kernel_rfl) (A9X F) (fun fr hn=>(Al (by kernel_rfl))) (fun x=>by kernel_rfl)
def Bfv:Sig:=⟨[.ro],[(0,.d tyV)],true,none,[.bool]⟩
def AqX(F:Nat):Contract:=Ax Bfv fun x=>Hy F x.1
def Bfw(F:Nat):Cx:=Aq [(122,Xc F)] [] (0,12)
theorem Bfx(F:Nat):Ah (Bfw F):=Ac (Aa (AxX F) Ad)
theorem s89(F:Nat):CSound prog 89 (AqX F) :=
 Ao (fn:=f89) (Af []) (Af []) rfl func89 (by kernel_rfl) (Bfx F) (fun fr hn=>(Al (by kernel_rfl))) (fun x=>by kernel_rfl)
def Bfy:Sig:=⟨[.ro],[(0,.d tyV)],true,none,[Ab]⟩
def AeB(F:Nat):Contract:=Ax Bfy fun x=>Df F x.1
def Bfz(F:Nat):Cx:=Aq [(122,Xc F)] [] (0,9)
theorem BfA(F:Nat):Ah (Bfz F):=Ac (Aa (AxX F) Ad)
theorem s90(F:Nat):CSound prog 90 (AeB F) :=
 Ao (fn:=f90) (Af []) (Af []) rfl func90 (by kernel_rfl) (BfA F) (fun fr hn=>(Al (by kernel_rfl))) (fun x=>by kernel_rfl)
def BfB:Sig:=⟨[.ro],[(0,.d tyV)],true,none,[.bool]⟩
def A50(F:Nat):Contract:=Ax BfB fun x=>Pq F x.1
def BfC(F:Nat):Cx:=Aq [] [] (0,19)
theorem BfD(F:Nat):Ah (BfC F):=Ac Ad
theorem s91(F:Nat):CSound prog 91 (A50 F) :=
 Ao (fn:=f91) (Af []) (Af []) rfl func91 (by kernel_rfl) (BfD F) (fun fr hn=>(Al (by kernel_rfl))) (fun x=>by kernel_rfl)
def BfE:Sig:=⟨[.ro],[(0,.d tyV)],true,none,[tyV]⟩
def A0i(F:Nat):Contract:=Ax BfE fun x=>N7 F x.1
def BfF(F:Nat):Cx:=Aq [] [] (0,5)
theorem BfG(F:Nat):Ah (BfF F):=Ac Ad
theorem s93(F:Nat):CSound prog 93 (A0i F) :=
 Ao (fn:=f93) (Af []) (Af []) rfl func93 (by kernel_rfl) (BfG F) (fun fr hn=>(Al (by kernel_rfl))) (fun x=>by kernel_rfl)
def A9Y:Sig:=⟨[.ro],[(0,.d tyV)],true,none,[tyV]⟩
def Ahu(F:Nat):Contract:=Ax A9Y fun x=>Gx F x.1
def A9Z(F:Nat):Cx:=Aq [(89,AqX F)] [] (0,8)
theorem Ba0(F:Nat):Ah (A9Z F):=Ac (Aa (s89 F) Ad)
theorem A8i(F:Nat):CSound prog 119 (Ahu F) :=
 Ao (fn:=f119) (Af []) (Af []) rfl func119 (by kernel_rfl) (Ba0 F) (fun fr hn=>(Al (by kernel_rfl))) (fun x=>by kernel_rfl)
def Ba1:Sig:=⟨[.ro],[(0,.d tyV)],true,none,[Ag,.bool]⟩
def AqY(F:Nat):Contract:=Ax Ba1 fun x=>Fh F x.1
def Ba2(F:Nat):Cx:=Aq [(119,Ahu F),(122,Xc F)] [] (0,19)
theorem Ba3(F:Nat):Ah (Ba2 F):=Ac (Aa (A8i F) (Aa (AxX F) Ad))
theorem BdE(F:Nat):CSound prog 131 (AqY F) :=
 Ao (fn:=f131) (Af []) (Af []) rfl func131 (by kernel_rfl) (Ba3 F) (fun fr hn=>(Al (by kernel_rfl))) (fun x=>by kernel_rfl)
def BfH:Sig:=⟨[.ro],[(0,.d Ag)],true,none,[tyV]⟩
def Av1(F:Nat):Contract:=Ax BfH fun x=>Ey F x.1
def BfI(F:Nat):Cx:=Aq [] [] (0,6)
theorem BfJ(F:Nat):Ah (BfI F):=Ac Ad
theorem s67(F:Nat):CSound prog 67 (Av1 F) :=
 Ao (fn:=f67) (Af []) (Af []) rfl func67 (by kernel_rfl) (BfJ F) (fun fr hn=>(Al (by kernel_rfl))) (fun x=>by kernel_rfl)
def Ba4:Sig:=⟨[.ro],[(0,.d Ag)],true,none,[Ab]⟩
def AxY(F:Nat):Contract:=Ax Ba4 fun x=>Hz F x.1
def Ba5(F:Nat):Cx:=Aq [(166,Ad7 F)] [] (0,6)
theorem Ba6(F:Nat):Ah (Ba5 F):=Ac (Aa (A4D F) Ad)
theorem BfK(F:Nat):CSound prog 192 (AxY F) :=
 Ao (fn:=f192) (Af []) (Af []) rfl func192 (by kernel_rfl) (Ba6 F) (fun fr hn=>(Al (by kernel_rfl))) (fun x=>by kernel_rfl)
def Av2:Sig:=⟨[.ro,.ro,.ro],[(0,.d Ag),(1,.d Ag),(2,.d Ag)],true,none,[Ag,Ag]⟩
def AxZ(F:Nat):Contract:=Ax Av2 fun x=>Q4 F x.1 x.2.1 x.2.2.1
def A0j(F:Nat):Cx:=Aq [(192,AxY F)] [] (0,135)
theorem A0k(F:Nat):Ah (A0j F):=Ac (Aa (BfK F) Ad)
def Aad:Ae:=[(2,.d Ag),(8,.d Ag),(9,.d Ag),(10,.d Ag),(11,.d Ag),(13,.d Ag),(14,.d Ag),(15,.d Ag),(16,.d Ag)]
def Ada:Ae:=[(2,.d Ag),(8,.d Ag),(9,.d Ag),(10,.d Ag),(11,.d Ag),(13,.d Ag),(14,.d Ag),(15,.d Ag)]
def Apa:Ck:=[(2,Ada)]
def AeC(F n:Nat):Au Aad:=fun x K=>Gy F (fun y2 y8 y9 y10 y11 y13 y14 y15=>K (.exit 0) (enc Ada (y2,y8,y9,y10,y11,y13,y14,y15,()))) n x.1 x.2.1 x.2.2.1 x.2.2.2.1 x.2.2.2.2.1 x.2.2.2.2.2.1 x.2.2.2.2.2.2.1 x.2.2.2.2.2.2.2.1 x.2.2.2.2.2.2.2.2.1
def Aae:Ae:=[(2,.d Ag),(8,.d Ag),(9,.d Ag),(10,.d Ag),(14,.d Ag),(15,.d Ag),(16,.d Ag),(17,.d Ag),(18,.d Ag)]
def Adb:Ae:=[(2,.d Ag),(8,.d Ag),(14,.d Ag),(15,.d Ag),(17,.d Ag),(18,.d Ag)]
def Apb:Ck:=[(4,Adb)]
def AeD(F n:Nat):Au Aae:=fun x K=>Gz F (fun y2 y8 y14 y15 y17 y18=>K (.exit 2) (enc Adb (y2,y8,y14,y15,y17,y18,()))) n x.1 x.2.1 x.2.2.1 x.2.2.2.1 x.2.2.2.2.1 x.2.2.2.2.2.1 x.2.2.2.2.2.2.1 x.2.2.2.2.2.2.2.1 x.2.2.2.2.2.2.2.2.1
def A0l(F:Nat):A2 Av2:=Af [(17,⟨Aad,AeC F F⟩),(24,⟨Aae,AeD F F⟩)]
theorem Av3(F:Nat)(fr:Frm)(hn:(A0j F).ntmps=fr.n)(n:Nat):A4 Av2 f182 fr [1,1,1,1,1,1,1,1,1,1,1,1,1,1,0,0,0] Aad (AeC F n) :=
 A5 (A0l F) (Af []) Apa rfl (A0k F) hn (m:=fun n=>AeC F n) (fun _ _=>rfl) (fun n x K=>by kernel_rfl) (Al (by kernel_rfl)) n
theorem Av4(F:Nat)(fr:Frm)(hn:(A0j F).ntmps=fr.n)(n:Nat):A4 Av2 f182 fr [1,1,1,1,1,1,1,1,1,1,1,1,1,1,1,1,1,1,0,0,0] Aae (AeD F n) :=
 A5 (A0l F) (Af []) Apb rfl (A0k F) hn (m:=fun n=>AeD F n) (fun _ _=>rfl) (fun n x K=>by kernel_rfl) (Al (by kernel_rfl)) n
theorem BfL(F:Nat):CSound prog 182 (AxZ F) :=
 Ao (fn:=f182) (A0l F) (Af []) rfl func182 (by kernel_rfl) (A0k F) (fun fr hn=>(A0 (l:=[((.loop (sub (Ak f182) [1,1,1,1,1,1,1,1,1,1,1,1,1,1,0,0,0])),⟨Aad,AeC F F⟩),((.loop (sub (Ak f182) [1,1,1,1,1,1,1,1,1,1,1,1,1,1,1,1,1,1,0,0,0])),⟨Aae,AeD F F⟩)]) (by kernel_rfl) (Ai (Av3 F fr hn F) (Ai (Av4 F fr hn F) Ar)))) (fun x=>by kernel_rfl)
def Ba7:Sig:=⟨[.ro],[(0,.d Aw)],true,none,[Ab]⟩
def Ay0(F:Nat):Contract:=Ax Ba7 fun x=>Pa F x.1
def Ba8(F:Nat):Cx:=Aq [(166,Ad7 F)] [] (0,18)
theorem Ba9(F:Nat):Ah (Ba8 F):=Ac (Aa (A4D F) Ad)
theorem BfN(F:Nat):CSound prog 183 (Ay0 F) :=
 Ao (fn:=f183) (Af []) (Af []) rfl func183 (by kernel_rfl) (Ba9 F) (fun fr hn=>(Al (by kernel_rfl))) (fun x=>by kernel_rfl)
def A0m:Sig:=⟨[.ro,.ro],[(0,.d Aw),(1,.d Ab)],false,some (0,49),[Aw]⟩
def Ay1(F:Nat):Contract:=Ax A0m fun x=>Aa7 F x.1 x.2.1
def A51(F:Nat):Cx:=Aq [(159,Akd F)] [4,13,60] (0,61)
theorem A52(F:Nat):Ah (A51 F):=Ac (Aa (A4Z F) Ad)
def AeE:Ae:=[(0,.d Aw),(1,.d Ab),(5,.own 5 Ag 49),(6,.d Ab)]
def Ahv:Ae:=[(5,.own 5 Ag 49)]
def AqZ:Ck:=[(2,Ahv)]
def Alt(F n:Nat):Au AeE:=fun x K=>Kx F (fun y5=>K (.exit 0) (enc Ahv (y5,()))) n x.1 x.2.1 x.2.2.1 x.2.2.2.1
def A53(F:Nat):A2 A0m:=Af [(3,⟨AeE,Alt F F⟩)]
theorem A0n(F:Nat)(fr:Frm)(hn:(A51 F).ntmps=fr.n)(n:Nat):A4 A0m f184 fr [1,1,0,1,0,0] AeE (Alt F n) :=
 A5 (A53 F) (Af []) AqZ rfl (A52 F) hn (m:=fun n=>Alt F n) (fun _ _=>rfl) (fun n x K=>by kernel_rfl) (Al (by kernel_rfl)) n
theorem BfO(F:Nat):CSound prog 184 (Ay1 F) :=
 Ao (fn:=f184) (A53 F) (Af []) rfl func184 (by kernel_rfl) (A52 F) (fun fr hn=>(A0 (l:=[((.loop (sub (Ak f184) [1,1,0,1,0,0])),⟨AeE,Alt F F⟩)]) (by kernel_rfl) (Ai (A0n F fr hn F) Ar))) (fun x=>by kernel_rfl)
def A0o:Sig:=⟨[.ro,.ro],[(0,.d Aw),(1,.d Aw)],true,none,[Ab]⟩
def Alu(F:Nat):Contract:=Ax A0o fun x=>Jx F x.1 x.2.1
def A54(F:Nat):Cx:=Aq [] [] (0,41)
theorem A55(F:Nat):Ah (A54 F):=Ac Ad
def AeF:Ae:=[(0,.d Aw),(1,.d Aw),(5,.d Ab)]
def Ahw:Ae:=[]
def Abe:Ae:=[(4,.d Ab)]
def Ar0:Ck:=[(2,Ahw),(1,Abe)]
def Alv(F n:Nat):Au AeF:=fun x K=>F1 F (K (.exit 0) (enc Ahw (()))) (fun y4=>K .ret (enc Abe (y4,()))) n x.1 x.2.1 x.2.2.1
def A56(F:Nat):A2 A0o:=Af [(6,⟨AeF,Alv F F⟩)]
theorem A0p(F:Nat)(fr:Frm)(hn:(A54 F).ntmps=fr.n)(n:Nat):A4 A0o f141 fr [1,1,0,1,0,0] AeF (Alv F n) :=
 A5 (A56 F) (Af []) Ar0 rfl (A55 F) hn (m:=fun n=>Alv F n) (fun _ _=>rfl) (fun n x K=>by kernel_rfl) (Al (by kernel_rfl)) n
theorem Baa(F:Nat):CSound prog 141 (Alu F) :=
 Ao (fn:=f141) (A56 F) (Af []) rfl func141 (by kernel_rfl) (A55 F) (fun fr hn=>(A0 (l:=[((.loop (sub (Ak f141) [1,1,0,1,0,0])),⟨AeF,Alv F F⟩)]) (by kernel_rfl) (Ai (A0p F fr hn F) Ar))) (fun x=>by kernel_rfl)
def Ar1:Sig:=⟨[.ro,.ro],[(0,.d Aw),(1,.d Aw)],false,none,[Aw]⟩
def Ar2(F:Nat):Contract:=Ax Ar1 fun x=>N8 F x.1 x.2.1
def A0q(F:Nat):Cx:=Aq [(186,Alg F),(159,Ze F)] [4,9] (0,41)
theorem A0r(F:Nat):Ah (A0q F):=Ac (Gu (A9C F) (Aa (A0h F) Ad))
def AeG:Ae:=[(1,.d Aw),(5,.own 5 Ag 49),(6,.d Ag),(7,.d Ab),(8,.d Ag)]
def Ahx:Ae:=[(1,.d Aw),(5,.own 5 Ag 49),(6,.d Ag),(7,.d Ab)]
def Ar3:Ck:=[(0,Ahx)]
def Ar4(F:Nat):Au AeG:=fun x K=>K7 F (fun y1 y5 y6 y7=>K .normal (enc Ahx (y1,y5,y6,y7,()))) x.1 x.2.1 x.2.2.1 x.2.2.2.1 x.2.2.2.2.1
def AeH:Ae:=[(1,.d Aw),(5,.own 5 Ag 49),(6,.d Ag),(7,.d Ab)]
def Ahy:Ae:=[(5,.own 5 Ag 49)]
def Ar5:Ck:=[(2,Ahy)]
def Alw(F n:Nat):Au AeH:=fun x K=>Dg F (fun y5=>K (.exit 0) (enc Ahy (y5,()))) n x.1 x.2.1 x.2.2.1 x.2.2.2.1
def A0s(F:Nat):A2 Ar1:=Af [(4,⟨AeH,Alw F F⟩)]
def A0t(F:Nat):A2 Ar1:=Af [(9,⟨AeG,Ar4 F⟩)]
theorem A0u(F:Nat)(fr:Frm)(hn:(A0q F).ntmps=fr.n):Dz Ar1 f164 fr [1,1,1,0,1,0,0,1,0,0,1,1] AeG (Ar4 F) :=
 D0 (A0s F) (A0t F) Ar3 rfl (A0r F) hn (fun x K=>by kernel_rfl) (Al (by kernel_rfl))
theorem A0v(F:Nat)(fr:Frm)(hn:(A0q F).ntmps=fr.n)(n:Nat):A4 Ar1 f164 fr [1,1,1,0,1,0,0] AeH (Alw F n) :=
 A5 (A0s F) (A0t F) Ar5 rfl (A0r F) hn (m:=fun n=>Alw F n) (fun _ _=>rfl) (fun n x K=>by kernel_rfl) (A0 (l:=[((sub (Ak f164) [1,1,1,0,1,0,0,1,0,0,1,1]),⟨AeG,Ar4 F⟩)]) (by kernel_rfl) (Ai (A0u F fr hn) Ar)) n
theorem BdF(F:Nat):CSound prog 164 (Ar2 F) :=
 Ao (fn:=f164) (A0s F) (A0t F) rfl func164 (by kernel_rfl) (A0r F) (fun fr hn=>(A0 (l:=[((.loop (sub (Ak f164) [1,1,1,0,1,0,0])),⟨AeH,Alw F F⟩)]) (by kernel_rfl) (Ai (A0v F fr hn F) Ar))) (fun x=>by kernel_rfl)
def Ahz:Sig:=⟨[.ro,.wr 49],[(0,.d Aw),(1,.own 1 Ag 49)],false,none,[Aw,Aw]⟩
def Ar6(F:Nat):Contract:=Ax Ahz fun x=>Uy F x.1 x.2.1
def Ar7(F:Nat):Cx:=Aq [(186,Alg F),(159,Ze F)] [4,9] (2,41)
theorem Ar8(F:Nat):Ah (Ar7 F):=Ac (Gu (A9C F) (Aa (A0h F) Ad))
def Aaf:Ae:=[(1,.own 1 Ag 49),(5,.own 5 Ag 49),(6,.d Ag),(7,.d Ab),(8,.d Ag)]
def Adc:Ae:=[(1,.own 1 Ag 49),(5,.own 5 Ag 49),(6,.d Ag),(7,.d Ab)]
def Apc:Ck:=[(0,Adc)]
def Ake(F:Nat):Au Aaf:=fun x K=>Ov F (fun y1 y5 y6 y7=>K .normal (enc Adc (y1,y5,y6,y7,()))) x.1 x.2.1 x.2.2.1 x.2.2.2.1 x.2.2.2.2.1
def Aag:Ae:=[(1,.own 1 Ag 49),(5,.own 5 Ag 49),(6,.d Ag),(7,.d Ab)]
def Ade:Ae:=[(1,.own 1 Ag 49),(5,.own 5 Ag 49)]
def Apd:Ck:=[(2,Ade)]
def AeI(F n:Nat):Au Aag:=fun x K=>Jy F (fun y1 y5=>K (.exit 0) (enc Ade (y1,y5,()))) n x.1 x.2.1 x.2.2.1 x.2.2.2.1
def Ar9(F:Nat):A2 Ahz:=Af [(4,⟨Aag,AeI F F⟩)]
def Ara(F:Nat):A2 Ahz:=Af [(9,⟨Aaf,Ake F⟩)]
theorem Av5(F:Nat)(fr:Frm)(hn:(Ar7 F).ntmps=fr.n):Dz Ahz f164 fr [1,1,1,0,1,0,0,1,0,0,1,1] Aaf (Ake F) :=
 D0 (Ar9 F) (Ara F) Apc rfl (Ar8 F) hn (fun x K=>by kernel_rfl) (Al (by kernel_rfl))
theorem Av6(F:Nat)(fr:Frm)(hn:(Ar7 F).ntmps=fr.n)(n:Nat):A4 Ahz f164 fr [1,1,1,0,1,0,0] Aag (AeI F n) :=
 A5 (Ar9 F) (Ara F) Apd rfl (Ar8 F) hn (m:=fun n=>AeI F n) (fun _ _=>rfl) (fun n x K=>by kernel_rfl) (A0 (l:=[((sub (Ak f164) [1,1,1,0,1,0,0,1,0,0,1,1]),⟨Aaf,Ake F⟩)]) (by kernel_rfl) (Ai (Av5 F fr hn) Ar)) n
theorem Bab(F:Nat):CSound prog 164 (Ar6 F) :=
 Ao (fn:=f164) (Ar9 F) (Ara F) rfl func164 (by kernel_rfl) (Ar8 F) (fun fr hn=>(A0 (l:=[((.loop (sub (Ak f164) [1,1,1,0,1,0,0])),⟨Aag,AeI F F⟩)]) (by kernel_rfl) (Ai (Av6 F fr hn F) Ar))) (fun x=>by kernel_rfl)
def A0w:Sig:=⟨[.con 49],[(0,.own 0 Ag 49)],false,some (0,49),[Aw]⟩
def Ay2(F:Nat):Contract:=Ax A0w fun x=>Q5 F x.1
def A57(F:Nat):Cx:=Aq [(159,Akd F)] [2,34] (0,35)
theorem A58(F:Nat):Ah (A57 F):=Ac (Aa (A4Z F) Ad)
def AeJ:Ae:=[(0,.own 0 Ag 49),(3,.d Ab)]
def AhA:Ae:=[(0,.own 0 Ag 49)]
def Arb:Ck:=[(2,AhA)]
def Alx(F n:Nat):Au AeJ:=fun x K=>Gd F (fun y0=>K (.exit 0) (enc AhA (y0,()))) n x.1 x.2.1
def A59(F:Nat):A2 A0w:=Af [(2,⟨AeJ,Alx F F⟩)]
theorem A0x(F:Nat)(fr:Frm)(hn:(A57 F).ntmps=fr.n)(n:Nat):A4 A0w f185 fr [1,0,1,0,0] AeJ (Alx F n) :=
 A5 (A59 F) (Af []) Arb rfl (A58 F) hn (m:=fun n=>Alx F n) (fun _ _=>rfl) (fun n x K=>by kernel_rfl) (Al (by kernel_rfl)) n
theorem BfP(F:Nat):CSound prog 185 (Ay2 F) :=
 Ao (fn:=f185) (A59 F) (Af []) rfl func185 (by kernel_rfl) (A58 F) (fun fr hn=>(A0 (l:=[((.loop (sub (Ak f185) [1,0,1,0,0])),⟨AeJ,Alx F F⟩)]) (by kernel_rfl) (Ai (A0x F fr hn F) Ar))) (fun x=>by kernel_rfl)
def Av7:Sig:=⟨[.ro,.ro],[(0,.d Aw),(1,.d Aw)],false,none,[Aw,Aw]⟩
def Ay3(F:Nat):Contract:=Ax Av7 fun x=>K8 F x.1 x.2.1
def A0y(F:Nat):Cx:=Aq [(182,AxZ F),(159,Ze F),(183,Ay0 F),(184,Ay1 F),(141,Alu F),(164,Ar6 F),(185,Ay2 F)] [4,5,15,46,60,85] (0,89)
theorem A0z(F:Nat):Ah (A0y F):=Ac (Aa (BfL F) (Aa (A0h F) (Aa (BfN F) (Aa (BfO F) (Aa (Baa F) (Aa (Bab F) (Aa (BfP F) Ad)))))))
def AeK:Ae:=[(0,.d Aw),(1,.d Aw),(6,.own 6 Ag 49),(7,.d Ag),(8,.d Ab)]
def AhB:Ae:=[(6,.own 6 Ag 49),(7,.d Ag)]
def Arc:Ck:=[(2,AhB)]
def Aly(F n:Nat):Au AeK:=fun x K=>Hg F (fun y6 y7=>K (.exit 0) (enc AhB (y6,y7,()))) n x.1 x.2.1 x.2.2.1 x.2.2.2.1 x.2.2.2.2.1
def Aah:Ae:=[(6,.own 6 Ag 49),(9,.d Aw),(11,.own 11 Ag 49),(12,.d Ab)]
def Adf:Ae:=[(6,.own 6 Ag 49),(9,.d Aw)]
def Ape:Ck:=[(4,Adf)]
def AeL(F n:Nat):Au Aah:=fun x K=>Ez F (fun y6 y9=>K (.exit 2) (enc Adf (y6,y9,()))) n x.1 x.2.1 x.2.2.1 x.2.2.2.1
def A0A(F:Nat):A2 Av7:=Af [(5,⟨AeK,Aly F F⟩),(15,⟨Aah,AeL F F⟩)]
theorem A0B(F:Nat)(fr:Frm)(hn:(A0y F).ntmps=fr.n)(n:Nat):A4 Av7 f162 fr [1,1,0,1,0,1,0,1,0,0] AeK (Aly F n) :=
 A5 (A0A F) (Af []) Arc rfl (A0z F) hn (m:=fun n=>Aly F n) (fun _ _=>rfl) (fun n x K=>by kernel_rfl) (Al (by kernel_rfl)) n
theorem Av8(F:Nat)(fr:Frm)(hn:(A0y F).ntmps=fr.n)(n:Nat):A4 Av7 f162 fr [1,1,1,1,1,1,1,0,1,0,0] Aah (AeL F n) :=
 A5 (A0A F) (Af []) Ape rfl (A0z F) hn (m:=fun n=>AeL F n) (fun _ _=>rfl) (fun n x K=>by kernel_rfl) (Al (by kernel_rfl)) n
theorem BfQ(F:Nat):CSound prog 162 (Ay3 F) :=
 Ao (fn:=f162) (A0A F) (Af []) rfl func162 (by kernel_rfl) (A0z F) (fun fr hn=>(A0 (l:=[((.loop (sub (Ak f162) [1,1,0,1,0,1,0,1,0,0])),⟨AeK,Aly F F⟩),((.loop (sub (Ak f162) [1,1,1,1,1,1,1,0,1,0,0])),⟨Aah,AeL F F⟩)]) (by kernel_rfl) (Ai (A0B F fr hn F) (Ai (Av8 F fr hn F) Ar)))) (fun x=>by kernel_rfl)
def Apf:Sig:=⟨[.ro,.ro],[(0,.d Aw),(1,.d Aw)],false,none,[Aw]⟩
def Ard(F:Nat):Contract:=Ax Apf fun x=>T1 F x.1 x.2.1
def Av9(F:Nat):Cx:=Aq [(161,Ahp F),(159,Ze F)] [4,16] (0,51)
theorem Ava(F:Nat):Ah (Av9 F):=Ac (Gu (A8h F) (Aa (A0h F) Ad))
def Aai:Ae:=[(1,.d Aw),(5,.own 5 Ag 49),(6,.d Ag),(7,.d Ab),(8,.d Ag)]
def Adg:Ae:=[(1,.d Aw),(5,.own 5 Ag 49),(6,.d Ag),(7,.d Ab)]
def Apg:Ck:=[(0,Adg)]
def Akf(F:Nat):Au Aai:=fun x K=>Ll F (fun y1 y5 y6 y7=>K .normal (enc Adg (y1,y5,y6,y7,()))) x.1 x.2.1 x.2.2.1 x.2.2.2.1 x.2.2.2.2.1
def AeN:Ae:=[(1,.d Aw),(5,.own 5 Ag 49),(6,.d Ag),(7,.d Ab)]
def AhC:Ae:=[(5,.own 5 Ag 49),(6,.d Ag)]
def Are:Ck:=[(2,AhC)]
def Alz(F n:Nat):Au AeN:=fun x K=>Fi F (fun y5 y6=>K (.exit 0) (enc AhC (y5,y6,()))) n x.1 x.2.1 x.2.2.1 x.2.2.2.1
def AeO:Ae:=[(0,.d Aw),(1,.d Aw)]
def Abf:Ae:=[(4,.d Aw)]
def Arf:Ck:=[(1,Abf)]
def Arh(F:Nat):Au AeO:=fun x K=>N9 F (fun y4=>K .ret (enc Abf (y4,()))) x.1 x.2.1
def Avb(F:Nat):A2 Apf:=Af [(6,⟨AeN,Alz F F⟩)]
def Avc(F:Nat):A2 Apf:=Af [(11,⟨Aai,Akf F⟩),(3,⟨AeO,Arh F⟩)]
theorem Avd(F:Nat)(fr:Frm)(hn:(Av9 F).ntmps=fr.n):Dz Apf f163 fr [1,1,1,1,0,1,0,0,1,0,0,1,1] Aai (Akf F) :=
 D0 (Avb F) (Avc F) Apg rfl (Ava F) hn (fun x K=>by kernel_rfl) (Al (by kernel_rfl))
theorem A0C(F:Nat)(fr:Frm)(hn:(Av9 F).ntmps=fr.n)(n:Nat):A4 Apf f163 fr [1,1,1,1,0,1,0,0] AeN (Alz F n) :=
 A5 (Avb F) (Avc F) Are rfl (Ava F) hn (m:=fun n=>Alz F n) (fun _ _=>rfl) (fun n x K=>by kernel_rfl) (A0 (l:=[((sub (Ak f163) [1,1,1,1,0,1,0,0,1,0,0,1,1]),⟨Aai,Akf F⟩)]) (by kernel_rfl) (Ai (Avd F fr hn) Ar)) n
theorem A0D(F:Nat)(fr:Frm)(hn:(Av9 F).ntmps=fr.n):Dz Apf f163 fr [1,1] AeO (Arh F) :=
 D0 (Avb F) (Avc F) Arf rfl (Ava F) hn (fun x K=>by kernel_rfl) (A0 (l:=[((.loop (sub (Ak f163) [1,1,1,1,0,1,0,0])),⟨AeN,Alz F F⟩)]) (by kernel_rfl) (Ai (A0C F fr hn F) Ar))
theorem BdG(F:Nat):CSound prog 163 (Ard F) :=
 Ao (fn:=f163) (Avb F) (Avc F) rfl func163 (by kernel_rfl) (Ava F) (fun fr hn=>(A0 (l:=[((sub (Ak f163) [1,1]),⟨AeO,Arh F⟩)]) (by kernel_rfl) (Ai (A0D F fr hn) Ar))) (fun x=>by kernel_rfl)
def Ari:Sig:=⟨[.ro,.ro],[(0,.d .bool),(1,.d Aw)],true,none,[tyV,.bool]⟩
def AhD(F:Nat):Contract:=Ax Ari fun x=>Fp F x.1 x.2.1
def A0E(F:Nat):Cx:=Aq [(159,Ze F)] [] (0,35)
theorem A0F(F:Nat):Ah (A0E F):=Ac (Aa (A0h F) Ad)
def AeP:Ae:=[(1,.d Aw),(4,.box 4 tyV),(6,.box 6 tyV),(7,.d Ab)]
def AhE:Ae:=[(4,.box 4 tyV),(6,.box 6 tyV)]
def Arj:Ck:=[(2,AhE)]
def AlA(F n:Nat):Au AeP:=fun x K=>H0 F (fun y4 y6=>K (.exit 0) (enc AhE (y4,y6,()))) n x.1 x.2.1 x.2.2.1 x.2.2.2.1
def AeQ:Ae:=[(1,.d Aw),(4,.box 4 tyV),(6,.box 6 tyV)]
def Abg:Ae:=[(4,.box 4 tyV),(5,.d .bool)]
def Ark:Ck:=[(1,Abg)]
def Arl(F:Nat):Au AeQ:=fun x K=>Ow F (fun y4 y5=>K .ret (enc Abg (y4,y5,()))) x.1 x.2.1 x.2.2.1
def A0G(F:Nat):A2 Ari:=Af [(6,⟨AeP,AlA F F⟩)]
def A0H(F:Nat):A2 Ari:=Af [(5,⟨AeQ,Arl F⟩)]
theorem A0I(F:Nat)(fr:Frm)(hn:(A0E F).ntmps=fr.n)(n:Nat):A4 Ari f120 fr [1,1,1,1,0,1,0,0] AeP (AlA F n) :=
 A5 (A0G F) (A0H F) Arj rfl (A0F F) hn (m:=fun n=>AlA F n) (fun _ _=>rfl) (fun n x K=>by kernel_rfl) (Al (by kernel_rfl)) n
theorem A0J(F:Nat)(fr:Frm)(hn:(A0E F).ntmps=fr.n):Dz Ari f120 fr [1,1,1,1] AeQ (Arl F) :=
 D0 (A0G F) (A0H F) Ark rfl (A0F F) hn (fun x K=>by kernel_rfl) (A0 (l:=[((.loop (sub (Ak f120) [1,1,1,1,0,1,0,0])),⟨AeP,AlA F F⟩)]) (by kernel_rfl) (Ai (A0I F fr hn F) Ar))
theorem A8j(F:Nat):CSound prog 120 (AhD F) :=
 Ao (fn:=f120) (A0G F) (A0H F) rfl func120 (by kernel_rfl) (A0F F) (fun fr hn=>(A0 (l:=[((sub (Ak f120) [1,1,1,1]),⟨AeQ,Arl F⟩)]) (by kernel_rfl) (Ai (A0J F fr hn) Ar))) (fun x=>by kernel_rfl)
def Ave:Sig:=⟨[.ro,.ro],[(0,.d tyV),(1,.d tyV)],true,none,[tyV,tyV,.bool]⟩
def AhF(F:Nat):Contract:=Ax Ave fun x=>Dh F x.1 x.2.1
def A0K(F:Nat):Cx:=Aq [(119,Ahu F),(90,AeB F),(122,Xc F),(162,Ay3 F),(163,Ard F),(164,Ar2 F),(120,AhD F)] [] (0,61)
theorem A0L(F:Nat):Ah (A0K F):=Ac (Aa (A8i F) (Aa (s90 F) (Aa (AxX F) (Aa (BfQ F) (Aa (BdG F) (Aa (BdF F) (Aa (A8j F) Ad)))))))
def AeS:Ae:=[(2,.box 2 tyV),(3,.box 3 tyV),(4,.box 4 tyV),(5,.box 5 tyV),(7,.d Aw),(8,.d Aw),(32,.d .bool)]
def AhG:Ae:=[(2,.box 2 tyV),(3,.box 3 tyV),(4,.box 4 tyV),(5,.box 5 tyV),(7,.d Aw),(8,.d Aw)]
def Arm:Ck:=[(0,AhG)]
def Arn(F:Nat):Au AeS:=fun x K=>Jf F (fun y2 y3 y4 y5 y7 y8=>K .normal (enc AhG (y2,y3,y4,y5,y7,y8,()))) x.1 x.2.1 x.2.2.1 x.2.2.2.1 x.2.2.2.2.1 x.2.2.2.2.2.1 x.2.2.2.2.2.2.1
def AeT:Ae:=[(2,.box 2 tyV),(3,.box 3 tyV),(4,.box 4 tyV),(5,.box 5 tyV),(7,.d Aw),(8,.d Aw)]
def Abh:Ae:=[(4,.box 4 tyV),(5,.box 5 tyV),(6,.d .bool)]
def Aro:Ck:=[(1,Abh)]
def Arp(F:Nat):Au AeT:=fun x K=>Jg F (fun y4 y5 y6=>K .ret (enc Abh (y4,y5,y6,()))) x.1 x.2.1 x.2.2.1 x.2.2.2.1 x.2.2.2.2.1 x.2.2.2.2.2.1
def A0N(F:Nat):A2 Ave:=Af [(6,⟨AeS,Arn F⟩),(7,⟨AeT,Arp F⟩)]
theorem A0O(F:Nat)(fr:Frm)(hn:(A0K F).ntmps=fr.n):Dz Ave f123 fr [1,1,1,1,0,1] AeS (Arn F) :=
 D0 (Af []) (A0N F) Arm rfl (A0L F) hn (fun x K=>by kernel_rfl) (Al (by kernel_rfl))
theorem A0P(F:Nat)(fr:Frm)(hn:(A0K F).ntmps=fr.n):Dz Ave f123 fr [1,1,1,1,1] AeT (Arp F) :=
 D0 (Af []) (A0N F) Aro rfl (A0L F) hn (fun x K=>by kernel_rfl) (Al (by kernel_rfl))
theorem A8k(F:Nat):CSound prog 123 (AhF F) :=
 Ao (fn:=f123) (Af []) (A0N F) rfl func123 (by kernel_rfl) (A0L F) (fun fr hn=>(A0 (l:=[((sub (Ak f123) [1,1,1,1,0,1]),⟨AeS,Arn F⟩),((sub (Ak f123) [1,1,1,1,1]),⟨AeT,Arp F⟩)]) (by kernel_rfl) (Ai (A0O F fr hn) (Ai (A0P F fr hn) Ar)))) (fun x=>by kernel_rfl)
def A0Q:Sig:=⟨[.ro,.ro],[(0,.d tyV),(1,.d tyV)],true,none,[tyV]⟩
def A0S(F:Nat):Contract:=Ax A0Q fun x=>Q6 F x.1 x.2.1
def A5a(F:Nat):Cx:=Aq [(90,AeB F),(131,AqY F),(67,Av1 F),(123,AhF F)] [] (0,47)
theorem A5b(F:Nat):Ah (A5a F):=Ac (Aa (s90 F) (Aa (BdE F) (Aa (s67 F) (Aa (A8k F) Ad))))
def AlB:Ae:=[(4,.box 4 tyV),(5,.d Ag),(7,.d Ag)]
def AlC:Ae:=[(4,.box 4 tyV),(5,.d Ag)]
def Avf:Ck:=[(4,AlC)]
def Avg(F n:Nat):Au AlB:=fun x K=>Jh F (fun y4 y5=>K (.exit 2) (enc AlC (y4,y5,()))) n x.1 x.2.1 x.2.2.1
def AlD:Ae:=[(2,.box 2 tyV),(3,.box 3 tyV),(4,.box 4 tyV),(5,.d Ag),(7,.d Ag),(28,.d .bool)]
def AlE:Ae:=[(2,.box 2 tyV),(3,.box 3 tyV),(4,.box 4 tyV)]
def Adh:Ae:=[(4,.box 4 tyV)]
def Avh:Ck:=[(0,AlE),(1,Adh)]
def A0T(F:Nat):Au AlD:=fun x K=>Qc F (fun y2 y3 y4=>K .normal (enc AlE (y2,y3,y4,()))) (fun y4=>K .ret (enc Adh (y4,()))) x.1 x.2.1 x.2.2.1 x.2.2.2.1 x.2.2.2.2.1 x.2.2.2.2.2.1
def AlF:Ae:=[(2,.box 2 tyV),(3,.box 3 tyV),(4,.box 4 tyV)]
def AlG:Ae:=[(2,.box 2 tyV),(3,.box 3 tyV),(4,.box 4 tyV)]
def Avi:Ck:=[(0,AlG)]
def A0U(F:Nat):Au AlF:=fun x K=>Qd F (fun y2 y3 y4=>K .normal (enc AlG (y2,y3,y4,()))) x.1 x.2.1 x.2.2.1
def AlH:Ae:=[(2,.box 2 tyV),(3,.box 3 tyV),(4,.box 4 tyV)]
def AlI:Ae:=[(2,.box 2 tyV),(4,.box 4 tyV)]
def Adi:Ae:=[(4,.box 4 tyV)]
def Avj:Ck:=[(2,AlI),(1,Adi)]
def Avk(F n:Nat):Au AlH:=fun x K=>Hw F (fun y2 y4=>K (.exit 0) (enc AlI (y2,y4,()))) (fun y4=>K .ret (enc Adi (y4,()))) n x.1 x.2.1 x.2.2.1
def A5c(F:Nat):A2 A0Q:=Af [(5,⟨AlB,Avg F F⟩),(1,⟨AlH,Avk F F⟩)]
def A5d(F:Nat):A2 A0Q:=Af [(5,⟨AlD,A0T F⟩),(8,⟨AlF,A0U F⟩)]
theorem A5e(F:Nat)(fr:Frm)(hn:(A5a F).ntmps=fr.n)(n:Nat):A4 A0Q f92 fr [1,0,0,0,1,0,1,1,0,1,0,0,0,0] AlB (Avg F n) :=
 A5 (A5c F) (A5d F) Avf rfl (A5b F) hn (m:=fun n=>Avg F n) (fun _ _=>rfl) (fun n x K=>by kernel_rfl) (Al (by kernel_rfl)) n
theorem A5f(F:Nat)(fr:Frm)(hn:(A5a F).ntmps=fr.n):Dz A0Q f92 fr [1,0,0,0,1,0,1,1,0,1] AlD (A0T F) :=
 D0 (A5c F) (A5d F) Avh rfl (A5b F) hn (fun x K=>by kernel_rfl) (A0 (l:=[((.loop (sub (Ak f92) [1,0,0,0,1,0,1,1,0,1,0,0,0,0])),⟨AlB,Avg F F⟩)]) (by kernel_rfl) (Ai (A5e F fr hn F) Ar))
theorem A5g(F:Nat)(fr:Frm)(hn:(A5a F).ntmps=fr.n):Dz A0Q f92 fr [1,0,0,0,1,0,1,1,1] AlF (A0U F) :=
 D0 (A5c F) (A5d F) Avi rfl (A5b F) hn (fun x K=>by kernel_rfl) (Al (by kernel_rfl))
theorem A5h(F:Nat)(fr:Frm)(hn:(A5a F).ntmps=fr.n)(n:Nat):A4 A0Q f92 fr [1,0,0,0] AlH (Avk F n) :=
 A5 (A5c F) (A5d F) Avj rfl (A5b F) hn (m:=fun n=>Avk F n) (fun _ _=>rfl) (fun n x K=>by kernel_rfl) (A0 (l:=[((sub (Ak f92) [1,0,0,0,1,0,1,1,0,1]),⟨AlD,A0T F⟩),((sub (Ak f92) [1,0,0,0,1,0,1,1,1]),⟨AlF,A0U F⟩)]) (by kernel_rfl) (Ai (A5f F fr hn) (Ai (A5g F fr hn) Ar))) n
theorem s92(F:Nat):CSound prog 92 (A0S F) :=
 Ao (fn:=f92) (A5c F) (A5d F) rfl func92 (by kernel_rfl) (A5b F) (fun fr hn=>(A0 (l:=[((.loop (sub (Ak f92) [1,0,0,0])),⟨AlH,Avk F F⟩)]) (by kernel_rfl) (Ai (A5h F fr hn F) Ar))) (fun x=>by kernel_rfl)
def BfS:Sig:=⟨[.ro],[(0,.d Ab)],true,none,[tyV]⟩
def AhH(F:Nat):Contract:=Ax BfS fun x=>Gf F x.1
def BfT(F:Nat):Cx:=Aq [] [] (0,14)
theorem BfU(F:Nat):Ah (BfT F):=Ac Ad
theorem s65(F:Nat):CSound prog 65 (AhH F) :=
 Ao (fn:=f65) (Af []) (Af []) rfl func65 (by kernel_rfl) (BfU F) (fun fr hn=>(Al (by kernel_rfl))) (fun x=>by kernel_rfl)
def BfV:Sig:=⟨[],[],true,none,[tyV]⟩
def Avl(F:Nat):Contract:=Ax BfV fun x=>Q7 F 
def BfW(F:Nat):Cx:=Aq [(65,AhH F)] [] (0,2)
theorem BfX(F:Nat):Ah (BfW F):=Ac (Aa (s65 F) Ad)
theorem s94(F:Nat):CSound prog 94 (Avl F) :=
 Ao (fn:=f94) (Af []) (Af []) rfl func94 (by kernel_rfl) (BfX F) (fun fr hn=>(Al (by kernel_rfl))) (fun x=>by kernel_rfl)
def BfY:Sig:=⟨[.ro],[(0,.d Bn)],true,none,[.bool]⟩
def Akg(F:Nat):Contract:=Ax BfY fun x=>Fu F x.1
def BfZ(F:Nat):Cx:=Aq [(89,AqX F),(90,AeB F),(91,A50 F),(93,A0i F),(92,A0S F),(94,Avl F)] [] (0,39)
theorem Bg0(F:Nat):Ah (BfZ F):=Ac (Aa (s89 F) (Aa (s90 F) (Aa (s91 F) (Aa (s93 F) (Aa (s92 F) (Aa (s94 F) Ad))))))
theorem s42(F:Nat):CSound prog 42 (Akg F) :=
 Ao (fn:=f42) (Af []) (Af []) rfl func42 (by kernel_rfl) (Bg0 F) (fun fr hn=>(Al (by kernel_rfl))) (fun x=>by kernel_rfl)
def Bg1:Sig:=⟨[.ro],[(0,.d Bn)],true,none,[Bn]⟩
def A5i(F:Nat):Contract:=Ax Bg1 fun x=>Sx F x.1
def Bg2(F:Nat):Cx:=Aq [(42,Akg F),(94,Avl F)] [] (0,9)
theorem Bg3(F:Nat):Ah (Bg2 F):=Ac (Aa (s42 F) (Aa (s94 F) Ad))
theorem s95(F:Nat):CSound prog 95 (A5i F) :=
 Ao (fn:=f95) (Af []) (Af []) rfl func95 (by kernel_rfl) (Bg3 F) (fun fr hn=>(Al (by kernel_rfl))) (fun x=>by kernel_rfl)
def Bac:Sig:=⟨[.ro,.ro],[(0,.d Ag),(1,.d Ag)],true,none,[Ag,Ag]⟩
def Arq(F:Nat):Contract:=Ax Bac fun x=>Q8 F x.1 x.2.1
def Bad(F:Nat):Cx:=Aq [] [] (0,51)
theorem Bae(F:Nat):Ah (Bad F):=Ac Ad
theorem BdH(F:Nat):CSound prog 160 (Arq F) :=
 Ao (fn:=f160) (Af []) (Af []) rfl func160 (by kernel_rfl) (Bae F) (fun fr hn=>(Al (by kernel_rfl))) (fun x=>by kernel_rfl)
def Avm:Sig:=⟨[.ro,.ro],[(0,.d Aw),(1,.d Aw)],false,none,[Aw]⟩
def Ay4(F:Nat):Contract:=Ax Avm fun x=>W8 F x.1 x.2.1
def A0V(F:Nat):Cx:=Aq [(160,Arq F),(161,Ahp F),(159,Ze F)] [4,18] (0,81)
theorem A0W(F:Nat):Ah (A0V F):=Ac (Aa (BdH F) (Gu (A8h F) (Aa (A0h F) Ad)))
def AeU:Ae:=[(0,.d Aw),(1,.d Aw),(5,.own 5 Ag 49),(6,.d Ab),(7,.d Ag),(8,.d Ab)]
def AhI:Ae:=[(0,.d Aw),(1,.d Aw),(5,.own 5 Ag 49),(6,.d Ab),(7,.d Ag)]
def Arr:Ck:=[(4,AhI)]
def AlJ(F n:Nat):Au AeU:=fun x K=>Ji F (fun y0 y1 y5 y6 y7=>K (.exit 2) (enc AhI (y0,y1,y5,y6,y7,()))) n x.1 x.2.1 x.2.2.1 x.2.2.2.1 x.2.2.2.2.1 x.2.2.2.2.2.1
def AeV:Ae:=[(0,.d Aw),(1,.d Aw),(5,.own 5 Ag 49),(6,.d Ab)]
def AhJ:Ae:=[(5,.own 5 Ag 49)]
def Ars:Ck:=[(2,AhJ)]
def AlK(F n:Nat):Au AeV:=fun x K=>K9 F (fun y5=>K (.exit 0) (enc AhJ (y5,()))) n x.1 x.2.1 x.2.2.1 x.2.2.2.1
def A0X(F:Nat):A2 Avm:=Af [(7,⟨AeU,AlJ F F⟩),(3,⟨AeV,AlK F F⟩)]
theorem A0Y(F:Nat)(fr:Frm)(hn:(A0V F).ntmps=fr.n)(n:Nat):A4 Avm f121 fr [1,1,0,1,0,0,1,0,0,1,0,1,0,0] AeU (AlJ F n) :=
 A5 (A0X F) (Af []) Arr rfl (A0W F) hn (m:=fun n=>AlJ F n) (fun _ _=>rfl) (fun n x K=>by kernel_rfl) (Al (by kernel_rfl)) n
theorem A0Z(F:Nat)(fr:Frm)(hn:(A0V F).ntmps=fr.n)(n:Nat):A4 Avm f121 fr [1,1,0,1,0,0] AeV (AlK F n) :=
 A5 (A0X F) (Af []) Ars rfl (A0W F) hn (m:=fun n=>AlK F n) (fun _ _=>rfl) (fun n x K=>by kernel_rfl) (A0 (l:=[((.loop (sub (Ak f121) [1,1,0,1,0,0,1,0,0,1,0,1,0,0])),⟨AeU,AlJ F F⟩)]) (by kernel_rfl) (Ai (A0Y F fr hn F) Ar)) n
theorem Bg4(F:Nat):CSound prog 121 (Ay4 F) :=
 Ao (fn:=f121) (A0X F) (Af []) rfl func121 (by kernel_rfl) (A0W F) (fun fr hn=>(A0 (l:=[((.loop (sub (Ak f121) [1,1,0,1,0,0])),⟨AeV,AlK F F⟩)]) (by kernel_rfl) (Ai (A0Z F fr hn F) Ar))) (fun x=>by kernel_rfl)
def Bg5:Sig:=⟨[.ro,.ro],[(0,.d tyV),(1,.d tyV)],true,none,[tyV,.bool]⟩
def Art(F:Nat):Contract:=Ax Bg5 fun x=>Fc F x.1 x.2.1
def Bg6(F:Nat):Cx:=Aq [(119,Ahu F),(122,Xc F),(121,Ay4 F),(120,AhD F)] [] (0,23)
theorem Bg7(F:Nat):Ah (Bg6 F):=Ac (Aa (A8i F) (Aa (AxX F) (Aa (Bg4 F) (Aa (A8j F) Ad))))
theorem s68(F:Nat):CSound prog 68 (Art F) :=
 Ao (fn:=f68) (Af []) (Af []) rfl func68 (by kernel_rfl) (Bg7 F) (fun fr hn=>(Al (by kernel_rfl))) (fun x=>by kernel_rfl)
def Bg8:Sig:=⟨[.ro,.ro],[(0,.d tyV),(1,.d tyV)],true,none,[Ab]⟩
def Avn(F:Nat):Contract:=Ax Bg8 fun x=>Gg F x.1 x.2.1
def Bg9(F:Nat):Cx:=Aq [(90,AeB F),(122,Xc F),(141,Alu F)] [] (0,24)
theorem Bga(F:Nat):Ah (Bg9 F):=Ac (Aa (s90 F) (Aa (AxX F) (Aa (Baa F) Ad)))
theorem s96(F:Nat):CSound prog 96 (Avn F) :=
 Ao (fn:=f96) (Af []) (Af []) rfl func96 (by kernel_rfl) (Bga F) (fun fr hn=>(Al (by kernel_rfl))) (fun x=>by kernel_rfl)
def Bgb:Sig:=⟨[.ro,.ro],[(0,.d Bn),(1,.d Bn)],true,none,[Ab]⟩
def Aph(F:Nat):Contract:=Ax Bgb fun x=>Dn F x.1 x.2.1
def Bgc(F:Nat):Cx:=Aq [(95,A5i F),(68,Art F),(96,Avn F)] [] (0,32)
theorem Bgd(F:Nat):Ah (Bgc F):=Ac (Aa (s95 F) (Aa (s68 F) (Aa (s96 F) Ad)))
theorem s43(F:Nat):CSound prog 43 (Aph F) :=
 Ao (fn:=f43) (Af []) (Af []) rfl func43 (by kernel_rfl) (Bgd F) (fun fr hn=>(Al (by kernel_rfl))) (fun x=>by kernel_rfl)
def Bge:Sig:=⟨[.ro],[(0,.d Bg)],true,none,[.bool]⟩
def Aru(F:Nat):Contract:=Ax Bge fun x=>Jj F x.1
def Bgf(F:Nat):Cx:=Aq [(117,Alq F),(42,Akg F),(43,Aph F)] [] (0,24)
theorem Bgg(F:Nat):Ah (Bgf F):=Ac (Aa (A9U F) (Aa (s42 F) (Aa (s43 F) Ad)))
theorem s60(F:Nat):CSound prog 60 (Aru F) :=
 Ao (fn:=f60) (Af []) (Af []) rfl func60 (by kernel_rfl) (Bgg F) (fun fr hn=>(Al (by kernel_rfl))) (fun x=>by kernel_rfl)
def Baf:Sig:=⟨[.ro],[(0,.d (.pair Ab (.pair Ab (.pair Ab (.pair Fe (.pair Ab (.pair Ab (.pair Bg .unit))))))))],true,none,[.bool]⟩
def Arv(F:Nat):Contract:=Ax Baf fun x=>Pr F x.1
def Bag(F:Nat):Cx:=Aq [(109,Aln F),(154,AqV F),(117,Alq F),(60,Aru F)] [] (0,78)
theorem Bah(F:Nat):Ah (Bag F):=Ac (Aa (A9I F) (Aa (BdD F) (Aa (A9U F) (Aa (s60 F) Ad))))
theorem BdI(F:Nat):CSound prog 112 (Arv F) :=
 Ao (fn:=f112) (Af []) (Af []) rfl func112 (by kernel_rfl) (Bah F) (fun fr hn=>(Al (by kernel_rfl))) (fun x=>by kernel_rfl)
def Bai:Sig:=⟨[.ro,.ro],[(0,.d (.pair Ab (.pair Ab (.pair Ab (.pair Fe (.pair Ab (.pair Ab (.pair Bg .unit)))))))),(1,.d Fe)],true,none,[(.pair Ab (.pair Ab (.pair Ab (.pair Fe (.pair Ab (.pair Ab (.pair Bg .unit)))))))]⟩
def Ay5(F:Nat):Contract:=Ax Bai fun x=>Ps F x.1 x.2.1
def Baj(F:Nat):Cx:=Aq [(154,AqV F),(117,Alq F)] [] (0,22)
theorem Bak(F:Nat):Ah (Baj F):=Ac (Aa (BdD F) (Aa (A9U F) Ad))
theorem Bgh(F:Nat):CSound prog 113 (Ay5 F) :=
 Ao (fn:=f113) (Af []) (Af []) rfl func113 (by kernel_rfl) (Bak F) (fun fr hn=>(Al (by kernel_rfl))) (fun x=>by kernel_rfl)
def Bal:Sig:=⟨[.ro,.ro],[(0,.d Ab),(1,.d Ab)],true,none,[tyV]⟩
def Ay6(F:Nat):Contract:=Ax Bal fun x=>Uz F x.1 x.2.1
def Bam(F:Nat):Cx:=Aq [(65,AhH F),(157,AqS F),(68,Art F)] [] (0,17)
theorem Ban(F:Nat):Ah (Bam F):=Ac (Aa (s65 F) (Aa (BdC F) (Aa (s68 F) Ad)))
theorem Bgi(F:Nat):CSound prog 115 (Ay6 F) :=
 Ao (fn:=f115) (Af []) (Af []) rfl func115 (by kernel_rfl) (Ban F) (fun fr hn=>(Al (by kernel_rfl))) (fun x=>by kernel_rfl)
def Bao:Sig:=⟨[.ro,.ro],[(0,.d Ab),(1,.d Ab)],true,none,[Ag]⟩
def Ay7(F:Nat):Contract:=Ax Bao fun x=>Nu F x.1 x.2.1
def Bap(F:Nat):Cx:=Aq [] [] (0,18)
theorem Baq(F:Nat):Ah (Bap F):=Ac Ad
theorem Bgj(F:Nat):CSound prog 116 (Ay7 F) :=
 Ao (fn:=f116) (Af []) (Af []) rfl func116 (by kernel_rfl) (Baq F) (fun fr hn=>(Al (by kernel_rfl))) (fun x=>by kernel_rfl)
def Bgk:Sig:=⟨[.ro],[(0,.d tyV)],true,none,[tyV]⟩
def Arw(F:Nat):Contract:=Ax Bgk fun x=>Lm F x.1
def Bgl(F:Nat):Cx:=Aq [(122,Xc F),(120,AhD F)] [] (0,15)
theorem Bgm(F:Nat):Ah (Bgl F):=Ac (Aa (AxX F) (Aa (A8j F) Ad))
theorem s70(F:Nat):CSound prog 70 (Arw F) :=
 Ao (fn:=f70) (Af []) (Af []) rfl func70 (by kernel_rfl) (Bgm F) (fun fr hn=>(Al (by kernel_rfl))) (fun x=>by kernel_rfl)
def Bar:Sig:=⟨[.ro,.ro],[(0,.d tyV),(1,.d tyV)],true,none,[tyV,.bool]⟩
def AhK(F:Nat):Contract:=Ax Bar fun x=>Hh F x.1 x.2.1
def Bas(F:Nat):Cx:=Aq [(119,Ahu F),(122,Xc F),(163,Ard F),(120,AhD F),(141,Alu F),(164,Ar2 F)] [] (0,51)
theorem Bat(F:Nat):Ah (Bas F):=Ac (Aa (A8i F) (Aa (AxX F) (Aa (BdG F) (Aa (A8j F) (Aa (Baa F) (Aa (BdF F) Ad))))))
theorem A8l(F:Nat):CSound prog 156 (AhK F) :=
 Ao (fn:=f156) (Af []) (Af []) rfl func156 (by kernel_rfl) (Bat F) (fun fr hn=>(Al (by kernel_rfl))) (fun x=>by kernel_rfl)
def Bau:Sig:=⟨[.ro,.ro],[(0,.d tyV),(1,.d tyV)],true,none,[tyV,.bool]⟩
def Arx(F:Nat):Contract:=Ax Bau fun x=>Lo F x.1 x.2.1
def Bav(F:Nat):Cx:=Aq [(70,Arw F),(156,AhK F)] [] (0,12)
theorem Baw(F:Nat):Ah (Bav F):=Ac (Aa (s70 F) (Aa (A8l F) Ad))
theorem BdJ(F:Nat):CSound prog 155 (Arx F) :=
 Ao (fn:=f155) (Af []) (Af []) rfl func155 (by kernel_rfl) (Baw F) (fun fr hn=>(Al (by kernel_rfl))) (fun x=>by kernel_rfl)
def Bax:Sig:=⟨[.ro,.ro],[(0,.d tyV),(1,.d tyV)],true,none,[Bn,.bool]⟩
def A5j(F:Nat):Contract:=Ax Bax fun x=>Q9 F x.1 x.2.1
def BdK(F:Nat):Cx:=Aq [(89,AqX F),(90,AeB F),(93,A0i F),(92,A0S F),(123,AhF F),(70,Arw F),(42,Akg F)] [] (0,64)
theorem BdL(F:Nat):Ah (BdK F):=Ac (Aa (s89 F) (Aa (s90 F) (Aa (s93 F) (Aa (s92 F) (Aa (A8k F) (Aa (s70 F) (Aa (s42 F) Ad)))))))
def AlL:Ae:=[(4,.box 4 Bn),(7,.box 7 tyV),(10,.box 10 tyV)]
def Adj:Ae:=[(4,.box 4 Bn),(5,.d .bool)]
def Avo:Ck:=[(1,Adj)]
def A10(F:Nat):Au AlL:=fun x K=>Lp F (fun y4 y5=>K .ret (enc Adj (y4,y5,()))) x.1 x.2.1 x.2.2.1
def BdN(F:Nat):A2 Bax:=Af [(8,⟨AlL,A10 F⟩)]
theorem A5k(F:Nat)(fr:Frm)(hn:(BdK F).ntmps=fr.n):Dz Bax f69 fr [1,1,1,1,1,1] AlL (A10 F) :=
 D0 (Af []) (BdN F) Avo rfl (BdL F) hn (fun x K=>by kernel_rfl) (Al (by kernel_rfl))
theorem s69(F:Nat):CSound prog 69 (A5j F) :=
 Ao (fn:=f69) (Af []) (BdN F) rfl func69 (by kernel_rfl) (BdL F) (fun fr hn=>(A0 (l:=[((sub (Ak f69) [1,1,1,1,1,1]),⟨AlL,A10 F⟩)]) (by kernel_rfl) (Ai (A5k F fr hn) Ar))) (fun x=>by kernel_rfl)
def Bay:Sig:=⟨[.ro,.ro,.ro,.ro],[(0,.d tyV),(1,.d Ab),(2,.d Ab),(3,.d Ag)],true,none,[Bg,.bool]⟩
def Ay8(F:Nat):Contract:=Ax Bay fun x=>Ox F x.1 x.2.1 x.2.2.1 x.2.2.2.1
def Baz(F:Nat):Cx:=Aq [(89,AqX F),(96,Avn F),(109,Aln F),(65,AhH F),(155,Arx F),(156,AhK F),(67,Av1 F),(69,A5j F)] [] (0,81)
theorem BaA(F:Nat):Ah (Baz F):=Ac (Aa (s89 F) (Aa (s96 F) (Aa (A9I F) (Aa (s65 F) (Aa (BdJ F) (Aa (A8l F) (Aa (s67 F) (Aa (s69 F) Ad))))))))
theorem Bgn(F:Nat):CSound prog 114 (Ay8 F) :=
 Ao (fn:=f114) (Af []) (Af []) rfl func114 (by kernel_rfl) (BaA F) (fun fr hn=>(Al (by kernel_rfl))) (fun x=>by kernel_rfl)
def A8m:Sig:=⟨[.ro,.ro],[(0,.d Bg),(1,.d Bg)],true,none,[Bg,.bool]⟩
def A11(F:Nat):Contract:=Ax A8m fun x=>Sa F x.1 x.2.1
def BaB(F:Nat):Cx:=Aq [(60,Aru F),(43,Aph F)] [] (0,47)
theorem BaC(F:Nat):Ah (BaB F):=Ac (Aa (s60 F) (Aa (s43 F) Ad))
def AeW:Ae:=[(2,.box 2 Bg),(4,.box 4 Bg)]
def Abi:Ae:=[(4,.box 4 Bg),(5,.d .bool)]
def Ary:Ck:=[(1,Abi)]
def Arz(F:Nat):Au AeW:=fun x K=>Kh F (fun y4 y5=>K .ret (enc Abi (y4,y5,()))) x.1 x.2.1
def AlN:Ae:=[(2,.box 2 Bg),(3,.box 3 Bg),(4,.box 4 Bg)]
def Adk:Ae:=[(4,.box 4 Bg),(5,.d .bool)]
def Avp:Ck:=[(1,Adk)]
def A12(F:Nat):Au AlN:=fun x K=>Lq F (fun y4 y5=>K .ret (enc Adk (y4,y5,()))) x.1 x.2.1 x.2.2.1
def BaD(F:Nat):A2 A8m:=Af [(11,⟨AeW,Arz F⟩),(9,⟨AlN,A12 F⟩)]
theorem A13(F:Nat)(fr:Frm)(hn:(BaB F).ntmps=fr.n):Dz A8m f62 fr [1,1,1,1,1,1] AeW (Arz F) :=
 D0 (Af []) (BaD F) Ary rfl (BaC F) hn (fun x K=>by kernel_rfl) (Al (by kernel_rfl))
theorem A5l(F:Nat)(fr:Frm)(hn:(BaB F).ntmps=fr.n):Dz A8m f62 fr [1,1,1,1,1] AlN (A12 F) :=
 D0 (Af []) (BaD F) Avp rfl (BaC F) hn (fun x K=>by kernel_rfl) (A0 (l:=[((sub (Ak f62) [1,1,1,1,1,1]),⟨AeW,Arz F⟩)]) (by kernel_rfl) (Ai (A13 F fr hn) Ar))
theorem s62(F:Nat):CSound prog 62 (A11 F) :=
 Ao (fn:=f62) (Af []) (BaD F) rfl func62 (by kernel_rfl) (BaC F) (fun fr hn=>(A0 (l:=[((sub (Ak f62) [1,1,1,1,1]),⟨AlN,A12 F⟩)]) (by kernel_rfl) (Ai (A5l F fr hn) Ar))) (fun x=>by kernel_rfl)
def Bgo:Sig:=⟨[.ro],[(0,.d (.pair Ab (.pair Ab (.pair Ab (.pair Fe (.pair Ab (.pair Ab (.pair Bg .unit))))))))],false,some (0,110),[(.slice (.pair Ab (.pair Ab (.pair Ab (.pair Bg .unit))))),Ab]⟩
def A14(F:Nat):Contract:=Ax Bgo fun x=>Oa F x.1
def Bgp(F:Nat):Cx:=Aq [(112,Arv F)] [2,19] (0,20)
theorem Bgq(F:Nat):Ah (Bgp F):=Ac (Aa (BdI F) Ad)
theorem s58(F:Nat):CSound prog 58 (A14 F) :=
 Ao (fn:=f58) (Af []) (Af []) rfl func58 (by kernel_rfl) (Bgq F) (fun fr hn=>(Al (by kernel_rfl))) (fun x=>by kernel_rfl)
def BaE:Sig:=⟨[.ro,.ro],[(0,.d (.pair Ab (.pair Ab (.pair Ab (.pair Fe (.pair Ab (.pair Ab (.pair Bg .unit)))))))),(1,.d Fe)],false,some (1,110),[(.pair Ab (.pair Ab (.pair Ab (.pair Fe (.pair Ab (.pair Ab (.pair Bg .unit))))))),(.slice (.pair Ab (.pair Ab (.pair Ab (.pair Bg .unit))))),Ab]⟩
def A5m(F:Nat):Contract:=Ax BaE fun x=>U0 F x.1 x.2.1
def BdO(F:Nat):Cx:=Aq [(112,Arv F),(113,Ay5 F),(115,Ay6 F),(116,Ay7 F),(114,Ay8 F),(62,A11 F),(58,A14 F)] [5,71] (0,88)
theorem BdP(F:Nat):Ah (BdO F):=Ac (Aa (BdI F) (Aa (Bgh F) (Aa (Bgi F) (Aa (Bgj F) (Aa (Bgn F) (Aa (s62 F) (Aa (s58 F) Ad)))))))
def AlO:Ae:=[(2,.box 2 (.pair Ab (.pair Ab (.pair Ab (.pair Fe (.pair Ab (.pair Ab (.pair Bg .unit)))))))),(3,.box 3 Fe),(4,.box 4 (.pair Ab (.pair Ab (.pair Ab (.pair Fe (.pair Ab (.pair Ab (.pair Bg .unit))))))))]
def Adl:Ae:=[(4,.box 4 (.pair Ab (.pair Ab (.pair Ab (.pair Fe (.pair Ab (.pair Ab (.pair Bg .unit)))))))),(5,.own 5 (.pair Ab (.pair Ab (.pair Ab (.pair Bg .unit)))) 110),(6,.d Ab)]
def Avq:Ck:=[(1,Adl)]
def A15(F:Nat):Au AlO:=fun x K=>Lr F (fun y4 y5 y6=>K .ret (enc Adl (y4,y5,y6,()))) x.1 x.2.1 x.2.2.1
def BdQ(F:Nat):A2 BaE:=Af [(5,⟨AlO,A15 F⟩)]
theorem A5n(F:Nat)(fr:Frm)(hn:(BdO F).ntmps=fr.n):Dz BaE f57 fr [1,1,1] AlO (A15 F) :=
 D0 (Af []) (BdQ F) Avq rfl (BdP F) hn (fun x K=>by kernel_rfl) (Al (by kernel_rfl))
theorem s57(F:Nat):CSound prog 57 (A5m F) :=
 Ao (fn:=f57) (Af []) (BdQ F) rfl func57 (by kernel_rfl) (BdP F) (fun fr hn=>(A0 (l:=[((sub (Ak f57) [1,1,1]),⟨AlO,A15 F⟩)]) (by kernel_rfl) (Ai (A5n F fr hn) Ar))) (fun x=>by kernel_rfl)
def BaF:Sig:=⟨[.ro,.ro],[(0,.d (.slice Fe)),(1,.d Ab)],false,some (0,110),[(.slice (.pair Ab (.pair Ab (.pair Ab (.pair Bg .unit))))),Ab]⟩
def A5o(F:Nat):Contract:=Ax BaF fun x=>W9 F x.1 x.2.1
def BdS(F:Nat):Cx:=Aq [(55,A4J F),(56,A4S F),(57,A5m F),(58,A14 F)] [4,8] (0,54)
theorem BdT(F:Nat):Ah (BdS F):=Ac (Aa (s55 F) (Aa (s56 F) (Aa (s57 F) (Aa (s58 F) Ad))))
def AeX:Ae:=[(0,.d (.slice Fe)),(6,.box 6 (.pair Ab (.pair Ab (.pair Ab (.pair Fe (.pair Ab (.pair Ab (.pair Bg .unit)))))))),(8,.own 8 (.pair Ab (.pair Ab (.pair Ab (.pair Bg .unit)))) 110),(9,.d Ab)]
def AhL:Ae:=[(6,.box 6 (.pair Ab (.pair Ab (.pair Ab (.pair Fe (.pair Ab (.pair Ab (.pair Bg .unit)))))))),(8,.own 8 (.pair Ab (.pair Ab (.pair Ab (.pair Bg .unit)))) 110)]
def ArA:Ck:=[(2,AhL)]
def AlP(F n:Nat):Au AeX:=fun x K=>Jz F (fun y6 y8=>K (.exit 0) (enc AhL (y6,y8,()))) n x.1 x.2.1 x.2.2.1 x.2.2.2.1
def BdU(F:Nat):A2 BaF:=Af [(10,⟨AeX,AlP F F⟩)]
theorem A16(F:Nat)(fr:Frm)(hn:(BdS F).ntmps=fr.n)(n:Nat):A4 BaF f24 fr [1,1,1,1,1,1,0,1,0,0] AeX (AlP F n) :=
 A5 (BdU F) (Af []) ArA rfl (BdT F) hn (m:=fun n=>AlP F n) (fun _ _=>rfl) (fun n x K=>by kernel_rfl) (Al (by kernel_rfl)) n
theorem s24(F:Nat):CSound prog 24 (A5o F) :=
 Ao (fn:=f24) (BdU F) (Af []) rfl func24 (by kernel_rfl) (BdT F) (fun fr hn=>(A0 (l:=[((.loop (sub (Ak f24) [1,1,1,1,1,1,0,1,0,0])),⟨AeX,AlP F F⟩)]) (by kernel_rfl) (Ai (A16 F fr hn F) Ar))) (fun x=>by kernel_rfl)
def Bgr:Sig:=⟨[.ro,.ro],[(0,.d (.pair Ab (.pair Ab (.pair Ab (.pair Bg .unit))))),(1,.d (.pair Ab (.pair Ab (.pair Ab (.pair Bg .unit)))))],true,none,[.bool]⟩
def A5p(F:Nat):Contract:=Ax Bgr fun x=>Qe F x.1 x.2.1
def Bgs(F:Nat):Cx:=Aq [(43,Aph F)] [] (0,58)
theorem Bgt(F:Nat):Ah (Bgs F):=Ac (Aa (s43 F) Ad)
theorem s61(F:Nat):CSound prog 61 (A5p F) :=
 Ao (fn:=f61) (Af []) (Af []) rfl func61 (by kernel_rfl) (Bgt F) (fun fr hn=>(Al (by kernel_rfl))) (fun x=>by kernel_rfl)
def BaG:Sig:=⟨[.ro,.ro],[(0,.d Bv),(1,.d Ab)],false,some (0,3),[Bv]⟩
def A5q(F:Nat):Contract:=Ax BaG fun x=>Qf F x.1 x.2.1
def BdV(F:Nat):Cx:=Aq [] [4,5] (0,42)
theorem BdW(F:Nat):Ah (BdV F):=Ac Ad
def AlQ:Ae:=[(0,.d Bv),(1,.d Ab),(5,.own 5 Ab 3),(6,.d .bool),(7,.d Ab)]
def AlS:Ae:=[(1,.d Ab),(5,.own 5 Ab 3),(6,.d .bool)]
def Avr:Ck:=[(2,AlS)]
def Avs(F n:Nat):Au AlQ:=fun x K=>Cw F (fun y1 y5 y6=>K (.exit 0) (enc AlS (y1,y5,y6,()))) n x.1 x.2.1 x.2.2.1 x.2.2.2.1 x.2.2.2.2.1
def BdX(F:Nat):A2 BaG:=Af [(4,⟨AlQ,Avs F F⟩)]
theorem A5r(F:Nat)(fr:Frm)(hn:(BdV F).ntmps=fr.n)(n:Nat):A4 BaG f63 fr [1,1,1,0,1,0,0] AlQ (Avs F n) :=
 A5 (BdX F) (Af []) Avr rfl (BdW F) hn (m:=fun n=>Avs F n) (fun _ _=>rfl) (fun n x K=>by kernel_rfl) (Al (by kernel_rfl)) n
theorem s63(F:Nat):CSound prog 63 (A5q F) :=
 Ao (fn:=f63) (BdX F) (Af []) rfl func63 (by kernel_rfl) (BdW F) (fun fr hn=>(A0 (l:=[((.loop (sub (Ak f63) [1,1,1,0,1,0,0])),⟨AlQ,Avs F F⟩)]) (by kernel_rfl) (Ai (A5r F fr hn F) Ar))) (fun x=>by kernel_rfl)
def Bgu:Sig:=⟨[.ro],[(0,.d Ab)],true,none,[Bn]⟩
def Avt(F:Nat):Contract:=Ax Bgu fun x=>Sy F x.1
def Bgv(F:Nat):Cx:=Aq [(65,AhH F),(94,Avl F)] [] (0,7)
theorem Bgw(F:Nat):Ah (Bgv F):=Ac (Aa (s65 F) (Aa (s94 F) Ad))
theorem s44(F:Nat):CSound prog 44 (Avt F) :=
 Ao (fn:=f44) (Af []) (Af []) rfl func44 (by kernel_rfl) (Bgw F) (fun fr hn=>(Al (by kernel_rfl))) (fun x=>by kernel_rfl)
def A5s:Sig:=⟨[.ro,.ro,.ro,.ro],[(0,.d tyV),(1,.d tyV),(2,.d tyV),(3,.d tyV)],true,none,[tyV,tyV]⟩
def Ay9(F:Nat):Contract:=Ax A5s fun x=>Ki F x.1 x.2.1 x.2.2.1 x.2.2.2.1
def Akh(F n:Nat):Contract:=Ax A5s fun x=>B4 n F x.1 x.2.1 x.2.2.1 x.2.2.2.1
def A17(F:Nat)(n:Nat):Cx:=Aq [(123,AhF F),(90,AeB F),(65,AhH F),(156,AhK F),(68,Art F),(96,Avn F),(155,Arx F),(158,Akh F n)] [] (0,95)
theorem BaH(F n:Nat)(ih:CSound prog 158 (Akh F n)):∀ f c,(A17 F n).call f=some c→Wx prog f c:=Ac (Aa (A8k F) (Aa (s90 F) (Aa (s65 F) (Aa (A8l F) (Aa (s68 F) (Aa (s96 F) (Aa (BdJ F) (Aa ih Ad))))))))
theorem A5t(F:Nat):∀ n,CSound prog 158 (Akh F n)
 | 0=>Ap0 (fn:=f158) (code:=(Ak f158)) (cx:=A17 F 0) func158 (by kernel_rfl) (by kernel_rfl) (by kernel_rfl) (fun x=>rfl)
 | n+1 =>
  Aa5 (fn:=f158) (code:=(Ak f158)) (cx:=A17 F n) (hs:=Af []) (js:=Af []) func158 (by kernel_rfl) (by kernel_rfl) (Bz _ rfl) (BaH F n (A5t F n)) mix (by kernel_rfl) (by kernel_rfl) (fun fr hn=>(Al (by kernel_rfl))) (fun x=>by kernel_rfl)
theorem Bgx(F:Nat):CSound prog 158 (Ay9 F):=A5t F F
def Avu:Sig:=⟨[.ro,.ro],[(0,.d Bn),(1,.d Bn)],true,none,[Bn,.bool]⟩
def Aya(F:Nat):Contract:=Ax Avu fun x=>Oy F x.1 x.2.1
def A18(F:Nat):Cx:=Aq [(42,Akg F),(43,Aph F),(90,AeB F),(44,Avt F),(70,Arw F),(158,Ay9 F)] [] (0,83)
theorem A19(F:Nat):Ah (A18 F):=Ac (Aa (s42 F) (Aa (s43 F) (Aa (s90 F) (Aa (s44 F) (Aa (s70 F) (Aa (Bgx F) Ad))))))
def AeY:Ae:=[(2,.box 2 Bn),(3,.box 3 Bn),(4,.box 4 Bn),(36,.d .bool)]
def AhN:Ae:=[(2,.box 2 Bn),(3,.box 3 Bn),(4,.box 4 Bn)]
def Abj:Ae:=[(4,.box 4 Bn),(5,.d .bool)]
def ArB:Ck:=[(0,AhN),(1,Abj)]
def ArC(F:Nat):Au AeY:=fun x K=>Ic F (fun y2 y3 y4=>K .normal (enc AhN (y2,y3,y4,()))) (fun y4 y5=>K .ret (enc Abj (y4,y5,()))) x.1 x.2.1 x.2.2.1 x.2.2.2.1
def AeZ:Ae:=[(2,.box 2 Bn),(3,.box 3 Bn),(4,.box 4 Bn)]
def Abk:Ae:=[(4,.box 4 Bn),(5,.d .bool)]
def ArD:Ck:=[(1,Abk)]
def ArE(F:Nat):Au AeZ:=fun x K=>Ie F (fun y4 y5=>K .ret (enc Abk (y4,y5,()))) x.1 x.2.1 x.2.2.1
def A1a(F:Nat):A2 Avu:=Af [(4,⟨AeY,ArC F⟩),(5,⟨AeZ,ArE F⟩)]
theorem A1b(F:Nat)(fr:Frm)(hn:(A18 F).ntmps=fr.n):Dz Avu f118 fr [1,1,0,1] AeY (ArC F) :=
 D0 (Af []) (A1a F) ArB rfl (A19 F) hn (fun x K=>by kernel_rfl) (Al (by kernel_rfl))
theorem A1c(F:Nat)(fr:Frm)(hn:(A18 F).ntmps=fr.n):Dz Avu f118 fr [1,1,1] AeZ (ArE F) :=
 D0 (Af []) (A1a F) ArD rfl (A19 F) hn (fun x K=>by kernel_rfl) (Al (by kernel_rfl))
theorem Bgy(F:Nat):CSound prog 118 (Aya F) :=
 Ao (fn:=f118) (Af []) (A1a F) rfl func118 (by kernel_rfl) (A19 F) (fun fr hn=>(A0 (l:=[((sub (Ak f118) [1,1,0,1]),⟨AeY,ArC F⟩),((sub (Ak f118) [1,1,1]),⟨AeZ,ArE F⟩)]) (by kernel_rfl) (Ai (A1b F fr hn) (Ai (A1c F fr hn) Ar)))) (fun x=>by kernel_rfl)
def Bgz:Sig:=⟨[.ro],[(0,.d Bg)],true,none,[Bn]⟩
def A5u(F:Nat):Contract:=Ax Bgz fun x=>Ob F x.1
def BgA(F:Nat):Cx:=Aq [(60,Aru F),(44,Avt F),(118,Aya F)] [] (0,21)
theorem BgB(F:Nat):Ah (BgA F):=Ac (Aa (s60 F) (Aa (s44 F) (Aa (Bgy F) Ad)))
theorem s64(F:Nat):CSound prog 64 (A5u F) :=
 Ao (fn:=f64) (Af []) (Af []) rfl func64 (by kernel_rfl) (BgB F) (fun fr hn=>(Al (by kernel_rfl))) (fun x=>by kernel_rfl)
def Auo:Sig:=⟨[.ro],[(0,.d (.slice (.pair Ab (.pair Ab (.pair Ab (.pair Bg .unit))))))],false,some (0,56),[(.slice A7),Ab]⟩
def A5v(F:Nat):Contract:=Ax Auo fun x=>U1 F x.1
def Ayb(F:Nat):Cx:=Aq [(60,Aru F),(61,A5p F),(62,A11 F),(63,A5q F),(64,A5u F)] [2,8,51] (0,176)
theorem Ayc(F:Nat):Ah (Ayb F):=Ac (Aa (s60 F) (Aa (s61 F) (Aa (s62 F) (Aa (s63 F) (Aa (s64 F) Ad)))))
def AlT:Ae:=[(0,.d (.slice (.pair Ab (.pair Ab (.pair Ab (.pair Bg .unit)))))),(4,.d Ab),(5,.d Ab)]
def AlU:Ae:=[(0,.d (.slice (.pair Ab (.pair Ab (.pair Ab (.pair Bg .unit)))))),(4,.d Ab)]
def Adm:Ae:=[(2,.own 2 A7 56),(3,.d Ab)]
def Avv:Ck:=[(4,AlU),(1,Adm)]
def Avw(F n:Nat):Au AlT:=fun x K=>H1 F (fun y0 y4=>K (.exit 2) (enc AlU (y0,y4,()))) (fun y2 y3=>K .ret (enc Adm (y2,y3,()))) n x.1 x.2.1 x.2.2.1
def AlV:Ae:=[(0,.d (.slice (.pair Ab (.pair Ab (.pair Ab (.pair Bg .unit)))))),(4,.d Ab)]
def AlW:Ae:=[(0,.d (.slice (.pair Ab (.pair Ab (.pair Ab (.pair Bg .unit))))))]
def Adn:Ae:=[(2,.own 2 A7 56),(3,.d Ab)]
def Avx:Ck:=[(2,AlW),(1,Adn)]
def Avy(F n:Nat):Au AlV:=fun x K=>Gh F (fun y0=>K (.exit 0) (enc AlW (y0,()))) (fun y2 y3=>K .ret (enc Adn (y2,y3,()))) n x.1 x.2.1
def Af0:Ae:=[(0,.own 0 (.pair Ab (.pair Ab (.pair Ab (.pair Bg .unit)))) 110),(6,.d Ab),(7,.d Ab)]
def AhO:Ae:=[(0,.own 0 (.pair Ab (.pair Ab (.pair Ab (.pair Bg .unit)))) 110),(6,.d Ab)]
def ArF:Ck:=[(8,AhO)]
def AlX(F n:Nat):Au Af0:=fun x K=>G0 F (fun y0 y6=>K (.exit 6) (enc AhO (y0,y6,()))) n x.1 x.2.1 x.2.2.1
def Af1:Ae:=[(0,.own 0 (.pair Ab (.pair Ab (.pair Ab (.pair Bg .unit)))) 110),(6,.d Ab)]
def AhP:Ae:=[(0,.own 0 (.pair Ab (.pair Ab (.pair Ab (.pair Bg .unit)))) 110)]
def ArG:Ck:=[(6,AhP)]
def AlY(F n:Nat):Au Af1:=fun x K=>Fj F (fun y0=>K (.exit 4) (enc AhP (y0,()))) n x.1 x.2.1
def Af2:Ae:=[(0,.own 0 (.pair Ab (.pair Ab (.pair Ab (.pair Bg .unit)))) 110),(8,.own 8 A7 56),(9,.box 9 Bg),(10,.d Ab),(11,.box 11 Bg),(13,.d Ab),(130,.d .bool)]
def AhQ:Ae:=[(0,.own 0 (.pair Ab (.pair Ab (.pair Ab (.pair Bg .unit)))) 110),(8,.own 8 A7 56),(9,.box 9 Bg),(10,.d Ab)]
def AhS:Ae:=[(0,.own 0 (.pair Ab (.pair Ab (.pair Ab (.pair Bg .unit)))) 110),(8,.own 8 A7 56),(9,.box 9 Bg),(10,.d Ab)]
def ArH:Ck:=[(11,AhQ),(0,AhS)]
def ArI(F:Nat):Au Af2:=fun x K=>Fk F (fun y0 y8 y9 y10=>K (.exit 9) (enc AhQ (y0,y8,y9,y10,()))) (fun y0 y8 y9 y10=>K .normal (enc AhS (y0,y8,y9,y10,()))) x.1 x.2.1 x.2.2.1 x.2.2.2.1 x.2.2.2.2.1 x.2.2.2.2.2.1 x.2.2.2.2.2.2.1
def Af3:Ae:=[(0,.own 0 (.pair Ab (.pair Ab (.pair Ab (.pair Bg .unit)))) 110),(8,.own 8 A7 56),(9,.box 9 Bg),(10,.d Ab)]
def AhT:Ae:=[(0,.own 0 (.pair Ab (.pair Ab (.pair Ab (.pair Bg .unit)))) 110),(8,.own 8 A7 56),(9,.box 9 Bg),(10,.d Ab)]
def ArJ:Ck:=[(0,AhT)]
def ArK(F:Nat):Au Af3:=fun x K=>Il F (fun y0 y8 y9 y10=>K .normal (enc AhT (y0,y8,y9,y10,()))) x.1 x.2.1 x.2.2.1 x.2.2.2.1
def Af4:Ae:=[(0,.own 0 (.pair Ab (.pair Ab (.pair Ab (.pair Bg .unit)))) 110),(8,.own 8 A7 56),(9,.box 9 Bg),(10,.d Ab)]
def AhU:Ae:=[(8,.own 8 A7 56)]
def ArL:Ck:=[(10,AhU)]
def AlZ(F n:Nat):Au Af4:=fun x K=>B2 F (fun y8=>K (.exit 8) (enc AhU (y8,()))) n x.1 x.2.1 x.2.2.1 x.2.2.2.1
def Ayd(F:Nat):A2 Auo:=Af [(7,⟨AlT,Avw F F⟩),(2,⟨AlV,Avy F F⟩),(16,⟨Af0,AlX F F⟩),(13,⟨Af1,AlY F F⟩),(22,⟨Af4,AlZ F F⟩)]
def Aye(F:Nat):A2 Auo:=Af [(27,⟨Af2,ArI F⟩),(30,⟨Af3,ArK F⟩)]
theorem A5w(F:Nat)(fr:Frm)(hn:(Ayb F).ntmps=fr.n)(n:Nat):A4 Auo f26 fr [1,0,1,0,0,1,0,0,1,1,0,0] AlT (Avw F n) :=
 A5 (Ayd F) (Aye F) Avv rfl (Ayc F) hn (m:=fun n=>Avw F n) (fun _ _=>rfl) (fun n x K=>by kernel_rfl) (Al (by kernel_rfl)) n
theorem A5x(F:Nat)(fr:Frm)(hn:(Ayb F).ntmps=fr.n)(n:Nat):A4 Auo f26 fr [1,0,1,0,0] AlV (Avy F n) :=
 A5 (Ayd F) (Aye F) Avx rfl (Ayc F) hn (m:=fun n=>Avy F n) (fun _ _=>rfl) (fun n x K=>by kernel_rfl) (A0 (l:=[((.loop (sub (Ak f26) [1,0,1,0,0,1,0,0,1,1,0,0])),⟨AlT,Avw F F⟩)]) (by kernel_rfl) (Ai (A5w F fr hn F) Ar)) n
theorem A1d(F:Nat)(fr:Frm)(hn:(Ayb F).ntmps=fr.n)(n:Nat):A4 Auo f26 fr [1,1,1,0,1,0,0,1,0,0,1,0,0] Af0 (AlX F n) :=
 A5 (Ayd F) (Aye F) ArF rfl (Ayc F) hn (m:=fun n=>AlX F n) (fun _ _=>rfl) (fun n x K=>by kernel_rfl) (Al (by kernel_rfl)) n
theorem A1e(F:Nat)(fr:Frm)(hn:(Ayb F).ntmps=fr.n)(n:Nat):A4 Auo f26 fr [1,1,1,0,1,0,0] Af1 (AlY F n) :=
 A5 (Ayd F) (Aye F) ArG rfl (Ayc F) hn (m:=fun n=>AlY F n) (fun _ _=>rfl) (fun n x K=>by kernel_rfl) (A0 (l:=[((.loop (sub (Ak f26) [1,1,1,0,1,0,0,1,0,0,1,0,0])),⟨Af0,AlX F F⟩)]) (by kernel_rfl) (Ai (A1d F fr hn F) Ar)) n
theorem A1f(F:Nat)(fr:Frm)(hn:(Ayb F).ntmps=fr.n):Dz Auo f26 fr [1,1,1,1,1,1,0,1,0,0,1,0,0,1,1,0,1] Af2 (ArI F) :=
 D0 (Ayd F) (Aye F) ArH rfl (Ayc F) hn (fun x K=>by kernel_rfl) (Al (by kernel_rfl))
theorem A1g(F:Nat)(fr:Frm)(hn:(Ayb F).ntmps=fr.n):Dz Auo f26 fr [1,1,1,1,1,1,0,1,0,0,1,0,0,1,1,1] Af3 (ArK F) :=
 D0 (Ayd F) (Aye F) ArJ rfl (Ayc F) hn (fun x K=>by kernel_rfl) (Al (by kernel_rfl))
theorem A1h(F:Nat)(fr:Frm)(hn:(Ayb F).ntmps=fr.n)(n:Nat):A4 Auo f26 fr [1,1,1,1,1,1,0,1,0,0] Af4 (AlZ F n) :=
 A5 (Ayd F) (Aye F) ArL rfl (Ayc F) hn (m:=fun n=>AlZ F n) (fun _ _=>rfl) (fun n x K=>by kernel_rfl) (A0 (l:=[((sub (Ak f26) [1,1,1,1,1,1,0,1,0,0,1,0,0,1,1,0,1]),⟨Af2,ArI F⟩),((sub (Ak f26) [1,1,1,1,1,1,0,1,0,0,1,0,0,1,1,1]),⟨Af3,ArK F⟩)]) (by kernel_rfl) (Ai (A1f F fr hn) (Ai (A1g F fr hn) Ar))) n
theorem s26(F:Nat):CSound prog 26 (A5v F) :=
 Ao (fn:=f26) (Ayd F) (Aye F) rfl func26 (by kernel_rfl) (Ayc F) (fun fr hn=>(A0 (l:=[((.loop (sub (Ak f26) [1,0,1,0,0])),⟨AlV,Avy F F⟩),((.loop (sub (Ak f26) [1,1,1,0,1,0,0])),⟨Af1,AlY F F⟩),((.loop (sub (Ak f26) [1,1,1,1,1,1,0,1,0,0])),⟨Af4,AlZ F F⟩)]) (by kernel_rfl) (Ai (A5x F fr hn F) (Ai (A1e F fr hn F) (Ai (A1h F fr hn F) Ar))))) (fun x=>by kernel_rfl)
def sg8:Sig:=⟨[.bor],[(0,.box 0 Cp)],false,some (0,56),[Cp,(.slice A7),Ab]⟩
def BdY(F:Nat):Contract:=Ax sg8 fun x=>U2 F x.1
def cx8(F:Nat):Cx:=Aq [(23,A4H F),(25,A4I F),(24,A5o F),(26,A5v F)] [2,20] (1,26)
theorem cs8(F:Nat):Ah (cx8 F):=Ac (Aa (s23 F) (Aa (s25 F) (Aa (s24 F) (Aa (s26 F) Ad))))
theorem s8(F:Nat):CSound prog 8 (BdY F) :=
 Ao (fn:=f8) (Af []) (Af []) rfl func8 (by kernel_rfl) (cs8 F) (fun fr hn=>(Al (by kernel_rfl))) (fun x=>by kernel_rfl)
def A1i:Sig:=⟨[.ro],[(0,.d (.slice A7))],true,none,[Ab]⟩
def A1j(F:Nat):Contract:=Ax A1i fun x=>Jk F x.1
def A5y(F:Nat):Cx:=Aq [(42,Akg F),(43,Aph F)] [35] (0,133)
theorem A5z(F:Nat):Ah (A5y F):=Ac (Aa (s42 F) (Aa (s43 F) Ad))
def Am0:Ae:=[(0,.d (.slice A7)),(3,.d Ab),(4,.d Ab)]
def Am1:Ae:=[(0,.d (.slice A7))]
def Ado:Ae:=[(2,.d Ab)]
def Avz:Ck:=[(2,Am1),(1,Ado)]
def AvA(F n:Nat):Au Am0:=fun x K=>Im F (fun y0=>K (.exit 0) (enc Am1 (y0,()))) (fun y2=>K .ret (enc Ado (y2,()))) n x.1 x.2.1 x.2.2.1
def Af5:Ae:=[(0,.d (.slice A7)),(5,.own 5 .bool 4),(6,.d Ab),(7,.box 7 A7),(8,.d Ab)]
def AhV:Ae:=[(0,.d (.slice A7)),(5,.own 5 .bool 4),(6,.d Ab)]
def Abl:Ae:=[(2,.d Ab)]
def ArN:Ck:=[(6,AhV),(1,Abl)]
def Am2(F n:Nat):Au Af5:=fun x K=>Ei F (fun y0 y5 y6=>K (.exit 4) (enc AhV (y0,y5,y6,()))) (fun y2=>K .ret (enc Abl (y2,()))) n x.1 x.2.1 x.2.2.1 x.2.2.2.1 x.2.2.2.2.1
def Af6:Ae:=[(0,.d (.slice A7)),(5,.own 5 .bool 4),(6,.d Ab),(7,.box 7 A7)]
def AhW:Ae:=[(0,.d (.slice A7)),(5,.own 5 .bool 4),(6,.d Ab)]
def Abm:Ae:=[(2,.d Ab)]
def ArO:Ck:=[(0,AhW),(1,Abm)]
def ArP(F:Nat):Au Af6:=fun x K=>Hi F (fun y0 y5 y6=>K .normal (enc AhW (y0,y5,y6,()))) (fun y2=>K .ret (enc Abm (y2,()))) x.1 x.2.1 x.2.2.1 x.2.2.2.1
def Af7:Ae:=[(0,.d (.slice A7)),(5,.own 5 .bool 4),(6,.d Ab)]
def AhX:Ae:=[]
def Abn:Ae:=[(2,.d Ab)]
def ArQ:Ck:=[(4,AhX),(1,Abn)]
def Am3(F n:Nat):Au Af7:=fun x K=>C9 F (K (.exit 2) (enc AhX (()))) (fun y2=>K .ret (enc Abn (y2,()))) n x.1 x.2.1 x.2.2.1
def A5A(F:Nat):A2 A1i:=Af [(5,⟨Am0,AvA F F⟩),(20,⟨Af5,Am2 F F⟩),(12,⟨Af7,Am3 F F⟩)]
def A5B(F:Nat):A2 A1i:=Af [(19,⟨Af6,ArP F⟩)]
theorem A5C(F:Nat)(fr:Frm)(hn:(A5y F).ntmps=fr.n)(n:Nat):A4 A1i f14 fr [1,1,1,0,1,0,0] Am0 (AvA F n) :=
 A5 (A5A F) (A5B F) Avz rfl (A5z F) hn (m:=fun n=>AvA F n) (fun _ _=>rfl) (fun n x K=>by kernel_rfl) (Al (by kernel_rfl)) n
theorem A1k(F:Nat)(fr:Frm)(hn:(A5y F).ntmps=fr.n)(n:Nat):A4 A1i f14 fr [1,1,1,1,1,0,1,0,0,1,0,0,1,1,1,1,0,0] Af5 (Am2 F n) :=
 A5 (A5A F) (A5B F) ArN rfl (A5z F) hn (m:=fun n=>Am2 F n) (fun _ _=>rfl) (fun n x K=>by kernel_rfl) (Al (by kernel_rfl)) n
theorem A1l(F:Nat)(fr:Frm)(hn:(A5y F).ntmps=fr.n):Dz A1i f14 fr [1,1,1,1,1,0,1,0,0,1,0,0,1,1,1] Af6 (ArP F) :=
 D0 (A5A F) (A5B F) ArO rfl (A5z F) hn (fun x K=>by kernel_rfl) (A0 (l:=[((.loop (sub (Ak f14) [1,1,1,1,1,0,1,0,0,1,0,0,1,1,1,1,0,0])),⟨Af5,Am2 F F⟩)]) (by kernel_rfl) (Ai (A1k F fr hn F) Ar))
theorem A1m(F:Nat)(fr:Frm)(hn:(A5y F).ntmps=fr.n)(n:Nat):A4 A1i f14 fr [1,1,1,1,1,0,1,0,0] Af7 (Am3 F n) :=
 A5 (A5A F) (A5B F) ArQ rfl (A5z F) hn (m:=fun n=>Am3 F n) (fun _ _=>rfl) (fun n x K=>by kernel_rfl) (A0 (l:=[((sub (Ak f14) [1,1,1,1,1,0,1,0,0,1,0,0,1,1,1]),⟨Af6,ArP F⟩)]) (by kernel_rfl) (Ai (A1l F fr hn) Ar)) n
theorem s14(F:Nat):CSound prog 14 (A1j F) :=
 Ao (fn:=f14) (A5A F) (A5B F) rfl func14 (by kernel_rfl) (A5z F) (fun fr hn=>(A0 (l:=[((.loop (sub (Ak f14) [1,1,1,0,1,0,0])),⟨Am0,AvA F F⟩),((.loop (sub (Ak f14) [1,1,1,1,1,0,1,0,0])),⟨Af7,Am3 F F⟩)]) (by kernel_rfl) (Ai (A5C F fr hn F) (Ai (A1m F fr hn F) Ar)))) (fun x=>by kernel_rfl)
def A5D:Sig:=⟨[.ro,.ro],[(0,.d At),(1,.d tyV)],false,some (0,5),[At]⟩
def A5E(F:Nat):Contract:=Ax A5D fun x=>Ig F x.1 x.2.1
def BaI(F:Nat):Cx:=Aq [(65,AhH F),(123,AhF F),(131,AqY F),(90,AeB F)] [4,14] (0,65)
theorem BaJ(F:Nat):Ah (BaI F):=Ac (Aa (s65 F) (Aa (A8k F) (Aa (BdE F) (Aa (s90 F) Ad))))
def Am4:Ae:=[(5,.own 5 Ct 5),(7,.box 7 tyV),(8,.box 8 tyV),(12,.d Ct)]
def Am5:Ae:=[(5,.own 5 Ct 5),(12,.d Ct)]
def AvB:Ck:=[(2,Am5)]
def AvC(F n:Nat):Au Am4:=fun x K=>D5 F (fun y5 y12=>K (.exit 0) (enc Am5 (y5,y12,()))) n x.1 x.2.1 x.2.2.1 x.2.2.2.1
def Am6:Ae:=[(5,.own 5 Ct 5),(7,.box 7 tyV),(8,.box 8 tyV),(12,.d Ct)]
def Adp:Ae:=[(4,.own 4 Ct 5)]
def AvD:Ck:=[(1,Adp)]
def A1n(F:Nat):Au Am6:=fun x K=>Fv F (fun y4=>K .ret (enc Adp (y4,()))) x.1 x.2.1 x.2.2.1 x.2.2.2.1
def BaK(F:Nat):A2 A5D:=Af [(9,⟨Am4,AvC F F⟩)]
def BaL(F:Nat):A2 A5D:=Af [(9,⟨Am6,A1n F⟩)]
theorem A5F(F:Nat)(fr:Frm)(hn:(BaI F).ntmps=fr.n)(n:Nat):A4 A5D f76 fr [1,1,1,1,1,1,1,1,0,0,0] Am4 (AvC F n) :=
 A5 (BaK F) (BaL F) AvB rfl (BaJ F) hn (m:=fun n=>AvC F n) (fun _ _=>rfl) (fun n x K=>by kernel_rfl) (Al (by kernel_rfl)) n
theorem A5G(F:Nat)(fr:Frm)(hn:(BaI F).ntmps=fr.n):Dz A5D f76 fr [1,1,1,1,1,1,1,1] Am6 (A1n F) :=
 D0 (BaK F) (BaL F) AvD rfl (BaJ F) hn (fun x K=>by kernel_rfl) (A0 (l:=[((.loop (sub (Ak f76) [1,1,1,1,1,1,1,1,0,0,0])),⟨Am4,AvC F F⟩)]) (by kernel_rfl) (Ai (A5F F fr hn F) Ar))
theorem s76(F:Nat):CSound prog 76 (A5E F) :=
 Ao (fn:=f76) (BaK F) (BaL F) rfl func76 (by kernel_rfl) (BaJ F) (fun fr hn=>(A0 (l:=[((sub (Ak f76) [1,1,1,1,1,1,1,1]),⟨Am6,A1n F⟩)]) (by kernel_rfl) (Ai (A5G F fr hn) Ar))) (fun x=>by kernel_rfl)
def BgC:Sig:=⟨[.ro,.ro],[(0,.d At),(1,.d Bn)],false,some (0,5),[At]⟩
def A5H(F:Nat):Contract:=Ax BgC fun x=>J0 F x.1 x.2.1
def BgD(F:Nat):Cx:=Aq [(76,A5E F)] [4,11] (0,12)
theorem BgE(F:Nat):Ah (BgD F):=Ac (Aa (s76 F) Ad)
theorem s34(F:Nat):CSound prog 34 (A5H F) :=
 Ao (fn:=f34) (Af []) (Af []) rfl func34 (by kernel_rfl) (BgE F) (fun fr hn=>(Al (by kernel_rfl))) (fun x=>by kernel_rfl)
def BaN:Sig:=⟨[.ro,.ro],[(0,.d At),(1,.d Ag)],false,some (0,5),[At]⟩
def AvE(F:Nat):Contract:=Ax BaN fun x=>La F x.1 x.2.1
def BdZ(F:Nat):Cx:=Aq [] [4,6] (0,25)
theorem Be0(F:Nat):Ah (BdZ F):=Ac Ad
def Am7:Ae:=[(1,.d Ag),(5,.own 5 Ct 5)]
def Am8:Ae:=[(1,.d Ag),(5,.own 5 Ct 5)]
def AvF:Ck:=[(2,Am8)]
def AvG(F n:Nat):Au Am7:=fun x K=>Hj F (fun y1 y5=>K (.exit 0) (enc Am8 (y1,y5,()))) n x.1 x.2.1
def Be1(F:Nat):A2 BaN:=Af [(2,⟨Am7,AvG F F⟩)]
theorem A5I(F:Nat)(fr:Frm)(hn:(BdZ F).ntmps=fr.n)(n:Nat):A4 BaN f35 fr [1,1,0,0,0] Am7 (AvG F n) :=
 A5 (Be1 F) (Af []) AvF rfl (Be0 F) hn (m:=fun n=>AvG F n) (fun _ _=>rfl) (fun n x K=>by kernel_rfl) (Al (by kernel_rfl)) n
theorem s35(F:Nat):CSound prog 35 (AvE F) :=
 Ao (fn:=f35) (Be1 F) (Af []) rfl func35 (by kernel_rfl) (Be0 F) (fun fr hn=>(A0 (l:=[((.loop (sub (Ak f35) [1,1,0,0,0])),⟨Am7,AvG F F⟩)]) (by kernel_rfl) (Ai (A5I F fr hn F) Ar))) (fun x=>by kernel_rfl)
def BaO:Sig:=⟨[.ro,.ro],[(0,.d Ab),(1,.d Ab)],true,none,[Ag]⟩
def Ayf(F:Nat):Contract:=Ax BaO fun x=>Yf F x.1 x.2.1
def BaP(F:Nat):Cx:=Aq [] [] (0,10)
theorem BaQ(F:Nat):Ah (BaP F):=Ac Ad
theorem BgF(F:Nat):CSound prog 167 (Ayf F) :=
 Ao (fn:=f167) (Af []) (Af []) rfl func167 (by kernel_rfl) (BaQ F) (fun fr hn=>(Al (by kernel_rfl))) (fun x=>by kernel_rfl)
def A1o:Sig:=⟨[.ro],[(0,.d Bv)],false,some (0,2),[Bv]⟩
def Ayg(F:Nat):Contract:=Ax A1o fun x=>J1 F x.1
def A5J(F:Nat):Cx:=Aq [(167,Ayf F)] [2,3] (0,34)
theorem A5K(F:Nat):Ah (A5J F):=Ac (Aa (BgF F) Ad)
def Af8:Ae:=[(0,.d Bv),(3,.own 3 Ab 2),(4,.d Ab)]
def AhY:Ae:=[(3,.own 3 Ab 2)]
def ArS:Ck:=[(2,AhY)]
def Am9(F n:Nat):Au Af8:=fun x K=>Bd F (fun y3=>K (.exit 0) (enc AhY (y3,()))) n x.1 x.2.1 x.2.2.1
def A5L(F:Nat):A2 A1o:=Af [(3,⟨Af8,Am9 F F⟩)]
theorem A1p(F:Nat)(fr:Frm)(hn:(A5J F).ntmps=fr.n)(n:Nat):A4 A1o f132 fr [1,1,0,1,0,0] Af8 (Am9 F n) :=
 A5 (A5L F) (Af []) ArS rfl (A5K F) hn (m:=fun n=>Am9 F n) (fun _ _=>rfl) (fun n x K=>by kernel_rfl) (Al (by kernel_rfl)) n
theorem BgG(F:Nat):CSound prog 132 (Ayg F) :=
 Ao (fn:=f132) (A5L F) (Af []) rfl func132 (by kernel_rfl) (A5K F) (fun fr hn=>(A0 (l:=[((.loop (sub (Ak f132) [1,1,0,1,0,0])),⟨Af8,Am9 F F⟩)]) (by kernel_rfl) (Ai (A1p F fr hn F) Ar))) (fun x=>by kernel_rfl)
def BaS:Sig:=⟨[.ro],[(0,.d Ab)],true,none,[Ag]⟩
def Ayh(F:Nat):Contract:=Ax BaS fun x=>Qg F x.1
def BaT(F:Nat):Cx:=Aq [] [] (0,14)
theorem BaU(F:Nat):Ah (BaT F):=Ac Ad
theorem BgH(F:Nat):CSound prog 133 (Ayh F) :=
 Ao (fn:=f133) (Af []) (Af []) rfl func133 (by kernel_rfl) (BaU F) (fun fr hn=>(Al (by kernel_rfl))) (fun x=>by kernel_rfl)
def A8n:Sig:=⟨[.ro,.ro],[(0,.d Bv),(1,.d Ab)],false,some (0,49),[Aw,.bool]⟩
def A5N(F:Nat):Contract:=Ax A8n fun x=>Jl F x.1 x.2.1
def BaV(F:Nat):Cx:=Aq [(132,Ayg F),(133,Ayh F)] [4,24] (0,40)
theorem BaW(F:Nat):Ah (BaV F):=Ac (Aa (BgG F) (Aa (BgH F) Ad))
def Ama:Ae:=[(0,.d Bv),(1,.d Ab),(6,.d Ab)]
def Amb:Ae:=[(0,.d Bv)]
def AvH:Ck:=[(2,Amb)]
def AvI(F n:Nat):Au Ama:=fun x K=>Eo F (fun y0=>K (.exit 0) (enc Amb (y0,()))) n x.1 x.2.1 x.2.2.1
def Amc:Ae:=[(0,.d Bv),(7,.own 7 Ag 49),(8,.d Ab)]
def Amd:Ae:=[(7,.own 7 Ag 49)]
def AvJ:Ck:=[(4,Amd)]
def AvK(F n:Nat):Au Amc:=fun x K=>Ep F (fun y7=>K (.exit 2) (enc Amd (y7,()))) n x.1 x.2.1 x.2.2.1
def BaX(F:Nat):A2 A8n:=Af [(4,⟨Ama,AvI F F⟩),(9,⟨Amc,AvK F F⟩)]
theorem A5O(F:Nat)(fr:Frm)(hn:(BaV F).ntmps=fr.n)(n:Nat):A4 A8n f77 fr [1,1,0,1,0,0] Ama (AvI F n) :=
 A5 (BaX F) (Af []) AvH rfl (BaW F) hn (m:=fun n=>AvI F n) (fun _ _=>rfl) (fun n x K=>by kernel_rfl) (Al (by kernel_rfl)) n
theorem A5P(F:Nat)(fr:Frm)(hn:(BaV F).ntmps=fr.n)(n:Nat):A4 A8n f77 fr [1,1,1,1,0,1,0,0] Amc (AvK F n) :=
 A5 (BaX F) (Af []) AvJ rfl (BaW F) hn (m:=fun n=>AvK F n) (fun _ _=>rfl) (fun n x K=>by kernel_rfl) (Al (by kernel_rfl)) n
theorem s77(F:Nat):CSound prog 77 (A5N F) :=
 Ao (fn:=f77) (BaX F) (Af []) rfl func77 (by kernel_rfl) (BaW F) (fun fr hn=>(A0 (l:=[((.loop (sub (Ak f77) [1,1,0,1,0,0])),⟨Ama,AvI F F⟩),((.loop (sub (Ak f77) [1,1,1,1,0,1,0,0])),⟨Amc,AvK F F⟩)]) (by kernel_rfl) (Ai (A5O F fr hn F) (Ai (A5P F fr hn F) Ar)))) (fun x=>by kernel_rfl)
def BgI:Sig:=⟨[.ro],[(0,.d Ag)],true,none,[Ab]⟩
def A5Q(F:Nat):Contract:=Ax BgI fun x=>U3 F x.1
def BgJ(F:Nat):Cx:=Aq [(35,AvE F)] [] (0,6)
theorem BgK(F:Nat):Ah (BgJ F):=Ac (Aa (s35 F) Ad)
theorem s78(F:Nat):CSound prog 78 (A5Q F) :=
 Ao (fn:=f78) (Af []) (Af []) rfl func78 (by kernel_rfl) (BgK F) (fun fr hn=>(Al (by kernel_rfl))) (fun x=>by kernel_rfl)
def A8o:Sig:=⟨[.ro],[(0,.d Aw)],true,none,[Ab]⟩
def A1q(F:Nat):Contract:=Ax A8o fun x=>S0 F x.1
def BaY(F:Nat):Cx:=Aq [] [] (0,26)
theorem BaZ(F:Nat):Ah (BaY F):=Ac Ad
def Ame:Ae:=[(0,.d Aw),(3,.d Ab),(4,.d Ab)]
def Amf:Ae:=[(0,.d Aw),(3,.d Ab),(4,.d Ab)]
def AvL:Ck:=[(4,Amf)]
def AvN(F n:Nat):Au Ame:=fun x K=>G1 F (fun y0 y3 y4=>K (.exit 2) (enc Amf (y0,y3,y4,()))) n x.1 x.2.1 x.2.2.1
def Amg:Ae:=[(0,.d Aw),(3,.d Ab),(4,.d Ab)]
def Amh:Ae:=[(3,.d Ab)]
def AvO:Ck:=[(2,Amh)]
def AvP(F n:Nat):Au Amg:=fun x K=>G4 F (fun y3=>K (.exit 0) (enc Amh (y3,()))) n x.1 x.2.1 x.2.2.1
def Bb0(F:Nat):A2 A8o:=Af [(5,⟨Ame,AvN F F⟩),(3,⟨Amg,AvP F F⟩)]
theorem A5S(F:Nat)(fr:Frm)(hn:(BaY F).ntmps=fr.n)(n:Nat):A4 A8o f79 fr [1,1,0,1,0,0,1,0,0,0,0] Ame (AvN F n) :=
 A5 (Bb0 F) (Af []) AvL rfl (BaZ F) hn (m:=fun n=>AvN F n) (fun _ _=>rfl) (fun n x K=>by kernel_rfl) (Al (by kernel_rfl)) n
theorem A5T(F:Nat)(fr:Frm)(hn:(BaY F).ntmps=fr.n)(n:Nat):A4 A8o f79 fr [1,1,0,1,0,0] Amg (AvP F n) :=
 A5 (Bb0 F) (Af []) AvO rfl (BaZ F) hn (m:=fun n=>AvP F n) (fun _ _=>rfl) (fun n x K=>by kernel_rfl) (A0 (l:=[((.loop (sub (Ak f79) [1,1,0,1,0,0,1,0,0,0,0])),⟨Ame,AvN F F⟩)]) (by kernel_rfl) (Ai (A5S F fr hn F) Ar)) n
theorem s79(F:Nat):CSound prog 79 (A1q F) :=
 Ao (fn:=f79) (Bb0 F) (Af []) rfl func79 (by kernel_rfl) (BaZ F) (fun fr hn=>(A0 (l:=[((.loop (sub (Ak f79) [1,1,0,1,0,0])),⟨Amg,AvP F F⟩)]) (by kernel_rfl) (Ai (A5T F fr hn F) Ar))) (fun x=>by kernel_rfl)
def Bb1:Sig:=⟨[.ro,.ro],[(0,.d Ab),(1,.d Ab)],true,none,[Ab]⟩
def Ami(F:Nat):Contract:=Ax Bb1 fun x=>Pt F x.1 x.2.1
def Bb2(F:Nat):Cx:=Aq [] [] (0,24)
theorem Bb3(F:Nat):Ah (Bb2 F):=Ac Ad
theorem Bb4(F:Nat):CSound prog 134 (Ami F) :=
 Ao (fn:=f134) (Af []) (Af []) rfl func134 (by kernel_rfl) (Bb3 F) (fun fr hn=>(Al (by kernel_rfl))) (fun x=>by kernel_rfl)
def A8p:Sig:=⟨[.ro,.ro],[(0,.d Aw),(1,.d Ab)],false,some (0,5),[At,.bool]⟩
def A1r(F:Nat):Contract:=Ax A8p fun x=>Pb F x.1 x.2.1
def Bb5(F:Nat):Cx:=Aq [(134,Ami F),(79,A1q F)] [4,24] (0,62)
theorem Bb6(F:Nat):Ah (Bb5 F):=Ac (Aa (Bb4 F) (Aa (s79 F) Ad))
def Amj:Ae:=[(0,.d Aw),(1,.d Ab),(7,.own 7 Ct 5),(8,.d Ab),(9,.d Ab)]
def Amk:Ae:=[(0,.d Aw),(1,.d Ab),(7,.own 7 Ct 5),(8,.d Ab)]
def AvQ:Ck:=[(4,Amk)]
def AvS(F n:Nat):Au Amj:=fun x K=>J2 F (fun y0 y1 y7 y8=>K (.exit 2) (enc Amk (y0,y1,y7,y8,()))) n x.1 x.2.1 x.2.2.1 x.2.2.2.1 x.2.2.2.2.1
def Aml:Ae:=[(0,.d Aw),(1,.d Ab),(7,.own 7 Ct 5),(8,.d Ab)]
def Amm:Ae:=[(7,.own 7 Ct 5)]
def AvT:Ck:=[(2,Amm)]
def AvU(F n:Nat):Au Aml:=fun x K=>H2 F (fun y7=>K (.exit 0) (enc Amm (y7,()))) n x.1 x.2.1 x.2.2.1 x.2.2.2.1
def Bb7(F:Nat):A2 A8p:=Af [(9,⟨Amj,AvS F F⟩),(6,⟨Aml,AvU F F⟩)]
theorem A5U(F:Nat)(fr:Frm)(hn:(Bb5 F).ntmps=fr.n)(n:Nat):A4 A8p f80 fr [1,1,1,1,0,1,0,0,1,0,0,1,0,0] Amj (AvS F n) :=
 A5 (Bb7 F) (Af []) AvQ rfl (Bb6 F) hn (m:=fun n=>AvS F n) (fun _ _=>rfl) (fun n x K=>by kernel_rfl) (Al (by kernel_rfl)) n
theorem A5V(F:Nat)(fr:Frm)(hn:(Bb5 F).ntmps=fr.n)(n:Nat):A4 A8p f80 fr [1,1,1,1,0,1,0,0] Aml (AvU F n) :=
 A5 (Bb7 F) (Af []) AvT rfl (Bb6 F) hn (m:=fun n=>AvU F n) (fun _ _=>rfl) (fun n x K=>by kernel_rfl) (A0 (l:=[((.loop (sub (Ak f80) [1,1,1,1,0,1,0,0,1,0,0,1,0,0])),⟨Amj,AvS F F⟩)]) (by kernel_rfl) (Ai (A5U F fr hn F) Ar)) n
theorem s80(F:Nat):CSound prog 80 (A1r F) :=
 Ao (fn:=f80) (Bb7 F) (Af []) rfl func80 (by kernel_rfl) (Bb6 F) (fun fr hn=>(A0 (l:=[((.loop (sub (Ak f80) [1,1,1,1,0,1,0,0])),⟨Aml,AvU F F⟩)]) (by kernel_rfl) (Ai (A5V F fr hn F) Ar))) (fun x=>by kernel_rfl)
def A8q:Sig:=⟨[.ro],[(0,.d Aw)],false,some (0,5),[At,Ab]⟩
def AvV(F:Nat):Contract:=Ax A8q fun x=>Fl F x.1
def Bb8(F:Nat):Cx:=Aq [(78,A5Q F),(79,A1q F),(80,A1r F),(35,AvE F)] [2,42,46] (0,61)
theorem Bb9(F:Nat):Ah (Bb8 F):=Ac (Aa (s78 F) (Aa (s79 F) (Aa (s80 F) (Aa (s35 F) Ad))))
def Amn:Ae:=[(0,.d Aw),(4,.d Ab),(5,.d Ab)]
def Amo:Ae:=[(0,.d Aw),(4,.d Ab)]
def AvW:Ck:=[(2,Amo)]
def AvX(F n:Nat):Au Amn:=fun x K=>Hk F (fun y0 y4=>K (.exit 0) (enc Amo (y0,y4,()))) n x.1 x.2.1 x.2.2.1
def Af9:Ae:=[(0,.d Aw),(9,.own 9 Ct 5),(10,.d Ab)]
def AhZ:Ae:=[(9,.own 9 Ct 5)]
def ArT:Ck:=[(4,AhZ)]
def Amp(F n:Nat):Au Af9:=fun x K=>F2 F (fun y9=>K (.exit 2) (enc AhZ (y9,()))) n x.1 x.2.1 x.2.2.1
def Bba(F:Nat):A2 A8q:=Af [(5,⟨Amn,AvX F F⟩),(14,⟨Af9,Amp F F⟩)]
theorem A5W(F:Nat)(fr:Frm)(hn:(Bb8 F).ntmps=fr.n)(n:Nat):A4 A8q f37 fr [1,1,1,0,1,0,0] Amn (AvX F n) :=
 A5 (Bba F) (Af []) AvW rfl (Bb9 F) hn (m:=fun n=>AvX F n) (fun _ _=>rfl) (fun n x K=>by kernel_rfl) (Al (by kernel_rfl)) n
theorem A1s(F:Nat)(fr:Frm)(hn:(Bb8 F).ntmps=fr.n)(n:Nat):A4 A8q f37 fr [1,1,1,1,1,1,1,1,0,1,0,0] Af9 (Amp F n) :=
 A5 (Bba F) (Af []) ArT rfl (Bb9 F) hn (m:=fun n=>Amp F n) (fun _ _=>rfl) (fun n x K=>by kernel_rfl) (Al (by kernel_rfl)) n
theorem s37(F:Nat):CSound prog 37 (AvV F) :=
 Ao (fn:=f37) (Bba F) (Af []) rfl func37 (by kernel_rfl) (Bb9 F) (fun fr hn=>(A0 (l:=[((.loop (sub (Ak f37) [1,1,1,0,1,0,0])),⟨Amn,AvX F F⟩),((.loop (sub (Ak f37) [1,1,1,1,1,1,1,1,0,1,0,0])),⟨Af9,Amp F F⟩)]) (by kernel_rfl) (Ai (A5W F fr hn F) (Ai (A1s F fr hn F) Ar)))) (fun x=>by kernel_rfl)
def Bbb:Sig:=⟨[.ro],[(0,.d Bv)],false,some (0,5),[At,Ab]⟩
def A1t(F:Nat):Contract:=Ax Bbb fun x=>Oc F x.1
def Be2(F:Nat):Cx:=Aq [(77,A5N F),(37,AvV F)] [2,4,40] (0,44)
theorem Be3(F:Nat):Ah (Be2 F):=Ac (Aa (s77 F) (Aa (s37 F) Ad))
def Amq:Ae:=[(0,.d Bv),(4,.own 4 Ct 5),(5,.d Ab)]
def Amr:Ae:=[(4,.own 4 Ct 5)]
def AvY:Ck:=[(2,Amr)]
def AvZ(F n:Nat):Au Amq:=fun x K=>Bx F (fun y4=>K (.exit 0) (enc Amr (y4,()))) n x.1 x.2.1 x.2.2.1
def Be4(F:Nat):A2 Bbb:=Af [(5,⟨Amq,AvZ F F⟩)]
theorem A5X(F:Nat)(fr:Frm)(hn:(Be2 F).ntmps=fr.n)(n:Nat):A4 Bbb f36 fr [1,1,1,0,1,0,0] Amq (AvZ F n) :=
 A5 (Be4 F) (Af []) AvY rfl (Be3 F) hn (m:=fun n=>AvZ F n) (fun _ _=>rfl) (fun n x K=>by kernel_rfl) (Al (by kernel_rfl)) n
theorem s36(F:Nat):CSound prog 36 (A1t F) :=
 Ao (fn:=f36) (Be4 F) (Af []) rfl func36 (by kernel_rfl) (Be3 F) (fun fr hn=>(A0 (l:=[((.loop (sub (Ak f36) [1,1,1,0,1,0,0])),⟨Amq,AvZ F F⟩)]) (by kernel_rfl) (Ai (A5X F fr hn F) Ar))) (fun x=>by kernel_rfl)
def Bbc:Sig:=⟨[.ro],[(0,.d Bv)],false,some (0,49),[Aw]⟩
def A5Y(F:Nat):Contract:=Ax Bbc fun x=>U4 F x.1
def Be5(F:Nat):Cx:=Aq [] [2,3] (0,21)
theorem Be6(F:Nat):Ah (Be5 F):=Ac Ad
def Ams:Ae:=[(0,.d Bv),(3,.own 3 Ag 49),(4,.d Ab)]
def Amt:Ae:=[(3,.own 3 Ag 49)]
def Aw0:Ck:=[(2,Amt)]
def Aw1(F n:Nat):Au Ams:=fun x K=>J3 F (fun y3=>K (.exit 0) (enc Amt (y3,()))) n x.1 x.2.1 x.2.2.1
def Be7(F:Nat):A2 Bbc:=Af [(3,⟨Ams,Aw1 F F⟩)]
theorem A5Z(F:Nat)(fr:Frm)(hn:(Be5 F).ntmps=fr.n)(n:Nat):A4 Bbc f38 fr [1,1,0,1,0,0] Ams (Aw1 F n) :=
 A5 (Be7 F) (Af []) Aw0 rfl (Be6 F) hn (m:=fun n=>Aw1 F n) (fun _ _=>rfl) (fun n x K=>by kernel_rfl) (Al (by kernel_rfl)) n
theorem s38(F:Nat):CSound prog 38 (A5Y F) :=
 Ao (fn:=f38) (Be7 F) (Af []) rfl func38 (by kernel_rfl) (Be6 F) (fun fr hn=>(A0 (l:=[((.loop (sub (Ak f38) [1,1,0,1,0,0])),⟨Ams,Aw1 F F⟩)]) (by kernel_rfl) (Ai (A5Z F fr hn F) Ar))) (fun x=>by kernel_rfl)
def A8r:Sig:=⟨[.ro],[(0,.d (.slice A7))],false,some (0,5),[At,Ab]⟩
def A60(F:Nat):Contract:=Ax A8r fun x=>Qh F x.1
def Bbd(F:Nat):Cx:=Aq [(14,A1j F),(34,A5H F),(35,AvE F),(36,A1t F),(38,A5Y F),(37,AvV F)] [2,5,6,7,94] (0,120)
theorem Bbe(F:Nat):Ah (Bbd F):=Ac (Aa (s14 F) (Aa (s34 F) (Aa (s35 F) (Aa (s36 F) (Aa (s38 F) (Aa (s37 F) Ad))))))
def Afa:Ae:=[(0,.d (.slice A7)),(5,.own 5 Ab 2),(6,.own 6 Ab 3),(7,.own 7 Ag 49),(8,.d At),(9,.d Ab),(10,.d Ab)]
def Ai0:Ae:=[(0,.d (.slice A7)),(5,.own 5 Ab 2),(6,.own 6 Ab 3),(7,.own 7 Ag 49),(8,.d At),(9,.d Ab)]
def ArU:Ck:=[(4,Ai0)]
def Amu(F n:Nat):Au Afa:=fun x K=>Dt F (fun y0 y5 y6 y7 y8 y9=>K (.exit 2) (enc Ai0 (y0,y5,y6,y7,y8,y9,()))) n x.1 x.2.1 x.2.2.1 x.2.2.2.1 x.2.2.2.2.1 x.2.2.2.2.2.1 x.2.2.2.2.2.2.1
def Amv:Ae:=[(0,.d (.slice A7)),(5,.own 5 Ab 2),(6,.own 6 Ab 3),(7,.own 7 Ag 49),(8,.d At),(9,.d Ab)]
def Amw:Ae:=[(0,.d (.slice A7)),(5,.own 5 Ab 2),(6,.own 6 Ab 3),(7,.own 7 Ag 49),(8,.d At)]
def Aw2:Ck:=[(2,Amw)]
def Aw3(F n:Nat):Au Amv:=fun x K=>Ej F (fun y0 y5 y6 y7 y8=>K (.exit 0) (enc Amw (y0,y5,y6,y7,y8,()))) n x.1 x.2.1 x.2.2.1 x.2.2.2.1 x.2.2.2.2.1 x.2.2.2.2.2.1
def Bbf(F:Nat):A2 A8r:=Af [(15,⟨Afa,Amu F F⟩),(9,⟨Amv,Aw3 F F⟩)]
theorem A1u(F:Nat)(fr:Frm)(hn:(Bbd F).ntmps=fr.n)(n:Nat):A4 A8r f11 fr [1,1,1,1,1,1,0,1,0,0,1,0,0,1,1,1,1,0,0] Afa (Amu F n) :=
 A5 (Bbf F) (Af []) ArU rfl (Bbe F) hn (m:=fun n=>Amu F n) (fun _ _=>rfl) (fun n x K=>by kernel_rfl) (Al (by kernel_rfl)) n
theorem A61(F:Nat)(fr:Frm)(hn:(Bbd F).ntmps=fr.n)(n:Nat):A4 A8r f11 fr [1,1,1,1,1,1,0,1,0,0] Amv (Aw3 F n) :=
 A5 (Bbf F) (Af []) Aw2 rfl (Bbe F) hn (m:=fun n=>Aw3 F n) (fun _ _=>rfl) (fun n x K=>by kernel_rfl) (A0 (l:=[((.loop (sub (Ak f11) [1,1,1,1,1,1,0,1,0,0,1,0,0,1,1,1,1,0,0])),⟨Afa,Amu F F⟩)]) (by kernel_rfl) (Ai (A1u F fr hn F) Ar)) n
theorem s11(F:Nat):CSound prog 11 (A60 F) :=
 Ao (fn:=f11) (Bbf F) (Af []) rfl func11 (by kernel_rfl) (Bbe F) (fun fr hn=>(A0 (l:=[((.loop (sub (Ak f11) [1,1,1,1,1,1,0,1,0,0])),⟨Amv,Aw3 F F⟩)]) (by kernel_rfl) (Ai (A61 F fr hn F) Ar))) (fun x=>by kernel_rfl)
def Bbg:Sig:=⟨[.bor],[(0,.box 0 Cp)],false,some (0,5),[Cp,At]⟩
def A62(F:Nat):Contract:=Ax Bbg fun x=>S1 F x.1
def Be8(F:Nat):Cx:=Aq [(19,Aba F)] [2,20] (1,33)
theorem Be9(F:Nat):Ah (Be8 F):=Ac (Aa (s19 F) Ad)
def Amx:Ae:=[(0,.box 0 Cp),(3,.d Ab),(4,.own 4 Ct 5),(5,.d Ab)]
def Amy:Ae:=[(0,.box 0 Cp),(4,.own 4 Ct 5)]
def Aw4:Ck:=[(2,Amy)]
def Aw5(F n:Nat):Au Amx:=fun x K=>Ip F (fun y0 y4=>K (.exit 0) (enc Amy (y0,y4,()))) n x.1 x.2.1 x.2.2.1 x.2.2.2.1
def Bea(F:Nat):A2 Bbg:=Af [(4,⟨Amx,Aw5 F F⟩)]
theorem A63(F:Nat)(fr:Frm)(hn:(Be8 F).ntmps=fr.n)(n:Nat):A4 Bbg f17 fr [1,1,1,0,1,0,0] Amx (Aw5 F n) :=
 A5 (Bea F) (Af []) Aw4 rfl (Be9 F) hn (m:=fun n=>Aw5 F n) (fun _ _=>rfl) (fun n x K=>by kernel_rfl) (Al (by kernel_rfl)) n
theorem s17(F:Nat):CSound prog 17 (A62 F) :=
 Ao (fn:=f17) (Bea F) (Af []) rfl func17 (by kernel_rfl) (Be9 F) (fun fr hn=>(A0 (l:=[((.loop (sub (Ak f17) [1,1,1,0,1,0,0])),⟨Amx,Aw5 F F⟩)]) (by kernel_rfl) (Ai (A63 F fr hn F) Ar))) (fun x=>by kernel_rfl)
def Bbh:Sig:=⟨[.ro],[(0,.d (.slice A7))],true,none,[Ab]⟩
def A64(F:Nat):Contract:=Ax Bbh fun x=>Jm F x.1
def Beb(F:Nat):Cx:=Aq [] [] (0,19)
theorem Bec(F:Nat):Ah (Beb F):=Ac Ad
def Amz:Ae:=[(3,.d Ab),(6,.d (.slice A7)),(7,.d Ab),(8,.d Ab)]
def AmA:Ae:=[(3,.d Ab)]
def Aw6:Ck:=[(2,AmA)]
def Aw7(F n:Nat):Au Amz:=fun x K=>Er F (fun y3=>K (.exit 0) (enc AmA (y3,()))) n x.1 x.2.1 x.2.2.1 x.2.2.2.1
def Bed(F:Nat):A2 Bbh:=Af [(3,⟨Amz,Aw7 F F⟩)]
theorem A65(F:Nat)(fr:Frm)(hn:(Beb F).ntmps=fr.n)(n:Nat):A4 Bbh f39 fr [1,1,0,1,0,0] Amz (Aw7 F n) :=
 A5 (Bed F) (Af []) Aw6 rfl (Bec F) hn (m:=fun n=>Aw7 F n) (fun _ _=>rfl) (fun n x K=>by kernel_rfl) (Al (by kernel_rfl)) n
theorem s39(F:Nat):CSound prog 39 (A64 F) :=
 Ao (fn:=f39) (Bed F) (Af []) rfl func39 (by kernel_rfl) (Bec F) (fun fr hn=>(A0 (l:=[((.loop (sub (Ak f39) [1,1,0,1,0,0])),⟨Amz,Aw7 F F⟩)]) (by kernel_rfl) (Ai (A65 F fr hn F) Ar))) (fun x=>by kernel_rfl)
def BgL:Sig:=⟨[.ro],[(0,.d tyV)],true,none,[.bool]⟩
def ArV(F:Nat):Contract:=Ax BgL fun x=>J4 F x.1
def BgN(F:Nat):Cx:=Aq [] [] (0,12)
theorem BgO(F:Nat):Ah (BgN F):=Ac Ad
theorem s81(F:Nat):CSound prog 81 (ArV F) :=
 Ao (fn:=f81) (Af []) (Af []) rfl func81 (by kernel_rfl) (BgO F) (fun fr hn=>(Al (by kernel_rfl))) (fun x=>by kernel_rfl)
def Bbi:Sig:=⟨[.ro],[(0,.d tyV)],true,none,[tyV]⟩
def Adq(F:Nat):Contract:=Ax Bbi fun x=>F3 F x.1
def Bbj(F:Nat):Cx:=Aq [(81,ArV F)] [] (0,8)
theorem Bbk(F:Nat):Ah (Bbj F):=Ac (Aa (s81 F) Ad)
theorem A66(F:Nat):CSound prog 135 (Adq F) :=
 Ao (fn:=f135) (Af []) (Af []) rfl func135 (by kernel_rfl) (Bbk F) (fun fr hn=>(Al (by kernel_rfl))) (fun x=>by kernel_rfl)
def BgP:Sig:=⟨[.ro],[(0,.d tyV)],true,none,[Ab]⟩
def ArW(F:Nat):Contract:=Ax BgP fun x=>Ls F x.1
def BgQ(F:Nat):Cx:=Aq [(135,Adq F)] [] (0,13)
theorem BgS(F:Nat):Ah (BgQ F):=Ac (Aa (A66 F) Ad)
theorem s82(F:Nat):CSound prog 82 (ArW F) :=
 Ao (fn:=f82) (Af []) (Af []) rfl func82 (by kernel_rfl) (BgS F) (fun fr hn=>(Al (by kernel_rfl))) (fun x=>by kernel_rfl)
def BgT:Sig:=⟨[.ro],[(0,.d tyV)],true,none,[.bool]⟩
def A67(F:Nat):Contract:=Ax BgT fun x=>Pu F x.1
def BgU(F:Nat):Cx:=Aq [] [] (0,20)
theorem BgV(F:Nat):Ah (BgU F):=Ac Ad
theorem s83(F:Nat):CSound prog 83 (A67 F) :=
 Ao (fn:=f83) (Af []) (Af []) rfl func83 (by kernel_rfl) (BgV F) (fun fr hn=>(Al (by kernel_rfl))) (fun x=>by kernel_rfl)
def A1v:Sig:=⟨[.ro],[(0,.d (.arr 4 Ag))],true,none,[Ab]⟩
def Ayi(F:Nat):Contract:=Ax A1v fun x=>Pv F x.1
def A68(F:Nat):Cx:=Aq [(166,Ad7 F)] [] (0,19)
theorem A69(F:Nat):Ah (A68 F):=Ac (Aa (A4D F) Ad)
def Afb:Ae:=[(1,.box 1 (.arr 4 Ag)),(3,.d Ab)]
def Ai1:Ae:=[]
def Abo:Ae:=[(2,.d Ab)]
def ArX:Ck:=[(2,Ai1),(1,Abo)]
def AmB(F n:Nat):Au Afb:=fun x K=>Fm F (K (.exit 0) (enc Ai1 (()))) (fun y2=>K .ret (enc Abo (y2,()))) n x.1 x.2.1
def A6a(F:Nat):A2 A1v:=Af [(2,⟨Afb,AmB F F⟩)]
theorem A1w(F:Nat)(fr:Frm)(hn:(A68 F).ntmps=fr.n)(n:Nat):A4 A1v f187 fr [1,0,1,0,0] Afb (AmB F n) :=
 A5 (A6a F) (Af []) ArX rfl (A69 F) hn (m:=fun n=>AmB F n) (fun _ _=>rfl) (fun n x K=>by kernel_rfl) (Al (by kernel_rfl)) n
theorem BgW(F:Nat):CSound prog 187 (Ayi F) :=
 Ao (fn:=f187) (A6a F) (Af []) rfl func187 (by kernel_rfl) (A69 F) (fun fr hn=>(A0 (l:=[((.loop (sub (Ak f187) [1,0,1,0,0])),⟨Afb,AmB F F⟩)]) (by kernel_rfl) (Ai (A1w F fr hn F) Ar))) (fun x=>by kernel_rfl)
def ArY:Sig:=⟨[.ro,.ro],[(0,.d (.arr 4 Ag)),(1,.d Ab)],true,none,[(.arr 4 Ag)]⟩
def Ayj(F:Nat):Contract:=Ax ArY fun x=>Xa F x.1 x.2.1
def A1x(F:Nat):Cx:=Aq [] [] (0,48)
theorem A1y(F:Nat):Ah (A1x F):=Ac Ad
def Afc:Ae:=[(2,.box 2 (.arr 4 Ag)),(4,.box 4 (.arr 4 Ag)),(5,.d Ab),(6,.d Ab),(7,.d Ab),(32,.d .bool)]
def Ai2:Ae:=[(2,.box 2 (.arr 4 Ag)),(4,.box 4 (.arr 4 Ag)),(5,.d Ab),(6,.d Ab),(7,.d Ab)]
def ArZ:Ck:=[(0,Ai2)]
def As0(F:Nat):Au Afc:=fun x K=>Qi F (fun y2 y4 y5 y6 y7=>K .normal (enc Ai2 (y2,y4,y5,y6,y7,()))) x.1 x.2.1 x.2.2.1 x.2.2.2.1 x.2.2.2.2.1 x.2.2.2.2.2.1
def Afd:Ae:=[(2,.box 2 (.arr 4 Ag)),(4,.box 4 (.arr 4 Ag)),(5,.d Ab),(6,.d Ab),(7,.d Ab)]
def Ai3:Ae:=[(4,.box 4 (.arr 4 Ag))]
def As1:Ck:=[(2,Ai3)]
def AmC(F n:Nat):Au Afd:=fun x K=>Du F (fun y4=>K (.exit 0) (enc Ai3 (y4,()))) n x.1 x.2.1 x.2.2.1 x.2.2.2.1 x.2.2.2.2.1
def A1z(F:Nat):A2 ArY:=Af [(3,⟨Afd,AmC F F⟩)]
def A1A(F:Nat):A2 ArY:=Af [(7,⟨Afc,As0 F⟩)]
theorem A1B(F:Nat)(fr:Frm)(hn:(A1x F).ntmps=fr.n):Dz ArY f188 fr [1,1,0,1,0,0,1,0,0,1,1] Afc (As0 F) :=
 D0 (A1z F) (A1A F) ArZ rfl (A1y F) hn (fun x K=>by kernel_rfl) (Al (by kernel_rfl))
theorem A1C(F:Nat)(fr:Frm)(hn:(A1x F).ntmps=fr.n)(n:Nat):A4 ArY f188 fr [1,1,0,1,0,0] Afd (AmC F n) :=
 A5 (A1z F) (A1A F) As1 rfl (A1y F) hn (m:=fun n=>AmC F n) (fun _ _=>rfl) (fun n x K=>by kernel_rfl) (A0 (l:=[((sub (Ak f188) [1,1,0,1,0,0,1,0,0,1,1]),⟨Afc,As0 F⟩)]) (by kernel_rfl) (Ai (A1B F fr hn) Ar)) n
theorem BgX(F:Nat):CSound prog 188 (Ayj F) :=
 Ao (fn:=f188) (A1z F) (A1A F) rfl func188 (by kernel_rfl) (A1y F) (fun fr hn=>(A0 (l:=[((.loop (sub (Ak f188) [1,1,0,1,0,0])),⟨Afd,AmC F F⟩)]) (by kernel_rfl) (Ai (A1C F fr hn F) Ar))) (fun x=>by kernel_rfl)
def Bbl:Sig:=⟨[.ro],[(0,.d Ag)],true,none,[.bool]⟩
def Ayk(F:Nat):Contract:=Ax Bbl fun x=>Kp F x.1
def Bbm(F:Nat):Cx:=Aq [] [] (0,6)
theorem Bbn(F:Nat):Ah (Bbm F):=Ac Ad
theorem BgY(F:Nat):CSound prog 193 (Ayk F) :=
 Ao (fn:=f193) (Af []) (Af []) rfl func193 (by kernel_rfl) (Bbn F) (fun fr hn=>(Al (by kernel_rfl))) (fun x=>by kernel_rfl)
def Bbo:Sig:=⟨[.ro,.ro],[(0,.d Ag),(1,.d Ag)],true,none,[Ab]⟩
def Ayl(F:Nat):Contract:=Ax Bbo fun x=>Do F x.1 x.2.1
def Bbp(F:Nat):Cx:=Aq [(193,Ayk F)] [] (0,20)
theorem Bbq(F:Nat):Ah (Bbp F):=Ac (Aa (BgY F) Ad)
theorem BgZ(F:Nat):CSound prog 190 (Ayl F) :=
 Ao (fn:=f190) (Af []) (Af []) rfl func190 (by kernel_rfl) (Bbq F) (fun fr hn=>(Al (by kernel_rfl))) (fun x=>by kernel_rfl)
def Bbr:Sig:=⟨[.ro],[(0,.d Bv)],true,none,[Ab]⟩
def A1D(F:Nat):Contract:=Ax Bbr fun x=>Ni F x.1
def Bee(F:Nat):Cx:=Aq [] [] (0,18)
theorem Bef(F:Nat):Ah (Bee F):=Ac Ad
def AmD:Ae:=[(3,.d Ab),(6,.d Bv),(7,.d Ab),(8,.d Ab)]
def AmE:Ae:=[(3,.d Ab)]
def Adr:Ae:=[(2,.d Ab)]
def Aw8:Ck:=[(2,AmE),(1,Adr)]
def Aw9(F n:Nat):Au AmD:=fun x K=>Ec F (fun y3=>K (.exit 0) (enc AmE (y3,()))) (fun y2=>K .ret (enc Adr (y2,()))) n x.1 x.2.1 x.2.2.1 x.2.2.2.1
def Beg(F:Nat):A2 Bbr:=Af [(3,⟨AmD,Aw9 F F⟩)]
theorem A6b(F:Nat)(fr:Frm)(hn:(Bee F).ntmps=fr.n)(n:Nat):A4 Bbr f86 fr [1,1,0,1,0,0] AmD (Aw9 F n) :=
 A5 (Beg F) (Af []) Aw8 rfl (Bef F) hn (m:=fun n=>Aw9 F n) (fun _ _=>rfl) (fun n x K=>by kernel_rfl) (Al (by kernel_rfl)) n
theorem s86(F:Nat):CSound prog 86 (A1D F) :=
 Ao (fn:=f86) (Beg F) (Af []) rfl func86 (by kernel_rfl) (Bef F) (fun fr hn=>(A0 (l:=[((.loop (sub (Ak f86) [1,1,0,1,0,0])),⟨AmD,Aw9 F F⟩)]) (by kernel_rfl) (Ai (A6b F fr hn F) Ar))) (fun x=>by kernel_rfl)
def Bbs:Sig:=⟨[.ro,.ro],[(0,.d (.arr 4 Ag)),(1,.d (.arr 4 Ag))],true,none,[Ab]⟩
def As2(F:Nat):Contract:=Ax Bbs fun x=>Lb F x.1 x.2.1
def Bbt(F:Nat):Cx:=Aq [(190,Ayl F),(86,A1D F)] [] (0,27)
theorem Bbu(F:Nat):Ah (Bbt F):=Ac (Aa (BgZ F) (Aa (s86 F) Ad))
theorem Beh(F:Nat):CSound prog 173 (As2 F) :=
 Ao (fn:=f173) (Af []) (Af []) rfl func173 (by kernel_rfl) (Bbu F) (fun fr hn=>(Al (by kernel_rfl))) (fun x=>by kernel_rfl)
def A1E:Sig:=⟨[.ro,.ro],[(0,.d (.arr 4 Ag)),(1,.d (.arr 4 Ag))],true,none,[(.arr 4 Ag)]⟩
def As3(F:Nat):Contract:=Ax A1E fun x=>Xb F x.1 x.2.1
def A6c(F:Nat):Cx:=Aq [(186,Alg F)] [] (0,25)
theorem A6d(F:Nat):Ah (A6c F):=Ac (Gu (A9C F) Ad)
def Afe:Ae:=[(2,.box 2 (.arr 4 Ag)),(3,.box 3 (.arr 4 Ag)),(4,.box 4 (.arr 4 Ag)),(5,.d Ag),(7,.d Ab)]
def Ai4:Ae:=[(4,.box 4 (.arr 4 Ag))]
def As4:Ck:=[(2,Ai4)]
def AmF(F n:Nat):Au Afe:=fun x K=>Jn F (fun y4=>K (.exit 0) (enc Ai4 (y4,()))) n x.1 x.2.1 x.2.2.1 x.2.2.2.1 x.2.2.2.2.1
def A6e(F:Nat):A2 A1E:=Af [(3,⟨Afe,AmF F F⟩)]
theorem A1F(F:Nat)(fr:Frm)(hn:(A6c F).ntmps=fr.n)(n:Nat):A4 A1E f170 fr [1,1,0,1,0,0] Afe (AmF F n) :=
 A5 (A6e F) (Af []) As4 rfl (A6d F) hn (m:=fun n=>AmF F n) (fun _ _=>rfl) (fun n x K=>by kernel_rfl) (Al (by kernel_rfl)) n
theorem Bei(F:Nat):CSound prog 170 (As3 F) :=
 Ao (fn:=f170) (A6e F) (Af []) rfl func170 (by kernel_rfl) (A6d F) (fun fr hn=>(A0 (l:=[((.loop (sub (Ak f170) [1,1,0,1,0,0])),⟨Afe,AmF F F⟩)]) (by kernel_rfl) (Ai (A1F F fr hn F) Ar))) (fun x=>by kernel_rfl)
def A1G:Sig:=⟨[.ro],[(0,.d (.arr 4 Ag))],true,none,[(.arr 4 Ag)]⟩
def Aym(F:Nat):Contract:=Ax A1G fun x=>Pw F x.1
def A6f(F:Nat):Cx:=Aq [] [] (0,27)
theorem A6g(F:Nat):Ah (A6f F):=Ac Ad
def Aff:Ae:=[(1,.box 1 (.arr 4 Ag)),(2,.box 2 (.arr 4 Ag)),(4,.d Ab)]
def Ai5:Ae:=[(2,.box 2 (.arr 4 Ag))]
def As5:Ck:=[(2,Ai5)]
def AmG(F n:Nat):Au Aff:=fun x K=>Ed F (fun y2=>K (.exit 0) (enc Ai5 (y2,()))) n x.1 x.2.1 x.2.2.1
def A6h(F:Nat):A2 A1G:=Af [(2,⟨Aff,AmG F F⟩)]
theorem A1H(F:Nat)(fr:Frm)(hn:(A6f F).ntmps=fr.n)(n:Nat):A4 A1G f189 fr [1,0,1,0,0] Aff (AmG F n) :=
 A5 (A6h F) (Af []) As5 rfl (A6g F) hn (m:=fun n=>AmG F n) (fun _ _=>rfl) (fun n x K=>by kernel_rfl) (Al (by kernel_rfl)) n
theorem Bh0(F:Nat):CSound prog 189 (Aym F) :=
 Ao (fn:=f189) (A6h F) (Af []) rfl func189 (by kernel_rfl) (A6g F) (fun fr hn=>(A0 (l:=[((.loop (sub (Ak f189) [1,0,1,0,0])),⟨Aff,AmG F F⟩)]) (by kernel_rfl) (Ai (A1H F fr hn F) Ar))) (fun x=>by kernel_rfl)
def A1I:Sig:=⟨[.ro,.ro],[(0,.d (.arr 4 Ag)),(1,.d (.arr 4 Ag))],true,none,[(.arr 4 Ag),(.arr 4 Ag)]⟩
def Ayn(F:Nat):Contract:=Ax A1I fun x=>Aa8 F x.1 x.2.1
def A6i(F:Nat):Cx:=Aq [(187,Ayi F),(188,Ayj F),(173,As2 F),(170,As3 F),(189,Aym F)] [] (0,44)
theorem A6j(F:Nat):Ah (A6i F):=Ac (Aa (BgW F) (Aa (BgX F) (Aa (Beh F) (Aa (Bei F) (Aa (Bh0 F) Ad)))))
def Afg:Ae:=[(2,.box 2 (.arr 4 Ag)),(4,.box 4 (.arr 4 Ag)),(5,.box 5 (.arr 4 Ag)),(6,.d Ab),(7,.box 7 (.arr 4 Ag))]
def Ai6:Ae:=[(2,.box 2 (.arr 4 Ag)),(4,.box 4 (.arr 4 Ag)),(5,.box 5 (.arr 4 Ag))]
def As6:Ck:=[(2,Ai6)]
def AmH(F n:Nat):Au Afg:=fun x K=>Ky F (fun y2 y4 y5=>K (.exit 0) (enc Ai6 (y2,y4,y5,()))) n x.1 x.2.1 x.2.2.1 x.2.2.2.1 x.2.2.2.2.1
def A6k(F:Nat):A2 A1I:=Af [(5,⟨Afg,AmH F F⟩)]
theorem A1J(F:Nat)(fr:Frm)(hn:(A6i F).ntmps=fr.n)(n:Nat):A4 A1I f168 fr [1,1,1,1,0,0,0] Afg (AmH F n) :=
 A5 (A6k F) (Af []) As6 rfl (A6j F) hn (m:=fun n=>AmH F n) (fun _ _=>rfl) (fun n x K=>by kernel_rfl) (Al (by kernel_rfl)) n
theorem Bh1(F:Nat):CSound prog 168 (Ayn F) :=
 Ao (fn:=f168) (A6k F) (Af []) rfl func168 (by kernel_rfl) (A6j F) (fun fr hn=>(A0 (l:=[((.loop (sub (Ak f168) [1,1,1,1,0,0,0])),⟨Afg,AmH F F⟩)]) (by kernel_rfl) (Ai (A1J F fr hn F) Ar))) (fun x=>by kernel_rfl)
def A1K:Sig:=⟨[.ro,.ro],[(0,.d (.arr 4 Ag)),(1,.d (.arr 4 Ag))],true,none,[(.arr 4 Ag),Ag]⟩
def Ayo(F:Nat):Contract:=Ax A1K fun x=>Ala F x.1 x.2.1
def A6l(F:Nat):Cx:=Aq [(161,Ahp F)] [] (0,26)
theorem A6m(F:Nat):Ah (A6l F):=Ac (Gu (A8h F) Ad)
def Afh:Ae:=[(2,.box 2 (.arr 4 Ag)),(3,.box 3 (.arr 4 Ag)),(4,.box 4 (.arr 4 Ag)),(5,.d Ag),(7,.d Ab)]
def Ai7:Ae:=[(4,.box 4 (.arr 4 Ag)),(5,.d Ag)]
def As7:Ck:=[(2,Ai7)]
def AmI(F n:Nat):Au Afh:=fun x K=>Wc F (fun y4 y5=>K (.exit 0) (enc Ai7 (y4,y5,()))) n x.1 x.2.1 x.2.2.1 x.2.2.2.1 x.2.2.2.2.1
def A6n(F:Nat):A2 A1K:=Af [(2,⟨Afh,AmI F F⟩)]
theorem A1L(F:Nat)(fr:Frm)(hn:(A6l F).ntmps=fr.n)(n:Nat):A4 A1K f169 fr [1,0,1,0,0] Afh (AmI F n) :=
 A5 (A6n F) (Af []) As7 rfl (A6m F) hn (m:=fun n=>AmI F n) (fun _ _=>rfl) (fun n x K=>by kernel_rfl) (Al (by kernel_rfl)) n
theorem Bh2(F:Nat):CSound prog 169 (Ayo F) :=
 Ao (fn:=f169) (A6n F) (Af []) rfl func169 (by kernel_rfl) (A6m F) (fun fr hn=>(A0 (l:=[((.loop (sub (Ak f169) [1,0,1,0,0])),⟨Afh,AmI F F⟩)]) (by kernel_rfl) (Ai (A1L F fr hn F) Ar))) (fun x=>by kernel_rfl)
def Bbv:Sig:=⟨[.ro,.ro],[(0,.d .bool),(1,.d (.arr 4 Ag))],true,none,[tyV]⟩
def As8(F:Nat):Contract:=Ax Bbv fun x=>Nj F x.1 x.2.1
def Bbw(F:Nat):Cx:=Aq [(135,Adq F)] [] (0,9)
theorem Bbx(F:Nat):Ah (Bbw F):=Ac (Aa (A66 F) Ad)
theorem Bej(F:Nat):CSound prog 171 (As8 F) :=
 Ao (fn:=f171) (Af []) (Af []) rfl func171 (by kernel_rfl) (Bbx F) (fun fr hn=>(Al (by kernel_rfl))) (fun x=>by kernel_rfl)
def Awa:Sig:=⟨[.ro,.ro],[(0,.d tyV),(1,.d tyV)],true,none,[tyV,tyV,.bool]⟩
def Ayp(F:Nat):Contract:=Ax Awa fun x=>S2 F x.1 x.2.1
def A1N(F:Nat):Cx:=Aq [(135,Adq F),(82,ArW F),(168,Ayn F),(169,Ayo F),(170,As3 F),(171,As8 F)] [] (0,52)
theorem A1O(F:Nat):Ah (A1N F):=Ac (Aa (A66 F) (Aa (s82 F) (Aa (Bh1 F) (Aa (Bh2 F) (Aa (Bei F) (Aa (Bej F) Ad))))))
def Afi:Ae:=[(2,.box 2 tyV),(3,.box 3 tyV),(4,.box 4 tyV),(5,.box 5 tyV),(7,.box 7 (.arr 4 Ag)),(8,.box 8 (.arr 4 Ag)),(32,.d .bool)]
def Ai8:Ae:=[(2,.box 2 tyV),(3,.box 3 tyV),(4,.box 4 tyV),(5,.box 5 tyV),(7,.box 7 (.arr 4 Ag)),(8,.box 8 (.arr 4 Ag))]
def As9:Ck:=[(0,Ai8)]
def Asa(F:Nat):Au Afi:=fun x K=>Nv F (fun y2 y3 y4 y5 y7 y8=>K .normal (enc Ai8 (y2,y3,y4,y5,y7,y8,()))) x.1 x.2.1 x.2.2.1 x.2.2.2.1 x.2.2.2.2.1 x.2.2.2.2.2.1 x.2.2.2.2.2.2.1
def Afj:Ae:=[(2,.box 2 tyV),(3,.box 3 tyV),(4,.box 4 tyV),(5,.box 5 tyV),(7,.box 7 (.arr 4 Ag)),(8,.box 8 (.arr 4 Ag))]
def Abp:Ae:=[(4,.box 4 tyV),(5,.box 5 tyV),(6,.d .bool)]
def Asb:Ck:=[(1,Abp)]
def Asd(F:Nat):Au Afj:=fun x K=>Nw F (fun y4 y5 y6=>K .ret (enc Abp (y4,y5,y6,()))) x.1 x.2.1 x.2.2.1 x.2.2.2.1 x.2.2.2.2.1 x.2.2.2.2.2.1
def A1P(F:Nat):A2 Awa:=Af [(6,⟨Afi,Asa F⟩),(8,⟨Afj,Asd F⟩)]
theorem A1Q(F:Nat)(fr:Frm)(hn:(A1N F).ntmps=fr.n):Dz Awa f136 fr [1,1,1,1,0,1] Afi (Asa F) :=
 D0 (Af []) (A1P F) As9 rfl (A1O F) hn (fun x K=>by kernel_rfl) (Al (by kernel_rfl))
theorem A1S(F:Nat)(fr:Frm)(hn:(A1N F).ntmps=fr.n):Dz Awa f136 fr [1,1,1,1,1] Afj (Asd F) :=
 D0 (Af []) (A1P F) Asb rfl (A1O F) hn (fun x K=>by kernel_rfl) (Al (by kernel_rfl))
theorem Bh3(F:Nat):CSound prog 136 (Ayp F) :=
 Ao (fn:=f136) (Af []) (A1P F) rfl func136 (by kernel_rfl) (A1O F) (fun fr hn=>(A0 (l:=[((sub (Ak f136) [1,1,1,1,0,1]),⟨Afi,Asa F⟩),((sub (Ak f136) [1,1,1,1,1]),⟨Afj,Asd F⟩)]) (by kernel_rfl) (Ai (A1Q F fr hn) (Ai (A1S F fr hn) Ar)))) (fun x=>by kernel_rfl)
def Bby:Sig:=⟨[.ro,.ro],[(0,.d tyV),(1,.d tyV)],true,none,[tyV]⟩
def A6o(F:Nat):Contract:=Ax Bby fun x=>Oz F x.1 x.2.1
def Bek(F:Nat):Cx:=Aq [(82,ArW F),(136,Ayp F)] [] (0,23)
theorem Bel(F:Nat):Ah (Bek F):=Ac (Aa (s82 F) (Aa (Bh3 F) Ad))
def AmJ:Ae:=[(2,.box 2 tyV),(3,.box 3 tyV),(4,.box 4 tyV)]
def AmK:Ae:=[(2,.box 2 tyV),(4,.box 4 tyV)]
def Awb:Ck:=[(2,AmK)]
def Awc(F n:Nat):Au AmJ:=fun x K=>E0 F (fun y2 y4=>K (.exit 0) (enc AmK (y2,y4,()))) n x.1 x.2.1 x.2.2.1
def Bem(F:Nat):A2 Bby:=Af [(2,⟨AmJ,Awc F F⟩)]
theorem A6p(F:Nat)(fr:Frm)(hn:(Bek F).ntmps=fr.n)(n:Nat):A4 Bby f84 fr [1,1,0,0,0] AmJ (Awc F n) :=
 A5 (Bem F) (Af []) Awb rfl (Bel F) hn (m:=fun n=>Awc F n) (fun _ _=>rfl) (fun n x K=>by kernel_rfl) (Al (by kernel_rfl)) n
theorem s84(F:Nat):CSound prog 84 (A6o F) :=
 Ao (fn:=f84) (Bem F) (Af []) rfl func84 (by kernel_rfl) (Bel F) (fun fr hn=>(A0 (l:=[((.loop (sub (Ak f84) [1,1,0,0,0])),⟨AmJ,Awc F F⟩)]) (by kernel_rfl) (Ai (A6p F fr hn F) Ar))) (fun x=>by kernel_rfl)
def Bh4:Sig:=⟨[.ro],[(0,.d Ab)],true,none,[tyV]⟩
def A1T(F:Nat):Contract:=Ax Bh4 fun x=>Ab9 F x.1
def Bh5(F:Nat):Cx:=Aq [] [] (0,14)
theorem Bh6(F:Nat):Ah (Bh5 F):=Ac Ad
theorem s85(F:Nat):CSound prog 85 (A1T F) :=
 Ao (fn:=f85) (Af []) (Af []) rfl func85 (by kernel_rfl) (Bh6 F) (fun fr hn=>(Al (by kernel_rfl))) (fun x=>by kernel_rfl)
def Bh7:Sig:=⟨[.ro],[(0,.d Bn)],true,none,[.bool]⟩
def Awd(F:Nat):Contract:=Ax Bh7 fun x=>Jo F x.1
def Bh8(F:Nat):Cx:=Aq [(81,ArV F),(82,ArW F),(83,A67 F),(84,A6o F),(85,A1T F)] [] (0,36)
theorem Bh9(F:Nat):Ah (Bh8 F):=Ac (Aa (s81 F) (Aa (s82 F) (Aa (s83 F) (Aa (s84 F) (Aa (s85 F) Ad)))))
theorem s40(F:Nat):CSound prog 40 (Awd F) :=
 Ao (fn:=f40) (Af []) (Af []) rfl func40 (by kernel_rfl) (Bh9 F) (fun fr hn=>(Al (by kernel_rfl))) (fun x=>by kernel_rfl)
def Bbz:Sig:=⟨[.ro],[(0,.d Ab)],true,none,[.bool]⟩
def Ayq(F:Nat):Contract:=Ax Bbz fun x=>Lu F x.1
def BbA(F:Nat):Cx:=Aq [] [] (0,6)
theorem BbB(F:Nat):Ah (BbA F):=Ac Ad
theorem Bha(F:Nat):CSound prog 137 (Ayq F) :=
 Ao (fn:=f137) (Af []) (Af []) rfl func137 (by kernel_rfl) (BbB F) (fun fr hn=>(Al (by kernel_rfl))) (fun x=>by kernel_rfl)
def Bhb:Sig:=⟨[.ro,.ro],[(0,.d Ab),(1,.d Ab)],true,none,[Ab]⟩
def A6q(F:Nat):Contract:=Ax Bhb fun x=>J5 F x.1 x.2.1
def Bhc(F:Nat):Cx:=Aq [(137,Ayq F)] [] (0,20)
theorem Bhd(F:Nat):Ah (Bhc F):=Ac (Aa (Bha F) Ad)
theorem s87(F:Nat):CSound prog 87 (A6q F) :=
 Ao (fn:=f87) (Af []) (Af []) rfl func87 (by kernel_rfl) (Bhd F) (fun fr hn=>(Al (by kernel_rfl))) (fun x=>by kernel_rfl)
def BbC:Sig:=⟨[.ro],[(0,.d Ab)],true,none,[Bn]⟩
def Ayr(F:Nat):Contract:=Ax BbC fun x=>Alb F x.1
def BbD(F:Nat):Cx:=Aq [(85,A1T F)] [] (0,7)
theorem BbE(F:Nat):Ah (BbD F):=Ac (Aa (s85 F) Ad)
theorem Bhe(F:Nat):CSound prog 172 (Ayr F) :=
 Ao (fn:=f172) (Af []) (Af []) rfl func172 (by kernel_rfl) (BbE F) (fun fr hn=>(Al (by kernel_rfl))) (fun x=>by kernel_rfl)
def BbF:Sig:=⟨[.ro],[(0,.d Bn)],true,none,[Bn]⟩
def Ays(F:Nat):Contract:=Ax BbF fun x=>S3 F x.1
def BbG(F:Nat):Cx:=Aq [(40,Awd F),(172,Ayr F)] [] (0,8)
theorem BbH(F:Nat):Ah (BbG F):=Ac (Aa (s40 F) (Aa (Bhe F) Ad))
theorem Bhf(F:Nat):CSound prog 138 (Ays F) :=
 Ao (fn:=f138) (Af []) (Af []) rfl func138 (by kernel_rfl) (BbH F) (fun fr hn=>(Al (by kernel_rfl))) (fun x=>by kernel_rfl)
def Awe:Sig:=⟨[.ro,.ro],[(0,.d (.arr 4 Ag)),(1,.d (.arr 4 Ag))],true,none,[(.arr 4 Ag),.bool]⟩
def Ayt(F:Nat):Contract:=Ax Awe fun x=>Aa9 F x.1 x.2.1
def A1U(F:Nat):Cx:={ types:=tys,call:=Ot [(160,Arq F),(161,Ahp F)],own:=[],ntmps:=(0,74),cuts:=[65,66,69] }
theorem A1V(F:Nat):Ah (A1U F):=Ac (Aa (BdH F) (Gu (A8h F) Ad))
def Afk:Ae:=[(3,.box 3 (.arr 4 Ag)),(4,.box 4 (.arr 4 Ag)),(6,.box 6 (.arr 8 Ag)),(7,.d Ab),(8,.d Ag),(9,.d Ag),(16,.d (.arr 4 Ag)),(17,.d Ab),(21,.d (.arr 4 Ag)),(22,.d Ab)]
def Ai9:Ae:=[(3,.box 3 (.arr 4 Ag)),(4,.box 4 (.arr 4 Ag)),(6,.box 6 (.arr 8 Ag)),(7,.d Ab),(9,.d Ag),(16,.d (.arr 4 Ag)),(17,.d Ab)]
def Ase:Ck:=[(4,Ai9)]
def AmL(F n:Nat):Au Afk:=fun x K=>Kz F (fun y3 y4 y6 y7 y9 y16 y17=>K (.exit 2) (enc Ai9 (y3,y4,y6,y7,y9,y16,y17,()))) n x.1 x.2.1 x.2.2.1 x.2.2.2.1 x.2.2.2.2.1 x.2.2.2.2.2.1 x.2.2.2.2.2.2.1 x.2.2.2.2.2.2.2.1 x.2.2.2.2.2.2.2.2.1 x.2.2.2.2.2.2.2.2.2.1
def Afl:Ae:=[(3,.box 3 (.arr 4 Ag)),(4,.box 4 (.arr 4 Ag)),(6,.box 6 (.arr 8 Ag)),(16,.d (.arr 4 Ag)),(17,.d Ab)]
def Aia:Ae:=[(4,.box 4 (.arr 4 Ag)),(6,.box 6 (.arr 8 Ag))]
def Asf:Ck:=[(2,Aia)]
def AmN(F n:Nat):Au Afl:=fun x K=>Nk F (fun y4 y6=>K (.exit 0) (enc Aia (y4,y6,()))) n x.1 x.2.1 x.2.2.1 x.2.2.2.1 x.2.2.2.2.1
def A1W(F:Nat):A2 Awe:=Af [(7,⟨Afk,AmL F F⟩),(3,⟨Afl,AmN F F⟩)]
theorem A1X(F:Nat)(fr:Frm)(hn:(A1U F).ntmps=fr.n)(n:Nat):A4 Awe f191 fr [1,1,0,1,0,0,1,1,0,0,1,1,0,1,0,0] Afk (AmL F n) :=
 A5 (A1W F) (Af []) Ase rfl (A1V F) hn (m:=fun n=>AmL F n) (fun _ _=>rfl) (fun n x K=>by kernel_rfl) (Al (by kernel_rfl)) n
theorem A1Y(F:Nat)(fr:Frm)(hn:(A1U F).ntmps=fr.n)(n:Nat):A4 Awe f191 fr [1,1,0,1,0,0] Afl (AmN F n) :=
 A5 (A1W F) (Af []) Asf rfl (A1V F) hn (m:=fun n=>AmN F n) (fun _ _=>rfl) (fun n x K=>by kernel_rfl) (A0 (l:=[((.loop (sub (Ak f191) [1,1,0,1,0,0,1,1,0,0,1,1,0,1,0,0])),⟨Afk,AmL F F⟩)]) (by kernel_rfl) (Ai (A1X F fr hn F) Ar)) n
theorem Bhg(F:Nat):CSound prog 191 (Ayt F) :=
 Ao (fn:=f191) (A1W F) (Af []) rfl func191 (by kernel_rfl) (A1V F) (fun fr hn=>(A0 (l:=[((.loop (sub (Ak f191) [1,1,0,1,0,0])),⟨Afl,AmN F F⟩)]) (by kernel_rfl) (Ai (A1Y F fr hn F) Ar))) (fun x=>by kernel_rfl)
def BbI:Sig:=⟨[.ro,.ro],[(0,.d tyV),(1,.d tyV)],true,none,[tyV,.bool]⟩
def Ayu(F:Nat):Contract:=Ax BbI fun x=>Aaa F x.1 x.2.1
def BbJ(F:Nat):Cx:=Aq [(135,Adq F),(191,Ayt F),(171,As8 F)] [] (0,30)
theorem BbK(F:Nat):Ah (BbJ F):=Ac (Aa (A66 F) (Aa (Bhg F) (Aa (Bej F) Ad)))
theorem Bhh(F:Nat):CSound prog 174 (Ayu F) :=
 Ao (fn:=f174) (Af []) (Af []) rfl func174 (by kernel_rfl) (BbK F) (fun fr hn=>(Al (by kernel_rfl))) (fun x=>by kernel_rfl)
def BbL:Sig:=⟨[.ro,.ro],[(0,.d tyV),(1,.d tyV)],true,none,[tyV]⟩
def Ayv(F:Nat):Contract:=Ax BbL fun x=>O0 F x.1 x.2.1
def BbN(F:Nat):Cx:=Aq [(174,Ayu F)] [] (0,14)
theorem BbO(F:Nat):Ah (BbN F):=Ac (Aa (Bhh F) Ad)
theorem Bhi(F:Nat):CSound prog 140 (Ayv F) :=
 Ao (fn:=f140) (Af []) (Af []) rfl func140 (by kernel_rfl) (BbO F) (fun fr hn=>(Al (by kernel_rfl))) (fun x=>by kernel_rfl)
def Awf:Sig:=⟨[.ro,.ro],[(0,.d tyV),(1,.d tyV)],true,none,[Ab]⟩
def Ayw(F:Nat):Contract:=Ax Awf fun x=>Qj F x.1 x.2.1
def A1Z(F:Nat):Cx:=Aq [(135,Adq F),(173,As2 F)] [] (0,32)
theorem A20(F:Nat):Ah (A1Z F):=Ac (Aa (A66 F) (Aa (Beh F) Ad))
def Afm:Ae:=[(2,.box 2 tyV),(3,.box 3 tyV),(9,.d .bool)]
def Aib:Ae:=[(2,.box 2 tyV),(3,.box 3 tyV)]
def Abq:Ae:=[(4,.d Ab)]
def Asg:Ck:=[(0,Aib),(1,Abq)]
def Ash(F:Nat):Au Afm:=fun x K=>Lv F (fun y2 y3=>K .normal (enc Aib (y2,y3,()))) (fun y4=>K .ret (enc Abq (y4,()))) x.1 x.2.1 x.2.2.1
def Afn:Ae:=[(2,.box 2 tyV),(3,.box 3 tyV)]
def Abr:Ae:=[(4,.d Ab)]
def Asi:Ck:=[(1,Abr)]
def Asj(F:Nat):Au Afn:=fun x K=>Lw F (fun y4=>K .ret (enc Abr (y4,()))) x.1 x.2.1
def A21(F:Nat):A2 Awf:=Af [(3,⟨Afm,Ash F⟩),(8,⟨Afn,Asj F⟩)]
theorem A22(F:Nat)(fr:Frm)(hn:(A1Z F).ntmps=fr.n):Dz Awf f139 fr [1,1,0,0,1] Afm (Ash F) :=
 D0 (Af []) (A21 F) Asg rfl (A20 F) hn (fun x K=>by kernel_rfl) (Al (by kernel_rfl))
theorem A23(F:Nat)(fr:Frm)(hn:(A1Z F).ntmps=fr.n):Dz Awf f139 fr [1,1,1] Afn (Asj F) :=
 D0 (Af []) (A21 F) Asi rfl (A20 F) hn (fun x K=>by kernel_rfl) (Al (by kernel_rfl))
theorem Bhj(F:Nat):CSound prog 139 (Ayw F) :=
 Ao (fn:=f139) (Af []) (A21 F) rfl func139 (by kernel_rfl) (A20 F) (fun fr hn=>(A0 (l:=[((sub (Ak f139) [1,1,0,0,1]),⟨Afm,Ash F⟩),((sub (Ak f139) [1,1,1]),⟨Afn,Asj F⟩)]) (by kernel_rfl) (Ai (A22 F fr hn) (Ai (A23 F fr hn) Ar)))) (fun x=>by kernel_rfl)
def Bhk:Sig:=⟨[.ro,.ro],[(0,.d Bn),(1,.d Bn)],true,none,[Ab]⟩
def A6r(F:Nat):Contract:=Ax Bhk fun x=>O1 F x.1 x.2.1
def Bhl(F:Nat):Cx:=Aq [(138,Ays F),(140,Ayv F),(139,Ayw F)] [] (0,20)
theorem Bhm(F:Nat):Ah (Bhl F):=Ac (Aa (Bhf F) (Aa (Bhi F) (Aa (Bhj F) Ad)))
theorem s88(F:Nat):CSound prog 88 (A6r F) :=
 Ao (fn:=f88) (Af []) (Af []) rfl func88 (by kernel_rfl) (Bhm F) (fun fr hn=>(Al (by kernel_rfl))) (fun x=>by kernel_rfl)
def Bhn:Sig:=⟨[.ro,.ro],[(0,.d A7),(1,.d A7)],true,none,[Ab]⟩
def A6s(F:Nat):Contract:=Ax Bhn fun x=>Kq F x.1 x.2.1
def Bho(F:Nat):Cx:=Aq [(87,A6q F),(88,A6r F),(86,A1D F)] [] (0,17)
theorem Bhp(F:Nat):Ah (Bho F):=Ac (Aa (s87 F) (Aa (s88 F) (Aa (s86 F) Ad)))
theorem s41(F:Nat):CSound prog 41 (A6s F) :=
 Ao (fn:=f41) (Af []) (Af []) rfl func41 (by kernel_rfl) (Bhp F) (fun fr hn=>(Al (by kernel_rfl))) (fun x=>by kernel_rfl)
end Go.Proofs.YtdhfajmcakneiaaGreat
