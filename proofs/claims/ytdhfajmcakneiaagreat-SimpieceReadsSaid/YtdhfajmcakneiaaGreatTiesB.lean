/- That the code computes the models. Written by program. -/
import Derived.Test.YtdhfajmcakneiaaGreatTiesA
set_option linter.unusedVariables false
set_option linter.unusedSimpArgs false
namespace Go.Proofs.YtdhfajmcakneiaaGreat
open Go.Eng Tryz
def A3A:Sig:=⟨[.ro],[(0,.d (.slice A7))],true,none,[Ab]⟩
def A24(F:Nat):Contract:=Ax A3A fun x=>Iq F x.1
def A8s(F:Nat):Cx:=Aq [(39,A64 F),(40,Awd F),(41,A6s F)] [] (0,84)
theorem A8t(F:Nat):Ah (A8s F):=Ac (Aa (s39 F) (Aa (s40 F) (Aa (s41 F) Ad)))
def Afo:Ae:=[(0,.d (.slice A7)),(3,.box 3 (.arr 4096 .bool)),(5,.box 5 A7),(16,.d (.slice A7)),(17,.d Ab),(18,.d Ab),(48,.d Bv),(49,.d Ab),(50,.d Ab)]
def Aic:Ae:=[(0,.d (.slice A7)),(3,.box 3 (.arr 4096 .bool)),(16,.d (.slice A7)),(17,.d Ab),(18,.d Ab)]
def Abs:Ae:=[(2,.d Ab)]
def Ask:Ck:=[(4,Aic),(1,Abs)]
def AmO(F n:Nat):Au Afo:=fun x K=>Dp F (fun y0 y3 y16 y17 y18=>K (.exit 2) (enc Aic (y0,y3,y16,y17,y18,()))) (fun y2=>K .ret (enc Abs (y2,()))) n x.1 x.2.1 x.2.2.1 x.2.2.2.1 x.2.2.2.2.1 x.2.2.2.2.2.1 x.2.2.2.2.2.2.1 x.2.2.2.2.2.2.2.1 x.2.2.2.2.2.2.2.2.1
def AmP:Ae:=[(0,.d (.slice A7)),(3,.box 3 (.arr 4096 .bool)),(5,.box 5 A7),(16,.d (.slice A7)),(17,.d Ab),(18,.d Ab)]
def AmQ:Ae:=[(0,.d (.slice A7)),(3,.box 3 (.arr 4096 .bool)),(16,.d (.slice A7)),(17,.d Ab),(18,.d Ab)]
def Ads:Ae:=[(2,.d Ab)]
def Awg:Ck:=[(0,AmQ),(1,Ads)]
def A25(F:Nat):Au AmP:=fun x K=>Hl F (fun y0 y3 y16 y17 y18=>K .normal (enc AmQ (y0,y3,y16,y17,y18,()))) (fun y2=>K .ret (enc Ads (y2,()))) x.1 x.2.1 x.2.2.1 x.2.2.2.1 x.2.2.2.2.1 x.2.2.2.2.2.1
def AmS:Ae:=[(0,.d (.slice A7)),(3,.box 3 (.arr 4096 .bool)),(16,.d (.slice A7)),(17,.d Ab),(18,.d Ab)]
def AmT:Ae:=[]
def Adt:Ae:=[(2,.d Ab)]
def Awh:Ck:=[(2,AmT),(1,Adt)]
def Awi(F n:Nat):Au AmS:=fun x K=>Cm F (K (.exit 0) (enc AmT (()))) (fun y2=>K .ret (enc Adt (y2,()))) n x.1 x.2.1 x.2.2.1 x.2.2.2.1 x.2.2.2.2.1
def A8u(F:Nat):A2 A3A:=Af [(10,⟨Afo,AmO F F⟩),(5,⟨AmS,Awi F F⟩)]
def A8v(F:Nat):A2 A3A:=Af [(9,⟨AmP,A25 F⟩)]
theorem A26(F:Nat)(fr:Frm)(hn:(A8s F).ntmps=fr.n)(n:Nat):A4 A3A f13 fr [1,1,1,0,1,0,0,1,1,0,0,1,1,1,0,0] Afo (AmO F n) :=
 A5 (A8u F) (A8v F) Ask rfl (A8t F) hn (m:=fun n=>AmO F n) (fun _ _=>rfl) (fun n x K=>by kernel_rfl) (Al (by kernel_rfl)) n
theorem A6t(F:Nat)(fr:Frm)(hn:(A8s F).ntmps=fr.n):Dz A3A f13 fr [1,1,1,0,1,0,0,1,1,0,0,1,1] AmP (A25 F) :=
 D0 (A8u F) (A8v F) Awg rfl (A8t F) hn (fun x K=>by kernel_rfl) (A0 (l:=[((.loop (sub (Ak f13) [1,1,1,0,1,0,0,1,1,0,0,1,1,1,0,0])),⟨Afo,AmO F F⟩)]) (by kernel_rfl) (Ai (A26 F fr hn F) Ar))
theorem A6u(F:Nat)(fr:Frm)(hn:(A8s F).ntmps=fr.n)(n:Nat):A4 A3A f13 fr [1,1,1,0,1,0,0] AmS (Awi F n) :=
 A5 (A8u F) (A8v F) Awh rfl (A8t F) hn (m:=fun n=>Awi F n) (fun _ _=>rfl) (fun n x K=>by kernel_rfl) (A0 (l:=[((sub (Ak f13) [1,1,1,0,1,0,0,1,1,0,0,1,1]),⟨AmP,A25 F⟩)]) (by kernel_rfl) (Ai (A6t F fr hn) Ar)) n
theorem s13(F:Nat):CSound prog 13 (A24 F) :=
 Ao (fn:=f13) (A8u F) (A8v F) rfl func13 (by kernel_rfl) (A8t F) (fun fr hn=>(A0 (l:=[((.loop (sub (Ak f13) [1,1,1,0,1,0,0])),⟨AmS,Awi F F⟩)]) (by kernel_rfl) (Ai (A6u F fr hn F) Ar))) (fun x=>by kernel_rfl)
def BbP:Sig:=Vp Ab false (some (0,2)) [Bv]
def Ayx(F:Nat):Contract:=Ax BbP fun x=>I2 F x.1
def A6v(F:Nat):Cx:={ types:=tys,call:=Ot [],own:=[2,5],ntmps:=(0,8),nils:=[3] }
theorem BbQ(F:Nat):Ah (A6v F):=Ac Ad
theorem Bhq(F:Nat):CSound prog 124 (Ayx F) :=
 Zb (fn:=f124) (code:=(Ak f124)) (cx:=A6v F) (hs:=Af []) (js:=Af []) func124 (by kernel_rfl) (by kernel_rfl) (Bz _ rfl) (BbQ F) mix (by kernel_rfl) (by kernel_rfl) (fun fr hn=>(Al (by kernel_rfl))) (fun a l=>by kernel_rfl) (by kernel_rfl) (by kernel_rfl)
def BbS:Sig:=⟨[.ro,.ro],[(0,.d Ab),(1,.d Ab)],true,none,[Ag]⟩
def Ayy(F:Nat):Contract:=Ax BbS fun x=>T2 F x.1 x.2.1
def BbT(F:Nat):Cx:=Aq [] [] (0,10)
theorem BbU(F:Nat):Ah (BbT F):=Ac Ad
theorem Bhr(F:Nat):CSound prog 165 (Ayy F) :=
 Ao (fn:=f165) (Af []) (Af []) rfl func165 (by kernel_rfl) (BbU F) (fun fr hn=>(Al (by kernel_rfl))) (fun x=>by kernel_rfl)
def A27:Sig:=⟨[.wr 2],[(0,.own 0 Ab 2)],false,none,[Bv]⟩
def Ayz(F:Nat):Contract:=Ax A27 fun x=>Hb F x.1
def A6w(F:Nat):Cx:=Aq [(165,Ayy F)] [] (1,24)
theorem A6x(F:Nat):Ah (A6w F):=Ac (Aa (Bhr F) Ad)
def Afp:Ae:=[(0,.own 0 Ab 2),(2,.d Ab)]
def Aid:Ae:=[(0,.own 0 Ab 2)]
def Asl:Ck:=[(2,Aid)]
def AmU(F n:Nat):Au Afp:=fun x K=>Cf F (fun y0=>K (.exit 0) (enc Aid (y0,()))) n x.1 x.2.1
def A6y(F:Nat):A2 A27:=Af [(1,⟨Afp,AmU F F⟩)]
theorem A28(F:Nat)(fr:Frm)(hn:(A6w F).ntmps=fr.n)(n:Nat):A4 A27 f126 fr [1,0,0] Afp (AmU F n) :=
 A5 (A6y F) (Af []) Asl rfl (A6x F) hn (m:=fun n=>AmU F n) (fun _ _=>rfl) (fun n x K=>by kernel_rfl) (Al (by kernel_rfl)) n
theorem Bhs(F:Nat):CSound prog 126 (Ayz F) :=
 Ao (fn:=f126) (A6y F) (Af []) rfl func126 (by kernel_rfl) (A6x F) (fun fr hn=>(A0 (l:=[((.loop (sub (Ak f126) [1,0,0])),⟨Afp,AmU F F⟩)]) (by kernel_rfl) (Ai (A28 F fr hn F) Ar))) (fun x=>by kernel_rfl)
def BbV:Sig:=⟨[.ro,.ro],[(0,.d Ab),(1,.d Ag)],true,none,[Ab]⟩
def AyA(F:Nat):Contract:=Ax BbV fun x=>S4 F x.1 x.2.1
def BbW(F:Nat):Cx:=Aq [] [] (0,10)
theorem BbX(F:Nat):Ah (BbW F):=Ac Ad
theorem Bht(F:Nat):CSound prog 180 (AyA F) :=
 Ao (fn:=f180) (Af []) (Af []) rfl func180 (by kernel_rfl) (BbX F) (fun fr hn=>(Al (by kernel_rfl))) (fun x=>by kernel_rfl)
def A29:Sig:=⟨[.wr 2],[(0,.own 0 Ab 2)],false,none,[Bv]⟩
def AyB(F:Nat):Contract:=Ax A29 fun x=>O2 F x.1
def A6z(F:Nat):Cx:=Aq [(180,AyA F)] [] (1,23)
theorem A6A(F:Nat):Ah (A6z F):=Ac (Aa (Bht F) Ad)
def Afq:Ae:=[(0,.own 0 Ab 2),(2,.d Ab)]
def Aie:Ae:=[(0,.own 0 Ab 2)]
def Asm:Ck:=[(2,Aie)]
def AmV(F n:Nat):Au Afq:=fun x K=>E3 F (fun y0=>K (.exit 0) (enc Aie (y0,()))) n x.1 x.2.1
def A6B(F:Nat):A2 A29:=Af [(1,⟨Afq,AmV F F⟩)]
theorem A2a(F:Nat)(fr:Frm)(hn:(A6z F).ntmps=fr.n)(n:Nat):A4 A29 f150 fr [1,0,0] Afq (AmV F n) :=
 A5 (A6B F) (Af []) Asm rfl (A6A F) hn (m:=fun n=>AmV F n) (fun _ _=>rfl) (fun n x K=>by kernel_rfl) (Al (by kernel_rfl)) n
theorem Bhu(F:Nat):CSound prog 150 (AyB F) :=
 Ao (fn:=f150) (A6B F) (Af []) rfl func150 (by kernel_rfl) (A6A F) (fun fr hn=>(A0 (l:=[((.loop (sub (Ak f150) [1,0,0])),⟨Afq,AmV F F⟩)]) (by kernel_rfl) (Ai (A2a F fr hn F) Ar))) (fun x=>by kernel_rfl)
def AmW:Sig:=⟨[.wr 2,.ro,.ro],[(0,.own 0 Ab 2),(1,.d Ab),(2,.fn 126)],false,none,[Bv]⟩
def Asn(F:Nat):Contract:=Ax AmW fun x=>Ol F x.1 x.2.1
def AyC(F:Nat):Cx:=Aq [(126,Ayz F)] [] (1,13)
theorem AyD(F:Nat):Ah (AyC F):=Ac (Aa (Bhs F) Ad)
def Aaj:Ae:=[(0,.own 0 Ab 2),(2,.fn 126),(6,.d Ab),(7,.d Ab)]
def Adu:Ae:=[(0,.own 0 Ab 2)]
def Api:Ck:=[(2,Adu)]
def Afr(F n:Nat):Au Aaj:=fun x K=>D6 F (fun y0=>K (.exit 0) (enc Adu (y0,()))) n x.1 x.2.2.1 x.2.2.2.1
def AyE(F:Nat):A2 AmW:=Af [(1,⟨Aaj,Afr F F⟩)]
def AyF(F:Nat):A2 AmW:=Af []
theorem Awj(F:Nat)(fr:Frm)(hn:(AyC F).ntmps=fr.n)(n:Nat):A4 AmW f125 fr [1,0,0] Aaj (Afr F n) :=
 A5 (AyE F) (AyF F) Api rfl (AyD F) hn (m:=fun n=>Afr F n) (fun _ _=>rfl) (fun n x K=>by kernel_rfl) (Al (by kernel_rfl)) n
theorem BbY(F:Nat):CSound prog 125 (Asn F) :=
 Ao (fn:=f125) (AyE F) (AyF F) rfl func125 (by kernel_rfl) (AyD F) (fun fr hn=>(A0 (l:=[((.loop (sub (Ak f125) [1,0,0])),⟨Aaj,Afr F F⟩)]) (by kernel_rfl) (Ai (Awj F fr hn F) Ar))) (fun x=>by kernel_rfl)
def AmX:Sig:=⟨[.wr 2,.ro,.ro],[(0,.own 0 Ab 2),(1,.d Ab),(2,.fn 150)],false,none,[Bv]⟩
def Aso(F:Nat):Contract:=Ax AmX fun x=>F4 F x.1 x.2.1
def AyG(F:Nat):Cx:=Aq [(150,AyB F)] [] (1,13)
theorem AyH(F:Nat):Ah (AyG F):=Ac (Aa (Bhu F) Ad)
def Aak:Ae:=[(0,.own 0 Ab 2),(2,.fn 150),(6,.d Ab),(7,.d Ab)]
def Adv:Ae:=[(0,.own 0 Ab 2)]
def Apj:Ck:=[(2,Adv)]
def Afs(F n:Nat):Au Aak:=fun x K=>D7 F (fun y0=>K (.exit 0) (enc Adv (y0,()))) n x.1 x.2.2.1 x.2.2.2.1
def AyI(F:Nat):A2 AmX:=Af [(1,⟨Aak,Afs F F⟩)]
def AyJ(F:Nat):A2 AmX:=Af []
theorem Awk(F:Nat)(fr:Frm)(hn:(AyG F).ntmps=fr.n)(n:Nat):A4 AmX f125 fr [1,0,0] Aak (Afs F n) :=
 A5 (AyI F) (AyJ F) Apj rfl (AyH F) hn (m:=fun n=>Afs F n) (fun _ _=>rfl) (fun n x K=>by kernel_rfl) (Al (by kernel_rfl)) n
theorem BbZ(F:Nat):CSound prog 125 (Aso F) :=
 Ao (fn:=f125) (AyI F) (AyJ F) rfl func125 (by kernel_rfl) (AyH F) (fun fr hn=>(A0 (l:=[((.loop (sub (Ak f125) [1,0,0])),⟨Aak,Afs F F⟩)]) (by kernel_rfl) (Ai (Awk F fr hn F) Ar))) (fun x=>by kernel_rfl)
def Bc0:Sig:=⟨[.ro],[(0,.d Ab)],true,none,[Ag]⟩
def AyK(F:Nat):Contract:=Ax Bc0 fun x=>O3 F x.1
def Bc1(F:Nat):Cx:=Aq [] [] (0,10)
theorem Bc2(F:Nat):Ah (Bc1 F):=Ac Ad
theorem Bhv(F:Nat):CSound prog 127 (AyK F) :=
 Ao (fn:=f127) (Af []) (Af []) rfl func127 (by kernel_rfl) (Bc2 F) (fun fr hn=>(Al (by kernel_rfl))) (fun x=>by kernel_rfl)
def Bc3:Sig:=⟨[.ro,.ro],[(0,.d Bv),(1,.d Ab)],false,some (0,49),[Aw,.bool]⟩
def A6C(F:Nat):Contract:=Ax Bc3 fun x=>Es F x.1 x.2.1
def Ben(F:Nat):Cx:=Aq [(124,Ayx F),(125,Asn F),(127,AyK F)] [4,17,23] (0,38)
theorem Beo(F:Nat):Ah (Ben F):=Ac (Aa (Bhq F) (Aa (BbY F) (Aa (Bhv F) Ad)))
def AmY:Ae:=[(7,.own 7 Ag 49),(24,.own 24 Ab 2),(25,.d Ab),(26,.d Ab)]
def AmZ:Ae:=[(7,.own 7 Ag 49)]
def Awl:Ck:=[(2,AmZ)]
def Awm(F n:Nat):Au AmY:=fun x K=>Di F (fun y7=>K (.exit 0) (enc AmZ (y7,()))) n x.1 x.2.1 x.2.2.1 x.2.2.2.1
def Bep(F:Nat):A2 Bc3:=Af [(7,⟨AmY,Awm F F⟩)]
theorem A6D(F:Nat)(fr:Frm)(hn:(Ben F).ntmps=fr.n)(n:Nat):A4 Bc3 f71 fr [1,1,1,1,1,0,1,0,0] AmY (Awm F n) :=
 A5 (Bep F) (Af []) Awl rfl (Beo F) hn (m:=fun n=>Awm F n) (fun _ _=>rfl) (fun n x K=>by kernel_rfl) (Al (by kernel_rfl)) n
theorem s71(F:Nat):CSound prog 71 (A6C F) :=
 Ao (fn:=f71) (Bep F) (Af []) rfl func71 (by kernel_rfl) (Beo F) (fun fr hn=>(A0 (l:=[((.loop (sub (Ak f71) [1,1,1,1,1,0,1,0,0])),⟨AmY,Awm F F⟩)]) (by kernel_rfl) (Ai (A6D F fr hn F) Ar))) (fun x=>by kernel_rfl)
def Bc4:Sig:=⟨[.ro],[(0,.d Ag)],true,none,[Ab]⟩
def AyL(F:Nat):Contract:=Ax Bc4 fun x=>S5 F x.1
def Bc5(F:Nat):Cx:=Aq [(166,Ad7 F)] [] (0,8)
theorem Bc6(F:Nat):Ah (Bc5 F):=Ac (Aa (A4D F) Ad)
theorem Bhw(F:Nat):CSound prog 128 (AyL F) :=
 Ao (fn:=f128) (Af []) (Af []) rfl func128 (by kernel_rfl) (Bc6 F) (fun fr hn=>(Al (by kernel_rfl))) (fun x=>by kernel_rfl)
def A2b:Sig:=⟨[.ro],[(0,.d Aw)],true,none,[Ab]⟩
def Asp(F:Nat):Contract:=Ax A2b fun x=>O4 F x.1
def A6E(F:Nat):Cx:=Aq [(166,Ad7 F)] [] (0,18)
theorem A6F(F:Nat):Ah (A6E F):=Ac (Aa (A4D F) Ad)
def Aft:Ae:=[(3,.d Ag),(6,.d Aw),(7,.d Ab),(8,.d Ab)]
def Aif:Ae:=[(3,.d Ag)]
def Asq:Ck:=[(2,Aif)]
def An0(F n:Nat):Au Aft:=fun x K=>F5 F (fun y3=>K (.exit 0) (enc Aif (y3,()))) n x.1 x.2.1 x.2.2.1 x.2.2.2.1
def A6G(F:Nat):A2 A2b:=Af [(3,⟨Aft,An0 F F⟩)]
theorem A2c(F:Nat)(fr:Frm)(hn:(A6E F).ntmps=fr.n)(n:Nat):A4 A2b f129 fr [1,1,0,1,0,0] Aft (An0 F n) :=
 A5 (A6G F) (Af []) Asq rfl (A6F F) hn (m:=fun n=>An0 F n) (fun _ _=>rfl) (fun n x K=>by kernel_rfl) (Al (by kernel_rfl)) n
theorem Beq(F:Nat):CSound prog 129 (Asp F) :=
 Ao (fn:=f129) (A6G F) (Af []) rfl func129 (by kernel_rfl) (A6F F) (fun fr hn=>(A0 (l:=[((.loop (sub (Ak f129) [1,1,0,1,0,0])),⟨Aft,An0 F F⟩)]) (by kernel_rfl) (Ai (A2c F fr hn F) Ar))) (fun x=>by kernel_rfl)
def Bc7:Sig:=⟨[.ro,.ro],[(0,.d Ab),(1,.d Ab)],true,none,[Ab]⟩
def An1(F:Nat):Contract:=Ax Bc7 fun x=>J6 F x.1 x.2.1
def Bc8(F:Nat):Cx:=Aq [] [] (0,24)
theorem Bc9(F:Nat):Ah (Bc8 F):=Ac Ad
theorem Bca(F:Nat):CSound prog 152 (An1 F) :=
 Ao (fn:=f152) (Af []) (Af []) rfl func152 (by kernel_rfl) (Bc9 F) (fun fr hn=>(Al (by kernel_rfl))) (fun x=>by kernel_rfl)
def Awn:Sig:=⟨[.ro,.ro],[(0,.d Aw),(1,.d Ab)],false,some (0,5),[At,.bool]⟩
def AyN(F:Nat):Contract:=Ax Awn fun x=>Qk F x.1 x.2.1
def A2d(F:Nat):Cx:=Aq [(152,An1 F),(129,Asp F)] [4,26] (0,64)
theorem A2e(F:Nat):Ah (A2d F):=Ac (Aa (Bca F) (Aa (Beq F) Ad))
def Aal:Ae:=[(1,.d Ab),(7,.own 7 Ct 5),(8,.d Ab),(10,.d Ag),(11,.d Ab),(27,.d Aw),(28,.d Ab),(29,.d Ab)]
def Adw:Ae:=[(1,.d Ab),(7,.own 7 Ct 5),(8,.d Ab),(27,.d Aw),(28,.d Ab),(29,.d Ab)]
def Apk:Ck:=[(4,Adw)]
def Afu(F n:Nat):Au Aal:=fun x K=>E4 F (fun y1 y7 y8 y27 y28 y29=>K (.exit 2) (enc Adw (y1,y7,y8,y27,y28,y29,()))) n x.1 x.2.1 x.2.2.1 x.2.2.2.1 x.2.2.2.2.1 x.2.2.2.2.2.1 x.2.2.2.2.2.2.1 x.2.2.2.2.2.2.2.1
def Afv:Ae:=[(1,.d Ab),(7,.own 7 Ct 5),(8,.d Ab),(27,.d Aw),(28,.d Ab),(29,.d Ab)]
def Aig:Ae:=[(7,.own 7 Ct 5)]
def Asr:Ck:=[(2,Aig)]
def An2(F n:Nat):Au Afv:=fun x K=>Fw F (fun y7=>K (.exit 0) (enc Aig (y7,()))) n x.1 x.2.1 x.2.2.1 x.2.2.2.1 x.2.2.2.2.1 x.2.2.2.2.2.1
def A2f(F:Nat):A2 Awn:=Af [(10,⟨Aal,Afu F F⟩),(7,⟨Afv,An2 F F⟩)]
theorem Awo(F:Nat)(fr:Frm)(hn:(A2d F).ntmps=fr.n)(n:Nat):A4 Awn f130 fr [1,1,1,1,1,0,1,0,0,1,1,0,0,1,1,0,0] Aal (Afu F n) :=
 A5 (A2f F) (Af []) Apk rfl (A2e F) hn (m:=fun n=>Afu F n) (fun _ _=>rfl) (fun n x K=>by kernel_rfl) (Al (by kernel_rfl)) n
theorem A2g(F:Nat)(fr:Frm)(hn:(A2d F).ntmps=fr.n)(n:Nat):A4 Awn f130 fr [1,1,1,1,1,0,1,0,0] Afv (An2 F n) :=
 A5 (A2f F) (Af []) Asr rfl (A2e F) hn (m:=fun n=>An2 F n) (fun _ _=>rfl) (fun n x K=>by kernel_rfl) (A0 (l:=[((.loop (sub (Ak f130) [1,1,1,1,1,0,1,0,0,1,1,0,0,1,1,0,0])),⟨Aal,Afu F F⟩)]) (by kernel_rfl) (Ai (Awo F fr hn F) Ar)) n
theorem Bhx(F:Nat):CSound prog 130 (AyN F) :=
 Ao (fn:=f130) (A2f F) (Af []) rfl func130 (by kernel_rfl) (A2e F) (fun fr hn=>(A0 (l:=[((.loop (sub (Ak f130) [1,1,1,1,1,0,1,0,0])),⟨Afv,An2 F F⟩)]) (by kernel_rfl) (Ai (A2g F fr hn F) Ar))) (fun x=>by kernel_rfl)
def Bhy:Sig:=Vp Ct false (some (0,5)) [At]
def A2h(F:Nat):Contract:=Ax Bhy fun x=>Hm F x.1
def Ber(F:Nat):Cx:={ types:=tys,call:=Ot [],own:=[2,5],ntmps:=(0,8),nils:=[3] }
theorem Bhz(F:Nat):Ah (Ber F):=Ac Ad
theorem s74(F:Nat):CSound prog 74 (A2h F) :=
 Zb (fn:=f74) (code:=(Ak f74)) (cx:=Ber F) (hs:=Af []) (js:=Af []) func74 (by kernel_rfl) (by kernel_rfl) (Bz _ rfl) (Bhz F) mix (by kernel_rfl) (by kernel_rfl) (fun fr hn=>(Al (by kernel_rfl))) (fun a l=>by kernel_rfl) (by kernel_rfl) (by kernel_rfl)
def Bcb:Sig:=⟨[.ro,.ro],[(0,.d At),(1,.d Ag)],false,some (0,5),[At]⟩
def A2i(F:Nat):Contract:=Ax Bcb fun x=>Lx F x.1 x.2.1
def Bes(F:Nat):Cx:=Aq [(74,A2h F),(73,A01 F)] [4,7,8] (0,24)
theorem Bet(F:Nat):Ah (Bes F):=Ac (Aa (s74 F) (Aa (s73 F) Ad))
def An3:Ae:=[(1,.d Ag),(5,.own 5 Ct 5)]
def An4:Ae:=[(1,.d Ag),(5,.own 5 Ct 5)]
def Awp:Ck:=[(2,An4)]
def Awq(F n:Nat):Au An3:=fun x K=>F6 F (fun y1 y5=>K (.exit 0) (enc An4 (y1,y5,()))) n x.1 x.2.1
def Beu(F:Nat):A2 Bcb:=Af [(2,⟨An3,Awq F F⟩)]
theorem A6H(F:Nat)(fr:Frm)(hn:(Bes F).ntmps=fr.n)(n:Nat):A4 Bcb f31 fr [1,1,0,0,0] An3 (Awq F n) :=
 A5 (Beu F) (Af []) Awp rfl (Bet F) hn (m:=fun n=>Awq F n) (fun _ _=>rfl) (fun n x K=>by kernel_rfl) (Al (by kernel_rfl)) n
theorem s31(F:Nat):CSound prog 31 (A2i F) :=
 Ao (fn:=f31) (Beu F) (Af []) rfl func31 (by kernel_rfl) (Bet F) (fun fr hn=>(A0 (l:=[((.loop (sub (Ak f31) [1,1,0,0,0])),⟨An3,Awq F F⟩)]) (by kernel_rfl) (Ai (A6H F fr hn F) Ar))) (fun x=>by kernel_rfl)
def A8w:Sig:=⟨[.ro],[(0,.d Aw)],false,some (0,5),[At,Ab]⟩
def Awr(F:Nat):Contract:=Ax A8w fun x=>Bm F x.1
def Bcc(F:Nat):Cx:=Aq [(128,AyL F),(129,Asp F),(130,AyN F),(31,A2i F)] [2,42,46] (0,59)
theorem Bcd(F:Nat):Ah (Bcc F):=Ac (Aa (Bhw F) (Aa (Beq F) (Aa (Bhx F) (Aa (s31 F) Ad))))
def An5:Ae:=[(0,.d Aw),(4,.d Ab),(16,.d Aw),(17,.d Ab),(18,.d Ab)]
def An6:Ae:=[(0,.d Aw),(4,.d Ab)]
def Aws:Ck:=[(2,An6)]
def Awt(F n:Nat):Au An5:=fun x K=>Fq F (fun y0 y4=>K (.exit 0) (enc An6 (y0,y4,()))) n x.1 x.2.1 x.2.2.1 x.2.2.2.1 x.2.2.2.2.1
def Afw:Ae:=[(10,.own 10 Ct 5),(47,.d Aw),(48,.d Ab),(49,.d Ab)]
def Aih:Ae:=[(10,.own 10 Ct 5)]
def Ass:Ck:=[(4,Aih)]
def An7(F n:Nat):Au Afw:=fun x K=>Et F (fun y10=>K (.exit 2) (enc Aih (y10,()))) n x.1 x.2.1 x.2.2.1 x.2.2.2.1
def Bce(F:Nat):A2 A8w:=Af [(5,⟨An5,Awt F F⟩),(15,⟨Afw,An7 F F⟩)]
theorem A6I(F:Nat)(fr:Frm)(hn:(Bcc F).ntmps=fr.n)(n:Nat):A4 A8w f72 fr [1,1,1,0,1,0,0] An5 (Awt F n) :=
 A5 (Bce F) (Af []) Aws rfl (Bcd F) hn (m:=fun n=>Awt F n) (fun _ _=>rfl) (fun n x K=>by kernel_rfl) (Al (by kernel_rfl)) n
theorem A2j(F:Nat)(fr:Frm)(hn:(Bcc F).ntmps=fr.n)(n:Nat):A4 A8w f72 fr [1,1,1,1,1,1,1,1,0,1,0,0] Afw (An7 F n) :=
 A5 (Bce F) (Af []) Ass rfl (Bcd F) hn (m:=fun n=>An7 F n) (fun _ _=>rfl) (fun n x K=>by kernel_rfl) (Al (by kernel_rfl)) n
theorem s72(F:Nat):CSound prog 72 (Awr F) :=
 Ao (fn:=f72) (Bce F) (Af []) rfl func72 (by kernel_rfl) (Bcd F) (fun fr hn=>(A0 (l:=[((.loop (sub (Ak f72) [1,1,1,0,1,0,0])),⟨An5,Awt F F⟩),((.loop (sub (Ak f72) [1,1,1,1,1,1,1,1,0,1,0,0])),⟨Afw,An7 F F⟩)]) (by kernel_rfl) (Ai (A6I F fr hn F) (Ai (A2j F fr hn F) Ar)))) (fun x=>by kernel_rfl)
def Bcf:Sig:=⟨[.ro],[(0,.d Bv)],false,some (0,5),[At,Ab]⟩
def A2k(F:Nat):Contract:=Ax Bcf fun x=>Ek F x.1
def Bcg(F:Nat):Cx:={ types:=tys,call:=Ot [(71,A6C F),(72,Awr F)],own:=[2,4,39],ntmps:=(0,44),nils:=[4,27] }
theorem Bev(F:Nat):Ah (Bcg F):=Ac (Aa (s71 F) (Aa (s72 F) Ad))
def A6J:Ae:=[(0,.d Bv),(4,.own 4 Ct 5),(10,.d Ab)]
def Afx:Ae:=[(4,.own 4 Ct 5)]
def Yj:Ae:=[(2,.own 2 Ct 5),(3,.d Ab)]
def Awu:Ck:=[(2,Afx),(1,Yj)]
def Bch(F n:Nat):Au A6J:=fun x K=>Cb F (fun y4=>K (.exit 0) (enc Afx (y4,()))) (fun y2 y3=>K .ret (enc Yj (y2,y3,()))) n x.1 x.2.1 x.2.2.1
def Afy:Ae:=[(0,.d Bv),(4,.nilS),(10,.d Ab)]
def An8(F n:Nat):Au Afy:=fun x K=>Ly F (fun y4=>K (.exit 0) (enc Afx (y4,()))) (fun y2 y3=>K .ret (enc Yj (y2,y3,()))) n x.1 x.2.2.1
def Bew(F:Nat):A2 Bcf:=Af [(3,⟨Afy,An8 F F⟩)]
theorem A6K(F:Nat)(fr:Frm)(hn:(Bcg F).ntmps=fr.n)(n:Nat):A4 Bcf f30 fr [1,1,0,1,0,0] Afy (An8 F n) :=
 AoW (cx:=Bcg F) (hs:=Bew F) (js:=Af []) (outs:=Awu) (Bz _ rfl) (Bev F) hn mix (m:=fun n=>Bch F n) (m0:=fun n=>An8 F n) (fun _ _=>rfl) (fun n x K=>by kernel_rfl) (fun n x K=>by kernel_rfl) (Al (by kernel_rfl)) n
theorem s30(F:Nat):CSound prog 30 (A2k F) :=
 Ao (fn:=f30) (Bew F) (Af []) rfl func30 (by kernel_rfl) (Bev F) (fun fr hn=>(A0 (l:=[((.loop (sub (Ak f30) [1,1,0,1,0,0])),⟨Afy,An8 F F⟩)]) (by kernel_rfl) (Ai (A6K F fr hn F) Ar))) (fun x=>by kernel_rfl)
def AyO:Sig:=⟨[.ro,.ro],[(0,.d At),(1,.d tyV)],false,some (0,5),[At]⟩
def A6L(F:Nat):Contract:=Ax AyO fun x=>Nl F x.1 x.2.1
def A3B(F:Nat):Cx:=Aq [(81,ArV F),(74,A2h F),(73,A01 F)] [4,41,42] (0,80)
theorem A3C(F:Nat):Ah (A3B F):=Ac (Aa (s81 F) (Aa (s74 F) (Aa (s73 F) Ad)))
def An9:Ae:=[(0,.d At),(3,.box 3 tyV),(5,.box 5 (.arr 5 Ag)),(16,.d (.arr 4 Ag)),(17,.d Ab)]
def Ana:Ae:=[(0,.d At),(3,.box 3 tyV),(5,.box 5 (.arr 5 Ag))]
def Awv:Ck:=[(2,Ana)]
def Aww(F n:Nat):Au An9:=fun x K=>Kd F (fun y0 y3 y5=>K (.exit 0) (enc Ana (y0,y3,y5,()))) n x.1 x.2.1 x.2.2.1 x.2.2.2.1 x.2.2.2.2.1
def Afz:Ae:=[(5,.box 5 (.arr 5 Ag)),(8,.own 8 Ct 5),(9,.d Ct),(47,.d Ab)]
def Aii:Ae:=[(5,.box 5 (.arr 5 Ag)),(8,.own 8 Ct 5),(9,.d Ct)]
def Ast:Ck:=[(6,Aii)]
def Anb(F n:Nat):Au Afz:=fun x K=>Gi F (fun y5 y8 y9=>K (.exit 4) (enc Aii (y5,y8,y9,()))) n x.1 x.2.1 x.2.2.1 x.2.2.2.1
def AfA:Ae:=[(5,.box 5 (.arr 5 Ag)),(8,.own 8 Ct 5)]
def Abt:Ae:=[(4,.own 4 Ct 5)]
def Asu:Ck:=[(1,Abt)]
def Anc(F n:Nat):Au AfA:=fun x K=>Jp F (fun y4=>K .ret (enc Abt (y4,()))) n x.1 x.2.1
def AfB:Ae:=[(0,.d At),(5,.box 5 (.arr 5 Ag))]
def Abu:Ae:=[(4,.own 4 Ct 5)]
def Asv:Ck:=[(1,Abu)]
def Asw(F:Nat):Au AfB:=fun x K=>Jq F (fun y4=>K .ret (enc Abu (y4,()))) x.1 x.2.1
def Ane:Ae:=[(0,.d At),(3,.box 3 tyV)]
def Adx:Ae:=[(4,.own 4 Ct 5)]
def Awx:Ck:=[(1,Adx)]
def A2l(F:Nat):Au Ane:=fun x K=>Ke F (fun y4=>K .ret (enc Adx (y4,()))) x.1 x.2.1
def A3D(F:Nat):A2 AyO:=Af [(5,⟨An9,Aww F F⟩),(15,⟨Afz,Anb F F⟩),(13,⟨AfA,Anc F F⟩)]
def A3E(F:Nat):A2 AyO:=Af [(12,⟨AfB,Asw F⟩),(3,⟨Ane,A2l F⟩)]
theorem A6N(F:Nat)(fr:Frm)(hn:(A3B F).ntmps=fr.n)(n:Nat):A4 AyO f75 fr [1,1,1,0,1,0,0] An9 (Aww F n) :=
 A5 (A3D F) (A3E F) Awv rfl (A3C F) hn (m:=fun n=>Aww F n) (fun _ _=>rfl) (fun n x K=>by kernel_rfl) (Al (by kernel_rfl)) n
theorem A2m(F:Nat)(fr:Frm)(hn:(A3B F).ntmps=fr.n)(n:Nat):A4 AyO f75 fr [1,1,1,1,1,1,0,0,0,1,0,1,0,0] Afz (Anb F n) :=
 A5 (A3D F) (A3E F) Ast rfl (A3C F) hn (m:=fun n=>Anb F n) (fun _ _=>rfl) (fun n x K=>by kernel_rfl) (Al (by kernel_rfl)) n
theorem A2n(F:Nat)(fr:Frm)(hn:(A3B F).ntmps=fr.n)(n:Nat):A4 AyO f75 fr [1,1,1,1,1,1,0,0] AfA (Anc F n) :=
 A5 (A3D F) (A3E F) Asu rfl (A3C F) hn (m:=fun n=>Anc F n) (fun _ _=>rfl) (fun n x K=>by kernel_rfl) (A0 (l:=[((.loop (sub (Ak f75) [1,1,1,1,1,1,0,0,0,1,0,1,0,0])),⟨Afz,Anb F F⟩)]) (by kernel_rfl) (Ai (A2m F fr hn F) Ar)) n
theorem A2o(F:Nat)(fr:Frm)(hn:(A3B F).ntmps=fr.n):Dz AyO f75 fr [1,1,1,1,1] AfB (Asw F) :=
 D0 (A3D F) (A3E F) Asv rfl (A3C F) hn (fun x K=>by kernel_rfl) (A0 (l:=[((.loop (sub (Ak f75) [1,1,1,1,1,1,0,0])),⟨AfA,Anc F F⟩)]) (by kernel_rfl) (Ai (A2n F fr hn F) Ar))
theorem A6O(F:Nat)(fr:Frm)(hn:(A3B F).ntmps=fr.n):Dz AyO f75 fr [1,1] Ane (A2l F) :=
 D0 (A3D F) (A3E F) Awx rfl (A3C F) hn (fun x K=>by kernel_rfl) (A0 (l:=[((.loop (sub (Ak f75) [1,1,1,0,1,0,0])),⟨An9,Aww F F⟩),((sub (Ak f75) [1,1,1,1,1]),⟨AfB,Asw F⟩)]) (by kernel_rfl) (Ai (A6N F fr hn F) (Ai (A2o F fr hn) Ar)))
theorem s75(F:Nat):CSound prog 75 (A6L F) :=
 Ao (fn:=f75) (A3D F) (A3E F) rfl func75 (by kernel_rfl) (A3C F) (fun fr hn=>(A0 (l:=[((sub (Ak f75) [1,1]),⟨Ane,A2l F⟩)]) (by kernel_rfl) (Ai (A6O F fr hn) Ar))) (fun x=>by kernel_rfl)
def BhA:Sig:=⟨[.con 5,.ro],[(0,.own 0 Ct 5),(1,.d Bn)],false,some (0,5),[At]⟩
def A6P(F:Nat):Contract:=Ax BhA fun x=>Px F x.1 x.2.1
def BhB(F:Nat):Cx:=Aq [(75,A6L F)] [4,11] (0,12)
theorem BhC(F:Nat):Ah (BhB F):=Ac (Aa (s75 F) Ad)
theorem s32(F:Nat):CSound prog 32 (A6P F) :=
 Ao (fn:=f32) (Af []) (Af []) rfl func32 (by kernel_rfl) (BhC F) (fun fr hn=>(Al (by kernel_rfl))) (fun x=>by kernel_rfl)
def BhD:Sig:=⟨[.con 5,.ro],[(0,.own 0 Ct 5),(1,.d Aw)],false,some (0,5),[At]⟩
def A6Q(F:Nat):Contract:=Ax BhD fun x=>S6 F x.1 x.2.1
def BhE(F:Nat):Cx:=Aq [(72,Awr F)] [4] (0,15)
theorem BhF(F:Nat):Ah (BhE F):=Ac (Aa (s72 F) Ad)
theorem s33(F:Nat):CSound prog 33 (A6Q F) :=
 Ao (fn:=f33) (Af []) (Af []) rfl func33 (by kernel_rfl) (BhF F) (fun fr hn=>(Al (by kernel_rfl))) (fun x=>by kernel_rfl)
def A6S:Sig:=⟨[.ro],[(0,.d (.slice A7))],false,some (0,5),[At,Ab]⟩
def A6T(F:Nat):Contract:=Ax A6S fun x=>T3 F x.1
def A8x(F:Nat):Cx:=Aq [(13,A24 F),(30,A2k F),(31,A2i F),(32,A6P F),(33,A6Q F)] [2,7,24,27,85,97,101,103] (0,104)
theorem A8y(F:Nat):Ah (A8x F):=Ac (Aa (s13 F) (Aa (s30 F) (Aa (s31 F) (Aa (s32 F) (Aa (s33 F) Ad)))))
def AfC:Ae:=[(0,.d (.slice A7)),(5,.own 5 Ab 2),(6,.own 6 Ag 49),(7,.own 7 Ag 49),(9,.box 9 A7),(28,.d (.slice A7)),(29,.d Ab),(30,.d Ab),(49,.d Bv),(50,.d Ab),(51,.d Ab)]
def Aij:Ae:=[(0,.d (.slice A7)),(5,.own 5 Ab 2),(6,.own 6 Ag 49),(7,.own 7 Ag 49),(28,.d (.slice A7)),(29,.d Ab),(30,.d Ab)]
def Asx:Ck:=[(4,Aij)]
def Anf(F n:Nat):Au AfC:=fun x K=>H3 F (fun y0 y5 y6 y7 y28 y29 y30=>K (.exit 2) (enc Aij (y0,y5,y6,y7,y28,y29,y30,()))) n x.1 x.2.1 x.2.2.1 x.2.2.2.1 x.2.2.2.2.1 x.2.2.2.2.2.1 x.2.2.2.2.2.2.1 x.2.2.2.2.2.2.2.1 x.2.2.2.2.2.2.2.2.1 x.2.2.2.2.2.2.2.2.2.1 x.2.2.2.2.2.2.2.2.2.2.1
def Ang:Ae:=[(0,.d (.slice A7)),(5,.own 5 Ab 2),(6,.own 6 Ag 49),(7,.own 7 Ag 49),(28,.d (.slice A7)),(29,.d Ab),(30,.d Ab)]
def Anh:Ae:=[(0,.d (.slice A7)),(5,.own 5 Ab 2),(6,.own 6 Ag 49),(7,.own 7 Ag 49)]
def Awy:Ck:=[(2,Anh)]
def Awz(F n:Nat):Au Ang:=fun x K=>Lz F (fun y0 y5 y6 y7=>K (.exit 0) (enc Anh (y0,y5,y6,y7,()))) n x.1 x.2.1 x.2.2.1 x.2.2.2.1 x.2.2.2.2.1 x.2.2.2.2.2.1 x.2.2.2.2.2.2.1
def AfD:Ae:=[(6,.own 6 Ag 49),(7,.own 7 Ag 49),(14,.own 14 Ct 5),(88,.d (.slice A7)),(89,.d Ab),(90,.d Ab)]
def Aik:Ae:=[(6,.own 6 Ag 49),(7,.own 7 Ag 49),(14,.own 14 Ct 5)]
def Asy:Ck:=[(6,Aik)]
def Ani(F n:Nat):Au AfD:=fun x K=>K0 F (fun y6 y7 y14=>K (.exit 4) (enc Aik (y6,y7,y14,()))) n x.1 x.2.1 x.2.2.1 x.2.2.2.1 x.2.2.2.2.1 x.2.2.2.2.2.1
def A8z(F:Nat):A2 A6S:=Af [(12,⟨AfC,Anf F F⟩),(8,⟨Ang,Awz F F⟩),(24,⟨AfD,Ani F F⟩)]
theorem A2p(F:Nat)(fr:Frm)(hn:(A8x F).ntmps=fr.n)(n:Nat):A4 A6S f10 fr [1,1,1,1,1,0,1,0,0,1,1,0,0,1,1,1,0,0] AfC (Anf F n) :=
 A5 (A8z F) (Af []) Asx rfl (A8y F) hn (m:=fun n=>Anf F n) (fun _ _=>rfl) (fun n x K=>by kernel_rfl) (Al (by kernel_rfl)) n
theorem A6U(F:Nat)(fr:Frm)(hn:(A8x F).ntmps=fr.n)(n:Nat):A4 A6S f10 fr [1,1,1,1,1,0,1,0,0] Ang (Awz F n) :=
 A5 (A8z F) (Af []) Awy rfl (A8y F) hn (m:=fun n=>Awz F n) (fun _ _=>rfl) (fun n x K=>by kernel_rfl) (A0 (l:=[((.loop (sub (Ak f10) [1,1,1,1,1,0,1,0,0,1,1,0,0,1,1,1,0,0])),⟨AfC,Anf F F⟩)]) (by kernel_rfl) (Ai (A2p F fr hn F) Ar)) n
theorem A2q(F:Nat)(fr:Frm)(hn:(A8x F).ntmps=fr.n)(n:Nat):A4 A6S f10 fr [1,1,1,1,1,1,1,1,1,0,1,0,0] AfD (Ani F n) :=
 A5 (A8z F) (Af []) Asy rfl (A8y F) hn (m:=fun n=>Ani F n) (fun _ _=>rfl) (fun n x K=>by kernel_rfl) (Al (by kernel_rfl)) n
theorem s10(F:Nat):CSound prog 10 (A6T F) :=
 Ao (fn:=f10) (A8z F) (Af []) rfl func10 (by kernel_rfl) (A8y F) (fun fr hn=>(A0 (l:=[((.loop (sub (Ak f10) [1,1,1,1,1,0,1,0,0])),⟨Ang,Awz F F⟩),((.loop (sub (Ak f10) [1,1,1,1,1,1,1,1,1,0,1,0,0])),⟨AfD,Ani F F⟩)]) (by kernel_rfl) (Ai (A6U F fr hn F) (Ai (A2q F fr hn F) Ar)))) (fun x=>by kernel_rfl)
def BhG:Sig:=⟨[.ro,.ro,.ro],[(0,.d At),(1,.d Ab),(2,.d Ab)],true,none,[.bool]⟩
def A6V(F:Nat):Contract:=Ax BhG fun x=>Nx F x.1 x.2.1 x.2.2.1
def BhH(F:Nat):Cx:=Aq [] [] (0,23)
theorem BhI(F:Nat):Ah (BhH F):=Ac Ad
theorem s46(F:Nat):CSound prog 46 (A6V F) :=
 Ao (fn:=f46) (Af []) (Af []) rfl func46 (by kernel_rfl) (BhI F) (fun fr hn=>(Al (by kernel_rfl))) (fun x=>by kernel_rfl)
def Bci:Sig:=⟨[.ro],[(0,.d Ct)],true,none,[.bool]⟩
def AyP(F:Nat):Contract:=Ax Bci fun x=>Py F x.1
def Bcj(F:Nat):Cx:=Aq [] [] (0,5)
theorem Bck(F:Nat):Ah (Bcj F):=Ac Ad
theorem BhJ(F:Nat):CSound prog 179 (AyP F) :=
 Ao (fn:=f179) (Af []) (Af []) rfl func179 (by kernel_rfl) (Bck F) (fun fr hn=>(Al (by kernel_rfl))) (fun x=>by kernel_rfl)
def A2r:Sig:=⟨[.ro,.ro],[(0,.d At),(1,.fn 179)],true,none,[Ab]⟩
def AyQ(F:Nat):Contract:=Ax A2r fun x=>Gj F x.1
def A6W(F:Nat):Cx:=Aq [(179,AyP F)] [] (0,19)
theorem A6X(F:Nat):Ah (A6W F):=Ac (Aa (BhJ F) Ad)
def AfE:Ae:=[(0,.d At),(1,.fn 179),(7,.d Ab),(8,.d Ab)]
def Ail:Ae:=[]
def Abv:Ae:=[(4,.d Ab)]
def Asz:Ck:=[(2,Ail),(1,Abv)]
def Anj(F n:Nat):Au AfE:=fun x K=>B6 F (K (.exit 0) (enc Ail (()))) (fun y4=>K .ret (enc Abv (y4,()))) n x.1 x.2.2.1 x.2.2.2.1
def A6Y(F:Nat):A2 A2r:=Af [(2,⟨AfE,Anj F F⟩)]
theorem A2s(F:Nat)(fr:Frm)(hn:(A6W F).ntmps=fr.n)(n:Nat):A4 A2r f178 fr [1,0,1,0,0] AfE (Anj F n) :=
 A5 (A6Y F) (Af []) Asz rfl (A6X F) hn (m:=fun n=>Anj F n) (fun _ _=>rfl) (fun n x K=>by kernel_rfl) (Al (by kernel_rfl)) n
theorem BhK(F:Nat):CSound prog 178 (AyQ F) :=
 Ao (fn:=f178) (A6Y F) (Af []) rfl func178 (by kernel_rfl) (A6X F) (fun fr hn=>(A0 (l:=[((.loop (sub (Ak f178) [1,0,1,0,0])),⟨AfE,Anj F F⟩)]) (by kernel_rfl) (Ai (A2s F fr hn F) Ar))) (fun x=>by kernel_rfl)
def A2t:Sig:=⟨[.ro,.ro,.ro],[(0,.d At),(1,.d Ab),(2,.d Ab)],false,none,[At,Ab]⟩
def AsA(F:Nat):Contract:=Ax A2t fun x=>L0 F x.1 x.2.1 x.2.2.1
def A6Z(F:Nat):Cx:=Aq [(178,AyQ F)] [6,25,53] (0,54)
theorem A70(F:Nat):Ah (A6Z F):=Ac (Aa (BhK F) Ad)
def AfF:Ae:=[(0,.d At),(8,.d Ab),(27,.d .bool)]
def Aim:Ae:=[(0,.d At),(8,.d Ab)]
def Abw:Ae:=[(6,.own 6 Ct 5),(7,.d Ab)]
def AsB:Ck:=[(0,Aim),(1,Abw)]
def AsC(F:Nat):Au AfF:=fun x K=>F7 F (fun y0 y8=>K .normal (enc Aim (y0,y8,()))) (fun y6 y7=>K .ret (enc Abw (y6,y7,()))) x.1 x.2.1 x.2.2.1
def A71(F:Nat):A2 A2t:=Af [(6,⟨AfF,AsC F⟩)]
theorem A2u(F:Nat)(fr:Frm)(hn:(A6Z F).ntmps=fr.n):Dz A2t f148 fr [1,1,1,1,0,0,1] AfF (AsC F) :=
 D0 (Af []) (A71 F) AsB rfl (A70 F) hn (fun x K=>by kernel_rfl) (Al (by kernel_rfl))
theorem Bex(F:Nat):CSound prog 148 (AsA F) :=
 Ao (fn:=f148) (Af []) (A71 F) rfl func148 (by kernel_rfl) (A70 F) (fun fr hn=>(A0 (l:=[((sub (Ak f148) [1,1,1,1,0,0,1]),⟨AfF,AsC F⟩)]) (by kernel_rfl) (Ai (A2u F fr hn) Ar))) (fun x=>by kernel_rfl)
def AsD:Sig:=⟨[.ro,.ro],[(0,.d At),(1,.d Ab)],true,none,[Ag,Ab,Ab]⟩
def AsE(F:Nat):Contract:=Ax AsD fun x=>P0 F x.1 x.2.1
def A2v(F:Nat):Cx:=Aq [(148,AsA F)] [] (0,51)
theorem A2w(F:Nat):Ah (A2v F):=Ac (Aa (Bex F) Ad)
def AfG:Ae:=[(1,.d Ab),(7,.d At),(9,.d Ag),(30,.d At),(31,.d Ab),(32,.d Ab)]
def Ain:Ae:=[(1,.d Ab),(7,.d At),(9,.d Ag)]
def AsF:Ck:=[(2,Ain)]
def Ank(F n:Nat):Au AfG:=fun x K=>Ir F (fun y1 y7 y9=>K (.exit 0) (enc Ain (y1,y7,y9,()))) n x.1 x.2.1 x.2.2.1 x.2.2.2.1 x.2.2.2.2.1 x.2.2.2.2.2.1
def AfH:Ae:=[(1,.d Ab),(7,.d At)]
def Abx:Ae:=[(4,.d Ag),(5,.d Ab),(6,.d Ab)]
def AsG:Ck:=[(1,Abx)]
def AsH(F:Nat):Au AfH:=fun x K=>Ny F (fun y4 y5 y6=>K .ret (enc Abx (y4,y5,y6,()))) x.1 x.2.1
def A2x(F:Nat):A2 AsD:=Af [(8,⟨AfG,Ank F F⟩)]
def A2y(F:Nat):A2 AsD:=Af [(6,⟨AfH,AsH F⟩)]
theorem A2z(F:Nat)(fr:Frm)(hn:(A2v F).ntmps=fr.n)(n:Nat):A4 AsD f101 fr [1,1,1,1,1,0,1,0,0] AfG (Ank F n) :=
 A5 (A2x F) (A2y F) AsF rfl (A2w F) hn (m:=fun n=>Ank F n) (fun _ _=>rfl) (fun n x K=>by kernel_rfl) (Al (by kernel_rfl)) n
theorem A2A(F:Nat)(fr:Frm)(hn:(A2v F).ntmps=fr.n):Dz AsD f101 fr [1,1,1,1] AfH (AsH F) :=
 D0 (A2x F) (A2y F) AsG rfl (A2w F) hn (fun x K=>by kernel_rfl) (A0 (l:=[((.loop (sub (Ak f101) [1,1,1,1,1,0,1,0,0])),⟨AfG,Ank F F⟩)]) (by kernel_rfl) (Ai (A2z F fr hn F) Ar))
theorem Bey(F:Nat):CSound prog 101 (AsE F) :=
 Ao (fn:=f101) (A2x F) (A2y F) rfl func101 (by kernel_rfl) (A2w F) (fun fr hn=>(A0 (l:=[((sub (Ak f101) [1,1,1,1]),⟨AfH,AsH F⟩)]) (by kernel_rfl) (Ai (A2A F fr hn) Ar))) (fun x=>by kernel_rfl)
def BhL:Sig:=⟨[.ro,.ro,.ro],[(0,.d At),(1,.d Ab),(2,.d Ab)],true,none,[Ab,Ab,Ab]⟩
def A72(F:Nat):Contract:=Ax BhL fun x=>It F x.1 x.2.1 x.2.2.1
def BhN(F:Nat):Cx:=Aq [(101,AsE F)] [] (0,31)
theorem BhO(F:Nat):Ah (BhN F):=Ac (Aa (Bey F) Ad)
theorem s47(F:Nat):CSound prog 47 (A72 F) :=
 Ao (fn:=f47) (Af []) (Af []) rfl func47 (by kernel_rfl) (BhO F) (fun fr hn=>(Al (by kernel_rfl))) (fun x=>by kernel_rfl)
def A2B:Sig:=⟨[.ro,.ro,.ro],[(0,.d At),(1,.d Ab),(2,.d Ab)],false,some (0,49),[Aw,Ab,Ab]⟩
def AyS(F:Nat):Contract:=Ax A2B fun x=>H4 F x.1 x.2.1 x.2.2.1
def A73(F:Nat):Cx:=Aq [(101,AsE F)] [6,19] (0,41)
theorem A74(F:Nat):Ah (A73 F):=Ac (Aa (Bey F) Ad)
def AfI:Ae:=[(0,.d At),(1,.d Ab),(9,.own 9 Ag 49),(20,.d Ab),(21,.d Ab)]
def Aio:Ae:=[(1,.d Ab),(9,.own 9 Ag 49)]
def Aby:Ae:=[(6,.own 6 Ag 49),(7,.d Ab),(8,.d Ab)]
def AsI:Ck:=[(2,Aio),(1,Aby)]
def Anl(F n:Nat):Au AfI:=fun x K=>F8 F (fun y1 y9=>K (.exit 0) (enc Aio (y1,y9,()))) (fun y6 y7 y8=>K .ret (enc Aby (y6,y7,y8,()))) n x.1 x.2.1 x.2.2.1 x.2.2.2.1 x.2.2.2.2.1
def A75(F:Nat):A2 A2B:=Af [(3,⟨AfI,Anl F F⟩)]
theorem A2C(F:Nat)(fr:Frm)(hn:(A73 F).ntmps=fr.n)(n:Nat):A4 A2B f104 fr [1,1,0,1,0,0] AfI (Anl F n) :=
 A5 (A75 F) (Af []) AsI rfl (A74 F) hn (m:=fun n=>Anl F n) (fun _ _=>rfl) (fun n x K=>by kernel_rfl) (Al (by kernel_rfl)) n
theorem BhP(F:Nat):CSound prog 104 (AyS F) :=
 Ao (fn:=f104) (A75 F) (Af []) rfl func104 (by kernel_rfl) (A74 F) (fun fr hn=>(A0 (l:=[((.loop (sub (Ak f104) [1,1,0,1,0,0])),⟨AfI,Anl F F⟩)]) (by kernel_rfl) (Ai (A2C F fr hn F) Ar))) (fun x=>by kernel_rfl)
def AwA:Sig:=⟨[.ro,.ro,.ro],[(0,.d At),(1,.d Ab),(2,.d Ab)],false,some (0,49),[Aw,.bool]⟩
def AyT(F:Nat):Contract:=Ax AwA fun x=>Ee F x.1 x.2.1 x.2.2.1
def A2D(F:Nat):Cx:=Aq [(152,An1 F)] [6,21] (0,81)
theorem A2E(F:Nat):Ah (A2D F):=Ac (Aa (Bca F) Ad)
def AfJ:Ae:=[(0,.d At),(2,.d Ab),(8,.own 8 Ag 49),(9,.d Ab),(10,.d Ab),(11,.d Ab),(23,.d Ab),(24,.d Ab)]
def Aip:Ae:=[(0,.d At),(2,.d Ab),(8,.own 8 Ag 49),(9,.d Ab),(23,.d Ab),(24,.d Ab)]
def AsJ:Ck:=[(4,Aip)]
def Anm(F n:Nat):Au AfJ:=fun x K=>D8 F (fun y0 y2 y8 y9 y23 y24=>K (.exit 2) (enc Aip (y0,y2,y8,y9,y23,y24,()))) n x.1 x.2.1 x.2.2.1 x.2.2.2.1 x.2.2.2.2.1 x.2.2.2.2.2.1 x.2.2.2.2.2.2.1 x.2.2.2.2.2.2.2.1
def AfK:Ae:=[(0,.d At),(2,.d Ab),(8,.own 8 Ag 49),(9,.d Ab),(23,.d Ab),(24,.d Ab)]
def Aiq:Ae:=[(0,.d At),(8,.own 8 Ag 49),(9,.d Ab)]
def AsK:Ck:=[(2,Aiq)]
def Ann(F n:Nat):Au AfK:=fun x K=>D9 F (fun y0 y8 y9=>K (.exit 0) (enc Aiq (y0,y8,y9,()))) n x.1 x.2.1 x.2.2.1 x.2.2.2.1 x.2.2.2.2.1 x.2.2.2.2.2.1
def A2F(F:Nat):A2 AwA:=Af [(9,⟨AfJ,Anm F F⟩),(6,⟨AfK,Ann F F⟩)]
theorem A2G(F:Nat)(fr:Frm)(hn:(A2D F).ntmps=fr.n)(n:Nat):A4 AwA f153 fr [1,1,1,1,0,1,0,0,1,1,0,0,1,1,0,0] AfJ (Anm F n) :=
 A5 (A2F F) (Af []) AsJ rfl (A2E F) hn (m:=fun n=>Anm F n) (fun _ _=>rfl) (fun n x K=>by kernel_rfl) (Al (by kernel_rfl)) n
theorem A2H(F:Nat)(fr:Frm)(hn:(A2D F).ntmps=fr.n)(n:Nat):A4 AwA f153 fr [1,1,1,1,0,1,0,0] AfK (Ann F n) :=
 A5 (A2F F) (Af []) AsK rfl (A2E F) hn (m:=fun n=>Ann F n) (fun _ _=>rfl) (fun n x K=>by kernel_rfl) (A0 (l:=[((.loop (sub (Ak f153) [1,1,1,1,0,1,0,0,1,1,0,0,1,1,0,0])),⟨AfJ,Anm F F⟩)]) (by kernel_rfl) (Ai (A2G F fr hn F) Ar)) n
theorem BhQ(F:Nat):CSound prog 153 (AyT F) :=
 Ao (fn:=f153) (A2F F) (Af []) rfl func153 (by kernel_rfl) (A2E F) (fun fr hn=>(A0 (l:=[((.loop (sub (Ak f153) [1,1,1,1,0,1,0,0])),⟨AfK,Ann F F⟩)]) (by kernel_rfl) (Ai (A2H F fr hn F) Ar))) (fun x=>by kernel_rfl)
def Bcl:Sig:=⟨[.ro,.ro,.ro],[(0,.d At),(1,.d Ab),(2,.d Ab)],false,some (0,49),[Aw,Ab,Ab]⟩
def AyU(F:Nat):Contract:=Ax Bcl fun x=>G5 F x.1 x.2.1 x.2.2.1
def Bcm(F:Nat):Cx:=Aq [(152,An1 F),(153,AyT F)] [6,49] (0,58)
theorem Bcn(F:Nat):Ah (Bcm F):=Ac (Aa (Bca F) (Aa (BhQ F) Ad))
theorem BhS(F:Nat):CSound prog 105 (AyU F) :=
 Ao (fn:=f105) (Af []) (Af []) rfl func105 (by kernel_rfl) (Bcn F) (fun fr hn=>(Al (by kernel_rfl))) (fun x=>by kernel_rfl)
def A2I:Sig:=⟨[.ro,.ro],[(0,.d At),(1,.d At)],true,none,[.bool]⟩
def AsL(F:Nat):Contract:=Ax A2I fun x=>Be F x.1 x.2.1
def A76(F:Nat):Cx:=Aq [] [] (0,26)
theorem A77(F:Nat):Ah (A76 F):=Ac Ad
def AfL:Ae:=[(0,.d At),(1,.d At),(12,.d Ab),(13,.d Ab)]
def Air:Ae:=[]
def Abz:Ae:=[(4,.d .bool)]
def AsN:Ck:=[(2,Air),(1,Abz)]
def Ano(F n:Nat):Au AfL:=fun x K=>Ds F (K (.exit 0) (enc Air (()))) (fun y4=>K .ret (enc Abz (y4,()))) n x.1 x.2.1 x.2.2.1 x.2.2.2.1
def A78(F:Nat):A2 A2I:=Af [(4,⟨AfL,Ano F F⟩)]
theorem A2J(F:Nat)(fr:Frm)(hn:(A76 F).ntmps=fr.n)(n:Nat):A4 A2I f106 fr [1,1,0,1,0,0] AfL (Ano F n) :=
 A5 (A78 F) (Af []) AsN rfl (A77 F) hn (m:=fun n=>Ano F n) (fun _ _=>rfl) (fun n x K=>by kernel_rfl) (Al (by kernel_rfl)) n
theorem Bez(F:Nat):CSound prog 106 (AsL F) :=
 Ao (fn:=f106) (A78 F) (Af []) rfl func106 (by kernel_rfl) (A77 F) (fun fr hn=>(A0 (l:=[((.loop (sub (Ak f106) [1,1,0,1,0,0])),⟨AfL,Ano F F⟩)]) (by kernel_rfl) (Ai (A2J F fr hn F) Ar))) (fun x=>by kernel_rfl)
def Bco:Sig:=⟨[.ro,.ro,.ro],[(0,.d At),(1,.d Ab),(2,.d Ab)],false,none,[Aw,Ab,Ab]⟩
def AwB(F:Nat):Contract:=Ax Bco fun x=>Cn F x.1 x.2.1 x.2.2.1
def BeA(F:Nat):Cx:=Aq [(105,AyU F),(72,Awr F),(106,AsL F),(104,AyS F)] [6] (0,78)
theorem BeB(F:Nat):Ah (BeA F):=Ac (Aa (BhS F) (Aa (s72 F) (Aa (Bez F) (Aa (BhP F) Ad))))
def Anp:Ae:=[(0,.d At),(1,.d Ab),(2,.d Ab),(14,.d .bool)]
def Anq:Ae:=[(0,.d At),(1,.d Ab),(2,.d Ab)]
def Ady:Ae:=[(6,.own 6 Ag 49),(7,.d Ab),(8,.d Ab)]
def AwC:Ck:=[(0,Anq),(1,Ady)]
def A2K(F:Nat):Au Anp:=fun x K=>C0 F (fun y0 y1 y2=>K .normal (enc Anq (y0,y1,y2,()))) (fun y6 y7 y8=>K .ret (enc Ady (y6,y7,y8,()))) x.1 x.2.1 x.2.2.1 x.2.2.2.1
def BeC(F:Nat):A2 Bco:=Af [(2,⟨Anp,A2K F⟩)]
theorem A79(F:Nat)(fr:Frm)(hn:(BeA F).ntmps=fr.n):Dz Bco f50 fr [1,0,0,1] Anp (A2K F) :=
 D0 (Af []) (BeC F) AwC rfl (BeB F) hn (fun x K=>by kernel_rfl) (Al (by kernel_rfl))
theorem s50(F:Nat):CSound prog 50 (AwB F) :=
 Ao (fn:=f50) (Af []) (BeC F) rfl func50 (by kernel_rfl) (BeB F) (fun fr hn=>(A0 (l:=[((sub (Ak f50) [1,0,0,1]),⟨Anp,A2K F⟩)]) (by kernel_rfl) (Ai (A79 F fr hn) Ar))) (fun x=>by kernel_rfl)
def Bcp:Sig:=⟨[.ro],[(0,.d Ag)],true,none,[Ab]⟩
def AyV(F:Nat):Contract:=Ax Bcp fun x=>L1 F x.1
def Bcq(F:Nat):Cx:=Aq [] [] (0,11)
theorem Bcr(F:Nat):Ah (Bcq F):=Ac Ad
theorem BhT(F:Nat):CSound prog 149 (AyV F) :=
 Ao (fn:=f149) (Af []) (Af []) rfl func149 (by kernel_rfl) (Bcr F) (fun fr hn=>(Al (by kernel_rfl))) (fun x=>by kernel_rfl)
def Apl:Sig:=⟨[.ro,.ro,.ro],[(0,.d At),(1,.d Ab),(2,.d Ab)],false,none,[Bv,Ab,Ab]⟩
def AyW(F:Nat):Contract:=Ax Apl fun x=>Dq F x.1 x.2.1 x.2.2.1
def AwD(F:Nat):Cx:=Aq [(50,AwB F),(149,AyV F),(125,Aso F),(30,A2k F),(106,AsL F)] [6,57] (0,96)
theorem AwE(F:Nat):Ah (AwD F):=Ac (Aa (s50 F) (Aa (BhT F) (Aa (BbZ F) (Aa (s30 F) (Aa (Bez F) Ad)))))
def AfN:Ae:=[(0,.d At),(1,.d Ab),(2,.d Ab),(16,.d .bool)]
def Ais:Ae:=[(0,.d At),(1,.d Ab),(2,.d Ab)]
def AbA:Ae:=[(6,.own 6 Ab 2),(7,.d Ab),(8,.d Ab)]
def AsO:Ck:=[(0,Ais),(1,AbA)]
def AsP(F:Nat):Au AfN:=fun x K=>Cc F (fun y0 y1 y2=>K .normal (enc Ais (y0,y1,y2,()))) (fun y6 y7 y8=>K .ret (enc AbA (y6,y7,y8,()))) x.1 x.2.1 x.2.2.1 x.2.2.2.1
def Aam:Ae:=[(0,.d At),(1,.d Ab),(10,.d Ab),(12,.own 12 Ab 2),(58,.d Aw),(59,.d Ab),(60,.d Ab)]
def Adz:Ae:=[(0,.d At),(1,.d Ab),(10,.d Ab),(12,.own 12 Ab 2)]
def Apm:Ck:=[(3,Adz)]
def AfO(F n:Nat):Au Aam:=fun x K=>Ea F (fun y0 y1 y10 y12=>K (.exit 1) (enc Adz (y0,y1,y10,y12,()))) n x.1 x.2.1 x.2.2.1 x.2.2.2.1 x.2.2.2.2.1 x.2.2.2.2.2.1 x.2.2.2.2.2.2.1
def Aan:Ae:=[(0,.d At),(1,.d Ab),(10,.d Ab),(12,.own 12 Ab 2),(58,.d Aw),(59,.d Ab),(60,.d Ab)]
def AdA:Ae:=[(0,.d At),(1,.d Ab),(10,.d Ab),(12,.own 12 Ab 2)]
def Apn:Ck:=[(0,AdA)]
def Aki(F:Nat):Au Aan:=fun x K=>Dd F (fun y0 y1 y10 y12=>K .normal (enc AdA (y0,y1,y10,y12,()))) x.1 x.2.1 x.2.2.1 x.2.2.2.1 x.2.2.2.2.1 x.2.2.2.2.2.1 x.2.2.2.2.2.2.1
def AwF(F:Nat):A2 Apl:=Af [(12,⟨Aam,AfO F F⟩)]
def AwG(F:Nat):A2 Apl:=Af [(2,⟨AfN,AsP F⟩),(12,⟨Aan,Aki F⟩)]
theorem A2L(F:Nat)(fr:Frm)(hn:(AwD F).ntmps=fr.n):Dz Apl f102 fr [1,0,0,1] AfN (AsP F) :=
 D0 (AwF F) (AwG F) AsO rfl (AwE F) hn (fun x K=>by kernel_rfl) (Al (by kernel_rfl))
theorem AwH(F:Nat)(fr:Frm)(hn:(AwD F).ntmps=fr.n)(n:Nat):A4 Apl f102 fr [1,1,1,1,1,0,1,0,0] Aam (AfO F n) :=
 A5 (AwF F) (AwG F) Apm rfl (AwE F) hn (m:=fun n=>AfO F n) (fun _ _=>rfl) (fun n x K=>by kernel_rfl) (Al (by kernel_rfl)) n
theorem AwI(F:Nat)(fr:Frm)(hn:(AwD F).ntmps=fr.n):Dz Apl f102 fr [1,1,1,1,1,0,1] Aan (Aki F) :=
 D0 (AwF F) (AwG F) Apn rfl (AwE F) hn (fun x K=>by kernel_rfl) (A0 (l:=[((.loop (sub (Ak f102) [1,1,1,1,1,0,1,0,0])),⟨Aam,AfO F F⟩)]) (by kernel_rfl) (Ai (AwH F fr hn F) Ar))
theorem BhU(F:Nat):CSound prog 102 (AyW F) :=
 Ao (fn:=f102) (AwF F) (AwG F) rfl func102 (by kernel_rfl) (AwE F) (fun fr hn=>(A0 (l:=[((sub (Ak f102) [1,0,0,1]),⟨AfN,AsP F⟩),((sub (Ak f102) [1,1,1,1,1,0,1]),⟨Aan,Aki F⟩)]) (by kernel_rfl) (Ai (A2L F fr hn) (Ai (AwI F fr hn) Ar)))) (fun x=>by kernel_rfl)
def AsQ:Sig:=⟨[.ro,.ro],[(0,.d At),(1,.d Ab)],true,none,[tyV,Ab,Ab]⟩
def AyX(F:Nat):Contract:=Ax AsQ fun x=>L2 F x.1 x.2.1
def AwJ(F:Nat):Cx:=Aq [(148,AsA F),(81,ArV F)] [] (0,94)
theorem AwK(F:Nat):Ah (AwJ F):=Ac (Aa (Bex F) (Aa (s81 F) Ad))
def AfP:Ae:=[(1,.d Ab),(4,.box 4 tyV),(7,.d At),(9,.box 9 (.arr 5 Ag)),(10,.d Ab),(11,.d Ab)]
def Ait:Ae:=[(1,.d Ab),(4,.box 4 tyV),(7,.d At),(9,.box 9 (.arr 5 Ag)),(10,.d Ab)]
def AsS:Ck:=[(4,Ait)]
def Anr(F n:Nat):Au AfP:=fun x K=>I3 F (fun y1 y4 y7 y9 y10=>K (.exit 2) (enc Ait (y1,y4,y7,y9,y10,()))) n x.1 x.2.1 x.2.2.1 x.2.2.2.1 x.2.2.2.2.1 x.2.2.2.2.2.1
def AfQ:Ae:=[(1,.d Ab),(4,.box 4 tyV),(7,.d At),(9,.box 9 (.arr 5 Ag)),(10,.d Ab)]
def Aiu:Ae:=[(1,.d Ab),(4,.box 4 tyV),(7,.d At),(9,.box 9 (.arr 5 Ag))]
def AsT:Ck:=[(2,Aiu)]
def Ans(F n:Nat):Au AfQ:=fun x K=>Eu F (fun y1 y4 y7 y9=>K (.exit 0) (enc Aiu (y1,y4,y7,y9,()))) n x.1 x.2.1 x.2.2.1 x.2.2.2.1 x.2.2.2.2.1
def Aao:Ae:=[(1,.d Ab),(4,.box 4 tyV),(7,.d At),(9,.box 9 (.arr 5 Ag)),(12,.box 12 tyV),(63,.d Ab)]
def AdB:Ae:=[(1,.d Ab),(4,.box 4 tyV),(7,.d At),(9,.box 9 (.arr 5 Ag)),(12,.box 12 tyV)]
def Apo:Ck:=[(6,AdB)]
def AfS(F n:Nat):Au Aao:=fun x K=>H5 F (fun y1 y4 y7 y9 y12=>K (.exit 4) (enc AdB (y1,y4,y7,y9,y12,()))) n x.1 x.2.1 x.2.2.1 x.2.2.2.1 x.2.2.2.2.1 x.2.2.2.2.2.1
def AwL(F:Nat):A2 AsQ:=Af [(9,⟨AfP,Anr F F⟩),(6,⟨AfQ,Ans F F⟩),(15,⟨Aao,AfS F F⟩)]
theorem A2N(F:Nat)(fr:Frm)(hn:(AwJ F).ntmps=fr.n)(n:Nat):A4 AsQ f151 fr [1,1,1,1,0,1,0,0,1,0,0,0,1,0,0] AfP (Anr F n) :=
 A5 (AwL F) (Af []) AsS rfl (AwK F) hn (m:=fun n=>Anr F n) (fun _ _=>rfl) (fun n x K=>by kernel_rfl) (Al (by kernel_rfl)) n
theorem A2O(F:Nat)(fr:Frm)(hn:(AwJ F).ntmps=fr.n)(n:Nat):A4 AsQ f151 fr [1,1,1,1,0,1,0,0] AfQ (Ans F n) :=
 A5 (AwL F) (Af []) AsT rfl (AwK F) hn (m:=fun n=>Ans F n) (fun _ _=>rfl) (fun n x K=>by kernel_rfl) (A0 (l:=[((.loop (sub (Ak f151) [1,1,1,1,0,1,0,0,1,0,0,0,1,0,0])),⟨AfP,Anr F F⟩)]) (by kernel_rfl) (Ai (A2N F fr hn F) Ar)) n
theorem AwN(F:Nat)(fr:Frm)(hn:(AwJ F).ntmps=fr.n)(n:Nat):A4 AsQ f151 fr [1,1,1,1,1,1,0,1,0,0] Aao (AfS F n) :=
 A5 (AwL F) (Af []) Apo rfl (AwK F) hn (m:=fun n=>AfS F n) (fun _ _=>rfl) (fun n x K=>by kernel_rfl) (Al (by kernel_rfl)) n
theorem BhV(F:Nat):CSound prog 151 (AyX F) :=
 Ao (fn:=f151) (AwL F) (Af []) rfl func151 (by kernel_rfl) (AwK F) (fun fr hn=>(A0 (l:=[((.loop (sub (Ak f151) [1,1,1,1,0,1,0,0])),⟨AfQ,Ans F F⟩),((.loop (sub (Ak f151) [1,1,1,1,1,1,0,1,0,0])),⟨Aao,AfS F F⟩)]) (by kernel_rfl) (Ai (A2O F fr hn F) (Ai (AwN F fr hn F) Ar)))) (fun x=>by kernel_rfl)
def A2P:Sig:=⟨[.ro,.ro],[(0,.d At),(1,.d Ab)],true,none,[Bn,Ab,Ab]⟩
def AyY(F:Nat):Contract:=Ax A2P fun x=>O5 F x.1 x.2.1
def A7a(F:Nat):Cx:=Aq [(151,AyX F),(82,ArW F),(40,Awd F)] [] (0,49)
theorem A7b(F:Nat):Ah (A7a F):=Ac (Aa (BhV F) (Aa (s82 F) (Aa (s40 F) Ad)))
def AfT:Ae:=[(0,.d At),(1,.d Ab),(4,.box 4 Bn),(7,.box 7 (.arr 2 tyV)),(13,.d Ab)]
def Aiv:Ae:=[(1,.d Ab),(4,.box 4 Bn),(7,.box 7 (.arr 2 tyV))]
def AbB:Ae:=[(4,.box 4 Bn),(5,.d Ab),(6,.d Ab)]
def AsU:Ck:=[(2,Aiv),(1,AbB)]
def Ant(F n:Nat):Au AfT:=fun x K=>B5 F (fun y1 y4 y7=>K (.exit 0) (enc Aiv (y1,y4,y7,()))) (fun y4 y5 y6=>K .ret (enc AbB (y4,y5,y6,()))) n x.1 x.2.1 x.2.2.1 x.2.2.2.1 x.2.2.2.2.1
def A7c(F:Nat):A2 A2P:=Af [(3,⟨AfT,Ant F F⟩)]
theorem A2Q(F:Nat)(fr:Frm)(hn:(A7a F).ntmps=fr.n)(n:Nat):A4 A2P f103 fr [1,1,0,1,0,0] AfT (Ant F n) :=
 A5 (A7c F) (Af []) AsU rfl (A7b F) hn (m:=fun n=>Ant F n) (fun _ _=>rfl) (fun n x K=>by kernel_rfl) (Al (by kernel_rfl)) n
theorem BhW(F:Nat):CSound prog 103 (AyY F) :=
 Ao (fn:=f103) (A7c F) (Af []) rfl func103 (by kernel_rfl) (A7b F) (fun fr hn=>(A0 (l:=[((.loop (sub (Ak f103) [1,1,0,1,0,0])),⟨AfT,Ant F F⟩)]) (by kernel_rfl) (Ai (A2Q F fr hn F) Ar))) (fun x=>by kernel_rfl)
def Bcs:Sig:=⟨[.ro,.ro,.ro],[(0,.d At),(1,.d Ab),(2,.d Ab)],false,some (0,56),[(.slice (.pair Ab (.pair Bn (.pair .nil .unit)))),Ab,Ab]⟩
def A7d(F:Nat):Contract:=Ax Bcs fun x=>Jr F x.1 x.2.1 x.2.2.1
def A8A(F:Nat):Cx:={ types:=AgD,call:=Ot [(102,AyW F),(103,AyY F)],own:=[6,29],ntmps:=(0,57) }
theorem BeD(F:Nat):Ah (A8A F):=Ac (Aa (BhU F) (Aa (BhW F) Ad))
def Anu:Ae:=[(0,.d At),(1,.d Ab),(11,.own 11 (.pair Ab (.pair Bn (.pair .nil .unit))) 56),(30,.d Bv),(31,.d Ab),(32,.d Ab)]
def Anv:Ae:=[(1,.d Ab),(11,.own 11 (.pair Ab (.pair Bn (.pair .nil .unit))) 56)]
def AdC:Ae:=[(6,.own 6 (.pair Ab (.pair Bn (.pair .nil .unit))) 56),(7,.d Ab),(8,.d Ab)]
def AwO:Ck:=[(2,Anv),(1,AdC)]
def AwP(F n:Nat):Au Anu:=fun x K=>Ev F (fun y1 y11=>K (.exit 0) (enc Anv (y1,y11,()))) (fun y6 y7 y8=>K .ret (enc AdC (y6,y7,y8,()))) n x.1 x.2.1 x.2.2.1 x.2.2.2.1 x.2.2.2.2.1 x.2.2.2.2.2.1
def BeE(F:Nat):A2 Bcs:=Af [(6,⟨Anu,AwP F F⟩)]
theorem A7e(F:Nat)(fr:Frm)(hn:(A8A F).ntmps=fr.n)(n:Nat):A4 Bcs f48 fr [1,1,1,1,0,1,0,0] Anu (AwP F n) :=
 Us (cx:=A8A F) (hs:=BeE F) (js:=Af []) (outs:=AwO) (T6 _ rfl) (BeD F) hn mix (m:=fun n=>AwP F n) (fun _ _=>rfl) (fun n x K=>by kernel_rfl) (Al (by kernel_rfl)) n
theorem s48(F:Nat):CSound prog 48 (A7d F) :=
 Aa5 (fn:=f48) (code:=(Ak f48)) (cx:=A8A F) (hs:=BeE F) (js:=Af []) func48 (by kernel_rfl) (by kernel_rfl) (T6 _ rfl) (BeD F) mix (by kernel_rfl) (by kernel_rfl) (fun fr hn=>(A0 (l:=[((.loop (sub (Ak f48) [1,1,1,1,0,1,0,0])),⟨Anu,AwP F F⟩)]) (by kernel_rfl) (Ai (A7e F fr hn F) Ar))) (fun x=>by kernel_rfl)
def Bct:Sig:=⟨[.ro,.ro,.ro,.ro],[(0,.d At),(1,.d Ab),(2,.d Ab),(3,.d Ab)],false,some (0,3),[Bv,Ab,Ab,Ab]⟩
def A7f(F:Nat):Contract:=Ax Bct fun x=>Kj F x.1 x.2.1 x.2.2.1 x.2.2.2.1
def BeF(F:Nat):Cx:=Aq [(50,AwB F)] [8,31] (0,61)
theorem BeG(F:Nat):Ah (BeF F):=Ac (Aa (s50 F) Ad)
def Anw:Ae:=[(3,.d Ab),(13,.d Ab),(15,.own 15 Ab 3),(16,.d Ab),(32,.d Aw),(33,.d Ab),(34,.d Ab)]
def Anx:Ae:=[(13,.d Ab),(15,.own 15 Ab 3),(16,.d Ab)]
def AwQ:Ck:=[(2,Anx)]
def AwS(F n:Nat):Au Anw:=fun x K=>Fr F (fun y13 y15 y16=>K (.exit 0) (enc Anx (y13,y15,y16,()))) n x.1 x.2.1 x.2.2.1 x.2.2.2.1 x.2.2.2.2.1 x.2.2.2.2.2.1 x.2.2.2.2.2.2.1
def BeH(F:Nat):A2 Bct:=Af [(7,⟨Anw,AwS F F⟩)]
theorem A7g(F:Nat)(fr:Frm)(hn:(BeF F).ntmps=fr.n)(n:Nat):A4 Bct f49 fr [1,1,1,1,1,0,1,0,0] Anw (AwS F n) :=
 A5 (BeH F) (Af []) AwQ rfl (BeG F) hn (m:=fun n=>AwS F n) (fun _ _=>rfl) (fun n x K=>by kernel_rfl) (Al (by kernel_rfl)) n
theorem s49(F:Nat):CSound prog 49 (A7f F) :=
 Ao (fn:=f49) (BeH F) (Af []) rfl func49 (by kernel_rfl) (BeG F) (fun fr hn=>(A0 (l:=[((.loop (sub (Ak f49) [1,1,1,1,1,0,1,0,0])),⟨Anw,AwS F F⟩)]) (by kernel_rfl) (Ai (A7g F fr hn F) Ar))) (fun x=>by kernel_rfl)
def Bcu:Sig:=⟨[.wr 56,.ro,.ro,.ro],[(0,.own 0 (.pair Ab (.pair Bn (.pair .nil .unit))) 56),(1,.d Bv),(2,.d Aw),(3,.d Ab)],false,none,[(.slice A7),.bool]⟩
def A7h(F:Nat):Contract:=Ax Bcu fun x=>Nz F x.1 x.2.1 x.2.2.1 x.2.2.2.1
def BeI(F:Nat):Cx:=Aq [] [] (1,54)
theorem BhX(F:Nat):Ah (BeI F):=Ac Ad
def Anz:Ae:=[(0,.own 0 (.pair Ab (.pair Bn (.pair .nil .unit))) 56),(2,.d Aw),(3,.d Ab),(12,.d Bv),(13,.d Ab),(14,.d Ab)]
def AnA:Ae:=[(0,.own 0 A7 56)]
def AdD:Ae:=[(0,.own 0 A7 56),(8,.d .bool)]
def A8B:Ck:=[(2,AnA),(1,AdD)]
def A2S(F n:Nat):Au Anz:=fun x K=>Hn F (fun y0=>K (.exit 0) (enc AnA (y0,()))) (fun y0 y8=>K .ret (enc AdD (y0,y8,()))) n x.1 x.2.1 x.2.2.1 x.2.2.2.1 x.2.2.2.2.1 x.2.2.2.2.2.1
def BhY(F:Nat):A2 Bcu:=Af [(2,⟨Anz,A2S F F⟩)]
theorem A7i(F:Nat)(fr:Frm)(hn:(BeI F).ntmps=fr.n)(n:Nat):A4 Bcu f51 fr [1,0,1,0,0] Anz (A2S F n):=Ap7 F fr hn n
theorem s51(F:Nat):CSound prog 51 (A7h F) :=
 Ao (fn:=f51) (BhY F) (Af []) rfl func51 (by kernel_rfl) (BhX F) (fun fr hn=>(A0 (l:=[((.loop (sub (Ak f51) [1,0,1,0,0])),⟨Anz,A2S F F⟩)]) (by kernel_rfl) (Ai (A7i F fr hn F) Ar))) (fun x=>by kernel_rfl)
def BhZ:Sig:=⟨[.ro],[(0,.d A7)],true,none,[.bool]⟩
def A7j(F:Nat):Contract:=Ax BhZ fun x=>J7 F x.1
def Bi0(F:Nat):Cx:=Aq [] [] (0,8)
theorem Bi1(F:Nat):Ah (Bi0 F):=Ac Ad
theorem s53(F:Nat):CSound prog 53 (A7j F) :=
 Ao (fn:=f53) (Af []) (Af []) rfl func53 (by kernel_rfl) (Bi1 F) (fun fr hn=>(Al (by kernel_rfl))) (fun x=>by kernel_rfl)
def A2T:Sig:=⟨[.ro,.ro],[(0,.d (.slice A7)),(1,.fn 53)],true,none,[Ab]⟩
def AyZ(F:Nat):Contract:=Ax A2T fun x=>G6 F x.1
def A7k(F:Nat):Cx:=Aq [(53,A7j F)] [] (0,19)
theorem A7l(F:Nat):Ah (A7k F):=Ac (Aa (s53 F) Ad)
def AfU:Ae:=[(0,.d (.slice A7)),(1,.fn 53),(7,.d Ab),(8,.d Ab)]
def Aiw:Ae:=[]
def AbC:Ae:=[(4,.d Ab)]
def AsV:Ck:=[(2,Aiw),(1,AbC)]
def AnB(F n:Nat):Au AfU:=fun x K=>Bh F (K (.exit 0) (enc Aiw (()))) (fun y4=>K .ret (enc AbC (y4,()))) n x.1 x.2.2.1 x.2.2.2.1
def A7m(F:Nat):A2 A2T:=Af [(2,⟨AfU,AnB F F⟩)]
theorem A2U(F:Nat)(fr:Frm)(hn:(A7k F).ntmps=fr.n)(n:Nat):A4 A2T f107 fr [1,0,1,0,0] AfU (AnB F n) :=
 A5 (A7m F) (Af []) AsV rfl (A7l F) hn (m:=fun n=>AnB F n) (fun _ _=>rfl) (fun n x K=>by kernel_rfl) (Al (by kernel_rfl)) n
theorem Bi2(F:Nat):CSound prog 107 (AyZ F) :=
 Ao (fn:=f107) (A7m F) (Af []) rfl func107 (by kernel_rfl) (A7l F) (fun fr hn=>(A0 (l:=[((.loop (sub (Ak f107) [1,0,1,0,0])),⟨AfU,AnB F F⟩)]) (by kernel_rfl) (Ai (A2U F fr hn F) Ar))) (fun x=>by kernel_rfl)
def Bi3:Sig:=⟨[.ro,.ro],[(0,.d (.slice A7)),(1,.fn 53)],true,none,[.bool]⟩
def A7n(F:Nat):Contract:=Ax Bi3 fun x=>Cr F x.1
def Bi4(F:Nat):Cx:=Aq [(107,AyZ F)] [] (0,9)
theorem Bi5(F:Nat):Ah (Bi4 F):=Ac (Aa (Bi2 F) Ad)
theorem s52(F:Nat):CSound prog 52 (A7n F) :=
 Ao (fn:=f52) (Af []) (Af []) rfl func52 (by kernel_rfl) (Bi5 F) (fun fr hn=>(Al (by kernel_rfl))) (fun x=>by kernel_rfl)
def Bi6:Sig:=⟨[.ro,.ro,.ro],[(0,.d At),(1,.d Ab),(2,.d Ab)],false,some (0,56),[(.slice A7),Ab,Ab]⟩
def A2V(F:Nat):Contract:=Ax Bi6 fun x=>Br F x.1 x.2.1 x.2.2.1
def Bi7(F:Nat):Cx:=Aq [(46,A6V F),(47,A72 F),(48,A7d F),(49,A7f F),(50,AwB F),(51,A7h F),(13,A24 F),(52,A7n F)] [6,35] (0,93)
theorem Bi8(F:Nat):Ah (Bi7 F):=Ac (Aa (s46 F) (Aa (s47 F) (Aa (s48 F) (Aa (s49 F) (Aa (s50 F) (Aa (s51 F) (Aa (s13 F) (Aa (s52 F) Ad))))))))
theorem s21(F:Nat):CSound prog 21 (A2V F) :=
 Ao (fn:=f21) (Af []) (Af []) rfl func21 (by kernel_rfl) (Bi8 F) (fun fr hn=>(Al (by kernel_rfl))) (fun x=>by kernel_rfl)
def Bcv:Sig:=⟨[.ro,.ro],[(0,.d At),(1,.d At)],true,none,[.bool]⟩
def AsW(F:Nat):Contract:=Ax Bcv fun x=>Iu F x.1 x.2.1
def BeJ(F:Nat):Cx:=Aq [] [] (0,26)
theorem BeK(F:Nat):Ah (BeJ F):=Ac Ad
def AnC:Ae:=[(0,.d At),(1,.d At),(5,.d Ab)]
def AnD:Ae:=[]
def AdE:Ae:=[(4,.d .bool)]
def AwT:Ck:=[(2,AnD),(1,AdE)]
def AwU(F n:Nat):Au AnC:=fun x K=>J8 F (K (.exit 0) (enc AnD (()))) (fun y4=>K .ret (enc AdE (y4,()))) n x.1 x.2.1 x.2.2.1
def BeL(F:Nat):A2 Bcv:=Af [(4,⟨AnC,AwU F F⟩)]
theorem A7o(F:Nat)(fr:Frm)(hn:(BeJ F).ntmps=fr.n)(n:Nat):A4 Bcv f12 fr [1,1,0,1,0,0] AnC (AwU F n) :=
 A5 (BeL F) (Af []) AwT rfl (BeK F) hn (m:=fun n=>AwU F n) (fun _ _=>rfl) (fun n x K=>by kernel_rfl) (Al (by kernel_rfl)) n
theorem s12(F:Nat):CSound prog 12 (AsW F) :=
 Ao (fn:=f12) (BeL F) (Af []) rfl func12 (by kernel_rfl) (BeK F) (fun fr hn=>(A0 (l:=[((.loop (sub (Ak f12) [1,1,0,1,0,0])),⟨AnC,AwU F F⟩)]) (by kernel_rfl) (Ai (A7o F fr hn F) Ar))) (fun x=>by kernel_rfl)
def Bi9:Sig:=⟨[],[],true,none,[.bool]⟩
def A7p(F:Nat):Contract:=Ax Bi9 fun x=>We F 
def Bia(F:Nat):Cx:=Aq [(44,Avt F),(10,A6T F),(21,A2V F),(12,AsW F)] [] (0,53)
theorem Bib(F:Nat):Ah (Bia F):=Ac (Aa (s44 F) (Aa (s10 F) (Aa (s21 F) (Aa (s12 F) Ad))))
theorem s15(F:Nat):CSound prog 15 (A7p F) :=
 Ao (fn:=f15) (Af []) (Af []) rfl func15 (by kernel_rfl) (Bib F) (fun fr hn=>(Al (by kernel_rfl))) (fun x=>by kernel_rfl)
def A2W:Sig:=⟨[.ro,.ro,.ro],[(0,.d At),(1,.d Ab),(2,.d Ab)],false,none,[At,Ab]⟩
def AsX(F:Nat):Contract:=Ax A2W fun x=>Od F x.1 x.2.1 x.2.2.1
def A7q(F:Nat):Cx:=Aq [] [6] (0,47)
theorem A7r(F:Nat):Ah (A7q F):=Ac Ad
def AfV:Ae:=[(0,.d At),(1,.d Ab),(2,.d Ab),(8,.d Ab)]
def Aix:Ae:=[(2,.d Ab),(8,.d Ab)]
def AbD:Ae:=[(6,.d At),(7,.d Ab)]
def AsY:Ck:=[(2,Aix),(1,AbD)]
def AnE(F n:Nat):Au AfV:=fun x K=>Ho F (fun y2 y8=>K (.exit 0) (enc Aix (y2,y8,()))) (fun y6 y7=>K .ret (enc AbD (y6,y7,()))) n x.1 x.2.1 x.2.2.1 x.2.2.2.1
def A7s(F:Nat):A2 A2W:=Af [(4,⟨AfV,AnE F F⟩)]
theorem A2X(F:Nat)(fr:Frm)(hn:(A7q F).ntmps=fr.n)(n:Nat):A4 A2W f142 fr [1,1,1,0,0,0] AfV (AnE F n) :=
 A5 (A7s F) (Af []) AsY rfl (A7r F) hn (m:=fun n=>AnE F n) (fun _ _=>rfl) (fun n x K=>by kernel_rfl) (Al (by kernel_rfl)) n
theorem BeN(F:Nat):CSound prog 142 (AsX F) :=
 Ao (fn:=f142) (A7s F) (Af []) rfl func142 (by kernel_rfl) (A7r F) (fun fr hn=>(A0 (l:=[((.loop (sub (Ak f142) [1,1,1,0,0,0])),⟨AfV,AnE F F⟩)]) (by kernel_rfl) (Ai (A2X F fr hn F) Ar))) (fun x=>by kernel_rfl)
def A7t:Sig:=⟨[.ro,.ro],[(0,.d At),(1,.d Ab)],true,none,[Ag,Ab,Ab]⟩
def A2Y(F:Nat):Contract:=Ax A7t fun x=>Sb F x.1 x.2.1
def Bcw(F:Nat):Cx:=Aq [(142,AsX F)] [] (0,64)
theorem Bcx(F:Nat):Ah (Bcw F):=Ac (Aa (BeN F) Ad)
def AnF:Ae:=[(1,.d Ab),(7,.d At),(10,.d Ag),(11,.d Ab)]
def AnG:Ae:=[(1,.d Ab),(7,.d At),(10,.d Ag)]
def AwV:Ck:=[(2,AnG)]
def AwW(F n:Nat):Au AnF:=fun x K=>J9 F (fun y1 y7 y10=>K (.exit 0) (enc AnG (y1,y7,y10,()))) n x.1 x.2.1 x.2.2.1 x.2.2.2.1
def AnH:Ae:=[(1,.d Ab),(7,.d At)]
def AdF:Ae:=[(4,.d Ag),(5,.d Ab),(6,.d Ab)]
def AwX:Ck:=[(1,AdF)]
def A2Z(F:Nat):Au AnH:=fun x K=>Ka F (fun y4 y5 y6=>K .ret (enc AdF (y4,y5,y6,()))) x.1 x.2.1
def Bcy(F:Nat):A2 A7t:=Af [(9,⟨AnF,AwW F F⟩)]
def Bcz(F:Nat):A2 A7t:=Af [(7,⟨AnH,A2Z F⟩)]
theorem A7u(F:Nat)(fr:Frm)(hn:(Bcw F).ntmps=fr.n)(n:Nat):A4 A7t f97 fr [1,1,1,1,1,1,0,1,0,0] AnF (AwW F n) :=
 A5 (Bcy F) (Bcz F) AwV rfl (Bcx F) hn (m:=fun n=>AwW F n) (fun _ _=>rfl) (fun n x K=>by kernel_rfl) (Al (by kernel_rfl)) n
theorem A7v(F:Nat)(fr:Frm)(hn:(Bcw F).ntmps=fr.n):Dz A7t f97 fr [1,1,1,1,1] AnH (A2Z F) :=
 D0 (Bcy F) (Bcz F) AwX rfl (Bcx F) hn (fun x K=>by kernel_rfl) (A0 (l:=[((.loop (sub (Ak f97) [1,1,1,1,1,1,0,1,0,0])),⟨AnF,AwW F F⟩)]) (by kernel_rfl) (Ai (A7u F fr hn F) Ar))
theorem s97(F:Nat):CSound prog 97 (A2Y F) :=
 Ao (fn:=f97) (Bcy F) (Bcz F) rfl func97 (by kernel_rfl) (Bcx F) (fun fr hn=>(A0 (l:=[((sub (Ak f97) [1,1,1,1,1]),⟨AnH,A2Z F⟩)]) (by kernel_rfl) (Ai (A7v F fr hn) Ar))) (fun x=>by kernel_rfl)
def A30:Sig:=⟨[.ro,.ro,.ro],[(0,.d At),(1,.d Ab),(2,.d Ab)],false,some (0,49),[Aw,Ab,Ab]⟩
def Az0(F:Nat):Contract:=Ax A30 fun x=>S7 F x.1 x.2.1 x.2.2.1
def A7w(F:Nat):Cx:=Aq [(97,A2Y F)] [6,9] (0,36)
theorem A7x(F:Nat):Ah (A7w F):=Ac (Aa (s97 F) Ad)
def AfW:Ae:=[(0,.d At),(1,.d Ab),(2,.d Ab),(9,.own 9 Ag 49),(10,.d Ab)]
def Aiy:Ae:=[(1,.d Ab),(9,.own 9 Ag 49)]
def AbE:Ae:=[(6,.own 6 Ag 49),(7,.d Ab),(8,.d Ab)]
def AsZ:Ck:=[(2,Aiy),(1,AbE)]
def AnI(F n:Nat):Au AfW:=fun x K=>Iv F (fun y1 y9=>K (.exit 0) (enc Aiy (y1,y9,()))) (fun y6 y7 y8=>K .ret (enc AbE (y6,y7,y8,()))) n x.1 x.2.1 x.2.2.1 x.2.2.2.1 x.2.2.2.2.1
def A7y(F:Nat):A2 A30:=Af [(3,⟨AfW,AnI F F⟩)]
theorem A31(F:Nat)(fr:Frm)(hn:(A7w F).ntmps=fr.n)(n:Nat):A4 A30 f146 fr [1,1,0,1,0,0] AfW (AnI F n) :=
 A5 (A7y F) (Af []) AsZ rfl (A7x F) hn (m:=fun n=>AnI F n) (fun _ _=>rfl) (fun n x K=>by kernel_rfl) (Al (by kernel_rfl)) n
theorem Bic(F:Nat):CSound prog 146 (Az0 F) :=
 Ao (fn:=f146) (A7y F) (Af []) rfl func146 (by kernel_rfl) (A7x F) (fun fr hn=>(A0 (l:=[((.loop (sub (Ak f146) [1,1,0,1,0,0])),⟨AfW,AnI F F⟩)]) (by kernel_rfl) (Ai (A31 F fr hn F) Ar))) (fun x=>by kernel_rfl)
def A32:Sig:=⟨[.ro,.ro,.ro],[(0,.d At),(1,.d Ab),(2,.d Ab)],false,none,[Aw,.bool]⟩
def Az1(F:Nat):Contract:=Ax A32 fun x=>Gk F x.1 x.2.1 x.2.2.1
def A7z(F:Nat):Cx:=Aq [(134,Ami F),(80,A1r F),(12,AsW F)] [6,25] (0,72)
theorem A7A(F:Nat):Ah (A7z F):=Ac (Aa (Bb4 F) (Aa (s80 F) (Aa (s12 F) Ad)))
def AfX:Ae:=[(0,.d At),(1,.d Ab),(2,.d Ab),(9,.own 9 Ag 49),(10,.d Ab)]
def Aiz:Ae:=[(0,.d At),(2,.d Ab),(9,.own 9 Ag 49)]
def At0:Ck:=[(2,Aiz)]
def AnJ(F n:Nat):Au AfX:=fun x K=>Hp F (fun y0 y2 y9=>K (.exit 0) (enc Aiz (y0,y2,y9,()))) n x.1 x.2.1 x.2.2.1 x.2.2.2.1 x.2.2.2.2.1
def A7B(F:Nat):A2 A32:=Af [(6,⟨AfX,AnJ F F⟩)]
theorem A33(F:Nat)(fr:Frm)(hn:(A7z F).ntmps=fr.n)(n:Nat):A4 A32 f177 fr [1,1,1,1,0,1,0,0] AfX (AnJ F n) :=
 A5 (A7B F) (Af []) At0 rfl (A7A F) hn (m:=fun n=>AnJ F n) (fun _ _=>rfl) (fun n x K=>by kernel_rfl) (Al (by kernel_rfl)) n
theorem Bid(F:Nat):CSound prog 177 (Az1 F) :=
 Ao (fn:=f177) (A7B F) (Af []) rfl func177 (by kernel_rfl) (A7A F) (fun fr hn=>(A0 (l:=[((.loop (sub (Ak f177) [1,1,1,1,0,1,0,0])),⟨AfX,AnJ F F⟩)]) (by kernel_rfl) (Ai (A33 F fr hn F) Ar))) (fun x=>by kernel_rfl)
def BcA:Sig:=⟨[.ro,.ro,.ro],[(0,.d At),(1,.d Ab),(2,.d Ab)],false,none,[Aw,Ab,Ab]⟩
def Az2(F:Nat):Contract:=Ax BcA fun x=>Ql F x.1 x.2.1 x.2.2.1
def BcB(F:Nat):Cx:=Aq [(134,Ami F),(177,Az1 F)] [6] (0,55)
theorem BcC(F:Nat):Ah (BcB F):=Ac (Aa (Bb4 F) (Aa (Bid F) Ad))
theorem Bie(F:Nat):CSound prog 147 (Az2 F) :=
 Ao (fn:=f147) (Af []) (Af []) rfl func147 (by kernel_rfl) (BcC F) (fun fr hn=>(Al (by kernel_rfl))) (fun x=>by kernel_rfl)
def BcD:Sig:=⟨[.ro,.ro,.ro],[(0,.d At),(1,.d Ab),(2,.d Ab)],false,none,[Aw,Ab,Ab]⟩
def At1(F:Nat):Contract:=Ax BcD fun x=>El F x.1 x.2.1 x.2.2.1
def BcE(F:Nat):Cx:=Aq [(146,Az0 F),(37,AvV F),(12,AsW F),(147,Az2 F)] [6,9,45] (0,77)
theorem BcF(F:Nat):Ah (BcE F):=Ac (Aa (Bic F) (Aa (s37 F) (Aa (s12 F) (Aa (Bie F) Ad))))
theorem BeO(F:Nat):CSound prog 100 (At1 F) :=
 Ao (fn:=f100) (Af []) (Af []) rfl func100 (by kernel_rfl) (BcF F) (fun fr hn=>(Al (by kernel_rfl))) (fun x=>by kernel_rfl)
def BcG:Sig:=⟨[.ro],[(0,.d Ag)],true,none,[Ab]⟩
def Az3(F:Nat):Contract:=Ax BcG fun x=>N0 F x.1
def BcH(F:Nat):Cx:=Aq [] [] (0,14)
theorem BcI(F:Nat):Ah (BcH F):=Ac Ad
theorem Bif(F:Nat):CSound prog 143 (Az3 F) :=
 Ao (fn:=f143) (Af []) (Af []) rfl func143 (by kernel_rfl) (BcI F) (fun fr hn=>(Al (by kernel_rfl))) (fun x=>by kernel_rfl)
def BcJ:Sig:=⟨[.ro,.ro],[(0,.d Ab),(1,.d Ag)],true,none,[Ab]⟩
def Az4(F:Nat):Contract:=Ax BcJ fun x=>Wf F x.1 x.2.1
def BcK(F:Nat):Cx:=Aq [] [] (0,10)
theorem BcL(F:Nat):Ah (BcK F):=Ac Ad
theorem Big(F:Nat):CSound prog 175 (Az4 F) :=
 Ao (fn:=f175) (Af []) (Af []) rfl func175 (by kernel_rfl) (BcL F) (fun fr hn=>(Al (by kernel_rfl))) (fun x=>by kernel_rfl)
def A34:Sig:=⟨[.ro],[(0,.d Bv)],false,some (0,2),[Bv]⟩
def Az5(F:Nat):Contract:=Ax A34 fun x=>U5 F x.1
def A7C(F:Nat):Cx:=Aq [(175,Az4 F)] [2,3] (0,34)
theorem A7D(F:Nat):Ah (A7C F):=Ac (Aa (Big F) Ad)
def AfY:Ae:=[(0,.d Bv),(3,.own 3 Ab 2),(4,.d Ab)]
def AiA:Ae:=[(3,.own 3 Ab 2)]
def At2:Ck:=[(2,AiA)]
def AnK(F n:Nat):Au AfY:=fun x K=>C1 F (fun y3=>K (.exit 0) (enc AiA (y3,()))) n x.1 x.2.1 x.2.2.1
def A7E(F:Nat):A2 A34:=Af [(3,⟨AfY,AnK F F⟩)]
theorem A35(F:Nat)(fr:Frm)(hn:(A7C F).ntmps=fr.n)(n:Nat):A4 A34 f144 fr [1,1,0,1,0,0] AfY (AnK F n) :=
 A5 (A7E F) (Af []) At2 rfl (A7D F) hn (m:=fun n=>AnK F n) (fun _ _=>rfl) (fun n x K=>by kernel_rfl) (Al (by kernel_rfl)) n
theorem Bih(F:Nat):CSound prog 144 (Az5 F) :=
 Ao (fn:=f144) (A7E F) (Af []) rfl func144 (by kernel_rfl) (A7D F) (fun fr hn=>(A0 (l:=[((.loop (sub (Ak f144) [1,1,0,1,0,0])),⟨AfY,AnK F F⟩)]) (by kernel_rfl) (Ai (A35 F fr hn F) Ar))) (fun x=>by kernel_rfl)
def A8C:Sig:=⟨[.ro,.ro,.ro],[(0,.d At),(1,.d Ab),(2,.d Ab)],false,none,[Bv,Ab,Ab]⟩
def A7F(F:Nat):Contract:=Ax A8C fun x=>Gl F x.1 x.2.1 x.2.2.1
def BcN(F:Nat):Cx:=Aq [(100,At1 F),(143,Az3 F),(144,Az5 F),(36,A1t F),(12,AsW F)] [6,55,79] (0,94)
theorem BcO(F:Nat):Ah (BcN F):=Ac (Aa (BeO F) (Aa (Bif F) (Aa (Bih F) (Aa (s36 F) (Aa (s12 F) Ad)))))
def AfZ:Ae:=[(0,.d At),(1,.d Ab),(2,.d Ab),(9,.d Aw),(10,.d Ab),(12,.own 12 Ab 2),(13,.d Ab)]
def AiB:Ae:=[(0,.d At),(1,.d Ab),(10,.d Ab),(12,.own 12 Ab 2)]
def At3:Ck:=[(2,AiB)]
def AnL(F n:Nat):Au AfZ:=fun x K=>F9 F (fun y0 y1 y10 y12=>K (.exit 0) (enc AiB (y0,y1,y10,y12,()))) n x.1 x.2.1 x.2.2.1 x.2.2.2.1 x.2.2.2.2.1 x.2.2.2.2.2.1 x.2.2.2.2.2.2.1
def Ag0:Ae:=[(0,.d At),(1,.d Ab),(10,.d Ab),(12,.own 12 Ab 2),(14,.d Ab)]
def AiC:Ae:=[(0,.d At),(1,.d Ab),(10,.d Ab),(12,.own 12 Ab 2)]
def At4:Ck:=[(4,AiC)]
def AnN(F n:Nat):Au Ag0:=fun x K=>Ga F (fun y0 y1 y10 y12=>K (.exit 2) (enc AiC (y0,y1,y10,y12,()))) n x.1 x.2.1 x.2.2.1 x.2.2.2.1 x.2.2.2.2.1
def BcP(F:Nat):A2 A8C:=Af [(12,⟨AfZ,AnL F F⟩),(16,⟨Ag0,AnN F F⟩)]
theorem A36(F:Nat)(fr:Frm)(hn:(BcN F).ntmps=fr.n)(n:Nat):A4 A8C f98 fr [1,1,1,1,1,1,1,0,1,0,0] AfZ (AnL F n) :=
 A5 (BcP F) (Af []) At3 rfl (BcO F) hn (m:=fun n=>AnL F n) (fun _ _=>rfl) (fun n x K=>by kernel_rfl) (Al (by kernel_rfl)) n
theorem A37(F:Nat)(fr:Frm)(hn:(BcN F).ntmps=fr.n)(n:Nat):A4 A8C f98 fr [1,1,1,1,1,1,1,1,0,1,0,0] Ag0 (AnN F n) :=
 A5 (BcP F) (Af []) At4 rfl (BcO F) hn (m:=fun n=>AnN F n) (fun _ _=>rfl) (fun n x K=>by kernel_rfl) (Al (by kernel_rfl)) n
theorem s98(F:Nat):CSound prog 98 (A7F F) :=
 Ao (fn:=f98) (BcP F) (Af []) rfl func98 (by kernel_rfl) (BcO F) (fun fr hn=>(A0 (l:=[((.loop (sub (Ak f98) [1,1,1,1,1,1,1,0,1,0,0])),⟨AfZ,AnL F F⟩),((.loop (sub (Ak f98) [1,1,1,1,1,1,1,1,0,1,0,0])),⟨Ag0,AnN F F⟩)]) (by kernel_rfl) (Ai (A36 F fr hn F) (Ai (A37 F fr hn F) Ar)))) (fun x=>by kernel_rfl)
def BcQ:Sig:=⟨[.ro,.ro,.ro],[(0,.d tyV),(1,.d Ab),(2,.d Ag)],true,none,[tyV,.bool]⟩
def Az6(F:Nat):Contract:=Ax BcQ fun x=>L3 F x.1 x.2.1 x.2.2.1
def BcS(F:Nat):Cx:=Aq [(65,AhH F),(68,Art F),(67,Av1 F),(156,AhK F)] [] (0,26)
theorem BcT(F:Nat):Ah (BcS F):=Ac (Aa (s65 F) (Aa (s68 F) (Aa (s67 F) (Aa (A8l F) Ad))))
theorem Bii(F:Nat):CSound prog 176 (Az6 F) :=
 Ao (fn:=f176) (Af []) (Af []) rfl func176 (by kernel_rfl) (BcT F) (fun fr hn=>(Al (by kernel_rfl))) (fun x=>by kernel_rfl)
def App:Sig:=⟨[.ro,.ro],[(0,.d At),(1,.d Ab)],true,none,[tyV,Ab,Ab]⟩
def Az7(F:Nat):Contract:=Ax App fun x=>G7 F x.1 x.2.1
def AwY(F:Nat):Cx:=Aq [(142,AsX F),(176,Az6 F),(70,Arw F)] [] (0,95)
theorem AwZ(F:Nat):Ah (AwY F):=Ac (Aa (BeN F) (Aa (Bii F) (Aa (s70 F) Ad)))
def Aap:Ae:=[(1,.d Ab),(4,.box 4 tyV),(7,.d At),(10,.box 10 tyV),(11,.d .bool),(12,.d Ab)]
def AdG:Ae:=[(1,.d Ab),(4,.box 4 tyV),(7,.d At),(10,.box 10 tyV),(11,.d .bool)]
def Apq:Ck:=[(2,AdG)]
def Ag1(F n:Nat):Au Aap:=fun x K=>C5 F (fun y1 y4 y7 y10 y11=>K (.exit 0) (enc AdG (y1,y4,y7,y10,y11,()))) n x.1 x.2.1 x.2.2.1 x.2.2.2.1 x.2.2.2.2.1 x.2.2.2.2.2.1
def Aaq:Ae:=[(1,.d Ab),(4,.box 4 tyV),(7,.d At),(10,.box 10 tyV),(11,.d .bool)]
def Zf:Ae:=[(4,.box 4 tyV),(5,.d Ab),(6,.d Ab)]
def Apr:Ck:=[(1,Zf)]
def Akj(F:Nat):Au Aaq:=fun x K=>I4 F (fun y4 y5 y6=>K .ret (enc Zf (y4,y5,y6,()))) x.1 x.2.1 x.2.2.1 x.2.2.2.1 x.2.2.2.2.1
def Ag2:Ae:=[(1,.d Ab),(4,.box 4 tyV),(7,.d At)]
def AbF:Ae:=[(4,.box 4 tyV),(5,.d Ab),(6,.d Ab)]
def At5:Ck:=[(1,AbF)]
def At6(F:Nat):Au Ag2:=fun x K=>Dk F (fun y4 y5 y6=>K .ret (enc AbF (y4,y5,y6,()))) x.1 x.2.1 x.2.2.1
def Ax0(F:Nat):A2 App:=Af [(10,⟨Aap,Ag1 F F⟩)]
def Ax1(F:Nat):A2 App:=Af [(15,⟨Aaq,Akj F⟩),(7,⟨Ag2,At6 F⟩)]
theorem Ax2(F:Nat)(fr:Frm)(hn:(AwY F).ntmps=fr.n)(n:Nat):A4 App f145 fr [1,1,1,1,1,1,1,0,1,0,0] Aap (Ag1 F n) :=
 A5 (Ax0 F) (Ax1 F) Apq rfl (AwZ F) hn (m:=fun n=>Ag1 F n) (fun _ _=>rfl) (fun n x K=>by kernel_rfl) (Al (by kernel_rfl)) n
theorem Ax3(F:Nat)(fr:Frm)(hn:(AwY F).ntmps=fr.n):Dz App f145 fr [1,1,1,1,1,1,1,1,1] Aaq (Akj F) :=
 D0 (Ax0 F) (Ax1 F) Apr rfl (AwZ F) hn (fun x K=>by kernel_rfl) (Al (by kernel_rfl))
theorem A38(F:Nat)(fr:Frm)(hn:(AwY F).ntmps=fr.n):Dz App f145 fr [1,1,1,1,1] Ag2 (At6 F) :=
 D0 (Ax0 F) (Ax1 F) At5 rfl (AwZ F) hn (fun x K=>by kernel_rfl) (A0 (l:=[((.loop (sub (Ak f145) [1,1,1,1,1,1,1,0,1,0,0])),⟨Aap,Ag1 F F⟩),((sub (Ak f145) [1,1,1,1,1,1,1,1,1]),⟨Aaq,Akj F⟩)]) (by kernel_rfl) (Ai (Ax2 F fr hn F) (Ai (Ax3 F fr hn) Ar)))
theorem Bij(F:Nat):CSound prog 145 (Az7 F) :=
 Ao (fn:=f145) (Ax0 F) (Ax1 F) rfl func145 (by kernel_rfl) (AwZ F) (fun fr hn=>(A0 (l:=[((sub (Ak f145) [1,1,1,1,1]),⟨Ag2,At6 F⟩)]) (by kernel_rfl) (Ai (A38 F fr hn) Ar))) (fun x=>by kernel_rfl)
def Bik:Sig:=⟨[.ro,.ro],[(0,.d At),(1,.d Ab)],true,none,[Bn,Ab,Ab]⟩
def A7G(F:Nat):Contract:=Ax Bik fun x=>L4 F x.1 x.2.1
def Bil(F:Nat):Cx:=Aq [(145,Az7 F),(42,Akg F)] [] (0,42)
theorem Bim(F:Nat):Ah (Bil F):=Ac (Aa (Bij F) (Aa (s42 F) Ad))
theorem s99(F:Nat):CSound prog 99 (A7G F) :=
 Ao (fn:=f99) (Af []) (Af []) rfl func99 (by kernel_rfl) (Bim F) (fun fr hn=>(Al (by kernel_rfl))) (fun x=>by kernel_rfl)
def A7H:Sig:=⟨[.ro,.ro,.ro],[(0,.d At),(1,.d Ab),(2,.d Ab)],false,none,[(.slice A7),Ab,Ab]⟩
def A7I(F:Nat):Contract:=Ax A7H fun x=>Dw F x.1 x.2.1 x.2.2.1
def A39(F:Nat):Cx:={ types:=AgD,call:=Ot [(97,A2Y F),(98,A7F F),(99,A7G F),(100,At1 F),(14,A1j F)],own:=[6,67],ntmps:=(0,209),nils:=[6] }
theorem BcU(F:Nat):Ah (A39 F):=Ac (Aa (s97 F) (Aa (s98 F) (Aa (s99 F) (Aa (BeO F) (Aa (s14 F) Ad)))))
def Ag3:Ae:=[(0,.d At),(1,.d Ab),(2,.d Ab),(9,.d Ag),(11,.d Bv),(12,.own 12 (.pair Ab (.pair Bn (.pair .nil .unit))) 56),(13,.d Ab)]
def AiD:Ae:=[(0,.d At),(1,.d Ab),(2,.d Ab),(9,.d Ag),(12,.own 12 (.pair Ab (.pair Bn (.pair .nil .unit))) 56)]
def AbG:Ae:=[(6,.nilS),(7,.d Ab),(8,.d Ab)]
def At7:Ck:=[(2,AiD),(1,AbG)]
def AnO(F n:Nat):Au Ag3:=fun x K=>E5 F (fun y0 y1 y2 y9 y12=>K (.exit 0) (enc AiD (y0,y1,y2,y9,y12,()))) (fun y7 y8=>K .ret (enc AbG ((),y7,y8,()))) n x.1 x.2.1 x.2.2.1 x.2.2.2.1 x.2.2.2.2.1 x.2.2.2.2.2.1 x.2.2.2.2.2.2.1
def Ag4:Ae:=[(0,.d At),(1,.d Ab),(2,.d Ab),(12,.own 12 (.pair Ab (.pair Bn (.pair .nil .unit))) 56),(14,.d Aw),(15,.d Ag),(16,.d Ab)]
def AiE:Ae:=[(0,.d At),(1,.d Ab),(2,.d Ab),(12,.own 12 (.pair Ab (.pair Bn (.pair .nil .unit))) 56),(14,.d Aw),(15,.d Ag)]
def AbH:Ae:=[(6,.nilS),(7,.d Ab),(8,.d Ab)]
def At8:Ck:=[(4,AiE),(1,AbH)]
def AnP(F n:Nat):Au Ag4:=fun x K=>E6 F (fun y0 y1 y2 y12 y14 y15=>K (.exit 2) (enc AiE (y0,y1,y2,y12,y14,y15,()))) (fun y7 y8=>K .ret (enc AbH ((),y7,y8,()))) n x.1 x.2.1 x.2.2.1 x.2.2.2.1 x.2.2.2.2.1 x.2.2.2.2.2.1 x.2.2.2.2.2.2.1
def Ag5:Ae:=[(1,.d Ab),(2,.d Ab),(12,.own 12 (.pair Ab (.pair Bn (.pair .nil .unit))) 56),(14,.d Aw),(17,.d Aw),(18,.d .bool),(19,.d Ab),(20,.d Ab)]
def AiF:Ae:=[(1,.d Ab),(12,.own 12 A7 56),(18,.d .bool)]
def AbI:Ae:=[(6,.d (.slice A7)),(7,.d Ab),(8,.d Ab)]
def A7J:Ck:=[(6,AiF),(1,AbI)]
def At9(F n:Nat):Au Ag5:=fun x K=>E7 F (fun y1 y12 y18=>K (.exit 4) (enc AiF (y1,y12,y18,()))) (fun y6 y7 y8=>K .ret (enc AbI (y6,y7,y8,()))) n x.1 x.2.1 x.2.2.1 x.2.2.2.1 x.2.2.2.2.1 x.2.2.2.2.2.1 x.2.2.2.2.2.2.1 x.2.2.2.2.2.2.2.1
def BcV(F:Nat):A2 A7H:=Af [(13,⟨Ag3,AnO F F⟩),(24,⟨Ag4,AnP F F⟩),(34,⟨Ag5,At9 F F⟩)]
theorem A3a(F:Nat)(fr:Frm)(hn:(A39 F).ntmps=fr.n)(n:Nat):A4 A7H f45 fr [1,1,1,1,1,1,1,1,0,1,0,0] Ag3 (AnO F n) :=
 Us (cx:=A39 F) (hs:=BcV F) (js:=Af []) (outs:=At7) (T6 _ rfl) (BcU F) hn mix (m:=fun n=>AnO F n) (fun _ _=>rfl) (fun n x K=>by kernel_rfl) (Al (by kernel_rfl)) n
theorem A3b(F:Nat)(fr:Frm)(hn:(A39 F).ntmps=fr.n)(n:Nat):A4 A7H f45 fr [1,1,1,1,1,1,1,1,1,1,1,1,0,1,0,0] Ag4 (AnP F n) :=
 Us (cx:=A39 F) (hs:=BcV F) (js:=Af []) (outs:=At8) (T6 _ rfl) (BcU F) hn mix (m:=fun n=>AnP F n) (fun _ _=>rfl) (fun n x K=>by kernel_rfl) (Al (by kernel_rfl)) n
theorem A3c(F:Nat)(fr:Frm)(hn:(A39 F).ntmps=fr.n)(n:Nat):A4 A7H f45 fr [1,1,1,1,1,1,1,1,1,1,1,1,1,1,1,1,0,1,0,0] Ag5 (At9 F n):=Akb F fr hn n
theorem s45(F:Nat):CSound prog 45 (A7I F) :=
 Aa5 (fn:=f45) (code:=(Ak f45)) (cx:=A39 F) (hs:=BcV F) (js:=Af []) func45 (by kernel_rfl) (by kernel_rfl) (T6 _ rfl) (BcU F) mix (by kernel_rfl) (by kernel_rfl) (fun fr hn=>(A0 (l:=[((.loop (sub (Ak f45) [1,1,1,1,1,1,1,1,0,1,0,0])),⟨Ag3,AnO F F⟩),((.loop (sub (Ak f45) [1,1,1,1,1,1,1,1,1,1,1,1,0,1,0,0])),⟨Ag4,AnP F F⟩),((.loop (sub (Ak f45) [1,1,1,1,1,1,1,1,1,1,1,1,1,1,1,1,0,1,0,0])),⟨Ag5,At9 F F⟩)]) (by kernel_rfl) (Ai (A3a F fr hn F) (Ai (A3b F fr hn F) (Ai (A3c F fr hn F) Ar))))) (fun x=>by kernel_rfl)
def A8D:Sig:=⟨[.ro,.ro],[(0,.d (.slice A7)),(1,.d (.slice A7))],true,none,[.bool]⟩
def A7K(F:Nat):Contract:=Ax A8D fun x=>U6 F x.1 x.2.1
def BcW(F:Nat):Cx:=Aq [] [] (0,84)
theorem BcX(F:Nat):Ah (BcW F):=Ac Ad
def AnQ:Ae:=[(0,.d (.slice A7)),(1,.d (.slice A7)),(5,.d Ab),(6,.d Ab)]
def AnS:Ae:=[(0,.d (.slice A7)),(1,.d (.slice A7)),(5,.d Ab)]
def AdH:Ae:=[(4,.d .bool)]
def Ax4:Ck:=[(4,AnS),(1,AdH)]
def Ax5(F n:Nat):Au AnQ:=fun x K=>H6 F (fun y0 y1 y5=>K (.exit 2) (enc AnS (y0,y1,y5,()))) (fun y4=>K .ret (enc AdH (y4,()))) n x.1 x.2.1 x.2.2.1 x.2.2.2.1
def AnT:Ae:=[(0,.d (.slice A7)),(1,.d (.slice A7)),(5,.d Ab)]
def AnU:Ae:=[]
def AdI:Ae:=[(4,.d .bool)]
def Ax6:Ck:=[(2,AnU),(1,AdI)]
def Ax7(F n:Nat):Au AnT:=fun x K=>Gm F (K (.exit 0) (enc AnU (()))) (fun y4=>K .ret (enc AdI (y4,()))) n x.1 x.2.1 x.2.2.1
def BcY(F:Nat):A2 A8D:=Af [(9,⟨AnQ,Ax5 F F⟩),(4,⟨AnT,Ax7 F F⟩)]
theorem A7L(F:Nat)(fr:Frm)(hn:(BcW F).ntmps=fr.n)(n:Nat):A4 A8D f22 fr [1,1,0,1,0,0,1,0,0,1,1,0,0] AnQ (Ax5 F n) :=
 A5 (BcY F) (Af []) Ax4 rfl (BcX F) hn (m:=fun n=>Ax5 F n) (fun _ _=>rfl) (fun n x K=>by kernel_rfl) (Al (by kernel_rfl)) n
theorem A7N(F:Nat)(fr:Frm)(hn:(BcW F).ntmps=fr.n)(n:Nat):A4 A8D f22 fr [1,1,0,1,0,0] AnT (Ax7 F n) :=
 A5 (BcY F) (Af []) Ax6 rfl (BcX F) hn (m:=fun n=>Ax7 F n) (fun _ _=>rfl) (fun n x K=>by kernel_rfl) (A0 (l:=[((.loop (sub (Ak f22) [1,1,0,1,0,0,1,0,0,1,1,0,0])),⟨AnQ,Ax5 F F⟩)]) (by kernel_rfl) (Ai (A7L F fr hn F) Ar)) n
theorem s22(F:Nat):CSound prog 22 (A7K F) :=
 Ao (fn:=f22) (BcY F) (Af []) rfl func22 (by kernel_rfl) (BcX F) (fun fr hn=>(A0 (l:=[((.loop (sub (Ak f22) [1,1,0,1,0,0])),⟨AnT,Ax7 F F⟩)]) (by kernel_rfl) (Ai (A7N F fr hn F) Ar))) (fun x=>by kernel_rfl)
def Bin:Sig:=⟨[.ro,.ro,.ro],[(0,.d At),(1,.d Ab),(2,.d Ab)],true,none,[.bool]⟩
def A7O(F:Nat):Contract:=Ax Bin fun x=>E8 F x.1 x.2.1 x.2.2.1
def Bio(F:Nat):Cx:=Aq [(21,A2V F),(45,A7I F),(22,A7K F)] [] (0,42)
theorem Bip(F:Nat):Ah (Bio F):=Ac (Aa (s21 F) (Aa (s45 F) (Aa (s22 F) Ad)))
theorem s18(F:Nat):CSound prog 18 (A7O F) :=
 Ao (fn:=f18) (Af []) (Af []) rfl func18 (by kernel_rfl) (Bip F) (fun fr hn=>(Al (by kernel_rfl))) (fun x=>by kernel_rfl)
def Biq:Sig:=⟨[.bor,.ro],[(0,.box 0 Cp),(1,.d At)],false,some (0,5),[Cp,At]⟩
def BcZ(F:Nat):Contract:=Ax Biq fun x=>Yg F x.1 x.2.1
def Bir(F:Nat):Cx:={ types:=tys,call:=Ot [(19,Aba F)],own:=[4,6,36,52],ntmps:=(1,59),cuts:=[52,56] }
theorem Bis(F:Nat):Ah (Bir F):=Ac (Aa (s19 F) Ad)
theorem s20(F:Nat):CSound prog 20 (BcZ F) :=
 Ao (fn:=f20) (Af []) (Af []) rfl func20 (by kernel_rfl) (Bis F) (fun fr hn=>(Al (by kernel_rfl))) (fun x=>by kernel_rfl)
def A3d:Sig:=⟨[.bor,.wr 5],[(0,.box 0 Cp),(1,.own 1 Ct 5)],false,some (0,5),[Cp,At,At]⟩
def Az8(F:Nat):Contract:=Ax A3d fun x=>I5 F x.1 x.2.1
def Bd0(F:Nat):Cx:={ types:=tys,call:=Ot [(19,Aba F)],own:=[4,6,36,52],ntmps:=(1,59),cuts:=[52,56] }
theorem Bd1(F:Nat):Ah (Bd0 F):=Ac (Aa (s19 F) Ad)
def Bd2(F:Nat):A2 A3d:=Af []
def Bd3(F:Nat):A2 A3d:=Af []
theorem Biu(F:Nat):CSound prog 20 (Az8 F) :=
 Ao (fn:=f20) (Bd2 F) (Bd3 F) rfl func20 (by kernel_rfl) (Bd1 F) (fun fr hn=>(Al (by kernel_rfl))) (fun x=>by kernel_rfl)
def sg4:Sig:=⟨[.ro,.ro,.ro,.ro],[(0,.d At),(1,.d Ab),(2,.d Ab),(3,.d Bv)],true,none,[.bool]⟩
def Bd4(F:Nat):Contract:=Ax sg4 fun x=>K1 F x.1 x.2.1 x.2.2.1 x.2.2.2.1
def cx4(F:Nat):Cx:=Aq [(7,Bdv F),(8,BdY F),(11,A60 F),(16,A02 F),(17,A62 F),(15,A7p F),(18,A7O F),(19,Aba F),(20,Az8 F)] [17,25,48] (0,94)
theorem cs4(F:Nat):Ah (cx4 F):=Ac (Aa (s7 F) (Aa (s8 F) (Aa (s11 F) (Aa (s16 F) (Aa (s17 F) (Aa (s15 F) (Aa (s18 F) (Aa (s19 F) (Aa (Biu F) Ad)))))))))
theorem s4(F:Nat):CSound prog 4 (Bd4 F) :=
 Ao (fn:=f4) (Af []) (Af []) rfl func4 (by kernel_rfl) (cs4 F) (fun fr hn=>(Al (by kernel_rfl))) (fun x=>by kernel_rfl)
end Go.Proofs.YtdhfajmcakneiaaGreat
