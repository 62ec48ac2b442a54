/- That the code computes the models: the law. Written by program. -/
import Derived.Test.YtppoifpabafdlaaGreatTiesA
import Derived.Test.YtppoifpabafdlaaGreatSane
set_option linter.unusedVariables false
set_option linter.unusedSimpArgs false
namespace Go.Proofs.YtppoifpabafdlaaGreat
open Go.Eng Tryz
def sg3:Sig:=⟨[.ro],[(0,.d E0)],true,none,[.bool]⟩
noncomputable def D86 (F:Nat):Contract:=B7 sg3 fun x=>A3T F x.1
noncomputable def cx3 (F:Nat):Cx:=B5 [(8,D8T F),(9,D90 F),(10,D2k F),(11,D3o F),(12,D3y F),(13,B3r F),(14,D3z F),(15,D3B F),(17,D3C F),(16,C9J F),(18,D3N F)] [23,71] (0,129)
theorem cs3(F:Nat):A6 (cx3 F):=A2 (A1 (s8 F) (A1 (s9 F) (A1 (s10 F) (A1 (s11 F) (A1 (s12 F) (A1 (s13 F) (A1 (s14 F) (A1 (s15 F) (A1 (s17 F) (A1 (s16 F) (A1 (s18 F) A3)))))))))))
def B7V:A5:=[(3,.box 3 I8),(5,.d A0),(10,.d A0),(14,.d A0),(15,.own 15 C2 38),(16,.d A0)]
def B7W:A5:=[(5,.d A0),(10,.d A0),(14,.d A0),(15,.own 15 C2 38)]
def C58:U5:=[(2,B7W)]
def C59(F n:Nat):D7 B7V:=fun x K=>D3 F (fun y5 y10 y14 y15=>K (.exit 0) (enc B7W (y5,y10,y14,y15,()))) n x.1 x.2.1 x.2.2.1 x.2.2.2.1 x.2.2.2.2.1 x.2.2.2.2.2.1
def hs3(F:Nat):E4 sg3:=A4 [(12,⟨B7V,C59 F F⟩)]
theorem D3E(F:Nat)(fr:Frm)(hn:(cx3 F).ntmps=fr.n)(n:Nat):G0 sg3 f3 fr [1,1,1,1,1,1,1,1,1,1,0,1,0,0] B7V (C59 F n) :=
 G6 (hs3 F) (A4 []) C58 rfl (cs3 F) hn (m:=fun n=>C59 F n) (fun _ _=>rfl) (fun n x K=>by kernel_rfl) (B1 (by kernel_rfl)) n
theorem s3(F:Nat):CSound prog 3 (D86 F) :=
 B3 (fn:=f3) (hs3 F) (A4 []) rfl func3 (by kernel_rfl) (cs3 F) (fun fr hn=>(E2 (l:=[((.loop (sub (C6 f3) [1,1,1,1,1,1,1,1,1,1,0,1,0,0])),⟨B7V,C59 F F⟩)]) (by kernel_rfl) (B4 (D3E F fr hn F) C5))) (fun x=>by kernel_rfl)
end Go.Proofs.YtppoifpabafdlaaGreat
