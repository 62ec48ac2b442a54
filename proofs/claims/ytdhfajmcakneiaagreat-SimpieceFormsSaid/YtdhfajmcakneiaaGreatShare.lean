/- Loops that are stepped through by hand: share. -/
import Derived.Test.YtdhfajmcakneiaaGreatTys
set_option linter.unusedVariables false
set_option linter.unusedSimpArgs false
namespace Go.Proofs.YtdhfajmcakneiaaGreat
open Go.Eng Tryz
abbrev rtT:Ty:=.pair tyV (.pair tyV .unit)
abbrev eNT:Ty:=.pair (.int .i64) (.pair rtT (.pair .nil .unit))
abbrev eVT:Ty:=.pair (.int .i64) (.pair rtT (.pair .val .unit))
abbrev eST:Ty:=.pair (.int .i64) (.pair rtT (.pair (.slice (.int .i64)) .unit))
abbrev B4U:Go.Value:=.slice none 0 0
def Laid(M:Mem)(x0:List eNT.den)(L:List eVT.den)(D:List (List Int))(cur:Go.Value):Prop :=
 L.length=x0.length∧∀ (k:Nat) (y:eVT.den),L[k]?=some y→x0[k]?=some (y.1,(y.2.1,((),())))∧(∀ d,D[k]?=some d→B13 M (G5 M (.int .i64)) d y.2.2.1)∧(D.length < k→y.2.2.1=B4U)∧(k=D.length→y.2.2.1=cur)
def A6i(x0:List eNT.den):List eVT.den:=x0.map fun x=>(x.1,(x.2.1,(B4U,())))
theorem Laid.start(M:Mem)(x0:List eNT.den):Laid M x0 (A6i x0) [] B4U:=by
 refine ⟨by simp [A6i],fun k y hy=>?_⟩
 simp only [A6i,List.getElem?_map,Option.map_eq_some_iff] at hy
 obtain ⟨x,hx,rfl⟩:=hy
 exact ⟨hx,fun d hd=>by simp at hd,fun _=>rfl,fun _=>rfl⟩
theorem Laid.mono{M M':Mem}(hM:M.le M'){x0:List eNT.den}{L:List eVT.den}{D:List (List Int)}{cur:Go.Value}(h:Laid M x0 L D cur):Laid M' x0 L D cur :=
 ⟨h.1,fun k y hy=>⟨(h.2 k y hy).1,fun d hd=>((h.2 k y hy).2.1 d hd).mono hM fun _ _ k=>G5.mono (t:=.int .i64) hM k,(h.2 k y hy).2.2⟩⟩
theorem Laid.put{M:Mem}{x0:List eNT.den}{L:List eVT.den}{D:List (List Int)}{cur v:Go.Value}{d0:eVT.den}(h:Laid M x0 L D cur){i:Int}(hi:i=(D.length:Int))(hr:inI i L.length=true) :
  Laid M x0 (F1 L i ((B1 d0 L i).1,((B1 d0 L i).2.1,(v,(B1 d0 L i).2.2.2)))) D v:=by
 subst hi
 have hlt:D.length < L.length:=by have:=of_decide_eq_true hr; omega
 have hg:B1 d0 L (D.length:Int)=L[D.length]:=by
  simp only [B1,Int.toNat_natCast]; exact X1 d0 hlt
 rw [hg]
 refine ⟨by simp [F1,h.1],fun k y hy=>?_⟩
 simp only [F1,Int.toNat_natCast] at hy
 rw [List.getElem?_set] at hy
 by_cases hk:D.length=k
 ·rw [if_pos hk,if_pos hlt] at hy
  cases hy
  have h0:=h.2 D.length L[D.length] (List.getElem?_eq_getElem hlt)
  subst hk
  exact ⟨h0.1,fun d hd=>by simp at hd,fun hx=>absurd hx (by omega),fun _=>rfl⟩
 ·rw [if_neg hk] at hy
  have h0:=h.2 k y hy
  exact ⟨h0.1,h0.2.1,h0.2.2.1,fun e=>absurd e.symm hk⟩
theorem Laid.close{M:Mem}{x0:List eNT.den}{L:List eVT.den}{D:List (List Int)}{cur:Go.Value}{xs:List Int}(h:Laid M x0 L D cur)(hx:B13 M (G5 M (.int .i64)) xs cur):Laid M x0 L (D++[xs]) B4U:=by
 refine ⟨h.1,fun k y hy=>?_⟩
 obtain ⟨h1,h2,h3,h4⟩:=h.2 k y hy
 refine ⟨h1,fun d hd=>?_,fun hk=>h3 (by simp at hk; omega),fun hk=>h3 (by simp at hk; omega)⟩
 rcases Nat.lt_or_ge k D.length with hlt | hge
 ·rw [List.getElem?_append_left hlt] at hd; exact h2 d hd
 ·rw [List.getElem?_append_right hge] at hd
  have hk:k=D.length:=by
   have:=(List.getElem?_eq_some_iff.1 hd).1
   simp at this; omega
  subst hk
  simp at hd
  subst hd
  rw [h4 rfl]; exact hx
theorem C84{M:Mem}{w:Go.World}{pl:Eng.Place}{tid:Nat}{x0:List eNT.den}(h:N4 M w pl (.sl eNT tid x0)):N4 M w pl (.sl eVT tid (A6i x0)):=by
 refine h.conv rfl (by simp [A6i]) fun k x y cs hx hy hf=>?_
 simp only [A6i,List.getElem?_map,hx,Option.map_some,Option.some.injEq] at hy
 subst hy
 obtain ⟨c1,c2,e1,h1,c3,c4,e2,h2,c5,c6,e3,h3,h4⟩:=hf
 exact ⟨c1,c2,e1,h1,c3,c4,e2,h2,c5,c6,e3,⟨h3,_,_,_,rfl⟩,h4⟩
theorem D0I{M:Mem}{w:Go.World}{pl:Eng.Place}{tid:Nat}{x0:List eNT.den}{L:List eVT.den}{D:List (List Int)}(hl:Laid M x0 L D B4U)(h:N4 M w pl (.sl eVT tid L)):N4 M w pl (.sl eST tid (A4X x0 D)):=by
 refine h.conv rfl (by rw [A57,hl.1]) fun k x y cs hx hy hf=>?_
 obtain ⟨k1,k2,k3,k4⟩:=hl.2 k x hx
 rw [A9S,k1] at hy
 simp only [Option.map_some,Option.some.injEq] at hy
 subst hy
 obtain ⟨c1,c2,e1,h1,c3,c4,e2,h2,c5,c6,e3,⟨h3,_⟩,h4⟩:=hf
 refine ⟨c1,c2,e1,h1,c3,c4,e2,h2,c5,c6,e3,⟨x.2.2.1,h3,?_⟩,h4⟩
 have nilAt:x.2.2.1=B4U→B13 M (G5 M (.int .i64)) ([]:List Int) x.2.2.1:=fun e=>by rw [e]; exact ⟨none,0,rfl,Nat.le_refl _,fun _=>rfl,fun h=>absurd rfl h⟩
 rcases Nat.lt_or_ge k D.length with hlt | hge
 ·have hd:D[k]?=some D[k]:=List.getElem?_eq_getElem hlt
  have:D.getD k []=D[k]:=by rw [List.getD,hd]; rfl
  show B13 M _ (D.getD k []) _
  rw [this]; exact k2 _ hd
 ·have:D.getD k []=[]:=by rw [List.getD,List.getElem?_eq_none hge]; rfl
  show B13 M _ (D.getD k []) _
  rw [this]
  rcases Nat.lt_or_ge D.length k with h5 | h5
  ·exact nilAt (k3 h5)
  ·exact nilAt (k4 (by omega))
def B88(F:Nat):Cx:={ types:=C2B,call:=A4c [],own:=[],ntmps:=(1,54) }
def A2V(F:Nat):Cx:={ types:=tys,call:=A4c [],own:=[],ntmps:=(1,54) }
theorem D2B(F:Nat):∀ f c,(B88 F).call f=some c→A5D prog f c:=A2 A3
theorem A8G(F:Nat):∀ f c,(A2V F).call f=some c→A5D prog f c:=A2 A3
abbrev B89:A4:=[(0,.own 0 (.pair (.int .i64) (.pair (.pair tyV (.pair tyV .unit)) (.pair .val .unit))) 56),(2,.d (.slice (.int .u64))),(3,.d (.int .i64)),(12,.d (.slice (.int .i64))),(13,.d (.int .i64)),(14,.d (.int .i64))]
abbrev D6I:A4:=[(0,.own 0 (.pair (.int .i64) (.pair (.pair tyV (.pair tyV .unit)) (.pair .val .unit))) 56),(2,.d (.slice (.int .u64))),(3,.d (.int .i64)),(12,.d (.slice (.int .i64))),(13,.d (.int .i64)),(14,.d (.int .i64)),(15,.d .bool)]
abbrev D6J:A4:=[(0,.own 0 (.pair (.int .i64) (.pair (.pair tyV (.pair tyV .unit)) (.pair .val .unit))) 56),(2,.d (.slice (.int .u64))),(3,.d (.int .i64)),(12,.d (.slice (.int .i64))),(13,.d (.int .i64)),(14,.d (.int .i64)),(9,.d (.int .i64)),(10,.d (.int .i64))]
abbrev D6K:A4:=[(0,.own 0 (.pair (.int .i64) (.pair (.pair tyV (.pair tyV .unit)) (.pair .val .unit))) 56),(2,.d (.slice (.int .u64))),(3,.d (.int .i64)),(12,.d (.slice (.int .i64))),(13,.d (.int .i64)),(14,.d (.int .i64)),(9,.d (.int .i64)),(10,.d (.int .i64)),(11,.d (.int .i64))]
abbrev E1k:A4:=[(0,.own 0 (.pair (.int .i64) (.pair (.pair tyV (.pair tyV .unit)) (.pair .val .unit))) 56),(2,.d (.slice (.int .u64))),(3,.d (.int .i64)),(12,.d (.slice (.int .i64))),(13,.d (.int .i64)),(14,.d (.int .i64)),(9,.d (.int .i64)),(11,.d (.int .i64)),(19,.d (.int .i64)),(20,.d (.int .i64))]
abbrev A3I:A4:=[(12192,.own 12192 (.int .i64) 3),(0,.own 0 (.pair (.int .i64) (.pair (.pair tyV (.pair tyV .unit)) (.pair .val .unit))) 56),(2,.d (.slice (.int .u64))),(3,.d (.int .i64)),(12,.d (.slice (.int .i64))),(13,.d (.int .i64)),(14,.d (.int .i64)),(9,.d (.int .i64)),(11,.d (.int .i64)),(19,.d (.int .i64)),(20,.d (.int .i64))]
abbrev D6L:A4:=[(12192,.own 12192 (.int .i64) 3),(0,.own 0 (.pair (.int .i64) (.pair (.pair tyV (.pair tyV .unit)) (.pair .val .unit))) 56),(2,.d (.slice (.int .u64))),(3,.d (.int .i64)),(12,.d (.slice (.int .i64))),(13,.d (.int .i64)),(14,.d (.int .i64)),(9,.d (.int .i64)),(11,.d (.int .i64)),(19,.d (.int .i64)),(20,.d (.int .i64)),(21,.d .bool)]
abbrev D6N:A4:=[(12192,.own 12192 (.int .i64) 3),(0,.own 0 (.pair (.int .i64) (.pair (.pair tyV (.pair tyV .unit)) (.pair .val .unit))) 56),(2,.d (.slice (.int .u64))),(3,.d (.int .i64)),(12,.d (.slice (.int .i64))),(13,.d (.int .i64)),(14,.d (.int .i64)),(9,.d (.int .i64)),(11,.d (.int .i64)),(19,.d (.int .i64)),(20,.d (.int .i64)),(29,.d .bool)]
abbrev D6O:A4:=[(0,.own 0 (.pair (.int .i64) (.pair (.pair tyV (.pair tyV .unit)) (.pair .val .unit))) 56),(12192,.own 12192 (.int .i64) 3),(8,.d .bool)]
abbrev D2C:A4:=[(12192,.own 12192 (.int .i64) 3),(0,.own 0 (.pair (.int .i64) (.pair (.pair tyV (.pair tyV .unit)) (.pair .val .unit))) 56),(2,.d (.slice (.int .u64))),(3,.d (.int .i64)),(12,.d (.slice (.int .i64))),(13,.d (.int .i64)),(14,.d (.int .i64)),(9,.d (.int .i64)),(11,.d (.int .i64)),(19,.d (.int .i64)),(20,.d (.int .i64)),(36,.again 0),(37,.d (.int .i64)),(42,.d .val),(43,.d (.int .i64))]
abbrev C4l:A4:=[(12192,.own 12192 (.int .i64) 3),(0,.own 0 (.pair (.int .i64) (.pair (.pair tyV (.pair tyV .unit)) (.pair .val .unit))) 56),(2,.d (.slice (.int .u64))),(3,.d (.int .i64)),(12,.d (.slice (.int .i64))),(13,.d (.int .i64)),(14,.d (.int .i64)),(9,.d (.int .i64)),(11,.d (.int .i64)),(19,.d (.int .i64)),(20,.d (.int .i64)),(36,.again 0),(37,.d (.int .i64)),(42,.again 12192),(43,.d (.int .i64))]
abbrev D2D:A4:=[(0,.own 0 (.pair (.int .i64) (.pair (.pair tyV (.pair tyV .unit)) (.pair .val .unit))) 56),(2,.d (.slice (.int .u64))),(3,.d (.int .i64)),(12,.d (.slice (.int .i64))),(13,.d (.int .i64)),(14,.d (.int .i64)),(9,.d (.int .i64)),(11,.d (.int .i64)),(19,.d (.int .i64)),(20,.d (.int .i64)),(36,.again 0),(37,.d (.int .i64)),(45,.own 12192 (.int .i64) 3)]
abbrev C4m:A4:=[(12192,.own 12192 (.int .i64) 3),(0,.own 0 (.pair (.int .i64) (.pair (.pair tyV (.pair tyV .unit)) (.pair .val .unit))) 56),(2,.d (.slice (.int .u64))),(3,.d (.int .i64)),(12,.d (.slice (.int .i64))),(13,.d (.int .i64)),(14,.d (.int .i64)),(9,.d (.int .i64)),(11,.d (.int .i64)),(19,.d (.int .i64)),(20,.d (.int .i64)),(36,.again 0),(37,.d (.int .i64)),(45,.d .val)]
theorem E6m(F:Nat)(x0:(List (Int×(((Bool×((List Int)×Unit))×((Bool×((List Int)×Unit))×Unit))×(Go.Value×Unit)))))(x2:(List Int))(x3:Int)(x12:(List Int))(x13:Int)(x14:Int):A3m (B88 F) (E6 (sub (A7 f51) [1,0,1,0,0,0])) (E6 (sub (A7 f51) [1,0,1,0,0,0])) (enc B89 (x0,x2,x3,x12,x13,x14,())) (fun s=>A2K D6I s some) =
 some (x0,(x2,(x3,(x12,(x13,(x14,(ltI x14 x13,()))))))):=by kernel_rfl
theorem E6n(F:Nat)(x0:(List (Int×(((Bool×((List Int)×Unit))×((Bool×((List Int)×Unit))×Unit))×(Go.Value×Unit)))))(x2:(List Int))(x3:Int)(x12:(List Int))(x13:Int)(x14:Int):A3m (A2V F) (E6 (sub (A7 f51) [1,0,1,0,0,1,1,0,0,0])) (E6 (sub (A7 f51) [1,0,1,0,0,1,1,0,0,0])) (enc B89 (x0,x2,x3,x12,x13,x14,())) (fun s=>A2K D6J s some) =
 bif inI x14 (List.length x12) then
  some (x0,(x2,(x3,(x12,(x13,(x14,(x14,(B1 0 x12 x14,()))))))))
 else
  none:=by kernel_rfl
theorem E6o(F:Nat)(x0:(List (Int×(((Bool×((List Int)×Unit))×((Bool×((List Int)×Unit))×Unit))×(Go.Value×Unit)))))(x2:(List Int))(x3:Int)(x12:(List Int))(x13:Int)(x14:Int)(x9:Int)(x10:Int):A3m (A2V F) (E6 (sub (A7 f51) [1,0,1,0,0,1,1,0,0,1,0])) (E6 (sub (A7 f51) [1,0,1,0,0,1,1,0,0,1,0])) (enc D6J (x0,x2,x3,x12,x13,x14,x9,x10,())) (fun s=>A2K D6K s some) =
 some (x0,(x2,(x3,(x12,(x13,(x14,(x9,(x10,(0,()))))))))):=by kernel_rfl
theorem E6p(F:Nat)(x0:(List (Int×(((Bool×((List Int)×Unit))×((Bool×((List Int)×Unit))×Unit))×(Go.Value×Unit)))))(x2:(List Int))(x3:Int)(x12:(List Int))(x13:Int)(x14:Int)(x9:Int)(x10:Int)(x11:Int):A3m (A2V F) (E6 (sub (A7 f51) [1,0,1,0,0,1,1,0,0,1,1,0])) (E6 (sub (A7 f51) [1,0,1,0,0,1,1,0,0,1,1,0])) (enc D6K (x0,x2,x3,x12,x13,x14,x9,x10,x11,())) (fun s=>A2K E1k s some) =
 some (x0,(x2,(x3,(x12,(x13,(x14,(x9,(x11,(x10,(0,())))))))))):=by kernel_rfl
theorem E6q(F:Nat)(x12192:(List Int))(x0:(List (Int×(((Bool×((List Int)×Unit))×((Bool×((List Int)×Unit))×Unit))×(Go.Value×Unit)))))(x2:(List Int))(x3:Int)(x12:(List Int))(x13:Int)(x14:Int)(x9:Int)(x11:Int)(x19:Int)(x20:Int):A3m (A2V F) (E6 (sub (A7 f51) [1,0,1,0,0,1,1,0,0,1,1,1,0,0,0])) (E6 (sub (A7 f51) [1,0,1,0,0,1,1,0,0,1,1,1,0,0,0])) (enc A3I (x12192,x0,x2,x3,x12,x13,x14,x9,x11,x19,x20,())) (fun s=>A2K D6L s some) =
 some (x12192,(x0,(x2,(x3,(x12,(x13,(x14,(x9,(x11,(x19,(x20,(ltI x20 x19,())))))))))))):=by kernel_rfl
theorem E6r(F:Nat)(x12192:(List Int))(x0:(List (Int×(((Bool×((List Int)×Unit))×((Bool×((List Int)×Unit))×Unit))×(Go.Value×Unit)))))(x2:(List Int))(x3:Int)(x12:(List Int))(x13:Int)(x14:Int)(x9:Int)(x11:Int)(x19:Int)(x20:Int):A3m (A2V F) (E6 (sub (A7 f51) [1,0,1,0,0,1,1,0,0,1,1,1,0,0,1,1,0,0,0,0])) (E6 (sub (A7 f51) [1,0,1,0,0,1,1,0,0,1,1,1,0,0,1,1,0,0,0,0])) (enc A3I (x12192,x0,x2,x3,x12,x13,x14,x9,x11,x19,x20,())) (fun s=>A2K D6N s some) =
 bif inI 0 (List.length x2) then
  some (x12192,(x0,(x2,(x3,(x12,(x13,(x14,(x9,(x11,(x19,(x20,(leI (IntKind.wrap .u64 (E7 .i64 x3 x11)) (B1 0 x2 0),()))))))))))))
 else
  none:=by kernel_rfl
theorem E6s(F:Nat)(x12192:(List Int))(x0:(List (Int×(((Bool×((List Int)×Unit))×((Bool×((List Int)×Unit))×Unit))×(Go.Value×Unit)))))(x2:(List Int))(x3:Int)(x12:(List Int))(x13:Int)(x14:Int)(x9:Int)(x11:Int)(x19:Int)(x20:Int):A3m (A2V F) (E6 (sub (A7 f51) [1,0,1,0,0,1,1,0,0,1,1,1,0,0,1,1,0,0,0,1,0,0])) (E6 (sub (A7 f51) [1,0,1,0,0,1,1,0,0,1,1,1,0,0,1,1,0,0,0,1,0,0])) (enc A3I (x12192,x0,x2,x3,x12,x13,x14,x9,x11,x19,x20,())) (fun s=>A2K D6O s some) =
 some (x0,(x12192,(false,()))):=by kernel_rfl
theorem E6t(F:Nat)(x12192:(List Int))(x0:(List (Int×(((Bool×((List Int)×Unit))×((Bool×((List Int)×Unit))×Unit))×(Go.Value×Unit)))))(x2:(List Int))(x3:Int)(x12:(List Int))(x13:Int)(x14:Int)(x9:Int)(x11:Int)(x19:Int)(x20:Int):A3m (A2V F) (E6 (sub (A7 f51) [1,0,1,0,0,1,1,0,0,1,1,1,0,0,1,1,0,0,1,0])) (E6 (sub (A7 f51) [1,0,1,0,0,1,1,0,0,1,1,1,0,0,1,1,0,0,1,0])) (enc A3I (x12192,x0,x2,x3,x12,x13,x14,x9,x11,x19,x20,())) (fun s=>A2K A3I s some) =
 bif inI 0 (List.length x2) then
  some (x12192,(x0,(x2,(x3,(x12,(x13,(x14,(x9,(C2 .i64 x11 (IntKind.wrap .i64 (B1 0 x2 0)),(x19,(x20,())))))))))))
 else
  none:=by kernel_rfl
theorem D6P(F:Nat)(x12192:(List Int))(x0:(List (Int×(((Bool×((List Int)×Unit))×((Bool×((List Int)×Unit))×Unit))×(Go.Value×Unit)))))(x2:(List Int))(x3:Int)(x12:(List Int))(x13:Int)(x14:Int)(x9:Int)(x11:Int)(x19:Int)(x20:Int):A3m (B88 F) (E6 (sub (A7 f51) [1,0,1,0,0,1,1,0,0,1,1,1,0,0,1,1,0,0,1,1,0])) (((E6 (sub (A7 f51) [1,0,1,0,0,1,1,0,0,1,1,1,0,0,1,1,0,0,1,1,0])).drop 0).take 8) (enc A3I (x12192,x0,x2,x3,x12,x13,x14,x9,x11,x19,x20,())) (fun s=>A2K D2C s some) =
 bif inI x9 (List.length x0) then
  some (x12192,(x0,(x2,(x3,(x12,(x13,(x14,(x9,(x11,(x19,(x20,((),(x9,((B1 (0,(((false,([0,0,0,0],())),((false,([0,0,0,0],())),())),((Go.Value.slice none 0 0),()))) x0 x9).2.2.1,(x11,())))))))))))))))
 else
  none:=by kernel_rfl
theorem D6Q(F:Nat)(x12192:(List Int))(x0:(List (Int×(((Bool×((List Int)×Unit))×((Bool×((List Int)×Unit))×Unit))×(Go.Value×Unit)))))(x2:(List Int))(x3:Int)(x12:(List Int))(x13:Int)(x14:Int)(x9:Int)(x11:Int)(x19:Int)(x20:Int)(x37:Int)(x43:Int):A3m (A2V F) (E6 (sub (A7 f51) [1,0,1,0,0,1,1,0,0,1,1,1,0,0,1,1,0,0,1,1,0])) (((E6 (sub (A7 f51) [1,0,1,0,0,1,1,0,0,1,1,1,0,0,1,1,0,0,1,1,0])).drop 8).take 2) (enc C4l (x12192,x0,x2,x3,x12,x13,x14,x9,x11,x19,x20,(),x37,(),x43,())) (fun s=>A2K D2D s some) =
 bif D8 ((List.length x12192)+1) 8 then
  some (x0,(x2,(x3,(x12,(x13,(x14,(x9,(x11,(x19,(x20,((),(x37,((x12192++[x43]),())))))))))))))
 else
  none:=by kernel_rfl
theorem D6S(F:Nat)(x12192:(List Int))(x0:(List (Int×(((Bool×((List Int)×Unit))×((Bool×((List Int)×Unit))×Unit))×(Go.Value×Unit)))))(x2:(List Int))(x3:Int)(x12:(List Int))(x13:Int)(x14:Int)(x9:Int)(x11:Int)(x19:Int)(x20:Int)(x37:Int)(x45:Go.Value):A3m (B88 F) (E6 (sub (A7 f51) [1,0,1,0,0,1,1,0,0,1,1,1,0,0,1,1,0,0,1,1,0])) (((E6 (sub (A7 f51) [1,0,1,0,0,1,1,0,0,1,1,1,0,0,1,1,0,0,1,1,0])).drop 10).take 3) (enc C4m (x12192,x0,x2,x3,x12,x13,x14,x9,x11,x19,x20,(),x37,x45,())) (fun s=>A2K A3I s some) =
 bif inI x37 (List.length x0) then
  some (x12192,(F1 x0 x37 ((B1 (0,(((false,([0,0,0,0],())),((false,([0,0,0,0],())),())),((Go.Value.slice none 0 0),()))) x0 x37).1,((B1 (0,(((false,([0,0,0,0],())),((false,([0,0,0,0],())),())),((Go.Value.slice none 0 0),()))) x0 x37).2.1,(x45,(B1 (0,(((false,([0,0,0,0],())),((false,([0,0,0,0],())),())),((Go.Value.slice none 0 0),()))) x0 x37).2.2.2))),(x2,(x3,(x12,(x13,(x14,(x9,(x11,(x19,(x20,())))))))))))
 else
  none:=by kernel_rfl
theorem E1l(F:Nat)(x12192:(List Int))(x0:(List (Int×(((Bool×((List Int)×Unit))×((Bool×((List Int)×Unit))×Unit))×(Go.Value×Unit)))))(x2:(List Int))(x3:Int)(x12:(List Int))(x13:Int)(x14:Int)(x9:Int)(x11:Int)(x19:Int)(x20:Int):A3m (A2V F) (E6 (sub (A7 f51) [1,0,1,0,0,1,1,0,0,1,1,1,0,0,1,1,0,0,1,1,1,0])) (E6 (sub (A7 f51) [1,0,1,0,0,1,1,0,0,1,1,1,0,0,1,1,0,0,1,1,1,0])) (enc A3I (x12192,x0,x2,x3,x12,x13,x14,x9,x11,x19,x20,())) (fun s=>A2K A3I s some) =
 some (x12192,(x0,(x2,(x3,(x12,(x13,(x14,(x9,(C2 .i64 x11 1,(x19,(x20,()))))))))))):=by kernel_rfl
theorem E1m(F:Nat)(x12192:(List Int))(x0:(List (Int×(((Bool×((List Int)×Unit))×((Bool×((List Int)×Unit))×Unit))×(Go.Value×Unit)))))(x2:(List Int))(x3:Int)(x12:(List Int))(x13:Int)(x14:Int)(x9:Int)(x11:Int)(x19:Int)(x20:Int):A3m (A2V F) (E6 (sub (A7 f51) [1,0,1,0,0,1,1,0,0,1,1,1,0,0,1,1,0,0,1,1,1,1])) (E6 (sub (A7 f51) [1,0,1,0,0,1,1,0,0,1,1,1,0,0,1,1,0,0,1,1,1,1])) (enc A3I (x12192,x0,x2,x3,x12,x13,x14,x9,x11,x19,x20,())) (fun s=>A2K A3I s some) =
 bif A30 1 (C7 x2) (List.length x2) then
  some (x12192,(x0,(A1d x2 1,(x3,(x12,(x13,(x14,(x9,(x11,(x19,(x20,())))))))))))
 else
  none:=by kernel_rfl
theorem E1n(F:Nat)(x12192:(List Int))(x0:(List (Int×(((Bool×((List Int)×Unit))×((Bool×((List Int)×Unit))×Unit))×(Go.Value×Unit)))))(x2:(List Int))(x3:Int)(x12:(List Int))(x13:Int)(x14:Int)(x9:Int)(x11:Int)(x19:Int)(x20:Int):A3m (A2V F) (E6 (sub (A7 f51) [1,0,1,0,0,1,1,0,0,1,1,1,0,0,1,1,1])) (E6 (sub (A7 f51) [1,0,1,0,0,1,1,0,0,1,1,1,0,0,1,1,1])) (enc A3I (x12192,x0,x2,x3,x12,x13,x14,x9,x11,x19,x20,())) (fun s=>A2K A3I s some) =
 some (x12192,(x0,(x2,(x3,(x12,(x13,(x14,(x9,(x11,(x19,(C2 .i64 x20 1,()))))))))))):=by kernel_rfl
theorem E1o(F:Nat)(x0:(List (Int×(((Bool×((List Int)×Unit))×((Bool×((List Int)×Unit))×Unit))×(Go.Value×Unit)))))(x2:(List Int))(x3:Int)(x12:(List Int))(x13:Int)(x14:Int):A3m (A2V F) (E6 (sub (A7 f51) [1,0,1,0,0,1,1,1])) (E6 (sub (A7 f51) [1,0,1,0,0,1,1,1])) (enc B89 (x0,x2,x3,x12,x13,x14,())) (fun s=>A2K B89 s some) =
 some (x0,(x2,(x3,(x12,(x13,(C2 .i64 x14 1,())))))):=by kernel_rfl
abbrev D0J:A4:=[(0,.own 0 eNT 56),(2,.d (.slice (.int .u64))),(3,.d (.int .i64)),(12,.d (.slice (.int .i64))),(13,.d (.int .i64)),(14,.d (.int .i64))]
abbrev B93:A4:=[(0,.own 0 eST 56)]
abbrev B1B:A4:=[(0,.own 0 eST 56),(8,.d .bool)]
section
variable {fr:Frm} {M:Mem} {ρ:Nat→Eng.Place} {a:Go.Act} {w:Go.World}
theorem A4n{s:St}{i tid:Nat}{e:Ty}{l:List e.den}{v:Go.Value}(g:Eng.Good fr M ρ s a w)(ho:s.obj i=.sl e tid l)(hv:v=(ρ i).slice l.length) :
  ∃ M2,M.le M2∧Eng.Good fr M2 ρ (({ rep:=[(i,.d (.slice e) l)],objs:=[(i,.gone)],val:=.one .dead }:Eff).app none s) a w∧B13 M2 (G5 M2 e) l v:=by
 obtain ⟨M2,hM,G,hd,_⟩:=g.freeze1 (v:=v) (x:=(.one (.own i),.sl e tid l)) (.inl ⟨ho,hv⟩) (.one .dead) rfl
 refine ⟨M2,hM,G,?_⟩
 obtain ⟨cs,⟨u,hc,hs⟩,hv2⟩:=hd _ _ rfl
 subst hc
 have:v=u:=by simpa [E1,Ty.isAgg] using hv2
 rw [this]; exact hs
theorem A7l(pl:Eng.Place)(n:Nat):∃ ao k c,pl.slice n=.slice ao k c:=by
 cases pl <;> exact ⟨_,_,_,rfl⟩
theorem C2C{Q:Exit→Go.Act→Go.World→Prop}(F:Nat)(hn:((1,54):Nat×Nat)=fr.n){Mb:Mem}{v:Go.Value}{x0:List eNT.den}{D:List (List Int)}
  {xs:List Int} {L:List eVT.den} {x2 x12:List Int} {x3 x13 x14 x9 x11 x19 x20:Int}
  (g:Eng.Good (fr.re Mb 12192 v) M ρ (enc A3I (xs,L,x2,x3,x12,x13,x14,x9,x11,x19,x20,())) a w) (hB:fr.Base Mb) (hL:Laid M x0 L D v) (h9:x9=(D.length:Int)) (hin:inI x9 L.length=true) (hr:D8 (xs.length+1) 8=true)
  (hQ:∀ (M':Mem) (ρ':Nat→Eng.Place) (L':List eVT.den) (v':Go.Value) (a':Go.Act) (w':Go.World),Eng.Good (fr.re M' 12192 v') M' ρ' (enc A3I (xs++[x11],L',x2,x3,x12,x13,x14,x9,x11,x19,x20,())) a' w'→fr.Base M'→Laid M' x0 L' D v'→Q .normal a' w') :
  (sub (A7 f51) [1,0,1,0,0,1,1,0,0,1,1,1,0,0,1,1,0,0,1,1,0]).wp prog Q a w:=by
 have g0:Eng.Good (fr.re M 12192 v) M ρ (enc A3I (xs,L,x2,x3,x12,x13,x14,x9,x11,x19,x20,())) a w:=by
  refine g.recast rfl rfl rfl rfl (Frm.Base.re fr M) (fun t=>?_) g.objs fun id b h1 h2=>⟨h1,h2⟩
  exact g.env t
 have hBM:fr.Base M:=hB.trans g.base
 clear g hB
 refine D0E (by kernel_rfl) ?_
 refine A79 (fr:=fr.re M 12192 v) (n:=8) (cx:=B88 F) (K3 _ rfl) (D2B F) hn ((D6P F _ _ _ _ _ _ _ _ _ _ _).trans (by rw [hin]; rfl)) (by kernel_rfl) g0 fun M1 ρ1 a1 w1 g1=>?_
 have hL1:=hL.mono g1.old
 have hlt:D.length < L.length:=by rw [h9] at hin; have:=of_decide_eq_true hin; omega
 have hcell:(B1 (0,(((false,([0,0,0,0],())),((false,([0,0,0,0],())),())),((Go.Value.slice none 0 0),()))) L x9).2.2.1=v:=by
  rw [h9]
  simp only [B1,Int.toNat_natCast]
  have e1:=(hL.2 D.length L[D.length] (List.getElem?_eq_getElem hlt)).2.2.2 rfl
  rw [X1 _ hlt]; exact e1
 have hv1:v=(ρ1 12192).slice xs.length:=by
  obtain ⟨e,tid,l,ho,hv⟩:=g1.env 12192
  cases ho
  rw [← hv,A7a (by omega)]
 have g2:Eng.Good (fr.re M 12192 v) M1 ρ1 (enc C4l (xs,L,x2,x3,x12,x13,x14,x9,x11,x19,x20,(),x9,(),x11,())) a1 w1:=by
  refine g1.tell ρ1 rfl rfl rfl rfl g1.base ⟨g1.env 12192,g1.env 0,g1.env 2,g1.env 3,g1.env 12,g1.env 13,g1.env 14,g1.env 9,g1.env 11,g1.env 19,g1.env 20,g1.env 36,g1.env 37,?_,g1.env 43,trivial⟩ ⟨g1.objs 12192,g1.objs 0,trivial⟩ ⟨fun b hb=>⟨(fun h=>by cases h),hb⟩,fun b hb=>⟨(fun h=>by cases h),hb⟩,trivial⟩
  obtain ⟨cs,⟨h1,h2⟩,h3⟩:=g1.env 42
  refine ⟨.int .i64,3,xs,rfl,?_⟩
  rw [h3,h1]
  exact hcell.trans hv1
 refine A79 (fr:=fr.re M 12192 v) (n:=2) (cx:=A2V F) (H1 _ rfl) (A8G F) hn ((D6Q F _ _ _ _ _ _ _ _ _ _ _ _ _).trans (by rw [hr]; rfl)) (by kernel_rfl) g2 fun M3 ρ3 a3 w3 g3=>?_
 have hL3:=hL.mono g3.old
 have hv3:a3.tmps.getD 45 undef=(ρ3 12192).slice (xs++[x11]).length:=by
  obtain ⟨e,tid,l,ho,hv⟩:=g3.env 45
  cases ho
  exact hv
 have g4:Eng.Good (fr.re M3 12192 (a3.tmps.getD 45 undef)) M3 ρ3 (enc C4m (xs++[x11],L,x2,x3,x12,x13,x14,x9,x11,x19,x20,(),x9,a3.tmps.getD 45 undef,())) a3 w3:=by
  refine g3.tell ρ3 rfl rfl rfl rfl (Frm.Base.re fr M3) ⟨⟨.int .i64,3,xs++[x11],rfl,?_⟩,g3.env 0,g3.env 2,g3.env 3,g3.env 12,g3.env 13,g3.env 14,g3.env 9,g3.env 11,g3.env 19,g3.env 20,g3.env 36,g3.env 37,?_,trivial⟩ ⟨g3.objs 12192,g3.objs 0,trivial⟩ ⟨fun b hb=>⟨(fun h=>by cases h),hb⟩,fun b hb=>⟨(fun h=>by cases h),hb⟩,trivial⟩
  ·rw [A7a (by omega)]; exact hv3
  ·refine ⟨[a3.tmps.getD 45 undef],⟨rfl,?_⟩,rfl⟩
   rw [hv3]; exact A7l _ _
 refine A79 (fr:=fr.re M3 12192 (a3.tmps.getD 45 undef)) (n:=3) (cx:=B88 F) (K3 _ rfl) (D2B F) hn ((D6S F _ _ _ _ _ _ _ _ _ _ _ _ _).trans (by rw [hin]; rfl)) (by kernel_rfl) g4 fun M5 ρ5 a5 w5 g5=>?_
 have g6:=g5.recast (fr2:=fr.re M5 12192 (a3.tmps.getD 45 undef)) rfl rfl rfl rfl (Frm.Base.re fr M5) g5.env g5.objs fun id b h1 h2=>⟨h1,h2⟩
 exact B5x (k:=0+8+2+3) (by kernel_rfl) (hQ M5 ρ5 _ (a3.tmps.getD 45 undef) a5 w5 g6 ((hBM.trans g3.base).trans g5.base) ((hL3.mono g5.old).put h9 hin))
theorem B5F{Mb:Mem}{v:Go.Value}{xs:List Int}{L:List eVT.den}{x2 x12:List Int}{x3 x13 x14 x9 x11 x19 x20:Int}{b:Bool}(g:Eng.Good (fr.re Mb 12192 v) M ρ (enc D6L (xs,L,x2,x3,x12,x13,x14,x9,x11,x19,x20,b,())) a w) :
  Eng.Good (fr.re M 12192 v) M ρ (enc A3I (xs,L,x2,x3,x12,x13,x14,x9,x11,x19,x20,())) a w :=
 g.tell ρ rfl rfl rfl rfl (Frm.Base.re fr M) ⟨g.env 12192,g.env 0,g.env 2,g.env 3,g.env 12,g.env 13,g.env 14,g.env 9,g.env 11,g.env 19,g.env 20,trivial⟩ ⟨g.objs 12192,g.objs 0,trivial⟩ ⟨fun b hb=>⟨(fun h=>by cases h),hb⟩,fun b hb=>⟨(fun h=>by cases h),hb⟩,trivial⟩
theorem C4n{Mb:Mem}{v:Go.Value}{xs:List Int}{L:List eVT.den}{x2 x12:List Int}{x3 x13 x14 x9 x11 x19 x20:Int}{b:Bool}(g:Eng.Good (fr.re Mb 12192 v) M ρ (enc D6N (xs,L,x2,x3,x12,x13,x14,x9,x11,x19,x20,b,())) a w) :
  Eng.Good (fr.re M 12192 v) M ρ (enc A3I (xs,L,x2,x3,x12,x13,x14,x9,x11,x19,x20,())) a w :=
 g.tell ρ rfl rfl rfl rfl (Frm.Base.re fr M) ⟨g.env 12192,g.env 0,g.env 2,g.env 3,g.env 12,g.env 13,g.env 14,g.env 9,g.env 11,g.env 19,g.env 20,trivial⟩ ⟨g.objs 12192,g.objs 0,trivial⟩ ⟨fun b hb=>⟨(fun h=>by cases h),hb⟩,fun b hb=>⟨(fun h=>by cases h),hb⟩,trivial⟩
theorem B8a{Q:Exit→Go.Act→Go.World→Prop}(F:Nat)(hn:((1,54):Nat×Nat)=fr.n){x0:List eNT.den}{D:List (List Int)}{x12:List Int}{x3 x13 x14 x9 x19:Int}(h9:x9=(D.length:Int)){r:Bool×List Int×List Int}
  (hQ1:∀ (M':Mem) (ρ':Nat→Eng.Place) (L':List eVT.den) (v':Go.Value) (y z:Int) (a':Go.Act) (w':Go.World),r.1=true→Eng.Good (fr.re M' 12192 v') M' ρ' (enc A3I (r.2.2,L',r.2.1,x3,x12,x13,x14,x9,y,x19,z,())) a' w'→fr.Base M'→Laid M' x0 L' D v'→Q (.exit 2) a' w')
  (hQ2:∀ (M':Mem) (ρ':Nat→Eng.Place) (L':List eVT.den) (v':Go.Value) (a':Go.Act) (w':Go.World),r.1=false→Eng.Good (fr.re M' 12192 v') M' ρ' (enc D6O (L',r.2.2,false,())) a' w'→fr.Base M'→Laid M' x0 L' D v'→Q .ret a' w')
  {n:Nat} {v:Go.Value} {xs:List Int} {L:List eVT.den} {x2:List Int} {x11 x20:Int}
  (g:Eng.Good (fr.re M 12192 v) M ρ (enc A3I (xs,L,x2,x3,x12,x13,x14,x9,x11,x19,x20,())) a w) (hB:fr.Base M) (hL:Laid M x0 L D v) (h:Y3 F (inI x9 (List.length x0)) x3 x19 n x20 x11 x2 xs=some r) :
  (sub (A7 f51) [1,0,1,0,0,1,1,0,0,1,1,1,0]).wp prog Q a w:=by
 refine C47 (by kernel_rfl) (J:=fun n a w=>∃ M ρ v xs L x2 x11 x20,Eng.Good (fr.re M 12192 v) M ρ (enc A3I (xs,L,x2,x3,x12,x13,x14,x9,x11,x19,x20,())) a w∧fr.Base M∧Laid M x0 L D v∧Y3 F (inI x9 (List.length x0)) x3 x19 n x20 x11 x2 xs=some r) ?_ ?_ (n:=n) ⟨M,ρ,v,xs,L,x2,x11,x20,g,hB,hL,h⟩
 ·rintro a w ⟨M,ρ,v,xs,L,x2,x11,x20,_,_,_,h⟩
  cases h
 clear g hB hL h
 rintro n a w ⟨M,ρ,v,xs,L,x2,x11,x20,g,hB,hL,h⟩
 rw [Y3] at h
 refine O3 (by kernel_rfl) (U8 (fr:=fr.re M 12192 v) (cx:=A2V F) (H1 _ rfl) (A8G F) hn (by kernel_rfl) (E6q F _ _ _ _ _ _ _ _ _ _ _) g fun M1 ρ1 a1 w1 g1=>?_)
 refine O3 (by kernel_rfl) (A2O (t:=21) (b:=ltI x20 x19) g1 (by kernel_rfl) rfl (fun hb=>A9Q (by kernel_rfl) ?_) (fun hb=>B84 (i:=2) (by kernel_rfl) ?_))
 rotate_left
 ·rw [hb] at h
  simp only [cond_false,Option.some.injEq] at h
  subst h
  exact hQ1 M1 ρ1 L v x11 x20 a1 w1 rfl (B5F g1) (hB.trans g1.base) (hL.mono g1.old)
 rw [hb] at h
 simp only [cond_true] at h
 have hB1:=hB.trans g1.base
 have hL1:=hL.mono g1.old
 have g2:=B5F g1
 clear g g1 hB hL
 cases hi:inI 0 (List.length x2) <;> rw [hi] at h <;> simp only [cond_true,cond_false,reduceCtorEq] at h
 refine O3 (by kernel_rfl) (A4z (i:=3) (by kernel_rfl) ?_)
 refine O3 (by kernel_rfl) (O3 (by kernel_rfl) ?_)
 refine U8 (fr:=fr.re M1 12192 v) (cx:=A2V F) (H1 _ rfl) (A8G F) hn (by kernel_rfl) ((E6r F _ _ _ _ _ _ _ _ _ _ _).trans (by rw [hi]; rfl)) g2 fun M3 ρ3 a3 w3 g3=>?_
 have hB3:=hB1.trans g3.base
 have hL3:=hL1.mono g3.old
 have g4:=C4n g3
 refine A2O (t:=29) (b:=leI (IntKind.wrap .u64 (E7 .i64 x3 x11)) (B1 0 x2 0)) g3 (by kernel_rfl) rfl (fun hb=>?_) (fun hb=>A9Q (by kernel_rfl) ?_)
 ·rw [hb] at h
  simp only [cond_true,Option.some.injEq] at h
  subst h
  refine O3 (by kernel_rfl) (U8 (fr:=fr.re M3 12192 v) (cx:=A2V F) (H1 _ rfl) (A8G F) hn (by kernel_rfl) (E6s F _ _ _ _ _ _ _ _ _ _ _) g4 fun M5 ρ5 a5 w5 g5=>C46 (by kernel_rfl) ?_)
  have g6:=g5.recast (fr2:=fr.re M5 12192 v) rfl rfl rfl rfl (Frm.Base.re fr M5) g5.env g5.objs fun id b h1 h2=>⟨h1,h2⟩
  exact hQ2 M5 ρ5 L v a5 w5 rfl g6 (hB3.trans g5.base) (hL3.mono g5.old)
 rw [hb] at h
 simp only [cond_false] at h
 cases hok:inI x9 (List.length x0) <;> rw [hok] at h <;> simp only [cond_true,cond_false,reduceCtorEq] at h
 cases hr:D8 (List.length xs+1) 8 <;> rw [hr] at h <;> simp only [cond_true,cond_false,reduceCtorEq] at h
 cases hc:A30 1 (C7 x2) (List.length x2) <;> rw [hc] at h <;> simp only [cond_true,cond_false,reduceCtorEq] at h
 clear g3
 refine O3 (by kernel_rfl) (U8 (fr:=fr.re M3 12192 v) (cx:=A2V F) (H1 _ rfl) (A8G F) hn (by kernel_rfl) ((E6t F _ _ _ _ _ _ _ _ _ _ _).trans (by rw [hi]; rfl)) g4 fun M5 ρ5 a5 w5 g5=>?_)
 refine O3 (by kernel_rfl) (C2C F hn g5 hB3 (hL3.mono g5.old) h9 (by rw [hL3.1]; exact hok) hr fun M6 ρ6 L6 v6 a6 w6 g6 hB6 hL6=>?_)
 refine O3 (by kernel_rfl) (U8 (fr:=fr.re M6 12192 v6) (cx:=A2V F) (H1 _ rfl) (A8G F) hn (by kernel_rfl) (E1l F _ _ _ _ _ _ _ _ _ _ _) g6 fun M7 ρ7 a7 w7 g7=>?_)
 refine U8 (fr:=fr.re M6 12192 v6) (cx:=A2V F) (H1 _ rfl) (A8G F) hn (by kernel_rfl) ((E1m F _ _ _ _ _ _ _ _ _ _ _).trans (by rw [hc]; rfl)) g7 fun M8 ρ8 a8 w8 g8=>?_
 refine U8 (fr:=fr.re M6 12192 v6) (cx:=A2V F) (H1 _ rfl) (A8G F) hn (by kernel_rfl) (E1n F _ _ _ _ _ _ _ _ _ _ _) g8 fun M9 ρ9 a9 w9 g9=>?_
 have g10:=g9.recast (fr2:=fr.re M9 12192 v6) rfl rfl rfl rfl (Frm.Base.re fr M9) g9.env g9.objs fun id b h1 h2=>⟨h1,h2⟩
 exact ⟨M9,ρ9,v6,_,L6,_,_,_,g10,hB6.trans g9.base,hL6.mono g9.old,h⟩
theorem B8b{Q:Exit→Go.Act→Go.World→Prop}(F:Nat)(hn:((1,54):Nat×Nat)=fr.n){x0:List eNT.den}{x12:List Int}{x3 x13:Int}{r:Bool×List (List Int)}
  (hQ1:∀ (M':Mem) (ρ':Nat→Eng.Place) (a':Go.Act) (w':Go.World),r.1=true→Eng.Good fr M' ρ' (enc B93 (A4X x0 r.2,())) a' w'→Q (.exit 0) a' w')
  (hQ2:∀ (M':Mem) (ρ':Nat→Eng.Place) (a':Go.Act) (w':Go.World),r.1=false→Eng.Good fr M' ρ' (enc B1B (A4X x0 r.2,false,())) a' w'→Q .ret a' w')
  {n:Nat} {x2:List Int} (g:Eng.Good fr M ρ (enc D0J (x0,x2,x3,x12,x13,0,())) a w) (h:V5 F (List.length x0) x3 x12 x13 n 0 x2 []=some r) :
  (Code.loop (sub (A7 f51) [1,0,1,0,0])).wp prog Q a w:=by
 refine A71 (J:=fun n a w=>∃ M ρ L x2 x14 D,Eng.Good (fr.re M 12192 B4U) M ρ (enc B89 (L,x2,x3,x12,x13,x14,())) a w∧fr.Base M∧Laid M x0 L D B4U∧x14=(D.length:Int)∧V5 F (List.length x0) x3 x12 x13 n x14 x2 D=some r) ?_ ?_ (n:=n) ⟨M,ρ,A6i x0,x2,0,[],?_,g.base,Laid.start M x0,rfl,h⟩
 ·rintro a w ⟨M,ρ,L,x2,x14,D,_,_,_,_,h⟩
  cases h
 rotate_left
 ·refine g.tell ρ rfl rfl rfl rfl (Frm.Base.re fr M) ⟨?_,g.env 2,g.env 3,g.env 12,g.env 13,g.env 14,trivial⟩ ⟨C84 (g.objs 0),trivial⟩ ⟨fun b hb=>⟨(fun h=>by cases h),hb⟩,trivial⟩
  obtain ⟨e,tid,l,ho,hv⟩:=g.env 0
  cases ho
  exact ⟨eVT,56,A6i x0,rfl,by rw [show(A6i x0).length=x0.length by simp [A6i]]; exact hv⟩
 clear g h
 rintro n a w ⟨M,ρ,L,x2,x14,D,g,hB,hL,h14,h⟩
 rw [V5] at h
 refine O3 (by kernel_rfl) (U8 (fr:=fr.re M 12192 B4U) (cx:=B88 F) (K3 _ rfl) (D2B F) hn (by kernel_rfl) (E6m F _ _ _ _ _ _) g fun M1 ρ1 a1 w1 g1=>?_)
 have hB1:=hB.trans g1.base
 have hL1:=hL.mono g1.old
 refine O3 (by kernel_rfl) (A2O (t:=15) (b:=ltI x14 x13) g1 (by kernel_rfl) rfl (fun hb=>A9Q (by kernel_rfl) ?_) (fun hb=>B84 (i:=0) (by kernel_rfl) ?_))
 rotate_left
 ·rw [hb] at h
  simp only [cond_false,Option.some.injEq] at h
  subst h
  refine hQ1 M1 ρ1 a1 w1 rfl (g1.tell ρ1 rfl rfl rfl rfl hB1 ⟨?_,trivial⟩ ⟨D0I hL1 (g1.objs 0),trivial⟩ ⟨fun b hb=>⟨(fun h=>by cases h),hb⟩,trivial⟩)
  obtain ⟨e,tid,l,ho,hv⟩:=g1.env 0
  cases ho
  exact ⟨eST,56,A4X x0 D,rfl,by rw [A57,← hL1.1]; exact hv⟩
 rw [hb] at h
 simp only [cond_true] at h
 cases hi:inI x14 (List.length x12) <;> rw [hi] at h <;> simp only [cond_true,cond_false,reduceCtorEq] at h
 obtain ⟨r1,hr1,h⟩:=A1p h
 have g2:Eng.Good (fr.re M1 12192 B4U) M1 ρ1 (enc B89 (L,x2,x3,x12,x13,x14,())) a1 w1 :=
  g1.tell ρ1 rfl rfl rfl rfl (Frm.Base.re fr M1) ⟨g1.env 0,g1.env 2,g1.env 3,g1.env 12,g1.env 13,g1.env 14,trivial⟩ ⟨g1.objs 0,trivial⟩ ⟨fun b hb=>⟨(fun h=>by cases h),hb⟩,trivial⟩
 clear g g1 hB hL
 refine O3 (by kernel_rfl) (A4z (i:=1) (by kernel_rfl) ?_)
 refine O3 (by kernel_rfl) (U8 (fr:=fr.re M1 12192 B4U) (cx:=A2V F) (H1 _ rfl) (A8G F) hn (by kernel_rfl) ((E6n F _ _ _ _ _ _).trans (by rw [hi]; rfl)) g2 fun M3 ρ3 a3 w3 g3=>?_)
 refine O3 (by kernel_rfl) (U8 (fr:=fr.re M1 12192 B4U) (cx:=A2V F) (H1 _ rfl) (A8G F) hn (by kernel_rfl) (E6o F _ _ _ _ _ _ _ _) g3 fun M4 ρ4 a4 w4 g4=>?_)
 refine O3 (by kernel_rfl) (U8 (fr:=fr.re M1 12192 B4U) (cx:=A2V F) (H1 _ rfl) (A8G F) hn (by kernel_rfl) (E6p F _ _ _ _ _ _ _ _ _) g4 fun M5 ρ5 a5 w5 g5=>?_)
 have hB5:=hB1.trans g5.base
 have hL5:=hL1.mono g5.old
 have g6:Eng.Good (fr.re M5 12192 B4U) M5 (Place.upd ρ5 12192 .no) (enc A3I ([],L,x2,x3,x12,x13,x14,x14,0,B1 0 x12 x14,0,())) a5 w5:=by
  refine g5.tell _ rfl rfl rfl rfl (Frm.Base.re fr M5) ⟨⟨.int .i64,3,[],rfl,by rw [A7a (by omega)]; rfl⟩,?_,g5.env 2,g5.env 3,g5.env 12,g5.env 13,g5.env 14,g5.env 9,g5.env 11,g5.env 19,g5.env 20,trivial⟩ ⟨rfl,g5.objs 0,trivial⟩ ⟨(fun b hb=>by cases hb),fun b hb=>⟨(fun h=>by cases h),hb⟩,trivial⟩
  obtain ⟨e,tid,l,ho,hv⟩:=g5.env 0
  cases ho
  exact ⟨eVT,56,L,rfl,hv⟩
 clear g2 g3 g4 g5
 refine A4z (i:=2) (by kernel_rfl) (B8a F hn h14 (r:=r1) (fun M7 ρ7 L7 v7 y z a7 w7 hr g7 hB7 hL7=>?_) (fun M7 ρ7 L7 v7 a7 w7 hr g7 hB7 hL7=>?_) g6 hB5 hL5 hr1)
 ·rw [hr] at h
  simp only [cond_true] at h
  cases he:eqI (C2 .i64 x14 1) (C7 D+1) <;> rw [he] at h <;> simp only [cond_true,cond_false,reduceCtorEq] at h
  have he:C2 .i64 x14 1=(D.length:Int)+1:=of_decide_eq_true he
  have hv7:v7=(ρ7 12192).slice r1.2.2.length:=by
   obtain ⟨e,tid,l,ho,hv⟩:=g7.env 12192
   cases ho
   rw [← hv,A7a (by omega)]
  obtain ⟨M8,hM8,g8,hs8⟩:=A4n g7 (i:=12192) (e:=.int .i64) (tid:=3) (l:=r1.2.2) rfl hv7
  have g9:Eng.Good (fr.re M8 12192 B4U) M8 ρ7 (enc B89 (L7,r1.2.1,x3,x12,x13,x14,())) a7 w7:=by
   refine g8.tell ρ7 rfl rfl rfl rfl (Frm.Base.re fr M8) ⟨?_,g8.env 2,g8.env 3,g8.env 12,g8.env 13,g8.env 14,trivial⟩ ⟨g8.objs 0,trivial⟩ ⟨fun b hb=>⟨(fun h=>by cases h),hb⟩,trivial⟩
   obtain ⟨e,tid,l,ho,hv⟩:=g8.env 0
   cases ho
   exact ⟨eVT,56,L7,rfl,hv⟩
  refine U8 (fr:=fr.re M8 12192 B4U) (cx:=A2V F) (H1 _ rfl) (A8G F) hn (by kernel_rfl) (E1o F _ _ _ _ _ _) g9 fun M10 ρ10 a10 w10 g10=>?_
  have g11:=g10.recast (fr2:=fr.re M10 12192 B4U) rfl rfl rfl rfl (Frm.Base.re fr M10) g10.env g10.objs fun id b h1 h2=>⟨h1,h2⟩
  exact ⟨M10,ρ10,L7,r1.2.1,_,D++[r1.2.2],g11,(hB7.trans g8.base).trans g10.base,((hL7.mono hM8).close hs8).mono g10.old,by rw [he]; simp,h⟩
 ·rw [hr] at h
  simp only [cond_false,Option.some.injEq] at h
  subst h
  have hv7:v7=(ρ7 12192).slice r1.2.2.length:=by
   obtain ⟨e,tid,l,ho,hv⟩:=g7.env 12192
   cases ho
   rw [← hv,A7a (by omega)]
  obtain ⟨M8,hM8,g8,hs8⟩:=A4n g7 (i:=12192) (e:=.int .i64) (tid:=3) (l:=r1.2.2) rfl hv7
  have hL8:=(hL7.mono hM8).close hs8
  refine hQ2 M8 ρ7 a7 w7 rfl (g8.tell ρ7 rfl rfl rfl rfl (hB7.trans g8.base) ⟨?_,g8.env 8,trivial⟩ ⟨D0I hL8 (g8.objs 0),trivial⟩ ⟨fun b hb=>⟨(fun h=>by cases h),hb⟩,trivial⟩)
  obtain ⟨e,tid,l,ho,hv⟩:=g8.env 0
  cases ho
  exact ⟨eST,56,A4X x0 (D++[r1.2.2]),rfl,by rw [A57,← hL8.1]; exact hv⟩
end
theorem C2D{R:Type}(F:Nat)(fr:Frm)(hn:((1,54):Nat×Nat)=fr.n)(n:Nat):A48 (R:=R) prog fr (.loop (sub (A7 f51) [1,0,1,0,0])) D0J
  (fun x K=>A0T F (fun y0=>K (.exit 0) (enc B93 (y0,()))) (fun y0 y8=>K .ret (enc B1B (y0,y8,()))) n x.1 x.2.1 x.2.2.1 x.2.2.2.1 x.2.2.2.2.1 x.2.2.2.2.2.1):=by
 rintro ⟨x0,x2,x3,x12,x13,x14,⟨⟩⟩ K res h M ρ a w Q g hQ
 simp only [A0T] at h
 cases h14:eqI x14 0 <;> rw [h14] at h <;> simp only [cond_true,cond_false,reduceCtorEq] at h
 have h14:x14=0:=of_decide_eq_true h14
 subst h14
 obtain ⟨r,hr,h⟩:=A1p h
 refine B8b F hn (r:=r) (fun M' ρ' a' w' h1 g'=>?_) (fun M' ρ' a' w' h1 g'=>?_) g hr
 ·rw [h1] at h
  exact hQ (.exit 0) M' ρ' _ a' w' g' h
 ·rw [h1] at h
  exact hQ .ret M' ρ' _ a' w' g' h
end Go.Proofs.YtdhfajmcakneiaaGreat
