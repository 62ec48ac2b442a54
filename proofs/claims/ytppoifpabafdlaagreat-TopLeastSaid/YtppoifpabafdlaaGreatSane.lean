/- The sanity check returns true. Written by program. -/
import Derived.Test.YtppoifpabafdlaaGreatSaneR0
import Derived.Test.YtppoifpabafdlaaGreatSaneR1
import Derived.Test.YtppoifpabafdlaaGreatSaneR2
import Derived.Test.YtppoifpabafdlaaGreatSaneR3
import Derived.Test.YtppoifpabafdlaaGreatSaneR4
import Derived.Test.YtppoifpabafdlaaGreatSaneR5
import Derived.Test.YtppoifpabafdlaaGreatSaneR6
set_option linter.unusedVariables false
namespace Go.Proofs.YtppoifpabafdlaaGreat
open Go.Eng Go.Vm
theorem B9n(w:World):Calls Tryz.prog 18 #[] w (A2g (fun _=>none) ⟨.e,0⟩ w (A4Y true) (mkS Et [(0,[.v (.int .i64 1),.v (.int .i64 5),.v (.int .i64 2),.v (.int .i64 6)])] 15476).h) :=
 C4s vok Tryz.func18 (c:=.seq (sub (C6 Tryz.f18) [0]) (.seq (sub (C6 Tryz.f18) [1,0]) (.seq (.seq (sub (C6 Tryz.f18) [1,1,0,0]) (.block 0 (.loop B1W))) (sub (C6 Tryz.f18) [1,1,1])))) (by kernel_rfl) (args:=[]) (env:=.e) rfl (by decide) (s:=mkS Et [(0,[.v (.int .i64 1),.v (.int .i64 5),.v (.int .i64 2),.v (.int .i64 6)])] 15476)
  (B0S (A0y mix vok A26 D8j) (B0S (A0y mix vok A26 D8k) (B0S (B0S (A0y mix vok A26 D8l) (C1j (Rnd.snd (.more (A0y mix vok A26 D3F) (.more (A0y mix vok A26 D3G) (.more (A0y mix vok A26 D3H) (.more (A0y mix vok A26 D3I) (.more (A0y mix vok A26 D3J) (.more (A0y mix vok A26 D3K) (.last (A0y mix vok A26 D3L) (by simp))))))):Rnd Tryz.prog none 42 B1W 7 _ _ _)))) (A0y mix vok A26 D8m)))) (by kernel_rfl) .nil ⟨fun _ h=>absurd rfl h,fun _ _ _ _ h=>absurd rfl h⟩ fun _ _=>rfl
def D3N(_:Nat):Contract:=B7 { modes:=[],sh:=[],keeps:=true,fresh:=none,rtys:=[.bool] } fun _=>some (true,())
theorem s18(F:Nat):CSound Tryz.prog 18 (D3N F):=B97 (by kernel_rfl) B9n
end Go.Proofs.YtppoifpabafdlaaGreat
