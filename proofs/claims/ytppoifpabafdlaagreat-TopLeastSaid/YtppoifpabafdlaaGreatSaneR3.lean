/- Rounds of the A48 run. Written by program. -/
import Derived.Test.YtppoifpabafdlaaGreatSaneE
set_option linter.unusedVariables false
namespace Go.Proofs.YtppoifpabafdlaaGreat
open Go.Eng Go.Vm
theorem D3I:A2D vcx 100000 42 (B1W) (mkS Er2 [(0,[.v (.int .i64 1),.v (.int .i64 5),.v (.int .i64 2),.v (.int .i64 6)])] 6399) (.normal) Er3 [(0,[.v (.int .i64 1),.v (.int .i64 5),.v (.int .i64 2),.v (.int .i64 6)])] 8359=true:=by kernel_rfl
end Go.Proofs.YtppoifpabafdlaaGreat
