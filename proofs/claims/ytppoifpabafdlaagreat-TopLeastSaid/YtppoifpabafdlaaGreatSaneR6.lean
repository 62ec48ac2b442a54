/- Rounds of the A48 run. Written by program. -/
import Derived.Test.YtppoifpabafdlaaGreatSaneE
set_option linter.unusedVariables false
namespace Go.Proofs.YtppoifpabafdlaaGreat
open Go.Eng Go.Vm
theorem D3L:A2D vcx 100000 42 (B1W) (mkS Er5 [(0,[.v (.int .i64 1),.v (.int .i64 5),.v (.int .i64 2),.v (.int .i64 6)])] 15476) (.exit 0) Er6 [(0,[.v (.int .i64 1),.v (.int .i64 5),.v (.int .i64 2),.v (.int .i64 6)])] 15476=true:=by kernel_rfl
theorem D8m:A2D vcx 100000 42 (sub (C6 Tryz.f18) [1,1,1]) (mkS Er6 [(0,[.v (.int .i64 1),.v (.int .i64 5),.v (.int .i64 2),.v (.int .i64 6)])] 15476) (.ret) Et [(0,[.v (.int .i64 1),.v (.int .i64 5),.v (.int .i64 2),.v (.int .i64 6)])] 15476=true:=by kernel_rfl
end Go.Proofs.YtppoifpabafdlaaGreat
