/- Rounds of the A48 run. Written by program. -/
import Derived.Test.YtppoifpabafdlaaGreatSaneE
set_option linter.unusedVariables false
namespace Go.Proofs.YtppoifpabafdlaaGreat
open Go.Eng Go.Vm
theorem D8j:A2D vcx 100000 42 (sub (C6 Tryz.f18) [0]) (mkS Tr.e [] 0) (.normal) Ea [] 0=true:=by kernel_rfl
theorem D8k:A2D vcx 100000 42 (sub (C6 Tryz.f18) [1,0]) (mkS Ea [] 0) (.normal) Eb [(0,[.v (.int .i64 1),.v (.int .i64 5),.v (.int .i64 2),.v (.int .i64 6)])] 1=true:=by kernel_rfl
theorem D8l:A2D vcx 100000 42 (sub (C6 Tryz.f18) [1,1,0,0]) (mkS Eb [(0,[.v (.int .i64 1),.v (.int .i64 5),.v (.int .i64 2),.v (.int .i64 6)])] 1) (.normal) Ec [(0,[.v (.int .i64 1),.v (.int .i64 5),.v (.int .i64 2),.v (.int .i64 6)])] 1=true:=by kernel_rfl
theorem D3F:A2D vcx 100000 42 (B1W) (mkS Ec [(0,[.v (.int .i64 1),.v (.int .i64 5),.v (.int .i64 2),.v (.int .i64 6)])] 1) (.normal) Er0 [(0,[.v (.int .i64 1),.v (.int .i64 5),.v (.int .i64 2),.v (.int .i64 6)])] 1672=true:=by kernel_rfl
end Go.Proofs.YtppoifpabafdlaaGreat
