/- Facts of the program that no law changes. -/
import Derived.Test.YtppoifpabafdlaaGreatRows
import Derived.WalkKit
import Derived.ProofKit
import Derived.OpenShut
import Derived.JoinedOf
namespace Go.Proofs.YtppoifpabafdlaaGreat
theorem factMay:Tryz.prog.mayEnter=true:=by kernel_rfl
theorem factLift:Tryz.prog.liftsFinal=false:=by kernel_rfl
theorem factMake:Tryz.prog.make=some Rows.topLeastRow.make:=by kernel_rfl
end Go.Proofs.YtppoifpabafdlaaGreat
