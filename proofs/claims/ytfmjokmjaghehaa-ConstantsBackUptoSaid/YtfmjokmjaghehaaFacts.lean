/- Facts of the program that no law changes. -/
import Derived.Test.YtfmjokmjaghehaaRows
import Derived.WalkKit
import Derived.ProofKit
import Derived.OpenShut
import Derived.JoinedOf
namespace Go.Proofs.Ytfmjokmjaghehaa
theorem factMay : Try.prog.mayEnter = true := by kernel_rfl
theorem factLift : Try.prog.liftsFinal = false := by kernel_rfl
theorem factMake : Try.prog.make = some Rows.constantsBackRow.make := by kernel_rfl
end Go.Proofs.Ytfmjokmjaghehaa
