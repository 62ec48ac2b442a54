/- The engine, part 35: what a statement's reader reads is plain data of the engine's. -/
import Derived.Test.YtdhfajmcakneiaaGreatEngD
import Derived.OpenShut
set_option linter.unusedVariables false
set_option linter.unusedSimpArgs false
namespace Go.Eng
open Go.RowKit Go.ChangeShapes
def wfT:(T:Ty)→T.den→Prop
 | .int k,x=>(Lit.int k x).wf=true
 | .bool,_=>True
 | .str,_=>True
 | .unit,_=>True
 | .nil,_=>False
 | .val,_=>False
 | .pair a b,x=>wfT a x.1∧wfT b x.2
 | .arr n e,l=>List.length l=n∧∀ x∈(l:List e.den),wfT e x
 | .slice e,l=>List.length l≤maxLen∧∀ x∈(l:List e.den),wfT e x
section
variable {H:Type} {enc:TypeId×Value→H} {P:Program} {w:World} {base:Nat} {spare:Nat→Bool} {held:Bool}
end
end Go.Eng
