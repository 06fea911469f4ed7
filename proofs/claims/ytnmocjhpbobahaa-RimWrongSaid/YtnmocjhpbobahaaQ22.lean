/- RSh: what is known for the runs of layer 20. -/
import Derived.Test.YtnmocjhpbobahaaQ20
import Derived.Test.YtnmocjhpbobahaaQ21
set_option linter.unusedVariables false
set_option linter.unusedSimpArgs false
set_option linter.unnecessarySimpa false
namespace Go.Proofs.Ytnmocjhpbobahaa.L
open Go Go.RowKit
set_option maxRecDepth 100000
/-- What is known of the library's functions, and of graph.Right. -/
def ER : Env := ext (ext (ext (ext (ext (ext (ext (ext (ext env0 44 specMin) 45 specMax) 71 specIndex) 63 specContains) 73 specClone) 70 specBs) 75 specConcat) 21 spec32) 86 specLess
theorem ER_ok : EnvOk Try.prog ER := ext_ok (ext_ok (ext_ok (ext_ok (ext_ok (ext_ok (ext_ok (ext_ok (ext_ok env0_ok okMin) okMax) okIndex) okContains) okClone) okBs) okConcat) ok32) okLess
end Go.Proofs.Ytnmocjhpbobahaa.L
