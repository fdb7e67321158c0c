/- The tables and what is known ahead. No condition beyond those stated. -/
import Derived.Test.YtcomanfboibhiaaVT
set_option linter.unusedVariables false
set_option linter.unusedSimpArgs false
namespace Go.Proofs.Ytcomanfboibhiaa.H
open Go Go.VM
noncomputable abbrev X : Cx := VT.X
noncomputable abbrev O0 : Oracle := cloneO VT.clones
theorem os0 : OS Try.prog O0 := VT.os0
end Go.Proofs.Ytcomanfboibhiaa.H
