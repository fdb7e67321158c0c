/- The tables and what is known ahead. No condition beyond those stated. -/
import Derived.Test.YtifalphladcdcaaGreatVT
import Derived.Test.YtifalphladcdcaaGreatVmAP
set_option linter.unusedVariables false
set_option linter.unusedSimpArgs false
namespace Go.Proofs.YtifalphladcdcaaGreat.H
open Go Go.VM
noncomputable abbrev X : Cx := VT.X
noncomputable abbrev O0 : Oracle := cloneO VT.clones
noncomputable abbrev UU : Oracle := UC Tryz.prog X O0 18446744073709551616
noncomputable abbrev CC : Oracle := genO X UU
theorem os0 : OS Tryz.prog O0 := VT.os0
end Go.Proofs.YtifalphladcdcaaGreat.H
