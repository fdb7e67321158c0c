/- The call of PoseNumbers. No condition beyond those stated. -/
import Derived.Test.YtifalphladcdcaaGreatVmAR
import Derived.Test.YtifalphladcdcaaGreatPoseNN
set_option linter.unusedVariables false
set_option linter.unusedSimpArgs false
namespace Go.Proofs.YtifalphladcdcaaGreat.H
open Go Go.VM
theorem poseNumbers_call : UU 6 [] [] = some (.bool true, []) := F6_ok (.a0 true) poseNumbers_plain
end Go.Proofs.YtifalphladcdcaaGreat.H
