/- Plain law, no machine: the printed law EaseTells answers true at every input. No condition. -/
import Derived.Test.YtejnbjclcdmopaaMSame4
import Derived.Test.YtejnbjclcdmopaaMKnown4
import Derived.Test.YtejnbjclcdmopaaPAx17
set_option linter.unusedVariables false
namespace Go.Proofs.Ytejnbjclcdmopaa.Pure
open Go.RowKit Go.Proofs.Ytejnbjclcdmopaa.PA Go.Proofs.YtejnbjclcdmopaaW.PrintWords Go.Proofs.YtejnbjclcdmopaaW.PrintLast Go.Proofs.YtejnbjclcdmopaaW.PrintMore Go.Proofs.Ytejnbjclcdmopaa.MB

theorem EaseTells : mutoscopelaw4_EaseTells.Pure := by
  intro a b c d x f t u _ _ _ _ _
  refine ⟨22, ?_⟩
  unfold mutoscopelaw4_EaseTells.f mutoscopelaw4_right.f
  simp only [same4 (Nat.le_refl 22), Option.bind_some, if_true, ease_Part_eq, r5_Part_eq, known4 (show 18 ≤ 22 by decide)]
end Go.Proofs.Ytejnbjclcdmopaa.Pure
