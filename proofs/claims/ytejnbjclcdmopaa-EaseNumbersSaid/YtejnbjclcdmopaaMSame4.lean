/- Plain law, no machine: chapter 4's comparison of the program with the document's answer comes out true at every input. No condition. -/
import Derived.Test.YtejnbjclcdmopaaMREase
import Derived.Test.YtejnbjclcdmopaaPAx14
set_option linter.unusedVariables false
namespace Go.Proofs.Ytejnbjclcdmopaa.PA
open Go.RowKit Go.Proofs.YtejnbjclcdmopaaW.PrintWords Go.Proofs.YtejnbjclcdmopaaW.PrintLast Go.Proofs.YtejnbjclcdmopaaW.PrintMore Go.Proofs.Ytejnbjclcdmopaa.MB

theorem same4 {k : Nat} (hk : 22 ≤ k) (a b c d x : Int) : mutoscopelaw4_same.f k a b c d x = some true := by
  unfold mutoscopelaw4_same.f
  obtain ⟨r, e⟩ := ease_Right_some a b c d
  simp only [r5_Ease_eq, e, Option.bind_some, ease_At_eq (show 18 ≤ k by omega), r5_Curve_eq hk, ease_Bend_eq (show 1 ≤ k by omega), r5_Bend_eq (show 5 ≤ k by omega)]
  simp
end Go.Proofs.Ytejnbjclcdmopaa.PA
