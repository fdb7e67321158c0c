/- Plain law, no machine: chapter 4's runs that the laws name come out. No condition. -/
import Derived.KernelRfl
import Derived.Test.YtejnbjclcdmopaaMEase
import Derived.Test.YtejnbjclcdmopaaPAx5
set_option linter.unusedVariables false
namespace Go.Proofs.Ytejnbjclcdmopaa.PA
open Go.RowKit Go.Proofs.YtejnbjclcdmopaaW.PrintWords Go.Proofs.YtejnbjclcdmopaaW.PrintLast Go.Proofs.YtejnbjclcdmopaaW.PrintMore Go.Proofs.Ytejnbjclcdmopaa.MB

theorem known4 {k : Nat} (hk : 18 ≤ k) : mutoscopelaw4_known.f k = some true := by
  unfold mutoscopelaw4_known.f
  simp only [ease_At_eq hk, ease_Part_eq, ease_Bend_eq (show 1 ≤ k by omega), Option.bind_some]
  rw [if_pos (by decide +kernel), if_pos (by decide +kernel), if_pos (by decide +kernel), ease_Right_in (by omega) (by omega) (by omega) (by omega)]
  simp only [Option.bind_some, if_true]
  rw [show ease_Right.f (-1) 0 0 0 = some false from by kernel_rfl]
  simp only [Option.bind_some]
  rw [if_neg (by decide)]
  decide +kernel
end Go.Proofs.Ytejnbjclcdmopaa.PA
