/- The call of SceneOrder. No condition beyond those stated. -/
import Derived.Test.YtifalphladcdcaaGreatVmAR
import Derived.Test.YtifalphladcdcaaGreatOpSceneOrderO
import Derived.Test.YtifalphladcdcaaGreatOne26O
set_option linter.unusedVariables false
set_option linter.unusedSimpArgs false
namespace Go.Proofs.YtifalphladcdcaaGreat.H
open Go Go.VM
theorem tape_len {ks : List W3} (h : (Rt ks).length ≤ maxLen) : (ks.length : Int) ≤ 9223372036854775807 := by
  unfold maxLen at h
  simp only [List.length_map] at h
  omega
theorem sceneOrder_call {xs0 : List (List V)} (hl0 : xs0.length ≤ maxLen ∧ xs0.length * 8 ≤ reachBytes) (g0 : ∀ x ∈ xs0, x.length = 1 ∧ pred3 x) (a1 : Int) : UU 10 [.list 1 xs0, .int .i64 a1] [] = some (.bool true, []) := by
  obtain ⟨ks0, rfl, _⟩ := rows3 g0
  exact F10_ok (Rt ks0) a1 (.a0 true) (sceneOrder_plain ks0 (tape_len hl0.1) a1)
end Go.Proofs.YtifalphladcdcaaGreat.H
