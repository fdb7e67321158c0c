/- The call of ShapeMade. No condition beyond those stated. -/
import Derived.Test.YtifalphladcdcaaShapeMade5
import Derived.Test.YtifalphladcdcaaOp5
import Derived.Test.YtifalphladcdcaaVmAR
set_option linter.unusedVariables false
set_option linter.unusedSimpArgs false
namespace Go.Proofs.Ytifalphladcdcaa.H
open Go Go.VM
theorem tape_len {ks : List W3} (h : (Rt ks).length ≤ maxLen) : (ks.length : Int) ≤ 9223372036854775807 := by
  unfold maxLen at h
  simp only [List.length_map] at h
  omega
theorem shapeMade_call {xs : List (List V)} (hl : xs.length ≤ maxLen ∧ xs.length * 8 ≤ reachBytes) (g : ∀ x ∈ xs, x.length = 1 ∧ pred3 x) (t : Int) : UU 5 [.list 1 xs, .int .i64 t] [] = some (.bool true, []) := by
  obtain ⟨ks, rfl, _⟩ := rows3 g
  exact F5_ok (Rt ks) t (.a0 true) (shapeMade_plain ks (tape_len hl.1) t)
end Go.Proofs.Ytifalphladcdcaa.H
