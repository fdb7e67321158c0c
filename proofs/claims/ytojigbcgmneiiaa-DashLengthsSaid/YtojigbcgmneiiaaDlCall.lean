/- The call of DashLengths. No condition beyond those stated. -/
import Derived.Test.YtojigbcgmneiiaaDlLaw
import Derived.Test.YtojigbcgmneiiaaOp3
set_option linter.unusedVariables false
set_option linter.unusedSimpArgs false
namespace Go.Proofs.Ytojigbcgmneiiaa.H
open Go Go.VM
theorem tape_len {ks : List W3} (h : (Rt ks).length ≤ maxLen) : (ks.length : Int) ≤ 9223372036854775807 := by
  unfold maxLen at h
  simp only [List.length_map] at h
  omega
theorem dashLengths_call {xs : List (List V)} (hl : xs.length ≤ maxLen ∧ xs.length * 8 ≤ reachBytes) (g : ∀ x ∈ xs, x.length = 1 ∧ pred3 x) (a b : Int) :
    call Try.prog X O0 18446744073709551616 9 3 [.list 1 xs, .int .i64 a, .int .i64 b] [] = some (.bool true, []) := by
  obtain ⟨ks, rfl, _⟩ := rows3 g
  exact F3_ok 0 (Rt ks) a b (.a0 true) (dashLengths_plain ks (tape_len hl.1) a b)
end Go.Proofs.Ytojigbcgmneiiaa.H
