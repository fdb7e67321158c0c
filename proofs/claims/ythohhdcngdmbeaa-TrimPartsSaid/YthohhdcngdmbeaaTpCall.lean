/- The call of TrimParts. No condition beyond those stated. -/
import Derived.Test.YthohhdcngdmbeaaTpLaw
import Derived.Test.YthohhdcngdmbeaaOp2
set_option linter.unusedVariables false
set_option linter.unusedSimpArgs false
namespace Go.Proofs.Ythohhdcngdmbeaa.H
open Go Go.VM
theorem tape_len {ks : List W3} (h : (Rt ks).length ≤ maxLen) : (ks.length : Int) ≤ 9223372036854775807 := by
  unfold maxLen at h
  simp only [List.length_map] at h
  omega
theorem trimParts_call {xs : List (List V)} (hl : xs.length ≤ maxLen ∧ xs.length * 8 ≤ reachBytes) (g : ∀ x ∈ xs, x.length = 1 ∧ pred3 x) (a : Int) :
    call Try.prog X O0 18446744073709551616 9 6 [.list 1 xs, .int .i64 a] [] = some (.bool true, []) := by
  obtain ⟨ks, rfl, _⟩ := rows3 g
  exact F6_ok 0 (Rt ks) a (.a0 true) (trimParts_plain ks (tape_len hl.1) a)
end Go.Proofs.Ythohhdcngdmbeaa.H
