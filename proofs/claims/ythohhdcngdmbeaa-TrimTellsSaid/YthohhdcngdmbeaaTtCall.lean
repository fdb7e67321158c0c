/- The call of TrimTells. No condition beyond those stated. -/
import Derived.Test.YthohhdcngdmbeaaTr2
import Derived.Test.YthohhdcngdmbeaaOp2
set_option linter.unusedVariables false
set_option linter.unusedSimpArgs false
namespace Go.Proofs.Ythohhdcngdmbeaa.H
open Go Go.VM
theorem in_of {p : W39} (h : P39 p) : Gi p := by
  obtain ⟨ks, e, ⟨_, hb⟩, _⟩ := h.h1
  refine ⟨ks, e, ?_⟩
  have : reachBytes = 140737488351232 := by decide
  omega
theorem tape_len {ks : List W3} (h : (Rt ks).length ≤ maxLen) : (ks.length : Int) ≤ 9223372036854775807 := by
  unfold maxLen at h
  simp only [List.length_map] at h
  omega
theorem trimTells_call {xs raw : List (List V)} (hl : xs.length ≤ maxLen ∧ xs.length * 8 ≤ reachBytes) (g : ∀ x ∈ xs, x.length = 1 ∧ pred3 x) (a b : Int) (gr : ∀ x ∈ raw, x.length = 2 ∧ pred39 x) :
    call Try.prog X O0 18446744073709551616 11 12 [.list 1 xs, .int .i64 a, .int .i64 b, .list 2 raw] [] = some (.bool true, []) := by
  obtain ⟨ks, rfl, _⟩ := rows3 g
  obtain ⟨ps, rfl, hp⟩ := rows39 gr
  exact F12_ok 0 (Rt ks) a b (Rp ps) (.a0 true) (trimTells_plain ks (tape_len hl.1) a b ps fun p h => in_of (hp p h))
end Go.Proofs.Ythohhdcngdmbeaa.H
