/- The call of StrokeTells. No condition beyond those stated. -/
import Derived.Test.YtojigbcgmneiiaaStLaw
import Derived.Test.YtojigbcgmneiiaaOp3
set_option linter.unusedVariables false
set_option linter.unusedSimpArgs false
namespace Go.Proofs.Ytojigbcgmneiiaa.H
open Go Go.VM
theorem tape_len {ks : List W3} (h : (Rt ks).length ≤ maxLen) : (ks.length : Int) ≤ 9223372036854775807 := by
  unfold maxLen at h
  simp only [List.length_map] at h
  omega
theorem strokeTells_call {xs : List (List V)} {us : List V} (hl : xs.length ≤ maxLen ∧ xs.length * 8 ≤ reachBytes) (g : ∀ x ∈ xs, x.length = 1 ∧ pred3 x) (a b : Int) (g3 : pred25 us) :
    call Try.prog X O0 18446744073709551616 10 10 [.list 1 xs, .int .i64 a, .int .i64 b, .agg us] [] = some (.bool true, []) := by
  obtain ⟨ks, rfl, _⟩ := rows3 g
  obtain ⟨⟨cr, _⟩, rfl, hp⟩ := open25 g3
  obtain ⟨raw, rfl, hr, _⟩ := hp.h1
  exact F10_ok 0 (Rt ks) a b cr (Rw raw) (.a0 true) (strokeTells_plain ks (tape_len hl.1) a b cr raw)
end Go.Proofs.Ytojigbcgmneiiaa.H
