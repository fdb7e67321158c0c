/- The call of DashTells. No condition beyond those stated. -/
import Derived.Test.YtojigbcgmneiiaaDaLaw
import Derived.Test.YtojigbcgmneiiaaOp3
set_option linter.unusedVariables false
set_option linter.unusedSimpArgs false
namespace Go.Proofs.Ytojigbcgmneiiaa.H
open Go Go.VM
theorem tape_len {ks : List W3} (h : (Rt ks).length ≤ maxLen) : (ks.length : Int) ≤ 9223372036854775807 := by
  unfold maxLen at h
  simp only [List.length_map] at h
  omega
theorem dashTells_call {xs ys : List (List V)} {us : List V} (hl : xs.length ≤ maxLen ∧ xs.length * 8 ≤ reachBytes) (g : ∀ x ∈ xs, x.length = 1 ∧ pred3 x) (hl2 : ys.length ≤ maxLen ∧ ys.length * 8 ≤ reachBytes) (g2 : ∀ x ∈ ys, x.length = 1 ∧ pred2 x) (g3 : pred25 us) :
    call Try.prog X O0 18446744073709551616 11 7 [.list 1 xs, .list 1 ys, .agg us] [] = some (.bool true, []) := by
  obtain ⟨ks, rfl, _⟩ := rows3 g
  obtain ⟨ls, rfl, _⟩ := rows2 g2
  obtain ⟨⟨cr, _⟩, rfl, hp⟩ := open25 g3
  obtain ⟨raw, rfl, hr, _⟩ := hp.h1
  have h1 : (ls.length : Int) ≤ 9223372036854775807 := by
    have := hl2.1
    unfold maxLen at this
    simp only [List.length_map] at this
    omega
  have h2 : (raw.length : Int) ≤ 9223372036854775807 := by
    have := hr.1
    unfold maxLen at this
    omega
  exact F7_ok 0 (Rt ks) (Rl ls) cr (Rw raw) (.a0 true) (dashTells_plain ks (tape_len hl.1) ls h1 cr raw h2)
end Go.Proofs.Ytojigbcgmneiiaa.H
