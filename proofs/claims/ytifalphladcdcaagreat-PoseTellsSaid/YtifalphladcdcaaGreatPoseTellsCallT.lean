/- The call of PoseTells. No condition beyond those stated. -/
import Derived.Test.YtifalphladcdcaaGreatVmAR
import Derived.Test.YtifalphladcdcaaGreatOpPoseTellsT
import Derived.Test.YtifalphladcdcaaGreatPoseTT
set_option linter.unusedVariables false
set_option linter.unusedSimpArgs false
namespace Go.Proofs.YtifalphladcdcaaGreat.H
open Go Go.VM
theorem tape_len {ks : List W3} (h : (Rt ks).length ≤ maxLen) : (ks.length : Int) ≤ 9223372036854775807 := by
  unfold maxLen at h
  simp only [List.length_map] at h
  omega
theorem odds_len {ks : List W133} (h : (Rtu ks).length ≤ maxLen) : (ks.length : Int) ≤ 9223372036854775807 := by
  unfold maxLen at h
  simp only [List.length_map] at h
  omega
theorem poseTells_call {xs ys : List (List V)} {us : List V} (hl : xs.length ≤ maxLen ∧ xs.length * 8 ≤ reachBytes) (g : ∀ x ∈ xs, x.length = 1 ∧ pred3 x) (hl2 : ys.length ≤ maxLen ∧ ys.length * 32 ≤ reachBytes) (g2 : ∀ x ∈ ys, x.length = 4 ∧ pred133 x)
    (t : Int) (gm : pred59 us) (al : Int) : UU 7 [.list 1 xs, .list 4 ys, .int .i64 t, .agg us, .int .i64 al] [] = some (.bool true, []) := by
  obtain ⟨ks, rfl, _⟩ := rows3 g
  obtain ⟨js, rfl, _⟩ := rows133 g2
  obtain ⟨m, rfl, _⟩ := open59 gm
  exact F7_ok (Rt ks) (Rtu js) t m al (.a0 true) (poseTells_plain ks (tape_len hl.1) js (odds_len hl2.1) t m al)
end Go.Proofs.YtifalphladcdcaaGreat.H
