/- The call of PathTells. No condition beyond those stated. -/
import Derived.Test.YtifalphladcdcaaPathLaw5
import Derived.Test.YtifalphladcdcaaOp5
import Derived.Test.YtifalphladcdcaaVmAR
set_option linter.unusedVariables false
set_option linter.unusedSimpArgs false
namespace Go.Proofs.Ytifalphladcdcaa.H
open Go Go.VM
theorem tape_len {ks : List W3} (h : (Rt ks).length ≤ maxLen) : (ks.length : Int) ≤ 9223372036854775807 := by
  unfold maxLen at h
  simp only [List.length_map] at h
  omega
theorem pathTells_call {xs ys : List (List V)} {us vs : List V} (hl : xs.length ≤ maxLen ∧ xs.length * 8 ≤ reachBytes) (g : ∀ x ∈ xs, x.length = 1 ∧ pred3 x) (hl2 : ys.length ≤ maxLen ∧ ys.length * 8 ≤ reachBytes) (g2 : ∀ x ∈ ys, x.length = 1 ∧ pred3 x)
    (t : Int) (gm : pred30 us) (gp : pred24 vs) (odd : Int) : UU 4 [.list 1 xs, .list 1 ys, .int .i64 t, .agg us, .agg vs, .int .i64 odd] [] = some (.bool true, []) := by
  obtain ⟨ks, rfl, _⟩ := rows3 g
  obtain ⟨js, rfl, _⟩ := rows3 g2
  obtain ⟨m, rfl, _⟩ := open30 gm
  obtain ⟨p, rfl, hp⟩ := open24 gp
  obtain ⟨raw, e, _, _⟩ := hp.h1
  obtain ⟨c0, c1⟩ := p
  simp only at e
  subst e
  exact F4_ok (Rt ks) (Rt js) t m.c0 m.c1 m.c2 m.c3 m.c4 m.c5 c0 (Rp raw) odd (.a0 true) (pathTells_plain ks js (tape_len hl.1) (tape_len hl2.1) t m.c0 m.c1 m.c2 m.c3 m.c4 m.c5 c0 raw odd)
end Go.Proofs.Ytifalphladcdcaa.H
