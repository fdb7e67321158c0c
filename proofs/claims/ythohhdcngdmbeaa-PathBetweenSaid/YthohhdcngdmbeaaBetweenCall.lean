/- The call of PathBetween. No condition beyond those stated. -/
import Derived.Test.YthohhdcngdmbeaaBetweenLaw
import Derived.ProofKit
set_option linter.unusedVariables false
set_option linter.unusedSimpArgs false
namespace Go.Proofs.Ythohhdcngdmbeaa.H
open Go Go.VM
theorem tape_rows : ∀ {xs : List (List V)}, (∀ x ∈ xs, x.length = 1 ∧ ((fun y => ∃ z, y = [V.int .i64 z] ∧ (Lit.int .i64 z).wf = true) x)) → ∃ ks : List W3, xs = Rt ks
  | [], _ => ⟨[], rfl⟩
  | x :: xs, h => by
    obtain ⟨_, z, rfl, _⟩ := h x (by simp)
    obtain ⟨ks, rfl⟩ := tape_rows (fun y hy => h y (List.mem_cons_of_mem _ hy))
    exact ⟨⟨z⟩ :: ks, rfl⟩
theorem pathBetween_call {xs ys : List (List V)} (hx : xs.length ≤ maxLen) (hy : ys.length ≤ maxLen) (h : ∃ ks : List W3, xs = Rt ks) (h' : ∃ ks : List W3, ys = Rt ks) (p : Int) : call Try.prog X O0 100000 7 3 [.list 1 xs, .list 1 ys, .int .i64 p] [] = some (.bool true, []) := by
  obtain ⟨ks, rfl⟩ := h
  obtain ⟨ls, rfl⟩ := h'
  unfold maxLen at hx hy
  simp only [List.length_map] at hx hy
  exact F3_ok 0 (Rt ks) (Rt ls) p (.a0 true) (pathBetween_plain ks ls (by omega) (by omega) p)
end Go.Proofs.Ythohhdcngdmbeaa.H
