/- The call of PathMaps. No condition beyond those stated. -/
import Derived.Test.YthohhdcngdmbeaaMapsLaw
import Derived.ProofKit
set_option linter.unusedVariables false
set_option linter.unusedSimpArgs false
namespace Go.Proofs.Ythohhdcngdmbeaa.H
open Go Go.VM
theorem tape_rows : ∀ {xs : List (List V)}, (∀ x ∈ xs, x.length = 1 ∧ ((fun y => ∃ z, y = [V.int .i64 z] ∧ (Lit.int .i64 z).wf = true) x)) → ∃ ks : List W3, xs = Rt ks
  | [], _ => ⟨[], rfl⟩
  | x :: xs, h => by
    obtain ⟨_, z, rfl, _⟩ := h x (by simp)
    obtain ⟨ks, rfl⟩ := tape_rows (fun y hy => h y (List.mem_cons_of_mem _ hy))
    exact ⟨⟨z⟩ :: ks, rfl⟩
theorem pathMaps_call {xs : List (List V)} (hx : xs.length ≤ maxLen) (h : ∃ ks : List W3, xs = Rt ks) (a b : Int) : call Try.prog X O0 100000 8 8 [.list 1 xs, .int .i64 a, .int .i64 b] [] = some (.bool true, []) := by
  obtain ⟨ks, rfl⟩ := h
  unfold maxLen at hx
  simp only [List.length_map] at hx
  exact F8_ok 0 (Rt ks) a b (.a0 true) (pathMaps_plain ks (by omega) a b)
end Go.Proofs.Ythohhdcngdmbeaa.H
