/- The call of DashWhole. No condition beyond those stated. -/
import Derived.Test.YtojigbcgmneiiaaDashLaw
import Derived.ProofKit
set_option linter.unusedVariables false
set_option linter.unusedSimpArgs false
namespace Go.Proofs.Ytojigbcgmneiiaa.H
open Go Go.VM
theorem tape_rows : ∀ {xs : List (List V)}, (∀ x ∈ xs, x.length = 1 ∧ ((fun y => ∃ z, y = [V.int .i64 z] ∧ (Lit.int .i64 z).wf = true) x)) → ∃ ks : List W3, xs = Rt ks
  | [], _ => ⟨[], rfl⟩
  | x :: xs, h => by
    obtain ⟨_, z, rfl, _⟩ := h x (by simp)
    obtain ⟨ks, rfl⟩ := tape_rows (fun y hy => h y (List.mem_cons_of_mem _ hy))
    exact ⟨⟨z⟩ :: ks, rfl⟩
theorem dashWhole_call {xs : List (List V)} (hx : xs.length ≤ maxLen) (h : ∃ ks : List W3, xs = Rt ks) : call Try.prog X O0 100000 9 8 [.list 1 xs] [] = some (.bool true, []) := by
  obtain ⟨ks, rfl⟩ := h
  unfold maxLen at hx
  simp only [List.length_map] at hx
  exact F8_ok 0 (Rt ks) (.a0 true) (dashWhole_plain ks (by omega))
end Go.Proofs.Ytojigbcgmneiiaa.H
