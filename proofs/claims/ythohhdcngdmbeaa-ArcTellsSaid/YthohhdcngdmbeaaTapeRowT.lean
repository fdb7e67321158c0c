/- What a tape is, laid open. No condition beyond those stated. -/
import Derived.Test.YthohhdcngdmbeaaArcBaseT
import Derived.ProofKit
set_option linter.unusedVariables false
set_option linter.unusedSimpArgs false
namespace Go.Proofs.Ythohhdcngdmbeaa.H
open Go Go.VM
theorem tape_rows : ∀ {xs : List (List V)}, (∀ x ∈ xs, x.length = 1 ∧ ((fun y => ∃ z, y = [V.int .i64 z] ∧ (Lit.int .i64 z).wf = true) x)) → ∃ ks : List W3, xs = Rt ks
  | [], _ => ⟨[], rfl⟩
  | x :: xs, h => by
    obtain ⟨_, z, rfl, _⟩ := h x (by simp)
    obtain ⟨ks, rfl⟩ := tape_rows (fun y hy => h y (List.mem_cons_of_mem _ hy))
    exact ⟨⟨z⟩ :: ks, rfl⟩
end Go.Proofs.Ythohhdcngdmbeaa.H
