/- The functions of colours: what the least of them compute. No condition beyond those stated. -/
import Derived.Test.YtojigbcgmneiiaaVT
set_option linter.unusedVariables false
set_option linter.unusedSimpArgs false
namespace Go.Proofs.Ytojigbcgmneiiaa.H
open Go Go.VM
noncomputable abbrev X : Cx := VT.X fun _ _ => false
def clamp (a lo hi : Int) : Int := if a < lo then lo else if a > hi then hi else a
def O0 : Oracle := fun _ _ _ => none
theorem os0 : OS Try.prog O0 := os_none _
/-- An oracle that says more, but nothing that the machine does not answer with the lesser one. -/
theorem os_add {O O' : Oracle} (hO : OS Try.prog O) (h : ∀ f args σ r, O' f args σ = some r → O f args σ = some r ∨ ∃ n, call Try.prog X O 100000 n f args σ = some r) : OS Try.prog O' := by
  intro f args σ r σ' hr
  rcases h f args σ (r, σ') hr with h1 | ⟨n, h1⟩
  · exact hO f args σ r σ' h1
  · exact call_ok (VT.X_ok _) VT.mixed hO 100000 n f args σ r σ' h1
end Go.Proofs.Ytojigbcgmneiiaa.H
