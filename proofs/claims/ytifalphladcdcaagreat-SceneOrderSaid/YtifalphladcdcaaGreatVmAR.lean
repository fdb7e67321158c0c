/- A law's row, by what a call of some depth answers. No condition beyond those stated. -/
import Derived.Test.YtifalphladcdcaaGreatVmAP
set_option linter.unusedVariables false
set_option linter.unusedSimpArgs false
namespace Go.VM
open Go.RowKit (Below)
theorem open_argsU {P : Program} {X : Cx} (hX : X.OK P) (hm : P.follows .mixedOrders = true) {O : Oracle} (hO : OS P O) {N f : Nat} {args : List V} {σ' : Store} {b : Bool} (h : UC P X O N f args [] = some (.bool b, σ')) (w : World) (vs : Array Value)
    (ha : Args w args vs.toList) : Calls P f vs w fun e w' => e = .returned (.bool b) ∧ Below w.heap.size w w' := by
  obtain ⟨n, hn⟩ := UC_to h
  exact open_args hX hm hO hn w vs ha
theorem closed_okU {P : Program} {X : Cx} (hX : X.OK P) (hm : P.follows .mixedOrders = true) {O : Oracle} (hO : OS P O) {N f : Nat} {σ' : Store} {b : Bool} (h : UC P X O N f [] [] = some (.bool b, σ')) (w : World) :
    Calls P f #[] w fun e w' => e = .returned (.bool b) ∧ Below w.heap.size w w' := by
  obtain ⟨n, hn⟩ := UC_to h
  exact closed_ok hX hm hO hn w
end Go.VM
