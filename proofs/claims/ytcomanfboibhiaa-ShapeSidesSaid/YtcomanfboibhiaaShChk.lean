/- The angles of stars. No condition. -/
import Derived.Test.YtcomanfboibhiaaQbH
set_option linter.unusedVariables false
set_option linter.unusedSimpArgs false
namespace Go.Proofs.Ytcomanfboibhiaa.H
open Go Go.VM
set_option maxRecDepth 100000
def ang (k j : Nat) : Int := w64 (w64 (Int.tdiv (w64 ((j : Int) * 11796480)) (k : Int)) - 5898240)
def chk2 (x : Option A40) (y : Option A41) : Bool :=
  match x, y with
  | some (.a0 c), some (.a0 s) => decide (-65536 ≤ c) && decide (c ≤ 65536) && decide (-65536 ≤ s) && decide (s ≤ 65536) && decide (4252017623 ≤ c * c + s * s) && decide (c * c + s * s ≤ 4337916969)
  | _, _ => false
def chk (k j : Nat) : Bool := chk2 (F40 (ang k j)) (F41 (ang k j))
theorem chk_all : ((List.range 15).all fun k => (List.range (2 * (k + 2))).all fun j => chk (k + 2) j) = true := by kernel_rfl
theorem chk_of : ∀ (x : Option A40) (y : Option A41), chk2 x y = true → ∃ c s, x = some (.a0 c) ∧ y = some (.a0 s) ∧ (-65536 ≤ c ∧ c ≤ 65536) ∧ (-65536 ≤ s ∧ s ≤ 65536) ∧ 4252017623 ≤ c * c + s * s ∧ c * c + s * s ≤ 4337916969
  | none, _, h => by cases h
  | some (.a0 _), none, h => by cases h
  | some (.a0 c), some (.a0 s), h => by
    simp only [chk2, Bool.and_eq_true, decide_eq_true_eq] at h
    exact ⟨c, s, rfl, rfl, by omega, by omega, by omega, by omega⟩
theorem known13 : F21 = some (.a0 true) := by kernel_rfl
end Go.Proofs.Ytcomanfboibhiaa.H
