/- Rows as lists of records; 64 bits. Conditions: those stated. -/
import Derived.Test.YtifalphladcdcaaP5e
set_option linter.unusedVariables false
set_option linter.unusedSimpArgs false
namespace Go.Proofs.Ytifalphladcdcaa.H
open Go Go.VM
set_option maxRecDepth 100000
abbrev Rt (ks : List W3) : List (List V) := ks.map W3.cells
abbrev Rp (ks : List W26) : List (List V) := ks.map W26.cells
theorem rt_get (ks : List W3) (i : Nat) : ((Rt ks)[i]?).bind W3.dec = ks[i]? := by
  simp only [Rt, List.getElem?_map]
  cases ks[i]? <;> rfl
theorem rp_get (ks : List W26) (i : Nat) : ((Rp ks)[i]?).bind W26.dec = ks[i]? := by
  simp only [Rp, List.getElem?_map]
  cases ks[i]? <;> rfl
theorem bnd_def {α β : Type} (x : α) (f : α → β) : bnd x f = f x := rfl
theorem w64_eq (n : Int) : w64 n = ((n + 9223372036854775808) % 18446744073709551616) - 9223372036854775808 := by
  simp [IntKind.wrap, IntKind.bits, IntKind.signed]; omega
theorem w64_in {n : Int} (h : -9223372036854775808 ≤ n) (h' : n ≤ 9223372036854775807) : w64 n = n := by
  rw [w64_eq]; omega
theorem u64w (x : Int) : IntKind.u64.wrap x = x % 18446744073709551616 := by simp [IntKind.wrap, IntKind.bits, IntKind.signed]
theorem u64id {x : Int} (h : 0 ≤ x) (h' : x < 18446744073709551616) : IntKind.u64.wrap x = x := by rw [u64w]; omega
end Go.Proofs.Ytifalphladcdcaa.H
