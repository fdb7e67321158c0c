/- ShapeNumbers in plain Lean. -/
import Derived.Test.YtifalphladcdcaaForm5
import Derived.Test.YtifalphladcdcaaVmAR
set_option linter.unusedVariables false
set_option linter.unusedSimpArgs false
namespace Go.Proofs.Ytifalphladcdcaa.H
open Go Go.VM
set_option maxRecDepth 100000
theorem known13 : F19 = some (.a0 true) := by kernel_rfl
theorem hows : L7_4 18446744073709551616 (.s0 0) = some .e1 := by kernel_rfl
theorem ns_loop (w k : Int) : ∀ (m i : Nat), i ≤ 20 → 20 < m + i → L7_2 m (.s0 w ((i : Int) - 1) k) = some (.e1 k)
  | 0, i, h1, h2 => by omega
  | m + 1, i, h1, h2 => by
    rw [L7_2_s0]
    by_cases h : i < 20
    · have hw : w64 ((i : Int) - 1 + 1) = ((i + 1 : Nat) : Int) - 1 := by rw [w64_in (by omega) (by omega)]; omega
      simp only [D7_2, PT.ev, PT.test, dite_eq_ite, if_pos (show (i : Int) - 1 < 19 by omega), forms_ok, Option.bind_some, Bool.not_true, Bool.false_eq_true, if_false, hw, N7_2.nx_s0]
      exact ns_loop w k m (i + 1) h (by omega)
    · simp only [D7_2, PT.ev, PT.test, dite_eq_ite, if_neg (show ¬ (i : Int) - 1 < 19 by omega), N7_2.nx_e1]
def wvs : List W2 := [⟨0⟩, ⟨1⟩, ⟨2⟩, ⟨3⟩, ⟨-1⟩, ⟨-3⟩, ⟨65536⟩, ⟨327687⟩, ⟨67108864⟩, ⟨-67108864⟩, ⟨1099511627776⟩]
theorem wvs_get (i : Nat) : ([[i64 (0 : Int)], [i64 (1 : Int)], [i64 (2 : Int)], [i64 (3 : Int)], [i64 (-1 : Int)], [i64 (-3 : Int)], [i64 (65536 : Int)], [i64 (327687 : Int)], [i64 (67108864 : Int)], [i64 (-67108864 : Int)], [i64 (1099511627776 : Int)]][i]?).bind W2.dec = wvs[i]? := by
  rcases i with _ | _ | _ | _ | _ | _ | _ | _ | _ | _ | _ | i <;> rfl
theorem ws_loop : ∀ (m i : Nat), i ≤ 11 → 11 < m + i → L7_0 m (.s0 i) = some .e1
  | 0, i, h1, h2 => by omega
  | m + 1, i, h1, h2 => by
    rw [L7_0_s0]
    by_cases h : i < 11
    · have hg : i < wvs.length := h
      have hn := fun w => ns_loop w i 18446744073709551616 0 (by omega) (by omega)
      rw [show ((0 : Nat) : Int) - 1 = -1 from rfl] at hn
      simp only [D7_0, PT.ev, PT.test, dite_eq_ite, if_pos (show (i : Int) < 11 by omega), if_pos (show (0 : Int) ≤ (i : Int) ∧ (i : Int) < 11 by omega), Nat.zero_add, Int.toNat_natCast, wvs_get, List.getElem?_eq_getElem hg, Option.bind_some, hn,
        wi (show (i : Int) < 9223372036854775807 by omega), N7_0.nx_s0]
      exact ws_loop m (i + 1) h (by omega)
    · simp only [D7_0, PT.ev, PT.test, dite_eq_ite, if_neg (show ¬ (i : Int) < 11 by omega), N7_0.nx_e1]
theorem shapeNumbers_plain : F7 = some (.a0 true) := by
  have h := ws_loop 18446744073709551616 0 (by omega) (by omega)
  rw [show ((0 : Nat) : Int) = 0 from rfl] at h
  simp only [F7, D7, PT.ev, PT.test, dite_eq_ite, h, hows, known13, Option.bind_some]
theorem shapeNumbers_call : UU 7 [] [] = some (.bool true, []) := F7_ok (.a0 true) shapeNumbers_plain
end Go.Proofs.Ytifalphladcdcaa.H
