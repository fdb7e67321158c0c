/- The functions of colours: clamps, numbers within bounds. No condition beyond those stated. -/
import Derived.Test.YtcomanfboibhiaaHA
set_option linter.unusedVariables false
set_option linter.unusedSimpArgs false
namespace Go.Proofs.Ytcomanfboibhiaa.H
open Go Go.VM
theorem c33_0 (n : Nat) (a lo hi : Int) (h0 : decide (a < lo) = true) : call Try.prog X O0 100000 (n + 4) 33 [.int .i64 a, .int .i64 lo, .int .i64 hi] [] = some (V.int IntKind.i64 lo, []) :=
  call_path (gs := [.t]) (q := (decide (a < lo) = true) ∧ True) rfl rfl (by kernel_rfl) ⟨h0, trivial⟩
theorem c33_1 (n : Nat) (a lo hi : Int) (h0 : decide (a < lo) = false) (h1 : decide (a > hi) = true) : call Try.prog X O0 100000 (n + 4) 33 [.int .i64 a, .int .i64 lo, .int .i64 hi] [] = some (V.int IntKind.i64 hi, []) :=
  call_path (gs := [.f, .t]) (q := (decide (a < lo) = false) ∧ (decide (a > hi) = true) ∧ True) rfl rfl (by kernel_rfl) ⟨h0, h1, trivial⟩
theorem c33_2 (n : Nat) (a lo hi : Int) (h0 : decide (a < lo) = false) (h1 : decide (a > hi) = false) : call Try.prog X O0 100000 (n + 4) 33 [.int .i64 a, .int .i64 lo, .int .i64 hi] [] = some (V.int IntKind.i64 a, []) :=
  call_path (gs := [.f, .f]) (q := (decide (a < lo) = false) ∧ (decide (a > hi) = false) ∧ True) rfl rfl (by kernel_rfl) ⟨h0, h1, trivial⟩
theorem c43_0 (n : Nat) (a lo hi : Int) (h0 : decide (a < lo) = true) : call Try.prog X O0 100000 (n + 4) 43 [.int .i64 a, .int .i64 lo, .int .i64 hi] [] = some (V.int IntKind.i64 lo, []) :=
  call_path (gs := [.t]) (q := (decide (a < lo) = true) ∧ True) rfl rfl (by kernel_rfl) ⟨h0, trivial⟩
theorem c43_1 (n : Nat) (a lo hi : Int) (h0 : decide (a < lo) = false) (h1 : decide (a > hi) = true) : call Try.prog X O0 100000 (n + 4) 43 [.int .i64 a, .int .i64 lo, .int .i64 hi] [] = some (V.int IntKind.i64 hi, []) :=
  call_path (gs := [.f, .t]) (q := (decide (a < lo) = false) ∧ (decide (a > hi) = true) ∧ True) rfl rfl (by kernel_rfl) ⟨h0, h1, trivial⟩
theorem c43_2 (n : Nat) (a lo hi : Int) (h0 : decide (a < lo) = false) (h1 : decide (a > hi) = false) : call Try.prog X O0 100000 (n + 4) 43 [.int .i64 a, .int .i64 lo, .int .i64 hi] [] = some (V.int IntKind.i64 a, []) :=
  call_path (gs := [.f, .f]) (q := (decide (a < lo) = false) ∧ (decide (a > hi) = false) ∧ True) rfl rfl (by kernel_rfl) ⟨h0, h1, trivial⟩
theorem c11_0 (n : Nat) (a : Int) (h0 : decide (a ≥ 0) = true) (h1 : decide (a ≤ 65536) = true) : call Try.prog X O0 100000 (n + 4) 11 [.int .i64 a, .int .i64 0, .int .i64 65536] [] = some (V.int IntKind.i64 a, []) :=
  call_path (gs := [.t, .t, .t, .t, .t]) (q := (decide (a ≥ 0) = true) ∧ (decide (a ≥ 0) = true) ∧ (decide (a ≥ 0) = true) ∧ (decide (a ≥ 0) = true) ∧ (decide (a ≤ 65536) = true) ∧ True) rfl rfl (by kernel_rfl) ⟨h0, h0, h0, h0, h1, trivial⟩
theorem c11_1 (n : Nat) (a : Int) (h0 : decide (a ≥ 0) = true) (h1 : decide (a ≤ 65536) = false) (h2 : decide (Int.tmod a (IntKind.wrap IntKind.i64 (IntKind.wrap IntKind.i64 (65536 - 0) + 1)) < 0) = true) : call Try.prog X O0 100000 (n + 4) 11 [.int .i64 a, .int .i64 0, .int .i64 65536] [] = some (V.int IntKind.i64 (IntKind.wrap IntKind.i64 (0 + IntKind.wrap IntKind.i64 (IntKind.wrap IntKind.i64 (IntKind.wrap IntKind.i64 (Int.tmod a (IntKind.wrap IntKind.i64 (IntKind.wrap IntKind.i64 (65536 - 0) + 1)) + 65536) - 0) + 1))), []) :=
  call_path (gs := [.t, .t, .t, .t, .f, .a, .t]) (q := (decide (a ≥ 0) = true) ∧ (decide (a ≥ 0) = true) ∧ (decide (a ≥ 0) = true) ∧ (decide (a ≥ 0) = true) ∧ (decide (a ≤ 65536) = false) ∧ (decide (Int.tmod a (IntKind.wrap IntKind.i64 (IntKind.wrap IntKind.i64 (65536 - 0) + 1)) < 0) = true) ∧ True) rfl rfl (by kernel_rfl) ⟨h0, h0, h0, h0, h1, h2, trivial⟩
theorem c11_2 (n : Nat) (a : Int) (h0 : decide (a ≥ 0) = true) (h1 : decide (a ≤ 65536) = false) (h2 : decide (Int.tmod a (IntKind.wrap IntKind.i64 (IntKind.wrap IntKind.i64 (65536 - 0) + 1)) < 0) = false) : call Try.prog X O0 100000 (n + 4) 11 [.int .i64 a, .int .i64 0, .int .i64 65536] [] = some (V.int IntKind.i64 (IntKind.wrap IntKind.i64 (0 + Int.tmod a (IntKind.wrap IntKind.i64 (IntKind.wrap IntKind.i64 (65536 - 0) + 1)))), []) :=
  call_path (gs := [.t, .t, .t, .t, .f, .a, .f]) (q := (decide (a ≥ 0) = true) ∧ (decide (a ≥ 0) = true) ∧ (decide (a ≥ 0) = true) ∧ (decide (a ≥ 0) = true) ∧ (decide (a ≤ 65536) = false) ∧ (decide (Int.tmod a (IntKind.wrap IntKind.i64 (IntKind.wrap IntKind.i64 (65536 - 0) + 1)) < 0) = false) ∧ True) rfl rfl (by kernel_rfl) ⟨h0, h0, h0, h0, h1, h2, trivial⟩
theorem c11_3 (n : Nat) (a : Int) (h0 : decide (a ≥ 0) = false) (h1 : decide (Int.tmod a (IntKind.wrap IntKind.i64 (IntKind.wrap IntKind.i64 (65536 - 0) + 1)) < 0) = true) : call Try.prog X O0 100000 (n + 4) 11 [.int .i64 a, .int .i64 0, .int .i64 65536] [] = some (V.int IntKind.i64 (IntKind.wrap IntKind.i64 (0 + IntKind.wrap IntKind.i64 (IntKind.wrap IntKind.i64 (IntKind.wrap IntKind.i64 (Int.tmod a (IntKind.wrap IntKind.i64 (IntKind.wrap IntKind.i64 (65536 - 0) + 1)) + 65536) - 0) + 1))), []) :=
  call_path (gs := [.f, .f, .f, .f, .a, .a, .t]) (q := (decide (a ≥ 0) = false) ∧ (decide (a ≥ 0) = false) ∧ (decide (a ≥ 0) = false) ∧ (decide (a ≥ 0) = false) ∧ (decide (Int.tmod a (IntKind.wrap IntKind.i64 (IntKind.wrap IntKind.i64 (65536 - 0) + 1)) < 0) = true) ∧ True) rfl rfl (by kernel_rfl) ⟨h0, h0, h0, h0, h1, trivial⟩
theorem c11_4 (n : Nat) (a : Int) (h0 : decide (a ≥ 0) = false) (h1 : decide (Int.tmod a (IntKind.wrap IntKind.i64 (IntKind.wrap IntKind.i64 (65536 - 0) + 1)) < 0) = false) : call Try.prog X O0 100000 (n + 4) 11 [.int .i64 a, .int .i64 0, .int .i64 65536] [] = some (V.int IntKind.i64 (IntKind.wrap IntKind.i64 (0 + Int.tmod a (IntKind.wrap IntKind.i64 (IntKind.wrap IntKind.i64 (65536 - 0) + 1)))), []) :=
  call_path (gs := [.f, .f, .f, .f, .a, .a, .f]) (q := (decide (a ≥ 0) = false) ∧ (decide (a ≥ 0) = false) ∧ (decide (a ≥ 0) = false) ∧ (decide (a ≥ 0) = false) ∧ (decide (Int.tmod a (IntKind.wrap IntKind.i64 (IntKind.wrap IntKind.i64 (65536 - 0) + 1)) < 0) = false) ∧ True) rfl rfl (by kernel_rfl) ⟨h0, h0, h0, h0, h1, trivial⟩
theorem clamp33 (n : Nat) (a lo hi : Int) : call Try.prog X O0 100000 (n + 4) 33 [.int .i64 a, .int .i64 lo, .int .i64 hi] [] = some (.int .i64 (clamp a lo hi), []) := by
  unfold clamp
  split
  · exact c33_0 n a lo hi (by simp [*])
  · split
    · exact c33_1 n a lo hi (by simp [*]) (by simp [*])
    · exact c33_2 n a lo hi (by simp [*]) (by simp [*])
theorem clamp43 (n : Nat) (a lo hi : Int) : call Try.prog X O0 100000 (n + 4) 43 [.int .i64 a, .int .i64 lo, .int .i64 hi] [] = some (.int .i64 (clamp a lo hi), []) := by
  unfold clamp
  split
  · exact c43_0 n a lo hi (by simp [*])
  · split
    · exact c43_1 n a lo hi (by simp [*]) (by simp [*])
    · exact c43_2 n a lo hi (by simp [*]) (by simp [*])
theorem wrap_in {n : Int} (h : -9223372036854775808 ≤ n) (h' : n ≤ 9223372036854775807) : IntKind.wrap .i64 n = n := by
  simp [IntKind.wrap, IntKind.bits, IntKind.signed]; omega
theorem wrap_u8 {n : Int} (h : 0 ≤ n) (h' : n ≤ 255) : IntKind.wrap .u8 n = n := by
  simp [IntKind.wrap, IntKind.bits, IntKind.signed]; omega
/-- A number brought within 0 and One. -/
def within (a : Int) : Int := if 0 ≤ a ∧ a ≤ 65536 then a else if Int.tmod a 65537 < 0 then Int.tmod a 65537 + 65537 else Int.tmod a 65537
theorem tmod_bd (a : Int) : -65536 ≤ Int.tmod a 65537 ∧ Int.tmod a 65537 ≤ 65536 := by
  have h1 := Int.tmod_lt_of_pos a (show (0 : Int) < 65537 by decide)
  have h2 : -65537 < Int.tmod a 65537 := by
    rcases Int.le_total 0 a with h | h
    · have := Int.tmod_nonneg 65537 h; omega
    · have := Int.tmod_nonneg 65537 (show 0 ≤ -a by omega)
      have h4 := Int.tmod_lt_of_pos (-a) (show (0 : Int) < 65537 by decide)
      rw [Int.neg_tmod] at this h4
      omega
  omega
theorem within_bd (a : Int) : 0 ≤ within a ∧ within a ≤ 65536 := by
  unfold within
  have := tmod_bd a
  split <;> (try split) <;> omega
theorem w65537 : IntKind.wrap .i64 (IntKind.wrap .i64 (65536 - 0) + 1) = 65537 := by decide
theorem within11 (n : Nat) (a : Int) : call Try.prog X O0 100000 (n + 4) 11 [.int .i64 a, .int .i64 0, .int .i64 65536] [] = some (.int .i64 (within a), []) := by
  have hb := tmod_bd a
  by_cases h0 : a ≥ 0
  · by_cases h1 : a ≤ 65536
    · rw [c11_0 n a (by simp [*]) (by simp [*])]
      unfold within; rw [if_pos ⟨h0, h1⟩]
    · by_cases h2 : Int.tmod a 65537 < 0
      · rw [c11_1 n a (by simp [*]) (by simp [*]) (by rw [w65537]; simp [h2])]
        unfold within; rw [if_neg (by omega), if_pos h2, w65537]
        rw [wrap_in (n := a.tmod 65537 + 65536) (by omega) (by omega), wrap_in (n := a.tmod 65537 + 65536 - 0) (by omega) (by omega), wrap_in (n := a.tmod 65537 + 65536 - 0 + 1) (by omega) (by omega), wrap_in (by omega) (by omega)]
        congr 3; omega
      · rw [c11_2 n a (by simp [*]) (by simp [*]) (by rw [w65537]; simp; omega)]
        unfold within; rw [if_neg (by omega), if_neg h2, w65537]
        rw [wrap_in (by omega) (by omega)]
        congr 3; omega
  · by_cases h2 : Int.tmod a 65537 < 0
    · rw [c11_3 n a (by simp; omega) (by rw [w65537]; simp [h2])]
      unfold within; rw [if_neg (by omega), if_pos h2, w65537]
      rw [wrap_in (n := a.tmod 65537 + 65536) (by omega) (by omega), wrap_in (n := a.tmod 65537 + 65536 - 0) (by omega) (by omega), wrap_in (n := a.tmod 65537 + 65536 - 0 + 1) (by omega) (by omega), wrap_in (by omega) (by omega)]
      congr 3; omega
    · rw [c11_4 n a (by simp; omega) (by rw [w65537]; simp; omega)]
      unfold within; rw [if_neg (by omega), if_neg h2, w65537]
      rw [wrap_in (by omega) (by omega)]
      congr 3; omega
def O1 : Oracle := fun f args σ => match f, args, σ with
  | 33, [.int .i64 a, .int .i64 lo, .int .i64 hi], [] => some (.int .i64 (clamp a lo hi), [])
  | 43, [.int .i64 a, .int .i64 lo, .int .i64 hi], [] => some (.int .i64 (clamp a lo hi), [])
  | 11, [.int .i64 a, .int .i64 0, .int .i64 65536], [] => some (.int .i64 (within a), [])
  | _, _, _ => none
theorem os1 : OS Try.prog O1 := by
  refine os_add os0 fun f args σ r h => .inr ⟨4, ?_⟩
  unfold O1 at h
  split at h
  · cases h; exact clamp33 0 _ _ _
  · cases h; exact clamp43 0 _ _ _
  · cases h; exact within11 0 _
  · cases h
end Go.Proofs.Ytcomanfboibhiaa.H
