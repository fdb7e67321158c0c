/- A law of colours, closed: what it computes is true. No condition. -/
import Derived.Test.YtcomanfboibhiaaHNa
set_option linter.unusedVariables false
set_option linter.unusedSimpArgs false
namespace Go.Proofs.Ytcomanfboibhiaa.H
open Go Go.VM
set_option maxRecDepth 10000
def Q7 (a : Int) : S := ⟨u 7 ++ [.int .i64 a] ++ u 91, []⟩
def S7 : S := ⟨[.undef, .int .i64 272] ++ u 5 ++ [.int .i64 0] ++ u 2 ++ [.int .i64 272, .bool false] ++ u 87, []⟩
def E7 : S := ⟨u 7 ++ [.int .i64 256] ++ u 36 ++ [.int .i64 256, .bool false] ++ u 53, []⟩
theorem luma_grey {a : Int} (h : 0 ≤ a) (h' : a < 256) : (lumaR (IntKind.wrap .u8 a) (IntKind.wrap .u8 a) (IntKind.wrap .u8 a) != a) = false := by
  have e : lumaR (IntKind.wrap .u8 a) (IntKind.wrap .u8 a) (IntKind.wrap .u8 a) = a := by
    unfold lumaR
    rw [wrap_u8 h (by omega), wrap_in (n := a) (by omega) (by omega), wrap_in (n := 77 * a) (by omega) (by omega), wrap_in (n := 150 * a) (by omega) (by omega), wrap_in (n := 29 * a) (by omega) (by omega), wrap_in (n := 77 * a + 150 * a) (by omega) (by omega), wrap_in (n := 77 * a + 150 * a + 29 * a) (by omega) (by omega), wrap_in (n := 77 * a + 150 * a + 29 * a + 128) (by omega) (by omega)]
    rw [Int.tdiv_eq_ediv_of_nonneg (by omega), wrap_in (by omega) (by omega)]
    omega
  simp [e]
theorem q7_on (a : Int) (h : 0 ≤ a) (h' : a < 256) (n : Nat) : L6 6 (n + 1) (Q7 a) = L6 6 n (Q7 (IntKind.wrap .i64 (a + 1))) :=
  have g := luma_grey h h'
  round_on (gs := [.t, .a, .f, .f, .f, .f, .f, .f, .f, .a, .f, .f, .f, .f, .f, .f, .f, .a, .f, .f, .f]) (q := (decide (a < 256) = true) ∧ ((lumaR (IntKind.wrap .u8 a) (IntKind.wrap .u8 a) (IntKind.wrap .u8 a) != a) = false) ∧ ((lumaR (IntKind.wrap .u8 a) (IntKind.wrap .u8 a) (IntKind.wrap .u8 a) != a) = false) ∧ ((lumaR (IntKind.wrap .u8 a) (IntKind.wrap .u8 a) (IntKind.wrap .u8 a) != a) = false) ∧ ((lumaR (IntKind.wrap .u8 a) (IntKind.wrap .u8 a) (IntKind.wrap .u8 a) != a) = false) ∧ ((lumaR (IntKind.wrap .u8 a) (IntKind.wrap .u8 a) (IntKind.wrap .u8 a) != a) = false) ∧ ((lumaR (IntKind.wrap .u8 a) (IntKind.wrap .u8 a) (IntKind.wrap .u8 a) != a) = false) ∧ ((lumaR (IntKind.wrap .u8 a) (IntKind.wrap .u8 a) (IntKind.wrap .u8 a) != a) = false) ∧ ((lumaR (IntKind.wrap .u8 a) (IntKind.wrap .u8 a) (IntKind.wrap .u8 a) != a) = false) ∧ ((lumaR (IntKind.wrap .u8 a) (IntKind.wrap .u8 a) (IntKind.wrap .u8 a) != a) = false) ∧ ((lumaR (IntKind.wrap .u8 a) (IntKind.wrap .u8 a) (IntKind.wrap .u8 a) != a) = false) ∧ ((lumaR (IntKind.wrap .u8 a) (IntKind.wrap .u8 a) (IntKind.wrap .u8 a) != a) = false) ∧ ((lumaR (IntKind.wrap .u8 a) (IntKind.wrap .u8 a) (IntKind.wrap .u8 a) != a) = false) ∧ ((lumaR (IntKind.wrap .u8 a) (IntKind.wrap .u8 a) (IntKind.wrap .u8 a) != a) = false) ∧ ((lumaR (IntKind.wrap .u8 a) (IntKind.wrap .u8 a) (IntKind.wrap .u8 a) != a) = false) ∧ ((lumaR (IntKind.wrap .u8 a) (IntKind.wrap .u8 a) (IntKind.wrap .u8 a) != a) = false) ∧ ((lumaR (IntKind.wrap .u8 a) (IntKind.wrap .u8 a) (IntKind.wrap .u8 a) != a) = false) ∧ ((lumaR (IntKind.wrap .u8 a) 0 (IntKind.wrap .u8 (IntKind.wrap .i64 (a * 7))) != lumaR (IntKind.wrap .u8 a) 0 (IntKind.wrap .u8 (IntKind.wrap .i64 (a * 7)))) = false) ∧ True) (fun _ => false) (by kernel_rfl) ⟨by simpa using h', g, g, g, g, g, g, g, g, g, g, g, g, g, g, g, g, bne_self_eq_false _, trivial⟩ n
theorem q7_off (n : Nat) : L6 6 (n + 1) (Q7 256) = some (.exit 6, E7) := round_off (gs := []) (q := True) (fun _ => false) (by kernel_rfl) trivial n
theorem q7_all (k : Nat) (hk : k ≤ 256) (n : Nat) : L6 6 (n + k) (Q7 (256 - k)) = L6 6 n (Q7 256) := by
  induction k with
  | zero => simp
  | succ k ih =>
    rw [← Nat.add_assoc, q7_on _ (by omega) (by omega), wrap_in (by omega) (by omega), show (256 : Int) - ((k + 1 : Nat) : Int) + 1 = 256 - (k : Int) by omega]
    exact ih (by omega)
theorem run7 : R6 6 S7 = some (.exit 6, E7) := by
  refine (loopRun_from _).trans ?_
  rw [show prep 0 (X.keep 6 6) S7 = Q7 (256 - ((256 : Nat) : Int)) by kernel_rfl]
  exact (q7_all 256 (Nat.le_refl _) 99744).trans (q7_off 99743)
theorem hueNumbers : call Try.prog X O3 100000 12 6 [] [] = some (.bool true, []) :=
  call_pathL (gs := [.lp (.exit 0) E6, .lp (.exit 6) E7]) (q := (R6 0 S6 = some (.exit 0, E6)) ∧ (R6 6 S7 = some (.exit 6, E7)) ∧ True) (fun k => Nat.beq k 0 || Nat.beq k 6) rfl rfl (by kernel_rfl) ⟨run6, run7, trivial⟩
end Go.Proofs.Ytcomanfboibhiaa.H
