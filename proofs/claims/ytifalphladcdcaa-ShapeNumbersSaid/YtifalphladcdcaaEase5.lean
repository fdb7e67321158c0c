/- Curves of time, how far what lies between two has gone, whether a key may be: in plain Lean over what the functions compute. Conditions: those stated. -/
import Derived.Test.YtifalphladcdcaaNum25
set_option linter.unusedVariables false
set_option linter.unusedSimpArgs false
namespace Go.Proofs.Ytifalphladcdcaa.H
open Go Go.VM
set_option maxRecDepth 100000
def bendv (a b t : Int) : Int :=
  add (add (mul (w64 (3 * mul (mul (w64 (65536 - cl t 0 65536)) (w64 (65536 - cl t 0 65536))) (cl t 0 65536))) a) (mul (w64 (3 * mul (mul (w64 (65536 - cl t 0 65536)) (cl t 0 65536)) (cl t 0 65536))) b)) (mul (mul (cl t 0 65536) (cl t 0 65536)) (cl t 0 65536))
theorem qbend (a b t : Int) : F121 a b t = some (.a0 (bendv a b t)) := by
  simp only [F121, D121, PT.ev, PT.test, dite_eq_ite, bnd_def, qclamp, qmul, qadd, Option.bind_some, bendv]
theorem rbend (a b t : Int) : F122 a b t = some (.a0 (bendv a b t)) := by
  simp only [F122, D122, PT.ev, PT.test, dite_eq_ite, bnd_def, rclamp, rmul, radd, Option.bind_some, bendv]
/-- A curve's time, halved so many times. -/
def halve (x X1 X2 : Int) : Nat → Int → Int → Int
  | 0, lo, _ => lo
  | n + 1, lo, hi => if bendv X1 X2 ((lo + hi) / 2) ≤ x then halve x X1 X2 n ((lo + hi) / 2) hi else halve x X1 X2 n lo ((lo + hi) / 2)
theorem qcurve_loop (x X1 Y1 X2 Y2 : Int) : ∀ (n m i : Nat) (lo hi : Int), 0 ≤ lo ∧ lo ≤ 65536 → 0 ≤ hi ∧ hi ≤ 65536 → i + m = 16 → m < n →
    L106_1 n (.s0 x lo hi i X1 Y1 X2 Y2) = some (.e0 (halve x X1 X2 m lo hi) X1 Y1 X2 Y2)
  | 0, m, i, lo, hi, _, _, h1, h2 => by omega
  | n + 1, 0, i, lo, hi, hl, hh, h1, h2 => by
    rw [L106_1_s0]
    simp only [D106_1, PT.ev, PT.test, dite_eq_ite, if_neg (show ¬ (i : Int) < 16 by omega), N106_1.nx_e0, halve]
  | n + 1, m + 1, i, lo, hi, hl, hh, h1, h2 => by
    rw [L106_1_s0]
    have e : Int.fdiv (w64 (lo + hi)) 2 = (lo + hi) / 2 := by rw [fd (by decide), w64_in (by omega) (by omega)]
    have e2 : w64 ((i : Int) + 1) = ((i + 1 : Nat) : Int) := by rw [w64_in (by omega) (by omega)]; omega
    simp only [D106_1, PT.ev, PT.test, dite_eq_ite, if_pos (show (i : Int) < 16 by omega), e, e2, qbend, Option.bind_some, halve]
    by_cases h : bendv X1 X2 ((lo + hi) / 2) ≤ x
    · rw [if_pos h, if_pos h, N106_1.nx_s0]
      exact qcurve_loop x X1 Y1 X2 Y2 n m (i + 1) _ _ (by omega) hh (by omega) (by omega)
    · rw [if_neg h, if_neg h, N106_1.nx_s0]
      exact qcurve_loop x X1 Y1 X2 Y2 n m (i + 1) _ _ hl (by omega) (by omega) (by omega)
theorem rcurve_loop (x X1 Y1 X2 Y2 : Int) : ∀ (n m i : Nat) (lo hi : Int), 0 ≤ lo ∧ lo ≤ 65536 → 0 ≤ hi ∧ hi ≤ 65536 → i + m = 16 → m < n →
    L107_0 n (.s0 x lo hi i X1 Y1 X2 Y2) = some (.e0 (halve x X1 X2 m lo hi) X1 Y1 X2 Y2)
  | 0, m, i, lo, hi, _, _, h1, h2 => by omega
  | n + 1, 0, i, lo, hi, hl, hh, h1, h2 => by
    rw [L107_0_s0]
    simp only [D107_0, PT.ev, PT.test, dite_eq_ite, if_neg (show ¬ (i : Int) < 16 by omega), N107_0.nx_e0, halve]
  | n + 1, m + 1, i, lo, hi, hl, hh, h1, h2 => by
    rw [L107_0_s0]
    have e : w64 (Int.tdiv (w64 (lo + hi)) 2) = (lo + hi) / 2 := by rw [w64_in (n := lo + hi) (by omega) (by omega), Int.tdiv_eq_ediv_of_nonneg (by omega), w64_in (by omega) (by omega)]
    have e2 : w64 ((i : Int) + 1) = ((i + 1 : Nat) : Int) := by rw [w64_in (by omega) (by omega)]; omega
    simp only [D107_0, PT.ev, PT.test, dite_eq_ite, if_pos (show (i : Int) < 16 by omega), e, e2, rbend, Option.bind_some, halve]
    by_cases h : bendv X1 X2 ((lo + hi) / 2) ≤ x
    · rw [if_pos h, if_pos h, N107_0.nx_s0]
      exact rcurve_loop x X1 Y1 X2 Y2 n m (i + 1) _ _ (by omega) hh (by omega) (by omega)
    · rw [if_neg h, if_neg h, N107_0.nx_s0]
      exact rcurve_loop x X1 Y1 X2 Y2 n m (i + 1) _ _ hl (by omega) (by omega) (by omega)
def curvev (X1 Y1 X2 Y2 x : Int) : Int := if x ≤ 0 then 0 else if x ≥ 65536 then 65536 else bendv Y1 Y2 (halve x X1 X2 16 0 65536)
theorem qcurve (X1 Y1 X2 Y2 x : Int) : F106 X1 Y1 X2 Y2 x = some (.a0 (curvev X1 Y1 X2 Y2 x)) := by
  have h := qcurve_loop x X1 Y1 X2 Y2 18446744073709551616 16 0 0 65536 (by decide) (by decide) (by decide) (by decide)
  rw [show ((0 : Nat) : Int) = 0 by rfl] at h
  simp only [F106, D106, PT.ev, PT.test, dite_eq_ite, curvev, h, Option.bind_some, qbend]
  split
  · rfl
  · split <;> rfl
theorem rcurve (X1 Y1 X2 Y2 x : Int) : F107 X1 Y1 X2 Y2 x = some (.a0 (curvev X1 Y1 X2 Y2 x)) := by
  have h := rcurve_loop x X1 Y1 X2 Y2 18446744073709551616 16 0 0 65536 (by decide) (by decide) (by decide) (by decide)
  rw [show ((0 : Nat) : Int) = 0 by rfl] at h
  simp only [F107, D107, PT.ev, PT.test, dite_eq_ite, curvev, h, Option.bind_some, rbend]
  split
  · rfl
  · split <;> rfl
def goesv (how X1 Y1 X2 Y2 p : Int) : Int := if how = 0 then (if p ≥ 65536 then 65536 else 0) else if how = 1 then p else if how = 2 then curvev X1 Y1 X2 Y2 p else 0
theorem qgoes (how X1 Y1 X2 Y2 p : Int) : F71 how X1 Y1 X2 Y2 p = some (.a0 (goesv how X1 Y1 X2 Y2 p)) := by
  simp only [F71, D71, PT.ev, PT.test, dite_eq_ite, goesv, qcurve, Option.bind_some, beq_iff_eq]
  by_cases h0 : how = 0
  · subst h0
    simp only [if_true, if_neg (show ¬ (0 : Int) = 1 by decide), if_neg (show ¬ (0 : Int) = 2 by decide)]
    split <;> rfl
  · simp only [h0, if_false]
    split
    · rfl
    · split <;> rfl
theorem rgoes (how X1 Y1 X2 Y2 p : Int) : F73 how X1 Y1 X2 Y2 p = some (.a0 (goesv how X1 Y1 X2 Y2 p)) := by
  simp only [F73, D73, PT.ev, PT.test, dite_eq_ite, goesv, rcurve, Option.bind_some, beq_iff_eq]
  by_cases h0 : how = 0
  · subst h0
    simp only [if_true, if_neg (show ¬ (0 : Int) = 1 by decide), if_neg (show ¬ (0 : Int) = 2 by decide)]
    split <;> rfl
  · simp only [h0, if_false]
    split
    · rfl
    · split <;> rfl
def partv (a b t : Int) : Int := if hd t ≤ hd a then 0 else if hd t ≥ hd b then 65536 else w64 (Int.tdiv (w64 (w64 (hd t - hd a) * 65536)) (w64 (hd b - hd a)))
theorem qpart (a b t : Int) : F72 a b t = some (.a0 (partv a b t)) := by
  have h1 := hd_bd a
  have h2 := hd_bd b
  have h3 := hd_bd t
  simp only [F72, D72, PT.ev, PT.test, dite_eq_ite, bnd_def, qhold, partv]
  split
  · rfl
  · split
    · rfl
    · rw [if_neg (by rw [w64_in (by omega) (by omega)]; omega)]
theorem rpart (a b t : Int) : F74 a b t = some (.a0 (partv a b t)) := by
  have h1 := hd_bd a
  have h2 := hd_bd b
  have h3 := hd_bd t
  simp only [F74, D74, PT.ev, PT.test, dite_eq_ite, bnd_def, rhold, partv]
  split
  · rfl
  · split
    · rfl
    · rw [if_neg (by rw [w64_in (by omega) (by omega)]; omega)]
end Go.Proofs.Ytifalphladcdcaa.H
