/- The root that is told bit by bit is no greater than it may; a side is no longer than its two ways together. Conditions: those stated. -/
import Derived.Test.YtojigbcgmneiiaaArcBase3
set_option linter.unusedVariables false
set_option linter.unusedSimpArgs false
namespace Go.Proofs.Ytojigbcgmneiiaa.H
open Go Go.VM
set_option maxRecDepth 100000
theorem sq_le (a : Nat) : ∀ (n x m : Nat) (r : Int), n ≤ 32 → x < 4294967296 → x * x ≤ a → L86_0 m (a : Int) (x : Int) (((2 ^ n / 2 : Nat) : Int)) = some (.e0 r) → 0 ≤ r ∧ r * r ≤ a
  | _, x, 0, r, _, _, _, h => by cases h
  | 0, x, m + 1, r, _, hx, hs, h => by
    rw [L86_0, if_neg (by decide)] at h
    cases h
    refine ⟨by omega, ?_⟩
    rw [← Int.natCast_mul]; exact_mod_cast hs
  | n + 1, x, m + 1, r, hn, hx, hs, h => by
    have hp : 0 < 2 ^ n := Nat.two_pow_pos n
    have hq : 2 ^ n ≤ 2 ^ 31 := Nat.pow_le_pow_right (by decide) (by omega)
    have e : 2 ^ (n + 1) / 2 = 2 ^ n := by rw [Nat.pow_succ]; omega
    rw [e] at h
    obtain ⟨o1, o2, o3, o4⟩ := or_nat x (2 ^ n) hx (by omega)
    rw [L86_0, if_pos (by omega), o1] at h
    have e2 : Int.fdiv (((2 ^ n : Nat) : Int)) 2 = ((2 ^ n / 2 : Nat) : Int) := by rw [Int.fdiv_eq_ediv_of_nonneg _ (by omega)]; omega
    rw [e2] at h
    generalize x ||| 2 ^ n = s at *
    have hss : s * s < 18446744073709551616 := by
      have := Nat.mul_le_mul (show s ≤ 4294967295 by omega) (show s ≤ 4294967295 by omega); omega
    have e3 : ((s : Int) * (s : Int)) = ((s * s : Nat) : Int) := by rw [Int.natCast_mul]
    rw [e3, u64id (by omega) (by omega)] at h
    by_cases hc : s * s ≤ a
    · rw [if_pos (by omega)] at h
      exact sq_le a n s m r (by omega) o2 hc h
    · rw [if_neg (by omega)] at h
      exact sq_le a n x m r (by omega) hx hs h
/-- Within bounds a side is no longer than its two ways together. -/
theorem hyp_le {x y B : Int} (hx : -B ≤ x ∧ x ≤ B) (hy : -B ≤ y ∧ y ≤ B) (hB : 0 ≤ B ∧ B ≤ 1073741824) {h : Int} (e : F76 x y = some (.a0 h)) : h ≤ 2 * B := by
  unfold F76 at e
  simp only [bnd_def, F90_eq] at e
  rw [cl_of (a := x) (by omega) (by omega), cl_of (a := y) (by omega) (by omega)] at e
  have sqb : ∀ u : Int, -B ≤ u ∧ u ≤ B → 0 ≤ u * u ∧ u * u ≤ B * B := fun u h => by
    have h1 : 0 ≤ (B - u) * (B + u) := Int.mul_nonneg (by omega) (by omega)
    have h2 : 0 ≤ u * u := by
      by_cases h : 0 ≤ u
      · exact Int.mul_nonneg h h
      · have := Int.mul_nonneg (show 0 ≤ -u by omega) (show 0 ≤ -u by omega)
        rw [Int.neg_mul_neg] at this; exact this
    simp only [Int.sub_mul, Int.mul_add] at h1
    rw [Int.mul_comm u B] at h1
    exact ⟨h2, by omega⟩
  obtain ⟨u1, u2⟩ := sqb x hx
  obtain ⟨v1, v2⟩ := sqb y hy
  have hBB : B * B ≤ 1152921504606846976 := by
    have := Int.mul_le_mul hB.2 hB.2 hB.1 (by decide)
    omega
  rw [w64_in (n := x * x) (by omega) (by omega), w64_in (n := y * y) (by omega) (by omega), w64_in (by omega) (by omega), u64id (by omega) (by omega)] at e
  have en : x * x + y * y = (((x * x + y * y).toNat : Nat) : Int) := by omega
  rw [en] at e
  obtain ⟨r, r1, r2, _, _, _⟩ := sq_loop (x * x + y * y).toNat 32 0 100000 (by decide) (by decide) (by decide)
  have hr := sq_le (x * x + y * y).toNat 32 0 100000 r (by decide) (by decide) (by simp) r1
  have hF : F86 (((x * x + y * y).toNat : Nat) : Int) = some (.a0 (r : Int)) := by
    unfold F86
    rw [show (0 : Int) = ((0 : Nat) : Int) by rfl, show (2147483648 : Int) = ((2 ^ 32 / 2 : Nat) : Int) by decide, r1, Option.bind_some]
    simp only []
    rw [w64_in (by omega) (by omega)]
  rw [hF, Option.bind_some] at e
  simp only [F57_eq] at e
  rw [hd_of (by omega) (by omega)] at e
  cases e
  refine Classical.byContradiction fun hc => ?_
  have h1 : (2 * B + 1) * (2 * B + 1) ≤ (r : Int) * (r : Int) := Int.mul_le_mul (by omega) (by omega) (by omega) (by omega)
  simp only [Int.add_mul, Int.mul_add] at h1
  have h2 : 2 * B * (2 * B) = 4 * (B * B) := by rw [Int.mul_assoc, Int.mul_left_comm B 2 B]; omega
  have h3 := hr.2
  have h4 := (sqb 0 (by omega)).2
  omega
end Go.Proofs.Ytojigbcgmneiiaa.H
