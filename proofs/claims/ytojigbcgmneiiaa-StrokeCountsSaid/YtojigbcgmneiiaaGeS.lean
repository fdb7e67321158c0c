/- How long a part of a line is, but for rounding. Plain Lean over what the functions compute. Conditions: those stated (small places, few of them). -/
import Derived.Test.YtojigbcgmneiiaaSt1
set_option linter.unusedVariables false
set_option linter.unusedSimpArgs false
namespace Go.Proofs.Ytojigbcgmneiiaa.H
open Go Go.VM
set_option maxRecDepth 100000
theorem lag (a b c d : Int) : (a*a+b*b)*(c*c+d*d) = (a*c+b*d)*(a*c+b*d) + (a*d-c*b)*(a*d-c*b) := by grind
theorem sq_nn (a : Int) : 0 ≤ a * a := by
  rcases Int.le_total 0 a with h | h
  · exact Int.mul_nonneg h h
  · have := Int.mul_nonneg (show 0 ≤ -a by omega) (show 0 ≤ -a by omega)
    rw [Int.neg_mul_neg] at this; exact this
theorem le_of_sq {a b : Int} (hb : 0 ≤ b) (h : a * a ≤ b * b) : a ≤ b := by
  refine Classical.byContradiction fun hn => ?_
  have h1 : 0 < a - b := by omega
  have h2 : 0 < a + b := by omega
  have := Int.mul_pos h1 h2
  have e : (a - b) * (a + b) = a * a - b * b := by grind
  omega
/-- Two ways, one behind the other, are no longer than both. -/
theorem mink {x1 y1 x2 y2 A B : Int} (hA : 0 ≤ A) (hB : 0 ≤ B) (h1 : x1*x1+y1*y1 ≤ A*A) (h2 : x2*x2+y2*y2 ≤ B*B) : (x1+x2)*(x1+x2) + (y1+y2)*(y1+y2) ≤ (A+B)*(A+B) := by
  have hd : (x1*x2+y1*y2)*(x1*x2+y1*y2) ≤ (A*B)*(A*B) := by
    have e := lag x1 y1 x2 y2
    have s := sq_nn (x1*y2-x2*y1)
    have m : (x1*x1+y1*y1)*(x2*x2+y2*y2) ≤ (A*A)*(B*B) := Int.mul_le_mul h1 h2 (by have := sq_nn x2; have := sq_nn y2; omega) (sq_nn A)
    have e2 : (A*A)*(B*B) = (A*B)*(A*B) := by grind
    omega
  have hdd := le_of_sq (Int.mul_nonneg hA hB) hd
  have e1 : (x1+x2)*(x1+x2) + (y1+y2)*(y1+y2) = (x1*x1+y1*y1) + (x2*x2+y2*y2) + 2*(x1*x2+y1*y2) := by grind
  have e2 : (A+B)*(A+B) = A*A + B*B + 2*(A*B) := by grind
  omega
theorem root_exact (a : Nat) : ∀ (n m x : Nat), n ≤ 32 → n < m → x % 2 ^ n = 0 → x + 2 ^ n ≤ 4294967296 → x * x ≤ a → a < (x + 2 ^ n) * (x + 2 ^ n) →
    ∃ r : Nat, L86_0 m (a : Int) (x : Int) (((2 ^ n / 2 : Nat) : Int)) = some (.e0 (r : Int)) ∧ r * r ≤ a ∧ a < (r + 1) * (r + 1) ∧ r < 4294967296
  | _, 0, x, _, hm, _, _, _, _ => by omega
  | 0, m + 1, x, _, _, _, hx, h1, h2 => ⟨x, by rw [L86_0, if_neg (by decide)], h1, h2, by omega⟩
  | n + 1, m + 1, x, hn, hm, hz, hx, h1, h2 => by
    have hp : 0 < 2 ^ n := Nat.two_pow_pos n
    have hq : 2 ^ n ≤ 2 ^ 31 := Nat.pow_le_pow_right (by decide) (by omega)
    have e : 2 ^ (n + 1) / 2 = 2 ^ n := by rw [Nat.pow_succ]; omega
    have e0 : 2 ^ (n + 1) = 2 * 2 ^ n := by rw [Nat.pow_succ]; omega
    rw [e]
    obtain ⟨o1, _, _, _⟩ := or_nat x (2 ^ n) (by omega) (by omega)
    have hor : x ||| 2 ^ n = x + 2 ^ n := by
      obtain ⟨k, hk⟩ := Nat.dvd_of_mod_eq_zero hz
      rw [hk]
      exact (Nat.two_pow_add_eq_or_of_lt (show 2 ^ n < 2 ^ (n + 1) by omega) k).symm
    rw [hor] at o1
    have e2 : Int.fdiv (((2 ^ n : Nat) : Int)) 2 = ((2 ^ n / 2 : Nat) : Int) := by rw [fd (by omega)]; omega
    have hz' : x % 2 ^ n = 0 := Nat.mod_eq_zero_of_dvd (Nat.dvd_trans ⟨2, by omega⟩ (Nat.dvd_of_mod_eq_zero hz))
    have hz2 : (x + 2 ^ n) % 2 ^ n = 0 := by rw [Nat.add_mod_right]; exact hz'
    have hpos : ((2 ^ n : Nat) : Int) > 0 := by omega
    have hlt : (x + 2 ^ n) * (x + 2 ^ n) < 18446744073709551616 := by
      have : x + 2 ^ n ≤ 4294967295 := by omega
      have := Nat.mul_le_mul this this
      omega
    have hw : IntKind.wrap IntKind.u64 (((x + 2 ^ n : Nat) : Int) * ((x + 2 ^ n : Nat) : Int)) = (((x + 2 ^ n) * (x + 2 ^ n) : Nat) : Int) := by
      rw [← Int.natCast_mul, u64id (by omega) (by omega)]
    rw [L86_0, if_pos hpos, o1, e2, hw]
    have hs : x + 2 ^ (n + 1) = x + 2 ^ n + 2 ^ n := by omega
    by_cases h : (((x + 2 ^ n) * (x + 2 ^ n) : Nat) : Int) ≤ (a : Int)
    · rw [if_pos h]
      exact root_exact a n m (x + 2 ^ n) (by omega) (by omega) hz2 (by omega) (by omega) (by rw [← hs]; exact h2)
    · rw [if_neg h]
      exact root_exact a n m x (by omega) (by omega) hz' (by omega) h1 (by omega)
theorem hyp_exact {x y : Int} (hx : -1073741824 ≤ x ∧ x ≤ 1073741824) (hy : -1073741824 ≤ y ∧ y ≤ 1073741824) : hypv x y * hypv x y ≤ x * x + y * y ∧ x * x + y * y < (hypv x y + 1) * (hypv x y + 1) := by
  have e := F89_eq x y
  unfold F76 at e
  simp only [bnd_def, F90_eq] at e
  rw [cl_of hx.1 hx.2, cl_of hy.1 hy.2] at e
  have sqb : ∀ u : Int, -1073741824 ≤ u ∧ u ≤ 1073741824 → 0 ≤ u * u ∧ u * u ≤ 1152921504606846976 := fun u h => by
    have h1 : 0 ≤ (1073741824 - u) * (1073741824 + u) := Int.mul_nonneg (by omega) (by omega)
    have h2 := sq_nn u
    have e : (1073741824 - u) * (1073741824 + u) = 1152921504606846976 - u * u := by grind
    omega
  obtain ⟨u1, u2⟩ := sqb x hx
  obtain ⟨v1, v2⟩ := sqb y hy
  rw [w64_in (n := x * x) (by omega) (by omega), w64_in (n := y * y) (by omega) (by omega), w64_in (n := x * x + y * y) (by omega) (by omega), u64id (by omega) (by omega)] at e
  generalize hs : x * x + y * y = s at *
  obtain ⟨r, r1, r2, r3, r4⟩ := root_exact s.toNat 32 18446744073709551616 0 (by decide) (by decide) (by decide) (by decide) (by omega) (by omega)
  have hsn : ((s.toNat : Nat) : Int) = s := by omega
  rw [hsn] at r1
  have r1' : L86_0 18446744073709551616 s 0 2147483648 = some (.e0 (r : Int)) := r1
  have k : F86 s = some (.a0 (r : Int)) := by
    unfold F86
    rw [r1', Option.bind_some]
    simp only []
    rw [w64_in (by omega) (by omega)]
  rw [k, Option.bind_some] at e
  simp only [F57_eq] at e
  rw [hd_of (by omega) (by omega)] at e
  have e' : (r : Int) = hypv x y := by simpa using e
  rw [← e']
  have q1 : (r : Int) * (r : Int) = ((r * r : Nat) : Int) := by rw [Int.natCast_mul]
  have q2 : ((r : Int) + 1) * ((r : Int) + 1) = (((r + 1) * (r + 1) : Nat) : Int) := by rw [Int.natCast_mul]; rfl
  rw [q1, q2]
  omega
end Go.Proofs.Ytojigbcgmneiiaa.H
