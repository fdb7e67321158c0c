/- Held numbers: sums, products, what lies between, in plain Lean over what the functions compute. Conditions: those stated. -/
import Derived.Test.YtifalphladcdcaaBase5
import Derived.Laws.BitsLemmas
import Derived.RowKit
set_option linter.unusedVariables false
set_option linter.unusedSimpArgs false
namespace Go.Proofs.Ytifalphladcdcaa.H
open Go Go.VM
set_option maxRecDepth 100000
def cl (a lo hi : Int) : Int := if a < lo then lo else if a > hi then hi else a
def hd (a : Int) : Int := cl a (-1099511627776) 1099511627776
def add (a b : Int) : Int := hd (hd a + hd b)
theorem hd_bd (a : Int) : -1099511627776 ≤ hd a ∧ hd a ≤ 1099511627776 := by unfold hd cl; split <;> (try split) <;> omega
theorem hd_of {a : Int} (h : -1099511627776 ≤ a) (h' : a ≤ 1099511627776) : hd a = a := by unfold hd cl; rw [if_neg (by omega), if_neg (by omega)]
theorem hd_hd (a : Int) : hd (hd a) = hd a := hd_of (hd_bd a).1 (hd_bd a).2
theorem cl_bd (a lo hi : Int) (h : lo ≤ hi) : lo ≤ cl a lo hi ∧ cl a lo hi ≤ hi := by unfold cl; split <;> (try split) <;> omega
theorem cl_of {a lo hi : Int} (h : lo ≤ a) (h' : a ≤ hi) : cl a lo hi = a := by unfold cl; rw [if_neg (by omega), if_neg (by omega)]
theorem qclamp (a lo hi : Int) : F118 a lo hi = cl a lo hi := rfl
theorem qhold (a : Int) : F98 a = hd a := rfl
theorem qplace (a : Int) : F94 a = cl a (-536870912) 536870912 := rfl
theorem qadd (a b : Int) : F95 a b = add a b := by
  simp only [F95, D95, PT.evT, PT.test, dite_eq_ite, bnd_def, qhold]
  have h1 := hd_bd a
  have h2 := hd_bd b
  rw [w64_in (by omega) (by omega)]; rfl
theorem rclamp (a lo hi : Int) : F119 a lo hi = cl a lo hi := rfl
theorem rhold (a : Int) : F100 a = hd a := rfl
theorem rplace (a : Int) : F101 a = cl a (-536870912) 536870912 := rfl
theorem radd (a b : Int) : F99 a b = add a b := by
  simp only [F99, D99, PT.evT, PT.test, dite_eq_ite, bnd_def, rhold]
  have h1 := hd_bd a
  have h2 := hd_bd b
  rw [w64_in (by omega) (by omega)]; rfl
theorem fd {a b : Int} (h : 0 ≤ b) : Int.fdiv a b = a / b := Int.fdiv_eq_ediv_of_nonneg a h
theorem and_low (k : IntKind) (j : Nat) (hj : j < k.bits) (hk : ∀ n : Int, 0 ≤ n → n < 2 ^ j → k.wrap n = n) (a : Int) :
    Go.bits .and k a (2 ^ j - 1) = a % 2 ^ j := by
  have hpos : 0 < 2 ^ j := Nat.two_pow_pos j
  have hc : ((2 : Int) ^ j - 1) = ((2 ^ j - 1 : Nat) : Int) := by
    rw [Int.natCast_sub hpos]; simp
  have hp : 2 ^ j ≤ 2 ^ k.bits := Nat.pow_le_pow_right (by decide) (Nat.le_of_lt hj)
  have hm : (2 ^ j - 1) % 2 ^ k.bits = 2 ^ j - 1 := Nat.mod_eq_of_lt (by omega)
  rw [hc]
  simp only [bits, BitVec.ofInt_natCast, BitVec.toNat_and, BitVec.toNat_ofNat, hm, BitVec.toNat_ofInt]
  rw [Nat.and_two_pow_sub_one_eq_mod]
  have hn : 0 ≤ a % (2 ^ k.bits : Int) := Int.emod_nonneg _ (by have := Int.pow_pos (n := 2) (m := k.bits) (by decide); omega)
  have hd : ((2 : Int) ^ j) ∣ 2 ^ k.bits := ⟨2 ^ (k.bits - j), by rw [← Int.pow_add]; congr 1; omega⟩
  have he : ((((a % ((2 ^ k.bits : Nat) : Int)).toNat % 2 ^ j : Nat)) : Int) = a % 2 ^ j := by
    rw [Int.natCast_emod, Int.toNat_of_nonneg (by rw [Int.natCast_pow]; exact hn)]
    rw [Int.natCast_pow, Int.natCast_pow]
    exact Int.emod_emod_of_dvd a hd
  have hlo := Int.emod_nonneg a (b := (2 : Int) ^ j) (by have := Int.pow_pos (n := 2) (m := j) (by decide); omega)
  have hhi := Int.emod_lt_of_pos a (b := (2 : Int) ^ j) (Int.pow_pos (by decide))
  rw [hk _ (Int.natCast_nonneg _) (by rw [he]; exact hhi), he]
theorem and16 (a : Int) : Go.bits .and .i64 a 65535 = a % 65536 := and_low .i64 16 (by decide) (fun n h h' => by rw [IntKind.wrap_i64]; omega) a
theorem and32u (a : Int) : Go.bits .and .u64 a 4294967295 = a % 4294967296 := and_low .u64 32 (by decide) (fun n h h' => by rw [u64w]; omega) a
/-- 64 times 64 bits, as math/bits reckons them. -/
theorem mul64_parts (x y x1 x0 y1 y0 : Int) (hx : x = x1 * 4294967296 + x0) (hy : y = y1 * 4294967296 + y0) (h1 : 0 ≤ x1 ∧ x1 < 4294967296) (h2 : 0 ≤ x0 ∧ x0 < 4294967296) (h3 : 0 ≤ y1 ∧ y1 < 4294967296) (h4 : 0 ≤ y0 ∧ y0 < 4294967296) :
    IntKind.u64.wrap ((IntKind.u64.wrap ((IntKind.u64.wrap (x1 * y1)) + ((IntKind.u64.wrap ((IntKind.u64.wrap (x1 * y0)) + ((IntKind.u64.wrap (x0 * y0)) / 4294967296))) / 4294967296))) + ((IntKind.u64.wrap (((IntKind.u64.wrap ((IntKind.u64.wrap (x1 * y0)) + ((IntKind.u64.wrap (x0 * y0)) / 4294967296))) % 4294967296) + (IntKind.u64.wrap (x0 * y1)))) / 4294967296)) = x * y / 18446744073709551616 := by
  have bd : ∀ p q : Int, 0 ≤ p ∧ p < 4294967296 → 0 ≤ q ∧ q < 4294967296 → 0 ≤ p * q ∧ p * q ≤ 18446744065119617025 := fun p q ⟨a, b⟩ ⟨c, d⟩ =>
    ⟨Int.mul_nonneg a c, Int.le_trans (Int.mul_le_mul_of_nonneg_left (show q ≤ 4294967295 by omega) a) (by omega)⟩
  obtain ⟨a1, b1⟩ := bd x1 y1 h1 h3
  obtain ⟨a2, b2⟩ := bd x1 y0 h1 h4
  obtain ⟨a3, b3⟩ := bd x0 y1 h2 h3
  obtain ⟨a4, b4⟩ := bd x0 y0 h2 h4
  have e : x * y = x1 * y1 * 18446744073709551616 + (x1 * y0 + x0 * y1) * 4294967296 + x0 * y0 := by
    subst hx hy
    grind
  generalize x1 * y1 = p11 at *
  generalize x1 * y0 = p10 at *
  generalize x0 * y1 = p01 at *
  generalize x0 * y0 = p00 at *
  simp only [u64w]
  rw [e]
  omega
def mul (a b : Int) : Int := hd (hd a * hd b / 65536)
theorem hd_hi {a : Int} (h : 1099511627776 ≤ a) : hd a = 1099511627776 := by unfold hd cl; rw [if_neg (by omega)]; split <;> omega
theorem hd_lo {a : Int} (h : a ≤ -1099511627776) : hd a = -1099511627776 := by unfold hd cl; split <;> (try split) <;> omega
theorem mul_bd (a b : Int) : -1099511627776 ≤ mul a b ∧ mul a b ≤ 1099511627776 := hd_bd _
theorem add_bd (a b : Int) : -1099511627776 ≤ add a b ∧ add a b ≤ 1099511627776 := hd_bd _
/-- Products of held numbers. -/
theorem prod_bd (a b : Int) (ha : -1099511627776 ≤ a ∧ a ≤ 1099511627776) (hb : -1099511627776 ≤ b ∧ b ≤ 1099511627776) : -1208925819614629174706176 ≤ a * b ∧ a * b ≤ 1208925819614629174706176 := by
  obtain ⟨a1, a2⟩ := ha
  obtain ⟨b1, b2⟩ := hb
  have h1 : 0 ≤ (1099511627776 - a) * (1099511627776 + b) := Int.mul_nonneg (by omega) (by omega)
  have h2 : 0 ≤ (1099511627776 + a) * (1099511627776 - b) := Int.mul_nonneg (by omega) (by omega)
  have h3 : 0 ≤ (1099511627776 - a) * (1099511627776 - b) := Int.mul_nonneg (by omega) (by omega)
  have h4 : 0 ≤ (1099511627776 + a) * (1099511627776 + b) := Int.mul_nonneg (by omega) (by omega)
  simp only [Int.add_mul, Int.sub_mul, Int.mul_add, Int.mul_sub] at h1 h2 h3 h4
  omega
theorem and32 (a : Int) : IntKind.wrap IntKind.u64 (↑(BitVec.toNat (BitVec.ofInt (IntKind.bits IntKind.u64) a &&& BitVec.ofInt (IntKind.bits IntKind.u64) 4294967295)) : Int) = a % 4294967296 := and32u a
theorem mul64 (x y : Int) (hx : 0 ≤ x ∧ x < 18446744073709551616) (hy : 0 ≤ y ∧ y < 18446744073709551616) :
    F113 x y = some (.a0 (x * y / 18446744073709551616) (x * y % 18446744073709551616)) := by
  simp only [F113, D113, PT.ev, PT.test, dite_eq_ite, and32, fd (show (0 : Int) ≤ 4294967296 by decide)]
  rw [mul64_parts x y (x / 4294967296) (x % 4294967296) (y / 4294967296) (y % 4294967296) (by omega) (by omega) (by omega) (by omega) (by omega) (by omega), u64w (x * y)]
theorem qproduct (a b : Int) (ha : -9223372036854775808 ≤ a ∧ a ≤ 9223372036854775807) (hb : -9223372036854775808 ≤ b ∧ b ≤ 9223372036854775807) :
    F109 a b = some (.a0 ((a * b / 18446744073709551616) % 18446744073709551616) (a * b % 18446744073709551616)) := by
  simp only [F109, D109, PT.ev, PT.test, dite_eq_ite, u64w]
  rw [mul64 _ _ (by omega) (by omega)]
  simp only [Option.bind_some, PT.ev, PT.test, dite_eq_ite]
  by_cases h1 : a < 0
  · have ea : a % 18446744073709551616 = a + 18446744073709551616 := by omega
    by_cases h2 : b < 0
    · have eb : b % 18446744073709551616 = b + 18446744073709551616 := by omega
      rw [if_pos h1, if_pos h2, ea, eb]
      have e : (a + 18446744073709551616) * (b + 18446744073709551616) = a * b + a * 18446744073709551616 + b * 18446744073709551616 + 340282366920938463463374607431768211456 := by grind
      rw [e]; generalize a * b = p; congr 2 <;> omega
    · have eb : b % 18446744073709551616 = b := by omega
      rw [if_pos h1, if_neg h2, ea, eb]
      have e : (a + 18446744073709551616) * b = a * b + b * 18446744073709551616 := by grind
      rw [e]; generalize a * b = p; congr 2 <;> omega
  · have ea : a % 18446744073709551616 = a := by omega
    by_cases h2 : b < 0
    · have eb : b % 18446744073709551616 = b + 18446744073709551616 := by omega
      rw [if_neg h1, if_pos h2, ea, eb]
      have e : a * (b + 18446744073709551616) = a * b + a * 18446744073709551616 := by grind
      rw [e]; generalize a * b = p; congr 2 <;> omega
    · have eb : b % 18446744073709551616 = b := by omega
      rw [if_neg h1, if_neg h2, ea, eb]
      have hp : 0 ≤ a * b := Int.mul_nonneg (by omega) (by omega)
      have hp2 : a * b ≤ 9223372036854775807 * 9223372036854775807 := Int.mul_le_mul ha.2 hb.2 (by omega) (by omega)
      generalize a * b = p at *; congr 2; omega
theorem or48 (x y : Int) (hx : 0 ≤ x) (hy : 0 ≤ y ∧ y < 281474976710656) : IntKind.wrap IntKind.u64 (↑(BitVec.toNat (BitVec.ofInt (IntKind.bits IntKind.u64) (IntKind.wrap IntKind.u64 (x * 281474976710656)) ||| BitVec.ofInt (IntKind.bits IntKind.u64) y)) : Int) = (x * 281474976710656) % 18446744073709551616 + y := by
  rw [u64w (x * 281474976710656)]
  exact bits_join .u64 64 (by decide) (fun n h h' => by rw [u64w]; omega) 48 _ y (by omega) (by omega) (by omega) hy.1 (by omega) (by omega)
theorem qdown (p : Int) (hp : -1208925819614629174706176 ≤ p ∧ p ≤ 1208925819614629174706176) :
    ∃ v, F108 ((p / 18446744073709551616) % 18446744073709551616) (p % 18446744073709551616) = some (.a0 v) ∧ hd v = hd (p / 65536) := by
  simp only [F108, D108, J108_r3, D108_r3, PT.ev, PT.test, dite_eq_ite]
  rw [show (2 : Int) ^ min (Int.toNat 48) (IntKind.bits IntKind.u64) = 281474976710656 by rfl, show (2 : Int) ^ min (Int.toNat 16) (IntKind.bits IntKind.u64) = 65536 by rfl]
  simp only [fd (show (0 : Int) ≤ 65536 by decide), fd (show (0 : Int) ≤ 9223372036854775808 by decide)]
  rw [or48 _ _ (by omega) (by omega)]
  generalize hw : w64 (p / 18446744073709551616 % 18446744073709551616) = t
  have ht : t = p / 18446744073709551616 := by rw [← hw, w64_eq]; omega
  generalize hv : (p / 18446744073709551616 % 18446744073709551616 * 281474976710656) % 18446744073709551616 + p % 18446744073709551616 / 65536 = v
  have hv' : v = (p / 65536) % 18446744073709551616 := by rw [← hv]; omega
  clear hv hw
  have h1 : ¬ t / 65536 < -1 := by omega
  by_cases h2 : t / 65536 = -1
  · have e2 : (t / 65536 == -1) = true := by rw [beq_iff_eq]; exact h2
    have e3 : ¬ t / 65536 > 0 := by omega
    have e4 : (t / 65536 == 0) = false := by rw [beq_eq_false_iff_ne]; omega
    by_cases h3 : v / 9223372036854775808 = 0
    · have e5 : (v / 9223372036854775808 == 0) = true := by rw [beq_iff_eq]; exact h3
      simp only [h1, e2, e5, if_true, if_false, Option.bind_some, PT.ev, PT.test, dite_eq_ite]
      exact ⟨_, rfl, by rw [hd_lo (by omega), hd_lo (by omega)]⟩
    · have e5 : (v / 9223372036854775808 == 0) = false := by rw [beq_eq_false_iff_ne]; exact h3
      simp only [h1, e2, e5, e3, e4, if_true, if_false, Option.bind_some, PT.ev, PT.test, dite_eq_ite, Bool.false_eq_true]
      exact ⟨_, rfl, by congr 1; rw [w64_eq]; omega⟩
  · have e2 : (t / 65536 == -1) = false := by rw [beq_eq_false_iff_ne]; exact h2
    by_cases h4 : t / 65536 > 0
    · simp only [h1, e2, h4, if_true, if_false, Option.bind_some, PT.ev, PT.test, dite_eq_ite, Bool.false_eq_true]
      exact ⟨_, rfl, by rw [hd_hi (by omega), hd_hi (by omega)]⟩
    · have e4 : (t / 65536 == 0) = true := by rw [beq_iff_eq]; omega
      by_cases h3 : v / 9223372036854775808 = 0
      · have e5 : (v / 9223372036854775808 != 0) = false := by rw [bne_eq_false_iff_eq]; exact h3
        simp only [h1, e2, h4, e4, e5, if_true, if_false, Option.bind_some, PT.ev, PT.test, dite_eq_ite, Bool.false_eq_true]
        exact ⟨_, rfl, by congr 1; rw [w64_eq]; omega⟩
      · have e5 : (v / 9223372036854775808 != 0) = true := by rw [bne_iff_ne]; exact h3
        simp only [h1, e2, h4, e4, e5, if_true, if_false, Option.bind_some, PT.ev, PT.test, dite_eq_ite, Bool.false_eq_true]
        exact ⟨_, rfl, by rw [hd_hi (by omega), hd_hi (by omega)]⟩
theorem qmul (a b : Int) : F79 a b = some (.a0 (mul a b)) := by
  simp only [F79, D79, PT.ev, PT.test, dite_eq_ite, bnd_def, qhold]
  have h1 := hd_bd a
  have h2 := hd_bd b
  rw [qproduct _ _ (by omega) (by omega)]
  obtain ⟨v, e1, e2⟩ := qdown _ (prod_bd _ _ h1 h2)
  simp only [Option.bind_some, PT.ev, PT.test, dite_eq_ite, bnd_def, e1, qhold, e2]; rfl
theorem qmid (a b t : Int) : F66 a b t = some (.a0 (add (hd a) (mul (add b (w64 (0 - hd a))) t))) := by
  simp only [F66, D66, PT.ev, PT.test, dite_eq_ite, bnd_def, qhold, qadd, qmul, Option.bind_some]
end Go.Proofs.Ytifalphladcdcaa.H
