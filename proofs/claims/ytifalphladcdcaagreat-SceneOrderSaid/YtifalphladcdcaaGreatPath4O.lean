import Derived.Test.YtifalphladcdcaaGreatPOd
import Derived.Laws.BitsLemmas
import Derived.RowKit
import Derived.KernelRfl
set_option linter.unusedVariables false
set_option linter.unusedSimpArgs false
/- Rows as lists of records; 64 bits. Conditions: those stated. -/
namespace Go.Proofs.YtifalphladcdcaaGreat.H
open Go Go.VM
set_option maxRecDepth 100000
abbrev Rt (ks : List W3) : List (List V) := ks.map W3.cells
abbrev Rp (ks : List W28) : List (List V) := ks.map W28.cells
theorem rt_get (ks : List W3) (i : Nat) : ((Rt ks)[i]?).bind W3.dec = ks[i]? := by
  simp only [Rt, List.getElem?_map]
  cases ks[i]? <;> rfl
theorem rp_get (ks : List W28) (i : Nat) : ((Rp ks)[i]?).bind W28.dec = ks[i]? := by
  simp only [Rp, List.getElem?_map]
  cases ks[i]? <;> rfl
theorem bnd_def {α β : Type} (x : α) (f : α → β) : bnd x f = f x := rfl
theorem w64_eq (n : Int) : w64 n = ((n + 9223372036854775808) % 18446744073709551616) - 9223372036854775808 := by
  simp [IntKind.wrap, IntKind.bits, IntKind.signed]; omega
theorem w64_in {n : Int} (h : -9223372036854775808 ≤ n) (h' : n ≤ 9223372036854775807) : w64 n = n := by
  rw [w64_eq]; omega
theorem u64w (x : Int) : IntKind.u64.wrap x = x % 18446744073709551616 := by simp [IntKind.wrap, IntKind.bits, IntKind.signed]
theorem u64id {x : Int} (h : 0 ≤ x) (h' : x < 18446744073709551616) : IntKind.u64.wrap x = x := by rw [u64w]; omega
end Go.Proofs.YtifalphladcdcaaGreat.H

/- Held numbers: sums, products, what lies between, in plain Lean over what the functions compute. Conditions: those stated. -/
namespace Go.Proofs.YtifalphladcdcaaGreat.H
open Go Go.VM
set_option maxRecDepth 100000
def cl (a lo hi : Int) : Int := if a < lo then lo else if a > hi then hi else a
def hd (a : Int) : Int := cl a (-1099511627776) 1099511627776
def add (a b : Int) : Int := hd (hd a + hd b)
theorem hd_bd (a : Int) : -1099511627776 ≤ hd a ∧ hd a ≤ 1099511627776 := by unfold hd cl; split <;> (try split) <;> omega
theorem hd_of {a : Int} (h : -1099511627776 ≤ a) (h' : a ≤ 1099511627776) : hd a = a := by unfold hd cl; rw [if_neg (by omega), if_neg (by omega)]
theorem hd_hd (a : Int) : hd (hd a) = hd a := hd_of (hd_bd a).1 (hd_bd a).2
theorem cl_bd (a lo hi : Int) (h : lo ≤ hi) : lo ≤ cl a lo hi ∧ cl a lo hi ≤ hi := by unfold cl; split <;> (try split) <;> omega
theorem cl_of {a lo hi : Int} (h : lo ≤ a) (h' : a ≤ hi) : cl a lo hi = a := by unfold cl; rw [if_neg (by omega), if_neg (by omega)]
theorem qclamp (a lo hi : Int) : F74 a lo hi = cl a lo hi := rfl
theorem qhold (a : Int) : F132 a = hd a := rfl
theorem qplace (a : Int) : F241 a = cl a (-536870912) 536870912 := rfl
theorem qadd (a b : Int) : F131 a b = add a b := by
  simp only [F131, D131, PT.evT, PT.test, dite_eq_ite, bnd_def, qhold]
  have h1 := hd_bd a
  have h2 := hd_bd b
  rw [w64_in (by omega) (by omega)]; rfl
theorem fd {a b : Int} (h : 0 ≤ b) : Int.fdiv a b = a / b := Int.fdiv_eq_ediv_of_nonneg a h
theorem and_low (k : IntKind) (j : Nat) (hj : j < k.bits) (hk : ∀ n : Int, 0 ≤ n → n < 2 ^ j → k.wrap n = n) (a : Int) :
    Go.bits .and k a (2 ^ j - 1) = a % 2 ^ j := by
  have hpos : 0 < 2 ^ j := Nat.two_pow_pos j
  have hc : ((2 : Int) ^ j - 1) = ((2 ^ j - 1 : Nat) : Int) := by
    rw [Int.natCast_sub hpos]; simp
  have hp : 2 ^ j ≤ 2 ^ k.bits := Nat.pow_le_pow_right (by decide) (Nat.le_of_lt hj)
  have hm : (2 ^ j - 1) % 2 ^ k.bits = 2 ^ j - 1 := Nat.mod_eq_of_lt (by omega)
  rw [hc]
  simp only [bits, BitVec.ofInt_natCast, BitVec.toNat_and, BitVec.toNat_ofNat, hm, BitVec.toNat_ofInt]
  rw [Nat.and_two_pow_sub_one_eq_mod]
  have hn : 0 ≤ a % (2 ^ k.bits : Int) := Int.emod_nonneg _ (by have := Int.pow_pos (n := 2) (m := k.bits) (by decide); omega)
  have hd : ((2 : Int) ^ j) ∣ 2 ^ k.bits := ⟨2 ^ (k.bits - j), by rw [← Int.pow_add]; congr 1; omega⟩
  have he : ((((a % ((2 ^ k.bits : Nat) : Int)).toNat % 2 ^ j : Nat)) : Int) = a % 2 ^ j := by
    rw [Int.natCast_emod, Int.toNat_of_nonneg (by rw [Int.natCast_pow]; exact hn)]
    rw [Int.natCast_pow, Int.natCast_pow]
    exact Int.emod_emod_of_dvd a hd
  have hlo := Int.emod_nonneg a (b := (2 : Int) ^ j) (by have := Int.pow_pos (n := 2) (m := j) (by decide); omega)
  have hhi := Int.emod_lt_of_pos a (b := (2 : Int) ^ j) (Int.pow_pos (by decide))
  rw [hk _ (Int.natCast_nonneg _) (by rw [he]; exact hhi), he]
theorem and16 (a : Int) : Go.bits .and .i64 a 65535 = a % 65536 := and_low .i64 16 (by decide) (fun n h h' => by rw [IntKind.wrap_i64]; omega) a
theorem and32u (a : Int) : Go.bits .and .u64 a 4294967295 = a % 4294967296 := and_low .u64 32 (by decide) (fun n h h' => by rw [u64w]; omega) a
/-- 64 times 64 bits, as math/bits reckons them. -/
theorem mul64_parts (x y x1 x0 y1 y0 : Int) (hx : x = x1 * 4294967296 + x0) (hy : y = y1 * 4294967296 + y0) (h1 : 0 ≤ x1 ∧ x1 < 4294967296) (h2 : 0 ≤ x0 ∧ x0 < 4294967296) (h3 : 0 ≤ y1 ∧ y1 < 4294967296) (h4 : 0 ≤ y0 ∧ y0 < 4294967296) :
    IntKind.u64.wrap ((IntKind.u64.wrap ((IntKind.u64.wrap (x1 * y1)) + ((IntKind.u64.wrap ((IntKind.u64.wrap (x1 * y0)) + ((IntKind.u64.wrap (x0 * y0)) / 4294967296))) / 4294967296))) + ((IntKind.u64.wrap (((IntKind.u64.wrap ((IntKind.u64.wrap (x1 * y0)) + ((IntKind.u64.wrap (x0 * y0)) / 4294967296))) % 4294967296) + (IntKind.u64.wrap (x0 * y1)))) / 4294967296)) = x * y / 18446744073709551616 := by
  have bd : ∀ p q : Int, 0 ≤ p ∧ p < 4294967296 → 0 ≤ q ∧ q < 4294967296 → 0 ≤ p * q ∧ p * q ≤ 18446744065119617025 := fun p q ⟨a, b⟩ ⟨c, d⟩ =>
    ⟨Int.mul_nonneg a c, Int.le_trans (Int.mul_le_mul_of_nonneg_left (show q ≤ 4294967295 by omega) a) (by omega)⟩
  obtain ⟨a1, b1⟩ := bd x1 y1 h1 h3
  obtain ⟨a2, b2⟩ := bd x1 y0 h1 h4
  obtain ⟨a3, b3⟩ := bd x0 y1 h2 h3
  obtain ⟨a4, b4⟩ := bd x0 y0 h2 h4
  have e : x * y = x1 * y1 * 18446744073709551616 + (x1 * y0 + x0 * y1) * 4294967296 + x0 * y0 := by
    subst hx hy
    grind
  generalize x1 * y1 = p11 at *
  generalize x1 * y0 = p10 at *
  generalize x0 * y1 = p01 at *
  generalize x0 * y0 = p00 at *
  simp only [u64w]
  rw [e]
  omega
def mul (a b : Int) : Int := hd (hd a * hd b / 65536)
theorem hd_hi {a : Int} (h : 1099511627776 ≤ a) : hd a = 1099511627776 := by unfold hd cl; rw [if_neg (by omega)]; split <;> omega
theorem hd_lo {a : Int} (h : a ≤ -1099511627776) : hd a = -1099511627776 := by unfold hd cl; split <;> (try split) <;> omega
theorem mul_bd (a b : Int) : -1099511627776 ≤ mul a b ∧ mul a b ≤ 1099511627776 := hd_bd _
theorem add_bd (a b : Int) : -1099511627776 ≤ add a b ∧ add a b ≤ 1099511627776 := hd_bd _
/-- Products of held numbers. -/
theorem prod_bd (a b : Int) (ha : -1099511627776 ≤ a ∧ a ≤ 1099511627776) (hb : -1099511627776 ≤ b ∧ b ≤ 1099511627776) : -1208925819614629174706176 ≤ a * b ∧ a * b ≤ 1208925819614629174706176 := by
  obtain ⟨a1, a2⟩ := ha
  obtain ⟨b1, b2⟩ := hb
  have h1 : 0 ≤ (1099511627776 - a) * (1099511627776 + b) := Int.mul_nonneg (by omega) (by omega)
  have h2 : 0 ≤ (1099511627776 + a) * (1099511627776 - b) := Int.mul_nonneg (by omega) (by omega)
  have h3 : 0 ≤ (1099511627776 - a) * (1099511627776 - b) := Int.mul_nonneg (by omega) (by omega)
  have h4 : 0 ≤ (1099511627776 + a) * (1099511627776 + b) := Int.mul_nonneg (by omega) (by omega)
  simp only [Int.add_mul, Int.sub_mul, Int.mul_add, Int.mul_sub] at h1 h2 h3 h4
  omega
theorem and32 (a : Int) : IntKind.wrap IntKind.u64 (↑(BitVec.toNat (BitVec.ofInt (IntKind.bits IntKind.u64) a &&& BitVec.ofInt (IntKind.bits IntKind.u64) 4294967295)) : Int) = a % 4294967296 := and32u a
theorem mul64 (x y : Int) (hx : 0 ≤ x ∧ x < 18446744073709551616) (hy : 0 ≤ y ∧ y < 18446744073709551616) :
    F187 x y = some (.a0 (x * y / 18446744073709551616) (x * y % 18446744073709551616)) := by
  simp only [F187, D187, PT.ev, PT.test, dite_eq_ite, and32, fd (show (0 : Int) ≤ 4294967296 by decide)]
  rw [mul64_parts x y (x / 4294967296) (x % 4294967296) (y / 4294967296) (y % 4294967296) (by omega) (by omega) (by omega) (by omega) (by omega) (by omega), u64w (x * y)]
theorem qproduct (a b : Int) (ha : -9223372036854775808 ≤ a ∧ a ≤ 9223372036854775807) (hb : -9223372036854775808 ≤ b ∧ b ≤ 9223372036854775807) :
    F184 a b = some (.a0 ((a * b / 18446744073709551616) % 18446744073709551616) (a * b % 18446744073709551616)) := by
  simp only [F184, D184, PT.ev, PT.test, dite_eq_ite, u64w]
  rw [mul64 _ _ (by omega) (by omega)]
  simp only [Option.bind_some, PT.ev, PT.test, dite_eq_ite]
  by_cases h1 : a < 0
  · have ea : a % 18446744073709551616 = a + 18446744073709551616 := by omega
    by_cases h2 : b < 0
    · have eb : b % 18446744073709551616 = b + 18446744073709551616 := by omega
      rw [if_pos h1, if_pos h2, ea, eb]
      have e : (a + 18446744073709551616) * (b + 18446744073709551616) = a * b + a * 18446744073709551616 + b * 18446744073709551616 + 340282366920938463463374607431768211456 := by grind
      rw [e]; generalize a * b = p; congr 2 <;> omega
    · have eb : b % 18446744073709551616 = b := by omega
      rw [if_pos h1, if_neg h2, ea, eb]
      have e : (a + 18446744073709551616) * b = a * b + b * 18446744073709551616 := by grind
      rw [e]; generalize a * b = p; congr 2 <;> omega
  · have ea : a % 18446744073709551616 = a := by omega
    by_cases h2 : b < 0
    · have eb : b % 18446744073709551616 = b + 18446744073709551616 := by omega
      rw [if_neg h1, if_pos h2, ea, eb]
      have e : a * (b + 18446744073709551616) = a * b + a * 18446744073709551616 := by grind
      rw [e]; generalize a * b = p; congr 2 <;> omega
    · have eb : b % 18446744073709551616 = b := by omega
      rw [if_neg h1, if_neg h2, ea, eb]
      have hp : 0 ≤ a * b := Int.mul_nonneg (by omega) (by omega)
      have hp2 : a * b ≤ 9223372036854775807 * 9223372036854775807 := Int.mul_le_mul ha.2 hb.2 (by omega) (by omega)
      generalize a * b = p at *; congr 2; omega
theorem or48 (x y : Int) (hx : 0 ≤ x) (hy : 0 ≤ y ∧ y < 281474976710656) : IntKind.wrap IntKind.u64 (↑(BitVec.toNat (BitVec.ofInt (IntKind.bits IntKind.u64) (IntKind.wrap IntKind.u64 (x * 281474976710656)) ||| BitVec.ofInt (IntKind.bits IntKind.u64) y)) : Int) = (x * 281474976710656) % 18446744073709551616 + y := by
  rw [u64w (x * 281474976710656)]
  exact bits_join .u64 64 (by decide) (fun n h h' => by rw [u64w]; omega) 48 _ y (by omega) (by omega) (by omega) hy.1 (by omega) (by omega)
theorem qdown (p : Int) (hp : -1208925819614629174706176 ≤ p ∧ p ≤ 1208925819614629174706176) :
    ∃ v, F183 ((p / 18446744073709551616) % 18446744073709551616) (p % 18446744073709551616) = some (.a0 v) ∧ hd v = hd (p / 65536) := by
  simp only [F183, D183, J183_r3, D183_r3, PT.ev, PT.test, dite_eq_ite]
  rw [show (2 : Int) ^ min (Int.toNat 48) (IntKind.bits IntKind.u64) = 281474976710656 by rfl, show (2 : Int) ^ min (Int.toNat 16) (IntKind.bits IntKind.u64) = 65536 by rfl]
  simp only [fd (show (0 : Int) ≤ 65536 by decide), fd (show (0 : Int) ≤ 9223372036854775808 by decide)]
  rw [or48 _ _ (by omega) (by omega)]
  generalize hw : w64 (p / 18446744073709551616 % 18446744073709551616) = t
  have ht : t = p / 18446744073709551616 := by rw [← hw, w64_eq]; omega
  generalize hv : (p / 18446744073709551616 % 18446744073709551616 * 281474976710656) % 18446744073709551616 + p % 18446744073709551616 / 65536 = v
  have hv' : v = (p / 65536) % 18446744073709551616 := by rw [← hv]; omega
  clear hv hw
  have h1 : ¬ t / 65536 < -1 := by omega
  by_cases h2 : t / 65536 = -1
  · have e2 : (t / 65536 == -1) = true := by rw [beq_iff_eq]; exact h2
    have e3 : ¬ t / 65536 > 0 := by omega
    have e4 : (t / 65536 == 0) = false := by rw [beq_eq_false_iff_ne]; omega
    by_cases h3 : v / 9223372036854775808 = 0
    · have e5 : (v / 9223372036854775808 == 0) = true := by rw [beq_iff_eq]; exact h3
      simp only [h1, e2, e5, if_true, if_false, Option.bind_some, PT.ev, PT.test, dite_eq_ite]
      exact ⟨_, rfl, by rw [hd_lo (by omega), hd_lo (by omega)]⟩
    · have e5 : (v / 9223372036854775808 == 0) = false := by rw [beq_eq_false_iff_ne]; exact h3
      simp only [h1, e2, e5, e3, e4, if_true, if_false, Option.bind_some, PT.ev, PT.test, dite_eq_ite, Bool.false_eq_true]
      exact ⟨_, rfl, by congr 1; rw [w64_eq]; omega⟩
  · have e2 : (t / 65536 == -1) = false := by rw [beq_eq_false_iff_ne]; exact h2
    by_cases h4 : t / 65536 > 0
    · simp only [h1, e2, h4, if_true, if_false, Option.bind_some, PT.ev, PT.test, dite_eq_ite, Bool.false_eq_true]
      exact ⟨_, rfl, by rw [hd_hi (by omega), hd_hi (by omega)]⟩
    · have e4 : (t / 65536 == 0) = true := by rw [beq_iff_eq]; omega
      by_cases h3 : v / 9223372036854775808 = 0
      · have e5 : (v / 9223372036854775808 != 0) = false := by rw [bne_eq_false_iff_eq]; exact h3
        simp only [h1, e2, h4, e4, e5, if_true, if_false, Option.bind_some, PT.ev, PT.test, dite_eq_ite, Bool.false_eq_true]
        exact ⟨_, rfl, by congr 1; rw [w64_eq]; omega⟩
      · have e5 : (v / 9223372036854775808 != 0) = true := by rw [bne_iff_ne]; exact h3
        simp only [h1, e2, h4, e4, e5, if_true, if_false, Option.bind_some, PT.ev, PT.test, dite_eq_ite, Bool.false_eq_true]
        exact ⟨_, rfl, by rw [hd_hi (by omega), hd_hi (by omega)]⟩
theorem qmul (a b : Int) : F125 a b = some (.a0 (mul a b)) := by
  simp only [F125, D125, PT.ev, PT.test, dite_eq_ite, bnd_def, qhold]
  have h1 := hd_bd a
  have h2 := hd_bd b
  rw [qproduct _ _ (by omega) (by omega)]
  obtain ⟨v, e1, e2⟩ := qdown _ (prod_bd _ _ h1 h2)
  simp only [Option.bind_some, PT.ev, PT.test, dite_eq_ite, bnd_def, e1, qhold, e2]; rfl
theorem qmid (a b t : Int) : F134 a b t = some (.a0 (add (hd a) (mul (add b (w64 (0 - hd a))) t))) := by
  simp only [F134, D134, PT.ev, PT.test, dite_eq_ite, bnd_def, qhold, qadd, qmul, Option.bind_some]
end Go.Proofs.YtifalphladcdcaaGreat.H

/- The document's products: 128 bits by One. Conditions: those stated. -/
namespace Go.Proofs.YtifalphladcdcaaGreat.H
open Go Go.VM
set_option maxRecDepth 100000
theorem u64pos (x : Int) : 0 ≤ IntKind.u64.wrap x := by rw [u64w]; omega
theorem or47 (x y : Int) (hx : 0 ≤ x) (hy : 0 ≤ y ∧ y < 140737488355328) : IntKind.wrap IntKind.u64 (↑(BitVec.toNat (BitVec.ofInt (IntKind.bits IntKind.u64) (IntKind.wrap IntKind.u64 (x * 140737488355328)) ||| BitVec.ofInt (IntKind.bits IntKind.u64) y)) : Int) = (x * 140737488355328) % 18446744073709551616 + y := by
  rw [u64w (x * 140737488355328)]
  exact bits_join .u64 64 (by decide) (fun n h h' => by rw [u64w]; omega) 47 _ y (by omega) (by omega) (by omega) hy.1 (by omega) (by omega)
theorem add_hd (a b : Int) : add (hd a) b = add a b := by unfold add; rw [hd_hd]
def mid (a b t : Int) : Int := add a (mul (add b (w64 (0 - hd a))) t)
theorem qmid' (a b t : Int) : F134 a b t = some (.a0 (mid a b t)) := by rw [qmid, add_hd]; rfl
def pl (a : Int) : Int := cl a (-536870912) 536870912
def ap (a x b y c : Int) : Int := pl (add (add (mul a x) (mul b y)) c)
abbrev Mt := W59
theorem apply_q (m : Mt) (x y : Int) : F198 m x y = some (.a0 (ap m.c0 x m.c2 y m.c4) (ap m.c1 x m.c3 y m.c5)) := by
  simp only [F198, D198, F137, D137, PT.ev, PT.test, dite_eq_ite, bnd_def, qmul, qadd, qplace, Option.bind_some, ap, pl]
end Go.Proofs.YtifalphladcdcaaGreat.H

/- One map after another: the program's and the document's are the same. Conditions: those stated. -/
namespace Go.Proofs.YtifalphladcdcaaGreat.H
open Go Go.VM
set_option maxRecDepth 100000
def two (a b c d : Int) : Int := add (mul a b) (mul c d)
theorem qtwo (a b c d : Int) : F137 a b c d = some (.a0 (two a b c d)) := by
  simp only [F137, D137, PT.ev, PT.test, dite_eq_ite, bnd_def, qmul, qadd, Option.bind_some, two]
theorem add_zero (a : Int) (h : hd a = a) : add a 0 = a := by
  have e : hd 0 = 0 := by decide
  unfold add
  rw [e, h, Int.add_zero, h]
theorem two_hd (a b c d : Int) : hd (two a b c d) = two a b c d := hd_of (add_bd _ _).1 (add_bd _ _).2
def aftv (m n : Mt) : Mt := ⟨two m.c0 n.c0 m.c2 n.c1, two m.c1 n.c0 m.c3 n.c1, two m.c0 n.c2 m.c2 n.c3, two m.c1 n.c2 m.c3 n.c3, add (two m.c0 n.c4 m.c2 n.c5) m.c4, add (two m.c1 n.c4 m.c3 n.c5) m.c5⟩
theorem qafter (m n : Mt) : F79 m n = some (.a0 (aftv m n)) := by
  simp only [F79, D79, PT.ev, PT.test, dite_eq_ite, bnd_def, qtwo, qadd, Option.bind_some, aftv]
end Go.Proofs.YtifalphladcdcaaGreat.H

/- Curves of time, how far what lies between two has gone, whether a key may be: in plain Lean over what the functions compute. Conditions: those stated. -/
namespace Go.Proofs.YtifalphladcdcaaGreat.H
open Go Go.VM
set_option maxRecDepth 100000
def bendv (a b t : Int) : Int :=
  add (add (mul (w64 (3 * mul (mul (w64 (65536 - cl t 0 65536)) (w64 (65536 - cl t 0 65536))) (cl t 0 65536))) a) (mul (w64 (3 * mul (mul (w64 (65536 - cl t 0 65536)) (cl t 0 65536)) (cl t 0 65536))) b)) (mul (mul (cl t 0 65536) (cl t 0 65536)) (cl t 0 65536))
theorem qbend (a b t : Int) : F231 a b t = some (.a0 (bendv a b t)) := by
  simp only [F231, D231, PT.ev, PT.test, dite_eq_ite, bnd_def, qclamp, qmul, qadd, Option.bind_some, bendv]
/-- A curve's time, halved so many times. -/
def halve (x X1 X2 : Int) : Nat → Int → Int → Int
  | 0, lo, _ => lo
  | n + 1, lo, hi => if bendv X1 X2 ((lo + hi) / 2) ≤ x then halve x X1 X2 n ((lo + hi) / 2) hi else halve x X1 X2 n lo ((lo + hi) / 2)
theorem qcurve_loop (x X1 Y1 X2 Y2 : Int) : ∀ (n m i : Nat) (lo hi : Int), 0 ≤ lo ∧ lo ≤ 65536 → 0 ≤ hi ∧ hi ≤ 65536 → i + m = 16 → m < n →
    L191_1 n (.s0 (.mk x lo hi i X1 Y1 X2 Y2)) = some (.e0 (.mk (halve x X1 X2 m lo hi) X1 Y1 X2 Y2))
  | 0, m, i, lo, hi, _, _, h1, h2 => by omega
  | n + 1, 0, i, lo, hi, hl, hh, h1, h2 => by
    rw [L191_1_s0]
    simp only [D191_1, PT.ev, PT.test, dite_eq_ite, if_neg (show ¬ (i : Int) < 16 by omega), N191_1.nx, halve]
  | n + 1, m + 1, i, lo, hi, hl, hh, h1, h2 => by
    rw [L191_1_s0]
    have e : Int.fdiv (w64 (lo + hi)) 2 = (lo + hi) / 2 := by rw [fd (by decide), w64_in (by omega) (by omega)]
    have e2 : w64 ((i : Int) + 1) = ((i + 1 : Nat) : Int) := by rw [w64_in (by omega) (by omega)]; omega
    simp only [D191_1, PT.ev, PT.test, dite_eq_ite, if_pos (show (i : Int) < 16 by omega), e, e2, qbend, Option.bind_some, halve]
    by_cases h : bendv X1 X2 ((lo + hi) / 2) ≤ x
    · rw [if_pos h, if_pos h, N191_1.nx]
      exact qcurve_loop x X1 Y1 X2 Y2 n m (i + 1) _ _ (by omega) hh (by omega) (by omega)
    · rw [if_neg h, if_neg h, N191_1.nx]
      exact qcurve_loop x X1 Y1 X2 Y2 n m (i + 1) _ _ hl (by omega) (by omega) (by omega)
def curvev (X1 Y1 X2 Y2 x : Int) : Int := if x ≤ 0 then 0 else if x ≥ 65536 then 65536 else bendv Y1 Y2 (halve x X1 X2 16 0 65536)
theorem qcurve (X1 Y1 X2 Y2 x : Int) : F191 X1 Y1 X2 Y2 x = some (.a0 (curvev X1 Y1 X2 Y2 x)) := by
  have h := qcurve_loop x X1 Y1 X2 Y2 18446744073709551616 16 0 0 65536 (by decide) (by decide) (by decide) (by decide)
  rw [show ((0 : Nat) : Int) = 0 by rfl] at h
  simp only [F191, D191, PT.ev, PT.test, dite_eq_ite, curvev, h, Option.bind_some, qbend]
  split
  · rfl
  · split <;> rfl
def goesv (how X1 Y1 X2 Y2 p : Int) : Int := if how = 0 then (if p ≥ 65536 then 65536 else 0) else if how = 1 then p else if how = 2 then curvev X1 Y1 X2 Y2 p else 0
theorem qgoes (how X1 Y1 X2 Y2 p : Int) : F135 how X1 Y1 X2 Y2 p = some (.a0 (goesv how X1 Y1 X2 Y2 p)) := by
  simp only [F135, D135, PT.ev, PT.test, dite_eq_ite, goesv, qcurve, Option.bind_some, beq_iff_eq]
  by_cases h0 : how = 0
  · subst h0
    simp only [if_true, if_neg (show ¬ (0 : Int) = 1 by decide), if_neg (show ¬ (0 : Int) = 2 by decide)]
    split <;> rfl
  · simp only [h0, if_false]
    split
    · rfl
    · split <;> rfl
def partv (a b t : Int) : Int := if hd t ≤ hd a then 0 else if hd t ≥ hd b then 65536 else w64 (Int.tdiv (w64 (w64 (hd t - hd a) * 65536)) (w64 (hd b - hd a)))
theorem qpart (a b t : Int) : F136 a b t = some (.a0 (partv a b t)) := by
  have h1 := hd_bd a
  have h2 := hd_bd b
  have h3 := hd_bd t
  simp only [F136, D136, PT.ev, PT.test, dite_eq_ite, bnd_def, qhold, partv]
  split
  · rfl
  · split
    · rfl
    · rw [if_neg (by rw [w64_in (by omega) (by omega)]; omega)]
end Go.Proofs.YtifalphladcdcaaGreat.H

/- Paths: whether they may be, whether they fit, what lies between two, mapped ones: the program's and the document's tell the same. Plain Lean over what the functions compute. Conditions: those stated. -/
namespace Go.Proofs.YtifalphladcdcaaGreat.H
open Go Go.VM
set_option maxRecDepth 100000
abbrev Pt := W28
theorem wi {i : Nat} (h : (i : Int) < 9223372036854775807) : w64 ((i : Int) + 1) = ((i + 1 : Nat) : Int) := by rw [w64_in (by omega) (by omega)]; omega
theorem rp_len (ps : List Pt) : (Rp ps).length = ps.length := List.length_map ..
theorem take_rp (ps : List Pt) : List.take ps.length (Rp ps) = Rp ps := List.take_of_length_le (by rw [rp_len]; exact Nat.le_refl _)
def nr (z : Int) : Bool := decide (-67108864 ≤ z) && decide (z ≤ 67108864)
def nrp (p : Pt) : Bool := nr p.c0 && nr p.c1
theorem qnear (z : Int) : F228 z = nr z := by
  simp only [F228, D228, PT.evT, PT.test, dite_eq_ite, nr, ge_iff_le]
  by_cases h : -67108864 ≤ z <;> simp [h]
theorem qnot (x y : Int) : F227 x y = !(nr x && nr y) := by
  simp only [F227, D227, PT.evT, PT.test, dite_eq_ite, bnd_def, qnear]
  cases nr x <;> cases nr y <;> rfl
theorem idx_loop (ps : List Pt) (hl : (ps.length : Int) < 4611686018427387904) : ∀ (n i : Nat), i ≤ ps.length → ps.length < n + i →
    (L262_0 n (.s0 (.mk (Rp ps) ps.length i)) = some .e1 ∧ (ps.drop i).all nrp = true) ∨
    (∃ j : Nat, L262_0 n (.s0 (.mk (Rp ps) ps.length i)) = some (.e0 (.mk j)) ∧ (ps.drop i).all nrp = false)
  | 0, i, h1, h2 => by omega
  | n + 1, i, h1, h2 => by
    rw [L262_0_s0]
    by_cases h : i < ps.length
    · simp only [D262_0, PT.ev, PT.test, dite_eq_ite, if_pos (show (i : Int) < (ps.length : Int) by omega), if_pos (show (0 : Int) ≤ (i : Int) by omega), Int.toNat_natCast, rp_get, List.getElem?_eq_getElem h, Option.bind_some, bnd_def, qnot]
      rw [List.drop_eq_getElem_cons h, List.all_cons, show nrp ps[i] = (nr ps[i].c0 && nr ps[i].c1) from rfl]
      cases (nr ps[i].c0 && nr ps[i].c1) with
      | false => exact .inr ⟨i, by simp only [Bool.not_false, if_true, N262_0.nx], by simp⟩
      | true =>
        simp only [Bool.not_true, Bool.false_eq_true, if_false, N262_0.nx, Bool.true_and]
        rw [wi (by omega)]
        exact idx_loop ps hl n (i + 1) h (by omega)
    · simp only [D262_0, PT.ev, PT.test, dite_eq_ite, if_neg (show ¬ (i : Int) < (ps.length : Int) by omega), N262_0.nx]
      refine .inl ⟨trivial, ?_⟩
      rw [List.drop_eq_nil_of_le (by omega)]; rfl
theorem contains_eq (ps : List Pt) (hl : (ps.length : Int) < 4611686018427387904) : F226 (Rp ps) = some (.a0 (!ps.all nrp)) := by
  have h := idx_loop ps hl 18446744073709551616 0 (by omega) (by omega)
  rw [List.drop_zero, show ((0 : Nat) : Int) = 0 from rfl] at h
  simp only [F226, D226, F262, D262, PT.ev, PT.test, dite_eq_ite, rp_len]
  rcases h with ⟨h1, h2⟩ | ⟨j, h1, h2⟩
  · rw [h1, h2]; simp only [Option.bind_some, PT.ev, PT.test, dite_eq_ite]; rfl
  · rw [h1, h2]; simp only [Option.bind_some, PT.ev, PT.test, dite_eq_ite]
    rw [decide_eq_true (show (j : Int) ≥ 0 by omega)]; rfl
def rightv (c : Bool) (ps : List Pt) : Bool := if ps.length = 0 then !c else decide (4 ≤ ps.length) && (decide (ps.length ≤ 97) && (decide (ps.length % 3 = 1) && ps.all nrp))
theorem mod3 (n : Nat) : (Int.tmod (n : Int) 3 == 1) = decide (n % 3 = 1) := by
  rw [Int.tmod_eq_emod_of_nonneg (by omega)]
  by_cases h : n % 3 = 1
  · rw [decide_eq_true h, beq_iff_eq]; omega
  · rw [decide_eq_false h, beq_eq_false_iff_ne]; omega
theorem qright (c : Bool) (ps : List Pt) (hl : (ps.length : Int) < 4611686018427387904) : F177 c (Rp ps) = some (.a0 (rightv c ps)) := by
  simp only [F177, D177, PT.ev, PT.test, dite_eq_ite, rp_len, contains_eq ps hl, Option.bind_some, mod3, rightv, beq_iff_eq]
  by_cases h0 : ps.length = 0
  · rw [if_pos (show (ps.length : Int) = 0 by omega), if_pos h0]
  · rw [if_neg (show ¬ (ps.length : Int) = 0 by omega), if_neg h0]
    by_cases h1 : 4 ≤ ps.length
    · rw [if_pos (show (ps.length : Int) ≥ 4 by omega), decide_eq_true h1]
      by_cases h2 : ps.length ≤ 97
      · rw [if_pos (show (ps.length : Int) ≤ 97 by omega), decide_eq_true h2]
        by_cases h3 : ps.length % 3 = 1
        · rw [decide_eq_true h3]; simp
        · rw [decide_eq_false h3]; simp
      · rw [if_neg (show ¬ (ps.length : Int) ≤ 97 by omega), decide_eq_false h2]; rfl
    · rw [if_neg (show ¬ (ps.length : Int) ≥ 4 by omega), decide_eq_false h1]; rfl
def fitsv (c : Bool) (ps : List Pt) (d : Bool) (qs : List Pt) : Bool := decide (ps.length = qs.length) && (c == d)
theorem leneq (n m : Nat) : ((n : Int) == (m : Int)) = decide (n = m) := by
  by_cases h : n = m
  · rw [decide_eq_true h, beq_iff_eq]; omega
  · rw [decide_eq_false h, beq_eq_false_iff_ne]; omega
theorem qfits (c : Bool) (ps : List Pt) (d : Bool) (qs : List Pt) : F178 c (Rp ps) d (Rp qs) = fitsv c ps d qs := by
  simp only [F178, D178, PT.evT, PT.test, dite_eq_ite, rp_len, leneq, fitsv]
  by_cases h : ps.length = qs.length
  · simp only [decide_eq_true h, if_true, Bool.true_and]
  · simp only [decide_eq_false h, Bool.false_eq_true, if_false, Bool.false_and]
theorem qempty (c : Bool) (ps : List Pt) : F146 c (Rp ps) = decide (ps.length = 0) := by
  simp only [F146, D146, PT.evT, PT.test, dite_eq_ite, rp_len]
  exact leneq ps.length 0
/-! ### The same points -/
def eqp (p q : Pt) : Bool := p.c0 == q.c0 && (p.c1 == q.c1 && true)
def eqs : List Pt → List Pt → Bool
  | [], [] => true
  | p :: ps, q :: qs => eqp p q && eqs ps qs
  | _, _ => false
theorem eqs_refl : ∀ ps : List Pt, eqs ps ps = true
  | [] => rfl
  | p :: ps => by simp [eqs, eqp, eqs_refl ps]
theorem eqs_len : ∀ ps qs : List Pt, ps.length ≠ qs.length → eqs ps qs = false
  | [], [], h => absurd rfl h
  | [], _ :: _, _ => rfl
  | _ :: _, [], _ => rfl
  | p :: ps, q :: qs, h => by rw [eqs, eqs_len ps qs (fun e => h (by simp [e])), Bool.and_false]
theorem qeq_loop (ps qs : List Pt) (he : ps.length = qs.length) (hl : (ps.length : Int) < 4611686018427387904) : ∀ (n i : Nat), i ≤ ps.length → ps.length < n + i →
    L161_0 n (.s0 (.mk (Rp ps) (Rp qs) ps.length i)) = some (if eqs (ps.drop i) (qs.drop i) = true then .e1 else .e0)
  | 0, i, h1, h2 => by omega
  | n + 1, i, h1, h2 => by
    rw [L161_0_s0]
    by_cases h : i < ps.length
    · have h' : i < qs.length := by omega
      simp only [D161_0, PT.ev, PT.test, dite_eq_ite, if_pos (show (i : Int) < (ps.length : Int) by omega), if_pos (show (0 : Int) ≤ (i : Int) by omega), Int.toNat_natCast, rp_get, List.getElem?_eq_getElem h, List.getElem?_eq_getElem h', Option.bind_some]
      rw [List.drop_eq_getElem_cons h, List.drop_eq_getElem_cons h', eqs, show eqp ps[i] qs[i] = (ps[i].c0 == qs[i].c0 && (ps[i].c1 == qs[i].c1 && true)) from rfl]
      cases (ps[i].c0 == qs[i].c0 && (ps[i].c1 == qs[i].c1 && true)) with
      | false => rfl
      | true =>
        simp only [Bool.not_true, Bool.false_eq_true, if_false, N161_0.nx, Bool.true_and]
        rw [wi (by omega)]
        exact qeq_loop ps qs he hl n (i + 1) h (by omega)
    · simp only [D161_0, PT.ev, PT.test, dite_eq_ite, if_neg (show ¬ (i : Int) < (ps.length : Int) by omega), N161_0.nx]
      rw [List.drop_eq_nil_of_le (by omega), List.drop_eq_nil_of_le (by omega)]; rfl
theorem qequal (ps qs : List Pt) (hl : (ps.length : Int) < 4611686018427387904) : F161 (Rp ps) (Rp qs) = some (.a0 (eqs ps qs)) := by
  simp only [F161, D161, PT.ev, PT.test, dite_eq_ite, rp_len, bne, leneq]
  by_cases he : ps.length = qs.length
  · have h := qeq_loop ps qs he hl 18446744073709551616 0 (by omega) (by omega)
    rw [List.drop_zero, List.drop_zero, show ((0 : Nat) : Int) = 0 from rfl] at h
    simp only [decide_eq_true he, Bool.not_true, Bool.false_eq_true, if_false, h, Option.bind_some]
    cases eqs ps qs <;> rfl
  · simp only [decide_eq_false he, Bool.not_false, if_true, eqs_len _ _ he]
theorem req_loop (ps qs : List Pt) (he : ps.length = qs.length) (hl : (ps.length : Int) < 4611686018427387904) : ∀ (n i : Nat), i ≤ ps.length → ps.length < n + i →
    L108_0 n (.s0 (.mk (Rp ps) (Rp qs) i)) = some (if eqs (ps.drop i) (qs.drop i) = true then .e1 else .e0)
  | 0, i, h1, h2 => by omega
  | n + 1, i, h1, h2 => by
    rw [L108_0_s0]
    by_cases h : i < ps.length
    · have h' : i < qs.length := by omega
      simp only [D108_0, PT.ev, PT.test, dite_eq_ite, rp_len, if_pos (show (i : Int) < (ps.length : Int) by omega), if_pos (show (0 : Int) ≤ (i : Int) by omega), Int.toNat_natCast, rp_get, List.getElem?_eq_getElem h, List.getElem?_eq_getElem h', Option.bind_some]
      rw [List.drop_eq_getElem_cons h, List.drop_eq_getElem_cons h', eqs, show eqp ps[i] qs[i] = (ps[i].c0 == qs[i].c0 && (ps[i].c1 == qs[i].c1 && true)) from rfl]
      cases (ps[i].c0 == qs[i].c0 && (ps[i].c1 == qs[i].c1 && true)) with
      | false => rfl
      | true =>
        simp only [Bool.not_true, Bool.false_eq_true, if_false, N108_0.nx, Bool.true_and]
        rw [wi (by omega)]
        exact req_loop ps qs he hl n (i + 1) h (by omega)
    · simp only [D108_0, PT.ev, PT.test, dite_eq_ite, rp_len, if_neg (show ¬ (i : Int) < (ps.length : Int) by omega), N108_0.nx]
      rw [List.drop_eq_nil_of_le (by omega), List.drop_eq_nil_of_le (by omega)]; rfl
theorem rpoints (ps qs : List Pt) (hl : (ps.length : Int) < 4611686018427387904) : F108 (Rp ps) (Rp qs) = some (.a0 (eqs ps qs)) := by
  simp only [F108, D108, PT.ev, PT.test, dite_eq_ite, rp_len, bne, leneq]
  by_cases he : ps.length = qs.length
  · have h := req_loop ps qs he hl 18446744073709551616 0 (by omega) (by omega)
    rw [List.drop_zero, List.drop_zero, show ((0 : Nat) : Int) = 0 from rfl] at h
    simp only [decide_eq_true he, Bool.not_true, Bool.false_eq_true, if_false, h, Option.bind_some]
    cases eqs ps qs <;> rfl
  · simp only [decide_eq_false he, Bool.not_false, if_true, eqs_len _ _ he]
def samev (c : Bool) (ps : List Pt) (d : Bool) (qs : List Pt) : Bool := (c == d) && eqs ps qs
theorem qsame (c : Bool) (ps : List Pt) (d : Bool) (qs : List Pt) (hl : (ps.length : Int) < 4611686018427387904) : F299 c (Rp ps) d (Rp qs) = some (.a0 (samev c ps d qs)) := by
  simp only [F299, D299, PT.ev, PT.test, dite_eq_ite, qequal ps qs hl, Option.bind_some, samev]
  cases (c == d) <;> rfl
/-! ### What lies between two -/
def mp (t : Int) (p q : Pt) : Pt := ⟨mid p.c0 q.c0 t, mid p.c1 q.c1 t⟩
def morphv (c : Bool) (ps : List Pt) (d : Bool) (qs : List Pt) (t : Int) : List Pt := if fitsv c ps d qs = true then List.zipWith (mp t) ps qs else ps
theorem clone_eq (ps : List Pt) (hl : (ps.length : Int) * 16 ≤ 140737488355328) : F224 (Rp ps) = some (.a0 (Rp ps)) := by
  unfold F224
  rw [rp_len, if_pos ⟨by omega, by omega⟩]
theorem set_mix (f : Pt → Pt → Pt) (ps qs : List Pt) (i : Nat) (h : i < ps.length) (h' : i < qs.length) :
    ((List.zipWith f ps qs).take i ++ ps.drop i).set i (f ps[i] qs[i]) = (List.zipWith f ps qs).take (i + 1) ++ ps.drop (i + 1) := by
  have hz : i < (List.zipWith f ps qs).length := by rw [List.length_zipWith]; omega
  have hlt : ((List.zipWith f ps qs).take i).length = i := by rw [List.length_take]; omega
  rw [List.set_append_right _ _ (by omega), hlt, Nat.sub_self, List.drop_eq_getElem_cons h, List.set_cons_zero, List.take_add_one, List.getElem?_eq_getElem hz, List.getElem_zipWith]
  simp
theorem qmorph_loop (t : Int) (c : Bool) (ps qs : List Pt) (he : ps.length = qs.length) (hl : (ps.length : Int) < 4611686018427387904) : ∀ (n i : Nat), i ≤ ps.length → ps.length < n + i →
    L171_0 n (.s0 (.mk t (Rp qs) qs.length i c (Rp ps) ps.length (Rp ((List.zipWith (mp t) ps qs).take i ++ ps.drop i)))) = some (.e0 (.mk c ps.length (Rp (List.zipWith (mp t) ps qs))))
  | 0, i, h1, h2 => by omega
  | n + 1, i, h1, h2 => by
    rw [L171_0_s0]
    by_cases h : i < ps.length
    · have h' : i < qs.length := by omega
      have hm : i < ((List.zipWith (mp t) ps qs).take i ++ ps.drop i).length := by
        rw [List.length_append, List.length_take, List.length_drop, List.length_zipWith]; omega
      simp only [D171_0, PT.ev, PT.test, dite_eq_ite, if_pos (show (i : Int) < (qs.length : Int) by omega), if_pos (show (0 : Int) ≤ (i : Int) by omega), Int.toNat_natCast, rp_get, List.getElem?_eq_getElem h, List.getElem?_eq_getElem h', Option.bind_some, qmid', Nat.zero_add]
      rw [if_pos (by omega), List.getElem?_eq_getElem hm, Option.bind_some, N171_0.nx, wi (by omega)]
      have e : List.set (Rp ((List.zipWith (mp t) ps qs).take i ++ ps.drop i)) i [i64 (mid ps[i].c0 qs[i].c0 t), i64 (mid ps[i].c1 qs[i].c1 t)] = Rp ((List.zipWith (mp t) ps qs).take (i + 1) ++ ps.drop (i + 1)) := by
        rw [← set_mix (mp t) ps qs i h h']; exact (List.map_set (f := W28.cells) (a := mp t ps[i] qs[i])).symm
      rw [e]
      exact qmorph_loop t c ps qs he hl n (i + 1) h (by omega)
    · simp only [D171_0, PT.ev, PT.test, dite_eq_ite, if_neg (show ¬ (i : Int) < (qs.length : Int) by omega), N171_0.nx]
      rw [List.drop_eq_nil_of_le (by omega), List.append_nil, List.take_of_length_le (by rw [List.length_zipWith]; omega)]
theorem qmorph (c : Bool) (ps : List Pt) (d : Bool) (qs : List Pt) (t : Int) (hl : (ps.length : Int) * 16 ≤ 140737488355328) :
    F171 c (Rp ps) d (Rp qs) t = some (.a0 c ps.length (Rp (morphv c ps d qs t))) := by
  simp only [F171, D171, PT.ev, PT.test, dite_eq_ite, clone_eq ps hl, Option.bind_some, bnd_def, qfits, rp_len, morphv]
  cases hf : fitsv c ps d qs with
  | false => simp only [Bool.not_false, if_true, Bool.false_eq_true, if_false]
  | true =>
    have he : ps.length = qs.length := by
      unfold fitsv at hf
      rw [Bool.and_eq_true] at hf
      exact of_decide_eq_true hf.1
    have h := qmorph_loop t c ps qs he (by omega) 18446744073709551616 0 (by omega) (by omega)
    rw [List.drop_zero, List.take_zero, List.nil_append, show ((0 : Nat) : Int) = 0 from rfl] at h
    simp only [Bool.not_true, Bool.false_eq_true, if_false, if_true, h, Option.bind_some, PT.ev, PT.test, dite_eq_ite]
end Go.Proofs.YtifalphladcdcaaGreat.H

/- Paths, on: the document's morph, mapped paths, keys of paths, the path at a tick: the program's and the document's tell the same. Conditions: those stated. -/
namespace Go.Proofs.YtifalphladcdcaaGreat.H
open Go Go.VM
set_option maxRecDepth 100000
theorem push_rp (res : List Pt) (i : Nat) (h : i < res.length) : List.take i (Rp (res.take i)) ++ [(res[i]).cells] = Rp (res.take (i + 1)) := by
  rw [List.take_of_length_le (by rw [rp_len, List.length_take]; omega), List.take_add_one, List.getElem?_eq_getElem h, Option.toList_some]
  simp only [Rp, List.map_append, List.map_cons, List.map_nil]
theorem morph_len (c : Bool) (ps : List Pt) (d : Bool) (qs : List Pt) (t : Int) : (morphv c ps d qs t).length = ps.length := by
  unfold morphv
  split
  · rename_i h
    unfold fitsv at h
    rw [Bool.and_eq_true] at h
    have := of_decide_eq_true h.1
    rw [List.length_zipWith]; omega
  · rfl
/-! ### Mapped -/
def apm (m : Mt) (p : Pt) : Pt := ⟨ap m.c0 p.c0 m.c2 p.c1 m.c4, ap m.c1 p.c0 m.c3 p.c1 m.c5⟩
theorem set_map (g : Pt → Pt) (ps : List Pt) (i : Nat) (h : i < ps.length) : ((ps.map g).take i ++ ps.drop i).set i (g ps[i]) = (ps.map g).take (i + 1) ++ ps.drop (i + 1) := by
  have hz : i < (ps.map g).length := by rw [List.length_map]; omega
  have hlt : ((ps.map g).take i).length = i := by rw [List.length_take]; omega
  rw [List.set_append_right _ _ (by omega), hlt, Nat.sub_self, List.drop_eq_getElem_cons h, List.set_cons_zero, List.take_add_one, List.getElem?_eq_getElem hz, List.getElem_map]
  simp
/-! ### The law's first half -/
end Go.Proofs.YtifalphladcdcaaGreat.H

/- Keys of paths, and the path at a tick: the program's and the document's tell the same. Conditions: those stated. -/
namespace Go.Proofs.YtifalphladcdcaaGreat.H
open Go Go.VM
set_option maxRecDepth 100000
abbrev PK := W100
abbrev Rk (ks : List PK) : List (List V) := ks.map W100.cells
theorem rk_get (ks : List PK) (i : Nat) : ((Rk ks)[i]?).bind W100.dec = ks[i]? := by
  simp only [Rk, List.getElem?_map]
  cases ks[i]? <;> rfl
theorem rk_len (ks : List PK) : (Rk ks).length = ks.length := List.length_map ..
theorem qwithin (n lo hi : Int) : F229 n lo hi = (decide (lo ≤ n) && decide (n ≤ hi)) := by
  simp only [F229, D229, PT.evT, PT.test, dite_eq_ite, ge_iff_le]
  by_cases h : lo ≤ n <;> simp [h]
def easev (a b c d : Int) : Bool := (decide (0 ≤ a ∧ a ≤ 65536) && decide (0 ≤ c ∧ c ≤ 65536)) && (decide (-131072 ≤ b ∧ b ≤ 196608) && decide (-131072 ≤ d ∧ d ≤ 196608))
theorem ease_eq (a b c d : Int) : F179 a b c d = easev a b c d := by
  simp only [F179, D179, PT.evT, PT.test, dite_eq_ite, bnd_def, qwithin, easev, Bool.decide_and]
  generalize decide (0 ≤ a) = x1
  generalize decide (a ≤ 65536) = x2
  generalize decide (0 ≤ c) = x3
  generalize decide (c ≤ 65536) = x4
  cases x1 <;> cases x2 <;> cases x3 <;> cases x4 <;> simp
def ways (how a b c d : Int) : Bool := if how = 2 then easev a b c d else (decide (how = 0) || decide (how = 1)) && (a == 0 && (b == 0 && (c == 0 && (d == 0 && true))))
def movesv (t how a b c d : Int) : Bool := (decide (-1073741824 ≤ t) && decide (t ≤ 1073741824)) && ways how a b c d
theorem qstep (i : Nat) (ahead t how a b c d : Int) : F114 i ahead t how a b c d = some (.a0 (movesv t how a b c d && decide (0 < i → ahead < t))) := by
  simp only [F114, D114, J114_r1, D114_r1, PT.ev, PT.test, dite_eq_ite, bnd_def, ease_eq, movesv, ways, beq_iff_eq]
  by_cases h1 : t < -1073741824
  · simp only [h1, if_true, Option.bind_some, PT.ev, PT.test, dite_eq_ite, decide_eq_false (show ¬ -1073741824 ≤ t by omega), Bool.false_and]
  · by_cases h2 : t > 1073741824
    · simp only [h1, h2, if_true, if_false, Option.bind_some, PT.ev, PT.test, dite_eq_ite, decide_eq_false (show ¬ t ≤ 1073741824 by omega), Bool.and_false, Bool.false_and]
    · have e1 : decide (-1073741824 ≤ t) = true := decide_eq_true (by omega)
      have e2 : decide (t ≤ 1073741824) = true := decide_eq_true (by omega)
      have key : ∀ q : Bool, decide (0 < i → ahead < t) = !q →
          (if q = true then some (A114.a0 false) else if how = 2 then some (.a0 (easev a b c d)) else if how = 0 then some (.a0 (a == 0 && (b == 0 && (c == 0 && (d == 0 && true))))) else if how = 1 then some (.a0 (a == 0 && (b == 0 && (c == 0 && (d == 0 && true))))) else some (.a0 false))
            = some (.a0 ((true && true && if how = 2 then easev a b c d else (decide (how = 0) || decide (how = 1)) && (a == 0 && (b == 0 && (c == 0 && (d == 0 && true))))) && decide (0 < i → ahead < t))) := by
        intro q hq
        rw [hq]
        cases q with
        | true => simp
        | false =>
          simp only [Bool.false_eq_true, if_false, Bool.not_false, Bool.and_true, Bool.true_and]
          by_cases g2 : how = 2
          · simp only [g2, if_true]
          · by_cases g0 : how = 0
            · simp [g0]
            · by_cases g1 : how = 1
              · simp [g1]
              · simp [g0, g1, g2]
      rw [e1, e2]
      by_cases h3 : (i : Int) > 0
      · simp only [h1, h2, h3, if_true, if_false, Option.bind_some, PT.ev, PT.test, dite_eq_ite]
        by_cases h4 : t ≤ ahead
        · simp only [decide_eq_true h4]
          exact key true (by rw [Bool.not_true]; exact decide_eq_false (fun h => by have := h (by omega); omega))
        · simp only [decide_eq_false h4]
          exact key false (by rw [Bool.not_false]; exact decide_eq_true (fun _ => by omega))
      · simp only [h1, h2, h3, if_true, if_false, Option.bind_some, PT.ev, PT.test, dite_eq_ite]
        exact key false (by rw [Bool.not_false]; exact decide_eq_true (fun h => by omega))
/-- A key whose path's points are few, and held. -/
structure Gk (k : PK) : Prop where
  ps : ∃ ps : List Pt, k.c2 = Rp ps ∧ (ps.length : Int) * 16 ≤ 140737488355328 ∧ ∀ p ∈ ps, hd p.c0 = p.c0 ∧ hd p.c1 = p.c1
/-- A key whose path's points are few. -/
structure Gw (k : PK) : Prop where
  ps : ∃ ps : List Pt, k.c2 = Rp ps ∧ (ps.length : Int) * 16 ≤ 140737488355328
theorem Gk.gw {k : PK} (g : Gk k) : Gw k := by obtain ⟨ps, a, b, _⟩ := g.ps; exact ⟨ps, a, b⟩
end Go.Proofs.YtifalphladcdcaaGreat.H

/- Numbers of tapes, in plain Lean over what the functions compute. Conditions: those stated. -/
namespace Go.Proofs.YtifalphladcdcaaGreat.H
open Go Go.VM
set_option maxRecDepth 100000
theorem within_ex (x : Int) : ∃ v : Int, F19 x 0 1073741824 = some (.a0 v) ∧ 0 ≤ v := by
  have hq : w64 (w64 (1073741824 - 0) + 1) = 1073741825 := by decide
  simp only [F19, D19, PT.ev, PT.test, dite_eq_ite, hq]
  by_cases h1 : 0 ≤ x ∧ x ≤ 1073741824
  · exact ⟨x, by rw [if_pos h1.1, if_pos h1.2], h1.1⟩
  · have t1 : Int.tmod x 1073741825 < 1073741825 := Int.tmod_lt_of_pos x (by decide)
    have t2 : -1073741825 < Int.tmod x 1073741825 := by have := Int.tmod_lt_of_pos (-x) (show (0 : Int) < 1073741825 by decide); rw [Int.neg_tmod] at this; omega
    have go : ∃ v : Int, (if (1073741825 : Int) = 0 then none else if Int.tmod x 1073741825 < 0 then some (A19.a0 (w64 (0 + w64 (w64 (w64 (Int.tmod x 1073741825 + 1073741824) - 0) + 1)))) else some (A19.a0 (w64 (0 + Int.tmod x 1073741825)))) = some (.a0 v) ∧ 0 ≤ v := by
      rw [if_neg (by decide)]
      by_cases h2 : Int.tmod x 1073741825 < 0
      · rw [if_pos h2]
        refine ⟨_, rfl, ?_⟩
        simp only [w64_eq]; omega
      · rw [if_neg h2]
        refine ⟨_, rfl, ?_⟩
        simp only [w64_eq]; omega
    by_cases h3 : x ≥ 0
    · rw [if_pos h3, if_neg (by omega)]; exact go
    · rw [if_neg h3]; exact go
theorem next_ex (tape : List W3) (s a : Int) (hs : 0 ≤ s) (hl : (tape.length : Int) ≤ 9223372036854775807) (ha : 0 < a) : ∃ v s', F43 a (Rt tape) s = some (.a0 v (Rt tape) s') ∧ 0 ≤ v ∧ v < a ∧ 0 ≤ s' := by
  have hlen : (Rt tape).length = tape.length := by simp
  simp only [F43, D43, PT.ev, PT.test, dite_eq_ite, hlen]
  by_cases h : s ≥ (tape.length : Int)
  · exact ⟨0, s, by rw [if_pos h], by omega, ha, hs⟩
  · have hw : w64 (w64 (s + 1) - 1) = s := by rw [w64_in (n := s + 1) (by omega) (by omega), w64_in (by omega) (by omega)]; omega
    have hi : s.toNat < tape.length := by omega
    obtain ⟨v, v1, v2⟩ := within_ex (tape[s.toNat]).c0
    refine ⟨Int.tmod v a, s + 1, ?_, Int.tmod_nonneg _ v2, Int.tmod_lt_of_pos _ ha, by omega⟩
    have ha' : ¬ a = 0 := by omega
    simp only [h, hw, hs, rt_get, List.getElem?_eq_getElem hi, Option.bind_some, v1, PT.ev, PT.test, dite_eq_ite, if_true, if_false, ha']
    rw [w64_in (by omega) (by omega)]
/-- A number of a tape, from lo to hi, and a bit. -/
theorem number_ex (tape : List W3) (lo hi s : Int) (hs : 0 ≤ s) (hl : (tape.length : Int) ≤ 9223372036854775807) (h1 : -1000 ≤ lo) (h2 : lo ≤ hi) (h3 : hi ≤ 1000) :
    ∃ v s', F47 lo hi (Rt tape) s = some (.a0 v (Rt tape) s') ∧ lo * 65536 ≤ v ∧ v ≤ hi * 65536 + 65535 ∧ 0 ≤ s' := by
  have hq : w64 (w64 (hi - lo) + 1) = hi - lo + 1 := by rw [w64_in (n := hi - lo) (by omega) (by omega), w64_in (by omega) (by omega)]
  obtain ⟨v1, s1, e1, l1, u1, p1⟩ := next_ex tape s (hi - lo + 1) hs hl (by omega)
  obtain ⟨v2, s2, e2, l2, u2, p2⟩ := next_ex tape s1 4 p1 hl (by decide)
  obtain ⟨v3, s3, e3, l3, u3, p3⟩ := next_ex tape s2 65536 p2 hl (by decide)
  simp only [F47, D47, PT.ev, PT.test, dite_eq_ite, hq, e1, e2, Option.bind_some]
  have hw : w64 (w64 (lo + v1) * 65536) = (lo + v1) * 65536 := by rw [w64_in (n := lo + v1) (by omega) (by omega), w64_in (by omega) (by omega)]
  by_cases h0 : v2 = 0
  · refine ⟨(lo + v1) * 65536 + 32768, s2, ?_, by omega, by omega, p2⟩
    rw [if_pos (by rw [beq_iff_eq]; exact h0), hw, w64_in (by omega) (by omega)]
  · rw [if_neg (by rw [beq_iff_eq]; exact h0)]
    by_cases h1 : v2 = 1
    · refine ⟨(lo + v1) * 65536 + v3, s3, ?_, by omega, by omega, p3⟩
      simp only [h1, beq_self_eq_true, if_true, e3, Option.bind_some, PT.ev, PT.test, dite_eq_ite, hw]
      rw [w64_in (by omega) (by omega)]
    · refine ⟨(lo + v1) * 65536, s2, ?_, by omega, by omega, p2⟩
      rw [if_neg (by rw [beq_iff_eq]; exact h1), hw]
end Go.Proofs.YtifalphladcdcaaGreat.H

/- The path at a tick; paths and keys of tapes; the statement's functions tell true. Conditions: those stated. -/
namespace Go.Proofs.YtifalphladcdcaaGreat.H
open Go Go.VM
set_option maxRecDepth 100000
/-- The last of the first m keys at a tick, or ahead of it. -/
def lst (ks : List PK) (t : Int) : Nat → Int
  | 0 => -1
  | m + 1 => match ks[m]? with
    | some k => if k.c0 ≤ t then m else lst ks t m
    | none => lst ks t m
theorem lst_bd (ks : List PK) (t : Int) : ∀ m : Nat, -1 ≤ lst ks t m ∧ lst ks t m < m
  | 0 => by simp [lst]
  | m + 1 => by
    have := lst_bd ks t m
    unfold lst
    split
    · split <;> omega
    · omega
theorem down (ks : List PK) (hl : (ks.length : Int) < 4611686018427387904) (t : Int) : ∀ (n m : Nat), m ≤ ks.length → m < n →
    L109_0 n (.s0 (.mk (Rk ks) t ((m : Int) - 1))) = some (.e0 (.mk (Rk ks) t (lst ks t m)))
  | 0, m, _, hn => by omega
  | n + 1, m, hm, hn => by
    rw [L109_0_s0]
    cases m with
    | zero => simp only [D109_0, PT.ev, PT.test, dite_eq_ite, if_neg (show ¬ (((0 : Nat) : Int) - 1 ≥ 0) by omega), N109_0.nx, lst]; rfl
    | succ m =>
      have hi : m < ks.length := by omega
      have e : ((m + 1 : Nat) : Int) - 1 = (m : Int) := by omega
      have hw : w64 ((m : Int) - 1) = (m : Int) - 1 := by rw [w64_in (by omega) (by omega)]
      simp only [D109_0, PT.ev, PT.test, dite_eq_ite, e, if_pos (show (m : Int) ≥ 0 by omega), if_pos (show (0 : Int) ≤ (m : Int) by omega), Int.toNat_natCast, rk_get, List.getElem?_eq_getElem hi, Option.bind_some, N109_0.nx, N109_0.nx, hw, lst]
      by_cases h : ks[m].c0 ≤ t
      · rw [if_neg (by omega), if_pos h]
      · rw [if_pos (by omega), if_neg h]
        exact down ks hl t n m (by omega) (by omega)
theorem mid_self (a : Int) (h : hd a = a) : mid a a 0 = a := by
  have h0 : hd 0 = 0 := rfl
  have hm : ∀ x, mul x 0 = 0 := fun x => by unfold mul; rw [h0, Int.mul_zero]; rfl
  unfold mid
  rw [hm]
  unfold add
  rw [h0, h, Int.add_zero, h]
theorem zip_self : ∀ ps : List Pt, (∀ p ∈ ps, hd p.c0 = p.c0 ∧ hd p.c1 = p.c1) → List.zipWith (mp 0) ps ps = ps
  | [], _ => rfl
  | p :: ps, h => by
    have hp := h p (List.mem_cons_self ..)
    rw [List.zipWith_cons_cons, zip_self ps (fun q hq => h q (List.mem_cons_of_mem _ hq))]
    congr 1
    unfold mp
    rw [mid_self _ hp.1, mid_self _ hp.2]
theorem morph_self (c : Bool) (ps : List Pt) (h : ∀ p ∈ ps, hd p.c0 = p.c0 ∧ hd p.c1 = p.c1) : morphv c ps c ps 0 = ps := by
  unfold morphv
  rw [zip_self ps h, ite_self]
/-! ### Paths of tapes -/
structure Bp (p : Pt) : Prop where
  x : -131072 ≤ p.c0 ∧ p.c0 ≤ 983039
  y : -131072 ≤ p.c1 ∧ p.c1 ≤ 983039
theorem Bp.held {p : Pt} (h : Bp p) : hd p.c0 = p.c0 ∧ hd p.c1 = p.c1 := by
  obtain ⟨⟨a, b⟩, ⟨c, d⟩⟩ := h
  exact ⟨hd_of (by omega) (by omega), hd_of (by omega) (by omega)⟩
theorem point_ex (tape : List W3) (s : Int) (hs : 0 ≤ s) (hl : (tape.length : Int) ≤ 9223372036854775807) :
    ∃ p s', F106 (-2) 14 (Rt tape) s = some (.a0 p.c0 p.c1 (Rt tape) s') ∧ Bp p ∧ 0 ≤ s' := by
  obtain ⟨x, s1, e1, l1, u1, p1⟩ := number_ex tape (-2) 14 s hs hl (by decide) (by decide) (by decide)
  obtain ⟨y, s2, e2, l2, u2, p2⟩ := number_ex tape (-2) 14 s1 p1 hl (by decide) (by decide) (by decide)
  refine ⟨⟨x, y⟩, s2, ?_, ⟨⟨(by omega : -131072 ≤ x), (by omega : x ≤ 983039)⟩, ⟨(by omega : -131072 ≤ y), (by omega : y ≤ 983039)⟩⟩, p2⟩
  simp only [F106, D106, PT.ev, PT.test, dite_eq_ite, e1, e2, Option.bind_some]
theorem push3 (ps : List Pt) (a b c : Pt) : List.take ps.length (Rp ps) ++ [a.cells, b.cells, c.cells] = Rp (ps ++ [a, b, c]) := by
  rw [take_rp]
  simp only [Rp, List.map_append, List.map_cons, List.map_nil]
theorem path_loop (tape : List W3) (hl : (tape.length : Int) ≤ 9223372036854775807) (N : Nat) (hN : N ≤ 40) (c : Bool) : ∀ (m i : Nat) (ps : List Pt) (s : Int), i ≤ N → N < m + i → ps.length = 3 * i + 1 → (∀ p ∈ ps, Bp p) → 0 ≤ s →
    ∃ qs s', L44_0 m (.s0 (.mk N i (Rt tape) s c ps.length (Rp ps))) = some (.e0 (.mk (Rt tape) s' c qs.length (Rp qs))) ∧ qs.length = 3 * N + 1 ∧ (∀ p ∈ qs, Bp p) ∧ 0 ≤ s'
  | 0, i, ps, s, h1, h2, _, _, _ => by omega
  | m + 1, i, ps, s, h1, h2, h3, h4, h5 => by
    rw [L44_0_s0]
    by_cases h : i < N
    · have hw : w64 ((ps.length : Int) - 1) = ((ps.length - 1 : Nat) : Int) := by rw [w64_in (by omega) (by omega)]; omega
      have hg : ps.length - 1 < ps.length := by omega
      obtain ⟨p, s1, e1, b1, p1⟩ := point_ex tape s h5 hl
      obtain ⟨v, s2, e2, l2, u2, p2⟩ := next_ex tape s1 2 p1 hl (by decide)
      have hc : (0 : Int) ≤ ((ps.length - 1 : Nat) : Int) ∧ ((ps.length - 1 : Nat) : Int) < (ps.length : Int) := by omega
      have hk : 0 + ps.length ≤ ps.length ∧ (ps.length + 3) * 16 ≤ 140737488355328 ∧ ps.length + 3 ≤ 140737488355328 := by omega
      simp only [D44_0, PT.ev, PT.test, dite_eq_ite, if_pos (show (i : Int) < (N : Int) by omega), hw, if_pos hc, Int.toNat_natCast, Nat.zero_add, rp_get, List.getElem?_eq_getElem hg, Option.bind_some, e1, e2, rp_len]
      rw [Nat.zero_add] at hk
      have go : ∀ (a b c' : Pt) (s' : Int), Bp a → Bp b → Bp c' → 0 ≤ s' → ∃ qs s'', L44_0 m (.s0 (.mk N (i + 1 : Nat) (Rt tape) s' c (ps.length + 3) (List.take ps.length (Rp ps) ++ [a.cells, b.cells, c'.cells]))) = some (.e0 (.mk (Rt tape) s'' c qs.length (Rp qs))) ∧ qs.length = 3 * N + 1 ∧ (∀ p ∈ qs, Bp p) ∧ 0 ≤ s'' := by
        intro a b c' s' ha hb hc' hs'
        rw [push3]
        have hlen : (ps ++ [a, b, c']).length = ps.length + 3 := by simp
        rw [← hlen]
        refine path_loop tape hl N hN c m (i + 1) (ps ++ [a, b, c']) s' h (by omega) (by rw [hlen]; omega) ?_ hs'
        intro q hq
        rcases List.mem_append.1 hq with hq | hq
        · exact h4 q hq
        · simp only [List.mem_cons, List.not_mem_nil, or_false] at hq
          rcases hq with rfl | rfl | rfl <;> assumption
      by_cases h0 : v = 0
      · simp only [h0, beq_self_eq_true, if_true, if_pos hk, N44_0.nx, wi (show (i : Int) < 9223372036854775807 by omega)]
        exact go ps[ps.length - 1] p p s2 (h4 _ (List.getElem_mem hg)) b1 b1 p2
      · obtain ⟨q, s3, e3, b3, p3⟩ := point_ex tape s2 p2 hl
        obtain ⟨r, s4, e4, b4, p4⟩ := point_ex tape s3 p3 hl
        have hb : (v == 0) = false := by rw [beq_eq_false_iff_ne]; exact h0
        simp only [hb, Bool.false_eq_true, if_false, e3, e4, Option.bind_some, PT.ev, PT.test, dite_eq_ite, rp_len, if_pos hk, N44_0.nx, wi (show (i : Int) < 9223372036854775807 by omega)]
        exact go q r p s4 b3 b4 b1 p4
    · simp only [D44_0, PT.ev, PT.test, dite_eq_ite, if_neg (show ¬ (i : Int) < (N : Int) by omega), N44_0.nx]
      exact ⟨ps, s, rfl, by omega, h4, h5⟩
theorem path_ex (tape : List W3) (s : Int) (hs : 0 ≤ s) (hl : (tape.length : Int) ≤ 9223372036854775807) (n : Int) (h0 : 0 ≤ n) (hn : n ≤ 40) (c : Bool) :
    ∃ ps s', F44 n c (Rt tape) s = some (.a0 c ps.length (Rt tape) s' (Rp ps)) ∧ (ps.length : Int) = 3 * n + 1 ∧ (∀ p ∈ ps, Bp p) ∧ 0 ≤ s' := by
  obtain ⟨p, s1, e1, b1, p1⟩ := point_ex tape s hs hl
  obtain ⟨qs, s2, e2, l2, b2, p2⟩ := path_loop tape hl n.toNat (by omega) c 18446744073709551616 0 [p] s1 (by omega) (by omega) rfl (fun q hq => by rw [List.mem_singleton] at hq; subst hq; exact b1) p1
  rw [Int.toNat_of_nonneg h0, show ((0 : Nat) : Int) = 0 from rfl] at e2
  refine ⟨qs, s2, ?_, by omega, b2, p2⟩
  simp only [F44, D44, PT.ev, PT.test, dite_eq_ite, e1, Option.bind_some]
  rw [show [[i64 p.c0, i64 p.c1]] = Rp [p] from rfl, show (1 : Nat) = [p].length from rfl, e2]
  rfl
theorem Gk.of {k : PK} {ps : List Pt} (h : k.c2 = Rp ps) (hl : (ps.length : Int) ≤ 1000) (hb : ∀ p ∈ ps, Bp p) : Gk k := ⟨ps, h, by omega, fun p hp => (hb p hp).held⟩
end Go.Proofs.YtifalphladcdcaaGreat.H
