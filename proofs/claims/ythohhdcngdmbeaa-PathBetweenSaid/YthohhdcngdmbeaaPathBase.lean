/- Paths of a tape, and what lies between two: plain Lean over what the functions compute. Conditions: those stated. -/
import Derived.Test.YthohhdcngdmbeaaPBetw
import Derived.KernelRfl
import Derived.Laws.BitsLemmas
import Derived.RowKit
set_option linter.unusedVariables false
set_option linter.unusedSimpArgs false
namespace Go.Proofs.Ythohhdcngdmbeaa.H
open Go Go.VM
set_option maxRecDepth 100000
abbrev Rt (ks : List W3) : List (List V) := ks.map W3.cells
abbrev Rw (ks : List W34) : List (List V) := ks.map W34.cells
theorem rt_get (ks : List W3) (i : Nat) : ((Rt ks)[i]?).bind W3.dec = ks[i]? := by
  simp only [Rt, List.getElem?_map]
  cases ks[i]? <;> rfl
theorem rw_get (ks : List W34) (i : Nat) : ((Rw ks)[i]?).bind W34.dec = ks[i]? := by
  simp only [Rw, List.getElem?_map]
  cases ks[i]? <;> rfl
theorem bnd_def {α β : Type} (x : α) (f : α → β) : bnd x f = f x := rfl
theorem w64_eq (n : Int) : w64 n = ((n + 9223372036854775808) % 18446744073709551616) - 9223372036854775808 := by
  simp [IntKind.wrap, IntKind.bits, IntKind.signed]; omega
theorem w64_in {n : Int} (h : -9223372036854775808 ≤ n) (h' : n ≤ 9223372036854775807) : w64 n = n := by
  rw [w64_eq]; omega
theorem u64w (x : Int) : IntKind.u64.wrap x = x % 18446744073709551616 := by simp [IntKind.wrap, IntKind.bits, IntKind.signed]
theorem u64id {x : Int} (h : 0 ≤ x) (h' : x < 18446744073709551616) : IntKind.u64.wrap x = x := by rw [u64w]; omega
def cl (a lo hi : Int) : Int := if a < lo then lo else if a > hi then hi else a
def hd (a : Int) : Int := cl a (-1099511627776) 1099511627776
def add (a b : Int) : Int := hd (hd a + hd b)
theorem hd_bd (a : Int) : -1099511627776 ≤ hd a ∧ hd a ≤ 1099511627776 := by unfold hd cl; split <;> (try split) <;> omega
theorem hd_of {a : Int} (h : -1099511627776 ≤ a) (h' : a ≤ 1099511627776) : hd a = a := by unfold hd cl; rw [if_neg (by omega), if_neg (by omega)]
theorem cl_bd (a lo hi : Int) (h : lo ≤ hi) : lo ≤ cl a lo hi ∧ cl a lo hi ≤ hi := by unfold cl; split <;> (try split) <;> omega
theorem cl_of {a lo hi : Int} (h : lo ≤ a) (h' : a ≤ hi) : cl a lo hi = a := by unfold cl; rw [if_neg (by omega), if_neg (by omega)]
theorem F90_eq (a lo hi : Int) : F90 a lo hi = cl a lo hi := rfl
theorem F57_eq (a : Int) : F57 a = hd a := rfl
theorem F56_eq (a b : Int) : F56 a b = add a b := by
  unfold F56
  simp only [bnd_def, F57_eq]
  have h1 := hd_bd a
  have h2 := hd_bd b
  rw [w64_in (by omega) (by omega)]; rfl
theorem within_ex (x : Int) : ∃ v : Int, F17 x 0 1073741824 = some (.a0 v) ∧ 0 ≤ v := by
  have hq : w64 (w64 (1073741824 - 0) + 1) = 1073741825 := by decide
  unfold F17
  rw [hq]
  by_cases h1 : 0 ≤ x ∧ x ≤ 1073741824
  · exact ⟨x, by rw [if_pos h1.1, if_pos h1.2], h1.1⟩
  · have t1 : Int.tmod x 1073741825 < 1073741825 := Int.tmod_lt_of_pos x (by decide)
    have t2 : -1073741825 < Int.tmod x 1073741825 := by have := Int.tmod_lt_of_pos (-x) (show (0 : Int) < 1073741825 by decide); rw [Int.neg_tmod] at this; omega
    have go : ∃ v : Int, (if (1073741825 : Int) = 0 then none else if Int.tmod x 1073741825 < 0 then some (A17.a0 (w64 (0 + w64 (w64 (w64 (Int.tmod x 1073741825 + 1073741824) - 0) + 1)))) else some (A17.a0 (w64 (0 + Int.tmod x 1073741825)))) = some (.a0 v) ∧ 0 ≤ v := by
      rw [if_neg (by decide)]
      by_cases h2 : Int.tmod x 1073741825 < 0
      · rw [if_pos h2]
        refine ⟨_, rfl, ?_⟩
        simp only [w64_eq]; omega
      · rw [if_neg h2]
        refine ⟨_, rfl, ?_⟩
        simp only [w64_eq]; omega
    by_cases h3 : x ≥ 0
    · rw [if_pos h3, if_neg (by omega)]; exact go
    · rw [if_neg h3]; exact go
theorem next_ex (tape : List W3) (s a : Int) (hs : 0 ≤ s) (hl : (tape.length : Int) ≤ 9223372036854775807) (ha : 0 < a) : ∃ v s', F15 a (Rt tape) s = some (.a0 v (Rt tape) s') ∧ 0 ≤ v ∧ v < a ∧ 0 ≤ s' := by
  have hlen : (Rt tape).length = tape.length := by simp
  unfold F15
  rw [hlen]
  by_cases h : s ≥ (tape.length : Int)
  · exact ⟨0, s, by rw [if_pos h], by omega, ha, hs⟩
  · have hw : w64 (w64 (s + 1) - 1) = s := by rw [w64_in (n := s + 1) (by omega) (by omega), w64_in (by omega) (by omega)]; omega
    have hi : s.toNat < tape.length := by omega
    obtain ⟨v, v1, v2⟩ := within_ex (tape[s.toNat]).c0
    refine ⟨Int.tmod v a, s + 1, ?_, Int.tmod_nonneg _ v2, Int.tmod_lt_of_pos _ ha, by omega⟩
    rw [if_neg h, hw, if_pos hs, rt_get, List.getElem?_eq_getElem hi, Option.bind_some, v1, Option.bind_some]
    simp only []
    rw [if_neg (by omega), w64_in (by omega) (by omega)]
theorem fd {a b : Int} (h : 0 ≤ b) : Int.fdiv a b = a / b := Int.fdiv_eq_ediv_of_nonneg a h
theorem and_low (k : IntKind) (j : Nat) (hj : j < k.bits) (hk : ∀ n : Int, 0 ≤ n → n < 2 ^ j → k.wrap n = n) (a : Int) :
    Go.bits .and k a (2 ^ j - 1) = a % 2 ^ j := by
  have hpos : 0 < 2 ^ j := Nat.two_pow_pos j
  have hc : ((2 : Int) ^ j - 1) = ((2 ^ j - 1 : Nat) : Int) := by
    rw [Int.natCast_sub hpos]; simp
  have hp : 2 ^ j ≤ 2 ^ k.bits := Nat.pow_le_pow_right (by decide) (Nat.le_of_lt hj)
  have hm : (2 ^ j - 1) % 2 ^ k.bits = 2 ^ j - 1 := Nat.mod_eq_of_lt (by omega)
  rw [hc]
  simp only [bits, BitVec.ofInt_natCast, BitVec.toNat_and, BitVec.toNat_ofNat, hm, BitVec.toNat_ofInt]
  rw [Nat.and_two_pow_sub_one_eq_mod]
  have hn : 0 ≤ a % (2 ^ k.bits : Int) := Int.emod_nonneg _ (by have := Int.pow_pos (n := 2) (m := k.bits) (by decide); omega)
  have hd : ((2 : Int) ^ j) ∣ 2 ^ k.bits := ⟨2 ^ (k.bits - j), by rw [← Int.pow_add]; congr 1; omega⟩
  have he : ((((a % ((2 ^ k.bits : Nat) : Int)).toNat % 2 ^ j : Nat)) : Int) = a % 2 ^ j := by
    rw [Int.natCast_emod, Int.toNat_of_nonneg (by rw [Int.natCast_pow]; exact hn)]
    rw [Int.natCast_pow, Int.natCast_pow]
    exact Int.emod_emod_of_dvd a hd
  have hlo := Int.emod_nonneg a (b := (2 : Int) ^ j) (by have := Int.pow_pos (n := 2) (m := j) (by decide); omega)
  have hhi := Int.emod_lt_of_pos a (b := (2 : Int) ^ j) (Int.pow_pos (by decide))
  rw [hk _ (Int.natCast_nonneg _) (by rw [he]; exact hhi), he]

theorem and16 (a : Int) : Go.bits .and .i64 a 65535 = a % 65536 := and_low .i64 16 (by decide) (fun n h h' => by rw [IntKind.wrap_i64]; omega) a
theorem and32u (a : Int) : Go.bits .and .u64 a 4294967295 = a % 4294967296 := and_low .u64 32 (by decide) (fun n h h' => by rw [u64w]; omega) a

/-- 64 times 64 bits, as math/bits reckons them. -/
theorem mul64_parts (x y x1 x0 y1 y0 : Int) (hx : x = x1 * 4294967296 + x0) (hy : y = y1 * 4294967296 + y0) (h1 : 0 ≤ x1 ∧ x1 < 4294967296) (h2 : 0 ≤ x0 ∧ x0 < 4294967296) (h3 : 0 ≤ y1 ∧ y1 < 4294967296) (h4 : 0 ≤ y0 ∧ y0 < 4294967296) :
    IntKind.u64.wrap ((IntKind.u64.wrap ((IntKind.u64.wrap (x1 * y1)) + ((IntKind.u64.wrap ((IntKind.u64.wrap (x1 * y0)) + ((IntKind.u64.wrap (x0 * y0)) / 4294967296))) / 4294967296))) + ((IntKind.u64.wrap (((IntKind.u64.wrap ((IntKind.u64.wrap (x1 * y0)) + ((IntKind.u64.wrap (x0 * y0)) / 4294967296))) % 4294967296) + (IntKind.u64.wrap (x0 * y1)))) / 4294967296)) = x * y / 18446744073709551616 := by
  have bd : ∀ p q : Int, 0 ≤ p ∧ p < 4294967296 → 0 ≤ q ∧ q < 4294967296 → 0 ≤ p * q ∧ p * q ≤ 18446744065119617025 := fun p q ⟨a, b⟩ ⟨c, d⟩ =>
    ⟨Int.mul_nonneg a c, Int.le_trans (Int.mul_le_mul_of_nonneg_left (show q ≤ 4294967295 by omega) a) (by omega)⟩
  obtain ⟨a1, b1⟩ := bd x1 y1 h1 h3
  obtain ⟨a2, b2⟩ := bd x1 y0 h1 h4
  obtain ⟨a3, b3⟩ := bd x0 y1 h2 h3
  obtain ⟨a4, b4⟩ := bd x0 y0 h2 h4
  have e : x * y = x1 * y1 * 18446744073709551616 + (x1 * y0 + x0 * y1) * 4294967296 + x0 * y0 := by
    subst hx hy
    grind
  generalize x1 * y1 = p11 at *
  generalize x1 * y0 = p10 at *
  generalize x0 * y1 = p01 at *
  generalize x0 * y0 = p00 at *
  simp only [u64w]
  rw [e]
  omega

def mul (a b : Int) : Int := hd (hd a * hd b / 65536)
theorem hd_hi {a : Int} (h : 1099511627776 ≤ a) : hd a = 1099511627776 := by unfold hd cl; rw [if_neg (by omega)]; split <;> omega
theorem hd_lo {a : Int} (h : a ≤ -1099511627776) : hd a = -1099511627776 := by unfold hd cl; split <;> (try split) <;> omega
theorem mul_bd (a b : Int) : -1099511627776 ≤ mul a b ∧ mul a b ≤ 1099511627776 := hd_bd _
theorem add_bd (a b : Int) : -1099511627776 ≤ add a b ∧ add a b ≤ 1099511627776 := hd_bd _
/-- Products of held numbers. -/
theorem prod_bd (a b : Int) (ha : -1099511627776 ≤ a ∧ a ≤ 1099511627776) (hb : -1099511627776 ≤ b ∧ b ≤ 1099511627776) : -1208925819614629174706176 ≤ a * b ∧ a * b ≤ 1208925819614629174706176 := by
  obtain ⟨a1, a2⟩ := ha
  obtain ⟨b1, b2⟩ := hb
  have h1 : 0 ≤ (1099511627776 - a) * (1099511627776 + b) := Int.mul_nonneg (by omega) (by omega)
  have h2 : 0 ≤ (1099511627776 + a) * (1099511627776 - b) := Int.mul_nonneg (by omega) (by omega)
  have h3 : 0 ≤ (1099511627776 - a) * (1099511627776 - b) := Int.mul_nonneg (by omega) (by omega)
  have h4 : 0 ≤ (1099511627776 + a) * (1099511627776 + b) := Int.mul_nonneg (by omega) (by omega)
  simp only [Int.add_mul, Int.sub_mul, Int.mul_add, Int.mul_sub] at h1 h2 h3 h4
  omega

theorem and32 (a : Int) : IntKind.wrap IntKind.u64 (↑(BitVec.toNat (BitVec.ofInt (IntKind.bits IntKind.u64) a &&& BitVec.ofInt (IntKind.bits IntKind.u64) 4294967295)) : Int) = a % 4294967296 := and32u a
theorem F96_eq (x y : Int) (hx : 0 ≤ x ∧ x < 18446744073709551616) (hy : 0 ≤ y ∧ y < 18446744073709551616) :
    F96 x y = some (.a0 (x * y / 18446744073709551616) (x * y % 18446744073709551616)) := by
  unfold F96
  simp only [and32, fd (show (0 : Int) ≤ 4294967296 by decide)]
  rw [mul64_parts x y (x / 4294967296) (x % 4294967296) (y / 4294967296) (y % 4294967296) (by omega) (by omega) (by omega) (by omega) (by omega) (by omega), u64w (x * y)]
theorem F93_eq (a b : Int) (ha : -9223372036854775808 ≤ a ∧ a ≤ 9223372036854775807) (hb : -9223372036854775808 ≤ b ∧ b ≤ 9223372036854775807) :
    F93 a b = some (.a0 ((a * b / 18446744073709551616) % 18446744073709551616) (a * b % 18446744073709551616)) := by
  unfold F93
  simp only [u64w]
  rw [F96_eq _ _ (by omega) (by omega)]
  simp only [Option.bind_some]
  by_cases h1 : a < 0
  · have ea : a % 18446744073709551616 = a + 18446744073709551616 := by omega
    by_cases h2 : b < 0
    · have eb : b % 18446744073709551616 = b + 18446744073709551616 := by omega
      rw [if_pos h1, if_pos h2, ea, eb]
      have e : (a + 18446744073709551616) * (b + 18446744073709551616) = a * b + a * 18446744073709551616 + b * 18446744073709551616 + 340282366920938463463374607431768211456 := by grind
      rw [e]; generalize a * b = p; congr 2 <;> omega
    · have eb : b % 18446744073709551616 = b := by omega
      rw [if_pos h1, if_neg h2, ea, eb]
      have e : (a + 18446744073709551616) * b = a * b + b * 18446744073709551616 := by grind
      rw [e]; generalize a * b = p; congr 2 <;> omega
  · have ea : a % 18446744073709551616 = a := by omega
    by_cases h2 : b < 0
    · have eb : b % 18446744073709551616 = b + 18446744073709551616 := by omega
      rw [if_neg h1, if_pos h2, ea, eb]
      have e : a * (b + 18446744073709551616) = a * b + a * 18446744073709551616 := by grind
      rw [e]; generalize a * b = p; congr 2 <;> omega
    · have eb : b % 18446744073709551616 = b := by omega
      rw [if_neg h1, if_neg h2, ea, eb]
      have hp : 0 ≤ a * b := Int.mul_nonneg (by omega) (by omega)
      have hp2 : a * b ≤ 9223372036854775807 * 9223372036854775807 := Int.mul_le_mul ha.2 hb.2 (by omega) (by omega)
      generalize a * b = p at *; congr 2; omega
theorem or48 (x y : Int) (hx : 0 ≤ x) (hy : 0 ≤ y ∧ y < 281474976710656) : IntKind.wrap IntKind.u64 (↑(BitVec.toNat (BitVec.ofInt (IntKind.bits IntKind.u64) (IntKind.wrap IntKind.u64 (x * 281474976710656)) ||| BitVec.ofInt (IntKind.bits IntKind.u64) y)) : Int) = (x * 281474976710656) % 18446744073709551616 + y := by
  rw [u64w (x * 281474976710656)]
  exact bits_join .u64 64 (by decide) (fun n h h' => by rw [u64w]; omega) 48 _ y (by omega) (by omega) (by omega) hy.1 (by omega) (by omega)
theorem F92_eq (p : Int) (hp : -1208925819614629174706176 ≤ p ∧ p ≤ 1208925819614629174706176) :
    hd (F92 ((p / 18446744073709551616) % 18446744073709551616) (p % 18446744073709551616)) = hd (p / 65536) := by
  unfold F92
  rw [show (2 : Int) ^ min (Int.toNat 48) (IntKind.bits IntKind.u64) = 281474976710656 by rfl, show (2 : Int) ^ min (Int.toNat 16) (IntKind.bits IntKind.u64) = 65536 by rfl]
  simp only [fd (show (0 : Int) ≤ 65536 by decide), fd (show (0 : Int) ≤ 9223372036854775808 by decide)]
  rw [or48 _ _ (by omega) (by omega)]
  generalize hw : w64 (p / 18446744073709551616 % 18446744073709551616) = t
  have ht : t = p / 18446744073709551616 := by rw [← hw, w64_eq]; omega
  generalize hv : (p / 18446744073709551616 % 18446744073709551616 * 281474976710656) % 18446744073709551616 + p % 18446744073709551616 / 65536 = v
  have hv' : v = (p / 65536) % 18446744073709551616 := by rw [← hv]; omega
  clear hv hw
  have h1 : ¬ t / 65536 < -1 := by omega
  rw [if_neg h1]
  simp only [beq_iff_eq, bne_iff_ne]
  by_cases h2 : t / 65536 = -1
  · rw [if_pos h2]
    by_cases h3 : v / 9223372036854775808 = 0
    · rw [if_pos h3, hd_lo (by omega), hd_lo (by omega)]
    · rw [if_neg h3, if_neg (by omega), if_neg (by omega)]
      congr 1; rw [w64_eq]; omega
  · rw [if_neg h2]
    by_cases h4 : t / 65536 > 0
    · rw [if_pos h4, hd_hi (by omega), hd_hi (by omega)]
    · rw [if_neg h4, if_pos (by omega)]
      by_cases h3 : v / 9223372036854775808 = 0
      · rw [if_neg (by omega)]; congr 1; rw [w64_eq]; omega
      · rw [if_pos h3, hd_hi (by omega), hd_hi (by omega)]
theorem F63_eq (a b : Int) : F63 a b = some (.a0 (mul a b)) := by
  unfold F63
  simp only [bnd_def, F57_eq]
  have h1 := hd_bd a
  have h2 := hd_bd b
  rw [F93_eq _ _ (by omega) (by omega)]
  simp only [Option.bind_some]
  rw [F92_eq _ (prod_bd _ _ h1 h2)]; rfl

/-! ### Paths of a tape -/
def okq (p : W34) : Prop := (-131072 ≤ p.c0 ∧ p.c0 ≤ 983040) ∧ (-131072 ≤ p.c1 ∧ p.c1 ≤ 983040)
theorem number2_ex (tape : List W3) (s : Int) (hs : 0 ≤ s) (hl : (tape.length : Int) ≤ 9223372036854775807) : ∃ v s', F54 (-2) 14 (Rt tape) s = some (.a0 v (Rt tape) s') ∧ (-131072 ≤ v ∧ v ≤ 983040) ∧ 0 ≤ s' := by
  obtain ⟨v1, s1, e1, l1, u1, p1⟩ := next_ex tape s 17 hs hl (by decide)
  obtain ⟨v2, s2, e2, l2, u2, p2⟩ := next_ex tape s1 4 p1 hl (by decide)
  obtain ⟨v3, s3, e3, l3, u3, p3⟩ := next_ex tape s2 65536 p2 hl (by decide)
  have hq : w64 (w64 (14 - -2) + 1) = 17 := by decide
  unfold F54
  rw [hq, e1, Option.bind_some]
  simp only []
  rw [e2, Option.bind_some]
  simp only []
  by_cases h0 : v2 = 0
  · refine ⟨(-2 + v1) * 65536 + 32768, s2, ?_, by omega, p2⟩
    rw [if_pos (by rw [beq_iff_eq]; exact h0)]
    congr 2; simp only [w64_eq]; omega
  · rw [if_neg (by rw [beq_iff_eq]; exact h0)]
    by_cases h1 : v2 = 1
    · refine ⟨(-2 + v1) * 65536 + v3, s3, ?_, by omega, p3⟩
      rw [if_pos (by rw [beq_iff_eq]; exact h1), e3, Option.bind_some]
      simp only []
      congr 2; simp only [w64_eq]; omega
    · refine ⟨(-2 + v1) * 65536, s2, ?_, by omega, p2⟩
      rw [if_neg (by rw [beq_iff_eq]; exact h1)]
      congr 2; simp only [w64_eq]; omega
theorem point_ex (tape : List W3) (s : Int) (hs : 0 ≤ s) (hl : (tape.length : Int) ≤ 9223372036854775807) : ∃ x y s', F46 (-2) 14 (Rt tape) s = some (.a0 x y (Rt tape) s') ∧ okq ⟨x, y⟩ ∧ 0 ≤ s' := by
  obtain ⟨x, s1, e1, b1, p1⟩ := number2_ex tape s hs hl
  obtain ⟨y, s2, e2, b2, p2⟩ := number2_ex tape s1 p1 hl
  refine ⟨x, y, s2, ?_, ⟨b1, b2⟩, p2⟩
  unfold F46
  rw [e1, Option.bind_some]
  simp only []
  rw [e2, Option.bind_some]
theorem path_loop (tape : List W3) (hl : (tape.length : Int) ≤ 9223372036854775807) (c : Bool) (m : Nat) (hm : m ≤ 7) : ∀ (n i : Nat) (o : List W34) (s : Int), i ≤ m → m < n + i → 0 ≤ s → o.length = 3 * i + 1 → (∀ p ∈ o, okq p) →
    ∃ (o' : List W34) (s' : Int), L16_0 n m i (Rt tape) s c o.length (Rw o) = some (.e0 (Rt tape) s' c o'.length (Rw o')) ∧ o'.length = 3 * m + 1 ∧ (∀ p ∈ o', okq p) ∧ 0 ≤ s'
  | 0, i, o, s, hi, hn, _, _, _ => by omega
  | n + 1, i, o, s, hi, hn, hs, ho, hp => by
    have hr : (Rw o).length = o.length := by simp
    rw [L16_0]
    by_cases h : i < m
    · have c1 : (i : Int) < (m : Int) := by omega
      have hw : w64 ((o.length : Int) - 1) = ((o.length - 1 : Nat) : Int) := by rw [w64_in (by omega) (by omega)]; omega
      have c2 : 0 ≤ ((o.length - 1 : Nat) : Int) ∧ ((o.length - 1 : Nat) : Int) < (o.length : Int) := by omega
      have hlt : o.length - 1 < o.length := by omega
      have hz := List.getElem?_eq_getElem hlt
      have hzp : okq o[o.length - 1] := hp _ (List.getElem_mem hlt)
      obtain ⟨x, y, s1, e1, b1, p1⟩ := point_ex tape s hs hl
      obtain ⟨v, s2, e2, _, _, p2⟩ := next_ex tape s1 2 p1 hl (by decide)
      obtain ⟨x2, y2, s3, e3, b3, p3⟩ := point_ex tape s2 p2 hl
      obtain ⟨x3, y3, s4, e4, b4, p4⟩ := point_ex tape s3 p3 hl
      have c3 : 0 + o.length ≤ (Rw o).length ∧ (o.length + 3) * 16 ≤ 140737488355328 ∧ o.length + 3 ≤ 140737488355328 := by rw [hr]; omega
      have ht : List.take o.length (Rw o) = Rw o := by rw [List.take_of_length_le (by rw [hr]; omega)]
      have hw2 : w64 ((i : Int) + 1) = ((i + 1 : Nat) : Int) := by rw [w64_in (by omega) (by omega)]; omega
      have ap : ∀ p q r : W34, Rw o ++ [[i64 p.c0, i64 p.c1], [i64 q.c0, i64 q.c1], [i64 r.c0, i64 r.c1]] = Rw (o ++ [p, q, r]) := fun p q r => by simp
      have al : ∀ p q r : W34, (o ++ [p, q, r]).length = o.length + 3 := fun p q r => by simp
      have ac : ∀ p q r : W34, okq p → okq q → okq r → ∀ a ∈ o ++ [p, q, r], okq a := fun p q r h1 h2 h3 a ha => by
        rcases List.mem_append.1 ha with ha | ha
        · exact hp a ha
        · simp at ha; rcases ha with rfl | rfl | rfl <;> assumption
      rw [if_pos c1, hw, if_pos c2, show 0 + Int.toNat ((o.length - 1 : Nat) : Int) = o.length - 1 by omega, rw_get, hz, Option.bind_some, e1, Option.bind_some]
      simp only []
      rw [e2, Option.bind_some]
      simp only []
      rw [ht, hw2]
      by_cases h0 : v = 0
      · have i1 := path_loop tape hl c m hm n (i + 1) (o ++ [o[o.length - 1], ⟨x, y⟩, ⟨x, y⟩]) s2 (by omega) (by omega) p2 (by rw [al]; omega) (ac _ _ _ hzp b1 b1)
        rw [al] at i1
        rw [if_pos (by rw [beq_iff_eq]; exact h0), if_pos c3, ap o[o.length - 1] ⟨x, y⟩ ⟨x, y⟩]
        exact i1
      · have i2 := path_loop tape hl c m hm n (i + 1) (o ++ [⟨x2, y2⟩, ⟨x3, y3⟩, ⟨x, y⟩]) s4 (by omega) (by omega) p4 (by rw [al]; omega) (ac _ _ _ b3 b4 b1)
        rw [al] at i2
        rw [if_neg (by rw [beq_iff_eq]; exact h0), e3, Option.bind_some]
        simp only []
        rw [e4, Option.bind_some]
        simp only []
        rw [if_pos c3, ap ⟨x2, y2⟩ ⟨x3, y3⟩ ⟨x, y⟩]
        exact i2
    · have c1 : ¬ (i : Int) < (m : Int) := by omega
      rw [if_neg c1]
      exact ⟨o, s, rfl, by omega, hp, hs⟩
theorem path_ex (tape : List W3) (hl : (tape.length : Int) ≤ 9223372036854775807) (c : Bool) (m : Nat) (hm : m ≤ 7) (s : Int) (hs : 0 ≤ s) :
    ∃ (o : List W34) (s' : Int), F16 m c (Rt tape) s = some (.a0 c o.length (Rt tape) s' (Rw o)) ∧ o.length = 3 * m + 1 ∧ (∀ p ∈ o, okq p) ∧ 0 ≤ s' := by
  obtain ⟨x, y, s1, e1, b1, p1⟩ := point_ex tape s hs hl
  obtain ⟨o, s', e2, h1, h2, h3⟩ := path_loop tape hl c m hm 100000 0 [⟨x, y⟩] s1 (by omega) (by omega) p1 rfl (fun p hp => by simp at hp; subst hp; exact b1)
  refine ⟨o, s', ?_, h1, h2, h3⟩
  unfold F16
  rw [e1, Option.bind_some]
  simp only []
  have e3 : L16_0 100000 (m : Int) 0 (Rt tape) s1 c 1 [[i64 x, i64 y]] = some (.e0 (Rt tape) s' c o.length (Rw o)) := e2
  rw [e3, Option.bind_some]
/-! ### Between two -/
def mid (a b t : Int) : Int := a + (b - a) * t / 65536
theorem mid_bd {a b t : Int} (ha : -131072 ≤ a ∧ a ≤ 983040) (hb : -131072 ≤ b ∧ b ≤ 983040) (ht : 0 ≤ t ∧ t ≤ 65536) : (mid a b t ≥ (if b < a then b else a)) ∧ (mid a b t ≤ (if b > a then b else a)) := by
  unfold mid
  by_cases h : b < a
  · have p1 : 0 ≤ (a - b) * t := Int.mul_nonneg (by omega) ht.1
    have p2 : 0 ≤ (a - b) * (65536 - t) := Int.mul_nonneg (by omega) (by omega)
    have e : (b - a) * t = -((a - b) * t) := by rw [← Int.neg_mul]; congr 1; omega
    rw [Int.mul_sub] at p2
    rw [if_pos h, if_neg (by omega), e]
    omega
  · have p1 : 0 ≤ (b - a) * t := Int.mul_nonneg (by omega) ht.1
    have p2 : 0 ≤ (b - a) * (65536 - t) := Int.mul_nonneg (by omega) (by omega)
    rw [Int.mul_sub] at p2
    rw [if_neg h]
    by_cases h2 : b > a
    · rw [if_pos h2]; omega
    · rw [if_neg h2]
      have : b - a = 0 := by omega
      rw [this]; omega
theorem mid_one (a b : Int) : mid a b 65536 = b := by unfold mid; rw [Int.mul_ediv_cancel _ (by decide)]; omega
theorem F48_eq {a b t : Int} (ha : -131072 ≤ a ∧ a ≤ 983040) (hb : -131072 ≤ b ∧ b ≤ 983040) (ht : 0 ≤ t ∧ t ≤ 65536) : F48 a b t = some (.a0 (mid a b t)) := by
  have hm := mid_bd ha hb ht
  unfold F48
  simp only [bnd_def, F57_eq, F56_eq, F63_eq, Option.bind_some]
  have h1 : hd a = a := hd_of (by omega) (by omega)
  have h2 : hd b = b := hd_of (by omega) (by omega)
  have h3 : add b (w64 (0 - a)) = b - a := by
    unfold add
    rw [w64_in (by omega) (by omega), h2, hd_of (a := 0 - a) (by omega) (by omega), hd_of (by omega) (by omega)]; omega
  have h4 : mul (b - a) t = (b - a) * t / 65536 := by
    unfold mul
    rw [hd_of (a := b - a) (by omega) (by omega), hd_of (a := t) (by omega) (by omega)]
    unfold mid at hm
    refine hd_of ?_ ?_ <;> (split at hm <;> split at hm <;> omega)
  rw [h1, h3, h4]
  unfold add mid at *
  rw [h1, hd_of (a := (b - a) * t / 65536) (by split at hm <;> split at hm <;> omega) (by split at hm <;> split at hm <;> omega), hd_of (by split at hm <;> split at hm <;> omega) (by split at hm <;> split at hm <;> omega)]
def midp (t : Int) (p q : W34) : W34 := ⟨mid p.c0 q.c0 t, mid p.c1 q.c1 t⟩
theorem clone_ok (a : List W34) (h0 : 0 < a.length) (hL : a.length ≤ 60) : F47 (Rw a) = some (.a0 a.length (Rw a)) := by
  have hr : (Rw a).length = a.length := by simp
  unfold F47
  rw [if_pos (by rw [hr]; exact h0)]
  simp only [hr, Nat.zero_add, List.nil_append]
  rw [if_pos (by omega)]
theorem morph_loop (a b : List W34) (c : Bool) (t : Int) (ht : 0 ≤ t ∧ t ≤ 65536) (hab : a.length = b.length) (hL : a.length ≤ 60) (ha : ∀ p ∈ a, okq p) (hb : ∀ p ∈ b, okq p) : ∀ (n i : Nat) (o : List W34), i ≤ a.length → a.length < n + i → o.length = a.length →
    (∀ j, j < i → o[j]? = (List.zipWith (midp t) a b)[j]?) → L18_0 n t (Rw b) a.length i c (Rw a) a.length (Rw o) = some (.e0 c a.length (Rw (List.zipWith (midp t) a b)))
  | 0, i, o, hi, hn, _, _ => by omega
  | n + 1, i, o, hi, hn, ho, hj => by
    have hz : (List.zipWith (midp t) a b).length = a.length := by simp; omega
    rw [L18_0]
    by_cases h : i < a.length
    · have c1 : (i : Int) < (a.length : Int) := by omega
      have c2 : (0 : Int) ≤ (i : Int) := by omega
      have hbi : i < b.length := by omega
      have hoi : i < o.length := by omega
      have ga := ha _ (List.getElem_mem h)
      have gb := hb _ (List.getElem_mem hbi)
      have c3 : (0 : Int) ≤ (i : Int) ∧ (i : Int) < (a.length : Int) := ⟨c2, c1⟩
      have hw2 : w64 ((i : Int) + 1) = ((i + 1 : Nat) : Int) := by rw [w64_in (by omega) (by omega)]; omega
      rw [if_pos c1, if_pos c2]
      simp only [if_pos c3, show Int.toNat (i : Int) = i by omega, Nat.zero_add, rw_get, List.getElem?_eq_getElem h, List.getElem?_eq_getElem hbi, List.getElem?_eq_getElem hoi, Option.bind_some]
      rw [F48_eq ga.1 gb.1 ht, Option.bind_some]
      simp only []
      rw [F48_eq ga.2 gb.2 ht, Option.bind_some, hw2]
      have es : List.set (Rw o) i [i64 (mid (a[i]).c0 (b[i]).c0 t), i64 (mid (a[i]).c1 (b[i]).c1 t)] = Rw (o.set i (midp t a[i] b[i])) := by simp [Rw, List.map_set, midp]
      simp only [es]
      refine morph_loop a b c t ht hab hL ha hb n (i + 1) _ (by omega) (by omega) (by rw [List.length_set]; exact ho) (fun j hj' => ?_)
      rw [List.getElem?_set]
      by_cases hij : i = j
      · subst hij
        rw [if_pos rfl, if_pos hoi, List.getElem?_zipWith, List.getElem?_eq_getElem h, List.getElem?_eq_getElem hbi]
      · rw [if_neg hij]; exact hj j (by omega)
    · have c1 : ¬ (i : Int) < (a.length : Int) := by omega
      rw [if_neg c1]
      have : o = List.zipWith (midp t) a b := by
        apply List.ext_getElem?
        intro j
        by_cases hj' : j < i
        · exact hj j hj'
        · rw [List.getElem?_eq_none (by omega), List.getElem?_eq_none (by omega)]
      rw [this]
theorem morph_ok (a b : List W34) (c : Bool) (t : Int) (ht : 0 ≤ t ∧ t ≤ 65536) (hab : a.length = b.length) (h0 : 0 < a.length) (hL : a.length ≤ 60) (ha : ∀ p ∈ a, okq p) (hb : ∀ p ∈ b, okq p) :
    F18 c (Rw a) c (Rw b) t = some (.a0 c a.length (Rw (List.zipWith (midp t) a b))) := by
  have hra : (Rw a).length = a.length := by simp
  have hrb : (Rw b).length = a.length := by simp; omega
  unfold F18
  rw [clone_ok a h0 hL, Option.bind_some]
  simp only []
  have e : F36 c (Rw a) c (Rw b) = true := by unfold F36; rw [hra, hrb, if_pos (by rw [beq_iff_eq])]; simp
  have ml := morph_loop a b c t ht hab hL ha hb 100000 0 a (by omega) (by omega) rfl (fun j hj => by omega)
  rw [show ((0 : Nat) : Int) = 0 by rfl] at ml
  rw [bnd_def, e, if_neg (by decide), hrb, ml, Option.bind_some]
theorem morph_no (a b : List W34) (c : Bool) (t : Int) (hab : a.length ≠ b.length) (h0 : 0 < a.length) (hL : a.length ≤ 60) : F18 c (Rw a) c (Rw b) t = some (.a0 c a.length (Rw a)) := by
  have hra : (Rw a).length = a.length := by simp
  have hrb : (Rw b).length = b.length := by simp
  unfold F18
  rw [clone_ok a h0 hL, Option.bind_some]
  simp only []
  have e : F36 c (Rw a) c (Rw b) = false := by unfold F36; rw [hra, hrb, if_neg (by rw [beq_iff_eq]; omega)]
  rw [bnd_def, e, if_pos (by decide)]
theorem points_loop (o : List W34) (h : o.length ≤ 60) : ∀ (n i : Nat), i ≤ o.length → o.length < n + i → L52_0 n (Rw o) (Rw o) o.length i = some .e1
  | 0, i, hi, hn => by omega
  | n + 1, i, hi, hn => by
    rw [L52_0]
    by_cases hc : i < o.length
    · have g1 : (i : Int) < (o.length : Int) := by omega
      have g2 : (0 : Int) ≤ (i : Int) := by omega
      rw [if_pos g1, if_pos g2, show Int.toNat (i : Int) = i by omega, rw_get, List.getElem?_eq_getElem hc]
      simp only [Option.bind_some, beq_self_eq_true, Bool.and_self, Bool.not_true, Bool.false_eq_true, if_false]
      rw [w64_in (by omega) (by omega), show (i : Int) + 1 = ((i + 1 : Nat) : Int) by omega]
      exact points_loop o h n (i + 1) (by omega) (by omega)
    · have g1 : ¬ (i : Int) < (o.length : Int) := by omega
      rw [if_neg g1]
theorem same_path (o : List W34) (c : Bool) (h : o.length ≤ 60) : F20 c (Rw o) c (Rw o) = some (.a0 true) := by
  have hr : (Rw o).length = o.length := by simp
  have e := points_loop o h 100000 0 (by omega) (by omega)
  rw [show ((0 : Nat) : Int) = 0 by rfl] at e
  unfold F20 F52
  rw [if_pos (by simp), hr, if_neg (by simp), e]; rfl
theorem near_loop (o : List W34) (h : o.length ≤ 60) (hp : ∀ p ∈ o, okq p) : ∀ (n i : Nat), i ≤ o.length → o.length < n + i → L88_0 n (Rw o) o.length i = some .e1
  | 0, i, hi, hn => by omega
  | n + 1, i, hi, hn => by
    rw [L88_0]
    by_cases hc : i < o.length
    · have g1 : (i : Int) < (o.length : Int) := by omega
      have g2 : (0 : Int) ≤ (i : Int) := by omega
      have hk := hp _ (List.getElem_mem hc)
      have e : F50 (o[i]).c0 (o[i]).c1 = false := by
        unfold F50 F51
        obtain ⟨⟨a1, a2⟩, b1, b2⟩ := hk
        simp only [bnd_def]
        have u1 : (o[i]).c0 ≥ -67108864 := by omega
        have u2 : (o[i]).c0 ≤ 67108864 := by omega
        have u3 : (o[i]).c1 ≥ -67108864 := by omega
        have u4 : (o[i]).c1 ≤ 67108864 := by omega
        rw [if_pos u1, if_pos u3, decide_eq_true u2, decide_eq_true u4]; rfl
      rw [if_pos g1, if_pos g2, show Int.toNat (i : Int) = i by omega, rw_get, List.getElem?_eq_getElem hc, Option.bind_some, bnd_def, e, if_neg (by decide), w64_in (by omega) (by omega), show (i : Int) + 1 = ((i + 1 : Nat) : Int) by omega]
      exact near_loop o h hp n (i + 1) (by omega) (by omega)
    · have g1 : ¬ (i : Int) < (o.length : Int) := by omega
      rw [if_neg g1]
theorem right_path (o : List W34) (m : Nat) (hm : 1 ≤ m ∧ m ≤ 7) (ho : o.length = 3 * m + 1) (hp : ∀ p ∈ o, okq p) : F19 true (Rw o) = some (.a0 true) := by
  have hr : (Rw o).length = o.length := by simp
  have e := near_loop o (by omega) hp 100000 0 (by omega) (by omega)
  rw [show ((0 : Nat) : Int) = 0 by rfl] at e
  unfold F19 F49 F88
  rw [hr, e]
  have t : Int.tmod (o.length : Int) 3 = 1 := by rw [Int.tmod_eq_emod_of_nonneg (by omega)]; omega
  rw [if_neg (by rw [beq_iff_eq]; omega), if_pos (by omega), if_pos (by omega), t, if_pos (by decide)]; rfl
theorem between_loop (a b d : List W34) (m k s : Int) (x : List (List V)) (hL : a.length ≤ 60) (hab : a.length = b.length) (had : a.length = d.length)
    (h : ∀ (i : Nat) (p q r : W34), a[i]? = some p → b[i]? = some q → d[i]? = some r → (r.c0 ≥ (if q.c0 < p.c0 then q.c0 else p.c0) ∧ r.c0 ≤ (if q.c0 > p.c0 then q.c0 else p.c0)) ∧ (r.c1 ≥ (if q.c1 < p.c1 then q.c1 else p.c1) ∧ r.c1 ≤ (if q.c1 > p.c1 then q.c1 else p.c1))) :
    ∀ (n i : Nat), i ≤ a.length → a.length < n + i →
    L3_0 n m k a.length i x s true a.length true a.length true a.length (Rw a) (Rw b) (Rw d) = some (.e4 m k x s true a.length true a.length true a.length (Rw a) (Rw b) (Rw d))
  | 0, i, hi, hn => by omega
  | n + 1, i, hi, hn => by
    rw [L3_0]
    by_cases hc : i < a.length
    · have g1 : (i : Int) < (a.length : Int) := by omega
      have g2 : (0 : Int) ≤ (i : Int) ∧ (i : Int) < (a.length : Int) := by omega
      have hbi : i < b.length := by omega
      have hdi : i < d.length := by omega
      obtain ⟨⟨k1, k2⟩, k3, k4⟩ := h i _ _ _ (List.getElem?_eq_getElem hc) (List.getElem?_eq_getElem hbi) (List.getElem?_eq_getElem hdi)
      rw [if_pos g1]
      simp only [if_pos g2, show 0 + Int.toNat (i : Int) = i by omega, rw_get, List.getElem?_eq_getElem hc, List.getElem?_eq_getElem hbi, List.getElem?_eq_getElem hdi, Option.bind_some]
      rw [if_neg (Int.not_lt.2 k1), if_neg (Int.not_lt.2 k2), if_neg (Int.not_lt.2 k3), if_neg (Int.not_lt.2 k4), w64_in (by omega) (by omega), show (i : Int) + 1 = ((i + 1 : Nat) : Int) by omega]
      exact between_loop a b d m k s x hL hab had h n (i + 1) (by omega) (by omega)
    · have g1 : ¬ (i : Int) < (a.length : Int) := by omega
      rw [if_neg g1]
theorem part_ex (x : Int) : ∃ v : Int, F17 x 0 65536 = some (.a0 v) ∧ 0 ≤ v ∧ v ≤ 65536 := by
  have hq : w64 (w64 (65536 - 0) + 1) = 65537 := by decide
  unfold F17
  rw [hq]
  by_cases h1 : 0 ≤ x ∧ x ≤ 65536
  · exact ⟨x, by rw [if_pos h1.1, if_pos h1.2], h1⟩
  · have t1 : Int.tmod x 65537 < 65537 := Int.tmod_lt_of_pos x (by decide)
    have t2 : -65537 < Int.tmod x 65537 := by have := Int.tmod_lt_of_pos (-x) (show (0 : Int) < 65537 by decide); rw [Int.neg_tmod] at this; omega
    have go : ∃ v : Int, (if (65537 : Int) = 0 then none else if Int.tmod x 65537 < 0 then some (A17.a0 (w64 (0 + w64 (w64 (w64 (Int.tmod x 65537 + 65536) - 0) + 1)))) else some (A17.a0 (w64 (0 + Int.tmod x 65537)))) = some (.a0 v) ∧ 0 ≤ v ∧ v ≤ 65536 := by
      rw [if_neg (by decide)]
      by_cases h2 : Int.tmod x 65537 < 0
      · rw [if_pos h2]
        refine ⟨_, rfl, ?_⟩
        simp only [w64_eq]; omega
      · rw [if_neg h2]
        refine ⟨_, rfl, ?_⟩
        simp only [w64_eq]; omega
    by_cases h3 : x ≥ 0
    · rw [if_pos h3, if_neg (by omega)]; exact go
    · rw [if_neg h3]; exact go
theorem known7 : F21 = some (.a0 true) := by kernel_rfl
theorem okq_mid {t : Int} (ht : 0 ≤ t ∧ t ≤ 65536) {p q : W34} (hp : okq p) (hq : okq q) : okq (midp t p q) := by
  obtain ⟨p1, p2⟩ := hp
  obtain ⟨q1, q2⟩ := hq
  have m1 := mid_bd p1 q1 ht
  have m2 := mid_bd p2 q2 ht
  unfold okq midp
  constructor
  · split at m1 <;> split at m1 <;> (constructor <;> simp only [] <;> omega)
  · split at m2 <;> split at m2 <;> (constructor <;> simp only [] <;> omega)
end Go.Proofs.Ythohhdcngdmbeaa.H
