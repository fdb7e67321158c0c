/- Paths of a tape, and how they are mapped: plain Lean over what the functions compute. Conditions: those stated. -/
import Derived.Test.YthohhdcngdmbeaaPMaps
import Derived.KernelRfl
import Derived.Laws.BitsLemmas
import Derived.RowKit
set_option linter.unusedVariables false
set_option linter.unusedSimpArgs false
namespace Go.Proofs.Ythohhdcngdmbeaa.H
open Go Go.VM
set_option maxRecDepth 100000
abbrev Rt (ks : List W3) : List (List V) := ks.map W3.cells
abbrev Rw (ks : List W34) : List (List V) := ks.map W34.cells
theorem rt_get (ks : List W3) (i : Nat) : ((Rt ks)[i]?).bind W3.dec = ks[i]? := by
  simp only [Rt, List.getElem?_map]
  cases ks[i]? <;> rfl
theorem rw_get (ks : List W34) (i : Nat) : ((Rw ks)[i]?).bind W34.dec = ks[i]? := by
  simp only [Rw, List.getElem?_map]
  cases ks[i]? <;> rfl
theorem bnd_def {α β : Type} (x : α) (f : α → β) : bnd x f = f x := rfl
theorem w64_eq (n : Int) : w64 n = ((n + 9223372036854775808) % 18446744073709551616) - 9223372036854775808 := by
  simp [IntKind.wrap, IntKind.bits, IntKind.signed]; omega
theorem w64_in {n : Int} (h : -9223372036854775808 ≤ n) (h' : n ≤ 9223372036854775807) : w64 n = n := by
  rw [w64_eq]; omega
theorem u64w (x : Int) : IntKind.u64.wrap x = x % 18446744073709551616 := by simp [IntKind.wrap, IntKind.bits, IntKind.signed]
theorem u64id {x : Int} (h : 0 ≤ x) (h' : x < 18446744073709551616) : IntKind.u64.wrap x = x := by rw [u64w]; omega
def cl (a lo hi : Int) : Int := if a < lo then lo else if a > hi then hi else a
def hd (a : Int) : Int := cl a (-1099511627776) 1099511627776
def add (a b : Int) : Int := hd (hd a + hd b)
theorem hd_bd (a : Int) : -1099511627776 ≤ hd a ∧ hd a ≤ 1099511627776 := by unfold hd cl; split <;> (try split) <;> omega
theorem hd_of {a : Int} (h : -1099511627776 ≤ a) (h' : a ≤ 1099511627776) : hd a = a := by unfold hd cl; rw [if_neg (by omega), if_neg (by omega)]
theorem cl_bd (a lo hi : Int) (h : lo ≤ hi) : lo ≤ cl a lo hi ∧ cl a lo hi ≤ hi := by unfold cl; split <;> (try split) <;> omega
theorem cl_of {a lo hi : Int} (h : lo ≤ a) (h' : a ≤ hi) : cl a lo hi = a := by unfold cl; rw [if_neg (by omega), if_neg (by omega)]
theorem F90_eq (a lo hi : Int) : F90 a lo hi = cl a lo hi := rfl
theorem F57_eq (a : Int) : F57 a = hd a := rfl
theorem F56_eq (a b : Int) : F56 a b = add a b := by
  unfold F56
  simp only [bnd_def, F57_eq]
  have h1 := hd_bd a
  have h2 := hd_bd b
  rw [w64_in (by omega) (by omega)]; rfl
theorem within_ex (x : Int) : ∃ v : Int, F17 x 0 1073741824 = some (.a0 v) ∧ 0 ≤ v := by
  have hq : w64 (w64 (1073741824 - 0) + 1) = 1073741825 := by decide
  unfold F17
  rw [hq]
  by_cases h1 : 0 ≤ x ∧ x ≤ 1073741824
  · exact ⟨x, by rw [if_pos h1.1, if_pos h1.2], h1.1⟩
  · have t1 : Int.tmod x 1073741825 < 1073741825 := Int.tmod_lt_of_pos x (by decide)
    have t2 : -1073741825 < Int.tmod x 1073741825 := by have := Int.tmod_lt_of_pos (-x) (show (0 : Int) < 1073741825 by decide); rw [Int.neg_tmod] at this; omega
    have go : ∃ v : Int, (if (1073741825 : Int) = 0 then none else if Int.tmod x 1073741825 < 0 then some (A17.a0 (w64 (0 + w64 (w64 (w64 (Int.tmod x 1073741825 + 1073741824) - 0) + 1)))) else some (A17.a0 (w64 (0 + Int.tmod x 1073741825)))) = some (.a0 v) ∧ 0 ≤ v := by
      rw [if_neg (by decide)]
      by_cases h2 : Int.tmod x 1073741825 < 0
      · rw [if_pos h2]
        refine ⟨_, rfl, ?_⟩
        simp only [w64_eq]; omega
      · rw [if_neg h2]
        refine ⟨_, rfl, ?_⟩
        simp only [w64_eq]; omega
    by_cases h3 : x ≥ 0
    · rw [if_pos h3, if_neg (by omega)]; exact go
    · rw [if_neg h3]; exact go
theorem next_ex (tape : List W3) (s a : Int) (hs : 0 ≤ s) (hl : (tape.length : Int) ≤ 9223372036854775807) (ha : 0 < a) : ∃ v s', F15 a (Rt tape) s = some (.a0 v (Rt tape) s') ∧ 0 ≤ v ∧ v < a ∧ 0 ≤ s' := by
  have hlen : (Rt tape).length = tape.length := by simp
  unfold F15
  rw [hlen]
  by_cases h : s ≥ (tape.length : Int)
  · exact ⟨0, s, by rw [if_pos h], by omega, ha, hs⟩
  · have hw : w64 (w64 (s + 1) - 1) = s := by rw [w64_in (n := s + 1) (by omega) (by omega), w64_in (by omega) (by omega)]; omega
    have hi : s.toNat < tape.length := by omega
    obtain ⟨v, v1, v2⟩ := within_ex (tape[s.toNat]).c0
    refine ⟨Int.tmod v a, s + 1, ?_, Int.tmod_nonneg _ v2, Int.tmod_lt_of_pos _ ha, by omega⟩
    rw [if_neg h, hw, if_pos hs, rt_get, List.getElem?_eq_getElem hi, Option.bind_some, v1, Option.bind_some]
    simp only []
    rw [if_neg (by omega), w64_in (by omega) (by omega)]
theorem fd {a b : Int} (h : 0 ≤ b) : Int.fdiv a b = a / b := Int.fdiv_eq_ediv_of_nonneg a h
theorem and_low (k : IntKind) (j : Nat) (hj : j < k.bits) (hk : ∀ n : Int, 0 ≤ n → n < 2 ^ j → k.wrap n = n) (a : Int) :
    Go.bits .and k a (2 ^ j - 1) = a % 2 ^ j := by
  have hpos : 0 < 2 ^ j := Nat.two_pow_pos j
  have hc : ((2 : Int) ^ j - 1) = ((2 ^ j - 1 : Nat) : Int) := by
    rw [Int.natCast_sub hpos]; simp
  have hp : 2 ^ j ≤ 2 ^ k.bits := Nat.pow_le_pow_right (by decide) (Nat.le_of_lt hj)
  have hm : (2 ^ j - 1) % 2 ^ k.bits = 2 ^ j - 1 := Nat.mod_eq_of_lt (by omega)
  rw [hc]
  simp only [bits, BitVec.ofInt_natCast, BitVec.toNat_and, BitVec.toNat_ofNat, hm, BitVec.toNat_ofInt]
  rw [Nat.and_two_pow_sub_one_eq_mod]
  have hn : 0 ≤ a % (2 ^ k.bits : Int) := Int.emod_nonneg _ (by have := Int.pow_pos (n := 2) (m := k.bits) (by decide); omega)
  have hd : ((2 : Int) ^ j) ∣ 2 ^ k.bits := ⟨2 ^ (k.bits - j), by rw [← Int.pow_add]; congr 1; omega⟩
  have he : ((((a % ((2 ^ k.bits : Nat) : Int)).toNat % 2 ^ j : Nat)) : Int) = a % 2 ^ j := by
    rw [Int.natCast_emod, Int.toNat_of_nonneg (by rw [Int.natCast_pow]; exact hn)]
    rw [Int.natCast_pow, Int.natCast_pow]
    exact Int.emod_emod_of_dvd a hd
  have hlo := Int.emod_nonneg a (b := (2 : Int) ^ j) (by have := Int.pow_pos (n := 2) (m := j) (by decide); omega)
  have hhi := Int.emod_lt_of_pos a (b := (2 : Int) ^ j) (Int.pow_pos (by decide))
  rw [hk _ (Int.natCast_nonneg _) (by rw [he]; exact hhi), he]

theorem and16 (a : Int) : Go.bits .and .i64 a 65535 = a % 65536 := and_low .i64 16 (by decide) (fun n h h' => by rw [IntKind.wrap_i64]; omega) a
theorem and32u (a : Int) : Go.bits .and .u64 a 4294967295 = a % 4294967296 := and_low .u64 32 (by decide) (fun n h h' => by rw [u64w]; omega) a

/-- 64 times 64 bits, as math/bits reckons them. -/
theorem mul64_parts (x y x1 x0 y1 y0 : Int) (hx : x = x1 * 4294967296 + x0) (hy : y = y1 * 4294967296 + y0) (h1 : 0 ≤ x1 ∧ x1 < 4294967296) (h2 : 0 ≤ x0 ∧ x0 < 4294967296) (h3 : 0 ≤ y1 ∧ y1 < 4294967296) (h4 : 0 ≤ y0 ∧ y0 < 4294967296) :
    IntKind.u64.wrap ((IntKind.u64.wrap ((IntKind.u64.wrap (x1 * y1)) + ((IntKind.u64.wrap ((IntKind.u64.wrap (x1 * y0)) + ((IntKind.u64.wrap (x0 * y0)) / 4294967296))) / 4294967296))) + ((IntKind.u64.wrap (((IntKind.u64.wrap ((IntKind.u64.wrap (x1 * y0)) + ((IntKind.u64.wrap (x0 * y0)) / 4294967296))) % 4294967296) + (IntKind.u64.wrap (x0 * y1)))) / 4294967296)) = x * y / 18446744073709551616 := by
  have bd : ∀ p q : Int, 0 ≤ p ∧ p < 4294967296 → 0 ≤ q ∧ q < 4294967296 → 0 ≤ p * q ∧ p * q ≤ 18446744065119617025 := fun p q ⟨a, b⟩ ⟨c, d⟩ =>
    ⟨Int.mul_nonneg a c, Int.le_trans (Int.mul_le_mul_of_nonneg_left (show q ≤ 4294967295 by omega) a) (by omega)⟩
  obtain ⟨a1, b1⟩ := bd x1 y1 h1 h3
  obtain ⟨a2, b2⟩ := bd x1 y0 h1 h4
  obtain ⟨a3, b3⟩ := bd x0 y1 h2 h3
  obtain ⟨a4, b4⟩ := bd x0 y0 h2 h4
  have e : x * y = x1 * y1 * 18446744073709551616 + (x1 * y0 + x0 * y1) * 4294967296 + x0 * y0 := by
    subst hx hy
    grind
  generalize x1 * y1 = p11 at *
  generalize x1 * y0 = p10 at *
  generalize x0 * y1 = p01 at *
  generalize x0 * y0 = p00 at *
  simp only [u64w]
  rw [e]
  omega

def mul (a b : Int) : Int := hd (hd a * hd b / 65536)
theorem hd_hi {a : Int} (h : 1099511627776 ≤ a) : hd a = 1099511627776 := by unfold hd cl; rw [if_neg (by omega)]; split <;> omega
theorem hd_lo {a : Int} (h : a ≤ -1099511627776) : hd a = -1099511627776 := by unfold hd cl; split <;> (try split) <;> omega
theorem mul_bd (a b : Int) : -1099511627776 ≤ mul a b ∧ mul a b ≤ 1099511627776 := hd_bd _
theorem add_bd (a b : Int) : -1099511627776 ≤ add a b ∧ add a b ≤ 1099511627776 := hd_bd _
/-- Products of held numbers. -/
theorem prod_bd (a b : Int) (ha : -1099511627776 ≤ a ∧ a ≤ 1099511627776) (hb : -1099511627776 ≤ b ∧ b ≤ 1099511627776) : -1208925819614629174706176 ≤ a * b ∧ a * b ≤ 1208925819614629174706176 := by
  obtain ⟨a1, a2⟩ := ha
  obtain ⟨b1, b2⟩ := hb
  have h1 : 0 ≤ (1099511627776 - a) * (1099511627776 + b) := Int.mul_nonneg (by omega) (by omega)
  have h2 : 0 ≤ (1099511627776 + a) * (1099511627776 - b) := Int.mul_nonneg (by omega) (by omega)
  have h3 : 0 ≤ (1099511627776 - a) * (1099511627776 - b) := Int.mul_nonneg (by omega) (by omega)
  have h4 : 0 ≤ (1099511627776 + a) * (1099511627776 + b) := Int.mul_nonneg (by omega) (by omega)
  simp only [Int.add_mul, Int.sub_mul, Int.mul_add, Int.mul_sub] at h1 h2 h3 h4
  omega

theorem and32 (a : Int) : IntKind.wrap IntKind.u64 (↑(BitVec.toNat (BitVec.ofInt (IntKind.bits IntKind.u64) a &&& BitVec.ofInt (IntKind.bits IntKind.u64) 4294967295)) : Int) = a % 4294967296 := and32u a
theorem F96_eq (x y : Int) (hx : 0 ≤ x ∧ x < 18446744073709551616) (hy : 0 ≤ y ∧ y < 18446744073709551616) :
    F96 x y = some (.a0 (x * y / 18446744073709551616) (x * y % 18446744073709551616)) := by
  unfold F96
  simp only [and32, fd (show (0 : Int) ≤ 4294967296 by decide)]
  rw [mul64_parts x y (x / 4294967296) (x % 4294967296) (y / 4294967296) (y % 4294967296) (by omega) (by omega) (by omega) (by omega) (by omega) (by omega), u64w (x * y)]
theorem F93_eq (a b : Int) (ha : -9223372036854775808 ≤ a ∧ a ≤ 9223372036854775807) (hb : -9223372036854775808 ≤ b ∧ b ≤ 9223372036854775807) :
    F93 a b = some (.a0 ((a * b / 18446744073709551616) % 18446744073709551616) (a * b % 18446744073709551616)) := by
  unfold F93
  simp only [u64w]
  rw [F96_eq _ _ (by omega) (by omega)]
  simp only [Option.bind_some]
  by_cases h1 : a < 0
  · have ea : a % 18446744073709551616 = a + 18446744073709551616 := by omega
    by_cases h2 : b < 0
    · have eb : b % 18446744073709551616 = b + 18446744073709551616 := by omega
      rw [if_pos h1, if_pos h2, ea, eb]
      have e : (a + 18446744073709551616) * (b + 18446744073709551616) = a * b + a * 18446744073709551616 + b * 18446744073709551616 + 340282366920938463463374607431768211456 := by grind
      rw [e]; generalize a * b = p; congr 2 <;> omega
    · have eb : b % 18446744073709551616 = b := by omega
      rw [if_pos h1, if_neg h2, ea, eb]
      have e : (a + 18446744073709551616) * b = a * b + b * 18446744073709551616 := by grind
      rw [e]; generalize a * b = p; congr 2 <;> omega
  · have ea : a % 18446744073709551616 = a := by omega
    by_cases h2 : b < 0
    · have eb : b % 18446744073709551616 = b + 18446744073709551616 := by omega
      rw [if_neg h1, if_pos h2, ea, eb]
      have e : a * (b + 18446744073709551616) = a * b + a * 18446744073709551616 := by grind
      rw [e]; generalize a * b = p; congr 2 <;> omega
    · have eb : b % 18446744073709551616 = b := by omega
      rw [if_neg h1, if_neg h2, ea, eb]
      have hp : 0 ≤ a * b := Int.mul_nonneg (by omega) (by omega)
      have hp2 : a * b ≤ 9223372036854775807 * 9223372036854775807 := Int.mul_le_mul ha.2 hb.2 (by omega) (by omega)
      generalize a * b = p at *; congr 2; omega
theorem or48 (x y : Int) (hx : 0 ≤ x) (hy : 0 ≤ y ∧ y < 281474976710656) : IntKind.wrap IntKind.u64 (↑(BitVec.toNat (BitVec.ofInt (IntKind.bits IntKind.u64) (IntKind.wrap IntKind.u64 (x * 281474976710656)) ||| BitVec.ofInt (IntKind.bits IntKind.u64) y)) : Int) = (x * 281474976710656) % 18446744073709551616 + y := by
  rw [u64w (x * 281474976710656)]
  exact bits_join .u64 64 (by decide) (fun n h h' => by rw [u64w]; omega) 48 _ y (by omega) (by omega) (by omega) hy.1 (by omega) (by omega)
theorem F92_eq (p : Int) (hp : -1208925819614629174706176 ≤ p ∧ p ≤ 1208925819614629174706176) :
    hd (F92 ((p / 18446744073709551616) % 18446744073709551616) (p % 18446744073709551616)) = hd (p / 65536) := by
  unfold F92
  rw [show (2 : Int) ^ min (Int.toNat 48) (IntKind.bits IntKind.u64) = 281474976710656 by rfl, show (2 : Int) ^ min (Int.toNat 16) (IntKind.bits IntKind.u64) = 65536 by rfl]
  simp only [fd (show (0 : Int) ≤ 65536 by decide), fd (show (0 : Int) ≤ 9223372036854775808 by decide)]
  rw [or48 _ _ (by omega) (by omega)]
  generalize hw : w64 (p / 18446744073709551616 % 18446744073709551616) = t
  have ht : t = p / 18446744073709551616 := by rw [← hw, w64_eq]; omega
  generalize hv : (p / 18446744073709551616 % 18446744073709551616 * 281474976710656) % 18446744073709551616 + p % 18446744073709551616 / 65536 = v
  have hv' : v = (p / 65536) % 18446744073709551616 := by rw [← hv]; omega
  clear hv hw
  have h1 : ¬ t / 65536 < -1 := by omega
  rw [if_neg h1]
  simp only [beq_iff_eq, bne_iff_ne]
  by_cases h2 : t / 65536 = -1
  · rw [if_pos h2]
    by_cases h3 : v / 9223372036854775808 = 0
    · rw [if_pos h3, hd_lo (by omega), hd_lo (by omega)]
    · rw [if_neg h3, if_neg (by omega), if_neg (by omega)]
      congr 1; rw [w64_eq]; omega
  · rw [if_neg h2]
    by_cases h4 : t / 65536 > 0
    · rw [if_pos h4, hd_hi (by omega), hd_hi (by omega)]
    · rw [if_neg h4, if_pos (by omega)]
      by_cases h3 : v / 9223372036854775808 = 0
      · rw [if_neg (by omega)]; congr 1; rw [w64_eq]; omega
      · rw [if_pos h3, hd_hi (by omega), hd_hi (by omega)]
theorem F63_eq (a b : Int) : F63 a b = some (.a0 (mul a b)) := by
  unfold F63
  simp only [bnd_def, F57_eq]
  have h1 := hd_bd a
  have h2 := hd_bd b
  rw [F93_eq _ _ (by omega) (by omega)]
  simp only [Option.bind_some]
  rw [F92_eq _ (prod_bd _ _ h1 h2)]; rfl

/-! ### Paths of a tape -/
def okq (p : W34) : Prop := (-131072 ≤ p.c0 ∧ p.c0 ≤ 983040) ∧ (-131072 ≤ p.c1 ∧ p.c1 ≤ 983040)
theorem number2_ex (tape : List W3) (s : Int) (hs : 0 ≤ s) (hl : (tape.length : Int) ≤ 9223372036854775807) : ∃ v s', F54 (-2) 14 (Rt tape) s = some (.a0 v (Rt tape) s') ∧ (-131072 ≤ v ∧ v ≤ 983040) ∧ 0 ≤ s' := by
  obtain ⟨v1, s1, e1, l1, u1, p1⟩ := next_ex tape s 17 hs hl (by decide)
  obtain ⟨v2, s2, e2, l2, u2, p2⟩ := next_ex tape s1 4 p1 hl (by decide)
  obtain ⟨v3, s3, e3, l3, u3, p3⟩ := next_ex tape s2 65536 p2 hl (by decide)
  have hq : w64 (w64 (14 - -2) + 1) = 17 := by decide
  unfold F54
  rw [hq, e1, Option.bind_some]
  simp only []
  rw [e2, Option.bind_some]
  simp only []
  by_cases h0 : v2 = 0
  · refine ⟨(-2 + v1) * 65536 + 32768, s2, ?_, by omega, p2⟩
    rw [if_pos (by rw [beq_iff_eq]; exact h0)]
    congr 2; simp only [w64_eq]; omega
  · rw [if_neg (by rw [beq_iff_eq]; exact h0)]
    by_cases h1 : v2 = 1
    · refine ⟨(-2 + v1) * 65536 + v3, s3, ?_, by omega, p3⟩
      rw [if_pos (by rw [beq_iff_eq]; exact h1), e3, Option.bind_some]
      simp only []
      congr 2; simp only [w64_eq]; omega
    · refine ⟨(-2 + v1) * 65536, s2, ?_, by omega, p2⟩
      rw [if_neg (by rw [beq_iff_eq]; exact h1)]
      congr 2; simp only [w64_eq]; omega
theorem point_ex (tape : List W3) (s : Int) (hs : 0 ≤ s) (hl : (tape.length : Int) ≤ 9223372036854775807) : ∃ x y s', F46 (-2) 14 (Rt tape) s = some (.a0 x y (Rt tape) s') ∧ okq ⟨x, y⟩ ∧ 0 ≤ s' := by
  obtain ⟨x, s1, e1, b1, p1⟩ := number2_ex tape s hs hl
  obtain ⟨y, s2, e2, b2, p2⟩ := number2_ex tape s1 p1 hl
  refine ⟨x, y, s2, ?_, ⟨b1, b2⟩, p2⟩
  unfold F46
  rw [e1, Option.bind_some]
  simp only []
  rw [e2, Option.bind_some]
theorem path_loop (tape : List W3) (hl : (tape.length : Int) ≤ 9223372036854775807) (c : Bool) (m : Nat) (hm : m ≤ 7) : ∀ (n i : Nat) (o : List W34) (s : Int), i ≤ m → m < n + i → 0 ≤ s → o.length = 3 * i + 1 → (∀ p ∈ o, okq p) →
    ∃ (o' : List W34) (s' : Int), L16_0 n m i (Rt tape) s c o.length (Rw o) = some (.e0 (Rt tape) s' c o'.length (Rw o')) ∧ o'.length = 3 * m + 1 ∧ (∀ p ∈ o', okq p) ∧ 0 ≤ s'
  | 0, i, o, s, hi, hn, _, _, _ => by omega
  | n + 1, i, o, s, hi, hn, hs, ho, hp => by
    have hr : (Rw o).length = o.length := by simp
    rw [L16_0]
    by_cases h : i < m
    · have c1 : (i : Int) < (m : Int) := by omega
      have hw : w64 ((o.length : Int) - 1) = ((o.length - 1 : Nat) : Int) := by rw [w64_in (by omega) (by omega)]; omega
      have c2 : 0 ≤ ((o.length - 1 : Nat) : Int) ∧ ((o.length - 1 : Nat) : Int) < (o.length : Int) := by omega
      have hlt : o.length - 1 < o.length := by omega
      have hz := List.getElem?_eq_getElem hlt
      have hzp : okq o[o.length - 1] := hp _ (List.getElem_mem hlt)
      obtain ⟨x, y, s1, e1, b1, p1⟩ := point_ex tape s hs hl
      obtain ⟨v, s2, e2, _, _, p2⟩ := next_ex tape s1 2 p1 hl (by decide)
      obtain ⟨x2, y2, s3, e3, b3, p3⟩ := point_ex tape s2 p2 hl
      obtain ⟨x3, y3, s4, e4, b4, p4⟩ := point_ex tape s3 p3 hl
      have c3 : 0 + o.length ≤ (Rw o).length ∧ (o.length + 3) * 16 ≤ 140737488355328 ∧ o.length + 3 ≤ 140737488355328 := by rw [hr]; omega
      have ht : List.take o.length (Rw o) = Rw o := by rw [List.take_of_length_le (by rw [hr]; omega)]
      have hw2 : w64 ((i : Int) + 1) = ((i + 1 : Nat) : Int) := by rw [w64_in (by omega) (by omega)]; omega
      have ap : ∀ p q r : W34, Rw o ++ [[i64 p.c0, i64 p.c1], [i64 q.c0, i64 q.c1], [i64 r.c0, i64 r.c1]] = Rw (o ++ [p, q, r]) := fun p q r => by simp
      have al : ∀ p q r : W34, (o ++ [p, q, r]).length = o.length + 3 := fun p q r => by simp
      have ac : ∀ p q r : W34, okq p → okq q → okq r → ∀ a ∈ o ++ [p, q, r], okq a := fun p q r h1 h2 h3 a ha => by
        rcases List.mem_append.1 ha with ha | ha
        · exact hp a ha
        · simp at ha; rcases ha with rfl | rfl | rfl <;> assumption
      rw [if_pos c1, hw, if_pos c2, show 0 + Int.toNat ((o.length - 1 : Nat) : Int) = o.length - 1 by omega, rw_get, hz, Option.bind_some, e1, Option.bind_some]
      simp only []
      rw [e2, Option.bind_some]
      simp only []
      rw [ht, hw2]
      by_cases h0 : v = 0
      · have i1 := path_loop tape hl c m hm n (i + 1) (o ++ [o[o.length - 1], ⟨x, y⟩, ⟨x, y⟩]) s2 (by omega) (by omega) p2 (by rw [al]; omega) (ac _ _ _ hzp b1 b1)
        rw [al] at i1
        rw [if_pos (by rw [beq_iff_eq]; exact h0), if_pos c3, ap o[o.length - 1] ⟨x, y⟩ ⟨x, y⟩]
        exact i1
      · have i2 := path_loop tape hl c m hm n (i + 1) (o ++ [⟨x2, y2⟩, ⟨x3, y3⟩, ⟨x, y⟩]) s4 (by omega) (by omega) p4 (by rw [al]; omega) (ac _ _ _ b3 b4 b1)
        rw [al] at i2
        rw [if_neg (by rw [beq_iff_eq]; exact h0), e3, Option.bind_some]
        simp only []
        rw [e4, Option.bind_some]
        simp only []
        rw [if_pos c3, ap ⟨x2, y2⟩ ⟨x3, y3⟩ ⟨x, y⟩]
        exact i2
    · have c1 : ¬ (i : Int) < (m : Int) := by omega
      rw [if_neg c1]
      exact ⟨o, s, rfl, by omega, hp, hs⟩
theorem path_ex (tape : List W3) (hl : (tape.length : Int) ≤ 9223372036854775807) (c : Bool) (m : Nat) (hm : m ≤ 7) (s : Int) (hs : 0 ≤ s) :
    ∃ (o : List W34) (s' : Int), F16 m c (Rt tape) s = some (.a0 c o.length (Rt tape) s' (Rw o)) ∧ o.length = 3 * m + 1 ∧ (∀ p ∈ o, okq p) ∧ 0 ≤ s' := by
  obtain ⟨x, y, s1, e1, b1, p1⟩ := point_ex tape s hs hl
  obtain ⟨o, s', e2, h1, h2, h3⟩ := path_loop tape hl c m hm 100000 0 [⟨x, y⟩] s1 (by omega) (by omega) p1 rfl (fun p hp => by simp at hp; subst hp; exact b1)
  refine ⟨o, s', ?_, h1, h2, h3⟩
  unfold F16
  rw [e1, Option.bind_some]
  simp only []
  have e3 : L16_0 100000 (m : Int) 0 (Rt tape) s1 c 1 [[i64 x, i64 y]] = some (.e0 (Rt tape) s' c o.length (Rw o)) := e2
  rw [e3, Option.bind_some]
theorem clone_ok (a : List W34) (h0 : 0 < a.length) (hL : a.length ≤ 60) : F47 (Rw a) = some (.a0 a.length (Rw a)) := by
  have hr : (Rw a).length = a.length := by simp
  unfold F47
  rw [if_pos (by rw [hr]; exact h0)]
  simp only [hr, Nat.zero_add, List.nil_append]
  rw [if_pos (by omega)]
theorem points_loop (o : List W34) (h : o.length ≤ 60) : ∀ (n i : Nat), i ≤ o.length → o.length < n + i → L52_0 n (Rw o) (Rw o) o.length i = some .e1
  | 0, i, hi, hn => by omega
  | n + 1, i, hi, hn => by
    rw [L52_0]
    by_cases hc : i < o.length
    · have g1 : (i : Int) < (o.length : Int) := by omega
      have g2 : (0 : Int) ≤ (i : Int) := by omega
      rw [if_pos g1, if_pos g2, show Int.toNat (i : Int) = i by omega, rw_get, List.getElem?_eq_getElem hc]
      simp only [Option.bind_some, beq_self_eq_true, Bool.and_self, Bool.not_true, Bool.false_eq_true, if_false]
      rw [w64_in (by omega) (by omega), show (i : Int) + 1 = ((i + 1 : Nat) : Int) by omega]
      exact points_loop o h n (i + 1) (by omega) (by omega)
    · have g1 : ¬ (i : Int) < (o.length : Int) := by omega
      rw [if_neg g1]
theorem same_path (o : List W34) (c : Bool) (h : o.length ≤ 60) : F20 c (Rw o) c (Rw o) = some (.a0 true) := by
  have hr : (Rw o).length = o.length := by simp
  have e := points_loop o h 100000 0 (by omega) (by omega)
  rw [show ((0 : Nat) : Int) = 0 by rfl] at e
  unfold F20 F52
  rw [if_pos (by simp), hr, if_neg (by simp), e]; rfl
theorem known7 : F21 = some (.a0 true) := by kernel_rfl
theorem fit (o : List W34) : List.take o.length (Rw o) = Rw o := by rw [List.take_of_length_le (by simp)]
/-! ### Mapped -/
def Few (x : Int) : Prop := -1310720 < x ∧ x < 1310720
def sh (e f : Int) (p : W34) : W34 := ⟨p.c0 + e, p.c1 + f⟩
theorem made_ok {a b : Int} (ha : Few a) (hb : Few b) : F33 a b 0 0 65536 65536 0 = some (.a0 65536 0 0 65536 a b) := by
  unfold Few at ha hb
  have e0 : w64 (0 - 0) = 0 := by decide
  have k1 : F64 0 = some (.a0 65536) := by kernel_rfl
  have k2 : F65 0 = some (.a0 0) := by kernel_rfl
  have k3 : F66 65536 65536 = some (.a0 65536) := by kernel_rfl
  have k4 : F66 0 65536 = some (.a0 0) := by kernel_rfl
  have k5 : F67 65536 0 0 0 0 = some (.a0 0) := by kernel_rfl
  have k6 : F67 0 0 65536 0 0 = some (.a0 0) := by kernel_rfl
  have k7 : ∀ x, Few x → F60 x 0 = x := fun x hx => by
    unfold Few at hx
    show hd (w64 (hd x + hd 0)) = x
    rw [hd_of (a := x) (by omega) (by omega), hd_of (a := 0) (by decide) (by decide), w64_in (by omega) (by omega), hd_of (by omega) (by omega)]; omega
  unfold F33
  rw [k1, Option.bind_some]
  simp only []
  rw [k2, Option.bind_some]
  simp only [e0]
  rw [k3]
  simp only [Option.bind_some]
  rw [k4]
  simp only [Option.bind_some, k5, k6, bnd_def, e0, k7 a ha, k7 b hb]
theorem apply_ok {e f x y : Int} (he : Few e) (hf : Few f) (hx : -131072 ≤ x ∧ x ≤ 983040) (hy : -131072 ≤ y ∧ y ≤ 983040) : F69 65536 0 0 65536 e f x y = some (.a0 (x + e) (y + f)) := by
  unfold Few at he hf
  have m1 : ∀ z : Int, -131072 ≤ z ∧ z ≤ 983040 → mul 65536 z = z := fun z hz => by
    unfold mul
    rw [hd_of (a := 65536) (by decide) (by decide), hd_of (a := z) (by omega) (by omega), hd_of (by omega) (by omega)]; omega
  have m0 : ∀ z : Int, mul 0 z = 0 := fun z => by unfold mul; rw [hd_of (a := 0) (by decide) (by decide), Int.zero_mul]; decide
  have a1 : ∀ u v : Int, -8000000 ≤ u ∧ u ≤ 8000000 → -8000000 ≤ v ∧ v ≤ 8000000 → add u v = u + v := fun u v hu hv => by
    unfold add; rw [hd_of (a := u) (by omega) (by omega), hd_of (a := v) (by omega) (by omega), hd_of (by omega) (by omega)]
  have p1 : ∀ z : Int, -16000000 ≤ z ∧ z ≤ 16000000 → F98 z = z := fun z hz => by
    show cl z (-536870912) 536870912 = z
    exact cl_of (by omega) (by omega)
  unfold F69 F99
  simp only [F63_eq, Option.bind_some, bnd_def, F56_eq, m1 x hx, m1 y hy, m0]
  rw [a1 x 0 (by omega) (by omega), a1 0 y (by omega) (by omega), a1 (x + 0) e (by omega) (by omega), a1 (0 + y) f (by omega) (by omega), p1 _ (by omega), p1 _ (by omega)]
  congr 2 <;> omega
theorem map_loop (a : List W34) (c : Bool) {e f : Int} (he : Few e) (hf : Few f) (hL : a.length ≤ 60) (ha : ∀ p ∈ a, okq p) : ∀ (n i : Nat) (o : List W34), i ≤ a.length → a.length < n + i → o.length = a.length →
    (∀ j, j < i → o[j]? = (a.map (sh e f))[j]?) → (∀ j, i ≤ j → o[j]? = a[j]?) → L34_0 n a.length a.length i 65536 0 0 65536 e f c (Rw o) = some (.e0 a.length c (Rw (a.map (sh e f))))
  | 0, i, o, hi, hn, _, _, _ => by omega
  | n + 1, i, o, hi, hn, ho, hj, hk => by
    rw [L34_0]
    by_cases h : i < a.length
    · have c1 : (i : Int) < (a.length : Int) := by omega
      have c3 : (0 : Int) ≤ (i : Int) ∧ (i : Int) < (a.length : Int) := by omega
      have hoi : i < o.length := by omega
      have ga := ha _ (List.getElem_mem h)
      have hw2 : w64 ((i : Int) + 1) = ((i + 1 : Nat) : Int) := by rw [w64_in (by omega) (by omega)]; omega
      have eo : o[i]? = some a[i] := by rw [hk i (Nat.le_refl _), List.getElem?_eq_getElem h]
      rw [if_pos c1, if_pos c3]
      simp only [show Int.toNat (i : Int) = i by omega, Nat.zero_add, rw_get, eo, Option.bind_some]
      rw [apply_ok he hf ga.1 ga.2, Option.bind_some, hw2]
      have es : List.set (Rw o) i [i64 ((a[i]).c0 + e), i64 ((a[i]).c1 + f)] = Rw (o.set i (sh e f a[i])) := by simp [Rw, List.map_set, sh]
      simp only [es]
      refine map_loop a c he hf hL ha n (i + 1) _ (by omega) (by omega) (by rw [List.length_set]; exact ho) (fun j hj' => ?_) (fun j hj' => ?_)
      · rw [List.getElem?_set]
        by_cases hij : i = j
        · subst hij
          rw [if_pos rfl, if_pos hoi, List.getElem?_map, List.getElem?_eq_getElem h]; rfl
        · rw [if_neg hij]; exact hj j (by omega)
      · rw [List.getElem?_set, if_neg (by omega)]; exact hk j (by omega)
    · have c1 : ¬ (i : Int) < (a.length : Int) := by omega
      rw [if_neg c1]
      have : o = a.map (sh e f) := by
        apply List.ext_getElem?
        intro j
        by_cases hj' : j < i
        · exact hj j hj'
        · rw [List.getElem?_eq_none (by omega), List.getElem?_eq_none (by simp; omega)]
      rw [this]
theorem map_ok (a : List W34) (c : Bool) {e f : Int} (he : Few e) (hf : Few f) (h0 : 0 < a.length) (hL : a.length ≤ 60) (ha : ∀ p ∈ a, okq p) :
    F34 65536 0 0 65536 e f c (Rw a) = some (.a0 c a.length (Rw (a.map (sh e f)))) := by
  unfold F34 F68
  rw [clone_ok a h0 hL]
  simp only [Option.bind_some]
  have ml := map_loop a c he hf hL ha 100000 0 a (by omega) (by omega) rfl (fun j hj => by omega) (fun j _ => rfl)
  rw [show ((0 : Nat) : Int) = 0 by rfl] at ml
  rw [ml, Option.bind_some]
theorem moved_loop (a : List W34) (c : Bool) {e f : Int} (he : Few e) (hf : Few f) (hL : a.length ≤ 60) (ha : ∀ p ∈ a, okq p) : ∀ (n i : Nat), i ≤ a.length → a.length < n + i →
    L8_0 n e f a.length i c a.length c a.length (Rw a) (Rw (a.map (sh e f))) = some (.e1 c a.length c a.length (Rw a) (Rw (a.map (sh e f))))
  | 0, i, hi, hn => by omega
  | n + 1, i, hi, hn => by
    rw [L8_0]
    by_cases h : i < a.length
    · have c1 : (i : Int) < (a.length : Int) := by omega
      have c3 : (0 : Int) ≤ (i : Int) ∧ (i : Int) < (a.length : Int) := by omega
      obtain ⟨g1, g2⟩ := ha _ (List.getElem_mem h)
      unfold Few at he hf
      have em : (a.map (sh e f))[i]? = some (sh e f a[i]) := by rw [List.getElem?_map, List.getElem?_eq_getElem h]; rfl
      rw [if_pos c1]
      simp only [if_pos c3, show Int.toNat (i : Int) = i by omega, Nat.zero_add, rw_get, em, List.getElem?_eq_getElem h, Option.bind_some]
      rw [w64_in (n := (a[i]).c0 + e) (by omega) (by omega), w64_in (n := (a[i]).c1 + f) (by omega) (by omega), if_neg (by simp [sh]), w64_in (by omega) (by omega), show (i : Int) + 1 = ((i + 1 : Nat) : Int) by omega]
      exact moved_loop a c he hf hL ha n (i + 1) (by omega) (by omega)
    · have c1 : ¬ (i : Int) < (a.length : Int) := by omega
      rw [if_neg c1]
theorem few_mod (x : Int) : Few (Int.tmod x 1310720) := by
  have t1 : Int.tmod x 1310720 < 1310720 := Int.tmod_lt_of_pos x (by decide)
  have t2 : -1310720 < Int.tmod x 1310720 := by have := Int.tmod_lt_of_pos (-x) (show (0 : Int) < 1310720 by decide); rw [Int.neg_tmod] at this; omega
  exact ⟨t2, t1⟩
theorem pathMaps_plain (ta : List W3) (hla : (ta.length : Int) ≤ 9223372036854775807) (x y : Int) : F8 (Rt ta) x y = some (.a0 true) := by
  obtain ⟨v, s1, e1, v0, v1, p1⟩ := next_ex ta 0 5 (by decide) hla (by decide)
  obtain ⟨u, s2, e2, u0, u1, p2⟩ := next_ex ta s1 2 p1 hla (by decide)
  have hm : w64 (1 + v) = ((v.toNat + 1 : Nat) : Int) := by rw [w64_in (by omega) (by omega)]; omega
  obtain ⟨a, s3, e3, la, oa, p3⟩ := path_ex ta hla (u == 0) (v.toNat + 1) (by omega) s2 p2
  have he := few_mod x
  have hf := few_mod y
  have hL : a.length ≤ 60 := by omega
  have h0 : 0 < a.length := by omega
  have md := made_ok he hf
  have mo := map_ok a (u == 0) he hf h0 hL oa
  have mi := map_ok a (u == 0) (e := 0) (f := 0) (by unfold Few; decide) (by unfold Few; decide) h0 hL oa
  have id0 : a.map (sh 0 0) = a := by
    have : (sh 0 0) = (id : W34 → W34) := by funext p; unfold sh; simp
    rw [this, List.map_id]
  rw [id0] at mi
  have lp := moved_loop a (u == 0) he hf hL oa 100000 0 (by omega) (by omega)
  rw [show ((0 : Nat) : Int) = 0 by rfl] at lp
  unfold F8
  rw [e1]
  simp only [Option.bind_some]
  rw [e2]
  simp only [Option.bind_some, hm]
  generalize Int.tmod x 1310720 = e at *
  generalize Int.tmod y 1310720 = f at *
  generalize (u == 0) = c at *
  have hra : (Rw a).length = a.length := by simp
  have hrm : (Rw (a.map (sh e f))).length = a.length := by simp
  have fm : List.take a.length (Rw (a.map (sh e f))) = Rw (a.map (sh e f)) := by rw [List.take_of_length_le (by rw [hrm]; omega)]
  have ga : 0 + a.length ≤ (Rw a).length := by rw [hra]; omega
  have gm : 0 + a.length ≤ (Rw (a.map (sh e f))).length := by rw [hrm]; omega
  have sp := same_path a c hL
  have ft : F36 c (Rw (a.map (sh e f))) c (Rw a) = true := by unfold F36; rw [hra, hrm, if_pos (by rw [beq_iff_eq])]; simp
  rw [e3]
  simp only [Option.bind_some]
  rw [md]
  simp only [Option.bind_some]
  rw [if_pos ga, fit a, mo]
  simp only [Option.bind_some]
  rw [show F35 = some (.a0 65536 0 0 65536 0 0) from rfl]
  simp only [Option.bind_some]
  rw [mi]
  simp only [Option.bind_some]
  rw [if_pos ga, fit a, sp]
  simp only [Option.bind_some]
  rw [if_neg (by decide), if_neg (by simp), if_neg (by simp), lp]
  simp only [Option.bind_some]
  rw [if_pos gm, fm, if_pos ga, fit a, bnd_def, ft, if_pos rfl, known7]; rfl
end Go.Proofs.Ythohhdcngdmbeaa.H
