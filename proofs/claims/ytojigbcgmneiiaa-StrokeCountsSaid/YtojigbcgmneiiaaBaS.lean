/- Lines of a tape: numbers of tapes, held sums, how far a place is, how long a line is. Plain Lean over what the functions compute. Conditions: those stated. -/
import Derived.Test.YtojigbcgmneiiaaPSd
set_option linter.unusedVariables false
set_option linter.unusedSimpArgs false
namespace Go.Proofs.Ytojigbcgmneiiaa.H
open Go Go.VM
set_option maxRecDepth 100000
abbrev Rt (ks : List W3) : List (List V) := ks.map W3.cells
abbrev Rw (ks : List W43) : List (List V) := ks.map W43.cells
theorem rt_get (ks : List W3) (i : Nat) : ((Rt ks)[i]?).bind W3.dec = ks[i]? := by
  simp only [Rt, List.getElem?_map]
  cases ks[i]? <;> rfl
theorem rw_get (ks : List W43) (i : Nat) : ((Rw ks)[i]?).bind W43.dec = ks[i]? := by
  simp only [Rw, List.getElem?_map]
  cases ks[i]? <;> rfl
theorem bnd_def {α β : Type} (x : α) (f : α → β) : bnd x f = f x := rfl
theorem w64_eq (n : Int) : w64 n = ((n + 9223372036854775808) % 18446744073709551616) - 9223372036854775808 := by
  simp [IntKind.wrap, IntKind.bits, IntKind.signed]; omega
theorem w64_in {n : Int} (h : -9223372036854775808 ≤ n) (h' : n ≤ 9223372036854775807) : w64 n = n := by
  rw [w64_eq]; omega
theorem u64w (x : Int) : IntKind.u64.wrap x = x % 18446744073709551616 := by simp [IntKind.wrap, IntKind.bits, IntKind.signed]
theorem u64id {x : Int} (h : 0 ≤ x) (h' : x < 18446744073709551616) : IntKind.u64.wrap x = x := by rw [u64w]; omega
def cl (a lo hi : Int) : Int := if a < lo then lo else if a > hi then hi else a
def hd (a : Int) : Int := cl a (-1099511627776) 1099511627776
def add (a b : Int) : Int := hd (hd a + hd b)
theorem hd_bd (a : Int) : -1099511627776 ≤ hd a ∧ hd a ≤ 1099511627776 := by unfold hd cl; split <;> (try split) <;> omega
theorem hd_of {a : Int} (h : -1099511627776 ≤ a) (h' : a ≤ 1099511627776) : hd a = a := by unfold hd cl; rw [if_neg (by omega), if_neg (by omega)]
theorem cl_bd (a lo hi : Int) (h : lo ≤ hi) : lo ≤ cl a lo hi ∧ cl a lo hi ≤ hi := by unfold cl; split <;> (try split) <;> omega
theorem cl_of {a lo hi : Int} (h : lo ≤ a) (h' : a ≤ hi) : cl a lo hi = a := by unfold cl; rw [if_neg (by omega), if_neg (by omega)]
theorem F90_eq (a lo hi : Int) : F37 a lo hi = cl a lo hi := rfl
theorem F57_eq (a : Int) : F56 a = hd a := rfl
theorem F98_eq (a : Int) : F65 a = cl a (-536870912) 536870912 := rfl
theorem or_nat (a b : Nat) (ha : a < 4294967296) (hb : b < 4294967296) : IntKind.wrap IntKind.u64 (↑(BitVec.toNat (BitVec.ofInt (IntKind.bits IntKind.u64) (a : Int) ||| BitVec.ofInt (IntKind.bits IntKind.u64) (b : Int))) : Int) = ((a ||| b : Nat) : Int) ∧ a ||| b < 4294967296 ∧ b ≤ a ||| b ∧ a ≤ a ||| b := by
  have h : a ||| b < 2 ^ 32 := Nat.or_lt_two_pow (by omega) (by omega)
  refine ⟨?_, h, Nat.right_le_or, Nat.left_le_or⟩
  simp only [BitVec.ofInt_natCast, BitVec.toNat_or, BitVec.toNat_ofNat]
  have e : ∀ x : Nat, x < 4294967296 → x % 2 ^ IntKind.u64.bits = x := fun x hx => Nat.mod_eq_of_lt (Nat.lt_of_lt_of_le hx (by decide))
  rw [e a ha, e b hb, u64id (by omega) (by omega)]
theorem sq_loop (a : Nat) : ∀ (n x m : Nat), n ≤ 32 → n < m → x < 4294967296 → ∃ r : Nat, L86_0 m (a : Int) (x : Int) (((2 ^ n / 2 : Nat) : Int)) = some (.e0 (r : Int)) ∧ r < 4294967296 ∧ (0 < x → 0 < r) ∧ (1 ≤ a → 1 ≤ n → 0 < r) ∧ (a = 0 → x = 0 → r = 0)
  | _, x, 0, _, hm, _ => by omega
  | 0, x, m + 1, hn, _, hx => ⟨x, by rw [L86_0, if_neg (by decide)], hx, id, by omega, fun _ h => h⟩
  | n + 1, x, m + 1, hn, hm, hx => by
    have hp : 0 < 2 ^ n := Nat.two_pow_pos n
    have hq : 2 ^ n ≤ 2 ^ 31 := Nat.pow_le_pow_right (by decide) (by omega)
    have e : 2 ^ (n + 1) / 2 = 2 ^ n := by rw [Nat.pow_succ]; omega
    rw [e]
    obtain ⟨o1, o2, o3, o4⟩ := or_nat x (2 ^ n) hx (by omega)
    rw [L86_0, if_pos (by omega), o1]
    have e2 : Int.fdiv (((2 ^ n : Nat) : Int)) 2 = ((2 ^ n / 2 : Nat) : Int) := by rw [Int.fdiv_eq_ediv_of_nonneg _ (by omega)]; omega
    rw [e2]
    generalize hs : x ||| 2 ^ n = s at *
    have hss : s * s < 18446744073709551616 := by
      have := Nat.mul_le_mul (show s ≤ 4294967295 by omega) (show s ≤ 4294967295 by omega); omega
    have hss1 : 1 ≤ s * s := Nat.mul_le_mul (show 1 ≤ s by omega) (show 1 ≤ s by omega)
    have e3 : ((s : Int) * (s : Int)) = ((s * s : Nat) : Int) := by rw [Int.natCast_mul]
    rw [e3, u64id (by omega) (by omega)]
    by_cases h : s * s ≤ a
    · rw [if_pos (by omega)]
      obtain ⟨r, r1, r2, r3, r4, r5⟩ := sq_loop a n s m (by omega) (by omega) o2
      exact ⟨r, r1, r2, fun _ => r3 (by omega), fun _ _ => r3 (by omega), fun h0 => by omega⟩
    · rw [if_neg (by omega)]
      obtain ⟨r, r1, r2, r3, r4, r5⟩ := sq_loop a n x m (by omega) (by omega) hx
      refine ⟨r, r1, r2, r3, fun h1 _ => ?_, r5⟩
      by_cases hn1 : 1 ≤ n
      · exact r4 h1 hn1
      · have h0 : n = 0 := by omega
        subst h0
        by_cases hx0 : 0 < x
        · exact r3 hx0
        · have : x = 0 := by omega
          subst this
          have : s = 1 := by rw [← hs]; decide
          subst this; omega
theorem hyp_ex (x y : Int) : ∃ r : Int, F76 x y = some (.a0 r) ∧ 0 ≤ r ∧ r < 4294967296 ∧ (r = 0 ↔ x = 0 ∧ y = 0) := by
  have hx := cl_bd x (-1073741824) 1073741824 (by decide)
  have hy := cl_bd y (-1073741824) 1073741824 (by decide)
  have hx0 : cl x (-1073741824) 1073741824 = 0 ↔ x = 0 := by unfold cl; split <;> (try split) <;> omega
  have hy0 : cl y (-1073741824) 1073741824 = 0 ↔ y = 0 := by unfold cl; split <;> (try split) <;> omega
  unfold F76
  simp only [bnd_def, F90_eq]
  generalize hu : cl x (-1073741824) 1073741824 = u at *
  generalize hv : cl y (-1073741824) 1073741824 = v at *
  have sqb : ∀ u : Int, -1073741824 ≤ u ∧ u ≤ 1073741824 → 0 ≤ u * u ∧ u * u ≤ 1152921504606846976 ∧ (u * u = 0 ↔ u = 0) := fun u h => by
    have h1 : 0 ≤ (1073741824 - u) * (1073741824 + u) := Int.mul_nonneg (by omega) (by omega)
    have h2 : 0 ≤ u * u := by
      by_cases h : 0 ≤ u
      · exact Int.mul_nonneg h h
      · have := Int.mul_nonneg (show 0 ≤ -u by omega) (show 0 ≤ -u by omega)
        rw [Int.neg_mul_neg] at this; exact this
    simp only [Int.sub_mul, Int.mul_add] at h1
    exact ⟨h2, by omega, by rw [Int.mul_eq_zero]; omega⟩
  obtain ⟨u1, u2, u3⟩ := sqb u hx
  obtain ⟨v1, v2, v3⟩ := sqb v hy
  obtain ⟨r, r1, r2, _, r3, r4⟩ := sq_loop (u * u + v * v).toNat 32 0 18446744073709551616 (by decide) (by decide) (by decide)
  have e : u * u + v * v = (((u * u + v * v).toNat : Nat) : Int) := by omega
  rw [w64_in (n := u * u) (by omega) (by omega), w64_in (n := v * v) (by omega) (by omega), w64_in (by omega) (by omega), u64id (by omega) (by omega), e]
  have hF : F86 (((u * u + v * v).toNat : Nat) : Int) = some (.a0 (r : Int)) := by
    unfold F86
    rw [show (0 : Int) = ((0 : Nat) : Int) by rfl, show (2147483648 : Int) = ((2 ^ 32 / 2 : Nat) : Int) by decide, r1, Option.bind_some]
    simp only []
    rw [w64_in (by omega) (by omega)]
  rw [hF, Option.bind_some]
  simp only [bnd_def, F57_eq]
  rw [hd_of (by omega) (by omega)]
  refine ⟨(r : Int), rfl, by omega, by omega, ?_⟩
  constructor
  · intro h
    have : ¬ 1 ≤ (u * u + v * v).toNat := fun h1 => by have := r3 h1 (by decide); omega
    omega
  · rintro ⟨h1, h2⟩
    have h1 := hx0.2 h1
    have h2 := hy0.2 h2
    have := r4 (by omega) rfl
    omega
/-- How far a place is, as it is reckoned. -/
noncomputable def hypv (x y : Int) : Int := Classical.choose (hyp_ex x y)
theorem F89_eq (x y : Int) : F76 x y = some (.a0 (hypv x y)) := (Classical.choose_spec (hyp_ex x y)).1
theorem hypv_bd (x y : Int) : 0 ≤ hypv x y ∧ hypv x y < 4294967296 ∧ (hypv x y = 0 ↔ x = 0 ∧ y = 0) := (Classical.choose_spec (hyp_ex x y)).2

/-! ### Tapes -/
theorem within_ex (x : Int) : ∃ v : Int, F50 x 0 1073741824 = some (.a0 v) ∧ 0 ≤ v := by
  have hq : w64 (w64 (1073741824 - 0) + 1) = 1073741825 := by decide
  unfold F50
  rw [hq]
  by_cases h1 : 0 ≤ x ∧ x ≤ 1073741824
  · exact ⟨x, by rw [if_pos h1.1, if_pos h1.2], h1.1⟩
  · have t1 : Int.tmod x 1073741825 < 1073741825 := Int.tmod_lt_of_pos x (by decide)
    have t2 : -1073741825 < Int.tmod x 1073741825 := by have := Int.tmod_lt_of_pos (-x) (show (0 : Int) < 1073741825 by decide); rw [Int.neg_tmod] at this; omega
    have go : ∃ v : Int, (if (1073741825 : Int) = 0 then none else if Int.tmod x 1073741825 < 0 then some (A50.a0 (w64 (0 + w64 (w64 (w64 (Int.tmod x 1073741825 + 1073741824) - 0) + 1)))) else some (A50.a0 (w64 (0 + Int.tmod x 1073741825)))) = some (.a0 v) ∧ 0 ≤ v := by
      rw [if_neg (by decide)]
      by_cases h2 : Int.tmod x 1073741825 < 0
      · rw [if_pos h2]
        refine ⟨_, rfl, ?_⟩
        simp only [w64_eq]; omega
      · rw [if_neg h2]
        refine ⟨_, rfl, ?_⟩
        simp only [w64_eq]; omega
    by_cases h3 : x ≥ 0
    · rw [if_pos h3, if_neg (by omega)]; exact go
    · rw [if_neg h3]; exact go
theorem next_ex (tape : List W3) (s a : Int) (hs : 0 ≤ s) (hl : (tape.length : Int) ≤ 9223372036854775807) (ha : 0 < a) : ∃ v s', F28 a (Rt tape) s = some (.a0 v (Rt tape) s') ∧ 0 ≤ v ∧ v < a ∧ 0 ≤ s' := by
  have hlen : (Rt tape).length = tape.length := by simp
  unfold F28
  rw [hlen]
  by_cases h : s ≥ (tape.length : Int)
  · exact ⟨0, s, by rw [if_pos h], by omega, ha, hs⟩
  · have hw : w64 (w64 (s + 1) - 1) = s := by rw [w64_in (n := s + 1) (by omega) (by omega), w64_in (by omega) (by omega)]; omega
    have hi : s.toNat < tape.length := by omega
    obtain ⟨v, v1, v2⟩ := within_ex (tape[s.toNat]).c0
    refine ⟨Int.tmod v a, s + 1, ?_, Int.tmod_nonneg _ v2, Int.tmod_lt_of_pos _ ha, by omega⟩
    rw [if_neg h, hw, if_pos hs, rt_get, List.getElem?_eq_getElem hi, Option.bind_some, v1, Option.bind_some]
    simp only []
    rw [if_neg (by omega), w64_in (by omega) (by omega)]
theorem number_ex (tape : List W3) (s : Int) (hs : 0 ≤ s) (hl : (tape.length : Int) ≤ 9223372036854775807) : ∃ v s', F29 (-5) 20 (Rt tape) s = some (.a0 v (Rt tape) s') ∧ -2097152 ≤ v ∧ v ≤ 2097152 ∧ 0 ≤ s' := by
  obtain ⟨v1, s1, e1, l1, u1, p1⟩ := next_ex tape s 26 hs hl (by decide)
  obtain ⟨v2, s2, e2, l2, u2, p2⟩ := next_ex tape s1 4 p1 hl (by decide)
  obtain ⟨v3, s3, e3, l3, u3, p3⟩ := next_ex tape s2 65536 p2 hl (by decide)
  have hq : w64 (w64 (20 - -5) + 1) = 26 := by decide
  unfold F29
  rw [hq, e1, Option.bind_some]
  simp only []
  rw [e2, Option.bind_some]
  simp only []
  by_cases h0 : v2 = 0
  · refine ⟨(-5 + v1) * 65536 + 32768, s2, ?_, by omega, by omega, p2⟩
    rw [if_pos (by rw [beq_iff_eq]; exact h0)]
    congr 2; simp only [w64_eq]; omega
  · rw [if_neg (by rw [beq_iff_eq]; exact h0)]
    by_cases h1 : v2 = 1
    · refine ⟨(-5 + v1) * 65536 + v3, s3, ?_, by omega, by omega, p3⟩
      rw [if_pos (by rw [beq_iff_eq]; exact h1), e3, Option.bind_some]
      simp only []
      congr 2; simp only [w64_eq]; omega
    · refine ⟨(-5 + v1) * 65536, s2, ?_, by omega, by omega, p2⟩
      rw [if_neg (by rw [beq_iff_eq]; exact h1)]
      congr 2; simp only [w64_eq]; omega
end Go.Proofs.Ytojigbcgmneiiaa.H
