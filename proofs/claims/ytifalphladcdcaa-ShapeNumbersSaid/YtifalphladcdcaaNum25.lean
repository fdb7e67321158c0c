/- The document's products: 128 bits by One. Conditions: those stated. -/
import Derived.Test.YtifalphladcdcaaNum5
import Derived.KernelRfl
set_option linter.unusedVariables false
set_option linter.unusedSimpArgs false
namespace Go.Proofs.Ytifalphladcdcaa.H
open Go Go.VM
set_option maxRecDepth 100000
theorem rsize (a : Int) (h : -1099511627776 ≤ a ∧ a ≤ 1099511627776) : F112 a = some (.a0 (if a < 0 then -a else a) (decide (a < 0))) := by
  simp only [F112, D112, PT.ev, PT.test, dite_eq_ite]
  by_cases h0 : a < 0
  · rw [if_pos h0, if_pos h0, w64_in (by omega) (by omega), u64id (by omega) (by omega), decide_eq_true h0]; congr 2; omega
  · rw [if_neg h0, if_neg h0, u64id (by omega) (by omega), decide_eq_false h0]
theorem lz16 : F124 65536 = some (.a0 47) := by kernel_rfl
theorem u64pos (x : Int) : 0 ≤ IntKind.u64.wrap x := by rw [u64w]; omega
theorem dv0 (n : Nat) (a b c d e f g h : Int) (hg : g < 4294967296) : L123_0 (n + 1) (.s0 a b c 0 d e f g h) = some (.e0 a b c 0 d e f g) := by
  rw [L123_0_s0]
  have h2 : ¬ (IntKind.wrap IntKind.u64 (g * 0) > IntKind.wrap IntKind.u64 (IntKind.wrap IntKind.u64 (4294967296 * h) + e)) := by
    have := u64pos (IntKind.wrap IntKind.u64 (4294967296 * h) + e)
    rw [Int.mul_zero, show IntKind.u64.wrap 0 = 0 by rfl]; omega
  simp only [D123_0, PT.ev, PT.test, dite_eq_ite, if_neg h2, if_neg (show ¬ g ≥ 4294967296 by omega), N123_0.nx_e0]
theorem dv2 (n : Nat) (a b c d e f g h : Int) (hg : h < 4294967296) : L123_2 (n + 1) (.s0 a b c 0 d e f g h) = some (.e0 a b d e g h) := by
  rw [L123_2_s0]
  have h2 : ¬ (IntKind.wrap IntKind.u64 (h * 0) > IntKind.wrap IntKind.u64 (IntKind.wrap IntKind.u64 (4294967296 * f) + d)) := by
    have := u64pos (IntKind.wrap IntKind.u64 (4294967296 * f) + d)
    rw [Int.mul_zero, show IntKind.u64.wrap 0 = 0 by rfl]; omega
  simp only [D123_2, PT.ev, PT.test, dite_eq_ite, if_neg h2, if_neg (show ¬ h ≥ 4294967296 by omega), N123_2.nx_e0]
theorem or47 (x y : Int) (hx : 0 ≤ x) (hy : 0 ≤ y ∧ y < 140737488355328) : IntKind.wrap IntKind.u64 (↑(BitVec.toNat (BitVec.ofInt (IntKind.bits IntKind.u64) (IntKind.wrap IntKind.u64 (x * 140737488355328)) ||| BitVec.ofInt (IntKind.bits IntKind.u64) y)) : Int) = (x * 140737488355328) % 18446744073709551616 + y := by
  rw [u64w (x * 140737488355328)]
  exact bits_join .u64 64 (by decide) (fun n h h' => by rw [u64w]; omega) 47 _ y (by omega) (by omega) (by omega) hy.1 (by omega) (by omega)
theorem rdiv64 (hi lo : Int) (h : 0 ≤ hi ∧ hi < 65536) (h' : 0 ≤ lo ∧ lo < 18446744073709551616) : F123 hi lo 65536 = some (.a0 ((hi * 18446744073709551616 + lo) / 65536) (lo % 65536)) := by
  have c1 : ((65536 : Int) == 0) = false := rfl
  have c2 : ¬ ((65536 : Int) ≤ hi) := by omega
  simp only [F123, D123, PT.ev, PT.test, dite_eq_ite, c1, c2, Bool.false_eq_true, if_false, Option.bind_some, lz16]
  by_cases h0 : hi = 0
  · subst h0
    rw [if_pos (by rfl), if_neg (by decide), Int.tdiv_eq_ediv_of_nonneg h'.1, Int.tmod_eq_emod_of_nonneg h'.1, u64id (by omega) (by omega)]
    congr 2; omega
  · rw [if_neg (by rw [beq_iff_eq]; exact h0)]
    have k47 : IntKind.wrap IntKind.u64 47 = 47 := rfl
    have k17 : IntKind.wrap IntKind.u64 (64 - 47) = 17 := rfl
    have p47 : (2 : Int) ^ min (Int.toNat 47) 64 = 140737488355328 := rfl
    have p47' : (2 : Int) ^ min (Int.toNat 47) (IntKind.bits IntKind.u64) = 140737488355328 := rfl
    have p17 : (2 : Int) ^ min (Int.toNat 17) (IntKind.bits IntKind.u64) = 131072 := rfl
    have y63 : IntKind.wrap IntKind.u64 (65536 * 140737488355328) = 9223372036854775808 := rfl
    have y31 : Int.fdiv 9223372036854775808 4294967296 = 2147483648 := rfl
    have y0 : (9223372036854775808 : Int) % 4294967296 = 0 := rfl
    have t1 : ¬ ((47 : Int) < 0) := by decide
    have t2 : ¬ ((17 : Int) < 0) := by decide
    have t3 : ¬ ((2147483648 : Int) = 0) := by decide
    have f17 : Int.fdiv lo 131072 = lo / 131072 := fd (by decide)
    simp only [k47, k17, p47, p47', p17, y63, y31, y0, and32, f17, t1, t2, t3, if_false]
    rw [or47 hi (lo / 131072) h.1 (by omega), show hi * 140737488355328 % 18446744073709551616 = hi * 140737488355328 by omega]
    generalize hU : hi * 140737488355328 + lo / 131072 = u
    have bu : 0 ≤ u ∧ u < 9223372036854775808 := by omega
    have l1 : IntKind.wrap IntKind.u64 (lo * 140737488355328) = (lo % 131072) * 140737488355328 := by rw [u64w]; omega
    rw [l1, Int.tdiv_eq_ediv_of_nonneg bu.1, u64id (x := u / 2147483648) (by omega) (by omega), dv0 18446744073709551615 _ _ _ _ _ _ _ _ (by omega)]
    simp only [Option.bind_some, PT.ev, PT.test, dite_eq_ite, t3, if_false, and32, fd (show (0 : Int) ≤ 4294967296 by decide), fd (show (0 : Int) ≤ 140737488355328 by decide)]
    have l2 : lo % 131072 * 140737488355328 / 4294967296 = lo % 131072 * 32768 := by omega
    have l3 : lo % 131072 * 140737488355328 % 4294967296 = 0 := by omega
    rw [l2, l3]
    have l4 : IntKind.wrap IntKind.u64 (IntKind.wrap IntKind.u64 (IntKind.wrap IntKind.u64 (u * 4294967296) + lo % 131072 * 32768) - IntKind.wrap IntKind.u64 (u / 2147483648 * 9223372036854775808)) = u % 2147483648 * 4294967296 + lo % 131072 * 32768 := by
      simp only [u64w]; omega
    rw [l4, Int.tdiv_eq_ediv_of_nonneg (by omega), u64id (x := (u % 2147483648 * 4294967296 + lo % 131072 * 32768) / 2147483648) (by omega) (by omega), dv2 18446744073709551615 _ _ _ _ _ _ _ _ (by omega)]
    have l5 : (u % 2147483648 * 4294967296 + lo % 131072 * 32768) / 2147483648 = u % 2147483648 * 2 + lo % 131072 / 65536 := by omega
    simp only [Option.bind_some, PT.ev, PT.test, dite_eq_ite, t1, if_false, p47, l5, fd (show (0 : Int) ≤ 140737488355328 by decide)]
    congr 2
    · simp only [u64w]; omega
    · simp only [u64w]; omega
theorem rdown (p : Int) (m : Bool) (h : 0 ≤ p ∧ p ≤ 1208925819614629174706176) : F114 (p / 18446744073709551616) (p % 18446744073709551616) 65536 m = some (.a0 (hd ((if m = true then -p else p) / 65536))) := by
  simp only [F114, D114, PT.ev, PT.test, dite_eq_ite]
  by_cases h1 : p / 18446744073709551616 ≥ 65536
  · have : p = 1208925819614629174706176 := by omega
    subst this
    rw [if_pos h1]
    cases m
    · simp only [Bool.false_eq_true, if_false]; rfl
    · simp only [if_true]; rfl
  · rw [if_neg h1, rdiv64 _ _ (by omega) (by omega)]
    simp only [Option.bind_some, PT.ev, PT.test, dite_eq_ite, bnd_def, rhold]
    have e1 : (p / 18446744073709551616 * 18446744073709551616 + p % 18446744073709551616) / 65536 = p / 65536 := by omega
    have e2 : p % 18446744073709551616 % 65536 = p % 65536 := by omega
    rw [e1, e2]
    cases m
    · simp only [J114_r6, D114_r6, PT.ev, PT.test, dite_eq_ite, Bool.false_eq_true, if_false, Option.bind_some]
      congr 2
      by_cases hq : 4611686018427387904 < p / 65536
      · rw [if_pos hq, hd_hi (by rw [w64_eq]; omega), hd_hi (by omega)]
      · rw [if_neg hq, w64_in (by omega) (by omega)]
    · simp only [J114_r6, D114_r6, PT.ev, PT.test, dite_eq_ite, if_true]
      by_cases hr : p % 65536 > 0
      · by_cases hq : p / 65536 < 4611686018427387904
        · simp only [hr, hq, if_true, decide_true, Option.bind_some, PT.ev, PT.test, dite_eq_ite]
          rw [u64id (by omega) (by omega), if_neg (by omega), w64_in (n := p / 65536 + 1) (by omega) (by omega), w64_in (by omega) (by omega)]
          congr 3; omega
        · simp only [hr, hq, if_true, decide_false, Option.bind_some, PT.ev, PT.test, dite_eq_ite, Bool.false_eq_true, if_false]
          have : (if 4611686018427387904 < p / 65536 then 4611686018427387904 else p / 65536) = 4611686018427387904 := by split <;> omega
          rw [this, hd_lo (by decide), hd_lo (by omega)]
      · simp only [hr, if_false, Option.bind_some, PT.ev, PT.test, dite_eq_ite, if_true, Bool.false_eq_true]
        by_cases hq : 4611686018427387904 < p / 65536
        · rw [if_pos hq, hd_lo (by decide), hd_lo (by omega)]
        · rw [if_neg hq, w64_in (n := p / 65536) (by omega) (by omega), w64_in (by omega) (by omega)]
          congr 3; omega
theorem rmul (a b : Int) : F86 a b = some (.a0 (mul a b)) := by
  simp only [F86, D86, PT.ev, PT.test, dite_eq_ite, bnd_def, rhold]
  unfold mul
  have h1 := hd_bd a
  have h2 := hd_bd b
  simp only [rsize _ h1, rsize _ h2, Option.bind_some, PT.ev, PT.test, dite_eq_ite]
  generalize hd a = x at *
  generalize hd b = y at *
  have hx : 0 ≤ (if x < 0 then -x else x) ∧ (if x < 0 then -x else x) ≤ 1099511627776 := by split <;> omega
  have hy : 0 ≤ (if y < 0 then -y else y) ∧ (if y < 0 then -y else y) ≤ 1099511627776 := by split <;> omega
  have e : (if (!decide (x < 0) == decide (y < 0)) = true then -((if x < 0 then -x else x) * (if y < 0 then -y else y)) else (if x < 0 then -x else x) * (if y < 0 then -y else y)) = x * y := by
    by_cases a1 : x < 0 <;> by_cases a2 : y < 0 <;> simp [a1, a2, Int.neg_mul, Int.mul_neg]
  rw [mul64 _ _ (by omega) (by omega)]
  simp only [Option.bind_some, PT.ev, PT.test, dite_eq_ite]
  have hn := Int.mul_nonneg hx.1 hy.1
  have hm : (if x < 0 then -x else x) * (if y < 0 then -y else y) ≤ 1208925819614629174706176 := (prod_bd _ _ (by omega) (by omega)).2
  generalize (if x < 0 then -x else x) * (if y < 0 then -y else y) = p at *
  rw [rdown _ _ ⟨hn, hm⟩]
  simp only [Option.bind_some, PT.ev, PT.test, dite_eq_ite, e]
theorem rmid (a b t : Int) : F67 a b t = some (.a0 (add a (mul (add b (w64 (0 - hd a))) t))) := by
  simp only [F67, D67, PT.ev, PT.test, dite_eq_ite, bnd_def, rhold, radd, rmul, Option.bind_some]
theorem add_hd (a b : Int) : add (hd a) b = add a b := by unfold add; rw [hd_hd]
theorem mid_eq (a b t : Int) : ∃ r, F66 a b t = some (.a0 r) ∧ F67 a b t = some (.a0 r) := ⟨_, by rw [qmid, add_hd], rmid a b t⟩
def mid (a b t : Int) : Int := add a (mul (add b (w64 (0 - hd a))) t)
theorem qmid' (a b t : Int) : F66 a b t = some (.a0 (mid a b t)) := by rw [qmid, add_hd]; rfl
theorem rmid' (a b t : Int) : F67 a b t = some (.a0 (mid a b t)) := rmid a b t
def pl (a : Int) : Int := cl a (-536870912) 536870912
def ap (a x b y c : Int) : Int := pl (add (add (mul a x) (mul b y)) c)
theorem apply_q (a b c d e f x y : Int) : F60 a b c d e f x y = some (.a0 (ap a x c y e) (ap b x d y f)) := by
  simp only [F60, D60, F96, D96, PT.ev, PT.test, dite_eq_ite, bnd_def, qmul, qadd, qplace, Option.bind_some, ap, pl]
theorem apply_r (a b c d e f x y : Int) : F68 a b c d e f x y = some (.a0 (ap a x c y e) (ap b x d y f)) := by
  simp only [F68, D68, F102, D102, PT.ev, PT.test, dite_eq_ite, bnd_def, rmul, radd, rplace, Option.bind_some, ap, pl]
end Go.Proofs.Ytifalphladcdcaa.H
