/- Plain law, no machine: what the printed functions of package q answer: held sums, products, quotients. No condition beyond those stated. -/
import Derived.Test.YtejnbjclcdmopaaMBase
import Derived.Test.YtejnbjclcdmopaaPAx3
set_option linter.unusedVariables false
namespace Go.Proofs.Ytejnbjclcdmopaa.PA
open Go.RowKit Go.Proofs.YtejnbjclcdmopaaW.PrintWords Go.Proofs.YtejnbjclcdmopaaW.PrintLast Go.Proofs.YtejnbjclcdmopaaW.PrintMore Go.Proofs.Ytejnbjclcdmopaa.MB

theorem q_Clamp_eq (a lo hi : Int) : q_Clamp.f a lo hi = some (cl a lo hi) := by
  unfold q_Clamp.f cl; split
  · rfl
  · split <;> rfl
theorem q_Hold_eq (a : Int) : q_Hold.f a = some (hd a) := by unfold q_Hold.f; rw [q_Clamp_eq]; rfl
theorem q_Add_eq (a b : Int) : q_Add.f a b = some (add a b) := by
  unfold q_Add.f
  simp only [q_Hold_eq, Option.bind_some]
  have h1 := hd_bd a
  have h2 := hd_bd b
  rw [w64 (by omega) (by omega)]; rfl
theorem bits_Mul64_eq (x y : Int) (hx : 0 ≤ x ∧ x < 18446744073709551616) (hy : 0 ≤ y ∧ y < 18446744073709551616) :
    bits_Mul64.f x y = some (x * y / 18446744073709551616, x * y % 18446744073709551616) := by
  unfold bits_Mul64.f
  simp only [and32u]
  rw [mul64_parts x y (x / 4294967296) (x % 4294967296) (y / 4294967296) (y % 4294967296) (by omega) (by omega) (by omega) (by omega) (by omega) (by omega), u64w (x * y)]
theorem q_product_eq (a b : Int) (ha : -9223372036854775808 ≤ a ∧ a ≤ 9223372036854775807) (hb : -9223372036854775808 ≤ b ∧ b ≤ 9223372036854775807) :
    q_product.f a b = some ((a * b / 18446744073709551616) % 18446744073709551616, a * b % 18446744073709551616) := by
  unfold q_product.f
  simp only [u64w]
  rw [bits_Mul64_eq _ _ (by omega) (by omega)]
  simp only [Option.bind_some]
  by_cases h1 : a < 0
  · have ea : a % 18446744073709551616 = a + 18446744073709551616 := by omega
    by_cases h2 : b < 0
    · have eb : b % 18446744073709551616 = b + 18446744073709551616 := by omega
      rw [if_pos h1, if_pos h2, ea, eb]
      have e : (a + 18446744073709551616) * (b + 18446744073709551616) = a * b + a * 18446744073709551616 + b * 18446744073709551616 + 340282366920938463463374607431768211456 := by grind
      rw [e]; generalize a * b = p; congr 2 <;> omega
    · have eb : b % 18446744073709551616 = b := by omega
      rw [if_pos h1, if_neg h2, ea, eb]
      have e : (a + 18446744073709551616) * b = a * b + b * 18446744073709551616 := by grind
      rw [e]; generalize a * b = p; congr 2 <;> omega
  · have ea : a % 18446744073709551616 = a := by omega
    by_cases h2 : b < 0
    · have eb : b % 18446744073709551616 = b + 18446744073709551616 := by omega
      rw [if_neg h1, if_pos h2, ea, eb]
      have e : a * (b + 18446744073709551616) = a * b + a * 18446744073709551616 := by grind
      rw [e]; generalize a * b = p; congr 2 <;> omega
    · have eb : b % 18446744073709551616 = b := by omega
      rw [if_neg h1, if_neg h2, ea, eb]
      have hp : 0 ≤ a * b := Int.mul_nonneg (by omega) (by omega)
      have hp2 : a * b ≤ 9223372036854775807 * 9223372036854775807 := Int.mul_le_mul ha.2 hb.2 (by omega) (by omega)
      generalize a * b = p at *; congr 2; omega
theorem or48 (x y : Int) (hx : 0 ≤ x) (hy : 0 ≤ y ∧ y < 281474976710656) : Go.bits .or .u64 (IntKind.u64.wrap (x * 281474976710656)) y = (x * 281474976710656) % 18446744073709551616 + y := by
  rw [u64w]
  exact bits_join .u64 64 (by decide) (fun n h h' => by rw [u64w]; omega) 48 _ y (by omega) (by omega) (by omega) hy.1 (by omega) (by omega)
theorem q_down_eq (k : Nat) (p : Int) (hp : -1208925819614629174706176 ≤ p ∧ p ≤ 1208925819614629174706176) :
    ∃ r, q_down.f (k + 1) ((p / 18446744073709551616) % 18446744073709551616) (p % 18446744073709551616) = some r ∧ hd r = hd (p / 65536) := by
  unfold q_down.f
  rw [or48 _ _ (by omega) (by omega)]
  generalize hw : wrap64 (p / 18446744073709551616 % 18446744073709551616) = t
  have ht : t = p / 18446744073709551616 := by rw [← hw]; unfold wrap64; omega
  generalize hv : (p / 18446744073709551616 % 18446744073709551616 * 281474976710656) % 18446744073709551616 + p % 18446744073709551616 / 65536 = v
  have hv' : v = (p / 65536) % 18446744073709551616 := by rw [← hv]; omega
  clear hv hw
  have h1 : ¬ t / 65536 < -1 := by omega
  rw [if_neg h1]
  by_cases h2 : t / 65536 = -1
  · rw [if_pos h2]
    by_cases h3 : v / 9223372036854775808 = 0
    · have e : ((v / 9223372036854775808) == 0) = true := by simpa using h3
      rw [e]; simp only [q_down.j0, if_true]
      exact ⟨_, rfl, by rw [hd_lo (by omega), hd_lo (by omega)]⟩
    · have e : ((v / 9223372036854775808) == 0) = false := by simpa using h3
      rw [e]; simp only [q_down.j0]
      rw [if_neg (by decide), if_neg (by omega), if_neg (by omega)]
      exact ⟨_, rfl, by congr 1; unfold wrap64; omega⟩
  · rw [if_neg h2]; simp only [q_down.j0]
    rw [if_neg (by decide)]
    by_cases h4 : t / 65536 > 0
    · rw [if_pos h4]; exact ⟨_, rfl, by rw [hd_hi (by omega), hd_hi (by omega)]⟩
    · rw [if_neg h4, if_pos (by omega)]
      by_cases h3 : v / 9223372036854775808 = 0
      · rw [if_pos h3]; exact ⟨_, rfl, by congr 1; unfold wrap64; omega⟩
      · rw [if_neg h3]; exact ⟨_, rfl, by rw [hd_hi (by omega), hd_hi (by omega)]⟩
theorem q_Mul_eq (k : Nat) (a b : Int) : q_Mul.f (k + 1) a b = some (mul a b) := by
  unfold q_Mul.f
  simp only [q_Hold_eq, Option.bind_some]
  have h1 := hd_bd a
  have h2 := hd_bd b
  rw [q_product_eq _ _ (by omega) (by omega)]
  simp only [Option.bind_some]
  obtain ⟨r, e, h⟩ := q_down_eq k _ (prod_bd _ _ h1 h2)
  rw [e]; simp only [Option.bind_some]
  rw [h]; rfl
theorem q_Mul_ge {k : Nat} (hk : 1 ≤ k) (a b : Int) : q_Mul.f k a b = some (mul a b) := by
  obtain ⟨m, rfl⟩ : ∃ m, k = m + 1 := ⟨k - 1, by omega⟩
  exact q_Mul_eq m a b
end Go.Proofs.Ytejnbjclcdmopaa.PA
