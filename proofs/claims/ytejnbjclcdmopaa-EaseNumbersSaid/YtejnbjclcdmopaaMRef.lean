/- Plain law, no machine: what the printed functions of package mutoscoperef1 answer: the same sums and products as package q's. No condition beyond those stated. -/
import Derived.KernelRfl
import Derived.Test.YtejnbjclcdmopaaMQ
import Derived.Test.YtejnbjclcdmopaaPAx12
set_option linter.unusedVariables false
namespace Go.Proofs.Ytejnbjclcdmopaa.PA
open Go.RowKit Go.Proofs.YtejnbjclcdmopaaW.PrintWords Go.Proofs.YtejnbjclcdmopaaW.PrintLast Go.Proofs.YtejnbjclcdmopaaW.PrintMore Go.Proofs.Ytejnbjclcdmopaa.MB

theorem r1_Clamp_eq (a lo hi : Int) : mutoscoperef1_Clamp.f a lo hi = some (cl a lo hi) := by
  unfold mutoscoperef1_Clamp.f cl; split
  · rfl
  · split <;> rfl
theorem r1_Hold_eq (a : Int) : mutoscoperef1_Hold.f a = some (hd a) := by unfold mutoscoperef1_Hold.f; rw [r1_Clamp_eq]; rfl
theorem r1_Add_eq (a b : Int) : mutoscoperef1_Add.f a b = some (add a b) := by
  unfold mutoscoperef1_Add.f
  simp only [r1_Hold_eq, Option.bind_some]
  have h1 := hd_bd a
  have h2 := hd_bd b
  rw [w64 (by omega) (by omega)]; rfl
theorem lz16 (k : Nat) : bits_LeadingZeros64.f (k + 1) 65536 = some 47 := by kernel_rfl
theorem shl47 (x : Int) : shl .u64 x 47 = (x * 140737488355328) % 18446744073709551616 := by
  unfold shl; rw [u64w]; rfl
theorem shr17 (x : Int) : shr .u64 x 17 = x / 131072 := rfl
theorem shr47 (x : Int) : shr .u64 x 47 = x / 140737488355328 := rfl
theorem or47 (x y : Int) (hx : 0 ≤ x ∧ x < 65536) (hy : 0 ≤ y ∧ y < 140737488355328) : Go.bits .or .u64 (x * 140737488355328) y = x * 140737488355328 + y :=
  bits_join .u64 64 (by decide) (fun n h h' => by rw [u64w]; omega) 47 _ y (by omega) (by omega) (by omega) hy.1 (by omega) (by omega)
theorem tdiv_nn {a b : Int} (ha : 0 ≤ a) : Int.tdiv a b = a / b := Int.tdiv_eq_ediv_of_nonneg ha
theorem tmod_nn {a b : Int} (ha : 0 ≤ a) : Int.tmod a b = a % b := Int.tmod_eq_emod_of_nonneg ha
/-- Div64 by One. -/
theorem div64_one (k : Nat) (hi lo : Int) (h1 : 0 ≤ hi ∧ hi < 65536) (h2 : 0 ≤ lo ∧ lo < 18446744073709551616) :
    bits_Div64.f (k + 5) hi lo 65536 = some ((hi * 18446744073709551616 + lo) / 65536, (hi * 18446744073709551616 + lo) % 65536) := by
  unfold bits_Div64.f
  rw [if_neg (by decide), if_neg (by omega)]
  by_cases h0 : hi = 0
  · rw [if_pos h0, tdiv_nn h2.1, tmod_nn h2.1, u64id (by omega) (by omega), h0]; congr 2 <;> omega
  · rw [if_neg h0, lz16]
    simp only [Option.bind_some]
    rw [show IntKind.u64.wrap 47 = 47 from by decide, if_pos (by decide), show IntKind.u64.wrap (64 - 47) = 17 from by decide, if_pos (by decide)]
    rw [shl47, shl47, shl47, shr17, show (65536 * 140737488355328 % 18446744073709551616 : Int) = 9223372036854775808 from by decide, show (9223372036854775808 / 4294967296 : Int) = 2147483648 from by decide]
    rw [if_neg (by decide), and32u, and32u, show (9223372036854775808 % 4294967296 : Int) = 0 from by decide, show hi * 140737488355328 % 18446744073709551616 = hi * 140737488355328 from by omega, or47 _ _ h1 (by omega)]
    have hu : 0 ≤ hi * 140737488355328 + lo / 131072 ∧ hi * 140737488355328 + lo / 131072 < 9223372036854775808 := by omega
    generalize hu' : hi * 140737488355328 + lo / 131072 = u at hu ⊢
    rw [tdiv_nn hu.1, u64id (x := u / 2147483648) (by omega) (by omega), u64id (x := u / 2147483648 * 2147483648) (by omega) (by omega), u64id (x := u - u / 2147483648 * 2147483648) (by omega) (by omega)]
    simp only [bits_Div64.l0]
    rw [if_neg (by omega)]
    rw [show decide (IntKind.u64.wrap (u / 2147483648 * 0) > IntKind.u64.wrap (IntKind.u64.wrap (4294967296 * (u - u / 2147483648 * 2147483648)) + lo * 140737488355328 % 18446744073709551616 / 4294967296)) = false from by simp only [u64w]; apply decide_eq_false; omega]
    simp only [bits_Div64.j1]
    rw [if_neg (by decide)]
    simp only [bits_Div64.j2]
    rw [if_neg (by decide)]
    rw [show IntKind.u64.wrap (IntKind.u64.wrap (IntKind.u64.wrap (u * 4294967296) + lo * 140737488355328 % 18446744073709551616 / 4294967296) - IntKind.u64.wrap (u / 2147483648 * 9223372036854775808)) = (u % 2147483648) * 4294967296 + lo * 140737488355328 % 18446744073709551616 / 4294967296 from by simp only [u64w]; omega]
    have hv : 0 ≤ (u % 2147483648) * 4294967296 + lo * 140737488355328 % 18446744073709551616 / 4294967296 ∧ (u % 2147483648) * 4294967296 + lo * 140737488355328 % 18446744073709551616 / 4294967296 < 9223372036854775808 := by omega
    generalize hv' : (u % 2147483648) * 4294967296 + lo * 140737488355328 % 18446744073709551616 / 4294967296 = v at hv ⊢
    rw [tdiv_nn hv.1, u64id (x := v / 2147483648) (by omega) (by omega), u64id (x := v / 2147483648 * 2147483648) (by omega) (by omega), u64id (x := v - v / 2147483648 * 2147483648) (by omega) (by omega)]
    simp only [bits_Div64.l1]
    rw [if_neg (by omega)]
    rw [show decide (IntKind.u64.wrap (v / 2147483648 * 0) > IntKind.u64.wrap (IntKind.u64.wrap (4294967296 * (v - v / 2147483648 * 2147483648)) + lo * 140737488355328 % 18446744073709551616 % 4294967296)) = false from by simp only [u64w]; apply decide_eq_false; omega]
    simp only [bits_Div64.j4]
    rw [if_neg (by decide), if_pos (by decide), shr47]
    simp only [u64w]
    congr 2 <;> omega
theorem r1_size_eq (a : Int) (h : -1099511627776 ≤ a ∧ a ≤ 1099511627776) : mutoscoperef1_size.f a = some (if a < 0 then -a else a, decide (a < 0)) := by
  unfold mutoscoperef1_size.f
  by_cases h0 : a < 0
  · rw [if_pos h0, if_pos h0, w64 (by omega) (by omega), u64id (by omega) (by omega), decide_eq_true h0]
  · rw [if_neg h0, if_neg h0, u64id (by omega) (by omega), decide_eq_false h0]
theorem hd_neg_ceil (p : Int) : hd (-(p / 65536 + 1)) = hd (-p / 65536) ∨ p % 65536 = 0 := by
  by_cases h : p % 65536 = 0
  · exact .inr h
  · exact .inl (by congr 1; omega)
theorem r1_down_eq (k : Nat) (hi lo : Int) (m : Bool) (h1 : 0 ≤ hi ∧ hi ≤ 65536) (h2 : 0 ≤ lo ∧ lo < 18446744073709551616) :
    mutoscoperef1_down.f (k + 5) hi lo 65536 m = some (hd ((if m = true then -(hi * 18446744073709551616 + lo) else hi * 18446744073709551616 + lo) / 65536)) := by
  unfold mutoscoperef1_down.f
  by_cases h0 : hi ≥ 65536
  · rw [if_pos h0]
    cases m
    · rw [if_neg (by decide), if_neg (by decide), hd_hi (by omega)]
    · rw [if_pos rfl, if_pos rfl, hd_lo (by omega)]
  · rw [if_neg h0, div64_one k hi lo (by omega) h2]
    simp only [Option.bind_some]
    generalize hp : hi * 18446744073709551616 + lo = p
    have hp0 : 0 ≤ p ∧ p < 1208925819614629174706176 := by omega
    clear hp
    have key : ∀ (x : Int) (b m : Bool), mutoscoperef1_down.j0 (k + 5) m x b = some (hd (wrap64 (if m = true then -(wrap64 (mn (if b = true then IntKind.u64.wrap (x + 1) else x) 4611686018427387904)) else (mn (if b = true then IntKind.u64.wrap (x + 1) else x) 4611686018427387904)))) := by
      intro x b m
      have ww : ∀ z : Int, wrap64 (wrap64 z) = wrap64 z := fun z => by unfold wrap64; omega
      cases b <;> cases m <;> simp [mutoscoperef1_down.j0, r1_Hold_eq]
    cases m
    · rw [if_neg (by decide), if_neg (by decide), key]
      simp only [Bool.false_eq_true, if_false]
      congr 1
      unfold mn
      split
      · rw [show wrap64 4611686018427387904 = 4611686018427387904 from w64 (by decide) (by decide), hd_hi (by omega), hd_hi (by omega)]
      · rw [w64 (by omega) (by omega)]
    · rw [if_pos rfl, if_pos rfl]
      by_cases hr : p % 65536 > 0
      · rw [if_pos hr, key]
        congr 1
        simp only [if_true]
        by_cases hb : p / 65536 < 4611686018427387904
        · rw [decide_eq_true hb, if_pos rfl, u64id (by omega) (by omega)]
          unfold mn
          rw [if_neg (by omega), w64 (x := p / 65536 + 1) (by omega) (by omega), w64 (by omega) (by omega)]
          congr 1; omega
        · rw [decide_eq_false hb, if_neg (by decide)]
          have e : mn (p / 65536) 4611686018427387904 = 4611686018427387904 := by unfold mn; split <;> omega
          rw [e, show wrap64 4611686018427387904 = 4611686018427387904 from w64 (by decide) (by decide), show wrap64 (-4611686018427387904) = -4611686018427387904 from w64 (by decide) (by decide), hd_lo (by omega), hd_lo (by omega)]
      · rw [if_neg hr, key]
        congr 1
        simp only [if_true, Bool.false_eq_true, if_false]
        unfold mn
        split
        · rw [show wrap64 4611686018427387904 = 4611686018427387904 from w64 (by decide) (by decide), show wrap64 (-4611686018427387904) = -4611686018427387904 from w64 (by decide) (by decide), hd_lo (by omega), hd_lo (by omega)]
        · rw [w64 (x := p / 65536) (by omega) (by omega), w64 (by omega) (by omega)]
          congr 1; omega
theorem r1_Mul_eq (k : Nat) (a b : Int) : mutoscoperef1_Mul.f (k + 5) a b = some (mul a b) := by
  unfold mutoscoperef1_Mul.f mul
  have h1 := hd_bd a
  have h2 := hd_bd b
  simp only [r1_Hold_eq, Option.bind_some, r1_size_eq _ h1, r1_size_eq _ h2]
  generalize hd a = x at *
  generalize hd b = y at *
  have hx : 0 ≤ (if x < 0 then -x else x) ∧ (if x < 0 then -x else x) ≤ 1099511627776 := by split <;> omega
  have hy : 0 ≤ (if y < 0 then -y else y) ∧ (if y < 0 then -y else y) ≤ 1099511627776 := by split <;> omega
  have e : (if (decide (x < 0) != decide (y < 0)) = true then -((if x < 0 then -x else x) * (if y < 0 then -y else y)) else (if x < 0 then -x else x) * (if y < 0 then -y else y)) = x * y := by
    by_cases a1 : x < 0 <;> by_cases a2 : y < 0 <;> simp [a1, a2, Int.neg_mul, Int.mul_neg]
  rw [bits_Mul64_eq _ _ (by omega) (by omega)]
  simp only [Option.bind_some]
  have hb := prod_bd _ _ (And.intro (by omega : -1099511627776 ≤ (if x < 0 then -x else x)) hx.2) (And.intro (by omega : -1099511627776 ≤ (if y < 0 then -y else y)) hy.2)
  have hn := Int.mul_nonneg hx.1 hy.1
  rw [r1_down_eq k _ _ _ (by omega) (by omega)]
  simp only [Option.bind_some]
  rw [show (if x < 0 then -x else x) * (if y < 0 then -y else y) / 18446744073709551616 * 18446744073709551616 + (if x < 0 then -x else x) * (if y < 0 then -y else y) % 18446744073709551616 = (if x < 0 then -x else x) * (if y < 0 then -y else y) from by omega, e]
theorem r1_Mul_ge {k : Nat} (hk : 5 ≤ k) (a b : Int) : mutoscoperef1_Mul.f k a b = some (mul a b) := by
  obtain ⟨m, rfl⟩ : ∃ m, k = m + 5 := ⟨k - 5, by omega⟩
  exact r1_Mul_eq m a b
end Go.Proofs.Ytejnbjclcdmopaa.PA
