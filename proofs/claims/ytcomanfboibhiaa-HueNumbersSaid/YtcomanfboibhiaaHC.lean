/- The functions of colours: a mix. No condition beyond those stated. -/
import Derived.Test.YtcomanfboibhiaaHB
set_option linter.unusedVariables false
set_option linter.unusedSimpArgs false
namespace Go.Proofs.Ytcomanfboibhiaa.H
open Go Go.VM
set_option maxRecDepth 10000
theorem c12_0 (n : Nat) (a0 a1 a2 a3 b0 b1 b2 b3 p : Int) : call Try.prog X O1 100000 (n + 4) 12 [.agg [.int .u8 a0, .int .u8 a1, .int .u8 a2, .int .u8 a3], .agg [.int .u8 b0, .int .u8 b1, .int .u8 b2, .int .u8 b3], .int .i64 p] [] = some (V.agg [V.int IntKind.u8 (IntKind.wrap IntKind.u8 (clamp (IntKind.wrap IntKind.i64 (IntKind.wrap IntKind.i64 a0 + Int.fdiv (IntKind.wrap IntKind.i64 (IntKind.wrap IntKind.i64 (IntKind.wrap IntKind.i64 b0 - IntKind.wrap IntKind.i64 a0) * clamp p (-1099511627776) 1099511627776)) (2 ^ 16))) 0 255)), V.int IntKind.u8 (IntKind.wrap IntKind.u8 (clamp (IntKind.wrap IntKind.i64 (IntKind.wrap IntKind.i64 a1 + Int.fdiv (IntKind.wrap IntKind.i64 (IntKind.wrap IntKind.i64 (IntKind.wrap IntKind.i64 b1 - IntKind.wrap IntKind.i64 a1) * clamp p (-1099511627776) 1099511627776)) (2 ^ 16))) 0 255)), V.int IntKind.u8 (IntKind.wrap IntKind.u8 (clamp (IntKind.wrap IntKind.i64 (IntKind.wrap IntKind.i64 a2 + Int.fdiv (IntKind.wrap IntKind.i64 (IntKind.wrap IntKind.i64 (IntKind.wrap IntKind.i64 b2 - IntKind.wrap IntKind.i64 a2) * clamp p (-1099511627776) 1099511627776)) (2 ^ 16))) 0 255)), V.int IntKind.u8 (IntKind.wrap IntKind.u8 (clamp (IntKind.wrap IntKind.i64 (IntKind.wrap IntKind.i64 a3 + Int.fdiv (IntKind.wrap IntKind.i64 (IntKind.wrap IntKind.i64 (IntKind.wrap IntKind.i64 b3 - IntKind.wrap IntKind.i64 a3) * clamp p (-1099511627776) 1099511627776)) (2 ^ 16))) 0 255))], []) :=
  call_path (gs := [.a, .a, .a, .a, .a, .a, .a, .a, .a, .a]) (q := True) rfl rfl (by kernel_rfl) trivial
/-- One of a colour's four numbers, mixed. -/
def mix1 (a b p : Int) : Int := clamp (a + ((b - a) * clamp p (-1099511627776) 1099511627776).fdiv 65536) 0 255
def ok8 (a : Int) : Bool := decide (0 ≤ a) && decide (a ≤ 255)
theorem ok8_iff {a : Int} : ok8 a = true ↔ 0 ≤ a ∧ a ≤ 255 := by simp [ok8]
theorem clamp_bd (a lo hi : Int) (h : lo ≤ hi) : lo ≤ clamp a lo hi ∧ clamp a lo hi ≤ hi := by unfold clamp; split <;> (try split) <;> omega
theorem clamp_of {a lo hi : Int} (h : lo ≤ a) (h' : a ≤ hi) : clamp a lo hi = a := by unfold clamp; rw [if_neg (by omega), if_neg (by omega)]
theorem fdiv_bd {m : Int} (h : -280375465082880 ≤ m) (h' : m ≤ 280375465082880) : -4278190080 ≤ m.fdiv 65536 ∧ m.fdiv 65536 ≤ 4278190080 := by
  rw [Int.fdiv_eq_ediv_of_nonneg _ (by decide)]; omega
theorem prod_bd {d p : Int} (h : -255 ≤ d ∧ d ≤ 255) (hp : -1099511627776 ≤ p ∧ p ≤ 1099511627776) : -280375465082880 ≤ d * p ∧ d * p ≤ 280375465082880 := by
  have key : ∀ x y : Int, 0 ≤ x → x ≤ 255 → 0 ≤ y → y ≤ 1099511627776 → 0 ≤ x * y ∧ x * y ≤ 280375465082880 := fun x y h1 h2 h3 h4 =>
    ⟨Int.mul_nonneg h1 h3, Int.le_trans (Int.mul_le_mul h2 h4 h3 (by decide)) (by decide)⟩
  rcases Int.le_total 0 d with hd | hd <;> rcases Int.le_total 0 p with hp' | hp'
  · have := key d p hd h.2 hp' hp.2; omega
  · have := key d (-p) hd h.2 (by omega) (by omega); rw [Int.mul_neg] at this; omega
  · have := key (-d) p (by omega) (by omega) hp' hp.2; rw [Int.neg_mul] at this; omega
  · have := key (-d) (-p) (by omega) (by omega) (by omega) (by omega); rw [Int.neg_mul_neg] at this; omega
/-- As the program has it. -/
def mixR (a b p : Int) : Int := IntKind.wrap .u8 (clamp (IntKind.wrap .i64 (IntKind.wrap .i64 a + Int.fdiv (IntKind.wrap .i64 (IntKind.wrap .i64 (IntKind.wrap .i64 b - IntKind.wrap .i64 a) * clamp p (-1099511627776) 1099511627776)) (2 ^ 16))) 0 255)
theorem mixR_eq {a b : Int} (p : Int) (ha : ok8 a = true) (hb : ok8 b = true) : mixR a b p = mix1 a b p := by
  unfold mixR
  rw [ok8_iff] at ha hb
  have hp := clamp_bd p (-1099511627776) 1099511627776 (by decide)
  have h1 := prod_bd (d := b - a) ⟨by omega, by omega⟩ hp
  have h2 := fdiv_bd h1.1 h1.2
  rw [wrap_in (n := a) (by omega) (by omega), wrap_in (n := b) (by omega) (by omega), wrap_in (n := b - a) (by omega) (by omega), wrap_in (n := (b - a) * clamp p (-1099511627776) 1099511627776) (by omega) (by omega)]
  rw [show ((2 : Int) ^ 16) = 65536 by decide, wrap_in (by omega) (by omega)]
  have := clamp_bd (a + ((b - a) * clamp p (-1099511627776) 1099511627776).fdiv 65536) 0 255 (by decide)
  rw [wrap_u8 this.1 this.2]
  rfl
theorem mix12 (n : Nat) (a0 a1 a2 a3 b0 b1 b2 b3 p : Int) :
    call Try.prog X O1 100000 (n + 4) 12 [.agg [.int .u8 a0, .int .u8 a1, .int .u8 a2, .int .u8 a3], .agg [.int .u8 b0, .int .u8 b1, .int .u8 b2, .int .u8 b3], .int .i64 p] [] =
      some (.agg [.int .u8 (mixR a0 b0 p), .int .u8 (mixR a1 b1 p), .int .u8 (mixR a2 b2 p), .int .u8 (mixR a3 b3 p)], []) := c12_0 n a0 a1 a2 a3 b0 b1 b2 b3 p
theorem known13 : call Try.prog X O1 100000 12 13 [] [] = some (.bool true, []) := by kernel_rfl
theorem mix1_zero {a b : Int} (ha : ok8 a = true) : mix1 a b 0 = a := by
  rw [ok8_iff] at ha
  unfold mix1
  rw [clamp_of (a := 0) (by decide) (by decide), Int.mul_zero, show Int.fdiv 0 65536 = 0 by decide, Int.add_zero, clamp_of ha.1 ha.2]
theorem mix1_one {a b : Int} (hb : ok8 b = true) : mix1 a b 65536 = b := by
  rw [ok8_iff] at hb
  unfold mix1
  rw [clamp_of (a := 65536) (by decide) (by decide), Int.fdiv_eq_ediv_of_nonneg _ (by decide), Int.mul_ediv_cancel _ (by decide), show a + (b - a) = b by omega, clamp_of hb.1 hb.2]
theorem mix1_bd {a b p : Int} (ha : ok8 a = true) (hb : ok8 b = true) (hp : 0 ≤ p ∧ p ≤ 65536) : (if b < a then b else a) ≤ mix1 a b p ∧ mix1 a b p ≤ (if b > a then b else a) := by
  rw [ok8_iff] at ha hb
  have hx : (if b < a then b else a) ≤ a + ((b - a) * p).fdiv 65536 ∧ a + ((b - a) * p).fdiv 65536 ≤ (if b > a then b else a) := by
    rw [Int.fdiv_eq_ediv_of_nonneg _ (by decide)]
    rcases Int.le_total a b with h | h
    · have h1 : 0 ≤ (b - a) * p := Int.mul_nonneg (by omega) hp.1
      have h2 : (b - a) * p ≤ (b - a) * 65536 := Int.mul_le_mul_of_nonneg_left hp.2 (by omega)
      constructor <;> split <;> omega
    · have h1 : 0 ≤ (a - b) * p := Int.mul_nonneg (by omega) hp.1
      have h2 : (a - b) * p ≤ (a - b) * 65536 := Int.mul_le_mul_of_nonneg_left hp.2 (by omega)
      have h3 : (b - a) * p = -((a - b) * p) := by rw [← Int.neg_mul]; congr 1; omega
      constructor <;> split <;> omega
  unfold mix1
  rw [clamp_of (a := p) (by omega) (by omega), clamp_of (by have := hx.1; split at this <;> omega) (by have := hx.2; split at this <;> omega)]
  exact hx
def O2 : Oracle := fun f args σ => match f, args, σ with
  | 12, [.agg [.int .u8 a0, .int .u8 a1, .int .u8 a2, .int .u8 a3], .agg [.int .u8 b0, .int .u8 b1, .int .u8 b2, .int .u8 b3], .int .i64 p], [] => some (.agg [.int .u8 (mixR a0 b0 p), .int .u8 (mixR a1 b1 p), .int .u8 (mixR a2 b2 p), .int .u8 (mixR a3 b3 p)], [])
  | 13, [], [] => some (.bool true, [])
  | f, args, σ => O1 f args σ
theorem os2 : OS Try.prog O2 := by
  refine os_add os1 fun f args σ r h => ?_
  unfold O2 at h
  split at h
  · cases h; exact .inr ⟨4, mix12 0 _ _ _ _ _ _ _ _ _⟩
  · cases h; exact .inr ⟨12, known13⟩
  · exact .inl h
end Go.Proofs.Ytcomanfboibhiaa.H
