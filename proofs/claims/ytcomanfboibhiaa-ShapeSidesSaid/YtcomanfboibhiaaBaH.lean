/- Lines of a tape: numbers of tapes, held sums, how far a place is, how long a line is. Plain Lean over what the functions compute. Conditions: those stated. -/
import Derived.Test.YtcomanfboibhiaaPHc
set_option linter.unusedVariables false
set_option linter.unusedSimpArgs false
namespace Go.Proofs.Ytcomanfboibhiaa.H
open Go Go.VM
set_option maxRecDepth 100000
abbrev Rt (ks : List W3) : List (List V) := ks.map W3.cells
abbrev Rw (ks : List W44) : List (List V) := ks.map W44.cells
theorem rt_get (ks : List W3) (i : Nat) : ((Rt ks)[i]?).bind W3.dec = ks[i]? := by
  simp only [Rt, List.getElem?_map]
  cases ks[i]? <;> rfl
theorem rw_get (ks : List W44) (i : Nat) : ((Rw ks)[i]?).bind W44.dec = ks[i]? := by
  simp only [Rw, List.getElem?_map]
  cases ks[i]? <;> rfl
theorem bnd_def {α β : Type} (x : α) (f : α → β) : bnd x f = f x := rfl
theorem w64_eq (n : Int) : w64 n = ((n + 9223372036854775808) % 18446744073709551616) - 9223372036854775808 := by
  simp [IntKind.wrap, IntKind.bits, IntKind.signed]; omega
theorem w64_in {n : Int} (h : -9223372036854775808 ≤ n) (h' : n ≤ 9223372036854775807) : w64 n = n := by
  rw [w64_eq]; omega
theorem u64w (x : Int) : IntKind.u64.wrap x = x % 18446744073709551616 := by simp [IntKind.wrap, IntKind.bits, IntKind.signed]
theorem u64id {x : Int} (h : 0 ≤ x) (h' : x < 18446744073709551616) : IntKind.u64.wrap x = x := by rw [u64w]; omega
def cl (a lo hi : Int) : Int := if a < lo then lo else if a > hi then hi else a
def hd (a : Int) : Int := cl a (-1099511627776) 1099511627776
def add (a b : Int) : Int := hd (hd a + hd b)
theorem hd_bd (a : Int) : -1099511627776 ≤ hd a ∧ hd a ≤ 1099511627776 := by unfold hd cl; split <;> (try split) <;> omega
theorem hd_of {a : Int} (h : -1099511627776 ≤ a) (h' : a ≤ 1099511627776) : hd a = a := by unfold hd cl; rw [if_neg (by omega), if_neg (by omega)]
theorem cl_bd (a lo hi : Int) (h : lo ≤ hi) : lo ≤ cl a lo hi ∧ cl a lo hi ≤ hi := by unfold cl; split <;> (try split) <;> omega
theorem cl_of {a lo hi : Int} (h : lo ≤ a) (h' : a ≤ hi) : cl a lo hi = a := by unfold cl; rw [if_neg (by omega), if_neg (by omega)]
theorem F90_eq (a lo hi : Int) : F33 a lo hi = cl a lo hi := rfl
theorem F57_eq (a : Int) : F32 a = hd a := rfl
theorem or_nat (a b : Nat) (ha : a < 4294967296) (hb : b < 4294967296) : IntKind.wrap IntKind.u64 (↑(BitVec.toNat (BitVec.ofInt (IntKind.bits IntKind.u64) (a : Int) ||| BitVec.ofInt (IntKind.bits IntKind.u64) (b : Int))) : Int) = ((a ||| b : Nat) : Int) ∧ a ||| b < 4294967296 ∧ b ≤ a ||| b ∧ a ≤ a ||| b := by
  have h : a ||| b < 2 ^ 32 := Nat.or_lt_two_pow (by omega) (by omega)
  refine ⟨?_, h, Nat.right_le_or, Nat.left_le_or⟩
  simp only [BitVec.ofInt_natCast, BitVec.toNat_or, BitVec.toNat_ofNat]
  have e : ∀ x : Nat, x < 4294967296 → x % 2 ^ IntKind.u64.bits = x := fun x hx => Nat.mod_eq_of_lt (Nat.lt_of_lt_of_le hx (by decide))
  rw [e a ha, e b hb, u64id (by omega) (by omega)]
end Go.Proofs.Ytcomanfboibhiaa.H
