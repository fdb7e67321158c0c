/- ShapeTicks in plain Lean. Conditions: those stated. -/
import Derived.Test.YtifalphladcdcaaAt5
set_option linter.unusedVariables false
set_option linter.unusedSimpArgs false
namespace Go.Proofs.Ytifalphladcdcaa.H
open Go Go.VM
set_option maxRecDepth 100000
theorem known13 : F19 = some (.a0 true) := by kernel_rfl
theorem and10 (a : Int) : w64 (↑(BitVec.toNat (BitVec.ofInt (IntKind.bits IntKind.i64) a &&& BitVec.ofInt (IntKind.bits IntKind.i64) 1023)) : Int) = a % 1024 := by
  have h : Go.bits .and .i64 a 1023 = a % 1024 := and_low .i64 10 (by decide) (fun n h h' => by rw [IntKind.wrap_i64]; omega) a
  exact h
theorem shapeTicks_plain (tape : List W3) (hl : (tape.length : Int) ≤ 9223372036854775807) (t : Int) : F6 (Rt tape) t = some (.a0 true) := by
  obtain ⟨s, at', e, _, g⟩ := shape_ex tape hl 0 (Int.le_refl 0)
  have hk : 0 ≤ t % 1024 ∧ t % 1024 < 1024 := by omega
  obtain ⟨c, qs, a1, _, a3⟩ := at_both s g.gl (-1)
  obtain ⟨d, rs, b1, _, b3⟩ := at_both s g.gl 60
  have a2 := g.ahead (-1 - t % 1024) (-1) (by omega) (by omega)
  have b2 := g.behind (60 + t % 1024) 60 (by omega) (by omega)
  rw [a1] at a2; rw [b1] at b2
  have w1 : w64 (-1 - t % 1024) = -1 - t % 1024 := w64_in (by omega) (by omega)
  have w2 : w64 (60 + t % 1024) = 60 + t % 1024 := w64_in (by omega) (by omega)
  have tk : ∀ xs : List PK, List.take xs.length (Rk xs) = Rk xs := fun xs => List.take_of_length_le (by rw [rk_len]; exact Nat.le_refl _)
  have tc : ∀ xs : List Ck, List.take xs.length (Rc xs) = Rc xs := fun xs => List.take_of_length_le (by rw [rc_len]; exact Nat.le_refl _)
  have td : ∀ xs : List Dn, List.take xs.length (Rd xs) = Rd xs := fun xs => List.take_of_length_le (by rw [rd_len]; exact Nat.le_refl _)
  have z : ∀ n : Nat, 0 + n ≤ n := fun n => by omega
  simp only [F6, D6, PT.ev, PT.test, dite_eq_ite, e, Option.bind_some, rn_len, rk_len, rc_len, rd_len, rp_len, if_pos (z _), take_rn, tk, tc, td, take_rp, and10, w1, w2, a1, a2, b1, b2,
    rsame c qs c qs (by omega), rsame d rs d rs (by omega), samev, eqs_refl, beq_self_eq_true, Bool.and_self, if_true, known13]
end Go.Proofs.Ytifalphladcdcaa.H
