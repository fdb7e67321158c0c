/- PathTells in plain Lean. Conditions: those stated. -/
import Derived.Test.YtifalphladcdcaaPath45
set_option linter.unusedVariables false
set_option linter.unusedSimpArgs false
namespace Go.Proofs.Ytifalphladcdcaa.H
open Go Go.VM
set_option maxRecDepth 100000
theorem rsame_mat : F9 = some (.a0 65536 0 0 65536 0 0) := by kernel_rfl
theorem pathTells_plain (tape tape2 : List W3) (hl : (tape.length : Int) ≤ 9223372036854775807) (hl2 : (tape2.length : Int) ≤ 9223372036854775807) (t A B C D E F : Int) (c : Bool) (raw : List Pt) (odd : Int) :
    F4 (Rt tape) (Rt tape2) t A B C D E F c (Rp raw) odd = some (.a0 true) := by
  obtain ⟨v1, s1, e1, l1, u1, p1⟩ := next_ex tape 0 5 (by decide) hl (by decide)
  have w1 : w64 (1 + v1) = 1 + v1 := w64_in (by omega) (by omega)
  obtain ⟨ps, s2, e2, l2, b2, p2⟩ := path_ex tape s1 p1 hl (1 + v1) (by omega) (by omega) true
  obtain ⟨v3, s3, e3, l3, u3, p3⟩ := next_ex tape2 0 5 (by decide) hl2 (by decide)
  have w3 : w64 (1 + v3) = 1 + v3 := w64_in (by omega) (by omega)
  obtain ⟨v4, s4, e4, l4, u4, p4⟩ := next_ex tape2 s3 4 p3 hl2 (by decide)
  obtain ⟨qs, s5, e5, l5, b5, p5⟩ := path_ex tape2 s4 p4 hl2 (1 + v3) (by omega) (by omega) (decide (v4 > 0))
  obtain ⟨ks, e6, l6, g6⟩ := made_ex tape hl odd
  obtain ⟨js, e7, l7, g7⟩ := made_ex tape2 hl2 0
  have tk : ∀ xs : List PK, List.take xs.length (Rk xs) = Rk xs := fun xs => List.take_of_length_le (by rw [rk_len]; exact Nat.le_refl _)
  have fin : ∀ rs : List Pt, (rs.length : Int) * 16 ≤ 140737488355328 →
      J4_c39 (Rt tape) (Rt tape2) t odd (decide ((raw.length : Int) > 20)) A B C D E F c (Rp raw) true ps.length (decide (v4 > 0)) qs.length (Rp ps) (Rp qs) = some (.e0 (Rt tape) (Rt tape2) t odd A B C D E F c (Rp rs) true ps.length (decide (v4 > 0)) qs.length (Rp ps) (Rp qs)) →
      F4 (Rt tape) (Rt tape2) t A B C D E F c (Rp raw) odd = some (.a0 true) := by
    intro rs hr hj
    simp only [F4, D4, PT.ev, PT.test, dite_eq_ite, e1, w1, e2, e3, w3, e4, e5, Option.bind_some, rp_len, hj, if_pos (show 0 + ps.length ≤ ps.length by omega), if_pos (show 0 + qs.length ≤ qs.length by omega), take_rp,
      same_ok true ps (decide (v4 > 0)) qs _ _ _ _ _ _ _ (by omega), same_ok c rs true ps _ _ _ _ _ _ _ hr, same_ok true ps true ps _ _ _ _ _ _ _ (by omega), if_true, rsame_mat, e6, e7, rk_len, if_pos (show 0 + ks.length ≤ ks.length by omega), if_pos (show 0 + js.length ≤ js.length by omega), tk,
      keys_ok ks g6 (by omega), keys_ok js g7 (by omega), known7]
  by_cases hc : (raw.length : Int) > 20
  · refine fin (raw.take 20) (by rw [List.length_take]; omega) ?_
    have ht : List.take 20 (Rp raw) = Rp (raw.take 20) := by simp only [Rp, List.map_take]
    simp only [J4_c39, D4_c39, PT.ev, PT.test, dite_eq_ite, decide_eq_true hc, if_true, rp_len, if_pos (show (0 : Int) ≤ 0 ∧ (0 : Int) ≤ 20 ∧ (20 : Int) ≤ (raw.length : Int) by omega), ht]
  · refine fin raw (by omega) ?_
    simp only [J4_c39, D4_c39, PT.ev, PT.test, dite_eq_ite, decide_eq_false hc, Bool.false_eq_true, if_false]
end Go.Proofs.Ytifalphladcdcaa.H
