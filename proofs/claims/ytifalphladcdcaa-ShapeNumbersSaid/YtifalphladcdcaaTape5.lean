/- Numbers of tapes, in plain Lean over what the functions compute. Conditions: those stated. -/
import Derived.Test.YtifalphladcdcaaPath35
set_option linter.unusedVariables false
set_option linter.unusedSimpArgs false
namespace Go.Proofs.Ytifalphladcdcaa.H
open Go Go.VM
set_option maxRecDepth 100000
theorem within_ex (x : Int) : ∃ v : Int, F38 x 0 1073741824 = some (.a0 v) ∧ 0 ≤ v := by
  have hq : w64 (w64 (1073741824 - 0) + 1) = 1073741825 := by decide
  simp only [F38, D38, PT.ev, PT.test, dite_eq_ite, hq]
  by_cases h1 : 0 ≤ x ∧ x ≤ 1073741824
  · exact ⟨x, by rw [if_pos h1.1, if_pos h1.2], h1.1⟩
  · have t1 : Int.tmod x 1073741825 < 1073741825 := Int.tmod_lt_of_pos x (by decide)
    have t2 : -1073741825 < Int.tmod x 1073741825 := by have := Int.tmod_lt_of_pos (-x) (show (0 : Int) < 1073741825 by decide); rw [Int.neg_tmod] at this; omega
    have go : ∃ v : Int, (if (1073741825 : Int) = 0 then none else if Int.tmod x 1073741825 < 0 then some (A38.a0 (w64 (0 + w64 (w64 (w64 (Int.tmod x 1073741825 + 1073741824) - 0) + 1)))) else some (A38.a0 (w64 (0 + Int.tmod x 1073741825)))) = some (.a0 v) ∧ 0 ≤ v := by
      rw [if_neg (by decide)]
      by_cases h2 : Int.tmod x 1073741825 < 0
      · rw [if_pos h2]
        refine ⟨_, rfl, ?_⟩
        simp only [w64_eq]; omega
      · rw [if_neg h2]
        refine ⟨_, rfl, ?_⟩
        simp only [w64_eq]; omega
    by_cases h3 : x ≥ 0
    · rw [if_pos h3, if_neg (by omega)]; exact go
    · rw [if_neg h3]; exact go
theorem next_ex (tape : List W3) (s a : Int) (hs : 0 ≤ s) (hl : (tape.length : Int) ≤ 9223372036854775807) (ha : 0 < a) : ∃ v s', F14 a (Rt tape) s = some (.a0 v (Rt tape) s') ∧ 0 ≤ v ∧ v < a ∧ 0 ≤ s' := by
  have hlen : (Rt tape).length = tape.length := by simp
  simp only [F14, D14, PT.ev, PT.test, dite_eq_ite, hlen]
  by_cases h : s ≥ (tape.length : Int)
  · exact ⟨0, s, by rw [if_pos h], by omega, ha, hs⟩
  · have hw : w64 (w64 (s + 1) - 1) = s := by rw [w64_in (n := s + 1) (by omega) (by omega), w64_in (by omega) (by omega)]; omega
    have hi : s.toNat < tape.length := by omega
    obtain ⟨v, v1, v2⟩ := within_ex (tape[s.toNat]).c0
    refine ⟨Int.tmod v a, s + 1, ?_, Int.tmod_nonneg _ v2, Int.tmod_lt_of_pos _ ha, by omega⟩
    have ha' : ¬ a = 0 := by omega
    simp only [h, hw, hs, rt_get, List.getElem?_eq_getElem hi, Option.bind_some, v1, PT.ev, PT.test, dite_eq_ite, if_true, if_false, ha']
    rw [w64_in (by omega) (by omega)]
/-- A number of a tape, from lo to hi, and a bit. -/
theorem number_ex (tape : List W3) (lo hi s : Int) (hs : 0 ≤ s) (hl : (tape.length : Int) ≤ 9223372036854775807) (h1 : -1000 ≤ lo) (h2 : lo ≤ hi) (h3 : hi ≤ 1000) :
    ∃ v s', F41 lo hi (Rt tape) s = some (.a0 v (Rt tape) s') ∧ lo * 65536 ≤ v ∧ v ≤ hi * 65536 + 65535 ∧ 0 ≤ s' := by
  have hq : w64 (w64 (hi - lo) + 1) = hi - lo + 1 := by rw [w64_in (n := hi - lo) (by omega) (by omega), w64_in (by omega) (by omega)]
  obtain ⟨v1, s1, e1, l1, u1, p1⟩ := next_ex tape s (hi - lo + 1) hs hl (by omega)
  obtain ⟨v2, s2, e2, l2, u2, p2⟩ := next_ex tape s1 4 p1 hl (by decide)
  obtain ⟨v3, s3, e3, l3, u3, p3⟩ := next_ex tape s2 65536 p2 hl (by decide)
  simp only [F41, D41, PT.ev, PT.test, dite_eq_ite, hq, e1, e2, Option.bind_some]
  have hw : w64 (w64 (lo + v1) * 65536) = (lo + v1) * 65536 := by rw [w64_in (n := lo + v1) (by omega) (by omega), w64_in (by omega) (by omega)]
  by_cases h0 : v2 = 0
  · refine ⟨(lo + v1) * 65536 + 32768, s2, ?_, by omega, by omega, p2⟩
    rw [if_pos (by rw [beq_iff_eq]; exact h0), hw, w64_in (by omega) (by omega)]
  · rw [if_neg (by rw [beq_iff_eq]; exact h0)]
    by_cases h1 : v2 = 1
    · refine ⟨(lo + v1) * 65536 + v3, s3, ?_, by omega, by omega, p3⟩
      simp only [h1, beq_self_eq_true, if_true, e3, Option.bind_some, PT.ev, PT.test, dite_eq_ite, hw]
      rw [w64_in (by omega) (by omega)]
    · refine ⟨(lo + v1) * 65536, s2, ?_, by omega, by omega, p2⟩
      rw [if_neg (by rw [beq_iff_eq]; exact h1), hw]
end Go.Proofs.Ytifalphladcdcaa.H
