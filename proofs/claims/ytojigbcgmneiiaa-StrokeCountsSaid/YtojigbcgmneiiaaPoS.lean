/- Outlines are trimmed by the program as by the document: plain Lean over what the functions compute. Conditions: those stated. -/
import Derived.Test.YtojigbcgmneiiaaArS
set_option linter.unusedVariables false
set_option linter.unusedSimpArgs false
namespace Go.Proofs.Ytojigbcgmneiiaa.H
open Go Go.VM
set_option maxRecDepth 100000
def okp (p : W43) : Prop := -327680 ≤ p.c0 ∧ p.c0 ≤ 1376256 ∧ -327680 ≤ p.c1 ∧ p.c1 ≤ 1376256
theorem numberz_ex (tape : List W3) (s : Int) (hs : 0 ≤ s) (hl : (tape.length : Int) ≤ 9223372036854775807) : ∃ v s', F29 (-5) 20 (Rt tape) s = some (.a0 v (Rt tape) s') ∧ -327680 ≤ v ∧ v ≤ 1376256 ∧ 0 ≤ s' := by
  obtain ⟨v1, s1, e1, l1, u1, p1⟩ := next_ex tape s 26 hs hl (by decide)
  obtain ⟨v2, s2, e2, l2, u2, p2⟩ := next_ex tape s1 4 p1 hl (by decide)
  obtain ⟨v3, s3, e3, l3, u3, p3⟩ := next_ex tape s2 65536 p2 hl (by decide)
  have hq : w64 (w64 (20 - -5) + 1) = 26 := by decide
  unfold F29
  rw [hq, e1, Option.bind_some]
  simp only []
  rw [e2, Option.bind_some]
  simp only []
  by_cases h0 : v2 = 0
  · refine ⟨(-5 + v1) * 65536 + 32768, s2, ?_, by omega, by omega, p2⟩
    rw [if_pos (by rw [beq_iff_eq]; exact h0)]
    congr 2; simp only [w64_eq]; omega
  · rw [if_neg (by rw [beq_iff_eq]; exact h0)]
    by_cases h1 : v2 = 1
    · refine ⟨(-5 + v1) * 65536 + v3, s3, ?_, by omega, by omega, p3⟩
      rw [if_pos (by rw [beq_iff_eq]; exact h1), e3, Option.bind_some]
      simp only []
      congr 2; simp only [w64_eq]; omega
    · refine ⟨(-5 + v1) * 65536, s2, ?_, by omega, by omega, p2⟩
      rw [if_neg (by rw [beq_iff_eq]; exact h1)]
      congr 2; simp only [w64_eq]; omega
theorem poly_loop (tape : List W3) (hl : (tape.length : Int) ≤ 9223372036854775807) (c : Bool) : ∀ (m k : Nat) (o : List W43) (s : Int), 0 ≤ s → (∀ p ∈ o, okp p) → o.length + 2 * m ≤ 12 → m < k →
    ∃ (o' : List W43) (s' : Int), L15_0 k m (Rt tape) s c o.length (Rw o) = some (.e0 (Rt tape) s' c o'.length (Rw o')) ∧ (∀ p ∈ o', okp p) ∧ o'.length ≤ 12 ∧ 0 ≤ s'
  | _, 0, _, _, _, _, _, hk => by omega
  | 0, k + 1, o, s, hs, hp, hn, hk => ⟨o, s, by rw [L15_0, if_neg (by omega)], hp, by omega, hs⟩
  | m + 1, k + 1, o, s, hs, hp, hn, hk => by
    obtain ⟨x, s1, e1, x1, x2, p1⟩ := numberz_ex tape s hs hl
    obtain ⟨y, s2, e2, y1, y2, p2⟩ := numberz_ex tape s1 p1 hl
    obtain ⟨v, s3, e3, v1, v2, p3⟩ := next_ex tape s2 6 p2 hl (by decide)
    have hq : okp (⟨x, y⟩ : W43) := ⟨x1, x2, y1, y2⟩
    have hp1 : ∀ p ∈ o ++ [(⟨x, y⟩ : W43)], okp p := fun p h => by
      rw [List.mem_append, List.mem_singleton] at h; rcases h with h | rfl
      · exact hp p h
      · exact hq
    have hp2 : ∀ p ∈ o ++ [(⟨x, y⟩ : W43)] ++ [(⟨x, y⟩ : W43)], okp p := fun p h => by
      rw [List.mem_append, List.mem_singleton] at h; rcases h with h | rfl
      · exact hp1 p h
      · exact hq
    have n1 : (o ++ [(⟨x, y⟩ : W43)]).length = o.length + 1 := by simp
    have n2 : (o ++ [(⟨x, y⟩ : W43)] ++ [(⟨x, y⟩ : W43)]).length = o.length + 1 + 1 := by simp
    have hw : w64 (((m + 1 : Nat) : Int) - 1) = (m : Int) := by rw [w64_in (by omega) (by omega)]; omega
    have i1 := poly_loop tape hl c m k (o ++ [(⟨x, y⟩ : W43)]) s3 p3 hp1 (by omega) (by omega)
    have i2 := poly_loop tape hl c m k (o ++ [(⟨x, y⟩ : W43)] ++ [(⟨x, y⟩ : W43)]) s3 p3 hp2 (by omega) (by omega)
    rw [n1] at i1; rw [n2] at i2
    have ht2 := push2 (o ++ [(⟨x, y⟩ : W43)]) x y
    rw [n1] at ht2
    rw [L15_0, if_pos (by omega), e1, Option.bind_some]
    simp only []
    rw [e2, Option.bind_some]
    simp only []
    rw [if_pos (by rw [rw_len]; omega), e3, Option.bind_some]
    simp only []
    rw [hw, push2]
    by_cases h0 : v = 0
    · rw [if_pos (by rw [beq_iff_eq]; exact h0), if_pos (by rw [rw_len, n1]; omega), ht2]; exact i2
    · rw [if_neg (by rw [beq_iff_eq]; exact h0)]; exact i1
theorem poly_ex (tape : List W3) (hl : (tape.length : Int) ≤ 9223372036854775807) (s0 : Int) (hs : 0 ≤ s0) : ∃ (c : Bool) (o : List W43) (s : Int), F15 (Rt tape) s0 = some (.a0 c o.length (Rt tape) s (Rw o)) ∧ (∀ p ∈ o, okp p) ∧ o.length ≤ 12 ∧ 0 ≤ s := by
  obtain ⟨v1, s1, e1, l1, u1, p1⟩ := next_ex tape s0 2 hs hl (by decide)
  obtain ⟨v2, s2, e2, l2, u2, p2⟩ := next_ex tape s1 7 p1 hl (by decide)
  obtain ⟨o, s, h, r1, r2, r3⟩ := poly_loop tape hl (v1 == 0) v2.toNat 18446744073709551616 [] s2 p2 (by simp) (by simp only [List.length_nil]; omega) (by omega)
  refine ⟨v1 == 0, o, s, ?_, r1, r2, r3⟩
  have e : ((v2.toNat : Nat) : Int) = v2 := by omega
  rw [e] at h
  have h' : L15_0 18446744073709551616 v2 (Rt tape) s2 (v1 == 0) 0 [] = some (.e0 (Rt tape) s (v1 == 0) o.length (Rw o)) := h
  unfold F15
  rw [e1, Option.bind_some]
  simp only []
  rw [e2, Option.bind_some]
  simp only []
  rw [h']; rfl
end Go.Proofs.Ytojigbcgmneiiaa.H
