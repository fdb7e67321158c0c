/- TrimNumbers: a closed sentence, by what holds of any line. No condition. -/
import Derived.Test.YthohhdcngdmbeaaTr2
import Derived.Test.YthohhdcngdmbeaaP2c
set_option linter.unusedVariables false
set_option linter.unusedSimpArgs false
namespace Go.Proofs.Ythohhdcngdmbeaa.H
open Go Go.VM
set_option maxRecDepth 100000

theorem nextB (tape : List W3) (s a : Int) (hs : 0 ≤ s) (hl : (tape.length : Int) ≤ 9223372036854775807) (ha : 0 < a) : ∃ v s', F15v1 a tape.length s (Rt tape) = some (.a0 v tape.length s' (Rt tape)) ∧ 0 ≤ v ∧ v < a ∧ 0 ≤ s' := by
  unfold F15v1
  by_cases h : s ≥ (tape.length : Int)
  · exact ⟨0, s, by rw [if_pos h], by omega, ha, hs⟩
  · have hw : w64 (w64 (s + 1) - 1) = s := by rw [w64_in (n := s + 1) (by omega) (by omega), w64_in (by omega) (by omega)]; omega
    have hi : s.toNat < tape.length := by omega
    obtain ⟨v, v1, v2⟩ := within_ex (tape[s.toNat]).c0
    refine ⟨Int.tmod v a, s + 1, ?_, Int.tmod_nonneg _ v2, Int.tmod_lt_of_pos _ ha, by omega⟩
    rw [if_neg h, hw, if_pos (by omega), Nat.zero_add, rt_get, List.getElem?_eq_getElem hi, Option.bind_some, v1, Option.bind_some]
    simp only []
    rw [if_neg (by omega), w64_in (by omega) (by omega)]
theorem numberB (tape : List W3) (s : Int) (hs : 0 ≤ s) (hl : (tape.length : Int) ≤ 9223372036854775807) : ∃ v s', F54v1 (-5) 20 tape.length s (Rt tape) = some (.a0 v tape.length s' (Rt tape)) ∧ -327680 ≤ v ∧ v ≤ 1376256 ∧ 0 ≤ s' := by
  obtain ⟨v1, s1, e1, l1, u1, p1⟩ := nextB tape s 26 hs hl (by decide)
  obtain ⟨v2, s2, e2, l2, u2, p2⟩ := nextB tape s1 4 p1 hl (by decide)
  obtain ⟨v3, s3, e3, l3, u3, p3⟩ := nextB tape s2 65536 p2 hl (by decide)
  have hq : w64 (w64 (20 - -5) + 1) = 26 := by decide
  unfold F54v1
  rw [hq, e1, Option.bind_some]
  simp only []
  rw [e2, Option.bind_some]
  simp only []
  by_cases h0 : v2 = 0
  · refine ⟨(-5 + v1) * 65536 + 32768, s2, ?_, by omega, by omega, p2⟩
    rw [if_pos (by rw [beq_iff_eq]; exact h0)]
    congr 2; simp only [w64_eq]; omega
  · rw [if_neg (by rw [beq_iff_eq]; exact h0)]
    by_cases h1 : v2 = 1
    · refine ⟨(-5 + v1) * 65536 + v3, s3, ?_, by omega, by omega, p3⟩
      rw [if_pos (by rw [beq_iff_eq]; exact h1), e3, Option.bind_some]
      simp only []
      congr 2; simp only [w64_eq]; omega
    · refine ⟨(-5 + v1) * 65536, s2, ?_, by omega, by omega, p2⟩
      rw [if_neg (by rw [beq_iff_eq]; exact h1)]
      congr 2; simp only [w64_eq]; omega
theorem pusht (o : List W3) (x : Int) : List.take o.length (Rt o) ++ [[i64 x]] = Rt (o ++ [⟨x⟩]) := by
  rw [List.take_of_length_le (by simp)]; simp
theorem rt_len (o : List W3) : (Rt o).length = o.length := by simp

theorem tapes_loop (k : Int) : ∀ (m n : Nat) (o : List W3), o.length + m = 60 → m < n → ∃ o' : List W3, L41_0 n k o.length o.length (Rt o) = some (.e0 o'.length (Rt o')) ∧ o'.length = 60
  | _, 0, _, _, h => by omega
  | 0, n + 1, o, h, _ => ⟨o, by rw [L41_0, if_neg (by omega)], by omega⟩
  | m + 1, n + 1, o, h, hn => by
    have ih := tapes_loop k m n (o ++ [⟨Int.tmod (w64 (w64 (w64 (w64 ((o.length : Int) * o.length) * 11) + w64 (k * 19)) + w64 (o.length * k))) 103⟩]) (by simp; omega) (by omega)
    rw [List.length_append, List.length_singleton] at ih
    rw [L41_0, if_pos (by omega), if_pos (by rw [rt_len]; omega), pusht, w64_in (n := (o.length : Int) + 1) (by omega) (by omega)]
    exact ih
theorem tapes_ex (k : Int) : ∃ o : List W3, F41 k = some (.a0 o.length 0 (Rt o)) ∧ o.length = 60 := by
  obtain ⟨o, h, ho⟩ := tapes_loop k 60 18446744073709551616 [] (by simp) (by omega)
  have h' : L41_0 18446744073709551616 k 0 0 [] = some (.e0 o.length (Rt o)) := h
  exact ⟨o, by unfold F41; rw [h']; rfl, ho⟩

theorem polyB_loop (tape : List W3) (hl : (tape.length : Int) ≤ 9223372036854775807) (c : Bool) : ∀ (m k : Nat) (o : List W34) (s : Int), 0 ≤ s → (∀ p ∈ o, okp p) → o.length + 2 * m ≤ 12 → m < k →
    ∃ (o' : List W34) (s' : Int), L28v1_0 k m tape.length s (Rt tape) c o.length (Rw o) = some (.e0 tape.length s' (Rt tape) c o'.length (Rw o')) ∧ (∀ p ∈ o', okp p) ∧ o'.length ≤ 12 ∧ 0 ≤ s'
  | _, 0, _, _, _, _, _, hk => by omega
  | 0, k + 1, o, s, hs, hp, hn, hk => ⟨o, s, by rw [L28v1_0, if_neg (by omega)], hp, by omega, hs⟩
  | m + 1, k + 1, o, s, hs, hp, hn, hk => by
    obtain ⟨x, s1, e1, x1, x2, p1⟩ := numberB tape s hs hl
    obtain ⟨y, s2, e2, y1, y2, p2⟩ := numberB tape s1 p1 hl
    obtain ⟨v, s3, e3, v1, v2, p3⟩ := nextB tape s2 6 p2 hl (by decide)
    have hq : okp (⟨x, y⟩ : W34) := ⟨x1, x2, y1, y2⟩
    have hp1 : ∀ p ∈ o ++ [(⟨x, y⟩ : W34)], okp p := fun p h => by
      rw [List.mem_append, List.mem_singleton] at h; rcases h with h | rfl
      · exact hp p h
      · exact hq
    have hp2 : ∀ p ∈ o ++ [(⟨x, y⟩ : W34)] ++ [(⟨x, y⟩ : W34)], okp p := fun p h => by
      rw [List.mem_append, List.mem_singleton] at h; rcases h with h | rfl
      · exact hp1 p h
      · exact hq
    have n1 : (o ++ [(⟨x, y⟩ : W34)]).length = o.length + 1 := by simp
    have n2 : (o ++ [(⟨x, y⟩ : W34)] ++ [(⟨x, y⟩ : W34)]).length = o.length + 1 + 1 := by simp
    have hw : w64 (((m + 1 : Nat) : Int) - 1) = (m : Int) := by rw [w64_in (by omega) (by omega)]; omega
    have i1 := polyB_loop tape hl c m k (o ++ [(⟨x, y⟩ : W34)]) s3 p3 hp1 (by omega) (by omega)
    have i2 := polyB_loop tape hl c m k (o ++ [(⟨x, y⟩ : W34)] ++ [(⟨x, y⟩ : W34)]) s3 p3 hp2 (by omega) (by omega)
    rw [n1] at i1; rw [n2] at i2
    have ht2 := push2 (o ++ [(⟨x, y⟩ : W34)]) x y
    rw [n1] at ht2
    rw [L28v1_0, if_pos (by omega), e1, Option.bind_some]
    simp only []
    rw [e2, Option.bind_some]
    simp only []
    rw [if_pos (by rw [rw_len]; omega), e3, Option.bind_some]
    simp only []
    rw [hw, push2]
    by_cases h0 : v = 0
    · rw [if_pos (by rw [beq_iff_eq]; exact h0), if_pos (by rw [rw_len, n1]; omega), ht2]; exact i2
    · rw [if_neg (by rw [beq_iff_eq]; exact h0)]; exact i1
theorem polyB_ex (tape : List W3) (hl : (tape.length : Int) ≤ 9223372036854775807) (s0 : Int) (hs : 0 ≤ s0) : ∃ (c : Bool) (o : List W34) (s : Int), F28v1 tape.length s0 (Rt tape) = some (.a0 c o.length tape.length s (Rt tape) (Rw o)) ∧ (∀ p ∈ o, okp p) ∧ o.length ≤ 12 ∧ 0 ≤ s := by
  obtain ⟨v1, s1, e1, l1, u1, p1⟩ := nextB tape s0 2 hs hl (by decide)
  obtain ⟨v2, s2, e2, l2, u2, p2⟩ := nextB tape s1 7 p1 hl (by decide)
  obtain ⟨o, s, h, r1, r2, r3⟩ := polyB_loop tape hl (v1 == 0) v2.toNat 18446744073709551616 [] s2 p2 (by simp) (by simp only [List.length_nil]; omega) (by omega)
  refine ⟨v1 == 0, o, s, ?_, r1, r2, r3⟩
  have e : ((v2.toNat : Nat) : Int) = v2 := by omega
  rw [e] at h
  have h' : L28v1_0 18446744073709551616 v2 tape.length s2 (Rt tape) (v1 == 0) 0 [] = some (.e0 tape.length s (Rt tape) (v1 == 0) o.length (Rw o)) := h
  unfold F28v1
  rw [e1, Option.bind_some]
  simp only []
  rw [e2, Option.bind_some]
  simp only []
  rw [h']; rfl

theorem in_loop {ps : List W39} (hp : ∀ p ∈ ps, Gi p) (h3 : ps.length = 3) (x y : Int) : ∀ (m n : Nat) (z : Int), z ≤ 18 ∧ 18 - z ≤ m ∧ -1 ≤ z ∨ 18 ≤ z ∧ z ≤ 30 → m < n → L11_4 n x y z (Rp ps) = some (.e2 x y (Rp ps))
  | _, 0, _, _, h => by omega
  | m, n + 1, z, h, hn => by
    by_cases hz : z < 18
    · have t3 : List.take 3 (Rp ps) = Rp ps := List.take_of_length_le (by rw [rp_len]; omega)
      have w3 : w64 (z + 3) = z + 3 := w64_in (by omega) (by omega)
      rw [L11_4, if_pos hz, if_pos (by rw [rp_len]; omega), t3, same10 hp (by omega), Option.bind_some]
      simp only [Bool.not_true, Bool.false_eq_true, if_false]
      rw [same10 hp (by omega), Option.bind_some]
      simp only [Bool.not_true, Bool.false_eq_true, if_false]
      rw [w3]
      exact in_loop hp h3 x y (m - 1) n (z + 3) (by omega) (by omega)
    · rw [L11_4, if_neg hz]
theorem mid_loop {ps : List W39} (hp : ∀ p ∈ ps, Gi p) (h3 : ps.length = 3) (x : Int) : ∀ (m n : Nat) (z : Int), z + m = 18 → -1 ≤ z → m < n → L11_2 n x z (Rp ps) = some (.e2 x)
  | _, 0, _, _, _, h => by omega
  | 0, n + 1, z, h, _, _ => by rw [L11_2, if_neg (by omega)]
  | m + 1, n + 1, z, h, h', hn => by
    rw [L11_2, if_pos (by omega), in_loop hp h3 x z 19 18446744073709551616 (-1) (by omega) (by omega), Option.bind_some]
    simp only []
    rw [w64_in (by omega) (by omega)]
    exact mid_loop hp h3 x m n (z + 1) (by omega) (by omega) (by omega)
theorem out_loop : ∀ (m n i : Nat), i + m = 30 → m < n → L11_0 n i = some .e2
  | _, 0, _, _, h => by omega
  | 0, n + 1, i, h, _ => by rw [L11_0, if_neg (by omega)]
  | m + 1, n + 1, i, h, hn => by
    obtain ⟨t, ht, hlt⟩ := tapes_ex (i : Int)
    obtain ⟨c1, o1, s1, p1, _, k1, n1⟩ := polyB_ex t (by omega) 0 (by decide)
    obtain ⟨c2, o2, s2, p2, _, k2, n2⟩ := polyB_ex t (by omega) s1 n1
    have gl : ∀ p ∈ ([⟨c1, Rw o1⟩, ⟨c2, Rw o2⟩, ⟨false, []⟩] : List W39), Gi p := by
      intro p hp
      simp only [List.mem_cons, List.not_mem_nil, or_false] at hp
      rcases hp with rfl | rfl | rfl
      · exact ⟨o1, rfl, by omega⟩
      · exact ⟨o2, rfl, by omega⟩
      · exact ⟨[], rfl, by simp⟩
    have q := mid_loop gl rfl (i : Int) 19 18446744073709551616 (-1) (by omega) (by omega) (by omega)
    have q' : L11_2 18446744073709551616 i (-1) [[vb c1, V.list 2 (Rw o1)], [vb c2, V.list 2 (Rw o2)], [vb false, V.list 2 []]] = some (.e2 i) := q
    rw [L11_0, if_pos (by omega), ht, Option.bind_some]
    simp only []
    rw [p1, Option.bind_some]
    simp only []
    rw [p2, Option.bind_some]
    simp only []
    rw [if_pos (by rw [rw_len]; omega), if_pos (by rw [rw_len]; omega), rw_all, rw_all, q', Option.bind_some]
    simp only []
    rw [w64_in (by omega) (by omega)]
    exact out_loop m n (i + 1) (by omega) (by omega)
theorem trimNumbers_plain : F11 = some (.a0 true) := by
  have h := out_loop 30 18446744073709551616 0 (by omega) (by omega)
  rw [show ((0 : Nat) : Int) = 0 by rfl] at h
  have e : F42 [] 0 1 = some (.a0 true) := same10 (ps := []) (fun p hp => by simp at hp) (by simp) 0 1
  unfold F11
  rw [h, Option.bind_some]
  simp only []
  rw [e, Option.bind_some]
  simp only []
  rw [if_pos trivial, known10]; rfl
theorem trimNumbers_call : call Try.prog X O0 18446744073709551616 11 11 [] [] = some (.bool true, []) := F11_ok 0 (.a0 true) trimNumbers_plain
end Go.Proofs.Ythohhdcngdmbeaa.H
