/- DashNumbers: a closed sentence, by what holds of any line. No condition. -/
import Derived.Test.YtojigbcgmneiiaaDaLaw
set_option linter.unusedVariables false
set_option linter.unusedSimpArgs false
namespace Go.Proofs.Ytojigbcgmneiiaa.H
open Go Go.VM
set_option maxRecDepth 100000

theorem nextB (tape : List W3) (s a : Int) (hs : 0 ≤ s) (hl : (tape.length : Int) ≤ 9223372036854775807) (ha : 0 < a) : ∃ v s', F28v1 a tape.length s (Rt tape) = some (.a0 v tape.length s' (Rt tape)) ∧ 0 ≤ v ∧ v < a ∧ 0 ≤ s' := by
  unfold F28v1
  by_cases h : s ≥ (tape.length : Int)
  · exact ⟨0, s, by rw [if_pos h], by omega, ha, hs⟩
  · have hw : w64 (w64 (s + 1) - 1) = s := by rw [w64_in (n := s + 1) (by omega) (by omega), w64_in (by omega) (by omega)]; omega
    have hi : s.toNat < tape.length := by omega
    obtain ⟨v, v1, v2⟩ := within_ex (tape[s.toNat]).c0
    refine ⟨Int.tmod v a, s + 1, ?_, Int.tmod_nonneg _ v2, Int.tmod_lt_of_pos _ ha, by omega⟩
    rw [if_neg h, hw, if_pos (by omega), Nat.zero_add, rt_get, List.getElem?_eq_getElem hi, Option.bind_some, v1, Option.bind_some]
    simp only []
    rw [if_neg (by omega), w64_in (by omega) (by omega)]
theorem numberB (tape : List W3) (s : Int) (hs : 0 ≤ s) (hl : (tape.length : Int) ≤ 9223372036854775807) : ∃ v s', F29v1 (-5) 20 tape.length s (Rt tape) = some (.a0 v tape.length s' (Rt tape)) ∧ -327680 ≤ v ∧ v ≤ 1376256 ∧ 0 ≤ s' := by
  obtain ⟨v1, s1, e1, l1, u1, p1⟩ := nextB tape s 26 hs hl (by decide)
  obtain ⟨v2, s2, e2, l2, u2, p2⟩ := nextB tape s1 4 p1 hl (by decide)
  obtain ⟨v3, s3, e3, l3, u3, p3⟩ := nextB tape s2 65536 p2 hl (by decide)
  have hq : w64 (w64 (20 - -5) + 1) = 26 := by decide
  unfold F29v1
  rw [hq, e1, Option.bind_some]
  simp only []
  rw [e2, Option.bind_some]
  simp only []
  by_cases h0 : v2 = 0
  · refine ⟨(-5 + v1) * 65536 + 32768, s2, ?_, by omega, by omega, p2⟩
    rw [if_pos (by rw [beq_iff_eq]; exact h0)]
    congr 2; simp only [w64_eq]; omega
  · rw [if_neg (by rw [beq_iff_eq]; exact h0)]
    by_cases h1 : v2 = 1
    · refine ⟨(-5 + v1) * 65536 + v3, s3, ?_, by omega, by omega, p3⟩
      rw [if_pos (by rw [beq_iff_eq]; exact h1), e3, Option.bind_some]
      simp only []
      congr 2; simp only [w64_eq]; omega
    · refine ⟨(-5 + v1) * 65536, s2, ?_, by omega, by omega, p2⟩
      rw [if_neg (by rw [beq_iff_eq]; exact h1)]
      congr 2; simp only [w64_eq]; omega
theorem pusht (o : List W3) (x : Int) : List.take o.length (Rt o) ++ [[i64 x]] = Rt (o ++ [⟨x⟩]) := by
  rw [List.take_of_length_le (by simp)]; simp
theorem rt_len (o : List W3) : (Rt o).length = o.length := by simp

theorem tapes_loop (k : Int) : ∀ (m n : Nat) (o : List W3), o.length + m = 60 → m < n → ∃ o' : List W3, L22_0 n k o.length o.length (Rt o) = some (.e0 o'.length (Rt o')) ∧ o'.length = 60
  | _, 0, _, _, h => by omega
  | 0, n + 1, o, h, _ => ⟨o, by rw [L22_0, if_neg (by omega)], by omega⟩
  | m + 1, n + 1, o, h, hn => by
    have ih := tapes_loop k m n (o ++ [⟨Int.tmod (w64 (w64 (w64 (w64 ((o.length : Int) * o.length) * 11) + w64 (k * 19)) + w64 (o.length * k))) 103⟩]) (by simp; omega) (by omega)
    rw [List.length_append, List.length_singleton] at ih
    rw [L22_0, if_pos (by omega), if_pos (by rw [rt_len]; omega), pusht, w64_in (n := (o.length : Int) + 1) (by omega) (by omega)]
    exact ih
theorem tapes_ex (k : Int) : ∃ o : List W3, F22 k = some (.a0 o.length 0 (Rt o)) ∧ o.length = 60 := by
  obtain ⟨o, h, ho⟩ := tapes_loop k 60 18446744073709551616 [] (by simp) (by omega)
  have h' : L22_0 18446744073709551616 k 0 0 [] = some (.e0 o.length (Rt o)) := h
  exact ⟨o, by unfold F22; rw [h']; rfl, ho⟩

theorem polyB_loop (tape : List W3) (hl : (tape.length : Int) ≤ 9223372036854775807) (c : Bool) : ∀ (m k : Nat) (o : List W43) (s : Int), 0 ≤ s → (∀ p ∈ o, okp p) → o.length + 2 * m ≤ 12 → m < k →
    ∃ (o' : List W43) (s' : Int), L11v1_0 k m tape.length s (Rt tape) c o.length (Rw o) = some (.e0 tape.length s' (Rt tape) c o'.length (Rw o')) ∧ (∀ p ∈ o', okp p) ∧ o'.length ≤ 12 ∧ 0 ≤ s'
  | _, 0, _, _, _, _, _, hk => by omega
  | 0, k + 1, o, s, hs, hp, hn, hk => ⟨o, s, by rw [L11v1_0, if_neg (by omega)], hp, by omega, hs⟩
  | m + 1, k + 1, o, s, hs, hp, hn, hk => by
    obtain ⟨x, s1, e1, x1, x2, p1⟩ := numberB tape s hs hl
    obtain ⟨y, s2, e2, y1, y2, p2⟩ := numberB tape s1 p1 hl
    obtain ⟨v, s3, e3, v1, v2, p3⟩ := nextB tape s2 6 p2 hl (by decide)
    have hq : okp (⟨x, y⟩ : W43) := ⟨x1, x2, y1, y2⟩
    have hp1 : ∀ p ∈ o ++ [(⟨x, y⟩ : W43)], okp p := fun p h => by
      rw [List.mem_append, List.mem_singleton] at h; rcases h with h | rfl
      · exact hp p h
      · exact hq
    have hp2 : ∀ p ∈ o ++ [(⟨x, y⟩ : W43)] ++ [(⟨x, y⟩ : W43)], okp p := fun p h => by
      rw [List.mem_append, List.mem_singleton] at h; rcases h with h | rfl
      · exact hp1 p h
      · exact hq
    have n1 : (o ++ [(⟨x, y⟩ : W43)]).length = o.length + 1 := by simp
    have n2 : (o ++ [(⟨x, y⟩ : W43)] ++ [(⟨x, y⟩ : W43)]).length = o.length + 1 + 1 := by simp
    have hw : w64 (((m + 1 : Nat) : Int) - 1) = (m : Int) := by rw [w64_in (by omega) (by omega)]; omega
    have i1 := polyB_loop tape hl c m k (o ++ [(⟨x, y⟩ : W43)]) s3 p3 hp1 (by omega) (by omega)
    have i2 := polyB_loop tape hl c m k (o ++ [(⟨x, y⟩ : W43)] ++ [(⟨x, y⟩ : W43)]) s3 p3 hp2 (by omega) (by omega)
    rw [n1] at i1; rw [n2] at i2
    have ht2 := push2 (o ++ [(⟨x, y⟩ : W43)]) x y
    rw [n1] at ht2
    rw [L11v1_0, if_pos (by omega), e1, Option.bind_some]
    simp only []
    rw [e2, Option.bind_some]
    simp only []
    rw [if_pos (by rw [rw_len]; omega), e3, Option.bind_some]
    simp only []
    rw [hw, push2]
    by_cases h0 : v = 0
    · rw [if_pos (by rw [beq_iff_eq]; exact h0), if_pos (by rw [rw_len, n1]; omega), ht2]; exact i2
    · rw [if_neg (by rw [beq_iff_eq]; exact h0)]; exact i1
theorem polyB_ex (tape : List W3) (hl : (tape.length : Int) ≤ 9223372036854775807) (s0 : Int) (hs : 0 ≤ s0) : ∃ (c : Bool) (o : List W43) (s : Int), F11v1 tape.length s0 (Rt tape) = some (.a0 c o.length tape.length s (Rt tape) (Rw o)) ∧ (∀ p ∈ o, okp p) ∧ o.length ≤ 12 ∧ 0 ≤ s := by
  obtain ⟨v1, s1, e1, l1, u1, p1⟩ := nextB tape s0 2 hs hl (by decide)
  obtain ⟨v2, s2, e2, l2, u2, p2⟩ := nextB tape s1 7 p1 hl (by decide)
  obtain ⟨o, s, h, r1, r2, r3⟩ := polyB_loop tape hl (v1 == 0) v2.toNat 18446744073709551616 [] s2 p2 (by simp) (by simp only [List.length_nil]; omega) (by omega)
  refine ⟨v1 == 0, o, s, ?_, r1, r2, r3⟩
  have e : ((v2.toNat : Nat) : Int) = v2 := by omega
  rw [e] at h
  have h' : L11v1_0 18446744073709551616 v2 tape.length s2 (Rt tape) (v1 == 0) 0 [] = some (.e0 tape.length s (Rt tape) (v1 == 0) o.length (Rw o)) := h
  unfold F11v1
  rw [e1, Option.bind_some]
  simp only []
  rw [e2, Option.bind_some]
  simp only []
  rw [h']; rfl

theorem mid_loop (c : Bool) {o : List W43} (ho : o.length ≤ 12) (x : Int) : ∀ (m n : Nat) (q : List W2), q.length + m = 10 → m < n → L6_2 n x q.length q.length c o.length (Rl q) (Rw o) = some (.e1 x)
  | _, 0, _, _, h => by omega
  | 0, n + 1, q, h, _ => by rw [L6_2, if_neg (by omega)]
  | m + 1, n + 1, q, h, hn => by
    have ih := mid_loop c ho x m n (q ++ [⟨w64 (w64 (w64 (1 + Int.tmod (w64 ((q.length : Int) * x)) 5) * 65536) + q.length)⟩]) (by simp; omega) (by omega)
    rw [List.length_append, List.length_singleton] at ih
    rw [L6_2, if_pos (by omega)]
    simp only [rw_len, rl_len, Nat.zero_add, Nat.le_refl, if_true, rw_all, rl_all, same11 c (p := o) (by omega) q (by omega), Option.bind_some, Bool.not_true, Bool.false_eq_true, if_false, true_and]
    rw [if_pos (by omega), w64_in (n := (q.length : Int) + 1) (by omega) (by omega)]
    have e : Rl q ++ [[i64 (w64 (w64 (w64 (1 + Int.tmod (w64 ((q.length : Int) * x)) 5) * 65536) + q.length))]] = Rl (q ++ [⟨w64 (w64 (w64 (1 + Int.tmod (w64 ((q.length : Int) * x)) 5) * 65536) + q.length)⟩]) := by simp
    rw [e]
    exact ih
theorem out_loop : ∀ (m n i : Nat), i + m = 30 → m < n → L6_0 n i = some .e1
  | _, 0, _, _, h => by omega
  | 0, n + 1, i, h, _ => by rw [L6_0, if_neg (by omega)]
  | m + 1, n + 1, i, h, hn => by
    obtain ⟨t, ht, hlt⟩ := tapes_ex (i : Int)
    obtain ⟨c, o, s, hp, _, ho, _⟩ := polyB_ex t (by omega) 0 (by decide)
    have q := mid_loop c ho (i : Int) 10 18446744073709551616 [] (by simp) (by omega)
    have q' : L6_2 18446744073709551616 i 0 0 c o.length [] (Rw o) = some (.e1 i) := q
    rw [L6_0, if_pos (by omega), ht, Option.bind_some]
    simp only []
    rw [hp, Option.bind_some]
    simp only []
    rw [q', Option.bind_some]
    simp only []
    rw [w64_in (by omega) (by omega)]
    exact out_loop m n (i + 1) (by omega) (by omega)
theorem long_loop : ∀ (m n i : Nat), i + m = 7 → m < n → L6_4 n i = some .e2
  | _, 0, _, _, h => by omega
  | 0, n + 1, i, h, _ => by rw [L6_4, if_neg (by omega)]
  | m + 1, n + 1, i, h, hn => by
    have hi : i < ([⟨-1⟩, ⟨0⟩, ⟨65535⟩, ⟨65536⟩, ⟨65537⟩, ⟨67108864⟩, ⟨67108865⟩] : List W2).length := by simp; omega
    have g := rl_get [⟨-1⟩, ⟨0⟩, ⟨65535⟩, ⟨65536⟩, ⟨65537⟩, ⟨67108864⟩, ⟨67108865⟩] i
    rw [List.getElem?_eq_getElem hi] at g
    generalize ([⟨-1⟩, ⟨0⟩, ⟨65535⟩, ⟨65536⟩, ⟨65537⟩, ⟨67108864⟩, ⟨67108865⟩] : List W2)[i] = v at g
    have g' : (([[i64 (-1 : Int)], [i64 (0 : Int)], [i64 (65535 : Int)], [i64 (65536 : Int)], [i64 (65537 : Int)], [i64 (67108864 : Int)], [i64 (67108865 : Int)]] : List (List V))[i]?).bind W2.dec = some v := g
    have s1 : ∀ ls : List W2, ls.length ≤ 5 → F23 false [[i64 0, i64 0], [i64 67108864, i64 0], [i64 67108864, i64 67108864]] (Rl ls) = some (.a0 true) := fun ls h =>
      same11 false (p := [⟨0, 0⟩, ⟨67108864, 0⟩, ⟨67108864, 67108864⟩]) (by simp) ls (by omega)
    have a1 : F23 false [[i64 0, i64 0], [i64 67108864, i64 0], [i64 67108864, i64 67108864]] [[i64 v.c0]] = some (.a0 true) := s1 [v] (by simp)
    have a2 : F23 false [[i64 0, i64 0], [i64 67108864, i64 0], [i64 67108864, i64 67108864]] [[i64 65536], [i64 v.c0]] = some (.a0 true) := s1 [⟨65536⟩, v] (by simp)
    rw [L6_4, if_pos (by omega), if_pos (by omega), show 0 + Int.toNat (i : Int) = i by omega, g', Option.bind_some, a1, Option.bind_some]
    simp only [Bool.not_true, Bool.false_eq_true, if_false]
    rw [a2, Option.bind_some]
    simp only [Bool.not_true, Bool.false_eq_true, if_false]
    rw [w64_in (by omega) (by omega)]
    exact long_loop m n (i + 1) (by omega) (by omega)
theorem dashNumbers_plain : F6 = some (.a0 true) := by
  have h := out_loop 30 18446744073709551616 0 (by omega) (by omega)
  have h2 := long_loop 7 18446744073709551616 0 (by omega) (by omega)
  rw [show ((0 : Nat) : Int) = 0 by rfl] at h h2
  unfold F6
  rw [h, Option.bind_some]
  simp only []
  rw [h2, Option.bind_some]
  simp only []
  rw [known11]; rfl
theorem dashNumbers_call : call Try.prog X O0 18446744073709551616 11 6 [] [] = some (.bool true, []) := F6_ok 0 (.a0 true) dashNumbers_plain
end Go.Proofs.Ytojigbcgmneiiaa.H
