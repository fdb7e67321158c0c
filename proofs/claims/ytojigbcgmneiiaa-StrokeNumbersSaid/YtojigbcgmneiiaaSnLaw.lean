/- StrokeNumbers: a closed sentence, by what holds of any line. No condition. -/
import Derived.Test.YtojigbcgmneiiaaSt4
set_option linter.unusedVariables false
set_option linter.unusedSimpArgs false
namespace Go.Proofs.Ytojigbcgmneiiaa.H
open Go Go.VM
set_option maxRecDepth 100000

theorem nextB (tape : List W3) (s a : Int) (hs : 0 ≤ s) (hl : (tape.length : Int) ≤ 9223372036854775807) (ha : 0 < a) : ∃ v s', F28v1 a tape.length s (Rt tape) = some (.a0 v tape.length s' (Rt tape)) ∧ 0 ≤ v ∧ v < a ∧ 0 ≤ s' := by
  unfold F28v1
  by_cases h : s ≥ (tape.length : Int)
  · exact ⟨0, s, by rw [if_pos h], by omega, ha, hs⟩
  · have hw : w64 (w64 (s + 1) - 1) = s := by rw [w64_in (n := s + 1) (by omega) (by omega), w64_in (by omega) (by omega)]; omega
    have hi : s.toNat < tape.length := by omega
    obtain ⟨v, v1, v2⟩ := within_ex (tape[s.toNat]).c0
    refine ⟨Int.tmod v a, s + 1, ?_, Int.tmod_nonneg _ v2, Int.tmod_lt_of_pos _ ha, by omega⟩
    rw [if_neg h, hw, if_pos (by omega), Nat.zero_add, rt_get, List.getElem?_eq_getElem hi, Option.bind_some, v1, Option.bind_some]
    simp only []
    rw [if_neg (by omega), w64_in (by omega) (by omega)]
theorem numberB (tape : List W3) (s : Int) (hs : 0 ≤ s) (hl : (tape.length : Int) ≤ 9223372036854775807) : ∃ v s', F29v1 (-5) 20 tape.length s (Rt tape) = some (.a0 v tape.length s' (Rt tape)) ∧ -327680 ≤ v ∧ v ≤ 1376256 ∧ 0 ≤ s' := by
  obtain ⟨v1, s1, e1, l1, u1, p1⟩ := nextB tape s 26 hs hl (by decide)
  obtain ⟨v2, s2, e2, l2, u2, p2⟩ := nextB tape s1 4 p1 hl (by decide)
  obtain ⟨v3, s3, e3, l3, u3, p3⟩ := nextB tape s2 65536 p2 hl (by decide)
  have hq : w64 (w64 (20 - -5) + 1) = 26 := by decide
  unfold F29v1
  rw [hq, e1, Option.bind_some]
  simp only []
  rw [e2, Option.bind_some]
  simp only []
  by_cases h0 : v2 = 0
  · refine ⟨(-5 + v1) * 65536 + 32768, s2, ?_, by omega, by omega, p2⟩
    rw [if_pos (by rw [beq_iff_eq]; exact h0)]
    congr 2; simp only [w64_eq]; omega
  · rw [if_neg (by rw [beq_iff_eq]; exact h0)]
    by_cases h1 : v2 = 1
    · refine ⟨(-5 + v1) * 65536 + v3, s3, ?_, by omega, by omega, p3⟩
      rw [if_pos (by rw [beq_iff_eq]; exact h1), e3, Option.bind_some]
      simp only []
      congr 2; simp only [w64_eq]; omega
    · refine ⟨(-5 + v1) * 65536, s2, ?_, by omega, by omega, p2⟩
      rw [if_neg (by rw [beq_iff_eq]; exact h1)]
      congr 2; simp only [w64_eq]; omega
theorem pusht (o : List W3) (x : Int) : List.take o.length (Rt o) ++ [[i64 x]] = Rt (o ++ [⟨x⟩]) := by
  rw [List.take_of_length_le (by simp)]; simp
theorem rt_len (o : List W3) : (Rt o).length = o.length := by simp

theorem tapes_loop (k : Int) : ∀ (m n : Nat) (o : List W3), o.length + m = 60 → m < n → ∃ o' : List W3, L26_0 n k o.length o.length (Rt o) = some (.e0 o'.length (Rt o')) ∧ o'.length = 60
  | _, 0, _, _, h => by omega
  | 0, n + 1, o, h, _ => ⟨o, by rw [L26_0, if_neg (by omega)], by omega⟩
  | m + 1, n + 1, o, h, hn => by
    have ih := tapes_loop k m n (o ++ [⟨Int.tmod (w64 (w64 (w64 (w64 ((o.length : Int) * o.length) * 11) + w64 (k * 19)) + w64 (o.length * k))) 103⟩]) (by simp; omega) (by omega)
    rw [List.length_append, List.length_singleton] at ih
    rw [L26_0, if_pos (by omega), if_pos (by rw [rt_len]; omega), pusht, w64_in (n := (o.length : Int) + 1) (by omega) (by omega)]
    exact ih
theorem tapes_ex (k : Int) : ∃ o : List W3, F26 k = some (.a0 o.length 0 (Rt o)) ∧ o.length = 60 := by
  obtain ⟨o, h, ho⟩ := tapes_loop k 60 18446744073709551616 [] (by simp) (by omega)
  have h' : L26_0 18446744073709551616 k 0 0 [] = some (.e0 o.length (Rt o)) := h
  exact ⟨o, by unfold F26; rw [h']; rfl, ho⟩

theorem polyB_loop (tape : List W3) (hl : (tape.length : Int) ≤ 9223372036854775807) (c : Bool) : ∀ (m k : Nat) (o : List W43) (s : Int), 0 ≤ s → (∀ p ∈ o, okp p) → o.length + 2 * m ≤ 12 → m < k →
    ∃ (o' : List W43) (s' : Int), L15v1_0 k m tape.length s (Rt tape) c o.length (Rw o) = some (.e0 tape.length s' (Rt tape) c o'.length (Rw o')) ∧ (∀ p ∈ o', okp p) ∧ o'.length ≤ 12 ∧ 0 ≤ s'
  | _, 0, _, _, _, _, _, hk => by omega
  | 0, k + 1, o, s, hs, hp, hn, hk => ⟨o, s, by rw [L15v1_0, if_neg (by omega)], hp, by omega, hs⟩
  | m + 1, k + 1, o, s, hs, hp, hn, hk => by
    obtain ⟨x, s1, e1, x1, x2, p1⟩ := numberB tape s hs hl
    obtain ⟨y, s2, e2, y1, y2, p2⟩ := numberB tape s1 p1 hl
    obtain ⟨v, s3, e3, v1, v2, p3⟩ := nextB tape s2 6 p2 hl (by decide)
    have hq : okp (⟨x, y⟩ : W43) := ⟨x1, x2, y1, y2⟩
    have hp1 : ∀ p ∈ o ++ [(⟨x, y⟩ : W43)], okp p := fun p h => by
      rw [List.mem_append, List.mem_singleton] at h; rcases h with h | rfl
      · exact hp p h
      · exact hq
    have hp2 : ∀ p ∈ o ++ [(⟨x, y⟩ : W43)] ++ [(⟨x, y⟩ : W43)], okp p := fun p h => by
      rw [List.mem_append, List.mem_singleton] at h; rcases h with h | rfl
      · exact hp1 p h
      · exact hq
    have n1 : (o ++ [(⟨x, y⟩ : W43)]).length = o.length + 1 := by simp
    have n2 : (o ++ [(⟨x, y⟩ : W43)] ++ [(⟨x, y⟩ : W43)]).length = o.length + 1 + 1 := by simp
    have hw : w64 (((m + 1 : Nat) : Int) - 1) = (m : Int) := by rw [w64_in (by omega) (by omega)]; omega
    have i1 := polyB_loop tape hl c m k (o ++ [(⟨x, y⟩ : W43)]) s3 p3 hp1 (by omega) (by omega)
    have i2 := polyB_loop tape hl c m k (o ++ [(⟨x, y⟩ : W43)] ++ [(⟨x, y⟩ : W43)]) s3 p3 hp2 (by omega) (by omega)
    rw [n1] at i1; rw [n2] at i2
    have ht2 := push2 (o ++ [(⟨x, y⟩ : W43)]) x y
    rw [n1] at ht2
    rw [L15v1_0, if_pos (by omega), e1, Option.bind_some]
    simp only []
    rw [e2, Option.bind_some]
    simp only []
    rw [if_pos (by rw [rw_len]; omega), e3, Option.bind_some]
    simp only []
    rw [hw, push2]
    by_cases h0 : v = 0
    · rw [if_pos (by rw [beq_iff_eq]; exact h0), if_pos (by rw [rw_len, n1]; omega), ht2]; exact i2
    · rw [if_neg (by rw [beq_iff_eq]; exact h0)]; exact i1
theorem polyB_ex (tape : List W3) (hl : (tape.length : Int) ≤ 9223372036854775807) (s0 : Int) (hs : 0 ≤ s0) : ∃ (c : Bool) (o : List W43) (s : Int), F15v1 tape.length s0 (Rt tape) = some (.a0 c o.length tape.length s (Rt tape) (Rw o)) ∧ (∀ p ∈ o, okp p) ∧ o.length ≤ 12 ∧ 0 ≤ s := by
  obtain ⟨v1, s1, e1, l1, u1, p1⟩ := nextB tape s0 2 hs hl (by decide)
  obtain ⟨v2, s2, e2, l2, u2, p2⟩ := nextB tape s1 7 p1 hl (by decide)
  obtain ⟨o, s, h, r1, r2, r3⟩ := polyB_loop tape hl (v1 == 0) v2.toNat 18446744073709551616 [] s2 p2 (by simp) (by simp only [List.length_nil]; omega) (by omega)
  refine ⟨v1 == 0, o, s, ?_, r1, r2, r3⟩
  have e : ((v2.toNat : Nat) : Int) = v2 := by omega
  rw [e] at h
  have h' : L15v1_0 18446744073709551616 v2 tape.length s2 (Rt tape) (v1 == 0) 0 [] = some (.e0 tape.length s (Rt tape) (v1 == 0) o.length (Rw o)) := h
  unfold F15v1
  rw [e1, Option.bind_some]
  simp only []
  rw [e2, Option.bind_some]
  simp only []
  rw [h']; rfl

theorem cap_loop (x w : Int) (i : Int) (c : Bool) {o : List W43} (ho : o.length ≤ 12) : ∀ (m n : Nat) (z : Int), z + m = 3 → -1 ≤ z → m < n → L9_4 n x w z i c o.length (Rw o) = some (.e1 x i c o.length (Rw o))
  | _, 0, _, _, _, h => by omega
  | 0, n + 1, z, h, _, _ => by rw [L9_4, if_neg (by omega)]
  | m + 1, n + 1, z, h, h', hn => by
    rw [L9_4, if_pos (by omega), if_pos (by rw [rw_len]; omega), rw_all, same12 c (by omega), Option.bind_some]
    simp only [Bool.not_true, Bool.false_eq_true, if_false]
    rw [w64_in (by omega) (by omega)]
    exact cap_loop x w i c ho m n (z + 1) (by omega) (by omega) (by omega)
theorem mid_loop (x : Int) (c : Bool) {o : List W43} (ho : o.length ≤ 12) : ∀ (m n i : Nat), i + m = 10 → m < n → L9_2 n x i c o.length (Rw o) = some (.e1 x)
  | _, 0, _, _, h => by omega
  | 0, n + 1, i, h, _ => by rw [L9_2, if_neg (by omega)]
  | m + 1, n + 1, i, h, hn => by
    have hi : i < 10 := by omega
    have g : ∃ v : W2, (([[i64 (-9223372036854775808 : Int)], [i64 (-1 : Int)], [i64 (0 : Int)], [i64 (1 : Int)], [i64 (2 : Int)], [i64 (3 : Int)], [i64 (65536 : Int)], [i64 (196608 : Int)], [i64 (67108864 : Int)], [i64 (9223372036854775807 : Int)]] : List (List V))[i]?).bind W2.dec = some v := by
      have e : ([[i64 (-9223372036854775808 : Int)], [i64 (-1 : Int)], [i64 (0 : Int)], [i64 (1 : Int)], [i64 (2 : Int)], [i64 (3 : Int)], [i64 (65536 : Int)], [i64 (196608 : Int)], [i64 (67108864 : Int)], [i64 (9223372036854775807 : Int)]] : List (List V)) = ([⟨-9223372036854775808⟩, ⟨-1⟩, ⟨0⟩, ⟨1⟩, ⟨2⟩, ⟨3⟩, ⟨65536⟩, ⟨196608⟩, ⟨67108864⟩, ⟨9223372036854775807⟩] : List W2).map W2.cells := rfl
      rw [e, List.getElem?_map, List.getElem?_eq_getElem (by simpa using hi)]
      exact ⟨_, rfl⟩
    obtain ⟨v, g⟩ := g
    have q := cap_loop x v.c0 (i : Int) c ho 4 18446744073709551616 (-1) (by omega) (by omega) (by omega)
    rw [L9_2, if_pos (by omega), if_pos (by omega), show 0 + Int.toNat (i : Int) = i by omega, g, Option.bind_some, q, Option.bind_some]
    simp only []
    rw [w64_in (by omega) (by omega)]
    exact mid_loop x c ho m n (i + 1) (by omega) (by omega)
theorem out_loop : ∀ (m n i : Nat), i + m = 40 → m < n → L9_0 n i = some .e1
  | _, 0, _, _, h => by omega
  | 0, n + 1, i, h, _ => by rw [L9_0, if_neg (by omega)]
  | m + 1, n + 1, i, h, hn => by
    obtain ⟨t, ht, hlt⟩ := tapes_ex (i : Int)
    obtain ⟨c, o, s, hp, _, ho, _⟩ := polyB_ex t (by omega) 0 (by decide)
    have q := mid_loop (i : Int) c ho 10 18446744073709551616 0 (by omega) (by omega)
    rw [show ((0 : Nat) : Int) = 0 by rfl] at q
    rw [L9_0, if_pos (by omega), ht, Option.bind_some]
    simp only []
    rw [hp, Option.bind_some]
    simp only []
    rw [q, Option.bind_some]
    simp only []
    rw [w64_in (by omega) (by omega)]
    exact out_loop m n (i + 1) (by omega) (by omega)
theorem strokeNumbers_plain : F9 = some (.a0 true) := by
  have h := out_loop 40 18446744073709551616 0 (by omega) (by omega)
  rw [show ((0 : Nat) : Int) = 0 by rfl] at h
  have b : F27 true [[i64 9223372036854775807, i64 (-9223372036854775808)], [i64 (-9223372036854775808), i64 0], [i64 536870912, i64 536870912], [i64 (-536870912), i64 1152921504606846976]] 67108864 1 = some (.a0 true) :=
    same12 true (l := [⟨9223372036854775807, -9223372036854775808⟩, ⟨-9223372036854775808, 0⟩, ⟨536870912, 536870912⟩, ⟨-536870912, 1152921504606846976⟩]) (by simp) 67108864 1
  unfold F9
  rw [h, Option.bind_some]
  simp only []
  rw [b, Option.bind_some]
  simp only []
  rw [if_pos trivial, known12]; rfl
theorem strokeNumbers_call : call Try.prog X O0 18446744073709551616 10 9 [] [] = some (.bool true, []) := F9_ok 0 (.a0 true) strokeNumbers_plain
end Go.Proofs.Ytojigbcgmneiiaa.H
