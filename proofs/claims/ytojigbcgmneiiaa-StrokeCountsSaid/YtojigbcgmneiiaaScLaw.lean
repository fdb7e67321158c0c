/- StrokeCounts: how many pieces a stroke has. Plain Lean over what the functions compute. Condition: the tape's length. -/
import Derived.Test.YtojigbcgmneiiaaAlS
import Derived.Test.YtojigbcgmneiiaaSt4
import Derived.Test.YtojigbcgmneiiaaOp3
set_option linter.unusedVariables false
set_option linter.unusedSimpArgs false
namespace Go.Proofs.Ytojigbcgmneiiaa.H
open Go Go.VM
set_option maxRecDepth 100000
theorem count_loop (c : Bool) {l : List W43} (h : ∀ p ∈ l, okp p) (hL : l.length ≤ 60) : ∀ (n i : Nat) (q : List W65), i ≤ ns c l → ns c l < n + i → q.length ≤ i →
    ∃ q' : List W65, L38_0 n q.length (ns c l) i c (Rw l) (R6 q) = some (.e0 q'.length (R6 q')) ∧ (∀ a b : Int, L5_0 n a b q.length i c l.length (Rw l) = some (.e0 a b q'.length c l.length (Rw l))) ∧ q'.length ≤ ns c l
  | 0, i, q, hi, hn, _ => by omega
  | n + 1, i, q, hi, hn, hq => by
    have hl := ns_le c l
    have hr : List.length (Rw l) = l.length := by simp
    by_cases hc : i < ns c l
    · have g : (i : Int) < (ns c l : Int) := by omega
      have hil : i < l.length := by omega
      have hm : (i + 1) % l.length < l.length := Nat.mod_lt _ (by omega)
      have hw : w64 ((i : Int) + 1) = ((i + 1 : Nat) : Int) := wsucc (by omega)
      have hwq : w64 ((q.length : Int) + 1) = ((q.length + 1 : Nat) : Int) := wsucc (by omega)
      obtain ⟨p, r, x, y, d, e1, _, _, _, b1, b2, d1, d2⟩ := side3 c (l := l) (by omega) (i := i) (by omega)
      have e1' := e1
      rw [Z.side_eq c h hL hil] at e1'
      simp only [Option.some.injEq, A54.a0.injEq] at e1'
      obtain ⟨rfl, rfl, rfl, rfl, hd⟩ := e1'
      have dz := Z.dist_zero (Z.aa l i) (Z.bb l i)
      rw [hd] at dz
      have gi := Z.get_gt hil
      have gn := Z.get_gt hm
      have step : ∀ a b : Int, L5_0 (n + 1) a b q.length i c l.length (Rw l) = if (!((Z.aa l i).c0 == (Z.bb l i).c0 && ((Z.aa l i).c1 == (Z.bb l i).c1 && true))) = true then
          L5_0 n a b ((q.length + 1 : Nat) : Int) ((i + 1 : Nat) : Int) c l.length (Rw l) else L5_0 n a b (q.length : Int) ((i + 1 : Nat) : Int) c l.length (Rw l) := fun a b => by
        rw [L5_0, if_pos (by omega), bnd_def, rw_all, sidesB c l (by omega), if_pos g, if_pos (by omega), Nat.zero_add, show Int.toNat (i : Int) = i by omega, gi, Option.bind_some,
          if_neg (by omega), next_eq i _ hil (by omega), if_pos (by omega), Nat.zero_add, show Int.toNat (((i + 1) % l.length : Nat) : Int) = (i + 1) % l.length by omega, gn, Option.bind_some, hw, hwq]
        rfl
      by_cases h0 : d > 0
      · obtain ⟨u, u1, _, u3⟩ := div_at d1 h0 b2
        obtain ⟨v, v1, _, v3⟩ := div_at d2 h0 b2
        have ihp := count_loop c h hL n (i + 1) (q ++ [⟨(Z.aa l i).c0, (Z.aa l i).c1, (Z.bb l i).c0, (Z.bb l i).c1, u, v⟩]) (by omega) (by omega) (by simp; omega)
        rw [List.length_append, List.length_singleton] at ihp
        obtain ⟨q', k1, k2, k3⟩ := ihp
        have p6 : List.take q.length (R6 q) ++ [[i64 (Z.aa l i).c0, i64 (Z.aa l i).c1, i64 (Z.bb l i).c0, i64 (Z.bb l i).c1, i64 u, i64 v]] = R6 (q ++ [⟨(Z.aa l i).c0, (Z.aa l i).c1, (Z.bb l i).c0, (Z.bb l i).c1, u, v⟩]) := by
          rw [List.take_of_length_le (by simp)]; simp
        refine ⟨q', ?_, fun a b => ?_, k3⟩
        · rw [L38_0, if_pos g, e1, Option.bind_some]
          dsimp only
          rw [if_pos h0, u1, Option.bind_some]
          dsimp only
          rw [v1, Option.bind_some]
          dsimp only
          rw [if_pos (by simp; omega), p6, hw]
          exact k1
        · rw [step, if_pos]
          · exact k2 a b
          · have : ¬ ((Z.aa l i).c0 = (Z.bb l i).c0 ∧ (Z.aa l i).c1 = (Z.bb l i).c1) := fun hh => by have := dz.2 hh; omega
            have := Decidable.not_and_iff_or_not.1 this
            simpa using this
      · obtain ⟨q', k1, k2, k3⟩ := count_loop c h hL n (i + 1) q (by omega) (by omega) (by omega)
        have eq := dz.1 (by omega)
        refine ⟨q', ?_, fun a b => ?_, k3⟩
        · rw [L38_0, if_pos g, e1, Option.bind_some]
          dsimp only
          rw [if_neg h0, hw]
          exact k1
        · rw [step, if_neg]
          · exact k2 a b
          · simp [eq.1, eq.2]
    · have g : ¬ (i : Int) < (ns c l : Int) := by omega
      refine ⟨q, by rw [L38_0, if_neg g], fun a b => ?_, by omega⟩
      rw [L5_0, if_pos (by omega), bnd_def, rw_all, sidesB c l (by omega), if_neg g]
theorem mask_w (a : Int) : ∃ v : Int, w64 (2 + w64 (↑(BitVec.toNat (BitVec.ofInt (IntKind.bits IntKind.i64) a &&& BitVec.ofInt (IntKind.bits IntKind.i64) 524287)) : Int)) = 2 + v ∧ 0 ≤ v ∧ v ≤ 524287 := by
  have hb : BitVec.toNat (BitVec.ofInt (IntKind.bits IntKind.i64) a &&& BitVec.ofInt (IntKind.bits IntKind.i64) 524287) ≤ 524287 := by
    rw [BitVec.toNat_and]
    exact Nat.le_trans Nat.and_le_right (by decide)
  generalize BitVec.toNat (BitVec.ofInt (IntKind.bits IntKind.i64) a &&& BitVec.ofInt (IntKind.bits IntKind.i64) 524287) = m at hb
  refine ⟨(m : Int), ?_, by omega, by omega⟩
  rw [w64_in (n := (m : Int)) (by omega) (by omega), w64_in (by omega) (by omega)]
theorem thin (c : Bool) {l : List W43} (hL : l.length ≤ 60) (z : Int) : F16 c (Rw l) 1 z = some (.a0 0 []) := by
  unfold F16
  rw [bnd_def, if_pos (by decide)]
theorem strokeCounts_plain (tape : List W3) (hl : (tape.length : Int) ≤ 9223372036854775807) (a b : Int) : F5 (Rt tape) a b = some (.a0 true) := by
  obtain ⟨c, l, s, e, hp, hL, _⟩ := poly_ex tape hl 0 (by decide)
  obtain ⟨q, k1, k2, k3⟩ := count_loop c hp (by omega) 18446744073709551616 0 [] (by omega) (by have := ns_le c l; omega) (by simp)
  have hns := ns_le c l
  have k2' := k2 a b
  rw [List.length_nil] at k1 k2'
  rw [show ((0 : Nat) : Int) = 0 by rfl] at k1 k2'
  have k1' : L38_0 18446744073709551616 0 (ns c l) 0 c (Rw l) [] = some (.e0 q.length (R6 q)) := k1
  have hF : F38 c (Rw l) = some (.a0 q.length (R6 q)) := by
    unfold F38
    rw [bnd_def, show F53 c (Rw l) = (ns c l : Int) from ?_, k1', Option.bind_some]
    have := sidesB c l (by omega)
    rw [← this]
    have hr : List.length (Rw l) = l.length := by simp
    unfold F53 F21
    rw [hr]
    by_cases h2 : (l.length : Int) < 2
    · rw [if_pos h2, if_neg (show ¬ (l.length : Int) ≥ 2 by omega), w64_in (n := (l.length : Int) - 1) (by omega) (by omega), if_neg (show ¬ (l.length : Int) - 1 > 0 by omega)]
      split <;> rfl
    · rw [if_neg h2, if_pos (show (l.length : Int) ≥ 2 by omega), w64_in (n := (l.length : Int) - 1) (by omega) (by omega), if_pos (show (l.length : Int) - 1 > 0 by omega)]
  obtain ⟨v, hv, v0, v1⟩ := mask_w a
  have hr : List.length (Rw l) = l.length := by simp
  have hthin := thin c (l := l) (by omega) b
  have main : ∀ z : Int, ∃ Q : List W25, F16 c (Rw l) (2 + v) z = some (.a0 Q.length (Rp Q)) ∧ Q.length = cnt c q.length := fun z => by
    obtain ⟨Q, s1, _, _, _, _, s6⟩ := stroke2 c (l := l) (by omega) (2 + v) z
    have hcl : cl (Int.fdiv (2 + v) 2) 0 67108864 = (2 + v) / 2 := by
      rw [Int.fdiv_eq_ediv_of_nonneg _ (by decide), cl_of (by omega) (by omega)]
    obtain ⟨q2, f1, f2⟩ := s6 (by rw [hcl]; omega)
    rw [hF] at f1
    simp only [Option.some.injEq, A38.a0.injEq] at f1
    exact ⟨Q, s1, by rw [f2, ← f1.1]⟩
  unfold F5
  rw [e, Option.bind_some]
  dsimp only
  rw [k2', Option.bind_some]
  dsimp only
  simp only [rw_all, hv]
  obtain ⟨Q, m1, m2⟩ := main (w64 (↑(BitVec.toNat (BitVec.ofInt (IntKind.bits IntKind.i64) b &&& BitVec.ofInt (IntKind.bits IntKind.i64) 1)) : Int))
  unfold cnt at m2
  have w1 : q.length > 0 → w64 ((q.length : Int) + w64 (2 * w64 ((q.length : Int) - 1))) = ((q.length + 2 * (q.length - 1) : Nat) : Int) := fun hq => by
    rw [w64_in (n := (q.length : Int) - 1) (by omega) (by omega), w64_in (n := 2 * ((q.length : Int) - 1)) (by omega) (by omega), w64_in (by omega) (by omega)]; omega
  rw [m1, Option.bind_some, hthin, known12]
  by_cases hq : (q.length : Int) > 0
  · rw [if_pos hq]
    by_cases hcc : c = true
    · subst hcc
      rw [if_pos rfl]
      by_cases h2 : (q.length : Int) ≥ 2
      · rw [if_pos h2, if_pos (by omega)]
        rw [if_pos ⟨rfl, by omega⟩] at m2
        dsimp only
        rw [if_pos, Option.bind_some]
        · rfl
        · rw [w1 (by omega), beq_iff_eq, m2, w64_in (by omega) (by omega)]; omega
      · rw [if_neg h2, if_pos (by omega)]
        rw [if_neg (fun h => h2 (by omega))] at m2
        rw [Option.bind_some]; dsimp only
        rw [if_pos, Option.bind_some]
        · rfl
        · rw [w1 (by omega), beq_iff_eq, m2]; omega
    · rw [if_neg hcc, if_pos (by omega)]
      rw [if_neg (fun h => hcc h.1)] at m2
      rw [Option.bind_some]; dsimp only
      rw [if_pos, Option.bind_some]
      · rfl
      · rw [w1 (by omega), beq_iff_eq, m2]; omega
  · rw [if_neg hq, if_pos (by omega)]
    rw [if_neg (fun h => hq (by omega))] at m2
    rw [Option.bind_some]; dsimp only
    rw [if_pos, Option.bind_some]
    · rfl
    · rw [beq_iff_eq, m2]; omega
theorem strokeCounts_call {xs : List (List V)} (hl : xs.length ≤ maxLen ∧ xs.length * 8 ≤ reachBytes) (g : ∀ x ∈ xs, x.length = 1 ∧ pred3 x) (a b : Int) :
    call Try.prog X O0 18446744073709551616 10 5 [.list 1 xs, .int .i64 a, .int .i64 b] [] = some (.bool true, []) := by
  obtain ⟨ks, rfl, _⟩ := rows3 g
  have hl1 := hl.1
  unfold maxLen at hl1
  simp only [List.length_map] at hl1
  exact F5_ok 0 (Rt ks) a b (.a0 true) (strokeCounts_plain ks (by omega) a b)
end Go.Proofs.Ytojigbcgmneiiaa.H
