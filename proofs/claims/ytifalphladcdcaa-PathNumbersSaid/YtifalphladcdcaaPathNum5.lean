/- PathNumbers in plain Lean. Conditions: those stated. -/
import Derived.Test.YtifalphladcdcaaPathLaw5
import Derived.Test.YtifalphladcdcaaVmAR
set_option linter.unusedVariables false
set_option linter.unusedSimpArgs false
namespace Go.Proofs.Ytifalphladcdcaa.H
open Go Go.VM
set_option maxRecDepth 100000
theorem fill_loop (n : Nat) (hn : n ≤ 100) : ∀ (m i : Nat) (ps : List Pt), i ≤ n → n < m + i → ps.length = n →
    ∃ qs : List Pt, L3_2 m (.s0 n n i n (Rp ps)) = some (.e0 n n (Rp qs)) ∧ qs.length = n
  | 0, i, ps, h1, h2, h3 => by omega
  | m + 1, i, ps, h1, h2, h3 => by
    rw [L3_2_s0]
    by_cases h : i < n
    · have hg : i < ps.length := by omega
      simp only [D3_2, PT.ev, PT.test, dite_eq_ite, if_pos (show (i : Int) < (n : Int) by omega), if_pos (show (0 : Int) ≤ (i : Int) ∧ (i : Int) < (n : Int) by omega), Int.toNat_natCast, Nat.zero_add, rp_get, List.getElem?_eq_getElem hg, Option.bind_some, N3_2.nx_s0, wi (show (i : Int) < 9223372036854775807 by omega)]
      have e : List.set (Rp ps) i [i64 (w64 ((i : Int) * 1000)), i64 (w64 (0 - (i : Int)))] = Rp (ps.set i ⟨w64 ((i : Int) * 1000), w64 (0 - (i : Int))⟩) := (List.map_set (f := W26.cells) (a := ⟨w64 ((i : Int) * 1000), w64 (0 - (i : Int))⟩)).symm
      rw [e]
      exact fill_loop n hn m (i + 1) _ h (by omega) (by rw [List.length_set]; exact h3)
    · simp only [D3_2, PT.ev, PT.test, dite_eq_ite, if_neg (show ¬ (i : Int) < (n : Int) by omega), N3_2.nx_e0]
      exact ⟨ps, rfl, h3⟩
def vls : List W2 := [⟨67108864⟩, ⟨67108865⟩, ⟨-67108864⟩, ⟨-67108865⟩, ⟨4611686018427387904⟩]
theorem vls_get (i : Nat) : ([[i64 (67108864 : Int)], [i64 (67108865 : Int)], [i64 (-67108864 : Int)], [i64 (-67108865 : Int)], [i64 (4611686018427387904 : Int)]][i]?).bind W2.dec = vls[i]? := by
  show ((vls.map W2.cells)[i]?).bind _ = _
  rw [List.getElem?_map]
  cases vls[i]? <;> rfl
theorem turn_ex (n : Nat) (hn : n ≤ 100) (v : Int) (i : Int) (b : Bool) (ps : List Pt) (h : ps.length = n) : ∃ qs : List Pt, J3_c49 n v i (decide ((n : Int) > 0)) n b n (Rp ps) (Rp ps) = some (.e0 n v i n b n (Rp ps) (Rp qs)) ∧ qs.length = n := by
  simp only [J3_c49, D3_c49, PT.ev, PT.test, dite_eq_ite]
  by_cases h0 : (n : Int) > 0
  · have hw : w64 (Int.tdiv (n : Int) 2) = ((n / 2 : Nat) : Int) := by rw [Int.tdiv_eq_ediv_of_nonneg (by omega), w64_in (by omega) (by omega)]; omega
    have hg : n / 2 < ps.length := by omega
    simp only [decide_eq_true h0, if_true, hw, if_pos (show (0 : Int) ≤ ((n / 2 : Nat) : Int) ∧ ((n / 2 : Nat) : Int) < (n : Int) by omega), Int.toNat_natCast, Nat.zero_add, rp_get, List.getElem?_eq_getElem hg, Option.bind_some]
    refine ⟨ps.set (n / 2) ⟨ps[n / 2].c0, v⟩, ?_, by rw [List.length_set]; exact h⟩
    have e : List.set (Rp ps) (n / 2) [i64 ps[n / 2].c0, i64 v] = Rp (ps.set (n / 2) ⟨ps[n / 2].c0, v⟩) := (List.map_set (f := W26.cells) (a := ⟨ps[n / 2].c0, v⟩)).symm
    rw [e]
  · simp only [decide_eq_false h0, Bool.false_eq_true, if_false]
    exact ⟨ps, rfl, h⟩
theorem five_loop (n : Nat) (hn : n ≤ 100) (ps : List Pt) (h : ps.length = n) : ∀ (m i : Nat), i ≤ 5 → 5 < m + i → L3_4 m (.s0 n i n (Rp ps)) = some (.e1 n)
  | 0, i, h1, h2 => by omega
  | m + 1, i, h1, h2 => by
    rw [L3_4_s0]
    by_cases hi : i < 5
    · have hg : i < vls.length := hi
      have tk : List.take n (Rp ps) = Rp ps := by rw [← h]; exact take_rp ps
      obtain ⟨qs, e1, e2⟩ := turn_ex n hn vls[i].c0 i (Int.tmod (n : Int) 2 == 0) ps h
      have tq : List.take n (Rp qs) = Rp qs := by rw [← e2]; exact take_rp qs
      simp only [D3_4, PT.ev, PT.test, dite_eq_ite, if_pos (show (i : Int) < 5 by omega), if_pos (show (0 : Int) ≤ (i : Int) ∧ (i : Int) < 5 by omega), Int.toNat_natCast, Nat.zero_add, vls_get, List.getElem?_eq_getElem hg, Option.bind_some, rp_len, h, tk, if_pos (show n ≤ n by omega),
        if_pos (show (0 : Nat) ≤ 0 ∧ n * 16 ≤ 140737488355328 ∧ n ≤ 140737488355328 by omega), List.nil_append, e1, rsame_mat, e2, tq, same_ok _ qs _ ps _ _ _ _ _ _ _ (show (qs.length : Int) * 16 ≤ 140737488355328 by omega), same_ok _ ps _ qs _ _ _ _ _ _ _ (show (ps.length : Int) * 16 ≤ 140737488355328 by omega),
        Bool.not_true, Bool.false_eq_true, if_false, N3_4.nx_s0, wi (show (i : Int) < 9223372036854775807 by omega)]
      exact five_loop n hn ps h m (i + 1) hi (by omega)
    · simp only [D3_4, PT.ev, PT.test, dite_eq_ite, if_neg (show ¬ (i : Int) < 5 by omega), N3_4.nx_e1]
theorem all_loop : ∀ (m n : Nat), n ≤ 101 → 101 < m + n → L3_0 m (.s0 n) = some .e1
  | 0, n, h1, h2 => by omega
  | m + 1, n, h1, h2 => by
    rw [L3_0_s0]
    by_cases hn : n < 101
    · obtain ⟨qs, e1, e2⟩ := fill_loop n (by omega) 18446744073709551616 0 (List.replicate n ⟨0, 0⟩) (by omega) (by omega) (List.length_replicate ..)
      have er : List.replicate n [i64 0, i64 0] = Rp (List.replicate n ⟨0, 0⟩) := by simp only [Rp, List.map_replicate]
      rw [show ((0 : Nat) : Int) = 0 from rfl] at e1
      have e3 := five_loop n (by omega) qs e2 18446744073709551616 0 (by omega) (by omega)
      rw [show ((0 : Nat) : Int) = 0 from rfl] at e3
      simp only [D3_0, PT.ev, PT.test, dite_eq_ite, if_pos (show (n : Int) < 101 by omega), if_pos (show (0 : Int) ≤ (n : Int) ∧ (n : Int) ≤ (n : Int) ∧ (n : Int) ≤ 140737488355328 ∧ (n : Int) * 16 ≤ 140737488355328 by omega), Int.toNat_natCast, er, e1, Option.bind_some, e3, N3_0.nx_s0, wi (show (n : Int) < 9223372036854775807 by omega)]
      exact all_loop m (n + 1) hn (by omega)
    · simp only [D3_0, PT.ev, PT.test, dite_eq_ite, if_neg (show ¬ (n : Int) < 101 by omega), N3_0.nx_e1]
theorem tape_loop (k : Int) : ∀ (m i : Nat) (tape : List W3), i ≤ 60 → 60 < m + i → tape.length = i →
    ∃ tape' : List W3, L3_8 m (.s0 k i i (Rt tape)) = some (.e0 k tape'.length (Rt tape')) ∧ tape'.length = 60
  | 0, i, tape, h1, h2, h3 => by omega
  | m + 1, i, tape, h1, h2, h3 => by
    rw [L3_8_s0]
    have hlen : (Rt tape).length = tape.length := List.length_map ..
    by_cases h : i < 60
    · have hw : w64 ((i : Int) + 1) = ((i + 1 : Nat) : Int) := wi (by omega)
      simp only [D3_8, PT.ev, PT.test, dite_eq_ite, if_pos (show (i : Int) < 60 by omega), hlen, h3, if_pos (show 0 + i ≤ i ∧ (i + 1) * 8 ≤ 140737488355328 ∧ i + 1 ≤ 140737488355328 by omega), N3_8.nx_s0, hw]
      have tk : List.take i (Rt tape) = Rt tape := List.take_of_length_le (by rw [hlen]; omega)
      have e : ∀ x : Int, List.take i (Rt tape) ++ [[i64 x]] = Rt (tape ++ [⟨x⟩]) := fun x => by rw [tk]; simp only [Rt, List.map_append, List.map_cons, List.map_nil]
      rw [e]
      exact tape_loop k m (i + 1) _ h (by omega) (by simp [h3])
    · simp only [D3_8, PT.ev, PT.test, dite_eq_ite, if_neg (show ¬ (i : Int) < 60 by omega), N3_8.nx_e0]
      exact ⟨tape, by rw [h3], by omega⟩
theorem keys_made (tape : List W3) (hl : tape.length = 60) (k t : Int) : ∃ ks : List PK, F11 (List.take tape.length (Rt tape)) k = some (.a0 ks.length (Rk ks)) ∧ F10 (List.take ks.length (Rk ks)) t = some (.a0 true) := by
  obtain ⟨ks, e, l, g⟩ := made_ex tape (by omega) k
  refine ⟨ks, ?_, ?_⟩
  · rw [List.take_of_length_le (by rw [show (Rt tape).length = tape.length from List.length_map ..]; exact Nat.le_refl _)]; exact e
  · rw [List.take_of_length_le (by rw [rk_len]; exact Nat.le_refl _)]; exact keys_ok ks g (by omega) t
theorem ticks_loop (tape : List W3) (hl : tape.length = 60) (k : Int) : ∀ (m i : Nat), i ≤ 20 → 20 < m + i → L3_10 m (.s1 k tape.length i (Rt tape)) = some (.e1 k)
  | 0, i, h1, h2 => by omega
  | m + 1, i, h1, h2 => by
    rw [L3_10_s1]
    by_cases h : i < 20
    · obtain ⟨ks, e1, e2⟩ := keys_made tape hl k i
      simp only [D3_10s1, PT.ev, PT.test, dite_eq_ite, if_pos (show (i : Int) < 20 by omega), show (Rt tape).length = tape.length from List.length_map .., if_pos (show 0 + tape.length ≤ tape.length by omega), e1, Option.bind_some, rk_len, if_pos (show 0 + ks.length ≤ ks.length by omega), e2, Bool.not_true, Bool.false_eq_true, if_false,
        N3_10.nx_s1, wi (show (i : Int) < 9223372036854775807 by omega)]
      exact ticks_loop tape hl k m (i + 1) h (by omega)
    · simp only [D3_10s1, PT.ev, PT.test, dite_eq_ite, if_neg (show ¬ (i : Int) < 20 by omega), N3_10.nx_e1]
theorem runs_loop : ∀ (m k : Nat), k ≤ 30 → 30 < m + k → L3_6 m (.s0 k) = some .e1
  | 0, k, h1, h2 => by omega
  | m + 1, k, h1, h2 => by
    rw [L3_6_s0]
    by_cases h : k < 30
    · obtain ⟨tape, e1, e2⟩ := tape_loop k 18446744073709551616 0 [] (by omega) (by omega) rfl
      rw [show ((0 : Nat) : Int) = 0 from rfl, show Rt [] = [] from rfl] at e1
      obtain ⟨ks, e3, e4⟩ := keys_made tape e2 k (-1)
      have e5 := ticks_loop tape e2 k 18446744073709551615 0 (by omega) (by omega)
      rw [show ((0 : Nat) : Int) = 0 from rfl] at e5
      have e6 : L3_10 18446744073709551616 (.s0 k tape.length (Rt tape)) = some (.e1 k) := by
        have := L3_10_s0 18446744073709551615 k tape.length (Rt tape)
        rw [show (18446744073709551616 : Nat) = 18446744073709551615 + 1 from rfl, this]
        simp only [D3_10, PT.ev, PT.test, dite_eq_ite, show (Rt tape).length = tape.length from List.length_map .., if_pos (show 0 + tape.length ≤ tape.length by omega), e3, Option.bind_some, rk_len, if_pos (show 0 + ks.length ≤ ks.length by omega), e4, Bool.not_true, Bool.false_eq_true, if_false, N3_10.nx_s1]
        exact e5
      simp only [D3_6, PT.ev, PT.test, dite_eq_ite, if_pos (show (k : Int) < 30 by omega), e1, Option.bind_some, e6, N3_6.nx_s0, wi (show (k : Int) < 9223372036854775807 by omega)]
      exact runs_loop m (k + 1) h (by omega)
    · simp only [D3_6, PT.ev, PT.test, dite_eq_ite, if_neg (show ¬ (k : Int) < 30 by omega), N3_6.nx_e1]
theorem pathNumbers_plain : F3 = some (.a0 true) := by
  have h1 := all_loop 18446744073709551616 0 (by omega) (by omega)
  have h2 := runs_loop 18446744073709551616 0 (by omega) (by omega)
  rw [show ((0 : Nat) : Int) = 0 from rfl] at h1 h2
  simp only [F3, D3, PT.ev, PT.test, dite_eq_ite, h1, h2, Option.bind_some, known7]
theorem pathNumbers_call : UU 3 [] [] = some (.bool true, []) := F3_ok (.a0 true) pathNumbers_plain
end Go.Proofs.Ytifalphladcdcaa.H
