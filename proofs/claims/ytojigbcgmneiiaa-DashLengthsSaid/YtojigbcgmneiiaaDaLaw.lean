/- Lines are dashed by the program as by the document: plain Lean over what the functions compute. Conditions: those stated. -/
import Derived.Test.YtojigbcgmneiiaaPoD
set_option linter.unusedVariables false
set_option linter.unusedSimpArgs false
namespace Go.Proofs.Ytojigbcgmneiiaa.H
open Go Go.VM
set_option maxRecDepth 100000
abbrev Rl (ks : List W2) : List (List V) := ks.map W2.cells
theorem rl_len (o : List W2) : (Rl o).length = o.length := by simp
theorem rl_all (o : List W2) : List.take o.length (Rl o) = Rl o := List.take_of_length_le (by simp)
theorem rl_get (ks : List W2) (i : Nat) : ((Rl ks)[i]?).bind W2.dec = ks[i]? := by
  simp only [Rl, List.getElem?_map]
  cases ks[i]? <;> rfl
theorem pushl (o : List W2) (x : Int) : List.take o.length (Rl o) ++ [[i64 x]] = Rl (o ++ [⟨x⟩]) := by
  rw [List.take_of_length_le (by simp)]; simp
/-- A number that may be a dash's. -/
def bad (x : Int) : Bool := if x < 65536 then true else decide (x > 67108864)
theorem right_loop (ls : List W2) (hL : (ls.length : Int) ≤ 9223372036854775807) : ∀ (n i : Nat), i ≤ ls.length → ls.length < n + i →
    (L43_0 n (Rl ls) i = some (.e2 (Rl ls)) ∧ L74_0 n (Rl ls) ls.length i = some .e1) ∨ ((L43_0 n (Rl ls) i = some .e0 ∨ L43_0 n (Rl ls) i = some .e1) ∧ ∃ z, 0 ≤ z ∧ L74_0 n (Rl ls) ls.length i = some (.e0 z))
  | 0, i, hi, hn => by omega
  | n + 1, i, hi, hn => by
    rw [L43_0, L74_0]
    simp only [rl_len]
    by_cases hc : i < ls.length
    · have g1 : (i : Int) < (ls.length : Int) := by omega
      have g2 : (0 : Int) ≤ (i : Int) := by omega
      simp only [if_pos g1, if_pos g2, show Int.toNat (i : Int) = i by omega, rl_get, List.getElem?_eq_getElem hc, Option.bind_some, bnd_def]
      by_cases h1 : ls[i].c0 < 65536
      · have hb : F52 ls[i].c0 = true := by unfold F52; rw [if_pos h1]
        rw [if_pos h1, hb]
        exact .inr ⟨.inl rfl, _, g2, by simp⟩
      · rw [if_neg h1]
        by_cases h2 : ls[i].c0 > 67108864
        · have hb : F52 ls[i].c0 = true := by unfold F52; rw [if_neg h1]; simpa using h2
          rw [if_pos h2, hb]
          exact .inr ⟨.inr rfl, _, g2, by simp⟩
        · have hb : F52 ls[i].c0 = false := by unfold F52; rw [if_neg h1]; simpa using h2
          have hw : w64 ((i : Int) + 1) = ((i + 1 : Nat) : Int) := by rw [w64_in (by omega) (by omega)]; omega
          rw [if_neg h2, hb, hw]
          simp only [Bool.false_eq_true, if_false]
          exact right_loop ls hL n (i + 1) (by omega) (by omega)
    · have g1 : ¬ (i : Int) < (ls.length : Int) := by omega
      rw [if_neg g1, if_neg g1]
      exact .inl ⟨rfl, rfl⟩
theorem right2 (ls : List W2) (hL : (ls.length : Int) ≤ 9223372036854775807) : ∃ b : Bool, F30 (Rl ls) = some (.a0 b) ∧ F43 (Rl ls) = some (.a0 b) ∧ (b = true → ls.length ≤ 8) := by
  have h := right_loop ls hL 18446744073709551616 0 (by omega) (by omega)
  rw [show ((0 : Nat) : Int) = 0 by rfl] at h
  unfold F30 F43 F51 F74
  simp only [rl_len]
  rcases h with ⟨h1, h2⟩ | ⟨h1, z, hz, h2⟩
  · rw [h1, h2]
    by_cases h8 : (ls.length : Int) ≤ 8
    · refine ⟨true, ?_, ?_, fun _ => by omega⟩
      · rw [if_pos h8]; rfl
      · simp only [Option.bind_some, rl_len]; rw [decide_eq_true h8]
    · refine ⟨false, ?_, ?_, fun h => by cases h⟩
      · rw [if_neg h8]
      · simp only [Option.bind_some, rl_len]; rw [decide_eq_false h8]
  · refine ⟨false, ?_, ?_, fun h => by cases h⟩
    · by_cases h8 : (ls.length : Int) ≤ 8
      · rw [if_pos h8, h2]; simp only [Option.bind_some]; rw [decide_eq_true (show z ≥ 0 from hz)]; rfl
      · rw [if_neg h8]
    · rcases h1 with h1 | h1 <;> rw [h1] <;> rfl
theorem pushp (q : List W25) (b : Bool) (o : List (List V)) : List.take q.length (Rp q) ++ [[vb b, V.list 2 o]] = Rp (q ++ [⟨b, o⟩]) := by
  rw [List.take_of_length_le (by simp)]; simp
theorem dash_loop (c : Bool) {p : List W43} (hp : p.length ≤ 8796093022207) {ls : List W2} (h0 : 0 < ls.length) (hl : ls.length ≤ 8) (N : Int) : ∀ (n i : Nat) (at_ : Int) (q : List W25), i ≤ 128 → 128 < n + i → q.length ≤ i → (∀ x ∈ q, Gd x) →
    ∃ q' : List W25, ((L12_0 n (Rl ls) q.length N at_ i c (Rw p) (Rp q) = some (.e0 q'.length (Rp q')) ∧ L44_0 n (Rl ls) q.length N at_ i c (Rw p) (Rp q) = some (.e0 q'.length (Rp q'))) ∨
      (L12_0 n (Rl ls) q.length N at_ i c (Rw p) (Rp q) = some (.e1 q'.length (Rp q')) ∧ L44_0 n (Rl ls) q.length N at_ i c (Rw p) (Rp q) = some (.e1 q'.length (Rp q')))) ∧ (∀ x ∈ q', Gd x) ∧ q'.length ≤ 128
  | 0, i, at_, q, hi, hn, _, _ => by omega
  | n + 1, i, at_, q, hi, hn, hq, hg => by
    rw [L12_0, L44_0]
    simp only [rl_len]
    by_cases c1 : (i : Int) < 128
    · by_cases c2 : at_ < N
      · have hm : Int.tmod (i : Int) (ls.length : Int) = ((i % ls.length : Nat) : Int) := by rw [Int.tmod_eq_emod_of_nonneg (by omega), Int.natCast_emod]
        have hlt : i % ls.length < ls.length := Nat.mod_lt _ h0
        have g0 : ¬ (ls.length : Int) = 0 := by omega
        have g1 : (0 : Int) ≤ ((i % ls.length : Nat) : Int) := by omega
        have hw : w64 ((i : Int) + 1) = ((i + 1 : Nat) : Int) := by rw [w64_in (by omega) (by omega)]; omega
        obtain ⟨o, e1, e2, e3⟩ := part2 c hp at_ (w64 (at_ + (ls[i % ls.length]).c0))
        have ih := dash_loop c hp h0 hl N n (i + 1) (w64 (at_ + (ls[i % ls.length]).c0)) q (by omega) (by omega) (by omega) hg
        have ihp := dash_loop c hp h0 hl N n (i + 1) (w64 (at_ + (ls[i % ls.length]).c0)) (q ++ [⟨false, Rw o⟩]) (by omega) (by omega) (by simp; omega) (fun x hx => by
          rw [List.mem_append, List.mem_singleton] at hx
          rcases hx with hx | rfl
          · exact hg x hx
          · exact ⟨o, rfl, by omega⟩)
        rw [List.length_append, List.length_singleton] at ihp
        simp only [if_pos c1, if_pos c2, if_neg g0, hm, if_pos g1, show Int.toNat ((i % ls.length : Nat) : Int) = i % ls.length by omega, rl_get, List.getElem?_eq_getElem hlt, Option.bind_some, e1, e2, hw, rw_len, rw_all, Nat.zero_add, Nat.le_refl, if_true, pushp, rp_len, true_and]
        by_cases c3 : (Int.tmod (i : Int) 2 == 0) = true
        · rw [if_pos c3, if_pos c3]
          by_cases c4 : (o.length : Int) ≥ 2
          · have hr : (q.length + 1) * 32 ≤ 140737488355328 ∧ q.length + 1 ≤ 140737488355328 := by omega
            rw [if_pos c4, if_pos c4, if_pos hr, if_pos hr]; exact ihp
          · rw [if_neg c4, if_neg c4]; exact ih
        · rw [if_neg c3, if_neg c3]; exact ih
      · rw [if_pos c1, if_pos c1, if_neg c2, if_neg c2]
        exact ⟨q, .inl ⟨rfl, rfl⟩, hg, by omega⟩
    · rw [if_neg c1, if_neg c1]
      exact ⟨q, .inr ⟨rfl, rfl⟩, hg, by omega⟩
theorem dash2 (c : Bool) {p : List W43} (hp : p.length ≤ 8796093022207) (ls : List W2) (hL : (ls.length : Int) ≤ 9223372036854775807) : ∃ q : List W25, F12 c (Rw p) (Rl ls) = some (.a0 q.length (Rp q)) ∧ F44 c (Rw p) (Rl ls) = some (.a0 q.length (Rp q)) ∧ (∀ x ∈ q, Gd x) ∧ q.length ≤ 128 := by
  obtain ⟨b, r1, r2, hb⟩ := right2 ls hL
  have c31 : F31 (Rw p) = some (.a0 (Rw p)) := by unfold F31; rw [if_pos (by rw [rw_len]; omega)]
  have c66 : F66 c (Rw p) = some (.a0 c p.length (Rw p)) := by
    unfold F66; rw [if_pos (by rw [rw_len]; omega), rw_len, Nat.zero_add, List.nil_append]
  have whole : (∀ x ∈ ([⟨c, Rw p⟩] : List W25), Gd x) := fun x hx => by rw [List.mem_singleton.1 hx]; exact ⟨p, rfl, by omega⟩
  have tk : List.take p.length (Rw p) = Rw p := rw_all p
  unfold F12 F44
  simp only [rl_len, c31, c66, Option.bind_some, Nat.zero_add, Nat.le_refl, if_true, rw_len, tk, r1, r2]
  by_cases h0 : ((ls.length : Int) == 0) = true
  · rw [if_pos h0, if_pos h0]
    exact ⟨[⟨c, Rw p⟩], rfl, rfl, whole, by simp⟩
  · rw [if_neg h0, if_neg h0]
    cases b with
    | false =>
      simp only [Bool.not_false, if_true]
      exact ⟨[⟨c, Rw p⟩], rfl, rfl, whole, by simp⟩
    | true =>
      rw [beq_iff_eq] at h0
      obtain ⟨N, n1, n2⟩ := length2 c hp
      obtain ⟨q, hq, g1, g2⟩ := dash_loop c hp (ls := ls) (by omega) (hb rfl) N 18446744073709551616 0 0 [] (by omega) (by omega) (by simp) (by simp)
      rw [show ((0 : Nat) : Int) = 0 by rfl] at hq
      simp only [List.length_nil, List.map_nil] at hq
      simp only [Bool.not_true, Bool.false_eq_true, if_false, n1, n2, Option.bind_some]
      refine ⟨q, ?_, ?_, g1, g2⟩
      · rcases hq with ⟨h1, _⟩ | ⟨h1, _⟩ <;> rw [h1] <;> rfl
      · rcases hq with ⟨_, h1⟩ | ⟨_, h1⟩ <;> rw [h1] <;> rfl
/-- Chapter 11, of any line. -/
theorem same11 (c : Bool) {p : List W43} (hp : p.length ≤ 8796093022207) (ls : List W2) (hL : (ls.length : Int) ≤ 9223372036854775807) : F23 c (Rw p) (Rl ls) = some (.a0 true) := by
  obtain ⟨b, r1, r2, _⟩ := right2 ls hL
  obtain ⟨q, e1, e2, e3, e4⟩ := dash2 c hp ls hL
  unfold F23
  simp only [r1, r2, Option.bind_some, beq_self_eq_true, if_true, e1, e2, rp_len, Nat.zero_add, Nat.le_refl, rp_all, polys_same q e3 (by omega)]
theorem known11 : F14 = some (.a0 true) := by kernel_rfl
theorem some_loop (ls : List W2) (hl : ls.length ≤ 10) (cr : Bool) (raw : List (List V)) (c : Bool) {o : List W43} : ∀ (n i : Nat) (q : List W2), i ≤ ls.length → ls.length < n + i → q.length = i → i ≤ 8 →
    ∃ q' : List W2, q'.length ≤ 8 ∧ (L7_0 n (Rl ls) q.length i cr raw c o.length (Rl q) (Rw o) = some (.e0 (Rl ls) q'.length cr raw c o.length (Rl q') (Rw o)) ∨ L7_0 n (Rl ls) q.length i cr raw c o.length (Rl q) (Rw o) = some (.e1 (Rl ls) q'.length cr raw c o.length (Rl q') (Rw o)))
  | 0, i, q, hi, hn, _, _ => by omega
  | n + 1, i, q, hi, hn, hq, h8 => by
    rw [L7_0]
    simp only [rl_len]
    by_cases hc : i < ls.length
    · by_cases c8 : i < 8
      · have g1 : (i : Int) < (ls.length : Int) := by omega
        have g2 : (0 : Int) ≤ (i : Int) := by omega
        have g3 : (i : Int) < 8 := by omega
        have hw : w64 ((i : Int) + 1) = ((i + 1 : Nat) : Int) := by rw [w64_in (by omega) (by omega)]; omega
        simp only [if_pos g1, if_pos g2, if_pos g3, show Int.toNat (i : Int) = i by omega, rl_get, List.getElem?_eq_getElem hc, Option.bind_some, hw, pushl]
        rw [if_pos (by omega)]
        have := some_loop ls hl cr raw c (o := o) n (i + 1) (q ++ [⟨w64 (65536 + w64 (↑(BitVec.toNat (BitVec.ofInt (IntKind.bits IntKind.i64) ls[i].c0 &&& BitVec.ofInt (IntKind.bits IntKind.i64) 262143)) : Int))⟩]) (by omega) (by omega) (by simp; omega) (by omega)
        rw [List.length_append, List.length_singleton] at this
        exact this
      · rw [if_pos (by omega), if_neg (by omega)]
        exact ⟨q, by omega, .inl rfl⟩
    · rw [if_neg (by omega)]
      exact ⟨q, by omega, .inr rfl⟩
theorem dashTells_plain (tape : List W3) (hl : (tape.length : Int) ≤ 9223372036854775807) (ls : List W2) (hL : (ls.length : Int) ≤ 9223372036854775807) (cr : Bool) (raw : List W43) (hr : (raw.length : Int) ≤ 9223372036854775807) : F7 (Rt tape) (Rl ls) cr (Rw raw) = some (.a0 true) := by
  obtain ⟨c, o, s, hp, _, ho, _⟩ := poly_ex tape hl 0 (by decide)
  have ht : List.take 10 (Rl ls) = Rl (ls.take 10) := by simp [Rl, List.map_take]
  have hq : List.take 8 (Rw raw) = Rw (raw.take 8) := by simp [Rw, List.map_take]
  have sm : ∀ (c : Bool) (p : List W43) (ls : List W2), p.length ≤ 60 → ls.length ≤ 20 → F23 c (Rw p) (Rl ls) = some (.a0 true) := fun c p ls h1 h2 => same11 c (by omega) ls (by omega)
  unfold F7
  rw [hp, Option.bind_some]
  simp only [rl_len, ht]
  -- behind the loop
  have fin : ∀ (ls : List W2), ls.length ≤ 10 → ∃ q : List W2, q.length ≤ 8 ∧ (L7_0 18446744073709551616 (Rl ls) 0 0 cr (Rw raw) c o.length [] (Rw o) = some (.e0 (Rl ls) q.length cr (Rw raw) c o.length (Rl q) (Rw o)) ∨ L7_0 18446744073709551616 (Rl ls) 0 0 cr (Rw raw) c o.length [] (Rw o) = some (.e1 (Rl ls) q.length cr (Rw raw) c o.length (Rl q) (Rw o))) := fun ls h => by
    have := some_loop ls h cr (Rw raw) c (o := o) 18446744073709551616 0 [] (by omega) (by omega) rfl (by omega)
    exact this
  have rest : ∀ (ls q : List W2), ls.length ≤ 10 → q.length ≤ 8 → (if (raw.length : Int) > 8 then
      if (0 : Int) ≤ 0 ∧ (0 : Int) ≤ 8 ∧ (8 : Int) ≤ (raw.length : Int) then
        (F23 c (Rw o) (Rl q)).bind fun r => match r with | .a0 b => if b = true then (F23 c (Rw o) (Rl ls)).bind fun r => match r with | .a0 b => if b = true then (F23 cr (Rw (raw.take 8)) (Rl q)).bind fun r => match r with | .a0 b => if b = true then F14.bind fun r => match r with | .a0 b => some (A7.a0 b) else none else none else none
      else none
      else (F23 c (Rw o) (Rl q)).bind fun r => match r with | .a0 b => if b = true then (F23 c (Rw o) (Rl ls)).bind fun r => match r with | .a0 b => if b = true then (F23 cr (Rw raw) (Rl q)).bind fun r => match r with | .a0 b => if b = true then F14.bind fun r => match r with | .a0 b => some (A7.a0 b) else none else none else none) = some (.a0 true) := by
    intro ls q h1 h2
    by_cases h8 : (raw.length : Int) > 8
    · rw [if_pos h8, if_pos (by omega)]
      simp only [sm c o q (by omega) (by omega), sm c o ls (by omega) (by omega), sm cr (raw.take 8) q (by rw [List.length_take]; omega) (by omega), Option.bind_some, if_true, known11]
    · rw [if_neg h8]
      simp only [sm c o q (by omega) (by omega), sm c o ls (by omega) (by omega), sm cr raw q (by omega) (by omega), Option.bind_some, if_true, known11]
  by_cases h10 : (ls.length : Int) > 10
  · rw [if_pos h10, if_pos (by omega)]
    have h1 : (ls.take 10).length ≤ 10 := by rw [List.length_take]; omega
    obtain ⟨q, hq8, h⟩ := fin (ls.take 10) h1
    have := rest (ls.take 10) q h1 hq8
    rcases h with h | h <;> rw [h] <;> simp only [Option.bind_some, rw_len, rl_len, Nat.zero_add, Nat.le_refl, if_true, rw_all, rl_all, hq] <;> exact this
  · rw [if_neg h10]
    obtain ⟨q, hq8, h⟩ := fin ls (by omega)
    have := rest ls q (by omega) hq8
    rcases h with h | h <;> rw [h] <;> simp only [Option.bind_some, rw_len, rl_len, Nat.zero_add, Nat.le_refl, if_true, rw_all, rl_all, hq] <;> exact this
end Go.Proofs.Ytojigbcgmneiiaa.H
