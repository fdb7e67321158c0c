/- DashLengths in plain Lean. No condition beyond those stated. -/
import Derived.Test.YtojigbcgmneiiaaDaLaw
import Derived.Test.YtojigbcgmneiiaaPlD
set_option linter.unusedVariables false
set_option linter.unusedSimpArgs false
namespace Go.Proofs.Ytojigbcgmneiiaa.H
open Go Go.VM
set_option maxRecDepth 100000
theorem land18 (a : Int) : w64 (↑(BitVec.toNat (BitVec.ofInt (IntKind.bits IntKind.i64) a &&& BitVec.ofInt (IntKind.bits IntKind.i64) 262143)) : Int) = a % 262144 := and_low .i64 18 (by decide) (fun n h h' => by rw [IntKind.wrap_i64]; omega) a
/-- Dashes, by their places. -/
abbrev Qd (qs : List (List W43)) : List W25 := qs.map fun o => ⟨false, Rw o⟩
noncomputable def tot : List (List W43) → Int
  | [] => 0
  | o :: t => plen o + tot t
theorem tot_snoc (o : List W43) : ∀ qs, tot (qs ++ [o]) = tot qs + plen o
  | [] => by simp [tot]
  | q :: t => by
    have := tot_snoc o t
    simp only [List.cons_append, tot]; omega
/-- A dash that is no longer than it may. -/
structure Dash (x : Int) (o : List W43) : Prop where
  ok : ∀ p ∈ o, okp p
  len : 2 ≤ o.length ∧ o.length ≤ 13
  far : plen o ≤ x + 1392
theorem right_ok {x y : Int} (hx : 65536 ≤ x ∧ x ≤ 67108864) (hy : 65536 ≤ y ∧ y ≤ 67108864) : F30 (Rl [⟨x⟩, ⟨y⟩]) = some (.a0 true) := by
  have b1 : F52 x = false := by unfold F52; rw [if_neg (by omega), decide_eq_false (by omega)]
  have b2 : F52 y = false := by unfold F52; rw [if_neg (by omega), decide_eq_false (by omega)]
  have d1 : ((Rl [⟨x⟩, ⟨y⟩])[Int.toNat 0]?).bind W2.dec = some ⟨x⟩ := rfl
  have d2 : ((Rl [⟨x⟩, ⟨y⟩])[Int.toNat 1]?).bind W2.dec = some ⟨y⟩ := rfl
  have lp : ∀ n, L74_0 (n + 1 + 1 + 1) (Rl [⟨x⟩, ⟨y⟩]) 2 0 = some .e1 := fun n => by
    rw [L74_0, if_pos (by decide), if_pos (by decide), d1, Option.bind_some, bnd_def, b1, if_neg (by decide), show w64 (0 + 1) = 1 by decide, L74_0, if_pos (by decide), if_pos (by decide), d2, Option.bind_some, bnd_def, b2, if_neg (by decide), show w64 (1 + 1) = 2 by decide, L74_0, if_neg (by decide)]
  have lp' := lp 18446744073709551613
  unfold F30 F51 F74
  rw [if_pos (by simp)]
  rw [show ((List.length (Rl [⟨x⟩, ⟨y⟩]) : Nat) : Int) = 2 by rfl, lp']
  rfl
theorem dashes_loop (c : Bool) {l : List W43} (h : ∀ p ∈ l, okp p) (hL : l.length ≤ 12) {x y : Int} (hx : 65536 ≤ x ∧ x ≤ 67108864) (hy : 65536 ≤ y ∧ y ≤ 67108864) : ∀ (n i : Nat) (at_ : Int) (qs : List (List W43)), i ≤ 128 → 128 < n + i → 0 ≤ at_ → at_ ≤ 67108864 * i →
    2 * qs.length ≤ i + 1 → (i % 2 = 0 → 2 * qs.length ≤ i) → (∀ o ∈ qs, Dash x o) → tot qs ≤ mn (sm (ll l) (nsides c l)) at_ + 672 * qs.length →
    ∃ qs' : List (List W43), (L12_0 n (Rl [⟨x⟩, ⟨y⟩]) qs.length (sm (ll l) (nsides c l)) at_ i c (Rw l) (Rp (Qd qs)) = some (.e0 qs'.length (Rp (Qd qs'))) ∨ L12_0 n (Rl [⟨x⟩, ⟨y⟩]) qs.length (sm (ll l) (nsides c l)) at_ i c (Rw l) (Rp (Qd qs)) = some (.e1 qs'.length (Rp (Qd qs')))) ∧
      (∀ o ∈ qs', Dash x o) ∧ qs'.length ≤ 64 ∧ tot qs' ≤ sm (ll l) (nsides c l) + 672 * qs'.length
  | 0, i, at_, qs, hi, hn, _, _, _, _, _, _ => by omega
  | n + 1, i, at_, qs, hi, hn, h0, h1, h2, h2', hq, ht => by
    have hmn : mn (sm (ll l) (nsides c l)) at_ ≤ sm (ll l) (nsides c l) := by unfold mn; split <;> omega
    have hns := nsides_le c l
    have hw := sm_bd (ll_bd l) (nsides c l)
    generalize hW : sm (ll l) (nsides c l) = w at *
    rw [L12_0]
    simp only [rl_len]
    by_cases c1 : (i : Int) < 128
    · by_cases c2 : at_ < w
      · have hi2 : i % 2 = 0 ∨ i % 2 = 1 := by omega
        have hw1 : w64 ((i : Int) + 1) = ((i + 1 : Nat) : Int) := by rw [w64_in (by omega) (by omega)]; omega
        have hm : Int.tmod (i : Int) 2 = ((i % 2 : Nat) : Int) := by rw [Int.tmod_eq_emod_of_nonneg (by omega), Int.natCast_emod]; rfl
        have hl2 : (([⟨x⟩, ⟨y⟩] : List W2).length : Int) = 2 := rfl
        have g0 : ¬ (2 : Int) = 0 := by decide
        have g1 : (0 : Int) ≤ ((i % 2 : Nat) : Int) := by omega
        rw [if_pos c1, if_pos c2, hl2, if_neg g0, hm, if_pos g1, show Int.toNat ((i % 2 : Nat) : Int) = i % 2 by omega, rl_get, hw1]
        rcases hi2 with he | he
        · -- a dash
          rw [he]
          simp only [List.getElem?_cons_zero, Option.bind_some]
          have hax : w64 (at_ + x) = at_ + x := w64_in (by omega) (by omega)
          have pe := part_eq c h (by omega) (f := at_) (t := at_ + x) (by omega) (by omega) (by omega)
          have hlen := pp_len l at_ (at_ + x) (nsides c l)
          have la := laid c h h0 (show at_ < at_ + x by omega) (nsides c l) (Nat.le_refl _)
          have hok := pp_ok h at_ (at_ + x) (nsides c l)
          rw [hax, if_pos (by decide), pe, Option.bind_some]
          simp only []
          have hmn2 : mn w at_ = at_ := by unfold mn; rw [if_pos (by omega)]
          by_cases h3 : ((pp l at_ (at_ + x) (nsides c l)).length : Int) ≥ 2
          · obtain ⟨s1, s2, s3, s4⟩ := la.some (by omega)
            rw [hW] at s1 s3 s4
            have hmt : mn (at_ + x) w = mn w (at_ + x) ∧ mn (at_ + x) w ≤ at_ + x := by unfold mn; split <;> split <;> omega
            have ih := dashes_loop c h hL hx hy n (i + 1) (at_ + x) (qs ++ [pp l at_ (at_ + x) (nsides c l)]) (by omega) (by omega) (by omega) (by omega) (by simp; omega) (by omega) (fun o ho => by
              rw [List.mem_append, List.mem_singleton] at ho
              rcases ho with ho | rfl
              · exact hq o ho
              · exact ⟨hok, ⟨by omega, by omega⟩, by omega⟩) (by
              rw [tot_snoc, hW, List.length_append, List.length_singleton, ← hmt.1]
              omega)
            rw [hW, List.length_append, List.length_singleton] at ih
            have ep : List.take qs.length (Rp (Qd qs)) ++ [[vb false, V.list 2 (Rw (pp l at_ (at_ + x) (nsides c l)))]] = Rp (Qd (qs ++ [pp l at_ (at_ + x) (nsides c l)])) := by
              rw [List.take_of_length_le (by simp)]; simp
            rw [if_pos h3, if_pos (by rw [rw_len]; omega), if_pos (by simp; omega), rw_all, ep]
            exact ih
          · have ih := dashes_loop c h hL hx hy n (i + 1) (at_ + x) qs (by omega) (by omega) (by omega) (by omega) (by omega) (by omega) hq (by
              rw [hW]
              have : mn w at_ ≤ mn w (at_ + x) := by unfold mn; split <;> split <;> omega
              omega)
            rw [hW] at ih
            rw [if_neg h3]
            exact ih
        · -- a gap
          rw [he]
          simp only [List.getElem?_cons_succ, List.getElem?_cons_zero, Option.bind_some]
          have hay : w64 (at_ + y) = at_ + y := w64_in (by omega) (by omega)
          have ih := dashes_loop c h hL hx hy n (i + 1) (at_ + y) qs (by omega) (by omega) (by omega) (by omega) (by omega) (by omega) hq (by
            rw [hW]
            have : mn w at_ ≤ mn w (at_ + y) := by unfold mn; split <;> split <;> omega
            omega)
          rw [hW] at ih
          rw [hay, if_neg (by decide)]
          exact ih
      · rw [if_pos c1, if_neg c2]
        exact ⟨qs, .inl rfl, hq, by omega, by omega⟩
    · rw [if_neg c1]
      exact ⟨qs, .inr rfl, hq, by omega, by omega⟩
theorem sum_loop (x : Int) (hx : 65536 ≤ x ∧ x ≤ 67108864) {qs : List (List W43)} (hq : ∀ o ∈ qs, Dash x o) (h64 : qs.length ≤ 64) (c : Bool) (kk : Nat) (rows : List (List V)) : ∀ (m n i : Nat) (acc : Int), i + m = qs.length → m < n → 0 ≤ acc → acc ≤ 134217728 * i →
    ∃ s, L3_0 n x acc qs.length qs.length i c kk (Rp (Qd qs)) rows = some (.e3 s qs.length c kk rows) ∧ s = acc + tot (qs.drop i)
  | _, 0, _, _, _, h, _, _ => by omega
  | 0, n + 1, i, acc, h, _, h0, h1 => by
    refine ⟨acc, by rw [L3_0, if_neg (by omega)], ?_⟩
    rw [List.drop_eq_nil_of_le (by omega)]; simp [tot]
  | m + 1, n + 1, i, acc, h, hn, h0, h1 => by
    have hi : i < qs.length := by omega
    obtain ⟨d1, ⟨d2, d3⟩, d4⟩ := hq qs[i] (List.getElem_mem hi)
    have hb := plen_bd qs[i]
    have hd : qs.drop i = qs[i] :: qs.drop (i + 1) := List.drop_eq_getElem_cons hi
    have g : ((Rp (Qd qs))[0 + Int.toNat (i : Int)]?).bind W25.dec = some ⟨false, Rw qs[i]⟩ := by
      rw [show 0 + Int.toNat (i : Int) = i by omega, rp_get, List.getElem?_map, List.getElem?_eq_getElem hi]; rfl
    obtain ⟨s, e1, e2⟩ := sum_loop x hx hq h64 c kk rows m n (i + 1) (acc + plen qs[i]) (by omega) (by omega) (by omega) (by omega)
    refine ⟨s, ?_, by rw [e2, hd]; simp only [tot]; omega⟩
    rw [L3_0, if_pos (by omega), if_pos (by omega), g, Option.bind_some]
    simp only []
    rw [plen_eq d1 (by omega), Option.bind_some]
    simp only [Bool.false_eq_true, if_false, rw_len]
    rw [if_neg (by omega), w64_in (n := x + 16384) (by omega) (by omega), if_neg (by omega), w64_in (n := acc + plen qs[i]) (by omega) (by omega), w64_in (n := (i : Int) + 1) (by omega) (by omega)]
    exact e1
theorem dashLengths_plain (tape : List W3) (hl : (tape.length : Int) ≤ 9223372036854775807) (a b : Int) : F3 (Rt tape) a b = some (.a0 true) := by
  obtain ⟨c, l, s, hp, hk, hL, _⟩ := poly_ex tape hl 0 (by decide)
  have hns := nsides_le c l
  have hw := sm_bd (ll_bd l) (nsides c l)
  have le := length_eq c hk (by omega)
  obtain ⟨r, q1, q2⟩ := length2 c (l := l) (by omega)
  have hrn : r = sm (ll l) (nsides c l) := by rw [le] at q1; cases q1; rfl
  rw [hrn] at q2
  unfold F3
  rw [hp, Option.bind_some]
  simp only [rw_len, Nat.zero_add, Nat.le_refl, if_true, rw_all, land18]
  have hx : 65536 ≤ w64 (65536 + a % 262144) ∧ w64 (65536 + a % 262144) ≤ 67108864 := by rw [w64_in (by omega) (by omega)]; omega
  have hy : 65536 ≤ w64 (65536 + b % 262144) ∧ w64 (65536 + b % 262144) ≤ 67108864 := by rw [w64_in (by omega) (by omega)]; omega
  generalize w64 (65536 + a % 262144) = x at *
  generalize w64 (65536 + b % 262144) = y at *
  obtain ⟨qs, e1, e2, e3, e4⟩ := dashes_loop c hk (by omega) hx hy 18446744073709551616 0 0 [] (by omega) (by omega) (by omega) (by omega) (by simp) (by simp) (by simp) (by
    simp only [tot, List.length_nil]
    have : 0 ≤ mn (sm (ll l) (nsides c l)) 0 := by unfold mn; split <;> omega
    omega)
  have hd : F12 c (Rw l) [[i64 x], [i64 y]] = some (.a0 qs.length (Rp (Qd qs))) := by
    have r1 : F30 [[i64 x], [i64 y]] = some (.a0 true) := right_ok hx hy
    unfold F12
    rw [if_neg (by simp), r1, Option.bind_some]
    simp only [Bool.not_true, Bool.false_eq_true, if_false]
    rw [le, Option.bind_some]
    simp only []
    have e1' : L12_0 18446744073709551616 [[i64 x], [i64 y]] 0 (sm (ll l) (nsides c l)) 0 0 c (Rw l) [] = some (.e0 qs.length (Rp (Qd qs))) ∨ L12_0 18446744073709551616 [[i64 x], [i64 y]] 0 (sm (ll l) (nsides c l)) 0 0 c (Rw l) [] = some (.e1 qs.length (Rp (Qd qs))) := e1
    rcases e1' with h | h <;> rw [h] <;> rfl
  rw [hd, Option.bind_some]
  simp only []
  obtain ⟨su, f1, f2⟩ := sum_loop x hx e2 e3 c l.length (Rw l) qs.length 18446744073709551616 0 0 (by omega) (by omega) (by omega) (by omega)
  rw [show ((0 : Nat) : Int) = 0 by rfl] at f1
  rw [List.drop_zero] at f2
  rw [f1, Option.bind_some]
  simp only [rw_len, Nat.le_refl, if_true, rw_all]
  rw [if_pos (by omega), q2, Option.bind_some]
  simp only []
  rw [w64_in (n := sm (ll l) (nsides c l) + 65536) (by omega) (by omega), if_pos (by omega), known11]; rfl
end Go.Proofs.Ytojigbcgmneiiaa.H
