/- DashWhole in plain Lean. No condition beyond those stated. -/
import Derived.Test.YtojigbcgmneiiaaArcZero3
import Derived.Test.YtojigbcgmneiiaaRootSq3
import Derived.Test.YtojigbcgmneiiaaArcTells3
set_option linter.unusedVariables false
set_option linter.unusedSimpArgs false
namespace Go.Proofs.Ytojigbcgmneiiaa.H
open Go Go.VM
set_option maxRecDepth 100000
def okz (p : W43) : Prop := -327680 ≤ p.c0 ∧ p.c0 ≤ 1376256 ∧ -327680 ≤ p.c1 ∧ p.c1 ≤ 1376256
theorem numberz_ex (tape : List W3) (s : Int) (hs : 0 ≤ s) (hl : (tape.length : Int) ≤ 9223372036854775807) : ∃ v s', F29 (-5) 20 (Rt tape) s = some (.a0 v (Rt tape) s') ∧ -327680 ≤ v ∧ v ≤ 1376256 ∧ 0 ≤ s' := by
  obtain ⟨v1, s1, e1, l1, u1, p1⟩ := next_ex tape s 26 hs hl (by decide)
  obtain ⟨v2, s2, e2, l2, u2, p2⟩ := next_ex tape s1 4 p1 hl (by decide)
  obtain ⟨v3, s3, e3, l3, u3, p3⟩ := next_ex tape s2 65536 p2 hl (by decide)
  have hq : w64 (w64 (20 - -5) + 1) = 26 := by decide
  unfold F29
  rw [hq, e1, Option.bind_some]
  simp only []
  rw [e2, Option.bind_some]
  simp only []
  by_cases h0 : v2 = 0
  · refine ⟨(-5 + v1) * 65536 + 32768, s2, ?_, by omega, by omega, p2⟩
    rw [if_pos (by rw [beq_iff_eq]; exact h0)]
    congr 2; simp only [w64_eq]; omega
  · rw [if_neg (by rw [beq_iff_eq]; exact h0)]
    by_cases h1 : v2 = 1
    · refine ⟨(-5 + v1) * 65536 + v3, s3, ?_, by omega, by omega, p3⟩
      rw [if_pos (by rw [beq_iff_eq]; exact h1), e3, Option.bind_some]
      simp only []
      congr 2; simp only [w64_eq]; omega
    · refine ⟨(-5 + v1) * 65536, s2, ?_, by omega, by omega, p2⟩
      rw [if_neg (by rw [beq_iff_eq]; exact h1)]
      congr 2; simp only [w64_eq]; omega
def goPoly (n : Nat) (m : Int) (tape : List W3) (s : Int) (c : Bool) (o : List W43) : Option R11_0 := match o with
  | [] => L11_0 n m (Rt tape) s c
  | x :: xs => L11_0s1 n m (Rt tape) s c (xs.length + 1) (Rw (x :: xs))
def endPoly (tape : List W3) (s : Int) (c : Bool) (o : List W43) : R11_0 := match o with
  | [] => .e0 (Rt tape) s c
  | x :: xs => .e1 (Rt tape) s c (xs.length + 1) (Rw (x :: xs))
def resPoly (tape : List W3) (s : Int) (c : Bool) (o : List W43) : A11 := match o with
  | [] => .a0 c (Rt tape) s
  | x :: xs => .a1 c (xs.length + 1) (Rt tape) s (Rw (x :: xs))
theorem goPoly_push (n : Nat) (m : Int) (tape : List W3) (s : Int) (c : Bool) (o : List W43) (p : W43) : goPoly n m tape s c (o ++ [p]) = L11_0s1 n m (Rt tape) s c (o.length + 1) (Rw (o ++ [p])) := by
  cases o with
  | nil => rfl
  | cons a o => simp [goPoly]
theorem poly_loop (tape : List W3) (hl : (tape.length : Int) ≤ 9223372036854775807) (c : Bool) : ∀ (m k : Nat) (o : List W43) (s : Int), 0 ≤ s → (∀ p ∈ o, okz p) → o.length + 2 * m ≤ 12 → m < k →
    ∃ (o' : List W43) (s' : Int), goPoly k m tape s c o = some (endPoly tape s' c o') ∧ (∀ p ∈ o', okz p) ∧ o'.length ≤ 12
  | _, 0, _, _, _, _, _, hk => by omega
  | 0, k + 1, o, s, hs, hp, hn, hk => by
    refine ⟨o, s, ?_, hp, by omega⟩
    cases o with
    | nil => simp only [goPoly, endPoly]; rw [L11_0, if_neg (by omega)]
    | cons x xs => simp only [goPoly, endPoly]; rw [L11_0s1, if_neg (by omega)]
  | m + 1, k + 1, o, s, hs, hp, hn, hk => by
    obtain ⟨x, s1, e1, x1, x2, p1⟩ := numberz_ex tape s hs hl
    obtain ⟨y, s2, e2, y1, y2, p2⟩ := numberz_ex tape s1 p1 hl
    obtain ⟨v, s3, e3, v1, v2, p3⟩ := next_ex tape s2 6 p2 hl (by decide)
    have hq : okz (⟨x, y⟩ : W43) := ⟨x1, x2, y1, y2⟩
    have hp1 : ∀ p ∈ o ++ [(⟨x, y⟩ : W43)], okz p := fun p h => by
      rw [List.mem_append, List.mem_singleton] at h; rcases h with h | rfl
      · exact hp p h
      · exact hq
    have hp2 : ∀ p ∈ o ++ [(⟨x, y⟩ : W43)] ++ [(⟨x, y⟩ : W43)], okz p := fun p h => by
      rw [List.mem_append, List.mem_singleton] at h; rcases h with h | rfl
      · exact hp1 p h
      · exact hq
    have n1 : (o ++ [(⟨x, y⟩ : W43)]).length = o.length + 1 := by simp
    have n2 : (o ++ [(⟨x, y⟩ : W43)] ++ [(⟨x, y⟩ : W43)]).length = o.length + 2 := by simp
    have hw : w64 (((m + 1 : Nat) : Int) - 1) = (m : Int) := by rw [w64_in (by omega) (by omega)]; omega
    have i1 := poly_loop tape hl c m k (o ++ [(⟨x, y⟩ : W43)]) s3 p3 hp1 (by omega) (by omega)
    have i2 := poly_loop tape hl c m k (o ++ [(⟨x, y⟩ : W43)] ++ [(⟨x, y⟩ : W43)]) s3 p3 hp2 (by omega) (by omega)
    rw [goPoly_push] at i1 i2
    rw [n1] at i2
    cases o with
    | nil =>
      simp only [goPoly]
      rw [L11_0, if_pos (by omega), e1, Option.bind_some]
      simp only []
      rw [e2, Option.bind_some]
      simp only []
      rw [e3, Option.bind_some]
      simp only []
      rw [hw]
      by_cases h0 : v = 0
      · rw [if_pos (by rw [beq_iff_eq]; exact h0)]; exact i2
      · rw [if_neg (by rw [beq_iff_eq]; exact h0)]; exact i1
    | cons a t =>
      simp only [List.length_cons] at hn
      have hl2 : (Rw (a :: t)).length = t.length + 1 := by simp
      have ht : List.take (t.length + 1) (Rw (a :: t)) ++ [[i64 x, i64 y]] = Rw (a :: t ++ [⟨x, y⟩]) := by rw [List.take_of_length_le (by rw [hl2]; omega)]; exact rw_push (a :: t) ⟨x, y⟩
      have hl3 : (Rw (a :: t ++ [(⟨x, y⟩ : W43)])).length = t.length + 2 := by simp
      have ht2 : List.take (t.length + 1 + 1) (Rw (a :: t ++ [⟨x, y⟩])) ++ [[i64 x, i64 y]] = Rw (a :: t ++ [⟨x, y⟩] ++ [⟨x, y⟩]) := by rw [List.take_of_length_le (by rw [hl3]; omega)]; exact rw_push (a :: t ++ [⟨x, y⟩]) ⟨x, y⟩
      simp only [goPoly]
      rw [L11_0s1, if_pos (by omega), e1, Option.bind_some]
      simp only []
      rw [e2, Option.bind_some]
      simp only []
      rw [if_pos (by rw [hl2]; omega), e3, Option.bind_some]
      simp only []
      rw [hw, ht]
      by_cases h0 : v = 0
      · rw [if_pos (by rw [beq_iff_eq]; exact h0), if_pos (by rw [hl3]; omega), ht2]; exact i2
      · rw [if_neg (by rw [beq_iff_eq]; exact h0)]; exact i1
theorem poly_ex (tape : List W3) (hl : (tape.length : Int) ≤ 9223372036854775807) : ∃ (c : Bool) (o : List W43) (s : Int), F11 (Rt tape) 0 = some (resPoly tape s c o) ∧ (∀ p ∈ o, okz p) ∧ o.length ≤ 12 := by
  obtain ⟨v1, s1, e1, l1, u1, p1⟩ := next_ex tape 0 2 (by decide) hl (by decide)
  obtain ⟨v2, s2, e2, l2, u2, p2⟩ := next_ex tape s1 7 p1 hl (by decide)
  obtain ⟨o, s, h, r1, r2⟩ := poly_loop tape hl (v1 == 0) v2.toNat 100000 [] s2 p2 (by simp) (by simp only [List.length_nil]; omega) (by omega)
  refine ⟨v1 == 0, o, s, ?_, r1, r2⟩
  unfold F11
  rw [e1, Option.bind_some]
  simp only []
  rw [e2, Option.bind_some]
  simp only []
  have e : ((v2.toNat : Nat) : Int) = v2 := by omega
  rw [e] at h
  simp only [goPoly] at h
  rw [h, Option.bind_some]
  cases o <;> rfl

theorem okp_of {p : W43} (h : okz p) : okp p := by unfold okz at h; unfold okp; omega
theorem ll_le {l : List W43} (h : ∀ p ∈ l, okz p) (h0 : 0 < l.length) (i : Nat) (hi : i < l.length) : ll l i ≤ 3407872 := by
  have ga : ∀ j, j < l.length → okz (gt l j) := fun j hj => by
    unfold gt; rw [List.getD_eq_getElem?_getD, List.getElem?_eq_getElem hj]; exact h _ (List.getElem_mem hj)
  have a := ga i hi
  have b := ga ((i + 1) % l.length) (Nat.mod_lt _ h0)
  unfold okz at a b
  exact hyp_le (B := 1703936) (by unfold aa bb; omega) (by unfold aa bb; omega) (by decide) (F89_eq _ _)
theorem sm_le2 {f : Nat → Int} {K : Int} : ∀ m : Nat, (∀ i, i < m → f i ≤ K) → sm f m ≤ m * K
  | 0, _ => by simp [sm]
  | m + 1, h => by
    have h1 := sm_le2 m (fun i hi => h i (by omega))
    have h2 := h m (by omega)
    have e : ((m + 1 : Nat) : Int) * K = m * K + K := by rw [Int.natCast_add, Int.add_mul]; simp
    simp only [sm]; omega
theorem polys_c (c : Bool) (o : List W43) (h : o.length ≤ 121) : F24 [[vb c, V.list 2 (Rw o)]] [[vb c, V.list 2 (Rw o)]] = some (.a0 true) := by
  have e : L24_0 100000 [[vb c, V.list 2 (Rw o)]] [[vb c, V.list 2 (Rw o)]] 0 = ((F19 (Rw o) (Rw o)).bind fun r => match r with | .a0 b => if (!b) = true then some R24_0.e1 else L24_0 99999 [[vb c, V.list 2 (Rw o)]] [[vb c, V.list 2 (Rw o)]] (w64 (0 + 1))) := by cases c <;> rfl
  unfold F24
  rw [if_neg (by simp), e, Z.points_same o h, Option.bind_some]
  simp only [Bool.not_true, Bool.false_eq_true, if_false]
  cases c <;> rfl
theorem known11 : F14 = some (.a0 true) := by kernel_rfl
abbrev D : List (List V) := [[i64 67108864], [i64 65536]]
theorem clone_ok (a : List W43) (h0 : 0 < a.length) (hL : a.length ≤ 60) : F31v1 (Rw a) = some (.a0 a.length (Rw a)) := by
  have hr : (Rw a).length = a.length := by simp
  unfold F31v1
  rw [if_pos (by rw [hr]; exact h0)]
  simp only [hr, Nat.zero_add, List.nil_append]
  rw [if_pos (by omega)]
theorem round1 (n : Int) (hn : n ≤ 67108864) (c : Bool) (l : List (List V)) (p : List (List V)) : L12v2_0s1 99999 D 1 n (w64 (0 + 67108864)) (w64 (0 + 1)) c l p = some (.e2 1 p) := by
  rw [show w64 (0 + 67108864) = 67108864 by decide, show w64 (0 + 1) = 1 by decide, show (99999 : Nat) = 99998 + 1 by rfl, L12v2_0s1, if_pos (by decide), if_neg (by omega)]
theorem dashWhole_plain (tape : List W3) (hl : (tape.length : Int) ≤ 9223372036854775807) : F8 (Rt tape) = some (.a0 true) := by
  obtain ⟨c, l, s, hp, hk, hL⟩ := poly_ex tape hl
  unfold F8
  rw [hp]
  cases l with
  | nil =>
    simp only [resPoly, Option.bind_some]
    cases c <;> kernel_rfl
  | cons x xs =>
    simp only [resPoly, Option.bind_some]
    generalize hl0 : x :: xs = l at *
    have hlen : xs.length + 1 = l.length := by rw [← hl0]; rfl
    rw [hlen]
    have h0 : 0 < l.length := by omega
    have hr : (Rw l).length = l.length := by simp
    have ht : List.take l.length (Rw l) = Rw l := by rw [List.take_of_length_le (by rw [hr]; omega)]
    have g1 : 0 + l.length ≤ (Rw l).length := by rw [hr]; omega
    have hko : ∀ p ∈ l, okp p := fun p hp => okp_of (hk p hp)
    have hN := nsides_le c l
    have hn := sm_le2 (f := ll l) (K := 3407872) (nsides c l) (fun i hi => ll_le hk h0 i (by omega))
    have hb := sm_bd (ll_bd l) (nsides c l)
    have le := length_eq c hko (by omega)
    obtain ⟨r, q1, q2⟩ := Z.length2 c (l := l) (by omega)
    have hrn : r = sm (ll l) (nsides c l) := by rw [le] at q1; cases q1; rfl
    rw [hrn] at q2
    have ho := oo_len l (nsides c l)
    have hz := oo_nil l (nsides c l)
    have v3 : F12v3 c (Rw l) = some (.a0 1 [[vb c, V.list 2 (Rw l)]]) := by
      unfold F12v3
      rw [clone_ok l h0 (by omega), Option.bind_some]
      simp only []
      rw [if_pos g1, ht]
    have d30 : F30 D = some (.a0 true) := by kernel_rfl
    have tk1 : ∀ p : List (List V), List.take 1 [[vb c, V.list 2 p]] = [[vb c, V.list 2 p]] := fun _ => rfl
    have gl : ∀ p : List V, 0 + 1 ≤ [p].length := fun _ => by simp
    have pc := polys_c c l (by omega)
    generalize hT : sm (ll l) (nsides c l) = n at *
    by_cases hn0 : n = 0
    · have v2 : F12v2 c (Rw l) D = some .a1 := by
        unfold F12v2
        rw [if_neg (by decide), d30, Option.bind_some]
        simp only []
        rw [if_neg (by decide), le, Option.bind_some]
        simp only []
        rw [show (100000 : Nat) = 99999 + 1 by rfl, L12v2_0, if_pos (by decide), if_neg (by omega)]; rfl
      rw [if_pos g1, ht, q2]
      simp only [Option.bind_some]
      rw [v2]
      simp only [Option.bind_some, v3, if_pos (gl _), tk1, pc]
      rw [if_neg (by decide), if_pos (by rw [hn0]; rfl), known11]; rfl
    · have hoo : 2 ≤ (oo l (nsides c l)).length := by
        rcases ho.2 with h | h
        · exact absurd (hz.1 h) hn0
        · exact h
      have pz := part_zero c hko (by omega) (T := 67108864) (by rw [hT]; omega) (by decide) (by decide)
      have pn := part_zero c hko (by omega) (T := n) (by rw [hT]; omega) (by omega) (by omega)
      obtain ⟨o', w1, w2, _⟩ := Z.part2 c (l := l) (by omega) 0 n
      have pl : F13v1 false (Rw (oo l (nsides c l))) = some (.a0 n) := by
        obtain ⟨r2, y1, y2⟩ := Z.length2 false (l := oo l (nsides c l)) (by omega)
        rw [length_eq false (oo_ok hko _) (by omega), plen_open] at y1
        obtain ⟨_, _, _, e, _⟩ := oo_plen c l (nsides c l) (Nat.le_refl _) (by omega)
        rw [e, hT] at y1
        cases y1
        exact y2
      have ps := Z.polys_same (oo l (nsides c l)) (by omega)
      rw [pn] at w1
      have hol := ho.1
      generalize hoe : oo l (nsides c l) = o at *
      cases o with
      | nil => simp at hoo
      | cons y ys =>
        cases o' with
        | nil => simp [resPart, Z.rA] at w1
        | cons z zs =>
          simp only [resPart, Z.rA, Option.some.injEq, A33v1.a1.injEq, true_and] at w1
          simp only [Z.rB] at w2
          rw [← w1.1, ← w1.2] at w2
          have hr2 : (Rw (y :: ys)).length = ys.length + 1 := by simp
          have ht2 : List.take (ys.length + 1) (Rw (y :: ys)) = Rw (y :: ys) := by rw [List.take_of_length_le (by rw [hr2]; omega)]
          have g2 : 0 + (ys.length + 1) ≤ (Rw (y :: ys)).length := by rw [hr2]; omega
          have hy : ((ys.length + 1 : Nat) : Int) ≥ 2 := by simp only [List.length_cons] at hoo; omega
          have v2 : F12v2 c (Rw l) D = some (.a0 1 [[vb false, V.list 2 (Rw (y :: ys))]]) := by
            unfold F12v2
            rw [if_neg (by decide), d30, Option.bind_some]
            simp only []
            rw [if_neg (by decide), le, Option.bind_some]
            simp only []
            have e0 : ((D[Int.toNat (Int.tmod 0 (↑(List.length D) : Int))]?).bind W2.dec) = some ⟨67108864⟩ := by rfl
            rw [show (100000 : Nat) = 99999 + 1 by rfl, L12v2_0, if_pos (by decide), if_pos (by omega), if_neg (by decide), if_pos (by decide), e0, Option.bind_some, if_pos (by decide)]
            simp only []
            rw [show w64 (0 + 67108864) = 67108864 by decide, pz, Option.bind_some]
            simp only [resPart]
            rw [if_pos hy, if_pos g2, ht2]
            have r1 := round1 n (by omega) c (Rw l) [[vb false, V.list 2 (Rw (y :: ys))]]
            rw [show w64 (0 + 67108864) = 67108864 by decide] at r1
            rw [r1]; rfl
          have e5 : (([[vb false, V.list 2 (Rw (y :: ys))]] : List (List V))[(0 : Nat)]?).bind W25.dec = some ⟨false, Rw (y :: ys)⟩ := by rfl
          rw [if_pos g1, ht, q2]
          simp only [Option.bind_some]
          rw [v2]
          simp only [Option.bind_some, v3, if_pos (gl _), tk1, pc]
          rw [if_neg (by decide), if_neg (by rw [beq_iff_eq]; exact hn0), if_pos (by decide), if_pos (by decide), e5]
          simp only [orE]
          rw [if_pos (by decide), pl]
          simp only [Option.bind_some]
          rw [if_pos (by rw [beq_iff_eq]), w2]
          simp only [Option.bind_some]
          rw [if_pos g2, ht2, show List.take 1 [[vb false, V.list 2 (Rw (y :: ys))]] = [[vb false, V.list 2 (Rw (y :: ys))]] from rfl, ps]
          simp only [Option.bind_some, if_true, known11]
end Go.Proofs.Ytojigbcgmneiiaa.H
