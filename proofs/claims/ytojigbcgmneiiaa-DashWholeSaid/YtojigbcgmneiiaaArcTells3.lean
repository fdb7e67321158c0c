/- ArcTells in plain Lean: arc and the document tell the same of any line. No condition beyond those stated. -/
import Derived.Test.YtojigbcgmneiiaaArcTwo3
import Derived.KernelRfl
set_option linter.unusedVariables false
set_option linter.unusedSimpArgs false
namespace Go.Proofs.Ytojigbcgmneiiaa.H.Z
open Go Go.VM
set_option maxRecDepth 100000
def gA (n : Nat) (f t s N i : Int) (c : Bool) (l o : List W43) : Option R33v1_0 := match o with
  | [] => L33v1_0 n f t s N i c (Rw l)
  | x :: xs => L33v1_0s1 n f t s N i c (Rw l) (xs.length + 1) (Rw (x :: xs))
def eA (o : List W43) : R33v1_0 := match o with
  | [] => .e0
  | x :: xs => .e1 (xs.length + 1) (Rw (x :: xs))
def gB (n : Nat) (f t s i : Int) (c : Bool) (l o : List W43) : Option R25v1_0 := match o with
  | [] => L25v1_0 n f t s i c (Rw l)
  | x :: xs => L25v1_0s1 n f t s i c (Rw l) (xs.length + 1) (Rw (x :: xs))
def eB (o : List W43) : R25v1_0 := match o with
  | [] => .e0
  | x :: xs => .e1 (xs.length + 1) (Rw (x :: xs))
theorem gA_push (n : Nat) (f t s N i : Int) (c : Bool) (l o : List W43) (p : W43) : gA n f t s N i c l (o ++ [p]) = L33v1_0s1 n f t s N i c (Rw l) (o.length + 1) (Rw (o ++ [p])) := by
  cases o with
  | nil => rfl
  | cons a o => simp [gA]
theorem gB_push (n : Nat) (f t s i : Int) (c : Bool) (l o : List W43) (p : W43) : gB n f t s i c l (o ++ [p]) = L25v1_0s1 n f t s i c (Rw l) (o.length + 1) (Rw (o ++ [p])) := by
  cases o with
  | nil => rfl
  | cons a o => simp [gB]
theorem push2 (o : List W43) (x y : Int) : List.take o.length (Rw o) ++ [[i64 x, i64 y]] = Rw (o ++ [⟨x, y⟩]) := by
  rw [List.take_of_length_le (by simp)]; simp
theorem part2_loop (c : Bool) {l : List W43} (hL : l.length ≤ 60) (f t : Int) : ∀ (n i : Nat) (s : Int) (o : List W43), i ≤ ns c l → ns c l < n + i → o.length ≤ 2 * i →
    ∃ o', gA n f t s (ns c l) i c l o = some (eA o') ∧ gB n f t s i c l o = some (eB o') ∧ o'.length ≤ 120
  | 0, i, s, o, hi, hn, _ => by omega
  | n + 1, i, s, o, hi, hn, ho => by
    have hl := ns_le c l
    by_cases h : i < ns c l
    · have hc : (i : Int) < (ns c l : Int) := by omega
      obtain ⟨p, q, r, u, d, e1, e2, e3, _, _⟩ := side2 c hL (show i < l.length by omega)
      obtain ⟨x1, y1, a1, b1⟩ := on2 p q r u (w64 (f - s)) d
      obtain ⟨x2, y2, a2, b2⟩ := on2 p q r u (w64 (t - s)) d
      have ihs := part2_loop c hL f t n (i + 1) (add s d) o (by omega) (by omega) (by omega)
      cases o with
      | nil =>
        have ih2 := part2_loop c hL f t n (i + 1) (add s d) ([⟨x1, y1⟩] ++ [⟨x2, y2⟩]) (by omega) (by omega) (by simp; omega)
        simp only [gA, gB] at ihs ⊢
        rw [gA_push, gB_push] at ih2
        rw [L33v1_0, L25v1_0, bnd_def, sidesB c l hL, if_pos hc, if_pos hc, e1, e2]
        simp only [Option.bind_some, e3, bnd_def, F56_eq, F60_eq, wsucc (show i < 1000 by omega)]
        by_cases c1 : d > 0
        · rw [if_pos c1, if_pos c1]
          by_cases c2 : add s d > f
          · rw [if_pos c2, if_pos c2]
            by_cases c3 : s < t
            · rw [if_pos c3, if_pos c3, a1, b1]
              simp only [Option.bind_some]
              rw [a2, b2]
              exact ih2
            · rw [if_neg c3, if_neg c3]; exact ihs
          · rw [if_neg c2, if_neg c2]; exact ihs
        · rw [if_neg c1, if_neg c1]; exact ihs
      | cons z zs =>
        have ih2 := part2_loop c hL f t n (i + 1) (add s d) ((z :: zs) ++ [⟨x2, y2⟩]) (by omega) (by omega) (by simp at ho ⊢; omega)
        rw [gA_push, gB_push] at ih2
        simp only [gA, gB] at ihs ⊢
        have hk : ¬ (((zs.length + 1 : Nat) : Int) == 0) = true := by rw [beq_iff_eq]; omega
        have hr : 0 + (zs.length + 1) ≤ List.length (Rw (z :: zs)) ∧ (zs.length + 1 + 1) * 16 ≤ 140737488355328 ∧ zs.length + 1 + 1 ≤ 140737488355328 := by
          simp only [List.length_cons] at ho
          have : (Rw (z :: zs)).length = zs.length + 1 := by simp
          rw [this]; omega
        have hp := push2 (z :: zs) x2 y2
        rw [show (z :: zs).length = zs.length + 1 by rfl] at hp ih2
        rw [L33v1_0s1, L25v1_0s1, bnd_def, sidesB c l hL, if_pos hc, if_pos hc, e1, e2]
        simp only [Option.bind_some, e3, bnd_def, F56_eq, F60_eq, wsucc (show i < 1000 by omega)]
        by_cases c1 : d > 0
        · rw [if_pos c1, if_pos c1]
          by_cases c2 : add s d > f
          · rw [if_pos c2, if_pos c2]
            by_cases c3 : s < t
            · rw [if_pos c3, if_pos c3, if_neg hk, if_neg hk, a2, b2]
              simp only [Option.bind_some]
              rw [if_pos hr, if_pos hr, hp]
              exact ih2
            · rw [if_neg c3, if_neg c3]; exact ihs
          · rw [if_neg c2, if_neg c2]; exact ihs
        · rw [if_neg c1, if_neg c1]; exact ihs
    · have hc : ¬ (i : Int) < (ns c l : Int) := by omega
      refine ⟨o, ?_, ?_, by omega⟩
      · cases o with
        | nil => simp only [gA, eA]; rw [L33v1_0, if_neg hc]
        | cons z zs => simp only [gA, eA]; rw [L33v1_0s1, if_neg hc]
      · cases o with
        | nil => simp only [gB, eB]; rw [L25v1_0, bnd_def, sidesB c l hL, if_neg hc]
        | cons z zs => simp only [gB, eB]; rw [L25v1_0s1, bnd_def, sidesB c l hL, if_neg hc]
def rA (o : List W43) : A33v1 := match o with
  | [] => .a0 false
  | x :: xs => .a1 false (xs.length + 1) (Rw (x :: xs))
def rB (o : List W43) : A25v1 := match o with
  | [] => .a0 false
  | x :: xs => .a1 false (xs.length + 1) (Rw (x :: xs))
theorem part2 (c : Bool) {l : List W43} (hL : l.length ≤ 60) (f t : Int) : ∃ o, F33v1 c (Rw l) f t = some (rA o) ∧ F25v1 c (Rw l) f t = some (rB o) ∧ o.length ≤ 120 := by
  unfold F33v1 F25v1
  simp only [bnd_def, F57_eq, F74_eq]
  by_cases h : hd f ≥ hd t
  · rw [if_pos h, if_pos h]; exact ⟨[], rfl, rfl, by simp⟩
  · have hl := ns_le c l
    obtain ⟨o, e1, e2, e3⟩ := part2_loop c hL (hd f) (hd t) 100000 0 0 [] (by omega) (by omega) (by simp)
    simp only [gA, gB] at e1 e2
    rw [show ((0 : Nat) : Int) = 0 by rfl] at e1 e2
    rw [if_neg h, if_neg h, sidesA c l hL, e1, e2]
    refine ⟨o, ?_, ?_, e3⟩ <;> cases o <;> rfl
def okp (p : W43) : Prop := -2097152 ≤ p.c0 ∧ p.c0 ≤ 2097152 ∧ -2097152 ≤ p.c1 ∧ p.c1 ≤ 2097152
theorem rw_push (o : List W43) (p : W43) : Rw o ++ [[i64 p.c0, i64 p.c1]] = Rw (o ++ [p]) := by simp
def goPoly (n : Nat) (m : Int) (tape : List W3) (s : Int) (c : Bool) (o : List W43) : Option R11_0 := match o with
  | [] => L11_0 n m (Rt tape) s c
  | x :: xs => L11_0s1 n m (Rt tape) s c (xs.length + 1) (Rw (x :: xs))
def endPoly (tape : List W3) (s : Int) (c : Bool) (o : List W43) : R11_0 := match o with
  | [] => .e0 (Rt tape) s c
  | x :: xs => .e1 (Rt tape) s c (xs.length + 1) (Rw (x :: xs))
def resPoly (tape : List W3) (s : Int) (c : Bool) (o : List W43) : A11 := match o with
  | [] => .a0 c (Rt tape) s
  | x :: xs => .a1 c (xs.length + 1) (Rt tape) s (Rw (x :: xs))
theorem goPoly_push (n : Nat) (m : Int) (tape : List W3) (s : Int) (c : Bool) (o : List W43) (p : W43) : goPoly n m tape s c (o ++ [p]) = L11_0s1 n m (Rt tape) s c (o.length + 1) (Rw (o ++ [p])) := by
  cases o with
  | nil => rfl
  | cons a o => simp [goPoly]
theorem poly_loop (tape : List W3) (hl : (tape.length : Int) ≤ 9223372036854775807) (c : Bool) : ∀ (m k : Nat) (o : List W43) (s : Int), 0 ≤ s → (∀ p ∈ o, okp p) → o.length + 2 * m ≤ 59 → m < k →
    ∃ (o' : List W43) (s' : Int), goPoly k m tape s c o = some (endPoly tape s' c o') ∧ (∀ p ∈ o', okp p) ∧ o'.length ≤ 59
  | _, 0, _, _, _, _, _, hk => by omega
  | 0, k + 1, o, s, hs, hp, hn, hk => by
    refine ⟨o, s, ?_, hp, by omega⟩
    cases o with
    | nil => simp only [goPoly, endPoly]; rw [L11_0, if_neg (by omega)]
    | cons x xs => simp only [goPoly, endPoly]; rw [L11_0s1, if_neg (by omega)]
  | m + 1, k + 1, o, s, hs, hp, hn, hk => by
    obtain ⟨x, s1, e1, x1, x2, p1⟩ := number_ex tape s hs hl
    obtain ⟨y, s2, e2, y1, y2, p2⟩ := number_ex tape s1 p1 hl
    obtain ⟨v, s3, e3, v1, v2, p3⟩ := next_ex tape s2 6 p2 hl (by decide)
    have hq : okp (⟨x, y⟩ : W43) := ⟨x1, x2, y1, y2⟩
    have hp1 : ∀ p ∈ o ++ [(⟨x, y⟩ : W43)], okp p := fun p h => by
      rw [List.mem_append, List.mem_singleton] at h; rcases h with h | rfl
      · exact hp p h
      · exact hq
    have hp2 : ∀ p ∈ o ++ [(⟨x, y⟩ : W43)] ++ [(⟨x, y⟩ : W43)], okp p := fun p h => by
      rw [List.mem_append, List.mem_singleton] at h; rcases h with h | rfl
      · exact hp1 p h
      · exact hq
    have n1 : (o ++ [(⟨x, y⟩ : W43)]).length = o.length + 1 := by simp
    have n2 : (o ++ [(⟨x, y⟩ : W43)] ++ [(⟨x, y⟩ : W43)]).length = o.length + 2 := by simp
    have hw : w64 (((m + 1 : Nat) : Int) - 1) = (m : Int) := by rw [w64_in (by omega) (by omega)]; omega
    have i1 := poly_loop tape hl c m k (o ++ [(⟨x, y⟩ : W43)]) s3 p3 hp1 (by omega) (by omega)
    have i2 := poly_loop tape hl c m k (o ++ [(⟨x, y⟩ : W43)] ++ [(⟨x, y⟩ : W43)]) s3 p3 hp2 (by omega) (by omega)
    rw [goPoly_push] at i1 i2
    rw [n1] at i2
    cases o with
    | nil =>
      simp only [goPoly]
      rw [L11_0, if_pos (by omega), e1, Option.bind_some]
      simp only []
      rw [e2, Option.bind_some]
      simp only []
      rw [e3, Option.bind_some]
      simp only []
      rw [hw]
      by_cases h0 : v = 0
      · rw [if_pos (by rw [beq_iff_eq]; exact h0)]; exact i2
      · rw [if_neg (by rw [beq_iff_eq]; exact h0)]; exact i1
    | cons a t =>
      simp only [List.length_cons] at hn
      have hl2 : (Rw (a :: t)).length = t.length + 1 := by simp
      have ht : List.take (t.length + 1) (Rw (a :: t)) ++ [[i64 x, i64 y]] = Rw (a :: t ++ [⟨x, y⟩]) := by rw [List.take_of_length_le (by rw [hl2]; omega)]; exact rw_push (a :: t) ⟨x, y⟩
      have hl3 : (Rw (a :: t ++ [(⟨x, y⟩ : W43)])).length = t.length + 2 := by simp
      have ht2 : List.take (t.length + 1 + 1) (Rw (a :: t ++ [⟨x, y⟩])) ++ [[i64 x, i64 y]] = Rw (a :: t ++ [⟨x, y⟩] ++ [⟨x, y⟩]) := by rw [List.take_of_length_le (by rw [hl3]; omega)]; exact rw_push (a :: t ++ [⟨x, y⟩]) ⟨x, y⟩
      simp only [goPoly]
      rw [L11_0s1, if_pos (by omega), e1, Option.bind_some]
      simp only []
      rw [e2, Option.bind_some]
      simp only []
      rw [if_pos (by rw [hl2]; omega), e3, Option.bind_some]
      simp only []
      rw [hw, ht]
      by_cases h0 : v = 0
      · rw [if_pos (by rw [beq_iff_eq]; exact h0), if_pos (by rw [hl3]; omega), ht2]; exact i2
      · rw [if_neg (by rw [beq_iff_eq]; exact h0)]; exact i1
theorem poly_ex (tape : List W3) (hl : (tape.length : Int) ≤ 9223372036854775807) : ∃ (c : Bool) (o : List W43) (s : Int), F11 (Rt tape) 0 = some (resPoly tape s c o) ∧ (∀ p ∈ o, okp p) ∧ o.length ≤ 59 := by
  obtain ⟨v1, s1, e1, l1, u1, p1⟩ := next_ex tape 0 2 (by decide) hl (by decide)
  obtain ⟨v2, s2, e2, l2, u2, p2⟩ := next_ex tape s1 7 p1 hl (by decide)
  obtain ⟨o, s, h, r1, r2⟩ := poly_loop tape hl (v1 == 0) v2.toNat 100000 [] s2 p2 (by simp) (by simp only [List.length_nil]; omega) (by omega)
  refine ⟨v1 == 0, o, s, ?_, r1, r2⟩
  unfold F11
  rw [e1, Option.bind_some]
  simp only []
  rw [e2, Option.bind_some]
  simp only []
  have e : ((v2.toNat : Nat) : Int) = v2 := by omega
  rw [e] at h
  simp only [goPoly] at h
  rw [h, Option.bind_some]
  cases o <;> rfl

/-! ### The same lines are told to be the same -/
theorem points_loop (o : List W43) (h : o.length ≤ 121) : ∀ (n i : Nat), i ≤ o.length → o.length < n + i → L19_0 n (Rw o) (Rw o) i = some .e1
  | 0, i, hi, hn => by omega
  | n + 1, i, hi, hn => by
    have hlen : (Rw o).length = o.length := by simp
    rw [L19_0, hlen]
    by_cases hc : i < o.length
    · have g1 : (i : Int) < (o.length : Int) := by omega
      have g2 : (0 : Int) ≤ (i : Int) := by omega
      rw [if_pos g1, if_pos g2, show Int.toNat (i : Int) = i by omega, rw_get, List.getElem?_eq_getElem hc]
      simp only [Option.bind_some, beq_self_eq_true, Bool.and_self, Bool.not_true, Bool.false_eq_true, if_false]
      rw [wsucc (by omega)]
      exact points_loop o h n (i + 1) (by omega) (by omega)
    · have g1 : ¬ (i : Int) < (o.length : Int) := by omega
      rw [if_neg g1]
theorem points_same (o : List W43) (h : o.length ≤ 121) : F19 (Rw o) (Rw o) = some (.a0 true) := by
  have e := points_loop o h 100000 0 (by omega) (by omega)
  rw [show ((0 : Nat) : Int) = 0 by rfl] at e
  unfold F19
  rw [if_neg (by simp), e]; rfl
theorem polys_nil : F24 [[vb false, V.nilS]] [[vb false, V.nilS]] = some (.a0 true) := by kernel_rfl
theorem polys_same (o : List W43) (h : o.length ≤ 121) : F24 [[vb false, V.list 2 (Rw o)]] [[vb false, V.list 2 (Rw o)]] = some (.a0 true) := by
  have e : L24_0 100000 [[vb false, V.list 2 (Rw o)]] [[vb false, V.list 2 (Rw o)]] 0 = ((F19 (Rw o) (Rw o)).bind fun r => match r with | .a0 b => if (!b) = true then some R24_0.e1 else L24_0 99999 [[vb false, V.list 2 (Rw o)]] [[vb false, V.list 2 (Rw o)]] (w64 (0 + 1))) := by rfl
  unfold F24
  rw [if_neg (by simp), e, points_same o h, Option.bind_some]
  simp only [Bool.not_true, Bool.false_eq_true, if_false]
  rfl
end Go.Proofs.Ytojigbcgmneiiaa.H.Z
