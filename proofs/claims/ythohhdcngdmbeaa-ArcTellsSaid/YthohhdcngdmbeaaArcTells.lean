/- ArcTells in plain Lean: arc and the document tell the same of any line. No condition beyond those stated. -/
import Derived.Test.YthohhdcngdmbeaaArcTwo
import Derived.KernelRfl
set_option linter.unusedVariables false
set_option linter.unusedSimpArgs false
namespace Go.Proofs.Ythohhdcngdmbeaa.H
open Go Go.VM
set_option maxRecDepth 100000
def gA (n : Nat) (f t s N i : Int) (c : Bool) (l o : List W34) : Option R24v1_0 := match o with
  | [] => L24v1_0 n f t s N i c (Rw l)
  | x :: xs => L24v1_0s1 n f t s N i c (Rw l) (xs.length + 1) (Rw (x :: xs))
def eA (o : List W34) : R24v1_0 := match o with
  | [] => .e0
  | x :: xs => .e1 (xs.length + 1) (Rw (x :: xs))
def gB (n : Nat) (f t s i : Int) (c : Bool) (l o : List W34) : Option R70v1_0 := match o with
  | [] => L70v1_0 n f t s i c (Rw l)
  | x :: xs => L70v1_0s1 n f t s i c (Rw l) (xs.length + 1) (Rw (x :: xs))
def eB (o : List W34) : R70v1_0 := match o with
  | [] => .e0
  | x :: xs => .e1 (xs.length + 1) (Rw (x :: xs))
theorem gA_push (n : Nat) (f t s N i : Int) (c : Bool) (l o : List W34) (p : W34) : gA n f t s N i c l (o ++ [p]) = L24v1_0s1 n f t s N i c (Rw l) (o.length + 1) (Rw (o ++ [p])) := by
  cases o with
  | nil => rfl
  | cons a o => simp [gA]
theorem gB_push (n : Nat) (f t s i : Int) (c : Bool) (l o : List W34) (p : W34) : gB n f t s i c l (o ++ [p]) = L70v1_0s1 n f t s i c (Rw l) (o.length + 1) (Rw (o ++ [p])) := by
  cases o with
  | nil => rfl
  | cons a o => simp [gB]
theorem push2 (o : List W34) (x y : Int) : List.take o.length (Rw o) ++ [[i64 x, i64 y]] = Rw (o ++ [⟨x, y⟩]) := by
  rw [List.take_of_length_le (by simp)]; simp
theorem part2_loop (c : Bool) {l : List W34} (hL : l.length ≤ 60) (f t : Int) : ∀ (n i : Nat) (s : Int) (o : List W34), i ≤ ns c l → ns c l < n + i → o.length ≤ 2 * i →
    ∃ o', gA n f t s (ns c l) i c l o = some (eA o') ∧ gB n f t s i c l o = some (eB o') ∧ o'.length ≤ 120
  | 0, i, s, o, hi, hn, _ => by omega
  | n + 1, i, s, o, hi, hn, ho => by
    have hl := ns_le c l
    by_cases h : i < ns c l
    · have hc : (i : Int) < (ns c l : Int) := by omega
      obtain ⟨p, q, r, u, d, e1, e2, e3, _, _⟩ := side2 c hL (show i < l.length by omega)
      obtain ⟨x1, y1, a1, b1⟩ := on2 p q r u (w64 (f - s)) d
      obtain ⟨x2, y2, a2, b2⟩ := on2 p q r u (w64 (t - s)) d
      have ihs := part2_loop c hL f t n (i + 1) (add s d) o (by omega) (by omega) (by omega)
      cases o with
      | nil =>
        have ih2 := part2_loop c hL f t n (i + 1) (add s d) ([⟨x1, y1⟩] ++ [⟨x2, y2⟩]) (by omega) (by omega) (by simp; omega)
        simp only [gA, gB] at ihs ⊢
        rw [gA_push, gB_push] at ih2
        rw [L24v1_0, L70v1_0, bnd_def, sidesB c l hL, if_pos hc, if_pos hc, e1, e2]
        simp only [Option.bind_some, e3, bnd_def, F56_eq, F60_eq, wsucc (show i < 1000 by omega)]
        by_cases c1 : d > 0
        · rw [if_pos c1, if_pos c1]
          by_cases c2 : add s d > f
          · rw [if_pos c2, if_pos c2]
            by_cases c3 : s < t
            · rw [if_pos c3, if_pos c3, a1, b1]
              simp only [Option.bind_some]
              rw [a2, b2]
              exact ih2
            · rw [if_neg c3, if_neg c3]; exact ihs
          · rw [if_neg c2, if_neg c2]; exact ihs
        · rw [if_neg c1, if_neg c1]; exact ihs
      | cons z zs =>
        have ih2 := part2_loop c hL f t n (i + 1) (add s d) ((z :: zs) ++ [⟨x2, y2⟩]) (by omega) (by omega) (by simp at ho ⊢; omega)
        rw [gA_push, gB_push] at ih2
        simp only [gA, gB] at ihs ⊢
        have hk : ¬ (((zs.length + 1 : Nat) : Int) == 0) = true := by rw [beq_iff_eq]; omega
        have hr : 0 + (zs.length + 1) ≤ List.length (Rw (z :: zs)) ∧ (zs.length + 1 + 1) * 16 ≤ 140737488355328 ∧ zs.length + 1 + 1 ≤ 140737488355328 := by
          simp only [List.length_cons] at ho
          have : (Rw (z :: zs)).length = zs.length + 1 := by simp
          rw [this]; omega
        have hp := push2 (z :: zs) x2 y2
        rw [show (z :: zs).length = zs.length + 1 by rfl] at hp ih2
        rw [L24v1_0s1, L70v1_0s1, bnd_def, sidesB c l hL, if_pos hc, if_pos hc, e1, e2]
        simp only [Option.bind_some, e3, bnd_def, F56_eq, F60_eq, wsucc (show i < 1000 by omega)]
        by_cases c1 : d > 0
        · rw [if_pos c1, if_pos c1]
          by_cases c2 : add s d > f
          · rw [if_pos c2, if_pos c2]
            by_cases c3 : s < t
            · rw [if_pos c3, if_pos c3, if_neg hk, if_neg hk, a2, b2]
              simp only [Option.bind_some]
              rw [if_pos hr, if_pos hr, hp]
              exact ih2
            · rw [if_neg c3, if_neg c3]; exact ihs
          · rw [if_neg c2, if_neg c2]; exact ihs
        · rw [if_neg c1, if_neg c1]; exact ihs
    · have hc : ¬ (i : Int) < (ns c l : Int) := by omega
      refine ⟨o, ?_, ?_, by omega⟩
      · cases o with
        | nil => simp only [gA, eA]; rw [L24v1_0, if_neg hc]
        | cons z zs => simp only [gA, eA]; rw [L24v1_0s1, if_neg hc]
      · cases o with
        | nil => simp only [gB, eB]; rw [L70v1_0, bnd_def, sidesB c l hL, if_neg hc]
        | cons z zs => simp only [gB, eB]; rw [L70v1_0s1, bnd_def, sidesB c l hL, if_neg hc]
def rA (o : List W34) : A24v1 := match o with
  | [] => .a0 false
  | x :: xs => .a1 false (xs.length + 1) (Rw (x :: xs))
def rB (o : List W34) : A70v1 := match o with
  | [] => .a0 false
  | x :: xs => .a1 false (xs.length + 1) (Rw (x :: xs))
theorem part2 (c : Bool) {l : List W34} (hL : l.length ≤ 60) (f t : Int) : ∃ o, F24v1 c (Rw l) f t = some (rA o) ∧ F70v1 c (Rw l) f t = some (rB o) ∧ o.length ≤ 120 := by
  unfold F24v1 F70v1
  simp only [bnd_def, F57_eq, F74_eq]
  by_cases h : hd f ≥ hd t
  · rw [if_pos h, if_pos h]; exact ⟨[], rfl, rfl, by simp⟩
  · have hl := ns_le c l
    obtain ⟨o, e1, e2, e3⟩ := part2_loop c hL (hd f) (hd t) 100000 0 0 [] (by omega) (by omega) (by simp)
    simp only [gA, gB] at e1 e2
    rw [show ((0 : Nat) : Int) = 0 by rfl] at e1 e2
    rw [if_neg h, if_neg h, sidesA c l hL, e1, e2]
    refine ⟨o, ?_, ?_, e3⟩ <;> cases o <;> rfl
def okp (p : W34) : Prop := -2097152 ≤ p.c0 ∧ p.c0 ≤ 2097152 ∧ -2097152 ≤ p.c1 ∧ p.c1 ≤ 2097152
theorem rw_push (o : List W34) (p : W34) : Rw o ++ [[i64 p.c0, i64 p.c1]] = Rw (o ++ [p]) := by simp
def goPoly (n : Nat) (m : Int) (tape : List W3) (s : Int) (c : Bool) (o : List W34) : Option R22_0 := match o with
  | [] => L22_0 n m (Rt tape) s c
  | x :: xs => L22_0s1 n m (Rt tape) s c (xs.length + 1) (Rw (x :: xs))
def endPoly (tape : List W3) (s : Int) (c : Bool) (o : List W34) : R22_0 := match o with
  | [] => .e0 (Rt tape) s c
  | x :: xs => .e1 (Rt tape) s c (xs.length + 1) (Rw (x :: xs))
def resPoly (tape : List W3) (s : Int) (c : Bool) (o : List W34) : A22 := match o with
  | [] => .a0 c (Rt tape) s
  | x :: xs => .a1 c (xs.length + 1) (Rt tape) s (Rw (x :: xs))
theorem goPoly_push (n : Nat) (m : Int) (tape : List W3) (s : Int) (c : Bool) (o : List W34) (p : W34) : goPoly n m tape s c (o ++ [p]) = L22_0s1 n m (Rt tape) s c (o.length + 1) (Rw (o ++ [p])) := by
  cases o with
  | nil => rfl
  | cons a o => simp [goPoly]
theorem poly_loop (tape : List W3) (hl : (tape.length : Int) ≤ 9223372036854775807) (c : Bool) : ∀ (m k : Nat) (o : List W34) (s : Int), 0 ≤ s → (∀ p ∈ o, okp p) → o.length + 2 * m ≤ 59 → m < k →
    ∃ (o' : List W34) (s' : Int), goPoly k m tape s c o = some (endPoly tape s' c o') ∧ (∀ p ∈ o', okp p) ∧ o'.length ≤ 59
  | _, 0, _, _, _, _, _, hk => by omega
  | 0, k + 1, o, s, hs, hp, hn, hk => by
    refine ⟨o, s, ?_, hp, by omega⟩
    cases o with
    | nil => simp only [goPoly, endPoly]; rw [L22_0, if_neg (by omega)]
    | cons x xs => simp only [goPoly, endPoly]; rw [L22_0s1, if_neg (by omega)]
  | m + 1, k + 1, o, s, hs, hp, hn, hk => by
    obtain ⟨x, s1, e1, x1, x2, p1⟩ := number_ex tape s hs hl
    obtain ⟨y, s2, e2, y1, y2, p2⟩ := number_ex tape s1 p1 hl
    obtain ⟨v, s3, e3, v1, v2, p3⟩ := next_ex tape s2 6 p2 hl (by decide)
    have hq : okp (⟨x, y⟩ : W34) := ⟨x1, x2, y1, y2⟩
    have hp1 : ∀ p ∈ o ++ [(⟨x, y⟩ : W34)], okp p := fun p h => by
      rw [List.mem_append, List.mem_singleton] at h; rcases h with h | rfl
      · exact hp p h
      · exact hq
    have hp2 : ∀ p ∈ o ++ [(⟨x, y⟩ : W34)] ++ [(⟨x, y⟩ : W34)], okp p := fun p h => by
      rw [List.mem_append, List.mem_singleton] at h; rcases h with h | rfl
      · exact hp1 p h
      · exact hq
    have n1 : (o ++ [(⟨x, y⟩ : W34)]).length = o.length + 1 := by simp
    have n2 : (o ++ [(⟨x, y⟩ : W34)] ++ [(⟨x, y⟩ : W34)]).length = o.length + 2 := by simp
    have hw : w64 (((m + 1 : Nat) : Int) - 1) = (m : Int) := by rw [w64_in (by omega) (by omega)]; omega
    have i1 := poly_loop tape hl c m k (o ++ [(⟨x, y⟩ : W34)]) s3 p3 hp1 (by omega) (by omega)
    have i2 := poly_loop tape hl c m k (o ++ [(⟨x, y⟩ : W34)] ++ [(⟨x, y⟩ : W34)]) s3 p3 hp2 (by omega) (by omega)
    rw [goPoly_push] at i1 i2
    rw [n1] at i2
    cases o with
    | nil =>
      simp only [goPoly]
      rw [L22_0, if_pos (by omega), e1, Option.bind_some]
      simp only []
      rw [e2, Option.bind_some]
      simp only []
      rw [e3, Option.bind_some]
      simp only []
      rw [hw]
      by_cases h0 : v = 0
      · rw [if_pos (by rw [beq_iff_eq]; exact h0)]; exact i2
      · rw [if_neg (by rw [beq_iff_eq]; exact h0)]; exact i1
    | cons a t =>
      simp only [List.length_cons] at hn
      have hl2 : (Rw (a :: t)).length = t.length + 1 := by simp
      have ht : List.take (t.length + 1) (Rw (a :: t)) ++ [[i64 x, i64 y]] = Rw (a :: t ++ [⟨x, y⟩]) := by rw [List.take_of_length_le (by rw [hl2]; omega)]; exact rw_push (a :: t) ⟨x, y⟩
      have hl3 : (Rw (a :: t ++ [(⟨x, y⟩ : W34)])).length = t.length + 2 := by simp
      have ht2 : List.take (t.length + 1 + 1) (Rw (a :: t ++ [⟨x, y⟩])) ++ [[i64 x, i64 y]] = Rw (a :: t ++ [⟨x, y⟩] ++ [⟨x, y⟩]) := by rw [List.take_of_length_le (by rw [hl3]; omega)]; exact rw_push (a :: t ++ [⟨x, y⟩]) ⟨x, y⟩
      simp only [goPoly]
      rw [L22_0s1, if_pos (by omega), e1, Option.bind_some]
      simp only []
      rw [e2, Option.bind_some]
      simp only []
      rw [if_pos (by rw [hl2]; omega), e3, Option.bind_some]
      simp only []
      rw [hw, ht]
      by_cases h0 : v = 0
      · rw [if_pos (by rw [beq_iff_eq]; exact h0), if_pos (by rw [hl3]; omega), ht2]; exact i2
      · rw [if_neg (by rw [beq_iff_eq]; exact h0)]; exact i1
theorem poly_ex (tape : List W3) (hl : (tape.length : Int) ≤ 9223372036854775807) : ∃ (c : Bool) (o : List W34) (s : Int), F22 (Rt tape) 0 = some (resPoly tape s c o) ∧ (∀ p ∈ o, okp p) ∧ o.length ≤ 59 := by
  obtain ⟨v1, s1, e1, l1, u1, p1⟩ := next_ex tape 0 2 (by decide) hl (by decide)
  obtain ⟨v2, s2, e2, l2, u2, p2⟩ := next_ex tape s1 7 p1 hl (by decide)
  obtain ⟨o, s, h, r1, r2⟩ := poly_loop tape hl (v1 == 0) v2.toNat 100000 [] s2 p2 (by simp) (by simp only [List.length_nil]; omega) (by omega)
  refine ⟨v1 == 0, o, s, ?_, r1, r2⟩
  unfold F22
  rw [e1, Option.bind_some]
  simp only []
  rw [e2, Option.bind_some]
  simp only []
  have e : ((v2.toNat : Nat) : Int) = v2 := by omega
  rw [e] at h
  simp only [goPoly] at h
  rw [h, Option.bind_some]
  cases o <;> rfl

/-! ### The same lines are told to be the same -/
theorem points_loop (o : List W34) (h : o.length ≤ 121) : ∀ (n i : Nat), i ≤ o.length → o.length < n + i → L27_0 n (Rw o) (Rw o) i = some .e1
  | 0, i, hi, hn => by omega
  | n + 1, i, hi, hn => by
    have hlen : (Rw o).length = o.length := by simp
    rw [L27_0, hlen]
    by_cases hc : i < o.length
    · have g1 : (i : Int) < (o.length : Int) := by omega
      have g2 : (0 : Int) ≤ (i : Int) := by omega
      rw [if_pos g1, if_pos g2, show Int.toNat (i : Int) = i by omega, rw_get, List.getElem?_eq_getElem hc]
      simp only [Option.bind_some, beq_self_eq_true, Bool.and_self, Bool.not_true, Bool.false_eq_true, if_false]
      rw [wsucc (by omega)]
      exact points_loop o h n (i + 1) (by omega) (by omega)
    · have g1 : ¬ (i : Int) < (o.length : Int) := by omega
      rw [if_neg g1]
theorem points_same (o : List W34) (h : o.length ≤ 121) : F27 (Rw o) (Rw o) = some (.a0 true) := by
  have e := points_loop o h 100000 0 (by omega) (by omega)
  rw [show ((0 : Nat) : Int) = 0 by rfl] at e
  unfold F27
  rw [if_neg (by simp), e]; rfl
theorem polys_nil : F32 [[vb false, V.nilS]] [[vb false, V.nilS]] = some (.a0 true) := by kernel_rfl
theorem polys_same (o : List W34) (h : o.length ≤ 121) : F32 [[vb false, V.list 2 (Rw o)]] [[vb false, V.list 2 (Rw o)]] = some (.a0 true) := by
  have e : L32_0 100000 [[vb false, V.list 2 (Rw o)]] [[vb false, V.list 2 (Rw o)]] 0 = ((F27 (Rw o) (Rw o)).bind fun r => match r with | .a0 b => if (!b) = true then some R32_0.e1 else L32_0 99999 [[vb false, V.list 2 (Rw o)]] [[vb false, V.list 2 (Rw o)]] (w64 (0 + 1))) := by rfl
  unfold F32
  rw [if_neg (by simp), e, points_same o h, Option.bind_some]
  simp only [Bool.not_true, Bool.false_eq_true, if_false]
  rfl
theorem same_ok (c : Bool) {l : List W34} (hL : l.length ≤ 60) (f t : Int) : F38v1 c (Rw l) f t = some (.a0 true) := by
  obtain ⟨r, e1, e2⟩ := length2 c hL
  obtain ⟨o, e3, e4, ho⟩ := part2 c hL f t
  unfold F38v1
  rw [e1, e2]
  simp only [Option.bind_some, bnd_def, sidesA c l hL, sidesB c l hL, beq_self_eq_true, if_true, e3, e4]
  cases o with
  | nil => simp only [rA, rB, polys_nil, Option.bind_some]
  | cons x xs =>
    have hr : (Rw (x :: xs)).length = xs.length + 1 := by simp
    have ht : List.take (xs.length + 1) (Rw (x :: xs)) = Rw (x :: xs) := by rw [List.take_of_length_le (by rw [hr]; omega)]
    have g : 0 + (xs.length + 1) ≤ (Rw (x :: xs)).length := by rw [hr]; omega
    simp only [rA, rB, if_pos g, ht, polys_same (x :: xs) (by omega), Option.bind_some]
theorem same_nil (c : Bool) (f t : Int) : F38 c f t = some (.a0 true) := by
  have e1 : F23 c = some (.a0 0) := by cases c <;> kernel_rfl
  have e2 : F29 c = some (.a0 0) := by cases c <;> kernel_rfl
  have e3 : F26 c = 0 := by cases c <;> rfl
  have e4 : F58 c = 0 := by cases c <;> rfl
  have e5 : F24 c f t = some (.a0 false) := by
    unfold F24
    simp only [bnd_def, F57_eq]
    by_cases h : hd f ≥ hd t
    · rw [if_pos h]
    · rw [if_neg h, e3]; rfl
  have e6 : F70 c f t = some (.a0 false) := by
    unfold F70
    simp only [bnd_def, F74_eq]
    by_cases h : hd f ≥ hd t
    · rw [if_pos h]
    · rw [if_neg h]
      have : L70_0 100000 (hd f) (hd t) c = some .e0 := by
        rw [show (100000 : Nat) = 99999 + 1 by rfl, L70_0, bnd_def, e4]; rfl
      rw [this]; rfl
  unfold F38
  rw [e1, e2]
  simp only [Option.bind_some, bnd_def, e3, e4, beq_self_eq_true, if_true, e5, e6, polys_nil]
theorem known9 : F25 = some (.a0 true) := by kernel_rfl
theorem eq2 (a b : Int) : (a == a && (b == b && true)) = true := by simp
theorem arcTells_plain (tape : List W3) (hl : (tape.length : Int) ≤ 9223372036854775807) (f t : Int) (c : Bool) (raw : List W34) (a0 a1 b0 b1 d n : Int) : F10 (Rt tape) f t c (Rw raw) a0 a1 b0 b1 d n = some (.a0 true) := by
  obtain ⟨k, o, s, hp, _, ho⟩ := poly_ex tape hl
  obtain ⟨x1, y1, p1, q1⟩ := on2 a0 a1 b0 b1 d n
  obtain ⟨x2, y2, p2, q2⟩ := on2 a0 a1 b0 b1 (w64 (↑(BitVec.toNat (BitVec.ofInt (IntKind.bits IntKind.i64) d &&& BitVec.ofInt (IntKind.bits IntKind.i64) 65535)) : Int)) (w64 (↑(BitVec.toNat (BitVec.ofInt (IntKind.bits IntKind.i64) n &&& BitVec.ofInt (IntKind.bits IntKind.i64) 65535)) : Int))
  have hlen : (Rw raw).length = raw.length := by simp
  have htl : (raw.take 12).length ≤ 60 := by rw [List.length_take]; omega
  have ht : List.take 12 (Rw raw) = Rw (raw.take 12) := by simp [Rw, List.map_take]
  unfold F10
  rw [hp, hlen]
  by_cases hc : (raw.length : Int) > 12
  · have g : (0 : Int) ≤ (0 : Int) ∧ (0 : Int) ≤ (12 : Int) ∧ (12 : Int) ≤ (raw.length : Int) := by omega
    cases o with
    | nil => simp only [resPoly, Option.bind_some, if_pos hc, if_pos g, same_nil, if_true, ht, same_ok _ htl, p1, q1, p2, q2, eq2, known9]
    | cons z zs =>
      have hr : (Rw (z :: zs)).length = zs.length + 1 := by simp
      have ht2 : List.take (zs.length + 1) (Rw (z :: zs)) = Rw (z :: zs) := by rw [List.take_of_length_le (by rw [hr]; omega)]
      have g2 : 0 + (zs.length + 1) ≤ (Rw (z :: zs)).length := by rw [hr]; omega
      have ho2 : (z :: zs).length ≤ 60 := by omega
      simp only [resPoly, Option.bind_some, if_pos hc, if_pos g, if_pos g2, ht2, same_ok _ ho2, if_true, ht, same_ok _ htl, p1, q1, p2, q2, eq2, known9]
  · have hl2 : raw.length ≤ 60 := by omega
    cases o with
    | nil => simp only [resPoly, Option.bind_some, if_neg hc, same_nil, if_true, same_ok _ hl2, p1, q1, p2, q2, eq2, known9]
    | cons z zs =>
      have hr : (Rw (z :: zs)).length = zs.length + 1 := by simp
      have ht2 : List.take (zs.length + 1) (Rw (z :: zs)) = Rw (z :: zs) := by rw [List.take_of_length_le (by rw [hr]; omega)]
      have g2 : 0 + (zs.length + 1) ≤ (Rw (z :: zs)).length := by rw [hr]; omega
      have ho2 : (z :: zs).length ≤ 60 := by omega
      simp only [resPoly, Option.bind_some, if_neg hc, if_pos g2, ht2, same_ok _ ho2, if_true, same_ok _ hl2, p1, q1, p2, q2, eq2, known9]
end Go.Proofs.Ythohhdcngdmbeaa.H
