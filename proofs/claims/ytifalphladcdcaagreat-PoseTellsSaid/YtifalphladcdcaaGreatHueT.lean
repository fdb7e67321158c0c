import Derived.Test.YtifalphladcdcaaGreatTurnT
set_option linter.unusedVariables false
set_option linter.unusedSimpArgs false
/- Outlines by the program and by the document: the same. Conditions: those stated. -/
namespace Go.Proofs.YtifalphladcdcaaGreat.H
open Go Go.VM
set_option maxRecDepth 100000
def mv (a : Pt) (x y : Int) : Pt := ⟨w64 (a.c0 + x), w64 (a.c1 + y)⟩
def sA (s : Sd) : Pt := ⟨s.c0, s.c1⟩
def sB (s : Sd) : Pt := ⟨s.c2, s.c3⟩
abbrev sM (s : Sd) : W59 := ⟨s.c0, s.c1, s.c2, s.c3, s.c4, s.c5⟩
def quad (a b : Pt) (x y : Int) : List Pt := [mv a x y, mv b x y, mv b (w64 (0 - x)) (w64 (0 - y)), mv a (w64 (0 - x)) (w64 (0 - y))]
def bodyP (s : Sd) (h : Int) (f t : Bool) : List Pt :=
  quad (if f = true then mv (sA s) (w64 (0 - mul s.c4 h)) (w64 (0 - mul s.c5 h)) else sA s) (if t = true then mv (sB s) (mul s.c4 h) (mul s.c5 h) else sB s) (mul (w64 (0 - s.c5)) h) (mul s.c4 h)
def wedA (s t : Sd) (h : Int) : List Pt := [sA t, mv (sA t) (mul (w64 (0 - s.c5)) h) (mul s.c4 h), mv (sA t) (mul (w64 (0 - t.c5)) h) (mul t.c4 h)]
def wedB (s t : Sd) (h : Int) : List Pt := [sA t, mv (sA t) (w64 (0 - mul (w64 (0 - s.c5)) h)) (w64 (0 - mul s.c4 h)), mv (sA t) (w64 (0 - mul (w64 (0 - t.c5)) h)) (w64 (0 - mul t.c4 h))]
/-- A poly of an outline. -/
def pg (l : List Pt) : Po := ⟨true, turn (pls l)⟩
def Pg (p : Po) : Prop := ∃ l : List Pt, (l.length = 3 ∨ l.length = 4) ∧ p = pg l
theorem pg_len {p : Po} (h : Pg p) : p.p.length ≤ 4 := by
  obtain ⟨l, h1, rfl⟩ := h
  show (turn (pls l)).length ≤ 4
  rw [turn_len, pls_len]; omega
theorem poly4 (x0 y0 x1 y1 x2 y2 x3 y3 : Int) : F272 4 [[i64 x0, i64 y0], [i64 x1, i64 y1], [i64 x2, i64 y2], [i64 x3, i64 y3]] = some (.a0 true 4 (Rp (pls [⟨x0, y0⟩, ⟨x1, y1⟩, ⟨x2, y2⟩, ⟨x3, y3⟩])) (Rp (turn (pls [⟨x0, y0⟩, ⟨x1, y1⟩, ⟨x2, y2⟩, ⟨x3, y3⟩])))) :=
  poly1 (l := [⟨x0, y0⟩, ⟨x1, y1⟩, ⟨x2, y2⟩, ⟨x3, y3⟩]) (by simp)
theorem poly3 (x0 y0 x1 y1 x2 y2 : Int) : F272 3 [[i64 x0, i64 y0], [i64 x1, i64 y1], [i64 x2, i64 y2]] = some (.a0 true 3 (Rp (pls [⟨x0, y0⟩, ⟨x1, y1⟩, ⟨x2, y2⟩])) (Rp (turn (pls [⟨x0, y0⟩, ⟨x1, y1⟩, ⟨x2, y2⟩])))) :=
  poly1 (l := [⟨x0, y0⟩, ⟨x1, y1⟩, ⟨x2, y2⟩]) (by simp)
theorem shape4 (x0 y0 x1 y1 x2 y2 x3 y3 : Int) : F210 [[i64 x0, i64 y0], [i64 x1, i64 y1], [i64 x2, i64 y2], [i64 x3, i64 y3]] = some (.a0 true 4 (Rp (turn (pls [⟨x0, y0⟩, ⟨x1, y1⟩, ⟨x2, y2⟩, ⟨x3, y3⟩])))) :=
  poly2 (l := [⟨x0, y0⟩, ⟨x1, y1⟩, ⟨x2, y2⟩, ⟨x3, y3⟩]) (by simp)
theorem shape3 (x0 y0 x1 y1 x2 y2 : Int) : F210 [[i64 x0, i64 y0], [i64 x1, i64 y1], [i64 x2, i64 y2]] = some (.a0 true 3 (Rp (turn (pls [⟨x0, y0⟩, ⟨x1, y1⟩, ⟨x2, y2⟩])))) :=
  poly2 (l := [⟨x0, y0⟩, ⟨x1, y1⟩, ⟨x2, y2⟩]) (by simp)
theorem tp_len (l : List Pt) : (Rp (turn (pls l))).length = l.length := by rw [rp_len, turn_len, pls_len]
theorem tp_take (l : List Pt) (n : Nat) (h : l.length = n) : List.take n (Rp (turn (pls l))) = Rp (turn (pls l)) := List.take_of_length_le (by rw [tp_len]; omega)
theorem beside1 (x y a b : Int) : F271 x y a b = some (.a0 (w64 (x + a)) (w64 (y + b))) := rfl
theorem plus1 (x y a b : Int) : F209 x y a b 1 = some (.a0 (w64 (x + a)) (w64 (y + b))) := by
  have e : ∀ u v : Int, w64 (u + w64 (1 * v)) = w64 (u + v) := fun u v => by simp only [w64_eq]; omega
  simp only [F209, D209, PT.ev, PT.test, dite_eq_ite, e]
theorem plus2 (x y a b : Int) : F209 x y a b (-1) = some (.a0 (w64 (x + w64 (0 - a))) (w64 (y + w64 (0 - b)))) := by
  have e : ∀ u v : Int, w64 (u + w64 (-1 * v)) = w64 (u + w64 (0 - v)) := fun u v => by simp only [w64_eq]; omega
  simp only [F209, D209, PT.ev, PT.test, dite_eq_ite, e]
theorem across1 (e : W59) (h : Int) : F270 e h = some (.a0 (mul (w64 (0 - e.c5)) h) (mul e.c4 h)) := by
  simp only [F270, D270, PT.ev, PT.test, dite_eq_ite, qmul, Option.bind_some]
theorem body1 (s : Sd) (h : Int) (f t : Bool) : F239 (sM s) h f t = some (.a0 true 4 (Rp (turn (pls (bodyP s h f t))))) := by
  simp only [F239, D239, J239_c33, D239_c33, J239_c40, D239_c40, PT.ev, PT.test, dite_eq_ite, across1, qmul, Option.bind_some]
  cases f <;> cases t <;> simp only [if_true, Bool.false_eq_true, if_false, beside1, Option.bind_some, PT.ev, PT.test, dite_eq_ite, poly4] <;> rfl
theorem jointP (s t : Sd) (h : Int) : F240 (sM s) (sM t) h = some (.a0 2 (Ro [pg (wedA s t h), pg (wedB s t h)])) := by
  simp only [F240, D240, PT.ev, PT.test, dite_eq_ite, across1, beside1, Option.bind_some, poly3, tp_len, List.length_cons, List.length_nil, Nat.zero_add, Nat.reduceAdd, Nat.le_refl, if_true]
  rw [tp_take _ 3 rfl, tp_take _ 3 rfl]; rfl
theorem jointR (s t : Sd) (h : Int) : F211 (phi h s).c0 (phi h s).c1 (phi h s).c2 (phi h s).c3 (phi h s).c4 (phi h s).c5 (phi h s).c6 (phi h s).c7 (phi h t).c0 (phi h t).c1 (phi h t).c2 (phi h t).c3 (phi h t).c4 (phi h t).c5 (phi h t).c6 (phi h t).c7 = some (.a0 2 (Ro [pg (wedA s t h), pg (wedB s t h)])) := by
  simp only [F211, D211, PT.ev, PT.test, dite_eq_ite, phi, plus1, plus2, Option.bind_some, shape3, tp_len, List.length_cons, List.length_nil, Nat.zero_add, Nat.reduceAdd, Nat.le_refl, if_true]
  rw [tp_take _ 3 rfl, tp_take _ 3 rfl]; rfl
/-- Whether a line's ends are longer. -/
def ends (z : Int) (c : Bool) : Bool := if (z == 1) = true then !c else false
theorem bodies_loop (z : Int) (c : Bool) {q : List Sd} (hL : q.length ≤ 1000000) {h : Int} (rows : List (List V)) : ∀ (m n i : Nat) (out : List Po), i + m = q.length → m < n → out.length = i → (∀ p ∈ out, Pg p) →
    ∃ out' : List Po, L197_0 n (.s0 (.mk h q.length (ends z c) out.length q.length i c rows (R6 q) (Ro out))) = some (.e0 (.mk h q.length out'.length c rows (R6 q) (Ro out'))) ∧
      L154_0 n (.s0 (.mk z q.length out.length i c rows (R8 (q.map (phi h))) (Ro out))) = some (.e0 (.mk q.length out'.length c rows (R8 (q.map (phi h))) (Ro out'))) ∧ (∀ p ∈ out', Pg p) ∧ out'.length = q.length
  | _, 0, _, _, _, h, _, _ => by omega
  | 0, n + 1, i, out, hi, _, ho, hp => by
    rw [L197_0_s0, L154_0_s0]
    simp only [D197_0, D154_0, PT.ev, PT.test, dite_eq_ite, if_neg (show ¬ (i : Int) < (q.length : Int) by omega), N197_0.nx, N154_0.nx]
    exact ⟨out, rfl, rfl, hp, by omega⟩
  | m + 1, n + 1, i, out, hi, hn, ho, hp => by
    have hiq : i < q.length := by omega
    have hw : w64 ((i : Int) + 1) = ((i + 1 : Nat) : Int) := by rw [w64_in (by omega) (by omega)]; omega
    have c0 : (i : Int) < (q.length : Int) := by omega
    have c1 : (0 : Int) ≤ (i : Int) ∧ (i : Int) < (q.length : Int) := by omega
    have g8 : ((R8 (q.map (phi h)))[i]?).bind W206.dec = some (phi h q[i]) := by rw [r8_get, List.getElem?_map, List.getElem?_eq_getElem hiq]; rfl
    have g6 : ((R6 q)[i]?).bind W223.dec = some q[i] := by rw [r6_get, List.getElem?_eq_getElem hiq]
    generalize q[i] = s at *
    have ih := fun (l : List Pt) (h4 : l.length = 4) => bodies_loop z c hL (h := h) rows m n (i + 1) (out ++ [pg l]) (by omega) (by omega) (by simp; omega) (fun p hp' => by
      rw [List.mem_append, List.mem_singleton] at hp'
      rcases hp' with hp' | rfl
      · exact hp p hp'
      · exact ⟨l, .inr h4, rfl⟩)
    have hr : out.length ≤ List.length (Ro out) ∧ (out.length + 1) * 32 ≤ 140737488355328 ∧ out.length + 1 ≤ 140737488355328 := by rw [ro_len]; omega
    have l4 : ∀ f t : Bool, 4 ≤ (Rp (turn (pls (bodyP s h f t)))).length := fun f t => by rw [tp_len]; exact Nat.le_refl _
    have t4 : ∀ f t : Bool, List.take 4 (Rp (turn (pls (bodyP s h f t)))) = Rp (turn (pls (bodyP s h f t))) := fun f t => tp_take _ 4 rfl
    obtain ⟨f, t, hft, hpr⟩ : ∃ f t : Bool, (f = (ends z c && ((i : Int) == 0)) ∧ t = (ends z c && ((i : Int) == w64 ((q.length : Int) - 1)))) ∧
        L197_0 (n + 1) (.s0 (.mk h q.length (ends z c) out.length q.length i c rows (R6 q) (Ro out))) = L197_0 n (.s0 (.mk h q.length (ends z c) (out.length + 1) q.length ((i + 1 : Nat) : Int) c rows (R6 q) (Ro (out ++ [pg (bodyP s h f t)])))) := by
      refine ⟨_, _, ⟨rfl, rfl⟩, ?_⟩
      rw [L197_0_s0]
      simp only [D197_0, PT.ev, PT.test, dite_eq_ite, if_pos c0, if_pos c1, Nat.zero_add, Int.toNat_natCast, g6, Option.bind_some]
      cases he : ends z c with
      | true => simp only [if_true, body1, Option.bind_some, PT.ev, PT.test, dite_eq_ite, Nat.zero_add, if_pos (l4 _ _), if_pos hr, t4, pushO, hw, N197_0.nx, Bool.true_and]; rfl
      | false => simp only [Bool.false_eq_true, if_false, body1, Option.bind_some, PT.ev, PT.test, dite_eq_ite, Nat.zero_add, if_pos (l4 _ _), if_pos hr, t4, pushO, hw, N197_0.nx, Bool.false_and]; rfl
    have hrf : L154_0 (n + 1) (.s0 (.mk z q.length out.length i c rows (R8 (q.map (phi h))) (Ro out))) = L154_0 n (.s0 (.mk z q.length (out.length + 1) ((i + 1 : Nat) : Int) c rows (R8 (q.map (phi h))) (Ro (out ++ [pg (bodyP s h f t)])))) := by
      obtain ⟨rfl, rfl⟩ := hft
      rw [L154_0_s0]
      simp only [D154_0, PT.ev, PT.test, dite_eq_ite, if_pos c0, if_pos c1, Nat.zero_add, Int.toNat_natCast, g8, Option.bind_some, J154_r10, D154_r10, J154_r12, D154_r12, J154_c48, D154_c48, J154_c69, D154_c69]
      have he : ends z c = if (z == 1) = true then !c else false := rfl
      rw [he]
      cases z1 : (z == 1) <;> cases c <;> cases z2 : ((i : Int) == 0) <;> cases z3 : ((i : Int) == w64 ((q.length : Int) - 1)) <;>
        simp only [Bool.not_true, Bool.not_false, Bool.false_eq_true, if_true, if_false, Option.bind_some, PT.ev, PT.test, dite_eq_ite, if_pos c1, Nat.zero_add, Int.toNat_natCast, g8, plus1, plus2, shape4, Bool.false_and, Bool.true_and, z1, z2, z3, tp_len, List.length_cons, List.length_nil, Nat.reduceAdd, Nat.le_refl, if_pos hr, hw, N154_0.nx] <;>
        rw [tp_take _ 4 rfl, pushO] <;> rfl
    rw [hpr, hrf]
    have := ih (bodyP s h f t) rfl
    rw [List.length_append, List.length_singleton] at this
    exact this
end Go.Proofs.YtifalphladcdcaaGreat.H

/- Outlines whole: by the program as by the document. Conditions: those stated. -/
namespace Go.Proofs.YtifalphladcdcaaGreat.H
open Go Go.VM
set_option maxRecDepth 100000
theorem ro_app (a b : List Po) : Ro a ++ Ro b = Ro (a ++ b) := by simp only [Ro, List.map_append]
theorem take2 (a b : Po) : List.take 2 (Ro [a, b]) = Ro [a, b] := rfl
theorem joints_loop (c : Bool) {q : List Sd} (hL : q.length ≤ 1000000) {h : Int} (rows : List (List V)) : ∀ (m n i : Nat) (out : List Po), 1 ≤ i → (i + m = q.length ∨ (q.length < i ∧ m = 0)) → m < n → out.length + 2 * m ≤ 4000000 → (∀ p ∈ out, Pg p) →
    ∃ out' : List Po, L197_2 n (.s0 (.mk h q.length out.length i c rows (R6 q) (Ro out))) = some (.e0 (.mk h q.length out'.length c rows (R6 q) (Ro out'))) ∧
      L154_2 n (.s0 (.mk q.length out.length i c rows (R8 (q.map (phi h))) (Ro out))) = some (.e0 (.mk q.length out'.length c rows (R8 (q.map (phi h))) (Ro out'))) ∧ (∀ p ∈ out', Pg p) ∧ out'.length = out.length + 2 * m
  | _, 0, _, _, _, _, h, _, _ => by omega
  | 0, n + 1, i, out, h1, hi, _, ho, hp => by
    rw [L197_2_s0, L154_2_s0]
    simp only [D197_2, D154_2, PT.ev, PT.test, dite_eq_ite, if_neg (show ¬ (i : Int) < (q.length : Int) by omega), N197_2.nx, N154_2.nx]
    exact ⟨out, rfl, rfl, hp, by omega⟩
  | m + 1, n + 1, i, out, h1, hi, hn, ho, hp => by
    have hiq : i < q.length := by omega
    have hiq' : i - 1 < q.length := by omega
    have hw : w64 ((i : Int) + 1) = ((i + 1 : Nat) : Int) := by rw [w64_in (by omega) (by omega)]; omega
    have hw' : w64 ((i : Int) - 1) = ((i - 1 : Nat) : Int) := by rw [w64_in (by omega) (by omega)]; omega
    have c0 : (i : Int) < (q.length : Int) := by omega
    have c1 : (0 : Int) ≤ (i : Int) ∧ (i : Int) < (q.length : Int) := by omega
    have c2 : (0 : Int) ≤ ((i - 1 : Nat) : Int) ∧ ((i - 1 : Nat) : Int) < (q.length : Int) := by omega
    have g6 : ((R6 q)[i]?).bind W223.dec = some q[i] := by rw [r6_get, List.getElem?_eq_getElem hiq]
    have g6' : ((R6 q)[i - 1]?).bind W223.dec = some q[i - 1] := by rw [r6_get, List.getElem?_eq_getElem hiq']
    have g8 : ((R8 (q.map (phi h)))[i]?).bind W206.dec = some (phi h q[i]) := by rw [r8_get, List.getElem?_map, List.getElem?_eq_getElem hiq]; rfl
    have g8' : ((R8 (q.map (phi h)))[i - 1]?).bind W206.dec = some (phi h q[i - 1]) := by rw [r8_get, List.getElem?_map, List.getElem?_eq_getElem hiq']; rfl
    generalize q[i] = t at *
    generalize q[i - 1] = s at *
    have ih := joints_loop c hL (h := h) rows m n (i + 1) (out ++ [pg (wedA s t h), pg (wedB s t h)]) (by omega) (by omega) (by omega) (by simp; omega) (fun p hp' => by
      rw [List.mem_append] at hp'
      rcases hp' with hp' | hp'
      · exact hp p hp'
      · simp only [List.mem_cons, List.not_mem_nil, or_false] at hp'
        rcases hp' with rfl | rfl
        · exact ⟨_, .inl rfl, rfl⟩
        · exact ⟨_, .inl rfl, rfl⟩)
    have hn2 : (out ++ [pg (wedA s t h), pg (wedB s t h)]).length = out.length + 2 := by simp
    rw [hn2] at ih
    have l2 : (Ro [pg (wedA s t h), pg (wedB s t h)]).length = 2 := rfl
    have hr : out.length ≤ (Ro out).length ∧ (out.length + 2) * 32 ≤ 140737488355328 ∧ out.length + 2 ≤ 140737488355328 := by rw [ro_len]; omega
    rw [L197_2_s0, L154_2_s0]
    simp only [D197_2, D154_2, PT.ev, PT.test, dite_eq_ite, if_pos c0, hw', if_pos c1, if_pos c2, Nat.zero_add, Int.toNat_natCast, g6, g6', g8, g8', Option.bind_some, jointP, jointR, l2, Nat.le_refl, if_true, take2, if_pos hr, ro_all, ro_app, hw, N197_2.nx, N154_2.nx]
    refine ih.imp fun out' ⟨a1, a2, a3, a4⟩ => ⟨a1, a2, a3, by omega⟩
theorem ends_j (z h : Int) (k : Nat) (c : Bool) (l l' : List (List V)) : J197_r5 (.mk z h k c l l') = some (.e0 (.mk h k (ends z c) c l l')) := by
  simp only [J197_r5, D197_r5, PT.ev, PT.test, dite_eq_ite]; unfold ends; cases (z == 1) <;> rfl
theorem shut_p (h : Int) (k k' : Nat) (c : Bool) (l l' l2 : List (List V)) : J197_r16 (.mk h k k' c l l' l2) = some (.e0 (.mk h k k' (c && decide ((k : Int) ≥ 2)) l' l2)) := by
  simp only [J197_r16, D197_r16, PT.ev, PT.test, dite_eq_ite]; cases c <;> rfl
theorem shut_r (k k' : Nat) (c : Bool) (l l' l2 : List (List V)) : J154_r19 (.mk k k' c l l' l2) = some (.e0 (.mk k k' (c && decide ((k : Int) ≥ 2)) l' l2)) := by
  simp only [J154_r19, D154_r19, PT.ev, PT.test, dite_eq_ite]; cases c <;> rfl
theorem stroke2 (c : Bool) {l : List Pt} (hL : l.length ≤ 1000000) (w z : Int) : ∃ Q : List Po, F197 c (Rp l) w z = some (.a0 Q.length (Ro Q)) ∧ F154 c (Rp l) w z = some (.a0 Q.length (Ro Q)) ∧ (∀ p ∈ Q, Pg p) ∧ Q.length ≤ 3 * l.length + 2 := by
  simp only [F197, F154, D197, D154, PT.ev, PT.test, dite_eq_ite, bnd_def, qclamp, rclamp]
  generalize cl (Int.fdiv w 2) 0 67108864 = h
  by_cases h0 : (h == 0) = true
  · simp only [if_pos h0]
    exact ⟨[], rfl, rfl, by simp, by simp⟩
  · obtain ⟨q, s1, s2, s3⟩ := sides2 c (l := l) (by omega) h
    have hns := ns_le c l
    obtain ⟨out1, b1, b2, b3, b4⟩ := bodies_loop z c (q := q) (by omega) (h := h) (Rp l) q.length 18446744073709551616 0 [] (by omega) (by omega) rfl (by simp)
    obtain ⟨out2, c1, c2, c3, c4⟩ := joints_loop c (q := q) (by omega) (h := h) (Rp l) (q.length - 1) 18446744073709551616 1 out1 (by omega) (by omega) (by omega) (by omega) b3
    rw [show ((0 : Nat) : Int) = 0 by rfl, show Ro [] = [] from rfl, show ([] : List Po).length = 0 from rfl] at b1 b2
    rw [show ((1 : Nat) : Int) = 1 by rfl] at c1 c2
    simp only [if_neg h0, s1, s2, Option.bind_some, PT.ev, PT.test, dite_eq_ite, ends_j, b1, b2, c1, c2, shut_p, shut_r]
    cases hcc : (c && decide ((q.length : Int) ≥ 2)) with
    | false =>
      simp only [Bool.false_eq_true, if_false]
      exact ⟨out2, rfl, rfl, c3, by omega⟩
    | true =>
      have h2 : 2 ≤ q.length := by
        rw [Bool.and_eq_true] at hcc
        have := of_decide_eq_true hcc.2
        omega
      have hl : w64 ((q.length : Int) - 1) = ((q.length - 1 : Nat) : Int) := by rw [w64_in (by omega) (by omega)]; omega
      have hlt : q.length - 1 < q.length := by omega
      have hz : 0 < q.length := by omega
      have d1 : (0 : Int) ≤ ((q.length - 1 : Nat) : Int) ∧ ((q.length - 1 : Nat) : Int) < (q.length : Int) := by omega
      have d2 : (0 : Int) ≤ 0 ∧ (0 : Int) < (q.length : Int) := by omega
      have g6' : ((R6 q)[q.length - 1]?).bind W223.dec = some q[q.length - 1] := by rw [r6_get, List.getElem?_eq_getElem hlt]
      have g6 : ((R6 q)[0]?).bind W223.dec = some q[0] := by rw [r6_get, List.getElem?_eq_getElem hz]
      have g8' : ((R8 (q.map (phi h)))[q.length - 1]?).bind W206.dec = some (phi h q[q.length - 1]) := by rw [r8_get, List.getElem?_map, List.getElem?_eq_getElem hlt]; rfl
      have g8 : ((R8 (q.map (phi h)))[0]?).bind W206.dec = some (phi h q[0]) := by rw [r8_get, List.getElem?_map, List.getElem?_eq_getElem hz]; rfl
      generalize q[q.length - 1] = s at *
      generalize q[0] = t at *
      have l2 : (Ro [pg (wedA s t h), pg (wedB s t h)]).length = 2 := rfl
      have hr : out2.length ≤ (Ro out2).length ∧ (out2.length + 2) * 32 ≤ 140737488355328 ∧ out2.length + 2 ≤ 140737488355328 := by rw [ro_len]; omega
      have hn2 : (out2 ++ [pg (wedA s t h), pg (wedB s t h)]).length = out2.length + 2 := by simp
      simp only [if_true, hl, if_pos d1, if_pos d2, Nat.zero_add, Int.toNat_natCast, g6, g6', g8, g8', Option.bind_some, PT.ev, PT.test, dite_eq_ite, jointP, jointR, l2, Nat.le_refl, take2, if_pos hr, ro_all, ro_app]
      refine ⟨out2 ++ [pg (wedA s t h), pg (wedB s t h)], by rw [hn2], by rw [hn2], ?_, by rw [hn2]; omega⟩
      intro p hp
      rw [List.mem_append] at hp
      rcases hp with hp | hp
      · exact c3 p hp
      · simp only [List.mem_cons, List.not_mem_nil, or_false] at hp
        rcases hp with rfl | rfl
        · exact ⟨_, .inl rfl, rfl⟩
        · exact ⟨_, .inl rfl, rfl⟩
end Go.Proofs.YtifalphladcdcaaGreat.H

/- Half sums, by bits. Conditions: those stated. -/
namespace Go.Proofs.YtifalphladcdcaaGreat.H
open Go Go.VM
set_option maxRecDepth 100000
theorem and_xor : ∀ a b : Nat, 2 * (a &&& b) + (a ^^^ b) = a + b := by
  intro a
  induction a using Nat.strongRecOn with
  | _ a ih =>
    intro b
    by_cases h : a = 0
    · subst h; simp
    · have := ih (a / 2) (by omega) (b / 2)
      rw [← Nat.and_div_two, ← Nat.xor_div_two] at this
      have m1 := Nat.and_mod_two_eq_one (a := a) (b := b)
      have m2 := Nat.xor_mod_two_eq_one (a := a) (b := b)
      omega
theorem and1 (a : Int) : w64 (↑(BitVec.toNat (BitVec.ofInt (IntKind.bits IntKind.i64) a &&& BitVec.ofInt (IntKind.bits IntKind.i64) 1)) : Int) = a % 2 := and_low .i64 1 (by decide) (fun n h h' => by rw [IntKind.wrap_i64]; omega) a
theorem half_bits (a b : Int) (ha : -9223372036854775808 ≤ a ∧ a ≤ 9223372036854775807) (hb : -9223372036854775808 ≤ b ∧ b ≤ 9223372036854775807) :
    w64 (w64 (↑(BitVec.toNat (BitVec.ofInt (IntKind.bits IntKind.i64) a &&& BitVec.ofInt (IntKind.bits IntKind.i64) b)) : Int) + Int.fdiv (w64 (↑(BitVec.toNat (BitVec.ofInt (IntKind.bits IntKind.i64) a ^^^ BitVec.ofInt (IntKind.bits IntKind.i64) b)) : Int)) 2) = (a + b) / 2 ∧
    w64 (w64 (Int.fdiv a 2 + Int.fdiv b 2) + w64 (↑(BitVec.toNat (BitVec.ofInt (IntKind.bits IntKind.i64) (w64 (↑(BitVec.toNat (BitVec.ofInt (IntKind.bits IntKind.i64) a &&& BitVec.ofInt (IntKind.bits IntKind.i64) b)) : Int)) &&& BitVec.ofInt (IntKind.bits IntKind.i64) 1)) : Int)) = (a + b) / 2 := by
  rw [and1]
  simp only [fd (show (0 : Int) ≤ 2 by decide), show IntKind.bits IntKind.i64 = 64 from rfl, BitVec.toNat_and, BitVec.toNat_xor, BitVec.toNat_ofInt, show (((2 : Nat) ^ 64 : Nat) : Int) = 18446744073709551616 from rfl]
  have eA : (((a % 18446744073709551616).toNat : Nat) : Int) = a % 18446744073709551616 := Int.toNat_of_nonneg (by omega)
  have eB : (((b % 18446744073709551616).toNat : Nat) : Int) = b % 18446744073709551616 := Int.toNat_of_nonneg (by omega)
  generalize (a % 18446744073709551616).toNat = A at *
  generalize (b % 18446744073709551616).toNat = B at *
  have k := and_xor A B
  have t1 : (A &&& B) / 2 ^ 63 = A / 2 ^ 63 &&& B / 2 ^ 63 := Nat.and_div_two_pow
  have t2 : (A ^^^ B) / 2 ^ 63 = A / 2 ^ 63 ^^^ B / 2 ^ 63 := Nat.xor_div_two_pow
  have m1 := Nat.and_mod_two_eq_one (a := A) (b := B)
  have cA : A / 2 ^ 63 = 0 ∨ A / 2 ^ 63 = 1 := by omega
  have cB : B / 2 ^ 63 = 0 ∨ B / 2 ^ 63 = 1 := by omega
  have sg : ∀ X t : Nat, X / 2 ^ 63 = t → t ≤ 1 → w64 (X : Int) = (X : Int) - 18446744073709551616 * (t : Int) := fun X t h1 h2 => by rw [w64_eq]; omega
  have main : ∃ x y : Int, w64 (((A &&& B : Nat)) : Int) = x ∧ w64 (((A ^^^ B : Nat)) : Int) = y ∧ 2 * x + y = a + b ∧ (x % 2 = 1 ↔ a % 2 = 1 ∧ b % 2 = 1) := by
    have a1 : a = (A : Int) - 18446744073709551616 * ((A / 2 ^ 63 : Nat) : Int) := by omega
    have b1 : b = (B : Int) - 18446744073709551616 * ((B / 2 ^ 63 : Nat) : Int) := by omega
    clear eA eB
    rcases cA with cA | cA <;> rcases cB with cB | cB <;> rw [cA, cB] at t1 t2 <;> rw [cA] at a1 <;> rw [cB] at b1
    · exact ⟨_, _, sg _ _ t1 (by decide), sg _ _ t2 (by decide), by simp only [Nat.zero_and, Nat.zero_xor]; omega, by simp only [Nat.zero_and]; omega⟩
    · exact ⟨_, _, sg _ _ t1 (by decide), sg _ _ t2 (by decide), by simp only [Nat.zero_and, Nat.zero_xor]; omega, by simp only [Nat.zero_and]; omega⟩
    · exact ⟨_, _, sg _ _ t1 (by decide), sg _ _ t2 (by decide), by simp only [Nat.and_zero, Nat.xor_zero]; omega, by simp only [Nat.and_zero]; omega⟩
    · exact ⟨_, _, sg _ _ t1 (by decide), sg _ _ t2 (by decide), by simp only [Nat.and_self, Nat.xor_self]; omega, by simp only [Nat.and_self]; omega⟩
  obtain ⟨x, y, e1, e2, e3, e4⟩ := main
  rw [e1, e2]
  clear e1 e2 sg t1 t2 m1 k eA eB cA cB
  have h1 : x + y / 2 = (a + b) / 2 := by omega
  have h2 : a / 2 + b / 2 + x % 2 = (a + b) / 2 := by omega
  rw [w64_in (n := x + y / 2) (by omega) (by omega), w64_in (n := a / 2 + b / 2) (by omega) (by omega), w64_in (n := a / 2 + b / 2 + x % 2) (by omega) (by omega)]
  exact ⟨h1, h2⟩
end Go.Proofs.YtifalphladcdcaaGreat.H

/- Bent lines as straight ones: the program's and the document's are the same. Conditions: those stated. -/
namespace Go.Proofs.YtifalphladcdcaaGreat.H
open Go Go.VM
set_option maxRecDepth 100000
def Bq (p : Pt) : Prop := (-4611686018427387904 ≤ p.c0 ∧ p.c0 ≤ 4611686018427387904) ∧ -4611686018427387904 ≤ p.c1 ∧ p.c1 ≤ 4611686018427387904
def hp (p q : Pt) : Pt := ⟨(p.c0 + q.c0) / 2, (p.c1 + q.c1) / 2⟩
theorem Bq.hp {p q : Pt} (a : Bq p) (b : Bq q) : Bq (hp p q) := by
  obtain ⟨⟨a1, a2⟩, a3, a4⟩ := a
  obtain ⟨⟨b1, b2⟩, b3, b4⟩ := b
  exact ⟨⟨by show _ ≤ (p.c0 + q.c0) / 2; omega, by show (p.c0 + q.c0) / 2 ≤ _; omega⟩, by show _ ≤ (p.c1 + q.c1) / 2; omega, by show (p.c1 + q.c1) / 2 ≤ _; omega⟩
theorem qhalf {p q : Pt} (a : Bq p) (b : Bq q) : F264 p.c0 p.c1 q.c0 q.c1 = some (.a0 (hp p q).c0 (hp p q).c1) := by
  obtain ⟨⟨a1, a2⟩, a3, a4⟩ := a
  obtain ⟨⟨b1, b2⟩, b3, b4⟩ := b
  simp only [F264, D264, PT.ev, PT.test, dite_eq_ite, bnd_def, F283, D283, PT.evT, (half_bits p.c0 q.c0 (by omega) (by omega)).1, (half_bits p.c1 q.c1 (by omega) (by omega)).1, hp]
theorem rhalf {p q : Pt} (a : Bq p) (b : Bq q) : F273 p.c0 p.c1 q.c0 q.c1 = some (.a0 (hp p q).c0 (hp p q).c1) := by
  obtain ⟨⟨a1, a2⟩, a3, a4⟩ := a
  obtain ⟨⟨b1, b2⟩, b3, b4⟩ := b
  simp only [F273, D273, PT.ev, PT.test, dite_eq_ite, bnd_def, F288, D288, PT.evT, (half_bits p.c0 q.c0 (by omega) (by omega)).2, (half_bits p.c1 q.c1 (by omega) (by omega)).2, hp]
def bendl : Nat → Pt → Pt → Pt → Pt → List Pt
  | 0, _, _, _, d => [d]
  | n + 1, a, b, c, d => bendl n a (hp a b) (hp (hp a b) (hp b c)) (hp (hp (hp a b) (hp b c)) (hp (hp b c) (hp c d))) ++ bendl n (hp (hp (hp a b) (hp b c)) (hp (hp b c) (hp c d))) (hp (hp b c) (hp c d)) (hp c d) d
theorem bendl_len : ∀ (n : Nat) (a b c d : Pt), (bendl n a b c d).length = 2 ^ n
  | 0, _, _, _, _ => rfl
  | n + 1, a, b, c, d => by rw [bendl, List.length_append, bendl_len, bendl_len, Nat.pow_succ]; omega
theorem bendl_bd : ∀ (n : Nat) {a b c d : Pt}, Bq a → Bq b → Bq c → Bq d → ∀ p ∈ bendl n a b c d, Bq p
  | 0, a, b, c, d, _, _, _, hd, p, hp => by rw [bendl, List.mem_singleton] at hp; rw [hp]; exact hd
  | n + 1, a, b, c, d, ha, hb, hc, hd, p, hp' => by
    rw [bendl, List.mem_append] at hp'
    have e1 := ha.hp hb
    have e2 := hb.hp hc
    have e3 := hc.hp hd
    have f1 := e1.hp e2
    have f2 := e2.hp e3
    have g := f1.hp f2
    rcases hp' with h | h
    · exact bendl_bd n ha e1 f1 g p h
    · exact bendl_bd n g f2 e3 hd p h
theorem qbent1 : ∀ (k n : Nat) (acc : List Pt) {a b c d : Pt}, k ≤ 3 → k < n → acc.length + 2 ^ k ≤ 1000000000 → Bq a → Bq b → Bq c → Bq d →
    F232v1 n acc.length a.c0 a.c1 b.c0 b.c1 c.c0 c.c1 d.c0 d.c1 k (Rp acc) = some (.a0 (acc ++ bendl k a b c d).length (Rp (acc ++ bendl k a b c d)))
  | _, 0, _, _, _, _, _, _, h, _, _, _, _, _ => by omega
  | 0, n + 1, acc, a, b, c, d, _, _, hl, _, _, _, _ => by
    rw [F232v1_succ]
    have hq : 0 + acc.length ≤ (Rp acc).length ∧ (acc.length + 1) * 16 ≤ 140737488355328 ∧ acc.length + 1 ≤ 140737488355328 := by rw [rp_len]; omega
    have hp : List.take acc.length (Rp acc) ++ [[i64 d.c0, i64 d.c1]] = Rp (acc ++ [d]) := push1 acc d
    simp only [D232v1, PT.ev, PT.test, dite_eq_ite, show ((0 : Nat) : Int) = 0 from rfl, beq_self_eq_true, if_true, if_pos hq, hp, bendl, List.length_append, List.length_singleton]
  | k + 1, n + 1, acc, a, b, c, d, h3, hk, hl, ha, hb, hc, hd => by
    have e1 := ha.hp hb
    have e2 := hb.hp hc
    have e3 := hc.hp hd
    have f1 := e1.hp e2
    have f2 := e2.hp e3
    have g := f1.hp f2
    have hz : (((k + 1 : Nat) : Int) == 0) = false := by rw [beq_eq_false_iff_ne]; omega
    have hw : w64 (((k + 1 : Nat) : Int) - 1) = (k : Int) := by rw [w64_in (by omega) (by omega)]; omega
    have hpos := Nat.two_pow_pos k
    have h2 : 2 ^ (k + 1) = 2 ^ k + 2 ^ k := by rw [Nat.pow_succ]; omega
    have i1 := qbent1 k n acc (by omega) (by omega) (by omega) ha e1 f1 g
    have i2 := qbent1 k n (acc ++ bendl k a (hp a b) (hp (hp a b) (hp b c)) (hp (hp (hp a b) (hp b c)) (hp (hp b c) (hp c d)))) (by omega) (by omega) (by rw [List.length_append, bendl_len]; omega) g f2 e3 hd
    rw [F232v1_succ]
    simp only [D232v1, PT.ev, PT.test, dite_eq_ite, hz, Bool.false_eq_true, if_false, qhalf ha hb, qhalf hb hc, qhalf hc hd, qhalf e1 e2, qhalf e2 e3, qhalf f1 f2, Option.bind, hw, i1, i2, bendl, List.append_assoc]
theorem qbent0 : ∀ (k n : Nat) {a b c d : Pt}, k ≤ 3 → k < n → Bq a → Bq b → Bq c → Bq d →
    F232 n a.c0 a.c1 b.c0 b.c1 c.c0 c.c1 d.c0 d.c1 k = some (.a0 (bendl k a b c d).length (Rp (bendl k a b c d)))
  | _, 0, _, _, _, _, _, h, _, _, _, _ => by omega
  | 0, n + 1, a, b, c, d, _, _, _, _, _, _ => by
    rw [F232_succ]
    simp only [D232, PT.ev, PT.test, dite_eq_ite, show ((0 : Nat) : Int) = 0 from rfl, beq_self_eq_true, if_true, bendl]
    rfl
  | k + 1, n + 1, a, b, c, d, h3, hk, ha, hb, hc, hd => by
    have e1 := ha.hp hb
    have e2 := hb.hp hc
    have e3 := hc.hp hd
    have f1 := e1.hp e2
    have f2 := e2.hp e3
    have g := f1.hp f2
    have hz : (((k + 1 : Nat) : Int) == 0) = false := by rw [beq_eq_false_iff_ne]; omega
    have hw : w64 (((k + 1 : Nat) : Int) - 1) = (k : Int) := by rw [w64_in (by omega) (by omega)]; omega
    have h8 : 2 ^ k ≤ 2 ^ 3 := Nat.pow_le_pow_right (by decide) (by omega)
    have i1 := qbent0 k n (by omega) (by omega) ha e1 f1 g
    have i2 := qbent1 k 100000 (bendl k a (hp a b) (hp (hp a b) (hp b c)) (hp (hp (hp a b) (hp b c)) (hp (hp b c) (hp c d)))) (by omega) (by omega) (by rw [bendl_len]; omega) g f2 e3 hd
    rw [F232_succ]
    simp only [D232, PT.ev, PT.test, dite_eq_ite, hz, Bool.false_eq_true, if_false, qhalf ha hb, qhalf hb hc, qhalf hc hd, qhalf e1 e2, qhalf e2 e3, qhalf f1 f2, Option.bind, hw, i1, i2, bendl]
theorem rbendc : ∀ (k n : Nat) {a b c d : Pt}, k ≤ 3 → k < n → Bq a → Bq b → Bq c → Bq d →
    F242 n a.c0 a.c1 b.c0 b.c1 c.c0 c.c1 d.c0 d.c1 k = some (.a0 (bendl k a b c d).length (Rp (bendl k a b c d)))
  | _, 0, _, _, _, _, _, h, _, _, _, _ => by omega
  | 0, n + 1, a, b, c, d, _, _, _, _, _, _ => by
    rw [F242_succ]
    simp only [D242, PT.ev, PT.test, dite_eq_ite, show ((0 : Nat) : Int) = 0 from rfl, beq_self_eq_true, if_true, bendl]
    rfl
  | k + 1, n + 1, a, b, c, d, h3, hk, ha, hb, hc, hd => by
    have e1 := ha.hp hb
    have e2 := hb.hp hc
    have e3 := hc.hp hd
    have f1 := e1.hp e2
    have f2 := e2.hp e3
    have g := f1.hp f2
    have hz : (((k + 1 : Nat) : Int) == 0) = false := by rw [beq_eq_false_iff_ne]; omega
    have hw : w64 (((k + 1 : Nat) : Int) - 1) = (k : Int) := by rw [w64_in (by omega) (by omega)]; omega
    have h8 : 2 ^ k ≤ 2 ^ 3 := Nat.pow_le_pow_right (by decide) (by omega)
    have i1 := rbendc k n (by omega) (by omega) ha e1 f1 g
    have i2 := rbendc k n (by omega) (by omega) g f2 e3 hd
    have z0 : ∀ n : Nat, 0 + n ≤ n := fun n => by omega
    rw [F242_succ]
    simp only [D242, PT.ev, PT.test, dite_eq_ite, hz, Bool.false_eq_true, if_false, rhalf ha hb, rhalf hb hc, rhalf hc hd, rhalf e1 e2, rhalf e2 e3, rhalf f1 f2, Option.bind, hw, i1, i2, rp_len, if_pos (z0 _), rp_all]
    have hl1 := bendl_len k a (hp a b) (hp (hp a b) (hp b c)) (hp (hp (hp a b) (hp b c)) (hp (hp b c) (hp c d)))
    have hl2 := bendl_len k (hp (hp (hp a b) (hp b c)) (hp (hp b c) (hp c d))) (hp (hp b c) (hp c d)) (hp c d) d
    rw [if_pos (by omega), bendl, List.length_append, Rp, Rp, Rp, List.map_append]
theorem qbend8 {a b c d : Pt} (ha : Bq a) (hb : Bq b) (hc : Bq c) (hd : Bq d) : F192 a.c0 a.c1 b.c0 b.c1 c.c0 c.c1 d.c0 d.c1 = some (.a0 8 (Rp (bendl 3 a b c d))) := by
  have h := qbent0 3 100000 (by decide) (by decide) ha hb hc hd
  rw [bendl_len, show ((3 : Nat) : Int) = 3 from rfl] at h
  simp only [F192, D192, PT.ev, PT.test, dite_eq_ite, h, Option.bind_some]
theorem rbend8 {a b c d : Pt} (ha : Bq a) (hb : Bq b) (hc : Bq c) (hd : Bq d) : F200 a.c0 a.c1 b.c0 b.c1 c.c0 c.c1 d.c0 d.c1 = some (.a0 8 (Rp (bendl 3 a b c d))) := by
  have h := rbendc 3 100000 (by decide) (by decide) ha hb hc hd
  rw [bendl_len, show ((3 : Nat) : Int) = 3 from rfl] at h
  simp only [F200, D200, PT.ev, PT.test, dite_eq_ite, h, Option.bind_some]
theorem flat_loop (c : Bool) (ps : List Pt) (hb : ∀ p ∈ ps, Bq p) (hl : ps.length ≤ 1000000) : ∀ (n i : Nat) (acc : List Pt), i ≤ ps.length → ps.length < n + i → acc.length ≤ 8 * i + 1 → (∀ p ∈ acc, Bq p) →
    ∃ qs : List Pt, L138_0 n (.s0 (.mk acc.length i c (Rp ps) (Rp acc))) = some (.e0 (.mk qs.length c (Rp ps) (Rp qs))) ∧ L149_0 n (.s0 (.mk i c (Rp ps) acc.length (Rp acc))) = some (.e0 (.mk c qs.length (Rp qs))) ∧ qs.length ≤ 8 * (ps.length + 3) + 1 ∧ (∀ p ∈ qs, Bq p) ∧ acc.length ≤ qs.length
  | 0, i, acc, h1, h2, _, _ => by omega
  | n + 1, i, acc, h1, h2, h3, h4 => by
    have hw3 : w64 ((i : Int) + 3) = ((i + 3 : Nat) : Int) := by rw [w64_in (by omega) (by omega)]; omega
    rw [L138_0_s0, L149_0_s0]
    by_cases h : i + 3 < ps.length
    · have hw1 : w64 ((i : Int) + 1) = ((i + 1 : Nat) : Int) := by rw [w64_in (by omega) (by omega)]; omega
      have hw2 : w64 ((i : Int) + 2) = ((i + 2 : Nat) : Int) := by rw [w64_in (by omega) (by omega)]; omega
      have g0 : ps[i]? = some ps[i] := List.getElem?_eq_getElem (by omega)
      have g1 : ps[i + 1]? = some ps[i + 1] := List.getElem?_eq_getElem (by omega)
      have g2 : ps[i + 2]? = some ps[i + 2] := List.getElem?_eq_getElem (by omega)
      have g3 : ps[i + 3]? = some ps[i + 3] := List.getElem?_eq_getElem (by omega)
      have b0 := hb ps[i] (List.getElem_mem _)
      have b1 := hb ps[i + 1] (List.getElem_mem _)
      have b2 := hb ps[i + 2] (List.getElem_mem _)
      have b3 := hb ps[i + 3] (List.getElem_mem _)
      simp only [D138_0, J138_r8, D138_r8, D149_0, J149_r8, D149_r8, PT.ev, PT.test, dite_eq_ite, rp_len, hw1, hw2, hw3, if_pos (show ((i + 3 : Nat) : Int) < (ps.length : Int) by omega),
        if_pos (show (0 : Int) ≤ (i : Int) by omega), if_pos (show (0 : Int) ≤ ((i + 1 : Nat) : Int) by omega), if_pos (show (0 : Int) ≤ ((i + 2 : Nat) : Int) by omega), if_pos (show (0 : Int) ≤ ((i + 3 : Nat) : Int) by omega), Int.toNat_natCast, rp_get, g0, g1, g2, g3, Option.bind_some]
      have z0 : ∀ n : Nat, 0 + n ≤ n := fun n => by omega
      have one : ∃ qs : List Pt, L138_0 n (.s0 (.mk (acc.length + 1) (i + 3 : Nat) c (Rp ps) (Rp (acc ++ [ps[i + 3]])))) = some (.e0 (.mk qs.length c (Rp ps) (Rp qs))) ∧ L149_0 n (.s0 (.mk (i + 3 : Nat) c (Rp ps) (acc.length + 1) (Rp (acc ++ [ps[i + 3]])))) = some (.e0 (.mk c qs.length (Rp qs))) ∧ qs.length ≤ 8 * (ps.length + 3) + 1 ∧ (∀ p ∈ qs, Bq p) ∧ acc.length ≤ qs.length := by
        obtain ⟨qs, a1, a2, a3, a4, a5⟩ := flat_loop c ps hb hl n (i + 3) (acc ++ [ps[i + 3]]) (by omega) (by omega) (by simp; omega) (fun p hp => by
          rw [List.mem_append, List.mem_singleton] at hp
          rcases hp with hp | rfl
          · exact h4 p hp
          · exact b3)
        rw [List.length_append, List.length_singleton] at a1 a2 a5
        exact ⟨qs, a1, a2, a3, a4, by omega⟩
      have many : ∃ qs : List Pt, L138_0 n (.s0 (.mk (acc.length + 8) (i + 3 : Nat) c (Rp ps) (Rp (acc ++ bendl 3 ps[i] ps[i + 1] ps[i + 2] ps[i + 3])))) = some (.e0 (.mk qs.length c (Rp ps) (Rp qs))) ∧ L149_0 n (.s0 (.mk (i + 3 : Nat) c (Rp ps) (acc.length + 8) (Rp (acc ++ bendl 3 ps[i] ps[i + 1] ps[i + 2] ps[i + 3])))) = some (.e0 (.mk c qs.length (Rp qs))) ∧ qs.length ≤ 8 * (ps.length + 3) + 1 ∧ (∀ p ∈ qs, Bq p) ∧ acc.length ≤ qs.length := by
        obtain ⟨qs, a1, a2, a3, a4, a5⟩ := flat_loop c ps hb hl n (i + 3) (acc ++ bendl 3 ps[i] ps[i + 1] ps[i + 2] ps[i + 3]) (by omega) (by omega) (by rw [List.length_append, bendl_len]; omega) (fun p hp => by
          rw [List.mem_append] at hp
          rcases hp with hp | hp
          · exact h4 p hp
          · exact bendl_bd 3 b0 b1 b2 b3 p hp)
        rw [List.length_append, bendl_len] at a1 a2 a5
        exact ⟨qs, a1, a2, a3, a4, by omega⟩
      have hq1 : 0 + acc.length ≤ (Rp acc).length ∧ (acc.length + 1) * 16 ≤ 140737488355328 ∧ acc.length + 1 ≤ 140737488355328 := by rw [rp_len]; omega
      have l8 : (Rp (bendl 3 ps[i] ps[i + 1] ps[i + 2] ps[i + 3])).length = 8 := by rw [rp_len, bendl_len]
      have t8 : List.take 8 (Rp (bendl 3 ps[i] ps[i + 1] ps[i + 2] ps[i + 3])) = Rp (bendl 3 ps[i] ps[i + 1] ps[i + 2] ps[i + 3]) := List.take_of_length_le (by rw [l8]; exact Nat.le_refl _)
      have hq8 : 0 + acc.length ≤ (Rp acc).length ∧ (acc.length + 8) * 16 ≤ 140737488355328 ∧ acc.length + 8 ≤ 140737488355328 := by rw [rp_len]; omega
      have p1 : List.take acc.length (Rp acc) ++ [[i64 ps[i + 3].c0, i64 ps[i + 3].c1]] = Rp (acc ++ [ps[i + 3]]) := push1 acc ps[i + 3]
      have p8 : List.take acc.length (Rp acc) ++ Rp (bendl 3 ps[i] ps[i + 1] ps[i + 2] ps[i + 3]) = Rp (acc ++ bendl 3 ps[i] ps[i + 1] ps[i + 2] ps[i + 3]) := by rw [rp_all, Rp, Rp, Rp, List.map_append]
      have cm : (ps[i + 1].c0 == ps[i].c0 && (ps[i + 1].c1 == ps[i].c1 && true)) = (ps[i].c0 == ps[i + 1].c0 && (ps[i].c1 == ps[i + 1].c1 && true)) := by rw [BEq.comm (a := ps[i + 1].c0), BEq.comm (a := ps[i + 1].c1)]
      cases c1 : (ps[i].c0 == ps[i + 1].c0 && (ps[i].c1 == ps[i + 1].c1 && true)) <;> cases c2 : (ps[i + 2].c0 == ps[i + 3].c0 && (ps[i + 2].c1 == ps[i + 3].c1 && true)) <;>
        simp only [cm, if_true, if_false, Bool.false_eq_true, Option.bind_some, PT.ev, PT.test, dite_eq_ite, if_pos hq1, p1, qbend8 b0 b1 b2 b3, rbend8 b0 b1 b2 b3, l8, t8, if_pos (z0 8), if_pos hq8, p8, N138_0.nx, N149_0.nx, hw3, c1, c2] <;>
        first | exact one | exact many
    · simp only [D138_0, D149_0, PT.ev, PT.test, dite_eq_ite, rp_len, hw3, if_neg (show ¬ ((i + 3 : Nat) : Int) < (ps.length : Int) by omega), N138_0.nx, N149_0.nx]
      exact ⟨acc, rfl, rfl, by omega, h4, Nat.le_refl _⟩
end Go.Proofs.YtifalphladcdcaaGreat.H

/- A path as straight lines, lines mapped: the program's and the document's. Conditions: those stated. -/
namespace Go.Proofs.YtifalphladcdcaaGreat.H
open Go Go.VM
set_option maxRecDepth 100000
theorem nrp_bq {p : Pt} (h : nrp p = true) : Bq p := by
  simp only [nrp, nr, Bool.and_eq_true, decide_eq_true_eq] at h
  obtain ⟨⟨a, b⟩, c, d⟩ := h
  exact ⟨⟨by omega, by omega⟩, by omega, by omega⟩
theorem flat_ex (c : Bool) (ps : List Pt) (hl : (ps.length : Int) < 4611686018427387904) : ∃ qs : List Pt, F138 c (Rp ps) = some (.a0 c qs.length (Rp qs)) ∧ F149 c (Rp ps) = some (.a0 c qs.length (Rp qs)) ∧ qs.length ≤ 1000 := by
  simp only [F138, F149, D138, D149, J138_r1, D138_r1, J149_r1, D149_r1, PT.ev, PT.test, dite_eq_ite, bnd_def, qempty, qright c ps hl, rright c ps hl, Option.bind_some, rp_len]
  by_cases h0 : ps.length = 0
  · have e1 : ((ps.length : Int) == 0) = true := by rw [beq_iff_eq]; omega
    simp only [decide_eq_true h0, e1, if_true, Option.bind_some]
    cases rightv c ps <;> exact ⟨[], rfl, rfl, by simp⟩
  · have e1 : ((ps.length : Int) == 0) = false := by rw [beq_eq_false_iff_ne]; omega
    simp only [decide_eq_false h0, e1, Bool.false_eq_true, if_false, Option.bind_some]
    cases hr : rightv c ps with
    | false => exact ⟨[], rfl, rfl, by simp⟩
    | true =>
      unfold rightv at hr
      rw [if_neg h0] at hr
      simp only [Bool.and_eq_true, decide_eq_true_eq, List.all_eq_true] at hr
      have hlen : ps.length ≤ 97 := hr.2.1
      have hall : ∀ p ∈ ps, Bq p := fun p hp => nrp_bq (hr.2.2.2 p hp)
      have hz : 0 < ps.length := by omega
      have g0 : ps[0]? = some ps[0] := List.getElem?_eq_getElem hz
      obtain ⟨qs, a1, a2, a3, _, _⟩ := flat_loop c ps hall (by omega) 18446744073709551616 0 [ps[0]] (by omega) (by omega) (by simp) (fun p hp => by rw [List.mem_singleton.1 hp]; exact hall _ (List.getElem_mem hz))
      rw [show ((0 : Nat) : Int) = 0 from rfl, show ([ps[0]] : List Pt).length = 1 from rfl, show Rp [ps[0]] = [[i64 ps[0].c0, i64 ps[0].c1]] from rfl] at a1 a2
      simp only [Bool.not_true, Bool.false_eq_true, if_false, rp_get, g0, Option.bind_some, a1, a2]
      exact ⟨qs, rfl, rfl, by omega⟩
/-! ### Lines mapped -/
def mapo (m : Mt) (q : Po) : Po := ⟨q.c, q.p.map (apm m)⟩
theorem line_loop (m : Mt) (ps : List Pt) (hl : ps.length ≤ 1000000) (k0 : Nat) (l1 : List (List V)) (z2 z3 : Int) (l8 : List (List V)) (b9 : Bool) : ∀ (n i : Nat) (acc : List Pt), acc = (ps.map (apm m)).take i → i ≤ ps.length → ps.length < n + i →
    L147_2 n (.s0 (.mk k0 l1 z2 z3 (Rp ps) ps.length i m l8 b9 acc.length (Rp acc))) = some (.e0 (.mk k0 l1 z2 z3 m l8 b9 ps.length (Rp (ps.map (apm m)))))
  | 0, i, acc, _, h1, h2 => by omega
  | n + 1, i, acc, ha, h1, h2 => by
    rw [L147_2_s0]
    have hla : acc.length = i := by rw [ha, List.length_take, List.length_map]; omega
    by_cases h : i < ps.length
    · have hr : 0 + acc.length ≤ (Rp acc).length ∧ (acc.length + 1) * 16 ≤ 140737488355328 ∧ acc.length + 1 ≤ 140737488355328 := by rw [rp_len]; omega
      have hp : List.take acc.length (Rp acc) ++ [[i64 (ap m.c0 ps[i].c0 m.c2 ps[i].c1 m.c4), i64 (ap m.c1 ps[i].c0 m.c3 ps[i].c1 m.c5)]] = Rp (acc ++ [apm m ps[i]]) := push1 acc (apm m ps[i])
      have hw : w64 ((i : Int) + 1) = ((i + 1 : Nat) : Int) := by rw [w64_in (by omega) (by omega)]; omega
      have ih := line_loop m ps hl k0 l1 z2 z3 l8 b9 n (i + 1) (acc ++ [apm m ps[i]]) (by rw [ha, List.take_add_one, List.getElem?_map, List.getElem?_eq_getElem h]; rfl) h (by omega)
      rw [List.length_append, List.length_singleton] at ih
      simp only [D147_2, PT.ev, PT.test, dite_eq_ite, if_pos (show (i : Int) < (ps.length : Int) by omega), if_pos (show (0 : Int) ≤ (i : Int) by omega), Int.toNat_natCast, rp_get, List.getElem?_eq_getElem h, Option.bind_some, apply_q, if_pos hr, hp, hw, N147_2.nx]
      exact ih
    · have e : acc = ps.map (apm m) := by rw [ha, List.take_of_length_le (by rw [List.length_map]; omega)]
      have hz : acc.length = ps.length := by omega
      simp only [D147_2, PT.ev, PT.test, dite_eq_ite, if_neg (show ¬ (i : Int) < (ps.length : Int) by omega), N147_2.nx, e, List.length_map]
theorem lines_loop (m : Mt) (qs : List Po) (hq : ∀ q ∈ qs, q.p.length ≤ 1000000) (hl : qs.length ≤ 1000000) : ∀ (n i : Nat) (acc : List Po), acc = (qs.map (mapo m)).take i → i ≤ qs.length → qs.length < n + i →
    L147_0 n (.s0 (.mk acc.length (Ro qs) qs.length i m (Ro acc))) = some (.e0 (.mk qs.length (Ro (qs.map (mapo m))))) ∧ L148_0 n (.s0 (.mk (Ro qs) acc.length i m (Ro acc))) = some (.e0 (.mk qs.length (Ro (qs.map (mapo m)))))
  | 0, i, acc, _, h1, h2 => by omega
  | n + 1, i, acc, ha, h1, h2 => by
    rw [L147_0_s0, L148_0_s0]
    have hla : acc.length = i := by rw [ha, List.length_take, List.length_map]; omega
    by_cases h : i < qs.length
    · have hqi := hq qs[i] (List.getElem_mem h)
      have hr : 0 + acc.length ≤ (Ro acc).length ∧ (acc.length + 1) * 32 ≤ 140737488355328 ∧ acc.length + 1 ≤ 140737488355328 := by rw [ro_len]; omega
      have hw : w64 ((i : Int) + 1) = ((i + 1 : Nat) : Int) := by rw [w64_in (by omega) (by omega)]; omega
      have ih := lines_loop m qs hq hl n (i + 1) (acc ++ [mapo m qs[i]]) (by rw [ha, List.take_add_one, List.getElem?_map, List.getElem?_eq_getElem h]; rfl) h (by omega)
      rw [List.length_append, List.length_singleton] at ih
      have inn := line_loop m qs[i].p hqi acc.length (Ro qs) qs.length i (Ro acc) qs[i].c 18446744073709551616 0 [] rfl (by omega) (by omega)
      rw [show ((0 : Nat) : Int) = 0 from rfl, show Rp [] = [] from rfl, show ([] : List Pt).length = 0 from rfl] at inn
      have tk : List.take qs[i].p.length (Rp (qs[i].p.map (apm m))) = Rp (qs[i].p.map (apm m)) := List.take_of_length_le (by rw [rp_len, List.length_map]; exact Nat.le_refl _)
      have z0 : 0 + qs[i].p.length ≤ (Rp (qs[i].p.map (apm m))).length := by rw [rp_len, List.length_map]; omega
      have rm := rmap m qs[i].p (by omega)
      have ps : List.take acc.length (Ro acc) ++ [[vb qs[i].c, V.list 2 (Rp (qs[i].p.map (apm m)))]] = Ro (acc ++ [mapo m qs[i]]) := pushO acc qs[i].c (qs[i].p.map (apm m))
      simp only [D147_0, D148_0, PT.ev, PT.test, dite_eq_ite, ro_len, if_pos (show (i : Int) < (qs.length : Int) by omega), if_pos (show (0 : Int) ≤ (i : Int) by omega), Int.toNat_natCast, ro_get, List.getElem?_eq_getElem h, Option.map_some, Option.bind_some, rp_len, inn, rm, tk, if_pos z0]
      rw [ro_len] at hr
      simp only [rp_len, List.length_map] at z0
      simp only [rp_len, ro_len, List.length_map, if_pos z0, if_pos hr, ps, hw, N147_0.nx, N148_0.nx]
      exact ih
    · have e : acc = qs.map (mapo m) := by rw [ha, List.take_of_length_le (by rw [List.length_map]; omega)]
      have hz : acc.length = qs.length := by omega
      simp only [D147_0, D148_0, PT.ev, PT.test, dite_eq_ite, ro_len, if_neg (show ¬ (i : Int) < (qs.length : Int) by omega), N147_0.nx, N148_0.nx, e, List.length_map]
      exact ⟨trivial, trivial⟩
theorem lines_ex (m : Mt) (qs : List Po) (hq : ∀ q ∈ qs, q.p.length ≤ 1000000) (hl : qs.length ≤ 1000000) : F147 m (Ro qs) = some (.a0 qs.length (Ro (qs.map (mapo m)))) ∧ F148 m (Ro qs) = some (.a0 qs.length (Ro (qs.map (mapo m)))) := by
  obtain ⟨a1, a2⟩ := lines_loop m qs hq hl 18446744073709551616 0 [] rfl (by omega) (by omega)
  rw [show ((0 : Nat) : Int) = 0 from rfl, show Ro [] = [] from rfl, show ([] : List Po).length = 0 from rfl] at a1 a2
  simp only [F147, F148, D147, D148, PT.ev, PT.test, dite_eq_ite, ro_len, a1, a2, Option.bind_some]
  exact ⟨trivial, trivial⟩
end Go.Proofs.YtifalphladcdcaaGreat.H

/- A colour between colours, a paint mapped: the program's and the document's. Conditions: those stated. -/
namespace Go.Proofs.YtifalphladcdcaaGreat.H
open Go Go.VM
set_option maxRecDepth 100000
theorem flr {V : Int} (h1 : -9223372036854775808 ≤ V) (h2 : V ≤ 9223372036854775807) : (if Int.tmod V 65536 < 0 then w64 (w64 (Int.tdiv V 65536) - 1) else w64 (Int.tdiv V 65536)) = Int.fdiv V 65536 := by
  rw [Int.fdiv_eq_ediv_of_nonneg _ (by decide)]
  rcases Int.le_total 0 V with h | h
  · rw [Int.tmod_eq_emod_of_nonneg h, Int.tdiv_eq_ediv_of_nonneg h, if_neg (by omega), w64_in (by omega) (by omega)]
  · obtain ⟨U, rfl⟩ : ∃ U, V = -U := ⟨-V, by omega⟩
    rw [Int.neg_tmod, Int.neg_tdiv, Int.tmod_eq_emod_of_nonneg (by omega), Int.tdiv_eq_ediv_of_nonneg (by omega), w64_in (n := -(U / 65536)) (by omega) (by omega)]
    by_cases c : -(U % 65536) < 0
    · rw [if_pos c, w64_in (by omega) (by omega)]; omega
    · rw [if_neg c]; omega
theorem w64_rng (a : Int) : -9223372036854775808 ≤ w64 a ∧ w64 a ≤ 9223372036854775807 := by rw [w64_eq]; omega
def mixc (a b t : Int) : Int := IntKind.wrap IntKind.u8 (cl (w64 (w64 a + Int.fdiv (w64 (w64 (w64 b - w64 a) * hd t)) 65536)) 0 255)
theorem qmix (a0 a1 a2 a3 b0 b1 b2 b3 t : Int) : F233 a0 a1 a2 a3 b0 b1 b2 b3 t = some (.a0 (mixc a0 b0 t) (mixc a1 b1 t) (mixc a2 b2 t) (mixc a3 b3 t)) := by
  simp only [F233, D233, PT.ev, PT.test, dite_eq_ite, bnd_def, qhold, qclamp, mixc]
theorem rmix (a0 a1 a2 a3 b0 b1 b2 b3 t : Int) : F203 a0 a1 a2 a3 b0 b1 b2 b3 t = some (.a0 (mixc a0 b0 t) (mixc a1 b1 t) (mixc a2 b2 t) (mixc a3 b3 t)) := by
  have e0 := flr (w64_rng (w64 (w64 b0 - w64 a0) * hd t)).1 (w64_rng _).2
  have e1 := flr (w64_rng (w64 (w64 b1 - w64 a1) * hd t)).1 (w64_rng _).2
  have e2 := flr (w64_rng (w64 (w64 b2 - w64 a2) * hd t)).1 (w64_rng _).2
  have e3 := flr (w64_rng (w64 (w64 b3 - w64 a3) * hd t)).1 (w64_rng _).2
  by_cases h0 : Int.tmod (w64 (w64 (w64 b0 - w64 a0) * hd t)) 65536 < 0 <;> by_cases h1 : Int.tmod (w64 (w64 (w64 b1 - w64 a1) * hd t)) 65536 < 0 <;> by_cases h2 : Int.tmod (w64 (w64 (w64 b2 - w64 a2) * hd t)) 65536 < 0 <;> by_cases h3 : Int.tmod (w64 (w64 (w64 b3 - w64 a3) * hd t)) 65536 < 0 <;>
    simp only [h0, h1, h2, h3, if_true, if_false] at e0 e1 e2 e3 <;>
    simp only [F203, D203, PT.ev, PT.test, dite_eq_ite, bnd_def, rhold, rclamp, mixc, h0, h1, h2, h3, if_true, if_false, e0, e1, e2, e3]
def lsC (ks : List Ck) (t : Int) : Nat → Int
  | 0 => -1
  | m + 1 => match ks[m]? with
    | some k => if k.c0 ≤ t then m else lsC ks t m
    | none => lsC ks t m
theorem lsC_bd (ks : List Ck) (t : Int) : ∀ m : Nat, -1 ≤ lsC ks t m ∧ lsC ks t m < m
  | 0 => by simp [lsC]
  | m + 1 => by
    have := lsC_bd ks t m
    unfold lsC
    split
    · split <;> omega
    · omega
theorem hfind_loop (ks : List Ck) (hl : (ks.length : Int) < 4611686018427387904) (t : Int) : ∀ (n m : Nat), m ≤ ks.length → m < n →
    L193_0 n (.s0 (.mk (Rc ks) t ((m : Int) - 1))) = some (.e0 (.mk (Rc ks) t (lsC ks t m)))
  | 0, m, _, hn => by omega
  | n + 1, m, hm, hn => by
    rw [L193_0_s0]
    cases m with
    | zero => simp only [D193_0, PT.ev, PT.test, dite_eq_ite, if_neg (show ¬ (((0 : Nat) : Int) - 1 ≥ 0) by omega), N193_0.nx, lsC]; rfl
    | succ m =>
      have hi : m < ks.length := by omega
      have e : ((m + 1 : Nat) : Int) - 1 = (m : Int) := by omega
      have hw : w64 ((m : Int) - 1) = (m : Int) - 1 := by rw [w64_in (by omega) (by omega)]
      simp only [D193_0, PT.ev, PT.test, dite_eq_ite, e, if_pos (show (m : Int) ≥ 0 by omega), if_pos (show (0 : Int) ≤ (m : Int) by omega), Int.toNat_natCast, rc_get, List.getElem?_eq_getElem hi, Option.bind_some, N193_0.nx, N193_0.nx, hw, lsC]
      by_cases h : ks[m].c0 ≤ t
      · rw [if_neg (by omega), if_pos h]
      · rw [if_pos (by omega), if_neg h]
        exact hfind_loop ks hl t n m (by omega) (by omega)
theorem cfind_loop (ks : List Ck) (hl : (ks.length : Int) < 4611686018427387904) (t : Int) : ∀ (n i : Nat), i ≤ ks.length → ks.length < n + i →
    L151_0 n (.s0 (.mk (Rc ks) t (lsC ks t i) i)) = some (.e0 (.mk (Rc ks) t (lsC ks t ks.length)))
  | 0, i, _, hn => by omega
  | n + 1, i, hi, hn => by
    rw [L151_0_s0]
    by_cases h : i < ks.length
    · have ih := cfind_loop ks hl t n (i + 1) (by omega) (by omega)
      have e : lsC ks t (i + 1) = if ks[i].c0 ≤ t then (i : Int) else lsC ks t i := by
        rw [lsC, List.getElem?_eq_getElem h]
      rw [e] at ih
      simp only [D151_0, PT.ev, PT.test, dite_eq_ite, rc_len, if_pos (show (i : Int) < (ks.length : Int) by omega), if_pos (show (0 : Int) ≤ (i : Int) by omega), Int.toNat_natCast, rc_get, List.getElem?_eq_getElem h, Option.bind_some, N151_0.nx, wi (show (i : Int) < 9223372036854775807 by omega)]
      by_cases hc : ks[i].c0 ≤ t
      · rw [if_pos hc] at ih ⊢; exact ih
      · rw [if_neg hc] at ih ⊢; exact ih
    · simp only [D151_0, PT.ev, PT.test, dite_eq_ite, rc_len, if_neg (show ¬ (i : Int) < (ks.length : Int) by omega), N151_0.nx]
      rw [show i = ks.length by omega]
theorem color_ex (ks : List Ck) (hl : (ks.length : Int) < 4611686018427387904) (t r g b a : Int) : ∃ r' g' b' a' : Int, F193 (Rc ks) t r g b a = some (.a0 r' g' b' a') ∧ F151 (Rc ks) t r g b a = some (.a0 r' g' b' a') := by
  have hb := lsC_bd ks t ks.length
  have f1 := hfind_loop ks hl t 18446744073709551616 ks.length (by omega) (by omega)
  have f2 := cfind_loop ks hl t 18446744073709551616 0 (by omega) (by omega)
  rw [show lsC ks t 0 = -1 from rfl, show ((0 : Nat) : Int) = 0 from rfl] at f2
  have hw : w64 ((ks.length : Int) - 1) = (ks.length : Int) - 1 := by rw [w64_in (by omega) (by omega)]
  simp only [F193, D193, F151, D151, PT.ev, PT.test, dite_eq_ite, rc_len, hw, f1, f2, Option.bind_some, beq_iff_eq]
  by_cases h0 : ks.length = 0
  · have h0' : (ks.length : Int) = 0 := by omega
    simp only [h0', if_true]; exact ⟨_, _, _, _, rfl, rfl⟩
  · simp only [if_neg (show ¬ (ks.length : Int) = 0 by omega)]
    generalize lsC ks t ks.length = z at *
    by_cases h1 : z = -1
    · have g0 : ks[0]? = some ks[0] := List.getElem?_eq_getElem (by omega)
      simp only [if_pos h1, if_pos (show z < 0 by omega), rc_get, g0, Option.bind_some]; exact ⟨_, _, _, _, rfl, rfl⟩
    · simp only [if_neg h1, if_neg (show ¬ z < 0 by omega)]
      have hz : z.toNat < ks.length := by omega
      by_cases h2 : z = (ks.length : Int) - 1
      · simp only [if_pos h2, if_pos (show 0 ≤ z by omega), rc_get, List.getElem?_eq_getElem hz, Option.bind_some]; exact ⟨_, _, _, _, rfl, rfl⟩
      · have hz2 : (z + 1).toNat < ks.length := by omega
        have hw2 : w64 (z + 1) = z + 1 := w64_in (by omega) (by omega)
        simp only [if_neg h2, if_pos (show 0 ≤ z by omega), hw2, if_pos (show 0 ≤ z + 1 by omega), rc_get, List.getElem?_eq_getElem hz, List.getElem?_eq_getElem hz2, Option.bind_some, qpart, qgoes, rpart, rgoes, qmix, rmix]
        exact ⟨_, _, _, _, rfl, rfl⟩
/-! ### Paints -/
theorem width_ex (m : Mt) : ∃ w : Int, F234 m = some (.a0 w) ∧ F202 m = some (.a0 w) := by
  obtain ⟨r, h1, h2⟩ := hyp2 m.c0 m.c1
  simp only [F234, D234, F202, D202, PT.ev, PT.test, dite_eq_ite, h1, h2, Option.bind_some]
  exact ⟨_, rfl, rfl⟩
theorem pmap_ex (m : Mt) (z10 z11 z12 z13 z14 : Int) : ∃ a b c d e : Int, ∀ z1 z2 z3 z4 z5 z6 z7 z8 z9 : Int, F194 m z1 z2 z3 z4 z5 z6 z7 z8 z9 z10 z11 z12 z13 z14 = some (.a0 z1 z2 z3 z4 z5 z6 z7 z8 z9 a b c d e) ∧ F150 m z1 z2 z3 z4 z5 z6 z7 z8 z9 z10 z11 z12 z13 z14 = some (.a0 z1 z2 z3 z4 z5 z6 z7 z8 z9 a b c d e) := by
  obtain ⟨w, h1, h2⟩ := width_ex m
  simp only [F194, D194, F150, D150, PT.ev, PT.test, dite_eq_ite, h1, h2, apply_q, apply_r, qmul, rmul, Option.bind_some]
  exact ⟨_, _, _, _, _, fun _ _ _ _ _ _ _ _ _ => ⟨rfl, rfl⟩⟩
end Go.Proofs.YtifalphladcdcaaGreat.H
