/- Outlines by the program and by the document: the same. Plain Lean over what the functions compute. Conditions: those stated. -/
import Derived.Test.YtojigbcgmneiiaaSt2
set_option linter.unusedVariables false
set_option linter.unusedSimpArgs false
namespace Go.Proofs.Ytojigbcgmneiiaa.H
open Go Go.VM
set_option maxRecDepth 100000
def mv (a : W43) (x y : Int) : W43 := ⟨w64 (a.c0 + x), w64 (a.c1 + y)⟩
def sA (s : W65) : W43 := ⟨s.c0, s.c1⟩
def sB (s : W65) : W43 := ⟨s.c2, s.c3⟩
def quad (a b : W43) (x y : Int) : List W43 := [mv a x y, mv b x y, mv b (w64 (0 - x)) (w64 (0 - y)), mv a (w64 (0 - x)) (w64 (0 - y))]
def bodyP (s : W65) (h : Int) (f t : Bool) : List W43 :=
  quad (if f = true then mv (sA s) (w64 (0 - mul s.c4 h)) (w64 (0 - mul s.c5 h)) else sA s) (if t = true then mv (sB s) (mul s.c4 h) (mul s.c5 h) else sB s) (mul (w64 (0 - s.c5)) h) (mul s.c4 h)
def J1 (s t : W65) (h : Int) : List W43 := [sA t, mv (sA t) (mul (w64 (0 - s.c5)) h) (mul s.c4 h), mv (sA t) (mul (w64 (0 - t.c5)) h) (mul t.c4 h)]
def J2 (s t : W65) (h : Int) : List W43 := [sA t, mv (sA t) (w64 (0 - mul (w64 (0 - s.c5)) h)) (w64 (0 - mul s.c4 h)), mv (sA t) (w64 (0 - mul (w64 (0 - t.c5)) h)) (w64 (0 - mul t.c4 h))]
/-- A poly of an outline. -/
def pg (l : List W43) : W25 := ⟨true, Rw (turn (pls l))⟩
def Pg (p : W25) : Prop := ∃ l : List W43, (l.length = 3 ∨ l.length = 4) ∧ p = pg l
theorem pg_gd {p : W25} (h : Pg p) : Gd p := by
  obtain ⟨l, h1, rfl⟩ := h
  exact ⟨turn (pls l), rfl, by rw [turn_len, pls_len]; omega⟩
theorem poly4 (l : List W43) (h : l.length = 4) : F64 4 (Rw l) = some (.a0 true 4 (Rw (pls l)) (Rw (turn (pls l)))) := by
  have := poly1 (l := l) (by omega)
  rw [h] at this; exact this
theorem poly3 (l : List W43) (h : l.length = 3) : F64 3 (Rw l) = some (.a0 true 3 (Rw (pls l)) (Rw (turn (pls l)))) := by
  have := poly1 (l := l) (by omega)
  rw [h] at this; exact this
theorem shape4 (l : List W43) (h : l.length = 4) : F72 (Rw l) = some (.a0 true 4 (Rw (turn (pls l)))) := by
  have := poly2 (l := l) (by omega)
  rw [h] at this; exact this
theorem shape3 (l : List W43) (h : l.length = 3) : F72 (Rw l) = some (.a0 true 3 (Rw (turn (pls l)))) := by
  have := poly2 (l := l) (by omega)
  rw [h] at this; exact this
theorem F63_mv (a : W43) (x y : Int) : F63 a.c0 a.c1 x y = some (.a0 (mv a x y).c0 (mv a x y).c1) := rfl
theorem F71_p (a : W43) (x y : Int) : F71 a.c0 a.c1 x y 1 = some (.a0 (mv a x y).c0 (mv a x y).c1) := by
  unfold F71 mv
  congr 2 <;> (simp only [w64_eq]; omega)
theorem F71_m (a : W43) (x y : Int) : F71 a.c0 a.c1 x y (-1) = some (.a0 (mv a (w64 (0 - x)) (w64 (0 - y))).c0 (mv a (w64 (0 - x)) (w64 (0 - y))).c1) := by
  unfold F71 mv
  congr 2 <;> (simp only [w64_eq]; omega)
theorem negv {v : Int} (h : -65536 ≤ v ∧ v ≤ 65536) : -65536 ≤ w64 (0 - v) ∧ w64 (0 - v) ≤ 65536 := by
  rw [w64_in (by omega) (by omega)]; omega
theorem across1 {s : W65} (hs : Sd s) {h : Int} (hh : 0 ≤ h ∧ h ≤ 67108864) : F61 s.c0 s.c1 s.c2 s.c3 s.c4 s.c5 h = some (.a0 (mul (w64 (0 - s.c5)) h) (mul s.c4 h)) := by
  unfold F61
  rw [(mul_at (negv hs.v) hh).1, Option.bind_some]
  simp only []
  rw [(mul_at hs.u hh).1]; rfl
theorem quad_rows (a b : W43) (x y : Int) : [[i64 (mv a x y).c0, i64 (mv a x y).c1], [i64 (mv b x y).c0, i64 (mv b x y).c1], [i64 (mv b (w64 (0 - x)) (w64 (0 - y))).c0, i64 (mv b (w64 (0 - x)) (w64 (0 - y))).c1], [i64 (mv a (w64 (0 - x)) (w64 (0 - y))).c0, i64 (mv a (w64 (0 - x)) (w64 (0 - y))).c1]] = Rw (quad a b x y) := rfl
theorem body1 {s : W65} (hs : Sd s) {h : Int} (hh : 0 ≤ h ∧ h ≤ 67108864) (f t : Bool) : F39 s.c0 s.c1 s.c2 s.c3 s.c4 s.c5 h f t = some (.a0 true 4 (Rw (turn (pls (bodyP s h f t))))) := by
  have m1 := (mul_at hs.u hh).1
  have m2 := (mul_at hs.v hh).1
  have a1 : ∀ x y, F63 s.c0 s.c1 x y = some (.a0 (mv (sA s) x y).c0 (mv (sA s) x y).c1) := fun x y => rfl
  have b1 : ∀ x y, F63 s.c2 s.c3 x y = some (.a0 (mv (sB s) x y).c0 (mv (sB s) x y).c1) := fun x y => rfl
  unfold F39
  rw [across1 hs hh, Option.bind_some]
  simp only []
  rw [m1, Option.bind_some]
  simp only []
  rw [m2, Option.bind_some]
  simp only []
  have pq : ∀ (a b : W43) (x y : Int), F64 4 [[i64 (mv a x y).c0, i64 (mv a x y).c1], [i64 (mv b x y).c0, i64 (mv b x y).c1], [i64 (mv b (w64 (0 - x)) (w64 (0 - y))).c0, i64 (mv b (w64 (0 - x)) (w64 (0 - y))).c1], [i64 (mv a (w64 (0 - x)) (w64 (0 - y))).c0, i64 (mv a (w64 (0 - x)) (w64 (0 - y))).c1]] = some (.a0 true 4 (Rw (pls (quad a b x y))) (Rw (turn (pls (quad a b x y))))) := fun a b x y => poly4 (quad a b x y) rfl
  unfold bodyP
  cases f with
  | true =>
    rw [if_pos rfl, a1, Option.bind_some]
    dsimp only
    cases t with
    | true =>
      rw [if_pos rfl, b1, Option.bind_some]
      dsimp only
      rw [F63_mv, Option.bind_some]
      dsimp only
      rw [F63_mv, Option.bind_some]
      dsimp only
      rw [F63_mv, Option.bind_some]
      dsimp only
      rw [F63_mv, Option.bind_some]
      dsimp only
      rw [pq, Option.bind_some]
      dsimp only
      rw [if_pos rfl, if_pos rfl]
    | false =>
      rw [if_neg (by decide)]
      rw [F63_mv, Option.bind_some]
      dsimp only
      rw [b1, Option.bind_some]
      dsimp only
      rw [b1, Option.bind_some]
      dsimp only
      rw [F63_mv, Option.bind_some]
      dsimp only
      rw [if_pos rfl, if_neg (by decide)]
      rw [pq, Option.bind_some]
  | false =>
    rw [if_neg (by decide)]
    cases t with
    | true =>
      rw [if_pos rfl, b1, Option.bind_some]
      dsimp only
      rw [a1, Option.bind_some]
      dsimp only
      rw [F63_mv, Option.bind_some]
      dsimp only
      rw [F63_mv, Option.bind_some]
      dsimp only
      rw [a1, Option.bind_some]
      dsimp only
      rw [if_neg (by decide), if_pos rfl]
      rw [pq, Option.bind_some]
    | false =>
      rw [if_neg (by decide)]
      rw [a1, Option.bind_some]
      dsimp only
      rw [b1, Option.bind_some]
      dsimp only
      rw [b1, Option.bind_some]
      dsimp only
      rw [a1, Option.bind_some]
      dsimp only
      rw [if_neg (by decide), if_neg (by decide)]
      rw [pq, Option.bind_some]
theorem joint1 {s t : W65} (hs : Sd s) (ht : Sd t) {h : Int} (hh : 0 ≤ h ∧ h ≤ 67108864) : F40 s.c0 s.c1 s.c2 s.c3 s.c4 s.c5 t.c0 t.c1 t.c2 t.c3 t.c4 t.c5 h = some (.a0 2 (Rp [pg (J1 s t h), pg (J2 s t h)])) := by
  have b1 : ∀ x y, F63 t.c0 t.c1 x y = some (.a0 (mv (sA t) x y).c0 (mv (sA t) x y).c1) := fun x y => rfl
  have p1 : F64 3 [[i64 t.c0, i64 t.c1], [i64 (mv (sA t) (mul (w64 (0 - s.c5)) h) (mul s.c4 h)).c0, i64 (mv (sA t) (mul (w64 (0 - s.c5)) h) (mul s.c4 h)).c1], [i64 (mv (sA t) (mul (w64 (0 - t.c5)) h) (mul t.c4 h)).c0, i64 (mv (sA t) (mul (w64 (0 - t.c5)) h) (mul t.c4 h)).c1]] = some (.a0 true 3 (Rw (pls (J1 s t h))) (Rw (turn (pls (J1 s t h))))) := poly3 (J1 s t h) rfl
  have p2 : F64 3 [[i64 t.c0, i64 t.c1], [i64 (mv (sA t) (w64 (0 - mul (w64 (0 - s.c5)) h)) (w64 (0 - mul s.c4 h))).c0, i64 (mv (sA t) (w64 (0 - mul (w64 (0 - s.c5)) h)) (w64 (0 - mul s.c4 h))).c1], [i64 (mv (sA t) (w64 (0 - mul (w64 (0 - t.c5)) h)) (w64 (0 - mul t.c4 h))).c0, i64 (mv (sA t) (w64 (0 - mul (w64 (0 - t.c5)) h)) (w64 (0 - mul t.c4 h))).c1]] = some (.a0 true 3 (Rw (pls (J2 s t h))) (Rw (turn (pls (J2 s t h))))) := poly3 (J2 s t h) rfl
  have l1 : (Rw (turn (pls (J1 s t h)))).length = 3 := by rw [rw_len, turn_len, pls_len]; rfl
  have l2 : (Rw (turn (pls (J2 s t h)))).length = 3 := by rw [rw_len, turn_len, pls_len]; rfl
  unfold F40
  rw [across1 hs hh, Option.bind_some]
  simp only []
  rw [across1 ht hh, Option.bind_some]
  rw [b1, Option.bind_some]
  dsimp only
  rw [b1, Option.bind_some]
  dsimp only
  rw [p1, Option.bind_some]
  dsimp only
  rw [b1, Option.bind_some]
  dsimp only
  rw [b1, Option.bind_some]
  dsimp only
  rw [p2, Option.bind_some]
  dsimp only
  rw [if_pos (by rw [l1]; omega), if_pos (by rw [l2]; omega), List.take_of_length_le (by rw [l1]; omega), List.take_of_length_le (by rw [l2]; omega)]
  rfl
theorem joint2 (s t : W65) (h : Int) : F73 (phi h s).c0 (phi h s).c1 (phi h s).c2 (phi h s).c3 (phi h s).c4 (phi h s).c5 (phi h s).c6 (phi h s).c7 (phi h t).c0 (phi h t).c1 (phi h t).c2 (phi h t).c3 (phi h t).c4 (phi h t).c5 (phi h t).c6 (phi h t).c7 = some (.a0 2 (Rp [pg (J1 s t h), pg (J2 s t h)])) := by
  have b1 : ∀ x y, F71 t.c0 t.c1 x y 1 = some (.a0 (mv (sA t) x y).c0 (mv (sA t) x y).c1) := fun x y => F71_p (sA t) x y
  have b2 : ∀ x y, F71 t.c0 t.c1 x y (-1) = some (.a0 (mv (sA t) (w64 (0 - x)) (w64 (0 - y))).c0 (mv (sA t) (w64 (0 - x)) (w64 (0 - y))).c1) := fun x y => F71_m (sA t) x y
  have p1 : F72 [[i64 t.c0, i64 t.c1], [i64 (mv (sA t) (mul (w64 (0 - s.c5)) h) (mul s.c4 h)).c0, i64 (mv (sA t) (mul (w64 (0 - s.c5)) h) (mul s.c4 h)).c1], [i64 (mv (sA t) (mul (w64 (0 - t.c5)) h) (mul t.c4 h)).c0, i64 (mv (sA t) (mul (w64 (0 - t.c5)) h) (mul t.c4 h)).c1]] = some (.a0 true 3 (Rw (turn (pls (J1 s t h))))) := shape3 (J1 s t h) rfl
  have p2 : F72 [[i64 t.c0, i64 t.c1], [i64 (mv (sA t) (w64 (0 - mul (w64 (0 - s.c5)) h)) (w64 (0 - mul s.c4 h))).c0, i64 (mv (sA t) (w64 (0 - mul (w64 (0 - s.c5)) h)) (w64 (0 - mul s.c4 h))).c1], [i64 (mv (sA t) (w64 (0 - mul (w64 (0 - t.c5)) h)) (w64 (0 - mul t.c4 h))).c0, i64 (mv (sA t) (w64 (0 - mul (w64 (0 - t.c5)) h)) (w64 (0 - mul t.c4 h))).c1]] = some (.a0 true 3 (Rw (turn (pls (J2 s t h))))) := shape3 (J2 s t h) rfl
  have l1 : (Rw (turn (pls (J1 s t h)))).length = 3 := by rw [rw_len, turn_len, pls_len]; rfl
  have l2 : (Rw (turn (pls (J2 s t h)))).length = 3 := by rw [rw_len, turn_len, pls_len]; rfl
  unfold F73 phi
  dsimp only
  rw [b1, Option.bind_some]
  dsimp only
  rw [b1, Option.bind_some]
  dsimp only
  rw [p1, Option.bind_some]
  dsimp only
  rw [b2, Option.bind_some]
  dsimp only
  rw [b2, Option.bind_some]
  dsimp only
  rw [p2, Option.bind_some]
  dsimp only
  rw [if_pos (by rw [l1]; omega), if_pos (by rw [l2]; omega), List.take_of_length_le (by rw [l1]; omega), List.take_of_length_le (by rw [l2]; omega)]
  rfl
theorem pushp (q : List W25) (b : Bool) (o : List (List V)) : List.take q.length (Rp q) ++ [[vb b, V.list 2 o]] = Rp (q ++ [⟨b, o⟩]) := by
  rw [List.take_of_length_le (by simp)]; simp
/-- Whether a line's ends are longer. -/
def ends (z : Int) (c : Bool) : Bool := if (z == 1) = true then !c else false
theorem bodies_loop (z : Int) (c : Bool) {q : List W65} (hq : ∀ s ∈ q, Sd s) (hL : q.length ≤ 1000) {h : Int} (hh : 0 ≤ h ∧ h ≤ 67108864) (rows : List (List V)) : ∀ (m n i : Nat) (out : List W25), i + m = q.length → m < n → out.length = i → (∀ p ∈ out, Pg p) →
    ∃ out' : List W25, L16_0 n h q.length (ends z c) out.length q.length i c rows (R6 q) (Rp out) = some (.e0 h q.length out'.length c rows (R6 q) (Rp out')) ∧
      L47_0 n z q.length out.length i c rows (R8 (q.map (phi h))) (Rp out) = some (.e0 q.length out'.length c rows (R8 (q.map (phi h))) (Rp out')) ∧ (∀ p ∈ out', Pg p) ∧ out'.length = q.length
  | _, 0, _, _, _, h, _, _ => by omega
  | 0, n + 1, i, out, hi, _, ho, hp => ⟨out, by rw [L16_0, if_neg (by omega)], by rw [L47_0, if_neg (by omega)], hp, by omega⟩
  | m + 1, n + 1, i, out, hi, hn, ho, hp => by
    have hiq : i < q.length := by omega
    have hw : w64 ((i : Int) + 1) = ((i + 1 : Nat) : Int) := wsucc (by omega)
    have c0 : (i : Int) < (q.length : Int) := by omega
    have c1 : (0 : Int) ≤ (i : Int) ∧ (i : Int) < (q.length : Int) := by omega
    have g6 : ((R6 q)[0 + Int.toNat (i : Int)]?).bind W65.dec = some q[i] := by rw [show 0 + Int.toNat (i : Int) = i by omega, r6_get, List.getElem?_eq_getElem hiq]
    have g8 : ((R8 (q.map (phi h)))[0 + Int.toNat (i : Int)]?).bind W86.dec = some (phi h q[i]) := by rw [show 0 + Int.toNat (i : Int) = i by omega, r8_get, List.getElem?_map, List.getElem?_eq_getElem hiq]; rfl
    have hs := hq q[i] (List.getElem_mem hiq)
    generalize q[i] = s at *
    have ih := fun (l : List W43) (h4 : l.length = 4) => bodies_loop z c hq hL hh rows m n (i + 1) (out ++ [pg l]) (by omega) (by omega) (by simp; omega) (fun p hp' => by
      rw [List.mem_append, List.mem_singleton] at hp'
      rcases hp' with hp' | rfl
      · exact hp p hp'
      · exact ⟨l, .inr h4, rfl⟩)
    have hr : 0 + out.length ≤ List.length (Rp out) ∧ (out.length + 1) * 32 ≤ 140737488355328 ∧ out.length + 1 ≤ 140737488355328 := by rw [rp_len]; omega
    have l4 : ∀ l : List W43, l.length = 4 → 0 + 4 ≤ (Rw (turn (pls l))).length := fun l h => by rw [rw_len, turn_len, pls_len]; omega
    have t4 : ∀ l : List W43, l.length = 4 → List.take 4 (Rw (turn (pls l))) = Rw (turn (pls l)) := fun l h => List.take_of_length_le (by rw [rw_len, turn_len, pls_len]; omega)
    have step : ∀ l : List W43, l.length = 4 → List.take out.length (Rp out) ++ [[vb true, V.list 2 (Rw (turn (pls l)))]] = Rp (out ++ [pg l]) := fun l _ => pushp out true _
    have q4 : ∀ a b x y, (quad a b x y).length = 4 := fun _ _ _ _ => rfl
    have A1 : ∀ x y, F71 s.c0 s.c1 x y 1 = some (.a0 (mv (sA s) x y).c0 (mv (sA s) x y).c1) := fun x y => F71_p (sA s) x y
    have A2 : ∀ x y, F71 s.c0 s.c1 x y (-1) = some (.a0 (mv (sA s) (w64 (0 - x)) (w64 (0 - y))).c0 (mv (sA s) (w64 (0 - x)) (w64 (0 - y))).c1) := fun x y => F71_m (sA s) x y
    have B1 : ∀ x y, F71 s.c2 s.c3 x y 1 = some (.a0 (mv (sB s) x y).c0 (mv (sB s) x y).c1) := fun x y => F71_p (sB s) x y
    have B2 : ∀ x y, F71 s.c2 s.c3 x y (-1) = some (.a0 (mv (sB s) (w64 (0 - x)) (w64 (0 - y))).c0 (mv (sB s) (w64 (0 - x)) (w64 (0 - y))).c1) := fun x y => F71_m (sB s) x y
    have bl : ∀ f t, (bodyP s h f t).length = 4 := fun _ _ => rfl
    -- what the program lays
    obtain ⟨f, t, hft, hpr⟩ : ∃ f t : Bool, (f = (ends z c && ((i : Int) == 0)) ∧ t = (ends z c && ((i : Int) == w64 ((q.length : Int) - 1)))) ∧
        L16_0 (n + 1) h q.length (ends z c) out.length q.length i c rows (R6 q) (Rp out) = L16_0 n h q.length (ends z c) (out.length + 1) q.length ((i + 1 : Nat) : Int) c rows (R6 q) (Rp (out ++ [pg (bodyP s h f t)])) := by
      refine ⟨_, _, ⟨rfl, rfl⟩, ?_⟩
      rw [L16_0, if_pos c0, if_pos c1, g6, Option.bind_some]
      cases he : ends z c with
      | true =>
        rw [if_pos rfl, body1 hs hh, Option.bind_some]
        simp only []
        rw [if_pos (l4 _ (bl _ _)), if_pos hr, t4 _ (bl _ _), step _ (bl _ _), hw]
        simp only [Bool.true_and]
      | false =>
        rw [if_neg (by decide), body1 hs hh, Option.bind_some]
        simp only []
        rw [if_pos (l4 _ (bl _ _)), if_pos hr, t4 _ (bl _ _), step _ (bl _ _), hw]
        simp only [Bool.false_and]
    have hrf : L47_0 (n + 1) z q.length out.length i c rows (R8 (q.map (phi h))) (Rp out) = L47_0 n z q.length (out.length + 1) ((i + 1 : Nat) : Int) c rows (R8 (q.map (phi h))) (Rp (out ++ [pg (bodyP s h f t)])) := by
      obtain ⟨rfl, rfl⟩ := hft
      rw [L47_0, if_pos c0, if_pos c1, g8, Option.bind_some]
      have sq : ∀ (a b : W43) (x y : Int), F72 [[i64 (mv a x y).c0, i64 (mv a x y).c1], [i64 (mv b x y).c0, i64 (mv b x y).c1], [i64 (mv b (w64 (0 - x)) (w64 (0 - y))).c0, i64 (mv b (w64 (0 - x)) (w64 (0 - y))).c1], [i64 (mv a (w64 (0 - x)) (w64 (0 - y))).c0, i64 (mv a (w64 (0 - x)) (w64 (0 - y))).c1]] = some (.a0 true 4 (Rw (turn (pls (quad a b x y))))) := fun a b x y => shape4 (quad a b x y) rfl
      have nt : (!true) = false := rfl
      have nf : (!false) = true := rfl
      unfold bodyP phi
      dsimp only
      by_cases z1 : (z == 1) = true
      · have he : ends z c = !c := by unfold ends; rw [if_pos z1]
        rw [if_pos z1, he]
        cases c with
        | true =>
          rw [nt, if_neg (by decide), Bool.false_and, Bool.false_and]
          rw [A1, Option.bind_some]
          dsimp only
          rw [B1, Option.bind_some]
          dsimp only
          rw [B2, Option.bind_some]
          dsimp only
          rw [A2, Option.bind_some]
          dsimp only
          rw [sq, Option.bind_some]
          dsimp only
          rw [if_pos (l4 _ (q4 _ _ _ _)), if_pos hr, t4 _ (q4 _ _ _ _), step _ (q4 _ _ _ _), hw]
          rw [if_neg (by decide), if_neg (by decide)]
        | false =>
          rw [nf, if_pos rfl, Bool.true_and, Bool.true_and]
          by_cases z2 : ((i : Int) == 0) = true
          · rw [if_pos z2]
            by_cases z3 : ((i : Int) == w64 ((q.length : Int) - 1)) = true
            · rw [A2, Option.bind_some]
              dsimp only
              rw [if_pos z3]
              rw [B1, Option.bind_some]
              dsimp only
              rw [F71_p, Option.bind_some]
              dsimp only
              rw [F71_p, Option.bind_some]
              dsimp only
              rw [F71_m, Option.bind_some]
              dsimp only
              rw [F71_m, Option.bind_some]
              dsimp only
              rw [sq, Option.bind_some]
              dsimp only
              rw [if_pos (l4 _ (q4 _ _ _ _)), if_pos hr, t4 _ (q4 _ _ _ _), step _ (q4 _ _ _ _), hw]
              rw [if_pos z2, if_pos z3]
            · rw [A2, Option.bind_some]
              dsimp only
              rw [if_neg z3]
              rw [F71_p, Option.bind_some]
              dsimp only
              rw [B1, Option.bind_some]
              dsimp only
              rw [B2, Option.bind_some]
              dsimp only
              rw [F71_m, Option.bind_some]
              dsimp only
              rw [sq, Option.bind_some]
              dsimp only
              rw [if_pos (l4 _ (q4 _ _ _ _)), if_pos hr, t4 _ (q4 _ _ _ _), step _ (q4 _ _ _ _), hw]
              rw [if_pos z2, if_neg z3]
          · rw [if_neg z2]
            by_cases z3 : ((i : Int) == w64 ((q.length : Int) - 1)) = true
            · rw [if_pos z3]
              rw [B1, Option.bind_some]
              dsimp only
              rw [A1, Option.bind_some]
              dsimp only
              rw [F71_p, Option.bind_some]
              dsimp only
              rw [F71_m, Option.bind_some]
              dsimp only
              rw [A2, Option.bind_some]
              dsimp only
              rw [sq, Option.bind_some]
              dsimp only
              rw [if_pos (l4 _ (q4 _ _ _ _)), if_pos hr, t4 _ (q4 _ _ _ _), step _ (q4 _ _ _ _), hw]
              rw [if_neg z2, if_pos z3]
            · rw [if_neg z3]
              rw [A1, Option.bind_some]
              dsimp only
              rw [B1, Option.bind_some]
              dsimp only
              rw [B2, Option.bind_some]
              dsimp only
              rw [A2, Option.bind_some]
              dsimp only
              rw [sq, Option.bind_some]
              dsimp only
              rw [if_pos (l4 _ (q4 _ _ _ _)), if_pos hr, t4 _ (q4 _ _ _ _), step _ (q4 _ _ _ _), hw]
              rw [if_neg z2, if_neg z3]
      · have he : ends z c = false := by unfold ends; rw [if_neg z1]
        rw [if_neg z1, he, Bool.false_and, Bool.false_and]
        rw [A1, Option.bind_some]
        dsimp only
        rw [B1, Option.bind_some]
        dsimp only
        rw [B2, Option.bind_some]
        dsimp only
        rw [A2, Option.bind_some]
        dsimp only
        rw [sq, Option.bind_some]
        dsimp only
        rw [if_pos (l4 _ (q4 _ _ _ _)), if_pos hr, t4 _ (q4 _ _ _ _), step _ (q4 _ _ _ _), hw]
        rw [if_neg (by decide), if_neg (by decide)]
    rw [hpr, hrf]
    have := ih (bodyP s h f t) (q4 _ _ _ _)
    rw [List.length_append, List.length_singleton] at this
    exact this
end Go.Proofs.Ytojigbcgmneiiaa.H
