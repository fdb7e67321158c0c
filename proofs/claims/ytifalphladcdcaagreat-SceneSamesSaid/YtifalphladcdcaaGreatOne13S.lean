import Derived.Test.YtifalphladcdcaaGreatOne9S
set_option linter.unusedVariables false
set_option linter.unusedSimpArgs false
/- Nodes that are the same, and that are not, by the program. Conditions: those stated. -/
namespace Go.Proofs.YtifalphladcdcaaGreat.H
open Go Go.VM
set_option maxRecDepth 100000
theorem spl_ne (X Y : List (List V)) (h : (X.length : Int) ≠ (Y.length : Int)) : F92 X Y = some (.a0 false) := by
  simp only [F92, D92, F159, D159, PT.ev, PT.test, dite_eq_ite, if_pos (show ((X.length : Int) != (Y.length : Int)) = true from bne_iff_ne.2 h), Option.bind_some]
theorem spl_loop (Q : List Po) (hq : ∀ q ∈ Q, q.p.length ≤ 2000) (hl : Q.length ≤ 1000000) : ∀ (n i : Nat), i ≤ Q.length → Q.length < n + i → L159_0 n (.s0 (.mk (Ro Q) (Ro Q) Q.length i)) = some .e1
  | 0, i, h1, h2 => by omega
  | n + 1, i, h1, h2 => by
    rw [L159_0_s0]
    by_cases h : i < Q.length
    · have hw : w64 ((i : Int) + 1) = ((i + 1 : Nat) : Int) := by rw [w64_in (by omega) (by omega)]; omega
      have ih := spl_loop Q hq hl n (i + 1) h (by omega)
      have hb := hq _ (List.getElem_mem h)
      simp only [D159_0, PT.ev, PT.test, dite_eq_ite, if_pos (show (i : Int) < (Q.length : Int) by omega), if_pos (show (0 : Int) ≤ (i : Int) by omega), Int.toNat_natCast, ro_get, List.getElem?_eq_getElem h, Option.map_some, Option.bind_some, F160, D160, beq_self_eq_true, if_true, qequal Q[i].p Q[i].p (by omega), eqs_refl, Bool.not_true, Bool.false_eq_true, if_false, hw, N159_0.nx]
      exact ih
    · simp only [D159_0, PT.ev, PT.test, dite_eq_ite, if_neg (show ¬ (i : Int) < (Q.length : Int) by omega), N159_0.nx]
theorem spl_eq {X : List (List V)} (h : Pq X) : F92 X X = some (.a0 true) := by
  obtain ⟨Q, rfl, h1, h2⟩ := h
  have l := spl_loop Q h1 h2 18446744073709551616 0 (by omega) (by omega)
  rw [show ((0 : Nat) : Int) = 0 from rfl] at l
  simp only [F92, D92, F159, D159, PT.ev, PT.test, dite_eq_ite, bne_self_eq_false, Bool.false_eq_true, if_false, ro_len, l, Option.bind_some]
/-- A node that is no deeper than so much. -/
def Nk (d : Nat) (n : Nd) : Prop := Pq n.c1 ∧ Pq n.c19 ∧ Gnd d n.c18 ∧ Gnd d n.c21
theorem eqn_loop (rF : K34) (hF : H34 rF) (ns : List Nd) (hl : ns.length ≤ 4000) (h : ∀ n ∈ ns, rF n n = some (.a0 true)) : ∀ (n i : Nat), i ≤ ns.length → ns.length < n + i → L93_0 rF hF n (.s0 (.mk (Rnd ns) (Rnd ns) ns.length i)) = some .e1
  | 0, i, h1, h2 => by omega
  | n + 1, i, h1, h2 => by
    rw [L93_0_s0]
    by_cases c : i < ns.length
    · have hw : w64 ((i : Int) + 1) = ((i + 1 : Nat) : Int) := by rw [w64_in (by omega) (by omega)]; omega
      have ih := eqn_loop rF hF ns hl h n (i + 1) c (by omega)
      simp only [D93_0, PT.ev, PT.test, dite_eq_ite, if_pos (show (i : Int) < (ns.length : Int) by omega), if_pos (show (0 : Int) ≤ (i : Int) by omega), Int.toNat_natCast, rnd_get, List.getElem?_eq_getElem c, Option.bind_some, h _ (List.getElem_mem c), Bool.not_true, Bool.false_eq_true, if_false, hw, N93_0.nx]
      exact ih
    · simp only [D93_0, PT.ev, PT.test, dite_eq_ite, if_neg (show ¬ (i : Int) < (ns.length : Int) by omega), N93_0.nx]
theorem eqn_eq (rF : K34) (hF : H34 rF) (ns : List Nd) (hl : ns.length ≤ 4000) (h : ∀ n ∈ ns, rF n n = some (.a0 true)) : F93 rF hF (Rnd ns) (Rnd ns) = some (.a0 true) := by
  have l := eqn_loop rF hF ns hl h 18446744073709551616 0 (by omega) (by omega)
  rw [show ((0 : Nat) : Int) = 0 from rfl] at l
  simp only [F93, D93, PT.ev, PT.test, dite_eq_ite, bne_self_eq_false, Bool.false_eq_true, if_false, rnd_len, l, Option.bind_some]
theorem eqn_ne (rF : K34) (hF : H34 rF) (X Y : List (List V)) (h : (X.length : Int) ≠ (Y.length : Int)) : F93 rF hF X Y = some (.a0 false) := by
  simp only [F93, D93, PT.ev, PT.test, dite_eq_ite, if_pos (show ((X.length : Int) != (Y.length : Int)) = true from bne_iff_ne.2 h)]
theorem same_r1 (rF : K34) (hF : H34 rF) (a : Nd) (h : Pq a.c1) : (J34_r1) rF hF (.mk a a) = some (.e0 (.mk true a a)) := by
  simp only [J34_r1, D34_r1, PT.ev, PT.test, dite_eq_ite, beq_self_eq_true, Bool.and_self, Bool.and_true, if_true, spl_eq h, Option.bind_some]
theorem same_r2 (rF : K34) (hF : H34 rF) (f : Bool) (a : Nd) (h : Pq a.c19) : (J34_r2) rF hF (.mk f a a) = some (.e0 (.mk f true a a)) := by
  simp only [J34_r2, D34_r2, PT.ev, PT.test, dite_eq_ite, beq_self_eq_true, if_true, spl_eq h, Option.bind_some]
theorem same_refl : ∀ (d n : Nat) (a : Nd), d < n → Nk d a → F34 n a a = some (.a0 true)
  | d, 0, a, h, _ => by omega
  | d, n + 1, a, h, ⟨p1, p2, g1, g2⟩ => by
    have sub : ∀ X, Gnd d X → F93 (F34 n) (F34_ok n) X X = some (.a0 true) := fun X hX => by
      cases d with
      | zero =>
        rw [show X = Rnd [] from hX]
        exact eqn_eq _ _ [] (by decide) (by simp)
      | succ d =>
        obtain ⟨ns, rfl, h1, h2⟩ := hX
        exact eqn_eq _ _ ns h1 (fun x hx => same_refl d n x (by omega) (h2 x hx))
    rw [F34_succ]
    simp only [D34, PT.ev, PT.test, dite_eq_ite]
    rw [same_r1 _ _ a p1]
    simp only [Option.bind_some, PT.ev]
    rw [same_r2 _ _ true a p2]
    simp only [Option.bind_some, PT.ev, PT.test, dite_eq_ite, if_true, sub _ g1, sub _ g2]
/-- Two that differ in what is told first. -/
theorem same_no (n : Nat) (a b : Nd) (x y : Bool) (h1 : (J34_r1) (F34 n) (F34_ok n) (.mk a b) = some (.e0 (.mk x a b))) (h2 : (J34_r2) (F34 n) (F34_ok n) (.mk x a b) = some (.e0 (.mk x y a b))) (h : (x && y) = false) : F34 (n + 1) a b = some (.a0 false) := by
  rw [F34_succ]
  simp only [D34, PT.ev, PT.test, dite_eq_ite]
  rw [h1]
  simp only [Option.bind_some, PT.ev]
  rw [h2]
  simp only [Option.bind_some, PT.ev, PT.test, dite_eq_ite]
  cases x with
  | false => simp only [Bool.false_eq_true, if_false]
  | true =>
    cases y with
    | false => simp only [Bool.false_eq_true, if_false, if_true]
    | true => cases h
theorem succ_ne (z : Int) : (z == w64 (z + 1)) = false ∧ (w64 (z + 1) == z) = false := by
  rw [beq_eq_false_iff_ne, beq_eq_false_iff_ne, w64_eq]; omega
theorem no22 (n : Nat) (a : Nd) (p1 : Pq a.c1) (p2 : Pq a.c19) : F34 (n + 1) a { a with c22 := w64 (a.c22 + 1) } = some (.a0 false) ∧ F34 (n + 1) { a with c22 := w64 (a.c22 + 1) } a = some (.a0 false) := by
  obtain ⟨e1, e2⟩ := succ_ne a.c22
  refine ⟨same_no n a _ true false ?_ ?_ rfl, same_no n _ a true false ?_ ?_ rfl⟩
  · simp only [J34_r1, D34_r1, PT.ev, PT.test, dite_eq_ite, beq_self_eq_true, Bool.and_self, Bool.and_true, if_true, spl_eq p1, Option.bind_some]
  · simp only [J34_r2, D34_r2, PT.ev, PT.test, dite_eq_ite, beq_self_eq_true, if_true, e1, Bool.false_eq_true, if_false]
  · simp only [J34_r1, D34_r1, PT.ev, PT.test, dite_eq_ite, beq_self_eq_true, Bool.and_self, Bool.and_true, if_true, spl_eq p1, Option.bind_some]
  · simp only [J34_r2, D34_r2, PT.ev, PT.test, dite_eq_ite, beq_self_eq_true, if_true, e2, Bool.false_eq_true, if_false]
theorem no20 (n : Nat) (a : Nd) (p1 : Pq a.c1) (p2 : Pq a.c19) : F34 (n + 1) a { a with c20 := w64 (a.c20 + 1) } = some (.a0 false) ∧ F34 (n + 1) { a with c20 := w64 (a.c20 + 1) } a = some (.a0 false) := by
  obtain ⟨e1, e2⟩ := succ_ne a.c20
  refine ⟨same_no n a _ true false ?_ ?_ rfl, same_no n _ a true false ?_ ?_ rfl⟩
  · simp only [J34_r1, D34_r1, PT.ev, PT.test, dite_eq_ite, beq_self_eq_true, Bool.and_self, Bool.and_true, if_true, spl_eq p1, Option.bind_some]
  · simp only [J34_r2, D34_r2, PT.ev, PT.test, dite_eq_ite, beq_self_eq_true, if_true, e1, Bool.false_eq_true, if_false]
  · simp only [J34_r1, D34_r1, PT.ev, PT.test, dite_eq_ite, beq_self_eq_true, Bool.and_self, Bool.and_true, if_true, spl_eq p1, Option.bind_some]
  · simp only [J34_r2, D34_r2, PT.ev, PT.test, dite_eq_ite, beq_self_eq_true, if_true, e2, Bool.false_eq_true, if_false]
theorem no17 (n : Nat) (a : Nd) (p1 : Pq a.c1) (p2 : Pq a.c19) : F34 (n + 1) a { a with c17 := w64 (a.c17 + 1) } = some (.a0 false) ∧ F34 (n + 1) { a with c17 := w64 (a.c17 + 1) } a = some (.a0 false) := by
  obtain ⟨e1, e2⟩ := succ_ne a.c17
  refine ⟨same_no n a _ false true ?_ ?_ rfl, same_no n _ a false true ?_ ?_ rfl⟩
  · simp only [J34_r1, D34_r1, PT.ev, PT.test, dite_eq_ite, beq_self_eq_true, Bool.and_self, Bool.and_true, if_true, e1, Bool.false_eq_true, if_false]
  · simp only [J34_r2, D34_r2, PT.ev, PT.test, dite_eq_ite, beq_self_eq_true, if_true, spl_eq p2, Option.bind_some]
  · simp only [J34_r1, D34_r1, PT.ev, PT.test, dite_eq_ite, beq_self_eq_true, Bool.and_self, Bool.and_true, if_true, e2, Bool.false_eq_true, if_false]
  · simp only [J34_r2, D34_r2, PT.ev, PT.test, dite_eq_ite, beq_self_eq_true, if_true, spl_eq p2, Option.bind_some]
theorem no16 (n : Nat) (a : Nd) (p1 : Pq a.c1) (p2 : Pq a.c19) : F34 (n + 1) a { a with c16 := w64 (a.c16 + 1) } = some (.a0 false) ∧ F34 (n + 1) { a with c16 := w64 (a.c16 + 1) } a = some (.a0 false) := by
  obtain ⟨e1, e2⟩ := succ_ne a.c16
  refine ⟨same_no n a _ false true ?_ ?_ rfl, same_no n _ a false true ?_ ?_ rfl⟩
  · simp only [J34_r1, D34_r1, PT.ev, PT.test, dite_eq_ite, beq_self_eq_true, Bool.and_self, Bool.and_true, Bool.true_and, if_true, e1, Bool.false_and, Bool.and_false, Bool.false_eq_true, if_false]
  · simp only [J34_r2, D34_r2, PT.ev, PT.test, dite_eq_ite, beq_self_eq_true, if_true, spl_eq p2, Option.bind_some]
  · simp only [J34_r1, D34_r1, PT.ev, PT.test, dite_eq_ite, beq_self_eq_true, Bool.and_self, Bool.and_true, Bool.true_and, if_true, e2, Bool.false_and, Bool.and_false, Bool.false_eq_true, if_false]
  · simp only [J34_r2, D34_r2, PT.ev, PT.test, dite_eq_ite, beq_self_eq_true, if_true, spl_eq p2, Option.bind_some]
theorem no19 (n : Nat) (a : Nd) (Y : List (List V)) (p1 : Pq a.c1) (h : (a.c19.length : Int) ≠ (Y.length : Int)) : F34 (n + 1) a { a with c19 := Y } = some (.a0 false) ∧ F34 (n + 1) { a with c19 := Y } a = some (.a0 false) := by
  refine ⟨same_no n a _ true false ?_ ?_ rfl, same_no n _ a true false ?_ ?_ rfl⟩
  · simp only [J34_r1, D34_r1, PT.ev, PT.test, dite_eq_ite, beq_self_eq_true, Bool.and_self, Bool.and_true, if_true, spl_eq p1, Option.bind_some]
  · simp only [J34_r2, D34_r2, PT.ev, PT.test, dite_eq_ite, beq_self_eq_true, if_true, spl_ne _ _ h, Option.bind_some]
  · simp only [J34_r1, D34_r1, PT.ev, PT.test, dite_eq_ite, beq_self_eq_true, Bool.and_self, Bool.and_true, if_true, spl_eq p1, Option.bind_some]
  · simp only [J34_r2, D34_r2, PT.ev, PT.test, dite_eq_ite, beq_self_eq_true, if_true, spl_ne _ _ (Ne.symm h), Option.bind_some]
theorem no18 (n : Nat) (a : Nd) (Y : List (List V)) (p1 : Pq a.c1) (p2 : Pq a.c19) (h : (a.c18.length : Int) ≠ (Y.length : Int)) : F34 (n + 1) a { a with c18 := Y } = some (.a0 false) ∧ F34 (n + 1) { a with c18 := Y } a = some (.a0 false) := by
  have r1 : (J34_r1) (F34 n) (F34_ok n) (.mk a { a with c18 := Y }) = some (.e0 (.mk true a { a with c18 := Y })) := by
    simp only [J34_r1, D34_r1, PT.ev, PT.test, dite_eq_ite, beq_self_eq_true, Bool.and_self, Bool.and_true, if_true, spl_eq p1, Option.bind_some]
  have r2 : (J34_r2) (F34 n) (F34_ok n) (.mk true a { a with c18 := Y }) = some (.e0 (.mk true true a { a with c18 := Y })) := by
    simp only [J34_r2, D34_r2, PT.ev, PT.test, dite_eq_ite, beq_self_eq_true, if_true, spl_eq p2, Option.bind_some]
  have s1 : (J34_r1) (F34 n) (F34_ok n) (.mk { a with c18 := Y } a) = some (.e0 (.mk true { a with c18 := Y } a)) := by
    simp only [J34_r1, D34_r1, PT.ev, PT.test, dite_eq_ite, beq_self_eq_true, Bool.and_self, Bool.and_true, if_true, spl_eq p1, Option.bind_some]
  have s2 : (J34_r2) (F34 n) (F34_ok n) (.mk true { a with c18 := Y } a) = some (.e0 (.mk true true { a with c18 := Y } a)) := by
    simp only [J34_r2, D34_r2, PT.ev, PT.test, dite_eq_ite, beq_self_eq_true, if_true, spl_eq p2, Option.bind_some]
  refine ⟨?_, ?_⟩
  · rw [F34_succ]
    simp only [D34, PT.ev, PT.test, dite_eq_ite]
    rw [r1]
    simp only [Option.bind_some, PT.ev]
    rw [r2]
    simp only [Option.bind_some, PT.ev, PT.test, dite_eq_ite, if_true, eqn_ne _ _ _ _ h, Bool.false_eq_true, if_false]
  · rw [F34_succ]
    simp only [D34, PT.ev, PT.test, dite_eq_ite]
    rw [s1]
    simp only [Option.bind_some, PT.ev]
    rw [s2]
    simp only [Option.bind_some, PT.ev, PT.test, dite_eq_ite, if_true, eqn_ne _ _ _ _ (Ne.symm h), Bool.false_eq_true, if_false]
end Go.Proofs.YtifalphladcdcaaGreat.H

/- Some of chapter 22's runs, by the program. Conditions: those stated. -/
namespace Go.Proofs.YtifalphladcdcaaGreat.H
open Go Go.VM
set_option maxRecDepth 100000
abbrev kl : Ly := ⟨0, -1, 0, 0, 0, 5, 0, [], [], [], [], [], [], [], [], [], false, [], ⟨0, 0, [⟨0, 65536, 0, 0, 0, 0, 0⟩], [⟨0, 65536, 0, 0, 0, 0, 0⟩], [], true, 0, 0, 0, 0, 0, 0, 0, 0, 0, 0, 0, 0, 0, 0, 0, [], false, [], 0, 0, 0, 0, 0, [], [], []⟩⟩
theorem kl0 : ((Rl [kl])[0]?).bind W57.dec = some (Wl kl) := by rw [rl_get]; rfl
theorem kc0 : ((Rcs [[kl]])[0]?).bind W52.dec = some ⟨Rl [kl]⟩ := rfl
theorem kring : F281 (Rl [kl]) 0 = some (.a0 false) := by
  simp only [F281, D281, PT.ev, PT.test, dite_eq_ite, if_pos (show (0 : Int) ≤ 0 by decide), Int.toNat_zero, kl0, Option.bind_some]
  kernel_rfl
theorem ktree : F254 0 9 (Rcs [[kl]]) 0 0 = some (.a0 true) := by
  have hb : J254_b0 (.mk 0 0 0 9 (Rcs [[kl]]) (Rl [kl]) (Wl kl)) = some (.e1 (.mk 0 0 9 (Rcs [[kl]]) (Wl kl))) := by
    simp only [J254_b0, D254_b0, PT.ev, PT.test, dite_eq_ite]
    rw [show J254_r3 (.mk 0 0 0 9 (Rcs [[kl]]) (Rl [kl]) (Wl kl)) = some (.e0 (.mk 0 0 false 0 9 (Rcs [[kl]]) (Rl [kl]) (Wl kl))) from by kernel_rfl]
    simp only [Option.bind_some, PT.ev, kring, Bool.false_eq_true, if_false]
    kernel_rfl
  simp only [F254, D254, PT.ev, PT.test, dite_eq_ite, if_pos (show (0 : Int) ≤ 0 by decide), Int.toNat_zero, kc0, kl0, Option.bind_some]
  rw [hb]
  rfl
theorem klay : F253 (Wl kl) = some (.a0 true) := by kernel_rfl
theorem klys : F215 0 9 (Rcs [[kl]]) = some (.a0 0) := by
  have h2 : L215_2 18446744073709551616 (.s0 (.mk 0 (Rcs [[kl]]) 1 (Rl [kl]) 1 0 0 9)) = some (.e1 (.mk (Rcs [[kl]]) 1 0 0 9)) := by
    rw [show (18446744073709551616 : Nat) = 18446744073709551614 + 1 + 1 from rfl, L215_2_s0]
    simp only [D215_2, PT.ev, PT.test, dite_eq_ite, if_pos (show (0 : Int) < 1 by decide), if_pos (show (0 : Int) ≤ 0 by decide), Int.toNat_zero, kl0, Option.bind_some, klay, ktree, Bool.not_true, Bool.false_eq_true, if_false]
    kernel_rfl
  have h0 : L215_0 18446744073709551616 (.s0 (.mk (Rcs [[kl]]) 1 0 0 9)) = some .e1 := by
    rw [show L215_0 18446744073709551616 (.s0 (.mk (Rcs [[kl]]) 1 0 0 9)) = L215_0 (18446744073709551614 + 1 + 1) (.s0 (.mk (Rcs [[kl]]) 1 0 0 9)) from rfl, L215_0_s0]
    simp only [D215_0, PT.ev, PT.test, dite_eq_ite, if_pos (show (0 : Int) < 1 by decide), if_pos (show (0 : Int) ≤ 0 by decide), Int.toNat_zero, kc0, Option.bind_some]
    rw [show (((Rl [kl]).length : Nat) : Int) = 1 from rfl, h2]
    kernel_rfl
  simp only [F215, D215, PT.ev]
  rw [show (((Rcs [[kl]]).length : Nat) : Int) = 1 from rfl, h0]
  rfl
theorem kdeep : F216 0 9 (Rcs [[kl]]) 0 = some (.a0 1) := by
  have h2 : L256_2 18446744073709551616 (.s0 (.mk 1 1 0 1 (Rl [kl]) 1 0 0 9 (Rcs [[kl]]) [[i64 0]])) = some (.e0 (.mk 1 1 0 1 0 9 (Rcs [[kl]]) [[i64 0]])) := by
    rw [show (18446744073709551616 : Nat) = 18446744073709551614 + 1 + 1 from rfl, L256_2_s0]
    simp only [D256_2, PT.ev, PT.test, dite_eq_ite, if_pos (show (0 : Int) < 1 by decide), if_pos (show (0 : Int) ≤ 0 by decide), Int.toNat_zero, kl0, Option.bind_some]
    kernel_rfl
  have h0 : L256_0 18446744073709551616 (.s0 (.mk 1 1 0 0 9 (Rcs [[kl]]) [[i64 0]])) = some (.e0 (.mk 1 [[i64 1]])) := by
    rw [show L256_0 18446744073709551616 (.s0 (.mk 1 1 0 0 9 (Rcs [[kl]]) [[i64 0]])) = L256_0 (18446744073709551614 + 1 + 1) (.s0 (.mk 1 1 0 0 9 (Rcs [[kl]]) [[i64 0]])) from rfl, L256_0_s0]
    simp only [D256_0, PT.ev, PT.test, dite_eq_ite, if_pos (show (0 : Int) ≥ 0 by decide), if_pos (show (0 : Int) ≤ 0 by decide), Int.toNat_zero, kc0, Option.bind_some]
    rw [show (((Rl [kl]).length : Nat) : Int) = 1 from rfl, h2]
    kernel_rfl
  have h1 : F256 0 9 (Rcs [[kl]]) 1 = some (.a0 1 [[i64 1]]) := by
    simp only [F256, D256, PT.ev, PT.test, dite_eq_ite]
    rw [show (((Rcs [[kl]]).length : Nat) : Int) = 1 from rfl, if_pos (by decide), show List.replicate (Int.toNat 1) [i64 0] = [[i64 0]] from rfl, show w64 ((1 : Int) - 1) = 0 from rfl, show Int.toNat 1 = 1 from rfl, h0]
    rfl
  simp only [F216, D216, PT.ev, PT.test, dite_eq_ite, h1]
  rfl
theorem knodes : F217 0 9 (Rcs [[kl]]) 0 = some (.a0 2) := by
  have h2 : L256v1_2 18446744073709551616 (.s0 (.mk 0 1 0 0 (Rl [kl]) 1 0 0 9 (Rcs [[kl]]) [[i64 0]])) = some (.e0 (.mk 0 1 0 2 0 9 (Rcs [[kl]]) [[i64 0]])) := by
    rw [show (18446744073709551616 : Nat) = 18446744073709551614 + 1 + 1 from rfl, L256v1_2_s0]
    simp only [D256v1_2, PT.ev, PT.test, dite_eq_ite, if_pos (show (0 : Int) < 1 by decide), if_pos (show (0 : Int) ≤ 0 by decide), Int.toNat_zero, kl0, Option.bind_some]
    kernel_rfl
  have h0 : L256v1_0 18446744073709551616 (.s0 (.mk 0 1 0 0 9 (Rcs [[kl]]) [[i64 0]])) = some (.e0 (.mk 1 [[i64 2]])) := by
    rw [show L256v1_0 18446744073709551616 (.s0 (.mk 0 1 0 0 9 (Rcs [[kl]]) [[i64 0]])) = L256v1_0 (18446744073709551614 + 1 + 1) (.s0 (.mk 0 1 0 0 9 (Rcs [[kl]]) [[i64 0]])) from rfl, L256v1_0_s0]
    simp only [D256v1_0, PT.ev, PT.test, dite_eq_ite, if_pos (show (0 : Int) ≥ 0 by decide), if_pos (show (0 : Int) ≤ 0 by decide), Int.toNat_zero, kc0, Option.bind_some]
    rw [show (((Rl [kl]).length : Nat) : Int) = 1 from rfl, h2]
    kernel_rfl
  have h1 : F256v1 0 9 (Rcs [[kl]]) 0 = some (.a0 1 [[i64 2]]) := by
    simp only [F256v1, D256v1, PT.ev, PT.test, dite_eq_ite]
    rw [show (((Rcs [[kl]]).length : Nat) : Int) = 1 from rfl, if_pos (by decide), show List.replicate (Int.toNat 1) [i64 0] = [[i64 0]] from rfl, show w64 ((1 : Int) - 1) = 0 from rfl, show Int.toNat 1 = 1 from rfl, h0]
    rfl
  simp only [F217, D217, PT.ev, PT.test, dite_eq_ite, h1]
  rfl
theorem kright : F157 0 9 (Rcs [[kl]]) = some (.a0 0) := by
  simp only [F157, D157, PT.ev, PT.test, dite_eq_ite]
  rw [show F212 (Rcs [[kl]]) = some (.a0 false) from by kernel_rfl]
  simp only [Option.bind_some, PT.ev]
  rw [show J157_r2 (.mk false 0 9 (Rcs [[kl]])) = some (.e0 (.mk false 0 9 (Rcs [[kl]]))) from by kernel_rfl]
  simp only [Option.bind_some, PT.ev, Bool.false_eq_true, if_false]
  rw [show J157_r4 (.mk 0 9 (Rcs [[kl]])) = some (.e0 (.mk false 0 9 (Rcs [[kl]]))) from by kernel_rfl]
  simp only [Option.bind_some, PT.ev, Bool.false_eq_true, if_false, klys, kdeep, knodes]
  kernel_rfl
end Go.Proofs.YtifalphladcdcaaGreat.H

/- Chapter 22's own runs hold. Conditions: those stated. -/
namespace Go.Proofs.YtifalphladcdcaaGreat.H
open Go Go.VM
set_option maxRecDepth 100000
noncomputable abbrev kM (t : Int) : Mt := aftv F78 (chainv [kl] 0 t)
noncomputable def krow : List (List V) := match F75 (Ws kl.s) 3 (kM 3) 255 with
  | some (.a0 _ r) => r
  | none => []
noncomputable def kit : It := W85.of (krow.headD [])
theorem kit0 : F75 (Ws kl.s) 3 (kM 3) 255 = some (.a0 1 (Ri [kit])) := by kernel_rfl
noncomputable abbrev kn : Nd := ndi kit
theorem klayer3 (rF : K158) (hF : H158 rF) : F218 rF hF 100000 0 9 (Rcs [[kl]]) (Rl [kl]) 0 3 F78 0 = some (.a0 1 (Rnd [kn])) := by
  have r3 : (J218_r3) rF hF (F218 rF hF 99999) (F218_ok rF hF 99999) (.mk 0 3 0 255 0 9 (Rcs [[kl]]) (Rl [kl]) F78 (Wl kl)) = some (.e0 (.mk 0 3 0 255 false 0 9 (Rcs [[kl]]) (Rl [kl]) F78 (Wl kl))) := by kernel_rfl
  have r6 : (J218_r6) rF hF (F218 rF hF 99999) (F218_ok rF hF 99999) (.mk 0 3 0 255 0 9 (Rcs [[kl]]) (Rl [kl]) F78 (Wl kl) (kM 3)) = some (.e0 (.mk 0 3 0 255 true 0 9 (Rcs [[kl]]) (Rl [kl]) F78 (Wl kl) (kM 3))) := by kernel_rfl
  have op : F22 (Wl kl) 3 = some (.a0 255) := by kernel_rfl
  have qc := qchain [kl] (fun l hl => by rw [List.mem_singleton.1 hl]; exact ⟨by decide, by decide, by decide, by decide, by decide, by decide, by decide, by decide, by decide⟩) 0 3
  have tk : F70 (Wl kl) 3 = 3 := by kernel_rfl
  have inn : F259 rF hF 0 9 (Rcs [[kl]]) (Wl kl) 3 (kM 3) 0 255 = some (.a0 1 (Rnd [kn])) := by
    have lp := in_loop rF hF [kit] (by decide) 18446744073709551616 0 [] (by decide) (by decide) rfl
    rw [show ((0 : Nat) : Int) = 0 from rfl, show Rnd [] = [] from rfl, show ([] : List Nd).length = 0 from rfl, show ([kit] : List It).length = 1 from rfl] at lp
    simp only [F259, D259, PT.ev, PT.test, dite_eq_ite, if_neg (show ¬ ((0 : Int) == 1) = true by decide), bnd_def, tk]
    refine (congrArg (fun o => Option.bind o _) kit0).trans ?_
    simp only [Option.bind_some, PT.ev]
    rw [show (((1 : Nat) : Int)) = 1 from rfl] at *
    rw [lp]
    rfl
  rw [show (100000 : Nat) = 99999 + 1 from rfl, F218_succ]
  simp only [D218, PT.ev, PT.test, dite_eq_ite, if_pos (show (0 : Int) ≤ 0 by decide), Int.toNat_zero, kl0, Option.bind_some, op]
  rw [r3]
  simp only [Option.bind_some, PT.ev, PT.test, dite_eq_ite, qc, qafter, Bool.false_eq_true, if_false]
  rw [r6]
  simp only [Option.bind_some, PT.ev, PT.test, dite_eq_ite, if_true, inn]
theorem klayer6 (rF : K158) (hF : H158 rF) : F218 rF hF 100000 0 9 (Rcs [[kl]]) (Rl [kl]) 0 6 F78 0 = some (.a0 0 []) := by
  have r3 : (J218_r3) rF hF (F218 rF hF 99999) (F218_ok rF hF 99999) (.mk 0 6 0 255 0 9 (Rcs [[kl]]) (Rl [kl]) F78 (Wl kl)) = some (.e0 (.mk 0 6 0 255 true 0 9 (Rcs [[kl]]) (Rl [kl]) F78 (Wl kl))) := by kernel_rfl
  have op : F22 (Wl kl) 6 = some (.a0 255) := by kernel_rfl
  rw [show (100000 : Nat) = 99999 + 1 from rfl, F218_succ]
  simp only [D218, PT.ev, PT.test, dite_eq_ite, if_pos (show (0 : Int) ≤ 0 by decide), Int.toNat_zero, kl0, Option.bind_some, op]
  rw [r3]
  rfl
theorem klist (t : Int) (ns : List Nd) (hn : ns.length ≤ 4) (h : ∀ (rF : K158) (hF : H158 rF), F218 rF hF 100000 0 9 (Rcs [[kl]]) (Rl [kl]) 0 t F78 0 = some (.a0 ns.length (Rnd ns))) : F33 0 9 (Rcs [[kl]]) t = some (.a0 ns.length (Rnd ns)) := by
  have lp : ∀ (rF : K158) (hF : H158 rF), L158_0 rF hF 18446744073709551616 (.s0 (.mk t 0 0 1 0 0 9 (Rcs [[kl]]) F78 [] (Rl [kl]))) = some (.e0 (.mk ns.length (Rnd ns))) := fun rF hF => by
    rw [show (18446744073709551616 : Nat) = 18446744073709551614 + 1 + 1 from rfl, L158_0_s0]
    have q : 0 + 0 ≤ ([] : List (List V)).length ∧ (0 + (Rnd ns).length) * 192 ≤ 140737488355328 ∧ 0 + (Rnd ns).length ≤ 140737488355328 := by rw [rnd_len]; simp; omega
    simp only [D158_0, PT.ev, PT.test, dite_eq_ite, if_pos (show (0 : Int) < 1 by decide), if_neg (show ¬ w64 ((0 : Int) + 1) < (((Rl [kl]).length : Nat) : Int) by decide), h, Option.bind_some, if_pos (show 0 + ns.length ≤ (Rnd ns).length by rw [rnd_len]; omega), rnd_all, if_pos q, N158_0.nx]
    rw [L158_0_s0]
    simp only [D158_0, PT.ev, PT.test, dite_eq_ite, if_neg (show ¬ w64 ((0 : Int) + 1) < 1 by decide), N158_0.nx, List.take_nil, List.nil_append, rnd_len, Nat.zero_add]
  simp only [F33, D33, F91, D91, PT.ev, PT.test, dite_eq_ite, Ws, bnd_def, kright, Option.bind_some]
  rw [if_neg (show ¬ ((0 : Int) != 0) = true by decide), if_neg (show ¬ (0 : Int) < 0 by decide), if_neg (show ¬ (0 : Int) ≥ (((Rcs [[kl]]).length : Nat) : Int) by decide)]
  rw [show (100000 : Nat) = 99999 + 1 from rfl, F158_succ]
  simp only [D158, J158_r1, D158_r1, PT.ev, PT.test, dite_eq_ite, if_neg (show ¬ (0 : Int) < 0 by decide), decide_eq_false (show ¬ (0 : Int) ≥ 4 by decide), Option.bind_some, Bool.false_eq_true, if_false, if_pos (show (0 : Int) ≤ 0 by decide), Int.toNat_zero, kc0]
  rw [show (((Rl [kl]).length : Nat) : Int) = 1 from rfl, lp]
  rfl
theorem known22 : F35 = some (.a0 true) := by
  have l3 := klist 3 [kn] (by decide) klayer3
  have l6 := klist 6 [] (by decide) klayer6
  have l0 : F33 0 0 [] 0 = some (.a0 0 []) := by kernel_rfl
  have g0 : ((Rnd [kn])[0]?).bind W87.dec = some kn := by rw [rnd_get]; rfl
  have bx : F94 100000 kn = some (.a0 (-1) (-1) 1 1) := by kernel_rfl
  have al : (kn.c17 == 255) = true := by kernel_rfl
  have sm : F34 100000 kn kn = some (.a0 true) := by kernel_rfl
  simp only [F35, D35, PT.ev, PT.test, dite_eq_ite]
  refine (congrArg (fun o => Option.bind o _) l3).trans ?_
  simp only [Option.bind_some, PT.ev, PT.test, dite_eq_ite, g0]
  rw [if_pos (by decide), if_pos (by decide), if_pos (by rfl), if_pos al]
  refine (congrArg (fun o => Option.bind o _) l6).trans ?_
  simp only [Option.bind_some, PT.ev, PT.test, dite_eq_ite]
  rw [if_pos (by decide), bx]
  simp only [Option.bind_some, PT.ev, PT.test, dite_eq_ite, sm, l0]
  rfl
end Go.Proofs.YtifalphladcdcaaGreat.H

/- SceneSames in plain Lean. Conditions: those stated. -/
namespace Go.Proofs.YtifalphladcdcaaGreat.H
open Go Go.VM
set_option maxRecDepth 100000
/-- Two that are told not to be the same, either way round. -/
def Df (a b : Nd) : Prop := ∀ k, F34 (k + 1) a b = some (.a0 false) ∧ F34 (k + 1) b a = some (.a0 false)
theorem turn_ex (a : Nd) (p1 : Pq a.c1) (p2 : Pq a.c19) (l1 : a.c18.length ≤ 4000) (l2 : a.c19.length ≤ 1000000) (u i y d0 : Int) (v w : Nat) (z j : List (List V)) :
    ∃ r, (J8_c56) (.mk u v w i y d0 (d0 == 0) z j a) = some r ∧ ((∃ n', r = .e0 (.mk u v w i y z j n') ∧ Df a n') ∨
      (∃ o p, r = .e1 (.mk u v w i y z j a.c0 a.c1 a.c2 a.c3 a.c4 a.c5 a.c6 a.c7 a.c8 a.c9 a.c10 a.c11 a.c12 a.c13 a.c14 a.c15 a.c16 a.c17 o a.c19 a.c20 a.c21 a.c22 p) ∧ o ≤ p.length ∧ Df a { a with c18 := List.take o p }) ∨
      (∃ o p, r = .e2 (.mk u v w i y z j a.c0 a.c1 a.c2 a.c3 a.c4 a.c5 a.c6 a.c7 a.c8 a.c9 a.c10 a.c11 a.c12 a.c13 a.c14 a.c15 a.c16 a.c17 a.c18 o a.c20 a.c21 a.c22 p) ∧ o ≤ p.length ∧ Df a { a with c19 := List.take o p })) := by
  have tk : ∀ (X : List (List V)) (e : List V), (List.take (0 + X.length) ([] ++ X) ++ [e]).length = X.length + 1 := fun X e => by
    rw [Nat.zero_add, List.nil_append, List.take_length, List.length_append, List.length_singleton]
  have tl : ∀ (X : List (List V)) (e : List V), (List.take (0 + X.length + 1) (List.take (0 + X.length) ([] ++ X) ++ [e])).length = X.length + 1 := fun X e => by
    rw [List.length_take, tk]; omega
  by_cases c0 : d0 = 0
  · subst c0
    simp only [J8_c56, D8_c56, PT.ev, PT.test, dite_eq_ite, Int.reduceBEq, if_true]
    exact ⟨_, rfl, .inl ⟨_, rfl, fun k => no22 k a p1 p2⟩⟩
  by_cases c1 : d0 = 1
  · subst c1
    simp only [J8_c56, D8_c56, J8_c62, D8_c62, PT.ev, PT.test, dite_eq_ite, Int.reduceBEq, Bool.false_eq_true, if_false, if_true, Option.bind_some]
    exact ⟨_, rfl, .inl ⟨_, rfl, fun k => no20 k a p1 p2⟩⟩
  by_cases c2 : d0 = 2
  · subst c2
    simp only [J8_c56, D8_c56, J8_c62, D8_c62, J8_c68, D8_c68, PT.ev, PT.test, dite_eq_ite, Int.reduceBEq, Bool.false_eq_true, if_false, if_true, Option.bind_some]
    exact ⟨_, rfl, .inl ⟨_, rfl, fun k => no17 k a p1 p2⟩⟩
  by_cases c3 : d0 = 3
  · subst c3
    have q1 : 0 ≤ 0 ∧ (0 + a.c18.length) * 192 ≤ 140737488355328 ∧ 0 + a.c18.length ≤ 140737488355328 := by omega
    have q2 : 0 + (0 + a.c18.length) ≤ ([] ++ a.c18).length ∧ (0 + a.c18.length + 1) * 192 ≤ 140737488355328 ∧ 0 + a.c18.length + 1 ≤ 140737488355328 := by rw [List.nil_append]; omega
    simp only [J8_c56, D8_c56, J8_c62, D8_c62, J8_c68, D8_c68, J8_c76, D8_c76, PT.ev, PT.test, dite_eq_ite, Int.reduceBEq, Bool.false_eq_true, if_false, if_true, Option.bind_some]
    rw [if_pos q1, if_pos q2]
    exact ⟨_, rfl, .inr (.inl ⟨_, _, rfl, by rw [tk]; omega, fun k => no18 k a _ p1 p2 (by rw [tl]; omega)⟩)⟩
  by_cases c4 : d0 = 4
  · subst c4
    have q1 : 0 ≤ 0 ∧ (0 + a.c19.length) * 32 ≤ 140737488355328 ∧ 0 + a.c19.length ≤ 140737488355328 := by omega
    have q2 : 0 + (0 + a.c19.length) ≤ ([] ++ a.c19).length ∧ (0 + a.c19.length + 1) * 32 ≤ 140737488355328 ∧ 0 + a.c19.length + 1 ≤ 140737488355328 := by rw [List.nil_append]; omega
    simp only [J8_c56, D8_c56, J8_c62, D8_c62, J8_c68, D8_c68, J8_c76, D8_c76, J8_c86, D8_c86, PT.ev, PT.test, dite_eq_ite, Int.reduceBEq, Bool.false_eq_true, if_false, if_true, Option.bind_some]
    rw [if_pos q1, if_pos q2]
    exact ⟨_, rfl, .inr (.inr ⟨_, _, rfl, by rw [tk]; omega, fun k => no19 k a _ p1 (by rw [tl]; omega)⟩)⟩
  · have e0 := beq_eq_false_iff_ne.2 c0
    have e1 := beq_eq_false_iff_ne.2 c1
    have e2 := beq_eq_false_iff_ne.2 c2
    have e3 := beq_eq_false_iff_ne.2 c3
    have e4 := beq_eq_false_iff_ne.2 c4
    simp only [J8_c56, D8_c56, J8_c62, D8_c62, J8_c68, D8_c68, J8_c76, D8_c76, J8_c86, D8_c86, PT.ev, PT.test, dite_eq_ite, e0, e1, e2, e3, e4, Bool.false_eq_true, if_false, Option.bind_some]
    exact ⟨_, rfl, .inl ⟨_, rfl, fun k => no16 k a p1 p2⟩⟩
theorem ss_loop (how : Int) (ns : List Nd) (hl : ns.length ≤ 4000) (h : ∀ n ∈ ns, Nk 16 n) : ∀ (n i : Nat), i ≤ ns.length → ns.length < n + i → L8_0 n (.s0 (.mk how ns.length ns.length ns.length i (Rnd ns) (Rnd ns))) = some .e1
  | 0, i, h1, h2 => by omega
  | n + 1, i, h1, h2 => by
    rw [L8_0_s0]
    by_cases c : i < ns.length
    · have hw : w64 ((i : Int) + 1) = ((i + 1 : Nat) : Int) := by rw [w64_in (by omega) (by omega)]; omega
      have ih := ss_loop how ns hl h n (i + 1) c (by omega)
      have hk := h _ (List.getElem_mem c)
      have hg : ns[i]? = some ns[i] := List.getElem?_eq_getElem c
      generalize ns[i] = a at hk hg
      have sr := same_refl 16 100000 a (by omega) hk
      obtain ⟨p1, p2, g1, g2⟩ := hk
      have q1 : (0 : Int) ≤ (i : Int) ∧ (i : Int) < (ns.length : Int) := by omega
      obtain ⟨d0, ed, _, _⟩ := within_in how 0 5 (by omega) (by omega) (by omega)
      have l1 : a.c18.length ≤ 4000 := by
        obtain ⟨m, e, m2, _⟩ := g1
        rw [e, rnd_len]; exact m2
      have l2 : a.c19.length ≤ 1000000 := by
        obtain ⟨Q, e, _, m2⟩ := p2
        rw [e, ro_len]; exact m2
      obtain ⟨r, er, hr⟩ := turn_ex a p1 p2 l1 l2 how i ns.length d0 ns.length ns.length (Rnd ns) (Rnd ns)
      have z0 : ∀ n : Nat, 0 + n = n := Nat.zero_add
      simp only [D8_0, PT.ev, PT.test, dite_eq_ite, if_pos (show (i : Int) < (ns.length : Int) by omega), if_pos q1, Nat.zero_add, Int.toNat_natCast, rnd_get, hg, Option.bind_some, sr, Bool.not_true, Bool.false_eq_true, if_false, ed]
      rw [er]
      rcases hr with ⟨n', rfl, df⟩ | ⟨o, p, rfl, ho, df⟩ | ⟨o, p, rfl, ho, df⟩
      · obtain ⟨f1, f2⟩ := df 99999
        rw [show 99999 + 1 = 100000 from rfl] at f1 f2
        simp only [Option.bind_some, PT.ev, PT.test, dite_eq_ite, if_pos q1, Nat.zero_add, Int.toNat_natCast, rnd_get, hg, f1, f2, Bool.false_eq_true, if_false, hw, N8_0.nx]
        exact ih
      · obtain ⟨f1, f2⟩ := df 99999
        rw [show 99999 + 1 = 100000 from rfl] at f1 f2
        simp only [Option.bind_some, PT.ev, PT.test, dite_eq_ite, if_pos q1, Nat.zero_add, Int.toNat_natCast, rnd_get, hg, if_pos ho, f1, f2, Bool.false_eq_true, if_false, hw, N8_0.nx]
        exact ih
      · obtain ⟨f1, f2⟩ := df 99999
        rw [show 99999 + 1 = 100000 from rfl] at f1 f2
        simp only [Option.bind_some, PT.ev, PT.test, dite_eq_ite, if_pos q1, Nat.zero_add, Int.toNat_natCast, rnd_get, hg, if_pos ho, f1, f2, Bool.false_eq_true, if_false, hw, N8_0.nx]
        exact ih
    · simp only [D8_0, PT.ev, PT.test, dite_eq_ite, if_neg (show ¬ (i : Int) < (ns.length : Int) by omega), N8_0.nx]
theorem Gy.lq {k c m : Int} {ah : Bool} {l : Ly} (g : Gy k c m ah l) : Lq l := by
  refine ⟨g.sm, ?_, ?_⟩
  · rcases g.what.kind with h | h
    · exact (g.what.draw h).2.2.gr
    · rw [(g.what.nest h).2.1]; exact Gr.sh0
  · rcases g.mask with ⟨_, h⟩ | ⟨_, h, _⟩
    · rw [h]; decide
    · omega
theorem Gdoc.ct {C : List (List Ly)} (g : Gdoc C.length C) (hl : C.length ≤ 1000) : Ct C := by
  have f : ∀ c ∈ C, c.length ≤ 4 ∧ ∀ l ∈ c, Lq l ∧ (l.kind = 1 → 0 ≤ l.comp ∧ l.comp < (C.length : Int)) := fun c hc => by
    obtain ⟨j, hj, rfl⟩ := List.mem_iff_getElem.1 hc
    obtain ⟨⟨g1, g2⟩, _⟩ := g j hj
    exact ⟨g1, fun l hl => by
      obtain ⟨y, hy, rfl⟩ := List.mem_iff_getElem.1 hl
      have gy := g2 y hy
      exact ⟨gy.lq, fun h => by
        obtain ⟨a, b⟩ := (gy.what.nest h).1
        omega⟩⟩
  exact ⟨⟨by omega, fun c hc => ⟨by have := (f c hc).1; omega, fun l hl => ((f c hc).2 l hl).1⟩⟩, fun c hc => (f c hc).1, fun c hc l hl => ((f c hc).2 l hl).2⟩
theorem sceneSames_plain (T : List W3) (hT : (T.length : Int) ≤ 9223372036854775807) (t how : Int) : F8 (Rt T) t how = some (.a0 true) := by
  obtain ⟨i, o, C, e, _, _, _, _, d1, d2, g⟩ := doc_ex T hT
  have tk : List.take C.length (Rcs C) = Rcs C := List.take_of_length_le (by rw [rcs_len]; exact Nat.le_refl _)
  obtain ⟨ns, e1, e2⟩ := doclist1 C (g.ct (by omega)) i o (w64 (↑(BitVec.toNat (BitVec.ofInt (IntKind.bits IntKind.i64) t &&& BitVec.ofInt (IntKind.bits IntKind.i64) 31))))
  have lp := ss_loop how ns (Nat.le_trans e2.len (by decide)) e2.nd 18446744073709551616 0 (by omega) (by have := e2.len; omega)
  rw [show ((0 : Nat) : Int) = 0 from rfl] at lp
  simp only [F8, D8, PT.ev, PT.test, dite_eq_ite, e, Option.bind_some, rcs_len, Nat.zero_add, Nat.le_refl, if_true, tk, e1, bne_self_eq_false, Bool.false_eq_true, if_false, lp, known22]
end Go.Proofs.YtifalphladcdcaaGreat.H
