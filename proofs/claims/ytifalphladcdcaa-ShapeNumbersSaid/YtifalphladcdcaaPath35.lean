/- Keys of paths, and the path at a tick: the program's and the document's tell the same. Conditions: those stated. -/
import Derived.Test.YtifalphladcdcaaPath25
set_option linter.unusedVariables false
set_option linter.unusedSimpArgs false
namespace Go.Proofs.Ytifalphladcdcaa.H
open Go Go.VM
set_option maxRecDepth 100000
abbrev PK := W63
abbrev Rk (ks : List PK) : List (List V) := ks.map W63.cells
theorem rk_get (ks : List PK) (i : Nat) : ((Rk ks)[i]?).bind W63.dec = ks[i]? := by
  simp only [Rk, List.getElem?_map]
  cases ks[i]? <;> rfl
theorem rk_len (ks : List PK) : (Rk ks).length = ks.length := List.length_map ..
theorem qwithin (n lo hi : Int) : F120 n lo hi = (decide (lo ≤ n) && decide (n ≤ hi)) := by
  simp only [F120, D120, PT.evT, PT.test, dite_eq_ite, ge_iff_le]
  by_cases h : lo ≤ n <;> simp [h]
theorem rwithin (n lo hi : Int) : F104 n lo hi = (decide (lo ≤ n) && decide (n ≤ hi)) := by
  simp only [F104, D104, PT.evT, PT.test, dite_eq_ite, ge_iff_le]
  by_cases h : lo ≤ n <;> simp [h]
theorem ease_eq (a b c d : Int) : F103 a b c d = F105 a b c d := by
  simp only [F103, D103, F105, D105, PT.evT, PT.test, dite_eq_ite, bnd_def, qwithin, rwithin]
noncomputable def ways (how a b c d : Int) : Bool := if how = 2 then F105 a b c d else (decide (how = 0) || decide (how = 1)) && (a == 0 && (b == 0 && (c == 0 && (d == 0 && true))))
noncomputable def movesv (t how a b c d : Int) : Bool := (decide (-1073741824 ≤ t) && decide (t ≤ 1073741824)) && ways how a b c d
theorem rmoves (t how a b c d : Int) : F70 t how a b c d = movesv t how a b c d := by
  simp only [F70, D70, PT.evT, PT.test, dite_eq_ite, bnd_def, rwithin, movesv, ways, beq_iff_eq]
  cases (decide (-1073741824 ≤ t) && decide (t ≤ 1073741824)) with
  | false => rfl
  | true =>
    simp only [Bool.not_true, Bool.false_eq_true, if_false, Bool.true_and]
    by_cases h2 : how = 2
    · simp only [h2, if_true]
    · by_cases h0 : how = 0
      · simp [h0]
      · by_cases h1 : how = 1
        · simp [h1]
        · simp [h0, h1, h2]
theorem qstep (i : Nat) (ahead t how a b c d : Int) : F69 i ahead t how a b c d = some (.a0 (movesv t how a b c d && decide (0 < i → ahead < t))) := by
  simp only [F69, D69, J69_r1, D69_r1, PT.ev, PT.test, dite_eq_ite, bnd_def, ease_eq, movesv, ways, beq_iff_eq]
  by_cases h1 : t < -1073741824
  · simp only [h1, if_true, Option.bind_some, PT.ev, PT.test, dite_eq_ite, decide_eq_false (show ¬ -1073741824 ≤ t by omega), Bool.false_and]
  · by_cases h2 : t > 1073741824
    · simp only [h1, h2, if_true, if_false, Option.bind_some, PT.ev, PT.test, dite_eq_ite, decide_eq_false (show ¬ t ≤ 1073741824 by omega), Bool.and_false, Bool.false_and]
    · have e1 : decide (-1073741824 ≤ t) = true := decide_eq_true (by omega)
      have e2 : decide (t ≤ 1073741824) = true := decide_eq_true (by omega)
      have key : ∀ q : Bool, decide (0 < i → ahead < t) = !q →
          (if q = true then some (A69.a0 false) else if how = 2 then some (.a0 (F105 a b c d)) else if how = 0 then some (.a0 (a == 0 && (b == 0 && (c == 0 && (d == 0 && true))))) else if how = 1 then some (.a0 (a == 0 && (b == 0 && (c == 0 && (d == 0 && true))))) else some (.a0 false))
            = some (.a0 ((true && true && if how = 2 then F105 a b c d else (decide (how = 0) || decide (how = 1)) && (a == 0 && (b == 0 && (c == 0 && (d == 0 && true))))) && decide (0 < i → ahead < t))) := by
        intro q hq
        rw [hq]
        cases q with
        | true => simp
        | false =>
          simp only [Bool.false_eq_true, if_false, Bool.not_false, Bool.and_true, Bool.true_and]
          by_cases g2 : how = 2
          · simp only [g2, if_true]
          · by_cases g0 : how = 0
            · simp [g0]
            · by_cases g1 : how = 1
              · simp [g1]
              · simp [g0, g1, g2]
      rw [e1, e2]
      by_cases h3 : (i : Int) > 0
      · simp only [h1, h2, h3, if_true, if_false, Option.bind_some, PT.ev, PT.test, dite_eq_ite]
        by_cases h4 : t ≤ ahead
        · simp only [decide_eq_true h4]
          exact key true (by rw [Bool.not_true]; exact decide_eq_false (fun h => by have := h (by omega); omega))
        · simp only [decide_eq_false h4]
          exact key false (by rw [Bool.not_false]; exact decide_eq_true (fun _ => by omega))
      · simp only [h1, h2, h3, if_true, if_false, Option.bind_some, PT.ev, PT.test, dite_eq_ite]
        exact key false (by rw [Bool.not_false]; exact decide_eq_true (fun h => by omega))
/-- A key whose path's points are few, and held. -/
structure Gk (k : PK) : Prop where
  ps : ∃ ps : List Pt, k.c2 = Rp ps ∧ (ps.length : Int) * 16 ≤ 140737488355328 ∧ ∀ p ∈ ps, hd p.c0 = p.c0 ∧ hd p.c1 = p.c1
theorem keys_loop (ks : List PK) (hk : ∀ k ∈ ks, Gk k) (hl : (ks.length : Int) < 4611686018427387904) : ∀ (n i : Nat) (ahead : Int), i ≤ ks.length → (∀ x, 0 < i → ks[i - 1]? = some x → ahead = x.c0) → ks.length < n + i →
    (L33_0 n (.s0 (Rk ks) ahead ks.length i) = some (.e1 (Rk ks)) ∧ L34_0 n (.s0 (Rk ks) i) = some (.e1 (Rk ks))) ∨
    (L33_0 n (.s0 (Rk ks) ahead ks.length i) = some .e0 ∧ L34_0 n (.s0 (Rk ks) i) = some .e0)
  | 0, i, ahead, h1, _, h2 => by omega
  | n + 1, i, ahead, h1, ha, h2 => by
    rw [L33_0_s0, L34_0_s0]
    by_cases h : i < ks.length
    · have hg := List.getElem?_eq_getElem h
      have h0 : 0 < ks.length := by omega
      obtain ⟨ps, e1, e2, _⟩ := (hk ks[i] (List.getElem_mem h)).ps
      obtain ⟨qs, f1, f2, _⟩ := (hk ks[0] (List.getElem_mem h0)).ps
      have ih := keys_loop ks hk hl n (i + 1) ks[i].c0 h (fun x _ hx => by rw [show i + 1 - 1 = i by omega, hg] at hx; cases hx; rfl) (by omega)
      simp only [D33_0, D34_0, PT.ev, PT.test, dite_eq_ite, bnd_def, rk_len, if_pos (show (i : Int) < (ks.length : Int) by omega), if_pos (show (0 : Int) ≤ (i : Int) by omega), Int.toNat_natCast, rk_get, hg, List.getElem?_eq_getElem h0, Option.bind_some, rmoves, qstep, e1, f1,
        qempty, qright _ ps (by omega), rright _ ps (by omega), qfits, rfits, rp_len, N33_0.nx_s0, N33_0.nx_e0, N34_0.nx_s0, N34_0.nx_e0, wi (show (i : Int) < 9223372036854775807 by omega)]
      have le0 : ((ps.length : Int) == 0) = decide (ps.length = 0) := leneq ps.length 0
      simp only [le0]
      cases hm : movesv ks[i].c0 ks[i].c3 ks[i].c4 ks[i].c5 ks[i].c6 ks[i].c7 with
      | false => exact .inr ⟨rfl, rfl⟩
      | true =>
        simp only [Bool.true_and, Bool.not_true, Bool.false_eq_true, if_false]
        -- behind the tick ahead
        have tail : ∀ (o : Option N34_0), o = (if (!rightv ks[i].c1 ps) = true then some .e0 else if decide (ps.length = 0) = true then some .e0 else if (!fitsv ks[i].c1 ps ks[0].c1 qs) = true then some .e0 else L34_0 n (.s0 (Rk ks) (i + 1 : Nat))) →
            ((if decide (ps.length = 0) = true then some (N33_0.e0) else if (!rightv ks[i].c1 ps) = true then some .e0 else if (!fitsv ks[i].c1 ps ks[0].c1 qs) = true then some .e0 else L33_0 n (.s0 (Rk ks) ks[i].c0 ks.length (i + 1 : Nat))) = some (.e1 (Rk ks)) ∧ o = some (.e1 (Rk ks))) ∨
            ((if decide (ps.length = 0) = true then some (N33_0.e0) else if (!rightv ks[i].c1 ps) = true then some .e0 else if (!fitsv ks[i].c1 ps ks[0].c1 qs) = true then some .e0 else L33_0 n (.s0 (Rk ks) ks[i].c0 ks.length (i + 1 : Nat))) = some .e0 ∧ o = some .e0) := by
          rintro o rfl
          cases rightv ks[i].c1 ps <;> cases decide (ps.length = 0) <;> cases fitsv ks[i].c1 ps ks[0].c1 qs
          all_goals first
            | exact .inr ⟨rfl, rfl⟩
            | exact ih
        by_cases hi0 : (i : Int) > 0
        · have hp : i - 1 < ks.length := by omega
          have hah := ha _ (by omega) (List.getElem?_eq_getElem hp)
          have hw3 : w64 ((i : Int) - 1) = ((i - 1 : Nat) : Int) := by rw [w64_in (by omega) (by omega)]; omega
          simp only [if_pos hi0, hw3, if_pos (show (0 : Int) ≤ ((i - 1 : Nat) : Int) by omega), Int.toNat_natCast, rk_get, List.getElem?_eq_getElem hp, Option.bind_some, ← hah]
          by_cases hlt : ahead < ks[i].c0
          · simp only [decide_eq_true (show 0 < i → ahead < ks[i].c0 from fun _ => hlt), Bool.not_true, Bool.false_eq_true, if_false, if_neg (show ¬ ahead ≥ ks[i].c0 by omega)]
            exact tail _ rfl
          · simp only [decide_eq_false (show ¬ (0 < i → ahead < ks[i].c0) from fun hq => hlt (hq (by omega))), Bool.not_false, if_true, if_pos (show ahead ≥ ks[i].c0 by omega)]
            exact .inr ⟨trivial, trivial⟩
        · simp only [if_neg hi0, decide_eq_true (show 0 < i → ahead < ks[i].c0 from fun hq => by omega), Bool.not_true, Bool.false_eq_true, if_false]
          exact tail _ rfl
    · simp only [D33_0, D34_0, PT.ev, PT.test, dite_eq_ite, rk_len, if_neg (show ¬ (i : Int) < (ks.length : Int) by omega), N33_0.nx_e1, N34_0.nx_e1]
      exact .inl ⟨trivial, trivial⟩
theorem keys_ex (ks : List PK) (hk : ∀ k ∈ ks, Gk k) (hl : (ks.length : Int) < 4611686018427387904) : ∃ b, F33 (Rk ks) = some (.a0 b) ∧ F34 (Rk ks) = some (.a0 b) := by
  have h := keys_loop ks hk hl 18446744073709551616 0 0 (by omega) (fun x h => by omega) (by omega)
  rw [show ((0 : Nat) : Int) = 0 from rfl] at h
  simp only [F33, D33, F34, D34, PT.ev, PT.test, dite_eq_ite, rk_len]
  rcases h with ⟨h1, h2⟩ | ⟨h1, h2⟩ <;> rw [h1, h2] <;> exact ⟨_, rfl, rfl⟩
end Go.Proofs.Ytifalphladcdcaa.H
