/- Keys of numbers, of colours: whether they may be, the number at a tick: the program's and the document's tell the same. Conditions: those stated. -/
import Derived.Test.YtifalphladcdcaaPath45
set_option linter.unusedVariables false
set_option linter.unusedSimpArgs false
namespace Go.Proofs.Ytifalphladcdcaa.H
open Go Go.VM
set_option maxRecDepth 100000
abbrev Ky := W61
abbrev Rn (ks : List Ky) : List (List V) := ks.map W61.cells
theorem rn_get (ks : List Ky) (i : Nat) : ((Rn ks)[i]?).bind W61.dec = ks[i]? := by
  simp only [Rn, List.getElem?_map]
  cases ks[i]? <;> rfl
theorem rn_len (ks : List Ky) : (Rn ks).length = ks.length := List.length_map ..
theorem take_rn (ks : List Ky) : List.take ks.length (Rn ks) = Rn ks := List.take_of_length_le (by rw [rn_len]; exact Nat.le_refl _)
/-- Whether the i-th key may be behind the one ahead of it. -/
def okN (ks : List Ky) (i : Nat) (h : i < ks.length) : Prop := movesv ks[i].c0 ks[i].c2 ks[i].c3 ks[i].c4 ks[i].c5 ks[i].c6 = true ∧ (-67108864 ≤ ks[i].c1 ∧ ks[i].c1 ≤ 67108864) ∧ ∀ x, 0 < i → ks[i - 1]? = some x → x.c0 < ks[i].c0
theorem kright_loop (ks : List Ky) (hl : (ks.length : Int) < 4611686018427387904) : ∀ (n i : Nat) (ahead : Int), i ≤ ks.length → (∀ x, 0 < i → ks[i - 1]? = some x → ahead = x.c0) → ks.length < n + i →
    (L51_0 n (.s0 (Rn ks) ahead ks.length i) = some (.e1 (Rn ks)) ∧ L89_0 n (.s0 (Rn ks) i) = some (.e1 (Rn ks)) ∧ ∀ j (h : j < ks.length), i ≤ j → okN ks j h) ∨
    (L51_0 n (.s0 (Rn ks) ahead ks.length i) = some .e0 ∧ L89_0 n (.s0 (Rn ks) i) = some .e0 ∧ ¬ ∀ j (h : j < ks.length), i ≤ j → okN ks j h)
  | 0, i, ahead, h1, _, h2 => by omega
  | n + 1, i, ahead, h1, ha, h2 => by
    rw [L51_0_s0, L89_0_s0]
    by_cases h : i < ks.length
    · have hg := List.getElem?_eq_getElem h
      have ih := kright_loop ks hl n (i + 1) ks[i].c0 h (fun x _ hx => by rw [show i + 1 - 1 = i by omega, hg] at hx; cases hx; rfl) (by omega)
      simp only [D51_0, D89_0, PT.ev, PT.test, dite_eq_ite, bnd_def, rn_len, if_pos (show (i : Int) < (ks.length : Int) by omega), if_pos (show (0 : Int) ≤ (i : Int) by omega), Int.toNat_natCast, rn_get, hg, Option.bind_some, rmoves, rwithin, qstep,
        N51_0.nx_s0, N51_0.nx_e0, N89_0.nx_s0, N89_0.nx_e0, wi (show (i : Int) < 9223372036854775807 by omega)]
      have bad : ¬ okN ks i h → ¬ ∀ j (h : j < ks.length), i ≤ j → okN ks j h := fun hn hall => hn (hall i h (Nat.le_refl i))
      have good : okN ks i h → (∀ j (h : j < ks.length), i + 1 ≤ j → okN ks j h) → ∀ j (h : j < ks.length), i ≤ j → okN ks j h := fun h0 hall j hj hij => by
        by_cases e : j = i
        · subst e; exact h0
        · exact hall j hj (by omega)
      cases hm : movesv ks[i].c0 ks[i].c2 ks[i].c3 ks[i].c4 ks[i].c5 ks[i].c6 with
      | false => exact .inr ⟨rfl, rfl, bad fun hq => by have := hq.1; rw [hm] at this; cases this⟩
      | true =>
        simp only [Bool.true_and, Bool.not_true, Bool.false_eq_true, if_false]
        have fin : okN ks i h →
            (L51_0 n (.s0 (Rn ks) ks[i].c0 ks.length (i + 1 : Nat)) = some (.e1 (Rn ks)) ∧ L89_0 n (.s0 (Rn ks) (i + 1 : Nat)) = some (.e1 (Rn ks)) ∧ ∀ j (h : j < ks.length), i ≤ j → okN ks j h) ∨
            (L51_0 n (.s0 (Rn ks) ks[i].c0 ks.length (i + 1 : Nat)) = some .e0 ∧ L89_0 n (.s0 (Rn ks) (i + 1 : Nat)) = some .e0 ∧ ¬ ∀ j (h : j < ks.length), i ≤ j → okN ks j h) := fun h0 => by
          rcases ih with ⟨a, b, c⟩ | ⟨a, b, c⟩
          · exact .inl ⟨a, b, good h0 c⟩
          · exact .inr ⟨a, b, fun hall => c fun j hj hij => hall j hj (by omega)⟩
        by_cases hv1 : ks[i].c1 < -67108864
        · have e1 : decide (-67108864 ≤ ks[i].c1) = false := decide_eq_false (by omega)
          simp only [e1, Bool.false_and, Bool.not_false, if_true, if_pos hv1]
          exact .inr ⟨by split <;> rfl, trivial, bad fun hq => by have := hq.2.1.1; omega⟩
        · by_cases hv2 : ks[i].c1 > 67108864
          · have e1 : decide (ks[i].c1 ≤ 67108864) = false := decide_eq_false (by omega)
            simp only [e1, Bool.and_false, Bool.not_false, if_true, if_pos hv2]
            exact .inr ⟨by split <;> (try split) <;> rfl, trivial, bad fun hq => by have := hq.2.1.2; omega⟩
          · have e1 : decide (-67108864 ≤ ks[i].c1) = true := decide_eq_true (by omega)
            have e2 : decide (ks[i].c1 ≤ 67108864) = true := decide_eq_true (by omega)
            simp only [e1, e2, Bool.and_self, Bool.not_true, Bool.false_eq_true, if_false, if_neg hv1, if_neg hv2]
            by_cases hi0 : (i : Int) > 0
            · have hp : i - 1 < ks.length := by omega
              have hah := ha _ (by omega) (List.getElem?_eq_getElem hp)
              have hw3 : w64 ((i : Int) - 1) = ((i - 1 : Nat) : Int) := by rw [w64_in (by omega) (by omega)]; omega
              simp only [if_pos hi0, hw3, if_pos (show (0 : Int) ≤ ((i - 1 : Nat) : Int) by omega), Int.toNat_natCast, rn_get, List.getElem?_eq_getElem hp, Option.bind_some, ← hah]
              by_cases hlt : ahead < ks[i].c0
              · simp only [decide_eq_true (show 0 < i → ahead < ks[i].c0 from fun _ => hlt), Bool.not_true, Bool.false_eq_true, if_false, if_neg (show ¬ ahead ≥ ks[i].c0 by omega)]
                exact fin ⟨hm, ⟨by omega, by omega⟩, fun x _ hx => by rw [List.getElem?_eq_getElem hp] at hx; cases hx; rw [← hah]; exact hlt⟩
              · simp only [decide_eq_false (show ¬ (0 < i → ahead < ks[i].c0) from fun hq => hlt (hq (by omega))), Bool.not_false, if_true, if_pos (show ahead ≥ ks[i].c0 by omega)]
                exact .inr ⟨trivial, trivial, bad fun hq => hlt (by rw [hah]; exact hq.2.2 _ (by omega) (List.getElem?_eq_getElem hp))⟩
            · simp only [if_neg hi0, decide_eq_true (show 0 < i → ahead < ks[i].c0 from fun hq => by omega), Bool.not_true, Bool.false_eq_true, if_false]
              exact fin ⟨hm, ⟨by omega, by omega⟩, fun x hx => by omega⟩
    · simp only [D51_0, D89_0, PT.ev, PT.test, dite_eq_ite, rn_len, if_neg (show ¬ (i : Int) < (ks.length : Int) by omega), N51_0.nx_e1, N89_0.nx_e1]
      exact .inl ⟨trivial, trivial, fun j hj hij => by omega⟩
theorem kright_ex (ks : List Ky) (hl : (ks.length : Int) < 4611686018427387904) : ∃ b, F51 (Rn ks) = some (.a0 b) ∧ F89 (Rn ks) = some (.a0 b) ∧ ((∀ j (h : j < ks.length), okN ks j h) → ks.length ≤ 32 → b = true) := by
  have h := kright_loop ks hl 18446744073709551616 0 0 (by omega) (fun x h => by omega) (by omega)
  rw [show ((0 : Nat) : Int) = 0 from rfl] at h
  simp only [F51, D51, F89, D89, PT.ev, PT.test, dite_eq_ite, rn_len]
  rcases h with ⟨h1, h2, h3⟩ | ⟨h1, h2, h3⟩ <;> rw [h1, h2]
  · simp only [Option.bind_some, PT.ev, PT.test, dite_eq_ite, rn_len]
    exact ⟨_, rfl, rfl, fun _ hle => decide_eq_true (by omega)⟩
  · exact ⟨_, rfl, rfl, fun hq => absurd (fun j hj _ => hq j hj) h3⟩
/-! ### The number at a tick -/
def lsN (ks : List Ky) (t : Int) : Nat → Int
  | 0 => -1
  | m + 1 => match ks[m]? with
    | some k => if k.c0 ≤ t then m else lsN ks t m
    | none => lsN ks t m
theorem lsN_bd (ks : List Ky) (t : Int) : ∀ m : Nat, -1 ≤ lsN ks t m ∧ lsN ks t m < m
  | 0 => by simp [lsN]
  | m + 1 => by
    have := lsN_bd ks t m
    unfold lsN
    split
    · split <;> omega
    · omega
theorem qfind_loop (ks : List Ky) (hl : (ks.length : Int) < 4611686018427387904) (t : Int) : ∀ (n m : Nat), m ≤ ks.length → m < n →
    L76_0 n (.s0 (Rn ks) t ((m : Int) - 1)) = some (if lsN ks t m = -1 then .e1 else .e0 (lsN ks t m))
  | 0, m, _, hn => by omega
  | n + 1, m, hm, hn => by
    rw [L76_0_s0]
    cases m with
    | zero => simp only [D76_0, PT.ev, PT.test, dite_eq_ite, if_neg (show ¬ (((0 : Nat) : Int) - 1 ≥ 0) by omega), N76_0.nx_e1, lsN, if_true]
    | succ m =>
      have hi : m < ks.length := by omega
      have e : ((m + 1 : Nat) : Int) - 1 = (m : Int) := by omega
      have hw : w64 ((m : Int) - 1) = (m : Int) - 1 := by rw [w64_in (by omega) (by omega)]
      simp only [D76_0, PT.ev, PT.test, dite_eq_ite, e, if_pos (show (m : Int) ≥ 0 by omega), if_pos (show (0 : Int) ≤ (m : Int) by omega), Int.toNat_natCast, rn_get, List.getElem?_eq_getElem hi, Option.bind_some, N76_0.nx_e0, N76_0.nx_s0, hw, lsN]
      by_cases h : ks[m].c0 ≤ t
      · rw [if_pos h, if_pos h, if_neg (by omega)]
      · rw [if_neg h, if_neg h]
        exact qfind_loop ks hl t n m (by omega) (by omega)
theorem qfind (ks : List Ky) (hl : (ks.length : Int) < 4611686018427387904) (t : Int) : F76 (Rn ks) t = some (.a0 (lsN ks t ks.length)) := by
  have hw : w64 ((ks.length : Int) - 1) = (ks.length : Int) - 1 := by rw [w64_in (by omega) (by omega)]
  have h := qfind_loop ks hl t 18446744073709551616 ks.length (by omega) (by omega)
  simp only [F76, D76, PT.ev, PT.test, dite_eq_ite, rn_len, hw, h, Option.bind_some]
  by_cases e : lsN ks t ks.length = -1
  · rw [if_pos e, e]; rfl
  · rw [if_neg e]; rfl
theorem rfind_loop (ks : List Ky) (hl : (ks.length : Int) < 4611686018427387904) (t : Int) : ∀ (n i : Nat), i ≤ ks.length → ks.length < n + i →
    L117_0 n (.s0 (Rn ks) t (lsN ks t i) i) = some (.e0 (lsN ks t ks.length))
  | 0, i, _, hn => by omega
  | n + 1, i, hi, hn => by
    rw [L117_0_s0]
    by_cases h : i < ks.length
    · have ih := rfind_loop ks hl t n (i + 1) (by omega) (by omega)
      have e : lsN ks t (i + 1) = if ks[i].c0 ≤ t then (i : Int) else lsN ks t i := by
        rw [lsN, List.getElem?_eq_getElem h]
      rw [e] at ih
      simp only [D117_0, PT.ev, PT.test, dite_eq_ite, rn_len, if_pos (show (i : Int) < (ks.length : Int) by omega), if_pos (show (0 : Int) ≤ (i : Int) by omega), Int.toNat_natCast, rn_get, List.getElem?_eq_getElem h, Option.bind_some, N117_0.nx_s0, wi (show (i : Int) < 9223372036854775807 by omega)]
      by_cases hc : ks[i].c0 ≤ t
      · rw [if_pos hc] at ih ⊢; exact ih
      · rw [if_neg hc] at ih ⊢; exact ih
    · simp only [D117_0, PT.ev, PT.test, dite_eq_ite, rn_len, if_neg (show ¬ (i : Int) < (ks.length : Int) by omega), N117_0.nx_e0]
      rw [show i = ks.length by omega]
theorem rfind (ks : List Ky) (hl : (ks.length : Int) < 4611686018427387904) (t : Int) : F117 (Rn ks) t = some (.a0 (lsN ks t ks.length)) := by
  have h := rfind_loop ks hl t 18446744073709551616 0 (by omega) (by omega)
  rw [show lsN ks t 0 = -1 from rfl, show ((0 : Nat) : Int) = 0 from rfl] at h
  simp only [F117, D117, PT.ev, PT.test, dite_eq_ite, h, Option.bind_some]
/-- The number at a tick. -/
def atN (ks : List Ky) (t none_ : Int) : Int :=
  if ks.length = 0 then none_ else
  if lsN ks t ks.length = -1 then (ks.getD 0 ⟨0, 0, 0, 0, 0, 0, 0⟩).c1 else
  if lsN ks t ks.length = (ks.length : Int) - 1 then (ks.getD (ks.length - 1) ⟨0, 0, 0, 0, 0, 0, 0⟩).c1 else
  (fun (k l : Ky) => mid k.c1 l.c1 (goesv k.c2 k.c3 k.c4 k.c5 k.c6 (partv k.c0 l.c0 t))) (ks.getD (lsN ks t ks.length).toNat ⟨0, 0, 0, 0, 0, 0, 0⟩) (ks.getD (lsN ks t ks.length + 1).toNat ⟨0, 0, 0, 0, 0, 0, 0⟩)
theorem getD_lt {α : Type} (l : List α) (i : Nat) (d : α) (h : i < l.length) : l.getD i d = l[i] := by rw [List.getD_eq_getElem?_getD, List.getElem?_eq_getElem h]; rfl
theorem qat (ks : List Ky) (hl : (ks.length : Int) < 4611686018427387904) (t d : Int) : F44 (Rn ks) t d = some (.a0 (atN ks t d)) := by
  have hb := lsN_bd ks t ks.length
  simp only [F44, D44, PT.ev, PT.test, dite_eq_ite, rn_len, qfind ks hl t, Option.bind_some, beq_iff_eq, atN]
  by_cases h0 : ks.length = 0
  · rw [if_pos (by omega), if_pos h0]
  · have hw : w64 ((ks.length : Int) - 1) = (ks.length : Int) - 1 := by rw [w64_in (by omega) (by omega)]
    rw [if_neg (by omega), if_neg h0, hw]
    generalize lsN ks t ks.length = z at *
    by_cases h1 : z = -1
    · rw [if_pos h1, if_pos h1, rn_get, List.getElem?_eq_getElem (by omega), getD_lt _ _ _ (by omega)]; rfl
    · rw [if_neg h1, if_neg h1]
      have hz : z.toNat < ks.length := by omega
      by_cases h2 : z = (ks.length : Int) - 1
      · rw [if_pos h2, if_pos h2, if_pos (by omega), rn_get, List.getElem?_eq_getElem hz, getD_lt _ _ _ (by omega)]
        have : z.toNat = ks.length - 1 := by omega
        simp only [this, Option.bind_some]
      · have hz2 : (z + 1).toNat < ks.length := by omega
        have hw2 : w64 (z + 1) = z + 1 := w64_in (by omega) (by omega)
        simp only [if_neg h2, if_pos (show 0 ≤ z by omega), hw2, if_pos (show 0 ≤ z + 1 by omega), rn_get, List.getElem?_eq_getElem hz, List.getElem?_eq_getElem hz2, Option.bind_some, qpart, qgoes, qmid', getD_lt _ _ _ hz, getD_lt _ _ _ hz2]
theorem rat (ks : List Ky) (hl : (ks.length : Int) < 4611686018427387904) (t d : Int) : F93 (Rn ks) t d = some (.a0 (atN ks t d)) := by
  have hb := lsN_bd ks t ks.length
  simp only [F93, D93, PT.ev, PT.test, dite_eq_ite, rn_len, rfind ks hl t, Option.bind_some, beq_iff_eq, atN]
  by_cases h0 : ks.length = 0
  · rw [if_pos (by omega), if_pos h0]
  · have hw : w64 ((ks.length : Int) - 1) = (ks.length : Int) - 1 := by rw [w64_in (by omega) (by omega)]
    rw [if_neg (by omega), if_neg h0, hw]
    generalize lsN ks t ks.length = z at *
    by_cases h1 : z = -1
    · rw [if_pos (by omega), if_pos h1, rn_get, List.getElem?_eq_getElem (by omega), getD_lt _ _ _ (by omega)]; rfl
    · rw [if_neg (by omega), if_neg h1]
      have hz : z.toNat < ks.length := by omega
      by_cases h2 : z = (ks.length : Int) - 1
      · rw [if_pos h2, if_pos h2, if_pos (by omega), rn_get, List.getElem?_eq_getElem hz, getD_lt _ _ _ (by omega)]
        have : z.toNat = ks.length - 1 := by omega
        simp only [this, Option.bind_some]
      · have hz2 : (z + 1).toNat < ks.length := by omega
        have hw2 : w64 (z + 1) = z + 1 := w64_in (by omega) (by omega)
        simp only [if_neg h2, if_pos (show 0 ≤ z by omega), hw2, if_pos (show 0 ≤ z + 1 by omega), rn_get, List.getElem?_eq_getElem hz, List.getElem?_eq_getElem hz2, Option.bind_some, rpart, rgoes, rmid', getD_lt _ _ _ hz, getD_lt _ _ _ hz2]
end Go.Proofs.Ytifalphladcdcaa.H
