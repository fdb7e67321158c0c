/- Paths: whether they may be, whether they fit, what lies between two, mapped ones: the program's and the document's tell the same. Plain Lean over what the functions compute. Conditions: those stated. -/
import Derived.Test.YtifalphladcdcaaEase5
set_option linter.unusedVariables false
set_option linter.unusedSimpArgs false
namespace Go.Proofs.Ytifalphladcdcaa.H
open Go Go.VM
set_option maxRecDepth 100000
abbrev Pt := W26
theorem wi {i : Nat} (h : (i : Int) < 9223372036854775807) : w64 ((i : Int) + 1) = ((i + 1 : Nat) : Int) := by rw [w64_in (by omega) (by omega)]; omega
theorem rp_len (ps : List Pt) : (Rp ps).length = ps.length := List.length_map ..
theorem take_rp (ps : List Pt) : List.take ps.length (Rp ps) = Rp ps := List.take_of_length_le (by rw [rp_len]; exact Nat.le_refl _)
def nr (z : Int) : Bool := decide (-67108864 ≤ z) && decide (z ≤ 67108864)
def nrp (p : Pt) : Bool := nr p.c0 && nr p.c1
theorem qnear (z : Int) : F63 z = nr z := by
  simp only [F63, D63, PT.evT, PT.test, dite_eq_ite, nr, ge_iff_le]
  by_cases h : -67108864 ≤ z <;> simp [h]
theorem qnot (x y : Int) : F62 x y = !(nr x && nr y) := by
  simp only [F62, D62, PT.evT, PT.test, dite_eq_ite, bnd_def, qnear]
  cases nr x <;> cases nr y <;> rfl
theorem rnear (x y : Int) : F53 x y = (nr x && nr y) := by
  simp only [F53, D53, PT.evT, PT.test, dite_eq_ite, nr, ge_iff_le]
  by_cases h1 : -67108864 ≤ x <;> by_cases h2 : x ≤ 67108864 <;> by_cases h3 : -67108864 ≤ y <;> simp [h1, h2, h3]
theorem idx_loop (ps : List Pt) (hl : (ps.length : Int) < 4611686018427387904) : ∀ (n i : Nat), i ≤ ps.length → ps.length < n + i →
    (L97_0 n (.s0 (Rp ps) ps.length i) = some .e1 ∧ (ps.drop i).all nrp = true) ∨
    (∃ j : Nat, L97_0 n (.s0 (Rp ps) ps.length i) = some (.e0 j) ∧ (ps.drop i).all nrp = false)
  | 0, i, h1, h2 => by omega
  | n + 1, i, h1, h2 => by
    rw [L97_0_s0]
    by_cases h : i < ps.length
    · simp only [D97_0, PT.ev, PT.test, dite_eq_ite, if_pos (show (i : Int) < (ps.length : Int) by omega), if_pos (show (0 : Int) ≤ (i : Int) by omega), Int.toNat_natCast, rp_get, List.getElem?_eq_getElem h, Option.bind_some, bnd_def, qnot]
      rw [List.drop_eq_getElem_cons h, List.all_cons, show nrp ps[i] = (nr ps[i].c0 && nr ps[i].c1) from rfl]
      cases (nr ps[i].c0 && nr ps[i].c1) with
      | false => exact .inr ⟨i, by simp only [Bool.not_false, if_true, N97_0.nx_e0], by simp⟩
      | true =>
        simp only [Bool.not_true, Bool.false_eq_true, if_false, N97_0.nx_s0, Bool.true_and]
        rw [wi (by omega)]
        exact idx_loop ps hl n (i + 1) h (by omega)
    · simp only [D97_0, PT.ev, PT.test, dite_eq_ite, if_neg (show ¬ (i : Int) < (ps.length : Int) by omega), N97_0.nx_e1]
      refine .inl ⟨trivial, ?_⟩
      rw [List.drop_eq_nil_of_le (by omega)]; rfl
theorem contains_eq (ps : List Pt) (hl : (ps.length : Int) < 4611686018427387904) : F61 (Rp ps) = some (.a0 (!ps.all nrp)) := by
  have h := idx_loop ps hl 18446744073709551616 0 (by omega) (by omega)
  rw [List.drop_zero, show ((0 : Nat) : Int) = 0 from rfl] at h
  simp only [F61, D61, F97, D97, PT.ev, PT.test, dite_eq_ite, rp_len]
  rcases h with ⟨h1, h2⟩ | ⟨j, h1, h2⟩
  · rw [h1, h2]; simp only [Option.bind_some, PT.ev, PT.test, dite_eq_ite]; rfl
  · rw [h1, h2]; simp only [Option.bind_some, PT.ev, PT.test, dite_eq_ite]
    rw [decide_eq_true (show (j : Int) ≥ 0 by omega)]; rfl
def rightv (c : Bool) (ps : List Pt) : Bool := if ps.length = 0 then !c else decide (4 ≤ ps.length) && (decide (ps.length ≤ 97) && (decide (ps.length % 3 = 1) && ps.all nrp))
theorem mod3 (n : Nat) : (Int.tmod (n : Int) 3 == 1) = decide (n % 3 = 1) := by
  rw [Int.tmod_eq_emod_of_nonneg (by omega)]
  by_cases h : n % 3 = 1
  · rw [decide_eq_true h, beq_iff_eq]; omega
  · rw [decide_eq_false h, beq_eq_false_iff_ne]; omega
theorem qright (c : Bool) (ps : List Pt) (hl : (ps.length : Int) < 4611686018427387904) : F24 c (Rp ps) = some (.a0 (rightv c ps)) := by
  simp only [F24, D24, PT.ev, PT.test, dite_eq_ite, rp_len, contains_eq ps hl, Option.bind_some, mod3, rightv, beq_iff_eq]
  by_cases h0 : ps.length = 0
  · rw [if_pos (show (ps.length : Int) = 0 by omega), if_pos h0]
  · rw [if_neg (show ¬ (ps.length : Int) = 0 by omega), if_neg h0]
    by_cases h1 : 4 ≤ ps.length
    · rw [if_pos (show (ps.length : Int) ≥ 4 by omega), decide_eq_true h1]
      by_cases h2 : ps.length ≤ 97
      · rw [if_pos (show (ps.length : Int) ≤ 97 by omega), decide_eq_true h2]
        by_cases h3 : ps.length % 3 = 1
        · rw [decide_eq_true h3]; simp
        · rw [decide_eq_false h3]; simp
      · rw [if_neg (show ¬ (ps.length : Int) ≤ 97 by omega), decide_eq_false h2]; rfl
    · rw [if_neg (show ¬ (ps.length : Int) ≥ 4 by omega), decide_eq_false h1]; rfl
theorem rright_loop (c : Bool) (ps : List Pt) (hl : (ps.length : Int) < 4611686018427387904) : ∀ (n i : Nat), i ≤ ps.length → ps.length < n + i →
    L18_0 n (.s0 ps.length i c (Rp ps)) = some (if (ps.drop i).all nrp = true then .e1 ps.length else .e0)
  | 0, i, h1, h2 => by omega
  | n + 1, i, h1, h2 => by
    rw [L18_0_s0]
    by_cases h : i < ps.length
    · simp only [D18_0, PT.ev, PT.test, dite_eq_ite, if_pos (show (i : Int) < (ps.length : Int) by omega), if_pos (show (0 : Int) ≤ (i : Int) by omega), Int.toNat_natCast, rp_get, List.getElem?_eq_getElem h, Option.bind_some, bnd_def, rnear]
      rw [List.drop_eq_getElem_cons h, List.all_cons, show nrp ps[i] = (nr ps[i].c0 && nr ps[i].c1) from rfl]
      cases (nr ps[i].c0 && nr ps[i].c1) with
      | false => rfl
      | true =>
        simp only [Bool.not_true, Bool.false_eq_true, if_false, N18_0.nx_s0, Bool.true_and]
        rw [wi (by omega)]
        exact rright_loop c ps hl n (i + 1) h (by omega)
    · simp only [D18_0, PT.ev, PT.test, dite_eq_ite, if_neg (show ¬ (i : Int) < (ps.length : Int) by omega), N18_0.nx_e1]
      rw [List.drop_eq_nil_of_le (by omega)]; rfl
theorem rright (c : Bool) (ps : List Pt) (hl : (ps.length : Int) < 4611686018427387904) : F18 c (Rp ps) = some (.a0 (rightv c ps)) := by
  have h := rright_loop c ps hl 18446744073709551616 0 (by omega) (by omega)
  rw [List.drop_zero, show ((0 : Nat) : Int) = 0 from rfl] at h
  simp only [F18, D18, PT.ev, PT.test, dite_eq_ite, rp_len, h, Option.bind_some, rightv, beq_iff_eq]
  by_cases h0 : ps.length = 0
  · rw [if_pos (show (ps.length : Int) = 0 by omega), if_pos h0]
  · rw [if_neg (show ¬ (ps.length : Int) = 0 by omega), if_neg h0]
    cases ha : ps.all nrp with
    | false => simp only [Bool.false_eq_true, if_false, PT.ev, PT.test, dite_eq_ite, Bool.and_false]
    | true =>
      simp only [if_true, PT.ev, PT.test, dite_eq_ite, mod3, Bool.and_true]
      by_cases h1 : 4 ≤ ps.length
      · rw [if_pos (show (ps.length : Int) ≥ 4 by omega), decide_eq_true h1]
        by_cases h2 : ps.length ≤ 97
        · rw [if_pos (show (ps.length : Int) ≤ 97 by omega), decide_eq_true h2]; rfl
        · rw [if_neg (show ¬ (ps.length : Int) ≤ 97 by omega), decide_eq_false h2]; rfl
      · rw [if_neg (show ¬ (ps.length : Int) ≥ 4 by omega), decide_eq_false h1]; rfl
def fitsv (c : Bool) (ps : List Pt) (d : Bool) (qs : List Pt) : Bool := decide (ps.length = qs.length) && (c == d)
theorem leneq (n m : Nat) : ((n : Int) == (m : Int)) = decide (n = m) := by
  by_cases h : n = m
  · rw [decide_eq_true h, beq_iff_eq]; omega
  · rw [decide_eq_false h, beq_eq_false_iff_ne]; omega
theorem qfits (c : Bool) (ps : List Pt) (d : Bool) (qs : List Pt) : F26 c (Rp ps) d (Rp qs) = fitsv c ps d qs := by
  simp only [F26, D26, PT.evT, PT.test, dite_eq_ite, rp_len, leneq, fitsv]
  by_cases h : ps.length = qs.length
  · simp only [decide_eq_true h, if_true, Bool.true_and]
  · simp only [decide_eq_false h, Bool.false_eq_true, if_false, Bool.false_and]
theorem rfits (c : Bool) (ps : List Pt) (d : Bool) (qs : List Pt) : F27 c (Rp ps) d (Rp qs) = fitsv c ps d qs := by
  simp only [F27, D27, PT.evT, PT.test, dite_eq_ite, rp_len, leneq, fitsv]
  by_cases h : ps.length = qs.length
  · simp only [decide_eq_true h, if_true, Bool.true_and]
  · simp only [decide_eq_false h, Bool.false_eq_true, if_false, Bool.false_and]
theorem qempty (c : Bool) (ps : List Pt) : F25 c (Rp ps) = decide (ps.length = 0) := by
  simp only [F25, D25, PT.evT, PT.test, dite_eq_ite, rp_len]
  exact leneq ps.length 0
/-! ### The same points -/
def eqp (p q : Pt) : Bool := p.c0 == q.c0 && (p.c1 == q.c1 && true)
def eqs : List Pt → List Pt → Bool
  | [], [] => true
  | p :: ps, q :: qs => eqp p q && eqs ps qs
  | _, _ => false
theorem eqs_refl : ∀ ps : List Pt, eqs ps ps = true
  | [] => rfl
  | p :: ps => by simp [eqs, eqp, eqs_refl ps]
theorem eqs_len : ∀ ps qs : List Pt, ps.length ≠ qs.length → eqs ps qs = false
  | [], [], h => absurd rfl h
  | [], _ :: _, _ => rfl
  | _ :: _, [], _ => rfl
  | p :: ps, q :: qs, h => by rw [eqs, eqs_len ps qs (fun e => h (by simp [e])), Bool.and_false]
theorem qeq_loop (ps qs : List Pt) (he : ps.length = qs.length) (hl : (ps.length : Int) < 4611686018427387904) : ∀ (n i : Nat), i ≤ ps.length → ps.length < n + i →
    L64_0 n (.s0 (Rp ps) (Rp qs) ps.length i) = some (if eqs (ps.drop i) (qs.drop i) = true then .e1 else .e0)
  | 0, i, h1, h2 => by omega
  | n + 1, i, h1, h2 => by
    rw [L64_0_s0]
    by_cases h : i < ps.length
    · have h' : i < qs.length := by omega
      simp only [D64_0, PT.ev, PT.test, dite_eq_ite, if_pos (show (i : Int) < (ps.length : Int) by omega), if_pos (show (0 : Int) ≤ (i : Int) by omega), Int.toNat_natCast, rp_get, List.getElem?_eq_getElem h, List.getElem?_eq_getElem h', Option.bind_some]
      rw [List.drop_eq_getElem_cons h, List.drop_eq_getElem_cons h', eqs, show eqp ps[i] qs[i] = (ps[i].c0 == qs[i].c0 && (ps[i].c1 == qs[i].c1 && true)) from rfl]
      cases (ps[i].c0 == qs[i].c0 && (ps[i].c1 == qs[i].c1 && true)) with
      | false => rfl
      | true =>
        simp only [Bool.not_true, Bool.false_eq_true, if_false, N64_0.nx_s0, Bool.true_and]
        rw [wi (by omega)]
        exact qeq_loop ps qs he hl n (i + 1) h (by omega)
    · simp only [D64_0, PT.ev, PT.test, dite_eq_ite, if_neg (show ¬ (i : Int) < (ps.length : Int) by omega), N64_0.nx_e1]
      rw [List.drop_eq_nil_of_le (by omega), List.drop_eq_nil_of_le (by omega)]; rfl
theorem qequal (ps qs : List Pt) (hl : (ps.length : Int) < 4611686018427387904) : F64 (Rp ps) (Rp qs) = some (.a0 (eqs ps qs)) := by
  simp only [F64, D64, PT.ev, PT.test, dite_eq_ite, rp_len, bne, leneq]
  by_cases he : ps.length = qs.length
  · have h := qeq_loop ps qs he hl 18446744073709551616 0 (by omega) (by omega)
    rw [List.drop_zero, List.drop_zero, show ((0 : Nat) : Int) = 0 from rfl] at h
    simp only [decide_eq_true he, Bool.not_true, Bool.false_eq_true, if_false, h, Option.bind_some]
    cases eqs ps qs <;> rfl
  · simp only [decide_eq_false he, Bool.not_false, if_true, eqs_len _ _ he]
theorem req_loop (ps qs : List Pt) (he : ps.length = qs.length) (hl : (ps.length : Int) < 4611686018427387904) : ∀ (n i : Nat), i ≤ ps.length → ps.length < n + i →
    L31_0 n (.s0 (Rp ps) (Rp qs) i) = some (if eqs (ps.drop i) (qs.drop i) = true then .e1 else .e0)
  | 0, i, h1, h2 => by omega
  | n + 1, i, h1, h2 => by
    rw [L31_0_s0]
    by_cases h : i < ps.length
    · have h' : i < qs.length := by omega
      simp only [D31_0, PT.ev, PT.test, dite_eq_ite, rp_len, if_pos (show (i : Int) < (ps.length : Int) by omega), if_pos (show (0 : Int) ≤ (i : Int) by omega), Int.toNat_natCast, rp_get, List.getElem?_eq_getElem h, List.getElem?_eq_getElem h', Option.bind_some]
      rw [List.drop_eq_getElem_cons h, List.drop_eq_getElem_cons h', eqs, show eqp ps[i] qs[i] = (ps[i].c0 == qs[i].c0 && (ps[i].c1 == qs[i].c1 && true)) from rfl]
      cases (ps[i].c0 == qs[i].c0 && (ps[i].c1 == qs[i].c1 && true)) with
      | false => rfl
      | true =>
        simp only [Bool.not_true, Bool.false_eq_true, if_false, N31_0.nx_s0, Bool.true_and]
        rw [wi (by omega)]
        exact req_loop ps qs he hl n (i + 1) h (by omega)
    · simp only [D31_0, PT.ev, PT.test, dite_eq_ite, rp_len, if_neg (show ¬ (i : Int) < (ps.length : Int) by omega), N31_0.nx_e1]
      rw [List.drop_eq_nil_of_le (by omega), List.drop_eq_nil_of_le (by omega)]; rfl
theorem rpoints (ps qs : List Pt) (hl : (ps.length : Int) < 4611686018427387904) : F31 (Rp ps) (Rp qs) = some (.a0 (eqs ps qs)) := by
  simp only [F31, D31, PT.ev, PT.test, dite_eq_ite, rp_len, bne, leneq]
  by_cases he : ps.length = qs.length
  · have h := req_loop ps qs he hl 18446744073709551616 0 (by omega) (by omega)
    rw [List.drop_zero, List.drop_zero, show ((0 : Nat) : Int) = 0 from rfl] at h
    simp only [decide_eq_true he, Bool.not_true, Bool.false_eq_true, if_false, h, Option.bind_some]
    cases eqs ps qs <;> rfl
  · simp only [decide_eq_false he, Bool.not_false, if_true, eqs_len _ _ he]
def samev (c : Bool) (ps : List Pt) (d : Bool) (qs : List Pt) : Bool := (c == d) && eqs ps qs
theorem qsame (c : Bool) (ps : List Pt) (d : Bool) (qs : List Pt) (hl : (ps.length : Int) < 4611686018427387904) : F28 c (Rp ps) d (Rp qs) = some (.a0 (samev c ps d qs)) := by
  simp only [F28, D28, PT.ev, PT.test, dite_eq_ite, qequal ps qs hl, Option.bind_some, samev]
  cases (c == d) <;> rfl
theorem rsame (c : Bool) (ps : List Pt) (d : Bool) (qs : List Pt) (hl : (ps.length : Int) < 4611686018427387904) : F20 c (Rp ps) d (Rp qs) = some (.a0 (samev c ps d qs)) := by
  simp only [F20, D20, PT.ev, PT.test, dite_eq_ite, rpoints ps qs hl, Option.bind_some, samev]
  cases (c == d) <;> rfl
/-! ### What lies between two -/
def mp (t : Int) (p q : Pt) : Pt := ⟨mid p.c0 q.c0 t, mid p.c1 q.c1 t⟩
def morphv (c : Bool) (ps : List Pt) (d : Bool) (qs : List Pt) (t : Int) : List Pt := if fitsv c ps d qs = true then List.zipWith (mp t) ps qs else ps
theorem clone_eq (ps : List Pt) (hl : (ps.length : Int) * 16 ≤ 140737488355328) : F65 (Rp ps) = some (.a0 (Rp ps)) := by
  unfold F65
  rw [rp_len, if_pos ⟨by omega, by omega⟩]
theorem set_mix (f : Pt → Pt → Pt) (ps qs : List Pt) (i : Nat) (h : i < ps.length) (h' : i < qs.length) :
    ((List.zipWith f ps qs).take i ++ ps.drop i).set i (f ps[i] qs[i]) = (List.zipWith f ps qs).take (i + 1) ++ ps.drop (i + 1) := by
  have hz : i < (List.zipWith f ps qs).length := by rw [List.length_zipWith]; omega
  have hlt : ((List.zipWith f ps qs).take i).length = i := by rw [List.length_take]; omega
  rw [List.set_append_right _ _ (by omega), hlt, Nat.sub_self, List.drop_eq_getElem_cons h, List.set_cons_zero, List.take_add_one, List.getElem?_eq_getElem hz, List.getElem_zipWith]
  simp
theorem qmorph_loop (t : Int) (c : Bool) (ps qs : List Pt) (he : ps.length = qs.length) (hl : (ps.length : Int) < 4611686018427387904) : ∀ (n i : Nat), i ≤ ps.length → ps.length < n + i →
    L29_0 n (.s0 t (Rp qs) qs.length i c (Rp ps) ps.length (Rp ((List.zipWith (mp t) ps qs).take i ++ ps.drop i))) = some (.e0 c ps.length (Rp (List.zipWith (mp t) ps qs)))
  | 0, i, h1, h2 => by omega
  | n + 1, i, h1, h2 => by
    rw [L29_0_s0]
    by_cases h : i < ps.length
    · have h' : i < qs.length := by omega
      have hm : i < ((List.zipWith (mp t) ps qs).take i ++ ps.drop i).length := by
        rw [List.length_append, List.length_take, List.length_drop, List.length_zipWith]; omega
      simp only [D29_0, PT.ev, PT.test, dite_eq_ite, if_pos (show (i : Int) < (qs.length : Int) by omega), if_pos (show (0 : Int) ≤ (i : Int) by omega), Int.toNat_natCast, rp_get, List.getElem?_eq_getElem h, List.getElem?_eq_getElem h', Option.bind_some, qmid', Nat.zero_add]
      rw [if_pos (by omega), List.getElem?_eq_getElem hm, Option.bind_some, N29_0.nx_s0, wi (by omega)]
      have e : List.set (Rp ((List.zipWith (mp t) ps qs).take i ++ ps.drop i)) i [i64 (mid ps[i].c0 qs[i].c0 t), i64 (mid ps[i].c1 qs[i].c1 t)] = Rp ((List.zipWith (mp t) ps qs).take (i + 1) ++ ps.drop (i + 1)) := by
        rw [← set_mix (mp t) ps qs i h h']; exact (List.map_set (f := W26.cells) (a := mp t ps[i] qs[i])).symm
      rw [e]
      exact qmorph_loop t c ps qs he hl n (i + 1) h (by omega)
    · simp only [D29_0, PT.ev, PT.test, dite_eq_ite, if_neg (show ¬ (i : Int) < (qs.length : Int) by omega), N29_0.nx_e0]
      rw [List.drop_eq_nil_of_le (by omega), List.append_nil, List.take_of_length_le (by rw [List.length_zipWith]; omega)]
theorem qmorph (c : Bool) (ps : List Pt) (d : Bool) (qs : List Pt) (t : Int) (hl : (ps.length : Int) * 16 ≤ 140737488355328) :
    F29 c (Rp ps) d (Rp qs) t = some (.a0 c ps.length (Rp (morphv c ps d qs t))) := by
  simp only [F29, D29, PT.ev, PT.test, dite_eq_ite, clone_eq ps hl, Option.bind_some, bnd_def, qfits, rp_len, morphv]
  cases hf : fitsv c ps d qs with
  | false => simp only [Bool.not_false, if_true, Bool.false_eq_true, if_false]
  | true =>
    have he : ps.length = qs.length := by
      unfold fitsv at hf
      rw [Bool.and_eq_true] at hf
      exact of_decide_eq_true hf.1
    have h := qmorph_loop t c ps qs he (by omega) 18446744073709551616 0 (by omega) (by omega)
    rw [List.drop_zero, List.take_zero, List.nil_append, show ((0 : Nat) : Int) = 0 from rfl] at h
    simp only [Bool.not_true, Bool.false_eq_true, if_false, if_true, h, Option.bind_some, PT.ev, PT.test, dite_eq_ite]
end Go.Proofs.Ytifalphladcdcaa.H
