/- Sides that have a length, their bodies, what lies between two of them: by the program and by the document. Plain Lean over what the functions compute. Conditions: those stated. -/
import Derived.Test.YtojigbcgmneiiaaGeS
set_option linter.unusedVariables false
set_option linter.unusedSimpArgs false
namespace Go.Proofs.Ytojigbcgmneiiaa.H
open Go Go.VM
set_option maxRecDepth 100000
theorem F56_hd (a : Int) : F56 a = hd a := rfl
theorem div_at {a L : Int} (ha : -L ≤ a ∧ a ≤ L) (hL : 0 < L) (hL2 : L < 4294967296) : ∃ u, F60 a L = some (.a0 u) ∧ F68 a L = some (.a0 u) ∧ -65536 ≤ u ∧ u ≤ 65536 := by
  have hda : hd a = a := hd_of (by omega) (by omega)
  have hdL : hd L = L := hd_of (by omega) (by omega)
  have nz : ¬ (L == 0) = true := by rw [beq_iff_eq]; omega
  have c2 : ¬ L < 0 := by omega
  by_cases h0 : 0 ≤ a
  · have q := quo_bd h0 ha.2 hL
    have hq : hd (a * 65536 / L) = a * 65536 / L := hd_of (by omega) (by omega)
    have e2 := div_ref (D := a) (l := L) ⟨h0, by omega⟩ (by rw [hdL]; exact hL)
    rw [hdL, hq] at e2
    refine ⟨a * 65536 / L, ?_, e2, by omega, by omega⟩
    unfold F60
    simp only [bnd_def, F56_hd, hda, hdL]
    have c1 : ¬ a * 65536 < 0 := by omega
    rw [if_neg nz, if_neg (by omega), w64_in (n := a * 65536) (by omega) (by omega), Int.tdiv_eq_ediv_of_nonneg (by omega), w64_in (n := a * 65536 / L) (by omega) (by omega), decide_eq_false c1, decide_eq_false c2, hq]
    by_cases h : (Int.tmod (a * 65536) L != 0) = true
    · rw [if_pos h, if_neg (by decide)]
    · rw [if_neg h]
  · obtain ⟨b, rfl⟩ : ∃ b, a = -b := ⟨-a, by omega⟩
    have hb : 0 < b ∧ b ≤ L := by omega
    have q := quo_bd (show 0 ≤ b by omega) hb.2 hL
    have em : b * 65536 = b * 65536 / L * L + b * 65536 % L := by have := Int.mul_ediv_add_emod (b * 65536) L; rw [Int.mul_comm] at this; omega
    have rm := Int.emod_nonneg (b * 65536) (show L ≠ 0 by omega)
    have rl := Int.emod_lt_of_pos (b * 65536) hL
    generalize hm : b * 65536 / L = m at *
    generalize hr : b * 65536 % L = r at *
    have td : Int.tdiv (-b * 65536) L = -m := by rw [show -b * 65536 = -(b * 65536) by omega, Int.neg_tdiv, Int.tdiv_eq_ediv_of_nonneg (by omega), hm]
    have tm : Int.tmod (-b * 65536) L = -r := by rw [show -b * 65536 = -(b * 65536) by omega, Int.neg_tmod, Int.tmod_eq_emod_of_nonneg (by omega), hr]
    have f82a : F82 (-b) = some (.a0 b true) := by rw [F95_eq _ (by omega), if_pos (by omega), decide_eq_true (by omega)]; congr 2; omega
    have f82L : F82 L = some (.a0 L false) := by rw [F95_eq _ (by omega), if_neg (by omega), decide_eq_false (by omega)]
    have f83 : F83 b 65536 = some (.a0 0 (b * 65536)) := by
      rw [F96_eq _ _ (by omega) (by omega)]; congr 2 <;> omega
    have f87 : F87 0 (b * 65536) L = some (.a0 m r) := by
      unfold F87
      rw [if_neg nz, if_neg (by omega), if_pos (by rfl), if_neg (by omega), Int.tdiv_eq_ediv_of_nonneg (by omega), Int.tmod_eq_emod_of_nonneg (by omega), hm, hr, u64id (by omega) (by omega)]
    have c1 : -b * 65536 < 0 := by omega
    have cap1 : ¬ (4611686018427387904 : Int) < m + 1 := by omega
    have cap0 : ¬ (4611686018427387904 : Int) < m := by omega
    by_cases hr0 : r = 0
    · refine ⟨-m, ?_, ?_, by omega, by omega⟩
      · unfold F60
        simp only [bnd_def, F56_hd, hda, hdL]
        rw [if_neg nz, if_neg (by omega), w64_in (n := -b * 65536) (by omega) (by omega), td, tm, if_neg (by rw [hr0]; decide), w64_in (by omega) (by omega), hd_of (by omega) (by omega)]
      · unfold F68
        simp only [bnd_def, F74_eq, hda, hdL, f82a, f82L, Option.bind_some, if_neg nz, f83]
        unfold F84
        rw [if_neg (by omega), f87]
        simp only [Option.bind_some, bnd_def, F74_eq]
        rw [show (!true == false) = true by decide, if_pos rfl, if_neg (by omega), if_neg cap0, w64_in (n := m) (by omega) (by omega), w64_in (by omega) (by omega), hd_of (by omega) (by omega)]
        simp
    · have hm1 : m + 1 ≤ 65536 := by
        refine Classical.byContradiction fun hn => ?_
        have : 65536 * L ≤ m * L := Int.mul_le_mul_of_nonneg_right (by omega) (by omega)
        omega
      refine ⟨-m - 1, ?_, ?_, by omega, by omega⟩
      · unfold F60
        simp only [bnd_def, F56_hd, hda, hdL]
        rw [if_neg nz, if_neg (by omega), w64_in (n := -b * 65536) (by omega) (by omega), td, tm, if_pos (by rw [bne_iff_ne]; omega), decide_eq_true c1, decide_eq_false c2, if_pos (by decide), w64_in (n := -m) (by omega) (by omega), w64_in (by omega) (by omega), hd_of (by omega) (by omega)]
      · unfold F68
        simp only [bnd_def, F74_eq, hda, hdL, f82a, f82L, Option.bind_some, if_neg nz, f83]
        unfold F84
        rw [if_neg (by omega), f87]
        simp only [Option.bind_some, bnd_def, F74_eq]
        rw [show (!true == false) = true by decide, if_pos rfl, if_pos (by omega), if_pos (by omega), u64id (by omega) (by omega), if_neg cap1, w64_in (n := m + 1) (by omega) (by omega), w64_in (by omega) (by omega), hd_of (by omega) (by omega)]
        simp only [Option.bind_some]
        congr 2; omega
theorem mul_at {u h : Int} (hu : -65536 ≤ u ∧ u ≤ 65536) (hh : 0 ≤ h ∧ h ≤ 67108864) : F62 u h = some (.a0 (mul u h)) ∧ F85 u h = some (.a0 (mul u h)) := by
  refine ⟨F63_eq u h, F66_eq u h ?_⟩
  rw [hd_of (a := u) (by omega) (by omega), hd_of (a := h) (by omega) (by omega)]
  have p1 : 0 ≤ (65536 - u) * h := Int.mul_nonneg (by omega) hh.1
  have p2 : 0 ≤ (65536 + u) * h := Int.mul_nonneg (by omega) hh.1
  have q1 : (65536 - u) * h = 65536 * h - u * h := by grind
  have q2 : (65536 + u) * h = 65536 * h + u * h := by grind
  omega
theorem side3 (c : Bool) {l : List W43} (hL : l.length ≤ 8796093022207) {i : Nat} (hi : i < l.length) :
    ∃ p q r s d, F54 c (Rw l) i = some (.a0 p q r s d) ∧ F34 c (Rw l) i = some (.a0 p q r s) ∧ F36 p q r s = some (.a0 d) ∧ (Near p ∧ Near q ∧ Near r ∧ Near s) ∧ 0 ≤ d ∧ d < 4294967296 ∧
      (-d ≤ w64 (r - p) ∧ w64 (r - p) ≤ d) ∧ (-d ≤ w64 (s - q) ∧ w64 (s - q) ≤ d) := by
  obtain ⟨p, q, r, s, d, e1, e2, e3, n, b1, b2⟩ := side2 c hL hi
  refine ⟨p, q, r, s, d, e1, e2, e3, n, b1, b2, ?_⟩
  obtain ⟨n1, n2, n3, n4⟩ := n
  unfold Near at n1 n2 n3 n4
  have hx : w64 (r - p) = r - p := w64_in (by omega) (by omega)
  have hy : w64 (s - q) = s - q := w64_in (by omega) (by omega)
  obtain ⟨d', h1, h2, _, _⟩ := hyp2 (w64 (r - p)) (w64 (s - q))
  unfold F36 at e3
  rw [h2] at e3
  have hdd : d' = d := by simpa using e3
  have hh : hypv (w64 (r - p)) (w64 (s - q)) = d := by
    rw [F89_eq] at h1
    rw [← hdd]; simpa using h1
  have ex := hyp_exact (x := w64 (r - p)) (y := w64 (s - q)) (by omega) (by omega)
  rw [hh] at ex
  have s1 := sq_nn (w64 (r - p))
  have s2 := sq_nn (w64 (s - q))
  have bnd : ∀ x : Int, x * x < (d + 1) * (d + 1) → -d ≤ x ∧ x ≤ d := fun x hx => by
    constructor
    · have := le_of_sq (a := -x) (b := d + 1) (by omega) (by rw [Int.neg_mul_neg]; omega)
      refine Classical.byContradiction fun hn => ?_
      have hxe : x = -(d + 1) := by omega
      rw [hxe, Int.neg_mul_neg] at hx; omega
    · have := le_of_sq (a := x) (b := d + 1) (by omega) (by omega)
      refine Classical.byContradiction fun hn => ?_
      have hxe : x = d + 1 := by omega
      rw [hxe] at hx; omega
  exact ⟨bnd _ (by omega), bnd _ (by omega)⟩
/-- A side, as the document has it. -/
def phi (h : Int) (s : W65) : W86 := ⟨s.c0, s.c1, s.c2, s.c3, mul s.c4 h, mul s.c5 h, mul (w64 (0 - s.c5)) h, mul s.c4 h⟩
structure Sd (s : W65) : Prop where
  u : -65536 ≤ s.c4 ∧ s.c4 ≤ 65536
  v : -65536 ≤ s.c5 ∧ s.c5 ≤ 65536
abbrev R6 (ks : List W65) : List (List V) := ks.map W65.cells
abbrev R8 (ks : List W86) : List (List V) := ks.map W86.cells
theorem r6_get (ks : List W65) (i : Nat) : ((R6 ks)[i]?).bind W65.dec = ks[i]? := by
  simp only [R6, List.getElem?_map]
  cases ks[i]? <;> rfl
theorem r8_get (ks : List W86) (i : Nat) : ((R8 ks)[i]?).bind W86.dec = ks[i]? := by
  simp only [R8, List.getElem?_map]
  cases ks[i]? <;> rfl
theorem sides_loop (c : Bool) {l : List W43} (hL : l.length ≤ 1000) {h : Int} (hh : 0 ≤ h ∧ h ≤ 67108864) : ∀ (n i : Nat) (q : List W65), i ≤ ns c l → ns c l < n + i → q.length ≤ i → (∀ s ∈ q, Sd s) →
    ∃ q' : List W65, L38_0 n q.length (ns c l) i c (Rw l) (R6 q) = some (.e0 q'.length (R6 q')) ∧ L70_0 n h q.length i c (Rw l) (R8 (q.map (phi h))) = some (.e0 q'.length (R8 (q'.map (phi h)))) ∧ (∀ s ∈ q', Sd s) ∧ q'.length ≤ ns c l
  | 0, i, q, hi, hn, _, _ => by omega
  | n + 1, i, q, hi, hn, hq, hs => by
    have hl := ns_le c l
    by_cases hc : i < ns c l
    · have g : (i : Int) < (ns c l : Int) := by omega
      obtain ⟨p, r, x, y, d, e1, e2, e3, _, b1, b2, d1, d2⟩ := side3 c (l := l) (by omega) (i := i) (by omega)
      have hw : w64 ((i : Int) + 1) = ((i + 1 : Nat) : Int) := wsucc (by omega)
      have ih := sides_loop c hL hh n (i + 1) q (by omega) (by omega) (by omega) hs
      rw [L38_0, L70_0, bnd_def, sidesB c l (by omega), if_pos g, if_pos g, e1, e2]
      simp only [Option.bind_some, e3, hw]
      by_cases h0 : d > 0
      · obtain ⟨u, u1, u2, u3⟩ := div_at d1 h0 b2
        obtain ⟨v, v1, v2, v3⟩ := div_at d2 h0 b2
        have nv : w64 (0 - v) = 0 - v := w64_in (by omega) (by omega)
        have ihp := sides_loop c hL hh n (i + 1) (q ++ [⟨p, r, x, y, u, v⟩]) (by omega) (by omega) (by simp; omega) (fun s hs' => by
          rw [List.mem_append, List.mem_singleton] at hs'
          rcases hs' with hs' | rfl
          · exact hs s hs'
          · exact ⟨u3, v3⟩)
        rw [List.length_append, List.length_singleton] at ihp
        have p6 : List.take q.length (R6 q) ++ [[i64 p, i64 r, i64 x, i64 y, i64 u, i64 v]] = R6 (q ++ [⟨p, r, x, y, u, v⟩]) := by
          rw [List.take_of_length_le (by simp)]; simp
        have p8 : List.take q.length (R8 (q.map (phi h))) ++ [[i64 p, i64 r, i64 x, i64 y, i64 (mul u h), i64 (mul v h), i64 (mul (w64 (0 - v)) h), i64 (mul u h)]] = R8 ((q ++ [(⟨p, r, x, y, u, v⟩ : W65)]).map (phi h)) := by
          rw [List.take_of_length_le (by simp)]; simp only [R8, List.map_append]; rfl
        rw [if_pos h0, if_pos h0, u1, u2]
        simp only [Option.bind_some]
        rw [v1, v2]
        simp only [Option.bind_some]
        rw [(mul_at u3 hh).2, Option.bind_some]
        simp only []
        rw [(mul_at v3 hh).2, Option.bind_some]
        simp only []
        rw [(mul_at (u := w64 (0 - v)) (by omega) hh).2, Option.bind_some]
        simp only [Option.bind_some]
        rw [if_pos (by simp; omega), if_pos (by simp; omega), p6, p8]
        exact ihp
      · rw [if_neg h0, if_neg h0]; exact ih
    · have g : ¬ (i : Int) < (ns c l : Int) := by omega
      exact ⟨q, by rw [L38_0, if_neg g], by rw [L70_0, bnd_def, sidesB c l (by omega), if_neg g], hs, by omega⟩
theorem sides2 (c : Bool) {l : List W43} (hL : l.length ≤ 1000) {h : Int} (hh : 0 ≤ h ∧ h ≤ 67108864) : ∃ q : List W65, F38 c (Rw l) = some (.a0 q.length (R6 q)) ∧ F70 c (Rw l) h = some (.a0 q.length (R8 (q.map (phi h)))) ∧ (∀ s ∈ q, Sd s) ∧ q.length ≤ ns c l := by
  obtain ⟨q, e1, e2, e3, e4⟩ := sides_loop c hL hh 18446744073709551616 0 [] (by omega) (by have := ns_le c l; omega) (by simp) (by simp)
  rw [show ((0 : Nat) : Int) = 0 by rfl] at e1 e2
  refine ⟨q, ?_, ?_, e3, e4⟩
  · unfold F38
    rw [bnd_def, sidesA c l (by omega)]
    have e1' : L38_0 18446744073709551616 0 (ns c l) 0 c (Rw l) [] = some (.e0 q.length (R6 q)) := e1
    rw [e1']; rfl
  · unfold F70
    have e2' : L70_0 18446744073709551616 h 0 0 c (Rw l) [] = some (.e0 q.length (R8 (q.map (phi h)))) := e2
    rw [e2']; rfl
end Go.Proofs.Ytojigbcgmneiiaa.H
