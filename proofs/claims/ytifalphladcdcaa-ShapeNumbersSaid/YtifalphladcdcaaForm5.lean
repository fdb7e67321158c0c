/- Rectangles, ovals, stars: the program's and the document's are the same. Conditions: those stated. -/
import Derived.Test.YtifalphladcdcaaKeyN5
set_option linter.unusedVariables false
set_option linter.unusedSimpArgs false
namespace Go.Proofs.Ytifalphladcdcaa.H
open Go Go.VM
set_option maxRecDepth 100000
theorem str_loop (ps : List Pt) (h0 : 0 < ps.length) (hl : ps.length ≤ 1000) : ∀ (n i : Nat) (acc : List Pt), i ≤ ps.length → ps.length < n + i → acc.length = 3 * i + 1 → (∀ p ∈ acc, p ∈ ps) →
    ∃ res : List Pt, L77_0 n (.s0 (Rp ps) ps.length i acc.length (Rp acc)) = some (.e0 res.length (Rp res)) ∧ L85_0 n (.s0 (Rp ps) i acc.length (Rp acc)) = some (.e0 res.length (Rp res)) ∧ res.length = 3 * ps.length + 1 ∧ ∀ p ∈ res, p ∈ ps
  | 0, i, acc, h1, h2, _, _ => by omega
  | n + 1, i, acc, h1, h2, h3, h4 => by
    rw [L77_0_s0, L85_0_s0]
    by_cases h : i < ps.length
    · have hm : (i + 1) % ps.length < ps.length := Nat.mod_lt _ h0
      have ht : Int.tmod ((i + 1 : Nat) : Int) (ps.length : Int) = (((i + 1) % ps.length : Nat) : Int) := rfl
      have hc : 0 + acc.length ≤ acc.length ∧ (acc.length + 3) * 16 ≤ 140737488355328 ∧ acc.length + 3 ≤ 140737488355328 := by omega
      simp only [D77_0, D85_0, PT.ev, PT.test, dite_eq_ite, rp_len, if_pos (show (i : Int) < (ps.length : Int) by omega), if_pos (show (0 : Int) ≤ (i : Int) by omega), Int.toNat_natCast, rp_get, List.getElem?_eq_getElem h, Option.bind_some,
        if_neg (show ¬ (ps.length : Int) = 0 by omega), wi (show (i : Int) < 9223372036854775807 by omega), ht, if_pos (show (0 : Int) ≤ (((i + 1) % ps.length : Nat) : Int) by omega), List.getElem?_eq_getElem hm, if_pos hc,
        N77_0.nx_s0, N85_0.nx_s0]
      have e : List.take acc.length (Rp acc) ++ [[i64 ps[i].c0, i64 ps[i].c1], [i64 ps[(i + 1) % ps.length].c0, i64 ps[(i + 1) % ps.length].c1], [i64 ps[(i + 1) % ps.length].c0, i64 ps[(i + 1) % ps.length].c1]] = Rp (acc ++ [ps[i], ps[(i + 1) % ps.length], ps[(i + 1) % ps.length]]) := push3 acc _ _ _
      rw [e]
      have hlen : (acc ++ [ps[i], ps[(i + 1) % ps.length], ps[(i + 1) % ps.length]]).length = acc.length + 3 := by simp
      rw [← hlen]
      refine str_loop ps h0 hl n (i + 1) _ h (by omega) (by rw [hlen]; omega) ?_
      intro p hp
      rcases List.mem_append.1 hp with hp | hp
      · exact h4 p hp
      · simp only [List.mem_cons, List.not_mem_nil, or_false] at hp
        rcases hp with rfl | rfl | rfl <;> exact List.getElem_mem _
    · simp only [D77_0, D85_0, PT.ev, PT.test, dite_eq_ite, rp_len, if_neg (show ¬ (i : Int) < (ps.length : Int) by omega), N77_0.nx_e0, N85_0.nx_e0]
      exact ⟨acc, rfl, rfl, by omega, h4⟩
theorem str_ex (ps : List Pt) (h0 : 0 < ps.length) (hl : ps.length ≤ 1000) : ∃ res : List Pt, F77 (Rp ps) = some (.a0 true res.length (Rp res)) ∧ F85 (Rp ps) = some (.a0 true res.length (Rp res)) ∧ res.length = 3 * ps.length + 1 ∧ ∀ p ∈ res, p ∈ ps := by
  obtain ⟨res, h1, h2, h3, h4⟩ := str_loop ps h0 hl 18446744073709551616 0 [ps[0]] (by omega) (by omega) rfl (fun p hp => by rw [List.mem_singleton] at hp; subst hp; exact List.getElem_mem _)
  rw [show ((0 : Nat) : Int) = 0 from rfl] at h1 h2
  refine ⟨res, ?_, ?_, h3, h4⟩
  · simp only [F77, D77, PT.ev, PT.test, dite_eq_ite, rp_get, List.getElem?_eq_getElem h0, Option.bind_some, rp_len]
    rw [show [[i64 ps[0].c0, i64 ps[0].c1]] = Rp [ps[0]] from rfl, show (1 : Nat) = [ps[0]].length from rfl, h1]
    rfl
  · simp only [F85, D85, PT.ev, PT.test, dite_eq_ite, rp_get, List.getElem?_eq_getElem h0, Option.bind_some, rp_len]
    rw [show [[i64 ps[0].c0, i64 ps[0].c1]] = Rp [ps[0]] from rfl, show (1 : Nat) = [ps[0]].length from rfl, h2]
    rfl
theorem at_pt (x y : Int) : F78 x y = some (.a0 x y) := rfl
theorem w64_w (a b : Int) : w64 (a + w64 (0 - b)) = w64 (a - b) := by rw [w64_eq, w64_eq, w64_eq]; omega
theorem rect_ex (w h : Int) : ∃ res : List Pt, F45 w h = some (.a0 true res.length (Rp res)) ∧ F54 w h = some (.a0 true res.length (Rp res)) ∧ res.length = 13 ∧
    ∀ p ∈ res, (p.c0 = w64 (0 - w / 2) ∨ p.c0 = w64 (w - w / 2)) ∧ (p.c1 = w64 (0 - h / 2) ∨ p.c1 = w64 (h - h / 2)) := by
  obtain ⟨res, h1, h2, h3, h4⟩ := str_ex [⟨w64 (0 - w / 2), w64 (0 - h / 2)⟩, ⟨w64 (w - w / 2), w64 (0 - h / 2)⟩, ⟨w64 (w - w / 2), w64 (h - h / 2)⟩, ⟨w64 (0 - w / 2), w64 (h - h / 2)⟩] (by simp) (by simp)
  simp only [Rp, List.map_cons, List.map_nil, W26.cells] at h1 h2
  refine ⟨res, ?_, ?_, h3, ?_⟩
  · simp only [F45, D45, PT.ev, PT.test, dite_eq_ite, at_pt, Option.bind_some, fd (show (0 : Int) ≤ 2 by decide), h1]
  · simp only [F54, D54, PT.ev, PT.test, dite_eq_ite, Option.bind_some, fd (show (0 : Int) ≤ 2 by decide), w64_w, h2]
  · intro p hp
    have := h4 p hp
    simp only [List.mem_cons, List.not_mem_nil, or_false] at this
    rcases this with rfl | rfl | rfl | rfl
    · exact ⟨.inl rfl, .inl rfl⟩
    · exact ⟨.inr rfl, .inl rfl⟩
    · exact ⟨.inr rfl, .inr rfl⟩
    · exact ⟨.inl rfl, .inr rfl⟩
theorem oval_ex (w h : Int) : ∃ res : List Pt, F46 w h = some (.a0 true res.length (Rp res)) ∧ F55 w h = some (.a0 true res.length (Rp res)) ∧ res.length = 13 ∧
    ∀ p ∈ res, (p.c0 = w / 2 ∨ p.c0 = mul (w / 2) 36195 ∨ p.c0 = 0 ∨ p.c0 = w64 (0 - mul (w / 2) 36195) ∨ p.c0 = w64 (0 - w / 2)) ∧ (p.c1 = h / 2 ∨ p.c1 = mul (h / 2) 36195 ∨ p.c1 = 0 ∨ p.c1 = w64 (0 - mul (h / 2) 36195) ∨ p.c1 = w64 (0 - h / 2)) := by
  refine ⟨[⟨w / 2, 0⟩, ⟨w / 2, mul (h / 2) 36195⟩, ⟨mul (w / 2) 36195, h / 2⟩, ⟨0, h / 2⟩, ⟨w64 (0 - mul (w / 2) 36195), h / 2⟩, ⟨w64 (0 - w / 2), mul (h / 2) 36195⟩, ⟨w64 (0 - w / 2), 0⟩, ⟨w64 (0 - w / 2), w64 (0 - mul (h / 2) 36195)⟩, ⟨w64 (0 - mul (w / 2) 36195), w64 (0 - h / 2)⟩, ⟨0, w64 (0 - h / 2)⟩, ⟨mul (w / 2) 36195, w64 (0 - h / 2)⟩, ⟨w / 2, w64 (0 - mul (h / 2) 36195)⟩, ⟨w / 2, 0⟩], ?_, ?_, rfl, ?_⟩
  · simp only [F46, D46, PT.ev, PT.test, dite_eq_ite, at_pt, qmul, Option.bind_some, fd (show (0 : Int) ≤ 2 by decide)]; rfl
  · simp only [F55, D55, PT.ev, PT.test, dite_eq_ite, rmul, Option.bind_some, fd (show (0 : Int) ≤ 2 by decide)]; rfl
  · intro p hp
    simp only [List.mem_cons, List.not_mem_nil, or_false] at hp
    rcases hp with rfl | rfl | rfl | rfl | rfl | rfl | rfl | rfl | rfl | rfl | rfl | rfl | rfl <;> simp
/-! ### Angles -/
def tn (a : Int) : Int := if Int.tmod a 23592960 < 0 then Int.tmod a 23592960 + 23592960 else Int.tmod a 23592960
theorem tmod_bd (a : Int) : -23592960 < Int.tmod a 23592960 ∧ Int.tmod a 23592960 < 23592960 := by
  constructor
  · have := Int.lt_tmod_of_pos a (show (0 : Int) < 23592960 by decide); omega
  · exact Int.tmod_lt_of_pos a (by decide)
theorem tn_bd (a : Int) : 0 ≤ tn a ∧ tn a < 23592960 := by
  have := tmod_bd a
  unfold tn; split <;> omega
theorem qturn (a : Int) : F110 a = tn a := by
  have := tmod_bd a
  simp only [F110, D110, PT.evT, PT.test, dite_eq_ite, tn]
  split
  · rw [w64_in (by omega) (by omega)]
  · rfl
theorem tmod_nn {a b : Int} (h : 0 ≤ a) : Int.tmod a b = a % b := Int.tmod_eq_emod_of_nonneg h
theorem rturn (a : Int) : F115 a = tn a := by
  have := tmod_bd a
  simp only [F115, D115, PT.evT, PT.test, dite_eq_ite, tn]
  rw [w64_in (by omega) (by omega), tmod_nn (by omega)]
  split <;> omega
theorem tn_of {a : Int} (h : 0 ≤ a) (h' : a < 23592960) : tn a = a := by
  unfold tn
  rw [tmod_nn h, if_neg (by omega)]; omega
def sv (x : Int) : Int := w64 (Int.tdiv (w64 (w64 (4 * w64 (Int.tdiv (w64 (x * w64 (11796480 - x))) 65536)) * 65536)) (w64 (2654208000 - w64 (Int.tdiv (w64 (x * w64 (11796480 - x))) 65536))))
theorem prod_le (x : Int) (h : 0 ≤ x) (h' : x ≤ 11796480) : 0 ≤ x * (11796480 - x) ∧ x * (11796480 - x) ≤ 34789235097600 := by
  constructor
  · exact Int.mul_nonneg h (by omega)
  · have e : 4 * (x * (11796480 - x)) = 11796480 * 11796480 - (2 * x - 11796480) * (2 * x - 11796480) := by
      rw [Int.mul_sub, Int.sub_mul, Int.mul_sub, Int.mul_sub]
      have : 2 * x * (2 * x) = 4 * (x * x) := by rw [Int.mul_assoc, Int.mul_left_comm x 2 x]; omega
      omega
    have : 0 ≤ (2 * x - 11796480) * (2 * x - 11796480) := by
      rcases Int.le_total 0 (2 * x - 11796480) with hh | hh
      · exact Int.mul_nonneg hh hh
      · exact Int.mul_nonneg_of_nonpos_of_nonpos hh hh
    omega
theorem sv_parts (x : Int) (h : 0 ≤ x) (h' : x ≤ 11796480) : w64 (2654208000 - w64 (Int.tdiv (w64 (x * w64 (11796480 - x))) 65536)) ≠ 0 ∧ 0 ≤ sv x ∧ sv x ≤ 65536 := by
  have ⟨a, b⟩ := prod_le x h h'
  unfold sv
  rw [w64_in (n := 11796480 - x) (by omega) (by omega)]
  generalize x * (11796480 - x) = p at *
  rw [w64_in (n := p) (by omega) (by omega), Int.tdiv_eq_ediv_of_nonneg a]
  have hq : 0 ≤ p / 65536 ∧ p / 65536 ≤ 530841600 := by omega
  generalize p / 65536 = q at *
  rw [w64_in (n := q) (by omega) (by omega), w64_in (n := 4 * q) (by omega) (by omega), w64_in (n := 4 * q * 65536) (by omega) (by omega), w64_in (n := 2654208000 - q) (by omega) (by omega), Int.tdiv_eq_ediv_of_nonneg (by omega)]
  have h1 : 0 ≤ 4 * q * 65536 / (2654208000 - q) := Int.ediv_nonneg (by omega) (by omega)
  have h2 : 4 * q * 65536 / (2654208000 - q) ≤ 65536 := Int.ediv_le_of_le_mul (by omega) (by omega)
  rw [w64_in (by omega) (by omega)]
  exact ⟨by omega, h1, h2⟩
def sn (a : Int) : Int := if tn a ≥ 11796480 then w64 (0 - sv (tn a - 11796480)) else sv (tn a)
theorem sn_bd (a : Int) : -65536 ≤ sn a ∧ sn a ≤ 65536 := by
  have hb := tn_bd a
  unfold sn
  split
  · have := (sv_parts (tn a - 11796480) (by omega) (by omega)).2
    rw [w64_in (by omega) (by omega)]; omega
  · have := (sv_parts (tn a) (by omega) (by omega)).2
    omega
theorem qsin_lo (n : Nat) (a : Int) (h : tn a < 11796480) : F81 (n + 1) a = some (.a0 (sv (tn a))) := by
  have hb := tn_bd a
  rw [F81_succ]
  simp only [D81, PT.ev, PT.test, dite_eq_ite, bnd_def, qturn, if_neg (show ¬ tn a ≥ 11796480 by omega), if_neg (sv_parts (tn a) hb.1 (by omega)).1]
  rfl
theorem qsin (n : Nat) (a : Int) : F81 (n + 2) a = some (.a0 (sn a)) := by
  have hb := tn_bd a
  unfold sn
  by_cases h : tn a ≥ 11796480
  · have hw : w64 (tn a - 11796480) = tn a - 11796480 := w64_in (by omega) (by omega)
    have ht : tn (tn a - 11796480) = tn a - 11796480 := tn_of (by omega) (by omega)
    rw [F81_succ]
    simp only [D81, PT.ev, PT.test, dite_eq_ite, bnd_def, qturn, if_pos h, hw, qsin_lo n _ (show tn (tn a - 11796480) < 11796480 by omega), Option.bind_some, ht]
  · rw [if_neg h]; exact qsin_lo (n + 1) a (by omega)
theorem rsin (a : Int) : F88 a = some (.a0 (sn a)) := by
  have hb := tn_bd a
  unfold sn
  by_cases h : tn a ≥ 11796480
  · have hw : w64 (tn a - 11796480) = tn a - 11796480 := w64_in (by omega) (by omega)
    simp only [F88, D88, PT.ev, PT.test, dite_eq_ite, bnd_def, rturn, if_pos h, hw, if_neg (sv_parts (tn a - 11796480) (by omega) (by omega)).1]
    rfl
  · simp only [F88, D88, PT.ev, PT.test, dite_eq_ite, bnd_def, rturn, if_neg h, if_neg (sv_parts (tn a) hb.1 (by omega)).1]
    rfl
def cs (a : Int) : Int := sn (w64 (tn a + 5898240))
theorem qsin' (a : Int) : F81 100000 a = some (.a0 (sn a)) := qsin 99998 a
theorem qcos (a : Int) : F80 a = some (.a0 (cs a)) := by simp only [F80, D80, PT.ev, PT.test, dite_eq_ite, bnd_def, qturn, qsin', Option.bind_some, cs]
theorem rcos (a : Int) : F87 a = some (.a0 (cs a)) := by simp only [F87, D87, PT.ev, PT.test, dite_eq_ite, bnd_def, rturn, rsin, Option.bind_some, cs]
/-! ### Stars -/
theorem push1 (ps : List Pt) (a : Pt) : List.take ps.length (Rp ps) ++ [a.cells] = Rp (ps ++ [a]) := by
  rw [take_rp]
  simp only [Rp, List.map_append, List.map_cons, List.map_nil]
theorem star_loop (N : Nat) (h0 : 2 ≤ N) (hl : N ≤ 16) (r s : Int) : ∀ (n j : Nat) (acc : List Pt), j ≤ 2 * N → 2 * N < n + j → acc.length = j → (∀ p ∈ acc, ∃ d a, (d = r ∨ d = s) ∧ p = ⟨mul d (cs a), mul d (sn a)⟩) →
    ∃ res : List Pt, L47_0 n (.s0 N r s acc.length (2 * N : Nat) j (Rp acc)) = some (.e0 res.length (Rp res)) ∧ L56_0 n (.s0 N r s acc.length j (Rp acc)) = some (.e0 res.length (Rp res)) ∧ res.length = 2 * N ∧ (∀ p ∈ res, ∃ d a, (d = r ∨ d = s) ∧ p = ⟨mul d (cs a), mul d (sn a)⟩)
  | 0, j, acc, h1, h2, _, _ => by omega
  | n + 1, j, acc, h1, h2, h3, h4 => by
    rw [L47_0_s0, L56_0_s0]
    have hw : w64 (2 * (N : Int)) = ((2 * N : Nat) : Int) := by rw [w64_in (by omega) (by omega)]; omega
    by_cases h : j < 2 * N
    · have hc : 0 + acc.length ≤ acc.length ∧ (acc.length + 1) * 16 ≤ 140737488355328 ∧ acc.length + 1 ≤ 140737488355328 := by omega
      have ha : w64 (w64 ((j : Int) * 180) * 65536) = w64 ((j : Int) * 11796480) := by
        rw [w64_in (n := (j : Int) * 180) (by omega) (by omega), Int.mul_assoc]; rfl
      have go : ∀ d a, (d = r ∨ d = s) → ∃ res : List Pt, L47_0 n (.s0 N r s (acc.length + 1) (2 * N : Nat) (j + 1 : Nat) (List.take acc.length (Rp acc) ++ [[i64 (mul d (cs a)), i64 (mul d (sn a))]])) = some (.e0 res.length (Rp res)) ∧ L56_0 n (.s0 N r s (acc.length + 1) (j + 1 : Nat) (List.take acc.length (Rp acc) ++ [[i64 (mul d (cs a)), i64 (mul d (sn a))]])) = some (.e0 res.length (Rp res)) ∧ res.length = 2 * N ∧ (∀ p ∈ res, ∃ d a, (d = r ∨ d = s) ∧ p = ⟨mul d (cs a), mul d (sn a)⟩) := by
        intro d a hd
        have e : List.take acc.length (Rp acc) ++ [[i64 (mul d (cs a)), i64 (mul d (sn a))]] = Rp (acc ++ [⟨mul d (cs a), mul d (sn a)⟩]) := push1 acc ⟨mul d (cs a), mul d (sn a)⟩
        have hlen : (acc ++ [(⟨mul d (cs a), mul d (sn a)⟩ : Pt)]).length = acc.length + 1 := by simp
        rw [e, ← hlen]
        refine star_loop N h0 hl r s n (j + 1) _ h (by omega) (by rw [hlen, h3]) ?_
        intro p hp
        rcases List.mem_append.1 hp with hp | hp
        · exact h4 p hp
        · rw [List.mem_singleton] at hp; exact ⟨d, a, hd, hp⟩
      simp only [D47_0, D56_0, PT.ev, PT.test, dite_eq_ite, J47_c27, D47_c27, J56_c29, D56_c29, hw, ha, if_pos (show (j : Int) < ((2 * N : Nat) : Int) by omega), if_neg (show ¬ (N : Int) = 0 by omega)]
      by_cases hj : (Int.tmod (j : Int) 2 == 1) = true
      · simp only [hj, if_true, Option.bind_some, PT.ev, PT.test, dite_eq_ite, qcos, rcos, qsin', rsin, qmul, rmul, at_pt, rp_len, if_pos hc, N47_0.nx_s0, N56_0.nx_s0, wi (show (j : Int) < 9223372036854775807 by omega)]
        exact go s _ (.inr rfl)
      · simp only [hj, Bool.false_eq_true, if_false, Option.bind_some, PT.ev, PT.test, dite_eq_ite, qcos, rcos, qsin', rsin, qmul, rmul, at_pt, rp_len, if_pos hc, N47_0.nx_s0, N56_0.nx_s0, wi (show (j : Int) < 9223372036854775807 by omega)]
        exact go r _ (.inl rfl)
    · simp only [D47_0, D56_0, PT.ev, PT.test, dite_eq_ite, hw, if_neg (show ¬ (j : Int) < ((2 * N : Nat) : Int) by omega), N47_0.nx_e0, N56_0.nx_e0]
      exact ⟨acc, rfl, rfl, by omega, h4⟩
theorem star_ex (k r s : Int) : ∃ res : List Pt, F47 k r s = some (.a0 true res.length (Rp res)) ∧ F56 k r s = some (.a0 true res.length (Rp res)) ∧ res.length ≤ 97 ∧ res.length % 3 = 1 ∧ 4 ≤ res.length ∧
    (∀ p ∈ res, ∃ d a, (d = r ∨ d = s) ∧ p = ⟨mul d (cs a), mul d (sn a)⟩) := by
  obtain ⟨N, hN1, hN2, hq, hr⟩ : ∃ N : Nat, 2 ≤ N ∧ N ≤ 16 ∧ (if (if 16 < k then (16 : Int) else k) > 2 then if 16 < k then (16 : Int) else k else 2) = (N : Int) ∧ (if 2 > if 16 < k then (16 : Int) else k then (2 : Int) else if 16 < k then (16 : Int) else k) = (N : Int) := by
    by_cases h1 : 16 < k
    · exact ⟨16, by omega, by omega, by simp [h1], by simp [h1]⟩
    · by_cases h2 : k > 2
      · exact ⟨k.toNat, by omega, by omega, by rw [if_neg h1, if_pos h2]; omega, by rw [if_neg h1, if_neg (by omega)]; omega⟩
      · exact ⟨2, by omega, by omega, by rw [if_neg h1, if_neg h2]; rfl, by rw [if_neg h1]; split <;> omega⟩
  obtain ⟨pt, h1, h2, h3, h4⟩ := star_loop N hN1 hN2 r s 18446744073709551616 0 [] (by omega) (by omega) rfl (fun p hp => by cases hp)
  have hw : w64 (2 * (N : Int)) = ((2 * N : Nat) : Int) := by rw [w64_in (by omega) (by omega)]; omega
  obtain ⟨res, g1, g2, g3, g4⟩ := str_ex pt (by omega) (by omega)
  refine ⟨res, ?_, ?_, by omega, by omega, by omega, fun p hp => h4 p (g4 p hp)⟩
  · simp only [F47, D47, PT.ev, PT.test, dite_eq_ite, hq, hw]
    rw [show (Rp ([] : List Pt)) = [] from rfl, show ((0 : Nat) : Int) = 0 from rfl, show ([] : List Pt).length = 0 from rfl] at h1
    rw [h1]
    simp only [Option.bind_some, PT.ev, PT.test, dite_eq_ite, rp_len, if_pos (show 0 + pt.length ≤ pt.length by omega), take_rp, g1]
  · simp only [F56, D56, PT.ev, PT.test, dite_eq_ite, hr]
    rw [show (Rp ([] : List Pt)) = [] from rfl, show ((0 : Nat) : Int) = 0 from rfl, show ([] : List Pt).length = 0 from rfl] at h2
    rw [h2]
    simp only [Option.bind_some, PT.ev, PT.test, dite_eq_ite, rp_len, if_pos (show 0 + pt.length ≤ pt.length by omega), take_rp, g2]
/-- The three forms. -/
theorem forms_ok (w h n : Int) : F21 w h n = some (.a0 true) := by
  obtain ⟨a, a1, a2, a3, _⟩ := rect_ex w h
  obtain ⟨b, b1, b2, b3, _⟩ := oval_ex w h
  obtain ⟨c, c1, c2, c3, _⟩ := star_ex n w h
  simp only [F21, D21, PT.ev, PT.test, dite_eq_ite, a1, a2, b1, b2, c1, c2, Option.bind_some, rp_len, if_pos (show 0 + a.length ≤ a.length by omega), if_pos (show 0 + b.length ≤ b.length by omega), if_pos (show 0 + c.length ≤ c.length by omega), take_rp,
    rsame true a true a (by omega), rsame true b true b (by omega), rsame true c true c (by omega), samev, eqs_refl, beq_self_eq_true, Bool.and_self, if_true]
end Go.Proofs.Ytifalphladcdcaa.H
