/- Parts of lines, and lists of lines, as the program and as the document tell them: the same. Plain Lean over what the functions compute. Conditions: those stated. -/
import Derived.Test.YtojigbcgmneiiaaTwD
import Derived.KernelRfl
set_option linter.unusedVariables false
set_option linter.unusedSimpArgs false
namespace Go.Proofs.Ytojigbcgmneiiaa.H
open Go Go.VM
set_option maxRecDepth 100000
theorem push2 (o : List W43) (x y : Int) : List.take o.length (Rw o) ++ [[i64 x, i64 y]] = Rw (o ++ [⟨x, y⟩]) := by
  rw [List.take_of_length_le (by simp)]; simp
theorem rw_all (o : List W43) : List.take o.length (Rw o) = Rw o := List.take_of_length_le (by simp)
theorem rw_len (o : List W43) : (Rw o).length = o.length := by simp
theorem part2_loop (c : Bool) {l : List W43} (hL : l.length ≤ 8796093022207) (f t : Int) : ∀ (n i : Nat) (s : Int) (o : List W43), i ≤ ns c l → ns c l < n + i → o.length ≤ i + 1 →
    ∃ o', L33_0 n f t s (ns c l) i c (Rw l) o.length (Rw o) = some (.e0 o'.length (Rw o')) ∧ L25_0 n f t s i c (Rw l) o.length (Rw o) = some (.e0 o'.length (Rw o')) ∧ o'.length ≤ ns c l + 1
  | 0, i, s, o, hi, hn, _ => by omega
  | n + 1, i, s, o, hi, hn, ho => by
    have hl := ns_le c l
    by_cases h : i < ns c l
    · have hc : (i : Int) < (ns c l : Int) := by omega
      obtain ⟨p, q, r, u, d, e1, e2, e3, _, _⟩ := side2 c hL (show i < l.length by omega)
      obtain ⟨x1, y1, a1, b1⟩ := on2 p q r u (w64 (f - s)) d
      obtain ⟨x2, y2, a2, b2⟩ := on2 p q r u (w64 (t - s)) d
      have ihs := part2_loop c hL f t n (i + 1) (add s d) o (by omega) (by omega) (by omega)
      have ihp := part2_loop c hL f t n (i + 1) (add s d) (o ++ [⟨x2, y2⟩]) (by omega) (by omega) (by simp; omega)
      have hr : 0 + o.length ≤ List.length (Rw o) ∧ (o.length + 1) * 16 ≤ 140737488355328 ∧ o.length + 1 ≤ 140737488355328 := by rw [rw_len]; omega
      rw [show (o ++ [(⟨x2, y2⟩ : W43)]).length = o.length + 1 by simp] at ihp
      rw [L33_0, L25_0, bnd_def, sidesB c l hL, if_pos hc, if_pos hc, e1, e2]
      simp only [Option.bind_some, e3, bnd_def, F56_eq, F60_eq, wsucc (show i < 9000000000000 by omega)]
      by_cases c1 : d > 0
      · rw [if_pos c1, if_pos c1]
        by_cases c2 : add s d > f
        · rw [if_pos c2, if_pos c2]
          by_cases c3 : s < t
          · rw [if_pos c3, if_pos c3]
            by_cases c4 : o.length = 0
            · have hz : o = [] := List.eq_nil_of_length_eq_zero c4
              subst hz
              have ih2 := part2_loop c hL f t n (i + 1) (add s d) [⟨x1, y1⟩, ⟨x2, y2⟩] (by omega) (by omega) (by simp)
              simp only [List.length_nil, Int.natCast_zero, beq_self_eq_true, if_true, a1, a2, b1, b2, Option.bind_some, List.map_nil, List.take_nil, List.nil_append, List.length_cons]
              exact ih2
            · have hk : ¬ ((o.length : Int) == 0) = true := by rw [beq_iff_eq]; omega
              rw [if_neg hk, if_neg hk, a2, b2]
              simp only [Option.bind_some]
              rw [if_pos hr, if_pos hr, push2]
              exact ihp
          · rw [if_neg c3, if_neg c3]; exact ihs
        · rw [if_neg c2, if_neg c2]; exact ihs
      · rw [if_neg c1, if_neg c1]; exact ihs
    · have hc : ¬ (i : Int) < (ns c l : Int) := by omega
      refine ⟨o, ?_, ?_, by omega⟩
      · rw [L33_0, if_neg hc]
      · rw [L25_0, bnd_def, sidesB c l hL, if_neg hc]
theorem part2 (c : Bool) {l : List W43} (hL : l.length ≤ 8796093022207) (f t : Int) : ∃ o : List W43, F33 c (Rw l) f t = some (.a0 false o.length (Rw o)) ∧ F25 c (Rw l) f t = some (.a0 false o.length (Rw o)) ∧ o.length ≤ l.length + 1 := by
  unfold F33 F25
  simp only [bnd_def, F57_eq, F74_eq]
  by_cases h : hd f ≥ hd t
  · rw [if_pos h, if_pos h]; exact ⟨[], rfl, rfl, by simp⟩
  · have hl := ns_le c l
    obtain ⟨o, e1, e2, e3⟩ := part2_loop c hL (hd f) (hd t) 18446744073709551616 0 0 [] (by omega) (by omega) (by simp)
    rw [show ((0 : Nat) : Int) = 0 by rfl] at e1 e2
    rw [if_neg h, if_neg h, sidesA c l hL]
    have e1' : L33_0 18446744073709551616 (hd f) (hd t) 0 (ns c l) 0 c (Rw l) 0 [] = some (.e0 o.length (Rw o)) := e1
    have e2' : L25_0 18446744073709551616 (hd f) (hd t) 0 0 c (Rw l) 0 [] = some (.e0 o.length (Rw o)) := e2
    rw [e1', e2']
    exact ⟨o, rfl, rfl, by omega⟩

/-! ### The same lines are told to be the same -/
theorem points_loop (o : List W43) (h : o.length ≤ 8796093022208) : ∀ (n i : Nat), i ≤ o.length → o.length < n + i → L19_0 n (Rw o) (Rw o) i = some .e1
  | 0, i, hi, hn => by omega
  | n + 1, i, hi, hn => by
    rw [L19_0, rw_len]
    by_cases hc : i < o.length
    · have g1 : (i : Int) < (o.length : Int) := by omega
      have g2 : (0 : Int) ≤ (i : Int) := by omega
      rw [if_pos g1, if_pos g2, show Int.toNat (i : Int) = i by omega, rw_get, List.getElem?_eq_getElem hc]
      simp only [Option.bind_some, beq_self_eq_true, Bool.and_self, Bool.not_true, Bool.false_eq_true, if_false]
      rw [wsucc (by omega)]
      exact points_loop o h n (i + 1) (by omega) (by omega)
    · have g1 : ¬ (i : Int) < (o.length : Int) := by omega
      rw [if_neg g1]
theorem points_same (o : List W43) (h : o.length ≤ 8796093022208) : F19 (Rw o) (Rw o) = some (.a0 true) := by
  have e := points_loop o h 18446744073709551616 0 (by omega) (by omega)
  rw [show ((0 : Nat) : Int) = 0 by rfl] at e
  unfold F19
  rw [if_neg (by simp), e]; rfl
abbrev Rp (ks : List W25) : List (List V) := ks.map W25.cells
theorem rp_len (o : List W25) : (Rp o).length = o.length := by simp
theorem rp_all (o : List W25) : List.take o.length (Rp o) = Rp o := List.take_of_length_le (by simp)
theorem rp_get (ks : List W25) (i : Nat) : ((Rp ks)[i]?).bind W25.dec = ks[i]? := by
  simp only [Rp, List.getElem?_map]
  cases ks[i]? <;> rfl
/-- A poly whose places are few enough. -/
def Gd (p : W25) : Prop := ∃ o : List W43, p.2 = Rw o ∧ o.length ≤ 8796093022208
theorem polys_loop (q : List W25) (hq : ∀ p ∈ q, Gd p) (h : q.length ≤ 8796093022208) : ∀ (n i : Nat), i ≤ q.length → q.length < n + i → L24_0 n (Rp q) (Rp q) i = some .e2
  | 0, i, hi, hn => by omega
  | n + 1, i, hi, hn => by
    rw [L24_0, rp_len]
    by_cases hc : i < q.length
    · have g1 : (i : Int) < (q.length : Int) := by omega
      have g2 : (0 : Int) ≤ (i : Int) := by omega
      obtain ⟨o, e1, e2⟩ := hq q[i] (List.getElem_mem hc)
      rw [if_pos g1, if_pos g2, show Int.toNat (i : Int) = i by omega, rp_get, List.getElem?_eq_getElem hc]
      simp only [Option.bind_some, e1, points_same o e2]
      have hb : ¬ (!q[i].c0 == q[i].c0) = true := by cases q[i].c0 <;> decide
      rw [if_neg hb]
      simp only [Bool.not_true, Bool.false_eq_true, if_false]
      rw [wsucc (by omega)]
      exact polys_loop q hq h n (i + 1) (by omega) (by omega)
    · have g1 : ¬ (i : Int) < (q.length : Int) := by omega
      rw [if_neg g1]
theorem polys_same (q : List W25) (hq : ∀ p ∈ q, Gd p) (h : q.length ≤ 8796093022208) : F24 (Rp q) (Rp q) = some (.a0 true) := by
  have e := polys_loop q hq h 18446744073709551616 0 (by omega) (by omega)
  rw [show ((0 : Nat) : Int) = 0 by rfl] at e
  unfold F24
  rw [if_neg (by simp), e]; rfl
end Go.Proofs.Ytojigbcgmneiiaa.H
