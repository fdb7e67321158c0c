/- Parts of lines, and lists of lines, as the program and as the document tell them: the same. Plain Lean over what the functions compute. Conditions: those stated. -/
import Derived.Test.YtojigbcgmneiiaaTwS
import Derived.KernelRfl
set_option linter.unusedVariables false
set_option linter.unusedSimpArgs false
namespace Go.Proofs.Ytojigbcgmneiiaa.H
open Go Go.VM
set_option maxRecDepth 100000
theorem push2 (o : List W43) (x y : Int) : List.take o.length (Rw o) ++ [[i64 x, i64 y]] = Rw (o ++ [⟨x, y⟩]) := by
  rw [List.take_of_length_le (by simp)]; simp
theorem rw_all (o : List W43) : List.take o.length (Rw o) = Rw o := List.take_of_length_le (by simp)
theorem rw_len (o : List W43) : (Rw o).length = o.length := by simp
/-! ### The same lines are told to be the same -/
theorem points_loop (o : List W43) (h : o.length ≤ 8796093022208) : ∀ (n i : Nat), i ≤ o.length → o.length < n + i → L19_0 n (Rw o) (Rw o) i = some .e1
  | 0, i, hi, hn => by omega
  | n + 1, i, hi, hn => by
    rw [L19_0, rw_len]
    by_cases hc : i < o.length
    · have g1 : (i : Int) < (o.length : Int) := by omega
      have g2 : (0 : Int) ≤ (i : Int) := by omega
      rw [if_pos g1, if_pos g2, show Int.toNat (i : Int) = i by omega, rw_get, List.getElem?_eq_getElem hc]
      simp only [Option.bind_some, beq_self_eq_true, Bool.and_self, Bool.not_true, Bool.false_eq_true, if_false]
      rw [wsucc (by omega)]
      exact points_loop o h n (i + 1) (by omega) (by omega)
    · have g1 : ¬ (i : Int) < (o.length : Int) := by omega
      rw [if_neg g1]
theorem points_same (o : List W43) (h : o.length ≤ 8796093022208) : F19 (Rw o) (Rw o) = some (.a0 true) := by
  have e := points_loop o h 18446744073709551616 0 (by omega) (by omega)
  rw [show ((0 : Nat) : Int) = 0 by rfl] at e
  unfold F19
  rw [if_neg (by simp), e]; rfl
abbrev Rp (ks : List W25) : List (List V) := ks.map W25.cells
theorem rp_len (o : List W25) : (Rp o).length = o.length := by simp
theorem rp_all (o : List W25) : List.take o.length (Rp o) = Rp o := List.take_of_length_le (by simp)
theorem rp_get (ks : List W25) (i : Nat) : ((Rp ks)[i]?).bind W25.dec = ks[i]? := by
  simp only [Rp, List.getElem?_map]
  cases ks[i]? <;> rfl
/-- A poly whose places are few enough. -/
def Gd (p : W25) : Prop := ∃ o : List W43, p.2 = Rw o ∧ o.length ≤ 8796093022208
theorem polys_loop (q : List W25) (hq : ∀ p ∈ q, Gd p) (h : q.length ≤ 8796093022208) : ∀ (n i : Nat), i ≤ q.length → q.length < n + i → L24_0 n (Rp q) (Rp q) i = some .e2
  | 0, i, hi, hn => by omega
  | n + 1, i, hi, hn => by
    rw [L24_0, rp_len]
    by_cases hc : i < q.length
    · have g1 : (i : Int) < (q.length : Int) := by omega
      have g2 : (0 : Int) ≤ (i : Int) := by omega
      obtain ⟨o, e1, e2⟩ := hq q[i] (List.getElem_mem hc)
      rw [if_pos g1, if_pos g2, show Int.toNat (i : Int) = i by omega, rp_get, List.getElem?_eq_getElem hc]
      simp only [Option.bind_some, e1, points_same o e2]
      have hb : ¬ (!q[i].c0 == q[i].c0) = true := by cases q[i].c0 <;> decide
      rw [if_neg hb]
      simp only [Bool.not_true, Bool.false_eq_true, if_false]
      rw [wsucc (by omega)]
      exact polys_loop q hq h n (i + 1) (by omega) (by omega)
    · have g1 : ¬ (i : Int) < (q.length : Int) := by omega
      rw [if_neg g1]
theorem polys_same (q : List W25) (hq : ∀ p ∈ q, Gd p) (h : q.length ≤ 8796093022208) : F24 (Rp q) (Rp q) = some (.a0 true) := by
  have e := polys_loop q hq h 18446744073709551616 0 (by omega) (by omega)
  rw [show ((0 : Nat) : Int) = 0 by rfl] at e
  unfold F24
  rw [if_neg (by simp), e]; rfl
end Go.Proofs.Ytojigbcgmneiiaa.H
