/- What a point and a poly are, laid open. No condition beyond those stated. -/
import Derived.Test.YthohhdcngdmbeaaArcTells
import Derived.Test.YthohhdcngdmbeaaTapeRowT
import Derived.ProofKit
set_option linter.unusedVariables false
set_option linter.unusedSimpArgs false
namespace Go.Proofs.Ythohhdcngdmbeaa.H
open Go Go.VM
theorem point_row {x : List V} (g : (fun y => ∃ a b, y = a ++ b ∧ ((fun y => ∃ z, y = [V.int .i64 z] ∧ (Lit.int .i64 z).wf = true) a) ∧ ((fun y => ∃ a b, y = a ++ b ∧ ((fun y => ∃ z, y = [V.int .i64 z] ∧ (Lit.int .i64 z).wf = true) a) ∧ ((fun y => y = []) b)) b)) x) : ∃ k : W34, x = k.cells := by
  obtain ⟨_, _, rfl, ⟨a, rfl, _⟩, _, _, rfl, ⟨b, rfl, _⟩, rfl⟩ := g
  exact ⟨⟨a, b⟩, rfl⟩
theorem point_rows : ∀ {xs : List (List V)}, (∀ x ∈ xs, x.length = 2 ∧ (fun y => ∃ a b, y = a ++ b ∧ ((fun y => ∃ z, y = [V.int .i64 z] ∧ (Lit.int .i64 z).wf = true) a) ∧ ((fun y => ∃ a b, y = a ++ b ∧ ((fun y => ∃ z, y = [V.int .i64 z] ∧ (Lit.int .i64 z).wf = true) a) ∧ ((fun y => y = []) b)) b)) x) → ∃ ks : List W34, xs = Rw ks
  | [], _ => ⟨[], rfl⟩
  | x :: xs, h => by
    obtain ⟨k, rfl⟩ := point_row (h x (by simp)).2
    obtain ⟨ks, rfl⟩ := point_rows (fun y hy => h y (List.mem_cons_of_mem _ hy))
    exact ⟨k :: ks, rfl⟩
theorem poly_row {x : List V} (g : (fun y => ∃ a b, y = a ++ b ∧ ((fun y => ∃ b, y = [V.bool b]) a) ∧ ((fun y => ∃ a b, y = a ++ b ∧ ((fun y => ∃ xs, y = [V.list 2 xs] ∧ xs.length ≤ maxLen ∧ ∀ x ∈ xs, x.length = 2 ∧ ((fun y => ∃ a b, y = a ++ b ∧ ((fun y => ∃ z, y = [V.int .i64 z] ∧ (Lit.int .i64 z).wf = true) a) ∧ ((fun y => ∃ a b, y = a ++ b ∧ ((fun y => ∃ z, y = [V.int .i64 z] ∧ (Lit.int .i64 z).wf = true) a) ∧ ((fun y => y = []) b)) b)) x)) a) ∧ ((fun y => y = []) b)) b)) x) : ∃ (c : Bool) (ks : List W34), x = [.bool c, .list 2 (Rw ks)] := by
  obtain ⟨_, _, rfl, ⟨c, rfl⟩, _, _, rfl, ⟨xs, rfl, _, h⟩, rfl⟩ := g
  obtain ⟨ks, rfl⟩ := point_rows h
  exact ⟨c, ks, rfl⟩
theorem arcTells_call {xs : List (List V)} {us vs ws : List V} (hl : xs.length ≤ maxLen) (h : ∃ ks : List W3, xs = Rt ks) (f t : Int) (g3 : (fun y => ∃ a b, y = a ++ b ∧ ((fun y => ∃ b, y = [V.bool b]) a) ∧ ((fun y => ∃ a b, y = a ++ b ∧ ((fun y => ∃ xs, y = [V.list 2 xs] ∧ xs.length ≤ maxLen ∧ ∀ x ∈ xs, x.length = 2 ∧ ((fun y => ∃ a b, y = a ++ b ∧ ((fun y => ∃ z, y = [V.int .i64 z] ∧ (Lit.int .i64 z).wf = true) a) ∧ ((fun y => ∃ a b, y = a ++ b ∧ ((fun y => ∃ z, y = [V.int .i64 z] ∧ (Lit.int .i64 z).wf = true) a) ∧ ((fun y => y = []) b)) b)) x)) a) ∧ ((fun y => y = []) b)) b)) us) (g4 : (fun y => ∃ a b, y = a ++ b ∧ ((fun y => ∃ z, y = [V.int .i64 z] ∧ (Lit.int .i64 z).wf = true) a) ∧ ((fun y => ∃ a b, y = a ++ b ∧ ((fun y => ∃ z, y = [V.int .i64 z] ∧ (Lit.int .i64 z).wf = true) a) ∧ ((fun y => y = []) b)) b)) vs) (g5 : (fun y => ∃ a b, y = a ++ b ∧ ((fun y => ∃ z, y = [V.int .i64 z] ∧ (Lit.int .i64 z).wf = true) a) ∧ ((fun y => ∃ a b, y = a ++ b ∧ ((fun y => ∃ z, y = [V.int .i64 z] ∧ (Lit.int .i64 z).wf = true) a) ∧ ((fun y => y = []) b)) b)) ws) (d n : Int) :
    call Try.prog X O0 100000 10 10 [.list 1 xs, .int .i64 f, .int .i64 t, .agg us, .agg vs, .agg ws, .int .i64 d, .int .i64 n] [] = some (.bool true, []) := by
  obtain ⟨ks, rfl⟩ := h
  obtain ⟨c, raw, rfl⟩ := poly_row g3
  obtain ⟨⟨a0, a1⟩, rfl⟩ := point_row g4
  obtain ⟨⟨b0, b1⟩, rfl⟩ := point_row g5
  have hk : (ks.length : Int) ≤ 9223372036854775807 := by
    unfold maxLen at hl
    simp only [List.length_map] at hl
    omega
  exact F10_ok 0 (Rt ks) f t c (Rw raw) a0 a1 b0 b1 d n (.a0 true) (arcTells_plain ks hk f t c raw a0 a1 b0 b1 d n)
end Go.Proofs.Ythohhdcngdmbeaa.H
