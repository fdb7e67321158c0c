/- What a law is handed, laid open as plain records. No condition. -/
import Derived.Test.YtifalphladcdcaaGreatRowsR5Z
import Derived.Test.YtifalphladcdcaaGreatWk
import Derived.ProofKit
import Derived.OpenShut
set_option linter.unusedVariables false
set_option linter.unusedSimpArgs false
namespace Go.Proofs.YtifalphladcdcaaGreat.H
open Go Go.VM Go.RowKit
set_option maxRecDepth 100000
set_option linter.unusedVariables false
def InK (k : IntKind) (z : Int) : Prop := (Lit.int k z).wf = true
abbrev pred3 : List V → Prop := fun y => ∃ z, y = [V.int .i64 z] ∧ (Lit.int .i64 z).wf = true
structure P3 (k : W3) : Prop where
  h0 : InK .i64 k.c0
theorem open3 {y : List V} (g : pred3 y) : ∃ k : W3, y = k.cells ∧ P3 k := by
  obtain ⟨z1, rfl, w1⟩ := g
  exact ⟨⟨z1⟩, rfl, ⟨w1⟩⟩
theorem rows3 : ∀ {xs : List (List V)}, (∀ x ∈ xs, x.length = 1 ∧ pred3 x) → ∃ ks : List W3, xs = ks.map W3.cells ∧ ∀ k ∈ ks, P3 k
  | [], _ => ⟨[], rfl, fun k hk => by simp at hk⟩
  | x :: xs, h => by
    obtain ⟨k, rfl, p⟩ := open3 (h x (by simp)).2
    obtain ⟨ks, rfl, q⟩ := rows3 (fun y hy => h y (List.mem_cons_of_mem _ hy))
    exact ⟨k :: ks, rfl, fun k' hk' => by
      rcases List.mem_cons.1 hk' with rfl | hk'
      · exact p
      · exact q k' hk'⟩
abbrev pred22 : List V → Prop := fun y => ∃ xs, y = [V.list 1 xs] ∧ (xs.length ≤ maxLen ∧ xs.length * 8 ≤ reachBytes) ∧ ∀ x ∈ xs, x.length = 1 ∧ pred3 x
abbrev pred2 : List V → Prop := fun y => ∃ z, y = [V.int .i64 z] ∧ (Lit.int .i64 z).wf = true
abbrev pred133 : List V → Prop := fun y => ∃ a b, y = a ++ b ∧ pred3 a ∧ (fun y => ∃ a b, y = a ++ b ∧ pred3 a ∧ (fun y => ∃ a b, y = a ++ b ∧ pred3 a ∧ (fun y => ∃ a b, y = a ++ b ∧ pred2 a ∧ (fun y => y = []) b) b) b) b
structure P133 (k : W133) : Prop where
  h0 : InK .i64 k.c0
  h1 : InK .i64 k.c1
  h2 : InK .i64 k.c2
  h3 : InK .i64 k.c3
theorem open133 {y : List V} (g : pred133 y) : ∃ k : W133, y = k.cells ∧ P133 k := by
  obtain ⟨_, _, rfl, ⟨z1, rfl, w1⟩, _, _, rfl, ⟨z2, rfl, w2⟩, _, _, rfl, ⟨z3, rfl, w3⟩, _, _, rfl, ⟨z4, rfl, w4⟩, rfl⟩ := g
  exact ⟨⟨z1, z2, z3, z4⟩, rfl, ⟨w1, w2, w3, w4⟩⟩
theorem rows133 : ∀ {xs : List (List V)}, (∀ x ∈ xs, x.length = 4 ∧ pred133 x) → ∃ ks : List W133, xs = ks.map W133.cells ∧ ∀ k ∈ ks, P133 k
  | [], _ => ⟨[], rfl, fun k hk => by simp at hk⟩
  | x :: xs, h => by
    obtain ⟨k, rfl, p⟩ := open133 (h x (by simp)).2
    obtain ⟨ks, rfl, q⟩ := rows133 (fun y hy => h y (List.mem_cons_of_mem _ hy))
    exact ⟨k :: ks, rfl, fun k' hk' => by
      rcases List.mem_cons.1 hk' with rfl | hk'
      · exact p
      · exact q k' hk'⟩
abbrev pred75 : List V → Prop := fun y => ∃ xs, y = [V.list 4 xs] ∧ (xs.length ≤ maxLen ∧ xs.length * 32 ≤ reachBytes) ∧ ∀ x ∈ xs, x.length = 4 ∧ pred133 x
abbrev pred59 : List V → Prop := fun y => ∃ a b, y = a ++ b ∧ pred2 a ∧ (fun y => ∃ a b, y = a ++ b ∧ pred2 a ∧ (fun y => ∃ a b, y = a ++ b ∧ pred2 a ∧ (fun y => ∃ a b, y = a ++ b ∧ pred2 a ∧ (fun y => ∃ a b, y = a ++ b ∧ pred2 a ∧ (fun y => ∃ a b, y = a ++ b ∧ pred2 a ∧ (fun y => y = []) b) b) b) b) b) b
structure P59 (k : W59) : Prop where
  h0 : InK .i64 k.c0
  h1 : InK .i64 k.c1
  h2 : InK .i64 k.c2
  h3 : InK .i64 k.c3
  h4 : InK .i64 k.c4
  h5 : InK .i64 k.c5
theorem open59 {y : List V} (g : pred59 y) : ∃ k : W59, y = k.cells ∧ P59 k := by
  obtain ⟨_, _, rfl, ⟨z1, rfl, w1⟩, _, _, rfl, ⟨z2, rfl, w2⟩, _, _, rfl, ⟨z3, rfl, w3⟩, _, _, rfl, ⟨z4, rfl, w4⟩, _, _, rfl, ⟨z5, rfl, w5⟩, _, _, rfl, ⟨z6, rfl, w6⟩, rfl⟩ := g
  exact ⟨⟨z1, z2, z3, z4, z5, z6⟩, rfl, ⟨w1, w2, w3, w4, w5, w6⟩⟩
theorem rows59 : ∀ {xs : List (List V)}, (∀ x ∈ xs, x.length = 6 ∧ pred59 x) → ∃ ks : List W59, xs = ks.map W59.cells ∧ ∀ k ∈ ks, P59 k
  | [], _ => ⟨[], rfl, fun k hk => by simp at hk⟩
  | x :: xs, h => by
    obtain ⟨k, rfl, p⟩ := open59 (h x (by simp)).2
    obtain ⟨ks, rfl, q⟩ := rows59 (fun y hy => h y (List.mem_cons_of_mem _ hy))
    exact ⟨k :: ks, rfl, fun k' hk' => by
      rcases List.mem_cons.1 hk' with rfl | hk'
      · exact p
      · exact q k' hk'⟩
end Go.Proofs.YtifalphladcdcaaGreat.H
