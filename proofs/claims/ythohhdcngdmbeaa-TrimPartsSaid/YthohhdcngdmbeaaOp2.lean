/- What a law is handed, laid open as plain records. No condition. -/
import Derived.Test.YthohhdcngdmbeaaRowsR2
import Derived.Test.YthohhdcngdmbeaaWk
import Derived.ProofKit
import Derived.OpenShut
set_option linter.unusedVariables false
set_option linter.unusedSimpArgs false
namespace Go.Proofs.Ythohhdcngdmbeaa.H
open Go Go.VM Go.RowKit
set_option maxRecDepth 100000
set_option linter.unusedVariables false
def InK (k : IntKind) (z : Int) : Prop := (Lit.int k z).wf = true
abbrev pred3 : List V → Prop := fun y => ∃ z, y = [V.int .i64 z] ∧ (Lit.int .i64 z).wf = true
structure P3 (k : W3) : Prop where
  h0 : InK .i64 k.c0
theorem open3 {y : List V} (g : pred3 y) : ∃ k : W3, y = k.cells ∧ P3 k := by
  obtain ⟨z1, rfl, w1⟩ := g
  exact ⟨⟨z1⟩, rfl, ⟨w1⟩⟩
theorem rows3 : ∀ {xs : List (List V)}, (∀ x ∈ xs, x.length = 1 ∧ pred3 x) → ∃ ks : List W3, xs = ks.map W3.cells ∧ ∀ k ∈ ks, P3 k
  | [], _ => ⟨[], rfl, fun k hk => by simp at hk⟩
  | x :: xs, h => by
    obtain ⟨k, rfl, p⟩ := open3 (h x (by simp)).2
    obtain ⟨ks, rfl, q⟩ := rows3 (fun y hy => h y (List.mem_cons_of_mem _ hy))
    exact ⟨k :: ks, rfl, fun k' hk' => by
      rcases List.mem_cons.1 hk' with rfl | hk'
      · exact p
      · exact q k' hk'⟩
abbrev pred22 : List V → Prop := fun y => ∃ xs, y = [V.list 1 xs] ∧ (xs.length ≤ maxLen ∧ xs.length * 8 ≤ reachBytes) ∧ ∀ x ∈ xs, x.length = 1 ∧ pred3 x
abbrev pred2 : List V → Prop := fun y => ∃ z, y = [V.int .i64 z] ∧ (Lit.int .i64 z).wf = true
abbrev pred34 : List V → Prop := fun y => ∃ a b, y = a ++ b ∧ pred2 a ∧ (fun y => ∃ a b, y = a ++ b ∧ pred2 a ∧ (fun y => y = []) b) b
structure P34 (k : W34) : Prop where
  h0 : InK .i64 k.c0
  h1 : InK .i64 k.c1
theorem open34 {y : List V} (g : pred34 y) : ∃ k : W34, y = k.cells ∧ P34 k := by
  obtain ⟨_, _, rfl, ⟨z1, rfl, w1⟩, _, _, rfl, ⟨z2, rfl, w2⟩, rfl⟩ := g
  exact ⟨⟨z1, z2⟩, rfl, ⟨w1, w2⟩⟩
theorem rows34 : ∀ {xs : List (List V)}, (∀ x ∈ xs, x.length = 2 ∧ pred34 x) → ∃ ks : List W34, xs = ks.map W34.cells ∧ ∀ k ∈ ks, P34 k
  | [], _ => ⟨[], rfl, fun k hk => by simp at hk⟩
  | x :: xs, h => by
    obtain ⟨k, rfl, p⟩ := open34 (h x (by simp)).2
    obtain ⟨ks, rfl, q⟩ := rows34 (fun y hy => h y (List.mem_cons_of_mem _ hy))
    exact ⟨k :: ks, rfl, fun k' hk' => by
      rcases List.mem_cons.1 hk' with rfl | hk'
      · exact p
      · exact q k' hk'⟩
abbrev pred4 : List V → Prop := fun y => ∃ b, y = [V.bool b]
abbrev pred27 : List V → Prop := fun y => ∃ xs, y = [V.list 2 xs] ∧ (xs.length ≤ maxLen ∧ xs.length * 16 ≤ reachBytes) ∧ ∀ x ∈ xs, x.length = 2 ∧ pred34 x
abbrev pred39 : List V → Prop := fun y => ∃ a b, y = a ++ b ∧ pred4 a ∧ (fun y => ∃ a b, y = a ++ b ∧ pred27 a ∧ (fun y => y = []) b) b
structure P39 (k : W39) : Prop where
  h1 : ∃ ks : List W34, k.c1 = ks.map W34.cells ∧ (ks.length ≤ maxLen ∧ ks.length * 16 ≤ reachBytes) ∧ ∀ q ∈ ks, P34 q
theorem open39 {y : List V} (g : pred39 y) : ∃ k : W39, y = k.cells ∧ P39 k := by
  obtain ⟨_, _, rfl, ⟨z1, rfl⟩, _, _, rfl, ⟨z2, rfl, l2, w2⟩, rfl⟩ := g
  obtain ⟨kz2, rfl, mz2⟩ := rows34 w2
  exact ⟨⟨z1, kz2.map W34.cells⟩, rfl, ⟨⟨kz2, rfl, by simpa using l2, mz2⟩⟩⟩
theorem rows39 : ∀ {xs : List (List V)}, (∀ x ∈ xs, x.length = 2 ∧ pred39 x) → ∃ ks : List W39, xs = ks.map W39.cells ∧ ∀ k ∈ ks, P39 k
  | [], _ => ⟨[], rfl, fun k hk => by simp at hk⟩
  | x :: xs, h => by
    obtain ⟨k, rfl, p⟩ := open39 (h x (by simp)).2
    obtain ⟨ks, rfl, q⟩ := rows39 (fun y hy => h y (List.mem_cons_of_mem _ hy))
    exact ⟨k :: ks, rfl, fun k' hk' => by
      rcases List.mem_cons.1 hk' with rfl | hk'
      · exact p
      · exact q k' hk'⟩
abbrev pred47 : List V → Prop := fun y => ∃ xs, y = [V.list 2 xs] ∧ (xs.length ≤ maxLen ∧ xs.length * 32 ≤ reachBytes) ∧ ∀ x ∈ xs, x.length = 2 ∧ pred39 x
end Go.Proofs.Ythohhdcngdmbeaa.H
