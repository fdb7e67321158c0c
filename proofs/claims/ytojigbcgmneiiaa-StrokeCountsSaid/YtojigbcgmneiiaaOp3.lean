/- What a law is handed, laid open as plain records. No condition. -/
import Derived.Test.YtojigbcgmneiiaaRowsR3
import Derived.Test.YtojigbcgmneiiaaWk
import Derived.ProofKit
import Derived.OpenShut
set_option linter.unusedVariables false
set_option linter.unusedSimpArgs false
namespace Go.Proofs.Ytojigbcgmneiiaa.H
open Go Go.VM Go.RowKit
set_option maxRecDepth 100000
set_option linter.unusedVariables false
def InK (k : IntKind) (z : Int) : Prop := (Lit.int k z).wf = true
abbrev pred3 : List V → Prop := fun y => ∃ z, y = [V.int .i64 z] ∧ (Lit.int .i64 z).wf = true
structure P3 (k : W3) : Prop where
  h0 : InK .i64 k.c0
theorem open3 {y : List V} (g : pred3 y) : ∃ k : W3, y = k.cells ∧ P3 k := by
  obtain ⟨z1, rfl, w1⟩ := g
  exact ⟨⟨z1⟩, rfl, ⟨w1⟩⟩
theorem rows3 : ∀ {xs : List (List V)}, (∀ x ∈ xs, x.length = 1 ∧ pred3 x) → ∃ ks : List W3, xs = ks.map W3.cells ∧ ∀ k ∈ ks, P3 k
  | [], _ => ⟨[], rfl, fun k hk => by simp at hk⟩
  | x :: xs, h => by
    obtain ⟨k, rfl, p⟩ := open3 (h x (by simp)).2
    obtain ⟨ks, rfl, q⟩ := rows3 (fun y hy => h y (List.mem_cons_of_mem _ hy))
    exact ⟨k :: ks, rfl, fun k' hk' => by
      rcases List.mem_cons.1 hk' with rfl | hk'
      · exact p
      · exact q k' hk'⟩
abbrev pred22 : List V → Prop := fun y => ∃ xs, y = [V.list 1 xs] ∧ (xs.length ≤ maxLen ∧ xs.length * 8 ≤ reachBytes) ∧ ∀ x ∈ xs, x.length = 1 ∧ pred3 x
abbrev pred2 : List V → Prop := fun y => ∃ z, y = [V.int .i64 z] ∧ (Lit.int .i64 z).wf = true
structure P2 (k : W2) : Prop where
  h0 : InK .i64 k.c0
theorem open2 {y : List V} (g : pred2 y) : ∃ k : W2, y = k.cells ∧ P2 k := by
  obtain ⟨z1, rfl, w1⟩ := g
  exact ⟨⟨z1⟩, rfl, ⟨w1⟩⟩
theorem rows2 : ∀ {xs : List (List V)}, (∀ x ∈ xs, x.length = 1 ∧ pred2 x) → ∃ ks : List W2, xs = ks.map W2.cells ∧ ∀ k ∈ ks, P2 k
  | [], _ => ⟨[], rfl, fun k hk => by simp at hk⟩
  | x :: xs, h => by
    obtain ⟨k, rfl, p⟩ := open2 (h x (by simp)).2
    obtain ⟨ks, rfl, q⟩ := rows2 (fun y hy => h y (List.mem_cons_of_mem _ hy))
    exact ⟨k :: ks, rfl, fun k' hk' => by
      rcases List.mem_cons.1 hk' with rfl | hk'
      · exact p
      · exact q k' hk'⟩
abbrev pred32 : List V → Prop := fun y => ∃ xs, y = [V.list 1 xs] ∧ (xs.length ≤ maxLen ∧ xs.length * 8 ≤ reachBytes) ∧ ∀ x ∈ xs, x.length = 1 ∧ pred2 x
abbrev pred43 : List V → Prop := fun y => ∃ a b, y = a ++ b ∧ pred2 a ∧ (fun y => ∃ a b, y = a ++ b ∧ pred2 a ∧ (fun y => y = []) b) b
structure P43 (k : W43) : Prop where
  h0 : InK .i64 k.c0
  h1 : InK .i64 k.c1
theorem open43 {y : List V} (g : pred43 y) : ∃ k : W43, y = k.cells ∧ P43 k := by
  obtain ⟨_, _, rfl, ⟨z1, rfl, w1⟩, _, _, rfl, ⟨z2, rfl, w2⟩, rfl⟩ := g
  exact ⟨⟨z1, z2⟩, rfl, ⟨w1, w2⟩⟩
theorem rows43 : ∀ {xs : List (List V)}, (∀ x ∈ xs, x.length = 2 ∧ pred43 x) → ∃ ks : List W43, xs = ks.map W43.cells ∧ ∀ k ∈ ks, P43 k
  | [], _ => ⟨[], rfl, fun k hk => by simp at hk⟩
  | x :: xs, h => by
    obtain ⟨k, rfl, p⟩ := open43 (h x (by simp)).2
    obtain ⟨ks, rfl, q⟩ := rows43 (fun y hy => h y (List.mem_cons_of_mem _ hy))
    exact ⟨k :: ks, rfl, fun k' hk' => by
      rcases List.mem_cons.1 hk' with rfl | hk'
      · exact p
      · exact q k' hk'⟩
abbrev pred4 : List V → Prop := fun y => ∃ b, y = [V.bool b]
abbrev pred23 : List V → Prop := fun y => ∃ xs, y = [V.list 2 xs] ∧ (xs.length ≤ maxLen ∧ xs.length * 16 ≤ reachBytes) ∧ ∀ x ∈ xs, x.length = 2 ∧ pred43 x
abbrev pred25 : List V → Prop := fun y => ∃ a b, y = a ++ b ∧ pred4 a ∧ (fun y => ∃ a b, y = a ++ b ∧ pred23 a ∧ (fun y => y = []) b) b
structure P25 (k : W25) : Prop where
  h1 : ∃ ks : List W43, k.c1 = ks.map W43.cells ∧ (ks.length ≤ maxLen ∧ ks.length * 16 ≤ reachBytes) ∧ ∀ q ∈ ks, P43 q
theorem open25 {y : List V} (g : pred25 y) : ∃ k : W25, y = k.cells ∧ P25 k := by
  obtain ⟨_, _, rfl, ⟨z1, rfl⟩, _, _, rfl, ⟨z2, rfl, l2, w2⟩, rfl⟩ := g
  obtain ⟨kz2, rfl, mz2⟩ := rows43 w2
  exact ⟨⟨z1, kz2.map W43.cells⟩, rfl, ⟨⟨kz2, rfl, by simpa using l2, mz2⟩⟩⟩
theorem rows25 : ∀ {xs : List (List V)}, (∀ x ∈ xs, x.length = 2 ∧ pred25 x) → ∃ ks : List W25, xs = ks.map W25.cells ∧ ∀ k ∈ ks, P25 k
  | [], _ => ⟨[], rfl, fun k hk => by simp at hk⟩
  | x :: xs, h => by
    obtain ⟨k, rfl, p⟩ := open25 (h x (by simp)).2
    obtain ⟨ks, rfl, q⟩ := rows25 (fun y hy => h y (List.mem_cons_of_mem _ hy))
    exact ⟨k :: ks, rfl, fun k' hk' => by
      rcases List.mem_cons.1 hk' with rfl | hk'
      · exact p
      · exact q k' hk'⟩
end Go.Proofs.Ytojigbcgmneiiaa.H
