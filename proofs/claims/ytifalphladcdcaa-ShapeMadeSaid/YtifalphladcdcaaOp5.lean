/- What a law is handed, laid open as plain records. No condition. -/
import Derived.Test.YtifalphladcdcaaRowsR5
import Derived.Test.YtifalphladcdcaaWk
import Derived.ProofKit
import Derived.OpenShut
set_option linter.unusedVariables false
set_option linter.unusedSimpArgs false
namespace Go.Proofs.Ytifalphladcdcaa.H
open Go Go.VM Go.RowKit
set_option maxRecDepth 100000
set_option linter.unusedVariables false
def InK (k : IntKind) (z : Int) : Prop := (Lit.int k z).wf = true
abbrev pred3 : List V → Prop := fun y => ∃ z, y = [V.int .i64 z] ∧ (Lit.int .i64 z).wf = true
structure P3 (k : W3) : Prop where
  h0 : InK .i64 k.c0
theorem open3 {y : List V} (g : pred3 y) : ∃ k : W3, y = k.cells ∧ P3 k := by
  obtain ⟨z1, rfl, w1⟩ := g
  exact ⟨⟨z1⟩, rfl, ⟨w1⟩⟩
theorem rows3 : ∀ {xs : List (List V)}, (∀ x ∈ xs, x.length = 1 ∧ pred3 x) → ∃ ks : List W3, xs = ks.map W3.cells ∧ ∀ k ∈ ks, P3 k
  | [], _ => ⟨[], rfl, fun k hk => by simp at hk⟩
  | x :: xs, h => by
    obtain ⟨k, rfl, p⟩ := open3 (h x (by simp)).2
    obtain ⟨ks, rfl, q⟩ := rows3 (fun y hy => h y (List.mem_cons_of_mem _ hy))
    exact ⟨k :: ks, rfl, fun k' hk' => by
      rcases List.mem_cons.1 hk' with rfl | hk'
      · exact p
      · exact q k' hk'⟩
abbrev pred32 : List V → Prop := fun y => ∃ xs, y = [V.list 1 xs] ∧ (xs.length ≤ maxLen ∧ xs.length * 8 ≤ reachBytes) ∧ ∀ x ∈ xs, x.length = 1 ∧ pred3 x
abbrev pred2 : List V → Prop := fun y => ∃ z, y = [V.int .i64 z] ∧ (Lit.int .i64 z).wf = true
abbrev pred30 : List V → Prop := fun y => ∃ a b, y = a ++ b ∧ pred2 a ∧ (fun y => ∃ a b, y = a ++ b ∧ pred2 a ∧ (fun y => ∃ a b, y = a ++ b ∧ pred2 a ∧ (fun y => ∃ a b, y = a ++ b ∧ pred2 a ∧ (fun y => ∃ a b, y = a ++ b ∧ pred2 a ∧ (fun y => ∃ a b, y = a ++ b ∧ pred2 a ∧ (fun y => y = []) b) b) b) b) b) b
structure S30 where
  c0 : Int
  c1 : Int
  c2 : Int
  c3 : Int
  c4 : Int
  c5 : Int
abbrev S30.cells (k : S30) : List V := [.int .i64 k.c0, .int .i64 k.c1, .int .i64 k.c2, .int .i64 k.c3, .int .i64 k.c4, .int .i64 k.c5]
structure P30 (k : S30) : Prop where
  h0 : InK .i64 k.c0
  h1 : InK .i64 k.c1
  h2 : InK .i64 k.c2
  h3 : InK .i64 k.c3
  h4 : InK .i64 k.c4
  h5 : InK .i64 k.c5
theorem open30 {y : List V} (g : pred30 y) : ∃ k : S30, y = k.cells ∧ P30 k := by
  obtain ⟨_, _, rfl, ⟨z1, rfl, w1⟩, _, _, rfl, ⟨z2, rfl, w2⟩, _, _, rfl, ⟨z3, rfl, w3⟩, _, _, rfl, ⟨z4, rfl, w4⟩, _, _, rfl, ⟨z5, rfl, w5⟩, _, _, rfl, ⟨z6, rfl, w6⟩, rfl⟩ := g
  exact ⟨⟨z1, z2, z3, z4, z5, z6⟩, rfl, ⟨w1, w2, w3, w4, w5, w6⟩⟩
theorem rows30 : ∀ {xs : List (List V)}, (∀ x ∈ xs, x.length = 6 ∧ pred30 x) → ∃ ks : List S30, xs = ks.map S30.cells ∧ ∀ k ∈ ks, P30 k
  | [], _ => ⟨[], rfl, fun k hk => by simp at hk⟩
  | x :: xs, h => by
    obtain ⟨k, rfl, p⟩ := open30 (h x (by simp)).2
    obtain ⟨ks, rfl, q⟩ := rows30 (fun y hy => h y (List.mem_cons_of_mem _ hy))
    exact ⟨k :: ks, rfl, fun k' hk' => by
      rcases List.mem_cons.1 hk' with rfl | hk'
      · exact p
      · exact q k' hk'⟩
abbrev pred26 : List V → Prop := fun y => ∃ a b, y = a ++ b ∧ pred2 a ∧ (fun y => ∃ a b, y = a ++ b ∧ pred2 a ∧ (fun y => y = []) b) b
structure P26 (k : W26) : Prop where
  h0 : InK .i64 k.c0
  h1 : InK .i64 k.c1
theorem open26 {y : List V} (g : pred26 y) : ∃ k : W26, y = k.cells ∧ P26 k := by
  obtain ⟨_, _, rfl, ⟨z1, rfl, w1⟩, _, _, rfl, ⟨z2, rfl, w2⟩, rfl⟩ := g
  exact ⟨⟨z1, z2⟩, rfl, ⟨w1, w2⟩⟩
theorem rows26 : ∀ {xs : List (List V)}, (∀ x ∈ xs, x.length = 2 ∧ pred26 x) → ∃ ks : List W26, xs = ks.map W26.cells ∧ ∀ k ∈ ks, P26 k
  | [], _ => ⟨[], rfl, fun k hk => by simp at hk⟩
  | x :: xs, h => by
    obtain ⟨k, rfl, p⟩ := open26 (h x (by simp)).2
    obtain ⟨ks, rfl, q⟩ := rows26 (fun y hy => h y (List.mem_cons_of_mem _ hy))
    exact ⟨k :: ks, rfl, fun k' hk' => by
      rcases List.mem_cons.1 hk' with rfl | hk'
      · exact p
      · exact q k' hk'⟩
abbrev pred4 : List V → Prop := fun y => ∃ b, y = [V.bool b]
abbrev pred22 : List V → Prop := fun y => ∃ xs, y = [V.list 2 xs] ∧ (xs.length ≤ maxLen ∧ xs.length * 16 ≤ reachBytes) ∧ ∀ x ∈ xs, x.length = 2 ∧ pred26 x
abbrev pred24 : List V → Prop := fun y => ∃ a b, y = a ++ b ∧ pred4 a ∧ (fun y => ∃ a b, y = a ++ b ∧ pred22 a ∧ (fun y => y = []) b) b
structure S24 where
  c0 : Bool
  c1 : List (List V)
abbrev S24.cells (k : S24) : List V := [.bool k.c0, .list 2 k.c1]
structure P24 (k : S24) : Prop where
  h1 : ∃ ks : List W26, k.c1 = ks.map W26.cells ∧ (ks.length ≤ maxLen ∧ ks.length * 16 ≤ reachBytes) ∧ ∀ q ∈ ks, P26 q
theorem open24 {y : List V} (g : pred24 y) : ∃ k : S24, y = k.cells ∧ P24 k := by
  obtain ⟨_, _, rfl, ⟨z1, rfl⟩, _, _, rfl, ⟨z2, rfl, l2, w2⟩, rfl⟩ := g
  obtain ⟨kz2, rfl, mz2⟩ := rows26 w2
  exact ⟨⟨z1, kz2.map W26.cells⟩, rfl, ⟨⟨kz2, rfl, by simpa using l2, mz2⟩⟩⟩
theorem rows24 : ∀ {xs : List (List V)}, (∀ x ∈ xs, x.length = 2 ∧ pred24 x) → ∃ ks : List S24, xs = ks.map S24.cells ∧ ∀ k ∈ ks, P24 k
  | [], _ => ⟨[], rfl, fun k hk => by simp at hk⟩
  | x :: xs, h => by
    obtain ⟨k, rfl, p⟩ := open24 (h x (by simp)).2
    obtain ⟨ks, rfl, q⟩ := rows24 (fun y hy => h y (List.mem_cons_of_mem _ hy))
    exact ⟨k :: ks, rfl, fun k' hk' => by
      rcases List.mem_cons.1 hk' with rfl | hk'
      · exact p
      · exact q k' hk'⟩
end Go.Proofs.Ytifalphladcdcaa.H
