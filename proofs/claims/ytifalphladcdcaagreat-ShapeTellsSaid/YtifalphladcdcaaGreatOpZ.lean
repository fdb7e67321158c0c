/- What a law is handed, laid open as plain records. No condition. -/
import Derived.Test.YtifalphladcdcaaGreatRowsR5Z
import Derived.Test.YtifalphladcdcaaGreatWk
import Derived.ProofKit
import Derived.OpenShut
set_option linter.unusedVariables false
set_option linter.unusedSimpArgs false
namespace Go.Proofs.YtifalphladcdcaaGreat.H
open Go Go.VM Go.RowKit
set_option maxRecDepth 100000
set_option linter.unusedVariables false
def InK (k : IntKind) (z : Int) : Prop := (Lit.int k z).wf = true
abbrev pred3 : List V → Prop := fun y => ∃ z, y = [V.int .i64 z] ∧ (Lit.int .i64 z).wf = true
structure P3 (k : W3) : Prop where
  h0 : InK .i64 k.c0
theorem open3 {y : List V} (g : pred3 y) : ∃ k : W3, y = k.cells ∧ P3 k := by
  obtain ⟨z1, rfl, w1⟩ := g
  exact ⟨⟨z1⟩, rfl, ⟨w1⟩⟩
theorem rows3 : ∀ {xs : List (List V)}, (∀ x ∈ xs, x.length = 1 ∧ pred3 x) → ∃ ks : List W3, xs = ks.map W3.cells ∧ ∀ k ∈ ks, P3 k
  | [], _ => ⟨[], rfl, fun k hk => by simp at hk⟩
  | x :: xs, h => by
    obtain ⟨k, rfl, p⟩ := open3 (h x (by simp)).2
    obtain ⟨ks, rfl, q⟩ := rows3 (fun y hy => h y (List.mem_cons_of_mem _ hy))
    exact ⟨k :: ks, rfl, fun k' hk' => by
      rcases List.mem_cons.1 hk' with rfl | hk'
      · exact p
      · exact q k' hk'⟩
abbrev pred22 : List V → Prop := fun y => ∃ xs, y = [V.list 1 xs] ∧ (xs.length ≤ maxLen ∧ xs.length * 8 ≤ reachBytes) ∧ ∀ x ∈ xs, x.length = 1 ∧ pred3 x
abbrev pred2 : List V → Prop := fun y => ∃ z, y = [V.int .i64 z] ∧ (Lit.int .i64 z).wf = true
abbrev pred72 : List V → Prop := fun y => ∃ a b, y = a ++ b ∧ pred2 a ∧ (fun y => ∃ a b, y = a ++ b ∧ pred2 a ∧ (fun y => ∃ a b, y = a ++ b ∧ pred2 a ∧ (fun y => ∃ a b, y = a ++ b ∧ pred2 a ∧ (fun y => y = []) b) b) b) b
abbrev pred74 : List V → Prop := fun y => ∃ a b, y = a ++ b ∧ pred2 a ∧ (fun y => ∃ a b, y = a ++ b ∧ pred2 a ∧ (fun y => ∃ a b, y = a ++ b ∧ pred3 a ∧ (fun y => ∃ a b, y = a ++ b ∧ pred72 a ∧ (fun y => y = []) b) b) b) b
structure P74 (k : W74) : Prop where
  h0 : InK .i64 k.c0
  h1 : InK .i64 k.c1
  h2 : InK .i64 k.c2
  h3 : InK .i64 k.c3
  h4 : InK .i64 k.c4
  h5 : InK .i64 k.c5
  h6 : InK .i64 k.c6
theorem open74 {y : List V} (g : pred74 y) : ∃ k : W74, y = k.cells ∧ P74 k := by
  obtain ⟨_, _, rfl, ⟨z1, rfl, w1⟩, _, _, rfl, ⟨z2, rfl, w2⟩, _, _, rfl, ⟨z3, rfl, w3⟩, _, _, rfl, ⟨_, _, rfl, ⟨z4, rfl, w4⟩, _, _, rfl, ⟨z5, rfl, w5⟩, _, _, rfl, ⟨z6, rfl, w6⟩, _, _, rfl, ⟨z7, rfl, w7⟩, rfl⟩, rfl⟩ := g
  exact ⟨⟨z1, z2, z3, z4, z5, z6, z7⟩, rfl, ⟨w1, w2, w3, w4, w5, w6, w7⟩⟩
theorem rows74 : ∀ {xs : List (List V)}, (∀ x ∈ xs, x.length = 7 ∧ pred74 x) → ∃ ks : List W74, xs = ks.map W74.cells ∧ ∀ k ∈ ks, P74 k
  | [], _ => ⟨[], rfl, fun k hk => by simp at hk⟩
  | x :: xs, h => by
    obtain ⟨k, rfl, p⟩ := open74 (h x (by simp)).2
    obtain ⟨ks, rfl, q⟩ := rows74 (fun y hy => h y (List.mem_cons_of_mem _ hy))
    exact ⟨k :: ks, rfl, fun k' hk' => by
      rcases List.mem_cons.1 hk' with rfl | hk'
      · exact p
      · exact q k' hk'⟩
abbrev pred28 : List V → Prop := fun y => ∃ a b, y = a ++ b ∧ pred2 a ∧ (fun y => ∃ a b, y = a ++ b ∧ pred2 a ∧ (fun y => y = []) b) b
structure P28 (k : W28) : Prop where
  h0 : InK .i64 k.c0
  h1 : InK .i64 k.c1
theorem open28 {y : List V} (g : pred28 y) : ∃ k : W28, y = k.cells ∧ P28 k := by
  obtain ⟨_, _, rfl, ⟨z1, rfl, w1⟩, _, _, rfl, ⟨z2, rfl, w2⟩, rfl⟩ := g
  exact ⟨⟨z1, z2⟩, rfl, ⟨w1, w2⟩⟩
theorem rows28 : ∀ {xs : List (List V)}, (∀ x ∈ xs, x.length = 2 ∧ pred28 x) → ∃ ks : List W28, xs = ks.map W28.cells ∧ ∀ k ∈ ks, P28 k
  | [], _ => ⟨[], rfl, fun k hk => by simp at hk⟩
  | x :: xs, h => by
    obtain ⟨k, rfl, p⟩ := open28 (h x (by simp)).2
    obtain ⟨ks, rfl, q⟩ := rows28 (fun y hy => h y (List.mem_cons_of_mem _ hy))
    exact ⟨k :: ks, rfl, fun k' hk' => by
      rcases List.mem_cons.1 hk' with rfl | hk'
      · exact p
      · exact q k' hk'⟩
abbrev pred4 : List V → Prop := fun y => ∃ b, y = [V.bool b]
abbrev pred53 : List V → Prop := fun y => ∃ xs, y = [V.list 2 xs] ∧ (xs.length ≤ maxLen ∧ xs.length * 16 ≤ reachBytes) ∧ ∀ x ∈ xs, x.length = 2 ∧ pred28 x
abbrev pred55 : List V → Prop := fun y => ∃ a b, y = a ++ b ∧ pred4 a ∧ (fun y => ∃ a b, y = a ++ b ∧ pred53 a ∧ (fun y => y = []) b) b
abbrev pred100 : List V → Prop := fun y => ∃ a b, y = a ++ b ∧ pred2 a ∧ (fun y => ∃ a b, y = a ++ b ∧ pred55 a ∧ (fun y => ∃ a b, y = a ++ b ∧ pred3 a ∧ (fun y => ∃ a b, y = a ++ b ∧ pred72 a ∧ (fun y => y = []) b) b) b) b
structure P100 (k : W100) : Prop where
  h0 : InK .i64 k.c0
  h2 : ∃ ks : List W28, k.c2 = ks.map W28.cells ∧ (ks.length ≤ maxLen ∧ ks.length * 16 ≤ reachBytes) ∧ ∀ q ∈ ks, P28 q
  h3 : InK .i64 k.c3
  h4 : InK .i64 k.c4
  h5 : InK .i64 k.c5
  h6 : InK .i64 k.c6
  h7 : InK .i64 k.c7
theorem open100 {y : List V} (g : pred100 y) : ∃ k : W100, y = k.cells ∧ P100 k := by
  obtain ⟨_, _, rfl, ⟨z1, rfl, w1⟩, _, _, rfl, ⟨_, _, rfl, ⟨z2, rfl⟩, _, _, rfl, ⟨z3, rfl, l3, w3⟩, rfl⟩, _, _, rfl, ⟨z4, rfl, w4⟩, _, _, rfl, ⟨_, _, rfl, ⟨z5, rfl, w5⟩, _, _, rfl, ⟨z6, rfl, w6⟩, _, _, rfl, ⟨z7, rfl, w7⟩, _, _, rfl, ⟨z8, rfl, w8⟩, rfl⟩, rfl⟩ := g
  obtain ⟨kz3, rfl, mz3⟩ := rows28 w3
  exact ⟨⟨z1, z2, kz3.map W28.cells, z4, z5, z6, z7, z8⟩, rfl, ⟨w1, ⟨kz3, rfl, by simpa using l3, mz3⟩, w4, w5, w6, w7, w8⟩⟩
theorem rows100 : ∀ {xs : List (List V)}, (∀ x ∈ xs, x.length = 8 ∧ pred100 x) → ∃ ks : List W100, xs = ks.map W100.cells ∧ ∀ k ∈ ks, P100 k
  | [], _ => ⟨[], rfl, fun k hk => by simp at hk⟩
  | x :: xs, h => by
    obtain ⟨k, rfl, p⟩ := open100 (h x (by simp)).2
    obtain ⟨ks, rfl, q⟩ := rows100 (fun y hy => h y (List.mem_cons_of_mem _ hy))
    exact ⟨k :: ks, rfl, fun k' hk' => by
      rcases List.mem_cons.1 hk' with rfl | hk'
      · exact p
      · exact q k' hk'⟩
abbrev pred5 : List V → Prop := fun y => ∃ z, y = [V.int .u8 z] ∧ (Lit.int .u8 z).wf = true
abbrev pred26 : List V → Prop := fun y => y.length = 4 ∧ ∀ x ∈ y, pred5 [x]
abbrev pred108 : List V → Prop := fun y => ∃ a b, y = a ++ b ∧ pred2 a ∧ (fun y => ∃ a b, y = a ++ b ∧ pred26 a ∧ (fun y => ∃ a b, y = a ++ b ∧ pred3 a ∧ (fun y => ∃ a b, y = a ++ b ∧ pred72 a ∧ (fun y => y = []) b) b) b) b
structure P108 (k : W108) : Prop where
  h0 : InK .i64 k.c0
  h1 : InK .u8 k.c1
  h2 : InK .u8 k.c2
  h3 : InK .u8 k.c3
  h4 : InK .u8 k.c4
  h5 : InK .i64 k.c5
  h6 : InK .i64 k.c6
  h7 : InK .i64 k.c7
  h8 : InK .i64 k.c8
  h9 : InK .i64 k.c9
theorem open108 {y : List V} (g : pred108 y) : ∃ k : W108, y = k.cells ∧ P108 k := by
  obtain ⟨_, _, rfl, ⟨z1, rfl, w1⟩, A2, _, rfl, ⟨n2, a2⟩, _, _, rfl, ⟨z3, rfl, w3⟩, _, _, rfl, ⟨_, _, rfl, ⟨z4, rfl, w4⟩, _, _, rfl, ⟨z5, rfl, w5⟩, _, _, rfl, ⟨z6, rfl, w6⟩, _, _, rfl, ⟨z7, rfl, w7⟩, rfl⟩, rfl⟩ := g
  match A2, n2 with
  | [u2_0, u2_1, u2_2, u2_3], _ =>
    obtain ⟨vu2_0, qu2_0, wu2_0⟩ := a2 u2_0 (by simp)
    cases qu2_0
    obtain ⟨vu2_1, qu2_1, wu2_1⟩ := a2 u2_1 (by simp)
    cases qu2_1
    obtain ⟨vu2_2, qu2_2, wu2_2⟩ := a2 u2_2 (by simp)
    cases qu2_2
    obtain ⟨vu2_3, qu2_3, wu2_3⟩ := a2 u2_3 (by simp)
    cases qu2_3
    exact ⟨⟨z1, vu2_0, vu2_1, vu2_2, vu2_3, z3, z4, z5, z6, z7⟩, rfl, ⟨w1, wu2_0, wu2_1, wu2_2, wu2_3, w3, w4, w5, w6, w7⟩⟩
theorem rows108 : ∀ {xs : List (List V)}, (∀ x ∈ xs, x.length = 10 ∧ pred108 x) → ∃ ks : List W108, xs = ks.map W108.cells ∧ ∀ k ∈ ks, P108 k
  | [], _ => ⟨[], rfl, fun k hk => by simp at hk⟩
  | x :: xs, h => by
    obtain ⟨k, rfl, p⟩ := open108 (h x (by simp)).2
    obtain ⟨ks, rfl, q⟩ := rows108 (fun y hy => h y (List.mem_cons_of_mem _ hy))
    exact ⟨k :: ks, rfl, fun k' hk' => by
      rcases List.mem_cons.1 hk' with rfl | hk'
      · exact p
      · exact q k' hk'⟩
structure P2 (k : W2) : Prop where
  h0 : InK .i64 k.c0
theorem open2 {y : List V} (g : pred2 y) : ∃ k : W2, y = k.cells ∧ P2 k := by
  obtain ⟨z1, rfl, w1⟩ := g
  exact ⟨⟨z1⟩, rfl, ⟨w1⟩⟩
theorem rows2 : ∀ {xs : List (List V)}, (∀ x ∈ xs, x.length = 1 ∧ pred2 x) → ∃ ks : List W2, xs = ks.map W2.cells ∧ ∀ k ∈ ks, P2 k
  | [], _ => ⟨[], rfl, fun k hk => by simp at hk⟩
  | x :: xs, h => by
    obtain ⟨k, rfl, p⟩ := open2 (h x (by simp)).2
    obtain ⟨ks, rfl, q⟩ := rows2 (fun y hy => h y (List.mem_cons_of_mem _ hy))
    exact ⟨k :: ks, rfl, fun k' hk' => by
      rcases List.mem_cons.1 hk' with rfl | hk'
      · exact p
      · exact q k' hk'⟩
abbrev pred23 : List V → Prop := fun y => ∃ xs, y = [V.list 7 xs] ∧ (xs.length ≤ maxLen ∧ xs.length * 56 ≤ reachBytes) ∧ ∀ x ∈ xs, x.length = 7 ∧ pred74 x
abbrev pred24 : List V → Prop := fun y => ∃ xs, y = [V.list 8 xs] ∧ (xs.length ≤ maxLen ∧ xs.length * 80 ≤ reachBytes) ∧ ∀ x ∈ xs, x.length = 8 ∧ pred100 x
abbrev pred30 : List V → Prop := fun y => ∃ a b, y = a ++ b ∧ pred3 a ∧ (fun y => ∃ a b, y = a ++ b ∧ pred26 a ∧ (fun y => ∃ a b, y = a ++ b ∧ pred26 a ∧ (fun y => ∃ a b, y = a ++ b ∧ pred28 a ∧ (fun y => ∃ a b, y = a ++ b ∧ pred28 a ∧ (fun y => ∃ a b, y = a ++ b ∧ pred2 a ∧ (fun y => y = []) b) b) b) b) b) b
abbrev pred31 : List V → Prop := fun y => ∃ xs, y = [V.list 10 xs] ∧ (xs.length ≤ maxLen ∧ xs.length * 56 ≤ reachBytes) ∧ ∀ x ∈ xs, x.length = 10 ∧ pred108 x
abbrev pred32 : List V → Prop := fun y => ∃ xs, y = [V.list 1 xs] ∧ (xs.length ≤ maxLen ∧ xs.length * 8 ≤ reachBytes) ∧ ∀ x ∈ xs, x.length = 1 ∧ pred2 x
abbrev pred34 : List V → Prop := fun y => ∃ a b, y = a ++ b ∧ pred3 a ∧ (fun y => ∃ a b, y = a ++ b ∧ pred3 a ∧ (fun y => ∃ a b, y = a ++ b ∧ pred23 a ∧ (fun y => ∃ a b, y = a ++ b ∧ pred23 a ∧ (fun y => ∃ a b, y = a ++ b ∧ pred24 a ∧ (fun y => ∃ a b, y = a ++ b ∧ pred4 a ∧ (fun y => ∃ a b, y = a ++ b ∧ pred3 a ∧ (fun y => ∃ a b, y = a ++ b ∧ pred30 a ∧ (fun y => ∃ a b, y = a ++ b ∧ pred31 a ∧ (fun y => ∃ a b, y = a ++ b ∧ pred4 a ∧ (fun y => ∃ a b, y = a ++ b ∧ pred23 a ∧ (fun y => ∃ a b, y = a ++ b ∧ pred26 a ∧ (fun y => ∃ a b, y = a ++ b ∧ pred3 a ∧ (fun y => ∃ a b, y = a ++ b ∧ pred32 a ∧ (fun y => ∃ a b, y = a ++ b ∧ pred23 a ∧ (fun y => ∃ a b, y = a ++ b ∧ pred23 a ∧ (fun y => y = []) b) b) b) b) b) b) b) b) b) b) b) b) b) b) b) b
structure S34 where
  c0 : Int
  c1 : Int
  c2 : List (List V)
  c3 : List (List V)
  c4 : List (List V)
  c5 : Bool
  c6 : Int
  c7 : Int
  c8 : Int
  c9 : Int
  c10 : Int
  c11 : Int
  c12 : Int
  c13 : Int
  c14 : Int
  c15 : Int
  c16 : Int
  c17 : Int
  c18 : Int
  c19 : Int
  c20 : Int
  c21 : List (List V)
  c22 : Bool
  c23 : List (List V)
  c24 : Int
  c25 : Int
  c26 : Int
  c27 : Int
  c28 : Int
  c29 : List (List V)
  c30 : List (List V)
  c31 : List (List V)
abbrev S34.cells (k : S34) : List V := [.int .i64 k.c0, .int .i64 k.c1, .list 7 k.c2, .list 7 k.c3, .list 8 k.c4, .bool k.c5, .int .i64 k.c6, .int .i64 k.c7, .int .u8 k.c8, .int .u8 k.c9, .int .u8 k.c10, .int .u8 k.c11, .int .u8 k.c12, .int .u8 k.c13, .int .u8 k.c14, .int .u8 k.c15, .int .i64 k.c16, .int .i64 k.c17, .int .i64 k.c18, .int .i64 k.c19, .int .i64 k.c20, .list 10 k.c21, .bool k.c22, .list 7 k.c23, .int .u8 k.c24, .int .u8 k.c25, .int .u8 k.c26, .int .u8 k.c27, .int .i64 k.c28, .list 1 k.c29, .list 7 k.c30, .list 7 k.c31]
structure P34 (k : S34) : Prop where
  h0 : InK .i64 k.c0
  h1 : InK .i64 k.c1
  h2 : ∃ ks : List W74, k.c2 = ks.map W74.cells ∧ (ks.length ≤ maxLen ∧ ks.length * 56 ≤ reachBytes) ∧ ∀ q ∈ ks, P74 q
  h3 : ∃ ks : List W74, k.c3 = ks.map W74.cells ∧ (ks.length ≤ maxLen ∧ ks.length * 56 ≤ reachBytes) ∧ ∀ q ∈ ks, P74 q
  h4 : ∃ ks : List W100, k.c4 = ks.map W100.cells ∧ (ks.length ≤ maxLen ∧ ks.length * 80 ≤ reachBytes) ∧ ∀ q ∈ ks, P100 q
  h6 : InK .i64 k.c6
  h7 : InK .i64 k.c7
  h8 : InK .u8 k.c8
  h9 : InK .u8 k.c9
  h10 : InK .u8 k.c10
  h11 : InK .u8 k.c11
  h12 : InK .u8 k.c12
  h13 : InK .u8 k.c13
  h14 : InK .u8 k.c14
  h15 : InK .u8 k.c15
  h16 : InK .i64 k.c16
  h17 : InK .i64 k.c17
  h18 : InK .i64 k.c18
  h19 : InK .i64 k.c19
  h20 : InK .i64 k.c20
  h21 : ∃ ks : List W108, k.c21 = ks.map W108.cells ∧ (ks.length ≤ maxLen ∧ ks.length * 56 ≤ reachBytes) ∧ ∀ q ∈ ks, P108 q
  h23 : ∃ ks : List W74, k.c23 = ks.map W74.cells ∧ (ks.length ≤ maxLen ∧ ks.length * 56 ≤ reachBytes) ∧ ∀ q ∈ ks, P74 q
  h24 : InK .u8 k.c24
  h25 : InK .u8 k.c25
  h26 : InK .u8 k.c26
  h27 : InK .u8 k.c27
  h28 : InK .i64 k.c28
  h29 : ∃ ks : List W2, k.c29 = ks.map W2.cells ∧ (ks.length ≤ maxLen ∧ ks.length * 8 ≤ reachBytes) ∧ ∀ q ∈ ks, P2 q
  h30 : ∃ ks : List W74, k.c30 = ks.map W74.cells ∧ (ks.length ≤ maxLen ∧ ks.length * 56 ≤ reachBytes) ∧ ∀ q ∈ ks, P74 q
  h31 : ∃ ks : List W74, k.c31 = ks.map W74.cells ∧ (ks.length ≤ maxLen ∧ ks.length * 56 ≤ reachBytes) ∧ ∀ q ∈ ks, P74 q
theorem open34 {y : List V} (g : pred34 y) : ∃ k : S34, y = k.cells ∧ P34 k := by
  obtain ⟨_, _, rfl, ⟨z1, rfl, w1⟩, _, _, rfl, ⟨z2, rfl, w2⟩, _, _, rfl, ⟨z3, rfl, l3, w3⟩, _, _, rfl, ⟨z4, rfl, l4, w4⟩, _, _, rfl, ⟨z5, rfl, l5, w5⟩, _, _, rfl, ⟨z6, rfl⟩, _, _, rfl, ⟨z7, rfl, w7⟩, _, _, rfl, ⟨_, _, rfl, ⟨z8, rfl, w8⟩, A9, _, rfl, ⟨n9, a9⟩, A10, _, rfl, ⟨n10, a10⟩, _, _, rfl, ⟨_, _, rfl, ⟨z11, rfl, w11⟩, _, _, rfl, ⟨z12, rfl, w12⟩, rfl⟩, _, _, rfl, ⟨_, _, rfl, ⟨z13, rfl, w13⟩, _, _, rfl, ⟨z14, rfl, w14⟩, rfl⟩, _, _, rfl, ⟨z15, rfl, w15⟩, rfl⟩, _, _, rfl, ⟨z16, rfl, l16, w16⟩, _, _, rfl, ⟨z17, rfl⟩, _, _, rfl, ⟨z18, rfl, l18, w18⟩, A19, _, rfl, ⟨n19, a19⟩, _, _, rfl, ⟨z20, rfl, w20⟩, _, _, rfl, ⟨z21, rfl, l21, w21⟩, _, _, rfl, ⟨z22, rfl, l22, w22⟩, _, _, rfl, ⟨z23, rfl, l23, w23⟩, rfl⟩ := g
  obtain ⟨kz3, rfl, mz3⟩ := rows74 w3
  obtain ⟨kz4, rfl, mz4⟩ := rows74 w4
  obtain ⟨kz5, rfl, mz5⟩ := rows100 w5
  match A9, n9 with
  | [u9_0, u9_1, u9_2, u9_3], _ =>
    obtain ⟨vu9_0, qu9_0, wu9_0⟩ := a9 u9_0 (by simp)
    cases qu9_0
    obtain ⟨vu9_1, qu9_1, wu9_1⟩ := a9 u9_1 (by simp)
    cases qu9_1
    obtain ⟨vu9_2, qu9_2, wu9_2⟩ := a9 u9_2 (by simp)
    cases qu9_2
    obtain ⟨vu9_3, qu9_3, wu9_3⟩ := a9 u9_3 (by simp)
    cases qu9_3
    match A10, n10 with
    | [u10_0, u10_1, u10_2, u10_3], _ =>
      obtain ⟨vu10_0, qu10_0, wu10_0⟩ := a10 u10_0 (by simp)
      cases qu10_0
      obtain ⟨vu10_1, qu10_1, wu10_1⟩ := a10 u10_1 (by simp)
      cases qu10_1
      obtain ⟨vu10_2, qu10_2, wu10_2⟩ := a10 u10_2 (by simp)
      cases qu10_2
      obtain ⟨vu10_3, qu10_3, wu10_3⟩ := a10 u10_3 (by simp)
      cases qu10_3
      obtain ⟨kz16, rfl, mz16⟩ := rows108 w16
      obtain ⟨kz18, rfl, mz18⟩ := rows74 w18
      match A19, n19 with
      | [u19_0, u19_1, u19_2, u19_3], _ =>
        obtain ⟨vu19_0, qu19_0, wu19_0⟩ := a19 u19_0 (by simp)
        cases qu19_0
        obtain ⟨vu19_1, qu19_1, wu19_1⟩ := a19 u19_1 (by simp)
        cases qu19_1
        obtain ⟨vu19_2, qu19_2, wu19_2⟩ := a19 u19_2 (by simp)
        cases qu19_2
        obtain ⟨vu19_3, qu19_3, wu19_3⟩ := a19 u19_3 (by simp)
        cases qu19_3
        obtain ⟨kz21, rfl, mz21⟩ := rows2 w21
        obtain ⟨kz22, rfl, mz22⟩ := rows74 w22
        obtain ⟨kz23, rfl, mz23⟩ := rows74 w23
        exact ⟨⟨z1, z2, kz3.map W74.cells, kz4.map W74.cells, kz5.map W100.cells, z6, z7, z8, vu9_0, vu9_1, vu9_2, vu9_3, vu10_0, vu10_1, vu10_2, vu10_3, z11, z12, z13, z14, z15, kz16.map W108.cells, z17, kz18.map W74.cells, vu19_0, vu19_1, vu19_2, vu19_3, z20, kz21.map W2.cells, kz22.map W74.cells, kz23.map W74.cells⟩, rfl, ⟨w1, w2, ⟨kz3, rfl, by simpa using l3, mz3⟩, ⟨kz4, rfl, by simpa using l4, mz4⟩, ⟨kz5, rfl, by simpa using l5, mz5⟩, w7, w8, wu9_0, wu9_1, wu9_2, wu9_3, wu10_0, wu10_1, wu10_2, wu10_3, w11, w12, w13, w14, w15, ⟨kz16, rfl, by simpa using l16, mz16⟩, ⟨kz18, rfl, by simpa using l18, mz18⟩, wu19_0, wu19_1, wu19_2, wu19_3, w20, ⟨kz21, rfl, by simpa using l21, mz21⟩, ⟨kz22, rfl, by simpa using l22, mz22⟩, ⟨kz23, rfl, by simpa using l23, mz23⟩⟩⟩
theorem rows34 : ∀ {xs : List (List V)}, (∀ x ∈ xs, x.length = 32 ∧ pred34 x) → ∃ ks : List S34, xs = ks.map S34.cells ∧ ∀ k ∈ ks, P34 k
  | [], _ => ⟨[], rfl, fun k hk => by simp at hk⟩
  | x :: xs, h => by
    obtain ⟨k, rfl, p⟩ := open34 (h x (by simp)).2
    obtain ⟨ks, rfl, q⟩ := rows34 (fun y hy => h y (List.mem_cons_of_mem _ hy))
    exact ⟨k :: ks, rfl, fun k' hk' => by
      rcases List.mem_cons.1 hk' with rfl | hk'
      · exact p
      · exact q k' hk'⟩
end Go.Proofs.YtifalphladcdcaaGreat.H
