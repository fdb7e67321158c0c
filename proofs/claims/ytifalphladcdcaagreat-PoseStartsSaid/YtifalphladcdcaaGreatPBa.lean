/- What the functions compute, and that they do so over the machine of plain values (printed by this session's program wip/vm/Walk.lean). No condition beyond those stated. -/
import Derived.Test.YtifalphladcdcaaGreatWk
import Derived.Test.YtifalphladcdcaaGreatRowsR5Z
set_option linter.unusedVariables false
set_option linter.unusedSimpArgs false
namespace Go.Proofs.YtifalphladcdcaaGreat.H
open Go Go.VM
set_option maxRecDepth 100000
/-! ## types -/
inductive A19 where
  | a0 (a : Int)
@[reducible] def A19.out : A19 → V × Store
  | .a0 a => (i64 a, [])
abbrev E19 : Ent (V × Store) := ⟨A19, A19.out, fun g => ∃ b, g b, fun _ => Iff.rfl⟩
inductive A43 where
  | a0 (a : Int) (d : LV) (f : Int)
@[reducible] def A43.out : A43 → V × Store
  | .a0 a d f => (i64 a, [oF 2 [[lS 1 d, i64 f]]])
abbrev E43 : Ent (V × Store) := ⟨A43, A43.out, fun g => ∃ b, g b, fun _ => Iff.rfl⟩
inductive A47 where
  | a0 (a : Int) (d : LV) (f : Int)
@[reducible] def A47.out : A47 → V × Store
  | .a0 a d f => (i64 a, [oF 2 [[lS 1 d, i64 f]]])
abbrev E47 : Ent (V × Store) := ⟨A47, A47.out, fun g => ∃ b, g b, fun _ => Iff.rfl⟩
inductive A106 where
  | a0 (a d : Int) (f : LV) (i : Int)
@[reducible] def A106.out : A106 → V × Store
  | .a0 a d f i => (V.agg [i64 a, i64 d], [oF 2 [[lS 1 f, i64 i]]])
abbrev E106 : Ent (V × Store) := ⟨A106, A106.out, fun g => ∃ b, g b, fun _ => Iff.rfl⟩
inductive A44 where
  | a0 (a : Bool) (d : Nat) (f : LV) (i : Int) (j : LV)
@[reducible] def A44.out : A44 → V × Store
  | .a0 a d f i j => (V.agg [vb a, hS 1 d], [oF 2 [[lS 1 f, i64 i]], oT 2 j])
abbrev E44 : Ent (V × Store) := ⟨A44, A44.out, fun g => ∃ b, g b, fun _ => Iff.rfl⟩
inductive A107 where
  | a0 (a d f i : Int) (j : LV) (l : Int)
@[reducible] def A107.out : A107 → V × Store
  | .a0 a d f i j l => (V.agg [i64 a, i64 d, i64 f, i64 i], [oF 2 [[lS 1 j, i64 l]]])
abbrev E107 : Ent (V × Store) := ⟨A107, A107.out, fun g => ∃ b, g b, fun _ => Iff.rfl⟩
inductive A45 where
  | a0 (a d f i j : Int) (l : LV) (m : Int)
@[reducible] def A45.out : A45 → V × Store
  | .a0 a d f i j l m => (V.tup [i64 a, V.agg [i64 d, i64 f, i64 i, i64 j]], [oF 2 [[lS 1 l, i64 m]]])
abbrev E45 : Ent (V × Store) := ⟨A45, A45.out, fun g => ∃ b, g b, fun _ => Iff.rfl⟩
inductive A46 where
  | a0 (a : Nat) (d : LV) (f : Int) (i : LV)
@[reducible] def A46.out : A46 → V × Store
  | .a0 a d f i => (hS 1 a, [oF 2 [[lS 1 d, i64 f]], oT 7 i])
abbrev E46 : Ent (V × Store) := ⟨A46, A46.out, fun g => ∃ b, g b, fun _ => Iff.rfl⟩
inductive A49 where
  | a0 (a d f i : Int) (j : LV) (l : Int)
@[reducible] def A49.out : A49 → V × Store
  | .a0 a d f i j l => (V.agg [u8 a, u8 d, u8 f, u8 i], [oF 2 [[lS 1 j, i64 l]]])
abbrev E49 : Ent (V × Store) := ⟨A49, A49.out, fun g => ∃ b, g b, fun _ => Iff.rfl⟩
inductive A48 where
  | a0 (a d f i j l m o p q s t u v : Int) (w : LV) (y : Int)
@[reducible] def A48.out : A48 → V × Store
  | .a0 a d f i j l m o p q s t u v w y => (V.agg [i64 a, u8 d, u8 f, u8 i, u8 j, u8 l, u8 m, u8 o, u8 p, i64 q, i64 s, i64 t, i64 u, i64 v], [oF 2 [[lS 1 w, i64 y]]])
abbrev E48 : Ent (V × Store) := ⟨A48, A48.out, fun g => ∃ b, g b, fun _ => Iff.rfl⟩
inductive A13 where
  | a0 (a d : Int) (f i j : Nat) (l : Bool) (m o p q s t u v w y z d0 d1 d2 d3 : Int) (d4 : Nat) (d5 : Bool) (d6 : Nat) (d7 d8 d9 f0 f1 : Int) (f2 f3 f4 : Nat) (f5 : LV) (f6 : Int) (f7 f8 f9 j0 j1 j2 j3 j4 : LV)
@[reducible] def A13.out : A13 → V × Store
  | .a0 a d f i j l m o p q s t u v w y z d0 d1 d2 d3 d4 d5 d6 d7 d8 d9 f0 f1 f2 f3 f4 f5 f6 f7 f8 f9 j0 j1 j2 j3 j4 => (V.agg [i64 a, i64 d, hS 1 f, hS 2 i, hS 3 j, vb l, i64 m, i64 o, u8 p, u8 q, u8 s, u8 t, u8 u, u8 v, u8 w, u8 y, i64 z, i64 d0, i64 d1, i64 d2, i64 d3, hS 4 d4, vb d5, hS 5 d6, u8 d7, u8 d8, u8 d9, u8 f0, i64 f1, hS 6 f2, hS 7 f3, hS 8 f4], [oF 2 [[lS 1 f5, i64 f6]], oT 7 f7, oT 7 f8, oT 8 f9, oT 10 j0, oT 7 j1, oT 1 j2, oT 7 j3, oT 7 j4])
abbrev E13 : Ent (V × Store) := ⟨A13, A13.out, fun g => ∃ b, g b, fun _ => Iff.rfl⟩
inductive A69 where
  | a0 (a d f i j l m : Int) (o p q s t u v w y : Nat) (z : Bool) (d0 : Nat) (d1 d2 : Int) (d3 d4 d5 : Nat) (d6 : Bool) (d7 d8 d9 f0 f1 f2 f3 f4 f5 f6 f7 f8 f9 j0 j1 : Int) (j2 : Nat) (j3 : Bool) (j4 : Nat) (j5 j6 j7 j8 j9 : Int) (l0 l1 l2 : Nat) (l3 : LV) (l4 : Int) (l5 l6 l7 l8 l9 m0 m1 m2 m3 m4 m5 m6 m7 m8 m9 o0 o1 o2 : LV)
@[reducible] def A69.out : A69 → V × Store
  | .a0 a d f i j l m o p q s t u v w y z d0 d1 d2 d3 d4 d5 d6 d7 d8 d9 f0 f1 f2 f3 f4 f5 f6 f7 f8 f9 j0 j1 j2 j3 j4 j5 j6 j7 j8 j9 l0 l1 l2 l3 l4 l5 l6 l7 l8 l9 m0 m1 m2 m3 m4 m5 m6 m7 m8 m9 o0 o1 o2 => (V.agg [i64 a, i64 d, i64 f, i64 i, i64 j, i64 l, i64 m, hS 1 o, hS 2 p, hS 3 q, hS 4 s, hS 5 t, hS 6 u, hS 7 v, hS 8 w, hS 9 y, vb z, hS 10 d0, i64 d1, i64 d2, hS 11 d3, hS 12 d4, hS 13 d5, vb d6, i64 d7, i64 d8, u8 d9, u8 f0, u8 f1, u8 f2, u8 f3, u8 f4, u8 f5, u8 f6, i64 f7, i64 f8, i64 f9, i64 j0, i64 j1, hS 14 j2, vb j3, hS 15 j4, u8 j5, u8 j6, u8 j7, u8 j8, i64 j9, hS 16 l0, hS 17 l1, hS 18 l2], [oF 2 [[lS 1 l3, i64 l4]], oT 7 l5, oT 7 l6, oT 7 l7, oT 7 l8, oT 7 l9, oT 7 m0, oT 7 m1, oT 7 m2, oT 7 m3, oT 2 m4, oT 7 m5, oT 7 m6, oT 8 m7, oT 10 m8, oT 7 m9, oT 1 o0, oT 7 o1, oT 7 o2])
abbrev E69 : Ent (V × Store) := ⟨A69, A69.out, fun g => ∃ b, g b, fun _ => Iff.rfl⟩
inductive A20 where
  | a0 (a d : Int) (f : Nat) (i : LV)
@[reducible] def A20.out : A20 → V × Store
  | .a0 a d f i => (V.agg [i64 a, i64 d, hS 0 f], [oT 1 i])
abbrev E20 : Ent (V × Store) := ⟨A20, A20.out, fun g => ∃ b, g b, fun _ => Iff.rfl⟩
inductive A133 where
  | a0 (a : Int)
@[reducible] def A133.out : A133 → V × Store
  | .a0 a => (i64 a, [])
abbrev E133 : Ent (V × Store) := ⟨A133, A133.out, fun g => ∃ b, g b, fun _ => Iff.rfl⟩
inductive A136 where
  | a0 (a : Int)
@[reducible] def A136.out : A136 → V × Store
  | .a0 a => (i64 a, [])
abbrev E136 : Ent (V × Store) := ⟨A136, A136.out, fun g => ∃ b, g b, fun _ => Iff.rfl⟩
inductive A187 where
  | a0 (a d : Int)
@[reducible] def A187.out : A187 → V × Store
  | .a0 a d => (V.tup [V.int IntKind.u64 a, V.int IntKind.u64 d], [])
abbrev E187 : Ent (V × Store) := ⟨A187, A187.out, fun g => ∃ b, g b, fun _ => Iff.rfl⟩
inductive A184 where
  | a0 (a d : Int)
@[reducible] def A184.out : A184 → V × Store
  | .a0 a d => (V.tup [V.int IntKind.u64 a, V.int IntKind.u64 d], [])
abbrev E184 : Ent (V × Store) := ⟨A184, A184.out, fun g => ∃ b, g b, fun _ => Iff.rfl⟩
inductive A183 where
  | a0 (a : Int)
@[reducible] def A183.out : A183 → V × Store
  | .a0 a => (i64 a, [])
abbrev E183 : Ent (V × Store) := ⟨A183, A183.out, fun g => ∃ b, g b, fun _ => Iff.rfl⟩
inductive A125 where
  | a0 (a : Int)
@[reducible] def A125.out : A125 → V × Store
  | .a0 a => (i64 a, [])
abbrev E125 : Ent (V × Store) := ⟨A125, A125.out, fun g => ∃ b, g b, fun _ => Iff.rfl⟩
inductive A231 where
  | a0 (a : Int)
@[reducible] def A231.out : A231 → V × Store
  | .a0 a => (i64 a, [])
abbrev E231 : Ent (V × Store) := ⟨A231, A231.out, fun g => ∃ b, g b, fun _ => Iff.rfl⟩
inductive A191 where
  | a0 (a : Int)
@[reducible] def A191.out : A191 → V × Store
  | .a0 a => (i64 a, [])
abbrev E191 : Ent (V × Store) := ⟨A191, A191.out, fun g => ∃ b, g b, fun _ => Iff.rfl⟩
inductive A135 where
  | a0 (a : Int)
@[reducible] def A135.out : A135 → V × Store
  | .a0 a => (i64 a, [])
abbrev E135 : Ent (V × Store) := ⟨A135, A135.out, fun g => ∃ b, g b, fun _ => Iff.rfl⟩
inductive A134 where
  | a0 (a : Int)
@[reducible] def A134.out : A134 → V × Store
  | .a0 a => (i64 a, [])
abbrev E134 : Ent (V × Store) := ⟨A134, A134.out, fun g => ∃ b, g b, fun _ => Iff.rfl⟩
inductive A72 where
  | a0 (a : Int)
@[reducible] def A72.out : A72 → V × Store
  | .a0 a => (i64 a, [])
abbrev E72 : Ent (V × Store) := ⟨A72, A72.out, fun g => ∃ b, g b, fun _ => Iff.rfl⟩
inductive A71 where
  | a0 (a d : Int)
@[reducible] def A71.out : A71 → V × Store
  | .a0 a d => (i64 a, [oF 1 [[i64 d]]])
abbrev E71 : Ent (V × Store) := ⟨A71, A71.out, fun g => ∃ b, g b, fun _ => Iff.rfl⟩
inductive A128 where
  | a0 (a : Int)
@[reducible] def A128.out : A128 → V × Store
  | .a0 a => (i64 a, [])
abbrev E128 : Ent (V × Store) := ⟨A128, A128.out, fun g => ∃ b, g b, fun _ => Iff.rfl⟩
inductive A127 where
  | a0 (a : Int)
@[reducible] def A127.out : A127 → V × Store
  | .a0 a => (i64 a, [])
abbrev E127 : Ent (V × Store) := ⟨A127, A127.out, fun g => ∃ b, g b, fun _ => Iff.rfl⟩
inductive A137 where
  | a0 (a : Int)
@[reducible] def A137.out : A137 → V × Store
  | .a0 a => (i64 a, [])
abbrev E137 : Ent (V × Store) := ⟨A137, A137.out, fun g => ∃ b, g b, fun _ => Iff.rfl⟩
inductive A73 where
  | a0 (a : W59)
@[reducible] def A73.out : A73 → V × Store
  | .a0 a => (V.agg (W59.cells a), [])
abbrev E73 : Ent (V × Store) := ⟨A73, A73.out, fun g => ∃ b, g b, fun _ => Iff.rfl⟩
inductive A21 where
  | a0 (a : W59)
@[reducible] def A21.out : A21 → V × Store
  | .a0 a => (V.agg (W59.cells a), [])
abbrev E21 : Ent (V × Store) := ⟨A21, A21.out, fun g => ∃ b, g b, fun _ => Iff.rfl⟩
inductive A22 where
  | a0 (a : Int)
@[reducible] def A22.out : A22 → V × Store
  | .a0 a => (i64 a, [])
abbrev E22 : Ent (V × Store) := ⟨A22, A22.out, fun g => ∃ b, g b, fun _ => Iff.rfl⟩
inductive A24 where
  | a0 (a : Int)
@[reducible] def A24.out : A24 → V × Store
  | .a0 a => (i64 a, [])
abbrev E24 : Ent (V × Store) := ⟨A24, A24.out, fun g => ∃ b, g b, fun _ => Iff.rfl⟩
inductive A123 where
  | a0 (a d : Int)
@[reducible] def A123.out : A123 → V × Store
  | .a0 a d => (V.agg [i64 a, i64 d], [])
abbrev E123 : Ent (V × Store) := ⟨A123, A123.out, fun g => ∃ b, g b, fun _ => Iff.rfl⟩
inductive A122 where
  | a0 (a : Bool) (d : Nat) (f : LV)
@[reducible] def A122.out : A122 → V × Store
  | .a0 a d f => (V.agg [vb a, hS 0 d], [oT 2 f])
abbrev E122 : Ent (V × Store) := ⟨A122, A122.out, fun g => ∃ b, g b, fun _ => Iff.rfl⟩
inductive A63 where
  | a0 (a : Bool) (d : Nat) (f : LV)
@[reducible] def A63.out : A63 → V × Store
  | .a0 a d f => (V.agg [vb a, hS 0 d], [oT 2 f])
abbrev E63 : Ent (V × Store) := ⟨A63, A63.out, fun g => ∃ b, g b, fun _ => Iff.rfl⟩
inductive A65 where
  | a0 (a : Bool) (d : Nat) (f : LV)
@[reducible] def A65.out : A65 → V × Store
  | .a0 a d f => (V.agg [vb a, hS 0 d], [oT 2 f])
abbrev E65 : Ent (V × Store) := ⟨A65, A65.out, fun g => ∃ b, g b, fun _ => Iff.rfl⟩
inductive A67 where
  | a0 (a : Bool) (d : Nat) (f : LV)
@[reducible] def A67.out : A67 → V × Store
  | .a0 a d f => (V.agg [vb a, hS 0 d], [oT 2 f])
abbrev E67 : Ent (V × Store) := ⟨A67, A67.out, fun g => ∃ b, g b, fun _ => Iff.rfl⟩
inductive A224 where
  | a0 (a : LV)
@[reducible] def A224.out : A224 → V × Store
  | .a0 a => (hS 0 (List.length a), [oT 2 a])
abbrev E224 : Ent (V × Store) := ⟨A224, A224.out, fun g => ∃ b, g b, fun _ => Iff.rfl⟩
inductive A170 where
  | a0 (a : Bool) (d : Nat) (f : LV)
@[reducible] def A170.out : A170 → V × Store
  | .a0 a d f => (V.agg [vb a, hS 0 d], [oT 2 f])
abbrev E170 : Ent (V × Store) := ⟨A170, A170.out, fun g => ∃ b, g b, fun _ => Iff.rfl⟩
inductive A171 where
  | a0 (a : Bool) (d : Nat) (f : LV)
@[reducible] def A171.out : A171 → V × Store
  | .a0 a d f => (V.agg [vb a, hS 0 d], [oT 2 f])
abbrev E171 : Ent (V × Store) := ⟨A171, A171.out, fun g => ∃ b, g b, fun _ => Iff.rfl⟩
inductive A109 where
  | a0 (a : Bool) (d : Nat) (f : LV)
@[reducible] def A109.out : A109 → V × Store
  | .a0 a d f => (V.agg [vb a, hS 0 d], [oT 2 f])
abbrev E109 : Ent (V × Store) := ⟨A109, A109.out, fun g => ∃ b, g b, fun _ => Iff.rfl⟩
inductive A51 where
  | a0 (a : Bool) (d : Nat) (f : LV)
@[reducible] def A51.out : A51 → V × Store
  | .a0 a d f => (V.agg [vb a, hS 0 d], [oT 2 f])
abbrev E51 : Ent (V × Store) := ⟨A51, A51.out, fun g => ∃ b, g b, fun _ => Iff.rfl⟩
inductive A262 where
  | a0 (a : Int)
@[reducible] def A262.out : A262 → V × Store
  | .a0 a => (i64 a, [])
abbrev E262 : Ent (V × Store) := ⟨A262, A262.out, fun g => ∃ b, g b, fun _ => Iff.rfl⟩
inductive A226 where
  | a0 (a : Bool)
@[reducible] def A226.out : A226 → V × Store
  | .a0 a => (vb a, [])
abbrev E226 : Ent (V × Store) := ⟨A226, A226.out, fun g => ∃ b, g b, fun _ => Iff.rfl⟩
inductive A177 where
  | a0 (a : Bool)
@[reducible] def A177.out : A177 → V × Store
  | .a0 a => (vb a, [])
abbrev E177 : Ent (V × Store) := ⟨A177, A177.out, fun g => ∃ b, g b, fun _ => Iff.rfl⟩
inductive A264 where
  | a0 (a d : Int)
@[reducible] def A264.out : A264 → V × Store
  | .a0 a d => (V.agg [i64 a, i64 d], [])
abbrev E264 : Ent (V × Store) := ⟨A264, A264.out, fun g => ∃ b, g b, fun _ => Iff.rfl⟩
inductive A232v1 where
  | a0 (a : Nat) (d : LV)
@[reducible] def A232v1.out : A232v1 → V × Store
  | .a0 a d => (hS 1 a, [Ob.dead, oT 2 d])
abbrev E232v1 : Ent (V × Store) := ⟨A232v1, A232v1.out, fun g => ∃ b, g b, fun _ => Iff.rfl⟩
inductive A232 where
  | a0 (a : Nat) (d : LV)
@[reducible] def A232.out : A232 → V × Store
  | .a0 a d => (hS 0 a, [oT 2 d])
abbrev E232 : Ent (V × Store) := ⟨A232, A232.out, fun g => ∃ b, g b, fun _ => Iff.rfl⟩
inductive A192 where
  | a0 (a : Nat) (d : LV)
@[reducible] def A192.out : A192 → V × Store
  | .a0 a d => (hS 0 a, [oT 2 d])
abbrev E192 : Ent (V × Store) := ⟨A192, A192.out, fun g => ∃ b, g b, fun _ => Iff.rfl⟩
inductive A138 where
  | a0 (a : Bool) (d : Nat) (f : LV)
@[reducible] def A138.out : A138 → V × Store
  | .a0 a d f => (V.agg [vb a, hS 0 d], [oT 2 f])
abbrev E138 : Ent (V × Store) := ⟨A138, A138.out, fun g => ∃ b, g b, fun _ => Iff.rfl⟩
inductive A233 where
  | a0 (a d f i : Int)
@[reducible] def A233.out : A233 → V × Store
  | .a0 a d f i => (V.agg [u8 a, u8 d, u8 f, u8 i], [])
abbrev E233 : Ent (V × Store) := ⟨A233, A233.out, fun g => ∃ b, g b, fun _ => Iff.rfl⟩
inductive A193 where
  | a0 (a d f i : Int)
@[reducible] def A193.out : A193 → V × Store
  | .a0 a d f i => (V.agg [u8 a, u8 d, u8 f, u8 i], [])
abbrev E193 : Ent (V × Store) := ⟨A193, A193.out, fun g => ∃ b, g b, fun _ => Iff.rfl⟩
inductive A198 where
  | a0 (a d : Int)
@[reducible] def A198.out : A198 → V × Store
  | .a0 a d => (V.agg [i64 a, i64 d], [])
abbrev E198 : Ent (V × Store) := ⟨A198, A198.out, fun g => ∃ b, g b, fun _ => Iff.rfl⟩
inductive A147 where
  | a0 (a : Nat) (d : LV)
@[reducible] def A147.out : A147 → V × Store
  | .a0 a d => (hS 0 a, [oT 2 d])
abbrev E147 : Ent (V × Store) := ⟨A147, A147.out, fun g => ∃ b, g b, fun _ => Iff.rfl⟩
inductive A284 where
  | a0 (a : Int)
@[reducible] def A284.out : A284 → V × Store
  | .a0 a => (i64 a, [])
abbrev E284 : Ent (V × Store) := ⟨A284, A284.out, fun g => ∃ b, g b, fun _ => Iff.rfl⟩
inductive A265 where
  | a0 (a : Int)
@[reducible] def A265.out : A265 → V × Store
  | .a0 a => (i64 a, [])
abbrev E265 : Ent (V × Store) := ⟨A265, A265.out, fun g => ∃ b, g b, fun _ => Iff.rfl⟩
inductive A234 where
  | a0 (a : Int)
@[reducible] def A234.out : A234 → V × Store
  | .a0 a => (i64 a, [])
abbrev E234 : Ent (V × Store) := ⟨A234, A234.out, fun g => ∃ b, g b, fun _ => Iff.rfl⟩
inductive A194 where
  | a0 (a d f i j l m o p q s t u v : Int)
@[reducible] def A194.out : A194 → V × Store
  | .a0 a d f i j l m o p q s t u v => (V.agg [i64 a, u8 d, u8 f, u8 i, u8 j, u8 l, u8 m, u8 o, u8 p, i64 q, i64 s, i64 t, i64 u, i64 v], [])
abbrev E194 : Ent (V × Store) := ⟨A194, A194.out, fun g => ∃ b, g b, fun _ => Iff.rfl⟩
inductive A139 where
  | a0 (a : Nat) (d f i j l m o p q s t u v w y z : Int) (d0 : LV)
@[reducible] def A139.out : A139 → V × Store
  | .a0 a d f i j l m o p q s t u v w y z d0 => (V.agg [hS 0 a, i64 d, i64 f, u8 i, u8 j, u8 l, u8 m, u8 o, u8 p, u8 q, u8 s, i64 t, i64 u, i64 v, i64 w, i64 y, i64 z], [oT 2 d0])
abbrev E139 : Ent (V × Store) := ⟨A139, A139.out, fun g => ∃ b, g b, fun _ => Iff.rfl⟩
inductive A235 where
  | a0 (a d : Int)
@[reducible] def A235.out : A235 → V × Store
  | .a0 a d => (V.tup [i64 a, i64 d], [])
abbrev E235 : Ent (V × Store) := ⟨A235, A235.out, fun g => ∃ b, g b, fun _ => Iff.rfl⟩
inductive A285 where
  | a0 (a d : Int)
@[reducible] def A285.out : A285 → V × Store
  | .a0 a d => (V.agg [i64 a, i64 d], [])
abbrev E285 : Ent (V × Store) := ⟨A285, A285.out, fun g => ∃ b, g b, fun _ => Iff.rfl⟩
inductive A267 where
  | a0 (a d f i j : Int)
@[reducible] def A267.out : A267 → V × Store
  | .a0 a d f i j => (V.tup [V.agg [i64 a, i64 d], V.agg [i64 f, i64 i], i64 j], [])
abbrev E267 : Ent (V × Store) := ⟨A267, A267.out, fun g => ∃ b, g b, fun _ => Iff.rfl⟩
inductive A236 where
  | a0 (a : Int)
@[reducible] def A236.out : A236 → V × Store
  | .a0 a => (i64 a, [])
abbrev E236 : Ent (V × Store) := ⟨A236, A236.out, fun g => ∃ b, g b, fun _ => Iff.rfl⟩
inductive A269 where
  | a0 (a : Int)
@[reducible] def A269.out : A269 → V × Store
  | .a0 a => (i64 a, [])
abbrev E269 : Ent (V × Store) := ⟨A269, A269.out, fun g => ∃ b, g b, fun _ => Iff.rfl⟩
inductive A268 where
  | a0 (a d : Int)
@[reducible] def A268.out : A268 → V × Store
  | .a0 a d => (V.agg [i64 a, i64 d], [])
abbrev E268 : Ent (V × Store) := ⟨A268, A268.out, fun g => ∃ b, g b, fun _ => Iff.rfl⟩
inductive A237 where
  | a0 (a : Bool) (d : Nat) (f : LV)
@[reducible] def A237.out : A237 → V × Store
  | .a0 a d f => (V.agg [vb a, hS 0 d], [oT 2 f])
abbrev E237 : Ent (V × Store) := ⟨A237, A237.out, fun g => ∃ b, g b, fun _ => Iff.rfl⟩
inductive A195 where
  | a0 (a : Nat) (d : LV)
@[reducible] def A195.out : A195 → V × Store
  | .a0 a d => (hS 0 a, [oT 2 d])
abbrev E195 : Ent (V × Store) := ⟨A195, A195.out, fun g => ∃ b, g b, fun _ => Iff.rfl⟩
inductive A180 where
  | a0 (a : Int)
@[reducible] def A180.out : A180 → V × Store
  | .a0 a => (i64 a, [])
abbrev E180 : Ent (V × Store) := ⟨A180, A180.out, fun g => ∃ b, g b, fun _ => Iff.rfl⟩
inductive A115 where
  | a0 (a : Bool)
@[reducible] def A115.out : A115 → V × Store
  | .a0 a => (vb a, [])
abbrev E115 : Ent (V × Store) := ⟨A115, A115.out, fun g => ∃ b, g b, fun _ => Iff.rfl⟩
inductive A57 where
  | a0 (a : Bool)
@[reducible] def A57.out : A57 → V × Store
  | .a0 a => (vb a, [])
abbrev E57 : Ent (V × Store) := ⟨A57, A57.out, fun g => ∃ b, g b, fun _ => Iff.rfl⟩
inductive A196 where
  | a0 (a : Nat) (d : LV)
@[reducible] def A196.out : A196 → V × Store
  | .a0 a d => (hS 0 a, [oT 2 d])
abbrev E196 : Ent (V × Store) := ⟨A196, A196.out, fun g => ∃ b, g b, fun _ => Iff.rfl⟩
inductive A238 where
  | a0 (a : Nat) (d : LV)
@[reducible] def A238.out : A238 → V × Store
  | .a0 a d => (hS 0 a, [oT 6 d])
abbrev E238 : Ent (V × Store) := ⟨A238, A238.out, fun g => ∃ b, g b, fun _ => Iff.rfl⟩
inductive A270 where
  | a0 (a d : Int)
@[reducible] def A270.out : A270 → V × Store
  | .a0 a d => (V.tup [i64 a, i64 d], [])
abbrev E270 : Ent (V × Store) := ⟨A270, A270.out, fun g => ∃ b, g b, fun _ => Iff.rfl⟩
inductive A271 where
  | a0 (a d : Int)
@[reducible] def A271.out : A271 → V × Store
  | .a0 a d => (V.agg [i64 a, i64 d], [])
abbrev E271 : Ent (V × Store) := ⟨A271, A271.out, fun g => ∃ b, g b, fun _ => Iff.rfl⟩
inductive A286 where
  | a0 (a d : Int)
@[reducible] def A286.out : A286 → V × Store
  | .a0 a d => (V.agg [i64 a, i64 d], [])
abbrev E286 : Ent (V × Store) := ⟨A286, A286.out, fun g => ∃ b, g b, fun _ => Iff.rfl⟩
inductive A295 where
  | a0 (a : Int)
@[reducible] def A295.out : A295 → V × Store
  | .a0 a => (i64 a, [])
abbrev E295 : Ent (V × Store) := ⟨A295, A295.out, fun g => ∃ b, g b, fun _ => Iff.rfl⟩
inductive A296 where
  | a0 (a : LV)
@[reducible] def A296.out : A296 → V × Store
  | .a0 a => (E, [oT 2 a])
abbrev E296 : Ent (V × Store) := ⟨A296, A296.out, fun g => ∃ b, g b, fun _ => Iff.rfl⟩
inductive A287 where
  | a0 (a : Nat) (d : LV)
@[reducible] def A287.out : A287 → V × Store
  | .a0 a d => (hS 0 a, [oT 2 d])
abbrev E287 : Ent (V × Store) := ⟨A287, A287.out, fun g => ∃ b, g b, fun _ => Iff.rfl⟩
inductive A272 where
  | a0 (a : Bool) (d : Nat) (f i : LV)
@[reducible] def A272.out : A272 → V × Store
  | .a0 a d f i => (V.agg [vb a, hS 1 d], [Ob.cells false true 2 f, oT 2 i])
abbrev E272 : Ent (V × Store) := ⟨A272, A272.out, fun g => ∃ b, g b, fun _ => Iff.rfl⟩
inductive A239 where
  | a0 (a : Bool) (d : Nat) (f : LV)
@[reducible] def A239.out : A239 → V × Store
  | .a0 a d f => (V.agg [vb a, hS 0 d], [oT 2 f])
abbrev E239 : Ent (V × Store) := ⟨A239, A239.out, fun g => ∃ b, g b, fun _ => Iff.rfl⟩
inductive A240 where
  | a0 (a : Nat) (d : LV)
@[reducible] def A240.out : A240 → V × Store
  | .a0 a d => (hS 0 a, [oT 2 d])
abbrev E240 : Ent (V × Store) := ⟨A240, A240.out, fun g => ∃ b, g b, fun _ => Iff.rfl⟩
inductive A197 where
  | a0 (a : Nat) (d : LV)
@[reducible] def A197.out : A197 → V × Store
  | .a0 a d => (hS 0 a, [oT 2 d])
abbrev E197 : Ent (V × Store) := ⟨A197, A197.out, fun g => ∃ b, g b, fun _ => Iff.rfl⟩
inductive A140 where
  | a0 (a : Nat) (d f i j l m o p q s t u v w y z : Int) (d0 : LV)
@[reducible] def A140.out : A140 → V × Store
  | .a0 a d f i j l m o p q s t u v w y z d0 => (V.agg [hS 0 a, i64 d, i64 f, u8 i, u8 j, u8 l, u8 m, u8 o, u8 p, u8 q, u8 s, i64 t, i64 u, i64 v, i64 w, i64 y, i64 z], [oT 2 d0])
abbrev E140 : Ent (V × Store) := ⟨A140, A140.out, fun g => ∃ b, g b, fun _ => Iff.rfl⟩
inductive A75 where
  | a0 (a : Nat) (d : LV)
@[reducible] def A75.out : A75 → V × Store
  | .a0 a d => (hS 0 a, [oT 17 d])
abbrev E75 : Ent (V × Store) := ⟨A75, A75.out, fun g => ∃ b, g b, fun _ => Iff.rfl⟩
inductive A77 where
  | a0 (a : Bool) (d : LV)
@[reducible] def A77.out : A77 → V × Store
  | .a0 a d => (vb a, [oF 1 [[lS 50 d]]])
abbrev E77 : Ent (V × Store) := ⟨A77, A77.out, fun g => ∃ b, g b, fun _ => Iff.rfl⟩
inductive A79 where
  | a0 (a : W59)
@[reducible] def A79.out : A79 → V × Store
  | .a0 a => (V.agg (W59.cells a), [])
abbrev E79 : Ent (V × Store) := ⟨A79, A79.out, fun g => ∃ b, g b, fun _ => Iff.rfl⟩
inductive A27 where
  | a0 (a : W59)
@[reducible] def A27.out : A27 → V × Store
  | .a0 a => (V.agg (W59.cells a), [])
abbrev E27 : Ent (V × Store) := ⟨A27, A27.out, fun g => ∃ b, g b, fun _ => Iff.rfl⟩
inductive A25 where
  | a0 (a : Bool)
@[reducible] def A25.out : A25 → V × Store
  | .a0 a => (vb a, [])
abbrev E25 : Ent (V × Store) := ⟨A25, A25.out, fun g => ∃ b, g b, fun _ => Iff.rfl⟩
inductive A4 where
  | a0 (a : Bool)
@[reducible] def A4.out : A4 → V × Store
  | .a0 a => (vb a, [])
abbrev E4 : Ent (V × Store) := ⟨A4, A4.out, fun g => ∃ b, g b, fun _ => Iff.rfl⟩
/-! ## F19 -/
noncomputable def D19 (f a d : Int) : PT A19 :=
  .test (f ≥ a)
   (fun h0 =>
   .auto 3 <|
   .test (f ≤ d)
    (fun h1 =>
    .ret (.a0 f)
    )
    (fun h1 =>
    .test (w64 (w64 (d - a) + 1) = 0)
     (fun _ => .fail)
     (fun h2 =>
     .test (Int.tmod f (w64 (w64 (d - a) + 1)) < 0)
      (fun h3 =>
      .ret (.a0 (w64 (a + w64 (w64 (w64 (Int.tmod f (w64 (w64 (d - a) + 1)) + d) - a) + 1))))
      )
      (fun h3 =>
      .ret (.a0 (w64 (a + Int.tmod f (w64 (w64 (d - a) + 1)))))
      )
     )
    )
   )
   (fun h0 =>
   .auto 4 <|
   .test (w64 (w64 (d - a) + 1) = 0)
    (fun _ => .fail)
    (fun h1 =>
    .test (Int.tmod f (w64 (w64 (d - a) + 1)) < 0)
     (fun h2 =>
     .ret (.a0 (w64 (a + w64 (w64 (w64 (Int.tmod f (w64 (w64 (d - a) + 1)) + d) - a) + 1))))
     )
     (fun h2 =>
     .ret (.a0 (w64 (a + Int.tmod f (w64 (w64 (d - a) + 1)))))
     )
    )
   )
noncomputable def F19 (a d f : Int) : Option A19 := (D19 a d f).ev some
theorem F19_ok (a d f : Int) : ∀ b, F19 a d f = some b → UU 19 ([i64 a, i64 d, i64 f]) ([]) = some (A19.out b) :=
  fn_ok (E := E19) (L := notIn []) rfl rfl (fun x => by kernel_rfl)
/-! ## F43 -/
noncomputable def D43 (f : Int) (d : LV) (a : Int) : PT A43 :=
  .auto 2 <|
  .test (a ≥ (↑(List.length d) : Int))
   (fun h0 =>
   .ret (.a0 0 d a)
   )
   (fun h0 =>
   .auto 4 <|
   .test (0 ≤ w64 (w64 (a + 1) - 1))
    (fun h1 =>
    .look RW3 (d[Int.toNat (w64 (w64 (a + (1 : Int)) - (1 : Int)))]?) fun i =>
    .ask E19 (F19_ok i.c0 0 1073741824) fun (r : A19) => match r with
    | .a0 j =>
     .test (f = 0)
      (fun _ => .fail)
      (fun h2 =>
      .ret (.a0 (Int.tmod j f) d (w64 (a + 1)))
      )
    )
    (fun _ => .fail)
   )
noncomputable def F43 (a : Int) (d : LV) (f : Int) : Option A43 := (D43 a d f).ev some
theorem F43_ok (a : Int) (d : LV) (f : Int) : ∀ b, F43 a d f = some b → UU 43 ([pT 0, i64 a]) ([oF 2 [[lS 1 d, i64 f]]]) = some (A43.out b) :=
  fn_ok (E := E43) (L := notIn []) rfl rfl (fun x => by kernel_rfl)
/-! ## F47 -/
noncomputable def D47 (a l : Int) (m : LV) (o : Int) : PT A47 :=
  .ask E43 (F43_ok (w64 (w64 (l - a) + 1)) m o) fun (r : A43) => match r with
  | .a0 d p q =>
   .ask E43 (F43_ok 4 p q) fun (r : A43) => match r with
   | .a0 j f i =>
    .testB (j == 0)
     (fun h0 =>
     .ret (.a0 (w64 (w64 (w64 (a + d) * 65536) + 32768)) f i)
     )
     (fun h0 =>
     .testB (j == 1)
      (fun h1 =>
      .ask E43 (F43_ok 65536 f i) fun (r : A43) => match r with
      | .a0 s t u =>
       .ret (.a0 (w64 (w64 (w64 (a + d) * 65536) + s)) t u)
      )
      (fun h1 =>
      .ret (.a0 (w64 (w64 (a + d) * 65536)) f i)
      )
     )
noncomputable def F47 (a d : Int) (f : LV) (i : Int) : Option A47 := (D47 a d f i).ev some
theorem F47_ok (a d : Int) (f : LV) (i : Int) : ∀ b, F47 a d f i = some b → UU 47 ([pT 0, i64 a, i64 d]) ([oF 2 [[lS 1 f, i64 i]]]) = some (A47.out b) :=
  fn_ok (E := E47) (L := notIn []) rfl rfl (fun x => by kernel_rfl)
/-! ## F106 -/
noncomputable def D106 (a d : Int) (f : LV) (i : Int) : PT A106 :=
  .ask E47 (F47_ok a d f i) fun (r : A47) => match r with
  | .a0 j l m =>
   .ask E47 (F47_ok a d l m) fun (r : A47) => match r with
   | .a0 o p q =>
    .auto 1 <|
    .ret (.a0 j o p q)
noncomputable def F106 (a d : Int) (f : LV) (i : Int) : Option A106 := (D106 a d f i).ev some
theorem F106_ok (a d : Int) (f : LV) (i : Int) : ∀ b, F106 a d f i = some b → UU 106 ([pT 0, i64 a, i64 d]) ([oF 2 [[lS 1 f, i64 i]]]) = some (A106.out b) :=
  fn_ok (E := E106) (L := notIn []) rfl rfl (fun x => by kernel_rfl)
/-! ## F44 -/
noncomputable abbrev B44 : Code := (Tryz.f44.body).getD .skip
inductive T44_0s0 where
  | mk (a d : Int) (f : LV) (i : Int) (j : Bool) (l : Nat) (m : LV)
inductive T44_0e0 where
  | mk (a : LV) (d : Int) (f : Bool) (i : Nat) (j : LV)
inductive N44_0 where
  | s0 (x : T44_0s0)
  | e0 (x : T44_0e0)
@[reducible] def N44_0.out : N44_0 → VX × S
  | .s0 (.mk a d f i j l m) => (vN, S.mk (pT 0 :: i64 a :: un 4 (pT 1 :: pT 2 :: i64 d :: un 44 [])) [oF 2 [[lS 1 f, i64 i]], oF 2 [[vb false, hS 3 0]], oF 2 [[vb j, hS 4 l]], oT 2 [], oT 2 m])
  | .e0 (.mk o p q s t) => (vX 0, S.mk (un 6 (pT 1 :: pT 2 :: un 45 [])) [oF 2 [[lS 1 o, i64 p]], oF 2 [[vb false, hS 3 0]], oF 2 [[vb q, hS 4 s]], oT 2 [], oT 2 t])
abbrev E44_0 : Ent (VX × S) := ⟨N44_0, N44_0.out, fun g => (∃ x, g (.s0 x)) ∨ (∃ x, g (.e0 x)), fun g => ⟨fun h => match h with
  | .inl ⟨_, h⟩ => ⟨_, h⟩
  | .inr (⟨_, h⟩) => ⟨_, h⟩, fun ⟨b, h⟩ => match b, h with
  | .s0 _, h => .inl ⟨_, h⟩
  | .e0 _, h => .inr (⟨_, h⟩)⟩⟩
noncomputable def D44_0 : T44_0s0 → PT N44_0
  | .mk f i o p j a d =>
   .test (i < f)
    (fun h0 =>
    .auto 2 <|
    .test (0 ≤ w64 ((↑a : Int) - 1) ∧ w64 ((↑a : Int) - 1) < (↑a : Int))
     (fun h1 =>
     .look RW28 (d[(0 : Nat) + Int.toNat (w64 ((↑a : Int) - (1 : Int)))]?) fun q =>
     .ask E106 (F106_ok (-2) 14 o p) fun (r : A106) => match r with
     | .a0 l m u v =>
      .auto 2 <|
      .ask E43 (F43_ok 2 u v) fun (r : A43) => match r with
      | .a0 w s t =>
       .testB (w == 0)
        (fun h2 =>
        .auto 5 <|
        .test (0 + a ≤ List.length d ∧ (a + 3) * 16 ≤ 140737488355328 ∧ a + 3 ≤ 140737488355328)
         (fun h3 =>
         .auto 1 <|
         .ret (.s0 (.mk f (w64 (i + 1)) s t j (a + 3) (List.take a d ++ [[i64 q.c0, i64 q.c1], [i64 l, i64 m], [i64 l, i64 m]])))
         )
         (fun _ => .fail)
        )
        (fun h2 =>
        .auto 1 <|
        .ask E106 (F106_ok (-2) 14 s t) fun (r : A106) => match r with
        | .a0 y z d0 d1 =>
         .ask E106 (F106_ok (-2) 14 d0 d1) fun (r : A106) => match r with
         | .a0 d2 d3 d4 d5 =>
          .auto 2 <|
          .test (0 + a ≤ List.length d ∧ (a + 3) * 16 ≤ 140737488355328 ∧ a + 3 ≤ 140737488355328)
           (fun h3 =>
           .auto 1 <|
           .ret (.s0 (.mk f (w64 (i + 1)) d4 d5 j (a + 3) (List.take a d ++ [[i64 y, i64 z], [i64 d2, i64 d3], [i64 l, i64 m]])))
           )
           (fun _ => .fail)
        )
     )
     (fun _ => .fail)
    )
    (fun h0 =>
    .ret (.e0 (.mk o p j a d))
    )
noncomputable def S44_0 : N44_0 → PT N44_0
  | .s0 x => D44_0 x
  | _ => .fail
def N44_0.off : N44_0 → Bool
  | .s0 _ => false
  | _ => true
noncomputable def L44_0 (n : Nat) (b : N44_0) : Option N44_0 := PT.loop S44_0 N44_0.off n b
theorem L44_0_ok : ∀ (n : Nat) (b : N44_0), N44_0.off b = false → ∀ c, L44_0 n b = some c → loopP Tryz.prog X CC 44 1 18446744073709551616 B44 0 n (E44_0.out b).2 = some (E44_0.out c) :=
  loop_ok (E := E44_0) (step := S44_0) (L := notIn []) (fun b hb => by cases b <;> first | (cases hb; done) | (rename_i x; cases x; intro x; kernel_rfl) | (intro x; kernel_rfl)) (fun b => by cases b <;> rfl)
noncomputable def N44_0.nx (n : Nat) (c : N44_0) : Option N44_0 := match N44_0.off c with
  | true => some c
  | false => L44_0 n c
theorem L44_0_s0 (n : Nat) (x : T44_0s0) : L44_0 (n + 1) (.s0 x) = (D44_0 x).ev (N44_0.nx n) := rfl
theorem N44_0.nx_s0 (n : Nat) (x : T44_0s0) : N44_0.nx n (.s0 x) = L44_0 n (.s0 x) := rfl
theorem N44_0.nx_e0 (n : Nat) (x : T44_0e0) : N44_0.nx n (.e0 x) = some (.e0 x) := rfl
noncomputable def D44 (a : Int) (d : Bool) (f : LV) (i : Int) : PT A44 :=
  .ask E106 (F106_ok (-2) 14 f i) fun (r : A106) => match r with
  | .a0 j l m o =>
   .auto 1 <|
   .cut E44_0 (L44_0_ok 18446744073709551616 (.s0 (.mk a 0 m o d 1 ([[i64 j, i64 l]]))) rfl) fun (r : N44_0) => match r with
   | .e0 (.mk p q s t u) =>
    .auto 2 <|
    .ret (.a0 s t p q u)
   | _ => .fail
noncomputable def F44 (a : Int) (d : Bool) (f : LV) (i : Int) : Option A44 := (D44 a d f i).ev some
theorem F44_ok (a : Int) (d : Bool) (f : LV) (i : Int) : ∀ b, F44 a d f i = some b → UU 44 ([pT 0, i64 a, vb d]) ([oF 2 [[lS 1 f, i64 i]]]) = some (A44.out b) :=
  fn_ok (E := E44) (L := notIn []) rfl rfl (fun x => by kernel_rfl)
/-! ## F107 -/
noncomputable def D107 (a : LV) (d : Int) : PT A107 :=
  .ask E43 (F43_ok 65537 a d) fun (r : A43) => match r with
  | .a0 f i j =>
   .ask E47 (F47_ok (-1) 1 i j) fun (r : A47) => match r with
   | .a0 l m o =>
    .ask E43 (F43_ok 65537 m o) fun (r : A43) => match r with
    | .a0 p q s =>
     .ask E47 (F47_ok 0 2 q s) fun (r : A47) => match r with
     | .a0 t u v =>
      .auto 1 <|
      .ret (.a0 f l p t u v)
noncomputable def F107 (a : LV) (d : Int) : Option A107 := (D107 a d).ev some
theorem F107_ok (a : LV) (d : Int) : ∀ b, F107 a d = some b → UU 107 ([pT 0]) ([oF 2 [[lS 1 a, i64 d]]]) = some (A107.out b) :=
  fn_ok (E := E107) (L := notIn []) rfl rfl (fun x => by kernel_rfl)
/-! ## F45 -/
noncomputable def D45 (i : LV) (j : Int) : PT A45 :=
  .ask E43 (F43_ok 4 i j) fun (r : A43) => match r with
  | .a0 f a d =>
   .testB (f == 0)
    (fun h0 =>
    .auto 1 <|
    .ret (.a0 0 0 0 0 0 a d)
    )
    (fun h0 =>
    .testB (f == 1)
     (fun h1 =>
     .ask E107 (F107_ok a d) fun (r : A107) => match r with
     | .a0 l m o p q s =>
      .auto 1 <|
      .ret (.a0 2 l m o p q s)
     )
     (fun h1 =>
     .auto 1 <|
     .ret (.a0 1 0 0 0 0 a d)
     )
    )
noncomputable def F45 (a : LV) (d : Int) : Option A45 := (D45 a d).ev some
theorem F45_ok (a : LV) (d : Int) : ∀ b, F45 a d = some b → UU 45 ([pT 0]) ([oF 2 [[lS 1 a, i64 d]]]) = some (A45.out b) :=
  fn_ok (E := E45) (L := notIn []) rfl rfl (fun x => by kernel_rfl)
/-! ## F46 -/
noncomputable abbrev B46 : Code := (Tryz.f46.body).getD .skip
inductive T46_0s0 where
  | mk (a d : Int) (f : Nat) (i j : Int) (l : LV) (m : Int) (o : LV)
inductive T46_0e0 where
  | mk (a : Nat) (d : LV) (f : Int) (i : LV)
inductive N46_0 where
  | s0 (x : T46_0s0)
  | e0 (x : T46_0e0)
@[reducible] def N46_0.out : N46_0 → VX × S
  | .s0 (.mk a d f i j l m o) => (vN, S.mk (pT 0 :: i64 a :: i64 d :: un 4 (hS 1 f :: i64 i :: i64 j :: un 32 [])) [oF 2 [[lS 1 l, i64 m]], oT 7 o])
  | .e0 (.mk p q s t) => (vX 0, S.mk (un 7 (hS 1 p :: un 34 [])) [oF 2 [[lS 1 q, i64 s]], oT 7 t])
abbrev E46_0 : Ent (VX × S) := ⟨N46_0, N46_0.out, fun g => (∃ x, g (.s0 x)) ∨ (∃ x, g (.e0 x)), fun g => ⟨fun h => match h with
  | .inl ⟨_, h⟩ => ⟨_, h⟩
  | .inr (⟨_, h⟩) => ⟨_, h⟩, fun ⟨b, h⟩ => match b, h with
  | .s0 _, h => .inl ⟨_, h⟩
  | .e0 _, h => .inr (⟨_, h⟩)⟩⟩
noncomputable def D46_0 : T46_0s0 → PT N46_0
  | .mk f i a j l m o d =>
   .test (l > 0)
    (fun h0 =>
    .ask E47 (F47_ok f i m o) fun (r : A47) => match r with
    | .a0 p q s =>
     .auto 1 <|
     .ask E45 (F45_ok q s) fun (r : A45) => match r with
     | .a0 t u v w y z d0 =>
      .auto 4 <|
      .test (0 + a ≤ List.length d ∧ (a + 1) * 56 ≤ 140737488355328 ∧ a + 1 ≤ 140737488355328)
       (fun h1 =>
       .ask E43 (F43_ok 8 z d0) fun (r : A43) => match r with
       | .a0 d1 d2 d3 =>
        .ret (.s0 (.mk f i (a + 1) (w64 (w64 (j + 1) + d1)) (w64 (l - 1)) d2 d3 (List.take a d ++ [[i64 j, i64 p, i64 t, i64 u, i64 v, i64 w, i64 y]])))
       )
       (fun _ => .fail)
    )
    (fun h0 =>
    .ret (.e0 (.mk a m o d))
    )
noncomputable def S46_0 : N46_0 → PT N46_0
  | .s0 x => D46_0 x
  | _ => .fail
def N46_0.off : N46_0 → Bool
  | .s0 _ => false
  | _ => true
noncomputable def L46_0 (n : Nat) (b : N46_0) : Option N46_0 := PT.loop S46_0 N46_0.off n b
theorem L46_0_ok : ∀ (n : Nat) (b : N46_0), N46_0.off b = false → ∀ c, L46_0 n b = some c → loopP Tryz.prog X CC 46 1 18446744073709551616 B46 0 n (E46_0.out b).2 = some (E46_0.out c) :=
  loop_ok (E := E46_0) (step := S46_0) (L := notIn []) (fun b hb => by cases b <;> first | (cases hb; done) | (rename_i x; cases x; intro x; kernel_rfl) | (intro x; kernel_rfl)) (fun b => by cases b <;> rfl)
noncomputable def N46_0.nx (n : Nat) (c : N46_0) : Option N46_0 := match N46_0.off c with
  | true => some c
  | false => L46_0 n c
theorem L46_0_s0 (n : Nat) (x : T46_0s0) : L46_0 (n + 1) (.s0 x) = (D46_0 x).ev (N46_0.nx n) := rfl
theorem N46_0.nx_s0 (n : Nat) (x : T46_0s0) : N46_0.nx n (.s0 x) = L46_0 n (.s0 x) := rfl
theorem N46_0.nx_e0 (n : Nat) (x : T46_0e0) : N46_0.nx n (.e0 x) = some (.e0 x) := rfl
noncomputable def D46 (a d : Int) (f : LV) (i : Int) : PT A46 :=
  .ask E43 (F43_ok 6 f i) fun (r : A43) => match r with
  | .a0 j l m =>
   .ask E43 (F43_ok 4 l m) fun (r : A43) => match r with
   | .a0 o p q =>
    .cut E46_0 (L46_0_ok 18446744073709551616 (.s0 (.mk a d 0 j o p q ([]))) rfl) fun (r : N46_0) => match r with
    | .e0 (.mk s t u v) =>
     .ret (.a0 s t u v)
    | _ => .fail
noncomputable def F46 (a d : Int) (f : LV) (i : Int) : Option A46 := (D46 a d f i).ev some
theorem F46_ok (a d : Int) (f : LV) (i : Int) : ∀ b, F46 a d f i = some b → UU 46 ([pT 0, i64 a, i64 d]) ([oF 2 [[lS 1 f, i64 i]]]) = some (A46.out b) :=
  fn_ok (E := E46) (L := notIn []) rfl rfl (fun x => by kernel_rfl)
/-! ## F49 -/
noncomputable def D49 (d : LV) (f : Int) : PT A49 :=
  .ask E43 (F43_ok 256 d f) fun (r : A43) => match r with
  | .a0 i j l =>
   .ask E43 (F43_ok 256 j l) fun (r : A43) => match r with
   | .a0 m o p =>
    .ask E43 (F43_ok 256 o p) fun (r : A43) => match r with
    | .a0 q s t =>
     .ask E43 (F43_ok 256 s t) fun (r : A43) => match r with
     | .a0 u v w =>
      .ask E43 (F43_ok 4 v w) fun (r : A43) => match r with
      | .a0 a y z =>
       .test (0 ≤ a ∧ a < 4)
        (fun h0 =>
        .look RW5 ([[u8 (255 : Int)], [u8 (255 : Int)], [u8 (128 : Int)], [u8 (IntKind.wrap IntKind.u8 u)]][(0 : Nat) + Int.toNat a]?) fun d0 =>
        .auto 1 <|
        .ret (.a0 (IntKind.wrap IntKind.u8 i) (IntKind.wrap IntKind.u8 m) (IntKind.wrap IntKind.u8 q) d0.c0 y z)
        )
        (fun _ => .fail)
noncomputable def F49 (a : LV) (d : Int) : Option A49 := (D49 a d).ev some
theorem F49_ok (a : LV) (d : Int) : ∀ b, F49 a d = some b → UU 49 ([pT 0]) ([oF 2 [[lS 1 a, i64 d]]]) = some (A49.out b) :=
  fn_ok (E := E49) (L := notIn []) rfl rfl (fun x => by kernel_rfl)
/-! ## F48 -/
noncomputable def D48 (t : LV) (u : Int) : PT A48 :=
  .ask E43 (F43_ok 3 t u) fun (r : A43) => match r with
  | .a0 a v w =>
   .ask E49 (F49_ok v w) fun (r : A49) => match r with
   | .a0 d f i j y z =>
    .ask E49 (F49_ok y z) fun (r : A49) => match r with
    | .a0 l m o p q s =>
     .auto 2 <|
     .testB (a != 0)
      (fun h0 =>
      .ask E106 (F106_ok (-4) 12 q s) fun (r : A106) => match r with
      | .a0 d0 d1 d2 d3 =>
       .ask E106 (F106_ok (-4) 12 d2 d3) fun (r : A106) => match r with
       | .a0 d4 d5 d6 d7 =>
        .ask E47 (F47_ok 0 12 d6 d7) fun (r : A47) => match r with
        | .a0 d8 d9 f0 =>
         .auto 5 <|
         .ret (.a0 a d f i j l m o p d0 d1 d4 d5 d8 d9 f0)
      )
      (fun h0 =>
      .auto 2 <|
      .ret (.a0 a d f i j l m o p 0 0 0 0 0 q s)
      )
noncomputable def F48 (a : LV) (d : Int) : Option A48 := (D48 a d).ev some
theorem F48_ok (a : LV) (d : Int) : ∀ b, F48 a d = some b → UU 48 ([pT 0]) ([oF 2 [[lS 1 a, i64 d]]]) = some (A48.out b) :=
  fn_ok (E := E48) (L := notIn []) rfl rfl (fun x => by kernel_rfl)
/-! ## F13 -/
noncomputable abbrev B13 : Code := (Tryz.f13.body).getD .skip
inductive T13_2s0 where
  | mk (a : Int) (d : LV) (f i j : Int) (l m o : Nat) (p : Bool) (q s t u v w y z d0 d1 d2 d3 d4 d5 d6 : Int) (d7 : Nat) (d8 : Bool) (d9 : Nat) (f0 f1 f2 f3 f4 : Int) (f5 : Nat) (f6 f7 f8 f9 j0 j1 : LV)
inductive T13_2e0 where
  | mk (a : LV) (d f i : Int) (j l m : Nat) (o : Bool) (p q s t u v w y z d0 d1 d2 d3 d4 d5 : Int) (d6 : Nat) (d7 : Bool) (d8 : Nat) (d9 f0 f1 f2 f3 : Int) (f4 : Nat) (f5 f6 f7 f8 f9 j0 : LV)
inductive N13_2 where
  | s0 (x : T13_2s0)
  | e0 (x : T13_2e0)
@[reducible] def N13_2.out : N13_2 → VX × S
  | .s0 (.mk a d f i j l m o p q s t u v w y z d0 d1 d2 d3 d4 d5 d6 d7 d8 d9 f0 f1 f2 f3 f4 f5 f6 f7 f8 f9 j0 j1) => (vN, S.mk (pT 0 :: U :: pT 1 :: pT 2 :: un 5 (i64 a :: un 145 [])) [oF 2 [[lS 1 d, i64 f]], oF 32 [[i64 0, i64 0, hS 3 0, hS 4 0, hS 5 0, vb false, i64 0, i64 0, u8 0, u8 0, u8 0, u8 0, u8 0, u8 0, u8 0, u8 0, i64 0, i64 0, i64 0, i64 0, i64 0, hS 6 0, vb false, hS 7 0, u8 0, u8 0, u8 0, u8 0, i64 0, hS 8 0, hS 9 0, hS 10 0]], oF 32 [[i64 i, i64 j, hS 11 l, hS 12 m, hS 13 o, vb p, i64 q, i64 s, u8 t, u8 u, u8 v, u8 w, u8 y, u8 z, u8 d0, u8 d1, i64 d2, i64 d3, i64 d4, i64 d5, i64 d6, hS 14 d7, vb d8, hS 15 d9, u8 f0, u8 f1, u8 f2, u8 f3, i64 f4, hS 16 f5, hS 17 0, hS 18 0]], oT 7 [], oT 7 [], oT 8 [], oT 10 [], oT 7 [], oT 1 [], oT 7 [], oT 7 [], oT 7 f6, oT 7 f7, oT 8 f8, oT 10 f9, oT 7 j0, oT 1 j1, oT 7 [], oT 7 []])
  | .e0 (.mk j2 j3 j4 j5 j6 j7 j8 j9 l0 l1 l2 l3 l4 l5 l6 l7 l8 l9 m0 m1 m2 m3 m4 m5 m6 m7 m8 m9 o0 o1 o2 o3 o4 o5 o6 o7 o8 o9) => (vX 2, S.mk (pT 0 :: U :: pT 1 :: pT 2 :: un 151 []) [oF 2 [[lS 1 j2, i64 j3]], oF 32 [[i64 0, i64 0, hS 3 0, hS 4 0, hS 5 0, vb false, i64 0, i64 0, u8 0, u8 0, u8 0, u8 0, u8 0, u8 0, u8 0, u8 0, i64 0, i64 0, i64 0, i64 0, i64 0, hS 6 0, vb false, hS 7 0, u8 0, u8 0, u8 0, u8 0, i64 0, hS 8 0, hS 9 0, hS 10 0]], oF 32 [[i64 j4, i64 j5, hS 11 j6, hS 12 j7, hS 13 j8, vb j9, i64 l0, i64 l1, u8 l2, u8 l3, u8 l4, u8 l5, u8 l6, u8 l7, u8 l8, u8 l9, i64 m0, i64 m1, i64 m2, i64 m3, i64 m4, hS 14 m5, vb m6, hS 15 m7, u8 m8, u8 m9, u8 o0, u8 o1, i64 o2, hS 16 o3, hS 17 0, hS 18 0]], oT 7 [], oT 7 [], oT 8 [], oT 10 [], oT 7 [], oT 1 [], oT 7 [], oT 7 [], oT 7 o4, oT 7 o5, oT 8 o6, oT 10 o7, oT 7 o8, oT 1 o9, oT 7 [], oT 7 []])
abbrev E13_2 : Ent (VX × S) := ⟨N13_2, N13_2.out, fun g => (∃ x, g (.s0 x)) ∨ (∃ x, g (.e0 x)), fun g => ⟨fun h => match h with
  | .inl ⟨_, h⟩ => ⟨_, h⟩
  | .inr (⟨_, h⟩) => ⟨_, h⟩, fun ⟨b, h⟩ => match b, h with
  | .s0 _, h => .inl ⟨_, h⟩
  | .e0 _, h => .inr (⟨_, h⟩)⟩⟩
noncomputable def D13_2 : T13_2s0 → PT N13_2
  | .mk f i j l m o p q s t u v w y z d0 d1 d2 d3 d4 d5 d6 d7 d8 d9 f0 f1 f2 f3 f4 f5 f6 a f7 f8 f9 j0 j1 d =>
   .test (f > 0)
    (fun h0 =>
    .auto 1 <|
    .ask E47 (F47_ok 1 5 i j) fun (r : A47) => match r with
    | .a0 j2 j3 j4 =>
     .auto 1 <|
     .test (0 + a ≤ List.length d ∧ (a + 1) * 8 ≤ 140737488355328 ∧ a + 1 ≤ 140737488355328)
      (fun h1 =>
      .auto 1 <|
      .ret (.s0 (.mk (w64 (f - 1)) j3 j4 l m o p q s t u v w y z d0 d1 d2 d3 d4 d5 d6 d7 d8 d9 f0 f1 f2 f3 f4 f5 f6 (a + 1) f7 f8 f9 j0 j1 (List.take a d ++ [[i64 j2]])))
      )
      (fun _ => .fail)
    )
    (fun h0 =>
    .ret (.e0 (.mk i j l m o p q s t u v w y z d0 d1 d2 d3 d4 d5 d6 d7 d8 d9 f0 f1 f2 f3 f4 f5 f6 a f7 f8 f9 j0 j1 d))
    )
noncomputable def S13_2 : N13_2 → PT N13_2
  | .s0 x => D13_2 x
  | _ => .fail
def N13_2.off : N13_2 → Bool
  | .s0 _ => false
  | _ => true
noncomputable def L13_2 (n : Nat) (b : N13_2) : Option N13_2 := PT.loop S13_2 N13_2.off n b
theorem L13_2_ok : ∀ (n : Nat) (b : N13_2), N13_2.off b = false → ∀ c, L13_2 n b = some c → loopP Tryz.prog X CC 13 1 18446744073709551616 B13 2 n (E13_2.out b).2 = some (E13_2.out c) :=
  loop_ok (E := E13_2) (step := S13_2) (L := notIn []) (fun b hb => by cases b <;> first | (cases hb; done) | (rename_i x; cases x; intro x; kernel_rfl) | (intro x; kernel_rfl)) (fun b => by cases b <;> rfl)
noncomputable def N13_2.nx (n : Nat) (c : N13_2) : Option N13_2 := match N13_2.off c with
  | true => some c
  | false => L13_2 n c
theorem L13_2_s0 (n : Nat) (x : T13_2s0) : L13_2 (n + 1) (.s0 x) = (D13_2 x).ev (N13_2.nx n) := rfl
theorem N13_2.nx_s0 (n : Nat) (x : T13_2s0) : N13_2.nx n (.s0 x) = L13_2 n (.s0 x) := rfl
theorem N13_2.nx_e0 (n : Nat) (x : T13_2e0) : N13_2.nx n (.e0 x) = some (.e0 x) := rfl
inductive T13_r21s0 where
  | mk (a : LV) (d f i : Int) (j l m : Nat) (o : Bool) (p q s t u v w y z d0 d1 d2 d3 d4 d5 : Int) (d6 : Nat) (d7 d8 d9 f0 : LV)
@[reducible] def T13_r21s0.st : T13_r21s0 → S
  | .mk a d f i j l m o p q s t u v w y z d0 d1 d2 d3 d4 d5 d6 d7 d8 d9 f0 => S.mk (pT 0 :: U :: pT 1 :: pT 2 :: un 151 []) [oF 2 [[lS 1 a, i64 d]], oF 32 [[i64 0, i64 0, hS 3 0, hS 4 0, hS 5 0, vb false, i64 0, i64 0, u8 0, u8 0, u8 0, u8 0, u8 0, u8 0, u8 0, u8 0, i64 0, i64 0, i64 0, i64 0, i64 0, hS 6 0, vb false, hS 7 0, u8 0, u8 0, u8 0, u8 0, i64 0, hS 8 0, hS 9 0, hS 10 0]], oF 32 [[i64 f, i64 i, hS 11 j, hS 12 l, hS 13 m, vb o, i64 p, i64 q, u8 s, u8 t, u8 u, u8 v, u8 w, u8 y, u8 z, u8 d0, i64 d1, i64 d2, i64 d3, i64 d4, i64 d5, hS 14 d6, vb false, hS 15 0, u8 0, u8 0, u8 0, u8 0, i64 0, hS 16 0, hS 17 0, hS 18 0]], oT 7 [], oT 7 [], oT 8 [], oT 10 [], oT 7 [], oT 1 [], oT 7 [], oT 7 [], oT 7 d7, oT 7 d8, oT 8 d9, oT 10 f0, oT 7 [], oT 1 [], oT 7 [], oT 7 []]
inductive T13_r21e0 where
  | mk (a : LV) (d f i : Int) (j l m : Nat) (o : Bool) (p q s t u v w y z d0 d1 d2 d3 d4 d5 : Int) (d6 : Nat) (d7 : Bool) (d8 d9 f0 f1 : LV)
inductive N13_r21 where
  | e0 (x : T13_r21e0)
@[reducible] def N13_r21.out : N13_r21 → VX × S
  | .e0 (.mk a d f i j l m o p q s t u v w y z d0 d1 d2 d3 d4 d5 d6 d7 d8 d9 f0 f1) => (vN, S.mk (pT 0 :: U :: pT 1 :: pT 2 :: un 151 []) [oF 2 [[lS 1 a, i64 d]], oF 32 [[i64 0, i64 0, hS 3 0, hS 4 0, hS 5 0, vb false, i64 0, i64 0, u8 0, u8 0, u8 0, u8 0, u8 0, u8 0, u8 0, u8 0, i64 0, i64 0, i64 0, i64 0, i64 0, hS 6 0, vb false, hS 7 0, u8 0, u8 0, u8 0, u8 0, i64 0, hS 8 0, hS 9 0, hS 10 0]], oF 32 [[i64 f, i64 i, hS 11 j, hS 12 l, hS 13 m, vb o, i64 p, i64 q, u8 s, u8 t, u8 u, u8 v, u8 w, u8 y, u8 z, u8 d0, i64 d1, i64 d2, i64 d3, i64 d4, i64 d5, hS 14 d6, vb d7, hS 15 0, u8 0, u8 0, u8 0, u8 0, i64 0, hS 16 0, hS 17 0, hS 18 0]], oT 7 [], oT 7 [], oT 8 [], oT 10 [], oT 7 [], oT 1 [], oT 7 [], oT 7 [], oT 7 d8, oT 7 d9, oT 8 f0, oT 10 f1, oT 7 [], oT 1 [], oT 7 [], oT 7 []])
abbrev E13_r21 : Ent (VX × S) := ⟨N13_r21, N13_r21.out, fun g => (∃ x, g (.e0 x)), fun g => ⟨fun h => match h with
  | ⟨_, h⟩ => ⟨_, h⟩, fun ⟨b, h⟩ => match b, h with
  | .e0 _, h => ⟨_, h⟩⟩⟩
noncomputable def D13_r21 : T13_r21s0 → PT N13_r21
  | .mk f1 f2 d f i j l a m o p q s t u v w y z d0 d1 d2 d3 d4 d5 d6 d7 d8 =>
   .ask E43 (F43_ok 3 f1 f2) fun (r : A43) => match r with
   | .a0 f3 d9 f0 =>
    .testB (f3 == 0)
     (fun h0 =>
     .auto 4 <|
     .ret (.e0 (.mk d9 f0 d f i j l a m o p q s t u v w y z d0 d1 d2 d3 d4 true d5 d6 d7 d8))
     )
     (fun h0 =>
     .auto 5 <|
     .ret (.e0 (.mk d9 f0 d f i j l a m o p q s t u v w y z d0 d1 d2 d3 d4 (!a) d5 d6 d7 d8))
     )
noncomputable def J13_r21 (y : T13_r21s0) : Option N13_r21 := (D13_r21 y).ev some
theorem J13_r21_ok (y : T13_r21s0) : ∀ b, J13_r21 y = some b → regP Tryz.prog X CC 13 1 B13 21 y.st = some (E13_r21.out b) := by
  cases y; exact reg_ok (E := E13_r21) (fun x => by kernel_rfl)
inductive T13_c90s0 where
  | mk (a : Bool) (d : LV) (f i j : Int) (l m o : Nat) (p : Bool) (q s t u v w y z d0 d1 d2 d3 d4 d5 d6 : Int) (d7 d8 d9 : LV)
@[reducible] def T13_c90s0.st : T13_c90s0 → S
  | .mk a d f i j l m o p q s t u v w y z d0 d1 d2 d3 d4 d5 d6 d7 d8 d9 => S.mk (pT 0 :: U :: pT 1 :: pT 2 :: un 86 (vb a :: un 64 [])) [oF 2 [[lS 1 d, i64 f]], oF 32 [[i64 0, i64 0, hS 3 0, hS 4 0, hS 5 0, vb false, i64 0, i64 0, u8 0, u8 0, u8 0, u8 0, u8 0, u8 0, u8 0, u8 0, i64 0, i64 0, i64 0, i64 0, i64 0, hS 6 0, vb false, hS 7 0, u8 0, u8 0, u8 0, u8 0, i64 0, hS 8 0, hS 9 0, hS 10 0]], oF 32 [[i64 i, i64 j, hS 11 l, hS 12 m, hS 13 o, vb p, i64 q, i64 s, u8 t, u8 u, u8 v, u8 w, u8 y, u8 z, u8 d0, u8 d1, i64 d2, i64 d3, i64 d4, i64 d5, i64 d6, hS 14 0, vb false, hS 15 0, u8 0, u8 0, u8 0, u8 0, i64 0, hS 16 0, hS 17 0, hS 18 0]], oT 7 [], oT 7 [], oT 8 [], oT 10 [], oT 7 [], oT 1 [], oT 7 [], oT 7 [], oT 7 d7, oT 7 d8, oT 8 d9, oT 10 [], oT 7 [], oT 1 [], oT 7 [], oT 7 []]
inductive T13_c90e0 where
  | mk (a : LV) (d f i : Int) (j l m : Nat) (o : Bool) (p q s t u v w y z d0 d1 d2 d3 d4 d5 : Int) (d6 : Nat) (d7 d8 d9 f0 : LV)
inductive N13_c90 where
  | e0 (x : T13_c90e0)
@[reducible] def N13_c90.out : N13_c90 → VX × S
  | .e0 (.mk a d f i j l m o p q s t u v w y z d0 d1 d2 d3 d4 d5 d6 d7 d8 d9 f0) => (vN, S.mk (pT 0 :: U :: pT 1 :: pT 2 :: un 151 []) [oF 2 [[lS 1 a, i64 d]], oF 32 [[i64 0, i64 0, hS 3 0, hS 4 0, hS 5 0, vb false, i64 0, i64 0, u8 0, u8 0, u8 0, u8 0, u8 0, u8 0, u8 0, u8 0, i64 0, i64 0, i64 0, i64 0, i64 0, hS 6 0, vb false, hS 7 0, u8 0, u8 0, u8 0, u8 0, i64 0, hS 8 0, hS 9 0, hS 10 0]], oF 32 [[i64 f, i64 i, hS 11 j, hS 12 l, hS 13 m, vb o, i64 p, i64 q, u8 s, u8 t, u8 u, u8 v, u8 w, u8 y, u8 z, u8 d0, i64 d1, i64 d2, i64 d3, i64 d4, i64 d5, hS 14 d6, vb false, hS 15 0, u8 0, u8 0, u8 0, u8 0, i64 0, hS 16 0, hS 17 0, hS 18 0]], oT 7 [], oT 7 [], oT 8 [], oT 10 [], oT 7 [], oT 1 [], oT 7 [], oT 7 [], oT 7 d7, oT 7 d8, oT 8 d9, oT 10 f0, oT 7 [], oT 1 [], oT 7 [], oT 7 []])
abbrev E13_c90 : Ent (VX × S) := ⟨N13_c90, N13_c90.out, fun g => (∃ x, g (.e0 x)), fun g => ⟨fun h => match h with
  | ⟨_, h⟩ => ⟨_, h⟩, fun ⟨b, h⟩ => match b, h with
  | .e0 _, h => ⟨_, h⟩⟩⟩
noncomputable def D13_c90 : T13_c90s0 → PT N13_c90
  | .mk d9 a d f i j l m o p q s t u v w y z d0 d1 d2 d3 d4 d5 d6 d7 d8 =>
   .testB d9
    (fun h0 =>
    .ask E43 (F43_ok 5 a d) fun (r : A43) => match r with
    | .a0 f0 f1 f2 =>
     .ask E49 (F49_ok f1 f2) fun (r : A49) => match r with
     | .a0 f3 f4 f5 f6 f7 f8 =>
      .ask E43 (F43_ok 9 f7 f8) fun (r : A43) => match r with
      | .a0 f9 j0 j1 =>
       .ask E49 (F49_ok j0 j1) fun (r : A49) => match r with
       | .a0 j2 j3 j4 j5 j6 j7 =>
        .auto 1 <|
        .ret (.e0 (.mk j6 j7 f i j l m o p q s t u v w y z d0 d1 d2 d3 d4 d5 2 d6 d7 d8 ([[i64 f0, u8 f3, u8 f4, u8 f5, u8 f6, i64 1, i64 0, i64 0, i64 0, i64 0], [i64 (w64 (5 + f9)), u8 j2, u8 j3, u8 j4, u8 j5, i64 0, i64 0, i64 0, i64 0, i64 0]])))
    )
    (fun h0 =>
    .ret (.e0 (.mk a d f i j l m o p q s t u v w y z d0 d1 d2 d3 d4 d5 0 d6 d7 d8 ([])))
    )
noncomputable def J13_c90 (y : T13_c90s0) : Option N13_c90 := (D13_c90 y).ev some
theorem J13_c90_ok (y : T13_c90s0) : ∀ b, J13_c90 y = some b → condP Tryz.prog X CC 13 1 18446744073709551616 B13 90 y.st = some (E13_c90.out b) := by
  cases y; exact cond_ok (E := E13_c90) (L := notIn []) (fun x => by kernel_rfl)
inductive T13_0s0 where
  | mk (a : Int) (d : Bool) (f i : Int) (j : LV) (l m o : Int) (p : Nat) (q : LV)
inductive T13_0e0 where
  | mk (a : LV) (d f i : Int) (j : Nat) (l : LV)
inductive N13_0 where
  | s0 (x : T13_0s0)
  | e0 (x : T13_0e0)
@[reducible] def N13_0.out : N13_0 → VX × S
  | .s0 (.mk a d f i j l m o p q) => (vN, S.mk (pT 0 :: U :: pT 1 :: pT 2 :: i64 a :: vb d :: i64 f :: i64 i :: un 147 []) [oF 2 [[lS 1 j, i64 l]], oF 32 [[i64 0, i64 0, hS 3 0, hS 4 0, hS 5 0, vb false, i64 0, i64 0, u8 0, u8 0, u8 0, u8 0, u8 0, u8 0, u8 0, u8 0, i64 0, i64 0, i64 0, i64 0, i64 0, hS 6 0, vb false, hS 7 0, u8 0, u8 0, u8 0, u8 0, i64 0, hS 8 0, hS 9 0, hS 10 0]], oF 32 [[i64 m, i64 o, hS 11 0, hS 12 0, hS 13 p, vb false, i64 0, i64 0, u8 0, u8 0, u8 0, u8 0, u8 0, u8 0, u8 0, u8 0, i64 0, i64 0, i64 0, i64 0, i64 0, hS 14 0, vb false, hS 15 0, u8 0, u8 0, u8 0, u8 0, i64 0, hS 16 0, hS 17 0, hS 18 0]], oT 7 [], oT 7 [], oT 8 [], oT 10 [], oT 7 [], oT 1 [], oT 7 [], oT 7 [], oT 7 [], oT 7 [], oT 8 q, oT 10 [], oT 7 [], oT 1 [], oT 7 [], oT 7 []])
  | .e0 (.mk s t u v w y) => (vX 0, S.mk (pT 0 :: U :: pT 1 :: pT 2 :: un 151 []) [oF 2 [[lS 1 s, i64 t]], oF 32 [[i64 0, i64 0, hS 3 0, hS 4 0, hS 5 0, vb false, i64 0, i64 0, u8 0, u8 0, u8 0, u8 0, u8 0, u8 0, u8 0, u8 0, i64 0, i64 0, i64 0, i64 0, i64 0, hS 6 0, vb false, hS 7 0, u8 0, u8 0, u8 0, u8 0, i64 0, hS 8 0, hS 9 0, hS 10 0]], oF 32 [[i64 u, i64 v, hS 11 0, hS 12 0, hS 13 w, vb false, i64 0, i64 0, u8 0, u8 0, u8 0, u8 0, u8 0, u8 0, u8 0, u8 0, i64 0, i64 0, i64 0, i64 0, i64 0, hS 14 0, vb false, hS 15 0, u8 0, u8 0, u8 0, u8 0, i64 0, hS 16 0, hS 17 0, hS 18 0]], oT 7 [], oT 7 [], oT 8 [], oT 10 [], oT 7 [], oT 1 [], oT 7 [], oT 7 [], oT 7 [], oT 7 [], oT 8 y, oT 10 [], oT 7 [], oT 1 [], oT 7 [], oT 7 []])
abbrev E13_0 : Ent (VX × S) := ⟨N13_0, N13_0.out, fun g => (∃ x, g (.s0 x)) ∨ (∃ x, g (.e0 x)), fun g => ⟨fun h => match h with
  | .inl ⟨_, h⟩ => ⟨_, h⟩
  | .inr (⟨_, h⟩) => ⟨_, h⟩, fun ⟨b, h⟩ => match b, h with
  | .s0 _, h => .inl ⟨_, h⟩
  | .e0 _, h => .inr (⟨_, h⟩)⟩⟩
noncomputable def D13_0 : T13_0s0 → PT N13_0
  | .mk f i j l m o p q a d =>
   .test (l > 0)
    (fun h0 =>
    .ask E44 (F44_ok f i m o) fun (r : A44) => match r with
    | .a0 u s v w t =>
     .auto 1 <|
     .ask E45 (F45_ok v w) fun (r : A45) => match r with
     | .a0 y z d0 d1 d2 d3 d4 =>
      .auto 4 <|
      .test (0 + s ≤ List.length t)
       (fun h1 =>
       .auto 1 <|
       .test (0 + a ≤ List.length d ∧ (a + 1) * 80 ≤ 140737488355328 ∧ a + 1 ≤ 140737488355328)
        (fun h2 =>
        .auto 1 <|
        .ask E43 (F43_ok 6 d3 d4) fun (r : A43) => match r with
        | .a0 d5 d6 d7 =>
         .ret (.s0 (.mk f i (w64 (w64 (j + 1) + d5)) (w64 (l - 1)) d6 d7 p q (a + 1) (List.take a d ++ [[i64 j, vb u, lS 2 (List.take s t), i64 y, i64 z, i64 d0, i64 d1, i64 d2]])))
        )
        (fun _ => .fail)
       )
       (fun _ => .fail)
    )
    (fun h0 =>
    .ret (.e0 (.mk m o p q a d))
    )
noncomputable def S13_0 : N13_0 → PT N13_0
  | .s0 x => D13_0 x
  | _ => .fail
def N13_0.off : N13_0 → Bool
  | .s0 _ => false
  | _ => true
noncomputable def L13_0 (n : Nat) (b : N13_0) : Option N13_0 := PT.loop S13_0 N13_0.off n b
theorem L13_0_ok : ∀ (n : Nat) (b : N13_0), N13_0.off b = false → ∀ c, L13_0 n b = some c → loopP Tryz.prog X CC 13 1 18446744073709551616 B13 0 n (E13_0.out b).2 = some (E13_0.out c) :=
  loop_ok (E := E13_0) (step := S13_0) (L := notIn []) (fun b hb => by cases b <;> first | (cases hb; done) | (rename_i x; cases x; intro x; kernel_rfl) | (intro x; kernel_rfl)) (fun b => by cases b <;> rfl)
noncomputable def N13_0.nx (n : Nat) (c : N13_0) : Option N13_0 := match N13_0.off c with
  | true => some c
  | false => L13_0 n c
theorem L13_0_s0 (n : Nat) (x : T13_0s0) : L13_0 (n + 1) (.s0 x) = (D13_0 x).ev (N13_0.nx n) := rfl
theorem N13_0.nx_s0 (n : Nat) (x : T13_0s0) : N13_0.nx n (.s0 x) = L13_0 n (.s0 x) := rfl
theorem N13_0.nx_e0 (n : Nat) (x : T13_0e0) : N13_0.nx n (.e0 x) = some (.e0 x) := rfl
inductive T13_c22s0 where
  | mk (a : Bool) (d : LV) (f i j : Int)
@[reducible] def T13_c22s0.st : T13_c22s0 → S
  | .mk a d f i j => S.mk (pT 0 :: U :: pT 1 :: pT 2 :: un 18 (vb a :: un 132 [])) [oF 2 [[lS 1 d, i64 f]], oF 32 [[i64 0, i64 0, hS 3 0, hS 4 0, hS 5 0, vb false, i64 0, i64 0, u8 0, u8 0, u8 0, u8 0, u8 0, u8 0, u8 0, u8 0, i64 0, i64 0, i64 0, i64 0, i64 0, hS 6 0, vb false, hS 7 0, u8 0, u8 0, u8 0, u8 0, i64 0, hS 8 0, hS 9 0, hS 10 0]], oF 32 [[i64 i, i64 j, hS 11 0, hS 12 0, hS 13 0, vb false, i64 0, i64 0, u8 0, u8 0, u8 0, u8 0, u8 0, u8 0, u8 0, u8 0, i64 0, i64 0, i64 0, i64 0, i64 0, hS 14 0, vb false, hS 15 0, u8 0, u8 0, u8 0, u8 0, i64 0, hS 16 0, hS 17 0, hS 18 0]], oT 7 [], oT 7 [], oT 8 [], oT 10 [], oT 7 [], oT 1 [], oT 7 [], oT 7 [], oT 7 [], oT 7 [], oT 8 [], oT 10 [], oT 7 [], oT 1 [], oT 7 [], oT 7 []]
inductive T13_c22e0 where
  | mk (a : LV) (d f i : Int) (j l m : Nat) (o p q : LV)
inductive N13_c22 where
  | e0 (x : T13_c22e0)
@[reducible] def N13_c22.out : N13_c22 → VX × S
  | .e0 (.mk a d f i j l m o p q) => (vN, S.mk (pT 0 :: U :: pT 1 :: pT 2 :: un 151 []) [oF 2 [[lS 1 a, i64 d]], oF 32 [[i64 0, i64 0, hS 3 0, hS 4 0, hS 5 0, vb false, i64 0, i64 0, u8 0, u8 0, u8 0, u8 0, u8 0, u8 0, u8 0, u8 0, i64 0, i64 0, i64 0, i64 0, i64 0, hS 6 0, vb false, hS 7 0, u8 0, u8 0, u8 0, u8 0, i64 0, hS 8 0, hS 9 0, hS 10 0]], oF 32 [[i64 f, i64 i, hS 11 j, hS 12 l, hS 13 m, vb false, i64 0, i64 0, u8 0, u8 0, u8 0, u8 0, u8 0, u8 0, u8 0, u8 0, i64 0, i64 0, i64 0, i64 0, i64 0, hS 14 0, vb false, hS 15 0, u8 0, u8 0, u8 0, u8 0, i64 0, hS 16 0, hS 17 0, hS 18 0]], oT 7 [], oT 7 [], oT 8 [], oT 10 [], oT 7 [], oT 1 [], oT 7 [], oT 7 [], oT 7 o, oT 7 p, oT 8 q, oT 10 [], oT 7 [], oT 1 [], oT 7 [], oT 7 []])
abbrev E13_c22 : Ent (VX × S) := ⟨N13_c22, N13_c22.out, fun g => (∃ x, g (.e0 x)), fun g => ⟨fun h => match h with
  | ⟨_, h⟩ => ⟨_, h⟩, fun ⟨b, h⟩ => match b, h with
  | .e0 _, h => ⟨_, h⟩⟩⟩
noncomputable def D13_c22 : T13_c22s0 → PT N13_c22
  | .mk p f i j l =>
   .testB p
    (fun h0 =>
    .ask E43 (F43_ok 3 f i) fun (r : A43) => match r with
    | .a0 q s t =>
     .ask E43 (F43_ok 2 s t) fun (r : A43) => match r with
     | .a0 u v w =>
      .ask E43 (F43_ok 4 v w) fun (r : A43) => match r with
      | .a0 y z d0 =>
       .ask E43 (F43_ok 3 z d0) fun (r : A43) => match r with
       | .a0 d1 d2 d3 =>
        .cut E13_0 (L13_0_ok 18446744073709551616 (.s0 (.mk (w64 (1 + q)) (u == 0) y (w64 (1 + d1)) d2 d3 j l 0 ([]))) rfl) fun (r : N13_0) => match r with
        | .e0 (.mk d4 d5 d6 d7 d8 d9) =>
         .ret (.e0 (.mk d4 d5 d6 d7 0 0 d8 ([]) ([]) d9))
        | _ => .fail
    )
    (fun h0 =>
    .ask E46 (F46_ok 1 14 f i) fun (r : A46) => match r with
    | .a0 a f0 f1 m =>
     .ask E47 (F47_ok 1 14 f0 f1) fun (r : A47) => match r with
     | .a0 f2 f3 f4 =>
      .auto 1 <|
      .test (0 + a ≤ List.length m ∧ (a + 1) * 56 ≤ 140737488355328 ∧ a + 1 ≤ 140737488355328)
       (fun h1 =>
       .auto 1 <|
       .ask E46 (F46_ok 1 14 f3 f4) fun (r : A46) => match r with
       | .a0 d f5 f6 o =>
        .ask E47 (F47_ok 1 14 f5 f6) fun (r : A47) => match r with
        | .a0 f7 f8 f9 =>
         .auto 1 <|
         .test (0 + d ≤ List.length o ∧ (d + 1) * 56 ≤ 140737488355328 ∧ d + 1 ≤ 140737488355328)
          (fun h2 =>
          .auto 1 <|
          .ret (.e0 (.mk f8 f9 j l (a + 1) (d + 1) 0 (List.take a m ++ [[i64 60, i64 f2, i64 0, i64 0, i64 0, i64 0, i64 0]]) (List.take d o ++ [[i64 60, i64 f7, i64 0, i64 0, i64 0, i64 0, i64 0]]) ([])))
          )
          (fun _ => .fail)
       )
       (fun _ => .fail)
    )
noncomputable def J13_c22 (y : T13_c22s0) : Option N13_c22 := (D13_c22 y).ev some
theorem J13_c22_ok (y : T13_c22s0) : ∀ b, J13_c22 y = some b → condP Tryz.prog X CC 13 1 18446744073709551616 B13 22 y.st = some (E13_c22.out b) := by
  cases y; exact cond_ok (E := E13_c22) (L := notIn []) (fun x => by kernel_rfl)
inductive T13_c15s0 where
  | mk (a : Bool) (d : LV) (f i : Int)
@[reducible] def T13_c15s0.st : T13_c15s0 → S
  | .mk a d f i => S.mk (pT 0 :: U :: pT 1 :: pT 2 :: un 11 (vb a :: un 139 [])) [oF 2 [[lS 1 d, i64 f]], oF 32 [[i64 0, i64 0, hS 3 0, hS 4 0, hS 5 0, vb false, i64 0, i64 0, u8 0, u8 0, u8 0, u8 0, u8 0, u8 0, u8 0, u8 0, i64 0, i64 0, i64 0, i64 0, i64 0, hS 6 0, vb false, hS 7 0, u8 0, u8 0, u8 0, u8 0, i64 0, hS 8 0, hS 9 0, hS 10 0]], oF 32 [[i64 i, i64 0, hS 11 0, hS 12 0, hS 13 0, vb false, i64 0, i64 0, u8 0, u8 0, u8 0, u8 0, u8 0, u8 0, u8 0, u8 0, i64 0, i64 0, i64 0, i64 0, i64 0, hS 14 0, vb false, hS 15 0, u8 0, u8 0, u8 0, u8 0, i64 0, hS 16 0, hS 17 0, hS 18 0]], oT 7 [], oT 7 [], oT 8 [], oT 10 [], oT 7 [], oT 1 [], oT 7 [], oT 7 [], oT 7 [], oT 7 [], oT 8 [], oT 10 [], oT 7 [], oT 1 [], oT 7 [], oT 7 []]
inductive T13_c15e0 where
  | mk (a : LV) (d f i : Int)
inductive N13_c15 where
  | e0 (x : T13_c15e0)
@[reducible] def N13_c15.out : N13_c15 → VX × S
  | .e0 (.mk a d f i) => (vN, S.mk (pT 0 :: U :: pT 1 :: pT 2 :: un 151 []) [oF 2 [[lS 1 a, i64 d]], oF 32 [[i64 0, i64 0, hS 3 0, hS 4 0, hS 5 0, vb false, i64 0, i64 0, u8 0, u8 0, u8 0, u8 0, u8 0, u8 0, u8 0, u8 0, i64 0, i64 0, i64 0, i64 0, i64 0, hS 6 0, vb false, hS 7 0, u8 0, u8 0, u8 0, u8 0, i64 0, hS 8 0, hS 9 0, hS 10 0]], oF 32 [[i64 f, i64 i, hS 11 0, hS 12 0, hS 13 0, vb false, i64 0, i64 0, u8 0, u8 0, u8 0, u8 0, u8 0, u8 0, u8 0, u8 0, i64 0, i64 0, i64 0, i64 0, i64 0, hS 14 0, vb false, hS 15 0, u8 0, u8 0, u8 0, u8 0, i64 0, hS 16 0, hS 17 0, hS 18 0]], oT 7 [], oT 7 [], oT 8 [], oT 10 [], oT 7 [], oT 1 [], oT 7 [], oT 7 [], oT 7 [], oT 7 [], oT 8 [], oT 10 [], oT 7 [], oT 1 [], oT 7 [], oT 7 []])
abbrev E13_c15 : Ent (VX × S) := ⟨N13_c15, N13_c15.out, fun g => (∃ x, g (.e0 x)), fun g => ⟨fun h => match h with
  | ⟨_, h⟩ => ⟨_, h⟩, fun ⟨b, h⟩ => match b, h with
  | .e0 _, h => ⟨_, h⟩⟩⟩
noncomputable def D13_c15 : T13_c15s0 → PT N13_c15
  | .mk i a d f =>
   .testB i
    (fun h0 =>
    .ask E43 (F43_ok 5 a d) fun (r : A43) => match r with
    | .a0 j l m =>
     .auto 1 <|
     .ret (.e0 (.mk l m f (w64 (2 + j))))
    )
    (fun h0 =>
    .ret (.e0 (.mk a d f 0))
    )
noncomputable def J13_c15 (y : T13_c15s0) : Option N13_c15 := (D13_c15 y).ev some
theorem J13_c15_ok (y : T13_c15s0) : ∀ b, J13_c15 y = some b → condP Tryz.prog X CC 13 1 18446744073709551616 B13 15 y.st = some (E13_c15.out b) := by
  cases y; exact cond_ok (E := E13_c15) (L := notIn []) (fun x => by kernel_rfl)
noncomputable def D13 (o4 : LV) (o5 : Int) : PT A13 :=
  .ask E43 (F43_ok 4 o4 o5) fun (r : A43) => match r with
  | .a0 f o6 o7 =>
   .auto 2 <|
   .cut E13_c15 (J13_c15_ok (.mk (f == 2) o6 o7 f)) fun (r : N13_c15) => match r with
   | .e0 (.mk o8 o9 i p0) =>
    .auto 1 <|
    .cut E13_c22 (J13_c22_ok (.mk (i == 3) o8 o9 i p0)) fun (r : N13_c22) => match r with
    | .e0 (.mk p1 p2 p3 p4 p5 p6 p7 p8 p9 q0) =>
     .ask E43 (F43_ok 3 p1 p2) fun (r : A43) => match r with
     | .a0 q1 q2 q3 =>
      .auto 1 <|
      .ask E43 (F43_ok 2 q2 q3) fun (r : A43) => match r with
      | .a0 q4 q5 q6 =>
       .auto 1 <|
       .ask E48 (F48_ok q5 q6) fun (r : A48) => match r with
       | .a0 q7 q8 q9 t0 t1 t2 t3 t4 t5 t6 t7 t8 t9 v0 v1 v2 =>
        .auto 1 <|
        .ask E43 (F43_ok 3 v1 v2) fun (r : A43) => match r with
        | .a0 v3 v4 v5 =>
         .cut E13_c90 (J13_c90_ok (.mk (v3 == 0) v4 v5 p3 p4 p5 p6 p7 (decide (q1 > 0)) q4 q7 q8 q9 t0 t1 t2 t3 t4 t5 t6 t7 t8 t9 v0 p8 p9 q0)) fun (r : N13_c90) => match r with
         | .e0 (.mk v6 v7 v8 v9 y0 y1 y2 y3 y4 y5 y6 y7 y8 y9 z0 z1 z2 z3 z4 z5 z6 z7 z8 z9 d10 d11 d12 d13) =>
          .cut E13_r21 (J13_r21_ok (.mk v6 v7 v8 v9 y0 y1 y2 y3 y4 y5 y6 y7 y8 y9 z0 z1 z2 z3 z4 z5 z6 z7 z8 z9 d10 d11 d12 d13)) fun (r : N13_r21) => match r with
          | .e0 (.mk j l m o p q s t u v w y z d0 d1 d2 d3 d4 d5 d6 d7 d8 d9 f0 d f1 f2 f3 f4) =>
           .auto 1 <|
           .testB d
            (fun h0 =>
            .ask E46 (F46_ok 0 4 j l) fun (r : A46) => match r with
            | .a0 a d14 d15 f5 =>
             .ask E47 (F47_ok 1 4 d14 d15) fun (r : A47) => match r with
             | .a0 d16 d17 d18 =>
              .auto 1 <|
              .test (0 + a ≤ List.length f5 ∧ (a + 1) * 56 ≤ 140737488355328 ∧ a + 1 ≤ 140737488355328)
               (fun h1 =>
               .auto 1 <|
               .ask E49 (F49_ok d17 d18) fun (r : A49) => match r with
               | .a0 d19 d20 d21 d22 d23 d24 =>
                .auto 1 <|
                .ask E43 (F43_ok 2 d23 d24) fun (r : A43) => match r with
                | .a0 d25 d26 d27 =>
                 .auto 1 <|
                 .ask E43 (F43_ok 4 d26 d27) fun (r : A43) => match r with
                 | .a0 d28 d29 d30 =>
                  .ask E43 (F43_ok 2 d29 d30) fun (r : A43) => match r with
                  | .a0 d31 d32 d33 =>
                   .cut E13_2 (L13_2_ok 18446744073709551616 (.s0 (.mk (w64 (d28 * d31)) d32 d33 m o p q s t u v w y z d0 d1 d2 d3 d4 d5 d6 d7 d8 d9 f0 d (a + 1) d19 d20 d21 d22 d25 0 f1 f2 f3 f4 (List.take a f5 ++ [[i64 60, i64 d16, i64 0, i64 0, i64 0, i64 0, i64 0]]) ([]))) rfl) fun (r : N13_2) => match r with
                   | .e0 (.mk d34 d35 f6 f7 f8 f9 j0 j1 j2 j3 j4 j5 j6 j7 j8 j9 l0 l1 l2 l3 l4 l5 l6 l7 l8 l9 m0 m1 m2 m3 m4 m5 m6 m7 m8 m9 o0 o1) =>
                    .ask E43 (F43_ok 2 d34 d35) fun (r : A43) => match r with
                    | .a0 d36 o2 o3 =>
                     .testB (d36 == 0)
                      (fun h2 =>
                      .ask E46 (F46_ok 0 1 o2 o3) fun (r : A46) => match r with
                      | .a0 d37 d38 d39 d40 =>
                       .ask E46 (F46_ok 0 1 d38 d39) fun (r : A46) => match r with
                       | .a0 d41 d42 d43 d44 =>
                        .auto 4 <|
                        .ret (.a0 f6 f7 f8 f9 j0 j1 j2 j3 j4 j5 j6 j7 j8 j9 l0 l1 l2 l3 l4 l5 l6 l7 l8 l9 m0 m1 m2 m3 m4 m5 d37 d41 d42 d43 m6 m7 m8 m9 o0 o1 d40 d44)
                      )
                      (fun h2 =>
                      .auto 2 <|
                      .ret (.a0 f6 f7 f8 f9 j0 j1 j2 j3 j4 j5 j6 j7 j8 j9 l0 l1 l2 l3 l4 l5 l6 l7 l8 l9 m0 m1 m2 m3 m4 m5 0 0 o2 o3 m6 m7 m8 m9 o0 o1 ([]) ([]))
                      )
                   | _ => .fail
               )
               (fun _ => .fail)
            )
            (fun h0 =>
            .auto 2 <|
            .ret (.a0 m o p q s t u v w y z d0 d1 d2 d3 d4 d5 d6 d7 d8 d9 f0 d 0 0 0 0 0 0 0 0 0 j l f1 f2 f3 f4 ([]) ([]) ([]) ([]))
            )
noncomputable def F13 (a : LV) (d : Int) : Option A13 := (D13 a d).ev some
theorem F13_ok (a : LV) (d : Int) : ∀ b, F13 a d = some b → UU 13 ([pT 0]) ([oF 2 [[lS 1 a, i64 d]]]) = some (A13.out b) :=
  fn_ok (E := E13) (L := notIn []) rfl rfl (fun x => by kernel_rfl)
end Go.Proofs.YtifalphladcdcaaGreat.H
